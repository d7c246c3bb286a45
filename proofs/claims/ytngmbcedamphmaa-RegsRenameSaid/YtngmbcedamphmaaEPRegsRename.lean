/-
 Used and Rename answer what the document says.
-/
import Derived.Test.YtngmbcedamphmaaEP13F
set_option linter.unusedSimpArgs false
set_option linter.unusedVariables false
set_option linter.unusedSectionVars false
namespace Go.Vm.G13
open Go
def pl (at_ : List Int) (r : Int) : Int := if r < 0 ∨ (at_.length : Int) ≤ r then r else at_.getD r.toNat 0
theorem ix_getD {v : List Int} {i : Int} (h0 : 0 ≤ i) (h1 : i < v.length) : ix v i = some (v.getD i.toNat 0) := by
 have h2 : i.toNat < v.length := by omega
 unfold Go.Vm.ix
 rw [if_pos h0, List.getD_eq_getElem?_getD, List.getElem?_eq_getElem h2]
 rfl
theorem place_is' (m : Tregs_Map) (r : Int) : regs_Map_place m r = some (pl m.at_ r) := by
 unfold regs_Map_place pl
 by_cases h : r < 0 ∨ (m.at_.length : Int) ≤ r
 ·rw [if_pos (by simpa using h), if_pos h]
 ·rw [if_neg (by simpa using h), if_neg h, ix_getD (by omega) (by omega)]
  rfl
theorem put_is' (a : List Int) (r : Int) : ref13_put a r = some (pl a r) := by
 unfold ref13_put pl
 by_cases h : r < 0 ∨ (a.length : Int) ≤ r
 ·rw [if_pos (by simpa using h), if_pos h]
 ·rw [if_neg (by simpa using h), if_neg h, ix_getD (by omega) (by omega)]
  rfl
def renI (a : List Int) (x : TIns) : TIns := ⟨x.op, pl a x.d, pl a x.a, pl a x.b, x.imm, x.args.map (pl a), x.what, x.volatile, x.final⟩
theorem rename_is (f : TFunc) (m : Tregs_Map) (h : f.code.length ≤ 1000) (ha : ∀ x ∈ f.code, x.args.length ≤ 1000) : regs_Rename f m = some ⟨f.name, f.params, w64 (10 + m.spill), f.code.map (renI m.at_)⟩ := by
 unfold regs_Rename regs_Rename_l1
 refine Ok.some_of (Ok.loop (B := fun s => regs_Rename_l1b f m s.1 s.2) (fun k s => s = ((f.code.take k).map (renI m.at_), (k : Int))) f.code.length (fun k s hk hs => ?_) (fun s hs => ?_) (by simp))
 ·subst hs
  show Ok (regs_Rename_l1b f m _ _) _
  unfold regs_Rename_l1b slices_Clone_2
  have hx := ha _ (List.getElem_mem hk)
  rw [if_pos (by simp; omega), ix_some hk]
  simp only [Option.bind_some]
  rw [place_is', place_is', place_is']
  simp only [Option.bind_some]
  rw [ap_some (by simp; omega)]
  simp only [Option.bind_some, List.nil_append]
  unfold regs_Rename_l2
  refine (Ok.loop (P := fun r => r = .inl ((f.code.take (k + 1)).map (renI m.at_), ((k + 1 : Nat) : Int))) (B := fun s => regs_Rename_l2b m ((f.code.take k).map (renI m.at_)) k f.code[k] (pl m.at_ f.code[k].d) (pl m.at_ f.code[k].a) (pl m.at_ f.code[k].b) f.code[k].args s.1 s.2) (fun i s => s = ((f.code[k].args.take i).map (pl m.at_) ++ f.code[k].args.drop i, (i : Int))) f.code[k].args.length (fun i s hi hs => ?_) (fun s hs => ?_) (by simp)).mono fun r hr => ?_
  ·subst hs
   show Ok (regs_Rename_l2b m _ _ _ _ _ _ _ _ _) _
   unfold regs_Rename_l2b
   have hl : ((f.code[k].args.take i).map (pl m.at_)).length = i := by simp; omega
   have hg : ((f.code[k].args.take i).map (pl m.at_) ++ f.code[k].args.drop i)[i]? = some f.code[k].args[i] := by
    rw [List.getElem?_append_right (by omega), hl, Nat.sub_self, List.getElem?_drop]; simp [hi]
   rw [if_pos (by simp; omega), ix_nat, hg]
   simp only [Option.bind_some]
   rw [place_is']
   simp only [Option.bind_some]
   refine .ret ?_
   show _ = _
   rw [w64_succ (by omega), Int.toNat_natCast]
   congr 1
   rw [List.set_append_right _ _ (by omega), hl, Nat.sub_self, List.take_add_one, List.getElem?_eq_getElem hi, List.map_append, List.append_assoc]
   congr 1
   rw [List.drop_eq_getElem_cons hi]
   rfl
  ·subst hs
   show Ok (regs_Rename_l2b m _ _ _ _ _ _ _ _ _) _
   unfold regs_Rename_l2b
   rw [if_neg (by simp), ap_some (by simp; omega)]
   simp only [Option.bind_some]
   refine .map (.ret ?_)
   rw [w64_succ (by omega), List.take_add_one, List.getElem?_eq_getElem hk]
   simp only [Option.toList_some, List.map_append, List.map_cons, List.map_nil, List.take_length, List.drop_length, List.append_nil]
   rfl
  ·rw [hr]; rfl
 ·subst hs
  show Ok (regs_Rename_l1b f m _ _) _
  unfold regs_Rename_l1b
  rw [if_neg (by simp)]
  refine .map (.ret ?_)
  simp
theorem code_is (f : TFunc) (a : List Int) (h : f.code.length ≤ 1000) (ha : ∀ x ∈ f.code, x.args.length ≤ 1000) : ref13_Code f a = some (f.code.map (renI a)) := by
 unfold ref13_Code ref13_Code_l1
 refine Ok.some_of (Ok.loop (B := fun s => ref13_Code_l1b f a s.1 s.2) (fun k s => s = ((f.code.take k).map (renI a), (k : Int))) f.code.length (fun k s hk hs => ?_) (fun s hs => ?_) (by simp))
 ·subst hs
  show Ok (ref13_Code_l1b f a _ _) _
  unfold ref13_Code_l1b
  have hx := ha _ (List.getElem_mem hk)
  rw [if_pos (by simp; omega), ix_some hk]
  simp only [Option.bind_some]
  rw [put_is', put_is', put_is']
  simp only [Option.bind_some]
  unfold ref13_Code_l2
  refine (Ok.loop (P := fun r => r = .inl ((f.code.take (k + 1)).map (renI a), ((k + 1 : Nat) : Int))) (B := fun s => ref13_Code_l2b a ((f.code.take k).map (renI a)) k f.code[k] (pl a f.code[k].d) (pl a f.code[k].a) (pl a f.code[k].b) s.1 s.2) (fun i s => s = ((f.code[k].args.take i).map (pl a), (i : Int))) f.code[k].args.length (fun i s hi hs => ?_) (fun s hs => ?_) (by simp)).mono fun r hr => ?_
  ·subst hs
   show Ok (ref13_Code_l2b a _ _ _ _ _ _ _ _) _
   unfold ref13_Code_l2b
   rw [if_pos (by simp; omega), ix_some hi]
   simp only [Option.bind_some]
   rw [put_is']
   simp only [Option.bind_some]
   rw [ap_some (by simp; omega)]
   simp only [Option.bind_some]
   refine .ret ?_
   show _ = _
   rw [w64_succ (by omega), List.take_add_one, List.getElem?_eq_getElem hi]
   simp only [Option.toList_some, List.map_append, List.map_cons, List.map_nil]
  ·subst hs
   show Ok (ref13_Code_l2b a _ _ _ _ _ _ _ _) _
   unfold ref13_Code_l2b
   rw [if_neg (by simp), ap_some (by simp; omega)]
   simp only [Option.bind_some]
   refine .map (.ret ?_)
   rw [w64_succ (by omega), List.take_add_one, List.getElem?_eq_getElem hk]
   simp only [Option.toList_some, List.map_append, List.map_cons, List.map_nil, List.take_length, List.drop_length, List.append_nil]
   rfl
  ·rw [hr]; rfl
 ·subst hs
  show Ok (ref13_Code_l1b f a _ _) _
  unfold ref13_Code_l1b
  rw [if_neg (by simp)]
  refine .map (.ret ?_)
  simp
theorem same_is (f : TFunc) (h : f.code.length ≤ 1000) (ha : ∀ x ∈ f.code, x.args.length ≤ 1000) : ref11_Same f f = some true := by
 unfold ref11_Same
 rw [if_neg (by simp)]
 unfold ref11_Same_l1
 refine Ok.some_of (loop_all f.code (by omega) (fun k x hk => ?_) ?_)
 ·have hk' := (List.getElem?_eq_some_iff.1 hk).1
  unfold ref11_Same_l1b
  rw [if_pos (by simp; omega), ix_nat, hk]
  simp only [Option.bind_some]
  rw [if_neg (by simp)]
  unfold ref11_Same_l2
  have hx := ha x (List.mem_of_getElem? hk)
  refine (loop_all (P := fun r => r = .inl (w64 ((k : Int) + 1))) x.args (by omega) (fun j y hj => ?_) ?_).mono fun r hr => ?_
  ·have hj' := (List.getElem?_eq_some_iff.1 hj).1
   unfold ref11_Same_l2b
   rw [if_pos (by simp; omega), ix_nat, hj]
   simp only [Option.bind_some]
   rw [if_neg (by simp)]
   exact .ret rfl
  ·unfold ref11_Same_l2b
   rw [if_neg (by simp)]
   exact .map (.ret rfl)
  ·rw [hr]; rfl
 ·unfold ref11_Same_l1b
  rw [if_neg (by simp)]
  exact .map (.ret rfl)
theorem contains2_is (xs : List Int) (v : Int) (h : xs.length ≤ 1000) : slices_Contains_2 xs v = some (decide (v ∈ xs)) := by
 have : Ok (slices_Contains_2 xs v) (fun b => b = true ↔ v ∈ xs) := by
  unfold slices_Contains_2 slices_Index_3 slices_Index_3_l1
  refine Ok.bind (P := fun p => 0 ≤ p ↔ v ∈ xs) ?_ (fun x hx => .ret (by simpa using hx))
  refine loop_for xs (fun k s => s = (k : Int) ∧ ∀ y ∈ xs.take k, v ≠ y) (fun k x s hk' hk hs => ?_) (fun s hs => ?_) ⟨rfl, by simp⟩
  ·obtain ⟨rfl, hs⟩ := hs
   unfold slices_Index_3_l1b
   rw [if_pos (by simp; omega), ix_nat, hk]
   simp only [Option.bind_some]
   refine .ite (fun hb => .map (.ret ?_)) (fun hb => .ret ⟨w64_succ (by omega), fun y hy => ?_⟩)
   ·have : v = x := by simpa using hb
    exact ⟨fun _ => this ▸ List.mem_of_getElem? hk, fun _ => by omega⟩
   ·rw [mem_take_succ hk'] at hy
    rcases hy with hy | rfl
    ·exact hs y hy
    ·rw [List.getElem?_eq_getElem hk'] at hk
     rw [Option.some.inj hk]; simpa using hb
  ·obtain ⟨rfl, hs⟩ := hs
   unfold slices_Index_3_l1b
   rw [if_neg (by simp)]
   rw [List.take_length] at hs
   exact .map (.ret ⟨fun h => by omega, fun h => (hs v h rfl).elim⟩)
 obtain ⟨b, h1, h2⟩ := this
 rw [h1]
 congr 1
 cases b with
 | true => exact (decide_eq_true (h2.1 rfl)).symm
 | false => exact (decide_eq_false fun e => by cases h2.2 e).symm
def usd (a : List Int) (n : Nat) : List Int := ((List.range n).map fun (k : Nat) => (k : Int)).filter fun r => decide (r ∈ a)
theorem usd_succ (a : List Int) (n : Nat) : usd a (n + 1) = usd a n ++ if (n : Int) ∈ a then [(n : Int)] else [] := by
 unfold usd
 rw [List.range_succ, List.map_append, List.filter_append]
 congr 1
 by_cases h : (n : Int) ∈ a <;> simp [h]
theorem usd_len (a : List Int) (n : Nat) : (usd a n).length ≤ n := by
 unfold usd
 exact Nat.le_trans (List.length_filter_le _ _) (by simp)
theorem used_is (m : Tregs_Map) (h : m.at_.length ≤ 1000) : regs_Map_Used m = some (usd m.at_ 10) := by
 unfold regs_Map_Used regs_Map_Used_l1
 refine Ok.some_of (Ok.loop (B := fun s => regs_Map_Used_l1b m s.1 s.2) (fun k s => s = (usd m.at_ k, (k : Int))) 10 (fun k s hk hs => ?_) (fun s hs => ?_) rfl)
 ·subst hs
  show Ok (regs_Map_Used_l1b m _ _) _
  unfold regs_Map_Used_l1b regs_Map_Used_k1
  rw [if_pos (by simp; omega), contains2_is _ _ h]
  simp only [Option.bind_some]
  have hl := usd_len m.at_ k
  refine .ite (fun hb => ?_) fun hb => .ret ?_
  ·rw [ap_some (by simp; omega)]
   simp only [Option.bind_some]
   refine .ret ?_
   show _ = _
   rw [w64_succ (by omega), usd_succ, if_pos (by simpa using hb)]
  ·show _ = _
   rw [w64_succ (by omega), usd_succ, if_neg (by simpa using hb), List.append_nil]
 ·subst hs
  show Ok (regs_Map_Used_l1b m _ _) _
  unfold regs_Map_Used_l1b
  rw [if_neg (by simp)]
  exact .map (.ret rfl)
theorem usd_at (a : List Int) (k : Nat) (h : (k : Int) ∈ a) : ∀ n, k < n → (usd a n)[(usd a k).length]? = some (k : Int)
 | 0, hn => by omega
 | n + 1, hn => by
  rw [usd_succ]
  by_cases e : k = n
  ·subst e
   rw [if_pos h, List.getElem?_append_right (Nat.le_refl _), Nat.sub_self]
   rfl
  ·have ih := usd_at a k h n (by omega)
   rw [List.getElem?_append_left (List.getElem?_eq_some_iff.1 ih).1]
   exact ih
theorem count_one (m : Tregs_Map) (h : m.at_.length ≤ 1000) (k : Nat) (hk : k < 10) : law13_RegsRename_l3 m (usd m.at_ 10) (usd m.at_ k).length k 0 = some (.inl (((usd m.at_ (k + 1)).length : Int), ((k + 1 : Nat) : Int))) := by
 unfold law13_RegsRename_l3
 have hl := usd_len m.at_ k
 refine Ok.some_of (loop_for m.at_ (fun i s => s = (i : Int) ∧ ∀ y ∈ m.at_.take i, y ≠ (k : Int)) (fun i x s hi' hi hs => ?_) (fun s hs => ?_) ⟨rfl, by simp⟩)
 ·obtain ⟨rfl, hs⟩ := hs
  unfold law13_RegsRename_l3b law13_RegsRename_k1
  rw [if_pos (by simp; omega), ix_nat, hi]
  simp only [Option.bind_some]
  refine .ite (fun hb => ?_) fun hb => .ret ⟨w64_succ (by omega), fun y hy => ?_⟩
  ·have hx : x = (k : Int) := by simpa using hb
   have hmem : (k : Int) ∈ m.at_ := hx ▸ List.mem_of_getElem? hi
   have hat := usd_at m.at_ k hmem 10 hk
   have hlt := (List.getElem?_eq_some_iff.1 hat).1
   rw [if_neg (by simp; omega), ix_nat, hat]
   simp only [Option.bind_some]
   rw [if_neg (by simp)]
   refine .map (.ret ?_)
   rw [w64_succ (by omega), w64_succ (by omega), usd_succ, if_pos hmem]
   simp
  ·rw [mem_take_succ hi'] at hy
   rcases hy with hy | rfl
   ·exact hs y hy
   ·rw [List.getElem?_eq_getElem hi'] at hi
    rw [Option.some.inj hi]; simpa using hb
 ·obtain ⟨rfl, hs⟩ := hs
  unfold law13_RegsRename_l3b law13_RegsRename_k1
  rw [if_neg (by simp)]
  rw [List.take_length] at hs
  refine .map (.ret ?_)
  rw [w64_succ (by omega), usd_succ, if_neg (fun e => hs _ e rfl)]
  simp
theorem law13_RegsRename_law (p0 : TFunc) (p1 : Tregs_Map) (o0 : OK_TFunc p0) (o1 : OK_Tregs_Map p1) : law13_RegsRename p0 p1 = some true := by
 unfold law13_RegsRename
 rw [alive_is]
 simp only [Option.bind_some]
 rw [if_neg (by decide)]
 refine Ok.some_of (.ite (fun _ => .ret rfl) fun hb => ?_)
 simp only [Bool.or_eq_false_iff, decide_eq_false_iff_not] at hb
 unfold law13_RegsRename_l1
 refine loop_for p0.code (fun k s => s = (k : Int) ∧ ∀ x ∈ p0.code.take k, x.args.length ≤ 40) (fun k x s hk' hk hs => ?_) (fun s hs => ?_) ⟨rfl, by simp⟩
 ·obtain ⟨rfl, hs⟩ := hs
  unfold law13_RegsRename_l1b
  rw [if_pos (by simp; omega), ix_nat, hk]
  simp only [Option.bind_some]
  refine .ite (fun _ => .map (.ret rfl)) fun hb => .ret ⟨w64_succ (by omega), fun y hy => ?_⟩
  rw [mem_take_succ hk'] at hy
  rcases hy with hy | rfl
  ·exact hs y hy
  ·rw [List.getElem?_eq_getElem hk'] at hk
   rw [Option.some.inj hk]
   simp at hb; omega
 ·obtain ⟨rfl, hs⟩ := hs
  unfold law13_RegsRename_l1b
  rw [if_neg (by simp)]
  rw [List.take_length] at hs
  have ha : ∀ x ∈ p0.code, x.args.length ≤ 1000 := fun x hx => by have := hs x hx; omega
  rw [rename_is p0 p1 (by omega) ha, code_is p0 p1.at_ (by omega) ha]
  simp only [Option.bind_some]
  rw [same_is _ (by simp; omega) (by simpa using fun x hx => by rw [show (renI p1.at_ x).args.length = x.args.length by simp [renI]]; exact ha x hx)]
  simp only [Option.bind_some]
  rw [if_neg (by decide), used_is p1 (by omega)]
  simp only [Option.bind_some]
  refine .map ?_
  unfold law13_RegsRename_l2
  refine Ok.loop (B := fun s => law13_RegsRename_l2b p1 (usd p1.at_ 10) s.1 s.2) (fun k s => s = (((usd p1.at_ k).length : Int), (k : Int))) 10 (fun k s hk hs => ?_) (fun s hs => ?_) rfl
  ·subst hs
   show Ok (law13_RegsRename_l2b p1 _ _ _) _
   unfold law13_RegsRename_l2b
   rw [if_pos (by simp; omega), count_one p1 (by omega) k hk]
   exact .ret rfl
  ·subst hs
   show Ok (law13_RegsRename_l2b p1 _ _ _) _
   unfold law13_RegsRename_l2b
   rw [if_neg (by simp)]
   exact .map (.ret (by simp))
end Go.Vm.G13
