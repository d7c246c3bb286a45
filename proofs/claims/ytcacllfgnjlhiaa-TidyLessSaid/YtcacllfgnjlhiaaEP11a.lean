/-
 A row of instructions tidied: what it computes, as a list.
-/
import Derived.Test.YtcacllfgnjlhiaaEP11F
set_option linter.unusedSimpArgs false
set_option linter.unusedVariables false
set_option linter.unusedSectionVars false
namespace Go.Vm.G11
open Go
def lk (k : Ttidy_facts) (r : Int) : Int := if ((mG k.same r).isSome && decide (0 ≤ r)) = true then (mG k.same r).getD 0 else r
theorem look_is (k : Ttidy_facts) (r : Int) : tidy_facts_look k r = some (lk k r) := by
 unfold tidy_facts_look lk
 split <;> rfl
def ren (k : Ttidy_facts) (x : TIns) : TIns := ⟨x.op, x.d, lk k x.a, lk k x.b, x.imm, x.args.map (lk k), x.what, x.volatile, x.final⟩
theorem renamed_is (k : Ttidy_facts) (x : TIns) (h : x.args.length ≤ 1000) : tidy_facts_renamed k x = some (ren k x) := by
 unfold tidy_facts_renamed slices_Clone_2
 rw [look_is, look_is]
 simp only [Option.bind_some]
 rw [ap_some (by simp; omega)]
 simp only [Option.bind_some, List.nil_append]
 unfold tidy_facts_renamed_l1
 refine (Ok.loop (B := fun s => tidy_facts_renamed_l1b k x (lk k x.a) (lk k x.b) x.args s.1 s.2) (P := fun r => r = ren k x) (fun i s => s = ((x.args.take i).map (lk k) ++ x.args.drop i, (i : Int))) x.args.length (fun i s hi hs => ?_) (fun s hs => ?_) (by simp)).some_of
 ·subst hs
  show Ok (tidy_facts_renamed_l1b k x _ _ _ _ _) _
  unfold tidy_facts_renamed_l1b
  have hl : ((x.args.take i).map (lk k)).length = i := by simp; omega
  have hg : ((x.args.take i).map (lk k) ++ x.args.drop i)[i]? = some x.args[i] := by
   rw [List.getElem?_append_right (by omega), hl, Nat.sub_self, List.getElem?_drop]; simp [hi]
  rw [if_pos (by simp; omega), ix_nat, hg]
  simp only [Option.bind_some]
  rw [look_is]
  simp only [Option.bind_some]
  refine .ret ?_
  show _ = _
  rw [w64_succ (by omega), Int.toNat_natCast]
  congr 1
  rw [List.set_append_right _ _ (by omega), hl, Nat.sub_self, List.take_add_one, List.getElem?_eq_getElem hi, List.map_append, List.append_assoc]
  congr 1
  rw [List.drop_eq_getElem_cons hi]
  rfl
 ·subst hs
  show Ok (tidy_facts_renamed_l1b k x _ _ _ _ _) _
  unfold tidy_facts_renamed_l1b
  rw [if_neg (by simp)]
  refine .map (.ret ?_)
  simp [ren]
theorem reckon_tot (op a b : Int) : Ok (tidy_reckon op a b) (fun r => (r.2 = true → (op = 3 ∧ r.1 = w64 (a + b)) ∨ (op = 4 ∧ r.1 = w64 (a - b)) ∨ (op = 5 ∧ r.1 = w64 (a * b)) ∨ (op = 7 ∧ r.1 = if a < b then 1 else 0) ∨ (op = 8 ∧ r.1 = if a = b then 1 else 0))) := by
 unfold tidy_reckon
 refine .ite (fun h => .ret fun _ => .inl ⟨by simpa using h, rfl⟩) fun _ => .ite (fun h => .ret fun _ => .inr (.inl ⟨by simpa using h, rfl⟩)) fun _ => .ite (fun h => .ret fun _ => .inr (.inr (.inl ⟨by simpa using h, rfl⟩))) fun _ => .ite (fun h => ?_) fun _ => .ite (fun h => ?_) fun _ => .ret (fun h => by cases h)
 ·unfold tidy_reckon_k1
  refine .ite (fun h2 => .ret fun _ => .inr (.inr (.inr (.inl ⟨by simpa using h, ?_⟩)))) (fun h2 => .ret fun _ => .inr (.inr (.inr (.inl ⟨by simpa using h, ?_⟩))))
  ·rw [if_pos (by simpa using h2)]
  ·rw [if_neg (by simpa using h2)]
 ·unfold tidy_reckon_k1
  refine .ite (fun h2 => .ret fun _ => .inr (.inr (.inr (.inr ⟨by simpa using h, ?_⟩)))) (fun h2 => .ret fun _ => .inr (.inr (.inr (.inr ⟨by simpa using h, ?_⟩))))
  ·rw [if_pos (by simpa using h2)]
  ·rw [if_neg (by simpa using h2)]
def con (d n : Int) : TIns := ⟨1, d, (-1), (-1), n, [], 0, false, false⟩
def jmpI (l : Int) : TIns := ⟨12, (-1), (-1), (-1), l, [], 0, false, false⟩
def FoldS (k : Ttidy_facts) (x y : TIns) : Prop :=
 y = x ∨ (x.op = 2 ∧ ∃ n, mG k.num x.a = some n ∧ y = con x.d n) ∨ (x.op = 13 ∧ mG k.num x.a = some 0 ∧ y = jmpI x.imm) ∨
 ∃ a b n, mG k.num x.a = some a ∧ mG k.num x.b = some b ∧ y = con x.d n ∧ ((x.op = 3 ∧ n = w64 (a + b)) ∨ (x.op = 4 ∧ n = w64 (a - b)) ∨ (x.op = 5 ∧ n = w64 (a * b)) ∨ (x.op = 7 ∧ n = if a < b then 1 else 0) ∨ (x.op = 8 ∧ n = if a = b then 1 else 0))
theorem isSome_getD {o : Option Int} (h : o.isSome = true) : o = some (o.getD 0) := by
 cases o with
 | none => cases h
 | some x => rfl
theorem fold_tot (k : Ttidy_facts) (x : TIns) : Ok (tidy_facts_fold k x) (FoldS k x) := by
 unfold tidy_facts_fold
 refine Ok.bind (P := fun b => b = true → x.op = 2 ∧ (mG k.num x.a).isSome = true) (.ite (fun h => ?_) fun _ => .ret (fun h => by cases h)) fun b hb => ?_
 ·simp only [Bool.and_eq_true, decide_eq_true_eq] at h
  unfold tidy_small
  simp only [Option.bind_some]
  exact .ret fun _ => h
 refine .ite (fun h => .ret ?_) fun _ => .ite (fun h => .ret ?_) fun _ => .ite (fun h => .ret (.inl rfl)) fun h3 => ?_
 ·exact .inr (.inl ⟨(hb h).1, _, isSome_getD (hb h).2, rfl⟩)
 ·simp only [Bool.and_eq_true, decide_eq_true_eq] at h
  refine .inr (.inr (.inl ⟨h.1.1, ?_, rfl⟩))
  have := isSome_getD h.1.2
  rw [h.2] at this
  exact this
 ·simp only [Bool.or_eq_false_iff, Bool.not_eq_false', decide_eq_false_iff_not] at h3
  refine (reckon_tot _ _ _).bind fun r hr => ?_
  refine Ok.bind (P := fun b => b = true → r.2 = true) (.ite (fun h => ?_) fun _ => .ret (fun h => by cases h)) fun b hb => ?_
  ·unfold tidy_small
   simp only [Option.bind_some]
   exact .ret fun _ => h
  exact .ite (fun h => .ret (.inr (.inr (.inr ⟨_, _, _, isSome_getD h3.1.2, isSome_getD h3.2, rfl, hr (hb h)⟩)))) fun _ => .ret (.inl rfl)
noncomputable def fld (k : Ttidy_facts) (x : TIns) : TIns := (tidy_facts_fold k x).getD x
theorem fold_is (k : Ttidy_facts) (x : TIns) : tidy_facts_fold k x = some (fld k x) ∧ FoldS k x (fld k x) := by
 obtain ⟨y, h1, h2⟩ := fold_tot k x
 have : fld k x = y := by unfold fld; rw [h1]; rfl
 exact ⟨by rw [this, h1], by rw [this]; exact h2⟩
def fgt (k : Ttidy_facts) (r : Int) : Ttidy_facts := ⟨mD k.num r, (mD k.same r).filter fun q => decide (q.2 ≠ r)⟩
def lrn (k : Ttidy_facts) (x : TIns) : Ttidy_facts :=
 if x.d < 0 then k else if x.op = 1 then ⟨mS (fgt k x.d).num x.d x.imm, (fgt k x.d).same⟩ else if x.op = 2 ∧ x.a ≠ x.d then ⟨(fgt k x.d).num, mS (fgt k x.d).same x.d x.a⟩ else fgt k x.d
def Nds (k : Ttidy_facts) : Prop := (k.same.map Prod.fst).Nodup
theorem learn_is (k : Ttidy_facts) (x : TIns) (h : Nds k) : tidy_facts_learn k x = some (lrn k x) := by
 unfold tidy_facts_learn lrn tidy_facts_forget forgetO
 by_cases h1 : x.d < 0
 ·simp [h1]
 ·rw [if_neg (by simpa using h1), if_neg h1, if_pos (show (k.same.map Prod.fst).Nodup from h)]
  simp only [Option.map_some, Option.bind_some]
  by_cases h2 : x.op = 1
  ·simp [h2, fgt]
  ·rw [if_neg (by simpa using h2), if_neg h2]
   by_cases h3 : x.op = 2 ∧ x.a ≠ x.d
   ·rw [if_pos (by simpa using h3), if_pos h3]; rfl
   ·rw [if_neg (by simpa using h3), if_neg h3]; rfl
theorem keys_mD {β : Type} (m : List (Int × β)) (r : Int) (h : (m.map Prod.fst).Nodup) : ((mD m r).map Prod.fst).Nodup := by
 unfold mD
 split
 ·exact ((List.eraseIdx_sublist _ _).map _).nodup h
 ·exact h
theorem keys_mS {β : Type} (m : List (Int × β)) (r : Int) (x : β) (h : (m.map Prod.fst).Nodup) : ((mS m r x).map Prod.fst).Nodup := by
 unfold mS
 split
 ·rename_i j hj
  unfold mI at hj
  rw [List.findIdx?_eq_some_iff_getElem] at hj
  obtain ⟨hj1, hj2, _⟩ := hj
  have : (m.set j (r, x)).map Prod.fst = m.map Prod.fst := by
   rw [List.map_set]
   apply List.ext_getElem?
   intro i
   rw [List.getElem?_set]
   split
   ·rename_i e
    subst e
    have hq : (m[j]).1 = r := by simpa using hj2
    rw [if_pos (by simpa using hj1), List.getElem?_map, List.getElem?_eq_getElem hj1]
    simp [hq]
   ·rfl
  rw [this]
  exact h
 ·rename_i hj
  unfold mI at hj
  rw [List.findIdx?_eq_none_iff] at hj
  rw [List.map_append, List.nodup_append]
  refine ⟨h, by simp, fun a ha b hb => ?_⟩
  obtain ⟨p, hp, rfl⟩ := List.mem_map.1 ha
  simp at hb
  subst hb
  simpa using hj p hp
theorem Nds.lrn {k : Ttidy_facts} (h : Nds k) (x : TIns) : Nds (lrn k x) := by
 have hf : Nds (fgt k x.d) := (List.filter_sublist.map _).nodup (keys_mD _ _ h)
 unfold G11.lrn
 split
 ·exact h
 ·split
  ·exact hf
  ·split
   ·exact keys_mS _ _ _ hf
   ·exact hf
def frs : Ttidy_facts := ⟨[], []⟩
noncomputable def chg (o : Ttidy_Options) (k : Ttidy_facts) (x : TIns) : TIns :=
 let y := if o.copy = true then ren k x else x
 if o.fold = true then fld k y else y
def at0 (k : Ttidy_facts) (x : TIns) : Ttidy_facts := if x.op = 11 then frs else k
noncomputable def rowL (o : Ttidy_Options) : Ttidy_facts → List TIns → List TIns
 | _, [] => []
 | k, x :: xs => chg o (at0 k x) x :: rowL o (lrn (at0 k x) (chg o (at0 k x) x)) xs
noncomputable def knows (o : Ttidy_Options) : Ttidy_facts → List TIns → Ttidy_facts
 | k, [] => k
 | k, x :: xs => knows o (lrn (at0 k x) (chg o (at0 k x) x)) xs
theorem rowL_len (o : Ttidy_Options) : ∀ (k : Ttidy_facts) (xs : List TIns), (rowL o k xs).length = xs.length
 | _, [] => rfl
 | k, x :: xs => by simp [rowL, rowL_len o _ xs]
theorem rowL_snoc (o : Ttidy_Options) : ∀ (k : Ttidy_facts) (xs : List TIns) (x : TIns), rowL o k (xs ++ [x]) = rowL o k xs ++ [chg o (at0 (knows o k xs) x) x] ∧ knows o k (xs ++ [x]) = lrn (at0 (knows o k xs) x) (chg o (at0 (knows o k xs) x) x)
 | k, [], x => ⟨rfl, rfl⟩
 | k, y :: xs, x => by
  have := rowL_snoc o (lrn (at0 k y) (chg o (at0 k y) y)) xs x
  exact ⟨by simp [rowL, knows, this.1], this.2⟩
theorem Nds.knows (o : Ttidy_Options) : ∀ {k : Ttidy_facts} (h : Nds k) (xs : List TIns), Nds (knows o k xs)
 | k, h, [] => h
 | k, h, x :: xs => by
  have h1 : Nds (at0 k x) := by unfold at0; split; exact List.nodup_nil; exact h
  exact Nds.knows o (h1.lrn _) xs
theorem k1_is (o : Ttidy_Options) (L : List TIns) (i : Nat) (x : TIns) (n s : List (Int × Int)) (hn : Nds ⟨n, s⟩) (hx : x.args.length ≤ 1000) (hi : i < L.length) (hl : L.length ≤ 1000) :
  tidy_row_k1 o L i x n s = some (.inl ((lrn ⟨n, s⟩ (chg o ⟨n, s⟩ x)).num, (lrn ⟨n, s⟩ (chg o ⟨n, s⟩ x)).same, L.set i (chg o ⟨n, s⟩ x), ((i + 1 : Nat) : Int))) := by
 have k3 : ∀ y : TIns, tidy_row_k3 L i n s y.op y.d y.a y.b y.imm y.args y.what y.volatile y.final = some (.inl ((lrn ⟨n, s⟩ y).num, (lrn ⟨n, s⟩ y).same, L.set i y, ((i + 1 : Nat) : Int))) := fun y => by
  unfold tidy_row_k3
  rw [learn_is _ _ hn]
  simp only [Option.bind_some]
  rw [ix_some hi]
  simp only [Option.bind_some]
  rw [w64_succ (by omega), Int.toNat_natCast]
 have k2 : ∀ y : TIns, tidy_row_k2 o L i n s y.op y.d y.a y.b y.imm y.args y.what y.volatile y.final = some (.inl ((lrn ⟨n, s⟩ (if o.fold = true then fld ⟨n, s⟩ y else y)).num, (lrn ⟨n, s⟩ (if o.fold = true then fld ⟨n, s⟩ y else y)).same, L.set i (if o.fold = true then fld ⟨n, s⟩ y else y), ((i + 1 : Nat) : Int))) := fun y => by
  unfold tidy_row_k2
  by_cases h : o.fold = true
  ·simp only [h, if_true]
   rw [(fold_is _ _).1]
   simp only [Option.bind_some]
   exact k3 _
  ·simp only [h]
   exact k3 y
 unfold tidy_row_k1 chg
 by_cases h : o.copy = true
 ·simp only [h, if_true]
  rw [renamed_is _ _ hx]
  simp only [Option.bind_some]
  exact k2 _
 ·simp only [h]
  exact k2 x
theorem row_is (f : TFunc) (o : Ttidy_Options) (h : f.code.length ≤ 1000) (ha : ∀ x ∈ f.code, x.args.length ≤ 1000) : tidy_row f o = some ⟨f.name, f.params, f.regs, rowL o frs f.code⟩ := by
 unfold tidy_row tidy_fresh slices_Clone
 simp only [Option.bind_some]
 rw [ap_some (by simp; omega)]
 simp only [Option.bind_some, List.nil_append]
 unfold tidy_row_l1
 refine (Ok.loop (B := fun s => tidy_row_l1b f o f.code s.1 s.2.1 s.2.2.1 s.2.2.2) (P := fun r => r = _) (fun i s => s = ((knows o frs (f.code.take i)).num, (knows o frs (f.code.take i)).same, rowL o frs (f.code.take i) ++ f.code.drop i, (i : Int))) f.code.length (fun i s hi hs => ?_) (fun s hs => ?_) (by simp [knows, rowL, frs])).some_of
 ·subst hs
  show Ok (tidy_row_l1b f o _ _ _ _ _) _
  unfold tidy_row_l1b
  have hl : (rowL o frs (f.code.take i)).length = i := by rw [rowL_len]; simp; omega
  have hg : (rowL o frs (f.code.take i) ++ f.code.drop i)[i]? = some f.code[i] := by
   rw [List.getElem?_append_right (by omega), hl, Nat.sub_self, List.getElem?_drop]; simp [hi]
  have hL : (rowL o frs (f.code.take i) ++ f.code.drop i).length = f.code.length := by rw [List.length_append, hl]; simp; omega
  have hst := rowL_snoc o frs (f.code.take i) f.code[i]
  have htk : f.code.take (i + 1) = f.code.take i ++ [f.code[i]] := by rw [List.take_add_one, List.getElem?_eq_getElem hi]; rfl
  rw [← htk] at hst
  have hset : ∀ y, (rowL o frs (f.code.take i) ++ f.code.drop i).set i y = rowL o frs (f.code.take i) ++ [y] ++ f.code.drop (i + 1) := fun y => by
   rw [List.set_append_right _ _ (by omega), hl, Nat.sub_self, List.drop_eq_getElem_cons hi, List.append_assoc]; rfl
  rw [if_pos (by simp; omega), ix_nat, hg]
  simp only [Option.bind_some]
  have hnk := Nds.knows o (k := frs) List.nodup_nil (f.code.take i)
  have hai := ha _ (List.getElem_mem hi)
  refine .ite (fun hb => ?_) (fun hb => ?_)
  ·have ho : f.code[i].op = 11 := by simpa using hb
   unfold tidy_fresh
   simp only [Option.bind_some]
   rw [k1_is o _ i _ [] [] List.nodup_nil hai (by omega) (by omega)]
   refine .ret ?_
   show _ = _
   have h0 : at0 (knows o frs (f.code.take i)) f.code[i] = frs := by unfold at0; rw [if_pos ho]
   rw [hst.1, hst.2, h0, hset]
   rfl
  ·have ho : f.code[i].op ≠ 11 := by simpa using hb
   rw [k1_is o _ i _ _ _ hnk hai (by omega) (by omega)]
   refine .ret ?_
   show _ = _
   have h0 : at0 (knows o frs (f.code.take i)) f.code[i] = knows o frs (f.code.take i) := by unfold at0; rw [if_neg ho]
   rw [hst.1, hst.2, h0, hset]
 ·subst hs
  show Ok (tidy_row_l1b f o _ _ _ _ _) _
  unfold tidy_row_l1b
  rw [if_neg (by simp)]
  refine .map (.ret ?_)
  simp
end Go.Vm.G11
