/-
 A renamed function can be, and has the same operations and numbers.
-/
import Derived.Test.YtngmbcedamphmaaEPWH
set_option linter.unusedSimpArgs false
set_option linter.unusedVariables false
set_option linter.unusedSectionVars false
namespace Go.Vm.G13s
open Go
def pl (at_ : List Int) (r : Int) : Int := if r < 0 ∨ (at_.length : Int) ≤ r then r else at_.getD r.toNat 0
theorem place_is' (m : Tregs_Map) (r : Int) : regs_Map_place m r = some (pl m.at_ r) := by
 unfold regs_Map_place pl
 by_cases h : r < 0 ∨ (m.at_.length : Int) ≤ r
 ·rw [if_pos (by simpa using h), if_pos h]
 ·rw [if_neg (by simpa using h), if_neg h, ixD (by omega) (by omega)]
  rfl
def renI (a : List Int) (x : TIns) : TIns := ⟨x.op, pl a x.d, pl a x.a, pl a x.b, x.imm, x.args.map (pl a), x.what, x.volatile, x.final⟩
theorem rename_is (f : TFunc) (m : Tregs_Map) (h : f.code.length ≤ 1000) (ha : ∀ x ∈ f.code, x.args.length ≤ 17592186044000) : regs_Rename f m = some ⟨f.name, f.params, w64 (10 + m.spill), f.code.map (renI m.at_)⟩ := by
 unfold regs_Rename regs_Rename_l1
 refine Ok.some_of (Ok.loop (B := fun s => regs_Rename_l1b f m s.1 s.2) (fun k s => s = ((f.code.take k).map (renI m.at_), (k : Int))) f.code.length (fun k s hk hs => ?_) (fun s hs => ?_) (by simp))
 ·subst hs
  show Ok (regs_Rename_l1b f m _ _) _
  unfold regs_Rename_l1b slices_Clone_2
  have hx := ha _ (List.getElem_mem hk)
  rw [if_pos (by simp; omega), ix_some hk]
  simp only [Option.bind_some]
  rw [place_is', place_is', place_is']
  simp only [Option.bind_some]
  rw [apw_some (by simp; omega)]
  simp only [Option.bind_some, List.nil_append]
  unfold regs_Rename_l2
  refine (Ok.loop (P := fun r => r = .inl ((f.code.take (k + 1)).map (renI m.at_), ((k + 1 : Nat) : Int))) (B := fun s => regs_Rename_l2b m ((f.code.take k).map (renI m.at_)) k f.code[k] (pl m.at_ f.code[k].d) (pl m.at_ f.code[k].a) (pl m.at_ f.code[k].b) f.code[k].args s.1 s.2) (fun i s => s = ((f.code[k].args.take i).map (pl m.at_) ++ f.code[k].args.drop i, (i : Int))) f.code[k].args.length (fun i s hi hs => ?_) (fun s hs => ?_) (by simp)).mono fun r hr => ?_
  ·subst hs
   show Ok (regs_Rename_l2b m _ _ _ _ _ _ _ _ _) _
   unfold regs_Rename_l2b
   have hl : ((f.code[k].args.take i).map (pl m.at_)).length = i := by simp; omega
   have hg : ((f.code[k].args.take i).map (pl m.at_) ++ f.code[k].args.drop i)[i]? = some f.code[k].args[i] := by
    rw [List.getElem?_append_right (by omega), hl, Nat.sub_self, List.getElem?_drop]; simp [hi]
   rw [if_pos (by simp; omega), ix_nat, hg]
   simp only [Option.bind_some]
   rw [place_is']
   simp only [Option.bind_some]
   refine .ret ?_
   show _ = _
   rw [w64_succ (by omega), Int.toNat_natCast]
   congr 1
   rw [List.set_append_right _ _ (by omega), hl, Nat.sub_self, List.take_add_one, List.getElem?_eq_getElem hi, List.map_append, List.append_assoc]
   congr 1
   rw [List.drop_eq_getElem_cons hi]
   rfl
  ·subst hs
   show Ok (regs_Rename_l2b m _ _ _ _ _ _ _ _ _) _
   unfold regs_Rename_l2b
   rw [if_neg (by simp), ap_some (by simp; omega)]
   simp only [Option.bind_some]
   refine .map (.ret ?_)
   rw [w64_succ (by omega), List.take_add_one, List.getElem?_eq_getElem hk]
   simp only [Option.toList_some, List.map_append, List.map_cons, List.map_nil, List.take_length, List.drop_length, List.append_nil]
   rfl
  ·rw [hr]; rfl
 ·subst hs
  show Ok (regs_Rename_l1b f m _ _) _
  unfold regs_Rename_l1b
  rw [if_neg (by simp)]
  refine .map (.ret ?_)
  simp
section
variable {f : TFunc} {G : Int} {a : List Int} {x : TIns}
theorem reg_fwd {p q : Bool} {v R R' : Int} (h : ref08_register p q v R = some true) (h1 : pl a (-1) = -1) (h2 : 0 ≤ v → v < R → 0 ≤ pl a v ∧ pl a v < R') : ref08_register p q (pl a v) R' = some true := by
 unfold ref08_register at *
 cases p with
 | false =>
  simp at h ⊢
  rw [h]; exact h1
 | true =>
  simp at h ⊢
  rcases h with h | h
  ·exact .inl (h2 h.1 h.2)
  ·exact .inr ⟨h.1, by rw [h.2]; exact h1⟩
abbrev ren (f : TFunc) (G : Int) (a : List Int) : TFunc := ⟨f.name, f.params, G, f.code.map (renI a)⟩
theorem cnt_ren (c : List TIns) (i : Int) : cnt (c.map (renI a)) i = cnt c i := by
 unfold cnt
 rw [List.countP_map]
 rfl
noncomputable def fin (f : TFunc) (x : TIns) (t : Bool × Bool × Bool × Bool) : Option Bool :=
 if ((decide (x.op ≠ 9)) && (decide (x.op ≠ 10))) && (((decide (x.what ≠ 0)) || x.volatile) || x.final) then some false
 else if decide (x.op = 1) then ref08_ins_k2 f x t true
 else if decide (x.op = 9) then ref08_ins_k2 f x t true
 else if decide (x.op = 10) then ref08_ins_k2 f x t true
 else if decide (x.op = 14) then ref08_ins_k2 f x t true
 else ref08_ins_k2 f x t (decide (x.op = 21))
theorem fin_ren (hl : f.code.length ≤ 1000) (t : Bool × Bool × Bool × Bool) : fin (ren f G a) (renI a x) t = fin f x t := by
 have key : ∀ b, ref08_ins_k2 (ren f G a) (renI a x) t b = ref08_ins_k2 f x t b := fun b => by
  unfold ref08_ins_k2
  rw [count_is f _ hl, count_is (ren f G a) _ (by simpa using hl)]
  show (if b = true then _ else if decide (x.op = 16) = true then _ else if decide (x.op = 22) = true then _ else if t.2.2.2 = true then (some ((cnt (f.code.map (renI a)) x.imm : Nat) : Int)).bind _ else _) = _
  rw [cnt_ren]
  rfl
 unfold fin
 simp only [key]
 rfl
theorem l1_fin {t : Bool × Bool × Bool × Bool} (hx : x.args.length ≤ 9223372036854775807) (h : ref08_ins_l1 f x t 0 = some true) : fin f x t = some true ∧ ∀ y ∈ x.args, x.op = 14 ∧ 0 ≤ y ∧ y < f.regs := by
 have key : ∀ (k : Nat), k ≤ x.args.length → ref08_ins_l1 f x t k = some true → fin f x t = some true ∧ ∀ y ∈ x.args.drop k, x.op = 14 ∧ 0 ≤ y ∧ y < f.regs := by
  intro k
  generalize hd : x.args.length - k = d
  induction d generalizing k with
  | zero =>
   intro hk h
   have hkl : k = x.args.length := by omega
   subst hkl
   refine ⟨?_, fun y hy => by rw [List.drop_of_length_le (by omega)] at hy; cases hy⟩
   unfold ref08_ins_l1 at h
   rw [loopO_eq] at h
   obtain ⟨s, e1, h⟩ := bindS h
   unfold ref08_ins_l1b at e1
   rw [if_neg (by simp)] at e1
   obtain ⟨b, e2, rfl⟩ := Option.map_eq_some_iff.1 e1
   have : b = true := by simpa using h
   subst this
   exact e2
  | succ d ih =>
   intro hk h
   have hk' : k < x.args.length := by omega
   unfold ref08_ins_l1 at h
   rw [loopO_eq] at h
   obtain ⟨s, e1, h⟩ := bindS h
   unfold ref08_ins_l1b at e1
   rw [if_pos (by simp; omega), ix_some hk'] at e1
   simp only [Option.bind_some] at e1
   split at e1
   ·simp at e1; subst e1; cases h
   ·rename_i hc
    cases e1
    rw [w64_succ (by omega)] at h
    obtain ⟨h1, h2⟩ := ih (k + 1) (by omega) (by omega) h
    refine ⟨h1, fun y hy => ?_⟩
    rw [List.drop_eq_getElem_cons hk'] at hy
    rcases List.mem_cons.1 hy with rfl | hy
    ·simp at hc; omega
    ·exact h2 y hy
 obtain ⟨h1, h2⟩ := key 0 (Nat.zero_le _) h
 exact ⟨h1, fun y hy => h2 y (by simpa using hy)⟩
theorem l1_fwd {t : Bool × Bool × Bool × Bool} (hl : f.code.length ≤ 1000) (hx : x.args.length ≤ 9223372036854775807) (h : ref08_ins_l1 f x t 0 = some true) (h2 : ∀ y ∈ x.args, 0 ≤ pl a y ∧ pl a y < G) : ref08_ins_l1 (ren f G a) (renI a x) t 0 = some true := by
 obtain ⟨h3, h4⟩ := l1_fin hx h
 unfold ref08_ins_l1
 refine Ok.some_of (Ok.loop (B := fun s => ref08_ins_l1b (ren f G a) (renI a x) t s) (fun k s => s = (k : Int)) x.args.length (fun k s hk hs => ?_) (fun s hs => ?_) rfl)
 ·subst hs
  unfold ref08_ins_l1b
  have hk' : k < (x.args.map (pl a)).length := by simpa using hk
  rw [if_pos (by show decide ((k : Int) < ((x.args.map (pl a)).length : Int)) = true; simp; exact hk), show (renI a x).args = x.args.map (pl a) from rfl, ix_some hk', List.getElem_map]
  simp only [Option.bind_some]
  have h5 := (h4 _ (List.getElem_mem hk)).1
  have h6 := h2 _ (List.getElem_mem hk)
  rw [if_neg ?_]
  ·exact .ret (w64_succ (by omega))
  ·show ¬ ((((decide (x.op ≠ 14)) || (decide (pl a x.args[k] < 0))) || (decide (G ≤ pl a x.args[k]))) = true)
   simp
   omega
 ·subst hs
  unfold ref08_ins_l1b
  rw [if_neg (by show ¬ decide ((x.args.length : Int) < ((x.args.map (pl a)).length : Int)) = true; simp)]
  refine .map ?_
  show Ok (fin (ren f G a) (renI a x) t) _
  rw [fin_ren hl, h3]
  exact .ret rfl
theorem k1_fwd {t : Bool × Bool × Bool × Bool} {b : Bool} (hl : f.code.length ≤ 1000) (hx : x.args.length ≤ 9223372036854775807) (h1 : pl a (-1) = -1) (h2 : ∀ r, (us x r ∨ x.d = r) → 0 ≤ r → r < f.regs → 0 ≤ pl a r ∧ pl a r < G) (h : ref08_ins_k1 f x t b = some true) : ref08_ins_k1 (ren f G a) (renI a x) t b = some true := by
 have hl1 := (k1_inv h).2.2.2
 have hargs := l1_inv hx hl1
 unfold ref08_ins_k1 at h
 obtain ⟨r1, e1, h⟩ := bindS h
 obtain ⟨r2, e2, h⟩ := bindS h
 obtain ⟨r3, e3, h⟩ := bindS h
 cases r1
 ·simp at e2; subst e2; simp at e3; subst e3; simp at h
 ·simp only [Bool.not_true, Bool.false_eq_true, if_false] at e2
  obtain ⟨r4, e4, e2⟩ := bindS e2
  cases r4
  ·simp at e2; subst e2; simp at e3; subst e3; simp at h
  ·simp at e2; subst e2
   simp only [Bool.false_eq_true, if_false] at e3
   obtain ⟨r5, e5, e3⟩ := bindS e3
   cases r5
   ·simp at e3; subst e3; simp at h
   ·have g1 := reg_fwd (a := a) (R' := G) e1 h1 (h2 _ (.inr rfl))
    have g4 := reg_fwd (a := a) (R' := G) e4 h1 (h2 _ (.inl (.inl rfl)))
    have g5 := reg_fwd (a := a) (R' := G) e5 h1 (h2 _ (.inl (.inr (.inl rfl))))
    have gl := l1_fwd (a := a) (G := G) (t := t) hl hx hl1 (fun y hy => h2 y (.inl (.inr (.inr hy))) (hargs y hy).1 (hargs y hy).2)
    unfold ref08_ins_k1
    show (ref08_register t.1 (decide (x.op = 14)) (pl a x.d) G).bind _ = _
    rw [g1, Option.bind_some]
    show ((ref08_register b (((decide (x.op = 9)) || (decide (x.op = 10))) || (decide (x.op = 15))) (pl a x.a) G).bind _).bind _ = _
    rw [g4]
    show ((ref08_register t.2.2.1 false (pl a x.b) G).bind _).bind _ = _
    rw [g5]
    exact gl
theorem ins_fwd (hl : f.code.length ≤ 1000) (hx : x.args.length ≤ 9223372036854775807) (h1 : pl a (-1) = -1) (h2 : ∀ r, (us x r ∨ x.d = r) → 0 ≤ r → r < f.regs → 0 ≤ pl a r ∧ pl a r < G) (h : ref08_ins f x = some true) : ref08_ins (ren f G a) (renI a x) = some true := by
 unfold ref08_ins at *
 show (if (decide (x.op < 1)) || (decide (22 < x.op)) then some false else (ref08_has x.op).bind _) = _
 split at h
 ·cases h
 ·rename_i hc
  rw [if_neg hc]
  obtain ⟨t, ht, h⟩ := bindS h
  rw [ht, Option.bind_some]
  show (if decide (x.op = 21) then (if (decide (x.imm < 1)) || (decide (3 < x.imm)) then some false else ref08_ins_k1 (ren f G a) (renI a x) t (decide (x.imm = 3))) else ref08_ins_k1 (ren f G a) (renI a x) t t.2.1) = _
  split at h
  ·rename_i h21
   rw [if_pos h21]
   split at h
   ·cases h
   ·rename_i hc2
    rw [if_neg hc2]
    exact k1_fwd hl hx h1 h2 h
  ·rename_i h21
   rw [if_neg h21]
   exact k1_fwd hl hx h1 h2 h
theorem good_fwd (hl : f.code.length ≤ 1000) (hx : ∀ x ∈ f.code, x.args.length ≤ 9223372036854775807) (h1 : pl a (-1) = -1) (h2 : ∀ x ∈ f.code, ∀ r, (us x r ∨ x.d = r) → 0 ≤ r → r < f.regs → 0 ≤ pl a r ∧ pl a r < G) (hp : f.params ≤ G) (h : Good f) : Good (ren f G a) := by
 obtain ⟨⟨l, hl1, hl2⟩, h3, h4, h5⟩ := h
 refine ⟨⟨renI a l, by show (f.code.map (renI a)).getLast? = _; rw [List.getLast?_map, hl1]; rfl, hl2⟩, h3, hp, fun y hy => ?_⟩
 obtain ⟨x, hxm, rfl⟩ := List.mem_map.1 hy
 obtain ⟨h6, h7⟩ := h5 x hxm
 refine ⟨ins_fwd hl (hx x hxm) h1 (h2 x hxm) h6, fun e => ?_⟩
 show cnt (f.code.map (renI a)) x.imm = 1
 rw [cnt_ren]
 exact h7 e
end
theorem pl_used {f : TFunc} {R : Nat} (y : Hy f R) {m : Tregs_Map} (h : As f R m) {x : TIns} (hx : x ∈ f.code) {r : Int} (hu : us x r ∨ x.d = r) (h0 : 0 ≤ r) : 0 ≤ pl m.at_ r ∧ pl m.at_ r < 10 + m.spill := by
 obtain ⟨L, cur, s, g, hS, hI, rfl, hlR⟩ := h
 have hr := y.use hx h0 hu
 obtain ⟨q, hq⟩ := List.getElem?_of_mem hx
 have ht : Tc f f.code.length r q := .inr ⟨q, x, rfl, (List.getElem?_eq_some_iff.1 hq).1, hq, h0, .inr hu⟩
 obtain ⟨t, htm, e, _, _⟩ := g.full r q ht
 have := hI.done t (by rw [List.take_length]; exact htm)
 unfold pl
 have hl : (s.at_.length : Int) = R := by rw [hI.atl]
 rw [if_neg (by show ¬ (r < 0 ∨ (s.at_.length : Int) ≤ r); omega)]
 have e2 : s.pl t = s.at_.getD r.toNat 0 := by show s.at_.getD t.reg.toNat 0 = _; rw [e]
 rw [e2] at this
 exact this
theorem law13_RegsSame_law (f : TFunc) (o : OK_TFunc f) : law13_RegsSame f = some true := by
 obtain ⟨_, hpar, hrg, ⟨hcode, hclen⟩, _⟩ := o
 have hrb : reachBytes = 140737488351232 := rfl
 have hargs : ∀ x ∈ f.code, x.args.length ≤ 17592186044000 := fun x hx => by
  have := (hcode x hx).2.2.2.2.2.1.2
  omega
 unfold law13_RegsSame
 rw [alive_is]
 simp only [Option.bind_some]
 rw [if_neg (by decide)]
 refine Ok.some_of (Ok.bind (P := fun b => b = false → f.code.length ≤ 60 ∧ f.regs ≤ 40 ∧ Good f) (.ite (fun _ => .ret (by simp)) fun hb => ?_) fun b hb => .ite (fun _ => .ret rfl) fun hbf => ?_)
 ·simp at hb
  refine (good_is f (by omega) (fun x hx => by have := hargs x hx; omega)).bind fun g hg => .ret fun h => ⟨by omega, by omega, hg.1 (by simpa using h)⟩
 ·obtain ⟨h1, h2, hg⟩ := hb hbf
  have hp0 := hg.2.1
  have hp1 := hg.2.2.1
  obtain ⟨R, hR⟩ := Int.eq_ofNat_of_zero_le (Int.le_trans hp0 hp1)
  have y : Hy f R := ⟨h1, hR, by omega, hargs, hargs, hg⟩
  refine (Assign_is y).bind fun m hm => ?_
  have hsp : 0 ≤ m.spill ∧ m.spill ≤ 40 := by
   obtain ⟨L, cur, s, g, hS, hI, rfl, hlR⟩ := hm
   have := hI.spk
   show 0 ≤ (s.sp : Int) ∧ (s.sp : Int) ≤ 40
   omega
  have hlen : (m.at_.length : Int) = R := by
   obtain ⟨L, cur, s, g, hS, hI, rfl, hlR⟩ := hm
   show (s.at_.length : Int) = R
   rw [hI.atl]
  rw [rename_is f m (by omega) hargs, w64_id (by omega) (by omega)]
  simp only [Option.bind_some]
  refine Ok.bind (P := fun b => b = false) (.ite (fun hb => ?_) fun _ => ?_) fun b hb => .ite (fun hb2 => ?_) fun _ => ?_
  ·simp at hb
  ·refine (good_is (ren f (10 + m.spill) m.at_) (by simp; omega) (fun x hx => ?_)).bind fun b hb => .ret ?_
   ·obtain ⟨z, hz, rfl⟩ := List.mem_map.1 hx
    have := hargs z hz
    show (z.args.map (pl m.at_)).length ≤ _
    rw [List.length_map]; omega
   ·show ((!b) && (decide (f.params ≤ 10 + m.spill))) = false
    by_cases hp : f.params ≤ 10 + m.spill
    ·have := hb.2 (good_fwd (by omega) (fun x hx => by have := hargs x hx; omega) (by unfold pl; rw [if_pos (by omega)]) (fun x hx r hu h0 _ => pl_used y hm hx hu h0) hp hg)
     rw [this]; rfl
    ·simp [hp]
  ·rw [hb] at hb2; cases hb2
  ·unfold law13_RegsSame_l1
   refine loop_for (P := fun r => r = true) f.code (fun k s => s = (k : Int)) (fun k x s hk' hk hs => ?_) (fun s hs => ?_) rfl
   ·subst hs
    have hk2 : ix (f.code.map (renI m.at_)) (k : Int) = some (renI m.at_ x) := by rw [ix_nat, List.getElem?_map, hk]; rfl
    unfold law13_RegsSame_l1b law13_RegsSame_k1
    rw [if_pos (by simp; omega), ix_nat, hk, hk2]
    simp only [Option.bind_some]
    rw [if_neg (by show ¬ decide (x.op ≠ x.op) = true; simp)]
    rw [if_neg (by show ¬ decide (x.imm ≠ x.imm) = true; simp)]
    rw [if_neg (by show ¬ decide ((x.args.length : Int) ≠ ((x.args.map (pl m.at_)).length : Int)) = true; simp)]
    exact .ret (w64_succ (by omega))
   ·subst hs
    unfold law13_RegsSame_l1b
    rw [if_neg (by simp)]
    exact .map (.ret rfl)
end Go.Vm.G13s
