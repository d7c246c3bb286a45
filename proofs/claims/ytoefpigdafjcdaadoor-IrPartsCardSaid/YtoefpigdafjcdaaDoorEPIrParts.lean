/-
 A module with a function more.
-/
import Derived.Test.YtoefpigdafjcdaaDoorEP08t
set_option linter.unusedSimpArgs false
set_option linter.unusedVariables false
set_option linter.unusedSectionVars false
namespace Go.Vm.G08
open Go
structure Sm (f : TFunc) : Prop where
 len : f.code.length ≤ 60
 args : ∀ x ∈ f.code, x.args.length ≤ 20
theorem great_is (f : TFunc) (hl : f.code.length ≤ 9223372036854775807) : Ok (law08_great f) (fun b => b = false → Sm f) := by
 unfold law08_great law08_great_l1
 refine loop_for (B := fun s => law08_great_l1b f s) f.code (fun k s => s = (k : Int) ∧ ∀ x ∈ f.code.take k, x.args.length ≤ 20) (fun k x s hk' hk hs => ?_) (fun s hs => ?_) ⟨rfl, by simp⟩
 ·obtain ⟨rfl, hs⟩ := hs
  unfold law08_great_l1b
  rw [if_pos (by simp; omega), ix_nat, hk]
  simp only [Option.bind_some]
  refine .ite (fun _ => .map (.ret (fun h => by cases h))) fun hb => .ret ⟨w64_succ (by omega), fun y hy => ?_⟩
  rw [mem_take_succ hk'] at hy
  rcases hy with hy | rfl
  ·exact hs y hy
  ·rw [List.getElem?_eq_getElem hk'] at hk
   have e := Option.some.inj hk
   rw [e]
   simp at hb
   omega
 ·obtain ⟨rfl, hs⟩ := hs
  rw [List.take_length] at hs
  unfold law08_great_l1b
  rw [if_neg (by simp)]
  refine .map (.ret fun h => ?_)
  simp at h
  exact ⟨by omega, hs⟩
theorem labels_tot (f : TFunc) (hl : f.code.length ≤ 60) : Ok (ir_Labels f) (fun l => l.length ≤ 60) := by
 unfold ir_Labels ir_Labels_l1
 refine (loop_for (P := fun l : List Int => l.length ≤ 60) (B := fun s => ir_Labels_l1b f s.1 s.2) f.code (fun k s => s.2 = (k : Int) ∧ s.1.length ≤ k) (fun k x s hk' hk hs => ?_) (fun s hs => ?_) ⟨rfl, by simp⟩)
 ·obtain ⟨l, i⟩ := s
  obtain ⟨h1, h2⟩ := hs
  simp only at h1 h2
  subst h1
  show Ok (ir_Labels_l1b f l k) _
  unfold ir_Labels_l1b ir_Labels_k1
  rw [if_pos (by simp; omega), ix_nat, hk]
  simp only [Option.bind_some]
  refine .ite (fun _ => ?_) fun _ => .ret ⟨w64_succ (by omega), by show l.length ≤ k + 1; omega⟩
  rw [ap_some (by simp; omega)]
  exact .ret ⟨w64_succ (by omega), by simp; omega⟩
 ·obtain ⟨l, i⟩ := s
  obtain ⟨h1, h2⟩ := hs
  simp only at h1 h2
  subst h1
  show Ok (ir_Labels_l1b f l f.code.length) _
  unfold ir_Labels_l1b
  rw [if_neg (by simp)]
  exact .map (.ret (show l.length ≤ 60 by omega))
theorem index_tot (l : List Int) (x : Int) (h : l.length ≤ 60) : Ok (slices_Index l x) (fun _ => True) := by
 unfold slices_Index slices_Index_l1
 refine loop_all l (by omega) (fun k y hk => ?_) ?_
 ·have hk' := (List.getElem?_eq_some_iff.1 hk).1
  unfold slices_Index_l1b
  rw [if_pos (by simp; omega), ix_nat, hk]
  simp only [Option.bind_some]
  exact .ite (fun _ => .map (.ret trivial)) fun _ => .ret rfl
 ·unfold slices_Index_l1b
  rw [if_neg (by simp)]
  exact .map (.ret trivial)
theorem args_tot (l : List Int) (f : TFunc) (h : l.length ≤ 20) : Ok (slices_ContainsFunc_2 l f) (fun _ => True) := by
 unfold slices_ContainsFunc_2 slices_IndexFunc_2 slices_IndexFunc_2_l1
 refine Ok.bind (P := fun _ => True) (loop_all l (by omega) (fun k y hk => ?_) ?_) fun _ _ => .ret trivial
 ·have hk' := (List.getElem?_eq_some_iff.1 hk).1
  unfold slices_IndexFunc_2_l1b ir_good_c1
  rw [if_pos (by simp; omega), ix_nat, hk]
  simp only [Option.bind_some]
  exact .ite (fun _ => .map (.ret trivial)) fun _ => .ret rfl
 ·unfold slices_IndexFunc_2_l1b
  rw [if_neg (by simp)]
  exact .map (.ret trivial)
theorem shape_tot (op : Int) : Ok (ir_shape op) (fun _ => True) := by
 have h3 : ∀ b, Ok (ir_shape_k3 b) (fun _ => True) := fun b => .ite (fun _ => .ret trivial) fun _ => .ret trivial
 have h2 : ∀ b, Ok (ir_shape_k2 op b) (fun _ => True) := fun b => .ite (fun _ => .ret trivial) fun _ => .ite (fun _ => .ret trivial) fun _ => .ite (fun _ => .ret trivial) fun _ => .ite (fun _ => .ret trivial) fun _ => .ite (fun _ => h3 _) fun _ => .ite (fun _ => h3 _) fun _ => .ite (fun _ => h3 _) fun _ => h3 _
 have h1 : ∀ b, Ok (ir_shape_k1 op b) (fun _ => True) := fun b => .ite (fun _ => .ret trivial) fun _ => .ite (fun _ => .ret trivial) fun _ => .ite (fun _ => .ret trivial) fun _ => .ite (fun _ => h2 _) fun _ => h2 _
 exact .ite (fun _ => .ret trivial) fun _ => .ite (fun _ => .ret trivial) fun _ => .ite (fun _ => h1 _) fun _ => .ite (fun _ => h1 _) fun _ => .ite (fun _ => h1 _) fun _ => .ite (fun _ => h1 _) fun _ => .ite (fun _ => h1 _) fun _ => h1 _
theorem reg_tot (a b : Bool) (c d : Int) : Ok (ir_reg a b c d) (fun _ => True) := .ite (fun _ => .ret trivial) fun _ => .ret trivial
theorem ins_tot (f : TFunc) (x : TIns) (l : List Int) (hx : x.args.length ≤ 20) (hl : l.length ≤ 60) : Ok (ir_good f x l) (fun _ => True) := by
 have hk : ∀ t b, Ok (ir_good_k1 f x l t b) (fun _ => True) := fun t b => by
  unfold ir_good_k1
  refine (reg_tot _ _ _ _).bind fun _ _ => ?_
  refine Ok.bind (P := fun _ => True) (.ite (fun _ => .ret trivial) fun _ => (reg_tot _ _ _ _).bind fun _ _ => .ret trivial) fun _ _ => ?_
  refine Ok.bind (P := fun _ => True) (.ite (fun _ => .ret trivial) fun _ => (reg_tot _ _ _ _).bind fun _ _ => .ret trivial) fun _ _ => ?_
  refine .ite (fun _ => .ret trivial) fun _ => ?_
  refine Ok.bind (P := fun _ => True) (.ite (fun _ => ?_) fun _ => .ret trivial) fun _ _ => .ite (fun _ => .ret trivial) fun _ => (args_tot _ _ hx).bind fun _ _ => .ret trivial
  unfold slices_Contains
  exact Ok.bind (P := fun _ => True) ((index_tot _ _ hl).bind fun _ _ => .ret trivial) fun _ _ => .ret trivial
 unfold ir_good
 refine Ok.bind (P := fun _ => True) (.ite (fun _ => .ret trivial) fun _ => ?_) fun _ _ => .ite (fun _ => .ret trivial) fun _ => (shape_tot _).bind fun _ _ => .ite (fun _ => hk _ _) fun _ => hk _ _
 unfold ir_bare
 exact .ret trivial
theorem good_tot {f : TFunc} (s : Sm f) : Ok (ir_Good f) (fun _ => True) := by
 have hl := s.len
 have hk : ∀ l b, l.length ≤ 60 → (b = false → 0 < f.code.length) → Ok (ir_Good_k1 f l b) (fun _ => True) := fun l b hll hb => by
  unfold ir_Good_k1
  refine .ite (fun _ => .ret trivial) fun hbf => ?_
  have h0 := hb hbf
  rw [w64_id (by omega) (by omega)]
  refine (Ok.ix (by omega) (by omega)).bind fun _ _ => .ite (fun _ => .ret trivial) fun _ => ?_
  unfold slices_ContainsFunc slices_IndexFunc slices_IndexFunc_l1
  refine Ok.bind (P := fun _ => True) (Ok.bind (P := fun _ => True) (loop_all f.code (by omega) (fun k y hk => ?_) ?_) fun _ _ => .ret trivial) fun _ _ => .ret trivial
  ·have hk' := (List.getElem?_eq_some_iff.1 hk).1
   unfold slices_IndexFunc_l1b ir_Good_c1
   rw [if_pos (by simp; omega), ix_nat, hk]
   simp only [Option.bind_some]
   exact Ok.bind (P := fun _ => True) ((ins_tot f y l (s.args y (List.mem_of_getElem? hk)) hll).bind fun _ _ => .ret trivial) fun _ _ => .ite (fun _ => .map (.ret trivial)) fun _ => .ret rfl
  ·unfold slices_IndexFunc_l1b
   rw [if_neg (by simp)]
   exact .map (.ret trivial)
 unfold ir_Good
 refine (labels_tot f hl).bind fun l hll => ?_
 unfold slices_Clone
 rw [ap_some (by simp; omega)]
 simp only [Option.bind_some, List.nil_append]
 unfold slices_Sort sortO
 rw [if_pos (by omega)]
 simp only [Option.bind_some]
 refine .ite (fun _ => hk _ _ hll (by simp)) fun _ => .ite (fun _ => hk _ _ hll (by simp)) fun _ => ?_
 unfold slices_Compact compactO
 rw [if_pos (by rw [List.length_mergeSort]; omega)]
 simp only [Option.bind_some]
 exact .ite (fun _ => hk _ _ hll (by simp)) fun _ => hk _ _ hll (fun h => by have := of_decide_eq_false h; omega)
def Thr (fs : List TFunc) (ts : List Int) : Prop := ∀ t ∈ ts, (0 ≤ t ∧ t < fs.length) ∧ ∀ g, fs[t.toNat]? = some g → g.params = 0
theorem c1_is (m : TModule) (t : Int) : Ok (ir_Whole_c1 t m) (fun b => b = false ↔ (0 ≤ t ∧ t < m.funcs.length) ∧ ∀ g, m.funcs[t.toNat]? = some g → g.params = 0) := by
 unfold ir_Whole_c1
 refine Ok.bind (P := fun b => b = false ↔ (0 ≤ t ∧ t < m.funcs.length) ∧ ∀ g, m.funcs[t.toNat]? = some g → g.params = 0) (.ite (fun hb => .ret ?_) fun hb => ?_) fun b hb => .ret hb
 ·simp at hb
  constructor
  ·intro h; cases h
  ·rintro ⟨h, _⟩; omega
 ·simp at hb
  refine (Ok.ix (by omega) (by omega)).bind fun g hg => .ret ?_
  rw [hg]
  constructor
  ·intro h
   exact ⟨by omega, fun g' e => by cases e; simpa using h⟩
  ·rintro ⟨_, h⟩
   simp [h g rfl]
theorem thr_is (m : TModule) (h : m.threads.length ≤ 20) : Ok (slices_ContainsFunc_3 m.threads m) (fun b => b = false ↔ Thr m.funcs m.threads) := by
 unfold slices_ContainsFunc_3 slices_IndexFunc_3 slices_IndexFunc_3_l1
 refine Ok.bind (P := fun i : Int => (i = -1 ∧ Thr m.funcs m.threads) ∨ (0 ≤ i ∧ ¬ Thr m.funcs m.threads)) (loop_for (B := fun s => slices_IndexFunc_3_l1b m.threads m s) m.threads (fun k s => s = (k : Int) ∧ Thr m.funcs (m.threads.take k)) (fun k t s hk' hk hs => ?_) (fun s hs => ?_) ⟨rfl, fun t ht => by simp at ht⟩) fun i hi => .ret ?_
 ·obtain ⟨rfl, hs⟩ := hs
  unfold slices_IndexFunc_3_l1b
  rw [if_pos (by simp; omega), ix_nat, hk]
  simp only [Option.bind_some]
  refine (c1_is m t).bind fun b hb => .ite (fun hbt => .map (.ret (.inr ⟨by omega, fun hT => ?_⟩))) fun hbf => .ret ⟨w64_succ (by omega), fun y hy => ?_⟩
  ·have := hb.2 (hT t (List.mem_of_getElem? hk))
   rw [hbt] at this; cases this
  ·rw [mem_take_succ hk'] at hy
   rcases hy with hy | rfl
   ·exact hs y hy
   ·rw [List.getElem?_eq_getElem hk'] at hk
    rw [Option.some.inj hk]
    exact hb.1 hbf
 ·obtain ⟨rfl, hs⟩ := hs
  rw [List.take_length] at hs
  unfold slices_IndexFunc_3_l1b
  rw [if_neg (by simp)]
  exact .map (.ret (.inl ⟨rfl, hs⟩))
 ·rcases hi with ⟨rfl, h⟩ | ⟨h1, h2⟩
  ·simp [h]
  ·simp [h1, h2]
theorem whole_is (m : TModule) (h1 : m.funcs.length ≤ 9) (h2 : m.threads.length ≤ 20) (hs : ∀ f ∈ m.funcs, Sm f ∧ ∀ x ∈ f.code, x.op ≠ 14) : Ok (ir_Whole m) (fun b => b = true ↔ (∀ f ∈ m.funcs, ir_Good f = some true) ∧ Thr m.funcs m.threads) := by
 unfold ir_Whole ir_Whole_l1
 refine loop_for (B := fun s => ir_Whole_l1b m s) m.funcs (fun k s => s = (k : Int) ∧ ∀ f ∈ m.funcs.take k, ir_Good f = some true) (fun k f s hk' hk hg => ?_) (fun s hg => ?_) ⟨rfl, by simp⟩
 ·obtain ⟨rfl, hg⟩ := hg
  have hf := hs f (List.mem_of_getElem? hk)
  obtain ⟨b, hb, _⟩ := good_tot hf.1
  unfold ir_Whole_l1b
  rw [if_pos (by simp; omega), ix_nat, hk]
  simp only [Option.bind_some]
  rw [hb]
  simp only [Option.bind_some]
  refine .ite (fun hbt => .map (.ret ?_)) fun hbf => ?_
  ·constructor
   ·intro h; cases h
   ·rintro ⟨h, _⟩
    have := h f (List.mem_of_getElem? hk)
    rw [hb] at this
    have := Option.some.inj this
    subst this
    cases hbt
  ·have hbe : b = true := by simpa using hbf
   subst hbe
   have hfl := hf.1.len
   unfold ir_Whole_l2
   refine loop_for (B := fun s => ir_Whole_l2b m k f s) f.code (fun j s => s = (j : Int)) (fun j x s hj' hj hs => ?_) (fun s hs => ?_) rfl
   ·subst hs
    unfold ir_Whole_l2b ir_Whole_k1
    have := hf.2 x (List.mem_of_getElem? hj)
    rw [if_pos (by simp; omega), ix_nat, hj]
    simp only [Option.bind_some]
    rw [if_neg (by simpa using this), if_neg (by decide)]
    exact .ret (w64_succ (by omega))
   ·subst hs
    unfold ir_Whole_l2b
    rw [if_neg (by simp)]
    refine .map (.ret ⟨w64_succ (by omega), fun y hy => ?_⟩)
    rw [mem_take_succ hk'] at hy
    rcases hy with hy | rfl
    ·exact hg y hy
    ·rw [List.getElem?_eq_getElem hk'] at hk
     rw [Option.some.inj hk]; exact hb
 ·obtain ⟨rfl, hg⟩ := hg
  rw [List.take_length] at hg
  unfold ir_Whole_l1b
  rw [if_neg (by simp)]
  refine .map ((thr_is m h2).bind fun b hb => .ret ?_)
  show ((!b) = true) ↔ _
  rw [show ((!b) = true) ↔ (b = false) by cases b <;> simp, hb]
  exact ⟨fun h => ⟨hg, h⟩, fun h => h.2⟩
theorem law08_IrParts_law (m : TModule) (f : TFunc) (o : OK_TModule m) (of : OK_TFunc f) : law08_IrParts m f = some true := by
 obtain ⟨⟨ofs, ofl⟩, _⟩ := o
 have hrb : reachBytes = 140737488351232 := rfl
 have hfl : ∀ g ∈ f :: m.funcs, g.code.length ≤ 9223372036854775807 := fun g hg => by
  have : OK_TFunc g := by
   rcases List.mem_cons.1 hg with rfl | hg
   ·exact of
   ·exact ofs g hg
  have := this.2.2.2.1.2
  omega
 unfold law08_IrParts
 rw [alive_is]
 simp only [Option.bind_some]
 rw [if_neg (by decide), apk_some (by simp; omega)]
 simp only [Option.bind_some]
 unfold law08_IrParts_l1
 refine Ok.some_of (loop_for (P := fun r => r = true) (B := fun s => law08_IrParts_l1b m f ([f] ++ m.funcs) s) ([f] ++ m.funcs) (fun k s => s = (k : Int) ∧ ∀ g ∈ ([f] ++ m.funcs).take k, Sm g ∧ ∀ x ∈ g.code, x.op ≠ 14) (fun k g s hk' hk hs => ?_) (fun s hs => ?_) ⟨rfl, by simp⟩)
 ·obtain ⟨rfl, hs⟩ := hs
  have hkl : ([f] ++ m.funcs).length ≤ 9223372036854775800 := by simp; omega
  have hgl := hfl g (List.mem_of_getElem? hk)
  unfold law08_IrParts_l1b
  rw [if_pos (by simp at hk' ⊢; omega), ix_nat, hk]
  simp only [Option.bind_some]
  refine (great_is g hgl).bind fun b hb => .ite (fun _ => .map (.ret rfl)) fun hbf => ?_
  have hsm := hb hbf
  have hl60 := hsm.len
  unfold law08_IrParts_l2
  refine loop_for (B := fun s => law08_IrParts_l2b k g s) g.code (fun j s => s = (j : Int) ∧ ∀ x ∈ g.code.take j, x.op ≠ 14) (fun j x s hj' hj hx => ?_) (fun s hx => ?_) ⟨rfl, by simp⟩
  ·obtain ⟨rfl, hx⟩ := hx
   unfold law08_IrParts_l2b
   rw [if_pos (by simp; omega), ix_nat, hj]
   simp only [Option.bind_some]
   refine .ite (fun _ => .map (.map (.ret rfl))) fun hb2 => .ret ⟨w64_succ (by omega), fun y hy => ?_⟩
   rw [mem_take_succ hj'] at hy
   rcases hy with hy | rfl
   ·exact hx y hy
   ·rw [List.getElem?_eq_getElem hj'] at hj
    rw [Option.some.inj hj]
    simpa using hb2
  ·obtain ⟨rfl, hx⟩ := hx
   rw [List.take_length] at hx
   unfold law08_IrParts_l2b
   rw [if_neg (by simp)]
   refine .map (.ret ⟨w64_succ (by omega), fun y hy => ?_⟩)
   rw [mem_take_succ hk'] at hy
   rcases hy with hy | rfl
   ·exact hs y hy
   ·rw [List.getElem?_eq_getElem hk'] at hk
    rw [Option.some.inj hk]
    exact ⟨hsm, hx⟩
 ·obtain ⟨rfl, hs⟩ := hs
  rw [List.take_length] at hs
  have hf := hs f (by simp)
  have hms : ∀ g ∈ m.funcs, Sm g ∧ ∀ x ∈ g.code, x.op ≠ 14 := fun g hg => hs g (by simp [hg])
  unfold law08_IrParts_l1b
  rw [if_neg (by simp)]
  refine .map (Ok.bind (P := fun b => b = false → (m.funcs.length ≤ 8 ∧ m.threads.length ≤ 20) ∧ (∀ g ∈ m.funcs, ir_Good g = some true) ∧ Thr m.funcs m.threads) (.ite (fun _ => .ret (by simp)) fun hb => ?_) fun b hb => .ite (fun _ => .ret rfl) fun hbf => ?_)
  ·simp at hb
   refine (whole_is m (by omega) (by omega) hms).bind fun b hb2 => .ret fun h => ⟨by omega, hb2.1 (by simpa using h)⟩
  ·obtain ⟨⟨h1, h2⟩, h3, h4⟩ := hb hbf
   rw [apk_some (by simp; omega)]
   simp only [Option.bind_some, List.nil_append]
   rw [ap_some (by simp; omega)]
   simp only [Option.bind_some]
   obtain ⟨b2, hb2, _⟩ := good_tot hf.1
   refine (whole_is ⟨m.funcs ++ [f], m.threads⟩ (by simp; omega) h2 (fun g hg => ?_)).bind fun b1 hb1 => ?_
   ·rcases List.mem_append.1 hg with hg | hg
    ·exact hms g hg
    ·rw [List.mem_singleton.1 hg]; exact hf
   ·rw [hb2]
    refine .ret ?_
    have hT : Thr (m.funcs ++ [f]) m.threads := fun t ht => by
     obtain ⟨h5, h6⟩ := h4 t ht
     refine ⟨by simp; omega, fun g hg => h6 g ?_⟩
     rw [List.getElem?_append_left (by omega)] at hg
     exact hg
    have hb1' : b1 = true ↔ ir_Good f = some true := by
     rw [hb1]
     constructor
     ·intro h; exact h.1 f (by simp)
     ·intro h
      refine ⟨fun g hg => ?_, hT⟩
      rcases List.mem_append.1 hg with hg | hg
      ·exact h3 g hg
      ·rw [List.mem_singleton.1 hg]; exact h
    rw [hb2] at hb1'
    cases b1 <;> cases b2 <;> simp at hb1' ⊢
end Go.Vm.G08
