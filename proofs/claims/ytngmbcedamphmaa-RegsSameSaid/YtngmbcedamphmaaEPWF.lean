/-
 Plain laws, one behind the other.
-/
import Derived.Test.YtngmbcedamphmaaEPl1
import Derived.Test.YtngmbcedamphmaaEOG13s
import Derived.Test.YtngmbcedamphmaaEPWS
import Derived.Test.YtngmbcedamphmaaEPl2
set_option linter.unusedSimpArgs false
set_option linter.unusedVariables false
set_option linter.unusedSectionVars false
namespace Go.Vm.G13s
open Go
section
def lab (l : Int) (x : TIns) : Bool := (decide (x.op = 11)) && (decide (x.imm = l))
theorem place_ok (f : TFunc) (l : Int) (h : f.code.length ≤ 1000) : Ok (flow_place f l) (fun (p : Int) => (p = -1 ∧ ∀ x ∈ f.code, lab l x = false) ∨ ∃ (k : Nat) (x : TIns), p = (k : Int) ∧ f.code[k]? = some x ∧ lab l x = true ∧ ∀ y ∈ f.code.take k, lab l y = false) := by
 unfold flow_place slices_IndexFunc_3 slices_IndexFunc_3_l1
 refine Ok.bind (P := fun (p : Int) => (p = -1 ∧ ∀ x ∈ f.code, lab l x = false) ∨ ∃ (k : Nat) (x : TIns), p = (k : Int) ∧ f.code[k]? = some x ∧ lab l x = true ∧ ∀ y ∈ f.code.take k, lab l y = false) ?_ (fun x hx => .ret hx)
 refine loop_for f.code (fun k s => s = (k : Int) ∧ ∀ y ∈ f.code.take k, lab l y = false) (fun k x s hk' hk hs => ?_) (fun s hs => ?_) ⟨rfl, by simp⟩
 ·obtain ⟨rfl, hs⟩ := hs
  unfold slices_IndexFunc_3_l1b flow_place_c1
  rw [if_pos (by simp; omega), ix_nat, hk]
  simp only [Option.bind_some]
  refine .ite (fun hb => .map (.ret (.inr ⟨k, x, rfl, hk, hb, hs⟩))) (fun hb => .ret ⟨w64_succ (by omega), fun y hy => ?_⟩)
  rw [mem_take_succ hk'] at hy
  rcases hy with hy | rfl
  ·exact hs y hy
  ·rw [List.getElem?_eq_getElem hk'] at hk
   rw [Option.some.inj hk]; exact hb
 ·obtain ⟨rfl, hs⟩ := hs
  unfold slices_IndexFunc_3_l1b
  rw [if_neg (by simp)]
  rw [List.take_length] at hs
  exact .map (.ret (.inl ⟨rfl, hs⟩))
theorem contains_ok (xs : List Int) (v : Int) (h : xs.length ≤ 1000) : Ok (slices_Contains xs v) (fun b => b = true ↔ v ∈ xs) := by
 unfold slices_Contains slices_Index slices_Index_l1
 refine Ok.bind (P := fun p => 0 ≤ p ↔ v ∈ xs) ?_ (fun x hx => .ret (by simpa using hx))
 refine loop_for xs (fun k s => s = (k : Int) ∧ ∀ y ∈ xs.take k, v ≠ y) (fun k x s hk' hk hs => ?_) (fun s hs => ?_) ⟨rfl, by simp⟩
 ·obtain ⟨rfl, hs⟩ := hs
  unfold slices_Index_l1b
  rw [if_pos (by simp; omega), ix_nat, hk]
  simp only [Option.bind_some]
  refine .ite (fun hb => .map (.ret ?_)) (fun hb => .ret ⟨w64_succ (by omega), fun y hy => ?_⟩)
  ·have : v = x := by simpa using hb
   exact ⟨fun _ => this ▸ List.mem_of_getElem? hk, fun _ => by omega⟩
  ·rw [mem_take_succ hk'] at hy
   rcases hy with hy | rfl
   ·exact hs y hy
   ·rw [List.getElem?_eq_getElem hk'] at hk
    rw [Option.some.inj hk]; simpa using hb
 ·obtain ⟨rfl, hs⟩ := hs
  unfold slices_Index_l1b
  rw [if_neg (by simp)]
  rw [List.take_length] at hs
  exact .map (.ret ⟨fun h => by omega, fun h => (hs v h rfl).elim⟩)
def fall (f : TFunc) (k : Nat) (x : TIns) : Bool := (((decide (x.op ≠ 12)) && (decide (x.op ≠ 15))) && (decide (x.op ≠ 16))) && (decide (k + 1 < f.code.length))
def jmp (x : TIns) : Bool := ((decide (x.op = 12)) || (decide (x.op = 13))) || (decide (x.op = 17))
def fst (f : TFunc) (k : Nat) (x : TIns) : List Int := if fall f k x then [((k + 1 : Nat) : Int)] else []
theorem fst_len (f : TFunc) (k : Nat) (x : TIns) : (fst f k x).length ≤ 1 := by unfold fst; split <;> simp
theorem fst_lt (f : TFunc) (k : Nat) (x : TIns) : ∀ j ∈ fst f k x, 0 ≤ j ∧ j < f.code.length := by
 intro j hj
 unfold fst at hj
 split at hj
 ·rename_i h
  have : k + 1 < f.code.length := by unfold fall at h; simp at h; exact h.2
  rcases List.mem_singleton.1 hj with rfl
  omega
 ·cases hj
def NxS (f : TFunc) (k : Nat) (x : TIns) (l : List Int) : Prop :=
 l.length ≤ 2 ∧ (∀ j ∈ l, 0 ≤ j ∧ j < f.code.length) ∧
 ((jmp x = false ∧ l = fst f k x) ∨ (jmp x = true ∧ (∀ y ∈ f.code, lab x.imm y = false) ∧ l = fst f k x) ∨
 jmp x = true ∧ ∃ p y, f.code[p]? = some y ∧ lab x.imm y = true ∧ (∀ z ∈ f.code.take p, lab x.imm z = false) ∧ ((((p : Int) ∈ fst f k x) ∧ l = fst f k x) ∨ (((p : Int) ∉ fst f k x) ∧ l = fst f k x ++ [(p : Int)])))
theorem Next_ok (f : TFunc) (h : f.code.length ≤ 1000) (k : Nat) (x : TIns) (hk : f.code[k]? = some x) : Ok (flow_Next f k) (NxS f k x) := by
 have hk' := (List.getElem?_eq_some_iff.1 hk).1
 have hfl := fst_len f k x
 have hft := fst_lt f k x
 have key : Ok (flow_Next_k1 f x (fst f k x)) (NxS f k x) := by
  unfold flow_Next_k1 flow_Next_k2
  refine .ite (fun hj => ?_) (fun hj => .ret ⟨by omega, hft, .inl ⟨hj, rfl⟩⟩)
  refine (place_ok f x.imm h).bind fun p hp => ?_
  rcases hp with ⟨rfl, hn⟩ | ⟨q, y, rfl, hq, hy, hz⟩
  ·simp only [Bool.false_eq_true, if_false, Option.bind_some, show decide ((0 : Int) ≤ -1) = false from rfl]
   exact .ret ⟨by omega, hft, .inr (.inl ⟨hj, hn, rfl⟩)⟩
  ·have hq' := (List.getElem?_eq_some_iff.1 hq).1
   rw [if_pos (by simp)]
   refine Ok.bind (P := fun b => b = true ↔ (q : Int) ∉ fst f k x) ((contains_ok (fst f k x) q (by omega)).bind fun b hb => .ret (by cases b <;> simp_all)) fun b hb => ?_
   refine .ite (fun hb1 => ?_) (fun hb1 => .ret ⟨by omega, hft, .inr (.inr ⟨hj, q, y, hq, hy, hz, .inl ⟨?_, rfl⟩⟩)⟩)
   ·rw [apw_some (by simp; omega)]
    refine .ret ⟨by simp; omega, ?_, .inr (.inr ⟨hj, q, y, hq, hy, hz, .inr ⟨hb.1 hb1, rfl⟩⟩)⟩
    intro j hj
    rcases List.mem_append.1 hj with hj | hj
    ·exact hft j hj
    ·rcases List.mem_singleton.1 hj with rfl; omega
   ·rw [hb1] at hb
    simpa using hb
 unfold flow_Next
 rw [if_neg (by simp; omega), ix_nat, hk]
 simp only [Option.bind_some]
 rw [w64_succ (by omega)]
 rw [show decide (((k + 1 : Nat) : Int) < (f.code.length : Int)) = decide (k + 1 < f.code.length) from dec_lt]
 show Ok (if fall f k x = true then _ else _) _
 have e : fst f k x = if fall f k x then [((k + 1 : Nat) : Int)] else [] := rfl
 refine .ite (fun hb => ?_) (fun hb => ?_)
 ·rw [hb, if_pos rfl] at e
  rw [apw_some (by simp)]
  simp only [Option.bind_some, List.nil_append]
  rw [← e]; exact key
 ·rw [hb] at e
  rw [show ([] : List Int) = fst f k x from e.symm]; exact key
noncomputable def nx (f : TFunc) (k : Nat) : List Int := (flow_Next f k).getD []
section
variable {f : TFunc} {k : Nat} {x : TIns}
theorem Next_is (h : f.code.length ≤ 1000) (hk : f.code[k]? = some x) : flow_Next f k = some (nx f k) := by
 obtain ⟨r, hr, _⟩ := Next_ok f h k x hk
 unfold nx; rw [hr]; rfl
theorem nx_spec (h : f.code.length ≤ 1000) (hk : f.code[k]? = some x) : NxS f k x (nx f k) := (Next_ok f h k x hk).eq (Next_is h hk)
end
theorem Next_at (f : TFunc) (h : f.code.length ≤ 1000) (k : Nat) (hk : k < f.code.length) : flow_Next f k = some (nx f k) := Next_is h (List.getElem?_eq_getElem hk)
theorem nx_at (f : TFunc) (h : f.code.length ≤ 1000) (k : Nat) (hk : k < f.code.length) : (nx f k).length ≤ 2 ∧ ∀ j ∈ nx f k, 0 ≤ j ∧ j < f.code.length :=
 let s := nx_spec h (List.getElem?_eq_getElem hk); ⟨s.1, s.2.1⟩
def us (x : TIns) (r : Int) : Prop := x.a = r ∨ x.b = r ∨ r ∈ x.args
theorem Uses_ok (x : TIns) (ha : x.args.length ≤ 17592186044000) : Ok (ir_Uses x) (fun l => l.length ≤ 17592186044002 ∧ ∀ r, r ∈ l ↔ 0 ≤ r ∧ us x r) := by
 unfold ir_Uses
 rw [apw_some (by simp; omega)]
 simp only [Option.bind_some]
 unfold ir_Uses_l1
 refine loop_for ([x.a, x.b] ++ x.args) (fun k s => s.2 = (k : Int) ∧ s.1.length ≤ k ∧ ∀ r, r ∈ s.1 ↔ 0 ≤ r ∧ r ∈ ([x.a, x.b] ++ x.args).take k) (fun k y s hk' hk hs => ?_) (fun s hs => ?_) (by simp)
 ·obtain ⟨xs, i⟩ := s
  obtain ⟨rfl, hl, hs⟩ := hs
  show Ok (ir_Uses_l1b _ xs k) _
  unfold ir_Uses_l1b ir_Uses_k1
  have hk2 : ([x.a, x.b] ++ x.args).length ≤ 17592186044002 := by simp; omega
  rw [if_pos (by simp at *; omega), ix_nat, hk]
  simp only [Option.bind_some]
  rw [List.getElem?_eq_getElem hk'] at hk
  have hy := Option.some.inj hk
  have hl' : xs.length ≤ k := hl
  refine .ite (fun hb => ?_) (fun hb => .ret ⟨w64_succ (by omega), Nat.le_succ_of_le hl, fun r => ?_⟩)
  ·rw [apw_some (by simp; omega)]
   refine .ret ⟨w64_succ (by omega), by simp; omega, fun r => ?_⟩
   rw [mem_take_succ hk', hy]
   show r ∈ xs ++ [y] ↔ _
   rw [List.mem_append, hs r, List.mem_singleton]
   have : 0 ≤ y := by simpa using hb
   constructor
   ·rintro (h | rfl)
    ·exact ⟨h.1, .inl h.2⟩
    ·exact ⟨this, .inr rfl⟩
   ·rintro ⟨h1, h2 | h2⟩
    ·exact .inl ⟨h1, h2⟩
    ·exact .inr h2
  ·rw [mem_take_succ hk', hy]
   show r ∈ xs ↔ _
   rw [hs r]
   have : y < 0 := by simpa using hb
   constructor
   ·rintro h; exact ⟨h.1, .inl h.2⟩
   ·rintro ⟨h1, h2 | h2⟩
    ·exact ⟨h1, h2⟩
    ·omega
 ·obtain ⟨xs, i⟩ := s
  obtain ⟨rfl, hl, hs⟩ := hs
  show Ok (ir_Uses_l1b _ xs _) _
  unfold ir_Uses_l1b
  rw [if_neg (by simp)]
  rw [List.take_length] at hs
  refine .map (.ret ⟨by simp at hl; omega, fun r => ?_⟩)
  rw [hs r]
  unfold us
  simp only [List.cons_append, List.nil_append, List.mem_cons]
  constructor
  ·rintro ⟨h1, h2 | h2 | h2⟩
   ·exact ⟨h1, .inl h2.symm⟩
   ·exact ⟨h1, .inr (.inl h2.symm)⟩
   ·exact ⟨h1, .inr (.inr h2)⟩
  ·rintro ⟨h1, h2 | h2 | h2⟩
   ·exact ⟨h1, .inl h2.symm⟩
   ·exact ⟨h1, .inr (.inl h2.symm)⟩
   ·exact ⟨h1, .inr (.inr h2)⟩
theorem merge_is (R : Nat) (hR : R ≤ 1000) (g h : Nat → Bool) : Ok (flow_set_merge (tb R g) (tb R h)) (fun r => r.2 = tb R (fun k => g k || h k) ∧ (r.1 = true ↔ ∃ k, k < R ∧ h k = true ∧ g k = false)) := by
 unfold flow_set_merge flow_set_merge_l1
 refine loop_for (tb R h) (fun k s => s.2.2 = (k : Int) ∧ s.1 = tb R (fun j => if j < k then g j || h j else g j) ∧ (s.2.1 = true ↔ ∃ j, j < k ∧ h j = true ∧ g j = false)) (fun k y s hk' hk hs => ?_) (fun s hs => ?_) (by simp)
 ·obtain ⟨xs, b, i⟩ := s
  obtain ⟨h1, h2, h3⟩ := hs
  simp only at h1 h2 h3
  subst h1 h2
  rw [tb_len] at hk'
  show Ok (flow_set_merge_l1b _ _ b k) _
  unfold flow_set_merge_l1b
  rw [if_pos (by simp; omega), ix_tb hk', ix_tb hk']
  simp only [Option.bind_some, Nat.lt_irrefl, if_false, Int.toNat_natCast]
  refine Ok.bind (P := fun b' => b' = true ↔ ∃ j, j < k + 1 ∧ h j = true ∧ g j = false) ?_ (fun b' hb' => .ret ⟨w64_succ (by omega), ?_, hb'⟩)
  ·refine .ite (fun hb => .ret ?_) (fun hb => ?_)
   ·obtain ⟨j, h4, h5⟩ := h3.1 hb
    exact ⟨fun _ => ⟨j, by omega, h5⟩, fun _ => rfl⟩
   ·have hno : ¬ ∃ j, j < k ∧ h j = true ∧ g j = false := fun hex => by rw [h3.2 hex] at hb; cases hb
    refine Ok.bind (P := fun c => c = true ↔ h k = true ∧ g k = false) (.ite (fun hh => .ret ?_) (fun hh => .ret ?_)) (fun c hc => .ret ?_)
    ·rw [hh]; simp
    ·rw [hh]; simp
    ·constructor
     ·intro hct; exact ⟨k, by omega, hc.1 hct⟩
     ·rintro ⟨j, h4, h5⟩
      by_cases hjk : j = k
      ·subst hjk; exact hc.2 h5
      ·exact (hno ⟨j, by omega, h5⟩).elim
  ·show (tb R _).set k _ = _
   rw [tb_set]
   apply tb_ext
   intro j hj
   by_cases hjk : j = k
   ·subst hjk; simp
   ·simp only [hjk, if_false]
    by_cases h4 : j < k
    ·rw [if_pos h4, if_pos (by omega)]
    ·rw [if_neg h4, if_neg (by omega)]
 ·obtain ⟨xs, b, i⟩ := s
  obtain ⟨h1, h2, h3⟩ := hs
  simp only at h1 h2 h3
  rw [tb_len] at h1 h2 h3
  subst h1 h2
  show Ok (flow_set_merge_l1b _ _ b _) _
  unfold flow_set_merge_l1b
  rw [if_neg (by simp)]
  exact .map (.ret ⟨tb_ext (fun j hj => by rw [if_pos hj]), h3⟩)
open Classical in
noncomputable def stp (x : TIns) (g : Nat → Bool) (r : Nat) : Bool := decide (us x r) || (g r && decide (x.d ≠ (r : Int)))
theorem step_is (x : TIns) (ha : x.args.length ≤ 17592186044000) (R : Nat) (hR : R ≤ 1000) (g : Nat → Bool) : flow_step x (tb R g) = some (tb R (stp x g)) := by
 have key : ∀ (g' : Nat → Bool), (∀ r, r < R → g' r = (g r && decide (x.d ≠ (r : Int)))) → flow_step_k1 x (tb R g') = some (tb R (stp x g)) := by
  intro g' hg
  unfold flow_step_k1 flow_step_l1
  refine ((Uses_ok x ha).bind fun l hl => ?_).some_of
  classical
  refine loop_for l (fun k s => s.2 = (k : Int) ∧ s.1 = tb R (fun r => decide ((r : Int) ∈ l.take k) || g' r)) (fun k y s hk' hk hs => ?_) (fun s hs => ?_) ⟨rfl, tb_ext (by simp)⟩
  ·obtain ⟨xs, i⟩ := s
   obtain ⟨h1, h2⟩ := hs
   simp only at h1 h2
   subst h1 h2
   show Ok (flow_step_l1b l _ k) _
   unfold flow_step_l1b flow_step_k2
   rw [if_pos (by simp; omega), ix_nat, hk]
   simp only [Option.bind_some]
   have hy0 : 0 ≤ y := ((hl.2 y).1 (List.mem_of_getElem? hk)).1
   obtain ⟨q, rfl⟩ := Int.eq_ofNat_of_zero_le hy0
   have hyk : l[k] = (q : Int) := by rw [List.getElem?_eq_getElem hk'] at hk; exact Option.some.inj hk
   have hll := hl.1
   refine .ite (fun hb => ?_) (fun hb => .ret ⟨w64_succ (by omega), ?_⟩)
   ·have hq : q < R := by simp at hb; exact hb
    rw [ix_tb hq]
    simp only [Option.bind_some, Int.toNat_natCast]
    refine .ret ⟨w64_succ (by omega), ?_⟩
    show (tb R _).set q true = _
    rw [tb_set]
    apply tb_ext
    intro j hj
    by_cases hjq : j = q
    ·subst hjq
     have : (j : Int) ∈ l.take (k + 1) := by rw [mem_take_succ hk', hyk]; exact .inr rfl
     simp [this]
    ·have : (j : Int) ∈ l.take (k + 1) ↔ (j : Int) ∈ l.take k := by
      rw [mem_take_succ hk', hyk]
      constructor
      ·rintro (h | h)
       ·exact h
       ·omega
      ·exact .inl
     simp [this, hjq]
   ·have hq : ¬ q < R := by simp at hb; omega
    show tb R _ = _
    apply tb_ext
    intro j hj
    have : (j : Int) ∈ l.take (k + 1) ↔ (j : Int) ∈ l.take k := by
     rw [mem_take_succ hk', hyk]
     constructor
     ·rintro (h | h)
      ·exact h
      ·omega
     ·exact .inl
    simp [this]
  ·obtain ⟨xs, i⟩ := s
   obtain ⟨h1, h2⟩ := hs
   simp only at h1 h2
   subst h1 h2
   show Ok (flow_step_l1b l _ _) _
   unfold flow_step_l1b
   rw [if_neg (by simp), List.take_length]
   refine .map (.ret (tb_ext fun j hj => ?_))
   unfold stp
   rw [hg j hj]
   congr 1
   have := hl.2 (j : Int)
   simp only [decide_eq_decide]
   rw [this]
   constructor
   ·exact fun h => h.2
   ·exact fun h => ⟨by omega, h⟩
 unfold flow_step slices_Clone ir_Def
 rw [ap_some (by simp; omega)]
 simp only [Option.bind_some, List.nil_append, tb_len]
 by_cases hd : 0 ≤ x.d ∧ x.d < R
 ·obtain ⟨q, hq⟩ := Int.eq_ofNat_of_zero_le hd.1
  rw [hq]
  have hqR : q < R := by omega
  rw [if_pos (by simp; exact hqR), ix_tb hqR]
  simp only [Option.bind_some, Int.toNat_natCast]
  rw [tb_set]
  apply key
  intro r hr
  rw [hq]
  by_cases hrq : r = q
  ·subst hrq; simp
  ·have : ¬ (q : Int) = (r : Int) := by omega
   simp [hrq, this]
 ·rw [if_neg (by simpa using hd)]
  apply key
  intro r hr
  have : x.d ≠ (r : Int) := by omega
  simp [this]
end
section
inductive Nd (f : TFunc) (r : Int) : Nat → Prop
 | use (k : Nat) (x : TIns) (hk : f.code[k]? = some x) (hu : us x r) : Nd f r k
 | go (k : Nat) (x : TIns) (j : Nat) (hk : f.code[k]? = some x) (hd : x.d ≠ r) (hj : (j : Int) ∈ nx f k) (h : Nd f r j) : Nd f r k
abbrev tt (n R : Nat) (G : Nat → Nat → Bool) : List (List Bool) := tb n (fun i => tb R (G i))
section
variable (f : TFunc) (R : Nat)
noncomputable def outOf (G : Nat → Nat → Bool) (k : Nat) (r : Nat) : Bool := (nx f k).any (fun j => G j.toNat r)
noncomputable def newOf (G : Nat → Nat → Bool) (k : Nat) (x : TIns) : Nat → Bool := stp x (outOf f G k)
def Sound (G : Nat → Nat → Bool) : Prop := ∀ i r, i < f.code.length → r < R → G i r = true → Nd f r i
def ClosedAt (G : Nat → Nat → Bool) (i : Nat) : Prop := ∀ x r, f.code[i]? = some x → r < R → newOf f G i x r = true → G i r = true
theorem l4_is (h : f.code.length ≤ 1000) (hR : R ≤ 1000) (hreg : max f.regs 0 = (R : Int)) (hargs : ∀ x ∈ f.code, x.args.length ≤ 17592186044000) (G : Nat → Nat → Bool) (ch : Bool) (k : Nat) (x : TIns) (hk : f.code[k]? = some x) :
  Ok (flow_Live_l4 f (tb f.code.length (nx f)) (tt f.code.length R G) ch k (nx f k) (tb R (fun _ => false)) 0) (fun r => ∃ (b : Bool) (G2 : Nat → Nat → Bool), r = .inl (tt f.code.length R G2, (ch || b), (k : Int) - 1) ∧ (∀ r, G2 k r = (G k r || newOf f G k x r)) ∧ (∀ i, i ≠ k → G2 i = G i) ∧ (b = true ↔ ∃ r, r < R ∧ newOf f G k x r = true ∧ G k r = false)) := by
 have hk' := (List.getElem?_eq_some_iff.1 hk).1
 have hnx := nx_at f h k hk'
 unfold flow_Live_l4
 refine loop_for (nx f k) (fun m s => s.2 = (m : Int) ∧ s.1 = tb R (fun r => ((nx f k).take m).any (fun j => G j.toNat r))) (fun m y s hm' hm hs => ?_) (fun s hs => ?_) ⟨rfl, tb_ext (by simp)⟩
 ·obtain ⟨xs, i⟩ := s
  obtain ⟨h1, h2⟩ := hs
  simp only at h1 h2
  subst h1 h2
  show Ok (flow_Live_l4b _ _ _ _ _ _ _ m) _
  unfold flow_Live_l4b
  rw [if_pos (by simp; omega), ix_tb hk']
  simp only [Option.bind_some, ix_nat, hm]
  have hy := hnx.2 y (List.mem_of_getElem? hm)
  obtain ⟨q, rfl⟩ := Int.eq_ofNat_of_zero_le hy.1
  have hq : q < f.code.length := by omega
  rw [ix_tb hq]
  simp only [Option.bind_some]
  refine (merge_is R hR _ _).bind fun r hr => .ret ⟨w64_succ (by omega), ?_⟩
  show r.2 = _
  rw [hr.1]
  apply tb_ext
  intro j hj
  rw [List.take_add_one, hm, Option.toList_some, List.any_append]
  simp
 ·obtain ⟨xs, i⟩ := s
  obtain ⟨h1, h2⟩ := hs
  simp only at h1 h2
  subst h1 h2
  show Ok (flow_Live_l4b _ _ _ _ _ _ _ _) _
  unfold flow_Live_l4b
  rw [if_neg (by simp), ix_tb hk', ix_nat, hk]
  simp only [Option.bind_some, List.take_length]
  rw [step_is x (hargs x (List.mem_of_getElem? hk)) R hR]
  simp only [Option.bind_some]
  refine .map ((merge_is R hR _ _).bind fun r hr => ?_)
  unfold flow_Live_k1
  have hw : w64 ((k : Int) - 1) = (k : Int) - 1 := w64_id (by omega) (by omega)
  have hset : (tt f.code.length R G).set (Int.toNat k) r.2 = tt f.code.length R (fun i => if i = k then (fun r => G k r || newOf f G k x r) else G i) := by
   rw [hr.1, Int.toNat_natCast, tb_set]
   apply tb_ext
   intro i hi
   by_cases hik : i = k
   ·subst hik; simp only [if_true]; rfl
   ·simp only [hik, if_false]
  rw [hset, hw]
  refine .ite (fun hb => .ret ⟨true, (fun i => if i = k then (fun r => G k r || newOf f G k x r) else G i), by simp, fun r => by simp, fun i hi => by simp [hi], ⟨fun _ => hr.2.1 hb, fun _ => rfl⟩⟩) (fun hb => .ret ⟨false, (fun i => if i = k then (fun r => G k r || newOf f G k x r) else G i), by simp, fun r => by simp, fun i hi => by simp [hi], ⟨fun h => (by cases h), fun hex => ?_⟩⟩)
  have := hr.2.2 hex
  rw [hb] at this; exact this
theorem l3_is (h : f.code.length ≤ 1000) (hR : R ≤ 1000) (hreg : max f.regs 0 = (R : Int)) (hargs : ∀ x ∈ f.code, x.args.length ≤ 17592186044000) (G : Nat → Nat → Bool) (hG : Sound f R G) :
  Ok (flow_Live_l3 f (tb f.code.length (nx f)) (tt f.code.length R G) false (w64 ((f.code.length : Int) - 1))) (fun r => ∃ G' b, r = .inl (tt f.code.length R G', b) ∧ Sound f R G' ∧ (∀ i r, G i r = true → G' i r = true) ∧
   (b = false → ∀ i, i < f.code.length → ClosedAt f R G' i) ∧ (b = true → ∃ i r, i < f.code.length ∧ r < R ∧ G' i r = true ∧ G i r = false)) := by
 unfold flow_Live_l3
 rw [w64_id (by omega) (by omega)]
 refine Ok.loop (B := fun s => flow_Live_l3b f (tb f.code.length (nx f)) s.1 s.2.1 s.2.2) (fun m s => s.2.2 = (f.code.length : Int) - 1 - m ∧ ∃ G', s.1 = tt f.code.length R G' ∧ Sound f R G' ∧ (∀ i r, G i r = true → G' i r = true) ∧
   (s.2.1 = false → (∀ i r, i < f.code.length → r < R → G' i r = G i r) ∧ ∀ i, i < f.code.length → f.code.length ≤ i + m → ClosedAt f R G' i) ∧ (s.2.1 = true → ∃ i r, i < f.code.length ∧ r < R ∧ G' i r = true ∧ G i r = false))
  f.code.length (fun m s hm hs => ?_) (fun s hs => ?_) ⟨by simp, G, rfl, hG, fun _ _ h => h, fun _ => ⟨fun _ _ _ _ => rfl, fun i h1 h2 => by omega⟩, fun h => by cases h⟩
 ·obtain ⟨xs, ch, i⟩ := s
  obtain ⟨h1, G', h2, h3, h4, h5, h6⟩ := hs
  simp only at h1 h2 h5 h6
  have hi : i = ((f.code.length - 1 - m : Nat) : Int) := by omega
  subst hi h2
  generalize hk : f.code.length - 1 - m = k at *
  have hk' : k < f.code.length := by omega
  show Ok (flow_Live_l3b f _ _ ch k) _
  unfold flow_Live_l3b
  rw [if_pos (by simp), hreg, mk_tb (by omega)]
  simp only [Option.bind_some]
  rw [ix_tb hk']
  simp only [Option.bind_some]
  refine (l4_is f R h hR hreg hargs G' ch k f.code[k] (List.getElem?_eq_getElem hk')).mono fun r hr => ?_
  obtain ⟨b, G2, rfl, e1, e2, hb⟩ := hr
  have hx : f.code[k]? = some f.code[k] := List.getElem?_eq_getElem hk'
  have hnew : ∀ r : Nat, r < R → newOf f G' k f.code[k] r = true → Nd f r k := by
   intro r hr hn
   unfold newOf stp at hn
   rw [Bool.or_eq_true, Bool.and_eq_true] at hn
   rcases hn with hn | ⟨hn, hd⟩
   ·exact .use k _ hx (by simpa using hn)
   ·unfold outOf at hn
    rw [List.any_eq_true] at hn
    obtain ⟨j, hj, hg⟩ := hn
    have hj2 := (nx_at f h k hk').2 j hj
    obtain ⟨q, rfl⟩ := Int.eq_ofNat_of_zero_le hj2.1
    exact .go k _ q hx (by simpa using hd) hj (h3 q r (by omega) hr hg)
  refine ⟨by simp; omega, _, rfl, ?_, ?_, ?_, ?_⟩
  ·intro i r hi hr hg
   by_cases hik : i = k
   ·subst hik
    rw [e1, Bool.or_eq_true] at hg
    rcases hg with hg | hg
    ·exact h3 i r hi hr hg
    ·exact hnew r hr hg
   ·rw [e2 i hik] at hg
    exact h3 i r hi hr hg
  ·intro i r hg
   have := h4 i r hg
   by_cases hik : i = k
   ·subst hik; rw [e1, this]; rfl
   ·rw [e2 i hik]; exact this
  ·intro hcb
   have hcb' : ch = false ∧ b = false := by simpa using hcb
   obtain ⟨hc, hbf⟩ := hcb'
   obtain ⟨h7, h8⟩ := h5 hc
   have hno : ¬ ∃ r, r < R ∧ newOf f G' k f.code[k] r = true ∧ G' k r = false := fun hex => by rw [hb.2 hex] at hbf; cases hbf
   have same : ∀ i r, i < f.code.length → r < R → G2 i r = G' i r := by
    intro i r hi hr
    by_cases hik : i = k
    ·subst hik
     rw [e1]
     cases hg : G' i r with
     | true => rfl
     | false =>
      cases hn : newOf f G' i f.code[i] r with
      | false => rfl
      | true => exact (hno ⟨r, hr, hn, hg⟩).elim
    ·rw [e2 i hik]
   have newsame : ∀ i x r, i < f.code.length → r < R → newOf f G2 i x r = newOf f G' i x r := by
    intro i x r hi hr
    unfold newOf stp outOf
    congr 2
    rw [Bool.eq_iff_iff, List.any_eq_true, List.any_eq_true]
    constructor
    ·rintro ⟨j, hj, hg⟩
     have hj2 := (nx_at f h i hi).2 j hj
     rw [same j.toNat r (by omega) hr] at hg
     exact ⟨j, hj, hg⟩
    ·rintro ⟨j, hj, hg⟩
     have hj2 := (nx_at f h i hi).2 j hj
     refine ⟨j, hj, ?_⟩
     rw [same j.toNat r (by omega) hr]
     exact hg
   refine ⟨fun i r hi hr => by rw [same i r hi hr]; exact h7 i r hi hr, fun i hi him => ?_⟩
   intro x r hxx hr hn
   rw [newsame i x r hi hr] at hn
   rw [same i r hi hr]
   by_cases hik : i = k
   ·subst hik
    cases hg : G' i r with
    | true => rfl
    | false =>
     rw [List.getElem?_eq_getElem hk'] at hxx
     have hxe := Option.some.inj hxx
     rw [← hxe] at hn
     exact (hno ⟨r, hr, hn, hg⟩).elim
   ·exact h8 i hi (by omega) x r hxx hr hn
  ·intro hcb
   have hcb' : ch = true ∨ b = true := by simpa using hcb
   rcases hcb' with hc | hbt
   ·obtain ⟨i, r, hi, hr, hg, hg0⟩ := h6 hc
    refine ⟨i, r, hi, hr, ?_, hg0⟩
    by_cases hik : i = k
    ·subst hik; rw [e1, hg]; rfl
    ·rw [e2 i hik]; exact hg
   ·obtain ⟨r, hr, hn, hg⟩ := hb.1 hbt
    refine ⟨k, r, hk', hr, by rw [e1, hn, Bool.or_true], ?_⟩
    cases hg0 : G k r with
    | false => rfl
    | true => rw [h4 k r hg0] at hg; cases hg
 ·obtain ⟨xs, ch, i⟩ := s
  obtain ⟨h1, G', h2, h3, h4, h5, h6⟩ := hs
  simp only at h1 h2 h5 h6
  subst h2
  show Ok (flow_Live_l3b f _ _ ch i) _
  unfold flow_Live_l3b
  rw [if_neg (by simp; omega)]
  exact .map (.ret ⟨G', ch, rfl, h3, h4, fun hc i hi => (h5 hc).2 i hi (by omega), h6⟩)
end
def pairs (n R : Nat) : List (Nat × Nat) := (List.range n).flatMap (fun i => (List.range R).map (fun r => (i, r)))
theorem mem_pairs {n R i r : Nat} : (i, r) ∈ pairs n R ↔ i < n ∧ r < R := by
 simp [pairs]
def gaps (n R : Nat) (L : List (List Bool)) : Nat := (pairs n R).countP (fun p => !((L.getD p.1 []).getD p.2 false))
theorem gaps_lt {n R : Nat} {G G' : Nat → Nat → Bool} (h1 : ∀ i r, G i r = true → G' i r = true) (h2 : ∃ i r, i < n ∧ r < R ∧ G' i r = true ∧ G i r = false) : gaps n R (tt n R G') < gaps n R (tt n R G) := by
 have e : ∀ (G : Nat → Nat → Bool) i r, i < n → r < R → ((tt n R G).getD i []).getD r false = G i r := fun G i r hi hr => by rw [tb_getD hi, tb_getD hr]
 unfold gaps
 apply countP_strict
 ·rintro ⟨i, r⟩ hx hp
  have := mem_pairs.1 hx
  simp only [e _ i r this.1 this.2] at hp ⊢
  cases hg : G i r with
  | false => rfl
  | true => rw [h1 i r hg] at hp; exact hp
 ·obtain ⟨i, r, hi, hr, hg, hg0⟩ := h2
  refine ⟨(i, r), mem_pairs.2 ⟨hi, hr⟩, ?_, ?_⟩
  ·simp only [e _ i r hi hr]; rw [hg0]; rfl
  ·simp only [e _ i r hi hr]; rw [hg]; rfl
theorem gaps_le {n R : Nat} {G G' : Nat → Nat → Bool} (h1 : ∀ i r, G i r = true → G' i r = true) : gaps n R (tt n R G') ≤ gaps n R (tt n R G) := by
 have e : ∀ (G : Nat → Nat → Bool) i r, i < n → r < R → ((tt n R G).getD i []).getD r false = G i r := fun G i r hi hr => by rw [tb_getD hi, tb_getD hr]
 unfold gaps
 apply List.countP_mono_left
 rintro ⟨i, r⟩ hx hp
 have := mem_pairs.1 hx
 simp only [e _ i r this.1 this.2] at hp ⊢
 cases hg : G i r with
 | false => rfl
 | true => rw [h1 i r hg] at hp; exact hp
theorem l5_is (L : List (List Bool)) (n : Nat) (hn : n ≤ 1000) (hL : L.length = n) : flow_Live_l5 L [] L 0 = some L := by
 unfold flow_Live_l5
 refine (loop_for (B := fun s => flow_Live_l5b L s.1 s.2.1 s.2.2) (P := fun r => r = L) L (fun k s => s = (L.take k, L, (k : Int))) (fun k x s hk' hk hs => ?_) (fun s hs => ?_) rfl).some_of
 ·subst hs
  show Ok (flow_Live_l5b L (L.take k) L k) _
  unfold flow_Live_l5b
  rw [if_pos (by simp; omega), ix_nat, hk]
  simp only [Option.bind_some]
  rw [ap_some (by simp; omega)]
  refine .ret ?_
  show _ = _
  rw [w64_succ (by omega), List.take_add_one, hk, Option.toList_some]
 ·subst hs
  show Ok (flow_Live_l5b L (L.take L.length) L L.length) _
  unfold flow_Live_l5b
  rw [if_neg (by simp), List.take_length]
  exact .map (.ret rfl)
section
variable (f : TFunc) (R : Nat)
theorem closed_all (h : f.code.length ≤ 1000) (hR : R ≤ 1000) (hreg : max f.regs 0 = (R : Int)) (hargs : ∀ x ∈ f.code, x.args.length ≤ 17592186044000) (G : Nat → Nat → Bool) (hG : ∀ i, i < f.code.length → ClosedAt f R G i) (r : Nat) (hr : r < R) : ∀ i, Nd f r i → i < f.code.length → G i r = true := by
 intro i hn
 induction hn with
 | use k x hk hu =>
  intro hi
  refine hG k hi x r hk hr ?_
  unfold newOf stp; simp [hu]
 | go k x j hk hd hj hjn ih =>
  intro hi
  refine hG k hi x r hk hr ?_
  have hj2 := (nx_at f h k hi).2 j hj
  have := ih (by omega)
  unfold newOf stp
  rw [Bool.or_eq_true, Bool.and_eq_true]
  refine .inr ⟨?_, by simpa using hd⟩
  unfold outOf
  rw [List.any_eq_true]
  exact ⟨(j : Int), hj, by simpa using this⟩
theorem Live_is (h : f.code.length ≤ 1000) (hR : R ≤ 1000) (hreg : max f.regs 0 = (R : Int)) (hargs : ∀ x ∈ f.code, x.args.length ≤ 17592186044000) : Ok (flow_Live f) (fun L => ∃ G, L = tt f.code.length R G ∧ ∀ i r, i < f.code.length → r < R → (G i r = true ↔ Nd f r i)) := by
 unfold flow_Live
 rw [mk_tb (by omega), mk_tb (by omega)]
 simp only [Option.bind_some]
 unfold flow_Live_l1
 refine Ok.loop (B := fun s => flow_Live_l1b f (tb f.code.length (fun _ => ([] : List Bool))) s.1 s.2.1 s.2.2) (fun k s => s = (tb f.code.length (fun i => if i < k then tb R (fun _ => false) else []), tb f.code.length (fun i => if i < k then nx f i else []), (k : Int))) f.code.length (fun k s hk hs => ?_) (fun s hs => ?_) (by simp)
 ·subst hs
  show Ok (flow_Live_l1b f _ _ _ k) _
  unfold flow_Live_l1b
  rw [if_pos (by simp; omega), hreg, mk_tb (by omega)]
  simp only [Option.bind_some]
  rw [ix_tb hk, ix_tb hk, Next_at f h k hk]
  simp only [Option.bind_some]
  refine .ret ?_
  show _ = _
  rw [w64_succ (by omega), Int.toNat_natCast, tb_set, tb_set]
  congr 1
  ·apply tb_ext
   intro i hi
   by_cases hik : i = k
   ·subst hik; simp
   ·simp only [hik, if_false]
    by_cases h2 : i < k
    ·rw [if_pos h2, if_pos (by omega)]
    ·rw [if_neg h2, if_neg (by omega)]
  ·congr 1
   apply tb_ext
   intro i hi
   by_cases hik : i = k
   ·subst hik; simp
   ·simp only [hik, if_false]
    by_cases h2 : i < k
    ·rw [if_pos h2, if_pos (by omega)]
    ·rw [if_neg h2, if_neg (by omega)]
 ·subst hs
  show Ok (flow_Live_l1b f _ _ _ _) _
  unfold flow_Live_l1b
  rw [if_neg (by simp)]
  refine .map ?_
  rw [show tb f.code.length (fun i => if i < f.code.length then tb R (fun _ => false) else []) = tt f.code.length R (fun _ _ => false) from tb_ext (fun i hi => by rw [if_pos hi]),
   show tb f.code.length (fun i => if i < f.code.length then nx f i else []) = tb f.code.length (nx f) from tb_ext (fun i hi => by rw [if_pos hi])]
  unfold flow_Live_l2
  refine Ok.loopM (B := fun s => flow_Live_l2b f (tb f.code.length (nx f)) s.1 s.2) (fun s => ∃ G, s.1 = tt f.code.length R G ∧ Sound f R G ∧ (s.2 = false → ∀ i, i < f.code.length → ClosedAt f R G i)) (fun s => gaps f.code.length R s.1 + (if s.2 then 1 else 0)) (fun s hs => ?_) ⟨fun _ _ => false, rfl, (fun _ _ _ _ h => by cases h), (fun h => by cases h)⟩
  obtain ⟨xs, b⟩ := s
  obtain ⟨G, h1, h2, h3⟩ := hs
  simp only at h1 h3
  subst h1
  show Ok (flow_Live_l2b f _ _ b) _
  unfold flow_Live_l2b
  refine .ite (fun hb => ?_) (fun hb => ?_)
  ·subst hb
   refine (l3_is f R h hR hreg hargs G h2).mono fun r hr => ?_
   obtain ⟨G', b', rfl, h4, h5, h6, h7⟩ := hr
   refine ⟨⟨G', rfl, h4, h6⟩, ?_⟩
   show gaps _ _ _ + (if b' = true then 1 else 0) < gaps _ _ _ + (if true = true then 1 else 0)
   cases hb' : b' with
   | true =>
    have := gaps_lt h5 (h7 hb')
    simp; omega
   | false =>
    have := gaps_le (n := f.code.length) (R := R) h5
    simp; omega
  ·rw [l5_is _ f.code.length h (by simp)]
   refine .map (.ret ⟨G, rfl, fun i r hi hr => ⟨h2 i r hi hr, fun hn => closed_all f R h hR hreg hargs G (h3 hb) r hr i hn hi⟩⟩)
end
end
section
def cnt (c : List TIns) (i : Int) : Nat := c.countP (fun x => (decide (x.op = 11)) && (decide (x.imm = i)))
theorem count_is (f : TFunc) (i : Int) (h : f.code.length ≤ 1000) : ref08_count f i = some (cnt f.code i : Int) := by
 unfold ref08_count ref08_count_l1
 refine (Ok.loop (B := fun s => ref08_count_l1b f i s.1 s.2) (P := fun r => r = (cnt f.code i : Int)) (fun k s => s = ((cnt (f.code.take k) i : Int), (k : Int))) f.code.length (fun k s hk hs => ?_) (fun s hs => ?_) (by simp [cnt])).some_of
 ·subst hs
  show Ok (ref08_count_l1b f i _ _) _
  unfold ref08_count_l1b ref08_count_k1
  have hle : cnt (f.code.take k) i ≤ k := by
   have : cnt (f.code.take k) i ≤ _ := List.countP_le_length
   simp at this; omega
  rw [if_pos (by simp; omega), ix_some hk]
  simp only [Option.bind_some]
  have ht : cnt (f.code.take (k + 1)) i = cnt (f.code.take k) i + (if (decide (f.code[k].op = 11)) && (decide (f.code[k].imm = i)) then 1 else 0) := by
   unfold cnt
   rw [List.take_add_one, List.getElem?_eq_getElem hk, Option.toList_some, List.countP_append, List.countP_singleton]
  refine .ite (fun hb => .ret ?_) (fun hb => .ret ?_)
  ·show _ = _
   rw [w64_succ (by omega), w64_succ (by omega), ht, if_pos hb]
  ·show _ = _
   rw [w64_succ (by omega), ht, if_neg (by rw [hb]; decide)]
   rfl
 ·subst hs
  show Ok (ref08_count_l1b f i _ _) _
  unfold ref08_count_l1b
  rw [if_neg (by simp), List.take_length]
  exact ⟨_, rfl, rfl⟩
section
variable {f f' : TFunc}
theorem has_tot (op : Int) : Ok (ref08_has op) (fun _ => True) := by
 have h5 : ∀ b, Ok (ref08_has_k5 b) (fun _ => True) := fun b => .ite (fun _ => .ret trivial) (fun _ => .ret trivial)
 have h4 : ∀ b, Ok (ref08_has_k4 op b) (fun _ => True) := fun b => .ite (fun _ => .ret trivial) (fun _ => .ite (fun _ => .ret trivial) (fun _ => .ite (fun _ => .ret trivial) (fun _ => .ite (fun _ => h5 _) (fun _ => .ite (fun _ => h5 _) (fun _ => .ite (fun _ => h5 _) (fun _ => h5 _))))))
 have h3 : ∀ b, Ok (ref08_has_k3 op b) (fun _ => True) := fun b => .ite (fun _ => .ret trivial) (fun _ => .ite (fun _ => .ret trivial) (fun _ => .ite (fun _ => h4 _) (fun _ => h4 _)))
 have h2 : ∀ b, Ok (ref08_has_k2 op b) (fun _ => True) := fun b => .ite (fun _ => .ret trivial) (fun _ => .ite (fun _ => h3 _) (fun _ => .ite (fun _ => h3 _) (fun _ => .ite (fun _ => h3 _) (fun _ => .ite (fun _ => h3 _) (fun _ => .ite (fun _ => h3 _) (fun _ => h3 _))))))
 have h1 : ∀ b, Ok (ref08_has_k1 op b) (fun _ => True) := fun b => .ite (fun _ => .ret trivial) (fun _ => .ite (fun _ => h2 _) (fun _ => h2 _))
 exact .ite (fun _ => h1 _) (fun _ => h1 _)
theorem reg_tot (a b : Bool) (c d : Int) : Ok (ref08_register a b c d) (fun _ => True) := .ite (fun _ => .ret trivial) (fun _ => .ret trivial)
theorem ins_tot (h : f.code.length ≤ 1000) (p : TIns) (hp : p.args.length ≤ 9223372036854775807) : Ok (ref08_ins f p) (fun _ => True) := by
 have h2 : ∀ t b, Ok (ref08_ins_k2 f p t b) (fun _ => True) := fun t b => .ite (fun _ => .ret trivial) (fun _ => .ite (fun _ => .ret trivial) (fun _ => .ite (fun _ => .ret trivial) (fun _ => .ite (fun _ => by rw [count_is f _ h]; exact .ret trivial) (fun _ => .ret trivial))))
 have h1 : ∀ t, Ok (ref08_ins_l1 f p t 0) (fun _ => True) := by
  intro t
  unfold ref08_ins_l1
  refine loop_all p.args hp (fun k x hk => ?_) ?_
  ·have hk' := (List.getElem?_eq_some_iff.1 hk).1
   unfold ref08_ins_l1b
   rw [if_pos (by simp; omega), ix_nat, hk]
   exact .ite (fun _ => .map (.ret trivial)) (fun _ => .ret rfl)
  ·unfold ref08_ins_l1b
   rw [if_neg (by simp)]
   refine .map (.ite (fun _ => .ret trivial) (fun _ => .ite (fun _ => h2 _ _) (fun _ => .ite (fun _ => h2 _ _) (fun _ => .ite (fun _ => h2 _ _) (fun _ => .ite (fun _ => h2 _ _) (fun _ => h2 _ _))))))
 have hk : ∀ t b, Ok (ref08_ins_k1 f p t b) (fun _ => True) := by
  intro t b
  refine (reg_tot _ _ _ _).bind fun _ _ => ?_
  refine Ok.bind (P := fun _ => True) (.ite (fun _ => .ret trivial) (fun _ => (reg_tot _ _ _ _).bind fun _ _ => .ret trivial)) fun _ _ => ?_
  refine Ok.bind (P := fun _ => True) (.ite (fun _ => .ret trivial) (fun _ => (reg_tot _ _ _ _).bind fun _ _ => .ret trivial)) fun _ _ => ?_
  exact .ite (fun _ => .ret trivial) (fun _ => h1 _)
 refine .ite (fun _ => .ret trivial) (fun _ => (has_tot _).bind fun _ _ => .ite (fun _ => .ite (fun _ => .ret trivial) (fun _ => hk _ _)) (fun _ => hk _ _))
end
def Gd (f : TFunc) (x : TIns) : Prop := ref08_ins f x = some true ∧ (x.op = 11 → cnt f.code x.imm = 1)
def Good (f : TFunc) : Prop := (∃ l, f.code.getLast? = some l ∧ (l.op = 12 ∨ l.op = 15 ∨ l.op = 16)) ∧ 0 ≤ f.params ∧ f.params ≤ f.regs ∧ ∀ x ∈ f.code, Gd f x
theorem good_is (f : TFunc) (h : f.code.length ≤ 1000) (ha : ∀ x ∈ f.code, x.args.length ≤ 9223372036854775807) : Ok (ref08_Good f) (fun b => b = true ↔ Good f) := by
 unfold ref08_Good
 refine .ite (fun hb => .ret ?_) (fun hb => ?_)
 ·constructor
  ·intro h; cases h
  ·rintro ⟨⟨l, h1, _⟩, h2, h3, _⟩
   have : f.code ≠ [] := by rintro h; rw [h] at h1; cases h1
   have := List.length_pos_iff.2 this
   simp only [Bool.or_eq_true, decide_eq_true_eq] at hb; omega
 ·simp only [Bool.or_eq_false_iff, decide_eq_false_iff_not] at hb
  have hl : 0 < f.code.length := by omega
  have hpr : 0 ≤ f.params ∧ f.params ≤ f.regs := by omega
  have hw : w64 ((f.code.length : Int) - 1) = ((f.code.length - 1 : Nat) : Int) := by rw [w64_id (by omega) (by omega)]; omega
  rw [hw, ix_some (by omega)]
  simp only [Option.bind_some]
  have hlast : f.code.getLast? = some f.code[f.code.length - 1] := by rw [List.getLast?_eq_getElem?, List.getElem?_eq_getElem (by omega)]
  refine .ite (fun hc => .ret ?_) (fun hc => ?_)
  ·constructor
   ·intro h; cases h
   ·rintro ⟨⟨l, h1, h2⟩, _⟩
    rw [hlast] at h1; cases h1
    simp at hc; omega
  ·have hlo : f.code[f.code.length - 1].op = 12 ∨ f.code[f.code.length - 1].op = 15 ∨ f.code[f.code.length - 1].op = 16 := by simp at hc; omega
   have key : (∀ x ∈ f.code, Gd f x) → Good f := fun hx => ⟨⟨_, hlast, hlo⟩, hpr.1, hpr.2, hx⟩
   unfold ref08_Good_l1
   refine Ok.loop (fun k s => s = (k : Int) ∧ ∀ x ∈ f.code.take k, Gd f x) f.code.length (fun k s hk hs => ?_) (fun s hs => ?_) (by simp)
   ·obtain ⟨rfl, hs⟩ := hs
    show Ok (ref08_Good_l1b f k) _
    unfold ref08_Good_l1b
    rw [if_pos (by simp; omega), ix_some hk]
    simp only [Option.bind_some]
    refine ((ins_tot h f.code[k] (ha _ (List.getElem_mem hk))).and (o := ref08_ins f f.code[k]) (Q := fun b => ref08_ins f f.code[k] = some b) ?_).bind fun b hb => ?_
    ·obtain ⟨r, hr, _⟩ := ins_tot h f.code[k] (ha _ (List.getElem_mem hk)); exact ⟨r, hr, hr⟩
    ·refine Ok.bind (P := fun y => y = false ↔ Gd f f.code[k]) ?_ fun y hy => .ite (fun hyt => .map (.ret ?_)) (fun hyf => .ret ⟨w64_succ (by omega), ?_⟩)
     ·refine .ite (fun hb1 => .ret ?_) (fun hb1 => Ok.bind (P := fun y => y = false ↔ Gd f f.code[k]) (.ite (fun hop => ?_) (fun hop => .ret ?_)) (fun y hy => .ret hy))
      ·constructor
       ·intro h; cases h
       ·rintro ⟨h1, _⟩
        rw [hb.2] at h1; cases h1; cases hb1
      ·rw [count_is f _ h]
       have hop' : f.code[k].op = 11 := by simpa using hop
       have hbt : b = true := by simpa using hb1
       refine .ret ?_
       constructor
       ·intro h1
        refine ⟨by rw [hb.2, hbt], fun _ => ?_⟩
        simp at h1; omega
       ·rintro ⟨_, h1⟩
        have := h1 hop'
        simp [this]
      ·have hop' : f.code[k].op ≠ 11 := by simpa using hop
       have hbt : b = true := by simpa using hb1
       exact ⟨fun _ => ⟨by rw [hb.2, hbt], fun h => (hop' h).elim⟩, fun _ => rfl⟩
     ·refine ⟨fun h => (by cases h), fun hg => ?_⟩
      have := hy.2 (hg.2.2.2 _ (List.getElem_mem hk))
      rw [hyt] at this; cases this
     ·intro x hx
      rw [List.take_add_one, List.getElem?_eq_getElem hk, Option.toList_some, List.mem_append, List.mem_singleton] at hx
      rcases hx with hx | rfl
      ·exact hs x hx
      ·exact hy.1 hyf
   ·obtain ⟨rfl, hs⟩ := hs
    show Ok (ref08_Good_l1b f f.code.length) _
    unfold ref08_Good_l1b
    rw [if_neg (by simp)]
    rw [List.take_length] at hs
    exact .map (.ret ⟨fun _ => key hs, fun _ => rfl⟩)
theorem reg_inv {p q : Bool} {v R : Int} (h : ref08_register p q v R = some true) : v = -1 ∨ (0 ≤ v ∧ v < R) := by
 unfold ref08_register at h
 split at h
 ·simp at h; exact .inl h
 ·simp at h
  rcases h with h | h
  ·exact .inr h
  ·exact .inl h.2
theorem k1_inv {f : TFunc} {x : TIns} {t : Bool × Bool × Bool × Bool} {b : Bool} (h : ref08_ins_k1 f x t b = some true) :
  (x.a = -1 ∨ (0 ≤ x.a ∧ x.a < f.regs)) ∧ (x.b = -1 ∨ (0 ≤ x.b ∧ x.b < f.regs)) ∧ (x.d = -1 ∨ (0 ≤ x.d ∧ x.d < f.regs)) ∧ ref08_ins_l1 f x t 0 = some true := by
 unfold ref08_ins_k1 at h
 obtain ⟨r1, e1, h⟩ := bindS h
 obtain ⟨r2, e2, h⟩ := bindS h
 obtain ⟨r3, e3, h⟩ := bindS h
 cases r1
 ·simp at e2; subst e2; simp at e3; subst e3; simp at h
 ·simp only [Bool.not_true, Bool.false_eq_true, if_false] at e2
  obtain ⟨r4, e4, e2⟩ := bindS e2
  cases r4
  ·simp at e2; subst e2; simp at e3; subst e3; simp at h
  ·simp at e2; subst e2
   simp only [Bool.false_eq_true, if_false] at e3
   obtain ⟨r5, e5, e3⟩ := bindS e3
   cases r5
   ·simp at e3; subst e3; simp at h
   ·simp at e3; subst e3
    simp only [Bool.false_eq_true, if_false] at h
    exact ⟨reg_inv e4, reg_inv e5, reg_inv e1, h⟩
theorem l1_inv {f : TFunc} {x : TIns} {t : Bool × Bool × Bool × Bool} (hx : x.args.length ≤ 9223372036854775807) (h : ref08_ins_l1 f x t 0 = some true) :
  ∀ y ∈ x.args, 0 ≤ y ∧ y < f.regs := by
 have key : ∀ (k : Nat), k ≤ x.args.length → ref08_ins_l1 f x t k = some true → ∀ y ∈ x.args.drop k, 0 ≤ y ∧ y < f.regs := by
  intro k
  generalize hd : x.args.length - k = d
  induction d generalizing k with
  | zero =>
   intro hk _ y hy
   rw [List.drop_of_length_le (by omega)] at hy; cases hy
  | succ d ih =>
   intro hk h y hy
   have hk' : k < x.args.length := by omega
   unfold ref08_ins_l1 at h
   rw [loopO_eq] at h
   obtain ⟨s, e1, h⟩ := bindS h
   unfold ref08_ins_l1b at e1
   rw [if_pos (by simp; omega), ix_some hk'] at e1
   simp only [Option.bind_some] at e1
   rw [List.drop_eq_getElem_cons hk'] at hy
   split at e1
   ·simp at e1; subst e1; cases h
   ·rename_i hc
    cases e1
    rw [w64_succ (by omega)] at h
    rcases List.mem_cons.1 hy with rfl | hy
    ·simp at hc; omega
    ·exact ih (k + 1) (by omega) (by omega) h y hy
 exact fun y hy => key 0 (Nat.zero_le _) h y (by simpa using hy)
theorem ins_inv {f : TFunc} {x : TIns} (hx : x.args.length ≤ 9223372036854775807) (h : ref08_ins f x = some true) :
  (x.a = -1 ∨ (0 ≤ x.a ∧ x.a < f.regs)) ∧ (x.b = -1 ∨ (0 ≤ x.b ∧ x.b < f.regs)) ∧ (∀ y ∈ x.args, 0 ≤ y ∧ y < f.regs) := by
 unfold ref08_ins at h
 split at h
 ·cases h
 ·obtain ⟨t, _, h⟩ := bindS h
  split at h
  ·split at h
   ·cases h
   ·have := k1_inv h; exact ⟨this.1, this.2.1, l1_inv hx this.2.2.2⟩
  ·have := k1_inv h; exact ⟨this.1, this.2.1, l1_inv hx this.2.2.2⟩
end
section
def cu (n : Nat) (V : Nat → Bool) : Nat := (List.range n).countP (fun j => !(V j))
theorem cu_le {n : Nat} {V : Nat → Bool} : cu n V ≤ n := by
 unfold cu
 have := List.countP_le_length (p := fun j => !(V j)) (l := List.range n)
 simpa using this
inductive Rc (f : TFunc) : Nat → Prop
 | zero : Rc f 0
 | go (k j : Nat) (hk : k < f.code.length) (hj : (j : Int) ∈ nx f k) (h : Rc f k) : Rc f j
structure Wk (f : TFunc) (start : Nat) (V : Nat → Bool) (Q : List Int) : Prop where
 inr : ∀ q ∈ Q, 0 ≤ q ∧ q < f.code.length
 len : Q.length + 2 * cu f.code.length V ≤ 2 * f.code.length + 1
 beg : V start = true ∨ (start : Int) ∈ Q
section
variable {f : TFunc} {st : Nat} {V : Nat → Bool} {q : Nat} {Q : List Int}
end
structure Seen (f : TFunc) (V : Nat → Bool) (Q : List Int) : Prop where
 wk : Wk f 0 V Q
 rq : ∀ q : Nat, (q : Int) ∈ Q → Rc f q
 rv : ∀ v, v < f.code.length → V v = true → Rc f v ∧ ∀ j : Nat, (j : Int) ∈ nx f v → V j = true ∨ (j : Int) ∈ Q
section
variable {f : TFunc} {V : Nat → Bool} {q : Nat} {Q : List Int}
theorem Seen.start (h0 : 0 < f.code.length) : Seen f (fun _ => false) [0] := by
 refine ⟨⟨by simp; omega, by have := cu_le (n := f.code.length) (V := fun _ => false); simp; omega, by simp⟩, fun q hq => ?_, fun v _ hv => by cases hv⟩
 rw [show q = 0 from by simpa using hq]; exact .zero
theorem Seen.all (h : f.code.length ≤ 1000) (w : Seen f V []) (h0 : 0 < f.code.length) {k : Nat} (hr : Rc f k) : V k = true := by
 induction hr with
 | zero => rcases w.wk.beg with h | h; exact h; cases h
 | go k j hk hj _ ih =>
  rcases (w.rv k hk ih).2 j hj with h | h
  ·exact h
  ·cases h
end
end
section
abbrev Sp := Tflow_Span
def le (a b : Sp) : Prop := a.from_ < b.from_ ∨ (a.from_ = b.from_ ∧ a.reg ≤ b.reg)
def bnd (s : Sp) : Prop := 0 ≤ s.from_ ∧ s.from_ ≤ 1000 ∧ 0 ≤ s.reg ∧ s.reg ≤ 1000
theorem cmp_is {a b : Sp} (ha : bnd a) (hb : bnd b) : Ok (flow_Spans_c1 a b) (fun r => (r < 0 → le a b) ∧ (¬ r < 0 → le b a)) := by
 obtain ⟨h1, h2, h3, h4⟩ := ha
 obtain ⟨h5, h6, h7, h8⟩ := hb
 unfold flow_Spans_c1
 refine .ite (fun hc => .ret ?_) (fun hc => .ret ?_)
 ·have : a.from_ ≠ b.from_ := of_decide_eq_true hc
  rw [w64_id (by omega) (by omega)]
  exact ⟨fun h => .inl (by omega), fun h => .inl (by omega)⟩
 ·have : a.from_ = b.from_ := by simpa using hc
  rw [w64_id (by omega) (by omega)]
  exact ⟨fun h => .inr ⟨this, by omega⟩, fun h => .inr ⟨this.symm, by omega⟩⟩
theorem le_trans {a b c : Sp} (h1 : le a b) (h2 : le b c) : le a c := by unfold le at *; omega
def sw (i j k : Nat) : Nat := if k = i then j else if k = j then i else k
theorem sw_sw (i j k : Nat) : sw i j (sw i j k) = k := by
 unfold sw
 by_cases h1 : k = i
 ·subst h1; rw [if_pos rfl]
  by_cases h2 : j = k
  ·rw [if_pos h2]; exact h2
  ·rw [if_neg h2, if_pos rfl]
 ·rw [if_neg h1]
  by_cases h2 : k = j
  ·rw [if_pos h2, if_pos rfl]; exact h2.symm
  ·rw [if_neg h2, if_neg h1, if_neg h2]
theorem sw_lt {n i j k : Nat} (hi : i < n) (hj : j < n) (hk : k < n) : sw i j k < n := by
 unfold sw; split
 ·exact hj
 ·split
  ·exact hi
  ·exact hk
def swp (g : Nat → Sp) (i j : Nat) : Nat → Sp := fun k => g (sw i j k)
def Prm (n : Nat) (g h : Nat → Sp) : Prop := ∃ p : Nat → Nat, (∀ k, k < n → p k < n ∧ h k = g (p k)) ∧ (∀ i j, i < n → j < n → p i = p j → i = j) ∧ ∀ k, k < n → ∃ i, i < n ∧ p i = k
theorem Prm.refl (n : Nat) (g : Nat → Sp) : Prm n g g := ⟨fun k => k, fun k hk => ⟨hk, rfl⟩, fun _ _ _ _ h => h, fun k hk => ⟨k, hk, rfl⟩⟩
theorem Prm.swp {n : Nat} {g h : Nat → Sp} (hp : Prm n g h) {i j : Nat} (hi : i < n) (hj : j < n) : Prm n g (swp h i j) := by
 obtain ⟨p, h1, h2, h3⟩ := hp
 refine ⟨fun k => p (sw i j k), fun k hk => h1 _ (sw_lt hi hj hk), fun a b ha hb hab => ?_, fun k hk => ?_⟩
 ·have := h2 _ _ (sw_lt hi hj ha) (sw_lt hi hj hb) hab
  rw [← sw_sw i j a, this, sw_sw]
 ·obtain ⟨m, hm, rfl⟩ := h3 k hk
  exact ⟨sw i j m, sw_lt hi hj hm, by simp only [sw_sw]⟩
theorem insertion_is (n : Nat) (hn : n ≤ 1000) (g : Nat → Sp) (hb : ∀ k, k < n → bnd (g k)) : Ok (s_insertionSort (tb n g) 0 n) (fun r => ∃ h, r = tb n h ∧ Prm n g h ∧ ∀ p q, p < q → q < n → le (h p) (h q)) := by
 have hbp : ∀ h, Prm n g h → ∀ k, k < n → bnd (h k) := by
  rintro h ⟨p, h1, _⟩ k hk
  rw [(h1 k hk).2]; exact hb _ (h1 k hk).1
 unfold s_insertionSort s_insertionSort_l1
 rw [show w64 ((0 : Int) + 1) = 1 from rfl]
 by_cases h0 : n = 0
 ·subst h0
  rw [loopO_eq]
  show Ok ((s_insertionSort_l1b 0 ((0 : Nat) : Int) (tb 0 g) 1).bind _) _
  unfold s_insertionSort_l1b
  rw [if_neg (by decide)]
  exact ⟨_, rfl, g, rfl, Prm.refl 0 g, fun p q _ h => by omega⟩
 refine Ok.loop (B := fun s => s_insertionSort_l1b 0 n s.1 s.2) (fun k s => s.2 = ((k + 1 : Nat) : Int) ∧ ∃ h, s.1 = tb n h ∧ Prm n g h ∧ ∀ p q, p < q → q < k + 1 → le (h p) (h q)) (n - 1) (fun k s hk hs => ?_) (fun s hs => ?_) ⟨rfl, g, rfl, Prm.refl n g, fun p q h1 h2 => by omega⟩
 ·obtain ⟨xs, i⟩ := s
  obtain ⟨h1, h, h2, hp, hle⟩ := hs
  simp only at h1 h2
  subst h1 h2
  show Ok (s_insertionSort_l1b 0 n (tb n h) ((k + 1 : Nat) : Int)) _
  unfold s_insertionSort_l1b
  rw [if_pos (decide_eq_true (by omega))]
  unfold s_insertionSort_l2
  refine Ok.loopM (B := fun s => s_insertionSort_l2b 0 ((k + 1 : Nat) : Int) s.1 s.2) (fun s => ∃ (j : Nat) (h' : Nat → Sp), s = (tb n h', (j : Int)) ∧ j ≤ k + 1 ∧ Prm n g h' ∧ (∀ p q, p < q → q < k + 2 → p ≠ j → q ≠ j → le (h' p) (h' q)) ∧ (∀ q, j < q → q < k + 2 → le (h' j) (h' q))) (fun s => s.2.toNat) (fun s hs => ?_) ⟨k + 1, h, rfl, Nat.le_refl _, hp, fun p q h1 h2 h3 h4 => hle p q h1 (by omega), fun q h1 h2 => by omega⟩
  obtain ⟨j, h', rfl, hj, hp', hA, hB⟩ := hs
  show Ok (s_insertionSort_l2b 0 ((k + 1 : Nat) : Int) (tb n h') (j : Int)) _
  unfold s_insertionSort_l2b
  have fin : (∀ p, p < j → le (h' p) (h' j)) → Ok (s_insertionSort_k1 ((k + 1 : Nat) : Int) (tb n h') (j : Int) false) (Sum.elim (fun s' => (∃ (j : Nat) (h' : Nat → Sp), s' = (tb n h', (j : Int)) ∧ j ≤ k + 1 ∧ Prm n g h' ∧ (∀ p q, p < q → q < k + 2 → p ≠ j → q ≠ j → le (h' p) (h' q)) ∧ (∀ q, j < q → q < k + 2 → le (h' j) (h' q))) ∧ s'.2.toNat < ((tb n h', (j : Int)) : List Sp × Int).2.toNat) (Sum.elim (fun s => s.2 = ((k + 1 + 1 : Nat) : Int) ∧ ∃ h, s.1 = tb n h ∧ Prm n g h ∧ ∀ p q, p < q → q < k + 1 + 1 → le (h p) (h q)) (fun r => ∃ h, r = tb n h ∧ Prm n g h ∧ ∀ p q, p < q → q < n → le (h p) (h q)))) := by
   intro hC
   unfold s_insertionSort_k1
   rw [if_neg (by decide)]
   refine .map (.ret ⟨w64_succ (by omega), h', rfl, hp', fun p q h1 h2 => ?_⟩)
   by_cases hpj : p = j
   ·subst hpj; exact hB q h1 (by omega)
   ·by_cases hqj : q = j
    ·subst hqj; exact hC p h1
    ·exact hA p q h1 (by omega) hpj hqj
  refine .ite (fun hc => ?_) (fun hc => ?_)
  ·have hj0 : 0 < j := by simp at hc; exact hc
   have hjn : j < n := by omega
   have hw : w64 ((j : Int) - 1) = ((j - 1 : Nat) : Int) := by rw [w64_id (by omega) (by omega)]; omega
   rw [ix_tb hjn, hw, ix_tb (show j - 1 < n by omega)]
   simp only [Option.bind_some]
   refine (cmp_is (hbp h' hp' j hjn) (hbp h' hp' (j - 1) (by omega))).bind fun r hr => ?_
   cases hd : decide (r < 0) with
   | false =>
    have hr0 : ¬ r < 0 := by simpa using hd
    refine fin fun p hpj => ?_
    by_cases h5 : p = j - 1
    ·subst h5; exact hr.2 hr0
    ·exact le_trans (hA p (j - 1) (by omega) (by omega) (by omega) (by omega)) (hr.2 hr0)
   | true =>
    have hr0 : r < 0 := by simpa using hd
    unfold s_insertionSort_k1
    rw [if_pos rfl, hw, ix_tb (show j - 1 < n by omega), ix_tb hjn]
    simp only [Option.bind_some]
    rw [Int.toNat_natCast, Int.toNat_natCast, tb_set, ix_tb (show j - 1 < n by omega)]
    simp only [Option.bind_some]
    rw [tb_set]
    have hsw : tb n (fun q => if q = j - 1 then h' j else if q = j then h' (j - 1) else h' q) = tb n (swp h' j (j - 1)) := by
     apply tb_ext
     intro q hq
     unfold swp sw
     by_cases h5 : q = j
     ·subst h5; rw [if_neg (by omega), if_pos rfl, if_pos rfl]
     ·by_cases h6 : q = j - 1
      ·rw [if_pos h6, if_neg h5, if_pos h6]
      ·rw [if_neg h6, if_neg h5, if_neg h5, if_neg h6]
    rw [hsw]
    have e1 : swp h' j (j - 1) (j - 1) = h' j := by unfold swp sw; rw [if_neg (by omega), if_pos rfl]
    have e2 : swp h' j (j - 1) j = h' (j - 1) := by unfold swp sw; rw [if_pos rfl]
    have e3 : ∀ q, q ≠ j → q ≠ j - 1 → swp h' j (j - 1) q = h' q := fun q h1 h2 => by unfold swp sw; rw [if_neg h1, if_neg h2]
    refine .ret ⟨⟨j - 1, swp h' j (j - 1), rfl, by omega, hp'.swp hjn (by omega), fun p q h1 h2 h3 h4 => ?_, fun q h1 h2 => ?_⟩, ?_⟩
    ·by_cases hpj : p = j
     ·subst hpj
      rw [e2, e3 q (by omega) h4]
      exact hA (p - 1) q (by omega) h2 (by omega) (by omega)
     ·by_cases hqj : q = j
      ·subst hqj
       rw [e2, e3 p hpj h3]
       exact hA p (q - 1) (by omega) (by omega) hpj (by omega)
      ·rw [e3 p hpj h3, e3 q hqj h4]
       exact hA p q h1 h2 hpj hqj
    ·rw [e1]
     by_cases hqj : q = j
     ·subst hqj; rw [e2]; exact hr.1 hr0
     ·rw [e3 q hqj (by omega)]; exact hB q (by omega) h2
    ·show ((j - 1 : Nat) : Int).toNat < (j : Int).toNat
     omega
  ·have hj0 : j = 0 := by simp at hc; omega
   exact fin fun p hp => by omega
 ·obtain ⟨xs, i⟩ := s
  obtain ⟨h1, h, h2, hp, hle⟩ := hs
  simp only at h1 h2
  subst h1 h2
  show Ok (s_insertionSort_l1b 0 n (tb n h) ((n - 1 + 1 : Nat) : Int)) _
  unfold s_insertionSort_l1b
  rw [if_neg (by simp; omega)]
  exact .map (.ret ⟨h, rfl, hp, fun p q h1 h2 => hle p q h1 (by omega)⟩)
end
section
theorem recO_const {α ρ : Type} {F : (α → Option ρ) → α → Option ρ} {a : α} {r : ρ} (h : ∀ f, F f a = some r) : recO F a = some r := by
 unfold recO
 have hex : ∃ n r, itF F n a = some r := ⟨1, r, h _⟩
 rw [dif_pos hex]
 obtain ⟨r', hr'⟩ := hex.choose_spec
 cases hc : hex.choose with
 | zero => rw [hc] at hr'; cases hr'
 | succ n => exact h _
theorem Len_ok (n : Nat) (hn : n ≤ 200) : Ok (math_bits_Len (IntKind.wrap .u64 (n : Int))) (fun _ => True) := by
 have hw : IntKind.wrap .u64 (n : Int) = (n : Int) := by
  unfold IntKind.wrap
  simp [IntKind.signed, IntKind.bits]
  omega
 have hw8 : IntKind.wrap .u8 (n : Int) = (n : Int) := by
  unfold IntKind.wrap
  simp [IntKind.signed, IntKind.bits]
  omega
 have hs : str1.size = 256 := by decide +kernel
 have k3 : ∀ x, Ok (math_bits_Len64_k3 (n : Int) x) (fun _ => True) := by
  intro x
  unfold math_bits_Len64_k3
  rw [hw8]
  have hlt : n < str1.size := by omega
  unfold ixS
  rw [if_pos (by omega), show ((n : Int)).toNat = n from rfl, getElem?_pos str1 n hlt]
  exact .ret trivial
 rw [hw]
 unfold math_bits_Len math_bits_Len64 math_bits_Len64_k1 math_bits_Len64_k2
 rw [if_neg (by simp; omega), if_neg (by simp; omega), if_neg (by simp; omega)]
 exact (k3 0).bind fun _ _ => .ret trivial
theorem Sort_is (n : Nat) (hn : n ≤ 12) (g : Nat → Sp) (hb : ∀ k, k < n → bnd (g k)) : Ok (slices_SortFunc (tb n g)) (fun r => ∃ h, r = tb n h ∧ Prm n g h ∧ ∀ p q, p < q → q < n → le (h p) (h q)) := by
 unfold slices_SortFunc
 rw [tb_len]
 refine (Len_ok n (by omega)).bind fun L _ => ?_
 obtain ⟨r, hr, hP⟩ := insertion_is n (by omega) g hb
 refine Ok.bind (P := fun x => x = r) (.of_eq ?_) (fun x hx => by subst hx; exact .ret hP)
 unfold s_pdqsort
 refine recO_const fun f => ?_
 show s_pdqsort_F (fun p0 p1 p2 p3 => f (p0, p1, p2, p3)) (tb n g) 0 n L = some r
 unfold s_pdqsort_F s_pdqsort_l1
 rw [loopO_eq]
 show (s_pdqsort_l1b _ (tb n g) 0 n L true true).bind _ = _
 unfold s_pdqsort_l1b
 rw [if_pos (by rw [w64_id (by omega) (by omega)]; simp; omega), hr]
 rfl
structure Gr (T : Int → Int → Prop) (l : List Sp) : Prop where
 nd : l.Pairwise (fun a b => a.reg ≠ b.reg)
 sound : ∀ s ∈ l, T s.reg s.from_ ∧ T s.reg s.to_
 full : ∀ r k, T r k → ∃ s ∈ l, s.reg = r ∧ s.from_ ≤ k ∧ k ≤ s.to_
theorem Gr.nil : Gr (fun _ _ => False) [] := ⟨.nil, fun s h => (by cases h), fun r k h => h.elim⟩
theorem Gr.congr {T T' : Int → Int → Prop} {l : List Sp} (h : Gr T l) (e : ∀ r k, T r k ↔ T' r k) : Gr T' l :=
 ⟨h.nd, fun s hs => ⟨(e _ _).1 (h.sound s hs).1, (e _ _).1 (h.sound s hs).2⟩, fun r k ht => h.full r k ((e r k).2 ht)⟩
theorem find_ok (l : List Sp) (r : Int) (hl : l.length ≤ 1000) : Ok (slices_IndexFunc_2 l r) (fun i => (i = -1 ∧ ∀ s ∈ l, s.reg ≠ r) ∨ ∃ (k : Nat) (s : Sp), i = (k : Int) ∧ l[k]? = some s ∧ s.reg = r) := by
 unfold slices_IndexFunc_2 slices_IndexFunc_2_l1
 refine loop_for l (fun k s => s = (k : Int) ∧ ∀ y ∈ l.take k, y.reg ≠ r) (fun k x s hk' hk hs => ?_) (fun s hs => ?_) ⟨rfl, by simp⟩
 ·obtain ⟨rfl, hs⟩ := hs
  unfold slices_IndexFunc_2_l1b flow_grow_c1
  rw [if_pos (by simp; omega), ix_nat, hk]
  simp only [Option.bind_some]
  refine .ite (fun hb => .map (.ret (.inr ⟨k, x, rfl, hk, by simpa using hb⟩))) (fun hb => .ret ⟨w64_succ (by omega), fun y hy => ?_⟩)
  rw [mem_take_succ hk'] at hy
  rcases hy with hy | rfl
  ·exact hs y hy
  ·rw [List.getElem?_eq_getElem hk'] at hk
   rw [Option.some.inj hk]; simpa using hb
 ·obtain ⟨rfl, hs⟩ := hs
  unfold slices_IndexFunc_2_l1b
  rw [if_neg (by simp)]
  rw [List.take_length] at hs
  exact .map (.ret (.inl ⟨rfl, hs⟩))
theorem grow_is {T : Int → Int → Prop} {l : List Sp} (g : Gr T l) (hl : l.length ≤ 1000) (r k : Int) : Ok (flow_grow l r k) (fun l' => Gr (fun r' k' => T r' k' ∨ (r' = r ∧ k' = k)) l' ∧ l'.length ≤ l.length + 1) := by
 unfold flow_grow
 refine (find_ok l r hl).bind fun i hi => ?_
 rcases hi with ⟨rfl, hn⟩ | ⟨j, s, rfl, hj, hs⟩
 ·rw [if_pos (by decide), ap_some (by simp; omega)]
  simp only [Option.bind_some]
  refine .ret ⟨⟨?_, fun s hs => ?_, fun r' k' ht => ?_⟩, by simp⟩
  ·rw [List.pairwise_append]
   exact ⟨g.nd, by simp, fun a ha b hb => by rcases List.mem_singleton.1 hb with rfl; exact hn a ha⟩
  ·rcases List.mem_append.1 hs with hs | hs
   ·exact ⟨.inl (g.sound s hs).1, .inl (g.sound s hs).2⟩
   ·rcases List.mem_singleton.1 hs with rfl; exact ⟨.inr ⟨rfl, rfl⟩, .inr ⟨rfl, rfl⟩⟩
  ·rcases ht with ht | ⟨rfl, rfl⟩
   ·obtain ⟨s, hs, h1⟩ := g.full r' k' ht
    exact ⟨s, List.mem_append_left _ hs, h1⟩
   ·exact ⟨_, List.mem_append_right _ (List.mem_singleton.2 rfl), rfl, Int.le_refl _, Int.le_refl _⟩
 ·have hjl := (List.getElem?_eq_some_iff.1 hj).1
  rw [if_neg (by simp), ix_nat, hj]
  simp only [Option.bind_some, Int.toNat_natCast]
  rw [ix_nat, List.getElem?_set_self hjl]
  simp only [Option.bind_some]
  rw [List.set_set]
  generalize hs' : (⟨s.reg, min s.from_ k, max s.to_ k⟩ : Sp) = s'
  have e1 : s'.reg = s.reg := by rw [← hs']
  have e2 : s'.from_ = min s.from_ k := by rw [← hs']
  have e3 : s'.to_ = max s.to_ k := by rw [← hs']
  have hmem : ∀ x, x ∈ l.set j s' → x = s' ∨ (x ∈ l ∧ x.reg ≠ r) := by
   intro x hx
   obtain ⟨m, hm, hmx⟩ := List.mem_iff_getElem.1 hx
   rw [List.getElem_set] at hmx
   split at hmx
   ·exact .inl hmx.symm
   ·rename_i hne
    rw [List.length_set] at hm
    refine .inr ⟨hmx ▸ List.getElem_mem hm, ?_⟩
    have hsj : s = l[j] := by rw [List.getElem?_eq_getElem hjl] at hj; exact (Option.some.inj hj).symm
    rw [← hs, ← hmx, hsj]
    rcases Nat.lt_or_gt_of_ne hne with h | h
    ·exact fun e => (List.pairwise_iff_getElem.1 g.nd j m hjl hm h) e.symm
    ·exact List.pairwise_iff_getElem.1 g.nd m j hm hjl h
  have hsin : s' ∈ l.set j s' := List.mem_iff_getElem.2 ⟨j, by simpa using hjl, by simp⟩
  have hsl := g.sound s (List.mem_of_getElem? hj)
  refine .ret ⟨⟨?_, fun x hx => ?_, fun r' k' ht => ?_⟩, by simp⟩
  ·rw [List.pairwise_iff_getElem]
   intro a b ha hb hab
   rw [List.length_set] at ha hb
   rw [List.getElem_set, List.getElem_set]
   have hp := List.pairwise_iff_getElem.1 g.nd
   have hsj : l[j].reg = s.reg := by rw [List.getElem?_eq_getElem hjl] at hj; rw [Option.some.inj hj]
   by_cases h1 : j = a
   ·subst h1
    rw [if_pos rfl, if_neg (by omega), e1, ← hsj]
    exact hp _ _ ha hb hab
   ·rw [if_neg h1]
    by_cases h2 : j = b
    ·subst h2
     rw [if_pos rfl, e1, ← hsj]
     exact hp _ _ ha hb hab
    ·rw [if_neg h2]; exact hp _ _ ha hb hab
  ·rcases hmem x hx with rfl | ⟨hx, _⟩
   ·rw [e1, e2, e3]
    constructor
    ·by_cases h : s.from_ ≤ k
     ·rw [show min s.from_ k = s.from_ from by omega]; exact .inl hsl.1
     ·rw [show min s.from_ k = k from by omega]; exact .inr ⟨hs, rfl⟩
    ·by_cases h : k ≤ s.to_
     ·rw [show max s.to_ k = s.to_ from by omega]; exact .inl hsl.2
     ·rw [show max s.to_ k = k from by omega]; exact .inr ⟨hs, rfl⟩
   ·exact ⟨.inl (g.sound x hx).1, .inl (g.sound x hx).2⟩
  ·have hgo : (T r' k' ∨ (r' = r ∧ k' = k)) → r' = r → s.from_ ≤ k' ∧ k' ≤ s.to_ ∨ k' = k := by
    rintro (h | h) hr
    ·obtain ⟨x, hx, h1, h2, h3⟩ := g.full r' k' h
     obtain ⟨m, hm, hmx⟩ := List.mem_iff_getElem.1 hx
     have hmj : m = j := by
      by_cases hne : m = j
      ·exact hne
      ·have hp := List.pairwise_iff_getElem.1 g.nd
       have hsj : l[j].reg = r := by rw [List.getElem?_eq_getElem hjl] at hj; rw [Option.some.inj hj]; exact hs
       rcases Nat.lt_or_gt_of_ne hne with h | h
       ·exact (hp m j hm hjl h (by rw [hmx, hsj, h1, hr])).elim
       ·exact (hp j m hjl hm h (by rw [hmx, hsj, h1, hr])).elim
     subst hmj
     rw [List.getElem?_eq_getElem hm] at hj
     have : x = s := by rw [← hmx]; exact Option.some.inj hj
     rw [← this]; exact .inl ⟨h2, h3⟩
    ·exact .inr h.2
   by_cases hr : r' = r
   ·refine ⟨s', hsin, by rw [e1, hs, hr], ?_⟩
    rw [e2, e3]
    rcases hgo ht hr with h | h <;> omega
   ·rcases ht with ht | h
    ·obtain ⟨x, hx, h1, h2⟩ := g.full r' k' ht
     refine ⟨x, ?_, h1, h2⟩
     obtain ⟨m, hm, hmx⟩ := List.mem_iff_getElem.1 hx
     have hmj : j ≠ m := by
      intro e
      subst e
      rw [List.getElem?_eq_getElem hm] at hj
      have : x = s := by rw [← hmx]; exact Option.some.inj hj
      rw [this, hs] at h1
      exact hr h1.symm
     exact List.mem_iff_getElem.2 ⟨m, by simpa using hm, by rw [List.getElem_set, if_neg hmj]; exact hmx⟩
    ·exact (hr h.1).elim
end
section
theorem Sort41 (n : Nat) (hn : n < 42) (g : Nat → Sp) (hb : ∀ k, k < n → bnd (g k)) (hi : ∀ i j, i < n → j < n → (g i).reg = (g j).reg → i = j) :
  Ok (slices_SortFunc (tb n g)) (fun r => ∃ h, r = tb n h ∧ Prm n g h ∧ ∀ p q, p < q → q < n → le (h p) (h q)) := by
 have ht : Q.Tb n g := ⟨fun k hk => hb k hk⟩
 have hj : Q.Inj n g := fun i j h1 h2 h3 => hi i j h1 h2 (by
  have a := hb i h1
  have b := hb j h2
  unfold bnd at a b
  unfold Q.ky at h3
  omega)
 refine (Q.Sort_is hn ht hj).mono ?_
 rintro r ⟨h, rfl, ⟨p, q, hp⟩, hs⟩
 have hin : ∀ k, k < n → p k < n := fun k hk => (hp.ins k (Nat.zero_le _) hk).2
 refine ⟨h, rfl, ⟨p, fun k hk => ⟨hin k hk, hp.map k⟩, fun i j _ _ h3 => ?_, fun k hk => ⟨q k, ?_, (hp.inv k).1⟩⟩, fun i j h1 h2 => ?_⟩
 ·have e1 := (hp.inv i).2
  have e2 := (hp.inv j).2
  rw [← e1, h3, e2]
 ·refine Classical.not_not.1 fun hc => ?_
  have e := hp.out (q k) (.inr (by omega))
  rw [(hp.inv k).1] at e
  omega
 ·have key : ∀ k, k < n → bnd (h k) := fun k hk => by rw [hp.map k]; exact hb _ (hin k hk)
  have a := key i (by omega)
  have b := key j h2
  have c := hs i j (Nat.zero_le _) h1 h2
  unfold Q.ky at c
  unfold bnd at a b
  unfold le
  omega
end
section
def Tc (f : TFunc) (m : Nat) (r k : Int) : Prop :=
 (0 ≤ r ∧ r < f.params ∧ k = 0) ∨ ∃ (q : Nat) (x : TIns), k = (q : Int) ∧ q < m ∧ f.code[q]? = some x ∧ 0 ≤ r ∧ (Nd f r q ∨ us x r ∨ x.d = r)
theorem Tc_succ {f : TFunc} {m : Nat} {x : TIns} (hx : f.code[m]? = some x) (r k : Int) : Tc f (m + 1) r k ↔ Tc f m r k ∨ (k = (m : Int) ∧ 0 ≤ r ∧ (Nd f r m ∨ us x r ∨ x.d = r)) := by
 unfold Tc
 constructor
 ·rintro (h | ⟨q, y, h1, h2, h3, h4, h5⟩)
  ·exact .inl (.inl h)
  ·by_cases hq : q = m
   ·subst hq
    rw [hx] at h3; cases h3
    exact .inr ⟨h1, h4, h5⟩
   ·exact .inl (.inr ⟨q, y, h1, by omega, h3, h4, h5⟩)
 ·rintro ((h | ⟨q, y, h1, h2, h3, h4⟩) | ⟨h1, h2, h3⟩)
  ·exact .inl h
  ·exact .inr ⟨q, y, h1, by omega, h3, h4⟩
  ·exact .inr ⟨m, x, h1, by omega, hx, h2, h3⟩
theorem ins_d {f : TFunc} {x : TIns} (h : ref08_ins f x = some true) : x.d = -1 ∨ (0 ≤ x.d ∧ x.d < f.regs) := by
 unfold ref08_ins at h
 split at h
 ·cases h
 ·obtain ⟨t, _, h⟩ := bindS h
  split at h
  ·split at h
   ·cases h
   ·exact (k1_inv h).2.2.1
  ·exact (k1_inv h).2.2.1
theorem Gr.len {T : Int → Int → Prop} {l : List Sp} {R : Nat} (g : Gr T l) (h : ∀ r k, T r k → 0 ≤ r ∧ r < R) : l.length ≤ R := by
 have := nodup_len R (l.map (fun s => s.reg + 1)) ?_ ?_
 ·simpa using this
 ·rw [List.nodup_iff_pairwise_ne, List.pairwise_map]
  exact g.nd.imp (fun h => by omega)
 ·intro x hx
  obtain ⟨s, hs, rfl⟩ := List.mem_map.1 hx
  have := h _ _ (g.sound s hs).1
  omega
section
variable {f : TFunc} {R : Nat}
structure Hy (f : TFunc) (R : Nat) : Prop where
 len : f.code.length ≤ 60
 reg : f.regs = (R : Int)
 hR : R ≤ 40
 args : ∀ x ∈ f.code, x.args.length ≤ 17592186044000
 argz : ∀ x ∈ f.code, x.args.length ≤ 17592186044000
 good : Good f
theorem Hy.use (y : Hy f R) {x : TIns} (hx : x ∈ f.code) {r : Int} (h0 : 0 ≤ r) (h : us x r ∨ x.d = r) : r < R := by
 have hi := ins_inv (by have := y.args x hx; omega) (y.good.2.2.2 x hx).1
 have hd := ins_d (y.good.2.2.2 x hx).1
 have hreg := y.reg
 rcases h with (hu | hu | hu) | hu
 ·rcases hi.1 with h | h <;> omega
 ·rcases hi.2.1 with h | h <;> omega
 ·have := hi.2.2 r hu; omega
 ·rcases hd with h | h <;> omega
theorem Hy.nd (y : Hy f R) {r : Int} (h0 : 0 ≤ r) {k : Nat} (h : Nd f r k) : r < R := by
 induction h with
 | use k x hk hu => exact y.use (List.mem_of_getElem? hk) h0 (.inl hu)
 | go k x j hk hd hj _ ih => exact ih
theorem Hy.tc (y : Hy f R) {m : Nat} {r k : Int} (h : Tc f m r k) : (0 ≤ r ∧ r < R) ∧ (0 ≤ k ∧ k ≤ m) := by
 have hp := y.good.2.2.1
 have hreg := y.reg
 rcases h with ⟨h1, h2, h3⟩ | ⟨q, x, h1, h2, h3, h4, h5⟩
 ·omega
 ·refine ⟨⟨h4, ?_⟩, by omega⟩
  rcases h5 with h5 | h5
  ·exact y.nd h4 h5
  ·exact y.use (List.mem_of_getElem? h3) h4 h5
theorem Hy.glen (y : Hy f R) {T : Int → Int → Prop} {l : List Sp} (g : Gr T l) (h : ∀ r k, T r k → 0 ≤ r ∧ r < R) : l.length ≤ 1000 := by
 have := g.len h; have := y.hR; omega
theorem Spans_is (y : Hy f R) : Ok (flow_Spans f) (fun l => Gr (Tc f f.code.length) l ∧ ∀ (i : Nat) a b, l[i]? = some a → l[i + 1]? = some b → le a b) := by
 have hlen := y.len
 have hreg := y.reg
 have hR := y.hR
 have hpar := y.good.2.1
 have hpar2 := y.good.2.2.1
 unfold flow_Spans flow_Spans_l1
 obtain ⟨p, hp⟩ := Int.eq_ofNat_of_zero_le hpar
 refine Ok.loop (B := fun s => flow_Spans_l1b f s.1 s.2) (fun m s => s.2 = (m : Int) ∧ Gr (fun r k => 0 ≤ r ∧ r < m ∧ k = 0) s.1) p (fun m s hm hs => ?_) (fun s hs => ?_) ⟨rfl, Gr.nil.congr (fun r k => ⟨fun h => h.elim, fun h => by omega⟩)⟩
 ·obtain ⟨l, i⟩ := s
  obtain ⟨h1, g⟩ := hs
  simp only at h1 g
  subst h1
  show Ok (flow_Spans_l1b f l m) _
  unfold flow_Spans_l1b
  rw [if_pos (decide_eq_true (by omega))]
  refine (grow_is g (y.glen g (fun r k h => by omega)) m 0).bind fun l' hl' => .ret ⟨w64_succ (by omega), hl'.1.congr (fun r k => ?_)⟩
  constructor
  ·rintro (h | h) <;> omega
  ·rintro ⟨h1, h2, h3⟩
   by_cases hr : r = (m : Int)
   ·exact .inr ⟨hr, h3⟩
   ·exact .inl (by omega)
 ·obtain ⟨l, i⟩ := s
  obtain ⟨h1, g⟩ := hs
  simp only at h1 g
  subst h1
  show Ok (flow_Spans_l1b f l p) _
  unfold flow_Spans_l1b
  rw [if_neg (by simp; omega)]
  refine .map ?_
  refine (Live_is f R (by omega) (by omega) (by omega) y.args).bind fun L hL => ?_
  obtain ⟨G, rfl, hG⟩ := hL
  unfold flow_Spans_l2
  refine Ok.loop (B := fun s => flow_Spans_l2b f (tt f.code.length R G) s.1 s.2) (fun m s => s.2 = (m : Int) ∧ Gr (Tc f m) s.1) f.code.length (fun m s hm hs => ?_) (fun s hs => ?_) ⟨rfl, g.congr (fun r k => ?_)⟩
  ·obtain ⟨l, i⟩ := s
   obtain ⟨h1, g⟩ := hs
   simp only at h1 g
   subst h1
   have hx : f.code[m]? = some f.code[m] := List.getElem?_eq_getElem hm
   have hxm : f.code[m] ∈ f.code := List.getElem_mem hm
   generalize f.code[m] = x at hx hxm
   show Ok (flow_Spans_l2b f _ l m) _
   unfold flow_Spans_l2b
   rw [if_pos (decide_eq_true (by rw [tb_len]; omega)), ix_tb hm]
   simp only [Option.bind_some]
   unfold flow_Spans_l3
   refine Ok.loop (B := fun s => flow_Spans_l3b f m (tb R (G m)) s.1 s.2) (fun r s => s.2 = (r : Int) ∧ Gr (fun r' k => Tc f m r' k ∨ (k = (m : Int) ∧ 0 ≤ r' ∧ r' < r ∧ Nd f r' m)) s.1) R (fun r s hr hs => ?_) (fun s hs => ?_) ⟨rfl, g.congr (fun r' k => ⟨.inl, fun h => h.elim id (fun h => by omega)⟩)⟩
   ·obtain ⟨l, i⟩ := s
    obtain ⟨h1, g⟩ := hs
    simp only at h1 g
    subst h1
    show Ok (flow_Spans_l3b f m _ l r) _
    unfold flow_Spans_l3b flow_Spans_k1
    rw [if_pos (decide_eq_true (by rw [tb_len]; omega)), ix_tb hr]
    simp only [Option.bind_some]
    have hrg : ∀ r' k, (Tc f m r' k ∨ (k = (m : Int) ∧ 0 ≤ r' ∧ r' < r ∧ Nd f r' m)) → 0 ≤ r' ∧ r' < R := by
     rintro r' k (h | h)
     ·exact (y.tc h).1
     ·omega
    refine .ite (fun hb => ?_) (fun hb => .ret ⟨w64_succ (by omega), g.congr (fun r' k => ?_)⟩)
    ·have hnd := (hG m r hm hr).1 hb
     refine (grow_is g (y.glen g hrg) r m).bind fun l' hl' => .ret ⟨w64_succ (by omega), hl'.1.congr (fun r' k => ?_)⟩
     constructor
     ·rintro ((h | h) | ⟨h1, h2⟩)
      ·exact .inl h
      ·exact .inr ⟨h.1, h.2.1, by omega, h.2.2.2⟩
      ·exact .inr ⟨h2, by omega, by omega, by rw [h1]; exact hnd⟩
     ·rintro (h | ⟨h1, h2, h3, h4⟩)
      ·exact .inl (.inl h)
      ·by_cases he : r' = (r : Int)
       ·exact .inr ⟨he, h1⟩
       ·exact .inl (.inr ⟨h1, h2, by omega, h4⟩)
    ·have hnd : ¬ Nd f r m := fun h => by rw [(hG m r hm hr).2 h] at hb; cases hb
     constructor
     ·rintro (h | h)
      ·exact .inl h
      ·exact .inr ⟨h.1, h.2.1, by omega, h.2.2.2⟩
     ·rintro (h | ⟨h1, h2, h3, h4⟩)
      ·exact .inl h
      ·by_cases he : r' = (r : Int)
       ·rw [he] at h4; exact (hnd h4).elim
       ·exact .inr ⟨h1, h2, by omega, h4⟩
   ·obtain ⟨l, i⟩ := s
    obtain ⟨h1, g⟩ := hs
    simp only at h1 g
    subst h1
    show Ok (flow_Spans_l3b f m _ l R) _
    unfold flow_Spans_l3b
    rw [if_neg (by simp), ix_nat, hx]
    simp only [Option.bind_some]
    refine .map ?_
    refine (Uses_ok x (y.args x hxm)).bind fun u hu => ?_
    unfold ir_Def
    simp only [Option.bind_some]
    rw [apw_some (by simp; have := hu.1; omega)]
    simp only [Option.bind_some]
    unfold flow_Spans_l4
    have hul := hu.1
    refine loop_for (B := fun s => flow_Spans_l4b m (u ++ [x.d]) s.1 s.2) (u ++ [x.d]) (fun j s => s.2 = (j : Int) ∧ Gr (fun r' k => (Tc f m r' k ∨ (k = (m : Int) ∧ 0 ≤ r' ∧ r' < R ∧ Nd f r' m)) ∨ (k = (m : Int) ∧ 0 ≤ r' ∧ r' ∈ (u ++ [x.d]).take j)) s.1) (fun j z s hj' hj hs => ?_) (fun s hs => ?_) ⟨rfl, g.congr (fun r' k => ⟨.inl, fun h => h.elim id (fun h => by simp at h)⟩)⟩
    ·obtain ⟨l, i⟩ := s
     obtain ⟨h1, g⟩ := hs
     simp only at h1 g
     subst h1
     show Ok (flow_Spans_l4b m _ l j) _
     unfold flow_Spans_l4b flow_Spans_k2
     have hj2 : j < 17592186044003 := by simp at hj'; omega
     rw [if_pos (decide_eq_true (by omega)), ix_nat, hj]
     simp only [Option.bind_some]
     have huse : ∀ r', 0 ≤ r' → r' ∈ u ++ [x.d] → us x r' ∨ x.d = r' := by
      intro r' h0 h
      rcases List.mem_append.1 h with h | h
      ·exact .inl ((hu.2 r').1 h).2
      ·exact .inr (List.mem_singleton.1 h).symm
     have hrg : ∀ r' k, ((Tc f m r' k ∨ (k = (m : Int) ∧ 0 ≤ r' ∧ r' < R ∧ Nd f r' m)) ∨ (k = (m : Int) ∧ 0 ≤ r' ∧ r' ∈ (u ++ [x.d]).take j)) → 0 ≤ r' ∧ r' < R := by
      rintro r' k ((h | h) | ⟨_, h1, h2⟩)
      ·exact (y.tc h).1
      ·omega
      ·exact ⟨h1, y.use hxm h1 (huse r' h1 (List.mem_of_mem_take h2))⟩
     have hz : (u ++ [x.d])[j] = z := by rw [List.getElem?_eq_getElem hj'] at hj; exact Option.some.inj hj
     refine .ite (fun hb => ?_) (fun hb => .ret ⟨w64_succ (by omega), g.congr (fun r' k => ?_)⟩)
     ·have hz0 : 0 ≤ z := by simpa using hb
      refine (grow_is g (y.glen g hrg) z m).bind fun l' hl' => .ret ⟨w64_succ (by omega), hl'.1.congr (fun r' k => ?_)⟩
      rw [mem_take_succ hj', hz]
      constructor
      ·rintro ((h | h) | ⟨h1, h2⟩)
       ·exact .inl h
       ·exact .inr ⟨h.1, h.2.1, .inl h.2.2⟩
       ·exact .inr ⟨h2, by omega, .inr h1⟩
      ·rintro (h | ⟨h1, h2, h3 | h3⟩)
       ·exact .inl (.inl h)
       ·exact .inl (.inr ⟨h1, h2, h3⟩)
       ·exact .inr ⟨h3, h1⟩
     ·have hz0 : z < 0 := by simpa using hb
      rw [mem_take_succ hj', hz]
      constructor
      ·rintro (h | h)
       ·exact .inl h
       ·exact .inr ⟨h.1, h.2.1, .inl h.2.2⟩
      ·rintro (h | ⟨h1, h2, h3 | h3⟩)
       ·exact .inl h
       ·exact .inr ⟨h1, h2, h3⟩
       ·omega
    ·obtain ⟨l, i⟩ := s
     obtain ⟨h1, g⟩ := hs
     simp only at h1 g
     subst h1
     show Ok (flow_Spans_l4b m _ l _) _
     unfold flow_Spans_l4b
     rw [if_neg (by simp)]
     rw [List.take_length] at g
     refine .map (.ret ⟨w64_succ (by omega), g.congr (fun r' k => ?_)⟩)
     rw [Tc_succ hx]
     constructor
     ·rintro ((h | h) | ⟨h1, h2, h3⟩)
      ·exact .inl h
      ·exact .inr ⟨h.1, h.2.1, .inl h.2.2.2⟩
      ·refine .inr ⟨h1, h2, ?_⟩
       rcases List.mem_append.1 h3 with h | h
       ·exact .inr (.inl ((hu.2 r').1 h).2)
       ·exact .inr (.inr (List.mem_singleton.1 h).symm)
     ·rintro (h | ⟨h1, h2, h3 | h3 | h3⟩)
      ·exact .inl (.inl h)
      ·exact .inl (.inr ⟨h1, h2, y.nd h2 h3, h3⟩)
      ·exact .inr ⟨h1, h2, List.mem_append_left _ ((hu.2 r').2 ⟨h2, h3⟩)⟩
      ·exact .inr ⟨h1, h2, List.mem_append_right _ (List.mem_singleton.2 h3.symm)⟩
  ·obtain ⟨l, i⟩ := s
   obtain ⟨h1, g⟩ := hs
   simp only at h1 g
   subst h1
   show Ok (flow_Spans_l2b f _ l _) _
   unfold flow_Spans_l2b
   rw [if_neg (by simp)]
   have hll := g.len (fun r k h => (y.tc h).1)
   have hl := tb_of l (⟨0, 0, 0⟩ : Sp)
   generalize hn : l.length = n at hl hll
   generalize hg : (fun i => l.getD i (⟨0, 0, 0⟩ : Sp)) = gg at hl
   have hmem : ∀ k, k < n → l[k]? = some (gg k) := by intro k hk; rw [hl, tb_get?, if_pos hk]
   have hbn : ∀ k, k < n → bnd (gg k) := by
    intro k hk
    have := g.sound _ (List.mem_of_getElem? (hmem k hk))
    have h1 := y.tc this.1
    unfold bnd; omega
   refine .map ?_
   rw [hl]
   have hinj : ∀ i j, i < n → j < n → (gg i).reg = (gg j).reg → i = j := fun i j hi hj e => by
    have hp := List.pairwise_iff_getElem.1 g.nd
    have e2 : ∀ k (hk : k < l.length), l[k] = gg k := by
     intro k hk
     have := hmem k (by omega)
     rw [List.getElem?_eq_getElem hk] at this
     exact Option.some.inj this
    rcases Nat.lt_trichotomy i j with h | h | h
    ·have := hp i j (by omega) (by omega) h
     rw [e2, e2] at this
     exact (this e).elim
    ·exact h
    ·have := hp j i (by omega) (by omega) h
     rw [e2, e2] at this
     exact (this e.symm).elim
   refine (Sort41 n (by omega) gg hbn hinj).bind fun r hr => .ret ?_
   obtain ⟨h, rfl, ⟨π, hπ1, hπ2, hπ3⟩, hle⟩ := hr
   have hmem2 : ∀ s, s ∈ tb n h ↔ s ∈ l := by
    intro s
    constructor
    ·intro hs
     obtain ⟨k, hk, rfl⟩ := mem_tb hs
     rw [(hπ1 k hk).2]
     exact List.mem_of_getElem? (hmem _ (hπ1 k hk).1)
    ·intro hs
     obtain ⟨k, hk, hks⟩ := List.mem_iff_getElem.1 hs
     have hkn : k < n := by omega
     obtain ⟨j, hj, rfl⟩ := hπ3 k hkn
     have : s = h j := by
      rw [(hπ1 j hj).2]
      have := hmem _ hkn
      rw [List.getElem?_eq_getElem hk, hks] at this
      exact Option.some.inj this
     rw [this]
     exact List.mem_of_getElem? (i := j) (by rw [tb_get?, if_pos hj])
   refine ⟨⟨?_, fun s hs => g.sound s ((hmem2 s).1 hs), fun r k ht => ?_⟩, fun i a b ha hb => ?_⟩
   ·rw [List.pairwise_iff_getElem]
    intro a b ha hb hab
    rw [tb_len] at ha hb
    have e : ∀ k (hk : k < (tb n h).length), (tb n h)[k] = h k := by
     intro k hk
     have : (tb n h)[k]? = some (h k) := by rw [tb_get?, if_pos (by simpa using hk)]
     rw [List.getElem?_eq_getElem hk] at this
     exact Option.some.inj this
    rw [e, e, (hπ1 a ha).2, (hπ1 b hb).2]
    have hne : π a ≠ π b := fun h => by have := hπ2 a b ha hb h; omega
    have hp := List.pairwise_iff_getElem.1 g.nd
    have e2 : ∀ k (hk : k < l.length), l[k] = gg k := by
     intro k hk
     have := hmem k (by omega)
     rw [List.getElem?_eq_getElem hk] at this
     exact Option.some.inj this
    have ha2 : π a < l.length := by rw [hn]; exact (hπ1 a ha).1
    have hb2 : π b < l.length := by rw [hn]; exact (hπ1 b hb).1
    rcases Nat.lt_or_gt_of_ne hne with h | h
    ·have := hp _ _ ha2 hb2 h; rwa [e2, e2] at this
    ·have := hp _ _ hb2 ha2 h; rw [e2, e2] at this; exact fun e => this e.symm
   ·obtain ⟨s, hs, h1⟩ := g.full r k ht
    exact ⟨s, (hmem2 s).2 hs, h1⟩
   ·rw [tb_get?] at ha hb
    split at ha
    ·split at hb
     ·cases ha; cases hb; exact hle _ _ (by omega) (by assumption)
     ·cases hb
    ·cases ha
  ·unfold Tc
   constructor
   ·rintro ⟨h1, h2, h3⟩; exact .inl ⟨h1, by omega, h3⟩
   ·rintro (⟨h1, h2, h3⟩ | ⟨q, _, _, h2, _⟩)
    ·exact ⟨h1, by omega, h3⟩
    ·omega
end
end
section
def fa : TFunc := ⟨ByteArray.empty, 1, 1, [(⟨15, (-1), 0, (-1), 0, [], 0, false, false⟩ : TIns)]⟩
abbrev x0 : TIns := ⟨15, (-1), 0, (-1), 0, [], 0, false, false⟩
theorem good_fa : Good fa := by
 obtain ⟨b, h1, h2⟩ := good_is fa (by decide) (by decide)
 have hins : ref08_ins fa x0 = some true := by
  have e : ref08_ins fa x0 = loopO (fun s => ref08_ins_l1b fa x0 (false, true, false, false) s) 0 := rfl
  rw [e, loopO_eq]
  rfl
 have h3 : ref08_Good fa = some true := by
  have e : ref08_Good fa = loopO (fun s => ref08_Good_l1b fa s) 0 := rfl
  rw [e, loopO_eq]
  have e2 : ref08_Good_l1b fa 0 = some (.inl 1) := by
   have e3 : ref08_Good_l1b fa 0 = (ref08_ins fa x0).bind fun x91 => (if !x91 then some true else (if decide (x0.op = 11) then (ref08_count fa x0.imm).bind fun x144 => some (decide (x144 ≠ 1)) else some false).bind fun y129 => some y129).bind fun y99 => if y99 then (some false).map Sum.inr else some (Sum.inl (w64 (0 + 1))) := rfl
   rw [e3, hins]
   rfl
  show (ref08_Good_l1b fa 0).bind _ = _
  rw [e2]
  show loopO _ 1 = _
  rw [loopO_eq]
  rfl
 rw [h3] at h1
 exact h2.1 (Option.some.inj h1).symm
theorem hy_fa : Hy fa 1 := ⟨by decide, rfl, by decide, by decide, by decide, good_fa⟩
theorem spans_fa : flow_Spans fa = some [⟨0, 0, 0⟩] := by
 obtain ⟨l, h1, h2, _⟩ := Spans_is hy_fa
 rw [h1]
 congr 1
 have tk : ∀ r k, Tc fa fa.code.length r k → r = 0 ∧ k = 0 := fun r k h => by
  have h3 := (hy_fa.tc h).1
  have h4 : k = 0 := by
   rcases (Tc_succ (f := fa) (m := 0) (x := ⟨15, (-1), 0, (-1), 0, [], 0, false, false⟩) rfl r k).1 h with h | h
   ·rcases h with h | ⟨q, _, hq, _⟩
    ·exact h.2.2
    ·omega
   ·exact h.1
  exact ⟨by omega, h4⟩
 have t0 : Tc fa fa.code.length 0 0 := (Tc_succ (f := fa) (m := 0) (x := ⟨15, (-1), 0, (-1), 0, [], 0, false, false⟩) rfl 0 0).2 (.inl (.inl ⟨by decide, by decide, rfl⟩))
 obtain ⟨s, hs, _⟩ := h2.full 0 0 t0
 have all0 : ∀ s ∈ l, s = ⟨0, 0, 0⟩ := fun s hs => by
  obtain ⟨a, b⟩ := h2.sound s hs
  have q1 := tk _ _ a
  have q2 := tk _ _ b
  obtain ⟨x, y, z⟩ := s
  simp only at q1 q2
  rw [q1.1, q1.2, q2.2]
 cases l with
 | nil => cases hs
 | cons a l =>
  cases l with
  | nil => rw [all0 a (by simp)]
  | cons b l =>
   have := h2.nd
   rw [List.pairwise_cons] at this
   exact (this.1 b (by simp) (by rw [all0 a (by simp), all0 b (by simp)])).elim
theorem alive_is : law13_alive = some true := by
 have h10 : regs_Assign fa = loopO (fun s => regs_Assign_l1b fa [0] (List.replicate 10 false) s.1 s.2) ([0], 0) := rfl
 have ha : regs_Assign fa = some ⟨[0], 0⟩ := by
  rw [h10, loopO_eq]
  show loopO (fun s => regs_Assign_l1b fa [0] (List.replicate 10 false) s.1 s.2) ([-1], 1) = _
  rw [loopO_eq]
  show ((regs_Assign_l2 fa (List.replicate 10 false) [-1] (List.replicate 10 false) 0).map Sum.inr).bind _ = _
  have h2 : regs_Assign_l2 fa (List.replicate 10 false) [-1] (List.replicate 10 false) 0 = some ⟨[0], 0⟩ := by
   unfold regs_Assign_l2
   have st : ∀ (a b : List Bool × Int), regs_Assign_l2b fa (List.replicate 10 false) [-1] a.1 a.2 = some (.inl b) → loopO (fun s => regs_Assign_l2b fa (List.replicate 10 false) [-1] s.1 s.2) a = loopO (fun s => regs_Assign_l2b fa (List.replicate 10 false) [-1] s.1 s.2) b := fun a b h => by
    rw [loopO_eq]
    show (regs_Assign_l2b fa (List.replicate 10 false) [-1] a.1 a.2).bind _ = _
    rw [h]
    rfl
   rw [st _ ([true, false, false, false, false, false, false, false, false, false], 1) rfl, st _ ([true, true, false, false, false, false, false, false, false, false], 2) rfl, st _ ([true, true, true, false, false, false, false, false, false, false], 3) rfl, st _ ([true, true, true, true, false, false, false, false, false, false], 4) rfl, st _ ([true, true, true, true, true, false, false, false, false, false], 5) rfl, st _ ([true, true, true, true, true, true, false, false, false, false], 6) rfl, st _ ([true, true, true, true, true, true, true, false, false, false], 7) rfl, st _ ([true, true, true, true, true, true, true, true, false, false], 8) rfl, st _ ([true, true, true, true, true, true, true, true, true, false], 9) rfl, st _ ([true, true, true, true, true, true, true, true, true, true], 10) rfl]
   rw [loopO_eq]
   show (((flow_Spans fa).bind _).map Sum.inr).bind _ = _
   rw [spans_fa]
   simp only [Option.bind_some]
   have h3 : regs_Assign_l3 [(⟨0, 0, 0⟩ : Tflow_Span)] [-1] [] [true, true, true, true, true, true, true, true, true, true] 0 0 = some ⟨[0], 0⟩ := by
    unfold regs_Assign_l3
    rw [loopO_eq]
    have hex : regs_scan_expire (⟨[-1], [], [true, true, true, true, true, true, true, true, true, true], 0⟩ : Tregs_scan) 0 = some (⟨[-1], [], [true, true, true, true, true, true, true, true, true, true], 0⟩ : Tregs_scan) := by
     have e : slices_IndexFunc_4 ([] : List Tflow_Span) 0 (⟨[-1], [], [true, true, true, true, true, true, true, true, true, true], 0⟩ : Tregs_scan) = some (-1, (⟨[-1], [], [true, true, true, true, true, true, true, true, true, true], 0⟩ : Tregs_scan)) := by
      unfold slices_IndexFunc_4 slices_IndexFunc_4_l1
      rw [loopO_eq]
      rfl
     unfold regs_scan_expire slices_DeleteFunc
     show ((((slices_IndexFunc_4 ([] : List Tflow_Span) 0 (⟨[-1], [], [true, true, true, true, true, true, true, true, true, true], 0⟩ : Tregs_scan))).bind _).bind _) = _
     rw [e]
     rfl
    have hput : regs_scan_put (⟨[-1], [], [true, true, true, true, true, true, true, true, true, true], 0⟩ : Tregs_scan) ⟨0, 0, 0⟩ = some (⟨[0], [⟨0, 0, 0⟩], [false, true, true, true, true, true, true, true, true, true], 0⟩ : Tregs_scan) := by
     have e : slices_Index_2 [true, true, true, true, true, true, true, true, true, true] true = some 0 := by
      unfold slices_Index_2 slices_Index_2_l1
      rw [loopO_eq]
      rfl
     unfold regs_scan_put
     show ((slices_Index_2 [true, true, true, true, true, true, true, true, true, true] true).bind _) = _
     rw [e]
     rfl
    have hb : regs_Assign_l3b [(⟨0, 0, 0⟩ : Tflow_Span)] [-1] [] [true, true, true, true, true, true, true, true, true, true] 0 0 = some (.inl ([0], [⟨0, 0, 0⟩], [false, true, true, true, true, true, true, true, true, true], 0, 1)) := by
     show ((regs_scan_expire (⟨[-1], [], [true, true, true, true, true, true, true, true, true, true], 0⟩ : Tregs_scan) 0).bind _) = _
     rw [hex]
     show ((regs_scan_put (⟨[-1], [], [true, true, true, true, true, true, true, true, true, true], 0⟩ : Tregs_scan) ⟨0, 0, 0⟩).bind _) = _
     rw [hput]
     rfl
    show (regs_Assign_l3b [(⟨0, 0, 0⟩ : Tflow_Span)] [-1] [] [true, true, true, true, true, true, true, true, true, true] 0 0).bind _ = _
    rw [hb]
    show loopO (fun s => regs_Assign_l3b [(⟨0, 0, 0⟩ : Tflow_Span)] s.1 s.2.1 s.2.2.1 s.2.2.2.1 s.2.2.2.2) ([0], [(⟨0, 0, 0⟩ : Tflow_Span)], [false, true, true, true, true, true, true, true, true, true], 0, 1) = _
    rw [loopO_eq]
    rfl
   rw [h3]
   rfl
  rw [h2]
  rfl
 unfold law13_alive
 show (regs_Assign fa).bind _ = _
 rw [ha]
 rfl
end
end Go.Vm.G13s
