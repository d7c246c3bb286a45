/-
 The flow of a function's code, as plain facts.
-/
import Derived.Test.YtcacllfgnjlhiaaEPl1
import Derived.Test.YtcacllfgnjlhiaaEOG11
set_option linter.unusedSimpArgs false
set_option linter.unusedVariables false
set_option linter.unusedSectionVars false
namespace Go.Vm.G11
open Go
def lab (l : Int) (x : TIns) : Bool := (decide (x.op = 11)) && (decide (x.imm = l))
theorem place_ok (f : TFunc) (l : Int) (h : f.code.length ≤ 1000) : Ok (flow_place f l) (fun (p : Int) => (p = -1 ∧ ∀ x ∈ f.code, lab l x = false) ∨ ∃ (k : Nat) (x : TIns), p = (k : Int) ∧ f.code[k]? = some x ∧ lab l x = true ∧ ∀ y ∈ f.code.take k, lab l y = false) := by
 unfold flow_place slices_IndexFunc slices_IndexFunc_l1
 refine Ok.bind (P := fun (p : Int) => (p = -1 ∧ ∀ x ∈ f.code, lab l x = false) ∨ ∃ (k : Nat) (x : TIns), p = (k : Int) ∧ f.code[k]? = some x ∧ lab l x = true ∧ ∀ y ∈ f.code.take k, lab l y = false) ?_ (fun x hx => .ret hx)
 refine loop_for f.code (fun k s => s = (k : Int) ∧ ∀ y ∈ f.code.take k, lab l y = false) (fun k x s hk' hk hs => ?_) (fun s hs => ?_) ⟨rfl, by simp⟩
 ·obtain ⟨rfl, hs⟩ := hs
  unfold slices_IndexFunc_l1b flow_place_c1
  rw [if_pos (by simp; omega), ix_nat, hk]
  simp only [Option.bind_some]
  refine .ite (fun hb => .map (.ret (.inr ⟨k, x, rfl, hk, hb, hs⟩))) (fun hb => .ret ⟨w64_succ (by omega), fun y hy => ?_⟩)
  rw [mem_take_succ hk'] at hy
  rcases hy with hy | rfl
  ·exact hs y hy
  ·rw [List.getElem?_eq_getElem hk'] at hk
   rw [Option.some.inj hk]; exact hb
 ·obtain ⟨rfl, hs⟩ := hs
  unfold slices_IndexFunc_l1b
  rw [if_neg (by simp)]
  rw [List.take_length] at hs
  exact .map (.ret (.inl ⟨rfl, hs⟩))
theorem contains_ok (xs : List Int) (v : Int) (h : xs.length ≤ 1000) : Ok (slices_Contains xs v) (fun b => b = true ↔ v ∈ xs) := by
 unfold slices_Contains slices_Index slices_Index_l1
 refine Ok.bind (P := fun p => 0 ≤ p ↔ v ∈ xs) ?_ (fun x hx => .ret (by simpa using hx))
 refine loop_for xs (fun k s => s = (k : Int) ∧ ∀ y ∈ xs.take k, v ≠ y) (fun k x s hk' hk hs => ?_) (fun s hs => ?_) ⟨rfl, by simp⟩
 ·obtain ⟨rfl, hs⟩ := hs
  unfold slices_Index_l1b
  rw [if_pos (by simp; omega), ix_nat, hk]
  simp only [Option.bind_some]
  refine .ite (fun hb => .map (.ret ?_)) (fun hb => .ret ⟨w64_succ (by omega), fun y hy => ?_⟩)
  ·have : v = x := by simpa using hb
   exact ⟨fun _ => this ▸ List.mem_of_getElem? hk, fun _ => by omega⟩
  ·rw [mem_take_succ hk'] at hy
   rcases hy with hy | rfl
   ·exact hs y hy
   ·rw [List.getElem?_eq_getElem hk'] at hk
    rw [Option.some.inj hk]; simpa using hb
 ·obtain ⟨rfl, hs⟩ := hs
  unfold slices_Index_l1b
  rw [if_neg (by simp)]
  rw [List.take_length] at hs
  exact .map (.ret ⟨fun h => by omega, fun h => (hs v h rfl).elim⟩)
def fall (f : TFunc) (k : Nat) (x : TIns) : Bool := (((decide (x.op ≠ 12)) && (decide (x.op ≠ 15))) && (decide (x.op ≠ 16))) && (decide (k + 1 < f.code.length))
def jmp (x : TIns) : Bool := ((decide (x.op = 12)) || (decide (x.op = 13))) || (decide (x.op = 17))
def fst (f : TFunc) (k : Nat) (x : TIns) : List Int := if fall f k x then [((k + 1 : Nat) : Int)] else []
theorem fst_len (f : TFunc) (k : Nat) (x : TIns) : (fst f k x).length ≤ 1 := by unfold fst; split <;> simp
theorem fst_lt (f : TFunc) (k : Nat) (x : TIns) : ∀ j ∈ fst f k x, 0 ≤ j ∧ j < f.code.length := by
 intro j hj
 unfold fst at hj
 split at hj
 ·rename_i h
  have : k + 1 < f.code.length := by unfold fall at h; simp at h; exact h.2
  rcases List.mem_singleton.1 hj with rfl
  omega
 ·cases hj
def NxS (f : TFunc) (k : Nat) (x : TIns) (l : List Int) : Prop :=
 l.length ≤ 2 ∧ (∀ j ∈ l, 0 ≤ j ∧ j < f.code.length) ∧
 ((jmp x = false ∧ l = fst f k x) ∨ (jmp x = true ∧ (∀ y ∈ f.code, lab x.imm y = false) ∧ l = fst f k x) ∨
 jmp x = true ∧ ∃ p y, f.code[p]? = some y ∧ lab x.imm y = true ∧ (∀ z ∈ f.code.take p, lab x.imm z = false) ∧ ((((p : Int) ∈ fst f k x) ∧ l = fst f k x) ∨ (((p : Int) ∉ fst f k x) ∧ l = fst f k x ++ [(p : Int)])))
theorem Next_ok (f : TFunc) (h : f.code.length ≤ 1000) (k : Nat) (x : TIns) (hk : f.code[k]? = some x) : Ok (flow_Next f k) (NxS f k x) := by
 have hk' := (List.getElem?_eq_some_iff.1 hk).1
 have hfl := fst_len f k x
 have hft := fst_lt f k x
 have key : Ok (flow_Next_k1 f x (fst f k x)) (NxS f k x) := by
  unfold flow_Next_k1 flow_Next_k2
  refine .ite (fun hj => ?_) (fun hj => .ret ⟨by omega, hft, .inl ⟨hj, rfl⟩⟩)
  refine (place_ok f x.imm h).bind fun p hp => ?_
  rcases hp with ⟨rfl, hn⟩ | ⟨q, y, rfl, hq, hy, hz⟩
  ·simp only [Bool.false_eq_true, if_false, Option.bind_some, show decide ((0 : Int) ≤ -1) = false from rfl]
   exact .ret ⟨by omega, hft, .inr (.inl ⟨hj, hn, rfl⟩)⟩
  ·have hq' := (List.getElem?_eq_some_iff.1 hq).1
   rw [if_pos (by simp)]
   refine Ok.bind (P := fun b => b = true ↔ (q : Int) ∉ fst f k x) ((contains_ok (fst f k x) q (by omega)).bind fun b hb => .ret (by cases b <;> simp_all)) fun b hb => ?_
   refine .ite (fun hb1 => ?_) (fun hb1 => .ret ⟨by omega, hft, .inr (.inr ⟨hj, q, y, hq, hy, hz, .inl ⟨?_, rfl⟩⟩)⟩)
   ·rw [ap_some (by simp; omega)]
    refine .ret ⟨by simp; omega, ?_, .inr (.inr ⟨hj, q, y, hq, hy, hz, .inr ⟨hb.1 hb1, rfl⟩⟩)⟩
    intro j hj
    rcases List.mem_append.1 hj with hj | hj
    ·exact hft j hj
    ·rcases List.mem_singleton.1 hj with rfl; omega
   ·rw [hb1] at hb
    simpa using hb
 unfold flow_Next
 rw [if_neg (by simp; omega), ix_nat, hk]
 simp only [Option.bind_some]
 rw [w64_succ (by omega)]
 rw [show decide (((k + 1 : Nat) : Int) < (f.code.length : Int)) = decide (k + 1 < f.code.length) from dec_lt]
 show Ok (if fall f k x = true then _ else _) _
 have e : fst f k x = if fall f k x then [((k + 1 : Nat) : Int)] else [] := rfl
 refine .ite (fun hb => ?_) (fun hb => ?_)
 ·rw [hb, if_pos rfl] at e
  rw [ap_some (by simp)]
  simp only [Option.bind_some, List.nil_append]
  rw [← e]; exact key
 ·rw [hb] at e
  rw [show ([] : List Int) = fst f k x from e.symm]; exact key
theorem Next_out (f : TFunc) (i : Int) (h : i < 0 ∨ (f.code.length : Int) ≤ i) : flow_Next f i = some [] := by
 unfold flow_Next; rw [if_pos (by simpa using h)]
noncomputable def nx (f : TFunc) (k : Nat) : List Int := (flow_Next f k).getD []
section
variable {f : TFunc} {k : Nat} {x : TIns}
theorem Next_is (h : f.code.length ≤ 1000) (hk : f.code[k]? = some x) : flow_Next f k = some (nx f k) := by
 obtain ⟨r, hr, _⟩ := Next_ok f h k x hk
 unfold nx; rw [hr]; rfl
theorem nx_spec (h : f.code.length ≤ 1000) (hk : f.code[k]? = some x) : NxS f k x (nx f k) := (Next_ok f h k x hk).eq (Next_is h hk)
end
theorem Next_at (f : TFunc) (h : f.code.length ≤ 1000) (k : Nat) (hk : k < f.code.length) : flow_Next f k = some (nx f k) := Next_is h (List.getElem?_eq_getElem hk)
theorem nx_at (f : TFunc) (h : f.code.length ≤ 1000) (k : Nat) (hk : k < f.code.length) : (nx f k).length ≤ 2 ∧ ∀ j ∈ nx f k, 0 ≤ j ∧ j < f.code.length :=
 let s := nx_spec h (List.getElem?_eq_getElem hk); ⟨s.1, s.2.1⟩
def us (x : TIns) (r : Int) : Prop := x.a = r ∨ x.b = r ∨ r ∈ x.args
theorem Uses_ok (x : TIns) (ha : x.args.length ≤ 1000) : Ok (ir_Uses x) (fun l => l.length ≤ 1002 ∧ ∀ r, r ∈ l ↔ 0 ≤ r ∧ us x r) := by
 unfold ir_Uses
 rw [ap_some (by simp; omega)]
 simp only [Option.bind_some]
 unfold ir_Uses_l1
 refine loop_for ([x.a, x.b] ++ x.args) (fun k s => s.2 = (k : Int) ∧ s.1.length ≤ k ∧ ∀ r, r ∈ s.1 ↔ 0 ≤ r ∧ r ∈ ([x.a, x.b] ++ x.args).take k) (fun k y s hk' hk hs => ?_) (fun s hs => ?_) (by simp)
 ·obtain ⟨xs, i⟩ := s
  obtain ⟨rfl, hl, hs⟩ := hs
  show Ok (ir_Uses_l1b _ xs k) _
  unfold ir_Uses_l1b ir_Uses_k1
  have hk2 : ([x.a, x.b] ++ x.args).length ≤ 1002 := by simp; omega
  rw [if_pos (by simp at *; omega), ix_nat, hk]
  simp only [Option.bind_some]
  rw [List.getElem?_eq_getElem hk'] at hk
  have hy := Option.some.inj hk
  have hl' : xs.length ≤ k := hl
  refine .ite (fun hb => ?_) (fun hb => .ret ⟨w64_succ (by omega), Nat.le_succ_of_le hl, fun r => ?_⟩)
  ·rw [ap_some (by simp; omega)]
   refine .ret ⟨w64_succ (by omega), by simp; omega, fun r => ?_⟩
   rw [mem_take_succ hk', hy]
   show r ∈ xs ++ [y] ↔ _
   rw [List.mem_append, hs r, List.mem_singleton]
   have : 0 ≤ y := by simpa using hb
   constructor
   ·rintro (h | rfl)
    ·exact ⟨h.1, .inl h.2⟩
    ·exact ⟨this, .inr rfl⟩
   ·rintro ⟨h1, h2 | h2⟩
    ·exact .inl ⟨h1, h2⟩
    ·exact .inr h2
  ·rw [mem_take_succ hk', hy]
   show r ∈ xs ↔ _
   rw [hs r]
   have : y < 0 := by simpa using hb
   constructor
   ·rintro h; exact ⟨h.1, .inl h.2⟩
   ·rintro ⟨h1, h2 | h2⟩
    ·exact ⟨h1, h2⟩
    ·omega
 ·obtain ⟨xs, i⟩ := s
  obtain ⟨rfl, hl, hs⟩ := hs
  show Ok (ir_Uses_l1b _ xs _) _
  unfold ir_Uses_l1b
  rw [if_neg (by simp)]
  rw [List.take_length] at hs
  refine .map (.ret ⟨by simp at hl; omega, fun r => ?_⟩)
  rw [hs r]
  unfold us
  simp only [List.cons_append, List.nil_append, List.mem_cons]
  constructor
  ·rintro ⟨h1, h2 | h2 | h2⟩
   ·exact ⟨h1, .inl h2.symm⟩
   ·exact ⟨h1, .inr (.inl h2.symm)⟩
   ·exact ⟨h1, .inr (.inr h2)⟩
  ·rintro ⟨h1, h2 | h2 | h2⟩
   ·exact ⟨h1, .inl h2.symm⟩
   ·exact ⟨h1, .inr (.inl h2.symm)⟩
   ·exact ⟨h1, .inr (.inr h2)⟩
theorem merge_is (R : Nat) (hR : R ≤ 1000) (g h : Nat → Bool) : Ok (flow_set_merge (tb R g) (tb R h)) (fun r => r.2 = tb R (fun k => g k || h k) ∧ (r.1 = true ↔ ∃ k, k < R ∧ h k = true ∧ g k = false)) := by
 unfold flow_set_merge flow_set_merge_l1
 refine loop_for (tb R h) (fun k s => s.2.2 = (k : Int) ∧ s.1 = tb R (fun j => if j < k then g j || h j else g j) ∧ (s.2.1 = true ↔ ∃ j, j < k ∧ h j = true ∧ g j = false)) (fun k y s hk' hk hs => ?_) (fun s hs => ?_) (by simp)
 ·obtain ⟨xs, b, i⟩ := s
  obtain ⟨h1, h2, h3⟩ := hs
  simp only at h1 h2 h3
  subst h1 h2
  rw [tb_len] at hk'
  show Ok (flow_set_merge_l1b _ _ b k) _
  unfold flow_set_merge_l1b
  rw [if_pos (by simp; omega), ix_tb hk', ix_tb hk']
  simp only [Option.bind_some, Nat.lt_irrefl, if_false, Int.toNat_natCast]
  refine Ok.bind (P := fun b' => b' = true ↔ ∃ j, j < k + 1 ∧ h j = true ∧ g j = false) ?_ (fun b' hb' => .ret ⟨w64_succ (by omega), ?_, hb'⟩)
  ·refine .ite (fun hb => .ret ?_) (fun hb => ?_)
   ·obtain ⟨j, h4, h5⟩ := h3.1 hb
    exact ⟨fun _ => ⟨j, by omega, h5⟩, fun _ => rfl⟩
   ·have hno : ¬ ∃ j, j < k ∧ h j = true ∧ g j = false := fun hex => by rw [h3.2 hex] at hb; cases hb
    refine Ok.bind (P := fun c => c = true ↔ h k = true ∧ g k = false) (.ite (fun hh => .ret ?_) (fun hh => .ret ?_)) (fun c hc => .ret ?_)
    ·rw [hh]; simp
    ·rw [hh]; simp
    ·constructor
     ·intro hct; exact ⟨k, by omega, hc.1 hct⟩
     ·rintro ⟨j, h4, h5⟩
      by_cases hjk : j = k
      ·subst hjk; exact hc.2 h5
      ·exact (hno ⟨j, by omega, h5⟩).elim
  ·show (tb R _).set k _ = _
   rw [tb_set]
   apply tb_ext
   intro j hj
   by_cases hjk : j = k
   ·subst hjk; simp
   ·simp only [hjk, if_false]
    by_cases h4 : j < k
    ·rw [if_pos h4, if_pos (by omega)]
    ·rw [if_neg h4, if_neg (by omega)]
 ·obtain ⟨xs, b, i⟩ := s
  obtain ⟨h1, h2, h3⟩ := hs
  simp only at h1 h2 h3
  rw [tb_len] at h1 h2 h3
  subst h1 h2
  show Ok (flow_set_merge_l1b _ _ b _) _
  unfold flow_set_merge_l1b
  rw [if_neg (by simp)]
  exact .map (.ret ⟨tb_ext (fun j hj => by rw [if_pos hj]), h3⟩)
open Classical in
noncomputable def stp (x : TIns) (g : Nat → Bool) (r : Nat) : Bool := decide (us x r) || (g r && decide (x.d ≠ (r : Int)))
theorem step_is (x : TIns) (ha : x.args.length ≤ 1000) (R : Nat) (hR : R ≤ 1000) (g : Nat → Bool) : flow_step x (tb R g) = some (tb R (stp x g)) := by
 have key : ∀ (g' : Nat → Bool), (∀ r, r < R → g' r = (g r && decide (x.d ≠ (r : Int)))) → flow_step_k1 x (tb R g') = some (tb R (stp x g)) := by
  intro g' hg
  unfold flow_step_k1 flow_step_l1
  refine ((Uses_ok x ha).bind fun l hl => ?_).some_of
  classical
  refine loop_for l (fun k s => s.2 = (k : Int) ∧ s.1 = tb R (fun r => decide ((r : Int) ∈ l.take k) || g' r)) (fun k y s hk' hk hs => ?_) (fun s hs => ?_) ⟨rfl, tb_ext (by simp)⟩
  ·obtain ⟨xs, i⟩ := s
   obtain ⟨h1, h2⟩ := hs
   simp only at h1 h2
   subst h1 h2
   show Ok (flow_step_l1b l _ k) _
   unfold flow_step_l1b flow_step_k2
   rw [if_pos (by simp; omega), ix_nat, hk]
   simp only [Option.bind_some]
   have hy0 : 0 ≤ y := ((hl.2 y).1 (List.mem_of_getElem? hk)).1
   obtain ⟨q, rfl⟩ := Int.eq_ofNat_of_zero_le hy0
   have hyk : l[k] = (q : Int) := by rw [List.getElem?_eq_getElem hk'] at hk; exact Option.some.inj hk
   have hll := hl.1
   refine .ite (fun hb => ?_) (fun hb => .ret ⟨w64_succ (by omega), ?_⟩)
   ·have hq : q < R := by simp at hb; exact hb
    rw [ix_tb hq]
    simp only [Option.bind_some, Int.toNat_natCast]
    refine .ret ⟨w64_succ (by omega), ?_⟩
    show (tb R _).set q true = _
    rw [tb_set]
    apply tb_ext
    intro j hj
    by_cases hjq : j = q
    ·subst hjq
     have : (j : Int) ∈ l.take (k + 1) := by rw [mem_take_succ hk', hyk]; exact .inr rfl
     simp [this]
    ·have : (j : Int) ∈ l.take (k + 1) ↔ (j : Int) ∈ l.take k := by
      rw [mem_take_succ hk', hyk]
      constructor
      ·rintro (h | h)
       ·exact h
       ·omega
      ·exact .inl
     simp [this, hjq]
   ·have hq : ¬ q < R := by simp at hb; omega
    show tb R _ = _
    apply tb_ext
    intro j hj
    have : (j : Int) ∈ l.take (k + 1) ↔ (j : Int) ∈ l.take k := by
     rw [mem_take_succ hk', hyk]
     constructor
     ·rintro (h | h)
      ·exact h
      ·omega
     ·exact .inl
    simp [this]
  ·obtain ⟨xs, i⟩ := s
   obtain ⟨h1, h2⟩ := hs
   simp only at h1 h2
   subst h1 h2
   show Ok (flow_step_l1b l _ _) _
   unfold flow_step_l1b
   rw [if_neg (by simp), List.take_length]
   refine .map (.ret (tb_ext fun j hj => ?_))
   unfold stp
   rw [hg j hj]
   congr 1
   have := hl.2 (j : Int)
   simp only [decide_eq_decide]
   rw [this]
   constructor
   ·exact fun h => h.2
   ·exact fun h => ⟨by omega, h⟩
 unfold flow_step slices_Clone_3 ir_Def
 rw [ap_some (by simp; omega)]
 simp only [Option.bind_some, List.nil_append, tb_len]
 by_cases hd : 0 ≤ x.d ∧ x.d < R
 ·obtain ⟨q, hq⟩ := Int.eq_ofNat_of_zero_le hd.1
  rw [hq]
  have hqR : q < R := by omega
  rw [if_pos (by simp; exact hqR), ix_tb hqR]
  simp only [Option.bind_some, Int.toNat_natCast]
  rw [tb_set]
  apply key
  intro r hr
  rw [hq]
  by_cases hrq : r = q
  ·subst hrq; simp
  ·have : ¬ (q : Int) = (r : Int) := by omega
   simp [hrq, this]
 ·rw [if_neg (by simpa using hd)]
  apply key
  intro r hr
  have : x.d ≠ (r : Int) := by omega
  simp [this]
inductive Nd (f : TFunc) (r : Int) : Nat → Prop
 | use (k : Nat) (x : TIns) (hk : f.code[k]? = some x) (hu : us x r) : Nd f r k
 | go (k : Nat) (x : TIns) (j : Nat) (hk : f.code[k]? = some x) (hd : x.d ≠ r) (hj : (j : Int) ∈ nx f k) (h : Nd f r j) : Nd f r k
abbrev tt (n R : Nat) (G : Nat → Nat → Bool) : List (List Bool) := tb n (fun i => tb R (G i))
section
variable (f : TFunc) (R : Nat)
noncomputable def outOf (G : Nat → Nat → Bool) (k : Nat) (r : Nat) : Bool := (nx f k).any (fun j => G j.toNat r)
noncomputable def newOf (G : Nat → Nat → Bool) (k : Nat) (x : TIns) : Nat → Bool := stp x (outOf f G k)
def Sound (G : Nat → Nat → Bool) : Prop := ∀ i r, i < f.code.length → r < R → G i r = true → Nd f r i
def ClosedAt (G : Nat → Nat → Bool) (i : Nat) : Prop := ∀ x r, f.code[i]? = some x → r < R → newOf f G i x r = true → G i r = true
theorem l4_is (h : f.code.length ≤ 1000) (hR : R ≤ 1000) (hreg : max f.regs 0 = (R : Int)) (hargs : ∀ x ∈ f.code, x.args.length ≤ 1000) (G : Nat → Nat → Bool) (ch : Bool) (k : Nat) (x : TIns) (hk : f.code[k]? = some x) :
  Ok (flow_Live_l4 f (tb f.code.length (nx f)) (tt f.code.length R G) ch k (nx f k) (tb R (fun _ => false)) 0) (fun r => ∃ (b : Bool) (G2 : Nat → Nat → Bool), r = .inl (tt f.code.length R G2, (ch || b), (k : Int) - 1) ∧ (∀ r, G2 k r = (G k r || newOf f G k x r)) ∧ (∀ i, i ≠ k → G2 i = G i) ∧ (b = true ↔ ∃ r, r < R ∧ newOf f G k x r = true ∧ G k r = false)) := by
 have hk' := (List.getElem?_eq_some_iff.1 hk).1
 have hnx := nx_at f h k hk'
 unfold flow_Live_l4
 refine loop_for (nx f k) (fun m s => s.2 = (m : Int) ∧ s.1 = tb R (fun r => ((nx f k).take m).any (fun j => G j.toNat r))) (fun m y s hm' hm hs => ?_) (fun s hs => ?_) ⟨rfl, tb_ext (by simp)⟩
 ·obtain ⟨xs, i⟩ := s
  obtain ⟨h1, h2⟩ := hs
  simp only at h1 h2
  subst h1 h2
  show Ok (flow_Live_l4b _ _ _ _ _ _ _ m) _
  unfold flow_Live_l4b
  rw [if_pos (by simp; omega), ix_tb hk']
  simp only [Option.bind_some, ix_nat, hm]
  have hy := hnx.2 y (List.mem_of_getElem? hm)
  obtain ⟨q, rfl⟩ := Int.eq_ofNat_of_zero_le hy.1
  have hq : q < f.code.length := by omega
  rw [ix_tb hq]
  simp only [Option.bind_some]
  refine (merge_is R hR _ _).bind fun r hr => .ret ⟨w64_succ (by omega), ?_⟩
  show r.2 = _
  rw [hr.1]
  apply tb_ext
  intro j hj
  rw [List.take_add_one, hm, Option.toList_some, List.any_append]
  simp
 ·obtain ⟨xs, i⟩ := s
  obtain ⟨h1, h2⟩ := hs
  simp only at h1 h2
  subst h1 h2
  show Ok (flow_Live_l4b _ _ _ _ _ _ _ _) _
  unfold flow_Live_l4b
  rw [if_neg (by simp), ix_tb hk', ix_nat, hk]
  simp only [Option.bind_some, List.take_length]
  rw [step_is x (hargs x (List.mem_of_getElem? hk)) R hR]
  simp only [Option.bind_some]
  refine .map ((merge_is R hR _ _).bind fun r hr => ?_)
  unfold flow_Live_k1
  have hw : w64 ((k : Int) - 1) = (k : Int) - 1 := w64_id (by omega) (by omega)
  have hset : (tt f.code.length R G).set (Int.toNat k) r.2 = tt f.code.length R (fun i => if i = k then (fun r => G k r || newOf f G k x r) else G i) := by
   rw [hr.1, Int.toNat_natCast, tb_set]
   apply tb_ext
   intro i hi
   by_cases hik : i = k
   ·subst hik; simp only [if_true]; rfl
   ·simp only [hik, if_false]
  rw [hset, hw]
  refine .ite (fun hb => .ret ⟨true, (fun i => if i = k then (fun r => G k r || newOf f G k x r) else G i), by simp, fun r => by simp, fun i hi => by simp [hi], ⟨fun _ => hr.2.1 hb, fun _ => rfl⟩⟩) (fun hb => .ret ⟨false, (fun i => if i = k then (fun r => G k r || newOf f G k x r) else G i), by simp, fun r => by simp, fun i hi => by simp [hi], ⟨fun h => (by cases h), fun hex => ?_⟩⟩)
  have := hr.2.2 hex
  rw [hb] at this; exact this
theorem l3_is (h : f.code.length ≤ 1000) (hR : R ≤ 1000) (hreg : max f.regs 0 = (R : Int)) (hargs : ∀ x ∈ f.code, x.args.length ≤ 1000) (G : Nat → Nat → Bool) (hG : Sound f R G) :
  Ok (flow_Live_l3 f (tb f.code.length (nx f)) (tt f.code.length R G) false (w64 ((f.code.length : Int) - 1))) (fun r => ∃ G' b, r = .inl (tt f.code.length R G', b) ∧ Sound f R G' ∧ (∀ i r, G i r = true → G' i r = true) ∧
   (b = false → ∀ i, i < f.code.length → ClosedAt f R G' i) ∧ (b = true → ∃ i r, i < f.code.length ∧ r < R ∧ G' i r = true ∧ G i r = false)) := by
 unfold flow_Live_l3
 rw [w64_id (by omega) (by omega)]
 refine Ok.loop (B := fun s => flow_Live_l3b f (tb f.code.length (nx f)) s.1 s.2.1 s.2.2) (fun m s => s.2.2 = (f.code.length : Int) - 1 - m ∧ ∃ G', s.1 = tt f.code.length R G' ∧ Sound f R G' ∧ (∀ i r, G i r = true → G' i r = true) ∧
   (s.2.1 = false → (∀ i r, i < f.code.length → r < R → G' i r = G i r) ∧ ∀ i, i < f.code.length → f.code.length ≤ i + m → ClosedAt f R G' i) ∧ (s.2.1 = true → ∃ i r, i < f.code.length ∧ r < R ∧ G' i r = true ∧ G i r = false))
  f.code.length (fun m s hm hs => ?_) (fun s hs => ?_) ⟨by simp, G, rfl, hG, fun _ _ h => h, fun _ => ⟨fun _ _ _ _ => rfl, fun i h1 h2 => by omega⟩, fun h => by cases h⟩
 ·obtain ⟨xs, ch, i⟩ := s
  obtain ⟨h1, G', h2, h3, h4, h5, h6⟩ := hs
  simp only at h1 h2 h5 h6
  have hi : i = ((f.code.length - 1 - m : Nat) : Int) := by omega
  subst hi h2
  generalize hk : f.code.length - 1 - m = k at *
  have hk' : k < f.code.length := by omega
  show Ok (flow_Live_l3b f _ _ ch k) _
  unfold flow_Live_l3b
  rw [if_pos (by simp), hreg, mk_tb (by omega)]
  simp only [Option.bind_some]
  rw [ix_tb hk']
  simp only [Option.bind_some]
  refine (l4_is f R h hR hreg hargs G' ch k f.code[k] (List.getElem?_eq_getElem hk')).mono fun r hr => ?_
  obtain ⟨b, G2, rfl, e1, e2, hb⟩ := hr
  have hx : f.code[k]? = some f.code[k] := List.getElem?_eq_getElem hk'
  have hnew : ∀ r : Nat, r < R → newOf f G' k f.code[k] r = true → Nd f r k := by
   intro r hr hn
   unfold newOf stp at hn
   rw [Bool.or_eq_true, Bool.and_eq_true] at hn
   rcases hn with hn | ⟨hn, hd⟩
   ·exact .use k _ hx (by simpa using hn)
   ·unfold outOf at hn
    rw [List.any_eq_true] at hn
    obtain ⟨j, hj, hg⟩ := hn
    have hj2 := (nx_at f h k hk').2 j hj
    obtain ⟨q, rfl⟩ := Int.eq_ofNat_of_zero_le hj2.1
    exact .go k _ q hx (by simpa using hd) hj (h3 q r (by omega) hr hg)
  refine ⟨by simp; omega, _, rfl, ?_, ?_, ?_, ?_⟩
  ·intro i r hi hr hg
   by_cases hik : i = k
   ·subst hik
    rw [e1, Bool.or_eq_true] at hg
    rcases hg with hg | hg
    ·exact h3 i r hi hr hg
    ·exact hnew r hr hg
   ·rw [e2 i hik] at hg
    exact h3 i r hi hr hg
  ·intro i r hg
   have := h4 i r hg
   by_cases hik : i = k
   ·subst hik; rw [e1, this]; rfl
   ·rw [e2 i hik]; exact this
  ·intro hcb
   have hcb' : ch = false ∧ b = false := by simpa using hcb
   obtain ⟨hc, hbf⟩ := hcb'
   obtain ⟨h7, h8⟩ := h5 hc
   have hno : ¬ ∃ r, r < R ∧ newOf f G' k f.code[k] r = true ∧ G' k r = false := fun hex => by rw [hb.2 hex] at hbf; cases hbf
   have same : ∀ i r, i < f.code.length → r < R → G2 i r = G' i r := by
    intro i r hi hr
    by_cases hik : i = k
    ·subst hik
     rw [e1]
     cases hg : G' i r with
     | true => rfl
     | false =>
      cases hn : newOf f G' i f.code[i] r with
      | false => rfl
      | true => exact (hno ⟨r, hr, hn, hg⟩).elim
    ·rw [e2 i hik]
   have newsame : ∀ i x r, i < f.code.length → r < R → newOf f G2 i x r = newOf f G' i x r := by
    intro i x r hi hr
    unfold newOf stp outOf
    congr 2
    rw [Bool.eq_iff_iff, List.any_eq_true, List.any_eq_true]
    constructor
    ·rintro ⟨j, hj, hg⟩
     have hj2 := (nx_at f h i hi).2 j hj
     rw [same j.toNat r (by omega) hr] at hg
     exact ⟨j, hj, hg⟩
    ·rintro ⟨j, hj, hg⟩
     have hj2 := (nx_at f h i hi).2 j hj
     refine ⟨j, hj, ?_⟩
     rw [same j.toNat r (by omega) hr]
     exact hg
   refine ⟨fun i r hi hr => by rw [same i r hi hr]; exact h7 i r hi hr, fun i hi him => ?_⟩
   intro x r hxx hr hn
   rw [newsame i x r hi hr] at hn
   rw [same i r hi hr]
   by_cases hik : i = k
   ·subst hik
    cases hg : G' i r with
    | true => rfl
    | false =>
     rw [List.getElem?_eq_getElem hk'] at hxx
     have hxe := Option.some.inj hxx
     rw [← hxe] at hn
     exact (hno ⟨r, hr, hn, hg⟩).elim
   ·exact h8 i hi (by omega) x r hxx hr hn
  ·intro hcb
   have hcb' : ch = true ∨ b = true := by simpa using hcb
   rcases hcb' with hc | hbt
   ·obtain ⟨i, r, hi, hr, hg, hg0⟩ := h6 hc
    refine ⟨i, r, hi, hr, ?_, hg0⟩
    by_cases hik : i = k
    ·subst hik; rw [e1, hg]; rfl
    ·rw [e2 i hik]; exact hg
   ·obtain ⟨r, hr, hn, hg⟩ := hb.1 hbt
    refine ⟨k, r, hk', hr, by rw [e1, hn, Bool.or_true], ?_⟩
    cases hg0 : G k r with
    | false => rfl
    | true => rw [h4 k r hg0] at hg; cases hg
 ·obtain ⟨xs, ch, i⟩ := s
  obtain ⟨h1, G', h2, h3, h4, h5, h6⟩ := hs
  simp only at h1 h2 h5 h6
  subst h2
  show Ok (flow_Live_l3b f _ _ ch i) _
  unfold flow_Live_l3b
  rw [if_neg (by simp; omega)]
  exact .map (.ret ⟨G', ch, rfl, h3, h4, fun hc i hi => (h5 hc).2 i hi (by omega), h6⟩)
end
def pairs (n R : Nat) : List (Nat × Nat) := (List.range n).flatMap (fun i => (List.range R).map (fun r => (i, r)))
theorem mem_pairs {n R i r : Nat} : (i, r) ∈ pairs n R ↔ i < n ∧ r < R := by
 simp [pairs]
def gaps (n R : Nat) (L : List (List Bool)) : Nat := (pairs n R).countP (fun p => !((L.getD p.1 []).getD p.2 false))
theorem gaps_lt {n R : Nat} {G G' : Nat → Nat → Bool} (h1 : ∀ i r, G i r = true → G' i r = true) (h2 : ∃ i r, i < n ∧ r < R ∧ G' i r = true ∧ G i r = false) : gaps n R (tt n R G') < gaps n R (tt n R G) := by
 have e : ∀ (G : Nat → Nat → Bool) i r, i < n → r < R → ((tt n R G).getD i []).getD r false = G i r := fun G i r hi hr => by rw [tb_getD hi, tb_getD hr]
 unfold gaps
 apply countP_strict
 ·rintro ⟨i, r⟩ hx hp
  have := mem_pairs.1 hx
  simp only [e _ i r this.1 this.2] at hp ⊢
  cases hg : G i r with
  | false => rfl
  | true => rw [h1 i r hg] at hp; exact hp
 ·obtain ⟨i, r, hi, hr, hg, hg0⟩ := h2
  refine ⟨(i, r), mem_pairs.2 ⟨hi, hr⟩, ?_, ?_⟩
  ·simp only [e _ i r hi hr]; rw [hg0]; rfl
  ·simp only [e _ i r hi hr]; rw [hg]; rfl
theorem gaps_le {n R : Nat} {G G' : Nat → Nat → Bool} (h1 : ∀ i r, G i r = true → G' i r = true) : gaps n R (tt n R G') ≤ gaps n R (tt n R G) := by
 have e : ∀ (G : Nat → Nat → Bool) i r, i < n → r < R → ((tt n R G).getD i []).getD r false = G i r := fun G i r hi hr => by rw [tb_getD hi, tb_getD hr]
 unfold gaps
 apply List.countP_mono_left
 rintro ⟨i, r⟩ hx hp
 have := mem_pairs.1 hx
 simp only [e _ i r this.1 this.2] at hp ⊢
 cases hg : G i r with
 | false => rfl
 | true => rw [h1 i r hg] at hp; exact hp
theorem l5_is (L : List (List Bool)) (n : Nat) (hn : n ≤ 1000) (hL : L.length = n) : flow_Live_l5 L [] L 0 = some L := by
 unfold flow_Live_l5
 refine (loop_for (B := fun s => flow_Live_l5b L s.1 s.2.1 s.2.2) (P := fun r => r = L) L (fun k s => s = (L.take k, L, (k : Int))) (fun k x s hk' hk hs => ?_) (fun s hs => ?_) rfl).some_of
 ·subst hs
  show Ok (flow_Live_l5b L (L.take k) L k) _
  unfold flow_Live_l5b
  rw [if_pos (by simp; omega), ix_nat, hk]
  simp only [Option.bind_some]
  rw [ap_some (by simp; omega)]
  refine .ret ?_
  show _ = _
  rw [w64_succ (by omega), List.take_add_one, hk, Option.toList_some]
 ·subst hs
  show Ok (flow_Live_l5b L (L.take L.length) L L.length) _
  unfold flow_Live_l5b
  rw [if_neg (by simp), List.take_length]
  exact .map (.ret rfl)
section
variable (f : TFunc) (R : Nat)
theorem closed_all (h : f.code.length ≤ 1000) (hR : R ≤ 1000) (hreg : max f.regs 0 = (R : Int)) (hargs : ∀ x ∈ f.code, x.args.length ≤ 1000) (G : Nat → Nat → Bool) (hG : ∀ i, i < f.code.length → ClosedAt f R G i) (r : Nat) (hr : r < R) : ∀ i, Nd f r i → i < f.code.length → G i r = true := by
 intro i hn
 induction hn with
 | use k x hk hu =>
  intro hi
  refine hG k hi x r hk hr ?_
  unfold newOf stp; simp [hu]
 | go k x j hk hd hj hjn ih =>
  intro hi
  refine hG k hi x r hk hr ?_
  have hj2 := (nx_at f h k hi).2 j hj
  have := ih (by omega)
  unfold newOf stp
  rw [Bool.or_eq_true, Bool.and_eq_true]
  refine .inr ⟨?_, by simpa using hd⟩
  unfold outOf
  rw [List.any_eq_true]
  exact ⟨(j : Int), hj, by simpa using this⟩
theorem Live_is (h : f.code.length ≤ 1000) (hR : R ≤ 1000) (hreg : max f.regs 0 = (R : Int)) (hargs : ∀ x ∈ f.code, x.args.length ≤ 1000) : Ok (flow_Live f) (fun L => ∃ G, L = tt f.code.length R G ∧ ∀ i r, i < f.code.length → r < R → (G i r = true ↔ Nd f r i)) := by
 unfold flow_Live
 rw [mk_tb (by omega), mk_tb (by omega)]
 simp only [Option.bind_some]
 unfold flow_Live_l1
 refine Ok.loop (B := fun s => flow_Live_l1b f (tb f.code.length (fun _ => ([] : List Bool))) s.1 s.2.1 s.2.2) (fun k s => s = (tb f.code.length (fun i => if i < k then tb R (fun _ => false) else []), tb f.code.length (fun i => if i < k then nx f i else []), (k : Int))) f.code.length (fun k s hk hs => ?_) (fun s hs => ?_) (by simp)
 ·subst hs
  show Ok (flow_Live_l1b f _ _ _ k) _
  unfold flow_Live_l1b
  rw [if_pos (by simp; omega), hreg, mk_tb (by omega)]
  simp only [Option.bind_some]
  rw [ix_tb hk, ix_tb hk, Next_at f h k hk]
  simp only [Option.bind_some]
  refine .ret ?_
  show _ = _
  rw [w64_succ (by omega), Int.toNat_natCast, tb_set, tb_set]
  congr 1
  ·apply tb_ext
   intro i hi
   by_cases hik : i = k
   ·subst hik; simp
   ·simp only [hik, if_false]
    by_cases h2 : i < k
    ·rw [if_pos h2, if_pos (by omega)]
    ·rw [if_neg h2, if_neg (by omega)]
  ·congr 1
   apply tb_ext
   intro i hi
   by_cases hik : i = k
   ·subst hik; simp
   ·simp only [hik, if_false]
    by_cases h2 : i < k
    ·rw [if_pos h2, if_pos (by omega)]
    ·rw [if_neg h2, if_neg (by omega)]
 ·subst hs
  show Ok (flow_Live_l1b f _ _ _ _) _
  unfold flow_Live_l1b
  rw [if_neg (by simp)]
  refine .map ?_
  rw [show tb f.code.length (fun i => if i < f.code.length then tb R (fun _ => false) else []) = tt f.code.length R (fun _ _ => false) from tb_ext (fun i hi => by rw [if_pos hi]),
   show tb f.code.length (fun i => if i < f.code.length then nx f i else []) = tb f.code.length (nx f) from tb_ext (fun i hi => by rw [if_pos hi])]
  unfold flow_Live_l2
  refine Ok.loopM (B := fun s => flow_Live_l2b f (tb f.code.length (nx f)) s.1 s.2) (fun s => ∃ G, s.1 = tt f.code.length R G ∧ Sound f R G ∧ (s.2 = false → ∀ i, i < f.code.length → ClosedAt f R G i)) (fun s => gaps f.code.length R s.1 + (if s.2 then 1 else 0)) (fun s hs => ?_) ⟨fun _ _ => false, rfl, (fun _ _ _ _ h => by cases h), (fun h => by cases h)⟩
  obtain ⟨xs, b⟩ := s
  obtain ⟨G, h1, h2, h3⟩ := hs
  simp only at h1 h3
  subst h1
  show Ok (flow_Live_l2b f _ _ b) _
  unfold flow_Live_l2b
  refine .ite (fun hb => ?_) (fun hb => ?_)
  ·subst hb
   refine (l3_is f R h hR hreg hargs G h2).mono fun r hr => ?_
   obtain ⟨G', b', rfl, h4, h5, h6, h7⟩ := hr
   refine ⟨⟨G', rfl, h4, h6⟩, ?_⟩
   show gaps _ _ _ + (if b' = true then 1 else 0) < gaps _ _ _ + (if true = true then 1 else 0)
   cases hb' : b' with
   | true =>
    have := gaps_lt h5 (h7 hb')
    simp; omega
   | false =>
    have := gaps_le (n := f.code.length) (R := R) h5
    simp; omega
  ·rw [l5_is _ f.code.length h (by simp)]
   refine .map (.ret ⟨G, rfl, fun i r hi hr => ⟨h2 i r hi hr, fun hn => closed_all f R h hR hreg hargs G (h3 hb) r hr i hn hi⟩⟩)
end
def cnt (c : List TIns) (i : Int) : Nat := c.countP (fun x => (decide (x.op = 11)) && (decide (x.imm = i)))
theorem count_is (f : TFunc) (i : Int) (h : f.code.length ≤ 1000) : ref08_count f i = some (cnt f.code i : Int) := by
 unfold ref08_count ref08_count_l1
 refine (Ok.loop (B := fun s => ref08_count_l1b f i s.1 s.2) (P := fun r => r = (cnt f.code i : Int)) (fun k s => s = ((cnt (f.code.take k) i : Int), (k : Int))) f.code.length (fun k s hk hs => ?_) (fun s hs => ?_) (by simp [cnt])).some_of
 ·subst hs
  show Ok (ref08_count_l1b f i _ _) _
  unfold ref08_count_l1b ref08_count_k1
  have hle : cnt (f.code.take k) i ≤ k := by
   have : cnt (f.code.take k) i ≤ _ := List.countP_le_length
   simp at this; omega
  rw [if_pos (by simp; omega), ix_some hk]
  simp only [Option.bind_some]
  have ht : cnt (f.code.take (k + 1)) i = cnt (f.code.take k) i + (if (decide (f.code[k].op = 11)) && (decide (f.code[k].imm = i)) then 1 else 0) := by
   unfold cnt
   rw [List.take_add_one, List.getElem?_eq_getElem hk, Option.toList_some, List.countP_append, List.countP_singleton]
  refine .ite (fun hb => .ret ?_) (fun hb => .ret ?_)
  ·show _ = _
   rw [w64_succ (by omega), w64_succ (by omega), ht, if_pos hb]
  ·show _ = _
   rw [w64_succ (by omega), ht, if_neg (by rw [hb]; decide)]
   rfl
 ·subst hs
  show Ok (ref08_count_l1b f i _ _) _
  unfold ref08_count_l1b
  rw [if_neg (by simp), List.take_length]
  exact ⟨_, rfl, rfl⟩
section
variable {f f' : TFunc}
theorem has_tot (op : Int) : Ok (ref08_has op) (fun _ => True) := by
 have h5 : ∀ b, Ok (ref08_has_k5 b) (fun _ => True) := fun b => .ite (fun _ => .ret trivial) (fun _ => .ret trivial)
 have h4 : ∀ b, Ok (ref08_has_k4 op b) (fun _ => True) := fun b => .ite (fun _ => .ret trivial) (fun _ => .ite (fun _ => .ret trivial) (fun _ => .ite (fun _ => .ret trivial) (fun _ => .ite (fun _ => h5 _) (fun _ => .ite (fun _ => h5 _) (fun _ => .ite (fun _ => h5 _) (fun _ => h5 _))))))
 have h3 : ∀ b, Ok (ref08_has_k3 op b) (fun _ => True) := fun b => .ite (fun _ => .ret trivial) (fun _ => .ite (fun _ => .ret trivial) (fun _ => .ite (fun _ => h4 _) (fun _ => h4 _)))
 have h2 : ∀ b, Ok (ref08_has_k2 op b) (fun _ => True) := fun b => .ite (fun _ => .ret trivial) (fun _ => .ite (fun _ => h3 _) (fun _ => .ite (fun _ => h3 _) (fun _ => .ite (fun _ => h3 _) (fun _ => .ite (fun _ => h3 _) (fun _ => .ite (fun _ => h3 _) (fun _ => h3 _))))))
 have h1 : ∀ b, Ok (ref08_has_k1 op b) (fun _ => True) := fun b => .ite (fun _ => .ret trivial) (fun _ => .ite (fun _ => h2 _) (fun _ => h2 _))
 exact .ite (fun _ => h1 _) (fun _ => h1 _)
theorem reg_tot (a b : Bool) (c d : Int) : Ok (ref08_register a b c d) (fun _ => True) := .ite (fun _ => .ret trivial) (fun _ => .ret trivial)
theorem ins_tot (h : f.code.length ≤ 1000) (p : TIns) (hp : p.args.length ≤ 9223372036854775807) : Ok (ref08_ins f p) (fun _ => True) := by
 have h2 : ∀ t b, Ok (ref08_ins_k2 f p t b) (fun _ => True) := fun t b => .ite (fun _ => .ret trivial) (fun _ => .ite (fun _ => .ret trivial) (fun _ => .ite (fun _ => .ret trivial) (fun _ => .ite (fun _ => by rw [count_is f _ h]; exact .ret trivial) (fun _ => .ret trivial))))
 have h1 : ∀ t, Ok (ref08_ins_l1 f p t 0) (fun _ => True) := by
  intro t
  unfold ref08_ins_l1
  refine loop_all p.args hp (fun k x hk => ?_) ?_
  ·have hk' := (List.getElem?_eq_some_iff.1 hk).1
   unfold ref08_ins_l1b
   rw [if_pos (by simp; omega), ix_nat, hk]
   exact .ite (fun _ => .map (.ret trivial)) (fun _ => .ret rfl)
  ·unfold ref08_ins_l1b
   rw [if_neg (by simp)]
   refine .map (.ite (fun _ => .ret trivial) (fun _ => .ite (fun _ => h2 _ _) (fun _ => .ite (fun _ => h2 _ _) (fun _ => .ite (fun _ => h2 _ _) (fun _ => .ite (fun _ => h2 _ _) (fun _ => h2 _ _))))))
 have hk : ∀ t b, Ok (ref08_ins_k1 f p t b) (fun _ => True) := by
  intro t b
  refine (reg_tot _ _ _ _).bind fun _ _ => ?_
  refine Ok.bind (P := fun _ => True) (.ite (fun _ => .ret trivial) (fun _ => (reg_tot _ _ _ _).bind fun _ _ => .ret trivial)) fun _ _ => ?_
  refine Ok.bind (P := fun _ => True) (.ite (fun _ => .ret trivial) (fun _ => (reg_tot _ _ _ _).bind fun _ _ => .ret trivial)) fun _ _ => ?_
  exact .ite (fun _ => .ret trivial) (fun _ => h1 _)
 refine .ite (fun _ => .ret trivial) (fun _ => (has_tot _).bind fun _ _ => .ite (fun _ => .ite (fun _ => .ret trivial) (fun _ => hk _ _)) (fun _ => hk _ _))
end
def Gd (f : TFunc) (x : TIns) : Prop := ref08_ins f x = some true ∧ (x.op = 11 → cnt f.code x.imm = 1)
def Good (f : TFunc) : Prop := (∃ l, f.code.getLast? = some l ∧ (l.op = 12 ∨ l.op = 15 ∨ l.op = 16)) ∧ 0 ≤ f.params ∧ f.params ≤ f.regs ∧ ∀ x ∈ f.code, Gd f x
theorem good_is (f : TFunc) (h : f.code.length ≤ 1000) (ha : ∀ x ∈ f.code, x.args.length ≤ 9223372036854775807) : Ok (ref08_Good f) (fun b => b = true ↔ Good f) := by
 unfold ref08_Good
 refine .ite (fun hb => .ret ?_) (fun hb => ?_)
 ·constructor
  ·intro h; cases h
  ·rintro ⟨⟨l, h1, _⟩, h2, h3, _⟩
   have : f.code ≠ [] := by rintro h; rw [h] at h1; cases h1
   have := List.length_pos_iff.2 this
   simp only [Bool.or_eq_true, decide_eq_true_eq] at hb; omega
 ·simp only [Bool.or_eq_false_iff, decide_eq_false_iff_not] at hb
  have hl : 0 < f.code.length := by omega
  have hpr : 0 ≤ f.params ∧ f.params ≤ f.regs := by omega
  have hw : w64 ((f.code.length : Int) - 1) = ((f.code.length - 1 : Nat) : Int) := by rw [w64_id (by omega) (by omega)]; omega
  rw [hw, ix_some (by omega)]
  simp only [Option.bind_some]
  have hlast : f.code.getLast? = some f.code[f.code.length - 1] := by rw [List.getLast?_eq_getElem?, List.getElem?_eq_getElem (by omega)]
  refine .ite (fun hc => .ret ?_) (fun hc => ?_)
  ·constructor
   ·intro h; cases h
   ·rintro ⟨⟨l, h1, h2⟩, _⟩
    rw [hlast] at h1; cases h1
    simp at hc; omega
  ·have hlo : f.code[f.code.length - 1].op = 12 ∨ f.code[f.code.length - 1].op = 15 ∨ f.code[f.code.length - 1].op = 16 := by simp at hc; omega
   have key : (∀ x ∈ f.code, Gd f x) → Good f := fun hx => ⟨⟨_, hlast, hlo⟩, hpr.1, hpr.2, hx⟩
   unfold ref08_Good_l1
   refine Ok.loop (fun k s => s = (k : Int) ∧ ∀ x ∈ f.code.take k, Gd f x) f.code.length (fun k s hk hs => ?_) (fun s hs => ?_) (by simp)
   ·obtain ⟨rfl, hs⟩ := hs
    show Ok (ref08_Good_l1b f k) _
    unfold ref08_Good_l1b
    rw [if_pos (by simp; omega), ix_some hk]
    simp only [Option.bind_some]
    refine ((ins_tot h f.code[k] (ha _ (List.getElem_mem hk))).and (o := ref08_ins f f.code[k]) (Q := fun b => ref08_ins f f.code[k] = some b) ?_).bind fun b hb => ?_
    ·obtain ⟨r, hr, _⟩ := ins_tot h f.code[k] (ha _ (List.getElem_mem hk)); exact ⟨r, hr, hr⟩
    ·refine Ok.bind (P := fun y => y = false ↔ Gd f f.code[k]) ?_ fun y hy => .ite (fun hyt => .map (.ret ?_)) (fun hyf => .ret ⟨w64_succ (by omega), ?_⟩)
     ·refine .ite (fun hb1 => .ret ?_) (fun hb1 => Ok.bind (P := fun y => y = false ↔ Gd f f.code[k]) (.ite (fun hop => ?_) (fun hop => .ret ?_)) (fun y hy => .ret hy))
      ·constructor
       ·intro h; cases h
       ·rintro ⟨h1, _⟩
        rw [hb.2] at h1; cases h1; cases hb1
      ·rw [count_is f _ h]
       have hop' : f.code[k].op = 11 := by simpa using hop
       have hbt : b = true := by simpa using hb1
       refine .ret ?_
       constructor
       ·intro h1
        refine ⟨by rw [hb.2, hbt], fun _ => ?_⟩
        simp at h1; omega
       ·rintro ⟨_, h1⟩
        have := h1 hop'
        simp [this]
      ·have hop' : f.code[k].op ≠ 11 := by simpa using hop
       have hbt : b = true := by simpa using hb1
       exact ⟨fun _ => ⟨by rw [hb.2, hbt], fun h => (hop' h).elim⟩, fun _ => rfl⟩
     ·refine ⟨fun h => (by cases h), fun hg => ?_⟩
      have := hy.2 (hg.2.2.2 _ (List.getElem_mem hk))
      rw [hyt] at this; cases this
     ·intro x hx
      rw [List.take_add_one, List.getElem?_eq_getElem hk, Option.toList_some, List.mem_append, List.mem_singleton] at hx
      rcases hx with hx | rfl
      ·exact hs x hx
      ·exact hy.1 hyf
   ·obtain ⟨rfl, hs⟩ := hs
    show Ok (ref08_Good_l1b f f.code.length) _
    unfold ref08_Good_l1b
    rw [if_neg (by simp)]
    rw [List.take_length] at hs
    exact .map (.ret ⟨fun _ => key hs, fun _ => rfl⟩)
theorem reg_inv {p q : Bool} {v R : Int} (h : ref08_register p q v R = some true) : v = -1 ∨ (0 ≤ v ∧ v < R) := by
 unfold ref08_register at h
 split at h
 ·simp at h; exact .inl h
 ·simp at h
  rcases h with h | h
  ·exact .inr h
  ·exact .inl h.2
theorem k1_inv {f : TFunc} {x : TIns} {t : Bool × Bool × Bool × Bool} {b : Bool} (h : ref08_ins_k1 f x t b = some true) :
  (x.a = -1 ∨ (0 ≤ x.a ∧ x.a < f.regs)) ∧ (x.b = -1 ∨ (0 ≤ x.b ∧ x.b < f.regs)) ∧ (x.d = -1 ∨ (0 ≤ x.d ∧ x.d < f.regs)) ∧ ref08_ins_l1 f x t 0 = some true := by
 unfold ref08_ins_k1 at h
 obtain ⟨r1, e1, h⟩ := bindS h
 obtain ⟨r2, e2, h⟩ := bindS h
 obtain ⟨r3, e3, h⟩ := bindS h
 cases r1
 ·simp at e2; subst e2; simp at e3; subst e3; simp at h
 ·simp only [Bool.not_true, Bool.false_eq_true, if_false] at e2
  obtain ⟨r4, e4, e2⟩ := bindS e2
  cases r4
  ·simp at e2; subst e2; simp at e3; subst e3; simp at h
  ·simp at e2; subst e2
   simp only [Bool.false_eq_true, if_false] at e3
   obtain ⟨r5, e5, e3⟩ := bindS e3
   cases r5
   ·simp at e3; subst e3; simp at h
   ·simp at e3; subst e3
    simp only [Bool.false_eq_true, if_false] at h
    exact ⟨reg_inv e4, reg_inv e5, reg_inv e1, h⟩
def Last (f : TFunc) (x : TIns) (t : Bool × Bool × Bool × Bool) : Prop :=
 (jmp x = true → t.2.2.2 = true → ref08_count f x.imm = none ∨ ∃ c, ref08_count f x.imm = some c ∧ 0 < c)
theorem l1_inv {f : TFunc} {x : TIns} {t : Bool × Bool × Bool × Bool} (hx : x.args.length ≤ 9223372036854775807) (h : ref08_ins_l1 f x t 0 = some true) :
  ∀ y ∈ x.args, 0 ≤ y ∧ y < f.regs := by
 have key : ∀ (k : Nat), k ≤ x.args.length → ref08_ins_l1 f x t k = some true → ∀ y ∈ x.args.drop k, 0 ≤ y ∧ y < f.regs := by
  intro k
  generalize hd : x.args.length - k = d
  induction d generalizing k with
  | zero =>
   intro hk _ y hy
   rw [List.drop_of_length_le (by omega)] at hy; cases hy
  | succ d ih =>
   intro hk h y hy
   have hk' : k < x.args.length := by omega
   unfold ref08_ins_l1 at h
   rw [loopO_eq] at h
   obtain ⟨s, e1, h⟩ := bindS h
   unfold ref08_ins_l1b at e1
   rw [if_pos (by simp; omega), ix_some hk'] at e1
   simp only [Option.bind_some] at e1
   rw [List.drop_eq_getElem_cons hk'] at hy
   split at e1
   ·simp at e1; subst e1; cases h
   ·rename_i hc
    cases e1
    rw [w64_succ (by omega)] at h
    rcases List.mem_cons.1 hy with rfl | hy
    ·simp at hc; omega
    ·exact ih (k + 1) (by omega) (by omega) h y hy
 exact fun y hy => key 0 (Nat.zero_le _) h y (by simpa using hy)
theorem ins_inv {f : TFunc} {x : TIns} (hx : x.args.length ≤ 9223372036854775807) (h : ref08_ins f x = some true) :
  (x.a = -1 ∨ (0 ≤ x.a ∧ x.a < f.regs)) ∧ (x.b = -1 ∨ (0 ≤ x.b ∧ x.b < f.regs)) ∧ (∀ y ∈ x.args, 0 ≤ y ∧ y < f.regs) := by
 unfold ref08_ins at h
 split at h
 ·cases h
 ·obtain ⟨t, _, h⟩ := bindS h
  split at h
  ·split at h
   ·cases h
   ·have := k1_inv h; exact ⟨this.1, this.2.1, l1_inv hx this.2.2.2⟩
  ·have := k1_inv h; exact ⟨this.1, this.2.1, l1_inv hx this.2.2.2⟩
theorem lab_one {f : TFunc} (hg : Good f) {p q : Nat} {x y : TIns} {l : Int} (hp : f.code[p]? = some x) (hq : f.code[q]? = some y) (hx : lab l x = true) (hy : lab l y = true) : p = q := by
 have key : ∀ {p q : Nat} {x y : TIns}, f.code[p]? = some x → f.code[q]? = some y → lab l x = true → lab l y = true → ¬ p < q := by
  intro p q x y hp hq hx hy hpq
  have hxl : x.op = 11 ∧ x.imm = l := by simpa [lab] using hx
  have hone := (hg.2.2.2 x (List.mem_of_getElem? hp)).2 hxl.1
  rw [hxl.2] at hone
  have h1 : f.code = f.code.take (p + 1) ++ f.code.drop (p + 1) := (List.take_append_drop _ _).symm
  unfold cnt at hone
  rw [h1, List.countP_append] at hone
  have h2 : 0 < (f.code.take (p + 1)).countP (fun x => (decide (x.op = 11)) && (decide (x.imm = l))) := by
   rw [List.countP_pos_iff]
   exact ⟨x, List.mem_of_getElem? (i := p) (by rw [List.getElem?_take, if_pos (by omega)]; exact hp), hx⟩
  have h3 : 0 < (f.code.drop (p + 1)).countP (fun x => (decide (x.op = 11)) && (decide (x.imm = l))) := by
   rw [List.countP_pos_iff]
   exact ⟨y, List.mem_of_getElem? (i := q - (p + 1)) (by rw [List.getElem?_drop, show p + 1 + (q - (p + 1)) = q from by omega]; exact hq), hy⟩
  omega
 have h1 := key hp hq hx hy
 have h2 := key hq hp hy hx
 omega
def cu (n : Nat) (V : Nat → Bool) : Nat := (List.range n).countP (fun j => !(V j))
theorem cu_set {n : Nat} {V : Nat → Bool} {q : Nat} (hq : q < n) (hv : V q = false) : cu n (fun j => if j = q then true else V j) < cu n V := by
 unfold cu
 apply countP_strict
 ·intro j _ hj
  by_cases hjq : j = q
  ·subst hjq; simp at hj
  ·simpa [hjq] using hj
 ·exact ⟨q, by simpa using hq, by simp [hv], by simp⟩
theorem cu_le {n : Nat} {V : Nat → Bool} : cu n V ≤ n := by
 unfold cu
 have := List.countP_le_length (p := fun j => !(V j)) (l := List.range n)
 simpa using this
inductive Rc (f : TFunc) : Nat → Prop
 | zero : Rc f 0
 | go (k j : Nat) (hk : k < f.code.length) (hj : (j : Int) ∈ nx f k) (h : Rc f k) : Rc f j
structure Wk (f : TFunc) (start : Nat) (V : Nat → Bool) (Q : List Int) : Prop where
 inr : ∀ q ∈ Q, 0 ≤ q ∧ q < f.code.length
 len : Q.length + 2 * cu f.code.length V ≤ 2 * f.code.length + 1
 beg : V start = true ∨ (start : Int) ∈ Q
section
variable {f : TFunc} {st : Nat} {V : Nat → Bool} {q : Nat} {Q : List Int}
theorem Wk.skip (w : Wk f st V ((q : Int) :: Q)) (hv : V q = true) : Wk f st V Q := by
 refine ⟨fun j hj => w.inr j (List.mem_cons_of_mem _ hj), by have := w.len; simp at this; omega, ?_⟩
 rcases w.beg with h | h
 ·exact .inl h
 ·rcases List.mem_cons.1 h with h | h
  ·exact .inl (by rw [show st = q from by omega]; exact hv)
  ·exact .inr h
theorem Wk.visit (h : f.code.length ≤ 1000) (w : Wk f st V ((q : Int) :: Q)) (hv : V q = false) : Wk f st (fun j => if j = q then true else V j) (Q ++ nx f q) := by
 have hq := w.inr q (by simp)
 have hn := nx_at f h q (by omega)
 have hc := cu_set (n := f.code.length) (q := q) (by omega) hv
 have hl := w.len
 refine ⟨fun j hj => ?_, by simp only [List.length_cons, List.length_append] at hl ⊢; omega, ?_⟩
 ·rcases List.mem_append.1 hj with hj | hj
  ·exact w.inr j (List.mem_cons_of_mem _ hj)
  ·exact hn.2 j hj
 ·by_cases hs : st = q
  ·exact .inl (by simp [hs])
  ·rcases w.beg with h | h
   ·exact .inl (by simp [hs, h])
   ·rcases List.mem_cons.1 h with h | h
    ·omega
    ·exact .inr (List.mem_append_left _ h)
theorem Wk.stop (w : Wk f st V ((q : Int) :: Q)) (hv : V q = false) : Wk f st (fun j => if j = q then true else V j) Q := by
 have hq := w.inr q (by simp)
 have hc := cu_set (n := f.code.length) (q := q) (by omega) hv
 have hl := w.len
 refine ⟨fun j hj => w.inr j (List.mem_cons_of_mem _ hj), by simp only [List.length_cons] at hl ⊢; omega, ?_⟩
 by_cases hs : st = q
 ·exact .inl (by simp [hs])
 ·rcases w.beg with h | h
  ·exact .inl (by simp [hs, h])
  ·rcases List.mem_cons.1 h with h | h
   ·omega
   ·exact .inr h
end
def mu (f : TFunc) (s : List Bool × List Int) : Nat := 3 * cu f.code.length (fun j => s.1.getD j false) + s.2.length
theorem mu_eq (f : TFunc) (V : Nat → Bool) (Q : List Int) : mu f (tb f.code.length V, Q) = 3 * cu f.code.length V + Q.length := by
 unfold mu cu
 congr 2
 rw [List.countP_eq_length_filter, List.countP_eq_length_filter]
 congr 1
 apply List.filter_congr
 intro j hj
 show (!((tb f.code.length V).getD j false)) = _
 rw [tb_getD (by simpa using hj)]
theorem rc_in {f : TFunc} (h : f.code.length ≤ 1000) (h0 : 0 < f.code.length) {k : Nat} (hr : Rc f k) : k < f.code.length := by
 cases hr with
 | zero => exact h0
 | go k j hk hj _ => have := (nx_at f h k hk).2 _ hj; omega
structure Seen (f : TFunc) (V : Nat → Bool) (Q : List Int) : Prop where
 wk : Wk f 0 V Q
 rq : ∀ q : Nat, (q : Int) ∈ Q → Rc f q
 rv : ∀ v, v < f.code.length → V v = true → Rc f v ∧ ∀ j : Nat, (j : Int) ∈ nx f v → V j = true ∨ (j : Int) ∈ Q
section
variable {f : TFunc} {V : Nat → Bool} {q : Nat} {Q : List Int}
theorem Seen.start (h0 : 0 < f.code.length) : Seen f (fun _ => false) [0] := by
 refine ⟨⟨by simp; omega, by have := cu_le (n := f.code.length) (V := fun _ => false); simp; omega, by simp⟩, fun q hq => ?_, fun v _ hv => by cases hv⟩
 rw [show q = 0 from by simpa using hq]; exact .zero
theorem Seen.skip (w : Seen f V ((q : Int) :: Q)) (hv : V q = true) : Seen f V Q := by
 refine ⟨w.wk.skip hv, fun p hp => w.rq p (List.mem_cons_of_mem _ hp), fun v hvn hvv => ⟨(w.rv v hvn hvv).1, fun j hj => ?_⟩⟩
 rcases (w.rv v hvn hvv).2 j hj with h | h
 ·exact .inl h
 ·rcases List.mem_cons.1 h with h | h
  ·exact .inl (by rw [show j = q from by omega]; exact hv)
  ·exact .inr h
theorem Seen.visit (h : f.code.length ≤ 1000) (w : Seen f V ((q : Int) :: Q)) (hv : V q = false) : Seen f (fun j => if j = q then true else V j) (Q ++ nx f q) := by
 have hq := w.wk.inr q (by simp)
 refine ⟨w.wk.visit h hv, fun p hp => ?_, fun v hvn hvv => ?_⟩
 ·rcases List.mem_append.1 hp with hp | hp
  ·exact w.rq p (List.mem_cons_of_mem _ hp)
  ·exact .go q p (by omega) hp (w.rq q (by simp))
 ·by_cases hvq : v = q
  ·subst hvq
   exact ⟨w.rq v (by simp), fun j hj => .inr (List.mem_append_right _ hj)⟩
  ·have hvv' : V v = true := by simpa [hvq] using hvv
   refine ⟨(w.rv v hvn hvv').1, fun j hj => ?_⟩
   rcases (w.rv v hvn hvv').2 j hj with h | h
   ·exact .inl (by by_cases hjq : j = q <;> simp [hjq, h])
   ·rcases List.mem_cons.1 h with h | h
    ·exact .inl (by simp [show j = q from by omega])
    ·exact .inr (List.mem_append_left _ h)
theorem Seen.all (h : f.code.length ≤ 1000) (w : Seen f V []) (h0 : 0 < f.code.length) {k : Nat} (hr : Rc f k) : V k = true := by
 induction hr with
 | zero => rcases w.wk.beg with h | h; exact h; cases h
 | go k j hk hj _ ih =>
  rcases (w.rv k hk ih).2 j hj with h | h
  ·exact h
  ·cases h
end
theorem Reached_is {f : TFunc} (h : f.code.length ≤ 1000) (h0 : 0 < f.code.length) : Ok (flow_Reached f) (fun L => ∃ V, L = tb f.code.length V ∧ ∀ k, k < f.code.length → (V k = true ↔ Rc f k)) := by
 unfold flow_Reached
 rw [mk_tb (by omega)]
 simp only [Option.bind_some]
 unfold flow_Reached_l1
 refine Ok.loopM (B := fun s => flow_Reached_l1b f s.1 s.2) (fun s => ∃ V, s.1 = tb f.code.length V ∧ Seen f V s.2) (mu f) (fun s hs => ?_) ⟨_, rfl, Seen.start h0⟩
 obtain ⟨xs, Q⟩ := s
 obtain ⟨V, h1, w⟩ := hs
 simp only at h1 w
 subst h1
 show Ok (flow_Reached_l1b f _ Q) _
 unfold flow_Reached_l1b
 cases Q with
 | nil =>
  rw [if_neg (by simp)]
  exact .map (.ret ⟨V, rfl, fun k hk => ⟨fun hv => (w.rv k hk hv).1, fun hr => w.all h h0 hr⟩⟩)
 | cons q0 Q =>
  have hq := w.wk.inr q0 (by simp)
  obtain ⟨q, rfl⟩ := Int.eq_ofNat_of_zero_le hq.1
  have hqn : q < f.code.length := by omega
  rw [if_pos (by simp <;> omega), show ix ((q : Int) :: Q) 0 = some (q : Int) from rfl]
  simp only [Option.bind_some]
  rw [if_pos (by simp; omega), ix_tb hqn]
  simp only [Option.bind_some]
  unfold flow_Reached_k1
  refine .ite (fun hv => ?_) (fun hv => ?_)
  ·have hv' : V q = false := by simpa using hv
   rw [Next_at f h q hqn]
   simp only [Option.bind_some]
   have hn := nx_at f h q hqn
   have hl := w.wk.len
   rw [ap_some (by simp at hl ⊢; omega)]
   simp only [Option.bind_some]
   rw [List.cons_append, cutL_tail]
   simp only [Option.bind_some]
   rw [Int.toNat_natCast, tb_set]
   have hcu := cu_set (n := f.code.length) hqn hv'
   refine .ret ⟨⟨_, rfl, w.visit h hv'⟩, ?_⟩
   rw [mu_eq, mu_eq]; simp only [List.length_cons, List.length_append]; omega
  ·have hv' : V q = true := by simpa using hv
   rw [cutL_tail]
   simp only [Option.bind_some]
   refine .ret ⟨⟨_, rfl, w.skip hv'⟩, ?_⟩
   rw [mu_eq, mu_eq]; simp
end Go.Vm.G11
