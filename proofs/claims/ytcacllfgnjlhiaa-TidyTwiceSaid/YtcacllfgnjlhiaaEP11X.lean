/-
 Plain laws, one behind the other.
-/
import Derived.Test.YtcacllfgnjlhiaaEPl1
import Derived.Test.YtcacllfgnjlhiaaEOG11
set_option linter.unusedSimpArgs false
set_option linter.unusedVariables false
set_option linter.unusedSectionVars false
namespace Go.Vm.G11
open Go
section
def lab (l : Int) (x : TIns) : Bool := (decide (x.op = 11)) && (decide (x.imm = l))
theorem place_ok (f : TFunc) (l : Int) (h : f.code.length ≤ 1000) : Ok (flow_place f l) (fun (p : Int) => (p = -1 ∧ ∀ x ∈ f.code, lab l x = false) ∨ ∃ (k : Nat) (x : TIns), p = (k : Int) ∧ f.code[k]? = some x ∧ lab l x = true ∧ ∀ y ∈ f.code.take k, lab l y = false) := by
 unfold flow_place slices_IndexFunc slices_IndexFunc_l1
 refine Ok.bind (P := fun (p : Int) => (p = -1 ∧ ∀ x ∈ f.code, lab l x = false) ∨ ∃ (k : Nat) (x : TIns), p = (k : Int) ∧ f.code[k]? = some x ∧ lab l x = true ∧ ∀ y ∈ f.code.take k, lab l y = false) ?_ (fun x hx => .ret hx)
 refine loop_for f.code (fun k s => s = (k : Int) ∧ ∀ y ∈ f.code.take k, lab l y = false) (fun k x s hk' hk hs => ?_) (fun s hs => ?_) ⟨rfl, by simp⟩
 ·obtain ⟨rfl, hs⟩ := hs
  unfold slices_IndexFunc_l1b flow_place_c1
  rw [if_pos (by simp; omega), ix_nat, hk]
  simp only [Option.bind_some]
  refine .ite (fun hb => .map (.ret (.inr ⟨k, x, rfl, hk, hb, hs⟩))) (fun hb => .ret ⟨w64_succ (by omega), fun y hy => ?_⟩)
  rw [mem_take_succ hk'] at hy
  rcases hy with hy | rfl
  ·exact hs y hy
  ·rw [List.getElem?_eq_getElem hk'] at hk
   rw [Option.some.inj hk]; exact hb
 ·obtain ⟨rfl, hs⟩ := hs
  unfold slices_IndexFunc_l1b
  rw [if_neg (by simp)]
  rw [List.take_length] at hs
  exact .map (.ret (.inl ⟨rfl, hs⟩))
theorem contains_ok (xs : List Int) (v : Int) (h : xs.length ≤ 1000) : Ok (slices_Contains xs v) (fun b => b = true ↔ v ∈ xs) := by
 unfold slices_Contains slices_Index slices_Index_l1
 refine Ok.bind (P := fun p => 0 ≤ p ↔ v ∈ xs) ?_ (fun x hx => .ret (by simpa using hx))
 refine loop_for xs (fun k s => s = (k : Int) ∧ ∀ y ∈ xs.take k, v ≠ y) (fun k x s hk' hk hs => ?_) (fun s hs => ?_) ⟨rfl, by simp⟩
 ·obtain ⟨rfl, hs⟩ := hs
  unfold slices_Index_l1b
  rw [if_pos (by simp; omega), ix_nat, hk]
  simp only [Option.bind_some]
  refine .ite (fun hb => .map (.ret ?_)) (fun hb => .ret ⟨w64_succ (by omega), fun y hy => ?_⟩)
  ·have : v = x := by simpa using hb
   exact ⟨fun _ => this ▸ List.mem_of_getElem? hk, fun _ => by omega⟩
  ·rw [mem_take_succ hk'] at hy
   rcases hy with hy | rfl
   ·exact hs y hy
   ·rw [List.getElem?_eq_getElem hk'] at hk
    rw [Option.some.inj hk]; simpa using hb
 ·obtain ⟨rfl, hs⟩ := hs
  unfold slices_Index_l1b
  rw [if_neg (by simp)]
  rw [List.take_length] at hs
  exact .map (.ret ⟨fun h => by omega, fun h => (hs v h rfl).elim⟩)
def fall (f : TFunc) (k : Nat) (x : TIns) : Bool := (((decide (x.op ≠ 12)) && (decide (x.op ≠ 15))) && (decide (x.op ≠ 16))) && (decide (k + 1 < f.code.length))
def jmp (x : TIns) : Bool := ((decide (x.op = 12)) || (decide (x.op = 13))) || (decide (x.op = 17))
def fst (f : TFunc) (k : Nat) (x : TIns) : List Int := if fall f k x then [((k + 1 : Nat) : Int)] else []
theorem fst_len (f : TFunc) (k : Nat) (x : TIns) : (fst f k x).length ≤ 1 := by unfold fst; split <;> simp
theorem fst_lt (f : TFunc) (k : Nat) (x : TIns) : ∀ j ∈ fst f k x, 0 ≤ j ∧ j < f.code.length := by
 intro j hj
 unfold fst at hj
 split at hj
 ·rename_i h
  have : k + 1 < f.code.length := by unfold fall at h; simp at h; exact h.2
  rcases List.mem_singleton.1 hj with rfl
  omega
 ·cases hj
def NxS (f : TFunc) (k : Nat) (x : TIns) (l : List Int) : Prop :=
 l.length ≤ 2 ∧ (∀ j ∈ l, 0 ≤ j ∧ j < f.code.length) ∧
 ((jmp x = false ∧ l = fst f k x) ∨ (jmp x = true ∧ (∀ y ∈ f.code, lab x.imm y = false) ∧ l = fst f k x) ∨
 jmp x = true ∧ ∃ p y, f.code[p]? = some y ∧ lab x.imm y = true ∧ (∀ z ∈ f.code.take p, lab x.imm z = false) ∧ ((((p : Int) ∈ fst f k x) ∧ l = fst f k x) ∨ (((p : Int) ∉ fst f k x) ∧ l = fst f k x ++ [(p : Int)])))
theorem Next_ok (f : TFunc) (h : f.code.length ≤ 1000) (k : Nat) (x : TIns) (hk : f.code[k]? = some x) : Ok (flow_Next f k) (NxS f k x) := by
 have hk' := (List.getElem?_eq_some_iff.1 hk).1
 have hfl := fst_len f k x
 have hft := fst_lt f k x
 have key : Ok (flow_Next_k1 f x (fst f k x)) (NxS f k x) := by
  unfold flow_Next_k1 flow_Next_k2
  refine .ite (fun hj => ?_) (fun hj => .ret ⟨by omega, hft, .inl ⟨hj, rfl⟩⟩)
  refine (place_ok f x.imm h).bind fun p hp => ?_
  rcases hp with ⟨rfl, hn⟩ | ⟨q, y, rfl, hq, hy, hz⟩
  ·simp only [Bool.false_eq_true, if_false, Option.bind_some, show decide ((0 : Int) ≤ -1) = false from rfl]
   exact .ret ⟨by omega, hft, .inr (.inl ⟨hj, hn, rfl⟩)⟩
  ·have hq' := (List.getElem?_eq_some_iff.1 hq).1
   rw [if_pos (by simp)]
   refine Ok.bind (P := fun b => b = true ↔ (q : Int) ∉ fst f k x) ((contains_ok (fst f k x) q (by omega)).bind fun b hb => .ret (by cases b <;> simp_all)) fun b hb => ?_
   refine .ite (fun hb1 => ?_) (fun hb1 => .ret ⟨by omega, hft, .inr (.inr ⟨hj, q, y, hq, hy, hz, .inl ⟨?_, rfl⟩⟩)⟩)
   ·rw [ap_some (by simp; omega)]
    refine .ret ⟨by simp; omega, ?_, .inr (.inr ⟨hj, q, y, hq, hy, hz, .inr ⟨hb.1 hb1, rfl⟩⟩)⟩
    intro j hj
    rcases List.mem_append.1 hj with hj | hj
    ·exact hft j hj
    ·rcases List.mem_singleton.1 hj with rfl; omega
   ·rw [hb1] at hb
    simpa using hb
 unfold flow_Next
 rw [if_neg (by simp; omega), ix_nat, hk]
 simp only [Option.bind_some]
 rw [w64_succ (by omega)]
 rw [show decide (((k + 1 : Nat) : Int) < (f.code.length : Int)) = decide (k + 1 < f.code.length) from dec_lt]
 show Ok (if fall f k x = true then _ else _) _
 have e : fst f k x = if fall f k x then [((k + 1 : Nat) : Int)] else [] := rfl
 refine .ite (fun hb => ?_) (fun hb => ?_)
 ·rw [hb, if_pos rfl] at e
  rw [ap_some (by simp)]
  simp only [Option.bind_some, List.nil_append]
  rw [← e]; exact key
 ·rw [hb] at e
  rw [show ([] : List Int) = fst f k x from e.symm]; exact key
noncomputable def nx (f : TFunc) (k : Nat) : List Int := (flow_Next f k).getD []
section
variable {f : TFunc} {k : Nat} {x : TIns}
theorem Next_is (h : f.code.length ≤ 1000) (hk : f.code[k]? = some x) : flow_Next f k = some (nx f k) := by
 obtain ⟨r, hr, _⟩ := Next_ok f h k x hk
 unfold nx; rw [hr]; rfl
theorem nx_spec (h : f.code.length ≤ 1000) (hk : f.code[k]? = some x) : NxS f k x (nx f k) := (Next_ok f h k x hk).eq (Next_is h hk)
end
theorem Next_at (f : TFunc) (h : f.code.length ≤ 1000) (k : Nat) (hk : k < f.code.length) : flow_Next f k = some (nx f k) := Next_is h (List.getElem?_eq_getElem hk)
theorem nx_at (f : TFunc) (h : f.code.length ≤ 1000) (k : Nat) (hk : k < f.code.length) : (nx f k).length ≤ 2 ∧ ∀ j ∈ nx f k, 0 ≤ j ∧ j < f.code.length :=
 let s := nx_spec h (List.getElem?_eq_getElem hk); ⟨s.1, s.2.1⟩
def us (x : TIns) (r : Int) : Prop := x.a = r ∨ x.b = r ∨ r ∈ x.args
theorem Uses_ok (x : TIns) (ha : x.args.length ≤ 1000) : Ok (ir_Uses x) (fun l => l.length ≤ 1002 ∧ ∀ r, r ∈ l ↔ 0 ≤ r ∧ us x r) := by
 unfold ir_Uses
 rw [ap_some (by simp; omega)]
 simp only [Option.bind_some]
 unfold ir_Uses_l1
 refine loop_for ([x.a, x.b] ++ x.args) (fun k s => s.2 = (k : Int) ∧ s.1.length ≤ k ∧ ∀ r, r ∈ s.1 ↔ 0 ≤ r ∧ r ∈ ([x.a, x.b] ++ x.args).take k) (fun k y s hk' hk hs => ?_) (fun s hs => ?_) (by simp)
 ·obtain ⟨xs, i⟩ := s
  obtain ⟨rfl, hl, hs⟩ := hs
  show Ok (ir_Uses_l1b _ xs k) _
  unfold ir_Uses_l1b ir_Uses_k1
  have hk2 : ([x.a, x.b] ++ x.args).length ≤ 1002 := by simp; omega
  rw [if_pos (by simp at *; omega), ix_nat, hk]
  simp only [Option.bind_some]
  rw [List.getElem?_eq_getElem hk'] at hk
  have hy := Option.some.inj hk
  have hl' : xs.length ≤ k := hl
  refine .ite (fun hb => ?_) (fun hb => .ret ⟨w64_succ (by omega), Nat.le_succ_of_le hl, fun r => ?_⟩)
  ·rw [ap_some (by simp; omega)]
   refine .ret ⟨w64_succ (by omega), by simp; omega, fun r => ?_⟩
   rw [mem_take_succ hk', hy]
   show r ∈ xs ++ [y] ↔ _
   rw [List.mem_append, hs r, List.mem_singleton]
   have : 0 ≤ y := by simpa using hb
   constructor
   ·rintro (h | rfl)
    ·exact ⟨h.1, .inl h.2⟩
    ·exact ⟨this, .inr rfl⟩
   ·rintro ⟨h1, h2 | h2⟩
    ·exact .inl ⟨h1, h2⟩
    ·exact .inr h2
  ·rw [mem_take_succ hk', hy]
   show r ∈ xs ↔ _
   rw [hs r]
   have : y < 0 := by simpa using hb
   constructor
   ·rintro h; exact ⟨h.1, .inl h.2⟩
   ·rintro ⟨h1, h2 | h2⟩
    ·exact ⟨h1, h2⟩
    ·omega
 ·obtain ⟨xs, i⟩ := s
  obtain ⟨rfl, hl, hs⟩ := hs
  show Ok (ir_Uses_l1b _ xs _) _
  unfold ir_Uses_l1b
  rw [if_neg (by simp)]
  rw [List.take_length] at hs
  refine .map (.ret ⟨by simp at hl; omega, fun r => ?_⟩)
  rw [hs r]
  unfold us
  simp only [List.cons_append, List.nil_append, List.mem_cons]
  constructor
  ·rintro ⟨h1, h2 | h2 | h2⟩
   ·exact ⟨h1, .inl h2.symm⟩
   ·exact ⟨h1, .inr (.inl h2.symm)⟩
   ·exact ⟨h1, .inr (.inr h2)⟩
  ·rintro ⟨h1, h2 | h2 | h2⟩
   ·exact ⟨h1, .inl h2.symm⟩
   ·exact ⟨h1, .inr (.inl h2.symm)⟩
   ·exact ⟨h1, .inr (.inr h2)⟩
theorem merge_is (R : Nat) (hR : R ≤ 1000) (g h : Nat → Bool) : Ok (flow_set_merge (tb R g) (tb R h)) (fun r => r.2 = tb R (fun k => g k || h k) ∧ (r.1 = true ↔ ∃ k, k < R ∧ h k = true ∧ g k = false)) := by
 unfold flow_set_merge flow_set_merge_l1
 refine loop_for (tb R h) (fun k s => s.2.2 = (k : Int) ∧ s.1 = tb R (fun j => if j < k then g j || h j else g j) ∧ (s.2.1 = true ↔ ∃ j, j < k ∧ h j = true ∧ g j = false)) (fun k y s hk' hk hs => ?_) (fun s hs => ?_) (by simp)
 ·obtain ⟨xs, b, i⟩ := s
  obtain ⟨h1, h2, h3⟩ := hs
  simp only at h1 h2 h3
  subst h1 h2
  rw [tb_len] at hk'
  show Ok (flow_set_merge_l1b _ _ b k) _
  unfold flow_set_merge_l1b
  rw [if_pos (by simp; omega), ix_tb hk', ix_tb hk']
  simp only [Option.bind_some, Nat.lt_irrefl, if_false, Int.toNat_natCast]
  refine Ok.bind (P := fun b' => b' = true ↔ ∃ j, j < k + 1 ∧ h j = true ∧ g j = false) ?_ (fun b' hb' => .ret ⟨w64_succ (by omega), ?_, hb'⟩)
  ·refine .ite (fun hb => .ret ?_) (fun hb => ?_)
   ·obtain ⟨j, h4, h5⟩ := h3.1 hb
    exact ⟨fun _ => ⟨j, by omega, h5⟩, fun _ => rfl⟩
   ·have hno : ¬ ∃ j, j < k ∧ h j = true ∧ g j = false := fun hex => by rw [h3.2 hex] at hb; cases hb
    refine Ok.bind (P := fun c => c = true ↔ h k = true ∧ g k = false) (.ite (fun hh => .ret ?_) (fun hh => .ret ?_)) (fun c hc => .ret ?_)
    ·rw [hh]; simp
    ·rw [hh]; simp
    ·constructor
     ·intro hct; exact ⟨k, by omega, hc.1 hct⟩
     ·rintro ⟨j, h4, h5⟩
      by_cases hjk : j = k
      ·subst hjk; exact hc.2 h5
      ·exact (hno ⟨j, by omega, h5⟩).elim
  ·show (tb R _).set k _ = _
   rw [tb_set]
   apply tb_ext
   intro j hj
   by_cases hjk : j = k
   ·subst hjk; simp
   ·simp only [hjk, if_false]
    by_cases h4 : j < k
    ·rw [if_pos h4, if_pos (by omega)]
    ·rw [if_neg h4, if_neg (by omega)]
 ·obtain ⟨xs, b, i⟩ := s
  obtain ⟨h1, h2, h3⟩ := hs
  simp only at h1 h2 h3
  rw [tb_len] at h1 h2 h3
  subst h1 h2
  show Ok (flow_set_merge_l1b _ _ b _) _
  unfold flow_set_merge_l1b
  rw [if_neg (by simp)]
  exact .map (.ret ⟨tb_ext (fun j hj => by rw [if_pos hj]), h3⟩)
open Classical in
noncomputable def stp (x : TIns) (g : Nat → Bool) (r : Nat) : Bool := decide (us x r) || (g r && decide (x.d ≠ (r : Int)))
theorem step_is (x : TIns) (ha : x.args.length ≤ 1000) (R : Nat) (hR : R ≤ 1000) (g : Nat → Bool) : flow_step x (tb R g) = some (tb R (stp x g)) := by
 have key : ∀ (g' : Nat → Bool), (∀ r, r < R → g' r = (g r && decide (x.d ≠ (r : Int)))) → flow_step_k1 x (tb R g') = some (tb R (stp x g)) := by
  intro g' hg
  unfold flow_step_k1 flow_step_l1
  refine ((Uses_ok x ha).bind fun l hl => ?_).some_of
  classical
  refine loop_for l (fun k s => s.2 = (k : Int) ∧ s.1 = tb R (fun r => decide ((r : Int) ∈ l.take k) || g' r)) (fun k y s hk' hk hs => ?_) (fun s hs => ?_) ⟨rfl, tb_ext (by simp)⟩
  ·obtain ⟨xs, i⟩ := s
   obtain ⟨h1, h2⟩ := hs
   simp only at h1 h2
   subst h1 h2
   show Ok (flow_step_l1b l _ k) _
   unfold flow_step_l1b flow_step_k2
   rw [if_pos (by simp; omega), ix_nat, hk]
   simp only [Option.bind_some]
   have hy0 : 0 ≤ y := ((hl.2 y).1 (List.mem_of_getElem? hk)).1
   obtain ⟨q, rfl⟩ := Int.eq_ofNat_of_zero_le hy0
   have hyk : l[k] = (q : Int) := by rw [List.getElem?_eq_getElem hk'] at hk; exact Option.some.inj hk
   have hll := hl.1
   refine .ite (fun hb => ?_) (fun hb => .ret ⟨w64_succ (by omega), ?_⟩)
   ·have hq : q < R := by simp at hb; exact hb
    rw [ix_tb hq]
    simp only [Option.bind_some, Int.toNat_natCast]
    refine .ret ⟨w64_succ (by omega), ?_⟩
    show (tb R _).set q true = _
    rw [tb_set]
    apply tb_ext
    intro j hj
    by_cases hjq : j = q
    ·subst hjq
     have : (j : Int) ∈ l.take (k + 1) := by rw [mem_take_succ hk', hyk]; exact .inr rfl
     simp [this]
    ·have : (j : Int) ∈ l.take (k + 1) ↔ (j : Int) ∈ l.take k := by
      rw [mem_take_succ hk', hyk]
      constructor
      ·rintro (h | h)
       ·exact h
       ·omega
      ·exact .inl
     simp [this, hjq]
   ·have hq : ¬ q < R := by simp at hb; omega
    show tb R _ = _
    apply tb_ext
    intro j hj
    have : (j : Int) ∈ l.take (k + 1) ↔ (j : Int) ∈ l.take k := by
     rw [mem_take_succ hk', hyk]
     constructor
     ·rintro (h | h)
      ·exact h
      ·omega
     ·exact .inl
    simp [this]
  ·obtain ⟨xs, i⟩ := s
   obtain ⟨h1, h2⟩ := hs
   simp only at h1 h2
   subst h1 h2
   show Ok (flow_step_l1b l _ _) _
   unfold flow_step_l1b
   rw [if_neg (by simp), List.take_length]
   refine .map (.ret (tb_ext fun j hj => ?_))
   unfold stp
   rw [hg j hj]
   congr 1
   have := hl.2 (j : Int)
   simp only [decide_eq_decide]
   rw [this]
   constructor
   ·exact fun h => h.2
   ·exact fun h => ⟨by omega, h⟩
 unfold flow_step slices_Clone_3 ir_Def
 rw [ap_some (by simp; omega)]
 simp only [Option.bind_some, List.nil_append, tb_len]
 by_cases hd : 0 ≤ x.d ∧ x.d < R
 ·obtain ⟨q, hq⟩ := Int.eq_ofNat_of_zero_le hd.1
  rw [hq]
  have hqR : q < R := by omega
  rw [if_pos (by simp; exact hqR), ix_tb hqR]
  simp only [Option.bind_some, Int.toNat_natCast]
  rw [tb_set]
  apply key
  intro r hr
  rw [hq]
  by_cases hrq : r = q
  ·subst hrq; simp
  ·have : ¬ (q : Int) = (r : Int) := by omega
   simp [hrq, this]
 ·rw [if_neg (by simpa using hd)]
  apply key
  intro r hr
  have : x.d ≠ (r : Int) := by omega
  simp [this]
inductive Nd (f : TFunc) (r : Int) : Nat → Prop
 | use (k : Nat) (x : TIns) (hk : f.code[k]? = some x) (hu : us x r) : Nd f r k
 | go (k : Nat) (x : TIns) (j : Nat) (hk : f.code[k]? = some x) (hd : x.d ≠ r) (hj : (j : Int) ∈ nx f k) (h : Nd f r j) : Nd f r k
abbrev tt (n R : Nat) (G : Nat → Nat → Bool) : List (List Bool) := tb n (fun i => tb R (G i))
section
variable (f : TFunc) (R : Nat)
noncomputable def outOf (G : Nat → Nat → Bool) (k : Nat) (r : Nat) : Bool := (nx f k).any (fun j => G j.toNat r)
noncomputable def newOf (G : Nat → Nat → Bool) (k : Nat) (x : TIns) : Nat → Bool := stp x (outOf f G k)
def Sound (G : Nat → Nat → Bool) : Prop := ∀ i r, i < f.code.length → r < R → G i r = true → Nd f r i
def ClosedAt (G : Nat → Nat → Bool) (i : Nat) : Prop := ∀ x r, f.code[i]? = some x → r < R → newOf f G i x r = true → G i r = true
theorem l4_is (h : f.code.length ≤ 1000) (hR : R ≤ 1000) (hreg : max f.regs 0 = (R : Int)) (hargs : ∀ x ∈ f.code, x.args.length ≤ 1000) (G : Nat → Nat → Bool) (ch : Bool) (k : Nat) (x : TIns) (hk : f.code[k]? = some x) :
  Ok (flow_Live_l4 f (tb f.code.length (nx f)) (tt f.code.length R G) ch k (nx f k) (tb R (fun _ => false)) 0) (fun r => ∃ (b : Bool) (G2 : Nat → Nat → Bool), r = .inl (tt f.code.length R G2, (ch || b), (k : Int) - 1) ∧ (∀ r, G2 k r = (G k r || newOf f G k x r)) ∧ (∀ i, i ≠ k → G2 i = G i) ∧ (b = true ↔ ∃ r, r < R ∧ newOf f G k x r = true ∧ G k r = false)) := by
 have hk' := (List.getElem?_eq_some_iff.1 hk).1
 have hnx := nx_at f h k hk'
 unfold flow_Live_l4
 refine loop_for (nx f k) (fun m s => s.2 = (m : Int) ∧ s.1 = tb R (fun r => ((nx f k).take m).any (fun j => G j.toNat r))) (fun m y s hm' hm hs => ?_) (fun s hs => ?_) ⟨rfl, tb_ext (by simp)⟩
 ·obtain ⟨xs, i⟩ := s
  obtain ⟨h1, h2⟩ := hs
  simp only at h1 h2
  subst h1 h2
  show Ok (flow_Live_l4b _ _ _ _ _ _ _ m) _
  unfold flow_Live_l4b
  rw [if_pos (by simp; omega), ix_tb hk']
  simp only [Option.bind_some, ix_nat, hm]
  have hy := hnx.2 y (List.mem_of_getElem? hm)
  obtain ⟨q, rfl⟩ := Int.eq_ofNat_of_zero_le hy.1
  have hq : q < f.code.length := by omega
  rw [ix_tb hq]
  simp only [Option.bind_some]
  refine (merge_is R hR _ _).bind fun r hr => .ret ⟨w64_succ (by omega), ?_⟩
  show r.2 = _
  rw [hr.1]
  apply tb_ext
  intro j hj
  rw [List.take_add_one, hm, Option.toList_some, List.any_append]
  simp
 ·obtain ⟨xs, i⟩ := s
  obtain ⟨h1, h2⟩ := hs
  simp only at h1 h2
  subst h1 h2
  show Ok (flow_Live_l4b _ _ _ _ _ _ _ _) _
  unfold flow_Live_l4b
  rw [if_neg (by simp), ix_tb hk', ix_nat, hk]
  simp only [Option.bind_some, List.take_length]
  rw [step_is x (hargs x (List.mem_of_getElem? hk)) R hR]
  simp only [Option.bind_some]
  refine .map ((merge_is R hR _ _).bind fun r hr => ?_)
  unfold flow_Live_k1
  have hw : w64 ((k : Int) - 1) = (k : Int) - 1 := w64_id (by omega) (by omega)
  have hset : (tt f.code.length R G).set (Int.toNat k) r.2 = tt f.code.length R (fun i => if i = k then (fun r => G k r || newOf f G k x r) else G i) := by
   rw [hr.1, Int.toNat_natCast, tb_set]
   apply tb_ext
   intro i hi
   by_cases hik : i = k
   ·subst hik; simp only [if_true]; rfl
   ·simp only [hik, if_false]
  rw [hset, hw]
  refine .ite (fun hb => .ret ⟨true, (fun i => if i = k then (fun r => G k r || newOf f G k x r) else G i), by simp, fun r => by simp, fun i hi => by simp [hi], ⟨fun _ => hr.2.1 hb, fun _ => rfl⟩⟩) (fun hb => .ret ⟨false, (fun i => if i = k then (fun r => G k r || newOf f G k x r) else G i), by simp, fun r => by simp, fun i hi => by simp [hi], ⟨fun h => (by cases h), fun hex => ?_⟩⟩)
  have := hr.2.2 hex
  rw [hb] at this; exact this
theorem l3_is (h : f.code.length ≤ 1000) (hR : R ≤ 1000) (hreg : max f.regs 0 = (R : Int)) (hargs : ∀ x ∈ f.code, x.args.length ≤ 1000) (G : Nat → Nat → Bool) (hG : Sound f R G) :
  Ok (flow_Live_l3 f (tb f.code.length (nx f)) (tt f.code.length R G) false (w64 ((f.code.length : Int) - 1))) (fun r => ∃ G' b, r = .inl (tt f.code.length R G', b) ∧ Sound f R G' ∧ (∀ i r, G i r = true → G' i r = true) ∧
   (b = false → ∀ i, i < f.code.length → ClosedAt f R G' i) ∧ (b = true → ∃ i r, i < f.code.length ∧ r < R ∧ G' i r = true ∧ G i r = false)) := by
 unfold flow_Live_l3
 rw [w64_id (by omega) (by omega)]
 refine Ok.loop (B := fun s => flow_Live_l3b f (tb f.code.length (nx f)) s.1 s.2.1 s.2.2) (fun m s => s.2.2 = (f.code.length : Int) - 1 - m ∧ ∃ G', s.1 = tt f.code.length R G' ∧ Sound f R G' ∧ (∀ i r, G i r = true → G' i r = true) ∧
   (s.2.1 = false → (∀ i r, i < f.code.length → r < R → G' i r = G i r) ∧ ∀ i, i < f.code.length → f.code.length ≤ i + m → ClosedAt f R G' i) ∧ (s.2.1 = true → ∃ i r, i < f.code.length ∧ r < R ∧ G' i r = true ∧ G i r = false))
  f.code.length (fun m s hm hs => ?_) (fun s hs => ?_) ⟨by simp, G, rfl, hG, fun _ _ h => h, fun _ => ⟨fun _ _ _ _ => rfl, fun i h1 h2 => by omega⟩, fun h => by cases h⟩
 ·obtain ⟨xs, ch, i⟩ := s
  obtain ⟨h1, G', h2, h3, h4, h5, h6⟩ := hs
  simp only at h1 h2 h5 h6
  have hi : i = ((f.code.length - 1 - m : Nat) : Int) := by omega
  subst hi h2
  generalize hk : f.code.length - 1 - m = k at *
  have hk' : k < f.code.length := by omega
  show Ok (flow_Live_l3b f _ _ ch k) _
  unfold flow_Live_l3b
  rw [if_pos (by simp), hreg, mk_tb (by omega)]
  simp only [Option.bind_some]
  rw [ix_tb hk']
  simp only [Option.bind_some]
  refine (l4_is f R h hR hreg hargs G' ch k f.code[k] (List.getElem?_eq_getElem hk')).mono fun r hr => ?_
  obtain ⟨b, G2, rfl, e1, e2, hb⟩ := hr
  have hx : f.code[k]? = some f.code[k] := List.getElem?_eq_getElem hk'
  have hnew : ∀ r : Nat, r < R → newOf f G' k f.code[k] r = true → Nd f r k := by
   intro r hr hn
   unfold newOf stp at hn
   rw [Bool.or_eq_true, Bool.and_eq_true] at hn
   rcases hn with hn | ⟨hn, hd⟩
   ·exact .use k _ hx (by simpa using hn)
   ·unfold outOf at hn
    rw [List.any_eq_true] at hn
    obtain ⟨j, hj, hg⟩ := hn
    have hj2 := (nx_at f h k hk').2 j hj
    obtain ⟨q, rfl⟩ := Int.eq_ofNat_of_zero_le hj2.1
    exact .go k _ q hx (by simpa using hd) hj (h3 q r (by omega) hr hg)
  refine ⟨by simp; omega, _, rfl, ?_, ?_, ?_, ?_⟩
  ·intro i r hi hr hg
   by_cases hik : i = k
   ·subst hik
    rw [e1, Bool.or_eq_true] at hg
    rcases hg with hg | hg
    ·exact h3 i r hi hr hg
    ·exact hnew r hr hg
   ·rw [e2 i hik] at hg
    exact h3 i r hi hr hg
  ·intro i r hg
   have := h4 i r hg
   by_cases hik : i = k
   ·subst hik; rw [e1, this]; rfl
   ·rw [e2 i hik]; exact this
  ·intro hcb
   have hcb' : ch = false ∧ b = false := by simpa using hcb
   obtain ⟨hc, hbf⟩ := hcb'
   obtain ⟨h7, h8⟩ := h5 hc
   have hno : ¬ ∃ r, r < R ∧ newOf f G' k f.code[k] r = true ∧ G' k r = false := fun hex => by rw [hb.2 hex] at hbf; cases hbf
   have same : ∀ i r, i < f.code.length → r < R → G2 i r = G' i r := by
    intro i r hi hr
    by_cases hik : i = k
    ·subst hik
     rw [e1]
     cases hg : G' i r with
     | true => rfl
     | false =>
      cases hn : newOf f G' i f.code[i] r with
      | false => rfl
      | true => exact (hno ⟨r, hr, hn, hg⟩).elim
    ·rw [e2 i hik]
   have newsame : ∀ i x r, i < f.code.length → r < R → newOf f G2 i x r = newOf f G' i x r := by
    intro i x r hi hr
    unfold newOf stp outOf
    congr 2
    rw [Bool.eq_iff_iff, List.any_eq_true, List.any_eq_true]
    constructor
    ·rintro ⟨j, hj, hg⟩
     have hj2 := (nx_at f h i hi).2 j hj
     rw [same j.toNat r (by omega) hr] at hg
     exact ⟨j, hj, hg⟩
    ·rintro ⟨j, hj, hg⟩
     have hj2 := (nx_at f h i hi).2 j hj
     refine ⟨j, hj, ?_⟩
     rw [same j.toNat r (by omega) hr]
     exact hg
   refine ⟨fun i r hi hr => by rw [same i r hi hr]; exact h7 i r hi hr, fun i hi him => ?_⟩
   intro x r hxx hr hn
   rw [newsame i x r hi hr] at hn
   rw [same i r hi hr]
   by_cases hik : i = k
   ·subst hik
    cases hg : G' i r with
    | true => rfl
    | false =>
     rw [List.getElem?_eq_getElem hk'] at hxx
     have hxe := Option.some.inj hxx
     rw [← hxe] at hn
     exact (hno ⟨r, hr, hn, hg⟩).elim
   ·exact h8 i hi (by omega) x r hxx hr hn
  ·intro hcb
   have hcb' : ch = true ∨ b = true := by simpa using hcb
   rcases hcb' with hc | hbt
   ·obtain ⟨i, r, hi, hr, hg, hg0⟩ := h6 hc
    refine ⟨i, r, hi, hr, ?_, hg0⟩
    by_cases hik : i = k
    ·subst hik; rw [e1, hg]; rfl
    ·rw [e2 i hik]; exact hg
   ·obtain ⟨r, hr, hn, hg⟩ := hb.1 hbt
    refine ⟨k, r, hk', hr, by rw [e1, hn, Bool.or_true], ?_⟩
    cases hg0 : G k r with
    | false => rfl
    | true => rw [h4 k r hg0] at hg; cases hg
 ·obtain ⟨xs, ch, i⟩ := s
  obtain ⟨h1, G', h2, h3, h4, h5, h6⟩ := hs
  simp only at h1 h2 h5 h6
  subst h2
  show Ok (flow_Live_l3b f _ _ ch i) _
  unfold flow_Live_l3b
  rw [if_neg (by simp; omega)]
  exact .map (.ret ⟨G', ch, rfl, h3, h4, fun hc i hi => (h5 hc).2 i hi (by omega), h6⟩)
end
def pairs (n R : Nat) : List (Nat × Nat) := (List.range n).flatMap (fun i => (List.range R).map (fun r => (i, r)))
theorem mem_pairs {n R i r : Nat} : (i, r) ∈ pairs n R ↔ i < n ∧ r < R := by
 simp [pairs]
def gaps (n R : Nat) (L : List (List Bool)) : Nat := (pairs n R).countP (fun p => !((L.getD p.1 []).getD p.2 false))
theorem gaps_lt {n R : Nat} {G G' : Nat → Nat → Bool} (h1 : ∀ i r, G i r = true → G' i r = true) (h2 : ∃ i r, i < n ∧ r < R ∧ G' i r = true ∧ G i r = false) : gaps n R (tt n R G') < gaps n R (tt n R G) := by
 have e : ∀ (G : Nat → Nat → Bool) i r, i < n → r < R → ((tt n R G).getD i []).getD r false = G i r := fun G i r hi hr => by rw [tb_getD hi, tb_getD hr]
 unfold gaps
 apply countP_strict
 ·rintro ⟨i, r⟩ hx hp
  have := mem_pairs.1 hx
  simp only [e _ i r this.1 this.2] at hp ⊢
  cases hg : G i r with
  | false => rfl
  | true => rw [h1 i r hg] at hp; exact hp
 ·obtain ⟨i, r, hi, hr, hg, hg0⟩ := h2
  refine ⟨(i, r), mem_pairs.2 ⟨hi, hr⟩, ?_, ?_⟩
  ·simp only [e _ i r hi hr]; rw [hg0]; rfl
  ·simp only [e _ i r hi hr]; rw [hg]; rfl
theorem gaps_le {n R : Nat} {G G' : Nat → Nat → Bool} (h1 : ∀ i r, G i r = true → G' i r = true) : gaps n R (tt n R G') ≤ gaps n R (tt n R G) := by
 have e : ∀ (G : Nat → Nat → Bool) i r, i < n → r < R → ((tt n R G).getD i []).getD r false = G i r := fun G i r hi hr => by rw [tb_getD hi, tb_getD hr]
 unfold gaps
 apply List.countP_mono_left
 rintro ⟨i, r⟩ hx hp
 have := mem_pairs.1 hx
 simp only [e _ i r this.1 this.2] at hp ⊢
 cases hg : G i r with
 | false => rfl
 | true => rw [h1 i r hg] at hp; exact hp
theorem l5_is (L : List (List Bool)) (n : Nat) (hn : n ≤ 1000) (hL : L.length = n) : flow_Live_l5 L [] L 0 = some L := by
 unfold flow_Live_l5
 refine (loop_for (B := fun s => flow_Live_l5b L s.1 s.2.1 s.2.2) (P := fun r => r = L) L (fun k s => s = (L.take k, L, (k : Int))) (fun k x s hk' hk hs => ?_) (fun s hs => ?_) rfl).some_of
 ·subst hs
  show Ok (flow_Live_l5b L (L.take k) L k) _
  unfold flow_Live_l5b
  rw [if_pos (by simp; omega), ix_nat, hk]
  simp only [Option.bind_some]
  rw [ap_some (by simp; omega)]
  refine .ret ?_
  show _ = _
  rw [w64_succ (by omega), List.take_add_one, hk, Option.toList_some]
 ·subst hs
  show Ok (flow_Live_l5b L (L.take L.length) L L.length) _
  unfold flow_Live_l5b
  rw [if_neg (by simp), List.take_length]
  exact .map (.ret rfl)
section
variable (f : TFunc) (R : Nat)
theorem closed_all (h : f.code.length ≤ 1000) (hR : R ≤ 1000) (hreg : max f.regs 0 = (R : Int)) (hargs : ∀ x ∈ f.code, x.args.length ≤ 1000) (G : Nat → Nat → Bool) (hG : ∀ i, i < f.code.length → ClosedAt f R G i) (r : Nat) (hr : r < R) : ∀ i, Nd f r i → i < f.code.length → G i r = true := by
 intro i hn
 induction hn with
 | use k x hk hu =>
  intro hi
  refine hG k hi x r hk hr ?_
  unfold newOf stp; simp [hu]
 | go k x j hk hd hj hjn ih =>
  intro hi
  refine hG k hi x r hk hr ?_
  have hj2 := (nx_at f h k hi).2 j hj
  have := ih (by omega)
  unfold newOf stp
  rw [Bool.or_eq_true, Bool.and_eq_true]
  refine .inr ⟨?_, by simpa using hd⟩
  unfold outOf
  rw [List.any_eq_true]
  exact ⟨(j : Int), hj, by simpa using this⟩
theorem Live_is (h : f.code.length ≤ 1000) (hR : R ≤ 1000) (hreg : max f.regs 0 = (R : Int)) (hargs : ∀ x ∈ f.code, x.args.length ≤ 1000) : Ok (flow_Live f) (fun L => ∃ G, L = tt f.code.length R G ∧ ∀ i r, i < f.code.length → r < R → (G i r = true ↔ Nd f r i)) := by
 unfold flow_Live
 rw [mk_tb (by omega), mk_tb (by omega)]
 simp only [Option.bind_some]
 unfold flow_Live_l1
 refine Ok.loop (B := fun s => flow_Live_l1b f (tb f.code.length (fun _ => ([] : List Bool))) s.1 s.2.1 s.2.2) (fun k s => s = (tb f.code.length (fun i => if i < k then tb R (fun _ => false) else []), tb f.code.length (fun i => if i < k then nx f i else []), (k : Int))) f.code.length (fun k s hk hs => ?_) (fun s hs => ?_) (by simp)
 ·subst hs
  show Ok (flow_Live_l1b f _ _ _ k) _
  unfold flow_Live_l1b
  rw [if_pos (by simp; omega), hreg, mk_tb (by omega)]
  simp only [Option.bind_some]
  rw [ix_tb hk, ix_tb hk, Next_at f h k hk]
  simp only [Option.bind_some]
  refine .ret ?_
  show _ = _
  rw [w64_succ (by omega), Int.toNat_natCast, tb_set, tb_set]
  congr 1
  ·apply tb_ext
   intro i hi
   by_cases hik : i = k
   ·subst hik; simp
   ·simp only [hik, if_false]
    by_cases h2 : i < k
    ·rw [if_pos h2, if_pos (by omega)]
    ·rw [if_neg h2, if_neg (by omega)]
  ·congr 1
   apply tb_ext
   intro i hi
   by_cases hik : i = k
   ·subst hik; simp
   ·simp only [hik, if_false]
    by_cases h2 : i < k
    ·rw [if_pos h2, if_pos (by omega)]
    ·rw [if_neg h2, if_neg (by omega)]
 ·subst hs
  show Ok (flow_Live_l1b f _ _ _ _) _
  unfold flow_Live_l1b
  rw [if_neg (by simp)]
  refine .map ?_
  rw [show tb f.code.length (fun i => if i < f.code.length then tb R (fun _ => false) else []) = tt f.code.length R (fun _ _ => false) from tb_ext (fun i hi => by rw [if_pos hi]),
   show tb f.code.length (fun i => if i < f.code.length then nx f i else []) = tb f.code.length (nx f) from tb_ext (fun i hi => by rw [if_pos hi])]
  unfold flow_Live_l2
  refine Ok.loopM (B := fun s => flow_Live_l2b f (tb f.code.length (nx f)) s.1 s.2) (fun s => ∃ G, s.1 = tt f.code.length R G ∧ Sound f R G ∧ (s.2 = false → ∀ i, i < f.code.length → ClosedAt f R G i)) (fun s => gaps f.code.length R s.1 + (if s.2 then 1 else 0)) (fun s hs => ?_) ⟨fun _ _ => false, rfl, (fun _ _ _ _ h => by cases h), (fun h => by cases h)⟩
  obtain ⟨xs, b⟩ := s
  obtain ⟨G, h1, h2, h3⟩ := hs
  simp only at h1 h3
  subst h1
  show Ok (flow_Live_l2b f _ _ b) _
  unfold flow_Live_l2b
  refine .ite (fun hb => ?_) (fun hb => ?_)
  ·subst hb
   refine (l3_is f R h hR hreg hargs G h2).mono fun r hr => ?_
   obtain ⟨G', b', rfl, h4, h5, h6, h7⟩ := hr
   refine ⟨⟨G', rfl, h4, h6⟩, ?_⟩
   show gaps _ _ _ + (if b' = true then 1 else 0) < gaps _ _ _ + (if true = true then 1 else 0)
   cases hb' : b' with
   | true =>
    have := gaps_lt h5 (h7 hb')
    simp; omega
   | false =>
    have := gaps_le (n := f.code.length) (R := R) h5
    simp; omega
  ·rw [l5_is _ f.code.length h (by simp)]
   refine .map (.ret ⟨G, rfl, fun i r hi hr => ⟨h2 i r hi hr, fun hn => closed_all f R h hR hreg hargs G (h3 hb) r hr i hn hi⟩⟩)
end
def cnt (c : List TIns) (i : Int) : Nat := c.countP (fun x => (decide (x.op = 11)) && (decide (x.imm = i)))
theorem count_is (f : TFunc) (i : Int) (h : f.code.length ≤ 1000) : ref08_count f i = some (cnt f.code i : Int) := by
 unfold ref08_count ref08_count_l1
 refine (Ok.loop (B := fun s => ref08_count_l1b f i s.1 s.2) (P := fun r => r = (cnt f.code i : Int)) (fun k s => s = ((cnt (f.code.take k) i : Int), (k : Int))) f.code.length (fun k s hk hs => ?_) (fun s hs => ?_) (by simp [cnt])).some_of
 ·subst hs
  show Ok (ref08_count_l1b f i _ _) _
  unfold ref08_count_l1b ref08_count_k1
  have hle : cnt (f.code.take k) i ≤ k := by
   have : cnt (f.code.take k) i ≤ _ := List.countP_le_length
   simp at this; omega
  rw [if_pos (by simp; omega), ix_some hk]
  simp only [Option.bind_some]
  have ht : cnt (f.code.take (k + 1)) i = cnt (f.code.take k) i + (if (decide (f.code[k].op = 11)) && (decide (f.code[k].imm = i)) then 1 else 0) := by
   unfold cnt
   rw [List.take_add_one, List.getElem?_eq_getElem hk, Option.toList_some, List.countP_append, List.countP_singleton]
  refine .ite (fun hb => .ret ?_) (fun hb => .ret ?_)
  ·show _ = _
   rw [w64_succ (by omega), w64_succ (by omega), ht, if_pos hb]
  ·show _ = _
   rw [w64_succ (by omega), ht, if_neg (by rw [hb]; decide)]
   rfl
 ·subst hs
  show Ok (ref08_count_l1b f i _ _) _
  unfold ref08_count_l1b
  rw [if_neg (by simp), List.take_length]
  exact ⟨_, rfl, rfl⟩
section
variable {f f' : TFunc}
theorem has_tot (op : Int) : Ok (ref08_has op) (fun _ => True) := by
 have h5 : ∀ b, Ok (ref08_has_k5 b) (fun _ => True) := fun b => .ite (fun _ => .ret trivial) (fun _ => .ret trivial)
 have h4 : ∀ b, Ok (ref08_has_k4 op b) (fun _ => True) := fun b => .ite (fun _ => .ret trivial) (fun _ => .ite (fun _ => .ret trivial) (fun _ => .ite (fun _ => .ret trivial) (fun _ => .ite (fun _ => h5 _) (fun _ => .ite (fun _ => h5 _) (fun _ => .ite (fun _ => h5 _) (fun _ => h5 _))))))
 have h3 : ∀ b, Ok (ref08_has_k3 op b) (fun _ => True) := fun b => .ite (fun _ => .ret trivial) (fun _ => .ite (fun _ => .ret trivial) (fun _ => .ite (fun _ => h4 _) (fun _ => h4 _)))
 have h2 : ∀ b, Ok (ref08_has_k2 op b) (fun _ => True) := fun b => .ite (fun _ => .ret trivial) (fun _ => .ite (fun _ => h3 _) (fun _ => .ite (fun _ => h3 _) (fun _ => .ite (fun _ => h3 _) (fun _ => .ite (fun _ => h3 _) (fun _ => .ite (fun _ => h3 _) (fun _ => h3 _))))))
 have h1 : ∀ b, Ok (ref08_has_k1 op b) (fun _ => True) := fun b => .ite (fun _ => .ret trivial) (fun _ => .ite (fun _ => h2 _) (fun _ => h2 _))
 exact .ite (fun _ => h1 _) (fun _ => h1 _)
theorem reg_tot (a b : Bool) (c d : Int) : Ok (ref08_register a b c d) (fun _ => True) := .ite (fun _ => .ret trivial) (fun _ => .ret trivial)
theorem ins_tot (h : f.code.length ≤ 1000) (p : TIns) (hp : p.args.length ≤ 9223372036854775807) : Ok (ref08_ins f p) (fun _ => True) := by
 have h2 : ∀ t b, Ok (ref08_ins_k2 f p t b) (fun _ => True) := fun t b => .ite (fun _ => .ret trivial) (fun _ => .ite (fun _ => .ret trivial) (fun _ => .ite (fun _ => .ret trivial) (fun _ => .ite (fun _ => by rw [count_is f _ h]; exact .ret trivial) (fun _ => .ret trivial))))
 have h1 : ∀ t, Ok (ref08_ins_l1 f p t 0) (fun _ => True) := by
  intro t
  unfold ref08_ins_l1
  refine loop_all p.args hp (fun k x hk => ?_) ?_
  ·have hk' := (List.getElem?_eq_some_iff.1 hk).1
   unfold ref08_ins_l1b
   rw [if_pos (by simp; omega), ix_nat, hk]
   exact .ite (fun _ => .map (.ret trivial)) (fun _ => .ret rfl)
  ·unfold ref08_ins_l1b
   rw [if_neg (by simp)]
   refine .map (.ite (fun _ => .ret trivial) (fun _ => .ite (fun _ => h2 _ _) (fun _ => .ite (fun _ => h2 _ _) (fun _ => .ite (fun _ => h2 _ _) (fun _ => .ite (fun _ => h2 _ _) (fun _ => h2 _ _))))))
 have hk : ∀ t b, Ok (ref08_ins_k1 f p t b) (fun _ => True) := by
  intro t b
  refine (reg_tot _ _ _ _).bind fun _ _ => ?_
  refine Ok.bind (P := fun _ => True) (.ite (fun _ => .ret trivial) (fun _ => (reg_tot _ _ _ _).bind fun _ _ => .ret trivial)) fun _ _ => ?_
  refine Ok.bind (P := fun _ => True) (.ite (fun _ => .ret trivial) (fun _ => (reg_tot _ _ _ _).bind fun _ _ => .ret trivial)) fun _ _ => ?_
  exact .ite (fun _ => .ret trivial) (fun _ => h1 _)
 refine .ite (fun _ => .ret trivial) (fun _ => (has_tot _).bind fun _ _ => .ite (fun _ => .ite (fun _ => .ret trivial) (fun _ => hk _ _)) (fun _ => hk _ _))
end
def Gd (f : TFunc) (x : TIns) : Prop := ref08_ins f x = some true ∧ (x.op = 11 → cnt f.code x.imm = 1)
def Good (f : TFunc) : Prop := (∃ l, f.code.getLast? = some l ∧ (l.op = 12 ∨ l.op = 15 ∨ l.op = 16)) ∧ 0 ≤ f.params ∧ f.params ≤ f.regs ∧ ∀ x ∈ f.code, Gd f x
theorem good_is (f : TFunc) (h : f.code.length ≤ 1000) (ha : ∀ x ∈ f.code, x.args.length ≤ 9223372036854775807) : Ok (ref08_Good f) (fun b => b = true ↔ Good f) := by
 unfold ref08_Good
 refine .ite (fun hb => .ret ?_) (fun hb => ?_)
 ·constructor
  ·intro h; cases h
  ·rintro ⟨⟨l, h1, _⟩, h2, h3, _⟩
   have : f.code ≠ [] := by rintro h; rw [h] at h1; cases h1
   have := List.length_pos_iff.2 this
   simp only [Bool.or_eq_true, decide_eq_true_eq] at hb; omega
 ·simp only [Bool.or_eq_false_iff, decide_eq_false_iff_not] at hb
  have hl : 0 < f.code.length := by omega
  have hpr : 0 ≤ f.params ∧ f.params ≤ f.regs := by omega
  have hw : w64 ((f.code.length : Int) - 1) = ((f.code.length - 1 : Nat) : Int) := by rw [w64_id (by omega) (by omega)]; omega
  rw [hw, ix_some (by omega)]
  simp only [Option.bind_some]
  have hlast : f.code.getLast? = some f.code[f.code.length - 1] := by rw [List.getLast?_eq_getElem?, List.getElem?_eq_getElem (by omega)]
  refine .ite (fun hc => .ret ?_) (fun hc => ?_)
  ·constructor
   ·intro h; cases h
   ·rintro ⟨⟨l, h1, h2⟩, _⟩
    rw [hlast] at h1; cases h1
    simp at hc; omega
  ·have hlo : f.code[f.code.length - 1].op = 12 ∨ f.code[f.code.length - 1].op = 15 ∨ f.code[f.code.length - 1].op = 16 := by simp at hc; omega
   have key : (∀ x ∈ f.code, Gd f x) → Good f := fun hx => ⟨⟨_, hlast, hlo⟩, hpr.1, hpr.2, hx⟩
   unfold ref08_Good_l1
   refine Ok.loop (fun k s => s = (k : Int) ∧ ∀ x ∈ f.code.take k, Gd f x) f.code.length (fun k s hk hs => ?_) (fun s hs => ?_) (by simp)
   ·obtain ⟨rfl, hs⟩ := hs
    show Ok (ref08_Good_l1b f k) _
    unfold ref08_Good_l1b
    rw [if_pos (by simp; omega), ix_some hk]
    simp only [Option.bind_some]
    refine ((ins_tot h f.code[k] (ha _ (List.getElem_mem hk))).and (o := ref08_ins f f.code[k]) (Q := fun b => ref08_ins f f.code[k] = some b) ?_).bind fun b hb => ?_
    ·obtain ⟨r, hr, _⟩ := ins_tot h f.code[k] (ha _ (List.getElem_mem hk)); exact ⟨r, hr, hr⟩
    ·refine Ok.bind (P := fun y => y = false ↔ Gd f f.code[k]) ?_ fun y hy => .ite (fun hyt => .map (.ret ?_)) (fun hyf => .ret ⟨w64_succ (by omega), ?_⟩)
     ·refine .ite (fun hb1 => .ret ?_) (fun hb1 => Ok.bind (P := fun y => y = false ↔ Gd f f.code[k]) (.ite (fun hop => ?_) (fun hop => .ret ?_)) (fun y hy => .ret hy))
      ·constructor
       ·intro h; cases h
       ·rintro ⟨h1, _⟩
        rw [hb.2] at h1; cases h1; cases hb1
      ·rw [count_is f _ h]
       have hop' : f.code[k].op = 11 := by simpa using hop
       have hbt : b = true := by simpa using hb1
       refine .ret ?_
       constructor
       ·intro h1
        refine ⟨by rw [hb.2, hbt], fun _ => ?_⟩
        simp at h1; omega
       ·rintro ⟨_, h1⟩
        have := h1 hop'
        simp [this]
      ·have hop' : f.code[k].op ≠ 11 := by simpa using hop
       have hbt : b = true := by simpa using hb1
       exact ⟨fun _ => ⟨by rw [hb.2, hbt], fun h => (hop' h).elim⟩, fun _ => rfl⟩
     ·refine ⟨fun h => (by cases h), fun hg => ?_⟩
      have := hy.2 (hg.2.2.2 _ (List.getElem_mem hk))
      rw [hyt] at this; cases this
     ·intro x hx
      rw [List.take_add_one, List.getElem?_eq_getElem hk, Option.toList_some, List.mem_append, List.mem_singleton] at hx
      rcases hx with hx | rfl
      ·exact hs x hx
      ·exact hy.1 hyf
   ·obtain ⟨rfl, hs⟩ := hs
    show Ok (ref08_Good_l1b f f.code.length) _
    unfold ref08_Good_l1b
    rw [if_neg (by simp)]
    rw [List.take_length] at hs
    exact .map (.ret ⟨fun _ => key hs, fun _ => rfl⟩)
theorem lab_one {f : TFunc} (hg : Good f) {p q : Nat} {x y : TIns} {l : Int} (hp : f.code[p]? = some x) (hq : f.code[q]? = some y) (hx : lab l x = true) (hy : lab l y = true) : p = q := by
 have key : ∀ {p q : Nat} {x y : TIns}, f.code[p]? = some x → f.code[q]? = some y → lab l x = true → lab l y = true → ¬ p < q := by
  intro p q x y hp hq hx hy hpq
  have hxl : x.op = 11 ∧ x.imm = l := by simpa [lab] using hx
  have hone := (hg.2.2.2 x (List.mem_of_getElem? hp)).2 hxl.1
  rw [hxl.2] at hone
  have h1 : f.code = f.code.take (p + 1) ++ f.code.drop (p + 1) := (List.take_append_drop _ _).symm
  unfold cnt at hone
  rw [h1, List.countP_append] at hone
  have h2 : 0 < (f.code.take (p + 1)).countP (fun x => (decide (x.op = 11)) && (decide (x.imm = l))) := by
   rw [List.countP_pos_iff]
   exact ⟨x, List.mem_of_getElem? (i := p) (by rw [List.getElem?_take, if_pos (by omega)]; exact hp), hx⟩
  have h3 : 0 < (f.code.drop (p + 1)).countP (fun x => (decide (x.op = 11)) && (decide (x.imm = l))) := by
   rw [List.countP_pos_iff]
   exact ⟨y, List.mem_of_getElem? (i := q - (p + 1)) (by rw [List.getElem?_drop, show p + 1 + (q - (p + 1)) = q from by omega]; exact hq), hy⟩
  omega
 have h1 := key hp hq hx hy
 have h2 := key hq hp hy hx
 omega
def cu (n : Nat) (V : Nat → Bool) : Nat := (List.range n).countP (fun j => !(V j))
theorem cu_set {n : Nat} {V : Nat → Bool} {q : Nat} (hq : q < n) (hv : V q = false) : cu n (fun j => if j = q then true else V j) < cu n V := by
 unfold cu
 apply countP_strict
 ·intro j _ hj
  by_cases hjq : j = q
  ·subst hjq; simp at hj
  ·simpa [hjq] using hj
 ·exact ⟨q, by simpa using hq, by simp [hv], by simp⟩
theorem cu_le {n : Nat} {V : Nat → Bool} : cu n V ≤ n := by
 unfold cu
 have := List.countP_le_length (p := fun j => !(V j)) (l := List.range n)
 simpa using this
inductive Rc (f : TFunc) : Nat → Prop
 | zero : Rc f 0
 | go (k j : Nat) (hk : k < f.code.length) (hj : (j : Int) ∈ nx f k) (h : Rc f k) : Rc f j
structure Wk (f : TFunc) (start : Nat) (V : Nat → Bool) (Q : List Int) : Prop where
 inr : ∀ q ∈ Q, 0 ≤ q ∧ q < f.code.length
 len : Q.length + 2 * cu f.code.length V ≤ 2 * f.code.length + 1
 beg : V start = true ∨ (start : Int) ∈ Q
section
variable {f : TFunc} {st : Nat} {V : Nat → Bool} {q : Nat} {Q : List Int}
theorem Wk.skip (w : Wk f st V ((q : Int) :: Q)) (hv : V q = true) : Wk f st V Q := by
 refine ⟨fun j hj => w.inr j (List.mem_cons_of_mem _ hj), by have := w.len; simp at this; omega, ?_⟩
 rcases w.beg with h | h
 ·exact .inl h
 ·rcases List.mem_cons.1 h with h | h
  ·exact .inl (by rw [show st = q from by omega]; exact hv)
  ·exact .inr h
theorem Wk.visit (h : f.code.length ≤ 1000) (w : Wk f st V ((q : Int) :: Q)) (hv : V q = false) : Wk f st (fun j => if j = q then true else V j) (Q ++ nx f q) := by
 have hq := w.inr q (by simp)
 have hn := nx_at f h q (by omega)
 have hc := cu_set (n := f.code.length) (q := q) (by omega) hv
 have hl := w.len
 refine ⟨fun j hj => ?_, by simp only [List.length_cons, List.length_append] at hl ⊢; omega, ?_⟩
 ·rcases List.mem_append.1 hj with hj | hj
  ·exact w.inr j (List.mem_cons_of_mem _ hj)
  ·exact hn.2 j hj
 ·by_cases hs : st = q
  ·exact .inl (by simp [hs])
  ·rcases w.beg with h | h
   ·exact .inl (by simp [hs, h])
   ·rcases List.mem_cons.1 h with h | h
    ·omega
    ·exact .inr (List.mem_append_left _ h)
end
def mu (f : TFunc) (s : List Bool × List Int) : Nat := 3 * cu f.code.length (fun j => s.1.getD j false) + s.2.length
theorem mu_eq (f : TFunc) (V : Nat → Bool) (Q : List Int) : mu f (tb f.code.length V, Q) = 3 * cu f.code.length V + Q.length := by
 unfold mu cu
 congr 2
 rw [List.countP_eq_length_filter, List.countP_eq_length_filter]
 congr 1
 apply List.filter_congr
 intro j hj
 show (!((tb f.code.length V).getD j false)) = _
 rw [tb_getD (by simpa using hj)]
structure Seen (f : TFunc) (V : Nat → Bool) (Q : List Int) : Prop where
 wk : Wk f 0 V Q
 rq : ∀ q : Nat, (q : Int) ∈ Q → Rc f q
 rv : ∀ v, v < f.code.length → V v = true → Rc f v ∧ ∀ j : Nat, (j : Int) ∈ nx f v → V j = true ∨ (j : Int) ∈ Q
section
variable {f : TFunc} {V : Nat → Bool} {q : Nat} {Q : List Int}
theorem Seen.start (h0 : 0 < f.code.length) : Seen f (fun _ => false) [0] := by
 refine ⟨⟨by simp; omega, by have := cu_le (n := f.code.length) (V := fun _ => false); simp; omega, by simp⟩, fun q hq => ?_, fun v _ hv => by cases hv⟩
 rw [show q = 0 from by simpa using hq]; exact .zero
theorem Seen.skip (w : Seen f V ((q : Int) :: Q)) (hv : V q = true) : Seen f V Q := by
 refine ⟨w.wk.skip hv, fun p hp => w.rq p (List.mem_cons_of_mem _ hp), fun v hvn hvv => ⟨(w.rv v hvn hvv).1, fun j hj => ?_⟩⟩
 rcases (w.rv v hvn hvv).2 j hj with h | h
 ·exact .inl h
 ·rcases List.mem_cons.1 h with h | h
  ·exact .inl (by rw [show j = q from by omega]; exact hv)
  ·exact .inr h
theorem Seen.visit (h : f.code.length ≤ 1000) (w : Seen f V ((q : Int) :: Q)) (hv : V q = false) : Seen f (fun j => if j = q then true else V j) (Q ++ nx f q) := by
 have hq := w.wk.inr q (by simp)
 refine ⟨w.wk.visit h hv, fun p hp => ?_, fun v hvn hvv => ?_⟩
 ·rcases List.mem_append.1 hp with hp | hp
  ·exact w.rq p (List.mem_cons_of_mem _ hp)
  ·exact .go q p (by omega) hp (w.rq q (by simp))
 ·by_cases hvq : v = q
  ·subst hvq
   exact ⟨w.rq v (by simp), fun j hj => .inr (List.mem_append_right _ hj)⟩
  ·have hvv' : V v = true := by simpa [hvq] using hvv
   refine ⟨(w.rv v hvn hvv').1, fun j hj => ?_⟩
   rcases (w.rv v hvn hvv').2 j hj with h | h
   ·exact .inl (by by_cases hjq : j = q <;> simp [hjq, h])
   ·rcases List.mem_cons.1 h with h | h
    ·exact .inl (by simp [show j = q from by omega])
    ·exact .inr (List.mem_append_left _ h)
theorem Seen.all (h : f.code.length ≤ 1000) (w : Seen f V []) (h0 : 0 < f.code.length) {k : Nat} (hr : Rc f k) : V k = true := by
 induction hr with
 | zero => rcases w.wk.beg with h | h; exact h; cases h
 | go k j hk hj _ ih =>
  rcases (w.rv k hk ih).2 j hj with h | h
  ·exact h
  ·cases h
end
theorem Reached_is {f : TFunc} (h : f.code.length ≤ 1000) (h0 : 0 < f.code.length) : Ok (flow_Reached f) (fun L => ∃ V, L = tb f.code.length V ∧ ∀ k, k < f.code.length → (V k = true ↔ Rc f k)) := by
 unfold flow_Reached
 rw [mk_tb (by omega)]
 simp only [Option.bind_some]
 unfold flow_Reached_l1
 refine Ok.loopM (B := fun s => flow_Reached_l1b f s.1 s.2) (fun s => ∃ V, s.1 = tb f.code.length V ∧ Seen f V s.2) (mu f) (fun s hs => ?_) ⟨_, rfl, Seen.start h0⟩
 obtain ⟨xs, Q⟩ := s
 obtain ⟨V, h1, w⟩ := hs
 simp only at h1 w
 subst h1
 show Ok (flow_Reached_l1b f _ Q) _
 unfold flow_Reached_l1b
 cases Q with
 | nil =>
  rw [if_neg (by simp)]
  exact .map (.ret ⟨V, rfl, fun k hk => ⟨fun hv => (w.rv k hk hv).1, fun hr => w.all h h0 hr⟩⟩)
 | cons q0 Q =>
  have hq := w.wk.inr q0 (by simp)
  obtain ⟨q, rfl⟩ := Int.eq_ofNat_of_zero_le hq.1
  have hqn : q < f.code.length := by omega
  rw [if_pos (by simp <;> omega), show ix ((q : Int) :: Q) 0 = some (q : Int) from rfl]
  simp only [Option.bind_some]
  rw [if_pos (by simp; omega), ix_tb hqn]
  simp only [Option.bind_some]
  unfold flow_Reached_k1
  refine .ite (fun hv => ?_) (fun hv => ?_)
  ·have hv' : V q = false := by simpa using hv
   rw [Next_at f h q hqn]
   simp only [Option.bind_some]
   have hn := nx_at f h q hqn
   have hl := w.wk.len
   rw [ap_some (by simp at hl ⊢; omega)]
   simp only [Option.bind_some]
   rw [List.cons_append, cutL_tail]
   simp only [Option.bind_some]
   rw [Int.toNat_natCast, tb_set]
   have hcu := cu_set (n := f.code.length) hqn hv'
   refine .ret ⟨⟨_, rfl, w.visit h hv'⟩, ?_⟩
   rw [mu_eq, mu_eq]; simp only [List.length_cons, List.length_append]; omega
  ·have hv' : V q = true := by simpa using hv
   rw [cutL_tail]
   simp only [Option.bind_some]
   refine .ret ⟨⟨_, rfl, w.skip hv'⟩, ?_⟩
   rw [mu_eq, mu_eq]; simp
end
section
def lk (k : Ttidy_facts) (r : Int) : Int := if ((mG k.same r).isSome && decide (0 ≤ r)) = true then (mG k.same r).getD 0 else r
theorem look_is (k : Ttidy_facts) (r : Int) : tidy_facts_look k r = some (lk k r) := by
 unfold tidy_facts_look lk
 split <;> rfl
def ren (k : Ttidy_facts) (x : TIns) : TIns := ⟨x.op, x.d, lk k x.a, lk k x.b, x.imm, x.args.map (lk k), x.what, x.volatile, x.final⟩
theorem renamed_is (k : Ttidy_facts) (x : TIns) (h : x.args.length ≤ 1000) : tidy_facts_renamed k x = some (ren k x) := by
 unfold tidy_facts_renamed slices_Clone_2
 rw [look_is, look_is]
 simp only [Option.bind_some]
 rw [ap_some (by simp; omega)]
 simp only [Option.bind_some, List.nil_append]
 unfold tidy_facts_renamed_l1
 refine (Ok.loop (B := fun s => tidy_facts_renamed_l1b k x (lk k x.a) (lk k x.b) x.args s.1 s.2) (P := fun r => r = ren k x) (fun i s => s = ((x.args.take i).map (lk k) ++ x.args.drop i, (i : Int))) x.args.length (fun i s hi hs => ?_) (fun s hs => ?_) (by simp)).some_of
 ·subst hs
  show Ok (tidy_facts_renamed_l1b k x _ _ _ _ _) _
  unfold tidy_facts_renamed_l1b
  have hl : ((x.args.take i).map (lk k)).length = i := by simp; omega
  have hg : ((x.args.take i).map (lk k) ++ x.args.drop i)[i]? = some x.args[i] := by
   rw [List.getElem?_append_right (by omega), hl, Nat.sub_self, List.getElem?_drop]; simp [hi]
  rw [if_pos (by simp; omega), ix_nat, hg]
  simp only [Option.bind_some]
  rw [look_is]
  simp only [Option.bind_some]
  refine .ret ?_
  show _ = _
  rw [w64_succ (by omega), Int.toNat_natCast]
  congr 1
  rw [List.set_append_right _ _ (by omega), hl, Nat.sub_self, List.take_add_one, List.getElem?_eq_getElem hi, List.map_append, List.append_assoc]
  congr 1
  rw [List.drop_eq_getElem_cons hi]
  rfl
 ·subst hs
  show Ok (tidy_facts_renamed_l1b k x _ _ _ _ _) _
  unfold tidy_facts_renamed_l1b
  rw [if_neg (by simp)]
  refine .map (.ret ?_)
  simp [ren]
theorem reckon_tot (op a b : Int) : Ok (tidy_reckon op a b) (fun r => (r.2 = true → (op = 3 ∧ r.1 = w64 (a + b)) ∨ (op = 4 ∧ r.1 = w64 (a - b)) ∨ (op = 5 ∧ r.1 = w64 (a * b)) ∨ (op = 7 ∧ r.1 = if a < b then 1 else 0) ∨ (op = 8 ∧ r.1 = if a = b then 1 else 0))) := by
 unfold tidy_reckon
 refine .ite (fun h => .ret fun _ => .inl ⟨by simpa using h, rfl⟩) fun _ => .ite (fun h => .ret fun _ => .inr (.inl ⟨by simpa using h, rfl⟩)) fun _ => .ite (fun h => .ret fun _ => .inr (.inr (.inl ⟨by simpa using h, rfl⟩))) fun _ => .ite (fun h => ?_) fun _ => .ite (fun h => ?_) fun _ => .ret (fun h => by cases h)
 ·unfold tidy_reckon_k1
  refine .ite (fun h2 => .ret fun _ => .inr (.inr (.inr (.inl ⟨by simpa using h, ?_⟩)))) (fun h2 => .ret fun _ => .inr (.inr (.inr (.inl ⟨by simpa using h, ?_⟩))))
  ·rw [if_pos (by simpa using h2)]
  ·rw [if_neg (by simpa using h2)]
 ·unfold tidy_reckon_k1
  refine .ite (fun h2 => .ret fun _ => .inr (.inr (.inr (.inr ⟨by simpa using h, ?_⟩)))) (fun h2 => .ret fun _ => .inr (.inr (.inr (.inr ⟨by simpa using h, ?_⟩))))
  ·rw [if_pos (by simpa using h2)]
  ·rw [if_neg (by simpa using h2)]
def con (d n : Int) : TIns := ⟨1, d, (-1), (-1), n, [], 0, false, false⟩
def jmpI (l : Int) : TIns := ⟨12, (-1), (-1), (-1), l, [], 0, false, false⟩
def FoldS (k : Ttidy_facts) (x y : TIns) : Prop :=
 y = x ∨ (x.op = 2 ∧ ∃ n, mG k.num x.a = some n ∧ y = con x.d n) ∨ (x.op = 13 ∧ mG k.num x.a = some 0 ∧ y = jmpI x.imm) ∨
 ∃ a b n, mG k.num x.a = some a ∧ mG k.num x.b = some b ∧ y = con x.d n ∧ ((x.op = 3 ∧ n = w64 (a + b)) ∨ (x.op = 4 ∧ n = w64 (a - b)) ∨ (x.op = 5 ∧ n = w64 (a * b)) ∨ (x.op = 7 ∧ n = if a < b then 1 else 0) ∨ (x.op = 8 ∧ n = if a = b then 1 else 0))
theorem isSome_getD {o : Option Int} (h : o.isSome = true) : o = some (o.getD 0) := by
 cases o with
 | none => cases h
 | some x => rfl
theorem fold_tot (k : Ttidy_facts) (x : TIns) : Ok (tidy_facts_fold k x) (FoldS k x) := by
 unfold tidy_facts_fold
 refine Ok.bind (P := fun b => b = true → x.op = 2 ∧ (mG k.num x.a).isSome = true) (.ite (fun h => ?_) fun _ => .ret (fun h => by cases h)) fun b hb => ?_
 ·simp only [Bool.and_eq_true, decide_eq_true_eq] at h
  unfold tidy_small
  simp only [Option.bind_some]
  exact .ret fun _ => h
 refine .ite (fun h => .ret ?_) fun _ => .ite (fun h => .ret ?_) fun _ => .ite (fun h => .ret (.inl rfl)) fun h3 => ?_
 ·exact .inr (.inl ⟨(hb h).1, _, isSome_getD (hb h).2, rfl⟩)
 ·simp only [Bool.and_eq_true, decide_eq_true_eq] at h
  refine .inr (.inr (.inl ⟨h.1.1, ?_, rfl⟩))
  have := isSome_getD h.1.2
  rw [h.2] at this
  exact this
 ·simp only [Bool.or_eq_false_iff, Bool.not_eq_false', decide_eq_false_iff_not] at h3
  refine (reckon_tot _ _ _).bind fun r hr => ?_
  refine Ok.bind (P := fun b => b = true → r.2 = true) (.ite (fun h => ?_) fun _ => .ret (fun h => by cases h)) fun b hb => ?_
  ·unfold tidy_small
   simp only [Option.bind_some]
   exact .ret fun _ => h
  exact .ite (fun h => .ret (.inr (.inr (.inr ⟨_, _, _, isSome_getD h3.1.2, isSome_getD h3.2, rfl, hr (hb h)⟩)))) fun _ => .ret (.inl rfl)
noncomputable def fld (k : Ttidy_facts) (x : TIns) : TIns := (tidy_facts_fold k x).getD x
theorem fold_is (k : Ttidy_facts) (x : TIns) : tidy_facts_fold k x = some (fld k x) ∧ FoldS k x (fld k x) := by
 obtain ⟨y, h1, h2⟩ := fold_tot k x
 have : fld k x = y := by unfold fld; rw [h1]; rfl
 exact ⟨by rw [this, h1], by rw [this]; exact h2⟩
def fgt (k : Ttidy_facts) (r : Int) : Ttidy_facts := ⟨mD k.num r, (mD k.same r).filter fun q => decide (q.2 ≠ r)⟩
def lrn (k : Ttidy_facts) (x : TIns) : Ttidy_facts :=
 if x.d < 0 then k else if x.op = 1 then ⟨mS (fgt k x.d).num x.d x.imm, (fgt k x.d).same⟩ else if x.op = 2 ∧ x.a ≠ x.d then ⟨(fgt k x.d).num, mS (fgt k x.d).same x.d x.a⟩ else fgt k x.d
def Nds (k : Ttidy_facts) : Prop := (k.same.map Prod.fst).Nodup
theorem learn_is (k : Ttidy_facts) (x : TIns) (h : Nds k) : tidy_facts_learn k x = some (lrn k x) := by
 unfold tidy_facts_learn lrn tidy_facts_forget forgetO
 by_cases h1 : x.d < 0
 ·simp [h1]
 ·rw [if_neg (by simpa using h1), if_neg h1, if_pos (show (k.same.map Prod.fst).Nodup from h)]
  simp only [Option.map_some, Option.bind_some]
  by_cases h2 : x.op = 1
  ·simp [h2, fgt]
  ·rw [if_neg (by simpa using h2), if_neg h2]
   by_cases h3 : x.op = 2 ∧ x.a ≠ x.d
   ·rw [if_pos (by simpa using h3), if_pos h3]; rfl
   ·rw [if_neg (by simpa using h3), if_neg h3]; rfl
theorem keys_mD {β : Type} (m : List (Int × β)) (r : Int) (h : (m.map Prod.fst).Nodup) : ((mD m r).map Prod.fst).Nodup := by
 unfold mD
 split
 ·exact ((List.eraseIdx_sublist _ _).map _).nodup h
 ·exact h
theorem keys_mS {β : Type} (m : List (Int × β)) (r : Int) (x : β) (h : (m.map Prod.fst).Nodup) : ((mS m r x).map Prod.fst).Nodup := by
 unfold mS
 split
 ·rename_i j hj
  unfold mI at hj
  rw [List.findIdx?_eq_some_iff_getElem] at hj
  obtain ⟨hj1, hj2, _⟩ := hj
  have : (m.set j (r, x)).map Prod.fst = m.map Prod.fst := by
   rw [List.map_set]
   apply List.ext_getElem?
   intro i
   rw [List.getElem?_set]
   split
   ·rename_i e
    subst e
    have hq : (m[j]).1 = r := by simpa using hj2
    rw [if_pos (by simpa using hj1), List.getElem?_map, List.getElem?_eq_getElem hj1]
    simp [hq]
   ·rfl
  rw [this]
  exact h
 ·rename_i hj
  unfold mI at hj
  rw [List.findIdx?_eq_none_iff] at hj
  rw [List.map_append, List.nodup_append]
  refine ⟨h, by simp, fun a ha b hb => ?_⟩
  obtain ⟨p, hp, rfl⟩ := List.mem_map.1 ha
  simp at hb
  subst hb
  simpa using hj p hp
theorem Nds.lrn {k : Ttidy_facts} (h : Nds k) (x : TIns) : Nds (lrn k x) := by
 have hf : Nds (fgt k x.d) := (List.filter_sublist.map _).nodup (keys_mD _ _ h)
 unfold G11.lrn
 split
 ·exact h
 ·split
  ·exact hf
  ·split
   ·exact keys_mS _ _ _ hf
   ·exact hf
def frs : Ttidy_facts := ⟨[], []⟩
noncomputable def chg (o : Ttidy_Options) (k : Ttidy_facts) (x : TIns) : TIns :=
 let y := if o.copy = true then ren k x else x
 if o.fold = true then fld k y else y
def at0 (k : Ttidy_facts) (x : TIns) : Ttidy_facts := if x.op = 11 then frs else k
noncomputable def rowL (o : Ttidy_Options) : Ttidy_facts → List TIns → List TIns
 | _, [] => []
 | k, x :: xs => chg o (at0 k x) x :: rowL o (lrn (at0 k x) (chg o (at0 k x) x)) xs
noncomputable def knows (o : Ttidy_Options) : Ttidy_facts → List TIns → Ttidy_facts
 | k, [] => k
 | k, x :: xs => knows o (lrn (at0 k x) (chg o (at0 k x) x)) xs
theorem rowL_len (o : Ttidy_Options) : ∀ (k : Ttidy_facts) (xs : List TIns), (rowL o k xs).length = xs.length
 | _, [] => rfl
 | k, x :: xs => by simp [rowL, rowL_len o _ xs]
theorem rowL_snoc (o : Ttidy_Options) : ∀ (k : Ttidy_facts) (xs : List TIns) (x : TIns), rowL o k (xs ++ [x]) = rowL o k xs ++ [chg o (at0 (knows o k xs) x) x] ∧ knows o k (xs ++ [x]) = lrn (at0 (knows o k xs) x) (chg o (at0 (knows o k xs) x) x)
 | k, [], x => ⟨rfl, rfl⟩
 | k, y :: xs, x => by
  have := rowL_snoc o (lrn (at0 k y) (chg o (at0 k y) y)) xs x
  exact ⟨by simp [rowL, knows, this.1], this.2⟩
theorem Nds.knows (o : Ttidy_Options) : ∀ {k : Ttidy_facts} (h : Nds k) (xs : List TIns), Nds (knows o k xs)
 | k, h, [] => h
 | k, h, x :: xs => by
  have h1 : Nds (at0 k x) := by unfold at0; split; exact List.nodup_nil; exact h
  exact Nds.knows o (h1.lrn _) xs
theorem k1_is (o : Ttidy_Options) (L : List TIns) (i : Nat) (x : TIns) (n s : List (Int × Int)) (hn : Nds ⟨n, s⟩) (hx : x.args.length ≤ 1000) (hi : i < L.length) (hl : L.length ≤ 1000) :
  tidy_row_k1 o L i x n s = some (.inl ((lrn ⟨n, s⟩ (chg o ⟨n, s⟩ x)).num, (lrn ⟨n, s⟩ (chg o ⟨n, s⟩ x)).same, L.set i (chg o ⟨n, s⟩ x), ((i + 1 : Nat) : Int))) := by
 have k3 : ∀ y : TIns, tidy_row_k3 L i n s y.op y.d y.a y.b y.imm y.args y.what y.volatile y.final = some (.inl ((lrn ⟨n, s⟩ y).num, (lrn ⟨n, s⟩ y).same, L.set i y, ((i + 1 : Nat) : Int))) := fun y => by
  unfold tidy_row_k3
  rw [learn_is _ _ hn]
  simp only [Option.bind_some]
  rw [ix_some hi]
  simp only [Option.bind_some]
  rw [w64_succ (by omega), Int.toNat_natCast]
 have k2 : ∀ y : TIns, tidy_row_k2 o L i n s y.op y.d y.a y.b y.imm y.args y.what y.volatile y.final = some (.inl ((lrn ⟨n, s⟩ (if o.fold = true then fld ⟨n, s⟩ y else y)).num, (lrn ⟨n, s⟩ (if o.fold = true then fld ⟨n, s⟩ y else y)).same, L.set i (if o.fold = true then fld ⟨n, s⟩ y else y), ((i + 1 : Nat) : Int))) := fun y => by
  unfold tidy_row_k2
  by_cases h : o.fold = true
  ·simp only [h, if_true]
   rw [(fold_is _ _).1]
   simp only [Option.bind_some]
   exact k3 _
  ·simp only [h]
   exact k3 y
 unfold tidy_row_k1 chg
 by_cases h : o.copy = true
 ·simp only [h, if_true]
  rw [renamed_is _ _ hx]
  simp only [Option.bind_some]
  exact k2 _
 ·simp only [h]
  exact k2 x
theorem row_is (f : TFunc) (o : Ttidy_Options) (h : f.code.length ≤ 1000) (ha : ∀ x ∈ f.code, x.args.length ≤ 1000) : tidy_row f o = some ⟨f.name, f.params, f.regs, rowL o frs f.code⟩ := by
 unfold tidy_row tidy_fresh slices_Clone
 simp only [Option.bind_some]
 rw [ap_some (by simp; omega)]
 simp only [Option.bind_some, List.nil_append]
 unfold tidy_row_l1
 refine (Ok.loop (B := fun s => tidy_row_l1b f o f.code s.1 s.2.1 s.2.2.1 s.2.2.2) (P := fun r => r = _) (fun i s => s = ((knows o frs (f.code.take i)).num, (knows o frs (f.code.take i)).same, rowL o frs (f.code.take i) ++ f.code.drop i, (i : Int))) f.code.length (fun i s hi hs => ?_) (fun s hs => ?_) (by simp [knows, rowL, frs])).some_of
 ·subst hs
  show Ok (tidy_row_l1b f o _ _ _ _ _) _
  unfold tidy_row_l1b
  have hl : (rowL o frs (f.code.take i)).length = i := by rw [rowL_len]; simp; omega
  have hg : (rowL o frs (f.code.take i) ++ f.code.drop i)[i]? = some f.code[i] := by
   rw [List.getElem?_append_right (by omega), hl, Nat.sub_self, List.getElem?_drop]; simp [hi]
  have hL : (rowL o frs (f.code.take i) ++ f.code.drop i).length = f.code.length := by rw [List.length_append, hl]; simp; omega
  have hst := rowL_snoc o frs (f.code.take i) f.code[i]
  have htk : f.code.take (i + 1) = f.code.take i ++ [f.code[i]] := by rw [List.take_add_one, List.getElem?_eq_getElem hi]; rfl
  rw [← htk] at hst
  have hset : ∀ y, (rowL o frs (f.code.take i) ++ f.code.drop i).set i y = rowL o frs (f.code.take i) ++ [y] ++ f.code.drop (i + 1) := fun y => by
   rw [List.set_append_right _ _ (by omega), hl, Nat.sub_self, List.drop_eq_getElem_cons hi, List.append_assoc]; rfl
  rw [if_pos (by simp; omega), ix_nat, hg]
  simp only [Option.bind_some]
  have hnk := Nds.knows o (k := frs) List.nodup_nil (f.code.take i)
  have hai := ha _ (List.getElem_mem hi)
  refine .ite (fun hb => ?_) (fun hb => ?_)
  ·have ho : f.code[i].op = 11 := by simpa using hb
   unfold tidy_fresh
   simp only [Option.bind_some]
   rw [k1_is o _ i _ [] [] List.nodup_nil hai (by omega) (by omega)]
   refine .ret ?_
   show _ = _
   have h0 : at0 (knows o frs (f.code.take i)) f.code[i] = frs := by unfold at0; rw [if_pos ho]
   rw [hst.1, hst.2, h0, hset]
   rfl
  ·have ho : f.code[i].op ≠ 11 := by simpa using hb
   rw [k1_is o _ i _ _ _ hnk hai (by omega) (by omega)]
   refine .ret ?_
   show _ = _
   have h0 : at0 (knows o frs (f.code.take i)) f.code[i] = knows o frs (f.code.take i) := by unfold at0; rw [if_neg ho]
   rw [hst.1, hst.2, h0, hset]
 ·subst hs
  show Ok (tidy_row_l1b f o _ _ _ _ _) _
  unfold tidy_row_l1b
  rw [if_neg (by simp)]
  refine .map (.ret ?_)
  simp
end
section
def sel (kp : Nat → Bool) : Nat → List TIns → List TIns
 | _, [] => []
 | i, x :: xs => if kp i = true then x :: sel kp (i + 1) xs else sel kp (i + 1) xs
theorem sel_snoc (kp : Nat → Bool) : ∀ (i : Nat) (xs : List TIns) (x : TIns), sel kp i (xs ++ [x]) = if kp (i + xs.length) = true then sel kp i xs ++ [x] else sel kp i xs
 | i, [], x => by simp [sel]
 | i, y :: xs, x => by
  have := sel_snoc kp (i + 1) xs x
  rw [show i + 1 + xs.length = i + (y :: xs).length by simp; omega] at this
  simp only [List.cons_append, sel, this]
  by_cases h1 : kp i = true <;> by_cases h2 : kp (i + (y :: xs).length) = true <;> simp only [h1, h2, if_true, if_false, List.cons_append, Bool.false_eq_true]
theorem sel_sub (kp : Nat → Bool) : ∀ (i : Nat) (xs : List TIns), (sel kp i xs).Sublist xs
 | _, [] => List.Sublist.refl _
 | i, x :: xs => by
  unfold sel
  split
  ·exact (sel_sub kp (i + 1) xs).cons_cons x
  ·exact (sel_sub kp (i + 1) xs).cons x
def retI : TIns := ⟨15, (-1), (-1), (-1), 0, [], 0, false, false⟩
def shut (xs : List TIns) : List TIns := match xs.getLast? with
 | none => xs ++ [retI]
 | some l => if l.op = 11 then xs ++ [retI] else xs
structure Fine (f : TFunc) : Prop where
 len : f.code.length ≤ 1000
 pos : 0 < f.code.length
 regs : f.regs ≤ 1000
 args : ∀ x ∈ f.code, x.args.length ≤ 1000
 pure : ∀ x ∈ f.code, 1 ≤ x.op → x.op ≤ 8 → 0 ≤ x.d ∧ x.d < f.regs
def Idle (f : TFunc) (k : Nat) (x : TIns) : Prop :=
 (x.op = 2 ∧ x.d = x.a) ∨ (x.op = 12 ∧ ∃ y, f.code[k + 1]? = some y ∧ y.op = 11 ∧ y.imm = x.imm) ∨ ((1 ≤ x.op ∧ x.op ≤ 8) ∧ ∀ j ∈ nx f k, ¬ Nd f x.d j.toNat)
section
variable {f : TFunc} {R : Nat} {G : Nat → Nat → Bool}
theorem has_is (hf : Fine f) (hreg : max f.regs 0 = (R : Int)) (hG : ∀ i r, i < f.code.length → r < R → (G i r = true ↔ Nd f r i)) {k : Nat} {x : TIns} (hk : f.code[k]? = some x) (h1 : 1 ≤ x.op) (h8 : x.op ≤ 8) :
  Ok (slices_ContainsFunc (nx f k) (tt f.code.length R G) x) (fun b => b = true ↔ ∃ j ∈ nx f k, Nd f x.d j.toNat) := by
 have hk' := (List.getElem?_eq_some_iff.1 hk).1
 have hn := nx_at f hf.len k hk'
 obtain ⟨d0, d1⟩ := hf.pure x (List.mem_of_getElem? hk) h1 h8
 have hd : x.d = ((x.d.toNat : Nat) : Int) := by omega
 have hdR : x.d.toNat < R := by omega
 have one : ∀ j ∈ nx f k, Ok (tidy_idle_c1 j (tt f.code.length R G) x) (fun b => b = true ↔ Nd f x.d j.toNat) := fun j hj => by
  obtain ⟨j0, j1⟩ := hn.2 j hj
  unfold tidy_idle_c1
  have e1 := ix_tb (g := fun i => tb R (G i)) (k := j.toNat) (n := f.code.length) (by omega)
  rw [show ((j.toNat : Nat) : Int) = j by omega] at e1
  rw [e1]
  simp only [Option.bind_some]
  have e2 := ix_tb (g := G j.toNat) (k := x.d.toNat) (n := R) hdR
  rw [← hd] at e2
  rw [e2]
  simp only [Option.bind_some]
  have := hG j.toNat x.d.toNat (by omega) hdR
  rw [← hd] at this
  exact .ret this
 unfold slices_ContainsFunc slices_IndexFunc_2 slices_IndexFunc_2_l1
 refine Ok.bind (P := fun p => 0 ≤ p ↔ ∃ j ∈ nx f k, Nd f x.d j.toNat) ?_ (fun p hp => .ret (by simpa using hp))
 refine loop_for (nx f k) (fun i s => s = (i : Int) ∧ ∀ y ∈ (nx f k).take i, ¬ Nd f x.d y.toNat) (fun i j s hi' hi hs => ?_) (fun s hs => ?_) ⟨rfl, by simp⟩
 ·obtain ⟨rfl, hs⟩ := hs
  unfold slices_IndexFunc_2_l1b
  rw [if_pos (by simp; omega), ix_nat, hi]
  simp only [Option.bind_some]
  refine (one j (List.mem_of_getElem? hi)).bind fun b hb => .ite (fun h => .map (.ret ?_)) (fun h => .ret ⟨w64_succ (by omega), fun y hy => ?_⟩)
  ·exact ⟨fun _ => ⟨j, List.mem_of_getElem? hi, hb.1 h⟩, fun _ => by omega⟩
  ·rw [mem_take_succ hi'] at hy
   rcases hy with hy | rfl
   ·exact hs y hy
   ·rw [List.getElem?_eq_getElem hi'] at hi
    rw [Option.some.inj hi]
    intro hc
    rw [hb.2 hc] at h
    cases h
 ·obtain ⟨rfl, hs⟩ := hs
  unfold slices_IndexFunc_2_l1b
  rw [if_neg (by simp)]
  rw [List.take_length] at hs
  exact .map (.ret ⟨fun h => by omega, fun ⟨j, h1, h2⟩ => (hs j h1 h2).elim⟩)
theorem idle_is (hf : Fine f) (hreg : max f.regs 0 = (R : Int)) (hG : ∀ i r, i < f.code.length → r < R → (G i r = true ↔ Nd f r i)) {k : Nat} {x : TIns} (hk : f.code[k]? = some x) :
  Ok (tidy_idle f k (tt f.code.length R G)) (fun b => b = true ↔ Idle f k x) := by
 have hk' := (List.getElem?_eq_some_iff.1 hk).1
 have hl := hf.len
 have rest : ∀ b : Bool, (b = true ↔ x.op = 12 ∧ ∃ y, f.code[k + 1]? = some y ∧ y.op = 11 ∧ y.imm = x.imm) → ¬ (x.op = 2 ∧ x.d = x.a) → Ok (tidy_idle_k1 f k (tt f.code.length R G) x b) (fun b => b = true ↔ Idle f k x) := fun b hb h2 => by
  unfold tidy_idle_k1
  refine .ite (fun h => .ret ⟨fun _ => .inr (.inl (hb.1 h)), fun _ => rfl⟩) fun h => ?_
  have hb' : ¬ (x.op = 12 ∧ ∃ y, f.code[k + 1]? = some y ∧ y.op = 11 ∧ y.imm = x.imm) := fun e => by rw [hb.2 e] at h; cases h
  unfold ir_Pure
  simp only [Option.bind_some]
  refine Ok.bind (P := fun b => b = true ↔ Idle f k x) (.ite (fun hp => ?_) fun hp => .ret ⟨fun h => (by cases h), ?_⟩) fun b hb => .ret hb
  ·simp only [Bool.and_eq_true, decide_eq_true_eq] at hp
   rw [Next_at f hf.len k hk']
   simp only [Option.bind_some]
   refine (has_is hf hreg hG hk hp.1 hp.2).bind fun c hc => .ret ?_
   constructor
   ·intro hc2
    refine .inr (.inr ⟨hp, fun j hj hn => ?_⟩)
    have := hc.2 ⟨j, hj, hn⟩
    rw [this] at hc2; cases hc2
   ·rintro (h | h | h)
    ·exact (h2 h).elim
    ·exact (hb' h).elim
    ·cases hcc : c with
     | false => rfl
     | true =>
      obtain ⟨j, hj, hn⟩ := hc.1 hcc
      exact (h.2 j hj hn).elim
  ·rintro (h | h | h)
   ·exact (h2 h).elim
   ·exact (hb' h).elim
   ·simp [h.1.1, h.1.2] at hp
 unfold tidy_idle
 rw [ix_nat, hk]
 simp only [Option.bind_some]
 refine .ite (fun h => .ret ⟨fun _ => .inl (by simpa using h), fun _ => rfl⟩) fun h => ?_
 have h2 : ¬ (x.op = 2 ∧ x.d = x.a) := by simpa using h
 refine .ite (fun h12 => ?_) fun h12 => rest _ ⟨fun h => (by cases h), fun h => by simp [h.1] at h12⟩ h2
 have h12 : x.op = 12 := by simpa using h12
 rw [w64_succ (by omega)]
 refine .ite (fun hlt => ?_) fun hlt => rest _ ⟨fun h => (by cases h), fun h => ?_⟩ h2
 ·have hlt : k + 1 < f.code.length := by simp at hlt; omega
  rw [ix_some hlt]
  simp only [Option.bind_some]
  have hg := List.getElem?_eq_getElem hlt
  refine .ite (fun h11 => rest _ ?_ h2) fun h11 => rest _ ⟨fun h => (by cases h), fun h => ?_⟩ h2
  ·have h11 : f.code[k + 1].op = 11 := by simpa using h11
   rw [hg]
   constructor
   ·intro h
    exact ⟨h12, _, rfl, h11, by simpa using h⟩
   ·rintro ⟨_, y, h3, h4, h5⟩
    cases h3
    simpa using h5
  ·obtain ⟨_, y, h3, h4, h5⟩ := h
   rw [hg] at h3
   cases h3
   simp [h4] at h11
 ·obtain ⟨_, y, h3, _⟩ := h
  have := (List.getElem?_eq_some_iff.1 h3).1
  simp at hlt; omega
def Kept (f : TFunc) (k : Nat) (x : TIns) : Prop := x.op = 11 ∨ (Rc f k ∧ ¬ Idle f k x)
def Swp (f g : TFunc) : Prop := ∃ kp : Nat → Bool, g = ⟨f.name, f.params, f.regs, shut (sel kp 0 f.code)⟩ ∧ ∀ k x, f.code[k]? = some x → (kp k = true ↔ Kept f k x)
theorem shut_is (n : ByteArray) (p r : Int) (f : TFunc) (xs : List TIns) (hx : xs.length ≤ 1000) (s : TFunc × Bool → Prop) (h : ∀ b, s (⟨f.name, f.params, f.regs, shut xs⟩, b)) :
  Ok ((if decide ((xs.length : Int) = 0) then some true else (ix xs (w64 ((xs.length : Int) - 1))).bind fun x238 => some (decide (x238.op = 11))).bind fun y200 =>
   if y200 then (ap xs ([(⟨15, (-1), (-1), (-1), 0, [], 0, false, false⟩ : TIns)])).bind fun xs220 => tidy_swept_k2 f xs xs220 else tidy_swept_k2 f xs xs) s := by
 have hap : ap xs ([(⟨15, (-1), (-1), (-1), 0, [], 0, false, false⟩ : TIns)]) = some (xs ++ [retI]) := ap_some (by simp; omega)
 rw [hap]
 unfold tidy_swept_k2
 simp only [Option.bind_some]
 unfold shut at h
 cases hl : xs.getLast? with
 | none =>
  have : xs = [] := List.getLast?_eq_none_iff.1 hl
  subst this
  rw [hl] at h
  exact ⟨_, rfl, h _⟩
 | some l =>
  have hne : xs ≠ [] := fun e => by rw [e] at hl; cases hl
  have hpos : 0 < xs.length := List.length_pos_iff.2 hne
  rw [hl] at h
  have hix : ix xs (w64 ((xs.length : Int) - 1)) = some l := by
   rw [w64_id (by omega) (by omega), show ((xs.length : Int) - 1) = ((xs.length - 1 : Nat) : Int) by omega, ix_nat, ← List.getLast?_eq_getElem?, hl]
  rw [if_neg (by simp; exact hne), hix]
  simp only [Option.bind_some]
  by_cases ho : l.op = 11
  ·simp only [ho, if_true] at h
   rw [if_pos (by simpa using ho)]
   exact ⟨_, rfl, h _⟩
  ·simp only [ho, if_false] at h
   rw [if_neg (by simpa using ho)]
   exact ⟨_, rfl, h _⟩
open Classical in
theorem swept_is (hf : Fine f) : Ok (tidy_swept f) (fun r => Swp f r.1) := by
 have hR : max f.regs 0 = (((max f.regs 0).toNat : Nat) : Int) := by omega
 have hR2 : (max f.regs 0).toNat ≤ 1000 := by have := hf.regs; omega
 unfold tidy_swept
 refine (Live_is f _ hf.len hR2 hR hf.args).bind ?_
 rintro _ ⟨G, rfl, hG⟩
 refine (Reached_is hf.len hf.pos).bind ?_
 rintro _ ⟨V, rfl, hV⟩
 unfold tidy_swept_l1
 have hl := hf.len
 refine Ok.loop (B := fun s => tidy_swept_l1b f (tt f.code.length (max f.regs 0).toNat G) (tb f.code.length V) s.1 s.2) (fun i s => s = (sel (fun k => decide (∃ x, f.code[k]? = some x ∧ Kept f k x)) 0 (f.code.take i), (i : Int))) f.code.length (fun i s hi hs => ?_) (fun s hs => ?_) (by simp [sel])
 ·subst hs
  show Ok (tidy_swept_l1b f _ _ _ _) _
  unfold tidy_swept_l1b
  have hk : f.code[i]? = some f.code[i] := List.getElem?_eq_getElem hi
  have htk : f.code.take (i + 1) = f.code.take i ++ [f.code[i]] := by rw [List.take_add_one, hk]; rfl
  have hsn := sel_snoc (fun k => decide (∃ x, f.code[k]? = some x ∧ Kept f k x)) 0 (f.code.take i) f.code[i]
  rw [← htk, show 0 + (f.code.take i).length = i by simp; omega] at hsn
  have hle : (sel (fun k => decide (∃ x, f.code[k]? = some x ∧ Kept f k x)) 0 (f.code.take i)).length ≤ 1000 := by
   have := (sel_sub (fun k => decide (∃ x, f.code[k]? = some x ∧ Kept f k x)) 0 (f.code.take i)).length_le
   simp at this; omega
  rw [if_pos (by simp; omega), ix_some hi]
  simp only [Option.bind_some]
  refine Ok.bind (P := fun b => b = true ↔ Kept f i f.code[i]) (.ite (fun h => .ret ⟨fun _ => .inl (by simpa using h), fun _ => rfl⟩) fun h => ?_) fun b hb => ?_
  ·rw [ix_tb hi]
   simp only [Option.bind_some]
   have h11 : ¬ f.code[i].op = 11 := by simpa using h
   refine Ok.bind (P := fun b => b = true ↔ Kept f i f.code[i]) (.ite (fun hv => ?_) fun hv => .ret ⟨fun h => (by cases h), ?_⟩) fun b hb => .ret hb
   ·refine (idle_is hf hR hG hk).bind fun b hb => .ret ?_
    constructor
    ·intro h
     refine .inr ⟨(hV i hi).1 hv, fun hc => ?_⟩
     rw [hb.2 hc] at h; cases h
    ·rintro (h | h)
     ·exact (h11 h).elim
     ·cases hcc : b with
      | false => rfl
      | true => exact (h.2 (hb.1 hcc)).elim
   ·rintro (h | h)
    ·exact (h11 h).elim
    ·rw [(hV i hi).2 h.1] at hv; cases hv
  ·refine .ite (fun h => ?_) fun h => ?_
   ·rw [ap_some (by simp; omega)]
    simp only [Option.bind_some]
    refine .ret ?_
    show _ = _
    rw [w64_succ (by omega), hsn, if_pos (decide_eq_true ⟨_, hk, hb.1 h⟩)]
   ·refine .ret ?_
    show _ = _
    rw [w64_succ (by omega), hsn, if_neg ?_]
    simp only [decide_eq_true_eq]
    rintro ⟨x, hx, hx2⟩
    rw [hk] at hx
    cases hx
    rw [hb.2 hx2] at h
    cases h
 ·subst hs
  show Ok (tidy_swept_l1b f _ _ _ _) _
  unfold tidy_swept_l1b
  rw [if_neg (by simp), List.take_length]
  have hle : (sel (fun k => decide (∃ x, f.code[k]? = some x ∧ Kept f k x)) 0 f.code).length ≤ 1000 := by
   have := (sel_sub (fun k => decide (∃ x, f.code[k]? = some x ∧ Kept f k x)) 0 f.code).length_le
   omega
  refine .map ((shut_is f.name 0 0 f _ hle _ fun b => ?_))
  refine ⟨_, rfl, fun k x hk => ?_⟩
  rw [decide_eq_true_iff]
  constructor
  ·rintro ⟨y, hy, h⟩
   rw [hk] at hy
   cases hy
   exact h
  ·exact fun h => ⟨x, hk, h⟩
end
end
section
def rg (p q : Bool) (n R : Int) : Bool := if p = true then ((decide (0 ≤ n)) && (decide (n < R))) || (q && (decide (n = (-1)))) else decide (n = (-1))
theorem register_is (p q : Bool) (n R : Int) : ref08_register p q n R = some (rg p q n R) := by
 unfold ref08_register rg
 cases p <;> simp
noncomputable def hs (op : Int) : Bool × Bool × Bool × Bool := (ref08_has op).getD (false, false, false, false)
theorem has_is' (op : Int) : ref08_has op = some (hs op) := by
 obtain ⟨r, h, _⟩ := has_tot op
 unfold hs
 rw [h]
 rfl
def NumOK (f : TFunc) (x : TIns) : Prop :=
 (x.op = 1 ∨ x.op = 9 ∨ x.op = 10 ∨ x.op = 14 ∨ x.op = 21) ∨ (x.op = 16 ∧ 0 < x.imm) ∨ (x.op = 22 ∧ (x.imm = 0 ∨ x.imm = 1)) ∨
 (¬ (x.op = 1 ∨ x.op = 9 ∨ x.op = 10 ∨ x.op = 14 ∨ x.op = 21 ∨ x.op = 16 ∨ x.op = 22) ∧ if (hs x.op).2.2.2 = true then 0 < cnt f.code x.imm else x.imm = 0)
noncomputable def aOf (x : TIns) : Bool := if x.op = 21 then decide (x.imm = 3) else (hs x.op).2.1
structure InsOK (f : TFunc) (x : TIns) : Prop where
 op : 1 ≤ x.op ∧ x.op ≤ 22
 fen : x.op = 21 → 1 ≤ x.imm ∧ x.imm ≤ 3
 d : rg (hs x.op).1 (decide (x.op = 14)) x.d f.regs = true
 a : rg (aOf x) ((decide (x.op = 9) || decide (x.op = 10)) || decide (x.op = 15)) x.a f.regs = true
 b : rg (hs x.op).2.2.1 false x.b f.regs = true
 args : ∀ y ∈ x.args, x.op = 14 ∧ 0 ≤ y ∧ y < f.regs
 bare : x.op ≠ 9 → x.op ≠ 10 → x.what = 0 ∧ x.volatile = false ∧ x.final = false
 num : NumOK f x
theorem num_is {f : TFunc} (h : f.code.length ≤ 1000) (x : TIns) :
  Ok (if decide (x.op = 1) then ref08_ins_k2 f x (hs x.op) true else if decide (x.op = 9) then ref08_ins_k2 f x (hs x.op) true else if decide (x.op = 10) then ref08_ins_k2 f x (hs x.op) true else if decide (x.op = 14) then ref08_ins_k2 f x (hs x.op) true else ref08_ins_k2 f x (hs x.op) (decide (x.op = 21))) (fun b => b = true ↔ NumOK f x) := by
 have ht : Ok (ref08_ins_k2 f x (hs x.op) true) (fun b => b = true) := .ret rfl
 have go : (x.op = 1 ∨ x.op = 9 ∨ x.op = 10 ∨ x.op = 14 ∨ x.op = 21) → ∀ b, b = true → (b = true ↔ NumOK f x) := fun h b hb => ⟨fun _ => .inl h, fun _ => hb⟩
 refine .ite (fun h1 => ht.mono (go (.inl (by simpa using h1)))) fun h1 => .ite (fun h9 => ht.mono (go (.inr (.inl (by simpa using h9))))) fun h9 => .ite (fun h10 => ht.mono (go (.inr (.inr (.inl (by simpa using h10)))))) fun h10 => .ite (fun h14 => ht.mono (go (.inr (.inr (.inr (.inl (by simpa using h14))))))) fun h14 => ?_
 simp only [decide_eq_false_iff_not] at h1 h9 h10 h14
 unfold ref08_ins_k2
 refine .ite (fun h21 => .ret (go (.inr (.inr (.inr (.inr (by simpa using h21))))) _ rfl)) fun h21 => ?_
 simp only [decide_eq_false_iff_not] at h21
 have n0 : ¬ (x.op = 1 ∨ x.op = 9 ∨ x.op = 10 ∨ x.op = 14 ∨ x.op = 21) := by omega
 refine .ite (fun h16 => .ret ?_) fun h16 => .ite (fun h22 => .ret ?_) fun h22 => .ite (fun hl => ?_) fun hl => .ret ?_
 ·have h16 : x.op = 16 := by simpa using h16
  unfold NumOK
  rw [decide_eq_true_iff]
  constructor
  ·exact fun h => .inr (.inl ⟨h16, h⟩)
  ·rintro (h | h | h | h)
   ·exact (n0 h).elim
   ·exact h.2
   ·omega
   ·exact (h.1 (by omega)).elim
 ·have h22 : x.op = 22 := by simpa using h22
  unfold NumOK
  simp only [Bool.or_eq_true, decide_eq_true_iff]
  constructor
  ·exact fun h => .inr (.inr (.inl ⟨h22, h⟩))
  ·rintro (h | h | h | h)
   ·exact (n0 h).elim
   ·omega
   ·exact h.2
   ·exact (h.1 (by omega)).elim
 ·simp only [decide_eq_false_iff_not] at h16 h22
  rw [count_is f _ h]
  refine .ret ?_
  unfold NumOK
  rw [if_pos hl, decide_eq_true_iff]
  constructor
  ·exact fun h => .inr (.inr (.inr ⟨by omega, by omega⟩))
  ·rintro (h | h | h | h)
   ·exact (n0 h).elim
   ·omega
   ·omega
   ·omega
 ·simp only [decide_eq_false_iff_not] at h16 h22
  unfold NumOK
  rw [if_neg (by rw [hl]; decide), decide_eq_true_iff]
  constructor
  ·exact fun h => .inr (.inr (.inr ⟨by omega, h⟩))
  ·rintro (h | h | h | h)
   ·exact (n0 h).elim
   ·omega
   ·omega
   ·exact h.2
theorem l1_is {f : TFunc} (h : f.code.length ≤ 1000) (x : TIns) (hx : x.args.length ≤ 9223372036854775807) :
  Ok (ref08_ins_l1 f x (hs x.op) 0) (fun b => b = true ↔ (∀ y ∈ x.args, x.op = 14 ∧ 0 ≤ y ∧ y < f.regs) ∧ (x.op ≠ 9 → x.op ≠ 10 → x.what = 0 ∧ x.volatile = false ∧ x.final = false) ∧ NumOK f x) := by
 unfold ref08_ins_l1
 refine loop_for x.args (fun k s => s = (k : Int) ∧ ∀ y ∈ x.args.take k, x.op = 14 ∧ 0 ≤ y ∧ y < f.regs) (fun k y s hk' hk hs => ?_) (fun s hs => ?_) ⟨rfl, by simp⟩
 ·obtain ⟨rfl, hs⟩ := hs
  unfold ref08_ins_l1b
  rw [if_pos (by simp; omega), ix_nat, hk]
  simp only [Option.bind_some]
  refine .ite (fun hb => .map (.ret ⟨fun h => (by cases h), fun h => ?_⟩)) (fun hb => .ret ⟨w64_succ (by omega), fun z hz => ?_⟩)
  ·have := h.1 y (List.mem_of_getElem? hk)
   simp only [Bool.or_eq_true, decide_eq_true_iff] at hb
   omega
  ·rw [mem_take_succ hk'] at hz
   rcases hz with hz | rfl
   ·exact hs z hz
   ·rw [List.getElem?_eq_getElem hk'] at hk
    rw [Option.some.inj hk]
    simp only [Bool.or_eq_false_iff, decide_eq_false_iff_not] at hb
    omega
 ·obtain ⟨rfl, hs⟩ := hs
  unfold ref08_ins_l1b
  rw [if_neg (by simp)]
  rw [List.take_length] at hs
  refine .map (.ite (fun hb => .ret ⟨fun h => (by cases h), fun h => ?_⟩) fun hb => (num_is h x).mono fun b hb2 => ?_)
  ·simp only [Bool.and_eq_true, Bool.or_eq_true, decide_eq_true_iff] at hb
   have := h.2.1 hb.1.1 hb.1.2
   simp [this] at hb
  ·have hbare : x.op ≠ 9 → x.op ≠ 10 → x.what = 0 ∧ x.volatile = false ∧ x.final = false := by
    intro h9 h10
    simp [h9, h10] at hb
    exact ⟨hb.1.1, hb.1.2, hb.2⟩
   exact ⟨fun h => ⟨hs, hbare, hb2.1 h⟩, fun h => hb2.2 h.2.2⟩
theorem ins_is {f : TFunc} (h : f.code.length ≤ 1000) (x : TIns) (hx : x.args.length ≤ 9223372036854775807) : Ok (ref08_ins f x) (fun b => b = true ↔ InsOK f x) := by
 have k1 : (x.op = 21 → 1 ≤ x.imm ∧ x.imm ≤ 3) → 1 ≤ x.op ∧ x.op ≤ 22 → Ok (ref08_ins_k1 f x (hs x.op) (aOf x)) (fun b => b = true ↔ InsOK f x) := fun hfen hop => by
  unfold ref08_ins_k1
  rw [register_is, register_is, register_is]
  simp only [Option.bind_some]
  by_cases hd : rg (hs x.op).1 (decide (x.op = 14)) x.d f.regs = true
  ·by_cases ha : rg (aOf x) ((decide (x.op = 9) || decide (x.op = 10)) || decide (x.op = 15)) x.a f.regs = true
   ·by_cases hb : rg (hs x.op).2.2.1 false x.b f.regs = true
    ·simp only [hd, ha, hb, Bool.not_true, Bool.false_eq_true, if_false, Option.bind_some]
     exact (l1_is h x hx).mono fun b hb2 => ⟨fun e => have := hb2.1 e; ⟨hop, hfen, hd, ha, hb, this.1, this.2.1, this.2.2⟩, fun e => hb2.2 ⟨e.args, e.bare, e.num⟩⟩
    ·simp only [Bool.not_eq_true] at hb
     simp only [hd, ha, hb, Bool.not_true, Bool.not_false, Bool.false_eq_true, if_false, if_true, Option.bind_some]
     exact .ret ⟨fun h => (by cases h), fun e => by rw [e.b] at hb; cases hb⟩
   ·simp only [Bool.not_eq_true] at ha
    simp only [hd, ha, Bool.not_true, Bool.not_false, Bool.false_eq_true, if_false, if_true, Option.bind_some]
    exact .ret ⟨fun h => (by cases h), fun e => by rw [e.a] at ha; cases ha⟩
  ·simp only [Bool.not_eq_true] at hd
   simp only [hd, Bool.not_true, Bool.not_false, Bool.false_eq_true, if_false, if_true, Option.bind_some]
   exact .ret ⟨fun h => (by cases h), fun e => by rw [e.d] at hd; cases hd⟩
 unfold ref08_ins
 refine .ite (fun hb => .ret ⟨fun h => (by cases h), fun h => ?_⟩) fun hb => ?_
 ·have := h.op
  simp only [Bool.or_eq_true, decide_eq_true_iff] at hb
  omega
 ·simp only [Bool.or_eq_false_iff, decide_eq_false_iff_not] at hb
  rw [has_is']
  simp only [Option.bind_some]
  refine .ite (fun h21 => .ite (fun hi => .ret ⟨fun h => (by cases h), fun h => ?_⟩) fun hi => ?_) fun h21 => ?_
  ·have := h.fen (by simpa using h21)
   simp only [Bool.or_eq_true, decide_eq_true_iff] at hi
   omega
  ·simp only [Bool.or_eq_false_iff, decide_eq_false_iff_not] at hi
   have := k1 (fun _ => by omega) (by omega)
   unfold aOf at this
   rw [if_pos (by simpa using h21)] at this
   exact this
  ·have h21' : x.op ≠ 21 := by simpa using h21
   have := k1 (fun e => (h21' e).elim) (by omega)
   unfold aOf at this
   rw [if_neg h21'] at this
   exact this
theorem gd_iff {f : TFunc} (h : f.code.length ≤ 1000) (x : TIns) (hx : x.args.length ≤ 9223372036854775807) : Gd f x ↔ InsOK f x ∧ (x.op = 11 → cnt f.code x.imm = 1) := by
 obtain ⟨b, h1, h2⟩ := ins_is h x hx
 unfold Gd
 rw [h1]
 exact ⟨fun e => ⟨h2.1 (Option.some.inj e.1), e.2⟩, fun e => ⟨by rw [h2.2 e.1], e.2⟩⟩
def Calls (m : TModule) (x : TIns) : Prop := x.op = 14 → 0 ≤ x.imm ∧ ∃ g, m.funcs[x.imm.toNat]? = some g ∧ (x.args.length : Int) = g.params
def Whole (m : TModule) : Prop := (∀ f ∈ m.funcs, Good f ∧ ∀ x ∈ f.code, Calls m x) ∧ ∀ t ∈ m.threads, 0 ≤ t ∧ ∃ g, m.funcs[t.toNat]? = some g ∧ g.params = 0
structure Bnd (m : TModule) : Prop where
 funcs : m.funcs.length ≤ 1000
 threads : m.threads.length ≤ 1000
 code : ∀ f ∈ m.funcs, f.code.length ≤ 1000
 args : ∀ f ∈ m.funcs, ∀ x ∈ f.code, x.args.length ≤ 9223372036854775807
theorem ix_in {α : Type} {xs : List α} {i : Int} (h0 : 0 ≤ i) (h1 : i < xs.length) : ∃ x, xs[i.toNat]? = some x ∧ ix xs i = some x := by
 have h2 : i.toNat < xs.length := by omega
 refine ⟨xs[i.toNat], List.getElem?_eq_getElem h2, ?_⟩
 unfold Go.Vm.ix
 rw [if_pos h0, List.getElem?_eq_getElem h2]
theorem calls_is {m : TModule} {f : TFunc} (h : f.code.length ≤ 1000) (j : Int) : Ok (ref08_Whole_l2 m j f 0) (fun r => (r = .inl (w64 (j + 1)) ∧ ∀ x ∈ f.code, Calls m x) ∨ (r = .inr false ∧ ¬ ∀ x ∈ f.code, Calls m x)) := by
 unfold ref08_Whole_l2
 refine loop_for f.code (fun k s => s = (k : Int) ∧ ∀ x ∈ f.code.take k, Calls m x) (fun k x s hk' hk hs => ?_) (fun s hs => ?_) ⟨rfl, by simp⟩
 ·obtain ⟨rfl, hs⟩ := hs
  have hmem := List.mem_of_getElem? hk
  have next : Calls m x → ∀ y ∈ f.code.take (k + 1), Calls m y := fun hc y hy => by
   rw [mem_take_succ hk'] at hy
   rcases hy with hy | rfl
   ·exact hs y hy
   ·rw [List.getElem?_eq_getElem hk'] at hk
    rw [Option.some.inj hk]; exact hc
  unfold ref08_Whole_l2b
  rw [if_pos (by simp; omega), ix_nat, hk]
  simp only [Option.bind_some]
  have bad : ¬ Calls m x → Ok (ref08_Whole_k1 k true) (Sum.elim (fun s => s = ((k + 1 : Nat) : Int) ∧ ∀ x ∈ f.code.take (k + 1), Calls m x) (fun r => (r = .inl (w64 (j + 1)) ∧ ∀ x ∈ f.code, Calls m x) ∨ (r = .inr false ∧ ¬ ∀ x ∈ f.code, Calls m x))) := fun hc =>
   .ret (.inr ⟨rfl, fun e => hc (e x hmem)⟩)
  have good : Calls m x → Ok (ref08_Whole_k1 k false) (Sum.elim (fun s => s = ((k + 1 : Nat) : Int) ∧ ∀ x ∈ f.code.take (k + 1), Calls m x) (fun r => (r = .inl (w64 (j + 1)) ∧ ∀ x ∈ f.code, Calls m x) ∨ (r = .inr false ∧ ¬ ∀ x ∈ f.code, Calls m x))) := fun hc =>
   .ret ⟨w64_succ (by omega), next hc⟩
  refine .ite (fun h14 => ?_) fun h14 => good fun e => by simp [e] at h14
  have h14 : x.op = 14 := by simpa using h14
  refine .ite (fun hn => bad fun e => ?_) fun hn => .ite (fun hn2 => bad fun e => ?_) fun hn2 => ?_
  ·have := (e h14).1; simp at hn; omega
  ·obtain ⟨h0, g, h1, _⟩ := e h14
   have := (List.getElem?_eq_some_iff.1 h1).1
   simp at hn2; omega
  ·simp only [decide_eq_false_iff_not] at hn hn2
   obtain ⟨g, hg1, hg2⟩ := ix_in (xs := m.funcs) (i := x.imm) (by omega) (by omega)
   rw [hg2]
   simp only [Option.bind_some]
   by_cases hp : (x.args.length : Int) = g.params
   ·rw [show decide ((x.args.length : Int) ≠ g.params) = false by simpa using hp]
    exact good fun _ => ⟨by omega, g, hg1, hp⟩
   ·rw [show decide ((x.args.length : Int) ≠ g.params) = true by simpa using hp]
    refine bad fun e => ?_
    obtain ⟨_, g', h1, h2⟩ := e h14
    rw [hg1] at h1
    cases h1
    exact hp h2
 ·obtain ⟨rfl, hs⟩ := hs
  unfold ref08_Whole_l2b
  rw [if_neg (by simp)]
  rw [List.take_length] at hs
  exact .map (.ret (.inl ⟨rfl, hs⟩))
def ThrOK (m : TModule) (t : Int) : Prop := 0 ≤ t ∧ ∃ g, m.funcs[t.toNat]? = some g ∧ g.params = 0
theorem threads_is {m : TModule} (h : m.threads.length ≤ 1000) : Ok (ref08_Whole_l3 m 0) (fun b => b = true ↔ ∀ t ∈ m.threads, ThrOK m t) := by
 unfold ref08_Whole_l3
 refine loop_for m.threads (fun k s => s = (k : Int) ∧ ∀ x ∈ m.threads.take k, ThrOK m x) (fun k x s hk' hk hs => ?_) (fun s hs => ?_) ⟨rfl, by simp⟩
 ·obtain ⟨rfl, hs⟩ := hs
  unfold ref08_Whole_l3b
  rw [if_pos (by simp; omega), ix_nat, hk]
  simp only [Option.bind_some]
  refine Ok.bind (P := fun b => b = true ↔ ¬ ThrOK m x) (.ite (fun hb => .ret ⟨fun _ e => ?_, fun _ => rfl⟩) fun hb => ?_) fun b hb => .ite (fun h => .map (.ret ⟨fun h => (by cases h), fun e => (hb.1 h (e x (List.mem_of_getElem? hk))).elim⟩)) fun h => .ret ⟨w64_succ (by omega), fun z hz => ?_⟩
  ·obtain ⟨h0, g, h1, _⟩ := e
   have := (List.getElem?_eq_some_iff.1 h1).1
   simp only [Bool.or_eq_true, decide_eq_true_iff] at hb; omega
  ·simp only [Bool.or_eq_false_iff, decide_eq_false_iff_not] at hb
   obtain ⟨g, hg1, hg2⟩ := ix_in (xs := m.funcs) (i := x) (by omega) (by omega)
   rw [hg2]
   simp only [Option.bind_some]
   refine .ret ?_
   rw [decide_eq_true_iff]
   constructor
   ·rintro hp ⟨_, g', h1, h2⟩
    rw [hg1] at h1
    cases h1
    exact hp h2
   ·exact fun hn hp => hn ⟨by omega, g, hg1, hp⟩
  ·rw [mem_take_succ hk'] at hz
   rcases hz with hz | rfl
   ·exact hs z hz
   ·rw [List.getElem?_eq_getElem hk'] at hk
    rw [Option.some.inj hk]
    exact Classical.not_not.1 fun e => by rw [hb.2 e] at h; cases h
 ·obtain ⟨rfl, hs⟩ := hs
  unfold ref08_Whole_l3b
  rw [if_neg (by simp)]
  rw [List.take_length] at hs
  exact .map (.ret ⟨fun _ => hs, fun _ => rfl⟩)
theorem whole_is {m : TModule} (h : Bnd m) : Ok (ref08_Whole m) (fun b => b = true ↔ Whole m) := by
 unfold ref08_Whole ref08_Whole_l1
 refine loop_for m.funcs (fun k s => s = (k : Int) ∧ ∀ f ∈ m.funcs.take k, Good f ∧ ∀ x ∈ f.code, Calls m x) (fun k f s hk' hk hs => ?_) (fun s hs => ?_) ⟨rfl, by simp⟩
 ·obtain ⟨rfl, hs⟩ := hs
  have hmem := List.mem_of_getElem? hk
  have hb := h.funcs
  unfold ref08_Whole_l1b
  rw [if_pos (by simp; omega), ix_nat, hk]
  simp only [Option.bind_some]
  refine (good_is f (h.code f hmem) (h.args f hmem)).bind fun b hb => .ite (fun hn => .map (.ret ⟨fun h => (by cases h), fun e => ?_⟩)) fun hn => ?_
  ·rw [hb.2 (e.1 f hmem).1] at hn; cases hn
  ·have hg : Good f := hb.1 (by simpa using hn)
   refine (calls_is (h.code f hmem) k).mono fun r hr => ?_
   rcases hr with ⟨rfl, hc⟩ | ⟨rfl, hc⟩
   ·refine ⟨w64_succ (by omega), fun z hz => ?_⟩
    rw [mem_take_succ hk'] at hz
    rcases hz with hz | rfl
    ·exact hs z hz
    ·rw [List.getElem?_eq_getElem hk'] at hk
     rw [Option.some.inj hk]
     exact ⟨hg, hc⟩
   ·exact ⟨fun h => (by cases h), fun e => (hc (e.1 f hmem).2).elim⟩
 ·obtain ⟨rfl, hs⟩ := hs
  unfold ref08_Whole_l1b
  rw [if_neg (by simp)]
  rw [List.take_length] at hs
  exact .map ((threads_is h.threads).mono fun b hb => ⟨fun e => ⟨hs, hb.1 e⟩, fun e => hb.2 e.2⟩)
structure Small (m : TModule) : Prop where
 funcs : m.funcs.length ≤ 6
 threads : m.threads.length ≤ 4
 code : ∀ f ∈ m.funcs, f.code.length ≤ 40 ∧ f.regs ≤ 12
 whole : Whole m
theorem great_is {m : TModule} (o : OK_TModule m) : Ok (law11_great m) (fun b => b = false → Small m) := by
 unfold law11_great law11_great_l1
 have hfn := o.1.2
 refine loop_for m.funcs (fun k s => s = (k : Int) ∧ ∀ f ∈ m.funcs.take k, f.code.length ≤ 40 ∧ f.regs ≤ 12) (fun k f s hk' hk hs => ?_) (fun s hs => ?_) ⟨rfl, by simp⟩
 ·obtain ⟨rfl, hs⟩ := hs
  unfold law11_great_l1b
  rw [if_pos (by simp; omega), ix_nat, hk]
  simp only [Option.bind_some]
  refine .ite (fun hb => .map (.ret (fun h => by cases h))) (fun hb => .ret ⟨w64_succ (by omega), fun z hz => ?_⟩)
  rw [mem_take_succ hk'] at hz
  rcases hz with hz | rfl
  ·exact hs z hz
  ·rw [List.getElem?_eq_getElem hk'] at hk
   rw [Option.some.inj hk]
   simp only [Bool.or_eq_false_iff, decide_eq_false_iff_not] at hb
   omega
 ·obtain ⟨rfl, hs⟩ := hs
  unfold law11_great_l1b
  rw [if_neg (by simp)]
  rw [List.take_length] at hs
  refine .map (Ok.bind (P := fun b => b = false → Small m) (.ite (fun hb => .ret (fun h => by cases h)) (fun hb => ?_)) (fun b hb => .ret hb))
  simp only [Bool.or_eq_false_iff, decide_eq_false_iff_not] at hb
  refine (whole_is ⟨by omega, by omega, fun f hf => by have := hs f hf; omega, fun f hf x hx => ?_⟩).bind fun b hw => .ret (fun h => ⟨by omega, by omega, hs, hw.1 (by simpa using h)⟩)
  exact ((o.1.1 f hf).2.2.2.1.1 x hx).2.2.2.2.2.1.2
theorem good_fine {f : TFunc} (hg : Good f) (hl : f.code.length ≤ 1000) (hr : f.regs ≤ 1000) (ha : ∀ x ∈ f.code, x.args.length ≤ 1000) : Fine f := by
 obtain ⟨⟨l, h1, _⟩, _, _, h4⟩ := hg
 refine ⟨hl, ?_, hr, ha, fun x hx h1 h8 => ?_⟩
 ·cases hc : f.code with
  | nil => rw [hc] at h1; cases h1
  | cons a b => simp
 ·have hi := ((gd_iff hl x (by have := ha x hx; omega)).1 (h4 x hx)).1
  have hd := hi.d
  have : (hs x.op).1 = true := by
   have : x.op = 1 ∨ x.op = 2 ∨ x.op = 3 ∨ x.op = 4 ∨ x.op = 5 ∨ x.op = 6 ∨ x.op = 7 ∨ x.op = 8 := by omega
   rcases this with e | e | e | e | e | e | e | e <;> rw [e] <;> rfl
  unfold rg at hd
  rw [this, if_pos rfl] at hd
  have h14 : x.op ≠ 14 := by omega
  simpa [h14] using hd
theorem small_args {m : TModule} (h : Small m) {f : TFunc} (hf : f ∈ m.funcs) (ha : ∀ x ∈ f.code, x.args.length ≤ 9223372036854775807) : ∀ x ∈ f.code, x.args.length ≤ 12 := by
 intro x hx
 have hw := h.whole.1 f hf
 have hi := ((gd_iff (by have := h.code f hf; omega) x (ha x hx)).1 (hw.1.2.2.2 x hx)).1
 by_cases ho : x.op = 14
 ·obtain ⟨_, g, h1, h2⟩ := hw.2 x hx ho
  have hg := List.mem_of_getElem? h1
  have := h.code g hg
  have := (h.whole.1 g hg).1.2.2.1
  omega
 ·cases hc : x.args with
  | nil => simp
  | cons y ys => exact (ho (hi.args y (by rw [hc]; simp)).1).elim
end
section
theorem rowL_mem (o : Ttidy_Options) : ∀ {k : Ttidy_facts} {xs : List TIns} {y : TIns}, y ∈ rowL o k xs → ∃ x ∈ xs, ∃ k', y = chg o k' x
 | k, [], y, h => by cases h
 | k, x :: xs, y, h => by
  rcases List.mem_cons.1 h with rfl | h
  ·exact ⟨x, by simp, _, rfl⟩
  ·obtain ⟨x', h1, k', h2⟩ := rowL_mem o h
   exact ⟨x', List.mem_cons_of_mem _ h1, k', h2⟩
structure ChgS (x y : TIns) : Prop where
 op : y.op = x.op ∨ ((2 ≤ x.op ∧ x.op ≤ 8) ∧ y.op = 1) ∨ (x.op = 13 ∧ y.op = 12)
 d : y.op ≤ 11 → y.d = x.d
 args : y.args.length ≤ x.args.length
theorem chg_s (o : Ttidy_Options) (k : Ttidy_facts) (x : TIns) : ChgS x (chg o k x) := by
 have hr : ChgS x (if o.copy = true then ren k x else x) := by
  split
  ·exact ⟨.inl rfl, fun _ => rfl, by simp [ren]⟩
  ·exact ⟨.inl rfl, fun _ => rfl, Nat.le_refl _⟩
 unfold chg
 simp only
 generalize (if o.copy = true then ren k x else x) = z at hr
 split
 ·rcases (fold_is k z).2 with h | ⟨h1, n, _, h⟩ | ⟨h1, _, h⟩ | ⟨a, b, n, _, _, h, h1⟩
  ·rw [h]; exact hr
  ·rw [h]
   have := hr.op
   exact ⟨.inr (.inl ⟨by omega, rfl⟩), fun _ => hr.d (by omega), Nat.zero_le _⟩
  ·rw [h]
   have := hr.op
   exact ⟨.inr (.inr ⟨by omega, rfl⟩), fun h => absurd h (by show ¬ (12 : Int) ≤ 11; omega), Nat.zero_le _⟩
  ·rw [h]
   have := hr.op
   exact ⟨.inr (.inl ⟨by omega, rfl⟩), fun _ => hr.d (by omega), Nat.zero_le _⟩
 ·exact hr
noncomputable def rowF (o : Ttidy_Options) (f : TFunc) : TFunc := ⟨f.name, f.params, f.regs, rowL o frs f.code⟩
theorem Fine.row {f : TFunc} (h : Fine f) (o : Ttidy_Options) : Fine (rowF o f) := by
 refine ⟨by show (rowL o frs f.code).length ≤ _; rw [rowL_len]; exact h.len, by show 0 < (rowL o frs f.code).length; rw [rowL_len]; exact h.pos, h.regs, fun y hy => ?_, fun y hy h1 h8 => ?_⟩
 ·obtain ⟨x, hx, k, rfl⟩ := rowL_mem o hy
  have := h.args x hx
  have := (chg_s o k x).args
  omega
 ·obtain ⟨x, hx, k, rfl⟩ := rowL_mem o hy
  have hc := chg_s o k x
  have := hc.op
  rw [hc.d (by omega)]
  exact h.pure x hx (by omega) (by omega)
theorem shut_mem {xs : List TIns} {y : TIns} (h : y ∈ shut xs) : y ∈ xs ∨ y = retI := by
 unfold shut at h
 split at h
 ·simpa using h
 ·split at h
  ·simpa using h
  ·exact .inl h
theorem shut_len (xs : List TIns) : (shut xs).length ≤ xs.length + 1 := by
 unfold shut
 split
 ·simp
 ·split <;> simp
theorem shut_pos (xs : List TIns) : 0 < (shut xs).length := by
 unfold shut
 split
 ·simp
 ·rename_i l hl
  split
  ·simp
  ·cases xs with
   | nil => cases hl
   | cons a b => simp
theorem Swp.len {f g : TFunc} (h : Swp f g) : g.code.length ≤ f.code.length + 1 := by
 obtain ⟨kp, rfl, _⟩ := h
 have := shut_len (sel kp 0 f.code)
 have := (sel_sub kp 0 f.code).length_le
 show (shut _).length ≤ _
 omega
theorem Fine.swp {f g : TFunc} (h : Fine f) (hs : Swp f g) (hl : f.code.length ≤ 999) : Fine g := by
 have hl2 := hs.len
 obtain ⟨kp, rfl, _⟩ := hs
 refine ⟨by omega, shut_pos _, h.regs, fun y hy => ?_, fun y hy h1 h8 => ?_⟩
 ·rcases shut_mem hy with hy | rfl
  ·exact h.args y ((sel_sub kp 0 f.code).subset hy)
  ·simp [retI]
 ·rcases shut_mem hy with hy | rfl
  ·exact h.pure y ((sel_sub kp 0 f.code).subset hy) h1 h8
  ·exact absurd h8 (by show ¬ (15 : Int) ≤ 8; omega)
theorem func_is {f : TFunc} (o : Ttidy_Options) (hf : Fine f) (hl : f.code.length ≤ 900) (J : TFunc → Prop) (h0 : J (rowF o f)) (hJ : ∀ a b, Fine a → Fine b → J a → Swp a b → J b) :
  Ok (tidy_Func f o) (fun g => J g ∧ Fine g ∧ g.code.length ≤ f.code.length + 1 ∧ (o.dead = false → g = rowF o f)) := by
 unfold tidy_Func
 rw [row_is f o hf.len hf.args]
 simp only [Option.bind_some]
 unfold tidy_Func_l1
 refine Ok.loopM (B := fun s => tidy_Func_l1b s.1 s.2.1 s.2.2.1 s.2.2.2.1 s.2.2.2.2) (fun s => ∃ (a : TFunc) (b : Bool), s = (a.name, a.params, a.regs, a.code, b) ∧ J a ∧ Fine a ∧ (b = true → a.code.length ≤ f.code.length) ∧ a.code.length ≤ f.code.length + 1 ∧ (o.dead = false → a = rowF o f ∧ b = false)) (fun s => if s.2.2.2.2 = true then s.2.2.2.1.length + 1 else 0) (fun s hs => ?_) ⟨rowF o f, o.dead, rfl, h0, hf.row o, fun _ => ?_, ?_, fun h => ⟨rfl, h⟩⟩
 ·obtain ⟨a, b, rfl, hJa, hfa, hb, hle, hd⟩ := hs
  show Ok (tidy_Func_l1b a.name a.params a.regs a.code b) _
  unfold tidy_Func_l1b
  refine .ite (fun hbt => ?_) fun hbf => .map (.ret ⟨hJa, hfa, hle, fun h => (hd h).1⟩)
  have hal := hb hbt
  refine (swept_is hfa).bind fun r hr => .ret ⟨⟨r.1, _, rfl, hJ a r.1 hfa (hfa.swp hr (by omega)) hJa hr, hfa.swp hr (by omega), fun h => ?_, by have := hr.len; omega, fun h => ?_⟩, ?_⟩
  ·simp at h; omega
  ·have := (hd h).2
   rw [hbt] at this; cases this
  ·show (if decide ((r.1.code.length : Int) < (a.code.length : Int)) = true then r.1.code.length + 1 else 0) < (if b = true then a.code.length + 1 else 0)
   rw [if_pos hbt]
   split
   ·rename_i h; simp at h; omega
   ·omega
 ·show (rowL o frs f.code).length ≤ _
  rw [rowL_len]; exact Nat.le_refl _
 ·show (rowL o frs f.code).length ≤ _
  rw [rowL_len]; omega
theorem module_is {m : TModule} (o : Ttidy_Options) (hn : m.funcs.length ≤ 1000) (ht : m.threads.length ≤ 1000) (Q : TFunc → TFunc → Prop) (h : ∀ f ∈ m.funcs, Ok (tidy_Func f o) (Q f)) :
  Ok (tidy_Module m o) (fun t => t.threads = m.threads ∧ t.funcs.length = m.funcs.length ∧ ∀ (i : Nat) f g, m.funcs[i]? = some f → t.funcs[i]? = some g → Q f g) := by
 unfold tidy_Module slices_Clone_2
 rw [ap_some (by simp; omega)]
 simp only [Option.bind_some, List.nil_append]
 unfold tidy_Module_l1
 refine Ok.loop (B := fun s => tidy_Module_l1b m o m.threads s.1 s.2) (fun k s => s.2 = (k : Int) ∧ s.1.length = k ∧ ∀ (i : Nat) f g, m.funcs[i]? = some f → s.1[i]? = some g → Q f g) m.funcs.length (fun k s hk hs => ?_) (fun s hs => ?_) ⟨rfl, rfl, fun i f g _ h => by simp at h⟩
 ·obtain ⟨L, s2⟩ := s
  obtain ⟨rfl, hl, hq⟩ := hs
  simp only at hl hq
  show Ok (tidy_Module_l1b m o m.threads L k) _
  unfold tidy_Module_l1b
  rw [if_pos (by simp; omega), ix_some hk]
  simp only [Option.bind_some]
  refine (h _ (List.getElem_mem hk)).bind fun g hg => ?_
  rw [ap_some (by simp; omega)]
  simp only [Option.bind_some]
  refine .ret ⟨w64_succ (by omega), by simp [hl], fun i f g' h1 h2 => ?_⟩
  by_cases hi : i < k
  ·exact hq i f g' h1 (by rwa [List.getElem?_append_left (by omega)] at h2)
  ·rw [List.getElem?_append_right (by omega)] at h2
   have : i = k := by
    have := (List.getElem?_eq_some_iff.1 h2).1
    simp at this; omega
   subst this
   rw [hl, Nat.sub_self] at h2
   rw [List.getElem?_eq_getElem hk] at h1
   cases h1
   cases h2
   exact hg
 ·obtain ⟨L, s2⟩ := s
  obtain ⟨rfl, hl, hq⟩ := hs
  simp only at hl hq
  show Ok (tidy_Module_l1b m o m.threads L _) _
  unfold tidy_Module_l1b
  rw [if_neg (by simp)]
  exact .map (.ret ⟨rfl, hl, hq⟩)
end
section
theorem nd_use {f : TFunc} {r : Int} {k : Nat} (h : Nd f r k) : ∃ x ∈ f.code, us x r := by
 induction h with
 | use k x hk hu => exact ⟨x, List.mem_of_getElem? hk, hu⟩
 | go _ _ _ _ _ _ _ ih => exact ih
def oI : TIns := ⟨20, (-1), 2, (-1), 0, [], 0, false, false⟩
def f0 : TFunc := ⟨ByteArray.empty, 0, 3, [con 0 2, con 1 3, ⟨3, 2, 0, 1, 0, [], 0, false, false⟩, oI, retI]⟩
def f1 : TFunc := ⟨ByteArray.empty, 0, 3, [con 0 2, con 1 3, con 2 5, oI, retI]⟩
def f2 : TFunc := ⟨ByteArray.empty, 0, 3, [con 2 5, oI, retI]⟩
theorem row_f0 : rowF ⟨true, true, true⟩ f0 = f1 := by
 unfold rowF f1
 congr 1
theorem fine_f1 : Fine f1 := ⟨by decide, by decide, by decide, by decide, by decide⟩
theorem fine_f2 : Fine f2 := ⟨by decide, by decide, by decide, by decide, by decide⟩
theorem nx_next {f : TFunc} (h : f.code.length ≤ 1000) {k : Nat} {x : TIns} (hk : f.code[k]? = some x) (ho : x.op ≠ 12 ∧ x.op ≠ 15 ∧ x.op ≠ 16) (hl : k + 1 < f.code.length) (hj : jmp x = false) : nx f k = [((k + 1 : Nat) : Int)] := by
 have h1 : flow_Next f k = some [((k + 1 : Nat) : Int)] := by
  unfold flow_Next
  have hk' := (List.getElem?_eq_some_iff.1 hk).1
  rw [if_neg (by simp; omega), ix_nat, hk]
  simp only [Option.bind_some]
  rw [w64_succ (by omega), if_pos (by simp [ho]; omega), ap_some (by simp)]
  simp only [Option.bind_some, List.nil_append]
  unfold flow_Next_k1
  rw [if_neg (by unfold jmp at hj; rw [hj]; decide)]
  rfl
 unfold nx
 rw [h1]
 rfl
theorem rc_next {f : TFunc} (h : f.code.length ≤ 1000) {k : Nat} {x : TIns} (hr : Rc f k) (hk : f.code[k]? = some x) (ho : x.op ≠ 12 ∧ x.op ≠ 15 ∧ x.op ≠ 16) (hl : k + 1 < f.code.length) (hj : jmp x = false) : Rc f (k + 1) := by
 refine Rc.go k (k + 1) (by omega) ?_ hr
 rw [nx_next h hk ho hl hj]
 simp
theorem swp_f1 {g : TFunc} (h : Swp f1 g) : g = f2 := by
 obtain ⟨kp, rfl, hk⟩ := h
 have hl : f1.code.length ≤ 1000 := by decide
 have r0 : Rc f1 0 := Rc.zero
 have r1 : Rc f1 1 := rc_next hl r0 (x := con 0 2) rfl (by decide) (by decide) (by decide)
 have r2 : Rc f1 2 := rc_next hl r1 (x := con 1 3) rfl (by decide) (by decide) (by decide)
 have r3 : Rc f1 3 := rc_next hl r2 (x := con 2 5) rfl (by decide) (by decide) (by decide)
 have r4 : Rc f1 4 := rc_next hl r3 (x := oI) rfl (by decide) (by decide) (by decide)
 have no : ∀ r, (r = 0 ∨ r = 1) → ∀ k, ¬ Nd f1 r k := fun r hr k hn => by
  obtain ⟨x, hx, hu⟩ := nd_use hn
  have : ∀ x ∈ f1.code, ¬ us x 0 ∧ ¬ us x 1 := by unfold us; decide
  rcases hr with rfl | rfl
  ·exact (this x hx).1 hu
  ·exact (this x hx).2 hu
 have k0 : kp 0 = false := by
  rw [← Bool.not_eq_true, hk 0 (con 0 2) rfl]
  rintro (h | h)
  ·cases h
  ·exact h.2 (.inr (.inr ⟨by decide, fun j _ => no _ (.inl rfl) _⟩))
 have k1 : kp 1 = false := by
  rw [← Bool.not_eq_true, hk 1 (con 1 3) rfl]
  rintro (h | h)
  ·cases h
  ·exact h.2 (.inr (.inr ⟨by decide, fun j _ => no _ (.inr rfl) _⟩))
 have k2 : kp 2 = true := by
  rw [hk 2 (con 2 5) rfl]
  refine .inr ⟨r2, ?_⟩
  rintro (h | h | h)
  ·exact absurd h.1 (by decide)
  ·exact absurd h.1 (by decide)
  ·refine h.2 ((3 : Nat) : Int) ?_ (.use 3 oI rfl (.inl rfl))
   rw [nx_next hl (k := 2) (x := con 2 5) rfl (by decide) (by decide) (by decide)]
   simp
 have k3 : kp 3 = true := by
  rw [hk 3 oI rfl]
  refine .inr ⟨r3, ?_⟩
  rintro (h | h | h)
  ·exact absurd h.1 (by decide)
  ·exact absurd h.1 (by decide)
  ·exact absurd h.1 (by decide)
 have k4 : kp 4 = true := by
  rw [hk 4 retI rfl]
  refine .inr ⟨r4, ?_⟩
  rintro (h | h | h)
  ·exact absurd h.1 (by decide)
  ·exact absurd h.1 (by decide)
  ·exact absurd h.1 (by decide)
 show (⟨_, _, _, shut (sel kp 0 [_, _, _, _, _])⟩ : TFunc) = _
 simp only [sel, Nat.zero_add, k0, k1, k2, k3, k4, if_true, if_false, Bool.false_eq_true]
 rfl
theorem swp_f2 {g : TFunc} (h : Swp f2 g) : g = f2 := by
 obtain ⟨kp, rfl, hk⟩ := h
 have hl : f2.code.length ≤ 1000 := by decide
 have r0 : Rc f2 0 := Rc.zero
 have r1 : Rc f2 1 := rc_next hl r0 (x := con 2 5) rfl (by decide) (by decide) (by decide)
 have r2 : Rc f2 2 := rc_next hl r1 (x := oI) rfl (by decide) (by decide) (by decide)
 have k0 : kp 0 = true := by
  rw [hk 0 (con 2 5) rfl]
  refine .inr ⟨r0, ?_⟩
  rintro (h | h | h)
  ·exact absurd h.1 (by decide)
  ·exact absurd h.1 (by decide)
  ·refine h.2 ((1 : Nat) : Int) ?_ (.use 1 oI rfl (.inl rfl))
   rw [nx_next hl (k := 0) (x := con 2 5) rfl (by decide) (by decide) (by decide)]
   simp
 have k1 : kp 1 = true := by
  rw [hk 1 oI rfl]
  refine .inr ⟨r1, ?_⟩
  rintro (h | h | h)
  ·exact absurd h.1 (by decide)
  ·exact absurd h.1 (by decide)
  ·exact absurd h.1 (by decide)
 have k2 : kp 2 = true := by
  rw [hk 2 retI rfl]
  refine .inr ⟨r2, ?_⟩
  rintro (h | h | h)
  ·exact absurd h.1 (by decide)
  ·exact absurd h.1 (by decide)
  ·exact absurd h.1 (by decide)
 show (⟨_, _, _, shut (sel kp 0 [_, _, _])⟩ : TFunc) = _
 simp only [sel, Nat.zero_add, k0, k1, k2, if_true, if_false, Bool.false_eq_true]
 rfl
theorem fine_f0 : Fine f0 := ⟨by decide, by decide, by decide, by decide, by decide⟩
theorem tidy_f0 : tidy_Func f0 ⟨true, true, true⟩ = some f2 := by
 unfold tidy_Func
 rw [row_is f0 _ fine_f0.len fine_f0.args]
 simp only [Option.bind_some]
 have h1 : rowL ⟨true, true, true⟩ frs f0.code = f1.code := congrArg TFunc.code row_f0
 rw [h1]
 unfold tidy_Func_l1
 obtain ⟨s1, e1, q1⟩ := swept_is fine_f1
 obtain ⟨s2, e2, q2⟩ := swept_is fine_f2
 have q1 := swp_f1 q1
 have q2 := swp_f2 q2
 rw [loopO_eq]
 show (tidy_Func_l1b f1.name f1.params f1.regs f1.code true).bind _ = _
 unfold tidy_Func_l1b
 rw [if_pos rfl]
 show ((tidy_swept f1).bind _).bind _ = _
 rw [e1]
 simp only [Option.bind_some]
 rw [q1]
 show loopO _ (f2.name, f2.params, f2.regs, f2.code, true) = _
 rw [loopO_eq]
 show (tidy_Func_l1b f2.name f2.params f2.regs f2.code true).bind _ = _
 unfold tidy_Func_l1b
 rw [if_pos rfl]
 show ((tidy_swept f2).bind _).bind _ = _
 rw [e2]
 simp only [Option.bind_some]
 rw [q2]
 show loopO _ (f2.name, f2.params, f2.regs, f2.code, false) = _
 rw [loopO_eq]
 rfl
theorem alive_is : law11_alive = some true := by
 unfold law11_alive law11_con
 simp only [Option.bind_some]
 show (tidy_Func f0 ⟨true, true, true⟩).bind _ = _
 rw [tidy_f0]
 rfl
end
end Go.Vm.G11
