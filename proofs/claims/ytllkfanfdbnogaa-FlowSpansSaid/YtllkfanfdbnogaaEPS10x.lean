/-
  The flow of a function's code, as plain facts.
-/
import Derived.Test.YtllkfanfdbnogaaEPl1
import Derived.Test.YtllkfanfdbnogaaEOG10s
set_option linter.unusedSimpArgs false
set_option linter.unusedVariables false
namespace Go.Vm.G10s
open Go

def lab (l : Int) (x : TIns) : Bool := (decide (x.op = 11)) && (decide (x.imm = l))
theorem place_ok (f : TFunc) (l : Int) (h : f.code.length ≤ 1000) : Ok (flow_place f l) (fun (p : Int) => (p = -1 ∧ ∀ x ∈ f.code, lab l x = false) ∨ ∃ (k : Nat) (x : TIns), p = (k : Int) ∧ f.code[k]? = some x ∧ lab l x = true ∧ ∀ y ∈ f.code.take k, lab l y = false) := by
  unfold flow_place slices_IndexFunc slices_IndexFunc_l1
  refine Ok.bind (P := fun (p : Int) => (p = -1 ∧ ∀ x ∈ f.code, lab l x = false) ∨ ∃ (k : Nat) (x : TIns), p = (k : Int) ∧ f.code[k]? = some x ∧ lab l x = true ∧ ∀ y ∈ f.code.take k, lab l y = false) ?_ (fun x hx => .ret hx)
  refine loop_for f.code (fun k s => s = (k : Int) ∧ ∀ y ∈ f.code.take k, lab l y = false) (fun k x s hk' hk hs => ?_) (fun s hs => ?_) ⟨rfl, by simp⟩
  · obtain ⟨rfl, hs⟩ := hs
    unfold slices_IndexFunc_l1b flow_place_c1
    rw [if_pos (by simp; omega), ix_nat, hk]
    simp only [Option.bind_some]
    refine .ite (fun hb => .map (.ret (.inr ⟨k, x, rfl, hk, hb, hs⟩))) (fun hb => .ret ⟨w64_succ (by omega), fun y hy => ?_⟩)
    rw [mem_take_succ hk'] at hy
    rcases hy with hy | rfl
    · exact hs y hy
    · rw [List.getElem?_eq_getElem hk'] at hk
      rw [Option.some.inj hk]; exact hb
  · obtain ⟨rfl, hs⟩ := hs
    unfold slices_IndexFunc_l1b
    rw [if_neg (by simp)]
    rw [List.take_length] at hs
    exact .map (.ret (.inl ⟨rfl, hs⟩))
theorem contains_ok (xs : List Int) (v : Int) (h : xs.length ≤ 1000) : Ok (slices_Contains xs v) (fun b => b = true ↔ v ∈ xs) := by
  unfold slices_Contains slices_Index slices_Index_l1
  refine Ok.bind (P := fun p => 0 ≤ p ↔ v ∈ xs) ?_ (fun x hx => .ret (by simpa using hx))
  refine loop_for xs (fun k s => s = (k : Int) ∧ ∀ y ∈ xs.take k, v ≠ y) (fun k x s hk' hk hs => ?_) (fun s hs => ?_) ⟨rfl, by simp⟩
  · obtain ⟨rfl, hs⟩ := hs
    unfold slices_Index_l1b
    rw [if_pos (by simp; omega), ix_nat, hk]
    simp only [Option.bind_some]
    refine .ite (fun hb => .map (.ret ?_)) (fun hb => .ret ⟨w64_succ (by omega), fun y hy => ?_⟩)
    · have : v = x := by simpa using hb
      exact ⟨fun _ => this ▸ List.mem_of_getElem? hk, fun _ => by omega⟩
    · rw [mem_take_succ hk'] at hy
      rcases hy with hy | rfl
      · exact hs y hy
      · rw [List.getElem?_eq_getElem hk'] at hk
        rw [Option.some.inj hk]; simpa using hb
  · obtain ⟨rfl, hs⟩ := hs
    unfold slices_Index_l1b
    rw [if_neg (by simp)]
    rw [List.take_length] at hs
    exact .map (.ret ⟨fun h => by omega, fun h => (hs v h rfl).elim⟩)

/-- Where the code may go on from the k-th instruction. -/
def fall (f : TFunc) (k : Nat) (x : TIns) : Bool := (((decide (x.op ≠ 12)) && (decide (x.op ≠ 15))) && (decide (x.op ≠ 16))) && (decide (k + 1 < f.code.length))
def jmp (x : TIns) : Bool := ((decide (x.op = 12)) || (decide (x.op = 13))) || (decide (x.op = 17))
def fst (f : TFunc) (k : Nat) (x : TIns) : List Int := if fall f k x then [((k + 1 : Nat) : Int)] else []
theorem fst_len (f : TFunc) (k : Nat) (x : TIns) : (fst f k x).length ≤ 1 := by unfold fst; split <;> simp
theorem fst_lt (f : TFunc) (k : Nat) (x : TIns) : ∀ j ∈ fst f k x, 0 ≤ j ∧ j < f.code.length := by
  intro j hj
  unfold fst at hj
  split at hj
  · rename_i h
    have : k + 1 < f.code.length := by unfold fall at h; simp at h; exact h.2
    rcases List.mem_singleton.1 hj with rfl
    omega
  · cases hj
def NxS (f : TFunc) (k : Nat) (x : TIns) (l : List Int) : Prop :=
  l.length ≤ 2 ∧ (∀ j ∈ l, 0 ≤ j ∧ j < f.code.length) ∧
  ((jmp x = false ∧ l = fst f k x) ∨ (jmp x = true ∧ (∀ y ∈ f.code, lab x.imm y = false) ∧ l = fst f k x) ∨
   jmp x = true ∧ ∃ p y, f.code[p]? = some y ∧ lab x.imm y = true ∧ (∀ z ∈ f.code.take p, lab x.imm z = false) ∧ ((((p : Int) ∈ fst f k x) ∧ l = fst f k x) ∨ (((p : Int) ∉ fst f k x) ∧ l = fst f k x ++ [(p : Int)])))
theorem Next_ok (f : TFunc) (h : f.code.length ≤ 1000) (k : Nat) (x : TIns) (hk : f.code[k]? = some x) : Ok (flow_Next f k) (NxS f k x) := by
  have hk' := (List.getElem?_eq_some_iff.1 hk).1
  have hfl := fst_len f k x
  have hft := fst_lt f k x
  have key : Ok (flow_Next_k1 f x (fst f k x)) (NxS f k x) := by
    unfold flow_Next_k1 flow_Next_k2
    refine .ite (fun hj => ?_) (fun hj => .ret ⟨by omega, hft, .inl ⟨hj, rfl⟩⟩)
    refine (place_ok f x.imm h).bind fun p hp => ?_
    rcases hp with ⟨rfl, hn⟩ | ⟨q, y, rfl, hq, hy, hz⟩
    · simp only [Bool.false_eq_true, if_false, Option.bind_some, show decide ((0 : Int) ≤ -1) = false from rfl]
      exact .ret ⟨by omega, hft, .inr (.inl ⟨hj, hn, rfl⟩)⟩
    · have hq' := (List.getElem?_eq_some_iff.1 hq).1
      rw [if_pos (by simp)]
      refine Ok.bind (P := fun b => b = true ↔ (q : Int) ∉ fst f k x) ((contains_ok (fst f k x) q (by omega)).bind fun b hb => .ret (by cases b <;> simp_all)) fun b hb => ?_
      refine .ite (fun hb1 => ?_) (fun hb1 => .ret ⟨by omega, hft, .inr (.inr ⟨hj, q, y, hq, hy, hz, .inl ⟨?_, rfl⟩⟩)⟩)
      · rw [ap_some (by simp; omega)]
        refine .ret ⟨by simp; omega, ?_, .inr (.inr ⟨hj, q, y, hq, hy, hz, .inr ⟨hb.1 hb1, rfl⟩⟩)⟩
        intro j hj
        rcases List.mem_append.1 hj with hj | hj
        · exact hft j hj
        · rcases List.mem_singleton.1 hj with rfl; omega
      · rw [hb1] at hb
        simpa using hb
  unfold flow_Next
  rw [if_neg (by simp; omega), ix_nat, hk]
  simp only [Option.bind_some]
  rw [w64_succ (by omega)]
  rw [show decide (((k + 1 : Nat) : Int) < (f.code.length : Int)) = decide (k + 1 < f.code.length) from dec_lt]
  show Ok (if fall f k x = true then _ else _) _
  have e : fst f k x = if fall f k x then [((k + 1 : Nat) : Int)] else [] := rfl
  refine .ite (fun hb => ?_) (fun hb => ?_)
  · rw [hb, if_pos rfl] at e
    rw [ap_some (by simp)]
    simp only [Option.bind_some, List.nil_append]
    rw [← e]; exact key
  · rw [hb] at e
    rw [show ([] : List Int) = fst f k x from e.symm]; exact key
theorem Next_out (f : TFunc) (i : Int) (h : i < 0 ∨ (f.code.length : Int) ≤ i) : flow_Next f i = some [] := by
  unfold flow_Next; rw [if_pos (by simpa using h)]
noncomputable def nx (f : TFunc) (k : Nat) : List Int := (flow_Next f k).getD []
section
variable {f : TFunc} {k : Nat} {x : TIns}
theorem Next_is (h : f.code.length ≤ 1000) (hk : f.code[k]? = some x) : flow_Next f k = some (nx f k) := by
  obtain ⟨r, hr, _⟩ := Next_ok f h k x hk
  unfold nx; rw [hr]; rfl
theorem nx_spec (h : f.code.length ≤ 1000) (hk : f.code[k]? = some x) : NxS f k x (nx f k) := (Next_ok f h k x hk).eq (Next_is h hk)
end
theorem Next_at (f : TFunc) (h : f.code.length ≤ 1000) (k : Nat) (hk : k < f.code.length) : flow_Next f k = some (nx f k) := Next_is h (List.getElem?_eq_getElem hk)
theorem nx_at (f : TFunc) (h : f.code.length ≤ 1000) (k : Nat) (hk : k < f.code.length) : (nx f k).length ≤ 2 ∧ ∀ j ∈ nx f k, 0 ≤ j ∧ j < f.code.length :=
  let s := nx_spec h (List.getElem?_eq_getElem hk); ⟨s.1, s.2.1⟩

/-! What an instruction reads and writes -/
def us (x : TIns) (r : Int) : Prop := x.a = r ∨ x.b = r ∨ r ∈ x.args
theorem Uses_ok (x : TIns) (ha : x.args.length ≤ 1000) : Ok (ir_Uses x) (fun l => l.length ≤ 1002 ∧ ∀ r, r ∈ l ↔ 0 ≤ r ∧ us x r) := by
  unfold ir_Uses
  rw [ap_some (by simp; omega)]
  simp only [Option.bind_some]
  unfold ir_Uses_l1
  refine loop_for ([x.a, x.b] ++ x.args) (fun k s => s.2 = (k : Int) ∧ s.1.length ≤ k ∧ ∀ r, r ∈ s.1 ↔ 0 ≤ r ∧ r ∈ ([x.a, x.b] ++ x.args).take k) (fun k y s hk' hk hs => ?_) (fun s hs => ?_) (by simp)
  · obtain ⟨xs, i⟩ := s
    obtain ⟨rfl, hl, hs⟩ := hs
    show Ok (ir_Uses_l1b _ xs k) _
    unfold ir_Uses_l1b ir_Uses_k1
    have hk2 : ([x.a, x.b] ++ x.args).length ≤ 1002 := by simp; omega
    rw [if_pos (by simp at *; omega), ix_nat, hk]
    simp only [Option.bind_some]
    rw [List.getElem?_eq_getElem hk'] at hk
    have hy := Option.some.inj hk
    have hl' : xs.length ≤ k := hl
    refine .ite (fun hb => ?_) (fun hb => .ret ⟨w64_succ (by omega), Nat.le_succ_of_le hl, fun r => ?_⟩)
    · rw [ap_some (by simp; omega)]
      refine .ret ⟨w64_succ (by omega), by simp; omega, fun r => ?_⟩
      rw [mem_take_succ hk', hy]
      show r ∈ xs ++ [y] ↔ _
      rw [List.mem_append, hs r, List.mem_singleton]
      have : 0 ≤ y := by simpa using hb
      constructor
      · rintro (h | rfl)
        · exact ⟨h.1, .inl h.2⟩
        · exact ⟨this, .inr rfl⟩
      · rintro ⟨h1, h2 | h2⟩
        · exact .inl ⟨h1, h2⟩
        · exact .inr h2
    · rw [mem_take_succ hk', hy]
      show r ∈ xs ↔ _
      rw [hs r]
      have : y < 0 := by simpa using hb
      constructor
      · rintro h; exact ⟨h.1, .inl h.2⟩
      · rintro ⟨h1, h2 | h2⟩
        · exact ⟨h1, h2⟩
        · omega
  · obtain ⟨xs, i⟩ := s
    obtain ⟨rfl, hl, hs⟩ := hs
    show Ok (ir_Uses_l1b _ xs _) _
    unfold ir_Uses_l1b
    rw [if_neg (by simp)]
    rw [List.take_length] at hs
    refine .map (.ret ⟨by simp at hl; omega, fun r => ?_⟩)
    rw [hs r]
    unfold us
    simp only [List.cons_append, List.nil_append, List.mem_cons]
    constructor
    · rintro ⟨h1, h2 | h2 | h2⟩
      · exact ⟨h1, .inl h2.symm⟩
      · exact ⟨h1, .inr (.inl h2.symm)⟩
      · exact ⟨h1, .inr (.inr h2)⟩
    · rintro ⟨h1, h2 | h2 | h2⟩
      · exact ⟨h1, .inl h2.symm⟩
      · exact ⟨h1, .inr (.inl h2.symm)⟩
      · exact ⟨h1, .inr (.inr h2)⟩

/-! Sets -/
theorem merge_is (R : Nat) (hR : R ≤ 1000) (g h : Nat → Bool) : Ok (flow_set_merge (tb R g) (tb R h)) (fun r => r.2 = tb R (fun k => g k || h k) ∧ (r.1 = true ↔ ∃ k, k < R ∧ h k = true ∧ g k = false)) := by
  unfold flow_set_merge flow_set_merge_l1
  refine loop_for (tb R h) (fun k s => s.2.2 = (k : Int) ∧ s.1 = tb R (fun j => if j < k then g j || h j else g j) ∧ (s.2.1 = true ↔ ∃ j, j < k ∧ h j = true ∧ g j = false)) (fun k y s hk' hk hs => ?_) (fun s hs => ?_) (by simp)
  · obtain ⟨xs, b, i⟩ := s
    obtain ⟨h1, h2, h3⟩ := hs
    simp only at h1 h2 h3
    subst h1 h2
    rw [tb_len] at hk'
    show Ok (flow_set_merge_l1b _ _ b k) _
    unfold flow_set_merge_l1b
    rw [if_pos (by simp; omega), ix_tb hk', ix_tb hk']
    simp only [Option.bind_some, Nat.lt_irrefl, if_false, Int.toNat_natCast]
    refine Ok.bind (P := fun b' => b' = true ↔ ∃ j, j < k + 1 ∧ h j = true ∧ g j = false) ?_ (fun b' hb' => .ret ⟨w64_succ (by omega), ?_, hb'⟩)
    · refine .ite (fun hb => .ret ?_) (fun hb => ?_)
      · obtain ⟨j, h4, h5⟩ := h3.1 hb
        exact ⟨fun _ => ⟨j, by omega, h5⟩, fun _ => rfl⟩
      · have hno : ¬ ∃ j, j < k ∧ h j = true ∧ g j = false := fun hex => by rw [h3.2 hex] at hb; cases hb
        refine Ok.bind (P := fun c => c = true ↔ h k = true ∧ g k = false) (.ite (fun hh => .ret ?_) (fun hh => .ret ?_)) (fun c hc => .ret ?_)
        · rw [hh]; simp
        · rw [hh]; simp
        · constructor
          · intro hct; exact ⟨k, by omega, hc.1 hct⟩
          · rintro ⟨j, h4, h5⟩
            by_cases hjk : j = k
            · subst hjk; exact hc.2 h5
            · exact (hno ⟨j, by omega, h5⟩).elim
    · show (tb R _).set k _ = _
      rw [tb_set]
      apply tb_ext
      intro j hj
      by_cases hjk : j = k
      · subst hjk; simp
      · simp only [hjk, if_false]
        by_cases h4 : j < k
        · rw [if_pos h4, if_pos (by omega)]
        · rw [if_neg h4, if_neg (by omega)]
  · obtain ⟨xs, b, i⟩ := s
    obtain ⟨h1, h2, h3⟩ := hs
    simp only at h1 h2 h3
    rw [tb_len] at h1 h2 h3
    subst h1 h2
    show Ok (flow_set_merge_l1b _ _ b _) _
    unfold flow_set_merge_l1b
    rw [if_neg (by simp)]
    exact .map (.ret ⟨tb_ext (fun j hj => by rw [if_pos hj]), h3⟩)

open Classical in
/-- What is live ahead of x when g is live behind it. -/
noncomputable def stp (x : TIns) (g : Nat → Bool) (r : Nat) : Bool := decide (us x r) || (g r && decide (x.d ≠ (r : Int)))
theorem step_is (x : TIns) (ha : x.args.length ≤ 1000) (R : Nat) (hR : R ≤ 1000) (g : Nat → Bool) : flow_step x (tb R g) = some (tb R (stp x g)) := by
  have key : ∀ (g' : Nat → Bool), (∀ r, r < R → g' r = (g r && decide (x.d ≠ (r : Int)))) → flow_step_k1 x (tb R g') = some (tb R (stp x g)) := by
    intro g' hg
    unfold flow_step_k1 flow_step_l1
    refine ((Uses_ok x ha).bind fun l hl => ?_).some_of
    classical
    refine loop_for l (fun k s => s.2 = (k : Int) ∧ s.1 = tb R (fun r => decide ((r : Int) ∈ l.take k) || g' r)) (fun k y s hk' hk hs => ?_) (fun s hs => ?_) ⟨rfl, tb_ext (by simp)⟩
    · obtain ⟨xs, i⟩ := s
      obtain ⟨h1, h2⟩ := hs
      simp only at h1 h2
      subst h1 h2
      show Ok (flow_step_l1b l _ k) _
      unfold flow_step_l1b flow_step_k2
      rw [if_pos (by simp; omega), ix_nat, hk]
      simp only [Option.bind_some]
      have hy0 : 0 ≤ y := ((hl.2 y).1 (List.mem_of_getElem? hk)).1
      obtain ⟨q, rfl⟩ := Int.eq_ofNat_of_zero_le hy0
      have hyk : l[k] = (q : Int) := by rw [List.getElem?_eq_getElem hk'] at hk; exact Option.some.inj hk
      have hll := hl.1
      refine .ite (fun hb => ?_) (fun hb => .ret ⟨w64_succ (by omega), ?_⟩)
      · have hq : q < R := by simp at hb; exact hb
        rw [ix_tb hq]
        simp only [Option.bind_some, Int.toNat_natCast]
        refine .ret ⟨w64_succ (by omega), ?_⟩
        show (tb R _).set q true = _
        rw [tb_set]
        apply tb_ext
        intro j hj
        by_cases hjq : j = q
        · subst hjq
          have : (j : Int) ∈ l.take (k + 1) := by rw [mem_take_succ hk', hyk]; exact .inr rfl
          simp [this]
        · have : (j : Int) ∈ l.take (k + 1) ↔ (j : Int) ∈ l.take k := by
            rw [mem_take_succ hk', hyk]
            constructor
            · rintro (h | h)
              · exact h
              · omega
            · exact .inl
          simp [this, hjq]
      · have hq : ¬ q < R := by simp at hb; omega
        show tb R _ = _
        apply tb_ext
        intro j hj
        have : (j : Int) ∈ l.take (k + 1) ↔ (j : Int) ∈ l.take k := by
          rw [mem_take_succ hk', hyk]
          constructor
          · rintro (h | h)
            · exact h
            · omega
          · exact .inl
        simp [this]
    · obtain ⟨xs, i⟩ := s
      obtain ⟨h1, h2⟩ := hs
      simp only at h1 h2
      subst h1 h2
      show Ok (flow_step_l1b l _ _) _
      unfold flow_step_l1b
      rw [if_neg (by simp), List.take_length]
      refine .map (.ret (tb_ext fun j hj => ?_))
      unfold stp
      rw [hg j hj]
      congr 1
      have := hl.2 (j : Int)
      simp only [decide_eq_decide]
      rw [this]
      constructor
      · exact fun h => h.2
      · exact fun h => ⟨by omega, h⟩
  unfold flow_step slices_Clone ir_Def
  rw [ap_some (by simp; omega)]
  simp only [Option.bind_some, List.nil_append, tb_len]
  by_cases hd : 0 ≤ x.d ∧ x.d < R
  · obtain ⟨q, hq⟩ := Int.eq_ofNat_of_zero_le hd.1
    rw [hq]
    have hqR : q < R := by omega
    rw [if_pos (by simp; exact hqR), ix_tb hqR]
    simp only [Option.bind_some, Int.toNat_natCast]
    rw [tb_set]
    apply key
    intro r hr
    rw [hq]
    by_cases hrq : r = q
    · subst hrq; simp
    · have : ¬ (q : Int) = (r : Int) := by omega
      simp [hrq, this]
  · rw [if_neg (by simpa using hd)]
    apply key
    intro r hr
    have : x.d ≠ (r : Int) := by omega
    simp [this]
end Go.Vm.G10s
