/-
  Walking along the flow.
-/
import Derived.Test.YtllkfanfdbnogaaEPS10g
set_option linter.unusedSimpArgs false
set_option linter.unusedVariables false
set_option linter.unusedSectionVars false
namespace Go.Vm.G10s
open Go

def cu (n : Nat) (V : Nat → Bool) : Nat := (List.range n).countP (fun j => !(V j))
theorem cu_set {n : Nat} {V : Nat → Bool} {q : Nat} (hq : q < n) (hv : V q = false) : cu n (fun j => if j = q then true else V j) < cu n V := by
  unfold cu
  apply countP_strict
  · intro j _ hj
    by_cases hjq : j = q
    · subst hjq; simp at hj
    · simpa [hjq] using hj
  · exact ⟨q, by simpa using hq, by simp [hv], by simp⟩
theorem cu_le {n : Nat} {V : Nat → Bool} : cu n V ≤ n := by
  unfold cu
  have := List.countP_le_length (p := fun j => !(V j)) (l := List.range n)
  simpa using this

/-- Reached from the start. -/
inductive Rc (f : TFunc) : Nat → Prop
  | zero : Rc f 0
  | go (k j : Nat) (hk : k < f.code.length) (hj : (j : Int) ∈ nx f k) (h : Rc f k) : Rc f j

/-- A walk's state. -/
structure Wk (f : TFunc) (start : Nat) (V : Nat → Bool) (Q : List Int) : Prop where
  inr : ∀ q ∈ Q, 0 ≤ q ∧ q < f.code.length
  len : Q.length + 2 * cu f.code.length V ≤ 2 * f.code.length + 1
  beg : V start = true ∨ (start : Int) ∈ Q

section
variable {f : TFunc} {st : Nat} {V : Nat → Bool} {q : Nat} {Q : List Int}
theorem Wk.skip (w : Wk f st V ((q : Int) :: Q)) (hv : V q = true) : Wk f st V Q := by
  refine ⟨fun j hj => w.inr j (List.mem_cons_of_mem _ hj), by have := w.len; simp at this; omega, ?_⟩
  rcases w.beg with h | h
  · exact .inl h
  · rcases List.mem_cons.1 h with h | h
    · exact .inl (by rw [show st = q from by omega]; exact hv)
    · exact .inr h
theorem Wk.visit (h : f.code.length ≤ 1000) (w : Wk f st V ((q : Int) :: Q)) (hv : V q = false) : Wk f st (fun j => if j = q then true else V j) (Q ++ nx f q) := by
  have hq := w.inr q (by simp)
  have hn := nx_at f h q (by omega)
  have hc := cu_set (n := f.code.length) (q := q) (by omega) hv
  have hl := w.len
  refine ⟨fun j hj => ?_, by simp only [List.length_cons, List.length_append] at hl ⊢; omega, ?_⟩
  · rcases List.mem_append.1 hj with hj | hj
    · exact w.inr j (List.mem_cons_of_mem _ hj)
    · exact hn.2 j hj
  · by_cases hs : st = q
    · exact .inl (by simp [hs])
    · rcases w.beg with h | h
      · exact .inl (by simp [hs, h])
      · rcases List.mem_cons.1 h with h | h
        · omega
        · exact .inr (List.mem_append_left _ h)
theorem Wk.stop (w : Wk f st V ((q : Int) :: Q)) (hv : V q = false) : Wk f st (fun j => if j = q then true else V j) Q := by
  have hq := w.inr q (by simp)
  have hc := cu_set (n := f.code.length) (q := q) (by omega) hv
  have hl := w.len
  refine ⟨fun j hj => w.inr j (List.mem_cons_of_mem _ hj), by simp only [List.length_cons] at hl ⊢; omega, ?_⟩
  by_cases hs : st = q
  · exact .inl (by simp [hs])
  · rcases w.beg with h | h
    · exact .inl (by simp [hs, h])
    · rcases List.mem_cons.1 h with h | h
      · omega
      · exact .inr h
end
def mu (f : TFunc) (s : List Bool × List Int) : Nat := 3 * cu f.code.length (fun j => s.1.getD j false) + s.2.length
theorem mu_eq (f : TFunc) (V : Nat → Bool) (Q : List Int) : mu f (tb f.code.length V, Q) = 3 * cu f.code.length V + Q.length := by
  unfold mu cu
  congr 2
  rw [List.countP_eq_length_filter, List.countP_eq_length_filter]
  congr 1
  apply List.filter_congr
  intro j hj
  show (!((tb f.code.length V).getD j false)) = _
  rw [tb_getD (by simpa using hj)]

open Classical in
theorem Needed_is {f : TFunc} (hg : Good f) (h : f.code.length ≤ 1000) (hargs : ∀ x ∈ f.code, x.args.length ≤ 1000) (r : Int) (i : Nat) (hi : i < f.code.length) : Ok (ref10_Needed f r i) (fun b => b = true ↔ Nd f r i) := by
  unfold ref10_Needed
  rw [mk_tb (by omega)]
  simp only [Option.bind_some]
  unfold ref10_Needed_l1
  refine Ok.loopM (B := fun s => ref10_Needed_l1b f r s.1 s.2) (fun s => ∃ V, s.1 = tb f.code.length V ∧ Wk f i V s.2 ∧ (∀ q : Nat, (q : Int) ∈ s.2 → Nd f r q → Nd f r i) ∧
    (∀ v x, f.code[v]? = some x → V v = true → (Nd f r v → Nd f r i) ∧ ¬ us x r ∧ (x.d ≠ r → ∀ j : Nat, (j : Int) ∈ nx f v → V j = true ∨ (j : Int) ∈ s.2))) (mu f) (fun s hs => ?_) ⟨fun _ => false, rfl, ⟨by simp; omega, by have := cu_le (n := f.code.length) (V := fun _ => false); simp; omega, by simp⟩, by simp; rintro q hq hn; rwa [show i = q from by omega], by simp⟩
  obtain ⟨xs, Q⟩ := s
  obtain ⟨V, h1, w, h3, h4⟩ := hs
  simp only at h1 w h3 h4
  subst h1
  show Ok (ref10_Needed_l1b f r _ Q) _
  unfold ref10_Needed_l1b
  cases Q with
  | nil =>
    rw [if_neg (by simp)]
    refine .map (.ret ⟨fun h => (by cases h), fun hn => ?_⟩)
    have hV : V i = true := by rcases w.beg with h | h; exact h; cases h
    have key : ∀ k, Nd f r k → V k = true → False := by
      intro k hn
      induction hn with
      | use k x hk hu => intro hv; exact (h4 k x hk hv).2.1 hu
      | go k x j hk hd hj _ ih =>
        intro hv
        rcases (h4 k x hk hv).2.2 hd j hj with h | h
        · exact ih h
        · cases h
    exact (key i hn hV).elim
  | cons q0 Q =>
    have hq := w.inr q0 (by simp)
    obtain ⟨q, rfl⟩ := Int.eq_ofNat_of_zero_le hq.1
    have hqn : q < f.code.length := by omega
    rw [if_pos (by simp <;> omega), show ix ((q : Int) :: Q) 0 = some (q : Int) from rfl]
    simp only [Option.bind_some]
    rw [cutL_tail]
    simp only [Option.bind_some]
    rw [ix_tb hqn]
    simp only [Option.bind_some]
    refine .ite (fun hv => ?_) (fun hv => ?_)
    · refine .ret ⟨⟨V, rfl, w.skip hv, fun p hp => h3 p (List.mem_cons_of_mem _ hp), fun v x hx hvv => ⟨(h4 v x hx hvv).1, (h4 v x hx hvv).2.1, fun hd j hj => ?_⟩⟩, ?_⟩
      · rcases (h4 v x hx hvv).2.2 hd j hj with h | h
        · exact .inl h
        · rcases List.mem_cons.1 h with h | h
          · exact .inl (by rw [show j = q from by omega]; exact hv)
          · exact .inr h
      · rw [mu_eq, mu_eq]; simp
    · rw [ix_some hqn]
      simp only [Option.bind_some]
      have hx : f.code[q]? = some f.code[q] := List.getElem?_eq_getElem hqn
      rw [reads_is _ r (hargs _ (List.getElem_mem hqn))]
      simp only [Option.bind_some]
      refine .ite (fun hr => .map (.ret ⟨fun _ => h3 q (by simp) (.use q _ hx (by simpa using hr)), fun _ => rfl⟩)) (fun hr => ?_)
      have hr' : ¬ us f.code[q] r := by simpa using hr
      rw [Int.toNat_natCast, tb_set]
      have hcu := cu_set (n := f.code.length) hqn hv
      refine .ite (fun hd => ?_) (fun hd => ?_)
      · have hd' : f.code[q].d ≠ r := by simpa using hd
        rw [RNext_is hg h q hqn]
        simp only [Option.bind_some]
        have hn := nx_at f h q hqn
        have hl := w.len
        rw [ap_some (by simp at hl; omega)]
        refine .ret ⟨⟨_, rfl, w.visit h hv, fun p hp hnp => ?_, fun v x hx2 hvv => ?_⟩, ?_⟩
        · rcases List.mem_append.1 hp with hp | hp
          · exact h3 p (List.mem_cons_of_mem _ hp) hnp
          · exact h3 q (by simp) (.go q _ p hx hd' hp hnp)
        · by_cases hvq : v = q
          · subst hvq
            rw [hx] at hx2; have hxe := Option.some.inj hx2
            exact ⟨h3 v (by simp), by rw [← hxe]; exact hr', fun _ j hj => .inr (List.mem_append_right _ hj)⟩
          · have hvv' : V v = true := by simpa [hvq] using hvv
            refine ⟨(h4 v x hx2 hvv').1, (h4 v x hx2 hvv').2.1, fun hd j hj => ?_⟩
            rcases (h4 v x hx2 hvv').2.2 hd j hj with h | h
            · exact .inl (by by_cases hjq : j = q <;> simp [hjq, h])
            · rcases List.mem_cons.1 h with h | h
              · exact .inl (by simp [show j = q from by omega])
              · exact .inr (List.mem_append_left _ h)
        · rw [mu_eq, mu_eq]; simp only [List.length_cons, List.length_append]; omega
      · have hd' : f.code[q].d = r := by simpa using hd
        refine .ret ⟨⟨_, rfl, w.stop hv, fun p hp => h3 p (List.mem_cons_of_mem _ hp), fun v x hx2 hvv => ?_⟩, ?_⟩
        · by_cases hvq : v = q
          · subst hvq
            rw [hx] at hx2; have hxe := Option.some.inj hx2
            exact ⟨h3 v (by simp), by rw [← hxe]; exact hr', fun hd => (hd (by rw [← hxe]; exact hd')).elim⟩
          · have hvv' : V v = true := by simpa [hvq] using hvv
            refine ⟨(h4 v x hx2 hvv').1, (h4 v x hx2 hvv').2.1, fun hd j hj => ?_⟩
            rcases (h4 v x hx2 hvv').2.2 hd j hj with h | h
            · exact .inl (by by_cases hjq : j = q <;> simp [hjq, h])
            · rcases List.mem_cons.1 h with h | h
              · exact .inl (by simp [show j = q from by omega])
              · exact .inr h
        · rw [mu_eq, mu_eq]; simp only [List.length_cons, List.length_append]; omega

theorem rc_in {f : TFunc} (h : f.code.length ≤ 1000) (h0 : 0 < f.code.length) {k : Nat} (hr : Rc f k) : k < f.code.length := by
  cases hr with
  | zero => exact h0
  | go k j hk hj _ => have := (nx_at f h k hk).2 _ hj; omega
/-- What a walk from the start has seen: all of it is reached; and nothing is left out. -/
structure Seen (f : TFunc) (V : Nat → Bool) (Q : List Int) : Prop where
  wk : Wk f 0 V Q
  rq : ∀ q : Nat, (q : Int) ∈ Q → Rc f q
  rv : ∀ v, v < f.code.length → V v = true → Rc f v ∧ ∀ j : Nat, (j : Int) ∈ nx f v → V j = true ∨ (j : Int) ∈ Q
section
variable {f : TFunc} {V : Nat → Bool} {q : Nat} {Q : List Int}
theorem Seen.start (h0 : 0 < f.code.length) : Seen f (fun _ => false) [0] := by
  refine ⟨⟨by simp; omega, by have := cu_le (n := f.code.length) (V := fun _ => false); simp; omega, by simp⟩, fun q hq => ?_, fun v _ hv => by cases hv⟩
  rw [show q = 0 from by simpa using hq]; exact .zero
theorem Seen.skip (w : Seen f V ((q : Int) :: Q)) (hv : V q = true) : Seen f V Q := by
  refine ⟨w.wk.skip hv, fun p hp => w.rq p (List.mem_cons_of_mem _ hp), fun v hvn hvv => ⟨(w.rv v hvn hvv).1, fun j hj => ?_⟩⟩
  rcases (w.rv v hvn hvv).2 j hj with h | h
  · exact .inl h
  · rcases List.mem_cons.1 h with h | h
    · exact .inl (by rw [show j = q from by omega]; exact hv)
    · exact .inr h
theorem Seen.visit (h : f.code.length ≤ 1000) (w : Seen f V ((q : Int) :: Q)) (hv : V q = false) : Seen f (fun j => if j = q then true else V j) (Q ++ nx f q) := by
  have hq := w.wk.inr q (by simp)
  refine ⟨w.wk.visit h hv, fun p hp => ?_, fun v hvn hvv => ?_⟩
  · rcases List.mem_append.1 hp with hp | hp
    · exact w.rq p (List.mem_cons_of_mem _ hp)
    · exact .go q p (by omega) hp (w.rq q (by simp))
  · by_cases hvq : v = q
    · subst hvq
      exact ⟨w.rq v (by simp), fun j hj => .inr (List.mem_append_right _ hj)⟩
    · have hvv' : V v = true := by simpa [hvq] using hvv
      refine ⟨(w.rv v hvn hvv').1, fun j hj => ?_⟩
      rcases (w.rv v hvn hvv').2 j hj with h | h
      · exact .inl (by by_cases hjq : j = q <;> simp [hjq, h])
      · rcases List.mem_cons.1 h with h | h
        · exact .inl (by simp [show j = q from by omega])
        · exact .inr (List.mem_append_left _ h)
theorem Seen.all (h : f.code.length ≤ 1000) (w : Seen f V []) (h0 : 0 < f.code.length) {k : Nat} (hr : Rc f k) : V k = true := by
  induction hr with
  | zero => rcases w.wk.beg with h | h; exact h; cases h
  | go k j hk hj _ ih =>
    rcases (w.rv k hk ih).2 j hj with h | h
    · exact h
    · cases h
end
theorem alive_is : law10_alive = some true := by
  unfold law10_alive
  let f : TFunc := ⟨ByteArray.empty, 0, 1, [(⟨1, 0, (-1), (-1), 0, [], 0, false, false⟩ : TIns), (⟨15, (-1), 0, (-1), 0, [], 0, false, false⟩ : TIns)]⟩
  have hl : f.code.length ≤ 1000 := by decide
  obtain ⟨L, hL, G, rfl, hG⟩ := Live_is f 1 hl (by decide) rfl (by intro x hx; simp [f] at hx; rcases hx with rfl | rfl <;> simp)
  have h1 : G 1 0 = true := (hG 1 0 (by decide) (by decide)).2 (.use 1 ⟨15, (-1), 0, (-1), 0, [], 0, false, false⟩ rfl (.inl rfl))
  have h0 : G 0 0 = false := by
    cases hc : G 0 0 with
    | false => rfl
    | true =>
      cases (hG 0 0 (by decide) (by decide)).1 hc with
      | use k x hk hu =>
        have : x = ⟨1, 0, (-1), (-1), 0, [], 0, false, false⟩ := by
          have e : f.code[0]? = some ⟨1, 0, (-1), (-1), 0, [], 0, false, false⟩ := rfl
          rw [e] at hk; exact (Option.some.inj hk).symm
        rw [this] at hu
        rcases hu with hu | hu | hu
        · cases hu
        · cases hu
        · cases hu
      | go k x j hk hd hj h =>
        have : x = ⟨1, 0, (-1), (-1), 0, [], 0, false, false⟩ := by
          have e : f.code[0]? = some ⟨1, 0, (-1), (-1), 0, [], 0, false, false⟩ := rfl
          rw [e] at hk; exact (Option.some.inj hk).symm
        rw [this] at hd
        exact (hd rfl).elim
  show (flow_Live f).bind _ = _
  rw [hL]
  simp only [Option.bind_some]
  have e : tt f.code.length 1 G = [[G 0 0], [G 1 0]] := rfl
  rw [e, h0, h1]
  rfl
end Go.Vm.G10s
