/-
  What is live: the least table that the flow allows.
-/
import Derived.Test.YtllkfanfdbnogaaEPS10x
set_option linter.unusedSimpArgs false
set_option linter.unusedVariables false
set_option linter.unusedSectionVars false
namespace Go.Vm.G10s
open Go

/-- Register r is read from the k-th instruction on before it is written. -/
inductive Nd (f : TFunc) (r : Int) : Nat → Prop
  | use (k : Nat) (x : TIns) (hk : f.code[k]? = some x) (hu : us x r) : Nd f r k
  | go (k : Nat) (x : TIns) (j : Nat) (hk : f.code[k]? = some x) (hd : x.d ≠ r) (hj : (j : Int) ∈ nx f k) (h : Nd f r j) : Nd f r k

abbrev tt (n R : Nat) (G : Nat → Nat → Bool) : List (List Bool) := tb n (fun i => tb R (G i))
section
variable (f : TFunc) (R : Nat)
/-- What the k-th instruction's table should hold, by the table G. -/
noncomputable def outOf (G : Nat → Nat → Bool) (k : Nat) (r : Nat) : Bool := (nx f k).any (fun j => G j.toNat r)
noncomputable def newOf (G : Nat → Nat → Bool) (k : Nat) (x : TIns) : Nat → Bool := stp x (outOf f G k)
def Sound (G : Nat → Nat → Bool) : Prop := ∀ i r, i < f.code.length → r < R → G i r = true → Nd f r i
def ClosedAt (G : Nat → Nat → Bool) (i : Nat) : Prop := ∀ x r, f.code[i]? = some x → r < R → newOf f G i x r = true → G i r = true


/-- One step of a sweep: the union over what comes behind, then the step, then the merge. -/
theorem l4_is (h : f.code.length ≤ 1000) (hR : R ≤ 1000) (hreg : max f.regs 0 = (R : Int)) (hargs : ∀ x ∈ f.code, x.args.length ≤ 1000) (G : Nat → Nat → Bool) (ch : Bool) (k : Nat) (x : TIns) (hk : f.code[k]? = some x) :
    Ok (flow_Live_l4 f (tb f.code.length (nx f)) (tt f.code.length R G) ch k (nx f k) (tb R (fun _ => false)) 0) (fun r => ∃ (b : Bool) (G2 : Nat → Nat → Bool), r = .inl (tt f.code.length R G2, (ch || b), (k : Int) - 1) ∧ (∀ r, G2 k r = (G k r || newOf f G k x r)) ∧ (∀ i, i ≠ k → G2 i = G i) ∧ (b = true ↔ ∃ r, r < R ∧ newOf f G k x r = true ∧ G k r = false)) := by
  have hk' := (List.getElem?_eq_some_iff.1 hk).1
  have hnx := nx_at f h k hk'
  unfold flow_Live_l4
  refine loop_for (nx f k) (fun m s => s.2 = (m : Int) ∧ s.1 = tb R (fun r => ((nx f k).take m).any (fun j => G j.toNat r))) (fun m y s hm' hm hs => ?_) (fun s hs => ?_) ⟨rfl, tb_ext (by simp)⟩
  · obtain ⟨xs, i⟩ := s
    obtain ⟨h1, h2⟩ := hs
    simp only at h1 h2
    subst h1 h2
    show Ok (flow_Live_l4b _ _ _ _ _ _ _ m) _
    unfold flow_Live_l4b
    rw [if_pos (by simp; omega), ix_tb hk']
    simp only [Option.bind_some, ix_nat, hm]
    have hy := hnx.2 y (List.mem_of_getElem? hm)
    obtain ⟨q, rfl⟩ := Int.eq_ofNat_of_zero_le hy.1
    have hq : q < f.code.length := by omega
    rw [ix_tb hq]
    simp only [Option.bind_some]
    refine (merge_is R hR _ _).bind fun r hr => .ret ⟨w64_succ (by omega), ?_⟩
    show r.2 = _
    rw [hr.1]
    apply tb_ext
    intro j hj
    rw [List.take_add_one, hm, Option.toList_some, List.any_append]
    simp
  · obtain ⟨xs, i⟩ := s
    obtain ⟨h1, h2⟩ := hs
    simp only at h1 h2
    subst h1 h2
    show Ok (flow_Live_l4b _ _ _ _ _ _ _ _) _
    unfold flow_Live_l4b
    rw [if_neg (by simp), ix_tb hk', ix_nat, hk]
    simp only [Option.bind_some, List.take_length]
    rw [step_is x (hargs x (List.mem_of_getElem? hk)) R hR]
    simp only [Option.bind_some]
    refine .map ((merge_is R hR _ _).bind fun r hr => ?_)
    unfold flow_Live_k1
    have hw : w64 ((k : Int) - 1) = (k : Int) - 1 := w64_id (by omega) (by omega)
    have hset : (tt f.code.length R G).set (Int.toNat k) r.2 = tt f.code.length R (fun i => if i = k then (fun r => G k r || newOf f G k x r) else G i) := by
      rw [hr.1, Int.toNat_natCast, tb_set]
      apply tb_ext
      intro i hi
      by_cases hik : i = k
      · subst hik; simp only [if_true]; rfl
      · simp only [hik, if_false]
    rw [hset, hw]
    refine .ite (fun hb => .ret ⟨true, (fun i => if i = k then (fun r => G k r || newOf f G k x r) else G i), by simp, fun r => by simp, fun i hi => by simp [hi], ⟨fun _ => hr.2.1 hb, fun _ => rfl⟩⟩) (fun hb => .ret ⟨false, (fun i => if i = k then (fun r => G k r || newOf f G k x r) else G i), by simp, fun r => by simp, fun i hi => by simp [hi], ⟨fun h => (by cases h), fun hex => ?_⟩⟩)
    have := hr.2.2 hex
    rw [hb] at this; exact this

/-- A sweep. -/
theorem l3_is (h : f.code.length ≤ 1000) (hR : R ≤ 1000) (hreg : max f.regs 0 = (R : Int)) (hargs : ∀ x ∈ f.code, x.args.length ≤ 1000) (G : Nat → Nat → Bool) (hG : Sound f R G) :
    Ok (flow_Live_l3 f (tb f.code.length (nx f)) (tt f.code.length R G) false (w64 ((f.code.length : Int) - 1))) (fun r => ∃ G' b, r = .inl (tt f.code.length R G', b) ∧ Sound f R G' ∧ (∀ i r, G i r = true → G' i r = true) ∧
      (b = false → ∀ i, i < f.code.length → ClosedAt f R G' i) ∧ (b = true → ∃ i r, i < f.code.length ∧ r < R ∧ G' i r = true ∧ G i r = false)) := by
  unfold flow_Live_l3
  rw [w64_id (by omega) (by omega)]
  refine Ok.loop (B := fun s => flow_Live_l3b f (tb f.code.length (nx f)) s.1 s.2.1 s.2.2) (fun m s => s.2.2 = (f.code.length : Int) - 1 - m ∧ ∃ G', s.1 = tt f.code.length R G' ∧ Sound f R G' ∧ (∀ i r, G i r = true → G' i r = true) ∧
      (s.2.1 = false → (∀ i r, i < f.code.length → r < R → G' i r = G i r) ∧ ∀ i, i < f.code.length → f.code.length ≤ i + m → ClosedAt f R G' i) ∧ (s.2.1 = true → ∃ i r, i < f.code.length ∧ r < R ∧ G' i r = true ∧ G i r = false))
    f.code.length (fun m s hm hs => ?_) (fun s hs => ?_) ⟨by simp, G, rfl, hG, fun _ _ h => h, fun _ => ⟨fun _ _ _ _ => rfl, fun i h1 h2 => by omega⟩, fun h => by cases h⟩
  · obtain ⟨xs, ch, i⟩ := s
    obtain ⟨h1, G', h2, h3, h4, h5, h6⟩ := hs
    simp only at h1 h2 h5 h6
    have hi : i = ((f.code.length - 1 - m : Nat) : Int) := by omega
    subst hi h2
    generalize hk : f.code.length - 1 - m = k at *
    have hk' : k < f.code.length := by omega
    show Ok (flow_Live_l3b f _ _ ch k) _
    unfold flow_Live_l3b
    rw [if_pos (by simp), hreg, mk_tb (by omega)]
    simp only [Option.bind_some]
    rw [ix_tb hk']
    simp only [Option.bind_some]
    refine (l4_is f R h hR hreg hargs G' ch k f.code[k] (List.getElem?_eq_getElem hk')).mono fun r hr => ?_
    obtain ⟨b, G2, rfl, e1, e2, hb⟩ := hr
    have hx : f.code[k]? = some f.code[k] := List.getElem?_eq_getElem hk'
    have hnew : ∀ r : Nat, r < R → newOf f G' k f.code[k] r = true → Nd f r k := by
      intro r hr hn
      unfold newOf stp at hn
      rw [Bool.or_eq_true, Bool.and_eq_true] at hn
      rcases hn with hn | ⟨hn, hd⟩
      · exact .use k _ hx (by simpa using hn)
      · unfold outOf at hn
        rw [List.any_eq_true] at hn
        obtain ⟨j, hj, hg⟩ := hn
        have hj2 := (nx_at f h k hk').2 j hj
        obtain ⟨q, rfl⟩ := Int.eq_ofNat_of_zero_le hj2.1
        exact .go k _ q hx (by simpa using hd) hj (h3 q r (by omega) hr hg)
    refine ⟨by simp; omega, _, rfl, ?_, ?_, ?_, ?_⟩
    · intro i r hi hr hg
      by_cases hik : i = k
      · subst hik
        rw [e1, Bool.or_eq_true] at hg
        rcases hg with hg | hg
        · exact h3 i r hi hr hg
        · exact hnew r hr hg
      · rw [e2 i hik] at hg
        exact h3 i r hi hr hg
    · intro i r hg
      have := h4 i r hg
      by_cases hik : i = k
      · subst hik; rw [e1, this]; rfl
      · rw [e2 i hik]; exact this
    · intro hcb
      have hcb' : ch = false ∧ b = false := by simpa using hcb
      obtain ⟨hc, hbf⟩ := hcb'
      obtain ⟨h7, h8⟩ := h5 hc
      have hno : ¬ ∃ r, r < R ∧ newOf f G' k f.code[k] r = true ∧ G' k r = false := fun hex => by rw [hb.2 hex] at hbf; cases hbf
      have same : ∀ i r, i < f.code.length → r < R → G2 i r = G' i r := by
        intro i r hi hr
        by_cases hik : i = k
        · subst hik
          rw [e1]
          cases hg : G' i r with
          | true => rfl
          | false =>
            cases hn : newOf f G' i f.code[i] r with
            | false => rfl
            | true => exact (hno ⟨r, hr, hn, hg⟩).elim
        · rw [e2 i hik]
      have newsame : ∀ i x r, i < f.code.length → r < R → newOf f G2 i x r = newOf f G' i x r := by
        intro i x r hi hr
        unfold newOf stp outOf
        congr 2
        rw [Bool.eq_iff_iff, List.any_eq_true, List.any_eq_true]
        constructor
        · rintro ⟨j, hj, hg⟩
          have hj2 := (nx_at f h i hi).2 j hj
          rw [same j.toNat r (by omega) hr] at hg
          exact ⟨j, hj, hg⟩
        · rintro ⟨j, hj, hg⟩
          have hj2 := (nx_at f h i hi).2 j hj
          refine ⟨j, hj, ?_⟩
          rw [same j.toNat r (by omega) hr]
          exact hg
      refine ⟨fun i r hi hr => by rw [same i r hi hr]; exact h7 i r hi hr, fun i hi him => ?_⟩
      intro x r hxx hr hn
      rw [newsame i x r hi hr] at hn
      rw [same i r hi hr]
      by_cases hik : i = k
      · subst hik
        cases hg : G' i r with
        | true => rfl
        | false =>
          rw [List.getElem?_eq_getElem hk'] at hxx
          have hxe := Option.some.inj hxx
          rw [← hxe] at hn
          exact (hno ⟨r, hr, hn, hg⟩).elim
      · exact h8 i hi (by omega) x r hxx hr hn
    · intro hcb
      have hcb' : ch = true ∨ b = true := by simpa using hcb
      rcases hcb' with hc | hbt
      · obtain ⟨i, r, hi, hr, hg, hg0⟩ := h6 hc
        refine ⟨i, r, hi, hr, ?_, hg0⟩
        by_cases hik : i = k
        · subst hik; rw [e1, hg]; rfl
        · rw [e2 i hik]; exact hg
      · obtain ⟨r, hr, hn, hg⟩ := hb.1 hbt
        refine ⟨k, r, hk', hr, by rw [e1, hn, Bool.or_true], ?_⟩
        cases hg0 : G k r with
        | false => rfl
        | true => rw [h4 k r hg0] at hg; cases hg
  · obtain ⟨xs, ch, i⟩ := s
    obtain ⟨h1, G', h2, h3, h4, h5, h6⟩ := hs
    simp only at h1 h2 h5 h6
    subst h2
    show Ok (flow_Live_l3b f _ _ ch i) _
    unfold flow_Live_l3b
    rw [if_neg (by simp; omega)]
    exact .map (.ret ⟨G', ch, rfl, h3, h4, fun hc i hi => (h5 hc).2 i hi (by omega), h6⟩)

end
def pairs (n R : Nat) : List (Nat × Nat) := (List.range n).flatMap (fun i => (List.range R).map (fun r => (i, r)))
theorem mem_pairs {n R i r : Nat} : (i, r) ∈ pairs n R ↔ i < n ∧ r < R := by
  simp [pairs]
def gaps (n R : Nat) (L : List (List Bool)) : Nat := (pairs n R).countP (fun p => !((L.getD p.1 []).getD p.2 false))
theorem gaps_lt {n R : Nat} {G G' : Nat → Nat → Bool} (h1 : ∀ i r, G i r = true → G' i r = true) (h2 : ∃ i r, i < n ∧ r < R ∧ G' i r = true ∧ G i r = false) : gaps n R (tt n R G') < gaps n R (tt n R G) := by
  have e : ∀ (G : Nat → Nat → Bool) i r, i < n → r < R → ((tt n R G).getD i []).getD r false = G i r := fun G i r hi hr => by rw [tb_getD hi, tb_getD hr]
  unfold gaps
  apply countP_strict
  · rintro ⟨i, r⟩ hx hp
    have := mem_pairs.1 hx
    simp only [e _ i r this.1 this.2] at hp ⊢
    cases hg : G i r with
    | false => rfl
    | true => rw [h1 i r hg] at hp; exact hp
  · obtain ⟨i, r, hi, hr, hg, hg0⟩ := h2
    refine ⟨(i, r), mem_pairs.2 ⟨hi, hr⟩, ?_, ?_⟩
    · simp only [e _ i r hi hr]; rw [hg0]; rfl
    · simp only [e _ i r hi hr]; rw [hg]; rfl
theorem gaps_le {n R : Nat} {G G' : Nat → Nat → Bool} (h1 : ∀ i r, G i r = true → G' i r = true) : gaps n R (tt n R G') ≤ gaps n R (tt n R G) := by
  have e : ∀ (G : Nat → Nat → Bool) i r, i < n → r < R → ((tt n R G).getD i []).getD r false = G i r := fun G i r hi hr => by rw [tb_getD hi, tb_getD hr]
  unfold gaps
  apply List.countP_mono_left
  rintro ⟨i, r⟩ hx hp
  have := mem_pairs.1 hx
  simp only [e _ i r this.1 this.2] at hp ⊢
  cases hg : G i r with
  | false => rfl
  | true => rw [h1 i r hg] at hp; exact hp

theorem l5_is (L : List (List Bool)) (n : Nat) (hn : n ≤ 1000) (hL : L.length = n) : flow_Live_l5 L [] L 0 = some L := by
  unfold flow_Live_l5
  refine (loop_for (B := fun s => flow_Live_l5b L s.1 s.2.1 s.2.2) (P := fun r => r = L) L (fun k s => s = (L.take k, L, (k : Int))) (fun k x s hk' hk hs => ?_) (fun s hs => ?_) rfl).some_of
  · subst hs
    show Ok (flow_Live_l5b L (L.take k) L k) _
    unfold flow_Live_l5b
    rw [if_pos (by simp; omega), ix_nat, hk]
    simp only [Option.bind_some]
    rw [ap_some (by simp; omega)]
    refine .ret ?_
    show _ = _
    rw [w64_succ (by omega), List.take_add_one, hk, Option.toList_some]
  · subst hs
    show Ok (flow_Live_l5b L (L.take L.length) L L.length) _
    unfold flow_Live_l5b
    rw [if_neg (by simp), List.take_length]
    exact .map (.ret rfl)

section
variable (f : TFunc) (R : Nat)
theorem closed_all (h : f.code.length ≤ 1000) (hR : R ≤ 1000) (hreg : max f.regs 0 = (R : Int)) (hargs : ∀ x ∈ f.code, x.args.length ≤ 1000) (G : Nat → Nat → Bool) (hG : ∀ i, i < f.code.length → ClosedAt f R G i) (r : Nat) (hr : r < R) : ∀ i, Nd f r i → i < f.code.length → G i r = true := by
  intro i hn
  induction hn with
  | use k x hk hu =>
    intro hi
    refine hG k hi x r hk hr ?_
    unfold newOf stp; simp [hu]
  | go k x j hk hd hj hjn ih =>
    intro hi
    refine hG k hi x r hk hr ?_
    have hj2 := (nx_at f h k hi).2 j hj
    have := ih (by omega)
    unfold newOf stp
    rw [Bool.or_eq_true, Bool.and_eq_true]
    refine .inr ⟨?_, by simpa using hd⟩
    unfold outOf
    rw [List.any_eq_true]
    exact ⟨(j : Int), hj, by simpa using this⟩
/-- What the program's table holds. -/
theorem Live_is (h : f.code.length ≤ 1000) (hR : R ≤ 1000) (hreg : max f.regs 0 = (R : Int)) (hargs : ∀ x ∈ f.code, x.args.length ≤ 1000) : Ok (flow_Live f) (fun L => ∃ G, L = tt f.code.length R G ∧ ∀ i r, i < f.code.length → r < R → (G i r = true ↔ Nd f r i)) := by
  unfold flow_Live
  rw [mk_tb (by omega), mk_tb (by omega)]
  simp only [Option.bind_some]
  unfold flow_Live_l1
  refine Ok.loop (B := fun s => flow_Live_l1b f (tb f.code.length (fun _ => ([] : List Bool))) s.1 s.2.1 s.2.2) (fun k s => s = (tb f.code.length (fun i => if i < k then tb R (fun _ => false) else []), tb f.code.length (fun i => if i < k then nx f i else []), (k : Int))) f.code.length (fun k s hk hs => ?_) (fun s hs => ?_) (by simp)
  · subst hs
    show Ok (flow_Live_l1b f _ _ _ k) _
    unfold flow_Live_l1b
    rw [if_pos (by simp; omega), hreg, mk_tb (by omega)]
    simp only [Option.bind_some]
    rw [ix_tb hk, ix_tb hk, Next_at f h k hk]
    simp only [Option.bind_some]
    refine .ret ?_
    show _ = _
    rw [w64_succ (by omega), Int.toNat_natCast, tb_set, tb_set]
    congr 1
    · apply tb_ext
      intro i hi
      by_cases hik : i = k
      · subst hik; simp
      · simp only [hik, if_false]
        by_cases h2 : i < k
        · rw [if_pos h2, if_pos (by omega)]
        · rw [if_neg h2, if_neg (by omega)]
    · congr 1
      apply tb_ext
      intro i hi
      by_cases hik : i = k
      · subst hik; simp
      · simp only [hik, if_false]
        by_cases h2 : i < k
        · rw [if_pos h2, if_pos (by omega)]
        · rw [if_neg h2, if_neg (by omega)]
  · subst hs
    show Ok (flow_Live_l1b f _ _ _ _) _
    unfold flow_Live_l1b
    rw [if_neg (by simp)]
    refine .map ?_
    rw [show tb f.code.length (fun i => if i < f.code.length then tb R (fun _ => false) else []) = tt f.code.length R (fun _ _ => false) from tb_ext (fun i hi => by rw [if_pos hi]),
      show tb f.code.length (fun i => if i < f.code.length then nx f i else []) = tb f.code.length (nx f) from tb_ext (fun i hi => by rw [if_pos hi])]
    unfold flow_Live_l2
    refine Ok.loopM (B := fun s => flow_Live_l2b f (tb f.code.length (nx f)) s.1 s.2) (fun s => ∃ G, s.1 = tt f.code.length R G ∧ Sound f R G ∧ (s.2 = false → ∀ i, i < f.code.length → ClosedAt f R G i)) (fun s => gaps f.code.length R s.1 + (if s.2 then 1 else 0)) (fun s hs => ?_) ⟨fun _ _ => false, rfl, (fun _ _ _ _ h => by cases h), (fun h => by cases h)⟩
    obtain ⟨xs, b⟩ := s
    obtain ⟨G, h1, h2, h3⟩ := hs
    simp only at h1 h3
    subst h1
    show Ok (flow_Live_l2b f _ _ b) _
    unfold flow_Live_l2b
    refine .ite (fun hb => ?_) (fun hb => ?_)
    · subst hb
      refine (l3_is f R h hR hreg hargs G h2).mono fun r hr => ?_
      obtain ⟨G', b', rfl, h4, h5, h6, h7⟩ := hr
      refine ⟨⟨G', rfl, h4, h6⟩, ?_⟩
      show gaps _ _ _ + (if b' = true then 1 else 0) < gaps _ _ _ + (if true = true then 1 else 0)
      cases hb' : b' with
      | true =>
        have := gaps_lt h5 (h7 hb')
        simp; omega
      | false =>
        have := gaps_le (n := f.code.length) (R := R) h5
        simp; omega
    · rw [l5_is _ f.code.length h (by simp)]
      refine .map (.ret ⟨G, rfl, fun i r hi hr => ⟨h2 i r hi hr, fun hn => closed_all f R h hR hreg hargs G (h3 hb) r hr i hn hi⟩⟩)
end
end Go.Vm.G10s
