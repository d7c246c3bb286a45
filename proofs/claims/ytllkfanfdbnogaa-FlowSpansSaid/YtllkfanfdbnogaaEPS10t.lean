/-
  The sort of a short list, and growing spans.
-/
import Derived.Test.YtllkfanfdbnogaaEPS10s
set_option linter.unusedSimpArgs false
set_option linter.unusedVariables false
namespace Go.Vm.G10s
open Go

theorem recO_const {α ρ : Type} {F : (α → Option ρ) → α → Option ρ} {a : α} {r : ρ} (h : ∀ f, F f a = some r) : recO F a = some r := by
  unfold recO
  have hex : ∃ n r, itF F n a = some r := ⟨1, r, h _⟩
  rw [dif_pos hex]
  obtain ⟨r', hr'⟩ := hex.choose_spec
  cases hc : hex.choose with
  | zero => rw [hc] at hr'; cases hr'
  | succ n => exact h _
theorem Len_ok (n : Nat) (hn : n ≤ 200) : Ok (math_bits_Len (IntKind.wrap .u64 (n : Int))) (fun _ => True) := by
  have hw : IntKind.wrap .u64 (n : Int) = (n : Int) := by
    unfold IntKind.wrap
    simp [IntKind.signed, IntKind.bits]
    omega
  have hw8 : IntKind.wrap .u8 (n : Int) = (n : Int) := by
    unfold IntKind.wrap
    simp [IntKind.signed, IntKind.bits]
    omega
  have hs : str1.size = 256 := by decide +kernel
  have k3 : ∀ x, Ok (math_bits_Len64_k3 (n : Int) x) (fun _ => True) := by
    intro x
    unfold math_bits_Len64_k3
    rw [hw8]
    have hlt : n < str1.size := by omega
    unfold ixS
    rw [if_pos (by omega), show ((n : Int)).toNat = n from rfl, getElem?_pos str1 n hlt]
    exact .ret trivial
  rw [hw]
  unfold math_bits_Len math_bits_Len64 math_bits_Len64_k1 math_bits_Len64_k2
  rw [if_neg (by simp; omega), if_neg (by simp; omega), if_neg (by simp; omega)]
  exact (k3 0).bind fun _ _ => .ret trivial
theorem Sort_is (n : Nat) (hn : n ≤ 12) (g : Nat → Sp) (hb : ∀ k, k < n → bnd (g k)) : Ok (slices_SortFunc (tb n g)) (fun r => ∃ h, r = tb n h ∧ Prm n g h ∧ ∀ p q, p < q → q < n → le (h p) (h q)) := by
  unfold slices_SortFunc
  rw [tb_len]
  refine (Len_ok n (by omega)).bind fun L _ => ?_
  obtain ⟨r, hr, hP⟩ := insertion_is n (by omega) g hb
  refine Ok.bind (P := fun x => x = r) (.of_eq ?_) (fun x hx => by subst hx; exact .ret hP)
  unfold slices_pdqsortCmpFunc
  refine recO_const fun f => ?_
  show slices_pdqsortCmpFunc_F (fun p0 p1 p2 p3 => f (p0, p1, p2, p3)) (tb n g) 0 n L = some r
  unfold slices_pdqsortCmpFunc_F slices_pdqsortCmpFunc_l1
  rw [loopO_eq]
  show (slices_pdqsortCmpFunc_l1b _ (tb n g) 0 n L true true).bind _ = _
  unfold slices_pdqsortCmpFunc_l1b
  rw [if_pos (by rw [w64_id (by omega) (by omega)]; simp; omega), hr]
  rfl

/-! ### Growing -/
/-- The list holds, of each register that was touched, where it was first and last. -/
structure Gr (T : Int → Int → Prop) (l : List Sp) : Prop where
  nd : l.Pairwise (fun a b => a.reg ≠ b.reg)
  sound : ∀ s ∈ l, T s.reg s.from_ ∧ T s.reg s.to_
  full : ∀ r k, T r k → ∃ s ∈ l, s.reg = r ∧ s.from_ ≤ k ∧ k ≤ s.to_
theorem Gr.nil : Gr (fun _ _ => False) [] := ⟨.nil, fun s h => (by cases h), fun r k h => h.elim⟩
theorem Gr.congr {T T' : Int → Int → Prop} {l : List Sp} (h : Gr T l) (e : ∀ r k, T r k ↔ T' r k) : Gr T' l :=
  ⟨h.nd, fun s hs => ⟨(e _ _).1 (h.sound s hs).1, (e _ _).1 (h.sound s hs).2⟩, fun r k ht => h.full r k ((e r k).2 ht)⟩
theorem find_ok (l : List Sp) (r : Int) (hl : l.length ≤ 1000) : Ok (slices_IndexFunc_3 l r) (fun i => (i = -1 ∧ ∀ s ∈ l, s.reg ≠ r) ∨ ∃ (k : Nat) (s : Sp), i = (k : Int) ∧ l[k]? = some s ∧ s.reg = r) := by
  unfold slices_IndexFunc_3 slices_IndexFunc_3_l1
  refine loop_for l (fun k s => s = (k : Int) ∧ ∀ y ∈ l.take k, y.reg ≠ r) (fun k x s hk' hk hs => ?_) (fun s hs => ?_) ⟨rfl, by simp⟩
  · obtain ⟨rfl, hs⟩ := hs
    unfold slices_IndexFunc_3_l1b flow_grow_c1
    rw [if_pos (by simp; omega), ix_nat, hk]
    simp only [Option.bind_some]
    refine .ite (fun hb => .map (.ret (.inr ⟨k, x, rfl, hk, by simpa using hb⟩))) (fun hb => .ret ⟨w64_succ (by omega), fun y hy => ?_⟩)
    rw [mem_take_succ hk'] at hy
    rcases hy with hy | rfl
    · exact hs y hy
    · rw [List.getElem?_eq_getElem hk'] at hk
      rw [Option.some.inj hk]; simpa using hb
  · obtain ⟨rfl, hs⟩ := hs
    unfold slices_IndexFunc_3_l1b
    rw [if_neg (by simp)]
    rw [List.take_length] at hs
    exact .map (.ret (.inl ⟨rfl, hs⟩))
theorem grow_is {T : Int → Int → Prop} {l : List Sp} (g : Gr T l) (hl : l.length ≤ 1000) (r k : Int) : Ok (flow_grow l r k) (fun l' => Gr (fun r' k' => T r' k' ∨ (r' = r ∧ k' = k)) l' ∧ l'.length ≤ l.length + 1) := by
  unfold flow_grow
  refine (find_ok l r hl).bind fun i hi => ?_
  rcases hi with ⟨rfl, hn⟩ | ⟨j, s, rfl, hj, hs⟩
  · rw [if_pos (by decide), ap_some (by simp; omega)]
    simp only [Option.bind_some]
    refine .ret ⟨⟨?_, fun s hs => ?_, fun r' k' ht => ?_⟩, by simp⟩
    · rw [List.pairwise_append]
      exact ⟨g.nd, by simp, fun a ha b hb => by rcases List.mem_singleton.1 hb with rfl; exact hn a ha⟩
    · rcases List.mem_append.1 hs with hs | hs
      · exact ⟨.inl (g.sound s hs).1, .inl (g.sound s hs).2⟩
      · rcases List.mem_singleton.1 hs with rfl; exact ⟨.inr ⟨rfl, rfl⟩, .inr ⟨rfl, rfl⟩⟩
    · rcases ht with ht | ⟨rfl, rfl⟩
      · obtain ⟨s, hs, h1⟩ := g.full r' k' ht
        exact ⟨s, List.mem_append_left _ hs, h1⟩
      · exact ⟨_, List.mem_append_right _ (List.mem_singleton.2 rfl), rfl, Int.le_refl _, Int.le_refl _⟩
  · have hjl := (List.getElem?_eq_some_iff.1 hj).1
    rw [if_neg (by simp), ix_nat, hj]
    simp only [Option.bind_some, Int.toNat_natCast]
    rw [ix_nat, List.getElem?_set_self hjl]
    simp only [Option.bind_some]
    rw [List.set_set]
    generalize hs' : (⟨s.reg, min s.from_ k, max s.to_ k⟩ : Sp) = s'
    have e1 : s'.reg = s.reg := by rw [← hs']
    have e2 : s'.from_ = min s.from_ k := by rw [← hs']
    have e3 : s'.to_ = max s.to_ k := by rw [← hs']
    have hmem : ∀ x, x ∈ l.set j s' → x = s' ∨ (x ∈ l ∧ x.reg ≠ r) := by
      intro x hx
      obtain ⟨m, hm, hmx⟩ := List.mem_iff_getElem.1 hx
      rw [List.getElem_set] at hmx
      split at hmx
      · exact .inl hmx.symm
      · rename_i hne
        rw [List.length_set] at hm
        refine .inr ⟨hmx ▸ List.getElem_mem hm, ?_⟩
        have hsj : s = l[j] := by rw [List.getElem?_eq_getElem hjl] at hj; exact (Option.some.inj hj).symm
        rw [← hs, ← hmx, hsj]
        rcases Nat.lt_or_gt_of_ne hne with h | h
        · exact fun e => (List.pairwise_iff_getElem.1 g.nd j m hjl hm h) e.symm
        · exact List.pairwise_iff_getElem.1 g.nd m j hm hjl h
    have hsin : s' ∈ l.set j s' := List.mem_iff_getElem.2 ⟨j, by simpa using hjl, by simp⟩
    have hsl := g.sound s (List.mem_of_getElem? hj)
    refine .ret ⟨⟨?_, fun x hx => ?_, fun r' k' ht => ?_⟩, by simp⟩
    · rw [List.pairwise_iff_getElem]
      intro a b ha hb hab
      rw [List.length_set] at ha hb
      rw [List.getElem_set, List.getElem_set]
      have hp := List.pairwise_iff_getElem.1 g.nd
      have hsj : l[j].reg = s.reg := by rw [List.getElem?_eq_getElem hjl] at hj; rw [Option.some.inj hj]
      by_cases h1 : j = a
      · subst h1
        rw [if_pos rfl, if_neg (by omega), e1, ← hsj]
        exact hp _ _ ha hb hab
      · rw [if_neg h1]
        by_cases h2 : j = b
        · subst h2
          rw [if_pos rfl, e1, ← hsj]
          exact hp _ _ ha hb hab
        · rw [if_neg h2]; exact hp _ _ ha hb hab
    · rcases hmem x hx with rfl | ⟨hx, _⟩
      · rw [e1, e2, e3]
        constructor
        · by_cases h : s.from_ ≤ k
          · rw [show min s.from_ k = s.from_ from by omega]; exact .inl hsl.1
          · rw [show min s.from_ k = k from by omega]; exact .inr ⟨hs, rfl⟩
        · by_cases h : k ≤ s.to_
          · rw [show max s.to_ k = s.to_ from by omega]; exact .inl hsl.2
          · rw [show max s.to_ k = k from by omega]; exact .inr ⟨hs, rfl⟩
      · exact ⟨.inl (g.sound x hx).1, .inl (g.sound x hx).2⟩
    · have hgo : (T r' k' ∨ (r' = r ∧ k' = k)) → r' = r → s.from_ ≤ k' ∧ k' ≤ s.to_ ∨ k' = k := by
        rintro (h | h) hr
        · obtain ⟨x, hx, h1, h2, h3⟩ := g.full r' k' h
          obtain ⟨m, hm, hmx⟩ := List.mem_iff_getElem.1 hx
          have hmj : m = j := by
            by_cases hne : m = j
            · exact hne
            · have hp := List.pairwise_iff_getElem.1 g.nd
              have hsj : l[j].reg = r := by rw [List.getElem?_eq_getElem hjl] at hj; rw [Option.some.inj hj]; exact hs
              rcases Nat.lt_or_gt_of_ne hne with h | h
              · exact (hp m j hm hjl h (by rw [hmx, hsj, h1, hr])).elim
              · exact (hp j m hjl hm h (by rw [hmx, hsj, h1, hr])).elim
          subst hmj
          rw [List.getElem?_eq_getElem hm] at hj
          have : x = s := by rw [← hmx]; exact Option.some.inj hj
          rw [← this]; exact .inl ⟨h2, h3⟩
        · exact .inr h.2
      by_cases hr : r' = r
      · refine ⟨s', hsin, by rw [e1, hs, hr], ?_⟩
        rw [e2, e3]
        rcases hgo ht hr with h | h <;> omega
      · rcases ht with ht | h
        · obtain ⟨x, hx, h1, h2⟩ := g.full r' k' ht
          refine ⟨x, ?_, h1, h2⟩
          obtain ⟨m, hm, hmx⟩ := List.mem_iff_getElem.1 hx
          have hmj : j ≠ m := by
            intro e
            subst e
            rw [List.getElem?_eq_getElem hm] at hj
            have : x = s := by rw [← hmx]; exact Option.some.inj hj
            rw [this, hs] at h1
            exact hr h1.symm
          exact List.mem_iff_getElem.2 ⟨m, by simpa using hm, by rw [List.getElem_set, if_neg hmj]; exact hmx⟩
        · exact (hr h.1).elim
end Go.Vm.G10s
