/-
  Part of an evaluator for the model, proved sound: no condition.
-/
import Derived.Test.YtngmbcedamphmaaESp4
import Derived.Test.YtngmbcedamphmaaEVm19
set_option linter.unusedSimpArgs false
set_option linter.unusedVariables false
namespace Go.Vm
open Go Go.RowKit
theorem Rd.map {P : Program} {t : TypeId} {sz : Nat} {α β : Type} {RE : Vw → List Value → α → Prop} {OK : α → Prop} {RE' : Vw → List Value → β → Prop} {OK' : β → Prop} (h : Rd P t sz RE OK) (g : α → β) (hg : ∀ H cs y, RE H cs y → OK y → RE' H cs (g y) ∧ OK' (g y)) : Rd P t sz RE' OK' := by
 intro HH enc w fuel cs x hs ht
 obtain ⟨h1, h2, y, h3, h4⟩ := h HH enc w fuel cs x hs ht
 exact ⟨h1, h2, g y, hg _ _ _ h3 h4⟩
theorem shape_pos {w : World} {b : Nat} {x : TypeId × Nat} (h : w.shape? b = some x) : 0 < w.heap.size := by
 unfold World.shape? at h
 split at h
 ·rename_i hc
  have := (Array.getElem?_eq_some_iff.1 hc).1
  omega
 ·cases h
theorem cell_pos {P : Program} {w : World} {r : Reach} {base : Nat} {t : TypeId} {a : Addr} {n c : Nat} (h : Cell.okWide P w r base t (.slice (some a) n c)) : 0 < w.heap.size := by
 have h : Cell.ok P w r base t (.slice (some a) n c) := by
  unfold Cell.okWide at h
  split at h <;> first | (rename_i h1 h2; cases h2; done) | skip
  all_goals first | exact h | skip
  all_goals (rename_i heq; cases heq)
 unfold Cell.ok at h
 split at h <;> rename_i h1 <;> first | (cases h1; done) | skip
 all_goals first | (obtain ⟨_, _, _, _, row, cells, hs, _⟩ := h; exact shape_pos hs) | exact h.elim | skip
theorem cell_noagg {P : Program} {w : World} {r : Reach} {base : Nat} {t : TypeId} {xs : Array Value} (h : Cell.okWide P w r base t (.agg xs)) : False := by
 have h : Cell.ok P w r base t (.agg xs) := by
  unfold Cell.okWide at h
  split at h <;> first | (rename_i h1 h2; cases h2; done) | skip
  all_goals first | exact h | skip
  all_goals (rename_i heq; cases heq)
 unfold Cell.ok at h
 split at h <;> rename_i h1 <;> first | (cases h1; done) | skip
 all_goals exact h
theorem okWide_sure {P : Program} {w : World} {r : Reach} {base : Nat} {t : TypeId} {v : Value} (h : Value.okWide P w r base t v) : Sure w v.cells.toList := by
 by_cases hp : 0 < w.heap.size
 ·exact .inl hp
 refine .inr (fun u hu a n c he => ?_)
 subst he
 apply hp
 have one : Cell.okWide P w r base t v → 0 < w.heap.size := by
  intro hc
  have hna : ∀ xs, v ≠ .agg xs := fun xs e => by subst e; exact cell_noagg hc
  have h1 : v.cells = #[v] := by cases v <;> first | rfl | exact absurd rfl (hna _)
  rw [h1] at hu
  have : .slice (some a) n c = v := by simpa using hu
  subst this
  exact cell_pos hc
 have many : (∃ cs, v = .agg cs ∧ cs.size = P.cellsOf t ∧ Row.okWide P w r base t cs) → 0 < w.heap.size := by
  rintro ⟨cs, rfl, _, ts, _, _, h3⟩
  obtain ⟨i, hi⟩ := List.getElem?_of_mem hu
  obtain ⟨q, _, hq⟩ := h3 i _ (by simpa [Value.cells] using hi)
  exact cell_pos hq
 unfold Value.okWide at h
 split at h
 ·exact many h
 ·exact many h
 ·exact one h
section
variable {P : Program} {W : World} {r : Reach} {base : Nat} {t : TypeId} {v : Value} {HH : Type} {enc : TypeId × Value → HH} {sz : Nat} {α : Type} {RE : Vw → List Value → α → Prop} {OK : α → Prop} {d : DataW HH} {ps : List MemPlace}
end
theorem law_top2 {P : Program} {G n : Nat} {args : Array Value} {w : World} (hm : P.follows .mixedOrders = true) (ha : ∀ v ∈ args.toList, ∀ u ∈ v.cells.toList, Good w u) (h : ∃ v V', Cl P G n (args.map aA) (V0of w).H v V'.H ∧ (V0of w).le V' ∧ v = .bool true ∧ Ow V' []) :
  Calls P n args w fun e w' => e = .returned (.bool true) ∧ Below w.heap.size w w' := by
 obtain ⟨v, V', h1, _, rfl, _⟩ := h
 refine (Cl.snd hm n _ _ _ _ h1 (idI w) w args (R.start w) ⟨by simp, fun i h1 h2 => ?_⟩).mono ?_
 ·rw [Array.getElem_map]
  exact VR.aA (ha _ (by simp))
 rintro e w' ⟨u, ι', rfl, hu, hn, hr, h2, h3, h4⟩
 refine ⟨by rw [hu.bool_eq], ⟨h4.1, h4.2.1, h4.2.2, h2, fun k hk => h3 k hk (fun b l hb hl hlo => ?_)⟩⟩
 have := (R.start w).dom b l hb
 have hlo : w.heap.size ≤ b := hlo
 have hlt : b < w.heap.size := this.1
 omega
def InR (k : IntKind) (x : Int) : Prop := (Lit.int k x).wf = true
theorem InR.i64 {x : Int} (h : InR .i64 x) : -9223372036854775808 ≤ x ∧ x ≤ 9223372036854775807 := by
 unfold InR Lit.wf at h
 simp [IntKind.min, IntKind.max, IntKind.signed, IntKind.bits] at h
 omega
end Go.Vm
