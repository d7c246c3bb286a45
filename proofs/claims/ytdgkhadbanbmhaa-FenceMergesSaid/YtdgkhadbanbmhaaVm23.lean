/-
  Part of an evaluator for the model, proved sound: no condition.
-/
import Derived.Test.YtdgkhadbanbmhaaVm20
set_option linter.unusedSimpArgs false
set_option linter.unusedVariables false
namespace Go.Vm
open Go Go.RowKit

/-! ## A law's arguments -/

theorem shape_pos {w : World} {b : Nat} {x : TypeId × Nat} (h : w.shape? b = some x) : 0 < w.heap.size := by
  unfold World.shape? at h
  split at h
  · rename_i hc
    have := (Array.getElem?_eq_some_iff.1 hc).1
    omega
  · cases h

theorem cell_pos {P : Program} {w : World} {r : Reach} {base : Nat} {t : TypeId} {a : Addr} {n c : Nat} (h : Cell.okWide P w r base t (.slice (some a) n c)) : 0 < w.heap.size := by
  have h : Cell.ok P w r base t (.slice (some a) n c) := by
    unfold Cell.okWide at h
    split at h <;> first | (rename_i h1 h2; cases h2; done) | skip
    all_goals first | exact h | skip
    all_goals (rename_i heq; cases heq)
  unfold Cell.ok at h
  split at h <;> rename_i h1 <;> first | (cases h1; done) | skip
  all_goals first | (obtain ⟨_, _, _, _, row, cells, hs, _⟩ := h; exact shape_pos hs) | exact h.elim | skip

theorem cell_noagg {P : Program} {w : World} {r : Reach} {base : Nat} {t : TypeId} {xs : Array Value} (h : Cell.okWide P w r base t (.agg xs)) : False := by
  have h : Cell.ok P w r base t (.agg xs) := by
    unfold Cell.okWide at h
    split at h <;> first | (rename_i h1 h2; cases h2; done) | skip
    all_goals first | exact h | skip
    all_goals (rename_i heq; cases heq)
  unfold Cell.ok at h
  split at h <;> rename_i h1 <;> first | (cases h1; done) | skip
  all_goals exact h

theorem okWide_sure {P : Program} {w : World} {r : Reach} {base : Nat} {t : TypeId} {v : Value} (h : Value.okWide P w r base t v) : Sure w v.cells.toList := by
  by_cases hp : 0 < w.heap.size
  · exact .inl hp
  refine .inr (fun u hu a n c he => ?_)
  subst he
  apply hp
  have one : Cell.okWide P w r base t v → 0 < w.heap.size := by
    intro hc
    have hna : ∀ xs, v ≠ .agg xs := fun xs e => by subst e; exact cell_noagg hc
    have h1 : v.cells = #[v] := by cases v <;> first | rfl | exact absurd rfl (hna _)
    rw [h1] at hu
    have : .slice (some a) n c = v := by simpa using hu
    subst this
    exact cell_pos hc
  have many : (∃ cs, v = .agg cs ∧ cs.size = P.cellsOf t ∧ Row.okWide P w r base t cs) → 0 < w.heap.size := by
    rintro ⟨cs, rfl, _, ts, _, _, h3⟩
    obtain ⟨i, hi⟩ := List.getElem?_of_mem hu
    obtain ⟨q, _, hq⟩ := h3 i _ (by simpa [Value.cells] using hi)
    exact cell_pos hq
  unfold Value.okWide at h
  split at h
  · exact many h
  · exact many h
  · exact one h

section
variable {P : Program} {W : World} {r : Reach} {base : Nat} {t : TypeId} {v : Value} {HH : Type} {enc : TypeId × Value → HH} {sz : Nat} {α : Type} {RE : Vw → List Value → α → Prop} {OK : α → Prop} {d : DataW HH} {ps : List MemPlace}

/-- An argument that is a struct. -/
theorem arg_struct {fs : Array Field} (hu : P.underlying t = some (.struct fs)) (hok : Value.okWide P W r base t v) (hrd : Rd P t sz RE OK) (ht : DataW.Trod enc P W 0 (fun _ => true) true t v d ps) :
    (∀ u ∈ v.cells.toList, Good W u) ∧ ∃ cs y, aA v = .agg cs ∧ RE (V0of W) cs.toList y ∧ OK y := by
  obtain ⟨fuel, hf⟩ := ht
  obtain ⟨_, h1, y, h2, h3⟩ := hrd HH enc W fuel _ _ (okWide_sure hok) hf
  obtain ⟨cs, rfl, _⟩ := WideShapes.okWide_struct hu hok
  exact ⟨h1, cs.map aV, y, rfl, by simpa [Value.cells] using h2, h3⟩

/-- One that is a cell. -/
theorem arg_cell (h0 : ∀ fs, P.underlying t ≠ some (.struct fs)) (h00 : ∀ n e, P.underlying t ≠ some (.array n e)) (hok : Value.okWide P W r base t v) (hrd : Rd P t 1 RE OK) (ht : DataW.Trod enc P W 0 (fun _ => true) true t v d ps) :
    (∀ u ∈ v.cells.toList, Good W u) ∧ ∃ y, RE (V0of W) [aA v] y ∧ OK y := by
  obtain ⟨fuel, hf⟩ := ht
  obtain ⟨_, h1, y, h2, h3⟩ := hrd HH enc W fuel _ _ (okWide_sure hok) hf
  have hna : ∀ xs, v ≠ .agg xs := by
    rintro xs rfl
    unfold Value.okWide at hok
    split at hok
    · rename_i h; exact h0 _ h
    · rename_i h; exact h00 _ _ h
    · exact cell_noagg hok
  have h4 : v.cells = #[v] := by cases v <;> first | rfl | exact absurd rfl (hna _)
  have h5 : Go.Vm.aA v = aV v := by cases v <;> first | rfl | exact absurd rfl (hna _)
  refine ⟨h1, y, ?_, h3⟩
  rw [h4] at h2
  rw [h5]
  exact h2
end
end Go.Vm
