/-
 Structs of an argument, with the weights of what they hold.
-/
import Derived.Test.YtoefpigdafjcdaaDoorESp12
set_option linter.unusedSimpArgs false
set_option linter.unusedVariables false
namespace Go.Vm
open Go Go.RowKit
def RdWF (P : Program) (off : Nat) (fs : List Field) (sz : Nat) {α : Type} (RE : Vw → List Value → α → Prop) (OK : α → Prop) : Prop :=
 ∀ (HH : Type) (enc : TypeId × Value → HH) (w : World) (fuel : Nat) (cs : List Value) (ds : List (DataW HH)), Sure w cs → cs.length = off + sz →
  (∀ (i : Nat) (f : Field), fs[i]? = some f → ∃ x : DataW HH × List MemPlace, DataW.trod enc P w 0 (fun _ => true) true fuel f.type ((cs.drop f.offset).take (P.cellsOf f.type)) = some x ∧ ds[i]? = some x.1) →
  (∀ n ∈ DataW.weightsEach P (fs.map (·.type)) ds, n ≤ reachBytes) → (∀ v ∈ cs.drop off, Good w v) ∧ ∃ y, RE (V0of w) ((cs.drop off).map aV) y ∧ OK y
theorem RdWF.nil {P : Program} {off : Nat} : RdWF P off [] 0 (fun _ cs (_ : Unit) => cs = []) (fun _ => True) := by
 intro HH enc w fuel cs ds hs hl h _
 have : cs.drop off = [] := List.drop_eq_nil_of_le (by omega)
 rw [this]
 exact ⟨(fun v hv => nomatch hv), (), rfl, trivial⟩
theorem RdWF.cons {P : Program} {off n m : Nat} {f : Field} {fs : List Field} {α β : Type} {RE1 : Vw → List Value → α → Prop} {RE2 : Vw → List Value → β → Prop} {OK1 : α → Prop} {OK2 : β → Prop} (ho : f.offset = off) (hn : P.cellsOf f.type = n)
  (h1 : RdW P f.type n RE1 OK1) (h2 : RdWF P (off + n) fs m RE2 OK2) : RdWF P off (f :: fs) (n + m) (fun H cs (y : α × β) => ∃ c1 c2, cs = c1 ++ c2 ∧ RE1 H c1 y.1 ∧ RE2 H c2 y.2) (fun y => OK1 y.1 ∧ OK2 y.2) := by
 intro HH enc w fuel cs ds hs hl h hw
 subst ho hn
 obtain ⟨x, hx, hd⟩ := h 0 f rfl
 cases ds with
 | nil => cases hd
 | cons d ds =>
  simp only [List.getElem?_cons_zero, Option.some.injEq] at hd
  subst hd
  simp only [List.map_cons, DataW.weightsEach, List.mem_append] at hw
  obtain ⟨h3, h4, y, h5, h6⟩ := h1 HH enc w fuel _ x (hs.sub (fun v hv => List.mem_of_mem_drop (List.mem_of_mem_take hv))) hx (fun n hn => hw n (.inl hn))
  obtain ⟨h7, z, h8, h9⟩ := h2 HH enc w fuel cs ds hs (by omega) (fun i g hg => by have := h (i + 1) g (by simpa using hg); simpa using this) (fun n hn => hw n (.inr hn))
  have he : cs.drop f.offset = (cs.drop f.offset).take (P.cellsOf f.type) ++ cs.drop (f.offset + P.cellsOf f.type) := by
   rw [← List.drop_drop, List.take_append_drop]
  refine ⟨fun v hv => ?_, (y, z), ⟨_, _, (congrArg (List.map aV) he).trans List.map_append, h5, h8⟩, h6, h9⟩
  rw [he] at hv
  rcases List.mem_append.1 hv with hv | hv
  ·exact h4 v hv
  ·exact h7 v hv
theorem RdW.struct {P : Program} {t : TypeId} {fs : Array Field} {sz : Nat} {α : Type} {RE : Vw → List Value → α → Prop} {OK : α → Prop} (hu : P.underlying t = some (.struct fs)) (hs : P.cellsOf t = sz) (h : RdWF P 0 fs.toList sz RE OK) : RdW P t sz RE OK := by
 intro HH enc w fuel cs x hsure ht hw
 cases fuel with
 | zero => cases ht
 | succ fuel =>
  unfold DataW.trod at ht
  rw [hu] at ht
  have ht : (if cs.length = P.cellsOf t then (fs.toList.mapM fun f => DataW.trod enc P w 0 (fun _ => true) true fuel f.type ((cs.drop f.offset).take (P.cellsOf f.type))).map fun xs => (DataW.agg (xs.map (·.1)), xs.flatMap (·.2)) else none) = some x := ht
  split at ht
  ·rename_i hl
   obtain ⟨xs, h2, h3⟩ := Option.map_eq_some_iff.1 ht
   subst h3
   obtain ⟨hl2, hg⟩ := mapM_get h2
   have hw2 : DataW.weights P t (DataW.agg (xs.map (·.1))) = DataW.weightsEach P (fs.toList.map (·.type)) (xs.map (·.1)) := by
    rw [DataW.weights]
    simp only [hu]
   have h4 := h HH enc w fuel cs (xs.map (·.1)) hsure (by rw [hl, hs, Nat.zero_add]) (fun i f hf => by
    have hi : i < xs.length := by rw [hl2]; exact (List.getElem?_eq_some_iff.1 hf).1
    exact ⟨xs[i], hg i f _ hf (List.getElem?_eq_getElem hi), by rw [List.getElem?_map, List.getElem?_eq_getElem hi]; rfl⟩) (by rw [← hw2]; exact hw)
   rw [List.drop_zero] at h4
   exact ⟨hl.trans hs, h4⟩
  ·cases ht
theorem RdW.map {P : Program} {t : TypeId} {sz : Nat} {α β : Type} {RE : Vw → List Value → α → Prop} {OK : α → Prop} {RE' : Vw → List Value → β → Prop} {OK' : β → Prop} (h : RdW P t sz RE OK) (g : α → β) (hg : ∀ H cs y, RE H cs y → OK y → RE' H cs (g y) ∧ OK' (g y)) : RdW P t sz RE' OK' := by
 intro HH enc w fuel cs x hs ht hw
 obtain ⟨h1, h2, y, h3, h4⟩ := h HH enc w fuel cs x hs ht hw
 exact ⟨h1, h2, g y, hg _ _ _ h3 h4⟩
section
variable {HH : Type} {enc : TypeId × Value → HH} {P : Program} {W : World} {r : Reach} {base : Nat} {t : TypeId} {v : Value} {d : DataW HH} {ps : List MemPlace} {sz : Nat} {α : Type} {RE : Vw → List Value → α → Prop} {OK : α → Prop}
theorem arg_structW {fs : Array Field} (hu : P.underlying t = some (.struct fs)) (hok : Value.okWide P W r base t v) (hrd : RdW P t sz RE OK) (ht : DataW.Trod enc P W 0 (fun _ => true) true t v d ps) (hwt : ∀ n ∈ d.weights P t, n ≤ reachBytes) :
  (∀ u ∈ v.cells.toList, Good W u) ∧ ∃ cs y, aA v = .agg cs ∧ RE (V0of W) cs.toList y ∧ OK y := by
 obtain ⟨fuel, hf⟩ := ht
 obtain ⟨_, h1, y, h2, h3⟩ := hrd HH enc W fuel _ _ (okWide_sure hok) hf hwt
 obtain ⟨cs, rfl, _⟩ := WideShapes.okWide_struct hu hok
 exact ⟨h1, cs.map aV, y, rfl, by simpa [Value.cells] using h2, h3⟩
end
end Go.Vm
