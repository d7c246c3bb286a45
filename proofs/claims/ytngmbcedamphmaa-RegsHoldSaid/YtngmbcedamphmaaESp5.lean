/-
  Part of an evaluator for the model, proved sound: no condition.
-/
import Derived.Test.YtngmbcedamphmaaESp4
import Derived.Test.YtngmbcedamphmaaEVm19
set_option linter.unusedSimpArgs false
set_option linter.unusedVariables false
namespace Go.Vm
open Go Go.RowKit
def RdF (P : Program) (off : Nat) (fs : List Field) (sz : Nat) {α : Type} (RE : Vw → List Value → α → Prop) (OK : α → Prop) : Prop :=
 ∀ (HH : Type) (enc : TypeId × Value → HH) (w : World) (fuel : Nat) (cs : List Value), Sure w cs → cs.length = off + sz → (∀ f ∈ fs, ∃ x : DataW HH × List MemPlace, DataW.trod enc P w 0 (fun _ => true) true fuel f.type ((cs.drop f.offset).take (P.cellsOf f.type)) = some x) →
  (∀ v ∈ cs.drop off, Good w v) ∧ ∃ y, RE (V0of w) ((cs.drop off).map aV) y ∧ OK y
theorem RdF.nil {P : Program} {off : Nat} : RdF P off [] 0 (fun _ cs (_ : Unit) => cs = []) (fun _ => True) := by
 intro HH enc w fuel cs hs hl h
 have : cs.drop off = [] := List.drop_eq_nil_of_le (by omega)
 rw [this]
 exact ⟨(fun v hv => nomatch hv), (), rfl, trivial⟩
theorem RdF.cons {P : Program} {off n m : Nat} {f : Field} {fs : List Field} {α β : Type} {RE1 : Vw → List Value → α → Prop} {RE2 : Vw → List Value → β → Prop} {OK1 : α → Prop} {OK2 : β → Prop} (ho : f.offset = off) (hn : P.cellsOf f.type = n)
  (h1 : Rd P f.type n RE1 OK1) (h2 : RdF P (off + n) fs m RE2 OK2) : RdF P off (f :: fs) (n + m) (fun H cs (y : α × β) => ∃ c1 c2, cs = c1 ++ c2 ∧ RE1 H c1 y.1 ∧ RE2 H c2 y.2) (fun y => OK1 y.1 ∧ OK2 y.2) := by
 intro HH enc w fuel cs hs hl h
 subst ho hn
 obtain ⟨x, hx⟩ := h f (by simp)
 obtain ⟨h3, h4, y, h5, h6⟩ := h1 HH enc w fuel _ x (hs.sub (fun v hv => List.mem_of_mem_drop (List.mem_of_mem_take hv))) hx
 obtain ⟨h7, z, h8, h9⟩ := h2 HH enc w fuel cs hs (by omega) (fun g hg => h g (by simp [hg]))
 have he : cs.drop f.offset = (cs.drop f.offset).take (P.cellsOf f.type) ++ cs.drop (f.offset + P.cellsOf f.type) := by
  rw [← List.drop_drop, List.take_append_drop]
 refine ⟨fun v hv => ?_, (y, z), ⟨_, _, (congrArg (List.map aV) he).trans List.map_append, h5, h8⟩, h6, h9⟩
 rw [he] at hv
 rcases List.mem_append.1 hv with hv | hv
 ·exact h4 v hv
 ·exact h7 v hv
theorem Rd.struct {P : Program} {t : TypeId} {fs : Array Field} {sz : Nat} {α : Type} {RE : Vw → List Value → α → Prop} {OK : α → Prop} (hu : P.underlying t = some (.struct fs)) (hs : P.cellsOf t = sz) (h : RdF P 0 fs.toList sz RE OK) : Rd P t sz RE OK := by
 intro HH enc w fuel cs x hsure ht
 cases fuel with
 | zero => cases ht
 | succ fuel =>
  unfold DataW.trod at ht
  rw [hu] at ht
  have ht : (if cs.length = P.cellsOf t then (fs.toList.mapM fun f => DataW.trod enc P w 0 (fun _ => true) true fuel f.type ((cs.drop f.offset).take (P.cellsOf f.type))).map fun xs => (DataW.agg (xs.map (·.1)), xs.flatMap (·.2)) else none) = some x := ht
  split at ht
  ·rename_i hl
   obtain ⟨xs, h2, h3⟩ := Option.map_eq_some_iff.1 ht
   have h4 := h HH enc w fuel cs hsure (by rw [hl, hs, Nat.zero_add]) (mapM_mem h2)
   rw [List.drop_zero] at h4
   exact ⟨hl.trans hs, h4⟩
  ·cases ht
theorem Rd.map {P : Program} {t : TypeId} {sz : Nat} {α β : Type} {RE : Vw → List Value → α → Prop} {OK : α → Prop} {RE' : Vw → List Value → β → Prop} {OK' : β → Prop} (h : Rd P t sz RE OK) (g : α → β) (hg : ∀ H cs y, RE H cs y → OK y → RE' H cs (g y) ∧ OK' (g y)) : Rd P t sz RE' OK' := by
 intro HH enc w fuel cs x hs ht
 obtain ⟨h1, h2, y, h3, h4⟩ := h HH enc w fuel cs x hs ht
 exact ⟨h1, h2, g y, hg _ _ _ h3 h4⟩
theorem shape_pos {w : World} {b : Nat} {x : TypeId × Nat} (h : w.shape? b = some x) : 0 < w.heap.size := by
 unfold World.shape? at h
 split at h
 ·rename_i hc
  have := (Array.getElem?_eq_some_iff.1 hc).1
  omega
 ·cases h
theorem cell_pos {P : Program} {w : World} {r : Reach} {base : Nat} {t : TypeId} {a : Addr} {n c : Nat} (h : Cell.okWide P w r base t (.slice (some a) n c)) : 0 < w.heap.size := by
 have h : Cell.ok P w r base t (.slice (some a) n c) := by
  unfold Cell.okWide at h
  split at h <;> first | (rename_i h1 h2; cases h2; done) | skip
  all_goals first | exact h | skip
  all_goals (rename_i heq; cases heq)
 unfold Cell.ok at h
 split at h <;> rename_i h1 <;> first | (cases h1; done) | skip
 all_goals first | (obtain ⟨_, _, _, _, row, cells, hs, _⟩ := h; exact shape_pos hs) | exact h.elim | skip
theorem cell_noagg {P : Program} {w : World} {r : Reach} {base : Nat} {t : TypeId} {xs : Array Value} (h : Cell.okWide P w r base t (.agg xs)) : False := by
 have h : Cell.ok P w r base t (.agg xs) := by
  unfold Cell.okWide at h
  split at h <;> first | (rename_i h1 h2; cases h2; done) | skip
  all_goals first | exact h | skip
  all_goals (rename_i heq; cases heq)
 unfold Cell.ok at h
 split at h <;> rename_i h1 <;> first | (cases h1; done) | skip
 all_goals exact h
theorem okWide_sure {P : Program} {w : World} {r : Reach} {base : Nat} {t : TypeId} {v : Value} (h : Value.okWide P w r base t v) : Sure w v.cells.toList := by
 by_cases hp : 0 < w.heap.size
 ·exact .inl hp
 refine .inr (fun u hu a n c he => ?_)
 subst he
 apply hp
 have one : Cell.okWide P w r base t v → 0 < w.heap.size := by
  intro hc
  have hna : ∀ xs, v ≠ .agg xs := fun xs e => by subst e; exact cell_noagg hc
  have h1 : v.cells = #[v] := by cases v <;> first | rfl | exact absurd rfl (hna _)
  rw [h1] at hu
  have : .slice (some a) n c = v := by simpa using hu
  subst this
  exact cell_pos hc
 have many : (∃ cs, v = .agg cs ∧ cs.size = P.cellsOf t ∧ Row.okWide P w r base t cs) → 0 < w.heap.size := by
  rintro ⟨cs, rfl, _, ts, _, _, h3⟩
  obtain ⟨i, hi⟩ := List.getElem?_of_mem hu
  obtain ⟨q, _, hq⟩ := h3 i _ (by simpa [Value.cells] using hi)
  exact cell_pos hq
 unfold Value.okWide at h
 split at h
 ·exact many h
 ·exact many h
 ·exact one h
section
variable {P : Program} {W : World} {r : Reach} {base : Nat} {t : TypeId} {v : Value} {HH : Type} {enc : TypeId × Value → HH} {sz : Nat} {α : Type} {RE : Vw → List Value → α → Prop} {OK : α → Prop} {d : DataW HH} {ps : List MemPlace}
theorem arg_struct {fs : Array Field} (hu : P.underlying t = some (.struct fs)) (hok : Value.okWide P W r base t v) (hrd : Rd P t sz RE OK) (ht : DataW.Trod enc P W 0 (fun _ => true) true t v d ps) :
  (∀ u ∈ v.cells.toList, Good W u) ∧ ∃ cs y, aA v = .agg cs ∧ RE (V0of W) cs.toList y ∧ OK y := by
 obtain ⟨fuel, hf⟩ := ht
 obtain ⟨_, h1, y, h2, h3⟩ := hrd HH enc W fuel _ _ (okWide_sure hok) hf
 obtain ⟨cs, rfl, _⟩ := WideShapes.okWide_struct hu hok
 exact ⟨h1, cs.map aV, y, rfl, by simpa [Value.cells] using h2, h3⟩
end
theorem law_top2 {P : Program} {G n : Nat} {args : Array Value} {w : World} (hm : P.follows .mixedOrders = true) (ha : ∀ v ∈ args.toList, ∀ u ∈ v.cells.toList, Good w u) (h : ∃ v V', Cl P G n (args.map aA) (V0of w).H v V'.H ∧ (V0of w).le V' ∧ v = .bool true ∧ Ow V' []) :
  Calls P n args w fun e w' => e = .returned (.bool true) ∧ Below w.heap.size w w' := by
 obtain ⟨v, V', h1, _, rfl, _⟩ := h
 refine (Cl.snd hm n _ _ _ _ h1 (idI w) w args (R.start w) ⟨by simp, fun i h1 h2 => ?_⟩).mono ?_
 ·rw [Array.getElem_map]
  exact VR.aA (ha _ (by simp))
 rintro e w' ⟨u, ι', rfl, hu, hn, hr, h2, h3, h4⟩
 refine ⟨by rw [hu.bool_eq], ⟨h4.1, h4.2.1, h4.2.2, h2, fun k hk => h3 k hk (fun b l hb hl hlo => ?_)⟩⟩
 have := (R.start w).dom b l hb
 have hlo : w.heap.size ≤ b := hlo
 have hlt : b < w.heap.size := this.1
 omega
def InR (k : IntKind) (x : Int) : Prop := (Lit.int k x).wf = true
theorem InR.i64 {x : Int} (h : InR .i64 x) : -9223372036854775808 ≤ x ∧ x ≤ 9223372036854775807 := by
 unfold InR Lit.wf at h
 simp [IntKind.min, IntKind.max, IntKind.signed, IntKind.bits] at h
 omega
def OKs {α : Type} (OK : α → Prop) (xs : List α) : Prop := (∀ x ∈ xs, OK x) ∧ xs.length ≤ 9223372036854775807
theorem Rd.sl {P : Program} {t e : TypeId} {α : Type} {R : RT α} {OK : α → Prop} (hu : P.underlying t = some (.slice e)) (hs : P.cellsOf e = R.sz) (hs0 : (R.sz == 0) = false) (he : Rd P e R.sz R.rel OK) : Rd P t 1 (RT.sl R).rel (OKs OK) := by
 intro HH enc w fuel cs x hsure h
 obtain ⟨h1, h2, y, ⟨v, h3, h4⟩, h5⟩ := Rd.slice hu hs hs0 he HH enc w fuel cs x hsure h
 refine ⟨h1, h2, y, ⟨v, h3, h4, fun b o n c e => .inr ?_⟩, h5, ?_⟩
 ·rcases h4 with ⟨h6, _⟩ | ⟨b', o', c', h6, ⟨h7, _⟩, _⟩
  ·rw [h6] at e; cases e
  ·rw [h6] at e; cases e
   exact h7
 ·rcases h4 with ⟨_, h6⟩ | ⟨b', o', c', h6, ⟨_, h7⟩, _⟩
  ·rw [h6]; exact Nat.zero_le _
  ·exact h7
end Go.Vm
