/-
  Part of an evaluator for the model, proved sound: no condition.
-/
import Derived.Test.YtngmbcedamphmaaESp3
set_option linter.unusedSimpArgs false
set_option linter.unusedVariables false
namespace Go.Vm
open Go
theorem bcase {b : Bool} {p : Prop} (ht : b = true → p) (hf : b = false → p) : p := by cases b; exact hf rfl; exact ht rfl
section
variable {P : Program} {G N : Nat} {dr : Bool} {ops : Array Oper} {i : Nat} {hist : Hist} {l : List (Nat × Value)} {V : Vw} {Q : LQ} {o : Oper} {d : Tmp} {As : List At} {k : Nat}
theorem U.joinX (m : Nat) (K : List (Nat × Value) → AH → Prop) {H : AH} (h1 : ∀ e H, K e H → WU dr P G ops m hist (e ++ l) H Q) (h2 : (∀ e H, K e H → WU dr P G ops m hist (e ++ l) H Q) → WU dr P G ops i hist l H Q) : WU dr P G ops i hist l H Q := h2 h1
theorem Ow.ospt {α : Type} {R : RT α} {v : Value} {xs : List α} (ow : Ow V As) (hk0 : As[k]? = some (.os R v xs)) {idx : Int} {x : α} (hx : ix xs idx = some x) : ∃ b o n c, v = .slice (some ⟨b, o, none⟩) n c := by
 obtain ⟨b, o, r, h, _⟩ := ow.osix hk0 hx
 exact ⟨b, o, _, _, h⟩
theorem Ow.osel {α : Type} {R : RT α} {v : Value} {xs : List α} (ow : Ow V As) (hk0 : As[k]? = some (.os R v xs)) {b o n c : Nat} (hv : v = .slice (some ⟨b, o, none⟩) n c) {idx : Int} {x : α} (hx : ix xs idx = some x) :
  ∃ r, v = .slice (some ⟨b, o, none⟩) xs.length R.sz ∧ b < V.H.next ∧ R.rel V r x ∧ ∀ (j : Nat) (u : Value), r[j]? = some u → V.H.cell b (o + idx.toNat * R.sz + j) = some u := by
 obtain ⟨b', o', r, h, h2, h3, h4⟩ := ow.osix hk0 hx
 rw [hv] at h
 cases h
 exact ⟨r, hv, h2, h3, h4⟩
theorem pick2 {α : Type _} {l : List α} {j k : Nat} {a b : α} (hj : l[j]? = some a) (hk : l[k]? = some b) (hne : j ≠ k) : ∃ k' : Nat, (l.eraseIdx j)[k']? = some b := by
 by_cases h : k < j
 ·exact ⟨k, by rw [List.getElem?_eraseIdx, if_pos h]; exact hk⟩
 ·exact ⟨k - 1, by rw [List.getElem?_eraseIdx, if_neg (by omega), show k - 1 + 1 = k by omega]; exact hk⟩
end
section
variable {t : T}
theorem amN : (#[] : Array Operand).map (aev t) = #[] := by simp
theorem am1 {x : Operand} {v : Value} (h : aev t x = v) : #[x].map (aev t) = #[v] := by simp [h]
theorem am2 {x y : Operand} {v u : Value} (h : aev t x = v) (h2 : aev t y = u) : #[x, y].map (aev t) = #[v, u] := by simp [h, h2]
end
namespace S
variable {P : Program} {C : CallRel} {o : Oper} {t : T} {H : AH}
theorem makeFunc' {fn : Fn} {us vs : Array Operand} {as bs : Array Value} (ho : o.op = .makeFunc fn us vs) (h1 : us.map (aev t) = as) (h2 : vs.map (aev t) = bs) : Step P C o t H .pure (.func fn as bs) H := by
 have := makeFunc (P := P) (C := C) (t := t) (H := H) ho
 rwa [h1, h2] at this
theorem maxI {x y : Operand} {ty ty' : TypeId} {a b : Int} {k : IntKind} (ho : o.op = .call { callee := .builtin .max, args := #[x, y], argTypes := #[ty, ty'] }) (hx : aev t x = .int k a) (hy : aev t y = .int k b) : Step P C o t H .pure (.int k (max a b)) H := by
 refine .p _ (.flat _ (fun z hz => ?_) (fun cs b => by rw [ho]; simp) (.atom _ (.int _ _)) (fun w => ?_))
 ·rw [ho] at hz
  simp [Op.operands, Call.operands] at hz
  rcases hz with rfl | rfl
  ·rw [hx]; exact .atom _ (.int _ _)
  ·rw [hy]; exact .atom _ (.int _ _)
 ·simp [execOp, ho, hx, hy, resolve, invoke, builtin, Builtin.max_, Builtin.max2]
  split <;> omega
end S
end Go.Vm
