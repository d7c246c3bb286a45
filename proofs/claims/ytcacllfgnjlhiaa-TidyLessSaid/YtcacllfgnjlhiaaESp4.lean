/-
  Part of an evaluator for the model, proved sound: no condition.
-/
import Derived.Test.YtcacllfgnjlhiaaESp3
set_option linter.unusedSimpArgs false
set_option linter.unusedVariables false
namespace Go.Vm
open Go
theorem bcase {b : Bool} {p : Prop} (ht : b = true → p) (hf : b = false → p) : p := by cases b; exact hf rfl; exact ht rfl
section
variable {P : Program} {G N : Nat} {dr : Bool} {ops : Array Oper} {i : Nat} {hist : Hist} {l : List (Nat × Value)} {V : Vw} {Q : LQ} {o : Oper} {d : Tmp} {As : List At} {k : Nat}
theorem U.joinX (m : Nat) (K : List (Nat × Value) → AH → Prop) {H : AH} (h1 : ∀ e H, K e H → WU dr P G ops m hist (e ++ l) H Q) (h2 : (∀ e H, K e H → WU dr P G ops m hist (e ++ l) H Q) → WU dr P G ops i hist l H Q) : WU dr P G ops i hist l H Q := h2 h1
theorem Ow.ospt {α : Type} {R : RT α} {v : Value} {xs : List α} (ow : Ow V As) (hk0 : As[k]? = some (.os R v xs)) {idx : Int} {x : α} (hx : ix xs idx = some x) : ∃ b o n c, v = .slice (some ⟨b, o, none⟩) n c := by
 obtain ⟨b, o, r, h, _⟩ := ow.osix hk0 hx
 exact ⟨b, o, _, _, h⟩
theorem Ow.osel {α : Type} {R : RT α} {v : Value} {xs : List α} (ow : Ow V As) (hk0 : As[k]? = some (.os R v xs)) {b o n c : Nat} (hv : v = .slice (some ⟨b, o, none⟩) n c) {idx : Int} {x : α} (hx : ix xs idx = some x) :
  ∃ r, v = .slice (some ⟨b, o, none⟩) xs.length R.sz ∧ b < V.H.next ∧ R.rel V r x ∧ ∀ (j : Nat) (u : Value), r[j]? = some u → V.H.cell b (o + idx.toNat * R.sz + j) = some u := by
 obtain ⟨b', o', r, h, h2, h3, h4⟩ := ow.osix hk0 hx
 rw [hv] at h
 cases h
 exact ⟨r, hv, h2, h3, h4⟩
theorem pick2 {α : Type _} {l : List α} {j k : Nat} {a b : α} (hj : l[j]? = some a) (hk : l[k]? = some b) (hne : j ≠ k) : ∃ k' : Nat, (l.eraseIdx j)[k']? = some b := by
 by_cases h : k < j
 ·exact ⟨k, by rw [List.getElem?_eraseIdx, if_pos h]; exact hk⟩
 ·exact ⟨k - 1, by rw [List.getElem?_eraseIdx, if_neg (by omega), show k - 1 + 1 = k by omega]; exact hk⟩
theorem Ow.two {j : Nat} {A B : At} (ow : Ow V As) (hj : As[j]? = some A) (hk : As[k]? = some B) (hne : j ≠ k) : ∃ p q, A.sat V p ∧ B.sat V q ∧ StP V (p ++ q) := by
 have h1 := ow.pick j hj
 obtain ⟨k', hk'⟩ := pick2 hj hk hne
 have h2 := h1.pick (k' + 1) (A := B) (by simpa using hk')
 obtain ⟨p0, h3, h4⟩ := h2
 obtain ⟨p1, p2, rfl, h5, h6⟩ := h4.split
 simp only [List.eraseIdx_cons_succ] at h6
 obtain ⟨p3, p4, rfl, h7, h8⟩ := h6.split
 exact ⟨p3, p1, h7, h5, (h3.perm (q := (p3 ++ p1) ++ p4) (by rw [List.append_assoc]; exact List.perm_append_comm_assoc _ _ _)).left⟩
theorem Ow.nept {j b c : Nat} {x y : AObj} (ow : Ow V As) (hj : As[j]? = some (At.pt b x)) (hk : As[k]? = some (At.pt c y)) (hne : j ≠ k) : b ≠ c := by
 intro e
 subst e
 obtain ⟨p, q, h1, h2, h3⟩ := ow.two hj hk hne
 have h1 : p = [(b, x)] := h1
 have h2 : q = [(b, y)] := h2
 subst h1 h2
 have := h3.nd
 simp at this
theorem StP.nofz {p : PH} (h : StP V p) {b : Nat} (hf : V.F b) : b ∉ p.map (·.1) := by
 intro hm
 obtain ⟨q, hq, rfl⟩ := List.mem_map.1 hm
 exact (h.own q hq).2.2.1 hf
theorem Ow.noos {α : Type} {R : RT α} {v : Value} {xs : List α} {j b : Nat} {x : AObj} (ow : Ow V As) (hj : As[j]? = some (At.pt b x)) (hk : As[k]? = some (At.os R v xs)) (hne : j ≠ k) : ∀ p, StP V p → (At.os R v xs).sat V p → b ∉ p.map (·.1) := by
 intro p hp hs hm
 obtain ⟨p3, p1, h7, h5, h3⟩ := ow.two hj hk hne
 have h7 : p3 = [(b, x)] := h7
 subst h7
 obtain ⟨_, ⟨rfl, _⟩ | ⟨b1, o1, c1, hv, rfl, _⟩⟩ := hs
 ·simp at hm
 ·have hb : b = b1 := by simpa using hm
  subst hb
  obtain ⟨_, ⟨_, hv2, _⟩ | ⟨b2, o2, c2, hv2, rfl, _⟩⟩ := h5
  ·rw [hv] at hv2; cases hv2
  ·rw [hv] at hv2
   cases hv2
   have := h3.nd
   simp at this
end
theorem preG {xs ys : List Value} {j : Nat} {v : Value} (h : xs[j]? = some v) : (xs ++ ys)[j]? = some v := by
 rw [List.getElem?_append_left (List.getElem?_eq_some_iff.1 h).1]; exact h
theorem partG {ps xs ys : List Value} {j : Nat} {v : Value} (k : Nat) (h : xs[j]? = some v) (hk : ps.length = k) : (ps ++ xs ++ ys)[k + j]? = some v := by
 subst hk
 rw [List.append_assoc, List.getElem?_append_right (by omega), Nat.add_sub_cancel_left]
 exact preG h
theorem cellsOfOwn {M : Nat → Prop} {V : Vw} {b e : Nat} {c cs : List Value} (h : Own M V b (.cells e c)) (off : Nat) (hd : (c.drop off).take cs.length = cs) : ∀ (j : Nat) (v : Value), cs[j]? = some v → V.H.cell b (off + j) = some v := fun j v hj => h.cell (by
 rw [← hd, List.getElem?_take] at hj
 split at hj
 ·rwa [List.getElem?_drop] at hj
 ·cases hj)
section
variable {t : T}
theorem amN : (#[] : Array Operand).map (aev t) = #[] := by simp
theorem am1 {x : Operand} {v : Value} (h : aev t x = v) : #[x].map (aev t) = #[v] := by simp [h]
theorem am2 {x y : Operand} {v u : Value} (h : aev t x = v) (h2 : aev t y = u) : #[x, y].map (aev t) = #[v, u] := by simp [h, h2]
theorem am3 {x y z : Operand} {v u w : Value} (h : aev t x = v) (h2 : aev t y = u) (h3 : aev t z = w) : #[x, y, z].map (aev t) = #[v, u, w] := by simp [h, h2, h3]
theorem am4 {x y z p : Operand} {v u w q : Value} (h : aev t x = v) (h2 : aev t y = u) (h3 : aev t z = w) (h4 : aev t p = q) : #[x, y, z, p].map (aev t) = #[v, u, w, q] := by simp [h, h2, h3, h4]
end
namespace S
variable {P : Program} {C : CallRel} {o : Oper} {t : T} {H : AH}
theorem makeFunc' {fn : Fn} {us vs : Array Operand} {as bs : Array Value} (ho : o.op = .makeFunc fn us vs) (h1 : us.map (aev t) = as) (h2 : vs.map (aev t) = bs) : Step P C o t H .pure (.func fn as bs) H := by
 have := makeFunc (P := P) (C := C) (t := t) (H := H) ho
 rwa [h1, h2] at this
theorem neg {ty : TypeId} {x : Operand} {k : IntKind} {a : Int} (ho : o.op = .unOp .neg ty x) (hx : aev t x = .int k a) : Step P C o t H .pure (.int k (IntKind.wrap k (0 - a))) H := by
 refine .p _ (.flat _ (fun z hz => ?_) (fun cs b => by rw [ho]; simp) (.atom _ (.int _ _)) (fun w => ?_))
 ·rw [ho] at hz
  simp [Op.operands] at hz
  rw [hz, hx]; exact .atom _ (.int _ _)
 ·simp [execOp, ho, hx, Op.unary, Op.intArith]
theorem maxI {x y : Operand} {ty ty' : TypeId} {a b : Int} {k : IntKind} (ho : o.op = .call { callee := .builtin .max, args := #[x, y], argTypes := #[ty, ty'] }) (hx : aev t x = .int k a) (hy : aev t y = .int k b) : Step P C o t H .pure (.int k (max a b)) H := by
 refine .p _ (.flat _ (fun z hz => ?_) (fun cs b => by rw [ho]; simp) (.atom _ (.int _ _)) (fun w => ?_))
 ·rw [ho] at hz
  simp [Op.operands, Call.operands] at hz
  rcases hz with rfl | rfl
  ·rw [hx]; exact .atom _ (.int _ _)
  ·rw [hy]; exact .atom _ (.int _ _)
 ·simp [execOp, ho, hx, hy, resolve, invoke, builtin, Builtin.max_, Builtin.max2]
  split <;> omega
end S
end Go.Vm
