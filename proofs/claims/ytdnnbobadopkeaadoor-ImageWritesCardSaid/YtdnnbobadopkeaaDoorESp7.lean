/-
  Part of an evaluator for the model, proved sound: no condition.
-/
import Derived.Test.YtdnnbobadopkeaaDoorESp3
set_option linter.unusedSimpArgs false
set_option linter.unusedVariables false
namespace Go.Vm
open Go
structure RO (α : Type) where
 ref : Value → α → At
 one : ∀ V p v x, (ref v x).sat V p → One v = true ∧ v ≠ topV ∧ v.cells = #[v]
 det : ∀ V p q v x y, (ref v x).sat V p → (ref v y).sat V q → StP V p → StP V q → p = q
theorem one_det {V : Vw} {b : Nat} {x y : AObj} (h : StP V [(b, x)]) (h' : StP V [(b, y)]) : [(b, x)] = [(b, y)] := by
 have h1 := (h.own (b, x) (by simp)).2.2.2
 have h2 := (h'.own (b, y) (by simp)).2.2.2
 simp only at h1 h2
 rw [h1] at h2
 cases h2
 rfl
def RO.os {α : Type} (R : RT α) : RO (List α) := ⟨fun v x => .os R v x, fun V p v x h => by
 obtain ⟨_, ⟨_, rfl, _⟩ | ⟨b, o, cs, rfl, _⟩⟩ := h <;> exact ⟨rfl, by simp [topV], rfl⟩, fun V p q v x y h h' hp hq => by
 obtain ⟨_, ⟨rfl, hv, _⟩ | ⟨b, o, cs, hv, rfl, _⟩⟩ := h <;> obtain ⟨_, ⟨rfl, hv', _⟩ | ⟨b', o', cs', hv', rfl, _⟩⟩ := h' <;> rw [hv] at hv'
 ·cases hv'
 ·cases hv'
 ·injection hv' with e1 _ _
  injection e1 with e1
  injection e1 with e1 _ _
  subst e1
  exact one_det hp hq⟩
inductive AllO {α : Type} (RI : RO α) (V : Vw) : PH → List Value → List α → Prop
 | nil : AllO RI V [] [] []
 | cons (p q : PH) (v : Value) (x : α) (vs : List Value) (xs : List α) (h : (RI.ref v x).sat V p) (h' : AllO RI V q vs xs) : AllO RI V (p ++ q) (v :: vs) (x :: xs)
section
variable {α : Type} {RI : RO α} {V V' : Vw} {p : PH} {vs us : List Value} {xs ys : List α}
theorem AllO.len (h : AllO RI V p vs xs) : vs.length = xs.length := by
 induction h with
 | nil => rfl
 | cons p q v x vs xs h _ ih => simp [ih]
end
section
variable {α : Type} {RI : RO α} {V V' : Vw} {v : Value} {hs : List Value} {xs : List α} {As : List At} {k : Nat}
end
section
variable {P : Program} {G N : Nat} {dr : Bool} {ops : Array Oper} {i : Nat} {hist : Hist} {l : List (Nat × Value)} {V : Vw} {Q : LQ} {o : Oper} {d : Tmp} {As : List At} {k : Nat} {α : Type} {RI : RO α} {v : Value} {hs : List Value} {xs : List α}
end
section
variable {α : Type} {RI : RO α} {V : Vw} {v : Value} {hs : List Value} {xs : List α} {As : List At} {k : Nat}
end
section
variable {α : Type} {RI : RO α} {V : Vw} {v : Value} {hs : List Value} {xs ys : List α} {As : List At} {k : Nat}
end
end Go.Vm
namespace Go.Vm
open Go
section
variable {α : Type} {RI : RO α} {V : Vw} {p : PH} {v0 v1 v2 v3 v4 : Value} {x0 x1 x2 x3 x4 : α}
end
section
variable {P : Program} {G N : Nat} {dr : Bool} {ops : Array Oper} {i : Nat} {hist : Hist} {l : List (Nat × Value)} {V : Vw} {Q : LQ} {o : Oper} {d : Tmp} {As : List At} {k : Nat}
theorem O.indexV {α : Type} {R : RT α} {V0 : Vw} {xs : List α} {ty el : TypeId} {x y : Operand} {cs : List Value} {kk : IntKind} {idx : Int} {n : Nat} {dd : TypeDesc} {z : Value} {m : Nat} {w : α} (hr : Rows R.rel V0 cs xs) (h1 : R.sz = 1) (ho : ops[i]? = some o) (hd : o.dst = some d) (hg : GOk ops l o) (hop : o.op = .index ty x y) (hx : aev (fr l) x = .agg cs.toArray) (hy : aev (fr l) y = .int kk idx)
  (hu : P.underlying ty = some (.array n el)) (hn : xs.length = n) (hdd : P.underlying el = some dd) (ha : isAggD dd = false) (hi : tinfo P el z 1 m) (hw : ix xs idx = some w) (h : ∀ u, R.rel V0 [u] w → WU dr P G ops (i + 1) hist ((d, u) :: l) V.H Q) : WU dr P G ops i hist l V.H Q := by
 obtain ⟨u, h2, h3⟩ := S.indexV (C := Cl P G) (H := V.H) hr h1 hop hx hy hu hn hdd ha hi hw
 exact U.p ho hd hg h3 (h u h2)
end
section
variable {V V1 : Vw} {As Bs : List At} {k j : Nat} {A A' : At} {q : PH}
end
end Go.Vm
namespace Go.Vm
open Go
def Al {α : Type} (hs : List Value) (ys : List (List α)) (sz : Nat) (v : Value) (zs : List α) : Prop :=
 (v = .slice none 0 0 ∧ zs = []) ∨ ∃ (i : Int) (h : Value) (xs : List α) (b o n : Nat), hs[i.toNat]? = some h ∧ ix ys i = some xs ∧ h = .slice (some ⟨b, o, none⟩) n sz ∧ v = .slice (some ⟨b, o, none⟩) zs.length sz ∧ zs <+: xs
section
variable {α : Type} {hs : List Value} {ys : List (List α)} {sz : Nat} {v : Value} {zs : List α}
theorem Al.nil : Al hs ys sz (.slice none 0 0) [] := .inl ⟨rfl, rfl⟩
theorem Al.len (h : Al hs ys sz v zs) {P : Program} {C : CallRel} {o : Oper} {t : T} {H1 : AH} {x : Operand} {ty e : TypeId}
  (ho : o.op = .call { callee := .builtin .len, args := #[x], argTypes := #[ty] }) (hx : aev t x = v) (hu : P.underlying ty = some (.slice e)) : Step P C o t H1 .pure (.int .i64 zs.length) H1 := by
 rcases h with ⟨rfl, rfl⟩ | ⟨_, _, _, _, _, _, _, _, _, rfl, _⟩
 ·exact S.lenNil ho hx hu
 ·exact S.len ho hx hu
theorem Al.at (h : Al hs ys sz v zs) {j : Int} {x : α} (hx : ix zs j = some x) : ∃ (i : Int) (h : Value) (xs : List α) (b o n : Nat), hs[i.toNat]? = some h ∧ ix ys i = some xs ∧ h = .slice (some ⟨b, o, none⟩) n sz ∧ v = .slice (some ⟨b, o, none⟩) zs.length sz ∧ ix xs j = some x := by
 rcases h with ⟨_, rfl⟩ | ⟨i, h, xs, b, o, n, h1, h2, h3, h4, h5⟩
 ·have := ix_get hx; simp at this
 ·refine ⟨i, h, xs, b, o, n, h1, h2, h3, h4, ?_⟩
  have h6 := ix_ge hx
  have h7 := ix_get hx
  unfold ix
  rw [if_pos h6]
  obtain ⟨t, rfl⟩ := h5
  rw [List.getElem?_append_left (List.getElem?_eq_some_iff.1 h7).1, h7]
theorem Al.of {i : Int} {h : Value} {xs : List α} {eh : Int} (hh : hs[i.toNat]? = some h) (hx : ix ys i = some xs) (hc : cutL xs 0 eh = some zs) (ha : (v = .slice none 0 0 ∧ zs = []) ∨ ∃ b o n, h = .slice (some ⟨b, o, none⟩) n sz ∧ v = .slice (some ⟨b, o, none⟩) zs.length sz) : Al hs ys sz v zs := by
 rcases ha with h | ⟨b, o, n, h1, h2⟩
 ·exact .inl h
 ·obtain ⟨a, c, h3, h4, h5, h6, rfl⟩ := cutL_eq hc
  have ha : a = 0 := by omega
  subst ha
  exact .inr ⟨i, h, xs, b, o, n, hh, hx, h1, h2, by simpa using List.take_prefix c xs⟩
end
section
variable {P : Program} {o : Oper} {t : T} {H : AH} {As : List At} {k : Nat} {C : CallRel}
end
section
variable {P : Program} {G N : Nat} {dr : Bool} {ops : Array Oper} {i : Nat} {hist : Hist} {l : List (Nat × Value)} {V : Vw} {Q : LQ} {o : Oper} {d : Tmp} {As : List At} {k : Nat}
end
end Go.Vm
