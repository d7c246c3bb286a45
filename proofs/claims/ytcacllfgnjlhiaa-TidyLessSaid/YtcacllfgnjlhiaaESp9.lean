/-
  Part of an evaluator for the model, proved sound: no condition.
-/
import Derived.Test.YtcacllfgnjlhiaaESp8
set_option linter.unusedSimpArgs false
set_option linter.unusedVariables false
namespace Go.Vm
open Go
def Al {α : Type} (hs : List Value) (ys : List (List α)) (sz : Nat) (v : Value) (zs : List α) : Prop :=
 (v = .slice none 0 0 ∧ zs = []) ∨ ∃ (i : Int) (h : Value) (xs : List α) (b o n : Nat), hs[i.toNat]? = some h ∧ ix ys i = some xs ∧ h = .slice (some ⟨b, o, none⟩) n sz ∧ v = .slice (some ⟨b, o, none⟩) zs.length sz ∧ zs <+: xs
section
variable {α : Type} {hs : List Value} {ys : List (List α)} {sz : Nat} {v : Value} {zs : List α}
theorem Al.nil : Al hs ys sz (.slice none 0 0) [] := .inl ⟨rfl, rfl⟩
theorem Al.one (h : Al hs ys sz v zs) : One v = true := by
 rcases h with ⟨rfl, _⟩ | ⟨_, _, _, _, _, _, _, _, _, rfl, _⟩ <;> rfl
theorem Al.ne (h : Al hs ys sz v zs) : v ≠ topV := by
 rcases h with ⟨rfl, _⟩ | ⟨_, _, _, _, _, _, _, _, _, rfl, _⟩ <;> simp [topV]
theorem Al.cells (h : Al hs ys sz v zs) : v.cells = #[v] := by
 rcases h with ⟨rfl, _⟩ | ⟨_, _, _, _, _, _, _, _, _, rfl, _⟩ <;> rfl
theorem Al.len (h : Al hs ys sz v zs) {P : Program} {C : CallRel} {o : Oper} {t : T} {H1 : AH} {x : Operand} {ty e : TypeId}
  (ho : o.op = .call { callee := .builtin .len, args := #[x], argTypes := #[ty] }) (hx : aev t x = v) (hu : P.underlying ty = some (.slice e)) : Step P C o t H1 .pure (.int .i64 zs.length) H1 := by
 rcases h with ⟨rfl, rfl⟩ | ⟨_, _, _, _, _, _, _, _, _, rfl, _⟩
 ·exact S.lenNil ho hx hu
 ·exact S.len ho hx hu
theorem Al.at (h : Al hs ys sz v zs) {j : Int} {x : α} (hx : ix zs j = some x) : ∃ (i : Int) (h : Value) (xs : List α) (b o n : Nat), hs[i.toNat]? = some h ∧ ix ys i = some xs ∧ h = .slice (some ⟨b, o, none⟩) n sz ∧ v = .slice (some ⟨b, o, none⟩) zs.length sz ∧ ix xs j = some x := by
 rcases h with ⟨_, rfl⟩ | ⟨i, h, xs, b, o, n, h1, h2, h3, h4, h5⟩
 ·have := ix_get hx; simp at this
 ·refine ⟨i, h, xs, b, o, n, h1, h2, h3, h4, ?_⟩
  have h6 := ix_ge hx
  have h7 := ix_get hx
  unfold ix
  rw [if_pos h6]
  obtain ⟨t, rfl⟩ := h5
  rw [List.getElem?_append_left (List.getElem?_eq_some_iff.1 h7).1, h7]
theorem Al.of {i : Int} {h : Value} {xs : List α} {eh : Int} (hh : hs[i.toNat]? = some h) (hx : ix ys i = some xs) (hc : cutL xs 0 eh = some zs) (ha : (v = .slice none 0 0 ∧ zs = []) ∨ ∃ b o n, h = .slice (some ⟨b, o, none⟩) n sz ∧ v = .slice (some ⟨b, o, none⟩) zs.length sz) : Al hs ys sz v zs := by
 rcases ha with h | ⟨b, o, n, h1, h2⟩
 ·exact .inl h
 ·obtain ⟨a, c, h3, h4, h5, h6, rfl⟩ := cutL_eq hc
  have ha : a = 0 := by omega
  subst ha
  exact .inr ⟨i, h, xs, b, o, n, hh, hx, h1, h2, by simpa using List.take_prefix c xs⟩
end
section
variable {P : Program} {o : Oper} {t : T} {H : AH} {As : List At} {k : Nat} {C : CallRel}
theorem Ow.subA {α : Type} {R : RT α} {V : Vw} {v : Value} {xs zs : List α} (ow : Ow V As) (hk : As[k]? = some (.os R v xs)) {eh : Int} (hc : cutL xs 0 eh = some zs) {ty e : TypeId} {x : Operand} {xl xh xm : Option Operand} {z : Value} {m : Nat}
  (ho : o.op = .slice ty x xl xh xm) (hx : aev t x = v) (hu : P.underlying ty = some (.slice e)) (hi : tinfo P e z R.sz m) (hb : Bnd t xl xh xm 0 eh xs.length) :
  ∃ v', Step P C o t H .pure v' H ∧ ((v' = .slice none 0 0 ∧ zs = []) ∨ ∃ b o n, v = .slice (some ⟨b, o, none⟩) n R.sz ∧ v' = .slice (some ⟨b, o, none⟩) zs.length R.sz) := by
 obtain ⟨i, j, h0, rfl, hij, hj2, rfl⟩ := cutL_eq hc
 have hi0 : i = 0 := by omega
 subst hi0
 obtain ⟨hl, hh, hm⟩ := hb
 obtain ⟨q, h6, h7, h8, h9⟩ := tinfo_get hi
 obtain ⟨p, hp, hmax, h4⟩ := ow.osat hk
 rcases h4 with ⟨rfl, rfl, rfl⟩ | ⟨b, o', cs, rfl, rfl, ho', hr⟩
 ·have hj0 : j = 0 := by simp at hj2; omega
  subst hj0
  exact ⟨_, S.sliceNil (kk := .i64) ho hx hu hi (hl.imp (fun h => h.1) id) (hh.imp (fun h => h.1) id) hm, .inl ⟨rfl, by simp⟩⟩
 ·have hlen : ((xs.take j).drop 0).length = j - 0 := by rw [List.length_drop, List.length_take]; omega
  refine ⟨_, .p _ (.sliceS ty x xl xh xm b o' xs.length R.sz 0 j e q ho hx hu h6 ?_ ?_ hm hij hj2 (.inl (by rw [h8]))), .inr ⟨b, o', xs.length, rfl, ?_⟩⟩
  ·exact hl.imp (fun ⟨a, b⟩ => ⟨a, rfl⟩) id
  ·exact hh.imp (fun ⟨a, b⟩ => ⟨a, by omega⟩) id
  ·rw [hlen]; simp
end
section
variable {P : Program} {G N : Nat} {dr : Bool} {ops : Array Oper} {i : Nat} {hist : Hist} {l : List (Nat × Value)} {V : Vw} {Q : LQ} {o : Oper} {d : Tmp} {As : List At} {k : Nat}
theorem O.subA {α : Type} {R : RT α} {v : Value} {xs zs : List α} {eh : Int} {ty e : TypeId} {x : Operand} {xl xh xm : Option Operand} {z : Value} {m : Nat} (ow : Ow V As) (hk : As[k]? = some (.os R v xs)) (hc : cutL xs 0 eh = some zs) (ho : ops[i]? = some o) (hd : o.dst = some d) (hg : GOk ops l o)
  (hop : o.op = .slice ty x xl xh xm) (hx : aev (fr l) x = v) (hu : P.underlying ty = some (.slice e)) (hi : tinfo P e z R.sz m) (hb : Bnd (fr l) xl xh xm 0 eh xs.length) (h : ∀ v', ((v' = .slice none 0 0 ∧ zs = []) ∨ ∃ b o n, v = .slice (some ⟨b, o, none⟩) n R.sz ∧ v' = .slice (some ⟨b, o, none⟩) zs.length R.sz) → WU dr P G ops (i + 1) hist ((d, v') :: l) V.H Q) : WU dr P G ops i hist l V.H Q := by
 obtain ⟨v', h1, h2⟩ := ow.subA (C := Cl P G) (H := V.H) hk hc hop hx hu hi hb
 exact U.p ho hd hg h1 (h v' h2)
end
end Go.Vm
