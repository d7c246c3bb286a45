/-
 The law: one text just if they are the same.
-/
import Derived.Test.YtipebnimgbigoaaDoorEP02B
set_option linter.unusedSimpArgs false
set_option linter.unusedVariables false
namespace Go.Vm.G02
open Go
theorem law02_IsaTexts_law (p q : TInst) (o : OK_TInst p) (o2 : OK_TInst q) : law02_IsaTexts p q = some true := by
 unfold law02_IsaTexts
 rw [alive, Option.bind_some, if_neg (by decide)]
 rcases cases_q p with ⟨E, h1, h2, h3, h4, h5, h6, h7, h8⟩ | ⟨h3, h4, h5, h7, h8⟩
 ·have hne : tx (TX p) ≠ ByteArray.empty := fun e => TX_ne h1 h2 (tx_inj (b := []) e)
  have hf : (decide (tx (TX p) = ByteArray.empty) == true) = false := by simp [hne]
  rw [h7, Option.bind_some]
  rcases cases_q q with ⟨E', g1, g2, g3, g4, g5, g6, g7, g8⟩ | ⟨g3, g4, g5, g7, g8⟩
  ·rw [g7, Option.bind_some, h4, Option.bind_some, hf, if_neg Bool.false_ne_true, Option.bind_some, if_neg (by decide), g4, Option.bind_some, Option.bind_some]
   congr 1
   have key : (tx (TX p) = tx (TX q)) ↔ (p = q) := ⟨fun e => TX_inj h1 h2 g1 g2 h3 g3 (tx_inj e), fun e => by rw [e]⟩
   obtain ⟨po, pd, pa, pb, pi⟩ := p
   obtain ⟨qo, qd, qa, qb, qi⟩ := q
   simp only [TInst.mk.injEq] at key
   simp only [Bool.not_true, Bool.false_or, Bool.and_true]
   by_cases hw : tx (TX ⟨po, pd, pa, pb, pi⟩) = tx (TX ⟨qo, qd, qa, qb, qi⟩)
   ·obtain ⟨e1, e2, e3, e4, e5⟩ := key.1 hw
    simp [hw, e1, e2, e3, e4, e5]
   ·have : ¬ (po = qo ∧ pd = qd ∧ pa = qa ∧ pb = qb ∧ pi = qi) := fun h => hw (key.2 h)
    simp only [decide_eq_false hw]
    simp only [← Bool.decide_and]
    rw [decide_eq_false this]
    rfl
  ·rw [g7, Option.bind_some, h4, Option.bind_some, hf, if_neg Bool.false_ne_true, Option.bind_some, if_neg (by decide), g4, Option.bind_some, Option.bind_some]
   simp
 ·rw [h7, Option.bind_some]
  rcases cases_q q with ⟨E', g1, g2, g3, g4, g5, g6, g7, g8⟩ | ⟨g3, g4, g5, g7, g8⟩
  ·rw [g7, Option.bind_some, h4, Option.bind_some, if_neg (by simp), Option.bind_some, if_pos (by decide), Option.bind_some]
   simp
  ·rw [g7, Option.bind_some, h4, Option.bind_some, if_neg (by simp), Option.bind_some, if_pos (by decide), Option.bind_some]
   simp
end Go.Vm.G02
