/-
 The law of what is read back.
-/
import Derived.Test.YtipebnimgbigoaaDoorEP02v
import Derived.Test.YtipebnimgbigoaaDoorEOG02
set_option linter.unusedSimpArgs false
set_option linter.unusedVariables false
namespace Go.Vm.G02
open Go
theorem enc_cases (q : TInst) : (∃ E, 1 ≤ q.op ∧ q.op ≤ 22 ∧ isa_Good q = some true ∧ isa_Encode q = some (E, 0)) ∨ isa_Encode q = some (0, 1) := by
 by_cases h1 : 1 ≤ q.op
 ·by_cases h2 : q.op ≤ 22
  ·obtain ⟨g, E, K⟩ := kn h1 h2
   cases g with
   | true => exact .inl ⟨E, h1, h2, K.g1, K.e1 rfl⟩
   | false => exact .inr (K.e0 rfl)
  ·refine .inr (enc_bad q ?_)
   unfold isa_Good
   rw [if_neg (by simp; omega), if_pos (by simp; omega)]
   rfl
 ·refine .inr (enc_bad q ?_)
  unfold isa_Good
  rw [if_pos (by simp; omega)]
  rfl
theorem law02_IsaBack_law (p q : TInst) (o : OK_TInst p) (o2 : OK_TInst q) : law02_IsaBack p q = some true := by
 unfold law02_IsaBack
 rw [alive, Option.bind_some, if_neg (by decide)]
 rcases enc_cases p with ⟨w, h1, h2, h3, h4⟩ | h
 ·obtain ⟨b1, b2, b3, b4, b5⟩ := back h1 h2 h3 h4
  rw [h4, Option.bind_some]
  rcases enc_cases q with ⟨v, g1, g2, g3, g4⟩ | g
  ·obtain ⟨c1, c2, c3, c4, c5⟩ := back g1 g2 g3 g4
   rw [g4, Option.bind_some, if_neg (by simp), b1, Option.bind_some]
   congr 1
   have key : (w = v) ↔ (p = q) := by
    constructor
    ·intro e
     subst e
     have e2 := kv_inj (by omega) (by omega) (by omega) (by omega) (b5.symm.trans c5)
     rw [e2] at b4
     exact b4.symm.trans c4
    ·intro e
     subst e
     exact congrArg Prod.fst (Option.some.inj (h4.symm.trans g4))
   obtain ⟨po, pd, pa, pb, pi⟩ := p
   obtain ⟨qo, qd, qa, qb, qi⟩ := q
   simp only [TInst.mk.injEq] at key
   simp only [decide_true, Bool.and_self, Bool.true_and, Bool.and_true, ne_eq, not_true_eq_false, decide_false, Bool.false_or]
   by_cases hw : w = v
   ·obtain ⟨e1, e2, e3, e4, e5⟩ := key.1 hw
    simp [hw, e1, e2, e3, e4, e5]
   ·have : ¬ (po = qo ∧ pd = qd ∧ pa = qa ∧ pb = qb ∧ pi = qi) := fun h => hw (key.2 h)
    simp only [decide_eq_false hw]
    simp only [← Bool.decide_and]
    rw [decide_eq_false this]
    rfl
  ·rw [g, Option.bind_some, if_neg (by simp), b1, Option.bind_some]
   simp
 ·rw [h]
  rcases enc_cases q with ⟨v, g1, g2, g3, g4⟩ | g
  ·rw [g4]; rfl
  ·rw [g]; rfl
end Go.Vm.G02
