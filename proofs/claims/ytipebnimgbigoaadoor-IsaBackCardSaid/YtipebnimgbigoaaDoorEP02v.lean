/-
 Both decoders, one search.
-/
import Derived.Test.YtipebnimgbigoaaDoorEP02u
set_option linter.unusedSimpArgs false
set_option linter.unusedVariables false
namespace Go.Vm.G02
open Go
theorem kn {q : TInst} (h1 : 1 ≤ q.op) (h2 : q.op ≤ 22) : ∃ g E, Kn q g E := by
 obtain ⟨op, d, a, b, i⟩ := q
 simp only at h1 h2
 obtain ⟨k, rfl⟩ : ∃ k : Nat, op = (k : Int) := ⟨op.toNat, by omega⟩
 exact kn_nat k (by omega) (by omega) d a b i
theorem rd_op (w : Nat) : ∀ k : Nat, 1 ≤ k → k ≤ 22 → (rd w k).op = k := by
 refine of22 ?_ ?_ ?_ ?_ ?_ ?_ ?_ ?_ ?_ ?_ ?_ ?_ ?_ ?_ ?_ ?_ ?_ ?_ ?_ ?_ ?_ ?_ <;> rfl
theorem rd_all {w : Nat} (hw : w < 4294967296) : ∀ k : Nat, 1 ≤ k → k ≤ 22 → isa_read k w = some (rd w k) :=
 of22 (rd_1 hw) (rd_2 hw) (rd_3 hw) (rd_4 hw) (rd_5 hw) (rd_6 hw) (rd_7 hw) (rd_8 hw) (rd_9 hw) (rd_10 hw) (rd_11 hw) (rd_12 hw) (rd_13 hw) (rd_14 hw) (rd_15 hw) (rd_16 hw) (rd_17 hw) (rd_18 hw) (rd_19 hw) (rd_20 hw) (rd_21 hw) (rd_22 hw)
theorem rf_all {w : Nat} (hw : w < 4294967296) : ∀ k : Nat, 1 ≤ k → k ≤ 22 → ref02_Decode_l1b w k = ref02_Decode_k4 w k (rd w k).d (rd w k).a (rd w k).b (rd w k).imm :=
 of22 (rf_1 hw) (rf_2 hw) (rf_3 hw) (rf_4 hw) (rf_5 hw) (rf_6 hw) (rf_7 hw) (rf_8 hw) (rf_9 hw) (rf_10 hw) (rf_11 hw) (rf_12 hw) (rf_13 hw) (rf_14 hw) (rf_15 hw) (rf_16 hw) (rf_17 hw) (rf_18 hw) (rf_19 hw) (rf_20 hw) (rf_21 hw) (rf_22 hw)
def Hit (w k : Nat) : Prop := isa_Good (rd w k) = some true ∧ isa_Encode (rd w k) = some ((w : Int), 0)
theorem steps {w k : Nat} (hw : w < 4294967296) (h1 : 1 ≤ k) (h2 : k ≤ 22) :
  (Hit w k → isa_Decode_l1b w k = some (.inr (rd w k, 0)) ∧ ref02_Decode_l1b w k = some (.inr (rd w k, true))) ∧
  (¬ Hit w k → isa_Decode_l1b w k = some (.inl ((k + 1 : Nat) : Int)) ∧ ref02_Decode_l1b w k = some (.inl ((k + 1 : Nat) : Int))) := by
 have ho := rd_op w k h1 h2
 obtain ⟨g, E, K⟩ := kn (q := rd w k) (by omega) (by omega)
 have hq : (⟨(k : Int), (rd w k).d, (rd w k).a, (rd w k).b, (rd w k).imm⟩ : TInst) = rd w k := by rw [← ho]
 have hk : w64 ((k : Int) + 1) = ((k + 1 : Nat) : Int) := w64_succ (by omega)
 have hI : ∀ e : Int × Int, isa_Encode (rd w k) = some e → isa_Decode_l1b w k = if (decide (e.2 = 0)) && (decide (e.1 = (w : Int))) then some (.inr (rd w k, 0)) else some (.inl ((k + 1 : Nat) : Int)) := by
  intro e he
  unfold isa_Decode_l1b
  rw [if_pos (decide_eq_true (by omega)), rd_all hw k h1 h2, Option.bind_some, he, Option.bind_some, hk]
  rfl
 have hR : ref02_Decode_l1b w k = if g && decide (E = (w : Int)) then some (.inr (rd w k, true)) else some (.inl ((k + 1 : Nat) : Int)) := by
  rw [rf_all hw k h1 h2]
  unfold ref02_Decode_k4
  rw [hq, K.g2, Option.bind_some, hk]
  cases g with
  | false => rfl
  | true =>
   rw [if_pos rfl, K.e2 rfl]
   simp only [Option.bind_some, Bool.true_and]
   rfl
 cases g with
 | false =>
  refine ⟨fun h => ?_, fun _ => ⟨hI _ (K.e0 rfl), hR⟩⟩
  have := h.1.symm.trans K.g1
  cases this
 | true =>
  have e1 := hI _ (K.e1 rfl)
  refine ⟨fun h => ?_, fun h => ?_⟩
  ·have hE : E = (w : Int) := congrArg Prod.fst (Option.some.inj ((K.e1 rfl).symm.trans h.2))
   rw [e1, hR, decide_eq_true hE]
   exact ⟨rfl, rfl⟩
  ·have hE : E ≠ (w : Int) := fun hE => h ⟨K.g1, by rw [K.e1 rfl, hE]⟩
   rw [e1, hR, decide_eq_false hE]
   exact ⟨rfl, rfl⟩
theorem search {w : Nat} (hw : w < 4294967296) : ∀ n k : Nat, 1 ≤ k → k + n = 23 →
  (∃ j, k ≤ j ∧ j ≤ 22 ∧ Hit w j ∧ isa_Decode_l1 w k = some (rd w j, 0) ∧ ref02_Decode_l1 w k = some (rd w j, true)) ∨
  ((∀ j, k ≤ j → j ≤ 22 → ¬ Hit w j) ∧ isa_Decode_l1 w k = some (⟨0, 0, 0, 0, 0⟩, 4) ∧ ref02_Decode_l1 w k = some (⟨0, 0, 0, 0, 0⟩, false)) := by
 intro n
 induction n with
 | zero =>
  intro k h1 h2
  have : k = 23 := by omega
  subst this
  exact .inr ⟨fun j h3 h4 => by omega, loop_ret rfl, loop_ret rfl⟩
 | succ n ih =>
  intro k h1 h2
  obtain ⟨s1, s2⟩ := steps hw h1 (show k ≤ 22 by omega)
  by_cases hk : Hit w k
  ·obtain ⟨a1, a2⟩ := s1 hk
   exact .inl ⟨k, by omega, by omega, hk, loop_ret a1, loop_ret a2⟩
  ·obtain ⟨a1, a2⟩ := s2 hk
   have e1 : isa_Decode_l1 w k = isa_Decode_l1 w ((k + 1 : Nat) : Int) := loop_step a1
   have e2 : ref02_Decode_l1 w k = ref02_Decode_l1 w ((k + 1 : Nat) : Int) := loop_step a2
   rw [e1, e2]
   rcases ih (k + 1) (by omega) (by omega) with ⟨j, h3, h4, h5, h6, h7⟩ | ⟨h3, h4, h5⟩
   ·exact .inl ⟨j, by omega, h4, h5, h6, h7⟩
   ·refine .inr ⟨fun j h6 h7 => ?_, h4, h5⟩
    by_cases e : j = k
    ·rw [e]; exact hk
    ·exact h3 j (by omega) h7
theorem decode {w : Nat} (hw : w < 4294967296) :
  (∃ j, 1 ≤ j ∧ j ≤ 22 ∧ Hit w j ∧ isa_Decode w = some (rd w j, 0) ∧ ref02_Decode w = some (rd w j, true)) ∨
  ((∀ j, 1 ≤ j → j ≤ 22 → ¬ Hit w j) ∧ isa_Decode w = some (⟨0, 0, 0, 0, 0⟩, 4) ∧ ref02_Decode w = some (⟨0, 0, 0, 0, 0⟩, false)) :=
 search hw 22 1 (by omega) (by omega)
theorem alive : law02_alive = some true := by
 unfold law02_alive
 have h1 : isa_Encode (⟨1, 3, 4, 0, 8⟩ : TInst) = some (3898867720, 0) := en_1 3 4 0 8 (by decide)
 have h2 : isa_Decode 0 = some (⟨0, 0, 0, 0, 0⟩, 4) := by
  rcases decode (w := 0) (by decide) with ⟨j, h3, h4, h5, _⟩ | ⟨_, h, _⟩
  ·have ho := rd_op 0 j h3 h4
   obtain ⟨g, E, K⟩ := kn (q := rd 0 j) (by omega) (by omega)
   have hg : g = true := Option.some.inj (K.g1.symm.trans h5.1)
   have hE : E = ((0 : Nat) : Int) := congrArg Prod.fst (Option.some.inj ((K.e1 hg).symm.trans h5.2))
   have := K.pos hg
   omega
  ·exact h
 rw [h1, Option.bind_some, h2, Option.bind_some]
 rfl
theorem back {p : TInst} {w : Int} (h1 : 1 ≤ p.op) (h2 : p.op ≤ 22) (hg : isa_Good p = some true) (he : isa_Encode p = some (w, 0)) : isa_Decode w = some (p, 0) ∧ 0 < w ∧ w < 4294967296 ∧ rd w.toNat p.op.toNat = p ∧ ky w.toNat = kv p.op.toNat := by
 obtain ⟨g, E, K⟩ := kn h1 h2
 have hgt : g = true := Option.some.inj (K.g1.symm.trans hg)
 have hE : E = w := congrArg Prod.fst (Option.some.inj ((K.e1 hgt).symm.trans he))
 subst hE
 have hp := K.pos hgt
 have hrt := K.rt hgt
 have hky := K.ke hgt
 refine ⟨?_, hp.1, hp.2, hrt, hky⟩
 obtain ⟨n, rfl⟩ : ∃ n : Nat, E = (n : Int) := ⟨E.toNat, by omega⟩
 rw [Int.toNat_natCast] at hrt hky
 rcases decode (w := n) (by omega) with ⟨j, h3, h4, h5, h6, _⟩ | ⟨h3, _⟩
 ·have ho := rd_op n j h3 h4
  obtain ⟨g', E', K'⟩ := kn (q := rd n j) (by omega) (by omega)
  have hg' : g' = true := Option.some.inj (K'.g1.symm.trans h5.1)
  have hE' : E' = (n : Int) := congrArg Prod.fst (Option.some.inj ((K'.e1 hg').symm.trans h5.2))
  have hk2 := K'.ke hg'
  rw [hE', Int.toNat_natCast, hky, ho, Int.toNat_natCast] at hk2
  have hj := kv_inj (by omega) (by omega) h3 h4 hk2
  rw [h6, ← hj, hrt]
 ·exfalso
  refine h3 p.op.toNat (by omega) (by omega) ⟨?_, ?_⟩
  ·rw [hrt]; exact hg
  ·rw [hrt]; exact he
end Go.Vm.G02
