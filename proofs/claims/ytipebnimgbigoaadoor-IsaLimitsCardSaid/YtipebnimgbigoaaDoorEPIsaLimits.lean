/-
 The law of the limits.
-/
import Derived.Test.YtipebnimgbigoaaDoorEP02v
import Derived.Test.YtipebnimgbigoaaDoorEOG02
set_option linter.unusedSimpArgs false
set_option linter.unusedVariables false
namespace Go.Vm.G02
open Go
theorem lk2 {k c s x62 x65 x76 : Int} (e : Bool) (he : decide (c = 0) = e) (h1 : isa_Good ⟨k, x76, 0, 0, w64 (w64 (x62 - s) + w64 (s * c))⟩ = some e) (h2 : isa_Good ⟨k, x76, 0, 0, w64 (x65 - w64 (s * c))⟩ = some e) : law02_IsaLimits_k2 k c s x62 x65 x76 = some true := by
 unfold law02_IsaLimits_k2
 rw [h1, h2, he]
 cases e <;> rfl
theorem of_out {k : Int} (h : k < 1 ∨ 22 < k) : ref02_Of k = some (⟨ByteArray.empty, false, false, false, 0, 0⟩, false) := by
 unfold ref02_Of
 rw [if_neg (by simp; omega), if_neg (by simp; omega), if_neg (by simp; omega), if_neg (by simp; omega), if_neg (by simp; omega), if_neg (by simp; omega), if_neg (by simp; omega), if_neg (by simp; omega), if_neg (by simp; omega), if_neg (by simp; omega), if_neg (by simp; omega), if_neg (by simp; omega), if_neg (by simp; omega), if_neg (by simp; omega), if_neg (by simp; omega), if_neg (by simp; omega), if_neg (by simp; omega), if_neg (by simp; omega), if_neg (by simp; omega), if_neg (by simp; omega), if_neg (by simp; omega), if_neg (by simp; omega)]
theorem lim_1_0 : law02_IsaLimits_k1 1 0 16 4 = some true :=
 (show law02_IsaLimits_k1 1 0 16 4 = law02_IsaLimits_k2 1 0 4 32768 (-32768) 0 from rfl).trans (lk2 true rfl ((ig_1 _ _ _ _).trans (congrArg some (by decide))) ((ig_1 _ _ _ _).trans (congrArg some (by decide))))
theorem lim_1_1 : law02_IsaLimits_k1 1 1 16 4 = some true :=
 (show law02_IsaLimits_k1 1 1 16 4 = law02_IsaLimits_k2 1 1 4 32768 (-32768) 0 from rfl).trans (lk2 false rfl ((ig_1 _ _ _ _).trans (congrArg some (by decide))) ((ig_1 _ _ _ _).trans (congrArg some (by decide))))
theorem lim_1_2 : law02_IsaLimits_k1 1 2 16 4 = some true :=
 (show law02_IsaLimits_k1 1 2 16 4 = law02_IsaLimits_k2 1 2 4 32768 (-32768) 0 from rfl).trans (lk2 false rfl ((ig_1 _ _ _ _).trans (congrArg some (by decide))) ((ig_1 _ _ _ _).trans (congrArg some (by decide))))
theorem lim_1_3 : law02_IsaLimits_k1 1 3 16 4 = some true :=
 (show law02_IsaLimits_k1 1 3 16 4 = law02_IsaLimits_k2 1 3 4 32768 (-32768) 0 from rfl).trans (lk2 false rfl ((ig_1 _ _ _ _).trans (congrArg some (by decide))) ((ig_1 _ _ _ _).trans (congrArg some (by decide))))
theorem lim_2_0 : law02_IsaLimits_k1 2 0 16 4 = some true :=
 (show law02_IsaLimits_k1 2 0 16 4 = law02_IsaLimits_k2 2 0 4 32768 (-32768) 0 from rfl).trans (lk2 true rfl ((ig_2 _ _ _ _).trans (congrArg some (by decide))) ((ig_2 _ _ _ _).trans (congrArg some (by decide))))
theorem lim_2_1 : law02_IsaLimits_k1 2 1 16 4 = some true :=
 (show law02_IsaLimits_k1 2 1 16 4 = law02_IsaLimits_k2 2 1 4 32768 (-32768) 0 from rfl).trans (lk2 false rfl ((ig_2 _ _ _ _).trans (congrArg some (by decide))) ((ig_2 _ _ _ _).trans (congrArg some (by decide))))
theorem lim_2_2 : law02_IsaLimits_k1 2 2 16 4 = some true :=
 (show law02_IsaLimits_k1 2 2 16 4 = law02_IsaLimits_k2 2 2 4 32768 (-32768) 0 from rfl).trans (lk2 false rfl ((ig_2 _ _ _ _).trans (congrArg some (by decide))) ((ig_2 _ _ _ _).trans (congrArg some (by decide))))
theorem lim_2_3 : law02_IsaLimits_k1 2 3 16 4 = some true :=
 (show law02_IsaLimits_k1 2 3 16 4 = law02_IsaLimits_k2 2 3 4 32768 (-32768) 0 from rfl).trans (lk2 false rfl ((ig_2 _ _ _ _).trans (congrArg some (by decide))) ((ig_2 _ _ _ _).trans (congrArg some (by decide))))
theorem lim_3_0 : law02_IsaLimits_k1 3 0 16 1 = some true :=
 (show law02_IsaLimits_k1 3 0 16 1 = law02_IsaLimits_k2 3 0 1 32768 (-32768) 0 from rfl).trans (lk2 true rfl ((ig_3 _ _ _ _).trans (congrArg some (by decide))) ((ig_3 _ _ _ _).trans (congrArg some (by decide))))
theorem lim_3_1 : law02_IsaLimits_k1 3 1 16 1 = some true :=
 (show law02_IsaLimits_k1 3 1 16 1 = law02_IsaLimits_k2 3 1 1 32768 (-32768) 0 from rfl).trans (lk2 false rfl ((ig_3 _ _ _ _).trans (congrArg some (by decide))) ((ig_3 _ _ _ _).trans (congrArg some (by decide))))
theorem lim_3_2 : law02_IsaLimits_k1 3 2 16 1 = some true :=
 (show law02_IsaLimits_k1 3 2 16 1 = law02_IsaLimits_k2 3 2 1 32768 (-32768) 0 from rfl).trans (lk2 false rfl ((ig_3 _ _ _ _).trans (congrArg some (by decide))) ((ig_3 _ _ _ _).trans (congrArg some (by decide))))
theorem lim_3_3 : law02_IsaLimits_k1 3 3 16 1 = some true :=
 (show law02_IsaLimits_k1 3 3 16 1 = law02_IsaLimits_k2 3 3 1 32768 (-32768) 0 from rfl).trans (lk2 false rfl ((ig_3 _ _ _ _).trans (congrArg some (by decide))) ((ig_3 _ _ _ _).trans (congrArg some (by decide))))
theorem lim_9_0 : law02_IsaLimits_k1 9 0 16 1 = some true :=
 (show law02_IsaLimits_k1 9 0 16 1 = law02_IsaLimits_k2 9 0 1 32768 (-32768) 0 from rfl).trans (lk2 true rfl ((ig_9 _ _ _ _).trans (congrArg some (by decide))) ((ig_9 _ _ _ _).trans (congrArg some (by decide))))
theorem lim_9_1 : law02_IsaLimits_k1 9 1 16 1 = some true :=
 (show law02_IsaLimits_k1 9 1 16 1 = law02_IsaLimits_k2 9 1 1 32768 (-32768) 0 from rfl).trans (lk2 false rfl ((ig_9 _ _ _ _).trans (congrArg some (by decide))) ((ig_9 _ _ _ _).trans (congrArg some (by decide))))
theorem lim_9_2 : law02_IsaLimits_k1 9 2 16 1 = some true :=
 (show law02_IsaLimits_k1 9 2 16 1 = law02_IsaLimits_k2 9 2 1 32768 (-32768) 0 from rfl).trans (lk2 false rfl ((ig_9 _ _ _ _).trans (congrArg some (by decide))) ((ig_9 _ _ _ _).trans (congrArg some (by decide))))
theorem lim_9_3 : law02_IsaLimits_k1 9 3 16 1 = some true :=
 (show law02_IsaLimits_k1 9 3 16 1 = law02_IsaLimits_k2 9 3 1 32768 (-32768) 0 from rfl).trans (lk2 false rfl ((ig_9 _ _ _ _).trans (congrArg some (by decide))) ((ig_9 _ _ _ _).trans (congrArg some (by decide))))
theorem lim_10_0 : law02_IsaLimits_k1 10 0 14 1 = some true :=
 (show law02_IsaLimits_k1 10 0 14 1 = law02_IsaLimits_k2 10 0 1 8192 (-8192) 12 from rfl).trans (lk2 true rfl ((ig_10 _ _ _ _).trans (congrArg some (by decide))) ((ig_10 _ _ _ _).trans (congrArg some (by decide))))
theorem lim_10_1 : law02_IsaLimits_k1 10 1 14 1 = some true :=
 (show law02_IsaLimits_k1 10 1 14 1 = law02_IsaLimits_k2 10 1 1 8192 (-8192) 12 from rfl).trans (lk2 false rfl ((ig_10 _ _ _ _).trans (congrArg some (by decide))) ((ig_10 _ _ _ _).trans (congrArg some (by decide))))
theorem lim_10_2 : law02_IsaLimits_k1 10 2 14 1 = some true :=
 (show law02_IsaLimits_k1 10 2 14 1 = law02_IsaLimits_k2 10 2 1 8192 (-8192) 12 from rfl).trans (lk2 false rfl ((ig_10 _ _ _ _).trans (congrArg some (by decide))) ((ig_10 _ _ _ _).trans (congrArg some (by decide))))
theorem lim_10_3 : law02_IsaLimits_k1 10 3 14 1 = some true :=
 (show law02_IsaLimits_k1 10 3 14 1 = law02_IsaLimits_k2 10 3 1 8192 (-8192) 12 from rfl).trans (lk2 false rfl ((ig_10 _ _ _ _).trans (congrArg some (by decide))) ((ig_10 _ _ _ _).trans (congrArg some (by decide))))
theorem lim_11_0 : law02_IsaLimits_k1 11 0 24 1 = some true :=
 (show law02_IsaLimits_k1 11 0 24 1 = law02_IsaLimits_k2 11 0 1 8388608 (-8388608) 0 from rfl).trans (lk2 true rfl ((ig_11 _ _ _ _).trans (congrArg some (by decide))) ((ig_11 _ _ _ _).trans (congrArg some (by decide))))
theorem lim_11_1 : law02_IsaLimits_k1 11 1 24 1 = some true :=
 (show law02_IsaLimits_k1 11 1 24 1 = law02_IsaLimits_k2 11 1 1 8388608 (-8388608) 0 from rfl).trans (lk2 false rfl ((ig_11 _ _ _ _).trans (congrArg some (by decide))) ((ig_11 _ _ _ _).trans (congrArg some (by decide))))
theorem lim_11_2 : law02_IsaLimits_k1 11 2 24 1 = some true :=
 (show law02_IsaLimits_k1 11 2 24 1 = law02_IsaLimits_k2 11 2 1 8388608 (-8388608) 0 from rfl).trans (lk2 false rfl ((ig_11 _ _ _ _).trans (congrArg some (by decide))) ((ig_11 _ _ _ _).trans (congrArg some (by decide))))
theorem lim_11_3 : law02_IsaLimits_k1 11 3 24 1 = some true :=
 (show law02_IsaLimits_k1 11 3 24 1 = law02_IsaLimits_k2 11 3 1 8388608 (-8388608) 0 from rfl).trans (lk2 false rfl ((ig_11 _ _ _ _).trans (congrArg some (by decide))) ((ig_11 _ _ _ _).trans (congrArg some (by decide))))
theorem lim_12_0 : law02_IsaLimits_k1 12 0 24 1 = some true :=
 (show law02_IsaLimits_k1 12 0 24 1 = law02_IsaLimits_k2 12 0 1 8388608 (-8388608) 0 from rfl).trans (lk2 true rfl ((ig_12 _ _ _ _).trans (congrArg some (by decide))) ((ig_12 _ _ _ _).trans (congrArg some (by decide))))
theorem lim_12_1 : law02_IsaLimits_k1 12 1 24 1 = some true :=
 (show law02_IsaLimits_k1 12 1 24 1 = law02_IsaLimits_k2 12 1 1 8388608 (-8388608) 0 from rfl).trans (lk2 false rfl ((ig_12 _ _ _ _).trans (congrArg some (by decide))) ((ig_12 _ _ _ _).trans (congrArg some (by decide))))
theorem lim_12_2 : law02_IsaLimits_k1 12 2 24 1 = some true :=
 (show law02_IsaLimits_k1 12 2 24 1 = law02_IsaLimits_k2 12 2 1 8388608 (-8388608) 0 from rfl).trans (lk2 false rfl ((ig_12 _ _ _ _).trans (congrArg some (by decide))) ((ig_12 _ _ _ _).trans (congrArg some (by decide))))
theorem lim_12_3 : law02_IsaLimits_k1 12 3 24 1 = some true :=
 (show law02_IsaLimits_k1 12 3 24 1 = law02_IsaLimits_k2 12 3 1 8388608 (-8388608) 0 from rfl).trans (lk2 false rfl ((ig_12 _ _ _ _).trans (congrArg some (by decide))) ((ig_12 _ _ _ _).trans (congrArg some (by decide))))
theorem law02_IsaLimits_law (p0 p1 p2 : Int) (o0 : InR .i64 p0) (o1 : InR .i64 p1) (o2 : InR .i64 p2) : law02_IsaLimits p0 p1 p2 = some true := by
 unfold law02_IsaLimits
 rw [alive, Option.bind_some, if_neg (by decide)]
 by_cases hp : p2 < 0 ∨ 3 < p2
 ·rw [if_pos (by simp; exact hp)]
 rw [if_neg (by simp; omega)]
 by_cases hk : p0 < 1 ∨ 22 < p0
 ·rw [of_out hk]; rfl
 obtain ⟨k, rfl⟩ : ∃ k : Nat, p0 = (k : Int) := ⟨p0.toNat, by omega⟩
 have hc : p2 = 0 ∨ p2 = 1 ∨ p2 = 2 ∨ p2 = 3 := by omega
 clear o0 o1 o2 hp
 have h1 : 1 ≤ k := by omega
 have h2 : k ≤ 22 := by omega
 clear hk
 revert k
 refine of22 ?_ ?_ ?_ ?_ ?_ ?_ ?_ ?_ ?_ ?_ ?_ ?_ ?_ ?_ ?_ ?_ ?_ ?_ ?_ ?_ ?_ ?_
 ·show (ref02_Of 1).bind _ = _
  rw [ro_1, Option.bind_some]
  rcases hc with rfl | rfl | rfl | rfl
  ·exact lim_1_0
  ·exact lim_1_1
  ·exact lim_1_2
  ·exact lim_1_3
 ·show (ref02_Of 2).bind _ = _
  rw [ro_2, Option.bind_some]
  rcases hc with rfl | rfl | rfl | rfl
  ·exact lim_2_0
  ·exact lim_2_1
  ·exact lim_2_2
  ·exact lim_2_3
 ·show (ref02_Of 3).bind _ = _
  rw [ro_3, Option.bind_some]
  rcases hc with rfl | rfl | rfl | rfl
  ·exact lim_3_0
  ·exact lim_3_1
  ·exact lim_3_2
  ·exact lim_3_3
 ·show (ref02_Of 4).bind _ = _
  rw [ro_4, Option.bind_some]
  rfl
 ·show (ref02_Of 5).bind _ = _
  rw [ro_5, Option.bind_some]
  rfl
 ·show (ref02_Of 6).bind _ = _
  rw [ro_6, Option.bind_some]
  rfl
 ·show (ref02_Of 7).bind _ = _
  rw [ro_7, Option.bind_some]
  rfl
 ·show (ref02_Of 8).bind _ = _
  rw [ro_8, Option.bind_some]
  rfl
 ·show (ref02_Of 9).bind _ = _
  rw [ro_9, Option.bind_some]
  rcases hc with rfl | rfl | rfl | rfl
  ·exact lim_9_0
  ·exact lim_9_1
  ·exact lim_9_2
  ·exact lim_9_3
 ·show (ref02_Of 10).bind _ = _
  rw [ro_10, Option.bind_some]
  rcases hc with rfl | rfl | rfl | rfl
  ·exact lim_10_0
  ·exact lim_10_1
  ·exact lim_10_2
  ·exact lim_10_3
 ·show (ref02_Of 11).bind _ = _
  rw [ro_11, Option.bind_some]
  rcases hc with rfl | rfl | rfl | rfl
  ·exact lim_11_0
  ·exact lim_11_1
  ·exact lim_11_2
  ·exact lim_11_3
 ·show (ref02_Of 12).bind _ = _
  rw [ro_12, Option.bind_some]
  rcases hc with rfl | rfl | rfl | rfl
  ·exact lim_12_0
  ·exact lim_12_1
  ·exact lim_12_2
  ·exact lim_12_3
 ·show (ref02_Of 13).bind _ = _
  rw [ro_13, Option.bind_some]
  rfl
 ·show (ref02_Of 14).bind _ = _
  rw [ro_14, Option.bind_some]
  rfl
 ·show (ref02_Of 15).bind _ = _
  rw [ro_15, Option.bind_some]
  rfl
 ·show (ref02_Of 16).bind _ = _
  rw [ro_16, Option.bind_some]
  rfl
 ·show (ref02_Of 17).bind _ = _
  rw [ro_17, Option.bind_some]
  rfl
 ·show (ref02_Of 18).bind _ = _
  rw [ro_18, Option.bind_some]
  rfl
 ·show (ref02_Of 19).bind _ = _
  rw [ro_19, Option.bind_some]
  rfl
 ·show (ref02_Of 20).bind _ = _
  rw [ro_20, Option.bind_some]
  rfl
 ·show (ref02_Of 21).bind _ = _
  rw [ro_21, Option.bind_some]
  rfl
 ·show (ref02_Of 22).bind _ = _
  rw [ro_22, Option.bind_some]
  rfl
end Go.Vm.G02
