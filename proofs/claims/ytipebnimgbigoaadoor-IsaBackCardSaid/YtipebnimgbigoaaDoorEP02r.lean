/-
 What is good: both say the same.
-/
import Derived.Test.YtipebnimgbigoaaDoorEP02p
set_option linter.unusedSimpArgs false
set_option linter.unusedVariables false
namespace Go.Vm.G02
open Go
theorem good_gen (p q : TInst) (xs : List Int) (okf : Int → Bool) {n f : ByteArray} {wd : Int} (h1 : 1 ≤ p.op) (h2 : p.op ≤ 22) (hu : isa_used p = some q) (hi : ix gl0 p.op = some ⟨n, f, wd⟩) (hb : bytesO f = some xs) (hn : xs.length ≤ 100) (hq : q.op = p.op)
  (h : ∀ x ∈ xs, ∃ f n v, isa_part x p = some (f, n, v, okf x)) : isa_Good p = some (decide (q.d = p.d) && (decide (q.a = p.a) && (decide (q.b = p.b) && decide (q.imm = p.imm))) && (!(decide (p.op = 21) && decide (p.imm < 0)) && xs.all okf)) := by
 have hk : ∀ x6 : Bool, isa_Good_k1 p x6 = some (!x6 && xs.all okf) := by
  intro x6
  unfold isa_Good_k1
  cases x6 with
  | true => rfl
  | false =>
   rw [if_neg (by decide), hi, Option.bind_some, hb, Option.bind_some, goodL p okf xs hn h]
   rfl
 unfold isa_Good
 rw [if_neg (by simp; omega), if_neg (by simp; omega), hu, Option.bind_some, hk, hk, hk, decide_eq_true hq]
 cases decide (q.d = p.d) <;> cases decide (q.a = p.a) <;> cases decide (q.b = p.b) <;> cases decide (q.imm = p.imm) <;> cases decide (p.op = 21) <;> cases decide (p.imm < 0) <;> rfl
def nb (h : Bool) (x : Int) : Bool := ((h && (decide (0 ≤ x))) && (decide (x ≤ 31))) || ((!h) && (decide (x = 0)))
theorem ref_gen (p : TInst) (h : Tref02_Has) (g : Bool) (ho : ref02_Of p.op = some (h, true))
  (hg : (if decide (h.imm = 0) then some (decide (p.imm = 0)) else if decide (h.imm = 4) then (remO .i64 p.imm 4).bind fun x105 => (if decide (x105 = 0) then (ref01_Fits p.imm 16).bind fun x122 => some x122 else some false).bind fun y108 => some y108 else (ref01_Fits p.imm h.imm).bind fun x134 => some x134) = some g) :
  ref02_Good p = some ((nb h.d p.d && (nb h.a p.a && nb h.b p.b)) && (!(((decide (p.op = 10)) && (((decide (p.d ≠ 4)) && (decide (p.d ≠ 12))) || (decide (2 < p.a)))) || ((decide (p.op = 21)) && (decide (p.imm < 0)))) && g)) := by
 unfold ref02_Good
 rw [ho, Option.bind_some]
 have e : ∀ y, ref02_number h.d y = some (nb h.d y) := fun _ => rfl
 have e2 : ∀ y, ref02_number h.a y = some (nb h.a y) := fun _ => rfl
 have e3 : ∀ y, ref02_number h.b y = some (nb h.b y) := fun _ => rfl
 rw [e, e2, e3]
 simp only [Option.bind_some]
 rw [hg]
 cases nb h.d p.d <;> cases nb h.a p.a <;> cases nb h.b p.b <;> cases (((decide (p.op = 10)) && (((decide (p.d ≠ 4)) && (decide (p.d ≠ 12))) || (decide (2 < p.a)))) || ((decide (p.op = 21)) && (decide (p.imm < 0)))) <;> rfl
theorem im0 (x : Int) : (if decide ((0 : Int) = 0) then some (decide (x = 0)) else if decide ((0 : Int) = 4) then (remO .i64 x 4).bind fun x105 => (if decide (x105 = 0) then (ref01_Fits x 16).bind fun x122 => some x122 else some false).bind fun y108 => some y108 else (ref01_Fits x 0).bind fun x134 => some x134) = some (decide (x = 0)) := rfl
theorem imn (x : Int) (n : Nat) (h1 : 1 ≤ n) (h2 : n < 32) (h3 : n ≠ 4) : (if decide ((n : Int) = 0) then some (decide (x = 0)) else if decide ((n : Int) = 4) then (remO .i64 x 4).bind fun x105 => (if decide (x105 = 0) then (ref01_Fits x 16).bind fun x122 => some x122 else some false).bind fun y108 => some y108 else (ref01_Fits x n).bind fun x134 => some x134) = some (ft n x) := by
 rw [if_neg (by simp; omega), if_neg (by simp; omega), rfits_i x n h1 h2]
 rfl
theorem rem4 (x : Int) : ∃ y, remO .i64 x 4 = some y ∧ (y = 0 ↔ x % 4 = 0) := by
 refine ⟨Int.tmod x 4, by unfold remO; rw [if_neg (by decide)], ?_⟩
 rw [← Int.dvd_iff_tmod_eq_zero, Int.dvd_iff_emod_eq_zero]
theorem im4 (x : Int) : (if decide ((4 : Int) = 0) then some (decide (x = 0)) else if decide ((4 : Int) = 4) then (remO .i64 x 4).bind fun x105 => (if decide (x105 = 0) then (ref01_Fits x 16).bind fun x122 => some x122 else some false).bind fun y108 => some y108 else (ref01_Fits x 4).bind fun x134 => some x134) = some (ft 16 x && decide (x % 4 = 0)) := by
 obtain ⟨y, hy, h⟩ := rem4 x
 rw [if_neg (by decide), if_pos (by decide), hy, Option.bind_some]
 have := rfits_i x 16 (by decide) (by decide)
 rw [show ((16 : Nat) : Int) = 16 from rfl] at this
 rw [this]
 by_cases hx : x % 4 = 0
 ·rw [if_pos (decide_eq_true (h.2 hx)), decide_eq_true hx, Bool.and_true]; rfl
 ·rw [if_neg (by simp; exact fun e => hx (h.1 e)), decide_eq_false hx, Bool.and_false]; rfl
variable (k d a b i : Int)
theorem ul_c_dam : isa_used_l1 ⟨k, d, a, b, i⟩ [100, 97, 109] 0 0 0 0 0 = some ⟨k, d, a, 0, i⟩ :=
 (loop_step rfl).trans <| (loop_step rfl).trans <| (loop_step rfl).trans <| loop_ret rfl
theorem u_c_dam {n f : ByteArray} {wd : Int} (hi : ix gl0 k = some ⟨n, f, wd⟩) (hb : bytesO f = some [100, 97, 109]) : isa_used ⟨k, d, a, b, i⟩ = some ⟨k, d, a, 0, i⟩ := by
 unfold isa_used
 rw [hi, Option.bind_some, hb, Option.bind_some, ul_c_dam]
theorem g_c_dam {n f : ByteArray} {wd : Int} (h1 : 1 ≤ k) (h2 : k ≤ 22) (h21 : k ≠ 21) (hi : ix gl0 k = some ⟨n, f, wd⟩) (hb : bytesO f = some [100, 97, 109]) : isa_Good ⟨k, d, a, b, i⟩ = some (decide (b = 0 ∧ 0 ≤ d ∧ d < 32 ∧ 0 ≤ a ∧ a < 32 ∧ -32768 ≤ i ∧ i < 32768 ∧ i % 4 = 0)) := by
 rw [good_gen ⟨k, d, a, b, i⟩ ⟨k, d, a, 0, i⟩ [100, 97, 109] (fun x => if x = 100 then rg d else if x = 97 then rg a else (ft 16 i && decide (i % 4 = 0))) h1 h2 (u_c_dam k d a b i hi hb) hi hb (by decide) rfl ?_]
 ·congr 1
  rw [Bool.eq_iff_iff]
  simp [rg, ft, cnd, h21]
  omega
 ·intro x hx
  simp only [List.mem_cons, List.not_mem_nil, or_false] at hx
  rcases hx with rfl | rfl | rfl
  ·exact ⟨_, _, _, part_d _⟩
  ·exact ⟨_, _, _, part_a _⟩
  ·exact ⟨_, _, _, part_m _⟩
theorem ul_c_dai : isa_used_l1 ⟨k, d, a, b, i⟩ [100, 97, 105] 0 0 0 0 0 = some ⟨k, d, a, 0, i⟩ :=
 (loop_step rfl).trans <| (loop_step rfl).trans <| (loop_step rfl).trans <| loop_ret rfl
theorem u_c_dai {n f : ByteArray} {wd : Int} (hi : ix gl0 k = some ⟨n, f, wd⟩) (hb : bytesO f = some [100, 97, 105]) : isa_used ⟨k, d, a, b, i⟩ = some ⟨k, d, a, 0, i⟩ := by
 unfold isa_used
 rw [hi, Option.bind_some, hb, Option.bind_some, ul_c_dai]
theorem g_c_dai {n f : ByteArray} {wd : Int} (h1 : 1 ≤ k) (h2 : k ≤ 22) (h21 : k ≠ 21) (hi : ix gl0 k = some ⟨n, f, wd⟩) (hb : bytesO f = some [100, 97, 105]) : isa_Good ⟨k, d, a, b, i⟩ = some (decide (b = 0 ∧ 0 ≤ d ∧ d < 32 ∧ 0 ≤ a ∧ a < 32 ∧ -32768 ≤ i ∧ i < 32768)) := by
 rw [good_gen ⟨k, d, a, b, i⟩ ⟨k, d, a, 0, i⟩ [100, 97, 105] (fun x => if x = 100 then rg d else if x = 97 then rg a else ft 16 i) h1 h2 (u_c_dai k d a b i hi hb) hi hb (by decide) rfl ?_]
 ·congr 1
  rw [Bool.eq_iff_iff]
  simp [rg, ft, cnd, h21]
  omega
 ·intro x hx
  simp only [List.mem_cons, List.not_mem_nil, or_false] at hx
  rcases hx with rfl | rfl | rfl
  ·exact ⟨_, _, _, part_d _⟩
  ·exact ⟨_, _, _, part_a _⟩
  ·exact ⟨_, _, _, part_i _⟩
theorem ul_c_dab : isa_used_l1 ⟨k, d, a, b, i⟩ [100, 97, 98] 0 0 0 0 0 = some ⟨k, d, a, b, 0⟩ :=
 (loop_step rfl).trans <| (loop_step rfl).trans <| (loop_step rfl).trans <| loop_ret rfl
theorem u_c_dab {n f : ByteArray} {wd : Int} (hi : ix gl0 k = some ⟨n, f, wd⟩) (hb : bytesO f = some [100, 97, 98]) : isa_used ⟨k, d, a, b, i⟩ = some ⟨k, d, a, b, 0⟩ := by
 unfold isa_used
 rw [hi, Option.bind_some, hb, Option.bind_some, ul_c_dab]
theorem g_c_dab {n f : ByteArray} {wd : Int} (h1 : 1 ≤ k) (h2 : k ≤ 22) (h21 : k ≠ 21) (hi : ix gl0 k = some ⟨n, f, wd⟩) (hb : bytesO f = some [100, 97, 98]) : isa_Good ⟨k, d, a, b, i⟩ = some (decide (i = 0 ∧ 0 ≤ d ∧ d < 32 ∧ 0 ≤ a ∧ a < 32 ∧ 0 ≤ b ∧ b < 32)) := by
 rw [good_gen ⟨k, d, a, b, i⟩ ⟨k, d, a, b, 0⟩ [100, 97, 98] (fun x => if x = 100 then rg d else if x = 97 then rg a else rg b) h1 h2 (u_c_dab k d a b i hi hb) hi hb (by decide) rfl ?_]
 ·congr 1
  rw [Bool.eq_iff_iff]
  simp [rg, ft, cnd, h21]
  omega
 ·intro x hx
  simp only [List.mem_cons, List.not_mem_nil, or_false] at hx
  rcases hx with rfl | rfl | rfl
  ·exact ⟨_, _, _, part_d _⟩
  ·exact ⟨_, _, _, part_a _⟩
  ·exact ⟨_, _, _, part_b _⟩
theorem ul_c_ab : isa_used_l1 ⟨k, d, a, b, i⟩ [97, 98] 0 0 0 0 0 = some ⟨k, 0, a, b, 0⟩ :=
 (loop_step rfl).trans <| (loop_step rfl).trans <| loop_ret rfl
theorem u_c_ab {n f : ByteArray} {wd : Int} (hi : ix gl0 k = some ⟨n, f, wd⟩) (hb : bytesO f = some [97, 98]) : isa_used ⟨k, d, a, b, i⟩ = some ⟨k, 0, a, b, 0⟩ := by
 unfold isa_used
 rw [hi, Option.bind_some, hb, Option.bind_some, ul_c_ab]
theorem g_c_ab {n f : ByteArray} {wd : Int} (h1 : 1 ≤ k) (h2 : k ≤ 22) (h21 : k ≠ 21) (hi : ix gl0 k = some ⟨n, f, wd⟩) (hb : bytesO f = some [97, 98]) : isa_Good ⟨k, d, a, b, i⟩ = some (decide (d = 0 ∧ i = 0 ∧ 0 ≤ a ∧ a < 32 ∧ 0 ≤ b ∧ b < 32)) := by
 rw [good_gen ⟨k, d, a, b, i⟩ ⟨k, 0, a, b, 0⟩ [97, 98] (fun x => if x = 97 then rg a else rg b) h1 h2 (u_c_ab k d a b i hi hb) hi hb (by decide) rfl ?_]
 ·congr 1
  rw [Bool.eq_iff_iff]
  simp [rg, ft, cnd, h21]
  omega
 ·intro x hx
  simp only [List.mem_cons, List.not_mem_nil, or_false] at hx
  rcases hx with rfl | rfl
  ·exact ⟨_, _, _, part_a _⟩
  ·exact ⟨_, _, _, part_b _⟩
theorem ul_c_ai : isa_used_l1 ⟨k, d, a, b, i⟩ [97, 105] 0 0 0 0 0 = some ⟨k, 0, a, 0, i⟩ :=
 (loop_step rfl).trans <| (loop_step rfl).trans <| loop_ret rfl
theorem u_c_ai {n f : ByteArray} {wd : Int} (hi : ix gl0 k = some ⟨n, f, wd⟩) (hb : bytesO f = some [97, 105]) : isa_used ⟨k, d, a, b, i⟩ = some ⟨k, 0, a, 0, i⟩ := by
 unfold isa_used
 rw [hi, Option.bind_some, hb, Option.bind_some, ul_c_ai]
theorem g_c_ai {n f : ByteArray} {wd : Int} (h1 : 1 ≤ k) (h2 : k ≤ 22) (h21 : k ≠ 21) (hi : ix gl0 k = some ⟨n, f, wd⟩) (hb : bytesO f = some [97, 105]) : isa_Good ⟨k, d, a, b, i⟩ = some (decide (d = 0 ∧ b = 0 ∧ 0 ≤ a ∧ a < 32 ∧ -32768 ≤ i ∧ i < 32768)) := by
 rw [good_gen ⟨k, d, a, b, i⟩ ⟨k, 0, a, 0, i⟩ [97, 105] (fun x => if x = 97 then rg a else ft 16 i) h1 h2 (u_c_ai k d a b i hi hb) hi hb (by decide) rfl ?_]
 ·congr 1
  rw [Bool.eq_iff_iff]
  simp [rg, ft, cnd, h21]
  omega
 ·intro x hx
  simp only [List.mem_cons, List.not_mem_nil, or_false] at hx
  rcases hx with rfl | rfl
  ·exact ⟨_, _, _, part_a _⟩
  ·exact ⟨_, _, _, part_i _⟩
theorem ul_c_co : isa_used_l1 ⟨k, d, a, b, i⟩ [99, 111] 0 0 0 0 0 = some ⟨k, d, a, 0, i⟩ :=
 (loop_step rfl).trans <| (loop_step rfl).trans <| loop_ret rfl
theorem u_c_co {n f : ByteArray} {wd : Int} (hi : ix gl0 k = some ⟨n, f, wd⟩) (hb : bytesO f = some [99, 111]) : isa_used ⟨k, d, a, b, i⟩ = some ⟨k, d, a, 0, i⟩ := by
 unfold isa_used
 rw [hi, Option.bind_some, hb, Option.bind_some, ul_c_co]
theorem g_c_co {n f : ByteArray} {wd : Int} (h1 : 1 ≤ k) (h2 : k ≤ 22) (h21 : k ≠ 21) (hi : ix gl0 k = some ⟨n, f, wd⟩) (hb : bytesO f = some [99, 111]) : isa_Good ⟨k, d, a, b, i⟩ = some (decide (b = 0 ∧ (d = 4 ∨ d = 12) ∧ 0 ≤ a ∧ a < 3 ∧ -8192 ≤ i ∧ i < 8192)) := by
 rw [good_gen ⟨k, d, a, b, i⟩ ⟨k, d, a, 0, i⟩ [99, 111] (fun x => if x = 99 then cnd d a else ft 14 i) h1 h2 (u_c_co k d a b i hi hb) hi hb (by decide) rfl ?_]
 ·congr 1
  rw [Bool.eq_iff_iff]
  simp [rg, ft, cnd, h21]
  omega
 ·intro x hx
  simp only [List.mem_cons, List.not_mem_nil, or_false] at hx
  rcases hx with rfl | rfl
  ·obtain ⟨y, e, _⟩ := part_c ⟨k, d, a, b, i⟩; exact ⟨_, _, _, e⟩
  ·exact ⟨_, _, _, part_o _⟩
theorem ul_c_l : isa_used_l1 ⟨k, d, a, b, i⟩ [108] 0 0 0 0 0 = some ⟨k, 0, 0, 0, i⟩ :=
 (loop_step rfl).trans <| loop_ret rfl
theorem u_c_l {n f : ByteArray} {wd : Int} (hi : ix gl0 k = some ⟨n, f, wd⟩) (hb : bytesO f = some [108]) : isa_used ⟨k, d, a, b, i⟩ = some ⟨k, 0, 0, 0, i⟩ := by
 unfold isa_used
 rw [hi, Option.bind_some, hb, Option.bind_some, ul_c_l]
theorem g_c_l {n f : ByteArray} {wd : Int} (h1 : 1 ≤ k) (h2 : k ≤ 22) (h21 : k ≠ 21) (hi : ix gl0 k = some ⟨n, f, wd⟩) (hb : bytesO f = some [108]) : isa_Good ⟨k, d, a, b, i⟩ = some (decide (d = 0 ∧ a = 0 ∧ b = 0 ∧ -8388608 ≤ i ∧ i < 8388608)) := by
 rw [good_gen ⟨k, d, a, b, i⟩ ⟨k, 0, 0, 0, i⟩ [108] (fun x => ft 24 i) h1 h2 (u_c_l k d a b i hi hb) hi hb (by decide) rfl ?_]
 ·congr 1
  rw [Bool.eq_iff_iff]
  simp [rg, ft, cnd, h21]
  omega
 ·intro x hx
  simp only [List.mem_cons, List.not_mem_nil, or_false] at hx
  rcases hx with rfl
  ·exact ⟨_, _, _, part_l _⟩
theorem ul_c_0 : isa_used_l1 ⟨k, d, a, b, i⟩ [] 0 0 0 0 0 = some ⟨k, 0, 0, 0, 0⟩ :=
 loop_ret rfl
theorem u_c_0 {n f : ByteArray} {wd : Int} (hi : ix gl0 k = some ⟨n, f, wd⟩) (hb : bytesO f = some []) : isa_used ⟨k, d, a, b, i⟩ = some ⟨k, 0, 0, 0, 0⟩ := by
 unfold isa_used
 rw [hi, Option.bind_some, hb, Option.bind_some, ul_c_0]
theorem g_c_0 {n f : ByteArray} {wd : Int} (h1 : 1 ≤ k) (h2 : k ≤ 22) (h21 : k ≠ 21) (hi : ix gl0 k = some ⟨n, f, wd⟩) (hb : bytesO f = some []) : isa_Good ⟨k, d, a, b, i⟩ = some (decide (d = 0 ∧ a = 0 ∧ b = 0 ∧ i = 0)) := by
 rw [good_gen ⟨k, d, a, b, i⟩ ⟨k, 0, 0, 0, 0⟩ [] (fun x => true) h1 h2 (u_c_0 k d a b i hi hb) hi hb (by decide) rfl ?_]
 ·congr 1
  rw [Bool.eq_iff_iff]
  simp [rg, ft, cnd, h21]
  omega
 ·intro x hx; cases hx
theorem ul_c_d : isa_used_l1 ⟨k, d, a, b, i⟩ [100] 0 0 0 0 0 = some ⟨k, d, 0, 0, 0⟩ :=
 (loop_step rfl).trans <| loop_ret rfl
theorem u_c_d {n f : ByteArray} {wd : Int} (hi : ix gl0 k = some ⟨n, f, wd⟩) (hb : bytesO f = some [100]) : isa_used ⟨k, d, a, b, i⟩ = some ⟨k, d, 0, 0, 0⟩ := by
 unfold isa_used
 rw [hi, Option.bind_some, hb, Option.bind_some, ul_c_d]
theorem g_c_d {n f : ByteArray} {wd : Int} (h1 : 1 ≤ k) (h2 : k ≤ 22) (h21 : k ≠ 21) (hi : ix gl0 k = some ⟨n, f, wd⟩) (hb : bytesO f = some [100]) : isa_Good ⟨k, d, a, b, i⟩ = some (decide (a = 0 ∧ b = 0 ∧ i = 0 ∧ 0 ≤ d ∧ d < 32)) := by
 rw [good_gen ⟨k, d, a, b, i⟩ ⟨k, d, 0, 0, 0⟩ [100] (fun x => rg d) h1 h2 (u_c_d k d a b i hi hb) hi hb (by decide) rfl ?_]
 ·congr 1
  rw [Bool.eq_iff_iff]
  simp [rg, ft, cnd, h21]
  omega
 ·intro x hx
  simp only [List.mem_cons, List.not_mem_nil, or_false] at hx
  rcases hx with rfl
  ·exact ⟨_, _, _, part_d _⟩
theorem ul_c_i : isa_used_l1 ⟨k, d, a, b, i⟩ [105] 0 0 0 0 0 = some ⟨k, 0, 0, 0, i⟩ :=
 (loop_step rfl).trans <| loop_ret rfl
theorem u_c_i {n f : ByteArray} {wd : Int} (hi : ix gl0 k = some ⟨n, f, wd⟩) (hb : bytesO f = some [105]) : isa_used ⟨k, d, a, b, i⟩ = some ⟨k, 0, 0, 0, i⟩ := by
 unfold isa_used
 rw [hi, Option.bind_some, hb, Option.bind_some, ul_c_i]
theorem g_c_i {n f : ByteArray} {wd : Int} (h1 : 1 ≤ k) (h2 : k ≤ 22) (h21 : k = 21) (hi : ix gl0 k = some ⟨n, f, wd⟩) (hb : bytesO f = some [105]) : isa_Good ⟨k, d, a, b, i⟩ = some (decide (d = 0 ∧ a = 0 ∧ b = 0 ∧ 0 ≤ i ∧ i < 32768)) := by
 rw [good_gen ⟨k, d, a, b, i⟩ ⟨k, 0, 0, 0, i⟩ [105] (fun x => ft 16 i) h1 h2 (u_c_i k d a b i hi hb) hi hb (by decide) rfl ?_]
 ·congr 1
  rw [Bool.eq_iff_iff]
  simp [rg, ft, cnd, h21]
  omega
 ·intro x hx
  simp only [List.mem_cons, List.not_mem_nil, or_false] at hx
  rcases hx with rfl
  ·exact ⟨_, _, _, part_i _⟩
theorem ig_1 : isa_Good ⟨1, d, a, b, i⟩ = some (decide (b = 0 ∧ 0 ≤ d ∧ d < 32 ∧ 0 ≤ a ∧ a < 32 ∧ -32768 ≤ i ∧ i < 32768 ∧ i % 4 = 0)) := g_c_dam 1 d a b i (by decide) (by decide) (by decide) gl_1 by_str2
theorem ro_1 : ref02_Of 1 = some (⟨str1, true, true, false, 4, 3892314112⟩, true) := rfl
theorem ig2_1 : ref02_Good ⟨1, d, a, b, i⟩ = some (decide (b = 0 ∧ 0 ≤ d ∧ d < 32 ∧ 0 ≤ a ∧ a < 32 ∧ -32768 ≤ i ∧ i < 32768 ∧ i % 4 = 0)) := by
 rw [ref_gen ⟨1, d, a, b, i⟩ _ _ ro_1 (im4 i)]
 congr 1
 rw [Bool.eq_iff_iff]
 simp [nb, ft]
 omega
theorem ig_2 : isa_Good ⟨2, d, a, b, i⟩ = some (decide (b = 0 ∧ 0 ≤ d ∧ d < 32 ∧ 0 ≤ a ∧ a < 32 ∧ -32768 ≤ i ∧ i < 32768 ∧ i % 4 = 0)) := g_c_dam 2 d a b i (by decide) (by decide) (by decide) gl_2 by_str2
theorem ro_2 : ref02_Of 2 = some (⟨str3, true, true, false, 4, 4160749568⟩, true) := rfl
theorem ig2_2 : ref02_Good ⟨2, d, a, b, i⟩ = some (decide (b = 0 ∧ 0 ≤ d ∧ d < 32 ∧ 0 ≤ a ∧ a < 32 ∧ -32768 ≤ i ∧ i < 32768 ∧ i % 4 = 0)) := by
 rw [ref_gen ⟨2, d, a, b, i⟩ _ _ ro_2 (im4 i)]
 congr 1
 rw [Bool.eq_iff_iff]
 simp [nb, ft]
 omega
theorem ig_3 : isa_Good ⟨3, d, a, b, i⟩ = some (decide (b = 0 ∧ 0 ≤ d ∧ d < 32 ∧ 0 ≤ a ∧ a < 32 ∧ -32768 ≤ i ∧ i < 32768)) := g_c_dai 3 d a b i (by decide) (by decide) (by decide) gl_3 by_str5
theorem ro_3 : ref02_Of 3 = some (⟨str4, true, true, false, 16, 939524096⟩, true) := rfl
theorem ig2_3 : ref02_Good ⟨3, d, a, b, i⟩ = some (decide (b = 0 ∧ 0 ≤ d ∧ d < 32 ∧ 0 ≤ a ∧ a < 32 ∧ -32768 ≤ i ∧ i < 32768)) := by
 rw [ref_gen ⟨3, d, a, b, i⟩ _ _ ro_3 (imn i 16 (by decide) (by decide) (by decide))]
 congr 1
 rw [Bool.eq_iff_iff]
 simp [nb, ft]
 omega
theorem ig_4 : isa_Good ⟨4, d, a, b, i⟩ = some (decide (i = 0 ∧ 0 ≤ d ∧ d < 32 ∧ 0 ≤ a ∧ a < 32 ∧ 0 ≤ b ∧ b < 32)) := g_c_dab 4 d a b i (by decide) (by decide) (by decide) gl_4 by_str7
theorem ro_4 : ref02_Of 4 = some (⟨str6, true, true, true, 0, 2080375316⟩, true) := rfl
theorem ig2_4 : ref02_Good ⟨4, d, a, b, i⟩ = some (decide (i = 0 ∧ 0 ≤ d ∧ d < 32 ∧ 0 ≤ a ∧ a < 32 ∧ 0 ≤ b ∧ b < 32)) := by
 rw [ref_gen ⟨4, d, a, b, i⟩ _ _ ro_4 (im0 i)]
 congr 1
 rw [Bool.eq_iff_iff]
 simp [nb, ft]
 omega
theorem ig_5 : isa_Good ⟨5, d, a, b, i⟩ = some (decide (i = 0 ∧ 0 ≤ d ∧ d < 32 ∧ 0 ≤ a ∧ a < 32 ∧ 0 ≤ b ∧ b < 32)) := g_c_dab 5 d a b i (by decide) (by decide) (by decide) gl_5 by_str7
theorem ro_5 : ref02_Of 5 = some (⟨str8, true, true, true, 0, 2080374864⟩, true) := rfl
theorem ig2_5 : ref02_Good ⟨5, d, a, b, i⟩ = some (decide (i = 0 ∧ 0 ≤ d ∧ d < 32 ∧ 0 ≤ a ∧ a < 32 ∧ 0 ≤ b ∧ b < 32)) := by
 rw [ref_gen ⟨5, d, a, b, i⟩ _ _ ro_5 (im0 i)]
 congr 1
 rw [Bool.eq_iff_iff]
 simp [nb, ft]
 omega
theorem ig_6 : isa_Good ⟨6, d, a, b, i⟩ = some (decide (i = 0 ∧ 0 ≤ d ∧ d < 32 ∧ 0 ≤ a ∧ a < 32 ∧ 0 ≤ b ∧ b < 32)) := g_c_dab 6 d a b i (by decide) (by decide) (by decide) gl_6 by_str7
theorem ro_6 : ref02_Of 6 = some (⟨str9, true, true, true, 0, 2080375250⟩, true) := rfl
theorem ig2_6 : ref02_Good ⟨6, d, a, b, i⟩ = some (decide (i = 0 ∧ 0 ≤ d ∧ d < 32 ∧ 0 ≤ a ∧ a < 32 ∧ 0 ≤ b ∧ b < 32)) := by
 rw [ref_gen ⟨6, d, a, b, i⟩ _ _ ro_6 (im0 i)]
 congr 1
 rw [Bool.eq_iff_iff]
 simp [nb, ft]
 omega
theorem ig_7 : isa_Good ⟨7, d, a, b, i⟩ = some (decide (i = 0 ∧ 0 ≤ d ∧ d < 32 ∧ 0 ≤ a ∧ a < 32 ∧ 0 ≤ b ∧ b < 32)) := g_c_dab 7 d a b i (by decide) (by decide) (by decide) gl_7 by_str7
theorem ro_7 : ref02_Of 7 = some (⟨str10, true, true, true, 0, 2080375762⟩, true) := rfl
theorem ig2_7 : ref02_Good ⟨7, d, a, b, i⟩ = some (decide (i = 0 ∧ 0 ≤ d ∧ d < 32 ∧ 0 ≤ a ∧ a < 32 ∧ 0 ≤ b ∧ b < 32)) := by
 rw [ref_gen ⟨7, d, a, b, i⟩ _ _ ro_7 (im0 i)]
 congr 1
 rw [Bool.eq_iff_iff]
 simp [nb, ft]
 omega
theorem ig_8 : isa_Good ⟨8, d, a, b, i⟩ = some (decide (d = 0 ∧ i = 0 ∧ 0 ≤ a ∧ a < 32 ∧ 0 ≤ b ∧ b < 32)) := g_c_ab 8 d a b i (by decide) (by decide) (by decide) gl_8 by_str12
theorem ro_8 : ref02_Of 8 = some (⟨str11, false, true, true, 0, 2082471936⟩, true) := rfl
theorem ig2_8 : ref02_Good ⟨8, d, a, b, i⟩ = some (decide (d = 0 ∧ i = 0 ∧ 0 ≤ a ∧ a < 32 ∧ 0 ≤ b ∧ b < 32)) := by
 rw [ref_gen ⟨8, d, a, b, i⟩ _ _ ro_8 (im0 i)]
 congr 1
 rw [Bool.eq_iff_iff]
 simp [nb, ft]
 omega
theorem ig_9 : isa_Good ⟨9, d, a, b, i⟩ = some (decide (d = 0 ∧ b = 0 ∧ 0 ≤ a ∧ a < 32 ∧ -32768 ≤ i ∧ i < 32768)) := g_c_ai 9 d a b i (by decide) (by decide) (by decide) gl_9 by_str14
theorem ro_9 : ref02_Of 9 = some (⟨str13, false, true, false, 16, 740294656⟩, true) := rfl
theorem ig2_9 : ref02_Good ⟨9, d, a, b, i⟩ = some (decide (d = 0 ∧ b = 0 ∧ 0 ≤ a ∧ a < 32 ∧ -32768 ≤ i ∧ i < 32768)) := by
 rw [ref_gen ⟨9, d, a, b, i⟩ _ _ ro_9 (imn i 16 (by decide) (by decide) (by decide))]
 congr 1
 rw [Bool.eq_iff_iff]
 simp [nb, ft]
 omega
theorem ig_10 : isa_Good ⟨10, d, a, b, i⟩ = some (decide (b = 0 ∧ (d = 4 ∨ d = 12) ∧ 0 ≤ a ∧ a < 3 ∧ -8192 ≤ i ∧ i < 8192)) := g_c_co 10 d a b i (by decide) (by decide) (by decide) gl_10 by_str16
theorem ro_10 : ref02_Of 10 = some (⟨ByteArray.empty, true, true, false, 14, 1073741824⟩, true) := rfl
theorem ig2_10 : ref02_Good ⟨10, d, a, b, i⟩ = some (decide (b = 0 ∧ (d = 4 ∨ d = 12) ∧ 0 ≤ a ∧ a < 3 ∧ -8192 ≤ i ∧ i < 8192)) := by
 rw [ref_gen ⟨10, d, a, b, i⟩ _ _ ro_10 (imn i 14 (by decide) (by decide) (by decide))]
 congr 1
 rw [Bool.eq_iff_iff]
 simp [nb, ft]
 omega
theorem ig_11 : isa_Good ⟨11, d, a, b, i⟩ = some (decide (d = 0 ∧ a = 0 ∧ b = 0 ∧ -8388608 ≤ i ∧ i < 8388608)) := g_c_l 11 d a b i (by decide) (by decide) (by decide) gl_11 by_str18
theorem ro_11 : ref02_Of 11 = some (⟨str17, false, false, false, 24, 1207959552⟩, true) := rfl
theorem ig2_11 : ref02_Good ⟨11, d, a, b, i⟩ = some (decide (d = 0 ∧ a = 0 ∧ b = 0 ∧ -8388608 ≤ i ∧ i < 8388608)) := by
 rw [ref_gen ⟨11, d, a, b, i⟩ _ _ ro_11 (imn i 24 (by decide) (by decide) (by decide))]
 congr 1
 rw [Bool.eq_iff_iff]
 simp [nb, ft]
 omega
theorem ig_12 : isa_Good ⟨12, d, a, b, i⟩ = some (decide (d = 0 ∧ a = 0 ∧ b = 0 ∧ -8388608 ≤ i ∧ i < 8388608)) := g_c_l 12 d a b i (by decide) (by decide) (by decide) gl_12 by_str18
theorem ro_12 : ref02_Of 12 = some (⟨str19, false, false, false, 24, 1207959553⟩, true) := rfl
theorem ig2_12 : ref02_Good ⟨12, d, a, b, i⟩ = some (decide (d = 0 ∧ a = 0 ∧ b = 0 ∧ -8388608 ≤ i ∧ i < 8388608)) := by
 rw [ref_gen ⟨12, d, a, b, i⟩ _ _ ro_12 (imn i 24 (by decide) (by decide) (by decide))]
 congr 1
 rw [Bool.eq_iff_iff]
 simp [nb, ft]
 omega
theorem ig_13 : isa_Good ⟨13, d, a, b, i⟩ = some (decide (d = 0 ∧ a = 0 ∧ b = 0 ∧ i = 0)) := g_c_0 13 d a b i (by decide) (by decide) (by decide) gl_13 by_nil
theorem ro_13 : ref02_Of 13 = some (⟨str20, false, false, false, 0, 1317011488⟩, true) := rfl
theorem ig2_13 : ref02_Good ⟨13, d, a, b, i⟩ = some (decide (d = 0 ∧ a = 0 ∧ b = 0 ∧ i = 0)) := by
 rw [ref_gen ⟨13, d, a, b, i⟩ _ _ ro_13 (im0 i)]
 congr 1
 rw [Bool.eq_iff_iff]
 simp [nb, ft]
 omega
theorem ig_14 : isa_Good ⟨14, d, a, b, i⟩ = some (decide (a = 0 ∧ b = 0 ∧ i = 0 ∧ 0 ≤ d ∧ d < 32)) := g_c_d 14 d a b i (by decide) (by decide) (by decide) gl_14 by_str22
theorem ro_14 : ref02_Of 14 = some (⟨str21, true, false, false, 0, 2080899750⟩, true) := rfl
theorem ig2_14 : ref02_Good ⟨14, d, a, b, i⟩ = some (decide (a = 0 ∧ b = 0 ∧ i = 0 ∧ 0 ≤ d ∧ d < 32)) := by
 rw [ref_gen ⟨14, d, a, b, i⟩ _ _ ro_14 (im0 i)]
 congr 1
 rw [Bool.eq_iff_iff]
 simp [nb, ft]
 omega
theorem ig_15 : isa_Good ⟨15, d, a, b, i⟩ = some (decide (a = 0 ∧ b = 0 ∧ i = 0 ∧ 0 ≤ d ∧ d < 32)) := g_c_d 15 d a b i (by decide) (by decide) (by decide) gl_15 by_str22
theorem ro_15 : ref02_Of 15 = some (⟨str23, true, false, false, 0, 2080900006⟩, true) := rfl
theorem ig2_15 : ref02_Good ⟨15, d, a, b, i⟩ = some (decide (a = 0 ∧ b = 0 ∧ i = 0 ∧ 0 ≤ d ∧ d < 32)) := by
 rw [ref_gen ⟨15, d, a, b, i⟩ _ _ ro_15 (im0 i)]
 congr 1
 rw [Bool.eq_iff_iff]
 simp [nb, ft]
 omega
theorem ig_16 : isa_Good ⟨16, d, a, b, i⟩ = some (decide (i = 0 ∧ 0 ≤ d ∧ d < 32 ∧ 0 ≤ a ∧ a < 32 ∧ 0 ≤ b ∧ b < 32)) := g_c_dab 16 d a b i (by decide) (by decide) (by decide) gl_16 by_str7
theorem ro_16 : ref02_Of 16 = some (⟨str24, true, true, true, 0, 2080374952⟩, true) := rfl
theorem ig2_16 : ref02_Good ⟨16, d, a, b, i⟩ = some (decide (i = 0 ∧ 0 ≤ d ∧ d < 32 ∧ 0 ≤ a ∧ a < 32 ∧ 0 ≤ b ∧ b < 32)) := by
 rw [ref_gen ⟨16, d, a, b, i⟩ _ _ ro_16 (im0 i)]
 congr 1
 rw [Bool.eq_iff_iff]
 simp [nb, ft]
 omega
theorem ig_17 : isa_Good ⟨17, d, a, b, i⟩ = some (decide (i = 0 ∧ 0 ≤ d ∧ d < 32 ∧ 0 ≤ a ∧ a < 32 ∧ 0 ≤ b ∧ b < 32)) := g_c_dab 17 d a b i (by decide) (by decide) (by decide) gl_17 by_str7
theorem ro_17 : ref02_Of 17 = some (⟨str25, true, true, true, 0, 2080375213⟩, true) := rfl
theorem ig2_17 : ref02_Good ⟨17, d, a, b, i⟩ = some (decide (i = 0 ∧ 0 ≤ d ∧ d < 32 ∧ 0 ≤ a ∧ a < 32 ∧ 0 ≤ b ∧ b < 32)) := by
 rw [ref_gen ⟨17, d, a, b, i⟩ _ _ ro_17 (im0 i)]
 congr 1
 rw [Bool.eq_iff_iff]
 simp [nb, ft]
 omega
theorem ig_18 : isa_Good ⟨18, d, a, b, i⟩ = some (decide (d = 0 ∧ a = 0 ∧ b = 0 ∧ i = 0)) := g_c_0 18 d a b i (by decide) (by decide) (by decide) gl_18 by_nil
theorem ro_18 : ref02_Of 18 = some (⟨str26, false, false, false, 0, 2080375980⟩, true) := rfl
theorem ig2_18 : ref02_Good ⟨18, d, a, b, i⟩ = some (decide (d = 0 ∧ a = 0 ∧ b = 0 ∧ i = 0)) := by
 rw [ref_gen ⟨18, d, a, b, i⟩ _ _ ro_18 (im0 i)]
 congr 1
 rw [Bool.eq_iff_iff]
 simp [nb, ft]
 omega
theorem ig_19 : isa_Good ⟨19, d, a, b, i⟩ = some (decide (d = 0 ∧ a = 0 ∧ b = 0 ∧ i = 0)) := g_c_0 19 d a b i (by decide) (by decide) (by decide) gl_19 by_nil
theorem ro_19 : ref02_Of 19 = some (⟨str27, false, false, false, 0, 2082473132⟩, true) := rfl
theorem ig2_19 : ref02_Good ⟨19, d, a, b, i⟩ = some (decide (d = 0 ∧ a = 0 ∧ b = 0 ∧ i = 0)) := by
 rw [ref_gen ⟨19, d, a, b, i⟩ _ _ ro_19 (im0 i)]
 congr 1
 rw [Bool.eq_iff_iff]
 simp [nb, ft]
 omega
theorem ig_20 : isa_Good ⟨20, d, a, b, i⟩ = some (decide (d = 0 ∧ a = 0 ∧ b = 0 ∧ i = 0)) := g_c_0 20 d a b i (by decide) (by decide) (by decide) gl_20 by_nil
theorem ro_20 : ref02_Of 20 = some (⟨str28, false, false, false, 0, 1275068716⟩, true) := rfl
theorem ig2_20 : ref02_Good ⟨20, d, a, b, i⟩ = some (decide (d = 0 ∧ a = 0 ∧ b = 0 ∧ i = 0)) := by
 rw [ref_gen ⟨20, d, a, b, i⟩ _ _ ro_20 (im0 i)]
 congr 1
 rw [Bool.eq_iff_iff]
 simp [nb, ft]
 omega
theorem ig_21 : isa_Good ⟨21, d, a, b, i⟩ = some (decide (d = 0 ∧ a = 0 ∧ b = 0 ∧ 0 ≤ i ∧ i < 32768)) := g_c_i 21 d a b i (by decide) (by decide) (by decide) gl_21 by_str30
theorem ro_21 : ref02_Of 21 = some (⟨str29, false, false, false, 16, 266338304⟩, true) := rfl
theorem ig2_21 : ref02_Good ⟨21, d, a, b, i⟩ = some (decide (d = 0 ∧ a = 0 ∧ b = 0 ∧ 0 ≤ i ∧ i < 32768)) := by
 rw [ref_gen ⟨21, d, a, b, i⟩ _ _ ro_21 (imn i 16 (by decide) (by decide) (by decide))]
 congr 1
 rw [Bool.eq_iff_iff]
 simp [nb, ft]
 omega
theorem ig_22 : isa_Good ⟨22, d, a, b, i⟩ = some (decide (a = 0 ∧ b = 0 ∧ i = 0 ∧ 0 ≤ d ∧ d < 32)) := g_c_d 22 d a b i (by decide) (by decide) (by decide) gl_22 by_str22
theorem ro_22 : ref02_Of 22 = some (⟨str31, true, false, false, 0, 1140850690⟩, true) := rfl
theorem ig2_22 : ref02_Good ⟨22, d, a, b, i⟩ = some (decide (a = 0 ∧ b = 0 ∧ i = 0 ∧ 0 ≤ d ∧ d < 32)) := by
 rw [ref_gen ⟨22, d, a, b, i⟩ _ _ ro_22 (im0 i)]
 congr 1
 rw [Bool.eq_iff_iff]
 simp [nb, ft]
 omega
end Go.Vm.G02
