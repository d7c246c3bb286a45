/-
 What the document tells: a thread that only ends.
-/
import Derived.Test.YtlcjnalocidldaaDoorEKW3
set_option linter.unusedSimpArgs false
set_option linter.unusedVariables false
namespace Go.Vm.K17
open Go
def n0 : TNote := ⟨0, 0, false, false⟩
def i1 : TInst := ⟨3, 1, 1, 0, -88⟩
def i2 : TInst := ⟨21, 0, 0, 0, 0⟩
def tim : TImage := ⟨[941752232, 266338304], [n0, n0], [0]⟩
theorem dec1 : isa_Decode 941752232 = some (i1, 0) :=
 (back (p := ⟨3, 1, 1, 0, -88⟩) (w := 941752232) (by decide) (by decide) ((ig_3 1 1 0 (-88)).trans (congrArg some (by decide))) ((en_3 1 1 0 (-88) (by decide)).trans rfl)).1
theorem dec2 : isa_Decode 266338304 = some (i2, 0) :=
 (back (p := ⟨21, 0, 0, 0, 0⟩) (w := 266338304) (by decide) (by decide) ((ig_21 0 0 0 0).trans (congrArg some (by decide))) ((en_21 0 0 0 0 (by decide)).trans rfl)).1
theorem good0 : image_Good tim = some true := by
 have h2 : image_Good_l2 tim 0 = some true := (loop_step (s' := 1) rfl).trans (loop_ret rfl)
 unfold image_Good
 rw [if_neg (by decide)]
 unfold image_Good_l1
 refine (loop_step (s' := 1) ?_).trans ((loop_step (s' := 2) ?_).trans (loop_ret ?_))
 ·show image_Good_l1b tim 0 = _
  unfold image_Good_l1b
  rw [if_pos (by decide), show ix tim.code 0 = some 941752232 from rfl, Option.bind_some, dec1]
  rfl
 ·show image_Good_l1b tim 1 = _
  unfold image_Good_l1b
  rw [if_pos (by decide), show ix tim.code 1 = some 266338304 from rfl, Option.bind_some, dec2]
  rfl
 ·show image_Good_l1b tim 2 = _
  unfold image_Good_l1b
  rw [if_neg (by decide), h2]
  rfl
def R0 : Nat → Int := upA (upA (upA (upA (fun _ => 0) 1 (w64 (268451840 + (w64 (65536 * 0))))) 2 (w64 (1048576 * (w64 (0 + 1))))) 27 (w64 (1024 * (w64 (0 + 1))))) 28 (w64 ((w64 (1048576 * (w64 (0 + 1)))) + 4096))
def W0 : Twindow_Window := ⟨tim, 0, R0, [], 0, 0, false, false, 0, 0, []⟩
def s1 : TSlot := ⟨w64 (0 + 1), 0, i1, n0, w64 (0 + 1), false, false, 0, 0, 0, 0⟩
def W1 : Twindow_Window := ⟨tim, 0, R0, [s1], w64 (0 + 1), w64 (0 + 1), false, false, 0, 0, []⟩
def s2 : TSlot := ⟨w64 (w64 (0 + 1) + 1), w64 (0 + 1), i2, n0, w64 (w64 (0 + 1) + 1), true, false, 0, 0, 0, 0⟩
def W2 : Twindow_Window := ⟨tim, 0, R0, [s1, s2], w64 (w64 (0 + 1) + 1), w64 (w64 (0 + 1) + 1), false, false, 0, 0, []⟩
theorem new0 : window_New tim 0 = some W0 := by
 unfold window_New
 rw [good0, Option.bind_some, if_neg (by decide)]
 rfl
theorem mf0 : window_Window_MayFetch W0 = some true := by
 unfold window_Window_MayFetch
 rw [if_neg (by decide), if_neg (by decide), if_neg (by decide)]
 unfold window_Window_MayFetch_k1
 rw [if_neg (by decide), c1_is _ (by decide), Option.bind_some, if_neg (by decide), show ix W0.img.code W0.pc = some 941752232 from rfl, Option.bind_some, dec1]
 rfl
theorem f0 : window_Window_Fetch W0 false = some (0, W1) := by
 unfold window_Window_Fetch
 rw [mf0, Option.bind_some, if_neg (by decide), show ix W0.img.code W0.pc = some 941752232 from rfl, Option.bind_some, dec1]
 rfl
theorem mf1 : window_Window_MayFetch W1 = some true := by
 unfold window_Window_MayFetch
 rw [if_neg (by decide), if_neg (by decide), if_neg (by decide)]
 unfold window_Window_MayFetch_k1
 rw [if_neg (by decide), c1_is _ (by decide), Option.bind_some, if_neg (by decide), show ix W1.img.code W1.pc = some 266338304 from rfl, Option.bind_some, dec2]
 rfl
theorem f1 : window_Window_Fetch W1 false = some (0, W2) := by
 unfold window_Window_Fetch
 rw [mf1, Option.bind_some, if_neg (by decide), show ix W1.img.code W1.pc = some 266338304 from rfl, Option.bind_some, dec2]
 rfl
section
variable {S : Tstorage_Storage}
theorem early : window_Window_MayCommit W2 1 false S = some false := by
 have h1 : cutL W2.slots 0 1 = some [s1] := rfl
 have h3 : slices_ContainsFunc_3 [s1] S = some false := by
  unfold slices_ContainsFunc_3 slices_IndexFunc_3 slices_IndexFunc_3_l1
  rw [(loop_step (s' := 1) rfl).trans (loop_ret (r := -1) rfl)]
  rfl
 have h2 : window_Window_fenced W2 1 S = some true := by
  unfold window_Window_fenced
  rw [h1, Option.bind_some, h3]
  rfl
 unfold window_Window_MayCommit
 rw [show window_Window_slot W2 1 = some true from rfl, Option.bind_some, show ix W2.slots 1 = some s2 from rfl, h1]
 simp only [Option.bind_some]
 rw [c2_is _ (by decide), c4_is _ (by decide), h2]
 rfl
def x1 : Int := w64 (R0 1 + i1.imm)
def s1d : TSlot := ⟨w64 (0 + 1), 0, i1, n0, w64 (0 + 1), true, false, 0, 0, 0, 0⟩
def s1x : TSlot := ⟨w64 (0 + 1), 0, i1, n0, w64 (0 + 1), true, false, x1, 0, 0, 0⟩
def W3 : Twindow_Window := ⟨tim, 0, R0, [s1x, s2], w64 (w64 (0 + 1) + 1), w64 (w64 (0 + 1) + 1), false, false, 0, 0, []⟩
theorem reg0 (W : Twindow_Window) : window_Window_reg W 0 1 = some (W.regs 1, true) := loop_ret rfl
theorem reck (W : Twindow_Window) (s : TSlot) (h : ix W.slots 0 = some s) (hi : s.i = i1) : window_Window_reckon W 0 = some (w64 (W.regs 1 + i1.imm), true) := by
 unfold window_Window_reckon
 rw [h, Option.bind_some, hi, if_pos (by decide)]
 unfold window_Window_base
 rw [if_neg (by decide), show i1.a = 1 from rfl, reg0]
 rfl
theorem me0 : window_Window_MayExec W2 0 S = some true := by
 unfold window_Window_MayExec
 rw [show window_Window_slot W2 0 = some true from rfl, Option.bind_some, show ix W2.slots 0 = some s1 from rfl, reck W2 s1 rfl rfl]
 rfl
theorem ex0 : window_Window_Exec W2 0 S = some (0, W3) := by
 unfold window_Window_Exec
 rw [me0, Option.bind_some, if_neg (by decide), show ix W2.slots 0 = some s1 from rfl, Option.bind_some]
 show ((ix [s1d, s2] 0).bind fun x195 => _) = _
 rw [show ix [s1d, s2] 0 = some s1d from rfl, Option.bind_some]
 show ((window_Window_reckon ⟨tim, 0, R0, [s1d, s2], w64 (w64 (0 + 1) + 1), w64 (w64 (0 + 1) + 1), false, false, 0, 0, []⟩ 0).bind fun x340 => _) = _
 rw [reck ⟨tim, 0, R0, [s1d, s2], w64 (w64 (0 + 1) + 1), w64 (w64 (0 + 1) + 1), false, false, 0, 0, []⟩ s1d rfl rfl]
 rfl
def s1c : TSlot := ⟨w64 (0 + 1), 0, i1, n0, w64 (0 + 1), true, true, x1, 0, 0, 0⟩
def W4 : Twindow_Window := ⟨tim, 0, upA R0 1 x1, [s2], w64 (w64 (0 + 1) + 1), w64 (w64 (0 + 1) + 1), false, false, 0, 0, [s1c]⟩
theorem mc3 : window_Window_MayCommit W3 0 false S = some true := by
 unfold window_Window_MayCommit
 rw [show window_Window_slot W3 0 = some true from rfl, Option.bind_some, show ix W3.slots 0 = some s1x from rfl, show cutL W3.slots 0 0 = some [] from rfl]
 simp only [Option.bind_some]
 rw [c2_is _ (by decide)]
 rfl
theorem cm3 : window_Window_Commit W3 0 false S = some (0, W4, S) := by
 have hr : window_Window_Retire ⟨tim, 0, R0, [s1c, s2], w64 (w64 (0 + 1) + 1), w64 (w64 (0 + 1) + 1), false, false, 0, 0, []⟩ S = some W4 := by
  unfold window_Window_Retire window_Window_Retire_l1
  exact (loop_step (s' := (upA R0 1 x1, [s2], [s1c])) rfl).trans (loop_ret rfl)
 unfold window_Window_Commit
 rw [mc3, Option.bind_some, if_neg (by decide), show ix W3.slots 0 = some s1x from rfl, Option.bind_some]
 show ((window_Window_Retire ⟨tim, 0, R0, [s1c, s2], w64 (w64 (0 + 1) + 1), w64 (w64 (0 + 1) + 1), false, false, 0, 0, []⟩ S).bind fun x117 => some (0, x117, S)) = _
 rw [hr]
 rfl
def s2c : TSlot := ⟨w64 (w64 (0 + 1) + 1), w64 (0 + 1), i2, n0, w64 (w64 (0 + 1) + 1), true, true, 0, 0, 0, 0⟩
def W5 : Twindow_Window := ⟨tim, 0, upA R0 1 x1, [], w64 (w64 (0 + 1) + 1), w64 (w64 (0 + 1) + 1), true, false, 0, 0, [s1c, s2c]⟩
theorem mc4 : window_Window_MayCommit W4 0 false S = some true := by
 have h1 : cutL W4.slots 0 0 = some [] := rfl
 have h3 : slices_ContainsFunc_3 [] S = some false := by
  unfold slices_ContainsFunc_3 slices_IndexFunc_3 slices_IndexFunc_3_l1
  rw [loop_ret (r := -1) rfl]
  rfl
 have h2 : window_Window_fenced W4 0 S = some true := by
  unfold window_Window_fenced
  rw [h1, Option.bind_some, h3]
  rfl
 unfold window_Window_MayCommit
 rw [show window_Window_slot W4 0 = some true from rfl, Option.bind_some, show ix W4.slots 0 = some s2 from rfl, h1]
 simp only [Option.bind_some]
 rw [c2_is _ (by decide), c4_is _ (by decide), h2]
 rfl
theorem cm4 : window_Window_Commit W4 0 false S = some (0, W5, S) := by
 have hr : window_Window_Retire ⟨tim, 0, upA R0 1 x1, [s2c], w64 (w64 (0 + 1) + 1), w64 (w64 (0 + 1) + 1), true, false, 0, 0, [s1c]⟩ S = some W5 := by
  unfold window_Window_Retire window_Window_Retire_l1
  exact (loop_step (s' := (upA R0 1 x1, [], [s1c, s2c])) rfl).trans (loop_ret rfl)
 unfold window_Window_Commit
 rw [mc4, Option.bind_some, if_neg (by decide), show ix W4.slots 0 = some s2 from rfl, Option.bind_some]
 show ((window_Window_Retire ⟨tim, 0, upA R0 1 x1, [s2c], w64 (w64 (0 + 1) + 1), w64 (w64 (0 + 1) + 1), true, false, 0, 0, [s1c]⟩ S).bind fun x117 => some (0, x117, S)) = _
 rw [hr]
 rfl
end
theorem alive_is : law17_alive = some true := by
 unfold law17_alive
 rw [show law17_tiny = some tim from rfl, Option.bind_some, new0, Option.bind_some, M.New_is, Option.bind_some, f0, Option.bind_some, f1, Option.bind_some, early, Option.bind_some, ex0, Option.bind_some, cm3, Option.bind_some, cm4, Option.bind_some]
 rfl
end Go.Vm.K17
