/-
  Coherent, Synced and Serial are what the reference says.
-/
import Derived.Test.YtbmkccjfldmgiaaEP21d
set_option linter.unusedSimpArgs false
set_option linter.unusedVariables false
namespace Go.Vm.G21
open Go

theorem Serial_is (run : List (List TEvent)) (hr : run.length ≤ 1000) (ht : total run ≤ 1000) : Ok (order_Run_Serial_2 run) (fun b => b = true ↔ ¬ cyc (nods (fun _ => true) run) [1, 2, 3, 4]) := by
  unfold order_Run_Serial_2
  rw [nodes2_is run hr ht]
  exact ways_is _ (Nat.le_trans (nods_len _ run) ht) [1, 2, 3, 4] (by decide) (by decide)
theorem Coherent_is (run : List (List TEvent)) (hr : run.length ≤ 1000) (ht : total run ≤ 1000) : Ok (order_Run_Coherent_2 run) (fun b => b = true ↔ ¬ cyc (nods (fun _ => true) run) [0, 2, 3, 4]) := by
  unfold order_Run_Coherent_2
  rw [nodes2_is run hr ht]
  exact ways_is _ (Nat.le_trans (nods_len _ run) ht) [0, 2, 3, 4] (by decide) (by decide)
theorem SyncedR_is (run : List (List TEvent)) (hr : run.length ≤ 1000) (ht : total run ≤ 1000) : Ok (order_Run_Synced run) (fun b => b = true ↔ ¬ cyc (nods syB run) [1, 2, 3, 4]) := by
  unfold order_Run_Synced
  rw [nodes3_is run hr ht]
  exact ways_is _ (Nat.le_trans (nods_len _ run) ht) [1, 2, 3, 4] (by decide) (by decide)
theorem Acyclic_is (run : List (List TEvent)) (hr : run.length ≤ 1000) (ht : total run ≤ 1000) (only place : Bool) : Ok (ref21_Acyclic run only place) (fun b => b = true ↔ ¬ cyc (nods (fun a => !only || syB a) run) [if place then 0 else 1, 2, 3, 4]) := by
  have hl := Nat.le_trans (nods_len (fun a => !only || syB a) run) ht
  unfold ref21_Acyclic
  rw [Nodes_is run hr ht only]
  simp only [Option.bind_some]
  rw [List.length_map, matrix_is _ hl]
  simp only [Option.bind_some]
  refine (Acyclic_l1_is _ hl place).mono fun b hb => ?_
  rw [hb, wy_gr]
  unfold cyc
  exact ⟨fun h ⟨i, hi⟩ => h i hi, fun h i hi => h ⟨i, hi⟩⟩
theorem beq_of {a b : Bool} {P : Prop} (h1 : a = true ↔ P) (h2 : b = true ↔ P) : (a == b) = true := by
  cases a <;> cases b <;> simp_all
theorem law21_OrderWays_law (run : List (List TEvent)) (h : OKw (OKw OK_TEvent) run) : law21_OrderWays run = some true := by
  unfold law21_OrderWays
  rw [alive_is]
  simp only [Option.bind_some, Bool.not_true, Bool.false_eq_true, if_false]
  refine Ok.some_of ((great_is run h).bind fun g hg => ?_)
  refine Ok.bind (P := fun b => b = false → g = false) (.ite (fun _ => .ret (fun h => by cases h)) (fun hgf => (good_ok run h).bind fun _ _ => .ret fun _ => hgf)) (fun b hb => ?_)
  refine .ite (fun _ => .ret rfl) (fun hbf => ?_)
  obtain ⟨hr5, ht24⟩ := hg (hb hbf)
  have hr : run.length ≤ 1000 := by omega
  have ht : total run ≤ 1000 := by omega
  refine (Coherent_is run hr ht).bind fun c hc => (Acyclic_is run hr ht false true).bind fun c' hc' => ?_
  have e1 : (c == c') = true := beq_of hc hc'
  rw [if_pos e1]
  have hs2 : (fun a => !true || syB a) = syB := by funext a; rfl
  refine Ok.bind (P := fun y => y = true) ((SyncedR_is run hr ht).bind fun c hc => (Acyclic_is run hr ht true false).bind fun c' hc' => .ret ?_) (fun y hy => ?_)
  · rw [hs2] at hc'
    exact beq_of hc hc'
  · rw [hy, if_pos rfl]
    refine Ok.bind (P := fun y => y = true) ((Serial_is run hr ht).bind fun c hc => (Acyclic_is run hr ht false false).bind fun c' hc' => .ret ?_) (fun y hy => .ret hy)
    exact beq_of hc hc'
end Go.Vm.G21
