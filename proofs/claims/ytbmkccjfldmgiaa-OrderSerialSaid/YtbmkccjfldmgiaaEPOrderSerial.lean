/-
  What is Serial is Coherent and Synced.
-/
import Derived.Test.YtbmkccjfldmgiaaEPOrderWays
set_option linter.unusedSimpArgs false
set_option linter.unusedVariables false
namespace Go.Vm.G21
open Go

theorem gr_at {l : List Torder_node} {ks : List Nat} {i j : Nat} (h : gr l ks i j = true) : ∃ x y, l[i]? = some x ∧ l[j]? = some y ∧ i ≠ j ∧ ∃ k ∈ ks, rl k x y = true := by
  unfold gr at h
  split at h
  · rename_i x y hx hy
    have h2 := (Bool.and_eq_true _ _).mp h
    exact ⟨x, y, hx, hy, of_decide_eq_true h2.1, by simpa using h2.2⟩
  · cases h
theorem gr_of {l : List Torder_node} {ks : List Nat} {i j k : Nat} {x y : Torder_node} (hx : l[i]? = some x) (hy : l[j]? = some y) (hij : i ≠ j) (hk : k ∈ ks) (h : rl k x y = true) : gr l ks i j = true := by
  unfold gr
  rw [hx, hy]
  show (_ && _) = true
  rw [decide_eq_true hij, Bool.true_and]
  exact List.any_eq_true.2 ⟨k, hk, h⟩
theorem cyc_place {l : List Torder_node} (h : cyc l [0, 2, 3, 4]) : cyc l [1, 2, 3, 4] := by
  obtain ⟨i, hi⟩ := h
  refine ⟨i, hi.mono fun a b ⟨h1, h2, h3⟩ => ⟨h1, h2, ?_⟩⟩
  obtain ⟨x, y, hx, hy, hne, k, hk, hr⟩ := gr_at h3
  have hk : k = 0 ∨ k = 2 ∨ k = 3 ∨ k = 4 := by simpa using hk
  rcases hk with rfl | rfl | rfl | rfl
  · exact gr_of hx hy hne (k := 1) (by simp) ((Bool.and_eq_true _ _).mp hr).1
  · exact gr_of hx hy hne (k := 2) (by simp) hr
  · exact gr_of hx hy hne (k := 3) (by simp) hr
  · exact gr_of hx hy hne (k := 4) (by simp) hr
theorem cyc_sub {l l' : List Torder_node} {ks : List Nat} (hs : l'.Sublist l) (h : cyc l' ks) : cyc l ks := by
  obtain ⟨i, hi⟩ := h
  obtain ⟨f, hf, hf2⟩ := sub_emb hs
  refine ⟨f i, hi.map fun a b ⟨h1, h2, h3⟩ => ?_⟩
  obtain ⟨x, y, hx, hy, hne, k, hk, hr⟩ := gr_at h3
  have hfx := hf2 a x hx
  have hfy := hf2 b y hy
  refine ⟨(List.getElem?_eq_some_iff.1 hfx).1, (List.getElem?_eq_some_iff.1 hfy).1, gr_of hfx hfy ?_ hk hr⟩
  rcases Nat.lt_or_gt_of_ne hne with h | h
  · have := hf a b h; omega
  · have := hf b a h; omega
theorem rowI_sub (q : TAct → Bool) : ∀ (l : List TEvent) (i : Nat), (rowI q l i).Sublist (rowI (fun _ => true) l i)
  | [], _ => .slnil
  | e :: l, i => by
    rw [rowI, rowI]
    refine List.Sublist.append ?_ (rowI_sub q l (i + 1))
    cases h : wrB e.act || rdB e.act with
    | false => exact .slnil
    | true =>
      cases q e.act with
      | false => exact List.nil_sublist _
      | true => exact List.Sublist.refl _
theorem nods_sub (q : TAct → Bool) : ∀ (run : List (List TEvent)), (nods q run).Sublist (nods (fun _ => true) run)
  | [] => .slnil
  | l :: run => by
    unfold nods
    rw [List.flatMap_cons, List.flatMap_cons]
    exact List.Sublist.append (rowI_sub q l 0) (nods_sub q run)
theorem law21_OrderSerial_law (run : List (List TEvent)) (h : OKw (OKw OK_TEvent) run) : law21_OrderSerial run = some true := by
  unfold law21_OrderSerial
  rw [alive_is]
  simp only [Option.bind_some, Bool.not_true, Bool.false_eq_true, if_false]
  refine Ok.some_of ((great_is run h).bind fun g hg => ?_)
  refine Ok.bind (P := fun b => b = false → g = false) (.ite (fun _ => .ret (fun h => by cases h)) (fun hgf => (good_ok run h).bind fun _ _ => .ret fun _ => hgf)) (fun b hb => ?_)
  refine .ite (fun _ => .ret rfl) (fun hbf => ?_)
  obtain ⟨hr5, ht24⟩ := hg (hb hbf)
  have hr : run.length ≤ 1000 := by omega
  have ht : total run ≤ 1000 := by omega
  refine (Serial_is run hr ht).bind fun s hs => Ok.bind (P := fun y => y = true) (.ite (fun _ => .ret rfl) (fun hsf => ?_)) (fun y hy => .ret hy)
  have hac := hs.1 (by simpa using hsf)
  refine (Coherent_is run hr ht).bind fun c hc => ?_
  rw [if_pos (hc.2 fun h => hac (cyc_place h))]
  refine Ok.bind (P := fun y => y = true) ((SyncedR_is run hr ht).bind fun c hc => .ret ?_) (fun y hy => .ret hy)
  exact hc.2 fun h => hac (cyc_sub (nods_sub syB run) h)
end Go.Vm.G21
