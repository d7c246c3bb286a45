/-
 Variables of a program that a row lists, one behind the other: a table of numbers; what stands behind the first.
-/
import Derived.Test.YtipebnimgbigoaaDoorESp14
import Derived.Test.YtipebnimgbigoaaDoorESp16
set_option linter.unusedSimpArgs false
set_option linter.unusedVariables false
namespace Go.Vm
open Go Go.RowKit Go.ChangeShapes Go.WideShapes Go.ChangeAt
theorem laid_tail {P : Program} {x : String × DataW Unit} {r : List (String × DataW Unit)} {w : World} (h : laidMet P (x :: r) w) : laidMet P r w := by
 obtain ⟨ps, ⟨g, t, cs, fuel, p, q, h1, h2, h3, h4, h5, h6⟩, h7, h8⟩ := h
 subst h6
 exact ⟨q, h5, (List.nodup_append.1 h7).2.1, fun b off hp => h8 b off (List.mem_append_right _ hp)⟩
theorem var_tb {P : Program} {W : World} {name : String} {k : IntKind} {zs : List Int} {rest : List (String × DataW Unit)} {g : Nat} {t e : TypeId} {n : Nat} {d : DataW Unit}
  (hg : P.globalNamed name = some g) (hty : (P.globals[g]?).map (·.type) = some t) (ht : P.underlying t = some (.array n e)) (he : P.underlying e = some (.int k)) (hce : P.cellsOf e = 1) (hct : P.cellsOf t = n)
  (hd : d = Lib.tabData k zs) (h : laidMet P ((name, d) :: rest) W) : Tb (V0of W) g k zs ∧ g < W.heap.size := by
 subst hd
 have hv := Lib.tabIs_of_head hg hty ht he hce hct h
 unfold Lib.TabIs World.var? at hv
 rw [hg, Option.bind_some] at hv
 split at hv
 ·rename_i c ty fr hb
  have hc := Option.some.inj hv
  have hlt : g < W.heap.size := by
   rcases Nat.lt_or_ge g W.heap.size with h | h
   ·exact h
   ·rw [Array.getElem?_eq_none h] at hb; cases hb
  refine ⟨⟨hlt, ?_⟩, hlt⟩
  show (H0of W).get g = _
  unfold H0of
  simp only [hb, hc]
  congr 2
  rw [List.map_map]
  refine List.map_congr_left fun z _ => ?_
  exact goodV_atom (.int _ _) rfl
 ·cases hv
def ndB : List Nat → Nat → Bool
 | [], _ => true
 | k :: ks, m => !(m.testBit k) && ndB ks (m ||| 2 ^ k)
theorem ndB_ok : ∀ (ks : List Nat) (m : Nat), ndB ks m = true → ks.Nodup ∧ ∀ k ∈ ks, m.testBit k = false
 | [], m, _ => ⟨List.nodup_nil, fun k h => by cases h⟩
 | k :: ks, m, h => by
  unfold ndB at h
  rw [Bool.and_eq_true] at h
  obtain ⟨h1, h2⟩ := h
  obtain ⟨h3, h4⟩ := ndB_ok ks _ h2
  have h5 : ∀ j ∈ ks, m.testBit j = false ∧ j ≠ k := fun j hj => by
   have := h4 j hj
   rw [Nat.testBit_or, Bool.or_eq_false_iff] at this
   refine ⟨this.1, fun e => ?_⟩
   subst e
   rw [Nat.testBit_two_pow_self] at this
   cases this.2
  refine ⟨List.nodup_cons.2 ⟨fun hk => (h5 k hk).2 rfl, h3⟩, fun j hj => ?_⟩
  rcases List.mem_cons.1 hj with rfl | hj
  ·simpa using h1
  ·exact (h5 j hj).1
def plKey : MemPlace → Nat
 | .cell b o => b * 1024 + o
 | .map m => m * 1024 + 1023
theorem nd_of_map {α β : Type} (f : α → β) {l : List α} (h : (l.map f).Nodup) : l.Nodup := by
 rw [List.Nodup, List.pairwise_map] at h
 exact h.imp (fun {a b} (hn : f a ≠ f b) (e : a = b) => hn (congrArg f e))
theorem laid_of_run {P : Program} {w : World} {l : List (String × DataW Unit)} (fuel : Nat) (h : (DataW.laidRun P w fuel (l.map (·.1))).map (·.1) = some l)
  (hr : (DataW.laidRun P w fuel (l.map (·.1))).map (fun x => ndB (x.2.map plKey) 0 && laidRowsB P w x.2) = some true) : laidMet P l w := by
 cases hx : DataW.laidRun P w fuel (l.map (·.1)) with
 | none => simp [hx] at h
 | some x =>
  obtain ⟨l', ps⟩ := x
  simp only [hx, Option.map_some, Option.some.injEq] at h hr
  subst h
  simp only [Bool.and_eq_true] at hr
  exact laidMet_of_run fuel hx (decide_eq_true (nd_of_map _ (ndB_ok _ _ hr.1).1)) hr.2
end Go.Vm
