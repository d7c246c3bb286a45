/-
  Part of an evaluator for the model, proved sound: no condition.
-/
import Derived.Test.YtdnnbobadopkeaaDoorESp12
import Derived.LaidLaws
import Derived.OpenShut
import Derived.ChangeArms
import Derived.ProofKit
import GoSem.ClaimJoined
import Derived.Test.YtdnnbobadopkeaaDoorESp16
set_option linter.unusedSimpArgs false
set_option linter.unusedVariables false
namespace Go.Vm
open Go Go.RowKit Go.ChangeShapes Go.WideShapes Go.ChangeAt
theorem goodV_atom {w : World} {v : Value} (h : Atom v) (h2 : aV v = v) : goodV w v = v := by
 unfold goodV
 rw [if_pos (show Good w v from by unfold Good; rw [h2]; exact .atom v h), h2]
theorem var_fz {P : Program} {W : World} {name : String} {b : Nat} {t e : TypeId} {α : Type} {R : RT α} {xs : List α} {enc : α → DataW Unit} {vals : α → List Value} {d : DataW Unit} {rest : List (String × DataW Unit)}
  (hg : P.globalNamed name = some b) (ht : (P.globals[b]?).map (·.type) = some t) (hu : P.underlying t = some (.array xs.length e)) (hs : P.cellsOf e = R.sz) (hd : d = .agg (xs.map enc)) (hn : xs.length ≤ 9223372036854775807)
  (hel : ∀ (fuel : Nat) (cs : List Value) (ps : List MemPlace) (x : α), DataW.trod (fun _ => ()) P W 0 (fun _ => true) false fuel e cs = some (enc x, ps) → cs = vals x)
  (hat : ∀ x, ∀ v ∈ vals x, Atom v ∧ aV v = v) (hR : ∀ V x, R.rel V (vals x) x) (hlen : ∀ x, (vals x).length = R.sz)
  (hl : laidMet P ((name, d) :: rest) W) : Fz R (V0of W) (.slice (some ⟨b, 0, none⟩) xs.length xs.length) xs ∧ b < W.heap.size := by
 obtain ⟨ps, ⟨g, t', cs, fuel, p, q, hg', ht', hvar, htr, _, _⟩, _⟩ := hl
 obtain rfl := Option.some.inj (hg.symm.trans hg')
 obtain rfl := Option.some.inj (ht.symm.trans ht')
 have hb : ∃ ty fr, W.heap[b]? = some (.cells cs ty fr) := by
  unfold World.var? at hvar
  rw [hg, Option.bind_some] at hvar
  split at hvar
  ·rename_i c ty fr hb
   cases hvar
   exact ⟨_, _, hb⟩
  ·cases hvar
 obtain ⟨ty, fr, hb⟩ := hb
 have hlt : b < W.heap.size := by
  rcases Nat.lt_or_ge b W.heap.size with h | h
  ·exact h
  ·rw [Array.getElem?_eq_none h] at hb; cases hb
 refine ⟨⟨.inr ⟨b, 0, xs.length, rfl, ⟨hlt, hn⟩, fun i x hx => ⟨vals x, hlen x, hR _ x, fun j u hj => ?_⟩⟩, fun b' o n c he => .inr ?_⟩, hlt⟩
 ·obtain ⟨ys, m, rfl, hds, hcl, hyl, hy⟩ := DataW.trod_array hu htr
  have hi : i < xs.length := (List.getElem?_eq_some_iff.1 hx).1
  have h1 := hy i hi
  obtain ⟨y, hyi⟩ : ∃ y, ys[i]? = some y := ⟨ys[i]'(by omega), List.getElem?_eq_getElem _⟩
  have h2 : (ys.map (·.1))[i]? = some (enc x) := by
   have h3 : d = .agg (ys.map (·.1)) := congrArg Prod.fst hds
   rw [hd] at h3
   have h4 : xs.map enc = ys.map (·.1) := by injection h3
   rw [← h4, List.getElem?_map, hx]
   rfl
  rw [List.getElem?_map, hyi] at h2
  have h5 : y.1 = enc x := Option.some.inj h2
  rw [hyi] at h1
  have h6 := hel m _ y.2 x (h1.trans (congrArg some (Prod.ext h5 rfl)))
  have hj' : j < R.sz := by rw [← hlen x]; exact (List.getElem?_eq_some_iff.1 hj).1
  have h7 : cs.toList[i * R.sz + j]? = some u := by
   rw [← h6, hs, List.getElem?_take, if_pos hj', List.getElem?_drop] at hj
   exact hj
  show (match (H0of W).get b with | some (.cells _ c) => c[0 + i * R.sz + j]? | some (.tcells _ c) => c[0 + i * R.sz + j]? | _ => none) = some u
  have h8 : (H0of W).get b = some (.cells 0 (cs.toList.map (goodV W))) := by
   unfold H0of
   simp only [hb]
  rw [h8]
  show (cs.toList.map (goodV W))[0 + i * R.sz + j]? = some u
  rw [Nat.zero_add, List.getElem?_map, h7, Option.map_some]
  obtain ⟨a1, a2⟩ := hat x u (List.mem_of_getElem? hj)
  rw [goodV_atom a1 a2]
 ·cases he
  exact hlt
end Go.Vm
namespace Go.Vm
open Go Go.RowKit Go.ChangeShapes Go.WideShapes Go.ChangeAt
theorem laid_tail {P : Program} {x : String × DataW Unit} {r : List (String × DataW Unit)} {w : World} (h : laidMet P (x :: r) w) : laidMet P r w := by
 obtain ⟨ps, ⟨g, t, cs, fuel, p, q, h1, h2, h3, h4, h5, h6⟩, h7, h8⟩ := h
 subst h6
 exact ⟨q, h5, (List.nodup_append.1 h7).2.1, fun b off hp => h8 b off (List.mem_append_right _ hp)⟩
theorem var_tb {P : Program} {W : World} {name : String} {k : IntKind} {zs : List Int} {rest : List (String × DataW Unit)} {g : Nat} {t e : TypeId} {n : Nat} {d : DataW Unit}
  (hg : P.globalNamed name = some g) (hty : (P.globals[g]?).map (·.type) = some t) (ht : P.underlying t = some (.array n e)) (he : P.underlying e = some (.int k)) (hce : P.cellsOf e = 1) (hct : P.cellsOf t = n)
  (hd : d = Lib.tabData k zs) (h : laidMet P ((name, d) :: rest) W) : Tb (V0of W) g k zs ∧ g < W.heap.size := by
 subst hd
 have hv := Lib.tabIs_of_head hg hty ht he hce hct h
 unfold Lib.TabIs World.var? at hv
 rw [hg, Option.bind_some] at hv
 split at hv
 ·rename_i c ty fr hb
  have hc := Option.some.inj hv
  have hlt : g < W.heap.size := by
   rcases Nat.lt_or_ge g W.heap.size with h | h
   ·exact h
   ·rw [Array.getElem?_eq_none h] at hb; cases hb
  refine ⟨⟨hlt, ?_⟩, hlt⟩
  show (H0of W).get g = _
  unfold H0of
  simp only [hb, hc]
  congr 2
  rw [List.map_map]
  refine List.map_congr_left fun z _ => ?_
  exact goodV_atom (.int _ _) rfl
 ·cases hv
def ndB : List Nat → Nat → Bool
 | [], _ => true
 | k :: ks, m => !(m.testBit k) && ndB ks (m ||| 2 ^ k)
theorem ndB_ok : ∀ (ks : List Nat) (m : Nat), ndB ks m = true → ks.Nodup ∧ ∀ k ∈ ks, m.testBit k = false
 | [], m, _ => ⟨List.nodup_nil, fun k h => by cases h⟩
 | k :: ks, m, h => by
  unfold ndB at h
  rw [Bool.and_eq_true] at h
  obtain ⟨h1, h2⟩ := h
  obtain ⟨h3, h4⟩ := ndB_ok ks _ h2
  have h5 : ∀ j ∈ ks, m.testBit j = false ∧ j ≠ k := fun j hj => by
   have := h4 j hj
   rw [Nat.testBit_or, Bool.or_eq_false_iff] at this
   refine ⟨this.1, fun e => ?_⟩
   subst e
   rw [Nat.testBit_two_pow_self] at this
   cases this.2
  refine ⟨List.nodup_cons.2 ⟨fun hk => (h5 k hk).2 rfl, h3⟩, fun j hj => ?_⟩
  rcases List.mem_cons.1 hj with rfl | hj
  ·simpa using h1
  ·exact (h5 j hj).1
def plKey : MemPlace → Nat
 | .cell b o => b * 1024 + o
 | .map m => m * 1024 + 1023
theorem nd_of_map {α β : Type} (f : α → β) {l : List α} (h : (l.map f).Nodup) : l.Nodup := by
 rw [List.Nodup, List.pairwise_map] at h
 exact h.imp (fun {a b} (hn : f a ≠ f b) (e : a = b) => hn (congrArg f e))
theorem laid_of_run {P : Program} {w : World} {l : List (String × DataW Unit)} (fuel : Nat) (h : (DataW.laidRun P w fuel (l.map (·.1))).map (·.1) = some l)
  (hr : (DataW.laidRun P w fuel (l.map (·.1))).map (fun x => ndB (x.2.map plKey) 0 && laidRowsB P w x.2) = some true) : laidMet P l w := by
 cases hx : DataW.laidRun P w fuel (l.map (·.1)) with
 | none => simp [hx] at h
 | some x =>
  obtain ⟨l', ps⟩ := x
  simp only [hx, Option.map_some, Option.some.injEq] at h hr
  subst h
  simp only [Bool.and_eq_true] at hr
  exact laidMet_of_run fuel hx (decide_eq_true (nd_of_map _ (ndB_ok _ _ hr.1).1)) hr.2
end Go.Vm
