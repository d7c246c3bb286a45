/-
 A variable of the program that nobody assigns: what it was laid to hold, as a slice that nobody changes.
-/
import Derived.Test.YtlcjnalocidldaaDoorESp12
import Derived.LaidLaws
import Derived.OpenShut
import Derived.ChangeArms
import Derived.ProofKit
import GoSem.ClaimJoined
set_option linter.unusedSimpArgs false
set_option linter.unusedVariables false
namespace Go.Vm
open Go Go.RowKit Go.ChangeShapes Go.WideShapes Go.ChangeAt
theorem goodV_atom {w : World} {v : Value} (h : Atom v) (h2 : aV v = v) : goodV w v = v := by
 unfold goodV
 rw [if_pos (show Good w v from by unfold Good; rw [h2]; exact .atom v h), h2]
theorem var_fz {P : Program} {W : World} {name : String} {b : Nat} {t e : TypeId} {α : Type} {R : RT α} {xs : List α} {enc : α → DataW Unit} {vals : α → List Value} {d : DataW Unit} {rest : List (String × DataW Unit)}
  (hg : P.globalNamed name = some b) (ht : (P.globals[b]?).map (·.type) = some t) (hu : P.underlying t = some (.array xs.length e)) (hs : P.cellsOf e = R.sz) (hd : d = .agg (xs.map enc)) (hn : xs.length ≤ 9223372036854775807)
  (hel : ∀ (fuel : Nat) (cs : List Value) (ps : List MemPlace) (x : α), DataW.trod (fun _ => ()) P W 0 (fun _ => true) false fuel e cs = some (enc x, ps) → cs = vals x)
  (hat : ∀ x, ∀ v ∈ vals x, Atom v ∧ aV v = v) (hR : ∀ V x, R.rel V (vals x) x) (hlen : ∀ x, (vals x).length = R.sz)
  (hl : laidMet P ((name, d) :: rest) W) : Fz R (V0of W) (.slice (some ⟨b, 0, none⟩) xs.length xs.length) xs ∧ b < W.heap.size := by
 obtain ⟨ps, ⟨g, t', cs, fuel, p, q, hg', ht', hvar, htr, _, _⟩, _⟩ := hl
 obtain rfl := Option.some.inj (hg.symm.trans hg')
 obtain rfl := Option.some.inj (ht.symm.trans ht')
 have hb : ∃ ty fr, W.heap[b]? = some (.cells cs ty fr) := by
  unfold World.var? at hvar
  rw [hg, Option.bind_some] at hvar
  split at hvar
  ·rename_i c ty fr hb
   cases hvar
   exact ⟨_, _, hb⟩
  ·cases hvar
 obtain ⟨ty, fr, hb⟩ := hb
 have hlt : b < W.heap.size := by
  rcases Nat.lt_or_ge b W.heap.size with h | h
  ·exact h
  ·rw [Array.getElem?_eq_none h] at hb; cases hb
 refine ⟨⟨.inr ⟨b, 0, xs.length, rfl, ⟨hlt, hn⟩, fun i x hx => ⟨vals x, hlen x, hR _ x, fun j u hj => ?_⟩⟩, fun b' o n c he => .inr ?_⟩, hlt⟩
 ·obtain ⟨ys, m, rfl, hds, hcl, hyl, hy⟩ := DataW.trod_array hu htr
  have hi : i < xs.length := (List.getElem?_eq_some_iff.1 hx).1
  have h1 := hy i hi
  obtain ⟨y, hyi⟩ : ∃ y, ys[i]? = some y := ⟨ys[i]'(by omega), List.getElem?_eq_getElem _⟩
  have h2 : (ys.map (·.1))[i]? = some (enc x) := by
   have h3 : d = .agg (ys.map (·.1)) := congrArg Prod.fst hds
   rw [hd] at h3
   have h4 : xs.map enc = ys.map (·.1) := by injection h3
   rw [← h4, List.getElem?_map, hx]
   rfl
  rw [List.getElem?_map, hyi] at h2
  have h5 : y.1 = enc x := Option.some.inj h2
  rw [hyi] at h1
  have h6 := hel m _ y.2 x (h1.trans (congrArg some (Prod.ext h5 rfl)))
  have hj' : j < R.sz := by rw [← hlen x]; exact (List.getElem?_eq_some_iff.1 hj).1
  have h7 : cs.toList[i * R.sz + j]? = some u := by
   rw [← h6, hs, List.getElem?_take, if_pos hj', List.getElem?_drop] at hj
   exact hj
  show (match (H0of W).get b with | some (.cells _ c) => c[0 + i * R.sz + j]? | some (.tcells _ c) => c[0 + i * R.sz + j]? | _ => none) = some u
  have h8 : (H0of W).get b = some (.cells 0 (cs.toList.map (goodV W))) := by
   unfold H0of
   simp only [hb]
  rw [h8]
  show (cs.toList.map (goodV W))[0 + i * R.sz + j]? = some u
  rw [Nat.zero_add, List.getElem?_map, h7, Option.map_some]
  obtain ⟨a1, a2⟩ := hat x u (List.mem_of_getElem? hj)
  rw [goodV_atom a1 a2]
 ·cases he
  exact hlt
end Go.Vm
