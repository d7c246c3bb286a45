/-
  Part of an evaluator for the model, proved sound: no condition.
-/
import Derived.Test.YtcacllfgnjlhiaaESp12
set_option linter.unusedSimpArgs false
set_option linter.unusedVariables false
namespace Go.Vm
open Go
theorem nT {b : Bool} (h : (!b) = true) : b = false := by cases b <;> simp_all
theorem nF {b : Bool} (h : (!b) = false) : b = true := by cases b <;> simp_all
section
variable {P : Program} {G N : Nat} {dr : Bool} {ops : Array Oper} {i : Nat} {hist : Hist} {l : List (Nat × Value)} {V : Vw} {Q : LQ} {o : Oper} {d : Tmp} {As : List At} {k : Nat}
end
section
variable {P : Program} {fn : Func} {Post : Value → AH → Prop} {e : VX} {l : List (Nat × Value)} {H : AH} {s : Tmp} {ty : TypeId} {b off : Nat} {d : TypeDesc} {v : Value}
theorem res0 : ResAll P (fr l) H [] [] := .nil
theorem resT {rs vs} (hv : aev (fr l) (.tmp s) = v) (h : ResAll P (fr l) H rs vs) : ResAll P (fr l) H (.tmp s :: rs) (v :: vs) := by
 subst hv
 exact .cons _ _ _ _ (.tmp s) h
theorem resA {rs vs} {ez : Nat} {cs : List Value} {z : Value} {n m : Nat} (hx : aev (fr l) (.tmp s) = .pointer (some ⟨b, 0, none⟩)) (hu : P.underlying ty = some d) (ha : isAggD d = true)
  (hi : tinfo P ty z n m) (hg : H.get b = some (.cells ez cs)) (hl : cs.length = n) (h : ResAll P (fr l) H rs vs) : ResAll P (fr l) H (.cell s ty :: rs) (.agg cs.toArray :: vs) := by
 obtain ⟨i, h1, h2, h3, h4⟩ := tinfo_get hi
 exact .cons _ _ _ _ (.cell s ty b _ (.loadN ty (.tmp s) b 0 d cs i rfl hx hu ha h1 (by omega) (fun j v hj => by rw [Nat.zero_add]; exact S.cellB hg hj))) h
theorem fin.mix {rs vs} (he : e = .normal ∨ e = .ret) (hm : ResAll P (fr l) H rs vs) (hr : fn.results.toList = rs) (h : Post (resV vs) H) : fin P fn Post e l H := ⟨he, vs, hr ▸ hm, h⟩
end
end Go.Vm
