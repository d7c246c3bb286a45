/-
  Part of an evaluator for the model, proved sound: no condition.
-/
import Derived.Test.YtcacllfgnjlhiaaESp12
set_option linter.unusedSimpArgs false
set_option linter.unusedVariables false
namespace Go.Vm
open Go
theorem nT {b : Bool} (h : (!b) = true) : b = false := by cases b <;> simp_all
theorem nF {b : Bool} (h : (!b) = false) : b = true := by cases b <;> simp_all
def strBytes (s : ByteArray) : List Int := s.data.toList.map fun b => (b.toNat : Int)
def bytesO (s : ByteArray) : Option (List Int) := if s.size ≤ 16777216 then some (strBytes s) else none
def catO (a b : ByteArray) : Option ByteArray := if a.size + b.size ≤ 9223372036854775807 then some (a ++ b) else none
def andNotB (k : IntKind) (x y : Int) : Int := k.wrap (BitVec.ofInt k.bits x &&& ~~~ BitVec.ofInt k.bits y).toNat
theorem S.andNotI {P : Program} {C : CallRel} {o : Oper} {t : T} {H : AH} {ty u : TypeId} {x y : Operand} {k : IntKind} {a b : Int} (ho : o.op = .binOp .andNot ty x y u) (hx : aev t x = .int k a) (hy : aev t y = .int k b) : Step P C o t H .pure (.int k (andNotB k a b)) H :=
 S.flat2 ho hx hy (.atom _ (.int _ _)) (.atom _ (.int _ _)) (.atom _ (.int _ _)) (fun w => by simp [binOp, Op.intBits, andNotB]) S.guard_int
theorem S.addS {P : Program} {C : CallRel} {o : Oper} {t : T} {H : AH} {ty u : TypeId} {x y : Operand} {a b c : ByteArray} (hc : catO a b = some c) (ho : o.op = .binOp .add ty x y u) (hx : aev t x = .string a) (hy : aev t y = .string b) : Step P C o t H .pure (.string c) H := by
 unfold catO at hc
 split at hc
 ·rename_i h0
  cases hc
  have h1 : ¬ (((a.size + b.size : Nat) : Int) > IntKind.i64.max) := by
   have : IntKind.i64.max = 9223372036854775807 := by decide
   omega
  exact S.flat2 ho hx hy (.atom _ (.string _)) (.atom _ (.string _)) (.atom _ (.string _)) (fun w => by simp only [binOp, Op.stringOp]; rw [if_neg h1]; simp) S.guard_str
 ·cases hc
section
variable {P : Program} {G N : Nat} {dr : Bool} {ops : Array Oper} {i : Nat} {hist : Hist} {l : List (Nat × Value)} {V : Vw} {Q : LQ} {o : Oper} {d : Tmp} {As : List At} {k : Nat}
theorem rows_bytes (V : Vw) : ∀ l : List UInt8, Rows (RT.int .u8).rel V (l.map fun b => Value.int .u8 b.toNat) (l.map fun b => (b.toNat : Int))
 | [] => .nil
 | b :: l => .cons [_] _ _ _ rfl (rows_bytes V l)
theorem strBytes_len (s : ByteArray) : (strBytes s).length = s.size := by unfold strBytes; rw [List.length_map]; rfl
theorem O.bytes {x : Operand} {t t' e : TypeId} {s : ByteArray} {zs : List Int} {dd : TypeDesc} (ow : Ow V As) (ho : ops[i]? = some o) (hd : o.dst = some d) (hg : GOk ops l o) (hop : o.op = .convert t t' x) (hx : aev (fr l) x = .string s) (hs : P.underlying t = some dd) (hu : P.underlying t' = some (.slice e)) (he : P.underlying e = some (.int .u8)) (hb : bytesO s = some zs)
  (hk : ∀ y, okU dr ops i .eff V.H (V.H.new y) hist) (h : ∀ v V1, V.le V1 → Ow V1 (.os (RT.int .u8) v zs :: As) → WU dr P G ops (i + 1) (hadd dr (i, .eff, V.H, V1.H) hist) ((d, v) :: l) V1.H Q) : WU dr P G ops i hist l V.H Q := by
 unfold bytesO at hb
 split at hb
 ·rename_i hl
  cases hb
  refine U.k ho hd hg (.app _ _ (.bytes x t t' e dd s hop hx hs hu he)) (hk _) ?_
  have nw : Nw V V.H.next (V.new _) (.cells 1 (s.data.toList.map fun b => .int .u8 b.toNat)) := ⟨rfl, rfl⟩
  have := h (.slice (some ⟨V.H.next, 0, none⟩) (strBytes s).length 1) _ nw.le (ow.nwos (R := RT.int .u8) nw (rows_bytes V s.data.toList) (by rw [strBytes_len]; omega))
  rw [strBytes_len] at this
  exact this
 ·cases hb
end
def Ga {α : Type} (R : RT α) (g : Nat) (V : Vw) (xs : List α) : Prop := Fz R V (.slice (some ⟨g, 0, none⟩) xs.length xs.length) xs
section
variable {P : Program} {fn : Func} {Post : Value → AH → Prop} {e : VX} {l : List (Nat × Value)} {H : AH} {s : Tmp} {ty : TypeId} {b off : Nat} {d : TypeDesc} {v : Value}
theorem res0 : ResAll P (fr l) H [] [] := .nil
theorem resT {rs vs} (hv : aev (fr l) (.tmp s) = v) (h : ResAll P (fr l) H rs vs) : ResAll P (fr l) H (.tmp s :: rs) (v :: vs) := by
 subst hv
 exact .cons _ _ _ _ (.tmp s) h
theorem resC {rs vs} (hx : aev (fr l) (.tmp s) = .pointer (some ⟨b, off, none⟩)) (hu : P.underlying ty = some d) (ha : isAggD d = false) (hc : H.cell b off = some v) (h : ResAll P (fr l) H rs vs) : ResAll P (fr l) H (.cell s ty :: rs) (v :: vs) :=
 .cons _ _ _ _ (.cell s ty b v (.load1 ty (.tmp s) b off d v rfl hx hu ha hc)) h
theorem resA {rs vs} {ez : Nat} {cs : List Value} {z : Value} {n m : Nat} (hx : aev (fr l) (.tmp s) = .pointer (some ⟨b, 0, none⟩)) (hu : P.underlying ty = some d) (ha : isAggD d = true)
  (hi : tinfo P ty z n m) (hg : H.get b = some (.cells ez cs)) (hl : cs.length = n) (h : ResAll P (fr l) H rs vs) : ResAll P (fr l) H (.cell s ty :: rs) (.agg cs.toArray :: vs) := by
 obtain ⟨i, h1, h2, h3, h4⟩ := tinfo_get hi
 exact .cons _ _ _ _ (.cell s ty b _ (.loadN ty (.tmp s) b 0 d cs i rfl hx hu ha h1 (by omega) (fun j v hj => by rw [Nat.zero_add]; exact S.cellB hg hj))) h
theorem fin.mix {rs vs} (he : e = .normal ∨ e = .ret) (hm : ResAll P (fr l) H rs vs) (hr : fn.results.toList = rs) (h : Post (resV vs) H) : fin P fn Post e l H := ⟨he, vs, hr ▸ hm, h⟩
end
end Go.Vm
