/-
  Part of an evaluator for the model, proved sound: no condition.
-/
import Derived.Test.YthbllmihobbcgaaESp15
import Derived.Below
import Derived.Lib.LaidTab
import Derived.Lib.ItoaNum
import Derived.Lib.Join
import Derived.Lib.Space
import Derived.Lib.ConvBytes
import Derived.Lib.Walk
import Derived.Lib.UnsafeStr
import Derived.Sort.Grow
import Derived.Deep.Draws
set_option linter.unusedSimpArgs false
set_option linter.unusedVariables false
namespace Go.Vm
open Go Go.RowKit
theorem below_grown (w : World) (k : Nat) (os : Array Obj) : Below w.heap.size w (Go.Sort.grow (w.drewN k) os) :=
 ⟨rfl, rfl, rfl, by show w.heap.size ≤ (w.heap ++ os).size; rw [Array.size_append]; omega, fun j hj => by show (w.heap ++ os)[j]? = w.heap[j]?; rw [Array.getElem?_append_left hj]⟩
theorem below_bytes (w : World) (e : TypeId) (s : ByteArray) : Below w.heap.size w (Lib.bytesWorld w e s) :=
 Lib.below_freeze ((Below.drew (Below.refl _ w)).alloc (Nat.le_refl _) _) (p := ⟨w.heap.size, _, none⟩) (Nat.le_refl _) 1
theorem R.below {ι : Inj} {H : AH} {w w' : World} (hr : R ι H w) (hb : Below w.heap.size w w') : R ι H w' :=
 ⟨fun b l o hl hg => (hr.obj b l o hl hg).keep ι.le_refl (hb.block l.blk (hr.dom b l hl).2), hr.inj, fun b l hl => ⟨(hr.dom b l hl).1, Nat.lt_of_lt_of_le (hr.dom b l hl).2 hb.size⟩, hr.low⟩
theorem After.below {ι : Inj} {H : AH} {w w' : World} (hr : R ι H w) (hb : Below w.heap.size w w') : After ι H H w w' ι :=
 ⟨NN.refl ι H w, hr.below hb, hb.size, fun c hc _ => hb.block c hc, hb.os, hb.tape, hb.output⟩
theorem Sd.keep {P : Program} {g : FuncId} {args : Array Value} {v : Value} {H : AH}
  (h : ∀ ι w cargs, R ι H w → VRs H.lo ι args cargs → Calls P g cargs w fun e w' => (∃ u, e = .returned u ∧ VR H.lo ι v u) ∧ Below w.heap.size w w') : Sd P g args H v H :=
 ⟨⟨Nat.le_refl _, rfl⟩, fun ι w cargs hr ha => (h ι w cargs hr ha).mono fun e w' ⟨⟨u, h1, h2⟩, h3⟩ => ⟨u, ι, h1, h2, After.below hr h3⟩⟩
def Tb (V : Vw) (g : Nat) (k : IntKind) (zs : List Int) : Prop := V.F g ∧ V.H.get g = some (.cells 0 (zs.map fun z => .int k z))
theorem Tb.up {V V' : Vw} {g : Nat} {k : IntKind} {zs : List Int} (h : Tb V g k zs) (he : V.le V') : Tb V' g k zs := ⟨he.sub g h.1, (he.get g h.1).trans h.2⟩
theorem Tb.is {P : Program} {V : Vw} {g : Nat} {k : IntKind} {zs : List Int} {name : String} (h : Tb V g k zs) (hlo : g < V.H.lo) (hg : P.globalNamed name = some g) {ι : Inj} {w : World} (hr : R ι V.H w) : Lib.TabIs P w name k zs := by
 obtain ⟨l, h1, h2, h3, h4⟩ := hr.low g hlo
 obtain ⟨cs, elem, fr, h5, h6, h7, h8, h9, h10⟩ := hr.obj g l _ h1 h.2
 have h11 := h4 0 _ h.2
 rw [h2] at h5
 have h12 : cs = (zs.map fun z => Value.int k z).toArray := by
  apply Array.ext
  ·rw [h6, h11]; simp
  ·intro i hi hi'
   have hz : i < (zs.map fun z => Value.int k z).length := by simpa using hi'
   obtain ⟨v', h13, h14⟩ := h9 i _ (List.getElem?_eq_getElem hz)
   rw [h3, Nat.zero_add, Array.getElem?_eq_getElem hi] at h13
   have h15 := Option.some.inj h13
   have h16 : (zs.map fun z => Value.int k z)[i] = Value.int k zs[i]! := by
    simp only [List.getElem_map]
    congr 1
    rw [getElem!_pos zs i (by simpa using hz)]
   rw [h16] at h14
   have h17 := h14.atom_eq (.int _ _)
   rw [h15, h17]
   simp only [List.getElem_toArray, List.getElem_map]
   congr 1
   rw [getElem!_pos zs i (by simpa using hz)]
 unfold Lib.TabIs World.var?
 rw [hg, Option.bind_some, h5, h12]
def itoaS (n : Int) : ByteArray := ⟨(Lib.itoa n).toArray⟩
noncomputable def itoaO (n : Int) : Option ByteArray := if -9223372036854775808 ≤ n ∧ n ≤ 9223372036854775807 then some (itoaS n) else none
theorem VRs.one {lo : Nat} {ι : Inj} {v : Value} {c : Array Value} (h : VRs lo ι #[v] c) : ∃ u, c = #[u] ∧ VR lo ι v u := by
 obtain ⟨h1, h2⟩ := h
 have h3 : c.size = 1 := h1.symm
 refine ⟨c[0], ?_, h2 0 (by simp) _⟩
 apply Array.ext
 ·simp [h3]
 ·intro i hi _
  have : i = 0 := by omega
  subst this
  rfl
theorem VRs.two {lo : Nat} {ι : Inj} {v v' : Value} {c : Array Value} (h : VRs lo ι #[v, v'] c) : ∃ u u', c = #[u, u'] ∧ VR lo ι v u ∧ VR lo ι v' u' := by
 obtain ⟨h1, h2⟩ := h
 have h3 : c.size = 2 := h1.symm
 refine ⟨c[0], c[1], ?_, h2 0 (by simp) _, h2 1 (by simp) _⟩
 apply Array.ext
 ·simp [h3]
 ·intro i hi _
  match i with
  | 0 => rfl
  | 1 => rfl
  | i + 2 => omega
theorem itoa_cl {P : Program} {G gid : Nat} {g : FuncId} {V : Vw} {Rs : List At} {n : Int} {r : ByteArray} (hT : Tb V gid .u64 Lib.pow10Tab) (hlo : gid < V.H.lo) (hg : P.globalNamed "internal/strconv.uint64pow10" = some gid)
  (hC : ∀ w, -9223372036854775808 ≤ n → n ≤ 9223372036854775807 → Lib.TabIs P w "internal/strconv.uint64pow10" .u64 Lib.pow10Tab → Calls P g #[.int .i64 n] w fun e w' => e = .returned (.string ⟨(Lib.itoa n).toArray⟩) ∧ Below w.heap.size w w')
  (ow : Ow V Rs) (h : itoaO n = some r) : ∃ v V', Cl P G g #[.int .i64 n] V.H v V'.H ∧ V.le V' ∧ (v = .string r ∧ Ow V' Rs) := by
 unfold itoaO at h
 split at h
 ·rename_i hn
  obtain rfl := Option.some.inj h
  refine ⟨.string (itoaS n), V, Cl.sd (Sd.keep fun ι w cargs hr ha => ?_), .refl V, rfl, ow⟩
  obtain ⟨u, rfl, hu⟩ := ha.one
  obtain rfl := hu.atom_eq (.int _ _)
  refine (hC w hn.1 hn.2 (hT.is hlo hg hr)).mono ?_
  rintro e w' ⟨rfl, hb⟩
  exact ⟨⟨_, rfl, .atom _ (.string _)⟩, hb⟩
 ·cases h
def joinS (xs : List ByteArray) (sep : ByteArray) : ByteArray := ⟨(Lib.join (xs.map (·.data.toList)) sep.data.toList).toArray⟩
noncomputable def joinO (xs : List ByteArray) (sep : ByteArray) : Option ByteArray := if xs.length ≤ 140737488355328 ∧ (joinS xs sep).size ≤ 140737488355328 then some (joinS xs sep) else none
theorem join_sd {P : Program} {g : FuncId} {V : Vw} {v : Value} {xs : List ByteArray} {sep : ByteArray} (h1 : xs.length ≤ 140737488355328) (h2 : (joinS xs sep).size ≤ 140737488355328)
  (hv : (v = .slice none 0 0 ∧ xs = []) ∨ ∃ b o c, v = .slice (some ⟨b, o, none⟩) xs.length c ∧ ∀ (j : Nat) x, xs[j]? = some x → V.H.cell b (o + j) = some (.string x))
  (h0 : ∀ a c w, Calls P g #[.slice a 0 c, .string sep] w fun e w' => e = .returned (.string ByteArray.empty) ∧ w' = w)
  (hC : ∀ bk o c w, (∀ (j : Nat) x, xs[j]? = some x → w.cell? ⟨bk, o + j, none⟩ = some (.string x)) → bk < w.heap.size → xs.length ≤ c → Calls P g #[.slice (some ⟨bk, o, none⟩) xs.length c, .string sep] w fun e w' => e = .returned (.string (joinS xs sep)) ∧ Below w.heap.size w w') :
  Sd P g #[v, .string sep] V.H (.string (joinS xs sep)) V.H := by
 have hj0 : joinS [] sep = ByteArray.empty := rfl
 refine Sd.keep fun ι w cargs hr ha => ?_
 obtain ⟨u, u', rfl, hu, hu'⟩ := ha.two
 obtain rfl := hu'.atom_eq (.string _)
 rcases hv with ⟨rfl, rfl⟩ | ⟨b, o, c, rfl, hc⟩
 ·obtain rfl := hu.nilS
  refine (h0 none 0 w).mono ?_
  rintro e w' ⟨rfl, rfl⟩
  exact ⟨⟨_, rfl, .atom _ (.string _)⟩, Below.refl _ _⟩
 ·obtain ⟨l, a', c', hl, rfl, h3, h4, _⟩ := hu.slice_inv
  by_cases hx : xs = []
  ·subst hx
   refine (h0 (some a') c' w).mono ?_
   rintro e w' ⟨rfl, rfl⟩
   exact ⟨⟨_, rfl, .atom _ (.string _)⟩, Below.refl _ _⟩
  ·have hn : xs.length ≠ 0 := fun e => hx (List.eq_nil_of_length_eq_zero e)
   obtain rfl := h4 (by omega)
   refine (hC l.blk (l.base + o) c' w (fun j x hj => ?_) (hr.dom b l hl).2 h3).mono ?_
   ·obtain ⟨v', h5, h6⟩ := hr.cell hl (hc j x hj)
    obtain rfl := h6.atom_eq (.string _)
    rw [Nat.add_assoc]
    exact h5
   ·rintro e w' ⟨rfl, hb⟩
    exact ⟨⟨_, rfl, .atom _ (.string _)⟩, hb⟩
theorem Fz.strs {V : Vw} {v : Value} {xs : List ByteArray} (f : Fz RT.str V v xs) : (v = .slice none 0 0 ∧ xs = []) ∨ ∃ b o c, v = .slice (some ⟨b, o, none⟩) xs.length c ∧ ∀ (j : Nat) x, xs[j]? = some x → V.H.cell b (o + j) = some (.string x) := by
 rcases f.1 with h | ⟨b, o, c, h1, h2, h3⟩
 ·exact .inl h
 ·refine .inr ⟨b, o, c, h1, fun j x hx => ?_⟩
  obtain ⟨cs, h4, h5, h6⟩ := h3 j x hx
  have h7 : cs = [.string x] := h5
  subst h7
  have := h6 0 (.string x) rfl
  simpa [RT.str] using this
theorem Ow.strs {V : Vw} {As : List At} {k : Nat} {v : Value} {xs : List ByteArray} (ow : Ow V As) (hk : As[k]? = some (.os RT.str v xs)) : (v = .slice none 0 0 ∧ xs = []) ∨ ∃ b o c, v = .slice (some ⟨b, o, none⟩) xs.length c ∧ ∀ (j : Nat) x, xs[j]? = some x → V.H.cell b (o + j) = some (.string x) := by
 obtain ⟨V', h1, h2, h3, _⟩ := ow.osfz hk
 have := h3.strs
 rw [h1] at this
 exact this
theorem join_cl {P : Program} {G : Nat} {g : FuncId} {V : Vw} {Rs : List At} {v : Value} {xs : List ByteArray} {sep r : ByteArray}
  (hv : (v = .slice none 0 0 ∧ xs = []) ∨ ∃ b o c, v = .slice (some ⟨b, o, none⟩) xs.length c ∧ ∀ (j : Nat) x, xs[j]? = some x → V.H.cell b (o + j) = some (.string x))
  (h0 : ∀ a c w, Calls P g #[.slice a 0 c, .string sep] w fun e w' => e = .returned (.string ⟨#[]⟩) ∧ w' = w)
  (hC : ∀ bk o c w, (∀ (j : Nat) x, xs[j]? = some x → w.cell? ⟨bk, o + j, none⟩ = some (.string x)) → bk < w.heap.size → xs.length ≤ 140737488355328 → xs.length ≤ c → (Lib.join (xs.map (·.data.toList)) sep.data.toList).length ≤ 140737488355328 →
   Calls P g #[.slice (some ⟨bk, o, none⟩) xs.length c, .string sep] w fun e w' => e = .returned (.string ⟨(Lib.join (xs.map (·.data.toList)) sep.data.toList).toArray⟩) ∧ Below w.heap.size w w')
  (ow : Ow V Rs) (h : joinO xs sep = some r) : ∃ v' V', Cl P G g #[v, .string sep] V.H v' V'.H ∧ V.le V' ∧ (v' = .string r ∧ Ow V' Rs) := by
 unfold joinO at h
 split at h
 ·rename_i hn
  obtain rfl := Option.some.inj h
  exact ⟨_, V, Cl.sd (join_sd hn.1 hn.2 hv h0 fun bk o c w h1 h2 h3 => hC bk o c w h1 h2 hn.1 h3 (by have := hn.2; unfold joinS at this; simpa [ByteArray.size] using this)), .refl V, rfl, ow⟩
 ·cases h
def trimS (s : ByteArray) : ByteArray := ⟨(Lib.trimSpace s.data.toList).toArray⟩
noncomputable def trimO (s : ByteArray) : Option ByteArray := if s.size ≤ 16777216 ∧ ∀ b ∈ s.data.toList, b.toNat < 128 then some (trimS s) else none
theorem trim_cl {P : Program} {G gid : Nat} {g : FuncId} {V : Vw} {Rs : List At} {s r : ByteArray} (hT : Tb V gid .u8 Lib.asciiSpaceTab) (hlo : gid < V.H.lo) (hg : P.globalNamed "strings.asciiSpace" = some gid)
  (hC : ∀ w, s.size ≤ 16777216 → (∀ (j : Nat) b, s.data.toList[j]? = some b → b.toNat < 128) → Lib.TabIs P w "strings.asciiSpace" .u8 Lib.asciiSpaceTab → Calls P g #[.string s] w fun e w' => e = .returned (.string ⟨(Lib.trimSpace s.data.toList).toArray⟩) ∧ Below w.heap.size w w')
  (ow : Ow V Rs) (h : trimO s = some r) : ∃ v V', Cl P G g #[.string s] V.H v V'.H ∧ V.le V' ∧ (v = .string r ∧ Ow V' Rs) := by
 unfold trimO at h
 split at h
 ·rename_i hn
  obtain rfl := Option.some.inj h
  refine ⟨.string (trimS s), V, Cl.sd (Sd.keep fun ι w cargs hr ha => ?_), .refl V, rfl, ow⟩
  obtain ⟨u, rfl, hu⟩ := ha.one
  obtain rfl := hu.atom_eq (.string _)
  refine (hC w hn.1 (fun j b hj => hn.2 b (List.mem_of_getElem? hj)) (hT.is hlo hg hr)).mono ?_
  rintro e w' ⟨rfl, hb⟩
  exact ⟨⟨_, rfl, .atom _ (.string _)⟩, hb⟩
 ·cases h
end Go.Vm
namespace Go.Vm
open Go
namespace S
variable {P : Program} {C : CallRel} {o : Oper} {t : T} {H : AH}
theorem eqIn_nilP {ty e : TypeId} (hu : P.underlying ty = some (.pointer e)) (d : Nat) (w : World) : (Op.equalIn (d + 1) ty (.pointer none) (.pointer none)).run P w = .ok true w := by
 simp [Op.equalIn, run_und hu]
theorem nilPP {x y : Operand} {ty u e : TypeId} (ho : o.op = .binOp .eql ty x y u) (hx : aev t x = .pointer none) (hy : aev t y = .pointer none) (hu : P.underlying ty = some (.pointer e)) : Step P C o t H .pure (.bool true) H := by
 refine flat2 ho hx hy (.atom _ .nilPtr) (.atom _ .nilPtr) (.atom _ (.bool _)) (fun w => ?_) (fun w => ?_)
 ·simp only [binOp]; simp [Op.equal, Op.maxDepth, eqIn_nilP hu 9999]
 ·simp [eqGuard]
theorem nilPN {x y : Operand} {ty u e : TypeId} (ho : o.op = .binOp .neq ty x y u) (hx : aev t x = .pointer none) (hy : aev t y = .pointer none) (hu : P.underlying ty = some (.pointer e)) : Step P C o t H .pure (.bool false) H := by
 refine flat2 ho hx hy (.atom _ .nilPtr) (.atom _ .nilPtr) (.atom _ (.bool _)) (fun w => ?_) (fun w => ?_)
 ·simp only [binOp]; simp [Op.equal, Op.maxDepth, eqIn_nilP hu 9999]
 ·simp [eqGuard]
end S
end Go.Vm
