/-
 Calls by proved contracts that write a row of numbers in place: sorted, or with each run of equal ones once.
-/
import Derived.Test.YtoefpigdafjcdaaDoorESp16
import Derived.Sort.Grow
import Derived.Shelf.Slices.CompactI
set_option linter.unusedSimpArgs false
set_option linter.unusedVariables false
namespace Go.Vm
open Go Go.RowKit
theorem get_put {enc : Int → Value} {off : Nat} {d : Array Int} {c : Array Value} {k : Nat} : (Sort.putCells enc off d c)[k]? = (c[k]?).map fun x => if off ≤ k ∧ k < off + d.size then enc d[k - off]! else x := by
 unfold Sort.putCells
 rw [Array.getElem?_mapIdx]
theorem sd_row {P : Program} {g : FuncId} {H : AH} {b o k : Nat} {cs : List Value} {zs zs' : List Int} {rv : Value} {rw : Nat → Nat → Nat → Value}
  (hlo : H.lo ≤ b) (hg : H.get b = some (.cells 1 cs)) (ho : o ≤ cs.length) (hz : cs.drop o = zs.map fun z => .int .i64 z) (hl : zs'.length = zs.length) (hk : k ≤ zs.length) (hne : zs ≠ [])
  (hrv : (rv = .tuple #[] ∧ ∀ a c d, rw a c d = .tuple #[]) ∨ (rv = .slice (some ⟨b, o, none⟩) k 1 ∧ ∀ blk off cap, rw blk off cap = .slice (some ⟨blk, off, none⟩) k cap))
  (hC : ∀ blk off cap w, Sort.Holds (Value.int .i64) w blk off zs.toArray → blk < w.heap.size → zs.length ≤ cap → Calls P g #[.slice (some ⟨blk, off, none⟩) zs.length cap] w fun e w' => e = .returned (rw blk off cap) ∧ ∃ n os, w' = Sort.grow (Sort.putRow (Value.int .i64) (Sort.ahead w n) blk off zs'.toArray) os) :
  Sd P g #[.slice (some ⟨b, o, none⟩) zs.length 1] H rv (H.upd b (some (.cells 1 (cs.take o ++ (zs'.take k).map fun z => .int .i64 z)))) := by
 refine ⟨⟨Nat.le_refl _, rfl⟩, fun ι w cargs hr ha => ?_⟩
 obtain ⟨u, rfl, hu⟩ := ha.one
 obtain ⟨l, a', c', hl', rfl, h3, h4, h5⟩ := hu.slice_inv
 obtain ⟨hes, hcap⟩ := h5 hlo
 have hn : zs.length ≠ 0 := fun e => hne (List.eq_nil_of_length_eq_zero e)
 obtain rfl := h4 (by omega)
 obtain ⟨ms, elem, fr, g1, g2, g3, g4, g5, g6⟩ := hr.obj b l _ hl' hg
 have hfr := unfz g1 (g6 hlo)
 have hcl : cs.length = o + zs.length := by
  have := congrArg List.length hz
  rw [List.length_drop, List.length_map] at this
  omega
 have hcell : ∀ (j : Nat) (x : Int), zs[j]? = some x → ms[l.base + (o + j)]? = some (.int .i64 x) := fun j x hj => by
  have h6 : cs[o + j]? = some (.int .i64 x) := by rw [← List.getElem?_drop, hz, List.getElem?_map, hj]; rfl
  obtain ⟨v', h7, h8⟩ := g5 _ _ h6
  rw [h7, h8.atom_eq (.int _ _)]
 have hH : Sort.Holds (Value.int .i64) w l.blk (l.base + o) zs.toArray := fun j hj => by
  have hj' : j < zs.length := by simpa using hj
  refine ⟨?_, ?_⟩
  ·have h6 := hcell j zs[j] (List.getElem?_eq_getElem hj')
   simp only [World.cell?, g1]
   rw [Nat.add_assoc, h6, getElem!_pos zs.toArray j hj]
   simp
  ·exact hfr _ (by omega)
 refine (hC l.blk (l.base + o) c' w hH (hr.dom b l hl').2 h3).mono ?_
 rintro e w' ⟨rfl, n, os, rfl⟩
 let w1 := Sort.putRow (Value.int .i64) (Sort.ahead w n) l.blk (l.base + o) zs'.toArray
 have hlt := (hr.dom b l hl').2
 have q1 : w1.heap.size = w.heap.size := by simp [w1]
 have q2 : ∀ c, c ≠ l.blk → w1.heap[c]? = w.heap[c]? := fun c hc => by
  show (w.heap.modify l.blk _)[c]? = _
  rw [Array.getElem?_modify, if_neg (fun e => hc e.symm)]
 have q3 : w1.heap[l.blk]? = some (.cells (Sort.putCells (Value.int .i64) (l.base + o) zs'.toArray ms) elem fr) := by
  show (w.heap.modify l.blk _)[l.blk]? = _
  rw [Array.getElem?_modify, if_pos rfl, g1]
  rfl
 have q4 : (Sort.putCells (Value.int .i64) (l.base + o) zs'.toArray ms).size = ms.size := by simp [Sort.putCells]
 have hkl : (zs'.take k).length = k := by rw [List.length_take]; omega
 obtain ⟨r1, r2, r3⟩ := hr.write (w' := w1) (x := .cells 1 (cs.take o ++ (zs'.take k).map fun z => .int .i64 z)) hl' hlo (by rw [hg]; simp) q1 q2 ⟨rfl, rfl, rfl⟩ ⟨_, elem, fr, q3, by rw [q4]; exact g2, g3, by
   rw [q4, List.length_append, List.length_take, List.length_map, hkl]
   omega, (fun j v hv => by
   rw [get_put]
   by_cases hj : j < o
   ·rw [List.getElem?_append_left (by rw [List.length_take]; omega), List.getElem?_take, if_pos hj] at hv
    obtain ⟨v', h7, h8⟩ := g5 _ _ hv
    refine ⟨v', ?_, h8⟩
    rw [h7, Option.map_some, if_neg (by omega)]
   ·rw [List.getElem?_append_right (by rw [List.length_take]; omega), List.length_take, Nat.min_eq_left ho, List.getElem?_map] at hv
    cases hx : (zs'.take k)[j - o]? with
    | none => rw [hx] at hv; cases hv
    | some x =>
     rw [hx] at hv
     obtain rfl := Option.some.inj hv
     rw [List.getElem?_take] at hx
     split at hx
     ·rename_i hjk
      have hjl : j - o < zs'.length := (List.getElem?_eq_some_iff.1 hx).1
      have h6 := hcell (j - o) zs[j - o] (List.getElem?_eq_getElem (by omega))
      rw [show l.base + (o + (j - o)) = l.base + j by omega] at h6
      refine ⟨_, ?_, .atom _ (.int _ _)⟩
      rw [h6, Option.map_some, if_pos (by simp; omega)]
      congr 2
      rw [show l.base + j - (l.base + o) = j - o by omega, getElem!_pos zs'.toArray (j - o) (by simpa using hjl)]
      have := (List.getElem?_eq_some_iff.1 hx).2
      simpa using this
     ·cases hx), fun _ => by rw [q4]; exact g6 hlo⟩
 have hb : Below w1.heap.size w1 (Sort.grow w1 os) := ⟨rfl, rfl, rfl, by show w1.heap.size ≤ (w1.heap ++ os).size; rw [Array.size_append]; omega, fun j hj => by show (w1.heap ++ os)[j]? = w1.heap[j]?; rw [Array.getElem?_append_left hj]⟩
 have haf : After ι H (H.upd b (some (.cells 1 (cs.take o ++ (zs'.take k).map fun z => .int .i64 z)))) w (Sort.grow w1 os) ι :=
  ⟨r2, r1.below hb, Nat.le_trans r3.1 hb.size, fun c hc hd => (hb.block c (Nat.lt_of_lt_of_le hc r3.1)).trans (r3.2.1 c hc hd), rfl, rfl, rfl⟩
 rcases hrv with ⟨rfl, h6⟩ | ⟨rfl, h6⟩
 ·exact ⟨_, ι, by rw [h6], .tuple _ _ rfl (fun i h1 _ => by simp at h1), haf⟩
 ·exact ⟨_, ι, by rw [h6], .slice b o k 1 l _ c' hl' (by omega) (fun _ => rfl) (fun _ => ⟨hes, hcap⟩), haf⟩
theorem Rows.ints {V : Vw} {cs : List Value} {zs : List Int} (h : Rows (RT.int .i64).rel V cs zs) : cs = zs.map fun z => Value.int .i64 z := by
 induction h with
 | nil => rfl
 | cons r cs x xs h h' ih =>
  have h : r = [.int .i64 x] := h
  rw [h, ih]
  rfl
theorem rows_ints (V : Vw) : ∀ zs : List Int, Rows (RT.int .i64).rel V (zs.map fun z => Value.int .i64 z) zs
 | [] => .nil
 | z :: zs => .cons [_] _ _ _ rfl (rows_ints V zs)
theorem row_cl {P : Program} {G : Nat} {g : FuncId} {V : Vw} {Rs : List At} {v : Value} {zs zs' : List Int} {sl : Bool} {k : Nat} (ow : Ow V (.os (RT.int .i64) v zs :: Rs)) (hl : zs'.length = zs.length) (hk : k ≤ zs.length) (hks : sl = false → k = zs.length)
  (h0 : ∀ a c w, zs = [] → Calls P g #[.slice a 0 c] w fun e w' => e = .returned (if sl = true then .slice a 0 c else .tuple #[]) ∧ w' = w)
  (hC : ∀ blk off cap w, Sort.Holds (Value.int .i64) w blk off zs.toArray → blk < w.heap.size → zs.length ≤ cap → Calls P g #[.slice (some ⟨blk, off, none⟩) zs.length cap] w fun e w' => e = .returned (if sl = true then .slice (some ⟨blk, off, none⟩) k cap else .tuple #[]) ∧ ∃ n os, w' = Sort.grow (Sort.putRow (Value.int .i64) (Sort.ahead w n) blk off zs'.toArray) os) :
  ∃ rv V', Cl P G g #[v] V.H rv V'.H ∧ V.le V' ∧ ∃ v', rv = (if sl = true then v' else .tuple #[]) ∧ (sl = false → v' = v) ∧ Ow V' (.os (RT.int .i64) v' (zs'.take k) :: Rs) := by
 obtain ⟨p, hp, hs⟩ := ow.osat (k := 0) rfl
 rcases hs with ⟨hle, ⟨rfl, rfl, rfl⟩ | ⟨b, o, cs, rfl, rfl, h4, h5⟩⟩
 ·have hz' : zs' = [] := List.eq_nil_of_length_eq_zero hl
  subst hz'
  refine ⟨_, V, Cl.sd (v := if sl = true then .slice none 0 0 else .tuple #[]) (Sd.keep fun ι w cargs hr ha => ?_), .refl V, .slice none 0 0, rfl, fun _ => rfl, by simpa using ow⟩
  obtain ⟨u, rfl, hu⟩ := ha.one
  obtain rfl := hu.nilS
  refine (h0 none 0 w rfl).mono ?_
  rintro e w' ⟨rfl, rfl⟩
  refine ⟨⟨_, rfl, ?_⟩, Below.refl _ _⟩
  cases sl with
  | true => exact .atom _ .nilSlice
  | false => exact .tuple _ _ rfl (fun i h1 _ => by simp at h1)
 ·have hz : cs.drop o = zs.map fun z => .int .i64 z := h5.ints
  obtain ⟨h6, h7, h8, h9⟩ := hp.own (b, .cells 1 cs) (by simp [RT.int])
  by_cases hne : zs = []
  ·subst hne
   have hz' : zs' = [] := List.eq_nil_of_length_eq_zero hl
   subst hz'
   refine ⟨_, V, Cl.sd (v := if sl = true then .slice (some ⟨b, o, none⟩) 0 1 else .tuple #[]) (Sd.keep fun ι w cargs hr ha => ?_), .refl V, .slice (some ⟨b, o, none⟩) 0 1, rfl, fun _ => rfl, by rw [List.take_nil]; exact ow⟩
   obtain ⟨u, rfl, hu⟩ := ha.one
   have hu' := hu
   obtain ⟨l, a', c', hl', rfl, h3, h4, h5⟩ := hu.slice_inv
   refine (h0 (some a') c' w rfl).mono ?_
   rintro e w' ⟨rfl, rfl⟩
   refine ⟨⟨_, rfl, ?_⟩, Below.refl _ _⟩
   cases sl with
   | true => exact hu'
   | false => exact .tuple _ _ rfl (fun i h1 _ => by simp at h1)
  ·have hsd := sd_row (P := P) (g := g) (k := k) (rv := if sl = true then .slice (some ⟨b, o, none⟩) k 1 else .tuple #[]) (rw := fun blk off cap => if sl = true then .slice (some ⟨blk, off, none⟩) k cap else .tuple #[]) h6 h9 h4 hz hl hk hne (by
    cases sl with
    | true => exact .inr ⟨rfl, fun _ _ _ => rfl⟩
    | false => exact .inl ⟨rfl, fun _ _ _ => rfl⟩) hC
   have hst : St V b (V.set b (.cells 1 (cs.take o ++ (zs'.take k).map fun z => .int .i64 z))) (.cells 1 (cs.take o ++ (zs'.take k).map fun z => .int .i64 z)) := ⟨rfl⟩
   have hkl : (zs'.take k).length = k := by rw [List.length_take]; omega
   have how := ow.st1 (k := 0) (B := .os (RT.int .i64) (.slice (some ⟨b, o, none⟩) k 1) (zs'.take k)) rfl (fun q hq hs => by
    rcases hs with ⟨_, ⟨_, e, _⟩ | ⟨b', o', cs', e, rfl, _, _⟩⟩
    ·cases e
    ·cases e
     have := hq.own (b, .cells (RT.int .i64).sz cs') (by simp)
     have h10 : some (AObj.cells 1 cs') = some (AObj.cells 1 cs) := (show V.H.get b = some (AObj.cells 1 cs') from this.2.2.2).symm.trans h9
     injection h10 with h10
     injection h10 with _ h10
     subst h10
     rfl) hst ⟨by rw [hkl]; omega, .inr ⟨b, o, _, by rw [hkl]; rfl, rfl, by rw [List.length_append, List.length_take]; omega, by
      rw [List.drop_append_of_le_length (by rw [List.length_take]; omega), List.drop_of_length_le (by rw [List.length_take]; omega), List.nil_append]
      exact rows_ints _ _⟩⟩
   have hcl : Cl P G g #[.slice (some ⟨b, o, none⟩) zs.length (RT.int .i64).sz] V.H (if sl = true then .slice (some ⟨b, o, none⟩) k 1 else .tuple #[]) (V.set b (.cells 1 (cs.take o ++ (zs'.take k).map fun z => Value.int .i64 z))).H := Cl.sd hsd
   refine ⟨_, _, hcl, hst.le (M := fun _ => True) ⟨trivial, h6, h7, h8, h9⟩, .slice (some ⟨b, o, none⟩) k 1, ?_, fun hsl => ?_, how⟩
   ·rfl
   ·rw [hks hsl]
    rfl
noncomputable def sortO (zs : List Int) : Option (List Int) := if zs.length < 4611686018427387904 then some (zs.mergeSort fun x y => decide (x ≤ y)) else none
theorem sort_cl {P : Program} {G : Nat} {g : FuncId} {V : Vw} {Rs : List At} {v : Value} {zs r : List Int}
  (h0 : ∀ a c w, Calls P g #[.slice a 0 c] w fun e w' => e = .returned (.tuple #[]) ∧ w' = w)
  (hC : ∀ blk off cap w, Sort.Holds (Value.int .i64) w blk off zs.toArray → blk < w.heap.size → zs.length < 4611686018427387904 → Calls P g #[.slice (some ⟨blk, off, none⟩) zs.length cap] w fun e w' => e = .returned (.tuple #[]) ∧ ∃ n os, w' = Sort.grow (Sort.putRow (Value.int .i64) (Sort.ahead w n) blk off (zs.mergeSort fun x y => decide (x ≤ y)).toArray) os)
  (ow : Ow V (.os (RT.int .i64) v zs :: Rs)) (h : sortO zs = some r) : ∃ rv V', Cl P G g #[v] V.H rv V'.H ∧ V.le V' ∧ Ow V' (.os (RT.int .i64) v r :: Rs) := by
 unfold sortO at h
 split at h
 ·rename_i hn
  obtain rfl := Option.some.inj h
  have hl : (zs.mergeSort fun x y => decide (x ≤ y)).length = zs.length := List.length_mergeSort _
  obtain ⟨rv, V', h1, h2, v', _, h4, h5⟩ := row_cl (P := P) (G := G) (g := g) (sl := false) (k := zs.length) ow hl (Nat.le_refl _) (fun _ => rfl) (fun a c w _ => h0 a c w) (fun blk off cap w a1 a2 _ => hC blk off cap w a1 a2 hn)
  obtain rfl := h4 rfl
  rw [List.take_of_length_le (by rw [hl]; exact Nat.le_refl _)] at h5
  exact ⟨rv, V', h1, h2, h5⟩
 ·cases h
theorem compact_le (zs : List Int) : (Lib.compact zs).length ≤ zs.length := by
 unfold Lib.compact Lib.compactUpTo
 rw [List.length_map]
 exact Nat.le_trans (List.length_filter_le _ _) (by simp)
noncomputable def compactO (zs : List Int) : Option (List Int) := if zs.length ≤ 9223372036854775807 then some (Lib.compact zs) else none
theorem compact_cl {P : Program} {G : Nat} {g : FuncId} {V : Vw} {Rs : List At} {v : Value} {zs r : List Int}
  (h0 : ∀ a c w, Calls P g #[.slice a 0 c] w fun e w' => e = .returned (.slice a 0 c) ∧ w' = w)
  (hC : ∀ blk off cap w, Sort.Holds (Value.int .i64) w blk off zs.toArray → zs.length ≤ 9223372036854775807 → zs.length ≤ cap → Calls P g #[.slice (some ⟨blk, off, none⟩) zs.length cap] w fun e w' => e = .returned (.slice (some ⟨blk, off, none⟩) (Lib.compact zs).length cap) ∧ ∃ q, w' = Sort.putRow (Value.int .i64) (Sort.ahead w q) blk off (Lib.compact zs ++ List.replicate (zs.length - (Lib.compact zs).length) 0).toArray)
  (ow : Ow V (.os (RT.int .i64) v zs :: Rs)) (h : compactO zs = some r) : ∃ v' V', Cl P G g #[v] V.H v' V'.H ∧ V.le V' ∧ Ow V' (.os (RT.int .i64) v' r :: Rs) := by
 unfold compactO at h
 split at h
 ·rename_i hn
  obtain rfl := Option.some.inj h
  have hc := compact_le zs
  obtain ⟨rv, V', h1, h2, v', h3, _, h5⟩ := row_cl (P := P) (G := G) (g := g) (sl := true) (k := (Lib.compact zs).length) (zs' := Lib.compact zs ++ List.replicate (zs.length - (Lib.compact zs).length) 0) ow (by simp; omega) hc (fun e => by cases e) (fun a c w _ => h0 a c w) (fun blk off cap w a1 _ a3 => (hC blk off cap w a1 hn a3).mono (by
   rintro e w' ⟨h6, q, h7⟩
   refine ⟨by rw [h6]; rfl, q, #[], ?_⟩
   rw [h7]
   simp only [Sort.grow, Array.append_empty]))
  rw [List.take_left] at h5
  obtain rfl : rv = v' := h3
  exact ⟨rv, V', h1, h2, h5⟩
 ·cases h
end Go.Vm
