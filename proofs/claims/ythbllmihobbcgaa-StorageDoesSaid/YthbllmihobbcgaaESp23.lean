/-
 (*Storage).Order: a range over slices.All, walked by the kit's law on the model's own steps.
-/
import Derived.Test.YthbllmihobbcgaaESp16
import Derived.RangeFuncNested
import Derived.RangeFuncBox
import Derived.RangeFuncLeaves
import Derived.Shelf.Abstract
import Derived.WalkKit
import Derived.OwnWalkIn
import Derived.TacticsInMore
import Derived.LoopNIn
import Derived.LoopIn
import Derived.Maps.AppendAt
import Derived.Deep.MidRow
import Derived.Lib.FrozenHead
import Derived.Test.YthbllmihobbcgaaProg
set_option linter.unusedSimpArgs false
set_option linter.unusedVariables false
namespace Go.Proofs
open Go.RowKit Go.Shelf
attribute [local go_sem] Oper.semAt_some
structure BlX (x n₀ : Nat) (w w' : World) : Prop where
 os : w'.os = w.os
 tape : w'.tape = w.tape
 output : w'.output = w.output
 size : w.heap.size ≤ w'.heap.size
 block : ∀ k, k < n₀ → k ≠ x → w'.heap[k]? = w.heap[k]?
theorem BlX.refl (x n₀ : Nat) (w : World) : BlX x n₀ w w := ⟨rfl, rfl, rfl, Nat.le_refl _, fun _ _ _ => rfl⟩
theorem BlX.trans {x n₀ : Nat} {a b c : World} (h : BlX x n₀ a b) (k : BlX x n₀ b c) : BlX x n₀ a c :=
 ⟨k.os.trans h.os, k.tape.trans h.tape, k.output.trans h.output, Nat.le_trans h.size k.size, fun i hi hx => (k.block i hi hx).trans (h.block i hi hx)⟩
theorem BlX.of {x n₀ : Nat} {w w' : World} (h : Below n₀ w w') : BlX x n₀ w w' := ⟨h.os, h.tape, h.output, h.size, fun k hk _ => h.block k hk⟩
theorem BlX.alloc {x n₀ : Nat} {a w : World} (h : BlX x n₀ a w) (hB : n₀ ≤ w.heap.size) (o : Obj) : BlX x n₀ a (w.alloc o) := h.trans (.of ((Below.refl _ w).alloc hB o))
theorem BlX.set {x n₀ : Nat} {a w : World} (h : BlX x n₀ a w) (u : Value) : BlX x n₀ a (w.setCell ⟨x, 0, none⟩ u) :=
 h.trans ⟨rfl, rfl, rfl, by simp [World.setCell], fun k _ hk => Below.heap_setCell _ _ _ _ hk⟩
theorem BlX.grown {x n₀ : Nat} {a w w' : World} {row : Option Nat} (h : BlX x n₀ a w) (hg : w.grownBy w' row) (hB : n₀ ≤ w.heap.size) (hr : ∀ k, row = some k → n₀ ≤ k) : BlX x n₀ a w' :=
 h.trans ⟨hg.os, hg.tape, hg.output, hg.size, fun k hk _ => hg.block k (by omega) (fun e => by have := hr k e.symm; omega)⟩
theorem BlX.cell {x n₀ : Nat} {w w' : World} (h : BlX x n₀ w w') {p : Addr} (hp : p.block < n₀) (hx : p.block ≠ x) : w'.cell? p = w.cell? p := World.cell?_of_block (w := w) (h.block p.block hp hx)
theorem blxK_b {x n₀ : Nat} {w : World} (hn : n₀ ≤ w.heap.size) (W : World) (l : Nat) (o o' : Obj) (hl : w.heap.size ≤ l) (h : W.heap[l]? = some o) (h1 : o.isCells = false) (h2 : o.isWalk = false) : BlX x n₀ W (W.putObj l o') := .of (belowK_b hn W l o o' hl h h1 h2)
theorem ownFrom_blx {β : Type} {x n₀ B : Nat} {w₀ : World} (hn : n₀ ≤ w₀.heap.size) (hB : n₀ ≤ B) : OwnFrom B (fun (_ : β) W => BlX x n₀ w₀ W) :=
 fun _ _ _ _ hs hg hr => hs.grown hg (Nat.le_trans hn hs.size) (fun k e => Nat.le_trans hB (hr k e).1)
theorem Boxed.appX {W w1 : World} {n₀ B : Nat} {t e : TypeId} {size : Nat} {v v' : Value} {k m : Nat} {xs ys : List Value} {tmp : Obj}
  (hv : Boxed W B t v) (hte : t ≠ e) (hrow : W.ownsRow n₀ e size v k xs) (hn₀ : n₀ ≤ W.heap.size) (hown' : w1.ownsRow n₀ e size v' m ys) (hgrow : (W.alloc tmp).grownBy w1 v.ownBlock) :
  Boxed w1 B t v ∧ Boxed (w1.setCell ⟨B, 0, none⟩ v') B t v' ∧ (w1.setCell ⟨B, 0, none⟩ v').ownsRow n₀ e size v' m ys ∧ KeepsOthers W (w1.setCell ⟨B, 0, none⟩ v') ∧ BlX B n₀ W (w1.setCell ⟨B, 0, none⟩ v') := by
 have hv1 : Boxed w1 B t v := (hv.alloc tmp).kept hgrow (hv.not_row hte hrow)
 refine ⟨hv1, hv1.set v', hown'.kept (grownBy_setCell' w1 B v') (.inr (hv1.not_row hte hown').symm), ?_, ?_⟩
 ·refine ((KeepsOthers.alloc W tmp).trans (KeepsOthers.of_grownBy hgrow fun j o ej hj => ?_)).trans (KeepsOthers.setCell _ _ _)
  rcases (hrow.alloc tmp).2 with ⟨rfl, _⟩ | ⟨g, cap, cur, rfl, _, hgb, _⟩
  ·simp [Value.ownBlock] at ej
  ·obtain rfl : g = j := by simpa [Value.ownBlock] using ej
   rw [hgb] at hj; cases hj; rfl
 ·refine (((BlX.refl B n₀ W).alloc hn₀ tmp).grown hgrow (by simp; omega) fun j ej => ?_).set v'
  rcases hrow.2 with ⟨rfl, _⟩ | ⟨g, cap, cur, rfl, hb, _, _⟩
  ·simp [Value.ownBlock] at ej
  ·obtain rfl : g = j := by simpa [Value.ownBlock] using ej
   exact hb
abbrev Ev4 := Int × Bool × Int × Int
def ev0 : Ev4 := (0, false, 0, 0)
def evL (x : Ev4) : List Value := [.int .i64 x.1, .bool x.2.1, .int .i64 x.2.2.1, .int .i64 x.2.2.2]
def evV (x : Ev4) : Value := .agg (evL x).toArray
def evUp (f : Nat → Ev4) (k : Nat) : List (Nat × Ev4) := (List.range k).map fun j => (j, f j)
theorem evUp_succ (f : Nat → Ev4) (k : Nat) : evUp f (k + 1) = evUp f k ++ [(k, f k)] := by simp [evUp, List.range_succ]
theorem evUp_length (f : Nat → Ev4) (k : Nat) : (evUp f k).length = k := by simp [evUp]
set_option maxRecDepth 100000 in
set_option maxHeartbeats 4000000 in
theorem ev_all1 (F : Fence) (n : Nat) (h8 : F.fn 42) (hro : F.round = none) (hn : 1 ≤ n) (l Bs z n₀ b off len cap : Nat) (f : Nat → Ev4) (hreach : len * 64 ≤ 140737488351232) (hb : b < n₀) (hbx : b ≠ z) (J Jx : List (Nat × Ev4) → World → Prop)
  (hJ : ∀ s W o, J s W → J s (W.alloc o))
  (hY : ∀ pre x W, J pre W → pre.length < len → YieldAt F (n - 1) Try.prog l #[.int .i64 (x.1 : Int), evV x.2] W fun e W' =>
   (e = .returned (.bool true) ∧ J (pre ++ [x]) W' ∧ BlX z n₀ W W') ∨ (e = .returned (.bool false) ∧ Jx (pre ++ [x]) W'))
  (W : World) (hn₀ : n₀ ≤ W.heap.size) (hBs : W.cell? ⟨Bs, 0, none⟩ = some (.slice (some ⟨b, off, none⟩) len cap)) (hc : ∀ j, j < len → W.rangeAt b (off + j * 4) (evL (f j))) (h0 : J [] W) :
  CallsIn F n Try.prog 42 #[.func (.yield l) #[] #[], .pointer (some ⟨Bs, 0, none⟩)] W fun e W' => (∃ v, e = .returned v) ∧
   ((∃ ys, ys = evUp f len ∧ J ys W') ∨ (∃ pre, (∃ k, k ≤ len ∧ pre = evUp f k) ∧ Jx pre W')) := by
 refine callsIn_of_wp Try.func42 rfl h8 ?_ hro
 simp only [Try.ntmps42, List.size_toArray, List.length_cons, List.length_nil, Nat.reduceAdd, Nat.reduceSub, Array.replicate_succ, Array.replicate_zero, List.push_toArray, List.append_toArray, List.nil_append, List.cons_append]
 gi_wp2
 gi_loopw [7] (fun i wr => ∃ k : Nat, k ≤ len ∧ i = .int .i64 k ∧ J (evUp f k) wr ∧ BlX z n₀ W wr)
  (fun i _ => len - (intOf i).toNat)
 case atStart => exact ⟨0, Nat.zero_le _, rfl, h0, BlX.refl _ _ _⟩
 case round =>
  obtain ⟨k, hk, rfl, hJs, hnx⟩ := hrel
  by_cases hlt : k < len
  ·have hcx : wr.rangeAt b (off + k * 4) (evL (f k)) := fun j v hv => (hnx.cell (p := ⟨b, off + k * 4 + j, none⟩) hb hbx).trans (hc k hlt j v hv)
   have hq0 := hcx 0 _ rfl
   have hq1 := hcx 1 _ rfl
   have hq2 := hcx 2 _ rfl
   have hq3 := hcx 3 _ rfl
   simp only [Nat.add_zero] at hq0
   have hsz : n₀ ≤ wr.heap.size := Nat.le_trans hn₀ hnx.size
   have hb1 : BlX z n₀ wr (wr.alloc (.cells (evL (f k)).toArray 55)) := (BlX.refl _ _ wr).alloc hsz _
   obtain ⟨fn, tmps, assign, body, hy, hR⟩ := hY _ (k, f k) (wr.alloc (.cells (evL (f k)).toArray 55)) (hJ _ _ _ hJs) (by rw [evUp_length]; exact hlt)
   dsimp only [evV, evL] at hy hb1
   gi_wp2
   refine hR.mono ?_
   rintro e W3 (⟨rfl, hJ3, hk3⟩ | ⟨rfl, hJx3⟩)
   ·gi_wp2
    go_roundw
    case rel => exact ⟨k + 1, by omega, by simp, by rw [evUp_succ]; exact hJ3, (hnx.trans hb1).trans hk3⟩
    case measure => simp [intOf]; omega
   ·gi_wp2
    refine bodyPost_ret (results_none rfl _ _ _) rfl ?_
    exact ⟨⟨_, rfl⟩, .inr ⟨_, ⟨k + 1, by omega, (evUp_succ _ _).symm⟩, hJx3⟩⟩
  ·obtain rfl : k = len := by omega
   gi_wp2
   go_end0
   exact ⟨⟨_, rfl⟩, .inl ⟨_, rfl, hJs⟩⟩
set_option maxRecDepth 100000 in
set_option maxHeartbeats 1000000 in
theorem ev_all1_nil (F : Fence) (n : Nat) (h8 : F.fn 42) (hro : F.round = none) (l Bs : Nat) (J : List (Nat × Ev4) → World → Prop) (W : World) (sa : Option Addr) (cap : Nat) (hBs : W.cell? ⟨Bs, 0, none⟩ = some (.slice sa 0 cap)) (h0 : J [] W) :
  CallsIn F n Try.prog 42 #[.func (.yield l) #[] #[], .pointer (some ⟨Bs, 0, none⟩)] W fun e W' => (∃ v, e = .returned v) ∧ J [] W' := by
 refine callsIn_of_wp Try.func42 rfl h8 ?_ hro
 simp only [Try.ntmps42, List.size_toArray, List.length_cons, List.length_nil, Nat.reduceAdd, Nat.reduceSub, Array.replicate_succ, Array.replicate_zero, List.push_toArray, List.append_toArray, List.nil_append, List.cons_append]
 gi_wp2
 gi_loopw [7] (fun i wr => i = .int .i64 0 ∧ J [] wr) (fun _ _ => 0)
 case atStart => exact ⟨rfl, h0⟩
 case round =>
  obtain ⟨rfl, hJs⟩ := hrel
  gi_wp2
  go_end0
  exact ⟨⟨_, rfl⟩, hJs⟩
set_option maxHeartbeats 1000000 in
theorem ev_all (F : Fence) (n : Nat) (h6 : F.fn 40) (hro : F.round = none) (a : Option Addr) (len cap : Nat) (w : World) :
  CallsIn F n Try.prog 40 #[.slice a len cap] w fun e w' => e = .returned (.func (.func 42) #[] #[.pointer (some ⟨w.heap.size, 0, none⟩)]) ∧ w' = w.alloc (.cells #[.slice a len cap] 53) := by
 refine callsIn_of_wp Try.func40 rfl h6 ?_ hro
 simp only [Try.ntmps40, List.size_toArray, List.length_cons, List.length_nil, Nat.reduceAdd, Nat.reduceSub, Array.replicate_succ, Array.replicate_zero, List.push_toArray, List.append_toArray, List.nil_append, List.cons_append]
 gi_wp2
 go_ret
 exact ⟨rfl, rfl⟩
def Evs (z n₀ : Nat) (w : World) (sv : Value) (f : Nat → Ev4) (len : Nat) : Prop :=
 (∃ sa cap, sv = .slice sa 0 cap ∧ len = 0) ∨ ∃ b off cap, sv = .slice (some ⟨b, off, none⟩) len cap ∧ (b < n₀ ∧ b ≠ z) ∧ ∀ j, j < len → w.rangeAt b (off + j * 4) (evL (f j))
theorem Evs.below {z n₀ : Nat} {A B : World} {sv : Value} {f : Nat → Ev4} {len : Nat} (hb : BlX z n₀ A B) (h : Evs z n₀ A sv f len) : Evs z n₀ B sv f len :=
 h.imp id fun ⟨b, off, cap, h1, h2, h3⟩ => ⟨b, off, cap, h1, h2, fun j hj k v hv => (hb.cell (p := ⟨b, off + j * 4 + k, none⟩) h2.1 h2.2).trans (h3 j hj k v hv)⟩
theorem ev_stops (F : Fence) (n : Nat) (h8 : F.fn 42) (hro : F.round = none) (hn : 1 ≤ n) (Bs z n₀ : Nat) (sv : Value) (f : Nat → Ev4) (len : Nat) (hreach : len * 64 ≤ 140737488351232) (w : World) (hBs : Bs < w.heap.size) (hn₀ : n₀ ≤ w.heap.size)
  (hc : w.cell? ⟨Bs, 0, none⟩ = some sv) (hI : Evs z n₀ w sv f len) :
  SeqStopsK F n Try.prog 42 #[.pointer (some ⟨Bs, 0, none⟩)] (fun x : Nat × Ev4 => #[Value.int .i64 (x.1 : Int), evV x.2]) (BlX z n₀) (fun ys => ys = evUp f len)
   (fun pre => ∃ k, k ≤ len ∧ pre = evUp f k) len w := fun l J Jx W hW hJ _ hY h0 => by
 have hc' := (hW.cell (p := ⟨Bs, 0, none⟩) hBs).trans hc
 rcases hI.below (.of (hW.mono hn₀)) with ⟨sa, cap, rfl, rfl⟩ | ⟨b, off, cap, rfl, ⟨hb, hbx⟩, hcs⟩
 ·exact (ev_all1_nil F n h8 hro l Bs J W sa cap hc' h0).mono fun e W' ⟨he, hj⟩ => ⟨he, .inl ⟨_, rfl, hj⟩⟩
 ·exact ev_all1 F n h8 hro hn l Bs z n₀ b off len cap f hreach hb hbx J Jx (fun s A o hs => hJ s A _ none hs (World.grownBy_alloc A o none) (fun r e => by cases e)) hY W (Nat.le_trans hn₀ hW.size) hc' hcs h0
def ordW (at_ : Int) (l : List (Nat × Ev4)) : List Int := (l.filter fun p => !p.2.2.1 && p.2.2.2.1 == at_).map fun p => wrap64 ((p.1 : Int) + 1)
theorem ordW_len (at_ : Int) (l : List (Nat × Ev4)) : (ordW at_ l).length ≤ l.length := by unfold ordW; rw [List.length_map]; exact List.length_filter_le _ _
theorem ordW_hit {at_ : Int} (pre : List (Nat × Ev4)) {x : Nat × Ev4} (h1 : x.2.2.1 = false) (h2 : x.2.2.2.1 = at_) : ordW at_ (pre ++ [x]) = ordW at_ pre ++ [wrap64 ((x.1 : Int) + 1)] := by simp [ordW, h1, h2]
theorem ordW_bar {at_ : Int} (pre : List (Nat × Ev4)) {x : Nat × Ev4} (h1 : x.2.2.1 = true) : ordW at_ (pre ++ [x]) = ordW at_ pre := by simp [ordW, h1]
theorem ordW_miss {at_ : Int} (pre : List (Nat × Ev4)) {x : Nat × Ev4} (h2 : x.2.2.2.1 ≠ at_) : ordW at_ (pre ++ [x]) = ordW at_ pre := by simp [ordW, h2]
theorem ord_info3 : (Try.prog.info? 3).map (fun i => (i.zero, i.size, i.bytes)) = some (some (.int .i64 0), 1, 8) := by kernel_rfl
set_option maxRecDepth 100000 in
set_option maxHeartbeats 4000000 in
theorem ord_in (F : Fence) (n : Nat) (h3 : F.fn 28) (h24 : F.fn 24) (h4 : F.fn 40) (h5 : F.fn 42) (hro : F.round = none) (hn : 3 ≤ n) (p : Option Addr) (at_ : Int) (f : Nat → Ev4) (len : Nat) (hlen : len * 64 ≤ 140737488351232) (w : World) (E : Value → World → Prop)
  (hE : CallsIn F (n - 1) Try.prog 24 #[.pointer p] ((w.alloc (.cells #[.int .i64 at_] 3)).alloc (.cells #[.slice none 0 0] 26)) fun e W' => ∃ sv, e = .returned sv ∧ Evs (w.heap.size + 1) W'.heap.size W' sv f len ∧ E sv W' ∧ w.heap.size + 2 ≤ W'.heap.size ∧ Boxed W' w.heap.size 3 (.int .i64 at_) ∧ Boxed W' (w.heap.size + 1) 26 (.slice none 0 0)) :
  CallsIn F n Try.prog 28 #[.pointer p, .int .i64 at_] w fun e W' => ∃ W0 sv v, E sv W0 ∧ w.heap.size + 2 ≤ W0.heap.size ∧ e = .returned v ∧ W'.ownsRow W0.heap.size 3 1 v (ordW at_ (evUp f len)).length ((ordW at_ (evUp f len)).map (Value.int .i64)) ∧ (v = .slice none 0 0 ↔ ordW at_ (evUp f len) = []) ∧
   W0.heap.size ≤ W'.heap.size ∧ (∀ k, k < W0.heap.size → k ≠ w.heap.size + 1 → W'.heap[k]? = W0.heap[k]?) ∧ W'.os = W0.os ∧ W'.tape = W0.tape ∧ W'.output = W0.output := by
 have h1 : 1 ≤ n := by omega
 obtain ⟨i0, hi, hz0, hz1, hz2⟩ := info_parts ord_info3
 refine callsIn_of_wp_marks Try.func28 rfl h3 ?_ hro
 simp only [Try.ntmps28, List.size_toArray, List.length_cons, List.length_nil, Nat.reduceAdd, Nat.reduceSub, Array.replicate_succ, Array.replicate_zero, List.push_toArray, List.append_toArray, List.nil_append, List.cons_append]
 gi_wp2_with (first | (gi_at_call 24; refine hE.mono ?_; rintro e W0 ⟨sv, rfl, hev, hEv, hsz, bA, bO⟩; obtain ⟨sa, sl, sc, rfl⟩ : ∃ a b c, sv = .slice a b c := by (rcases hev with ⟨_, _, h, _⟩ | ⟨b, o, c, h, _⟩ <;> exact ⟨_, _, _, h⟩)) | (gi_at_call 40; refine (ev_all F (n - 1) h4 hro _ _ _ _).mono ?_; rintro e w' ⟨rfl, rfl⟩))
 have bS := Boxed.new W0 53 (.slice sa sl sc)
 have hB0 : BlX (w.heap.size + 1) W0.heap.size W0 (W0.alloc (.cells #[.slice sa sl sc] 53)) := (BlX.refl _ _ W0).alloc (Nat.le_refl _) _
 have hu : (evUp f len).length ≤ maxLen := by rw [evUp_length]; unfold maxLen; omega
 refine wpIn_rangeFunc_ownH hro h1 (gf := 42) (lb := #[.pointer (some ⟨W0.heap.size, 0, none⟩)]) rfl h5 (enters_of Try.func42 (by kernel_rfl) rfl)
  (ev_stops F (n - 1) h5 hro (by omega) W0.heap.size (w.heap.size + 1) W0.heap.size _ f len (by omega) _ (by simp) (by simp) bS.cell (hev.below hB0)) BlX.trans (blxK_b (by simp)) (Below.refl _ _) (fun _ => rfl)
  (fun pre W => ((∃ v, Boxed W (w.heap.size + 1) 26 v ∧ W.ownsRow W0.heap.size 3 1 v (ordW at_ pre).length ((ordW at_ pre).map (Value.int .i64)) ∧ (v = .slice none 0 0 ↔ ordW at_ pre = [])) ∧ Boxed W w.heap.size 3 (.int .i64 at_)) ∧ BlX (w.heap.size + 1) W0.heap.size W0 W)
  (fun _ _ _ => False)
  (OwnFrom.and (OwnFrom.and (Own.from (holdsRow_own W0.heap.size (w.heap.size + 1) 26 3 1 (fun pre => (ordW at_ pre).length) (fun pre => (ordW at_ pre).map (Value.int .i64)) (fun pre v => v = .slice none 0 0 ↔ ordW at_ pre = [])) _) (Own.from (boxed_own _ _ _) _)) (ownFrom_blx (Nat.le_refl _) (by simp)))
  (fun _ _ _ _ _ hs _ _ => hs)
  ⟨⟨⟨_, bO.alloc _, World.ownsRow_nil _ _ _ _, by simp [ordW]⟩, bA.alloc _⟩, hB0⟩
  (fun x a' W => ∃ Be, W0.heap.size ≤ Be ∧ W.heap[Be]? = some (.cells (evL x.2).toArray 55 (0, 0)) ∧ a' = { tmps := #[.pointer p, .int .i64 at_, undef, .pointer (some ⟨w.heap.size, 0, none⟩), .slice none 0 0, .pointer (some ⟨w.heap.size + 1, 0, none⟩), .int .i64 (x.1 : Int), .pointer (some ⟨Be, 0, none⟩), .pointer p, .slice sa sl sc,
   .func (.func 42) #[] #[.pointer (some ⟨W0.heap.size, 0, none⟩)], .int .i64 (x.1 : Int), evV x.2, undef, undef, undef, undef, undef, undef, undef, undef, undef, undef, undef, undef, undef, undef, undef], defers := [] })
  (fun x a' _ X Y row hs hg hr => by
   obtain ⟨Be, h1, h2, h3⟩ := hs
   refine ⟨Be, h1, (hg.block Be (Array.getElem?_eq_some_iff.1 h2).1 (fun e => ?_)).trans h2, h3⟩
   obtain ⟨_, o, ho, hc⟩ := hr Be e.symm
   rw [h2] at ho; cases ho; cases hc)
  ?assign ?body ?done ?stop
 case assign =>
  rintro l pre x W K ⟨⟨⟨v, bV, hrow, hnil⟩, bA1⟩, hB1⟩ hK
  simp only [evV, evL]
  gi_wp2
  exact hK _ _ ((KeepsOthers.alloc _ _).from _) ((BlX.refl _ _ W).alloc hB1.size _) ⟨⟨⟨v, bV.alloc _, hrow.alloc _, hnil⟩, bA1.alloc _⟩, hB1.alloc hB1.size _⟩ ⟨W.heap.size, hB1.size, World.alloc_heap_new W _, rfl⟩
 case body =>
  rintro l pre x a' W hl hr ⟨⟨⟨v, hv, hrow, hnil⟩, bA1⟩, hB1⟩ ⟨Be, hBe, hE2, rfl⟩ hlt
  have hc := hv.cell
  have cA := bA1.cell
  have hpl : (ordW at_ pre).length ≤ pre.length := ordW_len _ _
  obtain ⟨xi, xt, xb, xa, xv⟩ := x
  have e1 : W.cell? ⟨Be, 1, none⟩ = some (.bool xb) := by rw [Lib.cell_of_heap hE2]; rfl
  have e2 : W.cell? ⟨Be, 2, none⟩ = some (.int .i64 xa) := by rw [Lib.cell_of_heap hE2]; rfl
  simp only [evV, evL]
  gi_wp2_with (gi_at_builtin; refine wpListIn_append_own _ rfl _ _ 26 rfl W0.heap.size 3 i0 (.int .i64 0) 1 8 Try.underlying26 hi hz0 hz1 hz2 rfl (by decide) _ _ _ rfl (hrow.alloc _) ⟨W.heap.size, 0, none⟩ 1 1 [.int .i64 (wrap64 ((xi : Int) + 1))] rfl rfl (cell_one_new _ _ _) (fun u hu => by rw [List.mem_singleton.1 hu]; rfl) (by unfold maxLen; omega) (by omega) (by have := hB1.size; simp; omega) ?qq)
  case qq =>
   intro v' w1 hown' hgrow _
   obtain ⟨g', cap', rfl⟩ := ownsRow_succ hown'
   obtain ⟨hv1, hv2, hr2, hk2, hb2⟩ := Boxed.appX hv (by decide) hrow hB1.size hown' hgrow
   have hc1 := hv1.cell
   have hf1 := hv1.frozen
   gi_wp2
   have hx0 : xb = false := by first | assumption | (simpa using ‹¬xb = true›)
   have hx1 : xa = at_ := by first | assumption | (simpa using ‹(xa == at_) = true›)
   refine ⟨hk2.from _, hb2, ⟨⟨_, hv2, by rw [ordW_hit pre hx0 hx1]; simpa using hr2, by rw [ordW_hit pre hx0 hx1]; simp⟩, ?_⟩, hB1.trans hb2⟩
   exact (hb2.block _ (by omega) (by omega)).trans bA1
  all_goals first
   | (exact ⟨KeepsFrom.refl _ _, BlX.refl _ _ _, ⟨⟨v, hv, by rw [ordW_bar pre (by first | rfl | assumption)]; exact hrow, by rw [ordW_bar pre (by first | rfl | assumption)]; exact hnil⟩, bA1⟩, hB1⟩)
   | (have hx1 : xa ≠ at_ := (fun e => by have h := ‹(xa == at_) = false›; simp [e] at h); exact ⟨KeepsFrom.refl _ _, BlX.refl _ _ _, ⟨⟨v, hv, by rw [ordW_miss pre hx1]; exact hrow, by rw [ordW_miss pre hx1]; exact hnil⟩, bA1⟩, hB1⟩)
 case done =>
  rintro D ys W hD rfl ⟨⟨⟨v, hv, hrow, hnil⟩, bA1⟩, hB1⟩ hK
  have hc := hv.cell
  gi_wp2
  refine ⟨by simp, .inl ⟨_, _, rfl, run_takeDeferred hK, ?_⟩⟩
  have hD' : W0.heap.size ≤ D := by simp at hD; omega
  have hB2 : BlX (w.heap.size + 1) W0.heap.size W0 (W.putObj D (.deferred none)) := hB1.trans (blxK_b (w := W0) (Nat.le_refl _) W D _ _ hD' hK rfl rfl)
  exact ⟨_, results_tmp rfl _ _ _, W0, _, v, hEv, hsz, rfl, ownsRow_putObj hrow _ hK rfl, hnil, hB2.size, hB2.block, hB2.os, hB2.tape, hB2.output⟩
 case stop =>
  rintro D c pre W _ _ h _
  exact h.elim
set_option maxRecDepth 100000 in
set_option maxHeartbeats 1000000 in
theorem ev_nil (w : World) : Calls Try.prog 24 #[.pointer none] w fun e w' => e = .returned (.slice none 0 0) ∧ w' = w := by
 go_enter Try.func24, Try.ntmps24
 go_wp2
 go_ret
 exact ⟨rfl, rfl⟩
end Go.Proofs
namespace Go.Vm
open Go Go.RowKit Go.Proofs
theorem R.samB {ι : Inj} {H : AH} {w w' : World} (hr : R ι H w) (h : ∀ b l, ι b = some l → w'.heap[l.blk]? = w.heap[l.blk]?) : R ι H w' := by
 refine ⟨fun b l o hb hg => (hr.obj b l o hb hg).keep ι.le_refl (h b l hb), hr.inj, fun b l hb => ⟨(hr.dom b l hb).1, ?_⟩, hr.low⟩
 have h1 := (hr.dom b l hb).2
 have h2 := h b l hb
 rw [Array.getElem?_eq_getElem h1] at h2
 exact (Array.getElem?_eq_some_iff.1 h2).1
noncomputable def ordL (l : List Ev4) (at_ : Int) : List Int := ordW at_ (evUp (fun j => l[j]?.getD ev0) l.length)
noncomputable def orderO (l : List Ev4) (at_ : Int) : Option (List Int) := if l.length * 64 ≤ 140737488351232 then some (ordL l at_) else none
def ordV (H : AH) (l : List Int) : Value := if l = [] then .slice none 0 0 else .slice (some ⟨H.next, 0, none⟩) l.length 1
def ordH (H : AH) (l : List Int) : AH := if l = [] then H else H.new (.cells 1 (l.map (Value.int .i64)))
theorem order_after {ι ι' : Inj} {H H1 : AH} {w W0 W' : World} {l : List Int} {cu : Value} {c1 c2 : Obj} (hr : R ι H w) (hA : After ι H H1 ((w.alloc c1).alloc c2) W0 ι') (hsz : w.heap.size + 2 ≤ W0.heap.size)
  (hrow : W'.ownsRow W0.heap.size 3 1 cu l.length (l.map (Value.int .i64))) (hnil : cu = .slice none 0 0 ↔ l = []) (hs : W0.heap.size ≤ W'.heap.size) (hk : ∀ k, k < W0.heap.size → k ≠ w.heap.size + 1 → W'.heap[k]? = W0.heap[k]?) (henv : Env W0 W') :
  ∃ ι'', VR H.lo ι'' (ordV H1 l) cu ∧ After ι H (ordH H1 l) w W' ι'' := by
 obtain ⟨nn, r1, fr⟩ := hA
 have hall : ∀ c, c < w.heap.size → ((w.alloc c1).alloc c2).heap[c]? = w.heap[c]? := fun c hc => (Below.heap_alloc _ _ c (by simp; omega)).trans (Below.heap_alloc _ _ c hc)
 have hs2 : ((w.alloc c1).alloc c2).heap.size = w.heap.size + 2 := by simp
 have hne : ∀ b l, ι' b = some l → l.blk < W0.heap.size ∧ l.blk ≠ w.heap.size + 1 := fun b l hb => by
  refine ⟨(r1.dom b l hb).2, ?_⟩
  rcases nn.new b l hb with h | ⟨_, _, h | ⟨b0, l0, h0, _, _, h1⟩⟩
  ·have := (hr.dom b l h).2; omega
  ·omega
  ·have := (hr.dom b0 l0 h0).2; omega
 have rB : R ι' H1 W' := r1.samB fun b l hb => hk _ (hne b l hb).1 (hne b l hb).2
 have hfr : Fr ι H w W' := by
  refine ⟨by omega, fun c hc hd => ?_, ?_⟩
  ·rw [hk c (by omega) (by omega), fr.2.1 c (by omega) hd, hall c hc]
  ·exact Env.trans (show Env w W0 from fr.2.2) henv
 have nnB : ∀ ι'' H'', ι'.le ι'' → H''.lo = H1.lo → H1.next ≤ H''.next → (∀ b, b < H1.next → H''.get b = H1.get b) → (∀ b l, ι'' b = some l → ι' b = some l ∨ (b = H1.next ∧ b < H''.next ∧ W0.heap.size ≤ l.blk)) → (∀ b, H1.next ≤ b → b < H''.next → ∃ l, ι'' b = some l) → NN ι ι'' H H'' w := by
  intro ι'' H'' g1 g2 g3 g4 g5 g6
  refine ⟨Inj.le_trans nn.ext g1, fun b l hb => ?_, Nat.le_trans nn.next g3, g2.trans nn.lo, fun b hb hd => ?_, fun b h1 h2 => ?_⟩
  ·rcases g5 b l hb with h | ⟨h1, h2, h3⟩
   ·rcases nn.new b l h with h | ⟨h1, h2, h3⟩
    ·exact .inl h
    ·exact .inr ⟨h1, by omega, h3.imp (fun h => by omega) id⟩
   ·have := nn.next
    exact .inr ⟨by omega, h2, .inl (by omega)⟩
  ·rw [g4 b (Nat.lt_of_lt_of_le hb nn.next)]
   exact nn.dead b hb hd
  ·by_cases h : b < H1.next
   ·obtain ⟨l, hl⟩ := nn.cov b h1 h
    exact ⟨l, g1 _ _ hl⟩
   ·exact g6 b (by omega) h2
 by_cases h0 : l = []
 ·rw [hnil.2 h0]
  refine ⟨ι', ?_, nnB ι' _ (Inj.le_refl _) ?_ ?_ ?_ (fun b l h => .inl h) ?_, ?_, hfr⟩
  ·rw [ordV, if_pos h0]; exact .atom _ .nilSlice
  ·rw [ordH, if_pos h0]
  ·rw [ordH, if_pos h0]; exact Nat.le_refl _
  ·rw [ordH, if_pos h0]; exact fun _ _ => rfl
  ·rw [ordH, if_pos h0]; exact fun b h1 h2 => absurd h1 (by omega)
  ·rw [ordH, if_pos h0]; exact rB
 ·obtain ⟨g, cap, cur, rfl, hg, hgc, hnc, hcm, hcs, htk⟩ : ∃ g cap cur, cu = .slice (some ⟨g, 0, none⟩) l.length cap ∧ W0.heap.size ≤ g ∧ W'.heap[g]? = some (.cells cur 3 (0, 0)) ∧ l.length ≤ cap ∧ cap ≤ maxLen ∧ cur.size = cap * 1 ∧ cur.toList.take (l.length * 1) = l.map (Value.int .i64) := by
   rcases hrow.2 with ⟨h, _⟩ | h
   ·exact absurd (hnil.1 h) h0
   ·exact h
  have hgl : g < W'.heap.size := (Array.getElem?_eq_some_iff.1 hgc).1
  let L : Loc := ⟨g, 0, 1, cap⟩
  have hle := rB.ext_le L
  have gn : ∀ b, b ≠ H1.next → (H1.new (.cells 1 (l.map (Value.int .i64)))).get b = H1.get b := fun b hb => by simp [AH.new, hb]
  have gs : (H1.new (.cells 1 (l.map (Value.int .i64)))).get H1.next = some (.cells 1 (l.map (Value.int .i64))) := by simp [AH.new]
  have is : (ι'.ext H1.next L) H1.next = some L := Inj.ext_self
  have io : ∀ b, b ≠ H1.next → (ι'.ext H1.next L) b = ι' b := fun b h => Inj.ext_ne h
  rw [ordV, if_neg h0, ordH, if_neg h0]
  refine ⟨ι'.ext H1.next L, ?_, nnB _ _ hle rfl (Nat.le_succ _) (fun b hb => gn b (by omega)) (fun b l' hb => ?_) (fun b h1 h2 => ?_), ⟨fun b l' o hb ho => ?_, fun b b' l1 l2 h1 h2 h3 h4 h5 => ?_, fun b l' hb => ?_, fun b hb => ?_⟩, hfr⟩
  ·refine .slice _ _ _ _ L _ _ is hnc (fun _ => rfl) (fun _ => ⟨rfl, fun _ => ?_⟩)
   show 0 + 0 + cap * 1 ≤ cap
   omega
  ·by_cases e : b = H1.next
   ·subst e
    rw [is] at hb
    cases hb
    exact .inr ⟨rfl, Nat.lt_succ_self _, hg⟩
   ·rw [io b e] at hb
    exact .inl hb
  ·have e : b = H1.next := by
    have : b < H1.next + 1 := h2
    omega
   exact ⟨L, by rw [e]; exact is⟩
  ·by_cases e : b = H1.next
   ·subst e
    rw [is] at hb
    cases hb
    have ho : some (AObj.cells 1 (l.map (Value.int .i64))) = some o := gs.symm.trans ho
    cases ho
    refine ⟨cur, 3, (0, 0), hgc, by show cur.size = cap; omega, rfl, ?_, fun k v hv => ?_, fun _ => .inl rfl⟩
    ·show 0 + (l.map (Value.int .i64)).length ≤ cur.size
     rw [List.length_map]
     omega
    ·obtain ⟨x, _, rfl⟩ := List.mem_map.1 (List.mem_of_getElem? hv)
     refine ⟨_, ?_, .atom _ (.int _ _)⟩
     show cur[0 + k]? = _
     rw [Nat.zero_add, ← Array.getElem?_toList]
     rw [← htk] at hv
     rw [List.getElem?_take] at hv
     split at hv
     ·exact hv
     ·cases hv
   ·rw [io b e] at hb
    have ho : H1.get b = some o := by rw [← gn b e]; exact ho
    have := (rB.obj b l' o hb ho).keep hle rfl
    exact this
  ·by_cases e1 : b = H1.next
   ·by_cases e2 : b' = H1.next
    ·rw [e1, e2]
    ·rw [e1, is] at h1
     rw [io b' e2] at h2
     cases h1
     have := (hne b' l2 h2).1
     exact absurd h5 (by show ¬ g = l2.blk; omega)
   ·rw [io b e1] at h1
    by_cases e2 : b' = H1.next
    ·rw [e2, is] at h2
     cases h2
     have := (hne b l1 h1).1
     exact absurd h5 (by show ¬ l1.blk = g; omega)
    ·rw [io b' e2] at h2
     rw [gn b e1] at h3
     rw [gn b' e2] at h4
     exact rB.inj b b' l1 l2 h1 h2 h3 h4 h5
  ·by_cases e : b = H1.next
   ·subst e
    rw [is] at hb
    cases hb
    exact ⟨Nat.lt_succ_self _, hgl⟩
   ·rw [io b e] at hb
    have := rB.dom b l' hb
    exact ⟨Nat.lt_succ_of_lt this.1, this.2⟩
  ·have hb : b < H1.lo := hb
   obtain ⟨l', h1, h2, h3, h4⟩ := rB.low b hb
   have hbn := (rB.dom b l' h1).1
   refine ⟨l', by rw [io b (by omega)]; exact h1, h2, h3, fun e c hg' => h4 e c ?_⟩
   rw [← gn b (by omega)]
   exact hg'
theorem rows_ints (k : IntKind) (V : Vw) : ∀ l : List Int, Rows (RT.int k).rel V (l.map (Value.int k)) l
 | [] => .nil
 | x :: l => .cons [.int k x] _ x l rfl (rows_ints k V l)
theorem evL_atom {x : Ev4} {k : Nat} {v : Value} (h : (evL x)[k]? = some v) : Atom v := by
 match k with
 | 0 => cases h; exact .int _ _
 | 1 => cases h; exact .bool _
 | 2 => cases h; exact .int _ _
 | 3 => cases h; exact .int _ _
 | k + 4 => cases h
theorem order_gen {V V1 : Vw} {As : List At} {α : Type} {RE : RT α} {g : α → Ev4} {q : Option Addr} {v1 : Value} {es : List α} {at_ : Int} {r : List Int} (hm : Try.prog.follows .mixedOrders = true)
  (hq : q = none ∨ ∃ b, q = some ⟨b, 0, none⟩) (hz : RE.sz = 4) (hg : ∀ V cs x, RE.rel V cs x → cs = evL (g x))
  (hc : Cl Try.prog 0 24 #[.pointer q] V.H v1 V1.H) (hle : V.le V1) (ow : Ow V1 (.os RE v1 es :: As)) (h : orderO (es.map g) at_ = some r) :
  ∃ v V', Cl Try.prog 0 28 #[.pointer q, .int .i64 at_] V.H v V'.H ∧ V.le V' ∧ ∃ u : Value, v = u ∧ Ow V' (.os (RT.int .i64) u r :: As) := by
 unfold orderO at h
 split at h
 case isFalse => cases h
 rename_i hlen
 obtain rfl := Option.some.inj h
 have hsd : Sd Try.prog 28 #[.pointer q, .int .i64 at_] V.H (ordV V1.H (ordL (es.map g) at_)) (ordH V1.H (ordL (es.map g) at_)) := by
  refine ⟨⟨Nat.le_trans hle.next (by unfold ordH; split <;> simp [AH.new]), by unfold ordH; split <;> exact hle.lo⟩, fun ι w cargs hr ha => ?_⟩
  obtain ⟨u1, u2, rfl, hu1, hu2⟩ := ha.two
  obtain rfl := hu2.atom_eq (.int _ _)
  obtain ⟨q', rfl⟩ : ∃ q', u1 = .pointer q' := by
   rcases hq with rfl | ⟨b, rfl⟩
   ·exact ⟨_, hu1.atom_eq .nilPtr⟩
   ·obtain ⟨l, _, rfl⟩ := hu1.ptr_inv
    exact ⟨_, rfl⟩
  have hlt : ∀ b l, ι b = some l → l.blk < w.heap.size := fun b l h => (hr.dom b l h).2
  have hw2 : R ι V.H ((w.alloc (.cells #[.int .i64 at_] 3)).alloc (.cells #[.slice none 0 0] 26)) := hr.samB fun b l hb => (Below.heap_alloc _ _ _ (by have := hlt b l hb; simp; omega)).trans (Below.heap_alloc _ _ _ (hlt b l hb))
  have h24 := Cl.snd hm _ _ _ _ _ hc ι _ #[.pointer q'] hw2 ⟨rfl, fun i h1 h2 => by
   match i with
   | 0 => exact hu1
   | i + 1 => exact absurd h1 (by simp)⟩
  have hin := callsIn_wide.1 (ord_in Fence.wide 3 trivial trivial trivial trivial rfl (by omega) q' at_ (fun j => (es.map g)[j]?.getD ev0) (es.map g).length (by omega) w
   (fun sv W => ∃ ι', VR V.H.lo ι' v1 sv ∧ After ι V.H V1.H ((w.alloc (.cells #[.int .i64 at_] 3)).alloc (.cells #[.slice none 0 0] 26)) W ι') (callsIn_wide.2 (h24.mono ?_)))
  ·refine hin.mono ?_
   rintro e W' ⟨W0, sv, v, ⟨ι', hv, hA⟩, hsz, rfl, hrow, hnil, hs, hk, e1, e2, e3⟩
   obtain ⟨ι'', h1, h2⟩ := order_after (l := ordL (es.map g) at_) hr hA hsz hrow hnil hs hk ⟨e1, e2, e3⟩
   exact ⟨v, ι'', rfl, h1, h2⟩
  ·rintro e W' ⟨u, ι', rfl, hu, hA⟩
   have hA' := hA
   obtain ⟨nn, r1, fr⟩ := hA'
   have hsz : w.heap.size + 2 ≤ W'.heap.size := by have := fr.1; simp at this; omega
   have hkeep : ∀ c, w.heap.size ≤ c → c < w.heap.size + 2 → W'.heap[c]? = ((w.alloc (.cells #[.int .i64 at_] 3)).alloc (.cells #[.slice none 0 0] 26)).heap[c]? := fun c h1 h2 =>
    fr.2.1 c (by simp; omega) fun b l hb e _ => by have := hlt b l hb; omega
   refine ⟨u, rfl, ?_, ⟨ι', hu, hA⟩, hsz, (hkeep _ (Nat.le_refl _) (by omega)).trans ((Boxed.new w 3 _).alloc _), (hkeep _ (by omega) (by omega)).trans ?_⟩
   ·obtain ⟨p, h1, h2, ⟨_, h3, h4⟩ | ⟨b, o, cs, h3, h4, h5, h6⟩⟩ := ow.osat (k := 0) rfl
    ·rw [h3] at hu
     rw [hu.atom_eq .nilSlice, h4]
     exact .inl ⟨_, _, rfl, rfl⟩
    ·rw [h3] at hu
     obtain ⟨l, a', c', hl, rfl, hn, ha', _⟩ := hu.slice_inv
     by_cases h0 : es.length = 0
     ·rw [h0]
      exact .inl ⟨_, _, rfl, by rw [List.length_map]; exact h0⟩
     ·obtain rfl := ha' (by omega)
      refine .inr ⟨l.blk, l.base + o, c', by rw [List.length_map], ⟨(r1.dom b l hl).2, ?_⟩, fun j hj k v hv => ?_⟩
      ·rcases nn.new b l hl with h | ⟨_, _, h | ⟨b0, l0, h0, _, _, h1⟩⟩
       ·have := hlt b l h; omega
       ·simp at h; omega
       ·have := hlt b0 l0 h0; omega
      ·rw [List.length_map] at hj
       have hx : es[j]? = some es[j] := List.getElem?_eq_getElem hj
       obtain ⟨b2, o2, r2, g1, g2, g3, g4⟩ := ow.osget (k := 0) rfl hx
       rw [h3] at g1
       cases g1
       have hev : ((es.map g)[j]?.getD ev0) = g es[j] := by rw [List.getElem?_map, hx]; rfl
       have hv : (evL ((es.map g)[j]?.getD ev0))[k]? = some v := hv
       rw [hev] at hv
       rw [hg _ _ _ g3] at g4
       obtain ⟨v', k1, k2⟩ := r1.cell hl (g4 k v hv)
       rw [k2.atom_eq (evL_atom hv)] at k1
       rw [hz] at k1
       rw [show l.base + o + j * 4 + k = l.base + (o + j * 4 + k) by omega]
       exact k1
   ·have := Boxed.new (w.alloc (.cells #[.int .i64 at_] 3)) 26 (.slice none 0 0)
    rw [World.size_alloc] at this
    exact this
 by_cases h0 : ordL (es.map g) at_ = []
 ·rw [h0, ordV, if_pos rfl, ordH, if_pos rfl] at hsd
  rw [h0]
  exact ⟨_, V1, Cl.sd hsd, hle, _, rfl, (ow.drop0).nil _⟩
 ·rw [ordV, if_neg h0, ordH, if_neg h0] at hsd
  have n : Nw V1 V1.H.next (V1.new (.cells 1 ((ordL (es.map g) at_).map (Value.int .i64)))) (.cells 1 ((ordL (es.map g) at_).map (Value.int .i64))) := ⟨rfl, rfl⟩
  refine ⟨_, V1.new (.cells 1 ((ordL (es.map g) at_).map (Value.int .i64))), Cl.sd hsd, hle.trans n.le, _, rfl, ?_⟩
  obtain ⟨p, h6, h7, h8⟩ := Ow.chg (Bs := [.pt V1.H.next (.cells 1 ((ordL (es.map g) at_).map (Value.int .i64)))]) (As := As) (ow.drop0.nw n)
  obtain ⟨p1, p2, rfl, h9, h10⟩ := h7.split
  have h9 : p1 = [(V1.H.next, .cells 1 ((ordL (es.map g) at_).map (Value.int .i64)))] := h9
  subst h9
  cases h10
  have hll : (ordL (es.map g) at_).length ≤ 9223372036854775807 := by
   have h1 : (ordL (es.map g) at_).length ≤ (evUp (fun j => (es.map g)[j]?.getD ev0) (es.map g).length).length := ordW_len _ _
   rw [evUp_length] at h1
   omega
  exact h8 _ [.os (RT.int .i64) (.slice (some ⟨V1.H.next, 0, none⟩) (ordL (es.map g) at_).length 1) (ordL (es.map g) at_)] _ (.refl _) (fun c _ _ _ hf => ⟨rfl, hf⟩) h6 (.cons [(V1.H.next, .cells 1 ((ordL (es.map g) at_).map (Value.int .i64)))] [] _ _ ⟨hll, .inr ⟨V1.H.next, 0, _, rfl, rfl, Nat.zero_le _, rows_ints _ _ _⟩⟩ .nil) (fun c hc => .inl hc)
def RT.ev4 : RT Ev4 := ⟨4, fun _ cs x => cs = evL x, ⟨fun _ _ _ h => by rw [h]; rfl, fun _ _ _ h => by rw [h]; rfl, fun _ _ _ _ _ h => h⟩⟩
theorem order_nil {V : Vw} {As : List At} {at_ : Int} {r : List Int} (hm : Try.prog.follows .mixedOrders = true) (ow : Ow V As) (h : orderO [] at_ = some r) :
  ∃ v V', Cl Try.prog 0 28 #[.pointer none, .int .i64 at_] V.H v V'.H ∧ V.le V' ∧ ∃ u : Value, v = u ∧ Ow V' (.os (RT.int .i64) u r :: As) := by
 refine order_gen (V1 := V) (RE := RT.ev4) (g := id) (v1 := .slice none 0 0) (es := []) hm (.inl rfl) rfl (fun _ _ _ h => h) (Cl.sd ⟨⟨Nat.le_refl _, rfl⟩, fun ι w cargs hr ha => ?_⟩) (.refl _) (ow.nil _) h
 obtain ⟨u, rfl, hu⟩ := ha.one
 obtain rfl := hu.atom_eq .nilPtr
 refine (ev_nil w).mono ?_
 rintro e w' ⟨rfl, rfl⟩
 exact ⟨_, ι, rfl, .atom _ .nilSlice, NN.refl _ _ _, hr, Fr.refl _ _ _⟩
end Go.Vm
