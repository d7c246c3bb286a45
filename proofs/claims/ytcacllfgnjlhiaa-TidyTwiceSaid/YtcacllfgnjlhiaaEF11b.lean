/-
 What is forgotten of a register: the walk of the one loop over a map, for every order in which its entries may come.
-/
import Derived.Test.YtcacllfgnjlhiaaEF11a
import Derived.Test.YtcacllfgnjlhiaaProg
import Derived.WalkKit
import Derived.ProofKit
import Derived.LoopTactic
import Derived.Maps.Range
set_option linter.unusedSimpArgs false
set_option linter.unusedVariables false
namespace Go.Vm
open Go Go.RowKit Go.Proofs Go.ChangeMaps
def notv (r : Int) (p : Int × Value) : Bool := match p.2 with
 | .int .i64 x => decide (x ≠ r)
 | _ => true
theorem R.same {ι : Inj} {H : AH} {w w' : World} (hr : R ι H w) (h : ∀ b l, ι b = some l → w'.heap[l.blk]? = w.heap[l.blk]?) : R ι H w' := by
 refine ⟨fun b l o hb hg => (hr.obj b l o hb hg).keep ι.le_refl (h b l hb), hr.inj, fun b l hb => ⟨(hr.dom b l hb).1, ?_⟩, hr.low⟩
 have h1 := (hr.dom b l hb).2
 have h2 := h b l hb
 rw [Array.getElem?_eq_getElem h1] at h2
 exact (Array.getElem?_eq_some_iff.1 h2).1
def Under (ι : Inj) (H H2 : AH) (w : World) (m2 kb rr since : Nat) (r : Int) (e0 : List (Int × Value)) (wr : World) : Prop :=
 ∃ (seen : Array Nat) (ec : List (Int × Value)) (cs : Array MapEntry), R ι (H2.upd m2 (some (.amap ec))) wr ∧ Fr ι H w wr ∧ wr.heap[rr]? = some (.mapIter (some kb) since seen since) ∧ wr.heap[kb]? = some (.map cs since) ∧
  Stmp cs since ∧ cs.size = ec.length ∧ (∀ (i : Nat) (k : Int) (v : Value), ec[i]? = some (k, v) → ∃ e, cs[i]? = some e ∧ e.key = .int .i64 k ∧ VR H2.lo ι v e.val) ∧
  ec.filter (notv r) = e0.filter (notv r) ∧ (ec.map Prod.fst).Nodup ∧ (∀ p ∈ ec, ∃ x, p.2 = .int .i64 x) ∧
  (∀ (i : Nat) (e : MapEntry) (p : Int × Value), cs[i]? = some e → ec[i]? = some p → seen.contains e.born = true → notv r p = true)
theorem mix_at {ec : List (Int × Value)} {i : Nat} {k : Int} {v : Value} (hn : (ec.map Prod.fst).Nodup) (h : ec[i]? = some (k, v)) : mix ec k = some i := by
 obtain ⟨hi, he⟩ := List.getElem?_eq_some_iff.1 h
 unfold mix
 rw [List.findIdx?_eq_some_iff_getElem]
 refine ⟨hi, by simp [he], fun j hj hc => ?_⟩
 have h1 : (ec.map Prod.fst)[j]'(by simp; omega) = (ec.map Prod.fst)[i]'(by simpa using hi) := by
  simp only [List.getElem_map, he]
  simpa using hc
 have := (List.getElem_inj hn).1 h1
 omega
theorem filter_erase {α : Type} (f : α → Bool) : ∀ (l : List α) (i : Nat) (a : α), l[i]? = some a → f a = false → (l.eraseIdx i).filter f = l.filter f
 | [], _, _, h, _ => by simp at h
 | b :: l, 0, a, h, hf => by
  simp only [List.getElem?_cons_zero, Option.some.injEq] at h
  subst h
  simp [hf]
 | b :: l, i + 1, a, h, hf => by
  have := filter_erase f l i a (by simpa using h) hf
  simp only [List.eraseIdx_cons_succ, List.filter_cons, this]
theorem count_lt {α : Type} {p q : α → Bool} (hqp : ∀ x, q x = true → p x = true) : ∀ {l : List α} {a : α}, a ∈ l → p a = true → q a = false → l.countP q < l.countP p
 | b :: l, a, h, ha, hb => by
  have hle : l.countP q ≤ l.countP p := List.countP_mono_left fun x _ => hqp x
  rcases List.mem_cons.1 h with rfl | h
  ·simp only [List.countP_cons, ha, hb]
   simp
   omega
  ·have := count_lt hqp h ha hb
   simp only [List.countP_cons]
   cases hq : q b
   ·simp; split <;> omega
   ·simp [hqp b hq]; exact this
theorem left_lt {cs cs' : Array MapEntry} {seen : Array Nat} {e : MapEntry} (hs : List.Sublist cs'.toList cs.toList) (he : e ∈ cs.toList) (hn : seen.contains e.born = false) : (leftOf cs' (seen.push e.born)).size < (leftOf cs seen).size := by
 have h1 : ∀ (a : Array MapEntry) (s : Array Nat), (leftOf a s).size = a.toList.countP fun x => !s.contains x.born := fun a s => by
  unfold leftOf
  rw [← Array.length_toList, Array.toList_filter, List.countP_eq_length_filter]
 rw [h1, h1]
 refine Nat.lt_of_le_of_lt (hs.countP_le) (count_lt (fun x hx => ?_) he (by simpa using hn) (by simp))
 simp at hx ⊢
 exact hx.1
set_option maxRecDepth 100000 in
set_option maxHeartbeats 4000000 in
theorem forget_sd {H : AH} {b m1 m2 esz : Nat} {e1 e2 : List (Int × Value)} {r : Int} (hb : H.get b = some (.cells esz [.map (some m1), .map (some m2)])) (l1 : H.lo ≤ m1) (l2 : H.lo ≤ m2)
  (h1 : H.get m1 = some (.amap e1)) (h2 : H.get m2 = some (.amap e2)) (hne : m1 ≠ m2) (hv : ∀ p ∈ e2, ∃ x, p.2 = .int .i64 x) (hnd : (e2.map Prod.fst).Nodup) :
  Sd Try.prog 44 #[.pointer (some ⟨b, 0, none⟩), .int .i64 r] H (.tuple #[]) ((H.upd m1 (some (.amap (mdel e1 r)))).upd m2 (some (.amap ((mdel e2 r).filter (notv r))))) := by
 refine ⟨⟨Nat.le_refl _, rfl⟩, fun ι w cargs hr ha => ?_⟩
 obtain ⟨u, u', rfl, hu, hu'⟩ := ha.two
 obtain rfl := hu'.atom_eq (.int _ _)
 obtain ⟨l, hl, rfl⟩ := hu.ptr_inv
 have cells : ∀ {Hc : AH} {wc : World}, R ι Hc wc → Hc.get b = some (.cells esz [.map (some m1), .map (some m2)]) → ∃ k1 k2, ι m1 = some k1 ∧ ι m2 = some k2 ∧ wc.cell? ⟨l.blk, l.base, none⟩ = some (.map (some k1.blk)) ∧ wc.cell? ⟨l.blk, l.base + 1, none⟩ = some (.map (some k2.blk)) := by
  intro Hc wc hrc hbc
  obtain ⟨v1, a1, a2⟩ := hrc.cell hl (show Hc.cell b 0 = some (.map (some m1)) by unfold AH.cell; rw [hbc]; rfl)
  obtain ⟨v2, a3, a4⟩ := hrc.cell hl (show Hc.cell b 1 = some (.map (some m2)) by unfold AH.cell; rw [hbc]; rfl)
  obtain ⟨k1, b1, rfl⟩ := map_inv a2
  obtain ⟨k2, b2, rfl⟩ := map_inv a4
  exact ⟨k1, k2, b1, b2, a1, a3⟩
 obtain ⟨k1, k2, i1, i2, c1, c2⟩ := cells hr hb
 obtain ⟨cs1, clk1, g1, s1, q1, t1⟩ := hr.obj m1 k1 _ i1 h1
 obtain ⟨w1, d1, af1, -⟩ := run_del (P := Try.prog) (ty := 0) (k := r) (es := e1) hr i1 l1 h1 Try.underlying56 Try.underlying3 g1
 have hb1 : (H.upd m1 (some (.amap (mdel e1 r)))).get b = some (.cells esz [.map (some m1), .map (some m2)]) := by
  have : b ≠ m1 := fun e => by rw [e, h1] at hb; cases hb
  simp [AH.upd, this, hb]
 obtain ⟨k1', k2', i1', i2', c3, c4⟩ := cells af1.2.1 hb1
 have h21 : (H.upd m1 (some (.amap (mdel e1 r)))).get m2 = some (.amap e2) := by simp [AH.upd, Ne.symm hne, h2]
 obtain ⟨cs2, clk2, g2, s2, q2, t2⟩ := af1.2.1.obj m2 k2 _ i2 h21
 obtain ⟨w2, d2, af2, -⟩ := run_del (P := Try.prog) (ty := 0) (k := r) (es := e2) af1.2.1 i2 l2 h21 Try.underlying56 Try.underlying3 g2
 obtain rfl := Option.some.inj (i1'.symm.trans i1)
 obtain rfl := Option.some.inj (i2'.symm.trans i2)
 have hb2 : ((H.upd m1 (some (.amap (mdel e1 r)))).upd m2 (some (.amap (mdel e2 r)))).get b = some (.cells esz [.map (some m1), .map (some m2)]) := by
  have : b ≠ m2 := fun e => by rw [e, h2] at hb; cases hb
  simp [AH.upd, this] at hb1 ⊢
  exact hb1
 obtain ⟨k1', k2', i1', i2', c5, c6⟩ := cells af2.2.1 hb2
 obtain rfl := Option.some.inj (i1'.symm.trans i1)
 obtain rfl := Option.some.inj (i2'.symm.trans i2)
 obtain ⟨cs3, clk3, g3, s3, q3, t3⟩ := af2.2.1.obj m2 k2' _ i2' (show _ = some (AObj.amap (mdel e2 r)) by simp [AH.upd])
 have hrg := run_range_map (P := Try.prog) w2 56 3 3 k2'.blk cs3 clk3 Try.underlying56 g3
 have hlt : ∀ b l, ι b = some l → l.blk < w2.heap.size := fun b l h => (af2.2.1.dom b l h).2
 have hsame : ∀ {wr : World}, (∀ c, c < w2.heap.size → wr.heap[c]? = w2.heap[c]?) → ∀ {Hc}, R ι Hc w2 → R ι Hc wr := fun h _ hrc => hrc.same fun b l hb => h _ (hlt b l hb)
 have afr : Fr ι H w w2 := Fr.trans hr af1.1 af1.2.2 af2.2.2
 have hnn : ∀ ec, NN ι ι H (((H.upd m1 (some (.amap (mdel e1 r)))).upd m2 (some (.amap (mdel e2 r)))).upd m2 (some (.amap ec))) w := fun ec =>
  ⟨ι.le_refl, fun _ _ h => .inl h, Nat.le_refl _, rfl, fun b hb hd => by
   have n1 : b ≠ m1 := fun e => by rw [e, h1] at hd; cases hd
   have n2 : b ≠ m2 := fun e => by rw [e, h2] at hd; cases hd
   simp [AH.upd, n1, n2, hd], fun b h1 h2 => absurd h1 (by simpa [AH.upd] using h2)⟩
 have halc : ∀ (o : Obj) c, c < w2.heap.size → (w2.alloc o).heap[c]? = w2.heap[c]? := fun o c hc => by
  show (w2.heap.push o)[c]? = _
  rw [Array.getElem?_push, if_neg (Nat.ne_of_lt hc)]
 have hst : Under ι H ((H.upd m1 (some (.amap (mdel e1 r)))).upd m2 (some (.amap (mdel e2 r)))) w m2 k2'.blk w2.heap.size clk3 r (mdel e2 r) (w2.alloc (.mapIter (some k2'.blk) clk3 #[] clk3)) := by
  refine ⟨#[], mdel e2 r, cs3, ?_, ?_, heap_alloc_new _ _, ?_, t3, s3, q3, rfl, ?_, ?_, fun i e p _ _ hs => by simp at hs⟩
  ·refine hsame (halc _) ?_
   have : (((H.upd m1 (some (.amap (mdel e1 r)))).upd m2 (some (.amap (mdel e2 r)))).upd m2 (some (.amap (mdel e2 r)))) = ((H.upd m1 (some (.amap (mdel e1 r)))).upd m2 (some (.amap (mdel e2 r)))) := by
    simp only [AH.upd]; congr 1; funext x; split <;> rfl
   rw [this]
   exact af2.2.1
  ·refine ⟨Nat.le_trans afr.1 (by simp), fun c hc hd => ?_, afr.2.2⟩
   rw [← afr.2.1 c hc hd]
   exact halc _ c (Nat.lt_of_lt_of_le hc afr.1)
  ·exact (halc _ _ (hlt _ _ i2')).trans g3
  ·unfold mdel
   split
   ·exact (List.Sublist.map _ (List.eraseIdx_sublist _ _)).nodup hnd
   ·exact hnd
  ·intro p hp
   refine hv p ?_
   unfold mdel at hp
   split at hp
   ·exact List.mem_of_mem_eraseIdx hp
   ·exact hp
 go_enter Try.func44, Try.ntmps44
 go_wp2
 go_loopw [4, 5] (fun _ _ wr => Under ι H ((H.upd m1 (some (.amap (mdel e1 r)))).upd m2 (some (.amap (mdel e2 r)))) w m2 k2'.blk w2.heap.size clk3 r (mdel e2 r) wr) (fun _ _ wr => wr.rangeLeft k2'.blk w2.heap.size)
 case atStart => exact hst
 case round =>
  obtain ⟨seen, ec, cs, hrc, hfr, hit, hmp, hsp, hsz, hen, hfl, hkd, hvi, hsn⟩ := hrel
  have hnx := run_next_at (P := Try.prog) _ 0 w2.heap.size k2'.blk clk3 clk3 seen cs clk3 hit hmp hsp.2 (Nat.le_refl _)
  rcases hnx with ⟨hl0, hnx⟩ | ⟨⟨ek, ev, eb⟩, he, w5, hw5, hnx⟩
  ·go_wp2
   refine bodyPost_end (results_none rfl _ _ _) rfl ?_
   have hall : ∀ p ∈ ec, notv r p = true := fun p hp => by
    obtain ⟨i, hi, rfl⟩ := List.mem_iff_getElem.1 hp
    have hi' : i < cs.size := by rw [hsz]; exact hi
    refine hsn i cs[i] _ (Array.getElem?_eq_getElem hi') (List.getElem?_eq_getElem hi) ?_
    have h9 := Array.eq_empty_of_size_eq_zero hl0
    unfold leftOf at h9
    rw [Array.filter_eq_empty_iff] at h9
    simpa using h9 cs[i] (Array.getElem_mem hi')
   have hee : ec = (mdel e2 r).filter (notv r) := by rw [← hfl]; exact (List.filter_eq_self.2 hall).symm
   have hup : ((H.upd m1 (some (.amap (mdel e1 r)))).upd m2 (some (.amap (mdel e2 r)))).upd m2 (some (.amap ec)) = (H.upd m1 (some (.amap (mdel e1 r)))).upd m2 (some (.amap ((mdel e2 r).filter (notv r)))) := by
    rw [← hee]
    simp only [AH.upd]; congr 1; funext x; split <;> rfl
   have hn := hnn ec
   rw [hup] at hrc hn
   exact ⟨_, ι, rfl, .tuple _ _ rfl (fun i h1 _ => absurd h1 (by simp)), hn, hrc, hfr⟩
  ·have he1 : (⟨ek, ev, eb⟩ : MapEntry) ∈ cs.toList ∧ seen.contains eb = false := by
    unfold leftOf at he
    simp only [Array.toList_filter, List.mem_filter] at he
    exact ⟨he.1, by simpa using he.2⟩
   obtain ⟨i, hi, hie⟩ := List.mem_iff_getElem.1 he1.1
   have hi' : i < ec.length := by rw [← hsz]; simpa using hi
   have hci : cs[i]? = some ⟨ek, ev, eb⟩ := by rw [← Array.getElem?_toList, List.getElem?_eq_getElem hi, hie]
   obtain ⟨x, hx⟩ := hvi ec[i] (List.getElem_mem hi')
   have hpi : ec[i]? = some ((ec[i]).1, .int .i64 x) := by rw [List.getElem?_eq_getElem hi', ← hx]
   obtain ⟨e', g5, g6, g7⟩ := hen i _ _ hpi
   generalize (ec[i]).1 = k at hpi g6
   obtain rfl := Option.some.inj (hci.symm.trans g5)
   obtain rfl : ek = .int .i64 k := g6
   obtain rfl : ev = .int .i64 x := g7.atom_eq (.int _ _)
   have hwh : w5.heap = wr.heap := by rcases hw5 with rfl | rfl <;> rfl
   have hwe : Env w w5 := by rcases hw5 with rfl | rfl <;> exact hfr.2.2
   have hrs := (Array.getElem?_eq_some_iff.1 hit).1
   have hb5 : ∀ c, c ≠ w2.heap.size → (setBlock w5 w2.heap.size (.mapIter (some k2'.blk) clk3 (seen.push eb) clk3)).heap[c]? = wr.heap[c]? := fun c hc => by
    simp [setBlock, hwh, Array.getElem?_setIfInBounds, Ne.symm hc]
   have hb6 : (setBlock w5 w2.heap.size (.mapIter (some k2'.blk) clk3 (seen.push eb) clk3)).heap[w2.heap.size]? = some (.mapIter (some k2'.blk) clk3 (seen.push eb) clk3) := by
    simp [setBlock, hwh, hrs]
   have hs6 : (setBlock w5 w2.heap.size (.mapIter (some k2'.blk) clk3 (seen.push eb) clk3)).heap.size = wr.heap.size := by simp [setBlock, hwh]
   have he6 : Env w (setBlock w5 w2.heap.size (.mapIter (some k2'.blk) clk3 (seen.push eb) clk3)) := hwe
   have hk2 : k2'.blk ≠ w2.heap.size := Nat.ne_of_lt (hlt _ _ i2')
   generalize setBlock w5 w2.heap.size (.mapIter (some k2'.blk) clk3 (seen.push eb) clk3) = w6 at hnx hb5 hb6 hs6 he6
   have hent := run_entry_at (P := Try.prog) w6 w2.heap.size k2'.blk clk3 seen cs clk3 ⟨_, _, eb⟩ hb6 ((hb5 _ hk2).trans hmp) he1.1 hsp.1
   have hr6 := hrc.same (fun b l hb => hb5 _ (Nat.ne_of_lt (hlt b l hb)))
   have hf6 : Fr ι H w w6 := by
    refine ⟨by rw [hs6]; exact hfr.1, fun c hc hd => ?_, he6⟩
    rw [← hfr.2.1 c hc hd]
    exact hb5 c (Nat.ne_of_lt (Nat.lt_of_lt_of_le hc afr.1))
   have hs' : ∀ (i' : Nat) (e : MapEntry) (p : Int × Value), cs[i']? = some e → ec[i']? = some p → (seen.push eb).contains e.born = true → i' = i ∨ notv r p = true := fun i' e p a1 a2 a3 => by
    by_cases h9 : seen.contains e.born = true
    ·exact .inr (hsn i' e p a1 a2 h9)
    ·refine .inl ?_
     have h10 : e.born = eb := by
      simp only [Array.contains_push, Bool.or_eq_true, beq_iff_eq] at a3
      rcases a3 with a3 | a3
      ·exact absurd a3 h9
      ·exact a3
     have h11 : (cs.toList.map (·.born))[i']? = (cs.toList.map (·.born))[i]? := by simp [a1, hci, h10]
     obtain ⟨hi1, _⟩ := Array.getElem?_eq_some_iff.1 a1
     exact (List.getElem?_inj (by simpa using hi1) hsp.1).1 h11
   by_cases hxr : x = r
   ·subst hxr
    have hbc : ∀ ec, (((H.upd m1 (some (.amap (mdel e1 x)))).upd m2 (some (.amap (mdel e2 x)))).upd m2 (some (.amap ec))).get b = some (.cells esz [.map (some m1), .map (some m2)]) := fun ec => by
     have : b ≠ m2 := fun e => by rw [e, h2] at hb; cases hb
     rw [← hb2]
     simp [AH.upd, this]
    obtain ⟨k1'', k2'', i1'', i2'', c7, c8⟩ := cells hr6 (hbc ec)
    obtain rfl := Option.some.inj (i1''.symm.trans i1')
    obtain rfl := Option.some.inj (i2''.symm.trans i2')
    obtain ⟨w7, d7, af7, ew7⟩ := run_del (P := Try.prog) (ty := 0) (k := k) (es := ec) hr6 i2' l2 (by simp [AH.upd]) Try.underlying56 Try.underlying3 ((hb5 _ hk2).trans hmp)
    have hm : mix ec k = some i := mix_at hkd hpi
    have hw7 : w7.heap[k2''.blk]? = some (.map (cs.eraseIdxIfInBounds i) clk3) := by
     rw [ew7, hm]
     have := (Array.getElem?_eq_some_iff.1 ((hb5 _ hk2).trans hmp)).1
     simp [this]
    have hw7r : w7.heap[w2.heap.size]? = some (.mapIter (some k2''.blk) clk3 (seen.push eb) clk3) := by
     rw [ew7]
     simp [Array.getElem?_setIfInBounds, hk2, hb6]
    clear ew7
    go_wp2
    go_roundw
    case rel =>
     have hup : ((((H.upd m1 (some (.amap (mdel e1 x)))).upd m2 (some (.amap (mdel e2 x)))).upd m2 (some (.amap ec))).upd m2 (some (.amap (mdel ec k)))) = (((H.upd m1 (some (.amap (mdel e1 x)))).upd m2 (some (.amap (mdel e2 x)))).upd m2 (some (.amap (mdel ec k)))) := by
      simp only [AH.upd]; congr 1; funext x; split <;> rfl
     have hr7 := af7.2.1
     rw [hup] at hr7
     obtain ⟨cs7, clk7, g7, s7, q7, t7⟩ := hr7.obj m2 k2'' _ i2' (show _ = some (AObj.amap (mdel ec k)) by simp [AH.upd])
     rw [hw7] at g7
     cases g7
     have hmd : mdel ec k = ec.eraseIdx i := by unfold mdel; rw [hm]
     have hsub : List.Sublist (mdel ec k) ec := by rw [hmd]; exact List.eraseIdx_sublist _ _
     refine ⟨seen.push eb, mdel ec k, _, hr7, Fr.trans hr (hnn ec) hf6 af7.2.2, hw7r, hw7, t7, s7, q7, ?_, (hsub.map _).nodup hkd, fun p hp => hvi p (hsub.subset hp), fun j e p a1 a2 a3 => ?_⟩
     ·rw [hmd, filter_erase _ _ _ _ hpi (by simp [notv]), hfl]
     ·rw [hmd, List.getElem?_eraseIdx] at a2
      rw [← Array.getElem?_toList, Array.toList_eraseIdxIfInBounds, List.getElem?_eraseIdx, Array.getElem?_toList, Array.getElem?_toList] at a1
      split at a1
      ·rename_i hj
       rw [if_pos hj] at a2
       rcases hs' j e p a1 a2 a3 with h | h
       ·omega
       ·exact h
      ·rename_i hj
       rw [if_neg hj] at a2
       rcases hs' (j + 1) e p a1 a2 a3 with h | h
       ·omega
       ·exact h
    case measure =>
     simp only [World.rangeLeft, hmp, hit, hw7, hw7r]
     exact left_lt (e := ⟨_, _, eb⟩) (by rw [Array.toList_eraseIdxIfInBounds]; exact List.eraseIdx_sublist _ _) he1.1 he1.2
   ·go_wp2
    go_roundw
    case rel =>
     refine ⟨seen.push eb, ec, cs, hr6, hf6, hb6, (hb5 _ hk2).trans hmp, hsp, hsz, hen, hfl, hkd, hvi, fun j e p a1 a2 a3 => ?_⟩
     rcases hs' j e p a1 a2 a3 with rfl | h
     ·rw [hpi] at a2
      cases a2
      simp [notv, hxr]
     ·exact h
    case measure =>
     simp only [World.rangeLeft, hmp, hit, hb6, (hb5 _ hk2).trans hmp]
     exact left_lt (e := ⟨_, _, eb⟩) (List.Sublist.refl _) he1.1 he1.2
end Go.Vm
