/-
  The spans are what the reference says.
-/
import Derived.Test.YtllkfanfdbnogaaEPS10t
import Derived.Test.YtllkfanfdbnogaaEPl2
set_option linter.unusedSimpArgs false
set_option linter.unusedVariables false
namespace Go.Vm.G10s
open Go

/-- Register r is needed, written or read at k, of the first m; or is a parameter. -/
def Tc (f : TFunc) (m : Nat) (r k : Int) : Prop :=
  (0 ≤ r ∧ r < f.params ∧ k = 0) ∨ ∃ (q : Nat) (x : TIns), k = (q : Int) ∧ q < m ∧ f.code[q]? = some x ∧ 0 ≤ r ∧ (Nd f r q ∨ us x r ∨ x.d = r)
theorem Tc_succ {f : TFunc} {m : Nat} {x : TIns} (hx : f.code[m]? = some x) (r k : Int) : Tc f (m + 1) r k ↔ Tc f m r k ∨ (k = (m : Int) ∧ 0 ≤ r ∧ (Nd f r m ∨ us x r ∨ x.d = r)) := by
  unfold Tc
  constructor
  · rintro (h | ⟨q, y, h1, h2, h3, h4, h5⟩)
    · exact .inl (.inl h)
    · by_cases hq : q = m
      · subst hq
        rw [hx] at h3; cases h3
        exact .inr ⟨h1, h4, h5⟩
      · exact .inl (.inr ⟨q, y, h1, by omega, h3, h4, h5⟩)
  · rintro ((h | ⟨q, y, h1, h2, h3, h4⟩) | ⟨h1, h2, h3⟩)
    · exact .inl h
    · exact .inr ⟨q, y, h1, by omega, h3, h4⟩
    · exact .inr ⟨m, x, h1, by omega, hx, h2, h3⟩
theorem ins_d {f : TFunc} {x : TIns} (h : ref08_ins f x = some true) : x.d = -1 ∨ (0 ≤ x.d ∧ x.d < f.regs) := by
  unfold ref08_ins at h
  split at h
  · cases h
  · obtain ⟨t, _, h⟩ := bindS h
    split at h
    · split at h
      · cases h
      · exact (k1_inv h).2.2.1
    · exact (k1_inv h).2.2.1
theorem Gr.len {T : Int → Int → Prop} {l : List Sp} {R : Nat} (g : Gr T l) (h : ∀ r k, T r k → 0 ≤ r ∧ r < R) : l.length ≤ R := by
  have := nodup_len R (l.map (fun s => s.reg + 1)) ?_ ?_
  · simpa using this
  · rw [List.nodup_iff_pairwise_ne, List.pairwise_map]
    exact g.nd.imp (fun h => by omega)
  · intro x hx
    obtain ⟨s, hs, rfl⟩ := List.mem_map.1 hx
    have := h _ _ (g.sound s hs).1
    omega

section
variable {f : TFunc} {R : Nat}
structure Hy (f : TFunc) (R : Nat) : Prop where
  len : f.code.length ≤ 40
  reg : f.regs = (R : Int)
  hR : R ≤ 12
  args : ∀ x ∈ f.code, x.args.length ≤ 1000
  argz : ∀ x ∈ f.code, x.args.length ≤ 6
  good : Good f
theorem Hy.use (y : Hy f R) {x : TIns} (hx : x ∈ f.code) {r : Int} (h0 : 0 ≤ r) (h : us x r ∨ x.d = r) : r < R := by
  have hi := ins_inv (by have := y.args x hx; omega) (y.good.2.2.2 x hx).1
  have hd := ins_d (y.good.2.2.2 x hx).1
  have hreg := y.reg
  rcases h with (hu | hu | hu) | hu
  · rcases hi.1 with h | h <;> omega
  · rcases hi.2.1 with h | h <;> omega
  · have := hi.2.2 r hu; omega
  · rcases hd with h | h <;> omega
theorem Hy.nd (y : Hy f R) {r : Int} (h0 : 0 ≤ r) {k : Nat} (h : Nd f r k) : r < R := by
  induction h with
  | use k x hk hu => exact y.use (List.mem_of_getElem? hk) h0 (.inl hu)
  | go k x j hk hd hj _ ih => exact ih
theorem Hy.tc (y : Hy f R) {m : Nat} {r k : Int} (h : Tc f m r k) : (0 ≤ r ∧ r < R) ∧ (0 ≤ k ∧ k ≤ m) := by
  have hp := y.good.2.2.1
  have hreg := y.reg
  rcases h with ⟨h1, h2, h3⟩ | ⟨q, x, h1, h2, h3, h4, h5⟩
  · omega
  · refine ⟨⟨h4, ?_⟩, by omega⟩
    rcases h5 with h5 | h5
    · exact y.nd h4 h5
    · exact y.use (List.mem_of_getElem? h3) h4 h5
theorem Hy.glen (y : Hy f R) {T : Int → Int → Prop} {l : List Sp} (g : Gr T l) (h : ∀ r k, T r k → 0 ≤ r ∧ r < R) : l.length ≤ 1000 := by
  have := g.len h; have := y.hR; omega

theorem Spans_is (y : Hy f R) : Ok (flow_Spans f) (fun l => Gr (Tc f f.code.length) l ∧ ∀ (i : Nat) a b, l[i]? = some a → l[i + 1]? = some b → le a b) := by
  have hlen := y.len
  have hreg := y.reg
  have hR := y.hR
  have hpar := y.good.2.1
  have hpar2 := y.good.2.2.1
  unfold flow_Spans flow_Spans_l1
  obtain ⟨p, hp⟩ := Int.eq_ofNat_of_zero_le hpar
  refine Ok.loop (B := fun s => flow_Spans_l1b f s.1 s.2) (fun m s => s.2 = (m : Int) ∧ Gr (fun r k => 0 ≤ r ∧ r < m ∧ k = 0) s.1) p (fun m s hm hs => ?_) (fun s hs => ?_) ⟨rfl, Gr.nil.congr (fun r k => ⟨fun h => h.elim, fun h => by omega⟩)⟩
  · obtain ⟨l, i⟩ := s
    obtain ⟨h1, g⟩ := hs
    simp only at h1 g
    subst h1
    show Ok (flow_Spans_l1b f l m) _
    unfold flow_Spans_l1b
    rw [if_pos (decide_eq_true (by omega))]
    refine (grow_is g (y.glen g (fun r k h => by omega)) m 0).bind fun l' hl' => .ret ⟨w64_succ (by omega), hl'.1.congr (fun r k => ?_)⟩
    constructor
    · rintro (h | h) <;> omega
    · rintro ⟨h1, h2, h3⟩
      by_cases hr : r = (m : Int)
      · exact .inr ⟨hr, h3⟩
      · exact .inl (by omega)
  · obtain ⟨l, i⟩ := s
    obtain ⟨h1, g⟩ := hs
    simp only at h1 g
    subst h1
    show Ok (flow_Spans_l1b f l p) _
    unfold flow_Spans_l1b
    rw [if_neg (by simp; omega)]
    refine .map ?_
    refine (Live_is f R (by omega) (by omega) (by omega) y.args).bind fun L hL => ?_
    obtain ⟨G, rfl, hG⟩ := hL
    unfold flow_Spans_l2
    refine Ok.loop (B := fun s => flow_Spans_l2b f (tt f.code.length R G) s.1 s.2) (fun m s => s.2 = (m : Int) ∧ Gr (Tc f m) s.1) f.code.length (fun m s hm hs => ?_) (fun s hs => ?_) ⟨rfl, g.congr (fun r k => ?_)⟩
    · obtain ⟨l, i⟩ := s
      obtain ⟨h1, g⟩ := hs
      simp only at h1 g
      subst h1
      have hx : f.code[m]? = some f.code[m] := List.getElem?_eq_getElem hm
      have hxm : f.code[m] ∈ f.code := List.getElem_mem hm
      generalize f.code[m] = x at hx hxm
      show Ok (flow_Spans_l2b f _ l m) _
      unfold flow_Spans_l2b
      rw [if_pos (decide_eq_true (by rw [tb_len]; omega)), ix_tb hm]
      simp only [Option.bind_some]
      unfold flow_Spans_l3
      refine Ok.loop (B := fun s => flow_Spans_l3b f m (tb R (G m)) s.1 s.2) (fun r s => s.2 = (r : Int) ∧ Gr (fun r' k => Tc f m r' k ∨ (k = (m : Int) ∧ 0 ≤ r' ∧ r' < r ∧ Nd f r' m)) s.1) R (fun r s hr hs => ?_) (fun s hs => ?_) ⟨rfl, g.congr (fun r' k => ⟨.inl, fun h => h.elim id (fun h => by omega)⟩)⟩
      · obtain ⟨l, i⟩ := s
        obtain ⟨h1, g⟩ := hs
        simp only at h1 g
        subst h1
        show Ok (flow_Spans_l3b f m _ l r) _
        unfold flow_Spans_l3b flow_Spans_k1
        rw [if_pos (decide_eq_true (by rw [tb_len]; omega)), ix_tb hr]
        simp only [Option.bind_some]
        have hrg : ∀ r' k, (Tc f m r' k ∨ (k = (m : Int) ∧ 0 ≤ r' ∧ r' < r ∧ Nd f r' m)) → 0 ≤ r' ∧ r' < R := by
          rintro r' k (h | h)
          · exact (y.tc h).1
          · omega
        refine .ite (fun hb => ?_) (fun hb => .ret ⟨w64_succ (by omega), g.congr (fun r' k => ?_)⟩)
        · have hnd := (hG m r hm hr).1 hb
          refine (grow_is g (y.glen g hrg) r m).bind fun l' hl' => .ret ⟨w64_succ (by omega), hl'.1.congr (fun r' k => ?_)⟩
          constructor
          · rintro ((h | h) | ⟨h1, h2⟩)
            · exact .inl h
            · exact .inr ⟨h.1, h.2.1, by omega, h.2.2.2⟩
            · exact .inr ⟨h2, by omega, by omega, by rw [h1]; exact hnd⟩
          · rintro (h | ⟨h1, h2, h3, h4⟩)
            · exact .inl (.inl h)
            · by_cases he : r' = (r : Int)
              · exact .inr ⟨he, h1⟩
              · exact .inl (.inr ⟨h1, h2, by omega, h4⟩)
        · have hnd : ¬ Nd f r m := fun h => by rw [(hG m r hm hr).2 h] at hb; cases hb
          constructor
          · rintro (h | h)
            · exact .inl h
            · exact .inr ⟨h.1, h.2.1, by omega, h.2.2.2⟩
          · rintro (h | ⟨h1, h2, h3, h4⟩)
            · exact .inl h
            · by_cases he : r' = (r : Int)
              · rw [he] at h4; exact (hnd h4).elim
              · exact .inr ⟨h1, h2, by omega, h4⟩
      · obtain ⟨l, i⟩ := s
        obtain ⟨h1, g⟩ := hs
        simp only at h1 g
        subst h1
        show Ok (flow_Spans_l3b f m _ l R) _
        unfold flow_Spans_l3b
        rw [if_neg (by simp), ix_nat, hx]
        simp only [Option.bind_some]
        refine .map ?_
        refine (Uses_ok x (y.args x hxm)).bind fun u hu => ?_
        unfold ir_Def
        simp only [Option.bind_some]
        rw [ap_some (by simp; have := hu.1; omega)]
        simp only [Option.bind_some]
        unfold flow_Spans_l4
        have hul := hu.1
        refine loop_for (B := fun s => flow_Spans_l4b m (u ++ [x.d]) s.1 s.2) (u ++ [x.d]) (fun j s => s.2 = (j : Int) ∧ Gr (fun r' k => (Tc f m r' k ∨ (k = (m : Int) ∧ 0 ≤ r' ∧ r' < R ∧ Nd f r' m)) ∨ (k = (m : Int) ∧ 0 ≤ r' ∧ r' ∈ (u ++ [x.d]).take j)) s.1) (fun j z s hj' hj hs => ?_) (fun s hs => ?_) ⟨rfl, g.congr (fun r' k => ⟨.inl, fun h => h.elim id (fun h => by simp at h)⟩)⟩
        · obtain ⟨l, i⟩ := s
          obtain ⟨h1, g⟩ := hs
          simp only at h1 g
          subst h1
          show Ok (flow_Spans_l4b m _ l j) _
          unfold flow_Spans_l4b flow_Spans_k2
          have hj2 : j < 1003 := by simp at hj'; omega
          rw [if_pos (decide_eq_true (by omega)), ix_nat, hj]
          simp only [Option.bind_some]
          have huse : ∀ r', 0 ≤ r' → r' ∈ u ++ [x.d] → us x r' ∨ x.d = r' := by
            intro r' h0 h
            rcases List.mem_append.1 h with h | h
            · exact .inl ((hu.2 r').1 h).2
            · exact .inr (List.mem_singleton.1 h).symm
          have hrg : ∀ r' k, ((Tc f m r' k ∨ (k = (m : Int) ∧ 0 ≤ r' ∧ r' < R ∧ Nd f r' m)) ∨ (k = (m : Int) ∧ 0 ≤ r' ∧ r' ∈ (u ++ [x.d]).take j)) → 0 ≤ r' ∧ r' < R := by
            rintro r' k ((h | h) | ⟨_, h1, h2⟩)
            · exact (y.tc h).1
            · omega
            · exact ⟨h1, y.use hxm h1 (huse r' h1 (List.mem_of_mem_take h2))⟩
          have hz : (u ++ [x.d])[j] = z := by rw [List.getElem?_eq_getElem hj'] at hj; exact Option.some.inj hj
          refine .ite (fun hb => ?_) (fun hb => .ret ⟨w64_succ (by omega), g.congr (fun r' k => ?_)⟩)
          · have hz0 : 0 ≤ z := by simpa using hb
            refine (grow_is g (y.glen g hrg) z m).bind fun l' hl' => .ret ⟨w64_succ (by omega), hl'.1.congr (fun r' k => ?_)⟩
            rw [mem_take_succ hj', hz]
            constructor
            · rintro ((h | h) | ⟨h1, h2⟩)
              · exact .inl h
              · exact .inr ⟨h.1, h.2.1, .inl h.2.2⟩
              · exact .inr ⟨h2, by omega, .inr h1⟩
            · rintro (h | ⟨h1, h2, h3 | h3⟩)
              · exact .inl (.inl h)
              · exact .inl (.inr ⟨h1, h2, h3⟩)
              · exact .inr ⟨h3, h1⟩
          · have hz0 : z < 0 := by simpa using hb
            rw [mem_take_succ hj', hz]
            constructor
            · rintro (h | h)
              · exact .inl h
              · exact .inr ⟨h.1, h.2.1, .inl h.2.2⟩
            · rintro (h | ⟨h1, h2, h3 | h3⟩)
              · exact .inl h
              · exact .inr ⟨h1, h2, h3⟩
              · omega
        · obtain ⟨l, i⟩ := s
          obtain ⟨h1, g⟩ := hs
          simp only at h1 g
          subst h1
          show Ok (flow_Spans_l4b m _ l _) _
          unfold flow_Spans_l4b
          rw [if_neg (by simp)]
          rw [List.take_length] at g
          refine .map (.ret ⟨w64_succ (by omega), g.congr (fun r' k => ?_)⟩)
          rw [Tc_succ hx]
          constructor
          · rintro ((h | h) | ⟨h1, h2, h3⟩)
            · exact .inl h
            · exact .inr ⟨h.1, h.2.1, .inl h.2.2.2⟩
            · refine .inr ⟨h1, h2, ?_⟩
              rcases List.mem_append.1 h3 with h | h
              · exact .inr (.inl ((hu.2 r').1 h).2)
              · exact .inr (.inr (List.mem_singleton.1 h).symm)
          · rintro (h | ⟨h1, h2, h3 | h3 | h3⟩)
            · exact .inl (.inl h)
            · exact .inl (.inr ⟨h1, h2, y.nd h2 h3, h3⟩)
            · exact .inr ⟨h1, h2, List.mem_append_left _ ((hu.2 r').2 ⟨h2, h3⟩)⟩
            · exact .inr ⟨h1, h2, List.mem_append_right _ (List.mem_singleton.2 h3.symm)⟩
    · obtain ⟨l, i⟩ := s
      obtain ⟨h1, g⟩ := hs
      simp only at h1 g
      subst h1
      show Ok (flow_Spans_l2b f _ l _) _
      unfold flow_Spans_l2b
      rw [if_neg (by simp)]
      have hll := g.len (fun r k h => (y.tc h).1)
      have hl := tb_of l (⟨0, 0, 0⟩ : Sp)
      generalize hn : l.length = n at hl hll
      generalize hg : (fun i => l.getD i (⟨0, 0, 0⟩ : Sp)) = gg at hl
      have hmem : ∀ k, k < n → l[k]? = some (gg k) := by intro k hk; rw [hl, tb_get?, if_pos hk]
      have hbn : ∀ k, k < n → bnd (gg k) := by
        intro k hk
        have := g.sound _ (List.mem_of_getElem? (hmem k hk))
        have h1 := y.tc this.1
        unfold bnd; omega
      refine .map ?_
      rw [hl]
      refine (Sort_is n (by omega) gg hbn).bind fun r hr => .ret ?_
      obtain ⟨h, rfl, ⟨π, hπ1, hπ2, hπ3⟩, hle⟩ := hr
      have hmem2 : ∀ s, s ∈ tb n h ↔ s ∈ l := by
        intro s
        constructor
        · intro hs
          obtain ⟨k, hk, rfl⟩ := mem_tb hs
          rw [(hπ1 k hk).2]
          exact List.mem_of_getElem? (hmem _ (hπ1 k hk).1)
        · intro hs
          obtain ⟨k, hk, hks⟩ := List.mem_iff_getElem.1 hs
          have hkn : k < n := by omega
          obtain ⟨j, hj, rfl⟩ := hπ3 k hkn
          have : s = h j := by
            rw [(hπ1 j hj).2]
            have := hmem _ hkn
            rw [List.getElem?_eq_getElem hk, hks] at this
            exact Option.some.inj this
          rw [this]
          exact List.mem_of_getElem? (i := j) (by rw [tb_get?, if_pos hj])
      refine ⟨⟨?_, fun s hs => g.sound s ((hmem2 s).1 hs), fun r k ht => ?_⟩, fun i a b ha hb => ?_⟩
      · rw [List.pairwise_iff_getElem]
        intro a b ha hb hab
        rw [tb_len] at ha hb
        have e : ∀ k (hk : k < (tb n h).length), (tb n h)[k] = h k := by
          intro k hk
          have : (tb n h)[k]? = some (h k) := by rw [tb_get?, if_pos (by simpa using hk)]
          rw [List.getElem?_eq_getElem hk] at this
          exact Option.some.inj this
        rw [e, e, (hπ1 a ha).2, (hπ1 b hb).2]
        have hne : π a ≠ π b := fun h => by have := hπ2 a b ha hb h; omega
        have hp := List.pairwise_iff_getElem.1 g.nd
        have e2 : ∀ k (hk : k < l.length), l[k] = gg k := by
          intro k hk
          have := hmem k (by omega)
          rw [List.getElem?_eq_getElem hk] at this
          exact Option.some.inj this
        have ha2 : π a < l.length := by rw [hn]; exact (hπ1 a ha).1
        have hb2 : π b < l.length := by rw [hn]; exact (hπ1 b hb).1
        rcases Nat.lt_or_gt_of_ne hne with h | h
        · have := hp _ _ ha2 hb2 h; rwa [e2, e2] at this
        · have := hp _ _ hb2 ha2 h; rw [e2, e2] at this; exact fun e => this e.symm
      · obtain ⟨s, hs, h1⟩ := g.full r k ht
        exact ⟨s, (hmem2 s).2 hs, h1⟩
      · rw [tb_get?] at ha hb
        split at ha
        · split at hb
          · cases ha; cases hb; exact hle _ _ (by omega) (by assumption)
          · cases hb
        · cases ha
    · unfold Tc
      constructor
      · rintro ⟨h1, h2, h3⟩; exact .inl ⟨h1, by omega, h3⟩
      · rintro (⟨h1, h2, h3⟩ | ⟨q, _, _, h2, _⟩)
        · exact ⟨h1, by omega, h3⟩
        · omega

/-- What the reference says of a register: from, to, and whether it is touched. -/
def SpR (T : Int → Prop) (a b : Int) (is : Bool) : Prop := (is = true ↔ ∃ k, T k) ∧ (is = true → T a ∧ T b ∧ ∀ k, T k → a ≤ k ∧ k ≤ b)
theorem SpR.more {T T' : Int → Prop} {a b m : Int} {is : Bool} (h : SpR T a b is) (e : ∀ k, T' k ↔ T k ∨ k = m) :
    SpR T' (if (!is) || (decide (m < a)) then m else a) (if (!is) || (decide (b < m)) then m else b) true := by
  refine ⟨⟨fun _ => ⟨m, (e m).2 (.inr rfl)⟩, fun _ => rfl⟩, fun _ => ?_⟩
  cases is with
  | false =>
    simp only [Bool.not_false, Bool.true_or, if_true]
    refine ⟨(e m).2 (.inr rfl), (e m).2 (.inr rfl), fun k hk => ?_⟩
    rcases (e k).1 hk with h1 | h1
    · have := h.1.2 ⟨k, h1⟩; cases this
    · omega
  | true =>
    obtain ⟨h1, h2, h3⟩ := h.2 rfl
    simp only [Bool.not_true, Bool.false_or, decide_eq_true_eq]
    refine ⟨?_, ?_, fun k hk => ?_⟩
    · split
      · exact (e m).2 (.inr rfl)
      · exact (e a).2 (.inl h1)
    · split
      · exact (e m).2 (.inr rfl)
      · exact (e b).2 (.inl h2)
    · have hab := h3 a h1
      rcases (e k).1 hk with h4 | h4
      · have := h3 k h4
        split <;> split <;> omega
      · split <;> split <;> omega
theorem RSpan_is (y : Hy f R) (r : Nat) (hr : r < R) : Ok (ref10_Span f r) (fun t => SpR (fun k => Tc f f.code.length r k) t.1 t.2.1 t.2.2) := by
  have hlen := y.len
  unfold ref10_Span ref10_Span_l1
  refine Ok.loop (B := fun s => ref10_Span_l1b f r s.1 s.2.1 s.2.2.1 s.2.2.2) (fun m s => s.2.2.2 = (m : Int) ∧ SpR (fun k => Tc f m r k) s.1 s.2.1 s.2.2.1) f.code.length (fun m s hm hs => ?_) (fun s hs => ?_) ⟨rfl, ?_, fun h => ?_⟩
  · obtain ⟨a, b, is, i⟩ := s
    obtain ⟨h1, h⟩ := hs
    simp only at h1 h
    subst h1
    have hx : f.code[m]? = some f.code[m] := List.getElem?_eq_getElem hm
    have hxm : f.code[m] ∈ f.code := List.getElem_mem hm
    generalize f.code[m] = x at hx hxm
    show Ok (ref10_Span_l1b f r a b is m) _
    unfold ref10_Span_l1b
    rw [if_pos (decide_eq_true (by omega)), ix_nat, hx]
    simp only [Option.bind_some]
    rw [reads_is x r (y.args x hxm)]
    simp only [Option.bind_some]
    refine Ok.bind (P := fun c => c = true ↔ (Nd f r m ∨ us x r ∨ x.d = (r : Int))) (.ite (fun hb => .ret ?_) (fun hb => (Needed_is y.good (by omega) y.args r m hm).bind fun c hc => .ret ?_)) fun c hc => ?_
    · have hb : us x r ∨ x.d = (r : Int) := by simpa using hb
      exact ⟨fun _ => .inr hb, fun _ => rfl⟩
    · have hb : ¬ us x r ∧ ¬ x.d = (r : Int) := by simpa using hb
      rw [hc]
      exact ⟨.inl, fun h => h.elim id (fun h => h.elim (fun h => (hb.1 h).elim) (fun h => (hb.2 h).elim))⟩
    · have hT : ∀ k, Tc f (m + 1) r k ↔ Tc f m r k ∨ (k = (m : Int) ∧ c = true) := by
        intro k
        rw [Tc_succ hx, hc]
        constructor
        · rintro (h | ⟨h1, _, h2⟩)
          · exact .inl h
          · exact .inr ⟨h1, h2⟩
        · rintro (h | ⟨h1, h2⟩)
          · exact .inl h
          · exact .inr ⟨h1, by omega, h2⟩
      unfold ref10_Span_k2 ref10_Span_k3 ref10_Span_k1
      refine .ite (fun hct => ?_) (fun hcf => .ret ⟨w64_succ (by omega), ?_⟩)
      · have hm' := h.more (T' := fun k => Tc f (m + 1) r k) (m := (m : Int)) (fun k => by rw [hT k]; simp [hct])
        refine .ite (fun h5 => .ite (fun h6 => .ret ⟨w64_succ (by omega), ?_⟩) (fun h6 => .ret ⟨w64_succ (by omega), ?_⟩)) (fun h5 => .ite (fun h6 => .ret ⟨w64_succ (by omega), ?_⟩) (fun h6 => .ret ⟨w64_succ (by omega), ?_⟩))
        all_goals (rw [h5, h6] at hm'; simpa using hm')
      · have : (fun k => Tc f (m + 1) r k) = (fun k => Tc f m r k) := by
          funext k
          rw [hT k]
          simp [hcf]
        show SpR (fun k => Tc f (m + 1) r k) a b is
        rw [this]; exact h
  · obtain ⟨a, b, is, i⟩ := s
    obtain ⟨h1, h⟩ := hs
    simp only at h1 h
    subst h1
    show Ok (ref10_Span_l1b f r a b is _) _
    unfold ref10_Span_l1b
    rw [if_neg (by simp)]
    exact .map (.ret h)
  · simp only [decide_eq_true_eq]
    constructor
    · intro h; exact ⟨0, .inl ⟨by omega, h, rfl⟩⟩
    · rintro ⟨k, h | ⟨q, _, _, h, _⟩⟩
      · exact h.2.1
      · omega
  · have h : (r : Int) < f.params := by simpa using h
    refine ⟨.inl ⟨by omega, h, rfl⟩, .inl ⟨by omega, h, rfl⟩, ?_⟩
    show ∀ k, Tc f 0 r k → (0 : Int) ≤ k ∧ k ≤ 0
    rintro k (h | ⟨q, _, _, h, _⟩)
    · omega
    · omega

def cr (l : List Sp) (r : Int) : Nat := l.countP (fun s => decide (s.reg < r))
theorem cr_succ : ∀ {l : List Sp} (h : l.Pairwise (fun a b => a.reg ≠ b.reg)) (r : Int), cr l (r + 1) = cr l r + (if l.any (fun s => decide (s.reg = r)) then 1 else 0)
  | [], _, r => rfl
  | s :: l, h, r => by
    obtain ⟨h1, h2⟩ := List.pairwise_cons.1 h
    have ih := cr_succ h2 r
    unfold cr at *
    rw [List.countP_cons, List.countP_cons, List.any_cons, ih]
    by_cases he : s.reg = r
    · have hno : l.any (fun s => decide (s.reg = r)) = false := by
        rw [List.any_eq_false]
        intro t ht
        have := h1 t ht
        simp; omega
      rw [hno]
      have e1 : decide (s.reg < r + 1) = true := by simp; omega
      have e2 : decide (s.reg < r) = false := by simp; omega
      have e3 : decide (s.reg = r) = true := by simp [he]
      rw [e1, e2, e3]; simp
    · have e3 : decide (s.reg = r) = false := by simp [he]
      have e1 : decide (s.reg < r + 1) = decide (s.reg < r) := by rw [decide_eq_decide]; omega
      rw [e1, e3, Bool.false_or]; omega

theorem law10_FlowSpans_law (f : TFunc) (o : OK_TFunc f) : law10_FlowSpans f = some true := by
  unfold law10_FlowSpans
  rw [alive_is]
  simp only [Option.bind_some, Bool.not_true, Bool.false_eq_true, if_false]
  refine ((great_ok f o).bind fun b hb => ?_).some_of
  refine .ite (fun _ => .ret rfl) (fun hbf => ?_)
  obtain ⟨h1, h2, h3, hg⟩ := hb hbf
  have hreg : 0 ≤ f.regs := by have := hg.2.1; have := hg.2.2.1; omega
  obtain ⟨R, hR⟩ := Int.eq_ofNat_of_zero_le hreg
  have y : Hy f R := ⟨h1, hR, by omega, fun x hx => by have := h3 x hx; omega, h3, hg⟩
  have hR12 := y.hR
  refine (Spans_is y).bind fun l hl => ?_
  obtain ⟨g, hle⟩ := hl
  have hll := g.len (fun r k h => (y.tc h).1)
  have uniq : ∀ s ∈ l, ∀ t ∈ l, s.reg = t.reg → s = t := by
    intro s hs t ht e
    obtain ⟨i, hi, rfl⟩ := List.mem_iff_getElem.1 hs
    obtain ⟨j, hj, rfl⟩ := List.mem_iff_getElem.1 ht
    have hp := List.pairwise_iff_getElem.1 g.nd
    rcases Nat.lt_trichotomy i j with h | h | h
    · exact (hp i j hi hj h e).elim
    · subst h; rfl
    · exact (hp j i hj hi h e.symm).elim
  unfold law10_FlowSpans_l1
  refine Ok.loop (B := fun s => law10_FlowSpans_l1b f l s.1 s.2) (fun r s => s = ((cr l r : Int), (r : Int))) R (fun r s hr hs => ?_) (fun s hs => ?_) ?_
  · subst hs
    show Ok (law10_FlowSpans_l1b f l _ r) _
    unfold law10_FlowSpans_l1b
    rw [if_pos (decide_eq_true (by omega))]
    refine (RSpan_is y r hr).bind fun t ht => ?_
    obtain ⟨ta, tb', tis⟩ := t
    simp only at ht
    have hcr := cr_succ g.nd (r : Int)
    have hcl : cr l r ≤ l.length := List.countP_le_length
    unfold law10_FlowSpans_l2
    refine loop_for (B := fun s => law10_FlowSpans_l2b f l (cr l r) r (ta, tb', tis) s.1 s.2) l (fun j s => s.2 = (j : Int) ∧ (s.1 = true ↔ ∃ z ∈ l.take j, z.reg = (r : Int) ∧ z.from_ = ta ∧ z.to_ = tb')) (fun j z s hj' hj hs => ?_) (fun s hs => ?_) ⟨rfl, by simp⟩
    · obtain ⟨c, i⟩ := s
      obtain ⟨h5, h6⟩ := hs
      simp only at h5 h6
      subst h5
      show Ok (law10_FlowSpans_l2b f l (cr l r) r (ta, tb', tis) c j) _
      unfold law10_FlowSpans_l2b
      rw [if_pos (decide_eq_true (by omega)), ix_nat, hj]
      simp only [Option.bind_some]
      refine .ret ⟨w64_succ (by omega), ?_⟩
      have hz : l[j] = z := by rw [List.getElem?_eq_getElem hj'] at hj; exact Option.some.inj hj
      show (c || _) = true ↔ _
      rw [Bool.or_eq_true, h6]
      simp only [Bool.and_true, Bool.and_eq_true, decide_eq_true_eq]
      constructor
      · rintro (⟨w, hw, h⟩ | h)
        · exact ⟨w, (mem_take_succ hj').2 (.inl hw), h⟩
        · exact ⟨z, (mem_take_succ hj').2 (.inr hz.symm), h⟩
      · rintro ⟨w, hw, h⟩
        rcases (mem_take_succ hj').1 hw with hw | hw
        · exact .inl ⟨w, hw, h⟩
        · rw [hz] at hw; subst hw; exact .inr h
    · obtain ⟨c, i⟩ := s
      obtain ⟨h5, h6⟩ := hs
      simp only at h5 h6
      rw [List.take_length] at h6
      subst h5
      show Ok (law10_FlowSpans_l2b f l (cr l r) r (ta, tb', tis) c _) _
      unfold law10_FlowSpans_l2b
      rw [if_neg (by simp)]
      have hT : ∀ k, Tc f f.code.length r k → ∃ z ∈ l, z.reg = (r : Int) ∧ z.from_ ≤ k ∧ k ≤ z.to_ := fun k hk => g.full r k hk
      have hcis : c = tis := by
        rw [Bool.eq_iff_iff, h6, ht.1]
        constructor
        · rintro ⟨z, hz, h7, _⟩
          have := (g.sound z hz).1
          rw [h7] at this
          exact ⟨_, this⟩
        · intro hex
          obtain ⟨e1, e2, e3⟩ := ht.2 (ht.1.2 hex)
          obtain ⟨z, hz, h7, h8, h9⟩ := hT _ e1
          obtain ⟨w, hw, h10, h11, h12⟩ := hT _ e2
          have := uniq z hz w hw (by rw [h7, h10])
          subst this
          have hs := g.sound z hz
          rw [h7] at hs
          have q1 := e3 _ hs.1
          have q2 := e3 _ hs.2
          exact ⟨z, hz, h7, by omega, by omega⟩
      have hany : l.any (fun s => decide (s.reg = (r : Int))) = tis := by
        rw [Bool.eq_iff_iff, ht.1, List.any_eq_true]
        constructor
        · rintro ⟨z, hz, h7⟩
          have h7 : z.reg = (r : Int) := of_decide_eq_true h7
          have := (g.sound z hz).1
          rw [h7] at this
          exact ⟨_, this⟩
        · rintro ⟨k, hk⟩
          obtain ⟨z, hz, h7, _⟩ := hT k hk
          exact ⟨z, hz, decide_eq_true h7⟩
      rw [hany] at hcr
      have key : ∀ v : Int, v = (cr l ((r : Int) + 1) : Int) → Ok (law10_FlowSpans_k1 f r (ta, tb', tis) v) (Sum.elim (fun s => s = ((cr l ((r + 1 : Nat) : Int) : Int), ((r + 1 : Nat) : Int))) (fun r => r = true)) := by
        intro v hv
        unfold law10_FlowSpans_k1 law10_FlowSpans_l3
        refine Ok.loop (B := fun s => law10_FlowSpans_l3b f r (ta, tb', tis) v s) (fun m s => s = (m : Int)) f.code.length (fun m s hm hs => ?_) (fun s hs => ?_) rfl
        · subst hs
          unfold law10_FlowSpans_l3b
          rw [if_pos (decide_eq_true (by omega))]
          refine (Needed_is hg (by omega) y.args r m hm).bind fun d hd => ?_
          refine .ite (fun hbad => ?_) (fun _ => .ret (w64_succ (by omega)))
          simp only [Bool.and_eq_true, Bool.or_eq_true, decide_eq_true_eq] at hbad
          have htc : Tc f f.code.length r m := .inr ⟨m, f.code[m], rfl, hm, List.getElem?_eq_getElem hm, by omega, .inl (hd.1 hbad.1)⟩
          have := (ht.2 (ht.1.2 ⟨_, htc⟩)).2.2 _ htc
          omega
        · subst hs
          unfold law10_FlowSpans_l3b
          rw [if_neg (by simp)]
          refine .map (.ret ?_)
          show _ = _
          rw [hv, w64_succ (by omega)]
          rfl
      refine .map ?_
      rw [if_neg (by simp [hcis])]
      refine .ite (fun h7 => ?_) (fun h7 => ?_)
      · have h7' : tis = true := h7
        rw [h7', if_pos rfl] at hcr
        exact key _ (by rw [w64_succ (by omega), hcr])
      · have h7' : tis = false := h7
        rw [h7', if_neg (by decide)] at hcr
        exact key _ (by rw [hcr]; rfl)
  · subst hs
    show Ok (law10_FlowSpans_l1b f l _ _) _
    unfold law10_FlowSpans_l1b
    rw [if_neg (by simp; omega)]
    refine .map ?_
    have hcrR : cr l R = l.length := by
      unfold cr
      rw [List.countP_eq_length]
      intro s hs
      have := (y.tc (g.sound s hs).1).1
      simp; omega
    show Ok _ (fun r => r = true)
    unfold law10_FlowSpans_l4
    by_cases h0 : l.length = 0
    · rw [loopO_eq]
      unfold law10_FlowSpans_l4b
      rw [if_neg (by simp [h0])]
      refine ⟨_, rfl, ?_⟩
      show decide (_ = _) = true
      rw [hcrR]; simp
    refine Ok.loop (fun i s => s = ((i + 1 : Nat) : Int)) (l.length - 1) (fun i s hi hs => ?_) (fun s hs => ?_) rfl
    · subst hs
      have hi0 : i < l.length := by omega
      have hi1 : i + 1 < l.length := by omega
      unfold law10_FlowSpans_l4b
      have hw : w64 (((i + 1 : Nat) : Int) - 1) = (i : Int) := by rw [w64_id (by omega) (by omega)]; omega
      rw [if_pos (decide_eq_true (by omega)), hw, ix_some hi0, ix_some hi1]
      simp only [Option.bind_some]
      have hl := hle i l[i] l[i + 1] (List.getElem?_eq_getElem hi0) (List.getElem?_eq_getElem hi1)
      have hne := List.pairwise_iff_getElem.1 g.nd i (i + 1) hi0 hi1 (by omega)
      unfold le at hl
      have k2 : ∀ b, b = false → Ok (law10_FlowSpans_k2 ((i + 1 : Nat) : Int) b) (Sum.elim (fun s => s = ((i + 1 + 1 : Nat) : Int)) (fun r => r = true)) := by
        intro b hb
        unfold law10_FlowSpans_k2
        rw [hb, if_neg (by decide)]
        exact .ret (w64_succ (by omega))
      rw [if_neg (by simp; omega)]
      refine .ite (fun he => k2 _ (by have he := of_decide_eq_true he; simp; omega)) (fun _ => k2 _ rfl)
    · subst hs
      unfold law10_FlowSpans_l4b
      rw [if_neg (by simp; omega)]
      refine .map (.ret ?_)
      show decide (_ = _) = true
      rw [hcrR]; simp
  · have : cr l 0 = 0 := by
      unfold cr
      rw [List.countP_eq_zero]
      intro s hs
      have := (y.tc (g.sound s hs).1).1
      simp; omega
    show ((0 : Int), (0 : Int)) = ((cr l 0 : Int), 0)
    rw [this]; rfl
end
end Go.Vm.G10s
