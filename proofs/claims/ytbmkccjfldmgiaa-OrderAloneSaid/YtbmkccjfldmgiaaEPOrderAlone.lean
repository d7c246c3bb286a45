/-
  A thread that is alone.
-/
import Derived.Test.YtbmkccjfldmgiaaEP21hco
set_option linter.unusedSimpArgs false
set_option linter.unusedVariables false
namespace Go.Vm.GO21
open Go

/-! ## Nothing is sorted -/
theorem recO_const {α ρ : Type} {F : (α → Option ρ) → α → Option ρ} {a : α} {r : ρ} (h : ∀ f, F f a = some r) : recO F a = some r := by
  unfold recO
  have hex : ∃ n r, itF F n a = some r := ⟨1, r, h _⟩
  rw [dif_pos hex]
  obtain ⟨r', hr'⟩ := hex.choose_spec
  cases hc : hex.choose with
  | zero => rw [hc] at hr'; cases hr'
  | succ n => exact h _
theorem Len_ok (n : Nat) (hn : n ≤ 200) : Ok (math_bits_Len (IntKind.wrap .u64 (n : Int))) (fun _ => True) := by
  have hw : IntKind.wrap .u64 (n : Int) = (n : Int) := by
    unfold IntKind.wrap
    simp [IntKind.signed, IntKind.bits]
    omega
  have hw8 : IntKind.wrap .u8 (n : Int) = (n : Int) := by
    unfold IntKind.wrap
    simp [IntKind.signed, IntKind.bits]
    omega
  have hs : str1.size = 256 := by decide +kernel
  have k3 : ∀ x, Ok (math_bits_Len64_k3 (n : Int) x) (fun _ => True) := by
    intro x
    unfold math_bits_Len64_k3
    rw [hw8]
    have hlt : n < str1.size := by omega
    unfold ixS
    rw [if_pos (by omega), show ((n : Int)).toNat = n from rfl, getElem?_pos str1 n hlt]
    exact .ret trivial
  rw [hw]
  unfold math_bits_Len math_bits_Len64 math_bits_Len64_k1 math_bits_Len64_k2
  rw [if_neg (by simp; omega), if_neg (by simp; omega), if_neg (by simp; omega)]
  exact (k3 0).bind fun _ _ => .ret trivial
theorem sort_nil : slices_SortFunc [] = some [] := by
  unfold slices_SortFunc
  refine Ok.some_of ((Len_ok 0 (by omega)).bind fun L _ => ?_)
  refine Ok.bind (P := fun x => x = []) (.of_eq ?_) (fun x hx => by subst hx; exact .ret rfl)
  unfold slices_pdqsortCmpFunc
  refine recO_const fun f => ?_
  show slices_pdqsortCmpFunc_F (fun p0 p1 p2 p3 => f (p0, p1, p2, p3)) [] 0 0 L = some []
  unfold slices_pdqsortCmpFunc_F slices_pdqsortCmpFunc_l1
  rw [loopO_eq]
  show (slices_pdqsortCmpFunc_l1b _ [] 0 0 L true true).bind _ = _
  unfold slices_pdqsortCmpFunc_l1b slices_insertionSortCmpFunc slices_insertionSortCmpFunc_l1
  rw [if_pos (by decide), loopO_eq]
  show (((slices_insertionSortCmpFunc_l1b 0 0 [] (w64 (0 + 1))).bind _).bind _).bind _ = _
  unfold slices_insertionSortCmpFunc_l1b
  rw [if_neg (by decide)]
  rfl

/-! ## What the thread did -/
def Wr (xs : List TEvent) (j : Nat) (p : Int) (id : Int) : Prop := ∃ w, xs[j]? = some w ∧ w.act.kind = 2 ∧ w.act.at_ = p ∧ w.id = id
def EvOk (xs : List TEvent) (i : Nat) (e : TEvent) : Prop := e.t = 0 ∧ e.act.volatile = false ∧
  ((e.act.kind = 2 ∧ e.id = ((i + 1 : Nat) : Int) ∧ e.rf = 0) ∨
   (e.act.kind = 1 ∧ e.id = 0 ∧ (∀ j id, j < i → Wr xs j e.act.at_ id → id ≤ e.rf) ∧ (e.rf = 0 ∨ ∃ j, j < i ∧ e.rf = ((j + 1 : Nat) : Int) ∧ Wr xs j e.act.at_ e.rf)))
structure Al (xs : List TEvent) (m : List (Int × Int)) : Prop where
  ev : ∀ (i : Nat) e, xs[i]? = some e → EvOk xs i e
  up : ∀ p j id, Wr xs j p id → id ≤ (mG m p).getD 0
  at_ : ∀ p, (mG m p).getD 0 = 0 ∨ ∃ j : Nat, (mG m p).getD 0 = ((j + 1 : Nat) : Int) ∧ Wr xs j p ((mG m p).getD 0)
theorem Wr.app {xs ys : List TEvent} {j : Nat} {p id : Int} (h : Wr xs j p id) : Wr (xs ++ ys) j p id := by
  obtain ⟨w, h1, h2⟩ := h
  exact ⟨w, by rw [List.getElem?_append_left (List.getElem?_eq_some_iff.1 h1).1]; exact h1, h2⟩
theorem Wr.of_app {xs : List TEvent} {e : TEvent} {j : Nat} {p id : Int} (h : Wr (xs ++ [e]) j p id) : Wr xs j p id ∨ (j = xs.length ∧ e.act.kind = 2 ∧ e.act.at_ = p ∧ e.id = id) := by
  obtain ⟨w, h1, h2⟩ := h
  by_cases hj : j < xs.length
  · rw [List.getElem?_append_left hj] at h1
    exact .inl ⟨w, h1, h2⟩
  · have hlt := (List.getElem?_eq_some_iff.1 h1).1
    rw [List.length_append, List.length_singleton] at hlt
    have hj2 : j = xs.length := by omega
    subst hj2
    simp at h1
    subst h1
    exact .inr ⟨rfl, h2⟩
theorem EvOk.app {xs : List TEvent} {e e' : TEvent} {i : Nat} (hi : i ≤ xs.length) (h : EvOk xs i e) : EvOk (xs ++ [e']) i e := by
  obtain ⟨h1, h2, h3⟩ := h
  refine ⟨h1, h2, h3.imp id ?_⟩
  rintro ⟨h4, h5, h6, h7⟩
  refine ⟨h4, h5, fun j id hj hw => ?_, h7.imp id ?_⟩
  · rcases hw.of_app with hw | hw
    · exact h6 j id hj hw
    · omega
  · rintro ⟨j, hj, h8, h9⟩; exact ⟨j, hj, h8, h9.app⟩
theorem Al.nil : Al [] [] := ⟨fun i e h => by simp at h, fun p j id h => by obtain ⟨w, h, _⟩ := h; simp at h, fun p => .inl rfl⟩
theorem ev_app {xs : List TEvent} {m : List (Int × Int)} (h : Al xs m) {e : TEvent} (he : EvOk xs xs.length e) : ∀ (i : Nat) e', (xs ++ [e])[i]? = some e' → EvOk (xs ++ [e]) i e' := by
  intro i e' hi
  by_cases hj : i < xs.length
  · rw [List.getElem?_append_left hj] at hi
    exact (h.ev i e' hi).app (by omega)
  · have hlt := (List.getElem?_eq_some_iff.1 hi).1
    rw [List.length_append, List.length_singleton] at hlt
    have hj2 : i = xs.length := by omega
    subst hj2
    simp at hi
    subst hi
    exact he.app (Nat.le_refl _)
theorem Al.write {xs : List TEvent} {m : List (Int × Int)} (h : Al xs m) (p : Int) : Al (xs ++ [⟨0, ⟨2, p, 0, 0, false, false⟩, 0, ((xs.length + 1 : Nat) : Int)⟩]) (mS m p ((xs.length + 1 : Nat) : Int)) := by
  refine ⟨ev_app h ⟨rfl, rfl, .inl ⟨rfl, rfl, rfl⟩⟩, fun q j id hw => ?_, fun q => ?_⟩
  · rw [mG_mS]
    by_cases hq : p = q
    · rw [if_pos hq]
      subst hq
      show id ≤ ((xs.length + 1 : Nat) : Int)
      rcases hw.of_app with hw | ⟨_, _, _, hw⟩
      · have h1 := h.up p j id hw
        rcases h.at_ p with h2 | ⟨j', h2, w, h3, _⟩
        · omega
        · have := (List.getElem?_eq_some_iff.1 h3).1; omega
      · rw [← hw]; exact Int.le_refl _
    · rw [if_neg hq]
      rcases hw.of_app with hw | ⟨_, _, hw, _⟩
      · exact h.up q j id hw
      · exact absurd hw hq
  · rw [mG_mS]
    by_cases hq : p = q
    · rw [if_pos hq]
      subst hq
      exact .inr ⟨xs.length, rfl, ⟨_, by simp; rfl, rfl, rfl, rfl⟩⟩
    · rw [if_neg hq]
      refine (h.at_ q).imp id ?_
      rintro ⟨j, h1, h2⟩; exact ⟨j, h1, h2.app⟩
theorem Al.read {xs : List TEvent} {m : List (Int × Int)} (h : Al xs m) (p : Int) : Al (xs ++ [⟨0, ⟨1, p, 0, 0, false, false⟩, (mG m p).getD 0, 0⟩]) m := by
  refine ⟨ev_app h ⟨rfl, rfl, .inr ⟨rfl, rfl, fun j id _ hw => h.up p j id hw, (h.at_ p).imp id ?_⟩⟩, fun q j id hw => ?_, fun q => (h.at_ q).imp id ?_⟩
  · rintro ⟨j, h1, h2⟩
    obtain ⟨w, h3, h4⟩ := h2
    exact ⟨j, (List.getElem?_eq_some_iff.1 h3).1, h1, ⟨w, h3, h4⟩⟩
  · rcases hw.of_app with hw | ⟨_, hw, _⟩
    · exact h.up q j id hw
    · cases hw
  · rintro ⟨j, h1, h2⟩; exact ⟨j, h1, h2.app⟩

/-! ## Nothing leads back -/
section
variable {xs : List TEvent} {m : List (Int × Int)}
theorem row_all : ∀ (xs : List TEvent) (i : Nat), (∀ e ∈ xs, e.act.kind = 2 ∨ e.act.kind = 1) → ∀ (k : Nat) (x : Torder_node), (rowI (fun _ => true) xs i)[k]? = some x → xs[k]? = some x.e ∧ x.at_ = ((i + k : Nat) : Int)
  | [], i, _, k, x, h => by simp [rowI] at h
  | e :: xs, i, hk, k, x, h => by
    have he : (wrB e.act || rdB e.act) = true := by
      rcases hk e (by simp) with h | h
      · unfold wrB; rw [h]; rfl
      · unfold rdB; rw [h]; simp
    rw [rowI, he] at h
    cases k with
    | zero =>
      simp at h
      subst h
      exact ⟨rfl, rfl⟩
    | succ k =>
      have := row_all xs (i + 1) (fun e he => hk e (List.mem_cons_of_mem _ he)) k x (by simpa using h)
      exact ⟨by simpa using this.1, by rw [this.2]; omega⟩
theorem row_len : ∀ (xs : List TEvent) (i : Nat), (rowI (fun _ => true) xs i).length ≤ xs.length := rowI_len _
theorem row_none (q : TAct → Bool) : ∀ (xs : List TEvent) (i : Nat), (∀ e ∈ xs, q e.act = false) → rowI q xs i = []
  | [], _, _ => rfl
  | e :: xs, i, h => by
    rw [rowI, h e (by simp), Bool.and_false, row_none q xs (i + 1) (fun e he => h e (List.mem_cons_of_mem _ he))]
    rfl
theorem Al.kinds (h : Al xs m) : ∀ e ∈ xs, e.act.kind = 2 ∨ e.act.kind = 1 := by
  intro e he
  obtain ⟨i, hi⟩ := List.getElem?_of_mem he
  exact (h.ev i e hi).2.2.imp (·.1) (·.1)
def nn (xs : List TEvent) : List Torder_node := nods (fun _ => true) [xs]
theorem nn_row : nn xs = rowI (fun _ => true) xs 0 := by unfold nn nods; simp
theorem Al.node (h : Al xs m) {k : Nat} {x : Torder_node} (hx : (nn xs)[k]? = some x) : xs[k]? = some x.e ∧ x.at_ = (k : Int) ∧ EvOk xs k x.e := by
  rw [nn_row] at hx
  have := row_all xs 0 h.kinds k x hx
  exact ⟨this.1, by rw [this.2]; omega, h.ev k x.e this.1⟩
theorem wr2 {xs : List TEvent} {i : Nat} {e : TEvent} (h : EvOk xs i e) (hw : wrB e.act = true) : e.act.kind = 2 ∧ e.id = ((i + 1 : Nat) : Int) := by
  rcases h.2.2 with h | h
  · exact ⟨h.1, h.2.1⟩
  · unfold wrB at hw; rw [h.1] at hw; simp at hw
theorem rd1 {xs : List TEvent} {i : Nat} {e : TEvent} (h : EvOk xs i e) (hw : rdB e.act = true) : e.act.kind = 1 ∧ e.id = 0 ∧ (∀ j id, j < i → Wr xs j e.act.at_ id → id ≤ e.rf) ∧ (e.rf = 0 ∨ ∃ j, j < i ∧ e.rf = ((j + 1 : Nat) : Int) ∧ Wr xs j e.act.at_ e.rf) := by
  rcases h.2.2 with h | h
  · unfold rdB at hw; rw [h.1] at hw; simp at hw
  · exact h
theorem rf_lt (h : Al xs m) {i k : Nat} {x y : Torder_node} (hx : (nn xs)[i]? = some x) (hy : (nn xs)[k]? = some y) (hr : rfB x y = true) : i < k ∧ x.e.act.kind = 2 ∧ y.e.rf = ((i + 1 : Nat) : Int) := by
  obtain ⟨h1, h2, h3⟩ := h.node hx
  obtain ⟨h4, h5, h6⟩ := h.node hy
  unfold rfB at hr
  simp only [Bool.and_eq_true, decide_eq_true_eq] at hr
  obtain ⟨⟨h7, h8⟩, h9⟩ := hr
  obtain ⟨_, _, _, h10⟩ := rd1 h6 h8
  rcases h3.2.2 with h11 | h11
  · rcases h10 with h12 | ⟨j, hj, h12, _⟩
    · omega
    · exact ⟨by omega, h11.1, by omega⟩
  · omega
theorem fwd (h : Al xs m) (ks : List Nat) (hks : ∀ k ∈ ks, k ≤ 5) {i j : Nat} (he : Ed (nn xs).length (gr (nn xs) ks) i j) : i < j := by
  obtain ⟨hi, hj, hg⟩ := he
  unfold gr at hg
  split at hg
  · rename_i x y hx hy
    obtain ⟨h1, h2, h3⟩ := h.node hx
    obtain ⟨h4, h5, h6⟩ := h.node hy
    simp only [Bool.and_eq_true, decide_eq_true_eq, List.any_eq_true] at hg
    obtain ⟨hne, k, hk, hr⟩ := hg
    have hk5 := hks k hk
    have po : poB x y = true → i < j := by
      intro hp
      unfold poB at hp
      simp only [Bool.and_eq_true, decide_eq_true_eq] at hp
      omega
    have hk6 : k = 0 ∨ k = 1 ∨ k = 2 ∨ k = 3 ∨ k = 4 ∨ k = 5 := by omega
    rcases hk6 with rfl | rfl | rfl | rfl | rfl | rfl
    · exact po ((Bool.and_eq_true _ _).mp hr).1
    · exact po hr
    · exact (rf_lt h hx hy hr).1
    · have hr : coB x y = true := hr
      unfold coB at hr
      simp only [Bool.and_eq_true, decide_eq_true_eq] at hr
      obtain ⟨⟨⟨h7, h8⟩, h9⟩, h10⟩ := hr
      have := (wr2 h3 h7).2
      have := (wr2 h6 h8).2
      omega
    · have hr : frB x y = true := hr
      unfold frB at hr
      simp only [Bool.and_eq_true, decide_eq_true_eq] at hr
      obtain ⟨⟨⟨⟨h7, h8⟩, h9⟩, h10⟩, _⟩ := hr
      have hr1 := rd1 h3 h7
      have hw := wr2 h6 h8
      have hat : x.e.act.at_ = y.e.act.at_ := of_decide_eq_true h9
      rcases Nat.lt_trichotomy i j with h11 | h11 | h11
      · exact h11
      · exact absurd h11 hne
      · have := hr1.2.2.1 j y.e.id h11 ⟨y.e, h4, hw.1, hat.symm, rfl⟩
        omega
    · have hr : rlB x y = true := hr
      unfold rlB at hr
      rw [h3.2.1, h6.2.1] at hr
      simp only [Bool.false_and, Bool.or_false, Bool.and_eq_true, decide_eq_true_eq] at hr
      have := hr.1.1.1.1
      rcases h3.2.2 with h7 | h7 <;> omega
  · cases hg
theorem acyc (h : Al xs m) (ks : List Nat) (hks : ∀ k ∈ ks, k ≤ 5) : ¬ cyc (nn xs) ks := by
  rintro ⟨i, hi⟩
  have := hi.rank (f := fun k => k) fun i j he => fwd h ks hks he
  omega
theorem reach (h : Al xs m) (ks : List Nat) (hks : ∀ k ∈ ks, k ≤ 5) {i j : Nat} (hr : Rch (Ed (nn xs).length (gr (nn xs) ks)) i j) : i < j := hr.rank (f := fun k => k) fun i j he => fwd h ks hks he
theorem no_bad (h : Al xs m) {H : Nat → Nat → Bool} (hH : ∀ i j, i < (nn xs).length → j < (nn xs).length → (H i j = true ↔ Rch (Ed (nn xs).length (gr (nn xs) [1, 5])) i j)) (i k : Nat) : ¬ Bd (nn xs) H i k := by
  rintro ⟨b, a, hb, ha, hne, hrb, hwa, hat, hc⟩
  have hi := (List.getElem?_eq_some_iff.1 hb).1
  have hk := (List.getElem?_eq_some_iff.1 ha).1
  have lt : ∀ p q, p < (nn xs).length → q < (nn xs).length → H p q = true → p < q := fun p q hp hq hpq => reach h [1, 5] (by decide) ((hH p q hp hq).1 hpq)
  obtain ⟨h1, h2, h3⟩ := h.node hb
  obtain ⟨h4, h5, h6⟩ := h.node ha
  have hr1 := rd1 h3 hrb
  have hw := wr2 h6 hwa
  have hle : k < i → a.e.id ≤ b.e.rf := fun hki => hr1.2.2.1 k a.e.id hki ⟨a.e, h4, hw.1, hat, rfl⟩
  rcases hc with ⟨h7, h8⟩ | ⟨h7, h8, h9⟩ | ⟨h7, j, w, h8, h9, h10⟩
  · have := (rf_lt h ha hb h7).1
    have := lt i k hi hk h8
    omega
  · have := hle (lt k i hk hi h7)
    omega
  · have hj := (List.getElem?_eq_some_iff.1 h8).1
    have := hle (lt k i hk hi h7)
    have := (rf_lt h h8 hb h9).2.2
    have := lt j k hj hk h10
    omega
theorem no_race (h : Al xs m) {H : Nat → Nat → Bool} (i k : Nat) : ¬ Rc (nn xs) H i k := by
  rintro ⟨x, y, hx, hy, hp, _⟩
  unfold prB at hp
  rw [(h.node hx).2.2.1, (h.node hy).2.2.1] at hp
  simp at hp
theorem dst (h : Al xs m) : (nn xs).Pairwise Dst := by rw [nn_row]; exact rowI_dst _ _ _
end

theorem law21_OrderAlone_law (kinds places : List Int) (h1 : OKw (fun x => InR .i64 x) kinds) (h2 : OKw (fun x => InR .i64 x) places) : law21_OrderAlone kinds places = some true := by
  unfold law21_OrderAlone
  rw [alive_is]
  simp only [Option.bind_some, Bool.not_true, Bool.false_eq_true, if_false]
  refine Ok.some_of (.ite (fun _ => .ret rfl) (fun hc => ?_))
  have hc : ¬ 24 < (kinds.length : Int) ∧ ¬ (places.length : Int) < (kinds.length : Int) := by simpa using hc
  unfold law21_OrderAlone_l1
  refine loop_for (B := fun s => law21_OrderAlone_l1b kinds places s.1 s.2.1 s.2.2) kinds (fun k s => s.2.2 = (k : Int) ∧ s.1.length = k ∧ Al s.1 s.2.1) (fun k kd s hk' hk hs => ?_) (fun s hs => ?_) ⟨rfl, rfl, Al.nil⟩
  · obtain ⟨xs, m, i⟩ := s
    obtain ⟨e1, e2, hA⟩ := hs
    simp only at e1 e2 hA
    subst e1 e2
    show Ok (law21_OrderAlone_l1b kinds places xs m (xs.length : Int)) _
    have hp : places[xs.length]? = some (places[xs.length]'(by omega)) := List.getElem?_eq_getElem (by omega)
    unfold law21_OrderAlone_l1b law21_OrderAlone_k1
    rw [if_pos (decide_eq_true (by omega)), ix_nat, hk]
    simp only [Option.bind_some]
    rw [ix_nat, hp]
    simp only [Option.bind_some]
    unfold remO
    rw [if_neg (by decide), if_neg (by decide)]
    simp only [Option.bind_some]
    generalize w64 (8 * (w64 (1 + (w64 (Int.tmod (IntKind.wrap .u64 places[xs.length]) 3))))) = p
    have hw : w64 ((xs.length : Int) + 1) = ((xs.length + 1 : Nat) : Int) := w64_succ (by omega)
    rw [hw]
    refine .ite (fun _ => ?_) (fun _ => ?_)
    · rw [ap_some (by simp; omega)]
      exact .ret ⟨rfl, by simp, hA.write p⟩
    · rw [ap_some (by simp; omega)]
      exact .ret ⟨rfl, by simp, hA.read p⟩
  · obtain ⟨xs, m, i⟩ := s
    obtain ⟨e1, e2, hA⟩ := hs
    simp only at e1 e2 hA
    subst e1
    show Ok (law21_OrderAlone_l1b kinds places xs m (kinds.length : Int)) _
    unfold law21_OrderAlone_l1b
    rw [if_neg (by simp)]
    refine .map ?_
    have ht : total [xs] ≤ 1000 := by unfold total; simp; omega
    have hn1 : order_Run_nodes [xs] = some (nn xs) := nodes1_is [xs] (by simp) ht
    have hl : (nn xs).length ≤ 1000 := Nat.le_trans (nods_len _ [xs]) ht
    have hn2 : order_Run_nodes_2 [xs] = some [] := by
      rw [nodes2_is [xs] (by simp) ht]
      unfold nods
      rw [List.flatMap_cons, row_none syB xs 0 (fun e he => ?_)]
      · rfl
      · obtain ⟨i, hi⟩ := List.getElem?_of_mem he
        have hv := (hA.ev i e hi).2.1
        unfold syB
        rcases hA.kinds e he with h | h <;> rw [hv, h] <;> rfl
    have hn3 : order_Run_nodes_3 [xs] = some [] := by
      rw [nodes3_is [xs] (by simp) ht]
      unfold nods
      rw [List.flatMap_cons, row_none lkB xs 0 (fun e he => ?_)]
      · rfl
      · unfold lkB
        rcases hA.kinds e he with h | h <;> rw [h] <;> rfl
    have hS : order_Run_Serial [xs] = some true := by
      unfold order_Run_Serial
      rw [hn1]
      exact Ok.some_of ((ways_is (nn xs) hl [1, 2, 3, 4] (by decide) (by decide)).mono fun r hr => hr.2 (acyc hA _ (by decide)))
    have hC : order_Run_Coherent [xs] = some true := by
      unfold order_Run_Coherent
      rw [hn1]
      exact Ok.some_of ((ways_is (nn xs) hl [0, 2, 3, 4] (by decide) (by decide)).mono fun r hr => hr.2 (acyc hA _ (by decide)))
    have hY : order_Run_Synced [xs] = some true := by
      unfold order_Run_Synced
      rw [hn2]
      refine Ok.some_of ((ways_is [] (by simp) [1, 2, 3, 4] (by decide) (by decide)).mono fun r hr => hr.2 ?_)
      rintro ⟨i, hi⟩
      cases hi with
      | one h => exact absurd h.1 (by simp)
      | cons h _ => exact absurd h.1 (by simp)
    obtain ⟨r, hr1, H, rfl, hH⟩ := hb_is (nn xs) hl [xs]
    have hK : order_Run_Consistent [xs] = some true := by
      unfold order_Run_Consistent
      rw [hn1]
      simp only [Option.bind_some]
      rw [show order_Run_happens_2 [xs] (nn xs) = some _ from hr1]
      exact Ok.some_of ((Con_l1_is (nn xs) H hl (dst hA)).mono fun r hr => hr.2 fun i k => no_bad hA hH i k)
    have hR : order_Run_Racy [xs] = some false := by
      unfold order_Run_Racy
      rw [hn1]
      simp only [Option.bind_some]
      rw [hr1]
      refine Ok.some_of ((Racy_l1_is (nn xs) hl H).mono fun r hr => ?_)
      cases r with
      | false => rfl
      | true =>
        obtain ⟨i, k, _, hk⟩ := hr.1 rfl
        exact absurd hk (no_race hA i k)
    have hP : order_Run_Apart [xs] = some true := by
      unfold order_Run_Apart
      rw [hn3]
      simp only [Option.bind_some]
      rw [sort_nil]
      simp only [Option.bind_some]
      unfold order_Run_Apart_l1
      rw [loopO_eq]
      rfl
    rw [hS, hC, hY, hK, hR, hP]
    exact .ret rfl
end Go.Vm.GO21
