/-
 A window's questions: none of them fails.
-/
import Derived.Test.YtlcjnalocidldaaDoorEKB
import Derived.Test.YtlcjnalocidldaaDoorEKS3
set_option linter.unusedSimpArgs false
set_option linter.unusedVariables false
namespace Go.Vm.K17
open Go
abbrev Tt {α : Type} (o : Option α) : Prop := Ok o (fun _ => True)
theorem Tt.r {α : Type} (x : α) : Tt (some x) := ⟨x, rfl, trivial⟩
theorem Ok.t {α : Type} {o : Option α} {P : α → Prop} (h : Ok o P) : Tt o := h.mono fun _ _ => trivial
def Rg (i : TInst) : Prop := (0 ≤ i.d ∧ i.d < 32) ∧ (0 ≤ i.a ∧ i.a < 32) ∧ (0 ≤ i.b ∧ i.b < 32)
theorem rd_rg (w j : Nat) : Rg (rd w j) := by
 unfold rd Rg
 split <;> refine ⟨⟨?_, ?_⟩, ⟨?_, ?_⟩, ⟨?_, ?_⟩⟩ <;> simp only <;> omega
theorem dec_ok {x : Int} (h : InR .u32 x) : Ok (isa_Decode x) (fun r => Rg r.1) := by
 obtain ⟨w, rfl, hw⟩ := u32n' h
 rcases decode hw with ⟨j, _, _, _, h, _⟩ | ⟨_, h, _⟩
 ·exact ⟨_, h, rd_rg w j⟩
 ·exact ⟨_, h, ⟨by decide, by decide⟩, ⟨by decide, by decide⟩, ⟨by decide, by decide⟩⟩
theorem wr3 (b : Bool) : Ok (isa_Writes_k3 b) (fun r => r = -1 ∨ r = 33) := .ite (fun _ => ⟨_, rfl, .inr rfl⟩) (fun _ => ⟨_, rfl, .inl rfl⟩)
theorem wr2 (i : TInst) (b : Bool) : Ok (isa_Writes_k2 i b) (fun r => r = -1 ∨ r = 32 ∨ r = 33) := by
 have h := fun b => (wr3 b).mono (Q := fun r => r = -1 ∨ r = 32 ∨ r = 33) fun r h => h.imp id .inr
 exact .ite (fun _ => ⟨_, rfl, .inr (.inl rfl)⟩) (fun _ => .ite (fun _ => h _) (fun _ => h _))
theorem wr1 (i : TInst) (b : Bool) : Ok (isa_Writes_k1 i b) (fun r => r = -1 ∨ r = i.d ∨ r = 32 ∨ r = 33) := by
 have h := fun b => (wr2 i b).mono (Q := fun r => r = -1 ∨ r = i.d ∨ r = 32 ∨ r = 33) fun r h => h.imp id .inr
 exact .ite (fun _ => ⟨_, rfl, .inr (.inl rfl)⟩) (fun _ => .ite (fun _ => h _) (fun _ => .ite (fun _ => h _) (fun _ => h _)))
theorem wr_ok (i : TInst) : Ok (isa_Writes i) (fun r => r = -1 ∨ r = i.d ∨ r = 32 ∨ r = 33) := by
 have h := wr1 i
 exact .ite (fun _ => h _) (fun _ => .ite (fun _ => h _) (fun _ => .ite (fun _ => h _) (fun _ => .ite (fun _ => h _) (fun _ => .ite (fun _ => h _) (fun _ => .ite (fun _ => h _) (fun _ => .ite (fun _ => h _) (fun _ => h _)))))))
theorem res_ok (s : TSlot) : Tt (window_result s) := .ite (fun _ => Tt.r _) (fun _ => .ite (fun _ => Tt.r _) (fun _ => Tt.r _))
theorem mem_ok (x : Int) : Tt (window_memory x) := by
 unfold window_memory window_load window_store
 simp only [Option.bind_some]
 exact Ok.bind (P := fun _ => True) (.ite (fun _ => Tt.r _) (fun _ => Tt.r _)) fun _ _ => Tt.r _
theorem div_ok (x y : Int) : Tt (window_divide x y) := by
 unfold window_divide
 refine .ite (fun _ => Tt.r _) (fun h1 => .ite (fun _ => Tt.r _) (fun h2 => ?_))
 unfold quoO
 rw [if_neg (by simpa using h1)]
 exact Tt.r _
theorem ord_ok (x y : Int) : Tt (window_order x y) := .ite (fun _ => Tt.r _) (fun _ => .ite (fun _ => Tt.r _) (fun _ => Tt.r _))
theorem inA_ok {n : Nat} {i : Int} (h0 : 0 ≤ i) (h1 : i < n) : Tt (inA n i) := ⟨i.toNat, if_pos ⟨h0, h1⟩, trivial⟩
theorem cut_ok {α : Type} {xs : List α} {k : Int} (h0 : 0 ≤ k) (h1 : k ≤ xs.length) : cutL xs 0 k = some (xs.take k.toNat) := by
 unfold cutL
 rw [if_pos ⟨by omega, h0, h1⟩]
 simp
theorem loop_down {ρ : Type} {B : Int → Option (Int ⊕ ρ)} {P : ρ → Prop} (k : Int) (h0 : 0 ≤ k) (hk : k ≤ 1000000) (step : ∀ j : Int, 0 ≤ j → j < k → Ok (B j) (Sum.elim (fun s => s = w64 (j - 1)) P)) (fin : Ok (B (-1)) (Sum.elim (fun _ => False) P)) : Ok (loopO B (w64 (k - 1))) P := by
 refine Ok.loop (fun m s => s = k - 1 - (m : Int)) k.toNat (fun m s hm hs => ?_) (fun s hs => ?_) (by rw [w64_id (by omega) (by omega)]; simp)
 ·subst hs
  refine (step _ (by omega) (by omega)).mono fun x hx => ?_
  cases x with
  | inl s' => show s' = _; rw [show s' = _ from hx, w64_id (by omega) (by omega)]; omega
  | inr r => exact hx
 ·subst hs
  have : k - 1 - (k.toNat : Int) = -1 := by omega
  rw [this]; exact fin
theorem any_loop {c : TSlot → Option Bool} {B : Int → Option (Int ⊕ Int)} {f : TSlot → Bool} (xs : List TSlot) (hl : xs.length ≤ 1000)
  (hB : ∀ s, B s = if decide (s < (xs.length : Int)) then (ix xs s).bind fun y => (c y).bind fun b => if b then (some s).map Sum.inr else some (Sum.inl (w64 (s + 1))) else (some (-1)).map Sum.inr)
  (hc : ∀ x ∈ xs, c x = some (f x)) : ((loopO B 0).bind fun x => some (decide (0 ≤ x))) = some (xs.any f) := by
 have h : Ok (loopO B 0) (fun r => (0 ≤ r ↔ xs.any f = true)) := by
  refine Ok.loop (fun k s => s = (k : Int) ∧ (xs.take k).any f = false) xs.length (fun k s hk hs => ?_) (fun s hs => ?_) ⟨rfl, rfl⟩
  ·obtain ⟨rfl, hs⟩ := hs
   rw [hB, if_pos (decide_eq_true (by omega)), ix_some hk, Option.bind_some, hc _ (List.getElem_mem hk), Option.bind_some]
   refine .ite (fun h => ⟨_, rfl, ?_⟩) (fun h => ⟨_, rfl, w64_succ (by omega), ?_⟩)
   ·exact ⟨fun _ => List.any_eq_true.2 ⟨_, List.getElem_mem hk, h⟩, fun _ => by omega⟩
   ·rw [List.take_add_one, List.any_append, hs, List.getElem?_eq_getElem hk]
    simp [h]
  ·obtain ⟨rfl, hs⟩ := hs
   rw [List.take_length] at hs
   rw [hB, if_neg (by simp)]
   exact ⟨_, rfl, by rw [hs]; simp⟩
 obtain ⟨r, h1, h2⟩ := h
 rw [h1, Option.bind_some]
 congr 1
 rw [Bool.eq_iff_iff, decide_eq_true_iff]
 exact h2
theorem any_ok {c : TSlot → Option Bool} {B : Int → Option (Int ⊕ Int)} (xs : List TSlot) (hl : xs.length ≤ 1000)
  (hB : ∀ s, B s = if decide (s < (xs.length : Int)) then (ix xs s).bind fun y => (c y).bind fun b => if b then (some s).map Sum.inr else some (Sum.inl (w64 (s + 1))) else (some (-1)).map Sum.inr)
  (hc : ∀ x ∈ xs, Tt (c x)) : Tt ((loopO B 0).bind fun x => some (decide (0 ≤ x))) :=
 ⟨_, any_loop (f := fun x => (c x).getD false) xs hl hB (fun x hx => by obtain ⟨b, h, _⟩ := hc x hx; rw [h]; rfl), trivial⟩
structure SL (xs : List TSlot) : Prop where
 len : xs.length ≤ 1000
 rg : ∀ s ∈ xs, Rg s.i
theorem SL.at {xs : List TSlot} (h : SL xs) {k : Int} {s : TSlot} (hs : xs[k.toNat]? = some s) : Rg s.i := h.rg s (List.mem_of_getElem? hs)
theorem SL.set {xs : List TSlot} (h : SL xs) {j : Nat} {y : TSlot} (hy : Rg y.i) : SL (xs.set j y) := ⟨by rw [List.length_set]; exact h.len, fun s hs => by
 rcases List.mem_or_eq_of_mem_set hs with h1 | h1
 ·exact h.rg s h1
 ·rw [h1]; exact hy⟩
theorem SL.sub {xs ys : List TSlot} (h : SL xs) (hl : ys.length ≤ xs.length) (hm : ∀ s ∈ ys, s ∈ xs) : SL ys := ⟨Nat.le_trans hl h.len, fun s hs => h.rg s (hm s hs)⟩
theorem SL.take {xs : List TSlot} (h : SL xs) (k : Nat) : SL (xs.take k) := h.sub (by rw [List.length_take]; omega) fun s hs => List.mem_of_mem_take hs
structure ST (t : Int) (S : Tstorage_Storage) : Prop where
 acked : ∀ n, Tt (storage_Storage_Acked S n)
 read : ∀ p, Tt (storage_Storage_Read S t p)
section
variable {W : Twindow_Window} {S : Tstorage_Storage} {k t : Int}
theorem reg_ok (h : SL W.slots) (h0 : 0 ≤ k) (h1 : k ≤ W.slots.length) {r : Int} (hr : 0 ≤ r ∧ r < 34) : Tt (window_Window_reg W k r) := by
 have hl := h.len
 unfold window_Window_reg window_Window_reg_l1
 refine loop_down k h0 (by omega) (fun j hj hk => ?_) ?_
 ·unfold window_Window_reg_l1b window_Window_reg_k1
  refine .ite (fun _ => (Ok.ix hj (by omega)).bind fun x hx => (wr_ok x.i).bind fun w _ => .ite (fun _ => (res_ok x).bind fun y _ => ?_) (fun _ => ⟨_, rfl, rfl⟩)) (fun hf => by simp at hf; omega)
  refine .ite (fun _ => .ite (fun _ => ⟨_, rfl, trivial⟩) (fun _ => ⟨_, rfl, trivial⟩)) (fun _ => ⟨_, rfl, trivial⟩)
 ·unfold window_Window_reg_l1b
  rw [if_neg (by decide)]
  exact .map ((inA_ok hr.1 hr.2).bind fun x _ => Tt.r _)
theorem base_ok (h : SL W.slots) (h0 : 0 ≤ k) (h1 : k ≤ W.slots.length) {r : Int} (hr : 0 ≤ r ∧ r < 34) : Tt (window_Window_base W k r) := by
 unfold window_Window_base
 exact .ite (fun _ => Tt.r _) (fun _ => (reg_ok h h0 h1 hr).bind fun _ _ => Tt.r _)
theorem Rg.d {i : TInst} (h : Rg i) : 0 ≤ i.d ∧ i.d < 34 := ⟨h.1.1, by have := h.1.2; omega⟩
theorem Rg.a {i : TInst} (h : Rg i) : 0 ≤ i.a ∧ i.a < 34 := ⟨h.2.1.1, by have := h.2.1.2; omega⟩
theorem Rg.b {i : TInst} (h : Rg i) : 0 ≤ i.b ∧ i.b < 34 := ⟨h.2.2.1, by have := h.2.2.2; omega⟩
theorem place_ok (h : SL W.slots) (h0 : 0 ≤ k) (h1 : k < W.slots.length) : Tt (window_Window_place W k) := by
 unfold window_Window_place
 refine (Ok.ix h0 h1).bind fun x hx => ?_
 have hg := h.at hx
 refine .ite (fun _ => (base_ok h h0 (by omega) hg.a).bind fun _ _ => (reg_ok h h0 (by omega) hg.b).bind fun _ _ => Tt.r _) (fun _ => (base_ok h h0 (by omega) hg.a).bind fun _ _ => Tt.r _)
theorem known_ok (h : SL W.slots) (h0 : 0 ≤ k) (h1 : k ≤ W.slots.length) : Tt (window_Window_known W k) := by
 have hl := h.len
 unfold window_Window_known
 rw [cut_ok h0 h1, Option.bind_some]
 have ht : (W.slots.take k.toNat).length ≤ W.slots.length := by rw [List.length_take]; omega
 unfold window_Window_known_l1
 refine loop_all (W.slots.take k.toNat) (by omega) (fun j x hx => ?_) ?_
 ·have hj := (List.getElem?_eq_some_iff.1 hx).1
  unfold window_Window_known_l1b
  refine .ite (fun _ => (Ok.ix (by omega) (by omega)).bind fun y _ => (place_ok h (by omega) (by omega)).bind fun p _ => (mem_ok _).bind fun q _ => .ite (fun _ => ⟨_, rfl, trivial⟩) (fun _ => ⟨_, rfl, rfl⟩)) (fun hf => by simp at hf hj; omega)
 ·unfold window_Window_known_l1b
  rw [if_neg (by simp)]
  exact ⟨_, rfl, trivial⟩
theorem waits_ok (h : SL W.slots) (h0 : 0 ≤ k) (h1 : k ≤ W.slots.length) (p : Int) : Ok (window_Window_waits W k p) (fun r => r.2 = true → 0 ≤ r.1 ∧ r.1 < k) := by
 have hl := h.len
 unfold window_Window_waits window_Window_waits_l1
 refine loop_down k h0 (by omega) (fun j hj hk => ?_) ?_
 ·unfold window_Window_waits_l1b
  refine .ite (fun _ => (Ok.ix hj (by omega)).bind fun x _ => (place_ok h hj (by omega)).bind fun y _ => (mem_ok _).bind fun q _ => .ite (fun _ => ⟨_, rfl, fun _ => ⟨hj, hk⟩⟩) (fun _ => ⟨_, rfl, rfl⟩)) (fun hf => by simp at hf; omega)
 ·unfold window_Window_waits_l1b
  rw [if_neg (by decide)]
  exact ⟨_, rfl, fun h => by cases h⟩
theorem passed_ok (hS : ST t S) (s : TSlot) : Tt (window_passed s S) := by
 unfold window_passed window_fence
 rw [Option.bind_some]
 refine Ok.bind (P := fun _ => True) (.ite (fun _ => Tt.r _) (fun _ => Ok.bind (P := fun _ => True) (.ite (fun _ => Ok.bind (P := fun _ => True) (.ite (fun _ => Tt.r _) (fun _ => (hS.acked _).bind fun _ _ => Tt.r _)) fun _ _ => Tt.r _) (fun _ => Tt.r _)) fun _ _ => Tt.r _)) fun _ _ => Tt.r _
theorem c3_ok (hS : ST t S) (xs : List TSlot) (h : xs.length ≤ 1000) : Tt (slices_ContainsFunc_3 xs S) :=
 any_ok (c := fun x => window_Window_fenced_c1 x S) xs h (fun _ => rfl) fun x _ => (passed_ok hS x).bind fun _ _ => Tt.r _
theorem fenced_ok (hS : ST t S) (h : SL W.slots) (h0 : 0 ≤ k) (h1 : k ≤ W.slots.length) : Tt (window_Window_fenced W k S) := by
 unfold window_Window_fenced
 rw [cut_ok h0 h1, Option.bind_some]
 exact (c3_ok hS _ (h.take _).len).bind fun _ _ => Tt.r _
theorem c1_is (xs : List TSlot) (h : xs.length ≤ 1000) : slices_ContainsFunc xs = some (xs.any fun s => decide (s.i.op = 21)) :=
 any_loop (c := window_Window_MayFetch_c1) xs h (fun _ => rfl) fun x _ => rfl
theorem c2_is (xs : List TSlot) (h : xs.length ≤ 1000) : slices_ContainsFunc_2 xs = some (xs.any fun s => (decide (s.i.op = 10)) && (!s.committed)) :=
 any_loop (c := window_Window_MayCommit_c1) xs h (fun _ => rfl) fun x _ => rfl
theorem c4_is (xs : List TSlot) (h : xs.length ≤ 1000) : slices_ContainsFunc_4 xs = some (xs.any fun s => !s.committed) :=
 any_loop (c := window_Window_MayCommit_c2) xs h (fun _ => rfl) fun x _ => rfl
theorem c5_ok (xs : List TSlot) (h : xs.length ≤ 1000) : Tt (slices_ContainsFunc_5 xs) :=
 any_ok (c := window_Window_MayCommit_c3) xs h (fun _ => rfl) fun x _ => (mem_ok _).bind fun _ _ => Tt.r _
theorem c6_ok (xs : List TSlot) (h : xs.length ≤ 1000) : Tt (slices_ContainsFunc_6 xs) :=
 any_ok (c := window_Window_MayCommit_c4) xs h (fun _ => rfl) fun x _ => Tt.r _
theorem source_ok (hS : ST W.t S) (h : SL W.slots) (h0 : 0 ≤ k) (h1 : k < W.slots.length) : Tt (window_Window_source W k S) := by
 have hl := h.len
 unfold window_Window_source
 refine (place_ok h h0 h1).bind fun p _ => ?_
 refine Ok.bind (P := fun _ => True) (.ite (fun _ => Tt.r _) (fun _ => (fenced_ok hS h h0 (by omega)).bind fun _ _ => Tt.r _)) fun _ _ => ?_
 refine Ok.bind (P := fun _ => True) (.ite (fun _ => Tt.r _) (fun _ => (known_ok h h0 (by omega)).bind fun _ _ => Tt.r _)) fun _ _ => ?_
 refine .ite (fun _ => Tt.r _) (fun _ => (waits_ok h h0 (by omega) _).bind fun w hw => .ite (fun _ => (hS.read _).bind fun _ _ => Tt.r _) (fun hn => ?_))
 have hw := hw (by simpa using hn)
 refine (Ok.ix hw.1 (by omega)).bind fun x _ => (Ok.ix h0 h1).bind fun y _ => .ite (fun _ => Tt.r _) (fun _ => .ite (fun _ => Tt.r _) (fun _ => ?_))
 unfold window_Window_source_l1
 refine loop_down w.1 hw.1 (by omega) (fun j hj hk => ?_) ?_
 ·unfold window_Window_source_l1b window_Window_source_k1
  refine .ite (fun _ => (Ok.ix hj (by omega)).bind fun x _ => (place_ok h hj (by omega)).bind fun y _ => Ok.bind (P := fun _ => True) (.ite (fun _ => Tt.r _) (fun _ => (mem_ok _).bind fun _ _ => Tt.r _)) fun b _ => ?_) (fun hf => by simp at hf; omega)
  exact .ite (fun _ => ⟨_, rfl, rfl⟩) (fun _ => .ite (fun _ => ⟨_, rfl, trivial⟩) (fun _ => .ite (fun _ => ⟨_, rfl, trivial⟩) (fun _ => ⟨_, rfl, rfl⟩)))
 ·unfold window_Window_source_l1b
  rw [if_neg (by decide)]
  exact .map ((hS.read _).bind fun _ _ => Tt.r _)
theorem reckon_ok (h : SL W.slots) (h0 : 0 ≤ k) (h1 : k < W.slots.length) : Tt (window_Window_reckon W k) := by
 unfold window_Window_reckon
 refine (Ok.ix h0 h1).bind fun x hx => ?_
 have hg := h.at hx
 have hk : k ≤ W.slots.length := by omega
 refine .ite (fun _ => (base_ok h h0 hk hg.a).bind fun _ _ => Tt.r _) (fun _ => ?_)
 have go : ∀ b : Bool, (b = true → 4 ≤ x.i.op ∧ x.i.op ≤ 8) → Tt (window_Window_reckon_k1 W k x b) := by
  intro b hb
  unfold window_Window_reckon_k1
  refine .ite (fun hbt => (reg_ok h h0 hk hg.a).bind fun y _ => (reg_ok h h0 hk hg.b).bind fun z _ => (div_ok _ _).bind fun _ _ => (ord_ok _ _).bind fun _ _ => ?_) (fun _ => ?_)
  ·have := hb hbt
   have e4 : w64 (x.i.op - 4) = x.i.op - 4 := w64_id (by omega) (by omega)
   rw [e4]
   exact (Ok.ix (by omega) (by simp; omega)).bind fun _ _ => Tt.r _
  ·refine .ite (fun _ => (reg_ok h h0 hk hg.a).bind fun _ _ => (ord_ok _ _).bind fun _ _ => Tt.r _) (fun _ => .ite (fun _ => (reg_ok h h0 hk ⟨by decide, by decide⟩).bind fun _ _ => Tt.r _) (fun _ => .ite (fun _ => (reg_ok h h0 hk ⟨by decide, by decide⟩).bind fun _ _ => Tt.r _) (fun _ => (reg_ok h h0 hk hg.d).bind fun _ _ => Tt.r _)))
 refine .ite (fun e => go _ fun _ => ?_) (fun _ => .ite (fun e => go _ fun _ => ?_) (fun _ => .ite (fun e => go _ fun _ => ?_) (fun _ => .ite (fun e => go _ fun _ => ?_) (fun _ => go _ fun e => ?_)))) <;> (have := of_decide_eq_true e; omega)
theorem mayExec_ok (hS : ST W.t S) (h : SL W.slots) : Ok (window_Window_MayExec W k S) (fun r => r = true → 0 ≤ k ∧ k < W.slots.length) := by
 unfold window_Window_MayExec window_Window_slot
 rw [Option.bind_some]
 by_cases hk : 0 ≤ k ∧ k < W.slots.length
 ·obtain ⟨h0, h1⟩ := hk
  refine Ok.mono (P := fun _ => True) ?_ fun _ _ _ => ⟨h0, h1⟩
  refine Ok.bind (P := fun _ => True) (.ite (fun _ => Tt.r _) (fun _ => (Ok.ix h0 h1).bind fun _ _ => Tt.r _)) fun _ _ => .ite (fun _ => Tt.r _) (fun _ => (Ok.ix h0 h1).bind fun x hx => ?_)
  unfold window_load window_store
  rw [Option.bind_some, Option.bind_some]
  refine .ite (fun _ => (source_ok hS h h0 h1).bind fun _ _ => Tt.r _) (fun _ => .ite (fun _ => (place_ok h h0 h1).bind fun _ _ => (Ok.ix h0 h1).bind fun y hy => (reg_ok h h0 (by omega) (h.at hy).d).bind fun _ _ => Tt.r _) (fun _ => (reckon_ok h h0 h1).bind fun _ _ => Tt.r _))
 ·have : ((decide (0 ≤ k)) && (decide (k < (W.slots.length : Int)))) = false := by rw [Bool.eq_false_iff]; simpa using hk
  rw [this]
  exact ⟨false, rfl, fun h => by cases h⟩
theorem mayCommit_ok (hS : ST t S) (h : SL W.slots) {yes : Bool} : Ok (window_Window_MayCommit W k yes S) (fun r => r = true → 0 ≤ k ∧ k < W.slots.length) := by
 unfold window_Window_MayCommit window_Window_slot
 rw [Option.bind_some]
 by_cases hk : 0 ≤ k ∧ k < W.slots.length
 ·obtain ⟨h0, h1⟩ := hk
  have h1' : k ≤ W.slots.length := by omega
  have hl := (h.take k.toNat).len
  refine Ok.mono (P := fun _ => True) ?_ fun _ _ _ => ⟨h0, h1⟩
  refine Ok.bind (P := fun _ => True) (.ite (fun _ => Tt.r _) (fun _ => (Ok.ix h0 h1).bind fun _ _ => Tt.r _)) fun _ _ => ?_
  refine Ok.bind (P := fun _ => True) (.ite (fun _ => Tt.r _) (fun _ => (Ok.ix h0 h1).bind fun _ _ => Tt.r _)) fun _ _ => ?_
  refine .ite (fun _ => Tt.r _) (fun _ => (Ok.ix h0 h1).bind fun x hx => ?_)
  rw [cut_ok h0 h1', Option.bind_some, c2_is _ hl, Option.bind_some]
  have f : Tt (window_Window_fenced W k S) := fenced_ok hS h h0 h1'
  have kn : Tt (window_Window_known W k) := known_ok h h0 h1'
  refine .ite (fun _ => Tt.r _) (fun _ => .ite (fun _ => ?_) (fun _ => .ite (fun _ => ?_) (fun _ => .ite (fun _ => ?_) (fun _ => ?_))))
  ·refine f.bind fun _ _ => Ok.bind (P := fun _ => True) (.ite (fun _ => ?_) (fun _ => Tt.r _)) fun _ _ => Tt.r _
   rw [c4_is _ hl]; exact Tt.r _
  ·exact f.bind fun _ _ => Ok.bind (P := fun _ => True) (.ite (fun _ => (c5_ok _ hl).bind fun _ _ => Tt.r _) (fun _ => Tt.r _)) fun _ _ => Tt.r _
  ·exact f.bind fun _ _ => Ok.bind (P := fun _ => True) (.ite (fun _ => kn.bind fun _ _ => Tt.r _) (fun _ => Tt.r _)) fun _ _ => Tt.r _
  ·refine (mem_ok _).bind fun _ _ => .ite (fun _ => (waits_ok h h0 h1' _).bind fun w _ => ?_) (fun _ => Tt.r _)
   refine Ok.bind (P := fun _ => True) (.ite (fun _ => Tt.r _) (fun _ => f.bind fun _ _ => Tt.r _)) fun _ _ => ?_
   refine Ok.bind (P := fun _ => True) (.ite (fun _ => Tt.r _) (fun _ => kn.bind fun _ _ => Tt.r _)) fun _ _ => ?_
   refine .ite (fun _ => Tt.r _) (fun _ => .ite (fun _ => (c6_ok _ hl).bind fun _ _ => ?_) (fun _ => Tt.r _))
   unfold window_Window_MayCommit_k2 storage_Storage_Last
   exact .ite (fun _ => .ite (fun _ => Tt.r _) (fun _ => .ite (fun _ => .ite (fun _ => Tt.r _) (fun _ => Tt.r _)) (fun _ => Tt.r _))) (fun _ => Tt.r _)
 ·have : ((decide (0 ≤ k)) && (decide (k < (W.slots.length : Int)))) = false := by rw [Bool.eq_false_iff]; simpa using hk
  rw [this]
  exact ⟨false, rfl, fun h => by cases h⟩
end
end Go.Vm.K17
