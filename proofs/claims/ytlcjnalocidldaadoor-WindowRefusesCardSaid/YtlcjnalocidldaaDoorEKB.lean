/-
 Plain laws, one behind the other.
-/
import Derived.Test.YtlcjnalocidldaaDoorEKA
import Derived.Test.YtlcjnalocidldaaDoorEOK17
set_option linter.unusedSimpArgs false
set_option linter.unusedVariables false
namespace Go.Vm.K17
open Go
section
def fr (n : Nat) : List Int := [((n / 16777216 : Nat) : Int), ((n / 65536 % 256 : Nat) : Int), ((n / 256 % 256 : Nat) : Int), ((n % 256 : Nat) : Int)]
def NG' (k : TNote) : Prop := 0 ≤ k.role ∧ k.role ≤ 6 ∧ 0 ≤ k.what ∧ k.what ≤ 5
end
section
structure GF (i : TImage) : Prop where
 nl : i.notes.length = i.code.length
 c1 : 1 ≤ i.code.length
 c2 : i.code.length ≤ 8000
 t8 : i.threads.length ≤ 8
 nt : ∀ n ∈ i.notes, NG' n
 th : ∀ t ∈ i.threads, 0 ≤ t ∧ t < (i.code.length : Int)
theorem u32n' {x : Int} (h : InR .u32 x) : ∃ n : Nat, x = (n : Int) ∧ n < 4294967296 := by
 unfold InR Lit.wf at h
 simp [IntKind.min, IntKind.max, IntKind.signed, IntKind.bits] at h
 exact ⟨x.toNat, by omega, by omega⟩
theorem fits_ok (q : TInst) (n : TNote) : ∃ f, image_fits q n = some f := by
 unfold image_fits
 repeat' split
 all_goals exact ⟨_, rfl⟩
theorem good_note (n : TNote) : ∃ g, image_good n = some g ∧ (g = true → NG' n) := by
 unfold image_good
 by_cases h1 : n.role < 0 ∨ 6 < n.role
 ·exact ⟨_, if_pos (by simp; exact h1), fun h => by cases h⟩
 ·rw [if_neg (by simp; omega)]
  by_cases h2 : n.role = 2
  ·refine ⟨_, if_pos (by simp; exact h2), fun h => ?_⟩
   simp at h
   exact ⟨by omega, by omega, by omega, by omega⟩
  ·refine ⟨_, if_neg (by simp; exact h2), fun h => ?_⟩
   simp at h
   exact ⟨by omega, by omega, by omega, by omega⟩
theorem good_threads (i : TImage) (hn : i.threads.length ≤ 8) : Ok (image_Good_l2 i 0) (fun r => r = true → ∀ t ∈ i.threads, 0 ≤ t ∧ t < (i.code.length : Int)) := by
 unfold image_Good_l2
 refine Ok.loop (fun k s => s = (k : Int) ∧ ∀ t ∈ i.threads.take k, 0 ≤ t ∧ t < (i.code.length : Int)) i.threads.length (fun k s hk hs => ?_) (fun s hs => ?_) ⟨rfl, by simp⟩
 ·obtain ⟨rfl, hs⟩ := hs
  show Ok (image_Good_l2b i (k : Int)) _
  unfold image_Good_l2b
  rw [if_pos (decide_eq_true (by omega)), ix_nat, List.getElem?_eq_getElem hk, Option.bind_some]
  by_cases h : i.threads[k] < 0 ∨ (i.code.length : Int) ≤ i.threads[k]
  ·rw [if_pos (by simp; exact h)]
   exact ⟨_, rfl, fun h => by cases h⟩
  ·rw [if_neg (by simp; omega)]
   refine ⟨_, rfl, w64_succ (by omega), fun t ht => ?_⟩
   rcases (mem_take_succ hk).1 ht with h3 | h3
   ·exact hs t h3
   ·rw [h3]; omega
 ·obtain ⟨rfl, hs⟩ := hs
  rw [List.take_length] at hs
  show Ok (image_Good_l2b i (i.threads.length : Int)) _
  unfold image_Good_l2b
  rw [if_neg (by simp)]
  exact ⟨_, rfl, fun _ => hs⟩
theorem good_i (i : TImage) (o : OK_TImage i) : Ok (image_Good i) (fun r => r = true → GF i) := by
 unfold image_Good
 by_cases h0 : (i.code.length : Int) = 0 ∨ 8000 < (i.code.length : Int) ∨ (i.notes.length : Int) ≠ (i.code.length : Int) ∨ 8 < (i.threads.length : Int)
 ·rw [if_pos (by simp only [Bool.or_eq_true, decide_eq_true_eq]; omega)]
  exact ⟨_, rfl, fun h => by cases h⟩
 ·rw [if_neg (by simp only [Bool.or_eq_true, decide_eq_true_eq]; omega)]
  have hnl : i.notes.length = i.code.length := by omega
  unfold image_Good_l1
  refine Ok.loop (fun k s => s = (k : Int) ∧ ∀ n ∈ i.notes.take k, NG' n) i.code.length (fun k s hk hs => ?_) (fun s hs => ?_) ⟨rfl, by simp⟩
  ·obtain ⟨rfl, hs⟩ := hs
   have hk2 : k < i.notes.length := by omega
   show Ok (image_Good_l1b i (k : Int)) _
   unfold image_Good_l1b image_Good_k1
   rw [if_pos (decide_eq_true (by omega)), ix_nat, List.getElem?_eq_getElem hk, Option.bind_some]
   obtain ⟨w, hw, hw2⟩ := u32n' (o.1.1 _ (List.getElem_mem hk))
   rw [hw]
   have hd : ∃ d, isa_Decode (w : Int) = some d := by
    rcases decode hw2 with ⟨j, _, _, _, h, _⟩ | ⟨_, h, _⟩
    ·exact ⟨_, h⟩
    ·exact ⟨_, h⟩
   obtain ⟨d, hd⟩ := hd
   rw [hd, Option.bind_some, ix_nat, List.getElem?_eq_getElem hk2]
   obtain ⟨g, hg, hng⟩ := good_note i.notes[k]
   obtain ⟨f, hf⟩ := fits_ok d.1 i.notes[k]
   simp only [Option.bind_some]
   rw [hg, hf]
   simp only [Option.bind_some]
   have go : ∀ b : Bool, (b = false → g = true) → Ok (if b = true then (some false).map Sum.inr else if (((decide (d.1.op = 11)) || (decide (d.1.op = 12))) || (decide (d.1.op = 10))) && ((decide ((w64 ((k : Int) + d.1.imm)) < 0)) || (decide ((i.code.length : Int) ≤ (w64 ((k : Int) + d.1.imm))))) then (some false).map Sum.inr else some (Sum.inl (w64 ((k : Int) + 1)))) (Sum.elim (fun s => s = ((k + 1 : Nat) : Int) ∧ ∀ n ∈ i.notes.take (k + 1), NG' n) (fun r : Bool => r = true → GF i)) := by
    intro b hb
    refine .ite (fun _ => ⟨_, rfl, fun h => by cases h⟩) (fun hbf => .ite (fun _ => ⟨_, rfl, fun h => by cases h⟩) (fun _ => ⟨_, rfl, w64_succ (by omega), fun n hn => ?_⟩))
    rcases (mem_take_succ hk2).1 hn with h3 | h3
    ·exact hs n h3
    ·rw [h3]; exact hng (hb hbf)
   by_cases he : d.2 = 0
   ·rw [if_neg (by simp; exact he)]
    cases g with
    | true =>
     rw [if_neg (by decide)]
     exact go _ (fun _ => rfl)
    | false =>
     rw [if_pos (by decide)]
     exact go true (fun h => by cases h)
   ·rw [if_pos (by simp; exact he)]
    exact go true (fun h => by cases h)
  ·obtain ⟨rfl, hs⟩ := hs
   show Ok (image_Good_l1b i (i.code.length : Int)) _
   unfold image_Good_l1b
   rw [if_neg (by simp)]
   refine .map ((good_threads i (by omega)).mono fun r hr h => ?_)
   rw [← hnl, List.take_length] at hs
   exact ⟨hnl, by omega, by omega, by omega, hs, hr h⟩
end
def cnd2 (f : Bool) (n : TNote) : Bool := ((!f) || ((decide (n.role = 2)) && ((decide (n.what < 1)) || (decide (5 < n.what))))) || ((decide (n.role ≠ 2)) && (((decide (n.what ≠ 0)) || n.volatile) || n.final))
theorem l2_fin (k : Int) (n : TNote) (xs : List Int) (f : Bool) : ref15_Good_l2 k n xs f (xs.length : Int) = if cnd2 f n then some (.inr false) else some (.inl (w64 (k + 1))) := by
 unfold ref15_Good_l2
 rw [loopO_eq]
 show (ref15_Good_l2b k n xs f (xs.length : Int)).bind _ = _
 unfold ref15_Good_l2b
 rw [if_neg (by simp)]
 show ((if cnd2 f n then (some false).map Sum.inr else some (Sum.inl (w64 (k + 1)))).map Sum.inr).bind _ = _
 cases cnd2 f n <;> rfl
theorem l2_1 (k : Int) (n : TNote) (a : Int) : ref15_Good_k1 k n [a] = if cnd2 (decide (a = n.role)) n then some (.inr false) else some (.inl (w64 (k + 1))) := by
 have h : ref15_Good_l2 k n [a] false 0 = ref15_Good_l2 k n [a] (false || decide (a = n.role)) 1 := loop_step rfl
 unfold ref15_Good_k1
 rw [h, Bool.false_or]
 exact l2_fin k n [a] _
theorem l2_3 (k : Int) (n : TNote) (a b c : Int) : ref15_Good_k1 k n [a, b, c] = if cnd2 (decide (a = n.role) || decide (b = n.role) || decide (c = n.role)) n then some (.inr false) else some (.inl (w64 (k + 1))) := by
 have h : ref15_Good_l2 k n [a, b, c] false 0 = ref15_Good_l2 k n [a, b, c] (false || decide (a = n.role)) 1 := loop_step rfl
 have h2 : ref15_Good_l2 k n [a, b, c] (false || decide (a = n.role)) 1 = ref15_Good_l2 k n [a, b, c] ((false || decide (a = n.role)) || decide (b = n.role)) 2 := loop_step rfl
 have h3 : ref15_Good_l2 k n [a, b, c] ((false || decide (a = n.role)) || decide (b = n.role)) 2 = ref15_Good_l2 k n [a, b, c] (((false || decide (a = n.role)) || decide (b = n.role)) || decide (c = n.role)) 3 := loop_step rfl
 unfold ref15_Good_k1
 rw [h, h2, h3, Bool.false_or]
 exact l2_fin k n [a, b, c] _
def nf (q : TInst) (n : TNote) : Bool :=
 if q.op = 1 then !cnd2 (decide (1 = n.role) || decide (2 = n.role) || decide (5 = n.role)) n
 else if q.op = 2 then !cnd2 (decide (1 = n.role) || decide (2 = n.role) || decide (6 = n.role)) n
 else if q.op = 16 then !cnd2 (decide (3 = n.role)) n
 else if q.op = 17 then !cnd2 (decide (4 = n.role)) n
 else !cnd2 (decide (0 = n.role)) n
theorem fin_ {r w : Int} {v fl : Bool} {X Y : Bool} (hXY : X = Y) (hX : X = true → 0 ≤ r ∧ r ≤ 6) :
  ((decide (0 ≤ r ∧ r ≤ 6) && (if r = 2 then decide (1 ≤ w ∧ w ≤ 5) else (decide (w = 0) && (!v && !fl)))) && X) = !(((!Y) || ((decide (r = 2)) && ((decide (w < 1)) || (decide (5 < w))))) || ((decide (r ≠ 2)) && (((decide (w ≠ 0)) || v) || fl))) := by
 subst hXY
 cases X with
 | false => simp
 | true =>
  have hr : decide (0 ≤ r ∧ r ≤ 6) = true := decide_eq_true (hX rfl)
  rw [hr]
  by_cases h2 : r = 2
  ·rw [if_pos h2, decide_eq_true h2]
   simp [h2]
   rw [Bool.eq_iff_iff]
   simp
  ·rw [if_neg h2, decide_eq_false h2]
   simp [h2]
   cases v <;> cases fl <;> simp
theorem nf_is (q : TInst) (n : TNote) : ∃ g f, image_good n = some g ∧ image_fits q n = some f ∧ (g && f) = nf q n := by
 obtain ⟨g, hg, _⟩ := good_note n
 obtain ⟨f, hf⟩ := fits_ok q n
 refine ⟨g, f, hg, hf, ?_⟩
 have hg2 : g = (decide (0 ≤ n.role ∧ n.role ≤ 6) && (if n.role = 2 then decide (1 ≤ n.what ∧ n.what ≤ 5) else (decide (n.what = 0) && (!n.volatile && !n.final)))) := by
  rw [← Option.some.injEq, ← hg]
  unfold image_good
  by_cases h1 : n.role < 0 ∨ 6 < n.role
  ·have hr : decide (0 ≤ n.role ∧ n.role ≤ 6) = false := decide_eq_false (by omega)
   rw [if_pos (by simp; exact h1), hr]; rfl
  ·have hr : decide (0 ≤ n.role ∧ n.role ≤ 6) = true := decide_eq_true (by omega)
   rw [if_neg (by simp; omega), hr, Bool.true_and]
   by_cases h2 : n.role = 2
   ·rw [if_pos (by simp; exact h2), if_pos h2, Bool.decide_and]
   ·rw [if_neg (by simp; exact h2), if_neg h2]
    cases n.volatile <;> cases n.final <;> simp
 have hf2 : f = if q.op = 1 then (decide (n.role = 1) || decide (n.role = 2) || decide (n.role = 5)) else if q.op = 2 then (decide (n.role = 1) || decide (n.role = 2) || decide (n.role = 6)) else if q.op = 16 then decide (n.role = 3) else if q.op = 17 then decide (n.role = 4) else decide (n.role = 0) := by
  rw [← Option.some.injEq, ← hf]
  unfold image_fits
  simp only [decide_eq_true_eq]
  split
  ·rfl
  ·split
   ·rfl
   ·split
    ·rfl
    ·split <;> rfl
 rw [hg2, hf2]
 unfold nf cnd2
 obtain ⟨r, w, v, fl⟩ := n
 simp only
 have c : ∀ a : Int, decide (r = a) = decide (a = r) := fun a => by rw [decide_eq_decide]; exact eq_comm
 by_cases o1 : q.op = 1
 ·rw [if_pos o1, if_pos o1]
  refine fin_ ?_ ?_
  ·rw [c 1, c 2, c 5]
  ·intro h; simp at h; omega
 rw [if_neg o1, if_neg o1]
 by_cases o2 : q.op = 2
 ·rw [if_pos o2, if_pos o2]
  refine fin_ ?_ ?_
  ·rw [c 1, c 2, c 6]
  ·intro h; simp at h; omega
 rw [if_neg o2, if_neg o2]
 by_cases o3 : q.op = 16
 ·rw [if_pos o3, if_pos o3]
  refine fin_ (c 3) ?_
  intro h; simp at h; omega
 rw [if_neg o3, if_neg o3]
 by_cases o4 : q.op = 17
 ·rw [if_pos o4, if_pos o4]
  refine fin_ (c 4) ?_
  intro h; simp at h; omega
 rw [if_neg o4, if_neg o4]
 refine fin_ (c 0) ?_
 intro h; simp at h; omega
theorem loop_same {ρ : Type} {B1 B2 : Int → Option (Int ⊕ ρ)} (n : Nat) (h : ∀ k : Nat, k ≤ n → B1 k = B2 k) (hs : ∀ k : Nat, k < n → ∀ s, B1 k = some (.inl s) → s = ((k + 1 : Nat) : Int)) (he : ∀ s, B1 n ≠ some (.inl s)) :
  ∀ d k : Nat, k + d = n → loopO B1 k = loopO B2 k := by
 intro d
 induction d with
 | zero =>
  intro k hk
  have : k = n := by omega
  subst this
  rw [loopO_eq, loopO_eq B2, ← h k (Nat.le_refl _)]
  cases hb : B1 k with
  | none => rfl
  | some r => cases r with
   | inl s => exact absurd hb (he s)
   | inr r => rfl
 | succ d ih =>
  intro k hk
  rw [loopO_eq, loopO_eq B2, ← h k (by omega)]
  cases hb : B1 k with
  | none => rfl
  | some r => cases r with
   | inl s =>
    have := hs k (by omega) s hb
    subst this
    exact ih (k + 1) (by omega)
   | inr r => rfl
def outB (i : TImage) (k : Nat) (q : TInst) : Bool := (((decide (q.op = 11)) || (decide (q.op = 12))) || (decide (q.op = 10))) && ((decide ((w64 ((k : Int) + q.imm)) < 0)) || (decide ((i.code.length : Int) ≤ (w64 ((k : Int) + q.imm)))))
theorem both_step (i : TImage) (o : OK_TImage i) (hn : i.notes.length = i.code.length) (hc : i.code.length ≤ 8000) (k : Nat) (hk : k < i.code.length) :
  ∃ b : Bool, image_Good_l1b i k = (if b then some (.inl ((k + 1 : Nat) : Int)) else some (.inr false)) ∧ ref15_Good_l1b i k = (if b then some (.inl ((k + 1 : Nat) : Int)) else some (.inr false)) := by
 have hk2 : k < i.notes.length := by omega
 obtain ⟨w, hw, hw2⟩ := u32n' (o.1.1 _ (List.getElem_mem hk))
 have e1 : w64 ((k : Int) + 1) = ((k + 1 : Nat) : Int) := w64_succ (by omega)
 unfold image_Good_l1b image_Good_k1 ref15_Good_l1b
 rw [if_pos (decide_eq_true (by omega)), if_pos (decide_eq_true (by omega)), ix_nat, List.getElem?_eq_getElem hk, Option.bind_some, Option.bind_some, hw, ix_nat, List.getElem?_eq_getElem hk2, e1]
 rcases decode hw2 with ⟨j, h1, h2, h3, h4, h5⟩ | ⟨_, h4, h5⟩
 ·rw [h4, h5, Option.bind_some, Option.bind_some]
  simp only [Option.bind_some]
  generalize rd w j = q
  obtain ⟨g, f, hg, hf, hgf⟩ := nf_is q i.notes[k]
  rw [hg, hf]
  simp only [Option.bind_some]
  have eo : (((decide (10 ≤ q.op)) && (decide (q.op ≤ 12))) && ((decide ((w64 ((k : Int) + q.imm)) < 0)) || (decide ((i.code.length : Int) ≤ (w64 ((k : Int) + q.imm)))))) = outB i k q := by
   unfold outB
   congr 1
   rw [Bool.eq_iff_iff]
   simp
   omega
  have eo2 : ((((decide (q.op = 11)) || (decide (q.op = 12))) || (decide (q.op = 10))) && ((decide ((w64 ((k : Int) + q.imm)) < 0)) || (decide ((i.code.length : Int) ≤ (w64 ((k : Int) + q.imm)))))) = outB i k q := rfl
  rw [eo, eo2]
  have er : (if decide (q.op = 1) then ref15_Good_k1 (k : Int) i.notes[k] [1, 2, 5] else if decide (q.op = 2) then ref15_Good_k1 (k : Int) i.notes[k] [1, 2, 6] else if decide (q.op = 16) then ref15_Good_k1 (k : Int) i.notes[k] [3] else if decide (q.op = 17) then ref15_Good_k1 (k : Int) i.notes[k] [4] else ref15_Good_k1 (k : Int) i.notes[k] [0]) = if nf q i.notes[k] then some (.inl ((k + 1 : Nat) : Int)) else some (.inr false) := by
   unfold nf
   simp only [decide_eq_true_eq, l2_1, l2_3, e1]
   have sw : ∀ c : Bool, (if c = true then (some (.inr false) : Option (Int ⊕ Bool)) else some (.inl ((k + 1 : Nat) : Int))) = if (!c) = true then some (.inl ((k + 1 : Nat) : Int)) else some (.inr false) := by intro c; cases c <;> rfl
   by_cases o1 : q.op = 1
   ·rw [if_pos o1, if_pos o1]; exact sw _
   rw [if_neg o1, if_neg o1]
   by_cases o2 : q.op = 2
   ·rw [if_pos o2, if_pos o2]; exact sw _
   rw [if_neg o2, if_neg o2]
   by_cases o3 : q.op = 16
   ·rw [if_pos o3, if_pos o3]; exact sw _
   rw [if_neg o3, if_neg o3]
   by_cases o4 : q.op = 17
   ·rw [if_pos o4, if_pos o4]; exact sw _
   rw [if_neg o4, if_neg o4]
   exact sw _
  rw [er, ← hgf]
  refine ⟨(g && f) && !outB i k q, ?_, ?_⟩
  ·cases g <;> cases f <;> cases outB i k q <;> rfl
  ·cases g <;> cases f <;> cases outB i k q <;> rfl
 ·rw [h4, h5, Option.bind_some, Option.bind_some]
  exact ⟨false, rfl, rfl⟩
theorem good_same (i : TImage) (o : OK_TImage i) : ref15_Good i = image_Good i := by
 unfold ref15_Good image_Good
 have e : ((((decide ((i.code.length : Int) < 1)) || (decide (8000 < (i.code.length : Int)))) || (decide ((i.notes.length : Int) ≠ (i.code.length : Int)))) || (decide (8 < (i.threads.length : Int)))) = ((((decide ((i.code.length : Int) = 0)) || (decide (8000 < (i.code.length : Int)))) || (decide ((i.notes.length : Int) ≠ (i.code.length : Int)))) || (decide (8 < (i.threads.length : Int)))) := by
  have : decide ((i.code.length : Int) < 1) = decide ((i.code.length : Int) = 0) := by rw [decide_eq_decide]; omega
  rw [this]
 rw [e]
 cases hc : ((((decide ((i.code.length : Int) = 0)) || (decide (8000 < (i.code.length : Int)))) || (decide ((i.notes.length : Int) ≠ (i.code.length : Int)))) || (decide (8 < (i.threads.length : Int)))) with
 | true => rfl
 | false =>
  rw [if_neg (by decide), if_neg (by decide)]
  simp only [Bool.or_eq_false_iff, decide_eq_false_iff_not] at hc
  have hn : i.notes.length = i.code.length := by omega
  unfold ref15_Good_l1 image_Good_l1
  refine loop_same i.code.length (fun k hk => ?_) (fun k hk s hs => ?_) (fun s hs => ?_) i.code.length 0 (by omega)
  ·by_cases hlt : k < i.code.length
   ·obtain ⟨b, h1, h2⟩ := both_step i o hn (by omega) k hlt
    exact h2.trans h1.symm
   ·have : k = i.code.length := by omega
    subst this
    show ref15_Good_l1b i (i.code.length : Int) = image_Good_l1b i (i.code.length : Int)
    unfold ref15_Good_l1b image_Good_l1b
    rw [if_neg (by simp), if_neg (by simp)]
    rfl
  ·obtain ⟨b, _, h2⟩ := both_step i o hn (by omega) k hk
   have hs : ref15_Good_l1b i (k : Int) = some (.inl s) := hs
   rw [h2] at hs
   cases b with
   | true => injection hs with hs; injection hs with hs; exact hs.symm
   | false => cases hs
  ·have hs : ref15_Good_l1b i (i.code.length : Int) = some (.inl s) := hs
   unfold ref15_Good_l1b at hs
   rw [if_neg (by simp)] at hs
   cases h : ref15_Good_l3 i 0 <;> rw [h] at hs <;> cases hs
end Go.Vm.K17
