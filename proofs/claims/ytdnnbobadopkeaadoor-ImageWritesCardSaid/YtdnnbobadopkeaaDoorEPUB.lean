/-
 Plain laws, one behind the other.
-/
import Derived.Test.YtdnnbobadopkeaaDoorEPUA
import Derived.Test.YtdnnbobadopkeaaDoorEOG15w
set_option linter.unusedSimpArgs false
set_option linter.unusedVariables false
namespace Go.Vm.G15w
open Go
theorem Bb {α β : Type} (a : α) (f : α → Option β) : (some a).bind f = f a := rfl
section
def fr (n : Nat) : List Int := [((n / 16777216 : Nat) : Int), ((n / 65536 % 256 : Nat) : Int), ((n / 256 % 256 : Nat) : Int), ((n % 256 : Nat) : Int)]
theorem u8w (x : Int) : IntKind.wrap .u8 x = x % 256 := by
 unfold IntKind.wrap
 simp [IntKind.signed, IntKind.bits]
theorem four_is {n : Nat} (h : n < 4294967296) : image_four (n : Int) = some (fr n) := by
 unfold image_four
 have e1 := shr_u (x := n) (a := 24) (by decide)
 have e2 := shr_u (x := n) (a := 16) (by decide)
 have e3 := shr_u (x := n) (a := 8) (by decide)
 rw [show shrO .u32 (n : Int) 24 = _ from e1, Bb, show shrO .u32 (n : Int) 16 = _ from e2, Bb, show shrO .u32 (n : Int) 8 = _ from e3, Bb]
 unfold fr
 simp only [u8w, Nat.reducePow]
 congr 1
 have a1 : ((n / 16777216 : Nat) : Int) % 256 = ((n / 16777216 : Nat) : Int) := by omega
 have a2 : ((n / 65536 : Nat) : Int) % 256 = ((n / 65536 % 256 : Nat) : Int) := by omega
 have a3 : ((n / 256 : Nat) : Int) % 256 = ((n / 256 % 256 : Nat) : Int) := by omega
 have a4 : ((n : Nat) : Int) % 256 = ((n % 256 : Nat) : Int) := by omega
 rw [a1, a2, a3, a4]
theorem fr_inj {n m : Nat} (hn : n < 4294967296) (hm : m < 4294967296) (h : fr n = fr m) : n = m := by
 unfold fr at h
 simp only [List.cons.injEq, and_true] at h
 omega
theorem fr_byte {n : Nat} (h : n < 4294967296) : ∀ x ∈ fr n, 0 ≤ x ∧ x < 256 := by
 intro x hx
 unfold fr at hx
 simp only [List.mem_cons, List.not_mem_nil, or_false] at hx
 omega
def nbt (k : TNote) : Int := k.role + 8 * k.what + (if k.volatile then 64 else 0) + (if k.final then 128 else 0)
def NG' (k : TNote) : Prop := 0 ≤ k.role ∧ k.role ≤ 6 ∧ 0 ≤ k.what ∧ k.what ≤ 5
theorem note_all : ∀ r : Fin 7, ∀ w : Fin 6, ∀ v f : Bool, image_note ⟨(r.val : Int), (w.val : Int), v, f⟩ = some (nbt ⟨(r.val : Int), (w.val : Int), v, f⟩) := by
 intro r w v f
 have : ∀ r : Fin 7, ∀ w : Fin 6, ∀ v f : Bool, (if v then (if f then orB .u8 (orB .u8 (orB .u8 (IntKind.wrap .u8 (r.val : Int)) (IntKind.wrap .u8 (IntKind.wrap .u8 (w.val : Int) * 8))) 64) 128 else orB .u8 (orB .u8 (IntKind.wrap .u8 (r.val : Int)) (IntKind.wrap .u8 (IntKind.wrap .u8 (w.val : Int) * 8))) 64) else (if f then orB .u8 (orB .u8 (IntKind.wrap .u8 (r.val : Int)) (IntKind.wrap .u8 (IntKind.wrap .u8 (w.val : Int) * 8))) 128 else orB .u8 (IntKind.wrap .u8 (r.val : Int)) (IntKind.wrap .u8 (IntKind.wrap .u8 (w.val : Int) * 8)))) = nbt ⟨(r.val : Int), (w.val : Int), v, f⟩ := by decide +kernel
 have h := this r w v f
 rw [← h]
 unfold image_note image_note_k1 image_note_k2 shlO
 rw [if_pos (by decide), Bb]
 cases v <;> cases f <;> rfl
theorem note_is {k : TNote} (h : NG' k) : image_note k = some (nbt k) := by
 obtain ⟨r, w, v, f⟩ := k
 obtain ⟨h1, h2, h3, h4⟩ := h
 simp only at h1 h2 h3 h4
 have := note_all ⟨r.toNat, by omega⟩ ⟨w.toNat, by omega⟩ v f
 simp only [Int.toNat_of_nonneg h1, Int.toNat_of_nonneg h3] at this
 exact this
theorem nbt_byte {k : TNote} (h : NG' k) : 0 ≤ nbt k ∧ nbt k < 256 := by
 obtain ⟨h1, h2, h3, h4⟩ := h
 unfold nbt
 split <;> split <;> omega
end
section
structure GF (i : TImage) : Prop where
 nl : i.notes.length = i.code.length
 c1 : 1 ≤ i.code.length
 c2 : i.code.length ≤ 8000
 t8 : i.threads.length ≤ 8
 nt : ∀ n ∈ i.notes, NG' n
 th : ∀ t ∈ i.threads, 0 ≤ t ∧ t < (i.code.length : Int)
theorem u32n' {x : Int} (h : InR .u32 x) : ∃ n : Nat, x = (n : Int) ∧ n < 4294967296 := by
 unfold InR Lit.wf at h
 simp [IntKind.min, IntKind.max, IntKind.signed, IntKind.bits] at h
 exact ⟨x.toNat, by omega, by omega⟩
theorem fits_ok (q : TInst) (n : TNote) : ∃ f, image_fits q n = some f := by
 unfold image_fits
 repeat' split
 all_goals exact ⟨_, rfl⟩
theorem good_note (n : TNote) : ∃ g, image_good n = some g ∧ (g = true → NG' n) := by
 unfold image_good
 by_cases h1 : n.role < 0 ∨ 6 < n.role
 ·exact ⟨_, if_pos (by simp; exact h1), fun h => by cases h⟩
 ·rw [if_neg (by simp; omega)]
  by_cases h2 : n.role = 2
  ·refine ⟨_, if_pos (by simp; exact h2), fun h => ?_⟩
   simp at h
   exact ⟨by omega, by omega, by omega, by omega⟩
  ·refine ⟨_, if_neg (by simp; exact h2), fun h => ?_⟩
   simp at h
   exact ⟨by omega, by omega, by omega, by omega⟩
theorem good_threads (i : TImage) (hn : i.threads.length ≤ 8) : Ok (image_Good_l2 i 0) (fun r => r = true → ∀ t ∈ i.threads, 0 ≤ t ∧ t < (i.code.length : Int)) := by
 unfold image_Good_l2
 refine Ok.loop (fun k s => s = (k : Int) ∧ ∀ t ∈ i.threads.take k, 0 ≤ t ∧ t < (i.code.length : Int)) i.threads.length (fun k s hk hs => ?_) (fun s hs => ?_) ⟨rfl, by simp⟩
 ·obtain ⟨rfl, hs⟩ := hs
  show Ok (image_Good_l2b i (k : Int)) _
  unfold image_Good_l2b
  rw [if_pos (decide_eq_true (by omega)), ix_nat, List.getElem?_eq_getElem hk, Bb]
  by_cases h : i.threads[k] < 0 ∨ (i.code.length : Int) ≤ i.threads[k]
  ·rw [if_pos (by simp; exact h)]
   exact ⟨_, rfl, fun h => by cases h⟩
  ·rw [if_neg (by simp; omega)]
   refine ⟨_, rfl, w64_succ (by omega), fun t ht => ?_⟩
   rcases (mem_take_succ hk).1 ht with h3 | h3
   ·exact hs t h3
   ·rw [h3]; omega
 ·obtain ⟨rfl, hs⟩ := hs
  rw [List.take_length] at hs
  show Ok (image_Good_l2b i (i.threads.length : Int)) _
  unfold image_Good_l2b
  rw [if_neg (by simp)]
  exact ⟨_, rfl, fun _ => hs⟩
theorem good_i (i : TImage) (o : OK_TImage i) : Ok (image_Good i) (fun r => r = true → GF i) := by
 unfold image_Good
 by_cases h0 : (i.code.length : Int) = 0 ∨ 8000 < (i.code.length : Int) ∨ (i.notes.length : Int) ≠ (i.code.length : Int) ∨ 8 < (i.threads.length : Int)
 ·rw [if_pos (by simp only [Bool.or_eq_true, decide_eq_true_eq]; omega)]
  exact ⟨_, rfl, fun h => by cases h⟩
 ·rw [if_neg (by simp only [Bool.or_eq_true, decide_eq_true_eq]; omega)]
  have hnl : i.notes.length = i.code.length := by omega
  unfold image_Good_l1
  refine Ok.loop (fun k s => s = (k : Int) ∧ ∀ n ∈ i.notes.take k, NG' n) i.code.length (fun k s hk hs => ?_) (fun s hs => ?_) ⟨rfl, by simp⟩
  ·obtain ⟨rfl, hs⟩ := hs
   have hk2 : k < i.notes.length := by omega
   show Ok (image_Good_l1b i (k : Int)) _
   unfold image_Good_l1b image_Good_k1
   rw [if_pos (decide_eq_true (by omega)), ix_nat, List.getElem?_eq_getElem hk, Bb]
   obtain ⟨w, hw, hw2⟩ := u32n' (o.1.1 _ (List.getElem_mem hk))
   rw [hw]
   have hd : ∃ d, isa_Decode (w : Int) = some d := by
    rcases decode hw2 with ⟨j, _, _, _, h, _⟩ | ⟨_, h, _⟩
    ·exact ⟨_, h⟩
    ·exact ⟨_, h⟩
   obtain ⟨d, hd⟩ := hd
   rw [hd, Bb, ix_nat, List.getElem?_eq_getElem hk2]
   obtain ⟨g, hg, hng⟩ := good_note i.notes[k]
   obtain ⟨f, hf⟩ := fits_ok d.1 i.notes[k]
   simp only [Bb]
   rw [hg, hf]
   simp only [Bb]
   have go : ∀ b : Bool, (b = false → g = true) → Ok (if b = true then (some false).map Sum.inr else if (((decide (d.1.op = 11)) || (decide (d.1.op = 12))) || (decide (d.1.op = 10))) && ((decide ((w64 ((k : Int) + d.1.imm)) < 0)) || (decide ((i.code.length : Int) ≤ (w64 ((k : Int) + d.1.imm))))) then (some false).map Sum.inr else some (Sum.inl (w64 ((k : Int) + 1)))) (Sum.elim (fun s => s = ((k + 1 : Nat) : Int) ∧ ∀ n ∈ i.notes.take (k + 1), NG' n) (fun r : Bool => r = true → GF i)) := by
    intro b hb
    refine .ite (fun _ => ⟨_, rfl, fun h => by cases h⟩) (fun hbf => .ite (fun _ => ⟨_, rfl, fun h => by cases h⟩) (fun _ => ⟨_, rfl, w64_succ (by omega), fun n hn => ?_⟩))
    rcases (mem_take_succ hk2).1 hn with h3 | h3
    ·exact hs n h3
    ·rw [h3]; exact hng (hb hbf)
   by_cases he : d.2 = 0
   ·rw [if_neg (by simp; exact he)]
    cases g with
    | true =>
     rw [if_neg (by decide)]
     exact go _ (fun _ => rfl)
    | false =>
     rw [if_pos (by decide)]
     exact go true (fun h => by cases h)
   ·rw [if_pos (by simp; exact he)]
    exact go true (fun h => by cases h)
  ·obtain ⟨rfl, hs⟩ := hs
   show Ok (image_Good_l1b i (i.code.length : Int)) _
   unfold image_Good_l1b
   rw [if_neg (by simp)]
   refine .map ((good_threads i (by omega)).mono fun r hr h => ?_)
   rw [← hnl, List.take_length] at hs
   exact ⟨hnl, by omega, by omega, by omega, hs, hr h⟩
theorem no_iff {p : Prop} (h : ¬ p) : (false = true ↔ p) := ⟨(fun e => Bool.noConfusion e), fun hp => absurd hp h⟩
theorem same_is (a b : TImage) (ha : a.code.length ≤ 8000 ∧ a.notes.length ≤ 8000 ∧ a.threads.length ≤ 8000) : Ok (ref15_Same a b) (fun r => (r = true ↔ a = b)) := by
 unfold ref15_Same
 by_cases h0 : (a.code.length : Int) ≠ b.code.length ∨ (a.notes.length : Int) ≠ b.notes.length ∨ (a.threads.length : Int) ≠ b.threads.length
 ·rw [if_pos (by simp; omega)]
  refine ⟨_, rfl, no_iff fun h => ?_⟩
  subst h
  omega
 rw [if_neg (by simp; omega)]
 have l1 : a.code.length = b.code.length := by omega
 have l2 : a.notes.length = b.notes.length := by omega
 have l3 : a.threads.length = b.threads.length := by omega
 clear h0
 have ext : ∀ {α : Type} {xs ys : List α}, xs.length = ys.length → (∀ j, j < xs.length → xs[j]? = ys[j]?) → xs = ys := by
  intro α xs ys hl h
  apply List.ext_getElem?
  intro j
  by_cases hj : j < xs.length
  ·exact h j hj
  ·rw [List.getElem?_eq_none (by omega), List.getElem?_eq_none (by omega)]
 unfold ref15_Same_l1
 refine Ok.loop (fun k s => s = (k : Int) ∧ ∀ j, j < k → a.code[j]? = b.code[j]?) a.code.length (fun k s hk hs => ?_) (fun s hs => ?_) ⟨rfl, fun j hj => by omega⟩
 ·obtain ⟨rfl, hs⟩ := hs
  show Ok (ref15_Same_l1b a b (k : Int)) _
  unfold ref15_Same_l1b
  rw [if_pos (decide_eq_true (by omega)), ix_nat, ix_nat, List.getElem?_eq_getElem hk, List.getElem?_eq_getElem (l1 ▸ hk), Bb, Bb]
  by_cases he : a.code[k] = b.code[k]'(l1 ▸ hk)
  ·rw [if_neg (by simp; exact he)]
   refine ⟨_, rfl, w64_succ (by omega), fun j hj => ?_⟩
   by_cases hjk : j = k
   ·subst hjk; rw [List.getElem?_eq_getElem hk, List.getElem?_eq_getElem (l1 ▸ hk), he]
   ·exact hs j (by omega)
  ·rw [if_pos (by simp; exact he)]
   refine ⟨_, rfl, no_iff fun h => ?_⟩
   subst h; exact absurd rfl he
 ·obtain ⟨rfl, hs⟩ := hs
  have e1 := ext l1 hs
  show Ok (ref15_Same_l1b a b (a.code.length : Int)) _
  unfold ref15_Same_l1b
  rw [if_neg (by simp)]
  refine .map ?_
  unfold ref15_Same_l2
  refine Ok.loop (fun k s => s = (k : Int) ∧ ∀ j, j < k → a.notes[j]? = b.notes[j]?) a.notes.length (fun k s hk hs => ?_) (fun s hs => ?_) ⟨rfl, fun j hj => by omega⟩
  ·obtain ⟨rfl, hs⟩ := hs
   show Ok (ref15_Same_l2b a b (k : Int)) _
   unfold ref15_Same_l2b
   rw [if_pos (decide_eq_true (by omega)), ix_nat, ix_nat, List.getElem?_eq_getElem hk, List.getElem?_eq_getElem (l2 ▸ hk), Bb, Bb]
   have hx : ∀ x y : TNote, ((decide (x.role = y.role)) && ((decide (x.what = y.what)) && ((x.volatile == y.volatile) && ((x.final == y.final) && true)))) = true ↔ x = y := by
    intro x y
    obtain ⟨r, w, v, f⟩ := x
    obtain ⟨r', w', v', f'⟩ := y
    simp
   by_cases he : a.notes[k] = b.notes[k]'(l2 ▸ hk)
   ·rw [(hx _ _).2 he, if_neg (by decide)]
    refine ⟨_, rfl, w64_succ (by omega), fun j hj => ?_⟩
    by_cases hjk : j = k
    ·subst hjk; rw [List.getElem?_eq_getElem hk, List.getElem?_eq_getElem (l2 ▸ hk), he]
    ·exact hs j (by omega)
   ·have : ((decide (a.notes[k].role = (b.notes[k]'(l2 ▸ hk)).role)) && ((decide (a.notes[k].what = (b.notes[k]'(l2 ▸ hk)).what)) && ((a.notes[k].volatile == (b.notes[k]'(l2 ▸ hk)).volatile) && ((a.notes[k].final == (b.notes[k]'(l2 ▸ hk)).final) && true)))) = false := by
     cases hc : ((decide (a.notes[k].role = (b.notes[k]'(l2 ▸ hk)).role)) && ((decide (a.notes[k].what = (b.notes[k]'(l2 ▸ hk)).what)) && ((a.notes[k].volatile == (b.notes[k]'(l2 ▸ hk)).volatile) && ((a.notes[k].final == (b.notes[k]'(l2 ▸ hk)).final) && true)))) with
     | false => rfl
     | true => exact absurd ((hx _ _).1 hc) he
    rw [this, if_pos (by decide)]
    refine ⟨_, rfl, no_iff fun h => ?_⟩
    subst h; exact absurd rfl he
  ·obtain ⟨rfl, hs⟩ := hs
   have e2 := ext l2 hs
   show Ok (ref15_Same_l2b a b (a.notes.length : Int)) _
   unfold ref15_Same_l2b
   rw [if_neg (by simp)]
   refine .map ?_
   unfold ref15_Same_l3
   refine Ok.loop (fun k s => s = (k : Int) ∧ ∀ j, j < k → a.threads[j]? = b.threads[j]?) a.threads.length (fun k s hk hs => ?_) (fun s hs => ?_) ⟨rfl, fun j hj => by omega⟩
   ·obtain ⟨rfl, hs⟩ := hs
    show Ok (ref15_Same_l3b a b (k : Int)) _
    unfold ref15_Same_l3b
    rw [if_pos (decide_eq_true (by omega)), ix_nat, ix_nat, List.getElem?_eq_getElem hk, List.getElem?_eq_getElem (l3 ▸ hk), Bb, Bb]
    by_cases he : a.threads[k] = b.threads[k]'(l3 ▸ hk)
    ·rw [if_neg (by simp; exact he)]
     refine ⟨_, rfl, w64_succ (by omega), fun j hj => ?_⟩
     by_cases hjk : j = k
     ·subst hjk; rw [List.getElem?_eq_getElem hk, List.getElem?_eq_getElem (l3 ▸ hk), he]
     ·exact hs j (by omega)
    ·rw [if_pos (by simp; exact he)]
     refine ⟨_, rfl, no_iff fun h => ?_⟩
     subst h; exact absurd rfl he
   ·obtain ⟨rfl, hs⟩ := hs
    have e3 := ext l3 hs
    show Ok (ref15_Same_l3b a b (a.threads.length : Int)) _
    unfold ref15_Same_l3b
    rw [if_neg (by simp)]
    refine ⟨_, rfl, fun _ => ?_, fun _ => rfl⟩
    obtain ⟨c, n, t⟩ := a
    obtain ⟨c', n', t'⟩ := b
    simp only at e1 e2 e3
    rw [e1, e2, e3]
end
section
def tf (t : Int) : List Int := fr t.toNat
def cf (p : Int × TNote) : List Int := fr p.1.toNat ++ [nbt p.2]
def EncB (i : TImage) : List Int := [84, 66, 76, 49] ++ [(i.threads.length : Int)] ++ fr i.code.length ++ i.threads.flatMap tf ++ (i.code.zip i.notes).flatMap cf
def toB (xs : List Int) : ByteArray := ⟨(xs.map fun x => UInt8.ofNat x.toNat).toArray⟩
theorem fr_len (n : Nat) : (fr n).length = 4 := rfl
theorem flat_len {α : Type} {f : α → List Int} {L : Nat} (h : ∀ x, (f x).length = L) : ∀ xs : List α, (xs.flatMap f).length = xs.length * L
 | [] => by simp
 | x :: xs => by rw [List.flatMap_cons, List.length_append, h, flat_len h xs, List.length_cons, Nat.add_mul]; omega
theorem take_flat {α : Type} {f : α → List Int} {xs : List α} {k : Nat} (hk : k < xs.length) : (xs.take (k + 1)).flatMap f = (xs.take k).flatMap f ++ f xs[k] := by
 rw [List.take_add_one, List.getElem?_eq_getElem hk, Option.toList_some, List.flatMap_append, List.flatMap_cons, List.flatMap_nil, List.append_nil]
theorem enc2 (i : TImage) (g : GF i) (o : OK_TImage i) (xs0 : List Int) (h0 : xs0.length ≤ 100) (hb : ∀ x ∈ xs0, 0 ≤ x ∧ x < 256) : image_Encode_l2 i xs0 0 = some (toB (xs0 ++ (i.code.zip i.notes).flatMap cf), 0) := by
 have hz : (i.code.zip i.notes).length = i.code.length := by rw [List.length_zip, g.nl, Nat.min_self]
 have hcb : ∀ p ∈ i.code.zip i.notes, ∀ x ∈ cf p, 0 ≤ x ∧ x < 256 := by
  intro p hp x hx
  obtain ⟨h1, h2⟩ := List.of_mem_zip hp
  obtain ⟨w, hw, hw2⟩ := u32n' (o.1.1 _ h1)
  unfold cf at hx
  rcases List.mem_append.1 hx with h3 | h3
  ·rw [hw, Int.toNat_natCast] at h3
   exact fr_byte hw2 x h3
  ·rw [List.mem_singleton.1 h3]
   exact nbt_byte (g.nt _ h2)
 have c2 := g.c2
 have hn := g.nl
 have hl5 : ∀ p, (cf p).length = 5 := fun p => rfl
 unfold image_Encode_l2
 refine Ok.some_of (Ok.loop (fun k s => s = (xs0 ++ ((i.code.zip i.notes).take k).flatMap cf, (k : Int))) i.code.length (fun k s hk hs => ?_) (fun s hs => ?_) (by simp))
 ·subst hs
  have hk2 : k < i.notes.length := by omega
  show Ok (image_Encode_l2b i (xs0 ++ ((i.code.zip i.notes).take k).flatMap cf) (k : Int)) _
  unfold image_Encode_l2b
  obtain ⟨w, hw, hw2⟩ := u32n' (o.1.1 _ (List.getElem_mem hk))
  have hlen : (((i.code.zip i.notes).take k).flatMap cf).length ≤ 40000 := by
   rw [flat_len hl5, List.length_take, hz]; omega
  rw [if_pos (decide_eq_true (by omega)), ix_nat, List.getElem?_eq_getElem hk, Bb, hw, four_is hw2, Bb, ap_some (by rw [List.length_append, fr_len]; omega), Bb, ix_nat, List.getElem?_eq_getElem hk2, Bb, note_is (g.nt _ (List.getElem_mem hk2)), Bb, ap_some (by rw [List.length_append, List.length_append, fr_len, List.length_singleton]; omega), Bb]
  refine ⟨_, rfl, ?_⟩
  show (_, _) = (_, _)
  rw [take_flat (by omega), List.getElem_zip, w64_succ (by omega)]
  unfold cf
  rw [hw, Int.toNat_natCast, List.append_assoc, List.append_assoc]
 ·subst hs
  show Ok (image_Encode_l2b i (xs0 ++ ((i.code.zip i.notes).take i.code.length).flatMap cf) (i.code.length : Int)) _
  unfold image_Encode_l2b
  rw [if_neg (by simp), List.take_of_length_le (by omega)]
  have hall : ((xs0 ++ (i.code.zip i.notes).flatMap cf).all fun x => decide (0 ≤ x) && decide (x < 256)) = true := by
   rw [List.all_eq_true]
   intro x hx
   have : 0 ≤ x ∧ x < 256 := by
    rcases List.mem_append.1 hx with h3 | h3
    ·exact hb x h3
    ·obtain ⟨p, hp, hx⟩ := List.mem_flatMap.1 h3
     exact hcb p hp x hx
   simp [this]
  unfold strO
  rw [if_pos hall]
  exact ⟨_, rfl, rfl⟩
theorem enc_is (i : TImage) (hg : image_Good i = some true) (g : GF i) (o : OK_TImage i) : image_Encode i = some (toB (EncB i), 0) := by
 have t8 := g.t8
 have c2 := g.c2
 unfold image_Encode
 rw [hg, Bb, if_neg (by decide), ap_some (by simp), Bb]
 have e1 : IntKind.wrap .u32 (i.code.length : Int) = (i.code.length : Int) := u32n (by omega)
 have e2 : IntKind.wrap .u8 (i.threads.length : Int) = (i.threads.length : Int) := by rw [u8w]; omega
 rw [e1, e2, four_is (by omega), Bb, ap_some (by simp [fr_len]), Bb]
 unfold image_Encode_l1
 obtain ⟨base, hbase⟩ : ∃ b, b = [84, 66, 76, 49] ++ [(i.threads.length : Int)] ++ fr i.code.length := ⟨_, rfl⟩
 have hbl : base.length = 9 := by rw [hbase]; rfl
 have hbb : ∀ x ∈ base, 0 ≤ x ∧ x < 256 := by
  intro x hx
  rw [hbase] at hx
  rcases List.mem_append.1 hx with h3 | h3
  ·simp at h3; omega
  ·exact fr_byte (by omega) x h3
 have hl4 : ∀ t, (tf t).length = 4 := fun t => rfl
 rw [← hbase]
 refine Ok.some_of (Ok.loop (fun k s => s = (base ++ (i.threads.take k).flatMap tf, (k : Int))) i.threads.length (fun k s hk hs => ?_) (fun s hs => ?_) (by simp))
 ·subst hs
  show Ok (image_Encode_l1b i (base ++ (i.threads.take k).flatMap tf) (k : Int)) _
  unfold image_Encode_l1b
  have ht := g.th _ (List.getElem_mem hk)
  obtain ⟨n, hn⟩ : ∃ n : Nat, i.threads[k] = (n : Int) := ⟨i.threads[k].toNat, by omega⟩
  rw [if_pos (decide_eq_true (by omega)), ix_nat, List.getElem?_eq_getElem hk, Bb, hn, u32n (by omega), four_is (by omega), Bb, ap_some (by rw [List.length_append, fr_len, flat_len hl4, List.length_take]; omega), Bb]
  refine ⟨_, rfl, ?_⟩
  show (_, _) = (_, _)
  rw [take_flat hk, w64_succ (by omega), List.append_assoc]
  unfold tf
  rw [hn, Int.toNat_natCast]
 ·subst hs
  show Ok (image_Encode_l1b i (base ++ (i.threads.take i.threads.length).flatMap tf) (i.threads.length : Int)) _
  unfold image_Encode_l1b
  rw [if_neg (by simp), List.take_length]
  refine .map ?_
  rw [enc2 i g o _ (by rw [List.length_append, flat_len hl4]; omega) (fun x hx => by
   rcases List.mem_append.1 hx with h3 | h3
   ·exact hbb x h3
   ·obtain ⟨t, ht, hx⟩ := List.mem_flatMap.1 h3
    have := g.th t ht
    exact fr_byte (by omega) x hx)]
  refine ⟨_, rfl, ?_⟩
  show (_, _) = (_, _)
  unfold EncB
  rw [hbase]
theorem enc_not (i : TImage) (hg : image_Good i = some false) : image_Encode i = some (ByteArray.empty, 1) := by
 unfold image_Encode
 rw [hg, Bb, if_pos (by decide)]
theorem encb_byte (i : TImage) (g : GF i) (o : OK_TImage i) : ∀ x ∈ EncB i, 0 ≤ x ∧ x < 256 := by
 have t8 := g.t8
 have c2 := g.c2
 intro x hx
 unfold EncB at hx
 rcases List.mem_append.1 hx with hx | hx
 ·rcases List.mem_append.1 hx with hx | hx
  ·rcases List.mem_append.1 hx with hx | hx
   ·simp at hx; omega
   ·exact fr_byte (by omega) x hx
  ·obtain ⟨t, ht, hx⟩ := List.mem_flatMap.1 hx
   have := g.th t ht
   exact fr_byte (by omega) x hx
 ·obtain ⟨p, hp, hx⟩ := List.mem_flatMap.1 hx
  obtain ⟨h1, h2⟩ := List.of_mem_zip hp
  obtain ⟨w, hw, hw2⟩ := u32n' (o.1.1 _ h1)
  unfold cf at hx
  rcases List.mem_append.1 hx with h3 | h3
  ·rw [hw, Int.toNat_natCast] at h3
   exact fr_byte hw2 x h3
  ·rw [List.mem_singleton.1 h3]
   exact nbt_byte (g.nt _ h2)
theorem toB_inj : ∀ {xs ys : List Int}, (∀ x ∈ xs, 0 ≤ x ∧ x < 256) → (∀ x ∈ ys, 0 ≤ x ∧ x < 256) → toB xs = toB ys → xs = ys := by
 intro xs ys hx hy h
 have h1 : (xs.map fun x => UInt8.ofNat x.toNat) = ys.map fun x => UInt8.ofNat x.toNat := by
  have := congrArg (fun b : ByteArray => b.data.toList) h
  simpa [toB] using this
 clear h
 induction xs generalizing ys with
 | nil => cases ys with
  | nil => rfl
  | cons y ys => simp at h1
 | cons x xs ih => cases ys with
  | nil => simp at h1
  | cons y ys =>
   simp only [List.map_cons, List.cons.injEq] at h1
   have hx1 := hx x (by simp)
   have hy1 := hy y (by simp)
   have e := congrArg UInt8.toNat h1.1
   rw [UInt8.toNat_ofNat', UInt8.toNat_ofNat'] at e
   have e2 : x = y := by omega
   rw [e2, ih (fun z hz => hx z (by simp [hz])) (fun z hz => hy z (by simp [hz])) h1.2]
theorem flat_inj {α : Type} {f : α → List Int} {L : Nat} {Q : α → Prop} (h : ∀ x, (f x).length = L) (hi : ∀ x y, Q x → Q y → f x = f y → x = y) : ∀ (xs ys : List α) (A B : List Int), xs.length = ys.length → (∀ x ∈ xs, Q x) → (∀ x ∈ ys, Q x) → xs.flatMap f ++ A = ys.flatMap f ++ B → xs = ys ∧ A = B
 | [], [], A, B, _, _, _, e => ⟨rfl, by simpa using e⟩
 | [], _ :: _, _, _, hl, _, _, _ => by simp at hl
 | _ :: _, [], _, _, hl, _, _, _ => by simp at hl
 | x :: xs, y :: ys, A, B, hl, hx, hy, e => by
  rw [List.flatMap_cons, List.flatMap_cons, List.append_assoc, List.append_assoc] at e
  obtain ⟨e1, e2⟩ := List.append_inj e (by rw [h, h])
  obtain ⟨e3, e4⟩ := flat_inj h hi xs ys A B (by simpa using hl) (fun z hz => hx z (by simp [hz])) (fun z hz => hy z (by simp [hz])) e2
  rw [hi x y (hx x (by simp)) (hy y (by simp)) e1, e3]
  exact ⟨rfl, e4⟩
end
end Go.Vm.G15w
