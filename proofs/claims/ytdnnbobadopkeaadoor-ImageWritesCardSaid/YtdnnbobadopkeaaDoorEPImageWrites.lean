/-
 An image as a list; and the law of writing.
-/
import Derived.Test.YtdnnbobadopkeaaDoorEPUD
import Derived.Test.YtdnnbobadopkeaaDoorEPUT
set_option linter.unusedSimpArgs false
set_option linter.unusedVariables false
namespace Go.Vm.G15w
open Go
theorem Bi {α β : Type} (a : α) (f : α → Option β) : (some a).bind f = f a := rfl
theorem rg_nat : ∀ k : Nat, 1 ≤ k → k ≤ 22 → ∀ d a b i, isa_Good ⟨(k : Int), d, a, b, i⟩ = some true → T.Rg ⟨(k : Int), d, a, b, i⟩ := by
 refine of22 ?_ ?_ ?_ ?_ ?_ ?_ ?_ ?_ ?_ ?_ ?_ ?_ ?_ ?_ ?_ ?_ ?_ ?_ ?_ ?_ ?_ ?_
 ·exact fun d a b i hg => by
   have h := od (Option.some.inj ((ig_1 d a b i).symm.trans hg))
   constructor <;> simp only [] <;> omega
 ·exact fun d a b i hg => by
   have h := od (Option.some.inj ((ig_2 d a b i).symm.trans hg))
   constructor <;> simp only [] <;> omega
 ·exact fun d a b i hg => by
   have h := od (Option.some.inj ((ig_3 d a b i).symm.trans hg))
   constructor <;> simp only [] <;> omega
 ·exact fun d a b i hg => by
   have h := od (Option.some.inj ((ig_4 d a b i).symm.trans hg))
   constructor <;> simp only [] <;> omega
 ·exact fun d a b i hg => by
   have h := od (Option.some.inj ((ig_5 d a b i).symm.trans hg))
   constructor <;> simp only [] <;> omega
 ·exact fun d a b i hg => by
   have h := od (Option.some.inj ((ig_6 d a b i).symm.trans hg))
   constructor <;> simp only [] <;> omega
 ·exact fun d a b i hg => by
   have h := od (Option.some.inj ((ig_7 d a b i).symm.trans hg))
   constructor <;> simp only [] <;> omega
 ·exact fun d a b i hg => by
   have h := od (Option.some.inj ((ig_8 d a b i).symm.trans hg))
   constructor <;> simp only [] <;> omega
 ·exact fun d a b i hg => by
   have h := od (Option.some.inj ((ig_9 d a b i).symm.trans hg))
   constructor <;> simp only [] <;> omega
 ·exact fun d a b i hg => by
   have h := od (Option.some.inj ((ig_10 d a b i).symm.trans hg))
   constructor <;> simp only [] <;> omega
 ·exact fun d a b i hg => by
   have h := od (Option.some.inj ((ig_11 d a b i).symm.trans hg))
   constructor <;> simp only [] <;> omega
 ·exact fun d a b i hg => by
   have h := od (Option.some.inj ((ig_12 d a b i).symm.trans hg))
   constructor <;> simp only [] <;> omega
 ·exact fun d a b i hg => by
   have h := od (Option.some.inj ((ig_13 d a b i).symm.trans hg))
   constructor <;> simp only [] <;> omega
 ·exact fun d a b i hg => by
   have h := od (Option.some.inj ((ig_14 d a b i).symm.trans hg))
   constructor <;> simp only [] <;> omega
 ·exact fun d a b i hg => by
   have h := od (Option.some.inj ((ig_15 d a b i).symm.trans hg))
   constructor <;> simp only [] <;> omega
 ·exact fun d a b i hg => by
   have h := od (Option.some.inj ((ig_16 d a b i).symm.trans hg))
   constructor <;> simp only [] <;> omega
 ·exact fun d a b i hg => by
   have h := od (Option.some.inj ((ig_17 d a b i).symm.trans hg))
   constructor <;> simp only [] <;> omega
 ·exact fun d a b i hg => by
   have h := od (Option.some.inj ((ig_18 d a b i).symm.trans hg))
   constructor <;> simp only [] <;> omega
 ·exact fun d a b i hg => by
   have h := od (Option.some.inj ((ig_19 d a b i).symm.trans hg))
   constructor <;> simp only [] <;> omega
 ·exact fun d a b i hg => by
   have h := od (Option.some.inj ((ig_20 d a b i).symm.trans hg))
   constructor <;> simp only [] <;> omega
 ·exact fun d a b i hg => by
   have h := od (Option.some.inj ((ig_21 d a b i).symm.trans hg))
   constructor <;> simp only [] <;> omega
 ·exact fun d a b i hg => by
   have h := od (Option.some.inj ((ig_22 d a b i).symm.trans hg))
   constructor <;> simp only [] <;> omega
theorem rg_of {p : TInst} (h1 : 1 ≤ p.op) (h2 : p.op ≤ 22) (hg : isa_Good p = some true) : T.Rg p := by
 obtain ⟨op, d, a, b, i⟩ := p
 obtain ⟨k, rfl⟩ : ∃ k : Nat, op = (k : Int) := ⟨op.toNat, by simp only at h1; omega⟩
 exact rg_nat k (by simp only at h1; omega) (by simp only at h2; omega) d a b i hg
theorem TX_len {p : TInst} (h1 : 1 ≤ p.op) (h2 : p.op ≤ 22) (R : T.Rg p) : (T.TX p).length ≤ 100 := by
 unfold T.TX
 split
 ·have h3 : (T.cnx p.d p.a).length = 3 := by
   unfold T.cnx
   split <;> split <;> first | rfl | (split <;> rfl)
  have h4 := itoa_len R.i0 R.i1
  rw [List.length_append, List.length_cons]
  omega
 ·have key : ∀ k : Fin 23, (T.nm k.val).length ≤ 6 ∧ (T.fd k.val).length ≤ 3 := by decide
  obtain ⟨h3, h4⟩ := key ⟨p.op.toNat, by omega⟩
  simp only at h3 h4
  have h5 : (T.args p (T.fd p.op.toNat)).length ≤ 70 := by
   generalize T.fd p.op.toNat = xs at h4
   cases xs with
   | nil => simp [T.args]
   | cons x xs =>
    show (32 :: Lib.join ((x :: xs).map (T.ptx p)) [44, 32]).length ≤ 70
    have := T.jn_len ((x :: xs).map (T.ptx p)) (fun l hl => by
     obtain ⟨c, _, rfl⟩ := List.mem_map.1 hl
     exact T.ptx_len R c)
    rw [List.length_map] at this
    rw [List.length_cons]
    omega
  rw [List.length_append]
  omega
structure Wd (w : Int) (q : TInst) : Prop where
 dec : isa_Decode w = some (q, 0)
 rdec : ref02_Decode w = some (q, true)
 txt : isa_Text q = some (tx (T.TX q))
 rtxt : ref02_Text q = some (tx (T.TX q))
 len : (T.TX q).length ≤ 100
theorem wd_of {w : Nat} (hw : w < 4294967296) {q : TInst} (h : isa_Decode (w : Int) = some (q, 0)) : Wd w q := by
 rcases decode hw with ⟨j, h1, h2, h3, h4, h5⟩ | ⟨_, h4, _⟩
 ·have e : q = rd w j := congrArg Prod.fst (Option.some.inj (h.symm.trans h4))
  subst e
  have ho := rd_op w j h1 h2
  obtain ⟨t1, t2⟩ := T.text_both (p := rd w j) (by omega) (by omega) h3.1
  exact ⟨h4, h5, t1, t2, TX_len (by omega) (by omega) (rg_of (by omega) (by omega) h3.1)⟩
 ·have e := congrArg Prod.snd (Option.some.inj (h.symm.trans h4))
  cases e
theorem good_words (i : TImage) (o : OK_TImage i) : Ok (image_Good i) (fun r => r = true → ∀ w ∈ i.code, ∃ q, Wd w q) := by
 unfold image_Good
 by_cases h0 : (i.code.length : Int) = 0 ∨ 8000 < (i.code.length : Int) ∨ (i.notes.length : Int) ≠ (i.code.length : Int) ∨ 8 < (i.threads.length : Int)
 ·rw [if_pos (by simp only [Bool.or_eq_true, decide_eq_true_eq]; omega)]
  exact ⟨_, rfl, fun h => by cases h⟩
 ·rw [if_neg (by simp only [Bool.or_eq_true, decide_eq_true_eq]; omega)]
  have hnl : i.notes.length = i.code.length := by omega
  unfold image_Good_l1
  refine Ok.loop (fun k s => s = (k : Int) ∧ ∀ w ∈ i.code.take k, ∃ q, Wd w q) i.code.length (fun k s hk hs => ?_) (fun s hs => ?_) ⟨rfl, by simp⟩
  ·obtain ⟨rfl, hs⟩ := hs
   have hk2 : k < i.notes.length := by omega
   show Ok (image_Good_l1b i (k : Int)) _
   unfold image_Good_l1b image_Good_k1
   rw [if_pos (decide_eq_true (by omega)), ix_nat, List.getElem?_eq_getElem hk, Bi]
   obtain ⟨w, hw, hw2⟩ := u32n' (o.1.1 _ (List.getElem_mem hk))
   rw [hw]
   have hd : ∃ d, isa_Decode (w : Int) = some d := by
    rcases decode hw2 with ⟨j, _, _, _, h, _⟩ | ⟨_, h, _⟩
    ·exact ⟨_, h⟩
    ·exact ⟨_, h⟩
   obtain ⟨d, hd⟩ := hd
   rw [hd, Bi, ix_nat, List.getElem?_eq_getElem hk2]
   obtain ⟨g, hg, hng⟩ := good_note i.notes[k]
   obtain ⟨f, hf⟩ := fits_ok d.1 i.notes[k]
   simp only [Bi]
   rw [hg, hf]
   simp only [Bi]
   have go : ∀ b : Bool, (b = false → d.2 = 0) → Ok (if b = true then (some false).map Sum.inr else if (((decide (d.1.op = 11)) || (decide (d.1.op = 12))) || (decide (d.1.op = 10))) && ((decide ((w64 ((k : Int) + d.1.imm)) < 0)) || (decide ((i.code.length : Int) ≤ (w64 ((k : Int) + d.1.imm))))) then (some false).map Sum.inr else some (Sum.inl (w64 ((k : Int) + 1)))) (Sum.elim (fun s => s = ((k + 1 : Nat) : Int) ∧ ∀ w ∈ i.code.take (k + 1), ∃ q, Wd w q) (fun r : Bool => r = true → ∀ w ∈ i.code, ∃ q, Wd w q)) := by
    intro b hb
    refine .ite (fun _ => ⟨_, rfl, fun h => by cases h⟩) (fun hbf => .ite (fun _ => ⟨_, rfl, fun h => by cases h⟩) (fun _ => ⟨_, rfl, w64_succ (by omega), fun n hn => ?_⟩))
    rcases (mem_take_succ hk).1 hn with h3 | h3
    ·exact hs n h3
    ·rw [h3, hw]
     obtain ⟨d1, d2⟩ := d
     have := hb hbf
     simp only at this
     subst this
     exact ⟨d1, wd_of hw2 hd⟩
   by_cases he : d.2 = 0
   ·rw [if_neg (by simp; exact he)]
    cases g with
    | true =>
     rw [if_neg (by decide)]
     exact go _ (fun _ => he)
    | false =>
     rw [if_pos (by decide)]
     exact go true (fun h => by cases h)
   ·rw [if_pos (by simp; exact he)]
    exact go true (fun h => by cases h)
  ·obtain ⟨rfl, hs⟩ := hs
   show Ok (image_Good_l1b i (i.code.length : Int)) _
   unfold image_Good_l1b
   rw [if_neg (by simp)]
   refine .map ((good_threads i (by omega)).mono fun r hr h => ?_)
   rw [List.take_length] at hs
   exact hs
theorem bw_tx {a b : List UInt8} (hb : b ≠ []) (h : a.length + b.length ≤ 140737488355328) : bwO (tx a) (tx b) = some (tx (a ++ b)) := by
 have : b.length ≠ 0 := fun e => hb (List.eq_nil_of_length_eq_zero e)
 unfold bwO
 rw [tx_size, tx_size, if_pos ⟨this, h⟩, tx_app]
theorem bs_tx {a : List UInt8} (h : a ≠ []) : bsO (tx a) = some (tx a) := by
 have : a.length ≠ 0 := fun e => h (List.eq_nil_of_length_eq_zero e)
 unfold bsO
 rw [tx_size, if_pos this]
def rls : List (List UInt8) := [[], [32, 59, 32, 115, 116, 97, 99, 107], [32, 59, 32, 97, 99, 99, 101, 115, 115], [32, 59, 32, 116, 97, 107, 101], [32, 59, 32, 112, 117, 116], [32, 59, 32, 104, 101, 108, 100], [32, 59, 32, 108, 101, 102, 116]]
def rl (r : Int) : List UInt8 := rls.getD r.toNat []
theorem role_is {r : Int} (h0 : 0 ≤ r) (h6 : r ≤ 6) : (r ≠ 0 → ∃ s, ix gl0 r = some s ∧ catO str50 s = some (tx (rl r)) ∧ rl r ≠ []) ∧ ix ([ByteArray.empty, str59, str60, str61, str62, str63, str64] : List ByteArray) r = some (tx (rl r)) ∧ (r = 0 → rl r = []) ∧ (rl r).length ≤ 20 := by
 have h : r = 0 ∨ r = 1 ∨ r = 2 ∨ r = 3 ∨ r = 4 ∨ r = 5 ∨ r = 6 := by omega
 rcases h with rfl | rfl | rfl | rfl | rfl | rfl | rfl
 ·exact ⟨fun h => absurd rfl h, rfl, fun _ => rfl, by decide⟩
 ·exact ⟨fun _ => ⟨_, rfl, cat_tx (a := [32, 59, 32]) (b := [115, 116, 97, 99, 107]) (by decide), by decide⟩, rfl, fun h => absurd h (by decide), by decide⟩
 ·exact ⟨fun _ => ⟨_, rfl, cat_tx (a := [32, 59, 32]) (b := [97, 99, 99, 101, 115, 115]) (by decide), by decide⟩, rfl, fun h => absurd h (by decide), by decide⟩
 ·exact ⟨fun _ => ⟨_, rfl, cat_tx (a := [32, 59, 32]) (b := [116, 97, 107, 101]) (by decide), by decide⟩, rfl, fun h => absurd h (by decide), by decide⟩
 ·exact ⟨fun _ => ⟨_, rfl, cat_tx (a := [32, 59, 32]) (b := [112, 117, 116]) (by decide), by decide⟩, rfl, fun h => absurd h (by decide), by decide⟩
 ·exact ⟨fun _ => ⟨_, rfl, cat_tx (a := [32, 59, 32]) (b := [104, 101, 108, 100]) (by decide), by decide⟩, rfl, fun h => absurd h (by decide), by decide⟩
 ·exact ⟨fun _ => ⟨_, rfl, cat_tx (a := [32, 59, 32]) (b := [108, 101, 102, 116]) (by decide), by decide⟩, rfl, fun h => absurd h (by decide), by decide⟩
def tht : List UInt8 := [116, 104, 114, 101, 97, 100, 32]
def thL (ts : List Int) (k : Int) : Nat → List UInt8
 | 0 => []
 | j + 1 => thL ts k j ++ (if ts[j]? = some k then tht ++ Lib.itoa (j : Int) ++ [58, 10] else [])
noncomputable def dq (w : Int) : TInst := ((isa_Decode w).getD (⟨0, 0, 0, 0, 0⟩, 0)).1
noncomputable def wdL (k : Nat) (w : Int) (r : Int) : List UInt8 := Lib.itoa (k : Int) ++ [32] ++ T.TX (dq w) ++ rl r ++ [10]
noncomputable def lnL (i : TImage) : Nat → List UInt8
 | 0 => []
 | k + 1 => lnL i k ++ thL i.threads k i.threads.length ++ wdL k (i.code.getD k 0) (i.notes.getD k ⟨0, 0, false, false⟩).role
theorem thL_len (ts : List Int) (k : Int) : ∀ j, j ≤ 1000 → (thL ts k j).length ≤ 30 * j
 | 0, _ => by simp [thL]
 | j + 1, h => by
  have ih := thL_len ts k j (by omega)
  have := itoa_len (n := (j : Int)) (by omega) (by omega)
  unfold thL
  rw [List.length_append]
  split
  ·have : tht.length = 7 := rfl
   simp only [List.length_append, List.length_cons, List.length_nil]
   omega
  ·simp only [List.length_nil]; omega
section
variable {i : TImage}
structure Im (i : TImage) : Prop where
 g : GF i
 c : i.code.length ≤ 200
 w : ∀ w ∈ i.code, ∃ q, Wd w q
theorem Im.wd (m : Im i) {k : Nat} {w : Int} {n : TNote} (hk : i.code[k]? = some w) (hn : i.notes[k]? = some n) : Wd w (dq w) ∧ 0 ≤ n.role ∧ n.role ≤ 6 ∧ i.code.getD k 0 = w ∧ (i.notes.getD k ⟨0, 0, false, false⟩).role = n.role := by
 obtain ⟨q, hq⟩ := m.w w (List.mem_of_getElem? hk)
 have e : dq w = q := by unfold dq; rw [hq.dec]; rfl
 have hng := m.g.nt n (List.mem_of_getElem? hn)
 refine ⟨by rw [e]; exact hq, hng.1, hng.2.1, by rw [List.getD_eq_getElem?_getD, hk]; rfl, by rw [List.getD_eq_getElem?_getD, hn]; rfl⟩
theorem wdL_len (m : Im i) {k : Nat} {w : Int} {n : TNote} (hk : i.code[k]? = some w) (hn : i.notes[k]? = some n) : (wdL k w n.role).length ≤ 142 := by
 have h := m.wd hk hn
 have h1 := h.1.len
 have h2 := (role_is h.2.1 h.2.2.1).2.2.2
 have hk' := (List.getElem?_eq_some_iff.1 hk).1
 have hc := m.c
 have h3 := itoa_len (n := (k : Int)) (by omega) (by omega)
 unfold wdL
 simp only [List.length_append, List.length_cons, List.length_nil]
 omega
theorem lnL_len (m : Im i) : ∀ k, k ≤ i.code.length → (lnL i k).length ≤ 400 * k
 | 0, _ => by simp [lnL]
 | k + 1, h => by
  have ih := lnL_len m k (by omega)
  have h1 : i.code[k]? = some i.code[k] := List.getElem?_eq_getElem (by omega)
  have hl := m.g.nl
  have h2 : i.notes[k]? = some i.notes[k] := List.getElem?_eq_getElem (by omega)
  have h3 := wdL_len m h1 h2
  have h4 := m.wd h1 h2
  have t8 := m.g.t8
  have h5 := thL_len i.threads k i.threads.length (by omega)
  unfold lnL
  rw [h4.2.2.2.1, h4.2.2.2.2, List.length_append, List.length_append]
  omega
theorem list_is (m : Im i) (hg : image_Good i = some true) : image_List i = some (tx (lnL i i.code.length)) := by
 have hc := m.c
 have hl := m.g.nl
 have t8 := m.g.t8
 have c1 := m.g.c1
 unfold image_List
 rw [hg, Bi, if_neg (by decide)]
 unfold image_List_l1
 refine Ok.some_of (loop_for (B := fun s => image_List_l1b i s.1 s.2) i.code (fun k s => s = (tx (lnL i k), (k : Int))) (fun k w s hk' hk hs => ?_) (fun s hs => ?_) rfl)
 ·subst hs
  show Ok (image_List_l1b i _ k) _
  have hn : i.notes[k]? = some i.notes[k] := List.getElem?_eq_getElem (by omega)
  have hw := m.wd hk hn
  have hlen := lnL_len m k (by omega)
  have hwl := wdL_len m hk hn
  unfold image_List_l1b
  rw [if_pos (by simp; omega), ix_nat, hk, Bi]
  unfold image_List_l2
  refine loop_for (B := fun s => image_List_l2b i k w s.1 s.2) i.threads (fun j s => s = (tx (lnL i k ++ thL i.threads k j), (j : Int))) (fun j t s hj' hj hs => ?_) (fun s hs => ?_) (by simp [thL])
  ·subst hs
   show Ok (image_List_l2b i k w _ j) _
   have htl := thL_len i.threads k j (by omega)
   have hil := itoa_len (n := (j : Int)) (by omega) (by omega)
   unfold image_List_l2b image_List_k1 strconv_Itoa strings_Builder_WriteString
   rw [if_pos (by simp; omega), ix_nat, hj]
   simp only [Bi]
   by_cases ht : t = (k : Int)
   ·rw [if_pos (by simpa using ht), itoa_tx (by omega) (by omega)]
    simp only [Bi]
    have h7 : tht.length = 7 := rfl
    rw [show str33 = tx tht from rfl, cat_tx (by omega)]
    simp only [Bi]
    rw [show str34 = tx [58, 10] from rfl, cat_tx (by simp only [List.length_append, List.length_cons, List.length_nil]; omega)]
    simp only [Bi]
    rw [bw_tx (by simp) (by simp only [List.length_append, List.length_cons, List.length_nil]; omega)]
    refine .ret ?_
    show _ = _
    rw [w64_succ (by omega)]
    congr 2
    show _ = lnL i k ++ (thL i.threads k j ++ (if i.threads[j]? = some (k : Int) then tht ++ Lib.itoa (j : Int) ++ [58, 10] else []))
    rw [hj, ht, if_pos rfl, List.append_assoc]
   ·rw [if_neg (by simpa using ht)]
    refine .ret ?_
    show _ = _
    rw [w64_succ (by omega)]
    congr 2
    show _ = lnL i k ++ (thL i.threads k j ++ (if i.threads[j]? = some (k : Int) then tht ++ Lib.itoa (j : Int) ++ [58, 10] else []))
    rw [hj, if_neg (fun e => ht (Option.some.inj e)), List.append_nil]
  ·subst hs
   show Ok (image_List_l2b i k w _ _) _
   have htl := thL_len i.threads k i.threads.length (by omega)
   have hil := itoa_len (n := (k : Int)) (by omega) (by omega)
   have hx := hw.1.len
   have hr := role_is hw.2.1 hw.2.2.1
   have hrl := hr.2.2.2
   unfold image_List_l2b strconv_Itoa strings_Builder_WriteString
   rw [if_neg (by simp), hw.1.dec]
   simp only [Bi]
   rw [itoa_tx (by omega) (by omega)]
   simp only [Bi]
   rw [show str35 = tx [32] from rfl, cat_tx (by simp only [List.length_cons, List.length_nil]; omega)]
   simp only [Bi]
   rw [hw.1.txt]
   simp only [Bi]
   rw [cat_tx (by simp only [List.length_append, List.length_cons, List.length_nil]; omega)]
   simp only [Bi]
   rw [bw_tx (by simp) (by simp only [List.length_append, List.length_cons, List.length_nil]; omega)]
   simp only [Bi]
   rw [ix_nat, hn]
   simp only [Bi]
   have fin : ∀ L : List UInt8, L.length ≤ 1000000 → L ++ [10] = lnL i (k + 1) → Ok ((image_List_k2 k (tx L)).map (Sum.inr : _ → (ByteArray × Int) ⊕ ((ByteArray × Int) ⊕ ByteArray))) (Sum.elim (fun _ : ByteArray × Int => False) (Sum.elim (fun s => s = (tx (lnL i (k + 1)), ((k + 1 : Nat) : Int))) (fun r => r = tx (lnL i i.code.length)))) := fun L hL e => by
    unfold image_List_k2 strings_Builder_WriteString
    rw [show str51 = tx [10] from rfl, bw_tx (by simp) (by simp only [List.length_cons, List.length_nil]; omega)]
    simp only [Bi]
    refine .map (.ret ?_)
    show _ = _
    rw [w64_succ (by omega), e]
   have eln : lnL i (k + 1) = lnL i k ++ thL i.threads k i.threads.length ++ wdL k w i.notes[k].role := by
    show lnL i k ++ thL i.threads k i.threads.length ++ wdL k (i.code.getD k 0) (i.notes.getD k ⟨0, 0, false, false⟩).role = _
    rw [hw.2.2.2.1, hw.2.2.2.2]
   by_cases h0 : i.notes[k].role = 0
   ·rw [if_neg (by simpa using h0)]
    refine fin _ (by simp only [List.length_append, List.length_cons, List.length_nil]; omega) ?_
    rw [eln]
    unfold wdL
    rw [hr.2.2.1 h0]
    simp only [List.append_assoc, List.append_nil, List.nil_append]
   ·rw [if_pos (by simpa using h0)]
    obtain ⟨s, hs1, hs2, hs3⟩ := hr.1 h0
    rw [hs1]
    simp only [Bi]
    rw [hs2]
    simp only [Bi]
    rw [bw_tx hs3 (by simp only [List.length_append, List.length_cons, List.length_nil]; omega)]
    simp only [Bi]
    refine fin _ (by simp only [List.length_append, List.length_cons, List.length_nil]; omega) ?_
    rw [eln]
    unfold wdL
    simp only [List.append_assoc]
 ·subst hs
  show Ok (image_List_l1b i _ _) _
  unfold image_List_l1b strings_Builder_String
  have hne : lnL i i.code.length ≠ [] := by
   obtain ⟨k, hk⟩ : ∃ k, i.code.length = k + 1 := ⟨i.code.length - 1, by omega⟩
   rw [hk]
   show lnL i k ++ thL i.threads k i.threads.length ++ wdL k _ _ ≠ []
   unfold wdL
   simp
  rw [if_neg (by simp), bs_tx hne]
  exact .map (.ret rfl)
theorem rlist_is (m : Im i) (hg : ref15_Good i = some true) : ref15_List i = some (tx (lnL i i.code.length)) := by
 have hc := m.c
 have hl := m.g.nl
 have t8 := m.g.t8
 unfold ref15_List
 rw [hg, Bi, if_neg (by decide)]
 unfold ref15_List_l1
 refine Ok.some_of (loop_for (B := fun s => ref15_List_l1b i s.1 s.2) i.code (fun k s => s = (tx (lnL i k), (k : Int))) (fun k w s hk' hk hs => ?_) (fun s hs => ?_) rfl)
 ·subst hs
  show Ok (ref15_List_l1b i _ k) _
  have hn : i.notes[k]? = some i.notes[k] := List.getElem?_eq_getElem (by omega)
  have hw := m.wd hk hn
  have hlen := lnL_len m k (by omega)
  unfold ref15_List_l1b
  rw [if_pos (by simp; omega), ix_nat, hk, Bi]
  unfold ref15_List_l2
  refine loop_for (B := fun s => ref15_List_l2b i k w s.1 s.2) i.threads (fun j s => s = (tx (lnL i k ++ thL i.threads k j), (j : Int))) (fun j t s hj' hj hs => ?_) (fun s hs => ?_) (by simp [thL])
  ·subst hs
   show Ok (ref15_List_l2b i k w _ j) _
   have htl := thL_len i.threads k j (by omega)
   have hil := itoa_len (n := (j : Int)) (by omega) (by omega)
   have h7 : tht.length = 7 := rfl
   unfold ref15_List_l2b ref15_List_k1 strconv_Itoa
   rw [if_pos (by simp; omega), ix_nat, hj]
   simp only [Bi]
   by_cases ht : t = (k : Int)
   ·rw [if_pos (by simpa using ht), show str33 = tx tht from rfl, cat_tx (by simp only [List.length_append]; omega)]
    simp only [Bi]
    rw [itoa_tx (by omega) (by omega)]
    simp only [Bi]
    rw [cat_tx (by simp only [List.length_append]; omega)]
    simp only [Bi]
    rw [show str34 = tx [58, 10] from rfl, cat_tx (by simp only [List.length_append, List.length_cons, List.length_nil]; omega)]
    refine .ret ?_
    show _ = _
    rw [w64_succ (by omega)]
    congr 2
    show _ = lnL i k ++ (thL i.threads k j ++ (if i.threads[j]? = some (k : Int) then tht ++ Lib.itoa (j : Int) ++ [58, 10] else []))
    rw [hj, ht, if_pos rfl]
    simp only [List.append_assoc]
   ·rw [if_neg (by simpa using ht)]
    refine .ret ?_
    show _ = _
    rw [w64_succ (by omega)]
    congr 2
    show _ = lnL i k ++ (thL i.threads k j ++ (if i.threads[j]? = some (k : Int) then tht ++ Lib.itoa (j : Int) ++ [58, 10] else []))
    rw [hj, if_neg (fun e => ht (Option.some.inj e)), List.append_nil]
  ·subst hs
   show Ok (ref15_List_l2b i k w _ _) _
   have htl := thL_len i.threads k i.threads.length (by omega)
   have hil := itoa_len (n := (k : Int)) (by omega) (by omega)
   have hx := hw.1.len
   have hr := role_is hw.2.1 hw.2.2.1
   have hrl := hr.2.2.2
   unfold ref15_List_l2b strconv_Itoa
   rw [if_neg (by simp), hw.1.rdec]
   simp only [Bi]
   rw [itoa_tx (by omega) (by omega)]
   simp only [Bi]
   rw [cat_tx (by simp only [List.length_append]; omega)]
   simp only [Bi]
   rw [show str35 = tx [32] from rfl, cat_tx (by simp only [List.length_append, List.length_cons, List.length_nil]; omega)]
   simp only [Bi]
   rw [hw.1.rtxt]
   simp only [Bi]
   rw [cat_tx (by simp only [List.length_append, List.length_cons, List.length_nil]; omega)]
   simp only [Bi]
   rw [ix_nat, hn]
   simp only [Bi]
   rw [hr.2.1]
   simp only [Bi]
   rw [cat_tx (by simp only [List.length_append, List.length_cons, List.length_nil]; omega)]
   simp only [Bi]
   rw [show str51 = tx [10] from rfl, cat_tx (by simp only [List.length_append, List.length_cons, List.length_nil]; omega)]
   simp only [Bi]
   refine .map (.ret ?_)
   show _ = _
   rw [w64_succ (by omega)]
   congr 2
   show _ = lnL i k ++ thL i.threads k i.threads.length ++ wdL k (i.code.getD k 0) (i.notes.getD k ⟨0, 0, false, false⟩).role
   rw [hw.2.2.2.1, hw.2.2.2.2]
   unfold wdL
   simp only [List.append_assoc]
 ·subst hs
  show Ok (ref15_List_l1b i _ _) _
  unfold ref15_List_l1b
  rw [if_neg (by simp)]
  exact .map (.ret rfl)
end
theorem law15_ImageWrites_law (i : TImage) (o : OK_TImage i) : law15_ImageWrites i = some true := by
 unfold law15_ImageWrites law15_great
 rw [alive, Bi, if_neg (by decide), Bi]
 by_cases hgr : (200 < (i.code.length : Int) ∨ 200 < (i.notes.length : Int)) ∨ 20 < (i.threads.length : Int)
 ·rw [if_pos (by simpa using hgr)]
 rw [if_neg (by simpa using hgr)]
 obtain ⟨b, hb, hbf⟩ := good_i i o
 have hr := good_same i o
 rw [hr, hb, Bi]
 cases b with
 | false =>
  rw [enc_not i hb, Bi, Bi, if_neg (by decide)]
  have h1 : image_List i = some ByteArray.empty := by unfold image_List; rw [hb]; rfl
  have h2 : ref15_List i = some ByteArray.empty := by unfold ref15_List; rw [hr, hb]; rfl
  rw [h1, h2, Bi, Bi]
  unfold law15_ImageWrites_k1
  rw [if_neg (by simp)]
  rfl
 | true =>
  have g := hbf rfl
  obtain ⟨b2, hb2, hw⟩ := good_words i o
  have e2 : b2 = true := Option.some.inj (hb2.symm.trans hb)
  have m : Im i := ⟨g, by omega, hw e2⟩
  rw [enc_is i hb g o, Bi, Bi, if_neg (by decide), list_is m hb, rlist_is m (hr.trans hb), Bi, Bi]
  unfold law15_ImageWrites_k1
  rw [if_neg (by simp), if_neg (by decide)]
  show (image_Decode (toB (EncB i))).bind _ = _
  rw [dec_enc i hb g o, Bi, bytes_is i g o]
  have c2 := g.c2
  have nl := g.nl
  have t8 := g.t8
  obtain ⟨s, hs, hsi⟩ := same_is i i ⟨by omega, by omega, by omega⟩
  have hst : s = true := hsi.2 rfl
  subst hst
  simp only [hs, Bi, decide_true, Bool.and_self, if_true]
end Go.Vm.G15w
