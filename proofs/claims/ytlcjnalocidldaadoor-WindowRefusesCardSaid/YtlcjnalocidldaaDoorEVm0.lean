/-
  Part of an evaluator for the model, proved sound: no condition.
-/
import Derived.Orders
import Derived.Calls
namespace Go.Vm
open Go
structure Loc where
 blk : Nat
 base : Nat
 esz : Nat
 csz : Nat
abbrev Inj := Nat → Option Loc
inductive AObj where
 | cells (esz : Nat) (c : List Value)
 | amap (l : List (Int × Value))
 | tcells (ty : TypeId) (c : List Value)
 | bld (ty : TypeId) (r n : Nat)
 | trow (ty : TypeId) (c : List Value)
structure AH where
 get : Nat → Option AObj
 next : Nat
 lo : Nat
def AH.cell (H : AH) (b o : Nat) : Option Value :=
 match H.get b with
 | some (.cells _ c) => c[o]?
 | some (.tcells _ c) => c[o]?
 | _ => none
def AH.upd (H : AH) (b : Nat) (x : Option AObj) : AH := { H with get := fun i => if i = b then x else H.get i }
def AH.new (H : AH) (x : AObj) : AH := { get := fun i => if i = H.next then some x else H.get i, next := H.next + 1, lo := H.lo }
def topV : Value := .tuple #[.tuple #[]]
inductive Atom : Value → Prop
 | bool (b : Bool) : Atom (.bool b)
 | int (k : IntKind) (n : Int) : Atom (.int k n)
 | string (s : ByteArray) : Atom (.string s)
 | nilPtr : Atom (.pointer none)
 | nilSlice : Atom (.slice none 0 0)
 | nilMap : Atom (.map none)
 | nilFunc : Atom .nilFunc
 | nilIface : Atom .nilIface
inductive VR (lo : Nat) (ι : Inj) : Value → Value → Prop
 | top (v : Value) : VR lo ι topV v
 | atom (v : Value) (h : Atom v) : VR lo ι v v
 | ptr (b o : Nat) (l : Loc) (h : ι b = some l) : VR lo ι (.pointer (some ⟨b, o, none⟩)) (.pointer (some ⟨l.blk, l.base + o, none⟩))
 | slice (b o n c : Nat) (l : Loc) (a' : Addr) (c' : Nat) (h : ι b = some l) (hc : n ≤ c') (ha : c' ≠ 0 → a' = ⟨l.blk, l.base + o, none⟩)
   (hs : lo ≤ b → (c = l.esz ∧ (c' ≠ 0 → l.base + o + c' * l.esz ≤ l.csz))) : VR lo ι (.slice (some ⟨b, o, none⟩) n c) (.slice (some a') n c')
 | map (b : Nat) (l : Loc) (h : ι b = some l) : VR lo ι (.map (some b)) (.map (some l.blk))
 | agg (xs ys : Array Value) (hs : xs.size = ys.size) (h : ∀ (i : Nat) (h1 : i < xs.size) (h2 : i < ys.size), VR lo ι xs[i] ys[i]) : VR lo ι (.agg xs) (.agg ys)
 | tuple (xs ys : Array Value) (hs : xs.size = ys.size) (h : ∀ (i : Nat) (h1 : i < xs.size) (h2 : i < ys.size), VR lo ι xs[i] ys[i]) : VR lo ι (.tuple xs) (.tuple ys)
 | func (fn : Fn) (xs ys us vs : Array Value) (hs : xs.size = ys.size) (h : ∀ (i : Nat) (h1 : i < xs.size) (h2 : i < ys.size), VR lo ι xs[i] ys[i])
   (hs' : us.size = vs.size) (h' : ∀ (i : Nat) (h1 : i < us.size) (h2 : i < vs.size), VR lo ι us[i] vs[i]) : VR lo ι (.func fn xs us) (.func fn ys vs)
def Inj.le (ι ι' : Inj) : Prop := ∀ b l, ι b = some l → ι' b = some l
theorem Inj.le_refl (ι : Inj) : ι.le ι := fun _ _ h => h
theorem Inj.le_trans {a b c : Inj} (h : a.le b) (h' : b.le c) : a.le c := fun x l hx => h' x l (h x l hx)
theorem VR.mono {lo : Nat} {ι ι' : Inj} (hle : ι.le ι') {v u : Value} (h : VR lo ι v u) : VR lo ι' v u := by
 induction h with
 | top v => exact .top v
 | atom v h => exact .atom v h
 | ptr b o l h => exact .ptr b o l (hle _ _ h)
 | slice b o n c l a' c' h hc ha hs => exact .slice b o n c l a' c' (hle _ _ h) hc ha hs
 | map b l h => exact .map b l (hle _ _ h)
 | agg xs ys hs h ih => exact .agg xs ys hs ih
 | tuple xs ys hs h ih => exact .tuple xs ys hs ih
 | func fn xs ys us vs hs h hs' h' ih ih' => exact .func fn xs ys us vs hs ih hs' ih'
inductive Flat : Value → Prop
 | atom (v : Value) (h : Atom v) : Flat v
 | agg (xs : Array Value) (h : ∀ (i : Nat) (h1 : i < xs.size), Flat xs[i]) : Flat (.agg xs)
theorem VR.atom_eq {lo : Nat} {ι : Inj} {v u : Value} (hv : Atom v) (h : VR lo ι v u) : u = v := by
 cases hv <;> cases h <;> first | rfl | (rename_i h; cases h)
theorem VR.flat_eq {lo : Nat} {ι : Inj} {v u : Value} (hv : Flat v) : VR lo ι v u → u = v := by
 induction hv generalizing u with
 | atom v h => exact fun hr => hr.atom_eq h
 | agg xs h ih =>
  intro hr
  generalize hx : Value.agg xs = x at hr
  cases hr with
  | agg xs' ys hs h' =>
   cases hx
   congr 1
   apply Array.ext hs.symm
   intro i h1 h2
   exact ih i h2 (h' i h2 h1)
  | atom _ ha => exact rfl
  | _ => cases hx
theorem VR.of_flat {lo : Nat} {ι : Inj} {v : Value} (hv : Flat v) : VR lo ι v v := by
 induction hv with
 | atom v h => exact .atom v h
 | agg xs h ih => exact .agg xs xs rfl (fun i h1 _ => ih i h1)
def Stmp (cs : Array MapEntry) (clock : Nat) : Prop := (cs.toList.map (·.born)).Nodup ∧ ∀ x ∈ cs.toList, x.born < clock
def ObjRel (lo : Nat) (ι : Inj) (b : Nat) (l : Loc) (w : World) : AObj → Prop
 | .cells esz c => ∃ cs elem fr, w.heap[l.blk]? = some (.cells cs elem fr) ∧ cs.size = l.csz ∧ l.esz = esz ∧ l.base + c.length ≤ cs.size ∧
   (∀ o v, c[o]? = some v → ∃ v', cs[l.base + o]? = some v' ∧ VR lo ι v v') ∧ (lo ≤ b → fr.1 = fr.2 ∨ cs.size ≤ fr.1)
 | .amap es => ∃ cs clock, w.heap[l.blk]? = some (.map cs clock) ∧ cs.size = es.length ∧
   (∀ (i : Nat) (k : Int) (v : Value), es[i]? = some (k, v) → ∃ e, cs[i]? = some e ∧ e.key = .int .i64 k ∧ VR lo ι v e.val) ∧ Stmp cs clock
 | .tcells ty c => ∃ cs, w.heap[l.blk]? = some (.cells cs ty (0, 0)) ∧ l.base = 0 ∧ cs.size = c.length ∧ ∀ (o : Nat) (v : Value), c[o]? = some v → ∃ v', cs[o]? = some v' ∧ VR lo ι v v'
 | .bld ty r n => ∃ lr, ι r = some lr ∧ w.heap[l.blk]? = some (.cells #[.pointer (some ⟨l.blk, 0, none⟩), .slice (some ⟨lr.blk, 0, none⟩) n lr.csz] ty (0, 0)) ∧ l.base = 0
 | .trow ty c => ∃ cs fr, w.heap[l.blk]? = some (.cells cs ty fr) ∧ l.base = 0 ∧ cs.size = l.csz ∧ l.csz ≤ 9223372036854775807 ∧ fr.2 ≤ c.length ∧ c.length ≤ cs.size ∧ cs.toList.take c.length = c
structure R (ι : Inj) (H : AH) (w : World) : Prop where
 obj : ∀ b l o, ι b = some l → H.get b = some o → ObjRel H.lo ι b l w o
 inj : ∀ b b' l l', ι b = some l → ι b' = some l' → H.get b ≠ none → H.get b' ≠ none → l.blk = l'.blk → b = b'
 dom : ∀ b l, ι b = some l → b < H.next ∧ l.blk < w.heap.size
 low : ∀ b, b < H.lo → ∃ l, ι b = some l ∧ l.blk = b ∧ l.base = 0 ∧ ∀ e c, H.get b = some (.cells e c) → l.csz = c.length
def Env (w w' : World) : Prop := w'.os = w.os ∧ w'.tape = w.tape ∧ w'.output = w.output
theorem Env.refl (w : World) : Env w w := ⟨rfl, rfl, rfl⟩
theorem Env.trans {a b c : World} (h : Env a b) (h' : Env b c) : Env a c := ⟨h'.1.trans h.1, h'.2.1.trans h.2.1, h'.2.2.trans h.2.2⟩
def Fr (ι : Inj) (H : AH) (w w' : World) : Prop :=
 w.heap.size ≤ w'.heap.size ∧ (∀ c, c < w.heap.size → (∀ b l, ι b = some l → l.blk = c → H.lo ≤ b → H.get b = none) → w'.heap[c]? = w.heap[c]?) ∧ Env w w'
structure NN (ι ι' : Inj) (H H' : AH) (w : World) : Prop where
 ext : ι.le ι'
 new : ∀ b l, ι' b = some l → ι b = some l ∨ (H.next ≤ b ∧ b < H'.next ∧ (w.heap.size ≤ l.blk ∨ ∃ b0 l0, ι b0 = some l0 ∧ H.lo ≤ b0 ∧ H.get b0 ≠ none ∧ l0.blk = l.blk))
 next : H.next ≤ H'.next
 lo : H'.lo = H.lo
 dead : ∀ b, b < H.next → H.get b = none → H'.get b = none
 cov : ∀ b, H.next ≤ b → b < H'.next → ∃ l, ι' b = some l
theorem Fr.refl (ι : Inj) (H : AH) (w : World) : Fr ι H w w := ⟨Nat.le_refl _, fun _ _ _ => rfl, Env.refl w⟩
theorem NN.refl (ι : Inj) (H : AH) (w : World) : NN ι ι H H w :=
 ⟨ι.le_refl, fun _ _ h => .inl h, Nat.le_refl _, rfl, fun _ _ h => h, fun _ _ _ => by omega⟩
theorem NN.trans {ι ι' ι'' : Inj} {H H' H'' : AH} {w w' : World} (hr : R ι H w) (h : NN ι ι' H H' w) (h' : NN ι' ι'' H' H'' w')
  (hw : w.heap.size ≤ w'.heap.size) : NN ι ι'' H H'' w := by
 refine ⟨Inj.le_trans h.ext h'.ext, fun b l hb => ?_, Nat.le_trans h.next h'.next, h'.lo.trans h.lo, fun b hb hd => h'.dead b (by have := h.next; omega) (h.dead b hb hd), fun b h1 h2 => by
  by_cases hb : b < H'.next
  ·obtain ⟨l, hl⟩ := h.cov b h1 hb
   exact ⟨l, h'.ext b l hl⟩
  ·exact h'.cov b (by omega) h2⟩
 rcases h'.new b l hb with hb | ⟨h1, h2, h3⟩
 ·rcases h.new b l hb with hb | ⟨h1, h2, h3⟩
  ·exact .inl hb
  ·exact .inr ⟨h1, by have := h'.next; omega, h3⟩
 ·refine .inr ⟨by have := h.next; omega, h2, ?_⟩
  rcases h3 with h3 | ⟨b0, l0, h4, h5, h6, h7⟩
  ·exact .inl (by omega)
  ·rcases h.new b0 l0 h4 with h8 | ⟨h8, h9, h10⟩
   ·refine .inr ⟨b0, l0, h8, h.lo ▸ h5, fun hd => h6 (h.dead b0 (hr.dom _ _ h8).1 hd), h7⟩
   ·rcases h10 with h10 | ⟨b1, l1, h11, h12, h13, h14⟩
    ·exact .inl (h7 ▸ h10)
    ·exact .inr ⟨b1, l1, h11, h12, h13, h14.trans h7⟩
theorem Fr.trans {ι ι' : Inj} {H H' : AH} {w w' w'' : World} (hr : R ι H w) (hn : NN ι ι' H H' w) (h : Fr ι H w w') (h' : Fr ι' H' w' w'') : Fr ι H w w'' := by
 refine ⟨Nat.le_trans h.1 h'.1, fun c hc hd => ?_, h.2.2.trans h'.2.2⟩
 rw [← h.2.1 c hc hd]
 refine h'.2.1 c (by have := h.1; omega) (fun b l hb hlc hlo => ?_)
 rcases hn.new b l hb with hb | ⟨h1, h2, h3⟩
 ·have h4 := hd b l hb hlc (hn.lo ▸ hlo)
  exact hn.dead b (hr.dom _ _ hb).1 h4
 ·rcases h3 with h3 | ⟨b0, l0, h4, h5, h6, h7⟩
  ·omega
  ·exact absurd (hd b0 l0 h4 (h7.trans hlc) h5) h6
end Go.Vm
namespace Go.Vm
open Go
def One : Value → Bool
 | .agg _ | .tuple _ => false
 | _ => true
theorem VR.one {lo : Nat} {ι : Inj} {v u : Value} (h : VR lo ι v u) (hv : One v = true) : One u = true := by
 cases h <;> first | rfl | exact hv | exact absurd hv (by simp [One, topV])
theorem R.cell {ι : Inj} {H : AH} {w : World} (hr : R ι H w) {b o : Nat} {l : Loc} {v : Value} (hb : ι b = some l) (hc : H.cell b o = some v) :
  ∃ v', w.cell? ⟨l.blk, l.base + o, none⟩ = some v' ∧ VR H.lo ι v v' := by
 unfold AH.cell at hc
 split at hc
 ·rename_i esz c hg
  obtain ⟨cs, elem, fr, h1, h2, h3, h4, h5, h6⟩ := hr.obj b l _ hb hg
  obtain ⟨v', h7, h8⟩ := h5 o v hc
  exact ⟨v', by simp [World.cell?, h1, h7], h8⟩
 ·rename_i ty c hg
  obtain ⟨cs, h1, h2, h3, h5⟩ := hr.obj b l _ hb hg
  obtain ⟨v', h7, h8⟩ := h5 o v hc
  exact ⟨v', by simp [World.cell?, h1, h2, h7], h8⟩
 ·cases hc
def push (w : World) (x : Obj) : World := { w with heap := w.heap.push x }
theorem push_old {w : World} {x : Obj} {c : Nat} (h : c < w.heap.size) : (push w x).heap[c]? = w.heap[c]? := by
 simp [push, Array.getElem?_push, Nat.ne_of_lt h]
theorem unfz {w : World} {g : Nat} {cs : Array Value} {elem : TypeId} {fr : Nat × Nat} (hg : w.heap[g]? = some (.cells cs elem fr)) (hf : fr.1 = fr.2 ∨ cs.size ≤ fr.1) : ∀ o, o < cs.size → w.frozen? ⟨g, o, none⟩ = false := by
 intro o ho
 obtain ⟨f1, f2⟩ := fr
 simp only [World.frozen?, hg]
 simp at hf ⊢
 omega
theorem ObjRel.keep {lo : Nat} {ι ι' : Inj} {b : Nat} {l : Loc} {w w' : World} {x : AObj} (hle : ι.le ι') (hw : w'.heap[l.blk]? = w.heap[l.blk]?)
  (h : ObjRel lo ι b l w x) : ObjRel lo ι' b l w' x := by
 cases x with
 | cells esz c =>
  obtain ⟨cs, elem, fr, h1, h2, h3, h4, h5, h6⟩ := h
  refine ⟨cs, elem, fr, hw.trans h1, h2, h3, h4, fun o v ho => ?_, h6⟩
  ·obtain ⟨v', h7, h8⟩ := h5 o v ho
   exact ⟨v', h7, h8.mono hle⟩
 | amap es =>
  obtain ⟨cs, clock, h1, h2, h3, hst⟩ := h
  refine ⟨cs, clock, hw.trans h1, h2, fun i k v hi => ?_, hst⟩
  obtain ⟨e, h4, h5, h6⟩ := h3 i k v hi
  exact ⟨e, h4, h5, h6.mono hle⟩
 | tcells ty c =>
  obtain ⟨cs, h1, h2, h3, h4⟩ := h
  refine ⟨cs, hw.trans h1, h2, h3, fun o v ho => ?_⟩
  obtain ⟨v', h7, h8⟩ := h4 o v ho
  exact ⟨v', h7, h8.mono hle⟩
 | bld ty r n =>
  obtain ⟨lr, h1, h2, h3⟩ := h
  exact ⟨lr, hle _ _ h1, hw.trans h2, h3⟩
 | trow ty c =>
  obtain ⟨cs, fr, h1, h2⟩ := h
  exact ⟨cs, fr, hw.trans h1, h2⟩
def Inj.ext (ι : Inj) (b : Nat) (l : Loc) : Inj := fun i => if i = b then some l else ι i
theorem Inj.ext_self {ι : Inj} {b : Nat} {l : Loc} : ι.ext b l b = some l := by simp [Inj.ext]
theorem Inj.ext_ne {ι : Inj} {b i : Nat} {l : Loc} (h : i ≠ b) : ι.ext b l i = ι i := by simp [Inj.ext, h]
theorem R.ext_le {ι : Inj} {H : AH} {w : World} (hr : R ι H w) (l : Loc) : ι.le (ι.ext H.next l) := fun b l' hb => by
 have := (hr.dom b l' hb).1
 rw [Inj.ext_ne (by omega)]; exact hb
theorem eq_next {H : AH} {x : AObj} {b : Nat} (h1 : H.next ≤ b) (h2 : b < (H.new x).next) : b = H.next := by
 simp [AH.new] at h2; omega
theorem R.new {ι : Inj} {H : AH} {w : World} (hr : R ι H w) {x : AObj} {y : Obj} {l : Loc} (hl : l.blk = w.heap.size)
  (hx : ObjRel H.lo (ι.ext H.next l) H.next l (push w y) x) :
  R (ι.ext H.next l) (H.new x) (push w y) ∧ NN ι (ι.ext H.next l) H (H.new x) w ∧ Fr ι H w (push w y) := by
 have hle := hr.ext_le l
 refine ⟨⟨fun b l' o hb hg => ?_, fun b b' l1 l2 hb hb' hg hg' he => ?_, fun b l' hb => ?_, fun b hb => ?_⟩, ⟨hle, fun b l' hb => ?_, by simp [AH.new], rfl, fun b hb hd => ?_, fun b h1 h2 => ⟨l, by rw [eq_next h1 h2]; exact Inj.ext_self⟩⟩, ⟨by simp [push], fun c hc _ => push_old hc, ⟨rfl, rfl, rfl⟩⟩⟩
 ·by_cases hbn : b = H.next
  ·subst hbn
   rw [Inj.ext_self] at hb
   cases hb
   simp [AH.new] at hg
   subst hg
   exact hx
  ·rw [Inj.ext_ne hbn] at hb
   simp [AH.new, hbn] at hg
   exact (hr.obj b l' o hb hg).keep hle (push_old (hr.dom b l' hb).2)
 ·by_cases hbn : b = H.next <;> by_cases hbn' : b' = H.next
  ·exact hbn.trans hbn'.symm
  ·subst hbn
   rw [Inj.ext_self] at hb
   rw [Inj.ext_ne hbn'] at hb'
   cases hb
   have := (hr.dom b' l2 hb').2
   omega
  ·subst hbn'
   rw [Inj.ext_self] at hb'
   rw [Inj.ext_ne hbn] at hb
   cases hb'
   have := (hr.dom b l1 hb).2
   omega
  ·rw [Inj.ext_ne hbn] at hb
   rw [Inj.ext_ne hbn'] at hb'
   simp [AH.new, hbn] at hg
   simp [AH.new, hbn'] at hg'
   exact hr.inj b b' l1 l2 hb hb' hg hg' he
 ·by_cases hbn : b = H.next
  ·subst hbn
   rw [Inj.ext_self] at hb
   cases hb
   simp [AH.new, push, hl]
  ·rw [Inj.ext_ne hbn] at hb
   have := hr.dom b l' hb
   simp [AH.new, push]
   omega
 ·obtain ⟨l', h1, h2, h2', h3⟩ := hr.low b hb
  have hbn : b ≠ H.next := by have := (hr.dom b l' h1).1; omega
  exact ⟨l', hle _ _ h1, h2, h2', fun e c hg => h3 e c (by simpa [AH.new, hbn] using hg)⟩
 ·by_cases hbn : b = H.next
  ·subst hbn
   rw [Inj.ext_self] at hb
   cases hb
   exact .inr ⟨Nat.le_refl _, by simp [AH.new], .inl (by omega)⟩
  ·rw [Inj.ext_ne hbn] at hb
   exact .inl hb
 ·have : b ≠ H.next := by omega
  simp [AH.new, this, hd]
theorem R.write {ι : Inj} {H : AH} {w w' : World} (hr : R ι H w) {b : Nat} {l : Loc} {x : AObj} (hb : ι b = some l) (hlo : H.lo ≤ b) (hne : H.get b ≠ none)
  (hsz : w'.heap.size = w.heap.size) (hoth : ∀ c, c ≠ l.blk → w'.heap[c]? = w.heap[c]?)
  (henv : Env w w') (hx : ObjRel H.lo ι b l w' x) :
  R ι (H.upd b (some x)) w' ∧ NN ι ι H (H.upd b (some x)) w ∧ Fr ι H w w' := by
 refine ⟨⟨fun b' l' o hb' hg => ?_, fun b1 b2 l1 l2 h1 h2 hg hg' he => ?_, fun b' l' hb' => ?_, fun b' hb' => ?_⟩, ⟨ι.le_refl, fun _ _ h => .inl h, Nat.le_refl _, rfl, fun b' hb' hd => ?_, fun b' h1 h2 => by simp [AH.upd] at h2; omega⟩, ⟨by omega, fun c hc hd => ?_, henv⟩⟩
 ·by_cases hbb : b' = b
  ·subst hbb
   rw [hb] at hb'
   cases hb'
   simp [AH.upd] at hg
   subst hg
   exact hx
  ·simp [AH.upd, hbb] at hg
   have hne' : l'.blk ≠ l.blk := fun he => hbb (hr.inj b' b l' l hb' hb (by rw [hg]; simp) hne he)
   exact (hr.obj b' l' o hb' hg).keep ι.le_refl (hoth _ hne')
 ·have key : ∀ b', (H.upd b (some x)).get b' ≠ none → H.get b' ≠ none := fun b' h => by
   by_cases hbb : b' = b
   ·subst hbb; exact hne
   ·simpa [AH.upd, hbb] using h
  exact hr.inj b1 b2 l1 l2 h1 h2 (key b1 hg) (key b2 hg') he
 ·have := hr.dom b' l' hb'
  simp [AH.upd]
  omega
 ·obtain ⟨l', h1, h2, h2', h3⟩ := hr.low b' hb'
  have hb' : b' < H.lo := hb'
  have hbb : b' ≠ b := by omega
  exact ⟨l', h1, h2, h2', fun e c hg => h3 e c (by simpa [AH.upd, hbb] using hg)⟩
 ·have hbb : b' ≠ b := fun e => hne (e ▸ hd)
  simp [AH.upd, hbb, hd]
 ·exact hoth c (fun e => hne (hd b l hb e.symm hlo))
end Go.Vm
