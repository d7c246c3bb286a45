/-
  Part of an evaluator for the model, proved sound: no condition.
-/
import Derived.Test.YtngmbcedamphmaaEVm0
namespace Go.Vm
open Go
def One : Value → Bool
 | .agg _ | .tuple _ => false
 | _ => true
theorem VR.one {lo : Nat} {ι : Inj} {v u : Value} (h : VR lo ι v u) (hv : One v = true) : One u = true := by
 cases h <;> first | rfl | exact hv | exact absurd hv (by simp [One, topV])
theorem R.cell {ι : Inj} {H : AH} {w : World} (hr : R ι H w) {b o : Nat} {l : Loc} {v : Value} (hb : ι b = some l) (hc : H.cell b o = some v) :
  ∃ v', w.cell? ⟨l.blk, l.base + o, none⟩ = some v' ∧ VR H.lo ι v v' := by
 unfold AH.cell at hc
 split at hc
 ·rename_i esz c hg
  obtain ⟨cs, elem, fr, h1, h2, h3, h4, h5, h6⟩ := hr.obj b l _ hb hg
  obtain ⟨v', h7, h8⟩ := h5 o v hc
  exact ⟨v', by simp [World.cell?, h1, h7], h8⟩
 ·rename_i ty c hg
  obtain ⟨cs, h1, h2, h3, h5⟩ := hr.obj b l _ hb hg
  obtain ⟨v', h7, h8⟩ := h5 o v hc
  exact ⟨v', by simp [World.cell?, h1, h2, h7], h8⟩
 ·cases hc
def push (w : World) (x : Obj) : World := { w with heap := w.heap.push x }
theorem push_old {w : World} {x : Obj} {c : Nat} (h : c < w.heap.size) : (push w x).heap[c]? = w.heap[c]? := by
 simp [push, Array.getElem?_push, Nat.ne_of_lt h]
theorem unfz {w : World} {g : Nat} {cs : Array Value} {elem : TypeId} {fr : Nat × Nat} (hg : w.heap[g]? = some (.cells cs elem fr)) (hf : fr.1 = fr.2 ∨ cs.size ≤ fr.1) : ∀ o, o < cs.size → w.frozen? ⟨g, o, none⟩ = false := by
 intro o ho
 obtain ⟨f1, f2⟩ := fr
 simp only [World.frozen?, hg]
 simp at hf ⊢
 omega
theorem ObjRel.keep {lo : Nat} {ι ι' : Inj} {b : Nat} {l : Loc} {w w' : World} {x : AObj} (hle : ι.le ι') (hw : w'.heap[l.blk]? = w.heap[l.blk]?)
  (h : ObjRel lo ι b l w x) : ObjRel lo ι' b l w' x := by
 cases x with
 | cells esz c =>
  obtain ⟨cs, elem, fr, h1, h2, h3, h4, h5, h6⟩ := h
  refine ⟨cs, elem, fr, hw.trans h1, h2, h3, h4, fun o v ho => ?_, h6⟩
  ·obtain ⟨v', h7, h8⟩ := h5 o v ho
   exact ⟨v', h7, h8.mono hle⟩
 | amap es =>
  obtain ⟨cs, clock, h1, h2, h3, hst⟩ := h
  refine ⟨cs, clock, hw.trans h1, h2, fun i k v hi => ?_, hst⟩
  obtain ⟨e, h4, h5, h6⟩ := h3 i k v hi
  exact ⟨e, h4, h5, h6.mono hle⟩
 | tcells ty c =>
  obtain ⟨cs, h1, h2, h3, h4⟩ := h
  refine ⟨cs, hw.trans h1, h2, h3, fun o v ho => ?_⟩
  obtain ⟨v', h7, h8⟩ := h4 o v ho
  exact ⟨v', h7, h8.mono hle⟩
def Inj.ext (ι : Inj) (b : Nat) (l : Loc) : Inj := fun i => if i = b then some l else ι i
theorem Inj.ext_self {ι : Inj} {b : Nat} {l : Loc} : ι.ext b l b = some l := by simp [Inj.ext]
theorem Inj.ext_ne {ι : Inj} {b i : Nat} {l : Loc} (h : i ≠ b) : ι.ext b l i = ι i := by simp [Inj.ext, h]
theorem R.ext_le {ι : Inj} {H : AH} {w : World} (hr : R ι H w) (l : Loc) : ι.le (ι.ext H.next l) := fun b l' hb => by
 have := (hr.dom b l' hb).1
 rw [Inj.ext_ne (by omega)]; exact hb
theorem eq_next {H : AH} {x : AObj} {b : Nat} (h1 : H.next ≤ b) (h2 : b < (H.new x).next) : b = H.next := by
 simp [AH.new] at h2; omega
theorem R.new {ι : Inj} {H : AH} {w : World} (hr : R ι H w) {x : AObj} {y : Obj} {l : Loc} (hl : l.blk = w.heap.size)
  (hx : ObjRel H.lo (ι.ext H.next l) H.next l (push w y) x) :
  R (ι.ext H.next l) (H.new x) (push w y) ∧ NN ι (ι.ext H.next l) H (H.new x) w ∧ Fr ι H w (push w y) := by
 have hle := hr.ext_le l
 refine ⟨⟨fun b l' o hb hg => ?_, fun b b' l1 l2 hb hb' hg hg' he => ?_, fun b l' hb => ?_, fun b hb => ?_⟩, ⟨hle, fun b l' hb => ?_, by simp [AH.new], rfl, fun b hb hd => ?_, fun b h1 h2 => ⟨l, by rw [eq_next h1 h2]; exact Inj.ext_self⟩⟩, ⟨by simp [push], fun c hc _ => push_old hc, ⟨rfl, rfl, rfl⟩⟩⟩
 ·by_cases hbn : b = H.next
  ·subst hbn
   rw [Inj.ext_self] at hb
   cases hb
   simp [AH.new] at hg
   subst hg
   exact hx
  ·rw [Inj.ext_ne hbn] at hb
   simp [AH.new, hbn] at hg
   exact (hr.obj b l' o hb hg).keep hle (push_old (hr.dom b l' hb).2)
 ·by_cases hbn : b = H.next <;> by_cases hbn' : b' = H.next
  ·exact hbn.trans hbn'.symm
  ·subst hbn
   rw [Inj.ext_self] at hb
   rw [Inj.ext_ne hbn'] at hb'
   cases hb
   have := (hr.dom b' l2 hb').2
   omega
  ·subst hbn'
   rw [Inj.ext_self] at hb'
   rw [Inj.ext_ne hbn] at hb
   cases hb'
   have := (hr.dom b l1 hb).2
   omega
  ·rw [Inj.ext_ne hbn] at hb
   rw [Inj.ext_ne hbn'] at hb'
   simp [AH.new, hbn] at hg
   simp [AH.new, hbn'] at hg'
   exact hr.inj b b' l1 l2 hb hb' hg hg' he
 ·by_cases hbn : b = H.next
  ·subst hbn
   rw [Inj.ext_self] at hb
   cases hb
   simp [AH.new, push, hl]
  ·rw [Inj.ext_ne hbn] at hb
   have := hr.dom b l' hb
   simp [AH.new, push]
   omega
 ·obtain ⟨l', h1, h2, h2', h3⟩ := hr.low b hb
  have hbn : b ≠ H.next := by have := (hr.dom b l' h1).1; omega
  exact ⟨l', hle _ _ h1, h2, h2', fun e c hg => h3 e c (by simpa [AH.new, hbn] using hg)⟩
 ·by_cases hbn : b = H.next
  ·subst hbn
   rw [Inj.ext_self] at hb
   cases hb
   exact .inr ⟨Nat.le_refl _, by simp [AH.new], .inl (by omega)⟩
  ·rw [Inj.ext_ne hbn] at hb
   exact .inl hb
 ·have : b ≠ H.next := by omega
  simp [AH.new, this, hd]
theorem R.write {ι : Inj} {H : AH} {w w' : World} (hr : R ι H w) {b : Nat} {l : Loc} {x : AObj} (hb : ι b = some l) (hlo : H.lo ≤ b) (hne : H.get b ≠ none)
  (hsz : w'.heap.size = w.heap.size) (hoth : ∀ c, c ≠ l.blk → w'.heap[c]? = w.heap[c]?)
  (henv : Env w w') (hx : ObjRel H.lo ι b l w' x) :
  R ι (H.upd b (some x)) w' ∧ NN ι ι H (H.upd b (some x)) w ∧ Fr ι H w w' := by
 refine ⟨⟨fun b' l' o hb' hg => ?_, fun b1 b2 l1 l2 h1 h2 hg hg' he => ?_, fun b' l' hb' => ?_, fun b' hb' => ?_⟩, ⟨ι.le_refl, fun _ _ h => .inl h, Nat.le_refl _, rfl, fun b' hb' hd => ?_, fun b' h1 h2 => by simp [AH.upd] at h2; omega⟩, ⟨by omega, fun c hc hd => ?_, henv⟩⟩
 ·by_cases hbb : b' = b
  ·subst hbb
   rw [hb] at hb'
   cases hb'
   simp [AH.upd] at hg
   subst hg
   exact hx
  ·simp [AH.upd, hbb] at hg
   have hne' : l'.blk ≠ l.blk := fun he => hbb (hr.inj b' b l' l hb' hb (by rw [hg]; simp) hne he)
   exact (hr.obj b' l' o hb' hg).keep ι.le_refl (hoth _ hne')
 ·have key : ∀ b', (H.upd b (some x)).get b' ≠ none → H.get b' ≠ none := fun b' h => by
   by_cases hbb : b' = b
   ·subst hbb; exact hne
   ·simpa [AH.upd, hbb] using h
  exact hr.inj b1 b2 l1 l2 h1 h2 (key b1 hg) (key b2 hg') he
 ·have := hr.dom b' l' hb'
  simp [AH.upd]
  omega
 ·obtain ⟨l', h1, h2, h2', h3⟩ := hr.low b' hb'
  have hb' : b' < H.lo := hb'
  have hbb : b' ≠ b := by omega
  exact ⟨l', h1, h2, h2', fun e c hg => h3 e c (by simpa [AH.upd, hbb] using hg)⟩
 ·have hbb : b' ≠ b := fun e => hne (e ▸ hd)
  simp [AH.upd, hbb, hd]
 ·exact hoth c (fun e => hne (hd b l hb e.symm hlo))
end Go.Vm
