/-
  Part of an evaluator for the model, proved sound: no condition.
-/
import Derived.Test.YtngmbcedamphmaaEVm6
set_option linter.unusedSimpArgs false
set_option linter.unusedVariables false
namespace Go.Vm
open Go
inductive Rk where
 | blk (b : Nat)
 | cell (b o : Nat)
def Rk.b : Rk → Nat
 | .blk b => b
 | .cell b _ => b
instance : Coe Nat Rk := ⟨.blk⟩
def AH.look (H : AH) : Rk → Option AObj
 | .blk b => H.get b
 | .cell b o => (H.cell b o).map fun v => .cells 0 [v]
theorem cell_get {G H : AH} {b o : Nat} (h : G.get b = H.get b) : G.cell b o = H.cell b o := by unfold AH.cell; rw [h]
theorem look_get {G H : AH} {r : Rk} (h : G.get r.b = H.get r.b) : G.look r = H.look r := by
 cases r with
 | blk b => exact h
 | cell b o => exact congrArg (Option.map fun v => AObj.cells 0 [v]) (cell_get (o := o) h)
theorem lookC {G H : AH} {b o : Nat} {v : Value} (h : G.cell b o = some v) (h' : H.cell b o = some v) : G.look (.cell b o) = H.look (.cell b o) := congrArg (Option.map fun v => AObj.cells 0 [v]) (h.trans h'.symm)
theorem look_cell {G H : AH} {b o : Nat} (h : G.look (.cell b o) = H.look (.cell b o)) : G.cell b o = H.cell b o := by
 have h : (G.cell b o).map (fun v => AObj.cells 0 [v]) = (H.cell b o).map (fun v => AObj.cells 0 [v]) := h
 revert h
 cases G.cell b o <;> cases H.cell b o <;> simp
inductive Kind where
 | pure
 | read (r : Rk)
 | alloc (b : Nat)
 | eff
abbrev CallRel := FuncId → Array Value → AH → Value → AH → Prop
def enterable (P : Program) (g : FuncId) : Prop := ∃ fn, P.funcs[g]? = some fn ∧ (fn.name == "runtime.NumGoroutine") = false ∧ fn.body.isNone = false
inductive Step (P : Program) (C : CallRel) (o : Oper) (t : T) (H : AH) : Kind → Value → AH → Prop
 | p (v : Value) (h : POp P H.lo (aev t) o v) : Step P C o t H .pure v H
 | b (v : Value) (h : BOp P (aev t) o v) : Step P C o t H .pure v H
 | l (r : Nat) (v : Value) (h : LOp P (aev t) H o r v) : Step P C o t H (.read (.blk r)) v H
 | lc (b off : Nat) (v : Value) (h : ∀ G : AH, G.lo = H.lo → G.look (.cell b off) = H.look (.cell b off) → LOp P (aev t) G o b v) : Step P C o t H (.read (.cell b off)) v H
 | a (v : Value) (x : AObj) (h : AOp P (aev t) o H.next v x) : Step P C o t H (.alloc H.next) v (H.new x)
 | m (r : MRes) (H' : AH) (h : MOp P (aev t) H o r H') : Step P C o t H .eff r.get H'
 | app (r : MRes) (H' : AH) (h : AppOp P (aev t) H o r H') : Step P C o t H .eff r.get H'
 | call (f : Operand) (xs : Array Operand) (ts : Array TypeId) (g : FuncId) (us vs : Array Value) (v : Value) (H' : AH) (ho : o.op = .call { callee := .value f, args := xs, argTypes := ts })
   (hf : aev t f = .func (.func g) us vs) (he : enterable P g) (hc : C g (us ++ xs.map (aev t) ++ vs) H v H') : Step P C o t H .eff v H'
def Snd (P : Program) (C : CallRel) : Prop := ∀ g args H v H', C g args H v H' → ∀ ι w cargs, R ι H w → VRs H.lo ι args cargs →
 Calls P g cargs w fun e w' => ∃ u ι', e = .returned u ∧ VR H.lo ι' v u ∧ After ι H H' w w' ι'
def put (t : T) (dst : Option Tmp) (v : Value) : T :=
 match dst with
 | some d => fun i => if i = d then v else t i
 | none => t
theorem FR.mono {lo : Nat} {ι ι' : Inj} {t : T} {a : Act} (hle : ι.le ι') (h : FR lo ι t a) : FR lo ι' t a := fun i => (h i).mono hle
theorem FR.put {lo : Nat} {ι : Inj} {t : T} {a : Act} {dst : Option Tmp} {v u : Value} (h : FR lo ι t a) (hv : VR lo ι v u) (hd : ∀ d, dst = some d → d < a.tmps.size) : FR lo ι (Vm.put t dst v) (a.put dst u) := by
 cases dst with
 | none => exact h
 | some d =>
  intro i
  have hd := hd d rfl
  simp only [Vm.put, Act.put]
  by_cases hi : i = d
  ·subst hi
   simp [hd, hv]
  ·rw [if_neg hi]
   have := h i
   simp only [Array.getD_eq_getD_getElem?] at this ⊢
   rwa [Array.getElem?_setIfInBounds_ne (Ne.symm hi)]
theorem After.refl {ι : Inj} {H : AH} {w : World} (hr : R ι H w) : After ι H H w w ι := ⟨NN.refl _ _ _, hr, Fr.refl _ _ _⟩
theorem After.trans {ι ι' ι'' : Inj} {H H' H'' : AH} {w w' w'' : World} (hr : R ι H w) (h : After ι H H' w w' ι') (h' : After ι' H' H'' w' w'' ι'') : After ι H H'' w w'' ι'' :=
 ⟨h.1.trans hr h'.1 h.2.2.1, h'.2.1, h.2.2.trans hr h.1 h'.2.2⟩
theorem Step.sim {P : Program} {C : CallRel} (hC : Snd P C) {o : Oper} {t : T} {H H' : AH} {k : Kind} {v : Value} {ι : Inj} {a : Act} {w : World} (h : Step P C o t H k v H') (hr : R ι H w)
  (hv : ∀ x ∈ o.op.operands, VR H.lo ι (aev t x) (a.eval x)) (K : Act → World → Prop) (Q : Exit → Act → World → Prop)
  (hK : ∀ u w' ι', After ι H H' w w' ι' → VR H.lo ι' v u → K (a.put o.dst u) w') : o.wp P a w K Q := by
 unfold Oper.wp
 cases h with
 | p v h =>
  obtain ⟨v', h1, h2⟩ := h.sim hv w
  rw [h2]
  exact hK v' w ι (After.refl hr) h1
 | b v h =>
  obtain ⟨v', h1, h2⟩ := h.sim hv w
  rw [h2]
  exact hK v' w ι (After.refl hr) h1
 | l r v h =>
  obtain ⟨v', h1, h2⟩ := h.sim hr hv
  rw [h2]
  exact hK v' w ι (After.refl hr) h1
 | lc b off v h =>
  obtain ⟨v', h1, h2⟩ := (h H rfl rfl).sim hr hv
  rw [h2]
  exact hK v' w ι (After.refl hr) h1
 | a v x h =>
  obtain ⟨l, v', w', y, h1, ⟨h2, henv⟩, h3, h4, h5⟩ := h.sim hr hv
  rw [h5]
  obtain ⟨h6, h7, h8⟩ := hr.new' h1 h2 henv h4
  exact hK v' w' _ ⟨h7, h6, h8⟩ h3
 | m r H' h =>
  obtain ⟨m', ι', w', h1, h2, h3⟩ := h.sim hr hv
  rw [h3]
  cases r <;> cases m' <;> first | exact h1.elim | exact hK _ w' ι' h2 h1 | exact hK _ w' ι' h2 (.tuple _ _ rfl (fun i h1 _ => by simp at h1))
 | app r H' h =>
  obtain ⟨m', ι', w', h1, h2, h3⟩ := h.sim hr hv
  rw [h3]
  cases r <;> cases m' <;> first | exact h1.elim | exact hK _ w' ι' h2 h1 | exact hK _ w' ι' h2 (.tuple _ _ rfl (fun i h1 _ => by simp at h1))
 | call f xs ts g us vs v H' ho hf he hc =>
  have h1 := hv f (by simp [ho, Op.operands, Call.operands])
  rw [hf] at h1
  obtain ⟨us', vs', h2, h3, h4⟩ : ∃ us' vs', a.eval f = .func (.func g) us' vs' ∧ VRs H.lo ι us us' ∧ VRs H.lo ι vs vs' := by
   generalize a.eval f = y at h1
   generalize hx : Value.func (.func g) us vs = x at h1
   cases h1 with
   | func fn xs ys us vs hs h hs' h' => cases hx; exact ⟨_, _, rfl, ⟨hs, h⟩, ⟨hs', h'⟩⟩
   | atom _ h => subst hx; cases h
   | _ => cases hx
  obtain ⟨fn, h5, h6, h7⟩ := he
  have hrun : (execOp a.eval o).run P w = .ok (.enter g (us' ++ xs.map a.eval ++ vs')) w := by
   simp [execOp, ho, resolve, h2, Deferred.ofValue, invoke, callFunc, h5, h6, h7]
   have h6' : ¬ fn.name = "runtime.NumGoroutine" := by simpa using h6
   have h7' : ¬ fn.body = none := by intro e; rw [e] at h7; simp at h7
   simp [h6', h7']
  rw [hrun]
  show Calls P g _ w _
  have hargs : VRs H.lo ι (us ++ xs.map (aev t) ++ vs) (us' ++ xs.map a.eval ++ vs') := by
   have happ : ∀ {xs ys us vs : Array Value}, VRs H.lo ι xs ys → VRs H.lo ι us vs → VRs H.lo ι (xs ++ us) (ys ++ vs) := fun {xs ys us vs} h h' => by
    refine ⟨by simp [h.1, h'.1], fun i h1 h2 => ?_⟩
    by_cases hi : i < xs.size
    ·rw [Array.getElem_append_left hi, Array.getElem_append_left (by have := h.1; omega)]
     exact h.2 i hi _
    ·rw [Array.getElem_append_right (by omega), Array.getElem_append_right (by have := h.1; omega)]
     simp only [h.1]
     exact h'.2 _ _ _
   refine happ (happ h3 ⟨by simp, fun i h1 h2 => ?_⟩) h4
   simp only [Array.getElem_map]
   exact hv _ (by simp [ho, Op.operands, Call.operands])
  refine (hC _ _ _ _ _ hc ι w _ hr hargs).mono ?_
  rintro e w' ⟨u, ι', rfl, h8, h9⟩
  exact hK u w' ι' h9 h8
end Go.Vm
