/-
  Part of an evaluator for the model, proved sound: no condition.
-/
import Derived.Test.YtdgkhadbanbmhaaVm23
set_option linter.unusedSimpArgs false
set_option linter.unusedVariables false
namespace Go.Vm
open Go Go.RowKit

structure Mod where
  funcs : List Fn
  threads : List Int

structure Opt where
  naive : Bool
  bare : Bool
  merged : Bool

structure Mod.Ok (x : Mod) : Prop where
  funcs : ∀ f ∈ x.funcs, f.Ok
  threads : ∀ t ∈ x.threads, I64 t

def RMod (V : Vw) (cs : List Value) (x : Mod) : Prop := ∃ vf vt, cs = [vf, vt] ∧ Sl 4 RFn V vf x.funcs ∧ Sl 1 RInt V vt x.threads
theorem RMod.ty : Ty 2 RMod := ⟨fun _ _ _ ⟨_, _, h, _⟩ => by rw [h]; rfl, fun _ _ _ ⟨_, _, h, h2, h3⟩ => by rw [h]; have := h2.one; have := h3.one; simp only [List.all_cons, List.all_nil, *]; rfl, fun _ _ _ _ he ⟨va, vt, h1, h2, h3⟩ => ⟨va, vt, h1, h2.up RFn.ty he, h3.up RInt.ty he⟩⟩
def ROpt (_ : Vw) (cs : List Value) (x : Opt) : Prop := cs = [.bool x.naive, .bool x.bare, .bool x.merged]

theorem Rd.mod {P : Program} {t tf tt f t3 : TypeId} {f0 f1 : Field} (hu : P.underlying t = some (.struct #[f0, f1])) (hsz : P.cellsOf t = 2) (hf : P.underlying tf = some (.slice f)) (ht : P.underlying tt = some (.slice t3)) (h3 : P.underlying t3 = some (.int .i64)) (c3 : P.cellsOf t3 = 1) (cf : P.cellsOf f = 4)
    (ctf : P.cellsOf tf = 1) (ctt : P.cellsOf tt = 1) (hfs : [f0, f1].map (fun f => (f.type, f.offset)) = [(tf, 0), (tt, 1)]) (hF : Rd P f 4 RFn Fn.Ok) : Rd P t 2 RMod Mod.Ok := by
  have hA := Rd.slice hf cf rfl hF
  have hB := Rd.slice ht c3 rfl (Rd.int h3)
  simp only [List.map_cons, List.map_nil, List.cons.injEq, Prod.mk.injEq, and_true] at hfs
  obtain ⟨⟨a0, b0⟩, a1, b1⟩ := hfs
  have key := Rd.struct hu hsz (RdF.cons (f := f0) b0 (by rw [a0]; exact ctf) (a0 ▸ hA) (RdF.cons (f := f1) b1 (by rw [a1]; exact ctt) (a1 ▸ hB) RdF.nil))
  refine key.map (fun y => ⟨y.1, y.2.1⟩) (fun H cs y hr ho => ?_)
  obtain ⟨_, _, rfl, ⟨va, rfl, hva⟩, _, _, rfl, ⟨vb, rfl, hvb⟩, rfl⟩ := hr
  obtain ⟨o0, o1, _⟩ := ho
  exact ⟨⟨va, vb, rfl, hva, hvb⟩, ⟨o0, o1⟩⟩

theorem Rd.opt {P : Program} {t tb : TypeId} {f0 f1 f2 : Field} (hu : P.underlying t = some (.struct #[f0, f1, f2])) (hsz : P.cellsOf t = 3) (hb : P.underlying tb = some .bool) (cb : P.cellsOf tb = 1) (hfs : [f0, f1, f2].map (fun f => (f.type, f.offset)) = [(tb, 0), (tb, 1), (tb, 2)]) : Rd P t 3 ROpt (fun _ => True) := by
  have hB := Rd.bool hb
  simp only [List.map_cons, List.map_nil, List.cons.injEq, Prod.mk.injEq, and_true] at hfs
  obtain ⟨⟨a0, b0⟩, ⟨a1, b1⟩, a2, b2⟩ := hfs
  have key := Rd.struct hu hsz (RdF.cons (f := f0) b0 (by rw [a0]; exact cb) (a0 ▸ hB) (RdF.cons (f := f1) b1 (by rw [a1]; exact cb) (a1 ▸ hB) (RdF.cons (f := f2) b2 (by rw [a2]; exact cb) (a2 ▸ hB) RdF.nil)))
  refine key.map (fun y => ⟨y.1, y.2.1, y.2.2.1⟩) (fun H cs y hr ho => ?_)
  obtain ⟨_, _, rfl, rfl, _, _, rfl, rfl, _, _, rfl, rfl, rfl⟩ := hr
  exact ⟨rfl, trivial⟩
end Go.Vm
