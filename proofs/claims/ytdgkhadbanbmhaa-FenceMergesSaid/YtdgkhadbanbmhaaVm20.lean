/-
  Part of an evaluator for the model, proved sound: no condition.
-/
import Derived.Test.YtdgkhadbanbmhaaVm19
set_option linter.unusedSimpArgs false
set_option linter.unusedVariables false
namespace Go.Vm
open Go Go.RowKit

/-! ## Structs that are read -/

def RdF (P : Program) (off : Nat) (fs : List Field) (sz : Nat) {α : Type} (RE : Vw → List Value → α → Prop) (OK : α → Prop) : Prop :=
  ∀ (HH : Type) (enc : TypeId × Value → HH) (w : World) (fuel : Nat) (cs : List Value), Sure w cs → cs.length = off + sz → (∀ f ∈ fs, ∃ x : DataW HH × List MemPlace, DataW.trod enc P w 0 (fun _ => true) true fuel f.type ((cs.drop f.offset).take (P.cellsOf f.type)) = some x) →
    (∀ v ∈ cs.drop off, Good w v) ∧ ∃ y, RE (V0of w) ((cs.drop off).map aV) y ∧ OK y

theorem RdF.nil {P : Program} {off : Nat} : RdF P off [] 0 (fun _ cs (_ : Unit) => cs = []) (fun _ => True) := by
  intro HH enc w fuel cs hs hl h
  have : cs.drop off = [] := List.drop_eq_nil_of_le (by omega)
  rw [this]
  exact ⟨(fun v hv => nomatch hv), (), rfl, trivial⟩

theorem RdF.cons {P : Program} {off n m : Nat} {f : Field} {fs : List Field} {α β : Type} {RE1 : Vw → List Value → α → Prop} {RE2 : Vw → List Value → β → Prop} {OK1 : α → Prop} {OK2 : β → Prop} (ho : f.offset = off) (hn : P.cellsOf f.type = n)
    (h1 : Rd P f.type n RE1 OK1) (h2 : RdF P (off + n) fs m RE2 OK2) : RdF P off (f :: fs) (n + m) (fun H cs (y : α × β) => ∃ c1 c2, cs = c1 ++ c2 ∧ RE1 H c1 y.1 ∧ RE2 H c2 y.2) (fun y => OK1 y.1 ∧ OK2 y.2) := by
  intro HH enc w fuel cs hs hl h
  subst ho hn
  obtain ⟨x, hx⟩ := h f (by simp)
  obtain ⟨h3, h4, y, h5, h6⟩ := h1 HH enc w fuel _ x (hs.sub (fun v hv => List.mem_of_mem_drop (List.mem_of_mem_take hv))) hx
  obtain ⟨h7, z, h8, h9⟩ := h2 HH enc w fuel cs hs (by omega) (fun g hg => h g (by simp [hg]))
  have he : cs.drop f.offset = (cs.drop f.offset).take (P.cellsOf f.type) ++ cs.drop (f.offset + P.cellsOf f.type) := by
    rw [← List.drop_drop, List.take_append_drop]
  refine ⟨fun v hv => ?_, (y, z), ⟨_, _, (congrArg (List.map aV) he).trans List.map_append, h5, h8⟩, h6, h9⟩
  rw [he] at hv
  rcases List.mem_append.1 hv with hv | hv
  · exact h4 v hv
  · exact h7 v hv

theorem Rd.struct {P : Program} {t : TypeId} {fs : Array Field} {sz : Nat} {α : Type} {RE : Vw → List Value → α → Prop} {OK : α → Prop} (hu : P.underlying t = some (.struct fs)) (hs : P.cellsOf t = sz) (h : RdF P 0 fs.toList sz RE OK) : Rd P t sz RE OK := by
  intro HH enc w fuel cs x hsure ht
  cases fuel with
  | zero => cases ht
  | succ fuel =>
    unfold DataW.trod at ht
    rw [hu] at ht
    have ht : (if cs.length = P.cellsOf t then (fs.toList.mapM fun f => DataW.trod enc P w 0 (fun _ => true) true fuel f.type ((cs.drop f.offset).take (P.cellsOf f.type))).map fun xs => (DataW.agg (xs.map (·.1)), xs.flatMap (·.2)) else none) = some x := ht
    split at ht
    · rename_i hl
      obtain ⟨xs, h2, h3⟩ := Option.map_eq_some_iff.1 ht
      have h4 := h HH enc w fuel cs hsure (by rw [hl, hs, Nat.zero_add]) (mapM_mem h2)
      rw [List.drop_zero] at h4
      exact ⟨hl.trans hs, h4⟩
    · cases ht

theorem Rd.map {P : Program} {t : TypeId} {sz : Nat} {α β : Type} {RE : Vw → List Value → α → Prop} {OK : α → Prop} {RE' : Vw → List Value → β → Prop} {OK' : β → Prop} (h : Rd P t sz RE OK) (g : α → β) (hg : ∀ H cs y, RE H cs y → OK y → RE' H cs (g y) ∧ OK' (g y)) : Rd P t sz RE' OK' := by
  intro HH enc w fuel cs x hs ht
  obtain ⟨h1, h2, y, h3, h4⟩ := h HH enc w fuel cs x hs ht
  exact ⟨h1, h2, g y, hg _ _ _ h3 h4⟩

/-! ## Types of the program -/
structure Ins where
  op : Int
  d : Int
  a : Int
  b : Int
  imm : Int
  args : List Int
  what : Int
  vol : Bool
  fin : Bool

structure Fn where
  name : ByteArray
  params : Int
  regs : Int
  code : List Ins

def RIns (V : Vw) (cs : List Value) (x : Ins) : Prop := ∃ va, cs = [.int .i64 x.op, .int .i64 x.d, .int .i64 x.a, .int .i64 x.b, .int .i64 x.imm, va, .int .i64 x.what, .bool x.vol, .bool x.fin] ∧ Sl 1 RInt V va x.args
theorem RIns.ty : Ty 9 RIns := ⟨fun _ _ _ ⟨_, h, _⟩ => by rw [h]; rfl, fun _ _ _ ⟨_, h, h2⟩ => by rw [h]; have := h2.one; simp only [List.all_cons, List.all_nil, this]; rfl, fun _ _ _ _ he ⟨va, h1, h2⟩ => ⟨va, h1, h2.up RInt.ty he⟩⟩
def RFn (V : Vw) (cs : List Value) (x : Fn) : Prop := ∃ vc, cs = [.string x.name, .int .i64 x.params, .int .i64 x.regs, vc] ∧ Sl 9 RIns V vc x.code
theorem RFn.ty : Ty 4 RFn := ⟨fun _ _ _ ⟨_, h, _⟩ => by rw [h]; rfl, fun _ _ _ ⟨_, h, h2⟩ => by rw [h]; have := h2.one; simp only [List.all_cons, List.all_nil, this]; rfl, fun _ _ _ _ he ⟨va, h1, h2⟩ => ⟨va, h1, h2.up RIns.ty he⟩⟩

def I64 (x : Int) : Prop := (Lit.int .i64 x).wf = true

structure Ins.Ok (x : Ins) : Prop where
  op : I64 x.op
  d : I64 x.d
  a : I64 x.a
  b : I64 x.b
  imm : I64 x.imm
  args : ∀ y ∈ x.args, I64 y
  what : I64 x.what

structure Fn.Ok (x : Fn) : Prop where
  name : x.name.size ≤ 9223372036854775807
  params : I64 x.params
  regs : I64 x.regs
  code : ∀ i ∈ x.code, i.Ok

theorem Rd.ins {P : Program} {t : TypeId} {ti ts tb : TypeId} {f0 f1 f2 f3 f4 f5 f6 f7 f8 : Field} (hu : P.underlying t = some (.struct #[f0, f1, f2, f3, f4, f5, f6, f7, f8])) (hsz : P.cellsOf t = 9) (hi : P.underlying ti = some (.int .i64)) (hs : P.underlying ts = some (.slice ti)) (hb : P.underlying tb = some .bool)
    (ci : P.cellsOf ti = 1) (cs : P.cellsOf ts = 1) (cb : P.cellsOf tb = 1) (hfs : [f0, f1, f2, f3, f4, f5, f6, f7, f8].map (fun f => (f.type, f.offset)) = [(ti, 0), (ti, 1), (ti, 2), (ti, 3), (ti, 4), (ts, 5), (ti, 6), (tb, 7), (tb, 8)]) : Rd P t 9 RIns Ins.Ok := by
  have hI := Rd.int hi
  have hS := Rd.slice hs ci rfl hI
  have hB := Rd.bool hb
  simp only [List.map_cons, List.map_nil, List.cons.injEq, Prod.mk.injEq, and_true] at hfs
  obtain ⟨⟨a0, b0⟩, ⟨a1, b1⟩, ⟨a2, b2⟩, ⟨a3, b3⟩, ⟨a4, b4⟩, ⟨a5, b5⟩, ⟨a6, b6⟩, ⟨a7, b7⟩, a8, b8⟩ := hfs
  have key := Rd.struct hu hsz (RdF.cons (f := f0) b0 (by rw [a0]; exact ci) (a0 ▸ hI) (RdF.cons (f := f1) b1 (by rw [a1]; exact ci) (a1 ▸ hI) (RdF.cons (f := f2) b2 (by rw [a2]; exact ci) (a2 ▸ hI) (RdF.cons (f := f3) b3 (by rw [a3]; exact ci) (a3 ▸ hI) (RdF.cons (f := f4) b4 (by rw [a4]; exact ci) (a4 ▸ hI)
    (RdF.cons (f := f5) b5 (by rw [a5]; exact cs) (a5 ▸ hS) (RdF.cons (f := f6) b6 (by rw [a6]; exact ci) (a6 ▸ hI) (RdF.cons (f := f7) b7 (by rw [a7]; exact cb) (a7 ▸ hB) (RdF.cons (f := f8) b8 (by rw [a8]; exact cb) (a8 ▸ hB) RdF.nil)))))))))
  refine key.map (fun y => ⟨y.1, y.2.1, y.2.2.1, y.2.2.2.1, y.2.2.2.2.1, y.2.2.2.2.2.1, y.2.2.2.2.2.2.1, y.2.2.2.2.2.2.2.1, y.2.2.2.2.2.2.2.2.1⟩) (fun H cs y hr ho => ?_)
  obtain ⟨_, _, rfl, rfl, _, _, rfl, rfl, _, _, rfl, rfl, _, _, rfl, rfl, _, _, rfl, rfl, _, _, rfl, ⟨va, rfl, hva⟩, _, _, rfl, rfl, _, _, rfl, rfl, _, _, rfl, rfl, rfl⟩ := hr
  obtain ⟨o0, o1, o2, o3, o4, o5, o6, _⟩ := ho
  exact ⟨⟨va, rfl, hva⟩, ⟨o0, o1, o2, o3, o4, o5, o6⟩⟩

theorem Rd.fn {P : Program} {t : TypeId} {ti ts te t9 : TypeId} {f0 f1 f2 f3 : Field} (hu : P.underlying t = some (.struct #[f0, f1, f2, f3])) (hsz : P.cellsOf t = 4) (hi : P.underlying ti = some (.int .i64)) (hs : P.underlying ts = some .string)
    (ci : P.cellsOf ti = 1) (cs : P.cellsOf ts = 1) (hc : P.cellsOf te = 1) (he : P.underlying te = some (.slice t9)) (c9 : P.cellsOf t9 = 9) (hfs : [f0, f1, f2, f3].map (fun f => (f.type, f.offset)) = [(ts, 0), (ti, 1), (ti, 2), (te, 3)]) (h9 : Rd P t9 9 RIns Ins.Ok) : Rd P t 4 RFn Fn.Ok := by
  have hI := Rd.int hi
  have hS := Rd.str hs
  have hE := Rd.slice he c9 rfl h9
  simp only [List.map_cons, List.map_nil, List.cons.injEq, Prod.mk.injEq, and_true] at hfs
  obtain ⟨⟨a0, b0⟩, ⟨a1, b1⟩, ⟨a2, b2⟩, a3, b3⟩ := hfs
  have key := Rd.struct hu hsz (RdF.cons (f := f0) b0 (by rw [a0]; exact cs) (a0 ▸ hS) (RdF.cons (f := f1) b1 (by rw [a1]; exact ci) (a1 ▸ hI) (RdF.cons (f := f2) b2 (by rw [a2]; exact ci) (a2 ▸ hI) (RdF.cons (f := f3) b3 (by rw [a3]; exact hc) (a3 ▸ hE) RdF.nil))))
  refine key.map (fun y => ⟨y.1, y.2.1, y.2.2.1, y.2.2.2.1⟩) (fun H cs y hr ho => ?_)
  obtain ⟨_, _, rfl, rfl, _, _, rfl, rfl, _, _, rfl, rfl, _, _, rfl, ⟨va, rfl, hva⟩, rfl⟩ := hr
  obtain ⟨o0, o1, o2, o3, _⟩ := ho
  exact ⟨⟨va, rfl, hva⟩, ⟨o0, o1, o2, o3⟩⟩
end Go.Vm
