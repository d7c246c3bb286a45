/-
 What the checker of code asks for, in full; and of whole modules.
-/
import Derived.Test.YtcacllfgnjlhiaaEP11b
set_option linter.unusedSimpArgs false
set_option linter.unusedVariables false
set_option linter.unusedSectionVars false
namespace Go.Vm.G11
open Go
def rg (p q : Bool) (n R : Int) : Bool := if p = true then ((decide (0 ≤ n)) && (decide (n < R))) || (q && (decide (n = (-1)))) else decide (n = (-1))
theorem register_is (p q : Bool) (n R : Int) : ref08_register p q n R = some (rg p q n R) := by
 unfold ref08_register rg
 cases p <;> simp
noncomputable def hs (op : Int) : Bool × Bool × Bool × Bool := (ref08_has op).getD (false, false, false, false)
theorem has_is' (op : Int) : ref08_has op = some (hs op) := by
 obtain ⟨r, h, _⟩ := has_tot op
 unfold hs
 rw [h]
 rfl
def NumOK (f : TFunc) (x : TIns) : Prop :=
 (x.op = 1 ∨ x.op = 9 ∨ x.op = 10 ∨ x.op = 14 ∨ x.op = 21) ∨ (x.op = 16 ∧ 0 < x.imm) ∨ (x.op = 22 ∧ (x.imm = 0 ∨ x.imm = 1)) ∨
 (¬ (x.op = 1 ∨ x.op = 9 ∨ x.op = 10 ∨ x.op = 14 ∨ x.op = 21 ∨ x.op = 16 ∨ x.op = 22) ∧ if (hs x.op).2.2.2 = true then 0 < cnt f.code x.imm else x.imm = 0)
noncomputable def aOf (x : TIns) : Bool := if x.op = 21 then decide (x.imm = 3) else (hs x.op).2.1
structure InsOK (f : TFunc) (x : TIns) : Prop where
 op : 1 ≤ x.op ∧ x.op ≤ 22
 fen : x.op = 21 → 1 ≤ x.imm ∧ x.imm ≤ 3
 d : rg (hs x.op).1 (decide (x.op = 14)) x.d f.regs = true
 a : rg (aOf x) ((decide (x.op = 9) || decide (x.op = 10)) || decide (x.op = 15)) x.a f.regs = true
 b : rg (hs x.op).2.2.1 false x.b f.regs = true
 args : ∀ y ∈ x.args, x.op = 14 ∧ 0 ≤ y ∧ y < f.regs
 bare : x.op ≠ 9 → x.op ≠ 10 → x.what = 0 ∧ x.volatile = false ∧ x.final = false
 num : NumOK f x
theorem num_is {f : TFunc} (h : f.code.length ≤ 1000) (x : TIns) :
  Ok (if decide (x.op = 1) then ref08_ins_k2 f x (hs x.op) true else if decide (x.op = 9) then ref08_ins_k2 f x (hs x.op) true else if decide (x.op = 10) then ref08_ins_k2 f x (hs x.op) true else if decide (x.op = 14) then ref08_ins_k2 f x (hs x.op) true else ref08_ins_k2 f x (hs x.op) (decide (x.op = 21))) (fun b => b = true ↔ NumOK f x) := by
 have ht : Ok (ref08_ins_k2 f x (hs x.op) true) (fun b => b = true) := .ret rfl
 have go : (x.op = 1 ∨ x.op = 9 ∨ x.op = 10 ∨ x.op = 14 ∨ x.op = 21) → ∀ b, b = true → (b = true ↔ NumOK f x) := fun h b hb => ⟨fun _ => .inl h, fun _ => hb⟩
 refine .ite (fun h1 => ht.mono (go (.inl (by simpa using h1)))) fun h1 => .ite (fun h9 => ht.mono (go (.inr (.inl (by simpa using h9))))) fun h9 => .ite (fun h10 => ht.mono (go (.inr (.inr (.inl (by simpa using h10)))))) fun h10 => .ite (fun h14 => ht.mono (go (.inr (.inr (.inr (.inl (by simpa using h14))))))) fun h14 => ?_
 simp only [decide_eq_false_iff_not] at h1 h9 h10 h14
 unfold ref08_ins_k2
 refine .ite (fun h21 => .ret (go (.inr (.inr (.inr (.inr (by simpa using h21))))) _ rfl)) fun h21 => ?_
 simp only [decide_eq_false_iff_not] at h21
 have n0 : ¬ (x.op = 1 ∨ x.op = 9 ∨ x.op = 10 ∨ x.op = 14 ∨ x.op = 21) := by omega
 refine .ite (fun h16 => .ret ?_) fun h16 => .ite (fun h22 => .ret ?_) fun h22 => .ite (fun hl => ?_) fun hl => .ret ?_
 ·have h16 : x.op = 16 := by simpa using h16
  unfold NumOK
  rw [decide_eq_true_iff]
  constructor
  ·exact fun h => .inr (.inl ⟨h16, h⟩)
  ·rintro (h | h | h | h)
   ·exact (n0 h).elim
   ·exact h.2
   ·omega
   ·exact (h.1 (by omega)).elim
 ·have h22 : x.op = 22 := by simpa using h22
  unfold NumOK
  simp only [Bool.or_eq_true, decide_eq_true_iff]
  constructor
  ·exact fun h => .inr (.inr (.inl ⟨h22, h⟩))
  ·rintro (h | h | h | h)
   ·exact (n0 h).elim
   ·omega
   ·exact h.2
   ·exact (h.1 (by omega)).elim
 ·simp only [decide_eq_false_iff_not] at h16 h22
  rw [count_is f _ h]
  refine .ret ?_
  unfold NumOK
  rw [if_pos hl, decide_eq_true_iff]
  constructor
  ·exact fun h => .inr (.inr (.inr ⟨by omega, by omega⟩))
  ·rintro (h | h | h | h)
   ·exact (n0 h).elim
   ·omega
   ·omega
   ·omega
 ·simp only [decide_eq_false_iff_not] at h16 h22
  unfold NumOK
  rw [if_neg (by rw [hl]; decide), decide_eq_true_iff]
  constructor
  ·exact fun h => .inr (.inr (.inr ⟨by omega, h⟩))
  ·rintro (h | h | h | h)
   ·exact (n0 h).elim
   ·omega
   ·omega
   ·exact h.2
theorem l1_is {f : TFunc} (h : f.code.length ≤ 1000) (x : TIns) (hx : x.args.length ≤ 9223372036854775807) :
  Ok (ref08_ins_l1 f x (hs x.op) 0) (fun b => b = true ↔ (∀ y ∈ x.args, x.op = 14 ∧ 0 ≤ y ∧ y < f.regs) ∧ (x.op ≠ 9 → x.op ≠ 10 → x.what = 0 ∧ x.volatile = false ∧ x.final = false) ∧ NumOK f x) := by
 unfold ref08_ins_l1
 refine loop_for x.args (fun k s => s = (k : Int) ∧ ∀ y ∈ x.args.take k, x.op = 14 ∧ 0 ≤ y ∧ y < f.regs) (fun k y s hk' hk hs => ?_) (fun s hs => ?_) ⟨rfl, by simp⟩
 ·obtain ⟨rfl, hs⟩ := hs
  unfold ref08_ins_l1b
  rw [if_pos (by simp; omega), ix_nat, hk]
  simp only [Option.bind_some]
  refine .ite (fun hb => .map (.ret ⟨fun h => (by cases h), fun h => ?_⟩)) (fun hb => .ret ⟨w64_succ (by omega), fun z hz => ?_⟩)
  ·have := h.1 y (List.mem_of_getElem? hk)
   simp only [Bool.or_eq_true, decide_eq_true_iff] at hb
   omega
  ·rw [mem_take_succ hk'] at hz
   rcases hz with hz | rfl
   ·exact hs z hz
   ·rw [List.getElem?_eq_getElem hk'] at hk
    rw [Option.some.inj hk]
    simp only [Bool.or_eq_false_iff, decide_eq_false_iff_not] at hb
    omega
 ·obtain ⟨rfl, hs⟩ := hs
  unfold ref08_ins_l1b
  rw [if_neg (by simp)]
  rw [List.take_length] at hs
  refine .map (.ite (fun hb => .ret ⟨fun h => (by cases h), fun h => ?_⟩) fun hb => (num_is h x).mono fun b hb2 => ?_)
  ·simp only [Bool.and_eq_true, Bool.or_eq_true, decide_eq_true_iff] at hb
   have := h.2.1 hb.1.1 hb.1.2
   simp [this] at hb
  ·have hbare : x.op ≠ 9 → x.op ≠ 10 → x.what = 0 ∧ x.volatile = false ∧ x.final = false := by
    intro h9 h10
    simp [h9, h10] at hb
    exact ⟨hb.1.1, hb.1.2, hb.2⟩
   exact ⟨fun h => ⟨hs, hbare, hb2.1 h⟩, fun h => hb2.2 h.2.2⟩
theorem ins_is {f : TFunc} (h : f.code.length ≤ 1000) (x : TIns) (hx : x.args.length ≤ 9223372036854775807) : Ok (ref08_ins f x) (fun b => b = true ↔ InsOK f x) := by
 have k1 : (x.op = 21 → 1 ≤ x.imm ∧ x.imm ≤ 3) → 1 ≤ x.op ∧ x.op ≤ 22 → Ok (ref08_ins_k1 f x (hs x.op) (aOf x)) (fun b => b = true ↔ InsOK f x) := fun hfen hop => by
  unfold ref08_ins_k1
  rw [register_is, register_is, register_is]
  simp only [Option.bind_some]
  by_cases hd : rg (hs x.op).1 (decide (x.op = 14)) x.d f.regs = true
  ·by_cases ha : rg (aOf x) ((decide (x.op = 9) || decide (x.op = 10)) || decide (x.op = 15)) x.a f.regs = true
   ·by_cases hb : rg (hs x.op).2.2.1 false x.b f.regs = true
    ·simp only [hd, ha, hb, Bool.not_true, Bool.false_eq_true, if_false, Option.bind_some]
     exact (l1_is h x hx).mono fun b hb2 => ⟨fun e => have := hb2.1 e; ⟨hop, hfen, hd, ha, hb, this.1, this.2.1, this.2.2⟩, fun e => hb2.2 ⟨e.args, e.bare, e.num⟩⟩
    ·simp only [Bool.not_eq_true] at hb
     simp only [hd, ha, hb, Bool.not_true, Bool.not_false, Bool.false_eq_true, if_false, if_true, Option.bind_some]
     exact .ret ⟨fun h => (by cases h), fun e => by rw [e.b] at hb; cases hb⟩
   ·simp only [Bool.not_eq_true] at ha
    simp only [hd, ha, Bool.not_true, Bool.not_false, Bool.false_eq_true, if_false, if_true, Option.bind_some]
    exact .ret ⟨fun h => (by cases h), fun e => by rw [e.a] at ha; cases ha⟩
  ·simp only [Bool.not_eq_true] at hd
   simp only [hd, Bool.not_true, Bool.not_false, Bool.false_eq_true, if_false, if_true, Option.bind_some]
   exact .ret ⟨fun h => (by cases h), fun e => by rw [e.d] at hd; cases hd⟩
 unfold ref08_ins
 refine .ite (fun hb => .ret ⟨fun h => (by cases h), fun h => ?_⟩) fun hb => ?_
 ·have := h.op
  simp only [Bool.or_eq_true, decide_eq_true_iff] at hb
  omega
 ·simp only [Bool.or_eq_false_iff, decide_eq_false_iff_not] at hb
  rw [has_is']
  simp only [Option.bind_some]
  refine .ite (fun h21 => .ite (fun hi => .ret ⟨fun h => (by cases h), fun h => ?_⟩) fun hi => ?_) fun h21 => ?_
  ·have := h.fen (by simpa using h21)
   simp only [Bool.or_eq_true, decide_eq_true_iff] at hi
   omega
  ·simp only [Bool.or_eq_false_iff, decide_eq_false_iff_not] at hi
   have := k1 (fun _ => by omega) (by omega)
   unfold aOf at this
   rw [if_pos (by simpa using h21)] at this
   exact this
  ·have h21' : x.op ≠ 21 := by simpa using h21
   have := k1 (fun e => (h21' e).elim) (by omega)
   unfold aOf at this
   rw [if_neg h21'] at this
   exact this
theorem gd_iff {f : TFunc} (h : f.code.length ≤ 1000) (x : TIns) (hx : x.args.length ≤ 9223372036854775807) : Gd f x ↔ InsOK f x ∧ (x.op = 11 → cnt f.code x.imm = 1) := by
 obtain ⟨b, h1, h2⟩ := ins_is h x hx
 unfold Gd
 rw [h1]
 exact ⟨fun e => ⟨h2.1 (Option.some.inj e.1), e.2⟩, fun e => ⟨by rw [h2.2 e.1], e.2⟩⟩
def Calls (m : TModule) (x : TIns) : Prop := x.op = 14 → 0 ≤ x.imm ∧ ∃ g, m.funcs[x.imm.toNat]? = some g ∧ (x.args.length : Int) = g.params
def Whole (m : TModule) : Prop := (∀ f ∈ m.funcs, Good f ∧ ∀ x ∈ f.code, Calls m x) ∧ ∀ t ∈ m.threads, 0 ≤ t ∧ ∃ g, m.funcs[t.toNat]? = some g ∧ g.params = 0
structure Bnd (m : TModule) : Prop where
 funcs : m.funcs.length ≤ 1000
 threads : m.threads.length ≤ 1000
 code : ∀ f ∈ m.funcs, f.code.length ≤ 1000
 args : ∀ f ∈ m.funcs, ∀ x ∈ f.code, x.args.length ≤ 9223372036854775807
theorem ix_in {α : Type} {xs : List α} {i : Int} (h0 : 0 ≤ i) (h1 : i < xs.length) : ∃ x, xs[i.toNat]? = some x ∧ ix xs i = some x := by
 have h2 : i.toNat < xs.length := by omega
 refine ⟨xs[i.toNat], List.getElem?_eq_getElem h2, ?_⟩
 unfold Go.Vm.ix
 rw [if_pos h0, List.getElem?_eq_getElem h2]
theorem calls_is {m : TModule} {f : TFunc} (h : f.code.length ≤ 1000) (j : Int) : Ok (ref08_Whole_l2 m j f 0) (fun r => (r = .inl (w64 (j + 1)) ∧ ∀ x ∈ f.code, Calls m x) ∨ (r = .inr false ∧ ¬ ∀ x ∈ f.code, Calls m x)) := by
 unfold ref08_Whole_l2
 refine loop_for f.code (fun k s => s = (k : Int) ∧ ∀ x ∈ f.code.take k, Calls m x) (fun k x s hk' hk hs => ?_) (fun s hs => ?_) ⟨rfl, by simp⟩
 ·obtain ⟨rfl, hs⟩ := hs
  have hmem := List.mem_of_getElem? hk
  have next : Calls m x → ∀ y ∈ f.code.take (k + 1), Calls m y := fun hc y hy => by
   rw [mem_take_succ hk'] at hy
   rcases hy with hy | rfl
   ·exact hs y hy
   ·rw [List.getElem?_eq_getElem hk'] at hk
    rw [Option.some.inj hk]; exact hc
  unfold ref08_Whole_l2b
  rw [if_pos (by simp; omega), ix_nat, hk]
  simp only [Option.bind_some]
  have bad : ¬ Calls m x → Ok (ref08_Whole_k1 k true) (Sum.elim (fun s => s = ((k + 1 : Nat) : Int) ∧ ∀ x ∈ f.code.take (k + 1), Calls m x) (fun r => (r = .inl (w64 (j + 1)) ∧ ∀ x ∈ f.code, Calls m x) ∨ (r = .inr false ∧ ¬ ∀ x ∈ f.code, Calls m x))) := fun hc =>
   .ret (.inr ⟨rfl, fun e => hc (e x hmem)⟩)
  have good : Calls m x → Ok (ref08_Whole_k1 k false) (Sum.elim (fun s => s = ((k + 1 : Nat) : Int) ∧ ∀ x ∈ f.code.take (k + 1), Calls m x) (fun r => (r = .inl (w64 (j + 1)) ∧ ∀ x ∈ f.code, Calls m x) ∨ (r = .inr false ∧ ¬ ∀ x ∈ f.code, Calls m x))) := fun hc =>
   .ret ⟨w64_succ (by omega), next hc⟩
  refine .ite (fun h14 => ?_) fun h14 => good fun e => by simp [e] at h14
  have h14 : x.op = 14 := by simpa using h14
  refine .ite (fun hn => bad fun e => ?_) fun hn => .ite (fun hn2 => bad fun e => ?_) fun hn2 => ?_
  ·have := (e h14).1; simp at hn; omega
  ·obtain ⟨h0, g, h1, _⟩ := e h14
   have := (List.getElem?_eq_some_iff.1 h1).1
   simp at hn2; omega
  ·simp only [decide_eq_false_iff_not] at hn hn2
   obtain ⟨g, hg1, hg2⟩ := ix_in (xs := m.funcs) (i := x.imm) (by omega) (by omega)
   rw [hg2]
   simp only [Option.bind_some]
   by_cases hp : (x.args.length : Int) = g.params
   ·rw [show decide ((x.args.length : Int) ≠ g.params) = false by simpa using hp]
    exact good fun _ => ⟨by omega, g, hg1, hp⟩
   ·rw [show decide ((x.args.length : Int) ≠ g.params) = true by simpa using hp]
    refine bad fun e => ?_
    obtain ⟨_, g', h1, h2⟩ := e h14
    rw [hg1] at h1
    cases h1
    exact hp h2
 ·obtain ⟨rfl, hs⟩ := hs
  unfold ref08_Whole_l2b
  rw [if_neg (by simp)]
  rw [List.take_length] at hs
  exact .map (.ret (.inl ⟨rfl, hs⟩))
def ThrOK (m : TModule) (t : Int) : Prop := 0 ≤ t ∧ ∃ g, m.funcs[t.toNat]? = some g ∧ g.params = 0
theorem threads_is {m : TModule} (h : m.threads.length ≤ 1000) : Ok (ref08_Whole_l3 m 0) (fun b => b = true ↔ ∀ t ∈ m.threads, ThrOK m t) := by
 unfold ref08_Whole_l3
 refine loop_for m.threads (fun k s => s = (k : Int) ∧ ∀ x ∈ m.threads.take k, ThrOK m x) (fun k x s hk' hk hs => ?_) (fun s hs => ?_) ⟨rfl, by simp⟩
 ·obtain ⟨rfl, hs⟩ := hs
  unfold ref08_Whole_l3b
  rw [if_pos (by simp; omega), ix_nat, hk]
  simp only [Option.bind_some]
  refine Ok.bind (P := fun b => b = true ↔ ¬ ThrOK m x) (.ite (fun hb => .ret ⟨fun _ e => ?_, fun _ => rfl⟩) fun hb => ?_) fun b hb => .ite (fun h => .map (.ret ⟨fun h => (by cases h), fun e => (hb.1 h (e x (List.mem_of_getElem? hk))).elim⟩)) fun h => .ret ⟨w64_succ (by omega), fun z hz => ?_⟩
  ·obtain ⟨h0, g, h1, _⟩ := e
   have := (List.getElem?_eq_some_iff.1 h1).1
   simp only [Bool.or_eq_true, decide_eq_true_iff] at hb; omega
  ·simp only [Bool.or_eq_false_iff, decide_eq_false_iff_not] at hb
   obtain ⟨g, hg1, hg2⟩ := ix_in (xs := m.funcs) (i := x) (by omega) (by omega)
   rw [hg2]
   simp only [Option.bind_some]
   refine .ret ?_
   rw [decide_eq_true_iff]
   constructor
   ·rintro hp ⟨_, g', h1, h2⟩
    rw [hg1] at h1
    cases h1
    exact hp h2
   ·exact fun hn hp => hn ⟨by omega, g, hg1, hp⟩
  ·rw [mem_take_succ hk'] at hz
   rcases hz with hz | rfl
   ·exact hs z hz
   ·rw [List.getElem?_eq_getElem hk'] at hk
    rw [Option.some.inj hk]
    exact Classical.not_not.1 fun e => by rw [hb.2 e] at h; cases h
 ·obtain ⟨rfl, hs⟩ := hs
  unfold ref08_Whole_l3b
  rw [if_neg (by simp)]
  rw [List.take_length] at hs
  exact .map (.ret ⟨fun _ => hs, fun _ => rfl⟩)
theorem whole_is {m : TModule} (h : Bnd m) : Ok (ref08_Whole m) (fun b => b = true ↔ Whole m) := by
 unfold ref08_Whole ref08_Whole_l1
 refine loop_for m.funcs (fun k s => s = (k : Int) ∧ ∀ f ∈ m.funcs.take k, Good f ∧ ∀ x ∈ f.code, Calls m x) (fun k f s hk' hk hs => ?_) (fun s hs => ?_) ⟨rfl, by simp⟩
 ·obtain ⟨rfl, hs⟩ := hs
  have hmem := List.mem_of_getElem? hk
  have hb := h.funcs
  unfold ref08_Whole_l1b
  rw [if_pos (by simp; omega), ix_nat, hk]
  simp only [Option.bind_some]
  refine (good_is f (h.code f hmem) (h.args f hmem)).bind fun b hb => .ite (fun hn => .map (.ret ⟨fun h => (by cases h), fun e => ?_⟩)) fun hn => ?_
  ·rw [hb.2 (e.1 f hmem).1] at hn; cases hn
  ·have hg : Good f := hb.1 (by simpa using hn)
   refine (calls_is (h.code f hmem) k).mono fun r hr => ?_
   rcases hr with ⟨rfl, hc⟩ | ⟨rfl, hc⟩
   ·refine ⟨w64_succ (by omega), fun z hz => ?_⟩
    rw [mem_take_succ hk'] at hz
    rcases hz with hz | rfl
    ·exact hs z hz
    ·rw [List.getElem?_eq_getElem hk'] at hk
     rw [Option.some.inj hk]
     exact ⟨hg, hc⟩
   ·exact ⟨fun h => (by cases h), fun e => (hc (e.1 f hmem).2).elim⟩
 ·obtain ⟨rfl, hs⟩ := hs
  unfold ref08_Whole_l1b
  rw [if_neg (by simp)]
  rw [List.take_length] at hs
  exact .map ((threads_is h.threads).mono fun b hb => ⟨fun e => ⟨hs, hb.1 e⟩, fun e => hb.2 e.2⟩)
structure Small (m : TModule) : Prop where
 funcs : m.funcs.length ≤ 6
 threads : m.threads.length ≤ 4
 code : ∀ f ∈ m.funcs, f.code.length ≤ 40 ∧ f.regs ≤ 12
 whole : Whole m
theorem great_is {m : TModule} (o : OK_TModule m) : Ok (law11_great m) (fun b => b = false → Small m) := by
 unfold law11_great law11_great_l1
 have hfn := o.1.2
 refine loop_for m.funcs (fun k s => s = (k : Int) ∧ ∀ f ∈ m.funcs.take k, f.code.length ≤ 40 ∧ f.regs ≤ 12) (fun k f s hk' hk hs => ?_) (fun s hs => ?_) ⟨rfl, by simp⟩
 ·obtain ⟨rfl, hs⟩ := hs
  unfold law11_great_l1b
  rw [if_pos (by simp; omega), ix_nat, hk]
  simp only [Option.bind_some]
  refine .ite (fun hb => .map (.ret (fun h => by cases h))) (fun hb => .ret ⟨w64_succ (by omega), fun z hz => ?_⟩)
  rw [mem_take_succ hk'] at hz
  rcases hz with hz | rfl
  ·exact hs z hz
  ·rw [List.getElem?_eq_getElem hk'] at hk
   rw [Option.some.inj hk]
   simp only [Bool.or_eq_false_iff, decide_eq_false_iff_not] at hb
   omega
 ·obtain ⟨rfl, hs⟩ := hs
  unfold law11_great_l1b
  rw [if_neg (by simp)]
  rw [List.take_length] at hs
  refine .map (Ok.bind (P := fun b => b = false → Small m) (.ite (fun hb => .ret (fun h => by cases h)) (fun hb => ?_)) (fun b hb => .ret hb))
  simp only [Bool.or_eq_false_iff, decide_eq_false_iff_not] at hb
  refine (whole_is ⟨by omega, by omega, fun f hf => by have := hs f hf; omega, fun f hf x hx => ?_⟩).bind fun b hw => .ret (fun h => ⟨by omega, by omega, hs, hw.1 (by simpa using h)⟩)
  exact ((o.1.1 f hf).2.2.2.1.1 x hx).2.2.2.2.2.1.2
theorem good_fine {f : TFunc} (hg : Good f) (hl : f.code.length ≤ 1000) (hr : f.regs ≤ 1000) (ha : ∀ x ∈ f.code, x.args.length ≤ 1000) : Fine f := by
 obtain ⟨⟨l, h1, _⟩, _, _, h4⟩ := hg
 refine ⟨hl, ?_, hr, ha, fun x hx h1 h8 => ?_⟩
 ·cases hc : f.code with
  | nil => rw [hc] at h1; cases h1
  | cons a b => simp
 ·have hi := ((gd_iff hl x (by have := ha x hx; omega)).1 (h4 x hx)).1
  have hd := hi.d
  have : (hs x.op).1 = true := by
   have : x.op = 1 ∨ x.op = 2 ∨ x.op = 3 ∨ x.op = 4 ∨ x.op = 5 ∨ x.op = 6 ∨ x.op = 7 ∨ x.op = 8 := by omega
   rcases this with e | e | e | e | e | e | e | e <;> rw [e] <;> rfl
  unfold rg at hd
  rw [this, if_pos rfl] at hd
  have h14 : x.op ≠ 14 := by omega
  simpa [h14] using hd
theorem small_args {m : TModule} (h : Small m) {f : TFunc} (hf : f ∈ m.funcs) (ha : ∀ x ∈ f.code, x.args.length ≤ 9223372036854775807) : ∀ x ∈ f.code, x.args.length ≤ 12 := by
 intro x hx
 have hw := h.whole.1 f hf
 have hi := ((gd_iff (by have := h.code f hf; omega) x (ha x hx)).1 (hw.1.2.2.2 x hx)).1
 by_cases ho : x.op = 14
 ·obtain ⟨_, g, h1, h2⟩ := hw.2 x hx ho
  have hg := List.mem_of_getElem? h1
  have := h.code g hg
  have := (h.whole.1 g hg).1.2.2.1
  omega
 ·cases hc : x.args with
  | nil => simp
  | cons y ys => exact (ho (hi.args y (by rw [hc]; simp)).1).elim
end Go.Vm.G11
