/-
 Functions and modules tidied.
-/
import Derived.Test.YtcacllfgnjlhiaaEP11c
set_option linter.unusedSimpArgs false
set_option linter.unusedVariables false
set_option linter.unusedSectionVars false
namespace Go.Vm.G11
open Go
theorem rowL_mem (o : Ttidy_Options) : ∀ {k : Ttidy_facts} {xs : List TIns} {y : TIns}, y ∈ rowL o k xs → ∃ x ∈ xs, ∃ k', y = chg o k' x
 | k, [], y, h => by cases h
 | k, x :: xs, y, h => by
  rcases List.mem_cons.1 h with rfl | h
  ·exact ⟨x, by simp, _, rfl⟩
  ·obtain ⟨x', h1, k', h2⟩ := rowL_mem o h
   exact ⟨x', List.mem_cons_of_mem _ h1, k', h2⟩
structure ChgS (x y : TIns) : Prop where
 op : y.op = x.op ∨ ((2 ≤ x.op ∧ x.op ≤ 8) ∧ y.op = 1) ∨ (x.op = 13 ∧ y.op = 12)
 d : y.op ≤ 11 → y.d = x.d
 args : y.args.length ≤ x.args.length
theorem chg_s (o : Ttidy_Options) (k : Ttidy_facts) (x : TIns) : ChgS x (chg o k x) := by
 have hr : ChgS x (if o.copy = true then ren k x else x) := by
  split
  ·exact ⟨.inl rfl, fun _ => rfl, by simp [ren]⟩
  ·exact ⟨.inl rfl, fun _ => rfl, Nat.le_refl _⟩
 unfold chg
 simp only
 generalize (if o.copy = true then ren k x else x) = z at hr
 split
 ·rcases (fold_is k z).2 with h | ⟨h1, n, _, h⟩ | ⟨h1, _, h⟩ | ⟨a, b, n, _, _, h, h1⟩
  ·rw [h]; exact hr
  ·rw [h]
   have := hr.op
   exact ⟨.inr (.inl ⟨by omega, rfl⟩), fun _ => hr.d (by omega), Nat.zero_le _⟩
  ·rw [h]
   have := hr.op
   exact ⟨.inr (.inr ⟨by omega, rfl⟩), fun h => absurd h (by show ¬ (12 : Int) ≤ 11; omega), Nat.zero_le _⟩
  ·rw [h]
   have := hr.op
   exact ⟨.inr (.inl ⟨by omega, rfl⟩), fun _ => hr.d (by omega), Nat.zero_le _⟩
 ·exact hr
noncomputable def rowF (o : Ttidy_Options) (f : TFunc) : TFunc := ⟨f.name, f.params, f.regs, rowL o frs f.code⟩
theorem Fine.row {f : TFunc} (h : Fine f) (o : Ttidy_Options) : Fine (rowF o f) := by
 refine ⟨by show (rowL o frs f.code).length ≤ _; rw [rowL_len]; exact h.len, by show 0 < (rowL o frs f.code).length; rw [rowL_len]; exact h.pos, h.regs, fun y hy => ?_, fun y hy h1 h8 => ?_⟩
 ·obtain ⟨x, hx, k, rfl⟩ := rowL_mem o hy
  have := h.args x hx
  have := (chg_s o k x).args
  omega
 ·obtain ⟨x, hx, k, rfl⟩ := rowL_mem o hy
  have hc := chg_s o k x
  have := hc.op
  rw [hc.d (by omega)]
  exact h.pure x hx (by omega) (by omega)
theorem shut_mem {xs : List TIns} {y : TIns} (h : y ∈ shut xs) : y ∈ xs ∨ y = retI := by
 unfold shut at h
 split at h
 ·simpa using h
 ·split at h
  ·simpa using h
  ·exact .inl h
theorem shut_len (xs : List TIns) : (shut xs).length ≤ xs.length + 1 := by
 unfold shut
 split
 ·simp
 ·split <;> simp
theorem shut_pos (xs : List TIns) : 0 < (shut xs).length := by
 unfold shut
 split
 ·simp
 ·rename_i l hl
  split
  ·simp
  ·cases xs with
   | nil => cases hl
   | cons a b => simp
theorem Swp.len {f g : TFunc} (h : Swp f g) : g.code.length ≤ f.code.length + 1 := by
 obtain ⟨kp, rfl, _⟩ := h
 have := shut_len (sel kp 0 f.code)
 have := (sel_sub kp 0 f.code).length_le
 show (shut _).length ≤ _
 omega
theorem Fine.swp {f g : TFunc} (h : Fine f) (hs : Swp f g) (hl : f.code.length ≤ 999) : Fine g := by
 have hl2 := hs.len
 obtain ⟨kp, rfl, _⟩ := hs
 refine ⟨by omega, shut_pos _, h.regs, fun y hy => ?_, fun y hy h1 h8 => ?_⟩
 ·rcases shut_mem hy with hy | rfl
  ·exact h.args y ((sel_sub kp 0 f.code).subset hy)
  ·simp [retI]
 ·rcases shut_mem hy with hy | rfl
  ·exact h.pure y ((sel_sub kp 0 f.code).subset hy) h1 h8
  ·exact absurd h8 (by show ¬ (15 : Int) ≤ 8; omega)
theorem func_is {f : TFunc} (o : Ttidy_Options) (hf : Fine f) (hl : f.code.length ≤ 900) (J : TFunc → Prop) (h0 : J (rowF o f)) (hJ : ∀ a b, Fine a → J a → Swp a b → J b) :
  Ok (tidy_Func f o) (fun g => J g ∧ Fine g ∧ g.code.length ≤ f.code.length + 1 ∧ (o.dead = false → g = rowF o f)) := by
 unfold tidy_Func
 rw [row_is f o hf.len hf.args]
 simp only [Option.bind_some]
 unfold tidy_Func_l1
 refine Ok.loopM (B := fun s => tidy_Func_l1b s.1 s.2.1 s.2.2.1 s.2.2.2.1 s.2.2.2.2) (fun s => ∃ (a : TFunc) (b : Bool), s = (a.name, a.params, a.regs, a.code, b) ∧ J a ∧ Fine a ∧ (b = true → a.code.length ≤ f.code.length) ∧ a.code.length ≤ f.code.length + 1 ∧ (o.dead = false → a = rowF o f ∧ b = false)) (fun s => if s.2.2.2.2 = true then s.2.2.2.1.length + 1 else 0) (fun s hs => ?_) ⟨rowF o f, o.dead, rfl, h0, hf.row o, fun _ => ?_, ?_, fun h => ⟨rfl, h⟩⟩
 ·obtain ⟨a, b, rfl, hJa, hfa, hb, hle, hd⟩ := hs
  show Ok (tidy_Func_l1b a.name a.params a.regs a.code b) _
  unfold tidy_Func_l1b
  refine .ite (fun hbt => ?_) fun hbf => .map (.ret ⟨hJa, hfa, hle, fun h => (hd h).1⟩)
  have hal := hb hbt
  refine (swept_is hfa).bind fun r hr => .ret ⟨⟨r.1, _, rfl, hJ a r.1 hfa hJa hr, hfa.swp hr (by omega), fun h => ?_, by have := hr.len; omega, fun h => ?_⟩, ?_⟩
  ·simp at h; omega
  ·have := (hd h).2
   rw [hbt] at this; cases this
  ·show (if decide ((r.1.code.length : Int) < (a.code.length : Int)) = true then r.1.code.length + 1 else 0) < (if b = true then a.code.length + 1 else 0)
   rw [if_pos hbt]
   split
   ·rename_i h; simp at h; omega
   ·omega
 ·show (rowL o frs f.code).length ≤ _
  rw [rowL_len]; exact Nat.le_refl _
 ·show (rowL o frs f.code).length ≤ _
  rw [rowL_len]; omega
theorem module_is {m : TModule} (o : Ttidy_Options) (hn : m.funcs.length ≤ 1000) (ht : m.threads.length ≤ 1000) (Q : TFunc → TFunc → Prop) (h : ∀ f ∈ m.funcs, Ok (tidy_Func f o) (Q f)) :
  Ok (tidy_Module m o) (fun t => t.threads = m.threads ∧ t.funcs.length = m.funcs.length ∧ ∀ (i : Nat) f g, m.funcs[i]? = some f → t.funcs[i]? = some g → Q f g) := by
 unfold tidy_Module slices_Clone_2
 rw [ap_some (by simp; omega)]
 simp only [Option.bind_some, List.nil_append]
 unfold tidy_Module_l1
 refine Ok.loop (B := fun s => tidy_Module_l1b m o m.threads s.1 s.2) (fun k s => s.2 = (k : Int) ∧ s.1.length = k ∧ ∀ (i : Nat) f g, m.funcs[i]? = some f → s.1[i]? = some g → Q f g) m.funcs.length (fun k s hk hs => ?_) (fun s hs => ?_) ⟨rfl, rfl, fun i f g _ h => by simp at h⟩
 ·obtain ⟨L, s2⟩ := s
  obtain ⟨rfl, hl, hq⟩ := hs
  simp only at hl hq
  show Ok (tidy_Module_l1b m o m.threads L k) _
  unfold tidy_Module_l1b
  rw [if_pos (by simp; omega), ix_some hk]
  simp only [Option.bind_some]
  refine (h _ (List.getElem_mem hk)).bind fun g hg => ?_
  rw [ap_some (by simp; omega)]
  simp only [Option.bind_some]
  refine .ret ⟨w64_succ (by omega), by simp [hl], fun i f g' h1 h2 => ?_⟩
  by_cases hi : i < k
  ·exact hq i f g' h1 (by rwa [List.getElem?_append_left (by omega)] at h2)
  ·rw [List.getElem?_append_right (by omega)] at h2
   have : i = k := by
    have := (List.getElem?_eq_some_iff.1 h2).1
    simp at this; omega
   subst this
   rw [hl, Nat.sub_self] at h2
   rw [List.getElem?_eq_getElem hk] at h1
   cases h1
   cases h2
   exact hg
 ·obtain ⟨L, s2⟩ := s
  obtain ⟨rfl, hl, hq⟩ := hs
  simp only at hl hq
  show Ok (tidy_Module_l1b m o m.threads L _) _
  unfold tidy_Module_l1b
  rw [if_neg (by simp)]
  exact .map (.ret ⟨rfl, hl, hq⟩)
theorem row_none (k : Ttidy_facts) (d : Bool) : ∀ xs, rowL ⟨false, false, d⟩ k xs = xs := by
 intro xs
 induction xs generalizing k with
 | nil => rfl
 | cons x xs ih =>
  show chg _ _ x :: rowL _ _ xs = _
  rw [ih]
  rfl
def nOp (op : Int) (xs : List TIns) : Nat := xs.countP fun x => decide (x.op = op)
theorem acts_is (f : TFunc) (op : Int) (h : f.code.length ≤ 1000) : ref11_Acts f op = some (nOp op f.code : Int) := by
 unfold ref11_Acts ref11_Acts_l1
 refine (Ok.loop (B := fun s => ref11_Acts_l1b f op s.1 s.2) (P := fun r => r = (nOp op f.code : Int)) (fun k s => s = ((nOp op (f.code.take k) : Int), (k : Int))) f.code.length (fun k s hk hs => ?_) (fun s hs => ?_) (by simp [nOp])).some_of
 ·subst hs
  show Ok (ref11_Acts_l1b f op _ _) _
  unfold ref11_Acts_l1b ref11_Acts_k1
  have hle : nOp op (f.code.take k) ≤ k := by
   have : nOp op (f.code.take k) ≤ _ := List.countP_le_length
   simp at this; omega
  rw [if_pos (by simp; omega), ix_some hk]
  simp only [Option.bind_some]
  have ht : nOp op (f.code.take (k + 1)) = nOp op (f.code.take k) + (if decide (f.code[k].op = op) = true then 1 else 0) := by
   unfold nOp
   rw [List.take_add_one, List.getElem?_eq_getElem hk, Option.toList_some, List.countP_append, List.countP_singleton]
  refine .ite (fun hb => .ret ?_) (fun hb => .ret ?_)
  ·show _ = _
   rw [w64_succ (by omega), w64_succ (by omega), ht, if_pos hb]
  ·show _ = _
   rw [w64_succ (by omega), ht, if_neg (by rw [hb]; decide)]
   rfl
 ·subst hs
  show Ok (ref11_Acts_l1b f op _ _) _
  unfold ref11_Acts_l1b
  rw [if_neg (by simp), List.take_length]
  exact ⟨_, rfl, rfl⟩
def Keeps (op : Int) : Prop := 9 ≤ op ∧ op ≠ 12 ∧ op ≠ 13 ∧ op ≠ 15
theorem nOp_row (o : Ttidy_Options) (op : Int) (h : Keeps op) : ∀ (k : Ttidy_facts) (xs : List TIns), nOp op (rowL o k xs) = nOp op xs
 | _, [] => rfl
 | k, x :: xs => by
  have h1 := nOp_row o op h (lrn (at0 k x) (chg o (at0 k x) x)) xs
  have h2 := (chg_s o (at0 k x) x).op
  have h3 : decide ((chg o (at0 k x) x).op = op) = decide (x.op = op) := by
   apply decide_eq_decide.2
   obtain ⟨a, b, c, d⟩ := h
   omega
  unfold nOp at h1 ⊢
  rw [rowL, List.countP_cons, List.countP_cons, h1, h3]
theorem nOp_shut {op : Int} (h : Keeps op) (xs : List TIns) : nOp op (shut xs) = nOp op xs := by
 have hr : decide (retI.op = op) = false := decide_eq_false (fun e => h.2.2.2 e.symm)
 unfold shut nOp
 split
 ·simp [hr]
 ·split
  ·simp [hr]
  ·rfl
def Less (o : Ttidy_Options) (f g : TFunc) : Prop :=
 g.name = f.name ∧ g.params = f.params ∧ g.regs = f.regs ∧ Fine g ∧ g.code.length ≤ f.code.length + 1 ∧ (∀ op, Keeps op → nOp op g.code ≤ nOp op f.code) ∧ (o.dead = false → ∀ op, Keeps op → nOp op g.code = nOp op f.code)
theorem func_less {f : TFunc} (o : Ttidy_Options) (hf : Fine f) (hl : f.code.length ≤ 900) : Ok (tidy_Func f o) (Less o f) := by
 refine (func_is o hf hl (fun g => g.name = f.name ∧ g.params = f.params ∧ g.regs = f.regs ∧ ∀ op, Keeps op → nOp op g.code ≤ nOp op f.code) ⟨rfl, rfl, rfl, fun op h => by show nOp op (rowL o frs f.code) ≤ _; rw [nOp_row o op h]; exact Nat.le_refl _⟩ (fun a b _ ha hs => ?_)).mono fun g hg => ⟨hg.1.1, hg.1.2.1, hg.1.2.2.1, hg.2.1, hg.2.2.1, hg.1.2.2.2, fun hd op h => ?_⟩
 ·obtain ⟨kp, rfl, _⟩ := hs
  refine ⟨ha.1, ha.2.1, ha.2.2.1, fun op h => Nat.le_trans ?_ (ha.2.2.2 op h)⟩
  show nOp op (shut (sel kp 0 a.code)) ≤ _
  rw [nOp_shut h]
  exact (sel_sub kp 0 a.code).countP_le
 ·rw [hg.2.2.2 hd]
  exact nOp_row o op h _ _
theorem same_is (f : TFunc) (h : f.code.length ≤ 1000) (ha : ∀ x ∈ f.code, x.args.length ≤ 1000) : ref11_Same f f = some true := by
 unfold ref11_Same
 rw [if_neg (by simp)]
 unfold ref11_Same_l1
 refine Ok.some_of (loop_all f.code (by omega) (fun k x hk => ?_) ?_)
 ·have hk' := (List.getElem?_eq_some_iff.1 hk).1
  unfold ref11_Same_l1b
  rw [if_pos (by simp; omega), ix_nat, hk]
  simp only [Option.bind_some]
  rw [if_neg (by simp)]
  unfold ref11_Same_l2
  have hx := ha x (List.mem_of_getElem? hk)
  refine (loop_all (P := fun r => r = .inl (w64 ((k : Int) + 1))) x.args (by omega) (fun j y hj => ?_) ?_).mono fun r hr => ?_
  ·have hj' := (List.getElem?_eq_some_iff.1 hj).1
   unfold ref11_Same_l2b
   rw [if_pos (by simp; omega), ix_nat, hj]
   simp only [Option.bind_some]
   rw [if_neg (by simp)]
   exact .ret rfl
  ·unfold ref11_Same_l2b
   rw [if_neg (by simp)]
   exact .map (.ret rfl)
  ·rw [hr]; rfl
 ·unfold ref11_Same_l1b
  rw [if_neg (by simp)]
  exact .map (.ret rfl)
end Go.Vm.G11
