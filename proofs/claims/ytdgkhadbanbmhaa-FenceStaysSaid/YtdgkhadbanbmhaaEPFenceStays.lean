/-
  The fencing pass takes nothing away, and what is good stays good.
-/
import Derived.Test.YtdgkhadbanbmhaaEP12x
set_option linter.unusedSimpArgs false
set_option linter.unusedVariables false
namespace Go.Vm.G12
open Go

def cnt (c : List TIns) (i : Int) : Nat := c.countP (fun x => (decide (x.op = 11)) && (decide (x.imm = i)))
theorem count_is (f : TFunc) (i : Int) (h : f.code.length ≤ 1000) : ref08_count f i = some (cnt f.code i : Int) := by
  unfold ref08_count ref08_count_l1
  refine (Ok.loop (B := fun s => ref08_count_l1b f i s.1 s.2) (P := fun r => r = (cnt f.code i : Int)) (fun k s => s = ((cnt (f.code.take k) i : Int), (k : Int))) f.code.length (fun k s hk hs => ?_) (fun s hs => ?_) (by simp [cnt])).some_of
  · subst hs
    show Ok (ref08_count_l1b f i _ _) _
    unfold ref08_count_l1b ref08_count_k1
    have hle : cnt (f.code.take k) i ≤ k := by
      have : cnt (f.code.take k) i ≤ _ := List.countP_le_length
      simp at this; omega
    rw [if_pos (by simp; omega), ix_some hk]
    simp only [Option.bind_some]
    have ht : cnt (f.code.take (k + 1)) i = cnt (f.code.take k) i + (if (decide (f.code[k].op = 11)) && (decide (f.code[k].imm = i)) then 1 else 0) := by
      unfold cnt
      rw [List.take_add_one, List.getElem?_eq_getElem hk, Option.toList_some, List.countP_append, List.countP_singleton]
    refine .ite (fun hb => .ret ?_) (fun hb => .ret ?_)
    · show _ = _
      rw [w64_succ (by omega), w64_succ (by omega), ht, if_pos hb]
    · show _ = _
      rw [w64_succ (by omega), ht, if_neg (by rw [hb]; decide)]
      rfl
  · subst hs
    show Ok (ref08_count_l1b f i _ _) _
    unfold ref08_count_l1b
    rw [if_neg (by simp), List.take_length]
    exact ⟨_, rfl, rfl⟩

section
variable {f f' : TFunc}
theorem ins_congr (hr : f.regs = f'.regs) (hc : ∀ i, ref08_count f i = ref08_count f' i) (p : TIns) : ref08_ins f p = ref08_ins f' p := by
  have h2 : ref08_ins_k2 f = ref08_ins_k2 f' := by funext a b c; unfold ref08_ins_k2; simp only [hc]
  have h3 : ref08_ins_l1b f = ref08_ins_l1b f' := by funext a b c; unfold ref08_ins_l1b; simp only [h2, hr]
  have h4 : ref08_ins_l1 f = ref08_ins_l1 f' := by funext a b c; unfold ref08_ins_l1; simp only [h3]
  have h5 : ref08_ins_k1 f = ref08_ins_k1 f' := by funext a b c; unfold ref08_ins_k1; simp only [h4, hr]
  unfold ref08_ins; simp only [h5]

theorem has_tot (op : Int) : Ok (ref08_has op) (fun _ => True) := by
  have h5 : ∀ b, Ok (ref08_has_k5 b) (fun _ => True) := fun b => .ite (fun _ => .ret trivial) (fun _ => .ret trivial)
  have h4 : ∀ b, Ok (ref08_has_k4 op b) (fun _ => True) := fun b => .ite (fun _ => .ret trivial) (fun _ => .ite (fun _ => .ret trivial) (fun _ => .ite (fun _ => .ret trivial) (fun _ => .ite (fun _ => h5 _) (fun _ => .ite (fun _ => h5 _) (fun _ => .ite (fun _ => h5 _) (fun _ => h5 _))))))
  have h3 : ∀ b, Ok (ref08_has_k3 op b) (fun _ => True) := fun b => .ite (fun _ => .ret trivial) (fun _ => .ite (fun _ => .ret trivial) (fun _ => .ite (fun _ => h4 _) (fun _ => h4 _)))
  have h2 : ∀ b, Ok (ref08_has_k2 op b) (fun _ => True) := fun b => .ite (fun _ => .ret trivial) (fun _ => .ite (fun _ => h3 _) (fun _ => .ite (fun _ => h3 _) (fun _ => .ite (fun _ => h3 _) (fun _ => .ite (fun _ => h3 _) (fun _ => .ite (fun _ => h3 _) (fun _ => h3 _))))))
  have h1 : ∀ b, Ok (ref08_has_k1 op b) (fun _ => True) := fun b => .ite (fun _ => .ret trivial) (fun _ => .ite (fun _ => h2 _) (fun _ => h2 _))
  exact .ite (fun _ => h1 _) (fun _ => h1 _)
theorem reg_tot (a b : Bool) (c d : Int) : Ok (ref08_register a b c d) (fun _ => True) := .ite (fun _ => .ret trivial) (fun _ => .ret trivial)

theorem ins_tot (h : f.code.length ≤ 1000) (p : TIns) (hp : p.args.length ≤ 9223372036854775807) : Ok (ref08_ins f p) (fun _ => True) := by
  have h2 : ∀ t b, Ok (ref08_ins_k2 f p t b) (fun _ => True) := fun t b => .ite (fun _ => .ret trivial) (fun _ => .ite (fun _ => .ret trivial) (fun _ => .ite (fun _ => .ret trivial) (fun _ => .ite (fun _ => by rw [count_is f _ h]; exact .ret trivial) (fun _ => .ret trivial))))
  have h1 : ∀ t, Ok (ref08_ins_l1 f p t 0) (fun _ => True) := by
    intro t
    unfold ref08_ins_l1
    refine loop_all p.args hp (fun k x hk => ?_) ?_
    · have hk' := (List.getElem?_eq_some_iff.1 hk).1
      unfold ref08_ins_l1b
      rw [if_pos (by simp; omega), ix_nat, hk]
      exact .ite (fun _ => .map (.ret trivial)) (fun _ => .ret rfl)
    · unfold ref08_ins_l1b
      rw [if_neg (by simp)]
      refine .map (.ite (fun _ => .ret trivial) (fun _ => .ite (fun _ => h2 _ _) (fun _ => .ite (fun _ => h2 _ _) (fun _ => .ite (fun _ => h2 _ _) (fun _ => .ite (fun _ => h2 _ _) (fun _ => h2 _ _))))))
  have hk : ∀ t b, Ok (ref08_ins_k1 f p t b) (fun _ => True) := by
    intro t b
    refine (reg_tot _ _ _ _).bind fun _ _ => ?_
    refine Ok.bind (P := fun _ => True) (.ite (fun _ => .ret trivial) (fun _ => (reg_tot _ _ _ _).bind fun _ _ => .ret trivial)) fun _ _ => ?_
    refine Ok.bind (P := fun _ => True) (.ite (fun _ => .ret trivial) (fun _ => (reg_tot _ _ _ _).bind fun _ _ => .ret trivial)) fun _ _ => ?_
    exact .ite (fun _ => .ret trivial) (fun _ => h1 _)
  refine .ite (fun _ => .ret trivial) (fun _ => (has_tot _).bind fun _ _ => .ite (fun _ => .ite (fun _ => .ret trivial) (fun _ => hk _ _)) (fun _ => hk _ _))

theorem has21 : ref08_has 21 = some (false, false, false, false) := by
  unfold ref08_has ref08_has_k1 ref08_has_k2 ref08_has_k3 ref08_has_k4 ref08_has_k5
  simp
theorem has9 : ref08_has 9 = some (true, true, false, false) := by
  unfold ref08_has ref08_has_k1 ref08_has_k2 ref08_has_k3 ref08_has_k4 ref08_has_k5
  simp
theorem k2_21 (p : TIns) (h : p.op = 21) (t : Bool × Bool × Bool × Bool) : ref08_ins_k2 f p t true = some true := rfl
/-- What a fence must be. -/
theorem fence_ins (p : TIns) (h : p.op = 21) (hd : p.d = -1) (hb : p.b = -1) (hv : p.args = []) (hi : 1 ≤ p.imm ∧ p.imm ≤ 3) (ha : p.imm ≠ 3 → p.a = -1) (ha3 : p.imm = 3 → 0 ≤ p.a ∧ p.a < f.regs)
    (hz : p.what = 0 ∧ p.volatile = false ∧ p.final = false) : ref08_ins f p = some true := by
  obtain ⟨op, d, a, b, imm, args, what, vol, fin⟩ := p
  simp only at h hd hb hv hi ha ha3 hz
  obtain ⟨rfl, rfl, rfl⟩ := hz
  subst h hd hb hv
  have hl : ref08_ins_l1 f ⟨21, -1, a, -1, imm, [], 0, false, false⟩ (false, false, false, false) 0 = some true := by
    unfold ref08_ins_l1
    rw [loopO_eq]
    unfold ref08_ins_l1b
    simp [ref08_ins_k2]
  unfold ref08_ins
  simp only [has21, Option.bind_some]
  rw [if_neg (by simp), if_pos (by simp), if_neg (by simp; omega)]
  unfold ref08_ins_k1
  rw [show ref08_register false (decide ((21 : Int) = 14)) (-1) f.regs = some true from rfl]
  simp only [Option.bind_some]
  have hr : ref08_register (decide (imm = 3)) (((decide ((21 : Int) = 9)) || (decide ((21 : Int) = 10))) || (decide ((21 : Int) = 15))) a f.regs = some true := by
    unfold ref08_register
    by_cases h3 : imm = 3
    · have := ha3 h3
      simp [h3]; omega
    · simp [h3, ha h3]
  rw [hr]
  simp only [Option.bind_some, Bool.not_true, Bool.false_eq_true, if_false]
  rw [show ref08_register false false (-1) f.regs = some true from rfl]
  simp only [Option.bind_some, Bool.not_true, Bool.false_eq_true, if_false]
  exact hl
theorem fnc_ins (k : Int) (h : k = 1 ∨ k = 2) : ref08_ins f (fnc k) = some true :=
  fence_ins _ rfl rfl rfl rfl (by show 1 ≤ k ∧ k ≤ 3; omega) (fun _ => rfl) (fun h3 => by have : k = 3 := h3; omega) ⟨rfl, rfl, rfl⟩
theorem acq_ins (d : Int) (h : 0 ≤ d ∧ d < f.regs) : ref08_ins f (acq d) = some true :=
  fence_ins _ rfl rfl rfl rfl (by show (1 : Int) ≤ 3 ∧ (3 : Int) ≤ 3; omega) (fun h => (h rfl).elim) (fun _ => h) ⟨rfl, rfl, rfl⟩
theorem load_ins (p : TIns) (h : p.op = 9) (hp : ref08_ins f p = some true) : 0 ≤ p.d ∧ p.d < f.regs := by
  unfold ref08_ins at hp
  rw [h, has9] at hp
  simp only [Option.bind_some] at hp
  rw [if_neg (by simp), if_neg (by simp)] at hp
  unfold ref08_ins_k1 ref08_register at hp
  rw [h] at hp
  by_cases hc : 0 ≤ p.d ∧ p.d < f.regs
  · exact hc
  · have : (decide (0 ≤ p.d) && decide (p.d < f.regs)) = false := by
      rw [Bool.eq_false_iff]; simpa using hc
    simp [this] at hp
theorem wi_ins (p : TIns) (k : Int) (h : pl p = true) (hk : k = 1 ∨ k = 2) : ref08_ins f (wi p k) = ref08_ins f p := by
  obtain ⟨op, d, a, b, imm, args, what, vol, fin⟩ := p
  have h1 : op = 21 ∧ (imm = 1 ∨ imm = 2) := by simpa [pl] using h
  obtain ⟨rfl, hi⟩ := h1
  have hl : ∀ t, ref08_ins_l1b f (wi ⟨21, d, a, b, imm, args, what, vol, fin⟩ k) t = ref08_ins_l1b f ⟨21, d, a, b, imm, args, what, vol, fin⟩ t := by
    intro t; funext s
    unfold ref08_ins_l1b wi
    simp [ref08_ins_k2]
  have hk1 : ∀ t, ref08_ins_k1 f (wi ⟨21, d, a, b, imm, args, what, vol, fin⟩ k) t false = ref08_ins_k1 f ⟨21, d, a, b, imm, args, what, vol, fin⟩ t false := by
    intro t
    unfold ref08_ins_k1 ref08_ins_l1
    rw [hl]; rfl
  unfold ref08_ins
  have e1 : (wi ⟨21, d, a, b, imm, args, what, vol, fin⟩ k).op = 21 := rfl
  have e2 : (wi ⟨21, d, a, b, imm, args, what, vol, fin⟩ k).imm = k := rfl
  have e3 : decide (k = 3) = false := by simp; omega
  have e4 : decide (imm = 3) = false := by simp; omega
  have e5 : (decide (k < 1) || decide (3 < k)) = false := by simp; omega
  have e6 : (decide (imm < 1) || decide (3 < imm)) = false := by simp; omega
  rw [e1, e2, has21]
  simp only [Option.bind_some, e3, e4, e5, e6, hk1]
end

/-! Good -/
def Gd (f : TFunc) (x : TIns) : Prop := ref08_ins f x = some true ∧ (x.op = 11 → cnt f.code x.imm = 1)
def Good (f : TFunc) : Prop := (∃ l, f.code.getLast? = some l ∧ (l.op = 12 ∨ l.op = 15 ∨ l.op = 16)) ∧ 0 ≤ f.params ∧ f.params ≤ f.regs ∧ ∀ x ∈ f.code, Gd f x
theorem good_is (f : TFunc) (h : f.code.length ≤ 1000) (ha : ∀ x ∈ f.code, x.args.length ≤ 9223372036854775807) : Ok (ref08_Good f) (fun b => b = true ↔ Good f) := by
  unfold ref08_Good
  refine .ite (fun hb => .ret ?_) (fun hb => ?_)
  · constructor
    · intro h; cases h
    · rintro ⟨⟨l, h1, _⟩, h2, h3, _⟩
      have : f.code ≠ [] := by rintro h; rw [h] at h1; cases h1
      have := List.length_pos_iff.2 this
      simp only [Bool.or_eq_true, decide_eq_true_eq] at hb; omega
  · simp only [Bool.or_eq_false_iff, decide_eq_false_iff_not] at hb
    have hl : 0 < f.code.length := by omega
    have hpr : 0 ≤ f.params ∧ f.params ≤ f.regs := by omega
    have hw : w64 ((f.code.length : Int) - 1) = ((f.code.length - 1 : Nat) : Int) := by rw [w64_id (by omega) (by omega)]; omega
    rw [hw, ix_some (by omega)]
    simp only [Option.bind_some]
    have hlast : f.code.getLast? = some f.code[f.code.length - 1] := by rw [List.getLast?_eq_getElem?, List.getElem?_eq_getElem (by omega)]
    refine .ite (fun hc => .ret ?_) (fun hc => ?_)
    · constructor
      · intro h; cases h
      · rintro ⟨⟨l, h1, h2⟩, _⟩
        rw [hlast] at h1; cases h1
        simp at hc; omega
    · have hlo : f.code[f.code.length - 1].op = 12 ∨ f.code[f.code.length - 1].op = 15 ∨ f.code[f.code.length - 1].op = 16 := by simp at hc; omega
      have key : (∀ x ∈ f.code, Gd f x) → Good f := fun hx => ⟨⟨_, hlast, hlo⟩, hpr.1, hpr.2, hx⟩
      unfold ref08_Good_l1
      refine Ok.loop (fun k s => s = (k : Int) ∧ ∀ x ∈ f.code.take k, Gd f x) f.code.length (fun k s hk hs => ?_) (fun s hs => ?_) (by simp)
      · obtain ⟨rfl, hs⟩ := hs
        show Ok (ref08_Good_l1b f k) _
        unfold ref08_Good_l1b
        rw [if_pos (by simp; omega), ix_some hk]
        simp only [Option.bind_some]
        refine ((ins_tot h f.code[k] (ha _ (List.getElem_mem hk))).and (o := ref08_ins f f.code[k]) (Q := fun b => ref08_ins f f.code[k] = some b) ?_).bind fun b hb => ?_
        · obtain ⟨r, hr, _⟩ := ins_tot h f.code[k] (ha _ (List.getElem_mem hk)); exact ⟨r, hr, hr⟩
        · refine Ok.bind (P := fun y => y = false ↔ Gd f f.code[k]) ?_ fun y hy => .ite (fun hyt => .map (.ret ?_)) (fun hyf => .ret ⟨w64_succ (by omega), ?_⟩)
          · refine .ite (fun hb1 => .ret ?_) (fun hb1 => Ok.bind (P := fun y => y = false ↔ Gd f f.code[k]) (.ite (fun hop => ?_) (fun hop => .ret ?_)) (fun y hy => .ret hy))
            · constructor
              · intro h; cases h
              · rintro ⟨h1, _⟩
                rw [hb.2] at h1; cases h1; cases hb1
            · rw [count_is f _ h]
              have hop' : f.code[k].op = 11 := by simpa using hop
              have hbt : b = true := by simpa using hb1
              refine .ret ?_
              constructor
              · intro h1
                refine ⟨by rw [hb.2, hbt], fun _ => ?_⟩
                simp at h1; omega
              · rintro ⟨_, h1⟩
                have := h1 hop'
                simp [this]
            · have hop' : f.code[k].op ≠ 11 := by simpa using hop
              have hbt : b = true := by simpa using hb1
              exact ⟨fun _ => ⟨by rw [hb.2, hbt], fun h => (hop' h).elim⟩, fun _ => rfl⟩
          · refine ⟨fun h => (by cases h), fun hg => ?_⟩
            have := hy.2 (hg.2.2.2 _ (List.getElem_mem hk))
            rw [hyt] at this; cases this
          · intro x hx
            rw [List.take_add_one, List.getElem?_eq_getElem hk, Option.toList_some, List.mem_append, List.mem_singleton] at hx
            rcases hx with hx | rfl
            · exact hs x hx
            · exact hy.1 hyf
      · obtain ⟨rfl, hs⟩ := hs
        show Ok (ref08_Good_l1b f f.code.length) _
        unfold ref08_Good_l1b
        rw [if_neg (by simp)]
        rw [List.take_length] at hs
        exact .map (.ret ⟨fun _ => key hs, fun _ => rfl⟩)

/-! What is good stays good -/
theorem cnt_nb (c : List TIns) (i : Int) : cnt (c.filter nb) i = cnt c i := by
  unfold cnt
  rw [List.countP_filter]
  congr 1
  funext x
  by_cases h : x.op = 11
  · simp [h, nb]
  · simp [h]
theorem cnt_cod (o : Opt) (c : List TIns) (i : Int) : cnt (cod o c) i = cnt c i := by rw [← cnt_nb, cod_nb, cnt_nb]

theorem run_all {P : TIns → Prop} (hw : ∀ x k, pl x = true → k = 1 ∨ k = 2 → P x → P (wi x k)) : ∀ (xs : List TIns) (l : TIns), (∀ x ∈ l :: xs, P x) → ∀ x ∈ run l xs, P x
  | [], l, h, x, hx => h x hx
  | y :: ys, l, h, x, hx => by
    unfold run at hx
    split at hx
    · rename_i hp
      simp only [Bool.and_eq_true] at hp
      refine run_all hw ys _ (fun z hz => ?_) x hx
      rcases List.mem_cons.1 hz with rfl | hz
      · refine hw l _ hp.1 ?_ (h l (by simp))
        have h1 : l.op = 21 ∧ (l.imm = 1 ∨ l.imm = 2) := by simpa [pl] using hp.1
        have h2 : y.op = 21 ∧ (y.imm = 1 ∨ y.imm = 2) := by simpa [pl] using hp.2
        omega
      · exact h z (by simp [hz])
    · rcases List.mem_cons.1 hx with rfl | hx
      · exact h _ (by simp)
      · exact run_all hw ys y (fun z hz => h z (List.mem_cons_of_mem _ hz)) x hx
theorem run_last : ∀ (xs : List TIns) (l z : TIns), (l :: xs).getLast? = some z → z.op ≠ 21 → (run l xs).getLast? = some z
  | [], l, z, h, _ => h
  | y :: ys, l, z, h, hz => by
    unfold run
    rw [List.getLast?_cons_cons] at h
    split
    · rename_i hp
      simp only [Bool.and_eq_true] at hp
      have h2 : y.op = 21 ∧ (y.imm = 1 ∨ y.imm = 2) := by simpa [pl] using hp.2
      refine run_last ys _ z ?_ hz
      cases ys with
      | nil => cases h; exact (hz h2.1).elim
      | cons a as => rw [List.getLast?_cons_cons] at h ⊢; exact h
    · have := run_last ys y z h hz
      cases hr : run y ys with
      | nil => rw [hr] at this; cases this
      | cons a as => rw [List.getLast?_cons_cons, ← hr]; exact this
theorem raw_last (o : Opt) (c : List TIns) (z : TIns) (h : c.getLast? = some z) (hz : z.op = 12 ∨ z.op = 15 ∨ z.op = 16) : (raw o c).getLast? = some z := by
  obtain ⟨b, rfl⟩ : ∃ b, c = b ++ [z] := by
    rcases List.eq_nil_or_concat c with rfl | ⟨b, l, rfl⟩
    · cases h
    · rw [List.concat_eq_append] at *
      rw [List.getLast?_concat] at h; cases h; exact ⟨b, rfl⟩
  have h1 : decide (z.op = 22) = false := by simp; omega
  have h2 : bhd z o = [] := by
    unfold bhd
    have e1 : decide (z.op = 9) = false := by simp; omega
    have e2 : decide (z.op = 10) = false := by simp; omega
    simp [e1, e2]
  unfold raw
  rw [List.flatMap_append]
  have h3 : stp o z = ahd z o ++ [z] := by unfold stp; rw [h1, h2]; simp
  simp only [List.flatMap_cons, List.flatMap_nil, List.append_nil, h3]
  rw [← List.append_assoc, List.getLast?_concat]
theorem stp_all (f : TFunc) (o : Opt) (x : TIns) (h : Gd f x) : ∀ y ∈ stp o x, Gd f y := by
  have hf : ∀ k, (k = 1 ∨ k = 2) → Gd f (fnc k) := fun k hk => ⟨fnc_ins k hk, fun h => by cases h⟩
  intro y hy
  unfold stp at hy
  split at hy
  · unfold frz at hy
    split at hy
    · cases hy
    · rcases List.mem_singleton.1 hy with rfl; exact hf 2 (.inr rfl)
  · rw [List.mem_append, List.mem_append] at hy
    rcases hy with (hy | hy) | hy
    · unfold ahd at hy
      split at hy
      · rcases List.mem_singleton.1 hy with rfl; exact hf 1 (.inl rfl)
      · split at hy
        · rcases List.mem_singleton.1 hy with rfl; exact hf 2 (.inr rfl)
        · split at hy
          · rcases List.mem_singleton.1 hy with rfl; exact hf 1 (.inl rfl)
          · cases hy
    · rcases List.mem_singleton.1 hy with rfl; exact h
    · unfold bhd at hy
      split at hy
      · rcases List.mem_singleton.1 hy with rfl; exact hf 2 (.inr rfl)
      · split at hy
        · rename_i hb
          rcases List.mem_singleton.1 hy with rfl
          have : x.op = 9 := by simp at hb; exact hb.1
          exact ⟨acq_ins _ (load_ins x this h.1), fun h => by cases h⟩
        · split at hy
          · rcases List.mem_singleton.1 hy with rfl; exact hf 1 (.inl rfl)
          · cases hy
theorem raw_all (f : TFunc) (o : Opt) (c : List TIns) (h : ∀ x ∈ c, Gd f x) : ∀ y ∈ raw o c, Gd f y := by
  intro y hy
  obtain ⟨x, hx, hy⟩ := List.mem_flatMap.1 hy
  exact stp_all f o x (h x hx) y hy
theorem good_stays (f : TFunc) (o : Opt) (hl : f.code.length ≤ 60) (h : Good f) : Good (fun' o f) := by
  obtain ⟨⟨z, h1, h2⟩, h3, h4, h5⟩ := h
  have hlen := cod_len o f.code
  have tr : ∀ x, Gd f x → Gd (fun' o f) x := fun x hx => by
    refine ⟨?_, fun h => ?_⟩
    · rw [← ins_congr (f := f) (f' := fun' o f) rfl (fun i => ?_) x]
      · exact hx.1
      · rw [count_is f i (by omega), count_is (fun' o f) i (by show (cod o f.code).length ≤ 1000; omega)]
        show _ = some (cnt (cod o f.code) i : Int)
        rw [cnt_cod]
    · show cnt (cod o f.code) x.imm = 1
      rw [cnt_cod]; exact hx.2 h
  have hr := raw_all f o f.code h5
  refine ⟨⟨z, ?_, h2⟩, h3, h4, fun x hx => tr x ?_⟩
  · show (cod o f.code).getLast? = some z
    have := raw_last o f.code z h1 h2
    unfold cod
    split
    · cases hc : raw o f.code with
      | nil => rw [hc] at this; cases this
      | cons a as => rw [hc] at this; exact run_last as a z this (by omega)
    · exact this
  · have hx' : x ∈ cod o f.code := hx
    unfold cod at hx'
    split at hx'
    · cases hc : raw o f.code with
      | nil => rw [hc] at hx'; cases hx'
      | cons a as =>
        rw [hc] at hx' hr
        exact run_all (P := Gd f) (fun x k hp hk hg => ⟨by rw [wi_ins x k hp hk]; exact hg.1, fun h => by
          have : x.op = 21 := by simp [pl] at hp; exact hp.1
          have h' : x.op = 11 := h
          omega⟩) as a hr x hx'
    · exact hr x hx'

theorem run_args : ∀ (xs : List TIns) (l : TIns) (N : Nat), (∀ x ∈ l :: xs, x.args.length ≤ N) → ∀ x ∈ run l xs, x.args.length ≤ N :=
  fun xs l N => run_all (P := fun x => x.args.length ≤ N) (fun _ _ _ _ h => h) xs l
theorem cod_args (o : Opt) (c : List TIns) (N : Nat) (h : ∀ x ∈ c, x.args.length ≤ N) : ∀ x ∈ cod o c, x.args.length ≤ N := by
  have hr : ∀ x ∈ raw o c, x.args.length ≤ N := by
    intro y hy
    obtain ⟨x, hx, hy⟩ := List.mem_flatMap.1 hy
    have hf : ∀ k, (fnc k).args.length ≤ N := fun k => Nat.zero_le _
    have ha : ∀ k, (acq k).args.length ≤ N := fun k => Nat.zero_le _
    unfold stp frz ahd bhd at hy
    have hxx := h x hx
    have : ∀ y, (y ∈ (if (decide (x.imm = 1)) && o.bare then [] else [fnc 2])) → y.args.length ≤ N := by
      intro y hy; split at hy
      · cases hy
      · rcases List.mem_singleton.1 hy with rfl; exact hf _
    split at hy
    · exact this y hy
    · rw [List.mem_append, List.mem_append] at hy
      rcases hy with (hy | hy) | hy
      · split at hy
        · rcases List.mem_singleton.1 hy with rfl; exact hf _
        · split at hy
          · rcases List.mem_singleton.1 hy with rfl; exact hf _
          · split at hy
            · rcases List.mem_singleton.1 hy with rfl; exact hf _
            · cases hy
      · rcases List.mem_singleton.1 hy with rfl; exact hxx
      · split at hy
        · rcases List.mem_singleton.1 hy with rfl; exact hf _
        · split at hy
          · rcases List.mem_singleton.1 hy with rfl; exact ha _
          · split at hy
            · rcases List.mem_singleton.1 hy with rfl; exact hf _
            · cases hy
  unfold cod
  split
  · cases hc : raw o c with
    | nil => intro x hx; cases hx
    | cons a as => rw [hc] at hr; exact run_args as a N hr
  · exact hr

theorem law12_FenceStays_law (m : TModule) (o : Tfence_Options) (h : OK_TModule m) (h' : OK_Tfence_Options o) : law12_FenceStays m o = some true := by
  unfold law12_FenceStays
  rw [alive_is]
  simp only [Option.bind_some, Bool.not_true, Bool.false_eq_true, if_false]
  refine ((great_is m h).bind fun b hb => ?_).some_of
  refine .ite (fun _ => .ret rfl) (fun hbf => ?_)
  obtain ⟨h1, h2, h3⟩ := hb hbf
  rw [Module_is m o h1 h2 h3]
  simp only [Option.bind_some]
  unfold law12_FenceStays_l1
  refine loop_all (B := fun s => law12_FenceStays_l1b m ⟨m.funcs.map (fun' o), m.threads⟩ s) m.funcs (by omega) (fun k f hk => ?_) ?_
  · have hk' := (List.getElem?_eq_some_iff.1 hk).1
    have hf : f ∈ m.funcs := List.mem_of_getElem? hk
    have hfl := h3 f hf
    have hfa : ∀ x ∈ f.code, x.args.length ≤ 9223372036854775807 := fun x hx => ((((h.1.1 f hf).2.2.2.1).1 x hx).2.2.2.2.2.1).2
    have hlen := cod_len o f.code
    have hx : ix (m.funcs.map (fun' o)) (k : Int) = some (fun' o f) := by rw [ix_nat, List.getElem?_map, hk]; rfl
    unfold law12_FenceStays_l1b
    rw [if_pos (by simp; omega), ix_nat, hk]
    simp only [Option.bind_some]
    rw [bare_is f (by omega)]
    simp only [Option.bind_some]
    show Ok ((ix (m.funcs.map (fun' o)) (k : Int)).bind _) _
    rw [hx]
    simp only [Option.bind_some]
    rw [bare_is (fun' o f) (by show (cod o f.code).length ≤ 1000; omega)]
    simp only [Option.bind_some]
    have hbe : (⟨(fun' o f).name, (fun' o f).params, (fun' o f).regs, (fun' o f).code.filter nb⟩ : TFunc) = ⟨f.name, f.params, f.regs, f.code.filter nb⟩ := by
      show (⟨f.name, f.params, f.regs, (cod o f.code).filter nb⟩ : TFunc) = _
      rw [cod_nb]
    rw [hbe, same_refl ⟨f.name, f.params, f.regs, f.code.filter nb⟩ (by have := List.length_filter_le nb f.code; show (f.code.filter nb).length ≤ _; omega) (fun x hx => hfa x (List.mem_filter.1 hx).1)]
    simp only [Option.bind_some, Bool.not_true, Bool.false_eq_true, if_false]
    refine (good_is f (by omega) hfa).bind fun g hg => .ite (fun hgt => ?_) (fun hgf => .ret rfl)
    refine (good_is (fun' o f) (by show (cod o f.code).length ≤ 1000; omega) (cod_args o f.code _ hfa)).bind fun g' hg' => ?_
    rw [hg'.2 (good_stays f o hfl (hg.1 hgt))]
    exact .ret rfl
  · unfold law12_FenceStays_l1b
    rw [if_neg (by simp)]
    exact .map (.ret rfl)
end Go.Vm.G12
