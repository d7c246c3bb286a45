/-
  What the checker of code asks for.
-/
import Derived.Test.YtllkfanfdbnogaaEPS10y
set_option linter.unusedSimpArgs false
set_option linter.unusedVariables false
set_option linter.unusedSectionVars false
namespace Go.Vm.G10s
open Go

def cnt (c : List TIns) (i : Int) : Nat := c.countP (fun x => (decide (x.op = 11)) && (decide (x.imm = i)))
theorem count_is (f : TFunc) (i : Int) (h : f.code.length ≤ 1000) : ref08_count f i = some (cnt f.code i : Int) := by
  unfold ref08_count ref08_count_l1
  refine (Ok.loop (B := fun s => ref08_count_l1b f i s.1 s.2) (P := fun r => r = (cnt f.code i : Int)) (fun k s => s = ((cnt (f.code.take k) i : Int), (k : Int))) f.code.length (fun k s hk hs => ?_) (fun s hs => ?_) (by simp [cnt])).some_of
  · subst hs
    show Ok (ref08_count_l1b f i _ _) _
    unfold ref08_count_l1b ref08_count_k1
    have hle : cnt (f.code.take k) i ≤ k := by
      have : cnt (f.code.take k) i ≤ _ := List.countP_le_length
      simp at this; omega
    rw [if_pos (by simp; omega), ix_some hk]
    simp only [Option.bind_some]
    have ht : cnt (f.code.take (k + 1)) i = cnt (f.code.take k) i + (if (decide (f.code[k].op = 11)) && (decide (f.code[k].imm = i)) then 1 else 0) := by
      unfold cnt
      rw [List.take_add_one, List.getElem?_eq_getElem hk, Option.toList_some, List.countP_append, List.countP_singleton]
    refine .ite (fun hb => .ret ?_) (fun hb => .ret ?_)
    · show _ = _
      rw [w64_succ (by omega), w64_succ (by omega), ht, if_pos hb]
    · show _ = _
      rw [w64_succ (by omega), ht, if_neg (by rw [hb]; decide)]
      rfl
  · subst hs
    show Ok (ref08_count_l1b f i _ _) _
    unfold ref08_count_l1b
    rw [if_neg (by simp), List.take_length]
    exact ⟨_, rfl, rfl⟩

section
variable {f f' : TFunc}
theorem has_tot (op : Int) : Ok (ref08_has op) (fun _ => True) := by
  have h5 : ∀ b, Ok (ref08_has_k5 b) (fun _ => True) := fun b => .ite (fun _ => .ret trivial) (fun _ => .ret trivial)
  have h4 : ∀ b, Ok (ref08_has_k4 op b) (fun _ => True) := fun b => .ite (fun _ => .ret trivial) (fun _ => .ite (fun _ => .ret trivial) (fun _ => .ite (fun _ => .ret trivial) (fun _ => .ite (fun _ => h5 _) (fun _ => .ite (fun _ => h5 _) (fun _ => .ite (fun _ => h5 _) (fun _ => h5 _))))))
  have h3 : ∀ b, Ok (ref08_has_k3 op b) (fun _ => True) := fun b => .ite (fun _ => .ret trivial) (fun _ => .ite (fun _ => .ret trivial) (fun _ => .ite (fun _ => h4 _) (fun _ => h4 _)))
  have h2 : ∀ b, Ok (ref08_has_k2 op b) (fun _ => True) := fun b => .ite (fun _ => .ret trivial) (fun _ => .ite (fun _ => h3 _) (fun _ => .ite (fun _ => h3 _) (fun _ => .ite (fun _ => h3 _) (fun _ => .ite (fun _ => h3 _) (fun _ => .ite (fun _ => h3 _) (fun _ => h3 _))))))
  have h1 : ∀ b, Ok (ref08_has_k1 op b) (fun _ => True) := fun b => .ite (fun _ => .ret trivial) (fun _ => .ite (fun _ => h2 _) (fun _ => h2 _))
  exact .ite (fun _ => h1 _) (fun _ => h1 _)
theorem reg_tot (a b : Bool) (c d : Int) : Ok (ref08_register a b c d) (fun _ => True) := .ite (fun _ => .ret trivial) (fun _ => .ret trivial)

theorem ins_tot (h : f.code.length ≤ 1000) (p : TIns) (hp : p.args.length ≤ 9223372036854775807) : Ok (ref08_ins f p) (fun _ => True) := by
  have h2 : ∀ t b, Ok (ref08_ins_k2 f p t b) (fun _ => True) := fun t b => .ite (fun _ => .ret trivial) (fun _ => .ite (fun _ => .ret trivial) (fun _ => .ite (fun _ => .ret trivial) (fun _ => .ite (fun _ => by rw [count_is f _ h]; exact .ret trivial) (fun _ => .ret trivial))))
  have h1 : ∀ t, Ok (ref08_ins_l1 f p t 0) (fun _ => True) := by
    intro t
    unfold ref08_ins_l1
    refine loop_all p.args hp (fun k x hk => ?_) ?_
    · have hk' := (List.getElem?_eq_some_iff.1 hk).1
      unfold ref08_ins_l1b
      rw [if_pos (by simp; omega), ix_nat, hk]
      exact .ite (fun _ => .map (.ret trivial)) (fun _ => .ret rfl)
    · unfold ref08_ins_l1b
      rw [if_neg (by simp)]
      refine .map (.ite (fun _ => .ret trivial) (fun _ => .ite (fun _ => h2 _ _) (fun _ => .ite (fun _ => h2 _ _) (fun _ => .ite (fun _ => h2 _ _) (fun _ => .ite (fun _ => h2 _ _) (fun _ => h2 _ _))))))
  have hk : ∀ t b, Ok (ref08_ins_k1 f p t b) (fun _ => True) := by
    intro t b
    refine (reg_tot _ _ _ _).bind fun _ _ => ?_
    refine Ok.bind (P := fun _ => True) (.ite (fun _ => .ret trivial) (fun _ => (reg_tot _ _ _ _).bind fun _ _ => .ret trivial)) fun _ _ => ?_
    refine Ok.bind (P := fun _ => True) (.ite (fun _ => .ret trivial) (fun _ => (reg_tot _ _ _ _).bind fun _ _ => .ret trivial)) fun _ _ => ?_
    exact .ite (fun _ => .ret trivial) (fun _ => h1 _)
  refine .ite (fun _ => .ret trivial) (fun _ => (has_tot _).bind fun _ _ => .ite (fun _ => .ite (fun _ => .ret trivial) (fun _ => hk _ _)) (fun _ => hk _ _))

end

/-! Good -/
def Gd (f : TFunc) (x : TIns) : Prop := ref08_ins f x = some true ∧ (x.op = 11 → cnt f.code x.imm = 1)
def Good (f : TFunc) : Prop := (∃ l, f.code.getLast? = some l ∧ (l.op = 12 ∨ l.op = 15 ∨ l.op = 16)) ∧ 0 ≤ f.params ∧ f.params ≤ f.regs ∧ ∀ x ∈ f.code, Gd f x
theorem good_is (f : TFunc) (h : f.code.length ≤ 1000) (ha : ∀ x ∈ f.code, x.args.length ≤ 9223372036854775807) : Ok (ref08_Good f) (fun b => b = true ↔ Good f) := by
  unfold ref08_Good
  refine .ite (fun hb => .ret ?_) (fun hb => ?_)
  · constructor
    · intro h; cases h
    · rintro ⟨⟨l, h1, _⟩, h2, h3, _⟩
      have : f.code ≠ [] := by rintro h; rw [h] at h1; cases h1
      have := List.length_pos_iff.2 this
      simp only [Bool.or_eq_true, decide_eq_true_eq] at hb; omega
  · simp only [Bool.or_eq_false_iff, decide_eq_false_iff_not] at hb
    have hl : 0 < f.code.length := by omega
    have hpr : 0 ≤ f.params ∧ f.params ≤ f.regs := by omega
    have hw : w64 ((f.code.length : Int) - 1) = ((f.code.length - 1 : Nat) : Int) := by rw [w64_id (by omega) (by omega)]; omega
    rw [hw, ix_some (by omega)]
    simp only [Option.bind_some]
    have hlast : f.code.getLast? = some f.code[f.code.length - 1] := by rw [List.getLast?_eq_getElem?, List.getElem?_eq_getElem (by omega)]
    refine .ite (fun hc => .ret ?_) (fun hc => ?_)
    · constructor
      · intro h; cases h
      · rintro ⟨⟨l, h1, h2⟩, _⟩
        rw [hlast] at h1; cases h1
        simp at hc; omega
    · have hlo : f.code[f.code.length - 1].op = 12 ∨ f.code[f.code.length - 1].op = 15 ∨ f.code[f.code.length - 1].op = 16 := by simp at hc; omega
      have key : (∀ x ∈ f.code, Gd f x) → Good f := fun hx => ⟨⟨_, hlast, hlo⟩, hpr.1, hpr.2, hx⟩
      unfold ref08_Good_l1
      refine Ok.loop (fun k s => s = (k : Int) ∧ ∀ x ∈ f.code.take k, Gd f x) f.code.length (fun k s hk hs => ?_) (fun s hs => ?_) (by simp)
      · obtain ⟨rfl, hs⟩ := hs
        show Ok (ref08_Good_l1b f k) _
        unfold ref08_Good_l1b
        rw [if_pos (by simp; omega), ix_some hk]
        simp only [Option.bind_some]
        refine ((ins_tot h f.code[k] (ha _ (List.getElem_mem hk))).and (o := ref08_ins f f.code[k]) (Q := fun b => ref08_ins f f.code[k] = some b) ?_).bind fun b hb => ?_
        · obtain ⟨r, hr, _⟩ := ins_tot h f.code[k] (ha _ (List.getElem_mem hk)); exact ⟨r, hr, hr⟩
        · refine Ok.bind (P := fun y => y = false ↔ Gd f f.code[k]) ?_ fun y hy => .ite (fun hyt => .map (.ret ?_)) (fun hyf => .ret ⟨w64_succ (by omega), ?_⟩)
          · refine .ite (fun hb1 => .ret ?_) (fun hb1 => Ok.bind (P := fun y => y = false ↔ Gd f f.code[k]) (.ite (fun hop => ?_) (fun hop => .ret ?_)) (fun y hy => .ret hy))
            · constructor
              · intro h; cases h
              · rintro ⟨h1, _⟩
                rw [hb.2] at h1; cases h1; cases hb1
            · rw [count_is f _ h]
              have hop' : f.code[k].op = 11 := by simpa using hop
              have hbt : b = true := by simpa using hb1
              refine .ret ?_
              constructor
              · intro h1
                refine ⟨by rw [hb.2, hbt], fun _ => ?_⟩
                simp at h1; omega
              · rintro ⟨_, h1⟩
                have := h1 hop'
                simp [this]
            · have hop' : f.code[k].op ≠ 11 := by simpa using hop
              have hbt : b = true := by simpa using hb1
              exact ⟨fun _ => ⟨by rw [hb.2, hbt], fun h => (hop' h).elim⟩, fun _ => rfl⟩
          · refine ⟨fun h => (by cases h), fun hg => ?_⟩
            have := hy.2 (hg.2.2.2 _ (List.getElem_mem hk))
            rw [hyt] at this; cases this
          · intro x hx
            rw [List.take_add_one, List.getElem?_eq_getElem hk, Option.toList_some, List.mem_append, List.mem_singleton] at hx
            rcases hx with hx | rfl
            · exact hs x hx
            · exact hy.1 hyf
      · obtain ⟨rfl, hs⟩ := hs
        show Ok (ref08_Good_l1b f f.code.length) _
        unfold ref08_Good_l1b
        rw [if_neg (by simp)]
        rw [List.take_length] at hs
        exact .map (.ret ⟨fun _ => key hs, fun _ => rfl⟩)


theorem reg_inv {p q : Bool} {v R : Int} (h : ref08_register p q v R = some true) : v = -1 ∨ (0 ≤ v ∧ v < R) := by
  unfold ref08_register at h
  split at h
  · simp at h; exact .inl h
  · simp at h
    rcases h with h | h
    · exact .inr h
    · exact .inl h.2
theorem k1_inv {f : TFunc} {x : TIns} {t : Bool × Bool × Bool × Bool} {b : Bool} (h : ref08_ins_k1 f x t b = some true) :
    (x.a = -1 ∨ (0 ≤ x.a ∧ x.a < f.regs)) ∧ (x.b = -1 ∨ (0 ≤ x.b ∧ x.b < f.regs)) ∧ (x.d = -1 ∨ (0 ≤ x.d ∧ x.d < f.regs)) ∧ ref08_ins_l1 f x t 0 = some true := by
  unfold ref08_ins_k1 at h
  obtain ⟨r1, e1, h⟩ := bindS h
  obtain ⟨r2, e2, h⟩ := bindS h
  obtain ⟨r3, e3, h⟩ := bindS h
  cases r1
  · simp at e2; subst e2; simp at e3; subst e3; simp at h
  · simp only [Bool.not_true, Bool.false_eq_true, if_false] at e2
    obtain ⟨r4, e4, e2⟩ := bindS e2
    cases r4
    · simp at e2; subst e2; simp at e3; subst e3; simp at h
    · simp at e2; subst e2
      simp only [Bool.false_eq_true, if_false] at e3
      obtain ⟨r5, e5, e3⟩ := bindS e3
      cases r5
      · simp at e3; subst e3; simp at h
      · simp at e3; subst e3
        simp only [Bool.false_eq_true, if_false] at h
        exact ⟨reg_inv e4, reg_inv e5, reg_inv e1, h⟩
def Last (f : TFunc) (x : TIns) (t : Bool × Bool × Bool × Bool) : Prop :=
  (jmp x = true → t.2.2.2 = true → ref08_count f x.imm = none ∨ ∃ c, ref08_count f x.imm = some c ∧ 0 < c)
theorem l1_inv {f : TFunc} {x : TIns} {t : Bool × Bool × Bool × Bool} (hx : x.args.length ≤ 9223372036854775807) (h : ref08_ins_l1 f x t 0 = some true) :
    ∀ y ∈ x.args, 0 ≤ y ∧ y < f.regs := by
  have key : ∀ (k : Nat), k ≤ x.args.length → ref08_ins_l1 f x t k = some true → ∀ y ∈ x.args.drop k, 0 ≤ y ∧ y < f.regs := by
    intro k
    generalize hd : x.args.length - k = d
    induction d generalizing k with
    | zero =>
      intro hk _ y hy
      rw [List.drop_of_length_le (by omega)] at hy; cases hy
    | succ d ih =>
      intro hk h y hy
      have hk' : k < x.args.length := by omega
      unfold ref08_ins_l1 at h
      rw [loopO_eq] at h
      obtain ⟨s, e1, h⟩ := bindS h
      unfold ref08_ins_l1b at e1
      rw [if_pos (by simp; omega), ix_some hk'] at e1
      simp only [Option.bind_some] at e1
      rw [List.drop_eq_getElem_cons hk'] at hy
      split at e1
      · simp at e1; subst e1; cases h
      · rename_i hc
        cases e1
        rw [w64_succ (by omega)] at h
        rcases List.mem_cons.1 hy with rfl | hy
        · simp at hc; omega
        · exact ih (k + 1) (by omega) (by omega) h y hy
  exact fun y hy => key 0 (Nat.zero_le _) h y (by simpa using hy)
theorem ins_inv {f : TFunc} {x : TIns} (hx : x.args.length ≤ 9223372036854775807) (h : ref08_ins f x = some true) :
    (x.a = -1 ∨ (0 ≤ x.a ∧ x.a < f.regs)) ∧ (x.b = -1 ∨ (0 ≤ x.b ∧ x.b < f.regs)) ∧ (∀ y ∈ x.args, 0 ≤ y ∧ y < f.regs) := by
  unfold ref08_ins at h
  split at h
  · cases h
  · obtain ⟨t, _, h⟩ := bindS h
    split at h
    · split at h
      · cases h
      · have := k1_inv h; exact ⟨this.1, this.2.1, l1_inv hx this.2.2.2⟩
    · have := k1_inv h; exact ⟨this.1, this.2.1, l1_inv hx this.2.2.2⟩

/-! One place for a label -/
theorem lab_one {f : TFunc} (hg : Good f) {p q : Nat} {x y : TIns} {l : Int} (hp : f.code[p]? = some x) (hq : f.code[q]? = some y) (hx : lab l x = true) (hy : lab l y = true) : p = q := by
  have key : ∀ {p q : Nat} {x y : TIns}, f.code[p]? = some x → f.code[q]? = some y → lab l x = true → lab l y = true → ¬ p < q := by
    intro p q x y hp hq hx hy hpq
    have hxl : x.op = 11 ∧ x.imm = l := by simpa [lab] using hx
    have hone := (hg.2.2.2 x (List.mem_of_getElem? hp)).2 hxl.1
    rw [hxl.2] at hone
    have h1 : f.code = f.code.take (p + 1) ++ f.code.drop (p + 1) := (List.take_append_drop _ _).symm
    unfold cnt at hone
    rw [h1, List.countP_append] at hone
    have h2 : 0 < (f.code.take (p + 1)).countP (fun x => (decide (x.op = 11)) && (decide (x.imm = l))) := by
      rw [List.countP_pos_iff]
      exact ⟨x, List.mem_of_getElem? (i := p) (by rw [List.getElem?_take, if_pos (by omega)]; exact hp), hx⟩
    have h3 : 0 < (f.code.drop (p + 1)).countP (fun x => (decide (x.op = 11)) && (decide (x.imm = l))) := by
      rw [List.countP_pos_iff]
      exact ⟨y, List.mem_of_getElem? (i := q - (p + 1)) (by rw [List.getElem?_drop, show p + 1 + (q - (p + 1)) = q from by omega]; exact hq), hy⟩
    omega
  have h1 := key hp hq hx hy
  have h2 := key hq hp hy hx
  omega
theorem RNext_is {f : TFunc} (hg : Good f) (h : f.code.length ≤ 1000) (k : Nat) (hk : k < f.code.length) : ref10_Next f k = some (nx f k) := by
  have hx : f.code[k]? = some f.code[k] := List.getElem?_eq_getElem hk
  have hs := nx_spec h hx
  generalize f.code[k] = x at hx hs
  have hfl := fst_len f k x
  have key : ref10_Next_k1 f x (fst f k x) = some (nx f k) := by
    unfold ref10_Next_k1
    obtain ⟨_, _, hs⟩ := hs
    show (if jmp x = true then ref10_Next_l1 f x (fst f k x) 0 else ref10_Next_k2 (fst f k x)) = _
    rcases hs with ⟨hj, hs⟩ | ⟨hj, hn, hs⟩ | ⟨hj, p, y, hp, hy, hz, hs⟩
    · rw [if_neg (by rw [hj]; decide)]; unfold ref10_Next_k2; rw [hs]
    · rw [if_pos hj]
      unfold ref10_Next_l1
      refine (loop_for (B := fun s => ref10_Next_l1b f x s.1 s.2) (P := fun r => r = nx f k) f.code (fun m s => s = (fst f k x, (m : Int))) (fun m y s hm' hm hs => ?_) (fun s hs' => ?_) rfl).some_of
      · subst hs
        show Ok (ref10_Next_l1b f x _ m) _
        unfold ref10_Next_l1b ref10_Next_k3
        rw [if_pos (by simp; omega), ix_nat, hm]
        simp only [Option.bind_some]
        rw [show (decide (y.op = 11) && decide (y.imm = x.imm)) = false from hn y (List.mem_of_getElem? hm)]
        simp only [Bool.false_eq_true, if_false, Option.bind_some]
        refine .ret ?_
        show _ = _
        rw [w64_succ (by omega)]
      · subst hs'
        show Ok (ref10_Next_l1b f x _ _) _
        unfold ref10_Next_l1b ref10_Next_k2
        rw [if_neg (by simp)]
        exact .map (.ret hs.symm)
    · rw [if_pos hj]
      have hp' := (List.getElem?_eq_some_iff.1 hp).1
      unfold ref10_Next_l1
      refine (loop_for (B := fun s => ref10_Next_l1b f x s.1 s.2) (P := fun r => r = nx f k) f.code (fun m s => s = (if p < m then nx f k else fst f k x, (m : Int))) (fun m z s hm' hm hs' => ?_) (fun s hs' => ?_) (by simp)).some_of
      · subst hs'
        show Ok (ref10_Next_l1b f x _ m) _
        unfold ref10_Next_l1b ref10_Next_k3
        rw [if_pos (by simp; omega), ix_nat, hm]
        simp only [Option.bind_some]
        by_cases hpm : m = p
        · subst hpm
          rw [hm] at hp
          have hpe := Option.some.inj hp
          rw [← hpe] at hy
          rw [show (decide (z.op = 11) && decide (z.imm = x.imm)) = true from hy]
          rw [if_neg (Nat.lt_irrefl _)]
          simp only [if_true]
          have hfl0 : fst f k x = [] ∨ fst f k x = [((k + 1 : Nat) : Int)] := by unfold fst; split <;> simp
          rcases hfl0 with h0 | h0
          · rw [h0] at hs ⊢
            simp only [List.length_nil, Int.natCast_zero, decide_true, if_true, Option.bind_some]
            rw [ap_some (by simp)]
            refine .ret ?_
            show _ = _
            rw [w64_succ (by omega), if_pos (by omega)]
            rcases hs with ⟨hh, _⟩ | ⟨_, hh⟩
            · cases hh
            · rw [hh]
          · rw [h0] at hs ⊢
            rw [show decide (([((k + 1 : Nat) : Int)].length : Int) = 0) = false from rfl]
            simp only [Bool.false_eq_true, if_false]
            rw [show ix [((k + 1 : Nat) : Int)] 0 = some ((k + 1 : Nat) : Int) from rfl]
            simp only [Option.bind_some]
            refine .ite (fun hb => ?_) (fun hb => ?_)
            · rw [ap_some (by simp)]
              refine .ret ?_
              show _ = _
              rw [w64_succ (by omega), if_pos (by omega)]
              rcases hs with ⟨hh, _⟩ | ⟨_, hh⟩
              · rcases List.mem_singleton.1 hh with hh
                simp at hb; omega
              · rw [hh]
            · refine .ret ?_
              show _ = _
              rw [w64_succ (by omega), if_pos (by omega)]
              rcases hs with ⟨_, hh⟩ | ⟨hh, _⟩
              · rw [hh]
              · simp at hb; exact (hh (by rw [← hb]; simp)).elim
        · rw [show (decide (z.op = 11) && decide (z.imm = x.imm)) = false from by
            cases hc : (decide (z.op = 11) && decide (z.imm = x.imm)) with
            | false => rfl
            | true => exact (hpm (lab_one hg hm hp hc hy)).elim]
          simp only [Bool.false_eq_true, if_false, Option.bind_some]
          refine .ret ?_
          show _ = _
          rw [w64_succ (by omega)]
          by_cases h1 : p < m
          · rw [if_pos h1, if_pos (by omega)]
          · rw [if_neg h1, if_neg (by omega)]
      · subst hs'
        show Ok (ref10_Next_l1b f x _ _) _
        unfold ref10_Next_l1b ref10_Next_k2
        rw [if_neg (by simp), if_pos hp']
        exact .map (.ret rfl)
  unfold ref10_Next
  rw [if_neg (by simp; omega), ix_nat, hx]
  simp only [Option.bind_some]
  rw [w64_succ (by omega)]
  rw [show decide (((k + 1 : Nat) : Int) < (f.code.length : Int)) = decide (k + 1 < f.code.length) from dec_lt]
  show (if fall f k x = true then _ else _) = _
  have e : fst f k x = if fall f k x then [((k + 1 : Nat) : Int)] else [] := rfl
  cases hb : fall f k x with
  | true =>
    rw [hb, if_pos rfl] at e
    rw [if_pos rfl, ap_some (by simp)]
    simp only [Option.bind_some, List.nil_append]
    rw [← e]; exact key
  | false =>
    rw [hb] at e
    rw [if_neg (by decide), show ([] : List Int) = fst f k x from e.symm]; exact key
theorem RNext_out (f : TFunc) (i : Int) (h : i < 0 ∨ (f.code.length : Int) ≤ i) : ref10_Next f i = some [] := by
  unfold ref10_Next; rw [if_pos (by simpa using h)]

open Classical in
theorem reads_is (x : TIns) (r : Int) (h : x.args.length ≤ 1000) : ref10_reads x r = some (decide (us x r)) := by
  unfold ref10_reads ref10_reads_l1
  refine (loop_for (P := fun b => b = decide (us x r)) x.args (fun k s => s = (k : Int) ∧ ∀ y ∈ x.args.take k, y ≠ r) (fun k y s hk' hk hs => ?_) (fun s hs => ?_) ⟨rfl, by simp⟩).some_of
  · obtain ⟨rfl, hs⟩ := hs
    unfold ref10_reads_l1b
    rw [if_pos (by simp; omega), ix_nat, hk]
    simp only [Option.bind_some]
    refine .ite (fun hb => .map (.ret ?_)) (fun hb => .ret ⟨w64_succ (by omega), fun z hz => ?_⟩)
    · have : y = r := by simpa using hb
      have hu : us x r := .inr (.inr (this ▸ List.mem_of_getElem? hk))
      simp [hu]
    · rw [mem_take_succ hk'] at hz
      rcases hz with hz | rfl
      · exact hs z hz
      · rw [List.getElem?_eq_getElem hk'] at hk
        rw [Option.some.inj hk]; simpa using hb
  · obtain ⟨rfl, hs⟩ := hs
    unfold ref10_reads_l1b
    rw [if_neg (by simp)]
    rw [List.take_length] at hs
    refine .map (.ret ?_)
    have hn : r ∉ x.args := fun hm => hs r hm rfl
    show (decide (x.a = r) || decide (x.b = r)) = decide (us x r)
    rw [Bool.eq_iff_iff]
    simp only [Bool.or_eq_true, decide_eq_true_eq]
    unfold us
    constructor
    · rintro (h | h)
      · exact .inl h
      · exact .inr (.inl h)
    · rintro (h | h | h)
      · exact .inl h
      · exact .inr h
      · exact (hn h).elim
theorem great_ok (f : TFunc) (o : OK_TFunc f) : Ok (law10_great f) (fun b => b = false → f.code.length ≤ 40 ∧ f.regs ≤ 12 ∧ (∀ x ∈ f.code, x.args.length ≤ 6) ∧ Good f) := by
  unfold law10_great law10_great_l1
  refine loop_for f.code (fun k s => s = (k : Int) ∧ ∀ x ∈ f.code.take k, x.args.length ≤ 6) (fun k x s hk' hk hs => ?_) (fun s hs => ?_) ⟨rfl, by simp⟩
  · obtain ⟨rfl, hs⟩ := hs
    unfold law10_great_l1b
    rw [if_pos (by simp; omega), ix_nat, hk]
    simp only [Option.bind_some]
    refine .ite (fun hb => .map (.ret (fun h => by cases h))) (fun hb => .ret ⟨w64_succ (by have := o.2.2.2.1.2; omega), fun z hz => ?_⟩)
    rw [mem_take_succ hk'] at hz
    rcases hz with hz | rfl
    · exact hs z hz
    · rw [List.getElem?_eq_getElem hk'] at hk
      rw [Option.some.inj hk]; simp at hb; omega
  · obtain ⟨rfl, hs⟩ := hs
    unfold law10_great_l1b
    rw [if_neg (by simp)]
    rw [List.take_length] at hs
    refine .map (Ok.bind (P := fun b => b = false → f.code.length ≤ 40 ∧ f.regs ≤ 12 ∧ Good f) (.ite (fun hb => .ret (fun h => by cases h)) (fun hb => ?_)) (fun b hb => .ret (fun h => ⟨(hb h).1, (hb h).2.1, hs, (hb h).2.2⟩)))
    simp at hb
    refine (good_is f (by omega) (fun x hx => by have := hs x hx; omega)).bind fun b hb2 => .ret (fun h => ⟨by omega, by omega, hb2.1 (by simpa using h)⟩)
end Go.Vm.G10s
