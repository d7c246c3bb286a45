/-
  The fencing pass is what its reference says.
-/
import Derived.Test.YtdgkhadbanbmhaaEP12x
set_option linter.unusedSimpArgs false
set_option linter.unusedVariables false
namespace Go.Vm.G12
open Go

theorem Of_is (i : TIns) (o : Opt) : ref12_Of i o.naive o.bare = some (stp o i) := by
  unfold ref12_Of ref12_one stp frz ahd bhd fnc acq
  by_cases h22 : i.op = 22
  · simp only [h22, decide_true, if_true, Option.bind_some]
    cases (decide (i.imm = 1) && o.bare) <;> rfl
  · by_cases h9 : i.op = 9
    · simp only [h9, Option.bind_some]
      cases i.volatile <;> cases o.naive <;> rfl
    · by_cases h10 : i.op = 10
      · simp only [h10, Option.bind_some]
        cases i.volatile <;> cases o.naive <;> rfl
      · have e22 : decide (i.op = 22) = false := by simpa using h22
        have e9 : decide (i.op = 9) = false := by simpa using h9
        have e10 : decide (i.op = 10) = false := by simpa using h10
        simp only [e22, e9, e10, Option.bind_some]
        cases decide (i.op = 18) <;> cases decide (i.op = 19) <;> rfl
theorem weak_is (i : TIns) : ref12_weak i = some (pl i) := rfl

def hd : TIns → List TIns → TIns × List TIns
  | l, [] => (l, [])
  | l, x :: xs => if pl l && pl x then hd (wi l (min l.imm x.imm)) xs else (l, x :: xs)
theorem run_hd : ∀ (xs : List TIns) (l : TIns), run l xs = (hd l xs).1 :: rn (hd l xs).2
  | [], l => rfl
  | x :: xs, l => by
    unfold run hd
    split
    · exact run_hd xs _
    · rfl
theorem hd_len : ∀ (xs : List TIns) (l : TIns), (hd l xs).2.length ≤ xs.length
  | [], l => Nat.le_refl _
  | x :: xs, l => by
    unfold hd
    split
    · have := hd_len xs (wi l (min l.imm x.imm)); simp; omega
    · exact Nat.le_refl _
theorem hd_drop : ∀ (xs : List TIns) (l : TIns), (hd l xs).2 = xs.drop (xs.length - (hd l xs).2.length)
  | [], l => rfl
  | x :: xs, l => by
    have h1 := hd_len xs (wi l (min l.imm x.imm))
    have h2 := hd_drop xs (wi l (min l.imm x.imm))
    unfold hd
    split
    · rw [List.length_cons, show xs.length + 1 - (hd (wi l (min l.imm x.imm)) xs).2.length = (xs.length - (hd (wi l (min l.imm x.imm)) xs).2.length) + 1 from by omega, List.drop_succ_cons]
      exact h2
    · simp

section
variable (xs : List TIns)
theorem l3_is (hx : xs.length ≤ 1000) (a : List TIns) (ha : a.length ≤ 1000) (x : TIns) : ∀ (d k : Nat) (m : Int), k + d = xs.length →
    ref12_Code_l3 xs a x k m = some (.inl (a ++ [(hd (wi x m) (xs.drop k)).1], ((xs.length - (hd (wi x m) (xs.drop k)).2.length : Nat) : Int))) := by
  intro d
  induction d with
  | zero =>
    intro k m hk
    have hk : k = xs.length := by omega
    subst hk
    unfold ref12_Code_l3
    rw [loopO_eq]
    show (ref12_Code_l3b xs a x xs.length m).bind _ = _
    unfold ref12_Code_l3b
    simp only [weak_is, Option.bind_some, List.drop_length, hd]
    have : decide ((xs.length : Int) < (xs.length : Int)) = false := by simp
    simp only [this, Bool.and_false, Bool.false_eq_true, if_false, Option.bind_some]
    rw [ap_some (by simp; omega)]
    simp
    rfl
  | succ d ih =>
    intro k m hk
    have hk' : k < xs.length := by omega
    unfold ref12_Code_l3
    rw [loopO_eq]
    show (ref12_Code_l3b xs a x k m).bind _ = _
    unfold ref12_Code_l3b
    have : decide ((k : Int) < (xs.length : Int)) = true := by simp; omega
    simp only [weak_is, Option.bind_some, this, Bool.and_true, ix_some hk']
    rw [List.drop_eq_getElem_cons hk']
    unfold hd
    have hwx : (⟨x.op, x.d, x.a, x.b, m, x.args, x.what, x.volatile, x.final⟩ : TIns) = wi x m := rfl
    rw [hwx]
    have hmi : (wi x m).imm = m := rfl
    have hww : ∀ q, wi (wi x m) q = wi x q := fun q => rfl
    simp only [hmi, hww]
    cases h1 : pl (wi x m) <;> cases h2 : pl xs[k]
    all_goals simp only [Bool.false_eq_true, if_false, if_true, Option.bind_some, Bool.false_and, Bool.and_false, Bool.and_true, Bool.true_and, Bool.and_self]
    · rw [ap_some (by simp; omega)]
      simp
      omega
    · rw [ap_some (by simp; omega)]
      simp
      omega
    · rw [ap_some (by simp; omega)]
      simp
      omega
    · have h3 := ih (k + 1) (min m xs[k].imm) (by omega)
      unfold ref12_Code_l3 at h3
      unfold ref12_Code_k1
      rw [w64_succ (by omega)]
      by_cases h4 : xs[k].imm < m
      · rw [if_pos (by simpa using h4)]
        rw [show min m xs[k].imm = xs[k].imm from by omega] at h3 ⊢
        exact h3
      · rw [if_neg (by simpa using h4)]
        rw [show min m xs[k].imm = m from by omega] at h3 ⊢
        exact h3
theorem l2_is (hx : xs.length ≤ 1000) : ∀ (d k : Nat) (a : List TIns), k + d = xs.length → a.length ≤ k → ref12_Code_l2 xs a k = some (a ++ rn (xs.drop k)) := by
  intro d
  induction d using Nat.strongRecOn with
  | _ d ih =>
    intro k a hk ha
    unfold ref12_Code_l2
    rw [loopO_eq]
    show (ref12_Code_l2b xs a k).bind _ = _
    unfold ref12_Code_l2b
    by_cases hk' : k < xs.length
    · rw [if_pos (by simp; omega), ix_some hk']
      simp only [Option.bind_some]
      rw [w64_succ (by omega), l3_is xs hx a (by omega) xs[k] (xs.length - (k + 1)) (k + 1) xs[k].imm (by omega)]
      have hww : wi xs[k] xs[k].imm = xs[k] := rfl
      rw [hww]
      have h1 := hd_len (xs.drop (k + 1)) xs[k]
      have h2 := hd_drop (xs.drop (k + 1)) xs[k]
      rw [List.drop_eq_getElem_cons hk']
      show _ = some (a ++ run xs[k] (xs.drop (k + 1)))
      rw [run_hd]
      generalize hd xs[k] (xs.drop (k + 1)) = p at *
      rw [List.length_drop] at h1 h2
      rw [List.drop_drop] at h2
      have h3 := ih p.2.length (by omega) (xs.length - p.2.length) (a ++ [p.1]) (by omega) (by simp; omega)
      rw [show xs.length - p.2.length = (k + 1) + (xs.length - (k + 1) - p.2.length) from by omega, ← h2] at h3
      rw [show xs.length - p.2.length = (k + 1) + (xs.length - (k + 1) - p.2.length) from by omega]
      unfold ref12_Code_l2 ref12_Code_l2b at h3
      simp only [Option.bind_some, Sum.elim_inl]
      rw [h3]
      simp
    · rw [if_neg (by simp; omega)]
      have : k = xs.length := by omega
      subst this
      rw [List.drop_length]
      simp [rn]
end
theorem Code_is (f : TFunc) (o : Opt) (h : f.code.length ≤ 100) : ref12_Code f o.naive o.bare o.merged = some (cod o f.code) := by
  unfold ref12_Code ref12_Code_l1
  have hx : (f.code.foldl (fun a x => a ++ stp o x) []) = raw o f.code := fold_app _ _ _
  have := loop_fold (B := fun s => ref12_Code_l1b f o.naive o.bare o.merged s.1 s.2) (ρ := List TIns) f.code (fun a i => (a, i)) (fun a x => a ++ stp o x) (fun a => if o.merged then rn a else a) [] (by omega) (fun k x a hk ha => ?_) (fun a ha => ?_)
  · rw [show (([], 0) : List TIns × Int) = (fun a i => (a, i)) [] 0 from rfl]
    rw [this, hx]; rfl
  · have hk' := (List.getElem?_eq_some_iff.1 hk).1
    have hal : a.length ≤ 3 * k := by
      have := raw_len o (f.code.take k)
      rw [fold_app] at ha
      rw [show a = raw o (f.code.take k) from by rw [ha]; rfl]
      simp at this; omega
    show ref12_Code_l1b f o.naive o.bare o.merged a k = _
    unfold ref12_Code_l1b
    have := stp_len o x
    rw [if_pos (by simp; omega), ix_nat, hk]
    simp only [Option.bind_some, Of_is]
    rw [ap_some (by omega), Option.bind_some]
  · show ref12_Code_l1b f o.naive o.bare o.merged a f.code.length = _
    have hal : a.length ≤ 3 * f.code.length := by
      have := raw_len o f.code
      rw [ha, hx]; exact this
    unfold ref12_Code_l1b
    rw [if_neg (by simp)]
    have := l2_is a (by omega) a.length 0 [] (by omega) (Nat.le_refl _)
    rw [show ((0 : Nat) : Int) = 0 from rfl, List.drop_zero, List.nil_append] at this
    rw [this]
    cases o.merged <;> rfl

/-! Counting -/
def cf (c : List TIns) (i : Int) : Nat := c.countP (fun x => (decide (x.op = 21)) && (decide (x.imm = i)))
def tot (fs : List TFunc) (i : Int) : Nat := (fs.map (fun f => cf f.code i)).sum
theorem cf_le (c : List TIns) (i : Int) : cf c i ≤ c.length := List.countP_le_length
theorem cf_take (c : List TIns) (i : Int) (k : Nat) (hk : k < c.length) : cf (c.take (k + 1)) i = cf (c.take k) i + (if (decide (c[k].op = 21)) && (decide (c[k].imm = i)) then 1 else 0) := by
  unfold cf
  rw [List.take_add_one, List.getElem?_eq_getElem hk, Option.toList_some, List.countP_append, List.countP_singleton]
theorem tot_take (fs : List TFunc) (i : Int) (k : Nat) (hk : k < fs.length) : tot (fs.take (k + 1)) i = tot (fs.take k) i + cf fs[k].code i := by
  unfold tot
  rw [List.take_add_one, List.getElem?_eq_getElem hk, Option.toList_some, List.map_append, List.sum_append]
  simp
theorem tot_le (fs : List TFunc) (i : Int) (N : Nat) (h : ∀ f ∈ fs, f.code.length ≤ N) : tot fs i ≤ fs.length * N := by
  unfold tot
  induction fs with
  | nil => simp
  | cons f fs ih =>
    have h1 := ih (fun g hg => h g (by simp [hg]))
    have h2 := h f (by simp)
    have h3 := cf_le f.code i
    rw [List.map_cons, List.sum_cons, List.length_cons, Nat.add_mul]
    omega
theorem cf_takele (c : List TIns) (i : Int) (k : Nat) : cf (c.take k) i ≤ c.length := by
  have := cf_le (c.take k) i
  simp at this; omega
theorem Count_is (m : TModule) (i : Int) (h1 : m.funcs.length ≤ 6) (h3 : ∀ f ∈ m.funcs, f.code.length ≤ 200) : fence_Count m i = some (tot m.funcs i : Int) := by
  have hle : ∀ k, tot (m.funcs.take k) i ≤ 1200 := fun k => by
    have := tot_le (m.funcs.take k) i 200 (fun f hf => h3 f (List.mem_of_mem_take hf))
    have : (m.funcs.take k).length ≤ 6 := by simp; omega
    omega
  unfold fence_Count fence_Count_l1
  refine (Ok.loop (B := fun s => fence_Count_l1b m i s.1 s.2) (P := fun r => r = (tot m.funcs i : Int)) (fun k s => s = ((tot (m.funcs.take k) i : Int), (k : Int))) m.funcs.length (fun k s hk hs => ?_) (fun s hs => ?_) (by simp [tot])).some_of
  · subst hs
    show Ok (fence_Count_l1b m i _ _) _
    unfold fence_Count_l1b
    rw [if_pos (by simp; omega), ix_some hk]
    simp only [Option.bind_some]
    unfold fence_Count_l2
    have hc := h3 _ (List.getElem_mem hk)
    refine Ok.loop (B := fun s => fence_Count_l2b i k m.funcs[k] s.1 s.2) (fun j s => s = (((tot (m.funcs.take k) i + cf (m.funcs[k].code.take j) i : Nat) : Int), (j : Int))) m.funcs[k].code.length (fun j s hj hs => ?_) (fun s hs => ?_) (by simp [cf])
    · subst hs
      show Ok (fence_Count_l2b i k m.funcs[k] _ _) _
      unfold fence_Count_l2b fence_Count_k1
      have := cf_takele m.funcs[k].code i j
      have := hle k
      rw [if_pos (by simp; omega), ix_some hj]
      simp only [Option.bind_some]
      refine .ite (fun hb => .ret ?_) (fun hb => .ret ?_)
      · show _ = _
        rw [w64_succ (by omega), w64_succ (by omega), cf_take _ _ _ hj, if_pos hb]; rfl
      · show _ = _
        rw [w64_succ (by omega), cf_take _ _ _ hj, if_neg (by rw [hb]; decide)]; rfl
    · subst hs
      show Ok (fence_Count_l2b i k m.funcs[k] _ _) _
      unfold fence_Count_l2b
      rw [if_neg (by simp), List.take_length]
      refine .map (.ret ?_)
      show _ = _
      rw [w64_succ (by omega), tot_take _ _ _ hk]
  · subst hs
    show Ok (fence_Count_l1b m i _ _) _
    unfold fence_Count_l1b
    rw [if_neg (by simp), List.take_length]
    exact .map (.ret rfl)

def vec (g : Int → Nat) : List Int := [(g 0 : Int), (g 1 : Int), (g 2 : Int), (g 3 : Int)]
theorem vec_ix (g : Int → Nat) (i : Int) (h : 0 ≤ i ∧ i < 4) : ix (vec g) i = some (g i : Int) := by
  obtain rfl | rfl | rfl | rfl : i = 0 ∨ i = 1 ∨ i = 2 ∨ i = 3 := by omega
  all_goals rfl
theorem vec_set (g : Int → Nat) (i : Int) (h : 0 ≤ i ∧ i < 4) : (vec g).set i.toNat ((g i + 1 : Nat) : Int) = vec (fun j => g j + if i = j then 1 else 0) := by
  obtain rfl | rfl | rfl | rfl : i = 0 ∨ i = 1 ∨ i = 2 ∨ i = 3 := by omega
  all_goals rfl

theorem count_loop (c : List TIns) (x94 : Int) (g : Int → Nat) (hc : c.length ≤ 1000) (hg : ∀ i, g i ≤ 10000) : law12_FenceIs_l2 x94 c (vec g) 0 = some (.inl (vec (fun i => g i + cf c i), w64 (x94 + 1))) := by
  unfold law12_FenceIs_l2
  refine (Ok.loop (B := fun s => law12_FenceIs_l2b x94 c s.1 s.2) (P := fun r => r = .inl (vec (fun i => g i + cf c i), w64 (x94 + 1))) (fun k s => s = (vec (fun i => g i + cf (c.take k) i), (k : Int))) c.length (fun k s hk hs => ?_) (fun s hs => ?_) (by simp [cf])).some_of
  · subst hs
    show Ok (law12_FenceIs_l2b x94 c _ _) _
    unfold law12_FenceIs_l2b law12_FenceIs_k2
    rw [if_pos (by simp; omega), ix_some hk]
    simp only [Option.bind_some]
    refine .ite (fun hb => ?_) (fun hb => .ret ?_)
    · simp only [Bool.and_eq_true, decide_eq_true_eq] at hb
      have hb2 : 0 ≤ c[k].imm ∧ c[k].imm < 4 := ⟨hb.1.2, hb.2⟩
      rw [vec_ix _ _ hb2]
      simp only [Option.bind_some]
      have := hg c[k].imm
      have := cf_takele c c[k].imm k
      rw [w64_succ (by omega), vec_set _ _ hb2, w64_succ (by omega)]
      refine .ret ?_
      show _ = _
      congr 2
      funext i
      rw [cf_take _ _ _ hk]
      by_cases hi : c[k].imm = i
      · simp [hi, hb.1.1]; omega
      · simp [hi]
    · show _ = _
      have hnot : ∀ i : Int, (0 ≤ i ∧ i < 4) → (decide (c[k].op = 21) && decide (c[k].imm = i)) = false := by
        intro i hi
        rw [Bool.and_eq_false_iff]
        by_cases h1 : c[k].op = 21
        · right
          simp [h1] at hb
          simp; omega
        · left; simp [h1]
      rw [w64_succ (by omega)]
      unfold vec
      have e : ∀ i : Int, (0 ≤ i ∧ i < 4) → cf (c.take (k + 1)) i = cf (c.take k) i := fun i hi => by rw [cf_take _ _ _ hk, hnot i hi]; rfl
      simp only [e 0 (by omega), e 1 (by omega), e 2 (by omega), e 3 (by omega)]
  · subst hs
    show Ok (law12_FenceIs_l2b x94 c _ _) _
    unfold law12_FenceIs_l2b
    rw [if_neg (by simp), List.take_length]
    exact .map (.ret rfl)

theorem law12_FenceIs_law (m : TModule) (o : Tfence_Options) (h : OK_TModule m) (h' : OK_Tfence_Options o) : law12_FenceIs m o = some true := by
  unfold law12_FenceIs
  rw [alive_is]
  simp only [Option.bind_some, Bool.not_true, Bool.false_eq_true, if_false]
  refine ((great_is m h).bind fun b hb => ?_).some_of
  refine .ite (fun _ => .ret rfl) (fun hbf => ?_)
  obtain ⟨h1, h2, h3⟩ := hb hbf
  rw [Module_is m o h1 h2 h3]
  simp only [Option.bind_some]
  rw [if_neg (by simp)]
  have hall : ∀ f ∈ m.funcs.map (fun' o), f.code.length ≤ 200 := by
    intro f hf
    obtain ⟨g, hg, rfl⟩ := List.mem_map.1 hf
    have h4 := cod_len o g.code
    have h5 := h3 g hg
    show (cod o g.code).length ≤ 200
    omega
  unfold law12_FenceIs_l1
  refine Ok.loop (B := fun s => law12_FenceIs_l1b m o ⟨m.funcs.map (fun' o), m.threads⟩ s.1 s.2) (fun k s => s = (vec (fun i => tot ((m.funcs.map (fun' o)).take k) i), (k : Int))) m.funcs.length (fun k s hk hs => ?_) (fun s hs => ?_) rfl
  · subst hs
    show Ok (law12_FenceIs_l1b m o _ _ _) _
    have hf : m.funcs[k] ∈ m.funcs := List.getElem_mem hk
    have hfl := h3 _ hf
    have hfa : ∀ x ∈ m.funcs[k].code, x.args.length ≤ 9223372036854775807 := fun x hx => ((((h.1.1 _ hf).2.2.2.1).1 x hx).2.2.2.2.2.1).2
    have hfa2 : ∀ x ∈ (fun' o m.funcs[k]).code, x.args.length ≤ 9223372036854775807 := by
      have hr : ∀ x ∈ raw o m.funcs[k].code, x.args.length ≤ 9223372036854775807 := by
        intro y hy
        obtain ⟨x, hx, hy⟩ := List.mem_flatMap.1 hy
        have hxx := hfa x hx
        have hs : ∀ z ∈ stp o x, z = x ∨ z.args = [] := by
          intro z hz
          unfold stp frz ahd bhd at hz
          split at hz
          · split at hz
            · cases hz
            · rcases List.mem_singleton.1 hz with rfl; exact .inr rfl
          · rw [List.mem_append, List.mem_append] at hz
            rcases hz with (hz | hz) | hz
            · split at hz
              · rcases List.mem_singleton.1 hz with rfl; exact .inr rfl
              · split at hz
                · rcases List.mem_singleton.1 hz with rfl; exact .inr rfl
                · split at hz
                  · rcases List.mem_singleton.1 hz with rfl; exact .inr rfl
                  · cases hz
            · rcases List.mem_singleton.1 hz with rfl; exact .inl rfl
            · split at hz
              · rcases List.mem_singleton.1 hz with rfl; exact .inr rfl
              · split at hz
                · rcases List.mem_singleton.1 hz with rfl; exact .inr rfl
                · split at hz
                  · rcases List.mem_singleton.1 hz with rfl; exact .inr rfl
                  · cases hz
        rcases hs y hy with rfl | hy
        · exact hxx
        · rw [hy]; exact Nat.zero_le _
      intro x hx
      have hx' : x ∈ cod o m.funcs[k].code := hx
      unfold cod at hx'
      split at hx'
      · have hrun : ∀ (xs : List TIns) (l : TIns), (∀ x ∈ l :: xs, x.args.length ≤ 9223372036854775807) → ∀ x ∈ run l xs, x.args.length ≤ 9223372036854775807 := by
          intro xs
          induction xs with
          | nil => intro l hl x hx; exact hl x hx
          | cons y ys ih =>
            intro l hl x hx
            unfold run at hx
            split at hx
            · refine ih _ (fun z hz => ?_) x hx
              rcases List.mem_cons.1 hz with rfl | hz
              · exact hl l (by simp)
              · exact hl z (by simp [hz])
            · rcases List.mem_cons.1 hx with rfl | hx
              · exact hl _ (by simp)
              · exact ih y (fun z hz => hl z (List.mem_cons_of_mem _ hz)) x hx
        cases hc : raw o m.funcs[k].code with
        | nil => rw [hc] at hx'; cases hx'
        | cons a as => rw [hc] at hx' hr; exact hrun as a hr x hx'
      · exact hr x hx'
    have hlen := cod_len o m.funcs[k].code
    have hx : ix (m.funcs.map (fun' o)) (k : Int) = some (fun' o m.funcs[k]) := by rw [ix_nat, List.getElem?_map, List.getElem?_eq_getElem hk]; rfl
    unfold law12_FenceIs_l1b
    rw [if_pos (by simp; omega), ix_some hk]
    simp only [Option.bind_some]
    rw [Code_is _ o (by omega)]
    simp only [Option.bind_some]
    rw [hx]
    simp only [Option.bind_some]
    have hsame : ref11_Same (fun' o m.funcs[k]) (fun' o m.funcs[k]) = some true := same_refl _ (by show (cod o m.funcs[k].code).length ≤ _; omega) hfa2
    have he : (⟨m.funcs[k].name, m.funcs[k].params, m.funcs[k].regs, cod o m.funcs[k].code⟩ : TFunc) = fun' o m.funcs[k] := rfl
    rw [he, hsame]
    simp only [Option.bind_some, Bool.not_true, Bool.false_eq_true, if_false]
    rw [Func_is _ o (by omega)]
    simp only [Option.bind_some]
    rw [hsame]
    simp only [Option.bind_some, Bool.not_true]
    unfold law12_FenceIs_k1
    simp only [Bool.false_eq_true, if_false]
    have hle : ∀ i, tot ((m.funcs.map (fun' o)).take k) i ≤ 1200 := fun i => by
      have := tot_le ((m.funcs.map (fun' o)).take k) i 200 (fun f hf => hall f (List.mem_of_mem_take hf))
      have : ((m.funcs.map (fun' o)).take k).length ≤ 6 := by simp; omega
      omega
    rw [count_loop _ _ _ (by omega) (fun i => by have := hle i; omega)]
    refine .ret ?_
    show _ = _
    rw [w64_succ (by omega)]
    congr 2
    funext i
    rw [tot_take _ _ _ (by simpa using hk)]
    simp [fun']
  · subst hs
    show Ok (law12_FenceIs_l1b m o _ _ _) _
    unfold law12_FenceIs_l1b
    rw [if_neg (by simp)]
    refine .map ?_
    show Ok _ (fun r => r = true)
    unfold law12_FenceIs_l3
    rw [show m.funcs.length = (m.funcs.map (fun' o)).length from by simp, List.take_length]
    refine Ok.loop (B := fun s => law12_FenceIs_l3b ⟨m.funcs.map (fun' o), m.threads⟩ _ s) (fun k s => s = (k : Int)) 4 (fun k s hk hs => ?_) (fun s hs => ?_) rfl
    · subst hs
      unfold law12_FenceIs_l3b
      rw [if_pos (by simp; omega), vec_ix _ _ (by omega)]
      simp only [Option.bind_some]
      rw [Count_is ⟨m.funcs.map (fun' o), m.threads⟩ k (by simp; omega) hall]
      simp only [Option.bind_some]
      rw [if_neg (by simp)]
      exact .ret (w64_succ (by omega))
    · subst hs
      unfold law12_FenceIs_l3b
      rw [if_neg (by simp)]
      exact .map (.ret rfl)
end Go.Vm.G12
