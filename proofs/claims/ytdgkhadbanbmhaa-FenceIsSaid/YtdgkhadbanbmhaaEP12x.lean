/-
  The fencing pass, as plain lists.
-/
import Derived.Test.YtdgkhadbanbmhaaEPl0
import Derived.Test.YtdgkhadbanbmhaaEOG12
set_option linter.unusedSimpArgs false
set_option linter.unusedVariables false
namespace Go.Vm.G12
open Go

abbrev Opt := Tfence_Options
def fnc (k : Int) : TIns := ⟨21, -1, -1, -1, k, [], 0, false, false⟩
def acq (d : Int) : TIns := ⟨21, -1, d, -1, 3, [], 0, false, false⟩
def frz (i : TIns) (o : Opt) : List TIns := if (decide (i.imm = 1)) && o.bare then [] else [fnc 2]
def ahd (i : TIns) (o : Opt) : List TIns :=
  if ((decide (i.op = 9)) && i.volatile) && (!o.naive) then [fnc 1] else
  if ((decide (i.op = 10)) && i.volatile) && o.naive then [fnc 2] else
  if ((decide (i.op = 10)) && i.volatile) || (decide (i.op = 18)) || (decide (i.op = 19)) then [fnc 1] else []
def bhd (i : TIns) (o : Opt) : List TIns :=
  if ((decide (i.op = 9)) && i.volatile) && o.naive then [fnc 2] else
  if (decide (i.op = 9)) && i.volatile then [acq i.d] else
  if ((decide (i.op = 10)) && i.volatile) && o.naive then [fnc 1] else []
def stp (o : Opt) (i : TIns) : List TIns := if decide (i.op = 22) then frz i o else ahd i o ++ [i] ++ bhd i o
def raw (o : Opt) (c : List TIns) : List TIns := c.flatMap (stp o)
def pl (i : TIns) : Bool := (decide (i.op = 21)) && ((decide (i.imm = 1)) || (decide (i.imm = 2)))
def wi (i : TIns) (k : Int) : TIns := ⟨i.op, i.d, i.a, i.b, k, i.args, i.what, i.volatile, i.final⟩
def run : TIns → List TIns → List TIns
  | l, [] => [l]
  | l, x :: xs => if pl l && pl x then run (wi l (min l.imm x.imm)) xs else l :: run x xs
def rn : List TIns → List TIns
  | [] => []
  | x :: xs => run x xs
def cod (o : Opt) (c : List TIns) : List TIns := if o.merged then rn (raw o c) else raw o c
def fun' (o : Opt) (f : TFunc) : TFunc := ⟨f.name, f.params, f.regs, cod o f.code⟩

theorem frozen_is (i : TIns) (o : Opt) : fence_frozen i o = some (frz i o) := by
  unfold fence_frozen frz fence_fence fnc
  split <;> rfl
theorem ahead_is (i : TIns) (o : Opt) : fence_ahead i o = some (ahd i o) := by
  unfold fence_ahead ahd fence_ahead_k1 fence_fence fnc
  cases decide (i.op = 9) <;> cases decide (i.op = 10) <;> cases decide (i.op = 18) <;> cases decide (i.op = 19) <;> cases i.volatile <;> cases o.naive <;> rfl
theorem behind_is (i : TIns) (o : Opt) : fence_behind i o = some (bhd i o) := by
  unfold fence_behind bhd fence_acquire fence_fence fnc acq
  cases decide (i.op = 9) <;> cases decide (i.op = 10) <;> cases i.volatile <;> cases o.naive <;> rfl
theorem plain_is (i : TIns) : fence_plain i = some (pl i) := rfl

theorem frz_len (i : TIns) (o : Opt) : (frz i o).length ≤ 1 := by unfold frz; split <;> simp
theorem ahd_len (i : TIns) (o : Opt) : (ahd i o).length ≤ 1 := by unfold ahd; split; simp; split; simp; split <;> simp
theorem bhd_len (i : TIns) (o : Opt) : (bhd i o).length ≤ 1 := by unfold bhd; split; simp; split; simp; split <;> simp
theorem stp_len (o : Opt) (i : TIns) : (stp o i).length ≤ 3 := by
  unfold stp
  have := frz_len i o; have := ahd_len i o; have := bhd_len i o
  split
  · omega
  · simp; omega
theorem fold_app {α β : Type} (f : α → List β) : ∀ (xs : List α) (a : List β), xs.foldl (fun a x => a ++ f x) a = a ++ xs.flatMap f
  | [], a => by simp
  | x :: xs, a => by simp [fold_app f xs]
theorem raw_len (o : Opt) : ∀ c : List TIns, (raw o c).length ≤ 3 * c.length
  | [] => by simp [raw]
  | x :: xs => by
    have := raw_len o xs; have := stp_len o x
    simp only [raw, List.flatMap_cons, List.length_append, List.length_cons] at *
    omega

/-! Merging -/
def mst (a : List TIns) (x : TIns) : List TIns :=
  match a.getLast? with
  | none => a ++ [x]
  | some l => if pl l && pl x then a.dropLast ++ [wi l (min l.imm x.imm)] else a ++ [x]
theorem fold_mst : ∀ (xs : List TIns) (a : List TIns) (l : TIns), xs.foldl mst (a ++ [l]) = a ++ run l xs
  | [], a, l => rfl
  | x :: xs, a, l => by
    rw [List.foldl_cons]
    unfold mst run
    rw [List.getLast?_concat]
    show List.foldl mst (if (pl l && pl x) = true then (a ++ [l]).dropLast ++ [wi l (min l.imm x.imm)] else a ++ [l] ++ [x]) xs = _
    split
    · rw [List.dropLast_concat, fold_mst]
    · rw [fold_mst]; simp
theorem fold_rn (xs : List TIns) : xs.foldl mst [] = rn xs := by
  cases xs with
  | nil => rfl
  | cons x xs => exact fold_mst xs [] x
theorem mst_len (a : List TIns) (x : TIns) : (mst a x).length ≤ a.length + 1 := by
  unfold mst
  split
  · simp
  · split
    · simp
    · simp
theorem fold_mst_len : ∀ (xs : List TIns) (a : List TIns), (xs.foldl mst a).length ≤ a.length + xs.length
  | [], a => by simp
  | x :: xs, a => by
    have := fold_mst_len xs (mst a x); have := mst_len a x
    rw [List.foldl_cons, List.length_cons]; omega
theorem rn_len (xs : List TIns) : (rn xs).length ≤ xs.length := by
  have := fold_mst_len xs []
  rw [fold_rn] at this; simpa using this

theorem merged_is (xs : List TIns) (h : xs.length ≤ 16777216) : fence_merged xs = some (rn xs) := by
  unfold fence_merged fence_merged_l1
  rw [← fold_rn]
  refine loop_fold (B := fun s => fence_merged_l1b xs s.1 s.2) xs (fun a i => (a, i)) mst id [] (by omega) (fun k x a hk ha => ?_) (fun a ha => ?_)
  · have hk' := (List.getElem?_eq_some_iff.1 hk).1
    have hal : a.length ≤ k := by
      have := fold_mst_len (xs.take k) []
      rw [← ha] at this; simp at this; omega
    show fence_merged_l1b xs a k = _
    unfold fence_merged_l1b fence_merged_k1
    rw [if_pos (by simp; omega), ix_nat, hk]
    simp only [Option.bind_some, plain_is]
    rcases List.eq_nil_or_concat a with rfl | ⟨b, l, rfl⟩
    · simp [ap, mst]
    · have hl : w64 (((b ++ [l]).length : Int) - 1) = (b.length : Int) := by
        rw [w64_id (by simp <;> omega) (by simp at *; omega)]; simp
      have hx : ix (b ++ [l]) (b.length : Int) = some l := by rw [ix_nat]; simp
      rw [List.concat_eq_append] at *
      rw [hl, hx]
      have : (0 : Int) < ((b ++ [l]).length : Int) := by simp
      simp only [this, decide_true, if_true, Option.bind_some, plain_is]
      unfold mst
      rw [List.getLast?_concat]
      cases h1 : pl x <;> cases h2 : pl l <;> simp [ap, h1, h2, wi, List.dropLast_concat]
      all_goals (simp at hal; rw [if_pos (by omega)]; rfl)
  · show fence_merged_l1b xs a xs.length = _
    unfold fence_merged_l1b
    rw [if_neg (by simp)]
    rfl

theorem Func_is (f : TFunc) (o : Opt) (h : f.code.length ≤ 100) : fence_Func f o = some (fun' o f) := by
  unfold fence_Func fence_Func_l1
  have hx : (f.code.foldl (fun a x => a ++ stp o x) []) = raw o f.code := fold_app _ _ _
  have := loop_fold (B := fun s => fence_Func_l1b f o s.1 s.2) (ρ := TFunc) f.code (fun a i => (a, i)) (fun a x => a ++ stp o x) (fun a => ⟨f.name, f.params, f.regs, if o.merged then rn a else a⟩) [] (by omega) (fun k x a hk ha => ?_) (fun a ha => ?_)
  · rw [show (([], 0) : List TIns × Int) = (fun a i => (a, i)) [] 0 from rfl]
    rw [this, hx]; rfl
  · have hk' := (List.getElem?_eq_some_iff.1 hk).1
    have hal : a.length ≤ 3 * k := by
      have := raw_len o (f.code.take k)
      rw [fold_app] at ha
      rw [show a = raw o (f.code.take k) from by rw [ha]; rfl]
      simp at this; omega
    show fence_Func_l1b f o a k = _
    unfold fence_Func_l1b fence_Func_k1
    have h1 := frz_len x o; have h2 := ahd_len x o; have h3 := bhd_len x o
    rw [if_pos (by simp; omega), ix_nat, hk]
    simp only [Option.bind_some, frozen_is, ahead_is, behind_is]
    unfold stp
    cases hc : decide (x.op = 22)
    · simp only [Bool.false_eq_true, if_false]
      rw [ap_some (by omega), Option.bind_some, ap_some (by simp; omega), Option.bind_some, ap_some (by simp; omega), Option.bind_some]
      simp
    · simp only [if_true]
      rw [ap_some (by omega), Option.bind_some]
  · show fence_Func_l1b f o a f.code.length = _
    have hal : a.length ≤ 3 * f.code.length := by
      have := raw_len o f.code
      rw [ha, hx]; exact this
    unfold fence_Func_l1b fence_Func_k2
    rw [if_neg (by simp), merged_is a (by omega)]
    cases o.merged <;> rfl

/-! What is neither a fence nor a freezing one -/
def nb (i : TIns) : Bool := (decide (i.op ≠ 21)) && (decide (i.op ≠ 22))
theorem fold_filter {α : Type} (p : α → Bool) : ∀ (xs : List α) (a : List α), xs.foldl (fun a x => if p x then a ++ [x] else a) a = a ++ xs.filter p
  | [], a => by simp
  | x :: xs, a => by
    rw [List.foldl_cons, List.filter_cons]
    split
    · rw [fold_filter p xs]; simp
    · rw [fold_filter p xs]
theorem bare_is (f : TFunc) (h : f.code.length ≤ 1000) : law12_bare f = some ⟨f.name, f.params, f.regs, f.code.filter nb⟩ := by
  unfold law12_bare law12_bare_l1
  have := loop_fold (B := fun s => law12_bare_l1b f s.1 s.2) (ρ := TFunc) f.code (fun a i => (a, i)) (fun a x => if nb x then a ++ [x] else a) (fun a => ⟨f.name, f.params, f.regs, a⟩) [] (by omega) (fun k x a hk ha => ?_) (fun a ha => ?_)
  · rw [show (([], 0) : List TIns × Int) = (fun a i => (a, i)) [] 0 from rfl]
    rw [this, fold_filter]; rfl
  · have hk' := (List.getElem?_eq_some_iff.1 hk).1
    have hal : a.length ≤ k := by
      rw [fold_filter] at ha
      have := List.length_filter_le nb (f.code.take k)
      rw [ha]; simp at *; omega
    show law12_bare_l1b f a k = _
    unfold law12_bare_l1b law12_bare_k1
    rw [if_pos (by simp; omega), ix_nat, hk]
    simp only [Option.bind_some]
    unfold nb
    cases (decide (x.op ≠ 21) && decide (x.op ≠ 22))
    · rfl
    · simp only [if_true]
      rw [ap_some (by simp; omega)]; rfl
  · show law12_bare_l1b f a f.code.length = _
    unfold law12_bare_l1b
    rw [if_neg (by simp)]
    rfl
theorem frz_nb (i : TIns) (o : Opt) : (frz i o).filter nb = [] := by unfold frz fnc; split <;> simp [nb]
theorem ahd_nb (i : TIns) (o : Opt) : (ahd i o).filter nb = [] := by unfold ahd fnc; split; simp [nb]; split; simp [nb]; split <;> simp [nb]
theorem bhd_nb (i : TIns) (o : Opt) : (bhd i o).filter nb = [] := by unfold bhd fnc acq; split; simp [nb]; split; simp [nb]; split <;> simp [nb]
theorem raw_nb (o : Opt) : ∀ c : List TIns, (raw o c).filter nb = c.filter nb
  | [] => rfl
  | x :: xs => by
    have ih := raw_nb o xs
    unfold raw at *
    rw [List.flatMap_cons, List.filter_append, ih]
    unfold stp
    split
    · rename_i h
      rw [frz_nb, List.filter_cons]
      have : nb x = false := by simp at h; simp [nb, h]
      rw [this]; rfl
    · rw [List.filter_append, List.filter_append, ahd_nb, bhd_nb]
      simp [List.filter_cons]
      split <;> simp
theorem pl_nb {i : TIns} (h : pl i = true) : nb i = false := by
  simp [pl] at h; simp [nb, h.1]
theorem wi_pl {i x : TIns} (h : pl i = true) (hx : pl x = true) : pl (wi i (min i.imm x.imm)) = true := by
  have h1 : i.op = 21 ∧ (i.imm = 1 ∨ i.imm = 2) := by simpa [pl] using h
  have h2 : x.op = 21 ∧ (x.imm = 1 ∨ x.imm = 2) := by simpa [pl] using hx
  have h3 : min i.imm x.imm = 1 ∨ min i.imm x.imm = 2 := by omega
  show (decide (i.op = 21) && (decide (min i.imm x.imm = 1) || decide (min i.imm x.imm = 2))) = true
  simp only [h1.1, Bool.and_eq_true, Bool.or_eq_true, decide_eq_true_eq]
  exact ⟨trivial, h3⟩
theorem run_nb : ∀ (xs : List TIns) (l : TIns), (run l xs).filter nb = (l :: xs).filter nb
  | [], l => rfl
  | x :: xs, l => by
    unfold run
    split
    · rename_i h
      simp only [Bool.and_eq_true] at h
      rw [run_nb, List.filter_cons, List.filter_cons, List.filter_cons, pl_nb h.1, pl_nb h.2, pl_nb (wi_pl h.1 h.2)]
      rfl
    · rw [List.filter_cons, run_nb]; exact List.filter_cons.symm
theorem rn_nb (xs : List TIns) : (rn xs).filter nb = xs.filter nb := by
  cases xs with
  | nil => rfl
  | cons x xs => exact run_nb xs x
theorem cod_nb (o : Opt) (c : List TIns) : (cod o c).filter nb = c.filter nb := by
  unfold cod; split
  · rw [rn_nb, raw_nb]
  · rw [raw_nb]
theorem cod_len (o : Opt) (c : List TIns) : (cod o c).length ≤ 3 * c.length := by
  have := raw_len o c
  unfold cod; split
  · have := rn_len (raw o c); omega
  · exact this

/-! Same -/
theorem same_refl (f : TFunc) (h : f.code.length ≤ 9223372036854775807) (ha : ∀ x ∈ f.code, x.args.length ≤ 9223372036854775807) : ref11_Same f f = some true := by
  unfold ref11_Same
  rw [if_neg (by simp)]
  unfold ref11_Same_l1
  refine (loop_all (B := fun s => ref11_Same_l1b f f s) (P := fun r => r = true) f.code h (fun k x hk => ?_) ?_).some_of
  · unfold ref11_Same_l1b
    have hk' := (List.getElem?_eq_some_iff.1 hk).1
    rw [if_pos (by simp; omega), ix_nat, hk]
    simp only [Option.bind_some]
    rw [if_neg (by simp)]
    unfold ref11_Same_l2
    refine loop_all x.args (ha x (List.mem_of_getElem? hk)) (fun j y hj => ?_) ?_
    · unfold ref11_Same_l2b
      have hj' := (List.getElem?_eq_some_iff.1 hj).1
      rw [if_pos (by simp; omega), ix_nat, hj]
      simp only [Option.bind_some]
      rw [if_neg (by simp)]
      exact ⟨_, rfl, rfl⟩
    · unfold ref11_Same_l2b
      rw [if_neg (by simp)]
      exact ⟨_, rfl, rfl⟩
  · unfold ref11_Same_l1b
    rw [if_neg (by simp)]
    exact ⟨_, rfl, rfl⟩

/-! Modules -/
theorem great_is (m : TModule) (h : OK_TModule m) : Ok (law12_great m) (fun b => b = false → m.funcs.length ≤ 6 ∧ m.threads.length ≤ 10 ∧ ∀ f ∈ m.funcs, f.code.length ≤ 60) := by
  unfold law12_great law12_great_l1
  refine Ok.loop (fun k s => s = (k : Int) ∧ ∀ f ∈ m.funcs.take k, f.code.length ≤ 60) m.funcs.length (fun k s hk hs => ?_) (fun s hs => ?_) (by simp)
  · obtain ⟨rfl, hs⟩ := hs
    show Ok (law12_great_l1b m k) _
    unfold law12_great_l1b
    rw [if_pos (by simp; omega), ix_some hk]
    simp only [Option.bind_some]
    refine .ite (fun hb => .map (.ret (fun h => by cases h))) (fun hb => .ret ⟨w64_succ (by have := h.1.2; omega), ?_⟩)
    intro f hf
    rw [List.take_add_one, List.getElem?_eq_getElem hk, Option.toList_some, List.mem_append, List.mem_singleton] at hf
    rcases hf with hf | rfl
    · exact hs f hf
    · simp at hb; omega
  · obtain ⟨rfl, hs⟩ := hs
    show Ok (law12_great_l1b m m.funcs.length) _
    unfold law12_great_l1b
    rw [if_neg (by simp)]
    refine .map (.ret (fun hb => ?_))
    simp at hb
    refine ⟨by omega, by omega, fun f hf => hs f (by rw [List.take_length]; exact hf)⟩
theorem Module_is (m : TModule) (o : Opt) (h1 : m.funcs.length ≤ 6) (h2 : m.threads.length ≤ 10) (h3 : ∀ f ∈ m.funcs, f.code.length ≤ 60) : fence_Module m o = some ⟨m.funcs.map (fun' o), m.threads⟩ := by
  unfold fence_Module slices_Clone fence_Module_l1
  rw [ap_some (by simp; omega)]
  simp only [List.nil_append, Option.bind_some]
  have hx : m.funcs.foldl (fun a x => a ++ [fun' o x]) [] = m.funcs.map (fun' o) := by
    rw [fold_app (fun x => [fun' o x])]; induction m.funcs <;> simp_all
  have := loop_fold (B := fun s => fence_Module_l1b m o m.threads s.1 s.2) (ρ := TModule) m.funcs (fun a i => (a, i)) (fun a x => a ++ [fun' o x]) (fun a => ⟨a, m.threads⟩) [] (by omega) (fun k x a hk ha => ?_) (fun a ha => ?_)
  · rw [show (([], 0) : List TFunc × Int) = (fun a i => (a, i)) [] 0 from rfl]
    rw [this, hx]
  · have hk' := (List.getElem?_eq_some_iff.1 hk).1
    have hal : a.length = k := by
      have : ∀ (xs : List TFunc), (xs.foldl (fun a x => a ++ [fun' o x]) []).length = xs.length := by
        intro xs; rw [fold_app (fun x => [fun' o x])]; induction xs <;> simp_all
      rw [ha, this]; simp; omega
    show fence_Module_l1b m o m.threads a k = _
    unfold fence_Module_l1b
    rw [if_pos (by simp; omega), ix_nat, hk]
    simp only [Option.bind_some]
    rw [Func_is x o (by have := h3 x (List.mem_of_getElem? hk); omega)]
    simp only [Option.bind_some]
    rw [ap_some (by simp; omega)]; rfl
  · show fence_Module_l1b m o m.threads a m.funcs.length = _
    unfold fence_Module_l1b
    rw [if_neg (by simp)]
    rfl
theorem alive_is : law12_alive = some true := by
  unfold law12_alive
  rw [Func_is _ _ (by simp)]
  simp [fun', cod, raw, stp, frz, ahd, bhd, fnc, acq]
  simp [ix]
end Go.Vm.G12
