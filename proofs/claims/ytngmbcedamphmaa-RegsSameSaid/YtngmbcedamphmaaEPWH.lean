/-
 Plain laws, one behind the other.
-/
import Derived.Test.YtngmbcedamphmaaEPWF
set_option linter.unusedSimpArgs false
set_option linter.unusedVariables false
set_option linter.unusedSectionVars false
namespace Go.Vm.G13s
open Go
section
theorem ixD {v : List Int} {i : Int} (h0 : 0 ≤ i) (h1 : i < v.length) : ix v i = some (v.getD i.toNat 0) := by
 have h2 : i.toNat < v.length := by omega
 unfold Go.Vm.ix
 rw [if_pos h0, List.getD_eq_getElem?_getD, List.getElem?_eq_getElem h2]
 rfl
def ex (fr : Int) (a : Sp) : Bool := decide (a.to_ < fr)
def ef (at_ : List Int) (fr : Int) (free : List Bool) (a : Sp) : List Bool := if a.to_ < fr then free.set (at_.getD a.reg.toNat 0).toNat true else free
theorem ef_len (at_ : List Int) (fr : Int) (free : List Bool) (a : Sp) : (ef at_ fr free a).length = free.length := by unfold ef; split <;> simp
def Has (at_ : List Int) (a : Sp) : Prop := (0 ≤ a.reg ∧ a.reg < at_.length) ∧ 0 ≤ at_.getD a.reg.toNat 0 ∧ at_.getD a.reg.toNat 0 < 10
section
variable {at_ : List Int} {fr sp : Int} {free : List Bool} {x : List Sp}
theorem c1_is {a : Sp} (h : Has at_ a) (hf : free.length = 10) : regs_scan_expire_c1 a fr ⟨at_, x, free, sp⟩ = some (ex fr a, ⟨at_, [], ef at_ fr free a, sp⟩) := by
 unfold regs_scan_expire_c1 ex ef
 by_cases hc : a.to_ < fr
 ·rw [if_pos (by simpa using hc), ixD h.1.1 h.1.2, if_pos hc]
  simp only [Option.bind_some]
  obtain ⟨h1, h2⟩ := h.2
  have h3 : (at_.getD a.reg.toNat 0).toNat < free.length := by omega
  unfold Go.Vm.ix
  rw [if_pos h1, List.getElem?_eq_getElem h3]
  simp only [Option.bind_some]
  rw [show decide (a.to_ < fr) = true by simpa using hc]
 ·rw [if_neg (by simpa using hc), if_neg hc, show decide (a.to_ < fr) = false by simpa using hc]
theorem find4_is (hf : free.length = 10) (L : List Sp) (hl : L.length ≤ 1000) (h : ∀ a ∈ L, Has at_ a) : Ok (slices_IndexFunc_4 L fr ⟨at_, x, free, sp⟩) (fun r => (r = (-1, ⟨at_, [], free, sp⟩) ∧ ∀ a ∈ L, ex fr a = false) ∨
  ∃ (i : Nat) (a : Sp), r = ((i : Int), ⟨at_, [], ef at_ fr free a, sp⟩) ∧ L[i]? = some a ∧ ex fr a = true ∧ ∀ b ∈ L.take i, ex fr b = false) := by
 unfold slices_IndexFunc_4 slices_IndexFunc_4_l1
 refine Ok.loop (B := fun s => slices_IndexFunc_4_l1b L fr s.1 s.2.1 s.2.2.1 s.2.2.2) (fun k s => s = (at_, free, sp, (k : Int)) ∧ ∀ b ∈ L.take k, ex fr b = false) L.length (fun k s hk hs => ?_) (fun s hs => ?_) ⟨rfl, by simp⟩
 ·obtain ⟨rfl, hs⟩ := hs
  show Ok (slices_IndexFunc_4_l1b L fr at_ free sp k) _
  unfold slices_IndexFunc_4_l1b
  rw [if_pos (by simp; omega), ix_some hk]
  simp only [Option.bind_some]
  rw [c1_is (h _ (List.getElem_mem hk)) hf]
  simp only [Option.bind_some]
  refine .ite (fun hb => .map (.ret (.inr ⟨k, L[k], rfl, List.getElem?_eq_getElem hk, hb, hs⟩))) (fun hb => .ret ⟨?_, fun y hy => ?_⟩)
  ·have : ef at_ fr free L[k] = free := by
    unfold ef
    rw [if_neg (by simpa [ex] using hb)]
   rw [this, w64_succ (by omega)]
  ·rw [mem_take_succ hk] at hy
   rcases hy with hy | rfl
   ·exact hs y hy
   ·exact hb
 ·obtain ⟨rfl, hs⟩ := hs
  show Ok (slices_IndexFunc_4_l1b L fr at_ free sp _) _
  unfold slices_IndexFunc_4_l1b
  rw [if_neg (by simp)]
  rw [List.take_length] at hs
  exact .map (.ret (.inl ⟨rfl, hs⟩))
theorem fold_len (L : List Sp) : ∀ free : List Bool, (L.foldl (ef at_ fr) free).length = free.length := by
 induction L with
 | nil => intro free; rfl
 | cons a L ih => intro free; rw [List.foldl_cons, ih, ef_len]
theorem fold_none (L : List Sp) (h : ∀ a ∈ L, ex fr a = false) : ∀ free : List Bool, L.foldl (ef at_ fr) free = free := by
 induction L with
 | nil => intro free; rfl
 | cons a L ih =>
  intro free
  have h1 := h a (by simp)
  rw [List.foldl_cons, ih (fun b hb => h b (List.mem_cons_of_mem _ hb))]
  unfold ef
  rw [if_neg (by simpa [ex] using h1)]
theorem delete_is (hf : free.length = 10) (L : List Sp) (hl : L.length ≤ 1000) (h : ∀ a ∈ L, Has at_ a) : slices_DeleteFunc L fr ⟨at_, x, free, sp⟩ = some (L.filter (fun a => !ex fr a), ⟨at_, [], L.foldl (ef at_ fr) free, sp⟩) := by
 unfold slices_DeleteFunc
 refine Ok.some_of ((find4_is (x := []) hf L hl h).bind fun r hr => ?_)
 rcases hr with ⟨rfl, hr⟩ | ⟨i, a, rfl, ha, hx, hb⟩
 ·rw [if_pos (by simp)]
  refine .ret ?_
  rw [fold_none L hr, List.filter_eq_self.2 (fun a ha => by simp [hr a ha])]
 ·have hi := (List.getElem?_eq_some_iff.1 ha).1
  have hai := (List.getElem?_eq_some_iff.1 ha).2
  rw [if_neg (by simp), w64_succ (by omega)]
  unfold slices_DeleteFunc_l1
  have htk : L.take (i + 1) = L.take i ++ [a] := by rw [List.take_add_one, ha]; rfl
  refine Ok.loop (B := fun s => slices_DeleteFunc_l1b fr s.1 s.2.1 s.2.2.1 s.2.2.2.1 s.2.2.2.2.1 s.2.2.2.2.2) (fun k s => ∃ (C : List Sp) (p : Nat), s = (C, at_, (L.take (i + 1 + k)).foldl (ef at_ fr) free, sp, (p : Int), ((i + 1 + k : Nat) : Int)) ∧ C.length = L.length ∧ p < i + 1 + k ∧ C.take p = (L.take (i + 1 + k)).filter (fun a => !ex fr a) ∧ C.drop (i + 1 + k) = L.drop (i + 1 + k))
   (L.length - (i + 1)) (fun k s hk hs => ?_) (fun s hs => ?_) ⟨L, i, ?_, rfl, by omega, ?_, rfl⟩
  ·obtain ⟨C, p, rfl, h1, h2, h3, h4⟩ := hs
   show Ok (slices_DeleteFunc_l1b fr C at_ _ sp p ((i + 1 + k : Nat) : Int)) _
   have hj : i + 1 + k < L.length := by omega
   have hCj : C[i + 1 + k]? = some L[i + 1 + k] := by
    have e1 : (C.drop (i + 1 + k))[0]? = (L.drop (i + 1 + k))[0]? := by rw [h4]
    rw [List.getElem?_drop, List.getElem?_drop] at e1
    simpa [List.getElem?_eq_getElem hj] using e1
   have hfl : ((L.take (i + 1 + k)).foldl (ef at_ fr) free).length = 10 := by rw [fold_len, hf]
   have htk2 : L.take (i + 1 + k + 1) = L.take (i + 1 + k) ++ [L[i + 1 + k]] := by rw [List.take_add_one, List.getElem?_eq_getElem hj]; rfl
   unfold slices_DeleteFunc_l1b slices_DeleteFunc_k1
   rw [if_pos (by simp; omega), ix_nat, hCj]
   simp only [Option.bind_some]
   rw [c1_is (h _ (List.getElem_mem hj)) hfl]
   simp only [Option.bind_some]
   have hdrop : ∀ (D : List Sp), D.drop (i + 1 + k) = C.drop (i + 1 + k) ∨ (∃ v, D = C.set p v) → D.drop (i + 1 + (k + 1)) = L.drop (i + 1 + (k + 1)) := fun D hD => by
    have e : C.drop (i + 1 + (k + 1)) = L.drop (i + 1 + (k + 1)) := by
     have : (C.drop (i + 1 + k)).drop 1 = (L.drop (i + 1 + k)).drop 1 := by rw [h4]
     rw [List.drop_drop, List.drop_drop] at this
     exact this
    rcases hD with hD | ⟨v, rfl⟩
    ·have : (D.drop (i + 1 + k)).drop 1 = (C.drop (i + 1 + k)).drop 1 := by rw [hD]
     rw [List.drop_drop, List.drop_drop] at this
     exact this.trans e
    ·rw [List.drop_set_of_lt (by omega)]
     exact e
   refine .ite (fun hb => ?_) fun hb => .ret ⟨C, p, ?_, h1, by omega, ?_, hdrop C (.inl rfl)⟩
   ·have hb' : ex fr L[i + 1 + k] = false := by simpa using hb
    have hpl : p < C.length := by omega
    rw [ix_some hpl]
    simp only [Option.bind_some]
    refine .ret ⟨C.set p L[i + 1 + k], p + 1, ?_, by simp [h1], by omega, ?_, hdrop _ (.inr ⟨_, rfl⟩)⟩
    ·show _ = _
     rw [w64_succ (by omega), w64_succ (by omega), Int.toNat_natCast]
     congr 3
     rw [show i + 1 + (k + 1) = i + 1 + k + 1 by omega, htk2, List.foldl_append]
     rfl
    ·rw [show i + 1 + (k + 1) = i + 1 + k + 1 by omega, htk2, List.filter_append, ← h3, List.take_add_one, List.getElem?_set, if_pos rfl, if_pos hpl, List.take_set_of_le (Nat.le_refl _)]
     simp [hb']
   ·show _ = _
    rw [w64_succ (by omega)]
    congr 3
    rw [show i + 1 + (k + 1) = i + 1 + k + 1 by omega, htk2, List.foldl_append]
    rfl
   ·have hb' : ex fr L[i + 1 + k] = true := by simpa using hb
    rw [show i + 1 + (k + 1) = i + 1 + k + 1 by omega, htk2, List.filter_append, ← h3]
    simp [hb']
  ·obtain ⟨C, p, rfl, h1, h2, h3, h4⟩ := hs
   show Ok (slices_DeleteFunc_l1b fr C at_ _ sp p _) _
   unfold slices_DeleteFunc_l1b
   have e : i + 1 + (L.length - (i + 1)) = L.length := by omega
   rw [e] at h2 h3 ⊢
   rw [List.take_length] at h3 ⊢
   rw [if_neg (by simp; omega)]
   have hcut : cutL C 0 (p : Int) = some (C.take p) := by
    unfold cutL
    rw [if_pos (by omega)]
    simp
   rw [hcut]
   simp only [Option.bind_some]
   refine .map (.ret ?_)
   rw [h3]
   rfl
  ·rw [Nat.add_zero, htk, List.foldl_append, fold_none _ hb]
   rfl
  ·rw [Nat.add_zero, htk, List.filter_append, List.filter_eq_self.2 (fun b hb' => by simp [hb b hb'])]
   simp [hx]
theorem expire_is (hf : free.length = 10) (L : List Sp) (hl : L.length ≤ 1000) (h : ∀ a ∈ L, Has at_ a) : regs_scan_expire ⟨at_, L, free, sp⟩ fr = some ⟨at_, L.filter (fun a => !ex fr a), L.foldl (ef at_ fr) free, sp⟩ := by
 unfold regs_scan_expire
 rw [delete_is hf L hl h]
 rfl
end
end
section
theorem index2_is (fr : List Bool) (h : fr.length = 10) : Ok (slices_Index_2 fr true) (fun i => (i = -1 ∧ ∀ b ∈ fr, b = false) ∨ ∃ q : Nat, i = (q : Int) ∧ fr[q]? = some true) := by
 unfold slices_Index_2 slices_Index_2_l1
 refine loop_for fr (fun k s => s = (k : Int) ∧ ∀ b ∈ fr.take k, b = false) (fun k x s hk' hk hs => ?_) (fun s hs => ?_) ⟨rfl, by simp⟩
 ·obtain ⟨rfl, hs⟩ := hs
  unfold slices_Index_2_l1b
  rw [if_pos (by simp; omega), ix_nat, hk]
  simp only [Option.bind_some]
  refine .ite (fun hb => .map (.ret (.inr ⟨k, rfl, ?_⟩))) (fun hb => .ret ⟨w64_succ (by omega), fun y hy => ?_⟩)
  ·cases x with
   | true => exact hk
   | false => cases hb
  ·rw [mem_take_succ hk'] at hy
   rcases hy with hy | rfl
   ·exact hs y hy
   ·rw [List.getElem?_eq_getElem hk'] at hk
    have e := Option.some.inj hk
    cases hx : x with
    | true => rw [hx] at hb; cases hb
    | false => rw [e, hx]
 ·obtain ⟨rfl, hs⟩ := hs
  unfold slices_Index_2_l1b
  rw [if_neg (by simp)]
  rw [List.take_length] at hs
  exact .map (.ret (.inl ⟨rfl, hs⟩))
structure St where
 at_ : List Int
 act : List Sp
 free : List Bool
 sp : Nat
def St.m (s : St) : Tregs_scan := ⟨s.at_, s.act, s.free, s.sp⟩
def PutS (s : St) (x : Sp) (s' : St) : Prop :=
 (∃ q : Nat, s.free[q]? = some true ∧ s' = ⟨s.at_.set x.reg.toNat q, s.act ++ [x], s.free.set q false, s.sp⟩) ∨
 ((∀ b ∈ s.free, b = false) ∧ ((∃ (k : Nat) (o : Sp), s.act[k]? = some o ∧ x.to_ < o.to_ ∧ s' = ⟨(s.at_.set x.reg.toNat (s.at_.getD o.reg.toNat 0)).set o.reg.toNat ((10 + s.sp : Nat) : Int), s.act.set k x, s.free, s.sp + 1⟩) ∨
  s' = ⟨s.at_.set x.reg.toNat ((10 + s.sp : Nat) : Int), s.act, s.free, s.sp + 1⟩))
theorem spill_is (a : List Int) (c : List Sp) (f : List Bool) (n : Nat) (h : n ≤ 1000) : regs_scan_spill ⟨a, c, f, (n : Int)⟩ = some (((10 + n : Nat) : Int), ⟨a, c, f, ((n + 1 : Nat) : Int)⟩) := by
 unfold regs_scan_spill
 show some (w64 ((w64 (10 + (w64 ((n : Int) + 1)))) - 1), (⟨a, c, f, w64 ((n : Int) + 1)⟩ : Tregs_scan)) = _
 rw [w64_succ (by omega), w64_id (x := 10 + ((n + 1 : Nat) : Int)) (by omega) (by omega), w64_id (by omega) (by omega)]
 congr 2
 omega
theorem put_is (s : St) (x : Sp) (hf : s.free.length = 10) (hx : 0 ≤ x.reg ∧ x.reg < s.at_.length) (ha : s.act.length ≤ 1000) (hh : ∀ a ∈ s.act, Has s.at_ a) (hne : (∀ b ∈ s.free, b = false) → s.act ≠ []) (hsp : s.sp ≤ 1000) : Ok (regs_scan_put s.m x) (fun r => ∃ s', r = s'.m ∧ PutS s x s') := by
 unfold regs_scan_put
 refine (index2_is s.free hf).bind fun i hi => ?_
 rcases hi with ⟨rfl, hb⟩ | ⟨q, rfl, hq⟩
 ·rw [if_neg (by decide)]
  have hpos : 0 < s.act.length := List.length_pos_iff.2 (hne hb)
  unfold regs_scan_put_l1
  refine Ok.loop (B := fun t => regs_scan_put_l1b s.m x t.1 t.2) (fun k t => ∃ p : Nat, t = ((p : Int), (k : Int)) ∧ p < s.act.length) s.act.length (fun k t hk ht => ?_) (fun t ht => ?_) ⟨0, rfl, hpos⟩
  ·obtain ⟨p, rfl, hp⟩ := ht
   show Ok (regs_scan_put_l1b s.m x p k) _
   unfold regs_scan_put_l1b regs_scan_put_k1
   rw [if_pos (by show decide ((k : Int) < (s.act.length : Int)) = true; simp; omega), show s.m.active = s.act from rfl, ix_some hk, ix_some hp]
   simp only [Option.bind_some]
   refine .ite (fun _ => .ret ⟨k, by rw [w64_succ (by omega)], hk⟩) fun _ => .ret ⟨p, by rw [w64_succ (by omega)], hp⟩
  ·obtain ⟨p, rfl, hp⟩ := ht
   show Ok (regs_scan_put_l1b s.m x p s.act.length) _
   unfold regs_scan_put_l1b
   rw [if_neg (by show ¬ decide ((s.act.length : Int) < (s.act.length : Int)) = true; simp), show s.m.active = s.act from rfl, ix_some hp]
   simp only [Option.bind_some]
   have ho := hh _ (List.getElem_mem hp)
   have hao : s.act[p]? = some s.act[p] := List.getElem?_eq_getElem hp
   refine .map (.ite (fun hc => ?_) fun hc => ?_)
   ·rw [show s.m.at_ = s.at_ from rfl, ixD ho.1.1 ho.1.2, ixD hx.1 hx.2]
    simp only [Option.bind_some]
    have e := spill_is (s.at_.set x.reg.toNat (s.at_.getD s.act[p].reg.toNat 0)) s.act s.free s.sp hsp
    show Ok ((regs_scan_spill ⟨s.at_.set x.reg.toNat (s.at_.getD s.act[p].reg.toNat 0), s.act, s.free, (s.sp : Int)⟩).bind _) _
    rw [e]
    simp only [Option.bind_some]
    rw [ixD ho.1.1 (by simpa using ho.1.2), ix_some hp]
    simp only [Option.bind_some]
    refine .ret ⟨_, ?_, .inr ⟨hb, .inl ⟨p, s.act[p], hao, by simpa using hc, rfl⟩⟩⟩
    rw [Int.toNat_natCast]
    rfl
   ·have e := spill_is s.at_ s.act s.free s.sp hsp
    show Ok ((regs_scan_spill ⟨s.at_, s.act, s.free, (s.sp : Int)⟩).bind _) _
    rw [e]
    simp only [Option.bind_some]
    rw [ixD hx.1 hx.2]
    simp only [Option.bind_some]
    exact .ret ⟨_, rfl, .inr ⟨hb, .inr rfl⟩⟩
 ·rw [if_pos (by simp)]
  have hq' := (List.getElem?_eq_some_iff.1 hq).1
  show Ok ((ix s.free (q : Int)).bind _) _
  rw [ix_nat, hq]
  simp only [Option.bind_some]
  show Ok ((ix s.at_ x.reg).bind _) _
  rw [ixD hx.1 hx.2]
  simp only [Option.bind_some]
  show Ok ((ap s.act [x]).bind _) _
  rw [ap_some (by simp; omega)]
  simp only [Option.bind_some]
  refine .ret ⟨_, ?_, .inl ⟨q, hq, rfl⟩⟩
  rw [Int.toNat_natCast]
  rfl
end
section
abbrev St.pl (s : St) (a : Sp) : Int := s.at_.getD a.reg.toNat 0
def cov (p : Int) (a : Sp) : Bool := decide (a.from_ ≤ p) && decide (p ≤ a.to_)
theorem nodup_le {α : Type} [DecidableEq α] : ∀ (xs ys : List α), xs.Nodup → (∀ x ∈ xs, x ∈ ys) → xs.length ≤ ys.length
 | [], ys, _, _ => Nat.zero_le _
 | x :: xs, ys, hn, h => by
  obtain ⟨h1, h2⟩ := List.nodup_cons.1 hn
  have hx := h x (by simp)
  have ih := nodup_le xs (ys.erase x) h2 fun y hy => (List.mem_erase_of_ne (fun e : y = x => h1 (by rw [← e]; exact hy))).2 (h y (List.mem_cons_of_mem _ hy))
  rw [List.length_erase_of_mem hx] at ih
  have := List.length_pos_of_mem hx
  simp only [List.length_cons]
  omega
structure Inv (L : List Sp) (R k : Nat) (cur : Int) (s : St) : Prop where
 atl : s.at_.length = R
 frl : s.free.length = 10
 spk : s.sp ≤ k
 act : ∀ a ∈ s.act, a ∈ L.take k ∧ 0 ≤ s.pl a ∧ s.pl a < 10 ∧ s.free[(s.pl a).toNat]? = some false
 actd : s.act.Pairwise fun a b => a.reg ≠ b.reg ∧ s.pl a ≠ s.pl b
 used : ∀ q : Nat, s.free[q]? = some false → ∃ a ∈ s.act, s.pl a = (q : Int)
 none : ∀ r : Nat, r < R → (∀ a ∈ L.take k, a.reg ≠ (r : Int)) → s.at_.getD r 0 = -1
 done : ∀ a ∈ L.take k, 0 ≤ s.pl a ∧ s.pl a < 10 + (s.sp : Int)
 gone : ∀ a ∈ L.take k, s.pl a < 10 → a ∈ s.act ∨ a.to_ < cur
 apart : ∀ a ∈ L.take k, ∀ b ∈ L.take k, a.reg ≠ b.reg → s.pl a = s.pl b → a.to_ < b.from_ ∨ b.to_ < a.from_
 spill : 0 < s.sp → ∃ p, 11 ≤ L.countP (cov p)
structure Sps (L : List Sp) (R : Nat) : Prop where
 len : L.length ≤ 1000
 nd : L.Pairwise fun a b => a.reg ≠ b.reg
 srt : ∀ (i j : Nat) (a b : Sp), i < j → L[i]? = some a → L[j]? = some b → a.from_ ≤ b.from_
 reg : ∀ a ∈ L, 0 ≤ a.reg ∧ a.reg < R
 ok : ∀ a ∈ L, a.from_ ≤ a.to_
section
variable {L : List Sp} {R k : Nat} {cur : Int} {s s' : St} {x : Sp}
theorem Inv.has (h : Inv L R k cur s) (hL : Sps L R) : ∀ a ∈ s.act, Has s.at_ a := fun a ha => by
 obtain ⟨h1, h2, h3, _⟩ := h.act a ha
 have hr := hL.reg a (List.mem_of_mem_take h1)
 exact ⟨⟨hr.1, by rw [h.atl]; exact hr.2⟩, h2, h3⟩
theorem fold_get {at_ : List Int} {fr : Int} : ∀ (A : List Sp) (free : List Bool) (q : Nat), q < free.length → (A.foldl (ef at_ fr) free)[q]? = if (∃ a ∈ A, a.to_ < fr ∧ (at_.getD a.reg.toNat 0).toNat = q) then some true else free[q]?
 | [], free, q, hq => by simp
 | a :: A, free, q, hq => by
  rw [List.foldl_cons, fold_get A _ q (by rw [ef_len]; exact hq)]
  by_cases h1 : ∃ b ∈ A, b.to_ < fr ∧ (at_.getD b.reg.toNat 0).toNat = q
  ·rw [if_pos h1, if_pos]
   obtain ⟨b, hb, h2⟩ := h1
   exact ⟨b, List.mem_cons_of_mem _ hb, h2⟩
  ·rw [if_neg h1]
   unfold ef
   by_cases h2 : a.to_ < fr
   ·rw [if_pos h2, List.getElem?_set]
    by_cases h3 : (at_.getD a.reg.toNat 0).toNat = q
    ·rw [if_pos h3, if_pos (by rw [h3]; exact hq), if_pos ⟨a, by simp, h2, h3⟩]
    ·rw [if_neg h3, if_neg]
     rintro ⟨b, hb, h4, h5⟩
     rcases List.mem_cons.1 hb with rfl | hb
     ·exact h3 h5
     ·exact h1 ⟨b, hb, h4, h5⟩
   ·rw [if_neg h2, if_neg]
    rintro ⟨b, hb, h4, h5⟩
    rcases List.mem_cons.1 hb with rfl | hb
    ·exact h2 h4
    ·exact h1 ⟨b, hb, h4, h5⟩
theorem Inv.expire (h : Inv L R k cur s) (hL : Sps L R) {fr : Int} (hc : cur ≤ fr) : Inv L R k fr ⟨s.at_, s.act.filter (fun a => !ex fr a), s.act.foldl (ef s.at_ fr) s.free, s.sp⟩ := by
 have hmem : ∀ {a}, a ∈ s.act.filter (fun a => !ex fr a) ↔ a ∈ s.act ∧ ¬ a.to_ < fr := fun {a} => by
  rw [List.mem_filter]
  unfold ex
  simp
 have hpd : ∀ {a b}, a ∈ s.act → b ∈ s.act → s.pl a = s.pl b → a = b := fun {a b} ha hb e => by
  obtain ⟨i, hi, rfl⟩ := List.mem_iff_getElem.1 ha
  obtain ⟨j, hj, rfl⟩ := List.mem_iff_getElem.1 hb
  have hp := List.pairwise_iff_getElem.1 h.actd
  rcases Nat.lt_trichotomy i j with hij | hij | hij
  ·exact ((hp i j hi hj hij).2 e).elim
  ·subst hij; rfl
  ·exact ((hp j i hj hi hij).2 e.symm).elim
 refine ⟨h.atl, by show (s.act.foldl (ef s.at_ fr) s.free).length = 10; rw [fold_len]; exact h.frl, h.spk, fun a ha => ?_, h.actd.filter _, fun q hq => ?_, h.none, h.done, fun a ha hp => ?_, h.apart, h.spill⟩
 ·obtain ⟨h1, h2⟩ := hmem.1 ha
  obtain ⟨h3, h4, h5, h6⟩ := h.act a h1
  refine ⟨h3, h4, h5, ?_⟩
  show (s.act.foldl (ef s.at_ fr) s.free)[(s.pl a).toNat]? = _
  rw [fold_get _ _ _ (List.getElem?_eq_some_iff.1 h6).1, if_neg ?_, h6]
  rintro ⟨b, hb, h7, h8⟩
  have h9 := (h.act b hb).2
  have := hpd h1 hb (show s.pl a = s.pl b by
   have h8 : (s.pl b).toNat = (s.pl a).toNat := h8
   omega)
  subst this
  exact h2 h7
 ·have hq : (s.act.foldl (ef s.at_ fr) s.free)[q]? = some false := hq
  have hlt : q < s.free.length := by
   have := (List.getElem?_eq_some_iff.1 hq).1
   rwa [fold_len] at this
  rw [fold_get _ _ _ hlt] at hq
  split at hq
  ·cases hq
  ·rename_i hno
   obtain ⟨a, ha, he⟩ := h.used q hq
   refine ⟨a, hmem.2 ⟨ha, fun hlt => hno ⟨a, ha, hlt, ?_⟩⟩, he⟩
   have he : s.at_.getD a.reg.toNat 0 = (q : Int) := he
   rw [he]; rfl
 ·rcases h.gone a ha hp with h1 | h1
  ·by_cases h2 : a.to_ < fr
   ·exact .inr h2
   ·exact .inl (hmem.2 ⟨h1, h2⟩)
  ·exact .inr (by omega)
end
end
section
theorem getD_set_ne {xs : List Int} {i j : Nat} {v : Int} (h : i ≠ j) : (xs.set i v).getD j 0 = xs.getD j 0 := by
 rw [List.getD_eq_getElem?_getD, List.getD_eq_getElem?_getD, List.getElem?_set, if_neg h]
theorem getD_set_eq {xs : List Int} {i : Nat} {v : Int} (h : i < xs.length) : (xs.set i v).getD i 0 = v := by
 rw [List.getD_eq_getElem?_getD, List.getElem?_set, if_pos rfl, if_pos h]; rfl
section
variable {L : List Sp} {R k : Nat} {cur : Int} {s s' : St} {x : Sp}
theorem Sps.uniq (hL : Sps L R) {a b : Sp} (ha : a ∈ L) (hb : b ∈ L) (e : a.reg = b.reg) : a = b := by
 obtain ⟨i, hi, rfl⟩ := List.mem_iff_getElem.1 ha
 obtain ⟨j, hj, rfl⟩ := List.mem_iff_getElem.1 hb
 have hp := List.pairwise_iff_getElem.1 hL.nd
 rcases Nat.lt_trichotomy i j with h | h | h
 ·exact (hp i j hi hj h e).elim
 ·subst h; rfl
 ·exact (hp j i hj hi h e.symm).elim
theorem Sps.fresh (hL : Sps L R) (hk : L[k]? = some x) {a : Sp} (ha : a ∈ L.take k) : a.reg ≠ x.reg := by
 obtain ⟨i, hi, he⟩ := List.mem_iff_getElem.1 ha
 obtain ⟨hk1, hk2⟩ := List.getElem?_eq_some_iff.1 hk
 have hi' : i < k := by rw [List.length_take] at hi; omega
 have hp := List.pairwise_iff_getElem.1 hL.nd i k (by omega) hk1 hi'
 rw [List.getElem_take] at he
 rw [he, hk2] at hp
 exact hp
theorem Sps.le (hL : Sps L R) (hk : L[k]? = some x) {a : Sp} (ha : a ∈ L.take k) : a.from_ ≤ x.from_ := by
 obtain ⟨i, hi, he⟩ := List.mem_iff_getElem.1 ha
 have hi' : i < k := by rw [List.length_take] at hi; omega
 rw [List.getElem_take] at he
 exact hL.srt i k a x hi' (by rw [← he]; exact List.getElem?_eq_getElem _) hk
theorem Inv.ten (h : Inv L R k cur s) (hb : ∀ b ∈ s.free, b = false) : 10 ≤ s.act.length := by
 have := nodup_le ((List.range 10).map (fun n : Nat => (n : Int))) (s.act.map s.pl) (by decide) (fun y hy => ?_)
 ·simpa using this
 ·obtain ⟨q, hq, rfl⟩ := List.mem_map.1 hy
  have hq' : q < s.free.length := by rw [h.frl]; exact List.mem_range.1 hq
  obtain ⟨a, ha, he⟩ := h.used q (by rw [List.getElem?_eq_getElem hq', hb _ (List.getElem_mem hq')])
  exact List.mem_map.2 ⟨a, ha, he⟩
theorem Inv.nodup (h : Inv L R k cur s) : s.act.Nodup := by
 rw [List.nodup_iff_pairwise_ne]
 exact h.actd.imp fun h e => h.1 (by rw [e])
theorem Inv.eleven (h : Inv L R k cur s) (hL : Sps L R) (hk : L[k]? = some x) (hE : ∀ a ∈ s.act, x.from_ ≤ a.to_) (hb : ∀ b ∈ s.free, b = false) : 11 ≤ L.countP (cov x.from_) := by
 have h1 := h.ten hb
 have hx := List.mem_of_getElem? hk
 letI : DecidableEq Sp := fun a b => Classical.propDecidable _
 have := nodup_le (x :: s.act) (L.filter (cov x.from_)) (List.nodup_cons.2 ⟨fun hx => hL.fresh hk (h.act x hx).1 rfl, h.nodup⟩) (fun y hy => ?_)
 ·rw [← List.countP_eq_length_filter] at this
  simp only [List.length_cons] at this
  omega
 ·rw [List.mem_filter]
  unfold cov
  rcases List.mem_cons.1 hy with rfl | hy
  ·exact ⟨hx, by simp; exact hL.ok _ hx⟩
  ·have h2 := (h.act y hy).1
   have h3 := hL.le hk h2
   have h4 := hE y hy
   exact ⟨List.mem_of_mem_take h2, by simp; omega⟩
theorem memset {α : Type} {l : List α} {i : Nat} {o x y : α} (hn : l.Nodup) (hi : l[i]? = some o) : y ∈ l.set i x ↔ y = x ∨ (y ∈ l ∧ y ≠ o) := by
 obtain ⟨h1, h2⟩ := List.getElem?_eq_some_iff.1 hi
 rw [List.nodup_iff_pairwise_ne, List.pairwise_iff_getElem] at hn
 constructor
 ·intro hy
  obtain ⟨j, hj, he⟩ := List.mem_iff_getElem.1 hy
  rw [List.getElem_set] at he
  by_cases hij : i = j
  ·rw [if_pos hij] at he; exact .inl he.symm
  ·rw [if_neg hij] at he
   rw [List.length_set] at hj
   refine .inr ⟨he ▸ List.getElem_mem hj, fun e => ?_⟩
   rcases Nat.lt_trichotomy i j with h | h | h
   ·exact hn i j h1 hj h (by rw [h2, he, e])
   ·exact hij h
   ·exact hn j i hj h1 h (by rw [h2, he, e])
 ·rintro (rfl | ⟨hy, hne⟩)
  ·exact List.mem_iff_getElem.2 ⟨i, by simpa using h1, by simp⟩
  ·obtain ⟨j, hj, he⟩ := List.mem_iff_getElem.1 hy
   have hij : i ≠ j := fun e => hne (by subst e; rw [← he, h2])
   exact List.mem_iff_getElem.2 ⟨j, by simpa using hj, by rw [List.getElem_set_ne hij]; exact he⟩
theorem Inv.put (h : Inv L R k cur s) (hL : Sps L R) (hk : L[k]? = some x) (hE : ∀ a ∈ s.act, x.from_ ≤ a.to_) (hc : cur ≤ x.from_) (hp : PutS s x s') : Inv L R (k + 1) x.from_ s' := by
 have hx := List.mem_of_getElem? hk
 have hxr := hL.reg x hx
 have hT : L.take (k + 1) = L.take k ++ [x] := by rw [List.take_add_one, hk]; rfl
 have hM : ∀ {a}, a ∈ L.take (k + 1) ↔ a ∈ L.take k ∨ a = x := fun {a} => by rw [hT]; simp
 have hreg : ∀ {a}, a ∈ L.take k → 0 ≤ a.reg ∧ a.reg < R := fun ha => hL.reg _ (List.mem_of_mem_take ha)
 have hne : ∀ {a}, a ∈ L.take k → x.reg.toNat ≠ a.reg.toNat := fun ha e => by
  have h1 := hL.fresh hk ha
  have h2 := hreg ha
  omega
 have hxl : x.reg.toNat < s.at_.length := by rw [h.atl]; omega
 have hgone : ∀ {a}, a ∈ L.take k → s.pl a < 10 → a ∈ s.act ∨ a.to_ < x.from_ := fun ha hp => by
  rcases h.gone _ ha hp with h1 | h1
  ·exact .inl h1
  ·exact .inr (by omega)
 rcases hp with ⟨q, hq, rfl⟩ | ⟨hb, ⟨i, o, hi, hlt, rfl⟩ | rfl⟩
 ·have hq10 : q < 10 := by have := (List.getElem?_eq_some_iff.1 hq).1; rw [h.frl] at this; exact this
  have hpx : (St.mk (s.at_.set x.reg.toNat q) (s.act ++ [x]) (s.free.set q false) s.sp).pl x = (q : Int) := getD_set_eq hxl
  have hpo : ∀ {a}, a ∈ L.take k → (St.mk (s.at_.set x.reg.toNat q) (s.act ++ [x]) (s.free.set q false) s.sp).pl a = s.pl a := fun ha => getD_set_ne (hne ha)
  have hnq : ∀ a ∈ s.act, s.pl a ≠ (q : Int) := fun a ha e => by
   have := (h.act a ha).2.2.2
   rw [e, Int.toNat_natCast, hq] at this
   cases this
  refine ⟨by simpa using h.atl, by simpa using h.frl, by have := h.spk; show s.sp ≤ _; omega, fun a ha => ?_, ?_, fun q' hq' => ?_, fun r hr hn => ?_, fun a ha => ?_, fun a ha hpa => ?_, fun a ha b hb hab he => ?_, h.spill⟩
  ·rcases List.mem_append.1 ha with ha | ha
   ·obtain ⟨h1, h2, h3, h4⟩ := h.act a ha
    rw [hpo h1]
    refine ⟨hM.2 (.inl h1), h2, h3, ?_⟩
    show (s.free.set q false)[(s.pl a).toNat]? = _
    rw [List.getElem?_set, if_neg (fun e => hnq a ha (by omega))]
    exact h4
   ·obtain rfl := List.mem_singleton.1 ha
    rw [hpx]
    refine ⟨hM.2 (.inr rfl), by omega, by omega, ?_⟩
    show (s.free.set q false)[_]? = _
    rw [Int.toNat_natCast, List.getElem?_set, if_pos rfl, if_pos (by rw [h.frl]; exact hq10)]
  ·show (s.act ++ [x]).Pairwise _
   refine List.pairwise_append.2 ⟨?_, List.pairwise_singleton _ _, fun a ha b hb => ?_⟩
   ·refine h.actd.imp_of_mem fun {a b} ha hb hab => ?_
    rw [hpo (h.act a ha).1, hpo (h.act b hb).1]
    exact hab
   ·obtain rfl := List.mem_singleton.1 hb
    rw [hpo (h.act a ha).1, hpx]
    exact ⟨hL.fresh hk (h.act a ha).1, hnq a ha⟩
  ·have hq' : (s.free.set q false)[q']? = some false := hq'
   rw [List.getElem?_set] at hq'
   by_cases e : q = q'
   ·subst e
    exact ⟨x, by simp, hpx⟩
   ·rw [if_neg e] at hq'
    obtain ⟨a, ha, he⟩ := h.used q' hq'
    exact ⟨a, by simp [ha], by rw [hpo (h.act a ha).1]; exact he⟩
  ·show (s.at_.set x.reg.toNat _).getD r 0 = -1
   have h1 := hn x (hM.2 (.inr rfl))
   rw [getD_set_ne (by omega)]
   exact h.none r hr fun a ha => hn a (hM.2 (.inl ha))
  ·rcases hM.1 ha with ha | rfl
   ·rw [hpo ha]; exact h.done a ha
   ·rw [hpx]; show _ ∧ (q : Int) < 10 + (s.sp : Int); omega
  ·rcases hM.1 ha with ha | rfl
   ·rw [hpo ha] at hpa
    rcases hgone ha hpa with h1 | h1
    ·exact .inl (List.mem_append_left _ h1)
    ·exact .inr h1
   ·exact .inl (by simp)
  ·have key : ∀ a ∈ L.take k, s.pl a = (q : Int) → a.to_ < x.from_ := fun a ha e => by
    rcases hgone ha (by omega) with h1 | h1
    ·exact (hnq a h1 e).elim
    ·exact h1
   rcases hM.1 ha with ha | rfl <;> rcases hM.1 hb with hb | rfl
   ·rw [hpo ha, hpo hb] at he
    exact h.apart a ha b hb hab he
   ·rw [hpo ha, hpx] at he
    exact .inl (key a ha he)
   ·rw [hpo hb, hpx] at he
    exact .inr (key b hb he.symm)
   ·exact (hab rfl).elim
 ·obtain ⟨hom, hol⟩ : o ∈ s.act ∧ o ∈ L.take k := ⟨List.mem_of_getElem? hi, (h.act o (List.mem_of_getElem? hi)).1⟩
  obtain ⟨ho1, ho2, ho3, ho4⟩ := h.act o hom
  have hor := hreg hol
  have holl : o.reg.toNat < s.at_.length := by rw [h.atl]; omega
  have hoE := hE o hom
  let S : St := ⟨(s.at_.set x.reg.toNat (s.at_.getD o.reg.toNat 0)).set o.reg.toNat ((10 + s.sp : Nat) : Int), s.act.set i x, s.free, s.sp + 1⟩
  have hpx : S.pl x = s.pl o := by
   show ((s.at_.set _ _).set _ _).getD _ _ = _
   rw [getD_set_ne (fun e => hne hol e.symm), getD_set_eq hxl]
  have hpO : S.pl o = 10 + (s.sp : Int) := by
   show ((s.at_.set _ _).set _ _).getD _ _ = _
   rw [getD_set_eq (by simpa using holl)]
   omega
  have hpo : ∀ {a}, a ∈ L.take k → a ≠ o → S.pl a = s.pl a := fun {a} ha hao => by
   show ((s.at_.set _ _).set _ _).getD _ _ = _
   have h1 : a.reg ≠ o.reg := fun e => hao (hL.uniq (List.mem_of_mem_take ha) (List.mem_of_mem_take hol) e)
   have h2 := hreg ha
   rw [getD_set_ne (by omega), getD_set_ne (hne ha)]
  have hms : ∀ {a}, a ∈ S.act ↔ a = x ∨ (a ∈ s.act ∧ a ≠ o) := memset h.nodup hi
  have hpd : ∀ {a}, a ∈ s.act → a ≠ o → s.pl a ≠ s.pl o := fun {a} ha hao e => by
   obtain ⟨u, hu, hu2⟩ := List.mem_iff_getElem.1 ha
   obtain ⟨j, hj, hj2⟩ := List.mem_iff_getElem.1 hom
   have hp := List.pairwise_iff_getElem.1 h.actd
   rcases Nat.lt_trichotomy u j with hij | hij | hij
   ·have := (hp u j hu hj hij).2
    rw [hu2, hj2] at this
    exact this e
   ·subst hij; exact hao (by rw [← hu2, hj2])
   ·have := (hp j u hj hu hij).2
    rw [hu2, hj2] at this
    exact this e.symm
  have hdec : ∀ a : Sp, a = o ∨ a ≠ o := fun a => Classical.em _
  have h11 := h.eleven hL hk hE hb
  have res : Inv L R (k + 1) x.from_ S := by
   refine ⟨by simpa [S] using h.atl, h.frl, by have := h.spk; show s.sp + 1 ≤ _; omega, fun a ha => ?_, ?_, fun q' hq' => ?_, fun r hr hn => ?_, fun a ha => ?_, fun a ha hpa => ?_, fun a ha b hb hab he => ?_, fun _ => ⟨x.from_, h11⟩⟩
   ·rcases hms.1 ha with rfl | ⟨ha, hao⟩
    ·rw [hpx]
     exact ⟨hM.2 (.inr rfl), ho2, ho3, ho4⟩
    ·obtain ⟨h1, h2⟩ := h.act a ha
     rw [hpo h1 hao]
     exact ⟨hM.2 (.inl h1), h2⟩
   ·show (s.act.set i x).Pairwise _
    obtain ⟨hi1, hi2⟩ := List.getElem?_eq_some_iff.1 hi
    have hp := List.pairwise_iff_getElem.1 h.actd
    have hnd := h.nodup
    rw [List.nodup_iff_pairwise_ne, List.pairwise_iff_getElem] at hnd
    refine List.pairwise_iff_getElem.2 fun j l hj hl hjl => ?_
    rw [List.length_set] at hj hl
    rw [List.getElem_set, List.getElem_set]
    have hne' : ∀ {j} (hj : j < s.act.length), i ≠ j → s.act[j] ≠ o := fun {j} hj hij e => by
     rcases Nat.lt_trichotomy i j with h | h | h
     ·exact hnd i j hi1 hj h (by rw [hi2, e])
     ·exact hij h
     ·exact hnd j i hj hi1 h (by rw [hi2, e])
    by_cases h1 : i = j
    ·rw [if_pos h1, if_neg (by omega)]
     have hm := List.getElem_mem hl
     have hn := hne' hl (by omega)
     rw [hpx, hpo (h.act _ hm).1 hn]
     exact ⟨fun e => hL.fresh hk (h.act _ hm).1 e.symm, fun e => hpd hm hn e.symm⟩
    ·rw [if_neg h1]
     have hmj := List.getElem_mem hj
     have hnj := hne' hj h1
     by_cases h2 : i = l
     ·rw [if_pos h2, hpx, hpo (h.act _ hmj).1 hnj]
      exact ⟨hL.fresh hk (h.act _ hmj).1, hpd hmj hnj⟩
     ·rw [if_neg h2]
      have hml := List.getElem_mem hl
      have hnl := hne' hl h2
      rw [hpo (h.act _ hmj).1 hnj, hpo (h.act _ hml).1 hnl]
      exact hp j l hj hl hjl
   ·obtain ⟨a, ha, he⟩ := h.used q' hq'
    rcases hdec a with rfl | hao
    ·exact ⟨x, hms.2 (.inl rfl), by rw [hpx]; exact he⟩
    ·exact ⟨a, hms.2 (.inr ⟨ha, hao⟩), by rw [hpo (h.act a ha).1 hao]; exact he⟩
   ·show ((s.at_.set _ _).set _ _).getD r 0 = -1
    have h1 := hn x (hM.2 (.inr rfl))
    have h2 := hn o (hM.2 (.inl hol))
    rw [getD_set_ne (by omega), getD_set_ne (by omega)]
    exact h.none r hr fun a ha => hn a (hM.2 (.inl ha))
   ·have hsp : (S.sp : Int) = (s.sp : Int) + 1 := by show ((s.sp + 1 : Nat) : Int) = _; omega
    rw [hsp]
    rcases hM.1 ha with ha | rfl
    ·rcases hdec a with rfl | hao
     ·rw [hpO]; omega
     ·rw [hpo ha hao]
      have := h.done a ha
      omega
    ·rw [hpx]; omega
   ·rcases hM.1 ha with ha | rfl
    ·rcases hdec a with rfl | hao
     ·rw [hpO] at hpa; omega
     ·rw [hpo ha hao] at hpa
      rcases hgone ha hpa with h1 | h1
      ·exact .inl (hms.2 (.inr ⟨h1, hao⟩))
      ·exact .inr h1
    ·exact .inl (hms.2 (.inl rfl))
   ·have key : ∀ b ∈ L.take k, b ≠ o → s.pl b = s.pl o → b.to_ < x.from_ := fun b hb hbo e => by
     have h1 : b.reg ≠ o.reg := fun e => hbo (hL.uniq (List.mem_of_mem_take hb) (List.mem_of_mem_take hol) e)
     have h2 := hL.le hk hb
     have h3 := hL.le hk hol
     rcases h.apart b hb o hol h1 e with h4 | h4 <;> omega
    have hlt2 : ∀ b ∈ L.take k, s.pl b ≠ 10 + (s.sp : Int) := fun b hb => by have := h.done b hb; omega
    rcases hM.1 ha with ha | rfl <;> rcases hM.1 hb with hb | rfl
    ·rcases hdec a with rfl | hao <;> rcases hdec b with rfl | hbo
     ·exact (hab rfl).elim
     ·rw [hpO, hpo hb hbo] at he
      exact (hlt2 b hb he.symm).elim
     ·rw [hpO, hpo ha hao] at he
      exact (hlt2 a ha he).elim
     ·rw [hpo ha hao, hpo hb hbo] at he
      exact h.apart a ha b hb hab he
    ·rw [hpx] at he
     rcases hdec a with rfl | hao
     ·rw [hpO] at he; omega
     ·rw [hpo ha hao] at he
      exact .inl (key a ha hao he)
    ·rw [hpx] at he
     rcases hdec b with rfl | hbo
     ·rw [hpO] at he; omega
     ·rw [hpo hb hbo] at he
      exact .inr (key b hb hbo he.symm)
    ·exact (hab rfl).elim
  exact res
 ·let S : St := ⟨s.at_.set x.reg.toNat ((10 + s.sp : Nat) : Int), s.act, s.free, s.sp + 1⟩
  have hpx : S.pl x = 10 + (s.sp : Int) := by
   show (s.at_.set _ _).getD _ _ = _
   rw [getD_set_eq hxl]
   omega
  have hpo : ∀ {a}, a ∈ L.take k → S.pl a = s.pl a := fun ha => getD_set_ne (hne ha)
  have h11 := h.eleven hL hk hE hb
  have hlt : ∀ b ∈ L.take k, s.pl b ≠ 10 + (s.sp : Int) := fun b hb => by have := h.done b hb; omega
  have res : Inv L R (k + 1) x.from_ S := by
   refine ⟨by simpa [S] using h.atl, h.frl, by have := h.spk; show s.sp + 1 ≤ _; omega, fun a ha => ?_, ?_, fun q' hq' => ?_, fun r hr hn => ?_, fun a ha => ?_, fun a ha hpa => ?_, fun a ha b hb hab he => ?_, fun _ => ⟨x.from_, h11⟩⟩
   ·obtain ⟨h1, h2⟩ := h.act a ha
    rw [hpo h1]
    exact ⟨hM.2 (.inl h1), h2⟩
   ·refine h.actd.imp_of_mem fun {a b} ha hb hab => ?_
    rw [hpo (h.act a ha).1, hpo (h.act b hb).1]
    exact hab
   ·obtain ⟨a, ha, he⟩ := h.used q' hq'
    exact ⟨a, ha, by rw [hpo (h.act a ha).1]; exact he⟩
   ·show (s.at_.set _ _).getD r 0 = -1
    have h1 := hn x (hM.2 (.inr rfl))
    rw [getD_set_ne (by omega)]
    exact h.none r hr fun a ha => hn a (hM.2 (.inl ha))
   ·have hsp : (S.sp : Int) = (s.sp : Int) + 1 := by show ((s.sp + 1 : Nat) : Int) = _; omega
    rw [hsp]
    rcases hM.1 ha with ha | rfl
    ·rw [hpo ha]
     have := h.done a ha
     omega
    ·rw [hpx]; omega
   ·rcases hM.1 ha with ha | rfl
    ·rw [hpo ha] at hpa
     exact hgone ha hpa
    ·rw [hpx] at hpa; omega
   ·rcases hM.1 ha with ha | rfl <;> rcases hM.1 hb with hb | rfl
    ·rw [hpo ha, hpo hb] at he
     exact h.apart a ha b hb hab he
    ·rw [hpo ha, hpx] at he
     exact (hlt a ha he).elim
    ·rw [hpo hb, hpx] at he
     exact (hlt b hb he.symm).elim
    ·exact (hab rfl).elim
  exact res
end
end
section
section
variable {f : TFunc} {R : Nat}
def As (f : TFunc) (R : Nat) (m : Tregs_Map) : Prop :=
 ∃ (L : List Sp) (cur : Int) (s : St), Gr (Tc f f.code.length) L ∧ Sps L R ∧ Inv L R L.length cur s ∧ m = ⟨s.at_, (s.sp : Int)⟩ ∧ L.length ≤ R
theorem sps_of (y : Hy f R) {l : List Sp} (g : Gr (Tc f f.code.length) l) (h : ∀ (i : Nat) a b, l[i]? = some a → l[i + 1]? = some b → le a b) : Sps l R := by
 refine ⟨y.glen g (fun r k ht => (y.tc ht).1), g.nd, fun i j a b hij ha hb => ?_, fun a ha => (y.tc (g.sound a ha).1).1, fun a ha => ?_⟩
 ·have key : ∀ (d i : Nat) (a b : Sp), l[i]? = some a → l[i + d]? = some b → a.from_ ≤ b.from_ := by
   intro d
   induction d with
   | zero =>
    intro i a b ha hb
    rw [Nat.add_zero, ha] at hb
    cases hb
    exact Int.le_refl _
   | succ d ih =>
    intro i a b ha hb
    obtain ⟨hb1, hb2⟩ := List.getElem?_eq_some_iff.1 hb
    have h1 : i + d < l.length := by omega
    have h2 := ih i a _ ha (List.getElem?_eq_getElem h1)
    have h3 := h (i + d) _ _ (List.getElem?_eq_getElem h1) (by rw [Nat.add_assoc]; exact hb)
    rcases h3 with h3 | ⟨h3, _⟩ <;> omega
  have := key (j - i) i a b ha (by rw [show i + (j - i) = j by omega]; exact hb)
  exact this
 ·obtain ⟨t, ht, h1, h2, h3⟩ := g.full a.reg a.from_ (g.sound a ha).1
  obtain ⟨u, hu, h4, h5, h6⟩ := g.full a.reg a.to_ (g.sound a ha).2
  have e : ∀ b ∈ l, b.reg = a.reg → b = a := fun b hb e => by
   obtain ⟨i, hi, rfl⟩ := List.mem_iff_getElem.1 ha
   obtain ⟨j, hj, rfl⟩ := List.mem_iff_getElem.1 hb
   have hp := List.pairwise_iff_getElem.1 g.nd
   rcases Nat.lt_trichotomy i j with h | h | h
   ·exact (hp i j hi hj h e.symm).elim
   ·subst h; rfl
   ·exact (hp j i hj hi h e).elim
  have := e t ht h1
  subst this
  exact h3
theorem fill_is {α : Type} (z : α) (n : Nat) (xs : List α) (h : xs.length = n) {k : Nat} (hk : k ≤ n) : (List.replicate k z ++ xs.drop k).length = n := by
 rw [List.length_append, List.length_replicate, List.length_drop]; omega
theorem fill_succ {α : Type} (z : α) (xs : List α) {k : Nat} (hk : k < xs.length) : (List.replicate k z ++ xs.drop k).set k z = List.replicate (k + 1) z ++ xs.drop (k + 1) := by
 rw [List.set_append_right _ _ (by simp), List.length_replicate, Nat.sub_self, List.drop_eq_getElem_cons hk, List.set_cons_zero, List.replicate_succ', List.append_assoc]
 rfl
theorem inv0 (L : List Sp) (R : Nat) (cur : Int) : Inv L R 0 cur ⟨List.replicate R (-1), [], List.replicate 10 true, 0⟩ := by
 refine ⟨by simp, by simp, by simp, fun a ha => (by cases ha), .nil, fun q hq => ?_, fun r hr _ => ?_, fun a ha => (by simp at ha), fun a ha => (by simp at ha), fun a ha => (by simp at ha), fun h => (by simp at h)⟩
 ·rw [List.getElem?_replicate] at hq
  split at hq <;> cases hq
 ·show (List.replicate R (-1 : Int)).getD r 0 = -1
  rw [List.getD_eq_getElem?_getD, List.getElem?_replicate, if_pos hr]; rfl
theorem Inv.alen {L : List Sp} {k : Nat} {cur : Int} {s : St} (h : Inv L R k cur s) (hL : Sps L R) : s.act.length ≤ 1000 := by
 letI : DecidableEq Sp := fun a b => Classical.propDecidable _
 have := nodup_le s.act L h.nodup (fun a ha => List.mem_of_mem_take (h.act a ha).1)
 have := hL.len
 omega
theorem Assign_is (y : Hy f R) : Ok (regs_Assign f) (As f R) := by
 have hR := y.hR
 unfold regs_Assign
 have e : max f.regs 0 = (R : Int) := by rw [y.reg]; omega
 rw [e, mk_some (by omega)]
 simp only [Option.bind_some]
 rw [show (10 : Int) = ((10 : Nat) : Int) from rfl, mk_some (by omega)]
 simp only [Option.bind_some]
 unfold regs_Assign_l1
 refine Ok.loop (B := fun s => regs_Assign_l1b f (List.replicate R 0) (List.replicate 10 false) s.1 s.2) (fun k s => s = (List.replicate k (-1) ++ (List.replicate R (0 : Int)).drop k, (k : Int))) R (fun k s hk hs => ?_) (fun s hs => ?_) rfl
 ·subst hs
  show Ok (regs_Assign_l1b f (List.replicate R 0) (List.replicate 10 false) (List.replicate k (-1) ++ (List.replicate R (0 : Int)).drop k) k) _
  unfold regs_Assign_l1b
  have hl : (List.replicate k (-1 : Int) ++ (List.replicate R (0 : Int)).drop k).length = R := fill_is _ _ _ (by simp) (by omega)
  rw [if_pos (by simp; omega), ix_some (by omega)]
  simp only [Option.bind_some]
  refine .ret ?_
  show _ = _
  rw [Int.toNat_natCast, fill_succ _ _ (by simpa using hk), w64_succ (by omega)]
 ·subst hs
  show Ok (regs_Assign_l1b f (List.replicate R 0) (List.replicate 10 false) (List.replicate R (-1) ++ (List.replicate R (0 : Int)).drop R) R) _
  unfold regs_Assign_l1b
  rw [if_neg (by simp)]
  refine .map ?_
  rw [List.drop_of_length_le (by simp), List.append_nil]
  unfold regs_Assign_l2
  refine Ok.loop (B := fun s => regs_Assign_l2b f (List.replicate 10 false) (List.replicate R (-1)) s.1 s.2) (fun k s => s = (List.replicate k true ++ (List.replicate 10 false).drop k, (k : Int))) 10 (fun k s hk hs => ?_) (fun s hs => ?_) rfl
  ·subst hs
   show Ok (regs_Assign_l2b f (List.replicate 10 false) (List.replicate R (-1)) (List.replicate k true ++ (List.replicate 10 false).drop k) k) _
   unfold regs_Assign_l2b
   have hl : (List.replicate k true ++ (List.replicate 10 false).drop k).length = 10 := fill_is _ _ _ (by simp) (by omega)
   rw [if_pos (by simp; omega), ix_some (by omega)]
   simp only [Option.bind_some]
   refine .ret ?_
   show _ = _
   rw [Int.toNat_natCast, fill_succ _ _ (by simpa using hk), w64_succ (by omega)]
  ·subst hs
   show Ok (regs_Assign_l2b f (List.replicate 10 false) (List.replicate R (-1)) (List.replicate 10 true ++ (List.replicate 10 false).drop 10) (10 : Nat)) _
   unfold regs_Assign_l2b
   rw [if_neg (by simp)]
   refine .map ?_
   rw [List.drop_of_length_le (by simp), List.append_nil]
   refine (Spans_is y).bind fun L hL => ?_
   obtain ⟨g, hle⟩ := hL
   have hS := sps_of y g hle
   have hlen := g.len (fun r k ht => (y.tc ht).1)
   unfold regs_Assign_l3
   refine loop_for (B := fun s => regs_Assign_l3b L s.1 s.2.1 s.2.2.1 s.2.2.2.1 s.2.2.2.2) L (fun k s => ∃ (t : St) (cur : Int), s = (t.at_, t.act, t.free, (t.sp : Int), (k : Int)) ∧ Inv L R k cur t ∧ ∀ (j : Nat) b, k ≤ j → L[j]? = some b → cur ≤ b.from_) (fun k x s hk' hk hs => ?_) (fun s hs => ?_)
    ⟨⟨List.replicate R (-1), [], List.replicate 10 true, 0⟩, 0, rfl, inv0 L R 0, fun j b _ hb => (y.tc (g.sound b (List.mem_of_getElem? hb)).1).2.1⟩
   ·obtain ⟨t, cur, rfl, ht, hc⟩ := hs
    show Ok (regs_Assign_l3b L t.at_ t.act t.free t.sp k) _
    unfold regs_Assign_l3b
    rw [if_pos (by simp; omega), ix_nat, hk]
    simp only [Option.bind_some]
    have hc0 := hc k x (Nat.le_refl _) hk
    have h1 := ht.expire hS (fr := x.from_) hc0
    rw [expire_is ht.frl t.act (ht.alen hS) (ht.has hS)]
    simp only [Option.bind_some]
    have hE : ∀ a ∈ t.act.filter (fun a => !ex x.from_ a), x.from_ ≤ a.to_ := fun a ha => by
     rw [List.mem_filter] at ha
     have := ha.2
     unfold ex at this
     simp at this
     exact this
    refine (put_is ⟨t.at_, t.act.filter (fun a => !ex x.from_ a), t.act.foldl (ef t.at_ x.from_) t.free, t.sp⟩ x h1.frl ?_ (h1.alen hS) (h1.has hS) (fun hb e => ?_) (by have := h1.spk; have := hS.len; show t.sp ≤ 1000; have h1 : t.sp ≤ k := h1.spk; omega)).bind fun r hr => ?_
    ·have := hS.reg x (List.mem_of_getElem? hk)
     exact ⟨this.1, by rw [h1.atl]; exact this.2⟩
    ·have := h1.ten hb
     rw [e] at this
     simp at this
    ·obtain ⟨s', rfl, hp⟩ := hr
     refine .ret ⟨s', x.from_, ?_, h1.put hS hk hE (Int.le_refl _) hp, fun j b hj hb => ?_⟩
     ·show _ = _
      rw [w64_succ (by have := hS.len; omega)]
      rfl
     ·exact hS.srt k j x b (by omega) hk hb
   ·obtain ⟨t, cur, rfl, ht, hc⟩ := hs
    show Ok (regs_Assign_l3b L t.at_ t.act t.free t.sp _) _
    unfold regs_Assign_l3b
    rw [if_neg (by simp)]
    exact .map (.ret ⟨L, cur, t, g, hS, ht, rfl, hlen⟩)
end
end
end Go.Vm.G13s
