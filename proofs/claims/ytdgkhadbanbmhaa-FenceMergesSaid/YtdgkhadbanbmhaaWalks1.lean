/-
  What the functions that the law calls compute, each proved for all inputs that its theorem names.
-/
import Derived.Test.YtdgkhadbanbmhaaVm25
import Derived.Test.YtdgkhadbanbmhaaVm24
import Derived.Test.YtdgkhadbanbmhaaProg
set_option linter.unusedSimpArgs false
set_option linter.unusedVariables false
namespace Go.Vm.S12
open Go Go.Proofs


def cnt1 (l : List Ins) (lb : Int) : Nat := (l.filter fun i => decide (i.op = 11) && decide (i.imm = lb)).length
theorem cnt1_snoc (l : List Ins) (i : Nat) (x : Ins) (lb : Int) (h : l[i]? = some x) : cnt1 (l.take (i + 1)) lb = cnt1 (l.take i) lb + if x.op = 11 ∧ x.imm = lb then 1 else 0 := by
  have : l.take (i + 1) = l.take i ++ [x] := by
    rw [List.take_add_one, h]; rfl
  unfold cnt1
  rw [this, List.filter_append, List.length_append]
  by_cases h1 : x.op = 11 <;> by_cases h2 : x.imm = lb <;> simp [h1, h2]
theorem cnt1_le (l : List Ins) (lb : Int) : cnt1 l lb ≤ l.length := List.length_filter_le _ _
def fenceI (k : Int) : Ins := ⟨21, -1, -1, -1, k, [], 0, false, false⟩
def acqI (r : Int) : Ins := ⟨21, -1, r, -1, 3, [], 0, false, false⟩
def syncI : Ins := ⟨21, -1, -1, -1, 1, [], 0, false, false⟩
def lwI : Ins := ⟨21, -1, -1, -1, 2, [], 0, false, false⟩
def frozen (x : Ins) (o : Opt) : List Ins := if x.imm = 1 ∧ o.bare = true then [] else [lwI]
def ahead (x : Ins) (o : Opt) : List Ins :=
  if x.op = 9 ∧ x.vol = true ∧ o.naive = false then [syncI]
  else if x.op = 10 ∧ x.vol = true ∧ o.naive = true then [lwI]
  else if (x.op = 10 ∧ x.vol = true) ∨ x.op = 18 ∨ x.op = 19 then [syncI]
  else []
def behind (x : Ins) (o : Opt) : List Ins :=
  if x.op = 9 ∧ x.vol = true ∧ o.naive = true then [lwI]
  else if x.op = 9 ∧ x.vol = true then [acqI x.d]
  else if x.op = 10 ∧ x.vol = true ∧ o.naive = true then [syncI]
  else []
def plain (x : Ins) : Bool := decide (x.op = 21) && (decide (x.imm = 1) || decide (x.imm = 2))
def mstep (out : List Ins) (x : Ins) : List Ins :=
  match out[((out.length : Int) - 1).toNat]? with
  | some y => if plain x = true ∧ plain y = true then out.set ((out.length : Int) - 1).toNat { y with imm := min y.imm x.imm } else out ++ [x]
  | none => out ++ [x]
theorem mstep_a {out : List Ins} {x : Ins} (h : out.length = 0) : mstep out x = out ++ [x] := by
  unfold mstep
  rw [List.length_eq_zero_iff.1 h]
  rfl
theorem mstep_b {out : List Ins} {x : Ins} (h : plain x = false) : mstep out x = out ++ [x] := by
  unfold mstep
  split
  · rw [if_neg (by simp [h])]
  · rfl
theorem mstep_c {out : List Ins} {x y : Ins} (h : out[((out.length : Int) - 1).toNat]? = some y) (h1 : plain y = false) : mstep out x = out ++ [x] := by
  unfold mstep
  rw [h]
  simp [h1]
theorem mstep_d {out : List Ins} {x y : Ins} (h : out[((out.length : Int) - 1).toNat]? = some y) (h0 : plain x = true) (h1 : plain y = true) : mstep out x = out.set ((out.length : Int) - 1).toNat { y with imm := min y.imm x.imm } := by
  unfold mstep
  rw [h]
  simp [h0, h1]
def merge (code : List Ins) : List Ins := code.foldl mstep []
theorem merge_snoc (code : List Ins) (i : Nat) (x : Ins) (h : code[i]? = some x) : merge (code.take (i + 1)) = mstep (merge (code.take i)) x := by
  have : code.take (i + 1) = code.take i ++ [x] := by
    rw [List.take_add_one, h]; rfl
  unfold merge
  rw [this, List.foldl_append]
  rfl
theorem mstep_le (out : List Ins) (x : Ins) : (mstep out x).length ≤ out.length + 1 := by
  unfold mstep
  split
  · split <;> simp
  · simp
theorem merge_le (code : List Ins) : (merge code).length ≤ code.length := by
  have key : ∀ (l acc : List Ins), (l.foldl mstep acc).length ≤ acc.length + l.length := by
    intro l
    induction l with
    | nil => intro acc; simp
    | cons x l ih =>
      intro acc
      rw [List.foldl_cons, List.length_cons]
      have := ih (mstep acc x)
      have := mstep_le acc x
      omega
  simpa [merge] using key code []
def fstep (o : Opt) (x : Ins) : List Ins := if x.op = 22 then frozen x o else ahead x o ++ [x] ++ behind x o
def fenced (f : Fn) (o : Opt) : List Ins := if o.merged = true then merge (f.code.flatMap (fstep o)) else f.code.flatMap (fstep o)
def fencedF (o : Opt) (f : Fn) : Fn := ⟨f.name, f.params, f.regs, fenced f o⟩
theorem map_snoc {α β : Type} (g : α → β) (l : List α) (i : Nat) (x : α) (h : l[i]? = some x) : (l.take (i + 1)).map g = (l.take i).map g ++ [g x] := by
  have : l.take (i + 1) = l.take i ++ [x] := by
    rw [List.take_add_one, h]; rfl
  rw [this, List.map_append]
  rfl
theorem alive_fenced : fenced ⟨ByteArray.empty, 0, 1, [⟨9, 0, -1, -1, 0, [], 0, true, false⟩]⟩ ⟨false, false, false⟩ = [syncI, ⟨9, 0, -1, -1, 0, [], 0, true, false⟩, acqI 0] := rfl
theorem flat_snoc {α β : Type} (g : α → List β) (l : List α) (i : Nat) (x : α) (h : l[i]? = some x) : (l.take (i + 1)).flatMap g = (l.take i).flatMap g ++ g x := by
  have : l.take (i + 1) = l.take i ++ [x] := by
    rw [List.take_add_one, h]; rfl
  rw [this, List.flatMap_append]
  simp
theorem frozen_le (x : Ins) (o : Opt) : (frozen x o).length ≤ 1 := by unfold frozen; split <;> simp
theorem ahead_le (x : Ins) (o : Opt) : (ahead x o).length ≤ 1 := by unfold ahead; split <;> (try split) <;> (try split) <;> simp
theorem behind_le (x : Ins) (o : Opt) : (behind x o).length ≤ 1 := by unfold behind; split <;> (try split) <;> (try split) <;> simp
theorem fstep_le (o : Opt) (x : Ins) : (fstep o x).length ≤ 3 := by
  unfold fstep
  have := frozen_le x o; have := ahead_le x o; have := behind_le x o
  split <;> simp <;> omega
theorem flat_le (o : Opt) (l : List Ins) : (l.flatMap (fstep o)).length ≤ 3 * l.length := by
  induction l with
  | nil => simp
  | cons x l ih => rw [List.flatMap_cons, List.length_append, List.length_cons]; have := fstep_le o x; omega
theorem any_snoc {α : Type} (p : α → Bool) (l : List α) (i : Nat) (x : α) (h : l[i]? = some x) : (l.take (i + 1)).any p = ((l.take i).any p || p x) := by
  have : l.take (i + 1) = l.take i ++ [x] := by
    rw [List.take_add_one, h]; rfl
  rw [this, List.any_append]
  simp
def greatM (m : Mod) : Bool := m.funcs.any (fun f : Fn => decide (60 < (f.code.length : Int))) || decide (6 < (m.funcs.length : Int)) || decide (10 < (m.threads.length : Int))
theorem greatM_hit (m : Mod) (i : Nat) (x : Fn) (h : m.funcs[i]? = some x) (hx : 60 < (x.code.length : Int)) : greatM m = true := by
  unfold greatM
  have : m.funcs.any (fun f : Fn => decide (60 < (f.code.length : Int))) = true := List.any_eq_true.2 ⟨x, List.mem_of_getElem? h, by simpa using hx⟩
  rw [this]; rfl
def cntF (l : List Ins) (k : Int) : Nat := (l.filter fun x => decide (x.op = 21) && decide (x.imm = k)).length
theorem cntF_le (l : List Ins) (k : Int) : cntF l k ≤ l.length := List.length_filter_le _ _
theorem cntF_snoc (l : List Ins) (i : Nat) (x : Ins) (k : Int) (h : l[i]? = some x) : cntF (l.take (i + 1)) k = cntF (l.take i) k + if x.op = 21 ∧ x.imm = k then 1 else 0 := by
  have : l.take (i + 1) = l.take i ++ [x] := by
    rw [List.take_add_one, h]; rfl
  unfold cntF
  rw [this, List.filter_append, List.length_append]
  by_cases h1 : x.op = 21 <;> by_cases h2 : x.imm = k <;> simp [h1, h2]
def cntM (l : List Fn) (k : Int) : Nat := (l.map fun f => cntF f.code k).sum
theorem cntM_snoc (l : List Fn) (i : Nat) (x : Fn) (k : Int) (h : l[i]? = some x) : cntM (l.take (i + 1)) k = cntM (l.take i) k + cntF x.code k := by
  have : l.take (i + 1) = l.take i ++ [x] := by
    rw [List.take_add_one, h]; rfl
  unfold cntM
  rw [this, List.map_append, List.sum_append]
  simp
theorem cntM_le (l : List Fn) (k : Int) (h : ∀ f ∈ l, f.code.length ≤ 1000000) : cntM l k ≤ l.length * 1000000 := by
  induction l with
  | nil => simp [cntM]
  | cons x l ih =>
    have h1 := ih (fun f hf => h f (by simp [hf]))
    have h2 := h x (by simp)
    have h3 := cntF_le x.code k
    have : cntM (x :: l) k = cntF x.code k + cntM l k := by simp [cntM]
    rw [this, List.length_cons]
    omega
theorem plain_min {x y : Ins} (hx : plain x = true) (hy : plain y = true) : plain { y with imm := min y.imm x.imm } = true := by
  simp only [plain, Bool.and_eq_true, Bool.or_eq_true, decide_eq_true_eq] at hx hy ⊢
  refine ⟨hy.1, ?_⟩
  omega
def adj (l : List Ins) : Prop := ∀ (i : Nat) (x y : Ins), l[i]? = some x → l[i + 1]? = some y → plain x = true → plain y = true → False
theorem adj_app {l : List Ins} {x : Ins} (h : adj l) (hl : ∀ y, l[l.length - 1]? = some y → plain y = true → plain x = true → False) : adj (l ++ [x]) := by
  intro i a b ha hb pa pb
  by_cases h1 : i + 1 < l.length
  · rw [List.getElem?_append_left (by omega)] at ha
    rw [List.getElem?_append_left h1] at hb
    exact h i a b ha hb pa pb
  · by_cases h2 : i + 1 = l.length
    · rw [List.getElem?_append_left (by omega)] at ha
      rw [List.getElem?_append_right (by omega), h2, Nat.sub_self] at hb
      simp at hb
      subst hb
      exact hl a (by rw [← h2]; exact ha) pa pb
    · rw [List.getElem?_append_right (by omega)] at hb
      rw [List.getElem?_eq_none (by simp; omega)] at hb
      cases hb
theorem adj_set {l : List Ins} {i : Nat} {x y : Ins} (h : adj l) (hi : l[i]? = some x) (hxy : plain y = plain x) : adj (l.set i y) := by
  have key : ∀ (j : Nat) (a : Ins), (l.set i y)[j]? = some a → ∃ b, l[j]? = some b ∧ plain b = plain a := by
    intro j a ha
    by_cases hj : i = j
    · subst hj
      rw [List.getElem?_set_self (List.getElem?_eq_some_iff.1 hi).1] at ha
      cases ha
      exact ⟨x, hi, hxy.symm⟩
    · rw [List.getElem?_set_ne hj] at ha
      exact ⟨a, ha, rfl⟩
  intro j a b ha hb pa pb
  obtain ⟨a', h1, h2⟩ := key j a ha
  obtain ⟨b', h3, h4⟩ := key (j + 1) b hb
  exact h j a' b' h1 h3 (h2.trans pa) (h4.trans pb)
theorem toNat_pred (n : Nat) : ((n : Int) - 1).toNat = n - 1 := by omega
theorem mstep_adj {l : List Ins} {x : Ins} (h : adj l) : adj (mstep l x) := by
  unfold mstep
  rw [toNat_pred]
  split
  · rename_i y hy
    split
    · rename_i hp
      exact adj_set h hy ((plain_min hp.1 hp.2).trans hp.2.symm)
    · rename_i hp
      refine adj_app h (fun z hz pz px => ?_)
      rw [hy] at hz
      cases hz
      exact hp ⟨px, pz⟩
  · rename_i hy
    exact adj_app h (fun z hz pz px => by rw [hy] at hz; cases hz)
theorem merge_adj (l : List Ins) : adj (merge l) := by
  have key : ∀ (l acc : List Ins), adj acc → adj (l.foldl mstep acc) := by
    intro l
    induction l with
    | nil => intro acc h; exact h
    | cons x l ih => intro acc h; exact ih _ (mstep_adj h)
  exact key l [] (fun i x y hx => by simp at hx)
def cntP (l : List Ins) : Nat := (l.filter plain).length
theorem cnt_plain (l : List Ins) : cntF l 1 + cntF l 2 = cntP l := by
  induction l with
  | nil => rfl
  | cons x l ih =>
    unfold cntF cntP at *
    simp only [List.filter_cons, plain]
    by_cases h1 : x.op = 21 <;> by_cases h2 : x.imm = 1 <;> by_cases h3 : x.imm = 2 <;> simp [h1, h2, h3] <;> first | omega | (simp_all [plain]; omega) | skip
theorem filter_set {p : Ins → Bool} {x y : Ins} (hxy : p y = p x) : ∀ (l : List Ins) (i : Nat), l[i]? = some x → ((l.set i y).filter p).length = (l.filter p).length := by
  intro l
  induction l with
  | nil => intro i h; simp at h
  | cons z l ih =>
    intro i h
    cases i with
    | zero => simp at h; subst h; simp [List.filter_cons, hxy]; split <;> simp
    | succ i => have := ih i (by simpa using h); simp [List.filter_cons]; split <;> simp [this]
theorem mstep_cntP (l : List Ins) (x : Ins) : cntP (mstep l x) ≤ cntP l + cntP [x] := by
  unfold mstep
  split
  · rename_i y hy
    split
    · rename_i hp
      have := filter_set (p := plain) ((plain_min hp.1 hp.2).trans hp.2.symm) l _ hy
      unfold cntP
      omega
    · unfold cntP; rw [List.filter_append, List.length_append]; omega
  · unfold cntP; rw [List.filter_append, List.length_append]; omega
theorem mstep_cnt3 (l : List Ins) (x : Ins) : cntF (mstep l x) 3 = cntF l 3 + cntF [x] 3 := by
  have hpl : ∀ z : Ins, plain z = true → (decide (z.op = 21) && decide (z.imm = 3)) = false := by
    intro z hz
    simp only [plain, Bool.and_eq_true, Bool.or_eq_true, decide_eq_true_eq] at hz
    simp; intro _; omega
  unfold mstep
  split
  · rename_i y hy
    split
    · rename_i hp
      have h1 := filter_set (p := fun z : Ins => decide (z.op = 21) && decide (z.imm = 3)) (x := y) (y := { y with imm := min y.imm x.imm }) ((hpl _ (plain_min hp.1 hp.2)).trans (hpl _ hp.2).symm) l _ hy
      have h2 : cntF [x] 3 = 0 := by unfold cntF; rw [List.filter_cons, hpl x hp.1]; rfl
      rw [h2]
      exact h1
    · unfold cntF; rw [List.filter_append, List.length_append]
  · unfold cntF; rw [List.filter_append, List.length_append]
theorem merge_cnt (l : List Ins) : cntP (merge l) ≤ cntP l ∧ cntF (merge l) 3 = cntF l 3 := by
  have key : ∀ (l acc : List Ins), cntP (l.foldl mstep acc) ≤ cntP acc + cntP l ∧ cntF (l.foldl mstep acc) 3 = cntF acc 3 + cntF l 3 := by
    intro l
    induction l with
    | nil => intro acc; simp [cntP, cntF]
    | cons x l ih =>
      intro acc
      rw [List.foldl_cons]
      have h1 := ih (mstep acc x)
      have h2 := mstep_cntP acc x
      have h3 := mstep_cnt3 acc x
      have h4 : cntP (x :: l) = cntP [x] + cntP l := by
        rw [show x :: l = [x] ++ l from rfl]; unfold cntP; rw [List.filter_append, List.length_append]
      have h5 : cntF (x :: l) 3 = cntF [x] 3 + cntF l 3 := by
        rw [show x :: l = [x] ++ l from rfl]; unfold cntF; rw [List.filter_append, List.length_append]
      omega
  have := key l []
  simpa [cntP, cntF, merge] using this
theorem greatM_small (m : Mod) (h : greatM m = false) : (∀ f ∈ m.funcs, f.code.length ≤ 60) ∧ m.funcs.length ≤ 6 ∧ m.threads.length ≤ 10 := by
  unfold greatM at h
  simp only [Bool.or_eq_false_iff, decide_eq_false_iff_not, List.any_eq_false] at h
  obtain ⟨⟨h1, h2⟩, h3⟩ := h
  refine ⟨fun f hf => ?_, by omega, by omega⟩
  have := h1 f hf
  simp at this
  omega
theorem fenced_len (f : Fn) (o : Opt) : (fenced f o).length ≤ 3 * f.code.length := by
  unfold fenced
  have := flat_le o f.code
  have := merge_le (f.code.flatMap (fstep o))
  split <;> omega
theorem fenced_small (m : Mod) (h : ∀ f ∈ m.funcs, f.code.length ≤ 60) (o : Opt) : ∀ f ∈ m.funcs.map (fencedF o), f.code.length ≤ 1000000 := by
  intro f hf
  obtain ⟨g, hg, rfl⟩ := List.mem_map.1 hf
  have := h g hg
  have := fenced_len g o
  show (fenced g o).length ≤ 1000000
  omega
theorem cnt_mod (l : List Fn) (n b : Bool) : cntM (l.map (fencedF ⟨n, b, true⟩)) 1 + cntM (l.map (fencedF ⟨n, b, true⟩)) 2 ≤ cntM (l.map (fencedF ⟨n, b, false⟩)) 1 + cntM (l.map (fencedF ⟨n, b, false⟩)) 2 ∧ cntM (l.map (fencedF ⟨n, b, true⟩)) 3 = cntM (l.map (fencedF ⟨n, b, false⟩)) 3 := by
  induction l with
  | nil => simp [cntM]
  | cons x l ih =>
    have e : ∀ (o : Opt) (k : Int), cntM ((x :: l).map (fencedF o)) k = cntF (fenced x o) k + cntM (l.map (fencedF o)) k := fun o k => by simp [cntM, fencedF]
    have h := merge_cnt (x.code.flatMap (fstep ⟨n, b, false⟩))
    have h1 : fenced x ⟨n, b, true⟩ = merge (x.code.flatMap (fstep ⟨n, b, false⟩)) := rfl
    have h2 : fenced x ⟨n, b, false⟩ = x.code.flatMap (fstep ⟨n, b, false⟩) := rfl
    have h3 := cnt_plain (fenced x ⟨n, b, true⟩)
    have h4 := cnt_plain (fenced x ⟨n, b, false⟩)
    rw [e, e, e, e, e, e]
    rw [← h1, ← h2] at h
    omega
theorem adjM {l : List Fn} {n b : Bool} {i : Nat} {x : Fn} (h : (l.map (fencedF ⟨n, b, true⟩))[i]? = some x) : adj x.code := by
  have := List.mem_of_getElem? h
  obtain ⟨g, _, rfl⟩ := List.mem_map.1 this
  exact merge_adj _
def register (is none : Bool) (n regs : Int) : Bool := if is = false then decide (n = -1) else (decide (0 ≤ n) && decide (n < regs)) || (none && decide (n = -1))
def has (op : Int) : Bool × Bool × Bool × Bool :=
  if op = 1 ∨ op = 14 then (true, false, false, false)
  else if op = 2 ∨ op = 9 then (true, true, false, false)
  else if op = 3 ∨ op = 4 ∨ op = 5 ∨ op = 6 ∨ op = 7 ∨ op = 8 then (true, true, true, false)
  else if op = 10 then (false, true, true, false)
  else if op = 11 ∨ op = 12 then (false, false, false, true)
  else if op = 13 then (false, true, false, true)
  else if op = 17 then (true, true, false, true)
  else if op = 15 ∨ op = 18 ∨ op = 19 ∨ op = 20 then (false, true, false, false)
  else (false, false, false, false)

theorem ti3 : tinfo Try.prog 3 (.int .i64 0) 1 8 := by unfold tinfo; kernel_rfl
theorem ti4 : tinfo Try.prog 4 (.bool false) 1 1 := by unfold tinfo; kernel_rfl
theorem ti22 : tinfo Try.prog 22 (.slice none 0 0) 1 24 := by unfold tinfo; kernel_rfl
theorem ti23 : tinfo Try.prog 23 (.slice none 0 0) 1 24 := by unfold tinfo; kernel_rfl
theorem ti25 : tinfo Try.prog 25 (.agg #[.slice none 0 0, .slice none 0 0]) 2 48 := by unfold tinfo; kernel_rfl
theorem ti27 : tinfo Try.prog 27 (.agg #[.bool false, .bool false, .bool false]) 3 3 := by unfold tinfo; kernel_rfl
theorem ti31 : tinfo Try.prog 31 (.slice none 0 0) 1 24 := by unfold tinfo; kernel_rfl
theorem ti33 : tinfo Try.prog 33 (.agg #[.string ByteArray.empty, .int .i64 0, .int .i64 0, .slice none 0 0]) 4 56 := by unfold tinfo; kernel_rfl
theorem ti42 : tinfo Try.prog 42 (.agg #[.int .i64 0, .int .i64 0, .int .i64 0, .int .i64 0, .int .i64 0, .slice none 0 0, .int .i64 0, .bool false, .bool false]) 9 80 := by unfold tinfo; kernel_rfl
theorem pl25 : placesAre Try.prog 25 #[(0, 1), (1, 1)] := ⟨_, Try.underlying25, by kernel_rfl⟩
theorem pl27 : placesAre Try.prog 27 #[(0, 1), (1, 1), (2, 1)] := ⟨_, Try.underlying27, by kernel_rfl⟩
theorem pl33 : placesAre Try.prog 33 #[(0, 1), (1, 1), (2, 1), (3, 1)] := ⟨_, Try.underlying33, by kernel_rfl⟩
theorem pl42 : placesAre Try.prog 42 #[(0, 1), (1, 1), (2, 1), (3, 1), (4, 1), (5, 1), (6, 1), (7, 1), (8, 1)] := ⟨_, Try.underlying42, by kernel_rfl⟩
theorem en6 : enterable Try.prog 6 := ⟨Try.f6, Try.func6, by kernel_rfl, rfl⟩
theorem en7 : enterable Try.prog 7 := ⟨Try.f7, Try.func7, by kernel_rfl, rfl⟩
theorem en8 : enterable Try.prog 8 := ⟨Try.f8, Try.func8, by kernel_rfl, rfl⟩
theorem en13 : enterable Try.prog 13 := ⟨Try.f13, Try.func13, by kernel_rfl, rfl⟩
theorem en14 : enterable Try.prog 14 := ⟨Try.f14, Try.func14, by kernel_rfl, rfl⟩
theorem en15 : enterable Try.prog 15 := ⟨Try.f15, Try.func15, by kernel_rfl, rfl⟩
theorem en20 : enterable Try.prog 20 := ⟨Try.f20, Try.func20, by kernel_rfl, rfl⟩
theorem en21 : enterable Try.prog 21 := ⟨Try.f21, Try.func21, by kernel_rfl, rfl⟩
theorem en22 : enterable Try.prog 22 := ⟨Try.f22, Try.func22, by kernel_rfl, rfl⟩
theorem en23 : enterable Try.prog 23 := ⟨Try.f23, Try.func23, by kernel_rfl, rfl⟩
theorem en27 : enterable Try.prog 27 := ⟨Try.f27, Try.func27, by kernel_rfl, rfl⟩
theorem en28 : enterable Try.prog 28 := ⟨Try.f28, Try.func28, by kernel_rfl, rfl⟩
theorem en29 : enterable Try.prog 29 := ⟨Try.f29, Try.func29, by kernel_rfl, rfl⟩

set_option maxHeartbeats 1000000 in
theorem fnc27 (V : Vw) (k : Int) : Cc Try.prog 0 27 #[.int .i64 k] V (fun _ => False) (fun v V' => v = .agg #[.int .i64 21, .int .i64 (-1), .int .i64 (-1), .int .i64 (-1), .int .i64 k, .slice none 0 0, .int .i64 0, .bool false, .bool false]) := by
  refine Cc.of (Nat.zero_le _) Try.func27 rfl (Nat.le_of_ble_eq_true rfl) ?_
  have nx0 : Nx (fun b => V.H.next ≤ b ∨ False) V V := Nx.start
  refine WP.usreg rfl ?_
  refine U.alloc (V := V) rfl rfl (.inl rfl) rfl ti42 rfl rfl nd (fun b2_1 V2 n3 => ?_)
  have le4 := n3.le
  have nx5 := nx0.nw n3
  have o6 := n3.own nx0
  refine U.done (Nat.le_of_ble_eq_true rfl) ?_
  refine WP.usreg rfl ?_
  refine U.p rfl rfl (.inl rfl) (S.move rfl (L 1 rfl rfl)) ?_
  refine U.p rfl rfl (.inl rfl) (S.build (r := #[.int .i64 21, .int .i64 (-1), .int .i64 (-1), .int .i64 (-1), .int .i64 k, .slice none 0 0, .int .i64 0, .bool false, .bool false]) rfl ti42 rfl pl42 (aC K (aC K (aC K (aC K (aC (L 0 rfl rfl) aN))))) (allC (by simp [topV]) (allC (by simp [topV]) (allC (by simp [topV]) (allC (by simp [topV]) (allC (by simp [topV]) allN))))) (fill1 rfl rfl (Nat.le_of_ble_eq_true rfl) (fill1 rfl rfl (Nat.le_of_ble_eq_true rfl) (fill1 rfl rfl (Nat.le_of_ble_eq_true rfl) (fill1 rfl rfl (Nat.le_of_ble_eq_true rfl) (fill1 rfl rfl (Nat.le_of_ble_eq_true rfl) rfl)))))) ?_
  refine U.store (V := V2) (cs := [.int .i64 21, .int .i64 (-1), .int .i64 (-1), .int .i64 (-1), .int .i64 k, .slice none 0 0, .int .i64 0, .bool false, .bool false]) (c' := [.int .i64 21, .int .i64 (-1), .int .i64 (-1), .int .i64 (-1), .int .i64 k, .slice none 0 0, .int .i64 0, .bool false, .bool false]) rfl rfl (.inl rfl) rfl (L 2 rfl rfl) (L 0 rfl rfl) ti42 o6 (by simp [topV]) (rfl) rfl (Nat.le_of_ble_eq_true rfl) rfl rfl nd (fun V7 s8 => ?_)
  have le9 := s8.le o6
  have nx10 := nx5.st s8 o6
  have o11 := s8.own o6
  refine U.done (Nat.le_of_ble_eq_true rfl) ?_
  refine WP.ret ?_
  refine fin.cellN (.inr rfl) rfl (L 2 rfl rfl) Try.underlying42 rfl ti42 o11.get rfl ⟨V7, rfl, nx10, ?_⟩
  first | rfl | (simp_all []; done) | (simp [*]; done)

set_option maxHeartbeats 1000000 in
theorem fnc28 (V : Vw) (k : Int) : Cc Try.prog 0 28 #[.int .i64 k] V (fun _ => False) (fun v V' => v = .agg #[.int .i64 21, .int .i64 (-1), .int .i64 k, .int .i64 (-1), .int .i64 3, .slice none 0 0, .int .i64 0, .bool false, .bool false]) := by
  refine Cc.of (Nat.zero_le _) Try.func28 rfl (Nat.le_of_ble_eq_true rfl) ?_
  have nx0 : Nx (fun b => V.H.next ≤ b ∨ False) V V := Nx.start
  refine WP.usreg rfl ?_
  refine U.alloc (V := V) rfl rfl (.inl rfl) rfl ti42 rfl rfl nd (fun b2_1 V2 n3 => ?_)
  have le4 := n3.le
  have nx5 := nx0.nw n3
  have o6 := n3.own nx0
  refine U.done (Nat.le_of_ble_eq_true rfl) ?_
  refine WP.usreg rfl ?_
  refine U.p rfl rfl (.inl rfl) (S.move rfl (L 1 rfl rfl)) ?_
  refine U.p rfl rfl (.inl rfl) (S.build (r := #[.int .i64 21, .int .i64 (-1), .int .i64 k, .int .i64 (-1), .int .i64 3, .slice none 0 0, .int .i64 0, .bool false, .bool false]) rfl ti42 rfl pl42 (aC K (aC K (aC (L 0 rfl rfl) (aC K (aC K aN))))) (allC (by simp [topV]) (allC (by simp [topV]) (allC (by simp [topV]) (allC (by simp [topV]) (allC (by simp [topV]) allN))))) (fill1 rfl rfl (Nat.le_of_ble_eq_true rfl) (fill1 rfl rfl (Nat.le_of_ble_eq_true rfl) (fill1 rfl rfl (Nat.le_of_ble_eq_true rfl) (fill1 rfl rfl (Nat.le_of_ble_eq_true rfl) (fill1 rfl rfl (Nat.le_of_ble_eq_true rfl) rfl)))))) ?_
  refine U.store (V := V2) (cs := [.int .i64 21, .int .i64 (-1), .int .i64 k, .int .i64 (-1), .int .i64 3, .slice none 0 0, .int .i64 0, .bool false, .bool false]) (c' := [.int .i64 21, .int .i64 (-1), .int .i64 k, .int .i64 (-1), .int .i64 3, .slice none 0 0, .int .i64 0, .bool false, .bool false]) rfl rfl (.inl rfl) rfl (L 2 rfl rfl) (L 0 rfl rfl) ti42 o6 (by simp [topV]) (rfl) rfl (Nat.le_of_ble_eq_true rfl) rfl rfl nd (fun V7 s8 => ?_)
  have le9 := s8.le o6
  have nx10 := nx5.st s8 o6
  have o11 := s8.own o6
  refine U.done (Nat.le_of_ble_eq_true rfl) ?_
  refine WP.ret ?_
  refine fin.cellN (.inr rfl) rfl (L 2 rfl rfl) Try.underlying42 rfl ti42 o11.get rfl ⟨V7, rfl, nx10, ?_⟩
  first | rfl | (simp_all []; done) | (simp [*]; done)

set_option maxHeartbeats 1000000 in
theorem fnc29 (V : Vw) (x : Ins) (va : Value) (ha : Sl 1 RInt V va x.args) : Cc Try.prog 0 29 #[.agg #[.int .i64 x.op, .int .i64 x.d, .int .i64 x.a, .int .i64 x.b, .int .i64 x.imm, va, .int .i64 x.what, .bool x.vol, .bool x.fin]] V (fun _ => False) (fun v V' => v = .bool (plain x)) := by
  refine Cc.of (Nat.zero_le _) Try.func29 rfl (Nat.le_of_ble_eq_true rfl) ?_
  have nx0 : Nx (fun b => V.H.next ≤ b ∨ False) V V := Nx.start
  refine WP.usreg rfl ?_
  refine U.box (V := V) rfl rfl (.inl rfl) rfl (L 0 rfl rfl) (by simp [topV]) (rfl) nd (fun b1_1 V2 n3 => ?_)
  have le4 := n3.le
  have nx5 := nx0.nw n3
  have o6 := n3.own nx0
  refine U.p rfl rfl (.inl rfl) (S.assign rfl K) ?_
  refine U.done (Nat.le_of_ble_eq_true rfl) ?_
  refine WP.usreg rfl ?_
  refine U.p (v := .pointer (some ⟨b1_1, 0, none⟩)) rfl rfl (.inl rfl) (S.fieldAddr rfl (L 1 rfl rfl) Try.underlying42 rfl ti3 rfl rfl) ?_
  refine U.k rfl rfl (.inl rfl) (S.load rfl (L 0 rfl rfl) Try.underlying3 rfl (o6.cell rfl)) nd ?_
  refine U.p rfl rfl (.inl rfl) (S.eqlI rfl (L 0 rfl rfl) K) ?_
  refine U.p rfl rfl (.inl rfl) (S.move rfl (L 0 rfl rfl)) ?_
  refine U.bs (L 0 rfl rfl) (fun g7 => ?_) (fun g7 => ?_)
  ·  -- g7: decide (x.op = 21) is true
    have k8 := of_decide_eq_true g7
    refine U.p (v := .pointer (some ⟨b1_1, 4, none⟩)) rfl rfl (.inr ⟨_, _, _, rfl, rfl, (L 0 rfl rfl)⟩) (S.fieldAddr rfl (L 6 rfl rfl) Try.underlying42 rfl ti3 rfl rfl) ?_
    refine U.k rfl rfl (.inr ⟨_, _, _, rfl, rfl, (L 1 rfl rfl)⟩) (S.load rfl (L 0 rfl rfl) Try.underlying3 rfl (o6.cell rfl)) nd ?_
    refine U.p rfl rfl (.inr ⟨_, _, _, rfl, rfl, (L 2 rfl rfl)⟩) (S.eqlI rfl (L 0 rfl rfl) K) ?_
    refine U.p rfl rfl (.inr ⟨_, _, _, rfl, rfl, (L 3 rfl rfl)⟩) (S.move rfl (L 0 rfl rfl)) ?_
    refine U.bs (L 0 rfl rfl) (fun g9 => ?_) (fun g9 => ?_)
    ·  -- g9: decide (x.imm = 1) is true
      have k10 := of_decide_eq_true g9
      refine U.x rfl rfl rfl rfl (L 0 rfl rfl) (by decide) ?_
      refine U.x rfl rfl rfl rfl (L 1 rfl rfl) (by decide) ?_
      refine U.x rfl rfl rfl rfl (L 2 rfl rfl) (by decide) ?_
      refine U.p rfl rfl (.inr ⟨_, _, _, rfl, rfl, (L 8 rfl rfl)⟩) (S.pickT rfl (L 3 rfl rfl) K) ?_
      refine U.p rfl rfl (.inl rfl) (S.pickT rfl (L 9 rfl rfl) (L 0 rfl rfl)) ?_
      refine U.p rfl rfl (.inl rfl) (S.assign rfl (L 0 rfl rfl)) ?_
      refine U.done (Nat.le_of_ble_eq_true rfl) ?_
      refine WP.ret ?_
      refine fin.slot (.inr rfl) rfl (L 0 rfl rfl) ⟨V2, rfl, nx5, ?_⟩
      first | rfl | (simp_all [plain]; done) | (simp [plain, *]; done)
    ·  -- g9: decide (x.imm = 1) is false
      have k11 := of_decide_eq_false g9
      refine U.p (v := .pointer (some ⟨b1_1, 4, none⟩)) rfl rfl (.inr ⟨_, _, _, rfl, rfl, (L 0 rfl rfl)⟩) (S.fieldAddr rfl (L 11 rfl rfl) Try.underlying42 rfl ti3 rfl rfl) ?_
      refine U.k rfl rfl (.inr ⟨_, _, _, rfl, rfl, (L 1 rfl rfl)⟩) (S.load rfl (L 0 rfl rfl) Try.underlying3 rfl (o6.cell rfl)) nd ?_
      refine U.p rfl rfl (.inr ⟨_, _, _, rfl, rfl, (L 2 rfl rfl)⟩) (S.eqlI rfl (L 0 rfl rfl) K) ?_
      refine U.p rfl rfl (.inr ⟨_, _, _, rfl, rfl, (L 8 rfl rfl)⟩) (S.pickF rfl (L 3 rfl rfl) (L 0 rfl rfl)) ?_
      refine U.p rfl rfl (.inl rfl) (S.pickT rfl (L 9 rfl rfl) (L 0 rfl rfl)) ?_
      refine U.p rfl rfl (.inl rfl) (S.assign rfl (L 0 rfl rfl)) ?_
      refine U.done (Nat.le_of_ble_eq_true rfl) ?_
      refine WP.ret ?_
      refine fin.slot (.inr rfl) rfl (L 0 rfl rfl) ⟨V2, rfl, nx5, ?_⟩
      first | rfl | (simp_all [plain]; done) | (simp [plain, *]; done)
  ·  -- g7: decide (x.op = 21) is false
    have k12 := of_decide_eq_false g7
    refine U.x rfl rfl rfl rfl (L 0 rfl rfl) (by decide) ?_
    refine U.x rfl rfl rfl rfl (L 1 rfl rfl) (by decide) ?_
    refine U.x rfl rfl rfl rfl (L 2 rfl rfl) (by decide) ?_
    refine U.x rfl rfl rfl rfl (L 3 rfl rfl) (by decide) ?_
    refine U.z rfl rfl rfl rfl (L 0 rfl rfl) ?_
    refine U.z rfl rfl rfl rfl (L 1 rfl rfl) ?_
    refine U.z rfl rfl rfl rfl (L 2 rfl rfl) ?_
    refine U.x rfl rfl rfl rfl (L 7 rfl rfl) (by decide) ?_
    refine U.p rfl rfl (.inl rfl) (S.pickF rfl (L 8 rfl rfl) K) ?_
    refine U.p rfl rfl (.inl rfl) (S.assign rfl (L 0 rfl rfl)) ?_
    refine U.done (Nat.le_of_ble_eq_true rfl) ?_
    refine WP.ret ?_
    refine fin.slot (.inr rfl) rfl (L 0 rfl rfl) ⟨V2, rfl, nx5, ?_⟩
    first | rfl | (simp_all [plain]; done) | (simp [plain, *]; done)

set_option maxHeartbeats 1000000 in
theorem fnc15 (V : Vw) (va : Value) (xs : List Int) (ha : Sl 1 RInt V va xs) (hl : xs.length < 2 ^ 40) : Cc Try.prog 0 15 #[va] V (fun _ => False) (fun v V' => Sl 1 RInt V' v xs) := by
  refine Cc.of (Nat.zero_le _) Try.func15 rfl (Nat.le_of_ble_eq_true rfl) ?_
  have nx0 : Nx (fun b => V.H.next ≤ b ∨ False) V V := Nx.start
  refine WP.usreg rfl ?_
  refine U.p rfl rfl (.inl rfl) (S.assign rfl K) ?_
  refine U.done (Nat.le_of_ble_eq_true rfl) ?_
  refine WP.seq ?_
  refine WP.usreg rfl ?_
  refine U.p rfl rfl (.inl rfl) (S.move rfl (L 1 rfl rfl)) ?_
  refine U.p rfl rfl (.inl rfl) (ha.eqNil rfl (L 0 rfl rfl) K Try.underlying23) ?_
  refine U.done (Nat.le_of_ble_eq_true rfl) ?_
  refine WP.cond _ (L 0 rfl rfl) rfl (fun c1 => ?_) (fun c1 => ?_)
  ·  -- c1: isNil va is true
    refine WP.usreg rfl ?_
    refine U.p rfl rfl (.inl rfl) (S.assign rfl K) ?_
    refine U.done (Nat.le_of_ble_eq_true rfl) ?_
    refine WP.ret ?_
    refine sqR ?_
    refine fin.slot (.inr rfl) rfl (L 0 rfl rfl) ⟨V, rfl, nx0, ?_⟩
    have hz := ha.nil_of c1; subst hz; exact Sl.nil
  ·  -- c1: isNil va is false
    refine WP.skip ?_
    refine sqN ?_
    refine WP.usreg rfl ?_
    refine U.build0 (V := V) rfl rfl (.inl rfl) rfl Try.underlying23 ti3 rfl rfl rfl nd (fun b5_2 V3 n4 => ?_)
    have le5 := n4.le
    have nx6 := nx0.nw n4
    have o7 := n4.own nx0
    have h8 : OSl _ 1 RInt V3 (some b5_2) (.slice (some ⟨b5_2, 0, none⟩) 0 1) [] := .inr ⟨_, [], rfl, rfl, o7, .nil, Nat.zero_le _⟩
    refine U.p rfl rfl (.inl rfl) (S.move rfl (L 4 rfl rfl)) ?_
    have h9 := ha.up RInt.ty le5
    refine U.append (V := V3) RInt.ty rfl rfl (.inl rfl) rfl (L 1 rfl rfl) (L 0 rfl rfl) Try.underlying23 ti3 rfl rfl Try.underlying23 nx6 h8 h9 (by (try simp only [List.length_nil, List.length_append, List.length_cons, List.length_map, List.length_take]); omega) (by (try simp only [List.length_nil, List.length_append, List.length_cons, List.length_map, List.length_take]); omega) (fun _ _ => nd) (fun v10 ob11 V12 le13 nx14 h15 tr16 => ?_)
    refine U.p rfl rfl (.inl rfl) (S.assign rfl (L 0 rfl rfl)) ?_
    refine U.done (Nat.le_of_ble_eq_true rfl) ?_
    refine WP.ret ?_
    have hl17 := h15.lt
    have le18 := V12.fz_le (ob11) hl17
    have hg20 : ∀ c, ob11 = some c → V.H.next ≤ c := fun c e => ((h15.oo c e).m).elim id (fun h => h.elim)
    have nx19 := nx14.fz (ob11) hl17 hg20
    have h21 := h15.fz RInt.ty hl17
    refine fin.slot (.inr rfl) rfl (L 0 rfl rfl) ⟨(V12.fz (ob11) hl17), rfl, nx19, ?_⟩
    simpa using h21

set_option maxHeartbeats 1000000 in
theorem fnc23 (V : Vw) (vc : Value) (code : List Ins) (hc : Sl 9 RIns V vc code) (hlen : code.length < 2 ^ 30) : Cc Try.prog 0 23 #[vc] V (fun _ => False) (fun v V' => Sl 9 RIns V' v (merge code)) := by
  refine Cc.of (Nat.zero_le _) Try.func23 rfl (Nat.le_of_ble_eq_true rfl) ?_
  have nx0 : Nx (fun b => V.H.next ≤ b ∨ False) V V := Nx.start
  refine WP.usreg rfl ?_
  refine U.p rfl rfl (.inl rfl) (S.assign rfl K) ?_
  refine U.done (Nat.le_of_ble_eq_true rfl) ?_
  refine WP.usreg rfl ?_
  refine U.p rfl rfl (.inl rfl) (S.assign rfl K) ?_
  refine U.done (Nat.le_of_ble_eq_true rfl) ?_
  refine WP.seq ?_
  refine WP.usreg rfl ?_
  refine U.p rfl rfl (.inl rfl) (S.move rfl (L 2 rfl rfl)) ?_
  refine U.p rfl rfl (.inl rfl) (hc.len rfl (L 0 rfl rfl) Try.underlying31) ?_
  refine U.p rfl rfl (.inl rfl) (S.move rfl K) ?_
  refine U.done (Nat.le_of_ble_eq_true rfl) ?_
  refine WP.blk ?_
  refine WP.loopE (fun n l V' => ∃ (i : Nat) (vO : Value) (oO : Option Nat), l = [(9, .int .i64 (i : Int)), (8, .int .i64 (code.length : Int)), (7, vc), (3, vO), (2, .slice none 0 0)] ∧ n = code.length - i ∧ i ≤ code.length ∧ V.le V' ∧ Nx (fun b => V.H.next ≤ b ∨ False) V V' ∧ OSl (fun b => V.H.next ≤ b ∨ False) 9 RIns V' oO vO (merge (code.take i))) ?_ _ _ V ⟨0, .slice none 0 0, none, rfl, rfl, Nat.zero_le _, .refl _, nx0, OSl.nil⟩ _ (allCons (L 0 rfl rfl) (allCons (L 1 rfl rfl) (allCons (L 2 rfl rfl) (allCons (L 3 rfl rfl) (allCons (L 4 rfl rfl) allNil)))))
  rintro n5 l4 V1 ⟨i, vO, oO, rfl, rfl, hi, le3, nx2, h6⟩
  have hml := merge_le (code.take i)
  rw [List.length_take] at hml
  refine WP.usreg rfl ?_
  refine U.p rfl rfl (.inl rfl) (S.lss rfl (L 0 rfl rfl) (L 1 rfl rfl)) ?_
  refine U.done (Nat.le_of_ble_eq_true rfl) ?_
  refine WP.seq ?_
  refine WP.cond _ (L 0 rfl rfl) rfl (fun c7 => ?_) (fun c7 => ?_)
  ·  -- c7: decide ((i : Int) < (code.length : Int)) is true
    have k8 := of_decide_eq_true c7
    refine WP.skip ?_
    refine sqN ?_
    refine WP.seq ?_
    refine WP.blk ?_
    refine WP.usreg rfl ?_
    have h11 := hc.up RIns.ty le3
    have hx10_lt : i < code.length := by omega
    obtain ⟨x9, hx10⟩ : ∃ x, code[i]? = some x := ⟨_, List.getElem?_eq_getElem hx10_lt⟩
    obtain ⟨b12, f13, c14, cs15, hv20, hb16, hl17, hr18, hc19⟩ := h11.at hx10
    obtain ⟨va21, rfl, ha22⟩ := hr18
    refine U.p rfl rfl (.inl rfl) (S.index rfl ((L 3 rfl rfl).trans hv20) (L 1 rfl rfl) Try.underlying31 ti42 (by omega) (by omega)) ?_
    refine U.k rfl rfl (.inl rfl) (S.loadN (cs := [.int .i64 x9.op, .int .i64 x9.d, .int .i64 x9.a, .int .i64 x9.b, .int .i64 x9.imm, va21, .int .i64 x9.what, .bool x9.vol, .bool x9.fin]) rfl (L 0 rfl rfl) Try.underlying42 rfl ti42 rfl (fun j v hj => hc19 j v hj)) nd ?_
    refine U.alloc (V := V1) rfl rfl (.inl rfl) rfl ti42 rfl rfl nd (fun b5_23 V24 n25 => ?_)
    have le26 := n25.le
    have nx27 := nx2.nw n25
    have o28 := n25.own nx2
    have ne29 := h6.neNw n25
    have h30 := h6.nw RIns.ty n25
    refine U.store (V := V24) (cs := [.int .i64 x9.op, .int .i64 x9.d, .int .i64 x9.a, .int .i64 x9.b, .int .i64 x9.imm, va21, .int .i64 x9.what, .bool x9.vol, .bool x9.fin]) (c' := [.int .i64 x9.op, .int .i64 x9.d, .int .i64 x9.a, .int .i64 x9.b, .int .i64 x9.imm, va21, .int .i64 x9.what, .bool x9.vol, .bool x9.fin]) rfl rfl (.inl rfl) rfl (L 0 rfl rfl) (L 1 rfl rfl) ti42 o28 (by simp [topV]) (rfl) rfl (Nat.le_of_ble_eq_true rfl) (by have := ha22.one;  simp only [List.all_cons, List.all_nil, *]; rfl) rfl nd (fun V31 s32 => ?_)
    have le33 := s32.le o28
    have nx34 := nx27.st s32 o28
    have h35 := h30.st RIns.ty s32 o28 ne29
    have o36 := s32.own o28
    refine U.done (Nat.le_of_ble_eq_true rfl) ?_
    refine WP.usreg rfl ?_
    refine U.p rfl rfl (.inl rfl) (S.move rfl (L 7 rfl rfl)) ?_
    refine U.p rfl rfl (.inl rfl) (h35.len rfl (L 0 rfl rfl) Try.underlying31) ?_
    refine U.p rfl rfl (.inl rfl) (S.assign rfl (L 0 rfl rfl)) ?_
    refine U.done (Nat.le_of_ble_eq_true rfl) ?_
    refine WP.seq ?_
    refine WP.usreg rfl ?_
    refine U.p rfl rfl (.inl rfl) (S.move rfl (L 0 rfl rfl)) ?_
    refine U.p rfl rfl (.inl rfl) (S.gtr rfl (L 0 rfl rfl) K) ?_
    refine U.p rfl rfl (.inl rfl) (S.move rfl (L 0 rfl rfl)) ?_
    refine U.bs (L 0 rfl rfl) (fun g37 => ?_) (fun g37 => ?_)
    ·  -- g37: decide (0 < ((merge (code.take i)).length : Int)) is true
      have k38 := of_decide_eq_true g37
      refine U.k rfl rfl (.inr ⟨_, _, _, rfl, rfl, (L 0 rfl rfl)⟩) (S.loadB rfl (L 7 rfl rfl) Try.underlying42 rfl ti42 o36.get rfl) nd ?_
      have h43 := ha22.up RInt.ty (le26.trans le33)
      refine U.callL (V := V31) rfl rfl (.inr ⟨_, _, _, rfl, rfl, (L 1 rfl rfl)⟩) rfl en29 (aC (L 0 rfl rfl) aN) (fnc29 V31 x9 va21 h43) (fun _ _ => nd) (fun v39 V40 n41 p42 => ?_)
      have le44 := n41.le
      have nx45 := nx34.call n41 (fun _ h => h.elim)
      have o46 := o36.call n41 id
      have h47 := h35.call RIns.ty n41 (fun _ _ => id)
      obtain rfl : v39 = .bool (plain x9) := p42
      refine U.p rfl rfl (.inl rfl) (S.pickT rfl (L 2 rfl rfl) (L 0 rfl rfl)) ?_
      refine U.p rfl rfl (.inl rfl) (S.move rfl (L 0 rfl rfl)) ?_
      refine U.bs (L 0 rfl rfl) (fun g48 => ?_) (fun g48 => ?_)
      ·  -- g48: plain x9 is true
        refine U.p rfl rfl (.inr ⟨_, _, _, rfl, rfl, (L 0 rfl rfl)⟩) (S.move rfl (L 19 rfl rfl)) ?_
        refine U.p rfl rfl (.inr ⟨_, _, _, rfl, rfl, (L 1 rfl rfl)⟩) (S.move rfl (L 10 rfl rfl)) ?_
        refine U.p rfl rfl (.inr ⟨_, _, _, rfl, rfl, (L 2 rfl rfl)⟩) (S.subI rfl (L 0 rfl rfl) K rfl (by omega) (by omega)) ?_
        have hx50_lt : (((merge (code.take i)).length : Int) - 1).toNat < (merge (code.take i)).length := by omega
        obtain ⟨x49, hx50⟩ : ∃ x, (merge (code.take i))[(((merge (code.take i)).length : Int) - 1).toNat]? = some x := ⟨_, List.getElem?_eq_getElem hx50_lt⟩
        obtain ⟨b51, r52, hv53, hob54, hlt55, hr56, hc57⟩ := h47.at RIns.ty hx50
        obtain ⟨va58, rfl, ha59⟩ := hr56
        refine U.p (v := .pointer (some ⟨b51, 0 + (((merge (code.take i)).length : Int) - 1).toNat * 9, none⟩)) rfl rfl (.inr ⟨_, _, _, rfl, rfl, (L 3 rfl rfl)⟩) (S.index rfl ((L 2 rfl rfl).trans hv53) (L 0 rfl rfl) Try.underlying31 ti42 (by omega) (by omega)) ?_
        refine U.k rfl rfl (.inr ⟨_, _, _, rfl, rfl, (L 4 rfl rfl)⟩) (S.loadN (cs := [.int .i64 x49.op, .int .i64 x49.d, .int .i64 x49.a, .int .i64 x49.b, .int .i64 x49.imm, va58, .int .i64 x49.what, .bool x49.vol, .bool x49.fin]) rfl (L 0 rfl rfl) Try.underlying42 rfl ti42 rfl hc57) nd ?_
        refine U.callL (V := V40) rfl rfl (.inr ⟨_, _, _, rfl, rfl, (L 5 rfl rfl)⟩) rfl en29 (aC (L 0 rfl rfl) aN) (fnc29 V40 x49 va58 ha59) (fun _ _ => nd) (fun v60 V61 n62 p63 => ?_)
        have le64 := n62.le
        have nx65 := nx45.call n62 (fun _ h => h.elim)
        have o66 := o46.call n62 id
        have h67 := h47.call RIns.ty n62 (fun _ _ => id)
        obtain rfl : v60 = .bool (plain x49) := p63
        refine U.p rfl rfl (.inl rfl) (S.pickT rfl (L 6 rfl rfl) (L 0 rfl rfl)) ?_
        refine U.done (Nat.le_of_ble_eq_true rfl) ?_
        refine WP.cond _ (L 0 rfl rfl) rfl (fun c68 => ?_) (fun c68 => ?_)
        ·  -- c68: plain x49 is true
          refine WP.usdreg rfl rfl rfl ?_
          refine U.p rfl rfl (.inl rfl) (S.move rfl (L 26 rfl rfl)) ?_
          refine U.p rfl rfl (.inl rfl) (S.move rfl (L 17 rfl rfl)) ?_
          refine U.p rfl rfl (.inl rfl) (S.subI rfl (L 0 rfl rfl) K rfl (by omega) (by omega)) ?_
          refine U.p rfl rfl (.inl rfl) (S.move rfl (L 29 rfl rfl)) ?_
          refine U.p rfl rfl (.inl rfl) (S.move rfl (L 20 rfl rfl)) ?_
          refine U.p rfl rfl (.inl rfl) (S.subI rfl (L 0 rfl rfl) K rfl (by omega) (by omega)) ?_
          obtain ⟨b71, r72, hv73, hob74, hlt75, hr76, hc77⟩ := h67.at RIns.ty hx50
          obtain ⟨va78, rfl, ha79⟩ := hr76
          refine U.p (v := .pointer (some ⟨b71, 0 + (((merge (code.take i)).length : Int) - 1).toNat * 9, none⟩)) rfl rfl (.inl rfl) (S.index rfl ((L 2 rfl rfl).trans hv73) (L 0 rfl rfl) Try.underlying31 ti42 (by omega) (by omega)) ?_
          refine U.p (v := .pointer (some ⟨b71, 0 + (((merge (code.take i)).length : Int) - 1).toNat * 9 + 4, none⟩)) rfl rfl (.inl rfl) (S.fieldAddr rfl (L 0 rfl rfl) Try.underlying42 rfl ti3 rfl rfl) ?_
          refine U.k rfl rfl (.inl rfl) (S.load rfl (L 0 rfl rfl) Try.underlying3 rfl (hc77 4 _ rfl)) (fun _ => (okH.nil (fun r h => by cases h; exact hlt75))) ?_
          refine U.p (v := .pointer (some ⟨b5_23, 4, none⟩)) rfl rfl (.inl rfl) (S.fieldAddr rfl (L 28 rfl rfl) Try.underlying42 rfl ti3 rfl rfl) ?_
          refine U.k rfl rfl (.inl rfl) (S.load rfl (L 0 rfl rfl) Try.underlying3 rfl (o66.cell rfl)) (fun _ => (okH.cons trivial (okH.nil (fun r h => by cases h; exact o66.lt)))) ?_
          refine U.p rfl rfl (.inl rfl) (S.minI rfl (L 2 rfl rfl) (L 0 rfl rfl)) ?_
          obtain ⟨b82, r83, hv84, hob85, hlt86, hr87, hc88⟩ := h67.at RIns.ty hx50
          obtain ⟨va89, rfl, ha90⟩ := hr87
          refine U.p (v := .pointer (some ⟨b82, 0 + (((merge (code.take i)).length : Int) - 1).toNat * 9, none⟩)) rfl rfl (.inl rfl) (S.index rfl ((L 11 rfl rfl).trans hv84) (L 9 rfl rfl) Try.underlying31 ti42 (by omega) (by omega)) ?_
          refine U.p (v := .pointer (some ⟨b82, 0 + (((merge (code.take i)).length : Int) - 1).toNat * 9 + 4, none⟩)) rfl rfl (.inl rfl) (S.fieldAddr rfl (L 0 rfl rfl) Try.underlying42 rfl ti3 rfl rfl) ?_
          refine U.storeO (V := V61) (y := ({ x49 with imm := min x49.imm x9.imm } : Ins)) (k := 4) (cs := [.int .i64 (min x49.imm x9.imm)]) RIns.ty rfl rfl (.inl rfl) rfl (L 0 rfl rfl) (L 2 rfl rfl) ti3 nx65 h67 hob85 hx50 (by simp [topV]) (rfl) rfl rfl (fun r hr => by obtain ⟨va, rfl, ha⟩ := hr; exact ⟨Nat.le_of_ble_eq_true rfl, va, rfl, ha⟩) (fun H1 hs => (fun _ => (okH.cons (Or.inl rfl) (okH.cons (Or.inl rfl) (okH.nil (fun r h => nomatch h)))))) (fun V93 le94 nx95 h96 tr97 => ?_)
          have o98 := tr97 _ _ o66 ne29
          refine U.done (Nat.le_of_ble_eq_true rfl) ?_
          refine WP.exit ?_
          refine sqE (blkE (sqN ?_))
          refine WP.ureg rfl ?_
          refine U.p rfl rfl (.inl rfl) (S.addI rfl (L 37 rfl rfl) K rfl (by omega) (by omega)) ?_
          refine U.p rfl rfl (.inl rfl) (S.move rfl (L 0 rfl rfl)) ?_
          refine U.done (Nat.le_of_ble_eq_true rfl) ?_
          refine sqN ?_
          have hm := merge_snoc code i x9 hx10
          refine ⟨_, _, V93, rfl, ⟨i + 1, vO, oO, rfl, rfl, by omega, ((((((le3.trans le26).trans le33).trans le44).trans le64).trans le94)), nx95, (by rw [hm]; first | (rw [mstep_a (by omega)]; exact h96) | (rw [mstep_b (by assumption)]; exact h96) | (rw [mstep_c (by assumption) (by assumption)]; exact h96) | (rw [mstep_d (by assumption) (by assumption) (by assumption)]; exact h96))⟩, (by omega), allCons (L 0 rfl rfl) (allCons (L 40 rfl rfl) (allCons (L 41 rfl rfl) (allCons (L 42 rfl rfl) (allCons (L 43 rfl rfl) allNil))))⟩
        ·  -- c68: plain x49 is false
          refine WP.skip ?_
          refine sqN ?_
          refine WP.ureg rfl ?_
          refine U.p rfl rfl (.inl rfl) (S.move rfl (L 26 rfl rfl)) ?_
          refine U.k rfl rfl (.inl rfl) (S.loadB rfl (L 20 rfl rfl) Try.underlying42 rfl ti42 o66.get rfl) nd ?_
          refine U.build1 (V := V61) rfl rfl (.inl rfl) rfl (L 0 rfl rfl) Try.underlying31 ti42 rfl rfl rfl (Nat.le_of_ble_eq_true rfl) (by simp [topV]) (rfl) rfl nd (fun b45_99 V100 n101 => ?_)
          have le102 := n101.le
          have nx103 := nx65.nw n101
          have o104 := n101.own nx65
          have ne105 := o66.neNw n101
          have o106 := o66.nw n101
          have ne107 := h67.neNw n101
          have h108 := h67.nw RIns.ty n101
          have hl110 : ∀ c, some b45_99 = some c → c < V100.H.next := fun c e => by cases e; exact o104.lt
          have le111 := V100.fz_le (some b45_99) hl110
          have hg113 : ∀ c, some b45_99 = some c → V.H.next ≤ c := fun c e => by cases e; exact (o104.m).elim id (fun h => h.elim)
          have nx112 := nx103.fz (some b45_99) hl110 hg113
          have o114 := o106.fz (some b45_99) hl110 (fun e => ne105 (by cases e; rfl))
          have h115 := h108.fzo RIns.ty (some b45_99) hl110 (fun c e e2 => ne107 (e.trans e2.symm))
          have h116 := ha22.up RInt.ty (((((le26.trans le33).trans le44).trans le64).trans le102).trans le111)
          have h109 : Sl 9 RIns (V100.fz (some b45_99) hl110) (.slice (some ⟨b45_99, 0, none⟩) 1 9) [x9] := Sl.mk1 RIns.ty (V := (V100.fz (some b45_99) hl110)) (.inr rfl) o104.get (⟨_, rfl, h116⟩)
          refine U.append (V := (V100.fz (some b45_99) hl110)) RIns.ty rfl rfl (.inl rfl) rfl (L 2 rfl rfl) (L 0 rfl rfl) Try.underlying31 ti42 rfl rfl Try.underlying31 nx112 h115 h109 (by (try simp only [List.length_nil, List.length_append, List.length_cons, List.length_map, List.length_take]); omega) (by (try simp only [List.length_nil, List.length_append, List.length_cons, List.length_map, List.length_take]); omega) (fun _ _ => nd) (fun v117 ob118 V119 le120 nx121 h122 tr123 => ?_)
          obtain ⟨o124, ne125⟩ := tr123 _ _ o114 ne29
          refine U.p rfl rfl (.inl rfl) (S.assign rfl (L 0 rfl rfl)) ?_
          refine U.done (Nat.le_of_ble_eq_true rfl) ?_
          refine blkN (sqN ?_)
          refine WP.ureg rfl ?_
          refine U.p rfl rfl (.inl rfl) (S.addI rfl (L 28 rfl rfl) K rfl (by omega) (by omega)) ?_
          refine U.p rfl rfl (.inl rfl) (S.move rfl (L 0 rfl rfl)) ?_
          refine U.done (Nat.le_of_ble_eq_true rfl) ?_
          refine sqN ?_
          have hm := merge_snoc code i x9 hx10
          refine ⟨_, _, V119, rfl, ⟨i + 1, v117, ob118, rfl, rfl, by omega, ((((((((le3.trans le26).trans le33).trans le44).trans le64).trans le102).trans le111).trans le120)), nx121, (by rw [hm]; first | (rw [mstep_a (by omega)]; exact h122) | (rw [mstep_b (by assumption)]; exact h122) | (rw [mstep_c (by assumption) (by assumption)]; exact h122) | (rw [mstep_d (by assumption) (by assumption) (by assumption)]; exact h122))⟩, (by omega), allCons (L 0 rfl rfl) (allCons (L 31 rfl rfl) (allCons (L 32 rfl rfl) (allCons (L 2 rfl rfl) (allCons (L 34 rfl rfl) allNil))))⟩
      ·  -- g48: plain x9 is false
        refine U.x rfl rfl rfl rfl (L 0 rfl rfl) (by decide) ?_
        refine U.x rfl rfl rfl rfl (L 1 rfl rfl) (by decide) ?_
        refine U.x rfl rfl rfl rfl (L 2 rfl rfl) (by decide) ?_
        refine U.x rfl rfl rfl rfl (L 3 rfl rfl) (by decide) ?_
        refine U.x rfl rfl rfl rfl (L 4 rfl rfl) (by decide) ?_
        refine U.x rfl rfl rfl rfl (L 5 rfl rfl) (by decide) ?_
        refine U.p rfl rfl (.inl rfl) (S.pickF rfl (L 6 rfl rfl) K) ?_
        refine U.done (Nat.le_of_ble_eq_true rfl) ?_
        refine WP.cond false (L 0 rfl rfl) rfl (fun h => by cases h) (fun _ => ?_)
        refine WP.skip ?_
        refine sqN ?_
        refine WP.ureg rfl ?_
        refine U.p rfl rfl (.inl rfl) (S.move rfl (L 26 rfl rfl)) ?_
        refine U.k rfl rfl (.inl rfl) (S.loadB rfl (L 20 rfl rfl) Try.underlying42 rfl ti42 o46.get rfl) nd ?_
        refine U.build1 (V := V40) rfl rfl (.inl rfl) rfl (L 0 rfl rfl) Try.underlying31 ti42 rfl rfl rfl (Nat.le_of_ble_eq_true rfl) (by simp [topV]) (rfl) rfl nd (fun b45_126 V127 n128 => ?_)
        have le129 := n128.le
        have nx130 := nx45.nw n128
        have o131 := n128.own nx45
        have ne132 := o46.neNw n128
        have o133 := o46.nw n128
        have ne134 := h47.neNw n128
        have h135 := h47.nw RIns.ty n128
        have hl137 : ∀ c, some b45_126 = some c → c < V127.H.next := fun c e => by cases e; exact o131.lt
        have le138 := V127.fz_le (some b45_126) hl137
        have hg140 : ∀ c, some b45_126 = some c → V.H.next ≤ c := fun c e => by cases e; exact (o131.m).elim id (fun h => h.elim)
        have nx139 := nx130.fz (some b45_126) hl137 hg140
        have o141 := o133.fz (some b45_126) hl137 (fun e => ne132 (by cases e; rfl))
        have h142 := h135.fzo RIns.ty (some b45_126) hl137 (fun c e e2 => ne134 (e.trans e2.symm))
        have h143 := ha22.up RInt.ty ((((le26.trans le33).trans le44).trans le129).trans le138)
        have h136 : Sl 9 RIns (V127.fz (some b45_126) hl137) (.slice (some ⟨b45_126, 0, none⟩) 1 9) [x9] := Sl.mk1 RIns.ty (V := (V127.fz (some b45_126) hl137)) (.inr rfl) o131.get (⟨_, rfl, h143⟩)
        refine U.append (V := (V127.fz (some b45_126) hl137)) RIns.ty rfl rfl (.inl rfl) rfl (L 2 rfl rfl) (L 0 rfl rfl) Try.underlying31 ti42 rfl rfl Try.underlying31 nx139 h142 h136 (by (try simp only [List.length_nil, List.length_append, List.length_cons, List.length_map, List.length_take]); omega) (by (try simp only [List.length_nil, List.length_append, List.length_cons, List.length_map, List.length_take]); omega) (fun _ _ => nd) (fun v144 ob145 V146 le147 nx148 h149 tr150 => ?_)
        obtain ⟨o151, ne152⟩ := tr150 _ _ o141 ne29
        refine U.p rfl rfl (.inl rfl) (S.assign rfl (L 0 rfl rfl)) ?_
        refine U.done (Nat.le_of_ble_eq_true rfl) ?_
        refine blkN (sqN ?_)
        refine WP.ureg rfl ?_
        refine U.p rfl rfl (.inl rfl) (S.addI rfl (L 28 rfl rfl) K rfl (by omega) (by omega)) ?_
        refine U.p rfl rfl (.inl rfl) (S.move rfl (L 0 rfl rfl)) ?_
        refine U.done (Nat.le_of_ble_eq_true rfl) ?_
        refine sqN ?_
        have hm := merge_snoc code i x9 hx10
        refine ⟨_, _, V146, rfl, ⟨i + 1, v144, ob145, rfl, rfl, by omega, (((((((le3.trans le26).trans le33).trans le44).trans le129).trans le138).trans le147)), nx148, (by rw [hm]; first | (rw [mstep_a (by omega)]; exact h149) | (rw [mstep_b (by assumption)]; exact h149) | (rw [mstep_c (by assumption) (by assumption)]; exact h149) | (rw [mstep_d (by assumption) (by assumption) (by assumption)]; exact h149))⟩, (by omega), allCons (L 0 rfl rfl) (allCons (L 31 rfl rfl) (allCons (L 32 rfl rfl) (allCons (L 2 rfl rfl) (allCons (L 34 rfl rfl) allNil))))⟩
    ·  -- g37: decide (0 < ((merge (code.take i)).length : Int)) is false
      have k153 := of_decide_eq_false g37
      refine U.x rfl rfl rfl rfl (L 0 rfl rfl) (by decide) ?_
      refine U.x rfl rfl rfl rfl (L 1 rfl rfl) (by decide) ?_
      refine U.p rfl rfl (.inl rfl) (S.pickF rfl (L 2 rfl rfl) K) ?_
      refine U.p rfl rfl (.inl rfl) (S.move rfl (L 0 rfl rfl)) ?_
      refine U.x rfl rfl rfl rfl (L 0 rfl rfl) (by decide) ?_
      refine U.x rfl rfl rfl rfl (L 1 rfl rfl) (by decide) ?_
      refine U.x rfl rfl rfl rfl (L 2 rfl rfl) (by decide) ?_
      refine U.x rfl rfl rfl rfl (L 3 rfl rfl) (by decide) ?_
      refine U.x rfl rfl rfl rfl (L 4 rfl rfl) (by decide) ?_
      refine U.x rfl rfl rfl rfl (L 5 rfl rfl) (by decide) ?_
      refine U.p rfl rfl (.inl rfl) (S.pickF rfl (L 6 rfl rfl) K) ?_
      refine U.done (Nat.le_of_ble_eq_true rfl) ?_
      refine WP.cond false (L 0 rfl rfl) rfl (fun h => by cases h) (fun _ => ?_)
      refine WP.skip ?_
      refine sqN ?_
      refine WP.ureg rfl ?_
      refine U.p rfl rfl (.inl rfl) (S.move rfl (L 25 rfl rfl)) ?_
      refine U.k rfl rfl (.inl rfl) (S.loadB rfl (L 19 rfl rfl) Try.underlying42 rfl ti42 o36.get rfl) nd ?_
      refine U.build1 (V := V31) rfl rfl (.inl rfl) rfl (L 0 rfl rfl) Try.underlying31 ti42 rfl rfl rfl (Nat.le_of_ble_eq_true rfl) (by simp [topV]) (rfl) rfl nd (fun b45_154 V155 n156 => ?_)
      have le157 := n156.le
      have nx158 := nx34.nw n156
      have o159 := n156.own nx34
      have ne160 := o36.neNw n156
      have o161 := o36.nw n156
      have ne162 := h35.neNw n156
      have h163 := h35.nw RIns.ty n156
      have hl165 : ∀ c, some b45_154 = some c → c < V155.H.next := fun c e => by cases e; exact o159.lt
      have le166 := V155.fz_le (some b45_154) hl165
      have hg168 : ∀ c, some b45_154 = some c → V.H.next ≤ c := fun c e => by cases e; exact (o159.m).elim id (fun h => h.elim)
      have nx167 := nx158.fz (some b45_154) hl165 hg168
      have o169 := o161.fz (some b45_154) hl165 (fun e => ne160 (by cases e; rfl))
      have h170 := h163.fzo RIns.ty (some b45_154) hl165 (fun c e e2 => ne162 (e.trans e2.symm))
      have h171 := ha22.up RInt.ty (((le26.trans le33).trans le157).trans le166)
      have h164 : Sl 9 RIns (V155.fz (some b45_154) hl165) (.slice (some ⟨b45_154, 0, none⟩) 1 9) [x9] := Sl.mk1 RIns.ty (V := (V155.fz (some b45_154) hl165)) (.inr rfl) o159.get (⟨_, rfl, h171⟩)
      refine U.append (V := (V155.fz (some b45_154) hl165)) RIns.ty rfl rfl (.inl rfl) rfl (L 2 rfl rfl) (L 0 rfl rfl) Try.underlying31 ti42 rfl rfl Try.underlying31 nx167 h170 h164 (by (try simp only [List.length_nil, List.length_append, List.length_cons, List.length_map, List.length_take]); omega) (by (try simp only [List.length_nil, List.length_append, List.length_cons, List.length_map, List.length_take]); omega) (fun _ _ => nd) (fun v172 ob173 V174 le175 nx176 h177 tr178 => ?_)
      obtain ⟨o179, ne180⟩ := tr178 _ _ o169 ne29
      refine U.p rfl rfl (.inl rfl) (S.assign rfl (L 0 rfl rfl)) ?_
      refine U.done (Nat.le_of_ble_eq_true rfl) ?_
      refine blkN (sqN ?_)
      refine WP.ureg rfl ?_
      refine U.p rfl rfl (.inl rfl) (S.addI rfl (L 27 rfl rfl) K rfl (by omega) (by omega)) ?_
      refine U.p rfl rfl (.inl rfl) (S.move rfl (L 0 rfl rfl)) ?_
      refine U.done (Nat.le_of_ble_eq_true rfl) ?_
      refine sqN ?_
      have hm := merge_snoc code i x9 hx10
      refine ⟨_, _, V174, rfl, ⟨i + 1, v172, ob173, rfl, rfl, by omega, ((((((le3.trans le26).trans le33).trans le157).trans le166).trans le175)), nx176, (by rw [hm]; first | (rw [mstep_a (by omega)]; exact h177) | (rw [mstep_b (by assumption)]; exact h177) | (rw [mstep_c (by assumption) (by assumption)]; exact h177) | (rw [mstep_d (by assumption) (by assumption) (by assumption)]; exact h177))⟩, (by omega), allCons (L 0 rfl rfl) (allCons (L 30 rfl rfl) (allCons (L 31 rfl rfl) (allCons (L 2 rfl rfl) (allCons (L 33 rfl rfl) allNil))))⟩
  ·  -- c7: decide ((i : Int) < (code.length : Int)) is false
    have k181 := of_decide_eq_false c7
    refine WP.exit ?_
    refine sqE (sqE (blkE (sqN ?_)))
    refine WP.usreg rfl ?_
    refine U.p rfl rfl (.inl rfl) (S.move rfl (L 4 rfl rfl)) ?_
    refine U.p rfl rfl (.inl rfl) (S.assign rfl (L 0 rfl rfl)) ?_
    refine U.done (Nat.le_of_ble_eq_true rfl) ?_
    refine WP.ret ?_
    have hl182 := h6.lt
    have le183 := V1.fz_le (oO) hl182
    have hg185 : ∀ c, oO = some c → V.H.next ≤ c := fun c e => ((h6.oo c e).m).elim id (fun h => h.elim)
    have nx184 := nx2.fz (oO) hl182 hg185
    have h186 := h6.fz RIns.ty hl182
    refine fin.slot (.inr rfl) rfl (L 0 rfl rfl) ⟨(V1.fz (oO) hl182), rfl, nx184, ?_⟩
    have : i = code.length := by omega
    subst this; simpa using h186

set_option maxHeartbeats 1000000 in
theorem fnc20 (V : Vw) (x : Ins) (va : Value) (ha : Sl 1 RInt V va x.args) (o : Opt) : Cc Try.prog 0 20 #[.agg #[.int .i64 x.op, .int .i64 x.d, .int .i64 x.a, .int .i64 x.b, .int .i64 x.imm, va, .int .i64 x.what, .bool x.vol, .bool x.fin], .agg #[.bool o.naive, .bool o.bare, .bool o.merged]] V (fun _ => False) (fun v V' => Sl 9 RIns V' v (frozen x o)) := by
  refine Cc.of (Nat.zero_le _) Try.func20 rfl (Nat.le_of_ble_eq_true rfl) ?_
  have nx0 : Nx (fun b => V.H.next ≤ b ∨ False) V V := Nx.start
  refine WP.usreg rfl ?_
  refine U.box (V := V) rfl rfl (.inl rfl) rfl (L 0 rfl rfl) (by simp [topV]) (rfl) nd (fun b2_1 V2 n3 => ?_)
  have le4 := n3.le
  have nx5 := nx0.nw n3
  have o6 := n3.own nx0
  refine U.box (V := V2) rfl rfl (.inl rfl) rfl (L 2 rfl rfl) (by simp [topV]) (rfl) nd (fun b3_7 V8 n9 => ?_)
  have le10 := n9.le
  have nx11 := nx5.nw n9
  have o12 := n9.own nx5
  have ne13 := o6.neNw n9
  have o14 := o6.nw n9
  refine U.p rfl rfl (.inl rfl) (S.assign rfl K) ?_
  refine U.done (Nat.le_of_ble_eq_true rfl) ?_
  refine WP.seq ?_
  refine WP.usreg rfl ?_
  refine U.p (v := .pointer (some ⟨b2_1, 4, none⟩)) rfl rfl (.inl rfl) (S.fieldAddr rfl (L 2 rfl rfl) Try.underlying42 rfl ti3 rfl rfl) ?_
  refine U.k rfl rfl (.inl rfl) (S.load rfl (L 0 rfl rfl) Try.underlying3 rfl (o14.cell rfl)) nd ?_
  refine U.p rfl rfl (.inl rfl) (S.eqlI rfl (L 0 rfl rfl) K) ?_
  refine U.p rfl rfl (.inl rfl) (S.move rfl (L 0 rfl rfl)) ?_
  refine U.bs (L 0 rfl rfl) (fun g15 => ?_) (fun g15 => ?_)
  ·  -- g15: decide (x.imm = 1) is true
    have k16 := of_decide_eq_true g15
    refine U.p (v := .pointer (some ⟨b3_7, 1, none⟩)) rfl rfl (.inr ⟨_, _, _, rfl, rfl, (L 0 rfl rfl)⟩) (S.fieldAddr rfl (L 6 rfl rfl) Try.underlying27 rfl ti4 rfl rfl) ?_
    refine U.k rfl rfl (.inr ⟨_, _, _, rfl, rfl, (L 1 rfl rfl)⟩) (S.load rfl (L 0 rfl rfl) Try.underlying4 rfl (o12.cell rfl)) nd ?_
    refine U.p rfl rfl (.inl rfl) (S.pickT rfl (L 2 rfl rfl) (L 0 rfl rfl)) ?_
    refine U.done (Nat.le_of_ble_eq_true rfl) ?_
    refine WP.cond _ (L 0 rfl rfl) rfl (fun c17 => ?_) (fun c17 => ?_)
    ·  -- c17: o.bare is true
      refine WP.usreg rfl ?_
      refine U.p rfl rfl (.inl rfl) (S.assign rfl K) ?_
      refine U.done (Nat.le_of_ble_eq_true rfl) ?_
      refine WP.ret ?_
      refine sqR ?_
      refine fin.slot (.inr rfl) rfl (L 0 rfl rfl) ⟨V8, rfl, nx11, ?_⟩
      have hz := (Sl.nil : Sl 9 RIns V8 (.slice none 0 0) [])
      first | exact hz | (simp_all [frozen, syncI, lwI, acqI]; done)
    ·  -- c17: o.bare is false
      refine WP.skip ?_
      refine sqN ?_
      refine WP.usreg rfl ?_
      refine U.callL (V := V8) rfl rfl (.inl rfl) rfl en27 (aC K aN) (fnc27 V8 2) (fun _ _ => nd) (fun v18 V19 n20 p21 => ?_)
      have le22 := n20.le
      have nx23 := nx11.call n20 (fun _ h => h.elim)
      have o24 := o14.call n20 id
      have o25 := o12.call n20 id
      obtain rfl : v18 = .agg #[.int .i64 21, .int .i64 (-1), .int .i64 (-1), .int .i64 (-1), .int .i64 2, .slice none 0 0, .int .i64 0, .bool false, .bool false] := p21
      refine U.build1 (V := V19) rfl rfl (.inl rfl) rfl (L 0 rfl rfl) Try.underlying31 ti42 rfl rfl rfl (Nat.le_of_ble_eq_true rfl) (by simp [topV]) (rfl) rfl nd (fun b13_26 V27 n28 => ?_)
      have le29 := n28.le
      have nx30 := nx23.nw n28
      have o31 := n28.own nx23
      have ne32 := o24.neNw n28
      have o33 := o24.nw n28
      have ne34 := o25.neNw n28
      have o35 := o25.nw n28
      have hl37 : ∀ c, some b13_26 = some c → c < V27.H.next := fun c e => by cases e; exact o31.lt
      have le38 := V27.fz_le (some b13_26) hl37
      have hg40 : ∀ c, some b13_26 = some c → V.H.next ≤ c := fun c e => by cases e; exact (o31.m).elim id (fun h => h.elim)
      have nx39 := nx30.fz (some b13_26) hl37 hg40
      have o41 := o33.fz (some b13_26) hl37 (fun e => ne32 (by cases e; rfl))
      have o42 := o35.fz (some b13_26) hl37 (fun e => ne34 (by cases e; rfl))
      have h36 : Sl 9 RIns (V27.fz (some b13_26) hl37) (.slice (some ⟨b13_26, 0, none⟩) 1 9) [(⟨21, (-1), (-1), (-1), 2, [], 0, false, false⟩ : Ins)] := Sl.mk1 RIns.ty (V := (V27.fz (some b13_26) hl37)) (.inr rfl) o31.get (⟨_, rfl, Sl.nil⟩)
      refine U.p rfl rfl (.inl rfl) (S.assign rfl (L 0 rfl rfl)) ?_
      refine U.done (Nat.le_of_ble_eq_true rfl) ?_
      refine WP.ret ?_
      refine fin.slot (.inr rfl) rfl (L 0 rfl rfl) ⟨(V27.fz (some b13_26) hl37), rfl, nx39, ?_⟩
      have hz := h36
      first | exact hz | (simp_all [frozen, syncI, lwI, acqI]; done)
  ·  -- g15: decide (x.imm = 1) is false
    have k43 := of_decide_eq_false g15
    refine U.x rfl rfl rfl rfl (L 0 rfl rfl) (by decide) ?_
    refine U.x rfl rfl rfl rfl (L 1 rfl rfl) (by decide) ?_
    refine U.p rfl rfl (.inl rfl) (S.pickF rfl (L 2 rfl rfl) K) ?_
    refine U.done (Nat.le_of_ble_eq_true rfl) ?_
    refine WP.cond false (L 0 rfl rfl) rfl (fun h => by cases h) (fun _ => ?_)
    refine WP.skip ?_
    refine sqN ?_
    refine WP.usreg rfl ?_
    refine U.callL (V := V8) rfl rfl (.inl rfl) rfl en27 (aC K aN) (fnc27 V8 2) (fun _ _ => nd) (fun v44 V45 n46 p47 => ?_)
    have le48 := n46.le
    have nx49 := nx11.call n46 (fun _ h => h.elim)
    have o50 := o14.call n46 id
    have o51 := o12.call n46 id
    obtain rfl : v44 = .agg #[.int .i64 21, .int .i64 (-1), .int .i64 (-1), .int .i64 (-1), .int .i64 2, .slice none 0 0, .int .i64 0, .bool false, .bool false] := p47
    refine U.build1 (V := V45) rfl rfl (.inl rfl) rfl (L 0 rfl rfl) Try.underlying31 ti42 rfl rfl rfl (Nat.le_of_ble_eq_true rfl) (by simp [topV]) (rfl) rfl nd (fun b13_52 V53 n54 => ?_)
    have le55 := n54.le
    have nx56 := nx49.nw n54
    have o57 := n54.own nx49
    have ne58 := o50.neNw n54
    have o59 := o50.nw n54
    have ne60 := o51.neNw n54
    have o61 := o51.nw n54
    have hl63 : ∀ c, some b13_52 = some c → c < V53.H.next := fun c e => by cases e; exact o57.lt
    have le64 := V53.fz_le (some b13_52) hl63
    have hg66 : ∀ c, some b13_52 = some c → V.H.next ≤ c := fun c e => by cases e; exact (o57.m).elim id (fun h => h.elim)
    have nx65 := nx56.fz (some b13_52) hl63 hg66
    have o67 := o59.fz (some b13_52) hl63 (fun e => ne58 (by cases e; rfl))
    have o68 := o61.fz (some b13_52) hl63 (fun e => ne60 (by cases e; rfl))
    have h62 : Sl 9 RIns (V53.fz (some b13_52) hl63) (.slice (some ⟨b13_52, 0, none⟩) 1 9) [(⟨21, (-1), (-1), (-1), 2, [], 0, false, false⟩ : Ins)] := Sl.mk1 RIns.ty (V := (V53.fz (some b13_52) hl63)) (.inr rfl) o57.get (⟨_, rfl, Sl.nil⟩)
    refine U.p rfl rfl (.inl rfl) (S.assign rfl (L 0 rfl rfl)) ?_
    refine U.done (Nat.le_of_ble_eq_true rfl) ?_
    refine WP.ret ?_
    refine fin.slot (.inr rfl) rfl (L 0 rfl rfl) ⟨(V53.fz (some b13_52) hl63), rfl, nx65, ?_⟩
    have hz := h62
    first | exact hz | (simp_all [frozen, syncI, lwI, acqI]; done)

set_option maxHeartbeats 1000000 in
theorem fnc21 (V : Vw) (x : Ins) (va : Value) (ha : Sl 1 RInt V va x.args) (o : Opt) : Cc Try.prog 0 21 #[.agg #[.int .i64 x.op, .int .i64 x.d, .int .i64 x.a, .int .i64 x.b, .int .i64 x.imm, va, .int .i64 x.what, .bool x.vol, .bool x.fin], .agg #[.bool o.naive, .bool o.bare, .bool o.merged]] V (fun _ => False) (fun v V' => Sl 9 RIns V' v (ahead x o)) := by
  refine Cc.of (Nat.zero_le _) Try.func21 rfl (Nat.le_of_ble_eq_true rfl) ?_
  have nx0 : Nx (fun b => V.H.next ≤ b ∨ False) V V := Nx.start
  refine WP.usreg rfl ?_
  refine U.box (V := V) rfl rfl (.inl rfl) rfl (L 0 rfl rfl) (by simp [topV]) (rfl) nd (fun b2_1 V2 n3 => ?_)
  have le4 := n3.le
  have nx5 := nx0.nw n3
  have o6 := n3.own nx0
  refine U.box (V := V2) rfl rfl (.inl rfl) rfl (L 2 rfl rfl) (by simp [topV]) (rfl) nd (fun b3_7 V8 n9 => ?_)
  have le10 := n9.le
  have nx11 := nx5.nw n9
  have o12 := n9.own nx5
  have ne13 := o6.neNw n9
  have o14 := o6.nw n9
  refine U.p rfl rfl (.inl rfl) (S.assign rfl K) ?_
  refine U.done (Nat.le_of_ble_eq_true rfl) ?_
  refine WP.seq ?_
  refine WP.blk ?_
  refine WP.usreg rfl ?_
  refine U.p (v := .pointer (some ⟨b2_1, 0, none⟩)) rfl rfl (.inl rfl) (S.fieldAddr rfl (L 2 rfl rfl) Try.underlying42 rfl ti3 rfl rfl) ?_
  refine U.k rfl rfl (.inl rfl) (S.load rfl (L 0 rfl rfl) Try.underlying3 rfl (o14.cell rfl)) nd ?_
  refine U.p rfl rfl (.inl rfl) (S.eqlI rfl (L 0 rfl rfl) K) ?_
  refine U.p rfl rfl (.inl rfl) (S.move rfl (L 0 rfl rfl)) ?_
  refine U.bs (L 0 rfl rfl) (fun g15 => ?_) (fun g15 => ?_)
  ·  -- g15: decide (x.op = 9) is true
    have k16 := of_decide_eq_true g15
    refine U.p (v := .pointer (some ⟨b2_1, 7, none⟩)) rfl rfl (.inr ⟨_, _, _, rfl, rfl, (L 0 rfl rfl)⟩) (S.fieldAddr rfl (L 7 rfl rfl) Try.underlying42 rfl ti4 rfl rfl) ?_
    refine U.k rfl rfl (.inr ⟨_, _, _, rfl, rfl, (L 1 rfl rfl)⟩) (S.load rfl (L 0 rfl rfl) Try.underlying4 rfl (o14.cell rfl)) nd ?_
    refine U.p rfl rfl (.inl rfl) (S.pickT rfl (L 2 rfl rfl) (L 0 rfl rfl)) ?_
    refine U.p rfl rfl (.inl rfl) (S.move rfl (L 0 rfl rfl)) ?_
    refine U.bs (L 0 rfl rfl) (fun g17 => ?_) (fun g17 => ?_)
    ·  -- g17: x.vol is true
      refine U.p (v := .pointer (some ⟨b3_7, 0, none⟩)) rfl rfl (.inr ⟨_, _, _, rfl, rfl, (L 0 rfl rfl)⟩) (S.fieldAddr rfl (L 11 rfl rfl) Try.underlying27 rfl ti4 rfl rfl) ?_
      refine U.k rfl rfl (.inr ⟨_, _, _, rfl, rfl, (L 1 rfl rfl)⟩) (S.load rfl (L 0 rfl rfl) Try.underlying4 rfl (o12.cell rfl)) nd ?_
      refine U.p rfl rfl (.inr ⟨_, _, _, rfl, rfl, (L 2 rfl rfl)⟩) (S.not rfl (L 0 rfl rfl)) ?_
      refine U.p rfl rfl (.inl rfl) (S.pickT rfl (L 3 rfl rfl) (L 0 rfl rfl)) ?_
      refine U.p rfl rfl (.inl rfl) (S.assign rfl (L 0 rfl rfl)) ?_
      refine U.done (Nat.le_of_ble_eq_true rfl) ?_
      refine WP.cond _ (L 0 rfl rfl) rfl (fun c18 => ?_) (fun c18 => ?_)
      ·  -- c18: !o.naive is true
        have k19 : o.naive = false := by simpa using c18
        refine WP.usreg rfl ?_
        refine U.callL (V := V8) rfl rfl (.inl rfl) rfl en27 (aC K aN) (fnc27 V8 1) (fun _ _ => nd) (fun v20 V21 n22 p23 => ?_)
        have le24 := n22.le
        have nx25 := nx11.call n22 (fun _ h => h.elim)
        have o26 := o14.call n22 id
        have o27 := o12.call n22 id
        obtain rfl : v20 = .agg #[.int .i64 21, .int .i64 (-1), .int .i64 (-1), .int .i64 (-1), .int .i64 1, .slice none 0 0, .int .i64 0, .bool false, .bool false] := p23
        refine U.build1 (V := V21) rfl rfl (.inl rfl) rfl (L 0 rfl rfl) Try.underlying31 ti42 rfl rfl rfl (Nat.le_of_ble_eq_true rfl) (by simp [topV]) (rfl) rfl nd (fun b19_28 V29 n30 => ?_)
        have le31 := n30.le
        have nx32 := nx25.nw n30
        have o33 := n30.own nx25
        have ne34 := o26.neNw n30
        have o35 := o26.nw n30
        have ne36 := o27.neNw n30
        have o37 := o27.nw n30
        have hl39 : ∀ c, some b19_28 = some c → c < V29.H.next := fun c e => by cases e; exact o33.lt
        have le40 := V29.fz_le (some b19_28) hl39
        have hg42 : ∀ c, some b19_28 = some c → V.H.next ≤ c := fun c e => by cases e; exact (o33.m).elim id (fun h => h.elim)
        have nx41 := nx32.fz (some b19_28) hl39 hg42
        have o43 := o35.fz (some b19_28) hl39 (fun e => ne34 (by cases e; rfl))
        have o44 := o37.fz (some b19_28) hl39 (fun e => ne36 (by cases e; rfl))
        have h38 : Sl 9 RIns (V29.fz (some b19_28) hl39) (.slice (some ⟨b19_28, 0, none⟩) 1 9) [(⟨21, (-1), (-1), (-1), 1, [], 0, false, false⟩ : Ins)] := Sl.mk1 RIns.ty (V := (V29.fz (some b19_28) hl39)) (.inr rfl) o33.get (⟨_, rfl, Sl.nil⟩)
        refine U.p rfl rfl (.inl rfl) (S.assign rfl (L 0 rfl rfl)) ?_
        refine U.done (Nat.le_of_ble_eq_true rfl) ?_
        refine WP.ret ?_
        refine blkR (sqR ?_)
        refine fin.slot (.inr rfl) rfl (L 0 rfl rfl) ⟨(V29.fz (some b19_28) hl39), rfl, nx41, ?_⟩
        have hz := h38
        first | exact hz | (simp_all [ahead, syncI, lwI, acqI]; done)
      ·  -- c18: !o.naive is false
        have k45 : o.naive = true := by simpa using c18
        refine WP.usreg rfl ?_
        refine U.p (v := .pointer (some ⟨b2_1, 0, none⟩)) rfl rfl (.inl rfl) (S.fieldAddr rfl (L 17 rfl rfl) Try.underlying42 rfl ti3 rfl rfl) ?_
        refine U.k rfl rfl (.inl rfl) (S.load rfl (L 0 rfl rfl) Try.underlying3 rfl (o14.cell rfl)) nd ?_
        refine U.p rfl rfl (.inl rfl) (S.eqlI rfl (L 0 rfl rfl) K) ?_
        refine U.p rfl rfl (.inl rfl) (S.move rfl (L 0 rfl rfl)) ?_
        refine U.bs (L 0 rfl rfl) (fun g46 => ?_) (fun g46 => ?_)
        ·  -- g46: decide (x.op = 10) is true
          have k47 := of_decide_eq_true g46
          refine U.p (v := .pointer (some ⟨b2_1, 7, none⟩)) rfl rfl (.inr ⟨_, _, _, rfl, rfl, (L 0 rfl rfl)⟩) (S.fieldAddr rfl (L 22 rfl rfl) Try.underlying42 rfl ti4 rfl rfl) ?_
          refine U.k rfl rfl (.inr ⟨_, _, _, rfl, rfl, (L 1 rfl rfl)⟩) (S.load rfl (L 0 rfl rfl) Try.underlying4 rfl (o14.cell rfl)) nd ?_
          refine U.p rfl rfl (.inl rfl) (S.pickT rfl (L 2 rfl rfl) (L 0 rfl rfl)) ?_
          refine U.p rfl rfl (.inl rfl) (S.move rfl (L 0 rfl rfl)) ?_
          refine U.p (v := .pointer (some ⟨b3_7, 0, none⟩)) rfl rfl (.inr ⟨_, _, _, rfl, rfl, ((L 0 rfl rfl).trans (congrArg Value.bool g17))⟩) (S.fieldAddr rfl (L 25 rfl rfl) Try.underlying27 rfl ti4 rfl rfl) ?_
          refine U.k rfl rfl (.inr ⟨_, _, _, rfl, rfl, ((L 1 rfl rfl).trans (congrArg Value.bool g17))⟩) (S.load rfl (L 0 rfl rfl) Try.underlying4 rfl (o12.cell rfl)) nd ?_
          refine U.p rfl rfl (.inl rfl) (S.pickT rfl ((L 2 rfl rfl).trans (congrArg Value.bool g17)) (L 0 rfl rfl)) ?_
          refine U.p rfl rfl (.inl rfl) (S.assign rfl (L 0 rfl rfl)) ?_
          refine U.done (Nat.le_of_ble_eq_true rfl) ?_
          refine WP.cond true ((L 0 rfl rfl).trans (congrArg Value.bool k45)) rfl (fun _ => ?_) (fun h => by cases h)
          refine WP.usreg rfl ?_
          refine U.callL (V := V8) rfl rfl (.inl rfl) rfl en27 (aC K aN) (fnc27 V8 2) (fun _ _ => nd) (fun v48 V49 n50 p51 => ?_)
          have le52 := n50.le
          have nx53 := nx11.call n50 (fun _ h => h.elim)
          have o54 := o14.call n50 id
          have o55 := o12.call n50 id
          obtain rfl : v48 = .agg #[.int .i64 21, .int .i64 (-1), .int .i64 (-1), .int .i64 (-1), .int .i64 2, .slice none 0 0, .int .i64 0, .bool false, .bool false] := p51
          refine U.build1 (V := V49) rfl rfl (.inl rfl) rfl (L 0 rfl rfl) Try.underlying31 ti42 rfl rfl rfl (Nat.le_of_ble_eq_true rfl) (by simp [topV]) (rfl) rfl nd (fun b33_56 V57 n58 => ?_)
          have le59 := n58.le
          have nx60 := nx53.nw n58
          have o61 := n58.own nx53
          have ne62 := o54.neNw n58
          have o63 := o54.nw n58
          have ne64 := o55.neNw n58
          have o65 := o55.nw n58
          have hl67 : ∀ c, some b33_56 = some c → c < V57.H.next := fun c e => by cases e; exact o61.lt
          have le68 := V57.fz_le (some b33_56) hl67
          have hg70 : ∀ c, some b33_56 = some c → V.H.next ≤ c := fun c e => by cases e; exact (o61.m).elim id (fun h => h.elim)
          have nx69 := nx60.fz (some b33_56) hl67 hg70
          have o71 := o63.fz (some b33_56) hl67 (fun e => ne62 (by cases e; rfl))
          have o72 := o65.fz (some b33_56) hl67 (fun e => ne64 (by cases e; rfl))
          have h66 : Sl 9 RIns (V57.fz (some b33_56) hl67) (.slice (some ⟨b33_56, 0, none⟩) 1 9) [(⟨21, (-1), (-1), (-1), 2, [], 0, false, false⟩ : Ins)] := Sl.mk1 RIns.ty (V := (V57.fz (some b33_56) hl67)) (.inr rfl) o61.get (⟨_, rfl, Sl.nil⟩)
          refine U.p rfl rfl (.inl rfl) (S.assign rfl (L 0 rfl rfl)) ?_
          refine U.done (Nat.le_of_ble_eq_true rfl) ?_
          refine WP.ret ?_
          refine blkR (sqR ?_)
          refine fin.slot (.inr rfl) rfl (L 0 rfl rfl) ⟨(V57.fz (some b33_56) hl67), rfl, nx69, ?_⟩
          have hz := h66
          first | exact hz | (simp_all [ahead, syncI, lwI, acqI]; done)
        ·  -- g46: decide (x.op = 10) is false
          have k73 := of_decide_eq_false g46
          refine U.x rfl rfl rfl rfl (L 0 rfl rfl) (by decide) ?_
          refine U.x rfl rfl rfl rfl (L 1 rfl rfl) (by decide) ?_
          refine U.p rfl rfl (.inl rfl) (S.pickF rfl (L 2 rfl rfl) K) ?_
          refine U.p rfl rfl (.inl rfl) (S.move rfl (L 0 rfl rfl)) ?_
          refine U.x rfl rfl rfl rfl (L 0 rfl rfl) (by decide) ?_
          refine U.x rfl rfl rfl rfl (L 1 rfl rfl) (by decide) ?_
          refine U.p rfl rfl (.inl rfl) (S.pickF rfl (L 2 rfl rfl) K) ?_
          refine U.p rfl rfl (.inl rfl) (S.assign rfl (L 0 rfl rfl)) ?_
          refine U.done (Nat.le_of_ble_eq_true rfl) ?_
          refine WP.cond false (L 0 rfl rfl) rfl (fun h => by cases h) (fun _ => ?_)
          refine WP.seq ?_
          refine WP.usreg rfl ?_
          refine U.p (v := .pointer (some ⟨b2_1, 0, none⟩)) rfl rfl (.inl rfl) (S.fieldAddr rfl (L 30 rfl rfl) Try.underlying42 rfl ti3 rfl rfl) ?_
          refine U.k rfl rfl (.inl rfl) (S.load rfl (L 0 rfl rfl) Try.underlying3 rfl (o14.cell rfl)) nd ?_
          refine U.p rfl rfl (.inl rfl) (S.eqlI rfl (L 0 rfl rfl) K) ?_
          refine U.p rfl rfl (.inl rfl) (S.move rfl (L 0 rfl rfl)) ?_
          refine U.x rfl rfl rfl rfl ((L 0 rfl rfl).trans (congrArg Value.bool g46)) (by decide) ?_
          refine U.x rfl rfl rfl rfl ((L 1 rfl rfl).trans (congrArg Value.bool g46)) (by decide) ?_
          refine U.p rfl rfl (.inl rfl) (S.pickF rfl ((L 2 rfl rfl).trans (congrArg Value.bool g46)) K) ?_
          refine U.p rfl rfl (.inl rfl) (S.assign rfl (L 0 rfl rfl)) ?_
          refine U.done (Nat.le_of_ble_eq_true rfl) ?_
          refine WP.cond false (L 0 rfl rfl) rfl (fun h => by cases h) (fun _ => ?_)
          refine WP.usreg rfl ?_
          refine U.p (v := .pointer (some ⟨b2_1, 0, none⟩)) rfl rfl (.inl rfl) (S.fieldAddr rfl (L 38 rfl rfl) Try.underlying42 rfl ti3 rfl rfl) ?_
          refine U.k rfl rfl (.inl rfl) (S.load rfl (L 0 rfl rfl) Try.underlying3 rfl (o14.cell rfl)) nd ?_
          refine U.p rfl rfl (.inl rfl) (S.eqlI rfl (L 0 rfl rfl) K) ?_
          refine U.p rfl rfl (.inl rfl) (S.assign rfl (L 0 rfl rfl)) ?_
          refine U.done (Nat.le_of_ble_eq_true rfl) ?_
          refine WP.cond _ (L 0 rfl rfl) rfl (fun c74 => ?_) (fun c74 => ?_)
          ·  -- c74: decide (x.op = 18) is true
            have k75 := of_decide_eq_true c74
            refine WP.skip ?_
            refine sqN ?_
            refine WP.cond true ((L 0 rfl rfl).trans (congrArg Value.bool c74)) rfl (fun _ => ?_) (fun h => by cases h)
            refine WP.usreg rfl ?_
            refine U.callL (V := V8) rfl rfl (.inl rfl) rfl en27 (aC K aN) (fnc27 V8 1) (fun _ _ => nd) (fun v76 V77 n78 p79 => ?_)
            have le80 := n78.le
            have nx81 := nx11.call n78 (fun _ h => h.elim)
            have o82 := o14.call n78 id
            have o83 := o12.call n78 id
            obtain rfl : v76 = .agg #[.int .i64 21, .int .i64 (-1), .int .i64 (-1), .int .i64 (-1), .int .i64 1, .slice none 0 0, .int .i64 0, .bool false, .bool false] := p79
            refine U.build1 (V := V77) rfl rfl (.inl rfl) rfl (L 0 rfl rfl) Try.underlying31 ti42 rfl rfl rfl (Nat.le_of_ble_eq_true rfl) (by simp [topV]) (rfl) rfl nd (fun b49_84 V85 n86 => ?_)
            have le87 := n86.le
            have nx88 := nx81.nw n86
            have o89 := n86.own nx81
            have ne90 := o82.neNw n86
            have o91 := o82.nw n86
            have ne92 := o83.neNw n86
            have o93 := o83.nw n86
            have hl95 : ∀ c, some b49_84 = some c → c < V85.H.next := fun c e => by cases e; exact o89.lt
            have le96 := V85.fz_le (some b49_84) hl95
            have hg98 : ∀ c, some b49_84 = some c → V.H.next ≤ c := fun c e => by cases e; exact (o89.m).elim id (fun h => h.elim)
            have nx97 := nx88.fz (some b49_84) hl95 hg98
            have o99 := o91.fz (some b49_84) hl95 (fun e => ne90 (by cases e; rfl))
            have o100 := o93.fz (some b49_84) hl95 (fun e => ne92 (by cases e; rfl))
            have h94 : Sl 9 RIns (V85.fz (some b49_84) hl95) (.slice (some ⟨b49_84, 0, none⟩) 1 9) [(⟨21, (-1), (-1), (-1), 1, [], 0, false, false⟩ : Ins)] := Sl.mk1 RIns.ty (V := (V85.fz (some b49_84) hl95)) (.inr rfl) o89.get (⟨_, rfl, Sl.nil⟩)
            refine U.p rfl rfl (.inl rfl) (S.assign rfl (L 0 rfl rfl)) ?_
            refine U.done (Nat.le_of_ble_eq_true rfl) ?_
            refine WP.ret ?_
            refine blkR (sqR ?_)
            refine fin.slot (.inr rfl) rfl (L 0 rfl rfl) ⟨(V85.fz (some b49_84) hl95), rfl, nx97, ?_⟩
            have hz := h94
            first | exact hz | (simp_all [ahead, syncI, lwI, acqI]; done)
          ·  -- c74: decide (x.op = 18) is false
            have k101 := of_decide_eq_false c74
            refine WP.ureg rfl ?_
            refine U.p (v := .pointer (some ⟨b2_1, 0, none⟩)) rfl rfl (.inl rfl) (S.fieldAddr rfl (L 42 rfl rfl) Try.underlying42 rfl ti3 rfl rfl) ?_
            refine U.k rfl rfl (.inl rfl) (S.load rfl (L 0 rfl rfl) Try.underlying3 rfl (o14.cell rfl)) nd ?_
            refine U.p rfl rfl (.inl rfl) (S.eqlI rfl (L 0 rfl rfl) K) ?_
            refine U.p rfl rfl (.inl rfl) (S.assign rfl (L 0 rfl rfl)) ?_
            refine U.done (Nat.le_of_ble_eq_true rfl) ?_
            refine sqN ?_
            refine WP.cond _ (L 0 rfl rfl) rfl (fun c102 => ?_) (fun c102 => ?_)
            ·  -- c102: decide (x.op = 19) is true
              have k103 := of_decide_eq_true c102
              refine WP.usreg rfl ?_
              refine U.callL (V := V8) rfl rfl (.inl rfl) rfl en27 (aC K aN) (fnc27 V8 1) (fun _ _ => nd) (fun v104 V105 n106 p107 => ?_)
              have le108 := n106.le
              have nx109 := nx11.call n106 (fun _ h => h.elim)
              have o110 := o14.call n106 id
              have o111 := o12.call n106 id
              obtain rfl : v104 = .agg #[.int .i64 21, .int .i64 (-1), .int .i64 (-1), .int .i64 (-1), .int .i64 1, .slice none 0 0, .int .i64 0, .bool false, .bool false] := p107
              refine U.build1 (V := V105) rfl rfl (.inl rfl) rfl (L 0 rfl rfl) Try.underlying31 ti42 rfl rfl rfl (Nat.le_of_ble_eq_true rfl) (by simp [topV]) (rfl) rfl nd (fun b49_112 V113 n114 => ?_)
              have le115 := n114.le
              have nx116 := nx109.nw n114
              have o117 := n114.own nx109
              have ne118 := o110.neNw n114
              have o119 := o110.nw n114
              have ne120 := o111.neNw n114
              have o121 := o111.nw n114
              have hl123 : ∀ c, some b49_112 = some c → c < V113.H.next := fun c e => by cases e; exact o117.lt
              have le124 := V113.fz_le (some b49_112) hl123
              have hg126 : ∀ c, some b49_112 = some c → V.H.next ≤ c := fun c e => by cases e; exact (o117.m).elim id (fun h => h.elim)
              have nx125 := nx116.fz (some b49_112) hl123 hg126
              have o127 := o119.fz (some b49_112) hl123 (fun e => ne118 (by cases e; rfl))
              have o128 := o121.fz (some b49_112) hl123 (fun e => ne120 (by cases e; rfl))
              have h122 : Sl 9 RIns (V113.fz (some b49_112) hl123) (.slice (some ⟨b49_112, 0, none⟩) 1 9) [(⟨21, (-1), (-1), (-1), 1, [], 0, false, false⟩ : Ins)] := Sl.mk1 RIns.ty (V := (V113.fz (some b49_112) hl123)) (.inr rfl) o117.get (⟨_, rfl, Sl.nil⟩)
              refine U.p rfl rfl (.inl rfl) (S.assign rfl (L 0 rfl rfl)) ?_
              refine U.done (Nat.le_of_ble_eq_true rfl) ?_
              refine WP.ret ?_
              refine blkR (sqR ?_)
              refine fin.slot (.inr rfl) rfl (L 0 rfl rfl) ⟨(V113.fz (some b49_112) hl123), rfl, nx125, ?_⟩
              have hz := h122
              first | exact hz | (simp_all [ahead, syncI, lwI, acqI]; done)
            ·  -- c102: decide (x.op = 19) is false
              have k129 := of_decide_eq_false c102
              refine WP.skip ?_
              refine blkN (sqN ?_)
              refine WP.usreg rfl ?_
              refine U.p rfl rfl (.inl rfl) (S.assign rfl K) ?_
              refine U.done (Nat.le_of_ble_eq_true rfl) ?_
              refine WP.ret ?_
              refine fin.slot (.inr rfl) rfl (L 0 rfl rfl) ⟨V8, rfl, nx11, ?_⟩
              have hz := (Sl.nil : Sl 9 RIns V8 (.slice none 0 0) [])
              first | exact hz | (simp_all [ahead, syncI, lwI, acqI]; done)
    ·  -- g17: x.vol is false
      refine U.x rfl rfl rfl rfl (L 0 rfl rfl) (by decide) ?_
      refine U.x rfl rfl rfl rfl (L 1 rfl rfl) (by decide) ?_
      refine U.x rfl rfl rfl rfl (L 2 rfl rfl) (by decide) ?_
      refine U.p rfl rfl (.inl rfl) (S.pickF rfl (L 3 rfl rfl) K) ?_
      refine U.p rfl rfl (.inl rfl) (S.assign rfl (L 0 rfl rfl)) ?_
      refine U.done (Nat.le_of_ble_eq_true rfl) ?_
      refine WP.cond false (L 0 rfl rfl) rfl (fun h => by cases h) (fun _ => ?_)
      refine WP.usreg rfl ?_
      refine U.p (v := .pointer (some ⟨b2_1, 0, none⟩)) rfl rfl (.inl rfl) (S.fieldAddr rfl (L 17 rfl rfl) Try.underlying42 rfl ti3 rfl rfl) ?_
      refine U.k rfl rfl (.inl rfl) (S.load rfl (L 0 rfl rfl) Try.underlying3 rfl (o14.cell rfl)) nd ?_
      refine U.p rfl rfl (.inl rfl) (S.eqlI rfl (L 0 rfl rfl) K) ?_
      refine U.p rfl rfl (.inl rfl) (S.move rfl (L 0 rfl rfl)) ?_
      refine U.bs (L 0 rfl rfl) (fun g130 => ?_) (fun g130 => ?_)
      ·  -- g130: decide (x.op = 10) is true
        have k131 := of_decide_eq_true g130
        refine U.p (v := .pointer (some ⟨b2_1, 7, none⟩)) rfl rfl (.inr ⟨_, _, _, rfl, rfl, (L 0 rfl rfl)⟩) (S.fieldAddr rfl (L 22 rfl rfl) Try.underlying42 rfl ti4 rfl rfl) ?_
        refine U.k rfl rfl (.inr ⟨_, _, _, rfl, rfl, (L 1 rfl rfl)⟩) (S.load rfl (L 0 rfl rfl) Try.underlying4 rfl (o14.cell rfl)) nd ?_
        refine U.p rfl rfl (.inl rfl) (S.pickT rfl (L 2 rfl rfl) (L 0 rfl rfl)) ?_
        refine U.p rfl rfl (.inl rfl) (S.move rfl (L 0 rfl rfl)) ?_
        refine U.x rfl rfl rfl rfl ((L 0 rfl rfl).trans (congrArg Value.bool g17)) (by decide) ?_
        refine U.x rfl rfl rfl rfl ((L 1 rfl rfl).trans (congrArg Value.bool g17)) (by decide) ?_
        refine U.p rfl rfl (.inl rfl) (S.pickF rfl ((L 2 rfl rfl).trans (congrArg Value.bool g17)) K) ?_
        refine U.p rfl rfl (.inl rfl) (S.assign rfl (L 0 rfl rfl)) ?_
        refine U.done (Nat.le_of_ble_eq_true rfl) ?_
        refine WP.cond false (L 0 rfl rfl) rfl (fun h => by cases h) (fun _ => ?_)
        refine WP.seq ?_
        refine WP.usreg rfl ?_
        refine U.p (v := .pointer (some ⟨b2_1, 0, none⟩)) rfl rfl (.inl rfl) (S.fieldAddr rfl (L 30 rfl rfl) Try.underlying42 rfl ti3 rfl rfl) ?_
        refine U.k rfl rfl (.inl rfl) (S.load rfl (L 0 rfl rfl) Try.underlying3 rfl (o14.cell rfl)) nd ?_
        refine U.p rfl rfl (.inl rfl) (S.eqlI rfl (L 0 rfl rfl) K) ?_
        refine U.p rfl rfl (.inl rfl) (S.move rfl (L 0 rfl rfl)) ?_
        refine U.p (v := .pointer (some ⟨b2_1, 7, none⟩)) rfl rfl (.inr ⟨_, _, _, rfl, rfl, ((L 0 rfl rfl).trans (congrArg Value.bool g130))⟩) (S.fieldAddr rfl (L 34 rfl rfl) Try.underlying42 rfl ti4 rfl rfl) ?_
        refine U.k rfl rfl (.inr ⟨_, _, _, rfl, rfl, ((L 1 rfl rfl).trans (congrArg Value.bool g130))⟩) (S.load rfl (L 0 rfl rfl) Try.underlying4 rfl (o14.cell rfl)) nd ?_
        refine U.p rfl rfl (.inl rfl) (S.pickT rfl ((L 2 rfl rfl).trans (congrArg Value.bool g130)) (L 0 rfl rfl)) ?_
        refine U.p rfl rfl (.inl rfl) (S.assign rfl (L 0 rfl rfl)) ?_
        refine U.done (Nat.le_of_ble_eq_true rfl) ?_
        refine WP.cond false ((L 0 rfl rfl).trans (congrArg Value.bool g17)) rfl (fun h => by cases h) (fun _ => ?_)
        refine WP.usreg rfl ?_
        refine U.p (v := .pointer (some ⟨b2_1, 0, none⟩)) rfl rfl (.inl rfl) (S.fieldAddr rfl (L 38 rfl rfl) Try.underlying42 rfl ti3 rfl rfl) ?_
        refine U.k rfl rfl (.inl rfl) (S.load rfl (L 0 rfl rfl) Try.underlying3 rfl (o14.cell rfl)) nd ?_
        refine U.p rfl rfl (.inl rfl) (S.eqlI rfl (L 0 rfl rfl) K) ?_
        refine U.p rfl rfl (.inl rfl) (S.assign rfl (L 0 rfl rfl)) ?_
        refine U.done (Nat.le_of_ble_eq_true rfl) ?_
        refine WP.cond _ (L 0 rfl rfl) rfl (fun c132 => ?_) (fun c132 => ?_)
        ·  -- c132: decide (x.op = 18) is true
          have k133 := of_decide_eq_true c132
          refine WP.skip ?_
          refine sqN ?_
          refine WP.cond true ((L 0 rfl rfl).trans (congrArg Value.bool c132)) rfl (fun _ => ?_) (fun h => by cases h)
          refine WP.usreg rfl ?_
          refine U.callL (V := V8) rfl rfl (.inl rfl) rfl en27 (aC K aN) (fnc27 V8 1) (fun _ _ => nd) (fun v134 V135 n136 p137 => ?_)
          have le138 := n136.le
          have nx139 := nx11.call n136 (fun _ h => h.elim)
          have o140 := o14.call n136 id
          have o141 := o12.call n136 id
          obtain rfl : v134 = .agg #[.int .i64 21, .int .i64 (-1), .int .i64 (-1), .int .i64 (-1), .int .i64 1, .slice none 0 0, .int .i64 0, .bool false, .bool false] := p137
          refine U.build1 (V := V135) rfl rfl (.inl rfl) rfl (L 0 rfl rfl) Try.underlying31 ti42 rfl rfl rfl (Nat.le_of_ble_eq_true rfl) (by simp [topV]) (rfl) rfl nd (fun b49_142 V143 n144 => ?_)
          have le145 := n144.le
          have nx146 := nx139.nw n144
          have o147 := n144.own nx139
          have ne148 := o140.neNw n144
          have o149 := o140.nw n144
          have ne150 := o141.neNw n144
          have o151 := o141.nw n144
          have hl153 : ∀ c, some b49_142 = some c → c < V143.H.next := fun c e => by cases e; exact o147.lt
          have le154 := V143.fz_le (some b49_142) hl153
          have hg156 : ∀ c, some b49_142 = some c → V.H.next ≤ c := fun c e => by cases e; exact (o147.m).elim id (fun h => h.elim)
          have nx155 := nx146.fz (some b49_142) hl153 hg156
          have o157 := o149.fz (some b49_142) hl153 (fun e => ne148 (by cases e; rfl))
          have o158 := o151.fz (some b49_142) hl153 (fun e => ne150 (by cases e; rfl))
          have h152 : Sl 9 RIns (V143.fz (some b49_142) hl153) (.slice (some ⟨b49_142, 0, none⟩) 1 9) [(⟨21, (-1), (-1), (-1), 1, [], 0, false, false⟩ : Ins)] := Sl.mk1 RIns.ty (V := (V143.fz (some b49_142) hl153)) (.inr rfl) o147.get (⟨_, rfl, Sl.nil⟩)
          refine U.p rfl rfl (.inl rfl) (S.assign rfl (L 0 rfl rfl)) ?_
          refine U.done (Nat.le_of_ble_eq_true rfl) ?_
          refine WP.ret ?_
          refine blkR (sqR ?_)
          refine fin.slot (.inr rfl) rfl (L 0 rfl rfl) ⟨(V143.fz (some b49_142) hl153), rfl, nx155, ?_⟩
          have hz := h152
          first | exact hz | (simp_all [ahead, syncI, lwI, acqI]; done)
        ·  -- c132: decide (x.op = 18) is false
          have k159 := of_decide_eq_false c132
          refine WP.ureg rfl ?_
          refine U.p (v := .pointer (some ⟨b2_1, 0, none⟩)) rfl rfl (.inl rfl) (S.fieldAddr rfl (L 42 rfl rfl) Try.underlying42 rfl ti3 rfl rfl) ?_
          refine U.k rfl rfl (.inl rfl) (S.load rfl (L 0 rfl rfl) Try.underlying3 rfl (o14.cell rfl)) nd ?_
          refine U.p rfl rfl (.inl rfl) (S.eqlI rfl (L 0 rfl rfl) K) ?_
          refine U.p rfl rfl (.inl rfl) (S.assign rfl (L 0 rfl rfl)) ?_
          refine U.done (Nat.le_of_ble_eq_true rfl) ?_
          refine sqN ?_
          refine WP.cond _ (L 0 rfl rfl) rfl (fun c160 => ?_) (fun c160 => ?_)
          ·  -- c160: decide (x.op = 19) is true
            have k161 := of_decide_eq_true c160
            refine WP.usreg rfl ?_
            refine U.callL (V := V8) rfl rfl (.inl rfl) rfl en27 (aC K aN) (fnc27 V8 1) (fun _ _ => nd) (fun v162 V163 n164 p165 => ?_)
            have le166 := n164.le
            have nx167 := nx11.call n164 (fun _ h => h.elim)
            have o168 := o14.call n164 id
            have o169 := o12.call n164 id
            obtain rfl : v162 = .agg #[.int .i64 21, .int .i64 (-1), .int .i64 (-1), .int .i64 (-1), .int .i64 1, .slice none 0 0, .int .i64 0, .bool false, .bool false] := p165
            refine U.build1 (V := V163) rfl rfl (.inl rfl) rfl (L 0 rfl rfl) Try.underlying31 ti42 rfl rfl rfl (Nat.le_of_ble_eq_true rfl) (by simp [topV]) (rfl) rfl nd (fun b49_170 V171 n172 => ?_)
            have le173 := n172.le
            have nx174 := nx167.nw n172
            have o175 := n172.own nx167
            have ne176 := o168.neNw n172
            have o177 := o168.nw n172
            have ne178 := o169.neNw n172
            have o179 := o169.nw n172
            have hl181 : ∀ c, some b49_170 = some c → c < V171.H.next := fun c e => by cases e; exact o175.lt
            have le182 := V171.fz_le (some b49_170) hl181
            have hg184 : ∀ c, some b49_170 = some c → V.H.next ≤ c := fun c e => by cases e; exact (o175.m).elim id (fun h => h.elim)
            have nx183 := nx174.fz (some b49_170) hl181 hg184
            have o185 := o177.fz (some b49_170) hl181 (fun e => ne176 (by cases e; rfl))
            have o186 := o179.fz (some b49_170) hl181 (fun e => ne178 (by cases e; rfl))
            have h180 : Sl 9 RIns (V171.fz (some b49_170) hl181) (.slice (some ⟨b49_170, 0, none⟩) 1 9) [(⟨21, (-1), (-1), (-1), 1, [], 0, false, false⟩ : Ins)] := Sl.mk1 RIns.ty (V := (V171.fz (some b49_170) hl181)) (.inr rfl) o175.get (⟨_, rfl, Sl.nil⟩)
            refine U.p rfl rfl (.inl rfl) (S.assign rfl (L 0 rfl rfl)) ?_
            refine U.done (Nat.le_of_ble_eq_true rfl) ?_
            refine WP.ret ?_
            refine blkR (sqR ?_)
            refine fin.slot (.inr rfl) rfl (L 0 rfl rfl) ⟨(V171.fz (some b49_170) hl181), rfl, nx183, ?_⟩
            have hz := h180
            first | exact hz | (simp_all [ahead, syncI, lwI, acqI]; done)
          ·  -- c160: decide (x.op = 19) is false
            have k187 := of_decide_eq_false c160
            refine WP.skip ?_
            refine blkN (sqN ?_)
            refine WP.usreg rfl ?_
            refine U.p rfl rfl (.inl rfl) (S.assign rfl K) ?_
            refine U.done (Nat.le_of_ble_eq_true rfl) ?_
            refine WP.ret ?_
            refine fin.slot (.inr rfl) rfl (L 0 rfl rfl) ⟨V8, rfl, nx11, ?_⟩
            have hz := (Sl.nil : Sl 9 RIns V8 (.slice none 0 0) [])
            first | exact hz | (simp_all [ahead, syncI, lwI, acqI]; done)
      ·  -- g130: decide (x.op = 10) is false
        have k188 := of_decide_eq_false g130
        refine U.x rfl rfl rfl rfl (L 0 rfl rfl) (by decide) ?_
        refine U.x rfl rfl rfl rfl (L 1 rfl rfl) (by decide) ?_
        refine U.p rfl rfl (.inl rfl) (S.pickF rfl (L 2 rfl rfl) K) ?_
        refine U.p rfl rfl (.inl rfl) (S.move rfl (L 0 rfl rfl)) ?_
        refine U.x rfl rfl rfl rfl (L 0 rfl rfl) (by decide) ?_
        refine U.x rfl rfl rfl rfl (L 1 rfl rfl) (by decide) ?_
        refine U.p rfl rfl (.inl rfl) (S.pickF rfl (L 2 rfl rfl) K) ?_
        refine U.p rfl rfl (.inl rfl) (S.assign rfl (L 0 rfl rfl)) ?_
        refine U.done (Nat.le_of_ble_eq_true rfl) ?_
        refine WP.cond false (L 0 rfl rfl) rfl (fun h => by cases h) (fun _ => ?_)
        refine WP.seq ?_
        refine WP.usreg rfl ?_
        refine U.p (v := .pointer (some ⟨b2_1, 0, none⟩)) rfl rfl (.inl rfl) (S.fieldAddr rfl (L 30 rfl rfl) Try.underlying42 rfl ti3 rfl rfl) ?_
        refine U.k rfl rfl (.inl rfl) (S.load rfl (L 0 rfl rfl) Try.underlying3 rfl (o14.cell rfl)) nd ?_
        refine U.p rfl rfl (.inl rfl) (S.eqlI rfl (L 0 rfl rfl) K) ?_
        refine U.p rfl rfl (.inl rfl) (S.move rfl (L 0 rfl rfl)) ?_
        refine U.x rfl rfl rfl rfl ((L 0 rfl rfl).trans (congrArg Value.bool g130)) (by decide) ?_
        refine U.x rfl rfl rfl rfl ((L 1 rfl rfl).trans (congrArg Value.bool g130)) (by decide) ?_
        refine U.p rfl rfl (.inl rfl) (S.pickF rfl ((L 2 rfl rfl).trans (congrArg Value.bool g130)) K) ?_
        refine U.p rfl rfl (.inl rfl) (S.assign rfl (L 0 rfl rfl)) ?_
        refine U.done (Nat.le_of_ble_eq_true rfl) ?_
        refine WP.cond false (L 0 rfl rfl) rfl (fun h => by cases h) (fun _ => ?_)
        refine WP.usreg rfl ?_
        refine U.p (v := .pointer (some ⟨b2_1, 0, none⟩)) rfl rfl (.inl rfl) (S.fieldAddr rfl (L 38 rfl rfl) Try.underlying42 rfl ti3 rfl rfl) ?_
        refine U.k rfl rfl (.inl rfl) (S.load rfl (L 0 rfl rfl) Try.underlying3 rfl (o14.cell rfl)) nd ?_
        refine U.p rfl rfl (.inl rfl) (S.eqlI rfl (L 0 rfl rfl) K) ?_
        refine U.p rfl rfl (.inl rfl) (S.assign rfl (L 0 rfl rfl)) ?_
        refine U.done (Nat.le_of_ble_eq_true rfl) ?_
        refine WP.cond _ (L 0 rfl rfl) rfl (fun c189 => ?_) (fun c189 => ?_)
        ·  -- c189: decide (x.op = 18) is true
          have k190 := of_decide_eq_true c189
          refine WP.skip ?_
          refine sqN ?_
          refine WP.cond true ((L 0 rfl rfl).trans (congrArg Value.bool c189)) rfl (fun _ => ?_) (fun h => by cases h)
          refine WP.usreg rfl ?_
          refine U.callL (V := V8) rfl rfl (.inl rfl) rfl en27 (aC K aN) (fnc27 V8 1) (fun _ _ => nd) (fun v191 V192 n193 p194 => ?_)
          have le195 := n193.le
          have nx196 := nx11.call n193 (fun _ h => h.elim)
          have o197 := o14.call n193 id
          have o198 := o12.call n193 id
          obtain rfl : v191 = .agg #[.int .i64 21, .int .i64 (-1), .int .i64 (-1), .int .i64 (-1), .int .i64 1, .slice none 0 0, .int .i64 0, .bool false, .bool false] := p194
          refine U.build1 (V := V192) rfl rfl (.inl rfl) rfl (L 0 rfl rfl) Try.underlying31 ti42 rfl rfl rfl (Nat.le_of_ble_eq_true rfl) (by simp [topV]) (rfl) rfl nd (fun b49_199 V200 n201 => ?_)
          have le202 := n201.le
          have nx203 := nx196.nw n201
          have o204 := n201.own nx196
          have ne205 := o197.neNw n201
          have o206 := o197.nw n201
          have ne207 := o198.neNw n201
          have o208 := o198.nw n201
          have hl210 : ∀ c, some b49_199 = some c → c < V200.H.next := fun c e => by cases e; exact o204.lt
          have le211 := V200.fz_le (some b49_199) hl210
          have hg213 : ∀ c, some b49_199 = some c → V.H.next ≤ c := fun c e => by cases e; exact (o204.m).elim id (fun h => h.elim)
          have nx212 := nx203.fz (some b49_199) hl210 hg213
          have o214 := o206.fz (some b49_199) hl210 (fun e => ne205 (by cases e; rfl))
          have o215 := o208.fz (some b49_199) hl210 (fun e => ne207 (by cases e; rfl))
          have h209 : Sl 9 RIns (V200.fz (some b49_199) hl210) (.slice (some ⟨b49_199, 0, none⟩) 1 9) [(⟨21, (-1), (-1), (-1), 1, [], 0, false, false⟩ : Ins)] := Sl.mk1 RIns.ty (V := (V200.fz (some b49_199) hl210)) (.inr rfl) o204.get (⟨_, rfl, Sl.nil⟩)
          refine U.p rfl rfl (.inl rfl) (S.assign rfl (L 0 rfl rfl)) ?_
          refine U.done (Nat.le_of_ble_eq_true rfl) ?_
          refine WP.ret ?_
          refine blkR (sqR ?_)
          refine fin.slot (.inr rfl) rfl (L 0 rfl rfl) ⟨(V200.fz (some b49_199) hl210), rfl, nx212, ?_⟩
          have hz := h209
          first | exact hz | (simp_all [ahead, syncI, lwI, acqI]; done)
        ·  -- c189: decide (x.op = 18) is false
          have k216 := of_decide_eq_false c189
          refine WP.ureg rfl ?_
          refine U.p (v := .pointer (some ⟨b2_1, 0, none⟩)) rfl rfl (.inl rfl) (S.fieldAddr rfl (L 42 rfl rfl) Try.underlying42 rfl ti3 rfl rfl) ?_
          refine U.k rfl rfl (.inl rfl) (S.load rfl (L 0 rfl rfl) Try.underlying3 rfl (o14.cell rfl)) nd ?_
          refine U.p rfl rfl (.inl rfl) (S.eqlI rfl (L 0 rfl rfl) K) ?_
          refine U.p rfl rfl (.inl rfl) (S.assign rfl (L 0 rfl rfl)) ?_
          refine U.done (Nat.le_of_ble_eq_true rfl) ?_
          refine sqN ?_
          refine WP.cond _ (L 0 rfl rfl) rfl (fun c217 => ?_) (fun c217 => ?_)
          ·  -- c217: decide (x.op = 19) is true
            have k218 := of_decide_eq_true c217
            refine WP.usreg rfl ?_
            refine U.callL (V := V8) rfl rfl (.inl rfl) rfl en27 (aC K aN) (fnc27 V8 1) (fun _ _ => nd) (fun v219 V220 n221 p222 => ?_)
            have le223 := n221.le
            have nx224 := nx11.call n221 (fun _ h => h.elim)
            have o225 := o14.call n221 id
            have o226 := o12.call n221 id
            obtain rfl : v219 = .agg #[.int .i64 21, .int .i64 (-1), .int .i64 (-1), .int .i64 (-1), .int .i64 1, .slice none 0 0, .int .i64 0, .bool false, .bool false] := p222
            refine U.build1 (V := V220) rfl rfl (.inl rfl) rfl (L 0 rfl rfl) Try.underlying31 ti42 rfl rfl rfl (Nat.le_of_ble_eq_true rfl) (by simp [topV]) (rfl) rfl nd (fun b49_227 V228 n229 => ?_)
            have le230 := n229.le
            have nx231 := nx224.nw n229
            have o232 := n229.own nx224
            have ne233 := o225.neNw n229
            have o234 := o225.nw n229
            have ne235 := o226.neNw n229
            have o236 := o226.nw n229
            have hl238 : ∀ c, some b49_227 = some c → c < V228.H.next := fun c e => by cases e; exact o232.lt
            have le239 := V228.fz_le (some b49_227) hl238
            have hg241 : ∀ c, some b49_227 = some c → V.H.next ≤ c := fun c e => by cases e; exact (o232.m).elim id (fun h => h.elim)
            have nx240 := nx231.fz (some b49_227) hl238 hg241
            have o242 := o234.fz (some b49_227) hl238 (fun e => ne233 (by cases e; rfl))
            have o243 := o236.fz (some b49_227) hl238 (fun e => ne235 (by cases e; rfl))
            have h237 : Sl 9 RIns (V228.fz (some b49_227) hl238) (.slice (some ⟨b49_227, 0, none⟩) 1 9) [(⟨21, (-1), (-1), (-1), 1, [], 0, false, false⟩ : Ins)] := Sl.mk1 RIns.ty (V := (V228.fz (some b49_227) hl238)) (.inr rfl) o232.get (⟨_, rfl, Sl.nil⟩)
            refine U.p rfl rfl (.inl rfl) (S.assign rfl (L 0 rfl rfl)) ?_
            refine U.done (Nat.le_of_ble_eq_true rfl) ?_
            refine WP.ret ?_
            refine blkR (sqR ?_)
            refine fin.slot (.inr rfl) rfl (L 0 rfl rfl) ⟨(V228.fz (some b49_227) hl238), rfl, nx240, ?_⟩
            have hz := h237
            first | exact hz | (simp_all [ahead, syncI, lwI, acqI]; done)
          ·  -- c217: decide (x.op = 19) is false
            have k244 := of_decide_eq_false c217
            refine WP.skip ?_
            refine blkN (sqN ?_)
            refine WP.usreg rfl ?_
            refine U.p rfl rfl (.inl rfl) (S.assign rfl K) ?_
            refine U.done (Nat.le_of_ble_eq_true rfl) ?_
            refine WP.ret ?_
            refine fin.slot (.inr rfl) rfl (L 0 rfl rfl) ⟨V8, rfl, nx11, ?_⟩
            have hz := (Sl.nil : Sl 9 RIns V8 (.slice none 0 0) [])
            first | exact hz | (simp_all [ahead, syncI, lwI, acqI]; done)
  ·  -- g15: decide (x.op = 9) is false
    have k245 := of_decide_eq_false g15
    refine U.x rfl rfl rfl rfl (L 0 rfl rfl) (by decide) ?_
    refine U.x rfl rfl rfl rfl (L 1 rfl rfl) (by decide) ?_
    refine U.p rfl rfl (.inl rfl) (S.pickF rfl (L 2 rfl rfl) K) ?_
    refine U.p rfl rfl (.inl rfl) (S.move rfl (L 0 rfl rfl)) ?_
    refine U.x rfl rfl rfl rfl (L 0 rfl rfl) (by decide) ?_
    refine U.x rfl rfl rfl rfl (L 1 rfl rfl) (by decide) ?_
    refine U.x rfl rfl rfl rfl (L 2 rfl rfl) (by decide) ?_
    refine U.p rfl rfl (.inl rfl) (S.pickF rfl (L 3 rfl rfl) K) ?_
    refine U.p rfl rfl (.inl rfl) (S.assign rfl (L 0 rfl rfl)) ?_
    refine U.done (Nat.le_of_ble_eq_true rfl) ?_
    refine WP.cond false (L 0 rfl rfl) rfl (fun h => by cases h) (fun _ => ?_)
    refine WP.usreg rfl ?_
    refine U.p (v := .pointer (some ⟨b2_1, 0, none⟩)) rfl rfl (.inl rfl) (S.fieldAddr rfl (L 16 rfl rfl) Try.underlying42 rfl ti3 rfl rfl) ?_
    refine U.k rfl rfl (.inl rfl) (S.load rfl (L 0 rfl rfl) Try.underlying3 rfl (o14.cell rfl)) nd ?_
    refine U.p rfl rfl (.inl rfl) (S.eqlI rfl (L 0 rfl rfl) K) ?_
    refine U.p rfl rfl (.inl rfl) (S.move rfl (L 0 rfl rfl)) ?_
    refine U.bs (L 0 rfl rfl) (fun g246 => ?_) (fun g246 => ?_)
    ·  -- g246: decide (x.op = 10) is true
      have k247 := of_decide_eq_true g246
      refine U.p (v := .pointer (some ⟨b2_1, 7, none⟩)) rfl rfl (.inr ⟨_, _, _, rfl, rfl, (L 0 rfl rfl)⟩) (S.fieldAddr rfl (L 21 rfl rfl) Try.underlying42 rfl ti4 rfl rfl) ?_
      refine U.k rfl rfl (.inr ⟨_, _, _, rfl, rfl, (L 1 rfl rfl)⟩) (S.load rfl (L 0 rfl rfl) Try.underlying4 rfl (o14.cell rfl)) nd ?_
      refine U.p rfl rfl (.inl rfl) (S.pickT rfl (L 2 rfl rfl) (L 0 rfl rfl)) ?_
      refine U.p rfl rfl (.inl rfl) (S.move rfl (L 0 rfl rfl)) ?_
      refine U.bs (L 0 rfl rfl) (fun g248 => ?_) (fun g248 => ?_)
      ·  -- g248: x.vol is true
        refine U.p (v := .pointer (some ⟨b3_7, 0, none⟩)) rfl rfl (.inr ⟨_, _, _, rfl, rfl, (L 0 rfl rfl)⟩) (S.fieldAddr rfl (L 25 rfl rfl) Try.underlying27 rfl ti4 rfl rfl) ?_
        refine U.k rfl rfl (.inr ⟨_, _, _, rfl, rfl, (L 1 rfl rfl)⟩) (S.load rfl (L 0 rfl rfl) Try.underlying4 rfl (o12.cell rfl)) nd ?_
        refine U.p rfl rfl (.inl rfl) (S.pickT rfl (L 2 rfl rfl) (L 0 rfl rfl)) ?_
        refine U.p rfl rfl (.inl rfl) (S.assign rfl (L 0 rfl rfl)) ?_
        refine U.done (Nat.le_of_ble_eq_true rfl) ?_
        refine WP.cond _ (L 0 rfl rfl) rfl (fun c249 => ?_) (fun c249 => ?_)
        ·  -- c249: o.naive is true
          refine WP.usreg rfl ?_
          refine U.callL (V := V8) rfl rfl (.inl rfl) rfl en27 (aC K aN) (fnc27 V8 2) (fun _ _ => nd) (fun v250 V251 n252 p253 => ?_)
          have le254 := n252.le
          have nx255 := nx11.call n252 (fun _ h => h.elim)
          have o256 := o14.call n252 id
          have o257 := o12.call n252 id
          obtain rfl : v250 = .agg #[.int .i64 21, .int .i64 (-1), .int .i64 (-1), .int .i64 (-1), .int .i64 2, .slice none 0 0, .int .i64 0, .bool false, .bool false] := p253
          refine U.build1 (V := V251) rfl rfl (.inl rfl) rfl (L 0 rfl rfl) Try.underlying31 ti42 rfl rfl rfl (Nat.le_of_ble_eq_true rfl) (by simp [topV]) (rfl) rfl nd (fun b33_258 V259 n260 => ?_)
          have le261 := n260.le
          have nx262 := nx255.nw n260
          have o263 := n260.own nx255
          have ne264 := o256.neNw n260
          have o265 := o256.nw n260
          have ne266 := o257.neNw n260
          have o267 := o257.nw n260
          have hl269 : ∀ c, some b33_258 = some c → c < V259.H.next := fun c e => by cases e; exact o263.lt
          have le270 := V259.fz_le (some b33_258) hl269
          have hg272 : ∀ c, some b33_258 = some c → V.H.next ≤ c := fun c e => by cases e; exact (o263.m).elim id (fun h => h.elim)
          have nx271 := nx262.fz (some b33_258) hl269 hg272
          have o273 := o265.fz (some b33_258) hl269 (fun e => ne264 (by cases e; rfl))
          have o274 := o267.fz (some b33_258) hl269 (fun e => ne266 (by cases e; rfl))
          have h268 : Sl 9 RIns (V259.fz (some b33_258) hl269) (.slice (some ⟨b33_258, 0, none⟩) 1 9) [(⟨21, (-1), (-1), (-1), 2, [], 0, false, false⟩ : Ins)] := Sl.mk1 RIns.ty (V := (V259.fz (some b33_258) hl269)) (.inr rfl) o263.get (⟨_, rfl, Sl.nil⟩)
          refine U.p rfl rfl (.inl rfl) (S.assign rfl (L 0 rfl rfl)) ?_
          refine U.done (Nat.le_of_ble_eq_true rfl) ?_
          refine WP.ret ?_
          refine blkR (sqR ?_)
          refine fin.slot (.inr rfl) rfl (L 0 rfl rfl) ⟨(V259.fz (some b33_258) hl269), rfl, nx271, ?_⟩
          have hz := h268
          first | exact hz | (simp_all [ahead, syncI, lwI, acqI]; done)
        ·  -- c249: o.naive is false
          refine WP.seq ?_
          refine WP.usreg rfl ?_
          refine U.p (v := .pointer (some ⟨b2_1, 0, none⟩)) rfl rfl (.inl rfl) (S.fieldAddr rfl (L 30 rfl rfl) Try.underlying42 rfl ti3 rfl rfl) ?_
          refine U.k rfl rfl (.inl rfl) (S.load rfl (L 0 rfl rfl) Try.underlying3 rfl (o14.cell rfl)) nd ?_
          refine U.p rfl rfl (.inl rfl) (S.eqlI rfl (L 0 rfl rfl) K) ?_
          refine U.p rfl rfl (.inl rfl) (S.move rfl (L 0 rfl rfl)) ?_
          refine U.p (v := .pointer (some ⟨b2_1, 7, none⟩)) rfl rfl (.inr ⟨_, _, _, rfl, rfl, ((L 0 rfl rfl).trans (congrArg Value.bool g246))⟩) (S.fieldAddr rfl (L 34 rfl rfl) Try.underlying42 rfl ti4 rfl rfl) ?_
          refine U.k rfl rfl (.inr ⟨_, _, _, rfl, rfl, ((L 1 rfl rfl).trans (congrArg Value.bool g246))⟩) (S.load rfl (L 0 rfl rfl) Try.underlying4 rfl (o14.cell rfl)) nd ?_
          refine U.p rfl rfl (.inl rfl) (S.pickT rfl ((L 2 rfl rfl).trans (congrArg Value.bool g246)) (L 0 rfl rfl)) ?_
          refine U.p rfl rfl (.inl rfl) (S.assign rfl (L 0 rfl rfl)) ?_
          refine U.done (Nat.le_of_ble_eq_true rfl) ?_
          refine WP.cond true ((L 0 rfl rfl).trans (congrArg Value.bool g248)) rfl (fun _ => ?_) (fun h => by cases h)
          refine WP.skip ?_
          refine sqN ?_
          refine WP.cond true ((L 0 rfl rfl).trans (congrArg Value.bool g248)) rfl (fun _ => ?_) (fun h => by cases h)
          refine WP.usreg rfl ?_
          refine U.callL (V := V8) rfl rfl (.inl rfl) rfl en27 (aC K aN) (fnc27 V8 1) (fun _ _ => nd) (fun v275 V276 n277 p278 => ?_)
          have le279 := n277.le
          have nx280 := nx11.call n277 (fun _ h => h.elim)
          have o281 := o14.call n277 id
          have o282 := o12.call n277 id
          obtain rfl : v275 = .agg #[.int .i64 21, .int .i64 (-1), .int .i64 (-1), .int .i64 (-1), .int .i64 1, .slice none 0 0, .int .i64 0, .bool false, .bool false] := p278
          refine U.build1 (V := V276) rfl rfl (.inl rfl) rfl (L 0 rfl rfl) Try.underlying31 ti42 rfl rfl rfl (Nat.le_of_ble_eq_true rfl) (by simp [topV]) (rfl) rfl nd (fun b49_283 V284 n285 => ?_)
          have le286 := n285.le
          have nx287 := nx280.nw n285
          have o288 := n285.own nx280
          have ne289 := o281.neNw n285
          have o290 := o281.nw n285
          have ne291 := o282.neNw n285
          have o292 := o282.nw n285
          have hl294 : ∀ c, some b49_283 = some c → c < V284.H.next := fun c e => by cases e; exact o288.lt
          have le295 := V284.fz_le (some b49_283) hl294
          have hg297 : ∀ c, some b49_283 = some c → V.H.next ≤ c := fun c e => by cases e; exact (o288.m).elim id (fun h => h.elim)
          have nx296 := nx287.fz (some b49_283) hl294 hg297
          have o298 := o290.fz (some b49_283) hl294 (fun e => ne289 (by cases e; rfl))
          have o299 := o292.fz (some b49_283) hl294 (fun e => ne291 (by cases e; rfl))
          have h293 : Sl 9 RIns (V284.fz (some b49_283) hl294) (.slice (some ⟨b49_283, 0, none⟩) 1 9) [(⟨21, (-1), (-1), (-1), 1, [], 0, false, false⟩ : Ins)] := Sl.mk1 RIns.ty (V := (V284.fz (some b49_283) hl294)) (.inr rfl) o288.get (⟨_, rfl, Sl.nil⟩)
          refine U.p rfl rfl (.inl rfl) (S.assign rfl (L 0 rfl rfl)) ?_
          refine U.done (Nat.le_of_ble_eq_true rfl) ?_
          refine WP.ret ?_
          refine blkR (sqR ?_)
          refine fin.slot (.inr rfl) rfl (L 0 rfl rfl) ⟨(V284.fz (some b49_283) hl294), rfl, nx296, ?_⟩
          have hz := h293
          first | exact hz | (simp_all [ahead, syncI, lwI, acqI]; done)
      ·  -- g248: x.vol is false
        refine U.x rfl rfl rfl rfl (L 0 rfl rfl) (by decide) ?_
        refine U.x rfl rfl rfl rfl (L 1 rfl rfl) (by decide) ?_
        refine U.p rfl rfl (.inl rfl) (S.pickF rfl (L 2 rfl rfl) K) ?_
        refine U.p rfl rfl (.inl rfl) (S.assign rfl (L 0 rfl rfl)) ?_
        refine U.done (Nat.le_of_ble_eq_true rfl) ?_
        refine WP.cond false (L 0 rfl rfl) rfl (fun h => by cases h) (fun _ => ?_)
        refine WP.seq ?_
        refine WP.usreg rfl ?_
        refine U.p (v := .pointer (some ⟨b2_1, 0, none⟩)) rfl rfl (.inl rfl) (S.fieldAddr rfl (L 30 rfl rfl) Try.underlying42 rfl ti3 rfl rfl) ?_
        refine U.k rfl rfl (.inl rfl) (S.load rfl (L 0 rfl rfl) Try.underlying3 rfl (o14.cell rfl)) nd ?_
        refine U.p rfl rfl (.inl rfl) (S.eqlI rfl (L 0 rfl rfl) K) ?_
        refine U.p rfl rfl (.inl rfl) (S.move rfl (L 0 rfl rfl)) ?_
        refine U.p (v := .pointer (some ⟨b2_1, 7, none⟩)) rfl rfl (.inr ⟨_, _, _, rfl, rfl, ((L 0 rfl rfl).trans (congrArg Value.bool g246))⟩) (S.fieldAddr rfl (L 34 rfl rfl) Try.underlying42 rfl ti4 rfl rfl) ?_
        refine U.k rfl rfl (.inr ⟨_, _, _, rfl, rfl, ((L 1 rfl rfl).trans (congrArg Value.bool g246))⟩) (S.load rfl (L 0 rfl rfl) Try.underlying4 rfl (o14.cell rfl)) nd ?_
        refine U.p rfl rfl (.inl rfl) (S.pickT rfl ((L 2 rfl rfl).trans (congrArg Value.bool g246)) (L 0 rfl rfl)) ?_
        refine U.p rfl rfl (.inl rfl) (S.assign rfl (L 0 rfl rfl)) ?_
        refine U.done (Nat.le_of_ble_eq_true rfl) ?_
        refine WP.cond false ((L 0 rfl rfl).trans (congrArg Value.bool g248)) rfl (fun h => by cases h) (fun _ => ?_)
        refine WP.usreg rfl ?_
        refine U.p (v := .pointer (some ⟨b2_1, 0, none⟩)) rfl rfl (.inl rfl) (S.fieldAddr rfl (L 38 rfl rfl) Try.underlying42 rfl ti3 rfl rfl) ?_
        refine U.k rfl rfl (.inl rfl) (S.load rfl (L 0 rfl rfl) Try.underlying3 rfl (o14.cell rfl)) nd ?_
        refine U.p rfl rfl (.inl rfl) (S.eqlI rfl (L 0 rfl rfl) K) ?_
        refine U.p rfl rfl (.inl rfl) (S.assign rfl (L 0 rfl rfl)) ?_
        refine U.done (Nat.le_of_ble_eq_true rfl) ?_
        refine WP.cond _ (L 0 rfl rfl) rfl (fun c300 => ?_) (fun c300 => ?_)
        ·  -- c300: decide (x.op = 18) is true
          have k301 := of_decide_eq_true c300
          refine WP.skip ?_
          refine sqN ?_
          refine WP.cond true ((L 0 rfl rfl).trans (congrArg Value.bool c300)) rfl (fun _ => ?_) (fun h => by cases h)
          refine WP.usreg rfl ?_
          refine U.callL (V := V8) rfl rfl (.inl rfl) rfl en27 (aC K aN) (fnc27 V8 1) (fun _ _ => nd) (fun v302 V303 n304 p305 => ?_)
          have le306 := n304.le
          have nx307 := nx11.call n304 (fun _ h => h.elim)
          have o308 := o14.call n304 id
          have o309 := o12.call n304 id
          obtain rfl : v302 = .agg #[.int .i64 21, .int .i64 (-1), .int .i64 (-1), .int .i64 (-1), .int .i64 1, .slice none 0 0, .int .i64 0, .bool false, .bool false] := p305
          refine U.build1 (V := V303) rfl rfl (.inl rfl) rfl (L 0 rfl rfl) Try.underlying31 ti42 rfl rfl rfl (Nat.le_of_ble_eq_true rfl) (by simp [topV]) (rfl) rfl nd (fun b49_310 V311 n312 => ?_)
          have le313 := n312.le
          have nx314 := nx307.nw n312
          have o315 := n312.own nx307
          have ne316 := o308.neNw n312
          have o317 := o308.nw n312
          have ne318 := o309.neNw n312
          have o319 := o309.nw n312
          have hl321 : ∀ c, some b49_310 = some c → c < V311.H.next := fun c e => by cases e; exact o315.lt
          have le322 := V311.fz_le (some b49_310) hl321
          have hg324 : ∀ c, some b49_310 = some c → V.H.next ≤ c := fun c e => by cases e; exact (o315.m).elim id (fun h => h.elim)
          have nx323 := nx314.fz (some b49_310) hl321 hg324
          have o325 := o317.fz (some b49_310) hl321 (fun e => ne316 (by cases e; rfl))
          have o326 := o319.fz (some b49_310) hl321 (fun e => ne318 (by cases e; rfl))
          have h320 : Sl 9 RIns (V311.fz (some b49_310) hl321) (.slice (some ⟨b49_310, 0, none⟩) 1 9) [(⟨21, (-1), (-1), (-1), 1, [], 0, false, false⟩ : Ins)] := Sl.mk1 RIns.ty (V := (V311.fz (some b49_310) hl321)) (.inr rfl) o315.get (⟨_, rfl, Sl.nil⟩)
          refine U.p rfl rfl (.inl rfl) (S.assign rfl (L 0 rfl rfl)) ?_
          refine U.done (Nat.le_of_ble_eq_true rfl) ?_
          refine WP.ret ?_
          refine blkR (sqR ?_)
          refine fin.slot (.inr rfl) rfl (L 0 rfl rfl) ⟨(V311.fz (some b49_310) hl321), rfl, nx323, ?_⟩
          have hz := h320
          first | exact hz | (simp_all [ahead, syncI, lwI, acqI]; done)
        ·  -- c300: decide (x.op = 18) is false
          have k327 := of_decide_eq_false c300
          refine WP.ureg rfl ?_
          refine U.p (v := .pointer (some ⟨b2_1, 0, none⟩)) rfl rfl (.inl rfl) (S.fieldAddr rfl (L 42 rfl rfl) Try.underlying42 rfl ti3 rfl rfl) ?_
          refine U.k rfl rfl (.inl rfl) (S.load rfl (L 0 rfl rfl) Try.underlying3 rfl (o14.cell rfl)) nd ?_
          refine U.p rfl rfl (.inl rfl) (S.eqlI rfl (L 0 rfl rfl) K) ?_
          refine U.p rfl rfl (.inl rfl) (S.assign rfl (L 0 rfl rfl)) ?_
          refine U.done (Nat.le_of_ble_eq_true rfl) ?_
          refine sqN ?_
          refine WP.cond _ (L 0 rfl rfl) rfl (fun c328 => ?_) (fun c328 => ?_)
          ·  -- c328: decide (x.op = 19) is true
            have k329 := of_decide_eq_true c328
            refine WP.usreg rfl ?_
            refine U.callL (V := V8) rfl rfl (.inl rfl) rfl en27 (aC K aN) (fnc27 V8 1) (fun _ _ => nd) (fun v330 V331 n332 p333 => ?_)
            have le334 := n332.le
            have nx335 := nx11.call n332 (fun _ h => h.elim)
            have o336 := o14.call n332 id
            have o337 := o12.call n332 id
            obtain rfl : v330 = .agg #[.int .i64 21, .int .i64 (-1), .int .i64 (-1), .int .i64 (-1), .int .i64 1, .slice none 0 0, .int .i64 0, .bool false, .bool false] := p333
            refine U.build1 (V := V331) rfl rfl (.inl rfl) rfl (L 0 rfl rfl) Try.underlying31 ti42 rfl rfl rfl (Nat.le_of_ble_eq_true rfl) (by simp [topV]) (rfl) rfl nd (fun b49_338 V339 n340 => ?_)
            have le341 := n340.le
            have nx342 := nx335.nw n340
            have o343 := n340.own nx335
            have ne344 := o336.neNw n340
            have o345 := o336.nw n340
            have ne346 := o337.neNw n340
            have o347 := o337.nw n340
            have hl349 : ∀ c, some b49_338 = some c → c < V339.H.next := fun c e => by cases e; exact o343.lt
            have le350 := V339.fz_le (some b49_338) hl349
            have hg352 : ∀ c, some b49_338 = some c → V.H.next ≤ c := fun c e => by cases e; exact (o343.m).elim id (fun h => h.elim)
            have nx351 := nx342.fz (some b49_338) hl349 hg352
            have o353 := o345.fz (some b49_338) hl349 (fun e => ne344 (by cases e; rfl))
            have o354 := o347.fz (some b49_338) hl349 (fun e => ne346 (by cases e; rfl))
            have h348 : Sl 9 RIns (V339.fz (some b49_338) hl349) (.slice (some ⟨b49_338, 0, none⟩) 1 9) [(⟨21, (-1), (-1), (-1), 1, [], 0, false, false⟩ : Ins)] := Sl.mk1 RIns.ty (V := (V339.fz (some b49_338) hl349)) (.inr rfl) o343.get (⟨_, rfl, Sl.nil⟩)
            refine U.p rfl rfl (.inl rfl) (S.assign rfl (L 0 rfl rfl)) ?_
            refine U.done (Nat.le_of_ble_eq_true rfl) ?_
            refine WP.ret ?_
            refine blkR (sqR ?_)
            refine fin.slot (.inr rfl) rfl (L 0 rfl rfl) ⟨(V339.fz (some b49_338) hl349), rfl, nx351, ?_⟩
            have hz := h348
            first | exact hz | (simp_all [ahead, syncI, lwI, acqI]; done)
          ·  -- c328: decide (x.op = 19) is false
            have k355 := of_decide_eq_false c328
            refine WP.skip ?_
            refine blkN (sqN ?_)
            refine WP.usreg rfl ?_
            refine U.p rfl rfl (.inl rfl) (S.assign rfl K) ?_
            refine U.done (Nat.le_of_ble_eq_true rfl) ?_
            refine WP.ret ?_
            refine fin.slot (.inr rfl) rfl (L 0 rfl rfl) ⟨V8, rfl, nx11, ?_⟩
            have hz := (Sl.nil : Sl 9 RIns V8 (.slice none 0 0) [])
            first | exact hz | (simp_all [ahead, syncI, lwI, acqI]; done)
    ·  -- g246: decide (x.op = 10) is false
      have k356 := of_decide_eq_false g246
      refine U.x rfl rfl rfl rfl (L 0 rfl rfl) (by decide) ?_
      refine U.x rfl rfl rfl rfl (L 1 rfl rfl) (by decide) ?_
      refine U.p rfl rfl (.inl rfl) (S.pickF rfl (L 2 rfl rfl) K) ?_
      refine U.p rfl rfl (.inl rfl) (S.move rfl (L 0 rfl rfl)) ?_
      refine U.x rfl rfl rfl rfl (L 0 rfl rfl) (by decide) ?_
      refine U.x rfl rfl rfl rfl (L 1 rfl rfl) (by decide) ?_
      refine U.p rfl rfl (.inl rfl) (S.pickF rfl (L 2 rfl rfl) K) ?_
      refine U.p rfl rfl (.inl rfl) (S.assign rfl (L 0 rfl rfl)) ?_
      refine U.done (Nat.le_of_ble_eq_true rfl) ?_
      refine WP.cond false (L 0 rfl rfl) rfl (fun h => by cases h) (fun _ => ?_)
      refine WP.seq ?_
      refine WP.usreg rfl ?_
      refine U.p (v := .pointer (some ⟨b2_1, 0, none⟩)) rfl rfl (.inl rfl) (S.fieldAddr rfl (L 29 rfl rfl) Try.underlying42 rfl ti3 rfl rfl) ?_
      refine U.k rfl rfl (.inl rfl) (S.load rfl (L 0 rfl rfl) Try.underlying3 rfl (o14.cell rfl)) nd ?_
      refine U.p rfl rfl (.inl rfl) (S.eqlI rfl (L 0 rfl rfl) K) ?_
      refine U.p rfl rfl (.inl rfl) (S.move rfl (L 0 rfl rfl)) ?_
      refine U.x rfl rfl rfl rfl ((L 0 rfl rfl).trans (congrArg Value.bool g246)) (by decide) ?_
      refine U.x rfl rfl rfl rfl ((L 1 rfl rfl).trans (congrArg Value.bool g246)) (by decide) ?_
      refine U.p rfl rfl (.inl rfl) (S.pickF rfl ((L 2 rfl rfl).trans (congrArg Value.bool g246)) K) ?_
      refine U.p rfl rfl (.inl rfl) (S.assign rfl (L 0 rfl rfl)) ?_
      refine U.done (Nat.le_of_ble_eq_true rfl) ?_
      refine WP.cond false (L 0 rfl rfl) rfl (fun h => by cases h) (fun _ => ?_)
      refine WP.usreg rfl ?_
      refine U.p (v := .pointer (some ⟨b2_1, 0, none⟩)) rfl rfl (.inl rfl) (S.fieldAddr rfl (L 37 rfl rfl) Try.underlying42 rfl ti3 rfl rfl) ?_
      refine U.k rfl rfl (.inl rfl) (S.load rfl (L 0 rfl rfl) Try.underlying3 rfl (o14.cell rfl)) nd ?_
      refine U.p rfl rfl (.inl rfl) (S.eqlI rfl (L 0 rfl rfl) K) ?_
      refine U.p rfl rfl (.inl rfl) (S.assign rfl (L 0 rfl rfl)) ?_
      refine U.done (Nat.le_of_ble_eq_true rfl) ?_
      refine WP.cond _ (L 0 rfl rfl) rfl (fun c357 => ?_) (fun c357 => ?_)
      ·  -- c357: decide (x.op = 18) is true
        have k358 := of_decide_eq_true c357
        refine WP.skip ?_
        refine sqN ?_
        refine WP.cond true ((L 0 rfl rfl).trans (congrArg Value.bool c357)) rfl (fun _ => ?_) (fun h => by cases h)
        refine WP.usreg rfl ?_
        refine U.callL (V := V8) rfl rfl (.inl rfl) rfl en27 (aC K aN) (fnc27 V8 1) (fun _ _ => nd) (fun v359 V360 n361 p362 => ?_)
        have le363 := n361.le
        have nx364 := nx11.call n361 (fun _ h => h.elim)
        have o365 := o14.call n361 id
        have o366 := o12.call n361 id
        obtain rfl : v359 = .agg #[.int .i64 21, .int .i64 (-1), .int .i64 (-1), .int .i64 (-1), .int .i64 1, .slice none 0 0, .int .i64 0, .bool false, .bool false] := p362
        refine U.build1 (V := V360) rfl rfl (.inl rfl) rfl (L 0 rfl rfl) Try.underlying31 ti42 rfl rfl rfl (Nat.le_of_ble_eq_true rfl) (by simp [topV]) (rfl) rfl nd (fun b49_367 V368 n369 => ?_)
        have le370 := n369.le
        have nx371 := nx364.nw n369
        have o372 := n369.own nx364
        have ne373 := o365.neNw n369
        have o374 := o365.nw n369
        have ne375 := o366.neNw n369
        have o376 := o366.nw n369
        have hl378 : ∀ c, some b49_367 = some c → c < V368.H.next := fun c e => by cases e; exact o372.lt
        have le379 := V368.fz_le (some b49_367) hl378
        have hg381 : ∀ c, some b49_367 = some c → V.H.next ≤ c := fun c e => by cases e; exact (o372.m).elim id (fun h => h.elim)
        have nx380 := nx371.fz (some b49_367) hl378 hg381
        have o382 := o374.fz (some b49_367) hl378 (fun e => ne373 (by cases e; rfl))
        have o383 := o376.fz (some b49_367) hl378 (fun e => ne375 (by cases e; rfl))
        have h377 : Sl 9 RIns (V368.fz (some b49_367) hl378) (.slice (some ⟨b49_367, 0, none⟩) 1 9) [(⟨21, (-1), (-1), (-1), 1, [], 0, false, false⟩ : Ins)] := Sl.mk1 RIns.ty (V := (V368.fz (some b49_367) hl378)) (.inr rfl) o372.get (⟨_, rfl, Sl.nil⟩)
        refine U.p rfl rfl (.inl rfl) (S.assign rfl (L 0 rfl rfl)) ?_
        refine U.done (Nat.le_of_ble_eq_true rfl) ?_
        refine WP.ret ?_
        refine blkR (sqR ?_)
        refine fin.slot (.inr rfl) rfl (L 0 rfl rfl) ⟨(V368.fz (some b49_367) hl378), rfl, nx380, ?_⟩
        have hz := h377
        first | exact hz | (simp_all [ahead, syncI, lwI, acqI]; done)
      ·  -- c357: decide (x.op = 18) is false
        have k384 := of_decide_eq_false c357
        refine WP.ureg rfl ?_
        refine U.p (v := .pointer (some ⟨b2_1, 0, none⟩)) rfl rfl (.inl rfl) (S.fieldAddr rfl (L 41 rfl rfl) Try.underlying42 rfl ti3 rfl rfl) ?_
        refine U.k rfl rfl (.inl rfl) (S.load rfl (L 0 rfl rfl) Try.underlying3 rfl (o14.cell rfl)) nd ?_
        refine U.p rfl rfl (.inl rfl) (S.eqlI rfl (L 0 rfl rfl) K) ?_
        refine U.p rfl rfl (.inl rfl) (S.assign rfl (L 0 rfl rfl)) ?_
        refine U.done (Nat.le_of_ble_eq_true rfl) ?_
        refine sqN ?_
        refine WP.cond _ (L 0 rfl rfl) rfl (fun c385 => ?_) (fun c385 => ?_)
        ·  -- c385: decide (x.op = 19) is true
          have k386 := of_decide_eq_true c385
          refine WP.usreg rfl ?_
          refine U.callL (V := V8) rfl rfl (.inl rfl) rfl en27 (aC K aN) (fnc27 V8 1) (fun _ _ => nd) (fun v387 V388 n389 p390 => ?_)
          have le391 := n389.le
          have nx392 := nx11.call n389 (fun _ h => h.elim)
          have o393 := o14.call n389 id
          have o394 := o12.call n389 id
          obtain rfl : v387 = .agg #[.int .i64 21, .int .i64 (-1), .int .i64 (-1), .int .i64 (-1), .int .i64 1, .slice none 0 0, .int .i64 0, .bool false, .bool false] := p390
          refine U.build1 (V := V388) rfl rfl (.inl rfl) rfl (L 0 rfl rfl) Try.underlying31 ti42 rfl rfl rfl (Nat.le_of_ble_eq_true rfl) (by simp [topV]) (rfl) rfl nd (fun b49_395 V396 n397 => ?_)
          have le398 := n397.le
          have nx399 := nx392.nw n397
          have o400 := n397.own nx392
          have ne401 := o393.neNw n397
          have o402 := o393.nw n397
          have ne403 := o394.neNw n397
          have o404 := o394.nw n397
          have hl406 : ∀ c, some b49_395 = some c → c < V396.H.next := fun c e => by cases e; exact o400.lt
          have le407 := V396.fz_le (some b49_395) hl406
          have hg409 : ∀ c, some b49_395 = some c → V.H.next ≤ c := fun c e => by cases e; exact (o400.m).elim id (fun h => h.elim)
          have nx408 := nx399.fz (some b49_395) hl406 hg409
          have o410 := o402.fz (some b49_395) hl406 (fun e => ne401 (by cases e; rfl))
          have o411 := o404.fz (some b49_395) hl406 (fun e => ne403 (by cases e; rfl))
          have h405 : Sl 9 RIns (V396.fz (some b49_395) hl406) (.slice (some ⟨b49_395, 0, none⟩) 1 9) [(⟨21, (-1), (-1), (-1), 1, [], 0, false, false⟩ : Ins)] := Sl.mk1 RIns.ty (V := (V396.fz (some b49_395) hl406)) (.inr rfl) o400.get (⟨_, rfl, Sl.nil⟩)
          refine U.p rfl rfl (.inl rfl) (S.assign rfl (L 0 rfl rfl)) ?_
          refine U.done (Nat.le_of_ble_eq_true rfl) ?_
          refine WP.ret ?_
          refine blkR (sqR ?_)
          refine fin.slot (.inr rfl) rfl (L 0 rfl rfl) ⟨(V396.fz (some b49_395) hl406), rfl, nx408, ?_⟩
          have hz := h405
          first | exact hz | (simp_all [ahead, syncI, lwI, acqI]; done)
        ·  -- c385: decide (x.op = 19) is false
          have k412 := of_decide_eq_false c385
          refine WP.skip ?_
          refine blkN (sqN ?_)
          refine WP.usreg rfl ?_
          refine U.p rfl rfl (.inl rfl) (S.assign rfl K) ?_
          refine U.done (Nat.le_of_ble_eq_true rfl) ?_
          refine WP.ret ?_
          refine fin.slot (.inr rfl) rfl (L 0 rfl rfl) ⟨V8, rfl, nx11, ?_⟩
          have hz := (Sl.nil : Sl 9 RIns V8 (.slice none 0 0) [])
          first | exact hz | (simp_all [ahead, syncI, lwI, acqI]; done)

set_option maxHeartbeats 1000000 in
theorem fnc22 (V : Vw) (x : Ins) (va : Value) (ha : Sl 1 RInt V va x.args) (o : Opt) : Cc Try.prog 0 22 #[.agg #[.int .i64 x.op, .int .i64 x.d, .int .i64 x.a, .int .i64 x.b, .int .i64 x.imm, va, .int .i64 x.what, .bool x.vol, .bool x.fin], .agg #[.bool o.naive, .bool o.bare, .bool o.merged]] V (fun _ => False) (fun v V' => Sl 9 RIns V' v (behind x o)) := by
  refine Cc.of (Nat.zero_le _) Try.func22 rfl (Nat.le_of_ble_eq_true rfl) ?_
  have nx0 : Nx (fun b => V.H.next ≤ b ∨ False) V V := Nx.start
  refine WP.usreg rfl ?_
  refine U.box (V := V) rfl rfl (.inl rfl) rfl (L 0 rfl rfl) (by simp [topV]) (rfl) nd (fun b2_1 V2 n3 => ?_)
  have le4 := n3.le
  have nx5 := nx0.nw n3
  have o6 := n3.own nx0
  refine U.box (V := V2) rfl rfl (.inl rfl) rfl (L 2 rfl rfl) (by simp [topV]) (rfl) nd (fun b3_7 V8 n9 => ?_)
  have le10 := n9.le
  have nx11 := nx5.nw n9
  have o12 := n9.own nx5
  have ne13 := o6.neNw n9
  have o14 := o6.nw n9
  refine U.p rfl rfl (.inl rfl) (S.assign rfl K) ?_
  refine U.done (Nat.le_of_ble_eq_true rfl) ?_
  refine WP.seq ?_
  refine WP.blk ?_
  refine WP.usreg rfl ?_
  refine U.p (v := .pointer (some ⟨b2_1, 0, none⟩)) rfl rfl (.inl rfl) (S.fieldAddr rfl (L 2 rfl rfl) Try.underlying42 rfl ti3 rfl rfl) ?_
  refine U.k rfl rfl (.inl rfl) (S.load rfl (L 0 rfl rfl) Try.underlying3 rfl (o14.cell rfl)) nd ?_
  refine U.p rfl rfl (.inl rfl) (S.eqlI rfl (L 0 rfl rfl) K) ?_
  refine U.p rfl rfl (.inl rfl) (S.move rfl (L 0 rfl rfl)) ?_
  refine U.bs (L 0 rfl rfl) (fun g15 => ?_) (fun g15 => ?_)
  ·  -- g15: decide (x.op = 9) is true
    have k16 := of_decide_eq_true g15
    refine U.p (v := .pointer (some ⟨b2_1, 7, none⟩)) rfl rfl (.inr ⟨_, _, _, rfl, rfl, (L 0 rfl rfl)⟩) (S.fieldAddr rfl (L 7 rfl rfl) Try.underlying42 rfl ti4 rfl rfl) ?_
    refine U.k rfl rfl (.inr ⟨_, _, _, rfl, rfl, (L 1 rfl rfl)⟩) (S.load rfl (L 0 rfl rfl) Try.underlying4 rfl (o14.cell rfl)) nd ?_
    refine U.p rfl rfl (.inl rfl) (S.pickT rfl (L 2 rfl rfl) (L 0 rfl rfl)) ?_
    refine U.p rfl rfl (.inl rfl) (S.move rfl (L 0 rfl rfl)) ?_
    refine U.bs (L 0 rfl rfl) (fun g17 => ?_) (fun g17 => ?_)
    ·  -- g17: x.vol is true
      refine U.p (v := .pointer (some ⟨b3_7, 0, none⟩)) rfl rfl (.inr ⟨_, _, _, rfl, rfl, (L 0 rfl rfl)⟩) (S.fieldAddr rfl (L 11 rfl rfl) Try.underlying27 rfl ti4 rfl rfl) ?_
      refine U.k rfl rfl (.inr ⟨_, _, _, rfl, rfl, (L 1 rfl rfl)⟩) (S.load rfl (L 0 rfl rfl) Try.underlying4 rfl (o12.cell rfl)) nd ?_
      refine U.p rfl rfl (.inl rfl) (S.pickT rfl (L 2 rfl rfl) (L 0 rfl rfl)) ?_
      refine U.p rfl rfl (.inl rfl) (S.assign rfl (L 0 rfl rfl)) ?_
      refine U.done (Nat.le_of_ble_eq_true rfl) ?_
      refine WP.cond _ (L 0 rfl rfl) rfl (fun c18 => ?_) (fun c18 => ?_)
      ·  -- c18: o.naive is true
        refine WP.usreg rfl ?_
        refine U.callL (V := V8) rfl rfl (.inl rfl) rfl en27 (aC K aN) (fnc27 V8 2) (fun _ _ => nd) (fun v19 V20 n21 p22 => ?_)
        have le23 := n21.le
        have nx24 := nx11.call n21 (fun _ h => h.elim)
        have o25 := o14.call n21 id
        have o26 := o12.call n21 id
        obtain rfl : v19 = .agg #[.int .i64 21, .int .i64 (-1), .int .i64 (-1), .int .i64 (-1), .int .i64 2, .slice none 0 0, .int .i64 0, .bool false, .bool false] := p22
        refine U.build1 (V := V20) rfl rfl (.inl rfl) rfl (L 0 rfl rfl) Try.underlying31 ti42 rfl rfl rfl (Nat.le_of_ble_eq_true rfl) (by simp [topV]) (rfl) rfl nd (fun b18_27 V28 n29 => ?_)
        have le30 := n29.le
        have nx31 := nx24.nw n29
        have o32 := n29.own nx24
        have ne33 := o25.neNw n29
        have o34 := o25.nw n29
        have ne35 := o26.neNw n29
        have o36 := o26.nw n29
        have hl38 : ∀ c, some b18_27 = some c → c < V28.H.next := fun c e => by cases e; exact o32.lt
        have le39 := V28.fz_le (some b18_27) hl38
        have hg41 : ∀ c, some b18_27 = some c → V.H.next ≤ c := fun c e => by cases e; exact (o32.m).elim id (fun h => h.elim)
        have nx40 := nx31.fz (some b18_27) hl38 hg41
        have o42 := o34.fz (some b18_27) hl38 (fun e => ne33 (by cases e; rfl))
        have o43 := o36.fz (some b18_27) hl38 (fun e => ne35 (by cases e; rfl))
        have h37 : Sl 9 RIns (V28.fz (some b18_27) hl38) (.slice (some ⟨b18_27, 0, none⟩) 1 9) [(⟨21, (-1), (-1), (-1), 2, [], 0, false, false⟩ : Ins)] := Sl.mk1 RIns.ty (V := (V28.fz (some b18_27) hl38)) (.inr rfl) o32.get (⟨_, rfl, Sl.nil⟩)
        refine U.p rfl rfl (.inl rfl) (S.assign rfl (L 0 rfl rfl)) ?_
        refine U.done (Nat.le_of_ble_eq_true rfl) ?_
        refine WP.ret ?_
        refine blkR (sqR ?_)
        refine fin.slot (.inr rfl) rfl (L 0 rfl rfl) ⟨(V28.fz (some b18_27) hl38), rfl, nx40, ?_⟩
        have hz := h37
        first | exact hz | (simp_all [behind, syncI, lwI, acqI]; done)
      ·  -- c18: o.naive is false
        refine WP.usreg rfl ?_
        refine U.p (v := .pointer (some ⟨b2_1, 0, none⟩)) rfl rfl (.inl rfl) (S.fieldAddr rfl (L 16 rfl rfl) Try.underlying42 rfl ti3 rfl rfl) ?_
        refine U.k rfl rfl (.inl rfl) (S.load rfl (L 0 rfl rfl) Try.underlying3 rfl (o14.cell rfl)) nd ?_
        refine U.p rfl rfl (.inl rfl) (S.eqlI rfl (L 0 rfl rfl) K) ?_
        refine U.p rfl rfl (.inl rfl) (S.move rfl (L 0 rfl rfl)) ?_
        refine U.p (v := .pointer (some ⟨b2_1, 7, none⟩)) rfl rfl (.inr ⟨_, _, _, rfl, rfl, ((L 0 rfl rfl).trans (congrArg Value.bool g15))⟩) (S.fieldAddr rfl (L 20 rfl rfl) Try.underlying42 rfl ti4 rfl rfl) ?_
        refine U.k rfl rfl (.inr ⟨_, _, _, rfl, rfl, ((L 1 rfl rfl).trans (congrArg Value.bool g15))⟩) (S.load rfl (L 0 rfl rfl) Try.underlying4 rfl (o14.cell rfl)) nd ?_
        refine U.p rfl rfl (.inl rfl) (S.pickT rfl ((L 2 rfl rfl).trans (congrArg Value.bool g15)) (L 0 rfl rfl)) ?_
        refine U.p rfl rfl (.inl rfl) (S.assign rfl (L 0 rfl rfl)) ?_
        refine U.done (Nat.le_of_ble_eq_true rfl) ?_
        refine WP.cond true ((L 0 rfl rfl).trans (congrArg Value.bool g17)) rfl (fun _ => ?_) (fun h => by cases h)
        refine WP.usreg rfl ?_
        refine U.p (v := .pointer (some ⟨b2_1, 1, none⟩)) rfl rfl (.inl rfl) (S.fieldAddr rfl (L 24 rfl rfl) Try.underlying42 rfl ti3 rfl rfl) ?_
        refine U.k rfl rfl (.inl rfl) (S.load rfl (L 0 rfl rfl) Try.underlying3 rfl (o14.cell rfl)) nd ?_
        refine U.callL (V := V8) rfl rfl (.inl rfl) rfl en28 (aC (L 0 rfl rfl) aN) (fnc28 V8 x.d) (fun _ _ => nd) (fun v44 V45 n46 p47 => ?_)
        have le48 := n46.le
        have nx49 := nx11.call n46 (fun _ h => h.elim)
        have o50 := o14.call n46 id
        have o51 := o12.call n46 id
        obtain rfl : v44 = .agg #[.int .i64 21, .int .i64 (-1), .int .i64 x.d, .int .i64 (-1), .int .i64 3, .slice none 0 0, .int .i64 0, .bool false, .bool false] := p47
        refine U.build1 (V := V45) rfl rfl (.inl rfl) rfl (L 0 rfl rfl) Try.underlying31 ti42 rfl rfl rfl (Nat.le_of_ble_eq_true rfl) (by simp [topV]) (rfl) rfl nd (fun b30_52 V53 n54 => ?_)
        have le55 := n54.le
        have nx56 := nx49.nw n54
        have o57 := n54.own nx49
        have ne58 := o50.neNw n54
        have o59 := o50.nw n54
        have ne60 := o51.neNw n54
        have o61 := o51.nw n54
        have hl63 : ∀ c, some b30_52 = some c → c < V53.H.next := fun c e => by cases e; exact o57.lt
        have le64 := V53.fz_le (some b30_52) hl63
        have hg66 : ∀ c, some b30_52 = some c → V.H.next ≤ c := fun c e => by cases e; exact (o57.m).elim id (fun h => h.elim)
        have nx65 := nx56.fz (some b30_52) hl63 hg66
        have o67 := o59.fz (some b30_52) hl63 (fun e => ne58 (by cases e; rfl))
        have o68 := o61.fz (some b30_52) hl63 (fun e => ne60 (by cases e; rfl))
        have h62 : Sl 9 RIns (V53.fz (some b30_52) hl63) (.slice (some ⟨b30_52, 0, none⟩) 1 9) [(⟨21, (-1), x.d, (-1), 3, [], 0, false, false⟩ : Ins)] := Sl.mk1 RIns.ty (V := (V53.fz (some b30_52) hl63)) (.inr rfl) o57.get (⟨_, rfl, Sl.nil⟩)
        refine U.p rfl rfl (.inl rfl) (S.assign rfl (L 0 rfl rfl)) ?_
        refine U.done (Nat.le_of_ble_eq_true rfl) ?_
        refine WP.ret ?_
        refine blkR (sqR ?_)
        refine fin.slot (.inr rfl) rfl (L 0 rfl rfl) ⟨(V53.fz (some b30_52) hl63), rfl, nx65, ?_⟩
        have hz := h62
        first | exact hz | (simp_all [behind, syncI, lwI, acqI]; done)
    ·  -- g17: x.vol is false
      refine U.x rfl rfl rfl rfl (L 0 rfl rfl) (by decide) ?_
      refine U.x rfl rfl rfl rfl (L 1 rfl rfl) (by decide) ?_
      refine U.p rfl rfl (.inl rfl) (S.pickF rfl (L 2 rfl rfl) K) ?_
      refine U.p rfl rfl (.inl rfl) (S.assign rfl (L 0 rfl rfl)) ?_
      refine U.done (Nat.le_of_ble_eq_true rfl) ?_
      refine WP.cond false (L 0 rfl rfl) rfl (fun h => by cases h) (fun _ => ?_)
      refine WP.usreg rfl ?_
      refine U.p (v := .pointer (some ⟨b2_1, 0, none⟩)) rfl rfl (.inl rfl) (S.fieldAddr rfl (L 16 rfl rfl) Try.underlying42 rfl ti3 rfl rfl) ?_
      refine U.k rfl rfl (.inl rfl) (S.load rfl (L 0 rfl rfl) Try.underlying3 rfl (o14.cell rfl)) nd ?_
      refine U.p rfl rfl (.inl rfl) (S.eqlI rfl (L 0 rfl rfl) K) ?_
      refine U.p rfl rfl (.inl rfl) (S.move rfl (L 0 rfl rfl)) ?_
      refine U.p (v := .pointer (some ⟨b2_1, 7, none⟩)) rfl rfl (.inr ⟨_, _, _, rfl, rfl, ((L 0 rfl rfl).trans (congrArg Value.bool g15))⟩) (S.fieldAddr rfl (L 20 rfl rfl) Try.underlying42 rfl ti4 rfl rfl) ?_
      refine U.k rfl rfl (.inr ⟨_, _, _, rfl, rfl, ((L 1 rfl rfl).trans (congrArg Value.bool g15))⟩) (S.load rfl (L 0 rfl rfl) Try.underlying4 rfl (o14.cell rfl)) nd ?_
      refine U.p rfl rfl (.inl rfl) (S.pickT rfl ((L 2 rfl rfl).trans (congrArg Value.bool g15)) (L 0 rfl rfl)) ?_
      refine U.p rfl rfl (.inl rfl) (S.assign rfl (L 0 rfl rfl)) ?_
      refine U.done (Nat.le_of_ble_eq_true rfl) ?_
      refine WP.cond false ((L 0 rfl rfl).trans (congrArg Value.bool g17)) rfl (fun h => by cases h) (fun _ => ?_)
      refine WP.usreg rfl ?_
      refine U.p (v := .pointer (some ⟨b2_1, 0, none⟩)) rfl rfl (.inl rfl) (S.fieldAddr rfl (L 24 rfl rfl) Try.underlying42 rfl ti3 rfl rfl) ?_
      refine U.k rfl rfl (.inl rfl) (S.load rfl (L 0 rfl rfl) Try.underlying3 rfl (o14.cell rfl)) nd ?_
      refine U.p rfl rfl (.inl rfl) (S.eqlI rfl (L 0 rfl rfl) K) ?_
      refine U.p rfl rfl (.inl rfl) (S.move rfl (L 0 rfl rfl)) ?_
      refine U.bs (L 0 rfl rfl) (fun g69 => ?_) (fun g69 => ?_)
      ·  -- g69: decide (x.op = 10) is true
        have k70 := of_decide_eq_true g69
        refine U.p (v := .pointer (some ⟨b2_1, 7, none⟩)) rfl rfl (.inr ⟨_, _, _, rfl, rfl, (L 0 rfl rfl)⟩) (S.fieldAddr rfl (L 29 rfl rfl) Try.underlying42 rfl ti4 rfl rfl) ?_
        refine U.k rfl rfl (.inr ⟨_, _, _, rfl, rfl, (L 1 rfl rfl)⟩) (S.load rfl (L 0 rfl rfl) Try.underlying4 rfl (o14.cell rfl)) nd ?_
        refine U.p rfl rfl (.inl rfl) (S.pickT rfl (L 2 rfl rfl) (L 0 rfl rfl)) ?_
        refine U.p rfl rfl (.inl rfl) (S.move rfl (L 0 rfl rfl)) ?_
        refine U.x rfl rfl rfl rfl ((L 0 rfl rfl).trans (congrArg Value.bool g17)) (by decide) ?_
        refine U.x rfl rfl rfl rfl ((L 1 rfl rfl).trans (congrArg Value.bool g17)) (by decide) ?_
        refine U.p rfl rfl (.inl rfl) (S.pickF rfl ((L 2 rfl rfl).trans (congrArg Value.bool g17)) K) ?_
        refine U.p rfl rfl (.inl rfl) (S.assign rfl (L 0 rfl rfl)) ?_
        refine U.done (Nat.le_of_ble_eq_true rfl) ?_
        refine WP.cond false (L 0 rfl rfl) rfl (fun h => by cases h) (fun _ => ?_)
        refine WP.skip ?_
        refine blkN (sqN ?_)
        refine WP.usreg rfl ?_
        refine U.p rfl rfl (.inl rfl) (S.assign rfl K) ?_
        refine U.done (Nat.le_of_ble_eq_true rfl) ?_
        refine WP.ret ?_
        refine fin.slot (.inr rfl) rfl (L 0 rfl rfl) ⟨V8, rfl, nx11, ?_⟩
        have hz := (Sl.nil : Sl 9 RIns V8 (.slice none 0 0) [])
        first | exact hz | (simp_all [behind, syncI, lwI, acqI]; done)
      ·  -- g69: decide (x.op = 10) is false
        have k71 := of_decide_eq_false g69
        refine U.x rfl rfl rfl rfl (L 0 rfl rfl) (by decide) ?_
        refine U.x rfl rfl rfl rfl (L 1 rfl rfl) (by decide) ?_
        refine U.p rfl rfl (.inl rfl) (S.pickF rfl (L 2 rfl rfl) K) ?_
        refine U.p rfl rfl (.inl rfl) (S.move rfl (L 0 rfl rfl)) ?_
        refine U.x rfl rfl rfl rfl (L 0 rfl rfl) (by decide) ?_
        refine U.x rfl rfl rfl rfl (L 1 rfl rfl) (by decide) ?_
        refine U.p rfl rfl (.inl rfl) (S.pickF rfl (L 2 rfl rfl) K) ?_
        refine U.p rfl rfl (.inl rfl) (S.assign rfl (L 0 rfl rfl)) ?_
        refine U.done (Nat.le_of_ble_eq_true rfl) ?_
        refine WP.cond false (L 0 rfl rfl) rfl (fun h => by cases h) (fun _ => ?_)
        refine WP.skip ?_
        refine blkN (sqN ?_)
        refine WP.usreg rfl ?_
        refine U.p rfl rfl (.inl rfl) (S.assign rfl K) ?_
        refine U.done (Nat.le_of_ble_eq_true rfl) ?_
        refine WP.ret ?_
        refine fin.slot (.inr rfl) rfl (L 0 rfl rfl) ⟨V8, rfl, nx11, ?_⟩
        have hz := (Sl.nil : Sl 9 RIns V8 (.slice none 0 0) [])
        first | exact hz | (simp_all [behind, syncI, lwI, acqI]; done)
  ·  -- g15: decide (x.op = 9) is false
    have k72 := of_decide_eq_false g15
    refine U.x rfl rfl rfl rfl (L 0 rfl rfl) (by decide) ?_
    refine U.x rfl rfl rfl rfl (L 1 rfl rfl) (by decide) ?_
    refine U.p rfl rfl (.inl rfl) (S.pickF rfl (L 2 rfl rfl) K) ?_
    refine U.p rfl rfl (.inl rfl) (S.move rfl (L 0 rfl rfl)) ?_
    refine U.x rfl rfl rfl rfl (L 0 rfl rfl) (by decide) ?_
    refine U.x rfl rfl rfl rfl (L 1 rfl rfl) (by decide) ?_
    refine U.p rfl rfl (.inl rfl) (S.pickF rfl (L 2 rfl rfl) K) ?_
    refine U.p rfl rfl (.inl rfl) (S.assign rfl (L 0 rfl rfl)) ?_
    refine U.done (Nat.le_of_ble_eq_true rfl) ?_
    refine WP.cond false (L 0 rfl rfl) rfl (fun h => by cases h) (fun _ => ?_)
    refine WP.usreg rfl ?_
    refine U.p (v := .pointer (some ⟨b2_1, 0, none⟩)) rfl rfl (.inl rfl) (S.fieldAddr rfl (L 15 rfl rfl) Try.underlying42 rfl ti3 rfl rfl) ?_
    refine U.k rfl rfl (.inl rfl) (S.load rfl (L 0 rfl rfl) Try.underlying3 rfl (o14.cell rfl)) nd ?_
    refine U.p rfl rfl (.inl rfl) (S.eqlI rfl (L 0 rfl rfl) K) ?_
    refine U.p rfl rfl (.inl rfl) (S.move rfl (L 0 rfl rfl)) ?_
    refine U.x rfl rfl rfl rfl ((L 0 rfl rfl).trans (congrArg Value.bool g15)) (by decide) ?_
    refine U.x rfl rfl rfl rfl ((L 1 rfl rfl).trans (congrArg Value.bool g15)) (by decide) ?_
    refine U.p rfl rfl (.inl rfl) (S.pickF rfl ((L 2 rfl rfl).trans (congrArg Value.bool g15)) K) ?_
    refine U.p rfl rfl (.inl rfl) (S.assign rfl (L 0 rfl rfl)) ?_
    refine U.done (Nat.le_of_ble_eq_true rfl) ?_
    refine WP.cond false (L 0 rfl rfl) rfl (fun h => by cases h) (fun _ => ?_)
    refine WP.usreg rfl ?_
    refine U.p (v := .pointer (some ⟨b2_1, 0, none⟩)) rfl rfl (.inl rfl) (S.fieldAddr rfl (L 23 rfl rfl) Try.underlying42 rfl ti3 rfl rfl) ?_
    refine U.k rfl rfl (.inl rfl) (S.load rfl (L 0 rfl rfl) Try.underlying3 rfl (o14.cell rfl)) nd ?_
    refine U.p rfl rfl (.inl rfl) (S.eqlI rfl (L 0 rfl rfl) K) ?_
    refine U.p rfl rfl (.inl rfl) (S.move rfl (L 0 rfl rfl)) ?_
    refine U.bs (L 0 rfl rfl) (fun g73 => ?_) (fun g73 => ?_)
    ·  -- g73: decide (x.op = 10) is true
      have k74 := of_decide_eq_true g73
      refine U.p (v := .pointer (some ⟨b2_1, 7, none⟩)) rfl rfl (.inr ⟨_, _, _, rfl, rfl, (L 0 rfl rfl)⟩) (S.fieldAddr rfl (L 28 rfl rfl) Try.underlying42 rfl ti4 rfl rfl) ?_
      refine U.k rfl rfl (.inr ⟨_, _, _, rfl, rfl, (L 1 rfl rfl)⟩) (S.load rfl (L 0 rfl rfl) Try.underlying4 rfl (o14.cell rfl)) nd ?_
      refine U.p rfl rfl (.inl rfl) (S.pickT rfl (L 2 rfl rfl) (L 0 rfl rfl)) ?_
      refine U.p rfl rfl (.inl rfl) (S.move rfl (L 0 rfl rfl)) ?_
      refine U.bs (L 0 rfl rfl) (fun g75 => ?_) (fun g75 => ?_)
      ·  -- g75: x.vol is true
        refine U.p (v := .pointer (some ⟨b3_7, 0, none⟩)) rfl rfl (.inr ⟨_, _, _, rfl, rfl, (L 0 rfl rfl)⟩) (S.fieldAddr rfl (L 32 rfl rfl) Try.underlying27 rfl ti4 rfl rfl) ?_
        refine U.k rfl rfl (.inr ⟨_, _, _, rfl, rfl, (L 1 rfl rfl)⟩) (S.load rfl (L 0 rfl rfl) Try.underlying4 rfl (o12.cell rfl)) nd ?_
        refine U.p rfl rfl (.inl rfl) (S.pickT rfl (L 2 rfl rfl) (L 0 rfl rfl)) ?_
        refine U.p rfl rfl (.inl rfl) (S.assign rfl (L 0 rfl rfl)) ?_
        refine U.done (Nat.le_of_ble_eq_true rfl) ?_
        refine WP.cond _ (L 0 rfl rfl) rfl (fun c76 => ?_) (fun c76 => ?_)
        ·  -- c76: o.naive is true
          refine WP.usreg rfl ?_
          refine U.callL (V := V8) rfl rfl (.inl rfl) rfl en27 (aC K aN) (fnc27 V8 1) (fun _ _ => nd) (fun v77 V78 n79 p80 => ?_)
          have le81 := n79.le
          have nx82 := nx11.call n79 (fun _ h => h.elim)
          have o83 := o14.call n79 id
          have o84 := o12.call n79 id
          obtain rfl : v77 = .agg #[.int .i64 21, .int .i64 (-1), .int .i64 (-1), .int .i64 (-1), .int .i64 1, .slice none 0 0, .int .i64 0, .bool false, .bool false] := p80
          refine U.build1 (V := V78) rfl rfl (.inl rfl) rfl (L 0 rfl rfl) Try.underlying31 ti42 rfl rfl rfl (Nat.le_of_ble_eq_true rfl) (by simp [topV]) (rfl) rfl nd (fun b44_85 V86 n87 => ?_)
          have le88 := n87.le
          have nx89 := nx82.nw n87
          have o90 := n87.own nx82
          have ne91 := o83.neNw n87
          have o92 := o83.nw n87
          have ne93 := o84.neNw n87
          have o94 := o84.nw n87
          have hl96 : ∀ c, some b44_85 = some c → c < V86.H.next := fun c e => by cases e; exact o90.lt
          have le97 := V86.fz_le (some b44_85) hl96
          have hg99 : ∀ c, some b44_85 = some c → V.H.next ≤ c := fun c e => by cases e; exact (o90.m).elim id (fun h => h.elim)
          have nx98 := nx89.fz (some b44_85) hl96 hg99
          have o100 := o92.fz (some b44_85) hl96 (fun e => ne91 (by cases e; rfl))
          have o101 := o94.fz (some b44_85) hl96 (fun e => ne93 (by cases e; rfl))
          have h95 : Sl 9 RIns (V86.fz (some b44_85) hl96) (.slice (some ⟨b44_85, 0, none⟩) 1 9) [(⟨21, (-1), (-1), (-1), 1, [], 0, false, false⟩ : Ins)] := Sl.mk1 RIns.ty (V := (V86.fz (some b44_85) hl96)) (.inr rfl) o90.get (⟨_, rfl, Sl.nil⟩)
          refine U.p rfl rfl (.inl rfl) (S.assign rfl (L 0 rfl rfl)) ?_
          refine U.done (Nat.le_of_ble_eq_true rfl) ?_
          refine WP.ret ?_
          refine blkR (sqR ?_)
          refine fin.slot (.inr rfl) rfl (L 0 rfl rfl) ⟨(V86.fz (some b44_85) hl96), rfl, nx98, ?_⟩
          have hz := h95
          first | exact hz | (simp_all [behind, syncI, lwI, acqI]; done)
        ·  -- c76: o.naive is false
          refine WP.skip ?_
          refine blkN (sqN ?_)
          refine WP.usreg rfl ?_
          refine U.p rfl rfl (.inl rfl) (S.assign rfl K) ?_
          refine U.done (Nat.le_of_ble_eq_true rfl) ?_
          refine WP.ret ?_
          refine fin.slot (.inr rfl) rfl (L 0 rfl rfl) ⟨V8, rfl, nx11, ?_⟩
          have hz := (Sl.nil : Sl 9 RIns V8 (.slice none 0 0) [])
          first | exact hz | (simp_all [behind, syncI, lwI, acqI]; done)
      ·  -- g75: x.vol is false
        refine U.x rfl rfl rfl rfl (L 0 rfl rfl) (by decide) ?_
        refine U.x rfl rfl rfl rfl (L 1 rfl rfl) (by decide) ?_
        refine U.p rfl rfl (.inl rfl) (S.pickF rfl (L 2 rfl rfl) K) ?_
        refine U.p rfl rfl (.inl rfl) (S.assign rfl (L 0 rfl rfl)) ?_
        refine U.done (Nat.le_of_ble_eq_true rfl) ?_
        refine WP.cond false (L 0 rfl rfl) rfl (fun h => by cases h) (fun _ => ?_)
        refine WP.skip ?_
        refine blkN (sqN ?_)
        refine WP.usreg rfl ?_
        refine U.p rfl rfl (.inl rfl) (S.assign rfl K) ?_
        refine U.done (Nat.le_of_ble_eq_true rfl) ?_
        refine WP.ret ?_
        refine fin.slot (.inr rfl) rfl (L 0 rfl rfl) ⟨V8, rfl, nx11, ?_⟩
        have hz := (Sl.nil : Sl 9 RIns V8 (.slice none 0 0) [])
        first | exact hz | (simp_all [behind, syncI, lwI, acqI]; done)
    ·  -- g73: decide (x.op = 10) is false
      have k102 := of_decide_eq_false g73
      refine U.x rfl rfl rfl rfl (L 0 rfl rfl) (by decide) ?_
      refine U.x rfl rfl rfl rfl (L 1 rfl rfl) (by decide) ?_
      refine U.p rfl rfl (.inl rfl) (S.pickF rfl (L 2 rfl rfl) K) ?_
      refine U.p rfl rfl (.inl rfl) (S.move rfl (L 0 rfl rfl)) ?_
      refine U.x rfl rfl rfl rfl (L 0 rfl rfl) (by decide) ?_
      refine U.x rfl rfl rfl rfl (L 1 rfl rfl) (by decide) ?_
      refine U.p rfl rfl (.inl rfl) (S.pickF rfl (L 2 rfl rfl) K) ?_
      refine U.p rfl rfl (.inl rfl) (S.assign rfl (L 0 rfl rfl)) ?_
      refine U.done (Nat.le_of_ble_eq_true rfl) ?_
      refine WP.cond false (L 0 rfl rfl) rfl (fun h => by cases h) (fun _ => ?_)
      refine WP.skip ?_
      refine blkN (sqN ?_)
      refine WP.usreg rfl ?_
      refine U.p rfl rfl (.inl rfl) (S.assign rfl K) ?_
      refine U.done (Nat.le_of_ble_eq_true rfl) ?_
      refine WP.ret ?_
      refine fin.slot (.inr rfl) rfl (L 0 rfl rfl) ⟨V8, rfl, nx11, ?_⟩
      have hz := (Sl.nil : Sl 9 RIns V8 (.slice none 0 0) [])
      first | exact hz | (simp_all [behind, syncI, lwI, acqI]; done)

set_option maxHeartbeats 4000000 in
theorem fnc13 (V : Vw) (f : Fn) (vc : Value) (hc : Sl 9 RIns V vc f.code) (o : Opt) (hlen : f.code.length < 2 ^ 28) : Cc Try.prog 0 13 #[.agg #[.string f.name, .int .i64 f.params, .int .i64 f.regs, vc], .agg #[.bool o.naive, .bool o.bare, .bool o.merged]] V (fun _ => False) (fun v V' => ∃ vc', v = .agg #[.string f.name, .int .i64 f.params, .int .i64 f.regs, vc'] ∧ Sl 9 RIns V' vc' (fenced f o)) := by
  refine Cc.of (Nat.zero_le _) Try.func13 rfl (Nat.le_of_ble_eq_true rfl) ?_
  have nx0 : Nx (fun b => V.H.next ≤ b ∨ False) V V := Nx.start
  refine WP.usreg rfl ?_
  refine U.box (V := V) rfl rfl (.inl rfl) rfl (L 0 rfl rfl) (by simp [topV]) (rfl) nd (fun b2_1 V2 n3 => ?_)
  have le4 := n3.le
  have nx5 := nx0.nw n3
  have o6 := n3.own nx0
  refine U.box (V := V2) rfl rfl (.inl rfl) rfl (L 2 rfl rfl) (by simp [topV]) (rfl) nd (fun b3_7 V8 n9 => ?_)
  have le10 := n9.le
  have nx11 := nx5.nw n9
  have o12 := n9.own nx5
  have ne13 := o6.neNw n9
  have o14 := o6.nw n9
  refine U.alloc (V := V8) rfl rfl (.inl rfl) rfl ti33 rfl rfl nd (fun b4_15 V16 n17 => ?_)
  have le18 := n17.le
  have nx19 := nx11.nw n17
  have o20 := n17.own nx11
  have ne21 := o14.neNw n17
  have o22 := o14.nw n17
  have ne23 := o12.neNw n17
  have o24 := o12.nw n17
  refine U.done (Nat.le_of_ble_eq_true rfl) ?_
  refine WP.usreg rfl ?_
  refine U.p rfl rfl (.inl rfl) (S.assign rfl K) ?_
  refine U.done (Nat.le_of_ble_eq_true rfl) ?_
  refine WP.seq ?_
  refine WP.usreg rfl ?_
  refine U.p (v := .pointer (some ⟨b2_1, 3, none⟩)) rfl rfl (.inl rfl) (S.fieldAddr rfl (L 3 rfl rfl) Try.underlying33 rfl ti31 rfl rfl) ?_
  refine U.k rfl rfl (.inl rfl) (S.load rfl (L 0 rfl rfl) Try.underlying31 rfl (o22.cell rfl)) nd ?_
  refine U.p rfl rfl (.inl rfl) (hc.len rfl (L 0 rfl rfl) Try.underlying31) ?_
  refine U.p rfl rfl (.inl rfl) (S.move rfl K) ?_
  refine U.done (Nat.le_of_ble_eq_true rfl) ?_
  refine WP.blk ?_
  refine WP.loopE (fun n l V' => ∃ (i : Nat) (vO : Value) (oO : Option Nat), l = [(11, .int .i64 (i : Int)), (10, .int .i64 (f.code.length : Int)), (9, vc), (5, vO), (4, .pointer (some ⟨b4_15, 0, none⟩)), (3, .pointer (some ⟨b3_7, 0, none⟩)), (2, .pointer (some ⟨b2_1, 0, none⟩))] ∧ n = f.code.length - i ∧ i ≤ f.code.length ∧ V16.le V' ∧ Nx (fun b => V.H.next ≤ b ∨ False) V V' ∧ Own (fun b => V.H.next ≤ b ∨ False) V' b2_1 (.cells 0 [.string f.name, .int .i64 f.params, .int .i64 f.regs, vc]) ∧ Own (fun b => V.H.next ≤ b ∨ False) V' b3_7 (.cells 0 [.bool o.naive, .bool o.bare, .bool o.merged]) ∧ Own (fun b => V.H.next ≤ b ∨ False) V' b4_15 (.cells 4 [.string ByteArray.empty, .int .i64 0, .int .i64 0, .slice none 0 0]) ∧ OSl (fun b => V.H.next ≤ b ∨ False) 9 RIns V' oO vO ((f.code.take i).flatMap (fstep o)) ∧ oO ≠ some b2_1 ∧ oO ≠ some b3_7 ∧ oO ≠ some b4_15) ?_ _ _ V16 ⟨0, .slice none 0 0, none, rfl, rfl, Nat.zero_le _, .refl _, nx19, o22, o24, o20, OSl.nil, (fun e => by cases e), (fun e => by cases e), (fun e => by cases e)⟩ _ (allCons (L 0 rfl rfl) (allCons (L 1 rfl rfl) (allCons (L 2 rfl rfl) (allCons (L 4 rfl rfl) (allCons (L 5 rfl rfl) (allCons (L 6 rfl rfl) (allCons (L 7 rfl rfl) allNil)))))))
  rintro n29 l28 V25 ⟨i, vO, oO, rfl, rfl, hi, le27, nx26, o30, o31, o32, h33, ne34, ne35, ne36⟩
  have hml := flat_le o (f.code.take i)
  rw [List.length_take] at hml
  have hfb := fun x => fstep_le o x
  refine WP.usreg rfl ?_
  refine U.p rfl rfl (.inl rfl) (S.lss rfl (L 0 rfl rfl) (L 1 rfl rfl)) ?_
  refine U.done (Nat.le_of_ble_eq_true rfl) ?_
  refine WP.seq ?_
  refine WP.cond _ (L 0 rfl rfl) rfl (fun c37 => ?_) (fun c37 => ?_)
  ·  -- c37: decide ((i : Int) < (f.code.length : Int)) is true
    have k38 := of_decide_eq_true c37
    refine WP.skip ?_
    refine sqN ?_
    refine WP.seq ?_
    refine WP.blk ?_
    refine WP.usreg rfl ?_
    have h41 := hc.up RIns.ty (((le4.trans le10).trans le18).trans le27)
    have hx40_lt : i < f.code.length := by omega
    obtain ⟨x39, hx40⟩ : ∃ x, f.code[i]? = some x := ⟨_, List.getElem?_eq_getElem hx40_lt⟩
    obtain ⟨b42, f43, c44, cs45, hv50, hb46, hl47, hr48, hc49⟩ := h41.at hx40
    obtain ⟨va51, rfl, ha52⟩ := hr48
    refine U.p rfl rfl (.inl rfl) (S.index rfl ((L 3 rfl rfl).trans hv50) (L 1 rfl rfl) Try.underlying31 ti42 (by omega) (by omega)) ?_
    refine U.k rfl rfl (.inl rfl) (S.loadN (cs := [.int .i64 x39.op, .int .i64 x39.d, .int .i64 x39.a, .int .i64 x39.b, .int .i64 x39.imm, va51, .int .i64 x39.what, .bool x39.vol, .bool x39.fin]) rfl (L 0 rfl rfl) Try.underlying42 rfl ti42 rfl (fun j v hj => hc49 j v hj)) nd ?_
    refine U.alloc (V := V25) rfl rfl (.inl rfl) rfl ti42 rfl rfl nd (fun b7_53 V54 n55 => ?_)
    have le56 := n55.le
    have nx57 := nx26.nw n55
    have o58 := n55.own nx26
    have ne59 := o30.neNw n55
    have o60 := o30.nw n55
    have ne61 := o31.neNw n55
    have o62 := o31.nw n55
    have ne63 := o32.neNw n55
    have o64 := o32.nw n55
    have ne65 := h33.neNw n55
    have h66 := h33.nw RIns.ty n55
    refine U.store (V := V54) (cs := [.int .i64 x39.op, .int .i64 x39.d, .int .i64 x39.a, .int .i64 x39.b, .int .i64 x39.imm, va51, .int .i64 x39.what, .bool x39.vol, .bool x39.fin]) (c' := [.int .i64 x39.op, .int .i64 x39.d, .int .i64 x39.a, .int .i64 x39.b, .int .i64 x39.imm, va51, .int .i64 x39.what, .bool x39.vol, .bool x39.fin]) rfl rfl (.inl rfl) rfl (L 0 rfl rfl) (L 1 rfl rfl) ti42 o58 (by simp [topV]) (rfl) rfl (Nat.le_of_ble_eq_true rfl) (by have := ha52.one;  simp only [List.all_cons, List.all_nil, *]; rfl) rfl nd (fun V67 s68 => ?_)
    have le69 := s68.le o58
    have nx70 := nx57.st s68 o58
    have o71 := o60.st s68 ne59
    have o72 := o62.st s68 ne61
    have o73 := o64.st s68 ne63
    have h74 := h66.st RIns.ty s68 o58 ne65
    have o75 := s68.own o58
    refine U.done (Nat.le_of_ble_eq_true rfl) ?_
    refine WP.seq ?_
    refine WP.usreg rfl ?_
    refine U.p (v := .pointer (some ⟨b7_53, 0, none⟩)) rfl rfl (.inl rfl) (S.fieldAddr rfl (L 0 rfl rfl) Try.underlying42 rfl ti3 rfl rfl) ?_
    refine U.k rfl rfl (.inl rfl) (S.load rfl (L 0 rfl rfl) Try.underlying3 rfl (o75.cell rfl)) nd ?_
    refine U.p rfl rfl (.inl rfl) (S.eqlI rfl (L 0 rfl rfl) K) ?_
    refine U.done (Nat.le_of_ble_eq_true rfl) ?_
    refine WP.cond _ (L 0 rfl rfl) rfl (fun c76 => ?_) (fun c76 => ?_)
    ·  -- c76: decide (x39.op = 22) is true
      have k77 := of_decide_eq_true c76
      refine WP.usreg rfl ?_
      refine U.p rfl rfl (.inl rfl) (S.move rfl (L 10 rfl rfl)) ?_
      refine U.k rfl rfl (.inl rfl) (S.loadB rfl (L 4 rfl rfl) Try.underlying42 rfl ti42 o75.get rfl) nd ?_
      refine U.k rfl rfl (.inl rfl) (S.loadB rfl (L 14 rfl rfl) Try.underlying27 rfl ti27 o72.get rfl) nd ?_
      have h82 := ha52.up RInt.ty (le56.trans le69)
      refine U.callL (V := V67) rfl rfl (.inl rfl) rfl en20 (aC (L 1 rfl rfl) (aC (L 0 rfl rfl) aN)) (fnc20 V67 x39 va51 h82 o) (fun _ _ => nd) (fun v78 V79 n80 p81 => ?_)
      have le83 := n80.le
      have nx84 := nx70.call n80 (fun _ h => h.elim)
      have o85 := o71.call n80 id
      have o86 := o72.call n80 id
      have o87 := o73.call n80 id
      have o88 := o75.call n80 id
      have h89 := h74.call RIns.ty n80 (fun _ _ => id)
      have := frozen_le x39 o
      refine U.append (V := V79) RIns.ty rfl rfl (.inl rfl) rfl (L 3 rfl rfl) (L 0 rfl rfl) Try.underlying31 ti42 rfl rfl Try.underlying31 nx84 h89 p81 (by (try simp only [List.length_nil, List.length_append, List.length_cons, List.length_map, List.length_take]); omega) (by (try simp only [List.length_nil, List.length_append, List.length_cons, List.length_map, List.length_take]); omega) (fun _ _ => nd) (fun v90 ob91 V92 le93 nx94 h95 tr96 => ?_)
      obtain ⟨o97, ne98⟩ := tr96 _ _ o85 ne34
      obtain ⟨o99, ne100⟩ := tr96 _ _ o86 ne35
      obtain ⟨o101, ne102⟩ := tr96 _ _ o87 ne36
      obtain ⟨o103, ne104⟩ := tr96 _ _ o88 ne65
      refine U.p rfl rfl (.inl rfl) (S.assign rfl (L 0 rfl rfl)) ?_
      refine U.done (Nat.le_of_ble_eq_true rfl) ?_
      refine WP.exit ?_
      refine sqE (blkE (sqN ?_))
      refine WP.ureg rfl ?_
      refine U.p rfl rfl (.inl rfl) (S.addI rfl (L 13 rfl rfl) K rfl (by omega) (by omega)) ?_
      refine U.p rfl rfl (.inl rfl) (S.move rfl (L 0 rfl rfl)) ?_
      refine U.done (Nat.le_of_ble_eq_true rfl) ?_
      refine sqN ?_
      have hm := flat_snoc (fstep o) f.code i x39 hx40
      refine ⟨_, _, V92, rfl, ⟨i + 1, v90, ob91, rfl, rfl, by omega, (((((le27.trans le56).trans le69).trans le83).trans le93)), nx94, o97, o99, o101, (by rw [hm]; simpa [fstep, *] using h95), ne98, ne100, ne102⟩, (by omega), allCons (L 0 rfl rfl) (allCons (L 16 rfl rfl) (allCons (L 17 rfl rfl) (allCons (L 2 rfl rfl) (allCons (L 19 rfl rfl) (allCons (L 20 rfl rfl) (allCons (L 21 rfl rfl) allNil))))))⟩
    ·  -- c76: decide (x39.op = 22) is false
      have k105 := of_decide_eq_false c76
      refine WP.skip ?_
      refine sqN ?_
      refine WP.usreg rfl ?_
      refine U.p rfl rfl (.inl rfl) (S.move rfl (L 10 rfl rfl)) ?_
      refine U.k rfl rfl (.inl rfl) (S.loadB rfl (L 4 rfl rfl) Try.underlying42 rfl ti42 o75.get rfl) nd ?_
      refine U.k rfl rfl (.inl rfl) (S.loadB rfl (L 14 rfl rfl) Try.underlying27 rfl ti27 o72.get rfl) nd ?_
      have h110 := ha52.up RInt.ty (le56.trans le69)
      refine U.callL (V := V67) rfl rfl (.inl rfl) rfl en21 (aC (L 1 rfl rfl) (aC (L 0 rfl rfl) aN)) (fnc21 V67 x39 va51 h110 o) (fun _ _ => nd) (fun v106 V107 n108 p109 => ?_)
      have le111 := n108.le
      have nx112 := nx70.call n108 (fun _ h => h.elim)
      have o113 := o71.call n108 id
      have o114 := o72.call n108 id
      have o115 := o73.call n108 id
      have o116 := o75.call n108 id
      have h117 := h74.call RIns.ty n108 (fun _ _ => id)
      have := ahead_le x39 o
      refine U.append (V := V107) RIns.ty rfl rfl (.inl rfl) rfl (L 3 rfl rfl) (L 0 rfl rfl) Try.underlying31 ti42 rfl rfl Try.underlying31 nx112 h117 p109 (by (try simp only [List.length_nil, List.length_append, List.length_cons, List.length_map, List.length_take]); omega) (by (try simp only [List.length_nil, List.length_append, List.length_cons, List.length_map, List.length_take]); omega) (fun _ _ => nd) (fun v118 ob119 V120 le121 nx122 h123 tr124 => ?_)
      obtain ⟨o125, ne126⟩ := tr124 _ _ o113 ne34
      obtain ⟨o127, ne128⟩ := tr124 _ _ o114 ne35
      obtain ⟨o129, ne130⟩ := tr124 _ _ o115 ne36
      obtain ⟨o131, ne132⟩ := tr124 _ _ o116 ne65
      refine U.p rfl rfl (.inl rfl) (S.assign rfl (L 0 rfl rfl)) ?_
      refine U.done (Nat.le_of_ble_eq_true rfl) ?_
      refine WP.usreg rfl ?_
      refine U.p rfl rfl (.inl rfl) (S.move rfl (L 0 rfl rfl)) ?_
      refine U.k rfl rfl (.inl rfl) (S.loadB rfl (L 10 rfl rfl) Try.underlying42 rfl ti42 o131.get rfl) nd ?_
      refine U.build1 (V := V120) rfl rfl (.inl rfl) rfl (L 0 rfl rfl) Try.underlying31 ti42 rfl rfl rfl (Nat.le_of_ble_eq_true rfl) (by simp [topV]) (rfl) rfl nd (fun b30_133 V134 n135 => ?_)
      have le136 := n135.le
      have nx137 := nx122.nw n135
      have o138 := n135.own nx122
      have ne139 := o125.neNw n135
      have o140 := o125.nw n135
      have ne141 := o127.neNw n135
      have o142 := o127.nw n135
      have ne143 := o129.neNw n135
      have o144 := o129.nw n135
      have ne145 := o131.neNw n135
      have o146 := o131.nw n135
      have ne147 := h123.neNw n135
      have h148 := h123.nw RIns.ty n135
      have hl150 : ∀ c, some b30_133 = some c → c < V134.H.next := fun c e => by cases e; exact o138.lt
      have le151 := V134.fz_le (some b30_133) hl150
      have hg153 : ∀ c, some b30_133 = some c → V.H.next ≤ c := fun c e => by cases e; exact (o138.m).elim id (fun h => h.elim)
      have nx152 := nx137.fz (some b30_133) hl150 hg153
      have o154 := o140.fz (some b30_133) hl150 (fun e => ne139 (by cases e; rfl))
      have o155 := o142.fz (some b30_133) hl150 (fun e => ne141 (by cases e; rfl))
      have o156 := o144.fz (some b30_133) hl150 (fun e => ne143 (by cases e; rfl))
      have o157 := o146.fz (some b30_133) hl150 (fun e => ne145 (by cases e; rfl))
      have h158 := h148.fzo RIns.ty (some b30_133) hl150 (fun c e e2 => ne147 (e.trans e2.symm))
      have h159 := ha52.up RInt.ty (((((le56.trans le69).trans le111).trans le121).trans le136).trans le151)
      have h149 : Sl 9 RIns (V134.fz (some b30_133) hl150) (.slice (some ⟨b30_133, 0, none⟩) 1 9) [x39] := Sl.mk1 RIns.ty (V := (V134.fz (some b30_133) hl150)) (.inr rfl) o138.get (⟨_, rfl, h159⟩)
      refine U.append (V := (V134.fz (some b30_133) hl150)) RIns.ty rfl rfl (.inl rfl) rfl (L 2 rfl rfl) (L 0 rfl rfl) Try.underlying31 ti42 rfl rfl Try.underlying31 nx152 h158 h149 (by (try simp only [List.length_nil, List.length_append, List.length_cons, List.length_map, List.length_take]); omega) (by (try simp only [List.length_nil, List.length_append, List.length_cons, List.length_map, List.length_take]); omega) (fun _ _ => nd) (fun v160 ob161 V162 le163 nx164 h165 tr166 => ?_)
      obtain ⟨o167, ne168⟩ := tr166 _ _ o154 ne126
      obtain ⟨o169, ne170⟩ := tr166 _ _ o155 ne128
      obtain ⟨o171, ne172⟩ := tr166 _ _ o156 ne130
      obtain ⟨o173, ne174⟩ := tr166 _ _ o157 ne132
      refine U.p rfl rfl (.inl rfl) (S.assign rfl (L 0 rfl rfl)) ?_
      refine U.done (Nat.le_of_ble_eq_true rfl) ?_
      refine WP.ureg rfl ?_
      refine U.p rfl rfl (.inl rfl) (S.move rfl (L 0 rfl rfl)) ?_
      refine U.k rfl rfl (.inl rfl) (S.loadB rfl (L 15 rfl rfl) Try.underlying42 rfl ti42 o173.get rfl) nd ?_
      refine U.k rfl rfl (.inl rfl) (S.loadB rfl (L 25 rfl rfl) Try.underlying27 rfl ti27 o169.get rfl) nd ?_
      have h179 := ha52.up RInt.ty ((((((le56.trans le69).trans le111).trans le121).trans le136).trans le151).trans le163)
      refine U.callL (V := V162) rfl rfl (.inl rfl) rfl en22 (aC (L 1 rfl rfl) (aC (L 0 rfl rfl) aN)) (fnc22 V162 x39 va51 h179 o) (fun _ _ => nd) (fun v175 V176 n177 p178 => ?_)
      have le180 := n177.le
      have nx181 := nx164.call n177 (fun _ h => h.elim)
      have o182 := o167.call n177 id
      have o183 := o169.call n177 id
      have o184 := o171.call n177 id
      have o185 := o173.call n177 id
      have h186 := h165.call RIns.ty n177 (fun _ _ => id)
      have := behind_le x39 o
      refine U.append (V := V176) RIns.ty rfl rfl (.inl rfl) rfl (L 3 rfl rfl) (L 0 rfl rfl) Try.underlying31 ti42 rfl rfl Try.underlying31 nx181 h186 p178 (by (try simp only [List.length_nil, List.length_append, List.length_cons, List.length_map, List.length_take]); omega) (by (try simp only [List.length_nil, List.length_append, List.length_cons, List.length_map, List.length_take]); omega) (fun _ _ => nd) (fun v187 ob188 V189 le190 nx191 h192 tr193 => ?_)
      obtain ⟨o194, ne195⟩ := tr193 _ _ o182 ne168
      obtain ⟨o196, ne197⟩ := tr193 _ _ o183 ne170
      obtain ⟨o198, ne199⟩ := tr193 _ _ o184 ne172
      obtain ⟨o200, ne201⟩ := tr193 _ _ o185 ne174
      refine U.p rfl rfl (.inl rfl) (S.assign rfl (L 0 rfl rfl)) ?_
      refine U.done (Nat.le_of_ble_eq_true rfl) ?_
      refine blkN (sqN ?_)
      refine WP.ureg rfl ?_
      refine U.p rfl rfl (.inl rfl) (S.addI rfl (L 24 rfl rfl) K rfl (by omega) (by omega)) ?_
      refine U.p rfl rfl (.inl rfl) (S.move rfl (L 0 rfl rfl)) ?_
      refine U.done (Nat.le_of_ble_eq_true rfl) ?_
      refine sqN ?_
      have hm := flat_snoc (fstep o) f.code i x39 hx40
      refine ⟨_, _, V189, rfl, ⟨i + 1, v187, ob188, rfl, rfl, by omega, ((((((((((le27.trans le56).trans le69).trans le111).trans le121).trans le136).trans le151).trans le163).trans le180).trans le190)), nx191, o194, o196, o198, (by rw [hm]; simpa [fstep, *] using h192), ne195, ne197, ne199⟩, (by omega), allCons (L 0 rfl rfl) (allCons (L 27 rfl rfl) (allCons (L 28 rfl rfl) (allCons (L 2 rfl rfl) (allCons (L 30 rfl rfl) (allCons (L 31 rfl rfl) (allCons (L 32 rfl rfl) allNil))))))⟩
  ·  -- c37: decide ((i : Int) < (f.code.length : Int)) is false
    have k202 := of_decide_eq_false c37
    refine WP.exit ?_
    refine sqE (sqE (blkE (sqN ?_)))
    refine WP.seq ?_
    refine WP.usreg rfl ?_
    refine U.p (v := .pointer (some ⟨b3_7, 2, none⟩)) rfl rfl (.inl rfl) (S.fieldAddr rfl (L 6 rfl rfl) Try.underlying27 rfl ti4 rfl rfl) ?_
    refine U.k rfl rfl (.inl rfl) (S.load rfl (L 0 rfl rfl) Try.underlying4 rfl (o31.cell rfl)) nd ?_
    refine U.done (Nat.le_of_ble_eq_true rfl) ?_
    refine WP.cond _ (L 0 rfl rfl) rfl (fun c203 => ?_) (fun c203 => ?_)
    ·  -- c203: o.merged is true
      refine WP.ureg rfl ?_
      refine U.p rfl rfl (.inl rfl) (S.move rfl (L 6 rfl rfl)) ?_
      have hl208 := h33.lt
      have le209 := V25.fz_le (oO) hl208
      have hg211 : ∀ c, oO = some c → V.H.next ≤ c := fun c e => ((h33.oo c e).m).elim id (fun h => h.elim)
      have nx210 := nx26.fz (oO) hl208 hg211
      have o212 := o30.fz (oO) hl208 ne34
      have o213 := o31.fz (oO) hl208 ne35
      have o214 := o32.fz (oO) hl208 ne36
      have h215 := h33.fz RIns.ty hl208
      refine U.callL (V := (V25.fz (oO) hl208)) rfl rfl (.inl rfl) rfl en23 (aC (L 0 rfl rfl) aN) (fnc23 (V25.fz (oO) hl208) vO ((f.code.take i).flatMap (fstep o)) h215 (by omega)) (fun _ _ => nd) (fun v204 V205 n206 p207 => ?_)
      have le216 := n206.le
      have nx217 := nx210.call n206 (fun _ h => h.elim)
      have o218 := o212.call n206 id
      have o219 := o213.call n206 id
      have o220 := o214.call n206 id
      refine U.p rfl rfl (.inl rfl) (S.assign rfl (L 0 rfl rfl)) ?_
      refine U.done (Nat.le_of_ble_eq_true rfl) ?_
      refine sqN ?_
      refine WP.usreg rfl ?_
      refine U.p rfl rfl (.inl rfl) (S.move rfl (L 0 rfl rfl)) ?_
      refine U.p (v := .pointer (some ⟨b2_1, 3, none⟩)) rfl rfl (.inl rfl) (S.fieldAddr rfl (L 13 rfl rfl) Try.underlying33 rfl ti31 rfl rfl) ?_
      refine U.store (V := V205) (cs := [v204]) (c' := [.string f.name, .int .i64 f.params, .int .i64 f.regs, v204]) rfl rfl (.inl rfl) rfl (L 0 rfl rfl) (L 1 rfl rfl) ti31 o218 (p207.ne) (by rw [p207.cells]) rfl (Nat.le_of_ble_eq_true rfl) (by have := p207.one;  simp only [List.all_cons, List.all_nil, *]; rfl) rfl nd (fun V221 s222 => ?_)
      have le223 := s222.le o218
      have nx224 := nx217.st s222 o218
      have o225 := o219.st s222 (Ne.symm ne13)
      have o226 := o220.st s222 (Ne.symm ne21)
      have o227 := s222.own o218
      refine U.done (Nat.le_of_ble_eq_true rfl) ?_
      refine WP.usreg rfl ?_
      refine U.k rfl rfl (.inl rfl) (S.loadB rfl (L 14 rfl rfl) Try.underlying33 rfl ti33 o227.get rfl) nd ?_
      refine U.store (V := V221) (cs := [.string f.name, .int .i64 f.params, .int .i64 f.regs, v204]) (c' := [.string f.name, .int .i64 f.params, .int .i64 f.regs, v204]) rfl rfl (.inl rfl) rfl (L 13 rfl rfl) (L 0 rfl rfl) ti33 o226 (by simp [topV]) (rfl) rfl (Nat.le_of_ble_eq_true rfl) (by have := p207.one;  simp only [List.all_cons, List.all_nil, *]; rfl) rfl nd (fun V228 s229 => ?_)
      have le230 := s229.le o226
      have nx231 := nx224.st s229 o226
      have o232 := o227.st s229 ne21
      have o233 := o225.st s229 ne23
      have o234 := s229.own o226
      refine U.done (Nat.le_of_ble_eq_true rfl) ?_
      refine WP.ret ?_
      refine fin.cellN (.inr rfl) rfl (L 13 rfl rfl) Try.underlying33 rfl ti33 o234.get rfl ⟨V228, rfl, nx231, ?_⟩
      have h235 := p207.up RIns.ty (le223.trans le230)
      have : i = f.code.length := by omega
      subst this
      exact ⟨_, rfl, by simpa [fenced, *] using h235⟩
    ·  -- c203: o.merged is false
      refine WP.skip ?_
      refine sqN ?_
      refine WP.usreg rfl ?_
      refine U.p rfl rfl (.inl rfl) (S.move rfl (L 6 rfl rfl)) ?_
      refine U.p (v := .pointer (some ⟨b2_1, 3, none⟩)) rfl rfl (.inl rfl) (S.fieldAddr rfl (L 10 rfl rfl) Try.underlying33 rfl ti31 rfl rfl) ?_
      refine U.store (V := V25) (cs := [vO]) (c' := [.string f.name, .int .i64 f.params, .int .i64 f.regs, vO]) rfl rfl (.inl rfl) rfl (L 0 rfl rfl) (L 1 rfl rfl) ti31 o30 (h33.ne) (by rw [h33.cells]) rfl (Nat.le_of_ble_eq_true rfl) (by have := h33.one;  simp only [List.all_cons, List.all_nil, *]; rfl) rfl nd (fun V236 s237 => ?_)
      have le238 := s237.le o30
      have nx239 := nx26.st s237 o30
      have o240 := o31.st s237 (Ne.symm ne13)
      have o241 := o32.st s237 (Ne.symm ne21)
      have h242 := h33.st RIns.ty s237 o30 ne34
      have o243 := s237.own o30
      refine U.done (Nat.le_of_ble_eq_true rfl) ?_
      refine WP.usreg rfl ?_
      refine U.k rfl rfl (.inl rfl) (S.loadB rfl (L 11 rfl rfl) Try.underlying33 rfl ti33 o243.get rfl) nd ?_
      refine U.store (V := V236) (cs := [.string f.name, .int .i64 f.params, .int .i64 f.regs, vO]) (c' := [.string f.name, .int .i64 f.params, .int .i64 f.regs, vO]) rfl rfl (.inl rfl) rfl (L 10 rfl rfl) (L 0 rfl rfl) ti33 o241 (by simp [topV]) (rfl) rfl (Nat.le_of_ble_eq_true rfl) (by have := h242.one;  simp only [List.all_cons, List.all_nil, *]; rfl) rfl nd (fun V244 s245 => ?_)
      have le246 := s245.le o241
      have nx247 := nx239.st s245 o241
      have o248 := o243.st s245 ne21
      have o249 := o240.st s245 ne23
      have h250 := h242.st RIns.ty s245 o241 ne36
      have o251 := s245.own o241
      refine U.done (Nat.le_of_ble_eq_true rfl) ?_
      refine WP.ret ?_
      have hl252 := h250.lt
      have le253 := V244.fz_le (oO) hl252
      have hg255 : ∀ c, oO = some c → V.H.next ≤ c := fun c e => ((h250.oo c e).m).elim id (fun h => h.elim)
      have nx254 := nx247.fz (oO) hl252 hg255
      have o256 := o248.fz (oO) hl252 ne34
      have o257 := o249.fz (oO) hl252 ne35
      have o258 := o251.fz (oO) hl252 ne36
      have h259 := h250.fz RIns.ty hl252
      refine fin.cellN (.inr rfl) rfl (L 10 rfl rfl) Try.underlying33 rfl ti33 o258.get rfl ⟨(V244.fz (oO) hl252), rfl, nx254, ?_⟩
      have : i = f.code.length := by omega
      subst this
      exact ⟨_, rfl, by simpa [fenced, *] using h259⟩

set_option maxHeartbeats 4000000 in
theorem fnc8 (V : Vw) (m : Mod) (vf vt : Value) (hf : Sl 4 RFn V vf m.funcs) (ht : Sl 1 RInt V vt m.threads) (o : Opt) (hB : ∀ f ∈ m.funcs, f.code.length ≤ 1000000) (hn : m.funcs.length ≤ 1000000) (htl : m.threads.length ≤ 1000000) : Cc Try.prog 0 8 #[.agg #[vf, vt], .agg #[.bool o.naive, .bool o.bare, .bool o.merged]] V (fun _ => False) (fun v V' => ∃ vf' vt', v = .agg #[vf', vt'] ∧ Sl 4 RFn V' vf' (m.funcs.map (fencedF o)) ∧ Sl 1 RInt V' vt' m.threads) := by
  refine Cc.of (Nat.zero_le _) Try.func8 rfl (Nat.le_of_ble_eq_true rfl) ?_
  have nx0 : Nx (fun b => V.H.next ≤ b ∨ False) V V := Nx.start
  refine WP.usreg rfl ?_
  refine U.box (V := V) rfl rfl (.inl rfl) rfl (L 0 rfl rfl) (by simp [topV]) (rfl) nd (fun b2_1 V2 n3 => ?_)
  have le4 := n3.le
  have nx5 := nx0.nw n3
  have o6 := n3.own nx0
  refine U.box (V := V2) rfl rfl (.inl rfl) rfl (L 2 rfl rfl) (by simp [topV]) (rfl) nd (fun b3_7 V8 n9 => ?_)
  have le10 := n9.le
  have nx11 := nx5.nw n9
  have o12 := n9.own nx5
  have ne13 := o6.neNw n9
  have o14 := o6.nw n9
  refine U.alloc (V := V8) rfl rfl (.inl rfl) rfl ti25 rfl rfl nd (fun b4_15 V16 n17 => ?_)
  have le18 := n17.le
  have nx19 := nx11.nw n17
  have o20 := n17.own nx11
  have ne21 := o14.neNw n17
  have o22 := o14.nw n17
  have ne23 := o12.neNw n17
  have o24 := o12.nw n17
  refine U.done (Nat.le_of_ble_eq_true rfl) ?_
  refine WP.usreg rfl ?_
  refine U.p (v := .pointer (some ⟨b2_1, 1, none⟩)) rfl rfl (.inl rfl) (S.fieldAddr rfl (L 2 rfl rfl) Try.underlying25 rfl ti23 rfl rfl) ?_
  refine U.k rfl rfl (.inl rfl) (S.load rfl (L 0 rfl rfl) Try.underlying23 rfl (o22.cell rfl)) nd ?_
  have h29 := ht.up RInt.ty ((le4.trans le10).trans le18)
  refine U.callL (V := V16) rfl rfl (.inl rfl) rfl en15 (aC (L 0 rfl rfl) aN) (fnc15 V16 vt m.threads h29 (by omega)) (fun _ _ => nd) (fun v25 V26 n27 p28 => ?_)
  have le30 := n27.le
  have nx31 := nx19.call n27 (fun _ h => h.elim)
  have o32 := o22.call n27 id
  have o33 := o24.call n27 id
  have o34 := o20.call n27 id
  refine U.p rfl rfl (.inl rfl) (S.build (r := #[.slice none 0 0, v25]) rfl ti25 rfl pl25 (aC (L 0 rfl rfl) aN) (allC (p28.ne) allN) (fill1 rfl p28.cells (Nat.le_of_ble_eq_true rfl) rfl)) ?_
  refine U.alloc (V := V26) rfl rfl (.inl rfl) rfl ti25 rfl rfl nd (fun b5_35 V36 n37 => ?_)
  have le38 := n37.le
  have nx39 := nx31.nw n37
  have o40 := n37.own nx31
  have ne41 := o32.neNw n37
  have o42 := o32.nw n37
  have ne43 := o33.neNw n37
  have o44 := o33.nw n37
  have ne45 := o34.neNw n37
  have o46 := o34.nw n37
  refine U.store (V := V36) (cs := [.slice none 0 0, v25]) (c' := [.slice none 0 0, v25]) rfl rfl (.inl rfl) rfl (L 0 rfl rfl) (L 1 rfl rfl) ti25 o40 (by simp [topV]) (rfl) rfl (Nat.le_of_ble_eq_true rfl) (by have := p28.one;  simp only [List.all_cons, List.all_nil, *]; rfl) rfl nd (fun V47 s48 => ?_)
  have le49 := s48.le o40
  have nx50 := nx39.st s48 o40
  have o51 := o42.st s48 ne41
  have o52 := o44.st s48 ne43
  have o53 := o46.st s48 ne45
  have o54 := s48.own o40
  refine U.done (Nat.le_of_ble_eq_true rfl) ?_
  refine WP.seq ?_
  refine WP.usreg rfl ?_
  refine U.p (v := .pointer (some ⟨b2_1, 0, none⟩)) rfl rfl (.inl rfl) (S.fieldAddr rfl (L 7 rfl rfl) Try.underlying25 rfl ti22 rfl rfl) ?_
  refine U.k rfl rfl (.inl rfl) (S.load rfl (L 0 rfl rfl) Try.underlying22 rfl (o51.cell rfl)) nd ?_
  refine U.p rfl rfl (.inl rfl) (hf.len rfl (L 0 rfl rfl) Try.underlying22) ?_
  refine U.p rfl rfl (.inl rfl) (S.move rfl K) ?_
  refine U.done (Nat.le_of_ble_eq_true rfl) ?_
  refine WP.blk ?_
  refine WP.loopE (fun n l V' => ∃ (i : Nat) (vO : Value) (oO : Option Nat), l = [(15, .int .i64 (i : Int)), (14, .int .i64 (m.funcs.length : Int)), (13, vf), (5, .pointer (some ⟨b5_35, 0, none⟩)), (4, .pointer (some ⟨b4_15, 0, none⟩)), (3, .pointer (some ⟨b3_7, 0, none⟩))] ∧ n = m.funcs.length - i ∧ i ≤ m.funcs.length ∧ V47.le V' ∧ Nx (fun b => V.H.next ≤ b ∨ False) V V' ∧ Own (fun b => V.H.next ≤ b ∨ False) V' b3_7 (.cells 0 [.bool o.naive, .bool o.bare, .bool o.merged]) ∧ Own (fun b => V.H.next ≤ b ∨ False) V' b4_15 (.cells 2 [.slice none 0 0, .slice none 0 0]) ∧ Own (fun b => V.H.next ≤ b ∨ False) V' b5_35 (.cells 2 [vO, v25]) ∧ OSl (fun b => V.H.next ≤ b ∨ False) 4 RFn V' oO vO ((m.funcs.take i).map (fencedF o)) ∧ oO ≠ some b3_7 ∧ oO ≠ some b4_15 ∧ oO ≠ some b5_35) ?_ _ _ V47 ⟨0, .slice none 0 0, none, rfl, rfl, Nat.zero_le _, .refl _, nx50, o52, o53, o54, OSl.nil, (fun e => by cases e), (fun e => by cases e), (fun e => by cases e)⟩ _ (allCons (L 0 rfl rfl) (allCons (L 1 rfl rfl) (allCons (L 2 rfl rfl) (allCons (L 4 rfl rfl) (allCons (L 9 rfl rfl) (allCons (L 10 rfl rfl) allNil))))))
  rintro n59 l58 V55 ⟨i, vO, oO, rfl, rfl, hi, le57, nx56, o60, o61, o62, h63, ne64, ne65, ne66⟩
  refine WP.usreg rfl ?_
  refine U.p rfl rfl (.inl rfl) (S.lss rfl (L 0 rfl rfl) (L 1 rfl rfl)) ?_
  refine U.done (Nat.le_of_ble_eq_true rfl) ?_
  refine WP.seq ?_
  refine WP.cond _ (L 0 rfl rfl) rfl (fun c67 => ?_) (fun c67 => ?_)
  ·  -- c67: decide ((i : Int) < (m.funcs.length : Int)) is true
    have k68 := of_decide_eq_true c67
    refine WP.skip ?_
    refine sqN ?_
    refine WP.seq ?_
    refine WP.blk ?_
    refine WP.usreg rfl ?_
    have h71 := hf.up RFn.ty ((((((le4.trans le10).trans le18).trans le30).trans le38).trans le49).trans le57)
    have hx70_lt : i < m.funcs.length := by omega
    obtain ⟨x69, hx70⟩ : ∃ x, m.funcs[i]? = some x := ⟨_, List.getElem?_eq_getElem hx70_lt⟩
    obtain ⟨b72, f73, c74, cs75, hv80, hb76, hl77, hr78, hc79⟩ := h71.at hx70
    obtain ⟨va81, rfl, ha82⟩ := hr78
    refine U.p rfl rfl (.inl rfl) (S.index rfl ((L 3 rfl rfl).trans hv80) (L 1 rfl rfl) Try.underlying22 ti33 (by omega) (by omega)) ?_
    refine U.k rfl rfl (.inl rfl) (S.loadN (cs := [.string x69.name, .int .i64 x69.params, .int .i64 x69.regs, va81]) rfl (L 0 rfl rfl) Try.underlying33 rfl ti33 rfl (fun j v hj => hc79 j v hj)) nd ?_
    refine U.alloc (V := V55) rfl rfl (.inl rfl) rfl ti33 rfl rfl nd (fun b7_83 V84 n85 => ?_)
    have le86 := n85.le
    have nx87 := nx56.nw n85
    have o88 := n85.own nx56
    have ne89 := o60.neNw n85
    have o90 := o60.nw n85
    have ne91 := o61.neNw n85
    have o92 := o61.nw n85
    have ne93 := o62.neNw n85
    have o94 := o62.nw n85
    have ne95 := h63.neNw n85
    have h96 := h63.nw RFn.ty n85
    refine U.store (V := V84) (cs := [.string x69.name, .int .i64 x69.params, .int .i64 x69.regs, va81]) (c' := [.string x69.name, .int .i64 x69.params, .int .i64 x69.regs, va81]) rfl rfl (.inl rfl) rfl (L 0 rfl rfl) (L 1 rfl rfl) ti33 o88 (by simp [topV]) (rfl) rfl (Nat.le_of_ble_eq_true rfl) (by have := ha82.one;  simp only [List.all_cons, List.all_nil, *]; rfl) rfl nd (fun V97 s98 => ?_)
    have le99 := s98.le o88
    have nx100 := nx87.st s98 o88
    have o101 := o90.st s98 ne89
    have o102 := o92.st s98 ne91
    have o103 := o94.st s98 ne93
    have h104 := h96.st RFn.ty s98 o88 ne95
    have o105 := s98.own o88
    refine U.done (Nat.le_of_ble_eq_true rfl) ?_
    refine WP.udreg rfl rfl rfl ?_
    refine U.p (v := .pointer (some ⟨b5_35, 0, none⟩)) rfl rfl (.inl rfl) (S.fieldAddr rfl (L 7 rfl rfl) Try.underlying25 rfl ti22 rfl rfl) ?_
    refine U.k rfl rfl (.inl rfl) (S.load rfl (L 0 rfl rfl) Try.underlying22 rfl (o103.cell rfl)) (fun _ => (okH.nil (fun r h => by cases h; exact o103.lt))) ?_
    refine U.k rfl rfl (.inl rfl) (S.loadB rfl (L 2 rfl rfl) Try.underlying33 rfl ti33 o105.get rfl) (fun _ => (okH.cons trivial (okH.nil (fun r h => by cases h; exact o105.lt)))) ?_
    refine U.k rfl rfl (.inl rfl) (S.loadB rfl (L 12 rfl rfl) Try.underlying27 rfl ti27 o101.get rfl) (fun _ => (okH.cons trivial (okH.cons trivial (okH.nil (fun r h => by cases h; exact o101.lt))))) ?_
    have h110 := ha82.up RIns.ty (le86.trans le99)
    have hxB := hB x69 (List.mem_of_getElem? hx70)
    refine U.callL (V := V97) rfl rfl (.inl rfl) rfl en13 (aC (L 1 rfl rfl) (aC (L 0 rfl rfl) aN)) (fnc13 V97 x69 va81 h110 o (by omega)) (fun V1 n1 => (fun _ => (okH.cons (Or.inl rfl) (okH.cons (Or.inl rfl) (okH.cons (Or.inr (n1.same o103.lt)) (okH.nil (fun r h => nomatch h))))))) (fun v106 V107 n108 p109 => ?_)
    have le111 := n108.le
    have nx112 := nx100.call n108 (fun _ h => h.elim)
    have o113 := o101.call n108 id
    have o114 := o102.call n108 id
    have o115 := o103.call n108 id
    have o116 := o105.call n108 id
    have h117 := h104.call RFn.ty n108 (fun _ _ => id)
    obtain ⟨vc118, rfl, hc119⟩ := p109
    refine U.build1 (V := V107) rfl rfl (.inl rfl) rfl (L 0 rfl rfl) Try.underlying22 ti33 rfl rfl rfl (Nat.le_of_ble_eq_true rfl) (by simp [topV]) (rfl) rfl (fun _ => (okH.cons trivial (okH.cons trivial (okH.cons trivial (okH.cons trivial (okH.nil (fun r h => nomatch h))))))) (fun b24_120 V121 n122 => ?_)
    have le123 := n122.le
    have nx124 := nx112.nw n122
    have o125 := n122.own nx112
    have ne126 := o113.neNw n122
    have o127 := o113.nw n122
    have ne128 := o114.neNw n122
    have o129 := o114.nw n122
    have ne130 := o115.neNw n122
    have o131 := o115.nw n122
    have ne132 := o116.neNw n122
    have o133 := o116.nw n122
    have ne134 := h117.neNw n122
    have h135 := h117.nw RFn.ty n122
    have hl137 : ∀ c, some b24_120 = some c → c < V121.H.next := fun c e => by cases e; exact o125.lt
    have le138 := V121.fz_le (some b24_120) hl137
    have hg140 : ∀ c, some b24_120 = some c → V.H.next ≤ c := fun c e => by cases e; exact (o125.m).elim id (fun h => h.elim)
    have nx139 := nx124.fz (some b24_120) hl137 hg140
    have o141 := o127.fz (some b24_120) hl137 (fun e => ne126 (by cases e; rfl))
    have o142 := o129.fz (some b24_120) hl137 (fun e => ne128 (by cases e; rfl))
    have o143 := o131.fz (some b24_120) hl137 (fun e => ne130 (by cases e; rfl))
    have o144 := o133.fz (some b24_120) hl137 (fun e => ne132 (by cases e; rfl))
    have h145 := h135.fzo RFn.ty (some b24_120) hl137 (fun c e e2 => ne134 (e.trans e2.symm))
    have h146 := hc119.up RIns.ty (le123.trans le138)
    have h136 : Sl 4 RFn (V121.fz (some b24_120) hl137) (.slice (some ⟨b24_120, 0, none⟩) 1 4) [(⟨x69.name, x69.params, x69.regs, fenced x69 o⟩ : Fn)] := Sl.mk1 RFn.ty (V := (V121.fz (some b24_120) hl137)) (.inr rfl) o125.get (⟨_, rfl, h146⟩)
    refine U.append (V := (V121.fz (some b24_120) hl137)) RFn.ty rfl rfl (.inl rfl) rfl (L 4 rfl rfl) (L 0 rfl rfl) Try.underlying22 ti33 rfl rfl Try.underlying22 nx139 h145 h136 (by (try simp only [List.length_nil, List.length_append, List.length_cons, List.length_map, List.length_take]); omega) (by (try simp only [List.length_nil, List.length_append, List.length_cons, List.length_map, List.length_take]); omega) (fun V1 hs => (fun _ => (okH.cons (Or.inl rfl) (okH.cons rfl (okH.cons (Or.inl rfl) (okH.cons (Or.inl rfl) (okH.cons (Or.inl rfl) (okH.nil (fun r h => nomatch h))))))))) (fun v147 ob148 V149 le150 nx151 h152 tr153 => ?_)
    obtain ⟨o154, ne155⟩ := tr153 _ _ o141 ne64
    obtain ⟨o156, ne157⟩ := tr153 _ _ o142 ne65
    obtain ⟨o158, ne159⟩ := tr153 _ _ o143 ne66
    obtain ⟨o160, ne161⟩ := tr153 _ _ o144 ne95
    refine U.p (v := .pointer (some ⟨b5_35, 0, none⟩)) rfl rfl (.inl rfl) (S.fieldAddr rfl (L 14 rfl rfl) Try.underlying25 rfl ti22 rfl rfl) ?_
    refine U.store (V := V149) (cs := [v147]) (c' := [v147, v25]) rfl rfl (.inl rfl) rfl (L 0 rfl rfl) (L 1 rfl rfl) ti22 o158 (h152.ne) (by rw [h152.cells]) rfl (Nat.le_of_ble_eq_true rfl) (by have := h152.one;  simp only [List.all_cons, List.all_nil, *]; rfl) rfl (fun _ => (okH.cons rfl (okH.cons (Or.inl rfl) (okH.cons rfl (okH.cons (Or.inl rfl) (okH.cons (Or.inl rfl) (okH.cons (Or.inl rfl) (okH.nil (fun r h => nomatch h))))))))) (fun V162 s163 => ?_)
    have le164 := s163.le o158
    have nx165 := nx151.st s163 o158
    have o166 := o154.st s163 ne43
    have o167 := o156.st s163 ne45
    have o168 := o160.st s163 (Ne.symm ne93)
    have h169 := h152.st RFn.ty s163 o158 ne159
    have o170 := s163.own o158
    refine U.done (Nat.le_of_ble_eq_true rfl) ?_
    refine blkN (sqN ?_)
    refine WP.ureg rfl ?_
    refine U.p rfl rfl (.inl rfl) (S.addI rfl (L 12 rfl rfl) K rfl (by omega) (by omega)) ?_
    refine U.p rfl rfl (.inl rfl) (S.move rfl (L 0 rfl rfl)) ?_
    refine U.done (Nat.le_of_ble_eq_true rfl) ?_
    refine sqN ?_
    have hm := map_snoc (fencedF o) m.funcs i x69 hx70
    refine ⟨_, _, V162, rfl, ⟨i + 1, v147, ob148, rfl, rfl, by omega, ((((((((le57.trans le86).trans le99).trans le111).trans le123).trans le138).trans le150).trans le164)), nx165, o166, o167, o170, (by rw [hm]; exact h169), ne155, ne157, ne159⟩, (by omega), allCons (L 0 rfl rfl) (allCons (L 15 rfl rfl) (allCons (L 16 rfl rfl) (allCons (L 17 rfl rfl) (allCons (L 18 rfl rfl) (allCons (L 19 rfl rfl) allNil)))))⟩
  ·  -- c67: decide ((i : Int) < (m.funcs.length : Int)) is false
    have k171 := of_decide_eq_false c67
    refine WP.exit ?_
    refine sqE (sqE (blkE (sqN ?_)))
    refine WP.usreg rfl ?_
    refine U.k rfl rfl (.inl rfl) (S.loadB rfl (L 4 rfl rfl) Try.underlying25 rfl ti25 o62.get rfl) nd ?_
    refine U.store (V := V55) (cs := [vO, v25]) (c' := [vO, v25]) rfl rfl (.inl rfl) rfl (L 6 rfl rfl) (L 0 rfl rfl) ti25 o61 (by simp [topV]) (rfl) rfl (Nat.le_of_ble_eq_true rfl) (by have := h63.one; have := p28.one;  simp only [List.all_cons, List.all_nil, *]; rfl) rfl nd (fun V172 s173 => ?_)
    have le174 := s173.le o61
    have nx175 := nx56.st s173 o61
    have o176 := o60.st s173 ne23
    have o177 := o62.st s173 (Ne.symm ne45)
    have h178 := h63.st RFn.ty s173 o61 ne65
    have o179 := s173.own o61
    refine U.done (Nat.le_of_ble_eq_true rfl) ?_
    refine WP.ret ?_
    have hl180 := h178.lt
    have le181 := V172.fz_le (oO) hl180
    have hg183 : ∀ c, oO = some c → V.H.next ≤ c := fun c e => ((h178.oo c e).m).elim id (fun h => h.elim)
    have nx182 := nx175.fz (oO) hl180 hg183
    have o184 := o176.fz (oO) hl180 ne64
    have o185 := o179.fz (oO) hl180 ne65
    have o186 := o177.fz (oO) hl180 ne66
    have h187 := h178.fz RFn.ty hl180
    refine fin.cellN (.inr rfl) rfl (L 6 rfl rfl) Try.underlying25 rfl ti25 o185.get rfl ⟨(V172.fz (oO) hl180), rfl, nx182, ?_⟩
    have h188 := p28.up RInt.ty ((((le38.trans le49).trans le57).trans le174).trans le181)
    have : i = m.funcs.length := by omega
    subst this
    exact ⟨_, _, rfl, by simpa using h187, h188⟩

set_option maxHeartbeats 1000000 in
theorem fnc6 (V : Vw)  : Cc Try.prog 0 6 #[] V (fun _ => False) (fun v V' => v = .bool true) := by
  refine Cc.of (Nat.zero_le _) Try.func6 rfl (Nat.le_of_ble_eq_true rfl) ?_
  have nx0 : Nx (fun b => V.H.next ≤ b ∨ False) V V := Nx.start
  refine WP.usreg rfl ?_
  refine U.p rfl rfl (.inl rfl) (S.assign rfl K) ?_
  refine U.done (Nat.le_of_ble_eq_true rfl) ?_
  refine WP.usreg rfl ?_
  refine U.p rfl rfl (.inl rfl) (S.build (r := #[.int .i64 9, .int .i64 0, .int .i64 (-1), .int .i64 (-1), .int .i64 0, .slice none 0 0, .int .i64 0, .bool true, .bool false]) rfl ti42 rfl pl42 (aC K (aC K (aC K (aC K aN)))) (allC (by simp [topV]) (allC (by simp [topV]) (allC (by simp [topV]) (allC (by simp [topV]) allN)))) (fill1 rfl rfl (Nat.le_of_ble_eq_true rfl) (fill1 rfl rfl (Nat.le_of_ble_eq_true rfl) (fill1 rfl rfl (Nat.le_of_ble_eq_true rfl) (fill1 rfl rfl (Nat.le_of_ble_eq_true rfl) rfl))))) ?_
  refine U.build1 (V := V) rfl rfl (.inl rfl) rfl (L 0 rfl rfl) Try.underlying31 ti42 rfl rfl rfl (Nat.le_of_ble_eq_true rfl) (by simp [topV]) (rfl) rfl nd (fun b3_1 V2 n3 => ?_)
  have le4 := n3.le
  have nx5 := nx0.nw n3
  have o6 := n3.own nx0
  have hl8 : ∀ c, some b3_1 = some c → c < V2.H.next := fun c e => by cases e; exact o6.lt
  have le9 := V2.fz_le (some b3_1) hl8
  have hg11 : ∀ c, some b3_1 = some c → V.H.next ≤ c := fun c e => by cases e; exact (o6.m).elim id (fun h => h.elim)
  have nx10 := nx5.fz (some b3_1) hl8 hg11
  have h7 : Sl 9 RIns (V2.fz (some b3_1) hl8) (.slice (some ⟨b3_1, 0, none⟩) 1 9) [(⟨9, 0, -1, -1, 0, [], 0, true, false⟩ : Ins)] := Sl.mk1 RIns.ty (V := (V2.fz (some b3_1) hl8)) (.inr rfl) o6.get (⟨_, rfl, Sl.nil⟩)
  refine U.p rfl rfl (.inl rfl) (S.build (r := #[.string ByteArray.empty, .int .i64 0, .int .i64 1, (.slice (some ⟨b3_1, 0, none⟩) 1 9)]) rfl ti33 rfl pl33 (aC K (aC (L 0 rfl rfl) aN)) (allC (by simp [topV]) (allC (h7.ne) allN)) (fill1 rfl rfl (Nat.le_of_ble_eq_true rfl) (fill1 rfl h7.cells (Nat.le_of_ble_eq_true rfl) rfl))) ?_
  refine U.p rfl rfl (.inl rfl) (S.build (r := #[.bool false, .bool false, .bool false]) rfl ti27 rfl pl27 aN allN rfl) ?_
  refine U.callL (V := (V2.fz (some b3_1) hl8)) rfl rfl (.inl rfl) rfl en13 (aC (L 1 rfl rfl) (aC (L 0 rfl rfl) aN)) (fnc13 (V2.fz (some b3_1) hl8) (⟨ByteArray.empty, 0, 1, [(⟨9, 0, -1, -1, 0, [], 0, true, false⟩ : Ins)]⟩ : Fn) (.slice (some ⟨b3_1, 0, none⟩) 1 9) h7 (⟨false, false, false⟩ : Opt) (Nat.le_of_ble_eq_true rfl)) (fun _ _ => nd) (fun v12 V13 n14 p15 => ?_)
  have le16 := n14.le
  have nx17 := nx10.call n14 (fun _ h => h.elim)
  obtain ⟨vc18, rfl, hc19⟩ := p15
  rw [alive_fenced] at hc19
  refine U.alloc (V := V13) rfl rfl (.inl rfl) rfl ti33 rfl rfl nd (fun b1_20 V21 n22 => ?_)
  have le23 := n22.le
  have nx24 := nx17.nw n22
  have o25 := n22.own nx17
  refine U.store (V := V21) (cs := [.string ByteArray.empty, .int .i64 0, .int .i64 1, vc18]) (c' := [.string ByteArray.empty, .int .i64 0, .int .i64 1, vc18]) rfl rfl (.inl rfl) rfl (L 0 rfl rfl) (L 1 rfl rfl) ti33 o25 (by simp [topV]) (rfl) rfl (Nat.le_of_ble_eq_true rfl) (by have := hc19.one;  simp only [List.all_cons, List.all_nil, *]; rfl) rfl nd (fun V26 s27 => ?_)
  have le28 := s27.le o25
  have nx29 := nx24.st s27 o25
  have o30 := s27.own o25
  refine U.done (Nat.le_of_ble_eq_true rfl) ?_
  refine WP.usreg rfl ?_
  refine U.p (v := .pointer (some ⟨b1_20, 3, none⟩)) rfl rfl (.inl rfl) (S.fieldAddr rfl (L 0 rfl rfl) Try.underlying33 rfl ti31 rfl rfl) ?_
  refine U.k rfl rfl (.inl rfl) (S.load rfl (L 0 rfl rfl) Try.underlying31 rfl (o30.cell rfl)) nd ?_
  refine U.p rfl rfl (.inl rfl) (hc19.len rfl (L 0 rfl rfl) Try.underlying31) ?_
  refine U.p rfl rfl (.inl rfl) (S.eqlI rfl (L 0 rfl rfl) K) ?_
  refine U.p rfl rfl (.inl rfl) (S.move rfl (L 0 rfl rfl)) ?_
  refine U.bs (L 0 rfl rfl) (fun g31 => ?_) (fun g31 => ?_)
  ·  -- g31: decide ((([syncI, (⟨9, 0, -1, -1, 0, [], 0, true, false⟩ : Ins), acqI 0]).length : Int) = 3) is true
    have k32 := of_decide_eq_true g31
    refine U.p (v := .pointer (some ⟨b1_20, 3, none⟩)) rfl rfl (.inr ⟨_, _, _, rfl, rfl, (L 0 rfl rfl)⟩) (S.fieldAddr rfl (L 6 rfl rfl) Try.underlying33 rfl ti31 rfl rfl) ?_
    refine U.k rfl rfl (.inr ⟨_, _, _, rfl, rfl, (L 1 rfl rfl)⟩) (S.load rfl (L 0 rfl rfl) Try.underlying31 rfl (o30.cell rfl)) nd ?_
    have h35 := hc19.up RIns.ty (le23.trans le28)
    have hx34_lt : 0 < ([syncI, (⟨9, 0, -1, -1, 0, [], 0, true, false⟩ : Ins), acqI 0]).length := by omega
    obtain ⟨x33, hx34⟩ : ∃ x, ([syncI, (⟨9, 0, -1, -1, 0, [], 0, true, false⟩ : Ins), acqI 0])[0]? = some x := ⟨_, List.getElem?_eq_getElem hx34_lt⟩
    obtain ⟨b36, f37, c38, cs39, hv44, hb40, hl41, hr42, hc43⟩ := h35.at hx34
    obtain ⟨va45, rfl, ha46⟩ := hr42
    refine U.p rfl rfl (.inr ⟨_, _, _, rfl, rfl, (L 2 rfl rfl)⟩) (S.index rfl ((L 0 rfl rfl).trans hv44) K Try.underlying31 ti42 (by omega) (by omega)) ?_
    refine U.p (v := .pointer (some ⟨b36, f37 + 0 * 9 + 4, none⟩)) rfl rfl (.inr ⟨_, _, _, rfl, rfl, (L 3 rfl rfl)⟩) (S.fieldAddr rfl (L 0 rfl rfl) Try.underlying42 rfl ti3 rfl rfl) ?_
    refine U.k rfl rfl (.inr ⟨_, _, _, rfl, rfl, (L 4 rfl rfl)⟩) (S.load rfl (L 0 rfl rfl) Try.underlying3 rfl (hc43 4 _ rfl)) nd ?_
    refine U.p rfl rfl (.inr ⟨_, _, _, rfl, rfl, (L 5 rfl rfl)⟩) (S.eqlI rfl (L 0 rfl rfl) K) ?_
    refine U.p rfl rfl (.inl rfl) (S.pickT rfl (L 6 rfl rfl) (L 0 rfl rfl)) ?_
    refine U.p rfl rfl (.inl rfl) (S.move rfl (L 0 rfl rfl)) ?_
    refine U.bs (L 0 rfl rfl) (fun g47 => ?_) (fun g47 => ?_)
    ·  -- g47: decide (x33.imm = 1) is true
      have k48 := of_decide_eq_true g47
      refine U.p (v := .pointer (some ⟨b1_20, 3, none⟩)) rfl rfl (.inr ⟨_, _, _, rfl, rfl, (L 0 rfl rfl)⟩) (S.fieldAddr rfl (L 15 rfl rfl) Try.underlying33 rfl ti31 rfl rfl) ?_
      refine U.k rfl rfl (.inr ⟨_, _, _, rfl, rfl, (L 1 rfl rfl)⟩) (S.load rfl (L 0 rfl rfl) Try.underlying31 rfl (o30.cell rfl)) nd ?_
      have h51 := hc19.up RIns.ty (le23.trans le28)
      have hx50_lt : 2 < ([syncI, (⟨9, 0, -1, -1, 0, [], 0, true, false⟩ : Ins), acqI 0]).length := by omega
      obtain ⟨x49, hx50⟩ : ∃ x, ([syncI, (⟨9, 0, -1, -1, 0, [], 0, true, false⟩ : Ins), acqI 0])[2]? = some x := ⟨_, List.getElem?_eq_getElem hx50_lt⟩
      obtain ⟨b52, f53, c54, cs55, hv60, hb56, hl57, hr58, hc59⟩ := h51.at hx50
      obtain ⟨va61, rfl, ha62⟩ := hr58
      refine U.p rfl rfl (.inr ⟨_, _, _, rfl, rfl, (L 2 rfl rfl)⟩) (S.index rfl ((L 0 rfl rfl).trans hv60) K Try.underlying31 ti42 (by omega) (by omega)) ?_
      refine U.p (v := .pointer (some ⟨b52, f53 + 2 * 9 + 4, none⟩)) rfl rfl (.inr ⟨_, _, _, rfl, rfl, (L 3 rfl rfl)⟩) (S.fieldAddr rfl (L 0 rfl rfl) Try.underlying42 rfl ti3 rfl rfl) ?_
      refine U.k rfl rfl (.inr ⟨_, _, _, rfl, rfl, (L 4 rfl rfl)⟩) (S.load rfl (L 0 rfl rfl) Try.underlying3 rfl (hc59 4 _ rfl)) nd ?_
      refine U.p rfl rfl (.inr ⟨_, _, _, rfl, rfl, (L 5 rfl rfl)⟩) (S.eqlI rfl (L 0 rfl rfl) K) ?_
      refine U.p rfl rfl (.inl rfl) (S.pickT rfl (L 6 rfl rfl) (L 0 rfl rfl)) ?_
      refine U.p rfl rfl (.inl rfl) (S.assign rfl (L 0 rfl rfl)) ?_
      refine U.done (Nat.le_of_ble_eq_true rfl) ?_
      refine WP.ret ?_
      refine fin.slot (.inr rfl) rfl (L 0 rfl rfl) ⟨V26, rfl, nx29, ?_⟩
      obtain rfl := Option.some.inj hx34
      obtain rfl := Option.some.inj hx50
      first | rfl | (exfalso; simp [syncI, acqI] at g31 g47; done)
    ·  -- g47: decide (x33.imm = 1) is false
      have k63 := of_decide_eq_false g47
      refine U.x rfl rfl rfl rfl (L 0 rfl rfl) (by decide) ?_
      refine U.x rfl rfl rfl rfl (L 1 rfl rfl) (by decide) ?_
      refine U.x rfl rfl rfl rfl (L 2 rfl rfl) (by decide) ?_
      refine U.x rfl rfl rfl rfl (L 3 rfl rfl) (by decide) ?_
      refine U.x rfl rfl rfl rfl (L 4 rfl rfl) (by decide) ?_
      refine U.x rfl rfl rfl rfl (L 5 rfl rfl) (by decide) ?_
      refine U.p rfl rfl (.inl rfl) (S.pickF rfl (L 6 rfl rfl) K) ?_
      refine U.p rfl rfl (.inl rfl) (S.assign rfl (L 0 rfl rfl)) ?_
      refine U.done (Nat.le_of_ble_eq_true rfl) ?_
      refine WP.ret ?_
      refine fin.slot (.inr rfl) rfl (L 0 rfl rfl) ⟨V26, rfl, nx29, ?_⟩
      obtain rfl := Option.some.inj hx34
      first | rfl | (exfalso; simp [syncI, acqI] at g31 g47; done)
  ·  -- g31: decide ((([syncI, (⟨9, 0, -1, -1, 0, [], 0, true, false⟩ : Ins), acqI 0]).length : Int) = 3) is false
    have k64 := of_decide_eq_false g31
    refine U.x rfl rfl rfl rfl (L 0 rfl rfl) (by decide) ?_
    refine U.x rfl rfl rfl rfl (L 1 rfl rfl) (by decide) ?_
    refine U.x rfl rfl rfl rfl (L 2 rfl rfl) (by decide) ?_
    refine U.x rfl rfl rfl rfl (L 3 rfl rfl) (by decide) ?_
    refine U.x rfl rfl rfl rfl (L 4 rfl rfl) (by decide) ?_
    refine U.x rfl rfl rfl rfl (L 5 rfl rfl) (by decide) ?_
    refine U.p rfl rfl (.inl rfl) (S.pickF rfl (L 6 rfl rfl) K) ?_
    refine U.p rfl rfl (.inl rfl) (S.move rfl (L 0 rfl rfl)) ?_
    refine U.x rfl rfl rfl rfl (L 0 rfl rfl) (by decide) ?_
    refine U.x rfl rfl rfl rfl (L 1 rfl rfl) (by decide) ?_
    refine U.x rfl rfl rfl rfl (L 2 rfl rfl) (by decide) ?_
    refine U.x rfl rfl rfl rfl (L 3 rfl rfl) (by decide) ?_
    refine U.x rfl rfl rfl rfl (L 4 rfl rfl) (by decide) ?_
    refine U.x rfl rfl rfl rfl (L 5 rfl rfl) (by decide) ?_
    refine U.p rfl rfl (.inl rfl) (S.pickF rfl (L 6 rfl rfl) K) ?_
    refine U.p rfl rfl (.inl rfl) (S.assign rfl (L 0 rfl rfl)) ?_
    refine U.done (Nat.le_of_ble_eq_true rfl) ?_
    refine WP.ret ?_
    refine fin.slot (.inr rfl) rfl (L 0 rfl rfl) ⟨V26, rfl, nx29, ?_⟩
    first | rfl | (exfalso; simp [syncI, acqI] at g31; done)

set_option maxHeartbeats 1000000 in
theorem fnc7 (V : Vw) (m : Mod) (vf vt : Value) (hf : Sl 4 RFn V vf m.funcs) (ht : Sl 1 RInt V vt m.threads) : Cc Try.prog 0 7 #[.agg #[vf, vt]] V (fun _ => False) (fun v V' => v = .bool (greatM m)) := by
  refine Cc.of (Nat.zero_le _) Try.func7 rfl (Nat.le_of_ble_eq_true rfl) ?_
  have nx0 : Nx (fun b => V.H.next ≤ b ∨ False) V V := Nx.start
  refine WP.usreg rfl ?_
  refine U.box (V := V) rfl rfl (.inl rfl) rfl (L 0 rfl rfl) (by simp [topV]) (rfl) nd (fun b1_1 V2 n3 => ?_)
  have le4 := n3.le
  have nx5 := nx0.nw n3
  have o6 := n3.own nx0
  refine U.p rfl rfl (.inl rfl) (S.assign rfl K) ?_
  refine U.done (Nat.le_of_ble_eq_true rfl) ?_
  refine WP.seq ?_
  refine WP.usreg rfl ?_
  refine U.p (v := .pointer (some ⟨b1_1, 0, none⟩)) rfl rfl (.inl rfl) (S.fieldAddr rfl (L 1 rfl rfl) Try.underlying25 rfl ti22 rfl rfl) ?_
  refine U.k rfl rfl (.inl rfl) (S.load rfl (L 0 rfl rfl) Try.underlying22 rfl (o6.cell rfl)) nd ?_
  refine U.p rfl rfl (.inl rfl) (hf.len rfl (L 0 rfl rfl) Try.underlying22) ?_
  refine U.p rfl rfl (.inl rfl) (S.move rfl K) ?_
  refine U.done (Nat.le_of_ble_eq_true rfl) ?_
  refine WP.blk ?_
  refine WP.loopE (fun n l V' => ∃ (i : Nat), l = [(8, .int .i64 (i : Int)), (7, .int .i64 (m.funcs.length : Int)), (6, vf), (1, .pointer (some ⟨b1_1, 0, none⟩))] ∧ n = m.funcs.length - i ∧ i ≤ m.funcs.length ∧ (m.funcs.take i).any (fun f : Fn => decide (60 < (f.code.length : Int))) = false ∧ V2.le V' ∧ Nx (fun b => V.H.next ≤ b ∨ False) V V' ∧ Own (fun b => V.H.next ≤ b ∨ False) V' b1_1 (.cells 0 [vf, vt])) ?_ _ _ V2 ⟨0, rfl, rfl, Nat.zero_le _, rfl, .refl _, nx5, o6⟩ _ (allCons (L 0 rfl rfl) (allCons (L 1 rfl rfl) (allCons (L 2 rfl rfl) (allCons (L 5 rfl rfl) allNil))))
  rintro n11 l10 V7 ⟨i, rfl, rfl, hi, hno, le9, nx8, o12⟩
  have hmx := hf.le
  refine WP.usreg rfl ?_
  refine U.p rfl rfl (.inl rfl) (S.lss rfl (L 0 rfl rfl) (L 1 rfl rfl)) ?_
  refine U.done (Nat.le_of_ble_eq_true rfl) ?_
  refine WP.seq ?_
  refine WP.cond _ (L 0 rfl rfl) rfl (fun c13 => ?_) (fun c13 => ?_)
  ·  -- c13: decide ((i : Int) < (m.funcs.length : Int)) is true
    have k14 := of_decide_eq_true c13
    refine WP.skip ?_
    refine sqN ?_
    refine WP.seq ?_
    refine WP.blk ?_
    refine WP.usreg rfl ?_
    have h17 := hf.up RFn.ty (le4.trans le9)
    have hx16_lt : i < m.funcs.length := by omega
    obtain ⟨x15, hx16⟩ : ∃ x, m.funcs[i]? = some x := ⟨_, List.getElem?_eq_getElem hx16_lt⟩
    obtain ⟨b18, f19, c20, cs21, hv26, hb22, hl23, hr24, hc25⟩ := h17.at hx16
    obtain ⟨va27, rfl, ha28⟩ := hr24
    refine U.p rfl rfl (.inl rfl) (S.index rfl ((L 3 rfl rfl).trans hv26) (L 1 rfl rfl) Try.underlying22 ti33 (by omega) (by omega)) ?_
    refine U.k rfl rfl (.inl rfl) (S.loadN (cs := [.string x15.name, .int .i64 x15.params, .int .i64 x15.regs, va27]) rfl (L 0 rfl rfl) Try.underlying33 rfl ti33 rfl (fun j v hj => hc25 j v hj)) nd ?_
    refine U.alloc (V := V7) rfl rfl (.inl rfl) rfl ti33 rfl rfl nd (fun b4_29 V30 n31 => ?_)
    have le32 := n31.le
    have nx33 := nx8.nw n31
    have o34 := n31.own nx8
    have ne35 := o12.neNw n31
    have o36 := o12.nw n31
    refine U.store (V := V30) (cs := [.string x15.name, .int .i64 x15.params, .int .i64 x15.regs, va27]) (c' := [.string x15.name, .int .i64 x15.params, .int .i64 x15.regs, va27]) rfl rfl (.inl rfl) rfl (L 0 rfl rfl) (L 1 rfl rfl) ti33 o34 (by simp [topV]) (rfl) rfl (Nat.le_of_ble_eq_true rfl) (by have := ha28.one;  simp only [List.all_cons, List.all_nil, *]; rfl) rfl nd (fun V37 s38 => ?_)
    have le39 := s38.le o34
    have nx40 := nx33.st s38 o34
    have o41 := o36.st s38 ne35
    have o42 := s38.own o34
    refine U.done (Nat.le_of_ble_eq_true rfl) ?_
    refine WP.usreg rfl ?_
    refine U.p (v := .pointer (some ⟨b4_29, 3, none⟩)) rfl rfl (.inl rfl) (S.fieldAddr rfl (L 0 rfl rfl) Try.underlying33 rfl ti31 rfl rfl) ?_
    refine U.k rfl rfl (.inl rfl) (S.load rfl (L 0 rfl rfl) Try.underlying31 rfl (o42.cell rfl)) nd ?_
    refine U.p rfl rfl (.inl rfl) (ha28.len rfl (L 0 rfl rfl) Try.underlying31) ?_
    refine U.p rfl rfl (.inl rfl) (S.gtr rfl (L 0 rfl rfl) K) ?_
    refine U.done (Nat.le_of_ble_eq_true rfl) ?_
    refine WP.cond _ (L 0 rfl rfl) rfl (fun c43 => ?_) (fun c43 => ?_)
    ·  -- c43: decide (60 < (x15.code.length : Int)) is true
      have k44 := of_decide_eq_true c43
      refine WP.usreg rfl ?_
      refine U.p rfl rfl (.inl rfl) (S.assign rfl K) ?_
      refine U.done (Nat.le_of_ble_eq_true rfl) ?_
      refine WP.ret ?_
      refine blkR (sqR (sqR (blkR (sqR ?_))))
      refine fin.slot (.inr rfl) rfl (L 0 rfl rfl) ⟨V37, rfl, nx40, ?_⟩
      rw [greatM_hit m i x15 hx16 (by assumption)]
    ·  -- c43: decide (60 < (x15.code.length : Int)) is false
      have k45 := of_decide_eq_false c43
      refine WP.skip ?_
      refine blkN (sqN ?_)
      refine WP.ureg rfl ?_
      refine U.p rfl rfl (.inl rfl) (S.addI rfl (L 8 rfl rfl) K rfl (by omega) (by omega)) ?_
      refine U.p rfl rfl (.inl rfl) (S.move rfl (L 0 rfl rfl)) ?_
      refine U.done (Nat.le_of_ble_eq_true rfl) ?_
      refine sqN ?_
      have hs := any_snoc (fun f : Fn => decide (60 < (f.code.length : Int))) m.funcs i x15 hx16
      refine ⟨_, _, V37, rfl, ⟨i + 1, rfl, rfl, by omega, by rw [hs, hno]; simp [*], (((le9.trans le32).trans le39)), nx40, o41⟩, (by omega), allCons (L 0 rfl rfl) (allCons (L 11 rfl rfl) (allCons (L 12 rfl rfl) (allCons (L 13 rfl rfl) allNil)))⟩
  ·  -- c13: decide ((i : Int) < (m.funcs.length : Int)) is false
    have k46 := of_decide_eq_false c13
    refine WP.exit ?_
    refine sqE (sqE (blkE (sqN ?_)))
    refine WP.usreg rfl ?_
    refine U.p (v := .pointer (some ⟨b1_1, 0, none⟩)) rfl rfl (.inl rfl) (S.fieldAddr rfl (L 4 rfl rfl) Try.underlying25 rfl ti22 rfl rfl) ?_
    refine U.k rfl rfl (.inl rfl) (S.load rfl (L 0 rfl rfl) Try.underlying22 rfl (o12.cell rfl)) nd ?_
    refine U.p rfl rfl (.inl rfl) (hf.len rfl (L 0 rfl rfl) Try.underlying22) ?_
    refine U.p rfl rfl (.inl rfl) (S.gtr rfl (L 0 rfl rfl) K) ?_
    refine U.p rfl rfl (.inl rfl) (S.move rfl (L 0 rfl rfl)) ?_
    refine U.bs (L 0 rfl rfl) (fun g47 => ?_) (fun g47 => ?_)
    ·  -- g47: decide (6 < (m.funcs.length : Int)) is true
      have k48 := of_decide_eq_true g47
      refine U.x rfl rfl rfl rfl (L 0 rfl rfl) (by decide) ?_
      refine U.x rfl rfl rfl rfl (L 1 rfl rfl) (by decide) ?_
      refine U.x rfl rfl rfl rfl (L 2 rfl rfl) (by decide) ?_
      refine U.x rfl rfl rfl rfl (L 3 rfl rfl) (by decide) ?_
      refine U.p rfl rfl (.inl rfl) (S.pickT rfl (L 4 rfl rfl) K) ?_
      refine U.p rfl rfl (.inl rfl) (S.assign rfl (L 0 rfl rfl)) ?_
      refine U.done (Nat.le_of_ble_eq_true rfl) ?_
      refine WP.ret ?_
      refine fin.slot (.inr rfl) rfl (L 0 rfl rfl) ⟨V7, rfl, nx8, ?_⟩
      have : i = m.funcs.length := by omega
      subst this
      rw [List.take_length] at hno
      simp [greatM, hno, *]
    ·  -- g47: decide (6 < (m.funcs.length : Int)) is false
      have k49 := of_decide_eq_false g47
      refine U.p (v := .pointer (some ⟨b1_1, 1, none⟩)) rfl rfl (.inr ⟨_, _, _, rfl, rfl, (L 0 rfl rfl)⟩) (S.fieldAddr rfl (L 10 rfl rfl) Try.underlying25 rfl ti23 rfl rfl) ?_
      refine U.k rfl rfl (.inr ⟨_, _, _, rfl, rfl, (L 1 rfl rfl)⟩) (S.load rfl (L 0 rfl rfl) Try.underlying23 rfl (o12.cell rfl)) nd ?_
      refine U.p rfl rfl (.inr ⟨_, _, _, rfl, rfl, (L 2 rfl rfl)⟩) (ht.len rfl (L 0 rfl rfl) Try.underlying23) ?_
      refine U.p rfl rfl (.inr ⟨_, _, _, rfl, rfl, (L 3 rfl rfl)⟩) (S.gtr rfl (L 0 rfl rfl) K) ?_
      refine U.p rfl rfl (.inl rfl) (S.pickF rfl (L 4 rfl rfl) (L 0 rfl rfl)) ?_
      refine U.p rfl rfl (.inl rfl) (S.assign rfl (L 0 rfl rfl)) ?_
      refine U.done (Nat.le_of_ble_eq_true rfl) ?_
      refine WP.ret ?_
      refine fin.slot (.inr rfl) rfl (L 0 rfl rfl) ⟨V7, rfl, nx8, ?_⟩
      have : i = m.funcs.length := by omega
      subst this
      rw [List.take_length] at hno
      simp [greatM, hno, *]

set_option maxHeartbeats 1000000 in
theorem fnc14 (V : Vw) (m : Mod) (vf vt : Value) (hf : Sl 4 RFn V vf m.funcs) (ht : Sl 1 RInt V vt m.threads) (k : Int) (hB : ∀ f ∈ m.funcs, f.code.length ≤ 1000000) (hn : m.funcs.length ≤ 1000000) : Cc Try.prog 0 14 #[.agg #[vf, vt], .int .i64 k] V (fun _ => False) (fun v V' => v = .int .i64 (cntM m.funcs k)) := by
  refine Cc.of (Nat.zero_le _) Try.func14 rfl (Nat.le_of_ble_eq_true rfl) ?_
  have nx0 : Nx (fun b => V.H.next ≤ b ∨ False) V V := Nx.start
  refine WP.usreg rfl ?_
  refine U.box (V := V) rfl rfl (.inl rfl) rfl (L 0 rfl rfl) (by simp [topV]) (rfl) nd (fun b2_1 V2 n3 => ?_)
  have le4 := n3.le
  have nx5 := nx0.nw n3
  have o6 := n3.own nx0
  refine U.p rfl rfl (.inl rfl) (S.assign rfl K) ?_
  refine U.done (Nat.le_of_ble_eq_true rfl) ?_
  refine WP.usreg rfl ?_
  refine U.p rfl rfl (.inl rfl) (S.assign rfl K) ?_
  refine U.done (Nat.le_of_ble_eq_true rfl) ?_
  refine WP.seq ?_
  refine WP.usreg rfl ?_
  refine U.p (v := .pointer (some ⟨b2_1, 0, none⟩)) rfl rfl (.inl rfl) (S.fieldAddr rfl (L 2 rfl rfl) Try.underlying25 rfl ti22 rfl rfl) ?_
  refine U.k rfl rfl (.inl rfl) (S.load rfl (L 0 rfl rfl) Try.underlying22 rfl (o6.cell rfl)) nd ?_
  refine U.p rfl rfl (.inl rfl) (hf.len rfl (L 0 rfl rfl) Try.underlying22) ?_
  refine U.p rfl rfl (.inl rfl) (S.move rfl K) ?_
  refine U.done (Nat.le_of_ble_eq_true rfl) ?_
  refine WP.blk ?_
  refine WP.loopE (fun n l V' => ∃ (i : Nat), l = [(13, .int .i64 (i : Int)), (12, .int .i64 (m.funcs.length : Int)), (11, vf), (5, .int .i64 (cntM (m.funcs.take i) k : Int)), (4, .int .i64 0), (1, .int .i64 k)] ∧ n = m.funcs.length - i ∧ i ≤ m.funcs.length ∧ V2.le V' ∧ Nx (fun b => V.H.next ≤ b ∨ False) V V') ?_ _ _ V2 ⟨0, rfl, rfl, Nat.zero_le _, .refl _, nx5⟩ _ (allCons (L 0 rfl rfl) (allCons (L 1 rfl rfl) (allCons (L 2 rfl rfl) (allCons (L 4 rfl rfl) (allCons (L 5 rfl rfl) (allCons (L 8 rfl rfl) allNil))))))
  rintro n11 l10 V7 ⟨i, rfl, rfl, hi, le9, nx8⟩
  refine WP.usreg rfl ?_
  refine U.p rfl rfl (.inl rfl) (S.lss rfl (L 0 rfl rfl) (L 1 rfl rfl)) ?_
  refine U.done (Nat.le_of_ble_eq_true rfl) ?_
  refine WP.seq ?_
  refine WP.cond _ (L 0 rfl rfl) rfl (fun c12 => ?_) (fun c12 => ?_)
  ·  -- c12: decide ((i : Int) < (m.funcs.length : Int)) is true
    have k13 := of_decide_eq_true c12
    refine WP.skip ?_
    refine sqN ?_
    refine WP.seq ?_
    refine WP.blk ?_
    refine WP.usreg rfl ?_
    have h16 := hf.up RFn.ty (le4.trans le9)
    have hx15_lt : i < m.funcs.length := by omega
    obtain ⟨x14, hx15⟩ : ∃ x, m.funcs[i]? = some x := ⟨_, List.getElem?_eq_getElem hx15_lt⟩
    obtain ⟨b17, f18, c19, cs20, hv25, hb21, hl22, hr23, hc24⟩ := h16.at hx15
    obtain ⟨va26, rfl, ha27⟩ := hr23
    refine U.p rfl rfl (.inl rfl) (S.index rfl ((L 3 rfl rfl).trans hv25) (L 1 rfl rfl) Try.underlying22 ti33 (by omega) (by omega)) ?_
    refine U.k rfl rfl (.inl rfl) (S.loadN (cs := [.string x14.name, .int .i64 x14.params, .int .i64 x14.regs, va26]) rfl (L 0 rfl rfl) Try.underlying33 rfl ti33 rfl (fun j v hj => hc24 j v hj)) nd ?_
    refine U.alloc (V := V7) rfl rfl (.inl rfl) rfl ti33 rfl rfl nd (fun b7_28 V29 n30 => ?_)
    have le31 := n30.le
    have nx32 := nx8.nw n30
    have o33 := n30.own nx8
    refine U.store (V := V29) (cs := [.string x14.name, .int .i64 x14.params, .int .i64 x14.regs, va26]) (c' := [.string x14.name, .int .i64 x14.params, .int .i64 x14.regs, va26]) rfl rfl (.inl rfl) rfl (L 0 rfl rfl) (L 1 rfl rfl) ti33 o33 (by simp [topV]) (rfl) rfl (Nat.le_of_ble_eq_true rfl) (by have := ha27.one;  simp only [List.all_cons, List.all_nil, *]; rfl) rfl nd (fun V34 s35 => ?_)
    have le36 := s35.le o33
    have nx37 := nx32.st s35 o33
    have o38 := s35.own o33
    refine U.done (Nat.le_of_ble_eq_true rfl) ?_
    refine WP.usreg rfl ?_
    refine U.p (v := .pointer (some ⟨b7_28, 3, none⟩)) rfl rfl (.inl rfl) (S.fieldAddr rfl (L 0 rfl rfl) Try.underlying33 rfl ti31 rfl rfl) ?_
    refine U.k rfl rfl (.inl rfl) (S.load rfl (L 0 rfl rfl) Try.underlying31 rfl (o38.cell rfl)) nd ?_
    refine U.p rfl rfl (.inl rfl) (ha27.len rfl (L 0 rfl rfl) Try.underlying31) ?_
    refine U.p rfl rfl (.inl rfl) (S.move rfl K) ?_
    refine U.done (Nat.le_of_ble_eq_true rfl) ?_
    refine WP.blk ?_
    have hxB := hB x14 (List.mem_of_getElem? hx15)
    refine WP.loopE (fun n l V' => ∃ (j : Nat), l = [(20, .int .i64 (j : Int)), (19, .int .i64 (x14.code.length : Int)), (18, va26), (13, .int .i64 (i : Int)), (12, .int .i64 (m.funcs.length : Int)), (11, vf), (5, .int .i64 ((cntM (m.funcs.take i) k : Int) + (cntF (x14.code.take j) k : Int))), (4, .int .i64 0), (1, .int .i64 k)] ∧ n = x14.code.length - j ∧ j ≤ x14.code.length ∧ V34.le V' ∧ Nx (fun b => V.H.next ≤ b ∨ False) V V') ?_ _ _ V34 ⟨0, rfl, rfl, Nat.zero_le _, .refl _, nx37⟩ _ (allCons (L 0 rfl rfl) (allCons (L 1 rfl rfl) (allCons (L 2 rfl rfl) (allCons (L 8 rfl rfl) (allCons (L 9 rfl rfl) (allCons (L 10 rfl rfl) (allCons ((L 11 rfl rfl).trans (by simp [cntF])) (allCons (L 12 rfl rfl) (allCons (L 13 rfl rfl) allNil)))))))))
    rintro n43 l42 V39 ⟨j, rfl, rfl, hj, le41, nx40⟩
    have hcl := cntF_le (x14.code.take j) k
    rw [List.length_take] at hcl
    have hcm := cntM_le (m.funcs.take i) k (fun f hf => hB f (List.mem_of_mem_take hf))
    rw [List.length_take] at hcm
    refine WP.usreg rfl ?_
    refine U.p rfl rfl (.inl rfl) (S.lss rfl (L 0 rfl rfl) (L 1 rfl rfl)) ?_
    refine U.done (Nat.le_of_ble_eq_true rfl) ?_
    refine WP.seq ?_
    refine WP.cond _ (L 0 rfl rfl) rfl (fun c44 => ?_) (fun c44 => ?_)
    ·  -- c44: decide ((j : Int) < (x14.code.length : Int)) is true
      have k45 := of_decide_eq_true c44
      refine WP.skip ?_
      refine sqN ?_
      refine WP.seq ?_
      refine WP.blk ?_
      refine WP.usreg rfl ?_
      have h48 := ha27.up RIns.ty ((le31.trans le36).trans le41)
      have hx47_lt : j < x14.code.length := by omega
      obtain ⟨x46, hx47⟩ : ∃ x, x14.code[j]? = some x := ⟨_, List.getElem?_eq_getElem hx47_lt⟩
      obtain ⟨b49, f50, c51, cs52, hv57, hb53, hl54, hr55, hc56⟩ := h48.at hx47
      obtain ⟨va58, rfl, ha59⟩ := hr55
      refine U.p rfl rfl (.inl rfl) (S.index rfl ((L 3 rfl rfl).trans hv57) (L 1 rfl rfl) Try.underlying31 ti42 (by omega) (by omega)) ?_
      refine U.k rfl rfl (.inl rfl) (S.loadN (cs := [.int .i64 x46.op, .int .i64 x46.d, .int .i64 x46.a, .int .i64 x46.b, .int .i64 x46.imm, va58, .int .i64 x46.what, .bool x46.vol, .bool x46.fin]) rfl (L 0 rfl rfl) Try.underlying42 rfl ti42 rfl (fun j v hj => hc56 j v hj)) nd ?_
      refine U.alloc (V := V39) rfl rfl (.inl rfl) rfl ti42 rfl rfl nd (fun b9_60 V61 n62 => ?_)
      have le63 := n62.le
      have nx64 := nx40.nw n62
      have o65 := n62.own nx40
      refine U.store (V := V61) (cs := [.int .i64 x46.op, .int .i64 x46.d, .int .i64 x46.a, .int .i64 x46.b, .int .i64 x46.imm, va58, .int .i64 x46.what, .bool x46.vol, .bool x46.fin]) (c' := [.int .i64 x46.op, .int .i64 x46.d, .int .i64 x46.a, .int .i64 x46.b, .int .i64 x46.imm, va58, .int .i64 x46.what, .bool x46.vol, .bool x46.fin]) rfl rfl (.inl rfl) rfl (L 0 rfl rfl) (L 1 rfl rfl) ti42 o65 (by simp [topV]) (rfl) rfl (Nat.le_of_ble_eq_true rfl) (by have := ha59.one;  simp only [List.all_cons, List.all_nil, *]; rfl) rfl nd (fun V66 s67 => ?_)
      have le68 := s67.le o65
      have nx69 := nx64.st s67 o65
      have o70 := s67.own o65
      refine U.done (Nat.le_of_ble_eq_true rfl) ?_
      refine WP.usreg rfl ?_
      refine U.p (v := .pointer (some ⟨b9_60, 0, none⟩)) rfl rfl (.inl rfl) (S.fieldAddr rfl (L 0 rfl rfl) Try.underlying42 rfl ti3 rfl rfl) ?_
      refine U.k rfl rfl (.inl rfl) (S.load rfl (L 0 rfl rfl) Try.underlying3 rfl (o70.cell rfl)) nd ?_
      refine U.p rfl rfl (.inl rfl) (S.eqlI rfl (L 0 rfl rfl) K) ?_
      refine U.p rfl rfl (.inl rfl) (S.move rfl (L 0 rfl rfl)) ?_
      refine U.bs (L 0 rfl rfl) (fun g71 => ?_) (fun g71 => ?_)
      ·  -- g71: decide (x46.op = 21) is true
        have k72 := of_decide_eq_true g71
        refine U.p (v := .pointer (some ⟨b9_60, 4, none⟩)) rfl rfl (.inr ⟨_, _, _, rfl, rfl, (L 0 rfl rfl)⟩) (S.fieldAddr rfl (L 5 rfl rfl) Try.underlying42 rfl ti3 rfl rfl) ?_
        refine U.k rfl rfl (.inr ⟨_, _, _, rfl, rfl, (L 1 rfl rfl)⟩) (S.load rfl (L 0 rfl rfl) Try.underlying3 rfl (o70.cell rfl)) nd ?_
        refine U.p rfl rfl (.inr ⟨_, _, _, rfl, rfl, (L 2 rfl rfl)⟩) (S.move rfl (L 19 rfl rfl)) ?_
        refine U.p rfl rfl (.inr ⟨_, _, _, rfl, rfl, (L 3 rfl rfl)⟩) (S.eqlI rfl (L 1 rfl rfl) (L 0 rfl rfl)) ?_
        refine U.p rfl rfl (.inl rfl) (S.pickT rfl (L 4 rfl rfl) (L 0 rfl rfl)) ?_
        refine U.done (Nat.le_of_ble_eq_true rfl) ?_
        refine WP.cond _ (L 0 rfl rfl) rfl (fun c73 => ?_) (fun c73 => ?_)
        ·  -- c73: decide (x46.imm = k) is true
          have k74 := of_decide_eq_true c73
          refine WP.ureg rfl ?_
          refine U.p rfl rfl (.inl rfl) (S.move rfl (L 20 rfl rfl)) ?_
          refine U.p rfl rfl (.inl rfl) (S.addI rfl (L 0 rfl rfl) K rfl (by omega) (by omega)) ?_
          refine U.p rfl rfl (.inl rfl) (S.assign rfl (L 0 rfl rfl)) ?_
          refine U.done (Nat.le_of_ble_eq_true rfl) ?_
          refine blkN (sqN ?_)
          refine WP.ureg rfl ?_
          refine U.p rfl rfl (.inl rfl) (S.addI rfl (L 17 rfl rfl) K rfl (by omega) (by omega)) ?_
          refine U.p rfl rfl (.inl rfl) (S.move rfl (L 0 rfl rfl)) ?_
          refine U.done (Nat.le_of_ble_eq_true rfl) ?_
          refine sqN ?_
          have hs := cntF_snoc x14.code j x46 k hx47
          refine ⟨_, _, V66, rfl, ⟨j + 1, rfl, rfl, by omega, (((le41.trans le63).trans le68)), nx69⟩, (by omega), allCons (L 0 rfl rfl) (allCons (L 20 rfl rfl) (allCons (L 21 rfl rfl) (allCons (L 22 rfl rfl) (allCons (L 23 rfl rfl) (allCons (L 24 rfl rfl) (allCons ((L 2 rfl rfl).trans (by rw [hs]; simp [*]; try omega)) (allCons (L 26 rfl rfl) (allCons (L 27 rfl rfl) allNil))))))))⟩
        ·  -- c73: decide (x46.imm = k) is false
          have k75 := of_decide_eq_false c73
          refine WP.skip ?_
          refine blkN (sqN ?_)
          refine WP.ureg rfl ?_
          refine U.p rfl rfl (.inl rfl) (S.addI rfl (L 14 rfl rfl) K rfl (by omega) (by omega)) ?_
          refine U.p rfl rfl (.inl rfl) (S.move rfl (L 0 rfl rfl)) ?_
          refine U.done (Nat.le_of_ble_eq_true rfl) ?_
          refine sqN ?_
          have hs := cntF_snoc x14.code j x46 k hx47
          refine ⟨_, _, V66, rfl, ⟨j + 1, rfl, rfl, by omega, (((le41.trans le63).trans le68)), nx69⟩, (by omega), allCons (L 0 rfl rfl) (allCons (L 17 rfl rfl) (allCons (L 18 rfl rfl) (allCons (L 19 rfl rfl) (allCons (L 20 rfl rfl) (allCons (L 21 rfl rfl) (allCons ((L 22 rfl rfl).trans (by rw [hs]; simp [*]; try omega)) (allCons (L 23 rfl rfl) (allCons (L 24 rfl rfl) allNil))))))))⟩
      ·  -- g71: decide (x46.op = 21) is false
        have k76 := of_decide_eq_false g71
        refine U.x rfl rfl rfl rfl (L 0 rfl rfl) (by decide) ?_
        refine U.x rfl rfl rfl rfl (L 1 rfl rfl) (by decide) ?_
        refine U.x rfl rfl rfl rfl (L 2 rfl rfl) (by decide) ?_
        refine U.x rfl rfl rfl rfl (L 3 rfl rfl) (by decide) ?_
        refine U.p rfl rfl (.inl rfl) (S.pickF rfl (L 4 rfl rfl) K) ?_
        refine U.done (Nat.le_of_ble_eq_true rfl) ?_
        refine WP.cond false (L 0 rfl rfl) rfl (fun h => by cases h) (fun _ => ?_)
        refine WP.skip ?_
        refine blkN (sqN ?_)
        refine WP.ureg rfl ?_
        refine U.p rfl rfl (.inl rfl) (S.addI rfl (L 14 rfl rfl) K rfl (by omega) (by omega)) ?_
        refine U.p rfl rfl (.inl rfl) (S.move rfl (L 0 rfl rfl)) ?_
        refine U.done (Nat.le_of_ble_eq_true rfl) ?_
        refine sqN ?_
        have hs := cntF_snoc x14.code j x46 k hx47
        refine ⟨_, _, V66, rfl, ⟨j + 1, rfl, rfl, by omega, (((le41.trans le63).trans le68)), nx69⟩, (by omega), allCons (L 0 rfl rfl) (allCons (L 17 rfl rfl) (allCons (L 18 rfl rfl) (allCons (L 19 rfl rfl) (allCons (L 20 rfl rfl) (allCons (L 21 rfl rfl) (allCons ((L 22 rfl rfl).trans (by rw [hs]; simp [*]; try omega)) (allCons (L 23 rfl rfl) (allCons (L 24 rfl rfl) allNil))))))))⟩
    ·  -- c44: decide ((j : Int) < (x14.code.length : Int)) is false
      have k77 := of_decide_eq_false c44
      refine WP.exit ?_
      refine sqE (sqE (blkE (blkN (sqN ?_))))
      refine WP.ureg rfl ?_
      refine U.p rfl rfl (.inl rfl) (S.addI rfl (L 4 rfl rfl) K rfl (by omega) (by omega)) ?_
      refine U.p rfl rfl (.inl rfl) (S.move rfl (L 0 rfl rfl)) ?_
      refine U.done (Nat.le_of_ble_eq_true rfl) ?_
      refine sqN ?_
      have : j = x14.code.length := by omega
      subst this
      have hs := cntM_snoc m.funcs i x14 k hx15
      refine ⟨_, _, V39, rfl, ⟨i + 1, rfl, rfl, by omega, ((((le9.trans le31).trans le36).trans le41)), nx40⟩, (by omega), allCons (L 0 rfl rfl) (allCons (L 7 rfl rfl) (allCons (L 8 rfl rfl) (allCons ((L 9 rfl rfl).trans (by rw [hs, List.take_length]; simp)) (allCons (L 10 rfl rfl) (allCons (L 11 rfl rfl) allNil)))))⟩
  ·  -- c12: decide ((i : Int) < (m.funcs.length : Int)) is false
    have k78 := of_decide_eq_false c12
    refine WP.exit ?_
    refine sqE (sqE (blkE (sqN ?_)))
    refine WP.usreg rfl ?_
    refine U.p rfl rfl (.inl rfl) (S.move rfl (L 4 rfl rfl)) ?_
    refine U.p rfl rfl (.inl rfl) (S.assign rfl (L 0 rfl rfl)) ?_
    refine U.done (Nat.le_of_ble_eq_true rfl) ?_
    refine WP.ret ?_
    refine fin.slot (.inr rfl) rfl (L 0 rfl rfl) ⟨V7, rfl, nx8, ?_⟩
    have : i = m.funcs.length := by omega
    subst this
    rw [List.take_length]

set_option maxHeartbeats 4000000 in
theorem fnc5 (V : Vw) (m : Mod) (vf vt : Value) (hf : Sl 4 RFn V vf m.funcs) (ht : Sl 1 RInt V vt m.threads) (o : Opt) : Cc Try.prog 0 5 #[.agg #[vf, vt], .agg #[.bool o.naive, .bool o.bare, .bool o.merged]] V (fun _ => False) (fun v V' => v = .bool true) := by
  refine Cc.of (Nat.zero_le _) Try.func5 rfl (Nat.le_of_ble_eq_true rfl) ?_
  have nx0 : Nx (fun b => V.H.next ≤ b ∨ False) V V := Nx.start
  refine WP.usreg rfl ?_
  refine U.box (V := V) rfl rfl (.inl rfl) rfl (L 0 rfl rfl) (by simp [topV]) (rfl) nd (fun b2_1 V2 n3 => ?_)
  have le4 := n3.le
  have nx5 := nx0.nw n3
  have o6 := n3.own nx0
  refine U.box (V := V2) rfl rfl (.inl rfl) rfl (L 2 rfl rfl) (by simp [topV]) (rfl) nd (fun b3_7 V8 n9 => ?_)
  have le10 := n9.le
  have nx11 := nx5.nw n9
  have o12 := n9.own nx5
  have ne13 := o6.neNw n9
  have o14 := o6.nw n9
  refine U.p rfl rfl (.inl rfl) (S.assign rfl K) ?_
  refine U.done (Nat.le_of_ble_eq_true rfl) ?_
  refine WP.seq ?_
  refine WP.usreg rfl ?_
  refine U.callL (V := V8) rfl rfl (.inl rfl) rfl en6 aN (fnc6 V8) (fun _ _ => nd) (fun v15 V16 n17 p18 => ?_)
  have le19 := n17.le
  have nx20 := nx11.call n17 (fun _ h => h.elim)
  have o21 := o14.call n17 id
  have o22 := o12.call n17 id
  obtain rfl : v15 = .bool true := p18
  refine U.p rfl rfl (.inl rfl) (S.not rfl (L 0 rfl rfl)) ?_
  refine U.done (Nat.le_of_ble_eq_true rfl) ?_
  refine WP.cond false (L 0 rfl rfl) rfl (fun h => by cases h) (fun _ => ?_)
  refine WP.skip ?_
  refine sqN ?_
  refine WP.seq ?_
  refine WP.usreg rfl ?_
  refine U.k rfl rfl (.inl rfl) (S.loadB rfl (L 4 rfl rfl) Try.underlying25 rfl ti25 o21.get rfl) nd ?_
  have h27 := hf.up RFn.ty ((le4.trans le10).trans le19)
  have h28 := ht.up RInt.ty ((le4.trans le10).trans le19)
  refine U.callL (V := V16) rfl rfl (.inl rfl) rfl en7 (aC (L 0 rfl rfl) aN) (fnc7 V16 m vf vt h27 h28) (fun _ _ => nd) (fun v23 V24 n25 p26 => ?_)
  have le29 := n25.le
  have nx30 := nx20.call n25 (fun _ h => h.elim)
  have o31 := o21.call n25 id
  have o32 := o22.call n25 id
  obtain rfl : v23 = .bool (greatM m) := p26
  refine U.done (Nat.le_of_ble_eq_true rfl) ?_
  refine WP.cond _ (L 0 rfl rfl) rfl (fun c33 => ?_) (fun c33 => ?_)
  ·  -- c33: greatM m is true
    refine WP.usreg rfl ?_
    refine U.p rfl rfl (.inl rfl) (S.assign rfl K) ?_
    refine U.done (Nat.le_of_ble_eq_true rfl) ?_
    refine WP.ret ?_
    refine sqR ?_
    refine fin.slot (.inr rfl) rfl (L 0 rfl rfl) ⟨V24, rfl, nx30, ?_⟩
    rfl
  ·  -- c33: greatM m is false
    refine WP.skip ?_
    refine sqN ?_
    refine WP.usreg rfl ?_
    refine U.p (v := .pointer (some ⟨b3_7, 2, none⟩)) rfl rfl (.inl rfl) (S.fieldAddr rfl (L 5 rfl rfl) Try.underlying27 rfl ti4 rfl rfl) ?_
    refine U.store (V := V24) (cs := [.bool false]) (c' := [.bool o.naive, .bool o.bare, .bool false]) rfl rfl (.inl rfl) rfl (L 0 rfl rfl) K ti4 o32 (by simp [topV]) (rfl) rfl (Nat.le_of_ble_eq_true rfl) rfl rfl nd (fun V34 s35 => ?_)
    have le36 := s35.le o32
    have nx37 := nx30.st s35 o32
    have o38 := o31.st s35 ne13
    have o39 := s35.own o32
    refine U.done (Nat.le_of_ble_eq_true rfl) ?_
    refine WP.usreg rfl ?_
    refine U.k rfl rfl (.inl rfl) (S.loadB rfl (L 7 rfl rfl) Try.underlying25 rfl ti25 o38.get rfl) nd ?_
    refine U.k rfl rfl (.inl rfl) (S.loadB rfl (L 7 rfl rfl) Try.underlying27 rfl ti27 o39.get rfl) nd ?_
    have hsm := greatM_small m c33
    have h44 := hf.up RFn.ty ((((le4.trans le10).trans le19).trans le29).trans le36)
    have h45 := ht.up RInt.ty ((((le4.trans le10).trans le19).trans le29).trans le36)
    refine U.callL (V := V34) rfl rfl (.inl rfl) rfl en8 (aC (L 1 rfl rfl) (aC (L 0 rfl rfl) aN)) (fnc8 V34 m vf vt h44 h45 (⟨o.naive, o.bare, false⟩ : Opt) (fun f hf => by have := hsm.1 f hf; omega) (by omega) (by omega)) (fun _ _ => nd) (fun v40 V41 n42 p43 => ?_)
    have le46 := n42.le
    have nx47 := nx37.call n42 (fun _ h => h.elim)
    have o48 := o38.call n42 id
    have o49 := o39.call n42 id
    obtain ⟨vf50, vt51, rfl, hf52, ht53⟩ := p43
    refine U.alloc (V := V41) rfl rfl (.inl rfl) rfl ti25 rfl rfl nd (fun b5_54 V55 n56 => ?_)
    have le57 := n56.le
    have nx58 := nx47.nw n56
    have o59 := n56.own nx47
    have ne60 := o48.neNw n56
    have o61 := o48.nw n56
    have ne62 := o49.neNw n56
    have o63 := o49.nw n56
    refine U.store (V := V55) (cs := [vf50, vt51]) (c' := [vf50, vt51]) rfl rfl (.inl rfl) rfl (L 0 rfl rfl) (L 1 rfl rfl) ti25 o59 (by simp [topV]) (rfl) rfl (Nat.le_of_ble_eq_true rfl) (by have := hf52.one; have := ht53.one;  simp only [List.all_cons, List.all_nil, *]; rfl) rfl nd (fun V64 s65 => ?_)
    have le66 := s65.le o59
    have nx67 := nx58.st s65 o59
    have o68 := o61.st s65 ne60
    have o69 := o63.st s65 ne62
    have o70 := s65.own o59
    refine U.done (Nat.le_of_ble_eq_true rfl) ?_
    refine WP.usreg rfl ?_
    refine U.p (v := .pointer (some ⟨b3_7, 2, none⟩)) rfl rfl (.inl rfl) (S.fieldAddr rfl (L 10 rfl rfl) Try.underlying27 rfl ti4 rfl rfl) ?_
    refine U.store (V := V64) (cs := [.bool true]) (c' := [.bool o.naive, .bool o.bare, .bool true]) rfl rfl (.inl rfl) rfl (L 0 rfl rfl) K ti4 o69 (by simp [topV]) (rfl) rfl (Nat.le_of_ble_eq_true rfl) rfl rfl nd (fun V71 s72 => ?_)
    have le73 := s72.le o69
    have nx74 := nx67.st s72 o69
    have o75 := o68.st s72 ne13
    have o76 := o70.st s72 (Ne.symm ne62)
    have o77 := s72.own o69
    refine U.done (Nat.le_of_ble_eq_true rfl) ?_
    refine WP.usreg rfl ?_
    refine U.k rfl rfl (.inl rfl) (S.loadB rfl (L 12 rfl rfl) Try.underlying25 rfl ti25 o75.get rfl) nd ?_
    refine U.k rfl rfl (.inl rfl) (S.loadB rfl (L 12 rfl rfl) Try.underlying27 rfl ti27 o77.get rfl) nd ?_
    have hsm := greatM_small m c33
    have h82 := hf.up RFn.ty ((((((((le4.trans le10).trans le19).trans le29).trans le36).trans le46).trans le57).trans le66).trans le73)
    have h83 := ht.up RInt.ty ((((((((le4.trans le10).trans le19).trans le29).trans le36).trans le46).trans le57).trans le66).trans le73)
    refine U.callL (V := V71) rfl rfl (.inl rfl) rfl en8 (aC (L 1 rfl rfl) (aC (L 0 rfl rfl) aN)) (fnc8 V71 m vf vt h82 h83 (⟨o.naive, o.bare, true⟩ : Opt) (fun f hf => by have := hsm.1 f hf; omega) (by omega) (by omega)) (fun _ _ => nd) (fun v78 V79 n80 p81 => ?_)
    have le84 := n80.le
    have nx85 := nx74.call n80 (fun _ h => h.elim)
    have o86 := o75.call n80 id
    have o87 := o77.call n80 id
    have o88 := o76.call n80 id
    obtain ⟨vf89, vt90, rfl, hf91, ht92⟩ := p81
    refine U.alloc (V := V79) rfl rfl (.inl rfl) rfl ti25 rfl rfl nd (fun b6_93 V94 n95 => ?_)
    have le96 := n95.le
    have nx97 := nx85.nw n95
    have o98 := n95.own nx85
    have ne99 := o86.neNw n95
    have o100 := o86.nw n95
    have ne101 := o87.neNw n95
    have o102 := o87.nw n95
    have ne103 := o88.neNw n95
    have o104 := o88.nw n95
    refine U.store (V := V94) (cs := [vf89, vt90]) (c' := [vf89, vt90]) rfl rfl (.inl rfl) rfl (L 0 rfl rfl) (L 1 rfl rfl) ti25 o98 (by simp [topV]) (rfl) rfl (Nat.le_of_ble_eq_true rfl) (by have := hf91.one; have := ht92.one;  simp only [List.all_cons, List.all_nil, *]; rfl) rfl nd (fun V105 s106 => ?_)
    have le107 := s106.le o98
    have nx108 := nx97.st s106 o98
    have o109 := o100.st s106 ne99
    have o110 := o102.st s106 ne101
    have o111 := o104.st s106 ne103
    have o112 := s106.own o98
    refine U.done (Nat.le_of_ble_eq_true rfl) ?_
    refine WP.seq ?_
    refine WP.usdreg rfl rfl rfl ?_
    refine U.k rfl rfl (.inl rfl) (S.loadB rfl (L 0 rfl rfl) Try.underlying25 rfl ti25 o112.get rfl) (fun _ => (okH.nil (fun r h => by cases h; exact o112.lt))) ?_
    have h117 := hf91.up RFn.ty (le96.trans le107)
    have h118 := ht92.up RInt.ty (le96.trans le107)
    have hb119 := fenced_small m hsm.1 (⟨o.naive, o.bare, true⟩ : Opt)
    have hb119c := cntM_le _ 1 hb119
    rw [List.length_map] at hb119c
    refine U.callL (V := V105) rfl rfl (.inl rfl) rfl en14 (aC (L 0 rfl rfl) (aC K aN)) (fnc14 V105 (⟨m.funcs.map (fencedF (⟨o.naive, o.bare, true⟩ : Opt)), m.threads⟩ : Mod) vf89 vt90 h117 h118 1 hb119 (by rw [List.length_map]; omega)) (fun V1 n1 => (fun _ => (okH.cons (Or.inl rfl) (okH.nil (fun r h => nomatch h))))) (fun v113 V114 n115 p116 => ?_)
    have le120 := n115.le
    have nx121 := nx108.call n115 (fun _ h => h.elim)
    have o122 := o109.call n115 id
    have o123 := o110.call n115 id
    have o124 := o111.call n115 id
    have o125 := o112.call n115 id
    obtain rfl : v113 = .int .i64 (cntM (m.funcs.map (fencedF (⟨o.naive, o.bare, true⟩ : Opt))) 1 : Int) := p116
    refine U.k rfl rfl (.inl rfl) (S.loadB rfl (L 2 rfl rfl) Try.underlying25 rfl ti25 o125.get rfl) (fun _ => (okH.cons (Or.inr (n115.same o112.lt)) (okH.cons trivial (okH.nil (fun r h => by cases h; exact o125.lt))))) ?_
    have h130 := hf91.up RFn.ty ((le96.trans le107).trans le120)
    have h131 := ht92.up RInt.ty ((le96.trans le107).trans le120)
    have hb132 := fenced_small m hsm.1 (⟨o.naive, o.bare, true⟩ : Opt)
    have hb132c := cntM_le _ 2 hb132
    rw [List.length_map] at hb132c
    refine U.callL (V := V114) rfl rfl (.inl rfl) rfl en14 (aC (L 0 rfl rfl) (aC K aN)) (fnc14 V114 (⟨m.funcs.map (fencedF (⟨o.naive, o.bare, true⟩ : Opt)), m.threads⟩ : Mod) vf89 vt90 h130 h131 2 hb132 (by rw [List.length_map]; omega)) (fun V1 n1 => (fun _ => (okH.cons (Or.inl rfl) (okH.cons rfl (okH.cons (Or.inl rfl) (okH.nil (fun r h => nomatch h))))))) (fun v126 V127 n128 p129 => ?_)
    have le133 := n128.le
    have nx134 := nx121.call n128 (fun _ h => h.elim)
    have o135 := o122.call n128 id
    have o136 := o123.call n128 id
    have o137 := o124.call n128 id
    have o138 := o125.call n128 id
    obtain rfl : v126 = .int .i64 (cntM (m.funcs.map (fencedF (⟨o.naive, o.bare, true⟩ : Opt))) 2 : Int) := p129
    refine U.p rfl rfl (.inl rfl) (S.addI rfl (L 2 rfl rfl) (L 0 rfl rfl) rfl (by omega) (by omega)) ?_
    refine U.k rfl rfl (.inl rfl) (S.loadB rfl (L 10 rfl rfl) Try.underlying25 rfl ti25 o137.get rfl) (fun _ => (okH.cons (Or.inr (n128.same o124.lt)) (okH.cons trivial (okH.cons (Or.inr (n115.same o111.lt)) (okH.cons trivial (okH.nil (fun r h => by cases h; exact o137.lt))))))) ?_
    have h143 := hf52.up RFn.ty (((((((le57.trans le66).trans le73).trans le84).trans le96).trans le107).trans le120).trans le133)
    have h144 := ht53.up RInt.ty (((((((le57.trans le66).trans le73).trans le84).trans le96).trans le107).trans le120).trans le133)
    have hb145 := fenced_small m hsm.1 (⟨o.naive, o.bare, false⟩ : Opt)
    have hb145c := cntM_le _ 1 hb145
    rw [List.length_map] at hb145c
    refine U.callL (V := V127) rfl rfl (.inl rfl) rfl en14 (aC (L 0 rfl rfl) (aC K aN)) (fnc14 V127 (⟨m.funcs.map (fencedF (⟨o.naive, o.bare, false⟩ : Opt)), m.threads⟩ : Mod) vf50 vt51 h143 h144 1 hb145 (by rw [List.length_map]; omega)) (fun V1 n1 => (fun _ => (okH.cons (Or.inl rfl) (okH.cons rfl (okH.cons (Or.inl rfl) (okH.cons rfl (okH.cons (Or.inl rfl) (okH.nil (fun r h => nomatch h))))))))) (fun v139 V140 n141 p142 => ?_)
    have le146 := n141.le
    have nx147 := nx134.call n141 (fun _ h => h.elim)
    have o148 := o135.call n141 id
    have o149 := o136.call n141 id
    have o150 := o137.call n141 id
    have o151 := o138.call n141 id
    obtain rfl : v139 = .int .i64 (cntM (m.funcs.map (fencedF (⟨o.naive, o.bare, false⟩ : Opt))) 1 : Int) := p142
    refine U.k rfl rfl (.inl rfl) (S.loadB rfl (L 12 rfl rfl) Try.underlying25 rfl ti25 o150.get rfl) (fun _ => (okH.cons (Or.inr (n141.same o137.lt)) (okH.cons trivial (okH.cons (Or.inr (n128.same o124.lt)) (okH.cons trivial (okH.cons (Or.inr (n115.same o111.lt)) (okH.cons trivial (okH.nil (fun r h => by cases h; exact o150.lt))))))))) ?_
    have h156 := hf52.up RFn.ty ((((((((le57.trans le66).trans le73).trans le84).trans le96).trans le107).trans le120).trans le133).trans le146)
    have h157 := ht53.up RInt.ty ((((((((le57.trans le66).trans le73).trans le84).trans le96).trans le107).trans le120).trans le133).trans le146)
    have hb158 := fenced_small m hsm.1 (⟨o.naive, o.bare, false⟩ : Opt)
    have hb158c := cntM_le _ 2 hb158
    rw [List.length_map] at hb158c
    refine U.callL (V := V140) rfl rfl (.inl rfl) rfl en14 (aC (L 0 rfl rfl) (aC K aN)) (fnc14 V140 (⟨m.funcs.map (fencedF (⟨o.naive, o.bare, false⟩ : Opt)), m.threads⟩ : Mod) vf50 vt51 h156 h157 2 hb158 (by rw [List.length_map]; omega)) (fun V1 n1 => (fun _ => (okH.cons (Or.inl rfl) (okH.cons rfl (okH.cons (Or.inl rfl) (okH.cons rfl (okH.cons (Or.inl rfl) (okH.cons rfl (okH.cons (Or.inl rfl) (okH.nil (fun r h => nomatch h))))))))))) (fun v152 V153 n154 p155 => ?_)
    have le159 := n154.le
    have nx160 := nx147.call n154 (fun _ h => h.elim)
    have o161 := o148.call n154 id
    have o162 := o149.call n154 id
    have o163 := o150.call n154 id
    have o164 := o151.call n154 id
    obtain rfl : v152 = .int .i64 (cntM (m.funcs.map (fencedF (⟨o.naive, o.bare, false⟩ : Opt))) 2 : Int) := p155
    refine U.p rfl rfl (.inl rfl) (S.addI rfl (L 2 rfl rfl) (L 0 rfl rfl) rfl (by omega) (by omega)) ?_
    refine U.p rfl rfl (.inl rfl) (S.gtr rfl (L 5 rfl rfl) (L 0 rfl rfl)) ?_
    refine U.p rfl rfl (.inl rfl) (S.move rfl (L 0 rfl rfl)) ?_
    refine U.bs (L 0 rfl rfl) (fun g165 => ?_) (fun g165 => ?_)
    ·  -- g165: decide (((cntM (m.funcs.map (fencedF (⟨o.naive, o.bare, false⟩ : Opt))) 1 : Int) + (cntM (m.funcs.map (fencedF (⟨o.naive, o.bare, false⟩ : Opt))) 2 : Int)) < ((cntM (m.funcs.map (fencedF (⟨o.naive, o.bare, true⟩ : Opt))) 1 : Int) + (cntM (m.funcs.map (fencedF (⟨o.naive, o.bare, true⟩ : Opt))) 2 : Int))) is true
      have k166 := of_decide_eq_true g165
      refine U.x rfl rfl rfl rfl (L 0 rfl rfl) (by decide) ?_
      refine U.x rfl rfl rfl rfl (L 1 rfl rfl) (by decide) ?_
      refine U.x rfl rfl rfl rfl (L 2 rfl rfl) (by decide) ?_
      refine U.x rfl rfl rfl rfl (L 3 rfl rfl) (by decide) ?_
      refine U.x rfl rfl rfl rfl (L 4 rfl rfl) (by decide) ?_
      refine U.p rfl rfl (.inl rfl) (S.pickT rfl (L 5 rfl rfl) K) ?_
      refine U.done (Nat.le_of_ble_eq_true rfl) ?_
      refine WP.cond true (L 0 rfl rfl) rfl (fun _ => ?_) (fun h => by cases h)
      refine WP.usreg rfl ?_
      refine U.p rfl rfl (.inl rfl) (S.assign rfl K) ?_
      refine U.done (Nat.le_of_ble_eq_true rfl) ?_
      refine WP.ret ?_
      refine sqR ?_
      refine fin.slot (.inr rfl) rfl (L 0 rfl rfl) ⟨V153, rfl, nx160, ?_⟩
      exfalso
      have hcm := cnt_mod m.funcs o.naive o.bare
      omega
    ·  -- g165: decide (((cntM (m.funcs.map (fencedF (⟨o.naive, o.bare, false⟩ : Opt))) 1 : Int) + (cntM (m.funcs.map (fencedF (⟨o.naive, o.bare, false⟩ : Opt))) 2 : Int)) < ((cntM (m.funcs.map (fencedF (⟨o.naive, o.bare, true⟩ : Opt))) 1 : Int) + (cntM (m.funcs.map (fencedF (⟨o.naive, o.bare, true⟩ : Opt))) 2 : Int))) is false
      have k167 := of_decide_eq_false g165
      refine U.k rfl rfl (.inr ⟨_, _, _, rfl, rfl, (L 0 rfl rfl)⟩) (S.loadB rfl (L 18 rfl rfl) Try.underlying25 rfl ti25 o163.get rfl) (fun _ => (okH.cons (Or.inl rfl) (okH.cons trivial (okH.cons (Or.inl rfl) (okH.cons trivial (okH.cons (Or.inl rfl) (okH.cons trivial (okH.cons (Or.inl rfl) (okH.cons trivial (okH.nil (fun r h => by cases h; exact o163.lt))))))))))) ?_
      have h172 := hf52.up RFn.ty (((((((((le57.trans le66).trans le73).trans le84).trans le96).trans le107).trans le120).trans le133).trans le146).trans le159)
      have h173 := ht53.up RInt.ty (((((((((le57.trans le66).trans le73).trans le84).trans le96).trans le107).trans le120).trans le133).trans le146).trans le159)
      have hb174 := fenced_small m hsm.1 (⟨o.naive, o.bare, false⟩ : Opt)
      have hb174c := cntM_le _ 3 hb174
      rw [List.length_map] at hb174c
      refine U.callL (V := V153) rfl rfl (.inr ⟨_, _, _, rfl, rfl, (L 1 rfl rfl)⟩) rfl en14 (aC (L 0 rfl rfl) (aC K aN)) (fnc14 V153 (⟨m.funcs.map (fencedF (⟨o.naive, o.bare, false⟩ : Opt)), m.threads⟩ : Mod) vf50 vt51 h172 h173 3 hb174 (by rw [List.length_map]; omega)) (fun V1 n1 => (fun _ => (okH.cons (Or.inl rfl) (okH.cons rfl (okH.cons (Or.inl rfl) (okH.cons rfl (okH.cons (Or.inl rfl) (okH.cons rfl (okH.cons (Or.inl rfl) (okH.cons rfl (okH.cons (Or.inl rfl) (okH.nil (fun r h => nomatch h))))))))))))) (fun v168 V169 n170 p171 => ?_)
      have le175 := n170.le
      have nx176 := nx160.call n170 (fun _ h => h.elim)
      have o177 := o161.call n170 id
      have o178 := o162.call n170 id
      have o179 := o163.call n170 id
      have o180 := o164.call n170 id
      obtain rfl : v168 = .int .i64 (cntM (m.funcs.map (fencedF (⟨o.naive, o.bare, false⟩ : Opt))) 3 : Int) := p171
      refine U.k rfl rfl (.inr ⟨_, _, _, rfl, rfl, (L 2 rfl rfl)⟩) (S.loadB rfl (L 15 rfl rfl) Try.underlying25 rfl ti25 o180.get rfl) (fun _ => (okH.cons (Or.inr (n170.same o164.lt)) (okH.cons trivial (okH.cons (Or.inl rfl) (okH.cons trivial (okH.cons (Or.inl rfl) (okH.cons trivial (okH.cons (Or.inl rfl) (okH.cons trivial (okH.cons (Or.inl rfl) (okH.cons trivial (okH.nil (fun r h => by cases h; exact o180.lt))))))))))))) ?_
      have h185 := hf91.up RFn.ty ((((((le96.trans le107).trans le120).trans le133).trans le146).trans le159).trans le175)
      have h186 := ht92.up RInt.ty ((((((le96.trans le107).trans le120).trans le133).trans le146).trans le159).trans le175)
      have hb187 := fenced_small m hsm.1 (⟨o.naive, o.bare, true⟩ : Opt)
      have hb187c := cntM_le _ 3 hb187
      rw [List.length_map] at hb187c
      refine U.callL (V := V169) rfl rfl (.inr ⟨_, _, _, rfl, rfl, (L 3 rfl rfl)⟩) rfl en14 (aC (L 0 rfl rfl) (aC K aN)) (fnc14 V169 (⟨m.funcs.map (fencedF (⟨o.naive, o.bare, true⟩ : Opt)), m.threads⟩ : Mod) vf89 vt90 h185 h186 3 hb187 (by rw [List.length_map]; omega)) (fun V1 n1 => (fun _ => (okH.cons (Or.inl rfl) (okH.cons rfl (okH.cons (Or.inl rfl) (okH.cons rfl (okH.cons (Or.inl rfl) (okH.cons rfl (okH.cons (Or.inl rfl) (okH.cons rfl (okH.cons (Or.inl rfl) (okH.cons rfl (okH.cons (Or.inl rfl) (okH.nil (fun r h => nomatch h))))))))))))))) (fun v181 V182 n183 p184 => ?_)
      have le188 := n183.le
      have nx189 := nx176.call n183 (fun _ h => h.elim)
      have o190 := o177.call n183 id
      have o191 := o178.call n183 id
      have o192 := o179.call n183 id
      have o193 := o180.call n183 id
      obtain rfl : v181 = .int .i64 (cntM (m.funcs.map (fencedF (⟨o.naive, o.bare, true⟩ : Opt))) 3 : Int) := p184
      refine U.p rfl rfl (.inr ⟨_, _, _, rfl, rfl, (L 4 rfl rfl)⟩) (S.neqI rfl (L 2 rfl rfl) (L 0 rfl rfl)) ?_
      refine U.p rfl rfl (.inl rfl) (S.pickF rfl (L 5 rfl rfl) (L 0 rfl rfl)) ?_
      refine U.done (Nat.le_of_ble_eq_true rfl) ?_
      refine WP.cond _ (L 0 rfl rfl) rfl (fun c194 => ?_) (fun c194 => ?_)
      ·  -- c194: decide ((cntM (m.funcs.map (fencedF (⟨o.naive, o.bare, false⟩ : Opt))) 3 : Int) ≠ (cntM (m.funcs.map (fencedF (⟨o.naive, o.bare, true⟩ : Opt))) 3 : Int)) is true
        have k195 := of_decide_eq_true c194
        refine WP.usreg rfl ?_
        refine U.p rfl rfl (.inl rfl) (S.assign rfl K) ?_
        refine U.done (Nat.le_of_ble_eq_true rfl) ?_
        refine WP.ret ?_
        refine sqR ?_
        refine fin.slot (.inr rfl) rfl (L 0 rfl rfl) ⟨V182, rfl, nx189, ?_⟩
        exfalso
        have hcm := cnt_mod m.funcs o.naive o.bare
        omega
      ·  -- c194: decide ((cntM (m.funcs.map (fencedF (⟨o.naive, o.bare, false⟩ : Opt))) 3 : Int) ≠ (cntM (m.funcs.map (fencedF (⟨o.naive, o.bare, true⟩ : Opt))) 3 : Int)) is false
        have k196 := of_decide_eq_false c194
        refine WP.skip ?_
        refine sqN ?_
        refine WP.seq ?_
        refine WP.usreg rfl ?_
        refine U.p (v := .pointer (some ⟨b6_93, 0, none⟩)) rfl rfl (.inl rfl) (S.fieldAddr rfl (L 19 rfl rfl) Try.underlying25 rfl ti22 rfl rfl) ?_
        refine U.k rfl rfl (.inl rfl) (S.load rfl (L 0 rfl rfl) Try.underlying22 rfl (o193.cell rfl)) nd ?_
        refine U.p rfl rfl (.inl rfl) (hf91.len rfl (L 0 rfl rfl) Try.underlying22) ?_
        refine U.p rfl rfl (.inl rfl) (S.move rfl K) ?_
        refine U.done (Nat.le_of_ble_eq_true rfl) ?_
        refine WP.blk ?_
        refine WP.loopE (fun n l V' => ∃ (i : Nat), l = [(45, .int .i64 (i : Int)), (44, .int .i64 ((m.funcs.map (fencedF (⟨o.naive, o.bare, true⟩ : Opt))).length : Int)), (43, vf89)] ∧ n = (m.funcs.map (fencedF (⟨o.naive, o.bare, true⟩ : Opt))).length - i ∧ i ≤ (m.funcs.map (fencedF (⟨o.naive, o.bare, true⟩ : Opt))).length ∧ V182.le V' ∧ Nx (fun b => V.H.next ≤ b ∨ False) V V') ?_ _ _ V182 ⟨0, rfl, rfl, Nat.zero_le _, .refl _, nx189⟩ _ (allCons (L 0 rfl rfl) (allCons (L 1 rfl rfl) (allCons (L 2 rfl rfl) allNil)))
        rintro n201 l200 V197 ⟨i, rfl, rfl, hi, le199, nx198⟩
        have hlm : (m.funcs.map (fencedF (⟨o.naive, o.bare, true⟩ : Opt))).length = m.funcs.length := List.length_map _
        refine WP.usreg rfl ?_
        refine U.p rfl rfl (.inl rfl) (S.lss rfl (L 0 rfl rfl) (L 1 rfl rfl)) ?_
        refine U.done (Nat.le_of_ble_eq_true rfl) ?_
        refine WP.seq ?_
        refine WP.cond _ (L 0 rfl rfl) rfl (fun c202 => ?_) (fun c202 => ?_)
        ·  -- c202: decide ((i : Int) < ((m.funcs.map (fencedF (⟨o.naive, o.bare, true⟩ : Opt))).length : Int)) is true
          have k203 := of_decide_eq_true c202
          refine WP.skip ?_
          refine sqN ?_
          refine WP.seq ?_
          refine WP.blk ?_
          refine WP.usreg rfl ?_
          have h206 := hf91.up RFn.ty ((((((((le96.trans le107).trans le120).trans le133).trans le146).trans le159).trans le175).trans le188).trans le199)
          have hx205_lt : i < (m.funcs.map (fencedF (⟨o.naive, o.bare, true⟩ : Opt))).length := by omega
          obtain ⟨x204, hx205⟩ : ∃ x, (m.funcs.map (fencedF (⟨o.naive, o.bare, true⟩ : Opt)))[i]? = some x := ⟨_, List.getElem?_eq_getElem hx205_lt⟩
          obtain ⟨b207, f208, c209, cs210, hv215, hb211, hl212, hr213, hc214⟩ := h206.at hx205
          obtain ⟨va216, rfl, ha217⟩ := hr213
          refine U.p rfl rfl (.inl rfl) (S.index rfl ((L 3 rfl rfl).trans hv215) (L 1 rfl rfl) Try.underlying22 ti33 (by omega) (by omega)) ?_
          refine U.k rfl rfl (.inl rfl) (S.loadN (cs := [.string x204.name, .int .i64 x204.params, .int .i64 x204.regs, va216]) rfl (L 0 rfl rfl) Try.underlying33 rfl ti33 rfl (fun j v hj => hc214 j v hj)) nd ?_
          refine U.alloc (V := V197) rfl rfl (.inl rfl) rfl ti33 rfl rfl nd (fun b8_218 V219 n220 => ?_)
          have le221 := n220.le
          have nx222 := nx198.nw n220
          have o223 := n220.own nx198
          refine U.store (V := V219) (cs := [.string x204.name, .int .i64 x204.params, .int .i64 x204.regs, va216]) (c' := [.string x204.name, .int .i64 x204.params, .int .i64 x204.regs, va216]) rfl rfl (.inl rfl) rfl (L 0 rfl rfl) (L 1 rfl rfl) ti33 o223 (by simp [topV]) (rfl) rfl (Nat.le_of_ble_eq_true rfl) (by have := ha217.one;  simp only [List.all_cons, List.all_nil, *]; rfl) rfl nd (fun V224 s225 => ?_)
          have le226 := s225.le o223
          have nx227 := nx222.st s225 o223
          have o228 := s225.own o223
          refine U.done (Nat.le_of_ble_eq_true rfl) ?_
          refine WP.usreg rfl ?_
          refine U.p rfl rfl (.inl rfl) (S.assign rfl K) ?_
          refine U.done (Nat.le_of_ble_eq_true rfl) ?_
          refine WP.blk ?_
          have hxB := fenced_small m hsm.1 _ x204 (List.mem_of_getElem? hx205)
          refine WP.loopE (fun n l V' => ∃ (j : Nat), l = [(9, .int .i64 ((j : Int) + 1)), (8, .pointer (some ⟨b8_218, 0, none⟩)), (45, .int .i64 (i : Int)), (44, .int .i64 ((m.funcs.map (fencedF (⟨o.naive, o.bare, true⟩ : Opt))).length : Int)), (43, vf89)] ∧ n = x204.code.length - j ∧ j ≤ x204.code.length ∧ V224.le V' ∧ Nx (fun b => V.H.next ≤ b ∨ False) V V' ∧ Own (fun b => V.H.next ≤ b ∨ False) V' b8_218 (.cells 4 [.string x204.name, .int .i64 x204.params, .int .i64 x204.regs, va216])) ?_ _ _ V224 ⟨0, rfl, rfl, Nat.zero_le _, .refl _, nx227, o228⟩ _ (allCons ((L 0 rfl rfl).trans (rfl)) (allCons (L 1 rfl rfl) (allCons (L 5 rfl rfl) (allCons (L 6 rfl rfl) (allCons (L 7 rfl rfl) allNil)))))
          rintro n233 l232 V229 ⟨j, rfl, rfl, hj, le231, nx230, o234⟩
          refine WP.seq ?_
          refine WP.usreg rfl ?_
          refine U.p rfl rfl (.inl rfl) (S.move rfl (L 0 rfl rfl)) ?_
          refine U.p (v := .pointer (some ⟨b8_218, 3, none⟩)) rfl rfl (.inl rfl) (S.fieldAddr rfl (L 2 rfl rfl) Try.underlying33 rfl ti31 rfl rfl) ?_
          refine U.k rfl rfl (.inl rfl) (S.load rfl (L 0 rfl rfl) Try.underlying31 rfl (o234.cell rfl)) nd ?_
          refine U.p rfl rfl (.inl rfl) (ha217.len rfl (L 0 rfl rfl) Try.underlying31) ?_
          refine U.p rfl rfl (.inl rfl) (S.lss rfl (L 3 rfl rfl) (L 0 rfl rfl)) ?_
          refine U.done (Nat.le_of_ble_eq_true rfl) ?_
          refine WP.cond _ (L 0 rfl rfl) rfl (fun c235 => ?_) (fun c235 => ?_)
          ·  -- c235: decide (((j : Int) + 1) < (x204.code.length : Int)) is true
            have k236 := of_decide_eq_true c235
            refine WP.skip ?_
            refine sqN ?_
            refine WP.seq ?_
            refine WP.blk ?_
            refine WP.usdreg rfl rfl rfl ?_
            refine U.p (v := .pointer (some ⟨b8_218, 3, none⟩)) rfl rfl (.inl rfl) (S.fieldAddr rfl (L 6 rfl rfl) Try.underlying33 rfl ti31 rfl rfl) ?_
            refine U.k rfl rfl (.inl rfl) (S.load rfl (L 0 rfl rfl) Try.underlying31 rfl (o234.cell rfl)) (fun _ => (okH.nil (fun r h => by cases h; exact o234.lt))) ?_
            refine U.p rfl rfl (.inl rfl) (S.move rfl (L 7 rfl rfl)) ?_
            refine U.p rfl rfl (.inl rfl) (S.subI rfl (L 0 rfl rfl) K rfl (by omega) (by omega)) ?_
            have h239 := ha217.up RIns.ty ((le221.trans le226).trans le231)
            have hx238_lt : (((j : Int) + 1) - 1).toNat < x204.code.length := by omega
            obtain ⟨x237, hx238⟩ : ∃ x, x204.code[(((j : Int) + 1) - 1).toNat]? = some x := ⟨_, List.getElem?_eq_getElem hx238_lt⟩
            obtain ⟨b240, f241, c242, cs243, hv248, hb244, hl245, hr246, hc247⟩ := h239.at hx238
            obtain ⟨va249, rfl, ha250⟩ := hr246
            refine U.p rfl rfl (.inl rfl) (S.index rfl ((L 2 rfl rfl).trans hv248) (L 0 rfl rfl) Try.underlying31 ti42 (by omega) (by omega)) ?_
            refine U.k rfl rfl (.inl rfl) (S.loadN (cs := [.int .i64 x237.op, .int .i64 x237.d, .int .i64 x237.a, .int .i64 x237.b, .int .i64 x237.imm, va249, .int .i64 x237.what, .bool x237.vol, .bool x237.fin]) rfl (L 0 rfl rfl) Try.underlying42 rfl ti42 rfl (fun j v hj => hc247 j v hj)) (fun _ => (okH.cons trivial (okH.nil (fun r h => by cases h; exact V229.wf _ (hb244))))) ?_
            refine U.p (v := .pointer (some ⟨b8_218, 3, none⟩)) rfl rfl (.inl rfl) (S.fieldAddr rfl (L 12 rfl rfl) Try.underlying33 rfl ti31 rfl rfl) ?_
            refine U.k rfl rfl (.inl rfl) (S.load rfl (L 0 rfl rfl) Try.underlying31 rfl (o234.cell rfl)) (fun _ => (okH.cons trivial (okH.cons trivial (okH.nil (fun r h => by cases h; exact o234.lt))))) ?_
            refine U.p rfl rfl (.inl rfl) (S.move rfl (L 13 rfl rfl)) ?_
            have h253 := ha217.up RIns.ty ((le221.trans le226).trans le231)
            have hx252_lt : (((j : Int) + 1)).toNat < x204.code.length := by omega
            obtain ⟨x251, hx252⟩ : ∃ x, x204.code[(((j : Int) + 1)).toNat]? = some x := ⟨_, List.getElem?_eq_getElem hx252_lt⟩
            obtain ⟨b254, f255, c256, cs257, hv262, hb258, hl259, hr260, hc261⟩ := h253.at hx252
            obtain ⟨va263, rfl, ha264⟩ := hr260
            refine U.p rfl rfl (.inl rfl) (S.index rfl ((L 1 rfl rfl).trans hv262) (L 0 rfl rfl) Try.underlying31 ti42 (by omega) (by omega)) ?_
            refine U.k rfl rfl (.inl rfl) (S.loadN (cs := [.int .i64 x251.op, .int .i64 x251.d, .int .i64 x251.a, .int .i64 x251.b, .int .i64 x251.imm, va263, .int .i64 x251.what, .bool x251.vol, .bool x251.fin]) rfl (L 0 rfl rfl) Try.underlying42 rfl ti42 rfl (fun j v hj => hc261 j v hj)) (fun _ => (okH.cons trivial (okH.cons trivial (okH.cons trivial (okH.nil (fun r h => by cases h; exact V229.wf _ (hb258))))))) ?_
            refine U.alloc (V := V229) rfl rfl (.inl rfl) rfl ti42 rfl rfl (fun _ => (okH.cons trivial (okH.cons trivial (okH.cons trivial (okH.cons trivial (okH.nil (fun r h => nomatch h))))))) (fun b10_265 V266 n267 => ?_)
            have le268 := n267.le
            have nx269 := nx230.nw n267
            have o270 := n267.own nx230
            have ne271 := o234.neNw n267
            have o272 := o234.nw n267
            refine U.alloc (V := V266) rfl rfl (.inl rfl) rfl ti42 rfl rfl (fun _ => (okH.cons trivial (okH.cons trivial (okH.cons trivial (okH.cons trivial (okH.cons trivial (okH.nil (fun r h => nomatch h)))))))) (fun b11_273 V274 n275 => ?_)
            have le276 := n275.le
            have nx277 := nx269.nw n275
            have o278 := n275.own nx269
            have ne279 := o272.neNw n275
            have o280 := o272.nw n275
            have ne281 := o270.neNw n275
            have o282 := o270.nw n275
            refine U.store (V := V274) (cs := [.int .i64 x237.op, .int .i64 x237.d, .int .i64 x237.a, .int .i64 x237.b, .int .i64 x237.imm, va249, .int .i64 x237.what, .bool x237.vol, .bool x237.fin]) (c' := [.int .i64 x237.op, .int .i64 x237.d, .int .i64 x237.a, .int .i64 x237.b, .int .i64 x237.imm, va249, .int .i64 x237.what, .bool x237.vol, .bool x237.fin]) rfl rfl (.inl rfl) rfl (L 1 rfl rfl) (L 7 rfl rfl) ti42 o282 (by simp [topV]) (rfl) rfl (Nat.le_of_ble_eq_true rfl) (by have := ha250.one;  simp only [List.all_cons, List.all_nil, *]; rfl) rfl (fun _ => (okH.cons (Or.inl rfl) (okH.cons (Or.inl rfl) (okH.cons (Or.inr (upd_same (fun e => o282.nf (e ▸ ((le268.trans le276).sub _ (hb258)))))) (okH.cons (Or.inr (upd_same ne271)) (okH.cons (Or.inl rfl) (okH.cons (Or.inl rfl) (okH.nil (fun r h => nomatch h))))))))) (fun V283 s284 => ?_)
            have le285 := s284.le o282
            have nx286 := nx277.st s284 o282
            have o287 := o280.st s284 ne271
            have o288 := o278.st s284 (Ne.symm ne281)
            have o289 := s284.own o282
            refine U.store (V := V283) (cs := [.int .i64 x251.op, .int .i64 x251.d, .int .i64 x251.a, .int .i64 x251.b, .int .i64 x251.imm, va263, .int .i64 x251.what, .bool x251.vol, .bool x251.fin]) (c' := [.int .i64 x251.op, .int .i64 x251.d, .int .i64 x251.a, .int .i64 x251.b, .int .i64 x251.imm, va263, .int .i64 x251.what, .bool x251.vol, .bool x251.fin]) rfl rfl (.inl rfl) rfl (L 0 rfl rfl) (L 2 rfl rfl) ti42 o288 (by simp [topV]) (rfl) rfl (Nat.le_of_ble_eq_true rfl) (by have := ha264.one;  simp only [List.all_cons, List.all_nil, *]; rfl) rfl (fun _ => (okH.cons rfl (okH.cons (Or.inl rfl) (okH.cons (Or.inl rfl) (okH.cons (Or.inl rfl) (okH.cons (Or.inl rfl) (okH.cons (Or.inl rfl) (okH.cons (Or.inl rfl) (okH.nil (fun r h => nomatch h)))))))))) (fun V290 s291 => ?_)
            have le292 := s291.le o288
            have nx293 := nx286.st s291 o288
            have o294 := o287.st s291 ne279
            have o295 := o289.st s291 ne281
            have o296 := s291.own o288
            refine U.done (Nat.le_of_ble_eq_true rfl) ?_
            refine WP.usreg rfl ?_
            refine U.p (v := .pointer (some ⟨b10_265, 0, none⟩)) rfl rfl (.inl rfl) (S.fieldAddr rfl (L 1 rfl rfl) Try.underlying42 rfl ti3 rfl rfl) ?_
            refine U.k rfl rfl (.inl rfl) (S.load rfl (L 0 rfl rfl) Try.underlying3 rfl (o295.cell rfl)) nd ?_
            refine U.p rfl rfl (.inl rfl) (S.eqlI rfl (L 0 rfl rfl) K) ?_
            refine U.p rfl rfl (.inl rfl) (S.move rfl (L 0 rfl rfl)) ?_
            refine U.bs (L 0 rfl rfl) (fun g297 => ?_) (fun g297 => ?_)
            ·  -- g297: decide (x237.op = 21) is true
              have k298 := of_decide_eq_true g297
              refine U.p (v := .pointer (some ⟨b11_273, 0, none⟩)) rfl rfl (.inr ⟨_, _, _, rfl, rfl, (L 0 rfl rfl)⟩) (S.fieldAddr rfl (L 5 rfl rfl) Try.underlying42 rfl ti3 rfl rfl) ?_
              refine U.k rfl rfl (.inr ⟨_, _, _, rfl, rfl, (L 1 rfl rfl)⟩) (S.load rfl (L 0 rfl rfl) Try.underlying3 rfl (o296.cell rfl)) nd ?_
              refine U.p rfl rfl (.inr ⟨_, _, _, rfl, rfl, (L 2 rfl rfl)⟩) (S.eqlI rfl (L 0 rfl rfl) K) ?_
              refine U.p rfl rfl (.inl rfl) (S.pickT rfl (L 3 rfl rfl) (L 0 rfl rfl)) ?_
              refine U.p rfl rfl (.inl rfl) (S.move rfl (L 0 rfl rfl)) ?_
              refine U.bs (L 0 rfl rfl) (fun g299 => ?_) (fun g299 => ?_)
              ·  -- g299: decide (x251.op = 21) is true
                have k300 := of_decide_eq_true g299
                refine U.p (v := .pointer (some ⟨b10_265, 4, none⟩)) rfl rfl (.inr ⟨_, _, _, rfl, rfl, (L 0 rfl rfl)⟩) (S.fieldAddr rfl (L 12 rfl rfl) Try.underlying42 rfl ti3 rfl rfl) ?_
                refine U.k rfl rfl (.inr ⟨_, _, _, rfl, rfl, (L 1 rfl rfl)⟩) (S.load rfl (L 0 rfl rfl) Try.underlying3 rfl (o295.cell rfl)) nd ?_
                refine U.p rfl rfl (.inr ⟨_, _, _, rfl, rfl, (L 2 rfl rfl)⟩) (S.eqlI rfl (L 0 rfl rfl) K) ?_
                refine U.p rfl rfl (.inr ⟨_, _, _, rfl, rfl, (L 3 rfl rfl)⟩) (S.move rfl (L 0 rfl rfl)) ?_
                refine U.bs (L 0 rfl rfl) (fun g301 => ?_) (fun g301 => ?_)
                ·  -- g301: decide (x237.imm = 1) is true
                  have k302 := of_decide_eq_true g301
                  refine U.x rfl rfl rfl rfl (L 0 rfl rfl) (by decide) ?_
                  refine U.x rfl rfl rfl rfl (L 1 rfl rfl) (by decide) ?_
                  refine U.x rfl rfl rfl rfl (L 2 rfl rfl) (by decide) ?_
                  refine U.p rfl rfl (.inr ⟨_, _, _, rfl, rfl, (L 8 rfl rfl)⟩) (S.pickT rfl (L 3 rfl rfl) K) ?_
                  refine U.p rfl rfl (.inl rfl) (S.pickT rfl (L 9 rfl rfl) (L 0 rfl rfl)) ?_
                  refine U.p rfl rfl (.inl rfl) (S.move rfl (L 0 rfl rfl)) ?_
                  refine U.p (v := .pointer (some ⟨b11_273, 4, none⟩)) rfl rfl (.inr ⟨_, _, _, rfl, rfl, (L 0 rfl rfl)⟩) (S.fieldAddr rfl (L 22 rfl rfl) Try.underlying42 rfl ti3 rfl rfl) ?_
                  refine U.k rfl rfl (.inr ⟨_, _, _, rfl, rfl, (L 1 rfl rfl)⟩) (S.load rfl (L 0 rfl rfl) Try.underlying3 rfl (o296.cell rfl)) nd ?_
                  refine U.p rfl rfl (.inr ⟨_, _, _, rfl, rfl, (L 2 rfl rfl)⟩) (S.eqlI rfl (L 0 rfl rfl) K) ?_
                  refine U.p rfl rfl (.inr ⟨_, _, _, rfl, rfl, (L 3 rfl rfl)⟩) (S.move rfl (L 0 rfl rfl)) ?_
                  refine U.bs (L 0 rfl rfl) (fun g303 => ?_) (fun g303 => ?_)
                  ·  -- g303: decide (x251.imm = 1) is true
                    have k304 := of_decide_eq_true g303
                    refine U.x rfl rfl rfl rfl (L 0 rfl rfl) (by decide) ?_
                    refine U.x rfl rfl rfl rfl (L 1 rfl rfl) (by decide) ?_
                    refine U.x rfl rfl rfl rfl (L 2 rfl rfl) (by decide) ?_
                    refine U.p rfl rfl (.inr ⟨_, _, _, rfl, rfl, (L 8 rfl rfl)⟩) (S.pickT rfl (L 3 rfl rfl) K) ?_
                    refine U.p rfl rfl (.inl rfl) (S.pickT rfl (L 9 rfl rfl) (L 0 rfl rfl)) ?_
                    refine U.done (Nat.le_of_ble_eq_true rfl) ?_
                    refine WP.cond true (L 0 rfl rfl) rfl (fun _ => ?_) (fun h => by cases h)
                    refine WP.usreg rfl ?_
                    refine U.p rfl rfl (.inl rfl) (S.assign rfl K) ?_
                    refine U.done (Nat.le_of_ble_eq_true rfl) ?_
                    refine WP.ret ?_
                    refine blkR (sqR (sqR (blkR (blkR (sqR (sqR (blkR (sqR ?_))))))))
                    refine fin.slot (.inr rfl) rfl (L 0 rfl rfl) ⟨V290, rfl, nx293, ?_⟩
                    exfalso
                    have e1 : ((j : Int) + 1 - 1).toNat = j := by omega
                    have e2 : ((j : Int) + 1).toNat = j + 1 := by omega
                    rw [e1] at hx238
                    rw [e2] at hx252
                    exact adjM hx205 j _ _ hx238 hx252 (by simp [plain, *]) (by simp [plain, *])
                  ·  -- g303: decide (x251.imm = 1) is false
                    have k305 := of_decide_eq_false g303
                    refine U.p (v := .pointer (some ⟨b11_273, 4, none⟩)) rfl rfl (.inr ⟨_, _, _, rfl, rfl, (L 0 rfl rfl)⟩) (S.fieldAddr rfl (L 27 rfl rfl) Try.underlying42 rfl ti3 rfl rfl) ?_
                    refine U.k rfl rfl (.inr ⟨_, _, _, rfl, rfl, (L 1 rfl rfl)⟩) (S.load rfl (L 0 rfl rfl) Try.underlying3 rfl (o296.cell rfl)) nd ?_
                    refine U.p rfl rfl (.inr ⟨_, _, _, rfl, rfl, (L 2 rfl rfl)⟩) (S.eqlI rfl (L 0 rfl rfl) K) ?_
                    refine U.p rfl rfl (.inr ⟨_, _, _, rfl, rfl, (L 8 rfl rfl)⟩) (S.pickF rfl (L 3 rfl rfl) (L 0 rfl rfl)) ?_
                    refine U.p rfl rfl (.inl rfl) (S.pickT rfl (L 9 rfl rfl) (L 0 rfl rfl)) ?_
                    refine U.done (Nat.le_of_ble_eq_true rfl) ?_
                    refine WP.cond _ (L 0 rfl rfl) rfl (fun c306 => ?_) (fun c306 => ?_)
                    ·  -- c306: decide (x251.imm = 2) is true
                      have k307 := of_decide_eq_true c306
                      refine WP.usreg rfl ?_
                      refine U.p rfl rfl (.inl rfl) (S.assign rfl K) ?_
                      refine U.done (Nat.le_of_ble_eq_true rfl) ?_
                      refine WP.ret ?_
                      refine blkR (sqR (sqR (blkR (blkR (sqR (sqR (blkR (sqR ?_))))))))
                      refine fin.slot (.inr rfl) rfl (L 0 rfl rfl) ⟨V290, rfl, nx293, ?_⟩
                      exfalso
                      have e1 : ((j : Int) + 1 - 1).toNat = j := by omega
                      have e2 : ((j : Int) + 1).toNat = j + 1 := by omega
                      rw [e1] at hx238
                      rw [e2] at hx252
                      exact adjM hx205 j _ _ hx238 hx252 (by simp [plain, *]) (by simp [plain, *])
                    ·  -- c306: decide (x251.imm = 2) is false
                      have k308 := of_decide_eq_false c306
                      refine WP.skip ?_
                      refine blkN (sqN ?_)
                      refine WP.ureg rfl ?_
                      refine U.p rfl rfl (.inl rfl) (S.move rfl (L 50 rfl rfl)) ?_
                      refine U.p rfl rfl (.inl rfl) (S.addI rfl (L 0 rfl rfl) K rfl (by omega) (by omega)) ?_
                      refine U.p rfl rfl (.inl rfl) (S.assign rfl (L 0 rfl rfl)) ?_
                      refine U.done (Nat.le_of_ble_eq_true rfl) ?_
                      refine sqN ?_
                      refine ⟨_, _, V290, rfl, ⟨j + 1, rfl, rfl, by omega, (((((le231.trans le268).trans le276).trans le285).trans le292)), nx293, o294⟩, (by omega), allCons ((L 0 rfl rfl).trans (by simp)) (allCons (L 54 rfl rfl) (allCons (L 55 rfl rfl) (allCons (L 56 rfl rfl) (allCons (L 57 rfl rfl) allNil))))⟩
                ·  -- g301: decide (x237.imm = 1) is false
                  have k309 := of_decide_eq_false g301
                  refine U.p (v := .pointer (some ⟨b10_265, 4, none⟩)) rfl rfl (.inr ⟨_, _, _, rfl, rfl, (L 0 rfl rfl)⟩) (S.fieldAddr rfl (L 17 rfl rfl) Try.underlying42 rfl ti3 rfl rfl) ?_
                  refine U.k rfl rfl (.inr ⟨_, _, _, rfl, rfl, (L 1 rfl rfl)⟩) (S.load rfl (L 0 rfl rfl) Try.underlying3 rfl (o295.cell rfl)) nd ?_
                  refine U.p rfl rfl (.inr ⟨_, _, _, rfl, rfl, (L 2 rfl rfl)⟩) (S.eqlI rfl (L 0 rfl rfl) K) ?_
                  refine U.p rfl rfl (.inr ⟨_, _, _, rfl, rfl, (L 8 rfl rfl)⟩) (S.pickF rfl (L 3 rfl rfl) (L 0 rfl rfl)) ?_
                  refine U.p rfl rfl (.inl rfl) (S.pickT rfl (L 9 rfl rfl) (L 0 rfl rfl)) ?_
                  refine U.p rfl rfl (.inl rfl) (S.move rfl (L 0 rfl rfl)) ?_
                  refine U.bs (L 0 rfl rfl) (fun g310 => ?_) (fun g310 => ?_)
                  ·  -- g310: decide (x237.imm = 2) is true
                    have k311 := of_decide_eq_true g310
                    refine U.p (v := .pointer (some ⟨b11_273, 4, none⟩)) rfl rfl (.inr ⟨_, _, _, rfl, rfl, (L 0 rfl rfl)⟩) (S.fieldAddr rfl (L 23 rfl rfl) Try.underlying42 rfl ti3 rfl rfl) ?_
                    refine U.k rfl rfl (.inr ⟨_, _, _, rfl, rfl, (L 1 rfl rfl)⟩) (S.load rfl (L 0 rfl rfl) Try.underlying3 rfl (o296.cell rfl)) nd ?_
                    refine U.p rfl rfl (.inr ⟨_, _, _, rfl, rfl, (L 2 rfl rfl)⟩) (S.eqlI rfl (L 0 rfl rfl) K) ?_
                    refine U.p rfl rfl (.inr ⟨_, _, _, rfl, rfl, (L 3 rfl rfl)⟩) (S.move rfl (L 0 rfl rfl)) ?_
                    refine U.bs (L 0 rfl rfl) (fun g312 => ?_) (fun g312 => ?_)
                    ·  -- g312: decide (x251.imm = 1) is true
                      have k313 := of_decide_eq_true g312
                      refine U.x rfl rfl rfl rfl (L 0 rfl rfl) (by decide) ?_
                      refine U.x rfl rfl rfl rfl (L 1 rfl rfl) (by decide) ?_
                      refine U.x rfl rfl rfl rfl (L 2 rfl rfl) (by decide) ?_
                      refine U.p rfl rfl (.inr ⟨_, _, _, rfl, rfl, (L 8 rfl rfl)⟩) (S.pickT rfl (L 3 rfl rfl) K) ?_
                      refine U.p rfl rfl (.inl rfl) (S.pickT rfl (L 9 rfl rfl) (L 0 rfl rfl)) ?_
                      refine U.done (Nat.le_of_ble_eq_true rfl) ?_
                      refine WP.cond true (L 0 rfl rfl) rfl (fun _ => ?_) (fun h => by cases h)
                      refine WP.usreg rfl ?_
                      refine U.p rfl rfl (.inl rfl) (S.assign rfl K) ?_
                      refine U.done (Nat.le_of_ble_eq_true rfl) ?_
                      refine WP.ret ?_
                      refine blkR (sqR (sqR (blkR (blkR (sqR (sqR (blkR (sqR ?_))))))))
                      refine fin.slot (.inr rfl) rfl (L 0 rfl rfl) ⟨V290, rfl, nx293, ?_⟩
                      exfalso
                      have e1 : ((j : Int) + 1 - 1).toNat = j := by omega
                      have e2 : ((j : Int) + 1).toNat = j + 1 := by omega
                      rw [e1] at hx238
                      rw [e2] at hx252
                      exact adjM hx205 j _ _ hx238 hx252 (by simp [plain, *]) (by simp [plain, *])
                    ·  -- g312: decide (x251.imm = 1) is false
                      have k314 := of_decide_eq_false g312
                      refine U.p (v := .pointer (some ⟨b11_273, 4, none⟩)) rfl rfl (.inr ⟨_, _, _, rfl, rfl, (L 0 rfl rfl)⟩) (S.fieldAddr rfl (L 28 rfl rfl) Try.underlying42 rfl ti3 rfl rfl) ?_
                      refine U.k rfl rfl (.inr ⟨_, _, _, rfl, rfl, (L 1 rfl rfl)⟩) (S.load rfl (L 0 rfl rfl) Try.underlying3 rfl (o296.cell rfl)) nd ?_
                      refine U.p rfl rfl (.inr ⟨_, _, _, rfl, rfl, (L 2 rfl rfl)⟩) (S.eqlI rfl (L 0 rfl rfl) K) ?_
                      refine U.p rfl rfl (.inr ⟨_, _, _, rfl, rfl, (L 8 rfl rfl)⟩) (S.pickF rfl (L 3 rfl rfl) (L 0 rfl rfl)) ?_
                      refine U.p rfl rfl (.inl rfl) (S.pickT rfl (L 9 rfl rfl) (L 0 rfl rfl)) ?_
                      refine U.done (Nat.le_of_ble_eq_true rfl) ?_
                      refine WP.cond _ (L 0 rfl rfl) rfl (fun c315 => ?_) (fun c315 => ?_)
                      ·  -- c315: decide (x251.imm = 2) is true
                        have k316 := of_decide_eq_true c315
                        refine WP.usreg rfl ?_
                        refine U.p rfl rfl (.inl rfl) (S.assign rfl K) ?_
                        refine U.done (Nat.le_of_ble_eq_true rfl) ?_
                        refine WP.ret ?_
                        refine blkR (sqR (sqR (blkR (blkR (sqR (sqR (blkR (sqR ?_))))))))
                        refine fin.slot (.inr rfl) rfl (L 0 rfl rfl) ⟨V290, rfl, nx293, ?_⟩
                        exfalso
                        have e1 : ((j : Int) + 1 - 1).toNat = j := by omega
                        have e2 : ((j : Int) + 1).toNat = j + 1 := by omega
                        rw [e1] at hx238
                        rw [e2] at hx252
                        exact adjM hx205 j _ _ hx238 hx252 (by simp [plain, *]) (by simp [plain, *])
                      ·  -- c315: decide (x251.imm = 2) is false
                        have k317 := of_decide_eq_false c315
                        refine WP.skip ?_
                        refine blkN (sqN ?_)
                        refine WP.ureg rfl ?_
                        refine U.p rfl rfl (.inl rfl) (S.move rfl (L 51 rfl rfl)) ?_
                        refine U.p rfl rfl (.inl rfl) (S.addI rfl (L 0 rfl rfl) K rfl (by omega) (by omega)) ?_
                        refine U.p rfl rfl (.inl rfl) (S.assign rfl (L 0 rfl rfl)) ?_
                        refine U.done (Nat.le_of_ble_eq_true rfl) ?_
                        refine sqN ?_
                        refine ⟨_, _, V290, rfl, ⟨j + 1, rfl, rfl, by omega, (((((le231.trans le268).trans le276).trans le285).trans le292)), nx293, o294⟩, (by omega), allCons ((L 0 rfl rfl).trans (by simp)) (allCons (L 55 rfl rfl) (allCons (L 56 rfl rfl) (allCons (L 57 rfl rfl) (allCons (L 58 rfl rfl) allNil))))⟩
                  ·  -- g310: decide (x237.imm = 2) is false
                    have k318 := of_decide_eq_false g310
                    refine U.x rfl rfl rfl rfl (L 0 rfl rfl) (by decide) ?_
                    refine U.x rfl rfl rfl rfl (L 1 rfl rfl) (by decide) ?_
                    refine U.x rfl rfl rfl rfl (L 2 rfl rfl) (by decide) ?_
                    refine U.x rfl rfl rfl rfl (L 3 rfl rfl) (by decide) ?_
                    refine U.z rfl rfl rfl rfl (L 0 rfl rfl) ?_
                    refine U.z rfl rfl rfl rfl (L 1 rfl rfl) ?_
                    refine U.z rfl rfl rfl rfl (L 2 rfl rfl) ?_
                    refine U.x rfl rfl rfl rfl (L 7 rfl rfl) (by decide) ?_
                    refine U.p rfl rfl (.inl rfl) (S.pickF rfl (L 8 rfl rfl) K) ?_
                    refine U.done (Nat.le_of_ble_eq_true rfl) ?_
                    refine WP.cond false (L 0 rfl rfl) rfl (fun h => by cases h) (fun _ => ?_)
                    refine WP.skip ?_
                    refine blkN (sqN ?_)
                    refine WP.ureg rfl ?_
                    refine U.p rfl rfl (.inl rfl) (S.move rfl (L 50 rfl rfl)) ?_
                    refine U.p rfl rfl (.inl rfl) (S.addI rfl (L 0 rfl rfl) K rfl (by omega) (by omega)) ?_
                    refine U.p rfl rfl (.inl rfl) (S.assign rfl (L 0 rfl rfl)) ?_
                    refine U.done (Nat.le_of_ble_eq_true rfl) ?_
                    refine sqN ?_
                    refine ⟨_, _, V290, rfl, ⟨j + 1, rfl, rfl, by omega, (((((le231.trans le268).trans le276).trans le285).trans le292)), nx293, o294⟩, (by omega), allCons ((L 0 rfl rfl).trans (by simp)) (allCons (L 54 rfl rfl) (allCons (L 55 rfl rfl) (allCons (L 56 rfl rfl) (allCons (L 57 rfl rfl) allNil))))⟩
              ·  -- g299: decide (x251.op = 21) is false
                have k319 := of_decide_eq_false g299
                refine U.x rfl rfl rfl rfl (L 0 rfl rfl) (by decide) ?_
                refine U.x rfl rfl rfl rfl (L 1 rfl rfl) (by decide) ?_
                refine U.x rfl rfl rfl rfl (L 2 rfl rfl) (by decide) ?_
                refine U.x rfl rfl rfl rfl (L 3 rfl rfl) (by decide) ?_
                refine U.z rfl rfl rfl rfl (L 0 rfl rfl) ?_
                refine U.z rfl rfl rfl rfl (L 1 rfl rfl) ?_
                refine U.z rfl rfl rfl rfl (L 2 rfl rfl) ?_
                refine U.x rfl rfl rfl rfl (L 7 rfl rfl) (by decide) ?_
                refine U.p rfl rfl (.inl rfl) (S.pickF rfl (L 8 rfl rfl) K) ?_
                refine U.p rfl rfl (.inl rfl) (S.move rfl (L 0 rfl rfl)) ?_
                refine U.x rfl rfl rfl rfl (L 0 rfl rfl) (by decide) ?_
                refine U.x rfl rfl rfl rfl (L 1 rfl rfl) (by decide) ?_
                refine U.x rfl rfl rfl rfl (L 2 rfl rfl) (by decide) ?_
                refine U.x rfl rfl rfl rfl (L 3 rfl rfl) (by decide) ?_
                refine U.z rfl rfl rfl rfl (L 0 rfl rfl) ?_
                refine U.z rfl rfl rfl rfl (L 1 rfl rfl) ?_
                refine U.z rfl rfl rfl rfl (L 2 rfl rfl) ?_
                refine U.x rfl rfl rfl rfl (L 7 rfl rfl) (by decide) ?_
                refine U.p rfl rfl (.inl rfl) (S.pickF rfl (L 8 rfl rfl) K) ?_
                refine U.done (Nat.le_of_ble_eq_true rfl) ?_
                refine WP.cond false (L 0 rfl rfl) rfl (fun h => by cases h) (fun _ => ?_)
                refine WP.skip ?_
                refine blkN (sqN ?_)
                refine WP.ureg rfl ?_
                refine U.p rfl rfl (.inl rfl) (S.move rfl (L 48 rfl rfl)) ?_
                refine U.p rfl rfl (.inl rfl) (S.addI rfl (L 0 rfl rfl) K rfl (by omega) (by omega)) ?_
                refine U.p rfl rfl (.inl rfl) (S.assign rfl (L 0 rfl rfl)) ?_
                refine U.done (Nat.le_of_ble_eq_true rfl) ?_
                refine sqN ?_
                refine ⟨_, _, V290, rfl, ⟨j + 1, rfl, rfl, by omega, (((((le231.trans le268).trans le276).trans le285).trans le292)), nx293, o294⟩, (by omega), allCons ((L 0 rfl rfl).trans (by simp)) (allCons (L 52 rfl rfl) (allCons (L 53 rfl rfl) (allCons (L 54 rfl rfl) (allCons (L 55 rfl rfl) allNil))))⟩
            ·  -- g297: decide (x237.op = 21) is false
              have k320 := of_decide_eq_false g297
              refine U.x rfl rfl rfl rfl (L 0 rfl rfl) (by decide) ?_
              refine U.x rfl rfl rfl rfl (L 1 rfl rfl) (by decide) ?_
              refine U.x rfl rfl rfl rfl (L 2 rfl rfl) (by decide) ?_
              refine U.p rfl rfl (.inl rfl) (S.pickF rfl (L 3 rfl rfl) K) ?_
              refine U.p rfl rfl (.inl rfl) (S.move rfl (L 0 rfl rfl)) ?_
              refine U.x rfl rfl rfl rfl (L 0 rfl rfl) (by decide) ?_
              refine U.x rfl rfl rfl rfl (L 1 rfl rfl) (by decide) ?_
              refine U.x rfl rfl rfl rfl (L 2 rfl rfl) (by decide) ?_
              refine U.x rfl rfl rfl rfl (L 3 rfl rfl) (by decide) ?_
              refine U.z rfl rfl rfl rfl (L 0 rfl rfl) ?_
              refine U.z rfl rfl rfl rfl (L 1 rfl rfl) ?_
              refine U.z rfl rfl rfl rfl (L 2 rfl rfl) ?_
              refine U.x rfl rfl rfl rfl (L 7 rfl rfl) (by decide) ?_
              refine U.p rfl rfl (.inl rfl) (S.pickF rfl (L 8 rfl rfl) K) ?_
              refine U.p rfl rfl (.inl rfl) (S.move rfl (L 0 rfl rfl)) ?_
              refine U.x rfl rfl rfl rfl (L 0 rfl rfl) (by decide) ?_
              refine U.x rfl rfl rfl rfl (L 1 rfl rfl) (by decide) ?_
              refine U.x rfl rfl rfl rfl (L 2 rfl rfl) (by decide) ?_
              refine U.x rfl rfl rfl rfl (L 3 rfl rfl) (by decide) ?_
              refine U.z rfl rfl rfl rfl (L 0 rfl rfl) ?_
              refine U.z rfl rfl rfl rfl (L 1 rfl rfl) ?_
              refine U.z rfl rfl rfl rfl (L 2 rfl rfl) ?_
              refine U.x rfl rfl rfl rfl (L 7 rfl rfl) (by decide) ?_
              refine U.p rfl rfl (.inl rfl) (S.pickF rfl (L 8 rfl rfl) K) ?_
              refine U.done (Nat.le_of_ble_eq_true rfl) ?_
              refine WP.cond false (L 0 rfl rfl) rfl (fun h => by cases h) (fun _ => ?_)
              refine WP.skip ?_
              refine blkN (sqN ?_)
              refine WP.ureg rfl ?_
              refine U.p rfl rfl (.inl rfl) (S.move rfl (L 47 rfl rfl)) ?_
              refine U.p rfl rfl (.inl rfl) (S.addI rfl (L 0 rfl rfl) K rfl (by omega) (by omega)) ?_
              refine U.p rfl rfl (.inl rfl) (S.assign rfl (L 0 rfl rfl)) ?_
              refine U.done (Nat.le_of_ble_eq_true rfl) ?_
              refine sqN ?_
              refine ⟨_, _, V290, rfl, ⟨j + 1, rfl, rfl, by omega, (((((le231.trans le268).trans le276).trans le285).trans le292)), nx293, o294⟩, (by omega), allCons ((L 0 rfl rfl).trans (by simp)) (allCons (L 51 rfl rfl) (allCons (L 52 rfl rfl) (allCons (L 53 rfl rfl) (allCons (L 54 rfl rfl) allNil))))⟩
          ·  -- c235: decide (((j : Int) + 1) < (x204.code.length : Int)) is false
            have k321 := of_decide_eq_false c235
            refine WP.exit ?_
            refine sqE (sqE (blkE (blkN (sqN ?_))))
            refine WP.ureg rfl ?_
            refine U.p rfl rfl (.inl rfl) (S.addI rfl (L 7 rfl rfl) K rfl (by omega) (by omega)) ?_
            refine U.p rfl rfl (.inl rfl) (S.move rfl (L 0 rfl rfl)) ?_
            refine U.done (Nat.le_of_ble_eq_true rfl) ?_
            refine sqN ?_
            refine ⟨_, _, V229, rfl, ⟨i + 1, rfl, rfl, by omega, ((((le199.trans le221).trans le226).trans le231)), nx230⟩, (by omega), allCons (L 0 rfl rfl) (allCons (L 10 rfl rfl) (allCons (L 11 rfl rfl) allNil))⟩
        ·  -- c202: decide ((i : Int) < ((m.funcs.map (fencedF (⟨o.naive, o.bare, true⟩ : Opt))).length : Int)) is false
          have k322 := of_decide_eq_false c202
          refine WP.exit ?_
          refine sqE (sqE (blkE (sqN ?_)))
          refine WP.usreg rfl ?_
          refine U.p rfl rfl (.inl rfl) (S.assign rfl K) ?_
          refine U.done (Nat.le_of_ble_eq_true rfl) ?_
          refine WP.ret ?_
          refine fin.slot (.inr rfl) rfl (L 0 rfl rfl) ⟨V197, rfl, nx198, ?_⟩
          rfl

end Go.Vm.S12
