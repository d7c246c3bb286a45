/-
  Part of an evaluator for the model, proved sound: no condition.
-/
import Derived.Test.YtngmbcedamphmaaEVm5
set_option linter.unusedSimpArgs false
set_option linter.unusedVariables false
namespace Go.Vm
open Go
theorem growBy_done {need : Nat} : ∀ (r c : Nat), need ≤ c → Builtin.growBy need r c = c
 | 0, _, _ => rfl
 | r + 1, c, h => by simp [Builtin.growBy, h]
theorem growBy_le {need : Nat} : ∀ (r c : Nat), c < need → Builtin.growBy need r c ≤ need + (need + 768) / 4
 | 0, c, h => by simp [Builtin.growBy]; omega
 | r + 1, c, h => by
  simp only [Builtin.growBy]
  rw [if_neg (by omega)]
  by_cases h2 : need ≤ c + (c + 768) / 4
  ·rw [growBy_done _ _ h2]; omega
  ·exact growBy_le r _ (by omega)
theorem nextslicecap_le {need cap : Nat} (h : cap < need) : Builtin.nextslicecap need cap ≤ 2 * need := by
 unfold Builtin.nextslicecap
 split
 ·omega
 ·split
  ·omega
  ·have := growBy_le 4 cap h
   omega
inductive Src (P : Program) (H : AH) (size : Nat) : Value → TypeId → Nat → List Value → Prop
 | nil (t e : TypeId) (hu : P.underlying t = some (.slice e)) : Src P H size (.slice none 0 0) t 0 []
 | slice (t e : TypeId) (b o n c : Nat) (vs : List Value) (hu : P.underlying t = some (.slice e)) (hl : vs.length = n * size) (hc : ∀ (j : Nat) (v : Value), vs[j]? = some v → H.cell b (o + j) = some v) : Src P H size (.slice (some ⟨b, o, none⟩) n c) t n vs
 | str (t : TypeId) (s : ByteArray) (hu : P.underlying t = some .string) (h1 : size = 1) : Src P H size (.string s) t s.size (s.data.toList.map fun b => .int .u8 b.toNat)
theorem Src.sim {P : Program} {H : AH} {size n : Nat} {v u : Value} {t : TypeId} {vs : List Value} {ι : Inj} {w : World} (hr : R ι H w) (h : Src P H size v t n vs) (hv : VR H.lo ι v u) :
  ∃ us : List Value, us.length = vs.length ∧ vs.length = n * size ∧ (∀ (j : Nat) (a b : Value), vs[j]? = some a → us[j]? = some b → VR H.lo ι a b) ∧ (∀ w', (Builtin.lenOf u).run P w' = .ok n w') ∧
   (∀ w' : World, w'.heap = w.heap → (Builtin.firstCells size n u).run P w' = .ok us.toArray w') ∧ (∃ d, P.underlying t = some d ∧ (∀ k, d ≠ .int k)) := by
 cases h with
 | nil t e hu =>
  have := hv.nilS
  subst this
  exact ⟨[], rfl, by simp, fun j a b h => by simp at h, fun _ => rfl, fun _ _ => rfl, _, hu, fun k => by simp⟩
 | str t s hu h1 =>
  have := hv.atom_eq (.string s)
  subst this
  refine ⟨_, rfl, by simp [h1], fun j a b h1 h2 => ?_, fun _ => rfl, fun w' _ => ?_, _, hu, fun k => by simp⟩
  ·rw [h1] at h2
   cases h2
   refine .atom _ ?_
   obtain ⟨x, _, hx⟩ := List.mem_map.1 (List.mem_of_getElem? h1)
   rw [← hx]
   exact .int _ _
  ·have hse : s.extract 0 s.size = s := by
    apply ByteArray.ext
    rw [ByteArray.data_extract]
    exact Array.extract_size
   simp only [Builtin.firstCells, Sem.run_pure, hse]
   congr 1
   apply Array.ext'
   simp
 | slice t e b o n c vs hu hl hc =>
  obtain ⟨l, a', c', hbl, he, h3, h4, h5⟩ := hv.slice_inv
  subst he
  by_cases hn : vs = []
  ·subst hn
   refine ⟨[], rfl, hl, fun j a b h => by simp at h, fun _ => rfl, fun w' _ => ?_, _, hu, fun k => by simp⟩
   have : n * size = 0 := by simpa using hl.symm
   simp [Builtin.firstCells, this, loadCells, loadCellsFrom]
  ·have hn0 : n ≠ 0 := fun e => hn (List.eq_nil_of_length_eq_zero (by rw [hl, e]; simp))
   have ha := h4 (by omega)
   subst ha
   have hex : ∀ j, ∃ v', (∀ v, vs[j]? = some v → w.cell? ⟨l.blk, l.base + (o + j), none⟩ = some v' ∧ VR H.lo ι v v') := fun j => by
    cases hj : vs[j]? with
    | none => exact ⟨undef, fun _ h => by cases h⟩
    | some v => obtain ⟨v', h2, h3⟩ := hr.cell hbl (hc j v hj); exact ⟨v', fun u hu => by cases hu; exact ⟨h2, h3⟩⟩
   obtain ⟨f, hf⟩ := Classical.axiomOfChoice hex
   have hmap : ∀ (j : Nat) (x : Value), ((List.range vs.length).map f)[j]? = some x → j < vs.length ∧ x = f j := fun j x hj => by
    rw [List.getElem?_map] at hj
    by_cases hjl : j < vs.length
    ·rw [List.getElem?_range hjl] at hj
     simp at hj
     exact ⟨hjl, hj.symm⟩
    ·rw [List.getElem?_eq_none (by simpa using hjl)] at hj
     cases hj
   refine ⟨(List.range vs.length).map f, by simp, hl, fun j x y hx hy => ?_, fun _ => rfl, fun w' hw' => ?_, _, hu, fun k => by simp⟩
   ·obtain ⟨h6, rfl⟩ := hmap j y hy
    exact (hf j x hx).2
   ·have hlist : ∀ j v, ((List.range vs.length).map f)[j]? = some v → w'.cell? ((⟨l.blk, l.base + o, none⟩ : Addr).add j) = some v := fun j v hj => by
     obtain ⟨h6, rfl⟩ := hmap j v hj
     rw [add_none, Nat.add_assoc]
     have := (hf j vs[j] (List.getElem?_eq_getElem h6)).1
     simp only [World.cell?, hw'] at this ⊢
     exact this
    have hrun := run_loadCells_list (P := P) w' ⟨l.blk, l.base + o, none⟩ _ hlist
    simp only [List.length_map, List.length_range] at hrun
    simp [Builtin.firstCells, ← hl, hrun]
inductive Dst (H : AH) (size : Nat) : Value → Nat → List Value → AH → Prop
 | nil : Dst H size (.slice none 0 0) 0 [] H
 | slice (b o n : Nat) (c : List Value) (hlo : H.lo ≤ b) (hg : H.get b = some (.cells size c)) (hl : c.length = o + n * size) : Dst H size (.slice (some ⟨b, o, none⟩) n size) n (c.drop o) (H.upd b none)
inductive AppOp (P : Program) (ρ : Operand → Value) (H : AH) (o : Oper) : MRes → AH → Prop
 | idle (x y : Operand) (t t' e : TypeId) (i : TypeInfo) (ho : o.op = .call { callee := .builtin .append, args := #[x, y], argTypes := #[t, t'] }) (hu : P.underlying t = some (.slice e)) (hi : P.info? e = some i)
   (hx : (∃ b off n c, ρ x = .slice (some ⟨b, off, none⟩) n c) ∨ ρ x = .slice none 0 0) (hs : Src P H i.size (ρ y) t' 0 []) : AppOp P ρ H o (.val (ρ x)) H
 | put (x y : Operand) (t t' e : TypeId) (i : TypeInfo) (z : Value) (len n : Nat) (old vs : List Value) (H1 : AH) (ho : o.op = .call { callee := .builtin .append, args := #[x, y], argTypes := #[t, t'] })
   (hu : P.underlying t = some (.slice e)) (hi : P.info? e = some i) (hz : i.zero = some z) (hzs : z.cells.size = i.size) (hs : Src P H i.size (ρ y) t' n vs) (hd : Dst H i.size (ρ x) len old H1) (hn : n ≠ 0)
   (h1 : ∀ v ∈ vs, One v = true) (hb : (len + n) * i.bytes ≤ 2 ^ 47) (hb2 : len + n < 2 ^ 60) (hi0 : i.size ≠ 0) :
   AppOp P ρ H o (.val (.slice (some ⟨H.next, 0, none⟩) (len + n) i.size)) (H1.new (.cells i.size (old ++ vs)))
 | bytes (x : Operand) (t t' e : TypeId) (d : TypeDesc) (st : ByteArray) (ho : o.op = .convert t t' x) (hx : ρ x = .string st) (hs : P.underlying t = some d) (hu : P.underlying t' = some (.slice e)) (he : P.underlying e = some (.int .u8)) :
   AppOp P ρ H o (.val (.slice (some ⟨H.next, 0, none⟩) st.size 1)) (H.new (.cells 1 (st.data.toList.map fun b => .int .u8 b.toNat)))
 | mark (x : Operand) (t e : TypeId) (b off n c esz : Nat) (cs : List Value) (ho : o.op = .convert t t x) (hx : ρ x = .slice (some ⟨b, off, none⟩) n c) (hu : P.underlying t = some (.slice e)) (he : P.underlying e = some (.int .u8)) (hlo : H.lo ≤ b) (hg : H.get b = some (.cells esz cs)) (hn : n ≠ 0) :
   AppOp P ρ H o (.val (ρ x)) (H.upd b (some (.cells esz cs)))
theorem run_lenless {P : Program} {t' : TypeId} {d : TypeDesc} (hd : P.underlying t' = some d) (hk : ∀ k, d ≠ .int k) (w : World) :
  ((do pure ((← underlying t') matches .int _) : Sem Bool)).run P w = .ok false w := by
 simp only [Sem.run_bind, run_und hd, Result.andThen_ok, Sem.run_pure]
theorem zeroCells_size (z : Array Value) (n : Nat) : (Builtin.zeroCells z n).size = n * z.size := by simp [Builtin.zeroCells]
theorem firstCells_cells {P : Program} {w : World} {blk off size len c : Nat} {cs : Array Value} {elem : TypeId} {fr : Nat × Nat} {a : Addr} (hg : w.heap[blk]? = some (.cells cs elem fr))
  (ha : len * size ≠ 0 → a = ⟨blk, off, none⟩) (hb : off + len * size ≤ cs.size) : (Builtin.firstCells size len (.slice (some a) len c)).run P w = .ok ((cs.toList.drop off).take (len * size)).toArray w := by
 by_cases h0 : len * size = 0
 ·simp [Builtin.firstCells, h0, loadCells, loadCellsFrom]
 ·have ha := ha h0
  subst ha
  have hl : ((cs.toList.drop off).take (len * size)).length = len * size := by simp; omega
  have := run_loadCells_list (P := P) w ⟨blk, off, none⟩ ((cs.toList.drop off).take (len * size)) (fun j v hj => by
   rw [add_none]
   rw [List.getElem?_take] at hj
   split at hj
   ·rw [List.getElem?_drop, Array.getElem?_toList] at hj
    simp [World.cell?, hg, hj]
   ·cases hj)
  rw [hl] at this
  simp only [Builtin.firstCells, this]
theorem push_modify (h : Array Obj) (o : Obj) (f : Obj → Obj) : (h.push o).modify h.size f = h.push (f o) := by
 apply Array.ext
 ·simp
 ·intro j h1 h2
  rw [Array.getElem_modify]
  by_cases hj : h.size = j
  ·subst hj; simp
  ·rw [if_neg hj]
   have : j < h.size := by simp at h2; omega
   rw [Array.getElem_push_lt this, Array.getElem_push_lt this]
theorem AppOp.sim {P : Program} {ρ σ : Operand → Value} {H H' : AH} {o : Oper} {m : MRes} {ι : Inj} {w : World} (hr : R ι H w) (h : AppOp P ρ H o m H')
  (hv : ∀ x ∈ o.op.operands, VR H.lo ι (ρ x) (σ x)) : ∃ m' ι' w', MRes.rel H.lo ι' m m' ∧ After ι H H' w w' ι' ∧ (execOp σ o).run P w = .ok m'.next w' := by
 cases h with
 | idle x y t t' e i ho hu hi hx hs =>
  have h1 := hv x (by simp [ho, Op.operands, Call.operands])
  have h2 := hv y (by simp [ho, Op.operands, Call.operands])
  obtain ⟨us, h3, h4, h5, h6, h7, d, h8, h9⟩ := hs.sim hr h2
  have hus : us = [] := List.eq_nil_of_length_eq_zero (by rw [h3]; rfl)
  subst hus
  have h10 := run_lenless h8 h9 w
  refine ⟨.val (σ x), ι, w, h1, ⟨NN.refl _ _ _, hr, Fr.refl _ _ _⟩, ?_⟩
  have hxs : ∃ a n c, σ x = .slice a n c ∧ n ≤ c := by
   rcases hx with ⟨b, off, n, c, hx⟩ | hx
   ·rw [hx] at h1
    obtain ⟨l, a', c', _, he, h3, _⟩ := h1.slice_inv
    exact ⟨_, _, _, he, h3⟩
   ·rw [hx] at h1
    exact ⟨_, _, _, h1.nilS, Nat.le_refl _⟩
  obtain ⟨a, n, c, he, hnc⟩ := hxs
  have h11 := h6 w
  have h12 := h7 w rfl
  simp only [Sem.run_bind, run_und h8, Result.andThen_ok, Sem.run_pure] at h10
  cases a with
  | none => simp [execOp, ho, resolve, invoke, builtin, Builtin.append_, run_und hu, he, run_siz hi, run_und h8, h10, h11, h12, hnc, MRes.next]
  | some a => simp [execOp, ho, resolve, invoke, builtin, Builtin.append_, run_und hu, he, run_siz hi, run_und h8, h10, h11, h12, hnc, MRes.next, storeCells]
 | put x y t t' e i z len n old vs H1 ho hu hi hz hzs hs hd hn h1 hb hb2 hi0 =>
  have hx1 := hv x (by simp [ho, Op.operands, Call.operands])
  generalize ρ x = X at hd hx1
  have hy1 := hv y (by simp [ho, Op.operands, Call.operands])
  obtain ⟨us, h3, h4, h5, h6, h7, d, h8, h9⟩ := hs.sim hr hy1
  have h10 := run_lenless h8 h9 w
  simp only [Sem.run_bind, run_und h8, Result.andThen_ok, Sem.run_pure] at h10
  have hvu : ∀ (j : Nat) (a : Value), vs[j]? = some a → ∃ b, us[j]? = some b ∧ VR H.lo ι a b := fun j a hj => by
   have h11 : j < us.length := by rw [h3]; exact (List.getElem?_eq_some_iff.1 hj).1
   exact ⟨_, List.getElem?_eq_getElem h11, h5 j _ _ hj (List.getElem?_eq_getElem h11)⟩
  have hone : ∀ u ∈ us, One u = true := fun u hu => by
   obtain ⟨j, hj⟩ := List.getElem?_of_mem hu
   have h11 : j < vs.length := by rw [← h3]; exact (List.getElem?_eq_some_iff.1 hj).1
   exact (h5 j _ _ (List.getElem?_eq_getElem h11) hj).one (h1 _ (List.getElem_mem h11))
  have hlo : H1.lo = H.lo := by cases hd <;> rfl
  have hnx : H1.next = H.next := by cases hd <;> rfl
  -- the heap without the old block still lies in the world
  have hr1 : R ι H1 w := by
   cases hd with
   | nil => exact hr
   | slice b o n c hlo hg hl =>
    refine ⟨fun b' l' o' hb' hg' => ?_, fun b1 b2 l1 l2 hb1 hb2 hg1 hg2 he => ?_, hr.dom, fun b' hb' => ?_⟩
    ·by_cases hbb : b' = b
     ·subst hbb; simp [AH.upd] at hg'
     ·simp [AH.upd, hbb] at hg'
      exact hr.obj b' l' o' hb' hg'
    ·have key : ∀ b', (H.upd b none).get b' ≠ none → H.get b' ≠ none := fun b' h => by
      by_cases hbb : b' = b
      ·subst hbb; simp [AH.upd] at h
      ·simpa [AH.upd, hbb] using h
     exact hr.inj b1 b2 l1 l2 hb1 hb2 (key _ hg1) (key _ hg2) he
    ·obtain ⟨l', h20, h21, h22, h23⟩ := hr.low b' hb'
     have hb' : b' < H.lo := hb'
     have hbb : b' ≠ b := by omega
     exact ⟨l', h20, h21, h22, fun e c hg' => h23 e c (by simpa [AH.upd, hbb] using hg')⟩
  have hnn1 : NN ι ι H H1 w := by
   refine ⟨ι.le_refl, fun _ _ h => .inl h, by omega, hlo, fun b hb hd' => ?_, fun b h1 h2 => by omega⟩
   cases hd with
   | nil => exact hd'
   | slice b' o n c hlo hg hl =>
    by_cases hbb : b = b'
    ·subst hbb; simp [AH.upd]
    ·simpa [AH.upd, hbb] using hd'
  have hfr : ∀ w', Fr ι H1 w w' → Fr ι H w w' := fun w' h => ⟨h.1, fun c hc hdd => h.2.1 c hc (fun b l hb hl hl2 => hnn1.dead b (hr.dom b l hb).1 (hdd b l hb hl (hlo ▸ hl2))), h.2.2⟩
  -- what the old slice is in the machine
  have hold : ∃ a c' cs elem fr blk base csz, σ x = .slice a len c' ∧ len ≤ c' ∧ (a = none → len = 0 ∧ c' = 0 ∧ old = []) ∧
    (∀ a0, a = some a0 → (c' ≠ 0 → a0 = ⟨blk, base, none⟩) ∧ w.heap[blk]? = some (.cells cs elem fr) ∧ cs.size = csz ∧ base + len * i.size ≤ cs.size ∧ (c' ≠ 0 → base + c' * i.size ≤ csz) ∧ (fr.1 = fr.2 ∨ cs.size ≤ fr.1) ∧
     old.length = len * i.size ∧ (∀ (j : Nat) (v : Value), old[j]? = some v → ∃ v', cs[base + j]? = some v' ∧ VR H.lo ι v v') ∧ ∃ b l, ι b = some l ∧ l.blk = blk ∧ H.lo ≤ b ∧ H.get b ≠ none ∧ H1 = H.upd b none) := by
   cases hd with
   | nil =>
    exact ⟨none, 0, #[], 0, (0, 0), 0, 0, 0, hx1.nilS, Nat.le_refl _, fun _ => ⟨rfl, rfl, rfl⟩, fun a0 h => by cases h⟩
   | slice b o n c hblo hg hl =>
    obtain ⟨l, a', c', hbl, he, h11, h12, h13⟩ := hx1.slice_inv
    obtain ⟨cs, elem, fr, h14, h15, h16, h17, h18, h19⟩ := hr.obj b l _ hbl hg
    obtain ⟨h20, h21⟩ := h13 hblo
    refine ⟨some a', c', cs, elem, fr, l.blk, l.base + o, l.csz, he, h11, (fun h => by cases h), fun a0 ha0 => ?_⟩
    cases ha0
    refine ⟨h12, h14, h15, by rw [hl] at h17; omega, fun hne => by have := h21 hne; rw [h16] at this; omega, h19 hblo, by simp [hl], fun j v hj => ?_, b, l, hbl, rfl, hblo, by rw [hg]; simp, rfl⟩
    rw [List.getElem?_drop] at hj
    obtain ⟨v', h22, h23⟩ := h18 _ _ hj
    exact ⟨v', by rw [Nat.add_assoc]; exact h22, h23⟩
  obtain ⟨a, c', cs, elem, fr, blk, base, csz, he, hlc, hnone, hsome⟩ := hold
  have holdlen : old.length = len * i.size := by
   cases a with
   | none => obtain ⟨h11, _, h12⟩ := hnone rfl; simp [h11, h12]
   | some a0 => exact (hsome a0 rfl).2.2.2.2.2.2.1
  have hvl : (old ++ vs).length = (len + n) * i.size := by rw [List.length_append, holdlen, h4, Nat.add_mul]
  by_cases hroom : len + n ≤ c'
  ·-- in place
   cases a with
   | none => obtain ⟨h11, h12, _⟩ := hnone rfl; omega
   | some a0 =>
    obtain ⟨ha0, hg, hcs, hbd, hcap, hfz, _, hov, b, l, hbl, hlb, hblo, hbne, hH1⟩ := hsome a0 rfl
    have ha0 := ha0 (by omega)
    subst ha0
    have hcap := hcap (by omega)
    have hmul : (len + n) * i.size ≤ c' * i.size := Nat.mul_le_mul_right _ hroom
    have hmul2 : (len + n) * i.size = len * i.size + n * i.size := Nat.add_mul _ _ _
    obtain ⟨w', h12, h13, h14, ⟨cs', h15, h16⟩, henv⟩ := run_store_row (P := P) hg (base + len * i.size) us (by rw [h3, h4]; omega) (unfz hg hfz) hone
    have hsp : base + len * i.size + us.length ≤ cs.toList.length := by rw [h3, h4]; simp; omega
    have hcs' : cs'.size = cs.size := by
     have : cs'.toList.length = cs.toList.length := by rw [h16]; exact splice_length hsp
     simpa using this
    let L : Loc := ⟨blk, base, i.size, csz⟩
    have hle := hr1.ext_le L
    rw [hnx] at hle
    have hbn : ∀ b' l', ι b' = some l' → b' ≠ H.next := fun b' l' hb' => by have := (hr.dom b' l' hb').1; omega
    have hblk : ∀ b' l', ι b' = some l' → H1.get b' ≠ none → l'.blk ≠ blk := fun b' l' hb' hg' hc => by
     have h20 : b' ≠ b := fun e => hg' (by rw [hH1, e]; simp [AH.upd])
     have h21 : H.get b' ≠ none := fun e => hg' (by rw [hH1]; simp [AH.upd, h20, e])
     exact h20 (hr.inj b' b l' l hb' hbl h21 hbne (hc.trans hlb.symm))
    refine ⟨.val (.slice (some ⟨blk, base, none⟩) (len + n) c'), ι.ext H.next L, w', ?_, ⟨?_, ⟨?_, ?_, ?_, ?_⟩, ?_⟩, ?_⟩
    ·refine .slice _ 0 _ _ L _ c' Inj.ext_self hroom (fun _ => rfl) (fun _ => ⟨rfl, fun _ => ?_⟩)
     simp only [L, Nat.add_zero]
     exact hcap
    ·refine ⟨hle, fun b' l' hb' => ?_, by simp [AH.new, hnx], hlo, fun b' hb' hd' => ?_, fun b' h1 h2 => ⟨L, by rw [show b' = H.next from eq_next (H := H1) (hnx ▸ h1) h2 ▸ hnx]; exact Inj.ext_self⟩⟩
     ·by_cases hbn' : b' = H.next
      ·subst hbn'
       rw [Inj.ext_self] at hb'
       cases hb'
       exact .inr ⟨Nat.le_refl _, by simp [AH.new, hnx], .inr ⟨b, l, hbl, hblo, hbne, hlb⟩⟩
      ·rw [Inj.ext_ne hbn'] at hb'
       exact .inl hb'
     ·have : b' ≠ H.next := by omega
      simp [AH.new, hnx, this, hnn1.dead b' hb' hd']
    ·intro b' l' o' hb' hg'
     by_cases hbn' : b' = H.next
     ·subst hbn'
      rw [Inj.ext_self] at hb'
      cases hb'
      simp [AH.new, hnx] at hg'
      subst hg'
      refine ⟨cs', elem, fr, h15, hcs'.trans hcs, rfl, by rw [hvl, hcs']; simp only [L]; omega, fun q v hq => ?_, fun _ => ?_⟩
      ·rw [← Array.getElem?_toList, h16, splice_get hsp]
       simp only [L]
       by_cases hqo : q < old.length
       ·rw [List.getElem?_append_left hqo] at hq
        obtain ⟨v', h20, h21⟩ := hov q v hq
        rw [if_neg (by omega), Array.getElem?_toList]
        exact ⟨v', h20, hlo.symm ▸ h21.mono hle⟩
       ·rw [List.getElem?_append_right (by omega)] at hq
        obtain ⟨v', h20, h21⟩ := hvu _ _ hq
        have := (List.getElem?_eq_some_iff.1 h20).1
        rw [if_pos (by omega)]
        refine ⟨v', ?_, hlo.symm ▸ h21.mono hle⟩
        rw [← h20]
        congr 1
        omega
      ·rw [hcs']; exact hfz
     ·rw [Inj.ext_ne hbn'] at hb'
      simp [AH.new, hnx, hbn'] at hg'
      exact (hr1.obj b' l' o' hb' hg').keep hle (h14 _ (hblk b' l' hb' (by rw [hg']; simp)))
    ·intro b1 b2 l1 l2 hb1 hb2 hg1 hg2 hee
     by_cases hbn1 : b1 = H.next <;> by_cases hbn2 : b2 = H.next
     ·exact hbn1.trans hbn2.symm
     ·subst hbn1
      rw [Inj.ext_self] at hb1
      cases hb1
      rw [Inj.ext_ne hbn2] at hb2
      simp [AH.new, hnx, hbn2] at hg2
      exact absurd hee.symm (hblk b2 l2 hb2 hg2)
     ·subst hbn2
      rw [Inj.ext_self] at hb2
      cases hb2
      rw [Inj.ext_ne hbn1] at hb1
      simp [AH.new, hnx, hbn1] at hg1
      exact absurd hee (hblk b1 l1 hb1 hg1)
     ·rw [Inj.ext_ne hbn1] at hb1
      rw [Inj.ext_ne hbn2] at hb2
      simp [AH.new, hnx, hbn1] at hg1
      simp [AH.new, hnx, hbn2] at hg2
      exact hr1.inj b1 b2 l1 l2 hb1 hb2 hg1 hg2 hee
    ·intro b' l' hb'
     by_cases hbn' : b' = H.next
     ·subst hbn'
      rw [Inj.ext_self] at hb'
      cases hb'
      have := (hr.dom b l hbl).2
      simp [AH.new, hnx, L, h13]
      omega
     ·rw [Inj.ext_ne hbn'] at hb'
      have := hr.dom b' l' hb'
      simp [AH.new, hnx, h13]
      omega
    ·intro b' hb'
     obtain ⟨l', h20, h21, h22, h23⟩ := hr1.low b' hb'
     have hbn' : b' ≠ H.next := by have := (hr1.dom b' l' h20).1; omega
     exact ⟨l', hle _ _ h20, h21, h22, fun e c hg' => h23 e c (by simpa [AH.new, hnx, hbn'] using hg')⟩
    ·exact ⟨by omega, fun c hc hdd => h14 c (fun e => hbne (hdd b l hbl (hlb.trans e.symm) hblo)), henv⟩
    ·have h30 := h7 w rfl
     have h31 := h6 w
     have hst : (storeCells ((⟨blk, base, none⟩ : Addr).add (len * i.size)) us).run P w = .ok () w' := by rw [add_none]; exact h12
     simp [execOp, ho, resolve, invoke, builtin, Builtin.append_, run_und hu, he, run_siz hi, run_und h8, h10, h30, h31, hroom, hst, MRes.next]
  ·-- a new row
   let w1 : World := { w with drawn := w.drawn + 1 }
   let q : Question := .appendCap (len + n) c' e
   let nc := q.cut (w.tape w.drawn q)
   have hnc : len + n ≤ nc := by simp [nc, q, Question.cut]
   have holdc : ∃ os : List Value, os.length = len * i.size ∧ (∀ (j : Nat) (a : Value), old[j]? = some a → ∃ b, os[j]? = some b ∧ VR H.lo ι a b) ∧ (Builtin.firstCells i.size len (σ x)).run P w1 = .ok os.toArray w1 := by
    cases a with
    | none =>
     obtain ⟨h11, _, h12⟩ := hnone rfl
     subst h11 h12
     exact ⟨[], by simp, fun j a h => by simp at h, by rw [he]; rfl⟩
    | some a0 =>
     obtain ⟨ha0, hg, hcs, hbd, hcap, hfz, h20, hov, b, l, hbl, hlb, hblo, hbne, hH1⟩ := hsome a0 rfl
     refine ⟨(cs.toList.drop base).take (len * i.size), by simp; omega, fun j v hj => ?_, ?_⟩
     ·obtain ⟨v', h21, h22⟩ := hov j v hj
      have := (List.getElem?_eq_some_iff.1 hj).1
      refine ⟨v', ?_, h22⟩
      rw [List.getElem?_take_of_lt (by omega), List.getElem?_drop, Array.getElem?_toList]
      exact h21
     ·rw [he]
      exact firstCells_cells (w := w1) hg (fun hne => ha0 (fun hc => by
       have : len = 0 := by omega
       rw [this] at hne
       simp at hne)) hbd
   obtain ⟨os, h11, h12, h13⟩ := holdc
   let row : Array Value := os.toArray ++ us.toArray ++ Builtin.zeroCells z.cells (nc - (len + n))
   have hrow : row.size = nc * i.size := by
    have e1 : nc = len + n + (nc - (len + n)) := by omega
    rw [e1]
    simp only [row, Array.size_append, List.size_toArray, zeroCells_size, h11, h3, h4, hzs, Nat.add_mul]
   let L : Loc := ⟨w.heap.size, 0, i.size, nc * i.size⟩
   have hxr : ObjRel H1.lo (ι.ext H1.next L) H1.next L (push w1 (.cells row e)) (.cells i.size (old ++ vs)) := by
    refine ObjRel.row (w := w) (fr := (0, 0)) rfl rfl rfl rfl hrow.symm (by rw [hvl, hrow]; exact Nat.mul_le_mul_right _ hnc) (.inl rfl) (fun j v hj => ?_)
    have hle := hr1.ext_le L
    by_cases hjo : j < old.length
    ·rw [List.getElem?_append_left hjo] at hj
     obtain ⟨b, h21, h22⟩ := h12 j v hj
     refine ⟨b, ?_, (hlo.symm ▸ h22).mono hle⟩
     simp only [row]
     rw [Array.append_assoc, Array.getElem?_append_left (by simp; omega)]
     simpa using h21
    ·rw [List.getElem?_append_right (by omega)] at hj
     obtain ⟨b, h21, h22⟩ := hvu _ _ hj
     refine ⟨b, ?_, (hlo.symm ▸ h22).mono hle⟩
     have := (List.getElem?_eq_some_iff.1 h21).1
     simp only [row]
     rw [Array.getElem?_append_left (by simp; omega), Array.getElem?_append_right (by simp; omega)]
     rw [← h21]
     simp only [List.size_toArray, List.getElem?_toArray]
     congr 1
     omega
   obtain ⟨h21, h22, h23⟩ := hr1.new' (w' := push w1 (.cells row e)) (y := .cells row e) (l := L) rfl rfl ⟨rfl, rfl, rfl⟩ hxr
   have hval : VR H.lo (ι.ext H1.next L) (.slice (some ⟨H.next, 0, none⟩) (len + n) i.size) (.slice (some ⟨w.heap.size, 0, none⟩) (len + n) nc) := by
    have hs : ι.ext H1.next L H.next = some L := by rw [hnx]; exact Inj.ext_self
    exact .slice H.next 0 (len + n) i.size L ⟨w.heap.size, 0, none⟩ nc hs hnc (fun _ => rfl) (fun _ => ⟨rfl, fun _ => by simp [L]⟩)
   refine ⟨.val (.slice (some ⟨w.heap.size, 0, none⟩) (len + n) nc), ι.ext H1.next L, push w1 (.cells row e), hval, ⟨hnn1.trans hr h22 (Nat.le_refl _), h21, hfr _ h23⟩, ?_⟩
   have hcap : Builtin.nextslicecap (len + n) c' * i.bytes ≤ 281474976710656 := by
    have h30 := nextslicecap_le (need := len + n) (cap := c') (by omega)
    have h31 : Builtin.nextslicecap (len + n) c' * i.bytes ≤ 2 * (len + n) * i.bytes := Nat.mul_le_mul_right _ h30
    have h32 : 2 * (len + n) * i.bytes = 2 * ((len + n) * i.bytes) := Nat.mul_assoc _ _ _
    omega
   have hcap2 : ¬ (281474976710656 < Builtin.nextslicecap (len + n) c' * i.bytes) := by omega
   have hmax : ¬ (9223372036854775807 < (len : Int) + n) := by omega
   have hforced : (Question.appendCap (len + n) c' e).forced = false := rfl
   have h30 : (Builtin.firstCells i.size n (σ y)).run P w.drew = .ok us.toArray w.drew := h7 w1 rfl
   have h31 := h6 w
   have hzz : ∀ w', (zeroValue e).run P w' = .ok z w' := fun w' => by simp [zeroValue, typeInfo, hi, hz]
   rw [he] at h13
   have h13 : (Builtin.firstCells i.size len (.slice a len c')).run P w.drew = .ok os.toArray w.drew := h13
   simp [execOp, ho, resolve, invoke, builtin, Builtin.append_, run_und hu, he, run_siz hi, run_und h8, h10, h31, hroom, MRes.next, typeInfo, hi, hmax, hcap2, hforced, hzz, h13, h30, newRow]
   refine ⟨rfl, ?_⟩
   rw [← Array.append_assoc]
   rfl
 | bytes x t t' e d st ho hx hs hu hee =>
  have h1 := hv x (by simp [ho, Op.operands])
  rw [hx] at h1
  have h2 := h1.atom_eq (.string st)
  let w1 : World := { w with drawn := w.drawn + 1 }
  let q : Question := .appendCap st.size 0 e
  let nc := q.cut (w.tape w.drawn q)
  have hnc : st.size ≤ nc := by simp [nc, q, Question.cut]
  let row : Array Value := (st.data.map fun b => Value.int .u8 b.toNat) ++ Array.replicate (nc - st.size) (.int .u8 0)
  have hds : st.data.size = st.size := rfl
  have hrow : row.size = nc := by simp [row, hds]; omega
  let w' : World := { w1 with heap := w.heap.push (.cells row e (row.size, row.size + 1)) }
  let L : Loc := ⟨w.heap.size, 0, 1, nc⟩
  have hxr : ObjRel H.lo (ι.ext H.next L) H.next L w' (.cells 1 (st.data.toList.map fun b => .int .u8 b.toNat)) := by
   refine ObjRel.row (w := w) (fr := (row.size, row.size + 1)) rfl rfl rfl rfl hrow.symm (by rw [hrow]; simp [hds]; exact hnc) (.inr rfl) (fun j v hj => ⟨v, ?_, .atom _ ?_⟩)
   ·have hjl := (List.getElem?_eq_some_iff.1 hj).1
    simp only [row]
    rw [Array.getElem?_append_left (by simpa using hjl)]
    simpa using hj
   ·obtain ⟨y, _, hy⟩ := List.mem_map.1 (List.mem_of_getElem? hj)
    rw [← hy]
    exact .int _ _
  obtain ⟨h21, h22, h23⟩ := hr.new' (w' := w') (y := .cells row e (row.size, row.size + 1)) (l := L) rfl rfl ⟨rfl, rfl, rfl⟩ hxr
  have hval : VR H.lo (ι.ext H.next L) (.slice (some ⟨H.next, 0, none⟩) st.size 1) (.slice (some ⟨w.heap.size, 0, none⟩) st.size nc) :=
   .slice H.next 0 st.size 1 L ⟨w.heap.size, 0, none⟩ nc Inj.ext_self hnc (fun _ => rfl) (fun _ => ⟨rfl, fun _ => by simp [L]⟩)
  refine ⟨.val (.slice (some ⟨w.heap.size, 0, none⟩) st.size nc), ι.ext H.next L, w', hval, ⟨h22, h21, h23⟩, ?_⟩
  have hforced : (Question.appendCap st.size 0 e).forced = false := rfl
  have hw : (push w1 (.cells row e)).freeze { block := w.heap.size, off := row.size } 1 = w' := by
   simp only [World.freeze, push, w', w1]
   rw [if_neg (by decide), push_modify]
   simp
  simp [execOp, ho, h2, convert, run_und hs, run_und hu, run_und hee, Conv.stringToBytes, hforced, newRow, markStringish, MRes.next]
  have hw2 : (w.drew.alloc (.cells row e)).freeze ⟨w.heap.size, row.size, none⟩ 1 = w' := hw
  have hsh : (w.drew.alloc (.cells row e)).shape? w.heap.size = some (e, row.size) := by
   show World.shape? (push w1 (.cells row e)) w.heap.size = _
   simp [World.shape?, push, w1]
  show (((Sem.run P (match (w.drew.alloc (.cells row e)).shape? w.heap.size with | some (_, n) => freeze { block := w.heap.size, off := n } 1 | _ => pure ()) (w.drew.alloc (.cells row e))).andThen fun _ w' => Result.ok (Value.slice (some ⟨w.heap.size, 0, none⟩) st.size nc) w').andThen fun a w' => Result.ok (Next.value a) w') = _
  rw [hsh]
  show ((Result.ok () ((w.drew.alloc (.cells row e)).freeze ⟨w.heap.size, row.size, none⟩ 1)).andThen _).andThen _ = _
  rw [hw2]
  rfl
 | mark x t e b off n c esz cs ho hx hu hee hlo hg hn =>
  have h1 := hv x (by simp [ho, Op.operands])
  have h1' := h1
  rw [hx] at h1
  obtain ⟨l, a', c', hbl, he', h3, h4, _⟩ := h1.slice_inv
  have ha := h4 (by omega)
  subst ha
  obtain ⟨ms, elem, fr, h6, h7, h8, h9, h10, h11⟩ := hr.obj b l _ hbl hg
  obtain ⟨f1, f2⟩ := fr
  let fr' : Nat × Nat := if f1 == f2 then (ms.size, ms.size + 1) else (min f1 ms.size, max f2 (ms.size + 1))
  have hlt : l.blk < w.heap.size := (hr.dom b l hbl).2
  have hfr : fr'.1 = fr'.2 ∨ ms.size ≤ fr'.1 := by
   have := h11 hlo
   simp only [fr']
   split
   ·exact .inr (Nat.le_refl _)
   ·rename_i hne
    simp at hne this
    refine .inr ?_
    simp
    omega
  let w' : World := w.freeze ⟨l.blk, ms.size, none⟩ 1
  have hw1 : w'.heap[l.blk]? = some (.cells ms elem fr') := by
   simp only [w', World.freeze]
   rw [if_neg (by decide)]
   simp [Array.getElem?_modify, h6, fr']
  have hoth : ∀ c, c ≠ l.blk → w'.heap[c]? = w.heap[c]? := fun c hc => by
   simp only [w', World.freeze]
   rw [if_neg (by decide)]
   simp [Array.getElem?_modify, Ne.symm hc]
  have hsz : w'.heap.size = w.heap.size := by
   simp only [w', World.freeze]
   rw [if_neg (by decide)]
   simp
  have henv : Env w w' := by
   simp only [w', World.freeze]
   rw [if_neg (by decide)]
   exact ⟨rfl, rfl, rfl⟩
  obtain ⟨h17, h18, h19⟩ := hr.write (w' := w') (x := .cells esz cs) hbl hlo (by rw [hg]; simp) hsz hoth henv ⟨ms, elem, fr', hw1, h7, h8, h9, h10, fun _ => hfr⟩
  refine ⟨.val (σ x), ι, w', h1', ⟨h18, h17, h19⟩, ?_⟩
  have hsh : w.shape? l.blk = some (elem, ms.size) := by simp [World.shape?, h6]
  simp [execOp, ho, he', convert, run_und hu, run_und hee, markStringish, hsh, MRes.next]
  rfl
end Go.Vm
