/-
  Part of an evaluator for the model, proved sound: no condition.
-/
import Derived.Test.YtngmbcedamphmaaESp2
set_option linter.unusedSimpArgs false
set_option linter.unusedVariables false
namespace Go.Vm
open Go
section
variable {P : Program} {C : CallRel} {o : Oper} {t : T} {H : AH} {As : List At} {k : Nat}
theorem S.sliceNil {ty e : TypeId} {x : Operand} {xl xh xm : Option Operand} {kk : IntKind} (ho : o.op = .slice ty x xl xh xm) (hx : aev t x = .slice none 0 0) (hu : P.underlying ty = some (.slice e)) {z : Value} {n m : Nat} (hi : tinfo P e z n m)
  (hl : xl = none ∨ ∃ y k, xl = some y ∧ aev t y = .int k 0) (hh : xh = none ∨ ∃ y k, xh = some y ∧ aev t y = .int k 0) (hm : xm = none ∨ (xh ≠ none ∧ ∃ y k, xm = some y ∧ aev t y = .int k 0)) : Step P C o t H .pure (.slice none 0 0) H := by
 obtain ⟨q, h1, h2, h3, h4⟩ := tinfo_get hi
 refine .p _ (.flat _ (fun z hz => ?_) (fun cs b => by rw [ho]; simp) (.atom _ .nilSlice) (fun w => ?_))
 ·rw [ho] at hz
  have key : ∀ (a : Option Operand), (a = none ∨ ∃ y k, a = some y ∧ aev t y = .int k 0) → ∀ y, a = some y → Flat (aev t y) := fun a ha y hy => by
   rcases ha with ha | ⟨y', k, h1, h2⟩
   ·rw [ha] at hy; cases hy
   ·rw [h1] at hy; cases hy; rw [h2]; exact .atom _ (.int _ _)
  simp [Op.operands] at hz
  rcases hz with rfl | hz | hz | hz
  ·rw [hx]; exact .atom _ .nilSlice
  ·exact key xl hl z (by simpa using hz)
  ·exact key xh hh z (by simpa using hz)
  ·exact key xm (hm.imp id (fun h => h.2)) z (by simpa using hz)
 ·rcases hl with hl1 | ⟨y, k, hl1, hl2⟩ <;> rcases hh with hh1 | ⟨y', k', hh1, hh2⟩ <;> rcases hm with hm1 | ⟨hm0, y2, k2, hm1, hm2⟩ <;> first | exact absurd hh1 hm0 | skip
  all_goals simp [execOp, ho, hm1, hl1, hh1, Instr.sliceAt, Instr.slice, run_und hu, hx, Instr.sliceBounds, Instr.sliceBound, *, asIntOf, run_siz h1]
end
section
variable {P : Program} {G N : Nat} {dr : Bool} {ops : Array Oper} {i : Nat} {hist : Hist} {l : List (Nat × Value)} {V : Vw} {Q : LQ} {o : Oper} {d : Tmp} {As : List At} {k : Nat}
theorem Ow.nwos {α : Type} {R : RT α} {V' : Vw} {b : Nat} {cs : List Value} {xs : List α} (ow : Ow V As) (n : Nw V b V' (.cells R.sz cs)) (hr : Rows R.rel V cs xs) (hm : xs.length ≤ 9223372036854775807) : Ow V' (.os R (.slice (some ⟨b, 0, none⟩) xs.length R.sz) xs :: As) := by
 obtain ⟨p, h1, h2, h3⟩ := Ow.chg (Bs := [.pt b (.cells R.sz cs)]) (As := As) (ow.nw n)
 obtain ⟨p1, p2, rfl, h4, h5⟩ := h2.split
 cases h5
 have h4 : p1 = [(b, .cells R.sz cs)] := h4
 subst h4
 exact h3 V' [_] _ (.refl _) (fun c _ _ _ hf => ⟨rfl, hf⟩) h1 (.cons [(b, .cells R.sz cs)] [] _ _ ⟨hm, .inr ⟨b, 0, cs, rfl, rfl, Nat.zero_le _, hr.up R.ty n.le⟩⟩ .nil) (fun c hc => .inl hc)
theorem Rows.rep {α : Type} {RE : Vw → List Value → α → Prop} {z : α} {r : List Value} (h : RE V r z) : ∀ n : Nat, Rows RE V (List.replicate n r).flatten (List.replicate n z)
 | 0 => .nil
 | n + 1 => by rw [List.replicate_succ, List.flatten_cons, List.replicate_succ]; exact .cons _ _ _ _ h (Rows.rep h n)
theorem rep_cells (z : Array Value) (hz : 0 < z.size) : ∀ q : Nat, ((List.range (q * z.size)).map fun j => z[j % z.size]!) = (List.replicate q z.toList).flatten
 | 0 => by simp
 | q + 1 => by
  rw [List.replicate_succ', List.flatten_append, ← rep_cells z hz q, Nat.add_mul, Nat.one_mul, List.range_add, List.map_append]
  congr 1
  simp only [List.map_map, List.flatten_cons, List.flatten_nil, List.append_nil]
  apply List.ext_getElem
  ·simp
  intro j h1 h2
  simp at h1
  simp only [List.getElem_map, List.getElem_range, Function.comp_apply]
  have : (q * z.size + j) % z.size = j := by rw [Nat.mul_comm, Nat.mul_add_mod]; exact Nat.mod_eq_of_lt h1
  rw [this]
  simp [h1]
theorem O.make {α : Type} {R : RT α} {ty : TypeId} {x y : Operand} {kx ky : IntKind} {e : TypeId} {z : Value} {m : Nat} {q : Int} {z0 : α} {zs : List α} (ow : Ow V As) (ho : ops[i]? = some o) (hd : o.dst = some d) (hg : GOk ops l o) (hop : o.op = .makeSlice ty x y) (hx : aev (fr l) x = .int kx q) (hy : aev (fr l) y = .int ky q) (hu : P.underlying ty = some (.slice e)) (hi : tinfo P e z R.sz m) (hz : constB z = true) (hs : z.cells.size = R.sz)
  (hn : (R.sz == 0) = false) (hm : m ≤ 4194304) (hz0 : R.rel V z.cells.toList z0) (hmk : mk q z0 = some zs) (hk : ∀ x, okU dr ops i (.alloc V.H.next) V.H (V.H.new x) hist) (h : ∀ v V1, V.le V1 → Ow V1 (.os R v zs :: As) → WU dr P G ops (i + 1) (hadd dr (i, .alloc V.H.next, V.H, V1.H) hist) ((d, v) :: l) V1.H Q) : WU dr P G ops i hist l V.H Q := by
 obtain ⟨n, rfl, h1, rfl⟩ := mk_eq hmk
 have hb2 : n * m ≤ 2 ^ 46 := Nat.le_trans (Nat.mul_le_mul h1 hm) (by decide)
 have hpos : 0 < z.cells.size := by rw [hs]; exact Nat.pos_of_ne_zero (by simpa using hn)
 refine U.k ho hd hg (S.makeSlice hop hx hy hu hi hz hs hn (Nat.lt_of_le_of_lt h1 (by decide)) hb2) (hk _) ?_
 have hc : ((List.range (n * R.sz)).map fun j => z.cells[j % z.cells.size]!) = (List.replicate n z.cells.toList).flatten := by rw [← hs]; exact rep_cells _ hpos n
 rw [hc]
 have nw : Nw V V.H.next (V.new _) (.cells R.sz (List.replicate n z.cells.toList).flatten) := ⟨rfl, rfl⟩
 have := h (.slice (some ⟨V.H.next, 0, none⟩) (List.replicate n z0).length R.sz) _ nw.le (ow.nwos nw (Rows.rep hz0 n) (by simp; omega))
 rw [List.length_replicate] at this
 exact this
inductive Els {α : Type} (R : RT α) (V : Vw) : List Value → List α → Prop
 | nil : Els R V [] []
 | cons (v : Value) (vs : List Value) (x : α) (xs : List α) (ht : v ≠ topV) (h : R.rel V v.cells.toList x) (h' : Els R V vs xs) : Els R V (v :: vs) (x :: xs)
theorem Els.rows {α : Type} {R : RT α} {vs : List Value} {xs : List α} (h : Els R V vs xs) : Rows R.rel V (vs.flatMap fun v => v.cells.toList) xs := by
 induction h with
 | nil => exact .nil
 | cons v vs x xs ht h h' ih => rw [List.flatMap_cons]; exact .cons _ _ _ _ h ih
theorem Els.len {α : Type} {R : RT α} {vs : List Value} {xs : List α} (h : Els R V vs xs) : vs.length = xs.length := by
 induction h with
 | nil => rfl
 | cons v vs x xs ht h h' ih => simp [ih]
theorem Els.sz {α : Type} {R : RT α} {vs : List Value} {xs : List α} (h : Els R V vs xs) : ∀ v ∈ vs, v.cells.size = R.sz ∧ v ≠ topV := by
 induction h with
 | nil => exact fun v h => nomatch h
 | cons v vs x xs ht h h' ih =>
  intro u hu
  cases hu with
  | head => exact ⟨by have := R.ty.len _ _ _ h; simpa using this, ht⟩
  | tail _ hu => exact ih u hu
theorem foldl_put (b : Nat) : ∀ (l : List Value) (s : Nat) (c : Array Value), b + s + l.length ≤ c.size → ((l.zipIdx s).foldl (fun cs (p : Value × Nat) => cs.setIfInBounds (b + p.2) p.1) c).toList = c.toList.take (b + s) ++ l ++ c.toList.drop (b + s + l.length) := by
 intro l
 induction l with
 | nil => intro s c h; simp
 | cons x l ih =>
  intro s c h
  simp only [List.length_cons] at h
  rw [List.zipIdx_cons, List.foldl_cons, ih (s + 1) _ (by simp; omega)]
  generalize hk : b + s = k at *
  have hk1 : b + (s + 1) = k + 1 := by omega
  rw [hk1]
  apply List.ext_getElem?
  intro q
  simp only [hk, Array.toList_setIfInBounds, List.getElem?_append, List.length_append, List.length_take, List.length_set, Array.length_toList, List.length_cons, List.getElem?_take, List.getElem?_drop, List.getElem?_set, List.getElem?_cons]
  by_cases h1 : q < k
  ·simp [h1, show q < k + 1 by omega, show min k c.size = k by omega, show min (k + 1) c.size = k + 1 by omega, show q < k + (l.length + 1) by omega, show q < k + 1 + l.length by omega, show k ≠ q by omega]
  ·by_cases h2 : q = k
   ·subst h2
    simp [show min q c.size = q by omega, show min (q + 1) c.size = q + 1 by omega, show q < c.size by omega]
    intro hbad
    omega
   ·by_cases h3 : q < k + 1 + l.length
    ·simp [show min k c.size = k by omega, show min (k + 1) c.size = k + 1 by omega, h1, show ¬ q < k + 1 by omega, h3, show q < k + (l.length + 1) by omega, show q - k ≠ 0 by omega, show q - (k + 1) = q - k - 1 by omega]
    ·simp [show min k c.size = k by omega, show min (k + 1) c.size = k + 1 by omega, h1, show ¬ q < k + 1 by omega, h3, show ¬ q < k + (l.length + 1) by omega, show k + 1 + l.length + (q - (k + 1 + l.length)) = q by omega, show k + (l.length + 1) + (q - (k + (l.length + 1))) = q by omega, show k ≠ q by omega]
theorem fill_seq (n : Nat) : ∀ (vs : List Value) (k : Nat) (c : Array Value), (∀ v ∈ vs, v.cells.size = n) → (k + vs.length) * n ≤ c.size → ∃ r, Instr.fill (fun k => some (k * n, n)) c ((List.range' k vs.length).zip vs) = some r ∧ r.size = c.size ∧ r.toList = c.toList.take (k * n) ++ (vs.flatMap fun v => v.cells.toList) ++ c.toList.drop ((k + vs.length) * n) := by
 intro vs
 induction vs with
 | nil => intro k c _ _; exact ⟨c, rfl, rfl, by simp⟩
 | cons v vs ih =>
  intro k c hv hc
  have h1 := hv v (by simp)
  rw [List.length_cons, show k + (vs.length + 1) = (k + 1) + vs.length by omega] at hc
  have hkn : k * n + n ≤ c.size := by
   have : (k + 1) * n ≤ (k + 1 + vs.length) * n := Nat.mul_le_mul_right _ (by omega)
   rw [Nat.add_mul, Nat.one_mul] at this
   omega
  obtain ⟨c1, hc0⟩ : ∃ c1, c1 = v.cells.toList.zipIdx.foldl (fun cs (p : Value × Nat) => cs.setIfInBounds (k * n + p.2) p.1) c := ⟨_, rfl⟩
  have hc1 : c1.toList = c.toList.take (k * n) ++ v.cells.toList ++ c.toList.drop (k * n + n) := by
   have := foldl_put (k * n) v.cells.toList 0 c (by simp [h1]; omega)
   rw [Array.length_toList, h1] at this
   rw [hc0]; exact this
  have hs1 : c1.size = c.size := by
   have := congrArg List.length hc1
   simp [h1] at this
   omega
  obtain ⟨r, h2, h3, h4⟩ := ih (k + 1) c1 (fun u hu => hv u (by simp [hu])) (by rw [hs1]; exact hc)
  refine ⟨r, ?_, h3.trans hs1, ?_⟩
  ·rw [List.length_cons, List.range'_succ, List.zip_cons_cons]
   unfold Instr.fill
   simp only [h1]
   rw [if_neg (by simp; omega)]
   rw [← h2, hc0]
   congr 1
   rw [← Array.foldl_toList, Array.toList_zipIdx]
  ·rw [h4, hc1, List.flatMap_cons, List.length_cons]
   have e1 : (k + 1) * n = k * n + n := by rw [Nat.add_mul, Nat.one_mul]
   have e2 : (c.toList.take (k * n) ++ v.cells.toList).length = k * n + n := by simp [h1]; omega
   have e3 : (k + 1 + vs.length) * n = (k * n + n) + vs.length * n := by rw [Nat.add_mul, e1]
   have e4 : (k + (vs.length + 1)) * n = (k * n + n) + vs.length * n := by rw [← e3]; congr 1; omega
   rw [e1, e3, e4, List.take_append_of_le_length (by rw [e2]; exact Nat.le_refl _), List.take_of_length_le (by rw [e2]; exact Nat.le_refl _)]
   rw [List.drop_append, e2, Nat.add_sub_cancel_left, List.drop_of_length_le (by rw [e2]; omega), List.nil_append, List.drop_drop]
   simp [List.append_assoc]
theorem O.lit {α : Type} {R : RT α} {ty : TypeId} {len : Nat} {parts : Array (Nat × Operand)} {e : TypeId} {z : Value} {m : Nat} {vs : List Value} {xs : List α} (ow : Ow V As) (ho : ops[i]? = some o) (hd : o.dst = some d) (hg : GOk ops l o) (hop : o.op = .buildSlice ty len parts) (hu : P.underlying ty = some (.slice e)) (hi : tinfo P e z R.sz m) (hz : constB z = true) (hs : z.cells.size = R.sz) (hn : (R.sz == 0) = false) (hlim : len * R.sz ≤ 2 ^ 24)
  (hp : parts.toList.map (·.1) = List.range' 0 len) (hv : (parts.toList.map (·.2)).map (aev (fr l)) = vs) (he : Els R V vs xs) (hk : ∀ x, okU dr ops i (.alloc V.H.next) V.H (V.H.new x) hist) (h : ∀ v V1, V.le V1 → Ow V1 (.os R v xs :: As) → WU dr P G ops (i + 1) (hadd dr (i, .alloc V.H.next, V.H, V1.H) hist) ((d, v) :: l) V1.H Q) : WU dr P G ops i hist l V.H Q := by
 have hl : vs.length = len := by
  rw [← hv]
  have := congrArg List.length hp
  simpa using this
 obtain ⟨c0, hc0⟩ : ∃ c0, c0 = (Array.range (len * R.sz)).map fun j => z.cells[j % z.cells.size]! := ⟨_, rfl⟩
 have hcs : c0.size = len * R.sz := by rw [hc0]; simp
 obtain ⟨r, h1, h2, h3⟩ := fill_seq R.sz vs 0 c0 (fun v hv => (he.sz v hv).1) (by rw [hl, hcs, Nat.zero_add]; exact Nat.le_refl _)
 rw [Nat.zero_mul, List.take_zero, List.nil_append, Nat.zero_add, hl, List.drop_of_length_le (by simp [hcs]), List.append_nil] at h3
 have hparts : (parts.map fun (k, x) => (k, aev (fr l) x)).toList = (List.range' 0 vs.length).zip vs := by
  rw [hl, ← hp, ← hv, Array.toList_map]
  generalize parts.toList = q
  induction q with
  | nil => rfl
  | cons p q ih => simp only [List.map_cons, List.zip_cons_cons, ih]
 refine U.buildSlice ho hd hg hop hu hi hz hs hn hlim (fun p hp' => ?_) (r := r) (by rw [hparts, ← hc0]; exact h1) (by rw [h2, hcs]) h3 (hk _) (fun b V1 n => ?_)
 ·refine (he.sz _ ?_).2
  rw [← hv, List.map_map]
  exact List.mem_map_of_mem (f := (aev (fr l)) ∘ (·.2)) hp'
 ·have hlen : xs.length = len := by rw [← he.len, hl]
  have := h (.slice (some ⟨b, 0, none⟩) xs.length R.sz) V1 n.le (ow.nwos n he.rows (by
   rw [hlen]
   have h1 : 1 ≤ R.sz := Nat.pos_of_ne_zero (by simpa using hn)
   have h2 : len * 1 ≤ len * R.sz := Nat.mul_le_mul_left _ h1
   omega))
  rw [hlen, n.eq] at this
  rw [n.eq]
  exact this
theorem O.storeE {α : Type} {R : RT α} {v : Value} {xs : List α} {ty : TypeId} {p q : Operand} {b o' : Nat} {idx : Int} {j : Nat} {u z : Value} {cs : List Value} {n m : Nat} {x y : α} (ow : Ow V As) (hk0 : As[k]? = some (.os R v xs)) (hvv : v = .slice (some ⟨b, o', none⟩) xs.length R.sz) (ho : ops[i]? = some o) (hd : o.dst = none) (hg : GOk ops l o) (hop : o.op = .store ty p q)
  (hp : aev (fr l) p = .pointer (some ⟨b, o' + idx.toNat * R.sz + j, none⟩)) (hq : aev (fr l) q = u) (hi : tinfo P ty z n m) (hx : ix xs idx = some x)
  (hu : u ≠ topV) (hcs : u.cells.toList = cs) (hs : cs.length = n) (h1 : cs.all One = true) (hn : ∀ r, R.rel V r x → j + cs.length ≤ r.length ∧ R.rel V (splice r j cs) y) (hk : ∀ H1 : AH, (∀ c, c ≠ b → H1.get c = V.H.get c) → okU dr ops i .eff V.H H1 hist)
  (h : ∀ V1, V.le V1 → Ow V1 (As.set k (.os R v (xs.set idx.toNat y))) → WU dr P G ops (i + 1) (hadd dr (i, .eff, V.H, V1.H) hist) l V1.H Q) : WU dr P G ops i hist l V.H Q := by
 obtain ⟨p0, h2, hm, ⟨_, rfl, rfl⟩ | ⟨b', o2, c, hv2, rfl, ho2, hr⟩⟩ := ow.osat hk0
 ·cases hvv
 ·rw [hvv] at hv2
  cases hv2
  have how : Own (fun _ => True) V b (.cells R.sz c) := by
   obtain ⟨h5, h6, h7, h8⟩ := h2.own (b, .cells R.sz c) (by simp)
   exact ⟨trivial, h5, h6, h7, h8⟩
  have hxg := ix_get hx
  have hset := hr.set R.ty hxg hn
  obtain ⟨r, hre, _⟩ := hr.at R.ty hxg
  have hlen : o' + idx.toNat * R.sz + j + n ≤ c.length := by
   have h3 := (hn r hre).1
   have h4 := R.ty.len _ _ _ hre
   have h5 := hr.len R.ty
   rw [List.length_drop] at h5
   have h6 : idx.toNat < xs.length := (List.getElem?_eq_some_iff.1 hxg).1
   have h7 : (idx.toNat + 1) * R.sz ≤ xs.length * R.sz := Nat.mul_le_mul_right _ h6
   rw [Nat.add_mul] at h7
   omega
  refine U.store ho hd hg hop hp hq hi how hu hcs hs hlen h1 rfl (hk _ (fun c hc => by simp [AH.upd, hc])) (fun V1 s => h V1 (s.le how) ?_)
  refine ow.st1 hk0 (b := b) (x := .cells R.sz c) (fun p hp' hsat => ?_) s ⟨by simpa using hm, .inr ⟨b, o', _, by rw [List.length_set]; exact hvv, rfl, ?_, ?_⟩⟩
  ·obtain ⟨_, ⟨_, h, _⟩ | ⟨b3, o3, c3, h, rfl, _⟩⟩ := hsat
   ·rw [hvv] at h; cases h
   ·rw [hvv] at h
    cases h
    have := (hp'.own (b, .cells R.sz c3) (by simp)).2.2.2
    rw [how.get] at this
    cases this
    rfl
  ·rw [splice_length (by omega)]; exact ho2
  ·have hd : (splice c (o' + idx.toNat * R.sz + j) cs).drop o' = splice (c.drop o') (idx.toNat * R.sz + j) cs := by
    unfold splice
    rw [Nat.add_assoc o', List.append_assoc, List.append_assoc, List.drop_append, List.length_take, List.drop_take]
    rw [show o' - min (o' + (idx.toNat * R.sz + j)) c.length = 0 by omega]
    rw [List.drop_zero, List.drop_drop, Nat.add_assoc o', show o' + (idx.toNat * R.sz + j) - o' = idx.toNat * R.sz + j by omega]
   rw [hd]
   exact hset.up R.ty (s.le how)
theorem full {α : Type} {R : RT α} {x y : α} {cs : List Value} (h : R.rel V cs y) : ∀ r, R.rel V r x → 0 + cs.length ≤ r.length ∧ R.rel V (splice r 0 cs) y := fun r hr => by
 have h1 := R.ty.len _ _ _ hr
 have h2 := R.ty.len _ _ _ h
 refine ⟨by omega, ?_⟩
 unfold splice
 rw [List.take_zero, List.nil_append, Nat.zero_add, List.drop_of_length_le (by omega), List.append_nil]
 exact h
theorem Ow.osix {α : Type} {R : RT α} {v : Value} {xs : List α} (ow : Ow V As) (hk0 : As[k]? = some (.os R v xs)) {idx : Int} {x : α} (hx : ix xs idx = some x) :
  ∃ b o r, v = .slice (some ⟨b, o, none⟩) xs.length R.sz ∧ b < V.H.next ∧ R.rel V r x ∧ ∀ (j : Nat) (u : Value), r[j]? = some u → V.H.cell b (o + idx.toNat * R.sz + j) = some u := ow.osget hk0 (ix_get hx)
end
end Go.Vm
