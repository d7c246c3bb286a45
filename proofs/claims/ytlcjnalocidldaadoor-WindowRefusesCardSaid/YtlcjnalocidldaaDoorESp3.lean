/-
  Part of an evaluator for the model, proved sound: no condition.
-/
import Derived.Test.YtlcjnalocidldaaDoorEVm19
set_option linter.unusedSimpArgs false
set_option linter.unusedVariables false
namespace Go.Vm
open Go
section
variable {P : Program} {C : CallRel} {o : Oper} {t : T} {H : AH} {As : List At} {k : Nat}
theorem S.sliceNil {ty e : TypeId} {x : Operand} {xl xh xm : Option Operand} {kk : IntKind} (ho : o.op = .slice ty x xl xh xm) (hx : aev t x = .slice none 0 0) (hu : P.underlying ty = some (.slice e)) {z : Value} {n m : Nat} (hi : tinfo P e z n m)
  (hl : xl = none ∨ ∃ y k, xl = some y ∧ aev t y = .int k 0) (hh : xh = none ∨ ∃ y k, xh = some y ∧ aev t y = .int k 0) (hm : xm = none ∨ (xh ≠ none ∧ ∃ y k, xm = some y ∧ aev t y = .int k 0)) : Step P C o t H .pure (.slice none 0 0) H := by
 obtain ⟨q, h1, h2, h3, h4⟩ := tinfo_get hi
 refine .p _ (.flat _ (fun z hz => ?_) (fun cs b => by rw [ho]; simp) (.atom _ .nilSlice) (fun w => ?_))
 ·rw [ho] at hz
  have key : ∀ (a : Option Operand), (a = none ∨ ∃ y k, a = some y ∧ aev t y = .int k 0) → ∀ y, a = some y → Flat (aev t y) := fun a ha y hy => by
   rcases ha with ha | ⟨y', k, h1, h2⟩
   ·rw [ha] at hy; cases hy
   ·rw [h1] at hy; cases hy; rw [h2]; exact .atom _ (.int _ _)
  simp [Op.operands] at hz
  rcases hz with rfl | hz | hz | hz
  ·rw [hx]; exact .atom _ .nilSlice
  ·exact key xl hl z (by simpa using hz)
  ·exact key xh hh z (by simpa using hz)
  ·exact key xm (hm.imp id (fun h => h.2)) z (by simpa using hz)
 ·rcases hl with hl1 | ⟨y, k, hl1, hl2⟩ <;> rcases hh with hh1 | ⟨y', k', hh1, hh2⟩ <;> rcases hm with hm1 | ⟨hm0, y2, k2, hm1, hm2⟩ <;> first | exact absurd hh1 hm0 | skip
  all_goals simp [execOp, ho, hm1, hl1, hh1, Instr.sliceAt, Instr.slice, run_und hu, hx, Instr.sliceBounds, Instr.sliceBound, *, asIntOf, run_siz h1]
structure Bnd (t : T) (xl xh xm : Option Operand) (el eh len : Int) : Prop where
 l : (xl = none ∧ el = 0) ∨ ∃ y k, xl = some y ∧ aev t y = .int k el
 h : (xh = none ∧ eh = len) ∨ ∃ y k, xh = some y ∧ aev t y = .int k eh
 m : xm = none ∨ (xh ≠ none ∧ ∃ y k, xm = some y ∧ aev t y = .int k eh)
theorem Sl.drop' {α : Type} {sz : Nat} {RE : Vw → List Value → α → Prop} {V : Vw} {b o c : Nat} {xs : List α} {i j : Nat} (h : ∀ (i : Nat) (x : α), xs[i]? = some x → ∃ cs : List Value, cs.length = sz ∧ RE V cs x ∧ ∀ (j : Nat) (u : Value), cs[j]? = some u → V.H.cell b (o + i * sz + j) = some u) :
  ∀ (k : Nat) (x : α), ((xs.take j).drop i)[k]? = some x → ∃ cs : List Value, cs.length = sz ∧ RE V cs x ∧ ∀ (q : Nat) (u : Value), cs[q]? = some u → V.H.cell b (o + i * sz + k * sz + q) = some u := by
 intro k x hx
 rw [List.getElem?_drop, List.getElem?_take] at hx
 split at hx
 ·obtain ⟨cs, h1, h2, h3⟩ := h _ x hx
  refine ⟨cs, h1, h2, fun q u hq => ?_⟩
  rw [← h3 q u hq, Nat.add_mul, Nat.add_assoc o]
 ·cases hx
theorem Fz.sub {α : Type} {R : RT α} {V : Vw} {v : Value} {xs zs : List α} (h : Fz R V v xs) (hlo : V.H.lo = H.lo) {el eh : Int} (hc : cutL xs el eh = some zs) {ty e : TypeId} {x : Operand} {xl xh xm : Option Operand} {z : Value} {m : Nat}
  (ho : o.op = .slice ty x xl xh xm) (hx : aev t x = v) (hu : P.underlying ty = some (.slice e)) (hi : tinfo P e z R.sz m) (hb : Bnd t xl xh xm el eh xs.length) : ∃ v', Step P C o t H .pure v' H ∧ Fz R V v' zs := by
 obtain ⟨i, j, rfl, rfl, hij, hj, rfl⟩ := cutL_eq hc
 obtain ⟨hl, hh, hm⟩ := hb
 obtain ⟨h1, hcap⟩ := h
 rcases h1 with ⟨rfl, rfl⟩ | ⟨b, o', c, rfl, ⟨hf, hmax⟩, hel⟩
 ·have hi0 : i = 0 := by simp at hj; omega
  have hj0 : j = 0 := by simp at hj; omega
  subst hi0 hj0
  exact ⟨_, S.sliceNil (kk := .i64) ho hx hu hi (hl.imp (fun h => h.1) id) (hh.imp (fun h => h.1) id) hm, by simpa using Fz.nil⟩
 ·obtain ⟨q, h2, h3, h4, h5⟩ := tinfo_get hi
  have hlen : ((xs.take j).drop i).length = j - i := by rw [List.length_drop, List.length_take]; omega
  refine ⟨_, .p _ (.sliceS ty x xl xh xm b o' xs.length c i j e q ho hx hu h2 ?_ ?_ hm hij hj ?_), ?_, ?_⟩
  ·exact hl.imp (fun ⟨a, b⟩ => ⟨a, by omega⟩) id
  ·exact hh.imp (fun ⟨a, b⟩ => ⟨a, by omega⟩) id
  ·rw [h4, ← hlo]; exact hcap _ _ _ _ rfl
  ·rw [h4]
   exact .inr ⟨b, o' + i * R.sz, c, by rw [hlen], ⟨hf, by omega⟩, Sl.drop' (c := c) hel⟩
  ·intro b' o2 n c' he
   cases he
   exact hcap _ _ _ _ rfl
theorem Ow.sub {α : Type} {R : RT α} {V : Vw} {v : Value} {xs zs : List α} (ow : Ow V As) (hk : As[k]? = some (.os R v xs)) {el eh : Int} (he : eh = xs.length) (hc : cutL xs el eh = some zs) {ty e : TypeId} {x : Operand} {xl xh xm : Option Operand} {z : Value} {m : Nat}
  (ho : o.op = .slice ty x xl xh xm) (hx : aev t x = v) (hu : P.underlying ty = some (.slice e)) (hi : tinfo P e z R.sz m) (hb : Bnd t xl xh xm el eh xs.length) : ∃ v', Step P C o t H .pure v' H ∧ Ow V (As.set k (.os R v' zs)) := by
 subst he
 obtain ⟨i, j, rfl, hj, hij, hj2, rfl⟩ := cutL_eq hc
 have hj : xs.length = j := by omega
 subst hj
 obtain ⟨hl, hh, hm⟩ := hb
 obtain ⟨p, h1, h2, h3⟩ := Ow.chg (Bs := [.os R v xs]) (ow.pick k hk)
 obtain ⟨p1, p2, rfl, h4, h5⟩ := h2.split
 cases h5
 obtain ⟨q, h6, h7, h8, h9⟩ := tinfo_get hi
 have same : ∀ v', (At.os R v' ((xs.take xs.length).drop i)).sat V p1 → Ow V (As.set k (.os R v' ((xs.take xs.length).drop i))) := fun v' hs => by
  refine Ow.put hk (h3 V [_] (p1 ++ []) (.refl V) (fun c _ _ _ hf => ⟨rfl, hf⟩) h1 (.cons p1 [] _ _ hs .nil) (fun c hc => .inl hc))
 rcases h4 with ⟨hmax, ⟨rfl, rfl, rfl⟩ | ⟨b, o', cs, rfl, rfl, ho', hr⟩⟩
 ·have hi0 : i = 0 := by simp at hij; omega
  subst hi0
  exact ⟨_, S.sliceNil (kk := .i64) ho hx hu hi (hl.imp (fun h => h.1) id) (hh.imp (fun h => h.1) (fun ⟨a, b, c, d⟩ => ⟨a, b, c, by simpa using d⟩)) (hm.imp id (fun ⟨a, b, c, d, e⟩ => ⟨a, b, c, d, by simpa using e⟩)), same _ ⟨by simp, .inl ⟨rfl, rfl, rfl⟩⟩⟩
 ·have hlen : ((xs.take xs.length).drop i).length = xs.length - i := by rw [List.length_drop, List.take_length]
  have hcl : cs.length = o' + xs.length * R.sz := by
   have := hr.len R.ty
   rw [List.length_drop] at this
   omega
  refine ⟨_, .p _ (.sliceS ty x xl xh xm b o' xs.length R.sz i xs.length e q ho hx hu h6 ?_ ?_ hm hij (Nat.le_refl _) (.inl (by rw [h8]))), same _ ⟨by omega, .inr ⟨b, o' + i * q.size, cs, by rw [hlen], rfl, ?_, ?_⟩⟩⟩
  ·exact hl.imp (fun ⟨a, b⟩ => ⟨a, by omega⟩) id
  ·exact hh.imp (fun ⟨a, b⟩ => ⟨a, rfl⟩) id
  ·rw [h8, hcl]
   have : i * R.sz ≤ xs.length * R.sz := Nat.mul_le_mul_right _ hij
   omega
  ·rw [h8, List.take_length]
   have key : ∀ (n : Nat) (cs : List Value) (ys : List α), Rows R.rel V cs ys → Rows R.rel V (cs.drop (n * R.sz)) (ys.drop n) := by
    intro n
    induction n with
    | zero => intro cs ys h; simpa using h
    | succ n ih =>
     intro cs ys h
     cases h with
     | nil => simpa using Rows.nil
     | cons r cs x ys h h' =>
      have := ih _ _ h'
      have hl := R.ty.len _ _ _ h
      have e : (r ++ cs).drop ((n + 1) * R.sz) = cs.drop (n * R.sz) := by
       rw [Nat.add_mul, Nat.one_mul, List.drop_append, hl, List.drop_of_length_le (by rw [hl]; omega), List.nil_append]
       congr 1
       omega
      rw [List.drop_succ_cons, e]
      exact this
   have := key i _ _ hr
   rwa [List.drop_drop] at this
end
section
variable {P : Program} {G N : Nat} {dr : Bool} {ops : Array Oper} {i : Nat} {hist : Hist} {l : List (Nat × Value)} {V : Vw} {Q : LQ} {o : Oper} {d : Tmp} {As : List At} {k : Nat}
theorem Ow.nwos {α : Type} {R : RT α} {V' : Vw} {b : Nat} {cs : List Value} {xs : List α} (ow : Ow V As) (n : Nw V b V' (.cells R.sz cs)) (hr : Rows R.rel V cs xs) (hm : xs.length ≤ 9223372036854775807) : Ow V' (.os R (.slice (some ⟨b, 0, none⟩) xs.length R.sz) xs :: As) := by
 obtain ⟨p, h1, h2, h3⟩ := Ow.chg (Bs := [.pt b (.cells R.sz cs)]) (As := As) (ow.nw n)
 obtain ⟨p1, p2, rfl, h4, h5⟩ := h2.split
 cases h5
 have h4 : p1 = [(b, .cells R.sz cs)] := h4
 subst h4
 exact h3 V' [_] _ (.refl _) (fun c _ _ _ hf => ⟨rfl, hf⟩) h1 (.cons [(b, .cells R.sz cs)] [] _ _ ⟨hm, .inr ⟨b, 0, cs, rfl, rfl, Nat.zero_le _, hr.up R.ty n.le⟩⟩ .nil) (fun c hc => .inl hc)
theorem Rows.rep {α : Type} {RE : Vw → List Value → α → Prop} {z : α} {r : List Value} (h : RE V r z) : ∀ n : Nat, Rows RE V (List.replicate n r).flatten (List.replicate n z)
 | 0 => .nil
 | n + 1 => by rw [List.replicate_succ, List.flatten_cons, List.replicate_succ]; exact .cons _ _ _ _ h (Rows.rep h n)
theorem rep_cells (z : Array Value) (hz : 0 < z.size) : ∀ q : Nat, ((List.range (q * z.size)).map fun j => z[j % z.size]!) = (List.replicate q z.toList).flatten
 | 0 => by simp
 | q + 1 => by
  rw [List.replicate_succ', List.flatten_append, ← rep_cells z hz q, Nat.add_mul, Nat.one_mul, List.range_add, List.map_append]
  congr 1
  simp only [List.map_map, List.flatten_cons, List.flatten_nil, List.append_nil]
  apply List.ext_getElem
  ·simp
  intro j h1 h2
  simp at h1
  simp only [List.getElem_map, List.getElem_range, Function.comp_apply]
  have : (q * z.size + j) % z.size = j := by rw [Nat.mul_comm, Nat.mul_add_mod]; exact Nat.mod_eq_of_lt h1
  rw [this]
  simp [h1]
theorem O.make {α : Type} {R : RT α} {ty : TypeId} {x y : Operand} {kx ky : IntKind} {e : TypeId} {z : Value} {m : Nat} {q : Int} {z0 : α} {zs : List α} (ow : Ow V As) (ho : ops[i]? = some o) (hd : o.dst = some d) (hg : GOk ops l o) (hop : o.op = .makeSlice ty x y) (hx : aev (fr l) x = .int kx q) (hy : aev (fr l) y = .int ky q) (hu : P.underlying ty = some (.slice e)) (hi : tinfo P e z R.sz m) (hz : constB z = true) (hs : z.cells.size = R.sz)
  (hn : (R.sz == 0) = false) (hm : m ≤ 4194304) (hz0 : R.rel V z.cells.toList z0) (hmk : mk q z0 = some zs) (hk : ∀ x, okU dr ops i (.alloc V.H.next) V.H (V.H.new x) hist) (h : ∀ v V1, V.le V1 → Ow V1 (.os R v zs :: As) → WU dr P G ops (i + 1) (hadd dr (i, .alloc V.H.next, V.H, V1.H) hist) ((d, v) :: l) V1.H Q) : WU dr P G ops i hist l V.H Q := by
 obtain ⟨n, rfl, h1, rfl⟩ := mk_eq hmk
 have hb2 : n * m ≤ 2 ^ 46 := Nat.le_trans (Nat.mul_le_mul h1 hm) (by decide)
 have hpos : 0 < z.cells.size := by rw [hs]; exact Nat.pos_of_ne_zero (by simpa using hn)
 refine U.k ho hd hg (S.makeSlice hop hx hy hu hi hz hs hn (Nat.lt_of_le_of_lt h1 (by decide)) hb2) (hk _) ?_
 have hc : ((List.range (n * R.sz)).map fun j => z.cells[j % z.cells.size]!) = (List.replicate n z.cells.toList).flatten := by rw [← hs]; exact rep_cells _ hpos n
 rw [hc]
 have nw : Nw V V.H.next (V.new _) (.cells R.sz (List.replicate n z.cells.toList).flatten) := ⟨rfl, rfl⟩
 have := h (.slice (some ⟨V.H.next, 0, none⟩) (List.replicate n z0).length R.sz) _ nw.le (ow.nwos nw (Rows.rep hz0 n) (by simp; omega))
 rw [List.length_replicate] at this
 exact this
inductive Els {α : Type} (R : RT α) (V : Vw) : List Value → List α → Prop
 | nil : Els R V [] []
 | cons (v : Value) (vs : List Value) (x : α) (xs : List α) (ht : v ≠ topV) (h : R.rel V v.cells.toList x) (h' : Els R V vs xs) : Els R V (v :: vs) (x :: xs)
theorem Els.rows {α : Type} {R : RT α} {vs : List Value} {xs : List α} (h : Els R V vs xs) : Rows R.rel V (vs.flatMap fun v => v.cells.toList) xs := by
 induction h with
 | nil => exact .nil
 | cons v vs x xs ht h h' ih => rw [List.flatMap_cons]; exact .cons _ _ _ _ h ih
theorem Els.len {α : Type} {R : RT α} {vs : List Value} {xs : List α} (h : Els R V vs xs) : vs.length = xs.length := by
 induction h with
 | nil => rfl
 | cons v vs x xs ht h h' ih => simp [ih]
theorem Els.sz {α : Type} {R : RT α} {vs : List Value} {xs : List α} (h : Els R V vs xs) : ∀ v ∈ vs, v.cells.size = R.sz ∧ v ≠ topV := by
 induction h with
 | nil => exact fun v h => nomatch h
 | cons v vs x xs ht h h' ih =>
  intro u hu
  cases hu with
  | head => exact ⟨by have := R.ty.len _ _ _ h; simpa using this, ht⟩
  | tail _ hu => exact ih u hu
theorem foldl_put (b : Nat) : ∀ (l : List Value) (s : Nat) (c : Array Value), b + s + l.length ≤ c.size → ((l.zipIdx s).foldl (fun cs (p : Value × Nat) => cs.setIfInBounds (b + p.2) p.1) c).toList = c.toList.take (b + s) ++ l ++ c.toList.drop (b + s + l.length) := by
 intro l
 induction l with
 | nil => intro s c h; simp
 | cons x l ih =>
  intro s c h
  simp only [List.length_cons] at h
  rw [List.zipIdx_cons, List.foldl_cons, ih (s + 1) _ (by simp; omega)]
  generalize hk : b + s = k at *
  have hk1 : b + (s + 1) = k + 1 := by omega
  rw [hk1]
  apply List.ext_getElem?
  intro q
  simp only [hk, Array.toList_setIfInBounds, List.getElem?_append, List.length_append, List.length_take, List.length_set, Array.length_toList, List.length_cons, List.getElem?_take, List.getElem?_drop, List.getElem?_set, List.getElem?_cons]
  by_cases h1 : q < k
  ·simp [h1, show q < k + 1 by omega, show min k c.size = k by omega, show min (k + 1) c.size = k + 1 by omega, show q < k + (l.length + 1) by omega, show q < k + 1 + l.length by omega, show k ≠ q by omega]
  ·by_cases h2 : q = k
   ·subst h2
    simp [show min q c.size = q by omega, show min (q + 1) c.size = q + 1 by omega, show q < c.size by omega]
    intro hbad
    omega
   ·by_cases h3 : q < k + 1 + l.length
    ·simp [show min k c.size = k by omega, show min (k + 1) c.size = k + 1 by omega, h1, show ¬ q < k + 1 by omega, h3, show q < k + (l.length + 1) by omega, show q - k ≠ 0 by omega, show q - (k + 1) = q - k - 1 by omega]
    ·simp [show min k c.size = k by omega, show min (k + 1) c.size = k + 1 by omega, h1, show ¬ q < k + 1 by omega, h3, show ¬ q < k + (l.length + 1) by omega, show k + 1 + l.length + (q - (k + 1 + l.length)) = q by omega, show k + (l.length + 1) + (q - (k + (l.length + 1))) = q by omega, show k ≠ q by omega]
theorem fill_seq (n : Nat) : ∀ (vs : List Value) (k : Nat) (c : Array Value), (∀ v ∈ vs, v.cells.size = n) → (k + vs.length) * n ≤ c.size → ∃ r, Instr.fill (fun k => some (k * n, n)) c ((List.range' k vs.length).zip vs) = some r ∧ r.size = c.size ∧ r.toList = c.toList.take (k * n) ++ (vs.flatMap fun v => v.cells.toList) ++ c.toList.drop ((k + vs.length) * n) := by
 intro vs
 induction vs with
 | nil => intro k c _ _; exact ⟨c, rfl, rfl, by simp⟩
 | cons v vs ih =>
  intro k c hv hc
  have h1 := hv v (by simp)
  rw [List.length_cons, show k + (vs.length + 1) = (k + 1) + vs.length by omega] at hc
  have hkn : k * n + n ≤ c.size := by
   have : (k + 1) * n ≤ (k + 1 + vs.length) * n := Nat.mul_le_mul_right _ (by omega)
   rw [Nat.add_mul, Nat.one_mul] at this
   omega
  obtain ⟨c1, hc0⟩ : ∃ c1, c1 = v.cells.toList.zipIdx.foldl (fun cs (p : Value × Nat) => cs.setIfInBounds (k * n + p.2) p.1) c := ⟨_, rfl⟩
  have hc1 : c1.toList = c.toList.take (k * n) ++ v.cells.toList ++ c.toList.drop (k * n + n) := by
   have := foldl_put (k * n) v.cells.toList 0 c (by simp [h1]; omega)
   rw [Array.length_toList, h1] at this
   rw [hc0]; exact this
  have hs1 : c1.size = c.size := by
   have := congrArg List.length hc1
   simp [h1] at this
   omega
  obtain ⟨r, h2, h3, h4⟩ := ih (k + 1) c1 (fun u hu => hv u (by simp [hu])) (by rw [hs1]; exact hc)
  refine ⟨r, ?_, h3.trans hs1, ?_⟩
  ·rw [List.length_cons, List.range'_succ, List.zip_cons_cons]
   unfold Instr.fill
   simp only [h1]
   rw [if_neg (by simp; omega)]
   rw [← h2, hc0]
   congr 1
   rw [← Array.foldl_toList, Array.toList_zipIdx]
  ·rw [h4, hc1, List.flatMap_cons, List.length_cons]
   have e1 : (k + 1) * n = k * n + n := by rw [Nat.add_mul, Nat.one_mul]
   have e2 : (c.toList.take (k * n) ++ v.cells.toList).length = k * n + n := by simp [h1]; omega
   have e3 : (k + 1 + vs.length) * n = (k * n + n) + vs.length * n := by rw [Nat.add_mul, e1]
   have e4 : (k + (vs.length + 1)) * n = (k * n + n) + vs.length * n := by rw [← e3]; congr 1; omega
   rw [e1, e3, e4, List.take_append_of_le_length (by rw [e2]; exact Nat.le_refl _), List.take_of_length_le (by rw [e2]; exact Nat.le_refl _)]
   rw [List.drop_append, e2, Nat.add_sub_cancel_left, List.drop_of_length_le (by rw [e2]; omega), List.nil_append, List.drop_drop]
   simp [List.append_assoc]
theorem O.lit {α : Type} {R : RT α} {ty : TypeId} {len : Nat} {parts : Array (Nat × Operand)} {e : TypeId} {z : Value} {m : Nat} {vs : List Value} {xs : List α} (ow : Ow V As) (ho : ops[i]? = some o) (hd : o.dst = some d) (hg : GOk ops l o) (hop : o.op = .buildSlice ty len parts) (hu : P.underlying ty = some (.slice e)) (hi : tinfo P e z R.sz m) (hz : constB z = true) (hs : z.cells.size = R.sz) (hn : (R.sz == 0) = false) (hlim : len * R.sz ≤ 2 ^ 24)
  (hp : parts.toList.map (·.1) = List.range' 0 len) (hv : (parts.toList.map (·.2)).map (aev (fr l)) = vs) (he : Els R V vs xs) (hk : ∀ x, okU dr ops i (.alloc V.H.next) V.H (V.H.new x) hist) (h : ∀ v V1, V.le V1 → Ow V1 (.os R v xs :: As) → WU dr P G ops (i + 1) (hadd dr (i, .alloc V.H.next, V.H, V1.H) hist) ((d, v) :: l) V1.H Q) : WU dr P G ops i hist l V.H Q := by
 have hl : vs.length = len := by
  rw [← hv]
  have := congrArg List.length hp
  simpa using this
 obtain ⟨c0, hc0⟩ : ∃ c0, c0 = (Array.range (len * R.sz)).map fun j => z.cells[j % z.cells.size]! := ⟨_, rfl⟩
 have hcs : c0.size = len * R.sz := by rw [hc0]; simp
 obtain ⟨r, h1, h2, h3⟩ := fill_seq R.sz vs 0 c0 (fun v hv => (he.sz v hv).1) (by rw [hl, hcs, Nat.zero_add]; exact Nat.le_refl _)
 rw [Nat.zero_mul, List.take_zero, List.nil_append, Nat.zero_add, hl, List.drop_of_length_le (by simp [hcs]), List.append_nil] at h3
 have hparts : (parts.map fun (k, x) => (k, aev (fr l) x)).toList = (List.range' 0 vs.length).zip vs := by
  rw [hl, ← hp, ← hv, Array.toList_map]
  generalize parts.toList = q
  induction q with
  | nil => rfl
  | cons p q ih => simp only [List.map_cons, List.zip_cons_cons, ih]
 refine U.buildSlice ho hd hg hop hu hi hz hs hn hlim (fun p hp' => ?_) (r := r) (by rw [hparts, ← hc0]; exact h1) (by rw [h2, hcs]) h3 (hk _) (fun b V1 n => ?_)
 ·refine (he.sz _ ?_).2
  rw [← hv, List.map_map]
  exact List.mem_map_of_mem (f := (aev (fr l)) ∘ (·.2)) hp'
 ·have hlen : xs.length = len := by rw [← he.len, hl]
  have := h (.slice (some ⟨b, 0, none⟩) xs.length R.sz) V1 n.le (ow.nwos n he.rows (by
   rw [hlen]
   have h1 : 1 ≤ R.sz := Nat.pos_of_ne_zero (by simpa using hn)
   have h2 : len * 1 ≤ len * R.sz := Nat.mul_le_mul_left _ h1
   omega))
  rw [hlen, n.eq] at this
  rw [n.eq]
  exact this
theorem O.storeE {α : Type} {R : RT α} {v : Value} {xs : List α} {ty : TypeId} {p q : Operand} {b o' : Nat} {idx : Int} {j : Nat} {u z : Value} {cs : List Value} {n m : Nat} {x y : α} (ow : Ow V As) (hk0 : As[k]? = some (.os R v xs)) (hvv : v = .slice (some ⟨b, o', none⟩) xs.length R.sz) (ho : ops[i]? = some o) (hd : o.dst = none) (hg : GOk ops l o) (hop : o.op = .store ty p q)
  (hp : aev (fr l) p = .pointer (some ⟨b, o' + idx.toNat * R.sz + j, none⟩)) (hq : aev (fr l) q = u) (hi : tinfo P ty z n m) (hx : ix xs idx = some x)
  (hu : u ≠ topV) (hcs : u.cells.toList = cs) (hs : cs.length = n) (h1 : cs.all One = true) (hn : ∀ r, R.rel V r x → j + cs.length ≤ r.length ∧ R.rel V (splice r j cs) y) (hk : ∀ H1 : AH, (∀ c, c ≠ b → H1.get c = V.H.get c) → okU dr ops i .eff V.H H1 hist)
  (h : ∀ V1, V.le V1 → Ow V1 (As.set k (.os R v (xs.set idx.toNat y))) → WU dr P G ops (i + 1) (hadd dr (i, .eff, V.H, V1.H) hist) l V1.H Q) : WU dr P G ops i hist l V.H Q := by
 obtain ⟨p0, h2, hm, ⟨_, rfl, rfl⟩ | ⟨b', o2, c, hv2, rfl, ho2, hr⟩⟩ := ow.osat hk0
 ·cases hvv
 ·rw [hvv] at hv2
  cases hv2
  have how : Own (fun _ => True) V b (.cells R.sz c) := by
   obtain ⟨h5, h6, h7, h8⟩ := h2.own (b, .cells R.sz c) (by simp)
   exact ⟨trivial, h5, h6, h7, h8⟩
  have hxg := ix_get hx
  have hset := hr.set R.ty hxg hn
  obtain ⟨r, hre, _⟩ := hr.at R.ty hxg
  have hlen : o' + idx.toNat * R.sz + j + n ≤ c.length := by
   have h3 := (hn r hre).1
   have h4 := R.ty.len _ _ _ hre
   have h5 := hr.len R.ty
   rw [List.length_drop] at h5
   have h6 : idx.toNat < xs.length := (List.getElem?_eq_some_iff.1 hxg).1
   have h7 : (idx.toNat + 1) * R.sz ≤ xs.length * R.sz := Nat.mul_le_mul_right _ h6
   rw [Nat.add_mul] at h7
   omega
  refine U.store ho hd hg hop hp hq hi how hu hcs hs hlen h1 rfl (hk _ (fun c hc => by simp [AH.upd, hc])) (fun V1 s => h V1 (s.le how) ?_)
  refine ow.st1 hk0 (b := b) (x := .cells R.sz c) (fun p hp' hsat => ?_) s ⟨by simpa using hm, .inr ⟨b, o', _, by rw [List.length_set]; exact hvv, rfl, ?_, ?_⟩⟩
  ·obtain ⟨_, ⟨_, h, _⟩ | ⟨b3, o3, c3, h, rfl, _⟩⟩ := hsat
   ·rw [hvv] at h; cases h
   ·rw [hvv] at h
    cases h
    have := (hp'.own (b, .cells R.sz c3) (by simp)).2.2.2
    rw [how.get] at this
    cases this
    rfl
  ·rw [splice_length (by omega)]; exact ho2
  ·have hd : (splice c (o' + idx.toNat * R.sz + j) cs).drop o' = splice (c.drop o') (idx.toNat * R.sz + j) cs := by
    unfold splice
    rw [Nat.add_assoc o', List.append_assoc, List.append_assoc, List.drop_append, List.length_take, List.drop_take]
    rw [show o' - min (o' + (idx.toNat * R.sz + j)) c.length = 0 by omega]
    rw [List.drop_zero, List.drop_drop, Nat.add_assoc o', show o' + (idx.toNat * R.sz + j) - o' = idx.toNat * R.sz + j by omega]
   rw [hd]
   exact hset.up R.ty (s.le how)
theorem Ow.osix {α : Type} {R : RT α} {v : Value} {xs : List α} (ow : Ow V As) (hk0 : As[k]? = some (.os R v xs)) {idx : Int} {x : α} (hx : ix xs idx = some x) :
  ∃ b o r, v = .slice (some ⟨b, o, none⟩) xs.length R.sz ∧ b < V.H.next ∧ R.rel V r x ∧ ∀ (j : Nat) (u : Value), r[j]? = some u → V.H.cell b (o + idx.toNat * R.sz + j) = some u := ow.osget hk0 (ix_get hx)
end
end Go.Vm
namespace Go.Vm
open Go
theorem bcase {b : Bool} {p : Prop} (ht : b = true → p) (hf : b = false → p) : p := by cases b; exact hf rfl; exact ht rfl
section
variable {P : Program} {G N : Nat} {dr : Bool} {ops : Array Oper} {i : Nat} {hist : Hist} {l : List (Nat × Value)} {V : Vw} {Q : LQ} {o : Oper} {d : Tmp} {As : List At} {k : Nat}
theorem Ow.ospt {α : Type} {R : RT α} {v : Value} {xs : List α} (ow : Ow V As) (hk0 : As[k]? = some (.os R v xs)) {idx : Int} {x : α} (hx : ix xs idx = some x) : ∃ b o n c, v = .slice (some ⟨b, o, none⟩) n c := by
 obtain ⟨b, o, r, h, _⟩ := ow.osix hk0 hx
 exact ⟨b, o, _, _, h⟩
theorem Ow.osel {α : Type} {R : RT α} {v : Value} {xs : List α} (ow : Ow V As) (hk0 : As[k]? = some (.os R v xs)) {b o n c : Nat} (hv : v = .slice (some ⟨b, o, none⟩) n c) {idx : Int} {x : α} (hx : ix xs idx = some x) :
  ∃ r, v = .slice (some ⟨b, o, none⟩) xs.length R.sz ∧ b < V.H.next ∧ R.rel V r x ∧ ∀ (j : Nat) (u : Value), r[j]? = some u → V.H.cell b (o + idx.toNat * R.sz + j) = some u := by
 obtain ⟨b', o', r, h, h2, h3, h4⟩ := ow.osix hk0 hx
 rw [hv] at h
 cases h
 exact ⟨r, hv, h2, h3, h4⟩
theorem pick2 {α : Type _} {l : List α} {j k : Nat} {a b : α} (hj : l[j]? = some a) (hk : l[k]? = some b) (hne : j ≠ k) : ∃ k' : Nat, (l.eraseIdx j)[k']? = some b := by
 by_cases h : k < j
 ·exact ⟨k, by rw [List.getElem?_eraseIdx, if_pos h]; exact hk⟩
 ·exact ⟨k - 1, by rw [List.getElem?_eraseIdx, if_neg (by omega), show k - 1 + 1 = k by omega]; exact hk⟩
theorem Ow.two {j : Nat} {A B : At} (ow : Ow V As) (hj : As[j]? = some A) (hk : As[k]? = some B) (hne : j ≠ k) : ∃ p q, A.sat V p ∧ B.sat V q ∧ StP V (p ++ q) := by
 have h1 := ow.pick j hj
 obtain ⟨k', hk'⟩ := pick2 hj hk hne
 have h2 := h1.pick (k' + 1) (A := B) (by simpa using hk')
 obtain ⟨p0, h3, h4⟩ := h2
 obtain ⟨p1, p2, rfl, h5, h6⟩ := h4.split
 simp only [List.eraseIdx_cons_succ] at h6
 obtain ⟨p3, p4, rfl, h7, h8⟩ := h6.split
 exact ⟨p3, p1, h7, h5, (h3.perm (q := (p3 ++ p1) ++ p4) (by rw [List.append_assoc]; exact List.perm_append_comm_assoc _ _ _)).left⟩
theorem Ow.nept {j b c : Nat} {x y : AObj} (ow : Ow V As) (hj : As[j]? = some (At.pt b x)) (hk : As[k]? = some (At.pt c y)) (hne : j ≠ k) : b ≠ c := by
 intro e
 subst e
 obtain ⟨p, q, h1, h2, h3⟩ := ow.two hj hk hne
 have h1 : p = [(b, x)] := h1
 have h2 : q = [(b, y)] := h2
 subst h1 h2
 have := h3.nd
 simp at this
theorem Ow.noos {α : Type} {R : RT α} {v : Value} {xs : List α} {j b : Nat} {x : AObj} (ow : Ow V As) (hj : As[j]? = some (At.pt b x)) (hk : As[k]? = some (At.os R v xs)) (hne : j ≠ k) : ∀ p, StP V p → (At.os R v xs).sat V p → b ∉ p.map (·.1) := by
 intro p hp hs hm
 obtain ⟨p3, p1, h7, h5, h3⟩ := ow.two hj hk hne
 have h7 : p3 = [(b, x)] := h7
 subst h7
 obtain ⟨_, ⟨rfl, _⟩ | ⟨b1, o1, c1, hv, rfl, _⟩⟩ := hs
 ·simp at hm
 ·have hb : b = b1 := by simpa using hm
  subst hb
  obtain ⟨_, ⟨_, hv2, _⟩ | ⟨b2, o2, c2, hv2, rfl, _⟩⟩ := h5
  ·rw [hv] at hv2; cases hv2
  ·rw [hv] at hv2
   cases hv2
   have := h3.nd
   simp at this
end
theorem preG {xs ys : List Value} {j : Nat} {v : Value} (h : xs[j]? = some v) : (xs ++ ys)[j]? = some v := by
 rw [List.getElem?_append_left (List.getElem?_eq_some_iff.1 h).1]; exact h
theorem partG {ps xs ys : List Value} {j : Nat} {v : Value} (k : Nat) (h : xs[j]? = some v) (hk : ps.length = k) : (ps ++ xs ++ ys)[k + j]? = some v := by
 subst hk
 rw [List.append_assoc, List.getElem?_append_right (by omega), Nat.add_sub_cancel_left]
 exact preG h
theorem cellsOfOwn {M : Nat → Prop} {V : Vw} {b e : Nat} {c cs : List Value} (h : Own M V b (.cells e c)) (off : Nat) (hd : (c.drop off).take cs.length = cs) : ∀ (j : Nat) (v : Value), cs[j]? = some v → V.H.cell b (off + j) = some v := fun j v hj => h.cell (by
 rw [← hd, List.getElem?_take] at hj
 split at hj
 ·rwa [List.getElem?_drop] at hj
 ·cases hj)
section
variable {t : T}
theorem amN : (#[] : Array Operand).map (aev t) = #[] := by simp
theorem am1 {x : Operand} {v : Value} (h : aev t x = v) : #[x].map (aev t) = #[v] := by simp [h]
end
namespace S
variable {P : Program} {C : CallRel} {o : Oper} {t : T} {H : AH}
theorem makeFunc' {fn : Fn} {us vs : Array Operand} {as bs : Array Value} (ho : o.op = .makeFunc fn us vs) (h1 : us.map (aev t) = as) (h2 : vs.map (aev t) = bs) : Step P C o t H .pure (.func fn as bs) H := by
 have := makeFunc (P := P) (C := C) (t := t) (H := H) ho
 rwa [h1, h2] at this
theorem neg {ty : TypeId} {x : Operand} {k : IntKind} {a : Int} (ho : o.op = .unOp .neg ty x) (hx : aev t x = .int k a) : Step P C o t H .pure (.int k (IntKind.wrap k (0 - a))) H := by
 refine .p _ (.flat _ (fun z hz => ?_) (fun cs b => by rw [ho]; simp) (.atom _ (.int _ _)) (fun w => ?_))
 ·rw [ho] at hz
  simp [Op.operands] at hz
  rw [hz, hx]; exact .atom _ (.int _ _)
 ·simp [execOp, ho, hx, Op.unary, Op.intArith]
theorem maxI {x y : Operand} {ty ty' : TypeId} {a b : Int} {k : IntKind} (ho : o.op = .call { callee := .builtin .max, args := #[x, y], argTypes := #[ty, ty'] }) (hx : aev t x = .int k a) (hy : aev t y = .int k b) : Step P C o t H .pure (.int k (max a b)) H := by
 refine .p _ (.flat _ (fun z hz => ?_) (fun cs b => by rw [ho]; simp) (.atom _ (.int _ _)) (fun w => ?_))
 ·rw [ho] at hz
  simp [Op.operands, Call.operands] at hz
  rcases hz with rfl | rfl
  ·rw [hx]; exact .atom _ (.int _ _)
  ·rw [hy]; exact .atom _ (.int _ _)
 ·simp [execOp, ho, hx, hy, resolve, invoke, builtin, Builtin.max_, Builtin.max2]
  split <;> omega
end S
end Go.Vm
namespace Go.Vm
open Go Go.RowKit
theorem Rd.map {P : Program} {t : TypeId} {sz : Nat} {α β : Type} {RE : Vw → List Value → α → Prop} {OK : α → Prop} {RE' : Vw → List Value → β → Prop} {OK' : β → Prop} (h : Rd P t sz RE OK) (g : α → β) (hg : ∀ H cs y, RE H cs y → OK y → RE' H cs (g y) ∧ OK' (g y)) : Rd P t sz RE' OK' := by
 intro HH enc w fuel cs x hs ht
 obtain ⟨h1, h2, y, h3, h4⟩ := h HH enc w fuel cs x hs ht
 exact ⟨h1, h2, g y, hg _ _ _ h3 h4⟩
theorem shape_pos {w : World} {b : Nat} {x : TypeId × Nat} (h : w.shape? b = some x) : 0 < w.heap.size := by
 unfold World.shape? at h
 split at h
 ·rename_i hc
  have := (Array.getElem?_eq_some_iff.1 hc).1
  omega
 ·cases h
theorem cell_pos {P : Program} {w : World} {r : Reach} {base : Nat} {t : TypeId} {a : Addr} {n c : Nat} (h : Cell.okWide P w r base t (.slice (some a) n c)) : 0 < w.heap.size := by
 have h : Cell.ok P w r base t (.slice (some a) n c) := by
  unfold Cell.okWide at h
  split at h <;> first | (rename_i h1 h2; cases h2; done) | skip
  all_goals first | exact h | skip
  all_goals (rename_i heq; cases heq)
 unfold Cell.ok at h
 split at h <;> rename_i h1 <;> first | (cases h1; done) | skip
 all_goals first | (obtain ⟨_, _, _, _, row, cells, hs, _⟩ := h; exact shape_pos hs) | exact h.elim | skip
theorem cell_noagg {P : Program} {w : World} {r : Reach} {base : Nat} {t : TypeId} {xs : Array Value} (h : Cell.okWide P w r base t (.agg xs)) : False := by
 have h : Cell.ok P w r base t (.agg xs) := by
  unfold Cell.okWide at h
  split at h <;> first | (rename_i h1 h2; cases h2; done) | skip
  all_goals first | exact h | skip
  all_goals (rename_i heq; cases heq)
 unfold Cell.ok at h
 split at h <;> rename_i h1 <;> first | (cases h1; done) | skip
 all_goals exact h
theorem okWide_sure {P : Program} {w : World} {r : Reach} {base : Nat} {t : TypeId} {v : Value} (h : Value.okWide P w r base t v) : Sure w v.cells.toList := by
 by_cases hp : 0 < w.heap.size
 ·exact .inl hp
 refine .inr (fun u hu a n c he => ?_)
 subst he
 apply hp
 have one : Cell.okWide P w r base t v → 0 < w.heap.size := by
  intro hc
  have hna : ∀ xs, v ≠ .agg xs := fun xs e => by subst e; exact cell_noagg hc
  have h1 : v.cells = #[v] := by cases v <;> first | rfl | exact absurd rfl (hna _)
  rw [h1] at hu
  have : .slice (some a) n c = v := by simpa using hu
  subst this
  exact cell_pos hc
 have many : (∃ cs, v = .agg cs ∧ cs.size = P.cellsOf t ∧ Row.okWide P w r base t cs) → 0 < w.heap.size := by
  rintro ⟨cs, rfl, _, ts, _, _, h3⟩
  obtain ⟨i, hi⟩ := List.getElem?_of_mem hu
  obtain ⟨q, _, hq⟩ := h3 i _ (by simpa [Value.cells] using hi)
  exact cell_pos hq
 unfold Value.okWide at h
 split at h
 ·exact many h
 ·exact many h
 ·exact one h
section
variable {P : Program} {W : World} {r : Reach} {base : Nat} {t : TypeId} {v : Value} {HH : Type} {enc : TypeId × Value → HH} {sz : Nat} {α : Type} {RE : Vw → List Value → α → Prop} {OK : α → Prop} {d : DataW HH} {ps : List MemPlace}
end
theorem law_top2 {P : Program} {G n : Nat} {args : Array Value} {w : World} (hm : P.follows .mixedOrders = true) (ha : ∀ v ∈ args.toList, ∀ u ∈ v.cells.toList, Good w u) (h : ∃ v V', Cl P G n (args.map aA) (V0of w).H v V'.H ∧ (V0of w).le V' ∧ v = .bool true ∧ Ow V' []) :
  Calls P n args w fun e w' => e = .returned (.bool true) ∧ Below w.heap.size w w' := by
 obtain ⟨v, V', h1, _, rfl, _⟩ := h
 refine (Cl.snd hm n _ _ _ _ h1 (idI w) w args (R.start w) ⟨by simp, fun i h1 h2 => ?_⟩).mono ?_
 ·rw [Array.getElem_map]
  exact VR.aA (ha _ (by simp))
 rintro e w' ⟨u, ι', rfl, hu, hn, hr, h2, h3, h4⟩
 refine ⟨by rw [hu.bool_eq], ⟨h4.1, h4.2.1, h4.2.2, h2, fun k hk => h3 k hk (fun b l hb hl hlo => ?_)⟩⟩
 have := (R.start w).dom b l hb
 have hlo : w.heap.size ≤ b := hlo
 have hlt : b < w.heap.size := this.1
 omega
def InR (k : IntKind) (x : Int) : Prop := (Lit.int k x).wf = true
theorem InR.i64 {x : Int} (h : InR .i64 x) : -9223372036854775808 ≤ x ∧ x ≤ 9223372036854775807 := by
 unfold InR Lit.wf at h
 simp [IntKind.min, IntKind.max, IntKind.signed, IntKind.bits] at h
 omega
end Go.Vm
namespace Go.Vm
open Go
def mG {β : Type} (m : List (Int × β)) (k : Int) : Option β := (m.find? fun p => p.1 == k).map (·.2)
def mI {β : Type} (m : List (Int × β)) (k : Int) : Option Nat := m.findIdx? fun p => p.1 == k
def mS {β : Type} (m : List (Int × β)) (k : Int) (x : β) : List (Int × β) := match mI m k with
 | some j => m.set j (k, x)
 | none => m ++ [(k, x)]
def RT.vrel {β : Type} (R : RT β) (agg : Bool) (V : Vw) (v : Value) (x : β) : Prop := if agg = true then ∃ cs, v = .agg cs ∧ R.rel V cs.toList x else R.rel V [v] x
theorem RT.vrel.up {β : Type} {R : RT β} {agg : Bool} {V V' : Vw} {v : Value} {x : β} (h : R.vrel agg V v x) (hle : V.le V') : R.vrel agg V' v x := by
 unfold RT.vrel at h ⊢
 cases agg with
 | true => obtain ⟨cs, h1, h2⟩ := h; exact ⟨cs, h1, R.ty.up _ _ _ _ hle h2⟩
 | false => exact R.ty.up _ _ _ _ hle h
inductive MRel {β : Type} (R : RT β) (agg : Bool) (V : Vw) : List (Int × Value) → List (Int × β) → Prop
 | nil : MRel R agg V [] []
 | cons (k : Int) (v : Value) (x : β) (l : List (Int × Value)) (m : List (Int × β)) (h : R.vrel agg V v x) (h' : MRel R agg V l m) : MRel R agg V ((k, v) :: l) ((k, x) :: m)
section
variable {β : Type} {R : RT β} {agg : Bool} {V V' : Vw} {l : List (Int × Value)} {m : List (Int × β)} {k : Int}
theorem MRel.up (h : MRel R agg V l m) (hle : V.le V') : MRel R agg V' l m := by
 induction h with
 | nil => exact .nil
 | cons k v x l m h _ ih => exact .cons k v x l m (h.up hle) ih
theorem MRel.ix (h : MRel R agg V l m) : mix l k = mI m k := by
 induction h with
 | nil => rfl
 | cons q v x l m h _ ih => simp only [mix, mI, List.findIdx?_cons] at ih ⊢; rw [ih]
theorem MRel.get (h : MRel R agg V l m) : (mget l k = none ∧ mG m k = none) ∨ ∃ v x, mget l k = some v ∧ mG m k = some x ∧ R.vrel agg V v x := by
 induction h with
 | nil => exact .inl ⟨rfl, rfl⟩
 | cons q v x l m h _ ih =>
  by_cases hq : (q == k) = true
  ·exact .inr ⟨v, x, by simp [mget, List.find?_cons, hq], by simp [mG, List.find?_cons, hq], h⟩
  ·have hq : (q == k) = false := by simpa using hq
   simp only [mget, mG, List.find?_cons, hq] at ih ⊢
   exact ih
theorem MRel.set (h : MRel R agg V l m) {v : Value} {x : β} (hv : R.vrel agg V v x) : MRel R agg V (mset l k v) (mS m k x) := by
 unfold mset mS
 rw [h.ix]
 cases hm : mI m k with
 | none =>
  clear hm
  show MRel R agg V (l ++ [(k, v)]) (m ++ [(k, x)])
  induction h with
  | nil => exact .cons _ _ _ _ _ hv .nil
  | cons q u y l m h _ ih => exact .cons q u y _ _ h ih
 | some j =>
  clear hm
  show MRel R agg V (l.set j (k, v)) (m.set j (k, x))
  induction h generalizing j with
  | nil => exact .nil
  | cons q u y l m h h' ih =>
   cases j with
   | zero => exact .cons k v x l m hv h'
   | succ j => exact .cons q u y _ _ h (ih j)
end
def At.om {β : Type} (R : RT β) (agg : Bool) (v : Value) (m : List (Int × β)) : At where
 sat V p := ∃ b l, v = .map (some b) ∧ p = [(b, .amap l)] ∧ MRel R agg V l m
 up V V' p hle h := by
  obtain ⟨b, l, h1, h2, h3⟩ := h
  exact ⟨b, l, h1, h2, h3.up hle⟩
section
variable {P : Program} {G N : Nat} {dr : Bool} {ops : Array Oper} {i : Nat} {hist : Hist} {l : List (Nat × Value)} {V : Vw} {Q : LQ} {o : Oper} {d : Tmp} {As : List At} {k : Nat} {β : Type} {R : RT β} {agg : Bool} {v : Value} {m : List (Int × β)}
theorem Ow.omsat (h : Ow V As) (hk : As[k]? = some (.om R agg v m)) : ∃ b es, v = .map (some b) ∧ V.H.get b = some (.amap es) ∧ V.H.lo ≤ b ∧ b < V.H.next ∧ ¬ V.F b ∧ MRel R agg V es m := by
 obtain ⟨p, h1, h2, _⟩ := Ow.chg (Bs := [.om R agg v m]) (h.pick k hk)
 obtain ⟨p1, p2, rfl, ⟨b, es, rfl, rfl, h5⟩, h4⟩ := h2.split
 obtain ⟨q1, q2, q3, q4⟩ := h1.own (b, .amap es) (by simp)
 exact ⟨b, es, rfl, q4, q1, q2, q3, h5⟩
theorem Ow.omne (h : Ow V As) (hk : As[k]? = some (.om R agg v m)) : v ≠ topV := by obtain ⟨b, es, rfl, _⟩ := h.omsat hk; simp [topV]
theorem Ow.omcells (h : Ow V As) (hk : As[k]? = some (.om R agg v m)) : v.cells = #[v] := by obtain ⟨b, es, rfl, _⟩ := h.omsat hk; rfl
theorem O.makeMap {ty : TypeId} (R : RT β) (agg : Bool) (ow : Ow V As) (ho : ops[i]? = some o) (hd : o.dst = some d) (hg : GOk ops l o) (hop : o.op = .makeMap ty none)
  (hk : ∀ x, okU dr ops i (.alloc V.H.next) V.H (V.H.new x) hist) (h : ∀ v V1, V.le V1 → Ow V1 (.om R agg v [] :: As) → WU dr P G ops (i + 1) (hadd dr (i, .alloc V.H.next, V.H, V1.H) hist) ((d, v) :: l) V1.H Q) : WU dr P G ops i hist l V.H Q := by
 have nw : Nw V V.H.next (V.new (.amap [])) (.amap []) := ⟨rfl, rfl⟩
 refine U.k ho hd hg (S.makeMap hop) (hk _) (h (.map (some V.H.next)) _ nw.le ?_)
 obtain ⟨p, h1, h2, h3⟩ := Ow.chg (Bs := [.pt V.H.next (.amap [])]) (As := As) (ow.nw nw)
 obtain ⟨p1, p2, rfl, h4, h5⟩ := h2.split
 cases h5
 have h4 : p1 = [(V.H.next, .amap [])] := h4
 subst h4
 exact h3 _ [.om R agg (.map (some V.H.next)) []] _ (.refl _) (fun c _ _ _ hf => ⟨rfl, hf⟩) h1 (.cons [(V.H.next, .amap [])] [] _ _ ⟨V.H.next, [], rfl, rfl, .nil⟩ .nil) (fun c hc => .inl hc)
theorem Ow.omget {C : CallRel} {t : T} {ty kt e : TypeId} {x y : Operand} {q : Int} {z : Value} {n mm : Nat} {z0 : β} {ok : Bool} (ow : Ow V As) (hk : As[k]? = some (.om R agg v m)) (ho : o.op = .lookup ty x y ok) (hx : aev t x = v) (hy : aev t y = .int .i64 q)
  (hu : P.underlying ty = some (.map kt e)) (hkt : P.underlying kt = some (.int .i64)) (hi : tinfo P e z n mm) (hz : constB z = true) (hz0 : R.vrel agg V z z0) :
  ∃ b u, (b < V.H.next ∧ v = .map (some b)) ∧ R.vrel agg V u ((mG m q).getD z0) ∧ Step P C o t V.H (.read b) (if ok = true then .tuple #[u, .bool (mG m q).isSome] else u) V.H := by
 obtain ⟨b, es, rfl, h1, h2, h3, h4, h5⟩ := ow.omsat hk
 obtain ⟨inf, i1, i2, i3, i4⟩ := tinfo_get hi
 have hs := LOp.lookup (P := P) (ρ := aev t) (H := V.H) (o := o) ty kt e x y b es q inf z ok ho hx hy hu hkt i1 i2 hz h1
 rcases h5.get (k := q) with ⟨g1, g2⟩ | ⟨u, w, g1, g2, g3⟩
 ·refine ⟨b, z, ⟨h3, rfl⟩, by rw [g2]; exact hz0, ?_⟩
  have he : lookV ok es q z = if ok = true then .tuple #[z, .bool (mG m q).isSome] else z := by unfold lookV; rw [g1, g2]; rfl
  rw [← he]; exact .l b _ hs
 ·refine ⟨b, u, ⟨h3, rfl⟩, by rw [g2]; exact g3, ?_⟩
  have he : lookV ok es q z = if ok = true then .tuple #[u, .bool (mG m q).isSome] else u := by unfold lookV; rw [g1, g2]; rfl
  rw [← he]; exact .l b _ hs
theorem Ow.omchg {V' : Vw} {b : Nat} {es es' : List (Int × Value)} {m' : List (Int × β)} (ow : Ow V As) (hk : As[k]? = some (.om R agg (.map (some b)) m)) (hg : V.H.get b = some (.amap es)) (n : St V b V' (.amap es')) (hr : MRel R agg V' es' m') : Ow V' (As.set k (.om R agg (.map (some b)) m')) :=
 ow.st1 hk (b := b) (x := .amap es) (fun p hp hs => by
  obtain ⟨b2, l2, h1, rfl, _⟩ := hs
  cases h1
  have := (hp.own (b, .amap l2) (by simp)).2.2.2
  rw [hg] at this
  cases this
  rfl) n ⟨b, es', rfl, rfl, hr⟩
theorem O.mapUpdate {ty kt e : TypeId} {x y z : Operand} {q : Int} {u : Value} {w : β} (ow : Ow V As) (hk0 : As[k]? = some (.om R agg v m)) (ho : ops[i]? = some o) (hd : o.dst = none) (hg : GOk ops l o) (hop : o.op = .mapUpdate ty x y z) (hx : aev (fr l) x = v) (hy : aev (fr l) y = .int .i64 q) (hz : aev (fr l) z = u)
  (hu : P.underlying ty = some (.map kt e)) (hkt : P.underlying kt = some (.int .i64)) (hv : R.vrel agg V u w) (hk : ∀ H1 : AH, (∀ c, (∀ b, v = .map (some b) → c ≠ b) → H1.get c = V.H.get c) → okU dr ops i .eff V.H H1 hist)
  (h : ∀ V1, V.le V1 → Ow V1 (As.set k (.om R agg v (mS m q w))) → WU dr P G ops (i + 1) (hadd dr (i, .eff, V.H, V1.H) hist) l V1.H Q) : WU dr P G ops i hist l V.H Q := by
 obtain ⟨b, es, rfl, h1, h2, h3, h4, h5⟩ := ow.omsat hk0
 have hs := MOp.mapUpdate (P := P) (ρ := aev (fr l)) (H := V.H) (o := o) ty kt e x y z b es q hop hx hy hu hkt h2 h1
 rw [hz] at hs
 have n : St V b (V.set b (.amap (mset es q u))) (.amap (mset es q u)) := ⟨rfl⟩
 have hle := n.le (M := fun _ => True) ⟨trivial, h2, h3, h4, h1⟩
 refine U.kn (v := undef) ho hd hg (.m _ _ hs) (hk _ (fun c hc => by simp [AH.upd, hc b rfl])) (h (V.set b (.amap (mset es q u))) hle ?_)
 exact ow.omchg hk0 h1 n ((h5.set hv).up hle)
end
section
variable {P : Program} {G N : Nat} {dr : Bool} {ops : Array Oper} {i : Nat} {hist : Hist} {l : List (Nat × Value)} {V : Vw} {Q : LQ} {o : Oper} {d : Tmp} {As : List At} {k b e n : Nat} {α : Type} {R : RT α} {xs : List α}
theorem S.indexV {C : CallRel} {t : T} {H : AH} {ty el : TypeId} {x y : Operand} {cs : List Value} {kk : IntKind} {idx : Int} {dd : TypeDesc} {z : Value} {m : Nat} {w : α} (hr : Rows R.rel V cs xs) (h1 : R.sz = 1) (ho : o.op = .index ty x y) (hx : aev t x = .agg cs.toArray) (hy : aev t y = .int kk idx)
  (hu : P.underlying ty = some (.array n el)) (hn : xs.length = n) (hd : P.underlying el = some dd) (ha : isAggD dd = false) (hi : tinfo P el z 1 m) (hw : ix xs idx = some w) : ∃ u, R.rel V [u] w ∧ Step P C o t H .pure u H := by
 obtain ⟨r, h2, h3⟩ := hr.at R.ty (ix_get hw)
 have hl := R.ty.len _ _ _ h2
 rw [h1] at hl
 match r, hl with
 | [u], _ =>
  refine ⟨u, h2, ?_⟩
  have h4 := h3 0 u rfl
  rw [h1, Nat.mul_one, Nat.add_zero] at h4
  obtain ⟨inf, i1, i2, i3, i4⟩ := tinfo_get hi
  exact .b _ (.indexArr ty x y n el cs.toArray kk idx dd u inf ho hx hy hu (ix_ge hw) (by have := ix_lt hw; omega) i1 hd ha (by rw [i3]; simpa using h4))
end
section
variable {P : Program} {V : Vw} {o : Oper} {As : List At} {k : Nat} {β : Type} {R : RT β} {agg : Bool} {v : Value} {m : List (Int × β)} {C : CallRel} {t : T} {ty kt e : TypeId} {x y : Operand} {q : Int} {z : Value} {n mm : Nat} {z0 : β}
theorem Ow.omget1 (ow : Ow V As) (hk : As[k]? = some (.om R agg v m)) (ho : o.op = .lookup ty x y false) (hx : aev t x = v) (hy : aev t y = .int .i64 q) (hu : P.underlying ty = some (.map kt e)) (hkt : P.underlying kt = some (.int .i64)) (hi : tinfo P e z n mm) (hz : constB z = true) (hz0 : R.vrel agg V z z0) :
  ∃ b u, (b < V.H.next ∧ v = .map (some b)) ∧ R.vrel agg V u ((mG m q).getD z0) ∧ Step P C o t V.H (.read b) u V.H := by
 obtain ⟨b, u, h1, h2, h3⟩ := ow.omget (C := C) hk ho hx hy hu hkt hi hz hz0
 exact ⟨b, u, h1, h2, by simpa using h3⟩
theorem vrel_cell {α : Type} {R : RT α} {V : Vw} {u : Value} {x : α} (h : R.vrel false V u x) : R.rel V [u] x := by simpa [RT.vrel] using h
theorem cell_vrel {α : Type} {R : RT α} {V : Vw} {u : Value} {x : α} (h : R.rel V [u] x) : R.vrel false V u x := by simpa [RT.vrel] using h
end
section
variable {α : Type} {R : RT α} {V : Vw} {v : Value} {xs : List α} {As : List At} {k : Nat}
theorem Ow.oseqNil (ow : Ow V As) (hk : As[k]? = some (.os R v xs)) {P : Program} {C : CallRel} {o : Oper} {t : T} {H : AH} {x y : Operand} {ty u e : TypeId} (ho : o.op = .binOp .eql ty x y u) (hx : aev t x = v) (hy : aev t y = .slice none 0 0) (hu : P.underlying ty = some (.slice e)) : Step P C o t H .pure (.bool (isNil v)) H := by
 obtain ⟨p, _, _, ⟨_, rfl, _⟩ | ⟨b, o', cs, rfl, _⟩⟩ := ow.osat hk
 ·exact S.nilNil ho hx hy hu
 ·exact S.nilS ho (.inl rfl) hx hy hu
theorem Ow.osnil_of (ow : Ow V As) (hk : As[k]? = some (.os R v xs)) (hn : isNil v = true) : xs = [] := by
 obtain ⟨p, _, _, ⟨_, _, rfl⟩ | ⟨b, o', cs, rfl, _⟩⟩ := ow.osat hk
 ·rfl
 ·cases hn
end
end Go.Vm
