/-
  Part of an evaluator for the model, proved sound: no condition.
-/
import Derived.Test.YtcacllfgnjlhiaaEVm16
set_option linter.unusedSimpArgs false
set_option linter.unusedVariables false
namespace Go.Vm
open Go
structure ExtH (H H' : AH) : Prop where
 next : H.next ≤ H'.next
 lo : H'.lo = H.lo
 get : ∀ b, b < H.next → H'.get b = H.get b
theorem ExtH.refl (H : AH) : ExtH H H := ⟨Nat.le_refl _, rfl, fun _ _ => rfl⟩
theorem ExtH.trans {A B D : AH} (h : ExtH A B) (h' : ExtH B D) : ExtH A D := ⟨Nat.le_trans h.next h'.next, h'.lo.trans h.lo, fun b hb => (h'.get b (Nat.lt_of_lt_of_le hb h.next)).trans (h.get b hb)⟩
theorem ExtH.cell {H H' : AH} (h : ExtH H H') {b o : Nat} {v : Value} (hb : b < H.next) (hc : H.cell b o = some v) : H'.cell b o = some v := (cell_congr (h.get b hb)).trans hc
structure OwnH (H0 H : AH) (b : Nat) (x : AObj) : Prop where
 ge : H0.next ≤ b
 lt : b < H.next
 get : H.get b = some x
theorem OwnH.ext {H0 H H' : AH} {b : Nat} {x : AObj} (h : OwnH H0 H b x) (he : ExtH H H') : OwnH H0 H' b x := ⟨h.ge, Nat.lt_of_lt_of_le h.lt he.next, (he.get b h.lt).trans h.get⟩
theorem OwnH.cell {H0 H : AH} {b e o : Nat} {c : List Value} {v : Value} (h : OwnH H0 H b (.cells e c)) (hv : c[o]? = some v) : H.cell b o = some v := S.cellB h.get hv
structure NwH (H : AH) (b : Nat) (H' : AH) (x : AObj) : Prop where
 eq : b = H.next
 heap : H' = H.new x
theorem NwH.ext {H H' : AH} {b : Nat} {x : AObj} (h : NwH H b H' x) : ExtH H H' := by
 obtain ⟨rfl, rfl⟩ := h
 exact ⟨by simp [AH.new], rfl, fun b hb => by simp [AH.new, Nat.ne_of_lt hb]⟩
theorem NwH.own {H0 H H' : AH} {b : Nat} {x : AObj} (h : NwH H b H' x) (he : H0.next ≤ H.next) : OwnH H0 H' b x := by
 obtain ⟨rfl, rfl⟩ := h
 exact ⟨he, by simp [AH.new], by simp [AH.new]⟩
theorem OwnH.ne {H0 H H' : AH} {b c : Nat} {x y : AObj} (h : OwnH H0 H b x) (hn : NwH H c H' y) : b ≠ c := by
 have := hn.eq
 have := h.lt
 omega
structure StH (H : AH) (b : Nat) (H' : AH) (x : AObj) : Prop where
 heap : H' = H.upd b (some x)
theorem StH.ext {H0 H H' : AH} {b : Nat} {x : AObj} (h : StH H b H' x) (he : ExtH H0 H) (hb : H0.next ≤ b) : ExtH H0 H' := by
 obtain ⟨rfl⟩ := h
 exact ⟨he.next, he.lo, fun c hc => by rw [← he.get c hc]; simp [AH.upd, show c ≠ b by omega]⟩
theorem StH.own {H0 H H' : AH} {b : Nat} {x y : AObj} (h : StH H b H' x) (ho : OwnH H0 H b y) : OwnH H0 H' b x := by
 obtain ⟨rfl⟩ := h
 exact ⟨ho.ge, ho.lt, by simp [AH.upd]⟩
theorem OwnH.st {H0 H H' : AH} {b c : Nat} {x y : AObj} (ho : OwnH H0 H c y) (h : StH H b H' x) (hne : c ≠ b) : OwnH H0 H' c y := by
 obtain ⟨rfl⟩ := h
 exact ⟨ho.ge, ho.lt, by simp [AH.upd, hne, ho.get]⟩
structure ApH (H : AH) (b : Option Nat) (b' : Nat) (H' : AH) (x : AObj) : Prop where
 eq : b' = H.next
 heap : H' = (match b with | some b => H.upd b none | none => H).new x
theorem ApH.ext {H0 H H' : AH} {b : Option Nat} {b' : Nat} {x : AObj} (h : ApH H b b' H' x) (he : ExtH H0 H) (hb : ∀ c, b = some c → H0.next ≤ c) : ExtH H0 H' := by
 obtain ⟨rfl, rfl⟩ := h
 cases b with
 | none => exact he.trans ⟨by simp [AH.new], rfl, fun b hb => by simp [AH.new, Nat.ne_of_lt hb]⟩
 | some b =>
  have := hb b rfl
  refine ⟨by have := he.next; simp [AH.new, AH.upd]; omega, he.lo, fun c hc => ?_⟩
  have h1 : c ≠ H.next := by have := he.next; omega
  have h2 : c ≠ b := by omega
  rw [← he.get c hc]
  simp [AH.new, AH.upd, h1, h2]
theorem ApH.own {H0 H H' : AH} {b : Option Nat} {b' : Nat} {x : AObj} (h : ApH H b b' H' x) (he : H0.next ≤ H.next) : OwnH H0 H' b' x := by
 obtain ⟨rfl, rfl⟩ := h
 cases b <;> exact ⟨he, by simp [AH.new, AH.upd], by simp [AH.new, AH.upd]⟩
theorem OwnH.ap {H0 H H' : AH} {b : Option Nat} {b' c : Nat} {x y : AObj} (ho : OwnH H0 H c y) (h : ApH H b b' H' x) (hne : ∀ d, b = some d → c ≠ d) : OwnH H0 H' c y := by
 obtain ⟨rfl, rfl⟩ := h
 have := ho.lt
 cases b with
 | none => exact ⟨ho.ge, by simp [AH.new]; omega, by simp [AH.new, Nat.ne_of_lt ho.lt, ho.get]⟩
 | some d => exact ⟨ho.ge, by simp [AH.new, AH.upd]; omega, by simp [AH.new, AH.upd, Nat.ne_of_lt ho.lt, hne d rfl, ho.get]⟩
theorem ApH.ne {H0 H H' : AH} {b : Option Nat} {b' c : Nat} {x y : AObj} (h : ApH H b b' H' x) (ho : OwnH H0 H c y) : c ≠ b' := by
 have := h.eq
 have := ho.lt
 omega
theorem WP.loopI {P : Program} {G N : Nat} {σ : Type} (F : σ → List (Nat × Value)) (I : σ → AH → Prop) (μ : σ → Nat) {c : Code} {Q : XQ}
  (round : ∀ s H, I s H → WP P G N c (sq (fun l H' => ∃ s', I s' H' ∧ μ s' < μ s ∧ ∀ p ∈ F s', fr l p.1 = p.2) Q) (F s) H) (s : σ) (H : AH) (h : I s H) (l : List (Nat × Value)) (hl : ∀ p ∈ F s, fr l p.1 = p.2) : WP P G N (.loop c) Q l H := by
 have key : ∀ (n : Nat) (s : σ) (H : AH), μ s = n → I s H → WP P G N (.loop c) Q (F s) H := by
  intro n
  induction n using Nat.strongRecOn with
  | _ n ih =>
   intro s H hn hI
   refine WP.loop ((round s H hI).mono (fun e l H' hq => ?_))
   cases e with
   | normal =>
    obtain ⟨s', h1, h2, h3⟩ := hq
    exact WP.weak (F s') h3 (ih (μ s') (hn ▸ h2) s' H' rfl h1)
   | exit id => exact hq
   | ret => exact hq
 exact WP.weak (F s) hl (key _ s H rfl h)
theorem allNil {l : List (Nat × Value)} : ∀ p ∈ ([] : List (Nat × Value)), fr l p.1 = p.2 := fun p h => by cases h
theorem allCons {l r : List (Nat × Value)} {i : Nat} {v : Value} (h : aev (fr l) (.tmp i) = v) (hr : ∀ p ∈ r, fr l p.1 = p.2) : ∀ p ∈ (i, v) :: r, fr l p.1 = p.2 := fun p hp => by
 cases hp with
 | head => exact h
 | tail _ hp => exact hr p hp
section
variable {P : Program} {G N : Nat} {ops : Array Oper} {i : Nat} {l : List (Nat × Value)} {H : AH} {Q : LQ} {o : Oper} {d : Tmp}
theorem WO.box {e : TypeId} {x : Operand} {v : Value} {cs : List Value} (ho : ops[i]? = some o) (hd : o.dst = some d) (hg : o.guard = none) (hop : o.op = .box e x) (hx : aev (fr l) x = v) (hv : v ≠ topV) (hc : v.cells.toList = cs)
  (h : ∀ b H1, NwH H b H1 (.cells 0 cs) → WO P G ops (i + 1) ((d, .pointer (some ⟨b, 0, none⟩)) :: l) H1 Q) : WO P G ops i l H Q := WO.s ho hd hg (S.box hop hx hv hc) (h _ _ ⟨rfl, rfl⟩)
theorem WO.alloc {e : TypeId} {z : Value} {n m : Nat} {cs : List Value} (ho : ops[i]? = some o) (hd : o.dst = some d) (hg : o.guard = none) (hop : o.op = .alloc e) (hi : tinfo P e z n m) (hz : constB z = true) (hc : z.cells.toList = cs)
  (h : ∀ b H1, NwH H b H1 (.cells n cs) → WO P G ops (i + 1) ((d, .pointer (some ⟨b, 0, none⟩)) :: l) H1 Q) : WO P G ops i l H Q := WO.s ho hd hg (S.alloc hop hi hz hc) (h _ _ ⟨rfl, rfl⟩)
theorem WO.makeSlice {ty : TypeId} {x y : Operand} {k k' : IntKind} {e : TypeId} {z : Value} {n m q : Nat} (ho : ops[i]? = some o) (hd : o.dst = some d) (hg : o.guard = none) (hop : o.op = .makeSlice ty x y) (hx : aev (fr l) x = .int k q) (hy : aev (fr l) y = .int k' q) (hu : P.underlying ty = some (.slice e)) (hi : tinfo P e z n m) (hz : constB z = true) (hs : z.cells.size = n)
  (hn : (n == 0) = false) (hb : q < 2 ^ 40) (hb2 : q * m ≤ 2 ^ 46) (h : ∀ b H1, NwH H b H1 (.cells n ((List.range (q * n)).map fun j => z.cells[j % z.cells.size]!)) → WO P G ops (i + 1) ((d, .slice (some ⟨b, 0, none⟩) q n) :: l) H1 Q) : WO P G ops i l H Q :=
 WO.s ho hd hg (S.makeSlice hop hx hy hu hi hz hs hn hb hb2) (h _ _ ⟨rfl, rfl⟩)
theorem WO.buildSlice {ty : TypeId} {len : Nat} {parts : Array (Nat × Operand)} {e : TypeId} {z : Value} {n m : Nat} {r : Array Value} {cs : List Value} (ho : ops[i]? = some o) (hd : o.dst = some d) (hg : o.guard = none) (hop : o.op = .buildSlice ty len parts) (hu : P.underlying ty = some (.slice e)) (hi : tinfo P e z n m) (hz : constB z = true) (hs : z.cells.size = n) (hn : (n == 0) = false) (hlim : len * n ≤ 2 ^ 24)
  (ht : ∀ p ∈ parts.toList, aev (fr l) p.2 ≠ topV) (hr : Instr.fill (fun k => some (k * n, n)) ((Array.range (len * n)).map fun j => z.cells[j % z.cells.size]!) (parts.map fun (k, x) => (k, aev (fr l) x)).toList = some r) (hrs : r.size = len * n) (hc : r.toList = cs)
  (h : ∀ b H1, NwH H b H1 (.cells n cs) → WO P G ops (i + 1) ((d, .slice (some ⟨b, 0, none⟩) len n) :: l) H1 Q) : WO P G ops i l H Q := WO.s ho hd hg (S.buildSlice hop hu hi hz hs hn hlim ht hr hrs hc) (h _ _ ⟨rfl, rfl⟩)
theorem WO.build1 {ty : TypeId} {x : Operand} {e : TypeId} {z v : Value} {n m : Nat} {cs : List Value} (ho : ops[i]? = some o) (hd : o.dst = some d) (hg : o.guard = none) (hop : o.op = .buildSlice ty 1 #[(0, x)]) (hx : aev (fr l) x = v) (hu : P.underlying ty = some (.slice e)) (hi : tinfo P e z n m) (hz : constB z = true) (hs : z.cells.size = n) (hn : (n == 0) = false) (hlim : n ≤ 2 ^ 24)
  (ht : v ≠ topV) (hc : v.cells.toList = cs) (hl : cs.length = n) (h : ∀ b H1, NwH H b H1 (.cells n cs) → WO P G ops (i + 1) ((d, .slice (some ⟨b, 0, none⟩) 1 n) :: l) H1 Q) : WO P G ops i l H Q := by
 subst hc hx
 have h0 := S.fill_all n ((Array.range (1 * n)).map fun j => z.cells[j % z.cells.size]!) (aev (fr l) x) (by rw [← hl]; simp) (by rw [Array.size_map, Array.size_range, Nat.one_mul])
 refine WO.buildSlice ho hd hg hop hu hi hz hs hn (by omega) (fun p hp => ?_) (r := (aev (fr l) x).cells) (by simpa using h0) (by rw [Nat.one_mul, ← hl]; simp) rfl h
 have : p = (0, x) := by simpa using hp
 subst this
 exact ht
theorem WO.makeMap {ty : TypeId} (ho : ops[i]? = some o) (hd : o.dst = some d) (hg : o.guard = none) (hop : o.op = .makeMap ty none) (h : ∀ b H1, NwH H b H1 (.amap []) → WO P G ops (i + 1) ((d, .map (some b)) :: l) H1 Q) : WO P G ops i l H Q := WO.s ho hd hg (S.makeMap hop) (h _ _ ⟨rfl, rfl⟩)
theorem WO.store {H0 : AH} {ty : TypeId} {x y : Operand} {b off esz : Nat} {c cs : List Value} {v z : Value} {n m : Nat} (ho : ops[i]? = some o) (hd : o.dst = none) (hg : o.guard = none) (hop : o.op = .store ty x y) (hx : aev (fr l) x = .pointer (some ⟨b, off, none⟩)) (hy : aev (fr l) y = v) (hi : tinfo P ty z n m)
  (hgb : H.get b = some (.cells esz c)) (hlo : H.lo ≤ b) (hv : v ≠ topV) (hcs : v.cells.toList = cs) (hs : cs.length = n) (hb : off + n ≤ c.length) (h1 : cs.all One = true) {c' : List Value} (hc' : splice c off cs = c') (h : ∀ H1, StH H b H1 (.cells esz c') → WO P G ops (i + 1) l H1 Q) : WO P G ops i l H Q := by
 subst hc'
 exact WO.n ho hd hg (S.store hop hx hy hi hgb hlo hv hcs hs hb h1) (h _ ⟨rfl⟩)
theorem WO.call {f : Operand} {xs : Array Operand} {ts : Array TypeId} {g : FuncId} {us vs args : Array Value} {Post : Value → AH → Prop} (ho : ops[i]? = some o) (hd : o.dst = some d) (hg : o.guard = none) (hop : o.op = .call { callee := .value f, args := xs, argTypes := ts }) (hf : aev (fr l) f = .func (.func g) us vs) (he : enterable P g)
  (ha : us ++ xs.map (aev (fr l)) ++ vs = args) (hc : ∃ v H', Cl P G g args H v H' ∧ Post v H') (h : ∀ v H1, Post v H1 → WO P G ops (i + 1) ((d, v) :: l) H1 Q) : WO P G ops i l H Q := by
 obtain ⟨v, H', h1, h2⟩ := hc
 exact WO.s ho hd hg (S.call hop hf he ha h1) (h v H' h2)
theorem WO.bs {b : Bool} {e : Tmp} (hk : aev (fr l) (.tmp e) = .bool b) (ht : b = true → WO P G ops i ((e, .bool true) :: l) H Q) (hf : b = false → WO P G ops i ((e, .bool false) :: l) H Q) : WO P G ops i l H Q := by
 have key : ∀ c, b = c → fr ((e, .bool c) :: l) = fr l := fun c hc => by
  subst hc
  funext j
  by_cases hj : j = e
  ·subst hj
   have : fr ((j, Value.bool b) :: l) j = .bool b := by simp [fr]
   rw [this]; exact hk.symm
  ·have : (e == j) = false := by simpa using Ne.symm hj
   simp [fr, List.find?_cons, this]
 cases b with
 | true =>
  obtain ⟨l', H', h1, h2⟩ := ht rfl
  exact ⟨l', H', by rw [← key true rfl]; exact h1, h2⟩
 | false =>
  obtain ⟨l', H', h1, h2⟩ := hf rfl
  exact ⟨l', H', by rw [← key false rfl]; exact h1, h2⟩
theorem WO.app {x y : Operand} {ty ty' e : TypeId} {z : Value} {sz m len n c : Nat} {b : Nat} {vx vy : Value} {c0 vs : List Value} (ho : ops[i]? = some o) (hd : o.dst = some d) (hg : o.guard = none) (hop : o.op = .call { callee := .builtin .append, args := #[x, y], argTypes := #[ty, ty'] })
  (hx : aev (fr l) x = .slice (some ⟨b, 0, none⟩) len sz) (hy : aev (fr l) y = vy) (hu : P.underlying ty = some (.slice e)) (hi : tinfo P e z sz m) (hz : z.cells.size = sz) (hs : Src P H sz vy ty' n vs) (hlo : H.lo ≤ b) (hgb : H.get b = some (.cells sz c0)) (hl : c0.length = len * sz) (hn : n ≠ 0)
  (h1 : vs.all One = true) (hb : (len + n) * m ≤ 2 ^ 46) (hb2 : len + n < 2 ^ 40) (hsz : (sz == 0) = false) (h : ∀ b' H1, ApH H (some b) b' H1 (.cells sz (c0 ++ vs)) → WO P G ops (i + 1) ((d, .slice (some ⟨b', 0, none⟩) (len + n) sz) :: l) H1 Q) : WO P G ops i l H Q := by
 obtain ⟨q, h2, h3, h4, h5⟩ := tinfo_get hi
 subst h4
 refine WO.s ho hd hg (.app _ _ (.put x y ty ty' e q z len n c0 vs (H.upd b none) hop hu h2 h3 hz (by rw [hy]; exact hs) ?_ hn (fun v hv => List.all_eq_true.1 h1 v hv) (by rw [h5]; exact hb) hb2 (by simpa using hsz))) (h _ _ ⟨rfl, rfl⟩)
 rw [hx]
 have := Dst.slice (H := H) (size := q.size) b 0 len c0 hlo hgb (by omega)
 simpa using this
theorem WO.app0 {x y : Operand} {ty ty' e : TypeId} {z : Value} {sz m n : Nat} {vy : Value} {vs : List Value} (ho : ops[i]? = some o) (hd : o.dst = some d) (hg : o.guard = none) (hop : o.op = .call { callee := .builtin .append, args := #[x, y], argTypes := #[ty, ty'] })
  (hx : aev (fr l) x = .slice none 0 0) (hy : aev (fr l) y = vy) (hu : P.underlying ty = some (.slice e)) (hi : tinfo P e z sz m) (hz : z.cells.size = sz) (hs : Src P H sz vy ty' n vs) (hn : n ≠ 0)
  (h1 : vs.all One = true) (hb : n * m ≤ 2 ^ 46) (hb2 : n < 2 ^ 40) (hsz : (sz == 0) = false) (h : ∀ b' H1, ApH H none b' H1 (.cells sz vs) → WO P G ops (i + 1) ((d, .slice (some ⟨b', 0, none⟩) n sz) :: l) H1 Q) : WO P G ops i l H Q := by
 obtain ⟨q, h2, h3, h4, h5⟩ := tinfo_get hi
 subst h4
 have := h H.next (H.new (.cells q.size vs)) ⟨rfl, rfl⟩
 refine WO.s ho hd hg (.app _ _ (.put x y ty ty' e q z 0 n [] vs H hop hu h2 h3 hz (by rw [hy]; exact hs) (by rw [hx]; exact .nil) hn (fun v hv => List.all_eq_true.1 h1 v hv) (by rw [h5, Nat.zero_add]; exact hb) (by omega) (by simpa using hsz))) ?_
 simpa [MRes.get] using this
theorem WO.appN {x y : Operand} {ty ty' e : TypeId} {z : Value} {sz m : Nat} {vx vy : Value} (ho : ops[i]? = some o) (hd : o.dst = some d) (hg : o.guard = none) (hop : o.op = .call { callee := .builtin .append, args := #[x, y], argTypes := #[ty, ty'] })
  (hx : aev (fr l) x = vx) (hxs : (∃ b off n c, vx = .slice (some ⟨b, off, none⟩) n c) ∨ vx = .slice none 0 0) (hy : aev (fr l) y = vy) (hu : P.underlying ty = some (.slice e)) (hi : tinfo P e z sz m) (hs : Src P H sz vy ty' 0 []) (h : WO P G ops (i + 1) ((d, vx) :: l) H Q) : WO P G ops i l H Q := by
 obtain ⟨q, h2, h3, h4, h5⟩ := tinfo_get hi
 subst h4
 refine WO.s ho hd hg (.app _ _ (.idle x y ty ty' e q hop hu h2 (by rw [hx]; exact hxs) (by rw [hy]; exact hs))) ?_
 rw [hx]
 exact h
end
end Go.Vm
