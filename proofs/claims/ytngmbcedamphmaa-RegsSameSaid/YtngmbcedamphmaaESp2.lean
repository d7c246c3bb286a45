/-
  Part of an evaluator for the model, proved sound: no condition.
-/
import Derived.Test.YtngmbcedamphmaaESp1
set_option linter.unusedSimpArgs false
set_option linter.unusedVariables false
namespace Go.Vm
open Go
def ix {α : Type} (xs : List α) (i : Int) : Option α := if 0 ≤ i then xs[i.toNat]? else none
def ap {α : Type} (xs ys : List α) : Option (List α) := if xs.length + ys.length ≤ 16777216 then some (xs ++ ys) else none
def apw {α : Type} (xs ys : List α) : Option (List α) := if xs.length + ys.length ≤ 17592186044416 then some (xs ++ ys) else none
def mk {α : Type} (n : Int) (z : α) : Option (List α) := if 0 ≤ n ∧ n ≤ 16777216 then some (List.replicate n.toNat z) else none
def cutL {α : Type} (xs : List α) (l h : Int) : Option (List α) := if 0 ≤ l ∧ l ≤ h ∧ h ≤ xs.length then some ((xs.take h.toNat).drop l.toNat) else none
abbrev w64 (x : Int) : Int := IntKind.i64.wrap x
theorem ix_ge {α : Type} {xs : List α} {i : Int} {x : α} (h : ix xs i = some x) : 0 ≤ i := by
 unfold ix at h; split at h
 ·assumption
 ·cases h
theorem ix_get {α : Type} {xs : List α} {i : Int} {x : α} (h : ix xs i = some x) : xs[i.toNat]? = some x := by
 unfold ix at h; split at h
 ·exact h
 ·cases h
theorem ix_lt {α : Type} {xs : List α} {i : Int} {x : α} (h : ix xs i = some x) : i < xs.length := by
 have h1 := ix_ge h
 have h2 := (List.getElem?_eq_some_iff.1 (ix_get h)).1
 omega
theorem ap_eq {α : Type} {xs ys zs : List α} (h : ap xs ys = some zs) : xs ++ ys = zs ∧ xs.length + ys.length ≤ 16777216 := by
 unfold ap at h; split at h
 ·cases h; exact ⟨rfl, by assumption⟩
 ·cases h
theorem apw_eq {α : Type} {xs ys zs : List α} (h : apw xs ys = some zs) : xs ++ ys = zs ∧ xs.length + ys.length ≤ 17592186044416 := by
 unfold apw at h; split at h
 ·cases h; exact ⟨rfl, by assumption⟩
 ·cases h
theorem mk_eq {α : Type} {n : Int} {z : α} {zs : List α} (h : mk n z = some zs) : ∃ k : Nat, n = k ∧ k ≤ 16777216 ∧ zs = List.replicate k z := by
 unfold mk at h; split at h
 ·cases h; exact ⟨n.toNat, by omega, by omega, rfl⟩
 ·cases h
theorem cutL_eq {α : Type} {xs zs : List α} {l h : Int} (e : cutL xs l h = some zs) : ∃ i j : Nat, l = i ∧ h = j ∧ i ≤ j ∧ j ≤ xs.length ∧ zs = (xs.take j).drop i := by
 unfold cutL at e; split at e
 ·cases e; exact ⟨l.toNat, h.toNat, by omega, by omega, by omega, by omega, rfl⟩
 ·cases e
theorem bindS {α β : Type} {e : Option α} {k : α → Option β} {r : β} (h : e.bind k = some r) : ∃ x, e = some x ∧ k x = some r := Option.bind_eq_some_iff.1 h
theorem ifT {α : Type} {b : Bool} {x y r : α} (hb : b = true) (h : (if b = true then x else y) = r) : x = r := by rwa [if_pos hb] at h
theorem ifF {α : Type} {b : Bool} {x y r : α} (hb : b = false) (h : (if b = true then x else y) = r) : y = r := by rwa [if_neg (by rw [hb]; decide)] at h
def itO {σ ρ : Type} (B : σ → Option (σ ⊕ ρ)) : Nat → σ → Option ρ
 | 0, _ => none
 | n + 1, s => (B s).bind (Sum.elim (itO B n) some)
open Classical in
noncomputable def loopO {σ ρ : Type} (B : σ → Option (σ ⊕ ρ)) (s : σ) : Option ρ := if h : ∃ n r, itO B n s = some r then itO B h.choose s else none
theorem itO_mono {σ ρ : Type} {B : σ → Option (σ ⊕ ρ)} {r : ρ} : ∀ {n m : Nat} {s : σ}, itO B n s = some r → n ≤ m → itO B m s = some r
 | 0, _, _, h, _ => by cases h
 | n + 1, 0, _, _, h => by omega
 | n + 1, m + 1, s, h, hm => by
  obtain ⟨x, h1, h2⟩ := bindS (k := Sum.elim (itO B n) some) h
  show (B s).bind (Sum.elim (itO B m) some) = some r
  rw [h1]
  cases x with
  | inl s' => exact itO_mono (n := n) h2 (by omega)
  | inr r' => exact h2
theorem loopO_some {σ ρ : Type} {B : σ → Option (σ ⊕ ρ)} {s : σ} {r : ρ} : loopO B s = some r ↔ ∃ n, itO B n s = some r := by
 unfold loopO
 constructor
 ·intro h
  split at h
  ·exact ⟨_, h⟩
  ·cases h
 ·rintro ⟨n, hn⟩
  have hex : ∃ n r, itO B n s = some r := ⟨n, r, hn⟩
  rw [dif_pos hex]
  obtain ⟨r', hr'⟩ := hex.choose_spec
  have h1 := itO_mono hr' (Nat.le_max_left hex.choose n)
  have h2 := itO_mono hn (Nat.le_max_right hex.choose n)
  rw [hr', ← h1, h2]
theorem loopO_eq {σ ρ : Type} (B : σ → Option (σ ⊕ ρ)) (s : σ) : loopO B s = (B s).bind (Sum.elim (loopO B) some) := by
 have key : ∀ r, loopO B s = some r ↔ (B s).bind (Sum.elim (loopO B) some) = some r := by
  intro r
  rw [loopO_some]
  constructor
  ·rintro ⟨n, hn⟩
   cases n with
   | zero => cases hn
   | succ n =>
    obtain ⟨x, h1, h2⟩ := bindS (k := Sum.elim (itO B n) some) hn
    rw [h1]
    cases x with
    | inl s' => exact loopO_some.2 ⟨n, h2⟩
    | inr r' => exact h2
  ·intro h
   obtain ⟨x, h1, h2⟩ := bindS h
   cases x with
   | inl s' =>
    obtain ⟨n, hn⟩ := loopO_some.1 (show loopO B s' = some r from h2)
    exact ⟨n + 1, by show (B s).bind _ = _; rw [h1]; exact hn⟩
   | inr r' => exact ⟨1, by show (B s).bind _ = _; rw [h1]; exact h2⟩
 cases h : loopO B s with
 | some r => exact ((key r).1 h).symm
 | none =>
  cases h2 : (B s).bind (Sum.elim (loopO B) some) with
  | none => rfl
  | some r => rw [(key r).2 h2] at h; cases h
theorem loopO_inv {σ ρ : Type} {B : σ → Option (σ ⊕ ρ)} (I : σ → Prop) (μ : σ → Nat) (Post : ρ → Prop) (step : ∀ s, I s → (∃ s', B s = some (.inl s') ∧ I s' ∧ μ s' < μ s) ∨ ∃ r, B s = some (.inr r) ∧ Post r) (s : σ) (h : I s) : ∃ r, loopO B s = some r ∧ Post r := by
 have key : ∀ (n : Nat) (s : σ), μ s = n → I s → ∃ r, loopO B s = some r ∧ Post r := by
  intro n
  induction n using Nat.strongRecOn with
  | _ n ih =>
   intro s hn hI
   rcases step s hI with ⟨s', h1, h2, h3⟩ | ⟨r, h1, h2⟩
   ·obtain ⟨r, h4, h5⟩ := ih (μ s') (by omega) s' rfl h2
    exact ⟨r, by rw [loopO_eq, h1]; exact h4, h5⟩
   ·exact ⟨r, by rw [loopO_eq, h1]; rfl, h2⟩
 exact key _ s rfl h
theorem backS {σ ρ : Type} {s : σ} {x : σ ⊕ ρ} {f : σ → Option ρ} {r : ρ} (h : some (Sum.inl s) = some x) (h2 : Sum.elim f some x = some r) : f s = some r := by cases h; exact h2
theorem exitS {σ ρ : Type} {e : Option ρ} {x : σ ⊕ ρ} {f : σ → Option ρ} {r : ρ} (h : e.map Sum.inr = some x) (h2 : Sum.elim f some x = some r) : e = some r := by
 obtain ⟨y, h3, rfl⟩ := Option.map_eq_some_iff.1 h
 rw [h3]; exact h2
theorem itS {σ ρ : Type} {B : σ → Option (σ ⊕ ρ)} {n : Nat} {s : σ} {r : ρ} (h : itO B n s = some r) : ∃ m x, n = m + 1 ∧ B s = some x ∧ Sum.elim (itO B m) some x = some r := by
 cases n with
 | zero => cases h
 | succ n => obtain ⟨x, h1, h2⟩ := bindS (k := Sum.elim (itO B n) some) h; exact ⟨n, x, rfl, h1, h2⟩
section
variable {P : Program} {G N : Nat}
theorem WP.seqJ {a b : Code} {Q : XQ} {l : List (Nat × Value)} {H : AH} (J : List (Nat × Value) → AH → Prop) (hb : ∀ l H, J l H → WP P G N b Q l H) (ha : WP P G N a (sq J Q) l H) : WP P G N (.seq a b) Q l H :=
 WP.seq (ha.mono fun e l' H' h => by
  cases e with
  | normal => exact hb _ _ h
  | exit id => exact h
  | ret => exact h)
def Jn (I : List (Nat × Value) → Vw → Prop) (l : List (Nat × Value)) (H : AH) : Prop := ∃ l2 V, V.H = H ∧ I l2 V ∧ ∀ p ∈ l2, fr l p.1 = p.2
theorem WP.seqI {a b : Code} {Q : XQ} {l : List (Nat × Value)} {H : AH} (I : List (Nat × Value) → Vw → Prop) (hb : ∀ l V, I l V → WP P G N b Q l V.H) (ha : WP P G N a (sq (Jn I) Q) l H) : WP P G N (.seq a b) Q l H :=
 WP.seqJ (Jn I) (fun l H ⟨l2, V, h1, h2, h3⟩ => by subst h1; exact WP.weak l2 h3 (hb l2 V h2)) ha
theorem WP.loopI2 {c : Code} {Q : XQ} {l : List (Nat × Value)} {V : Vw} (I : Nat → List (Nat × Value) → Vw → Prop) (n : Nat) (l0 : List (Nat × Value)) (h : I n l0 V) (hl : ∀ p ∈ l0, fr l p.1 = p.2)
  (round : ∀ n l V, I n l V → WP P G N c (sq (Jn fun l' V' => ∃ n', n' < n ∧ I n' l' V') Q) l V.H) : WP P G N (.loop c) Q l V.H :=
 WP.loopE I (fun n l V hI => (round n l V hI).mono fun e l' H' hq => by
  cases e with
  | normal => obtain ⟨l2, V', h1, ⟨n', h2, h3⟩, h4⟩ := hq; exact ⟨n', l2, V', h1, h3, h2, h4⟩
  | exit id => exact hq
  | ret => exact hq) n l0 V h l hl
theorem Ct.of {g : FuncId} {args : Array Value} {V : Vw} {fn : Func} {c : Code} {Post : Value → Vw → Prop} (hG : G ≤ V.H.lo) (h1 : P.funcs[g]? = some fn) (h2 : fn.body = some c) (h3 : args.size ≤ fn.ntmps)
  (h : WP P G fn.ntmps c (fin P fn (fun v H' => ∃ V', V'.H = H' ∧ V.le V' ∧ Post v V')) (initL args) V.H) : ∃ v V', Cl P G g args V.H v V'.H ∧ V.le V' ∧ Post v V' := by
 obtain ⟨v, H', h4, V', rfl, h5, h6⟩ := Cl.of (Post := fun v H' => ∃ V', V'.H = H' ∧ V.le V' ∧ Post v V') hG h1 h2 h3 h
 exact ⟨v, V', h4, h5, h6⟩
end
section
variable {P : Program} {G N : Nat} {dr : Bool} {ops : Array Oper} {i : Nat} {hist : Hist} {l : List (Nat × Value)} {V : Vw} {Q : LQ} {o : Oper} {d : Tmp} {As : List At} {k : Nat}
theorem O.box {e : TypeId} {x : Operand} {v : Value} {cs : List Value} (ow : Ow V As) (ho : ops[i]? = some o) (hd : o.dst = some d) (hg : GOk ops l o) (hop : o.op = .box e x) (hx : aev (fr l) x = v) (hv : v ≠ topV) (hc : v.cells.toList = cs)
  (hk : okU dr ops i (.alloc V.H.next) V.H (V.H.new (.cells 0 cs)) hist) (h : ∀ b V1, V.le V1 → Ow V1 (.pt b (.cells 0 cs) :: As) → WU dr P G ops (i + 1) (hadd dr (i, .alloc b, V.H, V1.H) hist) ((d, .pointer (some ⟨b, 0, none⟩)) :: l) V1.H Q) : WU dr P G ops i hist l V.H Q :=
 U.box ho hd hg hop hx hv hc hk (fun b V1 n => h b V1 n.le (ow.nw n))
theorem O.alloc {e : TypeId} {z : Value} {n m : Nat} {cs : List Value} (ow : Ow V As) (ho : ops[i]? = some o) (hd : o.dst = some d) (hg : GOk ops l o) (hop : o.op = .alloc e) (hi : tinfo P e z n m) (hz : constB z = true) (hc : z.cells.toList = cs)
  (hk : okU dr ops i (.alloc V.H.next) V.H (V.H.new (.cells n cs)) hist) (h : ∀ b V1, V.le V1 → Ow V1 (.pt b (.cells n cs) :: As) → WU dr P G ops (i + 1) (hadd dr (i, .alloc b, V.H, V1.H) hist) ((d, .pointer (some ⟨b, 0, none⟩)) :: l) V1.H Q) : WU dr P G ops i hist l V.H Q :=
 U.alloc ho hd hg hop hi hz hc hk (fun b V1 n => h b V1 n.le (ow.nw n))
theorem O.store {ty : TypeId} {x y : Operand} {b off esz : Nat} {c cs : List Value} {v z : Value} {n m : Nat} (ow : Ow V As) (hk0 : As[k]? = some (.pt b (.cells esz c))) (ho : ops[i]? = some o) (hd : o.dst = none) (hg : GOk ops l o) (hop : o.op = .store ty x y) (hx : aev (fr l) x = .pointer (some ⟨b, off, none⟩)) (hy : aev (fr l) y = v) (hi : tinfo P ty z n m)
  (hv : v ≠ topV) (hcs : v.cells.toList = cs) (hs : cs.length = n) (hb : off + n ≤ c.length) (h1 : cs.all One = true) {c' : List Value} (hc' : splice c off cs = c') (hk : okU dr ops i .eff V.H (V.H.upd b (some (.cells esz c'))) hist)
  (h : ∀ V1, V.le V1 → Ow V1 (As.set k (.pt b (.cells esz c'))) → WU dr P G ops (i + 1) (hadd dr (i, .eff, V.H, V1.H) hist) l V1.H Q) : WU dr P G ops i hist l V.H Q :=
 U.store ho hd hg hop hx hy hi (ow.own hk0) hv hcs hs hb h1 hc' hk (fun V1 s => h V1 (s.le (ow.own hk0)) (ow.st hk0 s))
theorem O.call {xs : Array Operand} {ts : Array TypeId} {g : FuncId} {as : List Value} {Post : Value → Vw → Prop} (ho : ops[i]? = some o) (hd : o.dst = some d) (hg : GOk ops l o) (hop : o.op = .call { callee := .value (.func g), args := xs, argTypes := ts }) (he : enterable P g)
  (ha : xs.toList.map (aev (fr l)) = as) (hc : ∃ v V', Cl P G g as.toArray V.H v V'.H ∧ V.le V' ∧ Post v V') (hk : ∀ v V1, V.le V1 → Post v V1 → okU dr ops i .eff V.H V1.H hist) (h : ∀ v V1, V.le V1 → Post v V1 → WU dr P G ops (i + 1) (hadd dr (i, .eff, V.H, V1.H) hist) ((d, v) :: l) V1.H Q) : WU dr P G ops i hist l V.H Q := by
 obtain ⟨v, V', h1, h2, h3⟩ := hc
 refine U.k ho hd hg (S.call hop Fu he (args := as.toArray) ?_ h1) (hk v V' h2 h3) (h v V' h2 h3)
 rw [← ha]
 apply Array.ext'
 simp
theorem O.callv {f : Operand} {us vs : Array Value} {xs : Array Operand} {ts : Array TypeId} {g : FuncId} {as : List Value} {Post : Value → Vw → Prop} (ho : ops[i]? = some o) (hd : o.dst = some d) (hg : GOk ops l o) (hop : o.op = .call { callee := .value f, args := xs, argTypes := ts }) (hf : aev (fr l) f = .func (.func g) us vs) (he : enterable P g)
  (ha : xs.toList.map (aev (fr l)) = as) (hc : ∃ v V', Cl P G g (us ++ as.toArray ++ vs) V.H v V'.H ∧ V.le V' ∧ Post v V') (hk : ∀ v V1, V.le V1 → Post v V1 → okU dr ops i .eff V.H V1.H hist) (h : ∀ v V1, V.le V1 → Post v V1 → WU dr P G ops (i + 1) (hadd dr (i, .eff, V.H, V1.H) hist) ((d, v) :: l) V1.H Q) : WU dr P G ops i hist l V.H Q := by
 obtain ⟨v, V', h1, h2, h3⟩ := hc
 refine U.k ho hd hg (S.call hop hf he (args := us ++ as.toArray ++ vs) ?_ h1) (hk v V' h2 h3) (h v V' h2 h3)
 rw [← ha]
 congr 2
 apply Array.ext'
 simp
theorem Fz.at {α : Type} {R : RT α} {v : Value} {xs : List α} (h : Fz R V v xs) {i : Int} {x : α} (hx : ix xs i = some x) :
  ∃ b o c cs, v = .slice (some ⟨b, o, none⟩) xs.length c ∧ V.F b ∧ R.rel V cs x ∧ ∀ (j : Nat) (u : Value), cs[j]? = some u → V.H.cell b (o + i.toNat * R.sz + j) = some u := by
 obtain ⟨b, o, c, cs, h1, h2, h3, h4, h5⟩ := h.1.at (ix_get hx)
 exact ⟨b, o, c, cs, h1, h2, h4, h5⟩
def SrcOk {α : Type} (P : Program) (R : RT α) (V : Vw) (vy : Value) (ty : TypeId) (ys : List α) : Prop := ∃ vs, Src P V.H R.sz vy ty ys.length vs ∧ Rows R.rel V vs ys
theorem Fz.src {α : Type} {R : RT α} {v : Value} {xs : List α} (h : Fz R V v xs) {t e : TypeId} (hu : P.underlying t = some (.slice e)) : SrcOk P R V v t xs := h.1.src R.ty hu
theorem Ow.src {α : Type} {R : RT α} {v : Value} {xs : List α} (ow : Ow V As) (hk : As[k]? = some (.os R v xs)) {t e : TypeId} (hu : P.underlying t = some (.slice e)) : SrcOk P R V v t xs := by
 obtain ⟨p, h1, hm, ⟨_, rfl, rfl⟩ | ⟨b, o, cs, rfl, rfl, h4, h5⟩⟩ := ow.osat hk
 ·exact ⟨[], .nil t e hu, .nil⟩
 ·obtain ⟨h6, h7, h8, h9⟩ := h1.own (b, .cells R.sz cs) (by simp)
  refine ⟨cs.drop o, .slice t e b o _ _ _ hu (h5.len R.ty) (fun j u hj => S.cellB h9 ?_), h5⟩
  rwa [List.getElem?_drop] at hj
theorem O.append0 {α : Type} {R : RT α} {xs ys zs : List α} {x y : Operand} {ty ty' e : TypeId} {z : Value} {m : Nat} {vx vy : Value} (ow : Ow V As) (hk0 : As[k]? = some (.os R vx xs)) (ho : ops[i]? = some o) (hd : o.dst = some d) (hg : GOk ops l o) (hop : o.op = .call { callee := .builtin .append, args := #[x, y], argTypes := #[ty, ty'] })
  (hx : aev (fr l) x = vx) (hy : aev (fr l) y = vy) (hu : P.underlying ty = some (.slice e)) (hi : tinfo P e z R.sz m) (hz : z.cells.size = R.sz) (hsz : (R.sz == 0) = false) (hb : (xs.length + ys.length) * m ≤ 2 ^ 47) (hb2 : xs.length + ys.length < 2 ^ 60) (hY : SrcOk P R V vy ty' ys)
  (hap : xs ++ ys = zs) (hk : ∀ V1 : Vw, (∀ c, c < V.H.next → (∀ p, StP V p → (At.os R vx xs).sat V p → c ∉ p.map (·.1)) → V1.H.get c = V.H.get c) → okU dr ops i .eff V.H V1.H hist)
  (h : ∀ v' V1, V.le V1 → Ow V1 (As.set k (.os R v' zs)) → WU dr P G ops (i + 1) (hadd dr (i, .eff, V.H, V1.H) hist) ((d, v') :: l) V1.H Q) : WU dr P G ops i hist l V.H Q := by
 subst hap
 obtain ⟨vs, hsrc, hrows⟩ := hY
 obtain ⟨q, h2, h3, h4, h5⟩ := tinfo_get hi
 have hmax : (xs ++ ys).length ≤ 9223372036854775807 := by rw [List.length_append]; omega
 by_cases hn : ys.length = 0
 ·have : ys = [] := List.length_eq_zero_iff.1 hn
  subst this
  have hvs : vs = [] := by cases hrows; rfl
  subst hvs
  have hvx : (∃ b off n c, vx = .slice (some ⟨b, off, none⟩) n c) ∨ vx = .slice none 0 0 := by
   obtain ⟨p, _, _, ⟨_, rfl, rfl⟩ | ⟨b, o, cs, rfl, _⟩⟩ := ow.osat hk0
   ·exact .inr rfl
   ·exact .inl ⟨_, _, _, _, rfl⟩
  refine U.k ho hd hg (.app _ _ (.idle x y ty ty' e q hop hu h2 (by rw [hx]; exact hvx) (by rw [hy, h4]; exact hsrc))) (hk V (fun _ _ _ => rfl)) ?_
  have hset : As.set k (.os R vx (xs ++ [])) = As := by
   rw [List.append_nil]
   apply List.ext_getElem?
   intro j
   rw [List.getElem?_set]
   split
   ·rename_i hjk; subst hjk; rw [hk0]; simp [(List.getElem?_eq_some_iff.1 hk0).1]
   ·rfl
  have := h vx V (.refl V) (by rw [hset]; exact ow)
  rw [hx]
  exact this
 ·obtain ⟨p, h6, h7, h8⟩ := Ow.chg (Bs := [.os R vx xs]) (ow.pick k hk0)
  obtain ⟨p1, p2, rfl, h9, h10⟩ := h7.split
  cases h10
  have h6' := h6.left
  rcases h9 with ⟨hxm, ⟨rfl, rfl, rfl⟩ | ⟨b, o', cs, rfl, rfl, ho', hrx⟩⟩
  ·have n : Ap V none V.H.next (V.app none (.cells R.sz vs)) (.cells R.sz vs) := ⟨rfl, rfl⟩
   have hno : ∀ c, (none : Option Nat) = some c → OwnO (fun _ => True) V c := fun c hc => by cases hc
   have hrec := h (.slice (some ⟨V.H.next, 0, none⟩) ys.length R.sz) (V.app none (.cells R.sz vs)) (n.le hno) ?_
   ·refine U.k ho hd hg (.app _ _ (.put x y ty ty' e q z 0 ys.length [] vs V.H hop hu h2 h3 (by rw [h4]; exact hz) (by rw [hy, h4]; exact hsrc) (by rw [hx]; exact .nil) hn (fun v hv => List.all_eq_true.1 (hrows.one R.ty) v hv) (by rw [h5, Nat.zero_add]; simpa using hb) (by simpa using hb2) (by rw [h4]; simpa using hsz)))
     (hk (V.app none (.cells R.sz vs)) (fun c hc _ => n.get hc (by simp)) |> fun h => by simpa [h4, Vw.app] using h) ?_
    simpa [MRes.get, Vw.app, h4] using hrec
   ·refine Ow.put hk0 (h8 _ [.os R (.slice (some ⟨V.H.next, 0, none⟩) ys.length R.sz) ([] ++ ys)] [(V.H.next, .cells R.sz vs)] (n.le hno) (fun c _ hc _ hf => ⟨n.get hc (by simp), hf⟩) ?_ (.cons [(V.H.next, .cells R.sz vs)] [] _ _ ⟨hmax, .inr ⟨V.H.next, 0, vs, by simp, rfl, Nat.zero_le _, ?_⟩⟩ .nil) (fun c hc => by simp at hc; subst hc; exact .inr (Nat.le_refl _)))
    ·exact .one V.lon (Nat.lt_succ_self _) (fun hf => by have := V.wf _ hf; omega) (by simp [Vw.app, AH.new])
    ·exact hrows.up R.ty (n.le hno)
  ·obtain ⟨q1, q2, q3, q4⟩ := h6'.own (b, .cells R.sz cs) (by simp)
   have n : Ap V (some b) V.H.next (V.app (some b) (.cells R.sz (cs.drop o' ++ vs))) (.cells R.sz (cs.drop o' ++ vs)) := ⟨rfl, rfl⟩
   have hno : ∀ c, some b = some c → OwnO (fun _ => True) V c := fun c hc => by cases hc; exact ⟨trivial, q1, q2, q3⟩
   have hcl : cs.length = o' + xs.length * R.sz := by
    have := hrx.len R.ty
    rw [List.length_drop] at this
    omega
   have hds := Dst.slice (H := V.H) (size := R.sz) b o' xs.length cs q1 q4 hcl
   have hrec := h (.slice (some ⟨V.H.next, 0, none⟩) (xs.length + ys.length) R.sz) (V.app (some b) (.cells R.sz (cs.drop o' ++ vs))) (n.le hno) ?_
   ·refine U.k ho hd hg (.app _ _ (.put x y ty ty' e q z xs.length ys.length (cs.drop o') vs (V.H.upd b none) hop hu h2 h3 (by rw [h4]; exact hz) (by rw [hy, h4]; exact hsrc) (by rw [hx, h4]; exact hds) hn (fun v hv => List.all_eq_true.1 (hrows.one R.ty) v hv) (by rw [h5]; exact hb) hb2 (by rw [h4]; simpa using hsz)))
     (hk (V.app (some b) (.cells R.sz (cs.drop o' ++ vs))) (fun c hc hne => n.get hc (fun e => hne _ h6' ⟨hxm, .inr ⟨b, o', cs, rfl, rfl, ho', hrx⟩⟩ (by cases e; simp))) |> fun h => by simpa [h4, Vw.app] using h) ?_
    simpa [MRes.get, Vw.app, h4, AH.upd] using hrec
   ·refine Ow.put hk0 (h8 _ [.os R (.slice (some ⟨V.H.next, 0, none⟩) (xs.length + ys.length) R.sz) (xs ++ ys)] [(V.H.next, .cells R.sz (cs.drop o' ++ vs))] (n.le hno) (fun c _ hc hcb hf => ⟨n.get hc (fun e => hcb (by cases e; simp)), hf⟩) ?_ (.cons [(V.H.next, _)] [] _ _ ⟨hmax, .inr ⟨V.H.next, 0, _, by simp, rfl, Nat.zero_le _, ?_⟩⟩ .nil) (fun c hc => by simp at hc; subst hc; exact .inr (Nat.le_refl _)))
    ·exact .one V.lon (by simp [Vw.app, AH.new, AH.upd]) (fun hf => by have := V.wf _ hf; omega) (by simp [Vw.app, AH.new, AH.upd])
    ·exact (hrx.append hrows).up R.ty (n.le hno)
theorem O.append {α : Type} {R : RT α} {xs ys zs : List α} {x y : Operand} {ty ty' e : TypeId} {z : Value} {m : Nat} {vx vy : Value} (ow : Ow V As) (hk0 : As[k]? = some (.os R vx xs)) (ho : ops[i]? = some o) (hd : o.dst = some d) (hg : GOk ops l o) (hop : o.op = .call { callee := .builtin .append, args := #[x, y], argTypes := #[ty, ty'] })
  (hx : aev (fr l) x = vx) (hy : aev (fr l) y = vy) (hu : P.underlying ty = some (.slice e)) (hi : tinfo P e z R.sz m) (hz : z.cells.size = R.sz) (hsz : (R.sz == 0) = false) (hm : m ≤ 4194304) (hY : SrcOk P R V vy ty' ys)
  (hap : ap xs ys = some zs) (hk : ∀ V1 : Vw, (∀ c, c < V.H.next → (∀ p, StP V p → (At.os R vx xs).sat V p → c ∉ p.map (·.1)) → V1.H.get c = V.H.get c) → okU dr ops i .eff V.H V1.H hist)
  (h : ∀ v' V1, V.le V1 → Ow V1 (As.set k (.os R v' zs)) → WU dr P G ops (i + 1) (hadd dr (i, .eff, V.H, V1.H) hist) ((d, v') :: l) V1.H Q) : WU dr P G ops i hist l V.H Q := by
 obtain ⟨e0, hlen⟩ := ap_eq hap
 exact O.append0 ow hk0 ho hd hg hop hx hy hu hi hz hsz (Nat.le_trans (Nat.mul_le_mul hlen hm) (by decide)) (Nat.lt_of_le_of_lt hlen (by decide)) hY e0 hk h
theorem O.appendW {α : Type} {R : RT α} {xs ys zs : List α} {x y : Operand} {ty ty' e : TypeId} {z : Value} {m : Nat} {vx vy : Value} (ow : Ow V As) (hk0 : As[k]? = some (.os R vx xs)) (ho : ops[i]? = some o) (hd : o.dst = some d) (hg : GOk ops l o) (hop : o.op = .call { callee := .builtin .append, args := #[x, y], argTypes := #[ty, ty'] })
  (hx : aev (fr l) x = vx) (hy : aev (fr l) y = vy) (hu : P.underlying ty = some (.slice e)) (hi : tinfo P e z R.sz m) (hz : z.cells.size = R.sz) (hsz : (R.sz == 0) = false) (hm : m ≤ 8) (hY : SrcOk P R V vy ty' ys)
  (hap : apw xs ys = some zs) (hk : ∀ V1 : Vw, (∀ c, c < V.H.next → (∀ p, StP V p → (At.os R vx xs).sat V p → c ∉ p.map (·.1)) → V1.H.get c = V.H.get c) → okU dr ops i .eff V.H V1.H hist)
  (h : ∀ v' V1, V.le V1 → Ow V1 (As.set k (.os R v' zs)) → WU dr P G ops (i + 1) (hadd dr (i, .eff, V.H, V1.H) hist) ((d, v') :: l) V1.H Q) : WU dr P G ops i hist l V.H Q := by
 obtain ⟨e0, hlen⟩ := apw_eq hap
 exact O.append0 ow hk0 ho hd hg hop hx hy hu hi hz hsz (Nat.le_trans (Nat.mul_le_mul hlen hm) (by decide)) (Nat.lt_of_le_of_lt hlen (by decide)) hY e0 hk h
end
end Go.Vm
