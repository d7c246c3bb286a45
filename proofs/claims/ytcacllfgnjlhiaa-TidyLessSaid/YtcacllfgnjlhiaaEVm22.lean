/-
  Part of an evaluator for the model, proved sound: no condition.
-/
import Derived.Test.YtcacllfgnjlhiaaEVm18
import Derived.Test.YtcacllfgnjlhiaaEVm21
set_option linter.unusedSimpArgs false
set_option linter.unusedVariables false
namespace Go.Vm
open Go
section
variable {P : Program} {G N : Nat} {dr : Bool} {ops : Array Oper} {i : Nat} {hist : Hist} {l : List (Nat × Value)} {H : AH} {V : Vw} {Q : LQ} {o : Oper} {d : Tmp}
def WU (dr : Bool) (P : Program) (G : Nat) (ops : Array Oper) (i : Nat) (hist : Hist) (l : List (Nat × Value)) (H : AH) (Q : LQ) : Prop := match dr with
 | true => WD P G ops i hist l H Q
 | false => WO P G ops i l H Q
def okU (dr : Bool) (ops : Array Oper) (i : Nat) (k : Kind) (H H1 : AH) (hist : Hist) : Prop := dr = true → okH ops i k H H1 hist
theorem nd {k : Kind} {H1 : AH} : okU false ops i k H H1 hist := fun h => nomatch h
def hadd (dr : Bool) (x : Nat × Kind × AH × AH) (hist : Hist) : Hist := match dr with
 | true => x :: hist
 | false => hist
def GOk (ops : Array Oper) (l : List (Nat × Value)) (o : Oper) : Prop := o.guard = none ∨ ∃ j b e, o.guard = some (j, b) ∧ (ops[j]?).bind (·.dst) = some e ∧ aev (fr l) (.tmp e) = .bool b
theorem GOk.st {C : CallRel} {k : Kind} {v : Value} {H1 : AH} (hg : GOk ops l o) (hs : Step P C o (fr l) H k v H1) : StepG P C ops o (fr l) H k v H1 := by
 rcases hg with h | ⟨j, b, e, h1, h2, h3⟩
 ·exact .plain k v H1 h hs
 ·exact .yes j b e k v H1 h1 h2 h3 hs
theorem WP.ureg {id : Nat} {Q : XQ} (hok : okOps G N ops = true) (h : WU false P G ops 0 [] l H (Q .normal)) : WP P G N (.region id ops false) Q l H := WP.reg hok h
theorem WP.usreg {id : Nat} {b : Code} {Q : XQ} (hok : okOps G N ops = true) (h : WU false P G ops 0 [] l H (WP P G N b Q)) : WP P G N (.seq (.region id ops false) b) Q l H := WP.sreg hok h
theorem WP.udreg {id : Nat} {Q : XQ} (hok : okOps G N ops = true) (hed : edgesOk ops = true) (hap : apartOk ops = true) (h : WU true P G ops 0 [] l H (Q .normal)) : WP P G N (.region id ops true) Q l H := WP.dreg hok hed hap h
theorem WP.usdreg {id : Nat} {b : Code} {Q : XQ} (hok : okOps G N ops = true) (hed : edgesOk ops = true) (hap : apartOk ops = true) (h : WU true P G ops 0 [] l H (WP P G N b Q)) : WP P G N (.seq (.region id ops true) b) Q l H := WP.sdreg hok hed hap h
theorem U.done (h : ops.size ≤ i) (hq : Q l H) : WU dr P G ops i hist l H Q := match dr with
 | true => WD.done h hq
 | false => WO.done h hq
theorem U.p {v : Value} (ho : ops[i]? = some o) (hd : o.dst = some d) (hg : GOk ops l o) (hs : Step P (Cl P G) o (fr l) H .pure v H) (h : WU dr P G ops (i + 1) hist ((d, v) :: l) H Q) : WU dr P G ops i hist l H Q := match dr, h with
 | true, h => WD.g ho hd (hg.st hs) h
 | false, h => WO.g ho hd (hg.st hs) h
theorem U.pn {v : Value} (ho : ops[i]? = some o) (hd : o.dst = none) (hg : GOk ops l o) (hs : Step P (Cl P G) o (fr l) H .pure v H) (h : WU dr P G ops (i + 1) hist l H Q) : WU dr P G ops i hist l H Q := match dr, h with
 | true, h => by
  obtain ⟨l', H', h1, h2⟩ := h
  exact ⟨l', H', .pure i o hist _ H v H _ H' ho (hg.st hs) (by rw [hd]; exact h1), h2⟩
 | false, h => by
  obtain ⟨l', H', h1, h2⟩ := h
  exact ⟨l', H', .step i o _ H .pure v H _ H' ho (hg.st hs) (by rw [hd]; exact h1), h2⟩
theorem U.x {j : Nat} {b c : Bool} {e : Tmp} (ho : ops[i]? = some o) (hd : o.dst = some d) (hg : o.guard = some (j, b)) (he : (ops[j]?).bind (·.dst) = some e) (ht : aev (fr l) (.tmp e) = .bool c) (hc : c ≠ b) (h : WU dr P G ops (i + 1) hist ((d, undef) :: l) H Q) : WU dr P G ops i hist l H Q := match dr, h with
 | true, h => WD.g ho hd (.no j b c e hg he ht hc) h
 | false, h => WO.g ho hd (.no j b c e hg he ht hc) h
theorem U.xn {j : Nat} {b c : Bool} {e : Tmp} (ho : ops[i]? = some o) (hd : o.dst = none) (hg : o.guard = some (j, b)) (he : (ops[j]?).bind (·.dst) = some e) (ht : aev (fr l) (.tmp e) = .bool c) (hc : c ≠ b) (h : WU dr P G ops (i + 1) hist l H Q) : WU dr P G ops i hist l H Q := match dr, h with
 | true, h => by
  obtain ⟨l', H', h1, h2⟩ := h
  exact ⟨l', H', .pure i o hist _ H undef H _ H' ho (.no j b c e hg he ht hc) (by rw [hd]; exact h1), h2⟩
 | false, h => by
  obtain ⟨l', H', h1, h2⟩ := h
  exact ⟨l', H', .step i o _ H .pure undef H _ H' ho (.no j b c e hg he ht hc) (by rw [hd]; exact h1), h2⟩
theorem U.z {j : Nat} {b : Bool} {e : Tmp} (ho : ops[i]? = some o) (hd : o.dst = some d) (hg : o.guard = some (j, b)) (he : (ops[j]?).bind (·.dst) = some e) (ht : aev (fr l) (.tmp e) = undef) (h : WU dr P G ops (i + 1) hist ((d, undef) :: l) H Q) : WU dr P G ops i hist l H Q := match dr, h with
 | true, h => WD.g ho hd (.nou j b e hg he ht) h
 | false, h => WO.g ho hd (.nou j b e hg he ht) h
theorem U.zn {j : Nat} {b : Bool} {e : Tmp} (ho : ops[i]? = some o) (hd : o.dst = none) (hg : o.guard = some (j, b)) (he : (ops[j]?).bind (·.dst) = some e) (ht : aev (fr l) (.tmp e) = undef) (h : WU dr P G ops (i + 1) hist l H Q) : WU dr P G ops i hist l H Q := match dr, h with
 | true, h => by
  obtain ⟨l', H', h1, h2⟩ := h
  exact ⟨l', H', .pure i o hist _ H undef H _ H' ho (.nou j b e hg he ht) (by rw [hd]; exact h1), h2⟩
 | false, h => by
  obtain ⟨l', H', h1, h2⟩ := h
  exact ⟨l', H', .step i o _ H .pure undef H _ H' ho (.nou j b e hg he ht) (by rw [hd]; exact h1), h2⟩
theorem U.k {k : Kind} {v : Value} {H1 : AH} (ho : ops[i]? = some o) (hd : o.dst = some d) (hg : GOk ops l o) (hs : Step P (Cl P G) o (fr l) H k v H1) (hk : okU dr ops i k H H1 hist) (h : WU dr P G ops (i + 1) (hadd dr (i, k, H, H1) hist) ((d, v) :: l) H1 Q) : WU dr P G ops i hist l H Q := match dr, hk, h with
 | true, hk, h => by
  obtain ⟨l', H', h1, h2⟩ := h
  exact ⟨l', H', .step i o hist _ H k v H1 _ H' ho (hg.st hs) (hk rfl) (by rw [hd, fr_put]; exact h1), h2⟩
 | false, hk, h => WO.g ho hd (hg.st hs) h
theorem U.kn {k : Kind} {v : Value} {H1 : AH} (ho : ops[i]? = some o) (hd : o.dst = none) (hg : GOk ops l o) (hs : Step P (Cl P G) o (fr l) H k v H1) (hk : okU dr ops i k H H1 hist) (h : WU dr P G ops (i + 1) (hadd dr (i, k, H, H1) hist) l H1 Q) : WU dr P G ops i hist l H Q := match dr, hk, h with
 | true, hk, h => by
  obtain ⟨l', H', h1, h2⟩ := h
  exact ⟨l', H', .step i o hist _ H k v H1 _ H' ho (hg.st hs) (hk rfl) (by rw [hd]; exact h1), h2⟩
 | false, hk, h => by
  obtain ⟨l', H', h1, h2⟩ := h
  exact ⟨l', H', .step i o _ H k v H1 _ H' ho (hg.st hs) (by rw [hd]; exact h1), h2⟩
theorem U.bs {b : Bool} {e : Tmp} (hk : aev (fr l) (.tmp e) = .bool b) (ht : b = true → WU dr P G ops i hist ((e, .bool true) :: l) H Q) (hf : b = false → WU dr P G ops i hist ((e, .bool false) :: l) H Q) : WU dr P G ops i hist l H Q := by
 have key : ∀ c, b = c → fr ((e, .bool c) :: l) = fr l := fun c hc => by
  subst hc
  funext j
  by_cases hj : j = e
  ·subst hj
   have : fr ((j, Value.bool b) :: l) j = .bool b := by simp [fr]
   rw [this]; exact hk.symm
  ·have : (e == j) = false := by simpa using Ne.symm hj
   simp [fr, List.find?_cons, this]
 have tr : ∀ c, b = c → WU dr P G ops i hist ((e, .bool c) :: l) H Q → WU dr P G ops i hist l H Q := fun c hc h => by
  cases dr with
  | true => obtain ⟨l', H', h1, h2⟩ := h; exact ⟨l', H', by rw [← key c hc]; exact h1, h2⟩
  | false => obtain ⟨l', H', h1, h2⟩ := h; exact ⟨l', H', by rw [← key c hc]; exact h1, h2⟩
 cases b with
 | true => exact tr true rfl (ht rfl)
 | false => exact tr false rfl (hf rfl)
theorem U.box {e : TypeId} {x : Operand} {v : Value} {cs : List Value} (ho : ops[i]? = some o) (hd : o.dst = some d) (hg : GOk ops l o) (hop : o.op = .box e x) (hx : aev (fr l) x = v) (hv : v ≠ topV) (hc : v.cells.toList = cs)
  (hk : okU dr ops i (.alloc V.H.next) V.H (V.H.new (.cells 0 cs)) hist) (h : ∀ b V1, Nw V b V1 (.cells 0 cs) → WU dr P G ops (i + 1) (hadd dr (i, .alloc b, V.H, V1.H) hist) ((d, .pointer (some ⟨b, 0, none⟩)) :: l) V1.H Q) : WU dr P G ops i hist l V.H Q := U.k ho hd hg (S.box hop hx hv hc) hk (h _ (V.new _) ⟨rfl, rfl⟩)
theorem U.alloc {e : TypeId} {z : Value} {n m : Nat} {cs : List Value} (ho : ops[i]? = some o) (hd : o.dst = some d) (hg : GOk ops l o) (hop : o.op = .alloc e) (hi : tinfo P e z n m) (hz : constB z = true) (hc : z.cells.toList = cs)
  (hk : okU dr ops i (.alloc V.H.next) V.H (V.H.new (.cells n cs)) hist) (h : ∀ b V1, Nw V b V1 (.cells n cs) → WU dr P G ops (i + 1) (hadd dr (i, .alloc b, V.H, V1.H) hist) ((d, .pointer (some ⟨b, 0, none⟩)) :: l) V1.H Q) : WU dr P G ops i hist l V.H Q := U.k ho hd hg (S.alloc hop hi hz hc) hk (h _ (V.new _) ⟨rfl, rfl⟩)
theorem U.buildSlice {ty : TypeId} {len : Nat} {parts : Array (Nat × Operand)} {e : TypeId} {z : Value} {n m : Nat} {r : Array Value} {cs : List Value} (ho : ops[i]? = some o) (hd : o.dst = some d) (hg : GOk ops l o) (hop : o.op = .buildSlice ty len parts) (hu : P.underlying ty = some (.slice e)) (hi : tinfo P e z n m) (hz : constB z = true) (hs : z.cells.size = n) (hn : (n == 0) = false) (hlim : len * n ≤ 2 ^ 24)
  (ht : ∀ p ∈ parts.toList, aev (fr l) p.2 ≠ topV) (hr : Instr.fill (fun k => some (k * n, n)) ((Array.range (len * n)).map fun j => z.cells[j % z.cells.size]!) (parts.map fun (k, x) => (k, aev (fr l) x)).toList = some r) (hrs : r.size = len * n) (hc : r.toList = cs)
  (hk : okU dr ops i (.alloc V.H.next) V.H (V.H.new (.cells n cs)) hist) (h : ∀ b V1, Nw V b V1 (.cells n cs) → WU dr P G ops (i + 1) (hadd dr (i, .alloc b, V.H, V1.H) hist) ((d, .slice (some ⟨b, 0, none⟩) len n) :: l) V1.H Q) : WU dr P G ops i hist l V.H Q := U.k ho hd hg (S.buildSlice hop hu hi hz hs hn hlim ht hr hrs hc) hk (h _ (V.new _) ⟨rfl, rfl⟩)
theorem U.build1 {ty : TypeId} {x : Operand} {e : TypeId} {z v : Value} {n m : Nat} {cs : List Value} (ho : ops[i]? = some o) (hd : o.dst = some d) (hg : GOk ops l o) (hop : o.op = .buildSlice ty 1 #[(0, x)]) (hx : aev (fr l) x = v) (hu : P.underlying ty = some (.slice e)) (hi : tinfo P e z n m) (hz : constB z = true) (hs : z.cells.size = n) (hn : (n == 0) = false) (hlim : n ≤ 2 ^ 24)
  (ht : v ≠ topV) (hc : v.cells.toList = cs) (hl : cs.length = n) (hk : okU dr ops i (.alloc V.H.next) V.H (V.H.new (.cells n cs)) hist) (h : ∀ b V1, Nw V b V1 (.cells n cs) → WU dr P G ops (i + 1) (hadd dr (i, .alloc b, V.H, V1.H) hist) ((d, .slice (some ⟨b, 0, none⟩) 1 n) :: l) V1.H Q) : WU dr P G ops i hist l V.H Q := by
 subst hc hx
 have h0 := S.fill_all n ((Array.range (1 * n)).map fun j => z.cells[j % z.cells.size]!) (aev (fr l) x) (by rw [← hl]; simp) (by rw [Array.size_map, Array.size_range, Nat.one_mul])
 refine U.buildSlice ho hd hg hop hu hi hz hs hn (by omega) (fun p hp => ?_) (r := (aev (fr l) x).cells) (by simpa using h0) (by rw [Nat.one_mul, ← hl]; simp) rfl hk h
 have : p = (0, x) := by simpa using hp
 subst this
 exact ht
theorem U.store {M : Nat → Prop} {ty : TypeId} {x y : Operand} {b off esz : Nat} {c cs : List Value} {v z : Value} {n m : Nat} (ho : ops[i]? = some o) (hd : o.dst = none) (hg : GOk ops l o) (hop : o.op = .store ty x y) (hx : aev (fr l) x = .pointer (some ⟨b, off, none⟩)) (hy : aev (fr l) y = v) (hi : tinfo P ty z n m)
  (ow : Own M V b (.cells esz c)) (hv : v ≠ topV) (hcs : v.cells.toList = cs) (hs : cs.length = n) (hb : off + n ≤ c.length) (h1 : cs.all One = true) {c' : List Value} (hc' : splice c off cs = c') (hk : okU dr ops i .eff V.H (V.H.upd b (some (.cells esz c'))) hist)
  (h : ∀ V1, St V b V1 (.cells esz c') → WU dr P G ops (i + 1) (hadd dr (i, .eff, V.H, V1.H) hist) l V1.H Q) : WU dr P G ops i hist l V.H Q := by
 subst hc'
 exact U.kn ho hd hg (S.store hop hx hy hi ow.get ow.lo hv hcs hs hb h1) hk (h (V.set b _) ⟨rfl⟩)
theorem U.call {f : Operand} {xs : Array Operand} {ts : Array TypeId} {g : FuncId} {us vs args : Array Value} {X : Nat → Prop} {Post : Value → Vw → Prop} (ho : ops[i]? = some o) (hd : o.dst = some d) (hg : GOk ops l o) (hop : o.op = .call { callee := .value f, args := xs, argTypes := ts }) (hf : aev (fr l) f = .func (.func g) us vs) (he : enterable P g)
  (ha : us ++ xs.map (aev (fr l)) ++ vs = args) (hc : Cc P G g args V X Post) (hk : ∀ V1, Nx (fun b => V.H.next ≤ b ∨ X b) V V1 → okU dr ops i .eff V.H V1.H hist) (h : ∀ v V1, Nx (fun b => V.H.next ≤ b ∨ X b) V V1 → Post v V1 → WU dr P G ops (i + 1) (hadd dr (i, .eff, V.H, V1.H) hist) ((d, v) :: l) V1.H Q) : WU dr P G ops i hist l V.H Q := by
 obtain ⟨v, V', h1, h2, h3⟩ := hc
 exact U.k ho hd hg (S.call hop hf he ha h1) (hk V' h2) (h v V' h2 h3)
theorem U.calln {f : Operand} {xs : Array Operand} {ts : Array TypeId} {g : FuncId} {us vs args : Array Value} {X : Nat → Prop} {Post : Value → Vw → Prop} (ho : ops[i]? = some o) (hd : o.dst = none) (hg : GOk ops l o) (hop : o.op = .call { callee := .value f, args := xs, argTypes := ts }) (hf : aev (fr l) f = .func (.func g) us vs) (he : enterable P g)
  (ha : us ++ xs.map (aev (fr l)) ++ vs = args) (hc : Cc P G g args V X Post) (hk : ∀ V1, Nx (fun b => V.H.next ≤ b ∨ X b) V V1 → okU dr ops i .eff V.H V1.H hist) (h : ∀ v V1, Nx (fun b => V.H.next ≤ b ∨ X b) V V1 → Post v V1 → WU dr P G ops (i + 1) (hadd dr (i, .eff, V.H, V1.H) hist) l V1.H Q) : WU dr P G ops i hist l V.H Q := by
 obtain ⟨v, V', h1, h2, h3⟩ := hc
 exact U.kn ho hd hg (S.call hop hf he ha h1) (hk V' h2) (h v V' h2 h3)
theorem OSl.oo {α : Type} {M : Nat → Prop} {sz : Nat} {RE : Vw → List Value → α → Prop} {ob : Option Nat} {v : Value} {xs : List α} (h : OSl M sz RE V ob v xs) : ∀ c, ob = some c → OwnO M V c := by
 intro c hc
 rcases h with ⟨h1, _⟩ | ⟨b, cs, h1, h2, h3, _⟩
 ·rw [h1] at hc; cases hc
 ·rw [h1] at hc; cases hc; exact h3.o
theorem U.append {α : Type} {M : Nat → Prop} {V0 : Vw} {sz : Nat} {RE : Vw → List Value → α → Prop} {ob : Option Nat} {xs ys : List α} {x y : Operand} {ty ty' e : TypeId} {z : Value} {m : Nat} {vx vy : Value} (hm : Ty sz RE) (ho : ops[i]? = some o) (hd : o.dst = some d) (hg : GOk ops l o) (hop : o.op = .call { callee := .builtin .append, args := #[x, y], argTypes := #[ty, ty'] })
  (hx : aev (fr l) x = vx) (hy : aev (fr l) y = vy) (hu : P.underlying ty = some (.slice e)) (hi : tinfo P e z sz m) (hz : z.cells.size = sz) (hsz : (sz == 0) = false) (hu' : P.underlying ty' = some (.slice e)) (nx : Nx M V0 V) (hX : OSl M sz RE V ob vx xs) (hY : Sl sz RE V vy ys)
  (hb : (xs.length + ys.length) * m ≤ 2 ^ 46) (hb2 : xs.length + ys.length < 2 ^ 40) (hk : ∀ V1 : Vw, (∀ c, c < V.H.next → ob ≠ some c → V1.H.get c = V.H.get c) → okU dr ops i .eff V.H V1.H hist)
  (h : ∀ v' ob' V1, V.le V1 → Nx M V0 V1 → OSl M sz RE V1 ob' v' (xs ++ ys) → (∀ c y, Own M V c y → ob ≠ some c → Own M V1 c y ∧ ob' ≠ some c) → WU dr P G ops (i + 1) (hadd dr (i, .eff, V.H, V1.H) hist) ((d, v') :: l) V1.H Q) : WU dr P G ops i hist l V.H Q := by
 obtain ⟨vs, hsrc, hrows⟩ := hY.src hm hu' (P := P)
 obtain ⟨q, h2, h3, h4, h5⟩ := tinfo_get hi
 subst h4
 by_cases hn : ys.length = 0
 ·have : ys = [] := List.length_eq_zero_iff.1 hn
  subst this
  have hvs : vs = [] := by cases hrows; rfl
  subst hvs
  refine U.k ho hd hg (.app _ _ (.idle x y ty ty' e q hop hu h2 ?_ (by rw [hy]; exact hsrc))) (hk V (fun _ _ _ => rfl)) ?_
  ·rw [hx]
   rcases hX with ⟨_, h1, _⟩ | ⟨b, cs, _, h1, _⟩
   ·exact .inr h1
   ·exact .inl ⟨_, _, _, _, h1⟩
  ·rw [hx]
   exact h vx ob V (.refl V) nx (by rw [List.append_nil]; exact hX) (fun c y oc hne => ⟨oc, hne⟩)
 ·rcases hX with ⟨h0, h1, h2'⟩ | ⟨b, cs, h0, h1, h2', h3', h4⟩
  ·subst h0 h1 h2'
   have n : Ap V none V.H.next (V.app none (.cells q.size vs)) (.cells q.size vs) := ⟨rfl, rfl⟩
   have hno : ∀ c, (none : Option Nat) = some c → OwnO M V c := fun c hc => by cases hc
   refine U.k ho hd hg (.app _ _ (.put x y ty ty' e q z 0 ys.length [] vs V.H hop hu h2 h3 hz (by rw [hy]; exact hsrc) (by rw [hx]; exact .nil) hn (fun v hv => List.all_eq_true.1 (hrows.one hm) v hv) (by rw [h5, Nat.zero_add]; simpa using hb) (by simpa using hb2) (by simpa using hsz)))
    (hk (V.app none (.cells q.size vs)) (fun c hc hne => n.get hc hne)) ?_
   have := h (.slice (some ⟨V.H.next, 0, none⟩) ys.length q.size) (some V.H.next) (V.app none (.cells q.size vs)) (n.le hno) (nx.ap n hno) ?_ (fun c y oc hne => ⟨oc.ap n hne, fun e => oc.neAp n (by cases e; rfl)⟩)
   ·simpa [MRes.get, Vw.app] using this
   ·refine .inr ⟨_, vs, rfl, by simp, n.own nx, by simpa using hrows.up hm (n.le hno), ?_⟩
    simp; simp at hb2; omega
  ·subst h0 h1
   have n : Ap V (some b) V.H.next (V.app (some b) (.cells q.size (cs ++ vs))) (.cells q.size (cs ++ vs)) := ⟨rfl, rfl⟩
   have hno : ∀ c, some b = some c → OwnO M V c := fun c hc => by cases hc; exact h2'.o
   have hds := Dst.slice (H := V.H) (size := q.size) b 0 xs.length cs h2'.lo h2'.get (by rw [h3'.len hm]; omega)
   refine U.k ho hd hg (.app _ _ (.put x y ty ty' e q z xs.length ys.length cs vs (V.H.upd b none) hop hu h2 h3 hz (by rw [hy]; exact hsrc) (by rw [hx]; simpa [h3'.len hm] using hds) hn (fun v hv => List.all_eq_true.1 (hrows.one hm) v hv) (by rw [h5]; exact hb) hb2 (by simpa using hsz)))
    (hk (V.app (some b) (.cells q.size (cs ++ vs))) (fun c hc hne => n.get hc hne)) ?_
   refine h _ (some V.H.next) (V.app (some b) (.cells q.size (cs ++ vs))) (n.le hno) (nx.ap n hno) ?_ (fun c y oc hne => ⟨oc.ap n hne, fun e => oc.neAp n (by cases e; rfl)⟩)
   refine .inr ⟨_, cs ++ vs, rfl, by simp [MRes.get, AH.upd], n.own nx, (h3'.append hrows).up hm (n.le hno), ?_⟩
   rw [List.length_append]; omega
end
section
variable {α : Type} {M : Nat → Prop} {sz : Nat} {RE : Vw → List Value → α → Prop} {V V' : Vw} {ob : Option Nat} {v : Value} {xs : List α}
theorem OSl.nil : OSl M sz RE V none (.slice none 0 0) [] := .inl ⟨rfl, rfl, rfl⟩
theorem OSl.lt (h : OSl M sz RE V ob v xs) : ∀ c, ob = some c → c < V.H.next := fun c hc => (h.oo c hc).lt
theorem OSl.fz (hm : Ty sz RE) (h : OSl M sz RE V ob v xs) (hl : ∀ c, ob = some c → c < V.H.next) : Sl sz RE (V.fz ob hl) v xs := by
 rcases h with ⟨_, h1, h2⟩ | ⟨b, cs, h0, h1, h2, h3, h4⟩
 ·exact .inl ⟨h1, h2⟩
 ·subst h1
  exact Sl.mk hm (V := V.fz ob hl) (.inr h0) h4 h2.get (h3.up hm (V.fz_le ob hl))
theorem OSl.len {P : Program} {C : CallRel} {o : Oper} {t : T} {H1 : AH} (h : OSl M sz RE V ob v xs) {x : Operand} {ty e : TypeId}
  (ho : o.op = .call { callee := .builtin .len, args := #[x], argTypes := #[ty] }) (hx : aev t x = v) (hu : P.underlying ty = some (.slice e)) : Step P C o t H1 .pure (.int .i64 xs.length) H1 := by
 rcases h with ⟨_, h1, h2⟩ | ⟨b, cs, _, h1, _⟩
 ·subst h1 h2
  exact S.lenNil ho hx hu
 ·subst h1
  exact S.len ho hx hu
theorem OSl.one (h : OSl M sz RE V ob v xs) : One v = true := by
 rcases h with ⟨_, h1, _⟩ | ⟨b, cs, _, h1, _⟩ <;> subst h1 <;> rfl
theorem OSl.ne (h : OSl M sz RE V ob v xs) : v ≠ topV := by
 rcases h with ⟨_, h1, _⟩ | ⟨b, cs, _, h1, _⟩ <;> subst h1 <;> simp [topV]
theorem OSl.cells (h : OSl M sz RE V ob v xs) : v.cells = #[v] := by
 rcases h with ⟨_, h1, _⟩ | ⟨b, cs, _, h1, _⟩ <;> subst h1 <;> rfl
theorem OSl.nw (hm : Ty sz RE) (h : OSl M sz RE V ob v xs) {b : Nat} {x : AObj} (n : Nw V b V' x) : OSl M sz RE V' ob v xs := by
 rcases h with h | ⟨c, cs, h0, h1, h2, h3, h4⟩
 ·exact .inl h
 ·exact .inr ⟨c, cs, h0, h1, h2.nw n, h3.up hm n.le, h4⟩
theorem OSl.neNw (h : OSl M sz RE V ob v xs) {b : Nat} {x : AObj} (n : Nw V b V' x) : ob ≠ some b := by
 intro e
 have := (h.oo b e).lt
 have := n.eq
 omega
theorem OSl.st (hm : Ty sz RE) (h : OSl M sz RE V ob v xs) {b : Nat} {x y : AObj} (n : St V b V' x) (o : Own M V b y) (hne : ob ≠ some b) : OSl M sz RE V' ob v xs := by
 rcases h with h | ⟨c, cs, h0, h1, h2, h3, h4⟩
 ·exact .inl h
 ·exact .inr ⟨c, cs, h0, h1, h2.st n (fun e => hne (by rw [h0, e])), h3.up hm (n.le o), h4⟩
theorem OSl.call (hm : Ty sz RE) (h : OSl M sz RE V ob v xs) {X : Nat → Prop} (n : Nx (fun b => V.H.next ≤ b ∨ X b) V V') (hX : ∀ c, ob = some c → ¬ X c) : OSl M sz RE V' ob v xs := by
 rcases h with h | ⟨c, cs, h0, h1, h2, h3, h4⟩
 ·exact .inl h
 ·exact .inr ⟨c, cs, h0, h1, h2.call n (hX c h0), h3.up hm n.le, h4⟩
end
theorem WP.loopV {P : Program} {G N : Nat} {σ : Type} (F : σ → List (Nat × Value)) (I : σ → Vw → Prop) (μ : σ → Nat) {c : Code} {Q : XQ}
  (round : ∀ s V, I s V → WP P G N c (sq (fun l H' => ∃ s' V', V'.H = H' ∧ I s' V' ∧ μ s' < μ s ∧ ∀ p ∈ F s', fr l p.1 = p.2) Q) (F s) V.H) (s : σ) (V : Vw) (h : I s V) (l : List (Nat × Value)) (hl : ∀ p ∈ F s, fr l p.1 = p.2) : WP P G N (.loop c) Q l V.H := by
 refine WP.loopI F (fun s H => ∃ V, V.H = H ∧ I s V) μ (fun s H ⟨V, hV, hI⟩ => ?_) s V.H ⟨V, rfl, h⟩ l hl
 subst hV
 refine (round s V hI).mono (fun e l H' hq => ?_)
 cases e with
 | normal => obtain ⟨s', V', h1, h2, h3, h4⟩ := hq; exact ⟨s', ⟨V', h1, h2⟩, h3, h4⟩
 | exit id => exact hq
 | ret => exact hq
theorem Cc.of {P : Program} {G : Nat} {g : FuncId} {args : Array Value} {V : Vw} {X : Nat → Prop} {fn : Func} {c : Code} {Post : Value → Vw → Prop} (hG : G ≤ V.H.lo) (h1 : P.funcs[g]? = some fn) (h2 : fn.body = some c) (h3 : args.size ≤ fn.ntmps)
  (h : WP P G fn.ntmps c (fin P fn (fun v H' => ∃ V', V'.H = H' ∧ Nx (fun b => V.H.next ≤ b ∨ X b) V V' ∧ Post v V')) (initL args) V.H) : Cc P G g args V X Post := by
 obtain ⟨v, H', h4, V', rfl, h5, h6⟩ := Cl.of (Post := fun v H' => ∃ V', V'.H = H' ∧ Nx (fun b => V.H.next ≤ b ∨ X b) V V' ∧ Post v V') hG h1 h2 h3 h
 exact ⟨v, V', h4, h5, h6⟩
theorem Nx.start {V : Vw} {X : Nat → Prop} : Nx (fun b => V.H.next ≤ b ∨ X b) V V := ⟨.refl V, fun _ _ h => h, fun _ _ _ => rfl, fun _ h => .inl h⟩
theorem fin.slot {P : Program} {fn : Func} {Post : Value → AH → Prop} {e : VX} {l : List (Nat × Value)} {H : AH} {s : Tmp} {v : Value} (he : e = .normal ∨ e = .ret) (hr : fn.results.toList = [.tmp s]) (hv : aev (fr l) (.tmp s) = v) (h : Post v H) : fin P fn Post e l H := by
 refine ⟨he, [v], ?_, h⟩
 rw [hr]
 subst hv
 exact .cons _ _ _ _ (.tmp s) .nil
theorem fin.cell {P : Program} {fn : Func} {Post : Value → AH → Prop} {e : VX} {l : List (Nat × Value)} {H : AH} {s : Tmp} {ty : TypeId} {b off : Nat} {d : TypeDesc} {v : Value} (he : e = .normal ∨ e = .ret) (hr : fn.results.toList = [.cell s ty]) (hx : aev (fr l) (.tmp s) = .pointer (some ⟨b, off, none⟩)) (hu : P.underlying ty = some d) (ha : isAggD d = false) (hc : H.cell b off = some v) (h : Post v H) : fin P fn Post e l H := by
 refine ⟨he, [v], ?_, h⟩
 rw [hr]
 exact .cons _ _ _ _ (.cell s ty b v (.load1 ty (.tmp s) b off d v rfl hx hu ha hc)) .nil
theorem fin.cellN {P : Program} {fn : Func} {Post : Value → AH → Prop} {e : VX} {l : List (Nat × Value)} {H : AH} {s : Tmp} {ty : TypeId} {b ez : Nat} {d : TypeDesc} {cs : List Value} {z : Value} {n m : Nat} (he : e = .normal ∨ e = .ret) (hr : fn.results.toList = [.cell s ty]) (hx : aev (fr l) (.tmp s) = .pointer (some ⟨b, 0, none⟩)) (hu : P.underlying ty = some d) (ha : isAggD d = true)
  (hi : tinfo P ty z n m) (hg : H.get b = some (.cells ez cs)) (hl : cs.length = n) (h : Post (.agg cs.toArray) H) : fin P fn Post e l H := by
 obtain ⟨i, h1, h2, h3, h4⟩ := tinfo_get hi
 refine ⟨he, [.agg cs.toArray], ?_, h⟩
 rw [hr]
 exact .cons _ _ _ _ (.cell s ty b _ (.loadN ty (.tmp s) b 0 d cs i rfl hx hu ha h1 (by omega) (fun j v hj => by rw [Nat.zero_add]; exact S.cellB hg hj))) .nil
theorem fin.slots {P : Program} {fn : Func} {Post : Value → AH → Prop} {e : VX} {l : List (Nat × Value)} {H : AH} {ss : List Tmp} {vs : List Value} (he : e = .normal ∨ e = .ret) (hr : fn.results.toList = ss.map .tmp) (hv : ss.map (fr l) = vs) (h : Post (resV vs) H) : fin P fn Post e l H := by
 refine ⟨he, vs, ?_, h⟩
 rw [hr]
 subst hv
 clear h hr
 induction ss with
 | nil => exact .nil
 | cons s ss ih => exact .cons _ _ _ _ (.tmp s) ih
end Go.Vm
