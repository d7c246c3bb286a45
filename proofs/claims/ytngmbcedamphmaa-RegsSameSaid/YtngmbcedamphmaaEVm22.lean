/-
  Part of an evaluator for the model, proved sound: no condition.
-/
import Derived.Test.YtngmbcedamphmaaEVm18
import Derived.Test.YtngmbcedamphmaaEVm21
set_option linter.unusedSimpArgs false
set_option linter.unusedVariables false
namespace Go.Vm
open Go
section
variable {P : Program} {G N : Nat} {dr : Bool} {ops : Array Oper} {i : Nat} {hist : Hist} {l : List (Nat × Value)} {H : AH} {V : Vw} {Q : LQ} {o : Oper} {d : Tmp}
def WU (dr : Bool) (P : Program) (G : Nat) (ops : Array Oper) (i : Nat) (hist : Hist) (l : List (Nat × Value)) (H : AH) (Q : LQ) : Prop := match dr with
 | true => WD P G ops i hist l H Q
 | false => WO P G ops i l H Q
def okU (dr : Bool) (ops : Array Oper) (i : Nat) (k : Kind) (H H1 : AH) (hist : Hist) : Prop := dr = true → okH ops i k H H1 hist
theorem nd {k : Kind} {H1 : AH} : okU false ops i k H H1 hist := fun h => nomatch h
def hadd (dr : Bool) (x : Nat × Kind × AH × AH) (hist : Hist) : Hist := match dr with
 | true => x :: hist
 | false => hist
def GOk (ops : Array Oper) (l : List (Nat × Value)) (o : Oper) : Prop := o.guard = none ∨ ∃ j b e, o.guard = some (j, b) ∧ (ops[j]?).bind (·.dst) = some e ∧ aev (fr l) (.tmp e) = .bool b
theorem GOk.st {C : CallRel} {k : Kind} {v : Value} {H1 : AH} (hg : GOk ops l o) (hs : Step P C o (fr l) H k v H1) : StepG P C ops o (fr l) H k v H1 := by
 rcases hg with h | ⟨j, b, e, h1, h2, h3⟩
 ·exact .plain k v H1 h hs
 ·exact .yes j b e k v H1 h1 h2 h3 hs
theorem WP.ureg {id : Nat} {Q : XQ} (hok : okOps G N ops = true) (h : WU false P G ops 0 [] l H (Q .normal)) : WP P G N (.region id ops false) Q l H := WP.reg hok h
theorem WP.usreg {id : Nat} {b : Code} {Q : XQ} (hok : okOps G N ops = true) (h : WU false P G ops 0 [] l H (WP P G N b Q)) : WP P G N (.seq (.region id ops false) b) Q l H := WP.sreg hok h
theorem WP.udreg {id : Nat} {Q : XQ} (hok : okOps G N ops = true) (hed : edgesOk ops = true) (hap : apartOk ops = true) (h : WU true P G ops 0 [] l H (Q .normal)) : WP P G N (.region id ops true) Q l H := WP.dreg hok hed hap h
theorem WP.usdreg {id : Nat} {b : Code} {Q : XQ} (hok : okOps G N ops = true) (hed : edgesOk ops = true) (hap : apartOk ops = true) (h : WU true P G ops 0 [] l H (WP P G N b Q)) : WP P G N (.seq (.region id ops true) b) Q l H := WP.sdreg hok hed hap h
theorem U.done (h : ops.size ≤ i) (hq : Q l H) : WU dr P G ops i hist l H Q := match dr with
 | true => WD.done h hq
 | false => WO.done h hq
theorem U.p {v : Value} (ho : ops[i]? = some o) (hd : o.dst = some d) (hg : GOk ops l o) (hs : Step P (Cl P G) o (fr l) H .pure v H) (h : WU dr P G ops (i + 1) hist ((d, v) :: l) H Q) : WU dr P G ops i hist l H Q := match dr, h with
 | true, h => WD.g ho hd (hg.st hs) h
 | false, h => WO.g ho hd (hg.st hs) h
theorem U.x {j : Nat} {b c : Bool} {e : Tmp} (ho : ops[i]? = some o) (hd : o.dst = some d) (hg : o.guard = some (j, b)) (he : (ops[j]?).bind (·.dst) = some e) (ht : aev (fr l) (.tmp e) = .bool c) (hc : c ≠ b) (h : WU dr P G ops (i + 1) hist ((d, undef) :: l) H Q) : WU dr P G ops i hist l H Q := match dr, h with
 | true, h => WD.g ho hd (.no j b c e hg he ht hc) h
 | false, h => WO.g ho hd (.no j b c e hg he ht hc) h
theorem U.z {j : Nat} {b : Bool} {e : Tmp} (ho : ops[i]? = some o) (hd : o.dst = some d) (hg : o.guard = some (j, b)) (he : (ops[j]?).bind (·.dst) = some e) (ht : aev (fr l) (.tmp e) = undef) (h : WU dr P G ops (i + 1) hist ((d, undef) :: l) H Q) : WU dr P G ops i hist l H Q := match dr, h with
 | true, h => WD.g ho hd (.nou j b e hg he ht) h
 | false, h => WO.g ho hd (.nou j b e hg he ht) h
theorem U.k {k : Kind} {v : Value} {H1 : AH} (ho : ops[i]? = some o) (hd : o.dst = some d) (hg : GOk ops l o) (hs : Step P (Cl P G) o (fr l) H k v H1) (hk : okU dr ops i k H H1 hist) (h : WU dr P G ops (i + 1) (hadd dr (i, k, H, H1) hist) ((d, v) :: l) H1 Q) : WU dr P G ops i hist l H Q := match dr, hk, h with
 | true, hk, h => by
  obtain ⟨l', H', h1, h2⟩ := h
  exact ⟨l', H', .step i o hist _ H k v H1 _ H' ho (hg.st hs) (hk rfl) (by rw [hd, fr_put]; exact h1), h2⟩
 | false, hk, h => WO.g ho hd (hg.st hs) h
theorem U.kn {k : Kind} {v : Value} {H1 : AH} (ho : ops[i]? = some o) (hd : o.dst = none) (hg : GOk ops l o) (hs : Step P (Cl P G) o (fr l) H k v H1) (hk : okU dr ops i k H H1 hist) (h : WU dr P G ops (i + 1) (hadd dr (i, k, H, H1) hist) l H1 Q) : WU dr P G ops i hist l H Q := match dr, hk, h with
 | true, hk, h => by
  obtain ⟨l', H', h1, h2⟩ := h
  exact ⟨l', H', .step i o hist _ H k v H1 _ H' ho (hg.st hs) (hk rfl) (by rw [hd]; exact h1), h2⟩
 | false, hk, h => by
  obtain ⟨l', H', h1, h2⟩ := h
  exact ⟨l', H', .step i o _ H k v H1 _ H' ho (hg.st hs) (by rw [hd]; exact h1), h2⟩
theorem U.box {e : TypeId} {x : Operand} {v : Value} {cs : List Value} (ho : ops[i]? = some o) (hd : o.dst = some d) (hg : GOk ops l o) (hop : o.op = .box e x) (hx : aev (fr l) x = v) (hv : v ≠ topV) (hc : v.cells.toList = cs)
  (hk : okU dr ops i (.alloc V.H.next) V.H (V.H.new (.cells 0 cs)) hist) (h : ∀ b V1, Nw V b V1 (.cells 0 cs) → WU dr P G ops (i + 1) (hadd dr (i, .alloc b, V.H, V1.H) hist) ((d, .pointer (some ⟨b, 0, none⟩)) :: l) V1.H Q) : WU dr P G ops i hist l V.H Q := U.k ho hd hg (S.box hop hx hv hc) hk (h _ (V.new _) ⟨rfl, rfl⟩)
theorem U.alloc {e : TypeId} {z : Value} {n m : Nat} {cs : List Value} (ho : ops[i]? = some o) (hd : o.dst = some d) (hg : GOk ops l o) (hop : o.op = .alloc e) (hi : tinfo P e z n m) (hz : constB z = true) (hc : z.cells.toList = cs)
  (hk : okU dr ops i (.alloc V.H.next) V.H (V.H.new (.cells n cs)) hist) (h : ∀ b V1, Nw V b V1 (.cells n cs) → WU dr P G ops (i + 1) (hadd dr (i, .alloc b, V.H, V1.H) hist) ((d, .pointer (some ⟨b, 0, none⟩)) :: l) V1.H Q) : WU dr P G ops i hist l V.H Q := U.k ho hd hg (S.alloc hop hi hz hc) hk (h _ (V.new _) ⟨rfl, rfl⟩)
theorem U.buildSlice {ty : TypeId} {len : Nat} {parts : Array (Nat × Operand)} {e : TypeId} {z : Value} {n m : Nat} {r : Array Value} {cs : List Value} (ho : ops[i]? = some o) (hd : o.dst = some d) (hg : GOk ops l o) (hop : o.op = .buildSlice ty len parts) (hu : P.underlying ty = some (.slice e)) (hi : tinfo P e z n m) (hz : constB z = true) (hs : z.cells.size = n) (hn : (n == 0) = false) (hlim : len * n ≤ 2 ^ 24)
  (ht : ∀ p ∈ parts.toList, aev (fr l) p.2 ≠ topV) (hr : Instr.fill (fun k => some (k * n, n)) ((Array.range (len * n)).map fun j => z.cells[j % z.cells.size]!) (parts.map fun (k, x) => (k, aev (fr l) x)).toList = some r) (hrs : r.size = len * n) (hc : r.toList = cs)
  (hk : okU dr ops i (.alloc V.H.next) V.H (V.H.new (.cells n cs)) hist) (h : ∀ b V1, Nw V b V1 (.cells n cs) → WU dr P G ops (i + 1) (hadd dr (i, .alloc b, V.H, V1.H) hist) ((d, .slice (some ⟨b, 0, none⟩) len n) :: l) V1.H Q) : WU dr P G ops i hist l V.H Q := U.k ho hd hg (S.buildSlice hop hu hi hz hs hn hlim ht hr hrs hc) hk (h _ (V.new _) ⟨rfl, rfl⟩)
theorem U.store {M : Nat → Prop} {ty : TypeId} {x y : Operand} {b off esz : Nat} {c cs : List Value} {v z : Value} {n m : Nat} (ho : ops[i]? = some o) (hd : o.dst = none) (hg : GOk ops l o) (hop : o.op = .store ty x y) (hx : aev (fr l) x = .pointer (some ⟨b, off, none⟩)) (hy : aev (fr l) y = v) (hi : tinfo P ty z n m)
  (ow : Own M V b (.cells esz c)) (hv : v ≠ topV) (hcs : v.cells.toList = cs) (hs : cs.length = n) (hb : off + n ≤ c.length) (h1 : cs.all One = true) {c' : List Value} (hc' : splice c off cs = c') (hk : okU dr ops i .eff V.H (V.H.upd b (some (.cells esz c'))) hist)
  (h : ∀ V1, St V b V1 (.cells esz c') → WU dr P G ops (i + 1) (hadd dr (i, .eff, V.H, V1.H) hist) l V1.H Q) : WU dr P G ops i hist l V.H Q := by
 subst hc'
 exact U.kn ho hd hg (S.store hop hx hy hi ow.get ow.lo hv hcs hs hb h1) hk (h (V.set b _) ⟨rfl⟩)
end
section
variable {α : Type} {M : Nat → Prop} {sz : Nat} {RE : Vw → List Value → α → Prop} {V V' : Vw} {ob : Option Nat} {v : Value} {xs : List α}
theorem OSl.cells (h : OSl M sz RE V ob v xs) : v.cells = #[v] := by
 rcases h with ⟨_, h1, _⟩ | ⟨b, cs, _, h1, _⟩ <;> subst h1 <;> rfl
theorem OSl.st (hm : Ty sz RE) (h : OSl M sz RE V ob v xs) {b : Nat} {x y : AObj} (n : St V b V' x) (o : Own M V b y) (hne : ob ≠ some b) : OSl M sz RE V' ob v xs := by
 rcases h with h | ⟨c, cs, h0, h1, h2, h3, h4⟩
 ·exact .inl h
 ·exact .inr ⟨c, cs, h0, h1, h2.st n (fun e => hne (by rw [h0, e])), h3.up hm (n.le o), h4⟩
end
theorem WP.loopV {P : Program} {G N : Nat} {σ : Type} (F : σ → List (Nat × Value)) (I : σ → Vw → Prop) (μ : σ → Nat) {c : Code} {Q : XQ}
  (round : ∀ s V, I s V → WP P G N c (sq (fun l H' => ∃ s' V', V'.H = H' ∧ I s' V' ∧ μ s' < μ s ∧ ∀ p ∈ F s', fr l p.1 = p.2) Q) (F s) V.H) (s : σ) (V : Vw) (h : I s V) (l : List (Nat × Value)) (hl : ∀ p ∈ F s, fr l p.1 = p.2) : WP P G N (.loop c) Q l V.H := by
 refine WP.loopI F (fun s H => ∃ V, V.H = H ∧ I s V) μ (fun s H ⟨V, hV, hI⟩ => ?_) s V.H ⟨V, rfl, h⟩ l hl
 subst hV
 refine (round s V hI).mono (fun e l H' hq => ?_)
 cases e with
 | normal => obtain ⟨s', V', h1, h2, h3, h4⟩ := hq; exact ⟨s', ⟨V', h1, h2⟩, h3, h4⟩
 | exit id => exact hq
 | ret => exact hq
theorem Cc.of {P : Program} {G : Nat} {g : FuncId} {args : Array Value} {V : Vw} {X : Nat → Prop} {fn : Func} {c : Code} {Post : Value → Vw → Prop} (hG : G ≤ V.H.lo) (h1 : P.funcs[g]? = some fn) (h2 : fn.body = some c) (h3 : args.size ≤ fn.ntmps)
  (h : WP P G fn.ntmps c (fin P fn (fun v H' => ∃ V', V'.H = H' ∧ Nx (fun b => V.H.next ≤ b ∨ X b) V V' ∧ Post v V')) (initL args) V.H) : Cc P G g args V X Post := by
 obtain ⟨v, H', h4, V', rfl, h5, h6⟩ := Cl.of (Post := fun v H' => ∃ V', V'.H = H' ∧ Nx (fun b => V.H.next ≤ b ∨ X b) V V' ∧ Post v V') hG h1 h2 h3 h
 exact ⟨v, V', h4, h5, h6⟩
theorem Nx.start {V : Vw} {X : Nat → Prop} : Nx (fun b => V.H.next ≤ b ∨ X b) V V := ⟨.refl V, fun _ _ h => h, fun _ _ _ => rfl, fun _ h => .inl h⟩
theorem fin.slot {P : Program} {fn : Func} {Post : Value → AH → Prop} {e : VX} {l : List (Nat × Value)} {H : AH} {s : Tmp} {v : Value} (he : e = .normal ∨ e = .ret) (hr : fn.results.toList = [.tmp s]) (hv : aev (fr l) (.tmp s) = v) (h : Post v H) : fin P fn Post e l H := by
 refine ⟨he, [v], ?_, h⟩
 rw [hr]
 subst hv
 exact .cons _ _ _ _ (.tmp s) .nil
theorem fin.cell {P : Program} {fn : Func} {Post : Value → AH → Prop} {e : VX} {l : List (Nat × Value)} {H : AH} {s : Tmp} {ty : TypeId} {b off : Nat} {d : TypeDesc} {v : Value} (he : e = .normal ∨ e = .ret) (hr : fn.results.toList = [.cell s ty]) (hx : aev (fr l) (.tmp s) = .pointer (some ⟨b, off, none⟩)) (hu : P.underlying ty = some d) (ha : isAggD d = false) (hc : H.cell b off = some v) (h : Post v H) : fin P fn Post e l H := by
 refine ⟨he, [v], ?_, h⟩
 rw [hr]
 exact .cons _ _ _ _ (.cell s ty b v (.load1 ty (.tmp s) b off d v rfl hx hu ha hc)) .nil
theorem fin.cellN {P : Program} {fn : Func} {Post : Value → AH → Prop} {e : VX} {l : List (Nat × Value)} {H : AH} {s : Tmp} {ty : TypeId} {b ez : Nat} {d : TypeDesc} {cs : List Value} {z : Value} {n m : Nat} (he : e = .normal ∨ e = .ret) (hr : fn.results.toList = [.cell s ty]) (hx : aev (fr l) (.tmp s) = .pointer (some ⟨b, 0, none⟩)) (hu : P.underlying ty = some d) (ha : isAggD d = true)
  (hi : tinfo P ty z n m) (hg : H.get b = some (.cells ez cs)) (hl : cs.length = n) (h : Post (.agg cs.toArray) H) : fin P fn Post e l H := by
 obtain ⟨i, h1, h2, h3, h4⟩ := tinfo_get hi
 refine ⟨he, [.agg cs.toArray], ?_, h⟩
 rw [hr]
 exact .cons _ _ _ _ (.cell s ty b _ (.loadN ty (.tmp s) b 0 d cs i rfl hx hu ha h1 (by omega) (fun j v hj => by rw [Nat.zero_add]; exact S.cellB hg hj))) .nil
theorem fin.slots {P : Program} {fn : Func} {Post : Value → AH → Prop} {e : VX} {l : List (Nat × Value)} {H : AH} {ss : List Tmp} {vs : List Value} (he : e = .normal ∨ e = .ret) (hr : fn.results.toList = ss.map .tmp) (hv : ss.map (fr l) = vs) (h : Post (resV vs) H) : fin P fn Post e l H := by
 refine ⟨he, vs, ?_, h⟩
 rw [hr]
 subst hv
 clear h hr
 induction ss with
 | nil => exact .nil
 | cons s ss ih => exact .cons _ _ _ _ (.tmp s) ih
end Go.Vm
