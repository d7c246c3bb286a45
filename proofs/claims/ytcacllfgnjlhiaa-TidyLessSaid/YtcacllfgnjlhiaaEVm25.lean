/-
  Part of an evaluator for the model, proved sound: no condition.
-/
import Derived.Test.YtcacllfgnjlhiaaEVm22
set_option linter.unusedSimpArgs false
set_option linter.unusedVariables false
namespace Go.Vm
open Go
theorem Vw.le.cell {V V' : Vw} (h : V.le V') {b o : Nat} {u : Value} (hf : V.F b) (hc : V.H.cell b o = some u) : V'.H.cell b o = some u := (cell_congr (h.get b hf)).trans hc
section
variable {P : Program} {G N : Nat} {dr : Bool} {ops : Array Oper} {i : Nat} {hist : Hist} {l : List (Nat × Value)} {V : Vw} {Q : LQ} {o : Oper} {d : Tmp}
theorem aN : ([] : List Operand).map (aev (fr l)) = [] := rfl
theorem aC {x : Operand} {v : Value} {xs : List Operand} {vs : List Value} (h : aev (fr l) x = v) (hr : xs.map (aev (fr l)) = vs) : (x :: xs).map (aev (fr l)) = v :: vs := by rw [List.map_cons, h, hr]
theorem U.callL {xs : Array Operand} {ts : Array TypeId} {g : FuncId} {as : List Value} {X : Nat → Prop} {Post : Value → Vw → Prop} (ho : ops[i]? = some o) (hd : o.dst = some d) (hg : GOk ops l o) (hop : o.op = .call { callee := .value (.func g), args := xs, argTypes := ts }) (he : enterable P g)
  (ha : xs.toList.map (aev (fr l)) = as) (hc : Cc P G g as.toArray V X Post) (hk : ∀ V1 : Vw, Nx (fun b => V.H.next ≤ b ∨ X b) V V1 → okU dr ops i .eff V.H V1.H hist) (h : ∀ v V1, Nx (fun b => V.H.next ≤ b ∨ X b) V V1 → Post v V1 → WU dr P G ops (i + 1) (hadd dr (i, .eff, V.H, V1.H) hist) ((d, v) :: l) V1.H Q) : WU dr P G ops i hist l V.H Q := by
 refine U.call ho hd hg hop Fu he (args := as.toArray) ?_ hc hk h
 rw [← ha]
 apply Array.ext'
 simp
theorem U.callLn {xs : Array Operand} {ts : Array TypeId} {g : FuncId} {as : List Value} {X : Nat → Prop} {Post : Value → Vw → Prop} (ho : ops[i]? = some o) (hd : o.dst = none) (hg : GOk ops l o) (hop : o.op = .call { callee := .value (.func g), args := xs, argTypes := ts }) (he : enterable P g)
  (ha : xs.toList.map (aev (fr l)) = as) (hc : Cc P G g as.toArray V X Post) (hk : ∀ V1 : Vw, Nx (fun b => V.H.next ≤ b ∨ X b) V V1 → okU dr ops i .eff V.H V1.H hist) (h : ∀ v V1, Nx (fun b => V.H.next ≤ b ∨ X b) V V1 → Post v V1 → WU dr P G ops (i + 1) (hadd dr (i, .eff, V.H, V1.H) hist) l V1.H Q) : WU dr P G ops i hist l V.H Q := by
 refine U.calln ho hd hg hop Fu he (args := as.toArray) ?_ hc hk h
 rw [← ha]
 apply Array.ext'
 simp
end
theorem WP.loopE {P : Program} {G N : Nat} (I : Nat → List (Nat × Value) → Vw → Prop) {c : Code} {Q : XQ}
  (round : ∀ n l V, I n l V → WP P G N c (sq (fun l' H' => ∃ n' l2 V', V'.H = H' ∧ I n' l2 V' ∧ n' < n ∧ ∀ p ∈ l2, fr l' p.1 = p.2) Q) l V.H) (n : Nat) (l0 : List (Nat × Value)) (V : Vw) (h : I n l0 V) (l : List (Nat × Value)) (hl : ∀ p ∈ l0, fr l p.1 = p.2) : WP P G N (.loop c) Q l V.H := by
 refine WP.loopV (σ := Nat × List (Nat × Value)) (fun s => s.2) (fun s V => I s.1 s.2 V) (fun s => s.1) (fun s V hI => ?_) (n, l0) V h l hl
 refine (round s.1 s.2 V hI).mono (fun e l H' hq => ?_)
 cases e with
 | normal => obtain ⟨n', l2, V', h1, h2, h3, h4⟩ := hq; exact ⟨(n', l2), V', h1, h2, h3, h4⟩
 | exit id => exact hq
 | ret => exact hq
end Go.Vm
namespace Go.Vm
open Go
def placesAre (P : Program) (ty : TypeId) (pl : Array (Nat × Nat)) : Prop := ∃ fields, P.underlying ty = some (.struct fields) ∧ placesOf P fields = some pl
theorem S.build {P : Program} {C : CallRel} {o : Oper} {t : T} {H : AH} {ty : TypeId} {parts : Array (Nat × Operand)} {z : Value} {n m : Nat} {pl : Array (Nat × Nat)} {vs : List Value} {r : Array Value} (ho : o.op = .build ty parts) (hi : tinfo P ty z n m) (hz : constB z = true) (hp : placesAre P ty pl)
  (hv : (parts.toList.map (·.2)).map (aev t) = vs) (ht : ∀ v ∈ vs, v ≠ topV) (hr : Instr.fill (pl[·]?) z.cells ((parts.toList.map (·.1)).zip vs) = some r) : Step P C o t H .pure (.agg r) H := by
 obtain ⟨fields, hu, hp⟩ := hp
 obtain ⟨i, h1, h2, h3, h4⟩ := tinfo_get hi
 refine .b _ (.buildS ty parts fields i z pl r ho hu h1 h2 hz hp (fun p hp' => ?_) ?_)
 ·refine ht _ ?_
  rw [← hv, List.map_map]
  exact List.mem_map_of_mem (f := (aev t) ∘ (·.2)) (Array.mem_toList_iff.2 hp')
 ·rw [← hr, ← hv]
  congr 1
  rw [Array.toList_map]
  generalize parts.toList = l
  induction l with
  | nil => rfl
  | cons p l ih => simp only [List.map_cons, List.zip_cons_cons, ih]
theorem allN {p : Value → Prop} : ∀ v ∈ ([] : List Value), p v := fun v h => by cases h
theorem allC {p : Value → Prop} {v : Value} {vs : List Value} (h : p v) (hr : ∀ v ∈ vs, p v) : ∀ u ∈ v :: vs, p u := fun u hu => by
 cases hu with
 | head => exact h
 | tail _ hu => exact hr u hu
end Go.Vm
namespace Go.Vm
open Go
theorem S.buildA {P : Program} {C : CallRel} {o : Oper} {t : T} {H : AH} {ty : TypeId} {parts : Array (Nat × Operand)} {z ze : Value} {n m k q me : Nat} {e : TypeId} {vs : List Value} {r : Array Value} (ho : o.op = .build ty parts) (hi : tinfo P ty z n m) (hz : constB z = true) (hu : P.underlying ty = some (.array k e)) (he : tinfo P e ze q me)
  (hv : (parts.toList.map (·.2)).map (aev t) = vs) (ht : ∀ v ∈ vs, v ≠ topV) (hr : Instr.fill (fun k => some (k * q, q)) z.cells ((parts.toList.map (·.1)).zip vs) = some r) : Step P C o t H .pure (.agg r) H := by
 obtain ⟨i, h1, h2, h3, h4⟩ := tinfo_get hi
 obtain ⟨ie, h5, h6, h7, h8⟩ := tinfo_get he
 subst h7
 refine .b _ (.buildA ty parts k e i ie z r ho hu h1 h2 hz h5 (fun p hp' => ?_) ?_)
 ·refine ht _ ?_
  rw [← hv, List.map_map]
  exact List.mem_map_of_mem (f := (aev t) ∘ (·.2)) (Array.mem_toList_iff.2 hp')
 ·rw [← hr, ← hv]
  congr 1
  rw [Array.toList_map]
  generalize parts.toList = l
  induction l with
  | nil => rfl
  | cons p l ih => simp only [List.map_cons, List.zip_cons_cons, ih]
theorem fill1 {place : Nat → Option (Nat × Nat)} {cells : Array Value} {i off : Nat} {v : Value} {rest : List (Nat × Value)} {r : Option (Array Value)} (hp : place i = some (off, 1)) (hc : v.cells = #[v]) (hs : off < cells.size) (h : Instr.fill place (cells.setIfInBounds off v) rest = r) : Instr.fill place cells ((i, v) :: rest) = r := by
 unfold Instr.fill
 rw [hp]
 simp only [hc]
 rw [if_neg (by simp; omega)]
 simpa using h
theorem S.field {P : Program} {C : CallRel} {o : Oper} {t : T} {H : AH} {ty : TypeId} {x : Operand} {f : Nat} {fields : Array Field} {fd : Field} {cs : Array Value} {d : TypeDesc} {v : Value} (ho : o.op = .field ty x f) (hx : aev t x = .agg cs)
   (hu : P.underlying ty = some (.struct fields)) (hf : fields[f]? = some fd) (hd : P.underlying fd.type = some d) (ha : isAggD d = false) (hv : cs[fd.offset]? = some v) : Step P C o t H .pure v H := .b _ (.field ty x f fields fd cs d v ho hx hu hf hd ha hv)
end Go.Vm
namespace Go.Vm
open Go
theorem fsN {l : List (Nat × Value)} : ([] : List Tmp).map (fr l) = [] := rfl
theorem fsC {l : List (Nat × Value)} {s : Tmp} {ss : List Tmp} {v : Value} {vs : List Value} (h : aev (fr l) (.tmp s) = v) (hr : ss.map (fr l) = vs) : (s :: ss).map (fr l) = v :: vs := by
 rw [List.map_cons, hr]
 exact congrArg (· :: vs) h
theorem fin.slots' {P : Program} {fn : Func} {Post : Value → AH → Prop} {e : VX} {l : List (Nat × Value)} {H : AH} {ss : List Tmp} {vs : List Value} (he : e = .normal ∨ e = .ret) (hv : ss.map (fr l) = vs) (hr : fn.results.toList = ss.map .tmp) (h : Post (resV vs) H) : fin P fn Post e l H := fin.slots he hr hv h
end Go.Vm
namespace Go.Vm
open Go
section
variable {K : LQ} {Q : XQ} {l : List (Nat × Value)} {H : AH} {i j : Nat}
theorem sqN (h : K l H) : sq K Q .normal l H := h
theorem sqR (h : Q .ret l H) : sq K Q .ret l H := h
theorem sqE (h : Q (.exit i) l H) : sq K Q (.exit i) l H := h
theorem blkN (h : Q .normal l H) : blk i Q .normal l H := h
theorem blkR (h : Q .ret l H) : blk i Q .ret l H := h
theorem blkE (h : Q .normal l H) : blk i Q (.exit i) l H := by unfold blk; rw [if_pos rfl]; exact h
theorem blkO (hn : (j == i) = false) (h : Q (.exit j) l H) : blk i Q (.exit j) l H := by
 unfold blk
 rw [if_neg (fun e => by cases e; simp at hn)]
 exact h
end
end Go.Vm
namespace Go.Vm
open Go
theorem Sl.mk1 {α : Type} {sz : Nat} {RE : Vw → List Value → α → Prop} {V : Vw} {x : α} {r : List Value} (hm : Ty sz RE) {b c e : Nat} (hf : V.F b) (hg : V.H.get b = some (.cells e r)) (h : RE V r x) : Sl sz RE V (.slice (some ⟨b, 0, none⟩) 1 c) [x] :=
 Sl.mk (xs := [x]) hm hf (Nat.le_of_ble_eq_true rfl) hg (by simpa using Rows.cons r [] x [] h .nil)
end Go.Vm
namespace Go.Vm
open Go
namespace S
variable {P : Program} {C : CallRel} {o : Oper} {t : T} {H : AH}
theorem minI {x y : Operand} {ty ty' : TypeId} {a b : Int} {k : IntKind} (ho : o.op = .call { callee := .builtin .min, args := #[x, y], argTypes := #[ty, ty'] }) (hx : aev t x = .int k a) (hy : aev t y = .int k b) : Step P C o t H .pure (.int k (min a b)) H := by
 refine .p _ (.flat _ (fun z hz => ?_) (fun cs b => by rw [ho]; simp) (.atom _ (.int _ _)) (fun w => ?_))
 ·rw [ho] at hz
  simp [Op.operands, Call.operands] at hz
  rcases hz with rfl | rfl
  ·rw [hx]; exact .atom _ (.int _ _)
  ·rw [hy]; exact .atom _ (.int _ _)
 ·simp [execOp, ho, hx, hy, resolve, invoke, builtin, Builtin.min_, Builtin.min2]
  split <;> omega
theorem eqIn_nil {ty e : TypeId} (hu : P.underlying ty = some (.slice e)) (d : Nat) (w : World) : (Op.equalIn (d + 1) ty (.slice none 0 0) (.slice none 0 0)).run P w = .ok true w := by
 simp [Op.equalIn, run_und hu]
theorem nilNil {x y : Operand} {ty u e : TypeId} (ho : o.op = .binOp .eql ty x y u) (hx : aev t x = .slice none 0 0) (hy : aev t y = .slice none 0 0) (hu : P.underlying ty = some (.slice e)) : Step P C o t H .pure (.bool true) H := by
 refine flat2 ho hx hy (.atom _ .nilSlice) (.atom _ .nilSlice) (.atom _ (.bool _)) (fun w => ?_) (fun w => ?_)
 ·simp only [binOp]; simp [Op.equal, Op.maxDepth, eqIn_nil hu 9999]
 ·simp [eqGuard]
end S
def isNil : Value → Bool
 | .slice none _ _ => true
 | _ => false
theorem Sl.eqNil {α : Type} {sz : Nat} {RE : Vw → List Value → α → Prop} {V : Vw} {v : Value} {xs : List α} (h : Sl sz RE V v xs) {P : Program} {C : CallRel} {o : Oper} {t : T} {H : AH} {x y : Operand} {ty u e : TypeId} (ho : o.op = .binOp .eql ty x y u) (hx : aev t x = v) (hy : aev t y = .slice none 0 0) (hu : P.underlying ty = some (.slice e)) : Step P C o t H .pure (.bool (isNil v)) H := by
 rcases h with ⟨h1, h2⟩ | ⟨b, o', c, h1, _⟩
 ·subst h1
  exact S.nilNil ho hx hy hu
 ·subst h1
  exact S.nilS ho (.inl rfl) hx hy hu
theorem Sl.nil_of {α : Type} {sz : Nat} {RE : Vw → List Value → α → Prop} {V : Vw} {v : Value} {xs : List α} (h : Sl sz RE V v xs) (hn : isNil v = true) : xs = [] := by
 rcases h with ⟨h1, h2⟩ | ⟨b, o', c, h1, _⟩
 ·exact h2
 ·subst h1; cases hn
end Go.Vm
namespace Go.Vm
open Go
theorem Nx.same {V V1 : Vw} (n : Nx (fun b => V.H.next ≤ b ∨ False) V V1) {b : Nat} (h : b < V.H.next) : V1.H.get b = V.H.get b := n.keep b h (fun e => e.elim (fun e => by omega) id)
section
variable {α : Type} {M : Nat → Prop} {sz : Nat} {RE : Vw → List Value → α → Prop} {V : Vw} {ob : Option Nat} {v : Value} {xs : List α}
theorem OSl.at (hm : Ty sz RE) (h : OSl M sz RE V ob v xs) {i : Nat} {x : α} (hx : xs[i]? = some x) :
  ∃ b r, v = .slice (some ⟨b, 0, none⟩) xs.length sz ∧ ob = some b ∧ b < V.H.next ∧ RE V r x ∧ ∀ (j : Nat) (u : Value), r[j]? = some u → V.H.cell b (0 + i * sz + j) = some u := by
 rcases h with ⟨_, h1, h2⟩ | ⟨b, cs, h0, h1, h2, h3, h4⟩
 ·subst h2; simp at hx
 ·obtain ⟨r, h5, h6⟩ := h3.at hm hx
  exact ⟨b, r, h1, h0, h2.lt, h5, fun j u hj => by rw [Nat.zero_add]; exact h2.cell (h6 j u hj)⟩
theorem splice_len (c : List Value) (off : Nat) (cs : List Value) (h : off + cs.length ≤ c.length) : (splice c off cs).length = c.length := by
 unfold splice
 simp
 omega
theorem Rows.set (hm : Ty sz RE) {cs : List Value} (h : Rows RE V cs xs) : ∀ {i k : Nat} {x y : α} {new : List Value}, xs[i]? = some x → (∀ r, RE V r x → k + new.length ≤ r.length ∧ RE V (splice r k new) y) → Rows RE V (splice cs (i * sz + k) new) (xs.set i y) := by
 induction h with
 | nil => intro i k x y new hx; simp at hx
 | cons r cs z zs h h' ih =>
  intro i k x y new hx hn
  have hl := hm.len _ _ _ h
  cases i with
  | zero =>
   simp at hx
   subst hx
   obtain ⟨h1, h2⟩ := hn r h
   have : splice (r ++ cs) (0 * sz + k) new = splice r k new ++ cs := by
    unfold splice
    rw [Nat.zero_mul, Nat.zero_add, List.take_append_of_le_length (by omega), List.drop_append_of_le_length (by omega)]
    simp
   rw [this]
   exact .cons _ _ _ _ h2 h'
  | succ i =>
   have : splice (r ++ cs) ((i + 1) * sz + k) new = r ++ splice cs (i * sz + k) new := by
    unfold splice
    have e1 : (i + 1) * sz + k = r.length + (i * sz + k) := by rw [hl, Nat.add_mul]; omega
    rw [e1, List.take_length_add_append, Nat.add_assoc, List.drop_length_add_append]
    simp
   rw [this]
   exact .cons _ _ _ _ h (ih (by simpa using hx) hn)
end
end Go.Vm
namespace Go.Vm
open Go
theorem U.storeO {P : Program} {G : Nat} {dr : Bool} {ops : Array Oper} {j : Nat} {hist : Hist} {l : List (Nat × Value)} {V V0 : Vw} {Q : LQ} {o : Oper} {α : Type} {M : Nat → Prop} {sz : Nat} {RE : Vw → List Value → α → Prop} {ob : Option Nat} {v : Value} {xs : List α} {ty : TypeId} {p q : Operand} {b i k : Nat} {u z : Value} {cs : List Value} {n m : Nat} {x y : α}
  (hm : Ty sz RE) (ho : ops[j]? = some o) (hd : o.dst = none) (hg : GOk ops l o) (hop : o.op = .store ty p q) (hp : aev (fr l) p = .pointer (some ⟨b, 0 + i * sz + k, none⟩)) (hq : aev (fr l) q = u) (hi : tinfo P ty z n m) (nx : Nx M V0 V) (hX : OSl M sz RE V ob v xs) (hob : ob = some b) (hx : xs[i]? = some x)
  (hu : u ≠ topV) (hcs : u.cells.toList = cs) (hs : cs.length = n) (h1 : cs.all One = true) (hn : ∀ r, RE V r x → k + cs.length ≤ r.length ∧ RE V (splice r k cs) y) (hk : ∀ H1 : AH, (∀ c, c ≠ b → H1.get c = V.H.get c) → okU dr ops j .eff V.H H1 hist)
  (h : ∀ V1, V.le V1 → Nx M V0 V1 → OSl M sz RE V1 ob v (xs.set i y) → (∀ c z, Own M V c z → ob ≠ some c → Own M V1 c z) → WU dr P G ops (j + 1) (hadd dr (j, .eff, V.H, V1.H) hist) l V1.H Q) : WU dr P G ops j hist l V.H Q := by
 rcases hX with ⟨h0, _, _⟩ | ⟨b', c, h0, hv, how, hr, hlen⟩
 ·rw [h0] at hob; cases hob
 ·rw [h0] at hob
  cases hob
  have hset := hr.set hm hx hn
  obtain ⟨r, hre, _⟩ := hr.at hm hx
  have hb : i * sz + k + n ≤ c.length := by
   have h2 := (hn r hre).1
   have h3 := hm.len _ _ _ hre
   have h4 := hr.len hm
   have h5 : i < xs.length := (List.getElem?_eq_some_iff.1 hx).1
   have h6 : (i + 1) * sz ≤ xs.length * sz := Nat.mul_le_mul_right _ h5
   rw [Nat.add_mul] at h6
   omega
  rw [Nat.zero_add] at hp
  refine U.store ho hd hg hop hp hq hi how hu hcs hs hb h1 rfl (hk _ (fun c hc => by simp [AH.upd, hc])) (fun V1 s => ?_)
  refine h V1 (s.le how) (nx.st s how) (.inr ⟨b, _, h0, ?_, s.own how, hset.up hm (s.le how), by simpa using hlen⟩) (fun c z oc hne => oc.st s (fun e => hne (by rw [h0, e])))
  rw [List.length_set]
  exact hv
end Go.Vm
namespace Go.Vm
open Go
theorem U.build0 {P : Program} {G : Nat} {dr : Bool} {ops : Array Oper} {i : Nat} {hist : Hist} {l : List (Nat × Value)} {V : Vw} {Q : LQ} {o : Oper} {d : Tmp} {ty : TypeId} {e : TypeId} {z : Value} {n m : Nat} (ho : ops[i]? = some o) (hd : o.dst = some d) (hg : GOk ops l o) (hop : o.op = .buildSlice ty 0 #[]) (hu : P.underlying ty = some (.slice e)) (hi : tinfo P e z n m) (hz : constB z = true) (hs : z.cells.size = n) (hn : (n == 0) = false)
  (hk : okU dr ops i (.alloc V.H.next) V.H (V.H.new (.cells n [])) hist) (h : ∀ b V1, Nw V b V1 (.cells n []) → WU dr P G ops (i + 1) (hadd dr (i, .alloc b, V.H, V1.H) hist) ((d, .slice (some ⟨b, 0, none⟩) 0 n) :: l) V1.H Q) : WU dr P G ops i hist l V.H Q := by
 refine U.buildSlice ho hd hg hop hu hi hz hs hn (by omega) (fun p hp => by simp at hp) (r := #[]) ?_ (by simp) rfl hk h
 simp [Instr.fill]
end Go.Vm
namespace Go.Vm
open Go
theorem OSl.fzo {α : Type} {M : Nat → Prop} {sz : Nat} {RE : Vw → List Value → α → Prop} {V : Vw} {ob : Option Nat} {v : Value} {xs : List α} (hm : Ty sz RE) (h : OSl M sz RE V ob v xs) (b : Option Nat) (hl : ∀ c, b = some c → c < V.H.next) (hne : ∀ c, ob = some c → b ≠ some c) : OSl M sz RE (V.fz b hl) ob v xs := by
 rcases h with h | ⟨c, cs, h0, h1, h2, h3, h4⟩
 ·exact .inl h
 ·exact .inr ⟨c, cs, h0, h1, h2.fz b hl (hne c h0), h3.up hm (V.fz_le b hl), h4⟩
end Go.Vm
namespace Go.Vm
open Go
theorem upd_same {H : AH} {b r : Nat} {x : Option AObj} (h : r ≠ b) : (H.upd b x).get r = H.get r := by simp [AH.upd, h]
end Go.Vm
