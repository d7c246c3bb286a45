/-
  Part of an evaluator for the model, proved sound: no condition.
-/
import Derived.Test.YtngmbcedamphmaaEVm22
set_option linter.unusedSimpArgs false
set_option linter.unusedVariables false
namespace Go.Vm
open Go
theorem Vw.le.cell {V V' : Vw} (h : V.le V') {b o : Nat} {u : Value} (hf : V.F b) (hc : V.H.cell b o = some u) : V'.H.cell b o = some u := (cell_congr (h.get b hf)).trans hc
section
variable {P : Program} {G N : Nat} {dr : Bool} {ops : Array Oper} {i : Nat} {hist : Hist} {l : List (Nat × Value)} {V : Vw} {Q : LQ} {o : Oper} {d : Tmp}
theorem aN : ([] : List Operand).map (aev (fr l)) = [] := rfl
theorem aC {x : Operand} {v : Value} {xs : List Operand} {vs : List Value} (h : aev (fr l) x = v) (hr : xs.map (aev (fr l)) = vs) : (x :: xs).map (aev (fr l)) = v :: vs := by rw [List.map_cons, h, hr]
end
theorem WP.loopE {P : Program} {G N : Nat} (I : Nat → List (Nat × Value) → Vw → Prop) {c : Code} {Q : XQ}
  (round : ∀ n l V, I n l V → WP P G N c (sq (fun l' H' => ∃ n' l2 V', V'.H = H' ∧ I n' l2 V' ∧ n' < n ∧ ∀ p ∈ l2, fr l' p.1 = p.2) Q) l V.H) (n : Nat) (l0 : List (Nat × Value)) (V : Vw) (h : I n l0 V) (l : List (Nat × Value)) (hl : ∀ p ∈ l0, fr l p.1 = p.2) : WP P G N (.loop c) Q l V.H := by
 refine WP.loopV (σ := Nat × List (Nat × Value)) (fun s => s.2) (fun s V => I s.1 s.2 V) (fun s => s.1) (fun s V hI => ?_) (n, l0) V h l hl
 refine (round s.1 s.2 V hI).mono (fun e l H' hq => ?_)
 cases e with
 | normal => obtain ⟨n', l2, V', h1, h2, h3, h4⟩ := hq; exact ⟨(n', l2), V', h1, h2, h3, h4⟩
 | exit id => exact hq
 | ret => exact hq
end Go.Vm
namespace Go.Vm
open Go
def placesAre (P : Program) (ty : TypeId) (pl : Array (Nat × Nat)) : Prop := ∃ fields, P.underlying ty = some (.struct fields) ∧ placesOf P fields = some pl
theorem S.build {P : Program} {C : CallRel} {o : Oper} {t : T} {H : AH} {ty : TypeId} {parts : Array (Nat × Operand)} {z : Value} {n m : Nat} {pl : Array (Nat × Nat)} {vs : List Value} {r : Array Value} (ho : o.op = .build ty parts) (hi : tinfo P ty z n m) (hz : constB z = true) (hp : placesAre P ty pl)
  (hv : (parts.toList.map (·.2)).map (aev t) = vs) (ht : ∀ v ∈ vs, v ≠ topV) (hr : Instr.fill (pl[·]?) z.cells ((parts.toList.map (·.1)).zip vs) = some r) : Step P C o t H .pure (.agg r) H := by
 obtain ⟨fields, hu, hp⟩ := hp
 obtain ⟨i, h1, h2, h3, h4⟩ := tinfo_get hi
 refine .b _ (.buildS ty parts fields i z pl r ho hu h1 h2 hz hp (fun p hp' => ?_) ?_)
 ·refine ht _ ?_
  rw [← hv, List.map_map]
  exact List.mem_map_of_mem (f := (aev t) ∘ (·.2)) (Array.mem_toList_iff.2 hp')
 ·rw [← hr, ← hv]
  congr 1
  rw [Array.toList_map]
  generalize parts.toList = l
  induction l with
  | nil => rfl
  | cons p l ih => simp only [List.map_cons, List.zip_cons_cons, ih]
theorem allN {p : Value → Prop} : ∀ v ∈ ([] : List Value), p v := fun v h => by cases h
theorem allC {p : Value → Prop} {v : Value} {vs : List Value} (h : p v) (hr : ∀ v ∈ vs, p v) : ∀ u ∈ v :: vs, p u := fun u hu => by
 cases hu with
 | head => exact h
 | tail _ hu => exact hr u hu
end Go.Vm
namespace Go.Vm
open Go
theorem fill1 {place : Nat → Option (Nat × Nat)} {cells : Array Value} {i off : Nat} {v : Value} {rest : List (Nat × Value)} {r : Option (Array Value)} (hp : place i = some (off, 1)) (hc : v.cells = #[v]) (hs : off < cells.size) (h : Instr.fill place (cells.setIfInBounds off v) rest = r) : Instr.fill place cells ((i, v) :: rest) = r := by
 unfold Instr.fill
 rw [hp]
 simp only [hc]
 rw [if_neg (by simp; omega)]
 simpa using h
end Go.Vm
namespace Go.Vm
open Go
theorem fsN {l : List (Nat × Value)} : ([] : List Tmp).map (fr l) = [] := rfl
theorem fsC {l : List (Nat × Value)} {s : Tmp} {ss : List Tmp} {v : Value} {vs : List Value} (h : aev (fr l) (.tmp s) = v) (hr : ss.map (fr l) = vs) : (s :: ss).map (fr l) = v :: vs := by
 rw [List.map_cons, hr]
 exact congrArg (· :: vs) h
theorem fin.slots' {P : Program} {fn : Func} {Post : Value → AH → Prop} {e : VX} {l : List (Nat × Value)} {H : AH} {ss : List Tmp} {vs : List Value} (he : e = .normal ∨ e = .ret) (hv : ss.map (fr l) = vs) (hr : fn.results.toList = ss.map .tmp) (h : Post (resV vs) H) : fin P fn Post e l H := fin.slots he hr hv h
end Go.Vm
namespace Go.Vm
open Go
section
variable {K : LQ} {Q : XQ} {l : List (Nat × Value)} {H : AH} {i j : Nat}
theorem sqN (h : K l H) : sq K Q .normal l H := h
theorem sqR (h : Q .ret l H) : sq K Q .ret l H := h
theorem sqE (h : Q (.exit i) l H) : sq K Q (.exit i) l H := h
theorem blkN (h : Q .normal l H) : blk i Q .normal l H := h
theorem blkR (h : Q .ret l H) : blk i Q .ret l H := h
theorem blkE (h : Q .normal l H) : blk i Q (.exit i) l H := by unfold blk; rw [if_pos rfl]; exact h
theorem blkO (hn : (j == i) = false) (h : Q (.exit j) l H) : blk i Q (.exit j) l H := by
 unfold blk
 rw [if_neg (fun e => by cases e; simp at hn)]
 exact h
end
end Go.Vm
namespace Go.Vm
open Go
end Go.Vm
namespace Go.Vm
open Go
namespace S
variable {P : Program} {C : CallRel} {o : Oper} {t : T} {H : AH}
theorem minI {x y : Operand} {ty ty' : TypeId} {a b : Int} {k : IntKind} (ho : o.op = .call { callee := .builtin .min, args := #[x, y], argTypes := #[ty, ty'] }) (hx : aev t x = .int k a) (hy : aev t y = .int k b) : Step P C o t H .pure (.int k (min a b)) H := by
 refine .p _ (.flat _ (fun z hz => ?_) (fun cs b => by rw [ho]; simp) (.atom _ (.int _ _)) (fun w => ?_))
 ·rw [ho] at hz
  simp [Op.operands, Call.operands] at hz
  rcases hz with rfl | rfl
  ·rw [hx]; exact .atom _ (.int _ _)
  ·rw [hy]; exact .atom _ (.int _ _)
 ·simp [execOp, ho, hx, hy, resolve, invoke, builtin, Builtin.min_, Builtin.min2]
  split <;> omega
theorem eqIn_nil {ty e : TypeId} (hu : P.underlying ty = some (.slice e)) (d : Nat) (w : World) : (Op.equalIn (d + 1) ty (.slice none 0 0) (.slice none 0 0)).run P w = .ok true w := by
 simp [Op.equalIn, run_und hu]
theorem nilNil {x y : Operand} {ty u e : TypeId} (ho : o.op = .binOp .eql ty x y u) (hx : aev t x = .slice none 0 0) (hy : aev t y = .slice none 0 0) (hu : P.underlying ty = some (.slice e)) : Step P C o t H .pure (.bool true) H := by
 refine flat2 ho hx hy (.atom _ .nilSlice) (.atom _ .nilSlice) (.atom _ (.bool _)) (fun w => ?_) (fun w => ?_)
 ·simp only [binOp]; simp [Op.equal, Op.maxDepth, eqIn_nil hu 9999]
 ·simp [eqGuard]
end S
def isNil : Value → Bool
 | .slice none _ _ => true
 | _ => false
theorem Sl.eqNil {α : Type} {sz : Nat} {RE : Vw → List Value → α → Prop} {V : Vw} {v : Value} {xs : List α} (h : Sl sz RE V v xs) {P : Program} {C : CallRel} {o : Oper} {t : T} {H : AH} {x y : Operand} {ty u e : TypeId} (ho : o.op = .binOp .eql ty x y u) (hx : aev t x = v) (hy : aev t y = .slice none 0 0) (hu : P.underlying ty = some (.slice e)) : Step P C o t H .pure (.bool (isNil v)) H := by
 rcases h with ⟨h1, h2⟩ | ⟨b, o', c, h1, _⟩
 ·subst h1
  exact S.nilNil ho hx hy hu
 ·subst h1
  exact S.nilS ho (.inl rfl) hx hy hu
theorem Sl.nil_of {α : Type} {sz : Nat} {RE : Vw → List Value → α → Prop} {V : Vw} {v : Value} {xs : List α} (h : Sl sz RE V v xs) (hn : isNil v = true) : xs = [] := by
 rcases h with ⟨h1, h2⟩ | ⟨b, o', c, h1, _⟩
 ·exact h2
 ·subst h1; cases hn
end Go.Vm
namespace Go.Vm
open Go
theorem Nx.same {V V1 : Vw} (n : Nx (fun b => V.H.next ≤ b ∨ False) V V1) {b : Nat} (h : b < V.H.next) : V1.H.get b = V.H.get b := n.keep b h (fun e => e.elim (fun e => by omega) id)
section
variable {α : Type} {M : Nat → Prop} {sz : Nat} {RE : Vw → List Value → α → Prop} {V : Vw} {ob : Option Nat} {v : Value} {xs : List α}
theorem OSl.at (hm : Ty sz RE) (h : OSl M sz RE V ob v xs) {i : Nat} {x : α} (hx : xs[i]? = some x) :
  ∃ b r, v = .slice (some ⟨b, 0, none⟩) xs.length sz ∧ ob = some b ∧ b < V.H.next ∧ RE V r x ∧ ∀ (j : Nat) (u : Value), r[j]? = some u → V.H.cell b (0 + i * sz + j) = some u := by
 rcases h with ⟨_, h1, h2⟩ | ⟨b, cs, h0, h1, h2, h3, h4⟩
 ·subst h2; simp at hx
 ·obtain ⟨r, h5, h6⟩ := h3.at hm hx
  exact ⟨b, r, h1, h0, h2.lt, h5, fun j u hj => by rw [Nat.zero_add]; exact h2.cell (h6 j u hj)⟩
theorem Rows.set (hm : Ty sz RE) {cs : List Value} (h : Rows RE V cs xs) : ∀ {i k : Nat} {x y : α} {new : List Value}, xs[i]? = some x → (∀ r, RE V r x → k + new.length ≤ r.length ∧ RE V (splice r k new) y) → Rows RE V (splice cs (i * sz + k) new) (xs.set i y) := by
 induction h with
 | nil => intro i k x y new hx; simp at hx
 | cons r cs z zs h h' ih =>
  intro i k x y new hx hn
  have hl := hm.len _ _ _ h
  cases i with
  | zero =>
   simp at hx
   subst hx
   obtain ⟨h1, h2⟩ := hn r h
   have : splice (r ++ cs) (0 * sz + k) new = splice r k new ++ cs := by
    unfold splice
    rw [Nat.zero_mul, Nat.zero_add, List.take_append_of_le_length (by omega), List.drop_append_of_le_length (by omega)]
    simp
   rw [this]
   exact .cons _ _ _ _ h2 h'
  | succ i =>
   have : splice (r ++ cs) ((i + 1) * sz + k) new = r ++ splice cs (i * sz + k) new := by
    unfold splice
    have e1 : (i + 1) * sz + k = r.length + (i * sz + k) := by rw [hl, Nat.add_mul]; omega
    rw [e1, List.take_length_add_append, Nat.add_assoc, List.drop_length_add_append]
    simp
   rw [this]
   exact .cons _ _ _ _ h (ih (by simpa using hx) hn)
end
end Go.Vm
namespace Go.Vm
open Go
end Go.Vm
namespace Go.Vm
open Go
end Go.Vm
namespace Go.Vm
open Go
end Go.Vm
namespace Go.Vm
open Go
end Go.Vm
