/-
  Part of an evaluator for the model, proved sound: no condition.
-/
import Derived.Test.YtngmbcedamphmaaEVm17
set_option linter.unusedSimpArgs false
set_option linter.unusedVariables false
namespace Go.Vm
open Go
structure Vw where
 F : Nat → Prop
 H : AH
 wf : ∀ b, F b → b < H.next
 lon : H.lo ≤ H.next
structure Vw.le (V V' : Vw) : Prop where
 next : V.H.next ≤ V'.H.next
 lo : V'.H.lo = V.H.lo
 sub : ∀ b, V.F b → V'.F b
 get : ∀ b, V.F b → V'.H.get b = V.H.get b
theorem Vw.le.refl (V : Vw) : V.le V := ⟨Nat.le_refl _, rfl, fun _ h => h, fun _ _ => rfl⟩
theorem Vw.le.trans {A B D : Vw} (h : A.le B) (h' : B.le D) : A.le D := ⟨Nat.le_trans h.next h'.next, h'.lo.trans h.lo, fun b hb => h'.sub b (h.sub b hb), fun b hb => (h'.get b (h.sub b hb)).trans (h.get b hb)⟩
structure Nx (M : Nat → Prop) (V V' : Vw) : Prop where
 le : V.le V'
 old : ∀ b, b < V.H.next → V'.F b → V.F b
 keep : ∀ b, b < V.H.next → ¬ M b → V'.H.get b = V.H.get b
 new : ∀ b, V.H.next ≤ b → M b
structure Own (M : Nat → Prop) (V : Vw) (b : Nat) (x : AObj) : Prop where
 m : M b
 lo : V.H.lo ≤ b
 lt : b < V.H.next
 nf : ¬ V.F b
 get : V.H.get b = some x
theorem Own.cell {M : Nat → Prop} {V : Vw} {b e o : Nat} {c : List Value} {v : Value} (h : Own M V b (.cells e c)) (hv : c[o]? = some v) : V.H.cell b o = some v := S.cellB h.get hv
def Vw.new (V : Vw) (x : AObj) : Vw := ⟨V.F, V.H.new x, fun b hb => Nat.lt_of_lt_of_le (V.wf b hb) (Nat.le_succ _), Nat.le_trans V.lon (Nat.le_succ _)⟩
structure Nw (V : Vw) (b : Nat) (V' : Vw) (x : AObj) : Prop where
 eq : b = V.H.next
 view : V' = V.new x
theorem Nw.le {V V' : Vw} {b : Nat} {x : AObj} (h : Nw V b V' x) : V.le V' := by
 obtain ⟨rfl, rfl⟩ := h
 exact ⟨Nat.le_succ _, rfl, fun _ h => h, fun b hb => by have := V.wf b hb; simp [Vw.new, AH.new, Nat.ne_of_lt this]⟩
theorem Nw.own {M : Nat → Prop} {V0 V V' : Vw} {b : Nat} {x : AObj} (n : Nw V b V' x) (h : Nx M V0 V) : Own M V' b x := by
 obtain ⟨rfl, rfl⟩ := n
 exact ⟨h.new _ h.le.next, V.lon, Nat.lt_succ_self _, fun hf => by have := V.wf _ hf; omega, by simp [Vw.new, AH.new]⟩
def Vw.set (V : Vw) (b : Nat) (x : AObj) : Vw := ⟨V.F, V.H.upd b (some x), V.wf, V.lon⟩
structure St (V : Vw) (b : Nat) (V' : Vw) (x : AObj) : Prop where
 view : V' = V.set b x
theorem St.le {M : Nat → Prop} {V V' : Vw} {b : Nat} {x y : AObj} (h : St V b V' x) (o : Own M V b y) : V.le V' := by
 obtain ⟨rfl⟩ := h
 refine ⟨Nat.le_refl _, rfl, fun _ h => h, fun c hc => ?_⟩
 have : c ≠ b := fun e => o.nf (e ▸ hc)
 simp [Vw.set, AH.upd, this]
theorem Nx.st {M : Nat → Prop} {V0 V V' : Vw} {b : Nat} {x y : AObj} (h : Nx M V0 V) (n : St V b V' x) (o : Own M V b y) : Nx M V0 V' := by
 refine ⟨h.le.trans (n.le o), ?_, ?_, h.new⟩ <;> obtain ⟨rfl⟩ := n
 ·exact h.old
 ·intro c hc hm
  have : c ≠ b := fun e => hm (e ▸ o.m)
  have h1 : (V.set b x).H.get c = V.H.get c := by simp [Vw.set, AH.upd, this]
  rw [h1]
  exact h.keep c hc hm
theorem St.own {M : Nat → Prop} {V V' : Vw} {b : Nat} {x y : AObj} (n : St V b V' x) (o : Own M V b y) : Own M V' b x := by
 obtain ⟨rfl⟩ := n
 exact ⟨o.m, o.lo, o.lt, o.nf, by simp [Vw.set, AH.upd]⟩
theorem Own.st {M : Nat → Prop} {V V' : Vw} {b c : Nat} {x y : AObj} (o : Own M V c y) (n : St V b V' x) (hne : c ≠ b) : Own M V' c y := by
 obtain ⟨rfl⟩ := n
 exact ⟨o.m, o.lo, o.lt, o.nf, by simp [Vw.set, AH.upd, hne, o.get]⟩
def Vw.app (V : Vw) (b : Option Nat) (x : AObj) : Vw := ⟨V.F, (match b with | some b => V.H.upd b none | none => V.H).new x, fun c hc => by cases b <;> exact Nat.lt_of_lt_of_le (V.wf c hc) (Nat.le_succ _), by cases b <;> exact Nat.le_trans V.lon (Nat.le_succ _)⟩
structure Ap (V : Vw) (b : Option Nat) (b' : Nat) (V' : Vw) (x : AObj) : Prop where
 eq : b' = V.H.next
 view : V' = V.app b x
structure OwnO (M : Nat → Prop) (V : Vw) (b : Nat) : Prop where
 m : M b
 lo : V.H.lo ≤ b
 lt : b < V.H.next
 nf : ¬ V.F b
theorem Own.o {M : Nat → Prop} {V : Vw} {b : Nat} {x : AObj} (o : Own M V b x) : OwnO M V b := ⟨o.m, o.lo, o.lt, o.nf⟩
theorem Ap.get {V V' : Vw} {b : Option Nat} {b' c : Nat} {x : AObj} (n : Ap V b b' V' x) (hc : c < V.H.next) (hne : b ≠ some c) : V'.H.get c = V.H.get c := by
 obtain ⟨rfl, rfl⟩ := n
 cases b with
 | none => simp [Vw.app, AH.new, Nat.ne_of_lt hc]
 | some b =>
  have : c ≠ b := fun e => hne (by rw [e])
  simp [Vw.app, AH.new, AH.upd, Nat.ne_of_lt hc, this]
theorem Ap.next {V V' : Vw} {b : Option Nat} {b' : Nat} {x : AObj} (n : Ap V b b' V' x) : V'.H.next = V.H.next + 1 ∧ V'.H.lo = V.H.lo ∧ V'.F = V.F := by
 obtain ⟨rfl, rfl⟩ := n
 cases b <;> exact ⟨rfl, rfl, rfl⟩
theorem Ap.le {M : Nat → Prop} {V V' : Vw} {b : Option Nat} {b' : Nat} {x : AObj} (n : Ap V b b' V' x) (o : ∀ c, b = some c → OwnO M V c) : V.le V' := by
 obtain ⟨h1, h2, h3⟩ := n.next
 exact ⟨by omega, h2, fun c hc => by rw [h3]; exact hc, fun c hc => n.get (V.wf c hc) (fun e => (o c e).nf hc)⟩
theorem Ap.own {M : Nat → Prop} {V0 V V' : Vw} {b : Option Nat} {b' : Nat} {x : AObj} (n : Ap V b b' V' x) (h : Nx M V0 V) : Own M V' b' x := by
 obtain ⟨h1, h2, h3⟩ := n.next
 refine ⟨h.new _ (by rw [n.eq]; exact h.le.next), by rw [h2, n.eq]; exact V.lon, by rw [h1, n.eq]; omega, fun hf => ?_, ?_⟩
 ·rw [h3] at hf
  have := V.wf _ hf
  have := n.eq
  omega
 ·obtain ⟨rfl, rfl⟩ := n
  cases b <;> simp [Vw.app, AH.new, AH.upd]
def Vw.fz (V : Vw) (b : Option Nat) (h : ∀ c, b = some c → c < V.H.next) : Vw := ⟨fun c => V.F c ∨ b = some c, V.H, fun c hc => hc.elim (V.wf c) (h c), V.lon⟩
theorem Vw.fz_le (V : Vw) (b : Option Nat) (h : ∀ c, b = some c → c < V.H.next) : V.le (V.fz b h) := ⟨Nat.le_refl _, rfl, fun _ h => .inl h, fun _ _ => rfl⟩
def Cc (P : Program) (G : Nat) (g : FuncId) (args : Array Value) (V : Vw) (X : Nat → Prop) (Post : Value → Vw → Prop) : Prop :=
 ∃ v V', Cl P G g args V.H v V'.H ∧ Nx (fun b => V.H.next ≤ b ∨ X b) V V' ∧ Post v V'
structure Ty {α : Type} (sz : Nat) (RE : Vw → List Value → α → Prop) : Prop where
 len : ∀ V cs x, RE V cs x → cs.length = sz
 one : ∀ V cs x, RE V cs x → cs.all One = true
 up : ∀ V V' cs x, V.le V' → RE V cs x → RE V' cs x
def Sl {α : Type} (sz : Nat) (RE : Vw → List Value → α → Prop) (V : Vw) (v : Value) (xs : List α) : Prop :=
 (v = .slice none 0 0 ∧ xs = []) ∨ ∃ b o c, v = .slice (some ⟨b, o, none⟩) xs.length c ∧ (V.F b ∧ xs.length ≤ 9223372036854775807) ∧ ∀ (i : Nat) (x : α), xs[i]? = some x → ∃ cs : List Value, cs.length = sz ∧ RE V cs x ∧ ∀ (j : Nat) (u : Value), cs[j]? = some u → V.H.cell b (o + i * sz + j) = some u
section
variable {α : Type} {sz : Nat} {RE : Vw → List Value → α → Prop} {V V' : Vw} {v : Value} {xs : List α}
theorem Sl.up (hm : Ty sz RE) (h : Sl sz RE V v xs) (he : V.le V') : Sl sz RE V' v xs := by
 rcases h with h | ⟨b, o, c, h1, h2, h3⟩
 ·exact .inl h
 ·refine .inr ⟨b, o, c, h1, ⟨he.sub b h2.1, h2.2⟩, fun i x hx => ?_⟩
  obtain ⟨cs, h4, h5, h6⟩ := h3 i x hx
  exact ⟨cs, h4, hm.up _ _ _ _ he h5, fun j u hj => (cell_congr (he.get b h2.1)).trans (h6 j u hj)⟩
theorem Sl.len {P : Program} {C : CallRel} {o : Oper} {t : T} {H1 : AH} (h : Sl sz RE V v xs) {x : Operand} {ty e : TypeId}
  (ho : o.op = .call { callee := .builtin .len, args := #[x], argTypes := #[ty] }) (hx : aev t x = v) (hu : P.underlying ty = some (.slice e)) : Step P C o t H1 .pure (.int .i64 xs.length) H1 := by
 rcases h with ⟨h1, h2⟩ | ⟨b, o', c, h1, _⟩
 ·subst h1 h2
  exact S.lenNil ho hx hu
 ·subst h1
  exact S.len ho hx hu
theorem Sl.one (h : Sl sz RE V v xs) : One v = true := by
 rcases h with ⟨h1, _⟩ | ⟨b, o', c, h1, _⟩ <;> subst h1 <;> rfl
theorem Sl.ne (h : Sl sz RE V v xs) : v ≠ topV := by
 rcases h with ⟨h1, _⟩ | ⟨b, o', c, h1, _⟩ <;> subst h1 <;> simp [topV]
theorem Sl.cells (h : Sl sz RE V v xs) : v.cells = #[v] := by
 rcases h with ⟨h1, _⟩ | ⟨b, o', c, h1, _⟩ <;> subst h1 <;> rfl
theorem Sl.nil : Sl sz RE V (.slice none 0 0) [] := .inl ⟨rfl, rfl⟩
theorem Sl.at (h : Sl sz RE V v xs) {i : Nat} {x : α} (hx : xs[i]? = some x) :
  ∃ b o c cs, v = .slice (some ⟨b, o, none⟩) xs.length c ∧ V.F b ∧ cs.length = sz ∧ RE V cs x ∧ ∀ (j : Nat) (u : Value), cs[j]? = some u → V.H.cell b (o + i * sz + j) = some u := by
 rcases h with ⟨h1, h2⟩ | ⟨b, o', c, h1, hb, h2⟩
 ·subst h2; simp at hx
 ·obtain ⟨cs, h3, h4, h5⟩ := h2 i x hx
  exact ⟨b, o', c, cs, h1, hb.1, h3, h4, h5⟩
end
inductive Rows {α : Type} (RE : Vw → List Value → α → Prop) (V : Vw) : List Value → List α → Prop
 | nil : Rows RE V [] []
 | cons (r cs : List Value) (x : α) (xs : List α) (h : RE V r x) (h' : Rows RE V cs xs) : Rows RE V (r ++ cs) (x :: xs)
section
variable {α : Type} {sz : Nat} {RE : Vw → List Value → α → Prop} {V V' : Vw} {v : Value} {xs ys : List α} {cs ds : List Value}
theorem Rows.append (h : Rows RE V cs xs) (h' : Rows RE V ds ys) : Rows RE V (cs ++ ds) (xs ++ ys) := by
 induction h with
 | nil => exact h'
 | cons r cs x xs h _ ih => rw [List.append_assoc]; exact .cons r _ x _ h ih
theorem Rows.len (hm : Ty sz RE) (h : Rows RE V cs xs) : cs.length = xs.length * sz := by
 induction h with
 | nil => simp
 | cons r cs x xs h _ ih => rw [List.length_append, ih, hm.len _ _ _ h, List.length_cons, Nat.add_mul]; omega
theorem Rows.one (hm : Ty sz RE) (h : Rows RE V cs xs) : cs.all One = true := by
 induction h with
 | nil => rfl
 | cons r cs x xs h _ ih => rw [List.all_append, hm.one _ _ _ h, ih]; rfl
theorem Rows.up (hm : Ty sz RE) (h : Rows RE V cs xs) (he : V.le V') : Rows RE V' cs xs := by
 induction h with
 | nil => exact .nil
 | cons r cs x xs h _ ih => exact .cons r cs x xs (hm.up _ _ _ _ he h) ih
theorem Rows.at (hm : Ty sz RE) (h : Rows RE V cs xs) : ∀ {i : Nat} {x : α}, xs[i]? = some x → ∃ r, RE V r x ∧ ∀ (j : Nat) (u : Value), r[j]? = some u → cs[i * sz + j]? = some u := by
 induction h with
 | nil => intro i x h; simp at h
 | cons r cs y ys h _ ih =>
  intro i x hx
  cases i with
  | zero =>
   simp at hx
   subst hx
   refine ⟨r, h, fun j u hj => ?_⟩
   rw [Nat.zero_mul, Nat.zero_add, List.getElem?_append_left (List.getElem?_eq_some_iff.1 hj).1]
   exact hj
  | succ i =>
   obtain ⟨q, h1, h2⟩ := ih (i := i) (by simpa using hx)
   refine ⟨q, h1, fun j u hj => ?_⟩
   have hl := hm.len _ _ _ h
   rw [List.getElem?_append_right (by rw [hl, Nat.add_mul]; omega), hl]
   rw [show (i + 1) * sz + j - sz = i * sz + j by rw [Nat.add_mul]; omega]
   exact h2 j u hj
theorem Sl.rows (hm : Ty sz RE) {b o c : Nat} : ∀ (n : Nat) (xs : List α), xs.length = n → (∀ (i : Nat) (x : α), xs[i]? = some x → ∃ cs : List Value, cs.length = sz ∧ RE V cs x ∧ ∀ (j : Nat) (u : Value), cs[j]? = some u → V.H.cell b (o + i * sz + j) = some u) →
  ∃ vs, Rows RE V vs xs ∧ ∀ (j : Nat) (u : Value), vs[j]? = some u → V.H.cell b (o + j) = some u := by
 intro n
 induction n generalizing o with
 | zero => intro xs hl _; exact ⟨[], by rw [List.length_eq_zero_iff.1 hl]; exact .nil, fun j u h => by simp at h⟩
 | succ n ih =>
  intro xs hl h
  match xs, hl with
  | x :: xs, hl =>
   obtain ⟨cs, h1, h2, h3⟩ := h 0 x rfl
   obtain ⟨vs, h4, h5⟩ := ih (o := o + sz) xs (by simpa using hl) (fun i y hy => by
    obtain ⟨ds, h6, h7, h8⟩ := h (i + 1) y (by simpa using hy)
    exact ⟨ds, h6, h7, fun j u hj => by rw [← h8 j u hj, Nat.add_mul]; congr 1; omega⟩)
   refine ⟨cs ++ vs, .cons _ _ _ _ h2 h4, fun j u hj => ?_⟩
   by_cases hlt : j < cs.length
   ·rw [List.getElem?_append_left hlt] at hj
    have := h3 j u hj
    rwa [Nat.zero_mul, Nat.add_zero] at this
   ·rw [List.getElem?_append_right (by omega)] at hj
    have := h5 _ u hj
    rwa [h1, show o + sz + (j - sz) = o + j by omega] at this
theorem Sl.src (hm : Ty sz RE) (h : Sl sz RE V v xs) {P : Program} {t e : TypeId} (hu : P.underlying t = some (.slice e)) : ∃ vs, Src P V.H sz v t xs.length vs ∧ Rows RE V vs xs := by
 rcases h with ⟨h1, h2⟩ | ⟨b, o, c, h1, h2, h3⟩
 ·subst h1 h2
  exact ⟨[], .nil t e hu, .nil⟩
 ·subst h1
  obtain ⟨vs, h4, h5⟩ := Sl.rows hm (b := b) (o := o) (c := c) _ xs rfl h3
  exact ⟨vs, .slice t e b o _ c vs hu (h4.len hm) h5, h4⟩
end
def OSl {α : Type} (M : Nat → Prop) (sz : Nat) (RE : Vw → List Value → α → Prop) (V : Vw) (ob : Option Nat) (v : Value) (xs : List α) : Prop :=
 (ob = none ∧ v = .slice none 0 0 ∧ xs = []) ∨ ∃ b cs, ob = some b ∧ v = .slice (some ⟨b, 0, none⟩) xs.length sz ∧ Own M V b (.cells sz cs) ∧ Rows RE V cs xs ∧ xs.length ≤ 9223372036854775807
def RInt (_ : Vw) (cs : List Value) (x : Int) : Prop := cs = [.int .i64 x]
def RBool (_ : Vw) (cs : List Value) (x : Bool) : Prop := cs = [.bool x]
def RStr (_ : Vw) (cs : List Value) (x : ByteArray) : Prop := cs = [.string x]
theorem RInt.ty : Ty 1 RInt := ⟨fun _ _ _ h => by rw [h]; rfl, fun _ _ _ h => by rw [h]; rfl, fun _ _ _ _ _ h => h⟩
theorem RBool.ty : Ty 1 RBool := ⟨fun _ _ _ h => by rw [h]; rfl, fun _ _ _ h => by rw [h]; rfl, fun _ _ _ _ _ h => h⟩
theorem RStr.ty : Ty 1 RStr := ⟨fun _ _ _ h => by rw [h]; rfl, fun _ _ _ h => by rw [h]; rfl, fun _ _ _ _ _ h => h⟩
end Go.Vm
