/-
  Part of an evaluator for the model, proved sound: no condition.
-/
import Derived.Test.YtngmbcedamphmaaEVm25
set_option linter.unusedSimpArgs false
set_option linter.unusedVariables false
namespace Go.Vm
open Go
abbrev PH := List (Nat × AObj)
structure At where
 sat : Vw → PH → Prop
 up : ∀ V V' p, V.le V' → sat V p → sat V' p
structure StP (V : Vw) (p : PH) : Prop where
 nd : (p.map (·.1)).Nodup
 own : ∀ q ∈ p, V.H.lo ≤ q.1 ∧ q.1 < V.H.next ∧ ¬ V.F q.1 ∧ V.H.get q.1 = some q.2
inductive Sat (V : Vw) : PH → List At → Prop
 | nil : Sat V [] []
 | cons (p q : PH) (A : At) (As : List At) (h : A.sat V p) (h' : Sat V q As) : Sat V (p ++ q) (A :: As)
def Ow (V : Vw) (As : List At) : Prop := ∃ p, StP V p ∧ Sat V p As
theorem Ow.start (V : Vw) : Ow V [] := ⟨[], ⟨List.nodup_nil, fun q h => nomatch h⟩, .nil⟩
theorem StP.perm {V : Vw} {p q : PH} (h : StP V p) (hp : p.Perm q) : StP V q := ⟨(hp.map _).nodup_iff.1 h.nd, fun x hx => h.own x (hp.mem_iff.2 hx)⟩
theorem StP.left {V : Vw} {p q : PH} (h : StP V (p ++ q)) : StP V p := ⟨by
 have := h.nd
 rw [List.map_append] at this
 exact (List.nodup_append.1 this).1, fun x hx => h.own x (List.mem_append_left _ hx)⟩
theorem StP.right {V : Vw} {p q : PH} (h : StP V (p ++ q)) : StP V q := ⟨by
 have := h.nd
 rw [List.map_append] at this
 exact (List.nodup_append.1 this).2.1, fun x hx => h.own x (List.mem_append_right _ hx)⟩
theorem Sat.up {V V' : Vw} (hv : V.le V') {p : PH} {As : List At} (h : Sat V p As) : Sat V' p As := by
 induction h with
 | nil => exact .nil
 | cons p q A As h _ ih => exact .cons p q A As (A.up _ _ _ hv h) ih
theorem Sat.split {V : Vw} {p : PH} {A : At} {As : List At} (h : Sat V p (A :: As)) : ∃ p1 p2, p = p1 ++ p2 ∧ A.sat V p1 ∧ Sat V p2 As := by
 cases h with
 | cons p q A As h h' => exact ⟨p, q, rfl, h, h'⟩
theorem Sat.append {V : Vw} {p q : PH} {As Bs : List At} (h : Sat V p As) (h' : Sat V q Bs) : Sat V (p ++ q) (As ++ Bs) := by
 induction h with
 | nil => exact h'
 | cons p q A As h _ ih => rw [List.append_assoc]; exact .cons _ _ _ _ h ih
theorem Sat.apart {V : Vw} : ∀ {As Bs : List At} {p : PH}, Sat V p (As ++ Bs) → ∃ p1 p2, p = p1 ++ p2 ∧ Sat V p1 As ∧ Sat V p2 Bs
 | [], _, p, h => ⟨[], p, rfl, .nil, h⟩
 | A :: As, Bs, p, h => by
  obtain ⟨p1, p2, rfl, h1, h2⟩ := h.split
  obtain ⟨p3, p4, rfl, h3, h4⟩ := Sat.apart (As := As) h2
  exact ⟨p1 ++ p3, p4, by simp, .cons _ _ _ _ h1 h3, h4⟩
theorem Sat.perm {V : Vw} {As Bs : List At} (hp : As.Perm Bs) : ∀ {p : PH}, Sat V p As → ∃ q, p.Perm q ∧ Sat V q Bs := by
 induction hp with
 | nil => exact fun h => ⟨_, .refl _, h⟩
 | cons A _ ih =>
  intro p h
  obtain ⟨p1, p2, rfl, h1, h2⟩ := h.split
  obtain ⟨q, h3, h4⟩ := ih h2
  exact ⟨p1 ++ q, h3.append_left _, .cons _ _ _ _ h1 h4⟩
 | swap A B As =>
  intro p h
  obtain ⟨p1, p2, rfl, h1, h2⟩ := h.split
  obtain ⟨p3, p4, rfl, h3, h4⟩ := h2.split
  exact ⟨p3 ++ (p1 ++ p4), List.perm_append_comm_assoc _ _ _, .cons _ _ _ _ h3 (.cons _ _ _ _ h1 h4)⟩
 | trans _ _ ih ih' =>
  intro p h
  obtain ⟨q, h1, h2⟩ := ih h
  obtain ⟨r, h3, h4⟩ := ih' h2
  exact ⟨r, h1.trans h3, h4⟩
theorem Ow.perm {V : Vw} {As Bs : List At} (h : Ow V As) (hp : As.Perm Bs) : Ow V Bs := by
 obtain ⟨p, h1, h2⟩ := h
 obtain ⟨q, h3, h4⟩ := h2.perm hp
 exact ⟨q, h1.perm h3, h4⟩
theorem pick_perm {α : Type _} : ∀ {l : List α} {k : Nat} {a : α}, l[k]? = some a → (a :: l.eraseIdx k).Perm l
 | b :: l, 0, a, h => by simp at h; subst h; exact .refl _
 | b :: l, k + 1, a, h => (List.Perm.swap b a _).trans ((pick_perm (l := l) (k := k) (by simpa using h)).cons b)
theorem Ow.pick {V : Vw} {As : List At} (h : Ow V As) (k : Nat) {A : At} (hk : As[k]? = some A) : Ow V (A :: As.eraseIdx k) := h.perm (pick_perm hk).symm
theorem Ow.drop0 {V : Vw} {A : At} {As : List At} (h : Ow V (A :: As)) : Ow V As := by
 obtain ⟨p, h1, h2⟩ := h
 obtain ⟨p1, p2, rfl, h3, h4⟩ := h2.split
 exact ⟨p2, h1.right, h4⟩
theorem Ow.drop {V : Vw} {As : List At} (h : Ow V As) (k : Nat) {A : At} (hk : As[k]? = some A) : Ow V (As.eraseIdx k) := (h.pick k hk).drop0
theorem eraseIdx_set {α : Type _} : ∀ (l : List α) (k : Nat) (b : α), (l.set k b).eraseIdx k = l.eraseIdx k
 | [], k, b => rfl
 | a :: l, 0, b => rfl
 | a :: l, k + 1, b => by simp [eraseIdx_set l k b]
theorem Ow.put {V : Vw} {As : List At} {k : Nat} {A B : At} (hk : As[k]? = some A) (h : Ow V (B :: As.eraseIdx k)) : Ow V (As.set k B) := by
 have hl := (List.getElem?_eq_some_iff.1 hk).1
 refine h.perm ?_
 have := pick_perm (l := As.set k B) (k := k) (a := B) (by simp [hl])
 rwa [eraseIdx_set] at this
theorem Ow.chg {V : Vw} {Bs As : List At} (ow : Ow V (Bs ++ As)) : ∃ p, StP V p ∧ Sat V p Bs ∧ ∀ (V' : Vw) (Bs' : List At) (p' : PH), V.le V' →
  (∀ c, V.H.lo ≤ c → c < V.H.next → c ∉ p.map (·.1) → ¬ V.F c → V'.H.get c = V.H.get c ∧ ¬ V'.F c) → StP V' p' → Sat V' p' Bs' → (∀ b ∈ p'.map (·.1), b ∈ p.map (·.1) ∨ V.H.next ≤ b) → Ow V' (Bs' ++ As) := by
 obtain ⟨p0, h1, h2⟩ := ow
 obtain ⟨p, q, rfl, h3, h4⟩ := h2.apart
 refine ⟨p, h1.left, h3, fun V' Bs' p' hle hk hst hsat hb => ⟨p' ++ q, ?_, hsat.append (h4.up hle)⟩⟩
 have hq := h1.right
 have hnd := h1.nd
 rw [List.map_append] at hnd
 have hdis := (List.nodup_append.1 hnd).2.2
 have hnot : ∀ x ∈ q, x.1 ∉ p.map (·.1) := fun x hx hm => hdis _ hm _ (List.mem_map_of_mem hx) rfl
 refine ⟨?_, fun x hx => ?_⟩
 ·rw [List.map_append]
  refine List.nodup_append.2 ⟨hst.nd, hq.nd, fun a ha b hb' e => ?_⟩
  subst e
  obtain ⟨x, hx, rfl⟩ := List.mem_map.1 hb'
  rcases hb _ ha with h5 | h5
  ·exact hnot x hx h5
  ·have := (hq.own x hx).2.1; omega
 ·rcases List.mem_append.1 hx with hx | hx
  ·exact hst.own x hx
  ·obtain ⟨h5, h6, h7, h8⟩ := hq.own x hx
   obtain ⟨h9, h10⟩ := hk x.1 h5 h6 (hnot x hx) h7
   exact ⟨by rw [hle.lo]; exact h5, Nat.lt_of_lt_of_le h6 hle.next, h10, h9.trans h8⟩
def At.pt (b : Nat) (x : AObj) : At := ⟨fun _ p => p = [(b, x)], fun _ _ _ _ h => h⟩
theorem StP.one {V : Vw} {b : Nat} {x : AObj} (h1 : V.H.lo ≤ b) (h2 : b < V.H.next) (h3 : ¬ V.F b) (h4 : V.H.get b = some x) : StP V [(b, x)] := ⟨by simp, fun q hq => by
 have : q = (b, x) := by simpa using hq
 subst this
 exact ⟨h1, h2, h3, h4⟩⟩
theorem Ow.own {V : Vw} {As : List At} (h : Ow V As) {k b : Nat} {x : AObj} (hk : As[k]? = some (.pt b x)) : Own (fun _ => True) V b x := by
 obtain ⟨p, h1, h2, _⟩ := Ow.chg (Bs := [.pt b x]) (h.pick k hk)
 obtain ⟨p1, p2, rfl, h3, h4⟩ := h2.split
 have h3 : p1 = [(b, x)] := h3
 subst h3
 obtain ⟨h5, h6, h7, h8⟩ := h1.own (b, x) (by simp)
 exact ⟨trivial, h5, h6, h7, h8⟩
theorem Ow.nw {V V' : Vw} {As : List At} {b : Nat} {x : AObj} (h : Ow V As) (n : Nw V b V' x) : Ow V' (.pt b x :: As) := by
 obtain ⟨p, h1, h2, h3⟩ := Ow.chg (Bs := []) h
 have hp : p = [] := by cases h2; rfl
 subst hp
 have hle := n.le
 obtain ⟨rfl, rfl⟩ := n
 refine h3 _ [.pt V.H.next x] [(V.H.next, x)] hle (fun c h4 h5 h6 h7 => ⟨by simp [Vw.new, AH.new, Nat.ne_of_lt h5], h7⟩) (.one V.lon (Nat.lt_succ_self _) (fun hf => by have := V.wf _ hf; omega) (by simp [Vw.new, AH.new])) (.cons [(V.H.next, x)] [] _ _ rfl .nil) (fun b hb => ?_)
 simp at hb
 exact .inr (by omega)
theorem Ow.st1 {V V' : Vw} {As : List At} {k b : Nat} {A B : At} {x y : AObj} (h : Ow V As) (hk : As[k]? = some A) (hA : ∀ p, StP V p → A.sat V p → p = [(b, x)]) (n : St V b V' y) (hB : B.sat V' [(b, y)]) : Ow V' (As.set k B) := by
 obtain ⟨p, h1, h2, h3⟩ := Ow.chg (Bs := [A]) (h.pick k hk)
 obtain ⟨p1, p2, rfl, h4, h5⟩ := h2.split
 have h6 := hA p1 h1.left h4
 subst h6
 cases h5
 obtain ⟨h7, h8, h9, h10⟩ := h1.own (b, x) (by simp)
 have hle := n.le (M := fun _ => True) ⟨trivial, h7, h8, h9, h10⟩
 obtain ⟨rfl⟩ := n
 refine Ow.put hk (h3 _ [B] [(b, y)] hle (fun c _ _ hc hf => ?_) (.one h7 h8 h9 (by simp [Vw.set, AH.upd])) (.cons [(b, y)] [] _ _ hB .nil) (fun c hc => by simp at hc; subst hc; simp))
 have : c ≠ b := by simpa using hc
 exact ⟨by simp [Vw.set, AH.upd, this], hf⟩
theorem Ow.st {V V' : Vw} {As : List At} {k b : Nat} {x y : AObj} (h : Ow V As) (hk : As[k]? = some (.pt b x)) (n : St V b V' y) : Ow V' (As.set k (.pt b y)) := h.st1 hk (fun p _ hp => hp) n rfl
theorem Ow.fz1 {V : Vw} {As : List At} {k b : Nat} {A : At} {x : AObj} (h : Ow V As) (hk : As[k]? = some A) (hA : ∀ p, StP V p → A.sat V p → p = [(b, x)]) (hl : ∀ c, some b = some c → c < V.H.next) : Ow (V.fz (some b) hl) (As.eraseIdx k) := by
 obtain ⟨p, h1, h2, h3⟩ := Ow.chg (Bs := [A]) (h.pick k hk)
 obtain ⟨p1, p2, rfl, h4, h5⟩ := h2.split
 have h6 := hA p1 h1.left h4
 subst h6
 cases h5
 refine h3 _ [] [] (V.fz_le (some b) hl) (fun c _ _ hc hf => ⟨rfl, fun hf' => ?_⟩) ⟨List.nodup_nil, fun q h => nomatch h⟩ .nil (fun c hc => by simp at hc)
 have hcb : c ≠ b := by simpa using hc
 exact hf'.elim hf (fun e => hcb (by cases e; rfl))
structure RT (α : Type) where
 sz : Nat
 rel : Vw → List Value → α → Prop
 ty : Ty sz rel
def Fz {α : Type} (R : RT α) (V : Vw) (v : Value) (xs : List α) : Prop := Sl R.sz R.rel V v xs ∧ ∀ b o n c, v = .slice (some ⟨b, o, none⟩) n c → c = R.sz ∨ b < V.H.lo
section
variable {α : Type} {R : RT α} {V V' : Vw} {v : Value} {xs : List α}
theorem Fz.up (h : Fz R V v xs) (he : V.le V') : Fz R V' v xs := ⟨h.1.up R.ty he, fun b o n c e => (h.2 b o n c e).imp id (fun h => by rw [he.lo]; exact h)⟩
theorem Fz.one (h : Fz R V v xs) : One v = true := h.1.one
theorem Fz.ne (h : Fz R V v xs) : v ≠ topV := h.1.ne
theorem Fz.cells (h : Fz R V v xs) : v.cells = #[v] := h.1.cells
theorem Fz.nil : Fz R V (.slice none 0 0) [] := ⟨.nil, fun b o n c e => by cases e⟩
end
def RT.int (k : IntKind) : RT Int := ⟨1, fun _ cs x => cs = [.int k x], ⟨fun _ _ _ h => by rw [h]; rfl, fun _ _ _ h => by rw [h]; rfl, fun _ _ _ _ _ h => h⟩⟩
def RT.bool : RT Bool := ⟨1, fun _ cs x => cs = [.bool x], ⟨fun _ _ _ h => by rw [h]; rfl, fun _ _ _ h => by rw [h]; rfl, fun _ _ _ _ _ h => h⟩⟩
def RT.str : RT ByteArray := ⟨1, fun _ cs x => cs = [.string x], ⟨fun _ _ _ h => by rw [h]; rfl, fun _ _ _ h => by rw [h]; rfl, fun _ _ _ _ _ h => h⟩⟩
def RT.sl {α : Type} (R : RT α) : RT (List α) := ⟨1, fun V cs xs => ∃ v, cs = [v] ∧ Fz R V v xs, ⟨fun _ _ _ ⟨_, h, _⟩ => by rw [h]; rfl, fun _ _ _ ⟨v, h, h2⟩ => by rw [h]; simp [h2.one], fun _ _ _ _ he ⟨v, h, h2⟩ => ⟨v, h, h2.up he⟩⟩⟩
def At.os {α : Type} (R : RT α) (v : Value) (xs : List α) : At where
 sat V p := xs.length ≤ 9223372036854775807 ∧ ((p = [] ∧ v = .slice none 0 0 ∧ xs = []) ∨ ∃ b o cs, v = .slice (some ⟨b, o, none⟩) xs.length R.sz ∧ p = [(b, .cells R.sz cs)] ∧ o ≤ cs.length ∧ Rows R.rel V (cs.drop o) xs)
 up V V' p hle h := ⟨h.1, h.2.imp id (fun ⟨b, o, cs, h1, h2, h3, h4⟩ => ⟨b, o, cs, h1, h2, h3, h4.up R.ty hle⟩)⟩
section
variable {α : Type} {R : RT α} {V V' : Vw} {v : Value} {xs : List α} {As : List At} {k : Nat}
theorem Ow.nil (h : Ow V As) (R : RT α) : Ow V (.os R (.slice none 0 0) [] :: As) := by
 obtain ⟨p, h1, h2⟩ := h
 exact ⟨p, h1, .cons [] p _ _ ⟨Nat.zero_le _, .inl ⟨rfl, rfl, rfl⟩⟩ h2⟩
theorem Ow.osat (h : Ow V As) (hk : As[k]? = some (.os R v xs)) : ∃ p, StP V p ∧ (At.os R v xs).sat V p := by
 obtain ⟨p, h1, h2, _⟩ := Ow.chg (Bs := [.os R v xs]) (h.pick k hk)
 obtain ⟨p1, p2, rfl, h3, h4⟩ := h2.split
 exact ⟨p1, h1.left, h3⟩
theorem Ow.oslen (h : Ow V As) (hk : As[k]? = some (.os R v xs)) {P : Program} {C : CallRel} {o : Oper} {t : T} {H1 : AH} {x : Operand} {ty e : TypeId}
  (ho : o.op = .call { callee := .builtin .len, args := #[x], argTypes := #[ty] }) (hx : aev t x = v) (hu : P.underlying ty = some (.slice e)) : Step P C o t H1 .pure (.int .i64 xs.length) H1 := by
 obtain ⟨p, _, _, ⟨_, rfl, rfl⟩ | ⟨b, o, cs, rfl, _⟩⟩ := h.osat hk
 ·exact S.lenNil ho hx hu
 ·exact S.len ho hx hu
theorem Ow.osone (h : Ow V As) (hk : As[k]? = some (.os R v xs)) : One v = true := by
 obtain ⟨p, _, _, ⟨_, rfl, rfl⟩ | ⟨b, o, cs, rfl, _⟩⟩ := h.osat hk <;> rfl
theorem Ow.osne (h : Ow V As) (hk : As[k]? = some (.os R v xs)) : v ≠ topV := by
 obtain ⟨p, _, _, ⟨_, rfl, rfl⟩ | ⟨b, o, cs, rfl, _⟩⟩ := h.osat hk <;> simp [topV]
theorem Ow.oscells (h : Ow V As) (hk : As[k]? = some (.os R v xs)) : v.cells = #[v] := by
 obtain ⟨p, _, _, ⟨_, rfl, rfl⟩ | ⟨b, o, cs, rfl, _⟩⟩ := h.osat hk <;> rfl
theorem Ow.osget (h : Ow V As) (hk : As[k]? = some (.os R v xs)) {i : Nat} {x : α} (hx : xs[i]? = some x) :
  ∃ b o r, v = .slice (some ⟨b, o, none⟩) xs.length R.sz ∧ b < V.H.next ∧ R.rel V r x ∧ ∀ (j : Nat) (u : Value), r[j]? = some u → V.H.cell b (o + i * R.sz + j) = some u := by
 obtain ⟨p, h1, _, ⟨_, rfl, rfl⟩ | ⟨b, o, cs, rfl, rfl, h4, h5⟩⟩ := h.osat hk
 ·simp at hx
 ·obtain ⟨h6, h7, h8, h9⟩ := h1.own (b, .cells R.sz cs) (by simp)
  obtain ⟨r, h10, h11⟩ := h5.at R.ty hx
  refine ⟨b, o, r, rfl, h7, h10, fun j u hj => S.cellB h9 ?_⟩
  have := h11 j u hj
  rw [List.getElem?_drop] at this
  rw [← this, Nat.add_assoc]
theorem Ow.osfz (h : Ow V As) (hk : As[k]? = some (.os R v xs)) : ∃ V', V'.H = V.H ∧ V.le V' ∧ Fz R V' v xs ∧ Ow V' (As.eraseIdx k) := by
 obtain ⟨p, h1, hm, h2⟩ := h.osat hk
 rcases h2 with ⟨_, rfl, rfl⟩ | ⟨b, o, cs, rfl, rfl, h4, h5⟩
 ·exact ⟨V, rfl, .refl V, .nil, h.drop k hk⟩
 ·obtain ⟨h6, h7, h8, h9⟩ := h1.own (b, .cells R.sz cs) (by simp)
  have hl : ∀ c, some b = some c → c < V.H.next := fun c e => by cases e; exact h7
  refine ⟨V.fz (some b) hl, rfl, V.fz_le _ hl, ⟨?_, fun b' o' n c e => by cases e; exact .inl rfl⟩, h.fz1 hk (b := b) (x := .cells R.sz cs) (fun p hp hs => ?_) hl⟩
  ·refine .inr ⟨b, o, R.sz, rfl, ⟨.inr rfl, hm⟩, fun i x hx => ?_⟩
   obtain ⟨r, h10, h11⟩ := (h5.up R.ty (V.fz_le (some b) hl)).at R.ty hx
   refine ⟨r, R.ty.len _ _ _ h10, h10, fun j u hj => S.cellB h9 ?_⟩
   have := h11 j u hj
   rw [List.getElem?_drop] at this
   rw [← this, Nat.add_assoc]
  ·obtain ⟨_, ⟨_, h, _⟩ | ⟨b', o', cs', h, rfl, _⟩⟩ := hs
   ·cases h
   ·cases h
    have := (hp.own (b, .cells R.sz cs') (by simp)).2.2.2
    rw [h9] at this
    cases this
    rfl
end
end Go.Vm
