/-
  Part of an evaluator for the model, proved sound: no condition.
-/
import Derived.Test.YtlcjnalocidldaaDoorESp3
set_option linter.unusedSimpArgs false
set_option linter.unusedVariables false
namespace Go.Vm
open Go
structure RO (α : Type) where
 ref : Value → α → At
 one : ∀ V p v x, (ref v x).sat V p → One v = true ∧ v ≠ topV ∧ v.cells = #[v]
 det : ∀ V p q v x y, (ref v x).sat V p → (ref v y).sat V q → StP V p → StP V q → p = q
theorem one_det {V : Vw} {b : Nat} {x y : AObj} (h : StP V [(b, x)]) (h' : StP V [(b, y)]) : [(b, x)] = [(b, y)] := by
 have h1 := (h.own (b, x) (by simp)).2.2.2
 have h2 := (h'.own (b, y) (by simp)).2.2.2
 simp only at h1 h2
 rw [h1] at h2
 cases h2
 rfl
def RO.os {α : Type} (R : RT α) : RO (List α) := ⟨fun v x => .os R v x, fun V p v x h => by
 obtain ⟨_, ⟨_, rfl, _⟩ | ⟨b, o, cs, rfl, _⟩⟩ := h <;> exact ⟨rfl, by simp [topV], rfl⟩, fun V p q v x y h h' hp hq => by
 obtain ⟨_, ⟨rfl, hv, _⟩ | ⟨b, o, cs, hv, rfl, _⟩⟩ := h <;> obtain ⟨_, ⟨rfl, hv', _⟩ | ⟨b', o', cs', hv', rfl, _⟩⟩ := h' <;> rw [hv] at hv'
 ·cases hv'
 ·cases hv'
 ·injection hv' with e1 _ _
  injection e1 with e1
  injection e1 with e1 _ _
  subst e1
  exact one_det hp hq⟩
def RO.om {β : Type} (R : RT β) (agg : Bool) : RO (List (Int × β)) := ⟨fun v x => .om R agg v x, fun V p v x h => by
 obtain ⟨b, l, rfl, _⟩ := h; exact ⟨rfl, by simp [topV], rfl⟩, fun V p q v x y h h' hp hq => by
 obtain ⟨b, l, hv, rfl, _⟩ := h
 obtain ⟨b', l', hv', rfl, _⟩ := h'
 rw [hv] at hv'
 cases hv'
 exact one_det hp hq⟩
inductive AllO {α : Type} (RI : RO α) (V : Vw) : PH → List Value → List α → Prop
 | nil : AllO RI V [] [] []
 | cons (p q : PH) (v : Value) (x : α) (vs : List Value) (xs : List α) (h : (RI.ref v x).sat V p) (h' : AllO RI V q vs xs) : AllO RI V (p ++ q) (v :: vs) (x :: xs)
section
variable {α : Type} {RI : RO α} {V V' : Vw} {p : PH} {vs us : List Value} {xs ys : List α}
theorem AllO.up (h : AllO RI V p vs xs) (hle : V.le V') : AllO RI V' p vs xs := by
 induction h with
 | nil => exact .nil
 | cons p q v x vs xs h _ ih => exact .cons p q v x vs xs ((RI.ref v x).up _ _ _ hle h) ih
theorem AllO.len (h : AllO RI V p vs xs) : vs.length = xs.length := by
 induction h with
 | nil => rfl
 | cons p q v x vs xs h _ ih => simp [ih]
theorem AllO.one (h : AllO RI V p vs xs) : ∀ v ∈ vs, One v = true := by
 induction h with
 | nil => exact fun v h => nomatch h
 | cons p q v x vs xs h _ ih =>
  intro u hu
  cases hu with
  | head => exact (RI.one _ _ _ _ h).1
  | tail _ hu => exact ih u hu
theorem AllO.ok (h : AllO RI V p vs xs) : ∀ v ∈ vs, One v = true ∧ v ≠ topV ∧ v.cells = #[v] := by
 induction h with
 | nil => exact fun v h => nomatch h
 | cons p q v x vs xs h _ ih =>
  intro u hu
  cases hu with
  | head => exact RI.one _ _ _ _ h
  | tail _ hu => exact ih u hu
theorem AllO.append {q : PH} (h : AllO RI V p vs xs) (h' : AllO RI V q us ys) : AllO RI V (p ++ q) (vs ++ us) (xs ++ ys) := by
 induction h with
 | nil => exact h'
 | cons p1 q1 v x vs xs h _ ih => rw [List.append_assoc]; exact .cons _ _ _ _ _ _ h ih
theorem AllO.pick (h : AllO RI V p vs xs) : ∀ {i : Nat} {v : Value} {x : α}, vs[i]? = some v → xs[i]? = some x → ∃ p1 q, p.Perm (p1 ++ q) ∧ (RI.ref v x).sat V p1 ∧ AllO RI V q (vs.eraseIdx i) (xs.eraseIdx i) := by
 induction h with
 | nil => intro i v x hv; simp at hv
 | cons p q w y vs xs h h' ih =>
  intro i v x hv hx
  cases i with
  | zero => simp at hv hx; subst hv hx; exact ⟨p, q, .refl _, h, h'⟩
  | succ i =>
   obtain ⟨p1, q1, h1, h2, h3⟩ := ih (by simpa using hv) (by simpa using hx)
   refine ⟨p1, p ++ q1, ?_, h2, .cons _ _ _ _ _ _ h h3⟩
   exact (h1.append_left p).trans (List.perm_append_comm_assoc _ _ _)
theorem AllO.put : ∀ {i : Nat} {v : Value} {x : α} {vs : List Value} {xs : List α} {p1 q : PH}, vs[i]? = some v → i < xs.length → vs.length = xs.length → (RI.ref v x).sat V p1 → AllO RI V q (vs.eraseIdx i) (xs.eraseIdx i) → ∃ p, p.Perm (p1 ++ q) ∧ AllO RI V p vs (xs.set i x)
 | 0, v, x, w :: vs, y :: xs, p1, q, hv, hi, hl, h1, h2 => by
  simp at hv
  subst hv
  exact ⟨p1 ++ q, .refl _, .cons _ _ _ _ _ _ h1 h2⟩
 | i + 1, v, x, w :: vs, y :: xs, p1, q, hv, hi, hl, h1, h2 => by
  simp only [List.eraseIdx_cons_succ] at h2
  cases h2 with
  | cons p2 q2 _ _ _ _ h3 h4 =>
   obtain ⟨p3, h5, h6⟩ := AllO.put (i := i) (v := v) (x := x) (vs := vs) (xs := xs) (by simpa using hv) (by simpa using hi) (by simpa using hl) h1 h4
   exact ⟨p2 ++ p3, (h5.append_left p2).trans (List.perm_append_comm_assoc _ _ _), .cons _ _ _ _ _ _ h3 h6⟩
 | i, v, x, [], xs, p1, q, hv, _, _, _, _ => by simp at hv
 | i, v, x, w :: vs, [], p1, q, hv, hi, _, _, _ => by simp at hi
end
def At.oss {α : Type} (RI : RO α) (v : Value) (hs : List Value) (xs : List α) : At where
 sat V p := xs.length ≤ 9223372036854775807 ∧ ((p = [] ∧ v = .slice none 0 0 ∧ hs = [] ∧ xs = []) ∨ ∃ b o pre q, v = .slice (some ⟨b, o, none⟩) xs.length 1 ∧ p = (b, .cells 1 (pre ++ hs)) :: q ∧ pre.length = o ∧ AllO RI V q hs xs)
 up V V' p hle h := ⟨h.1, h.2.imp id (fun ⟨b, o, pre, q, h1, h2, h3, h4⟩ => ⟨b, o, pre, q, h1, h2, h3, h4.up hle⟩)⟩
def At.ossh {α : Type} (RI : RO α) (v : Value) (hs : List Value) (xs : List α) (i : Nat) : At where
 sat V p := xs.length ≤ 9223372036854775807 ∧ i < xs.length ∧ hs.length = xs.length ∧ ∃ b o pre q, v = .slice (some ⟨b, o, none⟩) xs.length 1 ∧ p = (b, .cells 1 (pre ++ hs)) :: q ∧ pre.length = o ∧ AllO RI V q (hs.eraseIdx i) (xs.eraseIdx i)
 up V V' p hle h := ⟨h.1, h.2.1, h.2.2.1, h.2.2.2.elim fun b ⟨o, pre, q, h1, h2, h3, h4⟩ => ⟨b, o, pre, q, h1, h2, h3, h4.up hle⟩⟩
section
variable {α : Type} {RI : RO α} {V V' : Vw} {v : Value} {hs : List Value} {xs : List α} {As : List At} {k : Nat}
theorem Ow.same {Bs Cs : List At} (ow : Ow V (Bs ++ As)) (h : ∀ p, StP V p → Sat V p Bs → ∃ q, p.Perm q ∧ Sat V q Cs) : Ow V (Cs ++ As) := by
 obtain ⟨p, h1, h2, h3⟩ := ow.chg
 obtain ⟨q, h4, h5⟩ := h p h1 h2
 exact h3 V Cs q (.refl V) (fun c _ _ _ hf => ⟨rfl, hf⟩) (h1.perm h4) h5 (fun b hb => .inl ((h4.map _).mem_iff.2 hb))
theorem Ow.ssat (ow : Ow V As) (hk : As[k]? = some (.oss RI v hs xs)) : ∃ p, StP V p ∧ (At.oss RI v hs xs).sat V p := by
 obtain ⟨p, h1, h2, _⟩ := Ow.chg (Bs := [.oss RI v hs xs]) (ow.pick k hk)
 obtain ⟨p1, p2, rfl, h3, h4⟩ := h2.split
 exact ⟨p1, h1.left, h3⟩
theorem Ow.shsat {i : Nat} (ow : Ow V As) (hk : As[k]? = some (.ossh RI v hs xs i)) : ∃ p, StP V p ∧ (At.ossh RI v hs xs i).sat V p := by
 obtain ⟨p, h1, h2, _⟩ := Ow.chg (Bs := [.ossh RI v hs xs i]) (ow.pick k hk)
 obtain ⟨p1, p2, rfl, h3, h4⟩ := h2.split
 exact ⟨p1, h1.left, h3⟩
theorem Ow.ssone (ow : Ow V As) (hk : As[k]? = some (.oss RI v hs xs)) : One v = true := by
 obtain ⟨p, _, _, ⟨_, rfl, _⟩ | ⟨b, o, pre, q, rfl, _⟩⟩ := ow.ssat hk <;> rfl
theorem Ow.ssne (ow : Ow V As) (hk : As[k]? = some (.oss RI v hs xs)) : v ≠ topV := by
 obtain ⟨p, _, _, ⟨_, rfl, _⟩ | ⟨b, o, pre, q, rfl, _⟩⟩ := ow.ssat hk <;> simp [topV]
theorem Ow.sscells (ow : Ow V As) (hk : As[k]? = some (.oss RI v hs xs)) : v.cells = #[v] := by
 obtain ⟨p, _, _, ⟨_, rfl, _⟩ | ⟨b, o, pre, q, rfl, _⟩⟩ := ow.ssat hk <;> rfl
theorem Ow.sslen {P : Program} {C : CallRel} {o : Oper} {t : T} {H1 : AH} {x : Operand} {ty e : TypeId} (ow : Ow V As) (hk : As[k]? = some (.oss RI v hs xs))
  (ho : o.op = .call { callee := .builtin .len, args := #[x], argTypes := #[ty] }) (hx : aev t x = v) (hu : P.underlying ty = some (.slice e)) : Step P C o t H1 .pure (.int .i64 xs.length) H1 := by
 obtain ⟨p, _, _, ⟨_, rfl, _, rfl⟩ | ⟨b, o, pre, q, rfl, _⟩⟩ := ow.ssat hk
 ·exact S.lenNil ho hx hu
 ·exact S.len ho hx hu
theorem Ow.ssnil (ow : Ow V As) (RI : RO α) : Ow V (.oss RI (.slice none 0 0) [] [] :: As) := by
 obtain ⟨p, h1, h2⟩ := ow
 exact ⟨p, h1, .cons [] p _ _ ⟨Nat.zero_le _, .inl ⟨rfl, rfl, rfl, rfl⟩⟩ h2⟩
theorem Ow.ssopen {idx : Int} {x : α} (ow : Ow V As) (hk : As[k]? = some (.oss RI v hs xs)) (hx : ix xs idx = some x) :
  ∃ h, hs[idx.toNat]? = some h ∧ Ow V (RI.ref h x :: As.set k (.ossh RI v hs xs idx.toNat)) := by
 have hxg := ix_get hx
 obtain ⟨p0, hp0, hmax, h0⟩ := ow.ssat hk
 rcases h0 with ⟨_, _, _, rfl⟩ | ⟨b, o, pre, q, hv, hp, hpre, hall⟩
 ·simp at hxg
 ·have hl := hall.len
  have hlt := (List.getElem?_eq_some_iff.1 hxg).1
  obtain ⟨h, hh⟩ : ∃ h, hs[idx.toNat]? = some h := ⟨_, List.getElem?_eq_getElem (by omega)⟩
  refine ⟨h, hh, ?_⟩
  have key := Ow.same (Bs := [.oss RI v hs xs]) (Cs := [RI.ref h x, .ossh RI v hs xs idx.toNat]) (As := As.eraseIdx k) (ow.pick k hk) (fun p hp' hs' => ?_)
  ·refine Ow.perm key ((List.Perm.cons _ ?_))
   have := pick_perm (l := As.set k (.ossh RI v hs xs idx.toNat)) (k := k) (a := .ossh RI v hs xs idx.toNat) (by simp [(List.getElem?_eq_some_iff.1 hk).1])
   rwa [eraseIdx_set] at this
  ·obtain ⟨p1, p2, rfl, ⟨hm, h1⟩, h4⟩ := hs'.split
   cases h4
   rcases h1 with ⟨_, _, _, rfl⟩ | ⟨b, o, pre, q, hv, rfl, hpre, hall⟩
   ·simp at hxg
   ·obtain ⟨p3, q3, h5, h6, h7⟩ := hall.pick hh hxg
    refine ⟨p3 ++ (((b, .cells 1 (pre ++ hs)) :: q3) ++ []), ?_, .cons _ _ _ _ h6 (.cons _ _ _ _ ⟨hm, hlt, hl, b, o, pre, q3, hv, rfl, hpre, h7⟩ .nil)⟩
    rw [List.append_nil, List.append_nil]
    exact (h5.cons _).trans List.perm_middle.symm
theorem Ow.ssclose {i j : Nat} {h : Value} {y : α} (ow : Ow V As) (hk : As[k]? = some (.ossh RI v hs xs i)) (hj : As[j]? = some (RI.ref h y)) (hne : j ≠ k) (hh : hs[i]? = some h) : Ow V ((As.set k (.oss RI v hs (xs.set i y))).eraseIdx j) := by
 have hkl := (List.getElem?_eq_some_iff.1 hk).1
 have h1 := ow.pick k hk
 obtain ⟨j', hj'⟩ := pick2 hk hj (Ne.symm hne)
 have h2 := h1.pick (j' + 1) (A := RI.ref h y) (by simpa using hj')
 simp only [List.eraseIdx_cons_succ] at h2
 have key := Ow.same (Bs := [RI.ref h y, .ossh RI v hs xs i]) (Cs := [.oss RI v hs (xs.set i y)]) (As := (As.eraseIdx k).eraseIdx j') h2 (fun p hp' hs' => ?_)
 ·refine Ow.perm key ?_
  have e1 : ((As.set k (.oss RI v hs (xs.set i y)))[j]?) = some (RI.ref h y) := by rw [List.getElem?_set_ne (Ne.symm hne)]; exact hj
  have p1 := pick_perm e1
  have p2 : (At.oss RI v hs (xs.set i y) :: As.eraseIdx k).Perm (As.set k (.oss RI v hs (xs.set i y))) := by
   have := pick_perm (l := As.set k (.oss RI v hs (xs.set i y))) (k := k) (a := .oss RI v hs (xs.set i y)) (by simp [hkl])
   rwa [eraseIdx_set] at this
  have p3 := pick_perm hj'
  have p4 : (RI.ref h y :: (At.oss RI v hs (xs.set i y) :: (As.eraseIdx k).eraseIdx j')).Perm (RI.ref h y :: (As.set k (.oss RI v hs (xs.set i y))).eraseIdx j) := ((List.Perm.swap _ _ _).trans ((p3.cons _).trans p2)).trans p1.symm
  exact p4.cons_inv
 ·obtain ⟨q1, q2, rfl, h3, h4⟩ := hs'.split
  obtain ⟨q3, q4, rfl, ⟨hm, hlt, hl, b, o, pre, q, hv, rfl, hpre, hall⟩, h6⟩ := h4.split
  cases h6
  obtain ⟨p, h7, h8⟩ := AllO.put (x := y) hh hlt hl h3 hall
  refine ⟨((b, .cells 1 (pre ++ hs)) :: p) ++ [], ?_, .cons _ _ _ _ ⟨by simpa using hm, .inr ⟨b, o, pre, p, by simpa using hv, rfl, hpre, h8⟩⟩ .nil⟩
  rw [List.append_nil, List.append_nil]
  exact List.perm_middle.trans (h7.symm.cons _)
theorem Ow.sspt {idx : Int} {x : α} (ow : Ow V As) (hk : As[k]? = some (.oss RI v hs xs)) (hx : ix xs idx = some x) : ∃ b o n c, v = .slice (some ⟨b, o, none⟩) n c := by
 obtain ⟨p, _, _, ⟨_, _, _, rfl⟩ | ⟨b, o, pre, q, rfl, _⟩⟩ := ow.ssat hk
 ·have := ix_get hx; simp at this
 ·exact ⟨b, o, _, _, rfl⟩
theorem Ow.sslen' {b o n c : Nat} (ow : Ow V As) (hk : As[k]? = some (.oss RI v hs xs)) (hv : v = .slice (some ⟨b, o, none⟩) n c) : v = .slice (some ⟨b, o, none⟩) xs.length 1 := by
 obtain ⟨p, _, _, ⟨_, h, _⟩ | ⟨b', o', pre, q, h, _⟩⟩ := ow.ssat hk
 ·rw [hv] at h; cases h
 ·rw [hv] at h; cases h; exact hv
theorem Ow.shlen' {i b o n c : Nat} (ow : Ow V As) (hk : As[k]? = some (.ossh RI v hs xs i)) (hv : v = .slice (some ⟨b, o, none⟩) n c) : v = .slice (some ⟨b, o, none⟩) xs.length 1 := by
 obtain ⟨p, _, _, _, _, b', o', pre, q, h, _⟩ := ow.shsat hk
 rw [hv] at h; cases h; exact hv
theorem Ow.shcell {i j b o n c : Nat} {h : Value} (ow : Ow V As) (hk : As[k]? = some (.ossh RI v hs xs j)) (hv : v = .slice (some ⟨b, o, none⟩) n c) (hh : hs[i]? = some h) : b < V.H.next ∧ V.H.cell b (o + i * 1) = some h := by
 obtain ⟨p, hp, _, _, _, b', o', pre, q, hv2, rfl, hpre, _⟩ := ow.shsat hk
 rw [hv] at hv2
 cases hv2
 obtain ⟨h5, h6, h7, h8⟩ := hp.own (b, .cells 1 (pre ++ hs)) (by simp)
 refine ⟨h6, S.cellB h8 ?_⟩
 subst hpre
 rw [List.getElem?_append_right (by omega), Nat.mul_one, Nat.add_sub_cancel_left]
 exact hh
end
section
variable {P : Program} {G N : Nat} {dr : Bool} {ops : Array Oper} {i : Nat} {hist : Hist} {l : List (Nat × Value)} {V : Vw} {Q : LQ} {o : Oper} {d : Tmp} {As : List At} {k : Nat} {α : Type} {RI : RO α} {v : Value} {hs : List Value} {xs : List α}
theorem O.storeH {ty : TypeId} {p q : Operand} {b o' n0 c0 : Nat} {idx : Nat} {u z : Value} {m : Nat} (ow : Ow V As) (hk0 : As[k]? = some (.ossh RI v hs xs idx)) (hv : v = .slice (some ⟨b, o', none⟩) n0 c0) (ho : ops[i]? = some o) (hd : o.dst = none) (hg : GOk ops l o) (hop : o.op = .store ty p q)
  (hp : aev (fr l) p = .pointer (some ⟨b, o' + idx * 1, none⟩)) (hq : aev (fr l) q = u) (hi : tinfo P ty z 1 m) (hu : u ≠ topV) (hcs : u.cells.toList = [u]) (h1 : One u = true) (hk : ∀ H1 : AH, (∀ c, c ≠ b → H1.get c = V.H.get c) → okU dr ops i .eff V.H H1 hist)
  (h : ∀ V1, V.le V1 → Ow V1 (As.set k (.ossh RI v (hs.set idx u) xs idx)) → WU dr P G ops (i + 1) (hadd dr (i, .eff, V.H, V1.H) hist) l V1.H Q) : WU dr P G ops i hist l V.H Q := by
 obtain ⟨p0, hp0, hs0, hr0⟩ := Ow.chg (Bs := [.ossh RI v hs xs idx]) (ow.pick k hk0)
 obtain ⟨p1, p2, rfl, ⟨hm, hlt, hl, b', o2, pre, qq, hv2, rfl, hpre, hall⟩, h4⟩ := hs0.split
 cases h4
 rw [hv] at hv2
 cases hv2
 have how : Own (fun _ => True) V b (.cells 1 (pre ++ hs)) := by
  obtain ⟨h5, h6, h7, h8⟩ := hp0.own (b, .cells 1 (pre ++ hs)) (by simp)
  exact ⟨trivial, h5, h6, h7, h8⟩
 have hsp : splice (pre ++ hs) (o' + idx * 1) [u] = pre ++ hs.set idx u := by
  subst hpre
  unfold splice
  rw [Nat.mul_one, List.length_singleton, List.take_length_add_append, Nat.add_assoc, List.drop_length_add_append, List.append_assoc, List.append_assoc]
  congr 1
  rw [List.set_eq_take_append_cons_drop, if_pos (by omega)]
  simp
 refine U.store ho hd hg hop hp hq hi how hu hcs rfl (by rw [List.length_append]; omega) (by simp [h1]) hsp (hk _ (fun c hc => by simp [AH.upd, hc])) (fun V1 s => h V1 (s.le how) ?_)
 have hle := s.le how
 obtain ⟨rfl⟩ := s
 have hnd := hp0.nd
 simp only [List.append_nil, List.map_cons, List.nodup_cons] at hnd
 refine Ow.put hk0 (hr0 _ [.ossh RI v (hs.set idx u) xs idx] (((b, .cells 1 (pre ++ hs.set idx u)) :: qq) ++ []) hle (fun c _ _ hc hf => ?_) ?_ (.cons _ _ _ _ ⟨hm, hlt, by simpa using hl, b, o', pre, qq, hv, rfl, hpre, by rw [eraseIdx_set]; exact hall.up hle⟩ .nil) (fun c hc => .inl (by simpa using hc)))
 ·have hcb : c ≠ b := fun e => hc (by subst e; simp)
  exact ⟨by simp [Vw.set, AH.upd, hcb], hf⟩
 ·refine ⟨by simpa using hnd, fun x hx => ?_⟩
  rw [List.append_nil] at hx
  cases hx with
  | head => exact ⟨how.lo, how.lt, how.nf, by simp [Vw.set, AH.upd]⟩
  | tail _ hx =>
   obtain ⟨h5, h6, h7, h8⟩ := hp0.own x (List.mem_append_left _ (List.mem_cons_of_mem _ hx))
   have hxb : x.1 ≠ b := fun e => hnd.1 (by rw [← e]; exact List.mem_map_of_mem hx)
   exact ⟨h5, h6, h7, by simp [Vw.set, AH.upd, hxb, h8]⟩
theorem StP.push {V V' : Vw} {p : PH} {b : Nat} {x : AObj} (h : StP V p) (n : Nw V b V' x) : StP V' ((b, x) :: p) := by
 obtain ⟨rfl, rfl⟩ := n
 refine ⟨?_, fun q hq => ?_⟩
 ·rw [List.map_cons, List.nodup_cons]
  refine ⟨fun hm => ?_, h.nd⟩
  obtain ⟨q, hq, he⟩ := List.mem_map.1 hm
  have h1 := (h.own q hq).2.1
  simp only at he
  omega
 ·cases hq with
  | head => exact ⟨V.lon, Nat.lt_succ_self _, fun hf => by have := V.wf _ hf; omega, by simp [Vw.new, AH.new]⟩
  | tail _ hq =>
   obtain ⟨h1, h2, h3, h4⟩ := h.own q hq
   exact ⟨h1, Nat.lt_succ_of_lt h2, h3, by simp [Vw.new, AH.new, Nat.ne_of_lt h2, h4]⟩
theorem Ow.wrapss {V' : Vw} {Bs : List At} {b : Nat} {us : List Value} {ys : List α} (ow : Ow V (Bs ++ As)) (n : Nw V b V' (.cells 1 us)) (hall : ∀ p, Sat V p Bs → AllO RI V p us ys) (hm : ys.length ≤ 9223372036854775807) : Ow V' (.oss RI (.slice (some ⟨b, 0, none⟩) ys.length 1) us ys :: As) := by
 obtain ⟨p, h1, h2, h3⟩ := ow.chg
 have hle := n.le
 refine h3 V' [_] ((((b, .cells 1 us) :: p)) ++ []) hle (fun c _ hlt _ hf => ?_) (by rw [List.append_nil]; exact h1.push n) (.cons _ _ _ _ ⟨hm, .inr ⟨b, 0, [], p, rfl, rfl, rfl, (hall p h2).up hle⟩⟩ .nil) (fun c hc => ?_)
 ·obtain ⟨rfl, rfl⟩ := n
  exact ⟨by simp [Vw.new, AH.new, Nat.ne_of_lt hlt], hf⟩
 ·have hn := n.eq
  simp only [List.append_nil, List.map_cons, List.mem_cons] at hc
  rcases hc with rfl | hc
  ·exact .inr (by omega)
  ·exact .inl hc
theorem O.litS {ty : TypeId} {len : Nat} {parts : Array (Nat × Operand)} {e : TypeId} {z : Value} {m : Nat} {us : List Value} {ys : List α} {Bs : List At} (ow : Ow V (Bs ++ As)) (ho : ops[i]? = some o) (hd : o.dst = some d) (hg : GOk ops l o) (hop : o.op = .buildSlice ty len parts) (hu : P.underlying ty = some (.slice e)) (hi : tinfo P e z 1 m) (hz : constB z = true) (hs : z.cells.size = 1) (hlim : len ≤ 2 ^ 24)
  (hp : parts.toList.map (·.1) = List.range' 0 len) (hv : (parts.toList.map (·.2)).map (aev (fr l)) = us) (hall : ∀ p, Sat V p Bs → AllO RI V p us ys) (hk : ∀ x, okU dr ops i (.alloc V.H.next) V.H (V.H.new x) hist) (h : ∀ v V1, V.le V1 → Ow V1 (.oss RI v us ys :: As) → WU dr P G ops (i + 1) (hadd dr (i, .alloc V.H.next, V.H, V1.H) hist) ((d, v) :: l) V1.H Q) : WU dr P G ops i hist l V.H Q := by
 obtain ⟨p0, _, hs0, _⟩ := ow.chg
 have hok := (hall p0 hs0).ok
 have hlen := (hall p0 hs0).len
 have hl : us.length = len := by
  rw [← hv]
  have := congrArg List.length hp
  simpa using this
 obtain ⟨c0, hc0⟩ : ∃ c0, c0 = (Array.range (len * 1)).map fun j => z.cells[j % z.cells.size]! := ⟨_, rfl⟩
 have hcs : c0.size = len * 1 := by rw [hc0]; simp
 obtain ⟨r, h1, h2, h3⟩ := fill_seq 1 us 0 c0 (fun v hv => by rw [(hok v hv).2.2]; rfl) (by rw [hl, hcs, Nat.zero_add]; exact Nat.le_refl _)
 have hflat : (us.flatMap fun v => v.cells.toList) = us := by
  clear h h1 h3 hv hl hlen hall
  induction us with
  | nil => rfl
  | cons u us ih => rw [List.flatMap_cons, (hok u (by simp)).2.2, ih (fun v hv => hok v (by simp [hv]))]; rfl
 rw [Nat.zero_mul, List.take_zero, List.nil_append, Nat.zero_add, hl, List.drop_of_length_le (by simp [hcs]), List.append_nil, hflat] at h3
 have hparts : (parts.map fun (k, x) => (k, aev (fr l) x)).toList = (List.range' 0 us.length).zip us := by
  rw [hl, ← hp, ← hv, Array.toList_map]
  generalize parts.toList = q
  induction q with
  | nil => rfl
  | cons p q ih => simp only [List.map_cons, List.zip_cons_cons, ih]
 refine U.buildSlice (n := 1) ho hd hg hop hu hi hz hs rfl (by omega) (fun p hp' => ?_) (r := r) (by rw [hparts, ← hc0]; exact h1) (by rw [h2, hcs]) h3 (hk _) (fun b V1 n => ?_)
 ·refine (hok _ ?_).2.1
  rw [← hv, List.map_map]
  exact List.mem_map_of_mem (f := (aev (fr l)) ∘ (·.2)) hp'
 ·have hyl : ys.length = len := by rw [← hlen, hl]
  have := h (.slice (some ⟨b, 0, none⟩) ys.length 1) V1 n.le (Ow.wrapss ow n hall (by omega))
  rw [hyl, n.eq] at this
  rw [n.eq]
  exact this
theorem O.appendS {x y : Operand} {ty ty' e : TypeId} {z : Value} {m : Nat} {vx vy : Value} {hs us : List Value} {xs ys zs : List α} (ow : Ow V (.oss RI vx hs xs :: .oss RI vy us ys :: As)) (ho : ops[i]? = some o) (hd : o.dst = some d) (hg : GOk ops l o) (hop : o.op = .call { callee := .builtin .append, args := #[x, y], argTypes := #[ty, ty'] })
  (hx : aev (fr l) x = vx) (hy : aev (fr l) y = vy) (hu : P.underlying ty = some (.slice e)) (hi : tinfo P e z 1 m) (hz : z.cells.size = 1) (hm : m ≤ 4194304) (hu' : P.underlying ty' = some (.slice e))
  (hap : ap xs ys = some zs) (hn : ys.length ≠ 0) (hk : ∀ V1 : Vw, (∀ c, c < V.H.next → (∀ p, StP V p → (At.oss RI vx hs xs).sat V p → c ∉ p.map (·.1)) → V1.H.get c = V.H.get c) → okU dr ops i .eff V.H V1.H hist)
  (h : ∀ v' V1, V.le V1 → Ow V1 (.oss RI v' (hs ++ us) zs :: As) → WU dr P G ops (i + 1) (hadd dr (i, .eff, V.H, V1.H) hist) ((d, v') :: l) V1.H Q) : WU dr P G ops i hist l V.H Q := by
 obtain ⟨rfl, hlen⟩ := ap_eq hap
 obtain ⟨q, h2, h3, h4, h5⟩ := tinfo_get hi
 obtain ⟨p0, hp0, hs0, hr0⟩ := Ow.chg (Bs := [.oss RI vx hs xs, .oss RI vy us ys]) (As := As) ow
 obtain ⟨p1, p2, rfl, hA, hB0⟩ := hs0.split
 obtain ⟨p3, p4, rfl, hB, hnil⟩ := hB0.split
 cases hnil
 rw [List.append_nil] at hp0 hr0
 have hb : (xs.length + ys.length) * m ≤ 2 ^ 47 := Nat.le_trans (Nat.mul_le_mul hlen hm) (by decide)
 have hb2 : xs.length + ys.length < 2 ^ 60 := Nat.lt_of_le_of_lt hlen (by decide)
 have hmax : (xs ++ ys).length ≤ 9223372036854775807 := by rw [List.length_append]; omega
 rcases hB with ⟨hym, ⟨_, _, _, rfl⟩ | ⟨by', oy, prey, qy, rfl, rfl, hprey, hally⟩⟩
 ·exact absurd rfl hn
 have hgy := (hp0.own (by', .cells 1 (prey ++ us)) (by simp)).2.2.2
 have hly := hally.len
 have hsrc : Src P V.H q.size (.slice (some ⟨by', oy, none⟩) ys.length 1) ty' ys.length us := by
  rw [h4]
  refine .slice ty' e by' oy ys.length 1 us hu' (by omega) (fun j u hj => S.cellB hgy ?_)
  subst hprey
  rw [List.getElem?_append_right (by omega), Nat.add_sub_cancel_left]
  exact hj
 have honey : ∀ v ∈ us, One v = true := fun v hv => (hally.ok v hv).1
 rcases hA with ⟨hxm, ⟨rfl, rfl, rfl, rfl⟩ | ⟨b, o', pre, qx, rfl, rfl, hpre, hallx⟩⟩
 ·have n : Ap V none V.H.next (V.app none (.cells 1 us)) (.cells 1 us) := ⟨rfl, rfl⟩
  have hno : ∀ c, (none : Option Nat) = some c → OwnO (fun _ => True) V c := fun c hc => by cases hc
  have nw : Nw V V.H.next (V.app none (.cells 1 us)) (.cells 1 us) := ⟨rfl, rfl⟩
  have hrec := h (.slice (some ⟨V.H.next, 0, none⟩) ys.length 1) (V.app none (.cells 1 us)) (n.le hno) ?_
  ·refine U.k ho hd hg (.app _ _ (.put x y ty ty' e q z 0 ys.length [] us V.H hop hu h2 h3 (by rw [h4]; exact hz) (by rw [hy]; exact hsrc) (by rw [hx]; exact .nil) hn honey (by rw [h5, Nat.zero_add]; simpa using hb) (by simpa using hb2) (by rw [h4]; decide)))
    (hk (V.app none (.cells 1 us)) (fun c hc _ => n.get hc (by simp)) |> fun h => by simpa [h4, Vw.app] using h) ?_
   simpa [MRes.get, Vw.app, h4] using hrec
  ·refine hr0 _ [.oss RI _ ([] ++ us) ([] ++ ys)] (((V.H.next, .cells 1 us) :: qy) ++ []) (n.le hno) (fun c _ hc hcn hf => ⟨n.get hc (by simp), hf⟩) ?_ (.cons _ _ _ _ ⟨hmax, .inr ⟨V.H.next, 0, [], qy, by simp, rfl, rfl, by simpa using hally.up (n.le hno)⟩⟩ .nil) (fun c hc => ?_)
   ·rw [List.append_nil]
    refine StP.push ?_ nw
    have := hp0.right
    exact StP.right (p := [(by', .cells 1 (prey ++ us))]) this
   ·simp only [List.append_nil, List.map_cons, List.mem_cons] at hc
    rcases hc with rfl | hc
    ·exact .inr (Nat.le_refl _)
    ·exact .inl (by simp [hc])
 ·have hob := hp0.own (b, .cells 1 (pre ++ hs)) (by simp)
  obtain ⟨q1, q2, q3, q4⟩ := hob
  have n : Ap V (some b) V.H.next (V.app (some b) (.cells 1 (hs ++ us))) (.cells 1 (hs ++ us)) := ⟨rfl, rfl⟩
  have hno : ∀ c, some b = some c → OwnO (fun _ => True) V c := fun c hc => by cases hc; exact ⟨trivial, q1, q2, q3⟩
  have hlx := hallx.len
  have hcl : (pre ++ hs).length = o' + xs.length * 1 := by rw [List.length_append]; omega
  have hds := Dst.slice (H := V.H) (size := 1) b o' xs.length (pre ++ hs) q1 q4 hcl
  have hdrop : (pre ++ hs).drop o' = hs := by subst hpre; simp
  rw [hdrop] at hds
  have hrec := h (.slice (some ⟨V.H.next, 0, none⟩) (xs.length + ys.length) 1) (V.app (some b) (.cells 1 (hs ++ us))) (n.le hno) ?_
  ·refine U.k ho hd hg (.app _ _ (.put x y ty ty' e q z xs.length ys.length hs us (V.H.upd b none) hop hu h2 h3 (by rw [h4]; exact hz) (by rw [hy]; exact hsrc) (by rw [hx, h4]; exact hds) hn honey (by rw [h5]; exact hb) hb2 (by rw [h4]; decide)))
    (hk (V.app (some b) (.cells 1 (hs ++ us))) (fun c hc hne => n.get hc (fun e => hne _ hp0.left ⟨hxm, .inr ⟨b, o', pre, qx, rfl, rfl, hpre, hallx⟩⟩ (by cases e; simp))) |> fun h => by simpa [h4, Vw.app] using h) ?_
   simpa [MRes.get, Vw.app, h4, AH.upd] using hrec
  ·have hnd := hp0.nd
   rw [List.map_append] at hnd
   obtain ⟨hnd1, hnd2, hnd3⟩ := List.nodup_append.1 hnd
   rw [List.map_cons, List.nodup_cons] at hnd1 hnd2
   have hold : ∀ x ∈ qx ++ qy, x.1 ≠ b ∧ x ∈ ((b, AObj.cells 1 (pre ++ hs)) :: qx ++ (by', AObj.cells 1 (prey ++ us)) :: qy) := fun x hx => by
    rcases List.mem_append.1 hx with hx | hx
    ·exact ⟨fun e => hnd1.1 (show b ∈ qx.map (·.1) from e ▸ List.mem_map_of_mem (f := fun x : Nat × AObj => x.1) hx), List.mem_append_left _ (List.mem_cons_of_mem _ hx)⟩
    ·exact ⟨fun e => hnd3 b (by simp) x.1 (by simp only [List.map_cons, List.mem_cons]; exact .inr (List.mem_map_of_mem hx)) e.symm, List.mem_append_right _ (List.mem_cons_of_mem _ hx)⟩
   refine hr0 _ [.oss RI _ (hs ++ us) (xs ++ ys)] (((V.H.next, .cells 1 (hs ++ us)) :: (qx ++ qy)) ++ []) (n.le hno) (fun c _ hc hcn hf => ⟨n.get hc (fun e => hcn (by cases e; simp)), hf⟩) ?_ (.cons _ _ _ _ ⟨hmax, .inr ⟨V.H.next, 0, [], qx ++ qy, by simp, rfl, rfl, (hallx.append hally).up (n.le hno)⟩⟩ .nil) (fun c hc => ?_)
   ·rw [List.append_nil]
    refine ⟨?_, fun x hx => ?_⟩
    ·rw [List.map_cons, List.nodup_cons, List.map_append]
     refine ⟨fun hm => ?_, List.nodup_append.2 ⟨hnd1.2, hnd2.2, fun a ha c hc => hnd3 a (by simp only [List.map_cons, List.mem_cons]; exact .inr ha) c (by simp only [List.map_cons, List.mem_cons]; exact .inr hc)⟩⟩
     rw [← List.map_append] at hm
     obtain ⟨x, hx, he⟩ := List.mem_map.1 hm
     have := (hp0.own x (hold x hx).2).2.1
     simp only at he
     omega
    ·cases hx with
     | head => exact ⟨V.lon, by simp [Vw.app, AH.new, AH.upd], fun hf => by have := V.wf _ hf; omega, by simp [Vw.app, AH.new, AH.upd]⟩
     | tail _ hx =>
      obtain ⟨g1, g2, g3, g4⟩ := hp0.own x (hold x hx).2
      exact ⟨g1, Nat.lt_trans g2 (by simp [Vw.app, AH.new, AH.upd]), g3, (n.get g2 (fun e => (hold x hx).1 (by cases e; rfl))).trans g4⟩
   ·simp only [List.append_nil, List.map_cons, List.mem_cons] at hc
    rcases hc with rfl | hc
    ·exact .inr (Nat.le_refl _)
    ·left
     obtain ⟨x, hx, rfl⟩ := List.mem_map.1 hc
     exact List.mem_map_of_mem (hold x hx).2
end
section
variable {α : Type} {RI : RO α} {V : Vw} {v : Value} {hs : List Value} {xs : List α} {As : List At} {k : Nat}
theorem set_same {xs : List α} {i : Nat} {x : α} (h : xs[i]? = some x) : xs.set i x = xs := by
 apply List.ext_getElem?
 intro j
 rw [List.getElem?_set]
 split
 ·rename_i e; subst e; split
  ·exact h.symm
  ·rename_i hlt; exact absurd (List.getElem?_eq_some_iff.1 h).1 hlt
 ·rfl
theorem Ow.ssclose' {idx : Int} {j : Nat} {h : Value} {x : α} (ow : Ow V As) (hk : As[k]? = some (.ossh RI v hs xs idx.toNat)) (hj : As[j]? = some (RI.ref h x)) (hne : j ≠ k) (hh : hs[idx.toNat]? = some h) (hx : ix xs idx = some x) : Ow V ((As.set k (.oss RI v hs xs)).eraseIdx j) := by
 have := ow.ssclose hk hj hne hh
 rwa [set_same (ix_get hx)] at this
theorem Ow.shset {i : Nat} {u : Value} (ow : Ow V As) (hk : As[k]? = some (.ossh RI v (hs.set i u) xs i)) : (hs.set i u)[i]? = some u := by
 obtain ⟨p, _, _, hlt, hl, _⟩ := ow.shsat hk
 rw [List.getElem?_set_self (by simpa using (by rw [hl]; exact hlt : i < (hs.set i u).length))]
end
section
variable {α : Type} {RI : RO α} {V : Vw} {v : Value} {hs : List Value} {xs ys : List α} {As : List At} {k : Nat}
end
end Go.Vm
namespace Go.Vm
open Go
section
variable {α : Type} {RI : RO α} {V : Vw} {p : PH} {v0 v1 v2 v3 v4 : Value} {x0 x1 x2 x3 x4 : α}
theorem all1 (h : Sat V p [RI.ref v0 x0]) : AllO RI V p [v0] [x0] := by
 obtain ⟨p1, p2, rfl, h1, h2⟩ := h.split
 cases h2
 exact .cons _ _ _ _ _ _ h1 .nil
theorem all2 (h : Sat V p [RI.ref v0 x0, RI.ref v1 x1]) : AllO RI V p [v0, v1] [x0, x1] := by
 obtain ⟨p1, p2, rfl, h1, h2⟩ := h.split
 exact .cons _ _ _ _ _ _ h1 (all1 h2)
end
section
variable {P : Program} {G N : Nat} {dr : Bool} {ops : Array Oper} {i : Nat} {hist : Hist} {l : List (Nat × Value)} {V : Vw} {Q : LQ} {o : Oper} {d : Tmp} {As : List At} {k : Nat}
theorem O.subO {α : Type} {R : RT α} {v : Value} {xs zs : List α} {el : Int} {ty e : TypeId} {x : Operand} {xl xh xm : Option Operand} {z : Value} {m : Nat} (ow : Ow V As) (hk : As[k]? = some (.os R v xs)) (hc : cutL xs el xs.length = some zs) (ho : ops[i]? = some o) (hd : o.dst = some d) (hg : GOk ops l o)
  (hop : o.op = .slice ty x xl xh xm) (hx : aev (fr l) x = v) (hu : P.underlying ty = some (.slice e)) (hi : tinfo P e z R.sz m) (hb : Bnd (fr l) xl xh xm el xs.length xs.length) (h : ∀ v', Ow V (As.set k (.os R v' zs)) → WU dr P G ops (i + 1) hist ((d, v') :: l) V.H Q) : WU dr P G ops i hist l V.H Q := by
 obtain ⟨v', h1, h2⟩ := ow.sub (C := Cl P G) (H := V.H) hk rfl hc hop hx hu hi hb
 exact U.p ho hd hg h1 (h v' h2)
theorem O.lookup1 {β : Type} {R : RT β} {agg : Bool} {v : Value} {m : List (Int × β)} {ty kt e : TypeId} {x y : Operand} {q : Int} {z : Value} {n mm : Nat} (z0 : β) (ow : Ow V As) (hk : As[k]? = some (.om R agg v m)) (ho : ops[i]? = some o) (hd : o.dst = some d) (hg : GOk ops l o) (hop : o.op = .lookup ty x y false) (hx : aev (fr l) x = v) (hy : aev (fr l) y = .int .i64 q) (hu : P.underlying ty = some (.map kt e)) (hkt : P.underlying kt = some (.int .i64)) (hi : tinfo P e z n mm) (hz : constB z = true) (hz0 : R.vrel agg V z z0)
  (hkk : ∀ b, b < V.H.next ∧ v = .map (some b) → okU dr ops i (.read b) V.H V.H hist) (h : ∀ b u, b < V.H.next ∧ v = .map (some b) → R.vrel agg V u ((mG m q).getD z0) → WU dr P G ops (i + 1) (hadd dr (i, .read b, V.H, V.H) hist) ((d, u) :: l) V.H Q) : WU dr P G ops i hist l V.H Q := by
 obtain ⟨b, u, h1, h2, h3⟩ := ow.omget1 (C := Cl P G) hk hop hx hy hu hkt hi hz hz0
 exact U.k ho hd hg h3 (hkk b h1) (h b u h1 h2)
theorem O.indexV {α : Type} {R : RT α} {V0 : Vw} {xs : List α} {ty el : TypeId} {x y : Operand} {cs : List Value} {kk : IntKind} {idx : Int} {n : Nat} {dd : TypeDesc} {z : Value} {m : Nat} {w : α} (hr : Rows R.rel V0 cs xs) (h1 : R.sz = 1) (ho : ops[i]? = some o) (hd : o.dst = some d) (hg : GOk ops l o) (hop : o.op = .index ty x y) (hx : aev (fr l) x = .agg cs.toArray) (hy : aev (fr l) y = .int kk idx)
  (hu : P.underlying ty = some (.array n el)) (hn : xs.length = n) (hdd : P.underlying el = some dd) (ha : isAggD dd = false) (hi : tinfo P el z 1 m) (hw : ix xs idx = some w) (h : ∀ u, R.rel V0 [u] w → WU dr P G ops (i + 1) hist ((d, u) :: l) V.H Q) : WU dr P G ops i hist l V.H Q := by
 obtain ⟨u, h2, h3⟩ := S.indexV (C := Cl P G) (H := V.H) hr h1 hop hx hy hu hn hdd ha hi hw
 exact U.p ho hd hg h3 (h u h2)
end
section
variable {V V1 : Vw} {As Bs : List At} {k j : Nat} {A A' : At} {q : PH}
end
end Go.Vm
namespace Go.Vm
open Go
def Al {α : Type} (hs : List Value) (ys : List (List α)) (sz : Nat) (v : Value) (zs : List α) : Prop :=
 (v = .slice none 0 0 ∧ zs = []) ∨ ∃ (i : Int) (h : Value) (xs : List α) (b o n : Nat), hs[i.toNat]? = some h ∧ ix ys i = some xs ∧ h = .slice (some ⟨b, o, none⟩) n sz ∧ v = .slice (some ⟨b, o, none⟩) zs.length sz ∧ zs <+: xs
section
variable {α : Type} {hs : List Value} {ys : List (List α)} {sz : Nat} {v : Value} {zs : List α}
theorem Al.len (h : Al hs ys sz v zs) {P : Program} {C : CallRel} {o : Oper} {t : T} {H1 : AH} {x : Operand} {ty e : TypeId}
  (ho : o.op = .call { callee := .builtin .len, args := #[x], argTypes := #[ty] }) (hx : aev t x = v) (hu : P.underlying ty = some (.slice e)) : Step P C o t H1 .pure (.int .i64 zs.length) H1 := by
 rcases h with ⟨rfl, rfl⟩ | ⟨_, _, _, _, _, _, _, _, _, rfl, _⟩
 ·exact S.lenNil ho hx hu
 ·exact S.len ho hx hu
theorem Al.at (h : Al hs ys sz v zs) {j : Int} {x : α} (hx : ix zs j = some x) : ∃ (i : Int) (h : Value) (xs : List α) (b o n : Nat), hs[i.toNat]? = some h ∧ ix ys i = some xs ∧ h = .slice (some ⟨b, o, none⟩) n sz ∧ v = .slice (some ⟨b, o, none⟩) zs.length sz ∧ ix xs j = some x := by
 rcases h with ⟨_, rfl⟩ | ⟨i, h, xs, b, o, n, h1, h2, h3, h4, h5⟩
 ·have := ix_get hx; simp at this
 ·refine ⟨i, h, xs, b, o, n, h1, h2, h3, h4, ?_⟩
  have h6 := ix_ge hx
  have h7 := ix_get hx
  unfold ix
  rw [if_pos h6]
  obtain ⟨t, rfl⟩ := h5
  rw [List.getElem?_append_left (List.getElem?_eq_some_iff.1 h7).1, h7]
theorem Al.of {i : Int} {h : Value} {xs : List α} {eh : Int} (hh : hs[i.toNat]? = some h) (hx : ix ys i = some xs) (hc : cutL xs 0 eh = some zs) (ha : (v = .slice none 0 0 ∧ zs = []) ∨ ∃ b o n, h = .slice (some ⟨b, o, none⟩) n sz ∧ v = .slice (some ⟨b, o, none⟩) zs.length sz) : Al hs ys sz v zs := by
 rcases ha with h | ⟨b, o, n, h1, h2⟩
 ·exact .inl h
 ·obtain ⟨a, c, h3, h4, h5, h6, rfl⟩ := cutL_eq hc
  have ha : a = 0 := by omega
  subst ha
  exact .inr ⟨i, h, xs, b, o, n, hh, hx, h1, h2, by simpa using List.take_prefix c xs⟩
end
section
variable {P : Program} {o : Oper} {t : T} {H : AH} {As : List At} {k : Nat} {C : CallRel}
theorem Ow.subA {α : Type} {R : RT α} {V : Vw} {v : Value} {xs zs : List α} (ow : Ow V As) (hk : As[k]? = some (.os R v xs)) {eh : Int} (hc : cutL xs 0 eh = some zs) {ty e : TypeId} {x : Operand} {xl xh xm : Option Operand} {z : Value} {m : Nat}
  (ho : o.op = .slice ty x xl xh xm) (hx : aev t x = v) (hu : P.underlying ty = some (.slice e)) (hi : tinfo P e z R.sz m) (hb : Bnd t xl xh xm 0 eh xs.length) :
  ∃ v', Step P C o t H .pure v' H ∧ ((v' = .slice none 0 0 ∧ zs = []) ∨ ∃ b o n, v = .slice (some ⟨b, o, none⟩) n R.sz ∧ v' = .slice (some ⟨b, o, none⟩) zs.length R.sz) := by
 obtain ⟨i, j, h0, rfl, hij, hj2, rfl⟩ := cutL_eq hc
 have hi0 : i = 0 := by omega
 subst hi0
 obtain ⟨hl, hh, hm⟩ := hb
 obtain ⟨q, h6, h7, h8, h9⟩ := tinfo_get hi
 obtain ⟨p, hp, hmax, h4⟩ := ow.osat hk
 rcases h4 with ⟨rfl, rfl, rfl⟩ | ⟨b, o', cs, rfl, rfl, ho', hr⟩
 ·have hj0 : j = 0 := by simp at hj2; omega
  subst hj0
  exact ⟨_, S.sliceNil (kk := .i64) ho hx hu hi (hl.imp (fun h => h.1) id) (hh.imp (fun h => h.1) id) hm, .inl ⟨rfl, by simp⟩⟩
 ·have hlen : ((xs.take j).drop 0).length = j - 0 := by rw [List.length_drop, List.length_take]; omega
  refine ⟨_, .p _ (.sliceS ty x xl xh xm b o' xs.length R.sz 0 j e q ho hx hu h6 ?_ ?_ hm hij hj2 (.inl (by rw [h8]))), .inr ⟨b, o', xs.length, rfl, ?_⟩⟩
  ·exact hl.imp (fun ⟨a, b⟩ => ⟨a, rfl⟩) id
  ·exact hh.imp (fun ⟨a, b⟩ => ⟨a, by omega⟩) id
  ·rw [hlen]; simp
end
section
variable {P : Program} {G N : Nat} {dr : Bool} {ops : Array Oper} {i : Nat} {hist : Hist} {l : List (Nat × Value)} {V : Vw} {Q : LQ} {o : Oper} {d : Tmp} {As : List At} {k : Nat}
theorem O.subA {α : Type} {R : RT α} {v : Value} {xs zs : List α} {eh : Int} {ty e : TypeId} {x : Operand} {xl xh xm : Option Operand} {z : Value} {m : Nat} (ow : Ow V As) (hk : As[k]? = some (.os R v xs)) (hc : cutL xs 0 eh = some zs) (ho : ops[i]? = some o) (hd : o.dst = some d) (hg : GOk ops l o)
  (hop : o.op = .slice ty x xl xh xm) (hx : aev (fr l) x = v) (hu : P.underlying ty = some (.slice e)) (hi : tinfo P e z R.sz m) (hb : Bnd (fr l) xl xh xm 0 eh xs.length) (h : ∀ v', ((v' = .slice none 0 0 ∧ zs = []) ∨ ∃ b o n, v = .slice (some ⟨b, o, none⟩) n R.sz ∧ v' = .slice (some ⟨b, o, none⟩) zs.length R.sz) → WU dr P G ops (i + 1) hist ((d, v') :: l) V.H Q) : WU dr P G ops i hist l V.H Q := by
 obtain ⟨v', h1, h2⟩ := ow.subA (C := Cl P G) (H := V.H) hk hc hop hx hu hi hb
 exact U.p ho hd hg h1 (h v' h2)
end
end Go.Vm
