/-
  Part of an evaluator for the model, proved sound: no condition.
-/
import Derived.Test.YtngmbcedamphmaaESp6
set_option linter.unusedSimpArgs false
set_option linter.unusedVariables false
namespace Go.Vm
open Go
structure RO (α : Type) where
 ref : Value → α → At
 one : ∀ V p v x, (ref v x).sat V p → One v = true ∧ v ≠ topV ∧ v.cells = #[v]
 det : ∀ V p q v x y, (ref v x).sat V p → (ref v y).sat V q → StP V p → StP V q → p = q
theorem one_det {V : Vw} {b : Nat} {x y : AObj} (h : StP V [(b, x)]) (h' : StP V [(b, y)]) : [(b, x)] = [(b, y)] := by
 have h1 := (h.own (b, x) (by simp)).2.2.2
 have h2 := (h'.own (b, y) (by simp)).2.2.2
 simp only at h1 h2
 rw [h1] at h2
 cases h2
 rfl
def RO.os {α : Type} (R : RT α) : RO (List α) := ⟨fun v x => .os R v x, fun V p v x h => by
 obtain ⟨_, ⟨_, rfl, _⟩ | ⟨b, o, cs, rfl, _⟩⟩ := h <;> exact ⟨rfl, by simp [topV], rfl⟩, fun V p q v x y h h' hp hq => by
 obtain ⟨_, ⟨rfl, hv, _⟩ | ⟨b, o, cs, hv, rfl, _⟩⟩ := h <;> obtain ⟨_, ⟨rfl, hv', _⟩ | ⟨b', o', cs', hv', rfl, _⟩⟩ := h' <;> rw [hv] at hv'
 ·cases hv'
 ·cases hv'
 ·injection hv' with e1 _ _
  injection e1 with e1
  injection e1 with e1 _ _
  subst e1
  exact one_det hp hq⟩
inductive AllO {α : Type} (RI : RO α) (V : Vw) : PH → List Value → List α → Prop
 | nil : AllO RI V [] [] []
 | cons (p q : PH) (v : Value) (x : α) (vs : List Value) (xs : List α) (h : (RI.ref v x).sat V p) (h' : AllO RI V q vs xs) : AllO RI V (p ++ q) (v :: vs) (x :: xs)
section
variable {α : Type} {RI : RO α} {V V' : Vw} {p : PH} {vs us : List Value} {xs ys : List α}
theorem AllO.up (h : AllO RI V p vs xs) (hle : V.le V') : AllO RI V' p vs xs := by
 induction h with
 | nil => exact .nil
 | cons p q v x vs xs h _ ih => exact .cons p q v x vs xs ((RI.ref v x).up _ _ _ hle h) ih
theorem AllO.len (h : AllO RI V p vs xs) : vs.length = xs.length := by
 induction h with
 | nil => rfl
 | cons p q v x vs xs h _ ih => simp [ih]
theorem AllO.pick (h : AllO RI V p vs xs) : ∀ {i : Nat} {v : Value} {x : α}, vs[i]? = some v → xs[i]? = some x → ∃ p1 q, p.Perm (p1 ++ q) ∧ (RI.ref v x).sat V p1 ∧ AllO RI V q (vs.eraseIdx i) (xs.eraseIdx i) := by
 induction h with
 | nil => intro i v x hv; simp at hv
 | cons p q w y vs xs h h' ih =>
  intro i v x hv hx
  cases i with
  | zero => simp at hv hx; subst hv hx; exact ⟨p, q, .refl _, h, h'⟩
  | succ i =>
   obtain ⟨p1, q1, h1, h2, h3⟩ := ih (by simpa using hv) (by simpa using hx)
   refine ⟨p1, p ++ q1, ?_, h2, .cons _ _ _ _ _ _ h h3⟩
   exact (h1.append_left p).trans (List.perm_append_comm_assoc _ _ _)
theorem AllO.put : ∀ {i : Nat} {v : Value} {x : α} {vs : List Value} {xs : List α} {p1 q : PH}, vs[i]? = some v → i < xs.length → vs.length = xs.length → (RI.ref v x).sat V p1 → AllO RI V q (vs.eraseIdx i) (xs.eraseIdx i) → ∃ p, p.Perm (p1 ++ q) ∧ AllO RI V p vs (xs.set i x)
 | 0, v, x, w :: vs, y :: xs, p1, q, hv, hi, hl, h1, h2 => by
  simp at hv
  subst hv
  exact ⟨p1 ++ q, .refl _, .cons _ _ _ _ _ _ h1 h2⟩
 | i + 1, v, x, w :: vs, y :: xs, p1, q, hv, hi, hl, h1, h2 => by
  simp only [List.eraseIdx_cons_succ] at h2
  cases h2 with
  | cons p2 q2 _ _ _ _ h3 h4 =>
   obtain ⟨p3, h5, h6⟩ := AllO.put (i := i) (v := v) (x := x) (vs := vs) (xs := xs) (by simpa using hv) (by simpa using hi) (by simpa using hl) h1 h4
   exact ⟨p2 ++ p3, (h5.append_left p2).trans (List.perm_append_comm_assoc _ _ _), .cons _ _ _ _ _ _ h3 h6⟩
 | i, v, x, [], xs, p1, q, hv, _, _, _, _ => by simp at hv
 | i, v, x, w :: vs, [], p1, q, hv, hi, _, _, _ => by simp at hi
theorem AllO.rep {v : Value} {x : α} (h : (RI.ref v x).sat V []) : ∀ n, AllO RI V [] (List.replicate n v) (List.replicate n x)
 | 0 => .nil
 | n + 1 => by rw [List.replicate_succ, List.replicate_succ]; exact .cons [] [] _ _ _ _ h (AllO.rep h n)
end
def At.oss {α : Type} (RI : RO α) (v : Value) (hs : List Value) (xs : List α) : At where
 sat V p := xs.length ≤ 9223372036854775807 ∧ ((p = [] ∧ v = .slice none 0 0 ∧ hs = [] ∧ xs = []) ∨ ∃ b o pre q, v = .slice (some ⟨b, o, none⟩) xs.length 1 ∧ p = (b, .cells 1 (pre ++ hs)) :: q ∧ pre.length = o ∧ AllO RI V q hs xs)
 up V V' p hle h := ⟨h.1, h.2.imp id (fun ⟨b, o, pre, q, h1, h2, h3, h4⟩ => ⟨b, o, pre, q, h1, h2, h3, h4.up hle⟩)⟩
def At.ossh {α : Type} (RI : RO α) (v : Value) (hs : List Value) (xs : List α) (i : Nat) : At where
 sat V p := xs.length ≤ 9223372036854775807 ∧ i < xs.length ∧ hs.length = xs.length ∧ ∃ b o pre q, v = .slice (some ⟨b, o, none⟩) xs.length 1 ∧ p = (b, .cells 1 (pre ++ hs)) :: q ∧ pre.length = o ∧ AllO RI V q (hs.eraseIdx i) (xs.eraseIdx i)
 up V V' p hle h := ⟨h.1, h.2.1, h.2.2.1, h.2.2.2.elim fun b ⟨o, pre, q, h1, h2, h3, h4⟩ => ⟨b, o, pre, q, h1, h2, h3, h4.up hle⟩⟩
section
variable {α : Type} {RI : RO α} {V V' : Vw} {v : Value} {hs : List Value} {xs : List α} {As : List At} {k : Nat}
theorem Ow.same {Bs Cs : List At} (ow : Ow V (Bs ++ As)) (h : ∀ p, StP V p → Sat V p Bs → ∃ q, p.Perm q ∧ Sat V q Cs) : Ow V (Cs ++ As) := by
 obtain ⟨p, h1, h2, h3⟩ := ow.chg
 obtain ⟨q, h4, h5⟩ := h p h1 h2
 exact h3 V Cs q (.refl V) (fun c _ _ _ hf => ⟨rfl, hf⟩) (h1.perm h4) h5 (fun b hb => .inl ((h4.map _).mem_iff.2 hb))
theorem Ow.ssat (ow : Ow V As) (hk : As[k]? = some (.oss RI v hs xs)) : ∃ p, StP V p ∧ (At.oss RI v hs xs).sat V p := by
 obtain ⟨p, h1, h2, _⟩ := Ow.chg (Bs := [.oss RI v hs xs]) (ow.pick k hk)
 obtain ⟨p1, p2, rfl, h3, h4⟩ := h2.split
 exact ⟨p1, h1.left, h3⟩
theorem Ow.shsat {i : Nat} (ow : Ow V As) (hk : As[k]? = some (.ossh RI v hs xs i)) : ∃ p, StP V p ∧ (At.ossh RI v hs xs i).sat V p := by
 obtain ⟨p, h1, h2, _⟩ := Ow.chg (Bs := [.ossh RI v hs xs i]) (ow.pick k hk)
 obtain ⟨p1, p2, rfl, h3, h4⟩ := h2.split
 exact ⟨p1, h1.left, h3⟩
theorem Ow.sslen {P : Program} {C : CallRel} {o : Oper} {t : T} {H1 : AH} {x : Operand} {ty e : TypeId} (ow : Ow V As) (hk : As[k]? = some (.oss RI v hs xs))
  (ho : o.op = .call { callee := .builtin .len, args := #[x], argTypes := #[ty] }) (hx : aev t x = v) (hu : P.underlying ty = some (.slice e)) : Step P C o t H1 .pure (.int .i64 xs.length) H1 := by
 obtain ⟨p, _, _, ⟨_, rfl, _, rfl⟩ | ⟨b, o, pre, q, rfl, _⟩⟩ := ow.ssat hk
 ·exact S.lenNil ho hx hu
 ·exact S.len ho hx hu
theorem Ow.ssopen {idx : Int} {x : α} (ow : Ow V As) (hk : As[k]? = some (.oss RI v hs xs)) (hx : ix xs idx = some x) :
  ∃ h, hs[idx.toNat]? = some h ∧ Ow V (RI.ref h x :: As.set k (.ossh RI v hs xs idx.toNat)) := by
 have hxg := ix_get hx
 obtain ⟨p0, hp0, hmax, h0⟩ := ow.ssat hk
 rcases h0 with ⟨_, _, _, rfl⟩ | ⟨b, o, pre, q, hv, hp, hpre, hall⟩
 ·simp at hxg
 ·have hl := hall.len
  have hlt := (List.getElem?_eq_some_iff.1 hxg).1
  obtain ⟨h, hh⟩ : ∃ h, hs[idx.toNat]? = some h := ⟨_, List.getElem?_eq_getElem (by omega)⟩
  refine ⟨h, hh, ?_⟩
  have key := Ow.same (Bs := [.oss RI v hs xs]) (Cs := [RI.ref h x, .ossh RI v hs xs idx.toNat]) (As := As.eraseIdx k) (ow.pick k hk) (fun p hp' hs' => ?_)
  ·refine Ow.perm key ((List.Perm.cons _ ?_))
   have := pick_perm (l := As.set k (.ossh RI v hs xs idx.toNat)) (k := k) (a := .ossh RI v hs xs idx.toNat) (by simp [(List.getElem?_eq_some_iff.1 hk).1])
   rwa [eraseIdx_set] at this
  ·obtain ⟨p1, p2, rfl, ⟨hm, h1⟩, h4⟩ := hs'.split
   cases h4
   rcases h1 with ⟨_, _, _, rfl⟩ | ⟨b, o, pre, q, hv, rfl, hpre, hall⟩
   ·simp at hxg
   ·obtain ⟨p3, q3, h5, h6, h7⟩ := hall.pick hh hxg
    refine ⟨p3 ++ (((b, .cells 1 (pre ++ hs)) :: q3) ++ []), ?_, .cons _ _ _ _ h6 (.cons _ _ _ _ ⟨hm, hlt, hl, b, o, pre, q3, hv, rfl, hpre, h7⟩ .nil)⟩
    rw [List.append_nil, List.append_nil]
    exact (h5.cons _).trans List.perm_middle.symm
theorem Ow.ssclose {i j : Nat} {h : Value} {y : α} (ow : Ow V As) (hk : As[k]? = some (.ossh RI v hs xs i)) (hj : As[j]? = some (RI.ref h y)) (hne : j ≠ k) (hh : hs[i]? = some h) : Ow V ((As.set k (.oss RI v hs (xs.set i y))).eraseIdx j) := by
 have hkl := (List.getElem?_eq_some_iff.1 hk).1
 have h1 := ow.pick k hk
 obtain ⟨j', hj'⟩ := pick2 hk hj (Ne.symm hne)
 have h2 := h1.pick (j' + 1) (A := RI.ref h y) (by simpa using hj')
 simp only [List.eraseIdx_cons_succ] at h2
 have key := Ow.same (Bs := [RI.ref h y, .ossh RI v hs xs i]) (Cs := [.oss RI v hs (xs.set i y)]) (As := (As.eraseIdx k).eraseIdx j') h2 (fun p hp' hs' => ?_)
 ·refine Ow.perm key ?_
  have e1 : ((As.set k (.oss RI v hs (xs.set i y)))[j]?) = some (RI.ref h y) := by rw [List.getElem?_set_ne (Ne.symm hne)]; exact hj
  have p1 := pick_perm e1
  have p2 : (At.oss RI v hs (xs.set i y) :: As.eraseIdx k).Perm (As.set k (.oss RI v hs (xs.set i y))) := by
   have := pick_perm (l := As.set k (.oss RI v hs (xs.set i y))) (k := k) (a := .oss RI v hs (xs.set i y)) (by simp [hkl])
   rwa [eraseIdx_set] at this
  have p3 := pick_perm hj'
  have p4 : (RI.ref h y :: (At.oss RI v hs (xs.set i y) :: (As.eraseIdx k).eraseIdx j')).Perm (RI.ref h y :: (As.set k (.oss RI v hs (xs.set i y))).eraseIdx j) := ((List.Perm.swap _ _ _).trans ((p3.cons _).trans p2)).trans p1.symm
  exact p4.cons_inv
 ·obtain ⟨q1, q2, rfl, h3, h4⟩ := hs'.split
  obtain ⟨q3, q4, rfl, ⟨hm, hlt, hl, b, o, pre, q, hv, rfl, hpre, hall⟩, h6⟩ := h4.split
  cases h6
  obtain ⟨p, h7, h8⟩ := AllO.put (x := y) hh hlt hl h3 hall
  refine ⟨((b, .cells 1 (pre ++ hs)) :: p) ++ [], ?_, .cons _ _ _ _ ⟨by simpa using hm, .inr ⟨b, o, pre, p, by simpa using hv, rfl, hpre, h8⟩⟩ .nil⟩
  rw [List.append_nil, List.append_nil]
  exact List.perm_middle.trans (h7.symm.cons _)
theorem Ow.sspt {idx : Int} {x : α} (ow : Ow V As) (hk : As[k]? = some (.oss RI v hs xs)) (hx : ix xs idx = some x) : ∃ b o n c, v = .slice (some ⟨b, o, none⟩) n c := by
 obtain ⟨p, _, _, ⟨_, _, _, rfl⟩ | ⟨b, o, pre, q, rfl, _⟩⟩ := ow.ssat hk
 ·have := ix_get hx; simp at this
 ·exact ⟨b, o, _, _, rfl⟩
theorem Ow.sslen' {b o n c : Nat} (ow : Ow V As) (hk : As[k]? = some (.oss RI v hs xs)) (hv : v = .slice (some ⟨b, o, none⟩) n c) : v = .slice (some ⟨b, o, none⟩) xs.length 1 := by
 obtain ⟨p, _, _, ⟨_, h, _⟩ | ⟨b', o', pre, q, h, _⟩⟩ := ow.ssat hk
 ·rw [hv] at h; cases h
 ·rw [hv] at h; cases h; exact hv
theorem Ow.shcell {i j b o n c : Nat} {h : Value} (ow : Ow V As) (hk : As[k]? = some (.ossh RI v hs xs j)) (hv : v = .slice (some ⟨b, o, none⟩) n c) (hh : hs[i]? = some h) : b < V.H.next ∧ V.H.cell b (o + i * 1) = some h := by
 obtain ⟨p, hp, _, _, _, b', o', pre, q, hv2, rfl, hpre, _⟩ := ow.shsat hk
 rw [hv] at hv2
 cases hv2
 obtain ⟨h5, h6, h7, h8⟩ := hp.own (b, .cells 1 (pre ++ hs)) (by simp)
 refine ⟨h6, S.cellB h8 ?_⟩
 subst hpre
 rw [List.getElem?_append_right (by omega), Nat.mul_one, Nat.add_sub_cancel_left]
 exact hh
end
section
variable {P : Program} {G N : Nat} {dr : Bool} {ops : Array Oper} {i : Nat} {hist : Hist} {l : List (Nat × Value)} {V : Vw} {Q : LQ} {o : Oper} {d : Tmp} {As : List At} {k : Nat} {α : Type} {RI : RO α} {v : Value} {hs : List Value} {xs : List α}
theorem O.storeH {ty : TypeId} {p q : Operand} {b o' n0 c0 : Nat} {idx : Nat} {u z : Value} {m : Nat} (ow : Ow V As) (hk0 : As[k]? = some (.ossh RI v hs xs idx)) (hv : v = .slice (some ⟨b, o', none⟩) n0 c0) (ho : ops[i]? = some o) (hd : o.dst = none) (hg : GOk ops l o) (hop : o.op = .store ty p q)
  (hp : aev (fr l) p = .pointer (some ⟨b, o' + idx * 1, none⟩)) (hq : aev (fr l) q = u) (hi : tinfo P ty z 1 m) (hu : u ≠ topV) (hcs : u.cells.toList = [u]) (h1 : One u = true) (hk : ∀ H1 : AH, (∀ c, c ≠ b → H1.get c = V.H.get c) → okU dr ops i .eff V.H H1 hist)
  (h : ∀ V1, V.le V1 → Ow V1 (As.set k (.ossh RI v (hs.set idx u) xs idx)) → WU dr P G ops (i + 1) (hadd dr (i, .eff, V.H, V1.H) hist) l V1.H Q) : WU dr P G ops i hist l V.H Q := by
 obtain ⟨p0, hp0, hs0, hr0⟩ := Ow.chg (Bs := [.ossh RI v hs xs idx]) (ow.pick k hk0)
 obtain ⟨p1, p2, rfl, ⟨hm, hlt, hl, b', o2, pre, qq, hv2, rfl, hpre, hall⟩, h4⟩ := hs0.split
 cases h4
 rw [hv] at hv2
 cases hv2
 have how : Own (fun _ => True) V b (.cells 1 (pre ++ hs)) := by
  obtain ⟨h5, h6, h7, h8⟩ := hp0.own (b, .cells 1 (pre ++ hs)) (by simp)
  exact ⟨trivial, h5, h6, h7, h8⟩
 have hsp : splice (pre ++ hs) (o' + idx * 1) [u] = pre ++ hs.set idx u := by
  subst hpre
  unfold splice
  rw [Nat.mul_one, List.length_singleton, List.take_length_add_append, Nat.add_assoc, List.drop_length_add_append, List.append_assoc, List.append_assoc]
  congr 1
  rw [List.set_eq_take_append_cons_drop, if_pos (by omega)]
  simp
 refine U.store ho hd hg hop hp hq hi how hu hcs rfl (by rw [List.length_append]; omega) (by simp [h1]) hsp (hk _ (fun c hc => by simp [AH.upd, hc])) (fun V1 s => h V1 (s.le how) ?_)
 have hle := s.le how
 obtain ⟨rfl⟩ := s
 have hnd := hp0.nd
 simp only [List.append_nil, List.map_cons, List.nodup_cons] at hnd
 refine Ow.put hk0 (hr0 _ [.ossh RI v (hs.set idx u) xs idx] (((b, .cells 1 (pre ++ hs.set idx u)) :: qq) ++ []) hle (fun c _ _ hc hf => ?_) ?_ (.cons _ _ _ _ ⟨hm, hlt, by simpa using hl, b, o', pre, qq, hv, rfl, hpre, by rw [eraseIdx_set]; exact hall.up hle⟩ .nil) (fun c hc => .inl (by simpa using hc)))
 ·have hcb : c ≠ b := fun e => hc (by subst e; simp)
  exact ⟨by simp [Vw.set, AH.upd, hcb], hf⟩
 ·refine ⟨by simpa using hnd, fun x hx => ?_⟩
  rw [List.append_nil] at hx
  cases hx with
  | head => exact ⟨how.lo, how.lt, how.nf, by simp [Vw.set, AH.upd]⟩
  | tail _ hx =>
   obtain ⟨h5, h6, h7, h8⟩ := hp0.own x (List.mem_append_left _ (List.mem_cons_of_mem _ hx))
   have hxb : x.1 ≠ b := fun e => hnd.1 (by rw [← e]; exact List.mem_map_of_mem hx)
   exact ⟨h5, h6, h7, by simp [Vw.set, AH.upd, hxb, h8]⟩
theorem StP.push {V V' : Vw} {p : PH} {b : Nat} {x : AObj} (h : StP V p) (n : Nw V b V' x) : StP V' ((b, x) :: p) := by
 obtain ⟨rfl, rfl⟩ := n
 refine ⟨?_, fun q hq => ?_⟩
 ·rw [List.map_cons, List.nodup_cons]
  refine ⟨fun hm => ?_, h.nd⟩
  obtain ⟨q, hq, he⟩ := List.mem_map.1 hm
  have h1 := (h.own q hq).2.1
  simp only at he
  omega
 ·cases hq with
  | head => exact ⟨V.lon, Nat.lt_succ_self _, fun hf => by have := V.wf _ hf; omega, by simp [Vw.new, AH.new]⟩
  | tail _ hq =>
   obtain ⟨h1, h2, h3, h4⟩ := h.own q hq
   exact ⟨h1, Nat.lt_succ_of_lt h2, h3, by simp [Vw.new, AH.new, Nat.ne_of_lt h2, h4]⟩
theorem Ow.wrapss {V' : Vw} {Bs : List At} {b : Nat} {us : List Value} {ys : List α} (ow : Ow V (Bs ++ As)) (n : Nw V b V' (.cells 1 us)) (hall : ∀ p, Sat V p Bs → AllO RI V p us ys) (hm : ys.length ≤ 9223372036854775807) : Ow V' (.oss RI (.slice (some ⟨b, 0, none⟩) ys.length 1) us ys :: As) := by
 obtain ⟨p, h1, h2, h3⟩ := ow.chg
 have hle := n.le
 refine h3 V' [_] ((((b, .cells 1 us) :: p)) ++ []) hle (fun c _ hlt _ hf => ?_) (by rw [List.append_nil]; exact h1.push n) (.cons _ _ _ _ ⟨hm, .inr ⟨b, 0, [], p, rfl, rfl, rfl, (hall p h2).up hle⟩⟩ .nil) (fun c hc => ?_)
 ·obtain ⟨rfl, rfl⟩ := n
  exact ⟨by simp [Vw.new, AH.new, Nat.ne_of_lt hlt], hf⟩
 ·have hn := n.eq
  simp only [List.append_nil, List.map_cons, List.mem_cons] at hc
  rcases hc with rfl | hc
  ·exact .inr (by omega)
  ·exact .inl hc
theorem O.makeS {ty : TypeId} {x y : Operand} {kx ky : IntKind} {e : TypeId} {z : Value} {m : Nat} {q : Int} {z0 : α} {zs : List α} (RI : RO α) (ow : Ow V As) (ho : ops[i]? = some o) (hd : o.dst = some d) (hg : GOk ops l o) (hop : o.op = .makeSlice ty x y) (hx : aev (fr l) x = .int kx q) (hy : aev (fr l) y = .int ky q) (hu : P.underlying ty = some (.slice e)) (hi : tinfo P e z 1 m) (hz : constB z = true) (hs : z.cells = #[z])
  (hm : m ≤ 4194304) (hz0 : (RI.ref z z0).sat V []) (hmk : mk q z0 = some zs) (hk : ∀ x, okU dr ops i (.alloc V.H.next) V.H (V.H.new x) hist) (h : ∀ v hs V1, V.le V1 → Ow V1 (.oss RI v hs zs :: As) → WU dr P G ops (i + 1) (hadd dr (i, .alloc V.H.next, V.H, V1.H) hist) ((d, v) :: l) V1.H Q) : WU dr P G ops i hist l V.H Q := by
 obtain ⟨n, rfl, h1, rfl⟩ := mk_eq hmk
 have hb2 : n * m ≤ 2 ^ 46 := Nat.le_trans (Nat.mul_le_mul h1 hm) (by decide)
 refine U.k ho hd hg (S.makeSlice (n := 1) hop hx hy hu hi hz (by rw [hs]; rfl) rfl (Nat.lt_of_le_of_lt h1 (by decide)) hb2) (hk _) ?_
 have hc : ((List.range (n * 1)).map fun j => z.cells[j % z.cells.size]!) = List.replicate n z := by
  rw [hs, Nat.mul_one]
  apply List.ext_getElem
  ·simp
  ·intro j h2 h3
   simp [Nat.mod_one]
 rw [hc]
 have nw : Nw V V.H.next (V.new _) (.cells 1 (List.replicate n z)) := ⟨rfl, rfl⟩
 have := h (.slice (some ⟨V.H.next, 0, none⟩) (List.replicate n z0).length 1) (List.replicate n z) _ nw.le (Ow.wrapss (Bs := []) ow nw (fun p hp => by cases hp; exact AllO.rep hz0 n) (by simp; omega))
 rw [List.length_replicate] at this
 exact this
theorem Ow.ssfz {R : RT α} {v : Value} {hs : List Value} {xs : List (List α)} (ow : Ow V As) (hk : As[k]? = some (.oss (RO.os R) v hs xs)) : ∃ V', V'.H = V.H ∧ V.le V' ∧ Fz (RT.sl R) V' v xs ∧ Ow V' (As.eraseIdx k) ∧ ∀ (i : Nat) (h : Value) (x : List α), hs[i]? = some h → xs[i]? = some x → Fz R V' h x := by
 obtain ⟨p0, hp0, hs0, hr0⟩ := Ow.chg (Bs := [.oss (RO.os R) v hs xs]) (ow.pick k hk)
 obtain ⟨p1, p2, rfl, ⟨hm, hA⟩, h4⟩ := hs0.split
 cases h4
 rw [List.append_nil] at hp0 hr0
 rcases hA with ⟨rfl, rfl, rfl, rfl⟩ | ⟨b, o, pre, q, rfl, rfl, hpre, hall⟩
 ·exact ⟨V, rfl, .refl V, .nil, ow.drop k hk, fun i h x hh => by simp at hh⟩
 ·let V' : Vw := ⟨fun c => V.F c ∨ c ∈ (((b, AObj.cells 1 (pre ++ hs)) :: q).map (·.1)), V.H, fun c hc => hc.elim (V.wf c) (fun hc => by obtain ⟨x, hx, rfl⟩ := List.mem_map.1 hc; exact (hp0.own x hx).2.1), V.lon⟩
  have hle : V.le V' := ⟨Nat.le_refl _, rfl, fun _ h => .inl h, fun _ _ => rfl⟩
  have hfin := hr0 V' [] [] hle (fun c _ _ hc hf => ⟨rfl, fun h => h.elim hf hc⟩) ⟨List.nodup_nil, fun q h => nomatch h⟩ .nil (fun c hc => by simp at hc)
  have hgb := (hp0.own (b, .cells 1 (pre ++ hs)) (by simp)).2.2.2
  have inner : ∀ (q : PH) (hs : List Value) (xs : List (List α)), AllO (RO.os R) V q hs xs → (∀ x ∈ q, V'.F x.1 ∧ V'.H.get x.1 = some x.2) → ∀ (i : Nat) (x : List α), xs[i]? = some x → ∃ h, hs[i]? = some h ∧ Fz R V' h x := by
   intro q hs xs hall
   induction hall with
   | nil => intro _ i x hx; simp at hx
   | cons p q w y vs xs hw _ ih =>
    intro hf i x hx
    cases i with
    | succ i => exact ih (fun x hx => hf x (by simp [hx])) i x (by simpa using hx)
    | zero =>
     simp at hx
     subst hx
     refine ⟨w, rfl, ?_⟩
     obtain ⟨hmx, ⟨_, rfl, rfl⟩ | ⟨b', o', cs, rfl, rfl, ho', hr⟩⟩ := (hw : (At.os R w y).sat V p)
     ·exact .nil
     ·obtain ⟨f1, f2⟩ := hf (b', .cells R.sz cs) (by simp)
      refine ⟨.inr ⟨b', o', R.sz, rfl, ⟨f1, hmx⟩, fun j z hz => ?_⟩, fun _ _ _ _ e => by cases e; exact .inl rfl⟩
      obtain ⟨r, h10, h11⟩ := (hr.up R.ty hle).at R.ty hz
      refine ⟨r, R.ty.len _ _ _ h10, h10, fun jj u hj => S.cellB f2 ?_⟩
      have := h11 jj u hj
      rw [List.getElem?_drop] at this
      rw [← this, Nat.add_assoc]
  have hin := inner q hs xs hall (fun x hx => ⟨.inr (by rw [List.map_cons]; exact List.mem_cons_of_mem _ (List.mem_map_of_mem hx)), (hp0.own x (List.mem_cons_of_mem _ hx)).2.2.2⟩)
  refine ⟨V', rfl, hle, ⟨?_, fun b' o' n c e => by cases e; exact .inl rfl⟩, hfin, fun i h x hh hx => by
   obtain ⟨h', q1, q2⟩ := hin i x hx
   rw [hh] at q1
   cases q1
   exact q2⟩
  refine .inr ⟨b, o, 1, rfl, ⟨.inr (by simp), hm⟩, fun i x hx => ?_⟩
  obtain ⟨h, h1, h2⟩ := hin i x hx
  refine ⟨[h], rfl, ⟨h, rfl, h2⟩, fun j u hj => ?_⟩
  match j, hj with
  | 0, hj =>
   simp at hj
   subst hj
   refine S.cellB hgb ?_
   subst hpre
   rw [Nat.add_zero, show (RT.sl R).sz = 1 from rfl, Nat.mul_one, List.getElem?_append_right (by omega), Nat.add_sub_cancel_left]
   exact h1
  | j + 1, hj => simp at hj
end
section
variable {α : Type} {RI : RO α} {V : Vw} {v : Value} {hs : List Value} {xs : List α} {As : List At} {k : Nat}
theorem set_same {xs : List α} {i : Nat} {x : α} (h : xs[i]? = some x) : xs.set i x = xs := by
 apply List.ext_getElem?
 intro j
 rw [List.getElem?_set]
 split
 ·rename_i e; subst e; split
  ·exact h.symm
  ·rename_i hlt; exact absurd (List.getElem?_eq_some_iff.1 h).1 hlt
 ·rfl
theorem Ow.ssclose' {idx : Int} {j : Nat} {h : Value} {x : α} (ow : Ow V As) (hk : As[k]? = some (.ossh RI v hs xs idx.toNat)) (hj : As[j]? = some (RI.ref h x)) (hne : j ≠ k) (hh : hs[idx.toNat]? = some h) (hx : ix xs idx = some x) : Ow V ((As.set k (.oss RI v hs xs)).eraseIdx j) := by
 have := ow.ssclose hk hj hne hh
 rwa [set_same (ix_get hx)] at this
theorem Ow.shset {i : Nat} {u : Value} (ow : Ow V As) (hk : As[k]? = some (.ossh RI v (hs.set i u) xs i)) : (hs.set i u)[i]? = some u := by
 obtain ⟨p, _, _, hlt, hl, _⟩ := ow.shsat hk
 rw [List.getElem?_set_self (by simpa using (by rw [hl]; exact hlt : i < (hs.set i u).length))]
end
section
variable {α : Type} {RI : RO α} {V : Vw} {v : Value} {hs : List Value} {xs ys : List α} {As : List At} {k : Nat}
end
end Go.Vm
