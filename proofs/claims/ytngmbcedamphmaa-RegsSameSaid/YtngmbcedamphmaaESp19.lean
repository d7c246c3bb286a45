/-
 A slice of one's own whose tail is cleared, and then left off.
-/
import Derived.Test.YtngmbcedamphmaaESp15
set_option linter.unusedSimpArgs false
set_option linter.unusedVariables false
namespace Go.Vm
open Go
def At.ot {α : Type} (R : RT α) (v : Value) (n : Nat) (ys : List α) : At where
 sat V p := n ≤ 9223372036854775807 ∧ ys.length ≤ n ∧ ((p = [] ∧ v = .slice none 0 0 ∧ ys = [] ∧ n = 0) ∨ ∃ b o cs, v = .slice (some ⟨b, o, none⟩) n R.sz ∧ p = [(b, .cells R.sz cs)] ∧ o ≤ cs.length ∧ Rows R.rel V (cs.drop o) ys)
 up V V' p hle h := ⟨h.1, h.2.1, h.2.2.imp id (fun ⟨b, o, cs, h1, h2, h3, h4⟩ => ⟨b, o, cs, h1, h2, h3, h4.up R.ty hle⟩)⟩
def Tl {α : Type} (R : RT α) (v v' : Value) (n i : Nat) : Prop :=
 i ≤ n ∧ ((v = .slice none 0 0 ∧ v' = .slice none 0 0 ∧ n = 0) ∨ ∃ b o, v = .slice (some ⟨b, o, none⟩) n R.sz ∧ v' = .slice (some ⟨b, o + i * R.sz, none⟩) (n - i) R.sz)
theorem Rows.take {α : Type} {R : RT α} {V : Vw} : ∀ {n : Nat} {cs : List Value} {ys : List α}, Rows R.rel V cs ys → Rows R.rel V (cs.take (n * R.sz)) (ys.take n)
 | 0, cs, ys, h => by simp; exact .nil
 | n + 1, cs, ys, h => by
  cases h with
  | nil => simp; exact .nil
  | cons r cs x xs h h' =>
   have hl : r.length = R.sz := R.ty.len _ _ _ h
   rw [List.take_succ_cons, Nat.add_mul, Nat.one_mul, Nat.add_comm, ← hl, List.take_length_add_append, hl]
   exact .cons _ _ _ _ h (Rows.take h')
theorem cut_len {α : Type} {xs ys : List α} {e : Int} (h : cutL xs 0 e = some ys) : e = (ys.length : Int) := by
 obtain ⟨i, j, h1, rfl, h3, h4, rfl⟩ := cutL_eq h
 have : i = 0 := by omega
 subst this
 simp; omega
theorem S.loadC {P : Program} {C : CallRel} {o : Oper} {t : T} {H : AH} {ty : TypeId} {x : Operand} {b off : Nat} {d : TypeDesc} {v : Value} (ho : o.op = .load ty x) (hx : aev t x = .pointer (some ⟨b, off, none⟩)) (hu : P.underlying ty = some d) (ha : isAggD d = false) (hc : H.cell b off = some v) : Step P C o t H (.read (.cell b off)) v H :=
 .lc b off v fun G _ hl => .load1 ty x b off d v ho hx hu ha ((look_cell hl).trans hc)
section
variable {P : Program} {G N : Nat} {dr : Bool} {ops : Array Oper} {i : Nat} {hist : Hist} {l : List (Nat × Value)} {V : Vw} {Q : LQ} {o : Oper} {d : Tmp} {As : List At} {k : Nat}
theorem O.tailT {α : Type} {R : RT α} {v : Value} {xs ys : List α} {el : Int} {ty e : TypeId} {x : Operand} {xl : Option Operand} {z : Value} {m : Nat} (ow : Ow V As) (hk : As[k]? = some (.os R v xs)) (hc : cutL xs 0 el = some ys) (ho : ops[i]? = some o) (hd : o.dst = some d) (hg : GOk ops l o)
  (hop : o.op = .slice ty x xl none none) (hx : aev (fr l) x = v) (hu : P.underlying ty = some (.slice e)) (hi : tinfo P e z R.sz m) (hb : (xl = none ∧ el = 0) ∨ ∃ y k, xl = some y ∧ aev (fr l) y = .int k el) (h : ∀ v', Tl R v v' xs.length ys.length → WU dr P G ops (i + 1) hist ((d, v') :: l) V.H Q) : WU dr P G ops i hist l V.H Q := by
 have hel := cut_len hc
 obtain ⟨i0, j, h1, h2, h3, h4, h5⟩ := cutL_eq hc
 have hle : ys.length ≤ xs.length := by omega
 subst hel
 obtain ⟨p, q1, q2, _⟩ := Ow.chg (Bs := [.os R v xs]) (ow.pick k hk)
 obtain ⟨p1, p2, rfl, q4, q5⟩ := q2.split
 obtain ⟨q, h6, h7, h8, h9⟩ := tinfo_get hi
 rcases q4 with ⟨hmax, ⟨rfl, rfl, rfl⟩ | ⟨b, o', cs, rfl, rfl, ho', hr⟩⟩
 ·have : ys = [] := by simpa using hle
  subst this
  exact U.p ho hd hg (S.sliceNil (kk := .i64) hop hx hu hi (hb.imp (fun h => h.1) fun ⟨a, b, c, d⟩ => ⟨a, b, c, by simpa using d⟩) (.inl rfl) (.inl rfl)) (h _ ⟨Nat.le_refl _, .inl ⟨rfl, rfl, rfl⟩⟩)
 ·refine U.p ho hd hg (.p _ (.sliceS ty x xl none none b o' xs.length R.sz ys.length xs.length e q hop hx hu h6 (hb.imp (fun ⟨a, b⟩ => ⟨a, by omega⟩) id) (.inl ⟨rfl, rfl⟩) (.inl rfl) hle (Nat.le_refl _) (.inl h8.symm))) (h _ ⟨hle, .inr ⟨b, o', rfl, by rw [h8]⟩⟩)
theorem O.clearT {α : Type} {R : RT α} {v v' : Value} {xs ys : List α} {el : Int} {ty e : TypeId} {x : Operand} {z : Value} {m : Nat} (ow : Ow V As) (hk0 : As[k]? = some (.os R v xs)) (hc : cutL xs 0 el = some ys) (ht : Tl R v v' xs.length ys.length) (ho : ops[i]? = some o) (hd : o.dst = none) (hg : GOk ops l o)
  (hop : o.op = .call { callee := .builtin .clear, args := #[x], argTypes := #[ty] }) (hx : aev (fr l) x = v') (hu : P.underlying ty = some (.slice e)) (hi : tinfo P e z R.sz m) (hz : constB z = true) (hzs : z.cells.size = R.sz) (hk : ∀ H1 : AH, okU dr ops i .eff V.H H1 hist)
  (h : ∀ V1, V.le V1 → Ow V1 (As.set k (.ot R v xs.length ys)) → WU dr P G ops (i + 1) (hadd dr (i, .eff, V.H, V1.H) hist) l V1.H Q) : WU dr P G ops i hist l V.H Q := by
 obtain ⟨i0, j, h1, h2, h3, h4, h5⟩ := cutL_eq hc
 have : i0 = 0 := by omega
 subst this
 have hyl : ys.length = j := by rw [h5]; simp; omega
 have hys : ys = xs.take ys.length := by rw [hyl, h5]; simp
 obtain ⟨p, q1, q2, q3⟩ := Ow.chg (Bs := [.os R v xs]) (ow.pick k hk0)
 obtain ⟨p1, p2, rfl, q4, q5⟩ := q2.split
 cases q5
 obtain ⟨q, h6, h7, h8, h9⟩ := tinfo_get hi
 rcases q4 with ⟨hmax, ⟨rfl, rfl, rfl⟩ | ⟨b, o', cs, rfl, rfl, ho', hr⟩⟩
 ·have hv' : v' = .slice none 0 0 := by
   rcases ht.2 with ⟨_, e2, _⟩ | ⟨b, o, e1, _⟩
   ·exact e2
   ·cases e1
  subst hv'
  have hy0 : ys = [] := by rw [hys]; simp
  have hs := MOp.clearNil (P := P) (ρ := aev (fr l)) (H := V.H) (o := o) ty e x hop hx hu
  refine U.kn (v := .tuple #[]) ho hd hg (.m _ _ hs) (hk _) (h V (.refl V) ?_)
  exact Ow.put hk0 (q3 V [_] ([] ++ []) (.refl V) (fun c _ _ _ hf => ⟨rfl, hf⟩) q1 (.cons [] [] _ _ ⟨by simp, by rw [hy0]; exact Nat.le_refl _, .inl ⟨rfl, rfl, hy0, rfl⟩⟩ .nil) (fun c hc => .inl hc))
 ·obtain ⟨e1, e2⟩ : v' = .slice (some ⟨b, o' + ys.length * R.sz, none⟩) (xs.length - ys.length) R.sz ∧ True := by
   rcases ht.2 with ⟨e1, _, _⟩ | ⟨b2, o2, e1, e2⟩
   ·cases e1
   ·cases e1; exact ⟨e2, trivial⟩
  subst e1
  obtain ⟨g1, g2, g3, g4⟩ := q1.own (b, .cells R.sz cs) (by simp)
  have hcl : cs.length = o' + xs.length * R.sz := by
   have := hr.len R.ty
   rw [List.length_drop] at this
   omega
  have hsub : ys.length * R.sz + (xs.length - ys.length) * R.sz = xs.length * R.sz := by rw [← Nat.add_mul]; congr 1; have := ht.1; omega
  have hs := MOp.clear (P := P) (ρ := aev (fr l)) (H := V.H) (o := o) ty e x b (o' + ys.length * R.sz) (xs.length - ys.length) R.sz cs q z hop hx hu h6 h7 hz hzs g1 g4 (by rw [hcl]; omega)
  have n : St V b (V.set b (.cells R.sz (cs.take (o' + ys.length * R.sz)))) (.cells R.sz (cs.take (o' + ys.length * R.sz))) := ⟨rfl⟩
  have hle := n.le (M := fun _ => True) ⟨trivial, g1, g2, g3, g4⟩
  refine U.kn (v := .tuple #[]) ho hd hg (.m _ _ hs) (hk _) (h _ hle ?_)
  refine ow.st1 hk0 (b := b) (x := .cells R.sz cs) (fun p hp hsat => ?_) n ⟨hmax, ht.1, .inr ⟨b, o', _, rfl, rfl, ?_, ?_⟩⟩
  ·rcases hsat with ⟨_, ⟨_, e3, _⟩ | ⟨b2, o2, cs2, e3, e4, _, _⟩⟩
   ·cases e3
   ·cases e3
    subst e4
    have := (hp.own (b, .cells R.sz cs2) (by simp)).2.2.2
    rw [g4] at this
    cases this
    rfl
  ·rw [List.length_take, hcl]
   omega
  ·rw [List.drop_take, Nat.add_sub_cancel_left, hys]
   have : (xs.take ys.length).length = ys.length := by rw [← hys]
   rw [this]
   exact (Rows.take hr).up R.ty hle
theorem O.subOt {α : Type} {R : RT α} {v : Value} {n : Nat} {ys : List α} {eh : Int} {ty e : TypeId} {x y : Operand} {kk : IntKind} {z : Value} {m : Nat} (ow : Ow V As) (hk : As[k]? = some (.ot R v n ys)) (he : eh = (ys.length : Int)) (ho : ops[i]? = some o) (hd : o.dst = some d) (hg : GOk ops l o)
  (hop : o.op = .slice ty x none (some y) none) (hx : aev (fr l) x = v) (hy : aev (fr l) y = .int kk eh) (hu : P.underlying ty = some (.slice e)) (hi : tinfo P e z R.sz m) (h : ∀ v', Ow V (As.set k (.os R v' ys)) → WU dr P G ops (i + 1) hist ((d, v') :: l) V.H Q) : WU dr P G ops i hist l V.H Q := by
 subst he
 obtain ⟨p, h1, h2, h3⟩ := Ow.chg (Bs := [.ot R v n ys]) (ow.pick k hk)
 obtain ⟨p1, p2, rfl, h4, h5⟩ := h2.split
 cases h5
 obtain ⟨q, h6, h7, h8, h9⟩ := tinfo_get hi
 have same : ∀ v', (At.os R v' ys).sat V p1 → Ow V (As.set k (.os R v' ys)) := fun v' hs =>
  Ow.put hk (h3 V [_] (p1 ++ []) (.refl V) (fun c _ _ _ hf => ⟨rfl, hf⟩) h1 (.cons p1 [] _ _ hs .nil) (fun c hc => .inl hc))
 obtain ⟨hmax, hle, ⟨rfl, rfl, rfl, rfl⟩ | ⟨b, o', cs, rfl, rfl, ho', hr⟩⟩ := h4
 ·exact U.p ho hd hg (S.sliceNil (kk := .i64) hop hx hu hi (.inl rfl) (.inr ⟨y, kk, rfl, by simpa using hy⟩) (.inl rfl)) (h _ (same _ ⟨by simp, .inl ⟨rfl, rfl, rfl⟩⟩))
 ·refine U.p ho hd hg (.p _ (.sliceS ty x none (some y) none b o' n R.sz 0 ys.length e q hop hx hu h6 (.inl ⟨rfl, rfl⟩) (.inr ⟨y, kk, rfl, hy⟩) (.inl rfl) (Nat.zero_le _) hle (.inl h8.symm))) (h _ (same _ ⟨by omega, .inr ⟨b, o', cs, ?_, rfl, ho', hr⟩⟩))
  simp
end
end Go.Vm
