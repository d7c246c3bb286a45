/-
 What is forgotten of a register: as a plain function of the two maps.
-/
import Derived.Test.YtcacllfgnjlhiaaEF11b
import Derived.Test.YtcacllfgnjlhiaaESp16
set_option linter.unusedSimpArgs false
set_option linter.unusedVariables false
namespace Go.Vm
open Go Go.RowKit Go.Proofs
theorem MRel.ints {V : Vw} {l : List (Int × Value)} {m : List (Int × Int)} (h : MRel (RT.int .i64) false V l m) : ∀ p ∈ l, ∃ x, p.2 = .int .i64 x := by
 induction h with
 | nil => intro p hp; cases hp
 | cons k v x l m h h' ih =>
  intro p hp
  rcases List.mem_cons.1 hp with rfl | hp
  ·exact ⟨x, by simpa [RT.vrel, RT.int] using h⟩
  ·exact ih p hp
theorem MRel.keys {V : Vw} {l : List (Int × Value)} {m : List (Int × Int)} (h : MRel (RT.int .i64) false V l m) : l.map Prod.fst = m.map Prod.fst := by
 induction h with
 | nil => rfl
 | cons k v x l m h h' ih => simp [ih]
theorem MRel.filt {V : Vw} {l : List (Int × Value)} {m : List (Int × Int)} {r : Int} (h : MRel (RT.int .i64) false V l m) : MRel (RT.int .i64) false V (l.filter (notv r)) (m.filter fun q => decide (q.2 ≠ r)) := by
 induction h with
 | nil => exact .nil
 | cons k v x l m h h' ih =>
  have h1 : notv r (k, v) = decide (x ≠ r) := by rw [show v = .int .i64 x by simpa [RT.vrel, RT.int] using h]; rfl
  rw [List.filter_cons, List.filter_cons, h1]
  show MRel _ _ _ (if _ then _ else _) (if decide ((k, x).2 ≠ r) = true then _ else _)
  by_cases hx : x = r
  ·simp [hx]; simpa using ih
  ·simp [hx]; exact .cons _ _ _ _ _ h (by simpa using ih)
theorem forget_cl {V : Vw} {Rs : List At} {b1 z2 : Nat} {v4 v6 : Value} {n s : List (Int × Int)} {r : Int} {q : List (Int × Int) × List (Int × Int)}
  (ow : Ow V (.pt b1 (.cells z2 [v4, v6]) :: .om (RT.int .i64) false v4 n :: .om (RT.int .i64) false v6 s :: Rs)) (h : forgetO n s r = some q) :
  ∃ v V', Cl Try.prog 0 44 #[.pointer (some ⟨b1, 0, none⟩), .int .i64 r] V.H v V'.H ∧ V.le V' ∧ ∃ (v8 v10 : Value), Ow V' (.pt b1 (.cells z2 [v8, v10]) :: .om (RT.int .i64) false v8 q.1 :: .om (RT.int .i64) false v10 q.2 :: Rs) := by
 unfold forgetO at h
 split at h
 ·rename_i hnd
  obtain rfl := Option.some.inj h
  obtain ⟨m1, e1, rfl, g1, l1, n1, f1, r1⟩ := ow.omsat (k := 1) rfl
  obtain ⟨m2, e2, rfl, g2, l2, n2, f2, r2⟩ := ow.omsat (k := 2) rfl
  have g0 := (ow.own (k := 0) rfl).get
  have hne : m1 ≠ m2 := by
   rintro rfl
   obtain ⟨p, hp, hs⟩ := ow
   cases hs with
   | cons p0 q0 _ _ a0 hs =>
   cases hs with
   | cons p1 q1 _ _ a1 hs =>
   cases hs with
   | cons p2 q2 _ _ a2 hs =>
   obtain ⟨_, _, z1, rfl, _⟩ := a1
   obtain ⟨_, _, z2, rfl, _⟩ := a2
   cases z1
   cases z2
   have := hp.nd
   rw [List.map_append] at this
   have := (List.nodup_append.1 this).2.1
   simp at this
  have nA : St V m1 (V.set m1 (.amap (mdel e1 r))) (.amap (mdel e1 r)) := ⟨rfl⟩
  have leA := nA.le (M := fun _ => True) ⟨trivial, l1, n1, f1, g1⟩
  have owA := ow.omchg (k := 1) rfl g1 nA (r1.del (k := r) |>.up leA)
  have g2' : (V.set m1 (.amap (mdel e1 r))).H.get m2 = some (.amap e2) := by
   show (V.H.upd m1 _).get m2 = _
   simp [AH.upd, Ne.symm hne, g2]
  have nB : St (V.set m1 (.amap (mdel e1 r))) m2 ((V.set m1 (.amap (mdel e1 r))).set m2 (.amap ((mdel e2 r).filter (notv r)))) (.amap ((mdel e2 r).filter (notv r))) := ⟨rfl⟩
  have leB := nB.le (M := fun _ => True) ⟨trivial, l2, n2, f2, g2'⟩
  have owB := owA.omchg (k := 2) rfl g2' nB ((((r2.up leA).del (k := r)).filt (r := r)).up leB)
  refine ⟨.tuple #[], _, Cl.sd (forget_sd g0 l1 l2 g1 g2 hne r2.ints (by rw [r2.keys]; exact hnd)), leA.trans leB, _, _, owB⟩
 ·cases h
end Go.Vm
