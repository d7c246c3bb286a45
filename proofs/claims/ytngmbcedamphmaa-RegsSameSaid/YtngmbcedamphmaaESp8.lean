/-
  Part of an evaluator for the model, proved sound: no condition.
-/
import Derived.Test.YtngmbcedamphmaaESp7
set_option linter.unusedSimpArgs false
set_option linter.unusedVariables false
namespace Go.Vm
open Go
section
variable {α : Type} {RI : RO α} {V : Vw} {p : PH} {v0 v1 v2 v3 v4 : Value} {x0 x1 x2 x3 x4 : α}
end
section
variable {P : Program} {G N : Nat} {dr : Bool} {ops : Array Oper} {i : Nat} {hist : Hist} {l : List (Nat × Value)} {V : Vw} {Q : LQ} {o : Oper} {d : Tmp} {As : List At} {k : Nat}
end
def At.ex (A : At) (q : PH) : At := ⟨fun V p => p = q ∧ A.sat V p, fun V V' p hle h => ⟨h.1, A.up V V' p hle h.2⟩⟩
section
variable {V V1 : Vw} {As Bs : List At} {k j : Nat} {A A' : At} {q : PH}
theorem Ow.toEx (ow : Ow V As) (k : Nat) (hk : As[k]? = some A) : ∃ q, Ow V (As.set k (.ex A q)) := by
 obtain ⟨p, h1, h2, h3⟩ := Ow.chg (Bs := [A]) (ow.pick k hk)
 obtain ⟨p1, p2, rfl, h4, h5⟩ := h2.split
 cases h5
 exact ⟨p1, Ow.put hk (h3 V [.ex A p1] (p1 ++ []) (.refl V) (fun c _ _ _ hf => ⟨rfl, hf⟩) h1 (.cons p1 [] _ _ ⟨rfl, h4⟩ .nil) (fun c hc => .inl hc))⟩
theorem Ow.unEx (ow : Ow V As) (k : Nat) (hk : As[k]? = some (.ex A q)) : Ow V (As.set k A) := by
 obtain ⟨p, h1, h2, h3⟩ := Ow.chg (Bs := [.ex A q]) (ow.pick k hk)
 obtain ⟨p1, p2, rfl, ⟨rfl, h4⟩, h5⟩ := h2.split
 cases h5
 exact Ow.put hk (h3 V [A] (p1 ++ []) (.refl V) (fun c _ _ _ hf => ⟨rfl, hf⟩) h1 (.cons p1 [] _ _ h4 .nil) (fun c hc => .inl hc))
theorem Ow.exat (ow : Ow V As) (hk : As[k]? = some (.ex A q)) : A.sat V q ∧ ∀ x ∈ q, V.H.get x.1 = some x.2 := by
 obtain ⟨p, h1, h2, h3⟩ := Ow.chg (Bs := [.ex A q]) (ow.pick k hk)
 obtain ⟨p1, p2, rfl, ⟨rfl, h4⟩, h5⟩ := h2.split
 cases h5
 exact ⟨h4, fun x hx => (h1.own x (by simpa using hx)).2.2.2⟩
theorem Ow.exsame (ow : Ow V As) (hk : As[k]? = some (.ex A q)) (ow1 : Ow V1 Bs) (hj : Bs[j]? = some (.ex A' q)) {b : Nat} (hb : A.sat V q → ∃ x, (b, x) ∈ q) : V1.H.get b = V.H.get b := by
 obtain ⟨h1, h2⟩ := ow.exat hk
 obtain ⟨_, h3⟩ := ow1.exat hj
 obtain ⟨x, hx⟩ := hb h1
 exact (h3 _ hx).trans (h2 _ hx).symm
theorem exb_sh {α : Type} {RI : RO α} {v : Value} {hs : List Value} {xs : List α} {i b o n c : Nat} (hv : v = .slice (some ⟨b, o, none⟩) n c) (h : (At.ossh RI v hs xs i).sat V q) : ∃ x, (b, x) ∈ q := by
 obtain ⟨_, _, _, b', o', pre, q', h1, rfl, _⟩ := h
 rw [hv] at h1
 injection h1 with e1 _ _
 injection e1 with e1
 injection e1 with e1 _ _
 subst e1
 exact ⟨_, List.mem_cons_self⟩
end
end Go.Vm
