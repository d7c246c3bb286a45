/-
  Part of an evaluator for the model, proved sound: no condition.
-/
import Derived.Test.YtlcjnalocidldaaDoorESp12
set_option linter.unusedSimpArgs false
set_option linter.unusedVariables false
namespace Go.Vm
open Go
abbrev Z {α : Sort _} {a : α} : a = a := rfl
theorem nle {a b : Nat} (h : a.ble b = true := by exact rfl) : a ≤ b := Nat.le_of_ble_eq_true h
theorem lk {l : List (Nat × Value)} {i : Nat} {v : Value} (k : Nat) (h : l[k]? = some (i, v) := by exact rfl) (h2 : (l.take k).all (fun p => !(p.1 == i)) = true := by exact rfl) : aev (fr l) (.tmp i) = v := L k h h2
theorem lb {l : List (Nat × Value)} {i : Nat} {b c : Bool} (k : Nat) (g : b = c) (h : l[k]? = some (i, .bool b) := by exact rfl) (h2 : (l.take k).all (fun p => !(p.1 == i)) = true := by exact rfl) : aev (fr l) (.tmp i) = .bool c := (L k h h2).trans (congrArg _ g)
section
variable {P : Program} {G N : Nat} {dr : Bool} {ops : Array Oper} {i : Nat} {hist : Hist} {l : List (Nat × Value)} {H : AH} {V : Vw} {Q : LQ} {d : Tmp} {op : Op} {ty0 : TypeId} {pos : String} {aft : Array Edge}
theorem uu {v : Value} (ho : ops[i]? = some ⟨some d, op, ty0, pos, aft, none⟩) (hs : Step P (Cl P G) ⟨some d, op, ty0, pos, aft, none⟩ (fr l) H .pure v H) (h : WU dr P G ops (i + 1) hist ((d, v) :: l) H Q) : WU dr P G ops i hist l H Q := U.p ho rfl (.inl rfl) hs h
theorem ug {v : Value} {j e : Nat} {b : Bool} (ho : ops[i]? = some ⟨some d, op, ty0, pos, aft, some (j, b)⟩) (he : (ops[j]?).bind (·.dst) = some e) (ht : aev (fr l) (.tmp e) = .bool b) (hs : Step P (Cl P G) ⟨some d, op, ty0, pos, aft, some (j, b)⟩ (fr l) H .pure v H) (h : WU dr P G ops (i + 1) hist ((d, v) :: l) H Q) : WU dr P G ops i hist l H Q := U.p ho rfl (.inr ⟨_, _, _, rfl, he, ht⟩) hs h
theorem mv {x : Operand} {v : Value} (ho : ops[i]? = some ⟨some d, .move x, ty0, pos, aft, none⟩) (hx : aev (fr l) x = v) (h : WU dr P G ops (i + 1) hist ((d, v) :: l) H Q) : WU dr P G ops i hist l H Q := uu ho (S.move rfl hx) h
theorem ag {x : Operand} {v : Value} (ho : ops[i]? = some ⟨some d, .assign x, ty0, pos, aft, none⟩) (hx : aev (fr l) x = v) (h : WU dr P G ops (i + 1) hist ((d, v) :: l) H Q) : WU dr P G ops i hist l H Q := uu ho (S.assign rfl hx) h
theorem ux {j e : Nat} {b c : Bool} (ho : ops[i]? = some ⟨some d, op, ty0, pos, aft, some (j, b)⟩) (he : (ops[j]?).bind (·.dst) = some e) (ht : aev (fr l) (.tmp e) = .bool c) (h : WU dr P G ops (i + 1) hist ((d, undef) :: l) H Q) (hc : (c == b) = false := by exact rfl) : WU dr P G ops i hist l H Q := U.x ho rfl rfl he ht (by simpa using hc) h
theorem uz {j e : Nat} {b : Bool} (ho : ops[i]? = some ⟨some d, op, ty0, pos, aft, some (j, b)⟩) (he : (ops[j]?).bind (·.dst) = some e) (ht : aev (fr l) (.tmp e) = undef) (h : WU dr P G ops (i + 1) hist ((d, undef) :: l) H Q) : WU dr P G ops i hist l H Q := U.z ho rfl rfl he ht h
theorem dn (hq : Q l H) (h : ops.size.ble i = true := by exact rfl) : WU dr P G ops i hist l H Q := U.done (Nat.le_of_ble_eq_true h) hq
theorem rg {id : Nat} {b : Code} {Q : XQ} (h : WU false P G ops 0 [] l H (WP P G N b Q)) (hok : okOps G N ops = true := by exact rfl) : WP P G N (.seq (.region id ops false) b) Q l H := WP.usreg hok h
theorem rh {id : Nat} {Q : XQ} (h : WU false P G ops 0 [] l H (Q .normal)) (hok : okOps G N ops = true := by exact rfl) : WP P G N (.region id ops false) Q l H := WP.ureg hok h
theorem uk {k : Kind} {v : Value} {H1 : AH} (ho : ops[i]? = some ⟨some d, op, ty0, pos, aft, none⟩) (hs : Step P (Cl P G) ⟨some d, op, ty0, pos, aft, none⟩ (fr l) H k v H1) (h : WU false P G ops (i + 1) hist ((d, v) :: l) H1 Q) : WU false P G ops i hist l H Q := U.k ho rfl (.inl rfl) hs nd h
theorem kg {k : Kind} {v : Value} {H1 : AH} {j e : Nat} {b : Bool} (ho : ops[i]? = some ⟨some d, op, ty0, pos, aft, some (j, b)⟩) (he : (ops[j]?).bind (·.dst) = some e) (ht : aev (fr l) (.tmp e) = .bool b) (hs : Step P (Cl P G) ⟨some d, op, ty0, pos, aft, some (j, b)⟩ (fr l) H k v H1) (h : WU false P G ops (i + 1) hist ((d, v) :: l) H1 Q) : WU false P G ops i hist l H Q := U.k ho rfl (.inr ⟨_, _, _, rfl, he, ht⟩) hs nd h
theorem fa {s : TypeId} {x : Operand} {f b off : Nat} {fields : Array Field} {fd : Field} {z : Value} {n m : Nat} (k : Nat) (ho : ops[i]? = some ⟨some d, .fieldAddr s x f, ty0, pos, aft, none⟩) (hx : aev (fr l) x = .pointer (some ⟨b, off, none⟩)) (hu : P.underlying s = some (.struct fields)) (hf : fields[f]? = some fd) (hi : tinfo P fd.type z n m) (h : WU dr P G ops (i + 1) hist ((d, .pointer (some ⟨b, k, none⟩)) :: l) H Q) (hs : (n == 0) = false := by exact rfl) (hk : off + fd.offset = k := by exact rfl) : WU dr P G ops i hist l H Q := uu ho (S.fieldAddr rfl hx hu hf hi hs hk) h
theorem ld {ty : TypeId} {x : Operand} {b off e : Nat} {dd : TypeDesc} {v : Value} {cs : List Value} {As : List At} (ho : ops[i]? = some ⟨some d, .load ty x, ty0, pos, aft, none⟩) (hx : aev (fr l) x = .pointer (some ⟨b, off, none⟩)) (hu : P.underlying ty = some dd) (ow : Ow V As) (k : Nat) (h : WU false P G ops (i + 1) hist ((d, v) :: l) V.H Q) (ha : isAggD dd = false := by exact rfl) (hk : As[k]? = some (.pt b (.cells e cs)) := by exact rfl) (hc : cs[off]? = some v := by exact rfl) : WU false P G ops i hist l V.H Q := uk ho (S.load rfl hx hu ha ((ow.own hk).cell hc)) h
end
theorem cd {P : Program} {G N : Nat} {c : Operand} {x y : Code} {b : Bool} {Q : XQ} {l : List (Nat × Value)} {H : AH} {α : Type} {A B r : α} (hc : aev (fr l) c = .bool b) (h : (if b = true then A else B) = r) (ht : b = true → A = r → WP P G N x Q l H) (hf : b = false → B = r → WP P G N y Q l H) (ho : okOpB G c = true := by exact rfl) : WP P G N (.cond c x y) Q l H := WP.cond _ hc ho (fun g => ht g (ifT g h)) (fun g => hf g (ifF g h))
theorem bc {b : Bool} {p : Prop} {α : Type} {A B r : α} (h : (if b = true then A else B) = r) (ht : b = true → A = r → p) (hf : b = false → B = r → p) : p := bcase (fun g => ht g (ifT g h)) (fun g => hf g (ifF g h))
def jr (a : Nat) : Nat → List (Nat × Option Value) → List (Nat × Option Value)
 | 0, r => r
 | n + 1, r => (a, none) :: jr (a - 1) n r
def jv (a : Nat) (v : Value) (r : List (Nat × Option Value)) : List (Nat × Option Value) := (a, some v) :: r
def jf (us : Nat → Value) : List (Nat × Option Value) → List (Nat × Value)
 | [] => []
 | (d, some v) :: r => (d, v) :: jf us r
 | (d, none) :: r => (d, us d) :: jf us r
section
variable {P : Program} {G N : Nat} {dr : Bool} {ops : Array Oper} {i : Nat} {hist : Hist} {l : List (Nat × Value)} {H : AH} {V : Vw} {Q : LQ}
theorem jX (m : Nat) (it : List (Nat × Option Value)) (h1 : ∀ us, WU dr P G ops m hist (jf us it ++ l) H Q) (h2 : (∀ us, WU dr P G ops m hist (jf us it ++ l) H Q) → WU dr P G ops i hist l H Q) : WU dr P G ops i hist l H Q := h2 h1
theorem jY (m : Nat) (it : List (Nat × Option Value)) (As : List At) (h1 : ∀ us V', V.le V' → Ow V' As → WU dr P G ops m hist (jf us it ++ l) V'.H Q) (h2 : (∀ us V', V.le V' → Ow V' As → WU dr P G ops m hist (jf us it ++ l) V'.H Q) → WU dr P G ops i hist l V.H Q) : WU dr P G ops i hist l V.H Q := h2 h1
theorem jk {F : List (Nat × Value)} {t : Nat} {v v' : Value} {it : List (Nat × Option Value)} (kk : ∀ us, WU dr P G ops i hist (jf us (jv t v it) ++ l) H Q) (hv : v' = v) (hF : F.take it.length ++ l = F := by exact rfl) (he : F.take it.length = jf (fr (F.take it.length)) it := by exact rfl) : WU dr P G ops i hist ((t, v') :: F) H Q := by
 have h := kk (fr (F.take it.length))
 rw [jv, jf, ← he, List.cons_append, hF, ← hv] at h
 exact h
theorem jm {V' : Vw} {As : List At} {F : List (Nat × Value)} {t : Nat} {v v' : Value} {it : List (Nat × Option Value)} (kk : ∀ us V', V.le V' → Ow V' As → WU dr P G ops i hist (jf us (jv t v it) ++ l) V'.H Q) (hv : v' = v) (le : V.le V') (ow : Ow V' As) (hF : F.take it.length ++ l = F := by exact rfl) (he : F.take it.length = jf (fr (F.take it.length)) it := by exact rfl) : WU dr P G ops i hist ((t, v') :: F) V'.H Q := by
 have h := kk (fr (F.take it.length)) V' le ow
 rw [jv, jf, ← he, List.cons_append, hF, ← hv] at h
 exact h
end
section
variable {b x y : Bool}
theorem aT (g : b = true) : Value.bool x = .bool (b && x) := by rw [g, Bool.true_and]
theorem aF (g : b = false) : Value.bool false = .bool (b && x) := by rw [g, Bool.false_and]
theorem oT (g : b = true) : Value.bool true = .bool (b || y) := by rw [g, Bool.true_or]
theorem oF (g : b = false) : Value.bool y = .bool (b || y) := by rw [g, Bool.false_or]
end
theorem Vw.le.t {A B D : Vw} (h : A.le B) (h' : B.le D) : A.le D := h.trans h'
theorem allR {l l' : List (Nat × Value)} (h : l'.map (fun p => fr l p.1) = l'.map (·.2) := by exact rfl) : ∀ p ∈ l', fr l p.1 = p.2 := fun p hp => by
 obtain ⟨j, hj⟩ := List.getElem?_of_mem hp
 have := congrArg (·[j]?) h
 simpa [hj] using this
section
variable {P : Program} {G N : Nat} {dr : Bool} {ops : Array Oper} {i : Nat} {hist : Hist} {l : List (Nat × Value)} {H : AH} {V : Vw} {Q : LQ} {d : Tmp} {ty0 : TypeId} {pos : String} {aft : Array Edge}
theorem cb {β γ : Type} {e : Option β} {k : β → Option γ} {r : γ} {xs : Array Operand} {ts : Array TypeId} {g : FuncId} {as : List Value} {Post : β → Value → Vw → Prop} (ho : ops[i]? = some ⟨some d, .call { callee := .value (.func g), args := xs, argTypes := ts }, ty0, pos, aft, none⟩) (he : enterable P g)
  (ha : xs.toList.map (aev (fr l)) = as) (hb : e.bind k = some r) (hc : ∀ {x}, e = some x → ∃ v V', Cl P G g as.toArray V.H v V'.H ∧ V.le V' ∧ Post x v V') (h : ∀ x, k x = some r → ∀ v V1, V.le V1 → Post x v V1 → WU false P G ops (i + 1) hist ((d, v) :: l) V1.H Q) : WU false P G ops i hist l V.H Q := by
 obtain ⟨x, h1, h2⟩ := bindS hb
 exact O.call ho rfl (.inl rfl) rfl he ha (hc h1) (fun _ _ _ _ => nd) (fun v V1 h3 h4 => h x h2 v V1 h3 h4)
theorem cbg {β γ : Type} {e : Option β} {k : β → Option γ} {r : γ} {xs : Array Operand} {ts : Array TypeId} {g : FuncId} {as : List Value} {Post : β → Value → Vw → Prop} {j e0 : Nat} {b : Bool} (ho : ops[i]? = some ⟨some d, .call { callee := .value (.func g), args := xs, argTypes := ts }, ty0, pos, aft, some (j, b)⟩) (he0 : (ops[j]?).bind (·.dst) = some e0) (ht : aev (fr l) (.tmp e0) = .bool b) (he : enterable P g)
  (ha : xs.toList.map (aev (fr l)) = as) (hb : e.bind k = some r) (hc : ∀ {x}, e = some x → ∃ v V', Cl P G g as.toArray V.H v V'.H ∧ V.le V' ∧ Post x v V') (h : ∀ x, k x = some r → ∀ v V1, V.le V1 → Post x v V1 → WU false P G ops (i + 1) hist ((d, v) :: l) V1.H Q) : WU false P G ops i hist l V.H Q := by
 obtain ⟨x, h1, h2⟩ := bindS hb
 exact O.call ho rfl (.inr ⟨_, _, _, rfl, he0, ht⟩) rfl he ha (hc h1) (fun _ _ _ _ => nd) (fun v V1 h3 h4 => h x h2 v V1 h3 h4)
theorem oc {k : Kind} {H1 : AH} {x : Nat × Kind × AH × AH} (hx : okP ops i k H H1 x) (h : okH ops i k H H1 hist) : okH ops i k H H1 (x :: hist) := okH.cons hx h
theorem onr {H1 : AH} {r : Rk} (h : r.b < H.next) : okH ops i (.read r) H H1 [] := okH.nil (fun r' h' => by cases h'; exact h)
theorem one {H1 : AH} : okH ops i .eff H H1 [] := okH.nil (fun r h => nomatch h)
theorem ona {H1 : AH} {b : Nat} : okH ops i (.alloc b) H H1 [] := okH.nil (fun r h => nomatch h)
theorem ol {α : Type} {a : α} {q : Prop} : a = a ∨ q := .inl rfl
end
section
variable {l : List (Nat × Value)} {x1 x2 x3 x4 x5 : Operand} {v1 v2 v3 v4 v5 : Value}
theorem a1 (h1 : aev (fr l) x1 = v1) : [x1].map (aev (fr l)) = [v1] := aC h1 aN
theorem a2 (h1 : aev (fr l) x1 = v1) (h2 : aev (fr l) x2 = v2) : [x1, x2].map (aev (fr l)) = [v1, v2] := aC h1 (a1 h2)
theorem a3 (h1 : aev (fr l) x1 = v1) (h2 : aev (fr l) x2 = v2) (h3 : aev (fr l) x3 = v3) : [x1, x2, x3].map (aev (fr l)) = [v1, v2, v3] := aC h1 (a2 h2 h3)
theorem a4 (h1 : aev (fr l) x1 = v1) (h2 : aev (fr l) x2 = v2) (h3 : aev (fr l) x3 = v3) (h4 : aev (fr l) x4 = v4) : [x1, x2, x3, x4].map (aev (fr l)) = [v1, v2, v3, v4] := aC h1 (a3 h2 h3 h4)
end
section
variable {P : Program} {G N : Nat} {dr : Bool} {ops : Array Oper} {i : Nat} {hist : Hist} {l : List (Nat × Value)} {H : AH} {V : Vw} {Q : LQ} {d : Tmp} {op : Op} {ty0 : TypeId} {pos : String} {aft : Array Edge}
theorem ot {k : Kind} {H1 : AH} {x : Nat × Kind × AH × AH} (h : okH ops i k H H1 hist) (hx : okP ops i k H H1 x := by exact trivial) : okH ops i k H H1 (x :: hist) := okH.cons hx h
theorem oi {k : Kind} {H1 : AH} {x : Nat × Kind × AH × AH} (h : okH ops i k H H1 hist) (hx : okP ops i k H H1 x := by exact .inl rfl) : okH ops i k H H1 (x :: hist) := okH.cons hx h
theorem uD {k : Kind} {v : Value} {H1 : AH} (ho : ops[i]? = some ⟨some d, op, ty0, pos, aft, none⟩) (hs : Step P (Cl P G) ⟨some d, op, ty0, pos, aft, none⟩ (fr l) H k v H1) (hk : okH ops i k H H1 hist) (h : WU true P G ops (i + 1) ((i, k, H, H1) :: hist) ((d, v) :: l) H1 Q) : WU true P G ops i hist l H Q := U.k ho rfl (.inl rfl) hs (fun _ => hk) h
theorem kD {k : Kind} {v : Value} {H1 : AH} {j e : Nat} {b : Bool} (ho : ops[i]? = some ⟨some d, op, ty0, pos, aft, some (j, b)⟩) (he : (ops[j]?).bind (·.dst) = some e) (ht : aev (fr l) (.tmp e) = .bool b) (hs : Step P (Cl P G) ⟨some d, op, ty0, pos, aft, some (j, b)⟩ (fr l) H k v H1) (hk : okH ops i k H H1 hist) (h : WU true P G ops (i + 1) ((i, k, H, H1) :: hist) ((d, v) :: l) H1 Q) : WU true P G ops i hist l H Q := U.k ho rfl (.inr ⟨_, _, _, rfl, he, ht⟩) hs (fun _ => hk) h
theorem lD {ty : TypeId} {x : Operand} {b off e : Nat} {dd : TypeDesc} {v : Value} {cs : List Value} {As : List At} (ho : ops[i]? = some ⟨some d, .load ty x, ty0, pos, aft, none⟩) (hx : aev (fr l) x = .pointer (some ⟨b, off, none⟩)) (hu : P.underlying ty = some dd) (ow : Ow V As) (k : Nat) (hk : Rk.b (.blk b) < V.H.next → okH ops i (.read (.blk b)) V.H V.H hist) (h : WU true P G ops (i + 1) ((i, .read (.blk b), V.H, V.H) :: hist) ((d, v) :: l) V.H Q) (ha : isAggD dd = false := by exact rfl) (hA : As[k]? = some (.pt b (.cells e cs)) := by exact rfl) (hc : cs[off]? = some v := by exact rfl) : WU true P G ops i hist l V.H Q := uD ho (S.load rfl hx hu ha ((ow.own hA).cell hc)) (hk (ow.own hA).lt) h
theorem gs {e : Nat} {b : Bool} (hb : aev (fr l) (.tmp e) = .bool b) (ht : b = true → WU dr P G ops i hist l H Q) (hf : b = false → WU dr P G ops i hist l H Q) : WU dr P G ops i hist l H Q := bcase ht hf
theorem gi {e : Nat} {b : Bool} {α : Type} {A B r : α} (hb : aev (fr l) (.tmp e) = .bool b) (h : (if b = true then A else B) = r) (ht : b = true → A = r → WU dr P G ops i hist l H Q) (hf : b = false → B = r → WU dr P G ops i hist l H Q) : WU dr P G ops i hist l H Q := bc h ht hf
theorem ws {a b : Code} {Q : XQ} (h : WP P G N a (sq (WP P G N b Q) Q) l H) : WP P G N (.seq a b) Q l H := WP.seq h
theorem wn {Q : XQ} (h : Q .normal l H) : WP P G N .skip Q l H := WP.skip h
theorem wr {Q : XQ} (h : Q .ret l H) : WP P G N .ret Q l H := WP.ret h
theorem we {id : Nat} {Q : XQ} (h : Q (.exit id) l H) : WP P G N (.exit id) Q l H := WP.exit h
theorem wb {id : Nat} {c : Code} {Q : XQ} (h : WP P G N c (blk id Q) l H) : WP P G N (.block id c) Q l H := WP.blk h
theorem st {ty : TypeId} {x y : Operand} {b off esz : Nat} {c cs : List Value} {v z : Value} {n m : Nat} {As : List At} (k : Nat) (ow : Ow V As) (ho : ops[i]? = some ⟨none, .store ty x y, ty0, pos, aft, none⟩) (hx : aev (fr l) x = .pointer (some ⟨b, off, none⟩)) (hy : aev (fr l) y = v) (hi : tinfo P ty z n m) (h : ∀ V1, V.le V1 → Ow V1 (As.set k (.pt b (.cells esz (splice c off cs)))) → WU false P G ops (i + 1) hist l V1.H Q) (hk0 : As[k]? = some (.pt b (.cells esz c)) := by exact rfl)
  (hv : v ≠ topV := by simp [topV]) (hcs : v.cells.toList = cs := by exact rfl) (hs : cs.length = n := by exact rfl) (hb : (off + n).ble c.length = true := by exact rfl) (h1 : cs.all One = true := by exact rfl) : WU false P G ops i hist l V.H Q :=
 O.store ow hk0 ho rfl (.inl rfl) rfl hx hy hi hv hcs hs (Nat.le_of_ble_eq_true hb) h1 rfl nd h
def uxB (ops : Array Oper) (i a n j : Nat) (b : Bool) : Bool := (List.range n).all fun q => match ops[i + q]? with
 | some o => o.dst == some (a + 1 + q - n) && o.guard == some (j, b)
 | none => false
theorem uxs {j e : Nat} {b c : Bool} (n a : Nat) (hg : (ops[i]?).bind (·.guard) = some (j, b)) (he : (ops[j]?).bind (·.dst) = some e) (ht : aev (fr l) (.tmp e) = .bool c) (h : WU dr P G ops (i + n) hist (jf (fun _ => undef) (jr a n []) ++ l) H Q) (hc : (c == b) = false := by exact rfl) (ho : uxB ops i a n j b = true := by exact rfl) (hd : decide (n ≤ a + 1 ∧ e + n ≤ a) = true := by exact rfl) : WU dr P G ops i hist l H Q := by
 have hd := of_decide_eq_true hd
 have hall : ∀ q, q < n → ∃ op ty0 pos aft, ops[i + q]? = some ⟨some (a + 1 + q - n), op, ty0, pos, aft, some (j, b)⟩ := fun q hq => by
  have := List.all_eq_true.1 ho q (List.mem_range.2 hq)
  split at this
  ·rename_i o hoq
   obtain ⟨d, op, ty0, pos, aft, g⟩ := o
   simp at this
   exact ⟨op, ty0, pos, aft, by rw [hoq, this.1, this.2]⟩
  ·cases this
 clear ho
 have key : ∀ m (l' : List (Nat × Value)), m ≤ n → aev (fr l') (.tmp e) = .bool c → l' = jf (fun _ => undef) (jr (a - m) (n - m) []) ++ l → WU dr P G ops (i + n - m) hist l' H Q := by
  intro m
  induction m with
  | zero => intro l' _ _ hl; rw [hl]; exact h
  | succ m ih =>
   intro l' hm ht' hl
   obtain ⟨op, ty0, pos, aft, h1⟩ := hall (n - (m + 1)) (by omega)
   have e1 : i + n - (m + 1) = i + (n - (m + 1)) := by omega
   rw [e1]
   refine ux h1 he ht' ?_ hc
   have e2 : i + (n - (m + 1)) + 1 = i + n - m := by omega
   rw [e2]
   refine ih _ (by omega) ?_ ?_
   ·show fr ((_, undef) :: l') e = .bool c
    have : fr l' e = .bool c := ht'
    unfold fr at this ⊢
    rw [List.find?_cons_of_neg (by simp; omega)]
    exact this
   ·rw [hl]
    have e3 : n - m = (n - (m + 1)) + 1 := by omega
    rw [e3, jr, jf, List.cons_append]
    have e4 : a + 1 + (n - (m + 1)) - n = a - m := by omega
    have e5 : a - m - 1 = a - (m + 1) := by omega
    rw [e4, e5]
 have h2 := key n l (Nat.le_refl _) ht (by rw [Nat.sub_self]; rfl)
 rwa [Nat.add_sub_cancel] at h2
end
section
variable {P : Program} {G N : Nat} {dr : Bool} {ops : Array Oper} {i : Nat} {hist : Hist} {l : List (Nat × Value)} {H : AH} {V : Vw} {Q : LQ} {d : Tmp} {op : Op} {ty0 : TypeId} {pos : String} {aft : Array Edge}
theorem fe {s : TypeId} {x : Operand} {f b off : Nat} {fields : Array Field} {fd : Field} {z : Value} {n m : Nat} (ho : ops[i]? = some ⟨some d, .fieldAddr s x f, ty0, pos, aft, none⟩) (hx : aev (fr l) x = .pointer (some ⟨b, off, none⟩)) (hu : P.underlying s = some (.struct fields)) (hf : fields[f]? = some fd) (hi : tinfo P fd.type z n m) (h : WU dr P G ops (i + 1) hist ((d, .pointer (some ⟨b, off + fd.offset, none⟩)) :: l) H Q) (hs : (n == 0) = false := by exact rfl) : WU dr P G ops i hist l H Q := uu ho (S.fieldAddr rfl hx hu hf hi hs rfl) h
theorem fg {j e : Nat} {c : Bool} {s : TypeId} {x : Operand} {f b off : Nat} {fields : Array Field} {fd : Field} {z : Value} {n m : Nat} (ho : ops[i]? = some ⟨some d, .fieldAddr s x f, ty0, pos, aft, some (j, c)⟩) (he : (ops[j]?).bind (·.dst) = some e) (ht : aev (fr l) (.tmp e) = .bool c) (hx : aev (fr l) x = .pointer (some ⟨b, off, none⟩)) (hu : P.underlying s = some (.struct fields)) (hf : fields[f]? = some fd) (hi : tinfo P fd.type z n m) (h : WU dr P G ops (i + 1) hist ((d, .pointer (some ⟨b, off + fd.offset, none⟩)) :: l) H Q) (hs : (n == 0) = false := by exact rfl) : WU dr P G ops i hist l H Q := ug ho he ht (S.fieldAddr rfl hx hu hf hi hs rfl) h
def ntB : Value → Bool
 | .tuple _ => false
 | _ => true
theorem ntB_ok {v : Value} (h : ntB v = true) : v ≠ topV := fun e => by rw [e] at h; cases h
theorem bd {ty : TypeId} {parts : Array (Nat × Operand)} {z : Value} {n m : Nat} {pl : Array (Nat × Nat)} (vs : List Value) (ho : ops[i]? = some ⟨some d, .build ty parts, ty0, pos, aft, none⟩) (hi : tinfo P ty z n m) (hp : placesAre P ty pl) (h : WU dr P G ops (i + 1) hist ((d, .agg vs.toArray) :: l) H Q) (hz : constB z = true := by exact rfl) (hv : (parts.toList.map (·.2)).map (aev (fr l)) = vs := by exact rfl) (ht : vs.all ntB = true := by exact rfl) (hr : Instr.fill (pl[·]?) z.cells ((parts.toList.map (·.1)).zip vs) = some vs.toArray := by exact rfl) : WU dr P G ops i hist l H Q := uu ho (S.build rfl hi hz hp hv (fun v hv => ntB_ok (List.all_eq_true.1 ht v hv)) hr) h
end
section
variable {l : List (Nat × Value)} {i : Nat} {v : Value}
theorem l0 (h : l[0]? = some (i, v) := by exact rfl) (h2 : (l.take 0).all (fun p => !(p.1 == i)) = true := by exact rfl) : aev (fr l) (.tmp i) = v := L 0 h h2
theorem l1 (h : l[1]? = some (i, v) := by exact rfl) (h2 : (l.take 1).all (fun p => !(p.1 == i)) = true := by exact rfl) : aev (fr l) (.tmp i) = v := L 1 h h2
theorem l2 (h : l[2]? = some (i, v) := by exact rfl) (h2 : (l.take 2).all (fun p => !(p.1 == i)) = true := by exact rfl) : aev (fr l) (.tmp i) = v := L 2 h h2
theorem l3 (h : l[3]? = some (i, v) := by exact rfl) (h2 : (l.take 3).all (fun p => !(p.1 == i)) = true := by exact rfl) : aev (fr l) (.tmp i) = v := L 3 h h2
theorem l4 (h : l[4]? = some (i, v) := by exact rfl) (h2 : (l.take 4).all (fun p => !(p.1 == i)) = true := by exact rfl) : aev (fr l) (.tmp i) = v := L 4 h h2
theorem l5 (h : l[5]? = some (i, v) := by exact rfl) (h2 : (l.take 5).all (fun p => !(p.1 == i)) = true := by exact rfl) : aev (fr l) (.tmp i) = v := L 5 h h2
theorem l6 (h : l[6]? = some (i, v) := by exact rfl) (h2 : (l.take 6).all (fun p => !(p.1 == i)) = true := by exact rfl) : aev (fr l) (.tmp i) = v := L 6 h h2
theorem l7 (h : l[7]? = some (i, v) := by exact rfl) (h2 : (l.take 7).all (fun p => !(p.1 == i)) = true := by exact rfl) : aev (fr l) (.tmp i) = v := L 7 h h2
theorem l8 (h : l[8]? = some (i, v) := by exact rfl) (h2 : (l.take 8).all (fun p => !(p.1 == i)) = true := by exact rfl) : aev (fr l) (.tmp i) = v := L 8 h h2
theorem l9 (h : l[9]? = some (i, v) := by exact rfl) (h2 : (l.take 9).all (fun p => !(p.1 == i)) = true := by exact rfl) : aev (fr l) (.tmp i) = v := L 9 h h2
end
section
variable {P : Program} {fn : Func} {Post : Value → AH → Prop} {l : List (Nat × Value)} {H : AH}
theorem fS {s : Tmp} {v : Value} (hv : aev (fr l) (.tmp s) = v) (h : Post v H) (hr : fn.results.toList = [.tmp s] := by exact rfl) : fin P fn Post .ret l H := fin.slot (.inr rfl) hr hv h
theorem fM {ss : List Tmp} {vs : List Value} (hv : ss.map (fr l) = vs) (hr : fn.results.toList = ss.map .tmp) (h : Post (resV vs) H) : fin P fn Post .ret l H := fin.slots (.inr rfl) hr hv h
theorem fX {rs vs} (hm : ResAll P (fr l) H rs vs) (hr : fn.results.toList = rs) (h : Post (resV vs) H) : fin P fn Post .ret l H := fin.mix (.inr rfl) hm hr h
end
end Go.Vm
namespace Go.Vm
open Go Go.RowKit
def RdWF (P : Program) (off : Nat) (fs : List Field) (sz : Nat) {α : Type} (RE : Vw → List Value → α → Prop) (OK : α → Prop) : Prop :=
 ∀ (HH : Type) (enc : TypeId × Value → HH) (w : World) (fuel : Nat) (cs : List Value) (ds : List (DataW HH)), Sure w cs → cs.length = off + sz →
  (∀ (i : Nat) (f : Field), fs[i]? = some f → ∃ x : DataW HH × List MemPlace, DataW.trod enc P w 0 (fun _ => true) true fuel f.type ((cs.drop f.offset).take (P.cellsOf f.type)) = some x ∧ ds[i]? = some x.1) →
  (∀ n ∈ DataW.weightsEach P (fs.map (·.type)) ds, n ≤ reachBytes) → (∀ v ∈ cs.drop off, Good w v) ∧ ∃ y, RE (V0of w) ((cs.drop off).map aV) y ∧ OK y
theorem RdWF.nil {P : Program} {off : Nat} : RdWF P off [] 0 (fun _ cs (_ : Unit) => cs = []) (fun _ => True) := by
 intro HH enc w fuel cs ds hs hl h _
 have : cs.drop off = [] := List.drop_eq_nil_of_le (by omega)
 rw [this]
 exact ⟨(fun v hv => nomatch hv), (), rfl, trivial⟩
theorem RdWF.cons {P : Program} {off n m : Nat} {f : Field} {fs : List Field} {α β : Type} {RE1 : Vw → List Value → α → Prop} {RE2 : Vw → List Value → β → Prop} {OK1 : α → Prop} {OK2 : β → Prop} (ho : f.offset = off) (hn : P.cellsOf f.type = n)
  (h1 : RdW P f.type n RE1 OK1) (h2 : RdWF P (off + n) fs m RE2 OK2) : RdWF P off (f :: fs) (n + m) (fun H cs (y : α × β) => ∃ c1 c2, cs = c1 ++ c2 ∧ RE1 H c1 y.1 ∧ RE2 H c2 y.2) (fun y => OK1 y.1 ∧ OK2 y.2) := by
 intro HH enc w fuel cs ds hs hl h hw
 subst ho hn
 obtain ⟨x, hx, hd⟩ := h 0 f rfl
 cases ds with
 | nil => cases hd
 | cons d ds =>
  simp only [List.getElem?_cons_zero, Option.some.injEq] at hd
  subst hd
  simp only [List.map_cons, DataW.weightsEach, List.mem_append] at hw
  obtain ⟨h3, h4, y, h5, h6⟩ := h1 HH enc w fuel _ x (hs.sub (fun v hv => List.mem_of_mem_drop (List.mem_of_mem_take hv))) hx (fun n hn => hw n (.inl hn))
  obtain ⟨h7, z, h8, h9⟩ := h2 HH enc w fuel cs ds hs (by omega) (fun i g hg => by have := h (i + 1) g (by simpa using hg); simpa using this) (fun n hn => hw n (.inr hn))
  have he : cs.drop f.offset = (cs.drop f.offset).take (P.cellsOf f.type) ++ cs.drop (f.offset + P.cellsOf f.type) := by
   rw [← List.drop_drop, List.take_append_drop]
  refine ⟨fun v hv => ?_, (y, z), ⟨_, _, (congrArg (List.map aV) he).trans List.map_append, h5, h8⟩, h6, h9⟩
  rw [he] at hv
  rcases List.mem_append.1 hv with hv | hv
  ·exact h4 v hv
  ·exact h7 v hv
theorem RdW.struct {P : Program} {t : TypeId} {fs : Array Field} {sz : Nat} {α : Type} {RE : Vw → List Value → α → Prop} {OK : α → Prop} (hu : P.underlying t = some (.struct fs)) (hs : P.cellsOf t = sz) (h : RdWF P 0 fs.toList sz RE OK) : RdW P t sz RE OK := by
 intro HH enc w fuel cs x hsure ht hw
 cases fuel with
 | zero => cases ht
 | succ fuel =>
  unfold DataW.trod at ht
  rw [hu] at ht
  have ht : (if cs.length = P.cellsOf t then (fs.toList.mapM fun f => DataW.trod enc P w 0 (fun _ => true) true fuel f.type ((cs.drop f.offset).take (P.cellsOf f.type))).map fun xs => (DataW.agg (xs.map (·.1)), xs.flatMap (·.2)) else none) = some x := ht
  split at ht
  ·rename_i hl
   obtain ⟨xs, h2, h3⟩ := Option.map_eq_some_iff.1 ht
   subst h3
   obtain ⟨hl2, hg⟩ := mapM_get h2
   have hw2 : DataW.weights P t (DataW.agg (xs.map (·.1))) = DataW.weightsEach P (fs.toList.map (·.type)) (xs.map (·.1)) := by
    rw [DataW.weights]
    simp only [hu]
   have h4 := h HH enc w fuel cs (xs.map (·.1)) hsure (by rw [hl, hs, Nat.zero_add]) (fun i f hf => by
    have hi : i < xs.length := by rw [hl2]; exact (List.getElem?_eq_some_iff.1 hf).1
    exact ⟨xs[i], hg i f _ hf (List.getElem?_eq_getElem hi), by rw [List.getElem?_map, List.getElem?_eq_getElem hi]; rfl⟩) (by rw [← hw2]; exact hw)
   rw [List.drop_zero] at h4
   exact ⟨hl.trans hs, h4⟩
  ·cases ht
theorem RdW.map {P : Program} {t : TypeId} {sz : Nat} {α β : Type} {RE : Vw → List Value → α → Prop} {OK : α → Prop} {RE' : Vw → List Value → β → Prop} {OK' : β → Prop} (h : RdW P t sz RE OK) (g : α → β) (hg : ∀ H cs y, RE H cs y → OK y → RE' H cs (g y) ∧ OK' (g y)) : RdW P t sz RE' OK' := by
 intro HH enc w fuel cs x hs ht hw
 obtain ⟨h1, h2, y, h3, h4⟩ := h HH enc w fuel cs x hs ht hw
 exact ⟨h1, h2, g y, hg _ _ _ h3 h4⟩
section
variable {HH : Type} {enc : TypeId × Value → HH} {P : Program} {W : World} {r : Reach} {base : Nat} {t : TypeId} {v : Value} {d : DataW HH} {ps : List MemPlace} {sz : Nat} {α : Type} {RE : Vw → List Value → α → Prop} {OK : α → Prop}
theorem arg_structW {fs : Array Field} (hu : P.underlying t = some (.struct fs)) (hok : Value.okWide P W r base t v) (hrd : RdW P t sz RE OK) (ht : DataW.Trod enc P W 0 (fun _ => true) true t v d ps) (hwt : ∀ n ∈ d.weights P t, n ≤ reachBytes) :
  (∀ u ∈ v.cells.toList, Good W u) ∧ ∃ cs y, aA v = .agg cs ∧ RE (V0of W) cs.toList y ∧ OK y := by
 obtain ⟨fuel, hf⟩ := ht
 obtain ⟨_, h1, y, h2, h3⟩ := hrd HH enc W fuel _ _ (okWide_sure hok) hf hwt
 obtain ⟨cs, rfl, _⟩ := WideShapes.okWide_struct hu hok
 exact ⟨h1, cs.map aV, y, rfl, by simpa [Value.cells] using h2, h3⟩
end
end Go.Vm
