/-
 Parts of strings; a slice of bytes as a string.
-/
import Derived.Test.YthbllmihobbcgaaESp12
import Derived.Laws.Strings2
import Derived.Laws.Slices
set_option linter.unusedSimpArgs false
set_option linter.unusedVariables false
namespace Go.Vm
open Go
def strSub (s : ByteArray) (l h : Int) : Option ByteArray := if 0 ≤ l ∧ l ≤ h ∧ h ≤ s.size then some (s.extract l.toNat h.toNat) else none
def strO (xs : List Int) : Option ByteArray := if xs.all (fun x => decide (0 ≤ x) && decide (x < 256)) then some ⟨(xs.map fun x => UInt8.ofNat x.toNat).toArray⟩ else none
section
variable {P : Program} {C : CallRel} {o : Oper} {t : T} {H : AH}
theorem S.sliceStr {ty : TypeId} {x : Operand} {xl xh xm : Option Operand} {s z : ByteArray} {el eh : Int} (hc : strSub s el eh = some z) (ho : o.op = .slice ty x xl xh xm) (hx : aev t x = .string s) (hu : P.underlying ty = some .string) (hb : Bnd t xl xh xm el eh s.size) (hm : xm = none) : Step P C o t H .pure (.string z) H := by
 unfold strSub at hc
 split at hc
 ·rename_i h0
  cases hc
  obtain ⟨h1, h2, h3⟩ := h0
  obtain ⟨hl, hh, _⟩ := hb
  subst hm
  refine .p _ (.flat _ (fun z hz => ?_) (fun cs b => by rw [ho]; simp) (.atom _ (.string _)) (fun w => ?_))
  ·rw [ho] at hz
   have key : ∀ (a : Option Operand) (e f : Int), ((a = none ∧ e = f) ∨ ∃ y k, a = some y ∧ aev t y = .int k e) → ∀ y, a = some y → Flat (aev t y) := fun a e f ha y hy => by
    rcases ha with ⟨ha, _⟩ | ⟨y', k, h1, h2⟩
    ·rw [ha] at hy; cases hy
    ·rw [h1] at hy; cases hy; rw [h2]; exact .atom _ (.int _ _)
   simp [Op.operands] at hz
   rcases hz with rfl | hz | hz
   ·rw [hx]; exact .atom _ (.string _)
   ·exact key xl _ _ hl z (by simpa using hz)
   ·exact key xh _ _ hh z (by simpa using hz)
  ·have e1 : (el.toNat : Int) = el := Int.toNat_of_nonneg h1
   have e2 : (eh.toNat : Int) = eh := Int.toNat_of_nonneg (by omega)
   rcases hl with ⟨hl1, hl2⟩ | ⟨y, k, hl1, hl2⟩ <;> rcases hh with ⟨hh1, hh2⟩ | ⟨y', k', hh1, hh2⟩
   ·subst hl1 hl2 hh1 hh2
    simp [execOp, ho, Instr.sliceAt, Instr.slice, run_und hu, hx, Instr.sliceBounds, Instr.sliceBound, asIntOf]
   ·subst hl1 hl2 hh1
    have := run_slice_string_h (P := P) w ty s hu k' eh (by omega) h3
    simp [execOp, ho, Instr.sliceAt, run_und hu, hx, hh2, this]
   ·subst hl1 hh1 hh2
    have := run_slice_string_l (P := P) w ty s hu k el h1 h2
    simp [execOp, ho, Instr.sliceAt, run_und hu, hx, hl2, this]
   ·subst hl1 hh1
    have := run_slice_string (P := P) (w := w) ty s k k' el eh hu h1 h2 h3
    simp [execOp, ho, Instr.sliceAt, run_und hu, hx, hl2, hh2, this]
 ·cases hc
theorem S.strNil {ty ty' e : TypeId} {x : Operand} (ho : o.op = .convert ty ty' x) (hx : aev t x = .slice none 0 0) (hu : P.underlying ty = some (.slice e)) (he : P.underlying e = some (.int .u8)) (hs : P.underlying ty' = some .string) : Step P C o t H .pure (.string ⟨#[]⟩) H := by
 refine .p _ (.flat _ (fun z hz => ?_) (fun cs b => by rw [ho]; simp) (.atom _ (.string _)) (fun w => ?_))
 ·rw [ho] at hz
  simp [Op.operands] at hz
  rw [hz, hx]; exact .atom _ .nilSlice
 ·have := run_convert_bytes_string (P := P) w ty ty' e none 0 0 hu he hs
  simp [execOp, ho, hx, this, Conv.bytesToString]
  rfl
end
theorem strCells {V : Vw} {b o' : Nat} {xs : List Int} (hall : (xs.all fun x => decide (0 ≤ x) && decide (x < 256)) = true)
  (hel : ∀ (i : Nat) (x : Int), xs[i]? = some x → ∃ cs : List Value, cs.length = (RT.int .u8).sz ∧ (RT.int .u8).rel V cs x ∧ ∀ (j : Nat) (u : Value), cs[j]? = some u → V.H.cell b (o' + i * (RT.int .u8).sz + j) = some u)
  (j : Nat) (u : Value) (hj : ((xs.map fun x : Int => UInt8.ofNat x.toNat).map fun b => Value.int .u8 (b.toNat : Int))[j]? = some u) : V.H.cell b (o' + j) = some u := by
 rw [List.map_map, List.getElem?_map] at hj
 obtain ⟨q, hq, hqu⟩ := Option.map_eq_some_iff.1 hj
 obtain ⟨cs, h1, h2, h3⟩ := hel j q hq
 have h2 : cs = [.int .u8 q] := h2
 subst h2
 have h4 := h3 0 _ rfl
 have h5 : o' + j * (RT.int .u8).sz + 0 = o' + j := by show o' + j * 1 + 0 = o' + j; omega
 rw [h5] at h4
 rw [h4, ← hqu]
 have hr := List.all_eq_true.1 hall q (List.mem_of_getElem? hq)
 simp at hr
 show some (Value.int .u8 q) = some (.int .u8 ((UInt8.ofNat q.toNat).toNat : Int))
 have : (UInt8.ofNat q.toNat).toNat = q.toNat := by
  rw [UInt8.toNat_ofNat']
  omega
 rw [this, Int.toNat_of_nonneg hr.1]
section
variable {P : Program} {G N : Nat} {ops : Array Oper} {i : Nat} {hist : Hist} {l : List (Nat × Value)} {V : Vw} {Q : LQ} {o : Oper} {d : Tmp}
theorem O.strF {x : Operand} {t t' e : TypeId} {v : Value} {xs : List Int} {s : ByteArray} (hF : Fz (RT.int .u8) V v xs) (hc : strO xs = some s) (ho : ops[i]? = some o) (hd : o.dst = some d) (hg : GOk ops l o) (hop : o.op = .convert t t' x) (hx : aev (fr l) x = v)
  (hu : P.underlying t = some (.slice e)) (he : P.underlying e = some (.int .u8)) (hs : P.underlying t' = some .string) (h : WU false P G ops (i + 1) hist ((d, .string s) :: l) V.H Q) : WU false P G ops i hist l V.H Q := by
 unfold strO at hc
 split at hc
 ·rename_i hall
  cases hc
  rcases hF.1 with ⟨rfl, rfl⟩ | ⟨b, o', c, rfl, ⟨hf, hmax⟩, hel⟩
  ·exact U.p ho hd hg (S.strNil hop hx hu he hs) h
  ·refine U.k (k := .read b) ho hd hg (.l b _ (.str t t' e x b o' c (xs.map fun x : Int => UInt8.ofNat x.toNat) hop (by rw [List.length_map]; exact hx) hu he hs (fun j u hj => strCells hall hel j u hj))) nd h
 ·cases hc
end
theorem upd_id {H : AH} {b : Nat} {x : AObj} (hg : H.get b = some x) : H.upd b (some x) = H := by
 obtain ⟨g, n, lo⟩ := H
 unfold AH.upd
 congr 1
 funext i
 simp only at hg ⊢
 split
 ·rename_i e; rw [e, hg]
 ·rfl
section
variable {P : Program} {G N : Nat} {dr : Bool} {ops : Array Oper} {i : Nat} {hist : Hist} {l : List (Nat × Value)} {V : Vw} {Q : LQ} {o : Oper} {d : Tmp} {As : List At} {k : Nat}
theorem O.mark {α : Type} {R : RT α} {v : Value} {xs : List α} {x : Operand} {t e : TypeId} (ow : Ow V As) (hk : As[k]? = some (.os R v xs)) (hne : xs ≠ []) (ho : ops[i]? = some o) (hd : o.dst = some d) (hg : GOk ops l o) (hop : o.op = .convert t t x) (hx : aev (fr l) x = v)
  (hu : P.underlying t = some (.slice e)) (he : P.underlying e = some (.int .u8)) (hkk : okU dr ops i .eff V.H V.H hist) (h : WU dr P G ops (i + 1) (hadd dr (i, .eff, V.H, V.H) hist) ((d, v) :: l) V.H Q) : WU dr P G ops i hist l V.H Q := by
 obtain ⟨p0, h2, hm, ⟨_, rfl, rfl⟩ | ⟨b, o2, c, rfl, rfl, ho2, hr⟩⟩ := ow.osat hk
 ·exact absurd rfl hne
 ·obtain ⟨h5, h6, h7, h8⟩ := h2.own (b, .cells R.sz c) (by simp)
  have hs := AppOp.mark (P := P) (ρ := aev (fr l)) (H := V.H) (o := o) x t e b o2 xs.length R.sz R.sz c hop hx hu he h5 h8 (fun e => hne (List.length_eq_zero_iff.1 e))
  rw [upd_id h8, hx] at hs
  exact U.k ho hd hg (.app _ _ hs) hkk h
theorem O.strFD {x : Operand} {t t' e : TypeId} {v : Value} {xs : List Int} {s : ByteArray} (hF : Fz (RT.int .u8) V v xs) (hne : xs ≠ []) (hc : strO xs = some s) (ho : ops[i]? = some o) (hd : o.dst = some d) (hg : GOk ops l o) (hop : o.op = .convert t t' x) (hx : aev (fr l) x = v)
  (hu : P.underlying t = some (.slice e)) (he : P.underlying e = some (.int .u8)) (hs : P.underlying t' = some .string) (hkk : ∀ b, V.F b → okU dr ops i (.read b) V.H V.H hist) (h : ∀ b, V.F b → WU dr P G ops (i + 1) (hadd dr (i, .read b, V.H, V.H) hist) ((d, .string s) :: l) V.H Q) : WU dr P G ops i hist l V.H Q := by
 unfold strO at hc
 split at hc
 ·rename_i hall
  cases hc
  rcases hF.1 with ⟨rfl, rfl⟩ | ⟨b, o', c, rfl, ⟨hf, hmax⟩, hel⟩
  ·exact absurd rfl hne
  ·refine U.k (k := .read b) ho hd hg (.l b _ (.str t t' e x b o' c (xs.map fun x : Int => UInt8.ofNat x.toNat) hop (by rw [List.length_map]; exact hx) hu he hs (fun j u hj => strCells hall hel j u hj))) (hkk b hf) (h b hf)
 ·cases hc
theorem Fz.frz {α : Type} {R : RT α} {v : Value} {xs : List α} {b o n c : Nat} (h : Fz R V v xs) (hv : v = .slice (some ⟨b, o, none⟩) n c) : V.F b := by
 rcases h.1 with ⟨h1, _⟩ | ⟨b', o', c', h1, ⟨hf, _⟩, _⟩
 ·rw [hv] at h1; cases h1
 ·rw [hv] at h1; cases h1; exact hf
theorem O.litX {α : Type} {R : RT α} {ty : TypeId} {len : Nat} {parts : Array (Nat × Operand)} {e : TypeId} {z : Value} {m : Nat} {vs : List Value} {xs : List α} (ow : Ow V As) (ho : ops[i]? = some o) (hd : o.dst = some d) (hg : GOk ops l o) (hop : o.op = .buildSlice ty len parts) (hu : P.underlying ty = some (.slice e)) (hi : tinfo P e z R.sz m) (hz : constB z = true) (hs : z.cells.size = R.sz) (hn : (R.sz == 0) = false) (hlim : len * R.sz ≤ 2 ^ 24)
  (hp : parts.toList.map (·.1) = List.range' 0 len) (hv : (parts.toList.map (·.2)).map (aev (fr l)) = vs) (he : Els R V vs xs) (hk : ∀ x, okU dr ops i (.alloc V.H.next) V.H (V.H.new x) hist) (h : ∀ v V1, V.le V1 → v = .slice (some ⟨V.H.next, 0, none⟩) xs.length R.sz → Ow V1 (.os R v xs :: As) → WU dr P G ops (i + 1) (hadd dr (i, .alloc V.H.next, V.H, V1.H) hist) ((d, v) :: l) V1.H Q) : WU dr P G ops i hist l V.H Q := by
 have hl : vs.length = len := by
  rw [← hv]
  have := congrArg List.length hp
  simpa using this
 obtain ⟨c0, hc0⟩ : ∃ c0, c0 = (Array.range (len * R.sz)).map fun j => z.cells[j % z.cells.size]! := ⟨_, rfl⟩
 have hcs : c0.size = len * R.sz := by rw [hc0]; simp
 obtain ⟨r, h1, h2, h3⟩ := fill_seq R.sz vs 0 c0 (fun v hv => (he.sz v hv).1) (by rw [hl, hcs, Nat.zero_add]; exact Nat.le_refl _)
 rw [Nat.zero_mul, List.take_zero, List.nil_append, Nat.zero_add, hl, List.drop_of_length_le (by simp [hcs]), List.append_nil] at h3
 have hparts : (parts.map fun (k, x) => (k, aev (fr l) x)).toList = (List.range' 0 vs.length).zip vs := by
  rw [hl, ← hp, ← hv, Array.toList_map]
  generalize parts.toList = q
  induction q with
  | nil => rfl
  | cons p q ih => simp only [List.map_cons, List.zip_cons_cons, ih]
 refine U.buildSlice ho hd hg hop hu hi hz hs hn hlim (fun p hp' => ?_) (r := r) (by rw [hparts, ← hc0]; exact h1) (by rw [h2, hcs]) h3 (hk _) (fun b V1 n => ?_)
 ·refine (he.sz _ ?_).2
  rw [← hv, List.map_map]
  exact List.mem_map_of_mem (f := (aev (fr l)) ∘ (·.2)) hp'
 ·have hlen : xs.length = len := by rw [← he.len, hl]
  have := h (.slice (some ⟨b, 0, none⟩) xs.length R.sz) V1 n.le (by rw [n.eq]) (ow.nwos n he.rows (by
   rw [hlen]
   have h1 : 1 ≤ R.sz := Nat.pos_of_ne_zero (by simpa using hn)
   have h2 : len * 1 ≤ len * R.sz := Nat.mul_le_mul_left _ h1
   omega))
  rw [hlen, n.eq] at this
  rw [n.eq]
  exact this
theorem O.strFB {x : Operand} {t t' e : TypeId} {v : Value} {xs : List Int} {s : ByteArray} {b o' n c : Nat} (hF : Fz (RT.int .u8) V v xs) (hv : v = .slice (some ⟨b, o', none⟩) n c) (hc : strO xs = some s) (ho : ops[i]? = some o) (hd : o.dst = some d) (hg : GOk ops l o) (hop : o.op = .convert t t' x) (hx : aev (fr l) x = v)
  (hu : P.underlying t = some (.slice e)) (he : P.underlying e = some (.int .u8)) (hs : P.underlying t' = some .string) (hkk : okU dr ops i (.read b) V.H V.H hist) (h : WU dr P G ops (i + 1) (hadd dr (i, .read b, V.H, V.H) hist) ((d, .string s) :: l) V.H Q) : WU dr P G ops i hist l V.H Q := by
 unfold strO at hc
 split at hc
 ·rename_i hall
  cases hc
  rcases hF.1 with ⟨h1, _⟩ | ⟨b1, o1, c1, h1, ⟨hf, hmax⟩, hel⟩
  ·rw [hv] at h1; cases h1
  ·rw [hv] at h1; cases h1
   exact U.k (k := .read b) ho hd hg (.l b _ (.str t t' e x b o' c (xs.map fun x : Int => UInt8.ofNat x.toNat) hop (by rw [List.length_map, hx]; exact hv) hu he hs (fun j u hj => strCells hall hel j u hj))) hkk h
 ·cases hc
end
theorem S.pickB {P : Program} {C : CallRel} {o : Oper} {t : T} {H : AH} {c x y : Operand} {b p q : Bool} (ho : o.op = .pick c x y) (hc : aev t c = .bool b) (hx : aev t x = .bool p) (hy : aev t y = .bool q) : Step P C o t H .pure (.bool (cond b p q)) H := by
 cases b with
 | true => exact S.pickT ho hc hx
 | false => exact S.pickF ho hc hy
end Go.Vm
