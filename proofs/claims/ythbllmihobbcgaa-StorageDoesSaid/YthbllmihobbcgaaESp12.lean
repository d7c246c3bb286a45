/-
  Part of an evaluator for the model, proved sound: no condition.
-/
import Derived.Test.YthbllmihobbcgaaESp10
import Derived.Test.YthbllmihobbcgaaESp3
import Derived.SizedLaws
set_option linter.unusedSimpArgs false
set_option linter.unusedVariables false
namespace Go.Vm
open Go Go.RowKit
def RdW (P : Program) (t : TypeId) (sz : Nat) {α : Type} (RE : Vw → List Value → α → Prop) (OK : α → Prop) : Prop :=
 ∀ (HH : Type) (enc : TypeId × Value → HH) (w : World) (fuel : Nat) (cs : List Value) (x : DataW HH × List MemPlace), Sure w cs → DataW.trod enc P w 0 (fun _ => true) true fuel t cs = some x → (∀ n ∈ x.1.weights P t, n ≤ reachBytes) → cs.length = sz ∧ (∀ v ∈ cs, Good w v) ∧ ∃ y, RE (V0of w) (cs.map aV) y ∧ OK y
theorem Rd.w {P : Program} {t : TypeId} {sz : Nat} {α : Type} {RE : Vw → List Value → α → Prop} {OK : α → Prop} (h : Rd P t sz RE OK) : RdW P t sz RE OK :=
 fun HH enc w fuel cs x h1 h2 _ => h HH enc w fuel cs x h1 h2
theorem weightsAll_mem {HH : Type} {P : Program} {e : TypeId} {d : DataW HH} : ∀ {l : List (DataW HH)}, d ∈ l → ∀ n ∈ d.weights P e, n ∈ DataW.weightsAll P e l
 | a :: l, h, n, hn => by
  unfold DataW.weightsAll
  rw [List.mem_append]
  rcases List.mem_cons.1 h with rfl | h
  ·exact .inl hn
  ·exact .inr (weightsAll_mem h n hn)
theorem RdW.slice {P : Program} {t e : TypeId} {sz : Nat} {α : Type} {RE : Vw → List Value → α → Prop} {OK : α → Prop} (hu : P.underlying t = some (.slice e)) (hs : P.cellsOf e = sz) (hs0 : (sz == 0) = false) (hb0 : 0 < P.bytesOf e) (he : RdW P e sz RE OK) :
  RdW P t 1 (fun H cs xs => ∃ v, cs = [v] ∧ Sl sz RE H v xs) (fun xs => (∀ x ∈ xs, OK x) ∧ xs.length * P.bytesOf e ≤ reachBytes) := by
 intro HH enc w fuel cs x hsure h hwt
 cases fuel with
 | zero => cases h
 | succ fuel =>
  unfold DataW.trod at h
  rw [hu] at h
  split at h <;> rename_i h1 <;> first | cases h1 | skip
  all_goals first | (cases h; done) | skip
  ·exact ⟨rfl, fun v hv => by simp at hv; subst hv; exact Good.atom .nilSlice, [], ⟨_, rfl, .inl ⟨rfl, rfl⟩⟩, (fun x hx => by cases hx), by simp⟩
  ·rename_i a len cap
   simp only at h
   split at h
   ·rename_i hc
    obtain ⟨_, hle, hmax⟩ := hc
    obtain ⟨elems, h2, h3⟩ := Option.bind_eq_some_iff.1 h
    simp only [if_true] at h3
    obtain ⟨rest, h4, h5⟩ := Option.map_eq_some_iff.1 h3
    rw [hs] at h2 h4
    obtain ⟨hl, hg⟩ := mapM_get h2
    obtain ⟨hl2, hg2⟩ := mapM_get h4
    have hpos : 0 < w.heap.size := by
     rcases hsure with h | h
     ·exact h
     ·exact absurd rfl (h (.slice (some a) len cap) (by simp) a len cap)
    have hw1 : ∀ n ∈ (DataW.slice (elems.map (·.1)) (rest.map (·.1))).weights P t, n ≤ reachBytes := by
     subst h5; exact hwt
    have hw2 : DataW.weights P t (DataW.slice (elems.map (·.1)) (rest.map (·.1))) = ((elems.map (·.1)).length + (rest.map (·.1)).length) * P.bytesOf e :: (DataW.weightsAll P e (elems.map (·.1)) ++ DataW.weightsAll P e (rest.map (·.1))) := by
     rw [DataW.weights]
     simp only [hu]
    rw [hw2] at hw1
    have hlenb : len * P.bytesOf e ≤ reachBytes := by
     have := hw1 _ (List.mem_cons_self ..)
     rw [List.length_map, List.length_map, hl, List.length_range] at this
     exact Nat.le_trans (Nat.mul_le_mul_right _ (by omega)) this
    have hlen : len ≤ reachBytes := Nat.le_trans (by have h6 : len * 1 ≤ len * P.bytesOf e := Nat.mul_le_mul_left _ hb0; omega) hlenb
    -- each element's cells
    have key : ∀ k, k < len → ∃ cs : List Value, w.cells? 0 (a.add (k * sz)) sz = some cs ∧ (∀ v ∈ cs, Good w v) ∧ ∃ y, RE (V0of w) (cs.map aV) y ∧ OK y := by
     intro k hk
     have hk' : k < elems.length := by rw [hl]; simpa using hk
     have := hg k k _ (by simp [hk]) (List.getElem?_eq_getElem hk')
     obtain ⟨cs, h6, h7⟩ := Option.bind_eq_some_iff.1 this
     obtain ⟨h8, h9, h10⟩ := he HH enc w fuel cs _ (.inl hpos) h7 (fun n hn => hw1 n (List.mem_cons_of_mem _ (List.mem_append_left _ (weightsAll_mem (List.mem_map.2 ⟨_, List.getElem_mem hk', rfl⟩) n hn))))
     exact ⟨cs, h6, h9, h10⟩
    have hany : cap ≠ 0 → a.spot = none ∧ a.block < w.heap.size := by
     intro h0
     have hsz : sz ≠ 0 := by simpa using hs0
     by_cases hlen : len = 0
     ·have hk' : 0 < rest.length := by rw [hl2]; simp; omega
      have := hg2 0 0 _ (List.getElem?_range (by omega)) (List.getElem?_eq_getElem hk')
      obtain ⟨cs, h6, h7⟩ := Option.bind_eq_some_iff.1 this
      have := (cells_get h6).2.1 hsz
      rw [hlen, Nat.zero_add, Nat.zero_mul] at this
      simpa [Addr.add] using this
     ·obtain ⟨cs, h6, _⟩ := key 0 (by omega)
      have := (cells_get h6).2.1 hsz
      rw [Nat.zero_mul] at this
      simpa [Addr.add] using this
    by_cases h0 : cap = 0
    ·have : len = 0 := by omega
     subst h0 this
     refine ⟨rfl, fun v hv => ?_, [], ⟨_, rfl, .inr ⟨0, 0, 0, rfl, ⟨hpos, by simp⟩, fun i x hx => by simp at hx⟩⟩, (fun x hx => by cases hx), by simp⟩
     simp at hv
     subst hv
     unfold Good aV
     exact .slice 0 0 0 0 ⟨0, 0, 0, _⟩ a 0 (by unfold idI; rw [if_pos hpos]) (Nat.le_refl _) (fun h => absurd rfl h) (fun h => by omega)
    ·obtain ⟨hsp, hb⟩ := hany h0
     have hav : aV (.slice (some a) len cap) = .slice (some ⟨a.block, a.off, none⟩) len cap := by
      unfold aV
      split
      ·rename_i heq; injection heq with h1 h2 h3; exact absurd h3 h0
      ·cases a; simp at hsp; simp [hsp]
     have hgood : Good w (.slice (some a) len cap) := by
      unfold Good
      rw [hav]
      refine .slice a.block a.off len cap ⟨a.block, 0, 0, _⟩ a cap (by unfold idI; rw [if_pos hb]) hle (fun _ => ?_) (fun h => by omega)
      cases a
      simp at hsp
      simp [hsp]
     -- the list
     have hlist : ∀ n, n ≤ len → ∃ ys : List α, ys.length = n ∧ (∀ y ∈ ys, OK y) ∧ ∀ (k : Nat) (y : α), ys[k]? = some y → ∃ cs : List Value, cs.length = sz ∧ RE (V0of w) cs y ∧ ∀ (j : Nat) (u : Value), cs[j]? = some u → (H0of w).cell a.block (a.off + k * sz + j) = some u := by
      intro n
      induction n with
      | zero => exact fun _ => ⟨[], rfl, (fun y hy => nomatch hy), (fun k y hy => by simp at hy)⟩
      | succ n ih =>
       intro hn
       obtain ⟨ys, h6, h7, h8⟩ := ih (by omega)
       obtain ⟨cs, h9, h10, y, h11, h12⟩ := key n (by omega)
       obtain ⟨h13, _, h14⟩ := cells_get h9
       refine ⟨ys ++ [y], by simp [h6], fun z hz => ?_, fun k z hz => ?_⟩
       ·rcases List.mem_append.1 hz with hz | hz
        ·exact h7 z hz
        ·simp at hz; subst hz; exact h12
       ·by_cases hk : k < ys.length
        ·rw [List.getElem?_append_left hk] at hz
         exact h8 k z hz
        ·rw [List.getElem?_append_right (by omega)] at hz
         have hk' : k = n := by
          have := (List.getElem?_eq_some_iff.1 hz).1
          simp at this; omega
         subst hk'
         rw [h6, Nat.sub_self] at hz
         simp at hz
         subst hz
         refine ⟨cs.map aV, by simp [h13], h11, fun j u hu => ?_⟩
         rw [List.getElem?_map] at hu
         cases hcj : cs[j]? with
         | none => rw [hcj] at hu; cases hu
         | some v =>
          rw [hcj] at hu
          simp at hu
          subst hu
          have := h14 j v hcj
          rw [Addr.add_blk, Addr.add_off'] at this
          exact H0_cell this (h10 v (List.mem_of_getElem? hcj))
     obtain ⟨ys, h6, h7, h8⟩ := hlist len (Nat.le_refl _)
     refine ⟨rfl, fun v hv => ?_, ys, ⟨_, rfl, .inr ⟨a.block, a.off, cap, by rw [hav, h6], ⟨hb, by have : maxLen = 9223372036854775807 := rfl; omega⟩, h8⟩⟩, h7, by rw [h6]; exact hlenb⟩
     simp at hv
     subst hv
     exact hgood
   ·cases h
def OKw {α : Type} (OK : α → Prop) (xs : List α) : Prop := (∀ x ∈ xs, OK x) ∧ xs.length ≤ reachBytes
theorem RdW.sl {P : Program} {t e : TypeId} {α : Type} {R : RT α} {OK : α → Prop} (hu : P.underlying t = some (.slice e)) (hs : P.cellsOf e = R.sz) (hs0 : (R.sz == 0) = false) (hb0 : 0 < P.bytesOf e) (he : RdW P e R.sz R.rel OK) : RdW P t 1 (RT.sl R).rel (OKw OK) := by
 intro HH enc w fuel cs x hsure h hwt
 obtain ⟨h1, h2, y, ⟨v, h3, h4⟩, h5, h6⟩ := RdW.slice hu hs hs0 hb0 he HH enc w fuel cs x hsure h hwt
 refine ⟨h1, h2, y, ⟨v, h3, h4, fun b o n c e => .inr ?_⟩, h5, Nat.le_trans (by have h6 : y.length * 1 ≤ y.length * P.bytesOf e := Nat.mul_le_mul_left _ hb0; omega) h6⟩
 rcases h4 with ⟨h6, _⟩ | ⟨b', o', c', h6, ⟨h7, _⟩, _⟩
 ·rw [h6] at e; cases e
 ·rw [h6] at e; cases e
  exact h7
def OKv {α : Type} (b : Nat) (OK : α → Prop) (xs : List α) : Prop := (∀ x ∈ xs, OK x) ∧ xs.length * b ≤ reachBytes
theorem RdW.slv {P : Program} {t e : TypeId} {b : Nat} {α : Type} {R : RT α} {OK : α → Prop} (hu : P.underlying t = some (.slice e)) (hs : P.cellsOf e = R.sz) (hs0 : (R.sz == 0) = false) (hb0 : 0 < P.bytesOf e) (hbb : P.bytesOf e = b) (he : RdW P e R.sz R.rel OK) : RdW P t 1 (RT.sl R).rel (OKv b OK) := by
 intro HH enc w fuel cs x hsure h hwt
 obtain ⟨h1, h2, y, ⟨v, h3, h4⟩, h5, h6⟩ := RdW.slice hu hs hs0 hb0 he HH enc w fuel cs x hsure h hwt
 refine ⟨h1, h2, y, ⟨v, h3, h4, fun b o n c e => .inr ?_⟩, h5, hbb ▸ h6⟩
 rcases h4 with ⟨h6, _⟩ | ⟨b', o', c', h6, ⟨h7, _⟩, _⟩
 ·rw [h6] at e; cases e
 ·rw [h6] at e; cases e
  exact h7
theorem arg_cellW {P : Program} {W : World} {r : Reach} {base : Nat} {t : TypeId} {v : Value} {HH : Type} {enc : TypeId × Value → HH} {α : Type} {RE : Vw → List Value → α → Prop} {OK : α → Prop} {d : DataW HH} {ps : List MemPlace}
  (h0 : ∀ fs, P.underlying t ≠ some (.struct fs)) (h00 : ∀ n e, P.underlying t ≠ some (.array n e)) (hok : Value.okWide P W r base t v) (hrd : RdW P t 1 RE OK) (ht : DataW.Trod enc P W 0 (fun _ => true) true t v d ps) (hwt : ∀ n ∈ d.weights P t, n ≤ reachBytes) :
  (∀ u ∈ v.cells.toList, Good W u) ∧ ∃ y, RE (V0of W) [aA v] y ∧ OK y := by
 obtain ⟨fuel, hf⟩ := ht
 obtain ⟨_, h1, y, h2, h3⟩ := hrd HH enc W fuel _ _ (okWide_sure hok) hf hwt
 have hna : ∀ xs, v ≠ .agg xs := by
  rintro xs rfl
  unfold Value.okWide at hok
  split at hok
  ·rename_i h; exact h0 _ h
  ·rename_i h; exact h00 _ _ h
  ·exact cell_noagg hok
 have h4 : v.cells = #[v] := by cases v <;> first | rfl | exact absurd rfl (hna _)
 have h5 : Go.Vm.aA v = aV v := by cases v <;> first | rfl | exact absurd rfl (hna _)
 refine ⟨h1, y, ?_, h3⟩
 rw [h4] at h2
 rw [h5]
 exact h2
theorem sized_at {HH : Type} {P : Program} {ts : List TypeId} {ds : List (DataW HH)} (h : (DataW.weightsEach P ts ds).all (· ≤ reachBytes) = true) {j : Nat} {t : TypeId} {d : DataW HH} (ht : ts[j]? = some t) (hd : ds[j]? = some d) : ∀ n ∈ d.weights P t, n ≤ reachBytes := by
 intro n hn
 have := List.all_eq_true.1 h n (DataW.weights_mem_each ht hd n hn)
 simpa using this
theorem fillA {place : Nat → Option (Nat × Nat)} {cells ws : List Value} {i off n : Nat} {v : Value} {rest : List (Nat × Value)} {r : Option (Array Value)} (hp : place i = some (off, n)) (hc : v.cells = ws.toArray) (hn : ws.length = n) (hs : off + n ≤ cells.length) (h : Instr.fill place (cells.take off ++ ws ++ cells.drop (off + n)).toArray rest = r) : Instr.fill place cells.toArray ((i, v) :: rest) = r := by
 subst hn
 have h1 := foldl_put off ws 0 cells.toArray (by simpa using hs)
 unfold Instr.fill
 rw [hp]
 simp only [hc]
 rw [if_neg (by simp; omega)]
 rw [← h]
 congr 1
 apply Array.ext'
 have e : (ws.toArray.zipIdx) = (ws.zipIdx).toArray := by apply Array.ext'; rw [Array.toList_zipIdx]
 rw [← Array.foldl_toList, e]
 simpa using h1
theorem nr {a b : Nat} (h : Nat.ble a b = true) : a ≤ b := Nat.le_of_ble_eq_true h
end Go.Vm
namespace Go.Vm
open Go
theorem nT {b : Bool} (h : (!b) = true) : b = false := by cases b <;> simp_all
theorem nF {b : Bool} (h : (!b) = false) : b = true := by cases b <;> simp_all
def strBytes (s : ByteArray) : List Int := s.data.toList.map fun b => (b.toNat : Int)
def bytesO (s : ByteArray) : Option (List Int) := if s.size ≤ 16777216 then some (strBytes s) else none
def catO (a b : ByteArray) : Option ByteArray := if a.size + b.size ≤ 9223372036854775807 then some (a ++ b) else none
def andNotB (k : IntKind) (x y : Int) : Int := k.wrap (BitVec.ofInt k.bits x &&& ~~~ BitVec.ofInt k.bits y).toNat
theorem S.andNotI {P : Program} {C : CallRel} {o : Oper} {t : T} {H : AH} {ty u : TypeId} {x y : Operand} {k : IntKind} {a b : Int} (ho : o.op = .binOp .andNot ty x y u) (hx : aev t x = .int k a) (hy : aev t y = .int k b) : Step P C o t H .pure (.int k (andNotB k a b)) H :=
 S.flat2 ho hx hy (.atom _ (.int _ _)) (.atom _ (.int _ _)) (.atom _ (.int _ _)) (fun w => by simp [binOp, Op.intBits, andNotB]) S.guard_int
theorem S.addS {P : Program} {C : CallRel} {o : Oper} {t : T} {H : AH} {ty u : TypeId} {x y : Operand} {a b c : ByteArray} (hc : catO a b = some c) (ho : o.op = .binOp .add ty x y u) (hx : aev t x = .string a) (hy : aev t y = .string b) : Step P C o t H .pure (.string c) H := by
 unfold catO at hc
 split at hc
 ·rename_i h0
  cases hc
  have h1 : ¬ (((a.size + b.size : Nat) : Int) > IntKind.i64.max) := by
   have : IntKind.i64.max = 9223372036854775807 := by decide
   omega
  exact S.flat2 ho hx hy (.atom _ (.string _)) (.atom _ (.string _)) (.atom _ (.string _)) (fun w => by simp only [binOp, Op.stringOp]; rw [if_neg h1]; simp) S.guard_str
 ·cases hc
section
variable {P : Program} {G N : Nat} {dr : Bool} {ops : Array Oper} {i : Nat} {hist : Hist} {l : List (Nat × Value)} {V : Vw} {Q : LQ} {o : Oper} {d : Tmp} {As : List At} {k : Nat}
theorem rows_bytes (V : Vw) : ∀ l : List UInt8, Rows (RT.int .u8).rel V (l.map fun b => Value.int .u8 b.toNat) (l.map fun b => (b.toNat : Int))
 | [] => .nil
 | b :: l => .cons [_] _ _ _ rfl (rows_bytes V l)
theorem strBytes_len (s : ByteArray) : (strBytes s).length = s.size := by unfold strBytes; rw [List.length_map]; rfl
theorem O.bytes {x : Operand} {t t' e : TypeId} {s : ByteArray} {zs : List Int} {dd : TypeDesc} (ow : Ow V As) (ho : ops[i]? = some o) (hd : o.dst = some d) (hg : GOk ops l o) (hop : o.op = .convert t t' x) (hx : aev (fr l) x = .string s) (hs : P.underlying t = some dd) (hu : P.underlying t' = some (.slice e)) (he : P.underlying e = some (.int .u8)) (hb : bytesO s = some zs)
  (hk : ∀ y, okU dr ops i .eff V.H (V.H.new y) hist) (h : ∀ v V1, V.le V1 → Ow V1 (.os (RT.int .u8) v zs :: As) → WU dr P G ops (i + 1) (hadd dr (i, .eff, V.H, V1.H) hist) ((d, v) :: l) V1.H Q) : WU dr P G ops i hist l V.H Q := by
 unfold bytesO at hb
 split at hb
 ·rename_i hl
  cases hb
  refine U.k ho hd hg (.app _ _ (.bytes x t t' e dd s hop hx hs hu he)) (hk _) ?_
  have nw : Nw V V.H.next (V.new _) (.cells 1 (s.data.toList.map fun b => .int .u8 b.toNat)) := ⟨rfl, rfl⟩
  have := h (.slice (some ⟨V.H.next, 0, none⟩) (strBytes s).length 1) _ nw.le (ow.nwos (R := RT.int .u8) nw (rows_bytes V s.data.toList) (by rw [strBytes_len]; omega))
  rw [strBytes_len] at this
  exact this
 ·cases hb
end
def Ga {α : Type} (R : RT α) (g : Nat) (V : Vw) (xs : List α) : Prop := Fz R V (.slice (some ⟨g, 0, none⟩) xs.length xs.length) xs
section
variable {P : Program} {fn : Func} {Post : Value → AH → Prop} {e : VX} {l : List (Nat × Value)} {H : AH} {s : Tmp} {ty : TypeId} {b off : Nat} {d : TypeDesc} {v : Value}
theorem res0 : ResAll P (fr l) H [] [] := .nil
theorem resT {rs vs} (hv : aev (fr l) (.tmp s) = v) (h : ResAll P (fr l) H rs vs) : ResAll P (fr l) H (.tmp s :: rs) (v :: vs) := by
 subst hv
 exact .cons _ _ _ _ (.tmp s) h
theorem resC {rs vs} (hx : aev (fr l) (.tmp s) = .pointer (some ⟨b, off, none⟩)) (hu : P.underlying ty = some d) (ha : isAggD d = false) (hc : H.cell b off = some v) (h : ResAll P (fr l) H rs vs) : ResAll P (fr l) H (.cell s ty :: rs) (v :: vs) :=
 .cons _ _ _ _ (.cell s ty b v (.load1 ty (.tmp s) b off d v rfl hx hu ha hc)) h
theorem resA {rs vs} {ez : Nat} {cs : List Value} {z : Value} {n m : Nat} (hx : aev (fr l) (.tmp s) = .pointer (some ⟨b, 0, none⟩)) (hu : P.underlying ty = some d) (ha : isAggD d = true)
  (hi : tinfo P ty z n m) (hg : H.get b = some (.cells ez cs)) (hl : cs.length = n) (h : ResAll P (fr l) H rs vs) : ResAll P (fr l) H (.cell s ty :: rs) (.agg cs.toArray :: vs) := by
 obtain ⟨i, h1, h2, h3, h4⟩ := tinfo_get hi
 exact .cons _ _ _ _ (.cell s ty b _ (.loadN ty (.tmp s) b 0 d cs i rfl hx hu ha h1 (by omega) (fun j v hj => by rw [Nat.zero_add]; exact S.cellB hg hj))) h
theorem fin.mix {rs vs} (he : e = .normal ∨ e = .ret) (hm : ResAll P (fr l) H rs vs) (hr : fn.results.toList = rs) (h : Post (resV vs) H) : fin P fn Post e l H := ⟨he, vs, hr ▸ hm, h⟩
end
end Go.Vm
