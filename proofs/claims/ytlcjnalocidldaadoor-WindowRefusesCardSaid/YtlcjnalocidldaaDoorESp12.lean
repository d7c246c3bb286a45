/-
  Part of an evaluator for the model, proved sound: no condition.
-/
import Derived.Test.YtlcjnalocidldaaDoorESp10
import Derived.Test.YtlcjnalocidldaaDoorESp3
import Derived.SizedLaws
set_option linter.unusedSimpArgs false
set_option linter.unusedVariables false
namespace Go.Vm
open Go Go.RowKit
def RdW (P : Program) (t : TypeId) (sz : Nat) {α : Type} (RE : Vw → List Value → α → Prop) (OK : α → Prop) : Prop :=
 ∀ (HH : Type) (enc : TypeId × Value → HH) (w : World) (fuel : Nat) (cs : List Value) (x : DataW HH × List MemPlace), Sure w cs → DataW.trod enc P w 0 (fun _ => true) true fuel t cs = some x → (∀ n ∈ x.1.weights P t, n ≤ reachBytes) → cs.length = sz ∧ (∀ v ∈ cs, Good w v) ∧ ∃ y, RE (V0of w) (cs.map aV) y ∧ OK y
theorem Rd.w {P : Program} {t : TypeId} {sz : Nat} {α : Type} {RE : Vw → List Value → α → Prop} {OK : α → Prop} (h : Rd P t sz RE OK) : RdW P t sz RE OK :=
 fun HH enc w fuel cs x h1 h2 _ => h HH enc w fuel cs x h1 h2
theorem weightsAll_mem {HH : Type} {P : Program} {e : TypeId} {d : DataW HH} : ∀ {l : List (DataW HH)}, d ∈ l → ∀ n ∈ d.weights P e, n ∈ DataW.weightsAll P e l
 | a :: l, h, n, hn => by
  unfold DataW.weightsAll
  rw [List.mem_append]
  rcases List.mem_cons.1 h with rfl | h
  ·exact .inl hn
  ·exact .inr (weightsAll_mem h n hn)
theorem RdW.slice {P : Program} {t e : TypeId} {sz : Nat} {α : Type} {RE : Vw → List Value → α → Prop} {OK : α → Prop} (hu : P.underlying t = some (.slice e)) (hs : P.cellsOf e = sz) (hs0 : (sz == 0) = false) (hb0 : 0 < P.bytesOf e) (he : RdW P e sz RE OK) :
  RdW P t 1 (fun H cs xs => ∃ v, cs = [v] ∧ Sl sz RE H v xs) (fun xs => (∀ x ∈ xs, OK x) ∧ xs.length * P.bytesOf e ≤ reachBytes) := by
 intro HH enc w fuel cs x hsure h hwt
 cases fuel with
 | zero => cases h
 | succ fuel =>
  unfold DataW.trod at h
  rw [hu] at h
  split at h <;> rename_i h1 <;> first | cases h1 | skip
  all_goals first | (cases h; done) | skip
  ·exact ⟨rfl, fun v hv => by simp at hv; subst hv; exact Good.atom .nilSlice, [], ⟨_, rfl, .inl ⟨rfl, rfl⟩⟩, (fun x hx => by cases hx), by simp⟩
  ·rename_i a len cap
   simp only at h
   split at h
   ·rename_i hc
    obtain ⟨_, hle, hmax⟩ := hc
    obtain ⟨elems, h2, h3⟩ := Option.bind_eq_some_iff.1 h
    simp only [if_true] at h3
    obtain ⟨rest, h4, h5⟩ := Option.map_eq_some_iff.1 h3
    rw [hs] at h2 h4
    obtain ⟨hl, hg⟩ := mapM_get h2
    obtain ⟨hl2, hg2⟩ := mapM_get h4
    have hpos : 0 < w.heap.size := by
     rcases hsure with h | h
     ·exact h
     ·exact absurd rfl (h (.slice (some a) len cap) (by simp) a len cap)
    have hw1 : ∀ n ∈ (DataW.slice (elems.map (·.1)) (rest.map (·.1))).weights P t, n ≤ reachBytes := by
     subst h5; exact hwt
    have hw2 : DataW.weights P t (DataW.slice (elems.map (·.1)) (rest.map (·.1))) = ((elems.map (·.1)).length + (rest.map (·.1)).length) * P.bytesOf e :: (DataW.weightsAll P e (elems.map (·.1)) ++ DataW.weightsAll P e (rest.map (·.1))) := by
     rw [DataW.weights]
     simp only [hu]
    rw [hw2] at hw1
    have hlenb : len * P.bytesOf e ≤ reachBytes := by
     have := hw1 _ (List.mem_cons_self ..)
     rw [List.length_map, List.length_map, hl, List.length_range] at this
     exact Nat.le_trans (Nat.mul_le_mul_right _ (by omega)) this
    have hlen : len ≤ reachBytes := Nat.le_trans (by have h6 : len * 1 ≤ len * P.bytesOf e := Nat.mul_le_mul_left _ hb0; omega) hlenb
    -- each element's cells
    have key : ∀ k, k < len → ∃ cs : List Value, w.cells? 0 (a.add (k * sz)) sz = some cs ∧ (∀ v ∈ cs, Good w v) ∧ ∃ y, RE (V0of w) (cs.map aV) y ∧ OK y := by
     intro k hk
     have hk' : k < elems.length := by rw [hl]; simpa using hk
     have := hg k k _ (by simp [hk]) (List.getElem?_eq_getElem hk')
     obtain ⟨cs, h6, h7⟩ := Option.bind_eq_some_iff.1 this
     obtain ⟨h8, h9, h10⟩ := he HH enc w fuel cs _ (.inl hpos) h7 (fun n hn => hw1 n (List.mem_cons_of_mem _ (List.mem_append_left _ (weightsAll_mem (List.mem_map.2 ⟨_, List.getElem_mem hk', rfl⟩) n hn))))
     exact ⟨cs, h6, h9, h10⟩
    have hany : cap ≠ 0 → a.spot = none ∧ a.block < w.heap.size := by
     intro h0
     have hsz : sz ≠ 0 := by simpa using hs0
     by_cases hlen : len = 0
     ·have hk' : 0 < rest.length := by rw [hl2]; simp; omega
      have := hg2 0 0 _ (List.getElem?_range (by omega)) (List.getElem?_eq_getElem hk')
      obtain ⟨cs, h6, h7⟩ := Option.bind_eq_some_iff.1 this
      have := (cells_get h6).2.1 hsz
      rw [hlen, Nat.zero_add, Nat.zero_mul] at this
      simpa [Addr.add] using this
     ·obtain ⟨cs, h6, _⟩ := key 0 (by omega)
      have := (cells_get h6).2.1 hsz
      rw [Nat.zero_mul] at this
      simpa [Addr.add] using this
    by_cases h0 : cap = 0
    ·have : len = 0 := by omega
     subst h0 this
     refine ⟨rfl, fun v hv => ?_, [], ⟨_, rfl, .inr ⟨0, 0, 0, rfl, ⟨hpos, by simp⟩, fun i x hx => by simp at hx⟩⟩, (fun x hx => by cases hx), by simp⟩
     simp at hv
     subst hv
     unfold Good aV
     exact .slice 0 0 0 0 ⟨0, 0, 0, _⟩ a 0 (by unfold idI; rw [if_pos hpos]) (Nat.le_refl _) (fun h => absurd rfl h) (fun h => by omega)
    ·obtain ⟨hsp, hb⟩ := hany h0
     have hav : aV (.slice (some a) len cap) = .slice (some ⟨a.block, a.off, none⟩) len cap := by
      unfold aV
      split
      ·rename_i heq; injection heq with h1 h2 h3; exact absurd h3 h0
      ·cases a; simp at hsp; simp [hsp]
     have hgood : Good w (.slice (some a) len cap) := by
      unfold Good
      rw [hav]
      refine .slice a.block a.off len cap ⟨a.block, 0, 0, _⟩ a cap (by unfold idI; rw [if_pos hb]) hle (fun _ => ?_) (fun h => by omega)
      cases a
      simp at hsp
      simp [hsp]
     -- the list
     have hlist : ∀ n, n ≤ len → ∃ ys : List α, ys.length = n ∧ (∀ y ∈ ys, OK y) ∧ ∀ (k : Nat) (y : α), ys[k]? = some y → ∃ cs : List Value, cs.length = sz ∧ RE (V0of w) cs y ∧ ∀ (j : Nat) (u : Value), cs[j]? = some u → (H0of w).cell a.block (a.off + k * sz + j) = some u := by
      intro n
      induction n with
      | zero => exact fun _ => ⟨[], rfl, (fun y hy => nomatch hy), (fun k y hy => by simp at hy)⟩
      | succ n ih =>
       intro hn
       obtain ⟨ys, h6, h7, h8⟩ := ih (by omega)
       obtain ⟨cs, h9, h10, y, h11, h12⟩ := key n (by omega)
       obtain ⟨h13, _, h14⟩ := cells_get h9
       refine ⟨ys ++ [y], by simp [h6], fun z hz => ?_, fun k z hz => ?_⟩
       ·rcases List.mem_append.1 hz with hz | hz
        ·exact h7 z hz
        ·simp at hz; subst hz; exact h12
       ·by_cases hk : k < ys.length
        ·rw [List.getElem?_append_left hk] at hz
         exact h8 k z hz
        ·rw [List.getElem?_append_right (by omega)] at hz
         have hk' : k = n := by
          have := (List.getElem?_eq_some_iff.1 hz).1
          simp at this; omega
         subst hk'
         rw [h6, Nat.sub_self] at hz
         simp at hz
         subst hz
         refine ⟨cs.map aV, by simp [h13], h11, fun j u hu => ?_⟩
         rw [List.getElem?_map] at hu
         cases hcj : cs[j]? with
         | none => rw [hcj] at hu; cases hu
         | some v =>
          rw [hcj] at hu
          simp at hu
          subst hu
          have := h14 j v hcj
          rw [Addr.add_blk, Addr.add_off'] at this
          exact H0_cell this (h10 v (List.mem_of_getElem? hcj))
     obtain ⟨ys, h6, h7, h8⟩ := hlist len (Nat.le_refl _)
     refine ⟨rfl, fun v hv => ?_, ys, ⟨_, rfl, .inr ⟨a.block, a.off, cap, by rw [hav, h6], ⟨hb, by have : maxLen = 9223372036854775807 := rfl; omega⟩, h8⟩⟩, h7, by rw [h6]; exact hlenb⟩
     simp at hv
     subst hv
     exact hgood
   ·cases h
def OKv {α : Type} (b : Nat) (OK : α → Prop) (xs : List α) : Prop := (∀ x ∈ xs, OK x) ∧ xs.length * b ≤ reachBytes
theorem RdW.slv {P : Program} {t e : TypeId} {b : Nat} {α : Type} {R : RT α} {OK : α → Prop} (hu : P.underlying t = some (.slice e)) (hs : P.cellsOf e = R.sz) (hs0 : (R.sz == 0) = false) (hb0 : 0 < P.bytesOf e) (hbb : P.bytesOf e = b) (he : RdW P e R.sz R.rel OK) : RdW P t 1 (RT.sl R).rel (OKv b OK) := by
 intro HH enc w fuel cs x hsure h hwt
 obtain ⟨h1, h2, y, ⟨v, h3, h4⟩, h5, h6⟩ := RdW.slice hu hs hs0 hb0 he HH enc w fuel cs x hsure h hwt
 refine ⟨h1, h2, y, ⟨v, h3, h4, fun b o n c e => .inr ?_⟩, h5, hbb ▸ h6⟩
 rcases h4 with ⟨h6, _⟩ | ⟨b', o', c', h6, ⟨h7, _⟩, _⟩
 ·rw [h6] at e; cases e
 ·rw [h6] at e; cases e
  exact h7
theorem arg_cellW {P : Program} {W : World} {r : Reach} {base : Nat} {t : TypeId} {v : Value} {HH : Type} {enc : TypeId × Value → HH} {α : Type} {RE : Vw → List Value → α → Prop} {OK : α → Prop} {d : DataW HH} {ps : List MemPlace}
  (h0 : ∀ fs, P.underlying t ≠ some (.struct fs)) (h00 : ∀ n e, P.underlying t ≠ some (.array n e)) (hok : Value.okWide P W r base t v) (hrd : RdW P t 1 RE OK) (ht : DataW.Trod enc P W 0 (fun _ => true) true t v d ps) (hwt : ∀ n ∈ d.weights P t, n ≤ reachBytes) :
  (∀ u ∈ v.cells.toList, Good W u) ∧ ∃ y, RE (V0of W) [aA v] y ∧ OK y := by
 obtain ⟨fuel, hf⟩ := ht
 obtain ⟨_, h1, y, h2, h3⟩ := hrd HH enc W fuel _ _ (okWide_sure hok) hf hwt
 have hna : ∀ xs, v ≠ .agg xs := by
  rintro xs rfl
  unfold Value.okWide at hok
  split at hok
  ·rename_i h; exact h0 _ h
  ·rename_i h; exact h00 _ _ h
  ·exact cell_noagg hok
 have h4 : v.cells = #[v] := by cases v <;> first | rfl | exact absurd rfl (hna _)
 have h5 : Go.Vm.aA v = aV v := by cases v <;> first | rfl | exact absurd rfl (hna _)
 refine ⟨h1, y, ?_, h3⟩
 rw [h4] at h2
 rw [h5]
 exact h2
theorem sized_at {HH : Type} {P : Program} {ts : List TypeId} {ds : List (DataW HH)} (h : (DataW.weightsEach P ts ds).all (· ≤ reachBytes) = true) {j : Nat} {t : TypeId} {d : DataW HH} (ht : ts[j]? = some t) (hd : ds[j]? = some d) : ∀ n ∈ d.weights P t, n ≤ reachBytes := by
 intro n hn
 have := List.all_eq_true.1 h n (DataW.weights_mem_each ht hd n hn)
 simpa using this
theorem fillA {place : Nat → Option (Nat × Nat)} {cells ws : List Value} {i off n : Nat} {v : Value} {rest : List (Nat × Value)} {r : Option (Array Value)} (hp : place i = some (off, n)) (hc : v.cells = ws.toArray) (hn : ws.length = n) (hs : off + n ≤ cells.length) (h : Instr.fill place (cells.take off ++ ws ++ cells.drop (off + n)).toArray rest = r) : Instr.fill place cells.toArray ((i, v) :: rest) = r := by
 subst hn
 have h1 := foldl_put off ws 0 cells.toArray (by simpa using hs)
 unfold Instr.fill
 rw [hp]
 simp only [hc]
 rw [if_neg (by simp; omega)]
 rw [← h]
 congr 1
 apply Array.ext'
 have e : (ws.toArray.zipIdx) = (ws.zipIdx).toArray := by apply Array.ext'; rw [Array.toList_zipIdx]
 rw [← Array.foldl_toList, e]
 simpa using h1
theorem nr {a b : Nat} (h : Nat.ble a b = true) : a ≤ b := Nat.le_of_ble_eq_true h
end Go.Vm
namespace Go.Vm
open Go
theorem nT {b : Bool} (h : (!b) = true) : b = false := by cases b <;> simp_all
theorem nF {b : Bool} (h : (!b) = false) : b = true := by cases b <;> simp_all
def strBytes (s : ByteArray) : List Int := s.data.toList.map fun b => (b.toNat : Int)
def bytesO (s : ByteArray) : Option (List Int) := if s.size ≤ 16777216 then some (strBytes s) else none
def andNotB (k : IntKind) (x y : Int) : Int := k.wrap (BitVec.ofInt k.bits x &&& ~~~ BitVec.ofInt k.bits y).toNat
theorem S.andNotI {P : Program} {C : CallRel} {o : Oper} {t : T} {H : AH} {ty u : TypeId} {x y : Operand} {k : IntKind} {a b : Int} (ho : o.op = .binOp .andNot ty x y u) (hx : aev t x = .int k a) (hy : aev t y = .int k b) : Step P C o t H .pure (.int k (andNotB k a b)) H :=
 S.flat2 ho hx hy (.atom _ (.int _ _)) (.atom _ (.int _ _)) (.atom _ (.int _ _)) (fun w => by simp [binOp, Op.intBits, andNotB]) S.guard_int
section
variable {P : Program} {G N : Nat} {dr : Bool} {ops : Array Oper} {i : Nat} {hist : Hist} {l : List (Nat × Value)} {V : Vw} {Q : LQ} {o : Oper} {d : Tmp} {As : List At} {k : Nat}
theorem rows_bytes (V : Vw) : ∀ l : List UInt8, Rows (RT.int .u8).rel V (l.map fun b => Value.int .u8 b.toNat) (l.map fun b => (b.toNat : Int))
 | [] => .nil
 | b :: l => .cons [_] _ _ _ rfl (rows_bytes V l)
theorem strBytes_len (s : ByteArray) : (strBytes s).length = s.size := by unfold strBytes; rw [List.length_map]; rfl
theorem O.bytes {x : Operand} {t t' e : TypeId} {s : ByteArray} {zs : List Int} {dd : TypeDesc} (ow : Ow V As) (ho : ops[i]? = some o) (hd : o.dst = some d) (hg : GOk ops l o) (hop : o.op = .convert t t' x) (hx : aev (fr l) x = .string s) (hs : P.underlying t = some dd) (hu : P.underlying t' = some (.slice e)) (he : P.underlying e = some (.int .u8)) (hb : bytesO s = some zs)
  (hk : ∀ y, okU dr ops i .eff V.H (V.H.new y) hist) (h : ∀ v V1, V.le V1 → Ow V1 (.os (RT.int .u8) v zs :: As) → WU dr P G ops (i + 1) (hadd dr (i, .eff, V.H, V1.H) hist) ((d, v) :: l) V1.H Q) : WU dr P G ops i hist l V.H Q := by
 unfold bytesO at hb
 split at hb
 ·rename_i hl
  cases hb
  refine U.k ho hd hg (.app _ _ (.bytes x t t' e dd s hop hx hs hu he)) (hk _) ?_
  have nw : Nw V V.H.next (V.new _) (.cells 1 (s.data.toList.map fun b => .int .u8 b.toNat)) := ⟨rfl, rfl⟩
  have := h (.slice (some ⟨V.H.next, 0, none⟩) (strBytes s).length 1) _ nw.le (ow.nwos (R := RT.int .u8) nw (rows_bytes V s.data.toList) (by rw [strBytes_len]; omega))
  rw [strBytes_len] at this
  exact this
 ·cases hb
end
section
variable {P : Program} {fn : Func} {Post : Value → AH → Prop} {e : VX} {l : List (Nat × Value)} {H : AH} {s : Tmp} {ty : TypeId} {b off : Nat} {d : TypeDesc} {v : Value}
theorem res0 : ResAll P (fr l) H [] [] := .nil
theorem resT {rs vs} (hv : aev (fr l) (.tmp s) = v) (h : ResAll P (fr l) H rs vs) : ResAll P (fr l) H (.tmp s :: rs) (v :: vs) := by
 subst hv
 exact .cons _ _ _ _ (.tmp s) h
theorem resA {rs vs} {ez : Nat} {cs : List Value} {z : Value} {n m : Nat} (hx : aev (fr l) (.tmp s) = .pointer (some ⟨b, 0, none⟩)) (hu : P.underlying ty = some d) (ha : isAggD d = true)
  (hi : tinfo P ty z n m) (hg : H.get b = some (.cells ez cs)) (hl : cs.length = n) (h : ResAll P (fr l) H rs vs) : ResAll P (fr l) H (.cell s ty :: rs) (.agg cs.toArray :: vs) := by
 obtain ⟨i, h1, h2, h3, h4⟩ := tinfo_get hi
 exact .cons _ _ _ _ (.cell s ty b _ (.loadN ty (.tmp s) b 0 d cs i rfl hx hu ha h1 (by omega) (fun j v hj => by rw [Nat.zero_add]; exact S.cellB hg hj))) h
theorem fin.mix {rs vs} (he : e = .normal ∨ e = .ret) (hm : ResAll P (fr l) H rs vs) (hr : fn.results.toList = rs) (h : Post (resV vs) H) : fin P fn Post e l H := ⟨he, vs, hr ▸ hm, h⟩
end
end Go.Vm
namespace Go.Vm
open Go
namespace S
variable {P : Program} {C : CallRel} {o : Oper} {t : T} {H : AH}
theorem eqIn_nilP {ty e : TypeId} (hu : P.underlying ty = some (.pointer e)) (d : Nat) (w : World) : (Op.equalIn (d + 1) ty (.pointer none) (.pointer none)).run P w = .ok true w := by
 simp [Op.equalIn, run_und hu]
theorem nilPP {x y : Operand} {ty u e : TypeId} (ho : o.op = .binOp .eql ty x y u) (hx : aev t x = .pointer none) (hy : aev t y = .pointer none) (hu : P.underlying ty = some (.pointer e)) : Step P C o t H .pure (.bool true) H := by
 refine flat2 ho hx hy (.atom _ .nilPtr) (.atom _ .nilPtr) (.atom _ (.bool _)) (fun w => ?_) (fun w => ?_)
 ·simp only [binOp]; simp [Op.equal, Op.maxDepth, eqIn_nilP hu 9999]
 ·simp [eqGuard]
theorem nilPN {x y : Operand} {ty u e : TypeId} (ho : o.op = .binOp .neq ty x y u) (hx : aev t x = .pointer none) (hy : aev t y = .pointer none) (hu : P.underlying ty = some (.pointer e)) : Step P C o t H .pure (.bool false) H := by
 refine flat2 ho hx hy (.atom _ .nilPtr) (.atom _ .nilPtr) (.atom _ (.bool _)) (fun w => ?_) (fun w => ?_)
 ·simp only [binOp]; simp [Op.equal, Op.maxDepth, eqIn_nilP hu 9999]
 ·simp [eqGuard]
end S
end Go.Vm
namespace Go.Vm
open Go
theorem Rows.tk {α : Type} {R : RT α} {V : Vw} : ∀ {n : Nat} {cs : List Value} {ys : List α}, Rows R.rel V cs ys → Rows R.rel V (cs.take (n * R.sz)) (ys.take n)
 | 0, cs, ys, h => by simp; exact .nil
 | n + 1, cs, ys, h => by
  cases h with
  | nil => simp; exact .nil
  | cons r cs x xs h h' =>
   have hl : r.length = R.sz := R.ty.len _ _ _ h
   rw [List.take_succ_cons, Nat.add_mul, Nat.one_mul, Nat.add_comm, ← hl, List.take_length_add_append, hl]
   exact .cons _ _ _ _ h (Rows.tk h')
def Apt {α : Type} (v0 : Value) (ys : List α) (sz : Nat) (v : Value) (zs : List α) : Prop :=
 zs <+: ys ∧ ((v = .slice none 0 0 ∧ zs = []) ∨ ∃ b o n, v0 = .slice (some ⟨b, o, none⟩) n sz ∧ v = .slice (some ⟨b, o, none⟩) zs.length sz)
section
variable {α : Type} {v0 : Value} {ys : List α} {sz : Nat} {v : Value} {zs : List α}
theorem Apt.len (h : Apt v0 ys sz v zs) {P : Program} {C : CallRel} {o : Oper} {t : T} {H1 : AH} {x : Operand} {ty e : TypeId}
  (ho : o.op = .call { callee := .builtin .len, args := #[x], argTypes := #[ty] }) (hx : aev t x = v) (hu : P.underlying ty = some (.slice e)) : Step P C o t H1 .pure (.int .i64 zs.length) H1 := by
 rcases h with ⟨_, ⟨rfl, rfl⟩ | ⟨_, _, _, _, rfl⟩⟩
 ·exact S.lenNil ho hx hu
 ·exact S.len ho hx hu
theorem Apt.at (h : Apt v0 ys sz v zs) {j : Int} {x : α} (hx : ix zs j = some x) : ∃ (b o n : Nat), v0 = .slice (some ⟨b, o, none⟩) n sz ∧ v = .slice (some ⟨b, o, none⟩) zs.length sz ∧ ix ys j = some x := by
 have h6 := ix_ge hx
 have h7 := ix_get hx
 rcases h with ⟨h5, ⟨_, rfl⟩ | ⟨b, o, n, h1, h2⟩⟩
 ·simp at h7
 ·refine ⟨b, o, n, h1, h2, ?_⟩
  unfold ix
  rw [if_pos h6]
  obtain ⟨t, rfl⟩ := h5
  rw [List.getElem?_append_left (List.getElem?_eq_some_iff.1 h7).1, h7]
theorem Apt.of {xs : List α} {eh : Int} (hc : cutL xs 0 eh = some zs) (ha : (v = .slice none 0 0 ∧ zs = []) ∨ ∃ b o n, v0 = .slice (some ⟨b, o, none⟩) n sz ∧ v = .slice (some ⟨b, o, none⟩) zs.length sz) : Apt v0 xs sz v zs := by
 obtain ⟨a, c, h3, h4, h5, h6, rfl⟩ := cutL_eq hc
 have ha' : a = 0 := by omega
 subst ha'
 exact ⟨by simpa using List.take_prefix c xs, ha⟩
end
section
variable {P : Program} {G N : Nat} {ops : Array Oper} {i : Nat} {hist : Hist} {l : List (Nat × Value)} {V : Vw} {Q : LQ} {o : Oper} {d : Tmp} {As : List At} {k : Nat}
theorem O.cutE {α : Type} {R : RT α} {v : Value} {xs ys : List α} {eh : Int} {ty e : TypeId} {x y : Operand} {kk : IntKind} {z : Value} {m : Nat} (ow : Ow V As) (hk0 : As[k]? = some (.os R v xs)) (hc : cutL xs 0 eh = some ys) (ho : ops[i]? = some o) (hd : o.dst = some d) (hg : GOk ops l o)
  (hop : o.op = .slice ty x none (some y) none) (hx : aev (fr l) x = v) (hy : aev (fr l) y = .int kk eh) (hu : P.underlying ty = some (.slice e)) (hi : tinfo P e z R.sz m)
  (h : ∀ V1 v', V.le V1 → Ow V1 (As.set k (.os R v' ys)) → WU false P G ops (i + 1) hist ((d, v') :: l) V1.H Q) : WU false P G ops i hist l V.H Q := by
 obtain ⟨i0, j, h1, h2, h3, h4, h5⟩ := cutL_eq hc
 have : i0 = 0 := by omega
 subst this
 have hyl : ys.length = j := by rw [h5]; simp; omega
 have hys : ys = xs.take j := by rw [h5]; simp
 obtain ⟨p, q1, q2, q3⟩ := Ow.chg (Bs := [.os R v xs]) (ow.pick k hk0)
 obtain ⟨p1, p2, rfl, q4, q5⟩ := q2.split
 cases q5
 obtain ⟨q, h6, h7, h8, h9⟩ := tinfo_get hi
 rcases q4 with ⟨hmax, ⟨rfl, rfl, rfl⟩ | ⟨b, o', cs, rfl, rfl, ho', hr⟩⟩
 ·have hj0 : j = 0 := by simp at h4; omega
  subst hj0
  have hy0 : ys = [] := by rw [hys]; simp
  refine U.p ho hd hg (S.sliceNil (kk := kk) hop hx hu hi (.inl rfl) (.inr ⟨y, kk, rfl, by simpa [h2] using hy⟩) (.inl rfl)) (h V _ (.refl V) ?_)
  exact Ow.put hk0 (q3 V [_] ([] ++ []) (.refl V) (fun c _ _ _ hf => ⟨rfl, hf⟩) q1 (.cons [] [] _ _ ⟨by rw [hy0]; simp, .inl ⟨rfl, rfl, hy0⟩⟩ .nil) (fun c hc => .inl hc))
 ·obtain ⟨g1, g2, g3, g4⟩ := q1.own (b, .cells R.sz cs) (by simp)
  have hcl : cs.length = o' + xs.length * R.sz := by
   have := hr.len R.ty
   rw [List.length_drop] at this
   omega
  have hs := MOp.cut (P := P) (ρ := aev (fr l)) (H := V.H) (o := o) ty e x y b o' xs.length R.sz j cs kk q hop hx (by rw [hy, h2]) hu h6 h8.symm h4 g1 g4
  have n : St V b (V.set b (.cells R.sz (cs.take (o' + j * R.sz)))) (.cells R.sz (cs.take (o' + j * R.sz))) := ⟨rfl⟩
  have hle := n.le (M := fun _ => True) ⟨trivial, g1, g2, g3, g4⟩
  refine U.k ho hd hg (.m _ _ hs) (fun h => by cases h) (h _ _ hle ?_)
  refine ow.st1 hk0 (b := b) (x := .cells R.sz cs) (fun p hp hsat => ?_) n ⟨by rw [hyl]; omega, .inr ⟨b, o', _, by rw [hyl]; rfl, rfl, ?_, ?_⟩⟩
  ·rcases hsat with ⟨_, ⟨_, e3, _⟩ | ⟨b2, o2, cs2, e3, e4, _, _⟩⟩
   ·cases e3
   ·cases e3
    subst e4
    have := (hp.own (b, .cells R.sz cs2) (by simp)).2.2.2
    rw [g4] at this
    cases this
    rfl
  ·rw [List.length_take, hcl]
   omega
  ·rw [List.drop_take, Nat.add_sub_cancel_left, hys]
   exact (Rows.tk hr).up R.ty hle
end
end Go.Vm
namespace Go.Vm
open Go
def upA (f : Nat → Int) (i : Nat) (v : Int) : Nat → Int := fun k => if k = i then v else f k
noncomputable def inA (n : Nat) (i : Int) : Option Nat := if 0 ≤ i ∧ i < n then some i.toNat else none
theorem inA_ge {n : Nat} {i : Int} {x : Nat} (h : inA n i = some x) : 0 ≤ i := by
 unfold inA at h
 split at h
 ·rename_i h1; exact h1.1
 ·cases h
theorem inA_lt {n : Nat} {i : Int} {x : Nat} (h : inA n i = some x) : i < n := by
 unfold inA at h
 split at h
 ·rename_i h1; exact h1.2
 ·cases h
theorem inA_eq {n : Nat} {i : Int} {x : Nat} (h : inA n i = some x) : i.toNat = x := by
 unfold inA at h
 split at h
 ·exact Option.some.inj h
 ·cases h
def rg34 (f : Nat → Int) (post : List Value) : List Value :=
 .int .i64 (f 0) :: .int .i64 (f 1) :: .int .i64 (f 2) :: .int .i64 (f 3) :: .int .i64 (f 4) :: .int .i64 (f 5) :: .int .i64 (f 6) :: .int .i64 (f 7) :: .int .i64 (f 8) :: .int .i64 (f 9) :: .int .i64 (f 10) :: .int .i64 (f 11) :: .int .i64 (f 12) :: .int .i64 (f 13) :: .int .i64 (f 14) :: .int .i64 (f 15) :: .int .i64 (f 16) :: .int .i64 (f 17) :: .int .i64 (f 18) :: .int .i64 (f 19) :: .int .i64 (f 20) :: .int .i64 (f 21) :: .int .i64 (f 22) :: .int .i64 (f 23) :: .int .i64 (f 24) :: .int .i64 (f 25) :: .int .i64 (f 26) :: .int .i64 (f 27) :: .int .i64 (f 28) :: .int .i64 (f 29) :: .int .i64 (f 30) :: .int .i64 (f 31) :: .int .i64 (f 32) :: .int .i64 (f 33) :: post
theorem rg34_get (f : Nat → Int) (post : List Value) : ∀ r, r < 34 → (rg34 f post)[r]? = some (.int .i64 (f r))
 | 0, _ => rfl
 | 1, _ => rfl
 | 2, _ => rfl
 | 3, _ => rfl
 | 4, _ => rfl
 | 5, _ => rfl
 | 6, _ => rfl
 | 7, _ => rfl
 | 8, _ => rfl
 | 9, _ => rfl
 | 10, _ => rfl
 | 11, _ => rfl
 | 12, _ => rfl
 | 13, _ => rfl
 | 14, _ => rfl
 | 15, _ => rfl
 | 16, _ => rfl
 | 17, _ => rfl
 | 18, _ => rfl
 | 19, _ => rfl
 | 20, _ => rfl
 | 21, _ => rfl
 | 22, _ => rfl
 | 23, _ => rfl
 | 24, _ => rfl
 | 25, _ => rfl
 | 26, _ => rfl
 | 27, _ => rfl
 | 28, _ => rfl
 | 29, _ => rfl
 | 30, _ => rfl
 | 31, _ => rfl
 | 32, _ => rfl
 | 33, _ => rfl
 | r + 34, h => absurd h (by omega)
theorem rg34_put (f : Nat → Int) (post : List Value) (v : Int) : ∀ r, r < 34 → (rg34 f post).take r ++ [.int .i64 v] ++ (rg34 f post).drop (r + 1) = rg34 (upA f r v) post
 | 0, _ => rfl
 | 1, _ => rfl
 | 2, _ => rfl
 | 3, _ => rfl
 | 4, _ => rfl
 | 5, _ => rfl
 | 6, _ => rfl
 | 7, _ => rfl
 | 8, _ => rfl
 | 9, _ => rfl
 | 10, _ => rfl
 | 11, _ => rfl
 | 12, _ => rfl
 | 13, _ => rfl
 | 14, _ => rfl
 | 15, _ => rfl
 | 16, _ => rfl
 | 17, _ => rfl
 | 18, _ => rfl
 | 19, _ => rfl
 | 20, _ => rfl
 | 21, _ => rfl
 | 22, _ => rfl
 | 23, _ => rfl
 | 24, _ => rfl
 | 25, _ => rfl
 | 26, _ => rfl
 | 27, _ => rfl
 | 28, _ => rfl
 | 29, _ => rfl
 | 30, _ => rfl
 | 31, _ => rfl
 | 32, _ => rfl
 | 33, _ => rfl
 | r + 34, h => absurd h (by omega)
theorem arrG {pre post : List Value} {f : Nat → Int} {p x : Nat} {i : Int} (hx : inA 34 i = some x) (hp : pre.length = p) : (pre ++ rg34 f post)[p + Int.toNat i * 1]? = some (.int .i64 (f x)) := by
 have h1 := inA_eq hx
 have h2 := inA_lt hx
 have h3 := inA_ge hx
 rw [List.getElem?_append_right (by omega), h1, show p + x * 1 - pre.length = x by omega]
 exact rg34_get f post x (by omega)
theorem arrS {pre post : List Value} {f : Nat → Int} {p x : Nat} {i v : Int} (hx : inA 34 i = some x) (hp : pre.length = p) : splice (pre ++ rg34 f post) (p + Int.toNat i * 1) [.int .i64 v] = pre ++ rg34 (upA f x v) post := by
 have h1 := inA_eq hx
 have h2 := inA_lt hx
 have h3 := inA_ge hx
 subst hp
 rw [h1, Nat.mul_one]
 unfold splice
 rw [List.take_length_add_append, ← rg34_put f post v x (by omega)]
 show _ ++ [Value.int .i64 v] ++ (pre ++ rg34 f post).drop (pre.length + x + 1) = _
 rw [Nat.add_assoc, List.drop_length_add_append]
 simp
theorem arrB {pre post : List Value} {f : Nat → Int} {p x : Nat} {i : Int} (hx : inA 34 i = some x) (hp : pre.length = p) : p + Int.toNat i * 1 + 1 ≤ (pre ++ rg34 f post).length := by
 have h2 := inA_lt hx
 have h3 := inA_ge hx
 rw [List.length_append]
 have : (rg34 f post).length = post.length + 34 := rfl
 omega
end Go.Vm
namespace Go.Vm
open Go
section
variable {P : Program} {C : CallRel} {o : Oper} {t : T} {H : AH} {x : Operand} {ty : TypeId}
theorem S.capNil (ho : o.op = .call { callee := .builtin .cap, args := #[x], argTypes := #[ty] }) (hx : aev t x = .slice none 0 0) {e : TypeId} (hu : P.underlying ty = some (.slice e)) : Step P C o t H .pure (.int .i64 0) H := by
 refine .p _ (.flat _ (fun z hz => ?_) (fun cs b => by rw [ho]; simp) (.atom _ (.int _ _)) (fun w => ?_))
 ·rw [ho] at hz
  simp [Op.operands, Call.operands] at hz
  rw [hz, hx]; exact .atom _ .nilSlice
 ·simp [execOp, ho, hx, resolve, invoke, builtin, Builtin.cap_, run_und hu, goInt]
end
section
variable {α : Type} {RI : RO α} {V : Vw} {v : Value} {hs : List Value} {xs : List α} {As : List At} {k : Nat}
theorem AllO.sat {p : PH} (h : AllO RI V p hs xs) : Sat V p (List.zipWith RI.ref hs xs) := by
 induction h with
 | nil => exact .nil
 | cons p q v x vs xs h _ ih => exact .cons _ _ _ _ h ih
theorem Ow.unlit (ow : Ow V As) (hk : As[k]? = some (.oss RI v hs xs)) : Ow V (List.zipWith RI.ref hs xs ++ As.eraseIdx k) := by
 obtain ⟨p, h1, h2, h3⟩ := Ow.chg (Bs := [.oss RI v hs xs]) (ow.pick k hk)
 obtain ⟨p1, p2, rfl, ⟨hm, h4⟩, h5⟩ := h2.split
 cases h5
 rw [List.append_nil] at h1 h3
 rcases h4 with ⟨rfl, _, rfl, rfl⟩ | ⟨b, o, pre, q, hv, rfl, hpre, hall⟩
 ·exact h3 V _ [] (.refl V) (fun c _ _ _ hf => ⟨rfl, hf⟩) h1 .nil (fun c hc => nomatch hc)
 ·exact h3 V _ q (.refl V) (fun c _ _ _ hf => ⟨rfl, hf⟩) (StP.right (p := [(b, .cells 1 (pre ++ hs))]) h1) hall.sat (fun c hc => .inl (List.mem_cons_of_mem _ hc))
end
def mkP {α : Type} (n : Int) (z : α) : Option (List α) := if 0 < n then mk n z else none
section
variable {P : Program} {G N : Nat} {ops : Array Oper} {i : Nat} {hist : Hist} {l : List (Nat × Value)} {V : Vw} {Q : LQ} {o : Oper} {d : Tmp} {As : List At} {dr : Bool}
theorem O.appendZ {α : Type} {R : RT α} {ty ty' : TypeId} {x y : Operand} {kx kt : IntKind} {e : TypeId} {z : Value} {m : Nat} {q : Int} {z0 : α} {zs : List α} (ow : Ow V As) (ho : ops[i]? = some o) (hd : o.dst = some d) (hg : GOk ops l o) (hop : o.op = .call { callee := .builtin .append, args := #[x, y], argTypes := #[ty, ty'] }) (hx : aev (fr l) x = .slice none 0 0) (hy : aev (fr l) y = .int kx q) (hu : P.underlying ty = some (.slice e)) (ht : P.underlying ty' = some (.int kt)) (hi : tinfo P e z R.sz m) (hz : constB z = true) (hs : z.cells.size = R.sz)
  (hn : (R.sz == 0) = false) (hm : m ≤ 4194304) (hz0 : R.rel V z.cells.toList z0) (hmk : mkP q z0 = some zs) (hk : ∀ x, okU dr ops i .eff V.H (V.H.new x) hist) (h : ∀ v V1, V.le V1 → Ow V1 (.os R v zs :: As) → WU dr P G ops (i + 1) (hadd dr (i, .eff, V.H, V1.H) hist) ((d, v) :: l) V1.H Q) : WU dr P G ops i hist l V.H Q := by
 unfold mkP at hmk
 split at hmk
 ·rename_i h0
  obtain ⟨n, rfl, h1, rfl⟩ := mk_eq hmk
  obtain ⟨j, g1, g2, g3, g4⟩ := tinfo_get hi
  have hb2 : n * j.bytes ≤ 2 ^ 46 := by rw [g4]; exact Nat.le_trans (Nat.mul_le_mul h1 hm) (by decide)
  have hpos : 0 < z.cells.size := by rw [hs]; exact Nat.pos_of_ne_zero (by simpa using hn)
  refine U.k ho hd hg (.app _ _ (.zeros x y ty ty' e j z kx kt n hop hu g1 g2 hz (by rw [hs, g3]) hx hy ht (by omega) hb2 (Nat.lt_of_le_of_lt h1 (by decide)) (by rw [g3]; simpa using hn))) (hk _) ?_
  have hc : ((List.range (n * j.size)).map fun j => z.cells[j % z.cells.size]!) = (List.replicate n z.cells.toList).flatten := by rw [g3, ← hs]; exact rep_cells _ hpos n
  rw [hc]
  have nw : Nw V V.H.next (V.new _) (.cells j.size (List.replicate n z.cells.toList).flatten) := ⟨rfl, rfl⟩
  have := h (.slice (some ⟨V.H.next, 0, none⟩) (List.replicate n z0).length R.sz) _ nw.le (ow.nwos (g3 ▸ nw) (Rows.rep hz0 n) (by simp; omega))
  rw [List.length_replicate, ← g3] at this
  exact this
 ·cases hmk
end
end Go.Vm
namespace Go.Vm
open Go
theorem Ev.seqInv {P : Program} {C : CallRel} {G N : Nat} {cd : Cd} {t t' : T} {H H' : AH} {e : VX} (h : Ev P C G N cd t H e t' H') : ∀ a b, cd = .code (.seq a b) → ∃ t0, (∀ i, t0 i = t i ∨ t0 i = topV) ∧ ((∃ t1 H1, Ev P C G N (.code a) t0 H .normal t1 H1 ∧ Ev P C G N (.code b) t1 H1 e t' H') ∨ (Ev P C G N (.code a) t0 H e t' H' ∧ e ≠ .normal)) := by
 induction h with
 | weak c t H t1 e t' H' hw h ih =>
  intro a b hc
  obtain ⟨t0, h0, h1⟩ := ih a b hc
  refine ⟨t0, fun i => ?_, h1⟩
  rcases h0 i with h2 | h2
  ·rw [h2]; exact hw i
  ·exact .inr h2
 | seqN a b t H t1 H1 e t' H' h h' ih ih' => intro a b hc; cases hc; exact ⟨t, fun i => .inl rfl, .inl ⟨t1, H1, h, h'⟩⟩
 | seqX a b t H e t' H' h he ih => intro a b hc; cases hc; exact ⟨t, fun i => .inl rfl, .inr ⟨h, he⟩⟩
 | _ => intro a b hc; cases hc
theorem Ev.assoc {P : Program} {C : CallRel} {G N : Nat} {a b c : Code} {t t' : T} {H H' : AH} {e : VX} (h : Ev P C G N (.code (.seq (.seq a b) c)) t H e t' H') : Ev P C G N (.code (.seq a (.seq b c))) t H e t' H' := by
 obtain ⟨t0, hw, ⟨t1, H1, h1, h2⟩ | ⟨h1, he⟩⟩ := h.seqInv _ _ rfl
 ·obtain ⟨s0, hw2, ⟨s1, K1, h3, h4⟩ | ⟨h3, he⟩⟩ := h1.seqInv _ _ rfl
  ·exact .weak _ _ _ t0 _ _ _ hw (.weak _ _ _ s0 _ _ _ hw2 (.seqN _ _ _ _ _ _ _ _ _ h3 (.seqN _ _ _ _ _ _ _ _ _ h4 h2)))
  ·exact absurd rfl he
 ·obtain ⟨s0, hw2, ⟨s1, K1, h3, h4⟩ | ⟨h3, _⟩⟩ := h1.seqInv _ _ rfl
  ·exact .weak _ _ _ t0 _ _ _ hw (.weak _ _ _ s0 _ _ _ hw2 (.seqN _ _ _ _ _ _ _ _ _ h3 (.seqX _ _ _ _ _ _ _ h4 he)))
  ·exact .weak _ _ _ t0 _ _ _ hw (.weak _ _ _ s0 _ _ _ hw2 (.seqX _ _ _ _ _ _ _ h3 he))
theorem WP.assoc {P : Program} {G N : Nat} {a b c : Code} {Q : XQ} {l : List (Nat × Value)} {H : AH} (h : WP P G N (.seq (.seq a b) c) Q l H) : WP P G N (.seq a (.seq b c)) Q l H := by
 obtain ⟨e, l', H', h1, h2⟩ := h
 exact ⟨e, l', H', h1.assoc, h2⟩
def At.z : At := ⟨fun _ p => p = [], fun _ _ _ _ h => h⟩
def selF (As : List At) (n : Nat) : List Nat → List At
 | [] => As.drop n
 | k :: ks => As.getD k .z :: selF As n ks
theorem selF_eq (As : List At) (n : Nat) : ∀ ks, selF As n ks = ks.map (As.getD · .z) ++ As.drop n
 | [] => rfl
 | k :: ks => by simp only [selF, selF_eq As n ks, List.map_cons, List.cons_append]
theorem Ow.dropL {V : Vw} {As Bs : List At} (ow : Ow V (Bs ++ As)) : Ow V As := by
 obtain ⟨p, h1, h2⟩ := ow
 obtain ⟨p1, p2, rfl, h3, h4⟩ := Sat.apart h2
 exact ⟨p2, h1.right, h4⟩
theorem Ow.sel {V : Vw} {As : List At} (ow : Ow V As) (n : Nat) (ks : List Nat) (hn : (As.take n).length = n := by exact rfl) (hk : ((ks ++ (List.range n).filter fun k => !ks.contains k).isPerm (List.range n)) = true := by exact rfl) : Ow V (selF As n ks) := by
 rw [selF_eq]
 have hp := List.isPerm_iff.1 hk
 generalize (List.range n).filter (fun k => !ks.contains k) = rs at hp
 have hT : As.take n = (List.range n).map (As.getD · .z) := by
  apply List.ext_getElem?
  intro j
  rw [List.length_take] at hn
  by_cases hj : j < n
  ·rw [List.getElem?_take_of_lt hj, List.getElem?_map, List.getElem?_range hj, List.getElem?_eq_getElem (by omega)]
   simp only [Option.map_some, List.getD_eq_getElem?_getD]
   rw [List.getElem?_eq_getElem (by omega)]
   rfl
  ·rw [List.getElem?_eq_none (by rw [List.length_take]; omega), List.getElem?_eq_none (by simp; omega)]
 have h2 : (As.take n ++ As.drop n).Perm ((rs.map (As.getD · .z)) ++ (ks.map (As.getD · .z) ++ As.drop n)) := by
  rw [hT, ← List.append_assoc]
  refine List.Perm.append_right _ ?_
  rw [← List.map_append]
  exact (hp.symm.trans List.perm_append_comm).map _
 rw [List.take_append_drop] at h2
 exact (ow.perm h2).dropL
theorem si {α : Type} {a b : α} (h : some a = some b) : a = b := Option.some.inj h
theorem S.eqL {P : Program} {C : CallRel} {o : Oper} {t : T} {H : AH} {ty ty' : TypeId} {x y : Operand} {k : IntKind} {a b : Int} {c : Bool} (ho : o.op = .binOp .eql ty x y ty') (hx : aev t x = .int k a) (hy : aev t y = .int k b) (hc : decide (a = b) = c) : Step P C o t H .pure (.bool c) H := hc ▸ S.eqlI ho hx hy
theorem S.neL {P : Program} {C : CallRel} {o : Oper} {t : T} {H : AH} {ty ty' : TypeId} {x y : Operand} {k : IntKind} {a b : Int} {c : Bool} (ho : o.op = .binOp .neq ty x y ty') (hx : aev t x = .int k a) (hy : aev t y = .int k b) (hc : decide (a ≠ b) = c) : Step P C o t H .pure (.bool c) H := hc ▸ S.neqI ho hx hy
end Go.Vm
