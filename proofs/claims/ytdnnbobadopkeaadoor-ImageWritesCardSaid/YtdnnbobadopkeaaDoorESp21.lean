/-
  Part of an evaluator for the model, proved sound: no condition.
-/
import Derived.Test.YtdnnbobadopkeaaDoorESp16
import Derived.Shelf.Strings.Builder1
import Derived.Lib.FrozenHead
set_option linter.unusedSimpArgs false
set_option linter.unusedVariables false
namespace Go.Vm
open Go Go.RowKit Go.Proofs Go.Shelf
section
variable {P : Program}
theorem app_str (w : World) (t u ty e : TypeId) (i : TypeInfo) (ht : P.underlying t = some (.slice e)) (hu : P.underlying u = some .string) (hi : P.info? e = some i) (hz : i.zero = some (.int .u8 0)) (hsize : i.size = 1) (hby : i.bytes = 1)
  (v : Value) (n : Nat) (xs : List Value) (hown : w.ownsRowF 0 e 1 v n xs) (s : ByteArray) (hbytes : n + s.size ≤ 140737488355328) :
  ∃ v' w', (Builtin.append_ #[t, u] ty #[v, .string s]).run P w = .ok v' w' ∧ w'.ownsRowF 0 e 1 v' (n + s.size) (xs ++ Lib.strCells s) ∧ w.grownBy w' v.ownBlock ∧ ∀ g, v'.ownBlock = some g → v.ownBlock = some g ∨ w.heap.size ≤ g := by
 have h63 : n + s.size ≤ maxLen := by unfold maxLen; omega
 obtain ⟨v', w', h1, h2, h3, _⟩ := Lib.run_append_own_stringF (P := P) w 0 t u ty e i ht hu hi hz hsize hby v n xs hown s h63 hbytes (Nat.zero_le _)
 refine ⟨v', w', h1, h2, h3, fun g hg => ?_⟩
 rcases hown.2 with ⟨rfl, rfl⟩ | ⟨b, cap, cur, fz, rfl, _, hb, hfz, hnc, hcm, hcs, htake⟩
 ·obtain ⟨v2, w2, h4, h5, _, _⟩ := Lib.run_append_own_stringF (P := P) w w.heap.size t u ty e i ht hu hi hz hsize hby (.slice none 0 0) 0 xs ⟨hown.1, .inl ⟨rfl, rfl⟩⟩ s h63 hbytes (Nat.le_refl _)
  rw [h1] at h4
  injection h4 with e1 e2
  subst e1
  rcases h5.2 with ⟨h6, _⟩ | ⟨b, cap, cur, fz, h6, h7, _⟩
  ·rw [h6] at hg; cases hg
  ·rw [h6] at hg; cases hg; exact .inr h7
 ·have hxl : xs.length = n := by simpa using hown.1
  by_cases hroom : n + s.size ≤ cap
  ·have h4 := Lib.run_append_room_stringF (P := P) w t u ty e i ht hu hi hsize b n cap cur fz hb (by simpa using hfz) s hroom (by omega)
   rw [h1] at h4
   injection h4 with e1 e2
   subst e1
   exact .inl hg
  ·have holds : ∀ j u, xs[j]? = some u → w.cell? ((⟨b, 0, none⟩ : Addr).add j) = some u := hown.cells (g := b) rfl
   have h4 := Lib.run_append_grow_string (P := P) w t u ty e i (.int .u8 0) ht hu hi hz ⟨b, 0, none⟩ n cap xs (by rw [hsize]; simpa using hxl) holds s (by omega) (by unfold maxLen at h63; omega) (by rw [hby]; exact growslice_fits (by omega) (by omega))
   rw [h1] at h4
   injection h4 with e1 e2
   subst e1
   cases hg
   exact .inr (Nat.le_refl _)
theorem wp_app_str {ops : Array Oper} {rest : List Oper} {o : Oper} {a : Act} {Q : Exit → Act → World → Prop} {w : World} (hgd : o.guard = none) (sl x : Operand) (t u : TypeId)
  (ho : o.op = .call { callee := .builtin .append, args := #[sl, x], argTypes := #[t, u] })
  (e : TypeId) (i : TypeInfo) (ht : P.underlying t = some (.slice e)) (hu : P.underlying u = some .string) (hi : P.info? e = some i) (hz : i.zero = some (.int .u8 0)) (hsize : i.size = 1) (hby : i.bytes = 1)
  (v : Value) (n : Nat) (xs : List Value) (hs : a.eval sl = v) (hown : w.ownsRowF 0 e 1 v n xs) (s : ByteArray) (hx : a.eval x = .string s) (hbytes : n + s.size ≤ 140737488355328)
  (h : ∀ v' w', w'.ownsRowF 0 e 1 v' (n + s.size) (xs ++ Lib.strCells s) → w.grownBy w' v.ownBlock → (∀ g, v'.ownBlock = some g → v.ownBlock = some g ∨ w.heap.size ≤ g) → wpList P ops Q rest (a.put o.dst v') w') : wpList P ops Q (o :: rest) a w := by
 refine wpList_plain hgd fun K hK => ?_
 obtain ⟨v', w', hr, h2, h3, h4⟩ := app_str (P := P) w t u o.type e i ht hu hi hz hsize hby v n xs hown s hbytes
 unfold Oper.wp execOp
 simp only [ho, resolve, invoke, builtin, Sem.run_bind, Sem.run_pure, Result.andThen_ok, List.map_toArray, List.map_cons, List.map_nil, hs, hx, hr]
 exact hK _ _ (h v' w' h2 h3 h4)
structure BdW (T e : TypeId) (b : Nat) (p v : Value) (bs : List Value) (w : World) : Prop where
 at_ : w.heap[b]? = some (.cells #[p, v] T (0, 0))
 own : w.ownsRowF 0 e 1 v bs.length bs
 ne : v.ownBlock ≠ some b
structure BdK (b : Nat) (g : Option Nat) (w w' : World) : Prop where
 size : w.heap.size ≤ w'.heap.size
 keep : ∀ k, k < w.heap.size → k ≠ b → g ≠ some k → w'.heap[k]? = w.heap[k]?
 env : Env w w'
variable {ρ : Ren}
set_option maxHeartbeats 1000000 in
theorem cc_calls (L : Lays.n240 P ρ) (X : Builder.X72 P ρ) {b : Nat} {p v : Value} {bs : List Value} {w : World} (hp : p = .pointer none ∨ p = .pointer (some ⟨b, 0, none⟩)) (h : BdW (ρ.t 72) (ρ.t 5) b p v bs w) :
  Calls P (ρ.f 240) #[.pointer (some ⟨b, 0, none⟩)] w fun e w' => e = .returned (.tuple #[]) ∧ BdW (ρ.t 72) (ρ.t 5) b (.pointer (some ⟨b, 0, none⟩)) v bs w' ∧ w'.heap.size = w.heap.size ∧ BdK b none w w' := by
 have c0 : w.cell? ⟨b, 0, none⟩ = some p := by rw [Lib.cell_of_heap h.at_]; rfl
 rcases hp with rfl | rfl
 ·refine (Any.Builder_copyCheck_fresh L X b w c0 (by simp [World.shape?, h.at_]) (by simp [World.frozen?, h.at_])).mono ?_
  rintro e w' ⟨rfl, rfl⟩
  have hk : ∀ k, k ≠ b → (w.setCell ⟨b, 0, none⟩ (.pointer (some ⟨b, 0, none⟩))).heap[k]? = w.heap[k]? := fun k hk => heap_setCell_other w ⟨b, 0, none⟩ k _ hk
  refine ⟨rfl, ⟨?_, ?_, h.ne⟩, World.size_setCell _ _ _, ⟨by rw [World.size_setCell]; exact Nat.le_refl _, fun k _ hk' _ => hk k hk', rfl, rfl, rfl⟩⟩
  ·rw [heap_setCell_same w b 0 _ _ _ h.at_]; rfl
  ·refine ⟨h.own.1, h.own.2.imp id ?_⟩
   rintro ⟨g, cap, cur, fz, hv, h1, h2, h3⟩
   exact ⟨g, cap, cur, fz, hv, h1, (hk g (fun e => h.ne (by rw [hv]; exact congrArg some e))).trans h2, h3⟩
 ·refine (Any.Builder_copyCheck_used L X b w c0).mono ?_
  rintro e w' ⟨rfl, rfl⟩
  exact ⟨rfl, h, rfl, ⟨Nat.le_refl _, fun _ _ _ _ => rfl, Env.refl _⟩⟩
theorem Env.setCell (w : World) (a : Addr) (v : Value) : Env w (w.setCell a v) := ⟨rfl, rfl, rfl⟩
set_option maxHeartbeats 2000000 in
set_option maxRecDepth 100000 in
theorem bw_calls (L : Lays.n166 P ρ) (X : Builder.Extra P ρ) {b : Nat} {p v : Value} {bs : List Value} {w : World} (hp : p = .pointer none ∨ p = .pointer (some ⟨b, 0, none⟩)) (h : BdW (ρ.t 72) (ρ.t 5) b p v bs w) (s : ByteArray) (hlen : bs.length + s.size ≤ 140737488355328) :
  Calls P (ρ.f 166) #[.pointer (some ⟨b, 0, none⟩), .string s] w fun e w' => e = .returned (.tuple #[.int .i64 s.size, .nilIface]) ∧
   ∃ v', BdW (ρ.t 72) (ρ.t 5) b (.pointer (some ⟨b, 0, none⟩)) v' (bs ++ Lib.strCells s) w' ∧ BdK b v.ownBlock w w' ∧ ∀ g, v'.ownBlock = some g → v.ownBlock = some g ∨ w.heap.size ≤ g := by
 obtain ⟨i0, hi, hz0, hz1, hz2⟩ := info_parts X.infoByte
 have mixed := L.mixed
 have t72 := L.t72; have a72 := L.a72; have z72 := L.z72; have v72 := L.v72; have u72 := run_underlying L.t72
 have t70 := L.t70; have a70 := L.a70; have z70 := L.z70; have v70 := L.v70; have u70 := run_underlying L.t70
 have t37 := L.t37; have a37 := L.a37; have z37 := L.z37; have v37 := L.v37; have u37 := run_underlying L.t37
 have t3 := L.t3; have a3 := L.a3; have z3 := L.z3; have v3 := L.v3; have u3 := run_underlying L.t3
 have t9 := L.t9; have a9 := L.a9; have z9 := L.z9; have v9 := L.v9; have u9 := run_underlying L.t9
 have t4 := L.t4; have a4 := L.a4; have z4 := L.z4; have v4 := L.v4; have u4 := run_underlying L.t4
 have t164 := L.t164; have a164 := L.a164; have z164 := L.z164; have v164 := L.v164; have u164 := run_underlying L.t164
 have t5 := X.t5; have a5 := X.a5; have z5 := X.z5; have v5 := X.v5; have u5 := run_underlying X.t5
 have e240 : ∀ args w, (callFunc (ρ.f 240) args).run P w = .ok (.enter (ρ.f 240) args) w := enters_of L.f240 (by kernel_rfl) rfl
 go_enter L.f166, Body.n166_ntmps ρ
 go_wp2_with (go_at_fn (ρ.f 240); refine (cc_calls { L with } X.toX72 hp h).mono ?_)
 rintro e w1 ⟨rfl, h1, hsz, hk1⟩
 have hbk := h1.at_
 have c0 : w1.cell? ⟨b, 0, none⟩ = some (.pointer (some ⟨b, 0, none⟩)) := by rw [Lib.cell_of_heap hbk]; rfl
 have c1 : w1.cell? ⟨b, 1, none⟩ = some v := by rw [Lib.cell_of_heap hbk]; rfl
 go_wp2_with (at_builtin; refine wp_app_str rfl _ _ (ρ.t 37) (ρ.t 9) rfl (ρ.t 5) i0 L.t37 L.t9 hi hz0 hz1 hz2 _ _ _ rfl h1.own s rfl hlen ?_)
 intro v' w2 hown' hgrow hg2
 have hlt : b < w1.heap.size := (Array.getElem?_eq_some_iff.1 hbk).1
 have hb2 : w2.heap[b]? = some (.cells #[.pointer (some ⟨b, 0, none⟩), v] (ρ.t 72) (0, 0)) := (hgrow.block b hlt (fun e => h1.ne e.symm)).trans hbk
 have d0 : w2.cell? ⟨b, 0, none⟩ = some (.pointer (some ⟨b, 0, none⟩)) := by rw [Lib.cell_of_heap hb2]; rfl
 have d1 : w2.cell? ⟨b, 1, none⟩ = some v := by rw [Lib.cell_of_heap hb2]; rfl
 have f1 : w2.frozen? ⟨b, 1, none⟩ = false := Lib.frozen_of_heap hb2 1
 have hnb : v'.ownBlock ≠ some b := fun e => (hg2 b e).elim h1.ne (fun h => by omega)
 obtain ⟨ao, n', cap, rfl⟩ : ∃ ao n' cap, v' = .slice ao n' cap := by
  rcases hown'.2 with ⟨hv, _⟩ | ⟨g, cap, cur, fz, hv, _⟩
  ·exact ⟨_, _, _, hv⟩
  ·exact ⟨_, _, _, hv⟩
 go_wp2
 go_ret2
 have hk2 : ∀ k, k ≠ b → (w2.setCell ⟨b, 1, none⟩ (.slice ao n' cap)).heap[k]? = w2.heap[k]? := fun k hk => heap_setCell_other w2 ⟨b, 1, none⟩ k _ hk
 refine ⟨rfl, .slice ao n' cap, ⟨?_, ?_, hnb⟩, ⟨?_, fun k h3 h4 h5 => ?_, ?_⟩, hg2⟩
 ·rw [heap_setCell_same w2 b 1 _ _ _ hb2]; rfl
 ·rw [List.length_append, Lib.strCells_length]
  refine ⟨hown'.1, hown'.2.imp id ?_⟩
  rintro ⟨g, cap', cur, fz, hv, q1, q2, q3⟩
  exact ⟨g, cap', cur, fz, hv, q1, (hk2 g (fun e => hnb (by rw [hv]; exact congrArg some e))).trans q2, q3⟩
 ·rw [World.size_setCell, ← hsz]; exact hgrow.size
 ·rw [hk2 k h4, hgrow.block k (by rw [hsz]; exact h3) (fun e => h5 e.symm)]
  exact hk1.keep k h3 h4 (by simp)
 ·exact hk1.env.trans (Env.trans ⟨hgrow.os, hgrow.tape, hgrow.output⟩ (Env.setCell _ _ _))
set_option maxHeartbeats 2000000 in
set_option maxRecDepth 100000 in
theorem bs_calls (L : Lays.n169 P ρ) (X : Builder.Extra P ρ) {b : Nat} {p v : Value} {l : List UInt8} {w : World} (h : BdW (ρ.t 72) (ρ.t 5) b p v (Lib.byteCells l) w) (h0 : l ≠ []) :
  Calls P (ρ.f 169) #[.pointer (some ⟨b, 0, none⟩)] w fun e w' => e = .returned (.string ⟨l.toArray⟩) ∧ BdK b v.ownBlock w w' := by
 have hl0 : l.length ≠ 0 := by simpa using h0
 have hown := h.own
 rw [Lib.byteCells_length] at hown
 obtain ⟨g, cap, cur, fz, rfl, hg, hfz, hnc, hcm, hcs⟩ : ∃ g cap cur fz, v = .slice (some ⟨g, 0, none⟩) l.length cap ∧ w.heap[g]? = some (.cells cur (ρ.t 5) fz) ∧ fz.2 ≤ l.length * 1 ∧ l.length ≤ cap ∧ cap ≤ maxLen ∧ cur.size = cap * 1 := by
  rcases hown.2 with ⟨_, hz⟩ | ⟨g, cap, cur, fz, hv, _, r1, r2, r3, r4, r5, _⟩
  ·exact absurd hz hl0
  ·exact ⟨g, cap, cur, fz, hv, r1, r2, r3, r4, r5⟩
 have hbk := h.at_
 have c1 : w.drew.cell? ⟨b, 1, none⟩ = some (.slice (some ⟨g, 0, none⟩) l.length cap) := by
  have : w.drew.heap[b]? = some (.cells #[p, .slice (some ⟨g, 0, none⟩) l.length cap] (ρ.t 72) (0, 0)) := hbk
  rw [Lib.cell_of_heap this]; rfl
 have hSD : (Builtin.unsafeSliceData_ #[(ρ.t 37)] (ρ.t 127) #[.slice (some ⟨g, 0, none⟩) l.length cap]).run P w.drew = .ok (.pointer (some ⟨g, 0, none⟩)) w.drew :=
  Lib.run_unsafeSliceData_row _ _ _ _ _ _ (by omega)
 have hUS : (Builtin.unsafeString_ #[(ρ.t 127), (ρ.t 3)] (ρ.t 9) #[.pointer (some ⟨g, 0, none⟩), .int .i64 l.length]).run P w.drew = .ok (.string ⟨l.toArray⟩) (w.drew.freeze ⟨g, 0, none⟩ l.length) := by
  refine Lib.run_unsafeString_row w.drew (ρ.t 127) (ρ.t 3) (ρ.t 9) (ρ.t 5) L.t127 X.cellsByte g cur.size (by have hg' : w.drew.heap[g]? = some (.cells cur (ρ.t 5) fz) := hg; simp [World.shape?, hg']) l h0 (by omega) (by unfold maxLen at hcm; omega) ?_
  intro j x hx
  exact hown.cells (g := g) rfl j (.int .u8 x.toNat) (by simp [Lib.byteCells, hx])
 have hK : BdK b (some g) w (w.drew.freeze ⟨g, 0, none⟩ l.length) := by
  unfold World.freeze
  rw [if_neg hl0]
  refine ⟨?_, fun k hk hkb hkg => ?_, rfl, rfl, rfl⟩
  ·show w.heap.size ≤ (w.heap.modify g _).size
   simp
  ·show (w.heap.modify g _)[k]? = _
   rw [Array.getElem?_modify, if_neg (fun e => hkg (by rw [e]))]
 have mixed := L.mixed
 have t72 := L.t72; have a72 := L.a72; have z72 := L.z72; have v72 := L.v72; have u72 := run_underlying L.t72
 have t70 := L.t70; have a70 := L.a70; have z70 := L.z70; have v70 := L.v70; have u70 := run_underlying L.t70
 have t37 := L.t37; have a37 := L.a37; have z37 := L.z37; have v37 := L.v37; have u37 := run_underlying L.t37
 have t127 := L.t127; have a127 := L.a127; have z127 := L.z127; have v127 := L.v127; have u127 := run_underlying L.t127
 have t3 := L.t3; have a3 := L.a3; have z3 := L.z3; have v3 := L.v3; have u3 := run_underlying L.t3
 have t9 := L.t9; have a9 := L.a9; have z9 := L.z9; have v9 := L.v9; have u9 := run_underlying L.t9
 have t5 := X.t5; have a5 := X.a5; have z5 := X.z5; have v5 := X.v5; have u5 := run_underlying X.t5
 go_enter L.f169, Body.n169_ntmps ρ
 go_wp2
 go_region_o
 all_goals (go_wp2; go_ret; exact ⟨rfl, hK⟩)
end
end Go.Vm
namespace Go.Vm
open Go Go.RowKit
theorem bw_after {ι : Inj} {H H1 : AH} {w w' : World} {b : Nat} {l : Loc} {T e : TypeId} {v v' : Value} {c : List Value} (hr : R ι H w) (hl : ι b = some l) (hlo : H.lo ≤ b) (hb : H.get b ≠ none)
  (h1 : H1 = H ∧ v.ownBlock = none ∨ ∃ r lr, ι r = some lr ∧ H.lo ≤ r ∧ r ≠ b ∧ H.get r ≠ none ∧ H1 = H.upd r none ∧ v.ownBlock = some lr.blk)
  (hB : BdW T e l.blk (.pointer (some ⟨l.blk, 0, none⟩)) v' c w') (hl0 : l.base = 0) (hK : BdK l.blk v.ownBlock w w') (hg : ∀ g, v'.ownBlock = some g → v.ownBlock = some g ∨ w.heap.size ≤ g) (hc : c ≠ []) :
  ∃ ι', After ι H ((H1.new (.trow e c)).upd b (some (.bld T H.next c.length))) w w' ι' := by
 have hcl : c.length ≠ 0 := fun h => hc (List.eq_nil_of_length_eq_zero h)
 obtain ⟨g, cap, cur, fz, rfl, hgc, hfz, hnc, hcm, hcs, htk⟩ : ∃ g cap cur fz, v' = .slice (some ⟨g, 0, none⟩) c.length cap ∧ w'.heap[g]? = some (.cells cur e fz) ∧ fz.2 ≤ c.length ∧ c.length ≤ cap ∧ cap ≤ maxLen ∧ cur.size = cap ∧ cur.toList.take c.length = c := by
  rcases hB.own.2 with ⟨_, hz⟩ | ⟨g, cap, cur, fz, hv, _, r1, r2, r3, r4, r5, r6⟩
  ·exact absurd hz hcl
  ·exact ⟨g, cap, cur, fz, hv, r1, by omega, r3, r4, by omega, by simpa using r6⟩
 have hnx : H1.next = H.next := by
  rcases h1 with ⟨rfl, _⟩ | ⟨r, lr, _, _, _, _, rfl, _⟩
  ·rfl
  ·rfl
 have hlo1 : H1.lo = H.lo := by
  rcases h1 with ⟨rfl, _⟩ | ⟨r, lr, _, _, _, _, rfl, _⟩
  ·rfl
  ·rfl
 have hsub : ∀ b1, H1.get b1 = H.get b1 ∨ H1.get b1 = none := by
  intro b1
  rcases h1 with ⟨rfl, _⟩ | ⟨r, lr, _, _, _, _, rfl, _⟩
  ·exact .inl rfl
  ·by_cases e : b1 = r
   ·exact .inr (by simp [AH.upd, e])
   ·exact .inl (by simp [AH.upd, e])
 have hown : ∀ b1 l1, ι b1 = some l1 → H1.get b1 ≠ none → v.ownBlock ≠ some l1.blk := by
  intro b1 l1 hb1 hg1
  rcases h1 with ⟨rfl, hn⟩ | ⟨r, lr, h2, h3, h4, h5, rfl, hn⟩
  ·rw [hn]; simp
  ·rw [hn]
   intro e
   have e := Option.some.inj e
   have hne : b1 ≠ r := fun e => hg1 (by simp [AH.upd, e])
   have hgb : H.get b1 ≠ none := by simpa [AH.upd, hne] using hg1
   exact hne (hr.inj b1 r l1 lr hb1 h2 hgb h5 e.symm)
 have hlive : ∀ b1, H1.get b1 ≠ none → H.get b1 ≠ none := fun b1 h => by
  rcases hsub b1 with e | e
  ·rwa [e] at h
  ·exact absurd e h
 have hbl : ∀ b1 l1, ι b1 = some l1 → b1 ≠ b → H1.get b1 ≠ none → l1.blk ≠ l.blk := fun b1 l1 h2 h3 h4 e => h3 (hr.inj b1 b l1 l h2 hl (hlive b1 h4) hb e)
 have hgne : ∀ b1 l1, ι b1 = some l1 → H1.get b1 ≠ none → l1.blk ≠ g := fun b1 l1 h2 h3 e => by
  rcases hg g rfl with h4 | h4
  ·exact hown b1 l1 h2 h3 (by rw [h4, e])
  ·have := (hr.dom b1 l1 h2).2; omega
 have hlg : l.blk ≠ g := fun e => hB.ne (by rw [e]; rfl)
 have hgl : g < w'.heap.size := (Array.getElem?_eq_some_iff.1 hgc).1
 have hbn : b < H.next := (hr.dom b l hl).1
 let L : Loc := ⟨g, 0, 1, cap⟩
 let H' : AH := (H1.new (.trow e c)).upd b (some (.bld T H.next c.length))
 have hle := hr.ext_le L
 have g1 : H'.get b = some (.bld T H.next c.length) := by simp [H', AH.upd]
 have g2 : H'.get H.next = some (.trow e c) := by
  have : H.next ≠ b := by omega
  simp [H', AH.upd, AH.new, hnx, this]
 have g3 : ∀ b1, b1 ≠ b → b1 ≠ H.next → H'.get b1 = H1.get b1 := fun b1 h2 h3 => by simp [H', AH.upd, AH.new, hnx, h2, h3]
 have i1 : (ι.ext H.next L) H.next = some L := Inj.ext_self
 have i2 : ∀ b1, b1 ≠ H.next → (ι.ext H.next L) b1 = ι b1 := fun b1 h => Inj.ext_ne h
 refine ⟨ι.ext H.next L, ⟨hle, fun b1 l1 h2 => ?_, by show H.next ≤ H1.next + 1; omega, hlo1, fun b1 h2 h3 => ?_, fun b1 h2 h3 => ?_⟩, ⟨fun b1 l1 o h2 h3 => ?_, fun b1 b2 l1 l2 h2 h3 h4 h5 h6 => ?_, fun b1 l1 h2 => ?_, fun b1 h2 => ?_⟩, ⟨hK.size, fun k h2 h3 => ?_, hK.env⟩⟩
 ·by_cases e1 : b1 = H.next
  ·subst e1
   rw [i1] at h2
   cases h2
   refine .inr ⟨Nat.le_refl _, by show H.next < H1.next + 1; omega, ?_⟩
   rcases hg g rfl with h4 | h4
   ·rcases h1 with ⟨rfl, hn⟩ | ⟨r, lr, h5, h6, h7, h8, _, hn⟩
    ·rw [hn] at h4; cases h4
    ·rw [hn] at h4
     exact .inr ⟨r, lr, h5, h6, h8, Option.some.inj h4⟩
   ·exact .inl h4
  ·rw [i2 b1 e1] at h2
   exact .inl h2
 ·have e1 : b1 ≠ b := fun e => hb (by rw [← e]; exact h3)
  have e2 : b1 ≠ H.next := by omega
  show H'.get b1 = none
  rw [g3 b1 e1 e2]
  rcases hsub b1 with e | e
  ·rw [e]; exact h3
  ·exact e
 ·have e1 : b1 = H.next := by
   have h3 : b1 < H1.next + 1 := h3
   omega
  exact ⟨L, by rw [e1]; exact i1⟩
 ·by_cases e1 : b1 = H.next
  ·subst e1
   rw [i1] at h2
   cases h2
   have : some o = some (AObj.trow e c) := h3.symm.trans g2
   cases this
   exact ⟨cur, fz, hgc, rfl, hcs, by have : maxLen = 9223372036854775807 := rfl; show cap ≤ _; omega, hfz, by omega, htk⟩
  ·rw [i2 b1 e1] at h2
   by_cases e2 : b1 = b
   ·subst e2
    rw [hl] at h2
    cases h2
    have : some o = some (AObj.bld T H.next c.length) := h3.symm.trans g1
    cases this
    exact ⟨L, i1, hB.at_, hl0⟩
   ·have h3 : H'.get b1 = some o := h3
    rw [g3 b1 e2 e1] at h3
    have hne : H1.get b1 ≠ none := by rw [h3]; simp
    have h4 : H.get b1 = some o := by
     rcases hsub b1 with e | e
     ·rw [← e]; exact h3
     ·rw [e] at h3; cases h3
    have h5 := hr.obj b1 l1 o h2 h4
    have h6 : w'.heap[l1.blk]? = w.heap[l1.blk]? := hK.keep _ (hr.dom b1 l1 h2).2 (hbl b1 l1 h2 e2 hne) (hown b1 l1 h2 hne)
    have h7 := h5.keep hle h6
    show ObjRel H'.lo _ _ _ _ _
    rw [show H'.lo = H.lo from hlo1]
    exact h7
 ·have key : ∀ b1 l1, (ι.ext H.next L) b1 = some l1 → H'.get b1 ≠ none → b1 ≠ H.next → ι b1 = some l1 ∧ l1.blk ≠ g ∧ (b1 ≠ b → H1.get b1 ≠ none) := fun b1 l1 h2 h3 h4 => by
   rw [i2 b1 h4] at h2
   by_cases e : b1 = b
   ·subst e
    rw [hl] at h2; cases h2
    exact ⟨hl, hlg, fun h => absurd rfl h⟩
   ·have h5 : H1.get b1 ≠ none := by rw [← g3 b1 e h4]; exact h3
    exact ⟨h2, hgne b1 l1 h2 h5, fun _ => h5⟩
  by_cases e1 : b1 = H.next
  ·by_cases e2 : b2 = H.next
   ·rw [e1, e2]
   ·obtain ⟨h7, h8, _⟩ := key b2 l2 h3 h5 e2
    rw [e1, i1] at h2
    cases h2
    exact absurd h6.symm h8
  ·obtain ⟨h7, h8, h9⟩ := key b1 l1 h2 h4 e1
   by_cases e2 : b2 = H.next
   ·rw [e2, i1] at h3
    cases h3
    exact absurd h6 h8
   ·obtain ⟨h10, h11, h12⟩ := key b2 l2 h3 h5 e2
    have q1 : H.get b1 ≠ none := by
     by_cases e : b1 = b
     ·rw [e]; exact hb
     ·exact hlive b1 (h9 e)
    have q2 : H.get b2 ≠ none := by
     by_cases e : b2 = b
     ·rw [e]; exact hb
     ·exact hlive b2 (h12 e)
    exact hr.inj b1 b2 l1 l2 h7 h10 q1 q2 h6
 ·by_cases e1 : b1 = H.next
  ·subst e1
   rw [i1] at h2
   cases h2
   exact ⟨by show H.next < H1.next + 1; omega, hgl⟩
  ·rw [i2 b1 e1] at h2
   have := hr.dom b1 l1 h2
   exact ⟨by show b1 < H1.next + 1; omega, Nat.lt_of_lt_of_le this.2 hK.size⟩
 ·have h2 : b1 < H.lo := by rw [← hlo1]; exact h2
  obtain ⟨l1, h3, h4, h5, h6⟩ := hr.low b1 h2
  refine ⟨l1, by rw [i2 b1 (by omega)]; exact h3, h4, h5, fun e' c' h7 => ?_⟩
  have h7 : H'.get b1 = some (.cells e' c') := h7
  rw [g3 b1 (by omega) (by omega)] at h7
  rcases hsub b1 with e | e
  ·exact h6 e' c' (by rw [← e]; exact h7)
  ·rw [e] at h7; cases h7
 ·have q1 : k ≠ l.blk := fun e => hb (h3 b l hl e.symm hlo)
  have q2 : v.ownBlock ≠ some k := by
   rcases h1 with ⟨_, hn⟩ | ⟨r, lr, h5, h6, h7, h8, _, hn⟩
   ·rw [hn]; simp
   ·rw [hn]
    intro e
    exact h8 (h3 r lr h5 (Option.some.inj e) h6)
  exact hK.keep k h2 q1 q2
theorem strCells_app (a b : ByteArray) : Lib.strCells (a ++ b) = Lib.strCells a ++ Lib.strCells b := by
 unfold Lib.strCells
 rw [ByteArray.data_append, Array.toList_append, List.map_append]
theorem strCells_nil {a : ByteArray} (h : a.size = 0) : Lib.strCells a = [] := List.eq_nil_of_length_eq_zero (by rw [Lib.strCells_length]; exact h)
theorem bw_sd {P : Program} {g : FuncId} {H H1 : AH} {b : Nat} {T e : TypeId} {bs s : ByteArray} (hlo : H.lo ≤ b) (hs : s.size ≠ 0) (hlen : bs.size + s.size ≤ 140737488355328)
  (hC : ∀ (wb : Nat) p v cs w, (p = .pointer none ∨ p = .pointer (some ⟨wb, 0, none⟩)) → BdW T e wb p v cs w → cs.length + s.size ≤ 140737488355328 → Calls P g #[.pointer (some ⟨wb, 0, none⟩), .string s] w fun e' w' => e' = .returned (.tuple #[.int .i64 s.size, .nilIface]) ∧
   ∃ v', BdW T e wb (.pointer (some ⟨wb, 0, none⟩)) v' (cs ++ Lib.strCells s) w' ∧ BdK wb v.ownBlock w w' ∧ ∀ g, v'.ownBlock = some g → v.ownBlock = some g ∨ w.heap.size ≤ g)
  (hc : (H.get b = some (.tcells T [.pointer none, .slice none 0 0]) ∧ bs.size = 0 ∧ H1 = H) ∨ ∃ r, H.get b = some (.bld T r bs.size) ∧ H.get r = some (.trow e (Lib.strCells bs)) ∧ bs.size ≠ 0 ∧ r ≠ b ∧ H.lo ≤ r ∧ H1 = H.upd r none) :
  Sd P g #[.pointer (some ⟨b, 0, none⟩), .string s] H (.tuple #[topV, topV]) ((H1.new (.trow e (Lib.strCells (bs ++ s)))).upd b (some (.bld T H.next (bs ++ s).size))) := by
 have hnx : H1.next = H.next ∧ H1.lo = H.lo := by
  rcases hc with ⟨_, _, rfl⟩ | ⟨r, _, _, _, _, _, rfl⟩
  ·exact ⟨rfl, rfl⟩
  ·exact ⟨rfl, rfl⟩
 refine ⟨⟨by show H.next ≤ H1.next + 1; omega, hnx.2⟩, fun ι w cargs hr ha => ?_⟩
 obtain ⟨u, u', rfl, hu, hu'⟩ := ha.two
 obtain rfl := hu'.atom_eq (.string _)
 obtain ⟨l, hl, rfl⟩ := hu.ptr_inv
 have hbne : H.get b ≠ none := by
  rcases hc with ⟨h, _⟩ | ⟨r, h, _⟩
  ·rw [h]; simp
  ·rw [h]; simp
 obtain ⟨p, v, hp, hb0, hB, hH⟩ : ∃ p v, (p = .pointer none ∨ p = .pointer (some ⟨l.blk, 0, none⟩)) ∧ l.base = 0 ∧ BdW T e l.blk p v (Lib.strCells bs) w ∧
   (H1 = H ∧ v.ownBlock = none ∨ ∃ r lr, ι r = some lr ∧ H.lo ≤ r ∧ r ≠ b ∧ H.get r ≠ none ∧ H1 = H.upd r none ∧ v.ownBlock = some lr.blk) := by
  rcases hc with ⟨h1, h2, rfl⟩ | ⟨r, h1, h2, h3, h4, h5, rfl⟩
  ·obtain ⟨cs, g1, g2, g3, g4⟩ := hr.obj b l _ hl h1
   obtain ⟨x0, q0, q1⟩ := g4 0 _ rfl
   obtain ⟨x1, q2, q3⟩ := g4 1 _ rfl
   have q1 := q1.atom_eq .nilPtr
   have q3 := q3.atom_eq .nilSlice
   subst q1 q3
   have hcs : cs = #[.pointer none, .slice none 0 0] := by
    apply Array.ext'
    have h6 : cs.toList.length = 2 := g3
    rw [← Array.getElem?_toList] at q0 q2
    match hl2 : cs.toList, h6 with
    | [a, b], _ =>
     rw [hl2] at q0 q2
     cases q0; cases q2
     rfl
   subst hcs
   refine ⟨_, _, .inl rfl, g2, ⟨g1, ?_, by simp [Value.ownBlock]⟩, .inl ⟨rfl, rfl⟩⟩
   rw [strCells_nil h2]
   exact ⟨rfl, .inl ⟨rfl, rfl⟩⟩
  ·obtain ⟨lr, g1, g2, g3⟩ := hr.obj b l _ hl h1
   obtain ⟨cs, fr, k1, k2, k3, k4, k5, k6, k7⟩ := hr.obj r lr _ g1 h2
   have hne : lr.blk ≠ l.blk := fun e => h4 (hr.inj r b lr l g1 hl (by rw [h2]; simp) hbne e)
   have hln : (Lib.strCells bs).length = bs.size := Lib.strCells_length bs
   refine ⟨_, _, .inr rfl, g3, ⟨g2, ?_, fun e => hne (Option.some.inj e)⟩, .inr ⟨r, lr, g1, h5, h4, by rw [h2]; simp, rfl, rfl⟩⟩
   rw [hln]
   refine ⟨by omega, .inr ⟨lr.blk, lr.csz, cs, fr, rfl, Nat.zero_le _, k1, by omega, by omega, by have : maxLen = 9223372036854775807 := rfl; omega, by omega, ?_⟩⟩
   rw [Nat.mul_one, ← hln]
   exact k7
 rw [hb0]
 refine (hC l.blk p v _ w hp hB (by rw [Lib.strCells_length]; exact hlen)).mono ?_
 rintro e' w' ⟨rfl, v', h1, h2, h3⟩
 rw [← strCells_app] at h1
 have hsz : (bs ++ s).size = (Lib.strCells (bs ++ s)).length := (Lib.strCells_length _).symm
 have hss : (bs ++ s).size = bs.size + s.size := ByteArray.size_append
 obtain ⟨ι', hA⟩ := bw_after hr hl hlo hbne hH h1 hb0 h2 h3 (fun e => by have := congrArg List.length e; rw [Lib.strCells_length] at this; simp only [List.length_nil] at this; omega)
 rw [hsz]
 refine ⟨_, ι', rfl, .tuple _ _ rfl fun i h4 h5 => ?_, hA⟩
 match i with
 | 0 => exact .top _
 | 1 => exact .top _
 | i + 2 => exact absurd (show i + 2 < 2 from h4) (by omega)
def At.bd (T e : TypeId) (b : Nat) (bs : ByteArray) : At := ⟨fun _ p => (bs.size = 0 ∧ p = [(b, .tcells T [.pointer none, .slice none 0 0])]) ∨ ∃ r, bs.size ≠ 0 ∧ p = [(b, .bld T r bs.size), (r, .trow e (Lib.strCells bs))], fun _ _ _ _ h => h⟩
noncomputable def bwO (bs s : ByteArray) : Option ByteArray := if s.size ≠ 0 ∧ bs.size + s.size ≤ 140737488355328 then some (bs ++ s) else none
noncomputable def bsO (bs : ByteArray) : Option ByteArray := if bs.size ≠ 0 then some bs else none
theorem bw_cl {P : Program} {G : Nat} {g : FuncId} {V : Vw} {Rs : List At} {T e : TypeId} {b : Nat} {bs s r : ByteArray}
  (hC : ∀ (wb : Nat) p v cs w, (p = .pointer none ∨ p = .pointer (some ⟨wb, 0, none⟩)) → BdW T e wb p v cs w → cs.length + s.size ≤ 140737488355328 → Calls P g #[.pointer (some ⟨wb, 0, none⟩), .string s] w fun e' w' => e' = .returned (.tuple #[.int .i64 s.size, .nilIface]) ∧
   ∃ v', BdW T e wb (.pointer (some ⟨wb, 0, none⟩)) v' (cs ++ Lib.strCells s) w' ∧ BdK wb v.ownBlock w w' ∧ ∀ g, v'.ownBlock = some g → v.ownBlock = some g ∨ w.heap.size ≤ g)
  (ow : Ow V (.bd T e b bs :: Rs)) (h : bwO bs s = some r) : ∃ v V', Cl P G g #[.pointer (some ⟨b, 0, none⟩), .string s] V.H v V'.H ∧ V.le V' ∧ ∃ (v1 v2 : Value), v = .tuple #[v1, v2] ∧ Ow V' (.bd T e b r :: Rs) := by
 unfold bwO at h
 split at h
 ·rename_i hh
  obtain ⟨hs, hlen⟩ := hh
  obtain rfl := Option.some.inj h
  have hss : (bs ++ s).size = bs.size + s.size := ByteArray.size_append
  obtain ⟨p, h1, h2, h3⟩ := Ow.chg (Bs := [.bd T e b bs]) (As := Rs) ow
  obtain ⟨p1, p2, rfl, h4, h5⟩ := h2.split
  cases h5
  rw [List.append_nil] at h1 h3
  rcases h4 with ⟨h0, rfl⟩ | ⟨r, h0, rfl⟩
  ·obtain ⟨q1, q2, q3, q4⟩ := h1.own (b, .tcells T [.pointer none, .slice none 0 0]) (by simp)
   have sd := bw_sd (P := P) (g := g) (H := V.H) (H1 := V.H) q1 hs hlen hC (.inl ⟨q4, h0, rfl⟩)
   let V' : Vw := (V.app none (.trow e (Lib.strCells (bs ++ s)))).set b (.bld T V.H.next (bs ++ s).size)
   have hbn : b ≠ V.H.next := by have : b < V.H.next := q2; omega
   have gb : V'.H.get b = some (.bld T V.H.next (bs ++ s).size) := by simp [V', Vw.set, AH.upd]
   have gn : V'.H.get V.H.next = some (.trow e (Lib.strCells (bs ++ s))) := by simp [V', Vw.set, Vw.app, AH.upd, AH.new, Ne.symm hbn]
   have go : ∀ c, c ≠ b → c ≠ V.H.next → V'.H.get c = V.H.get c := fun c e1 e2 => by simp [V', Vw.set, Vw.app, AH.upd, AH.new, e1, e2]
   have hle : V.le V' := ⟨Nat.le_succ _, rfl, fun _ h => h, fun c hc => go c (fun e => q3 (by rw [← e]; exact hc)) (by have := V.wf c hc; omega)⟩
   refine ⟨_, V', Cl.sd sd, hle, topV, topV, rfl, ?_⟩
   refine h3 V' [.bd T e b (bs ++ s)] [(b, .bld T V.H.next (bs ++ s).size), (V.H.next, .trow e (Lib.strCells (bs ++ s)))] hle (fun c c1 c2 c3 c4 => ⟨go c (by simpa using c3) (by omega), c4⟩) ⟨by simpa using hbn, fun q hq => ?_⟩ (.cons [(b, .bld T V.H.next (bs ++ s).size), (V.H.next, .trow e (Lib.strCells (bs ++ s)))] [] _ _ (Or.inr ⟨V.H.next, by omega, rfl⟩) .nil) (fun c hc => ?_)
   ·simp only [List.mem_cons, List.not_mem_nil, or_false] at hq
    rcases hq with rfl | rfl
    ·exact ⟨q1, Nat.lt_succ_of_lt q2, q3, gb⟩
    ·exact ⟨V.lon, Nat.lt_succ_self _, fun hf => by have := V.wf _ hf; omega, gn⟩
   ·simp at hc
    rcases hc with rfl | rfl
    ·exact .inl (by simp)
    ·exact .inr (Nat.le_refl _)
  ·obtain ⟨q1, q2, q3, q4⟩ := h1.own (b, .bld T r bs.size) (by simp)
   obtain ⟨k1, k2, k3, k4⟩ := h1.own (r, .trow e (Lib.strCells bs)) (by simp)
   have hrb : r ≠ b := by
    have := h1.nd
    simp at this
    exact fun e => this e.symm
   have sd := bw_sd (P := P) (g := g) (H := V.H) (H1 := V.H.upd r none) q1 hs hlen hC (.inr ⟨r, q4, k4, h0, hrb, k1, rfl⟩)
   let V' : Vw := (V.app (some r) (.trow e (Lib.strCells (bs ++ s)))).set b (.bld T V.H.next (bs ++ s).size)
   have hbn : b ≠ V.H.next := by have : b < V.H.next := q2; omega
   have gb : V'.H.get b = some (.bld T V.H.next (bs ++ s).size) := by simp [V', Vw.set, AH.upd]
   have gn : V'.H.get V.H.next = some (.trow e (Lib.strCells (bs ++ s))) := by simp [V', Vw.set, Vw.app, AH.upd, AH.new, Ne.symm hbn]
   have go : ∀ c, c ≠ b → c ≠ r → c ≠ V.H.next → V'.H.get c = V.H.get c := fun c e1 e2 e3 => by simp [V', Vw.set, Vw.app, AH.upd, AH.new, e1, e2, e3]
   have hle : V.le V' := ⟨Nat.le_succ _, rfl, fun _ h => h, fun c hc => go c (fun e => q3 (by rw [← e]; exact hc)) (fun e => k3 (by rw [← e]; exact hc)) (by have := V.wf c hc; omega)⟩
   refine ⟨_, V', Cl.sd sd, hle, topV, topV, rfl, ?_⟩
   refine h3 V' [.bd T e b (bs ++ s)] [(b, .bld T V.H.next (bs ++ s).size), (V.H.next, .trow e (Lib.strCells (bs ++ s)))] hle (fun c c1 c2 c3 c4 => ⟨go c (fun e => c3 (by simp [e])) (fun e => c3 (by simp [e])) (by omega), c4⟩) ⟨by simpa using hbn, fun q hq => ?_⟩ (.cons [(b, .bld T V.H.next (bs ++ s).size), (V.H.next, .trow e (Lib.strCells (bs ++ s)))] [] _ _ (Or.inr ⟨V.H.next, by omega, rfl⟩) .nil) (fun c hc => ?_)
   ·simp only [List.mem_cons, List.not_mem_nil, or_false] at hq
    rcases hq with rfl | rfl
    ·exact ⟨q1, Nat.lt_succ_of_lt q2, q3, gb⟩
    ·exact ⟨V.lon, Nat.lt_succ_self _, fun hf => by have := V.wf _ hf; omega, gn⟩
   ·simp at hc
    rcases hc with rfl | rfl
    ·exact .inl (by simp)
    ·exact .inr (Nat.le_refl _)
 ·cases h
theorem bs_sd {P : Program} {g : FuncId} {H : AH} {b r : Nat} {T e : TypeId} {bs : ByteArray} (hlo : H.lo ≤ b) (h1 : H.get b = some (.bld T r bs.size)) (h2 : H.get r = some (.trow e (Lib.strCells bs))) (h3 : bs.size ≠ 0) (h4 : r ≠ b) (h5 : H.lo ≤ r)
  (hC : ∀ (wb : Nat) p v l w, BdW T e wb p v (Lib.byteCells l) w → l ≠ [] → Calls P g #[.pointer (some ⟨wb, 0, none⟩)] w fun e' w' => e' = .returned (.string ⟨l.toArray⟩) ∧ BdK wb v.ownBlock w w') :
  Sd P g #[.pointer (some ⟨b, 0, none⟩)] H (.string bs) ((H.upd b none).upd r none) := by
 refine ⟨⟨Nat.le_refl _, rfl⟩, fun ι w cargs hr ha => ?_⟩
 obtain ⟨u, rfl, hu⟩ := ha.one
 obtain ⟨l, hl, rfl⟩ := hu.ptr_inv
 have hbne : H.get b ≠ none := by rw [h1]; simp
 have hrne : H.get r ≠ none := by rw [h2]; simp
 obtain ⟨lr, g1, g2, g3⟩ := hr.obj b l _ hl h1
 obtain ⟨cs, fr, k1, k2, k3, k4, k5, k6, k7⟩ := hr.obj r lr _ g1 h2
 have hne : lr.blk ≠ l.blk := fun e => h4 (hr.inj r b lr l g1 hl hrne hbne e)
 have hln : (Lib.strCells bs).length = bs.size := Lib.strCells_length bs
 have hB : BdW T e l.blk (.pointer (some ⟨l.blk, 0, none⟩)) (.slice (some ⟨lr.blk, 0, none⟩) bs.size lr.csz) (Lib.byteCells bs.data.toList) w := by
  have e0 : Lib.byteCells bs.data.toList = Lib.strCells bs := rfl
  rw [e0]
  refine ⟨g2, ?_, fun e => hne (Option.some.inj e)⟩
  rw [hln]
  refine ⟨by omega, .inr ⟨lr.blk, lr.csz, cs, fr, rfl, Nat.zero_le _, k1, by omega, by omega, by have : maxLen = 9223372036854775807 := rfl; omega, by omega, ?_⟩⟩
  rw [Nat.mul_one, ← hln]
  exact k7
 rw [g3]
 refine (hC l.blk _ _ bs.data.toList w hB (fun e => h3 (by have := congrArg List.length e; simpa using this))).mono ?_
 rintro e' w' ⟨rfl, hK⟩
 have hK : BdK l.blk (some lr.blk) w w' := hK
 let H' : AH := (H.upd b none).upd r none
 have gd : ∀ c, c ≠ b → c ≠ r → H'.get c = H.get c := fun c e1 e2 => by simp [H', AH.upd, e1, e2]
 have g0 : ∀ c, H'.get c = H.get c ∨ H'.get c = none := fun c => by
  by_cases e1 : c = b
  ·exact .inr (by simp [H', AH.upd, e1])
  ·by_cases e2 : c = r
   ·exact .inr (by simp [H', AH.upd, e2])
   ·exact .inl (gd c e1 e2)
 have gn : ∀ c, H'.get c ≠ none → c ≠ b ∧ c ≠ r ∧ H.get c ≠ none := fun c h => by
  refine ⟨fun e => h (by simp [H', AH.upd, e]), fun e => h (by simp [H', AH.upd, e]), ?_⟩
  rcases g0 c with e | e
  ·rw [← e]; exact h
  ·exact absurd e h
 refine ⟨_, ι, rfl, .atom _ (.string _), ⟨ι.le_refl, fun _ _ h => .inl h, Nat.le_refl _, rfl, fun c _ hc => ?_, fun c c1 c2 => ?_⟩, ⟨fun c lc o c1 c2 => ?_, fun c d lc ld c1 c2 c3 c4 c5 => ?_, fun c lc c1 => ?_, fun c c1 => ?_⟩, ⟨hK.size, fun k k8 k9 => ?_, hK.env⟩⟩
 ·rcases g0 c with e | e
  ·exact e.trans hc
  ·exact e
 ·have c2 : c < H.next := c2
  omega
 ·have hlv : H'.get c ≠ none := by
   show H'.get c ≠ none
   rw [show H'.get c = some o from c2]; simp
  obtain ⟨e1, e2, e3⟩ := gn c hlv
  have c3 : H.get c = some o := by rw [← gd c e1 e2]; exact c2
  have h6 : w'.heap[lc.blk]? = w.heap[lc.blk]? := hK.keep _ (hr.dom c lc c1).2 (fun e => e1 (hr.inj c b lc l c1 hl e3 hbne e)) (fun e => e2 (hr.inj c r lc lr c1 g1 e3 hrne (Option.some.inj e).symm))
  exact (hr.obj c lc o c1 c3).keep ι.le_refl h6
 ·exact hr.inj c d lc ld c1 c2 (gn c c3).2.2 (gn d c4).2.2 c5
 ·have := hr.dom c lc c1
  exact ⟨this.1, Nat.lt_of_lt_of_le this.2 hK.size⟩
 ·obtain ⟨lc, c2, c3, c4, c5⟩ := hr.low c c1
  refine ⟨lc, c2, c3, c4, fun e' c' c6 => c5 e' c' ?_⟩
  have c1 : c < H.lo := c1
  rw [← gd c (by omega) (by omega)]
  exact c6
 ·exact hK.keep k k8 (fun e => hbne (k9 b l hl e.symm hlo)) (fun e => hrne (k9 r lr g1 (Option.some.inj e) h5))
theorem bs_cl {P : Program} {G : Nat} {g : FuncId} {V : Vw} {Rs : List At} {T e : TypeId} {b : Nat} {bs r : ByteArray}
  (hC : ∀ (wb : Nat) p v l w, BdW T e wb p v (Lib.byteCells l) w → l ≠ [] → Calls P g #[.pointer (some ⟨wb, 0, none⟩)] w fun e' w' => e' = .returned (.string ⟨l.toArray⟩) ∧ BdK wb v.ownBlock w w')
  (ow : Ow V (.bd T e b bs :: Rs)) (h : bsO bs = some r) : ∃ v V', Cl P G g #[.pointer (some ⟨b, 0, none⟩)] V.H v V'.H ∧ V.le V' ∧ (v = .string r ∧ Ow V' Rs) := by
 unfold bsO at h
 split at h
 ·rename_i h0
  obtain rfl := Option.some.inj h
  obtain ⟨p, h1, h2, h3⟩ := Ow.chg (Bs := [.bd T e b bs]) (As := Rs) ow
  obtain ⟨p1, p2, rfl, h4, h5⟩ := h2.split
  cases h5
  rw [List.append_nil] at h1 h3
  rcases h4 with ⟨h6, _⟩ | ⟨r, _, rfl⟩
  ·exact absurd h6 h0
  ·obtain ⟨q1, q2, q3, q4⟩ := h1.own (b, .bld T r bs.size) (by simp)
   obtain ⟨k1, k2, k3, k4⟩ := h1.own (r, .trow e (Lib.strCells bs)) (by simp)
   have hrb : r ≠ b := by
    have := h1.nd
    simp at this
    exact fun e => this e.symm
   let V' : Vw := ⟨V.F, (V.H.upd b none).upd r none, V.wf, V.lon⟩
   have go : ∀ c, c ≠ b → c ≠ r → V'.H.get c = V.H.get c := fun c e1 e2 => by simp [V', AH.upd, e1, e2]
   have hle : V.le V' := ⟨Nat.le_refl _, rfl, fun _ h => h, fun c hc => go c (fun e => q3 (by rw [← e]; exact hc)) (fun e => k3 (by rw [← e]; exact hc))⟩
   refine ⟨_, V', Cl.sd (bs_sd (P := P) (g := g) q1 q4 k4 h0 hrb k1 hC), hle, rfl, ?_⟩
   exact h3 V' [] [] hle (fun c c1 c2 c3 c4 => ⟨go c (fun e => c3 (by simp [e])) (fun e => c3 (by simp [e])), c4⟩) ⟨List.nodup_nil, fun q h => nomatch h⟩ .nil (fun c hc => by simp at hc)
 ·cases h
section
variable {P : Program} {G N : Nat} {dr : Bool} {ops : Array Oper} {i : Nat} {hist : Hist} {l : List (Nat × Value)} {V : Vw} {Q : LQ} {o : Oper} {d : Tmp} {As : List At}
theorem O.allocB {T e : TypeId} {n m : Nat} (ow : Ow V As) (ho : ops[i]? = some o) (hd : o.dst = some d) (hg : GOk ops l o) (hop : o.op = .alloc T) (hi : tinfo P T (.agg #[.pointer none, .slice none 0 0]) n m)
  (hk : okU dr ops i (.alloc V.H.next) V.H (V.H.new (.tcells T [.pointer none, .slice none 0 0])) hist) (h : ∀ b V1, V.le V1 → Ow V1 (.bd T e b ByteArray.empty :: As) → WU dr P G ops (i + 1) (hadd dr (i, .alloc b, V.H, V1.H) hist) ((d, .pointer (some ⟨b, 0, none⟩)) :: l) V1.H Q) : WU dr P G ops i hist l V.H Q := by
 obtain ⟨q, h2, h3, h4, h5⟩ := tinfo_get hi
 refine U.k ho hd hg (.a _ _ (.allocT T q _ hop h2 h3 (by decide))) hk ?_
 have n : Nw V V.H.next (V.new (.tcells T [.pointer none, .slice none 0 0])) (.tcells T [.pointer none, .slice none 0 0]) := ⟨rfl, rfl⟩
 refine h V.H.next (V.new (.tcells T [.pointer none, .slice none 0 0])) n.le ?_
 obtain ⟨p, h6, h7, h8⟩ := Ow.chg (Bs := [.pt V.H.next (.tcells T [.pointer none, .slice none 0 0])]) (As := As) (ow.nw n)
 obtain ⟨p1, p2, rfl, h9, h10⟩ := h7.split
 have h9 : p1 = [(V.H.next, .tcells T [.pointer none, .slice none 0 0])] := h9
 subst h9
 cases h10
 exact h8 _ [.bd T e V.H.next ByteArray.empty] _ (.refl _) (fun c _ _ _ hf => ⟨rfl, hf⟩) h6 (.cons [(V.H.next, .tcells T [.pointer none, .slice none 0 0])] [] _ _ (Or.inl ⟨rfl, rfl⟩) .nil) (fun c hc => .inl hc)
end
end Go.Vm
