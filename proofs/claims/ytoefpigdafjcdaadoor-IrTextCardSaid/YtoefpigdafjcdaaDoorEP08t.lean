/-
 An instruction as a text: both ways of telling it.
-/
import Derived.Test.YtoefpigdafjcdaaDoorEPl1
import Derived.Test.YtoefpigdafjcdaaDoorEPl4
import Derived.Test.YtoefpigdafjcdaaDoorEOG08
set_option linter.unusedSimpArgs false
set_option linter.unusedVariables false
set_option linter.unusedSectionVars false
namespace Go.Vm.G08
open Go
def word (op : Int) : List UInt8 := if 0 < op ∧ op < 23 then (gl0.getD op.toNat ByteArray.empty).data.toList else [63]
def vv (n : Int) : List UInt8 := 118 :: Lib.itoa n
def vs (ns : List Int) : List (List UInt8) := (ns.filter (fun n => decide (0 ≤ n))).map vv
def regsL (x : TIns) : List Int := [x.d, x.a, x.b] ++ x.args
def lineL (x : TIns) : List UInt8 := Lib.join (word x.op :: (vs (regsL x) ++ [Lib.itoa x.imm])) [32]
theorem itoa_le {n : Int} (h0 : -9223372036854775808 ≤ n) (h1 : n ≤ 9223372036854775807) : (Lib.itoa n).length ≤ 20 := by
 unfold Lib.itoa
 split
 ·have := dec_len 19 n.natAbs (by omega) (by omega)
  simp only [List.length_cons]
  omega
 ·have := dec_len 19 n.toNat (by omega) (by omega)
  omega
theorem word_le (op : Int) : (word op).length ≤ 6 := by
 unfold word
 split
 ·rename_i h
  have key : ∀ k : Nat, k < 23 → ((gl0.getD k ByteArray.empty).data.toList).length ≤ 6 := by decide
  exact key _ (by omega)
 ·simp
theorem vs_take {ns : List Int} {k : Nat} {n : Int} (hk' : k < ns.length) (hk : ns[k]? = some n) : vs (ns.take (k + 1)) = vs (ns.take k) ++ (if 0 ≤ n then [vv n] else []) := by
 unfold vs
 rw [List.take_add_one, hk, Option.toList_some, List.filter_append, List.map_append]
 congr 1
 by_cases h : 0 ≤ n
 ·simp [h]
 ·simp [h]
theorem vs_len (ns : List Int) (hr : ∀ n ∈ ns, -9223372036854775808 ≤ n ∧ n ≤ 9223372036854775807) : (Lib.joinTail [32] (vs ns)).length ≤ 22 * ns.length := by
 induction ns with
 | nil => simp [vs, Lib.joinTail]
 | cons n ns ih =>
  have ih := ih fun m hm => hr m (List.mem_cons_of_mem _ hm)
  have hn := hr n (by simp)
  have := itoa_le hn.1 hn.2
  by_cases h : 0 ≤ n
  ·have e : vs (n :: ns) = vv n :: vs ns := by simp [vs, h]
   rw [e]
   have e2 : Lib.joinTail [32] (vv n :: vs ns) = ([32] ++ vv n) ++ Lib.joinTail [32] (vs ns) := by simp [Lib.joinTail]
   rw [e2, List.length_append]
   have e3 : ([32] ++ vv n).length = (Lib.itoa n).length + 2 := by simp [vv]
   rw [e3, List.length_cons]
   omega
  ·have e : vs (n :: ns) = vs ns := by simp [vs, h]
   rw [e, List.length_cons]
   omega
theorem tail_app (r : List (List UInt8)) (x : List UInt8) : Lib.joinTail [32] (r ++ [x]) = Lib.joinTail [32] r ++ ([32] ++ x) := by
 simp [Lib.joinTail]
theorem lineL_eq (x : TIns) : lineL x = word x.op ++ Lib.joinTail [32] (vs (regsL x)) ++ ([32] ++ Lib.itoa x.imm) := by
 unfold lineL
 rw [Lib.join_cons, tail_app, List.append_assoc]
structure Si (x : TIns) : Prop where
 args : x.args.length ≤ 20
 regs : ∀ n ∈ regsL x, -9223372036854775808 ≤ n ∧ n ≤ 9223372036854775807
 imm : -9223372036854775808 ≤ x.imm ∧ x.imm ≤ 9223372036854775807
section
variable {x : TIns}
theorem Si.rl (s : Si x) : (regsL x).length ≤ 23 := by
 have := s.args
 unfold regsL
 simp
 omega
theorem line_le (s : Si x) : (lineL x).length ≤ 600 := by
 rw [lineL_eq]
 have h1 := word_le x.op
 have h2 := vs_len (regsL x) s.regs
 have h3 := itoa_le s.imm.1 s.imm.2
 have h4 := s.rl
 simp only [List.length_append, List.length_cons, List.length_nil]
 omega
theorem str25_is : str25 = tx [32] := rfl
theorem ir_line (s : Si x) : ir_Line x = some (tx (lineL x)) := by
 have hrl := s.rl
 have key : ir_Line_k1 x [tx (word x.op)] = some (tx (lineL x)) := by
  unfold ir_Line_k1
  rw [apk_some (by have := s.args; simp; omega)]
  simp only [Option.bind_some]
  show ir_Line_l1 x (regsL x) [tx (word x.op)] 0 = _
  unfold ir_Line_l1
  refine Ok.some_of (loop_for (B := fun t => ir_Line_l1b x (regsL x) t.1 t.2) (regsL x) (fun k t => t = ((word x.op :: vs ((regsL x).take k)).map tx, (k : Int))) (fun k n t hk' hk ht => ?_) (fun t ht => ?_) rfl)
  ·subst ht
   show Ok (ir_Line_l1b x (regsL x) _ k) _
   have hn := s.regs n (List.mem_of_getElem? hk)
   have hil := itoa_le hn.1 hn.2
   unfold ir_Line_l1b ir_Line_k2
   rw [if_pos (by simp; omega), ix_nat, hk]
   simp only [Option.bind_some]
   have hlen : (vs ((regsL x).take k)).length ≤ 23 := by
    unfold vs
    rw [List.length_map]
    refine Nat.le_trans (List.length_filter_le _ _) ?_
    rw [List.length_take]; omega
   by_cases h0 : 0 ≤ n
   ·rw [if_pos (by simpa using h0)]
    unfold strconv_Itoa
    rw [itoa_tx hn.1 hn.2]
    simp only [Option.bind_some]
    rw [show str24 = tx [118] from rfl, cat_tx (by simp; omega)]
    simp only [Option.bind_some]
    rw [ap_some (by simp; omega)]
    refine .ret ?_
    show _ = _
    rw [w64_succ (by omega), vs_take hk' hk, if_pos h0]
    simp [vv]
   ·rw [if_neg (by simpa using h0)]
    refine .ret ?_
    show _ = _
    rw [w64_succ (by omega), vs_take hk' hk, if_neg h0, List.append_nil]
  ·subst ht
   show Ok (ir_Line_l1b x (regsL x) _ _) _
   unfold ir_Line_l1b strconv_Itoa strings_Join
   have hlen : (vs (regsL x)).length ≤ 23 := by
    unfold vs
    rw [List.length_map]
    exact Nat.le_trans (List.length_filter_le _ _) hrl
   rw [if_neg (by simp), List.take_length, itoa_tx s.imm.1 s.imm.2]
   simp only [Option.bind_some]
   rw [ap_some (by simp; omega)]
   simp only [Option.bind_some]
   have e : (word x.op :: vs (regsL x)).map tx ++ [tx (Lib.itoa x.imm)] = (word x.op :: (vs (regsL x) ++ [Lib.itoa x.imm])).map tx := by simp
   rw [e, str25_is, join_tx (by simp; omega) (by have := line_le s; unfold lineL at this; omega)]
   exact .map (.ret rfl)
 unfold ir_Line
 by_cases h : 0 < x.op ∧ x.op < 23
 ·rw [if_pos (by simpa using h)]
  have hg : ix gl0 x.op = some (tx (word x.op)) := by
   unfold word
   rw [if_pos h]
   have h2 : x.op.toNat < gl0.length := by rw [gl0_len]; omega
   unfold Go.Vm.ix
   rw [if_pos (by omega), List.getElem?_eq_getElem h2, ← tx_of, List.getD_eq_getElem?_getD, List.getElem?_eq_getElem h2]
   rfl
  rw [hg]
  exact key
 ·rw [if_neg (by simpa using h)]
  have hw : word x.op = [63] := by unfold word; rw [if_neg h]
  rw [hw] at key
  exact key
theorem ref_line (s : Si x) : ref08_Line x = some (tx (lineL x)) := by
 have hrl := s.rl
 have key : ref08_Line_k1 x (tx (word x.op)) = some (tx (lineL x)) := by
  unfold ref08_Line_k1
  rw [apk_some (by have := s.args; simp; omega)]
  simp only [Option.bind_some]
  show ref08_Line_l1 x (regsL x) (tx (word x.op)) 0 = _
  unfold ref08_Line_l1
  refine Ok.some_of (loop_for (B := fun t => ref08_Line_l1b x (regsL x) t.1 t.2) (regsL x) (fun k t => t = (tx (word x.op ++ Lib.joinTail [32] (vs ((regsL x).take k))), (k : Int))) (fun k n t hk' hk ht => ?_) (fun t ht => ?_) ?_)
  ·subst ht
   show Ok (ref08_Line_l1b x (regsL x) _ k) _
   have hn := s.regs n (List.mem_of_getElem? hk)
   have hil := itoa_le hn.1 hn.2
   have hw := word_le x.op
   have hv := vs_len ((regsL x).take k) (fun m hm => s.regs m (List.mem_of_mem_take hm))
   rw [List.length_take] at hv
   unfold ref08_Line_l1b ref08_Line_k2
   rw [if_pos (by simp; omega), ix_nat, hk]
   simp only [Option.bind_some]
   by_cases h0 : 0 ≤ n
   ·rw [if_pos (by simpa using h0), show str27 = tx [32, 118] from rfl, cat_tx (by simp only [List.length_append, List.length_cons, List.length_nil]; omega)]
    simp only [Option.bind_some]
    unfold strconv_Itoa
    rw [itoa_tx hn.1 hn.2]
    simp only [Option.bind_some]
    rw [cat_tx (by simp only [List.length_append, List.length_cons, List.length_nil]; omega)]
    refine .ret ?_
    show _ = _
    rw [w64_succ (by omega), vs_take hk' hk, if_pos h0, tail_app]
    simp [vv]
   ·rw [if_neg (by simpa using h0)]
    refine .ret ?_
    show _ = _
    rw [w64_succ (by omega), vs_take hk' hk, if_neg h0, List.append_nil]
  ·subst ht
   show Ok (ref08_Line_l1b x (regsL x) _ _) _
   have hw := word_le x.op
   have hv := vs_len (regsL x) s.regs
   have hil := itoa_le s.imm.1 s.imm.2
   unfold ref08_Line_l1b strconv_Itoa
   rw [if_neg (by simp), List.take_length, str25_is, cat_tx (by simp only [List.length_append, List.length_cons, List.length_nil]; omega)]
   simp only [Option.bind_some]
   rw [itoa_tx s.imm.1 s.imm.2]
   simp only [Option.bind_some]
   rw [cat_tx (by simp only [List.length_append, List.length_cons, List.length_nil]; omega)]
   refine .map (.ret ?_)
   rw [lineL_eq]
   simp
  ·simp [vs, Lib.joinTail]
 unfold ref08_Line
 by_cases h : 0 < x.op ∧ x.op < 23
 ·rw [if_pos (by simp; omega), w64_id (by omega) (by omega)]
  have hg : ix [str2, str3, str4, str5, str6, str7, str8, str9, str10, str11, str12, str13, str14, str15, str16, str17, str18, str19, str20, str21, str22, str23] (x.op - 1) = some (tx (word x.op)) := by
   unfold word
   rw [if_pos h, ← tx_of]
   obtain ⟨k, hk⟩ := Int.eq_ofNat_of_zero_le (show 0 ≤ x.op - 1 by omega)
   have hop : x.op.toNat = k + 1 := by omega
   rw [hk, ix_nat, hop]
   have key : ∀ k : Nat, k < 22 → [str2, str3, str4, str5, str6, str7, str8, str9, str10, str11, str12, str13, str14, str15, str16, str17, str18, str19, str20, str21, str22, str23][k]? = some (gl0.getD (k + 1) ByteArray.empty) := fun k hk => by
    have : k < (gl0.drop 1).length := by show k < 22; exact hk
    rw [show [str2, str3, str4, str5, str6, str7, str8, str9, str10, str11, str12, str13, str14, str15, str16, str17, str18, str19, str20, str21, str22, str23] = gl0.drop 1 from rfl, List.getElem?_drop, List.getD_eq_getElem?_getD, Nat.add_comm 1 k, List.getElem?_eq_getElem (by rw [gl0_len]; omega)]
    rfl
   exact key k (by omega)
  rw [hg]
  exact key
 ·rw [if_neg (by simp; omega)]
  have hw : word x.op = [63] := by unfold word; rw [if_neg h]
  rw [hw] at key
  exact key
end
theorem alive_is : law08_alive = some true := by
 unfold law08_alive
 rw [ir_line (x := ⟨1, 3, (-1), (-1), 7, [], 0, false, false⟩) ⟨by decide, by decide, by decide⟩]
 have h3 : Lib.itoa 3 = [51] := by unfold Lib.itoa; rw [if_neg (by decide), Lib.decDigits]; rfl
 have h7 : Lib.itoa 7 = [55] := by unfold Lib.itoa; rw [if_neg (by decide), Lib.decDigits]; rfl
 have e : lineL ⟨1, 3, (-1), (-1), 7, [], 0, false, false⟩ = [99, 111, 110, 115, 116, 32, 118, 51, 32, 55] := by
  rw [lineL_eq]
  have hr : vs (regsL ⟨1, 3, (-1), (-1), 7, [], 0, false, false⟩) = [vv 3] := rfl
  rw [hr]
  unfold vv
  rw [h3, h7]
  rfl
 rw [e]
 rfl
end Go.Vm.G08
