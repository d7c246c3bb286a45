/-
 A function as a text.
-/
import Derived.Test.YtoefpigdafjcdaaDoorEP08t
set_option linter.unusedSimpArgs false
set_option linter.unusedVariables false
set_option linter.unusedSectionVars false
namespace Go.Vm.G08
open Go
theorem great2 (f : TFunc) (hl : f.code.length ≤ 9223372036854775807) : Ok (law08_great f) (fun b => b = false → (f.code.length ≤ 60 ∧ f.name.size ≤ 200) ∧ ∀ x ∈ f.code, x.args.length ≤ 20) := by
 unfold law08_great law08_great_l1
 refine loop_for (B := fun s => law08_great_l1b f s) f.code (fun k s => s = (k : Int) ∧ ∀ x ∈ f.code.take k, x.args.length ≤ 20) (fun k x s hk' hk hs => ?_) (fun s hs => ?_) ⟨rfl, by simp⟩
 ·obtain ⟨rfl, hs⟩ := hs
  unfold law08_great_l1b
  rw [if_pos (by simp; omega), ix_nat, hk]
  simp only [Option.bind_some]
  refine .ite (fun _ => .map (.ret (fun h => by cases h))) fun hb => .ret ⟨w64_succ (by omega), fun y hy => ?_⟩
  rw [mem_take_succ hk'] at hy
  rcases hy with hy | rfl
  ·exact hs y hy
  ·rw [List.getElem?_eq_getElem hk'] at hk
   have e := Option.some.inj hk
   rw [e]
   simp at hb
   omega
 ·obtain ⟨rfl, hs⟩ := hs
  rw [List.take_length] at hs
  unfold law08_great_l1b
  rw [if_neg (by simp)]
  refine .map (.ret fun h => ?_)
  simp at h
  exact ⟨by omega, hs⟩
theorem sub_tx {a b : List UInt8} {n : Int} (h : n = (a ++ b).length) : strSub (tx (a ++ b)) a.length n = some (tx b) := by
 subst h
 unfold strSub
 rw [tx_size, if_pos (by simp; omega)]
 congr 1
 apply ByteArray.ext
 rw [ByteArray.data_extract]
 simp [tx]
 rw [List.take_of_length_le (by omega)]
theorem bw_tx {a b : List UInt8} (hb : b ≠ []) (h : a.length + b.length ≤ 140737488355328) : bwO (tx a) (tx b) = some (tx (a ++ b)) := by
 have : b.length ≠ 0 := fun e => hb (List.eq_nil_of_length_eq_zero e)
 unfold bwO
 rw [tx_size, tx_size, if_pos ⟨this, h⟩, tx_app]
theorem bs_tx {a : List UInt8} (h : a ≠ []) : bsO (tx a) = some (tx a) := by
 have : a.length ≠ 0 := fun e => h (List.eq_nil_of_length_eq_zero e)
 unfold bsO
 rw [tx_size, if_pos this]
def hd (f : TFunc) : List UInt8 := f.name.data.toList ++ [32] ++ Lib.itoa f.params ++ [32] ++ Lib.itoa f.regs ++ [10]
def body (xs : List TIns) : List UInt8 := (xs.map (fun x => lineL x ++ [10])).flatten
theorem body_app (xs : List TIns) (x : TIns) : body (xs ++ [x]) = body xs ++ (lineL x ++ [10]) := by simp [body]
theorem body_len (xs : List TIns) (h : ∀ x ∈ xs, Si x) : (body xs).length ≤ 601 * xs.length := by
 induction xs with
 | nil => simp [body]
 | cons x xs ih =>
  have h1 := ih fun y hy => h y (List.mem_cons_of_mem _ hy)
  have h2 := line_le (h x (by simp))
  have e : body (x :: xs) = (lineL x ++ [10]) ++ body xs := rfl
  rw [e, List.length_append, List.length_append, List.length_cons]
  simp only [List.length_cons, List.length_nil]
  omega
structure Sf (f : TFunc) : Prop where
 len : f.code.length ≤ 60
 name : f.name.size ≤ 200
 ins : ∀ x ∈ f.code, Si x
 params : -9223372036854775808 ≤ f.params ∧ f.params ≤ 9223372036854775807
 regs : -9223372036854775808 ≤ f.regs ∧ f.regs ≤ 9223372036854775807
section
variable {f : TFunc}
theorem Sf.hd_len (s : Sf f) : (hd f).length ≤ 300 := by
 have h1 : f.name.data.toList.length ≤ 200 := s.name
 have h2 := itoa_le s.params.1 s.params.2
 have h3 := itoa_le s.regs.1 s.regs.2
 unfold hd
 simp only [List.length_append, List.length_cons, List.length_nil]
 omega
theorem Sf.body_len (s : Sf f) (k : Nat) : (body (f.code.take k)).length ≤ 36060 := by
 have h1 := G08.body_len (f.code.take k) fun x hx => s.ins x (List.mem_of_mem_take hx)
 have h2 := s.len
 rw [List.length_take] at h1
 omega
theorem text_is (s : Sf f) : ir_Text f = some (tx (hd f ++ body f.code)) := by
 have h1 : f.name.data.toList.length ≤ 200 := s.name
 have h2 := itoa_le s.params.1 s.params.2
 have h3 := itoa_le s.regs.1 s.regs.2
 have hl := s.len
 have hh := s.hd_len
 unfold ir_Text strconv_Itoa
 rw [tx_of f.name, str25_is, cat_tx (by simp only [List.length_append, List.length_cons, List.length_nil]; omega)]
 simp only [Option.bind_some]
 rw [itoa_tx s.params.1 s.params.2]
 simp only [Option.bind_some]
 rw [cat_tx (by simp only [List.length_append, List.length_cons, List.length_nil]; omega)]
 simp only [Option.bind_some]
 rw [cat_tx (by simp only [List.length_append, List.length_cons, List.length_nil]; omega)]
 simp only [Option.bind_some]
 rw [itoa_tx s.regs.1 s.regs.2]
 simp only [Option.bind_some]
 rw [cat_tx (by simp only [List.length_append, List.length_cons, List.length_nil]; omega)]
 simp only [Option.bind_some]
 rw [show str28 = tx [10] from rfl, cat_tx (by simp only [List.length_append, List.length_cons, List.length_nil]; omega)]
 simp only [Option.bind_some]
 unfold strings_Builder_WriteString
 rw [show ByteArray.empty = tx [] from rfl]
 show ((bwO (tx []) (tx (hd f))).bind fun x44 => ir_Text_l1 f x44 0) = _
 rw [bw_tx (by simp [hd]) (by simp; omega)]
 simp only [Option.bind_some, List.nil_append]
 unfold ir_Text_l1
 refine Ok.some_of (loop_for (B := fun t => ir_Text_l1b f t.1 t.2) f.code (fun k t => t = (tx (hd f ++ body (f.code.take k)), (k : Int))) (fun k x t hk' hk ht => ?_) (fun t ht => ?_) (by simp [body]))
 ·subst ht
  show Ok (ir_Text_l1b f _ k) _
  have hx := s.ins x (List.mem_of_getElem? hk)
  have hb := s.body_len k
  have hll := line_le hx
  unfold ir_Text_l1b strings_Builder_WriteString
  rw [if_pos (by simp; omega), ix_nat, hk]
  simp only [Option.bind_some]
  rw [ir_line hx]
  simp only [Option.bind_some]
  rw [show str28 = tx [10] from rfl, cat_tx (by simp only [List.length_cons, List.length_nil]; omega)]
  simp only [Option.bind_some]
  rw [bw_tx (by simp) (by simp only [List.length_append, List.length_cons, List.length_nil]; omega)]
  refine .ret ?_
  show _ = _
  rw [w64_succ (by omega), List.take_add_one, hk, Option.toList_some, body_app, List.append_assoc]
 ·subst ht
  show Ok (ir_Text_l1b f _ _) _
  unfold ir_Text_l1b strings_Builder_String
  rw [if_neg (by simp), List.take_length, bs_tx (by simp [hd])]
  exact .map (.ret rfl)
theorem head_is (n : Int) (h0 : -9223372036854775808 ≤ n) (h1 : n ≤ 9223372036854775807) : (ref08_Line (⟨99, (-1), (-1), (-1), n, [], 0, false, false⟩ : TIns)) = some (tx ([63, 32] ++ Lib.itoa n)) := by
 rw [ref_line (x := ⟨99, (-1), (-1), (-1), n, [], 0, false, false⟩) ⟨by simp, fun m hm => (by simp [regsL] at hm; omega), h0, h1⟩, lineL_eq]
 rfl
end
theorem law08_IrText_law (f : TFunc) (o : OK_TFunc f) : law08_IrText f = some true := by
 obtain ⟨onm, opar, oreg, ⟨ocode, ocl⟩, _⟩ := o
 have hrb : reachBytes = 140737488351232 := rfl
 unfold law08_IrText
 rw [alive_is]
 simp only [Option.bind_some]
 rw [if_neg (by decide)]
 refine Ok.some_of ((great2 f (by omega)).bind fun b hb => .ite (fun _ => .ret rfl) fun hbf => ?_)
 obtain ⟨⟨h1, h2⟩, h3⟩ := hb hbf
 have hpar : -9223372036854775808 ≤ f.params ∧ f.params ≤ 9223372036854775807 := opar.i64
 have hreg : -9223372036854775808 ≤ f.regs ∧ f.regs ≤ 9223372036854775807 := oreg.i64
 have s : Sf f := ⟨h1, h2, fun x hx => by
  obtain ⟨q1, q2, q3, q4, q5, ⟨q6, _⟩, _⟩ := ocode x hx
  refine ⟨h3 x hx, fun n hn => ?_, ?_⟩
  ·have : InR .i64 n := by
    unfold regsL at hn
    simp at hn
    rcases hn with rfl | rfl | rfl | hn
    ·exact q2
    ·exact q3
    ·exact q4
    ·exact q6 n hn
   exact this.i64
  ·exact q5.i64, hpar, hreg⟩
 have hn : f.name.data.toList.length ≤ 200 := s.name
 have h4 := itoa_le hpar.1 hpar.2
 have h5 := itoa_le hreg.1 hreg.2
 have hh := s.hd_len
 rw [tx_of f.name, str25_is, cat_tx (by simp only [List.length_append, List.length_cons, List.length_nil]; omega)]
 simp only [Option.bind_some]
 rw [head_is _ hpar.1 hpar.2]
 simp only [Option.bind_some]
 have e1 : strSub (tx ([63, 32] ++ Lib.itoa f.params)) 2 ((tx ([63, 32] ++ Lib.itoa f.params)).size : Int) = some (tx (Lib.itoa f.params)) := sub_tx (a := [63, 32]) (by rw [tx_size])
 rw [e1]
 simp only [Option.bind_some]
 rw [cat_tx (by simp only [List.length_append, List.length_cons, List.length_nil]; omega)]
 simp only [Option.bind_some]
 rw [cat_tx (by simp only [List.length_append, List.length_cons, List.length_nil]; omega)]
 simp only [Option.bind_some]
 rw [head_is _ hreg.1 hreg.2]
 simp only [Option.bind_some]
 have e2 : strSub (tx ([63, 32] ++ Lib.itoa f.regs)) 2 ((tx ([63, 32] ++ Lib.itoa f.regs)).size : Int) = some (tx (Lib.itoa f.regs)) := sub_tx (a := [63, 32]) (by rw [tx_size])
 rw [e2]
 simp only [Option.bind_some]
 rw [cat_tx (by simp only [List.length_append, List.length_cons, List.length_nil]; omega)]
 simp only [Option.bind_some]
 rw [show str28 = tx [10] from rfl, cat_tx (by simp only [List.length_append, List.length_cons, List.length_nil]; omega)]
 simp only [Option.bind_some]
 show Ok (law08_IrText_l1 f (tx (hd f)) 0) _
 unfold law08_IrText_l1
 refine loop_for (P := fun r => r = true) (B := fun t => law08_IrText_l1b f t.1 t.2) f.code (fun k t => t = (tx (hd f ++ body (f.code.take k)), (k : Int))) (fun k x t hk' hk ht => ?_) (fun t ht => ?_) (by simp [body])
 ·subst ht
  show Ok (law08_IrText_l1b f _ k) _
  have hx := s.ins x (List.mem_of_getElem? hk)
  have hb := s.body_len k
  have hll := line_le hx
  unfold law08_IrText_l1b
  rw [if_pos (by simp; omega), ix_nat, hk]
  simp only [Option.bind_some]
  rw [ir_line hx, ref_line hx]
  simp only [Option.bind_some]
  rw [if_neg (by simp), cat_tx (by simp only [List.length_append]; omega)]
  simp only [Option.bind_some]
  rw [show str28 = tx [10] from rfl, cat_tx (by simp only [List.length_append, List.length_cons, List.length_nil]; omega)]
  refine .ret ?_
  show _ = _
  rw [w64_succ (by omega), List.take_add_one, hk, Option.toList_some, body_app]
  simp
 ·subst ht
  show Ok (law08_IrText_l1b f _ _) _
  unfold law08_IrText_l1b
  rw [if_neg (by simp), List.take_length, text_is s]
  exact .map (.ret (by simp))
end Go.Vm.G08
