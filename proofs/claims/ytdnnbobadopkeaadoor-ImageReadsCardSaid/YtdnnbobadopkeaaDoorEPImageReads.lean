/-
 The law of reading an image.
-/
import Derived.Test.YtdnnbobadopkeaaDoorEP15C
set_option linter.unusedSimpArgs false
set_option linter.unusedVariables false
namespace Go.Vm.G15
open Go
theorem law15_ImageReads_law (s : ByteArray) (o : s.size ≤ 9223372036854775807) : law15_ImageReads s = some true := by
 by_cases h12 : 1200 < (s.size : Int)
 ·unfold law15_ImageReads
  rw [alive, Option.bind_some, if_neg (by decide), if_pos (by simp; omega)]
 by_cases h9 : (s.size : Int) < 9
 ·refine both_fail s h12 ?_ ?_
  ·unfold image_Decode
   rw [if_pos (by simp; omega)]
   rfl
  ·unfold ref15_Read
   rw [if_pos (by simp; omega)]
 have hB := bl_len s
 have i4 : ixS s 4 = some (((bl s).getD 4 0 : Nat) : Int) := by
  rw [show (4 : Int) = ((4 : Nat) : Int) from rfl, ixS_is, getD_at (by omega)]; rfl
 have ht := getD_lt (s := s) 4
 have hr5 : ref15_num s 5 = some ((nm (bl s) 5 : Nat) : Int) := rnum_at s (k := 5) (by omega) (by omega)
 obtain ⟨u5, hu5, hu5b⟩ := sub_at (s := s) (B := bl s) (k := 0) (m := 5) (by simp) (by omega)
 have hn5 : image_number u5 = some ((nm (bl s) 5 : Nat) : Int) := number_at (k := 5) (by simpa using hu5b) (by omega)
 have hnlt := nm_lt (s := s) 5
 generalize hT : (bl s).getD 4 0 = t at *
 generalize hN : nm (bl s) 5 = n at *
 obtain ⟨m4, hm4, hm4b⟩ := strSub_is s 0 4 (by omega) (by omega)
 have hm4c : bl m4 = (bl s).take 4 := by rw [hm4b, List.drop_zero]
 have hdec : image_Decode s = if decide (m4 ≠ str1) then some ((⟨[], [], []⟩ : TImage), 4) else (if (decide (8000 < (n : Int))) || (decide ((s.size : Int) ≠ (w64 ((w64 (9 + (w64 (4 * (w64 (t : Int)))))) + (w64 (5 * (n : Int))))))) then some ((⟨[], [], []⟩ : TImage), 4) else (strSub s 9 (s.size : Int)).bind fun sx68 => image_Decode_l1 sx68 (w64 (t : Int)) []) := by
  unfold image_Decode
  rw [if_neg (by simp; omega), show strSub s 0 4 = some m4 from hm4, Option.bind_some, Option.bind_some, i4, Option.bind_some, show strSub s 5 (s.size : Int) = some u5 from hu5, Option.bind_some, hn5, Option.bind_some]
 have href : ref15_Read s = if (decide (8000 < (n : Int))) || (decide ((s.size : Int) ≠ (w64 ((w64 (9 + (w64 (4 * (w64 (t : Int)))))) + (w64 (5 * (n : Int))))))) then some ((⟨[], [], []⟩ : TImage), false) else ref15_Read_l1 s (t : Int) (n : Int) [] 0 := by
  unfold ref15_Read
  rw [if_neg (by simp; omega), i4, Option.bind_some, hr5, Option.bind_some]
 by_cases hsz : 8000 < n ∨ s.size ≠ 9 + 4 * t + 5 * n
 ·have hc : ((decide (8000 < (n : Int))) || (decide ((s.size : Int) ≠ (w64 ((w64 (9 + (w64 (4 * (w64 (t : Int)))))) + (w64 (5 * (n : Int)))))))) = true := by
   by_cases h8 : 8000 < n
   ·rw [decide_eq_true (by omega), Bool.true_or]
   ·rw [w64_id (x := (t : Int)) (by omega) (by omega), w64_id (x := 4 * (t : Int)) (by omega) (by omega), w64_id (x := 9 + 4 * (t : Int)) (by omega) (by omega), w64_id (x := 5 * (n : Int)) (by omega) (by omega), w64_id (by omega) (by omega)]
    rw [Bool.or_eq_true, decide_eq_true_iff, decide_eq_true_iff]
    omega
  rw [hc] at hdec href
  refine both_fail s h12 ?_ ?_
  ·rw [hdec, if_pos rfl]
   split <;> rfl
  ·rw [href, if_pos rfl]
 have hc : ((decide (8000 < (n : Int))) || (decide ((s.size : Int) ≠ (w64 ((w64 (9 + (w64 (4 * (w64 (t : Int)))))) + (w64 (5 * (n : Int)))))))) = false := by
  rw [w64_id (x := (t : Int)) (by omega) (by omega), w64_id (x := 4 * (t : Int)) (by omega) (by omega), w64_id (x := 9 + 4 * (t : Int)) (by omega) (by omega), w64_id (x := 5 * (n : Int)) (by omega) (by omega), w64_id (by omega) (by omega)]
  rw [Bool.or_eq_false_iff, decide_eq_false_iff_not, decide_eq_false_iff_not]
  omega
 rw [hc, if_neg Bool.false_ne_true] at href
 rw [hc, if_neg (c := false = true) Bool.false_ne_true] at hdec
 have hn8 : n ≤ 8000 := by omega
 have hlen : (bl s).length = 9 + 4 * t + 5 * n := by omega
 have oi := img_ok s (9 + 4 * t) t n hn8 ht
 obtain ⟨g, hg, hgf⟩ := good_i _ oi
 obtain ⟨g', hg', hgn⟩ := good_notes _ oi
 obtain rfl : g = g' := Option.some.inj (hg.symm.trans hg')
 obtain ⟨u9, hu9, hu9b⟩ := sub_at (s := s) (B := bl s) (k := 0) (m := 9) (by simp) (by omega)
 have hu9c : bl u9 = (bl s).drop 9 := by simpa using hu9b
 have hd9 : (strSub s 9 (s.size : Int)).bind (fun sx68 => image_Decode_l1 sx68 (w64 (t : Int)) []) = image_Decode_l1 u9 (t : Int) [] := by
  rw [show strSub s 9 (s.size : Int) = some u9 from hu9, Option.bind_some, w64_id (by omega) (by omega)]
 rw [hd9] at hdec
 have hfail : (decide (m4 ≠ str1) || !g) = true → law15_ImageReads s = some true := by
  intro hb
  refine both_fail s h12 ?_ ?_
  ·rw [hdec]
   by_cases hm : decide (m4 ≠ str1) = true
   ·rw [if_pos hm]
   ·rw [if_neg hm]
    have hgb : g = false := by
     rw [Bool.not_eq_true] at hm
     rw [hm] at hb
     simpa using hb
    subst hgb
    have := dec_threads (bl s) t ht (by omega) hu9c (P := fun r => r = (⟨[], [], []⟩, 4)) (fun s1 h1 => dec_words s (TH (bl s) t) (9 + 4 * t) n hn8 hlen h1 (fun _ => rfl) (by
     rw [hg, Option.bind_some]
     exact ⟨_, rfl, rfl⟩))
    obtain ⟨r, h1, h2⟩ := this
    rw [h1, h2]
  ·rw [href]
   have := ref_threads s t (n : Int) ht (by omega) (P := fun r => r = (⟨[], [], []⟩, false)) (ref_words s (TH (bl s) t) t n ht hn8 hlen (by
    rw [good_same _ oi, hg, Option.bind_some]
    cases g with
    | false =>
     exact ⟨_, rfl, rfl⟩
    | true =>
     have hne : m4 ≠ str1 := by simpa using hb
     rw [if_neg (show ¬ (!true) = true by decide), bytes_is _ (hgf rfl) oi, Option.bind_some, Option.bind_some]
     have hnb : toB (EncB ⟨CW (bl s) (9 + 4 * t) n, NT (bl s) (9 + 4 * t) n, TH (bl s) t⟩) ≠ s := fun e => hne (bl_inj (by
      rw [hm4c, ← e]
      rfl))
     rw [if_pos (decide_eq_true hnb)]
     exact ⟨_, rfl, rfl⟩))
   obtain ⟨r, h1, h2⟩ := this
   rw [h1, h2]
 by_cases hb : (decide (m4 ≠ str1) || !g) = true
 ·exact hfail hb
 obtain ⟨hm, hgb⟩ : m4 = str1 ∧ g = true := by
  rw [Bool.not_eq_true, Bool.or_eq_false_iff] at hb
  exact ⟨by simpa using hb.1, by simpa using hb.2⟩
 subst hgb
 have hmg : (bl s).take 4 = [84, 66, 76, 49] := by
  rw [← hm4c, hm]
  rfl
 have hE : toB (EncB ⟨CW (bl s) (9 + 4 * t) n, NT (bl s) (9 + 4 * t) n, TH (bl s) t⟩) = s := by
  rw [encb_img s t n hlen hT hN hmg, toB_ci]
 have hdec2 := dec_threads (bl s) t ht (by omega) hu9c (P := fun r => r = (⟨CW (bl s) (9 + 4 * t) n, NT (bl s) (9 + 4 * t) n, TH (bl s) t⟩, 0)) (fun s1 h1 => dec_words s (TH (bl s) t) (9 + 4 * t) n hn8 hlen h1 (fun ⟨k, hk, hkf⟩ => by
  have := hgn rfl (nrd ((bl s).getD (9 + 4 * t + 5 * k + 4) 0)) (List.mem_of_getElem? (i := k) (by unfold NT; rw [tb_get?, if_pos hk]))
  rw [this] at hkf
  cases hkf) (by
   rw [hg, Option.bind_some, if_neg (show ¬ (!true) = true by decide)]
   exact ⟨_, rfl, rfl⟩))
 have href2 := ref_threads s t (n : Int) ht (by omega) (P := fun r => r = (⟨CW (bl s) (9 + 4 * t) n, NT (bl s) (9 + 4 * t) n, TH (bl s) t⟩, true)) (ref_words s (TH (bl s) t) t n ht hn8 hlen (by
  rw [good_same _ oi, hg, Option.bind_some, if_neg (show ¬ (!true) = true by decide), bytes_is _ (hgf rfl) oi, Option.bind_some, Option.bind_some, if_neg (by simp [hE])]
  exact ⟨_, rfl, rfl⟩))
 obtain ⟨r1, h1, h1e⟩ := hdec2
 obtain ⟨r2, h2, h2e⟩ := href2
 subst h1e h2e
 refine both_ok s _ h12 ?_ (by rw [hdec, if_neg (by simp [hm]), h1]) (by rw [href, h2]) (by rw [enc_is _ hg (hgf rfl) oi, hE])
 refine ⟨?_, ?_, ?_⟩
 ·show (tb _ _).length ≤ _
  rw [tb_len]; omega
 ·show (tb _ _).length ≤ _
  rw [tb_len]; omega
 ·show (tb _ _).length ≤ _
  rw [tb_len]; omega
end Go.Vm.G15
