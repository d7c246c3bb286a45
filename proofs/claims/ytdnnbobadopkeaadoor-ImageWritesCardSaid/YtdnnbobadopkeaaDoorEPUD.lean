/-
 What is encoded is decoded.
-/
import Derived.Test.YtdnnbobadopkeaaDoorEPUC
set_option linter.unusedSimpArgs false
set_option linter.unusedVariables false
namespace Go.Vm.G15w
open Go
def N8 (k : TNote) : Prop := 0 ≤ k.role ∧ k.role < 8 ∧ 0 ≤ k.what ∧ k.what < 8
theorem nbt_inj8 {k k' : TNote} (h : N8 k) (h' : N8 k') (e : nbt k = nbt k') : k = k' := by
 obtain ⟨r, w, v, f⟩ := k
 obtain ⟨r', w', v', f'⟩ := k'
 obtain ⟨h1, h2, h3, h4⟩ := h
 obtain ⟨g1, g2, g3, g4⟩ := h'
 simp only at h1 h2 h3 h4 g1 g2 g3 g4
 unfold nbt at e
 simp only at e
 have e1 : r = r' := by cases v <;> cases f <;> cases v' <;> cases f' <;> simp at e <;> omega
 have e2 : w = w' := by cases v <;> cases f <;> cases v' <;> cases f' <;> simp at e <;> omega
 have e3 : v = v' := by cases v <;> cases f <;> cases v' <;> cases f' <;> simp at e ⊢ <;> omega
 have e4 : f = f' := by cases v <;> cases f <;> cases v' <;> cases f' <;> simp at e ⊢ <;> omega
 rw [e1, e2, e3, e4]
structure GW (i : TImage) : Prop where
 nl : i.notes.length = i.code.length
 c2 : i.code.length ≤ 8000
 code : ∀ x ∈ i.code, ∃ w : Nat, x = (w : Int) ∧ w < 4294967296
 nt : ∀ n ∈ i.notes, N8 n
 th : ∀ t ∈ i.threads, ∃ w : Nat, t = (w : Int) ∧ w < 4294967296
theorem encw_inj (a b : TImage) (ga : GW a) (gb : GW b) (ht : a.threads.length = b.threads.length) (h : EncB a = EncB b) : a = b := by
 have := ga.c2; have := gb.c2; have := ga.nl; have := gb.nl
 unfold EncB at h
 simp only [List.append_assoc, List.cons_append, List.nil_append, List.cons.injEq, true_and] at h
 obtain ⟨h1, h2⟩ := h
 obtain ⟨h3, h4⟩ := List.append_inj h2 rfl
 have h5 : a.code.length = b.code.length := fr_inj (by omega) (by omega) h3
 obtain ⟨h6, h7⟩ := flat_inj (Q := fun t : Int => ∃ w : Nat, t = (w : Int) ∧ w < 4294967296) (L := 4) (fun _ => rfl) (fun x y hx hy e => by
  obtain ⟨w, rfl, hw⟩ := hx
  obtain ⟨w', rfl, hw'⟩ := hy
  have := fr_inj hw hw' (show fr (w : Int).toNat = fr (w' : Int).toNat from e)
  rw [this]) a.threads b.threads _ _ ht ga.th gb.th h4
 have ok : ∀ i : TImage, GW i → ∀ p ∈ i.code.zip i.notes, (∃ w : Nat, p.1 = (w : Int) ∧ w < 4294967296) ∧ N8 p.2 := fun i g p hp => by
  obtain ⟨h1, h2⟩ := List.of_mem_zip hp
  exact ⟨g.code _ h1, g.nt _ h2⟩
 obtain ⟨h8, _⟩ := flat_inj (f := cf) (Q := fun p : Int × TNote => (∃ w : Nat, p.1 = (w : Int) ∧ w < 4294967296) ∧ N8 p.2) (L := 5) (fun _ => rfl) (fun x y hx hy e => by
  unfold cf at e
  obtain ⟨e1, e2⟩ := List.append_inj e rfl
  obtain ⟨⟨w, hw, hw2⟩, hn⟩ := hx
  obtain ⟨⟨w', hw', hw2'⟩, hn'⟩ := hy
  rw [hw, hw', Int.toNat_natCast, Int.toNat_natCast] at e1
  have e3 := fr_inj hw2 hw2' e1
  have e4 := nbt_inj8 hn hn' (by simpa using e2)
  obtain ⟨x1, x2⟩ := x
  obtain ⟨y1, y2⟩ := y
  simp only at hw hw' e4
  rw [hw, hw', e3, e4]) (a.code.zip a.notes) (b.code.zip b.notes) [] [] (by rw [List.length_zip, List.length_zip]; omega) (ok a ga) (ok b gb) (by rw [List.append_nil, List.append_nil]; exact h7)
 have e1 : a.code = b.code := by
  have := congrArg (List.map Prod.fst) h8
  rwa [List.map_fst_zip (by omega), List.map_fst_zip (by omega)] at this
 have e2 : a.notes = b.notes := by
  have := congrArg (List.map Prod.snd) h8
  rwa [List.map_snd_zip (by omega), List.map_snd_zip (by omega)] at this
 obtain ⟨c, n, t⟩ := a
 obtain ⟨c', n', t'⟩ := b
 simp only at e1 e2 h6
 rw [e1, e2, h6]
theorem ci_toB {xs : List Int} (h : ∀ x ∈ xs, 0 ≤ x ∧ x < 256) : ci (bl (toB xs)) = xs := by
 refine toB_inj (fun x hx => ?_) h (toB_ci _)
 unfold ci at hx
 obtain ⟨y, hy, rfl⟩ := List.mem_map.1 hx
 have := bl_lt _ y hy
 omega
theorem dec_enc (i : TImage) (hg : image_Good i = some true) (g : GF i) (o : OK_TImage i) : image_Decode (toB (EncB i)) = some (i, 0) := by
 have hci := ci_toB (encb_byte i g o)
 have t8 := g.t8
 have c2 := g.c2
 have nl := g.nl
 generalize hs : toB (EncB i) = s at *
 generalize hT : i.threads.length = t at *
 generalize hN : i.code.length = n at *
 have hBl : (bl s).length = (EncB i).length := by rw [← hci]; unfold ci; rw [List.length_map]
 have hEl : (EncB i).length = 9 + 4 * t + 5 * n := by
  unfold EncB
  rw [List.length_append, List.length_append, List.length_append, List.length_append, flat_len (L := 4) (fun _ => rfl), flat_len (L := 5) (fun _ => rfl), List.length_zip, fr_len]
  simp only [List.length_cons, List.length_nil]
  omega
 have hlen : (bl s).length = 9 + 4 * t + 5 * n := hBl.trans hEl
 obtain ⟨rest, hrest⟩ : ∃ rest, EncB i = 84 :: 66 :: 76 :: 49 :: (t : Int) :: (((n / 16777216 : Nat) : Int)) :: (((n / 65536 % 256 : Nat) : Int)) :: (((n / 256 % 256 : Nat) : Int)) :: (((n % 256 : Nat) : Int)) :: rest := by
  unfold EncB fr
  rw [hT, hN]
  exact ⟨_, rfl⟩
 have hB : ∀ (k : Nat) (v : Nat), (EncB i)[k]? = some (v : Int) → (bl s)[k]? = some v := fun k v h => by
  rw [← hci] at h
  unfold ci at h
  rw [List.getElem?_map] at h
  obtain ⟨x, h1, h2⟩ := Option.map_eq_some_iff.1 h
  rw [h1]
  have : x = v := by omega
  rw [this]
 have hD : ∀ (k : Nat) (v : Nat), (EncB i)[k]? = some (v : Int) → (bl s).getD k 0 = v := fun k v h => by
  rw [List.getD_eq_getElem?_getD, hB k v h]; rfl
 have h4 : (bl s).getD 4 0 = t := hD 4 t (by rw [hrest]; rfl)
 have h5 : nm (bl s) 5 = n := by
  unfold nm
  rw [hD 5 (n / 16777216) (by rw [hrest]; rfl), hD 6 (n / 65536 % 256) (by rw [hrest]; rfl), hD 7 (n / 256 % 256) (by rw [hrest]; rfl), hD 8 (n % 256) (by rw [hrest]; rfl)]
  unfold num4
  omega
 have hm : (bl s).take 4 = [84, 66, 76, 49] := by
  have a0 := hB 0 84 (by rw [hrest]; rfl)
  have a1 := hB 1 66 (by rw [hrest]; rfl)
  have a2 := hB 2 76 (by rw [hrest]; rfl)
  have a3 := hB 3 49 (by rw [hrest]; rfl)
  apply List.ext_getElem?
  intro k
  rw [List.getElem?_take]
  match k with
  | 0 => rw [if_pos (by omega), a0]; rfl
  | 1 => rw [if_pos (by omega), a1]; rfl
  | 2 => rw [if_pos (by omega), a2]; rfl
  | 3 => rw [if_pos (by omega), a3]; rfl
  | k + 4 => rw [if_neg (by omega)]; rfl
 have hE := encb_img s t n hlen h4 h5 hm
 rw [hci] at hE
 have himg : (⟨CW (bl s) (9 + 4 * t) n, NT (bl s) (9 + 4 * t) n, TH (bl s) t⟩ : TImage) = i := by
  refine encw_inj _ _ ⟨?_, ?_, fun x hx => ?_, fun x hx => ?_, fun x hx => ?_⟩ ⟨by omega, by omega, fun x hx => u32n' (o.1.1 x hx), fun k hk => ?_, fun x hx => ?_⟩ ?_ hE
  ·show (tb _ _).length = (tb _ _).length
   rw [tb_len, tb_len]
  ·show (tb _ _).length ≤ _
   rw [tb_len]; omega
  ·obtain ⟨k, _, rfl⟩ := mem_tb hx
   exact ⟨_, rfl, nm_lt _⟩
  ·obtain ⟨k, _, rfl⟩ := mem_tb hx
   have hb := getD_lt (s := s) (9 + 4 * t + 5 * k + 4)
   unfold N8 nrd
   simp only
   omega
  ·obtain ⟨k, _, rfl⟩ := mem_tb hx
   exact ⟨_, rfl, nm_lt _⟩
  ·have := g.nt k hk
   unfold NG' at this
   unfold N8
   omega
  ·have := g.th x hx
   exact ⟨x.toNat, by omega, by omega⟩
  ·show (tb _ _).length = _
   rw [tb_len, hT]
 have hB0 := bl_len s
 have i4 : ixS s 4 = some ((t : Nat) : Int) := by
  rw [show (4 : Int) = ((4 : Nat) : Int) from rfl, ixS_is, getD_at (by omega), h4]; rfl
 obtain ⟨u5, hu5, hu5b⟩ := sub_at (s := s) (B := bl s) (k := 0) (m := 5) (by simp) (by omega)
 have hn5 : image_number u5 = some ((nm (bl s) 5 : Nat) : Int) := number_at (k := 5) (by simpa using hu5b) (by omega)
 rw [h5] at hn5
 obtain ⟨m4, hm4, hm4b⟩ := strSub_is s 0 4 (by omega) (by omega)
 have hm4c : m4 = str1 := bl_inj (by rw [hm4b, List.drop_zero, hm]; rfl)
 obtain ⟨u9, hu9, hu9b⟩ := sub_at (s := s) (B := bl s) (k := 0) (m := 9) (by simp) (by omega)
 have hu9c : bl u9 = (bl s).drop 9 := by simpa using hu9b
 have hgn : ∀ x ∈ i.notes, image_good x = some true := by
  obtain ⟨r, h1, h2⟩ := good_notes i o
  exact h2 (Option.some.inj (h1.symm.trans hg))
 have hgi := hg
 rw [← himg] at hgi
 have hdec2 := dec_threads (bl s) t (by omega) (by omega) hu9c (P := fun r => r = (i, 0)) (fun s1 h1 => dec_words s (TH (bl s) t) (9 + 4 * t) n (by omega) hlen h1 (fun ⟨k, hk, hkf⟩ => by
  have := hgn (nrd ((bl s).getD (9 + 4 * t + 5 * k + 4) 0)) (by
   have : i.notes = NT (bl s) (9 + 4 * t) n := congrArg TImage.notes himg.symm
   rw [this]
   exact List.mem_of_getElem? (i := k) (by unfold NT; rw [tb_get?, if_pos hk]))
  rw [this] at hkf
  cases hkf) (by
   rw [hgi, Option.bind_some, if_neg (show ¬ (!true) = true by decide)]
   exact ⟨_, rfl, by rw [himg]⟩))
 obtain ⟨r1, h1, h1e⟩ := hdec2
 subst h1e
 unfold image_Decode
 rw [if_neg (by simp; omega), show strSub s 0 4 = some m4 from hm4, Option.bind_some, Option.bind_some, if_neg (by simp [hm4c]), i4, Option.bind_some, show strSub s 5 (s.size : Int) = some u5 from hu5, Option.bind_some, hn5, Option.bind_some]
 rw [if_neg ?_, show strSub s 9 (s.size : Int) = some u9 from hu9, Option.bind_some, w64_id (by omega) (by omega)]
 ·exact h1
 ·rw [w64_id (x := (t : Int)) (by omega) (by omega), w64_id (x := 4 * (t : Int)) (by omega) (by omega), w64_id (x := 9 + 4 * (t : Int)) (by omega) (by omega), w64_id (x := 5 * (n : Int)) (by omega) (by omega), w64_id (by omega) (by omega)]
  rw [Bool.not_eq_true, Bool.or_eq_false_iff, decide_eq_false_iff_not, decide_eq_false_iff_not]
  omega
end Go.Vm.G15w
