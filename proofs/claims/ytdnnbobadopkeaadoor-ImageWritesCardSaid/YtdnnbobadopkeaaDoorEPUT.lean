/-
 Plain laws, one behind the other.
-/
import Derived.Test.YtdnnbobadopkeaaDoorEPUA
import Derived.Test.YtdnnbobadopkeaaDoorEPl4
set_option linter.unusedSimpArgs false
set_option linter.unusedVariables false
namespace Go.Vm.G15w.T
open Go
theorem Bt {α β : Type} (a : α) (f : α → Option β) : (some a).bind f = f a := rfl
section
def ptx (p : TInst) (c : Int) : List UInt8 := if c = 100 then 114 :: Lib.itoa p.d else if c = 97 then 114 :: Lib.itoa p.a else if c = 98 then 114 :: Lib.itoa p.b else Lib.itoa p.imm
structure Rg (p : TInst) : Prop where
 d0 : -9223372036854775808 ≤ p.d
 d1 : p.d ≤ 9223372036854775807
 a0 : -9223372036854775808 ≤ p.a
 a1 : p.a ≤ 9223372036854775807
 b0 : -9223372036854775808 ≤ p.b
 b1 : p.b ≤ 9223372036854775807
 i0 : -9223372036854775808 ≤ p.imm
 i1 : p.imm ≤ 9223372036854775807
theorem cat_r {n : Int} (h0 : -9223372036854775808 ≤ n) (h1 : n ≤ 9223372036854775807) : ∃ s, strconv_Itoa n = some s ∧ catO str42 s = some (tx (114 :: Lib.itoa n)) := by
 have := itoa_len h0 h1
 exact ⟨_, itoa_tx h0 h1, cat_tx (a := [114]) (by simp; omega)⟩
theorem ptx_len {p : TInst} (R : Rg p) (c : Int) : (ptx p c).length ≤ 21 := by
 have h1 := itoa_len R.d0 R.d1
 have h2 := itoa_len R.a0 R.a1
 have h3 := itoa_len R.b0 R.b1
 have h4 := itoa_len R.i0 R.i1
 unfold ptx
 split
 ·simp; omega
 ·split
  ·simp; omega
  ·split
   ·simp; omega
   ·omega
theorem ptx_byte (p : TInst) (c : Int) : ∀ x ∈ ptx p c, x.toNat = 114 ∨ x.toNat = 45 ∨ (48 ≤ x.toNat ∧ x.toNat ≤ 57) := by
 have key : ∀ n : Int, ∀ x ∈ (114 : UInt8) :: Lib.itoa n, x.toNat = 114 ∨ x.toNat = 45 ∨ (48 ≤ x.toNat ∧ x.toNat ≤ 57) := fun n x hx => by
  rcases List.mem_cons.1 hx with rfl | hx
  ·exact .inl rfl
  ·exact .inr (itoa_byte n x hx)
 intro x hx
 unfold ptx at hx
 split at hx
 ·exact key _ x hx
 ·split at hx
  ·exact key _ x hx
  ·split at hx
   ·exact key _ x hx
   ·exact .inr (itoa_byte _ x hx)
theorem ptx_ne (p : TInst) (c : Int) : ptx p c ≠ [] := by
 unfold ptx
 split
 ·simp
 ·split
  ·simp
  ·split
   ·simp
   ·exact itoa_ne _
theorem jn2 (a b : List UInt8) (r : List (List UInt8)) : Lib.join (a :: b :: r) [44, 32] = a ++ [44, 32] ++ Lib.join (b :: r) [44, 32] := by
 simp [Lib.join, List.intercalate, List.intersperse]
theorem jn1 (a : List UInt8) : Lib.join [a] [44, 32] = a := by simp [Lib.join, List.intercalate, List.intersperse]
theorem jn_len : ∀ ls : List (List UInt8), (∀ l ∈ ls, l.length ≤ 21) → (Lib.join ls [44, 32]).length ≤ 23 * ls.length
 | [], _ => by simp [Lib.join, List.intercalate]
 | [a], h => by
  rw [jn1]
  have := h a List.mem_cons_self
  simp; omega
 | a :: b :: r, h => by
  have h1 := jn_len (b :: r) (fun l hl => h l (List.mem_cons_of_mem _ hl))
  have h2 := h a List.mem_cons_self
  rw [jn2]
  simp at h1 ⊢
  omega
theorem jn_byte : ∀ ls : List (List UInt8), ∀ x ∈ Lib.join ls [44, 32], x = 44 ∨ x = 32 ∨ ∃ l ∈ ls, x ∈ l
 | [], x, h => by simp [Lib.join, List.intercalate] at h
 | [a], x, h => by
  rw [jn1] at h
  exact .inr (.inr ⟨a, List.mem_cons_self, h⟩)
 | a :: b :: r, x, h => by
  rw [jn2] at h
  rcases List.mem_append.1 h with h | h
  ·rcases List.mem_append.1 h with h | h
   ·exact .inr (.inr ⟨a, List.mem_cons_self, h⟩)
   ·simp at h
    rcases h with h | h
    ·exact .inl h
    ·exact .inr (.inl h)
  ·rcases jn_byte (b :: r) x h with h | h | ⟨l, h1, h2⟩
   ·exact .inl h
   ·exact .inr (.inl h)
   ·exact .inr (.inr ⟨l, List.mem_cons_of_mem _ h1, h2⟩)
theorem jn_last : ∀ ls : List (List UInt8), ls ≠ [] → (∀ l ∈ ls, l ≠ []) → ∃ y l, l ∈ ls ∧ y ∈ l ∧ (Lib.join ls [44, 32]).getLast? = some y
 | [], h, _ => absurd rfl h
 | [a], _, h => by
  rw [jn1]
  have ha := h a List.mem_cons_self
  exact ⟨_, a, List.mem_cons_self, List.getLast_mem ha, List.getLast?_eq_some_getLast ha⟩
 | a :: b :: r, _, h => by
  obtain ⟨y, l, h1, h2, h3⟩ := jn_last (b :: r) (List.cons_ne_nil _ _) (fun l hl => h l (List.mem_cons_of_mem _ hl))
  refine ⟨y, l, List.mem_cons_of_mem _ h1, h2, ?_⟩
  rw [jn2, List.getLast?_append, h3]
  rfl
theorem nsp {x : UInt8} (h : x.toNat = 114 ∨ x.toNat = 45 ∨ (48 ≤ x.toNat ∧ x.toNat ≤ 57)) : Lib.isSp x = false := by
 have key : ∀ c : UInt8, c.toNat < 45 → (x == c) = false := fun c hc => by
  rw [beq_eq_false_iff_ne]
  intro e
  subst e
  omega
 unfold Lib.isSp
 rw [key 9 (by decide), key 10 (by decide), key 11 (by decide), key 12 (by decide), key 13 (by decide), key 32 (by decide)]
 rfl
theorem trim1 {n : List UInt8} {x : UInt8} (hn : n.head? = some x) (hx : Lib.isSp x = false) (p : TInst) {xs : List Int} (h : xs ≠ []) : Lib.trimSpace (n ++ [32] ++ Lib.join (xs.map (ptx p)) [44, 32]) = n ++ [32] ++ Lib.join (xs.map (ptx p)) [44, 32] := by
 obtain ⟨y, l, h1, h2, h3⟩ := jn_last (xs.map (ptx p)) (by simpa using h) (fun l hl => by
  obtain ⟨c, _, rfl⟩ := List.mem_map.1 hl
  exact ptx_ne p c)
 obtain ⟨c, _, rfl⟩ := List.mem_map.1 h1
 refine trim_id (x := x) (y := y) ?_ hx ?_ (nsp (ptx_byte p c y h2))
 ·cases n with
  | nil => cases hn
  | cons a t => exact hn
 ·rw [List.getLast?_append, h3]
  rfl
theorem step_t {p : TInst} (R : Rg p) {sh : Tisa_shape} {xs : List Int} {parts : List (List UInt8)} {j : Nat} (hj : j < xs.length) (hx : xs.length ≤ 100) (hl : parts.length ≤ 100) :
  isa_Text_l1b p sh xs (parts.map tx) (j : Int) = some (.inl ((parts ++ [ptx p xs[j]]).map tx, ((j + 1 : Nat) : Int))) := by
 have hap : ∀ l : List UInt8, ap (parts.map tx) [tx l] = some ((parts ++ [l]).map tx) := fun l => by
  rw [ap_some (by simp; omega), List.map_append]
  rfl
 have hk : ∀ l : List UInt8, isa_Text_k1 (j : Int) ((parts ++ [l]).map tx) = some (.inl ((parts ++ [l]).map tx, ((j + 1 : Nat) : Int))) := fun l => by
  unfold isa_Text_k1
  rw [w64_succ (by omega)]
 unfold isa_Text_l1b
 rw [if_pos (decide_eq_true (by omega)), ix_some hj, Bt]
 unfold ptx
 by_cases h1 : xs[j] = 100
 ·obtain ⟨s, e1, e2⟩ := cat_r R.d0 R.d1
  rw [if_pos (decide_eq_true h1), if_pos h1, e1, Bt, e2, Bt, hap, Bt, hk]
 rw [if_neg (by simpa using h1), if_neg h1]
 by_cases h2 : xs[j] = 97
 ·obtain ⟨s, e1, e2⟩ := cat_r R.a0 R.a1
  rw [if_pos (decide_eq_true h2), if_pos h2, e1, Bt, e2, Bt, hap, Bt, hk]
 rw [if_neg (by simpa using h2), if_neg h2]
 by_cases h3 : xs[j] = 98
 ·obtain ⟨s, e1, e2⟩ := cat_r R.b0 R.b1
  rw [if_pos (decide_eq_true h3), if_pos h3, e1, Bt, e2, Bt, hap, Bt, hk]
 rw [if_neg (by simpa using h3), if_neg h3, show strconv_Itoa p.imm = some (tx (Lib.itoa p.imm)) from itoa_tx R.i0 R.i1, Bt, hap, Bt, hk]
theorem text_l {p : TInst} (R : Rg p) {sh : Tisa_shape} {n : List UInt8} {xs : List Int} (hs : sh.name = tx n) (hn : n.length ≤ 100) (ha : ∀ b ∈ n, b.toNat < 128) (hx : xs.length ≤ 100) :
  isa_Text_l1 p sh xs [] 0 = some (tx (Lib.trimSpace (n ++ [32] ++ Lib.join (xs.map (ptx p)) [44, 32]))) := by
 unfold isa_Text_l1
 refine Ok.some_of (Ok.loop (fun k s => s = (((xs.take k).map (ptx p)).map tx, (k : Int))) xs.length (fun k s hk hs2 => ?_) (fun s hs2 => ?_) rfl)
 ·subst hs2
  have h1 := step_t R (sh := sh) (parts := (xs.take k).map (ptx p)) hk hx (by simp; omega)
  refine ⟨_, h1, ?_⟩
  show (_, _) = (_, _)
  congr 2
  rw [List.take_succ_eq_append_getElem hk, List.map_append]
  rfl
 ·subst hs2
  show Ok (isa_Text_l1b p sh xs (((xs.take xs.length).map (ptx p)).map tx) (xs.length : Int)) _
  have hjl := jn_len (xs.map (ptx p)) (fun l hl => by
   obtain ⟨c, _, rfl⟩ := List.mem_map.1 hl
   exact ptx_len R c)
  rw [List.length_map] at hjl
  rw [List.take_length]
  unfold isa_Text_l1b
  rw [if_neg (by simp), hs, show catO (tx n) str35 = some (tx (n ++ [32])) from cat_tx (b := [32]) (by simp; omega), Bt,
   show strings_Join ((xs.map (ptx p)).map tx) str43 = some (tx (Lib.join (xs.map (ptx p)) [44, 32])) from join_tx (by simp; omega) (by omega), Bt, cat_tx (by simp; omega), Bt,
   show strings_TrimSpace (tx (n ++ [32] ++ Lib.join (xs.map (ptx p)) [44, 32])) = some (tx (Lib.trimSpace (n ++ [32] ++ Lib.join (xs.map (ptx p)) [44, 32]))) from trim_tx (by simp; omega) (fun b hb => ?_), Bt]
  ·exact ⟨_, rfl, rfl⟩
  ·rcases List.mem_append.1 hb with hb | hb
   ·rcases List.mem_append.1 hb with hb | hb
    ·exact ha b hb
    ·rw [List.mem_singleton.1 hb]; decide
   ·rcases jn_byte _ b hb with rfl | rfl | ⟨l, h1, h2⟩
    ·decide
    ·decide
    ·obtain ⟨c, _, rfl⟩ := List.mem_map.1 h1
     have := ptx_byte p c b h2
     omega
def args (p : TInst) : List Int → List UInt8
 | [] => []
 | x :: xs => 32 :: Lib.join ((x :: xs).map (ptx p)) [44, 32]
theorem text_gen {p : TInst} (R : Rg p) {n : List UInt8} {xs : List Int} {nb f : ByteArray} {wd : Int} {x y : UInt8} (hg : isa_Good p = some true) (hi : ix gl1 p.op = some ⟨nb, f, wd⟩) (hb : bytesO f = some xs) (h10 : p.op ≠ 10) (hs : nb = tx n) (hn : n.length ≤ 100) (ha : ∀ b ∈ n, b.toNat < 128) (hx : xs.length ≤ 100)
  (h1 : n.head? = some x) (hx1 : Lib.isSp x = false) (h2 : n.getLast? = some y) (hy : Lib.isSp y = false) : isa_Text p = some (tx (n ++ args p xs)) := by
 unfold isa_Text
 rw [hg, Bt, if_neg (by decide), hi, Bt, if_neg (by simpa using h10), hb, Bt, text_l R hs hn ha hx]
 cases xs with
 | nil =>
  rw [List.map_nil, show Lib.join [] [44, 32] = [] from rfl, List.append_nil, trim_end h1 hx1 h2 hy]
  simp [args]
 | cons c cs =>
  rw [trim1 h1 hx1 p (List.cons_ne_nil _ _)]
  simp [args]
section
variable {d a b i : Int}
theorem tt_1 (h : b = 0 ∧ 0 ≤ d ∧ d < 32 ∧ 0 ≤ a ∧ a < 32 ∧ -32768 ≤ i ∧ i < 32768 ∧ i % 4 = 0) : isa_Text ⟨1, d, a, b, i⟩ = some (tx ([108, 100] ++ args ⟨1, d, a, b, i⟩ [100, 97, 109])) :=
 text_gen (n := [108, 100]) (by constructor <;> simp only [] <;> omega) ((ig_1 d a b i).trans (congrArg some (decide_eq_true h))) gl_1 by_str3 (by simp) rfl (by decide) (by decide) (by decide) rfl (by decide) rfl (by decide)
theorem tt_2 (h : b = 0 ∧ 0 ≤ d ∧ d < 32 ∧ 0 ≤ a ∧ a < 32 ∧ -32768 ≤ i ∧ i < 32768 ∧ i % 4 = 0) : isa_Text ⟨2, d, a, b, i⟩ = some (tx ([115, 116, 100] ++ args ⟨2, d, a, b, i⟩ [100, 97, 109])) :=
 text_gen (n := [115, 116, 100]) (by constructor <;> simp only [] <;> omega) ((ig_2 d a b i).trans (congrArg some (decide_eq_true h))) gl_2 by_str3 (by simp) rfl (by decide) (by decide) (by decide) rfl (by decide) rfl (by decide)
theorem tt_3 (h : b = 0 ∧ 0 ≤ d ∧ d < 32 ∧ 0 ≤ a ∧ a < 32 ∧ -32768 ≤ i ∧ i < 32768) : isa_Text ⟨3, d, a, b, i⟩ = some (tx ([97, 100, 100, 105] ++ args ⟨3, d, a, b, i⟩ [100, 97, 105])) :=
 text_gen (n := [97, 100, 100, 105]) (by constructor <;> simp only [] <;> omega) ((ig_3 d a b i).trans (congrArg some (decide_eq_true h))) gl_3 by_str6 (by simp) rfl (by decide) (by decide) (by decide) rfl (by decide) rfl (by decide)
theorem tt_4 (h : i = 0 ∧ 0 ≤ d ∧ d < 32 ∧ 0 ≤ a ∧ a < 32 ∧ 0 ≤ b ∧ b < 32) : isa_Text ⟨4, d, a, b, i⟩ = some (tx ([97, 100, 100] ++ args ⟨4, d, a, b, i⟩ [100, 97, 98])) :=
 text_gen (n := [97, 100, 100]) (by constructor <;> simp only [] <;> omega) ((ig_4 d a b i).trans (congrArg some (decide_eq_true h))) gl_4 by_str8 (by simp) rfl (by decide) (by decide) (by decide) rfl (by decide) rfl (by decide)
theorem tt_5 (h : i = 0 ∧ 0 ≤ d ∧ d < 32 ∧ 0 ≤ a ∧ a < 32 ∧ 0 ≤ b ∧ b < 32) : isa_Text ⟨5, d, a, b, i⟩ = some (tx ([115, 117, 98, 102] ++ args ⟨5, d, a, b, i⟩ [100, 97, 98])) :=
 text_gen (n := [115, 117, 98, 102]) (by constructor <;> simp only [] <;> omega) ((ig_5 d a b i).trans (congrArg some (decide_eq_true h))) gl_5 by_str8 (by simp) rfl (by decide) (by decide) (by decide) rfl (by decide) rfl (by decide)
theorem tt_6 (h : i = 0 ∧ 0 ≤ d ∧ d < 32 ∧ 0 ≤ a ∧ a < 32 ∧ 0 ≤ b ∧ b < 32) : isa_Text ⟨6, d, a, b, i⟩ = some (tx ([109, 117, 108, 108, 100] ++ args ⟨6, d, a, b, i⟩ [100, 97, 98])) :=
 text_gen (n := [109, 117, 108, 108, 100]) (by constructor <;> simp only [] <;> omega) ((ig_6 d a b i).trans (congrArg some (decide_eq_true h))) gl_6 by_str8 (by simp) rfl (by decide) (by decide) (by decide) rfl (by decide) rfl (by decide)
theorem tt_7 (h : i = 0 ∧ 0 ≤ d ∧ d < 32 ∧ 0 ≤ a ∧ a < 32 ∧ 0 ≤ b ∧ b < 32) : isa_Text ⟨7, d, a, b, i⟩ = some (tx ([100, 105, 118, 100] ++ args ⟨7, d, a, b, i⟩ [100, 97, 98])) :=
 text_gen (n := [100, 105, 118, 100]) (by constructor <;> simp only [] <;> omega) ((ig_7 d a b i).trans (congrArg some (decide_eq_true h))) gl_7 by_str8 (by simp) rfl (by decide) (by decide) (by decide) rfl (by decide) rfl (by decide)
theorem tt_8 (h : d = 0 ∧ i = 0 ∧ 0 ≤ a ∧ a < 32 ∧ 0 ≤ b ∧ b < 32) : isa_Text ⟨8, d, a, b, i⟩ = some (tx ([99, 109, 112, 100] ++ args ⟨8, d, a, b, i⟩ [97, 98])) :=
 text_gen (n := [99, 109, 112, 100]) (by constructor <;> simp only [] <;> omega) ((ig_8 d a b i).trans (congrArg some (decide_eq_true h))) gl_8 by_str13 (by simp) rfl (by decide) (by decide) (by decide) rfl (by decide) rfl (by decide)
theorem tt_9 (h : d = 0 ∧ b = 0 ∧ 0 ≤ a ∧ a < 32 ∧ -32768 ≤ i ∧ i < 32768) : isa_Text ⟨9, d, a, b, i⟩ = some (tx ([99, 109, 112, 100, 105] ++ args ⟨9, d, a, b, i⟩ [97, 105])) :=
 text_gen (n := [99, 109, 112, 100, 105]) (by constructor <;> simp only [] <;> omega) ((ig_9 d a b i).trans (congrArg some (decide_eq_true h))) gl_9 by_str15 (by simp) rfl (by decide) (by decide) (by decide) rfl (by decide) rfl (by decide)
theorem tt_11 (h : d = 0 ∧ a = 0 ∧ b = 0 ∧ -8388608 ≤ i ∧ i < 8388608) : isa_Text ⟨11, d, a, b, i⟩ = some (tx ([98] ++ args ⟨11, d, a, b, i⟩ [108])) :=
 text_gen (n := [98]) (by constructor <;> simp only [] <;> omega) ((ig_11 d a b i).trans (congrArg some (decide_eq_true h))) gl_11 by_str19 (by simp) rfl (by decide) (by decide) (by decide) rfl (by decide) rfl (by decide)
theorem tt_12 (h : d = 0 ∧ a = 0 ∧ b = 0 ∧ -8388608 ≤ i ∧ i < 8388608) : isa_Text ⟨12, d, a, b, i⟩ = some (tx ([98, 108] ++ args ⟨12, d, a, b, i⟩ [108])) :=
 text_gen (n := [98, 108]) (by constructor <;> simp only [] <;> omega) ((ig_12 d a b i).trans (congrArg some (decide_eq_true h))) gl_12 by_str19 (by simp) rfl (by decide) (by decide) (by decide) rfl (by decide) rfl (by decide)
theorem tt_13 (h : d = 0 ∧ a = 0 ∧ b = 0 ∧ i = 0) : isa_Text ⟨13, d, a, b, i⟩ = some (tx ([98, 108, 114] ++ args ⟨13, d, a, b, i⟩ [])) :=
 text_gen (n := [98, 108, 114]) (by constructor <;> simp only [] <;> omega) ((ig_13 d a b i).trans (congrArg some (decide_eq_true h))) gl_13 by_nil (by simp) rfl (by decide) (by decide) (by decide) rfl (by decide) rfl (by decide)
theorem tt_14 (h : a = 0 ∧ b = 0 ∧ i = 0 ∧ 0 ≤ d ∧ d < 32) : isa_Text ⟨14, d, a, b, i⟩ = some (tx ([109, 102, 108, 114] ++ args ⟨14, d, a, b, i⟩ [100])) :=
 text_gen (n := [109, 102, 108, 114]) (by constructor <;> simp only [] <;> omega) ((ig_14 d a b i).trans (congrArg some (decide_eq_true h))) gl_14 by_str23 (by simp) rfl (by decide) (by decide) (by decide) rfl (by decide) rfl (by decide)
theorem tt_15 (h : a = 0 ∧ b = 0 ∧ i = 0 ∧ 0 ≤ d ∧ d < 32) : isa_Text ⟨15, d, a, b, i⟩ = some (tx ([109, 116, 108, 114] ++ args ⟨15, d, a, b, i⟩ [100])) :=
 text_gen (n := [109, 116, 108, 114]) (by constructor <;> simp only [] <;> omega) ((ig_15 d a b i).trans (congrArg some (decide_eq_true h))) gl_15 by_str23 (by simp) rfl (by decide) (by decide) (by decide) rfl (by decide) rfl (by decide)
theorem tt_16 (h : i = 0 ∧ 0 ≤ d ∧ d < 32 ∧ 0 ≤ a ∧ a < 32 ∧ 0 ≤ b ∧ b < 32) : isa_Text ⟨16, d, a, b, i⟩ = some (tx ([108, 100, 97, 114, 120] ++ args ⟨16, d, a, b, i⟩ [100, 97, 98])) :=
 text_gen (n := [108, 100, 97, 114, 120]) (by constructor <;> simp only [] <;> omega) ((ig_16 d a b i).trans (congrArg some (decide_eq_true h))) gl_16 by_str8 (by simp) rfl (by decide) (by decide) (by decide) rfl (by decide) rfl (by decide)
theorem tt_17 (h : i = 0 ∧ 0 ≤ d ∧ d < 32 ∧ 0 ≤ a ∧ a < 32 ∧ 0 ≤ b ∧ b < 32) : isa_Text ⟨17, d, a, b, i⟩ = some (tx ([115, 116, 100, 99, 120, 46] ++ args ⟨17, d, a, b, i⟩ [100, 97, 98])) :=
 text_gen (n := [115, 116, 100, 99, 120, 46]) (by constructor <;> simp only [] <;> omega) ((ig_17 d a b i).trans (congrArg some (decide_eq_true h))) gl_17 by_str8 (by simp) rfl (by decide) (by decide) (by decide) rfl (by decide) rfl (by decide)
theorem tt_18 (h : d = 0 ∧ a = 0 ∧ b = 0 ∧ i = 0) : isa_Text ⟨18, d, a, b, i⟩ = some (tx ([115, 121, 110, 99] ++ args ⟨18, d, a, b, i⟩ [])) :=
 text_gen (n := [115, 121, 110, 99]) (by constructor <;> simp only [] <;> omega) ((ig_18 d a b i).trans (congrArg some (decide_eq_true h))) gl_18 by_nil (by simp) rfl (by decide) (by decide) (by decide) rfl (by decide) rfl (by decide)
theorem tt_19 (h : d = 0 ∧ a = 0 ∧ b = 0 ∧ i = 0) : isa_Text ⟨19, d, a, b, i⟩ = some (tx ([108, 119, 115, 121, 110, 99] ++ args ⟨19, d, a, b, i⟩ [])) :=
 text_gen (n := [108, 119, 115, 121, 110, 99]) (by constructor <;> simp only [] <;> omega) ((ig_19 d a b i).trans (congrArg some (decide_eq_true h))) gl_19 by_nil (by simp) rfl (by decide) (by decide) (by decide) rfl (by decide) rfl (by decide)
theorem tt_20 (h : d = 0 ∧ a = 0 ∧ b = 0 ∧ i = 0) : isa_Text ⟨20, d, a, b, i⟩ = some (tx ([105, 115, 121, 110, 99] ++ args ⟨20, d, a, b, i⟩ [])) :=
 text_gen (n := [105, 115, 121, 110, 99]) (by constructor <;> simp only [] <;> omega) ((ig_20 d a b i).trans (congrArg some (decide_eq_true h))) gl_20 by_nil (by simp) rfl (by decide) (by decide) (by decide) rfl (by decide) rfl (by decide)
theorem tt_21 (h : d = 0 ∧ a = 0 ∧ b = 0 ∧ 0 ≤ i ∧ i < 32768) : isa_Text ⟨21, d, a, b, i⟩ = some (tx ([116, 114, 97, 112] ++ args ⟨21, d, a, b, i⟩ [105])) :=
 text_gen (n := [116, 114, 97, 112]) (by constructor <;> simp only [] <;> omega) ((ig_21 d a b i).trans (congrArg some (decide_eq_true h))) gl_21 by_str31 (by simp) rfl (by decide) (by decide) (by decide) rfl (by decide) rfl (by decide)
theorem tt_22 (h : a = 0 ∧ b = 0 ∧ i = 0 ∧ 0 ≤ d ∧ d < 32) : isa_Text ⟨22, d, a, b, i⟩ = some (tx ([111, 117, 116] ++ args ⟨22, d, a, b, i⟩ [100])) :=
 text_gen (n := [111, 117, 116]) (by constructor <;> simp only [] <;> omega) ((ig_22 d a b i).trans (congrArg some (decide_eq_true h))) gl_22 by_str23 (by simp) rfl (by decide) (by decide) (by decide) rfl (by decide) rfl (by decide)
def cnx (d a : Int) : List UInt8 := if d = 12 then (if a = 0 then [98, 108, 116] else if a = 1 then [98, 103, 116] else [98, 101, 113]) else (if a = 0 then [98, 103, 101] else if a = 1 then [98, 108, 101] else [98, 110, 101])
theorem tt_10 (h : b = 0 ∧ (d = 4 ∨ d = 12) ∧ 0 ≤ a ∧ a < 3 ∧ -8192 ≤ i ∧ i < 8192) : isa_Text ⟨10, d, a, b, i⟩ = some (tx (cnx d a ++ 32 :: Lib.itoa i)) := by
 unfold isa_Text
 rw [(ig_10 d a b i).trans (congrArg some (decide_eq_true h)), Bt, if_neg (by decide), gl_10, Bt, if_pos (by simp)]
 obtain ⟨h1, h2, h3, h4, h5, h6⟩ := h
 have hl := itoa_len (n := i) (by omega) (by omega)
 have hc : isa_condition ⟨10, d, a, b, i⟩ = some (tx (cnx d a)) := by
  have ha : a = 0 ∨ a = 1 ∨ a = 2 := by omega
  rcases h2 with rfl | rfl <;> rcases ha with rfl | rfl | rfl <;> rfl
 have hcl : (cnx d a).length = 3 := by
  unfold cnx
  split <;> split <;> first | rfl | (split <;> rfl)
 rw [hc, Bt, show catO (tx (cnx d a)) str35 = some (tx (cnx d a ++ [32])) from cat_tx (b := [32]) (by simp; omega), Bt, show strconv_Itoa i = some (tx (Lib.itoa i)) from itoa_tx (by omega) (by omega), Bt, cat_tx (by simp; omega), Bt]
 simp
end
end
section
def sp (f : Bool) (n : Int) : List UInt8 := if f = true then [44, 32, 114] ++ Lib.itoa n else []
def rtx (h : Tref02_Has) (p : TInst) : List UInt8 := sp h.d p.d ++ sp h.a p.a ++ sp h.b p.b ++ (if 0 < h.imm then [44, 32] ++ Lib.itoa p.imm else [])
theorem sp_len {f : Bool} {n : Int} (h0 : -9223372036854775808 ≤ n) (h1 : n ≤ 9223372036854775807) : (sp f n).length ≤ 23 := by
 have := itoa_len h0 h1
 unfold sp
 split
 ·simp; omega
 ·simp
theorem step_r {p : TInst} {x21 : Tref02_Has × Bool} {l : List UInt8} {k : Nat} {n : Int} {f : Bool} (hk : k < 3) (h1 : ix [p.d, p.a, p.b] (k : Int) = some n) (h2 : ix [x21.1.d, x21.1.a, x21.1.b] (k : Int) = some f) (h3 : -9223372036854775808 ≤ n) (h4 : n ≤ 9223372036854775807) (hl : l.length ≤ 1000) :
  ref02_Text_l1b p x21 (tx l) (k : Int) = some (.inl (tx (l ++ sp f n), ((k + 1 : Nat) : Int))) := by
 have hi := itoa_len h3 h4
 have hk1 : ∀ s, ref02_Text_k1 (k : Int) s = some (.inl (s, ((k + 1 : Nat) : Int))) := fun s => by
  unfold ref02_Text_k1
  rw [w64_succ (by omega)]
 unfold ref02_Text_l1b
 rw [if_pos (decide_eq_true (by omega)), h1, Bt, h2, Bt]
 cases f with
 | false =>
  rw [if_neg (by decide), hk1]
  simp [sp]
 | true =>
  rw [if_pos rfl, show catO (tx l) str58 = some (tx (l ++ [44, 32, 114])) from cat_tx (b := [44, 32, 114]) (by simp; omega), Bt, show strconv_Itoa n = some (tx (Lib.itoa n)) from itoa_tx h3 h4, Bt, cat_tx (by simp; omega), Bt, hk1]
  simp [sp]
theorem sub1 {l : List UInt8} (h : l ≠ []) : strSub (tx l) 1 ((tx l).size : Int) = some (tx (l.drop 1)) := by
 have hl : 1 ≤ l.length := by
  rcases Nat.eq_zero_or_pos l.length with h0 | h0
  ·exact absurd (List.eq_nil_of_length_eq_zero h0) h
  ·exact h0
 unfold strSub
 rw [tx_size, if_pos (by omega)]
 congr 1
 apply ByteArray.ext
 rw [ByteArray.data_extract]
 apply Array.ext'
 simp [tx]
 exact List.take_of_length_le (by simp)
theorem k2_is {x21 : Tref02_Has × Bool} {n l : List UInt8} (hn : x21.1.name = tx n) (h : n.length + l.length ≤ 10000) : ref02_Text_k2 x21 (tx l) = some (tx (if l = [] then n else n ++ l.drop 1)) := by
 unfold ref02_Text_k2
 by_cases hl : l = []
 ·subst hl
  rw [if_pos (decide_eq_true (show tx [] = ByteArray.empty from rfl)), if_pos rfl, hn]
 ·have hne : tx l ≠ ByteArray.empty := fun e => hl (tx_inj (b := []) e)
  rw [if_neg (by simpa using hne), if_neg hl, sub1 hl, Bt, hn, cat_tx (by simp; omega), Bt]
theorem rtext {p : TInst} (R : Rg p) {h : Tref02_Has} {n : List UInt8} (hg : ref02_Good p = some true) (ho : ref02_Of p.op = some (h, true)) (h10 : p.op ≠ 10) (hn : h.name = tx n) (hl : n.length ≤ 100) :
  ref02_Text p = some (tx (if rtx h p = [] then n else n ++ (rtx h p).drop 1)) := by
 unfold ref02_Text
 rw [hg, Bt, if_neg (by decide), ho, Bt, if_neg (by simpa using h10)]
 have l1 := sp_len (f := h.d) R.d0 R.d1
 have l2 := sp_len (f := h.a) R.a0 R.a1
 have l3 := sp_len (f := h.b) R.b0 R.b1
 have l4 := itoa_len R.i0 R.i1
 have s0 : ref02_Text_l1b p (h, true) ByteArray.empty 0 = some (.inl (tx (sp h.d p.d), 1)) := step_r (l := []) (k := 0) (by decide) rfl rfl R.d0 R.d1 (by simp)
 have s1 : ref02_Text_l1b p (h, true) (tx (sp h.d p.d)) 1 = some (.inl (tx (sp h.d p.d ++ sp h.a p.a), 2)) := step_r (k := 1) (by decide) rfl rfl R.a0 R.a1 (by omega)
 have s2 : ref02_Text_l1b p (h, true) (tx (sp h.d p.d ++ sp h.a p.a)) 2 = some (.inl (tx (sp h.d p.d ++ sp h.a p.a ++ sp h.b p.b), 3)) := step_r (k := 2) (by decide) rfl rfl R.b0 R.b1 (by simp; omega)
 have s3 : ref02_Text_l1b p (h, true) (tx (sp h.d p.d ++ sp h.a p.a ++ sp h.b p.b)) 3 = some (.inr (tx (if rtx h p = [] then n else n ++ (rtx h p).drop 1))) := by
  unfold ref02_Text_l1b
  rw [if_neg (by decide)]
  by_cases hi : 0 < h.imm
  ·rw [if_pos (decide_eq_true hi), show catO (tx (sp h.d p.d ++ sp h.a p.a ++ sp h.b p.b)) str43 = some (tx (sp h.d p.d ++ sp h.a p.a ++ sp h.b p.b ++ [44, 32])) from cat_tx (b := [44, 32]) (by simp; omega), Bt, show strconv_Itoa p.imm = some (tx (Lib.itoa p.imm)) from itoa_tx R.i0 R.i1, Bt, cat_tx (by simp; omega), Bt, k2_is hn (by simp; omega)]
   unfold rtx
   rw [if_pos hi]
   simp
  ·rw [if_neg (by simpa using hi), k2_is hn (by simp; omega)]
   unfold rtx
   rw [if_neg hi, List.append_nil]
   rfl
 unfold ref02_Text_l1
 exact (loop_step s0).trans ((loop_step s1).trans ((loop_step s2).trans (loop_ret s3)))
section
variable {d a b i : Int}
theorem rx_1 (h : b = 0 ∧ 0 ≤ d ∧ d < 32 ∧ 0 ≤ a ∧ a < 32 ∧ -32768 ≤ i ∧ i < 32768 ∧ i % 4 = 0) : ref02_Text ⟨1, d, a, b, i⟩ = some (tx ([108, 100] ++ args ⟨1, d, a, b, i⟩ [100, 97, 109])) := by
 rw [rtext (n := [108, 100]) (by constructor <;> simp only [] <;> omega) ((ig2_1 d a b i).trans (congrArg some (decide_eq_true h))) ro_1 (by simp) rfl (by decide)]
 simp [rtx, sp, args, ptx, jn2, jn1]
theorem rx_2 (h : b = 0 ∧ 0 ≤ d ∧ d < 32 ∧ 0 ≤ a ∧ a < 32 ∧ -32768 ≤ i ∧ i < 32768 ∧ i % 4 = 0) : ref02_Text ⟨2, d, a, b, i⟩ = some (tx ([115, 116, 100] ++ args ⟨2, d, a, b, i⟩ [100, 97, 109])) := by
 rw [rtext (n := [115, 116, 100]) (by constructor <;> simp only [] <;> omega) ((ig2_2 d a b i).trans (congrArg some (decide_eq_true h))) ro_2 (by simp) rfl (by decide)]
 simp [rtx, sp, args, ptx, jn2, jn1]
theorem rx_3 (h : b = 0 ∧ 0 ≤ d ∧ d < 32 ∧ 0 ≤ a ∧ a < 32 ∧ -32768 ≤ i ∧ i < 32768) : ref02_Text ⟨3, d, a, b, i⟩ = some (tx ([97, 100, 100, 105] ++ args ⟨3, d, a, b, i⟩ [100, 97, 105])) := by
 rw [rtext (n := [97, 100, 100, 105]) (by constructor <;> simp only [] <;> omega) ((ig2_3 d a b i).trans (congrArg some (decide_eq_true h))) ro_3 (by simp) rfl (by decide)]
 simp [rtx, sp, args, ptx, jn2, jn1]
theorem rx_4 (h : i = 0 ∧ 0 ≤ d ∧ d < 32 ∧ 0 ≤ a ∧ a < 32 ∧ 0 ≤ b ∧ b < 32) : ref02_Text ⟨4, d, a, b, i⟩ = some (tx ([97, 100, 100] ++ args ⟨4, d, a, b, i⟩ [100, 97, 98])) := by
 rw [rtext (n := [97, 100, 100]) (by constructor <;> simp only [] <;> omega) ((ig2_4 d a b i).trans (congrArg some (decide_eq_true h))) ro_4 (by simp) rfl (by decide)]
 simp [rtx, sp, args, ptx, jn2, jn1]
theorem rx_5 (h : i = 0 ∧ 0 ≤ d ∧ d < 32 ∧ 0 ≤ a ∧ a < 32 ∧ 0 ≤ b ∧ b < 32) : ref02_Text ⟨5, d, a, b, i⟩ = some (tx ([115, 117, 98, 102] ++ args ⟨5, d, a, b, i⟩ [100, 97, 98])) := by
 rw [rtext (n := [115, 117, 98, 102]) (by constructor <;> simp only [] <;> omega) ((ig2_5 d a b i).trans (congrArg some (decide_eq_true h))) ro_5 (by simp) rfl (by decide)]
 simp [rtx, sp, args, ptx, jn2, jn1]
theorem rx_6 (h : i = 0 ∧ 0 ≤ d ∧ d < 32 ∧ 0 ≤ a ∧ a < 32 ∧ 0 ≤ b ∧ b < 32) : ref02_Text ⟨6, d, a, b, i⟩ = some (tx ([109, 117, 108, 108, 100] ++ args ⟨6, d, a, b, i⟩ [100, 97, 98])) := by
 rw [rtext (n := [109, 117, 108, 108, 100]) (by constructor <;> simp only [] <;> omega) ((ig2_6 d a b i).trans (congrArg some (decide_eq_true h))) ro_6 (by simp) rfl (by decide)]
 simp [rtx, sp, args, ptx, jn2, jn1]
theorem rx_7 (h : i = 0 ∧ 0 ≤ d ∧ d < 32 ∧ 0 ≤ a ∧ a < 32 ∧ 0 ≤ b ∧ b < 32) : ref02_Text ⟨7, d, a, b, i⟩ = some (tx ([100, 105, 118, 100] ++ args ⟨7, d, a, b, i⟩ [100, 97, 98])) := by
 rw [rtext (n := [100, 105, 118, 100]) (by constructor <;> simp only [] <;> omega) ((ig2_7 d a b i).trans (congrArg some (decide_eq_true h))) ro_7 (by simp) rfl (by decide)]
 simp [rtx, sp, args, ptx, jn2, jn1]
theorem rx_8 (h : d = 0 ∧ i = 0 ∧ 0 ≤ a ∧ a < 32 ∧ 0 ≤ b ∧ b < 32) : ref02_Text ⟨8, d, a, b, i⟩ = some (tx ([99, 109, 112, 100] ++ args ⟨8, d, a, b, i⟩ [97, 98])) := by
 rw [rtext (n := [99, 109, 112, 100]) (by constructor <;> simp only [] <;> omega) ((ig2_8 d a b i).trans (congrArg some (decide_eq_true h))) ro_8 (by simp) rfl (by decide)]
 simp [rtx, sp, args, ptx, jn2, jn1]
theorem rx_9 (h : d = 0 ∧ b = 0 ∧ 0 ≤ a ∧ a < 32 ∧ -32768 ≤ i ∧ i < 32768) : ref02_Text ⟨9, d, a, b, i⟩ = some (tx ([99, 109, 112, 100, 105] ++ args ⟨9, d, a, b, i⟩ [97, 105])) := by
 rw [rtext (n := [99, 109, 112, 100, 105]) (by constructor <;> simp only [] <;> omega) ((ig2_9 d a b i).trans (congrArg some (decide_eq_true h))) ro_9 (by simp) rfl (by decide)]
 simp [rtx, sp, args, ptx, jn2, jn1]
theorem rx_11 (h : d = 0 ∧ a = 0 ∧ b = 0 ∧ -8388608 ≤ i ∧ i < 8388608) : ref02_Text ⟨11, d, a, b, i⟩ = some (tx ([98] ++ args ⟨11, d, a, b, i⟩ [108])) := by
 rw [rtext (n := [98]) (by constructor <;> simp only [] <;> omega) ((ig2_11 d a b i).trans (congrArg some (decide_eq_true h))) ro_11 (by simp) rfl (by decide)]
 simp [rtx, sp, args, ptx, jn2, jn1]
theorem rx_12 (h : d = 0 ∧ a = 0 ∧ b = 0 ∧ -8388608 ≤ i ∧ i < 8388608) : ref02_Text ⟨12, d, a, b, i⟩ = some (tx ([98, 108] ++ args ⟨12, d, a, b, i⟩ [108])) := by
 rw [rtext (n := [98, 108]) (by constructor <;> simp only [] <;> omega) ((ig2_12 d a b i).trans (congrArg some (decide_eq_true h))) ro_12 (by simp) rfl (by decide)]
 simp [rtx, sp, args, ptx, jn2, jn1]
theorem rx_13 (h : d = 0 ∧ a = 0 ∧ b = 0 ∧ i = 0) : ref02_Text ⟨13, d, a, b, i⟩ = some (tx ([98, 108, 114] ++ args ⟨13, d, a, b, i⟩ [])) := by
 rw [rtext (n := [98, 108, 114]) (by constructor <;> simp only [] <;> omega) ((ig2_13 d a b i).trans (congrArg some (decide_eq_true h))) ro_13 (by simp) rfl (by decide)]
 simp [rtx, sp, args, ptx, jn2, jn1]
theorem rx_14 (h : a = 0 ∧ b = 0 ∧ i = 0 ∧ 0 ≤ d ∧ d < 32) : ref02_Text ⟨14, d, a, b, i⟩ = some (tx ([109, 102, 108, 114] ++ args ⟨14, d, a, b, i⟩ [100])) := by
 rw [rtext (n := [109, 102, 108, 114]) (by constructor <;> simp only [] <;> omega) ((ig2_14 d a b i).trans (congrArg some (decide_eq_true h))) ro_14 (by simp) rfl (by decide)]
 simp [rtx, sp, args, ptx, jn2, jn1]
theorem rx_15 (h : a = 0 ∧ b = 0 ∧ i = 0 ∧ 0 ≤ d ∧ d < 32) : ref02_Text ⟨15, d, a, b, i⟩ = some (tx ([109, 116, 108, 114] ++ args ⟨15, d, a, b, i⟩ [100])) := by
 rw [rtext (n := [109, 116, 108, 114]) (by constructor <;> simp only [] <;> omega) ((ig2_15 d a b i).trans (congrArg some (decide_eq_true h))) ro_15 (by simp) rfl (by decide)]
 simp [rtx, sp, args, ptx, jn2, jn1]
theorem rx_16 (h : i = 0 ∧ 0 ≤ d ∧ d < 32 ∧ 0 ≤ a ∧ a < 32 ∧ 0 ≤ b ∧ b < 32) : ref02_Text ⟨16, d, a, b, i⟩ = some (tx ([108, 100, 97, 114, 120] ++ args ⟨16, d, a, b, i⟩ [100, 97, 98])) := by
 rw [rtext (n := [108, 100, 97, 114, 120]) (by constructor <;> simp only [] <;> omega) ((ig2_16 d a b i).trans (congrArg some (decide_eq_true h))) ro_16 (by simp) rfl (by decide)]
 simp [rtx, sp, args, ptx, jn2, jn1]
theorem rx_17 (h : i = 0 ∧ 0 ≤ d ∧ d < 32 ∧ 0 ≤ a ∧ a < 32 ∧ 0 ≤ b ∧ b < 32) : ref02_Text ⟨17, d, a, b, i⟩ = some (tx ([115, 116, 100, 99, 120, 46] ++ args ⟨17, d, a, b, i⟩ [100, 97, 98])) := by
 rw [rtext (n := [115, 116, 100, 99, 120, 46]) (by constructor <;> simp only [] <;> omega) ((ig2_17 d a b i).trans (congrArg some (decide_eq_true h))) ro_17 (by simp) rfl (by decide)]
 simp [rtx, sp, args, ptx, jn2, jn1]
theorem rx_18 (h : d = 0 ∧ a = 0 ∧ b = 0 ∧ i = 0) : ref02_Text ⟨18, d, a, b, i⟩ = some (tx ([115, 121, 110, 99] ++ args ⟨18, d, a, b, i⟩ [])) := by
 rw [rtext (n := [115, 121, 110, 99]) (by constructor <;> simp only [] <;> omega) ((ig2_18 d a b i).trans (congrArg some (decide_eq_true h))) ro_18 (by simp) rfl (by decide)]
 simp [rtx, sp, args, ptx, jn2, jn1]
theorem rx_19 (h : d = 0 ∧ a = 0 ∧ b = 0 ∧ i = 0) : ref02_Text ⟨19, d, a, b, i⟩ = some (tx ([108, 119, 115, 121, 110, 99] ++ args ⟨19, d, a, b, i⟩ [])) := by
 rw [rtext (n := [108, 119, 115, 121, 110, 99]) (by constructor <;> simp only [] <;> omega) ((ig2_19 d a b i).trans (congrArg some (decide_eq_true h))) ro_19 (by simp) rfl (by decide)]
 simp [rtx, sp, args, ptx, jn2, jn1]
theorem rx_20 (h : d = 0 ∧ a = 0 ∧ b = 0 ∧ i = 0) : ref02_Text ⟨20, d, a, b, i⟩ = some (tx ([105, 115, 121, 110, 99] ++ args ⟨20, d, a, b, i⟩ [])) := by
 rw [rtext (n := [105, 115, 121, 110, 99]) (by constructor <;> simp only [] <;> omega) ((ig2_20 d a b i).trans (congrArg some (decide_eq_true h))) ro_20 (by simp) rfl (by decide)]
 simp [rtx, sp, args, ptx, jn2, jn1]
theorem rx_21 (h : d = 0 ∧ a = 0 ∧ b = 0 ∧ 0 ≤ i ∧ i < 32768) : ref02_Text ⟨21, d, a, b, i⟩ = some (tx ([116, 114, 97, 112] ++ args ⟨21, d, a, b, i⟩ [105])) := by
 rw [rtext (n := [116, 114, 97, 112]) (by constructor <;> simp only [] <;> omega) ((ig2_21 d a b i).trans (congrArg some (decide_eq_true h))) ro_21 (by simp) rfl (by decide)]
 simp [rtx, sp, args, ptx, jn2, jn1]
theorem rx_22 (h : a = 0 ∧ b = 0 ∧ i = 0 ∧ 0 ≤ d ∧ d < 32) : ref02_Text ⟨22, d, a, b, i⟩ = some (tx ([111, 117, 116] ++ args ⟨22, d, a, b, i⟩ [100])) := by
 rw [rtext (n := [111, 117, 116]) (by constructor <;> simp only [] <;> omega) ((ig2_22 d a b i).trans (congrArg some (decide_eq_true h))) ro_22 (by simp) rfl (by decide)]
 simp [rtx, sp, args, ptx, jn2, jn1]
theorem rx_10 (h : b = 0 ∧ (d = 4 ∨ d = 12) ∧ 0 ≤ a ∧ a < 3 ∧ -8192 ≤ i ∧ i < 8192) : ref02_Text ⟨10, d, a, b, i⟩ = some (tx (cnx d a ++ 32 :: Lib.itoa i)) := by
 unfold ref02_Text
 rw [(ig2_10 d a b i).trans (congrArg some (decide_eq_true h)), Bt, if_neg (by decide), ro_10, Bt, if_pos (by simp)]
 obtain ⟨h1, h2, h3, h4, h5, h6⟩ := h
 have hl := itoa_len (n := i) (by omega) (by omega)
 have hcl : (cnx d a).length = 3 := by
  unfold cnx
  split <;> split <;> first | rfl | (split <;> rfl)
 have hc : ∃ x, quoO .i64 d 12 = some x ∧ ix ([str52, str53, str54, str55, str56, str57] : List ByteArray) (w64 (a + (w64 (3 * x)))) = some (tx (cnx d a)) := by
  have ha : a = 0 ∨ a = 1 ∨ a = 2 := by omega
  rcases h2 with rfl | rfl <;> rcases ha with rfl | rfl | rfl <;> exact ⟨_, rfl, rfl⟩
 obtain ⟨x, hx, hc⟩ := hc
 show (quoO .i64 d 12).bind _ = _
 rw [hx, Bt, hc, Bt, show catO (tx (cnx d a)) str35 = some (tx (cnx d a ++ [32])) from cat_tx (b := [32]) (by simp; omega), Bt, show strconv_Itoa i = some (tx (Lib.itoa i)) from itoa_tx (by omega) (by omega), Bt, cat_tx (by simp; omega), Bt]
 simp
end
def nm : Nat → List UInt8
 | 1 => [108, 100]
 | 2 => [115, 116, 100]
 | 3 => [97, 100, 100, 105]
 | 4 => [97, 100, 100]
 | 5 => [115, 117, 98, 102]
 | 6 => [109, 117, 108, 108, 100]
 | 7 => [100, 105, 118, 100]
 | 8 => [99, 109, 112, 100]
 | 9 => [99, 109, 112, 100, 105]
 | 11 => [98]
 | 12 => [98, 108]
 | 13 => [98, 108, 114]
 | 14 => [109, 102, 108, 114]
 | 15 => [109, 116, 108, 114]
 | 16 => [108, 100, 97, 114, 120]
 | 17 => [115, 116, 100, 99, 120, 46]
 | 18 => [115, 121, 110, 99]
 | 19 => [108, 119, 115, 121, 110, 99]
 | 20 => [105, 115, 121, 110, 99]
 | 21 => [116, 114, 97, 112]
 | 22 => [111, 117, 116]
 | _ => []
def fd : Nat → List Int
 | 1 => [100, 97, 109]
 | 2 => [100, 97, 109]
 | 3 => [100, 97, 105]
 | 4 => [100, 97, 98]
 | 5 => [100, 97, 98]
 | 6 => [100, 97, 98]
 | 7 => [100, 97, 98]
 | 8 => [97, 98]
 | 9 => [97, 105]
 | 11 => [108]
 | 12 => [108]
 | 13 => []
 | 14 => [100]
 | 15 => [100]
 | 16 => [100, 97, 98]
 | 17 => [100, 97, 98]
 | 18 => []
 | 19 => []
 | 20 => []
 | 21 => [105]
 | 22 => [100]
 | _ => []
def TX (p : TInst) : List UInt8 := if p.op = 10 then cnx p.d p.a ++ 32 :: Lib.itoa p.imm else nm p.op.toNat ++ args p (fd p.op.toNat)
theorem text_nat : ∀ k : Nat, 1 ≤ k → k ≤ 22 → ∀ d a b i, isa_Good ⟨(k : Int), d, a, b, i⟩ = some true → isa_Text ⟨(k : Int), d, a, b, i⟩ = some (tx (TX ⟨(k : Int), d, a, b, i⟩)) ∧ ref02_Text ⟨(k : Int), d, a, b, i⟩ = some (tx (TX ⟨(k : Int), d, a, b, i⟩)) := by
 refine of22 ?_ ?_ ?_ ?_ ?_ ?_ ?_ ?_ ?_ ?_ ?_ ?_ ?_ ?_ ?_ ?_ ?_ ?_ ?_ ?_ ?_ ?_
 ·exact fun d a b i hg => by
   have h := of_decide_eq_true (Option.some.inj ((ig_1 d a b i).symm.trans hg))
   exact ⟨tt_1 h, rx_1 h⟩
 ·exact fun d a b i hg => by
   have h := of_decide_eq_true (Option.some.inj ((ig_2 d a b i).symm.trans hg))
   exact ⟨tt_2 h, rx_2 h⟩
 ·exact fun d a b i hg => by
   have h := of_decide_eq_true (Option.some.inj ((ig_3 d a b i).symm.trans hg))
   exact ⟨tt_3 h, rx_3 h⟩
 ·exact fun d a b i hg => by
   have h := of_decide_eq_true (Option.some.inj ((ig_4 d a b i).symm.trans hg))
   exact ⟨tt_4 h, rx_4 h⟩
 ·exact fun d a b i hg => by
   have h := of_decide_eq_true (Option.some.inj ((ig_5 d a b i).symm.trans hg))
   exact ⟨tt_5 h, rx_5 h⟩
 ·exact fun d a b i hg => by
   have h := of_decide_eq_true (Option.some.inj ((ig_6 d a b i).symm.trans hg))
   exact ⟨tt_6 h, rx_6 h⟩
 ·exact fun d a b i hg => by
   have h := of_decide_eq_true (Option.some.inj ((ig_7 d a b i).symm.trans hg))
   exact ⟨tt_7 h, rx_7 h⟩
 ·exact fun d a b i hg => by
   have h := of_decide_eq_true (Option.some.inj ((ig_8 d a b i).symm.trans hg))
   exact ⟨tt_8 h, rx_8 h⟩
 ·exact fun d a b i hg => by
   have h := of_decide_eq_true (Option.some.inj ((ig_9 d a b i).symm.trans hg))
   exact ⟨tt_9 h, rx_9 h⟩
 ·exact fun d a b i hg => by
   have h := of_decide_eq_true (Option.some.inj ((ig_10 d a b i).symm.trans hg))
   exact ⟨tt_10 h, rx_10 h⟩
 ·exact fun d a b i hg => by
   have h := of_decide_eq_true (Option.some.inj ((ig_11 d a b i).symm.trans hg))
   exact ⟨tt_11 h, rx_11 h⟩
 ·exact fun d a b i hg => by
   have h := of_decide_eq_true (Option.some.inj ((ig_12 d a b i).symm.trans hg))
   exact ⟨tt_12 h, rx_12 h⟩
 ·exact fun d a b i hg => by
   have h := of_decide_eq_true (Option.some.inj ((ig_13 d a b i).symm.trans hg))
   exact ⟨tt_13 h, rx_13 h⟩
 ·exact fun d a b i hg => by
   have h := of_decide_eq_true (Option.some.inj ((ig_14 d a b i).symm.trans hg))
   exact ⟨tt_14 h, rx_14 h⟩
 ·exact fun d a b i hg => by
   have h := of_decide_eq_true (Option.some.inj ((ig_15 d a b i).symm.trans hg))
   exact ⟨tt_15 h, rx_15 h⟩
 ·exact fun d a b i hg => by
   have h := of_decide_eq_true (Option.some.inj ((ig_16 d a b i).symm.trans hg))
   exact ⟨tt_16 h, rx_16 h⟩
 ·exact fun d a b i hg => by
   have h := of_decide_eq_true (Option.some.inj ((ig_17 d a b i).symm.trans hg))
   exact ⟨tt_17 h, rx_17 h⟩
 ·exact fun d a b i hg => by
   have h := of_decide_eq_true (Option.some.inj ((ig_18 d a b i).symm.trans hg))
   exact ⟨tt_18 h, rx_18 h⟩
 ·exact fun d a b i hg => by
   have h := of_decide_eq_true (Option.some.inj ((ig_19 d a b i).symm.trans hg))
   exact ⟨tt_19 h, rx_19 h⟩
 ·exact fun d a b i hg => by
   have h := of_decide_eq_true (Option.some.inj ((ig_20 d a b i).symm.trans hg))
   exact ⟨tt_20 h, rx_20 h⟩
 ·exact fun d a b i hg => by
   have h := of_decide_eq_true (Option.some.inj ((ig_21 d a b i).symm.trans hg))
   exact ⟨tt_21 h, rx_21 h⟩
 ·exact fun d a b i hg => by
   have h := of_decide_eq_true (Option.some.inj ((ig_22 d a b i).symm.trans hg))
   exact ⟨tt_22 h, rx_22 h⟩
theorem text_both {p : TInst} (h1 : 1 ≤ p.op) (h2 : p.op ≤ 22) (hg : isa_Good p = some true) : isa_Text p = some (tx (TX p)) ∧ ref02_Text p = some (tx (TX p)) := by
 obtain ⟨op, d, a, b, i⟩ := p
 obtain ⟨k, rfl⟩ : ∃ k : Nat, op = (k : Int) := ⟨op.toNat, by simp only at h1; omega⟩
 exact text_nat k (by simp only at h1; omega) (by simp only at h2; omega) d a b i hg
end
end Go.Vm.G15w.T
