/-
 Contracts of the library at this program: each is one application of what the kit proves once.
-/
import Derived.Shelf.Strings.OnBuilder
import Derived.Shelf.Strings.Builder1
import Derived.Ground.Names2Prog
import Derived.Shelf.Slices.CompactI
import Derived.Shelf.Sort.Plain
import Derived.Shelf.Slices.In.SortNone
import Derived.Shelf.LaysM
import Derived.Shelf.Strconv.Itoa3
import Derived.Test.YtoefpigdafjcdaaDoorProg
namespace Go.Proofs
open Go.Shelf
def Tryd.lays156_ren : Go.Shelf.Ren := ⟨fun | 156 => 13 | 165 => 26 | 166 => 14 | 169 => 15 | 240 => 27 | 241 => 38 | 276 => 39 | 277 => 56 | n => n, fun | 31 => 37 | 9 => 9 | 3 => 3 | 4 => 4 | 0 => 0 | 20 => 20 | 72 => 44 | 76 => 47 | 70 => 41 | 37 => 42 | 75 => 46 | 127 => 59 | 164 => 70 | 5 => 5 | 80 => 49 | n => n, fun | n => n⟩
theorem Tryd.lays156 : Go.Proofs.Lays.n156 Tryd.prog Tryd.lays156_ren := {
 mixed := by kernel_rfl
 f156 := Tryd.func13.trans (congrArg some (by kernel_rfl))
 f165 := Tryd.func26.trans (congrArg some (by kernel_rfl))
 f166 := Tryd.func14.trans (congrArg some (by kernel_rfl))
 f169 := Tryd.func15.trans (congrArg some (by kernel_rfl))
 f240 := Tryd.func27.trans (congrArg some (by kernel_rfl))
 f241 := Tryd.func38.trans (congrArg some (by kernel_rfl))
 f276 := Tryd.func39.trans (congrArg some (by kernel_rfl))
 f277 := Tryd.func56.trans (congrArg some (by kernel_rfl))
 t0 := Tryd.underlying0
 a0 := Tryd.isAgg0
 z0 := Tryd.sizeOf0
 v0 := Tryd.zeroValue0
 t3 := Tryd.underlying3
 a3 := Tryd.isAgg3
 z3 := Tryd.sizeOf3
 v3 := Tryd.zeroValue3
 t4 := Tryd.underlying4
 a4 := Tryd.isAgg4
 z4 := Tryd.sizeOf4
 v4 := Tryd.zeroValue4
 t9 := Tryd.underlying9
 a9 := Tryd.isAgg9
 z9 := Tryd.sizeOf9
 v9 := Tryd.zeroValue9
 t20 := Tryd.underlying20
 a20 := Tryd.isAgg20
 z20 := Tryd.sizeOf20
 v20 := Tryd.zeroValue20
 t31 := Tryd.underlying37
 a31 := Tryd.isAgg37
 z31 := Tryd.sizeOf37
 v31 := Tryd.zeroValue37
 t37 := Tryd.underlying42
 a37 := Tryd.isAgg42
 z37 := Tryd.sizeOf42
 v37 := Tryd.zeroValue42
 t70 := Tryd.underlying41
 a70 := Tryd.isAgg41
 z70 := Tryd.sizeOf41
 v70 := Tryd.zeroValue41
 t72 := Tryd.underlying44
 a72 := Tryd.isAgg44
 z72 := Tryd.sizeOf44
 v72 := Tryd.zeroValue44
 t75 := Tryd.underlying46
 a75 := Tryd.isAgg46
 z75 := Tryd.sizeOf46
 v75 := Tryd.zeroValue46
 t76 := Tryd.underlying47
 a76 := Tryd.isAgg47
 z76 := Tryd.sizeOf47
 v76 := Tryd.zeroValue47
 t127 := Tryd.underlying59
 a127 := Tryd.isAgg59
 z127 := Tryd.sizeOf59
 v127 := Tryd.zeroValue59
 t164 := Tryd.underlying70
 a164 := Tryd.isAgg70
 z164 := Tryd.sizeOf70
 v164 := Tryd.zeroValue70 }
theorem Tryd.Builder_Extra_156 : Builder.Extra Tryd.prog Tryd.lays156_ren := {
 sizeBuilder := by kernel_rfl
 liesBuilder := by kernel_rfl
 t5 := Tryd.underlying5
 a5 := Tryd.isAgg5
 z5 := Tryd.sizeOf5
 v5 := Tryd.zeroValue5
 infoByte := by kernel_rfl
 cellsByte := by kernel_rfl
 sizeByte := by kernel_rfl
 neB5 := by decide }
open Go.RowKit in
theorem Tryd.strings_Join_none (a : Option Addr) (c : Nat) (sep : ByteArray) (w : World) :
  Calls Tryd.prog 13 #[.slice a 0 c, .string sep] w fun e w' => e = .returned (.string ⟨#[]⟩) ∧ w' = w := Any.strings_Join_none Tryd.lays156 Tryd.Builder_Extra_156 a c sep w
open Go.RowKit in
theorem Tryd.strings_Join (bk o c : Nat) (xs : List ByteArray) (sep : ByteArray) (w : World) (hcells : ∀ (j : Nat) x, xs[j]? = some x → w.cell? ⟨bk, o + j, none⟩ = some (.string x)) (hbk : bk < w.heap.size) (hN : xs.length ≤ 140737488355328) (hcap : xs.length ≤ c) (hlen : (Lib.join (xs.map (·.data.toList)) sep.data.toList).length ≤ 140737488355328) :
  Calls Tryd.prog 13 #[.slice (some ⟨bk, o, none⟩) xs.length c, .string sep] w fun e w' => e = .returned (.string ⟨(Lib.join (xs.map (·.data.toList)) sep.data.toList).toArray⟩) ∧ Below w.heap.size w w' := Any.strings_Join Tryd.lays156 Tryd.Builder_Extra_156 bk o c xs sep w hcells hbk hN hcap hlen
def Tryd.laysM171_ren : Go.Shelf.Ren := ⟨fun | 171 => 12 | 243 => 25 | 246 => 37 | 283 => 52 | 284 => 53 | 285 => 54 | 286 => 55 | 129 => 50 | 317 => 63 | 318 => 64 | 319 => 65 | 320 => 66 | 337 => 68 | 338 => 69 | n => n, fun | 3 => 3 | 9 => 9 | 2 => 2 | 4 => 4 | 171 => 86 | 0 => 0 | 53 => 84 | 37 => 42 | 5 => 5 | 173 => 88 | 212 => 99 | 51 => 82 | 20 => 20 | 213 => 100 | 46 => 63 | 232 => 104 | 233 => 105 | n => n, fun | 17 => 1 | 18 => 3 | 19 => 4 | n => n⟩
theorem Tryd.laysM171 : Go.Proofs.LaysM.n171 Tryd.prog Tryd.laysM171_ren := {
 mixed := by kernel_rfl
 f129 := Tryd.func50.trans (congrArg some (by kernel_rfl))
 f171 := Tryd.func12.trans (congrArg some (by kernel_rfl))
 f243 := Tryd.func25.trans (congrArg some (by kernel_rfl))
 f246 := Tryd.func37.trans (congrArg some (by kernel_rfl))
 f283 := Tryd.func52.trans (congrArg some (by kernel_rfl))
 f284 := Tryd.func53.trans (congrArg some (by kernel_rfl))
 f285 := Tryd.func54.trans (congrArg some (by kernel_rfl))
 f286 := Tryd.func55.trans (congrArg some (by kernel_rfl))
 f317 := Tryd.func63.trans (congrArg some (by kernel_rfl))
 f318 := Tryd.func64.trans (congrArg some (by kernel_rfl))
 f319 := Tryd.func65.trans (congrArg some (by kernel_rfl))
 f320 := Tryd.func66.trans (congrArg some (by kernel_rfl))
 f337 := Tryd.func68.trans (congrArg some (by kernel_rfl))
 f338 := Tryd.func69.trans (congrArg some (by kernel_rfl))
 t0 := Tryd.underlying0
 a0 := Tryd.isAgg0
 z0 := Tryd.sizeOf0
 v0 := Tryd.zeroValue0
 t2 := Tryd.underlying2
 a2 := Tryd.isAgg2
 z2 := Tryd.sizeOf2
 v2 := Tryd.zeroValue2
 t3 := Tryd.underlying3
 a3 := Tryd.isAgg3
 z3 := Tryd.sizeOf3
 v3 := Tryd.zeroValue3
 t4 := Tryd.underlying4
 a4 := Tryd.isAgg4
 z4 := Tryd.sizeOf4
 v4 := Tryd.zeroValue4
 t5 := Tryd.underlying5
 a5 := Tryd.isAgg5
 z5 := Tryd.sizeOf5
 v5 := Tryd.zeroValue5
 t9 := Tryd.underlying9
 a9 := Tryd.isAgg9
 z9 := Tryd.sizeOf9
 v9 := Tryd.zeroValue9
 t20 := Tryd.underlying20
 a20 := Tryd.isAgg20
 z20 := Tryd.sizeOf20
 v20 := Tryd.zeroValue20
 t37 := Tryd.underlying42
 a37 := Tryd.isAgg42
 z37 := Tryd.sizeOf42
 v37 := Tryd.zeroValue42
 t46 := Tryd.underlying63
 a46 := Tryd.isAgg63
 z46 := Tryd.sizeOf63
 v46 := Tryd.zeroValue63
 t51 := Tryd.underlying82
 a51 := Tryd.isAgg82
 z51 := Tryd.sizeOf82
 v51 := Tryd.zeroValue82
 t53 := Tryd.underlying84
 a53 := Tryd.isAgg84
 z53 := Tryd.sizeOf84
 v53 := Tryd.zeroValue84
 t171 := Tryd.underlying86
 a171 := Tryd.isAgg86
 z171 := Tryd.sizeOf86
 v171 := Tryd.zeroValue86
 t173 := Tryd.underlying88
 a173 := Tryd.isAgg88
 z173 := Tryd.sizeOf88
 v173 := Tryd.zeroValue88
 t212 := Tryd.underlying99
 a212 := Tryd.isAgg99
 z212 := Tryd.sizeOf99
 v212 := Tryd.zeroValue99
 t213 := Tryd.underlying100
 a213 := Tryd.isAgg100
 z213 := Tryd.sizeOf100
 t232 := Tryd.underlying104
 a232 := Tryd.isAgg104
 z232 := Tryd.sizeOf104
 v232 := Tryd.zeroValue104
 t233 := Tryd.underlying105
 a233 := Tryd.isAgg105
 z233 := Tryd.sizeOf105
 v233 := Tryd.zeroValue105
 g17 := by kernel_rfl
 g18 := by kernel_rfl
 g19 := by kernel_rfl
 i0 := by kernel_rfl
 i2 := by kernel_rfl
 i3 := by kernel_rfl
 i4 := by kernel_rfl
 i5 := by kernel_rfl
 i9 := by kernel_rfl
 i20 := by kernel_rfl
 i37 := by kernel_rfl
 i46 := by kernel_rfl
 i51 := by kernel_rfl
 i53 := by kernel_rfl
 i171 := by kernel_rfl
 i173 := by kernel_rfl
 i212 := by kernel_rfl
 i232 := by kernel_rfl
 i233 := by kernel_rfl
 m17 := by kernel_rfl
 m18 := by kernel_rfl
 m19 := by kernel_rfl }
open Go.RowKit Go.Sort Go.Lib in
theorem Tryd.strconv_Itoa (n : Int) (h0 : -9223372036854775808 ≤ n) (h1 : n ≤ 9223372036854775807) (w : World) (htab : Lib.TabIs Tryd.prog w "internal/strconv.uint64pow10" .u64 Lib.pow10Tab) :
  Calls Tryd.prog 12 #[.int .i64 n] w fun e w' => e = .returned (.string ⟨(Lib.itoa n).toArray⟩) ∧ ∃ k os, w' = grow (w.drewN k) os := Any.strconv_Itoa Tryd.laysM171 n h0 h1 w htab
def Tryd.lays189_ren : Go.Shelf.Ren := ⟨fun | 189 => 20 | 125 => 30 | 257 => 29 | 128 => 49 | 129 => 50 | 294 => 40 | 295 => 41 | 296 => 42 | 297 => 43 | 298 => 44 | 299 => 45 | 216 => 46 | 300 => 47 | 301 => 48 | 328 => 57 | 329 => 58 | 330 => 59 | 331 => 60 | 332 => 61 | 215 => 62 | 343 => 67 | n => n, fun | 28 => 28 | 3 => 3 | 46 => 63 | 0 => 0 | 51 => 82 | 53 => 84 | 4 => 4 | 183 => 74 | 182 => 73 | 131 => 79 | 5 => 5 | 9 => 9 | 218 => 91 | 222 => 95 | 228 => 101 | 229 => 102 | n => n, fun | n => n⟩
theorem Tryd.lays189 : Go.Proofs.Lays.n189 Tryd.prog Tryd.lays189_ren := {
 mixed := by kernel_rfl
 f125 := Tryd.func30.trans (congrArg some (by kernel_rfl))
 f128 := Tryd.func49.trans (congrArg some (by kernel_rfl))
 f129 := Tryd.func50.trans (congrArg some (by kernel_rfl))
 f189 := Tryd.func20.trans (congrArg some (by kernel_rfl))
 f215 := Tryd.func62.trans (congrArg some (by kernel_rfl))
 f216 := Tryd.func46.trans (congrArg some (by kernel_rfl))
 f257 := Tryd.func29.trans (congrArg some (by kernel_rfl))
 f294 := Tryd.func40.trans (congrArg some (by kernel_rfl))
 f295 := Tryd.func41.trans (congrArg some (by kernel_rfl))
 f296 := Tryd.func42.trans (congrArg some (by kernel_rfl))
 f297 := Tryd.func43.trans (congrArg some (by kernel_rfl))
 f298 := Tryd.func44.trans (congrArg some (by kernel_rfl))
 f299 := Tryd.func45.trans (congrArg some (by kernel_rfl))
 f300 := Tryd.func47.trans (congrArg some (by kernel_rfl))
 f301 := Tryd.func48.trans (congrArg some (by kernel_rfl))
 f328 := Tryd.func57.trans (congrArg some (by kernel_rfl))
 f329 := Tryd.func58.trans (congrArg some (by kernel_rfl))
 f330 := Tryd.func59.trans (congrArg some (by kernel_rfl))
 f331 := Tryd.func60.trans (congrArg some (by kernel_rfl))
 f332 := Tryd.func61.trans (congrArg some (by kernel_rfl))
 f343 := Tryd.func67.trans (congrArg some (by kernel_rfl))
 t0 := Tryd.underlying0
 a0 := Tryd.isAgg0
 z0 := Tryd.sizeOf0
 v0 := Tryd.zeroValue0
 t3 := Tryd.underlying3
 a3 := Tryd.isAgg3
 z3 := Tryd.sizeOf3
 v3 := Tryd.zeroValue3
 t4 := Tryd.underlying4
 a4 := Tryd.isAgg4
 z4 := Tryd.sizeOf4
 v4 := Tryd.zeroValue4
 t5 := Tryd.underlying5
 a5 := Tryd.isAgg5
 z5 := Tryd.sizeOf5
 v5 := Tryd.zeroValue5
 t9 := Tryd.underlying9
 a9 := Tryd.isAgg9
 z9 := Tryd.sizeOf9
 v9 := Tryd.zeroValue9
 t28 := Tryd.underlying28
 a28 := Tryd.isAgg28
 z28 := Tryd.sizeOf28
 v28 := Tryd.zeroValue28
 t46 := Tryd.underlying63
 a46 := Tryd.isAgg63
 z46 := Tryd.sizeOf63
 v46 := Tryd.zeroValue63
 t51 := Tryd.underlying82
 a51 := Tryd.isAgg82
 z51 := Tryd.sizeOf82
 v51 := Tryd.zeroValue82
 t53 := Tryd.underlying84
 a53 := Tryd.isAgg84
 z53 := Tryd.sizeOf84
 v53 := Tryd.zeroValue84
 t131 := Tryd.underlying79
 a131 := Tryd.isAgg79
 z131 := Tryd.sizeOf79
 v131 := Tryd.zeroValue79
 t182 := Tryd.underlying73
 a182 := Tryd.isAgg73
 z182 := Tryd.sizeOf73
 v182 := Tryd.zeroValue73
 t183 := Tryd.underlying74
 a183 := Tryd.isAgg74
 z183 := Tryd.sizeOf74
 v183 := Tryd.zeroValue74
 t218 := Tryd.underlying91
 a218 := Tryd.isAgg91
 z218 := Tryd.sizeOf91
 v218 := Tryd.zeroValue91
 t222 := Tryd.underlying95
 a222 := Tryd.isAgg95
 z222 := Tryd.sizeOf95
 v222 := Tryd.zeroValue95
 t228 := Tryd.underlying101
 a228 := Tryd.isAgg101
 z228 := Tryd.sizeOf101
 v228 := Tryd.zeroValue101
 t229 := Tryd.underlying102
 a229 := Tryd.isAgg102
 z229 := Tryd.sizeOf102
 v229 := Tryd.zeroValue102 }
open Go.Sort Go.RowKit in
theorem Tryd.slices_Sort_int (blk off cap : Nat) (zs : List Int) (w : World) (hH : Holds (Value.int .i64) w blk off zs.toArray) (hblk : blk < w.heap.size) (hsz : zs.length < 4611686018427387904) :
  Calls Tryd.prog 20 #[.slice (some ⟨blk, off, none⟩) zs.length cap] w fun e w' =>
   e = .returned (.tuple #[]) ∧ ∃ n os, w' = grow (putRow (Value.int .i64) (Sort.ahead w n) blk off (zs.mergeSort fun x y => decide (x ≤ y)).toArray) os := Any.slices_Sort_int Tryd.lays189 blk off cap zs w hH hblk hsz
def Tryd.laysNm220_ren : Go.Shelf.Ren := ⟨fun | 20 => 21 | n => n, fun | 22 => 28 | 3 => 3 | 4 => 4 | 0 => 0 | n => n, fun | n => n⟩
theorem Tryd.laysNm220 : Go.Proofs.Lays2.n20 Tryd.prog Tryd.laysNm220_ren := {
 mixed := by kernel_rfl
 f20 := Tryd.func21.trans (congrArg some (by kernel_rfl))
 t0 := Tryd.underlying0
 a0 := Tryd.isAgg0
 z0 := Tryd.sizeOf0
 v0 := Tryd.zeroValue0
 t3 := Tryd.underlying3
 a3 := Tryd.isAgg3
 z3 := Tryd.sizeOf3
 v3 := Tryd.zeroValue3
 t4 := Tryd.underlying4
 a4 := Tryd.isAgg4
 z4 := Tryd.sizeOf4
 v4 := Tryd.zeroValue4
 t22 := Tryd.underlying28
 a22 := Tryd.isAgg28
 z22 := Tryd.sizeOf28
 v22 := Tryd.zeroValue28
 i3 := by kernel_rfl }
open Go.RowKit Go.Lib Go.Sort in
theorem Tryd.slices_Compact_int (blk off cap : Nat) (zs : List Int) (w : World) (hH : Holds (Value.int .i64) w blk off zs.toArray) (hsz : zs.length ≤ 9223372036854775807) (hcap : zs.length ≤ cap) :
  Calls Tryd.prog 21 #[.slice (some ⟨blk, off, none⟩) zs.length cap] w fun e w' => e = .returned (.slice (some ⟨blk, off, none⟩) (Lib.compact zs).length cap) ∧ ∃ q, w' = putRow (Value.int .i64) (Sort.ahead w q) blk off (Lib.compact zs ++ List.replicate (zs.length - (Lib.compact zs).length) 0).toArray := Any.slices_Compact_int Tryd.laysNm220 blk off cap zs w hH hsz hcap
open Go.RowKit Go.Lib Go.Sort in
theorem Tryd.slices_Compact_int_empty (a : Option Addr) (cap : Nat) (w : World) :
  Calls Tryd.prog 21 #[.slice a 0 cap] w fun e w' => e = .returned (.slice a 0 cap) ∧ w' = w := Any.slices_Compact_int_empty Tryd.laysNm220 a cap w
open Go.RowKit Go.Sort in
theorem Tryd.slices_Sort_int_none (p : Option Addr) (cap : Nat) (w : World) :
  Calls Tryd.prog 20 #[.slice p 0 cap] w fun e w' => e = .returned (.tuple #[]) ∧ w' = w := Any.slices_Sort_int_none Tryd.lays189 p cap w
end Go.Proofs
