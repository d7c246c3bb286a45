/-
  What the functions compute is what the plain ones say, for all inputs at which those answer.
-/
import Derived.Test.YtlcjnalocidldaaDoorEDK17
import Derived.Test.YtlcjnalocidldaaDoorProg
set_option linter.unusedSimpArgs false
set_option linter.unusedVariables false
namespace Go.Vm.K17
open Go Go.Proofs
set_option maxHeartbeats 4000000
set_option maxRecDepth 10000
set_option maxHeartbeats 4000000
set_option maxRecDepth 10000
abbrev C0 (x : TSlot) : List Value := [.int .i64 x.seq, .int .i64 x.pc, .int .i64 x.i.op, .int .i64 x.i.d, .int .i64 x.i.a, .int .i64 x.i.b, .int .i64 x.i.imm, .int .i64 x.note.role, .int .i64 x.note.what, .bool x.note.volatile, .bool x.note.final, .int .i64 x.next, .bool x.done, .bool x.committed, .int .i64 x.val, .int .i64 x.at_, .int .i64 x.from_, .int .i64 x.id]
abbrev C1 (x : Tref02_Has) : List Value := [.string x.name, .bool x.d, .bool x.a, .bool x.b, .int .i64 x.imm, .int .u32 x.word]
abbrev C2 (x : TInst) : List Value := [.int .i64 x.op, .int .i64 x.d, .int .i64 x.a, .int .i64 x.b, .int .i64 x.imm]
abbrev C3 (x : TNote) : List Value := [.int .i64 x.role, .int .i64 x.what, .bool x.volatile, .bool x.final]
abbrev C4 (x : TStored) : List Value := [.int .i64 x.thread, .bool x.bar, .int .i64 x.at_, .int .i64 x.val]
abbrev cW (a b c d e : Value) (p : Twindow_Window) : List Value := a :: b :: c :: .int .i64 p.t :: rg34 p.regs [d, .int .i64 p.pc, .int .i64 p.seq, .bool p.ended, .bool p.held, .int .i64 p.at_, .int .i64 p.from_, e]
abbrev WA (b z : Nat) (v1 v2 v3 v4 v5 : Value) (p : Twindow_Window) (As : List At) : List At := .pt b (.cells z (cW v1 v2 v3 v4 v5 p)) :: .os RT_TSlot v4 p.slots :: .os RT_TSlot v5 p.log :: As
abbrev SA (b z : Nat) (v1 v2 : Value) (h2 : List Value) (v3 : Value) (h3 : List Value) (v4 : Value) (h4 : List Value) (v5 : Value) (p : Tstorage_Storage) (As : List At) : List At := .pt b (.cells z [v1, v2, v3, v4, v5]) :: .os RT_TStored v1 p.events :: .oss (RO.os (RT.int .i64)) v2 h2 p.seen :: .oss (RO.om RT.bool false) v3 h3 p.has :: .oss (RO.om (RT.int .i64) false) v4 h4 p.now :: .om (RT.int .i64) false v5 p.last :: As
abbrev CT (n : FuncId) (a : Array Value) (V : Vw) (Q : Value → Vw → Prop) : Prop := ∃ v V', Cl Tryd.prog NG n a V.H v V'.H ∧ V.le V' ∧ Q v V'
abbrev T3 := @Tryd.underlying3
abbrev T4 := @Tryd.underlying4
abbrev T5 := @Tryd.underlying5
abbrev T9 := @Tryd.underlying9
abbrev T22 := @Tryd.underlying22
abbrev T23 := @Tryd.underlying23
abbrev T24 := @Tryd.underlying24
abbrev T26 := @Tryd.underlying26
abbrev T28 := @Tryd.underlying28
abbrev T30 := @Tryd.underlying30
abbrev T35 := @Tryd.underlying35
abbrev T40 := @Tryd.underlying40
abbrev T52 := @Tryd.underlying52
abbrev T54 := @Tryd.underlying54
abbrev T56 := @Tryd.underlying56
abbrev T59 := @Tryd.underlying59
abbrev T61 := @Tryd.underlying61
abbrev T62 := @Tryd.underlying62
abbrev T64 := @Tryd.underlying64
abbrev T67 := @Tryd.underlying67
abbrev T84 := @Tryd.underlying84
abbrev T85 := @Tryd.underlying85
abbrev T86 := @Tryd.underlying86
abbrev T87 := @Tryd.underlying87
abbrev T88 := @Tryd.underlying88
abbrev T90 := @Tryd.underlying90
abbrev T91 := @Tryd.underlying91
abbrev T95 := @Tryd.underlying95
abbrev T111 := @Tryd.underlying111
abbrev T115 := @Tryd.underlying115
abbrev T121 := @Tryd.underlying121
abbrev T123 := @Tryd.underlying123
abbrev T124 := @Tryd.underlying124
abbrev T129 := @Tryd.underlying129
theorem ti3 : tinfo Tryd.prog 3 (.int .i64 0) 1 8 := by unfold tinfo; kernel_rfl
theorem ti4 : tinfo Tryd.prog 4 (.bool false) 1 1 := by unfold tinfo; kernel_rfl
theorem ti5 : tinfo Tryd.prog 5 (.int .u8 0) 1 1 := by unfold tinfo; kernel_rfl
theorem ti9 : tinfo Tryd.prog 9 (.string ByteArray.empty) 1 16 := by unfold tinfo; kernel_rfl
theorem ti22 : tinfo Tryd.prog 22 (.slice none 0 0) 1 24 := by unfold tinfo; kernel_rfl
theorem ti23 : tinfo Tryd.prog 23 (.slice none 0 0) 1 24 := by unfold tinfo; kernel_rfl
theorem ti24 : tinfo Tryd.prog 24 (.slice none 0 0) 1 24 := by unfold tinfo; kernel_rfl
theorem ti26 : tinfo Tryd.prog 26 (.agg #[.slice none 0 0, .slice none 0 0, .slice none 0 0]) 3 72 := by unfold tinfo; kernel_rfl
theorem ti28 : tinfo Tryd.prog 28 (.agg #[.int .i64 0, .int .i64 0, .bool false]) 3 24 := by unfold tinfo; kernel_rfl
theorem ti40 : tinfo Tryd.prog 40 (.slice none 0 0) 1 24 := by unfold tinfo; kernel_rfl
theorem ti52 : tinfo Tryd.prog 52 (.agg #[.int .i64 0, .int .i64 0, .int .i64 0, .int .i64 0, .int .i64 0, .int .i64 0, .int .i64 0, .int .i64 0, .int .i64 0, .int .i64 0, .int .i64 0, .int .i64 0, .int .i64 0, .int .i64 0, .int .i64 0, .int .i64 0, .int .i64 0, .int .i64 0, .int .i64 0, .int .i64 0, .int .i64 0, .int .i64 0, .int .i64 0, .int .i64 0, .int .i64 0, .int .i64 0, .int .i64 0, .int .i64 0, .int .i64 0, .int .i64 0, .int .i64 0, .int .i64 0, .int .i64 0, .int .i64 0]) 34 272 := by unfold tinfo; kernel_rfl
theorem ti54 : tinfo Tryd.prog 54 (.agg #[.slice none 0 0, .slice none 0 0, .slice none 0 0, .int .i64 0, .int .i64 0, .int .i64 0, .int .i64 0, .int .i64 0, .int .i64 0, .int .i64 0, .int .i64 0, .int .i64 0, .int .i64 0, .int .i64 0, .int .i64 0, .int .i64 0, .int .i64 0, .int .i64 0, .int .i64 0, .int .i64 0, .int .i64 0, .int .i64 0, .int .i64 0, .int .i64 0, .int .i64 0, .int .i64 0, .int .i64 0, .int .i64 0, .int .i64 0, .int .i64 0, .int .i64 0, .int .i64 0, .int .i64 0, .int .i64 0, .int .i64 0, .int .i64 0, .int .i64 0, .int .i64 0, .slice none 0 0, .int .i64 0, .int .i64 0, .bool false, .bool false, .int .i64 0, .int .i64 0, .slice none 0 0]) 46 440 := by unfold tinfo; kernel_rfl
theorem ti56 : tinfo Tryd.prog 56 (.agg #[.int .i64 0, .int .i64 0, .int .i64 0, .int .i64 0, .int .i64 0]) 5 40 := by unfold tinfo; kernel_rfl
theorem ti59 : tinfo Tryd.prog 59 (.int .u32 0) 1 4 := by unfold tinfo; kernel_rfl
theorem ti61 : tinfo Tryd.prog 61 (.agg #[.int .i64 0, .int .i64 0, .bool false, .bool false]) 4 24 := by unfold tinfo; kernel_rfl
theorem ti67 : tinfo Tryd.prog 67 (.agg #[.int .i64 0, .int .i64 0, .int .i64 0, .int .i64 0, .int .i64 0, .int .i64 0, .int .i64 0, .int .i64 0, .int .i64 0, .bool false, .bool false, .int .i64 0, .bool false, .bool false, .int .i64 0, .int .i64 0, .int .i64 0, .int .i64 0]) 18 128 := by unfold tinfo; kernel_rfl
theorem ti84 : tinfo Tryd.prog 84 (.map none) 1 8 := by unfold tinfo; kernel_rfl
theorem ti85 : tinfo Tryd.prog 85 (.slice none 0 0) 1 24 := by unfold tinfo; kernel_rfl
theorem ti86 : tinfo Tryd.prog 86 (.slice none 0 0) 1 24 := by unfold tinfo; kernel_rfl
theorem ti87 : tinfo Tryd.prog 87 (.slice none 0 0) 1 24 := by unfold tinfo; kernel_rfl
theorem ti88 : tinfo Tryd.prog 88 (.slice none 0 0) 1 24 := by unfold tinfo; kernel_rfl
theorem ti90 : tinfo Tryd.prog 90 (.agg #[.slice none 0 0, .slice none 0 0, .slice none 0 0, .slice none 0 0, .map none]) 5 104 := by unfold tinfo; kernel_rfl
theorem ti91 : tinfo Tryd.prog 91 (.map none) 1 8 := by unfold tinfo; kernel_rfl
theorem ti95 : tinfo Tryd.prog 95 (.agg #[.string ByteArray.empty, .bool false, .bool false, .bool false, .int .i64 0, .int .u32 0]) 6 40 := by unfold tinfo; kernel_rfl
theorem ti111 : tinfo Tryd.prog 111 (.agg #[.int .i64 0, .int .i64 0, .int .i64 0, .int .i64 0, .int .i64 0]) 5 40 := by unfold tinfo; kernel_rfl
theorem ti115 : tinfo Tryd.prog 115 (.agg #[.int .i64 0, .bool false, .int .i64 0, .int .i64 0]) 4 32 := by unfold tinfo; kernel_rfl
theorem ti123 : tinfo Tryd.prog 123 (.agg #[.string ByteArray.empty, .string ByteArray.empty, .int .u32 0]) 3 40 := by unfold tinfo; kernel_rfl
theorem pl26 : placesAre Tryd.prog 26 #[(0, 1), (1, 1), (2, 1)] := ⟨_, Tryd.underlying26, by kernel_rfl⟩
theorem pl28 : placesAre Tryd.prog 28 #[(0, 1), (1, 1), (2, 1)] := ⟨_, Tryd.underlying28, by kernel_rfl⟩
theorem pl54 : placesAre Tryd.prog 54 #[(0, 3), (3, 1), (4, 34), (38, 1), (39, 1), (40, 1), (41, 1), (42, 1), (43, 1), (44, 1), (45, 1)] := ⟨_, Tryd.underlying54, by kernel_rfl⟩
theorem pl56 : placesAre Tryd.prog 56 #[(0, 1), (1, 1), (2, 1), (3, 1), (4, 1)] := ⟨_, Tryd.underlying56, by kernel_rfl⟩
theorem pl61 : placesAre Tryd.prog 61 #[(0, 1), (1, 1), (2, 1), (3, 1)] := ⟨_, Tryd.underlying61, by kernel_rfl⟩
theorem pl67 : placesAre Tryd.prog 67 #[(0, 1), (1, 1), (2, 5), (7, 4), (11, 1), (12, 1), (13, 1), (14, 1), (15, 1), (16, 1), (17, 1)] := ⟨_, Tryd.underlying67, by kernel_rfl⟩
theorem pl90 : placesAre Tryd.prog 90 #[(0, 1), (1, 1), (2, 1), (3, 1), (4, 1)] := ⟨_, Tryd.underlying90, by kernel_rfl⟩
theorem pl95 : placesAre Tryd.prog 95 #[(0, 1), (1, 1), (2, 1), (3, 1), (4, 1), (5, 1)] := ⟨_, Tryd.underlying95, by kernel_rfl⟩
theorem pl115 : placesAre Tryd.prog 115 #[(0, 1), (1, 1), (2, 1), (3, 1)] := ⟨_, Tryd.underlying115, by kernel_rfl⟩
theorem en4 : enterable Tryd.prog 4 := ⟨Tryd.f4, Tryd.func4, by kernel_rfl, Z⟩
theorem en5 : enterable Tryd.prog 5 := ⟨Tryd.f5, Tryd.func5, by kernel_rfl, Z⟩
theorem en6 : enterable Tryd.prog 6 := ⟨Tryd.f6, Tryd.func6, by kernel_rfl, Z⟩
theorem en7 : enterable Tryd.prog 7 := ⟨Tryd.f7, Tryd.func7, by kernel_rfl, Z⟩
theorem en8 : enterable Tryd.prog 8 := ⟨Tryd.f8, Tryd.func8, by kernel_rfl, Z⟩
theorem en9 : enterable Tryd.prog 9 := ⟨Tryd.f9, Tryd.func9, by kernel_rfl, Z⟩
theorem en10 : enterable Tryd.prog 10 := ⟨Tryd.f10, Tryd.func10, by kernel_rfl, Z⟩
theorem en11 : enterable Tryd.prog 11 := ⟨Tryd.f11, Tryd.func11, by kernel_rfl, Z⟩
theorem en12 : enterable Tryd.prog 12 := ⟨Tryd.f12, Tryd.func12, by kernel_rfl, Z⟩
theorem en13 : enterable Tryd.prog 13 := ⟨Tryd.f13, Tryd.func13, by kernel_rfl, Z⟩
theorem en14 : enterable Tryd.prog 14 := ⟨Tryd.f14, Tryd.func14, by kernel_rfl, Z⟩
theorem en15 : enterable Tryd.prog 15 := ⟨Tryd.f15, Tryd.func15, by kernel_rfl, Z⟩
theorem en16 : enterable Tryd.prog 16 := ⟨Tryd.f16, Tryd.func16, by kernel_rfl, Z⟩
theorem en17 : enterable Tryd.prog 17 := ⟨Tryd.f17, Tryd.func17, by kernel_rfl, Z⟩
theorem en18 : enterable Tryd.prog 18 := ⟨Tryd.f18, Tryd.func18, by kernel_rfl, Z⟩
theorem en19 : enterable Tryd.prog 19 := ⟨Tryd.f19, Tryd.func19, by kernel_rfl, Z⟩
theorem en20 : enterable Tryd.prog 20 := ⟨Tryd.f20, Tryd.func20, by kernel_rfl, Z⟩
theorem en21 : enterable Tryd.prog 21 := ⟨Tryd.f21, Tryd.func21, by kernel_rfl, Z⟩
theorem en22 : enterable Tryd.prog 22 := ⟨Tryd.f22, Tryd.func22, by kernel_rfl, Z⟩
theorem en23 : enterable Tryd.prog 23 := ⟨Tryd.f23, Tryd.func23, by kernel_rfl, Z⟩
theorem en24 : enterable Tryd.prog 24 := ⟨Tryd.f24, Tryd.func24, by kernel_rfl, Z⟩
theorem en25 : enterable Tryd.prog 25 := ⟨Tryd.f25, Tryd.func25, by kernel_rfl, Z⟩
theorem en26 : enterable Tryd.prog 26 := ⟨Tryd.f26, Tryd.func26, by kernel_rfl, Z⟩
theorem en27 : enterable Tryd.prog 27 := ⟨Tryd.f27, Tryd.func27, by kernel_rfl, Z⟩
theorem en28 : enterable Tryd.prog 28 := ⟨Tryd.f28, Tryd.func28, by kernel_rfl, Z⟩
theorem en29 : enterable Tryd.prog 29 := ⟨Tryd.f29, Tryd.func29, by kernel_rfl, Z⟩
theorem en30 : enterable Tryd.prog 30 := ⟨Tryd.f30, Tryd.func30, by kernel_rfl, Z⟩
theorem en31 : enterable Tryd.prog 31 := ⟨Tryd.f31, Tryd.func31, by kernel_rfl, Z⟩
theorem en32 : enterable Tryd.prog 32 := ⟨Tryd.f32, Tryd.func32, by kernel_rfl, Z⟩
theorem en33 : enterable Tryd.prog 33 := ⟨Tryd.f33, Tryd.func33, by kernel_rfl, Z⟩
theorem en34 : enterable Tryd.prog 34 := ⟨Tryd.f34, Tryd.func34, by kernel_rfl, Z⟩
theorem en35 : enterable Tryd.prog 35 := ⟨Tryd.f35, Tryd.func35, by kernel_rfl, Z⟩
theorem en36 : enterable Tryd.prog 36 := ⟨Tryd.f36, Tryd.func36, by kernel_rfl, Z⟩
theorem en37 : enterable Tryd.prog 37 := ⟨Tryd.f37, Tryd.func37, by kernel_rfl, Z⟩
theorem en38 : enterable Tryd.prog 38 := ⟨Tryd.f38, Tryd.func38, by kernel_rfl, Z⟩
theorem en39 : enterable Tryd.prog 39 := ⟨Tryd.f39, Tryd.func39, by kernel_rfl, Z⟩
theorem en40 : enterable Tryd.prog 40 := ⟨Tryd.f40, Tryd.func40, by kernel_rfl, Z⟩
theorem en41 : enterable Tryd.prog 41 := ⟨Tryd.f41, Tryd.func41, by kernel_rfl, Z⟩
theorem en42 : enterable Tryd.prog 42 := ⟨Tryd.f42, Tryd.func42, by kernel_rfl, Z⟩
theorem en43 : enterable Tryd.prog 43 := ⟨Tryd.f43, Tryd.func43, by kernel_rfl, Z⟩
theorem en44 : enterable Tryd.prog 44 := ⟨Tryd.f44, Tryd.func44, by kernel_rfl, Z⟩
theorem en45 : enterable Tryd.prog 45 := ⟨Tryd.f45, Tryd.func45, by kernel_rfl, Z⟩
theorem en46 : enterable Tryd.prog 46 := ⟨Tryd.f46, Tryd.func46, by kernel_rfl, Z⟩
theorem en47 : enterable Tryd.prog 47 := ⟨Tryd.f47, Tryd.func47, by kernel_rfl, Z⟩
theorem en48 : enterable Tryd.prog 48 := ⟨Tryd.f48, Tryd.func48, by kernel_rfl, Z⟩
theorem en49 : enterable Tryd.prog 49 := ⟨Tryd.f49, Tryd.func49, by kernel_rfl, Z⟩
theorem en50 : enterable Tryd.prog 50 := ⟨Tryd.f50, Tryd.func50, by kernel_rfl, Z⟩
theorem en51 : enterable Tryd.prog 51 := ⟨Tryd.f51, Tryd.func51, by kernel_rfl, Z⟩
theorem en52 : enterable Tryd.prog 52 := ⟨Tryd.f52, Tryd.func52, by kernel_rfl, Z⟩
theorem en53 : enterable Tryd.prog 53 := ⟨Tryd.f53, Tryd.func53, by kernel_rfl, Z⟩
theorem en54 : enterable Tryd.prog 54 := ⟨Tryd.f54, Tryd.func54, by kernel_rfl, Z⟩
theorem en55 : enterable Tryd.prog 55 := ⟨Tryd.f55, Tryd.func55, by kernel_rfl, Z⟩
theorem en56 : enterable Tryd.prog 56 := ⟨Tryd.f56, Tryd.func56, by kernel_rfl, Z⟩
theorem en57 : enterable Tryd.prog 57 := ⟨Tryd.f57, Tryd.func57, by kernel_rfl, Z⟩
theorem en58 : enterable Tryd.prog 58 := ⟨Tryd.f58, Tryd.func58, by kernel_rfl, Z⟩
theorem en59 : enterable Tryd.prog 59 := ⟨Tryd.f59, Tryd.func59, by kernel_rfl, Z⟩
theorem en60 : enterable Tryd.prog 60 := ⟨Tryd.f60, Tryd.func60, by kernel_rfl, Z⟩
theorem en61 : enterable Tryd.prog 61 := ⟨Tryd.f61, Tryd.func61, by kernel_rfl, Z⟩
theorem en62 : enterable Tryd.prog 62 := ⟨Tryd.f62, Tryd.func62, by kernel_rfl, Z⟩
theorem en63 : enterable Tryd.prog 63 := ⟨Tryd.f63, Tryd.func63, by kernel_rfl, Z⟩
theorem en64 : enterable Tryd.prog 64 := ⟨Tryd.f64, Tryd.func64, by kernel_rfl, Z⟩
theorem en65 : enterable Tryd.prog 65 := ⟨Tryd.f65, Tryd.func65, by kernel_rfl, Z⟩
theorem en66 : enterable Tryd.prog 66 := ⟨Tryd.f66, Tryd.func66, by kernel_rfl, Z⟩
theorem en67 : enterable Tryd.prog 67 := ⟨Tryd.f67, Tryd.func67, by kernel_rfl, Z⟩
theorem en68 : enterable Tryd.prog 68 := ⟨Tryd.f68, Tryd.func68, by kernel_rfl, Z⟩
theorem en69 : enterable Tryd.prog 69 := ⟨Tryd.f69, Tryd.func69, by kernel_rfl, Z⟩
theorem en70 : enterable Tryd.prog 70 := ⟨Tryd.f70, Tryd.func70, by kernel_rfl, Z⟩
theorem en71 : enterable Tryd.prog 71 := ⟨Tryd.f71, Tryd.func71, by kernel_rfl, Z⟩
theorem en72 : enterable Tryd.prog 72 := ⟨Tryd.f72, Tryd.func72, by kernel_rfl, Z⟩
theorem en73 : enterable Tryd.prog 73 := ⟨Tryd.f73, Tryd.func73, by kernel_rfl, Z⟩
theorem en74 : enterable Tryd.prog 74 := ⟨Tryd.f74, Tryd.func74, by kernel_rfl, Z⟩
theorem en75 : enterable Tryd.prog 75 := ⟨Tryd.f75, Tryd.func75, by kernel_rfl, Z⟩
theorem en76 : enterable Tryd.prog 76 := ⟨Tryd.f76, Tryd.func76, by kernel_rfl, Z⟩
theorem en77 : enterable Tryd.prog 77 := ⟨Tryd.f77, Tryd.func77, by kernel_rfl, Z⟩
theorem en78 : enterable Tryd.prog 78 := ⟨Tryd.f78, Tryd.func78, by kernel_rfl, Z⟩
theorem en79 : enterable Tryd.prog 79 := ⟨Tryd.f79, Tryd.func79, by kernel_rfl, Z⟩
theorem en80 : enterable Tryd.prog 80 := ⟨Tryd.f80, Tryd.func80, by kernel_rfl, Z⟩
theorem en81 : enterable Tryd.prog 81 := ⟨Tryd.f81, Tryd.func81, by kernel_rfl, Z⟩
theorem en82 : enterable Tryd.prog 82 := ⟨Tryd.f82, Tryd.func82, by kernel_rfl, Z⟩
theorem en83 : enterable Tryd.prog 83 := ⟨Tryd.f83, Tryd.func83, by kernel_rfl, Z⟩
theorem en84 : enterable Tryd.prog 84 := ⟨Tryd.f84, Tryd.func84, by kernel_rfl, Z⟩
theorem en85 : enterable Tryd.prog 85 := ⟨Tryd.f85, Tryd.func85, by kernel_rfl, Z⟩
theorem en86 : enterable Tryd.prog 86 := ⟨Tryd.f86, Tryd.func86, by kernel_rfl, Z⟩
theorem en87 : enterable Tryd.prog 87 := ⟨Tryd.f87, Tryd.func87, by kernel_rfl, Z⟩
theorem en88 : enterable Tryd.prog 88 := ⟨Tryd.f88, Tryd.func88, by kernel_rfl, Z⟩
theorem en89 : enterable Tryd.prog 89 := ⟨Tryd.f89, Tryd.func89, by kernel_rfl, Z⟩
theorem en90 : enterable Tryd.prog 90 := ⟨Tryd.f90, Tryd.func90, by kernel_rfl, Z⟩
theorem en91 : enterable Tryd.prog 91 := ⟨Tryd.f91, Tryd.func91, by kernel_rfl, Z⟩
theorem en92 : enterable Tryd.prog 92 := ⟨Tryd.f92, Tryd.func92, by kernel_rfl, Z⟩
theorem en93 : enterable Tryd.prog 93 := ⟨Tryd.f93, Tryd.func93, by kernel_rfl, Z⟩
theorem en94 : enterable Tryd.prog 94 := ⟨Tryd.f94, Tryd.func94, by kernel_rfl, Z⟩
theorem en95 : enterable Tryd.prog 95 := ⟨Tryd.f95, Tryd.func95, by kernel_rfl, Z⟩
theorem en96 : enterable Tryd.prog 96 := ⟨Tryd.f96, Tryd.func96, by kernel_rfl, Z⟩
theorem en97 : enterable Tryd.prog 97 := ⟨Tryd.f97, Tryd.func97, by kernel_rfl, Z⟩
theorem en98 : enterable Tryd.prog 98 := ⟨Tryd.f98, Tryd.func98, by kernel_rfl, Z⟩
theorem wk_law17_tiny {V : Vw} {Rs : List At} {r : TImage} (h : law17_tiny = some r) (gl : Glb V) (ow : Ow V (Rs)) : CT 22 #[] V fun v V' => ∃ (i : Value) (j : Value) (l : Value), v = .agg #[i, j, l] ∧ Fz (RT.int .u32) V' i r.code ∧ Fz RT_TNote V' j r.notes ∧ Fz (RT.int .i64) V' l r.threads ∧ Ow V' (Rs) := by
 refine Ct.of gl.lo Tryd.func22 Z nle ?_
 unfold law17_tiny at h
 refine rg<|?_
 refine O.alloc ow Z Z (.inl Z) Z ti26 Z Z nd (fun aj ai G H => ?_)
 refine dn<|rg<|?_
 refine O.lit (R := (RT.int .u32)) H Z Z (.inl Z) Z T22 ti59 Z Z Z (nr Z) Z (aC K (aC K aN)) (.cons _ _ 941752232 _ (by simp [topV]) Z (.cons _ _ 266338304 _ (by simp [topV]) Z .nil)) (fun _ => nd) (fun b aa B I => ?_)
 obtain ⟨ak, z, y⟩ := bindS h
 refine O.make (R := RT_TNote) (z0 := (⟨0, 0, false, false⟩ : TNote)) I Z Z (.inl Z) Z K K T23 ti61 Z Z Z nle Z z (fun _ => nd) (fun c ab C J => ?_)
 refine O.lit (R := (RT.int .i64)) J Z Z (.inl Z) Z T24 ti3 Z Z Z (nr Z) Z (aC K aN) (.cons _ _ 0 _ (by simp [topV]) Z .nil) (fun _ => nd) (fun d ac D a => ?_)
 refine uu (v := .agg #[b, c, d]) Z (S.build (vs := [b, c, d]) Z ti26 Z pl26 (aC l2 (aC l1 (aC l0 aN))) (allC (a.osne (k := 2) Z) (allC (a.osne (k := 1) Z) (allC (a.osne (k := 0) Z) allN))) (fill1 Z (a.oscells (k := 2) Z) nle (fill1 Z (a.oscells (k := 1) Z) nle (fill1 Z (a.oscells (k := 0) Z) nle Z))))<|?_
 refine O.store (k := 3) (cs := [b, c, d]) (c' := [b, c, d]) a Z Z Z (.inl Z) Z l4 l0 ti26 (by simp [topV]) Z Z nle (by have W := (a.osone (k := 2) Z); have X := (a.osone (k := 1) Z); have Y := (a.osone (k := 0) Z); simp only [List.all_cons, List.all_nil, W, X, Y]; rfl) Z nd (fun ad E M => ?_)
 refine dn<|wr<|?_
 obtain ⟨ae, m, F, p, N⟩ := M.osfz (k := 2) Z
 rw [← m]
 obtain ⟨af, n, f, q, P⟩ := N.osfz (k := 1) Z
 rw [← n]
 have s := p.up f
 obtain ⟨ah, o, e, u, g⟩ := P.osfz (k := 0) Z
 rw [← o]
 have w := s.up e
 have x := q.up e
 have A := ((((((G.t B).t C).t D).t E).t F).t f).t e
 have Q := g.sel 1 []
 cases y
 exact fin.cellN (.inr Z) Z l4 T26 Z ti26 (g.own (k := 0) Z).get Z ⟨_, Z, A, b, c, d, Z, w, x, u, Q⟩
theorem wk_word_good {V : Vw} {Rs : List At} {d e : Int} {r : Bool} (h : word_good d e = some r) (gl : Glb V) (ow : Ow V (Rs)) : CT 94 #[.int .i64 d, .int .i64 e] V fun v V' => v = .bool r ∧ Ow V' (Rs) := by
 refine Ct.of gl.lo Tryd.func94 Z nle ?_
 unfold word_good at h
 refine rg<|ag Z K<|dn<|rg<|mv Z l1<|uu Z (S.geq Z l0 K)<|mv Z l0<|?_
 refine jX 6 (jv 10 (.bool ((decide (0 ≤ d)) && (decide (0 ≤ e))))<|jr 9 2 []) (fun f => ?_) fun kk => ?_
 ·refine mv Z l0<|?_
  refine jX 10 (jv 14 (.bool (((decide (0 ≤ d)) && (decide (0 ≤ e))) && (decide (d ≤ 32))))<|jr 13 2 []) (fun g => ?_) fun kk => ?_
  ·refine mv Z l0<|?_
   refine jX 16 (jv 20 (.bool ((((decide (0 ≤ d)) && (decide (0 ≤ e))) && (decide (d ≤ 32))) && (decide (e ≤ (w64 (32 - d))))))<|jr 19 4 []) (fun i => ?_) fun kk => ?_
   ·refine ag Z l0<|dn<|wr<|?_
    cases h
    exact fS l0 ⟨_, Z, (.refl _), Z, ow⟩
   refine gs l0 (fun a => ?_) fun a => ?_
   ·refine ug Z Z (lb 0 a) (S.move Z (lk 13))<|ug Z Z (lb 1 a) (S.move Z (lk 13))<|ug Z Z (lb 2 a) (S.sub Z K l0)<|ug Z Z (lb 3 a) (S.leq Z l2 l0)<|uu Z (S.pickT Z (lb 4 a) l0)<|?_
    exact jk kk (aT a)
   refine uxs 4 19 Z Z (lb 0 a)<|uu Z (S.pickF Z (lb 4 a) K)<|?_
   exact jk kk (aF a)
  refine gs l0 (fun b => ?_) fun b => ?_
  ·refine ug Z Z (lb 0 b) (S.move Z l8)<|ug Z Z (lb 1 b) (S.leq Z l0 K)<|uu Z (S.pickT Z (lb 2 b) l0)<|?_
   exact jk kk (aT b)
  refine uxs 2 13 Z Z (lb 0 b)<|uu Z (S.pickF Z (lb 2 b) K)<|?_
  exact jk kk (aF b)
 refine gs l0 (fun c => ?_) fun c => ?_
 ·refine ug Z Z (lb 0 c) (S.move Z l5)<|ug Z Z (lb 1 c) (S.geq Z l0 K)<|uu Z (S.pickT Z (lb 2 c) l0)<|?_
  exact jk kk (aT c)
 refine uxs 2 9 Z Z (lb 0 c)<|uu Z (S.pickF Z (lb 2 c) K)<|?_
 exact jk kk (aF c)
theorem wk_word_mask {V : Vw} {Rs : List At} {b : Int} {r : Int} (h : word_mask b = some r) (gl : Glb V) (ow : Ow V (Rs)) : CT 95 #[.int .i64 b] V fun v V' => v = .int .u32 r ∧ Ow V' (Rs) := by
 refine Ct.of gl.lo Tryd.func95 Z nle ?_
 unfold word_mask at h
 refine rg<|ag Z K<|dn<|ws<|rg<|mv Z l1<|uu Z (S.geq Z l0 K)<|dn<|?_
 refine WP.cond _ l0 Z (fun a => ?_) (fun a => ?_)
 ·have c := ifT a h
  refine rg<|ag Z K<|dn<|wr<|sqR<|?_
  obtain rfl := si c
  exact fS l0 ⟨_, Z, (.refl _), Z, ow⟩
 have d := ifF a h
 refine wn<|sqN<|rg<|mv Z l3<|uu Z (S.maxI Z l0 K)<|?_
 obtain ⟨g, f, e⟩ := bindS d
 refine uu Z (S.shl f Z K l0)<|uu Z (S.sub Z l0 K)<|ag Z l0<|dn<|wr<|?_
 cases e
 exact fS l0 ⟨_, Z, (.refl _), Z, ow⟩
theorem wk_word_Get {V : Vw} {Rs : List At} {g i j : Int} {r : Int} (h : word_Get g i j = some r) (gl : Glb V) (ow : Ow V (Rs)) : CT 86 #[.int .u32 g, .int .i64 i, .int .i64 j] V fun v V' => v = .int .u32 r ∧ Ow V' (Rs) := by
 refine Ct.of gl.lo Tryd.func86 Z nle ?_
 unfold word_Get at h
 refine rg<|ag Z K<|dn<|ws<|rg<|mv Z l2<|mv Z l4<|?_
 refine cb Z en94 (a2 l1 l0) h (wk_word_good · gl ow) ?_
 rintro k s C m c ⟨rfl, f⟩
 refine uu Z (S.not Z l0)<|dn<|?_
 refine cd l0 s (fun a u => ?_) (fun a o => ?_)
 ·have A : k = false := nT a
  refine rg<|ag Z K<|dn<|wr<|sqR<|?_
  obtain rfl := si u
  exact fS l0 ⟨_, Z, c, Z, f⟩
 have B : k = true := nF a
 refine wn<|sqN<|?_
 refine WP.usdreg Z Z Z ?_
 refine mv Z l5<|mv Z l7<|uu Z (S.sub Z K l0)<|mv Z (lk 10)<|uu Z (S.sub Z l1 l0)<|?_
 obtain ⟨D, w, p⟩ := bindS o
 refine uu Z (S.shr w Z l4 l0)<|mv Z (lk 13)<|?_
 have n := gl.up c
 obtain ⟨E, x, q⟩ := bindS p
 refine O.call (V := m) Z Z (.inl Z) Z en95 (aC l0 aN) (wk_word_mask x n f) (fun z l d b => by obtain ⟨rfl, e⟩ := b; exact (fun _ => one)) (fun z l d b => ?_)
 obtain ⟨rfl, e⟩ := b
 refine uu Z (S.andI Z l2 l0)<|ag Z l0<|dn<|wr<|?_
 have y := c.t d
 cases q
 exact fS l0 ⟨_, Z, y, Z, e⟩
theorem wk_word_Signed {V : Vw} {Rs : List At} {g b : Int} {r : Int} (h : word_Signed g b = some r) (gl : Glb V) (ow : Ow V (Rs)) : CT 87 #[.int .u32 g, .int .i64 b] V fun v V' => v = .int .i64 r ∧ Ow V' (Rs) := by
 refine Ct.of gl.lo Tryd.func87 Z nle ?_
 unfold word_Signed at h
 refine rg<|ag Z K<|dn<|ws<|rg<|mv Z l2<|uu Z (S.lss Z l0 K)<|mv Z l0<|?_
 refine jX 6 (jv 11 (.bool ((decide (b < 1)) || (decide (32 < b))))<|jr 10 2 []) (fun C => ?_) fun kk => ?_
 ·refine dn<|?_
  refine WP.cond _ l0 Z (fun c => ?_) (fun c => ?_)
  ·have p := ifT c h
   refine rg<|ag Z K<|dn<|wr<|sqR<|?_
   obtain rfl := si p
   exact fS l0 ⟨_, Z, (.refl _), Z, ow⟩
  have q := ifF c h
  refine wn<|sqN<|rg<|mv Z l7<|mv Z l9<|?_
  refine cb Z en95 (a1 l0) q (wk_word_mask · gl ow) ?_
  rintro G s D i y ⟨rfl, f⟩
  refine uu Z (S.andI Z l2 l0)<|uu Z (S.conv Z l0 T59 T3)<|ag Z l0<|dn<|?_
  refine WP.seqI (fun l V' => ∃ (d : Int), l = [(5, .int .i64 d)] ∧ i.le V' ∧ Ow V' (Rs) ∧ word_Signed_k1 d = some r) ?_ ?_
  ·rintro _ B ⟨d, rfl, z, A, e⟩
   unfold word_Signed_k1 at e
   refine rg<|mv Z l0<|ag Z l0<|dn<|wr<|?_
   have x := y.t z
   obtain rfl := si e
   exact fS l0 ⟨_, Z, x, Z, A⟩
  refine rg<|mv Z l0<|mv Z (lk 15)<|uu Z (S.sub Z l0 K)<|?_
  obtain ⟨E, u, k⟩ := bindS s
  refine uu Z (S.shr u Z l2 l0)<|uu Z (S.eqlI Z l0 K)<|dn<|?_
  refine cd l0 k (fun j m => ?_) (fun j o => ?_)
  ·refine rh<|mv Z l5<|mv Z (lk 20)<|?_
   obtain ⟨F, w, n⟩ := bindS m
   refine uu Z (S.shl w Z K l0)<|uu Z (S.sub Z l2 l0)<|ag Z l0<|dn<|sqN<|?_
   exact ⟨_, _, Z, ⟨_, Z, (.refl _), f, n⟩, allR⟩
  refine wn<|sqN<|?_
  exact ⟨_, _, Z, ⟨_, Z, (.refl _), f, o⟩, allR⟩
 refine gs l0 (fun a => ?_) fun a => ?_
 ·refine uxs 2 10 Z Z (lb 0 a)<|uu Z (S.pickT Z (lb 2 a) K)<|?_
  exact jk kk (oT a)
 refine ug Z Z (lb 0 a) (S.move Z l5)<|ug Z Z (lb 1 a) (S.gtr Z l0 K)<|uu Z (S.pickF Z (lb 2 a) l0)<|?_
 exact jk kk (oF a)
theorem wk_isa_read {V : Vw} {Rs : List At} {e f : Int} {r : TInst} (h : isa_read e f = some r) (gl : Glb V) (ow : Ow V (Rs)) : CT 65 #[.int .i64 e, .int .u32 f] V fun v V' => v = .agg (C2 r).toArray ∧ Ow V' (Rs) := by
 refine Ct.of gl.lo Tryd.func65 Z nle ?_
 unfold isa_read at h
 refine rg<|?_
 refine O.alloc ow Z Z (.inl Z) Z ti56 Z Z nd (fun m cT b4 cz => ?_)
 refine dn<|rg<|mv Z l1<|uu (v := .agg #[.int .i64 e, .int .i64 0, .int .i64 0, .int .i64 0, .int .i64 0]) Z (S.build (vs := [.int .i64 e]) Z ti56 Z pl56 (aC l0 aN) (allC (by simp [topV]) allN) Z)<|?_
 refine O.alloc cz Z Z (.inl Z) Z ti56 Z Z nd (fun o c2 b6 cD => ?_)
 refine st 0 cD Z l0 l1 ti56 (fun cH bR ch => ?_)
 refine dn<|ws<|rg<|mv Z l4<|?_
 obtain ⟨A, z, aR⟩ := bindS h
 have Q := (b4.t b6).t bR
 have c := gl.up Q
 obtain ⟨_, _, _, ar, bs, c8, bq, bo⟩ := c.g0.at z
 cases bs
 obtain rfl : ar = [.string A.name, .string A.fields, .int .u32 A.word] := bq
 refine uu Z (S.indexA Z Gl l0 T124 ti123 (ix_ge z) (by have dd := ix_lt z; have de := gl0_len; omega))<|fe Z l0 T123 Z ti9<|uk Z (S.load Z l0 T9 Z (bo 1 _ Z))<|?_
 obtain ⟨i, bu, M⟩ := bindS aR
 refine O.bytes ch Z Z (.inl Z) Z l0 T9 T121 T5 bu (fun _ => nd) (fun q ae d ac => ?_)
 refine uu Z (ac.oslen (k := 0) Z Z l0 T121)<|mv Z K<|dn<|wb<|?_
 have cy := ac.sel 3 [2, 1, 0]
 unfold isa_read_l1 at M
 obtain ⟨cc, hn38⟩ := loopO_some.1 M
 refine WP.loopI2 (fun n l V' => ∃ (u w x y g : Int), l = [(1, .int .u32 f), (4, .pointer (some ⟨m, 0, none⟩)), (5, .pointer (some ⟨o, 0, none⟩)), (14, q), (15, .int .i64 (i.length : Int)), (16, .int .i64 g)] ∧ ae.le V' ∧ Ow V' (.pt m (.cells 5 [.int .i64 0, .int .i64 0, .int .i64 0, .int .i64 0, .int .i64 0]) :: .pt o (.cells 5 [.int .i64 e, .int .i64 u, .int .i64 w, .int .i64 x, .int .i64 y]) :: .os (RT.int .u8) q i :: Rs) ∧ itO (fun s => isa_read_l1b e f i s.1 s.2.1 s.2.2.1 s.2.2.2.1 s.2.2.2.2) n (u, w, x, y, g) = some r) cc _ ⟨0, 0, 0, 0, 0, Z, .refl _, cy, hn38⟩ (allCons (lk 12) (allCons (lk 10) (allCons l7 (allCons l2 (allCons l1 (allCons l0 allNil)))))) ?_
 rintro _ _ af ⟨u, w, x, y, g, rfl, b, a, bg⟩
 obtain ⟨ca, ad, rfl, p, F⟩ := itS bg
 replace p : isa_read_l1b e f i u w x y g = some ad := p
 unfold isa_read_l1b at p
 refine rg<|uu Z (S.lss Z l5 l4)<|dn<|ws<|?_
 refine cd l0 p (fun an bh => ?_) (fun an be => ?_)
 ·refine wn<|sqN<|?_
  refine WP.seqI (fun l V' => ∃ (B C D E : Int), l = [(1, .int .u32 f), (4, .pointer (some ⟨m, 0, none⟩)), (5, .pointer (some ⟨o, 0, none⟩)), (14, q), (15, .int .i64 (i.length : Int)), (16, .int .i64 g)] ∧ af.le V' ∧ Ow V' (.pt m (.cells 5 [.int .i64 0, .int .i64 0, .int .i64 0, .int .i64 0, .int .i64 0]) :: .pt o (.cells 5 [.int .i64 e, .int .i64 B, .int .i64 C, .int .i64 D, .int .i64 E]) :: .os (RT.int .u8) q i :: Rs) ∧ isa_read_k1 g B C D E = some ad) ?_ ?_
  ·rintro _ c1 ⟨B, C, D, E, rfl, b5, cA, N⟩
   unfold isa_read_k1 at N
   refine rh<|uu Z (S.add Z l5 K)<|mv Z l0<|dn<|sqN<|?_
   have bK := b.t b5
   exact ⟨_, _, Z, ⟨ca, Nat.lt_succ_self _, _, _, _, _, _, Z, bK, cA, backS N F⟩, allR⟩
  refine wb<|rg<|?_
  obtain ⟨cF, j, bi⟩ := bindS bh
  obtain ⟨c6, dc, db, c7, P⟩ := a.ospt (k := 2) Z j
  obtain ⟨_, bt, _⟩ := a.osel (k := 2) Z P j
  refine uu Z (S.index Z ((lk 4).trans bt) l6 T121 ti5 (ix_ge j) (ix_lt j))<|?_
  obtain ⟨au, da, c9, br, bp⟩ := a.osel (k := 2) Z P j
  obtain rfl : au = [.int .u8 cF] := br
  refine uk Z (S.load Z l0 T5 Z (bp 0 _ Z))<|ag Z l0<|dn<|rg<|mv Z l0<|dn<|wb<|rg<|uu Z (S.eqlI Z l0 K)<|ag Z l0<|dn<|?_
  refine cd l0 bi (fun ao bj => ?_) (fun ao bl => ?_)
  ·refine rh<|mv Z l7<|?_
   have bL := d.t b
   have aD := c.up bL
   refine cb Z en86 (a3 l0 K K) bj (wk_word_Get · aD a) ?_
   rintro dD bk dr c3 b7 ⟨rfl, cB⟩
   refine uu Z (S.conv Z l0 T59 T3)<|fa 1 Z (lk 12) T56 Z ti3<|?_
   refine st 1 cB Z l0 l1 ti3 (fun c4 b8 cC => ?_)
   refine dn<|blkN<|blkN<|sqN<|?_
   have bM := b7.t b8
   exact ⟨_, _, Z, ⟨_, _, _, _, Z, bM, cC, bk⟩, allR⟩
  refine rg<|uu Z (S.eqlI Z l2 K)<|ag Z l0<|dn<|?_
  refine cd l0 bl (fun aq bm => ?_) (fun aq aG => ?_)
  ·refine rh<|mv Z l9<|?_
   have bN := d.t b
   have aE := c.up bN
   refine cb Z en86 (a3 l0 K K) bm (wk_word_Get · aE a) ?_
   rintro dE bn ds c5 b9 ⟨rfl, cE⟩
   refine uu Z (S.conv Z l0 T59 T3)<|fa 2 Z (lk 14) T56 Z ti3<|?_
   refine st 1 cE Z l0 l1 ti3 (fun cG bO ce => ?_)
   refine dn<|blkN<|blkN<|sqN<|?_
   have bv := b9.t bO
   exact ⟨_, _, Z, ⟨_, _, _, _, Z, bv, ce, bn⟩, allR⟩
  refine rg<|uu Z (S.eqlI Z l4 K)<|ag Z l0<|dn<|?_
  refine cd l0 aG (fun ah aH => ?_) (fun ah aJ => ?_)
  ·refine rh<|mv Z (lk 11)<|?_
   have bw := d.t b
   have av := c.up bw
   refine cb Z en86 (a3 l0 K K) aH (wk_word_Get · av a) ?_
   rintro dt aI df cI bP ⟨rfl, cf⟩
   refine uu Z (S.conv Z l0 T59 T3)<|fa 3 Z (lk 16) T56 Z ti3<|?_
   refine st 1 cf Z l0 l1 ti3 (fun cJ bQ cg => ?_)
   refine dn<|blkN<|blkN<|sqN<|?_
   have bx := bP.t bQ
   exact ⟨_, _, Z, ⟨_, _, _, _, Z, bx, cg, aI⟩, allR⟩
  refine rg<|uu Z (S.eqlI Z l6 K)<|ag Z l0<|dn<|?_
  refine cd l0 aJ (fun ai aK => ?_) (fun ai aM => ?_)
  ·refine rh<|mv Z (lk 13)<|?_
   have bz := d.t b
   have aw := c.up bz
   refine cb Z en87 (a2 l0 K) aK (wk_word_Signed · aw a) ?_
   rintro du aL dg cK bS ⟨rfl, ci⟩
   refine fa 4 Z (lk 17) T56 Z ti3<|?_
   refine st 1 ci Z l0 l1 ti3 (fun cL bT cj => ?_)
   refine dn<|blkN<|blkN<|sqN<|?_
   have bA := bS.t bT
   exact ⟨_, _, Z, ⟨_, _, _, _, Z, bA, cj, aL⟩, allR⟩
  refine rg<|uu Z (S.eqlI Z l8 K)<|ag Z l0<|dn<|?_
  refine cd l0 aM (fun aj aO => ?_) (fun aj aS => ?_)
  ·refine rh<|mv Z (lk 15)<|?_
   have bB := d.t b
   have G := c.up bB
   refine cb Z en86 (a3 l0 K K) aO (wk_word_Get · G a) ?_
   rintro dv aP dh cM W ⟨rfl, ck⟩
   have ax := G.up W
   refine cb Z en87 (a2 l0 K) aP (wk_word_Signed · ax ck) ?_
   rintro dw aQ di cN bU ⟨rfl, cl⟩
   refine uu Z (S.mul Z K l0)<|fa 4 Z (lk 21) T56 Z ti3<|?_
   refine st 1 cl Z l0 l1 ti3 (fun cO bV cm => ?_)
   refine dn<|blkN<|blkN<|sqN<|?_
   have bC := (W.t bU).t bV
   exact ⟨_, _, Z, ⟨_, _, _, _, Z, bC, cm, aQ⟩, allR⟩
  refine rg<|uu Z (S.eqlI Z (lk 10) K)<|ag Z l0<|dn<|?_
  refine cd l0 aS (fun ak aU => ?_) (fun ak aY => ?_)
  ·refine rh<|mv Z (lk 17)<|?_
   have bD := d.t b
   have H := c.up bD
   refine cb Z en86 (a3 l0 K K) aU (wk_word_Get · H a) ?_
   rintro dx aW dj cP X ⟨rfl, cn⟩
   have ay := H.up X
   refine cb Z en87 (a2 l0 K) aW (wk_word_Signed · ay cn) ?_
   rintro dy aX dk cQ bW ⟨rfl, co⟩
   refine fa 4 Z (lk 22) T56 Z ti3<|?_
   refine st 1 co Z l0 l1 ti3 (fun cR bX cp => ?_)
   refine dn<|blkN<|blkN<|sqN<|?_
   have bE := (X.t bW).t bX
   exact ⟨_, _, Z, ⟨_, _, _, _, Z, bE, cp, aX⟩, allR⟩
  refine rg<|uu Z (S.eqlI Z (lk 12) K)<|ag Z l0<|dn<|?_
  refine cd l0 aY (fun al aZ => ?_) (fun al a7 => ?_)
  ·refine rh<|mv Z (lk 19)<|?_
   have bF := d.t b
   have I := c.up bF
   refine cb Z en86 (a3 l0 K K) aZ (wk_word_Get · I a) ?_
   rintro dz a0 dl cS Y ⟨rfl, cq⟩
   have az := I.up Y
   refine cb Z en87 (a2 l0 K) a0 (wk_word_Signed · az cq) ?_
   rintro dA a6 dm cU bY ⟨rfl, cr⟩
   refine fa 4 Z (lk 24) T56 Z ti3<|?_
   refine st 1 cr Z l0 l1 ti3 (fun cV bZ cs => ?_)
   refine dn<|blkN<|blkN<|sqN<|?_
   have bG := (Y.t bY).t bZ
   exact ⟨_, _, Z, ⟨_, _, _, _, Z, bG, cs, a6⟩, allR⟩
  refine rg<|uu Z (S.eqlI Z (lk 14) K)<|ag Z l0<|dn<|?_
  refine cd l0 a7 (fun am a8 => ?_) (fun am bb => ?_)
  ·refine rh<|mv Z (lk 21)<|?_
   have bH := d.t b
   have J := c.up bH
   refine cb Z en86 (a3 l0 K K) a8 (wk_word_Get · J a) ?_
   rintro dB a9 dp cW aa ⟨rfl, ct⟩
   refine uu Z (S.conv Z l0 T59 T3)<|mv Z (lk 24)<|?_
   have aB := J.up aa
   refine cb Z en86 (a3 l0 K K) a9 (wk_word_Get · aB ct) ?_
   rintro dC ba dq cX b0 ⟨rfl, cu⟩
   refine uu Z (S.conv Z l0 T59 T3)<|fa 1 Z (lk 29) T56 Z ti3<|?_
   refine st 1 cu Z l0 l4 ti3 (fun cY b1 cv => ?_)
   refine fa 2 Z (lk 30) T56 Z ti3<|?_
   refine st 1 cv Z l0 l2 ti3 (fun cZ b2 cw => ?_)
   refine dn<|blkN<|blkN<|sqN<|?_
   have bI := ((aa.t b0).t b1).t b2
   exact ⟨_, _, Z, ⟨_, _, _, _, Z, bI, cw, ba⟩, allR⟩
  refine wn<|blkN<|blkN<|sqN<|?_
  exact ⟨_, _, Z, ⟨_, _, _, _, Z, (.refl _), a, bb⟩, allR⟩
 refine we<|sqE<|sqE<|blkE<|sqN<|?_
 have bf := exitS be F
 refine rg<|uk Z (S.loadB Z l3 T56 Z ti56 (a.own (k := 1) Z).get Z)<|?_
 refine st 0 a Z l3 l0 ti56 (fun c0 b3 ab => ?_)
 refine dn<|wr<|?_
 have bJ := ((Q.t d).t b).t b3
 have cx := ab.sel 3 []
 cases bf
 exact fin.cellN (.inr Z) Z l3 T56 Z ti56 (ab.own (k := 0) Z).get Z ⟨_, Z, bJ, Z, cx⟩
theorem wk_isa_used {V : Vw} {Rs : List At} {c : TInst} {r : TInst} (h : isa_used c = some r) (gl : Glb V) (ow : Ow V (Rs)) : CT 96 #[.agg (C2 c).toArray] V fun v V' => v = .agg (C2 r).toArray ∧ Ow V' (Rs) := by
 refine Ct.of gl.lo Tryd.func96 Z nle ?_
 unfold isa_used at h
 refine rg<|?_
 refine O.box ow Z Z (.inl Z) Z l0 (by simp [topV]) Z nd (fun p bu aW bi => ?_)
 refine O.alloc bi Z Z (.inl Z) Z ti56 Z Z nd (fun u bw aZ W => ?_)
 refine dn<|rg<|fa 0 Z l1 T56 Z ti3<|ld Z l0 T3 W 1<|uu (v := .agg #[.int .i64 c.op, .int .i64 0, .int .i64 0, .int .i64 0, .int .i64 0]) Z (S.build (vs := [.int .i64 c.op]) Z ti56 Z pl56 (aC l0 aN) (allC (by simp [topV]) allN) Z)<|?_
 refine O.alloc W Z Z (.inl Z) Z ti56 Z Z nd (fun q bs aS bh => ?_)
 refine st 0 bh Z l0 l1 ti56 (fun bt aU P => ?_)
 refine dn<|ws<|rg<|fa 0 Z l5 T56 Z ti3<|ld Z l0 T3 P 2<|?_
 obtain ⟨A, z, an⟩ := bindS h
 have J := ((aW.t aZ).t aS).t aU
 have aj := gl.up J
 obtain ⟨_, _, _, ah, aI, bE, aG, aD⟩ := aj.g0.at z
 cases aI
 obtain rfl : ah = [.string A.name, .string A.fields, .int .u32 A.word] := aG
 refine uu Z (S.indexA Z Gl l0 T124 ti123 (ix_ge z) (by have bJ := ix_lt z; have bK := gl0_len; omega))<|fe Z l0 T123 Z ti9<|uk Z (S.load Z l0 T9 Z (aD 1 _ Z))<|?_
 obtain ⟨i, aK, G⟩ := bindS an
 refine O.bytes P Z Z (.inl Z) Z l0 T9 T121 T5 aK (fun _ => nd) (fun x Y aX Q => ?_)
 refine uu Z (Q.oslen (k := 0) Z Z l0 T121)<|mv Z K<|dn<|wb<|?_
 have bj := Q.sel 4 [3, 2, 1, 0]
 unfold isa_used_l1 at G
 obtain ⟨ba, hn43⟩ := loopO_some.1 G
 refine WP.loopI2 (fun n l V' => ∃ (y o e f g : Int), l = [(1, .pointer (some ⟨p, 0, none⟩)), (2, .pointer (some ⟨u, 0, none⟩)), (3, .pointer (some ⟨q, 0, none⟩)), (14, x), (15, .int .i64 (i.length : Int)), (16, .int .i64 g)] ∧ Y.le V' ∧ Ow V' (.pt p (.cells 0 (C2 c)) :: .pt u (.cells 5 [.int .i64 0, .int .i64 0, .int .i64 0, .int .i64 0, .int .i64 0]) :: .pt q (.cells 5 [.int .i64 c.op, .int .i64 y, .int .i64 o, .int .i64 e, .int .i64 f]) :: .os (RT.int .u8) x i :: Rs) ∧ itO (fun s => isa_used_l1b c i s.1 s.2.1 s.2.2.1 s.2.2.2.1 s.2.2.2.2) n (y, o, e, f, g) = some r) ba _ ⟨0, 0, 0, 0, 0, Z, .refl _, bj, hn43⟩ (allCons (lk 13) (allCons (lk 12) (allCons l8 (allCons l2 (allCons l1 (allCons l0 allNil)))))) ?_
 rintro _ _ aa ⟨y, o, e, f, g, rfl, M, b, ao⟩
 obtain ⟨a9, X, rfl, w, F⟩ := itS ao
 replace w : isa_used_l1b c i y o e f g = some X := w
 unfold isa_used_l1b at w
 refine rg<|uu Z (S.lss Z l5 l4)<|dn<|ws<|?_
 refine cd l0 w (fun ab aq => ?_) (fun ab al => ?_)
 ·refine wn<|sqN<|?_
  refine WP.seqI (fun l V' => ∃ (B C D E : Int), l = [(1, .pointer (some ⟨p, 0, none⟩)), (2, .pointer (some ⟨u, 0, none⟩)), (3, .pointer (some ⟨q, 0, none⟩)), (14, x), (15, .int .i64 (i.length : Int)), (16, .int .i64 g)] ∧ aa.le V' ∧ Ow V' (.pt p (.cells 0 (C2 c)) :: .pt u (.cells 5 [.int .i64 0, .int .i64 0, .int .i64 0, .int .i64 0, .int .i64 0]) :: .pt q (.cells 5 [.int .i64 c.op, .int .i64 B, .int .i64 C, .int .i64 D, .int .i64 E]) :: .os (RT.int .u8) x i :: Rs) ∧ isa_used_k1 g B C D E = some X) ?_ ?_
  ·rintro _ bv ⟨B, C, D, E, rfl, aY, bk, H⟩
   unfold isa_used_k1 at H
   refine rh<|uu Z (S.add Z l5 K)<|mv Z l0<|dn<|sqN<|?_
   have aO := M.t aY
   exact ⟨_, _, Z, ⟨a9, Nat.lt_succ_self _, _, _, _, _, _, Z, aO, bk, backS H F⟩, allR⟩
  refine wb<|rg<|?_
  obtain ⟨bo, m, ar⟩ := bindS aq
  obtain ⟨bC, bI, bH, bD, I⟩ := b.ospt (k := 3) Z m
  obtain ⟨_, aJ, _⟩ := b.osel (k := 3) Z I m
  refine uu Z (S.index Z ((lk 4).trans aJ) l6 T121 ti5 (ix_ge m) (ix_lt m))<|?_
  obtain ⟨ai, bG, bF, aH, aE⟩ := b.osel (k := 3) Z I m
  obtain rfl : ai = [.int .u8 bo] := aH
  refine uk Z (S.load Z l0 T5 Z (aE 0 _ Z))<|ag Z l0<|dn<|rg<|mv Z l0<|dn<|wb<|rg<|uu Z (S.eqlI Z l0 K)<|ag Z l0<|dn<|?_
  refine cd l0 ar (fun ac au => ?_) (fun ac av => ?_)
  ·refine rh<|fa 1 Z l7 T56 Z ti3<|ld Z l0 T3 b 0<|fa 1 Z (lk 11) T56 Z ti3<|?_
   refine st 2 b Z l0 l1 ti3 (fun bx a0 bl => ?_)
   refine dn<|blkN<|blkN<|sqN<|?_
   exact ⟨_, _, Z, ⟨_, _, _, _, Z, a0, bl, au⟩, allR⟩
  refine rg<|uu Z (S.eqlI Z l2 K)<|ag Z l0<|dn<|?_
  refine cd l0 av (fun ad aw => ?_) (fun ad ax => ?_)
  ·refine rh<|fa 2 Z l9 T56 Z ti3<|ld Z l0 T3 b 0<|fa 2 Z (lk 13) T56 Z ti3<|?_
   refine st 2 b Z l0 l1 ti3 (fun bz a6 bm => ?_)
   refine dn<|blkN<|blkN<|sqN<|?_
   exact ⟨_, _, Z, ⟨_, _, _, _, Z, a6, bm, aw⟩, allR⟩
  refine rg<|uu Z (S.eqlI Z l4 K)<|ag Z l0<|dn<|?_
  refine cd l0 ax (fun ae ay => ?_) (fun ae az => ?_)
  ·refine rh<|fa 3 Z (lk 11) T56 Z ti3<|ld Z l0 T3 b 0<|fa 3 Z (lk 15) T56 Z ti3<|?_
   refine st 2 b Z l0 l1 ti3 (fun bA a7 bn => ?_)
   refine dn<|blkN<|blkN<|sqN<|?_
   exact ⟨_, _, Z, ⟨_, _, _, _, Z, a7, bn, ay⟩, allR⟩
  refine rg<|uu Z (S.eqlI Z l6 K)<|ag Z l0<|dn<|?_
  refine cd l0 az (fun af aB => ?_) (fun af ak => ?_)
  ·refine WP.udreg Z Z Z ?_
   refine fa 1 Z (lk 13) T56 Z ti3<|lD Z l0 T3 b 0 onr<|fa 2 Z (lk 15) T56 Z ti3<|lD Z l0 T3 b 0 (ot<|onr ·)<|fa 1 Z (lk 19) T56 Z ti3<|?_
   refine O.store (k := 2) (cs := [.int .i64 c.d]) (c' := [.int .i64 c.op, .int .i64 c.d, .int .i64 o, .int .i64 e, .int .i64 f]) b Z Z Z (.inl Z) Z l0 l3 ti3 (by simp [topV]) Z Z nle Z Z (fun _ => (oc (Or.inr (upd_same (b.nept (j := 0) (k := 2) Z Z (by decide)))) (oc ol one))) (fun bB a8 bb => ?_)
   refine fa 2 Z (lk 20) T56 Z ti3<|?_
   refine O.store (k := 2) (cs := [.int .i64 c.a]) (c' := [.int .i64 c.op, .int .i64 c.d, .int .i64 c.a, .int .i64 e, .int .i64 f]) bb Z Z Z (.inl Z) Z l0 l2 ti3 (by simp [topV]) Z Z nle Z Z (fun _ => (oc Z (oc ol (oc ol one)))) (fun bp aP be => ?_)
   refine dn<|blkN<|blkN<|sqN<|?_
   have aL := a8.t aP
   exact ⟨_, _, Z, ⟨_, _, _, _, Z, aL, be, aB⟩, allR⟩
  refine rh<|fa 4 Z (lk 13) T56 Z ti3<|ld Z l0 T3 b 0<|fa 4 Z (lk 17) T56 Z ti3<|?_
  refine st 2 b Z l0 l1 ti3 (fun bq aQ bf => ?_)
  refine dn<|blkN<|blkN<|sqN<|?_
  exact ⟨_, _, Z, ⟨_, _, _, _, Z, aQ, bf, ak⟩, allR⟩
 refine we<|sqE<|sqE<|blkE<|sqN<|?_
 have am := exitS al F
 refine rg<|uk Z (S.loadB Z l3 T56 Z ti56 (b.own (k := 2) Z).get Z)<|?_
 refine st 1 b Z l3 l0 ti56 (fun br aR N => ?_)
 refine dn<|wr<|?_
 have aM := ((J.t aX).t M).t aR
 have bg := N.sel 4 []
 cases am
 exact fin.cellN (.inr Z) Z l3 T56 Z ti56 (N.own (k := 1) Z).get Z ⟨_, Z, aM, Z, bg⟩
theorem wk_isa_register {V : Vw} {Rs : List At} {b : Int} {r : Bool} (h : isa_register b = some r) (gl : Glb V) (ow : Ow V (Rs)) : CT 97 #[.int .i64 b] V fun v V' => v = .bool r ∧ Ow V' (Rs) := by
 refine Ct.of gl.lo Tryd.func97 Z nle ?_
 unfold isa_register at h
 refine rg<|ag Z K<|dn<|rg<|mv Z l1<|uu Z (S.geq Z l0 K)<|mv Z l0<|?_
 refine jX 6 (jv 8 (.bool ((decide (0 ≤ b)) && (decide (b < 32))))<|jr 7 2 []) (fun c => ?_) fun kk => ?_
 ·refine ag Z l0<|dn<|wr<|?_
  cases h
  exact fS l0 ⟨_, Z, (.refl _), Z, ow⟩
 refine gs l0 (fun a => ?_) fun a => ?_
 ·refine ug Z Z (lb 0 a) (S.move Z l4)<|ug Z Z (lb 1 a) (S.lss Z l0 K)<|uu Z (S.pickT Z (lb 2 a) l0)<|?_
  exact jk kk (aT a)
 refine uxs 2 7 Z Z (lb 0 a)<|uu Z (S.pickF Z (lb 2 a) K)<|?_
 exact jk kk (aF a)
theorem wk_word_Fits {V : Vw} {Rs : List At} {c d : Int} {r : Bool} (h : word_Fits c d = some r) (gl : Glb V) (ow : Ow V (Rs)) : CT 98 #[.int .i64 c, .int .i64 d] V fun v V' => v = .bool r ∧ Ow V' (Rs) := by
 refine Ct.of gl.lo Tryd.func98 Z nle ?_
 unfold word_Fits at h
 refine rg<|ag Z K<|dn<|ws<|rg<|mv Z l2<|uu Z (S.lss Z l0 K)<|dn<|?_
 refine WP.cond _ l0 Z (fun b => ?_) (fun b => ?_)
 ·have j := ifT b h
  refine rg<|ag Z K<|dn<|wr<|sqR<|?_
  obtain rfl := si j
  exact fS l0 ⟨_, Z, (.refl _), Z, ow⟩
 have l := ifF b h
 refine wn<|sqN<|ws<|rg<|mv Z l4<|uu Z (S.gtr Z l0 K)<|dn<|?_
 refine cd l0 l (fun e m => ?_) (fun e n => ?_)
 ·refine rg<|ag Z K<|dn<|wr<|sqR<|?_
  obtain rfl := si m
  exact fS l0 ⟨_, Z, (.refl _), Z, ow⟩
 refine wn<|sqN<|rg<|mv Z l5<|mv Z l7<|uu Z (S.sub Z l0 K)<|?_
 obtain ⟨x, q, o⟩ := bindS n
 refine uu Z (S.shl q Z K l0)<|uu Z (S.geq Z l3 l0)<|mv Z l0<|?_
 obtain ⟨t, s, f⟩ := bindS o
 refine jX 12 (jv 20 (.bool t)<|jr 19 5 []) (fun u => ?_) fun kk => ?_
 ·refine ag Z l0<|dn<|wr<|?_
  obtain rfl := si f
  exact fS l0 ⟨_, Z, (.refl _), Z, ow⟩
 refine gi l0 s (fun a g => ?_) fun a i => ?_
 ·refine ug Z Z (lb 0 a) (S.move Z (lk 11))<|ug Z Z (lb 1 a) (S.move Z (lk 13))<|ug Z Z (lb 2 a) (S.sub Z l0 K)<|?_
  obtain ⟨w, p, k⟩ := bindS g
  refine ug Z Z (lb 3 a) (S.shl p Z K l0)<|ug Z Z (lb 4 a) (S.lss Z l3 l0)<|uu Z (S.pickT Z (lb 5 a) l0)<|?_
  cases k
  exact jk kk Z
 refine uxs 5 19 Z Z (lb 0 a)<|uu Z (S.pickF Z (lb 5 a) K)<|?_
 obtain rfl := si i
 exact jk kk Z
theorem wk_isa_part {V : Vw} {Rs : List At} {X : Int} {i : TInst} {g j : Nat} {r : Int × Int × Int × Bool} (h : isa_part X i = some r) (gl : Glb V) (ow : Ow V (.pt g (.cells j (C2 i)) :: Rs)) : CT 89 #[.int .u8 X, .pointer (some ⟨g, 0, none⟩)] V fun v V' => v = .tuple #[.int .i64 r.1, .int .i64 r.2.1, .int .i64 r.2.2.1, .bool r.2.2.2] ∧ Ow V' (.pt g (.cells j (C2 i)) :: Rs) := by
 refine Ct.of gl.lo Tryd.func89 Z nle ?_
 unfold isa_part at h
 refine rg<|ag Z K<|ag Z K<|ag Z K<|ag Z K<|dn<|ws<|rg<|mv Z l4<|dn<|wb<|rg<|uu Z (S.eqlI Z l0 K)<|ag Z l0<|dn<|?_
 refine WP.cond _ l0 Z (fun m => ?_) (fun m => ?_)
 ·have aO := ifT m h
  refine WP.usdreg Z Z Z ?_
  refine mv Z l8<|uu Z (S.nilCheck Z l0)<|fa 1 Z l0 T56 Z ti3<|lD Z l0 T3 ow 0 onr<|mv Z (lk 12)<|uu Z (S.nilCheck Z l0)<|fa 1 Z l0 T56 Z ti3<|lD Z l0 T3 ow 0 (ot<|onr ·)<|?_
  obtain ⟨bC, bg, aY⟩ := bindS aO
  refine O.call (V := V) Z Z (.inl Z) Z en97 (aC l0 aN) (wk_isa_register bg gl ow) (fun bt Y J n => by obtain ⟨rfl, x⟩ := n; exact (fun _ => (oc ol (oc (Or.inr (((x.own (k := 0) Z).get.trans (ow.own (k := 0) Z).get.symm))) one)))) (fun bt Y J n => ?_)
  obtain ⟨rfl, x⟩ := n
  refine ag Z K<|ag Z K<|ag Z l7<|ag Z l3<|dn<|wr<|blkR<|sqR<|?_
  cases aY
  exact fM (fsC l3 (fsC l2 (fsC l1 (fsC l0 fsN)))) Z ⟨_, Z, J, Z, x⟩
 have az := ifF m h
 refine rg<|uu Z (S.eqlI Z l2 K)<|ag Z l0<|dn<|?_
 refine cd l0 az (fun ah aB => ?_) (fun ah aE => ?_)
 ·refine WP.usdreg Z Z Z ?_
  refine mv Z (lk 10)<|uu Z (S.nilCheck Z l0)<|fa 2 Z l0 T56 Z ti3<|lD Z l0 T3 ow 0 onr<|mv Z (lk 14)<|uu Z (S.nilCheck Z l0)<|fa 2 Z l0 T56 Z ti3<|lD Z l0 T3 ow 0 (ot<|onr ·)<|?_
  obtain ⟨bw, a9, aD⟩ := bindS aB
  refine O.call (V := V) Z Z (.inl Z) Z en97 (aC l0 aN) (wk_isa_register a9 gl ow) (fun bn aa M o => by obtain ⟨rfl, y⟩ := o; exact (fun _ => (oc ol (oc (Or.inr (((y.own (k := 0) Z).get.trans (ow.own (k := 0) Z).get.symm))) one)))) (fun bn aa M o => ?_)
  obtain ⟨rfl, y⟩ := o
  refine ag Z K<|ag Z K<|ag Z l7<|ag Z l3<|dn<|wr<|blkR<|sqR<|?_
  cases aD
  exact fM (fsC l3 (fsC l2 (fsC l1 (fsC l0 fsN)))) Z ⟨_, Z, M, Z, y⟩
 refine rg<|uu Z (S.eqlI Z l4 K)<|ag Z l0<|dn<|?_
 refine cd l0 aE (fun ai aG => ?_) (fun ai aI => ?_)
 ·refine WP.usdreg Z Z Z ?_
  refine mv Z (lk 12)<|uu Z (S.nilCheck Z l0)<|fa 3 Z l0 T56 Z ti3<|lD Z l0 T3 ow 0 onr<|mv Z (lk 16)<|uu Z (S.nilCheck Z l0)<|fa 3 Z l0 T56 Z ti3<|lD Z l0 T3 ow 0 (ot<|onr ·)<|?_
  obtain ⟨bx, ba, aH⟩ := bindS aG
  refine O.call (V := V) Z Z (.inl Z) Z en97 (aC l0 aN) (wk_isa_register ba gl ow) (fun bo ab N p => by obtain ⟨rfl, z⟩ := p; exact (fun _ => (oc ol (oc (Or.inr (((z.own (k := 0) Z).get.trans (ow.own (k := 0) Z).get.symm))) one)))) (fun bo ab N p => ?_)
  obtain ⟨rfl, z⟩ := p
  refine ag Z K<|ag Z K<|ag Z l7<|ag Z l3<|dn<|wr<|blkR<|sqR<|?_
  cases aH
  exact fM (fsC l3 (fsC l2 (fsC l1 (fsC l0 fsN)))) Z ⟨_, Z, N, Z, z⟩
 refine rg<|uu Z (S.eqlI Z l6 K)<|ag Z l0<|dn<|?_
 refine cd l0 aI (fun aj aJ => ?_) (fun aj aL => ?_)
 ·refine WP.usdreg Z Z Z ?_
  refine mv Z (lk 14)<|uu Z (S.nilCheck Z l0)<|fa 4 Z l0 T56 Z ti3<|lD Z l0 T3 ow 0 onr<|mv Z (lk 18)<|uu Z (S.nilCheck Z l0)<|fa 4 Z l0 T56 Z ti3<|lD Z l0 T3 ow 0 (ot<|onr ·)<|?_
  obtain ⟨bz, bb, aK⟩ := bindS aJ
  refine O.call (V := V) Z Z (.inl Z) Z en98 (aC l0 (aC K aN)) (wk_word_Fits bb gl ow) (fun bp ac P q => by obtain ⟨rfl, A⟩ := q; exact (fun _ => (oc ol (oc (Or.inr (((A.own (k := 0) Z).get.trans (ow.own (k := 0) Z).get.symm))) one)))) (fun bp ac P q => ?_)
  obtain ⟨rfl, A⟩ := q
  refine ag Z K<|ag Z K<|ag Z l7<|ag Z l3<|dn<|wr<|blkR<|sqR<|?_
  cases aK
  exact fM (fsC l3 (fsC l2 (fsC l1 (fsC l0 fsN)))) Z ⟨_, Z, P, Z, A⟩
 refine rg<|uu Z (S.eqlI Z l8 K)<|ag Z l0<|dn<|?_
 refine cd l0 aL (fun ak aM => ?_) (fun ak aU => ?_)
 ·refine WP.seqI (fun l V' => ∃ (D : Int) (E : Bool), l = [(4, .int .i64 16), (5, .int .i64 14), (6, .int .i64 D), (7, .bool E)] ∧ V.le V' ∧ Ow V' (.pt g (.cells j (C2 i)) :: Rs) ∧ isa_part_k1 D E = some r) ?_ ?_
  ·rintro _ bu ⟨D, E, rfl, bj, bl, H⟩
   unfold isa_part_k1 at H
   refine wr<|blkR<|sqR<|?_
   cases H
   exact fM (fsC l0 (fsC l1 (fsC l2 (fsC l3 fsN)))) Z ⟨_, Z, bj, Z, bl⟩
  refine WP.udreg Z Z Z ?_
  refine mv Z (lk 16)<|uu Z (S.nilCheck Z l0)<|fa 4 Z l0 T56 Z ti3<|lD Z l0 T3 ow 0 onr<|?_
  obtain ⟨bA, be, aP⟩ := bindS aM
  refine uu Z (S.shr be Z l0 K)<|mv Z (lk 21)<|uu Z (S.nilCheck Z l0)<|fa 4 Z l0 T56 Z ti3<|lD Z l0 T3 ow 0 (ot<|onr ·)<|?_
  obtain ⟨bB, bf, aQ⟩ := bindS aP
  refine O.call (V := V) Z Z (.inl Z) Z en98 (aC l0 (aC K aN)) (wk_word_Fits bf gl ow) (fun bq ad w s => by obtain ⟨rfl, f⟩ := s; exact (fun _ => (oc ol (oc (Or.inr (((f.own (k := 0) Z).get.trans (ow.own (k := 0) Z).get.symm))) one)))) (fun bq ad w s => ?_)
  obtain ⟨rfl, f⟩ := s
  refine mv Z l0<|?_
  refine gi l0 aQ (fun a aR => ?_) fun a aS => ?_
  ·refine ug Z Z (lb 0 a) (S.move Z (lk 27))<|ug Z Z (lb 1 a) (S.nilCheck Z l0)<|fg Z Z (lb 2 a) l0 T56 Z ti3<|kD Z Z (lb 3 a) (S.load Z l0 T3 Z ((f.own (k := 0) Z).cell Z)) (oi (ot (ot (onr (f.own (k := 0) Z).lt))))<|ug Z Z (lb 4 a) (S.andI Z l0 K)<|ug Z Z (lb 5 a) (S.eqlI Z l0 K)<|uu Z (S.pickT Z (lb 6 a) l0)<|ag Z K<|ag Z K<|ag Z (lk 15)<|ag Z l3<|dn<|sqN<|?_
   exact ⟨_, _, Z, ⟨_, _, Z, w, f, aR⟩, allR⟩
  refine uxs 6 71 Z Z (lb 0 a)<|uu Z (S.pickF Z (lb 6 a) K)<|ag Z K<|ag Z K<|ag Z (lk 15)<|ag Z l3<|dn<|sqN<|?_
  exact ⟨_, _, Z, ⟨_, _, Z, w, f, aS⟩, allR⟩
 refine rg<|uu Z (S.eqlI Z (lk 10) K)<|ag Z l0<|dn<|?_
 refine cd l0 aU (fun al aW => ?_) (fun al aZ => ?_)
 ·refine WP.usdreg Z Z Z ?_
  refine mv Z (lk 18)<|uu Z (S.nilCheck Z l0)<|fa 4 Z l0 T56 Z ti3<|lD Z l0 T3 ow 0 onr<|mv Z (lk 22)<|uu Z (S.nilCheck Z l0)<|fa 4 Z l0 T56 Z ti3<|lD Z l0 T3 ow 0 (ot<|onr ·)<|?_
  obtain ⟨bD, bh, aX⟩ := bindS aW
  refine O.call (V := V) Z Z (.inl Z) Z en98 (aC l0 (aC K aN)) (wk_word_Fits bh gl ow) (fun br ae Q t => by obtain ⟨rfl, B⟩ := t; exact (fun _ => (oc ol (oc (Or.inr (((B.own (k := 0) Z).get.trans (ow.own (k := 0) Z).get.symm))) one)))) (fun br ae Q t => ?_)
  obtain ⟨rfl, B⟩ := t
  refine ag Z K<|ag Z K<|ag Z l7<|ag Z l3<|dn<|wr<|blkR<|sqR<|?_
  cases aX
  exact fM (fsC l3 (fsC l2 (fsC l1 (fsC l0 fsN)))) Z ⟨_, Z, Q, Z, B⟩
 refine rg<|uu Z (S.eqlI Z (lk 12) K)<|ag Z l0<|dn<|?_
 refine cd l0 aZ (fun am a0 => ?_) (fun am a7 => ?_)
 ·refine WP.usdreg Z Z Z ?_
  refine mv Z (lk 20)<|uu Z (S.nilCheck Z l0)<|fa 4 Z l0 T56 Z ti3<|lD Z l0 T3 ow 0 onr<|mv Z (lk 24)<|uu Z (S.nilCheck Z l0)<|fa 4 Z l0 T56 Z ti3<|lD Z l0 T3 ow 0 (ot<|onr ·)<|?_
  obtain ⟨bE, bi, a6⟩ := bindS a0
  refine O.call (V := V) Z Z (.inl Z) Z en98 (aC l0 (aC K aN)) (wk_word_Fits bi gl ow) (fun bs af W u => by obtain ⟨rfl, C⟩ := u; exact (fun _ => (oc ol (oc (Or.inr (((C.own (k := 0) Z).get.trans (ow.own (k := 0) Z).get.symm))) one)))) (fun bs af W u => ?_)
  obtain ⟨rfl, C⟩ := u
  refine ag Z K<|ag Z K<|ag Z l7<|ag Z l3<|dn<|wr<|blkR<|sqR<|?_
  cases a6
  exact fM (fsC l3 (fsC l2 (fsC l1 (fsC l0 fsN)))) Z ⟨_, Z, W, Z, C⟩
 refine wn<|blkN<|sqN<|?_
 refine WP.seqI (fun l V' => ∃ (F : Int) (G : Bool), l = [(4, .int .i64 6), (5, .int .i64 10), (6, .int .i64 F), (7, .bool G)] ∧ V.le V' ∧ Ow V' (.pt g (.cells j (C2 i)) :: Rs) ∧ isa_part_k2 F G = some r) ?_ ?_
 ·rintro _ bv ⟨F, G, rfl, bk, bm, I⟩
  unfold isa_part_k2 at I
  refine wr<|?_
  cases I
  exact fM (fsC l0 (fsC l1 (fsC l2 (fsC l3 fsN)))) Z ⟨_, Z, bk, Z, bm⟩
 refine WP.udreg Z Z Z ?_
 refine mv Z (lk 20)<|uu Z (S.nilCheck Z l0)<|fa 1 Z l0 T56 Z ti3<|lD Z l0 T3 ow 0 onr<|?_
 obtain ⟨bF, a8, an⟩ := bindS a7
 refine uu Z (S.shl a8 Z l0 K)<|mv Z (lk 25)<|uu Z (S.nilCheck Z l0)<|fa 2 Z l0 T56 Z ti3<|lD Z l0 T3 ow 0 (ot<|onr ·)<|uu Z (S.orI Z l4 l0)<|mv Z (lk 30)<|uu Z (S.nilCheck Z l0)<|fa 1 Z l0 T56 Z ti3<|lD Z l0 T3 ow 0 (ot<|ot<|onr ·)<|uu Z (S.eqlI Z l0 K)<|mv Z l0<|?_
 refine gi l0 an (fun b ao => ?_) fun b aq => ?_
 ·refine uxs 5 115 Z Z (lb 0 b)<|uu Z (S.pickT Z (lb 5 b) K)<|mv Z l0<|ug Z Z l0 (S.move Z (lk 43))<|ug Z Z l1 (S.nilCheck Z l0)<|fg Z Z l2 l0 T56 Z ti3<|kD Z Z l3 (S.load Z l0 T3 Z ((ow.own (k := 0) Z).cell Z)) (ot (ot (ot (onr (ow.own (k := 0) Z).lt))))<|ug Z Z l4 (S.geq Z l0 K)<|uu Z (S.pickT Z l5 l0)<|mv Z l0<|?_
  refine gi l0 ao (fun c ar => ?_) fun c au => ?_
  ·refine ug Z Z (lb 0 c) (S.move Z (lk 50))<|ug Z Z (lb 1 c) (S.nilCheck Z l0)<|fg Z Z (lb 2 c) l0 T56 Z ti3<|kD Z Z (lb 3 c) (S.load Z l0 T3 Z ((ow.own (k := 0) Z).cell Z)) (ot (ot (ot (ot (onr (ow.own (k := 0) Z).lt)))))<|ug Z Z (lb 4 c) (S.lss Z l0 K)<|uu Z (S.pickT Z (lb 5 c) l0)<|ag Z K<|ag Z K<|ag Z (lk 28)<|ag Z l3<|dn<|sqN<|?_
   exact ⟨_, _, Z, ⟨_, _, Z, (.refl _), ow, ar⟩, allR⟩
  refine uxs 5 129 Z Z (lb 0 c)<|uu Z (S.pickF Z (lb 5 c) K)<|ag Z K<|ag Z K<|ag Z (lk 28)<|ag Z l3<|dn<|sqN<|?_
  exact ⟨_, _, Z, ⟨_, _, Z, (.refl _), ow, au⟩, allR⟩
 refine ug Z Z (lb 0 b) (S.move Z (lk 36))<|ug Z Z (lb 1 b) (S.nilCheck Z l0)<|fg Z Z (lb 2 b) l0 T56 Z ti3<|kD Z Z (lb 3 b) (S.load Z l0 T3 Z ((ow.own (k := 0) Z).cell Z)) (ot (ot (ot (onr (ow.own (k := 0) Z).lt))))<|ug Z Z (lb 4 b) (S.eqlI Z l0 K)<|uu Z (S.pickF Z (lb 5 b) l0)<|mv Z l0<|?_
 refine gi l0 aq (fun d av => ?_) fun d aw => ?_
 ·refine ug Z Z (lb 0 d) (S.move Z (lk 43))<|ug Z Z (lb 1 d) (S.nilCheck Z l0)<|fg Z Z (lb 2 d) l0 T56 Z ti3<|kD Z Z (lb 3 d) (S.load Z l0 T3 Z ((ow.own (k := 0) Z).cell Z)) (ot (ot (ot (ot (onr (ow.own (k := 0) Z).lt)))))<|ug Z Z (lb 4 d) (S.geq Z l0 K)<|uu Z (S.pickT Z (lb 5 d) l0)<|mv Z l0<|?_
  refine gi l0 av (fun e ax => ?_) fun e ay => ?_
  ·refine ug Z Z (lb 0 e) (S.move Z (lk 50))<|ug Z Z (lb 1 e) (S.nilCheck Z l0)<|fg Z Z (lb 2 e) l0 T56 Z ti3<|kD Z Z (lb 3 e) (S.load Z l0 T3 Z ((ow.own (k := 0) Z).cell Z)) (ot (ot (ot (ot (ot (onr (ow.own (k := 0) Z).lt))))))<|ug Z Z (lb 4 e) (S.lss Z l0 K)<|uu Z (S.pickT Z (lb 5 e) l0)<|ag Z K<|ag Z K<|ag Z (lk 28)<|ag Z l3<|dn<|sqN<|?_
   exact ⟨_, _, Z, ⟨_, _, Z, (.refl _), ow, ax⟩, allR⟩
  refine uxs 5 129 Z Z (lb 0 e)<|uu Z (S.pickF Z (lb 5 e) K)<|ag Z K<|ag Z K<|ag Z (lk 28)<|ag Z l3<|dn<|sqN<|?_
  exact ⟨_, _, Z, ⟨_, _, Z, (.refl _), ow, ay⟩, allR⟩
 refine uxs 5 122 Z Z (lb 0 d)<|uu Z (S.pickF Z (lb 5 d) K)<|mv Z l0<|ux Z Z l0<|ux Z Z l1<|ux Z Z l2<|ux Z Z l3<|ux Z Z l4<|uu Z (S.pickF Z l5 K)<|ag Z K<|ag Z K<|ag Z (lk 28)<|ag Z l3<|dn<|sqN<|?_
 exact ⟨_, _, Z, ⟨_, _, Z, (.refl _), ow, aw⟩, allR⟩
theorem wk_isa_Good {V : Vw} {Rs : List At} {c : TInst} {r : Bool} (h : isa_Good c = some r) (gl : Glb V) (ow : Ow V (Rs)) : CT 88 #[.agg (C2 c).toArray] V fun v V' => v = .bool r ∧ Ow V' (Rs) := by
 refine Ct.of gl.lo Tryd.func88 Z nle ?_
 unfold isa_Good at h
 refine rg<|?_
 refine O.box ow Z Z (.inl Z) Z l0 (by simp [topV]) Z nd (fun u N G i => ?_)
 refine ag Z K<|dn<|ws<|?_
 refine WP.seqI (fun l V' => ∃ (M : Bool), l = [(1, .pointer (some ⟨u, 0, none⟩)), (32, .bool M)] ∧ N.le V' ∧ Ow V' (.pt u (.cells 0 (C2 c)) :: Rs) ∧ isa_Good_k1 c M = some r) ?_ ?_
 ·rintro _ bn ⟨M, rfl, aa, I, Q⟩
  unfold isa_Good_k1 at Q
  refine cd l1 Q (fun ai av => ?_) (fun ai aw => ?_)
  ·refine rg<|ag Z K<|dn<|wr<|sqR<|?_
   have a0 := G.t aa
   have be := I.sel 1 []
   obtain rfl := si av
   exact fS l0 ⟨_, Z, a0, Z, be⟩
  refine wn<|sqN<|ws<|rg<|fa 0 Z l0 T56 Z ti3<|ld Z l0 T3 I 0<|?_
  obtain ⟨J, E, ax⟩ := bindS aw
  have F := G.t aa
  have P := gl.up F
  obtain ⟨_, _, _, ak, aW, bq, aS, aQ⟩ := P.g0.at E
  cases aW
  obtain rfl : ak = [.string J.name, .string J.fields, .int .u32 J.word] := aS
  refine uu Z (S.indexA Z Gl l0 T124 ti123 (ix_ge E) (by have bA := ix_lt E; have bB := gl0_len; omega))<|fe Z l0 T123 Z ti9<|uk Z (S.load Z l0 T9 Z (aQ 1 _ Z))<|?_
  obtain ⟨A, aY, W⟩ := bindS ax
  refine O.bytes I Z Z (.inl Z) Z l0 T9 T121 T5 aY (fun _ => nd) (fun ad af H ab => ?_)
  refine uu Z (ab.oslen (k := 0) Z Z l0 T121)<|mv Z K<|dn<|wb<|?_
  have bf := ab.sel 2 [1, 0]
  unfold isa_Good_l1 at W
  obtain ⟨bb, hn36⟩ := loopO_some.1 W
  refine WP.loopI2 (fun n l V' => ∃ (z : Int), l = [(1, .pointer (some ⟨u, 0, none⟩)), (38, ad), (39, .int .i64 (A.length : Int)), (40, .int .i64 z)] ∧ af.le V' ∧ Ow V' (.pt u (.cells 0 (C2 c)) :: .os (RT.int .u8) ad A :: Rs) ∧ itO (fun s => isa_Good_l1b c A s) n z = some r) bb _ ⟨0, Z, .refl _, bf, hn36⟩ (allCons l8 (allCons l2 (allCons l1 (allCons l0 allNil)))) ?_
  rintro _ _ bl ⟨z, rfl, x, q, ay⟩
  obtain ⟨ba, bi, rfl, w, C⟩ := itS ay
  replace w : isa_Good_l1b c A z = some bi := w
  unfold isa_Good_l1b at w
  refine rg<|uu Z (S.lss Z l3 l2)<|dn<|ws<|?_
  refine cd l0 w (fun aj az => ?_) (fun aj aI => ?_)
  ·refine wn<|sqN<|ws<|wb<|rg<|?_
   obtain ⟨bk, p, aB⟩ := bindS az
   obtain ⟨bo, bz, bx, bp, X⟩ := q.ospt (k := 1) Z p
   obtain ⟨_, aX, _⟩ := q.osel (k := 1) Z X p
   refine uu Z (S.index Z ((lk 2).trans aX) l4 T121 ti5 (ix_ge p) (ix_lt p))<|?_
   obtain ⟨al, bs, br, aU, aR⟩ := q.osel (k := 1) Z X p
   obtain rfl : al = [.int .u8 bk] := aU
   refine uk Z (S.load Z l0 T5 Z (aR 0 _ Z))<|ag Z l0<|dn<|rg<|mv Z l0<|?_
   have a6 := H.t x
   have am := P.up a6
   refine cb Z en89 (a2 l0 l5) aB (wk_isa_part · am q) ?_
   rintro ae aD bC bm Y ⟨rfl, ac⟩
   refine mv Z l0<|uu Z (S.extract Z l0 Z nle)<|uu Z (S.extract Z l1 Z nle)<|uu Z (S.extract Z l2 Z nle)<|uu Z (S.extract Z l3 Z nle)<|ag Z l3<|ag Z l3<|ag Z l3<|ag Z l3<|dn<|rg<|mv Z l0<|uu Z (S.not Z l0)<|dn<|?_
   refine cd l0 aD (fun B aE => ?_) (fun B aH => ?_)
   ·have bv : ae.2.2.2 = false := nT B
    refine rg<|ag Z K<|dn<|wr<|blkR<|sqR<|sqR<|blkR<|sqR<|?_
    have aG := exitS aE C
    have a7 := ((F.t H).t x).t Y
    have bg := ac.sel 2 []
    obtain rfl := si aG
    exact fS l0 ⟨_, Z, a7, Z, bg⟩
   have bw : ae.2.2.2 = true := nF B
   refine wn<|blkN<|sqN<|rh<|uu Z (S.add Z (lk 20) K)<|mv Z l0<|dn<|sqN<|?_
   have a8 := x.t Y
   exact ⟨_, _, Z, ⟨ba, Nat.lt_succ_self _, _, Z, a8, ac, backS aH C⟩, allR⟩
  refine we<|sqE<|sqE<|blkE<|sqN<|?_
  have aJ := exitS aI C
  refine rg<|ag Z K<|dn<|wr<|?_
  have a9 := (F.t H).t x
  have bh := q.sel 2 []
  obtain rfl := si aJ
  exact fS l0 ⟨_, Z, a9, Z, bh⟩
 refine WP.udreg Z Z Z ?_
 refine fa 0 Z l1 T56 Z ti3<|lD Z l0 T3 i 0 onr<|uu Z (S.lss Z l0 K)<|mv Z l0<|?_
 refine gi l0 h (fun o aK => ?_) fun o aL => ?_
 ·refine uxs 3 15 Z Z (lb 0 o)<|uu Z (S.pickT Z (lb 3 o) K)<|mv Z l0<|ux Z Z l0<|ux Z Z l1<|ux Z Z l2<|ux Z Z l3<|uu Z (S.pickT Z l4 K)<|mv Z l0<|ux Z Z l0<|ux Z Z l1<|ux Z Z l2<|ux Z Z l3<|uz Z Z l0<|uz Z Z l1<|uz Z Z l2<|ux Z Z l7<|uu Z (S.pickT Z l8 K)<|dn<|sqN<|?_
  exact ⟨_, _, Z, ⟨_, Z, (.refl _), i, aK⟩, allR⟩
 refine fg Z Z (lb 0 o) l5 T56 Z ti3<|kD Z Z (lb 1 o) (S.load Z l0 T3 Z ((i.own (k := 0) Z).cell Z)) (ot (onr (i.own (k := 0) Z).lt))<|ug Z Z (lb 2 o) (S.gtr Z l0 K)<|uu Z (S.pickF Z (lb 3 o) l0)<|mv Z l0<|?_
 refine gi l0 aL (fun j aM => ?_) fun j aO => ?_
 ·refine uxs 4 21 Z Z (lb 0 j)<|uu Z (S.pickT Z (lb 4 j) K)<|mv Z l0<|ux Z Z l0<|ux Z Z l1<|ux Z Z l2<|ux Z Z l3<|uz Z Z l0<|uz Z Z l1<|uz Z Z l2<|ux Z Z l7<|uu Z (S.pickT Z l8 K)<|dn<|sqN<|?_
  exact ⟨_, _, Z, ⟨_, Z, (.refl _), i, aM⟩, allR⟩
 refine kD Z Z (lb 0 j) (S.loadB Z (lk 10) T56 Z ti56 (i.own (k := 0) Z).get Z) (ot (ot (onr (i.own (k := 0) Z).lt)))<|?_
 have an := gl.up G
 obtain ⟨g, aZ, aP⟩ := bindS aO
 refine O.call (V := N) Z Z (.inr ⟨_, _, _, Z, Z, (lb 1 j)⟩) Z en96 (aC l0 aN) (wk_isa_used aZ an i) (fun bj ah y D => by obtain ⟨rfl, f⟩ := D; exact (fun _ => (oc ol (oc ol (oc ol one))))) (fun bj ah y D => ?_)
 obtain ⟨rfl, f⟩ := D
 refine kD Z Z (lb 2 j) (S.loadB Z (lk 12) T56 Z ti56 (f.own (k := 0) Z).get Z) (oc (Or.inr (Or.inl ((f.own (k := 0) Z).get.trans (i.own (k := 0) Z).get.symm))) (ot (ot (ot (onr (f.own (k := 0) Z).lt)))))<|ug Z Z (lb 3 j) (S.neqT (flA (flC (.int _ _) (flC (.int _ _) (flC (.int _ _) (flC (.int _ _) (flC (.int _ _) flN)))))) (flA (flC (.int _ _) (flC (.int _ _) (flC (.int _ _) (flC (.int _ _) (flC (.int _ _) flN)))))) Z l1 l0 T56 (by kernel_rfl) (by kernel_rfl) (.cons _ _ _ _ _ _ (by decide) (part_cell T3 Z Z) (part_cell T3 Z Z) (eqIn_int T3 9998) (.cons _ _ _ _ _ _ (by decide) (part_cell T3 Z Z) (part_cell T3 Z Z) (eqIn_int T3 9998) (.cons _ _ _ _ _ _ (by decide) (part_cell T3 Z Z) (part_cell T3 Z Z) (eqIn_int T3 9998) (.cons _ _ _ _ _ _ (by decide) (part_cell T3 Z Z) (part_cell T3 Z Z) (eqIn_int T3 9998) (.cons _ _ _ _ _ _ (by decide) (part_cell T3 Z Z) (part_cell T3 Z Z) (eqIn_int T3 9998) .nil))))))<|uu Z (S.pickF Z (lb 4 j) l0)<|mv Z l0<|?_
 refine gi l0 aP (fun e ao => ?_) fun e aq => ?_
 ·have bt : ((decide (g.op = c.op)) && ((decide (g.d = c.d)) && ((decide (g.a = c.a)) && ((decide (g.b = c.b)) && ((decide (g.imm = c.imm)) && true))))) = false := nT e
  refine uxs 4 27 Z Z (lb 0 e)<|uz Z Z l0<|uz Z Z l1<|uz Z Z l2<|ux Z Z (lb 7 e)<|uu Z (S.pickT Z (lb 8 e) K)<|dn<|sqN<|?_
  exact ⟨_, _, Z, ⟨_, Z, y, f, ao⟩, allR⟩
 have bu : ((decide (g.op = c.op)) && ((decide (g.d = c.d)) && ((decide (g.a = c.a)) && ((decide (g.b = c.b)) && ((decide (g.imm = c.imm)) && true))))) = true := nF e
 refine fg Z Z (lb 0 e) (lk 16) T56 Z ti3<|kD Z Z (lb 1 e) (S.load Z l0 T3 Z ((f.own (k := 0) Z).cell Z)) (ot (oi (ot (ot (ot (onr (f.own (k := 0) Z).lt))))))<|ug Z Z (lb 2 e) (S.eqlI Z l0 K)<|ug Z Z (lb 3 e) (S.move Z l0)<|?_
 refine gi l0 aq (fun m ar => ?_) fun m au => ?_
 ·refine fg Z Z (lb 0 m) (lk 20) T56 Z ti3<|kD Z Z (lb 1 m) (S.load Z l0 T3 Z ((f.own (k := 0) Z).cell Z)) (ot (ot (oi (ot (ot (ot (onr (f.own (k := 0) Z).lt)))))))<|ug Z Z (lb 2 m) (S.lss Z l0 K)<|ug Z Z (lb 7 e) (S.pickT Z (lb 3 m) l0)<|uu Z (S.pickF Z (lb 8 e) l0)<|dn<|sqN<|?_
  exact ⟨_, _, Z, ⟨_, Z, y, f, ar⟩, allR⟩
 refine uxs 3 30 Z Z (lb 0 m)<|ug Z Z (lb 7 e) (S.pickF Z (lb 3 m) K)<|uu Z (S.pickF Z (lb 8 e) l0)<|dn<|sqN<|?_
 exact ⟨_, _, Z, ⟨_, Z, y, f, au⟩, allR⟩
theorem wk_word_Bits {V : Vw} {Rs : List At} {a b : Int} {r : Int} (h : word_Bits a b = some r) (gl : Glb V) (ow : Ow V (Rs)) : CT 91 #[.int .i64 a, .int .i64 b] V fun v V' => v = .int .u32 r ∧ Ow V' (Rs) := by
 refine Ct.of gl.lo Tryd.func91 Z nle ?_
 unfold word_Bits at h
 refine rg<|ag Z K<|dn<|rg<|mv Z l1<|uu Z (S.conv Z l0 T3 T59)<|mv Z l4<|?_
 refine cb Z en95 (a1 l0) h (wk_word_mask · gl ow) ?_
 rintro i c g f d ⟨rfl, e⟩
 refine uu Z (S.andI Z l2 l0)<|ag Z l0<|dn<|wr<|?_
 cases c
 exact fS l0 ⟨_, Z, d, Z, e⟩
theorem wk_word_Put {V : Vw} {Rs : List At} {m n o p : Int} {r : Int} (h : word_Put m n o p = some r) (gl : Glb V) (ow : Ow V (Rs)) : CT 90 #[.int .u32 m, .int .i64 n, .int .i64 o, .int .u32 p] V fun v V' => v = .int .u32 r ∧ Ow V' (Rs) := by
 refine Ct.of gl.lo Tryd.func90 Z nle ?_
 unfold word_Put at h
 refine rg<|ag Z K<|dn<|ws<|rg<|mv Z l2<|mv Z l4<|?_
 refine cb Z en94 (a2 l1 l0) h (wk_word_good · gl ow) ?_
 rintro q z Q u e ⟨rfl, l⟩
 refine uu Z (S.not Z l0)<|dn<|?_
 refine cd l0 z (fun a D => ?_) (fun a x => ?_)
 ·have N : q = false := nT a
  refine rg<|mv Z l5<|ag Z l0<|dn<|wr<|sqR<|?_
  obtain rfl := si D
  exact fS l0 ⟨_, Z, e, Z, l⟩
 have P : q = true := nF a
 refine wn<|sqN<|rg<|mv Z l6<|uu Z (S.sub Z K l0)<|mv Z l9<|uu Z (S.sub Z l1 l0)<|ag Z l0<|dn<|?_
 refine WP.usdreg Z Z Z ?_
 refine mv Z (lk 10)<|mv Z (lk 13)<|?_
 have g := gl.up e
 obtain ⟨W, E, y⟩ := bindS x
 refine O.call (V := u) Z Z (.inl Z) Z en95 (aC l0 aN) (wk_word_mask E g l) (fun J f d b => by obtain ⟨rfl, j⟩ := b; exact (fun _ => one)) (fun J f d b => ?_)
 obtain ⟨rfl, j⟩ := b
 refine mv Z l3<|?_
 obtain ⟨X, F, A⟩ := bindS y
 refine uu Z (S.shl F Z l1 l0)<|uu Z (S.andNotI Z l4 l0)<|mv Z (lk 19)<|mv Z (lk 19)<|?_
 have w := g.up d
 obtain ⟨Y, G, B⟩ := bindS A
 refine O.call (V := f) Z Z (.inl Z) Z en95 (aC l0 aN) (wk_word_mask G w j) (fun M s i c => by obtain ⟨rfl, k⟩ := c; exact (fun _ => (oc Z one))) (fun M s i c => ?_)
 obtain ⟨rfl, k⟩ := c
 refine uu Z (S.andI Z l2 l0)<|mv Z (lk 10)<|?_
 obtain ⟨aa, H, C⟩ := bindS B
 refine uu Z (S.shl H Z l1 l0)<|uu Z (S.orI Z l6 l0)<|ag Z l0<|dn<|wr<|?_
 have I := (e.t d).t i
 cases C
 exact fS l0 ⟨_, Z, I, Z, k⟩
theorem wk_isa_Encode {V : Vw} {Rs : List At} {c : TInst} {r : Int × Int} (h : isa_Encode c = some r) (gl : Glb V) (ow : Ow V (Rs)) : CT 66 #[.agg (C2 c).toArray] V fun v V' => v = .tuple #[.int .u32 r.1, .int .i64 r.2] ∧ Ow V' (Rs) := by
 refine Ct.of gl.lo Tryd.func66 Z nle ?_
 unfold isa_Encode at h
 refine rg<|?_
 refine O.box ow Z Z (.inl Z) Z l0 (by simp [topV]) Z nd (fun z a6 w J => ?_)
 refine ag Z K<|ag Z K<|dn<|ws<|rg<|uk Z (S.loadB Z l2 T56 Z ti56 (J.own (k := 0) Z).get Z)<|?_
 have B := gl.up w
 refine cb Z en88 (a1 l0) h (wk_isa_Good · B J) ?_
 rintro P an bp a0 u ⟨rfl, e⟩
 refine uu Z (S.not Z l0)<|dn<|?_
 refine cd l0 an (fun m ae => ?_) (fun m af => ?_)
 ·have bj : P = false := nT m
  refine rg<|ag Z K<|ag Z K<|dn<|wr<|sqR<|?_
  have aI := w.t u
  have aP := e.sel 1 []
  cases ae
  exact fM (fsC l1 (fsC l0 fsN)) Z ⟨_, Z, aI, Z, aP⟩
 have bk : P = true := nF m
 refine wn<|sqN<|rg<|fa 0 Z l5 T56 Z ti3<|ld Z l0 T3 e 0<|?_
 obtain ⟨f, p, ah⟩ := bindS af
 have o := B.up u
 obtain ⟨_, _, _, X, az, bf, aw, ar⟩ := o.g0.at p
 cases az
 obtain rfl : X = [.string f.name, .string f.fields, .int .u32 f.word] := aw
 refine uu Z (S.indexA Z Gl l0 T124 ti123 (ix_ge p) (by have aW := ix_lt p; have aX := gl0_len; omega))<|fe Z l0 T123 Z ti59<|uk Z (S.load Z l0 T59 Z (ar 2 _ Z))<|ag Z l0<|dn<|ws<|rg<|fa 0 Z (lk 11) T56 Z ti3<|ld Z l0 T3 e 0<|?_
 obtain ⟨y, q, ai⟩ := bindS ah
 obtain ⟨_, _, _, Y, aB, bg, ax, au⟩ := o.g0.at q
 cases aB
 obtain rfl : Y = [.string y.name, .string y.fields, .int .u32 y.word] := ax
 refine uu Z (S.indexA Z Gl l0 T124 ti123 (ix_ge q) (by have aW := ix_lt q; have aX := gl0_len; omega))<|fe Z l0 T123 Z ti9<|uk Z (S.load Z l0 T9 Z (au 1 _ Z))<|?_
 obtain ⟨j, aE, E⟩ := bindS ai
 refine O.bytes e Z Z (.inl Z) Z l0 T9 T121 T5 aE (fun _ => nd) (fun N Q G M => ?_)
 refine uu Z (M.oslen (k := 0) Z Z l0 T121)<|mv Z K<|dn<|wb<|?_
 have aQ := M.sel 2 [1, 0]
 unfold isa_Encode_l1 at E
 obtain ⟨aM, hn49⟩ := loopO_some.1 E
 refine WP.loopI2 (fun n l V' => ∃ (g i : Int), l = [(1, .pointer (some ⟨z, 0, none⟩)), (4, .int .u32 g), (24, N), (25, .int .i64 (j.length : Int)), (26, .int .i64 i)] ∧ Q.le V' ∧ Ow V' (.pt z (.cells 0 (C2 c)) :: .os (RT.int .u8) N j :: Rs) ∧ itO (fun s => isa_Encode_l1b c j s.1 s.2) n (g, i) = some r) aM _ ⟨f.word, 0, Z, .refl _, aQ, hn49⟩ (allCons (lk 19) (allCons l8 (allCons l2 (allCons l1 (allCons l0 allNil))))) ?_
 rintro _ _ a7 ⟨g, i, rfl, x, b, aj⟩
 obtain ⟨aL, aY, rfl, d, A⟩ := itS aj
 replace d : isa_Encode_l1b c j g i = some aY := d
 unfold isa_Encode_l1b at d
 refine rg<|uu Z (S.lss Z l4 l3)<|dn<|ws<|?_
 refine cd l0 d (fun W ak => ?_) (fun W ac => ?_)
 ·refine wn<|sqN<|ws<|wb<|rg<|?_
  obtain ⟨aZ, a, al⟩ := bindS ak
  obtain ⟨bb, bm, bl, be, F⟩ := b.ospt (k := 1) Z a
  obtain ⟨_, aD, _⟩ := b.osel (k := 1) Z F a
  refine uu Z (S.index Z ((lk 3).trans aD) l5 T121 ti5 (ix_ge a) (ix_lt a))<|?_
  obtain ⟨aa, bi, bh, ay, av⟩ := b.osel (k := 1) Z F a
  obtain rfl : aa = [.int .u8 aZ] := ay
  refine uk Z (S.load Z l0 T5 Z (av 0 _ Z))<|ag Z l0<|dn<|rg<|mv Z l0<|?_
  have aJ := G.t x
  have C := o.up aJ
  refine cb Z en89 (a2 l0 l5) al (wk_isa_part · C b) ?_
  rintro br am bn a8 H ⟨rfl, aR⟩
  refine mv Z l0<|uu Z (S.extract Z l0 Z nle)<|uu Z (S.extract Z l1 Z nle)<|uu Z (S.extract Z l2 Z nle)<|uu Z (S.extract Z l3 Z nle)<|ag Z l3<|ag Z l3<|ag Z l3<|ag Z l3<|dn<|rh<|mv Z (lk 16)<|mv Z l4<|mv Z l4<|mv Z l4<|mv Z l6<|?_
  have D := C.up H
  refine cb Z en91 (a2 l1 l0) am (wk_word_Bits · D aR) ?_
  rintro bs ao bo a9 I ⟨rfl, aS⟩
  have ab := D.up I
  refine cb Z en90 (a4 l5 l4 l3 l0) ao (wk_word_Put · ab aS) ?_
  rintro bt aq bq ba aK ⟨rfl, aU⟩
  refine ag Z l0<|dn<|blkN<|sqN<|rh<|uu Z (S.add Z (lk 27) K)<|mv Z l0<|dn<|sqN<|?_
  have aG := ((x.t H).t I).t aK
  exact ⟨_, _, Z, ⟨aL, Nat.lt_succ_self _, _, _, Z, aG, aU, backS aq A⟩, allR⟩
 refine we<|sqE<|sqE<|blkE<|sqN<|?_
 have ad := exitS ac A
 refine rg<|mv Z l2<|ag Z l0<|ag Z K<|dn<|wr<|?_
 have aH := ((w.t u).t G).t x
 have aO := b.sel 2 []
 cases ad
 exact fM (fsC l1 (fsC l0 fsN)) Z ⟨_, Z, aH, Z, aO⟩
theorem wk_isa_Decode {V : Vw} {Rs : List At} {b : Int} {r : TInst × Int} (h : isa_Decode b = some r) (gl : Glb V) (ow : Ow V (Rs)) : CT 30 #[.int .u32 b] V fun v V' => v = .tuple #[.agg (C2 r.1).toArray, .int .i64 r.2] ∧ Ow V' (Rs) := by
 refine Ct.of gl.lo Tryd.func30 Z nle ?_
 unfold isa_Decode at h
 refine rg<|?_
 refine O.alloc ow Z Z (.inl Z) Z ti56 Z Z nd (fun o C u aj => ?_)
 refine ag Z K<|dn<|ws<|rg<|ag Z K<|dn<|wb<|?_
 unfold isa_Decode_l1 at h
 obtain ⟨af, hn7⟩ := loopO_some.1 h
 refine WP.loopI2 (fun n l V' => ∃ (d : Int), l = [(0, .int .u32 b), (2, .pointer (some ⟨o, 0, none⟩)), (4, .int .i64 d)] ∧ C.le V' ∧ Ow V' (.pt o (.cells 5 [.int .i64 0, .int .i64 0, .int .i64 0, .int .i64 0, .int .i64 0]) :: Rs) ∧ itO (fun s => isa_Decode_l1b b s) n d = some r) af _ ⟨1, Z, .refl _, aj, hn7⟩ (allCons l3 (allCons l2 (allCons l0 allNil))) ?_
 rintro _ _ ax ⟨d, rfl, f, x, G⟩
 obtain ⟨ae, an, rfl, c, e⟩ := itS G
 replace c : isa_Decode_l1b b d = some an := c
 unfold isa_Decode_l1b at c
 refine ws<|rg<|mv Z l2<|uu Z (S.leq Z l0 K)<|dn<|?_
 refine cd l0 c (fun D H => ?_) (fun D Q => ?_)
 ·refine wn<|sqN<|ws<|wb<|rg<|mv Z l4<|mv Z l3<|?_
  have q := u.t f
  have p := gl.up q
  refine cb Z en65 (a2 l1 l0) H (wk_isa_read · p x) ?_
  rintro aE I aB ao g ⟨rfl, ah⟩
  refine O.alloc ah Z Z (.inl Z) Z ti56 Z Z nd (fun ay aq i ai => ?_)
  refine st 0 ai Z l0 l1 ti56 (fun ar j y => ?_)
  refine dn<|rg<|uk Z (S.loadB Z l0 T56 Z ti56 (y.own (k := 0) Z).get Z)<|?_
  have X := (g.t i).t j
  have F := p.up X
  refine cb Z en66 (a1 l0) I (wk_isa_Encode · F y) ?_
  rintro B J aD au w ⟨rfl, m⟩
  refine mv Z l0<|uu Z (S.extract Z l0 Z nle)<|uu Z (S.extract Z l1 Z nle)<|ag Z l1<|ag Z l1<|dn<|rg<|mv Z l0<|uu Z (S.eqlI Z l0 K)<|mv Z l0<|?_
  refine jX 7 (jv 26 (.bool ((decide (B.2 = 0)) && (decide (B.1 = b))))<|jr 25 3 []) (fun az => ?_) fun kk => ?_
  ·refine dn<|?_
   refine cd l0 J (fun E M => ?_) (fun E P => ?_)
   ·refine rg<|uk Z (S.loadB Z (lk 14) T56 Z ti56 (m.own (k := 0) Z).get Z)<|?_
    refine st 1 m Z (lk 22) l0 ti56 (fun av ac z => ?_)
    refine ag Z K<|dn<|wr<|blkR<|sqR<|sqR<|blkR<|sqR<|?_
    have N := exitS M e
    have Y := ((((q.t g).t i).t j).t w).t ac
    have ak := z.sel 2 []
    cases N
    exact fX (resA (lk 23) T56 Z ti56 (z.own (k := 1) Z).get Z (resT l0 res0)) Z ⟨_, Z, Y, Z, ak⟩
   refine wn<|blkN<|sqN<|rh<|mv Z (lk 22)<|uu Z (S.add Z l0 K)<|ag Z l0<|dn<|sqN<|?_
   have al := m.sel 2 [1]
   have aa := (((f.t g).t i).t j).t w
   exact ⟨_, _, Z, ⟨ae, Nat.lt_succ_self _, _, Z, aa, al, backS P e⟩, allR⟩
  refine gs l0 (fun a => ?_) fun a => ?_
  ·refine ug Z Z (lb 0 a) (S.move Z l4)<|ug Z Z (lb 1 a) (S.move Z (lk 17))<|ug Z Z (lb 2 a) (S.eqlI Z l1 l0)<|uu Z (S.pickT Z (lb 3 a) l0)<|?_
   exact jk kk (aT a)
  refine uxs 3 25 Z Z (lb 0 a)<|uu Z (S.pickF Z (lb 3 a) K)<|?_
  exact jk kk (aF a)
 refine we<|sqE<|sqE<|blkE<|sqN<|?_
 have W := exitS Q e
 refine rg<|uu (v := .agg #[.int .i64 0, .int .i64 0, .int .i64 0, .int .i64 0, .int .i64 0]) Z (S.build (vs := []) Z ti56 Z pl56 aN allN Z)<|?_
 refine st 0 x Z l4 l0 ti56 (fun aw ad A => ?_)
 refine ag Z K<|dn<|wr<|?_
 have ab := (u.t f).t ad
 have am := A.sel 1 []
 cases W
 exact fX (resA l5 T56 Z ti56 (A.own (k := 0) Z).get Z (resT l0 res0)) Z ⟨_, Z, ab, Z, am⟩
theorem wk_image_good {V : Vw} {Rs : List At} {d : TNote} {r : Bool} (h : image_good d = some r) (gl : Glb V) (ow : Ow V (Rs)) : CT 54 #[.agg (C3 d).toArray] V fun v V' => v = .bool r ∧ Ow V' (Rs) := by
 refine Ct.of gl.lo Tryd.func54 Z nle ?_
 unfold image_good at h
 refine rg<|?_
 refine O.box ow Z Z (.inl Z) Z l0 (by simp [topV]) Z nd (fun s q f a => ?_)
 refine ag Z K<|dn<|ws<|rg<|fa 0 Z l1 T61 Z ti3<|ld Z l0 T3 a 0<|uu Z (S.lss Z l0 K)<|mv Z l0<|?_
 refine jX 8 (jv 10 (.bool ((decide (d.role < 0)) || (decide (6 < d.role))))<|jr 9 3 []) (fun u => ?_) fun kk => ?_
 ·refine dn<|?_
  refine WP.cond _ l0 Z (fun e => ?_) (fun e => ?_)
  ·have i := ifT e h
   refine rg<|ag Z K<|dn<|wr<|sqR<|?_
   have n := a.sel 1 []
   obtain rfl := si i
   exact fS l0 ⟨_, Z, f, Z, n⟩
  have j := ifF e h
  refine wn<|sqN<|ws<|rg<|fa 0 Z l9 T61 Z ti3<|ld Z l0 T3 a 0<|uu Z (S.eqlI Z l0 K)<|dn<|?_
  refine cd l0 j (fun g l => ?_) (fun g m => ?_)
  ·refine rg<|fa 1 Z (lk 12) T61 Z ti3<|ld Z l0 T3 a 0<|uu Z (S.geq Z l0 K)<|mv Z l0<|?_
   refine jX 8 (jv 21 (.bool ((decide (1 ≤ d.what)) && (decide (d.what ≤ 5))))<|jr 20 3 []) (fun t => ?_) fun kk => ?_
   ·refine ag Z l0<|dn<|wr<|sqR<|?_
    have o := a.sel 1 []
    cases l
    exact fS l0 ⟨_, Z, f, Z, o⟩
   refine gs l0 (fun b => ?_) fun b => ?_
   ·refine fg Z Z (lb 0 b) (lk 16) T61 Z ti3<|kg Z Z (lb 1 b) (S.load Z l0 T3 Z ((a.own (k := 0) Z).cell Z))<|ug Z Z (lb 2 b) (S.leq Z l0 K)<|uu Z (S.pickT Z (lb 3 b) l0)<|?_
    exact jk kk (aT b)
   refine uxs 3 20 Z Z (lb 0 b)<|uu Z (S.pickF Z (lb 3 b) K)<|?_
   exact jk kk (aF b)
  refine wn<|sqN<|rg<|uk Z (S.loadB Z (lk 12) T61 Z ti61 (a.own (k := 0) Z).get Z)<|fa 0 Z (lk 13) T61 Z ti3<|ld Z l0 T3 a 0<|uu (v := .agg #[.int .i64 d.role, .int .i64 0, .bool false, .bool false]) Z (S.build (vs := [.int .i64 d.role]) Z ti61 Z pl61 (aC l0 aN) (allC (by simp [topV]) allN) Z)<|uu Z (S.eqlT (flA (flC (.int _ _) (flC (.int _ _) (flC (.bool _) (flC (.bool _) flN))))) (flA (flC (.int _ _) (flC (.int _ _) (flC (.bool _) (flC (.bool _) flN))))) Z l3 l0 T61 (by kernel_rfl) (by kernel_rfl) (.cons _ _ _ _ _ _ (by decide) (part_cell T3 Z Z) (part_cell T3 Z Z) (eqIn_int T3 9998) (.cons _ _ _ _ _ _ (by decide) (part_cell T3 Z Z) (part_cell T3 Z Z) (eqIn_int T3 9998) (.cons _ _ _ _ _ _ (by decide) (part_cell T4 Z Z) (part_cell T4 Z Z) (eqIn_b T4 9998) (.cons _ _ _ _ _ _ (by decide) (part_cell T4 Z Z) (part_cell T4 Z Z) (eqIn_b T4 9998) .nil)))))<|ag Z l0<|dn<|wr<|?_
  have p := a.sel 1 []
  cases m
  exact fS l0 ⟨_, Z, f, Z, p⟩
 refine gs l0 (fun c => ?_) fun c => ?_
 ·refine uxs 3 9 Z Z (lb 0 c)<|uu Z (S.pickT Z (lb 3 c) K)<|?_
  exact jk kk (oT c)
 refine fg Z Z (lb 0 c) l5 T61 Z ti3<|kg Z Z (lb 1 c) (S.load Z l0 T3 Z ((a.own (k := 0) Z).cell Z))<|ug Z Z (lb 2 c) (S.gtr Z l0 K)<|uu Z (S.pickF Z (lb 3 c) l0)<|?_
 exact jk kk (oF c)
theorem wk_image_fits {V : Vw} {Rs : List At} {l : TInst} {b : TNote} {r : Bool} (h : image_fits l b = some r) (gl : Glb V) (ow : Ow V (Rs)) : CT 55 #[.agg (C2 l).toArray, .agg (C3 b).toArray] V fun v V' => v = .bool r ∧ Ow V' (Rs) := by
 refine Ct.of gl.lo Tryd.func55 Z nle ?_
 unfold image_fits at h
 refine rg<|?_
 refine O.box ow Z Z (.inl Z) Z l0 (by simp [topV]) Z nd (fun Q N g G => ?_)
 refine O.box G Z Z (.inl Z) Z l2 (by simp [topV]) Z nd (fun W P i a => ?_)
 refine ag Z K<|dn<|ws<|rg<|fa 0 Z l2 T56 Z ti3<|ld Z l0 T3 a 1<|dn<|wb<|rg<|uu Z (S.eqlI Z l0 K)<|ag Z l0<|dn<|?_
 refine WP.cond _ l0 Z (fun j => ?_) (fun j => ?_)
 ·have p := ifT j h
  refine rg<|fa 0 Z l5 T61 Z ti3<|ld Z l0 T3 a 0<|uu Z (S.eqlI Z l0 K)<|mv Z l0<|?_
  refine jX 8 (jv 16 (.bool ((decide (b.role = 1)) || (decide (b.role = 2))))<|jr 15 3 []) (fun X => ?_) fun kk => ?_
  ·refine mv Z l0<|?_
   refine jX 13 (jv 21 (.bool (((decide (b.role = 1)) || (decide (b.role = 2))) || (decide (b.role = 5))))<|jr 20 3 []) (fun Y => ?_) fun kk => ?_
   ·refine ag Z l0<|dn<|wr<|blkR<|sqR<|?_
    have A := g.t i
    have F := a.sel 2 []
    cases p
    exact fS l0 ⟨_, Z, A, Z, F⟩
   refine gs l0 (fun c => ?_) fun c => ?_
   ·refine uxs 3 20 Z Z (lb 0 c)<|uu Z (S.pickT Z (lb 3 c) K)<|?_
    exact jk kk (oT c)
   refine fg Z Z (lb 0 c) (lk 14) T61 Z ti3<|kg Z Z (lb 1 c) (S.load Z l0 T3 Z ((a.own (k := 0) Z).cell Z))<|ug Z Z (lb 2 c) (S.eqlI Z l0 K)<|uu Z (S.pickF Z (lb 3 c) l0)<|?_
   exact jk kk (oF c)
  refine gs l0 (fun d => ?_) fun d => ?_
  ·refine uxs 3 15 Z Z (lb 0 d)<|uu Z (S.pickT Z (lb 3 d) K)<|?_
   exact jk kk (oT d)
  refine fg Z Z (lb 0 d) l9 T61 Z ti3<|kg Z Z (lb 1 d) (S.load Z l0 T3 Z ((a.own (k := 0) Z).cell Z))<|ug Z Z (lb 2 d) (S.eqlI Z l0 K)<|uu Z (S.pickF Z (lb 3 d) l0)<|?_
  exact jk kk (oF d)
 have q := ifF j h
 refine rg<|uu Z (S.eqlI Z l2 K)<|ag Z l0<|dn<|?_
 refine cd l0 q (fun m s => ?_) (fun m u => ?_)
 ·refine rg<|fa 0 Z l7 T61 Z ti3<|ld Z l0 T3 a 0<|uu Z (S.eqlI Z l0 K)<|mv Z l0<|?_
  refine jX 8 (jv 31 (.bool ((decide (b.role = 1)) || (decide (b.role = 2))))<|jr 30 3 []) (fun aa => ?_) fun kk => ?_
  ·refine mv Z l0<|?_
   refine jX 13 (jv 36 (.bool (((decide (b.role = 1)) || (decide (b.role = 2))) || (decide (b.role = 6))))<|jr 35 3 []) (fun ab => ?_) fun kk => ?_
   ·refine ag Z l0<|dn<|wr<|blkR<|sqR<|?_
    have B := g.t i
    have H := a.sel 2 []
    cases s
    exact fS l0 ⟨_, Z, B, Z, H⟩
   refine gs l0 (fun e => ?_) fun e => ?_
   ·refine uxs 3 35 Z Z (lb 0 e)<|uu Z (S.pickT Z (lb 3 e) K)<|?_
    exact jk kk (oT e)
   refine fg Z Z (lb 0 e) (lk 16) T61 Z ti3<|kg Z Z (lb 1 e) (S.load Z l0 T3 Z ((a.own (k := 0) Z).cell Z))<|ug Z Z (lb 2 e) (S.eqlI Z l0 K)<|uu Z (S.pickF Z (lb 3 e) l0)<|?_
   exact jk kk (oF e)
  refine gs l0 (fun f => ?_) fun f => ?_
  ·refine uxs 3 30 Z Z (lb 0 f)<|uu Z (S.pickT Z (lb 3 f) K)<|?_
   exact jk kk (oT f)
  refine fg Z Z (lb 0 f) (lk 11) T61 Z ti3<|kg Z Z (lb 1 f) (S.load Z l0 T3 Z ((a.own (k := 0) Z).cell Z))<|ug Z Z (lb 2 f) (S.eqlI Z l0 K)<|uu Z (S.pickF Z (lb 3 f) l0)<|?_
  exact jk kk (oF f)
 refine rg<|uu Z (S.eqlI Z l4 K)<|ag Z l0<|dn<|?_
 refine cd l0 u (fun n w => ?_) (fun n x => ?_)
 ·refine rg<|fa 0 Z l9 T61 Z ti3<|ld Z l0 T3 a 0<|uu Z (S.eqlI Z l0 K)<|ag Z l0<|dn<|wr<|blkR<|sqR<|?_
  have C := g.t i
  have I := a.sel 2 []
  cases w
  exact fS l0 ⟨_, Z, C, Z, I⟩
 refine rg<|uu Z (S.eqlI Z l6 K)<|ag Z l0<|dn<|?_
 refine cd l0 x (fun o y => ?_) (fun o z => ?_)
 ·refine rg<|fa 0 Z (lk 11) T61 Z ti3<|ld Z l0 T3 a 0<|uu Z (S.eqlI Z l0 K)<|ag Z l0<|dn<|wr<|blkR<|sqR<|?_
  have D := g.t i
  have J := a.sel 2 []
  cases y
  exact fS l0 ⟨_, Z, D, Z, J⟩
 refine wn<|blkN<|sqN<|rg<|fa 0 Z (lk 11) T61 Z ti3<|ld Z l0 T3 a 0<|uu Z (S.eqlI Z l0 K)<|ag Z l0<|dn<|wr<|?_
 have E := g.t i
 have M := a.sel 2 []
 cases z
 exact fS l0 ⟨_, Z, E, Z, M⟩
theorem wk_image_Good {V : Vw} {Rs : List At} {a : TImage} {F J I : Value} {r : Bool} (h : image_Good a = some r) (gl : Glb V) (D : Fz (RT.int .u32) V F a.code) (ae : Fz RT_TNote V J a.notes) (af : Fz (RT.int .i64) V I a.threads) (ow : Ow V (Rs)) : CT 24 #[.agg #[F, J, I]] V fun v V' => v = .bool r ∧ Ow V' (Rs) := by
 refine Ct.of gl.lo Tryd.func24 Z nle ?_
 unfold image_Good at h
 refine rg<|?_
 refine O.box ow Z Z (.inl Z) Z l0 (by simp [topV]) Z nd (fun G aP u B => ?_)
 refine ag Z K<|dn<|ws<|rg<|fa 0 Z l1 T26 Z ti22<|ld Z l0 T22 B 0<|uu Z (D.1.len Z l0 T22)<|uu Z (S.eqlI Z l0 K)<|mv Z l0<|?_
 refine jX 10 (jv 19 (.bool ((decide ((a.code.length : Int) = 0)) || (decide (8000 < (a.code.length : Int)))))<|jr 18 4 []) (fun cE => ?_) fun kk => ?_
 ·refine mv Z l0<|?_
  refine jX 19 (jv 28 (.bool (((decide ((a.code.length : Int) = 0)) || (decide (8000 < (a.code.length : Int)))) || (decide ((a.notes.length : Int) ≠ (a.code.length : Int)))))<|jr 27 7 []) (fun cF => ?_) fun kk => ?_
  ·refine mv Z l0<|?_
   refine jX 25 (jv 34 (.bool ((((decide ((a.code.length : Int) = 0)) || (decide (8000 < (a.code.length : Int)))) || (decide ((a.notes.length : Int) ≠ (a.code.length : Int)))) || (decide (8 < (a.threads.length : Int)))))<|jr 33 4 []) (fun cH => ?_) fun kk => ?_
   ·refine dn<|?_
    refine WP.cond _ l0 Z (fun ac => ?_) (fun ac => ?_)
    ·have bq := ifT ac h
     refine rg<|ag Z K<|dn<|wr<|sqR<|?_
     have b8 := B.sel 1 []
     obtain rfl := si bq
     exact fS l0 ⟨_, Z, u, Z, b8⟩
    have az := ifF ac h
    refine wn<|sqN<|ws<|rg<|fa 0 Z (lk 26) T26 Z ti22<|ld Z l0 T22 B 0<|uu Z (D.1.len Z l0 T22)<|mv Z K<|dn<|wb<|?_
    unfold image_Good_l1 at az
    obtain ⟨b2, hn29⟩ := loopO_some.1 az
    refine WP.loopI2 (fun n l V' => ∃ (m : Int), l = [(1, .pointer (some ⟨G, 0, none⟩)), (36, F), (37, .int .i64 (a.code.length : Int)), (38, .int .i64 m)] ∧ aP.le V' ∧ Ow V' (.pt G (.cells 0 [F, J, I]) :: Rs) ∧ itO (fun s => image_Good_l1b a s) n m = some r) b2 _ ⟨0, Z, .refl _, B, hn29⟩ (allCons (lk 30) (allCons l2 (allCons l1 (allCons l0 allNil)))) ?_
    rintro _ _ aO ⟨m, rfl, q, aq, br⟩
    obtain ⟨b0, aI, rfl, P, M⟩ := itS br
    replace P : image_Good_l1b a m = some aI := P
    unfold image_Good_l1b at P
    refine rg<|uu Z (S.lss Z l3 l2)<|dn<|ws<|?_
    refine cd l0 P (fun aS bs => ?_) (fun aS bh => ?_)
    ·refine wn<|sqN<|ws<|wb<|rg<|mv Z l4<|?_
     obtain ⟨cj, am, bt⟩ := bindS bs
     obtain ⟨cr, cC, cw, a0, bP, bH, bL, bF⟩ := D.at am
     obtain rfl : a0 = [.int .u32 cj] := bL
     refine uu Z (S.index Z ((lk 3).trans bP) l5 T22 ti59 (ix_ge am) (ix_lt am))<|uk Z (S.load Z l0 T59 Z ((u.trans q).cell bH (bF 0 _ Z)))<|ag Z l2<|ag Z l1<|dn<|rg<|mv Z l0<|?_
     have an := u.t q
     have ax := gl.up an
     refine cb Z en30 (a1 l0) bt (wk_isa_Decode · ax aq) ?_
     rintro c bu cL cl y ⟨rfl, b9⟩
     refine mv Z l0<|uu Z (S.extract Z l0 Z nle)<|uu Z (S.extract Z l1 Z nle)<|?_
     refine O.alloc b9 Z Z (.inl Z) Z ti56 Z Z nd (fun av cm z ca => ?_)
     refine st 0 ca Z l0 l2 ti56 (fun ab A X => ?_)
     refine ag Z l1<|dn<|ws<|?_
     refine WP.seqI (fun l V' => ∃ (au : Bool), l = [(1, .pointer (some ⟨G, 0, none⟩)), (3, .int .i64 m), (5, .pointer (some ⟨av, 0, none⟩)), (36, F), (37, .int .i64 (a.code.length : Int)), (38, .int .i64 m), (68, .bool au)] ∧ ab.le V' ∧ Ow V' (.pt G (.cells 0 [F, J, I]) :: .pt av (.cells 5 (C2 c.1)) :: Rs) ∧ image_Good_k1 a m c au = some aI) ?_ ?_
     ·rintro _ cn ⟨au, rfl, ao, C, aB⟩
      unfold image_Good_k1 at aB
      refine cd l6 aB (fun aU bv => ?_) (fun aU bx => ?_)
      ·refine rg<|ag Z K<|dn<|wr<|sqR<|blkR<|sqR<|sqR<|blkR<|sqR<|?_
       have bw := exitS bv M
       have bW := (((an.t y).t z).t A).t ao
       have cc := C.sel 2 []
       obtain rfl := si bw
       exact fS l0 ⟨_, Z, bW, Z, cc⟩
      refine wn<|sqN<|rg<|mv Z l1<|fa 4 Z l3 T56 Z ti3<|ld Z l0 T3 C 1<|uu Z (S.add Z l2 l0)<|ag Z l0<|dn<|rg<|fa 0 Z l7 T56 Z ti3<|ld Z l0 T3 C 1<|uu Z (S.eqlI Z l0 K)<|mv Z l0<|?_
      refine jX 8 (jv 80 (.bool ((decide (c.1.op = 11)) || (decide (c.1.op = 12))))<|jr 79 3 []) (fun cI => ?_) fun kk => ?_
      ·refine mv Z l0<|?_
       refine jX 13 (jv 85 (.bool (((decide (c.1.op = 11)) || (decide (c.1.op = 12))) || (decide (c.1.op = 10))))<|jr 84 3 []) (fun cJ => ?_) fun kk => ?_
       ·refine mv Z l0<|?_
        refine jX 24 (jv 96 (.bool ((((decide (c.1.op = 11)) || (decide (c.1.op = 12))) || (decide (c.1.op = 10))) && ((decide ((w64 (m + c.1.imm)) < 0)) || (decide ((a.code.length : Int) ≤ (w64 (m + c.1.imm)))))))<|jr 95 9 []) (fun cK => ?_) fun kk => ?_
        ·refine dn<|?_
         refine cd l0 bx (fun aW bz => ?_) (fun aW bB => ?_)
         ·refine rg<|ag Z K<|dn<|wr<|blkR<|sqR<|sqR<|blkR<|sqR<|?_
          have bA := exitS bz M
          have bX := (((an.t y).t z).t A).t ao
          have ce := C.sel 2 []
          obtain rfl := si bA
          exact fS l0 ⟨_, Z, bX, Z, ce⟩
         refine wn<|blkN<|sqN<|rh<|uu Z (S.add Z (lk 34) K)<|mv Z l0<|dn<|sqN<|?_
         have cf := C.sel 2 [0]
         have bY := (((q.t y).t z).t A).t ao
         exact ⟨_, _, Z, ⟨b0, Nat.lt_succ_self _, _, Z, bY, cf, backS bB M⟩, allR⟩
        refine gs l0 (fun e => ?_) fun e => ?_
        ·refine ug Z Z (lb 0 e) (S.move Z (lk 14))<|ug Z Z (lb 1 e) (S.lss Z l0 K)<|ug Z Z (lb 2 e) (S.move Z l0)<|?_
         refine jX 23 (jv 95 (.bool ((decide ((w64 (m + c.1.imm)) < 0)) || (decide ((a.code.length : Int) ≤ (w64 (m + c.1.imm))))))<|jr 94 5 []) (fun cD => ?_) fun kk => ?_
         ·refine uu Z (S.pickT Z (lb 9 e) l0)<|?_
          exact jk kk (aT e)
         refine gs l0 (fun f => ?_) fun f => ?_
         ·refine uxs 5 94 Z Z (lb 0 f)<|ug Z Z (lb 8 e) (S.pickT Z (lb 5 f) K)<|?_
          exact jk kk (oT f)
         refine ug Z Z (lb 0 f) (S.move Z (lk 17))<|fg Z Z (lb 1 f) (lk 23) T26 Z ti22<|kg Z Z (lb 2 f) (S.load Z l0 T22 Z ((C.own (k := 0) Z).cell Z))<|ug Z Z (lb 3 f) (D.1.len Z l0 T22)<|ug Z Z (lb 4 f) (S.geq Z l3 l0)<|ug Z Z (lb 8 e) (S.pickF Z (lb 5 f) l0)<|?_
         exact jk kk (oF f)
        refine uxs 3 89 Z Z (lb 0 e)<|uz Z Z l0<|uz Z Z l1<|uz Z Z l2<|uz Z Z l3<|uz Z Z l4<|ux Z Z (lb 8 e)<|uu Z (S.pickF Z (lb 9 e) K)<|?_
        exact jk kk (aF e)
       refine gs l0 (fun w => ?_) fun w => ?_
       ·refine uxs 3 84 Z Z (lb 0 w)<|uu Z (S.pickT Z (lb 3 w) K)<|?_
        exact jk kk (oT w)
       refine fg Z Z (lb 0 w) (lk 16) T56 Z ti3<|kg Z Z (lb 1 w) (S.load Z l0 T3 Z ((C.own (k := 1) Z).cell Z))<|ug Z Z (lb 2 w) (S.eqlI Z l0 K)<|uu Z (S.pickF Z (lb 3 w) l0)<|?_
       exact jk kk (oF w)
      refine gs l0 (fun x => ?_) fun x => ?_
      ·refine uxs 3 79 Z Z (lb 0 x)<|uu Z (S.pickT Z (lb 3 x) K)<|?_
       exact jk kk (oT x)
      refine fg Z Z (lb 0 x) (lk 11) T56 Z ti3<|kg Z Z (lb 1 x) (S.load Z l0 T3 Z ((C.own (k := 1) Z).cell Z))<|ug Z Z (lb 2 x) (S.eqlI Z l0 K)<|uu Z (S.pickF Z (lb 3 x) l0)<|?_
      exact jk kk (oF x)
     refine WP.udreg Z Z Z ?_
     refine mv Z l0<|uu Z (S.neqI Z l0 K)<|mv Z l0<|?_
     refine gi l0 bu (fun g a7 => ?_) fun g a8 => ?_
     ·refine uxs 7 57 Z Z (lb 0 g)<|uu Z (S.pickT Z (lb 7 g) K)<|mv Z l0<|ux Z Z l0<|ux Z Z l1<|ux Z Z l2<|ux Z Z l3<|ux Z Z l4<|ux Z Z l5<|ux Z Z l6<|ux Z Z l7<|uu Z (S.pickT Z l8 K)<|dn<|sqN<|?_
      have b3 := X.sel 2 [1, 0]
      exact ⟨_, _, Z, ⟨_, Z, (.refl _), b3, a7⟩, allR⟩
     refine fg Z Z (lb 0 g) (lk 16) T26 Z ti23<|kD Z Z (lb 1 g) (S.load Z l0 T23 Z ((X.own (k := 1) Z).cell Z)) (onr (X.own (k := 1) Z).lt)<|ug Z Z (lb 2 g) (S.move Z (lk 13))<|?_
     obtain ⟨aJ, aj, a9⟩ := bindS a8
     obtain ⟨co, cz, ct, aX, bM, aD, bI, bC⟩ := ae.at aj
     obtain rfl : aX = (C3 aJ) := bI
     refine ug Z Z (lb 3 g) (S.index Z ((lk 1).trans bM) l0 T23 ti61 (ix_ge aj) (ix_lt aj))<|kD Z Z (lb 4 g) (S.loadN (cs := (C3 aJ)) Z l0 T61 Z ti61 Z (fun j v hj => ((((u.trans q).trans y).trans z).trans A).cell aD (bC j v hj))) (ot (onr (ab.wf _ (((((u.trans q).trans y).trans z).trans A).sub _ aD))))<|?_
     have bS := (y.t z).t A
     have aw := ax.up bS
     obtain ⟨aK, bQ, ba⟩ := bindS a9
     refine O.call (V := ab) Z Z (.inr ⟨_, _, _, Z, Z, (lb 5 g)⟩) Z en54 (aC l0 aN) (wk_image_good bQ aw X) (fun ch aa H ah => by obtain ⟨rfl, E⟩ := ah; exact (fun _ => (oc ol (oc ol one)))) (fun ch aa H ah => ?_)
     obtain ⟨rfl, E⟩ := ah
     refine ug Z Z (lb 6 g) (S.not Z l0)<|uu Z (S.pickF Z (lb 7 g) l0)<|mv Z l0<|?_
     refine gi l0 ba (fun b bb => ?_) fun b be => ?_
     ·have cx : aK = false := nT b
      refine uxs 8 67 Z Z (lb 0 b)<|uu Z (S.pickT Z (lb 8 b) K)<|dn<|sqN<|?_
      have b4 := E.sel 2 [1, 0]
      exact ⟨_, _, Z, ⟨_, Z, H, b4, bb⟩, allR⟩
     have cy : aK = true := nF b
     refine kD Z Z (lb 0 b) (S.loadB Z (lk 13) T56 Z ti56 (E.own (k := 0) Z).get Z) (oi (ot (ot (onr (E.own (k := 0) Z).lt))))<|fg Z Z (lb 1 b) (lk 26) T26 Z ti23<|kD Z Z (lb 2 b) (S.load Z l0 T23 Z ((E.own (k := 1) Z).cell Z)) (ot (oi (ot (ot (onr (E.own (k := 1) Z).lt)))))<|ug Z Z (lb 3 b) (S.move Z (lk 23))<|?_
     obtain ⟨aL, ak, bf⟩ := bindS be
     obtain ⟨cp, cA, cu, aY, bN, aE, bJ, bD⟩ := ae.at ak
     obtain rfl : aY = (C3 aL) := bJ
     refine ug Z Z (lb 4 b) (S.index Z ((lk 1).trans bN) l0 T23 ti61 (ix_ge ak) (ix_lt ak))<|kD Z Z (lb 5 b) (S.loadN (cs := (C3 aL)) Z l0 T61 Z ti61 Z (fun j v hj => (((((u.trans q).trans y).trans z).trans A).trans H).cell aE (bD j v hj))) (ot (ot (oi (ot (ot (onr (aa.wf _ ((((((u.trans q).trans y).trans z).trans A).trans H).sub _ aE))))))))<|?_
     have a6 := aw.up H
     obtain ⟨cM, bR, bg⟩ := bindS bf
     refine O.call (V := aa) Z Z (.inr ⟨_, _, _, Z, Z, (lb 6 b)⟩) Z en55 (aC l5 (aC l0 aN)) (wk_image_fits bR a6 E) (fun ci aM aG ai => by obtain ⟨rfl, aH⟩ := ai; exact (fun _ => (oc ol (oc ol (oc ol (oc Z (oc ol (oc ol one)))))))) (fun ci aM aG ai => ?_)
     obtain ⟨rfl, aH⟩ := ai
     refine ug Z Z (lb 7 b) (S.not Z l0)<|uu Z (S.pickF Z (lb 8 b) l0)<|dn<|sqN<|?_
     have b5 := aH.sel 2 [1, 0]
     have bT := H.t aG
     exact ⟨_, _, Z, ⟨_, Z, bT, b5, bg⟩, allR⟩
    refine we<|sqE<|sqE<|blkE<|sqN<|?_
    have ay := exitS bh M
    refine ws<|rg<|fa 2 Z l1 T26 Z ti24<|ld Z l0 T24 aq 0<|uu Z (af.1.len Z l0 T24)<|mv Z K<|dn<|wb<|?_
    unfold image_Good_l2 at ay
    obtain ⟨b1, hn172⟩ := loopO_some.1 ay
    refine WP.loopI2 (fun n l V' => ∃ (Y : Int), l = [(1, .pointer (some ⟨G, 0, none⟩)), (99, I), (100, .int .i64 (a.threads.length : Int)), (101, .int .i64 Y)] ∧ aO.le V' ∧ Ow V' (.pt G (.cells 0 [F, J, I]) :: Rs) ∧ itO (fun s => image_Good_l2b a s) n Y = some r) b1 _ ⟨0, Z, .refl _, aq, hn172⟩ (allCons l5 (allCons l2 (allCons l1 (allCons l0 allNil)))) ?_
    rintro _ _ ck ⟨Y, rfl, Q, W, bi⟩
    obtain ⟨bZ, cg, rfl, N, ad⟩ := itS bi
    replace N : image_Good_l2b a Y = some cg := N
    unfold image_Good_l2b at N
    refine rg<|uu Z (S.lss Z l3 l2)<|dn<|ws<|?_
    refine cd l0 N (fun aQ bj => ?_) (fun aQ bo => ?_)
    ·refine wn<|sqN<|ws<|wb<|rg<|?_
     obtain ⟨ar, al, bk⟩ := bindS bj
     obtain ⟨cq, cB, cv, aZ, bO, bG, bK, bE⟩ := af.at al
     obtain rfl : aZ = [.int .i64 ar] := bK
     refine uu Z (S.index Z ((lk 2).trans bO) l4 T24 ti3 (ix_ge al) (ix_lt al))<|uk Z (S.load Z l0 T3 Z (((u.trans q).trans Q).cell bG (bE 0 _ Z)))<|ag Z l0<|dn<|rg<|mv Z l0<|uu Z (S.lss Z l0 K)<|mv Z l0<|?_
     refine jX 9 (jv 113 (.bool ((decide (ar < 0)) || (decide ((a.code.length : Int) ≤ ar))))<|jr 112 5 []) (fun cG => ?_) fun kk => ?_
     ·refine dn<|?_
      refine cd l0 bk (fun aR bl => ?_) (fun aR bn => ?_)
      ·refine rg<|ag Z K<|dn<|wr<|blkR<|sqR<|sqR<|blkR<|sqR<|?_
       have bm := exitS bl ad
       have bU := (u.t q).t Q
       have b6 := W.sel 1 []
       obtain rfl := si bm
       exact fS l0 ⟨_, Z, bU, Z, b6⟩
      refine wn<|blkN<|sqN<|rh<|uu Z (S.add Z (lk 16) K)<|mv Z l0<|dn<|sqN<|?_
      exact ⟨_, _, Z, ⟨bZ, Nat.lt_succ_self _, _, Z, Q, W, backS bn ad⟩, allR⟩
     refine gs l0 (fun i => ?_) fun i => ?_
     ·refine uxs 5 112 Z Z (lb 0 i)<|uu Z (S.pickT Z (lb 5 i) K)<|?_
      exact jk kk (oT i)
     refine ug Z Z (lb 0 i) (S.move Z l3)<|fg Z Z (lb 1 i) l8 T26 Z ti22<|kg Z Z (lb 2 i) (S.load Z l0 T22 Z ((W.own (k := 0) Z).cell Z))<|ug Z Z (lb 3 i) (D.1.len Z l0 T22)<|ug Z Z (lb 4 i) (S.geq Z l3 l0)<|uu Z (S.pickF Z (lb 5 i) l0)<|?_
     exact jk kk (oF i)
    refine we<|sqE<|sqE<|blkE<|sqN<|?_
    have bp := exitS bo ad
    refine rg<|ag Z K<|dn<|wr<|?_
    have bV := (u.t q).t Q
    have b7 := W.sel 1 []
    obtain rfl := si bp
    exact fS l0 ⟨_, Z, bV, Z, b7⟩
   refine gs l0 (fun o => ?_) fun o => ?_
   ·refine uxs 4 33 Z Z (lb 0 o)<|uu Z (S.pickT Z (lb 4 o) K)<|?_
    exact jk kk (oT o)
   refine fg Z Z (lb 0 o) (lk 21) T26 Z ti24<|kg Z Z (lb 1 o) (S.load Z l0 T24 Z ((B.own (k := 0) Z).cell Z))<|ug Z Z (lb 2 o) (af.1.len Z l0 T24)<|ug Z Z (lb 3 o) (S.gtr Z l0 K)<|uu Z (S.pickF Z (lb 4 o) l0)<|?_
   exact jk kk (oF o)
  refine gs l0 (fun d => ?_) fun d => ?_
  ·refine uxs 7 27 Z Z (lb 0 d)<|uu Z (S.pickT Z (lb 7 d) K)<|?_
   exact jk kk (oT d)
  refine fg Z Z (lb 0 d) (lk 12) T26 Z ti23<|kg Z Z (lb 1 d) (S.load Z l0 T23 Z ((B.own (k := 0) Z).cell Z))<|ug Z Z (lb 2 d) (ae.1.len Z l0 T23)<|fg Z Z (lb 3 d) (lk 15) T26 Z ti22<|kg Z Z (lb 4 d) (S.load Z l0 T22 Z ((B.own (k := 0) Z).cell Z))<|ug Z Z (lb 5 d) (D.1.len Z l0 T22)<|ug Z Z (lb 6 d) (S.neqI Z l3 l0)<|uu Z (S.pickF Z (lb 7 d) l0)<|?_
  exact jk kk (oF d)
 refine gs l0 (fun p => ?_) fun p => ?_
 ·refine uxs 4 18 Z Z (lb 0 p)<|uu Z (S.pickT Z (lb 4 p) K)<|?_
  exact jk kk (oT p)
 refine fg Z Z (lb 0 p) l6 T26 Z ti22<|kg Z Z (lb 1 p) (S.load Z l0 T22 Z ((B.own (k := 0) Z).cell Z))<|ug Z Z (lb 2 p) (D.1.len Z l0 T22)<|ug Z Z (lb 3 p) (S.gtr Z l0 K)<|uu Z (S.pickF Z (lb 4 p) l0)<|?_
 exact jk kk (oF p)
theorem wk_window_New {V : Vw} {Rs : List At} {n : TImage} {a : Int} {d e f : Value} {r : Twindow_Window} (h : window_New n a = some r) (gl : Glb V) (P : Fz (RT.int .u32) V d n.code) (Q : Fz RT_TNote V e n.notes) (W : Fz (RT.int .i64) V f n.threads) (ow : Ow V (Rs)) : CT 5 #[.agg #[d, e, f], .int .i64 a] V fun v V' => ∃ (w : Nat) (ay : Nat) (G : Value) (H : Value) (I : Value) (aw : Value) (ax : Value), v = .tuple #[.pointer (some ⟨w, 0, none⟩), .int .i64 0] ∧ Fz (RT.int .u32) V' G r.img.code ∧ Fz RT_TNote V' H r.img.notes ∧ Fz (RT.int .i64) V' I r.img.threads ∧ Ow V' (WA w ay G H I aw ax r Rs) := by
 refine Ct.of gl.lo Tryd.func5 Z nle ?_
 unfold window_New at h
 refine rg<|?_
 refine O.box ow Z Z (.inl Z) Z l0 (by simp [topV]) Z nd (fun aI az l F => ?_)
 refine ag Z K<|ag Z K<|dn<|ws<|rg<|uk Z (S.loadB Z l2 T26 Z ti26 (F.own (k := 0) Z).get Z)<|?_
 have x := P.up l
 have y := Q.up l
 have o := W.up l
 have ab := gl.up l
 refine cb Z en24 (a1 l0) h (wk_image_Good · ab x y o F) ?_
 rintro q ac aR J p ⟨rfl, m⟩
 refine uu Z (S.not Z l0)<|mv Z l0<|?_
 refine jX 7 (jv 13 (.bool ((!q) || (decide (a < 0))))<|jr 12 2 []) (fun aP => ?_) fun kk => ?_
 ·refine mv Z l0<|?_
  refine jX 14 (jv 20 (.bool (((!q) || (decide (a < 0))) || (decide ((n.threads.length : Int) ≤ a))))<|jr 19 5 []) (fun aQ => ?_) fun kk => ?_
  ·refine dn<|?_
   refine cd l0 ac (fun M ad => ?_) (fun M ae => ?_)
   ·refine rg<|ag Z K<|ag Z K<|dn<|wr<|sqR<|?_
    cases ad
   refine wn<|sqN<|?_
   refine WP.usdreg Z Z Z ?_
   refine uD Z (S.loadB Z (lk 16) T26 Z ti26 (m.own (k := 0) Z).get Z) (onr (m.own (k := 0) Z).lt)<|mv Z (lk 19)<|fa 2 Z (lk 18) T26 Z ti24<|lD Z l0 T24 m 0 (ot<|onr ·)<|mv Z (lk 22)<|?_
   obtain ⟨g, s, af⟩ := bindS ae
   obtain ⟨aJ, aO, aK, N, aj, z, ai, ah⟩ := o.at s
   obtain rfl : N = [.int .i64 g] := ai
   refine uu Z (S.index Z ((lk 1).trans aj) l0 T24 ti3 (ix_ge s) (ix_lt s))<|uD Z (S.load Z l0 T3 Z (p.cell z (ah 0 _ Z))) (ot (ot (onr (J.wf _ (p.sub _ z)))))<|uu (v := .agg #[d, e, f, .int .i64 a, .int .i64 0, .int .i64 0, .int .i64 0, .int .i64 0, .int .i64 0, .int .i64 0, .int .i64 0, .int .i64 0, .int .i64 0, .int .i64 0, .int .i64 0, .int .i64 0, .int .i64 0, .int .i64 0, .int .i64 0, .int .i64 0, .int .i64 0, .int .i64 0, .int .i64 0, .int .i64 0, .int .i64 0, .int .i64 0, .int .i64 0, .int .i64 0, .int .i64 0, .int .i64 0, .int .i64 0, .int .i64 0, .int .i64 0, .int .i64 0, .int .i64 0, .int .i64 0, .int .i64 0, .int .i64 0, .slice none 0 0, .int .i64 g, .int .i64 0, .bool false, .bool false, .int .i64 0, .int .i64 0, .slice none 0 0]) Z (S.build (vs := [.agg #[d, e, f], .int .i64 a, .int .i64 g]) Z ti54 Z pl54 (aC l6 (aC l5 (aC l0 aN))) (allC (by simp [topV]) (allC (by simp [topV]) (allC (by simp [topV]) allN))) (fillA (ws := [d, e, f]) Z Z Z nle (fill1 Z Z nle (fill1 Z Z nle Z))))<|?_
   refine O.box m Z Z (.inl Z) Z l0 (by simp [topV]) Z (fun _ => (oc trivial (oc trivial (oc trivial ona)))) (fun i aB A al => ?_)
   refine ag Z l0<|dn<|rg<|mv Z l0<|mv Z (lk 29)<|uu Z (S.mul Z K l0)<|uu Z (S.add Z K l0)<|uu Z (S.nilCheck Z l3)<|fa 4 Z l0 T54 Z ti52<|uu (v := .pointer (some ⟨i, 5, none⟩)) Z (S.indexA (j := 1) Z l0 K T52 ti3 (by decide) (by decide))<|?_
   refine O.store (k := 0) (cs := [.int .i64 (w64 (268451840 + (w64 (65536 * a))))]) (c' := (d :: e :: f :: .int .i64 a :: rg34 (upA (fun _ => 0) 1 (w64 (268451840 + (w64 (65536 * a))))) [.slice none 0 0, .int .i64 g, .int .i64 0, .bool false, .bool false, .int .i64 0, .int .i64 0, .slice none 0 0])) al Z Z Z (.inl Z) Z l0 l3 ti3 (by simp [topV]) Z Z nle Z Z nd (fun aD B am => ?_)
   refine dn<|rg<|mv Z l7<|mv Z (lk 36)<|uu Z (S.add Z l0 K)<|uu Z (S.mul Z K l0)<|uu Z (S.nilCheck Z l3)<|fa 4 Z l0 T54 Z ti52<|uu (v := .pointer (some ⟨i, 6, none⟩)) Z (S.indexA (j := 2) Z l0 K T52 ti3 (by decide) (by decide))<|?_
   refine O.store (k := 0) (cs := [.int .i64 (w64 (1048576 * (w64 (a + 1))))]) (c' := (d :: e :: f :: .int .i64 a :: rg34 (upA (upA (fun _ => 0) 1 (w64 (268451840 + (w64 (65536 * a))))) 2 (w64 (1048576 * (w64 (a + 1))))) [.slice none 0 0, .int .i64 g, .int .i64 0, .bool false, .bool false, .int .i64 0, .int .i64 0, .slice none 0 0])) am Z Z Z (.inl Z) Z l0 l3 ti3 (by simp [topV]) Z Z nle Z Z nd (fun aE C an => ?_)
   refine dn<|rg<|mv Z (lk 14)<|mv Z (lk 43)<|uu Z (S.add Z l0 K)<|uu Z (S.mul Z K l0)<|uu Z (S.nilCheck Z l3)<|fa 4 Z l0 T54 Z ti52<|uu (v := .pointer (some ⟨i, 31, none⟩)) Z (S.indexA (j := 27) Z l0 K T52 ti3 (by decide) (by decide))<|?_
   refine O.store (k := 0) (cs := [.int .i64 (w64 (1024 * (w64 (a + 1))))]) (c' := (d :: e :: f :: .int .i64 a :: rg34 (upA (upA (upA (fun _ => 0) 1 (w64 (268451840 + (w64 (65536 * a))))) 2 (w64 (1048576 * (w64 (a + 1))))) 27 (w64 (1024 * (w64 (a + 1))))) [.slice none 0 0, .int .i64 g, .int .i64 0, .bool false, .bool false, .int .i64 0, .int .i64 0, .slice none 0 0])) an Z Z Z (.inl Z) Z l0 l3 ti3 (by simp [topV]) Z Z nle Z Z nd (fun aG D ao => ?_)
   refine dn<|rg<|mv Z (lk 21)<|mv Z (lk 50)<|uu Z (S.add Z l0 K)<|uu Z (S.mul Z K l0)<|uu Z (S.add Z l0 K)<|uu Z (S.nilCheck Z l4)<|fa 4 Z l0 T54 Z ti52<|uu (v := .pointer (some ⟨i, 32, none⟩)) Z (S.indexA (j := 28) Z l0 K T52 ti3 (by decide) (by decide))<|?_
   refine O.store (k := 0) (cs := [.int .i64 (w64 ((w64 (1048576 * (w64 (a + 1)))) + 4096))]) (c' := (d :: e :: f :: .int .i64 a :: rg34 (upA (upA (upA (upA (fun _ => 0) 1 (w64 (268451840 + (w64 (65536 * a))))) 2 (w64 (1048576 * (w64 (a + 1))))) 27 (w64 (1024 * (w64 (a + 1))))) 28 (w64 ((w64 (1048576 * (w64 (a + 1)))) + 4096))) [.slice none 0 0, .int .i64 g, .int .i64 0, .bool false, .bool false, .int .i64 0, .int .i64 0, .slice none 0 0])) ao Z Z Z (.inl Z) Z l0 l3 ti3 (by simp [topV]) Z Z nle Z Z nd (fun aH E aq => ?_)
   refine dn<|rg<|mv Z (lk 29)<|ag Z l0<|ag Z K<|dn<|wr<|?_
   have u := ((((p.t A).t B).t C).t D).t E
   have X := x.up u
   have Y := y.up u
   have aa := o.up u
   have ar := aq.nil RT_TSlot
   have au := ar.nil RT_TSlot
   have ak := (((((l.t p).t A).t B).t C).t D).t E
   have av := au.sel 4 [2, 1, 0]
   cases af
   exact fM (fsC l1 (fsC l0 fsN)) Z ⟨_, Z, ak, i, 0, d, e, f, (.slice none 0 0), (.slice none 0 0), Z, X, Y, aa, av⟩
  refine gs l0 (fun b => ?_) fun b => ?_
  ·refine uxs 5 19 Z Z (lb 0 b)<|uu Z (S.pickT Z (lb 5 b) K)<|?_
   exact jk kk (oT b)
  refine ug Z Z (lb 0 b) (S.move Z (lk 12))<|fg Z Z (lb 1 b) (lk 11) T26 Z ti24<|kg Z Z (lb 2 b) (S.load Z l0 T24 Z ((m.own (k := 0) Z).cell Z))<|ug Z Z (lb 3 b) (o.1.len Z l0 T24)<|ug Z Z (lb 4 b) (S.geq Z l3 l0)<|uu Z (S.pickF Z (lb 5 b) l0)<|?_
  exact jk kk (oF b)
 refine gs l0 (fun c => ?_) fun c => ?_
 ·have aL : q = false := nT c
  refine uxs 2 12 Z Z (lb 0 c)<|uu Z (S.pickT Z (lb 2 c) K)<|?_
  exact jk kk (oT c)
 have aM : q = true := nF c
 refine ug Z Z (lb 0 c) (S.move Z l8)<|ug Z Z (lb 1 c) (S.lss Z l0 K)<|uu Z (S.pickF Z (lb 2 c) l0)<|?_
 exact jk kk (oF c)
theorem wk_storage_New {V : Vw} {Rs : List At} {u : Int} {r : Tstorage_Storage} (h : storage_New u = some r) (gl : Glb V) (ow : Ow V (Rs)) : CT 23 #[.int .i64 u] V fun v V' => ∃ (M : Nat) (bk : Nat) (bg : Value) (bh : Value) (am : List Value) (bi : Value) (ak : List Value) (be : Value) (al : List Value) (bf : Value), v = .pointer (some ⟨M, 0, none⟩) ∧ Ow V' (SA M bk bg bh am bi ak be al bf r Rs) := by
 refine Ct.of gl.lo Tryd.func23 Z nle ?_
 unfold storage_New at h
 refine rg<|ag Z K<|dn<|rg<|?_
 refine O.makeMap (RT.int .i64) false ow Z Z (.inl Z) Z (fun _ => nd) (fun a bq aB F => ?_)
 refine uu (v := .agg #[.slice none 0 0, .slice none 0 0, .slice none 0 0, .slice none 0 0, a]) Z (S.build (vs := [a]) Z ti90 Z pl90 (aC l0 aN) (allC (F.omne (k := 0) Z) allN) (fill1 Z (F.omcells (k := 0) Z) nle Z))<|?_
 refine O.box F Z Z (.inl Z) Z l0 (by simp [topV]) Z nd (fun f aa aD aW => ?_)
 refine ag Z l0<|dn<|ws<|rg<|mv Z l5<|uu Z (S.maxI Z l0 K)<|uu Z (S.minI Z l0 K)<|mv Z K<|dn<|wb<|?_
 have aX := aW.ssnil (RO.os (RT.int .i64))
 have aY := aX.ssnil (RO.om RT.bool false)
 have aZ := aY.ssnil (RO.om (RT.int .i64) false)
 have a0 := aZ.sel 5 [3, 2, 1, 0, 4]
 unfold storage_New_l1 at h
 obtain ⟨aM, hn47⟩ := loopO_some.1 h
 refine WP.loopI2 (fun n l V' => ∃ (d : Value) (g : List Value) (x : List (List Int)) (c : Value) (i : List Value) (o : List (List (Int × Bool))) (b : Value) (j : List Value) (e : List (List (Int × Int))) (E : Int), l = [(3, .pointer (some ⟨f, 0, none⟩)), (9, .int .i64 (min (max u 0) 8)), (10, .int .i64 E)] ∧ aa.le V' ∧ Ow V' (.pt f (.cells 0 [.slice none 0 0, d, c, b, a]) :: .oss (RO.os (RT.int .i64)) d g x :: .oss (RO.om RT.bool false) c i o :: .oss (RO.om (RT.int .i64) false) b j e :: .om (RT.int .i64) false a [] :: Rs) ∧ itO (fun s => storage_New_l1b u s.1 s.2.1 s.2.2.1 s.2.2.2) n (x, o, e, E) = some r) aM _ ⟨(.slice none 0 0), [], [], (.slice none 0 0), [], [], (.slice none 0 0), [], [], 0, Z, .refl _, a0, hn47⟩ (allCons l4 (allCons l1 (allCons l0 allNil))) ?_
 rintro _ _ br ⟨d, g, x, c, i, o, b, j, e, E, rfl, P, G, af⟩
 obtain ⟨aL, bb, rfl, y, N⟩ := itS af
 replace y : storage_New_l1b u x o e E = some bb := y
 unfold storage_New_l1b at y
 refine rg<|uu Z (S.lss Z l2 l1)<|dn<|ws<|?_
 refine cd l0 y (fun ab ah => ?_) (fun ab ad => ?_)
 ·refine wn<|sqN<|ws<|wb<|?_
  refine WP.udreg Z Z Z ?_
  refine mv Z l1<|mv Z l2<|mv Z l3<|mv Z l4<|uu Z (S.nilCheck Z l0)<|fa 1 Z l0 T90 Z ti86<|lD Z l0 T86 G 0 onr<|?_
  have a6 := G.nil (RT.int .i64)
  refine O.litS (RI := (RO.os (RT.int .i64))) (Bs := [.os (RT.int .i64) (.slice none 0 0) []]) (As := .pt f (.cells 0 [.slice none 0 0, d, c, b, a]) :: .oss (RO.os (RT.int .i64)) d g x :: .oss (RO.om RT.bool false) c i o :: .oss (RO.om (RT.int .i64) false) b j e :: .om (RT.int .i64) false a [] :: Rs) (us := ([(.slice none 0 0)] : List Value)) (ys := [[]]) a6 Z Z (.inl Z) Z T86 ti24 Z Z (Nat.le_of_ble_eq_true Z) Z (aC K aN) (fun p hp => all1 hp) (fun _ => (fun _ => (oc trivial ona))) (fun bz bs aE a7 => ?_)
  have H := a7.pick 2 Z
  obtain ⟨Y, ao, ai⟩ := bindS ah
  refine O.appendS H Z Z (.inl Z) Z l1 l0 T86 ti24 Z nle T86 ao (by simp) (fun J hs => (fun _ => (oc ol (oc ol one)))) (fun m bt aG q => ?_)
  refine mv Z (lk 10)<|uu Z (S.nilCheck Z l0)<|fa 2 Z l0 T90 Z ti87<|uD Z (S.load Z l0 T87 Z ((q.own (k := 1) Z).cell Z)) (oc (Or.inr (Or.inl ((q.own (k := 1) Z).get.trans (H.own (k := 2) Z).get.symm))) (ot (ot (onr (q.own (k := 1) Z).lt))))<|?_
  refine O.makeMap RT.bool false q Z Z (.inl Z) Z (fun _ => (fun _ => (oc trivial (oc trivial (oc trivial (oc trivial ona)))))) (fun I bu aH a8 => ?_)
  refine O.litS (RI := (RO.om RT.bool false)) (Bs := [.om RT.bool false I []]) (As := .oss (RO.os (RT.int .i64)) m (g ++ ([(.slice none 0 0)] : List Value)) Y :: .pt f (.cells 0 [.slice none 0 0, d, c, b, a]) :: .oss (RO.om RT.bool false) c i o :: .oss (RO.om (RT.int .i64) false) b j e :: .om (RT.int .i64) false a [] :: Rs) (us := ([I] : List Value)) (ys := [[]]) a8 Z Z (.inl Z) Z T87 ti91 Z Z (Nat.le_of_ble_eq_true Z) Z (aC (L 0 Z Z) aN) (fun p hp => all1 hp) (fun _ => (fun _ => (oc trivial (oc trivial (oc trivial (oc trivial (oc trivial ona))))))) (fun bA bv aI a9 => ?_)
  have Q := a9.pick 3 Z
  obtain ⟨bj, aq, aj⟩ := bindS ai
  refine O.appendS Q Z Z (.inl Z) Z l2 l0 T87 ti91 Z nle T87 aq (by simp) (fun J hs => (fun _ => (oc ol (oc ol (oc ol (oc Z (oc ol (oc ol one)))))))) (fun D bw aJ C => ?_)
  refine mv Z (lk 17)<|uu Z (S.nilCheck Z l0)<|fa 3 Z l0 T90 Z ti88<|uD Z (S.load Z l0 T88 Z ((C.own (k := 2) Z).cell Z)) (oc (Or.inr (Or.inl ((C.own (k := 2) Z).get.trans (Q.own (k := 3) Z).get.symm))) (ot (ot (ot (oc (Or.inr (Or.inl ((q.own (k := 1) Z).get.trans (H.own (k := 2) Z).get.symm))) (ot (ot (onr (C.own (k := 2) Z).lt))))))))<|?_
  refine O.makeMap (RT.int .i64) false C Z Z (.inl Z) Z (fun _ => (fun _ => (oc trivial (oc trivial (oc trivial (oc trivial (oc trivial (oc trivial (oc trivial (oc trivial ona)))))))))) (fun X bx aK ba => ?_)
  refine O.litS (RI := (RO.om (RT.int .i64) false)) (Bs := [.om (RT.int .i64) false X []]) (As := .oss (RO.om RT.bool false) D (i ++ ([I] : List Value)) bj :: .oss (RO.os (RT.int .i64)) m (g ++ ([(.slice none 0 0)] : List Value)) Y :: .pt f (.cells 0 [.slice none 0 0, d, c, b, a]) :: .oss (RO.om (RT.int .i64) false) b j e :: .om (RT.int .i64) false a [] :: Rs) (us := ([X] : List Value)) (ys := [[]]) ba Z Z (.inl Z) Z T88 ti84 Z Z (Nat.le_of_ble_eq_true Z) Z (aC (L 0 Z Z) aN) (fun p hp => all1 hp) (fun _ => (fun _ => (oc trivial (oc trivial (oc trivial (oc trivial (oc trivial (oc trivial (oc trivial (oc trivial (oc trivial ona))))))))))) (fun bB bl av aO => ?_)
  have aP := aO.pick 4 Z
  obtain ⟨bC, an, ac⟩ := bindS aj
  refine O.appendS aP Z Z (.inl Z) Z l2 l0 T88 ti84 Z nle T88 an (by simp) (fun J hs => (fun _ => (oc ol (oc ol (oc ol (oc Z (oc ol (oc ol (oc ol (oc Z (oc ol (oc ol one)))))))))))) (fun W bm aw z => ?_)
  refine uu Z (S.nilCheck Z (lk 22))<|fa 1 Z l0 T90 Z ti86<|?_
  refine O.store (k := 3) (cs := [m]) (c' := [.slice none 0 0, m, c, b, a]) z Z Z Z (.inl Z) Z l0 (lk 16) ti86 (z.ssne (k := 2) Z) (by rw [z.sscells (k := 2) rfl]) Z nle (by have w := (z.ssone (k := 2) Z); simp only [List.all_cons, List.all_nil, w]; rfl) Z (fun _ => (oc Z (oc ol (oc ol (oc ol (oc Z (oc ol (oc ol (oc ol (oc Z (oc ol (oc ol one)))))))))))) (fun bn ax A => ?_)
  refine uu Z (S.nilCheck Z (lk 23))<|fa 2 Z l0 T90 Z ti87<|?_
  refine O.store (k := 3) (cs := [D]) (c' := [.slice none 0 0, m, D, b, a]) A Z Z Z (.inl Z) Z l0 (lk 11) ti87 (A.ssne (k := 1) Z) (by rw [A.sscells (k := 1) rfl]) Z nle (by have w := (A.ssone (k := 1) Z); simp only [List.all_cons, List.all_nil, w]; rfl) Z (fun _ => (oc Z (oc Z (oc ol (oc ol (oc ol (oc Z (oc ol (oc ol (oc ol (oc Z (oc ol (oc ol one))))))))))))) (fun bo ay B => ?_)
  refine uu Z (S.nilCheck Z (lk 24))<|fa 3 Z l0 T90 Z ti88<|?_
  refine O.store (k := 3) (cs := [W]) (c' := [.slice none 0 0, m, D, W, a]) B Z Z Z (.inl Z) Z l0 l6 ti88 (B.ssne (k := 0) Z) (by rw [B.sscells (k := 0) rfl]) Z nle (by have w := (B.ssone (k := 0) Z); simp only [List.all_cons, List.all_nil, w]; rfl) Z (fun _ => (oc Z (oc Z (oc Z (oc ol (oc ol (oc ol (oc Z (oc ol (oc ol (oc ol (oc Z (oc ol (oc ol one)))))))))))))) (fun bp az aQ => ?_)
  refine dn<|blkN<|sqN<|rh<|uu Z (S.add Z (lk 32) K)<|mv Z l0<|dn<|sqN<|?_
  have aR := aQ.sel 5 [3, 2, 1, 0, 4]
  have ar := ((((((((((P.t aE).t aG).t aH).t aI).t aJ).t aK).t av).t aw).t ax).t ay).t az
  exact ⟨_, _, Z, ⟨aL, Nat.lt_succ_self _, _, _, _, _, _, _, _, _, _, _, Z, ar, aR, backS ac N⟩, allR⟩
 refine we<|sqE<|sqE<|blkE<|sqN<|?_
 have ae := exitS ad N
 refine rg<|mv Z l1<|ag Z l0<|dn<|wr<|?_
 have aS := G.nil RT_TStored
 have au := (aB.t aD).t P
 have aU := aS.sel 6 [1, 0, 2, 3, 4, 5]
 cases ae
 exact fS l0 ⟨_, Z, au, f, 0, (.slice none 0 0), d, g, c, i, b, j, a, Z, aU⟩
theorem wk_window_Window_MayFetch_c1 {V : Vw} {Rs : List At} {b : TSlot} {r : Bool} (h : window_Window_MayFetch_c1 b = some r) (gl : Glb V) (ow : Ow V (Rs)) : CT 29 #[.agg (C0 b).toArray] V fun v V' => v = .bool r ∧ Ow V' (Rs) := by
 refine Ct.of gl.lo Tryd.func29 Z nle ?_
 unfold window_Window_MayFetch_c1 at h
 refine rg<|?_
 refine O.box ow Z Z (.inl Z) Z l0 (by simp [topV]) Z nd (fun f e c a => ?_)
 refine ag Z K<|dn<|rg<|fa 2 Z l1 T67 Z ti56<|fa 2 Z l0 T56 Z ti3<|ld Z l0 T3 a 0<|uu Z (S.eqlI Z l0 K)<|ag Z l0<|dn<|wr<|?_
 have d := a.sel 1 []
 cases h
 exact fS l0 ⟨_, Z, c, Z, d⟩
theorem wk_slices_IndexFunc {V : Vw} {Rs : List At} {a : List TSlot} {d : Value} {r : Int} (h : slices_IndexFunc a = some r) (gl : Glb V) (ow : Ow V (.os RT_TSlot d a :: Rs)) : CT 64 #[d, .func (.func 29) #[] #[]] V fun v V' => v = .int .i64 r ∧ Ow V' (.os RT_TSlot d a :: Rs) := by
 refine Ct.of gl.lo Tryd.func64 Z nle ?_
 unfold slices_IndexFunc at h
 refine rg<|ag Z K<|dn<|ws<|rg<|mv Z l1<|uu Z (ow.oslen (k := 0) Z Z l0 T40)<|mv Z K<|dn<|wb<|?_
 unfold slices_IndexFunc_l1 at h
 obtain ⟨Y, hn4⟩ := loopO_some.1 h
 refine WP.loopI2 (fun n l V' => ∃ (g : Int), l = [(0, d), (1, .func (.func 29) #[] #[]), (7, .int .i64 (a.length : Int)), (8, .int .i64 g)] ∧ V.le V' ∧ Ow V' (.os RT_TSlot d a :: Rs) ∧ itO (fun s => slices_IndexFunc_l1b a s) n g = some r) Y _ ⟨0, Z, .refl _, ow, hn4⟩ (allCons l4 (allCons l5 (allCons l1 (allCons l0 allNil)))) ?_
 rintro _ _ q ⟨g, rfl, f, c, z⟩
 obtain ⟨X, aa, rfl, e, i⟩ := itS z
 replace e : slices_IndexFunc_l1b a g = some aa := e
 unfold slices_IndexFunc_l1b at e
 refine rg<|uu Z (S.lss Z l3 l2)<|dn<|ws<|?_
 refine cd l0 e (fun u A => ?_) (fun u G => ?_)
 ·refine wn<|sqN<|ws<|wb<|rg<|mv Z l4<|ag Z l0<|dn<|rg<|mv Z l4<|mv Z l4<|mv Z l2<|?_
  obtain ⟨p, b, B⟩ := bindS A
  obtain ⟨ac, ai, ah, ad, j⟩ := c.ospt (k := 0) Z b
  obtain ⟨_, N, _⟩ := c.osel (k := 0) Z j b
  refine uu Z (S.index Z ((lk 1).trans N) l0 T40 ti67 (ix_ge b) (ix_lt b))<|?_
  obtain ⟨x, af, ae, M, I⟩ := c.osel (k := 0) Z j b
  obtain rfl : x = (C0 p) := M
  refine uk Z (S.loadN (cs := (C0 p)) Z l0 T67 Z ti67 Z I)<|?_
  have y := gl.up f
  obtain ⟨ak, P, C⟩ := bindS B
  refine O.callv (V := q) Z Z (.inl Z) Z l4 en29 (aC l0 aN) (wk_window_Window_MayFetch_c1 P y c) (fun _ _ _ _ => nd) (fun aj ab m J => ?_)
  obtain ⟨rfl, o⟩ := J
  refine dn<|?_
  refine cd l0 C (fun w D => ?_) (fun w F => ?_)
  ·refine rg<|mv Z l6<|ag Z l0<|dn<|wr<|blkR<|sqR<|sqR<|blkR<|sqR<|?_
   have E := exitS D i
   have Q := f.t m
   obtain rfl := si E
   exact fS l0 ⟨_, Z, Q, Z, o⟩
  refine wn<|blkN<|sqN<|rh<|uu Z (S.add Z (lk 12) K)<|mv Z l0<|dn<|sqN<|?_
  have W := f.t m
  exact ⟨_, _, Z, ⟨X, Nat.lt_succ_self _, _, Z, W, o, backS F i⟩, allR⟩
 refine we<|sqE<|sqE<|blkE<|sqN<|?_
 have H := exitS G i
 refine rg<|ag Z K<|dn<|wr<|?_
 cases H
 exact fS l0 ⟨_, Z, f, Z, c⟩
theorem wk_slices_ContainsFunc {V : Vw} {Rs : List At} {a : List TSlot} {b : Value} {r : Bool} (h : slices_ContainsFunc a = some r) (gl : Glb V) (ow : Ow V (.os RT_TSlot b a :: Rs)) : CT 28 #[b, .func (.func 29) #[] #[]] V fun v V' => v = .bool r ∧ Ow V' (.os RT_TSlot b a :: Rs) := by
 refine Ct.of gl.lo Tryd.func28 Z nle ?_
 unfold slices_ContainsFunc at h
 refine rg<|ag Z K<|dn<|rg<|mv Z l1<|mv Z l3<|?_
 refine cb Z en64 (a2 l1 l0) h (wk_slices_IndexFunc · gl ow) ?_
 rintro i c g f d ⟨rfl, e⟩
 refine uu Z (S.geq Z l0 K)<|ag Z l0<|dn<|wr<|?_
 cases c
 exact fS l0 ⟨_, Z, d, Z, e⟩
theorem wk_isa_Writes {V : Vw} {Rs : List At} {b : TInst} {r : Int} (h : isa_Writes b = some r) (gl : Glb V) (ow : Ow V (Rs)) : CT 49 #[.agg (C2 b).toArray] V fun v V' => v = .int .i64 r ∧ Ow V' (Rs) := by
 refine Ct.of gl.lo Tryd.func49 Z nle ?_
 unfold isa_Writes at h
 refine rg<|?_
 refine O.box ow Z Z (.inl Z) Z l0 (by simp [topV]) Z nd (fun n G e a => ?_)
 refine ag Z K<|dn<|ws<|rg<|fa 0 Z l1 T56 Z ti3<|ld Z l0 T3 a 0<|dn<|wb<|?_
 refine WP.seqI (fun l V' => ∃ (m : Bool), l = [(1, .pointer (some ⟨n, 0, none⟩)), (4, .int .i64 b.op), (5, .bool m)] ∧ G.le V' ∧ Ow V' (.pt n (.cells 0 (C2 b)) :: Rs) ∧ isa_Writes_k1 b m = some r) ?_ ?_
 ·rintro _ H ⟨m, rfl, f, c, A⟩
  unfold isa_Writes_k1 at A
  refine cd l2 A (fun I N => ?_) (fun I P => ?_)
  ·refine rg<|fa 1 Z l0 T56 Z ti3<|ld Z l0 T3 c 0<|ag Z l0<|dn<|wr<|blkR<|sqR<|?_
   have ay := e.t f
   have aE := c.sel 1 []
   cases N
   exact fS l0 ⟨_, Z, ay, Z, aE⟩
  refine WP.seqI (fun l V' => ∃ (j : Bool), l = [(4, .int .i64 b.op), (16, .bool j)] ∧ H.le V' ∧ Ow V' (Rs) ∧ isa_Writes_k2 b j = some r) ?_ ?_
  ·rintro _ F ⟨j, rfl, g, i, B⟩
   unfold isa_Writes_k2 at B
   refine cd l1 B (fun J Q => ?_) (fun J W => ?_)
   ·refine rg<|ag Z K<|dn<|wr<|blkR<|sqR<|?_
    have az := (e.t f).t g
    obtain rfl := si Q
    exact fS l0 ⟨_, Z, az, Z, i⟩
   refine WP.seqI (fun l V' => ∃ (k : Bool), l = [(20, .bool k)] ∧ F.le V' ∧ Ow V' (Rs) ∧ isa_Writes_k3 k = some r) ?_ ?_
   ·rintro _ aJ ⟨k, rfl, D, E, C⟩
    unfold isa_Writes_k3 at C
    refine cd l0 C (fun M X => ?_) (fun M Y => ?_)
    ·refine rg<|ag Z K<|dn<|wr<|blkR<|sqR<|?_
     have aB := ((e.t f).t g).t D
     obtain rfl := si X
     exact fS l0 ⟨_, Z, aB, Z, E⟩
    refine wn<|blkN<|sqN<|rg<|ag Z K<|dn<|wr<|?_
    have aD := ((e.t f).t g).t D
    cases Y
    exact fS l0 ⟨_, Z, aD, Z, E⟩
   refine rg<|uu Z (S.eqlI Z l0 K)<|ag Z l0<|dn<|?_
   refine cd l0 W (fun o aa => ?_) (fun o ab => ?_)
   ·refine wn<|sqN<|?_
    exact ⟨_, _, Z, ⟨_, Z, (.refl _), i, aa⟩, (allCons (lb 0 o) allNil)⟩
   refine rh<|uu Z (S.eqlI Z l2 K)<|ag Z l0<|dn<|sqN<|?_
   exact ⟨_, _, Z, ⟨_, Z, (.refl _), i, ab⟩, allR⟩
  refine rg<|uu Z (S.eqlI Z l1 K)<|ag Z l0<|dn<|?_
  refine cd l0 P (fun p ac => ?_) (fun p ad => ?_)
  ·refine wn<|sqN<|?_
   have aG := c.sel 1 []
   exact ⟨_, _, Z, ⟨_, Z, (.refl _), aG, ac⟩, (allCons l3 (allCons (lb 0 p) allNil))⟩
  refine rg<|uu Z (S.eqlI Z l3 K)<|ag Z l0<|dn<|?_
  refine cd l0 ad (fun q ae => ?_) (fun q af => ?_)
  ·refine wn<|sqN<|?_
   have aH := c.sel 1 []
   exact ⟨_, _, Z, ⟨_, Z, (.refl _), aH, ae⟩, (allCons l5 (allCons (lb 0 q) allNil))⟩
  refine rh<|uu Z (S.eqlI Z l5 K)<|ag Z l0<|dn<|sqN<|?_
  have aI := c.sel 1 []
  exact ⟨_, _, Z, ⟨_, Z, (.refl _), aI, af⟩, allR⟩
 refine rg<|uu Z (S.eqlI Z l0 K)<|ag Z l0<|dn<|?_
 refine WP.cond _ l0 Z (fun d => ?_) (fun d => ?_)
 ·have ah := ifT d h
  refine wn<|sqN<|?_
  exact ⟨_, _, Z, ⟨_, Z, (.refl _), a, ah⟩, (allCons l5 (allCons l2 (allCons (lb 0 d) allNil)))⟩
 have ai := ifF d h
 refine rg<|uu Z (S.eqlI Z l2 K)<|ag Z l0<|dn<|?_
 refine cd l0 ai (fun s aj => ?_) (fun s ak => ?_)
 ·refine wn<|sqN<|?_
  exact ⟨_, _, Z, ⟨_, Z, (.refl _), a, aj⟩, (allCons l7 (allCons l4 (allCons (lb 0 s) allNil)))⟩
 refine rg<|uu Z (S.eqlI Z l4 K)<|ag Z l0<|dn<|?_
 refine cd l0 ak (fun u al => ?_) (fun u am => ?_)
 ·refine wn<|sqN<|?_
  exact ⟨_, _, Z, ⟨_, Z, (.refl _), a, al⟩, (allCons l9 (allCons l6 (allCons (lb 0 u) allNil)))⟩
 refine rg<|uu Z (S.eqlI Z l6 K)<|ag Z l0<|dn<|?_
 refine cd l0 am (fun w an => ?_) (fun w ao => ?_)
 ·refine wn<|sqN<|?_
  exact ⟨_, _, Z, ⟨_, Z, (.refl _), a, an⟩, (allCons (lk 11) (allCons l8 (allCons (lb 0 w) allNil)))⟩
 refine rg<|uu Z (S.eqlI Z l8 K)<|ag Z l0<|dn<|?_
 refine cd l0 ao (fun x aq => ?_) (fun x ar => ?_)
 ·refine wn<|sqN<|?_
  exact ⟨_, _, Z, ⟨_, Z, (.refl _), a, aq⟩, (allCons (lk 13) (allCons (lk 10) (allCons (lb 0 x) allNil)))⟩
 refine rg<|uu Z (S.eqlI Z (lk 10) K)<|ag Z l0<|dn<|?_
 refine cd l0 ar (fun y au => ?_) (fun y av => ?_)
 ·refine wn<|sqN<|?_
  exact ⟨_, _, Z, ⟨_, Z, (.refl _), a, au⟩, (allCons (lk 15) (allCons (lk 12) (allCons (lb 0 y) allNil)))⟩
 refine rg<|uu Z (S.eqlI Z (lk 12) K)<|ag Z l0<|dn<|?_
 refine cd l0 av (fun z aw => ?_) (fun z ax => ?_)
 ·refine wn<|sqN<|?_
  exact ⟨_, _, Z, ⟨_, Z, (.refl _), a, aw⟩, (allCons (lk 17) (allCons (lk 14) (allCons (lb 0 z) allNil)))⟩
 refine rh<|uu Z (S.eqlI Z (lk 14) K)<|ag Z l0<|dn<|sqN<|?_
 exact ⟨_, _, Z, ⟨_, Z, (.refl _), a, ax⟩, allR⟩
theorem wk_window_result {V : Vw} {Rs : List At} {d : TSlot} {r : Int} (h : window_result d = some r) (gl : Glb V) (ow : Ow V (Rs)) : CT 50 #[.agg (C0 d).toArray] V fun v V' => v = .int .i64 r ∧ Ow V' (Rs) := by
 refine Ct.of gl.lo Tryd.func50 Z nle ?_
 unfold window_result at h
 refine rg<|?_
 refine O.box ow Z Z (.inl Z) Z l0 (by simp [topV]) Z nd (fun o n c a => ?_)
 refine ag Z K<|dn<|ws<|rg<|fa 2 Z l1 T67 Z ti56<|fa 2 Z l0 T56 Z ti3<|ld Z l0 T3 a 0<|uu Z (S.neqI Z l0 K)<|dn<|?_
 refine WP.cond _ l0 Z (fun b => ?_) (fun b => ?_)
 ·have i := ifT b h
  refine rg<|fa 14 Z l5 T67 Z ti3<|ld Z l0 T3 a 0<|ag Z l0<|dn<|wr<|sqR<|?_
  have m := a.sel 1 []
  cases i
  exact fS l0 ⟨_, Z, c, Z, m⟩
 have j := ifF b h
 refine wn<|sqN<|ws<|rg<|fa 17 Z l5 T67 Z ti3<|ld Z l0 T3 a 0<|uu Z (S.gtr Z l0 K)<|dn<|?_
 refine cd l0 j (fun e f => ?_) (fun e g => ?_)
 ·refine rg<|ag Z K<|dn<|wr<|sqR<|?_
  have k := a.sel 1 []
  obtain rfl := si f
  exact fS l0 ⟨_, Z, c, Z, k⟩
 refine wn<|sqN<|rg<|ag Z K<|dn<|wr<|?_
 have l := a.sel 1 []
 obtain rfl := si g
 exact fS l0 ⟨_, Z, c, Z, l⟩
theorem wk_window_Window_reg {V : Vw} {Rs : List At} {b : Twindow_Window} {H u : Int} {e B : Nat} {j m o y z : Value} {r : Int × Bool} (h : window_Window_reg b H u = some r) (gl : Glb V) (a9 : Fz (RT.int .u32) V j b.img.code) (ba : Fz RT_TNote V m b.img.notes) (bb : Fz (RT.int .i64) V o b.img.threads) (ow : Ow V (WA e B j m o y z b Rs)) : CT 31 #[.pointer (some ⟨e, 0, none⟩), .int .i64 H, .int .i64 u] V fun v V' => v = .tuple #[.int .i64 r.1, .bool r.2] ∧ Ow V' (WA e B j m o y z b Rs) := by
 refine Ct.of gl.lo Tryd.func31 Z nle ?_
 unfold window_Window_reg at h
 refine rg<|ag Z K<|ag Z K<|dn<|ws<|rg<|mv Z l3<|uu Z (S.sub Z l0 K)<|ag Z l0<|dn<|wb<|?_
 unfold window_Window_reg_l1 at h
 obtain ⟨aM, hn15⟩ := loopO_some.1 h
 refine WP.loopI2 (fun n l V' => ∃ (A : Int), l = [(0, .pointer (some ⟨e, 0, none⟩)), (2, .int .i64 u), (8, .int .i64 A)] ∧ V.le V' ∧ Ow V' (WA e B j m o y z b Rs) ∧ itO (fun s => window_Window_reg_l1b b u s) n A = some r) aM _ ⟨w64 (H - 1), Z, .refl _, ow, hn15⟩ (allCons l5 (allCons l7 (allCons l0 allNil))) ?_
 rintro _ _ aX ⟨A, rfl, X, d, ah⟩
 obtain ⟨aL, aa, rfl, w, C⟩ := itS ah
 replace w : window_Window_reg_l1b b u A = some aa := w
 unfold window_Window_reg_l1b at w
 refine ws<|rg<|mv Z l2<|uu Z (S.geq Z l0 K)<|dn<|?_
 refine cd l0 w (fun ac ai => ?_) (fun ac aw => ?_)
 ·refine wn<|sqN<|ws<|wb<|rg<|mv Z l2<|uu Z (S.nilCheck Z l0)<|fa 38 Z l0 T54 Z ti40<|ld Z l0 T40 d 0<|mv Z l8<|?_
  obtain ⟨I, p, aj⟩ := bindS ai
  obtain ⟨a6, bh, bg, a8, W⟩ := d.ospt (k := 1) Z p
  obtain ⟨_, aD, _⟩ := d.osel (k := 1) Z W p
  refine uu Z (S.index Z ((lk 1).trans aD) l0 T40 ti67 (ix_ge p) (ix_lt p))<|?_
  obtain ⟨ae, bf, be, aB, az⟩ := d.osel (k := 1) Z W p
  obtain rfl : ae = (C0 I) := aB
  refine uk Z (S.loadN (cs := (C0 I)) Z l0 T67 Z ti67 Z az)<|?_
  refine O.alloc d Z Z (.inl Z) Z ti67 Z Z nd (fun a7 aY aI aO => ?_)
  refine st 0 aO Z l0 l1 ti67 (fun aZ aJ Y => ?_)
  refine dn<|rg<|fa 2 Z l0 T67 Z ti56<|uk Z (S.loadN (cs := (C2 I.i)) Z l0 T56 Z ti56 Z (cellsOfOwn (Y.own (k := 0) Z) 2 Z))<|?_
  have F := (X.t aI).t aJ
  have P := gl.up F
  refine cb Z en49 (a1 l0) aj (wk_isa_Writes · P Y) ?_
  rintro bj ak bi N G ⟨rfl, q⟩
  refine mv Z (lk 14)<|uu Z (S.eqlI Z l1 l0)<|dn<|?_
  refine cd l0 ak (fun ad al => ?_) (fun ad av => ?_)
  ·refine WP.seqI (fun l V' => ∃ (J : Int) (M : Bool), l = [(6, .int .i64 J), (7, .bool M)] ∧ N.le V' ∧ Ow V' (WA e B j m o y z b Rs) ∧ window_Window_reg_k1 J M = some aa) ?_ ?_
   ·rintro _ a0 ⟨J, M, rfl, aK, aP, Q⟩
    unfold window_Window_reg_k1 at Q
    refine wr<|blkR<|sqR<|sqR<|blkR<|sqR<|?_
    have am := exitS Q C
    have aG := (F.t G).t aK
    cases am
    exact fM (fsC l0 (fsC l1 fsN)) Z ⟨_, Z, aG, Z, aP⟩
   refine WP.udreg Z Z Z ?_
   refine uD Z (S.loadB Z l5 T67 Z ti67 (q.own (k := 0) Z).get Z) (onr (q.own (k := 0) Z).lt)<|?_
   have af := P.up G
   obtain ⟨bk, aE, an⟩ := bindS al
   refine O.call (V := N) Z Z (.inl Z) Z en50 (aC l0 aN) (wk_window_result aE af q) (fun aW ab x D => by obtain ⟨rfl, c⟩ := D; exact (fun _ => (oc ol one))) (fun aW ab x D => ?_)
   obtain ⟨rfl, c⟩ := D
   refine fa 12 Z l7 T67 Z ti4<|uD Z (S.load Z l0 T4 Z ((c.own (k := 0) Z).cell Z)) (oc (Or.inr (Or.inl ((c.own (k := 0) Z).get.trans (q.own (k := 0) Z).get.symm))) (ot (onr (c.own (k := 0) Z).lt)))<|mv Z l0<|?_
   refine gi l0 an (fun a ao => ?_) fun a aq => ?_
   ·refine fg Z Z (lb 0 a) (lk 10) T67 Z ti56<|fg Z Z (lb 1 a) l0 T56 Z ti3<|kD Z Z (lb 2 a) (S.load Z l0 T3 Z ((c.own (k := 0) Z).cell Z)) (ot (oi (ot (onr (c.own (k := 0) Z).lt))))<|ug Z Z (lb 3 a) (S.neqI Z l0 K)<|ug Z Z (lb 4 a) (S.move Z l0)<|?_
    refine gi l0 ao (fun g ar => ?_) fun g au => ?_
    ·refine uxs 2 39 Z Z (lb 0 g)<|ug Z Z (lb 7 a) (S.pickT Z (lb 2 g) K)<|uu Z (S.pickT Z (lb 8 a) l0)<|ag Z (lk 12)<|ag Z l1<|dn<|sqN<|?_
     have aQ := c.sel 4 [1, 2, 3]
     exact ⟨_, _, Z, ⟨_, _, Z, x, aQ, ar⟩, allR⟩
    refine fg Z Z (lb 0 g) (lk 15) T67 Z ti4<|kD Z Z (lb 1 g) (S.load Z l0 T4 Z ((c.own (k := 0) Z).cell Z)) (ot (ot (oi (ot (onr (c.own (k := 0) Z).lt)))))<|ug Z Z (lb 7 a) (S.pickF Z (lb 2 g) l0)<|uu Z (S.pickT Z (lb 8 a) l0)<|ag Z (lk 12)<|ag Z l1<|dn<|sqN<|?_
    have aR := c.sel 4 [1, 2, 3]
    exact ⟨_, _, Z, ⟨_, _, Z, x, aR, au⟩, allR⟩
   refine uxs 5 37 Z Z (lb 0 a)<|uz Z Z l0<|uz Z Z l1<|ux Z Z (lb 7 a)<|uu Z (S.pickF Z (lb 8 a) K)<|ag Z (lk 12)<|ag Z l1<|dn<|sqN<|?_
   have aS := c.sel 4 [1, 2, 3]
   exact ⟨_, _, Z, ⟨_, _, Z, x, aS, aq⟩, allR⟩
  refine wn<|blkN<|sqN<|rh<|mv Z (lk 17)<|uu Z (S.sub Z l0 K)<|ag Z l0<|dn<|sqN<|?_
  have aU := q.sel 4 [1, 2, 3]
  have aH := F.t G
  exact ⟨_, _, Z, ⟨aL, Nat.lt_succ_self _, _, Z, aH, aU, backS av C⟩, allR⟩
 refine we<|sqE<|sqE<|blkE<|sqN<|?_
 have ax := exitS aw C
 refine rg<|mv Z l2<|mv Z l4<|uu Z (S.nilCheck Z l1)<|fa 4 Z l0 T54 Z ti52<|?_
 obtain ⟨bl, E, ay⟩ := bindS ax
 refine uu Z (S.indexA Z l0 l2 T52 ti3 (inA_ge E) (inA_lt E))<|uk Z (S.load Z l0 T3 Z ((d.own (k := 0) Z).cell (arrG (pre := [j, m, o, .int .i64 b.t]) (f := b.regs) E Z)))<|ag Z l0<|ag Z K<|dn<|wr<|?_
 cases ay
 exact fM (fsC l1 (fsC l0 fsN)) Z ⟨_, Z, X, Z, d⟩
theorem wk_window_Window_MayFetch {V : Vw} {Rs : List At} {d : Twindow_Window} {g D : Nat} {o p q A B : Value} {r : Bool} (h : window_Window_MayFetch d = some r) (gl : Glb V) (s : Fz (RT.int .u32) V o d.img.code) (ac : Fz RT_TNote V p d.img.notes) (ad : Fz (RT.int .i64) V q d.img.threads) (ow : Ow V (WA g D o p q A B d Rs)) : CT 8 #[.pointer (some ⟨g, 0, none⟩)] V fun v V' => v = .bool r ∧ Ow V' (WA g D o p q A B d Rs) := by
 refine Ct.of gl.lo Tryd.func8 Z nle ?_
 unfold window_Window_MayFetch at h
 refine rg<|ag Z K<|dn<|ws<|?_
 refine WP.seqI (fun l V' => ∃ (C : Bool), l = [(0, .pointer (some ⟨g, 0, none⟩)), (42, .bool C)] ∧ V.le V' ∧ Ow V' (WA g D o p q A B d Rs) ∧ window_Window_MayFetch_k1 d C = some r) ?_ ?_
 ·rintro _ aX ⟨C, rfl, e, z, H⟩
  unfold window_Window_MayFetch_k1 at H
  refine cd l1 H (fun P af => ?_) (fun P ah => ?_)
  ·refine rg<|ag Z K<|dn<|wr<|sqR<|?_
   obtain rfl := si af
   exact fS l0 ⟨_, Z, e, Z, z⟩
  refine wn<|sqN<|ws<|rg<|mv Z l0<|uu Z (S.nilCheck Z l0)<|fa 38 Z l0 T54 Z ti40<|ld Z l0 T40 z 0<|?_
  have aL := z.sel 3 [1, 0, 2]
  have F := gl.up e
  refine cb Z en28 (a2 l0 Fu) ah (wk_slices_ContainsFunc · F aL) ?_
  rintro be ai ba E f ⟨rfl, n⟩
  refine dn<|?_
  refine cd l0 ai (fun Q aj => ?_) (fun Q ak => ?_)
  ·refine rg<|ag Z K<|dn<|wr<|sqR<|?_
   have aG := e.t f
   have aM := n.sel 3 [1, 0, 2]
   obtain rfl := si aj
   exact fS l0 ⟨_, Z, aG, Z, aM⟩
  refine wn<|sqN<|ws<|?_
  refine WP.usdreg Z Z Z ?_
  refine mv Z l5<|uu Z (S.nilCheck Z l0)<|fa 0 Z l0 T54 Z ti26<|fa 0 Z l0 T26 Z ti22<|lD Z l0 T22 n 1 onr<|mv Z (lk 10)<|uu Z (S.nilCheck Z l0)<|fa 39 Z l0 T54 Z ti3<|lD Z l0 T3 n 1 (ot<|onr ·)<|?_
  obtain ⟨aW, w, al⟩ := bindS ak
  obtain ⟨a6, a9, a8, X, aD, I, aB, az⟩ := s.at w
  obtain rfl : X = [.int .u32 aW] := aB
  refine uu Z (S.index Z ((lk 4).trans aD) l0 T22 ti59 (ix_ge w) (ix_lt w))<|uD Z (S.load Z l0 T59 Z ((e.trans f).cell I (az 0 _ Z))) (ot (ot (onr (E.wf _ ((e.trans f).sub _ I)))))<|?_
  have G := F.up f
  obtain ⟨M, aE, am⟩ := bindS al
  refine O.call (V := E) Z Z (.inl Z) Z en30 (aC l0 aN) (wk_isa_Decode aE G n) (fun aU N m u => by obtain ⟨rfl, J⟩ := u; exact (fun _ => (oc ol (oc ol (oc ol one))))) (fun aU N m u => ?_)
  obtain ⟨rfl, J⟩ := u
  refine mv Z l0<|uu Z (S.extract Z l0 Z nle)<|uu Z (S.extract Z l1 Z nle)<|?_
  refine O.alloc J Z Z (.inl Z) Z ti56 Z Z (fun _ => (oc trivial (oc trivial (oc trivial (oc trivial ona))))) (fun a7 aY x aO => ?_)
  refine O.store (k := 0) (cs := (C2 M.1)) (c' := (C2 M.1)) aO Z Z Z (.inl Z) Z l0 l2 ti56 (by simp [topV]) Z Z nle Z Z (fun _ => (oc ol (oc Z (oc ol (oc ol (oc ol one)))))) (fun aZ y i => ?_)
  refine ag Z l1<|dn<|rg<|fa 0 Z l1 T56 Z ti3<|ld Z l0 T3 i 0<|uu Z (S.eqlI Z l0 K)<|dn<|?_
  refine cd l0 am (fun W an => ?_) (fun W aq => ?_)
  ·refine rg<|mv Z (lk 25)<|mv Z (lk 26)<|uu Z (S.nilCheck Z l0)<|fa 38 Z l0 T54 Z ti40<|ld Z l0 T40 i 2<|uu Z (i.oslen (k := 1) Z Z l0 T40)<|?_
   have j := (((e.t f).t m).t x).t y
   have Y := s.up j
   have aa := ac.up j
   have ab := ad.up j
   have aP := i.sel 4 [2, 1, 3, 0]
   have aH := (m.t x).t y
   have ae := G.up aH
   refine cb Z en31 (a3 l5 l0 K) an (wk_window_Window_reg · ae Y aa ab aP) ?_
   rintro bf ao bb a0 aK ⟨rfl, aQ⟩
   refine mv Z l0<|uu Z (S.extract Z l0 Z nle)<|uu Z (S.extract Z l1 Z nle)<|ag Z l1<|ag Z l1<|dn<|rg<|mv Z l0<|ag Z l0<|dn<|wr<|sqR<|?_
   have aI := j.t aK
   have aR := aQ.sel 4 [0, 1, 2]
   cases ao
   exact fS l0 ⟨_, Z, aI, Z, aR⟩
  refine wn<|sqN<|rg<|ag Z K<|dn<|wr<|?_
  have aJ := (((e.t f).t m).t x).t y
  have aS := i.sel 4 [2, 1, 3]
  obtain rfl := si aq
  exact fS l0 ⟨_, Z, aJ, Z, aS⟩
 refine WP.udreg Z Z Z ?_
 refine mv Z l1<|uu Z (S.nilP Z (.inl Z) l0 K T30)<|mv Z l0<|ug Z Z l0 (S.move Z l4)<|ug Z Z l1 (S.nilCheck Z l0)<|fg Z Z l2 l0 T54 Z ti4<|kD Z Z l3 (S.load Z l0 T4 Z ((ow.own (k := 0) Z).cell Z)) (onr (ow.own (k := 0) Z).lt)<|uu Z (S.pickF Z l4 l0)<|mv Z l0<|?_
 refine gi l0 h (fun b ar => ?_) fun b au => ?_
 ·refine uxs 6 21 Z Z (lb 0 b)<|uu Z (S.pickT Z (lb 6 b) K)<|mv Z l0<|ux Z Z l0<|ux Z Z l1<|ux Z Z l2<|ux Z Z l3<|ux Z Z l4<|uu Z (S.pickT Z l5 K)<|mv Z l0<|ux Z Z l0<|ux Z Z l1<|ux Z Z l2<|ux Z Z l3<|ux Z Z l4<|ux Z Z l5<|ux Z Z l6<|ux Z Z l7<|ux Z Z l8<|?_
  refine ux Z Z l9<|ux Z Z (lk 10)<|uu Z (S.pickT Z (lk 11) K)<|dn<|sqN<|?_
  exact ⟨_, _, Z, ⟨_, Z, (.refl _), ow, ar⟩, allR⟩
 refine ug Z Z (lb 0 b) (S.move Z (lk 10))<|ug Z Z (lb 1 b) (S.nilCheck Z l0)<|fg Z Z (lb 2 b) l0 T54 Z ti40<|kD Z Z (lb 3 b) (S.load Z l0 T40 Z ((ow.own (k := 0) Z).cell Z)) (ot (onr (ow.own (k := 0) Z).lt))<|ug Z Z (lb 4 b) (ow.oslen (k := 1) Z Z l0 T40)<|ug Z Z (lb 5 b) (S.geq Z l0 K)<|uu Z (S.pickF Z (lb 6 b) l0)<|mv Z l0<|?_
 refine gi l0 au (fun c av => ?_) fun c aw => ?_
 ·refine uxs 5 28 Z Z (lb 0 c)<|uu Z (S.pickT Z (lb 5 c) K)<|mv Z l0<|ux Z Z l0<|ux Z Z l1<|ux Z Z l2<|ux Z Z l3<|ux Z Z l4<|ux Z Z l5<|ux Z Z l6<|ux Z Z l7<|ux Z Z l8<|ux Z Z l9<|ux Z Z (lk 10)<|uu Z (S.pickT Z (lk 11) K)<|dn<|sqN<|?_
  exact ⟨_, _, Z, ⟨_, Z, (.refl _), ow, av⟩, allR⟩
 refine ug Z Z (lb 0 c) (S.move Z (lk 18))<|ug Z Z (lb 1 c) (S.nilCheck Z l0)<|fg Z Z (lb 2 c) l0 T54 Z ti3<|kD Z Z (lb 3 c) (S.load Z l0 T3 Z ((ow.own (k := 0) Z).cell Z)) (ot (ot (onr (ow.own (k := 0) Z).lt)))<|ug Z Z (lb 4 c) (S.lss Z l0 K)<|uu Z (S.pickF Z (lb 5 c) l0)<|mv Z l0<|?_
 refine gi l0 aw (fun a ax => ?_) fun a ay => ?_
 ·refine uxs 11 41 Z Z (lb 0 a)<|uu Z (S.pickT Z (lb 11 a) K)<|dn<|sqN<|?_
  exact ⟨_, _, Z, ⟨_, Z, (.refl _), ow, ax⟩, allR⟩
 refine ug Z Z (lb 0 a) (S.move Z (lk 25))<|ug Z Z (lb 1 a) (S.nilCheck Z l0)<|fg Z Z (lb 2 a) l0 T54 Z ti3<|kD Z Z (lb 3 a) (S.load Z l0 T3 Z ((ow.own (k := 0) Z).cell Z)) (ot (ot (ot (onr (ow.own (k := 0) Z).lt))))<|ug Z Z (lb 4 a) (S.move Z (lk 29))<|ug Z Z (lb 5 a) (S.nilCheck Z l0)<|fg Z Z (lb 6 a) l0 T54 Z ti26<|fg Z Z (lb 7 a) l0 T26 Z ti22<|kD Z Z (lb 8 a) (S.load Z l0 T22 Z ((ow.own (k := 0) Z).cell Z)) (ot (ot (ot (ot (onr (ow.own (k := 0) Z).lt)))))<|ug Z Z (lb 9 a) (s.1.len Z l0 T22)<|ug Z Z (lb 10 a) (S.geq Z l6 l0)<|uu Z (S.pickF Z (lb 11 a) l0)<|dn<|sqN<|?_
 exact ⟨_, _, Z, ⟨_, Z, (.refl _), ow, ay⟩, allR⟩
theorem wk_window_Window_Fetch {V : Vw} {Rs : List At} {c : Twindow_Window} {az : Bool} {n N : Nat} {p q s w o : Value} {r : Int × Twindow_Window} (h : window_Window_Fetch c az = some r) (gl : Glb V) (x : Fz (RT.int .u32) V p c.img.code) (y : Fz RT_TNote V q c.img.notes) (D : Fz (RT.int .i64) V s c.img.threads) (ow : Ow V (WA n N p q s w o c Rs)) : CT 16 #[.pointer (some ⟨n, 0, none⟩), .bool az] V fun v V' => ∃ (aB : Value) (aD : Value) (aE : Value) (cv : Value), v = .int .i64 r.1 ∧ Fz (RT.int .u32) V' aB r.2.img.code ∧ Fz RT_TNote V' aD r.2.img.notes ∧ Fz (RT.int .i64) V' aE r.2.img.threads ∧ Ow V' (WA n N aB aD aE cv o r.2 Rs) := by
 refine Ct.of gl.lo Tryd.func16 Z nle ?_
 unfold window_Window_Fetch at h
 refine rg<|ag Z K<|dn<|ws<|wb<|rg<|mv Z l1<|uu Z (S.nilP Z (.inl Z) l0 K T30)<|ag Z l0<|dn<|?_
 refine WP.cond false l0 Z (fun h => by cases h) (fun _ => ?_)
 refine rg<|mv Z l4<|?_
 refine cb Z en8 (a1 l0) h (wk_window_Window_MayFetch · gl x y D ow) ?_
 rintro aG bv c2 af i ⟨rfl, G⟩
 refine uu Z (S.not Z l0)<|ag Z l0<|dn<|?_
 refine cd l0 bv (fun P bw => ?_) (fun P bx => ?_)
 ·have cX : aG = false := nT P
  refine rg<|ag Z K<|dn<|wr<|blkR<|sqR<|?_
  have a0 := x.up i
  have a6 := y.up i
  have a7 := D.up i
  cases bw
  exact fS l0 ⟨_, Z, i, p, q, s, w, Z, a0, a6, a7, G⟩
 have cY : aG = true := nF P
 refine wn<|blkN<|sqN<|?_
 refine WP.usdreg Z Z Z ?_
 refine mv Z l8<|uu Z (S.nilCheck Z l0)<|fa 0 Z l0 T54 Z ti26<|fa 0 Z l0 T26 Z ti22<|lD Z l0 T22 G 0 onr<|mv Z (lk 13)<|uu Z (S.nilCheck Z l0)<|fa 39 Z l0 T54 Z ti3<|lD Z l0 T3 G 0 (ot<|onr ·)<|?_
 obtain ⟨cx, W, bz⟩ := bindS bx
 obtain ⟨cS, cZ, cV, aQ, bG, ao, bE, bC⟩ := x.at W
 obtain rfl : aQ = [.int .u32 cx] := bE
 refine uu Z (S.index Z ((lk 4).trans bG) l0 T22 ti59 (ix_ge W) (ix_lt W))<|uD Z (S.load Z l0 T59 Z (i.cell ao (bC 0 _ Z))) (ot (ot (onr (af.wf _ (i.sub _ ao)))))<|?_
 have al := gl.up i
 obtain ⟨e, bJ, bA⟩ := bindS bz
 refine O.call (V := af) Z Z (.inl Z) Z en30 (aC l0 aN) (wk_isa_Decode bJ al G) (fun cw aH u Q => by obtain ⟨rfl, aw⟩ := Q; exact (fun _ => (oc ol (oc ol (oc ol one))))) (fun cw aH u Q => ?_)
 obtain ⟨rfl, aw⟩ := Q
 refine mv Z l0<|uu Z (S.extract Z l0 Z nle)<|uu Z (S.extract Z l1 Z nle)<|?_
 refine O.alloc aw Z Z (.inl Z) Z ti56 Z Z (fun _ => (oc trivial (oc trivial (oc trivial (oc trivial ona))))) (fun cT cN z cr => ?_)
 refine O.store (k := 0) (cs := (C2 e.1)) (c' := (C2 e.1)) cr Z Z Z (.inl Z) Z l0 l2 ti56 (by simp [topV]) Z Z nle Z Z (fun _ => (oc ol (oc Z (oc ol (oc ol (oc ol one)))))) (fun cO A ax => ?_)
 refine ag Z l1<|dn<|rg<|mv Z (lk 25)<|uu Z (S.nilCheck Z l0)<|fa 40 Z l0 T54 Z ti3<|ld Z l0 T3 ax 1<|uu Z (S.add Z l0 K)<|uu Z (S.nilCheck Z l4)<|fa 40 Z l0 T54 Z ti3<|?_
 refine st 1 ax Z l0 l2 ti3 (fun aI B m => ?_)
 refine dn<|?_
 refine WP.usdreg Z Z Z ?_
 refine mv Z (lk 32)<|uu Z (S.nilCheck Z l0)<|fa 40 Z l0 T54 Z ti3<|lD Z l0 T3 m 1 onr<|mv Z (lk 36)<|uu Z (S.nilCheck Z l0)<|fa 39 Z l0 T54 Z ti3<|lD Z l0 T3 m 1 (ot<|onr ·)<|uD Z (S.loadB Z (lk 16) T56 Z ti56 (m.own (k := 0) Z).get Z) (ot (ot (onr (m.own (k := 0) Z).lt)))<|mv Z (lk 41)<|uu Z (S.nilCheck Z l0)<|fa 0 Z l0 T54 Z ti26<|fa 1 Z l0 T26 Z ti23<|lD Z l0 T23 m 1 (ot<|ot<|ot<|onr ·)<|mv Z (lk 46)<|uu Z (S.nilCheck Z l0)<|fa 39 Z l0 T54 Z ti3<|lD Z l0 T3 m 1 (ot<|ot<|ot<|ot<|onr ·)<|?_
 obtain ⟨f, X, bB⟩ := bindS bA
 obtain ⟨cU, c0, cW, aR, bH, aq, bF, bD⟩ := y.at X
 obtain rfl : aR = (C3 f) := bF
 refine uu Z (S.index Z ((lk 4).trans bH) l0 T23 ti61 (ix_ge X) (ix_lt X))<|uD Z (S.loadN (cs := (C3 f)) Z l0 T61 Z ti61 Z (fun j v hj => ((((i.trans u).trans z).trans A).trans B).cell aq (bD j v hj))) (ot (ot (ot (ot (ot (onr (aI.wf _ (((((i.trans u).trans z).trans A).trans B).sub _ aq))))))))<|mv Z (lk 52)<|uu Z (S.nilCheck Z l0)<|fa 39 Z l0 T54 Z ti3<|lD Z l0 T3 m 1 (ot<|ot<|ot<|ot<|ot<|ot<|onr ·)<|uu Z (S.add Z l0 K)<|uu (v := .agg #[.int .i64 (w64 (c.seq + 1)), .int .i64 c.pc, .int .i64 e.1.op, .int .i64 e.1.d, .int .i64 e.1.a, .int .i64 e.1.b, .int .i64 e.1.imm, .int .i64 f.role, .int .i64 f.what, .bool f.volatile, .bool f.final, .int .i64 (w64 (c.pc + 1)), .bool false, .bool false, .int .i64 0, .int .i64 0, .int .i64 0, .int .i64 0]) Z (S.build (vs := [.int .i64 (w64 (c.seq + 1)), .int .i64 c.pc, .agg (C2 e.1).toArray, .agg (C3 f).toArray, .int .i64 (w64 (c.pc + 1))]) Z ti67 Z pl67 (aC (lk 21) (aC (lk 17) (aC (lk 16) (aC l5 (aC l0 aN))))) (allC (by simp [topV]) (allC (by simp [topV]) (allC (by simp [topV]) (allC (by simp [topV]) (allC (by simp [topV]) allN))))) (fill1 Z Z nle (fill1 Z Z nle (fillA (ws := (C2 e.1)) Z Z Z nle (fillA (ws := (C3 f)) Z Z Z nle (fill1 Z Z nle Z))))))<|?_
 refine O.alloc m Z Z (.inl Z) Z ti67 Z Z (fun _ => (oc trivial (oc trivial (oc trivial (oc trivial (oc trivial (oc trivial (oc trivial ona)))))))) (fun C cP aa ct => ?_)
 refine O.store (k := 0) (cs := [.int .i64 (w64 (c.seq + 1)), .int .i64 c.pc, .int .i64 e.1.op, .int .i64 e.1.d, .int .i64 e.1.a, .int .i64 e.1.b, .int .i64 e.1.imm, .int .i64 f.role, .int .i64 f.what, .bool f.volatile, .bool f.final, .int .i64 (w64 (c.pc + 1)), .bool false, .bool false, .int .i64 0, .int .i64 0, .int .i64 0, .int .i64 0]) (c' := [.int .i64 (w64 (c.seq + 1)), .int .i64 c.pc, .int .i64 e.1.op, .int .i64 e.1.d, .int .i64 e.1.a, .int .i64 e.1.b, .int .i64 e.1.imm, .int .i64 f.role, .int .i64 f.what, .bool f.volatile, .bool f.final, .int .i64 (w64 (c.pc + 1)), .bool false, .bool false, .int .i64 0, .int .i64 0, .int .i64 0, .int .i64 0]) ct Z Z Z (.inl Z) Z l0 l1 ti67 (by simp [topV]) Z Z nle Z Z (fun _ => (oc ol (oc ol (oc ol (oc ol (oc ol (oc ol (oc ol (oc ol one))))))))) (fun ah ab g => ?_)
 refine dn<|?_
 refine WP.seqI (fun l V' => ∃ (I : Int) (J : Bool) (M : Int), l = [(0, .pointer (some ⟨n, 0, none⟩)), (7, .pointer (some ⟨C, 0, none⟩))] ∧ ah.le V' ∧ Ow V' (.pt n (.cells N (p :: q :: s :: .int .i64 c.t :: rg34 c.regs [w, .int .i64 c.pc, .int .i64 (w64 (c.seq + 1)), .bool c.ended, .bool c.held, .int .i64 c.at_, .int .i64 c.from_, o])) :: .os RT_TSlot w c.slots :: .os RT_TSlot o c.log :: .pt C (.cells 18 [.int .i64 (w64 (c.seq + 1)), .int .i64 c.pc, .int .i64 e.1.op, .int .i64 e.1.d, .int .i64 e.1.a, .int .i64 e.1.b, .int .i64 e.1.imm, .int .i64 f.role, .int .i64 f.what, .bool f.volatile, .bool f.final, .int .i64 I, .bool J, .bool false, .int .i64 M, .int .i64 0, .int .i64 0, .int .i64 0]) :: Rs) ∧ window_Window_Fetch_k1 c e f I J M = some r) ?_ ?_
 ·rintro _ cQ ⟨I, J, M, rfl, b2, H, an⟩
  unfold window_Window_Fetch_k1 at an
  refine WP.usdreg Z Z Z ?_
  refine mv Z l0<|mv Z l1<|uu Z (S.nilCheck Z l0)<|fa 38 Z l0 T54 Z ti40<|lD Z l0 T40 H 0 onr<|uD Z (S.loadB Z l6 T67 Z ti67 (H.own (k := 3) Z).get Z) (ot (onr (H.own (k := 3) Z).lt))<|?_
  refine O.lit (R := RT_TSlot) H Z Z (.inl Z) Z T40 ti67 Z Z Z (nr Z) Z (aC (L 0 Z Z) aN) (.cons _ _ (⟨w64 (c.seq + 1), c.pc, e.1, f, I, J, false, M, 0, 0, 0⟩ : TSlot) _ (by simp [topV]) Z .nil) (fun _ => (fun _ => (oc trivial (oc trivial ona)))) (fun c3 cR b3 ay => ?_)
  obtain ⟨c5, bI, a9⟩ := bindS an
  refine O.append (k := 2) ay Z Z Z (.inl Z) Z l2 l0 T40 ti67 Z Z nle (ay.src (k := 0) Z T40) bI (fun cy hs => (fun _ => (oc ol (oc ol (oc ol one))))) (fun ad cz bP F => ?_)
  refine uu Z (S.nilCheck Z l7)<|fa 38 Z l0 T54 Z ti40<|?_
  refine O.store (k := 1) (cs := [ad]) (c' := (p :: q :: s :: .int .i64 c.t :: rg34 c.regs [ad, .int .i64 c.pc, .int .i64 (w64 (c.seq + 1)), .bool c.ended, .bool c.held, .int .i64 c.at_, .int .i64 c.from_, o])) F Z Z Z (.inl Z) Z l0 l2 ti40 (F.osne (k := 2) Z) (by rw [F.oscells (k := 2) rfl]) Z nle (by have cu := (F.osone (k := 2) Z); simp only [List.all_cons, List.all_nil, cu]; rfl) Z (fun _ => (oc Z (oc ol (oc ol (oc ol one))))) (fun cA bQ au => ?_)
  refine dn<|rg<|mv Z (lk 10)<|fa 11 Z (lk 12) T67 Z ti3<|ld Z l0 T3 au 4<|uu Z (S.nilCheck Z l2)<|fa 39 Z l0 T54 Z ti3<|?_
  refine st 1 au Z l0 l2 ti3 (fun cB bR b4 => ?_)
  refine dn<|rg<|ag Z K<|dn<|wr<|?_
  have E := ((((((((((i.t u).t z).t A).t B).t aa).t ab).t b2).t b3).t bP).t bQ).t bR
  have aS := x.up E
  have aU := y.up E
  have aW := D.up E
  have b5 := b4.sel 5 [1, 2, 3]
  cases a9
  exact fS l0 ⟨_, Z, E, p, q, s, ad, Z, aS, aU, aW, b5⟩
 refine rg<|fa 0 Z (lk 35) T56 Z ti3<|ld Z l0 T3 g 1<|dn<|wb<|rg<|uu Z (S.eqlI Z l0 K)<|ag Z l0<|dn<|?_
 refine cd l0 bB (fun aJ ba => ?_) (fun aJ bb => ?_)
 ·refine WP.udreg Z Z Z ?_
  refine mv Z (lk 63)<|uu Z (S.nilCheck Z l0)<|fa 39 Z l0 T54 Z ti3<|lD Z l0 T3 g 2 onr<|fa 4 Z (lk 43) T56 Z ti3<|lD Z l0 T3 g 1 (ot<|onr ·)<|uu Z (S.add Z l2 l0)<|fa 12 Z (lk 11) T67 Z ti4<|?_
  refine O.store (k := 0) (cs := [.bool true]) (c' := [.int .i64 (w64 (c.seq + 1)), .int .i64 c.pc, .int .i64 e.1.op, .int .i64 e.1.d, .int .i64 e.1.a, .int .i64 e.1.b, .int .i64 e.1.imm, .int .i64 f.role, .int .i64 f.what, .bool f.volatile, .bool f.final, .int .i64 (w64 (c.pc + 1)), .bool true, .bool false, .int .i64 0, .int .i64 0, .int .i64 0, .int .i64 0]) g Z Z Z (.inl Z) Z l0 K ti4 (by simp [topV]) Z Z nle Z Z (fun _ => (oc (Or.inr (upd_same (g.nept (j := 1) (k := 0) Z Z (by decide)))) (oc (Or.inr (upd_same (g.nept (j := 2) (k := 0) Z Z (by decide)))) one))) (fun cC bS b6 => ?_)
  refine fa 11 Z (lk 12) T67 Z ti3<|?_
  refine O.store (k := 0) (cs := [.int .i64 (w64 (c.pc + e.1.imm))]) (c' := [.int .i64 (w64 (c.seq + 1)), .int .i64 c.pc, .int .i64 e.1.op, .int .i64 e.1.d, .int .i64 e.1.a, .int .i64 e.1.b, .int .i64 e.1.imm, .int .i64 f.role, .int .i64 f.what, .bool f.volatile, .bool f.final, .int .i64 (w64 (c.pc + e.1.imm)), .bool true, .bool false, .int .i64 0, .int .i64 0, .int .i64 0, .int .i64 0]) b6 Z Z Z (.inl Z) Z l0 l2 ti3 (by simp [topV]) Z Z nle Z Z (fun _ => (oc Z (oc ol (oc ol one)))) (fun cD bT b7 => ?_)
  refine dn<|blkN<|sqN<|?_
  have b8 := b7.sel 5 [2, 3, 4, 0]
  have bK := bS.t bT
  exact ⟨_, _, Z, ⟨_, _, _, Z, bK, b8, ba⟩, allR⟩
 refine rg<|uu Z (S.eqlI Z l2 K)<|ag Z l0<|dn<|?_
 refine cd l0 bb (fun aK be => ?_) (fun aK bf => ?_)
 ·refine WP.udreg Z Z Z ?_
  refine mv Z (lk 65)<|uu Z (S.nilCheck Z l0)<|fa 39 Z l0 T54 Z ti3<|lD Z l0 T3 g 2 onr<|uu Z (S.add Z l0 K)<|mv Z (lk 70)<|uu Z (S.nilCheck Z l0)<|fa 39 Z l0 T54 Z ti3<|lD Z l0 T3 g 2 (ot<|onr ·)<|fa 4 Z (lk 50) T56 Z ti3<|lD Z l0 T3 g 1 (ot<|ot<|onr ·)<|uu Z (S.add Z l2 l0)<|fa 12 Z (lk 18) T67 Z ti4<|?_
  refine O.store (k := 0) (cs := [.bool true]) (c' := [.int .i64 (w64 (c.seq + 1)), .int .i64 c.pc, .int .i64 e.1.op, .int .i64 e.1.d, .int .i64 e.1.a, .int .i64 e.1.b, .int .i64 e.1.imm, .int .i64 f.role, .int .i64 f.what, .bool f.volatile, .bool f.final, .int .i64 (w64 (c.pc + 1)), .bool true, .bool false, .int .i64 0, .int .i64 0, .int .i64 0, .int .i64 0]) g Z Z Z (.inl Z) Z l0 K ti4 (by simp [topV]) Z Z nle Z Z (fun _ => (oc (Or.inr (upd_same (g.nept (j := 1) (k := 0) Z Z (by decide)))) (oc (Or.inr (upd_same (g.nept (j := 2) (k := 0) Z Z (by decide)))) (oc (Or.inr (upd_same (g.nept (j := 2) (k := 0) Z Z (by decide)))) one)))) (fun cE bU ac => ?_)
  refine fa 14 Z (lk 19) T67 Z ti3<|?_
  refine O.store (k := 0) (cs := [.int .i64 (w64 (c.pc + 1))]) (c' := [.int .i64 (w64 (c.seq + 1)), .int .i64 c.pc, .int .i64 e.1.op, .int .i64 e.1.d, .int .i64 e.1.a, .int .i64 e.1.b, .int .i64 e.1.imm, .int .i64 f.role, .int .i64 f.what, .bool f.volatile, .bool f.final, .int .i64 (w64 (c.pc + 1)), .bool true, .bool false, .int .i64 (w64 (c.pc + 1)), .int .i64 0, .int .i64 0, .int .i64 0]) ac Z Z Z (.inl Z) Z l0 l9 ti3 (by simp [topV]) Z Z nle Z Z (fun _ => (oc Z (oc (Or.inr (upd_same (ac.nept (j := 1) (k := 0) Z Z (by decide)))) (oc (Or.inr (upd_same (ac.nept (j := 2) (k := 0) Z Z (by decide)))) (oc ol one))))) (fun cF bV b9 => ?_)
  refine fa 11 Z (lk 20) T67 Z ti3<|?_
  refine O.store (k := 0) (cs := [.int .i64 (w64 (c.pc + e.1.imm))]) (c' := [.int .i64 (w64 (c.seq + 1)), .int .i64 c.pc, .int .i64 e.1.op, .int .i64 e.1.d, .int .i64 e.1.a, .int .i64 e.1.b, .int .i64 e.1.imm, .int .i64 f.role, .int .i64 f.what, .bool f.volatile, .bool f.final, .int .i64 (w64 (c.pc + e.1.imm)), .bool true, .bool false, .int .i64 (w64 (c.pc + 1)), .int .i64 0, .int .i64 0, .int .i64 0]) b9 Z Z Z (.inl Z) Z l0 l3 ti3 (by simp [topV]) Z Z nle Z Z (fun _ => (oc Z (oc Z (oc ol (oc ol (oc ol one)))))) (fun cG bW ca => ?_)
  refine dn<|blkN<|sqN<|?_
  have cc := ca.sel 5 [2, 3, 4, 0]
  have bL := (bU.t bV).t bW
  exact ⟨_, _, Z, ⟨_, _, _, Z, bL, cc, be⟩, allR⟩
 refine rg<|uu Z (S.eqlI Z l4 K)<|ag Z l0<|dn<|?_
 refine cd l0 bf (fun aL bg => ?_) (fun aL bi => ?_)
 ·refine rg<|mv Z (lk 67)<|mv Z (lk 68)<|uu Z (S.nilCheck Z l0)<|fa 38 Z l0 T54 Z ti40<|ld Z l0 T40 g 2<|uu Z (g.oslen (k := 3) Z Z l0 T40)<|?_
  have Y := (((((i.t u).t z).t A).t B).t aa).t ab
  have aX := x.up Y
  have aY := y.up Y
  have aZ := D.up Y
  have ce := g.sel 5 [2, 3, 4, 0, 1]
  have bM := ((((u.t z).t A).t B).t aa).t ab
  have a8 := al.up bM
  refine cb Z en31 (a3 l5 l0 K) bg (wk_window_Window_reg · a8 aX aY aZ ce) ?_
  rintro c4 bh c1 cH bX ⟨rfl, cf⟩
  refine mv Z l0<|uu Z (S.extract Z l0 Z nle)<|uu Z (S.extract Z l1 Z nle)<|fa 11 Z (lk 18) T67 Z ti3<|?_
  refine st 3 cf Z l0 l2 ti3 (fun cI bY cg => ?_)
  refine dn<|rh<|fa 12 Z (lk 19) T67 Z ti4<|?_
  refine st 3 cg Z l0 K ti4 (fun cJ bZ ch => ?_)
  refine dn<|blkN<|sqN<|?_
  have ci := ch.sel 5 [0, 1, 2, 3]
  have bN := (bX.t bY).t bZ
  exact ⟨_, _, Z, ⟨_, _, _, Z, bN, ci, bh⟩, allR⟩
 refine rg<|uu Z (S.eqlI Z l6 K)<|ag Z l0<|dn<|?_
 refine cd l0 bi (fun aM bj => ?_) (fun aM bm => ?_)
 ·refine rg<|mv Z (lk 70)<|dn<|?_
  refine cd l0 bj (fun aO bk => ?_) (fun aO bl => ?_)
  ·refine WP.udreg Z Z Z ?_
   refine mv Z (lk 70)<|uu Z (S.nilCheck Z l0)<|fa 39 Z l0 T54 Z ti3<|lD Z l0 T3 g 2 onr<|fa 4 Z (lk 50) T56 Z ti3<|lD Z l0 T3 g 1 (ot<|onr ·)<|uu Z (S.add Z l2 l0)<|fa 11 Z (lk 18) T67 Z ti3<|?_
   refine O.store (k := 0) (cs := [.int .i64 (w64 (c.pc + e.1.imm))]) (c' := [.int .i64 (w64 (c.seq + 1)), .int .i64 c.pc, .int .i64 e.1.op, .int .i64 e.1.d, .int .i64 e.1.a, .int .i64 e.1.b, .int .i64 e.1.imm, .int .i64 f.role, .int .i64 f.what, .bool f.volatile, .bool f.final, .int .i64 (w64 (c.pc + e.1.imm)), .bool false, .bool false, .int .i64 0, .int .i64 0, .int .i64 0, .int .i64 0]) g Z Z Z (.inl Z) Z l0 l1 ti3 (by simp [topV]) Z Z nle Z Z (fun _ => (oc ol (oc ol one))) (fun cK b0 cj => ?_)
   refine dn<|blkN<|sqN<|?_
   have ck := cj.sel 5 [2, 3, 4, 0]
   exact ⟨_, _, Z, ⟨_, _, _, Z, b0, ck, bk⟩, allR⟩
  refine wn<|blkN<|sqN<|?_
  have cl := g.sel 5 [2, 3, 4, 0]
  exact ⟨_, _, Z, ⟨_, _, _, Z, (.refl _), cl, bl⟩, allR⟩
 refine WP.seqI (fun l V' => ∃ (ae : Bool), l = [(0, .pointer (some ⟨n, 0, none⟩)), (7, .pointer (some ⟨C, 0, none⟩)), (118, .bool ae)] ∧ ah.le V' ∧ Ow V' (.pt n (.cells N (p :: q :: s :: .int .i64 c.t :: rg34 c.regs [w, .int .i64 c.pc, .int .i64 (w64 (c.seq + 1)), .bool c.ended, .bool c.held, .int .i64 c.at_, .int .i64 c.from_, o])) :: .os RT_TSlot w c.slots :: .os RT_TSlot o c.log :: .pt C (.cells 18 [.int .i64 (w64 (c.seq + 1)), .int .i64 c.pc, .int .i64 e.1.op, .int .i64 e.1.d, .int .i64 e.1.a, .int .i64 e.1.b, .int .i64 e.1.imm, .int .i64 f.role, .int .i64 f.what, .bool f.volatile, .bool f.final, .int .i64 (w64 (c.pc + 1)), .bool false, .bool false, .int .i64 0, .int .i64 0, .int .i64 0, .int .i64 0]) :: Rs) ∧ window_Window_Fetch_k2 c e f ae = some r) ?_ ?_
 ·rintro _ cL ⟨ae, rfl, ar, av, am⟩
  unfold window_Window_Fetch_k2 at am
  refine cd l2 am (fun aP bn => ?_) (fun aP bo => ?_)
  ·refine rh<|fa 12 Z l1 T67 Z ti4<|?_
   refine st 3 av Z l0 K ti4 (fun cM b1 cm => ?_)
   refine dn<|blkN<|sqN<|?_
   have bO := ar.t b1
   exact ⟨_, _, Z, ⟨_, _, _, Z, bO, cm, bn⟩, allR⟩
  refine wn<|blkN<|sqN<|?_
  exact ⟨_, _, Z, ⟨_, _, _, Z, ar, av, bo⟩, allR⟩
 refine rg<|uu Z (S.eqlI Z l8 K)<|ag Z l0<|dn<|?_
 refine cd l0 bm (fun ai bp => ?_) (fun ai bq => ?_)
 ·refine wn<|sqN<|?_
  have cn := g.sel 5 [2, 3, 4, 0]
  exact ⟨_, _, Z, ⟨_, Z, (.refl _), cn, bp⟩, (allCons (lk 71) (allCons (lk 12) (allCons (lb 0 ai) allNil)))⟩
 refine rg<|uu Z (S.eqlI Z (lk 10) K)<|ag Z l0<|dn<|?_
 refine cd l0 bq (fun aj br => ?_) (fun aj bs => ?_)
 ·refine wn<|sqN<|?_
  have co := g.sel 5 [2, 3, 4, 0]
  exact ⟨_, _, Z, ⟨_, Z, (.refl _), co, br⟩, (allCons (lk 73) (allCons (lk 14) (allCons (lb 0 aj) allNil)))⟩
 refine rg<|uu Z (S.eqlI Z (lk 12) K)<|ag Z l0<|dn<|?_
 refine cd l0 bs (fun ak bt => ?_) (fun ak bu => ?_)
 ·refine wn<|sqN<|?_
  have cp := g.sel 5 [2, 3, 4, 0]
  exact ⟨_, _, Z, ⟨_, Z, (.refl _), cp, bt⟩, (allCons (lk 75) (allCons (lk 16) (allCons (lb 0 ak) allNil)))⟩
 refine rh<|uu Z (S.eqlI Z (lk 14) K)<|ag Z l0<|dn<|sqN<|?_
 have cq := g.sel 5 [2, 3, 4, 0]
 exact ⟨_, _, Z, ⟨_, Z, (.refl _), cq, bu⟩, allR⟩
theorem wk_window_Window_slot {V : Vw} {Rs : List At} {b : Twindow_Window} {c : Int} {d l : Nat} {e f g i j : Value} {r : Bool} (h : window_Window_slot b c = some r) (gl : Glb V) (m : Fz (RT.int .u32) V e b.img.code) (n : Fz RT_TNote V f b.img.notes) (o : Fz (RT.int .i64) V g b.img.threads) (ow : Ow V (WA d l e f g i j b Rs)) : CT 32 #[.pointer (some ⟨d, 0, none⟩), .int .i64 c] V fun v V' => v = .bool r ∧ Ow V' (WA d l e f g i j b Rs) := by
 refine Ct.of gl.lo Tryd.func32 Z nle ?_
 unfold window_Window_slot at h
 refine rg<|ag Z K<|dn<|rg<|mv Z l1<|uu Z (S.nilP Z (.inr Z) l0 K T30)<|mv Z l0<|ug Z Z l0 (S.move Z l5)<|ug Z Z l1 (S.geq Z l0 K)<|uu Z (S.pickT Z l2 l0)<|mv Z l0<|?_
 refine jX 15 (jv 19 (.bool ((decide (0 ≤ c)) && (decide (c < (b.slots.length : Int)))))<|jr 18 7 []) (fun p => ?_) fun kk => ?_
 ·refine ag Z l0<|dn<|wr<|?_
  cases h
  exact fS l0 ⟨_, Z, (.refl _), Z, ow⟩
 refine gs l0 (fun a => ?_) fun a => ?_
 ·refine ug Z Z (lb 0 a) (S.move Z l9)<|ug Z Z (lb 1 a) (S.move Z l9)<|ug Z Z (lb 2 a) (S.nilCheck Z l0)<|fg Z Z (lb 3 a) l0 T54 Z ti40<|kg Z Z (lb 4 a) (S.load Z l0 T40 Z ((ow.own (k := 0) Z).cell Z))<|ug Z Z (lb 5 a) (ow.oslen (k := 1) Z Z l0 T40)<|ug Z Z (lb 6 a) (S.lss Z l5 l0)<|uu Z (S.pickT Z (lb 7 a) l0)<|?_
  exact jk kk (aT a)
 refine uxs 7 18 Z Z (lb 0 a)<|uu Z (S.pickF Z (lb 7 a) K)<|?_
 exact jk kk (aF a)
theorem wk_window_Window_MayCommit_c1 {V : Vw} {Rs : List At} {b : TSlot} {r : Bool} (h : window_Window_MayCommit_c1 b = some r) (gl : Glb V) (ow : Ow V (Rs)) : CT 38 #[.agg (C0 b).toArray] V fun v V' => v = .bool r ∧ Ow V' (Rs) := by
 refine Ct.of gl.lo Tryd.func38 Z nle ?_
 unfold window_Window_MayCommit_c1 at h
 refine rg<|?_
 refine O.box ow Z Z (.inl Z) Z l0 (by simp [topV]) Z nd (fun g f d c => ?_)
 refine ag Z K<|dn<|rg<|fa 2 Z l1 T67 Z ti56<|fa 2 Z l0 T56 Z ti3<|ld Z l0 T3 c 0<|uu Z (S.eqlI Z l0 K)<|mv Z l0<|?_
 refine jX 9 (jv 11 (.bool ((decide (b.i.op = 10)) && (!b.committed)))<|jr 10 3 []) (fun j => ?_) fun kk => ?_
 ·refine ag Z l0<|dn<|wr<|?_
  have e := c.sel 1 []
  cases h
  exact fS l0 ⟨_, Z, d, Z, e⟩
 refine gs l0 (fun a => ?_) fun a => ?_
 ·refine fg Z Z (lb 0 a) l6 T67 Z ti4<|kg Z Z (lb 1 a) (S.load Z l0 T4 Z ((c.own (k := 0) Z).cell Z))<|ug Z Z (lb 2 a) (S.not Z l0)<|uu Z (S.pickT Z (lb 3 a) l0)<|?_
  exact jk kk (aT a)
 refine uxs 3 10 Z Z (lb 0 a)<|uu Z (S.pickF Z (lb 3 a) K)<|?_
 exact jk kk (aF a)
theorem wk_slices_IndexFunc_2 {V : Vw} {Rs : List At} {a : List TSlot} {d : Value} {f : List TSlot} {m : Value} {r : Int} (h : slices_IndexFunc_2 a = some r) (gl : Glb V) (o : Apt d f 18 m a) (ow : Ow V (.os RT_TSlot d f :: Rs)) : CT 64 #[m, .func (.func 38) #[] #[]] V fun v V' => v = .int .i64 r ∧ Ow V' (.os RT_TSlot d f :: Rs) := by
 refine Ct.of gl.lo Tryd.func64 Z nle ?_
 unfold slices_IndexFunc_2 at h
 refine rg<|ag Z K<|dn<|ws<|rg<|mv Z l1<|uu Z (o.len Z l0 T40)<|mv Z K<|dn<|wb<|?_
 unfold slices_IndexFunc_2_l1 at h
 obtain ⟨ad, hn7⟩ := loopO_some.1 h
 refine WP.loopI2 (fun n l V' => ∃ (e : Int), l = [(0, m), (1, .func (.func 38) #[] #[]), (7, .int .i64 (a.length : Int)), (8, .int .i64 e)] ∧ V.le V' ∧ Ow V' (.os RT_TSlot d f :: Rs) ∧ itO (fun s => slices_IndexFunc_2_l1b a s) n e = some r) ad _ ⟨0, Z, .refl _, ow, hn7⟩ (allCons l4 (allCons l5 (allCons l1 (allCons l0 allNil)))) ?_
 rintro _ _ w ⟨e, rfl, c, j, B⟩
 obtain ⟨ac, ae, rfl, b, g⟩ := itS B
 replace b : slices_IndexFunc_2_l1b a e = some ae := b
 unfold slices_IndexFunc_2_l1b at b
 refine rg<|uu Z (S.lss Z l3 l2)<|dn<|ws<|?_
 refine cd l0 b (fun x C => ?_) (fun x I => ?_)
 ·refine wn<|sqN<|ws<|wb<|rg<|mv Z l4<|ag Z l0<|dn<|rg<|mv Z l4<|mv Z l4<|mv Z l2<|?_
  obtain ⟨u, i, D⟩ := bindS C
  obtain ⟨ah, al, ak, Q, W, X⟩ := o.at i
  refine uu Z (S.index Z ((lk 1).trans W) l0 T40 ti67 (ix_ge i) (ix_lt i))<|?_
  obtain ⟨z, aj, ai, P, M⟩ := j.osel (k := 0) Z Q X
  obtain rfl : z = (C0 u) := P
  refine uk Z (S.loadN (cs := (C0 u)) Z l0 T67 Z ti67 Z M)<|?_
  have A := gl.up c
  obtain ⟨an, Y, E⟩ := bindS D
  refine O.callv (V := w) Z Z (.inl Z) Z l4 en38 (aC l0 aN) (wk_window_Window_MayCommit_c1 Y A j) (fun _ _ _ _ => nd) (fun am af p N => ?_)
  obtain ⟨rfl, q⟩ := N
  refine dn<|?_
  refine cd l0 E (fun y F => ?_) (fun y H => ?_)
  ·refine rg<|mv Z l6<|ag Z l0<|dn<|wr<|blkR<|sqR<|sqR<|blkR<|sqR<|?_
   have G := exitS F g
   have aa := c.t p
   obtain rfl := si G
   exact fS l0 ⟨_, Z, aa, Z, q⟩
  refine wn<|blkN<|sqN<|rh<|uu Z (S.add Z (lk 12) K)<|mv Z l0<|dn<|sqN<|?_
  have ab := c.t p
  exact ⟨_, _, Z, ⟨ac, Nat.lt_succ_self _, _, Z, ab, q, backS H g⟩, allR⟩
 refine we<|sqE<|sqE<|blkE<|sqN<|?_
 have J := exitS I g
 refine rg<|ag Z K<|dn<|wr<|?_
 cases J
 exact fS l0 ⟨_, Z, c, Z, j⟩
theorem wk_slices_ContainsFunc_2 {V : Vw} {Rs : List At} {c : List TSlot} {a : Value} {b : List TSlot} {d : Value} {r : Bool} (h : slices_ContainsFunc_2 c = some r) (gl : Glb V) (e : Apt a b 18 d c) (ow : Ow V (.os RT_TSlot a b :: Rs)) : CT 28 #[d, .func (.func 38) #[] #[]] V fun v V' => v = .bool r ∧ Ow V' (.os RT_TSlot a b :: Rs) := by
 refine Ct.of gl.lo Tryd.func28 Z nle ?_
 unfold slices_ContainsFunc_2 at h
 refine rg<|ag Z K<|dn<|rg<|mv Z l1<|mv Z l3<|?_
 refine cb Z en64 (a2 l1 l0) h (wk_slices_IndexFunc_2 · gl e ow) ?_
 rintro l f k j g ⟨rfl, i⟩
 refine uu Z (S.geq Z l0 K)<|ag Z l0<|dn<|wr<|?_
 cases f
 exact fS l0 ⟨_, Z, g, Z, i⟩
theorem wk_window_fence {V : Vw} {Rs : List At} {c : Int} {r : Bool} (h : window_fence c = some r) (gl : Glb V) (ow : Ow V (Rs)) : CT 72 #[.int .i64 c] V fun v V' => v = .bool r ∧ Ow V' (Rs) := by
 refine Ct.of gl.lo Tryd.func72 Z nle ?_
 unfold window_fence at h
 refine rg<|ag Z K<|dn<|rg<|mv Z l1<|uu Z (S.eqlI Z l0 K)<|mv Z l0<|?_
 refine jX 6 (jv 8 (.bool ((decide (c = 18)) || (decide (c = 19))))<|jr 7 2 []) (fun d => ?_) fun kk => ?_
 ·refine mv Z l0<|?_
  refine jX 10 (jv 12 (.bool (((decide (c = 18)) || (decide (c = 19))) || (decide (c = 20))))<|jr 11 2 []) (fun e => ?_) fun kk => ?_
  ·refine ag Z l0<|dn<|wr<|?_
   cases h
   exact fS l0 ⟨_, Z, (.refl _), Z, ow⟩
  refine gs l0 (fun b => ?_) fun b => ?_
  ·refine uxs 2 11 Z Z (lb 0 b)<|uu Z (S.pickT Z (lb 2 b) K)<|?_
   exact jk kk (oT b)
  refine ug Z Z (lb 0 b) (S.move Z l8)<|ug Z Z (lb 1 b) (S.eqlI Z l0 K)<|uu Z (S.pickF Z (lb 2 b) l0)<|?_
  exact jk kk (oF b)
 refine gs l0 (fun a => ?_) fun a => ?_
 ·refine uxs 2 7 Z Z (lb 0 a)<|uu Z (S.pickT Z (lb 2 a) K)<|?_
  exact jk kk (oT a)
 refine ug Z Z (lb 0 a) (S.move Z l4)<|ug Z Z (lb 1 a) (S.eqlI Z l0 K)<|uu Z (S.pickF Z (lb 2 a) l0)<|?_
 exact jk kk (oF a)
theorem wk_storage_Storage_thread {V : Vw} {Rs : List At} {b : Tstorage_Storage} {c : Int} {d o : Nat} {l m : Value} {g : List Value} {n : Value} {e : List Value} {i : Value} {f : List Value} {j : Value} {r : Bool} (h : storage_Storage_thread b c = some r) (gl : Glb V) (ow : Ow V (SA d o l m g n e i f j b Rs)) : CT 75 #[.pointer (some ⟨d, 0, none⟩), .int .i64 c] V fun v V' => v = .bool r ∧ Ow V' (SA d o l m g n e i f j b Rs) := by
 refine Ct.of gl.lo Tryd.func75 Z nle ?_
 unfold storage_Storage_thread at h
 refine rg<|ag Z K<|dn<|rg<|mv Z l1<|uu Z (S.nilP Z (.inr Z) l0 K T35)<|mv Z l0<|ug Z Z l0 (S.move Z l5)<|ug Z Z l1 (S.geq Z l0 K)<|uu Z (S.pickT Z l2 l0)<|mv Z l0<|?_
 refine jX 15 (jv 19 (.bool ((decide (0 ≤ c)) && (decide (c < (b.seen.length : Int)))))<|jr 18 7 []) (fun p => ?_) fun kk => ?_
 ·refine ag Z l0<|dn<|wr<|?_
  cases h
  exact fS l0 ⟨_, Z, (.refl _), Z, ow⟩
 refine gs l0 (fun a => ?_) fun a => ?_
 ·refine ug Z Z (lb 0 a) (S.move Z l9)<|ug Z Z (lb 1 a) (S.move Z l9)<|ug Z Z (lb 2 a) (S.nilCheck Z l0)<|fg Z Z (lb 3 a) l0 T90 Z ti86<|kg Z Z (lb 4 a) (S.load Z l0 T86 Z ((ow.own (k := 0) Z).cell Z))<|ug Z Z (lb 5 a) (ow.sslen (k := 2) Z Z l0 T86)<|ug Z Z (lb 6 a) (S.lss Z l5 l0)<|uu Z (S.pickT Z (lb 7 a) l0)<|?_
  exact jk kk (aT a)
 refine uxs 7 18 Z Z (lb 0 a)<|uu Z (S.pickF Z (lb 7 a) K)<|?_
 exact jk kk (aF a)
theorem wk_storage_Storage_Seen {V : Vw} {Rs : List At} {f : Tstorage_Storage} {p g : Int} {d x : Nat} {t u : Value} {n : List Value} {w : Value} {l : List Value} {q : Value} {m : List Value} {s : Value} {r : Bool} (h : storage_Storage_Seen f p g = some r) (gl : Glb V) (ow : Ow V (SA d x t u n w l q m s f Rs)) : CT 82 #[.pointer (some ⟨d, 0, none⟩), .int .i64 p, .int .i64 g] V fun v V' => v = .bool r ∧ Ow V' (SA d x t u n w l q m s f Rs) := by
 refine Ct.of gl.lo Tryd.func82 Z nle ?_
 unfold storage_Storage_Seen at h
 refine rg<|ag Z K<|dn<|rg<|mv Z l1<|mv Z l3<|?_
 refine cb Z en75 (a2 l1 l0) h (wk_storage_Storage_thread · gl ow) ?_
 rintro ae z ad P I ⟨rfl, c⟩
 refine mv Z l0<|?_
 obtain ⟨N, H, A⟩ := bindS z
 refine jX 14 (jv 20 (.bool N)<|jr 19 9 []) (fun ac => ?_) fun kk => ?_
 ·refine ag Z l0<|dn<|wr<|?_
  obtain rfl := si A
  exact fS l0 ⟨_, Z, I, Z, c⟩
 refine gi l0 H (fun a B => ?_) fun a C => ?_
 ·refine ug Z Z (lb 0 a) (S.move Z l5)<|ug Z Z (lb 1 a) (S.nilCheck Z l0)<|fg Z Z (lb 2 a) l0 T90 Z ti87<|kg Z Z (lb 3 a) (S.load Z l0 T87 Z ((c.own (k := 0) Z).cell Z))<|ug Z Z (lb 4 a) (S.move Z (lk 10))<|?_
  obtain ⟨M, b, D⟩ := bindS B
  obtain ⟨Q, aa, Y, W, o⟩ := c.sspt (k := 3) Z b
  refine ug Z Z (lb 5 a) (S.index Z ((lk 1).trans (c.sslen' (k := 3) Z o)) l0 T87 ti91 (ix_ge b) (ix_lt b))<|?_
  obtain ⟨X, i, e⟩ := c.ssopen (k := 3) Z b
  have E := e.shcell (k := 4) Z o i
  refine kg Z Z (lb 6 a) (S.load Z l0 T91 Z E.2)<|ug Z Z (lb 7 a) (S.move Z (lk 14))<|?_
  refine O.lookup1 (k := 0) false e Z Z Z (.inr ⟨_, _, _, Z, Z, (lb 8 a)⟩) Z l1 l0 T91 T3 ti4 Z (cell_vrel Z) (fun y F => nd) (fun y J F G => ?_)
  obtain rfl : J = .bool ((mG M g).getD false) := (List.cons.inj (vrel_cell G)).1
  refine uu Z (S.pickT Z (lb 9 a) l0)<|?_
  have ab := e.ssclose' (k := 4) (j := 0) Z Z (by decide) i b
  cases D
  exact jk kk Z
 refine uxs 9 19 Z Z (lb 0 a)<|uu Z (S.pickF Z (lb 9 a) K)<|?_
 obtain rfl := si C
 exact jk kk Z
theorem wk_storage_Storage_Acked {V : Vw} {Rs : List At} {c : Tstorage_Storage} {d : Int} {e B : Nat} {y z : Value} {u : List Value} {A : Value} {p : List Value} {w : Value} {q : List Value} {x : Value} {r : Bool} (h : storage_Storage_Acked c d = some r) (gl : Glb V) (ow : Ow V (SA e B y z u A p w q x c Rs)) : CT 73 #[.pointer (some ⟨e, 0, none⟩), .int .i64 d] V fun v V' => v = .bool r ∧ Ow V' (SA e B y z u A p w q x c Rs) := by
 refine Ct.of gl.lo Tryd.func73 Z nle ?_
 unfold storage_Storage_Acked at h
 refine rg<|ag Z K<|dn<|ws<|rg<|mv Z l1<|uu Z (S.nilP Z (.inl Z) l0 K T35)<|mv Z l0<|ug Z Z l0 (S.move Z l5)<|ug Z Z l1 (S.lss Z l0 K)<|uu Z (S.pickF Z l2 l0)<|mv Z l0<|?_
 refine jX 15 (jv 20 (.bool ((decide (d < 1)) || (decide ((c.events.length : Int) < d))))<|jr 19 7 []) (fun aK => ?_) fun kk => ?_
 ·refine mv Z l0<|?_
  obtain ⟨aw, am, P⟩ := bindS h
  refine jX 27 (jv 32 (.bool aw)<|jr 31 10 []) (fun aL => ?_) fun kk => ?_
  ·refine dn<|?_
   refine cd l0 P (fun I Q => ?_) (fun I C => ?_)
   ·refine rg<|ag Z K<|dn<|wr<|sqR<|?_
    obtain rfl := si Q
    exact fS l0 ⟨_, Z, (.refl _), Z, ow⟩
   refine wn<|sqN<|ws<|rg<|mv Z (lk 28)<|uu Z (S.nilCheck Z l0)<|fa 1 Z l0 T90 Z ti86<|ld Z l0 T86 ow 0<|uu Z (ow.sslen (k := 2) Z Z l0 T86)<|mv Z K<|dn<|wb<|?_
   unfold storage_Storage_Acked_l1 at C
   obtain ⟨ar, hn32⟩ := loopO_some.1 C
   refine WP.loopI2 (fun n l V' => ∃ (j : Int), l = [(0, .pointer (some ⟨e, 0, none⟩)), (1, .int .i64 d), (37, .int .i64 (c.seen.length : Int)), (38, .int .i64 j)] ∧ V.le V' ∧ Ow V' (SA e B y z u A p w q x c Rs) ∧ itO (fun s => storage_Storage_Acked_l1b c d s) n j = some r) ar _ ⟨0, Z, .refl _, ow, hn32⟩ (allCons (lk 34) (allCons (lk 35) (allCons l1 (allCons l0 allNil)))) ?_
   rintro _ _ ax ⟨j, rfl, i, F, W⟩
   obtain ⟨aq, au, rfl, g, o⟩ := itS W
   replace g : storage_Storage_Acked_l1b c d j = some au := g
   unfold storage_Storage_Acked_l1b at g
   refine rg<|uu Z (S.lss Z l3 l2)<|dn<|ws<|?_
   refine cd l0 g (fun J X => ?_) (fun J ad => ?_)
   ·refine wn<|sqN<|ws<|wb<|rg<|mv Z l4<|ag Z l0<|dn<|rg<|mv Z l3<|mv Z l1<|mv Z l6<|?_
    have N := gl.up i
    refine cb Z en82 (a3 l2 l1 l0) X (wk_storage_Storage_Seen · N F) ?_
    rintro H Y aM ay E ⟨rfl, G⟩
    refine uu Z (S.not Z l0)<|dn<|?_
    refine cd l0 Y (fun m aa => ?_) (fun m ac => ?_)
    ·have aG : H = false := nT m
     refine rg<|ag Z K<|dn<|wr<|blkR<|sqR<|sqR<|blkR<|sqR<|?_
     have ab := exitS aa o
     have an := i.t E
     obtain rfl := si ab
     exact fS l0 ⟨_, Z, an, Z, G⟩
    have aH : H = true := nF m
    refine wn<|blkN<|sqN<|rh<|uu Z (S.add Z (lk 11) K)<|mv Z l0<|dn<|sqN<|?_
    have ao := i.t E
    exact ⟨_, _, Z, ⟨aq, Nat.lt_succ_self _, _, Z, ao, G, backS ac o⟩, allR⟩
   refine we<|sqE<|sqE<|blkE<|sqN<|?_
   have ae := exitS ad o
   refine rg<|ag Z K<|dn<|wr<|?_
   obtain rfl := si ae
   exact fS l0 ⟨_, Z, i, Z, F⟩
  refine gi l0 am (fun a af => ?_) fun a ah => ?_
  ·refine uxs 10 31 Z Z (lb 0 a)<|uu Z (S.pickT Z (lb 10 a) K)<|?_
   obtain rfl := si af
   exact jk kk Z
  refine ug Z Z (lb 0 a) (S.move Z (lk 17))<|ug Z Z (lb 1 a) (S.nilCheck Z l0)<|fg Z Z (lb 2 a) l0 T90 Z ti85<|kg Z Z (lb 3 a) (S.load Z l0 T85 Z ((ow.own (k := 0) Z).cell Z))<|ug Z Z (lb 4 a) (S.move Z (lk 22))<|ug Z Z (lb 5 a) (S.sub Z l0 K)<|?_
  obtain ⟨av, f, ai⟩ := bindS ah
  obtain ⟨az, aJ, aI, aB, D⟩ := ow.ospt (k := 1) Z f
  obtain ⟨_, al, _⟩ := ow.osel (k := 1) Z D f
  refine ug Z Z (lb 6 a) (S.index Z ((lk 2).trans al) l0 T85 ti115 (ix_ge f) (ix_lt f))<|fg Z Z (lb 7 a) l0 T115 Z ti4<|?_
  obtain ⟨M, aE, aD, ak, aj⟩ := ow.osel (k := 1) Z D f
  obtain rfl : M = (C4 av) := ak
  refine kg Z Z (lb 8 a) (S.load Z l0 T4 Z (aj 1 _ Z))<|ug Z Z (lb 9 a) (S.not Z l0)<|uu Z (S.pickF Z (lb 10 a) l0)<|?_
  cases ai
  exact jk kk Z
 refine gs l0 (fun b => ?_) fun b => ?_
 ·refine uxs 7 19 Z Z (lb 0 b)<|uu Z (S.pickT Z (lb 7 b) K)<|?_
  exact jk kk (oT b)
 refine ug Z Z (lb 0 b) (S.move Z l9)<|ug Z Z (lb 1 b) (S.move Z l9)<|ug Z Z (lb 2 b) (S.nilCheck Z l0)<|fg Z Z (lb 3 b) l0 T90 Z ti85<|kg Z Z (lb 4 b) (S.load Z l0 T85 Z ((ow.own (k := 0) Z).cell Z))<|ug Z Z (lb 5 b) (ow.oslen (k := 1) Z Z l0 T85)<|ug Z Z (lb 6 b) (S.gtr Z l5 l0)<|uu Z (S.pickF Z (lb 7 b) l0)<|?_
 exact jk kk (oF b)
theorem wk_window_passed {V : Vw} {Rs : List At} {l : TSlot} {f : Tstorage_Storage} {e s : Nat} {o p : Value} {j : List Value} {q : Value} {g : List Value} {m : Value} {i : List Value} {n : Value} {r : Bool} (h : window_passed l f = some r) (gl : Glb V) (ow : Ow V (SA e s o p j q g m i n f Rs)) : CT 48 #[.agg (C0 l).toArray, .pointer (some ⟨e, 0, none⟩)] V fun v V' => v = .bool r ∧ Ow V' (SA e s o p j q g m i n f Rs) := by
 refine Ct.of gl.lo Tryd.func48 Z nle ?_
 unfold window_passed at h
 refine rg<|?_
 refine O.box ow Z Z (.inl Z) Z l0 (by simp [topV]) Z nd (fun u aq x z => ?_)
 refine ag Z K<|dn<|rg<|fa 2 Z l1 T67 Z ti56<|fa 2 Z l0 T56 Z ti3<|ld Z l0 T3 z 0<|?_
 have w := gl.up x
 refine cb Z en72 (a1 l0) h (wk_window_fence · w z) ?_
 rintro A C aG ar y ⟨rfl, d⟩
 refine uu Z (S.not Z l0)<|mv Z l0<|?_
 obtain ⟨am, Q, D⟩ := bindS C
 refine jY 21 (jv 25 (.bool am)<|jr 24 14 []) (.pt u (.cells 0 (C0 l)) :: SA e s o p j q g m i n f Rs) (fun aB au aa ae => ?_) fun kk => ?_
 ·refine ag Z l0<|dn<|wr<|?_
  have Y := (x.t y).t aa
  have af := ae.sel 7 [1, 2, 3, 4, 5, 6]
  obtain rfl := si D
  exact fS l0 ⟨_, Z, Y, Z, af⟩
 refine gi l0 Q (fun a E => ?_) fun a F => ?_
 ·have ay : A = false := nT a
  refine uxs 3 13 Z Z (lb 0 a)<|uz Z Z l0<|uz Z Z l1<|uz Z Z l2<|uz Z Z l3<|uz Z Z l4<|uz Z Z l0<|uz Z Z l1<|uz Z Z l2<|uz Z Z l3<|uz Z Z l9<|ux Z Z (lb 13 a)<|uu Z (S.pickT Z (lb 14 a) K)<|?_
  obtain rfl := si E
  exact jm kk Z (.refl _) d
 have az : A = true := nF a
 refine fg Z Z (lb 0 a) l7 T67 Z ti4<|kg Z Z (lb 1 a) (S.load Z l0 T4 Z ((d.own (k := 0) Z).cell Z))<|ug Z Z (lb 2 a) (S.move Z l0)<|?_
 obtain ⟨an, W, G⟩ := bindS F
 refine jY 20 (jv 24 (.bool an)<|jr 23 10 []) (.pt u (.cells 0 (C0 l)) :: SA e s o p j q g m i n f Rs) (fun aD av ab ah => ?_) fun kk => ?_
 ·refine uu Z (S.pickF Z (lb 14 a) l0)<|?_
  obtain rfl := si G
  exact jm kk Z ab ah
 refine gi l0 W (fun b H => ?_) fun b I => ?_
 ·refine fg Z Z (lb 0 b) (lk 10) T67 Z ti56<|fg Z Z (lb 1 b) l0 T56 Z ti3<|kg Z Z (lb 2 b) (S.load Z l0 T3 Z ((d.own (k := 0) Z).cell Z))<|ug Z Z (lb 3 b) (S.neqI Z l0 K)<|ug Z Z (lb 4 b) (S.move Z l0)<|?_
  obtain ⟨ao, X, J⟩ := bindS H
  refine jY 19 (jv 23 (.bool ao)<|jr 22 4 []) (.pt u (.cells 0 (C0 l)) :: SA e s o p j q g m i n f Rs) (fun aE aw ac ai => ?_) fun kk => ?_
  ·refine ug Z Z (lb 13 a) (S.pickT Z (lb 10 b) l0)<|?_
   obtain rfl := si J
   exact jm kk Z ac ai
  refine gi l0 X (fun c M => ?_) fun c N => ?_
  ·refine uxs 4 22 Z Z (lb 0 c)<|ug Z Z (lb 9 b) (S.pickT Z (lb 4 c) K)<|?_
   obtain rfl := si M
   exact jm kk Z (.refl _) d
  refine ug Z Z (lb 0 c) (S.move Z (lk 17))<|fg Z Z (lb 1 c) (lk 16) T67 Z ti3<|kg Z Z (lb 2 c) (S.load Z l0 T3 Z ((d.own (k := 0) Z).cell Z))<|?_
  have aj := d.sel 7 [1, 2, 3, 4, 5, 6, 0]
  have B := w.up y
  refine cbg Z Z (lb 3 c) en73 (a2 l2 l0) N (wk_storage_Storage_Acked · B aj) ?_
  rintro aI P aH ax ad ⟨rfl, ak⟩
  refine ug Z Z (lb 9 b) (S.pickF Z (lb 4 c) l0)<|?_
  obtain rfl := si P
  have al := ak.sel 7 [6, 0, 1, 2, 3, 4, 5]
  exact jm kk Z ad al
 refine uxs 5 18 Z Z (lb 0 b)<|uz Z Z l0<|uz Z Z l1<|uz Z Z l2<|uz Z Z l3<|ux Z Z (lb 9 b)<|ug Z Z (lb 13 a) (S.pickF Z (lb 10 b) K)<|?_
 obtain rfl := si I
 exact jm kk Z (.refl _) d
theorem wk_window_Window_fenced_c1 {V : Vw} {Rs : List At} {j : TSlot} {d : Tstorage_Storage} {b q a s : Nat} {o p : Value} {e : List Value} {l : Value} {f : List Value} {m : Value} {g : List Value} {n : Value} {r : Bool} (h : window_Window_fenced_c1 j d = some r) (gl : Glb V) (ow : Ow V (.pt b (.cells q [.pointer (some ⟨a, 0, none⟩)]) :: SA a s o p e l f m g n d Rs)) : CT 71 #[.agg (C0 j).toArray, .pointer (some ⟨b, 0, none⟩)] V fun v V' => v = .bool r ∧ Ow V' (.pt b (.cells q [.pointer (some ⟨a, 0, none⟩)]) :: SA a s o p e l f m g n d Rs) := by
 refine Ct.of gl.lo Tryd.func71 Z nle ?_
 unfold window_Window_fenced_c1 at h
 refine rg<|?_
 refine O.box ow Z Z (.inl Z) Z l0 (by simp [topV]) Z nd (fun E C i c => ?_)
 refine ag Z K<|dn<|rg<|uk Z (S.loadB Z l1 T67 Z ti67 (c.own (k := 0) Z).get Z)<|ld Z l4 T35 c 1<|?_
 have z := c.sel 8 [2, 3, 4, 5, 6, 7, 0, 1]
 have u := gl.up i
 refine cb Z en48 (a2 l1 l0) h (wk_window_passed · u z) ?_
 rintro G w F D y ⟨rfl, A⟩
 refine uu Z (S.not Z l0)<|ag Z l0<|dn<|wr<|?_
 have x := i.t y
 have B := A.sel 8 [7, 0, 1, 2, 3, 4, 5]
 cases w
 exact fS l0 ⟨_, Z, x, Z, B⟩
theorem wk_slices_IndexFunc_3 {V : Vw} {Rs : List At} {d : List TSlot} {b : Tstorage_Storage} {g : Value} {j : List TSlot} {C : Value} {c E a D : Nat} {x y : Value} {o : List Value} {z : Value} {p : List Value} {A : Value} {q : List Value} {B : Value} {r : Int} (h : slices_IndexFunc_3 d b = some r) (gl : Glb V) (F : Apt g j 18 C d) (ow : Ow V (.os RT_TSlot g j :: .pt c (.cells E [.pointer (some ⟨a, 0, none⟩)]) :: SA a D x y o z p A q B b Rs)) : CT 64 #[C, .func (.func 71) #[] #[.pointer (some ⟨c, 0, none⟩)]] V fun v V' => v = .int .i64 r ∧ Ow V' (.os RT_TSlot g j :: .pt c (.cells E [.pointer (some ⟨a, 0, none⟩)]) :: SA a D x y o z p A q B b Rs) := by
 refine Ct.of gl.lo Tryd.func64 Z nle ?_
 unfold slices_IndexFunc_3 at h
 refine rg<|ag Z K<|dn<|ws<|rg<|mv Z l1<|uu Z (F.len Z l0 T40)<|mv Z K<|dn<|wb<|?_
 unfold slices_IndexFunc_3_l1 at h
 obtain ⟨au, hn26⟩ := loopO_some.1 h
 refine WP.loopI2 (fun n l V' => ∃ (i : Int), l = [(0, C), (1, .func (.func 71) #[] #[.pointer (some ⟨c, 0, none⟩)]), (7, .int .i64 (d.length : Int)), (8, .int .i64 i)] ∧ V.le V' ∧ Ow V' (.os RT_TSlot g j :: .pt c (.cells E [.pointer (some ⟨a, 0, none⟩)]) :: SA a D x y o z p A q B b Rs) ∧ itO (fun s => slices_IndexFunc_3_l1b d b s) n i = some r) au _ ⟨0, Z, .refl _, ow, hn26⟩ (allCons l4 (allCons l5 (allCons l1 (allCons l0 allNil)))) ?_
 rintro _ _ J ⟨i, rfl, f, w, W⟩
 obtain ⟨ar, ay, rfl, e, m⟩ := itS W
 replace e : slices_IndexFunc_3_l1b d b i = some ay := e
 unfold slices_IndexFunc_3_l1b at e
 refine rg<|uu Z (S.lss Z l3 l2)<|dn<|ws<|?_
 refine cd l0 e (fun M X => ?_) (fun M ae => ?_)
 ·refine wn<|sqN<|ws<|wb<|rg<|mv Z l4<|ag Z l0<|dn<|rg<|mv Z l4<|mv Z l4<|mv Z l2<|?_
  obtain ⟨I, u, Y⟩ := bindS X
  obtain ⟨aB, aH, aG, ak, al, am⟩ := F.at u
  refine uu Z (S.index Z ((lk 1).trans al) l0 T40 ti67 (ix_ge u) (ix_lt u))<|?_
  obtain ⟨P, aE, aD, aj, ah⟩ := w.osel (k := 0) Z ak am
  obtain rfl : P = (C0 I) := aj
  refine uk Z (S.loadN (cs := (C0 I)) Z l0 T67 Z ti67 Z ah)<|?_
  have av := w.sel 8 [1, 2, 3, 4, 5, 6, 7, 0]
  have Q := gl.up f
  obtain ⟨aJ, an, aa⟩ := bindS Y
  refine O.callv (V := J) Z Z (.inl Z) Z l4 en71 (aC l0 aN) (wk_window_Window_fenced_c1 an Q av) (fun _ _ _ _ => nd) (fun aI az G ai => ?_)
  obtain ⟨rfl, H⟩ := ai
  refine dn<|?_
  refine cd l0 aa (fun N ab => ?_) (fun N ad => ?_)
  ·refine rg<|mv Z l6<|ag Z l0<|dn<|wr<|blkR<|sqR<|sqR<|blkR<|sqR<|?_
   have ac := exitS ab m
   have ao := f.t G
   have aw := H.sel 8 [7, 0, 1, 2, 3, 4, 5, 6]
   obtain rfl := si ac
   exact fS l0 ⟨_, Z, ao, Z, aw⟩
  refine wn<|blkN<|sqN<|rh<|uu Z (S.add Z (lk 12) K)<|mv Z l0<|dn<|sqN<|?_
  have ax := H.sel 8 [7, 0, 1, 2, 3, 4, 5, 6]
  have aq := f.t G
  exact ⟨_, _, Z, ⟨ar, Nat.lt_succ_self _, _, Z, aq, ax, backS ad m⟩, allR⟩
 refine we<|sqE<|sqE<|blkE<|sqN<|?_
 have af := exitS ae m
 refine rg<|ag Z K<|dn<|wr<|?_
 cases af
 exact fS l0 ⟨_, Z, f, Z, w⟩
theorem wk_slices_ContainsFunc_3 {V : Vw} {Rs : List At} {j : List TSlot} {c : Tstorage_Storage} {d : Value} {e : List TSlot} {p : Value} {b s a q : Nat} {k l : Value} {f : List Value} {m : Value} {g : List Value} {n : Value} {i : List Value} {o : Value} {r : Bool} (h : slices_ContainsFunc_3 j c = some r) (gl : Glb V) (t : Apt d e 18 p j) (ow : Ow V (.os RT_TSlot d e :: .pt b (.cells s [.pointer (some ⟨a, 0, none⟩)]) :: SA a q k l f m g n i o c Rs)) : CT 28 #[p, .func (.func 71) #[] #[.pointer (some ⟨b, 0, none⟩)]] V fun v V' => v = .bool r ∧ Ow V' (.os RT_TSlot d e :: .pt b (.cells s [.pointer (some ⟨a, 0, none⟩)]) :: SA a q k l f m g n i o c Rs) := by
 refine Ct.of gl.lo Tryd.func28 Z nle ?_
 unfold slices_ContainsFunc_3 at h
 refine rg<|ag Z K<|dn<|rg<|mv Z l1<|mv Z l3<|?_
 refine cb Z en64 (a2 l1 l0) h (wk_slices_IndexFunc_3 · gl t ow) ?_
 rintro A u z y w ⟨rfl, x⟩
 refine uu Z (S.geq Z l0 K)<|ag Z l0<|dn<|wr<|?_
 cases u
 exact fS l0 ⟨_, Z, w, Z, x⟩
theorem wk_window_Window_fenced {V : Vw} {Rs : List At} {a : Twindow_Window} {q : Int} {e : Tstorage_Storage} {b B : Nat} {g i j f s : Value} {c A : Nat} {u w : Value} {l : List Value} {x : Value} {m : List Value} {y : Value} {n : List Value} {z : Value} {r : Bool} (h : window_Window_fenced a q e = some r) (gl : Glb V) (Y : Fz (RT.int .u32) V g a.img.code) (aa : Fz RT_TNote V i a.img.notes) (ab : Fz (RT.int .i64) V j a.img.threads) (ow : Ow V (WA b B g i j f s a (SA c A u w l x m y n z e Rs))) : CT 39 #[.pointer (some ⟨b, 0, none⟩), .int .i64 q, .pointer (some ⟨c, 0, none⟩)] V fun v V' => v = .bool r ∧ Ow V' (WA b B g i j f s a (SA c A u w l x m y n z e Rs)) := by
 refine Ct.of gl.lo Tryd.func39 Z nle ?_
 unfold window_Window_fenced at h
 refine rg<|?_
 refine O.box ow Z Z (.inl Z) Z l2 (by simp [topV]) Z nd (fun C W p d => ?_)
 refine ag Z K<|dn<|rg<|mv Z l2<|uu Z (S.nilCheck Z l0)<|fa 38 Z l0 T54 Z ti40<|ld Z l0 T40 d 1<|mv Z l7<|?_
 obtain ⟨Q, o, F⟩ := bindS h
 refine O.subA (k := 2) d Z o Z Z (.inl Z) Z l1 T40 ti67 ⟨.inl ⟨Z, Z⟩, .inr ⟨_, _, Z, l0⟩, .inl Z⟩ (fun P ha39 => ?_)
 have D : Apt f a.slots 18 P Q := .of o ha39
 refine uu (v := .func (.func 71) #[] #[.pointer (some ⟨C, 0, none⟩)]) Z (S.makeFunc' Z (amN) (am1 l7))<|?_
 have J := d.sel 10 [2, 0, 4, 5, 6, 7, 8, 9, 1, 3]
 have E := gl.up p
 refine cb Z en28 (a2 l1 l0) F (wk_slices_ContainsFunc_3 · E D J) ?_
 rintro ad G ac X I ⟨rfl, M⟩
 refine uu Z (S.not Z l0)<|ag Z l0<|dn<|wr<|?_
 have H := p.t I
 have N := M.sel 10 [8, 0, 9, 2, 3, 4, 5, 6, 7]
 cases G
 exact fS l0 ⟨_, Z, H, Z, N⟩
theorem wk_window_Window_MayCommit_c2 {V : Vw} {Rs : List At} {b : TSlot} {r : Bool} (h : window_Window_MayCommit_c2 b = some r) (gl : Glb V) (ow : Ow V (Rs)) : CT 40 #[.agg (C0 b).toArray] V fun v V' => v = .bool r ∧ Ow V' (Rs) := by
 refine Ct.of gl.lo Tryd.func40 Z nle ?_
 unfold window_Window_MayCommit_c2 at h
 refine rg<|?_
 refine O.box ow Z Z (.inl Z) Z l0 (by simp [topV]) Z nd (fun f e c a => ?_)
 refine ag Z K<|dn<|rg<|fa 13 Z l1 T67 Z ti4<|ld Z l0 T4 a 0<|uu Z (S.not Z l0)<|ag Z l0<|dn<|wr<|?_
 have d := a.sel 1 []
 cases h
 exact fS l0 ⟨_, Z, c, Z, d⟩
theorem wk_slices_IndexFunc_4 {V : Vw} {Rs : List At} {a : List TSlot} {d : Value} {f : List TSlot} {m : Value} {r : Int} (h : slices_IndexFunc_4 a = some r) (gl : Glb V) (o : Apt d f 18 m a) (ow : Ow V (.os RT_TSlot d f :: Rs)) : CT 64 #[m, .func (.func 40) #[] #[]] V fun v V' => v = .int .i64 r ∧ Ow V' (.os RT_TSlot d f :: Rs) := by
 refine Ct.of gl.lo Tryd.func64 Z nle ?_
 unfold slices_IndexFunc_4 at h
 refine rg<|ag Z K<|dn<|ws<|rg<|mv Z l1<|uu Z (o.len Z l0 T40)<|mv Z K<|dn<|wb<|?_
 unfold slices_IndexFunc_4_l1 at h
 obtain ⟨ad, hn7⟩ := loopO_some.1 h
 refine WP.loopI2 (fun n l V' => ∃ (e : Int), l = [(0, m), (1, .func (.func 40) #[] #[]), (7, .int .i64 (a.length : Int)), (8, .int .i64 e)] ∧ V.le V' ∧ Ow V' (.os RT_TSlot d f :: Rs) ∧ itO (fun s => slices_IndexFunc_4_l1b a s) n e = some r) ad _ ⟨0, Z, .refl _, ow, hn7⟩ (allCons l4 (allCons l5 (allCons l1 (allCons l0 allNil)))) ?_
 rintro _ _ w ⟨e, rfl, c, j, B⟩
 obtain ⟨ac, ae, rfl, b, g⟩ := itS B
 replace b : slices_IndexFunc_4_l1b a e = some ae := b
 unfold slices_IndexFunc_4_l1b at b
 refine rg<|uu Z (S.lss Z l3 l2)<|dn<|ws<|?_
 refine cd l0 b (fun x C => ?_) (fun x I => ?_)
 ·refine wn<|sqN<|ws<|wb<|rg<|mv Z l4<|ag Z l0<|dn<|rg<|mv Z l4<|mv Z l4<|mv Z l2<|?_
  obtain ⟨u, i, D⟩ := bindS C
  obtain ⟨ah, al, ak, Q, W, X⟩ := o.at i
  refine uu Z (S.index Z ((lk 1).trans W) l0 T40 ti67 (ix_ge i) (ix_lt i))<|?_
  obtain ⟨z, aj, ai, P, M⟩ := j.osel (k := 0) Z Q X
  obtain rfl : z = (C0 u) := P
  refine uk Z (S.loadN (cs := (C0 u)) Z l0 T67 Z ti67 Z M)<|?_
  have A := gl.up c
  obtain ⟨an, Y, E⟩ := bindS D
  refine O.callv (V := w) Z Z (.inl Z) Z l4 en40 (aC l0 aN) (wk_window_Window_MayCommit_c2 Y A j) (fun _ _ _ _ => nd) (fun am af p N => ?_)
  obtain ⟨rfl, q⟩ := N
  refine dn<|?_
  refine cd l0 E (fun y F => ?_) (fun y H => ?_)
  ·refine rg<|mv Z l6<|ag Z l0<|dn<|wr<|blkR<|sqR<|sqR<|blkR<|sqR<|?_
   have G := exitS F g
   have aa := c.t p
   obtain rfl := si G
   exact fS l0 ⟨_, Z, aa, Z, q⟩
  refine wn<|blkN<|sqN<|rh<|uu Z (S.add Z (lk 12) K)<|mv Z l0<|dn<|sqN<|?_
  have ab := c.t p
  exact ⟨_, _, Z, ⟨ac, Nat.lt_succ_self _, _, Z, ab, q, backS H g⟩, allR⟩
 refine we<|sqE<|sqE<|blkE<|sqN<|?_
 have J := exitS I g
 refine rg<|ag Z K<|dn<|wr<|?_
 cases J
 exact fS l0 ⟨_, Z, c, Z, j⟩
theorem wk_slices_ContainsFunc_4 {V : Vw} {Rs : List At} {c : List TSlot} {a : Value} {b : List TSlot} {d : Value} {r : Bool} (h : slices_ContainsFunc_4 c = some r) (gl : Glb V) (e : Apt a b 18 d c) (ow : Ow V (.os RT_TSlot a b :: Rs)) : CT 28 #[d, .func (.func 40) #[] #[]] V fun v V' => v = .bool r ∧ Ow V' (.os RT_TSlot a b :: Rs) := by
 refine Ct.of gl.lo Tryd.func28 Z nle ?_
 unfold slices_ContainsFunc_4 at h
 refine rg<|ag Z K<|dn<|rg<|mv Z l1<|mv Z l3<|?_
 refine cb Z en64 (a2 l1 l0) h (wk_slices_IndexFunc_4 · gl e ow) ?_
 rintro l f k j g ⟨rfl, i⟩
 refine uu Z (S.geq Z l0 K)<|ag Z l0<|dn<|wr<|?_
 cases f
 exact fS l0 ⟨_, Z, g, Z, i⟩
theorem wk_window_load {V : Vw} {Rs : List At} {b : Int} {r : Bool} (h : window_load b = some r) (gl : Glb V) (ow : Ow V (Rs)) : CT 33 #[.int .i64 b] V fun v V' => v = .bool r ∧ Ow V' (Rs) := by
 refine Ct.of gl.lo Tryd.func33 Z nle ?_
 unfold window_load at h
 refine rg<|ag Z K<|dn<|rg<|mv Z l1<|uu Z (S.eqlI Z l0 K)<|mv Z l0<|?_
 refine jX 6 (jv 8 (.bool ((decide (b = 1)) || (decide (b = 16))))<|jr 7 2 []) (fun c => ?_) fun kk => ?_
 ·refine ag Z l0<|dn<|wr<|?_
  cases h
  exact fS l0 ⟨_, Z, (.refl _), Z, ow⟩
 refine gs l0 (fun a => ?_) fun a => ?_
 ·refine uxs 2 7 Z Z (lb 0 a)<|uu Z (S.pickT Z (lb 2 a) K)<|?_
  exact jk kk (oT a)
 refine ug Z Z (lb 0 a) (S.move Z l4)<|ug Z Z (lb 1 a) (S.eqlI Z l0 K)<|uu Z (S.pickF Z (lb 2 a) l0)<|?_
 exact jk kk (oF a)
theorem wk_window_store {V : Vw} {Rs : List At} {b : Int} {r : Bool} (h : window_store b = some r) (gl : Glb V) (ow : Ow V (Rs)) : CT 35 #[.int .i64 b] V fun v V' => v = .bool r ∧ Ow V' (Rs) := by
 refine Ct.of gl.lo Tryd.func35 Z nle ?_
 unfold window_store at h
 refine rg<|ag Z K<|dn<|rg<|mv Z l1<|uu Z (S.eqlI Z l0 K)<|mv Z l0<|?_
 refine jX 6 (jv 8 (.bool ((decide (b = 2)) || (decide (b = 17))))<|jr 7 2 []) (fun c => ?_) fun kk => ?_
 ·refine ag Z l0<|dn<|wr<|?_
  cases h
  exact fS l0 ⟨_, Z, (.refl _), Z, ow⟩
 refine gs l0 (fun a => ?_) fun a => ?_
 ·refine uxs 2 7 Z Z (lb 0 a)<|uu Z (S.pickT Z (lb 2 a) K)<|?_
  exact jk kk (oT a)
 refine ug Z Z (lb 0 a) (S.move Z l4)<|ug Z Z (lb 1 a) (S.eqlI Z l0 K)<|uu Z (S.pickF Z (lb 2 a) l0)<|?_
 exact jk kk (oF a)
theorem wk_window_memory {V : Vw} {Rs : List At} {d : Int} {r : Bool} (h : window_memory d = some r) (gl : Glb V) (ow : Ow V (Rs)) : CT 42 #[.int .i64 d] V fun v V' => v = .bool r ∧ Ow V' (Rs) := by
 refine Ct.of gl.lo Tryd.func42 Z nle ?_
 unfold window_memory at h
 refine rg<|ag Z K<|dn<|rg<|mv Z l1<|?_
 refine cb Z en33 (a1 l0) h (wk_window_load · gl ow) ?_
 rintro B j A x b ⟨rfl, c⟩
 refine mv Z l0<|?_
 obtain ⟨s, l, f⟩ := bindS j
 refine jY 6 (jv 8 (.bool s)<|jr 7 2 []) (Rs) (fun y u n p => ?_) fun kk => ?_
 ·refine ag Z l0<|dn<|wr<|?_
  have m := b.t n
  obtain rfl := si f
  exact fS l0 ⟨_, Z, m, Z, p⟩
 refine gi l0 l (fun a g => ?_) fun a i => ?_
 ·refine uxs 2 7 Z Z (lb 0 a)<|uu Z (S.pickT Z (lb 2 a) K)<|?_
  obtain rfl := si g
  exact jm kk Z (.refl _) c
 refine ug Z Z (lb 0 a) (S.move Z l4)<|?_
 have e := gl.up b
 refine cbg Z Z (lb 1 a) en35 (a1 l0) i (wk_window_store · e c) ?_
 rintro C k z w o ⟨rfl, q⟩
 refine uu Z (S.pickF Z (lb 2 a) l0)<|?_
 obtain rfl := si k
 exact jm kk Z o q
theorem wk_window_Window_MayCommit_c3 {V : Vw} {Rs : List At} {b : TSlot} {r : Bool} (h : window_Window_MayCommit_c3 b = some r) (gl : Glb V) (ow : Ow V (Rs)) : CT 41 #[.agg (C0 b).toArray] V fun v V' => v = .bool r ∧ Ow V' (Rs) := by
 refine Ct.of gl.lo Tryd.func41 Z nle ?_
 unfold window_Window_MayCommit_c3 at h
 refine rg<|?_
 refine O.box ow Z Z (.inl Z) Z l0 (by simp [topV]) Z nd (fun p o c e => ?_)
 refine ag Z K<|dn<|rg<|fa 2 Z l1 T67 Z ti56<|fa 2 Z l0 T56 Z ti3<|ld Z l0 T3 e 0<|?_
 have f := gl.up c
 refine cb Z en42 (a1 l0) h (wk_window_memory · f e) ?_
 rintro m g s n j ⟨rfl, d⟩
 refine mv Z l0<|?_
 refine jX 9 (jv 11 (.bool (m && (!b.committed)))<|jr 10 3 []) (fun q => ?_) fun kk => ?_
 ·refine ag Z l0<|dn<|wr<|?_
  have i := c.t j
  have l := d.sel 1 []
  cases g
  exact fS l0 ⟨_, Z, i, Z, l⟩
 refine gs l0 (fun a => ?_) fun a => ?_
 ·refine fg Z Z (lb 0 a) l6 T67 Z ti4<|kg Z Z (lb 1 a) (S.load Z l0 T4 Z ((d.own (k := 0) Z).cell Z))<|ug Z Z (lb 2 a) (S.not Z l0)<|uu Z (S.pickT Z (lb 3 a) l0)<|?_
  exact jk kk (aT a)
 refine uxs 3 10 Z Z (lb 0 a)<|uu Z (S.pickF Z (lb 3 a) K)<|?_
 exact jk kk (aF a)
theorem wk_slices_IndexFunc_5 {V : Vw} {Rs : List At} {a : List TSlot} {d : Value} {f : List TSlot} {m : Value} {r : Int} (h : slices_IndexFunc_5 a = some r) (gl : Glb V) (o : Apt d f 18 m a) (ow : Ow V (.os RT_TSlot d f :: Rs)) : CT 64 #[m, .func (.func 41) #[] #[]] V fun v V' => v = .int .i64 r ∧ Ow V' (.os RT_TSlot d f :: Rs) := by
 refine Ct.of gl.lo Tryd.func64 Z nle ?_
 unfold slices_IndexFunc_5 at h
 refine rg<|ag Z K<|dn<|ws<|rg<|mv Z l1<|uu Z (o.len Z l0 T40)<|mv Z K<|dn<|wb<|?_
 unfold slices_IndexFunc_5_l1 at h
 obtain ⟨ad, hn7⟩ := loopO_some.1 h
 refine WP.loopI2 (fun n l V' => ∃ (e : Int), l = [(0, m), (1, .func (.func 41) #[] #[]), (7, .int .i64 (a.length : Int)), (8, .int .i64 e)] ∧ V.le V' ∧ Ow V' (.os RT_TSlot d f :: Rs) ∧ itO (fun s => slices_IndexFunc_5_l1b a s) n e = some r) ad _ ⟨0, Z, .refl _, ow, hn7⟩ (allCons l4 (allCons l5 (allCons l1 (allCons l0 allNil)))) ?_
 rintro _ _ w ⟨e, rfl, c, j, B⟩
 obtain ⟨ac, ae, rfl, b, g⟩ := itS B
 replace b : slices_IndexFunc_5_l1b a e = some ae := b
 unfold slices_IndexFunc_5_l1b at b
 refine rg<|uu Z (S.lss Z l3 l2)<|dn<|ws<|?_
 refine cd l0 b (fun x C => ?_) (fun x I => ?_)
 ·refine wn<|sqN<|ws<|wb<|rg<|mv Z l4<|ag Z l0<|dn<|rg<|mv Z l4<|mv Z l4<|mv Z l2<|?_
  obtain ⟨u, i, D⟩ := bindS C
  obtain ⟨ah, al, ak, Q, W, X⟩ := o.at i
  refine uu Z (S.index Z ((lk 1).trans W) l0 T40 ti67 (ix_ge i) (ix_lt i))<|?_
  obtain ⟨z, aj, ai, P, M⟩ := j.osel (k := 0) Z Q X
  obtain rfl : z = (C0 u) := P
  refine uk Z (S.loadN (cs := (C0 u)) Z l0 T67 Z ti67 Z M)<|?_
  have A := gl.up c
  obtain ⟨an, Y, E⟩ := bindS D
  refine O.callv (V := w) Z Z (.inl Z) Z l4 en41 (aC l0 aN) (wk_window_Window_MayCommit_c3 Y A j) (fun _ _ _ _ => nd) (fun am af p N => ?_)
  obtain ⟨rfl, q⟩ := N
  refine dn<|?_
  refine cd l0 E (fun y F => ?_) (fun y H => ?_)
  ·refine rg<|mv Z l6<|ag Z l0<|dn<|wr<|blkR<|sqR<|sqR<|blkR<|sqR<|?_
   have G := exitS F g
   have aa := c.t p
   obtain rfl := si G
   exact fS l0 ⟨_, Z, aa, Z, q⟩
  refine wn<|blkN<|sqN<|rh<|uu Z (S.add Z (lk 12) K)<|mv Z l0<|dn<|sqN<|?_
  have ab := c.t p
  exact ⟨_, _, Z, ⟨ac, Nat.lt_succ_self _, _, Z, ab, q, backS H g⟩, allR⟩
 refine we<|sqE<|sqE<|blkE<|sqN<|?_
 have J := exitS I g
 refine rg<|ag Z K<|dn<|wr<|?_
 cases J
 exact fS l0 ⟨_, Z, c, Z, j⟩
theorem wk_slices_ContainsFunc_5 {V : Vw} {Rs : List At} {c : List TSlot} {a : Value} {b : List TSlot} {d : Value} {r : Bool} (h : slices_ContainsFunc_5 c = some r) (gl : Glb V) (e : Apt a b 18 d c) (ow : Ow V (.os RT_TSlot a b :: Rs)) : CT 28 #[d, .func (.func 41) #[] #[]] V fun v V' => v = .bool r ∧ Ow V' (.os RT_TSlot a b :: Rs) := by
 refine Ct.of gl.lo Tryd.func28 Z nle ?_
 unfold slices_ContainsFunc_5 at h
 refine rg<|ag Z K<|dn<|rg<|mv Z l1<|mv Z l3<|?_
 refine cb Z en64 (a2 l1 l0) h (wk_slices_IndexFunc_5 · gl e ow) ?_
 rintro l f k j g ⟨rfl, i⟩
 refine uu Z (S.geq Z l0 K)<|ag Z l0<|dn<|wr<|?_
 cases f
 exact fS l0 ⟨_, Z, g, Z, i⟩
theorem wk_window_Window_base {V : Vw} {Rs : List At} {a : Twindow_Window} {g i : Int} {b l : Nat} {d e f j k : Value} {r : Int × Bool} (h : window_Window_base a g i = some r) (gl : Glb V) (m : Fz (RT.int .u32) V d a.img.code) (n : Fz RT_TNote V e a.img.notes) (o : Fz (RT.int .i64) V f a.img.threads) (ow : Ow V (WA b l d e f j k a Rs)) : CT 68 #[.pointer (some ⟨b, 0, none⟩), .int .i64 g, .int .i64 i] V fun v V' => v = .tuple #[.int .i64 r.1, .bool r.2] ∧ Ow V' (WA b l d e f j k a Rs) := by
 refine Ct.of gl.lo Tryd.func68 Z nle ?_
 unfold window_Window_base at h
 refine rg<|ag Z K<|ag Z K<|dn<|ws<|rg<|mv Z l4<|uu Z (S.eqlI Z l0 K)<|dn<|?_
 refine WP.cond _ l0 Z (fun c => ?_) (fun c => ?_)
 ·have p := ifT c h
  refine rg<|ag Z K<|ag Z K<|dn<|wr<|sqR<|?_
  cases p
  exact fM (fsC l1 (fsC l0 fsN)) Z ⟨_, Z, (.refl _), Z, ow⟩
 have q := ifF c h
 refine wn<|sqN<|rg<|mv Z l4<|mv Z l6<|mv Z l8<|?_
 refine cb Z en31 (a3 l2 l1 l0) q (wk_window_Window_reg · gl m n o ow) ?_
 rintro y s x w t ⟨rfl, u⟩
 refine uu Z (S.extract Z l0 Z nle)<|uu Z (S.extract Z l1 Z nle)<|ag Z l1<|ag Z l1<|dn<|wr<|?_
 cases s
 exact fM (fsC l1 (fsC l0 fsN)) Z ⟨_, Z, t, Z, u⟩
theorem wk_window_Window_place {V : Vw} {Rs : List At} {e : Twindow_Window} {G : Int} {n J : Nat} {o p q H I : Value} {r : Int × Bool} (h : window_Window_place e G = some r) (gl : Glb V) (x : Fz (RT.int .u32) V o e.img.code) (y : Fz RT_TNote V p e.img.notes) (z : Fz (RT.int .i64) V q e.img.threads) (ow : Ow V (WA n J o p q H I e Rs)) : CT 36 #[.pointer (some ⟨n, 0, none⟩), .int .i64 G] V fun v V' => v = .tuple #[.int .i64 r.1, .bool r.2] ∧ Ow V' (WA n J o p q H I e Rs) := by
 refine Ct.of gl.lo Tryd.func36 Z nle ?_
 unfold window_Window_place at h
 refine rg<|ag Z K<|ag Z K<|dn<|rg<|mv Z l2<|uu Z (S.nilCheck Z l0)<|fa 38 Z l0 T54 Z ti40<|ld Z l0 T40 ow 0<|mv Z l7<|?_
 obtain ⟨a, f, ad⟩ := bindS h
 obtain ⟨aK, aR, aQ, aM, B⟩ := ow.ospt (k := 1) Z f
 obtain ⟨_, am, _⟩ := ow.osel (k := 1) Z B f
 refine uu Z (S.index Z ((lk 1).trans am) l0 T40 ti67 (ix_ge f) (ix_lt f))<|fe Z l0 T67 Z ti56<|?_
 obtain ⟨N, aP, aO, al, ak⟩ := ow.osel (k := 1) Z B f
 obtain rfl : N = (C0 a) := al
 refine uk Z (S.loadN (cs := (C2 a.i)) Z l0 T56 Z ti56 Z (fun j v hj => by rw [Nat.add_assoc]; exact ak (2 + j) v (partG (ps := [.int .i64 a.seq, .int .i64 a.pc]) (ys := [.int .i64 a.note.role, .int .i64 a.note.what, .bool a.note.volatile, .bool a.note.final, .int .i64 a.next, .bool a.done, .bool a.committed, .int .i64 a.val, .int .i64 a.at_, .int .i64 a.from_, .int .i64 a.id]) 2 hj Z)))<|?_
 refine O.alloc ow Z Z (.inl Z) Z ti56 Z Z nd (fun aL aE C au => ?_)
 refine st 0 au Z l0 l1 ti56 (fun aG D d => ?_)
 refine dn<|ws<|rg<|fa 0 Z l0 T56 Z ti3<|ld Z l0 T3 d 0<|uu Z (S.eqlI Z l0 K)<|mv Z l0<|?_
 refine jX 8 (jv 28 (.bool ((decide (a.i.op = 16)) || (decide (a.i.op = 17))))<|jr 27 3 []) (fun aS => ?_) fun kk => ?_
 ·refine dn<|?_
  refine cd l0 ad (fun M ae => ?_) (fun M ai => ?_)
  ·refine rg<|mv Z (lk 19)<|mv Z (lk 21)<|fa 2 Z (lk 10) T56 Z ti3<|ld Z l0 T3 d 0<|?_
   have g := C.t D
   have s := x.up g
   have u := y.up g
   have w := z.up g
   have av := d.sel 4 [1, 2, 3, 0]
   have A := gl.up g
   refine cb Z en68 (a3 l3 l2 l0) ae (wk_window_Window_base · A s u w av) ?_
   rintro aB af aW aH m ⟨rfl, E⟩
   refine mv Z l0<|uu Z (S.extract Z l0 Z nle)<|uu Z (S.extract Z l1 Z nle)<|ag Z l1<|ag Z l1<|dn<|rg<|mv Z (lk 29)<|mv Z (lk 31)<|fa 3 Z (lk 20) T56 Z ti3<|ld Z l0 T3 E 3<|?_
   have P := s.up m
   have Q := u.up m
   have W := w.up m
   have ab := A.up m
   refine cb Z en31 (a3 l3 l2 l0) af (wk_window_Window_reg · ab P Q W E) ?_
   rintro aD ah aX aI aq ⟨rfl, aw⟩
   refine mv Z l0<|uu Z (S.extract Z l0 Z nle)<|uu Z (S.extract Z l1 Z nle)<|ag Z l1<|ag Z l1<|dn<|rg<|mv Z (lk 11)<|mv Z l2<|uu Z (S.add Z l1 l0)<|mv Z (lk 13)<|mv Z l0<|?_
   refine jX 7 (jv 51 (.bool (aB.2 && aD.2))<|jr 50 1 []) (fun aU => ?_) fun kk => ?_
   ·refine ag Z l4<|ag Z l1<|dn<|wr<|sqR<|?_
    have an := (g.t m).t aq
    have ax := aw.sel 4 [0, 1, 2]
    cases ah
    exact fM (fsC l1 (fsC l0 fsN)) Z ⟨_, Z, an, Z, ax⟩
   refine gs l0 (fun c => ?_) fun c => ?_
   ·refine ug Z Z (lb 0 c) (S.move Z l5)<|uu Z (S.pickT Z (lb 1 c) l0)<|?_
    exact jk kk (aT c)
   refine ux Z Z (lb 0 c)<|uu Z (S.pickF Z (lb 1 c) K)<|?_
   exact jk kk (aF c)
  refine wn<|sqN<|rg<|mv Z (lk 19)<|mv Z (lk 21)<|fa 2 Z (lk 10) T56 Z ti3<|ld Z l0 T3 d 0<|?_
  have l := C.t D
  have X := x.up l
  have Y := y.up l
  have aa := z.up l
  have ay := d.sel 4 [1, 2, 3, 0]
  have ac := gl.up l
  refine cb Z en68 (a3 l3 l2 l0) ai (wk_window_Window_base · ac X Y aa ay) ?_
  rintro aZ aj aY aJ ar ⟨rfl, F⟩
  refine mv Z l0<|uu Z (S.extract Z l0 Z nle)<|uu Z (S.extract Z l1 Z nle)<|ag Z l1<|ag Z l1<|dn<|rg<|mv Z l1<|fa 4 Z (lk 19) T56 Z ti3<|ld Z l0 T3 F 3<|uu Z (S.add Z l2 l0)<|mv Z l4<|ag Z l1<|ag Z l1<|dn<|wr<|?_
  have ao := l.t ar
  have az := F.sel 4 [0, 1, 2]
  cases aj
  exact fM (fsC l1 (fsC l0 fsN)) Z ⟨_, Z, ao, Z, az⟩
 refine gs l0 (fun b => ?_) fun b => ?_
 ·refine uxs 3 27 Z Z (lb 0 b)<|uu Z (S.pickT Z (lb 3 b) K)<|?_
  exact jk kk (oT b)
 refine fg Z Z (lb 0 b) l4 T56 Z ti3<|kg Z Z (lb 1 b) (S.load Z l0 T3 Z ((d.own (k := 0) Z).cell Z))<|ug Z Z (lb 2 b) (S.eqlI Z l0 K)<|uu Z (S.pickF Z (lb 3 b) l0)<|?_
 exact jk kk (oF b)
theorem wk_window_Window_known {V : Vw} {Rs : List At} {a : Twindow_Window} {J : Int} {e B : Nat} {i j m g A : Value} {r : Bool} (h : window_Window_known a J = some r) (gl : Glb V) (X : Fz (RT.int .u32) V i a.img.code) (ac : Fz RT_TNote V j a.img.notes) (ad : Fz (RT.int .i64) V m a.img.threads) (ow : Ow V (WA e B i j m g A a Rs)) : CT 43 #[.pointer (some ⟨e, 0, none⟩), .int .i64 J] V fun v V' => v = .bool r ∧ Ow V' (WA e B i j m g A a Rs) := by
 refine Ct.of gl.lo Tryd.func43 Z nle ?_
 unfold window_Window_known at h
 refine rg<|ag Z K<|dn<|ws<|rg<|mv Z l1<|uu Z (S.nilCheck Z l0)<|fa 38 Z l0 T54 Z ti40<|ld Z l0 T40 ow 0<|mv Z l6<|?_
 obtain ⟨q, F, E⟩ := bindS h
 refine O.subA (k := 1) ow Z F Z Z (.inl Z) Z l1 T40 ti67 ⟨.inl ⟨Z, Z⟩, .inr ⟨_, _, Z, l0⟩, .inl Z⟩ (fun M ha18 => ?_)
 have C : Apt g a.slots 18 M q := .of F ha18
 refine uu Z (C.len Z l0 T40)<|mv Z K<|dn<|wb<|?_
 unfold window_Window_known_l1 at E
 obtain ⟨aG, hn21⟩ := loopO_some.1 E
 refine WP.loopI2 (fun n l V' => ∃ (o : Int), l = [(0, .pointer (some ⟨e, 0, none⟩)), (14, M), (15, .int .i64 (q.length : Int)), (16, .int .i64 o)] ∧ V.le V' ∧ Ow V' (WA e B i j m g A a Rs) ∧ itO (fun s => window_Window_known_l1b a q s) n o = some r) aG _ ⟨0, Z, .refl _, ow, hn21⟩ (allCons l9 (allCons l2 (allCons l1 (allCons l0 allNil)))) ?_
 rintro _ _ aP ⟨o, rfl, G, y, af⟩
 obtain ⟨aE, aM, rfl, f, u⟩ := itS af
 replace f : window_Window_known_l1b a q o = some aM := f
 unfold window_Window_known_l1b at f
 refine rg<|uu Z (S.lss Z l3 l2)<|dn<|ws<|?_
 refine cd l0 f (fun P ah => ?_) (fun P ao => ?_)
 ·refine wn<|sqN<|ws<|wb<|rg<|mv Z l4<|?_
  obtain ⟨p, w, ai⟩ := bindS ah
  obtain ⟨aW, a6, a0, av, aw, ax⟩ := C.at w
  refine uu Z (S.index Z ((lk 3).trans aw) l5 T40 ti67 (ix_ge w) (ix_lt w))<|?_
  obtain ⟨W, aZ, aY, au, ar⟩ := y.osel (k := 1) Z av ax
  obtain rfl : W = (C0 p) := au
  refine uk Z (S.loadN (cs := (C0 p)) Z l0 T67 Z ti67 Z ar)<|?_
  refine O.alloc y Z Z (.inl Z) Z ti67 Z Z nd (fun aX aQ aB aH => ?_)
  refine ag Z l3<|?_
  refine st 0 aH Z l1 l2 ti67 (fun aR aD aI => ?_)
  refine dn<|rg<|mv Z l6<|mv Z l1<|?_
  have d := (G.t aB).t aD
  have Y := X.up d
  have aa := ac.up d
  have ab := ad.up d
  have aJ := aI.sel 4 [1, 2, 3, 0]
  have D := gl.up d
  refine cb Z en36 (a2 l1 l0) ai (wk_window_Window_place · D Y aa ab aJ) ?_
  rintro aO aj a9 aS x ⟨rfl, I⟩
  refine mv Z l0<|uu Z (S.extract Z l0 Z nle)<|uu Z (S.extract Z l1 Z nle)<|ag Z l1<|ag Z l1<|dn<|rg<|fa 2 Z l9 T67 Z ti56<|fa 2 Z l0 T56 Z ti3<|ld Z l0 T3 I 3<|?_
  have ae := D.up x
  refine cb Z en42 (a1 l0) aj (wk_window_memory · ae I) ?_
  rintro N ak ba aU H ⟨rfl, z⟩
  refine mv Z l0<|?_
  refine jX 9 (jv 35 (.bool (N && (!p.committed)))<|jr 34 3 []) (fun a7 => ?_) fun kk => ?_
  ·refine mv Z l0<|?_
   refine jX 13 (jv 39 (.bool ((N && (!p.committed)) && (!aO.2)))<|jr 38 2 []) (fun a8 => ?_) fun kk => ?_
   ·refine dn<|?_
    refine cd l0 ak (fun Q al => ?_) (fun Q an => ?_)
    ·refine rg<|ag Z K<|dn<|wr<|blkR<|sqR<|sqR<|blkR<|sqR<|?_
     have am := exitS al u
     have ay := (d.t x).t H
     have aK := z.sel 4 [0, 1, 2]
     obtain rfl := si am
     exact fS l0 ⟨_, Z, ay, Z, aK⟩
    refine wn<|blkN<|sqN<|rh<|uu Z (S.add Z (lk 30) K)<|mv Z l0<|dn<|sqN<|?_
    have aL := z.sel 4 [0, 1, 2]
    have az := (d.t x).t H
    exact ⟨_, _, Z, ⟨aE, Nat.lt_succ_self _, _, Z, az, aL, backS an u⟩, allR⟩
   refine gs l0 (fun c => ?_) fun c => ?_
   ·refine ug Z Z (lb 0 c) (S.move Z (lk 10))<|ug Z Z (lb 1 c) (S.not Z l0)<|uu Z (S.pickT Z (lb 2 c) l0)<|?_
    exact jk kk (aT c)
   refine uxs 2 38 Z Z (lb 0 c)<|uu Z (S.pickF Z (lb 2 c) K)<|?_
   exact jk kk (aF c)
  refine gs l0 (fun b => ?_) fun b => ?_
  ·refine fg Z Z (lb 0 b) (lk 14) T67 Z ti4<|kg Z Z (lb 1 b) (S.load Z l0 T4 Z ((z.own (k := 3) Z).cell Z))<|ug Z Z (lb 2 b) (S.not Z l0)<|uu Z (S.pickT Z (lb 3 b) l0)<|?_
   exact jk kk (aT b)
  refine uxs 3 34 Z Z (lb 0 b)<|uu Z (S.pickF Z (lb 3 b) K)<|?_
  exact jk kk (aF b)
 refine we<|sqE<|sqE<|blkE<|sqN<|?_
 have aq := exitS ao u
 refine rg<|ag Z K<|dn<|wr<|?_
 obtain rfl := si aq
 exact fS l0 ⟨_, Z, G, Z, y⟩
theorem wk_window_Window_waits {V : Vw} {Rs : List At} {c : Twindow_Window} {z f : Int} {g C : Nat} {m o p A B : Value} {r : Int × Bool} (h : window_Window_waits c z f = some r) (gl : Glb V) (Q : Fz (RT.int .u32) V m c.img.code) (Y : Fz RT_TNote V o c.img.notes) (aa : Fz (RT.int .i64) V p c.img.threads) (ow : Ow V (WA g C m o p A B c Rs)) : CT 44 #[.pointer (some ⟨g, 0, none⟩), .int .i64 z, .int .i64 f] V fun v V' => v = .tuple #[.int .i64 r.1, .bool r.2] ∧ Ow V' (WA g C m o p A B c Rs) := by
 refine Ct.of gl.lo Tryd.func44 Z nle ?_
 unfold window_Window_waits at h
 refine rg<|ag Z K<|ag Z K<|dn<|ws<|rg<|mv Z l3<|uu Z (S.sub Z l0 K)<|ag Z l0<|dn<|wb<|?_
 unfold window_Window_waits_l1 at h
 obtain ⟨ay, hn15⟩ := loopO_some.1 h
 refine WP.loopI2 (fun n l V' => ∃ (q : Int), l = [(0, .pointer (some ⟨g, 0, none⟩)), (2, .int .i64 f), (8, .int .i64 q)] ∧ V.le V' ∧ Ow V' (WA g C m o p A B c Rs) ∧ itO (fun s => window_Window_waits_l1b c f s) n q = some r) ay _ ⟨w64 (z - 1), Z, .refl _, ow, hn15⟩ (allCons l5 (allCons l7 (allCons l0 allNil))) ?_
 rintro _ _ aJ ⟨q, rfl, F, e, ac⟩
 obtain ⟨ax, aH, rfl, j, w⟩ := itS ac
 replace j : window_Window_waits_l1b c f q = some aH := j
 unfold window_Window_waits_l1b at j
 refine ws<|rg<|mv Z l2<|uu Z (S.geq Z l0 K)<|dn<|?_
 refine cd l0 j (fun J ad => ?_) (fun J al => ?_)
 ·refine wn<|sqN<|ws<|wb<|rg<|mv Z l2<|uu Z (S.nilCheck Z l0)<|fa 38 Z l0 T54 Z ti40<|ld Z l0 T40 e 0<|mv Z l8<|?_
  obtain ⟨u, i, ae⟩ := bindS ad
  obtain ⟨aP, aX, aW, aR, E⟩ := e.ospt (k := 1) Z i
  obtain ⟨_, aq, _⟩ := e.osel (k := 1) Z E i
  refine uu Z (S.index Z ((lk 1).trans aq) l0 T40 ti67 (ix_ge i) (ix_lt i))<|?_
  obtain ⟨N, aU, aS, ao, an⟩ := e.osel (k := 1) Z E i
  obtain rfl : N = (C0 u) := ao
  refine uk Z (S.loadN (cs := (C0 u)) Z l0 T67 Z ti67 Z an)<|?_
  refine O.alloc e Z Z (.inl Z) Z ti67 Z Z nd (fun aQ aK av az => ?_)
  refine st 0 az Z l0 l1 ti67 (fun aL aw aB => ?_)
  refine dn<|rg<|mv Z (lk 10)<|mv Z (lk 13)<|?_
  have d := (F.t av).t aw
  have P := Q.up d
  have W := Y.up d
  have X := aa.up d
  have aD := aB.sel 4 [1, 2, 3, 0]
  have D := gl.up d
  refine cb Z en36 (a2 l1 l0) ae (wk_window_Window_place · D P W X aD) ?_
  rintro aI af a0 aM x ⟨rfl, H⟩
  refine mv Z l0<|uu Z (S.extract Z l0 Z nle)<|uu Z (S.extract Z l1 Z nle)<|ag Z l1<|ag Z l1<|dn<|rg<|fa 2 Z l8 T67 Z ti56<|fa 2 Z l0 T56 Z ti3<|ld Z l0 T3 H 3<|?_
  have ab := D.up x
  refine cb Z en42 (a1 l0) af (wk_window_memory · ab H) ?_
  rintro I ah a6 aO G ⟨rfl, y⟩
  refine mv Z l0<|?_
  refine jX 9 (jv 39 (.bool (I && (!u.committed)))<|jr 38 3 []) (fun aY => ?_) fun kk => ?_
  ·refine mv Z l0<|?_
   refine jX 14 (jv 44 (.bool ((I && (!u.committed)) && (decide (aI.1 = f))))<|jr 43 3 []) (fun aZ => ?_) fun kk => ?_
   ·refine dn<|?_
    refine cd l0 ah (fun M ai => ?_) (fun M ak => ?_)
    ·refine rg<|mv Z (lk 34)<|ag Z l0<|ag Z K<|dn<|wr<|blkR<|sqR<|sqR<|blkR<|sqR<|?_
     have aj := exitS ai w
     have ar := (d.t x).t G
     have aE := y.sel 4 [0, 1, 2]
     cases aj
     exact fM (fsC l1 (fsC l0 fsN)) Z ⟨_, Z, ar, Z, aE⟩
    refine wn<|blkN<|sqN<|rh<|mv Z (lk 34)<|uu Z (S.sub Z l0 K)<|ag Z l0<|dn<|sqN<|?_
    have aG := y.sel 4 [0, 1, 2]
    have au := (d.t x).t G
    exact ⟨_, _, Z, ⟨ax, Nat.lt_succ_self _, _, Z, au, aG, backS ak w⟩, allR⟩
   refine gs l0 (fun a => ?_) fun a => ?_
   ·refine ug Z Z (lb 0 a) (S.move Z (lk 11))<|ug Z Z (lb 1 a) (S.move Z (lk 30))<|ug Z Z (lb 2 a) (S.eqlI Z l1 l0)<|uu Z (S.pickT Z (lb 3 a) l0)<|?_
    exact jk kk (aT a)
   refine uxs 3 43 Z Z (lb 0 a)<|uu Z (S.pickF Z (lb 3 a) K)<|?_
   exact jk kk (aF a)
  refine gs l0 (fun b => ?_) fun b => ?_
  ·refine fg Z Z (lb 0 b) (lk 13) T67 Z ti4<|kg Z Z (lb 1 b) (S.load Z l0 T4 Z ((y.own (k := 3) Z).cell Z))<|ug Z Z (lb 2 b) (S.not Z l0)<|uu Z (S.pickT Z (lb 3 b) l0)<|?_
   exact jk kk (aT b)
  refine uxs 3 38 Z Z (lb 0 b)<|uu Z (S.pickF Z (lb 3 b) K)<|?_
  exact jk kk (aF b)
 refine we<|sqE<|sqE<|blkE<|sqN<|?_
 have am := exitS al w
 refine rg<|ag Z K<|ag Z K<|dn<|wr<|?_
 cases am
 exact fM (fsC l1 (fsC l0 fsN)) Z ⟨_, Z, F, Z, e⟩
theorem wk_window_Window_MayCommit_c4 {V : Vw} {Rs : List At} {b : TSlot} {r : Bool} (h : window_Window_MayCommit_c4 b = some r) (gl : Glb V) (ow : Ow V (Rs)) : CT 45 #[.agg (C0 b).toArray] V fun v V' => v = .bool r ∧ Ow V' (Rs) := by
 refine Ct.of gl.lo Tryd.func45 Z nle ?_
 unfold window_Window_MayCommit_c4 at h
 refine rg<|?_
 refine O.box ow Z Z (.inl Z) Z l0 (by simp [topV]) Z nd (fun g f d c => ?_)
 refine ag Z K<|dn<|rg<|fa 2 Z l1 T67 Z ti56<|fa 2 Z l0 T56 Z ti3<|ld Z l0 T3 c 0<|uu Z (S.eqlI Z l0 K)<|mv Z l0<|?_
 refine jX 9 (jv 11 (.bool ((decide (b.i.op = 16)) && (!b.committed)))<|jr 10 3 []) (fun j => ?_) fun kk => ?_
 ·refine ag Z l0<|dn<|wr<|?_
  have e := c.sel 1 []
  cases h
  exact fS l0 ⟨_, Z, d, Z, e⟩
 refine gs l0 (fun a => ?_) fun a => ?_
 ·refine fg Z Z (lb 0 a) l6 T67 Z ti4<|kg Z Z (lb 1 a) (S.load Z l0 T4 Z ((c.own (k := 0) Z).cell Z))<|ug Z Z (lb 2 a) (S.not Z l0)<|uu Z (S.pickT Z (lb 3 a) l0)<|?_
  exact jk kk (aT a)
 refine uxs 3 10 Z Z (lb 0 a)<|uu Z (S.pickF Z (lb 3 a) K)<|?_
 exact jk kk (aF a)
theorem wk_slices_IndexFunc_6 {V : Vw} {Rs : List At} {a : List TSlot} {d : Value} {f : List TSlot} {m : Value} {r : Int} (h : slices_IndexFunc_6 a = some r) (gl : Glb V) (o : Apt d f 18 m a) (ow : Ow V (.os RT_TSlot d f :: Rs)) : CT 64 #[m, .func (.func 45) #[] #[]] V fun v V' => v = .int .i64 r ∧ Ow V' (.os RT_TSlot d f :: Rs) := by
 refine Ct.of gl.lo Tryd.func64 Z nle ?_
 unfold slices_IndexFunc_6 at h
 refine rg<|ag Z K<|dn<|ws<|rg<|mv Z l1<|uu Z (o.len Z l0 T40)<|mv Z K<|dn<|wb<|?_
 unfold slices_IndexFunc_6_l1 at h
 obtain ⟨ad, hn7⟩ := loopO_some.1 h
 refine WP.loopI2 (fun n l V' => ∃ (e : Int), l = [(0, m), (1, .func (.func 45) #[] #[]), (7, .int .i64 (a.length : Int)), (8, .int .i64 e)] ∧ V.le V' ∧ Ow V' (.os RT_TSlot d f :: Rs) ∧ itO (fun s => slices_IndexFunc_6_l1b a s) n e = some r) ad _ ⟨0, Z, .refl _, ow, hn7⟩ (allCons l4 (allCons l5 (allCons l1 (allCons l0 allNil)))) ?_
 rintro _ _ w ⟨e, rfl, c, j, B⟩
 obtain ⟨ac, ae, rfl, b, g⟩ := itS B
 replace b : slices_IndexFunc_6_l1b a e = some ae := b
 unfold slices_IndexFunc_6_l1b at b
 refine rg<|uu Z (S.lss Z l3 l2)<|dn<|ws<|?_
 refine cd l0 b (fun x C => ?_) (fun x I => ?_)
 ·refine wn<|sqN<|ws<|wb<|rg<|mv Z l4<|ag Z l0<|dn<|rg<|mv Z l4<|mv Z l4<|mv Z l2<|?_
  obtain ⟨u, i, D⟩ := bindS C
  obtain ⟨ah, al, ak, Q, W, X⟩ := o.at i
  refine uu Z (S.index Z ((lk 1).trans W) l0 T40 ti67 (ix_ge i) (ix_lt i))<|?_
  obtain ⟨z, aj, ai, P, M⟩ := j.osel (k := 0) Z Q X
  obtain rfl : z = (C0 u) := P
  refine uk Z (S.loadN (cs := (C0 u)) Z l0 T67 Z ti67 Z M)<|?_
  have A := gl.up c
  obtain ⟨an, Y, E⟩ := bindS D
  refine O.callv (V := w) Z Z (.inl Z) Z l4 en45 (aC l0 aN) (wk_window_Window_MayCommit_c4 Y A j) (fun _ _ _ _ => nd) (fun am af p N => ?_)
  obtain ⟨rfl, q⟩ := N
  refine dn<|?_
  refine cd l0 E (fun y F => ?_) (fun y H => ?_)
  ·refine rg<|mv Z l6<|ag Z l0<|dn<|wr<|blkR<|sqR<|sqR<|blkR<|sqR<|?_
   have G := exitS F g
   have aa := c.t p
   obtain rfl := si G
   exact fS l0 ⟨_, Z, aa, Z, q⟩
  refine wn<|blkN<|sqN<|rh<|uu Z (S.add Z (lk 12) K)<|mv Z l0<|dn<|sqN<|?_
  have ab := c.t p
  exact ⟨_, _, Z, ⟨ac, Nat.lt_succ_self _, _, Z, ab, q, backS H g⟩, allR⟩
 refine we<|sqE<|sqE<|blkE<|sqN<|?_
 have J := exitS I g
 refine rg<|ag Z K<|dn<|wr<|?_
 cases J
 exact fS l0 ⟨_, Z, c, Z, j⟩
theorem wk_slices_ContainsFunc_6 {V : Vw} {Rs : List At} {c : List TSlot} {a : Value} {b : List TSlot} {d : Value} {r : Bool} (h : slices_ContainsFunc_6 c = some r) (gl : Glb V) (e : Apt a b 18 d c) (ow : Ow V (.os RT_TSlot a b :: Rs)) : CT 28 #[d, .func (.func 45) #[] #[]] V fun v V' => v = .bool r ∧ Ow V' (.os RT_TSlot a b :: Rs) := by
 refine Ct.of gl.lo Tryd.func28 Z nle ?_
 unfold slices_ContainsFunc_6 at h
 refine rg<|ag Z K<|dn<|rg<|mv Z l1<|mv Z l3<|?_
 refine cb Z en64 (a2 l1 l0) h (wk_slices_IndexFunc_6 · gl e ow) ?_
 rintro l f k j g ⟨rfl, i⟩
 refine uu Z (S.geq Z l0 K)<|ag Z l0<|dn<|wr<|?_
 cases f
 exact fS l0 ⟨_, Z, g, Z, i⟩
theorem wk_storage_Storage_Last {V : Vw} {Rs : List At} {a : Tstorage_Storage} {c : Int} {b n : Nat} {j l : Value} {f : List Value} {m : Value} {d : List Value} {g : Value} {e : List Value} {i : Value} {r : Int} (h : storage_Storage_Last a c = some r) (gl : Glb V) (ow : Ow V (SA b n j l f m d g e i a Rs)) : CT 46 #[.pointer (some ⟨b, 0, none⟩), .int .i64 c] V fun v V' => v = .int .i64 r ∧ Ow V' (SA b n j l f m d g e i a Rs) := by
 refine Ct.of gl.lo Tryd.func46 Z nle ?_
 unfold storage_Storage_Last at h
 refine rg<|ag Z K<|dn<|ws<|rg<|mv Z l1<|uu Z (S.nilP Z (.inl Z) l0 K T35)<|dn<|?_
 refine WP.cond false l0 Z (fun h => by cases h) (fun _ => ?_)
 refine wn<|sqN<|rg<|mv Z l3<|uu Z (S.nilCheck Z l0)<|fa 4 Z l0 T90 Z ti84<|ld Z l0 T84 ow 0<|mv Z l8<|?_
 refine O.lookup1 (k := 5) 0 ow Z Z Z (.inl Z) Z l1 l0 T84 T3 ti3 Z (cell_vrel Z) (fun o p => nd) (fun o s p q => ?_)
 obtain rfl : s = .int .i64 ((mG a.last c).getD 0) := (List.cons.inj (vrel_cell q)).1
 refine ag Z l0<|dn<|wr<|?_
 cases h
 exact fS l0 ⟨_, Z, (.refl _), Z, ow⟩
theorem wk_window_Window_MayCommit {V : Vw} {Rs : List At} {e : Twindow_Window} {bn : Int} {aD : Bool} {s : Tstorage_Storage} {o N : Nat} {w x y u E : Value} {p M : Nat} {F G : Value} {A : List Value} {H : Value} {B : List Value} {I : Value} {C : List Value} {J : Value} {r : Bool} (h : window_Window_MayCommit e bn aD s = some r) (gl : Glb V) (ae : Fz (RT.int .u32) V w e.img.code) (af : Fz RT_TNote V x e.img.notes) (ah : Fz (RT.int .i64) V y e.img.threads) (ow : Ow V (WA o N w x y u E e (SA p M F G A H B I C J s Rs))) : CT 10 #[.pointer (some ⟨o, 0, none⟩), .int .i64 bn, .bool aD, .pointer (some ⟨p, 0, none⟩)] V fun v V' => v = .bool r ∧ Ow V' (WA o N w x y u E e (SA p M F G A H B I C J s Rs)) := by
 refine Ct.of gl.lo Tryd.func10 Z nle ?_
 unfold window_Window_MayCommit at h
 refine rg<|ag Z K<|dn<|ws<|rg<|mv Z l1<|mv Z l3<|?_
 refine cb Z en32 (a2 l1 l0) h (wk_window_Window_slot · gl ae af ah ow) ?_
 rintro bp cF fw eG bg ⟨rfl, d⟩
 refine uu Z (S.not Z l0)<|mv Z l0<|?_
 obtain ⟨eq, di, cU⟩ := bindS cF
 refine jX 15 (jv 29 (.bool eq)<|jr 28 9 []) (fun fk => ?_) fun kk => ?_
 ·refine mv Z l0<|?_
  obtain ⟨er, dj, cV⟩ := bindS cU
  refine jX 25 (jv 39 (.bool er)<|jr 38 8 []) (fun fl => ?_) fun kk => ?_
  ·refine dn<|?_
   refine cd l0 cV (fun bz cW => ?_) (fun bz cX => ?_)
   ·refine rg<|ag Z K<|dn<|wr<|sqR<|?_
    obtain rfl := si cW
    exact fS l0 ⟨_, Z, bg, Z, d⟩
   refine wn<|sqN<|rg<|mv Z (lk 26)<|uu Z (S.nilCheck Z l0)<|fa 38 Z l0 T54 Z ti40<|ld Z l0 T40 d 0<|mv Z (lk 31)<|?_
   obtain ⟨n, al, cY⟩ := bindS cX
   obtain ⟨eO, e9, e6, eR, a8⟩ := d.ospt (k := 1) Z al
   obtain ⟨_, db, _⟩ := d.osel (k := 1) Z a8 al
   refine uu Z (S.index Z ((lk 1).trans db) l0 T40 ti67 (ix_ge al) (ix_lt al))<|?_
   obtain ⟨bD, eX, eU, c8, c5⟩ := d.osel (k := 1) Z a8 al
   obtain rfl : bD = (C0 n) := c8
   refine uk Z (S.loadN (cs := (C0 n)) Z l0 T67 Z ti67 Z c5)<|?_
   refine O.alloc d Z Z (.inl Z) Z ti67 Z Z nd (fun ad eJ dE ec => ?_)
   refine st 0 ec Z l0 l1 ti67 (fun eK dF aL => ?_)
   refine dn<|rg<|mv Z (lk 34)<|uu Z (S.nilCheck Z l0)<|fa 38 Z l0 T54 Z ti40<|ld Z l0 T40 aL 1<|mv Z (lk 39)<|?_
   obtain ⟨ek, a9, cZ⟩ := bindS cY
   refine O.subA (k := 2) aL Z a9 Z Z (.inl Z) Z l1 T40 ti67 ⟨.inl ⟨Z, Z⟩, .inr ⟨_, _, Z, l0⟩, .inl Z⟩ (fun eh ha80 => ?_)
   have ar : Apt u e.slots 18 eh ek := .of a9 ha80
   refine ag Z l0<|dn<|ws<|rg<|mv Z l0<|?_
   have ed := aL.sel 10 [2, 0, 1, 3, 4, 5, 6, 7, 8, 9]
   have ab := (bg.t dE).t dF
   have ai := gl.up ab
   refine cb Z en28 (a2 l0 Fu) cZ (wk_slices_ContainsFunc_2 · ai ar ed) ?_
   rintro fL c0 fz br q ⟨rfl, ac⟩
   refine dn<|?_
   refine cd l0 c0 (fun bA c1 => ?_) (fun bA c2 => ?_)
   ·refine rg<|ag Z K<|dn<|wr<|sqR<|?_
    have du := ab.t q
    have ee := ac.sel 10 [2, 0, 3, 4, 5, 6, 7, 8, 9]
    obtain rfl := si c1
    exact fS l0 ⟨_, Z, du, Z, ee⟩
   refine wn<|sqN<|?_
   refine WP.seqI (fun l V' => l = [] ∧ br.le V' ∧ Ow V' (WA o N w x y u E e (SA p M F G A H B I C J s Rs)) ∧ window_Window_MayCommit_k1  = some r) ?_ ?_
   ·rintro _ eL ⟨rfl, dG, ef, aZ⟩
    unfold window_Window_MayCommit_k1 at aZ
    refine rg<|ag Z K<|dn<|wr<|?_
    have dk := (ab.t q).t dG
    obtain rfl := si aZ
    exact fS l0 ⟨_, Z, dk, Z, ef⟩
   refine rg<|fa 2 Z l9 T67 Z ti56<|fa 2 Z l0 T56 Z ti3<|ld Z l0 T3 ac 1<|ag Z l0<|dn<|wb<|rg<|mv Z l0<|uu Z (S.eqlI Z l0 K)<|mv Z l0<|?_
   refine jX 6 (jv 64 (.bool ((decide (n.i.op = 22)) || (decide (n.i.op = 21))))<|jr 63 2 []) (fun fb => ?_) fun kk => ?_
   ·refine ag Z l0<|dn<|?_
    refine cd l0 c2 (fun bs bZ => ?_) (fun bs b5 => ?_)
    ·refine rg<|mv Z (lk 54)<|mv Z (lk 56)<|mv Z (lk 59)<|?_
     have av := ab.t q
     have bE := ae.up av
     have bF := af.up av
     have bG := ah.up av
     have dH := ac.sel 10 [2, 0, 3, 4, 5, 6, 7, 8, 9, 1]
     have aS := ai.up q
     refine cb Z en39 (a3 l2 l1 l0) bZ (wk_window_Window_fenced · aS bE bF bG dH) ?_
     rintro fA b0 fm es ba ⟨rfl, bh⟩
     refine mv Z l0<|?_
     obtain ⟨el, dd, b1⟩ := bindS b0
     refine jY 9 (jv 73 (.bool el)<|jr 72 3 []) (WA o N w x y u E e (SA p M F G A H B I C J s (.pt ad (.cells 18 (C0 n)) :: Rs))) (fun fc et dv dI => ?_) fun kk => ?_
     ·refine ag Z l0<|dn<|wr<|blkR<|sqR<|?_
      have dl := (av.t ba).t dv
      have dJ := dI.sel 10 [0, 1, 2, 3, 4, 5, 6, 7, 8]
      obtain rfl := si b1
      exact fS l0 ⟨_, Z, dl, Z, dJ⟩
     refine gi l0 dd (fun X b2 => ?_) fun X b3 => ?_
     ·refine ug Z Z (lb 0 X) (S.move Z (lk 18))<|?_
      have dK := bh.sel 10 [1, 0, 2, 3, 4, 5, 6, 7, 8, 9]
      have bT := aS.up ba
      refine cbg Z Z (lb 1 X) en28 (a2 l0 Fu) b2 (wk_slices_ContainsFunc_4 · bT ar dK) ?_
      rintro fB b4 fn eu dw ⟨rfl, dL⟩
      refine ug Z Z (lb 2 X) (S.not Z l0)<|uu Z (S.pickT Z (lb 3 X) l0)<|?_
      cases b4
      have dM := dL.sel 10 [1, 0, 2, 3, 4, 5, 6, 7, 8, 9]
      exact jm kk Z dw dM
     refine uxs 3 72 Z Z (lb 0 X)<|uu Z (S.pickF Z (lb 3 X) K)<|?_
     obtain rfl := si b3
     exact jm kk Z (.refl _) bh
    refine rg<|mv Z l7<|uu Z (S.eqlI Z l0 K)<|mv Z l0<|?_
    refine jX 6 (jv 80 (.bool ((decide (n.i.op = 18)) || (decide (n.i.op = 19))))<|jr 79 2 []) (fun fd => ?_) fun kk => ?_
    ·refine ag Z l0<|dn<|?_
     refine cd l0 b5 (fun bt b6 => ?_) (fun bt ce => ?_)
     ·refine rg<|mv Z (lk 61)<|mv Z (lk 63)<|mv Z (lk 66)<|?_
      have aw := ab.t q
      have bH := ae.up aw
      have bI := af.up aw
      have bJ := ah.up aw
      have dN := ac.sel 10 [2, 0, 3, 4, 5, 6, 7, 8, 9, 1]
      have aU := ai.up q
      refine cb Z en39 (a3 l2 l1 l0) b6 (wk_window_Window_fenced · aU bH bI bJ dN) ?_
      rintro fC b7 fo ev bb ⟨rfl, bi⟩
      refine mv Z l0<|?_
      obtain ⟨em, de, b8⟩ := bindS b7
      refine jY 9 (jv 89 (.bool em)<|jr 88 3 []) (WA o N w x y u E e (SA p M F G A H B I C J s (.pt ad (.cells 18 (C0 n)) :: Rs))) (fun ff ew dx dO => ?_) fun kk => ?_
      ·refine ag Z l0<|dn<|wr<|blkR<|sqR<|?_
       have dm := (aw.t bb).t dx
       have dP := dO.sel 10 [0, 1, 2, 3, 4, 5, 6, 7, 8]
       obtain rfl := si b8
       exact fS l0 ⟨_, Z, dm, Z, dP⟩
      refine gi l0 de (fun Y b9 => ?_) fun Y ca => ?_
      ·refine ug Z Z (lb 0 Y) (S.move Z (lk 25))<|?_
       have dQ := bi.sel 10 [1, 0, 2, 3, 4, 5, 6, 7, 8, 9]
       have bU := aU.up bb
       refine cbg Z Z (lb 1 Y) en28 (a2 l0 Fu) b9 (wk_slices_ContainsFunc_5 · bU ar dQ) ?_
       rintro fD cc fp ex dy ⟨rfl, dR⟩
       refine ug Z Z (lb 2 Y) (S.not Z l0)<|uu Z (S.pickT Z (lb 3 Y) l0)<|?_
       cases cc
       have dS := dR.sel 10 [1, 0, 2, 3, 4, 5, 6, 7, 8, 9]
       exact jm kk Z dy dS
      refine uxs 3 88 Z Z (lb 0 Y)<|uu Z (S.pickF Z (lb 3 Y) K)<|?_
      obtain rfl := si ca
      exact jm kk Z (.refl _) bi
     refine rg<|mv Z (lk 14)<|uu Z (S.eqlI Z l0 K)<|ag Z l0<|dn<|?_
     refine cd l0 ce (fun bu cf => ?_) (fun bu cl => ?_)
     ·refine rg<|mv Z (lk 64)<|mv Z (lk 66)<|mv Z (lk 69)<|?_
      have ax := ab.t q
      have aP := ae.up ax
      have aQ := af.up ax
      have aR := ah.up ax
      have dT := ac.sel 10 [2, 0, 3, 4, 5, 6, 7, 8, 9, 1]
      have aW := ai.up q
      refine cb Z en39 (a3 l2 l1 l0) cf (wk_window_Window_fenced · aW aP aQ aR dT) ?_
      rintro fE cg fq ey an ⟨rfl, bj⟩
      refine mv Z l0<|?_
      obtain ⟨en, df, ch⟩ := bindS cg
      refine jY 9 (jv 101 (.bool en)<|jr 100 3 []) (WA o N w x y u E e (SA p M F G A H B I C J s (.pt ad (.cells 18 (C0 n)) :: Rs))) (fun fh ez dz dU => ?_) fun kk => ?_
      ·refine ag Z l0<|dn<|wr<|blkR<|sqR<|?_
       have dp := (ax.t an).t dz
       have dV := dU.sel 10 [0, 1, 2, 3, 4, 5, 6, 7, 8]
       obtain rfl := si ch
       exact fS l0 ⟨_, Z, dp, Z, dV⟩
      refine gi l0 df (fun aa ci => ?_) fun aa cj => ?_
      ·refine ug Z Z (lb 0 aa) (S.move Z (lk 69))<|ug Z Z (lb 1 aa) (S.move Z (lk 71))<|?_
       have bK := aP.up an
       have bL := aQ.up an
       have bM := aR.up an
       have bV := aW.up an
       refine cbg Z Z (lb 2 aa) en43 (a2 l1 l0) ci (wk_window_Window_known · bV bK bL bM bj) ?_
       rintro fF ck fs eA dA ⟨rfl, dW⟩
       refine uu Z (S.pickT Z (lb 3 aa) l0)<|?_
       obtain rfl := si ck
       exact jm kk Z dA dW
      refine uxs 3 100 Z Z (lb 0 aa)<|uu Z (S.pickF Z (lb 3 aa) K)<|?_
      obtain rfl := si cj
      exact jm kk Z (.refl _) bj
     refine rg<|mv Z (lk 17)<|?_
     have aX := ai.up q
     refine cb Z en42 (a1 l0) cl (wk_window_memory · aX ac) ?_
     rintro fG cm ft eB az ⟨rfl, aJ⟩
     refine ag Z l0<|dn<|?_
     refine cd l0 cm (fun bv cn => ?_) (fun bv cN => ?_)
     ·refine ws<|rg<|mv Z (lk 67)<|mv Z (lk 69)<|fa 15 Z (lk 35) T67 Z ti3<|ld Z l0 T3 aJ 1<|?_
      have am := (ab.t q).t az
      have aE := ae.up am
      have aG := af.up am
      have aH := ah.up am
      have dX := aJ.sel 10 [2, 0, 3, 1, 4, 5, 6, 7, 8, 9]
      have au := aX.up az
      refine cb Z en44 (a3 l3 l2 l0) cn (wk_window_Window_waits · au aE aG aH dX) ?_
      rintro fH co fu eC D ⟨rfl, bk⟩
      refine mv Z l0<|uu Z (S.extract Z l0 Z nle)<|uu Z (S.extract Z l1 Z nle)<|ag Z l1<|ag Z l1<|dn<|rg<|mv Z l0<|mv Z l0<|?_
      obtain ⟨eo, dg, cp⟩ := bindS co
      refine jY 8 (jv 120 (.bool eo)<|jr 119 5 []) (WA o N w x y u E e (.pt ad (.cells 18 (C0 n)) :: SA p M F G A H B I C J s Rs)) (fun fi eD ao bl => ?_) fun kk => ?_
      ·refine mv Z l0<|?_
       obtain ⟨ep, dh, cq⟩ := bindS cp
       refine jY 14 (jv 126 (.bool ep)<|jr 125 4 []) (WA o N w x y u E e (.pt ad (.cells 18 (C0 n)) :: SA p M F G A H B I C J s Rs)) (fun fj eE aB aK => ?_) fun kk => ?_
       ·refine dn<|?_
        refine cd l0 cq (fun bw cr => ?_) (fun bw ct => ?_)
        ·refine rg<|ag Z K<|dn<|wr<|sqR<|blkR<|sqR<|?_
         have dq := ((am.t D).t ao).t aB
         have dY := aK.sel 10 [0, 1, 2, 4, 5, 6, 7, 8, 9]
         obtain rfl := si cr
         exact fS l0 ⟨_, Z, dq, Z, dY⟩
        refine wn<|sqN<|rg<|mv Z (lk 44)<|uu Z (S.eqlI Z l0 K)<|dn<|?_
        refine cd l0 ct (fun bx cu => ?_) (fun bx cG => ?_)
        ·refine rg<|mv Z (lk 52)<|?_
         have dZ := aK.sel 10 [1, 0, 2, 3, 4, 5, 6, 7, 8, 9]
         have dr := (D.t ao).t aB
         have aY := au.up dr
         refine cb Z en28 (a2 l0 Fu) cu (wk_slices_ContainsFunc_6 · aY ar dZ) ?_
         rintro bo cv fv aO be ⟨rfl, g⟩
         refine uu Z (S.not Z l0)<|ag Z l0<|dn<|?_
         refine WP.seqI (fun l V' => ∃ (aM : Bool), l = [(8, .bool aM)] ∧ aO.le V' ∧ Ow V' (WA o N w x y u E e (SA p M F G A H B I C J s Rs)) ∧ window_Window_MayCommit_k2 aM = some r) ?_ ?_
         ·rintro _ eF ⟨aM, rfl, dB, d0, a0⟩
          unfold window_Window_MayCommit_k2 at a0
          refine wr<|blkR<|sqR<|?_
          have ds := ((((am.t D).t ao).t aB).t be).t dB
          obtain rfl := si a0
          exact fS l0 ⟨_, Z, ds, Z, d0⟩
         refine WP.udreg Z Z Z ?_
         refine mv Z l0<|mv Z l0<|?_
         refine gi l0 cv (fun b cw => ?_) fun b cx => ?_
         ·have eY : bo = false := nT b
          refine ug Z Z (lb 0 b) (S.move Z (lk 101))<|ug Z Z (lb 1 b) (S.not Z l0)<|ug Z Z (lb 2 b) (S.move Z l0)<|?_
          refine gi l0 cw (fun a cy => ?_) fun a cz => ?_
          ·have eZ : aD = false := nT a
           refine uxs 5 141 Z Z (lb 0 a)<|uz Z Z l0<|uz Z Z l1<|uz Z Z l2<|uz Z Z l3<|uz Z Z l4<|uz Z Z l5<|uz Z Z l6<|uxs 2 150 Z Z (lb 12 a)<|uz Z Z l0<|uz Z Z l1<|uz Z Z l2<|uz Z Z l3<|uz Z Z l4<|uz Z Z l5<|uz Z Z l6<|uz Z Z l7<|uz Z Z l8<|ux Z Z (lb 23 a)<|?_
           refine ug Z Z (lb 27 b) (S.pickT Z (lb 24 a) K)<|uu Z (S.pickT Z (lb 28 b) l0)<|ag Z l0<|dn<|sqN<|?_
           have d1 := g.sel 10 [1, 0, 2, 4, 5, 6, 7, 8, 9]
           exact ⟨_, _, Z, ⟨_, Z, (.refl _), d1, cy⟩, allR⟩
          have e0 : aD = true := nF a
          refine ug Z Z (lb 0 a) (S.move Z (lk 102))<|ug Z Z (lb 1 a) (S.nilCheck Z l0)<|fg Z Z (lb 2 a) l0 T54 Z ti4<|kD Z Z (lb 3 a) (S.load Z l0 T4 Z ((g.own (k := 1) Z).cell Z)) (onr (g.own (k := 1) Z).lt)<|ug Z Z (lb 4 a) (S.move Z l0)<|?_
          refine gi l0 cz (fun m cA => ?_) fun m cB => ?_
          ·refine ug Z Z (lb 0 m) (S.move Z (lk 107))<|ug Z Z (lb 1 m) (S.nilCheck Z l0)<|fg Z Z (lb 2 m) l0 T54 Z ti3<|kD Z Z (lb 3 m) (S.load Z l0 T3 Z ((g.own (k := 1) Z).cell Z)) (ot (onr (g.own (k := 1) Z).lt))<|fg Z Z (lb 4 m) (lk 77) T67 Z ti3<|kD Z Z (lb 5 m) (S.load Z l0 T3 Z ((g.own (k := 3) Z).cell Z)) (ot (ot (onr (g.own (k := 3) Z).lt)))<|ug Z Z (lb 6 m) (S.eqlI Z l2 l0)<|ug Z Z (lb 12 a) (S.pickT Z (lb 7 m) l0)<|ug Z Z (lb 13 a) (S.move Z l0)<|?_
           refine gi l0 cA (fun f cC => ?_) fun f cD => ?_
           ·refine ug Z Z (lb 0 f) (S.move Z (lk 119))<|fg Z Z (lb 1 f) (lk 83) T67 Z ti3<|kD Z Z (lb 2 f) (S.load Z l0 T3 Z ((g.own (k := 3) Z).cell Z)) (ot (ot (ot (onr (g.own (k := 3) Z).lt))))<|?_
            have bm := g.sel 10 [4, 5, 6, 7, 8, 9, 0, 1, 2, 3]
            have bW := aY.up be
            obtain ⟨fI, dc, cE⟩ := bindS cC
            refine O.call (V := aO) Z Z (.inr ⟨_, _, _, Z, Z, (lb 3 f)⟩) Z en46 (aC l2 (aC l0 aN)) (wk_storage_Storage_Last dc bW bm) (fun eg bq bf aI => by obtain ⟨rfl, aq⟩ := aI; exact (fun _ => (oc ol (oc ol (oc ol (oc ol one)))))) (fun eg bq bf aI => ?_)
            obtain ⟨rfl, aq⟩ := aI
            refine ug Z Z (lb 4 f) (S.move Z (lk 120))<|ug Z Z (lb 5 f) (S.nilCheck Z l0)<|fg Z Z (lb 6 f) l0 T54 Z ti3<|kD Z Z (lb 7 f) (S.load Z l0 T3 Z ((aq.own (k := 7) Z).cell Z)) (oc (Or.inr (Or.inl ((aq.own (k := 7) Z).get.trans (bm.own (k := 7) Z).get.symm))) (ot (ot (ot (ot (onr (aq.own (k := 7) Z).lt))))))<|ug Z Z (lb 8 f) (S.eqlI Z l4 l0)<|ug Z Z (lb 23 a) (S.pickT Z (lb 9 f) l0)<|ug Z Z (lb 27 b) (S.pickF Z (lb 24 a) l0)<|uu Z (S.pickT Z (lb 28 b) l0)<|ag Z l0<|dn<|sqN<|?_
            have d2 := aq.sel 10 [7, 6, 8, 0, 1, 2, 3, 4, 5]
            exact ⟨_, _, Z, ⟨_, Z, bf, d2, cE⟩, allR⟩
           refine uxs 9 159 Z Z (lb 0 f)<|ug Z Z (lb 23 a) (S.pickF Z (lb 9 f) K)<|ug Z Z (lb 27 b) (S.pickF Z (lb 24 a) l0)<|uu Z (S.pickT Z (lb 28 b) l0)<|ag Z l0<|dn<|sqN<|?_
           have d3 := g.sel 10 [1, 0, 2, 4, 5, 6, 7, 8, 9]
           exact ⟨_, _, Z, ⟨_, Z, (.refl _), d3, cD⟩, allR⟩
          refine uxs 7 148 Z Z (lb 0 m)<|ug Z Z (lb 12 a) (S.pickF Z (lb 7 m) K)<|ug Z Z (lb 13 a) (S.move Z l0)<|ux Z Z l0<|ux Z Z l1<|ux Z Z l2<|ux Z Z l3<|ux Z Z l4<|ux Z Z l5<|ux Z Z l6<|ux Z Z l7<|ux Z Z l8<|ug Z Z (lb 23 a) (S.pickF Z l9 K)<|ug Z Z (lb 27 b) (S.pickF Z (lb 24 a) l0)<|uu Z (S.pickT Z (lb 28 b) l0)<|ag Z l0<|dn<|sqN<|?_
          have d4 := g.sel 10 [1, 0, 2, 4, 5, 6, 7, 8, 9]
          exact ⟨_, _, Z, ⟨_, Z, (.refl _), d4, cB⟩, allR⟩
         have e1 : bo = true := nF b
         refine uxs 3 136 Z Z (lb 0 b)<|uz Z Z l0<|uz Z Z l1<|uz Z Z l2<|uz Z Z l3<|uz Z Z l4<|uz Z Z l0<|uz Z Z l1<|uz Z Z l2<|uz Z Z l3<|uz Z Z l4<|uz Z Z l5<|uz Z Z l6<|uz Z Z (lk 12)<|uz Z Z (lk 13)<|uz Z Z l0<|uz Z Z l1<|uz Z Z l2<|uz Z Z l3<|uz Z Z l4<|uz Z Z l5<|uz Z Z l6<|?_
         refine uz Z Z l7<|uz Z Z l8<|uz Z Z (lk 23)<|ux Z Z (lb 27 b)<|uu Z (S.pickF Z (lb 28 b) K)<|ag Z l0<|dn<|sqN<|?_
         have d5 := g.sel 10 [1, 0, 2, 4, 5, 6, 7, 8, 9]
         exact ⟨_, _, Z, ⟨_, Z, (.refl _), d5, cx⟩, allR⟩
        refine wn<|blkN<|sqN<|?_
        have d6 := aK.sel 10 [0, 1, 2, 4, 5, 6, 7, 8, 9]
        have dt := ((az.t D).t ao).t aB
        exact ⟨_, _, Z, ⟨Z, dt, d6, cG⟩, allR⟩
       refine gi l0 dh (fun P cH => ?_) fun P cI => ?_
       ·refine uxs 4 125 Z Z (lb 0 P)<|uu Z (S.pickT Z (lb 4 P) K)<|?_
        obtain rfl := si cH
        exact jm kk Z (.refl _) bl
       refine ug Z Z (lb 0 P) (S.move Z (lk 86))<|ug Z Z (lb 1 P) (S.move Z (lk 88))<|?_
       have ay := D.t ao
       have bN := aE.up ay
       have bO := aG.up ay
       have bP := aH.up ay
       have bX := au.up ay
       refine cbg Z Z (lb 2 P) en43 (a2 l1 l0) cI (wk_window_Window_known · bX bN bO bP bl) ?_
       rintro fJ cJ fx eH dC ⟨rfl, d7⟩
       refine ug Z Z (lb 3 P) (S.not Z l0)<|uu Z (S.pickF Z (lb 4 P) l0)<|?_
       cases cJ
       exact jm kk Z dC d7
      refine gi l0 dg (fun z cK => ?_) fun z cL => ?_
      ·refine uxs 5 119 Z Z (lb 0 z)<|uu Z (S.pickT Z (lb 5 z) K)<|?_
       obtain rfl := si cK
       exact jm kk Z (.refl _) bk
      refine ug Z Z (lb 0 z) (S.move Z (lk 79))<|ug Z Z (lb 1 z) (S.move Z (lk 81))<|ug Z Z (lb 2 z) (S.move Z (lk 84))<|?_
      have bQ := aE.up D
      have bR := aG.up D
      have bS := aH.up D
      have d8 := bk.sel 10 [0, 1, 2, 4, 5, 6, 7, 8, 9, 3]
      have bY := au.up D
      refine cbg Z Z (lb 3 z) en39 (a3 l2 l1 l0) cL (wk_window_Window_fenced · bY bQ bR bS d8) ?_
      rintro fK cM fy eI dD ⟨rfl, d9⟩
      refine ug Z Z (lb 4 z) (S.not Z l0)<|uu Z (S.pickF Z (lb 5 z) l0)<|?_
      cases cM
      have ea := d9.sel 10 [0, 1, 2, 9, 3, 4, 5, 6, 7, 8]
      exact jm kk Z dD ea
     refine wn<|blkN<|sqN<|?_
     have eb := aJ.sel 10 [2, 0, 3, 4, 5, 6, 7, 8, 9]
     exact ⟨_, _, Z, ⟨Z, az, eb, cN⟩, allR⟩
    refine gs l0 (fun Q => ?_) fun Q => ?_
    ·refine uxs 2 79 Z Z (lb 0 Q)<|uu Z (S.pickT Z (lb 2 Q) K)<|?_
     exact jk kk (oT Q)
    refine ug Z Z (lb 0 Q) (S.move Z (lk 10))<|ug Z Z (lb 1 Q) (S.eqlI Z l0 K)<|uu Z (S.pickF Z (lb 2 Q) l0)<|?_
    exact jk kk (oF Q)
   refine gs l0 (fun W => ?_) fun W => ?_
   ·refine uxs 2 63 Z Z (lb 0 W)<|uu Z (S.pickT Z (lb 2 W) K)<|?_
    exact jk kk (oT W)
   refine ug Z Z (lb 0 W) (S.move Z l3)<|ug Z Z (lb 1 W) (S.eqlI Z l0 K)<|uu Z (S.pickF Z (lb 2 W) l0)<|?_
   exact jk kk (oF W)
  refine gi l0 dj (fun j cO => ?_) fun j cP => ?_
  ·refine uxs 8 38 Z Z (lb 0 j)<|uu Z (S.pickT Z (lb 8 j) K)<|?_
   obtain rfl := si cO
   exact jk kk Z
  refine ug Z Z (lb 0 j) (S.move Z (lk 17))<|ug Z Z (lb 1 j) (S.nilCheck Z l0)<|fg Z Z (lb 2 j) l0 T54 Z ti40<|kg Z Z (lb 3 j) (S.load Z l0 T40 Z ((d.own (k := 0) Z).cell Z))<|ug Z Z (lb 4 j) (S.move Z (lk 22))<|?_
  obtain ⟨ei, aj, cQ⟩ := bindS cP
  obtain ⟨eM, e7, e4, eP, a6⟩ := d.ospt (k := 1) Z aj
  obtain ⟨_, c9, _⟩ := d.osel (k := 1) Z a6 aj
  refine ug Z Z (lb 5 j) (S.index Z ((lk 1).trans c9) l0 T40 ti67 (ix_ge aj) (ix_lt aj))<|fg Z Z (lb 6 j) l0 T67 Z ti4<|?_
  obtain ⟨bB, eV, eS, c6, c3⟩ := d.osel (k := 1) Z a6 aj
  obtain rfl : bB = (C0 ei) := c6
  refine kg Z Z (lb 7 j) (S.load Z l0 T4 Z (c3 13 _ Z))<|uu Z (S.pickF Z (lb 8 j) l0)<|?_
  cases cQ
  exact jk kk Z
 refine gi l0 di (fun c cR => ?_) fun c cS => ?_
 ·have e2 : bp = false := nT c
  refine uxs 9 28 Z Z (lb 0 c)<|uu Z (S.pickT Z (lb 9 c) K)<|?_
  obtain rfl := si cR
  exact jk kk Z
 have e3 : bp = true := nF c
 refine ug Z Z (lb 0 c) (S.move Z l6)<|ug Z Z (lb 1 c) (S.nilCheck Z l0)<|fg Z Z (lb 2 c) l0 T54 Z ti40<|kg Z Z (lb 3 c) (S.load Z l0 T40 Z ((d.own (k := 0) Z).cell Z))<|ug Z Z (lb 4 c) (S.move Z (lk 11))<|?_
 obtain ⟨ej, ak, cT⟩ := bindS cS
 obtain ⟨eN, e8, e5, eQ, a7⟩ := d.ospt (k := 1) Z ak
 obtain ⟨_, da, _⟩ := d.osel (k := 1) Z a7 ak
 refine ug Z Z (lb 5 c) (S.index Z ((lk 1).trans da) l0 T40 ti67 (ix_ge ak) (ix_lt ak))<|fg Z Z (lb 6 c) l0 T67 Z ti4<|?_
 obtain ⟨bC, eW, eT, c7, c4⟩ := d.osel (k := 1) Z a7 ak
 obtain rfl : bC = (C0 ej) := c7
 refine kg Z Z (lb 7 c) (S.load Z l0 T4 Z (c4 12 _ Z))<|ug Z Z (lb 8 c) (S.not Z l0)<|uu Z (S.pickF Z (lb 9 c) l0)<|?_
 cases cT
 exact jk kk Z
theorem wk_storage_Storage_Read {V : Vw} {Rs : List At} {l : Tstorage_Storage} {t m : Int} {e B : Nat} {x y : Value} {p : List Value} {z : Value} {n : List Value} {u : Value} {o : List Value} {w : Value} {r : Int × Int} (h : storage_Storage_Read l t m = some r) (gl : Glb V) (ow : Ow V (SA e B x y p z n u o w l Rs)) : CT 67 #[.pointer (some ⟨e, 0, none⟩), .int .i64 t, .int .i64 m] V fun v V' => v = .tuple #[.int .i64 r.1, .int .i64 r.2] ∧ Ow V' (SA e B x y p z n u o w l Rs) := by
 refine Ct.of gl.lo Tryd.func67 Z nle ?_
 unfold storage_Storage_Read at h
 refine rg<|ag Z K<|ag Z K<|dn<|ws<|rg<|mv Z l2<|mv Z l4<|?_
 refine cb Z en75 (a2 l1 l0) h (wk_storage_Storage_thread · gl ow) ?_
 rintro A F ay ah i ⟨rfl, d⟩
 refine uu Z (S.not Z l0)<|dn<|?_
 refine cd l0 F (fun f G => ?_) (fun f H => ?_)
 ·have aq : A = false := nT f
  refine rg<|ag Z K<|ag Z K<|dn<|wr<|sqR<|?_
  cases G
  exact fM (fsC l1 (fsC l0 fsN)) Z ⟨_, Z, i, Z, d⟩
 have ar : A = true := nF f
 refine wn<|sqN<|rg<|mv Z l6<|uu Z (S.nilCheck Z l0)<|fa 3 Z l0 T90 Z ti88<|ld Z l0 T88 d 0<|mv Z (lk 11)<|?_
 obtain ⟨ae, b, I⟩ := bindS H
 obtain ⟨ai, aw, au, ak, q⟩ := d.sspt (k := 4) Z b
 refine uu Z (S.index Z ((lk 1).trans (d.sslen' (k := 4) Z q)) l0 T88 ti84 (ix_ge b) (ix_lt b))<|?_
 obtain ⟨am, g, a⟩ := d.ssopen (k := 4) Z b
 have Q := a.shcell (k := 5) Z q g
 refine uk Z (S.load Z l0 T84 Z Q.2)<|mv Z (lk 15)<|?_
 refine O.lookup1 (k := 0) 0 a Z Z Z (.inl Z) Z l1 l0 T84 T3 ti3 Z (cell_vrel Z) (fun C W => nd) (fun C ad W X => ?_)
 obtain rfl : ad = .int .i64 ((mG ae m).getD 0) := (List.cons.inj (vrel_cell X)).1
 refine ag Z l0<|dn<|ws<|rg<|mv Z l0<|uu Z (S.eqlI Z l0 K)<|dn<|?_
 refine cd l0 I (fun D J => ?_) (fun D M => ?_)
 ·refine rg<|ag Z K<|ag Z K<|dn<|wr<|sqR<|?_
  have ab := a.ssclose' (k := 5) (j := 0) Z Z (by decide) g b
  cases J
  exact fM (fsC l1 (fsC l0 fsN)) Z ⟨_, Z, i, Z, ab⟩
 refine wn<|sqN<|rg<|mv Z (lk 18)<|uu Z (S.nilCheck Z l0)<|fa 0 Z l0 T90 Z ti85<|ld Z l0 T85 a 1<|mv Z l6<|uu Z (S.sub Z l0 K)<|?_
 obtain ⟨af, c, N⟩ := bindS M
 obtain ⟨aj, ax, av, al, s⟩ := a.ospt (k := 2) Z c
 obtain ⟨_, aa, _⟩ := a.osel (k := 2) Z s c
 refine uu Z (S.index Z ((lk 2).trans aa) l0 T85 ti115 (ix_ge c) (ix_lt c))<|fe Z l0 T115 Z ti3<|?_
 obtain ⟨E, ao, an, Y, P⟩ := a.osel (k := 2) Z s c
 obtain rfl : E = (C4 af) := Y
 refine uk Z (S.load Z l0 T3 Z (P 3 _ Z))<|mv Z (lk 11)<|ag Z l1<|ag Z l1<|dn<|wr<|?_
 have ac := a.ssclose' (k := 5) (j := 0) Z Z (by decide) g b
 cases N
 exact fM (fsC l1 (fsC l0 fsN)) Z ⟨_, Z, i, Z, ac⟩
theorem wk_window_Window_source {V : Vw} {Rs : List At} {a : Twindow_Window} {aU : Int} {o : Tstorage_Storage} {e aa : Nat} {y z A J M : Value} {f Y : Nat} {N P : Value} {C : List Value} {Q : Value} {D : List Value} {W : Value} {E : List Value} {X : Value} {r : Int × Int × Int × Bool} (h : window_Window_source a aU o = some r) (gl : Glb V) (an : Fz (RT.int .u32) V y a.img.code) (ao : Fz RT_TNote V z a.img.notes) (aq : Fz (RT.int .i64) V A a.img.threads) (ow : Ow V (WA e aa y z A J M a (SA f Y N P C Q D W E X o Rs))) : CT 34 #[.pointer (some ⟨e, 0, none⟩), .int .i64 aU, .pointer (some ⟨f, 0, none⟩)] V fun v V' => v = .tuple #[.int .i64 r.1, .int .i64 r.2.1, .int .i64 r.2.2.1, .bool r.2.2.2] ∧ Ow V' (WA e aa y z A J M a (SA f Y N P C Q D W E X o Rs)) := by
 refine Ct.of gl.lo Tryd.func34 Z nle ?_
 unfold window_Window_source at h
 refine rg<|ag Z K<|ag Z K<|ag Z K<|ag Z K<|dn<|rg<|mv Z l4<|mv Z l6<|?_
 refine cb Z en36 (a2 l1 l0) h (wk_window_Window_place · gl an ao aq ow) ?_
 rintro af b0 dP de G ⟨rfl, aQ⟩
 refine mv Z l0<|uu Z (S.extract Z l0 Z nle)<|uu Z (S.extract Z l1 Z nle)<|ag Z l1<|ag Z l1<|dn<|ws<|rg<|mv Z l0<|uu Z (S.not Z l0)<|mv Z l0<|?_
 obtain ⟨c3, cm, b1⟩ := bindS b0
 refine jY 9 (jv 31 (.bool c3)<|jr 30 5 []) (WA e aa y z A J M a (SA f Y N P C Q D W E X o Rs)) (fun dI df aD aR => ?_) fun kk => ?_
 ·refine mv Z l0<|?_
  obtain ⟨c4, cn, b2⟩ := bindS b1
  refine jY 15 (jv 37 (.bool c4)<|jr 36 4 []) (WA e aa y z A J M a (SA f Y N P C Q D W E X o Rs)) (fun dJ dg aP aS => ?_) fun kk => ?_
  ·refine dn<|?_
   refine cd l0 b2 (fun be b3 => ?_) (fun be b4 => ?_)
   ·refine rg<|ag Z K<|ag Z K<|ag Z K<|ag Z K<|dn<|wr<|sqR<|?_
    have cy := (G.t aD).t aP
    cases b3
    exact fM (fsC l3 (fsC l2 (fsC l1 (fsC l0 fsN)))) Z ⟨_, Z, cy, Z, aS⟩
   refine wn<|sqN<|rg<|mv Z (lk 27)<|mv Z (lk 29)<|mv Z (lk 18)<|?_
   have j := (G.t aD).t aP
   have aI := an.up j
   have aJ := ao.up j
   have aK := aq.up j
   have ar := gl.up j
   refine cb Z en44 (a3 l2 l1 l0) b4 (wk_window_Window_waits · ar aI aJ aK aS) ?_
   rintro aH b5 dQ dh u ⟨rfl, I⟩
   refine mv Z l0<|uu Z (S.extract Z l0 Z nle)<|uu Z (S.extract Z l1 Z nle)<|ag Z l1<|ag Z l1<|dn<|ws<|rg<|mv Z l0<|uu Z (S.not Z l0)<|dn<|?_
   refine cd l0 b5 (fun aB b6 => ?_) (fun aB b8 => ?_)
   ·have dz : aH.2 = false := nT aB
    refine rg<|mv Z (lk 40)<|mv Z (lk 39)<|uu Z (S.nilCheck Z l0)<|fa 3 Z l0 T54 Z ti3<|ld Z l0 T3 I 0<|mv Z (lk 32)<|?_
    have c0 := I.sel 9 [3, 4, 5, 6, 7, 8, 0, 1, 2]
    have bv := ar.up u
    refine cb Z en67 (a3 l5 l1 l0) b6 (wk_storage_Storage_Read · bv c0) ?_
    rintro dX b7 dR di cF ⟨rfl, c1⟩
    refine mv Z l0<|uu Z (S.extract Z l0 Z nle)<|uu Z (S.extract Z l1 Z nle)<|ag Z l1<|ag Z l1<|dn<|rg<|mv Z (lk 39)<|mv Z l2<|mv Z l2<|ag Z l2<|ag Z l2<|ag Z l2<|ag Z K<|dn<|wr<|sqR<|?_
    have cz := (j.t u).t cF
    have c2 := c1.sel 9 [6, 7, 8, 0, 1, 2, 3, 4, 5]
    cases b7
    exact fM (fsC l3 (fsC l2 (fsC l1 (fsC l0 fsN)))) Z ⟨_, Z, cz, Z, c2⟩
   have dA : aH.2 = true := nF aB
   refine wn<|sqN<|rg<|mv Z (lk 38)<|uu Z (S.nilCheck Z l0)<|fa 38 Z l0 T54 Z ti40<|ld Z l0 T40 I 0<|mv Z l7<|?_
   obtain ⟨al, ah, b9⟩ := bindS b8
   obtain ⟨dk, dC, dB, dm, ab⟩ := I.ospt (k := 1) Z ah
   obtain ⟨_, ck, _⟩ := I.osel (k := 1) Z ab ah
   refine uu Z (S.index Z ((lk 1).trans ck) l0 T40 ti67 (ix_ge ah) (ix_lt ah))<|?_
   obtain ⟨bh, du, dr, ch, ce⟩ := I.osel (k := 1) Z ab ah
   obtain rfl : bh = (C0 al) := ch
   refine uk Z (S.loadN (cs := (C0 al)) Z l0 T67 Z ti67 Z ce)<|?_
   refine O.alloc I Z Z (.inl Z) Z ti67 Z Z nd (fun dl dj H cI => ?_)
   refine st 0 cI Z l0 l1 ti67 (fun aY F d => ?_)
   refine dn<|ws<|wb<|rg<|mv Z (lk 46)<|uu Z (S.nilCheck Z l0)<|fa 38 Z l0 T54 Z ti40<|ld Z l0 T40 d 1<|mv Z (lk 51)<|?_
   obtain ⟨aG, av, bw⟩ := bindS b9
   obtain ⟨_, ci, _⟩ := d.osel (k := 2) Z ab av
   refine uu Z (S.index Z ((lk 1).trans ci) l0 T40 ti67 (ix_ge av) (ix_lt av))<|fe Z l0 T67 Z ti56<|fe Z l0 T56 Z ti3<|?_
   obtain ⟨bf, ds, dp, cf, ca⟩ := d.osel (k := 2) Z ab av
   obtain rfl : bf = (C0 aG) := cf
   refine uk Z (S.load Z l0 T3 Z (ca 2 _ Z))<|uu Z (S.eqlI Z l0 K)<|mv Z l0<|?_
   refine jX 16 (jv 83 (.bool ((decide (aG.i.op = 16)) || (decide (al.i.op = 17))))<|jr 82 4 []) (fun dD => ?_) fun kk => ?_
   ·refine mv Z l0<|?_
    refine jX 21 (jv 88 (.bool (((decide (aG.i.op = 16)) || (decide (al.i.op = 17))) || (!al.done)))<|jr 87 3 []) (fun dE => ?_) fun kk => ?_
    ·refine ag Z l0<|dn<|?_
     refine cd l0 bw (fun a6 bx => ?_) (fun a6 bz => ?_)
     ·refine rg<|ag Z K<|ag Z K<|ag Z K<|ag Z K<|dn<|wr<|blkR<|sqR<|?_
      have co := ((j.t u).t H).t F
      have cJ := d.sel 10 [1, 2, 3, 4, 5, 6, 7, 8, 9]
      cases bx
      exact fM (fsC l3 (fsC l2 (fsC l1 (fsC l0 fsN)))) Z ⟨_, Z, co, Z, cJ⟩
     refine rg<|fa 2 Z (lk 22) T67 Z ti56<|fa 2 Z l0 T56 Z ti3<|ld Z l0 T3 d 0<|uu Z (S.eqlI Z l0 K)<|ag Z l0<|dn<|?_
     refine cd l0 bz (fun a7 bA => ?_) (fun a7 aM => ?_)
     ·refine WP.usdreg Z Z Z ?_
      refine mv Z (lk 62)<|fa 14 Z (lk 28) T67 Z ti3<|lD Z l0 T3 d 0 onr<|fa 0 Z (lk 30) T67 Z ti3<|lD Z l0 T3 d 0 (ot<|onr ·)<|uu Z (S.neg Z l0)<|ag Z l5<|ag Z l4<|ag Z l2<|ag Z K<|dn<|wr<|blkR<|sqR<|?_
      have cp := ((j.t u).t H).t F
      have cK := d.sel 10 [1, 2, 3, 4, 5, 6, 7, 8, 9]
      cases bA
      exact fM (fsC l3 (fsC l2 (fsC l1 (fsC l0 fsN)))) Z ⟨_, Z, cp, Z, cK⟩
     refine wn<|blkN<|sqN<|ws<|rg<|mv Z (lk 38)<|uu Z (S.sub Z l0 K)<|ag Z l0<|dn<|wb<|?_
     have cL := d.sel 10 [1, 2, 3, 4, 5, 6, 7, 8, 9]
     unfold window_Window_source_l1 at aM
     obtain ⟨cH, hn134⟩ := loopO_some.1 aM
     refine WP.loopI2 (fun n l V' => ∃ (ae : Int), l = [(0, .pointer (some ⟨e, 0, none⟩)), (2, .pointer (some ⟨f, 0, none⟩)), (6, .int .i64 af.1), (13, .int .i64 ae)] ∧ aY.le V' ∧ Ow V' (WA e aa y z A J M a (SA f Y N P C Q D W E X o Rs)) ∧ itO (fun s => window_Window_source_l1b a o af s) n ae = some r) cH _ ⟨w64 (aH.1 - 1), Z, .refl _, cL, hn134⟩ (allCons (lk 76) (allCons (lk 78) (allCons (lk 65) (allCons l0 allNil)))) ?_
     rintro _ _ aZ ⟨ae, rfl, ac, ad, bB⟩
     obtain ⟨cG, aW, rfl, au, am⟩ := itS bB
     replace au : window_Window_source_l1b a o af ae = some aW := au
     unfold window_Window_source_l1b at au
     refine ws<|rg<|mv Z l3<|uu Z (S.geq Z l0 K)<|dn<|?_
     refine cd l0 au (fun a8 bC => ?_) (fun a8 bR => ?_)
     ·refine wn<|sqN<|?_
      refine WP.seqI (fun l V' => l = [(0, .pointer (some ⟨e, 0, none⟩)), (2, .pointer (some ⟨f, 0, none⟩)), (6, .int .i64 af.1), (13, .int .i64 ae)] ∧ aZ.le V' ∧ Ow V' (WA e aa y z A J M a (SA f Y N P C Q D W E X o Rs)) ∧ window_Window_source_k1 ae  = some aW) ?_ ?_
      ·rintro _ c5 ⟨rfl, cA, cM, aO⟩
       unfold window_Window_source_k1 at aO
       refine rh<|mv Z l3<|uu Z (S.sub Z l0 K)<|ag Z l0<|dn<|sqN<|?_
       have cq := ac.t cA
       exact ⟨_, _, Z, ⟨cG, Nat.lt_succ_self _, _, Z, cq, cM, backS aO am⟩, allR⟩
      refine wb<|rg<|mv Z l2<|uu Z (S.nilCheck Z l0)<|fa 38 Z l0 T54 Z ti40<|ld Z l0 T40 ad 0<|mv Z l9<|?_
      obtain ⟨B, aw, bD⟩ := bindS bC
      obtain ⟨_, cj, _⟩ := ad.osel (k := 1) Z ab aw
      refine uu Z (S.index Z ((lk 1).trans cj) l0 T40 ti67 (ix_ge aw) (ix_lt aw))<|?_
      obtain ⟨bg, dt, dq, cg, cc⟩ := ad.osel (k := 1) Z ab aw
      obtain rfl : bg = (C0 B) := cg
      refine uk Z (S.loadN (cs := (C0 B)) Z l0 T67 Z ti67 Z cc)<|?_
      refine O.alloc ad Z Z (.inl Z) Z ti67 Z Z nd (fun a0 c6 ai cN => ?_)
      refine st 0 cN Z l0 l1 ti67 (fun c7 aj cO => ?_)
      refine dn<|ws<|rg<|mv Z (lk 10)<|mv Z (lk 14)<|?_
      have ax := ((((u.t H).t F).t ac).t ai).t aj
      have bi := aI.up ax
      have bj := aJ.up ax
      have bk := aK.up ax
      have cP := cO.sel 10 [1, 2, 3, 0, 4, 5, 6, 7, 8, 9]
      have aL := ar.up ax
      refine cb Z en36 (a2 l1 l0) bD (wk_window_Window_place · aL bi bj bk cP) ?_
      rintro dS bE dK c8 ak ⟨rfl, aE⟩
      refine mv Z l0<|uu Z (S.extract Z l0 Z nle)<|uu Z (S.extract Z l1 Z nle)<|ag Z l1<|ag Z l1<|dn<|rg<|mv Z l1<|mv Z (lk 21)<|uu Z (S.neqI Z l1 l0)<|mv Z l0<|?_
      obtain ⟨aX, cl, bF⟩ := bindS bE
      refine jY 10 (jv 128 (.bool aX)<|jr 127 5 []) (WA e aa y z A J M a (.pt a0 (.cells 18 (C0 B)) :: SA f Y N P C Q D W E X o Rs)) (fun dF c9 az m => ?_) fun kk => ?_
      ·refine mv Z l0<|?_
       refine jX 14 (jv 132 (.bool (aX || B.committed))<|jr 131 2 []) (fun dG => ?_) fun kk => ?_
       ·refine dn<|?_
        refine cd l0 bF (fun a9 bG => ?_) (fun a9 bH => ?_)
        ·refine we<|sqE<|blkE<|sqN<|?_
         have cQ := m.sel 10 [0, 1, 2, 4, 5, 6, 7, 8, 9]
         have cr := ((ai.t aj).t ak).t az
         exact ⟨_, _, Z, ⟨Z, cr, cQ, bG⟩, allR⟩
        refine wn<|sqN<|ws<|rg<|fa 12 Z (lk 22) T67 Z ti4<|ld Z l0 T4 m 3<|uu Z (S.not Z l0)<|mv Z l0<|?_
        refine jX 9 (jv 141 (.bool ((!B.done) || (decide (B.i.op = 17))))<|jr 140 4 []) (fun dH => ?_) fun kk => ?_
        ·refine dn<|?_
         refine cd l0 bH (fun ba bI => ?_) (fun ba bK => ?_)
         ·refine rg<|ag Z K<|ag Z K<|ag Z K<|ag Z K<|dn<|wr<|sqR<|blkR<|sqR<|sqR<|blkR<|sqR<|?_
          have bJ := exitS bI am
          have ct := (((((((j.t u).t H).t F).t ac).t ai).t aj).t ak).t az
          have cR := m.sel 10 [0, 1, 2, 4, 5, 6, 7, 8, 9]
          cases bJ
          exact fM (fsC l3 (fsC l2 (fsC l1 (fsC l0 fsN)))) Z ⟨_, Z, ct, Z, cR⟩
         refine wn<|sqN<|rg<|fa 2 Z (lk 31) T67 Z ti56<|fa 2 Z l0 T56 Z ti3<|ld Z l0 T3 m 3<|uu Z (S.eqlI Z l0 K)<|dn<|?_
         refine cd l0 bK (fun bb bL => ?_) (fun bb bN => ?_)
         ·refine WP.usdreg Z Z Z ?_
          refine mv Z (lk 47)<|fa 14 Z (lk 36) T67 Z ti3<|lD Z l0 T3 m 3 onr<|fa 0 Z (lk 38) T67 Z ti3<|lD Z l0 T3 m 3 (ot<|onr ·)<|uu Z (S.neg Z l0)<|ag Z l5<|ag Z l4<|ag Z l2<|ag Z K<|dn<|wr<|blkR<|sqR<|sqR<|blkR<|sqR<|?_
          have bM := exitS bL am
          have cu := (((((((j.t u).t H).t F).t ac).t ai).t aj).t ak).t az
          have cS := m.sel 10 [0, 1, 2, 4, 5, 6, 7, 8, 9]
          cases bM
          exact fM (fsC l3 (fsC l2 (fsC l1 (fsC l0 fsN)))) Z ⟨_, Z, cu, Z, cS⟩
         refine wn<|blkN<|sqN<|?_
         have cT := m.sel 10 [0, 1, 2, 4, 5, 6, 7, 8, 9]
         have cv := ((ai.t aj).t ak).t az
         exact ⟨_, _, Z, ⟨Z, cv, cT, bN⟩, allR⟩
        refine gs l0 (fun b => ?_) fun b => ?_
        ·have dv : B.done = false := nT b
         refine uxs 4 140 Z Z (lb 0 b)<|uu Z (S.pickT Z (lb 4 b) K)<|?_
         exact jk kk (oT b)
        have dw : B.done = true := nF b
        refine fg Z Z (lb 0 b) (lk 26) T67 Z ti56<|fg Z Z (lb 1 b) l0 T56 Z ti3<|kg Z Z (lb 2 b) (S.load Z l0 T3 Z ((m.own (k := 3) Z).cell Z))<|ug Z Z (lb 3 b) (S.eqlI Z l0 K)<|uu Z (S.pickF Z (lb 4 b) l0)<|?_
        exact jk kk (oF b)
       refine gs l0 (fun w => ?_) fun w => ?_
       ·refine uxs 2 131 Z Z (lb 0 w)<|uu Z (S.pickT Z (lb 2 w) K)<|?_
        exact jk kk (oT w)
       refine fg Z Z (lb 0 w) (lk 19) T67 Z ti4<|kg Z Z (lb 1 w) (S.load Z l0 T4 Z ((m.own (k := 3) Z).cell Z))<|uu Z (S.pickF Z (lb 2 w) l0)<|?_
       exact jk kk (oF w)
      refine gi l0 cl (fun p bO => ?_) fun p bP => ?_
      ·refine uxs 5 127 Z Z (lb 0 p)<|uu Z (S.pickT Z (lb 5 p) K)<|?_
       obtain rfl := si bO
       exact jm kk Z (.refl _) aE
      refine fg Z Z (lb 0 p) (lk 12) T67 Z ti56<|fg Z Z (lb 1 p) l0 T56 Z ti3<|kg Z Z (lb 2 p) (S.load Z l0 T3 Z ((aE.own (k := 3) Z).cell Z))<|?_
      have br := aL.up ak
      refine cbg Z Z (lb 3 p) en42 (a1 l0) bP (wk_window_memory · br aE) ?_
      rintro dT bQ dL da cB ⟨rfl, cU⟩
      refine ug Z Z (lb 4 p) (S.not Z l0)<|uu Z (S.pickF Z (lb 5 p) l0)<|?_
      cases bQ
      exact jm kk Z cB cU
     refine we<|sqE<|sqE<|blkE<|sqN<|?_
     have bS := exitS bR am
     refine rg<|mv Z l3<|mv Z l3<|uu Z (S.nilCheck Z l0)<|fa 3 Z l0 T54 Z ti3<|ld Z l0 T3 ad 0<|mv Z l9<|?_
     have cV := ad.sel 9 [3, 4, 5, 6, 7, 8, 0, 1, 2]
     have cw := ((u.t H).t F).t ac
     have bs := ar.up cw
     refine cb Z en67 (a3 l5 l1 l0) bS (wk_storage_Storage_Read · bs cV) ?_
     rintro dU bT dM db cC ⟨rfl, cW⟩
     refine mv Z l0<|uu Z (S.extract Z l0 Z nle)<|uu Z (S.extract Z l1 Z nle)<|ag Z l1<|ag Z l1<|dn<|rg<|mv Z (lk 16)<|mv Z l2<|mv Z l2<|ag Z l2<|ag Z l2<|ag Z l2<|ag Z K<|dn<|wr<|?_
     have cx := ((((j.t u).t H).t F).t ac).t cC
     have cX := cW.sel 9 [6, 7, 8, 0, 1, 2, 3, 4, 5]
     cases bT
     exact fM (fsC l3 (fsC l2 (fsC l1 (fsC l0 fsN)))) Z ⟨_, Z, cx, Z, cX⟩
    refine gs l0 (fun q => ?_) fun q => ?_
    ·refine uxs 3 87 Z Z (lb 0 q)<|uu Z (S.pickT Z (lb 3 q) K)<|?_
     exact jk kk (oT q)
    refine fg Z Z (lb 0 q) (lk 17) T67 Z ti4<|kg Z Z (lb 1 q) (S.load Z l0 T4 Z ((d.own (k := 0) Z).cell Z))<|ug Z Z (lb 2 q) (S.not Z l0)<|uu Z (S.pickF Z (lb 3 q) l0)<|?_
    exact jk kk (oF q)
   refine gs l0 (fun g => ?_) fun g => ?_
   ·refine uxs 4 82 Z Z (lb 0 g)<|uu Z (S.pickT Z (lb 4 g) K)<|?_
    exact jk kk (oT g)
   refine fg Z Z (lb 0 g) (lk 11) T67 Z ti56<|fg Z Z (lb 1 g) l0 T56 Z ti3<|kg Z Z (lb 2 g) (S.load Z l0 T3 Z ((d.own (k := 0) Z).cell Z))<|ug Z Z (lb 3 g) (S.eqlI Z l0 K)<|uu Z (S.pickF Z (lb 4 g) l0)<|?_
   exact jk kk (oF g)
  refine gi l0 cn (fun x bU => ?_) fun x bV => ?_
  ·refine uxs 4 36 Z Z (lb 0 x)<|uu Z (S.pickT Z (lb 4 x) K)<|?_
   obtain rfl := si bU
   exact jm kk Z (.refl _) aR
  refine ug Z Z (lb 0 x) (S.move Z (lk 22))<|ug Z Z (lb 1 x) (S.move Z (lk 24))<|?_
  have ay := G.t aD
  have bl := an.up ay
  have bm := ao.up ay
  have bn := aq.up ay
  have bt := gl.up ay
  refine cbg Z Z (lb 2 x) en43 (a2 l1 l0) bV (wk_window_Window_known · bt bl bm bn aR) ?_
  rintro dV bW dN dc cD ⟨rfl, cY⟩
  refine ug Z Z (lb 3 x) (S.not Z l0)<|uu Z (S.pickF Z (lb 4 x) l0)<|?_
  cases bW
  exact jm kk Z cD cY
 refine gi l0 cm (fun c bX => ?_) fun c bY => ?_
 ·have dx : af.2 = false := nT c
  refine uxs 5 30 Z Z (lb 0 c)<|uu Z (S.pickT Z (lb 5 c) K)<|?_
  obtain rfl := si bX
  exact jm kk Z (.refl _) aQ
 have dy : af.2 = true := nF c
 refine ug Z Z (lb 0 c) (S.move Z (lk 15))<|ug Z Z (lb 1 c) (S.move Z (lk 17))<|ug Z Z (lb 2 c) (S.move Z (lk 19))<|?_
 have bo := an.up G
 have bp := ao.up G
 have bq := aq.up G
 have bu := gl.up G
 refine cbg Z Z (lb 3 c) en39 (a3 l2 l1 l0) bY (wk_window_Window_fenced · bu bo bp bq aQ) ?_
 rintro dW bZ dO dd cE ⟨rfl, cZ⟩
 refine ug Z Z (lb 4 c) (S.not Z l0)<|uu Z (S.pickF Z (lb 5 c) l0)<|?_
 cases bZ
 exact jm kk Z cE cZ
theorem wk_window_divide {V : Vw} {Rs : List At} {b c : Int} {r : Int} (h : window_divide b c = some r) (gl : Glb V) (ow : Ow V (Rs)) : CT 69 #[.int .i64 b, .int .i64 c] V fun v V' => v = .int .i64 r ∧ Ow V' (Rs) := by
 refine Ct.of gl.lo Tryd.func69 Z nle ?_
 unfold window_divide at h
 refine rg<|ag Z K<|dn<|ws<|rg<|mv Z l2<|dn<|wb<|rg<|uu Z (S.eqlI Z l0 K)<|ag Z l0<|dn<|?_
 refine WP.cond _ l0 Z (fun a => ?_) (fun a => ?_)
 ·have e := ifT a h
  refine rg<|ag Z K<|dn<|wr<|blkR<|sqR<|?_
  obtain rfl := si e
  exact fS l0 ⟨_, Z, (.refl _), Z, ow⟩
 have f := ifF a h
 refine rg<|uu Z (S.eqlI Z l2 K)<|ag Z l0<|dn<|?_
 refine cd l0 f (fun d g => ?_) (fun d i => ?_)
 ·refine rg<|mv Z l6<|uu Z (S.neg Z l0)<|ag Z l0<|dn<|wr<|blkR<|sqR<|?_
  cases g
  exact fS l0 ⟨_, Z, (.refl _), Z, ow⟩
 refine wn<|blkN<|sqN<|rg<|mv Z l6<|mv Z l8<|?_
 obtain ⟨l, k, j⟩ := bindS i
 refine uu Z (S.quo k Z l1 l0)<|ag Z l0<|dn<|wr<|?_
 obtain rfl := si j
 exact fS l0 ⟨_, Z, (.refl _), Z, ow⟩
theorem wk_window_order {V : Vw} {Rs : List At} {b c : Int} {r : Int} (h : window_order b c = some r) (gl : Glb V) (ow : Ow V (Rs)) : CT 70 #[.int .i64 b, .int .i64 c] V fun v V' => v = .int .i64 r ∧ Ow V' (Rs) := by
 refine Ct.of gl.lo Tryd.func70 Z nle ?_
 unfold window_order at h
 refine rg<|ag Z K<|dn<|ws<|wb<|rg<|mv Z l1<|mv Z l3<|uu Z (S.lss Z l1 l0)<|ag Z l0<|dn<|?_
 refine WP.cond _ l0 Z (fun a => ?_) (fun a => ?_)
 ·have e := ifT a h
  refine rg<|ag Z K<|dn<|wr<|blkR<|sqR<|?_
  obtain rfl := si e
  exact fS l0 ⟨_, Z, (.refl _), Z, ow⟩
 have f := ifF a h
 refine rg<|mv Z l5<|mv Z l7<|uu Z (S.gtr Z l1 l0)<|ag Z l0<|dn<|?_
 refine cd l0 f (fun d g => ?_) (fun d i => ?_)
 ·refine rg<|ag Z K<|dn<|wr<|blkR<|sqR<|?_
  obtain rfl := si g
  exact fS l0 ⟨_, Z, (.refl _), Z, ow⟩
 refine wn<|blkN<|sqN<|rg<|ag Z K<|dn<|wr<|?_
 obtain rfl := si i
 exact fS l0 ⟨_, Z, (.refl _), Z, ow⟩
theorem wk_window_Window_reckon {V : Vw} {Rs : List At} {f : Twindow_Window} {G : Int} {s ab : Nat} {H I J X Y : Value} {r : Int × Bool} (h : window_Window_reckon f G = some r) (gl : Glb V) (m : Fz (RT.int .u32) V H f.img.code) (n : Fz RT_TNote V I f.img.notes) (o : Fz (RT.int .i64) V J f.img.threads) (ow : Ow V (WA s ab H I J X Y f Rs)) : CT 37 #[.pointer (some ⟨s, 0, none⟩), .int .i64 G] V fun v V' => v = .tuple #[.int .i64 r.1, .bool r.2] ∧ Ow V' (WA s ab H I J X Y f Rs) := by
 refine Ct.of gl.lo Tryd.func37 Z nle ?_
 unfold window_Window_reckon at h
 refine rg<|ag Z K<|ag Z K<|dn<|rg<|mv Z l2<|uu Z (S.nilCheck Z l0)<|fa 38 Z l0 T54 Z ti40<|ld Z l0 T40 ow 0<|mv Z l7<|?_
 obtain ⟨a, u, bv⟩ := bindS h
 obtain ⟨cG, cL, cK, cH, av⟩ := ow.ospt (k := 1) Z u
 obtain ⟨_, bU, _⟩ := ow.osel (k := 1) Z av u
 refine uu Z (S.index Z ((lk 1).trans bU) l0 T40 ti67 (ix_ge u) (ix_lt u))<|fe Z l0 T67 Z ti56<|?_
 obtain ⟨aO, cJ, cI, bT, bR⟩ := ow.osel (k := 1) Z av u
 obtain rfl : aO = (C0 a) := bT
 refine uk Z (S.loadN (cs := (C2 a.i)) Z l0 T56 Z ti56 Z (fun j v hj => by rw [Nat.add_assoc]; exact bR (2 + j) v (partG (ps := [.int .i64 a.seq, .int .i64 a.pc]) (ys := [.int .i64 a.note.role, .int .i64 a.note.what, .bool a.note.volatile, .bool a.note.final, .int .i64 a.next, .bool a.done, .bool a.committed, .int .i64 a.val, .int .i64 a.at_, .int .i64 a.from_, .int .i64 a.id]) 2 hj Z)))<|?_
 refine O.alloc ow Z Z (.inl Z) Z ti56 Z Z nd (fun ae cC p cp => ?_)
 refine st 0 cp Z l0 l1 ti56 (fun aG q d => ?_)
 refine dn<|ws<|rg<|fa 0 Z l0 T56 Z ti3<|ld Z l0 T3 d 0<|dn<|wb<|rg<|uu Z (S.eqlI Z l0 K)<|ag Z l0<|dn<|?_
 refine cd l0 bv (fun aL bJ => ?_) (fun aL bL => ?_)
 ·refine rg<|mv Z (lk 15)<|mv Z (lk 17)<|fa 2 Z l6 T56 Z ti3<|ld Z l0 T3 d 0<|?_
  have A := p.t q
  have a8 := m.up A
  have a9 := n.up A
  have ba := o.up A
  have cq := d.sel 4 [1, 2, 3, 0]
  have bk := gl.up A
  refine cb Z en68 (a3 l3 l2 l0) bJ (wk_window_Window_base · bk a8 a9 ba cq) ?_
  rintro c0 bK cS cD b8 ⟨rfl, aB⟩
  refine mv Z l0<|uu Z (S.extract Z l0 Z nle)<|uu Z (S.extract Z l1 Z nle)<|ag Z l1<|ag Z l1<|dn<|rg<|mv Z l1<|fa 4 Z (lk 15) T56 Z ti3<|ld Z l0 T3 aB 3<|uu Z (S.add Z l2 l0)<|mv Z l4<|ag Z l1<|ag Z l1<|dn<|wr<|blkR<|sqR<|?_
  have b3 := A.t b8
  have cr := aB.sel 4 [0, 1, 2]
  cases bK
  exact fM (fsC l1 (fsC l0 fsN)) Z ⟨_, Z, b3, Z, cr⟩
 refine WP.seqI (fun l V' => ∃ (aa : Bool), l = [(0, .pointer (some ⟨s, 0, none⟩)), (1, .int .i64 G), (6, .pointer (some ⟨ae, 0, none⟩)), (24, .int .i64 a.i.op), (40, .bool aa)] ∧ aG.le V' ∧ Ow V' (WA s ab H I J X Y f (.pt ae (.cells 5 (C2 a.i)) :: Rs)) ∧ window_Window_reckon_k1 f G a aa = some r) ?_ ?_
 ·rintro _ cE ⟨aa, rfl, C, e, au⟩
  unfold window_Window_reckon_k1 at au
  refine cd l4 au (fun aM bM => ?_) (fun aM bn => ?_)
  ·refine rg<|mv Z l0<|mv Z l2<|fa 2 Z l4 T56 Z ti3<|ld Z l0 T3 e 3<|?_
   have B := (p.t q).t C
   have ak := m.up B
   have al := n.up B
   have am := o.up B
   have ao := gl.up B
   refine cb Z en31 (a3 l3 l2 l0) bM (wk_window_Window_reg · ao ak al am e) ?_
   rintro b bN cT cF D ⟨rfl, aD⟩
   refine mv Z l0<|uu Z (S.extract Z l0 Z nle)<|uu Z (S.extract Z l1 Z nle)<|ag Z l1<|ag Z l1<|dn<|rg<|mv Z (lk 10)<|mv Z (lk 12)<|fa 3 Z (lk 14) T56 Z ti3<|ld Z l0 T3 aD 3<|?_
   have bb := ak.up D
   have be := al.up D
   have bf := am.up D
   have aq := ao.up D
   refine cb Z en31 (a3 l3 l2 l0) bN (wk_window_Window_reg · aq bb be bf aD) ?_
   rintro c bO cU aH ax ⟨rfl, aE⟩
   refine mv Z l0<|uu Z (S.extract Z l0 Z nle)<|uu Z (S.extract Z l1 Z nle)<|ag Z l1<|ag Z l1<|dn<|?_
   refine WP.usdreg Z Z Z ?_
   refine mv Z (lk 11)<|mv Z l2<|uu Z (S.add Z l1 l0)<|mv Z l4<|mv Z (lk 15)<|uu Z (S.sub Z l1 l0)<|mv Z (lk 17)<|mv Z l8<|uu Z (S.mul Z l1 l0)<|mv Z (lk 20)<|mv Z (lk 11)<|?_
   have ar := aq.up ax
   obtain ⟨M, bW, bP⟩ := bindS bO
   refine O.call (V := aH) Z Z (.inl Z) Z en69 (aC l1 (aC l0 aN)) (wk_window_divide bW ar aE) (fun cu ac W Q => by obtain ⟨rfl, F⟩ := Q; exact (fun _ => one)) (fun cu ac W Q => ?_)
   obtain ⟨rfl, F⟩ := Q
   refine mv Z (lk 23)<|mv Z (lk 14)<|?_
   have bl := ar.up W
   obtain ⟨N, bX, bQ⟩ := bindS bP
   refine O.call (V := ac) Z Z (.inl Z) Z en70 (aC l1 (aC l0 aN)) (wk_window_order bX bl F) (fun cv ad ay P => by obtain ⟨rfl, E⟩ := P; exact (fun _ => (oc Z one))) (fun cv ad ay P => ?_)
   obtain ⟨rfl, E⟩ := P
   refine uu (v := .agg (([.int .i64 (w64 (b.1 + c.1)), .int .i64 (w64 (c.1 - b.1)), .int .i64 (w64 (b.1 * c.1)), .int .i64 M, .int .i64 N] : List Value)).toArray) Z (S.buildA (vs := [.int .i64 (w64 (b.1 + c.1)), .int .i64 (w64 (c.1 - b.1)), .int .i64 (w64 (b.1 * c.1)), .int .i64 M, .int .i64 N]) Z ti111 Z T111 ti3 (aC (lk 12) (aC l9 (aC l6 (aC l3 (aC l0 aN))))) (allC (by simp [topV]) (allC (by simp [topV]) (allC (by simp [topV]) (allC (by simp [topV]) (allC (by simp [topV]) allN))))) (fill1 Z Z nle (fill1 Z Z nle (fill1 Z Z nle (fill1 Z Z nle (fill1 Z Z nle Z))))))<|fa 0 Z (lk 38) T56 Z ti3<|uD Z (S.load Z l0 T3 Z ((E.own (k := 3) Z).cell Z)) (oc (Or.inr (Or.inl ((E.own (k := 3) Z).get.trans (F.own (k := 3) Z).get.symm))) (oc (Or.inr (Or.inl ((F.own (k := 3) Z).get.trans (aE.own (k := 3) Z).get.symm))) (onr (E.own (k := 3) Z).lt)))<|uu Z (S.sub Z l0 K)<|?_
   obtain ⟨cw, bV, bm⟩ := bindS bQ
   refine O.indexV (show Rows (RT.int .i64).rel ad [.int .i64 (w64 (b.1 + c.1)), .int .i64 (w64 (c.1 - b.1)), .int .i64 (w64 (b.1 * c.1)), .int .i64 M, .int .i64 N] ([w64 (b.1 + c.1), w64 (c.1 - b.1), w64 (b.1 * c.1), M, N] : List Int) from (.cons [_] _ _ _ Z (.cons [_] _ _ _ Z (.cons [_] _ _ _ Z (.cons [_] _ _ _ Z (.cons [_] _ _ _ Z .nil)))))) Z Z Z (.inl Z) Z l3 l0 T111 Z T3 Z ti3 bV (fun ct bS => ?_)
   obtain rfl : ct = .int .i64 cw := (List.cons.inj bS).1
   refine mv Z (lk 30)<|mv Z l0<|?_
   refine jX 24 (jv 85 (.bool (b.2 && c.2))<|jr 84 1 []) (fun cM => ?_) fun kk => ?_
   ·refine ag Z l4<|ag Z l1<|dn<|wr<|blkR<|sqR<|?_
    have bY := (((B.t D).t ax).t W).t ay
    have b9 := E.sel 4 [0, 1, 2]
    cases bm
    exact fM (fsC l1 (fsC l0 fsN)) Z ⟨_, Z, bY, Z, b9⟩
   refine gs l0 (fun g => ?_) fun g => ?_
   ·refine ug Z Z (lb 0 g) (S.move Z (lk 22))<|uu Z (S.pickT Z (lb 1 g) l0)<|?_
    exact jk kk (aT g)
   refine ux Z Z (lb 0 g)<|uu Z (S.pickF Z (lb 1 g) K)<|?_
   exact jk kk (aF g)
  refine rg<|uu Z (S.eqlI Z l3 K)<|ag Z l0<|dn<|?_
  refine cd l0 bn (fun aI bo => ?_) (fun aI br => ?_)
  ·refine rg<|mv Z l2<|mv Z l4<|fa 2 Z l6 T56 Z ti3<|ld Z l0 T3 e 3<|?_
   have w := (p.t q).t C
   have aP := m.up w
   have aQ := n.up w
   have aR := o.up w
   have an := gl.up w
   refine cb Z en31 (a3 l3 l2 l0) bo (wk_window_Window_reg · an aP aQ aR e) ?_
   rintro cV bp cN cx aw ⟨rfl, az⟩
   refine mv Z l0<|uu Z (S.extract Z l0 Z nle)<|uu Z (S.extract Z l1 Z nle)<|ag Z l1<|ag Z l1<|dn<|rg<|mv Z l1<|fa 4 Z (lk 15) T56 Z ti3<|ld Z l0 T3 az 3<|?_
   have bg := an.up aw
   refine cb Z en70 (a2 l2 l0) bp (wk_window_order · bg az) ?_
   rintro cW bq cO cy b4 ⟨rfl, ca⟩
   refine mv Z l4<|ag Z l1<|ag Z l1<|dn<|wr<|blkR<|sqR<|?_
   have bZ := (w.t aw).t b4
   have cc := ca.sel 4 [0, 1, 2]
   cases bq
   exact fM (fsC l1 (fsC l0 fsN)) Z ⟨_, Z, bZ, Z, cc⟩
  refine rg<|uu Z (S.eqlI Z l5 K)<|ag Z l0<|dn<|?_
  refine cd l0 br (fun aJ bs => ?_) (fun aJ bu => ?_)
  ·refine rg<|mv Z l4<|mv Z l6<|?_
   have x := (p.t q).t C
   have aS := m.up x
   have aU := n.up x
   have aW := o.up x
   have bh := gl.up x
   refine cb Z en31 (a3 l1 l0 K) bs (wk_window_Window_reg · bh aS aU aW e) ?_
   rintro cX bt cP cz b5 ⟨rfl, ce⟩
   refine uu Z (S.extract Z l0 Z nle)<|uu Z (S.extract Z l1 Z nle)<|ag Z l1<|ag Z l1<|dn<|wr<|blkR<|sqR<|?_
   have b0 := x.t b5
   have cf := ce.sel 4 [0, 1, 2]
   cases bt
   exact fM (fsC l1 (fsC l0 fsN)) Z ⟨_, Z, b0, Z, cf⟩
  refine rg<|uu Z (S.eqlI Z l7 K)<|ag Z l0<|dn<|?_
  refine cd l0 bu (fun aK bw => ?_) (fun aK bz => ?_)
  ·refine rg<|mv Z l6<|mv Z l8<|?_
   have y := (p.t q).t C
   have aX := m.up y
   have aY := n.up y
   have aZ := o.up y
   have bi := gl.up y
   refine cb Z en31 (a3 l1 l0 K) bw (wk_window_Window_reg · bi aX aY aZ e) ?_
   rintro cY bx cQ cA b6 ⟨rfl, cg⟩
   refine uu Z (S.extract Z l0 Z nle)<|uu Z (S.extract Z l1 Z nle)<|ag Z l1<|ag Z l1<|dn<|wr<|blkR<|sqR<|?_
   have b1 := y.t b6
   have ch := cg.sel 4 [0, 1, 2]
   cases bx
   exact fM (fsC l1 (fsC l0 fsN)) Z ⟨_, Z, b1, Z, ch⟩
  refine wn<|blkN<|sqN<|rg<|mv Z l6<|mv Z l8<|fa 1 Z (lk 10) T56 Z ti3<|ld Z l0 T3 e 3<|?_
  have z := (p.t q).t C
  have a0 := m.up z
  have a6 := n.up z
  have a7 := o.up z
  have bj := gl.up z
  refine cb Z en31 (a3 l3 l2 l0) bz (wk_window_Window_reg · bj a0 a6 a7 e) ?_
  rintro cZ bA cR cB b7 ⟨rfl, ci⟩
  refine uu Z (S.extract Z l0 Z nle)<|uu Z (S.extract Z l1 Z nle)<|ag Z l1<|ag Z l1<|dn<|wr<|?_
  have b2 := z.t b7
  have cj := ci.sel 4 [0, 1, 2]
  cases bA
  exact fM (fsC l1 (fsC l0 fsN)) Z ⟨_, Z, b2, Z, cj⟩
 refine rg<|uu Z (S.eqlI Z l2 K)<|ag Z l0<|dn<|?_
 refine cd l0 bL (fun af bB => ?_) (fun af bC => ?_)
 ·refine wn<|sqN<|?_
  have ck := d.sel 4 [1, 2, 3, 0]
  exact ⟨_, _, Z, ⟨_, Z, (.refl _), ck, bB⟩, (allCons (lk 17) (allCons (lk 18) (allCons l6 (allCons l4 (allCons (lb 0 af) allNil)))))⟩
 refine rg<|uu Z (S.eqlI Z l4 K)<|ag Z l0<|dn<|?_
 refine cd l0 bC (fun ah bD => ?_) (fun ah bE => ?_)
 ·refine wn<|sqN<|?_
  have cl := d.sel 4 [1, 2, 3, 0]
  exact ⟨_, _, Z, ⟨_, Z, (.refl _), cl, bD⟩, (allCons (lk 19) (allCons (lk 20) (allCons l8 (allCons l6 (allCons (lb 0 ah) allNil)))))⟩
 refine rg<|uu Z (S.eqlI Z l6 K)<|ag Z l0<|dn<|?_
 refine cd l0 bE (fun ai bF => ?_) (fun ai bG => ?_)
 ·refine wn<|sqN<|?_
  have cm := d.sel 4 [1, 2, 3, 0]
  exact ⟨_, _, Z, ⟨_, Z, (.refl _), cm, bF⟩, (allCons (lk 21) (allCons (lk 22) (allCons (lk 10) (allCons l8 (allCons (lb 0 ai) allNil)))))⟩
 refine rg<|uu Z (S.eqlI Z l8 K)<|ag Z l0<|dn<|?_
 refine cd l0 bG (fun aj bH => ?_) (fun aj bI => ?_)
 ·refine wn<|sqN<|?_
  have cn := d.sel 4 [1, 2, 3, 0]
  exact ⟨_, _, Z, ⟨_, Z, (.refl _), cn, bH⟩, (allCons (lk 23) (allCons (lk 24) (allCons (lk 12) (allCons (lk 10) (allCons (lb 0 aj) allNil)))))⟩
 refine rh<|uu Z (S.eqlI Z (lk 10) K)<|ag Z l0<|dn<|sqN<|?_
 have co := d.sel 4 [1, 2, 3, 0]
 exact ⟨_, _, Z, ⟨_, Z, (.refl _), co, bI⟩, allR⟩
theorem wk_window_Window_MayExec {V : Vw} {Rs : List At} {d : Twindow_Window} {Y : Int} {C : Tstorage_Storage} {y ak : Nat} {D E F aa ab : Value} {z aj : Nat} {ac ad : Value} {M : List Value} {ae : Value} {N : List Value} {af : Value} {P : List Value} {ah : Value} {r : Bool} (h : window_Window_MayExec d Y C = some r) (gl : Glb V) (l : Fz (RT.int .u32) V D d.img.code) (m : Fz RT_TNote V E d.img.notes) (n : Fz (RT.int .i64) V F d.img.threads) (ow : Ow V (WA y ak D E F aa ab d (SA z aj ac ad M ae N af P ah C Rs))) : CT 9 #[.pointer (some ⟨y, 0, none⟩), .int .i64 Y, .pointer (some ⟨z, 0, none⟩)] V fun v V' => v = .bool r ∧ Ow V' (WA y ak D E F aa ab d (SA z aj ac ad M ae N af P ah C Rs)) := by
 refine Ct.of gl.lo Tryd.func9 Z nle ?_
 unfold window_Window_MayExec at h
 refine rg<|ag Z K<|dn<|ws<|rg<|mv Z l1<|mv Z l3<|?_
 refine cb Z en32 (a2 l1 l0) h (wk_window_Window_slot · gl l m n ow) ?_
 rintro ai aS b4 bF i ⟨rfl, b⟩
 refine uu Z (S.not Z l0)<|mv Z l0<|?_
 obtain ⟨bB, bl, aU⟩ := bindS aS
 refine jX 14 (jv 31 (.bool bB)<|jr 30 8 []) (fun b0 => ?_) fun kk => ?_
 ·refine dn<|?_
  refine cd l0 aU (fun al aW => ?_) (fun al aX => ?_)
  ·refine rg<|ag Z K<|dn<|wr<|sqR<|?_
   obtain rfl := si aW
   exact fS l0 ⟨_, Z, i, Z, b⟩
  refine wn<|sqN<|rg<|mv Z (lk 15)<|uu Z (S.nilCheck Z l0)<|fa 38 Z l0 T54 Z ti40<|ld Z l0 T40 b 0<|mv Z (lk 20)<|?_
  obtain ⟨bA, f, aY⟩ := bindS aX
  obtain ⟨bK, bY, bW, bM, o⟩ := b.ospt (k := 1) Z f
  obtain ⟨_, bk, _⟩ := b.osel (k := 1) Z o f
  refine uu Z (S.index Z ((lk 1).trans bk) l0 T40 ti67 (ix_ge f) (ix_lt f))<|fe Z l0 T67 Z ti56<|fe Z l0 T56 Z ti3<|?_
  obtain ⟨ar, bS, bP, bh, be⟩ := b.osel (k := 1) Z o f
  obtain rfl : ar = (C0 bA) := bh
  refine uk Z (S.load Z l0 T3 Z (be 2 _ Z))<|ag Z l0<|dn<|ws<|wb<|rg<|mv Z l0<|?_
  have A := gl.up i
  refine cb Z en33 (a1 l0) aY (wk_window_load · A b) ?_
  rintro b9 aZ b5 bG j ⟨rfl, W⟩
  refine ag Z l0<|dn<|?_
  refine cd l0 aZ (fun am a0 => ?_) (fun am a7 => ?_)
  ·refine rg<|mv Z (lk 28)<|mv Z (lk 30)<|mv Z (lk 32)<|?_
   have s := i.t j
   have aB := l.up s
   have aD := m.up s
   have aE := n.up s
   have aI := A.up j
   refine cb Z en34 (a3 l2 l1 l0) a0 (wk_window_Window_source · aI aB aD aE W) ?_
   rintro ca a6 b6 bH br ⟨rfl, bu⟩
   refine mv Z l0<|uu Z (S.extract Z l0 Z nle)<|uu Z (S.extract Z l1 Z nle)<|uu Z (S.extract Z l2 Z nle)<|uu Z (S.extract Z l3 Z nle)<|ag Z l3<|ag Z l3<|ag Z l3<|ag Z l3<|dn<|rg<|mv Z l0<|ag Z l0<|dn<|wr<|blkR<|sqR<|?_
   have bo := s.t br
   cases a6
   exact fS l0 ⟨_, Z, bo, Z, bu⟩
  refine rg<|mv Z l3<|?_
  have B := A.up j
  refine cb Z en35 (a1 l0) a7 (wk_window_store · B W) ?_
  rintro cc a8 b7 bI w ⟨rfl, X⟩
  refine ag Z l0<|dn<|?_
  refine cd l0 a8 (fun an a9 => ?_) (fun an aM => ?_)
  ·refine rg<|mv Z (lk 31)<|mv Z (lk 33)<|?_
   have u := (i.t j).t w
   have G := l.up u
   have H := m.up u
   have I := n.up u
   have J := B.up w
   refine cb Z en36 (a2 l1 l0) a9 (wk_window_Window_place · J G H I X) ?_
   rintro bv aJ b1 bC g ⟨rfl, x⟩
   refine mv Z l0<|uu Z (S.extract Z l0 Z nle)<|uu Z (S.extract Z l1 Z nle)<|ag Z l1<|ag Z l1<|dn<|rg<|mv Z (lk 39)<|mv Z (lk 41)<|mv Z (lk 41)<|uu Z (S.nilCheck Z l0)<|fa 38 Z l0 T54 Z ti40<|ld Z l0 T40 x 0<|mv Z (lk 46)<|?_
   obtain ⟨bw, p, aK⟩ := bindS aJ
   obtain ⟨_, bi, _⟩ := x.osel (k := 1) Z o p
   refine uu Z (S.index Z ((lk 1).trans bi) l0 T40 ti67 (ix_ge p) (ix_lt p))<|fe Z l0 T67 Z ti56<|fe Z l0 T56 Z ti3<|?_
   obtain ⟨ao, bQ, bN, bf, ba⟩ := x.osel (k := 1) Z o p
   obtain rfl : ao = (C0 bw) := bf
   refine uk Z (S.load Z l0 T3 Z (ba 3 _ Z))<|?_
   have au := G.up g
   have av := H.up g
   have aw := I.up g
   have aG := J.up g
   refine cb Z en31 (a3 (lk 10) l9 l0) aK (wk_window_Window_reg · aG au av aw x) ?_
   rintro bx aL b2 bD bp ⟨rfl, bs⟩
   refine mv Z l0<|uu Z (S.extract Z l0 Z nle)<|uu Z (S.extract Z l1 Z nle)<|ag Z l1<|ag Z l1<|dn<|rg<|mv Z (lk 17)<|mv Z l0<|?_
   refine jX 4 (jv 81 (.bool (bv.2 && bx.2))<|jr 80 1 []) (fun bZ => ?_) fun kk => ?_
   ·refine ag Z l0<|dn<|wr<|blkR<|sqR<|?_
    have bm := (u.t g).t bp
    cases aL
    exact fS l0 ⟨_, Z, bm, Z, bs⟩
   refine gs l0 (fun c => ?_) fun c => ?_
   ·refine ug Z Z (lb 0 c) (S.move Z l2)<|uu Z (S.pickT Z (lb 1 c) l0)<|?_
    exact jk kk (aT c)
   refine ux Z Z (lb 0 c)<|uu Z (S.pickF Z (lb 1 c) K)<|?_
   exact jk kk (aF c)
  refine wn<|blkN<|sqN<|rg<|mv Z (lk 31)<|mv Z (lk 33)<|?_
  have q := (i.t j).t w
  have ax := l.up q
  have ay := m.up q
  have az := n.up q
  have aH := B.up w
  refine cb Z en37 (a2 l1 l0) aM (wk_window_Window_reckon · aH ax ay az X) ?_
  rintro b8 aO b3 bE bq ⟨rfl, bt⟩
  refine mv Z l0<|uu Z (S.extract Z l0 Z nle)<|uu Z (S.extract Z l1 Z nle)<|ag Z l1<|ag Z l1<|dn<|rg<|mv Z l0<|ag Z l0<|dn<|wr<|?_
  have bn := q.t bq
  cases aO
  exact fS l0 ⟨_, Z, bn, Z, bt⟩
 refine gi l0 bl (fun a aP => ?_) fun a aQ => ?_
 ·have bT : ai = false := nT a
  refine uxs 8 30 Z Z (lb 0 a)<|uu Z (S.pickT Z (lb 8 a) K)<|?_
  obtain rfl := si aP
  exact jk kk Z
 have bU : ai = true := nF a
 refine ug Z Z (lb 0 a) (S.move Z l6)<|ug Z Z (lb 1 a) (S.nilCheck Z l0)<|fg Z Z (lb 2 a) l0 T54 Z ti40<|kg Z Z (lb 3 a) (S.load Z l0 T40 Z ((b.own (k := 0) Z).cell Z))<|ug Z Z (lb 4 a) (S.move Z (lk 11))<|?_
 obtain ⟨bz, e, aR⟩ := bindS aQ
 obtain ⟨bJ, bX, bV, bL, Q⟩ := b.ospt (k := 1) Z e
 obtain ⟨_, bj, _⟩ := b.osel (k := 1) Z Q e
 refine ug Z Z (lb 5 a) (S.index Z ((lk 1).trans bj) l0 T40 ti67 (ix_ge e) (ix_lt e))<|fg Z Z (lb 6 a) l0 T67 Z ti4<|?_
 obtain ⟨aq, bR, bO, bg, bb⟩ := b.osel (k := 1) Z Q e
 obtain rfl : aq = (C0 bz) := bg
 refine kg Z Z (lb 7 a) (S.load Z l0 T4 Z (bb 12 _ Z))<|uu Z (S.pickF Z (lb 8 a) l0)<|?_
 cases aR
 exact jk kk Z
theorem wk_window_Window_Exec {V : Vw} {Rs : List At} {a : Twindow_Window} {A : Int} {M : Tstorage_Storage} {x ah : Nat} {s u w F q : Value} {G af : Nat} {X Y : Value} {P : List Value} {aa : Value} {Q : List Value} {ab : Value} {W : List Value} {ac : Value} {r : Int × Twindow_Window} (h : window_Window_Exec a A M = some r) (gl : Glb V) (B : Fz (RT.int .u32) V s a.img.code) (C : Fz RT_TNote V u a.img.notes) (D : Fz (RT.int .i64) V w a.img.threads) (ow : Ow V (WA x ah s u w F q a (SA G af X Y P aa Q ab W ac M Rs))) : CT 17 #[.pointer (some ⟨x, 0, none⟩), .int .i64 A, .pointer (some ⟨G, 0, none⟩)] V fun v V' => ∃ (bj : Value) (bk : Value) (bl : Value) (ef : Value), v = .int .i64 r.1 ∧ Fz (RT.int .u32) V' bj r.2.img.code ∧ Fz RT_TNote V' bk r.2.img.notes ∧ Fz (RT.int .i64) V' bl r.2.img.threads ∧ Ow V' (WA x ah bj bk bl ef q r.2 (SA G af X Y P aa Q ab W ac M Rs)) := by
 refine Ct.of gl.lo Tryd.func17 Z nle ?_
 unfold window_Window_Exec at h
 refine rg<|ag Z K<|dn<|ws<|wb<|rg<|mv Z l1<|uu Z (S.nilP Z (.inl Z) l0 K T30)<|ag Z l0<|dn<|?_
 refine WP.cond false l0 Z (fun h => by cases h) (fun _ => ?_)
 refine rg<|mv Z l4<|mv Z l6<|mv Z l8<|?_
 refine cb Z en9 (a3 l2 l1 l0) h (wk_window_Window_MayExec · gl B C D ow) ?_
 rintro bp cL fu eI E ⟨rfl, J⟩
 refine uu Z (S.not Z l0)<|ag Z l0<|dn<|?_
 refine cd l0 cL (fun aq cM => ?_) (fun aq cN => ?_)
 ·have fk : bp = false := nT aq
  refine rg<|ag Z K<|dn<|wr<|blkR<|sqR<|?_
  have b4 := B.up E
  have b5 := C.up E
  have b6 := D.up E
  cases cM
  exact fS l0 ⟨_, Z, E, s, u, w, F, Z, b4, b5, b6, J⟩
 have fl : bp = true := nF aq
 refine wn<|blkN<|sqN<|rg<|mv Z (lk 10)<|uu Z (S.nilCheck Z l0)<|fa 38 Z l0 T54 Z ti40<|ld Z l0 T40 J 0<|mv Z (lk 15)<|?_
 obtain ⟨o, H, cO⟩ := bindS cN
 obtain ⟨aE, a0, fm, eJ, b⟩ := J.ospt (k := 1) Z H
 obtain ⟨_, dC, _⟩ := J.osel (k := 1) Z b H
 refine uu Z (S.index Z ((lk 1).trans dC) l0 T40 ti67 (ix_ge H) (ix_lt H))<|ag Z l0<|dn<|rg<|mv Z l0<|uu Z (S.nilCheck Z l0)<|fe Z l0 T67 Z ti4<|?_
 obtain ⟨bP, dD, e3, ds, eR⟩ := J.osel (k := 1) Z b H
 obtain rfl : bP = (C0 o) := ds
 refine O.storeE (k := 1) (R := RT_TSlot) (j := 12) (y := (⟨o.seq, o.pc, o.i, o.note, o.next, true, o.committed, o.val, o.at_, o.from_, o.id⟩ : TSlot)) (cs := [.bool true]) J Z dD Z Z (.inl Z) Z l0 K ti4 H (by simp [topV]) Z Z Z (fun r hr => by obtain rfl : r = _ := hr; exact ⟨nr Z, Z⟩) (fun _ _ => nd) (fun bq ay bh => ?_)
 refine dn<|?_
 refine WP.seqI (fun l V' => ∃ (ae : List TSlot), l = [(0, .pointer (some ⟨x, 0, none⟩)), (1, .int .i64 A), (7, .pointer (some ⟨aE, a0 + Int.toNat A * 18, none⟩))] ∧ bq.le V' ∧ Ow V' (.pt x (.cells ah (cW s u w F q a)) :: .os RT_TSlot F ae :: .os RT_TSlot q a.log :: SA G af X Y P aa Q ab W ac M Rs) ∧ window_Window_Exec_k1 a A ae = some r) ?_ ?_
 ·rintro _ br ⟨ae, rfl, aZ, p, aM⟩
  unfold window_Window_Exec_k1 at aM
  refine ws<|rg<|mv Z l2<|uu Z (S.nilCheck Z l0)<|fe Z l0 T67 Z ti56<|fe Z l0 T56 Z ti3<|?_
  obtain ⟨ep, dO, cP⟩ := bindS aM
  obtain ⟨bQ, fi, e4, dt, c3⟩ := p.osel (k := 1) Z b dO
  obtain rfl : bQ = (C0 ep) := dt
  refine uk Z (S.load Z l0 T3 Z (c3 2 _ Z))<|uu Z (S.neqI Z l0 K)<|dn<|?_
  refine cd l0 cP (fun bx cQ => ?_) (fun bx cR => ?_)
  ·refine rg<|ag Z K<|dn<|wr<|sqR<|?_
   have al := (E.t ay).t aZ
   have b7 := B.up al
   have b8 := C.up al
   have b9 := D.up al
   cases cQ
   exact fS l0 ⟨_, Z, al, s, u, w, F, Z, b7, b8, b9, p⟩
  refine wn<|sqN<|rg<|mv Z l8<|uu Z (S.nilCheck Z l0)<|fe Z l0 T67 Z ti3<|?_
  obtain ⟨eq, dP, cS⟩ := bindS cR
  obtain ⟨bR, fj, e5, du, c4⟩ := p.osel (k := 1) Z b dP
  obtain rfl : bR = (C0 eq) := du
  refine uk Z (S.load Z l0 T3 Z (c4 1 _ Z))<|uu Z (S.add Z l0 K)<|ag Z l0<|dn<|?_
  refine WP.seqI (fun l V' => ∃ (ad : Int), l = [(0, .pointer (some ⟨x, 0, none⟩)), (1, .int .i64 A), (7, .pointer (some ⟨aE, a0 + Int.toNat A * 18, none⟩)), (8, .int .i64 ad)] ∧ br.le V' ∧ Ow V' (.pt x (.cells ah (cW s u w F q a)) :: .os RT_TSlot F ae :: .os RT_TSlot q a.log :: SA G af X Y P aa Q ab W ac M Rs) ∧ window_Window_Exec_k2 a A ae ad = some r) ?_ ?_
  ·rintro _ bs ⟨ad, rfl, dU, am, aK⟩
   unfold window_Window_Exec_k2 at aK
   refine WP.seqI (fun l V' => ∃ (ao : Value) (aD : List TSlot) (aB : Int), l = [] ∧ bs.le V' ∧ Ow V' (.pt x (.cells ah (s :: u :: w :: .int .i64 a.t :: rg34 a.regs [ao, .int .i64 aB, .int .i64 a.seq, .bool a.ended, .bool a.held, .int .i64 a.at_, .int .i64 a.from_, q])) :: .os RT_TSlot ao aD :: .os RT_TSlot q a.log :: SA G af X Y P aa Q ab W ac M Rs) ∧ window_Window_Exec_k3 a aD aB = some r) ?_ ?_
   ·rintro _ er ⟨ao, aD, aB, rfl, dV, d8, aL⟩
    unfold window_Window_Exec_k3 at aL
    refine rg<|ag Z K<|dn<|wr<|?_
    have ai := (((E.t ay).t aZ).t dU).t dV
    have bS := B.up ai
    have bT := C.up ai
    have bU := D.up ai
    cases aL
    exact fS l0 ⟨_, Z, ai, s, u, w, ao, Z, bS, bT, bU, d8⟩
   refine rg<|mv Z l3<|mv Z l3<|uu Z (S.nilCheck Z l0)<|fe Z l0 T67 Z ti3<|?_
   obtain ⟨eg, dE, cf⟩ := bindS aK
   obtain ⟨bz, e6, eS, da, cT⟩ := am.osel (k := 1) Z b dE
   obtain rfl : bz = (C0 eg) := da
   refine uk Z (S.load Z l0 T3 Z (cT 11 _ Z))<|uu Z (S.neqI Z l4 l0)<|dn<|?_
   refine cd l0 cf (fun bt cg => ?_) (fun bt cj => ?_)
   ·refine rg<|mv Z l8<|mv Z (lk 10)<|uu Z (S.nilCheck Z l1)<|fe Z l0 T67 Z ti3<|?_
    obtain ⟨c, aO, ch⟩ := bindS cg
    obtain ⟨bA, dv, eT, db, eK⟩ := am.osel (k := 1) Z b aO
    obtain rfl : bA = (C0 c) := db
    refine O.storeE (k := 1) (R := RT_TSlot) (j := 11) (y := (⟨c.seq, c.pc, c.i, c.note, ad, c.done, c.committed, c.val, c.at_, c.from_, c.id⟩ : TSlot)) (cs := [.int .i64 ad]) am Z dv Z Z (.inl Z) Z l0 l2 ti3 aO (by simp [topV]) Z Z Z (fun r hr => by obtain rfl : r = _ := hr; exact ⟨nr Z, Z⟩) (fun _ _ => nd) (fun es dW a6 => ?_)
    refine dn<|rh<|mv Z (lk 10)<|mv Z (lk 11)<|mv Z (lk 12)<|uu Z (S.nilCheck Z l0)<|fa 38 Z l0 T54 Z ti40<|ld Z l0 T40 a6 0<|mv Z (lk 17)<|uu Z (S.add Z l0 K)<|?_
    obtain ⟨fx, dF, ci⟩ := bindS ch
    refine O.cutE (k := 1) a6 Z dF Z Z (.inl Z) Z l2 l0 T40 ti67 (fun et bi dX an => ?_)
    refine mv Z (lk 22)<|uu Z (S.nilCheck Z l9)<|fa 38 Z l0 T54 Z ti40<|?_
    refine O.store (k := 0) (cs := [bi]) (c' := (cW s u w bi q a)) an Z Z Z (.inl Z) Z l0 l3 ti40 (an.osne (k := 1) Z) (by rw [an.oscells (k := 1) rfl]) Z nle (by have ee := (an.osone (k := 1) Z); simp only [List.all_cons, List.all_nil, ee]; rfl) Z nd (fun eu dY d9 => ?_)
    refine uu Z (S.nilCheck Z (lk 10))<|fa 39 Z l0 T54 Z ti3<|?_
    refine st 0 d9 Z l0 l4 ti3 (fun ev dZ ea => ?_)
    refine dn<|sqN<|?_
    have dQ := ((dW.t dX).t dY).t dZ
    exact ⟨_, _, Z, ⟨_, _, _, Z, dQ, ea, ci⟩, allR⟩
   refine wn<|sqN<|?_
   exact ⟨_, _, Z, ⟨_, _, _, Z, (.refl _), am, cj⟩, allR⟩
  refine WP.usdreg Z Z Z ?_
  refine mv Z (lk 14)<|uu Z (S.nilCheck Z l0)<|fe Z l0 T67 Z ti3<|?_
  obtain ⟨eh, dG, ck⟩ := bindS cS
  obtain ⟨bB, e7, c5, dc, cU⟩ := p.osel (k := 1) Z b dG
  obtain rfl : bB = (C0 eh) := dc
  refine uD Z (S.load Z l0 T3 Z (cU 14 _ Z)) (onr c5)<|mv Z (lk 18)<|uu Z (S.nilCheck Z l0)<|fe Z l0 T67 Z ti56<|fe Z l0 T56 Z ti3<|?_
  obtain ⟨ei, dH, cl⟩ := bindS ck
  obtain ⟨bC, e8, c6, dd, cV⟩ := p.osel (k := 1) Z b dH
  obtain rfl : bC = (C0 ei) := dd
  refine uD Z (S.load Z l0 T3 Z (cV 4 _ Z)) (ot (onr c6))<|uu Z (S.eqlI Z l5 l0)<|mv Z (lk 24)<|uu Z (S.nilCheck Z l0)<|fe Z l0 T67 Z ti56<|fe Z l0 T56 Z ti3<|?_
  obtain ⟨ej, dI, cm⟩ := bindS cl
  obtain ⟨bD, e9, c7, de, cX⟩ := p.osel (k := 1) Z b dI
  obtain rfl : bD = (C0 ej) := de
  refine uD Z (S.load Z l0 T3 Z (cX 3 _ Z)) (ot (ot (onr c7)))<|uu Z (S.eqlI Z l0 K)<|uu Z (S.eqlB Z l6 l0 T4)<|dn<|?_
  refine cd l0 cm (fun bu cn => ?_) (fun bu cq => ?_)
  ·refine WP.udreg Z Z Z ?_
   refine mv Z (lk 31)<|uu Z (S.nilCheck Z l0)<|fe Z l0 T67 Z ti3<|?_
   obtain ⟨ek, dJ, co⟩ := bindS cn
   obtain ⟨bE, fb, c8, df, cY⟩ := p.osel (k := 1) Z b dJ
   obtain rfl : bE = (C0 ek) := df
   refine uD Z (S.load Z l0 T3 Z (cY 1 _ Z)) (onr c8)<|mv Z (lk 35)<|uu Z (S.nilCheck Z l0)<|fe Z l0 T67 Z ti56<|fe Z l0 T56 Z ti3<|?_
   obtain ⟨el, dK, cp⟩ := bindS co
   obtain ⟨bF, fc, c9, dg, cZ⟩ := p.osel (k := 1) Z b dK
   obtain rfl : bF = (C0 el) := dg
   refine uD Z (S.load Z l0 T3 Z (cZ 6 _ Z)) (ot (onr c9))<|uu Z (S.add Z l5 l0)<|ag Z l0<|dn<|sqN<|?_
   exact ⟨_, _, Z, ⟨_, Z, (.refl _), p, cp⟩, allR⟩
  refine wn<|sqN<|?_
  exact ⟨_, _, Z, ⟨_, Z, (.refl _), p, cq⟩, allR⟩
 refine wb<|rg<|mv Z l3<|uu Z (S.nilCheck Z l0)<|fe Z l0 T67 Z ti56<|fe Z l0 T56 Z ti3<|?_
 obtain ⟨em, dL, cr⟩ := bindS cO
 obtain ⟨bG, fd, eU, dh, c0⟩ := bh.osel (k := 1) Z b dL
 obtain rfl : bG = (C0 em) := dh
 refine uk Z (S.load Z l0 T3 Z (c0 2 _ Z))<|?_
 have aj := E.t ay
 have ar := gl.up aj
 refine cb Z en33 (a1 l0) cr (wk_window_load · ar bh) ?_
 rintro fv ct fn ew z ⟨rfl, az⟩
 refine ag Z l0<|dn<|?_
 refine cd l0 ct (fun bv cu => ?_) (fun bv cz => ?_)
 ·refine rh<|mv Z (lk 10)<|mv Z (lk 11)<|mv Z (lk 12)<|mv Z (lk 30)<|mv Z (lk 32)<|mv Z (lk 34)<|?_
  have av := aj.t z
  have bV := B.up av
  have bW := C.up av
  have bX := D.up av
  have ca := ar.up z
  refine cb Z en34 (a3 l2 l1 l0) cu (wk_window_Window_source · ca bV bW bX az) ?_
  rintro N cv fo ex d0 ⟨rfl, a7⟩
  refine mv Z l0<|uu Z (S.extract Z l0 Z nle)<|uu Z (S.extract Z l1 Z nle)<|uu Z (S.extract Z l2 Z nle)<|uu Z (S.extract Z l3 Z nle)<|uu Z (S.nilCheck Z (lk 11))<|fe Z l0 T67 Z ti3<|?_
  obtain ⟨d, aP, cw⟩ := bindS cv
  obtain ⟨bH, dw, eV, di, eL⟩ := a7.osel (k := 1) Z b aP
  obtain rfl : bH = (C0 d) := di
  refine O.storeE (k := 1) (R := RT_TSlot) (j := 15) (y := (⟨d.seq, d.pc, d.i, d.note, d.next, d.done, d.committed, d.val, N.1, d.from_, d.id⟩ : TSlot)) (cs := [.int .i64 N.1]) a7 Z dw Z Z (.inl Z) Z l0 l5 ti3 aP (by simp [topV]) Z Z Z (fun r hr => by obtain rfl : r = _ := hr; exact ⟨nr Z, Z⟩) (fun _ _ => nd) (fun ey d1 a8 => ?_)
  refine uu Z (S.nilCheck Z (lk 12))<|fe Z l0 T67 Z ti3<|?_
  obtain ⟨e, aQ, cx⟩ := bindS cw
  obtain ⟨bI, dx, eW, dj, eM⟩ := a8.osel (k := 1) Z b aQ
  obtain rfl : bI = (C0 e) := dj
  refine O.storeE (k := 1) (R := RT_TSlot) (j := 14) (y := (⟨e.seq, e.pc, e.i, e.note, e.next, e.done, e.committed, N.2.1, e.at_, e.from_, e.id⟩ : TSlot)) (cs := [.int .i64 N.2.1]) a8 Z dx Z Z (.inl Z) Z l0 l6 ti3 aQ (by simp [topV]) Z Z Z (fun r hr => by obtain rfl : r = _ := hr; exact ⟨nr Z, Z⟩) (fun _ _ => nd) (fun ez d2 a9 => ?_)
  refine uu Z (S.nilCheck Z (lk 13))<|fe Z l0 T67 Z ti3<|?_
  obtain ⟨f, aR, cy⟩ := bindS cx
  obtain ⟨bJ, dy, eX, dk, eN⟩ := a9.osel (k := 1) Z b aR
  obtain rfl : bJ = (C0 f) := dk
  refine O.storeE (k := 1) (R := RT_TSlot) (j := 16) (y := (⟨f.seq, f.pc, f.i, f.note, f.next, f.done, f.committed, f.val, f.at_, N.2.2.1, f.id⟩ : TSlot)) (cs := [.int .i64 N.2.2.1]) a9 Z dy Z Z (.inl Z) Z l0 l7 ti3 aR (by simp [topV]) Z Z Z (fun r hr => by obtain rfl : r = _ := hr; exact ⟨nr Z, Z⟩) (fun _ _ => nd) (fun eA d3 eb => ?_)
  refine dn<|blkN<|sqN<|?_
  have dR := (((z.t d0).t d1).t d2).t d3
  exact ⟨_, _, Z, ⟨_, Z, dR, eb, cy⟩, allR⟩
 refine rg<|mv Z (lk 10)<|uu Z (S.nilCheck Z l0)<|fe Z l0 T67 Z ti56<|fe Z l0 T56 Z ti3<|?_
 obtain ⟨en, dM, cA⟩ := bindS cz
 obtain ⟨bK, ff, eY, dl, c1⟩ := az.osel (k := 1) Z b dM
 obtain rfl : bK = (C0 en) := dl
 refine uk Z (S.load Z l0 T3 Z (c1 2 _ Z))<|?_
 have au := ar.up z
 refine cb Z en35 (a1 l0) cA (wk_window_store · au az) ?_
 rintro fw cB fp eB I ⟨rfl, ba⟩
 refine ag Z l0<|dn<|?_
 refine cd l0 cB (fun bw cC => ?_) (fun bw cI => ?_)
 ·refine rg<|mv Z (lk 17)<|mv Z (lk 35)<|mv Z (lk 37)<|?_
  have aw := (aj.t z).t I
  have aG := B.up aw
  have aH := C.up aw
  have aI := D.up aw
  have aJ := au.up I
  refine cb Z en36 (a2 l1 l0) cC (wk_window_Window_place · aJ aG aH aI ba) ?_
  rintro bm cD fq eC aX ⟨rfl, bb⟩
  refine mv Z l0<|uu Z (S.extract Z l0 Z nle)<|uu Z (S.extract Z l1 Z nle)<|uu Z (S.nilCheck Z l6)<|fe Z l0 T67 Z ti3<|?_
  obtain ⟨g, aS, cE⟩ := bindS cD
  obtain ⟨bL, dz, eZ, dm, eO⟩ := bb.osel (k := 1) Z b aS
  obtain rfl : bL = (C0 g) := dm
  refine O.storeE (k := 1) (R := RT_TSlot) (j := 15) (y := (⟨g.seq, g.pc, g.i, g.note, g.next, g.done, g.committed, g.val, bm.1, g.from_, g.id⟩ : TSlot)) (cs := [.int .i64 bm.1]) bb Z dz Z Z (.inl Z) Z l0 l3 ti3 aS (by simp [topV]) Z Z Z (fun r hr => by obtain rfl : r = _ := hr; exact ⟨nr Z, Z⟩) (fun _ _ => nd) (fun eD aY be => ?_)
  refine dn<|rh<|mv Z (lk 26)<|mv Z (lk 44)<|mv Z (lk 46)<|mv Z (lk 29)<|uu Z (S.nilCheck Z l0)<|fe Z l0 T67 Z ti56<|fe Z l0 T56 Z ti3<|?_
  obtain ⟨eo, dN, cF⟩ := bindS cE
  obtain ⟨bM, fh, e0, dp, c2⟩ := be.osel (k := 1) Z b dN
  obtain rfl : bM = (C0 eo) := dp
  refine uk Z (S.load Z l0 T3 Z (c2 3 _ Z))<|?_
  have ak := aX.t aY
  have bY := aG.up ak
  have bZ := aH.up ak
  have b0 := aI.up ak
  have cc := aJ.up ak
  refine cb Z en31 (a3 l6 l5 l0) cF (wk_window_Window_reg · cc bY bZ b0 be) ?_
  rintro bn cG fs eE d4 ⟨rfl, bf⟩
  refine mv Z l0<|uu Z (S.extract Z l0 Z nle)<|uu Z (S.extract Z l1 Z nle)<|uu Z (S.nilCheck Z (lk 11))<|fe Z l0 T67 Z ti3<|?_
  obtain ⟨m, aU, cH⟩ := bindS cG
  obtain ⟨bN, dA, e1, dq, eP⟩ := bf.osel (k := 1) Z b aU
  obtain rfl : bN = (C0 m) := dq
  refine O.storeE (k := 1) (R := RT_TSlot) (j := 14) (y := (⟨m.seq, m.pc, m.i, m.note, m.next, m.done, m.committed, bn.1, m.at_, m.from_, m.id⟩ : TSlot)) (cs := [.int .i64 bn.1]) bf Z dA Z Z (.inl Z) Z l0 l3 ti3 aU (by simp [topV]) Z Z Z (fun r hr => by obtain rfl : r = _ := hr; exact ⟨nr Z, Z⟩) (fun _ _ => nd) (fun eF d5 ec => ?_)
  refine dn<|blkN<|sqN<|?_
  have dS := ((((z.t I).t aX).t aY).t d4).t d5
  exact ⟨_, _, Z, ⟨_, Z, dS, ec, cH⟩, allR⟩
 refine rh<|mv Z (lk 17)<|mv Z (lk 35)<|mv Z (lk 37)<|?_
 have ax := (aj.t z).t I
 have b1 := B.up ax
 have b2 := C.up ax
 have b3 := D.up ax
 have ce := au.up I
 refine cb Z en37 (a2 l1 l0) cI (wk_window_Window_reckon · ce b1 b2 b3 ba) ?_
 rintro bo cJ ft eG d6 ⟨rfl, bg⟩
 refine mv Z l0<|uu Z (S.extract Z l0 Z nle)<|uu Z (S.extract Z l1 Z nle)<|uu Z (S.nilCheck Z l6)<|fe Z l0 T67 Z ti3<|?_
 obtain ⟨n, aW, cK⟩ := bindS cJ
 obtain ⟨bO, dB, e2, dr, eQ⟩ := bg.osel (k := 1) Z b aW
 obtain rfl : bO = (C0 n) := dr
 refine O.storeE (k := 1) (R := RT_TSlot) (j := 14) (y := (⟨n.seq, n.pc, n.i, n.note, n.next, n.done, n.committed, bo.1, n.at_, n.from_, n.id⟩ : TSlot)) (cs := [.int .i64 bo.1]) bg Z dB Z Z (.inl Z) Z l0 l3 ti3 aW (by simp [topV]) Z Z Z (fun r hr => by obtain rfl : r = _ := hr; exact ⟨nr Z, Z⟩) (fun _ _ => nd) (fun eH d7 ed => ?_)
 refine dn<|blkN<|sqN<|?_
 have dT := ((z.t I).t d6).t d7
 exact ⟨_, _, Z, ⟨_, Z, dT, ed, cK⟩, allR⟩
theorem wk_slices_Grow {V : Vw} {Rs : List At} {e : Int} {r : List TSlot} (h : slices_Grow e = some r) (gl : Glb V) (ow : Ow V (Rs)) : CT 92 #[.slice none 0 0, .int .i64 e] V fun v V' => ∃ (f : Value), v = f ∧ Ow V' (.os RT_TSlot f r :: Rs) := by
 refine Ct.of gl.lo Tryd.func92 Z nle ?_
 unfold slices_Grow at h
 refine rg<|ag Z K<|dn<|ws<|rg<|mv Z l2<|uu Z (S.lss Z l0 K)<|dn<|?_
 refine WP.cond _ l0 Z (fun b => ?_) (fun b => ?_)
 ·have o := ifT b h
  refine rh<|?_
  cases o
 have p := ifF b h
 refine wn<|sqN<|?_
 refine WP.seqI (fun l V' => ∃ (a : Value) (c : List TSlot), l = [(0, a)] ∧ V.le V' ∧ Ow V' (.os RT_TSlot a c :: Rs) ∧ slices_Grow_k1 c = some r) ?_ ?_
 ·rintro _ F ⟨a, c, rfl, w, z, d⟩
  unfold slices_Grow_k1 at d
  refine rg<|mv Z l0<|ag Z l0<|dn<|wr<|?_
  obtain rfl := si d
  exact fS l0 ⟨_, Z, w, a, Z, z⟩
 refine rg<|mv Z l4<|mv Z l4<|uu Z (S.capNil Z l0 T40)<|mv Z l6<|uu Z (S.lenNil Z l0 T40)<|uu Z (S.sub Z l2 l0)<|uu Z (S.sub Z l5 l0)<|ag Z l0<|dn<|rg<|mv Z l0<|uu Z (S.gtr Z l0 K)<|dn<|?_
 refine cd l0 p (fun g i => ?_) (fun g n => ?_)
 ·refine rh<|mv Z (lk 13)<|mv Z (lk 14)<|uu Z (S.capNil Z l0 T40)<|uu Z (S.sliceNil (kk := .i64) Z l2 T40 ti67 (.inl Z) (.inr ⟨_, _, Z, l0⟩) (.inl Z))<|mv Z l6<|?_
  obtain ⟨I, q, j⟩ := bindS i
  refine O.appendZ (R := RT_TSlot) (z0 := (⟨0, 0, (⟨0, 0, 0, 0, 0⟩ : TInst), (⟨0, 0, false, false⟩ : TNote), 0, false, false, 0, 0, 0, 0⟩ : TSlot)) ow Z Z (.inl Z) Z l1 l0 T40 T3 ti67 Z Z Z nle Z q (fun _ => nd) (fun G D x A => ?_)
  refine mv Z (lk 19)<|uu Z (S.lenNil Z l0 T40)<|?_
  obtain ⟨J, s, m⟩ := bindS j
  refine O.cutE (k := 0) A Z s Z Z (.inl Z) Z l2 l0 T40 ti67 (fun E H y B => ?_)
  refine ag Z l0<|dn<|sqN<|?_
  have u := x.t y
  exact ⟨_, _, Z, ⟨_, _, Z, u, B, m⟩, allR⟩
 refine wn<|sqN<|?_
 have C := ow.nil RT_TSlot
 exact ⟨_, _, Z, ⟨_, _, Z, (.refl _), C, n⟩, allR⟩
theorem wk_slices_Concat {V : Vw} {Rs : List At} {a : List (List TSlot)} {b : Value} {g : List Value} {r : List TSlot} (h : slices_Concat a = some r) (gl : Glb V) (ow : Ow V (.oss (RO.os RT_TSlot) b g a :: Rs)) : CT 74 #[b] V fun v V' => ∃ (J : Value), v = J ∧ Ow V' (.os RT_TSlot J r :: .oss (RO.os RT_TSlot) b g a :: Rs) := by
 refine Ct.of gl.lo Tryd.func74 Z nle ?_
 unfold slices_Concat at h
 refine rg<|ag Z K<|dn<|rg<|ag Z K<|dn<|ws<|rg<|mv Z l2<|uu Z (ow.sslen (k := 0) Z Z l0 T129)<|mv Z K<|dn<|wb<|?_
 unfold slices_Concat_l1 at h
 obtain ⟨az, hn8⟩ := loopO_some.1 h
 refine WP.loopI2 (fun n l V' => ∃ (q u : Int), l = [(0, b), (3, .int .i64 q), (9, b), (10, .int .i64 (a.length : Int)), (11, .int .i64 u)] ∧ V.le V' ∧ Ow V' (.oss (RO.os RT_TSlot) b g a :: Rs) ∧ itO (fun s => slices_Concat_l1b a s.1 s.2) n (q, u) = some r) az _ ⟨0, 0, Z, .refl _, ow, hn8⟩ (allCons l5 (allCons l3 (allCons l2 (allCons l1 (allCons l0 allNil))))) ?_
 rintro _ _ aM ⟨q, u, rfl, x, i, X⟩
 obtain ⟨aw, aI, rfl, e, A⟩ := itS X
 replace e : slices_Concat_l1b a q u = some aI := e
 unfold slices_Concat_l1b at e
 refine rg<|uu Z (S.lss Z l4 l3)<|dn<|ws<|?_
 refine cd l0 e (fun N Y => ?_) (fun N ad => ?_)
 ·refine wn<|sqN<|ws<|wb<|rg<|?_
  obtain ⟨a8, c, aa⟩ := bindS Y
  obtain ⟨aQ, a0, aY, aS, F⟩ := i.sspt (k := 0) Z c
  refine uu Z (S.index Z ((lk 3).trans (i.sslen' (k := 0) Z F)) l5 T129 ti40 (ix_ge c) (ix_lt c))<|?_
  obtain ⟨aW, D, y⟩ := i.ssopen (k := 0) Z c
  have am := y.shcell (k := 1) Z F D
  refine uk Z (S.load Z l0 T40 Z am.2)<|ag Z l0<|dn<|rg<|mv Z l5<|mv Z l1<|uu Z (y.oslen (k := 0) Z Z l0 T40)<|uu Z (S.add Z l2 l0)<|ag Z l0<|dn<|rg<|mv Z l0<|uu Z (S.lss Z l0 K)<|dn<|?_
  refine cd l0 aa (fun P ab => ?_) (fun P ac => ?_)
  ·refine rh<|?_
   cases ab
  refine wn<|blkN<|sqN<|rh<|uu Z (S.add Z (lk 15) K)<|mv Z l0<|dn<|sqN<|?_
  have aB := y.ssclose' (k := 1) (j := 0) Z Z (by decide) D c
  exact ⟨_, _, Z, ⟨aw, Nat.lt_succ_self _, _, _, Z, x, aB, backS ac A⟩, allR⟩
 refine we<|sqE<|sqE<|blkE<|sqN<|?_
 have ae := exitS ad A
 refine rg<|mv Z l2<|?_
 have W := gl.up x
 refine cb Z en92 (a2 K l0) ae (wk_slices_Grow · W i) ?_
 rintro aL C aK M au ⟨_, rfl, I⟩
 refine ag Z l0<|dn<|ws<|rg<|mv Z l4<|uu Z (I.sslen (k := 1) Z Z l0 T129)<|mv Z K<|dn<|wb<|?_
 have aD := I.sel 2 [1, 0]
 unfold slices_Concat_l2 at C
 obtain ⟨ay, hn54⟩ := loopO_some.1 C
 refine WP.loopI2 (fun n l V' => ∃ (o : Value) (w : List TSlot) (p : Int), l = [(6, o), (25, b), (26, .int .i64 (a.length : Int)), (27, .int .i64 p)] ∧ M.le V' ∧ Ow V' (.oss (RO.os RT_TSlot) b g a :: .os RT_TSlot o w :: Rs) ∧ itO (fun s => slices_Concat_l2b a s.1 s.2) n (w, p) = some r) ay _ ⟨aK, aL, 0, Z, .refl _, aD, hn54⟩ (allCons l3 (allCons l2 (allCons l1 (allCons l0 allNil)))) ?_
 rintro _ _ aO ⟨o, w, p, rfl, H, m, af⟩
 obtain ⟨ax, aJ, rfl, f, B⟩ := itS af
 replace f : slices_Concat_l2b a w p = some aJ := f
 unfold slices_Concat_l2b at f
 refine rg<|uu Z (S.lss Z l3 l2)<|dn<|ws<|?_
 refine cd l0 f (fun Q ah => ?_) (fun Q ak => ?_)
 ·refine wn<|sqN<|ws<|wb<|rg<|?_
  obtain ⟨a9, d, ai⟩ := bindS ah
  obtain ⟨aR, a6, aZ, aU, G⟩ := m.sspt (k := 0) Z d
  refine uu Z (S.index Z ((lk 2).trans (m.sslen' (k := 0) Z G)) l4 T129 ti40 (ix_ge d) (ix_lt d))<|?_
  obtain ⟨aX, E, z⟩ := m.ssopen (k := 0) Z d
  have an := z.shcell (k := 1) Z G E
  refine uk Z (S.load Z l0 T40 Z an.2)<|ag Z l0<|dn<|rh<|mv Z l4<|mv Z l1<|?_
  obtain ⟨ba, ao, aj⟩ := bindS ai
  refine O.append (k := 2) z Z Z Z (.inl Z) Z l1 l0 T40 ti67 Z Z nle (z.src (k := 0) Z T40) ao (fun _ _ => nd) (fun a7 aP av aE => ?_)
  refine ag Z l0<|dn<|blkN<|sqN<|rh<|uu Z (S.add Z (lk 11) K)<|mv Z l0<|dn<|sqN<|?_
  have aG := aE.ssclose' (k := 1) (j := 0) Z Z (by decide) E d
  have aq := H.t av
  exact ⟨_, _, Z, ⟨ax, Nat.lt_succ_self _, _, _, _, Z, aq, aG, backS aj B⟩, allR⟩
 refine we<|sqE<|sqE<|blkE<|sqN<|?_
 have al := exitS ak B
 refine rg<|mv Z l1<|ag Z l0<|dn<|wr<|?_
 have ar := (x.t au).t H
 have aH := m.sel 2 [1, 0]
 obtain rfl := si al
 exact fS l0 ⟨_, Z, ar, o, Z, aH⟩
end Go.Vm.K17
