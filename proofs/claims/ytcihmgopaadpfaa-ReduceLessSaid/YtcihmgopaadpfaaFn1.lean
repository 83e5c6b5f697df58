/- What the functions answer that the statement reaches. No condition. -/
import Derived.Test.YtcihmgopaadpfaaEn3
import Derived.Test.YtcihmgopaadpfaaProg
import Derived.KernelRfl
import Derived.Shelf.Sort.Plain
import Derived.Shelf.Slices.In.SortNone
import Derived.Shelf.Slices.CompactI
import Derived.Shelf.Slices.Delete
import Derived.Shelf.Slices.Empties
import Derived.Shelf.Spec.SlicesInsertGrow
import Derived.Shelf.Spec.SlicesInsert
import Derived.Ground.NamesProg
import Derived.Ground.Names2Prog
import Derived.Shelf.SlSortCmp.NoneTotal
import Derived.Ground.SlsfProg
import Derived.RangeFuncBox
import Derived.RangeFuncLeaves
import Derived.Shelf.Abstract
import Derived.WalkKit
import Derived.OwnWalkIn
import Derived.TacticsInMore
import Derived.LoopNIn
import Derived.LoopIn
import Derived.Maps.AppendAt
import Derived.Sort.QuietIn
import Derived.Sort.QuietTacIn
import Derived.Sort.OwnSorted
import Derived.Shelf.SlIterI.Sorted
namespace Go.Sh
open Go.Proofs
def T : Tab := [
  (2, ⟨.int .i64, 1, 8, [.s (.i .i64 0)], false, [2]⟩),
  (3, ⟨.int .i64, 1, 8, [.s (.i .i64 0)], false, [3]⟩),
  (4, ⟨.bool, 1, 1, [.s (.b false)], false, [4]⟩),
  (5, ⟨.int .u8, 1, 1, [.s (.i .u8 0)], false, [5]⟩),
  (6, ⟨.int .u8, 1, 1, [.s (.i .u8 0)], false, [6]⟩),
  (7, ⟨.struct [(0, 2), (1, 3), (2, 4), (3, 6)], 4, 24, [.s (.i .i64 0), .s (.i .i64 0), .s (.b false), .s (.i .u8 0)], true, [2, 3, 4, 6]⟩),
  (8, ⟨.struct [(0, 2), (1, 3), (2, 4), (3, 6)], 4, 24, [.s (.i .i64 0), .s (.i .i64 0), .s (.b false), .s (.i .u8 0)], true, [2, 3, 4, 6]⟩),
  (12, ⟨.int .u64, 1, 8, [.s (.i .u64 0)], false, [12]⟩),
  (21, ⟨.int .i32, 1, 4, [.s (.i .i32 0)], false, [21]⟩),
  (22, ⟨.slice 60, 1, 24, [.nils], false, [22]⟩),
  (23, ⟨.struct [(0, 3), (1, 22)], 2, 32, [.s (.i .i64 0), .nils], false, [3, 22]⟩),
  (24, ⟨.struct [(0, 3), (1, 22)], 2, 32, [.s (.i .i64 0), .nils], false, [3, 22]⟩),
  (26, ⟨.struct [(0, 3), (1, 22)], 2, 32, [.s (.i .i64 0), .nils], false, [3, 22]⟩),
  (28, ⟨.slice 29, 1, 24, [.nils], false, [28]⟩),
  (29, ⟨.slice 3, 1, 24, [.nils], false, [29]⟩),
  (30, ⟨.struct [(0, 28), (1, 29)], 2, 48, [.nils, .nils], false, [28, 29]⟩),
  (31, ⟨.struct [(0, 28), (1, 29)], 2, 48, [.nils, .nils], false, [28, 29]⟩),
  (32, ⟨.int .i64, 1, 8, [.s (.i .i64 0)], false, [32]⟩),
  (35, ⟨.struct [(0, 28), (1, 29)], 2, 48, [.nils, .nils], false, [28, 29]⟩),
  (46, ⟨.struct [(0, 3), (1, 28)], 2, 32, [.s (.i .i64 0), .nils], false, [3, 28]⟩),
  (47, ⟨.struct [(0, 3), (1, 28)], 2, 32, [.s (.i .i64 0), .nils], false, [3, 28]⟩),
  (48, ⟨.struct [(0, 3), (1, 28)], 2, 32, [.s (.i .i64 0), .nils], false, [3, 28]⟩),
  (51, ⟨.array 2 3, 2, 16, [.s (.i .i64 0), .s (.i .i64 0)], false, [3, 3]⟩),
  (59, ⟨.struct [(0, 3), (1, 3)], 2, 16, [.s (.i .i64 0), .s (.i .i64 0)], true, [3, 3]⟩),
  (60, ⟨.struct [(0, 3), (1, 3)], 2, 16, [.s (.i .i64 0), .s (.i .i64 0)], true, [3, 3]⟩),
  (67, ⟨.slice 73, 1, 24, [.nils], false, [67]⟩),
  (68, ⟨.struct [(0, 67), (1, 29), (2, 22)], 3, 72, [.nils, .nils, .nils], false, [67, 29, 22]⟩),
  (69, ⟨.struct [(0, 67), (1, 29), (2, 22)], 3, 72, [.nils, .nils, .nils], false, [67, 29, 22]⟩),
  (71, ⟨.array 1000 3, 1000, 8000, (List.replicate 1000 (.s (.i .i64 0))), false, (List.replicate 1000 (3))⟩),
  (72, ⟨.struct [(0, 3), (1, 3), (2, 3), (3, 4)], 4, 32, [.s (.i .i64 0), .s (.i .i64 0), .s (.i .i64 0), .s (.b false)], true, [3, 3, 3, 4]⟩),
  (73, ⟨.struct [(0, 3), (1, 3), (2, 3), (3, 4)], 4, 32, [.s (.i .i64 0), .s (.i .i64 0), .s (.i .i64 0), .s (.b false)], true, [3, 3, 3, 4]⟩),
  (75, ⟨.slice 79, 1, 24, [.nils], false, [75]⟩),
  (76, ⟨.struct [(0, 75), (1, 29), (2, 22)], 3, 72, [.nils, .nils, .nils], false, [75, 29, 22]⟩),
  (77, ⟨.struct [(0, 75), (1, 29), (2, 22)], 3, 72, [.nils, .nils, .nils], false, [75, 29, 22]⟩),
  (79, ⟨.struct [(0, 3), (1, 3), (2, 3), (3, 4)], 4, 32, [.s (.i .i64 0), .s (.i .i64 0), .s (.i .i64 0), .s (.b false)], true, [3, 3, 3, 4]⟩),
  (83, ⟨.array 1000 3, 1000, 8000, (List.replicate 1000 (.s (.i .i64 0))), false, (List.replicate 1000 (3))⟩),
  (85, ⟨.map 60 3 true 2, 1, 8, [.bad], false, [85]⟩),
  (105, ⟨.slice 4, 1, 24, [.nils], false, [105]⟩),
  (106, ⟨.struct [(0, 28), (1, 105)], 2, 48, [.nils, .nils], false, [28, 105]⟩),
  (107, ⟨.struct [(0, 28), (1, 105)], 2, 48, [.nils, .nils], false, [28, 105]⟩),
  (109, ⟨.struct [(0, 29)], 1, 24, [.nils], false, [29]⟩),
  (110, ⟨.struct [(0, 29)], 1, 24, [.nils], false, [29]⟩),
  (118, ⟨.ptr 138, 1, 8, [.bad], false, [118]⟩),
  (124, ⟨.int .u64, 1, 8, [.s (.i .u64 0)], false, [124]⟩),
  (131, ⟨.ptr 110, 1, 8, [.bad], false, [131]⟩),
  (136, ⟨.slice 105, 1, 24, [.nils], false, [136]⟩),
  (137, ⟨.struct [(0, 105), (1, 136)], 2, 48, [.nils, .nils], false, [105, 136]⟩),
  (138, ⟨.struct [(0, 105), (1, 136)], 2, 48, [.nils, .nils], false, [105, 136]⟩),
  (147, ⟨.int .i64, 1, 8, [.s (.i .i64 0)], false, [147]⟩),
  (154, ⟨.int .u32, 1, 4, [.s (.i .u32 0)], false, [154]⟩),
  (156, ⟨.int .u64, 1, 8, [.s (.i .u64 0)], false, [156]⟩),
  (163, ⟨.int .u64, 1, 8, [.s (.i .u64 0)], false, [163]⟩),
  (167, ⟨.ptr 3, 1, 8, [.bad], false, [167]⟩),
  (172, ⟨.ptr 163, 1, 8, [.bad], false, [172]⟩),
  (182, ⟨.int .u8, 1, 1, [.s (.i .u8 0)], false, [182]⟩),
  (183, ⟨.int .u8, 1, 1, [.s (.i .u8 0)], false, [183]⟩),
  (185, ⟨.ptr 5, 1, 8, [.bad], false, [185]⟩),
  (186, ⟨.int .i32, 1, 4, [.s (.i .i32 0)], false, [186]⟩),
  (187, ⟨.int .i32, 1, 4, [.s (.i .i32 0)], false, [187]⟩)]
theorem hT : TabOk Go.Proofs.Try.prog T := tab_ok (by kernel_rfl)
theorem hmix : Try.prog.follows .mixedOrders = true := by kernel_rfl
end Go.Sh

/-
  DERIVED: THE SHELF's CONTRACTS AT THIS DUMP, IN PLAIN WORDS (tools/lay-plain.mjs out of 'YtcihmgopaadpfaaLay.lean', which tools/lay-shelf.mjs wrote): THE SAME DECLARATIONS UNDER THE SAME NAMES: 'import', 'namespace', 'open', 'def', 'theorem' AND NOTHING ELSE: no command of the shelf's: FOR A HAND-IN. Each laying: the table of numbers ('.._ren') and one theorem, a field a fact of the dump's own or the kernel's comparison; each contract: ONE APPLICATION.
-/
namespace Go.Proofs
open Go.Shelf
def Try.laysSort_ren : Go.Shelf.Ren := ⟨fun | 189 => 77 | 125 => 101 | 257 => 100 | 128 => 120 | 129 => 121 | 294 => 112 | 295 => 113 | 296 => 114 | 297 => 115 | 298 => 116 | 299 => 117 | 216 => 108 | 300 => 118 | 301 => 119 | 328 => 134 | 329 => 135 | 330 => 136 | 331 => 137 | 332 => 138 | 215 => 107 | 343 => 144 | n => n, fun | 28 => 29 | 3 => 3 | 46 => 124 | 0 => 0 | 51 => 154 | 53 => 156 | 4 => 4 | 183 => 148 | 182 => 147 | 131 => 132 | 5 => 5 | 9 => 9 | 218 => 163 | 222 => 167 | 228 => 172 | 229 => 173 | n => n, fun | n => n⟩
theorem Try.laysSort : Go.Proofs.Lays.n189 Try.prog Try.laysSort_ren := {
  mixed := by kernel_rfl
  f125 := Try.func101.trans (congrArg some (by kernel_rfl))
  f128 := Try.func120.trans (congrArg some (by kernel_rfl))
  f129 := Try.func121.trans (congrArg some (by kernel_rfl))
  f189 := Try.func77.trans (congrArg some (by kernel_rfl))
  f215 := Try.func107.trans (congrArg some (by kernel_rfl))
  f216 := Try.func108.trans (congrArg some (by kernel_rfl))
  f257 := Try.func100.trans (congrArg some (by kernel_rfl))
  f294 := Try.func112.trans (congrArg some (by kernel_rfl))
  f295 := Try.func113.trans (congrArg some (by kernel_rfl))
  f296 := Try.func114.trans (congrArg some (by kernel_rfl))
  f297 := Try.func115.trans (congrArg some (by kernel_rfl))
  f298 := Try.func116.trans (congrArg some (by kernel_rfl))
  f299 := Try.func117.trans (congrArg some (by kernel_rfl))
  f300 := Try.func118.trans (congrArg some (by kernel_rfl))
  f301 := Try.func119.trans (congrArg some (by kernel_rfl))
  f328 := Try.func134.trans (congrArg some (by kernel_rfl))
  f329 := Try.func135.trans (congrArg some (by kernel_rfl))
  f330 := Try.func136.trans (congrArg some (by kernel_rfl))
  f331 := Try.func137.trans (congrArg some (by kernel_rfl))
  f332 := Try.func138.trans (congrArg some (by kernel_rfl))
  f343 := Try.func144.trans (congrArg some (by kernel_rfl))
  t0 := Try.underlying0
  a0 := Try.isAgg0
  z0 := Try.sizeOf0
  v0 := Try.zeroValue0
  t3 := Try.underlying3
  a3 := Try.isAgg3
  z3 := Try.sizeOf3
  v3 := Try.zeroValue3
  t4 := Try.underlying4
  a4 := Try.isAgg4
  z4 := Try.sizeOf4
  v4 := Try.zeroValue4
  t5 := Try.underlying5
  a5 := Try.isAgg5
  z5 := Try.sizeOf5
  v5 := Try.zeroValue5
  t9 := Try.underlying9
  a9 := Try.isAgg9
  z9 := Try.sizeOf9
  v9 := Try.zeroValue9
  t28 := Try.underlying29
  a28 := Try.isAgg29
  z28 := Try.sizeOf29
  v28 := Try.zeroValue29
  t46 := Try.underlying124
  a46 := Try.isAgg124
  z46 := Try.sizeOf124
  v46 := Try.zeroValue124
  t51 := Try.underlying154
  a51 := Try.isAgg154
  z51 := Try.sizeOf154
  v51 := Try.zeroValue154
  t53 := Try.underlying156
  a53 := Try.isAgg156
  z53 := Try.sizeOf156
  v53 := Try.zeroValue156
  t131 := Try.underlying132
  a131 := Try.isAgg132
  z131 := Try.sizeOf132
  v131 := Try.zeroValue132
  t182 := Try.underlying147
  a182 := Try.isAgg147
  z182 := Try.sizeOf147
  v182 := Try.zeroValue147
  t183 := Try.underlying148
  a183 := Try.isAgg148
  z183 := Try.sizeOf148
  v183 := Try.zeroValue148
  t218 := Try.underlying163
  a218 := Try.isAgg163
  z218 := Try.sizeOf163
  v218 := Try.zeroValue163
  t222 := Try.underlying167
  a222 := Try.isAgg167
  z222 := Try.sizeOf167
  v222 := Try.zeroValue167
  t228 := Try.underlying172
  a228 := Try.isAgg172
  z228 := Try.sizeOf172
  v228 := Try.zeroValue172
  t229 := Try.underlying173
  a229 := Try.isAgg173
  z229 := Try.sizeOf173
  v229 := Try.zeroValue173 }
def Try.laysInsert_ren : Go.Shelf.Ren := ⟨fun | 21 => 111 | 27 => 132 | 28 => 133 | 35 => 143 | 39 => 146 | n => n, fun | 22 => 29 | 3 => 3 | 4 => 4 | 0 => 0 | n => n, fun | n => n⟩
theorem Try.laysInsert : Go.Proofs.Lays2.n21 Try.prog Try.laysInsert_ren := {
  mixed := by kernel_rfl
  f21 := Try.func111.trans (congrArg some (by kernel_rfl))
  f27 := Try.func132.trans (congrArg some (by kernel_rfl))
  f28 := Try.func133.trans (congrArg some (by kernel_rfl))
  f35 := Try.func143.trans (congrArg some (by kernel_rfl))
  f39 := Try.func146.trans (congrArg some (by kernel_rfl))
  t0 := Try.underlying0
  a0 := Try.isAgg0
  z0 := Try.sizeOf0
  v0 := Try.zeroValue0
  t3 := Try.underlying3
  a3 := Try.isAgg3
  z3 := Try.sizeOf3
  v3 := Try.zeroValue3
  t4 := Try.underlying4
  a4 := Try.isAgg4
  z4 := Try.sizeOf4
  v4 := Try.zeroValue4
  t22 := Try.underlying29
  a22 := Try.isAgg29
  z22 := Try.sizeOf29
  v22 := Try.zeroValue29
  i3 := by kernel_rfl }
def Try.laysDelete_ren : Go.Shelf.Ren := ⟨fun | 23 => 110 | n => n, fun | 22 => 29 | 3 => 3 | 4 => 4 | 0 => 0 | n => n, fun | n => n⟩
theorem Try.laysDelete : Go.Proofs.Lays2.n23 Try.prog Try.laysDelete_ren := {
  mixed := by kernel_rfl
  f23 := Try.func110.trans (congrArg some (by kernel_rfl))
  t0 := Try.underlying0
  a0 := Try.isAgg0
  z0 := Try.sizeOf0
  v0 := Try.zeroValue0
  t3 := Try.underlying3
  a3 := Try.isAgg3
  z3 := Try.sizeOf3
  v3 := Try.zeroValue3
  t4 := Try.underlying4
  a4 := Try.isAgg4
  z4 := Try.sizeOf4
  v4 := Try.zeroValue4
  t22 := Try.underlying29
  a22 := Try.isAgg29
  z22 := Try.sizeOf29
  v22 := Try.zeroValue29
  i3 := by kernel_rfl }
def Try.laysSearch_ren : Go.Shelf.Ren := ⟨fun | 25 => 97 | 31 => 108 | 32 => 109 | 37 => 107 | n => n, fun | 22 => 29 | 3 => 3 | 4 => 4 | 40 => 124 | 0 => 0 | n => n, fun | n => n⟩
theorem Try.laysSearch : Go.Proofs.Lays2.n25 Try.prog Try.laysSearch_ren := {
  mixed := by kernel_rfl
  f25 := Try.func97.trans (congrArg some (by kernel_rfl))
  f31 := Try.func108.trans (congrArg some (by kernel_rfl))
  f32 := Try.func109.trans (congrArg some (by kernel_rfl))
  f37 := Try.func107.trans (congrArg some (by kernel_rfl))
  t0 := Try.underlying0
  a0 := Try.isAgg0
  z0 := Try.sizeOf0
  v0 := Try.zeroValue0
  t3 := Try.underlying3
  a3 := Try.isAgg3
  z3 := Try.sizeOf3
  v3 := Try.zeroValue3
  t4 := Try.underlying4
  a4 := Try.isAgg4
  z4 := Try.sizeOf4
  v4 := Try.zeroValue4
  t22 := Try.underlying29
  a22 := Try.isAgg29
  z22 := Try.sizeOf29
  v22 := Try.zeroValue29
  t40 := Try.underlying124
  a40 := Try.isAgg124
  z40 := Try.sizeOf124
  v40 := Try.zeroValue124 }
def Try.laysSortF_ren : Go.Shelf.Ren := ⟨fun | 6 => 91 | 15 => 101 | 14 => 106 | 28 => 120 | 29 => 121 | 20 => 124 | 21 => 125 | 22 => 126 | 23 => 127 | 24 => 128 | 25 => 129 | 26 => 130 | 27 => 131 | 46 => 140 | 47 => 135 | 48 => 136 | 49 => 141 | 50 => 142 | 57 => 145 | n => n, fun | 22 => 22 | 24 => 60 | 25 => 104 | 3 => 3 | 39 => 124 | 0 => 0 | 53 => 154 | 55 => 156 | 4 => 4 | 46 => 148 | 45 => 147 | 50 => 132 | 5 => 5 | 9 => 9 | 66 => 163 | 70 => 167 | 76 => 172 | 77 => 173 | n => n, fun | n => n⟩
theorem Try.laysSortF : Go.Proofs.SlLaysF0.n6 Try.prog Try.laysSortF_ren := {
  mixed := by kernel_rfl
  f6 := ⟨Try.f91.name, by decide, Try.func91.trans (congrArg some (by kernel_rfl))⟩
  f14 := ⟨Try.f106.name, by decide, Try.func106.trans (congrArg some (by kernel_rfl))⟩
  f15 := Try.func101.trans (congrArg some (by kernel_rfl))
  f20 := ⟨Try.f124.name, by decide, Try.func124.trans (congrArg some (by kernel_rfl))⟩
  f21 := ⟨Try.f125.name, by decide, Try.func125.trans (congrArg some (by kernel_rfl))⟩
  f22 := ⟨Try.f126.name, by decide, Try.func126.trans (congrArg some (by kernel_rfl))⟩
  f23 := ⟨Try.f127.name, by decide, Try.func127.trans (congrArg some (by kernel_rfl))⟩
  f24 := ⟨Try.f128.name, by decide, Try.func128.trans (congrArg some (by kernel_rfl))⟩
  f25 := ⟨Try.f129.name, by decide, Try.func129.trans (congrArg some (by kernel_rfl))⟩
  f26 := ⟨Try.f130.name, by decide, Try.func130.trans (congrArg some (by kernel_rfl))⟩
  f27 := ⟨Try.f131.name, by decide, Try.func131.trans (congrArg some (by kernel_rfl))⟩
  f28 := Try.func120.trans (congrArg some (by kernel_rfl))
  f29 := Try.func121.trans (congrArg some (by kernel_rfl))
  f46 := ⟨Try.f140.name, by decide, Try.func140.trans (congrArg some (by kernel_rfl))⟩
  f47 := Try.func135.trans (congrArg some (by kernel_rfl))
  f48 := Try.func136.trans (congrArg some (by kernel_rfl))
  f49 := ⟨Try.f141.name, by decide, Try.func141.trans (congrArg some (by kernel_rfl))⟩
  f50 := ⟨Try.f142.name, by decide, Try.func142.trans (congrArg some (by kernel_rfl))⟩
  f57 := ⟨Try.f145.name, by decide, Try.func145.trans (congrArg some (by kernel_rfl))⟩
  t0 := Try.underlying0
  a0 := Try.isAgg0
  z0 := Try.sizeOf0
  v0 := Try.zeroValue0
  t3 := Try.underlying3
  a3 := Try.isAgg3
  z3 := Try.sizeOf3
  v3 := Try.zeroValue3
  t4 := Try.underlying4
  a4 := Try.isAgg4
  z4 := Try.sizeOf4
  v4 := Try.zeroValue4
  t5 := Try.underlying5
  a5 := Try.isAgg5
  z5 := Try.sizeOf5
  v5 := Try.zeroValue5
  t9 := Try.underlying9
  a9 := Try.isAgg9
  z9 := Try.sizeOf9
  v9 := Try.zeroValue9
  t22 := Try.underlying22
  a22 := Try.isAgg22
  z22 := Try.sizeOf22
  v22 := Try.zeroValue22
  t25 := Try.underlying104
  a25 := Try.isAgg104
  z25 := Try.sizeOf104
  v25 := Try.zeroValue104
  t39 := Try.underlying124
  a39 := Try.isAgg124
  z39 := Try.sizeOf124
  v39 := Try.zeroValue124
  t45 := Try.underlying147
  a45 := Try.isAgg147
  z45 := Try.sizeOf147
  v45 := Try.zeroValue147
  t46 := Try.underlying148
  a46 := Try.isAgg148
  z46 := Try.sizeOf148
  v46 := Try.zeroValue148
  t50 := Try.underlying132
  a50 := Try.isAgg132
  z50 := Try.sizeOf132
  v50 := Try.zeroValue132
  t53 := Try.underlying154
  a53 := Try.isAgg154
  z53 := Try.sizeOf154
  v53 := Try.zeroValue154
  t55 := Try.underlying156
  a55 := Try.isAgg156
  z55 := Try.sizeOf156
  v55 := Try.zeroValue156
  t66 := Try.underlying163
  a66 := Try.isAgg163
  z66 := Try.sizeOf163
  v66 := Try.zeroValue163
  t70 := Try.underlying167
  a70 := Try.isAgg167
  z70 := Try.sizeOf167
  v70 := Try.zeroValue167
  t76 := Try.underlying172
  a76 := Try.isAgg172
  z76 := Try.sizeOf172
  v76 := Try.zeroValue172
  t77 := Try.underlying173
  a77 := Try.isAgg173
  z77 := Try.sizeOf173
  v77 := Try.zeroValue173 }
end Go.Proofs

namespace Go.Proofs
open Go.RowKit Go.Shelf

attribute [local go_sem] Oper.semAt_some

def Try.Ints (n₀ : Nat) (W : World) (sv : Value) (zs : List Int) : Prop :=
  (zs = [] ∧ ∃ a cap, sv = .slice a 0 cap) ∨ ∃ a cap, sv = .slice (some a) zs.length cap ∧ a.block < n₀ ∧ ∀ j, j < zs.length → W.cell? (a.add j) = some (.int .i64 (zs[j]?.getD 0))
theorem Try.add_block (a : Addr) (j : Nat) : (a.add j).block = a.block := by unfold Addr.add; split <;> rfl
theorem Try.Ints.below {n₀ : Nat} {A B : World} (h : Below n₀ A B) {sv : Value} {zs : List Int} : Try.Ints n₀ A sv zs → Try.Ints n₀ B sv zs
  | .inl e => .inl e
  | .inr ⟨a, cap, e, hb, hc⟩ => .inr ⟨a, cap, e, hb, fun j hj => (h.cell (p := a.add j) (by rw [Try.add_block]; exact hb)).trans (hc j hj)⟩
end Go.Proofs

set_option linter.unusedVariables false
set_option linter.unusedSimpArgs false
namespace Go.Sh
open Go.Proofs
/-! ### carcanetref03.In -/
noncomputable def InC : Con := conP 2 (fun a : List Int × Int => a.1.length ≤ 1000000) (fun a => [.one (.flat false 1 (ints a.1)), .one (.s (.i .i64 a.2))]) (fun a => .one (.s (.b (a.1.elem a.2))))
theorem In_ok : SoundC Try.prog T 36 InC := by
  refine sound_con (X := { Γ := [], T := T, nt := 18 }) cr_none hmix hT sound_nil Try.func36 (by rfl) (by rfl) (by rfl) (by rfl) 2 ?_
  rintro ⟨l, x⟩ hl
  have hl : l.length ≤ 1000000 := hl
  refine ⟨⟨Nat.le_of_ble_eq_true rfl, Nat.le_of_ble_eq_true rfl⟩, ?_⟩
  refine LoopP.intro (α := Nat) (fun k => k ≤ l.length ∧ (l.drop k).elem x = l.elem x) (fun k => l.length - k) (fun k => [(0, .sl 0 none none), (1, .s (.i .i64 x)), (5, .s (.i .i64 k))]) (fun k => [(0, some (.flat false 1 (ints l)))]) 1 0 ⟨by simp, by simp⟩ (by refine Weak.by [(0, some _)] (by ((repeat' first | exact rfl | exact trivial | refine And.intro ?_ ?_) <;> (repeat' first | exact rfl | exact trivial | refine And.intro ?_ ?_))) (by ((repeat' first | exact rfl | exact trivial | refine And.intro ?_ ?_) <;> (repeat' first | exact rfl | exact trivial | refine And.intro ?_ ?_))) (by rfl)) ?_
  rintro k ⟨hk, hs⟩
  refine Pick.by (fun h => ?_) (fun h => ?_)
  · simp only [ints_length, decide_eq_true_eq] at h
    have hlt : k < l.length := by simpa using h
    refine Idx.by k rfl (by simpa [ints_length] using hlt) ?_
    refine Look.by _ (ints_get (List.getElem?_eq_getElem hlt)) ?_
    rw [List.drop_eq_getElem_cons hlt] at hs
    refine Pick.by (fun h => ?_) (fun h => ?_)
    · refine ⟨rfl, ?_⟩
      have : l[k] = x := by simpa using h
      show _ = _
      rw [← hs]; simp [this]
    · refine Pick.T (inI64_of (by omega) (by omega)) ?_
      refine ⟨k + 1, ⟨by omega, ?_⟩, by omega, by refine Weak.by [(0, some _)] (by ((repeat' first | exact rfl | exact trivial | refine And.intro ?_ ?_) <;> (repeat' first | exact rfl | exact trivial | refine And.intro ?_ ?_))) (by ((repeat' first | exact rfl | exact trivial | refine And.intro ?_ ?_) <;> (repeat' first | exact rfl | exact trivial | refine And.intro ?_ ?_))) (by rfl)⟩
      have : ¬ l[k] = x := by simpa using h
      rw [← hs, List.elem_cons, show (x == l[k]) = false by simpa using fun e => this e.symm]
  · refine ⟨rfl, ?_⟩
    have hge : l.length ≤ k := by simpa [ints_length] using h
    show _ = _
    rw [← hs, List.drop_eq_nil_of_le hge]; rfl
end Go.Sh

set_option linter.unusedVariables false
set_option linter.unusedSimpArgs false
namespace Go.Sh
open Go.Proofs
/-! ### carcanetref03.Sorted -/
def sortI (l : List Int) : List Int := l.mergeSort (fun a b => decide (a ≤ b))
theorem sortI_unique {l r : List Int} (h : r.Pairwise (· ≤ ·)) (k : r.Perm l) : r = sortI l := by
  refine List.Perm.eq_of_pairwise (le := fun a b => a ≤ b) (fun a b _ _ h1 h2 => Int.le_antisymm h1 h2) h ?_ (k.trans (List.mergeSort_perm l _).symm)
  have := List.pairwise_mergeSort (le := fun a b : Int => decide (a ≤ b)) (fun a b c h1 h2 => by simp at *; omega) (fun a b => by simp; omega) l
  exact this.imp (fun h => by simpa using h)
/-- What 'copy' and the store leave. -/
theorem ins_get (acc : List Int) (at_ k : Nat) (h : acc.length = k) (ha : at_ ≤ k) (i : Nat) :
    (laid (cut none (ints acc) ++ cut none [[Sc.i .i64 0]]) (loOf (subOf none 0 (at_ + 1) (k + 1))) (cut (subOf none 0 (at_ + 1) (k + 1)) (cut none (ints acc) ++ cut none [[Sc.i .i64 0]])).length (cut (subOf none 0 at_ (k + 1)) (cut none (ints acc) ++ cut none [[Sc.i .i64 0]])))[i]? =
      if at_ + 1 ≤ i ∧ i < k + 1 then (ints acc)[i - 1]? else (ints acc ++ [[Sc.i .i64 0]])[i]? := by
  simp only [laid, cut, loOf, subOf]
  have hl : (ints acc ++ [[Sc.i .i64 0]]).length = k + 1 := by simp [ints_length, h]
  have hd : (((ints acc ++ [[Sc.i .i64 0]]).drop (at_ + 1)).take (k + 1 - (at_ + 1))).length = k - at_ := by rw [List.length_take, List.length_drop, hl]; omega
  rw [hd]
  have hS : (((((ints acc ++ [[Sc.i .i64 0]]).drop at_).take (k + 1 - at_)).take (k - at_))).length = k - at_ := by rw [List.length_take, List.length_take, List.length_drop, hl]; omega
  rw [splice_get _ _ _ _ (by rw [hS, hl]; omega), hS]
  by_cases hc : at_ + 1 ≤ i ∧ i < k + 1
  · rw [if_pos ⟨hc.1, by omega⟩, if_pos hc, List.getElem?_take, if_pos (by omega), List.getElem?_take, if_pos (by omega), List.getElem?_drop, show at_ + (i - (at_ + 1)) = i - 1 by omega, List.getElem?_append_left (by rw [ints_length]; omega)]
  · rw [if_neg hc, if_neg (by omega)]
theorem ins_len (acc : List Int) (at_ k : Nat) (h : acc.length = k) (ha : at_ ≤ k) :
    (laid (cut none (ints acc) ++ cut none [[Sc.i .i64 0]]) (loOf (subOf none 0 (at_ + 1) (k + 1))) (cut (subOf none 0 (at_ + 1) (k + 1)) (cut none (ints acc) ++ cut none [[Sc.i .i64 0]])).length (cut (subOf none 0 at_ (k + 1)) (cut none (ints acc) ++ cut none [[Sc.i .i64 0]]))).length = k + 1 := by
  simp only [laid, cut, loOf, subOf]
  rw [splice_length]
  · simp [ints_length, h]
  · simp [ints_length, h]; omega
theorem ins_rows (acc : List Int) (at_ k : Nat) (x : Int) (h : acc.length = k) (ha : at_ ≤ k) : ∃ y : Int,
    (laid (cut none (ints acc) ++ cut none [[Sc.i .i64 0]]) (loOf (subOf none 0 (at_ + 1) (k + 1))) (cut (subOf none 0 (at_ + 1) (k + 1)) (cut none (ints acc) ++ cut none [[Sc.i .i64 0]])).length (cut (subOf none 0 at_ (k + 1)) (cut none (ints acc) ++ cut none [[Sc.i .i64 0]])))[at_]? = some [Sc.i .i64 y] ∧
    ints (acc.take at_ ++ x :: acc.drop at_) = (laid (cut none (ints acc) ++ cut none [[Sc.i .i64 0]]) (loOf (subOf none 0 (at_ + 1) (k + 1))) (cut (subOf none 0 (at_ + 1) (k + 1)) (cut none (ints acc) ++ cut none [[Sc.i .i64 0]])).length (cut (subOf none 0 at_ (k + 1)) (cut none (ints acc) ++ cut none [[Sc.i .i64 0]]))).set at_ (splice [Sc.i .i64 y] 0 [Sc.i .i64 x]) := by
  have hl := ins_len acc at_ k h ha
  have hg := ins_get acc at_ k h ha
  generalize laid _ _ _ _ = L at hl hg ⊢
  obtain ⟨y, hy⟩ : ∃ y : Int, (ints acc ++ [[Sc.i .i64 0]])[at_]? = some [Sc.i .i64 y] := by
    by_cases hc : at_ < k
    · exact ⟨_, by rw [List.getElem?_append_left (by rw [ints_length]; omega)]; exact ints_get (List.getElem?_eq_getElem (by omega))⟩
    · exact ⟨0, by rw [List.getElem?_append_right (by rw [ints_length]; omega), ints_length, show at_ - acc.length = 0 by omega]; rfl⟩
  refine ⟨y, by rw [hg, if_neg (by omega)]; exact hy, ?_⟩
  apply List.ext_getElem?
  intro i
  have hi : ∀ (m : List Int) (i : Nat), (ints m)[i]? = m[i]?.map fun x => [Sc.i .i64 x] := fun m i => by simp [ints]
  rw [hi]
  by_cases h1 : i = at_
  · subst h1
    rw [List.getElem?_set_self (by omega), List.getElem?_append_right (by rw [List.length_take]; omega), show i - (acc.take i).length = 0 by rw [List.length_take]; omega]
    rfl
  · rw [List.getElem?_set_ne (Ne.symm h1), hg]
    by_cases h2 : i < at_
    · rw [if_neg (by omega), List.getElem?_append_left (by rw [List.length_take]; omega), List.getElem?_take, if_pos h2, List.getElem?_append_left (by rw [ints_length]; omega), hi]
    · rw [List.getElem?_append_right (by rw [List.length_take]; omega), show i - (acc.take at_).length = (i - at_ - 1) + 1 by rw [List.length_take]; omega, List.getElem?_cons_succ, List.getElem?_drop, show at_ + (i - at_ - 1) = i - 1 by omega]
      by_cases h3 : i < k + 1
      · rw [if_pos (by omega), hi]
      · rw [if_neg (by omega), List.getElem?_eq_none (by omega), List.getElem?_eq_none (by simp [ints_length]; omega)]; rfl
theorem ins_sorted {acc : List Int} {at_ : Nat} {x : Int} (hs : acc.Pairwise (· ≤ ·)) (ha : at_ ≤ acc.length) (hgt : ∀ j y, at_ ≤ j → acc[j]? = some y → x < y) (hle : ∀ y, at_ ≠ 0 → acc[at_ - 1]? = some y → y ≤ x) :
    (acc.take at_ ++ x :: acc.drop at_).Pairwise (· ≤ ·) := by
  have hs' := hs
  rw [← List.take_append_drop at_ acc, List.pairwise_append] at hs'
  have h1 : ∀ y ∈ acc.take at_, y ≤ x := fun y hy => by
    obtain ⟨i, hi⟩ := List.mem_iff_getElem?.1 hy
    rw [List.getElem?_take] at hi
    split at hi
    · rename_i hlt
      have hat : at_ - 1 < acc.length := by omega
      have := hle acc[at_ - 1] (by omega) (List.getElem?_eq_getElem hat)
      rcases Nat.eq_or_lt_of_le (show i ≤ at_ - 1 by omega) with e | hlt2
      · subst e; rw [List.getElem?_eq_getElem hat] at hi; injection hi with hi; omega
      · have hp := List.pairwise_iff_getElem.1 hs i (at_ - 1) (by omega) hat hlt2
        rw [List.getElem?_eq_getElem (by omega)] at hi
        injection hi with hi
        omega
    · simp at hi
  have h2 : ∀ y ∈ acc.drop at_, x < y := fun y hy => by
    obtain ⟨i, hi⟩ := List.mem_iff_getElem?.1 hy
    rw [List.getElem?_drop] at hi
    exact hgt _ y (by omega) hi
  refine List.pairwise_append.2 ⟨hs'.1, List.pairwise_cons.2 ⟨fun y hy => Int.le_of_lt (h2 y hy), hs'.2.1⟩, fun a ha b hb => ?_⟩
  rcases List.mem_cons.1 hb with rfl | hb
  · exact h1 a ha
  · exact hs'.2.2 a ha b hb
noncomputable def SortedC : Con := conP 1 (fun l : List Int => l.length ≤ 1000000) (fun l => [.one (.flat false 1 (ints l))]) (fun l => .one (.flat true 1 (ints (sortI l))))
theorem Sorted_ok : SoundC Try.prog T 43 SortedC := by
  refine sound_con (X := { Γ := [], T := T, nt := 50 }) cr_none hmix hT sound_nil Try.func43 (by rfl) (by rfl) (by rfl) (by rfl) 2 ?_
  intro l hl
  have hl : l.length ≤ 1000000 := hl
  refine ⟨⟨Nat.le_of_ble_eq_true rfl, Nat.le_of_ble_eq_true rfl⟩, ?_⟩
  refine LoopP.intro (α := Nat × List Int) (fun p => p.1 ≤ l.length ∧ p.2.Pairwise (· ≤ ·) ∧ p.2.Perm (l.take p.1)) (fun p => l.length - p.1) (fun p => [(0, .sl 0 none none), (3, .sl 1 none none), (4, .s (.i .i64 p.1))]) (fun p => [(0, some (.flat false 1 (ints l))), (1, some (.flat true 1 (ints p.2)))]) 2 (0, []) ⟨by simp, by simp, by simp⟩ (by refine Weak.by [(0, some _), (1, some _)] (by ((repeat' first | exact rfl | exact trivial | refine And.intro ?_ ?_) <;> (repeat' first | exact rfl | exact trivial | refine And.intro ?_ ?_))) (by ((repeat' first | exact rfl | exact trivial | refine And.intro ?_ ?_) <;> (repeat' first | exact rfl | exact trivial | refine And.intro ?_ ?_))) (by rfl)) ?_
  rintro ⟨k, acc⟩ ⟨hk, hs, hp⟩
  dsimp only at hk hs hp
  have hal : acc.length = k := by rw [hp.length_eq, List.length_take]; omega
  refine Pick.by (fun h => ?_) (fun h => ?_)
  · simp only [ints_length, decide_eq_true_eq] at h
    have hlt : k < l.length := by simpa using h
    -- the place
    refine LoopP.intro (α := Nat) (fun at_ => at_ ≤ k ∧ ∀ j y, at_ ≤ j → acc[j]? = some y → l[k] < y) (fun at_ => at_) (fun at_ => [(0, .sl 0 none none), (3, .sl 1 none none), (4, .s (.i .i64 k)), (5, .s (.i .i64 at_))]) (fun at_ => [(0, some (.flat false 1 (ints l))), (1, some (.flat true 1 (ints acc)))]) 2 k ⟨by simp, fun j y hj hy => ?_⟩ ?_ ?_
    · have := (List.getElem?_eq_some_iff.1 hy).1; omega
    · refine Weak.by [(0, some _), (1, some _)] (by ((repeat' first | exact rfl | exact trivial | refine And.intro ?_ ?_) <;> (repeat' first | exact rfl | exact trivial | refine And.intro ?_ ?_)); all_goals (show _ = _; rw [ints_length, hal])) (by ((repeat' first | exact rfl | exact trivial | refine And.intro ?_ ?_) <;> (repeat' first | exact rfl | exact trivial | refine And.intro ?_ ?_)); all_goals (show _ = _; rw [ints_length, hal])) (by rfl)
    rintro at_ ⟨ha, hgt⟩
    -- is it further ahead?
    refine Pick.by (fun h0 => ?_) (fun h0 => ?_)
    · have h0 : 0 < at_ := by simpa using h0
      refine Pick.T (inI64_of (by omega) (by omega)) ?_
      refine ⟨at_ - 1, by omega, by rw [ints_length]; omega, ?_⟩
      have hat : at_ - 1 < acc.length := by omega
      refine ⟨_, ints_get (List.getElem?_eq_getElem hat), ?_⟩
      refine ⟨k, rfl, by rw [ints_length]; exact hlt, ?_⟩
      refine ⟨_, ints_get (List.getElem?_eq_getElem hlt), ?_⟩
      refine Seg.by (by kernel_rfl) ?_
      refine Pick.by (fun h => ?_) (fun h => ?_)
      · refine Pick.T (inI64_of (by omega) (by omega)) ?_
        have h : l[k] < acc[at_ - 1] := by simpa using h
        refine ⟨at_ - 1, ⟨by omega, fun j y hj hy => ?_⟩, by omega, by refine Weak.by [(0, some _), (1, some _)] (by ((repeat' first | exact rfl | exact trivial | refine And.intro ?_ ?_) <;> (repeat' first | exact rfl | exact trivial | refine And.intro ?_ ?_)); all_goals (exact sc_eq (by omega))) (by ((repeat' first | exact rfl | exact trivial | refine And.intro ?_ ?_) <;> (repeat' first | exact rfl | exact trivial | refine And.intro ?_ ?_)); all_goals (exact sc_eq (by omega))) (by rfl)⟩
        rcases Nat.eq_or_lt_of_le hj with e | hj
        · subst e; rw [List.getElem?_eq_getElem hat] at hy; injection hy with hy; omega
        · exact hgt j y (by omega) hy
      have hle : ∀ y, at_ ≠ 0 → acc[at_ - 1]? = some y → y ≤ l[k] := fun y _ hy => by
        rw [List.getElem?_eq_getElem hat] at hy; injection hy with hy
        have h : ¬ (l[k] < acc[at_ - 1]) := by simpa using h
        omega
      refine Pick.T (by simp [ints_length, cut]; omega) ?_
      refine Pick.T (inI64_of (by omega) (by omega)) ?_
      refine Rng.by (at_ + 1) (k + 1) (by omega) (by simp [ints_length, cut]; omega) (by omega) (by simp [ints_length, cut]; omega) ?_
      refine Rng.by at_ (k + 1) (by omega) (by simp [ints_length, cut]; omega) (by omega) (by simp [ints_length, cut]; omega) ?_
      refine Pick.T (by simp [ints_length, cut, loOf, subOf]; omega) ?_
      refine Seg.by (by kernel_rfl) ?_
      refine Idx.by k rfl ?_ ?_
      · rw [ints_length]; exact hlt
      refine Look.by _ (ints_get (List.getElem?_eq_getElem hlt)) ?_
      have hlen := ins_len acc at_ k hal ha
      refine Idx.by at_ rfl (by rw [ins_len acc at_ k hal ha]; omega) ?_
      obtain ⟨y, hy, hrow⟩ := ins_rows acc at_ k l[k] hal ha
      refine Look.by _ hy ?_
      refine Pick.T (inI64_of (by omega) (by omega)) ?_
      refine Next.by (k + 1, acc.take at_ ++ l[k] :: acc.drop at_) ⟨by show k + 1 ≤ l.length; omega, ?_, ?_⟩ (by show l.length - (k + 1) < l.length - k; omega) (by refine Weak.by [(0, some _), (1, some _)] (by ((repeat' first | exact rfl | exact trivial | refine And.intro ?_ ?_) <;> (repeat' first | exact rfl | exact trivial | refine And.intro ?_ ?_)); all_goals (exact hrow)) (by ((repeat' first | exact rfl | exact trivial | refine And.intro ?_ ?_) <;> (repeat' first | exact rfl | exact trivial | refine And.intro ?_ ?_)); all_goals (exact hrow)) (by rfl))
      · exact ins_sorted hs (by omega) hgt hle
      · show (acc.take at_ ++ l[k] :: acc.drop at_).Perm (l.take (k + 1))
        rw [List.take_succ_eq_append_getElem hlt]
        refine List.perm_middle.trans ?_
        rw [List.take_append_drop]
        exact (hp.cons _).trans (List.perm_append_singleton _ _).symm
    · have hle : ∀ y, at_ ≠ 0 → acc[at_ - 1]? = some y → y ≤ l[k] := fun y h1 hy => by
        exact absurd (by simpa using h0) h1
      refine Seg.by (by kernel_rfl) ?_
      refine Pick.T (by simp [ints_length, cut]; omega) ?_
      refine Pick.T (inI64_of (by omega) (by omega)) ?_
      refine Rng.by (at_ + 1) (k + 1) (by omega) (by simp [ints_length, cut]; omega) (by omega) (by simp [ints_length, cut]; omega) ?_
      refine Rng.by at_ (k + 1) (by omega) (by simp [ints_length, cut]; omega) (by omega) (by simp [ints_length, cut]; omega) ?_
      refine Pick.T (by simp [ints_length, cut, loOf, subOf]; omega) ?_
      refine Seg.by (by kernel_rfl) ?_
      refine Idx.by k rfl ?_ ?_
      · rw [ints_length]; exact hlt
      refine Look.by _ (ints_get (List.getElem?_eq_getElem hlt)) ?_
      have hlen := ins_len acc at_ k hal ha
      refine Idx.by at_ rfl (by rw [ins_len acc at_ k hal ha]; omega) ?_
      obtain ⟨y, hy, hrow⟩ := ins_rows acc at_ k l[k] hal ha
      refine Look.by _ hy ?_
      refine Pick.T (inI64_of (by omega) (by omega)) ?_
      refine Next.by (k + 1, acc.take at_ ++ l[k] :: acc.drop at_) ⟨by show k + 1 ≤ l.length; omega, ?_, ?_⟩ (by show l.length - (k + 1) < l.length - k; omega) (by refine Weak.by [(0, some _), (1, some _)] (by ((repeat' first | exact rfl | exact trivial | refine And.intro ?_ ?_) <;> (repeat' first | exact rfl | exact trivial | refine And.intro ?_ ?_)); all_goals (exact hrow)) (by ((repeat' first | exact rfl | exact trivial | refine And.intro ?_ ?_) <;> (repeat' first | exact rfl | exact trivial | refine And.intro ?_ ?_)); all_goals (exact hrow)) (by rfl))
      · exact ins_sorted hs (by omega) hgt hle
      · show (acc.take at_ ++ l[k] :: acc.drop at_).Perm (l.take (k + 1))
        rw [List.take_succ_eq_append_getElem hlt]
        refine List.perm_middle.trans ?_
        rw [List.take_append_drop]
        exact (hp.cons _).trans (List.perm_append_singleton _ _).symm
  · refine ⟨rfl, ?_⟩
    have hge : l.length ≤ k := by simpa [ints_length] using h
    rw [List.take_of_length_le hge] at hp
    rw [sortI_unique hs hp]
    exact ⟨rfl, rfl⟩
end Go.Sh

set_option linter.unusedVariables false
set_option linter.unusedSimpArgs false
namespace Go.Sh
open Go.Proofs
theorem conP_at {α : Type} {n : Nat} {pre : α → Prop} {enc : α → List V} {val : α → V} (hinj : ∀ a b, pre a → pre b → enc a = enc b → val a = val b) {a : α} (ha : pre a) : (conP n pre enc val).F (enc a) = some (val a, []) := conF_at hinj ha
/-! ### carcanetref03.Same -/
theorem drop_cons {α : Type} {l : List α} {k : Nat} (h : k < l.length) : l.drop k = l[k] :: l.drop (k + 1) := List.drop_eq_getElem_cons h
/-! ### carcanetref03.SameRows -/
def rowsI (l : List (List Int)) : List Flat := l.map ints
theorem rowsI_get {l : List (List Int)} {i : Nat} {x : List Int} (h : l[i]? = some x) : (rowsI l)[i]? = some (ints x) := by simp [rowsI, h]
theorem rowsI_length (l : List (List Int)) : (rowsI l).length = l.length := by simp [rowsI]
theorem rowsI_inj {l m : List (List Int)} (h : rowsI l = rowsI m) : l = m := (List.map_inj_right (fun x y h => ints_inj h)).1 h
def small (l : List (List Int)) : Prop := l.length ≤ 1000000 ∧ ∀ x ∈ l, x.length ≤ 1000000
end Go.Sh

set_option linter.unusedVariables false
set_option linter.unusedSimpArgs false
namespace Go.Sh
open Go.Proofs
/-! ### graphs as data -/
abbrev Ed := Int × Int
def edges (l : List Ed) : Flat := l.map fun p => [.i .i64 p.1, .i .i64 p.2]
theorem edges_get {l : List Ed} {i : Nat} {x : Ed} (h : l[i]? = some x) : (edges l)[i]? = some [.i .i64 x.1, .i .i64 x.2] := by simp [edges, h]
theorem edges_length (l : List Ed) : (edges l).length = l.length := by simp [edges]
theorem edges_inj {l m : List Ed} (h : edges l = edges m) : l = m := (List.map_inj_right (fun x y h => by simp at h; exact Prod.ext h.1 h.2)).1 h
def grV (n : Int) (E : List Ed) : V := .agg [.s (.i .i64 n), .flat false 2 (edges E)]
theorem grV_inj {n m : Int} {E F : List Ed} (h : grV n E = grV m F) : n = m ∧ E = F := by
  simp [grV] at h
  exact ⟨h.1, edges_inj h.2⟩
def ltE (p q : Ed) : Prop := p.1 < q.1 ∨ p.1 = q.1 ∧ p.2 < q.2
instance (p q : Ed) : Decidable (ltE p q) := by unfold ltE; infer_instance
theorem ltE.trans {p q r : Ed} (h : ltE p q) (k : ltE q r) : ltE p r := by unfold ltE at *; omega
def okE (n : Int) (p : Ed) : Prop := 0 ≤ p.1 ∧ p.1 < p.2 ∧ p.2 < n
instance (n : Int) (p : Ed) : Decidable (okE n p) := by unfold okE; infer_instance
def RightP (n : Int) (E : List Ed) : Prop := 0 ≤ n ∧ n ≤ 1000 ∧ E.length ≤ 4000 ∧ (∀ p ∈ E, okE n p) ∧ E.Pairwise ltE
instance (n : Int) (E : List Ed) : Decidable (RightP n E) := by unfold RightP; infer_instance
theorem pw_step {E : List Ed} {i : Nat} (hi : i < E.length) (h : (E.take i).Pairwise ltE) (k : ∀ h0 : 0 < i, ltE (E[i - 1]'(by omega)) E[i]) : (E.take (i + 1)).Pairwise ltE := by
  rw [List.take_succ_eq_append_getElem hi, List.pairwise_append]
  refine ⟨h, by simp, fun a ha b hb => ?_⟩
  simp at hb
  subst hb
  obtain ⟨j, hj, rfl⟩ := List.mem_iff_getElem.1 ha
  rw [List.length_take] at hj
  have h0 : 0 < i := by omega
  rw [List.getElem_take]
  rcases Nat.eq_or_lt_of_le (show j ≤ i - 1 by omega) with e | hlt
  · subst e; exact k h0
  · have := List.pairwise_iff_getElem.1 h j (i - 1) (by rw [List.length_take]; omega) (by rw [List.length_take]; omega) hlt
    rw [List.getElem_take, List.getElem_take] at this
    exact this.trans (k h0)
theorem pw_no {E : List Ed} {i : Nat} (hi : i < E.length) (h0 : 0 < i) (k : ¬ ltE (E[i - 1]'(by omega)) E[i]) : ¬ E.Pairwise ltE := fun h => k (List.pairwise_iff_getElem.1 h (i - 1) i (by omega) hi (by omega))
theorem all_step {E : List Ed} {n : Int} {i : Nat} (hi : i < E.length) (h : ∀ p ∈ E.take i, okE n p) (k : okE n E[i]) : ∀ p ∈ E.take (i + 1), okE n p := by
  rw [List.take_succ_eq_append_getElem hi]
  intro p hp
  rcases List.mem_append.1 hp with hp | hp
  · exact h p hp
  · simp at hp; subst hp; exact k

/-! ### cmp -/
noncomputable def isNaNC : Con := conP 1 (fun _ : Int => True) (fun x => [.one (.s (.i .i64 x))]) (fun _ => .one (.s (.b false)))
theorem isNaN_ok [Fwd] : SoundC Try.prog T 107 isNaNC := by
  refine sound_con (X := { Γ := [], T := T, nt := 6 }) cr_none hmix hT sound_nil Try.func107 (by rfl) (by rfl) (by rfl) (by rfl) 1 ?_
  rintro x -
  refine ⟨⟨Nat.le_of_ble_eq_true rfl, Nat.le_of_ble_eq_true rfl⟩, ?_⟩
  refine ⟨rfl, ?_⟩
  show _ = _
  simp
theorem isNaNC_at (x : Int) : isNaNC.F [.one (.s (.i .i64 x))] = some (.one (.s (.b false)), []) := conP_at (a := x) (fun a b _ _ h => rfl) trivial
def cmpI (x y : Int) : Int := if x < y then -1 else if y < x then 1 else 0
noncomputable def CompareC : Con := conP 2 (fun _ : Int × Int => True) (fun a => [.one (.s (.i .i64 a.1)), .one (.s (.i .i64 a.2))]) (fun a => .one (.s (.i .i64 (cmpI a.1 a.2))))
theorem Compare_ok [Fwd] : SoundC Try.prog T 96 CompareC := by
  refine sound_con (X := { Γ := [(107, isNaNC)], T := T, nt := 20 }) cr_none hmix hT (sound_cons isNaN_ok sound_nil) Try.func96 (by rfl) (by rfl) (by rfl) (by rfl) 2 ?_
  rintro ⟨x, y⟩ -
  refine ⟨⟨Nat.le_of_ble_eq_true rfl, Nat.le_of_ble_eq_true rfl⟩, ?_⟩
  refine Call.by _ _ (isNaNC_at x) ?_
  refine Call.by _ _ (isNaNC_at y) ?_
  refine Pick.by (fun h => ?_) (fun h => ?_)
  · refine ⟨rfl, ?_⟩
    have h : x < y := by simpa using h
    show _ = _
    simp [cmpI, h]
  refine Pick.by (fun h2 => ?_) (fun h2 => ?_)
  · refine ⟨rfl, ?_⟩
    have h : ¬ x < y := by simpa using h
    have h2 : y < x := by simpa using h2
    show _ = _
    simp [cmpI, h, h2]
  · refine ⟨rfl, ?_⟩
    have h : ¬ x < y := by simpa using h
    have h2 : ¬ y < x := by simpa using h2
    show _ = _
    simp [cmpI, h, h2]
theorem CompareC_at (x y : Int) : CompareC.F [.one (.s (.i .i64 x)), .one (.s (.i .i64 y))] = some (.one (.s (.i .i64 (cmpI x y))), []) :=
  conP_at (a := (x, y)) (fun a b _ _ h => by simp at h; rw [Prod.ext h.1 h.2]) trivial
def orI (l : List Int) : Int := match l.find? (fun x => x != 0) with | some x => x | none => 0
noncomputable def OrC : Con := conP 1 (fun l : List Int => l.length ≤ 1000000) (fun l => [.one (.flat false 1 (ints l))]) (fun l => .one (.s (.i .i64 (orI l))))
theorem Or_ok [Fwd] : SoundC Try.prog T 95 OrC := by
  refine sound_con (X := { Γ := [], T := T, nt := 18 }) cr_none hmix hT sound_nil Try.func95 (by rfl) (by rfl) (by rfl) (by rfl) 1 ?_
  intro l hl
  have hl : l.length ≤ 1000000 := hl
  refine ⟨⟨Nat.le_of_ble_eq_true rfl, Nat.le_of_ble_eq_true rfl⟩, ?_⟩
  refine LoopP.intro (α := Nat) (fun k => k ≤ l.length ∧ orI (l.drop k) = orI l) (fun k => l.length - k) (fun k => [(3, .s (.i .i64 0)), (6, .sl 0 none none), (7, .s (.i .i64 l.length)), (8, .s (.i .i64 k))]) (fun k => [(0, some (.flat false 1 (ints l)))]) 1 0 ⟨by simp, by simp⟩ (by refine Weak.by [(0, some _)] (by ((repeat' first | exact rfl | exact trivial | refine And.intro ?_ ?_) <;> (repeat' first | exact rfl | exact trivial | refine And.intro ?_ ?_)); all_goals (exact sc_eq (by rw [ints_length]))) (by ((repeat' first | exact rfl | exact trivial | refine And.intro ?_ ?_) <;> (repeat' first | exact rfl | exact trivial | refine And.intro ?_ ?_)); all_goals (exact sc_eq (by rw [ints_length]))) (by rfl)) ?_
  rintro k ⟨hk, hs⟩
  refine Pick.by (fun h => ?_) (fun h => ?_)
  · have hlt : k < l.length := by simpa using h
    rw [drop_cons hlt] at hs
    refine Idx.by k rfl (by rw [ints_length]; exact hlt) ?_
    refine Look.by _ (ints_get (List.getElem?_eq_getElem hlt)) ?_
    refine Pick.by (fun h => ?_) (fun h => ?_)
    · refine ⟨rfl, ?_⟩
      have h : (l[k] != 0) = true := h
      show _ = _
      rw [← hs]; simp only [orI, List.find?_cons, h]
    · have h : (l[k] != 0) = false := h
      refine Pick.T (inI64_of (by omega) (by omega)) ?_
      refine Next.by (k + 1) ⟨by omega, ?_⟩ (by omega) (by refine Weak.by [(0, some _)] (by ((repeat' first | exact rfl | exact trivial | refine And.intro ?_ ?_) <;> (repeat' first | exact rfl | exact trivial | refine And.intro ?_ ?_))) (by ((repeat' first | exact rfl | exact trivial | refine And.intro ?_ ?_) <;> (repeat' first | exact rfl | exact trivial | refine And.intro ?_ ?_))) (by rfl))
      rw [← hs]; simp only [orI, List.find?_cons, h]
  · refine ⟨rfl, ?_⟩
    have hge : l.length ≤ k := by simpa using h
    show _ = _
    rw [← hs, List.drop_eq_nil_of_le hge]; rfl
theorem OrC_at (l : List Int) (hl : l.length ≤ 1000000) : OrC.F [.one (.flat false 1 (ints l))] = some (.one (.s (.i .i64 (orI l))), []) :=
  conP_at (a := l) (fun a b _ _ h => by simp at h; rw [ints_inj h]) hl
/-! ### graph.compare -/
def cmpE (p q : Ed) : Int := orI [cmpI p.1 q.1, cmpI p.2 q.2]
theorem cmpE_lt (p q : Ed) : cmpE p q < 0 ↔ ltE p q := by
  unfold cmpE orI cmpI ltE
  repeat' split
  all_goals simp_all
  all_goals omega
def edV (p : Ed) : V := .agg [.s (.i .i64 p.1), .s (.i .i64 p.2)]
noncomputable def compareC : Con := conP 2 (fun _ : Ed × Ed => True) (fun a => [edV a.1, edV a.2]) (fun a => .one (.s (.i .i64 (cmpE a.1 a.2))))
theorem compare_ok [Fwd] : SoundC Try.prog T 69 compareC := by
  refine sound_con (X := { Γ := [(96, CompareC), (95, OrC)], T := T, nt := 17 }) cr_none hmix hT (sound_cons Compare_ok (sound_cons Or_ok sound_nil)) Try.func69 (by rfl) (by rfl) (by rfl) (by rfl) 4 ?_
  rintro ⟨⟨a, b⟩, ⟨c, d⟩⟩ -
  refine ⟨⟨Nat.le_of_ble_eq_true rfl, Nat.le_of_ble_eq_true rfl⟩, ?_⟩
  refine Call.by _ _ (CompareC_at a c) ?_
  refine Call.by _ _ (CompareC_at b d) ?_
  refine Call.by _ _ (OrC_at [cmpI a c, cmpI b d] (by simp)) ?_
  refine Seg.by (by kernel_rfl) ?_
  refine ⟨rfl, ?_⟩
  show _ = _
  rfl
theorem compareC_at (p q : Ed) : compareC.F [edV p, edV q] = some (.one (.s (.i .i64 (cmpE p q))), []) :=
  conP_at (a := (p, q)) (fun a b _ _ h => by
    obtain ⟨⟨a1, a2⟩, a3, a4⟩ := a
    obtain ⟨⟨b1, b2⟩, b3, b4⟩ := b
    simp [edV] at h
    obtain ⟨⟨rfl, rfl⟩, rfl, rfl⟩ := h; rfl) trivial
end Go.Sh

set_option linter.unusedVariables false
set_option linter.unusedSimpArgs false
namespace Go.Sh
open Go.Proofs
/-! ### Right, twice -/
noncomputable def RightC : Con := conP 1 (fun _ : Int × List Ed => True) (fun g => [grV g.1 g.2]) (fun g => .one (.s (.b (decide (RightP g.1 g.2)))))
theorem no_of {n : Int} {E : List Ed} (h : ¬ RightP n E) : (false : Bool) = decide (RightP n E) := (decide_eq_false h).symm
theorem RightC_at (n : Int) (E : List Ed) : RightC.F [grV n E] = some (.one (.s (.b (decide (RightP n E)))), []) :=
  conP_at (a := (n, E)) (fun a b _ _ h => by simp at h; obtain ⟨h1, h2⟩ := grV_inj h; rw [Prod.ext h1 h2]) trivial
def RI (n : Int) (E : List Ed) (k : Nat) : Prop := k ≤ E.length ∧ (∀ p ∈ E.take k, okE n p) ∧ (E.take k).Pairwise ltE
set_option maxHeartbeats 1000000 in
theorem RightG_p : SoundP Try.prog 39 (conF (fun _ : Int × List Ed => True) (fun g => [grV g.1 g.2]) (fun g => .one (.s (.b (decide (RightP g.1 g.2)))))) := by
  refine con_pure (X := { Γ := [(69, compareC)], T := T, nt := 60 }) cr_none hmix hT (sound_cons compare_ok sound_nil) Try.func39 (by rfl) (by rfl) (by rfl) 2 ?_
  rintro ⟨n, E⟩ -
  refine ⟨⟨Nat.le_of_ble_eq_true rfl, Nat.le_of_ble_eq_true rfl⟩, ?_⟩
  refine Pick.by (fun h1 => ?_) (fun h1 => ?_)
  · have h1 : n < 0 := by simpa using h1
    refine ⟨rfl, ?_⟩
    show Sc.b _ = Sc.b _
    rw [← no_of (fun h => by have := h.1; simp only at this; omega)]
  have h1 : ¬ n < 0 := by simpa using h1
  refine Pick.by (fun h2 => ?_) (fun h2 => ?_)
  · have h2 : n > 1000 := by simpa using h2
    refine ⟨rfl, ?_⟩
    show Sc.b _ = Sc.b _
    rw [← no_of (fun h => by have := h.2.1; simp only at this; omega)]
  have h2 : ¬ n > 1000 := by simpa using h2
  refine Pick.by (fun h3 => ?_) (fun h3 => ?_)
  · have h3 : E.length > 4000 := by simp [edges_length] at h3; omega
    refine ⟨rfl, ?_⟩
    show Sc.b _ = Sc.b _
    rw [← no_of (fun h => by have := h.2.2.1; simp only at this; omega)]
  have h3 : E.length ≤ 4000 := by simp [edges_length] at h3; omega
  refine LoopP.intro (α := Nat) (RI n E) (fun k => E.length - k) (fun k => [(1, .ptr 0 0), (20, .sl 1 none none), (21, .s (.i .i64 E.length)), (22, .s (.i .i64 k))]) (fun k => [(0, some (.blk [.s (.i .i64 n), .sl 1 none none])), (1, some (.flat false 2 (edges E)))]) 2 0 ⟨by simp, by simp, by simp⟩ (by refine Weak.by [(0, some _), (1, some _)] (by ((repeat' first | exact rfl | exact trivial | refine And.intro ?_ ?_) <;> (repeat' first | exact rfl | exact trivial | refine And.intro ?_ ?_)); all_goals (exact sc_eq (by rw [edges_length]))) (by ((repeat' first | exact rfl | exact trivial | refine And.intro ?_ ?_) <;> (repeat' first | exact rfl | exact trivial | refine And.intro ?_ ?_)); all_goals (exact sc_eq (by rw [edges_length]))) (by rfl)) ?_
  rintro k ⟨hk, ha, hp⟩
  refine Pick.by (fun h => ?_) (fun h => ?_)
  · have hlt : k < E.length := by simpa using h
    refine Idx.by k rfl (by rw [edges_length]; exact hlt) ?_
    refine Look.by _ (edges_get (List.getElem?_eq_getElem hlt)) ?_
    have hbad : ¬ okE n E[k] → ¬ RightP n E := fun h q => h (q.2.2.2.1 _ (List.getElem_mem hlt))
    refine Pick.by (fun h4 => ?_) (fun h4 => ?_)
    · have h4 : E[k].1 < 0 := by simpa using h4
      refine Seg.by (by kernel_rfl) ?_
      refine ⟨rfl, ?_⟩
      show Sc.b _ = Sc.b _
      rw [← no_of (hbad (fun q => by unfold okE at q; omega))]
    have h4 : ¬ E[k].1 < 0 := by simpa using h4
    refine Pick.by (fun h5 => ?_) (fun h5 => ?_)
    · have h5 : E[k].1 ≥ E[k].2 := by simpa using h5
      refine Seg.by (by kernel_rfl) ?_
      refine ⟨rfl, ?_⟩
      show Sc.b _ = Sc.b _
      rw [← no_of (hbad (fun q => by unfold okE at q; omega))]
    have h5 : ¬ E[k].1 ≥ E[k].2 := by simpa using h5
    refine Pick.by (fun h6 => ?_) (fun h6 => ?_)
    · have h6 : E[k].2 ≥ n := by simpa using h6
      refine Seg.by (by kernel_rfl) ?_
      refine ⟨rfl, ?_⟩
      show Sc.b _ = Sc.b _
      rw [← no_of (hbad (fun q => by unfold okE at q; omega))]
    have h6 : ¬ E[k].2 ≥ n := by simpa using h6
    have hok : okE n E[k] := by unfold okE; omega
    refine Pick.by (fun h0 => ?_) (fun h0 => ?_)
    · have h0 : 0 < k := by simpa using h0
      have hk1 : k - 1 < E.length := by omega
      refine Pick.T (inI64_of (by omega) (by omega)) ?_
      refine Idx.by (k - 1) (by omega) (by rw [edges_length]; exact hk1) ?_
      refine Look.by _ (edges_get (List.getElem?_eq_getElem hk1)) ?_
      refine Call.by _ _ (compareC_at E[k - 1] E[k]) ?_
      refine Seg.by (by kernel_rfl) ?_
      have hc := cmpE_lt E[k - 1] E[k]
      refine Pick.by (fun h9 => ?_) (fun h9 => ?_)
      · have h9 : cmpE E[k - 1] E[k] ≥ 0 := by simpa using h9
        refine ⟨rfl, ?_⟩
        show Sc.b _ = Sc.b _
        rw [← no_of (fun q => pw_no hlt h0 (by rw [← hc]; omega) q.2.2.2.2)]
      · have h9 : ¬ cmpE E[k - 1] E[k] ≥ 0 := by simpa using h9
        refine Pick.T (inI64_of (by omega) (by omega)) ?_
        refine Next.by (k + 1) ⟨by omega, all_step hlt ha hok, pw_step hlt hp (fun _ => by rw [← hc]; omega)⟩ (by omega) (by refine Weak.by [(0, some _), (1, some _)] (by ((repeat' first | exact rfl | exact trivial | refine And.intro ?_ ?_) <;> (repeat' first | exact rfl | exact trivial | refine And.intro ?_ ?_))) (by ((repeat' first | exact rfl | exact trivial | refine And.intro ?_ ?_) <;> (repeat' first | exact rfl | exact trivial | refine And.intro ?_ ?_))) (by rfl))
    · have h0 : ¬ 0 < k := by simpa using h0
      refine Seg.by (by kernel_rfl) ?_
      refine Pick.T (inI64_of (by omega) (by omega)) ?_
      refine Next.by (k + 1) ⟨by omega, all_step hlt ha hok, pw_step hlt hp (fun h => absurd h h0)⟩ (by omega) (by refine Weak.by [(0, some _), (1, some _)] (by ((repeat' first | exact rfl | exact trivial | refine And.intro ?_ ?_) <;> (repeat' first | exact rfl | exact trivial | refine And.intro ?_ ?_))) (by ((repeat' first | exact rfl | exact trivial | refine And.intro ?_ ?_) <;> (repeat' first | exact rfl | exact trivial | refine And.intro ?_ ?_))) (by rfl))
  · refine ⟨rfl, ?_⟩
    have hge : E.length ≤ k := by simpa using h
    rw [List.take_of_length_le hge] at ha hp
    show Sc.b _ = Sc.b _
    rw [decide_eq_true (show RightP (n, E).1 (n, E).2 from ⟨by simp only; omega, by simp only; omega, h3, ha, hp⟩)]
theorem RightG_ok : SoundC Try.prog T 39 RightC := sound_pure Try.func39 (by rfl) (by rfl) (by simp [RightC, conP]) RightG_p
end Go.Sh

set_option linter.unusedVariables false
set_option linter.unusedSimpArgs false
namespace Go.Sh
open Go.Proofs
/-! ### minor.above, Lift, Drop -/
theorem ints_snoc (l : List Int) (x : Int) : ints (l ++ [x]) = ints l ++ [[.i .i64 x]] := by simp [ints]
theorem take_snoc {α β : Type} (f : α → β) {l : List α} {k : Nat} (h : k < l.length) : (l.take (k + 1)).map f = (l.take k).map f ++ [f l[k]] := by
  rw [List.take_succ_eq_append_getElem h, List.map_append]; rfl
/-! each, lifting -/
end Go.Sh

set_option linter.unusedVariables false
set_option linter.unusedSimpArgs false
namespace Go.Sh
open Go.Proofs
def mnI (a b : Int) : Int := if b < a then b else a
def mxI (a b : Int) : Int := if b > a then b else a
/-! ### carcanetref08.Drop -/
end Go.Sh

set_option linter.unusedVariables false
set_option linter.unusedSimpArgs false
namespace Go.Sh
open Go.Proofs
theorem InC_at {l : List Int} (x : Int) (hl : l.length ≤ 1000000) : InC.F [.one (.flat false 1 (ints l)), .one (.s (.i .i64 x))] = some (.one (.s (.b (l.elem x))), []) :=
  conP_at (a := (l, x)) (fun a b _ _ h => by simp at h; obtain ⟨h1, h2⟩ := h; rw [Prod.ext (ints_inj h1) h2]) hl
theorem set_same {α : Type} {l : List α} {i : Nat} {x : α} (h : l[i]? = some x) : l.set i x = l := by
  apply List.ext_getElem?
  intro j
  by_cases hj : j = i
  · subst hj; rw [List.getElem?_set_self (List.getElem?_eq_some_iff.1 h).1, h]
  · rw [List.getElem?_set_ne (Ne.symm hj)]
/-! ### carcanetref08.Lift -/
/-! ### carcanetlaw08.small, same -/
end Go.Sh

set_option linter.unusedVariables false
set_option linter.unusedSimpArgs false
namespace Go.Sh
open Go.Proofs
/-! ### slices.Min, slices.Max -/
end Go.Sh

set_option linter.unusedVariables false
set_option linter.unusedSimpArgs false
namespace Go.Sh
/-! ### vertices that hold together -/
def adjE (E : List Ed) (a b : Int) : Prop := (a, b) ∈ E ∨ (b, a) ∈ E
inductive Rch (E : List Ed) (l : List Int) (s : Int) : Int → Prop
  | base : Rch E l s s
  | step {u v : Int} : Rch E l s u → adjE E u v → v ∈ l → Rch E l s v
def Conn (E : List Ed) (l : List Int) : Prop := ∀ v ∈ l, Rch E l (l.headD 0) v
def WholeP (n : Int) (E : List Ed) (l : List Int) : Prop := RightP n E ∧ l ≠ [] ∧ l.Nodup ∧ (∀ v ∈ l, 0 ≤ v ∧ v < n) ∧ Conn E l
/-! #### marks -/
def mrk (f : List Int) (v : Int) : Int := f.getD v.toNat 0
structure MI (n : Int) (E : List Ed) (l : List Int) (f : List Int) : Prop where
  len : f.length = n.toNat
  val : ∀ (i : Nat) x, f[i]? = some x → (x = 0 ∧ (i : Int) ∉ l) ∨ (x = 1 ∧ (i : Int) ∈ l) ∨ (x = 2 ∧ (i : Int) ∈ l ∧ Rch E l (l.headD 0) i)
  head : mrk f (l.headD 0) = 2
def cnt (l : List Int) (f : List Int) : Nat := l.countP fun v => mrk f v == 2
theorem mk_get {f : List Int} {v : Int} {n : Int} (hl : f.length = n.toNat) (h0 : 0 ≤ v) (hn : v < n) : f[v.toNat]? = some (mrk f v) := by
  have : v.toNat < f.length := by omega
  rw [mrk, List.getD_eq_getElem?_getD, List.getElem?_eq_getElem this]; rfl
theorem mk_set {f : List Int} {u v : Int} {x : Int} {n : Int} (hl : f.length = n.toNat) (h0 : 0 ≤ v) (hn : v < n) (hu : 0 ≤ u) : mrk (f.set v.toNat x) u = if u = v then x else mrk f u := by
  unfold mrk
  rw [List.getD_eq_getElem?_getD, List.getD_eq_getElem?_getD, List.getElem?_set]
  by_cases h : u = v
  · subst h
    rw [if_pos rfl, if_pos (by omega), if_pos rfl]; rfl
  · rw [if_neg (by omega), if_neg h]
theorem countP_one {l : List Int} {p q : Int → Bool} {v : Int} (hn : l.Nodup) (hv : v ∈ l) (hpv : p v = false) (hq : ∀ w ∈ l, q w = (decide (w = v) || p w)) : l.countP q = l.countP p + 1 := by
  induction l with
  | nil => simp at hv
  | cons a l ih =>
    rw [List.nodup_cons] at hn
    rw [List.countP_cons, List.countP_cons, hq a (by simp)]
    rcases List.mem_cons.1 hv with rfl | hv
    · have : l.countP q = l.countP p := List.countP_congr fun w hw => by
        rw [hq w (by simp [hw])]
        have : w ≠ v := fun e => hn.1 (e ▸ hw)
        simp [this]
      rw [this, hpv]; simp
    · have hne : a ≠ v := fun e => hn.1 (e ▸ hv)
      rw [ih hn.2 hv fun w hw => hq w (by simp [hw])]
      simp [hne]; omega
def noisy (f : List Int) (p : Ed) : Prop := mrk f p.1 + mrk f p.2 = 3 ∧ 0 < mrk f p.1 ∧ 0 < mrk f p.2
section
variable {n : Int} {E : List Ed} {l f : List Int}
theorem MI.cases (h : MI n E l f) {v : Int} (h0 : 0 ≤ v) (hn : v < n) : (mrk f v = 0 ∧ v ∉ l) ∨ (mrk f v = 1 ∧ v ∈ l) ∨ (mrk f v = 2 ∧ v ∈ l ∧ Rch E l (l.headD 0) v) := by
  have := h.val v.toNat _ (mk_get h.len h0 hn)
  rwa [Int.toNat_of_nonneg h0] at this
theorem MI.mark (h : MI n E l f) (hnd : l.Nodup) (hl0 : ∀ v ∈ l, 0 ≤ v ∧ v < n) (hh : 0 ≤ l.headD 0) {u v : Int} (hv : mrk f v = 1) (h0 : 0 ≤ v) (hn : v < n) (hu : Rch E l (l.headD 0) u) (ha : adjE E u v) :
    MI n E l (f.set v.toNat 2) ∧ cnt l (f.set v.toNat 2) = cnt l f + 1 := by
  have hvl : v ∈ l := by
    rcases h.cases h0 hn with ⟨h1, _⟩ | ⟨_, h2⟩ | ⟨h1, _⟩ <;> first | omega | exact h2
  refine ⟨⟨by rw [List.length_set]; exact h.len, fun i x hx => ?_, ?_⟩, ?_⟩
  · rw [List.getElem?_set] at hx
    split at hx
    · rename_i he
      split at hx
      · injection hx with hx
        have e : (i : Int) = v := by omega
        rw [e]
        exact .inr (.inr ⟨hx.symm, hvl, .step hu ha hvl⟩)
      · simp at hx
    · exact h.val i x hx
  · rw [mk_set h.len h0 hn hh]
    split
    · rfl
    · exact h.head
  · refine countP_one hnd hvl (by simp [hv]) fun w hw => ?_
    rw [mk_set h.len h0 hn (hl0 w hw).1]
    by_cases e : w = v
    · simp [e]
    · simp [e]
theorem MI.step (h : MI n E l f) (hnd : l.Nodup) (hl0 : ∀ v ∈ l, 0 ≤ v ∧ v < n) (hh : 0 ≤ l.headD 0) {p : Ed} (hp : p ∈ E) (hok : okE n p) (hq : noisy f p) :
    MI n E l ((f.set p.1.toNat 2).set p.2.toNat 2) ∧ cnt l ((f.set p.1.toNat 2).set p.2.toNat 2) = cnt l f + 1 := by
  obtain ⟨a, b⟩ := p
  obtain ⟨h1, h2, h3⟩ := hq
  obtain ⟨o1, o2, o3⟩ := hok
  dsimp only at *
  have ga : f[a.toNat]? = some (mrk f a) := mk_get h.len o1 (by omega)
  have gb : f[b.toNat]? = some (mrk f b) := mk_get h.len (by omega) o3
  by_cases ha : mrk f a = 2
  · rw [ha] at ga
    rw [set_same ga]
    have ra : Rch E l (l.headD 0) a := by rcases h.cases o1 (by omega) with ⟨h1, _⟩ | ⟨h1, _⟩ | ⟨_, _, h2⟩ <;> first | omega | exact h2
    exact h.mark hnd hl0 hh (by omega) (by omega) o3 ra (.inl hp)
  · have hb : mrk f b = 2 := by
      rcases h.cases o1 (show a < n by omega) with ⟨k1, _⟩ | ⟨k1, _⟩ | ⟨k1, _⟩ <;> omega
    rw [hb] at gb
    have : ((f.set a.toNat 2)[b.toNat]?) = some 2 := by
      rw [List.getElem?_set, if_neg (by omega)]; exact gb
    rw [set_same this]
    have rb : Rch E l (l.headD 0) b := by rcases h.cases (show 0 ≤ b by omega) o3 with ⟨h1, _⟩ | ⟨h1, _⟩ | ⟨_, _, h2⟩ <;> first | omega | exact h2
    exact h.mark hnd hl0 hh (by omega) o1 (by omega) rb (.inr hp)
theorem MI.done (h : MI n E l f) (hl0 : ∀ v ∈ l, 0 ≤ v ∧ v < n) (hE : ∀ p ∈ E, okE n p) (hq : ∀ p ∈ E, ¬ noisy f p) : cnt l f = l.length ↔ Conn E l := by
  unfold cnt
  rw [List.countP_eq_length]
  constructor
  · intro hc v hv
    have hm : mrk f v = 2 := by simpa using hc v hv
    rcases h.cases (hl0 v hv).1 (hl0 v hv).2 with ⟨h1, _⟩ | ⟨h1, _⟩ | ⟨_, _, h2⟩ <;> first | omega | exact h2
  · intro hc v hv
    have key : ∀ v, Rch E l (l.headD 0) v → mrk f v = 2 := by
      intro v hr
      induction hr with
      | base => exact h.head
      | @step u v _ ha hv ih =>
        rcases h.cases (hl0 v hv).1 (hl0 v hv).2 with ⟨_, h2⟩ | ⟨h1, _⟩ | ⟨h1, _⟩
        · exact absurd hv h2
        · rcases ha with ha | ha
          · exact absurd ⟨by simp only; omega, by simp only; omega, by simp only; omega⟩ (hq _ ha)
          · exact absurd ⟨by simp only; omega, by simp only; omega, by simp only; omega⟩ (hq _ ha)
        · exact h1
    simpa using key v (hc v hv)
end
/-! #### the first marks -/
end Go.Sh

set_option linter.unusedVariables false
set_option linter.unusedSimpArgs false
namespace Go.Sh
open Go.Proofs
theorem ints_set (f : List Int) (i : Nat) (x : Int) : ints (f.set i x) = (ints f).set i [.i .i64 x] := by simp [ints, List.map_set]
end Go.Sh

set_option linter.unusedVariables false
set_option linter.unusedSimpArgs false
namespace Go.Sh
/-! ### models -/
/-- which set a vertex is in -/
structure OF (n : Int) (f : List Int) (S : List (List Int)) : Prop where
  len : f.length = n.toNat
  bnd : ∀ v, 0 ≤ v → v < n → 0 ≤ mrk f v ∧ mrk f v ≤ S.length
  val : ∀ v, 0 ≤ v → v < n → ∀ i : Nat, mrk f v = i + 1 ↔ ∃ l, S[i]? = some l ∧ v ∈ l
section
variable {n : Int} {E : List Ed} {f : List Int} {S : List (List Int)} {l : List Int}
theorem mrk_zero {n : Int} {v : Int} (h0 : 0 ≤ v) (hn : v < n) : mrk (List.replicate n.toNat 0) v = 0 := by
  unfold mrk
  rw [List.getD_eq_getElem?_getD, List.getElem?_replicate, if_pos (by omega)]; rfl
theorem OF.nil (n : Int) : OF n (List.replicate n.toNat 0) [] :=
  ⟨by simp, fun v h0 hn => by rw [mrk_zero h0 hn]; simp, fun v h0 hn i => by rw [mrk_zero h0 hn]; simp; omega⟩
theorem OF.open (h : OF n f S) : OF n f (S ++ [[]]) := by
  refine ⟨h.len, fun v h0 hn => ⟨(h.bnd v h0 hn).1, by have := (h.bnd v h0 hn).2; simp; omega⟩, fun v h0 hn i => ?_⟩
  rw [h.val v h0 hn i]
  constructor
  · rintro ⟨l, h1, h2⟩
    exact ⟨l, by rw [List.getElem?_append_left (List.getElem?_eq_some_iff.1 h1).1]; exact h1, h2⟩
  · rintro ⟨l, h1, h2⟩
    by_cases hi : i < S.length
    · rw [List.getElem?_append_left hi] at h1; exact ⟨l, h1, h2⟩
    · rw [List.getElem?_append_right (by omega)] at h1
      have : i - S.length = 0 ∨ 0 < i - S.length := by omega
      rcases this with e | e
      · rw [e] at h1; simp at h1; subst h1; simp at h2
      · rw [List.getElem?_eq_none (by simp; omega)] at h1; simp at h1
theorem OF.put {v : Int} (h : OF n f (S ++ [l])) (h0 : 0 ≤ v) (hn : v < n) (hz : mrk f v = 0) : OF n (f.set v.toNat (S.length + 1)) (S ++ [l ++ [v]]) := by
  refine ⟨by rw [List.length_set]; exact h.len, fun u u0 un => ?_, fun u u0 un i => ?_⟩
  · have := h.bnd u u0 un
    rw [mk_set h.len h0 hn u0]
    simp at this ⊢
    split <;> omega
  · rw [mk_set h.len h0 hn u0]
    have hv := h.val u u0 un i
    by_cases e : u = v
    · subst e
      rw [if_pos rfl]
      constructor
      · intro hi
        have hi : i = S.length := by omega
        subst hi
        exact ⟨l ++ [u], by rw [List.getElem?_append_right (Nat.le_refl _)]; simp, by simp⟩
      · rintro ⟨m, h1, h2⟩
        by_cases hi : i < S.length
        · rw [List.getElem?_append_left hi] at h1
          have := hv.2 ⟨m, by rw [List.getElem?_append_left hi]; exact h1, h2⟩
          omega
        · rw [List.getElem?_append_right (by omega)] at h1
          have := (List.getElem?_eq_some_iff.1 h1).1
          simp at this
          omega
    · rw [if_neg e, hv]
      constructor
      · rintro ⟨m, h1, h2⟩
        by_cases hi : i < S.length
        · rw [List.getElem?_append_left hi] at h1
          exact ⟨m, by rw [List.getElem?_append_left hi]; exact h1, h2⟩
        · rw [List.getElem?_append_right (by omega)] at h1
          have hlt := (List.getElem?_eq_some_iff.1 h1).1
          simp at hlt
          have hz' : i - S.length = 0 := by omega
          rw [hz'] at h1
          simp at h1
          subst h1
          exact ⟨l ++ [v], by rw [List.getElem?_append_right (by omega), hz']; simp, by simp [h2]⟩
      · rintro ⟨m, h1, h2⟩
        by_cases hi : i < S.length
        · rw [List.getElem?_append_left hi] at h1
          exact ⟨m, by rw [List.getElem?_append_left hi]; exact h1, h2⟩
        · rw [List.getElem?_append_right (by omega)] at h1
          have hlt := (List.getElem?_eq_some_iff.1 h1).1
          simp at hlt
          have hz' : i - S.length = 0 := by omega
          rw [hz'] at h1
          simp at h1
          subst h1
          have h2 : u ∈ l := by simpa [e] using h2
          exact ⟨l, by rw [List.getElem?_append_right (by omega), hz']; simp, h2⟩
theorem OF.uniq (h : OF n f S) {v : Int} (h0 : 0 ≤ v) (hn : v < n) {i j : Nat} {a b : List Int} (ha : S[i]? = some a) (hb : S[j]? = some b) (va : v ∈ a) (vb : v ∈ b) : i = j := by
  have h1 := (h.val v h0 hn i).2 ⟨a, ha, va⟩
  have h2 := (h.val v h0 hn j).2 ⟨b, hb, vb⟩
  omega
/-- Someone is in two sets, or twice in one. -/
theorem OF.twice {k j : Nat} (h : OF n f (S.take k ++ [l.take j])) (hk : S[k]? = some l) (hj : j < l.length) {v : Int} (hv : l[j] = v) (hW : WholeP n E l) (hz : 0 < mrk f v) : ¬ S.flatten.Nodup := by
  intro hnd
  have hkl := (List.getElem?_eq_some_iff.1 hk).1
  have hvl : v ∈ l := hv ▸ List.getElem_mem hj
  have hr := hW.2.2.2.1 v hvl
  obtain ⟨b0, b1⟩ := h.bnd v hr.1 hr.2
  obtain ⟨m, h1, h2⟩ := (h.val v hr.1 hr.2 (mrk f v - 1).toNat).1 (by omega)
  rw [List.Nodup, List.pairwise_flatten] at hnd
  by_cases hi : (mrk f v - 1).toNat < k
  · rw [List.getElem?_append_left (by rw [List.length_take]; omega), List.getElem?_take, if_pos hi] at h1
    have := List.pairwise_iff_getElem.1 hnd.2 _ k (List.getElem?_eq_some_iff.1 h1).1 hkl hi
    have e1 := (List.getElem?_eq_some_iff.1 h1).2
    have e2 := (List.getElem?_eq_some_iff.1 hk).2
    rw [e1, e2] at this
    exact this v h2 v hvl rfl
  · rw [List.getElem?_append_right (by rw [List.length_take]; omega)] at h1
    have hlt := (List.getElem?_eq_some_iff.1 h1).1
    simp only [List.length_singleton] at hlt
    have hz' : (mrk f v - 1).toNat - (S.take k).length = 0 := by omega
    rw [hz'] at h1
    simp at h1
    subst h1
    obtain ⟨i, hi, he⟩ := List.mem_iff_getElem.1 h2
    rw [List.length_take] at hi
    rw [List.getElem_take] at he
    have := List.pairwise_iff_getElem.1 hW.2.2.1 i j (by omega) hj (by omega)
    rw [he, hv] at this
    exact this rfl
end
/-! #### what is met -/
end Go.Sh

set_option linter.unusedVariables false
set_option linter.unusedSimpArgs false
namespace Go.Sh
open Go.Proofs
def grO (n : Int) (E : List Ed) : V := .agg [.s (.i .i64 n), .flat true 2 (edges E)]
/-! ### minor.Pattern -/
/-! ### minor.Check -/
end Go.Sh

set_option linter.unusedVariables false
set_option linter.unusedSimpArgs false
namespace Go.Sh
open Go.Proofs
/-! ### carcanetlaw08.shown -/
end Go.Sh

set_option linter.unusedVariables false
set_option linter.unusedSimpArgs false
namespace Go.Sh
/-! ### the normal form of edges -/
def insE (p : Ed) : List Ed → List Ed
  | [] => [p]
  | q :: r => if ltE p q then p :: q :: r else if p = q then q :: r else q :: insE p r
def edN (p : Ed) : Ed := (mnI p.1 p.2, mxI p.1 p.2)
def normE (l : List Ed) : List Ed := l.foldr (fun p E => if p.1 = p.2 then E else insE (edN p) E) []
theorem mem_insE {p x : Ed} : ∀ {E : List Ed}, x ∈ insE p E ↔ x = p ∨ x ∈ E := by
  intro E
  induction E with
  | nil => simp [insE]
  | cons q r ih =>
    unfold insE
    split
    · simp
    · split
      · rename_i h; subst h; simp
      · simp only [List.mem_cons, ih]
        constructor
        · rintro (h | h | h) <;> simp [h]
        · rintro (h | h | h) <;> simp [h]
theorem ltE_tri (p q : Ed) : ltE p q ∨ p = q ∨ ltE q p := by
  obtain ⟨a, b⟩ := p
  obtain ⟨c, d⟩ := q
  unfold ltE
  simp only [Prod.mk.injEq]
  omega
theorem insE_sorted {p : Ed} : ∀ {E : List Ed}, E.Pairwise ltE → (insE p E).Pairwise ltE := by
  intro E
  induction E with
  | nil => intro _; simp [insE]
  | cons q r ih =>
    intro h
    unfold insE
    have h' := List.pairwise_cons.1 h
    split
    · rename_i hlt
      exact List.pairwise_cons.2 ⟨fun x hx => by rcases List.mem_cons.1 hx with rfl | hx; exact hlt; exact hlt.trans (h'.1 x hx), h⟩
    · split
      · exact h
      · rename_i h1 h2
        refine List.pairwise_cons.2 ⟨fun x hx => ?_, ih h'.2⟩
        rcases mem_insE.1 hx with rfl | hx
        · rcases ltE_tri x q with h | h | h
          · exact absurd h h1
          · exact absurd h h2
          · exact h
        · exact h'.1 x hx
theorem normE_sorted (l : List Ed) : (normE l).Pairwise ltE := by
  induction l with
  | nil => simp [normE]
  | cons p l ih =>
    show (if p.1 = p.2 then normE l else insE (edN p) (normE l)).Pairwise ltE
    split
    · exact ih
    · exact insE_sorted ih
theorem mem_normE {l : List Ed} {x : Ed} : x ∈ normE l ↔ ∃ p ∈ l, p.1 ≠ p.2 ∧ x = edN p := by
  induction l with
  | nil => simp [normE]
  | cons p l ih =>
    show x ∈ (if p.1 = p.2 then normE l else insE (edN p) (normE l)) ↔ _
    split
    · rename_i h
      rw [ih]
      constructor
      · rintro ⟨q, hq, h1⟩; exact ⟨q, by simp [hq], h1⟩
      · rintro ⟨q, hq, h1, h2⟩
        rcases List.mem_cons.1 hq with rfl | hq
        · exact absurd h h1
        · exact ⟨q, hq, h1, h2⟩
    · rename_i h
      rw [mem_insE, ih]
      constructor
      · rintro (h1 | ⟨q, hq, h1⟩)
        · exact ⟨p, by simp, h, h1⟩
        · exact ⟨q, by simp [hq], h1⟩
      · rintro ⟨q, hq, h1, h2⟩
        rcases List.mem_cons.1 hq with rfl | hq
        · exact .inl h2
        · exact .inr ⟨q, hq, h1, h2⟩
theorem ltE_ne {p q : Ed} (h : ltE p q) : p ≠ q := by
  intro e
  subst e
  unfold ltE at h
  omega
theorem sortedE_eq {E F : List Ed} (h : E.Pairwise ltE) (k : F.Pairwise ltE) (hm : ∀ x, x ∈ E ↔ x ∈ F) : E = F := by
  have hp : E.Perm F := (List.perm_ext_iff_of_nodup (h.imp ltE_ne) (k.imp ltE_ne)).2 hm
  refine List.Perm.eq_of_pairwise (le := ltE) (fun a b _ _ h1 h2 => ?_) h k hp
  unfold ltE at h1 h2
  exact absurd h1 (by omega)
theorem edN_ok {n : Int} {p : Ed} (h1 : 0 ≤ p.1 ∧ p.1 < n) (h2 : 0 ≤ p.2 ∧ p.2 < n) (hne : p.1 ≠ p.2) : okE n (edN p) := by
  unfold okE edN mnI mxI
  dsimp only
  split <;> split <;> omega
theorem normE_ok {n : Int} {l : List Ed} (h : ∀ p ∈ l, (0 ≤ p.1 ∧ p.1 < n) ∧ 0 ≤ p.2 ∧ p.2 < n) : ∀ x ∈ normE l, okE n x := by
  intro x hx
  obtain ⟨p, hp, hne, rfl⟩ := mem_normE.1 hx
  exact edN_ok (h p hp).1 (h p hp).2 hne
theorem insE_length (p : Ed) (E : List Ed) : (insE p E).length ≤ E.length + 1 := by
  induction E with
  | nil => simp [insE]
  | cons q r ih =>
    unfold insE
    split
    · simp
    · split
      · simp
      · simp; omega
theorem normE_length (l : List Ed) : (normE l).length ≤ l.length := by
  induction l with
  | nil => simp [normE]
  | cons p l ih =>
    show (if p.1 = p.2 then normE l else insE (edN p) (normE l)).length ≤ _
    split
    · simp; omega
    · have := insE_length (edN p) (normE l); simp; omega
/-! #### rows of greater neighbours -/
structure UpI (n : Nat) (l : List Ed) (U : List (List Int)) : Prop where
  len : U.length = n
  nd : ∀ r ∈ U, r.Nodup
  ln : ∀ r ∈ U, r.length ≤ l.length
  mem : ∀ (a : Nat) r, U[a]? = some r → ∀ b, b ∈ r ↔ ∃ p ∈ l, p.1 ≠ p.2 ∧ edN p = ((a : Int), b)
theorem UpI.nil (n : Nat) : UpI n [] (List.replicate n []) := by
  refine ⟨by simp, fun r hr => ?_, fun r hr => ?_, fun a r h b => ?_⟩
  · rw [(List.mem_replicate.1 hr).2]; exact List.nodup_nil
  · rw [(List.mem_replicate.1 hr).2]; simp
  · rw [List.getElem?_replicate] at h
    split at h
    · injection h with h; subst h; simp
    · simp at h
theorem UpI.skip {n : Nat} {l : List Ed} {U : List (List Int)} {p : Ed} (h : UpI n l U) (hp : ∀ r, p.1 ≠ p.2 → U[(edN p).1.toNat]? = some r → 0 ≤ (edN p).1 → (edN p).2 ∈ r) (h0 : 0 ≤ (edN p).1) : UpI n (l ++ [p]) U := by
  refine ⟨h.len, h.nd, fun r hr => by have := h.ln r hr; simp; omega, fun a r ha b => ?_⟩
  rw [h.mem a r ha b]
  constructor
  · rintro ⟨q, hq, k⟩; exact ⟨q, by simp [hq], k⟩
  · rintro ⟨q, hq, k1, k2⟩
    rcases List.mem_append.1 hq with hq | hq
    · exact ⟨q, hq, k1, k2⟩
    · simp at hq
      subst hq
      have e1 : (edN q).1.toNat = a := by rw [k2]; simp
      have := hp r k1 (by rw [e1]; exact ha) h0
      rw [k2] at this
      obtain ⟨q', hq', k'⟩ := (h.mem a r ha b).1 this
      exact ⟨q', hq', k'⟩
theorem UpI.put {n : Nat} {l : List Ed} {U : List (List Int)} {p : Ed} {a : Nat} {r : List Int} (h : UpI n l U) (hne : p.1 ≠ p.2) (ha : (edN p).1 = a) (hr : U[a]? = some r) (hb : (edN p).2 ∉ r) : UpI n (l ++ [p]) (U.set a (r ++ [(edN p).2])) := by
  have hin : ∀ x ∈ U.set a (r ++ [(edN p).2]), x ∈ U ∨ x = r ++ [(edN p).2] := fun x hx => List.mem_or_eq_of_mem_set hx
  refine ⟨by rw [List.length_set]; exact h.len, fun x hx => ?_, fun x hx => ?_, fun c x hc b => ?_⟩
  · rcases hin x hx with hx | rfl
    · exact h.nd x hx
    · rw [List.nodup_append]
      refine ⟨h.nd r (List.mem_of_getElem? hr), by simp, fun y hy z hz e => ?_⟩
      simp at hz
      subst e
      subst hz
      exact hb hy
  · rcases hin x hx with hx | rfl
    · have := h.ln x hx; simp; omega
    · have := h.ln r (List.mem_of_getElem? hr); simp; omega
  · rw [List.getElem?_set] at hc
    split at hc
    · rename_i e
      subst e
      split at hc
      · injection hc with hc
        subst hc
        rw [List.mem_append, h.mem a r hr b]
        constructor
        · rintro (⟨q, hq, k⟩ | hb')
          · exact ⟨q, by simp [hq], k⟩
          · simp at hb'
            exact ⟨p, by simp, hne, by rw [hb', ← ha]⟩
        · rintro ⟨q, hq, k1, k2⟩
          rcases List.mem_append.1 hq with hq | hq
          · exact .inl ⟨q, hq, k1, k2⟩
          · simp at hq
            subst hq
            exact .inr (by rw [k2]; simp)
      · simp at hc
    · rename_i e
      rw [h.mem c x hc b]
      constructor
      · rintro ⟨q, hq, k⟩; exact ⟨q, by simp [hq], k⟩
      · rintro ⟨q, hq, k1, k2⟩
        rcases List.mem_append.1 hq with hq | hq
        · exact ⟨q, hq, k1, k2⟩
        · simp at hq
          subst hq
          rw [k2] at ha
          simp at ha
          omega
def rowE (U : List (List Int)) (a : Nat) : List Ed := (sortI (U.getD a [])).map fun b => ((a : Int), b)
def accE (U : List (List Int)) (k : Nat) : List Ed := (List.range k).flatMap (rowE U)
theorem accE_succ (U : List (List Int)) (k : Nat) : accE U (k + 1) = accE U k ++ rowE U k := by simp [accE, List.range_succ]
theorem sortI_length (l : List Int) : (sortI l).length = l.length := (List.mergeSort_perm l _).length_eq
theorem mem_sortI {l : List Int} {x : Int} : x ∈ sortI l ↔ x ∈ l := (List.mergeSort_perm l _).mem_iff
theorem sortI_sorted (l : List Int) : (sortI l).Pairwise (· ≤ ·) := by
  have := List.pairwise_mergeSort (le := fun a b : Int => decide (a ≤ b)) (fun a b c h1 h2 => by simp at *; omega) (fun a b => by simp; omega) l
  exact this.imp (fun h => by simpa using h)
theorem sortI_lt {l : List Int} (h : l.Nodup) : (sortI l).Pairwise (· < ·) := by
  have h1 := sortI_sorted l
  have h2 : (sortI l).Nodup := (List.mergeSort_perm l _).nodup_iff.2 h
  have := h1.and h2
  exact this.imp fun h => by omega
theorem accE_length {U : List (List Int)} {m : Nat} (h : ∀ r ∈ U, r.length ≤ m) (k : Nat) : (accE U k).length ≤ k * m := by
  induction k with
  | zero => simp [accE]
  | succ k ih =>
    rw [accE_succ, List.length_append, Nat.succ_mul]
    have : (rowE U k).length ≤ m := by
      unfold rowE
      rw [List.length_map, sortI_length, List.getD_eq_getElem?_getD]
      cases hk : U[k]? with
      | none => simp
      | some r => exact h r (List.mem_of_getElem? hk)
    omega
theorem accE_norm {n : Nat} {l : List Ed} {U : List (List Int)} (h : UpI n l U) (hl : ∀ p ∈ l, (0 ≤ p.1 ∧ p.1 < n) ∧ 0 ≤ p.2 ∧ p.2 < n) : accE U n = normE l := by
  have hmem : ∀ k x, x ∈ accE U k ↔ ∃ a, a < k ∧ x ∈ rowE U a := fun k x => by simp [accE]
  have hrow : ∀ a x, x ∈ rowE U a ↔ ∃ r, U[a]? = some r ∧ x.1 = a ∧ x.2 ∈ r := by
    intro a x
    unfold rowE
    rw [List.mem_map, List.getD_eq_getElem?_getD]
    cases hk : U[a]? with
    | none => simp [sortI]
    | some r =>
      simp only [Option.getD_some, mem_sortI]
      constructor
      · rintro ⟨b, hb, rfl⟩; exact ⟨r, rfl, rfl, hb⟩
      · rintro ⟨r', e, h1, h2⟩
        injection e with e
        subst e
        exact ⟨x.2, h2, by rw [← h1]⟩
  refine sortedE_eq ?_ (normE_sorted l) fun x => ?_
  · have : ∀ k, (accE U k).Pairwise ltE := by
      intro k
      induction k with
      | zero => simp [accE]
      | succ k ih =>
        rw [accE_succ, List.pairwise_append]
        refine ⟨ih, ?_, fun x hx y hy => ?_⟩
        · unfold rowE
          rw [List.pairwise_map]
          have hnd : (U.getD k []).Nodup := by
            rw [List.getD_eq_getElem?_getD]
            cases hk : U[k]? with
            | none => simp
            | some r => exact h.nd r (List.mem_of_getElem? hk)
          exact (sortI_lt hnd).imp fun h => .inr ⟨rfl, h⟩
        · obtain ⟨a, ha, hxa⟩ := (hmem k x).1 hx
          obtain ⟨_, _, h1, _⟩ := (hrow a x).1 hxa
          obtain ⟨_, _, h2, _⟩ := (hrow k y).1 hy
          exact .inl (by omega)
    exact this n
  · rw [hmem, mem_normE]
    constructor
    · rintro ⟨a, ha, hx⟩
      obtain ⟨r, hr, h1, h2⟩ := (hrow a x).1 hx
      obtain ⟨p, hp, hne, he⟩ := (h.mem a r hr x.2).1 h2
      exact ⟨p, hp, hne, by rw [he, ← h1]⟩
    · rintro ⟨p, hp, hne, rfl⟩
      have hok := edN_ok (hl p hp).1 (hl p hp).2 hne
      obtain ⟨o1, o2, o3⟩ := hok
      have hlt : (edN p).1.toNat < n := by omega
      refine ⟨(edN p).1.toNat, hlt, (hrow _ _).2 ⟨_, List.getElem?_eq_getElem (by rw [h.len]; exact hlt), by omega, ?_⟩⟩
      refine (h.mem _ _ (List.getElem?_eq_getElem (by rw [h.len]; exact hlt)) _).2 ⟨p, hp, hne, ?_⟩
      rw [Int.toNat_of_nonneg o1]
end Go.Sh

set_option linter.unusedVariables false
set_option linter.unusedSimpArgs false
namespace Go.Sh
open Go.Proofs
/-! ### carcanetref03.Normal -/
theorem SortedC_at {l : List Int} (h : l.length ≤ 1000000) : SortedC.F [.one (.flat false 1 (ints l))] = some (.one (.flat true 1 (ints (sortI l))), []) :=
  conP_at (a := l) (fun a b _ _ h => by simp at h; rw [ints_inj h]) h
def inR (n : Int) (p : Ed) : Prop := (0 ≤ p.1 ∧ p.1 < n) ∧ 0 ≤ p.2 ∧ p.2 < n
instance (n : Int) (p : Ed) : Decidable (inR n p) := by unfold inR; infer_instance
/-- number of vertices, edges, error -/
def normF (n : Int) (l : List Ed) : (Int × List Ed) × Int :=
  if n < 0 then ((0, []), 1) else if n > 1000 then ((0, []), 5) else if ∀ p ∈ l, inR n p then (if (normE l).length > 4000 then ((0, []), 5) else ((n, normE l), 0)) else ((0, []), 4)
noncomputable def NormC : Con := conP 2 (fun a : Int × List Ed => a.2.length ≤ 1000000) (fun a => [.one (.s (.i .i64 a.1)), .one (.flat false 2 (edges a.2))]) (fun a => .tup [grO (normF a.1 a.2).1.1 (normF a.1 a.2).1.2, .one (.s (.i .i64 (normF a.1 a.2).2))])
theorem NormC_at {n : Int} {l : List Ed} (h : l.length ≤ 1000000) : NormC.F [.one (.s (.i .i64 n)), .one (.flat false 2 (edges l))] = some (.tup [grO (normF n l).1.1 (normF n l).1.2, .one (.s (.i .i64 (normF n l).2))], []) :=
  conP_at (a := (n, l)) (fun a b _ _ h => by simp at h; obtain ⟨h1, h2⟩ := h; rw [Prod.ext h1 (edges_inj h2)]) h
theorem edges_snoc (l : List Ed) (x : Ed) : edges (l ++ [x]) = edges l ++ [[.i .i64 x.1, .i .i64 x.2]] := by simp [edges]
theorem all_take {α : Type} {Q : α → Prop} {l : List α} {k : Nat} (hk : k < l.length) (h : ∀ p ∈ l.take k, Q p) (h2 : Q l[k]) : ∀ p ∈ l.take (k + 1), Q p := by
  rw [List.take_succ_eq_append_getElem hk]
  intro p hp
  rcases List.mem_append.1 hp with hp | hp
  · exact h p hp
  · simp at hp; subst hp; exact h2
set_option maxHeartbeats 2000000 in
theorem Norm3_ok : SoundC Try.prog T 68 NormC := by
  refine sound_con (X := { Γ := [(36, InC), (43, SortedC)], T := T, nt := 120 }) cr_none hmix hT (sound_cons In_ok (sound_cons Sorted_ok sound_nil)) Try.func68 (by rfl) (by rfl) (by rfl) (by rfl) 2 ?_
  rintro ⟨n, l⟩ hl
  dsimp only at hl
  refine ⟨⟨Nat.le_of_ble_eq_true rfl, Nat.le_of_ble_eq_true rfl⟩, ?_⟩
  refine Pick.by (fun h1 => ?_) (fun h1 => ?_)
  · have h1 : n < 0 := by simpa using h1
    have hv : normF n l = ((0, []), 1) := if_pos h1
    dsimp only
    rw [hv]
    exact ⟨rfl, rfl, ⟨rfl, ⟨rfl, rfl⟩, trivial⟩, rfl, trivial⟩
  have h1 : ¬ n < 0 := by simpa using h1
  refine Pick.by (fun h2 => ?_) (fun h2 => ?_)
  · have h2 : n > 1000 := by simpa using h2
    have hv : normF n l = ((0, []), 5) := by unfold normF; rw [if_neg h1, if_pos h2]
    dsimp only
    rw [hv]
    exact ⟨rfl, rfl, ⟨rfl, ⟨rfl, rfl⟩, trivial⟩, rfl, trivial⟩
  have h2 : ¬ n > 1000 := by simpa using h2
  refine Pick.T (by simp) ?_
  refine Idx.by n.toNat (by show n = _; omega) (by omega) ?_
  refine LoopP.intro (α := Nat × List (List Int)) (fun p => p.1 ≤ l.length ∧ UpI n.toNat (l.take p.1) p.2 ∧ ∀ q ∈ l.take p.1, inR n q) (fun p => l.length - p.1) (fun p => [(0, .s (.i .i64 n)), (1, .sl 1 none none), (4, .ptr 0 0), (6, .sl 2 none none), (7, .s (.i .i64 p.1))])
    (fun p => [(0, some (.blk [.s (.i .i64 0), .nils])), (1, some (.flat false 2 (edges l))), (2, some (.nest true 1 (rowsI p.2) [] []))]) 3 (0, List.replicate n.toNat []) ⟨by simp, by simpa using UpI.nil n.toNat, by simp⟩ (by refine Weak.by [(0, some _), (1, some _), (2, some _)] (by ((repeat' first | exact rfl | exact trivial | refine And.intro ?_ ?_) <;> (repeat' first | exact rfl | exact trivial | refine And.intro ?_ ?_)); all_goals (simp [rowsI, ints])) (by ((repeat' first | exact rfl | exact trivial | refine And.intro ?_ ?_) <;> (repeat' first | exact rfl | exact trivial | refine And.intro ?_ ?_)); all_goals (simp [rowsI, ints])) (by rfl)) ?_
  rintro ⟨i, U⟩ ⟨hi, hU, hin⟩
  dsimp only at hi hU hin
  refine Pick.by (fun hc => ?_) (fun hc => ?_)
  · have hlt : i < l.length := by simpa [edges_length] using hc
    have hbad : ¬ inR n l[i] → normF n l = ((0, []), 4) := fun h => by
      unfold normF
      rw [if_neg h1, if_neg h2, if_neg fun k => h (k _ (List.getElem_mem hlt))]
    refine Idx.by i rfl (by rw [edges_length]; exact hlt) ?_
    refine Look.by _ (edges_get (List.getElem?_eq_getElem hlt)) ?_
    refine Idx.by i rfl (by rw [edges_length]; exact hlt) ?_
    refine Look.by _ (edges_get (List.getElem?_eq_getElem hlt)) ?_
    refine Pick.by (fun h3 => ?_) (fun h3 => ?_)
    · have h3 : l[i].1 < 0 := by simpa using h3
      have hv := hbad (fun h => by unfold inR at h; omega)
      dsimp only
      rw [hv]
      exact ⟨rfl, rfl, ⟨rfl, ⟨rfl, rfl⟩, trivial⟩, rfl, trivial⟩
    have h3 : ¬ l[i].1 < 0 := by simpa using h3
    refine Pick.by (fun h4 => ?_) (fun h4 => ?_)
    · have h4 : l[i].2 < 0 := by simpa using h4
      have hv := hbad (fun h => by unfold inR at h; omega)
      dsimp only
      rw [hv]
      exact ⟨rfl, rfl, ⟨rfl, ⟨rfl, rfl⟩, trivial⟩, rfl, trivial⟩
    have h4 : ¬ l[i].2 < 0 := by simpa using h4
    refine Pick.by (fun h5 => ?_) (fun h5 => ?_)
    · have h5 : l[i].1 ≥ n := by simpa using h5
      have hv := hbad (fun h => by unfold inR at h; omega)
      dsimp only
      rw [hv]
      exact ⟨rfl, rfl, ⟨rfl, ⟨rfl, rfl⟩, trivial⟩, rfl, trivial⟩
    have h5 : ¬ l[i].1 ≥ n := by simpa using h5
    refine Pick.by (fun h6 => ?_) (fun h6 => ?_)
    · have h6 : l[i].2 ≥ n := by simpa using h6
      have hv := hbad (fun h => by unfold inR at h; omega)
      dsimp only
      rw [hv]
      exact ⟨rfl, rfl, ⟨rfl, ⟨rfl, rfl⟩, trivial⟩, rfl, trivial⟩
    have h6 : ¬ l[i].2 ≥ n := by simpa using h6
    have hok : inR n l[i] := ⟨⟨by omega, by omega⟩, by omega, by omega⟩
    have hin2 := all_take hlt hin hok
    have ht : l.take (i + 1) = l.take i ++ [l[i]] := List.take_succ_eq_append_getElem hlt
    have hlo : 0 ≤ mnI l[i].1 l[i].2 ∧ mnI l[i].1 l[i].2 < n := by unfold mnI; split <;> omega
    have hU0 : (mnI l[i].1 l[i].2).toNat < U.length := by rw [hU.len]; omega
    obtain ⟨r, hr⟩ : ∃ r, U[(mnI l[i].1 l[i].2).toNat]? = some r := ⟨_, List.getElem?_eq_getElem hU0⟩
    have hrl : r.length ≤ 1000000 := by have := hU.ln r (List.mem_of_getElem? hr); rw [List.length_take] at this; omega
    have hix : (mnI l[i].1 l[i].2).toNat < (rowsI U).length := by rw [rowsI_length]; exact hU0
    refine Pick.by (fun h7 => ?_) (fun h7 => ?_)
    · have h7 : l[i].1 ≠ l[i].2 := by simpa using h7
      refine Idx.by (mnI l[i].1 l[i].2).toNat (by show mnI l[i].1 l[i].2 = _; omega) hix ?_
      refine Pick.T (by simpa using hix) ?_
      refine Look.by _ (rowsI_get hr) ?_
      refine Call.by _ _ (InC_at (mxI l[i].1 l[i].2) hrl) ?_
      refine Pick.by (fun h8 => ?_) (fun h8 => ?_)
      · have h8 : ¬ mxI l[i].1 l[i].2 ∈ r := by have h8 : (!r.elem (mxI l[i].1 l[i].2)) = true := h8; simpa using h8
        refine Idx.by (mnI l[i].1 l[i].2).toNat (by show mnI l[i].1 l[i].2 = _; omega) hix ?_
        refine Pick.T (by simpa using hix) ?_
        refine Look.by _ (rowsI_get hr) ?_
        refine Pick.T (by simp [cut, ints_length]; omega) ?_
        refine Idx.by (mnI l[i].1 l[i].2).toNat (by show mnI l[i].1 l[i].2 = _; omega) hix ?_
        refine Pick.T (by simpa using hix) ?_
        refine Pick.T (by simp) ?_
        refine Pick.T (inI64_of (by omega) (by omega)) ?_
        have hP := hU.put h7 (a := (mnI l[i].1 l[i].2).toNat) (by show mnI l[i].1 l[i].2 = _; omega) hr h8
        refine Next.by (i + 1, U.set (mnI l[i].1 l[i].2).toNat (r ++ [mxI l[i].1 l[i].2])) ⟨by omega, by rw [ht]; exact hP, hin2⟩ (by show l.length - (i + 1) < l.length - i; omega) (by refine Weak.by [(0, some _), (1, some _), (2, some _)] (by ((repeat' first | exact rfl | exact trivial | refine And.intro ?_ ?_) <;> (repeat' first | exact rfl | exact trivial | refine And.intro ?_ ?_)); all_goals ((unfold rowsI; rw [List.map_set, ints_snoc]; rfl))) (by ((repeat' first | exact rfl | exact trivial | refine And.intro ?_ ?_) <;> (repeat' first | exact rfl | exact trivial | refine And.intro ?_ ?_)); all_goals ((unfold rowsI; rw [List.map_set, ints_snoc]; rfl))) (by rfl))
      · have h8 : mxI l[i].1 l[i].2 ∈ r := by have h8 : (!r.elem (mxI l[i].1 l[i].2)) = false := h8; simpa using h8
        refine Pick.T (inI64_of (by omega) (by omega)) ?_
        have hP : UpI n.toNat (l.take i ++ [l[i]]) U := hU.skip (fun r' _ hr' _ => by
          have hr' : U[(mnI l[i].1 l[i].2).toNat]? = some r' := hr'
          rw [hr] at hr'
          injection hr' with e
          rw [← e]; exact h8) hlo.1
        refine Next.by (i + 1, U) ⟨by omega, by rw [ht]; exact hP, hin2⟩ (by show l.length - (i + 1) < l.length - i; omega) (by refine Weak.by [(0, some _), (1, some _), (2, some _)] (by ((repeat' first | exact rfl | exact trivial | refine And.intro ?_ ?_) <;> (repeat' first | exact rfl | exact trivial | refine And.intro ?_ ?_))) (by ((repeat' first | exact rfl | exact trivial | refine And.intro ?_ ?_) <;> (repeat' first | exact rfl | exact trivial | refine And.intro ?_ ?_))) (by rfl))
    · have h7 : l[i].1 = l[i].2 := by simpa using h7
      refine Pick.T (inI64_of (by omega) (by omega)) ?_
      have hP : UpI n.toNat (l.take i ++ [l[i]]) U := hU.skip (fun r' h => absurd h7 h) hlo.1
      refine Next.by (i + 1, U) ⟨by omega, by rw [ht]; exact hP, hin2⟩ (by show l.length - (i + 1) < l.length - i; omega) (by refine Weak.by [(0, some _), (1, some _), (2, some _)] (by ((repeat' first | exact rfl | exact trivial | refine And.intro ?_ ?_) <;> (repeat' first | exact rfl | exact trivial | refine And.intro ?_ ?_))) (by ((repeat' first | exact rfl | exact trivial | refine And.intro ?_ ?_) <;> (repeat' first | exact rfl | exact trivial | refine And.intro ?_ ?_))) (by rfl))
  have hge : l.length ≤ i := by simpa [edges_length] using hc
  rw [List.take_of_length_le hge] at hU hin
  have hUr : ∀ r ∈ U, r.length ≤ 1000000 := fun r hr => by have := hU.ln r hr; omega
  have hnorm : accE U n.toNat = normE l := accE_norm hU (fun p hp => by have := hin p hp; unfold inR at this; omega)
  have hval : normF n l = if (normE l).length > 4000 then ((0, []), 5) else ((n, normE l), 0) := by
    unfold normF
    rw [if_neg h1, if_neg h2, if_pos hin]
  refine LoopP.intro (α := Nat) (fun k => k ≤ n.toNat) (fun k => n.toNat - k) (fun k => [(0, .s (.i .i64 n)), (4, .ptr 0 0), (6, .sl 1 none none), (11, .ptr 2 0), (12, .s (.i .i64 k))])
    (fun k => [(0, some (.blk [.s (.i .i64 0), .nils])), (1, some (.nest true 1 (rowsI U) [] [])), (2, some (.blk [.s (.i .i64 n), .sl 3 none none])), (3, some (.flat true 2 (edges (accE U k))))]) 4 0 (by omega) (by refine Weak.by [(0, some _), (1, some _), (2, some _), (3, none)] (by ((repeat' first | exact rfl | exact trivial | refine And.intro ?_ ?_) <;> (repeat' first | exact rfl | exact trivial | refine And.intro ?_ ?_))) (by ((repeat' first | exact rfl | exact trivial | refine And.intro ?_ ?_) <;> (repeat' first | exact rfl | exact trivial | refine And.intro ?_ ?_))) (by rfl)) ?_
  rintro k hk
  have hal := accE_length hUr k
  refine Pick.by (fun hd => ?_) (fun hd => ?_)
  · have hkn : k < n.toNat := by simp at hd; omega
    have hkU : k < U.length := by rw [hU.len]; exact hkn
    have hr : U[k]? = some U[k] := List.getElem?_eq_getElem hkU
    have hrl := hUr _ (List.getElem_mem hkU)
    have hrow : rowE U k = (sortI U[k]).map fun b => ((k : Int), b) := by unfold rowE; rw [List.getD_eq_getElem?_getD, hr]; rfl
    refine Idx.by k rfl (by rw [rowsI_length]; exact hkU) ?_
    refine Pick.T (by simpa [rowsI_length] using hkU) ?_
    refine Look.by _ (rowsI_get hr) ?_
    refine Call.by _ _ (SortedC_at hrl) ?_
    refine LoopP.intro (α := Nat) (fun j => j ≤ (sortI U[k]).length) (fun j => (sortI U[k]).length - j) (fun j => [(0, .s (.i .i64 n)), (4, .ptr 0 0), (6, .sl 1 none none), (11, .ptr 2 0), (12, .s (.i .i64 k)), (13, .sl 4 none none), (14, .s (.i .i64 j))])
      (fun j => [(0, some (.blk [.s (.i .i64 0), .nils])), (1, some (.nest true 1 (rowsI U) [] [])), (2, some (.blk [.s (.i .i64 n), .sl 3 none none])), (3, some (.flat true 2 (edges (accE U k ++ (rowE U k).take j)))), (4, some (.flat true 1 (ints (sortI U[k]))))]) 5 0 (by omega) (by refine Weak.by [(0, some _), (1, some _), (2, some _), (3, some _), (4, some _)] (by ((repeat' first | exact rfl | exact trivial | refine And.intro ?_ ?_) <;> (repeat' first | exact rfl | exact trivial | refine And.intro ?_ ?_)); all_goals (simp)) (by ((repeat' first | exact rfl | exact trivial | refine And.intro ?_ ?_) <;> (repeat' first | exact rfl | exact trivial | refine And.intro ?_ ?_)); all_goals (simp)) (by rfl)) ?_
    rintro j hj
    have hsl : (sortI U[k]).length ≤ 1000000 := by rw [sortI_length]; exact hrl
    refine Pick.by (fun he => ?_) (fun he => ?_)
    · have hjl : j < (sortI U[k]).length := by simpa [ints_length] using he
      have hjr : j < (rowE U k).length := by rw [hrow, List.length_map]; exact hjl
      refine Idx.by j rfl (by rw [ints_length]; exact hjl) ?_
      refine Look.by _ (ints_get (List.getElem?_eq_getElem hjl)) ?_
      refine Pick.T (by simp [cut, edges_length]; omega) ?_
      refine Seg.by (by kernel_rfl) ?_
      refine Pick.T (inI64_of (by omega) (by omega)) ?_
      refine Next.by (j + 1) (by omega) (by omega) (by refine Weak.by [(0, some _), (1, some _), (2, some _), (3, some _), (4, some _)] (by ((repeat' first | exact rfl | exact trivial | refine And.intro ?_ ?_) <;> (repeat' first | exact rfl | exact trivial | refine And.intro ?_ ?_)); all_goals ((rw [List.take_succ_eq_append_getElem hjr, ← List.append_assoc, edges_snoc]; simp [hrow]; rfl))) (by ((repeat' first | exact rfl | exact trivial | refine And.intro ?_ ?_) <;> (repeat' first | exact rfl | exact trivial | refine And.intro ?_ ?_)); all_goals ((rw [List.take_succ_eq_append_getElem hjr, ← List.append_assoc, edges_snoc]; simp [hrow]; rfl))) (by rfl))
    · have hge2 : (sortI U[k]).length ≤ j := by simpa [ints_length] using he
      have ht : (rowE U k).take j = rowE U k := List.take_of_length_le (by rw [hrow, List.length_map]; exact hge2)
      rw [ht, ← accE_succ]
      refine Pick.T (inI64_of (by omega) (by omega)) ?_
      refine Next.by (k + 1) (by omega) (by omega) (by refine Weak.by [(0, some _), (1, some _), (2, some _), (3, some _)] (by ((repeat' first | exact rfl | exact trivial | refine And.intro ?_ ?_) <;> (repeat' first | exact rfl | exact trivial | refine And.intro ?_ ?_))) (by ((repeat' first | exact rfl | exact trivial | refine And.intro ?_ ?_) <;> (repeat' first | exact rfl | exact trivial | refine And.intro ?_ ?_))) (by rfl))
  have hkn : k = n.toNat := by simp at hd; omega
  subst hkn
  rw [hnorm]
  refine Pick.by (fun he => ?_) (fun he => ?_)
  · have he : (normE l).length > 4000 := by simp [edges_length] at he; omega
    have hv : normF n l = ((0, []), 5) := by rw [hval, if_pos he]
    dsimp only
    rw [hv]
    exact ⟨rfl, rfl, ⟨rfl, ⟨rfl, rfl⟩, trivial⟩, rfl, trivial⟩
  · have he : ¬ (normE l).length > 4000 := by simp [edges_length] at he; omega
    have hv : normF n l = ((n, normE l), 0) := by rw [hval, if_neg he]
    dsimp only
    rw [hv]
    exact ⟨rfl, rfl, ⟨rfl, ⟨rfl, rfl⟩, trivial⟩, rfl, trivial⟩
end Go.Sh

set_option linter.unusedVariables false
set_option linter.unusedSimpArgs false
namespace Go.Sh
open Go.Proofs
/-! ### carcanetref03.Any, Of -/
def andI (a b : Int) : Int := IntKind.wrap .i64 ((BitVec.ofInt (IntKind.bits .i64) a &&& BitVec.ofInt (IntKind.bits .i64) b).toNat : Int)
def low (a : Int) : Int := andI a 65535
theorem low_range (a : Int) : 0 ≤ low a ∧ low a ≤ 65535 := by
  unfold low andI
  have h : (BitVec.ofInt (IntKind.bits .i64) a &&& BitVec.ofInt (IntKind.bits .i64) 65535).toNat ≤ 65535 := by
    rw [BitVec.toNat_and]
    refine Nat.le_trans Nat.and_le_right ?_
    decide
  generalize (BitVec.ofInt (IntKind.bits .i64) a &&& BitVec.ofInt (IntKind.bits .i64) 65535).toNat = m at h
  have : IntKind.wrap .i64 (m : Int) = m := by
    have e : (m : Int) % 2 ^ 64 = m := by omega
    simp only [IntKind.wrap, IntKind.bits, IntKind.signed]
    refine (if_neg fun h => ?_).trans e
    simp at h
    omega
  rw [this]
  omega
def anyN (n most : Int) : Int := (low n).tmod (most + 1)
def anyP (m : Int) (p : Ed) : Ed := ((low p.1).tmod m, (low p.2).tmod m)
def anyL (m : Int) (l : List Ed) : List Ed := if m > 0 then (l.take 300).map (anyP m) else []
def anyE (n : Int) (l : List Ed) (most : Int) : List Ed := normE (anyL (anyN n most) l)
theorem tmod_range {a m : Int} (h : 0 ≤ a) (hm : 0 < m) : 0 ≤ a.tmod m ∧ a.tmod m < m := ⟨Int.tmod_nonneg m h, Int.tmod_lt_of_pos a hm⟩
theorem anyN_range {n most : Int} (h : 0 ≤ most) : 0 ≤ anyN n most ∧ anyN n most ≤ most := by
  have := tmod_range (low_range n).1 (show 0 < most + 1 by omega)
  unfold anyN
  omega
theorem anyL_inR (m : Int) (l : List Ed) : ∀ p ∈ anyL m l, inR m p := by
  unfold anyL
  split
  · rename_i h
    intro p hp
    obtain ⟨q, _, rfl⟩ := List.mem_map.1 hp
    exact ⟨tmod_range (low_range q.1).1 h, tmod_range (low_range q.2).1 h⟩
  · simp
theorem anyL_length (m : Int) (l : List Ed) : (anyL m l).length ≤ 300 := by
  unfold anyL
  split
  · simp; omega
  · simp
theorem any_norm {n most : Int} {l : List Ed} (h : 0 ≤ most) (h2 : most ≤ 1000) : normF (anyN n most) (anyL (anyN n most) l) = ((anyN n most, anyE n l most), 0) := by
  have hr := anyN_range (n := n) h
  have hl := Nat.le_trans (normE_length (anyL (anyN n most) l)) (anyL_length (anyN n most) l)
  unfold normF
  rw [if_neg (by omega), if_neg (by omega), if_pos (anyL_inR _ _), if_neg (by omega)]
  rfl
theorem any_right {n most : Int} {l : List Ed} (h : 0 ≤ most) (h2 : most ≤ 1000) : RightP (anyN n most) (anyE n l most) := by
  have hr := anyN_range (n := n) h
  have hl := Nat.le_trans (normE_length (anyL (anyN n most) l)) (anyL_length (anyN n most) l)
  exact ⟨hr.1, by omega, by unfold anyE; omega, normE_ok (anyL_inR _ _), normE_sorted _⟩
noncomputable def AnyC : Con := conP 3 (fun a : (Int × List Ed) × Int => 0 ≤ a.2 ∧ a.2 ≤ 1000) (fun a => [.one (.s (.i .i64 a.1.1)), .one (.flat false 2 (edges a.1.2)), .one (.s (.i .i64 a.2))]) (fun a => grO (anyN a.1.1 a.2) (anyE a.1.1 a.1.2 a.2))
theorem AnyC_at (n : Int) (l : List Ed) {most : Int} (h : 0 ≤ most ∧ most ≤ 1000) : AnyC.F [.one (.s (.i .i64 n)), .one (.flat false 2 (edges l)), .one (.s (.i .i64 most))] = some (grO (anyN n most) (anyE n l most), []) :=
  conP_at (a := ((n, l), most)) (fun a b _ _ h => by
    obtain ⟨⟨n, l⟩, m⟩ := a
    obtain ⟨⟨n', l'⟩, m'⟩ := b
    simp at h
    obtain ⟨h1, h2, h3⟩ := h
    subst h1; subst h3
    rw [edges_inj h2]) h
set_option maxRecDepth 20000 in
set_option maxHeartbeats 1000000 in
theorem Any_ok : SoundC Try.prog T 38 AnyC := by
  refine sound_con (X := { Γ := [(68, NormC)], T := T, nt := 57 }) cr_none hmix hT (sound_cons Norm3_ok sound_nil) Try.func38 (by rfl) (by rfl) (by rfl) (by rfl) 3 ?_
  rintro ⟨⟨n, l⟩, most⟩ ⟨hm0, hm1⟩
  dsimp only at hm0 hm1
  dsimp only
  refine ⟨⟨Nat.le_of_ble_eq_true rfl, Nat.le_of_ble_eq_true rfl⟩, ?_⟩
  have hr := anyN_range (n := n) hm0
  refine Pick.T (inI64_of (by omega) (by omega)) ?_
  refine Pick.F (by simp; omega) ?_
  obtain ⟨m, hm⟩ : ∃ m, anyN n most = m := ⟨_, rfl⟩
  have hE : anyE n l most = normE (anyL m l) := by unfold anyE; rw [hm]
  have hnf := any_norm (n := n) (l := l) hm0 hm1
  rw [hm] at hr hnf
  refine LoopP.intro (α := Nat) (fun k => k ≤ l.length ∧ k ≤ 300 ∧ (0 < k → 0 < m)) (fun k => l.length - k) (fun k => [(0, .s (.i .i64 (m))), (1, .sl 1 none none), (6, .ptr 0 0), (7, .sl 2 none none), (8, .s (.i .i64 k))])
    (fun k => [(0, some (.blk [.s (.i .i64 0), .nils])), (1, some (.flat false 2 (edges l))), (2, some (.flat true 2 (edges ((l.take k).map (anyP (m))))))]) 3 0 ⟨by omega, by omega, by omega⟩ (by refine Weak.by [(0, some _), (1, some _), (2, none)] (by ((repeat' first | exact rfl | exact trivial | refine And.intro ?_ ?_) <;> (repeat' first | exact rfl | exact trivial | refine And.intro ?_ ?_)); all_goals (exact sc_eq hm.symm)) (by ((repeat' first | exact rfl | exact trivial | refine And.intro ?_ ?_) <;> (repeat' first | exact rfl | exact trivial | refine And.intro ?_ ?_)); all_goals (exact sc_eq hm.symm)) (by rfl)) ?_
  rintro k ⟨hk, hk3, hk0⟩
  have hlen : (edges ((l.take k).map (anyP (m)))).length = k := by rw [edges_length]; simp; omega
  have fin : k = l.length ∨ k = 300 ∨ m ≤ 0 → (l.take k).map (anyP (m)) = anyL (m) l := by
    intro h
    unfold anyL
    split
    · rename_i hp
      rcases h with h | h | h
      · rw [List.take_of_length_le (by omega : l.length ≤ k), List.take_of_length_le (by omega : l.length ≤ 300)]
      · rw [h]
      · omega
    · have : k = 0 := by omega
      subst this; simp
  have endd : (l.take k).map (anyP (m)) = anyL (m) l → NormC.F [.one (.s (.i .i64 (m))), .one (.flat false 2 (edges ((l.take k).map (anyP (m)))))] = some (.tup [grO (m) (anyE n l most), .one (.s (.i .i64 0))], []) := by
    intro h
    have := NormC_at (n := m) (l := (l.take k).map (anyP (m))) (by rw [← edges_length, hlen]; omega)
    rw [this, h, hnf]
  refine Pick.by (fun hc => ?_) (fun hc => ?_)
  · have hlt : k < l.length := by simpa [edges_length] using hc
    refine Pick.by (fun hd => ?_) (fun hd => ?_)
    · have hd : k < 300 := by simp at hd; omega
      refine Pick.by (fun he => ?_) (fun he => ?_)
      · have he : 0 < m := by simpa using he
        refine Idx.by k rfl (by rw [edges_length]; exact hlt) ?_
        refine Look.by _ (edges_get (List.getElem?_eq_getElem hlt)) ?_
        refine Pick.F (by simp; omega) ?_
        refine Idx.by k rfl (by rw [edges_length]; exact hlt) ?_
        refine Look.by _ (edges_get (List.getElem?_eq_getElem hlt)) ?_
        refine Pick.F (by simp; omega) ?_
        refine Pick.T (by rw [cut, hlen]; simp; omega) ?_
        refine Seg.by (by kernel_rfl) ?_
        refine Pick.T (inI64_of (by omega) (by omega)) ?_
        refine Next.by (k + 1) ⟨by omega, by omega, fun _ => he⟩ (by omega) (by refine Weak.by [(0, some _), (1, some _), (2, some _)] (by ((repeat' first | exact rfl | exact trivial | refine And.intro ?_ ?_) <;> (repeat' first | exact rfl | exact trivial | refine And.intro ?_ ?_)); all_goals ((rw [take_snoc _ hlt, edges_snoc]; rfl))) (by ((repeat' first | exact rfl | exact trivial | refine And.intro ?_ ?_) <;> (repeat' first | exact rfl | exact trivial | refine And.intro ?_ ?_)); all_goals ((rw [take_snoc _ hlt, edges_snoc]; rfl))) (by rfl))
      · have he : m ≤ 0 := by simpa using he
        refine Call.by _ _ (endd (fin (.inr (.inr he)))) ?_
        exact ⟨rfl, sc_eq hm.symm, ⟨rfl, rfl⟩, trivial⟩
    · have hd : k = 300 := by simp at hd; omega
      refine Call.by _ _ (endd (fin (.inr (.inl hd)))) ?_
      exact ⟨rfl, sc_eq hm.symm, ⟨rfl, rfl⟩, trivial⟩
  · have hge : l.length ≤ k := by simpa [edges_length] using hc
    refine Call.by _ _ (endd (fin (.inl (by omega)))) ?_
    exact ⟨rfl, sc_eq hm.symm, ⟨rfl, rfl⟩, trivial⟩
noncomputable def OfC : Con := conP 2 (fun a : (Int × List Ed) × Int => 0 ≤ a.2 ∧ a.2 ≤ 1000) (fun a => [grV a.1.1 a.1.2, .one (.s (.i .i64 a.2))]) (fun a => grO (anyN a.1.1 a.2) (anyE a.1.1 a.1.2 a.2))
theorem OfC_at (n : Int) (l : List Ed) {most : Int} (h : 0 ≤ most ∧ most ≤ 1000) : OfC.F [grV n l, .one (.s (.i .i64 most))] = some (grO (anyN n most) (anyE n l most), []) :=
  conP_at (a := ((n, l), most)) (fun a b _ _ h => by
    obtain ⟨⟨n, l⟩, m⟩ := a
    obtain ⟨⟨n', l'⟩, m'⟩ := b
    simp at h
    obtain ⟨h1, h3⟩ := h
    obtain ⟨rfl, rfl⟩ := grV_inj h1
    subst h3
    rfl) h
theorem Of_ok : SoundC Try.prog T 16 OfC := by
  refine sound_con (X := { Γ := [(38, AnyC)], T := T, nt := 11 }) cr_none hmix hT (sound_cons Any_ok sound_nil) Try.func16 (by rfl) (by rfl) (by rfl) (by rfl) 3 ?_
  rintro ⟨⟨n, l⟩, most⟩ hm
  dsimp only at hm
  refine ⟨⟨Nat.le_of_ble_eq_true rfl, Nat.le_of_ble_eq_true rfl⟩, ?_⟩
  refine Call.by _ _ (AnyC_at n l hm) ?_
  exact ⟨rfl, rfl, ⟨rfl, rfl⟩, trivial⟩
/-! ### SameEdges, SameGraph -/
/-! ### Near -/
def nearX (v : Int) (x : Ed) : List Int := (if x.1 = v then [x.2] else []) ++ (if x.2 = v then [x.1] else [])
def nearL (E : List Ed) (v : Int) : List Int := E.flatMap (nearX v)
theorem mem_nearL {E : List Ed} {v w : Int} : w ∈ nearL E v ↔ adjE E v w := by
  unfold nearL nearX adjE
  rw [List.mem_flatMap]
  constructor
  · rintro ⟨⟨a, b⟩, hx, h⟩
    rw [List.mem_append] at h
    dsimp only at h
    rcases h with h | h
    · split at h
      · rename_i e; subst e; simp at h; subst h; exact .inl hx
      · simp at h
    · split at h
      · rename_i e; subst e; simp at h; subst h; exact .inr hx
      · simp at h
  · rintro (h | h)
    · exact ⟨_, h, by simp⟩
    · exact ⟨_, h, by simp⟩
theorem nearL_length (E : List Ed) (v : Int) : (nearL E v).length ≤ 2 * E.length := by
  induction E with
  | nil => simp [nearL]
  | cons x E ih =>
    have : nearL (x :: E) v = nearX v x ++ nearL E v := by simp [nearL]
    rw [this, List.length_append, List.length_cons]
    have : (nearX v x).length ≤ 2 := by unfold nearX; split <;> split <;> simp
    omega
theorem nearL_snoc (E : List Ed) (x : Ed) (v : Int) : nearL (E ++ [x]) v = nearL E v ++ nearX v x := by simp [nearL]
end Go.Sh

set_option linter.unusedVariables false
set_option linter.unusedSimpArgs false
namespace Go.Proofs
open Go.RowKit Go.Shelf

attribute [local go_sem] Oper.semAt_some
/-- the cells of edges -/
def Try.Eds (S : Nat → Prop) (W : World) (sv : Value) (E : List (Int × Int)) : Prop :=
  (E = [] ∧ ∃ a cap, sv = .slice a 0 cap) ∨ ∃ ab ao cap, sv = .slice (some ⟨ab, ao, none⟩) E.length cap ∧ S ab ∧ ∀ j x, E[j]? = some x → W.cell? ⟨ab, ao + j * 2, none⟩ = some (.int .i64 x.1) ∧ W.cell? ⟨ab, ao + j * 2 + 1, none⟩ = some (.int .i64 x.2)
/-- some blocks lie as they lay -/
structure Try.Kept (S : Nat → Prop) (W W' : World) : Prop where
  size : W.heap.size ≤ W'.heap.size
  block : ∀ k, S k → W'.heap[k]? = W.heap[k]?
theorem Try.Kept.refl (S : Nat → Prop) (W : World) : Try.Kept S W W := ⟨Nat.le_refl _, fun _ _ => rfl⟩
theorem Try.Kept.trans {S : Nat → Prop} {A B C : World} (h : Try.Kept S A B) (k : Try.Kept S B C) : Try.Kept S A C := ⟨Nat.le_trans h.size k.size, fun b hb => (k.block b hb).trans (h.block b hb)⟩
theorem Try.Kept.cell {S : Nat → Prop} {W W' : World} (h : Try.Kept S W W') {p : Addr} (hp : S p.block) : W'.cell? p = W.cell? p := World.cell?_of_block (w := W) (h.block p.block hp)
theorem Try.Kept.alloc {S : Nat → Prop} {A W : World} (h : Try.Kept S A W) (hS : ∀ k, S k → k < A.heap.size) (o : Obj) : Try.Kept S A (W.alloc o) := ⟨Nat.le_trans h.size (by simp), fun k hk => (Below.heap_alloc W o k (Nat.lt_of_lt_of_le (hS k hk) h.size)).trans (h.block k hk)⟩
theorem Try.Kept.of {n : Nat} {S : Nat → Prop} {W W' : World} (h : Below n W W') (hS : ∀ k, S k → k < n) : Try.Kept S W W' := ⟨h.size, fun k hk => h.block k (hS k hk)⟩
/-- some blocks, and all blocks of a type, lie as they lay -/
def Try.Kp (S : Nat → Prop) (t : Nat) (W W' : World) : Prop := Try.Kept S W W' ∧ ∀ (k : Nat) (c : Array Value) (fr : Nat × Nat), W.heap[k]? = some (Obj.cells c t fr) → W'.heap[k]? = some (Obj.cells c t fr)
theorem Try.kp_t {S : Nat → Prop} {t : Nat} {A B C : World} (h : Try.Kp S t A B) (k : Try.Kp S t B C) : Try.Kp S t A C := ⟨h.1.trans k.1, fun b c fr hb => k.2 b c fr (h.2 b c fr hb)⟩
theorem Try.kp_b {S : Nat → Prop} {t : Nat} {w : World} (hS : ∀ k, S k → k < w.heap.size) (W : World) (l : Nat) (o o' : Obj) (hl : w.heap.size ≤ l) (h : W.heap[l]? = some o) (hc : o.isCells = false) (hw : o.isWalk = false) : Try.Kp S t W (W.putObj l o') :=
  ⟨⟨(grownBy_putObj' W l o').size, fun k hk => by
    by_cases hlt : k < W.heap.size
    · exact (grownBy_putObj' W l o').block k hlt (fun e2 => by injection e2 with e2; have := hS k hk; omega)
    · have h1 := hS k hk
      have h2 := (Array.getElem?_eq_some_iff.1 h).1
      omega⟩, fun k c fr hk => by
    by_cases e : k = l
    · subst e; rw [h] at hk; injection hk with hk; subst hk; cases hc
    · exact ((grownBy_putObj' W l o').block k (Array.getElem?_eq_some_iff.1 hk).1 (fun e2 => e (by cases e2; rfl))).trans hk⟩
open Go.Sh in
theorem Try.nearL_one {n v xa xb : Int} (h : okE n (xa, xb)) (l : List Ed) : Go.Sh.nearL (l ++ [(xa, xb)]) v = Go.Sh.nearL l v ++ (if xb = v then [xa] else if xa = v then [xb] else []) := by
  unfold Go.Sh.okE at h
  rw [Go.Sh.nearL_snoc]
  unfold Go.Sh.nearX
  dsimp only at h ⊢
  by_cases h2 : xb = v
  · rw [if_pos h2, if_neg (by omega), if_pos h2]; rfl
  · rw [if_neg h2, if_neg h2]
    by_cases h3 : xa = v
    · rw [if_pos h3]; rfl
    · rw [if_neg h3]; rfl
set_option maxRecDepth 100000 in
set_option maxHeartbeats 2000000 in
theorem Try.near1_in (F : Fence) (n : Nat) (h7 : F.fn 94) (hro : F.round = none) (hn : 1 ≤ n) (l Bg Bv cap : Nat) (S : Nat → Prop) (ab ao : Nat) (v m : Int) (E : List (Int × Int)) (hE : ∀ p ∈ E, Go.Sh.okE m p) (hEl : E.length ≤ 4000) (hb : S ab) (hBg0 : S Bg) (hBv0 : S Bv) (J Jx : List Int → World → Prop)
    (hY : ∀ pre x W, J pre W → pre.length < E.length → YieldAt F (n - 1) Try.prog l #[.int .i64 x] W fun e W' =>
      (e = .returned (.bool true) ∧ J (pre ++ [x]) W' ∧ Try.Kp S 60 W W') ∨ (e = .returned (.bool false) ∧ Jx (pre ++ [x]) W'))
    (W : World) (hJ : AbidesFrom W.heap.size J) (hS : ∀ k, S k → k < W.heap.size) (hBg : W.cell? ⟨Bg, 1, none⟩ = some (.slice (some ⟨ab, ao, none⟩) E.length cap)) (hBv : W.cell? ⟨Bv, 0, none⟩ = some (.int .i64 v)) (hc : ∀ j x, E[j]? = some x → W.cell? ⟨ab, ao + j * 2, none⟩ = some (.int .i64 x.1) ∧ W.cell? ⟨ab, ao + j * 2 + 1, none⟩ = some (.int .i64 x.2)) (h0 : J [] W) :
    CallsIn F n Try.prog 94 #[.func (.yield l) #[] #[], .pointer (some ⟨Bg, 0, none⟩), .pointer (some ⟨Bv, 0, none⟩)] W fun e W' => (∃ v, e = .returned v) ∧
      ((∃ k, k ≤ E.length ∧ (k = E.length ∨ ∃ x, E[k]? = some x ∧ x.1 > v) ∧ J (Go.Sh.nearL (E.take k) v) W') ∨ (∃ pre, (∃ k, k ≤ E.length ∧ pre = Go.Sh.nearL (E.take k) v) ∧ Jx pre W')) := by
  refine callsIn_of_wp Try.func94 rfl h7 ?_ hro
  simp only [Try.ntmps94, List.size_toArray, List.length_cons, List.length_nil, Nat.reduceAdd, Nat.reduceSub, Array.replicate_succ, Array.replicate_zero, List.push_toArray, List.append_toArray, List.nil_append, List.cons_append]
  gi_wp2
  gi_loopw [9] (fun i wr => ∃ k : Nat, k ≤ E.length ∧ i = .int .i64 k ∧ J (Go.Sh.nearL (E.take k) v) wr ∧ (Go.Sh.nearL (E.take k) v).length ≤ k ∧ Try.Kept S W wr)
    (fun i _ => E.length - (intOf i).toNat)
  case atStart => exact ⟨0, Nat.zero_le _, rfl, h0, by simp [Go.Sh.nearL], Try.Kept.refl _ _⟩
  case round =>
    obtain ⟨k, hk, rfl, hJs, hnl, hnx⟩ := hrel
    by_cases hlt : k < E.length
    · obtain ⟨x, hx⟩ : ∃ x, E[k]? = some x := ⟨_, List.getElem?_eq_getElem hlt⟩
      have hxm : x ∈ E := List.mem_of_getElem? hx
      have hok := hE x hxm
      have hcx1 : wr.cell? ⟨ab, ao + k * 2, none⟩ = some (.int .i64 x.1) := (hnx.cell (p := ⟨ab, ao + k * 2, none⟩) hb).trans (hc k x hx).1
      have hcx2 : wr.cell? ⟨ab, ao + k * 2 + 1, none⟩ = some (.int .i64 x.2) := (hnx.cell (p := ⟨ab, ao + k * 2 + 1, none⟩) hb).trans (hc k x hx).2
      have hv2 : wr.cell? ⟨Bv, 0, none⟩ = some (.int .i64 v) := (hnx.cell (p := ⟨Bv, 0, none⟩) hBv0).trans hBv
      obtain ⟨xa, xb⟩ := x
      have hab : xa < xb := hok.2.1
      have htk : E.take (k + 1) = E.take k ++ [(xa, xb)] := by
        rw [List.take_succ_eq_append_getElem hlt]
        rw [List.getElem?_eq_getElem hlt] at hx
        injection hx with hx
        rw [hx]
      have hst := Try.nearL_one (v := v) hok (E.take k)
      rw [← htk] at hst
      dsimp only at hcx1 hcx2
      have hv3 : (wr.alloc (.cells #[.int .i64 xa, .int .i64 xb] 60)).cell? ⟨Bv, 0, none⟩ = some (.int .i64 v) := ((hnx.alloc hS _).cell (p := ⟨Bv, 0, none⟩) hBv0).trans hBv
      have hJ3 : J (Go.Sh.nearL (E.take k) v) (wr.alloc (.cells #[.int .i64 xa, .int .i64 xb] 60)) := hJ _ _ _ none hJs (World.grownBy_alloc _ _ _) (fun r e => by cases e)
      have hnx3 : Try.Kept S W (wr.alloc (.cells #[.int .i64 xa, .int .i64 xb] 60)) := hnx.alloc hS _
      by_cases h1 : v < xa
      · gi_wp2
        refine bodyPost_ret (results_none rfl _ _ _) rfl ?_
        exact ⟨⟨_, rfl⟩, .inl ⟨k, by omega, .inr ⟨_, hx, h1⟩, hJ3⟩⟩
      · by_cases h2 : xb = v
        · rw [if_pos h2] at hst
          have h3 : ¬ xa = v := by omega
          obtain ⟨fn, tmps, assign, body, hy, hR⟩ := hY _ xa _ hJ3 (by omega)
          rw [← hst] at hR
          subst h2
          gi_wp2
          refine hR.mono ?_
          rintro e W3 (⟨rfl, hJ4, hk4⟩ | ⟨rfl, hJx4⟩)
          · have hbx : W3.heap[wr.heap.size]? = some (.cells #[.int .i64 xa, .int .i64 xb] 60) := hk4.2 _ _ _ (World.alloc_heap_new wr _)
            have hb0 : W3.cell? ⟨wr.heap.size, 0, none⟩ = some (.int .i64 xa) := by simp [World.cell?, hbx]
            have hv4 : W3.cell? ⟨Bv, 0, none⟩ = some (.int .i64 xb) := (hk4.1.cell (p := ⟨Bv, 0, none⟩) hBv0).trans hv3
            gi_wp2
            refine ⟨fun _ h => (by cases h), ?_⟩
            gi_wp2
            go_roundw
            case rel => exact ⟨k + 1, by omega, by simp, hJ4, by rw [hst, List.length_append]; simp; omega, hnx3.trans hk4.1⟩
            case measure => simp [intOf]; omega
          · gi_wp2
            refine bodyPost_ret (results_none rfl _ _ _) rfl ?_
            exact ⟨⟨_, rfl⟩, .inr ⟨_, ⟨k + 1, by omega, rfl⟩, hJx4⟩⟩
        · rw [if_neg h2] at hst
          by_cases h3 : xa = v
          · rw [if_pos h3] at hst
            obtain ⟨fn, tmps, assign, body, hy, hR⟩ := hY _ xb _ hJ3 (by omega)
            rw [← hst] at hR
            subst h3
            have hbf : (xb == xa) = false := beq_eq_false_iff_ne.2 h2
            gi_wp2
            refine ⟨fun _ h => (by cases h), ?_⟩
            gi_wp2
            refine hR.mono ?_
            rintro e W3 (⟨rfl, hJ4, hk4⟩ | ⟨rfl, hJx4⟩)
            · gi_wp2
              go_roundw
              case rel => exact ⟨k + 1, by omega, by simp, hJ4, by rw [hst, List.length_append]; simp; omega, hnx3.trans hk4.1⟩
              case measure => simp [intOf]; omega
            · gi_wp2
              refine bodyPost_ret (results_none rfl _ _ _) rfl ?_
              exact ⟨⟨_, rfl⟩, .inr ⟨_, ⟨k + 1, by omega, rfl⟩, hJx4⟩⟩
          · rw [if_neg h3, List.append_nil] at hst
            have hbf : (xb == v) = false := beq_eq_false_iff_ne.2 h2
            have hbg : (xa == v) = false := beq_eq_false_iff_ne.2 h3
            gi_wp2
            refine ⟨fun _ h => (by cases h), ?_⟩
            gi_wp2
            go_roundw
            case rel => exact ⟨k + 1, by omega, by simp, by rw [hst]; exact hJ3, by rw [hst]; omega, hnx3⟩
            case measure => simp [intOf]; omega
    · obtain rfl : k = E.length := by omega
      gi_wp2
      go_end0
      exact ⟨⟨_, rfl⟩, .inl ⟨_, Nat.le_refl _, .inl rfl, hJs⟩⟩

open Go.Sh in
/-- from where a vertex is passed on, it has no neighbours more -/
theorem Try.near_rest {n v : Int} {E : List Ed} (hE : ∀ p ∈ E, okE n p) (hs : E.Pairwise ltE) {k : Nat} (hk : k = E.length ∨ ∃ x, E[k]? = some x ∧ x.1 > v) : Go.Sh.nearL (E.take k) v = Go.Sh.nearL E v := by
  rcases hk with rfl | ⟨x, hx, hv⟩
  · rw [List.take_length]
  · have h2 : Go.Sh.nearL (E.drop k) v = [] := by
      unfold Go.Sh.nearL
      rw [List.flatMap_eq_nil_iff]
      intro y hy
      have hy1 : x.1 ≤ y.1 := by
        obtain ⟨j, hj⟩ := List.getElem?_of_mem hy
        rw [List.getElem?_drop] at hj
        rcases Nat.eq_zero_or_pos j with h0 | h0
        · subst h0; rw [Nat.add_zero, hx] at hj; injection hj with hj; rw [hj]; exact Int.le_refl _
        · obtain ⟨h1, e1⟩ := List.getElem?_eq_some_iff.1 hx
          obtain ⟨h3, e3⟩ := List.getElem?_eq_some_iff.1 hj
          have := List.pairwise_iff_getElem.1 hs k (k + j) h1 h3 (by omega)
          rw [e1, e3] at this
          unfold ltE at this; omega
      have := (hE y (List.mem_of_mem_drop hy)).2.1
      unfold nearX
      rw [if_neg (by omega), if_neg (by omega)]; rfl
    conv => rhs; rw [← List.take_append_drop k E]
    unfold Go.Sh.nearL at h2 ⊢
    rw [List.flatMap_append, h2, List.append_nil]
end Go.Proofs

namespace Go.Proofs
open Go.RowKit Go.Shelf

attribute [local go_sem] Oper.semAt_some
end Go.Proofs

set_option linter.unusedVariables false
set_option linter.unusedSimpArgs false
namespace Go.Proofs
open Go.RowKit Go.Shelf Go.Sh

attribute [local go_sem] Oper.semAt_some
/-- a graph's value, taken apart -/
theorem Try.gr_of {w : World} {n : Int} {E : List Ed} {u : Value} (h : V1Ok w noLab 0 (grV n E) u) : ∃ A c, u = .agg #[.int .i64 n, .slice A E.length c] ∧ FlatOk w noLab none A c 2 (edges E) := by
  obtain ⟨cs, rfl, hc⟩ := h
  cases hl : cs.toList with
  | nil => rw [hl] at hc; exact hc.elim
  | cons a r =>
    rw [hl] at hc
    cases r with
    | nil => exact hc.2.elim
    | cons b r =>
      cases r with
      | cons _ _ => exact hc.2.2.elim
      | nil =>
        obtain ⟨⟨_, h1⟩, ⟨x, h2, h3⟩, _⟩ := hc
        have h1 : a = .int .i64 n := h1
        rw [edges_length] at h2
        refine ⟨x.A, x.c, ?_, h3⟩
        have : cs = #[a, b] := by cases cs; simp_all
        rw [this, h1, h2]
theorem Try.gr_ok {w : World} {n : Int} {E : List Ed} {A : Option Addr} {c : Nat} (h : FlatOk w noLab none A c 2 (edges E)) : V1Ok w noLab 0 (grV n E) (.agg #[.int .i64 n, .slice A E.length c]) :=
  ⟨_, rfl, ⟨⟨none, 0, fun _ => none, fun _ => 0⟩, rfl⟩, ⟨⟨A, c, fun _ => none, fun _ => 0⟩, by show Value.slice A E.length c = .slice A (edges E).length c; rw [edges_length], h⟩, trivial⟩
theorem Try.flat_below {w w' : World} {A : Option Addr} {c sz : Nat} {rows : Flat} (h : FlatOk w noLab none A c sz rows) (hb : ∀ b : Nat, b < w.heap.size → w'.heap[b]? = w.heap[b]?) : FlatOk w' noLab none A c sz rows :=
  h.mono (by simp) (fun b hlt _ => ⟨rfl, hb b hlt⟩)
theorem Try.eds_of {w : World} {E : List Ed} {A : Option Addr} {c : Nat} (h : FlatOk w noLab none A c 2 (edges E)) : Try.Eds (· < w.heap.size) w (.slice A E.length c) E := by
  cases E with
  | nil => exact .inl ⟨rfl, A, c, rfl⟩
  | cons x E =>
    obtain ⟨a, rfl, _, h0⟩ := h.cell 0 [.i .i64 x.1, .i .i64 x.2] 0 (.i .i64 x.1) rfl rfl
    have h0 : w.cell? a = some (.int .i64 x.1) := h0
    obtain ⟨ab, ao, sp⟩ := a
    have hsp : sp = none := by
      cases sp with
      | none => rfl
      | some s =>
        simp only [World.cell?] at h0
        split at h0 <;> simp at h0
    subst hsp
    refine .inr ⟨ab, ao, c, rfl, ?_, fun j y hj => ?_⟩
    · simp only [World.cell?] at h0
      by_cases hp : ab < w.heap.size
      · exact hp
      · rw [Array.getElem?_eq_none (by omega)] at h0
        simp at h0
    · have hr := edges_get hj
      obtain ⟨b1, e1, _, h1⟩ := h.cell j _ 0 (.i .i64 y.1) hr rfl
      obtain ⟨b2, e2, _, h2⟩ := h.cell j _ 1 (.i .i64 y.2) hr rfl
      injection e1 with e1
      injection e2 with e2
      subst e1
      subst e2
      rw [Addr.add_plain] at h1 h2
      exact ⟨h1, by rw [Nat.add_assoc]; exact h2⟩
theorem Try.right_in (m : Nat) (w : World) (n : Int) (E : List Ed) (A : Option Addr) (c : Nat) (h : FlatOk w noLab none A c 2 (edges E)) :
    CallsIn Fence.wide m Try.prog 39 #[.agg #[.int .i64 n, .slice A E.length c]] w fun e w' => e = .returned (.bool (decide (RightP n E))) ∧ Below w.heap.size w w' := by
  refine callsIn_wide.2 ((RightG_p [grV n E] _ _ (RightC_at n E) w #[_] ⟨Try.gr_ok h, trivial⟩).mono ?_)
  rintro e w' ⟨u, lab, rfl, hf, _, hu⟩
  obtain ⟨x, hu⟩ := hu
  have hu : u = .bool (decide (RightP n E)) := hu
  exact ⟨by rw [hu], hf.os, hf.tape.1, hf.output, hf.size, fun b hb => hf.block b hb (fun h => h)⟩
/-- what the maker of the walk lays -/
def Try.nearW (w : World) (n v : Int) (sv : Value) : World := (w.alloc (.cells #[.int .i64 n, sv] 26)).alloc (.cells #[.int .i64 v] 3)
set_option maxHeartbeats 1000000 in
theorem Try.near_in (F : Fence) (m : Nat) (h5 : F.fn 67) (hro : F.round = none) (n v : Int) (A : Option Addr) (len c : Nat) (w : World) :
    CallsIn F m Try.prog 67 #[.agg #[.int .i64 n, .slice A len c], .int .i64 v] w fun e w' => e = .returned (.func (.func 94) #[] #[.pointer (some ⟨w.heap.size, 0, none⟩), .pointer (some ⟨w.heap.size + 1, 0, none⟩)]) ∧ w' = Try.nearW w n v (.slice A len c) := by
  refine callsIn_of_wp Try.func67 rfl h5 ?_ hro
  simp only [Try.ntmps67, List.size_toArray, List.length_cons, List.length_nil, Nat.reduceAdd, Nat.reduceSub, Array.replicate_succ, Array.replicate_zero, List.push_toArray, List.append_toArray, List.nil_append, List.cons_append]
  gi_wp2
  go_ret
  refine ⟨?_, rfl⟩
  simp
set_option maxRecDepth 100000 in
set_option maxHeartbeats 1000000 in
theorem Try.near1_nil_in (F : Fence) (m : Nat) (h7 : F.fn 94) (hro : F.round = none) (l Bg Bv : Nat) (a : Option Addr) (cap : Nat) (J : List Int → World → Prop) (W : World) (hBg : W.cell? ⟨Bg, 1, none⟩ = some (.slice a 0 cap)) (h0 : J [] W) :
    CallsIn F m Try.prog 94 #[.func (.yield l) #[] #[], .pointer (some ⟨Bg, 0, none⟩), .pointer (some ⟨Bv, 0, none⟩)] W fun e W' => (∃ v, e = .returned v) ∧ J [] W' := by
  refine callsIn_of_wp Try.func94 rfl h7 ?_ hro
  simp only [Try.ntmps94, List.size_toArray, List.length_cons, List.length_nil, Nat.reduceAdd, Nat.reduceSub, Array.replicate_succ, Array.replicate_zero, List.push_toArray, List.append_toArray, List.nil_append, List.cons_append]
  gi_wp2
  gi_loopw [9] (fun i wr => i = .int .i64 0 ∧ J [] wr) (fun _ _ => 0)
  case atStart => exact ⟨rfl, h0⟩
  case round =>
    obtain ⟨rfl, hJs⟩ := hrel
    gi_wp2
    go_end0
    exact ⟨⟨_, rfl⟩, hJs⟩
theorem Try.Eds.kept {S S' : Nat → Prop} {A B : World} (h : Try.Kept S A B) (hS : ∀ k, S' k → S k) {sv : Value} {E : List Ed} : Try.Eds S' A sv E → Try.Eds S B sv E
  | .inl e => .inl e
  | .inr ⟨ab, ao, cap, e, hb, hc⟩ => .inr ⟨ab, ao, cap, e, hS _ hb, fun j x hj => ⟨(h.cell (p := ⟨ab, ao + j * 2, none⟩) (hS _ hb)).trans (hc j x hj).1, (h.cell (p := ⟨ab, ao + j * 2 + 1, none⟩) (hS _ hb)).trans (hc j x hj).2⟩⟩
theorem Try.near_stops (F : Fence) (m : Nat) (h7 : F.fn 94) (hro : F.round = none) (hm : 1 ≤ m) (Bg Bv : Nat) (S : Nat → Prop) (n v : Int) (sv : Value) (E : List Ed) (hR : RightP n E) (w : World) (hBg0 : S Bg) (hBv0 : S Bv) (hS : ∀ k, S k → k < w.heap.size)
    (hBg : w.cell? ⟨Bg, 1, none⟩ = some sv) (hBv : w.cell? ⟨Bv, 0, none⟩ = some (.int .i64 v)) (hI : Try.Eds S w sv E) :
    SeqStopsK F m Try.prog 94 #[.pointer (some ⟨Bg, 0, none⟩), .pointer (some ⟨Bv, 0, none⟩)] (fun x : Int => #[Value.int .i64 x]) (Try.Kp S 60) (fun ys => ys = Go.Sh.nearL E v) (fun pre => pre <+: Go.Sh.nearL E v) E.length w := fun l J Jx W hW hJ _ hY h0 => by
  have hk := Try.Kept.of hW hS
  have hBg' := (hk.cell (p := ⟨Bg, 1, none⟩) hBg0).trans hBg
  have hBv' := (hk.cell (p := ⟨Bv, 0, none⟩) hBv0).trans hBv
  rcases hI.kept hk (fun k h => h) with ⟨rfl, a, cap, rfl⟩ | ⟨ab, ao, cap, rfl, hb, hcs⟩
  · exact (Try.near1_nil_in F m h7 hro l Bg Bv a cap J W hBg' h0).mono fun e W' ⟨he, hj⟩ => ⟨he, .inl ⟨_, rfl, hj⟩⟩
  · refine (Try.near1_in F m h7 hro hm l Bg Bv cap S ab ao v n E hR.2.2.2.1 hR.2.2.1 hb hBg0 hBv0 J Jx hY W hJ (fun k h => Nat.lt_of_lt_of_le (hS k h) hW.size) hBg' hBv' hcs h0).mono ?_
    rintro e W' ⟨he, ⟨k, hk, hk2, hj⟩ | ⟨pre, ⟨k, hk, rfl⟩, hj⟩⟩
    · refine ⟨he, .inl ⟨_, rfl, ?_⟩⟩
      rw [← Try.near_rest hR.2.2.2.1 hR.2.2.2.2 hk2]; exact hj
    · refine ⟨he, .inr ⟨_, ?_, hj⟩⟩
      exact ⟨Go.Sh.nearL (E.drop k) v, by unfold Go.Sh.nearL; rw [← List.flatMap_append, List.take_append_drop]⟩
end Go.Proofs

set_option linter.unusedVariables false
set_option linter.unusedSimpArgs false
namespace Go.Proofs
open Go.RowKit Go.Shelf Go.Sh

attribute [local go_sem] Oper.semAt_some
/-- the world as the walk through the neighbours begins -/
structure Try.NearAt (w W3 W4 : World) (n v : Int) (A : Option Addr) (c : Nat) (E : List Ed) : Prop where
  size : W4.heap.size = W3.heap.size + 2
  below : Below W3.heap.size W3 W4
  cg : W4.cell? ⟨W3.heap.size, 1, none⟩ = some (.slice A E.length c)
  cv : W4.cell? ⟨W3.heap.size + 1, 0, none⟩ = some (.int .i64 v)
theorem Try.near_at (w W3 : World) (n v : Int) (A : Option Addr) (c : Nat) (E : List Ed) : Try.NearAt w W3 (Try.nearW W3 n v (.slice A E.length c)) n v A c E := by
  have s4 : (Try.nearW W3 n v (.slice A E.length c)).heap.size = W3.heap.size + 2 := by simp [Try.nearW]
  have hb : Below W3.heap.size W3 (Try.nearW W3 n v (.slice A E.length c)) := ((Below.refl _ W3).alloc (Nat.le_refl _) _).alloc (by simp) _
  have h1 : (Try.nearW W3 n v (.slice A E.length c)).heap[W3.heap.size]? = some (.cells #[.int .i64 n, .slice A E.length c] 26) := by
    unfold Try.nearW
    rw [Below.heap_alloc _ _ _ (by simp)]; exact World.alloc_heap_new _ _
  have h2 : (Try.nearW W3 n v (.slice A E.length c)).heap[W3.heap.size + 1]? = some (.cells #[.int .i64 v] 3) := by
    have := World.alloc_heap_new (W3.alloc (.cells #[.int .i64 n, .slice A E.length c] 26)) (.cells #[.int .i64 v] 3)
    rwa [World.size_alloc] at this
  exact ⟨s4, hb, by simp [World.cell?, h1], by simp [World.cell?, h2]⟩
/-! ### graph.Has -/
set_option maxRecDepth 100000 in
set_option maxHeartbeats 2000000 in
theorem Try.Has_in (n a b : Int) (E : List Ed) (A : Option Addr) (c : Nat) (w : World) (hE : E.length ≤ 1000000) (h : FlatOk w noLab none A c 2 (edges E)) :
    CallsIn Fence.wide 6 Try.prog 37 #[.agg #[.int .i64 n, .slice A E.length c], .int .i64 a, .int .i64 b] w fun e W' => e = .returned (.bool (decide (RightP n E) && (Go.Sh.nearL E a).elem b)) ∧ Below w.heap.size w W' := by
  obtain ⟨w1, hw1⟩ : ∃ w1, w.alloc (.cells #[.int .i64 n, .slice A E.length c] 26) = w1 := ⟨_, rfl⟩
  obtain ⟨w2, hw2⟩ : ∃ w2, w1.alloc (.cells #[.int .i64 b] 3) = w2 := ⟨_, rfl⟩
  obtain ⟨w3, hw3⟩ : ∃ w3, w2.alloc (.cells #[.bool false] 4) = w3 := ⟨_, rfl⟩
  have s1 : w1.heap.size = w.heap.size + 1 := by rw [← hw1]; simp
  have s2 : w2.heap.size = w.heap.size + 2 := by rw [← hw2]; simp [s1]
  have s3 : w3.heap.size = w.heap.size + 3 := by rw [← hw3]; simp [s2]
  have b1 : Below w.heap.size w w1 := by rw [← hw1]; exact (Below.refl _ w).alloc (Nat.le_refl _) _
  have b2 : Below w.heap.size w w2 := by rw [← hw2]; exact b1.alloc (by omega) _
  have b3 : Below w.heap.size w w3 := by rw [← hw3]; exact b2.alloc (by omega) _
  have hg3 : w3.heap[w.heap.size]? = some (.cells #[.int .i64 n, .slice A E.length c] 26) := by
    rw [← hw3, Below.heap_alloc _ _ _ (by omega), ← hw2, Below.heap_alloc _ _ _ (by omega), ← hw1]; exact World.alloc_heap_new _ _
  have bB : Boxed w3 (w.heap.size + 1) 3 (.int .i64 b) := by rw [← hw3, ← s1]; refine Boxed.alloc ?_ _; rw [← hw2]; exact Boxed.new _ _ _
  have bO : Boxed w3 (w.heap.size + 2) 4 (.bool false) := by rw [← hw3, ← s2]; exact Boxed.new _ _ _
  have c0 : w3.cell? ⟨w.heap.size, 0, none⟩ = some (.int .i64 n) := by simp [World.cell?, hg3]
  have c1 : w3.cell? ⟨w.heap.size, 1, none⟩ = some (.slice A E.length c) := by simp [World.cell?, hg3]
  refine callsIn_of_wp_marks Try.func37 rfl trivial ?_ rfl
  simp only [Try.ntmps37, List.size_toArray, List.length_cons, List.length_nil, Nat.reduceAdd, Nat.reduceSub, Array.replicate_succ, Array.replicate_zero, List.push_toArray, List.append_toArray, List.nil_append, List.cons_append]
  have f3 := Try.flat_below h (fun b hb => b3.block b hb)
  subst hw1
  subst hw2
  subst hw3
  by_cases hR : RightP n E
  · gi_wp2_with (first
      | (refine ⟨trivial, ?_⟩; gi_at_call 39; refine (Try.right_in 5 _ n E A c f3).mono ?_; rintro e W3 ⟨rfl, hb3⟩; have c0' := (hb3.cell (p := ⟨w.heap.size, 0, none⟩) (by show w.heap.size < _; rw [s3]; omega)).trans c0; have c1' := (hb3.cell (p := ⟨w.heap.size, 1, none⟩) (by show w.heap.size < _; rw [s3]; omega)).trans c1; have hd : decide (RightP n E) = true := decide_eq_true hR)
      | (refine ⟨trivial, ?_⟩; gi_at_call 67; refine (Try.near_in Fence.wide 5 trivial rfl n a A E.length c _).mono ?_; rintro e W4 ⟨rfl, rfl⟩))
    have hA4 := Try.near_at w W3 n a A c E
    have t3 : w.heap.size + 3 ≤ W3.heap.size := by have := hb3.size; rw [s3] at this; exact this
    have bB3 : Boxed W3 (w.heap.size + 1) 3 (.int .i64 b) := (hb3.block _ (by rw [s3]; omega)).trans bB
    have bO3 : Boxed W3 (w.heap.size + 2) 4 (.bool false) := (hb3.block _ (by rw [s3]; omega)).trans bO
    have d3 : Below w.heap.size w W3 := b3.trans (hb3.mono (by rw [s3]; omega))
    have hE3 := (Try.eds_of h).kept (Try.Kept.of (S := (· < w.heap.size)) d3 (fun k h => h)) (fun k h => h)
    generalize Try.nearW W3 n a (.slice A E.length c) = W4 at hA4 ⊢
    obtain ⟨s4, hb4, cg, cv⟩ := hA4
    have bB4 : Boxed W4 (w.heap.size + 1) 3 (.int .i64 b) := (hb4.block _ (by omega)).trans bB3
    have bO4 : Boxed W4 (w.heap.size + 2) 4 (.bool false) := (hb4.block _ (by omega)).trans bO3
    have d4 : Below w.heap.size w W4 := d3.trans (hb4.mono (by omega))
    have hE4 : Try.Eds (fun k => k < W4.heap.size ∧ k ≠ w.heap.size + 2) W4 (.slice A E.length c) E := by
      rcases hE3.kept (Try.Kept.of (S := (· < w.heap.size)) (hb4.mono (show w.heap.size ≤ _ by omega)) (fun k h => h)) (fun k h => h) with h0 | ⟨ab, ao, cap, e, hb, hc⟩
      · exact .inl h0
      · exact .inr ⟨ab, ao, cap, e, ⟨by omega, by omega⟩, hc⟩
    have hml : E.length ≤ 4000 := hR.2.2.1
    have hd2 : decide (RightP n E) = true := decide_eq_true hR
    refine wpIn_rangeFunc_ownG rfl (by omega) (gf := 94) (lb := #[.pointer (some ⟨W3.heap.size, 0, none⟩), .pointer (some ⟨W3.heap.size + 1, 0, none⟩)]) rfl trivial (enters_of Try.func94 (by kernel_rfl) rfl)
      (Try.near_stops Fence.wide 5 trivial rfl (by omega) W3.heap.size (W3.heap.size + 1) (fun k => k < W4.heap.size ∧ k ≠ w.heap.size + 2) n a _ E hR W4 ⟨by omega, by omega⟩ ⟨by omega, by omega⟩ (fun k h => h.1) cg cv hE4) Try.kp_t (Try.kp_b (fun k h => h.1)) (Below.refl _ _) (fun _ => rfl)
      (fun pre W => (Boxed W (w.heap.size + 1) 3 (.int .i64 b) ∧ Boxed W (w.heap.size + 2) 4 (.bool false) ∧ b ∉ pre) ∧ Below w.heap.size W4 W)
      (fun cd pre W => (cd = .ret ∧ Boxed W (w.heap.size + 2) 4 (.bool true) ∧ b ∈ pre) ∧ Below w.heap.size W4 W)
      (OwnFrom.and (fun s X Y row hs hg hr => ⟨hs.1.kept hg (fun e => by have := (hr _ e.symm).1; omega), hs.2.1.kept hg (fun e => by have := (hr _ e.symm).1; omega), hs.2.2⟩) (ownFrom_below (by omega) (by omega)))
      (fun cd => OwnFrom.and (fun s X Y row hs hg hr => ⟨hs.1, hs.2.1.kept hg (fun e => by have := (hr _ e.symm).1; omega), hs.2.2⟩) (ownFrom_below (by omega) (by omega)))
      ⟨⟨bB4, bO4, by simp⟩, Below.refl _ _⟩
      (fun x => { tmps := #[.agg #[.int .i64 n, .slice A E.length c], .int .i64 a, .int .i64 b, .pointer (some ⟨w.heap.size, 0, none⟩), undef, .pointer (some ⟨w.heap.size + 1, 0, none⟩), .pointer (some ⟨w.heap.size + 2, 0, none⟩), .int .i64 x, .agg #[.int .i64 n, .slice A E.length c], .bool true, .bool false, .agg #[.int .i64 n, .slice A E.length c], .int .i64 a, .func (.func 94) #[] #[.pointer (some ⟨W3.heap.size, 0, none⟩), .pointer (some ⟨W3.heap.size + 1, 0, none⟩)], .int .i64 x, undef, undef, undef], defers := [] }) ?assign ?body ?done ?stop
    case assign =>
      intro l x W K hK
      gi_wp2
      exact hK
    case body =>
      rintro l pre x W ⟨⟨hv, ho, hn⟩, hB⟩ hlt
      have hc := hv.cell
      have hoc := ho.cell
      have hof := ho.frozen
      by_cases hx : x = b
      · have hxb : (x == b) = true := by simpa using hx
        gi_wp2
        exact ⟨(KeepsOthers.setCell _ _ _).from _, ⟨rfl, ho.set _, by simp [hx]⟩, hB.setCell (p := ⟨w.heap.size + 2, 0, none⟩) (by show w.heap.size ≤ w.heap.size + 2; omega) _⟩
      · have hxb : (x == b) = false := by simpa using hx
        gi_wp2
        exact ⟨KeepsFrom.refl _ _, ⟨Try.Kept.refl _ _, fun _ _ _ h => h⟩, ⟨hv, ho, by simp [hn]; exact fun e => hx e.symm⟩, hB⟩
    case done =>
      rintro D ys W hD rfl ⟨⟨hv, ho, hn⟩, hB⟩ hK
      have hoc := ho.cell
      have hof := ho.frozen
      gi_wp2
      have hK' : (W.setCell ⟨w.heap.size + 2, 0, none⟩ (.bool false)).heap[D]? = some (.deferred (some [])) := by
        rw [Below.heap_setCell _ _ _ _ (by show D ≠ w.heap.size + 2; omega)]; exact hK
      refine ⟨by simp, .inl ⟨_, _, rfl, run_takeDeferred hK', ?_⟩⟩
      have hc5 := cell_kept (ho.set (.bool false)).cell (grownBy_putObj' _ D (.deferred none)) (fun r e => by cases e; exact ⟨_, hK', rfl⟩)
      refine ⟨.bool false, ?_, by rw [hd2, show (Go.Sh.nearL E a).elem b = false by simpa using hn]; rfl, ((d4.trans hB).setCell (p := ⟨w.heap.size + 2, 0, none⟩) (by show w.heap.size ≤ w.heap.size + 2; omega) _).trans (belowK_b (w := w) (Nat.le_refl _) _ D _ _ (by omega) hK' rfl rfl)⟩
      simp [results, Try.f37, go_sem, hc5]
    case stop =>
      rintro D cd pre W hD hpre ⟨⟨rfl, ho, hn⟩, hB⟩ hK
      gi_wp2
      refine ⟨by simp, .inl ⟨_, _, rfl, run_takeDeferred hK, ?_⟩⟩
      have hc5 := cell_kept ho.cell (grownBy_putObj' _ D (.deferred none)) (fun r e => by cases e; exact ⟨_, hK, rfl⟩)
      refine ⟨.bool true, ?_, by rw [hd2, show (Go.Sh.nearL E a).elem b = true by simpa using hpre.subset hn]; rfl, (d4.trans hB).trans (belowK_b (w := w) (Nat.le_refl _) _ D _ _ (by omega) hK rfl rfl)⟩
      simp [results, Try.f37, go_sem, hc5]
  · gi_wp2_with (refine ⟨trivial, ?_⟩; gi_at_call 39; refine (Try.right_in 5 _ n E A c f3).mono ?_; rintro e W3 ⟨rfl, hb3⟩; have hd : decide (RightP n E) = false := decide_eq_false hR; have bO3 : Boxed W3 (w.heap.size + 2) 4 (.bool false) := (hb3.block _ (by rw [s3]; omega)).trans bO; have hoc := bO3.cell; have hof := bO3.frozen)
    have bO3 : Boxed W3 (w.heap.size + 2) 4 (.bool false) := (hb3.block _ (by rw [s3]; omega)).trans bO
    have hc5 := (bO3.set (.bool false)).cell
    refine ⟨.bool false, ?_, by rw [decide_eq_false hR]; rfl, (b3.trans (hb3.mono (by rw [s3]; omega))).setCell (p := ⟨w.heap.size + 2, 0, none⟩) (by show w.heap.size ≤ w.heap.size + 2; omega) _⟩
    simp [results, Try.f37, go_sem, hc5]
end Go.Proofs

set_option linter.unusedVariables false
set_option linter.unusedSimpArgs false
namespace Go.Sh
open Go.Proofs Go.Sort Go.Shelf Go.RowKit
/-! ### rows of cells in their place -/
theorem holds_row {w : World} {own : Nat → Option Key} {key : Option Key} {A : Option Addr} {cap sz : Nat} {rows : Flat} {b off : Nat} {arr : Array Value} {T : TypeId} (h : FlatOk w own key A cap sz rows) (hA : A = some ⟨b, off, none⟩) (hh : w.heap[b]? = some (.cells arr T (0, 0))) :
    Holds id w b off (cellsR rows).toArray := by
  intro t ht
  have ht0 := ht
  have ht : t < rows.flatten.length := by rw [List.size_toArray, cellsR, List.length_map] at ht; exact ht
  have hlen : rows.flatten.length = rows.length * sz := flat_len h.even
  have h0 : 0 < sz := h.pos
  have hi : t / sz < rows.length := by rw [Nat.div_lt_iff_lt_mul h0]; omega
  have hj : t % sz < sz := Nat.mod_lt _ h0
  have hrow : rows[t / sz]? = some rows[t / sz] := List.getElem?_eq_getElem hi
  have hrl := h.even _ _ hrow
  have hcell : (rows[t / sz])[t % sz]? = some (rows[t / sz])[t % sz] := List.getElem?_eq_getElem (by omega)
  obtain ⟨ad, h1, _, h2⟩ := h.cell _ _ _ _ hrow hcell
  rw [hA] at h1
  injection h1 with h1
  subst h1
  have hq : t / sz * sz + t % sz = t := by rw [Nat.mul_comm]; exact Nat.div_add_mod t sz
  have hfl := flat_get h.even (t / sz) (t % sz) _ hrow hj
  rw [hq, hcell] at hfl
  rw [hq, Addr.add_plain] at h2
  refine ⟨?_, by simp [World.frozen?, hh]⟩
  have ht' : t < (cellsR rows).toArray.size := ht0
  rw [getElem!_pos _ t ht', h2]
  have hz : (cellsR rows)[t]? = some (rows[t / sz])[t % sz].val := by unfold cellsR; rw [List.getElem?_map, hfl]; rfl
  have hz2 := List.getElem?_eq_getElem (l := cellsR rows) (i := t) (by simpa using ht')
  rw [hz2] at hz
  injection hz with hz
  simp [hz]
theorem splice_all {α : Type} {l m : List α} (h : m.length = l.length) : splice l 0 m = m := by
  apply List.ext_getElem?
  intro i
  rw [splice_get l 0 m i (by omega)]
  by_cases hi : i < m.length
  · rw [if_pos ⟨by omega, by omega⟩]; simp
  · rw [if_neg (by omega), List.getElem?_eq_none (by omega), List.getElem?_eq_none (by omega)]
theorem put_splice {off : Nat} {arr : Array Value} {cs : List Value} (h : off + cs.length ≤ arr.size) : putCells id off cs.toArray arr = (splice arr.toList off cs).toArray := by
  apply Array.ext'
  apply List.ext_getElem?
  intro i
  rw [List.toList_toArray, splice_get _ _ _ _ (by simpa using h)]
  rw [Array.getElem?_toList]
  unfold putCells
  rw [Array.getElem?_mapIdx]
  by_cases hi : off ≤ i ∧ i < off + cs.length
  · rw [if_pos hi, Array.getElem?_eq_getElem (by omega), Option.map_some, if_pos (by simpa using hi), getElem!_pos _ _ (by simp; omega), List.getElem?_eq_getElem (by omega)]
    simp
  · rw [if_neg hi, Array.getElem?_toList]
    cases hq : arr[i]? with
    | none => rfl
    | some x => rw [Option.map_some, if_neg (by simpa using hi)]
/-- behind a call that laid a row of cells in its place -/
theorem put_row {w w' : World} {own : Nat → Option Key} {key : Key} {A : Option Addr} {cap sz : Nat} {rows' : Flat} {b off : Nat} {arr : Array Value} {T : TypeId} {q : Nat} {os : Array Obj} (ho : own b = some key) (hh : w.heap[b]? = some (.cells arr T (0, 0))) (hs : off + (cellsR rows').length ≤ arr.size)
    (hlay : FlatOk (w.setRow b (splice arr.toList off (cellsR rows')).toArray) own (some key) A cap sz rows') (hown : ∀ b k, own b = some k → b < w.heap.size)
    (hw : w' = grow (putRow id (Sort.ahead w q) b off (cellsR rows').toArray) os) : Frm (fun b => own b = some key) w w' ∧ FlatOk w' own (some key) A cap sz rows' := by
  subst hw
  have hb : b < w.heap.size := hown b _ ho
  have hheap : ∀ x, x < w.heap.size → (grow (putRow id (Sort.ahead w q) b off (cellsR rows').toArray) os).heap[x]? = (w.heap[x]?).map fun o => if x = b then onCells (putCells id off (cellsR rows').toArray) o else o := fun x hx => by
    show ((w.heap.modify b (onCells (putCells id off (cellsR rows').toArray))) ++ os)[x]? = _
    rw [Array.getElem?_append_left (by simpa using hx), Array.getElem?_modify]
    by_cases e : b = x
    · simp [e]
    · have : ¬ x = b := fun h => e h.symm
      simp [e, this]
  refine ⟨⟨rfl, .of rfl, rfl, ?_, fun x hx hn => ?_⟩, hlay.mono id fun x hx hx2 => ⟨hx2, ?_⟩⟩
  · show w.heap.size ≤ ((w.heap.modify b _) ++ os).size
    simp
  · rw [hheap x hx]
    have : x ≠ b := fun e => hn (by rw [e]; exact ho)
    simp [this]
  · have hx' : x < w.heap.size := hown x _ hx2
    rw [hheap x hx']
    by_cases e : x = b
    · subst e
      rw [hh, World.setRow]
      show _ = (w.heap.modify x _)[x]?
      rw [Array.getElem?_modify, if_pos rfl, hh]
      simp [onCells]
      exact put_splice hs
    · rw [World.setRow]
      show _ = (w.heap.modify b _)[x]?
      rw [Array.getElem?_modify, if_neg (fun h => e h.symm)]
      simp [e]
/-! ### edges -/
def encE (p : Ed) : List Value := [.int .i64 p.1, .int .i64 p.2]
theorem edges_even (l : List Ed) : ∀ (i : Nat) (row : Row), (edges l)[i]? = some row → row.length = 2 := fun i row h => by
  simp only [edges, List.getElem?_map, Option.map_eq_some_iff] at h
  obtain ⟨x, _, rfl⟩ := h
  rfl
theorem flatK_edges (l : List Ed) : flatK encE 2 l.toArray = (cellsR (edges l)).toArray := by
  apply Array.ext'
  show (flatK encE 2 l.toArray).toList = cellsR (edges l)
  induction l with
  | nil => simp [flatK, cellsR, edges]
  | cons p l ih =>
    have e : cellsR (edges (p :: l)) = encE p ++ cellsR (edges l) := rfl
    rw [e, ← ih]
    simp only [flatK, List.size_toArray, List.length_cons, Array.toList_map, Array.toList_range]
    rw [show (l.length + 1) * 2 = 2 + l.length * 2 by omega, List.range_add, List.map_append, List.map_map]
    congr 1
    refine List.map_congr_left fun t ht => ?_
    have h1 : (2 + t) / 2 = t / 2 + 1 := by omega
    have h2 : (2 + t) % 2 = t % 2 := by omega
    simp only [Function.comp, h1, h2]
    congr 1
    simp
/-! ### graph.Normal's closure -/
theorem Clo_p [Fwd] : SoundP Try.prog 92 (conF (fun _ : Ed × Ed => True) (fun a => [edV a.1, edV a.2]) (fun a => .one (.s (.i .i64 (cmpE a.1 a.2))))) := by
  refine con_pure (X := { Γ := [(69, compareC)], T := T, nt := 8 }) cr_none hmix hT (sound_cons compare_ok sound_nil) Try.func92 (by rfl) (by rfl) (by rfl) 4 ?_
  rintro ⟨⟨a, b⟩, ⟨c, d⟩⟩ -
  refine ⟨⟨Nat.le_of_ble_eq_true rfl, Nat.le_of_ble_eq_true rfl⟩, ?_⟩
  refine Call.by _ _ (compareC_at (a, b) (c, d)) ?_
  refine ⟨rfl, ?_⟩
  show _ = _
  rfl
theorem frm_grow [Fwd] (hD : Fwd.D) {w w' : World} (h : Frm (fun _ => False) w w') : ∃ q os, w' = grow (w.drewN q) os := by
  refine ⟨w'.drawn - w.drawn, w'.heap.extract w.heap.size w'.heap.size, ?_⟩
  have hd : w.drawn ≤ w'.drawn := h.tape.2 hD
  have hh : w'.heap = w.heap ++ w'.heap.extract w.heap.size w'.heap.size := by
    apply Array.ext_getElem?
    intro i
    have hs := h.size
    rcases Nat.lt_or_ge i w.heap.size with hi | hi
    · rw [Array.getElem?_append_left hi]; exact h.block i hi (fun h => h)
    · rw [Array.getElem?_append_right hi, Array.getElem?_extract]
      split
      · congr 1; omega
      · rw [Array.getElem?_eq_none]; omega
  have h1 := h.os; have h2 := h.tape.1; have h3 := h.output
  obtain ⟨a1, a2, a3, a4, a5⟩ := w
  obtain ⟨b1, b2, b3, b4, b5⟩ := w'
  simp only at h1 h2 h3 hd
  subst h1 h2 h3
  unfold grow World.drewN
  simp only at hh ⊢
  rw [← hh]
  congr 1
  omega
theorem clo_call (x y : Ed) (W : World) : Calls Try.prog 92 #[.agg (encE x).toArray, .agg (encE y).toArray] W fun e w' => e = .returned (.int .i64 (cmpE x y)) ∧ ∃ q os', w' = grow (W.drewN q) os' := by
  letI : Fwd := ⟨True⟩
  have hz : ∀ (q : Nat) (z : Sc), CellOk W noLab q (.s z) z.val := fun q z => ⟨⟨none, 0, fun _ => none, fun _ => 0⟩, rfl⟩
  have hF : conF (fun _ : Ed × Ed => True) (fun a => [edV a.1, edV a.2]) (fun a => V.one (C.s (.i .i64 (cmpE a.1 a.2)))) [edV x, edV y] = some (.one (.s (.i .i64 (cmpE x y))), []) := compareC_at x y
  refine (Clo_p _ _ _ hF W #[.agg (encE x).toArray, .agg (encE y).toArray] ⟨⟨_, rfl, hz _ _, hz _ _, trivial⟩, ⟨_, rfl, hz _ _, hz _ _, trivial⟩, trivial⟩).mono ?_
  rintro e w' ⟨u, lab, rfl, hf, _, hu⟩
  obtain ⟨p, hu⟩ := hu
  refine ⟨?_, frm_grow trivial hf⟩
  show Ending.returned u = _
  rw [show u = (Sc.i .i64 (cmpE x y)).val from hu]
  rfl
/-! ### slices.SortFunc on edges -/
theorem ltOf_iff (x y : Ed) : ltOf cmpE x y = decide (ltE x y) := by
  unfold ltOf
  exact decide_eq_decide.2 (cmpE_lt x y)
theorem ltOf_t {x y : Ed} : ltOf cmpE x y = true ↔ ltE x y := by rw [ltOf_iff, decide_eq_true_iff]
theorem ltOf_f {x y : Ed} : ltOf cmpE x y = false ↔ ¬ ltE x y := by rw [ltOf_iff, decide_eq_false_iff_not]
theorem swoE : SWO (ltOf cmpE) where
  irrefl x := by rw [ltOf_f]; unfold ltE; omega
  trans x y z h1 h2 := by rw [ltOf_t] at *; unfold ltE at *; omega
  ntrans x y z h1 h2 := by rw [ltOf_f] at *; unfold ltE at *; omega
theorem totE (x y : Ed) (h1 : ltOf cmpE x y = false) (h2 : ltOf cmpE y x = false) : x = y := by
  rw [ltOf_f] at *; unfold ltE at *
  exact Prod.ext (by omega) (by omega)
def sortE (l : List Ed) : List Ed := l.mergeSort fun x y => !(ltOf cmpE) y x
theorem sortE_perm (l : List Ed) : (sortE l).Perm l := List.mergeSort_perm l _
theorem sortE_sorted (l : List Ed) : (sortE l).Pairwise fun x y => ¬ ltE y x := by
  have := List.pairwise_mergeSort (le := fun x y : Ed => !(ltOf cmpE) y x) (fun a b c h1 h2 => by
    simp only [Bool.not_eq_true', ltOf_f] at *; unfold ltE at *; omega) (fun a b => by
    simp only [Bool.or_eq_true, Bool.not_eq_true', ltOf_f]; unfold ltE; omega) l
  exact this.imp fun h => by simpa only [Bool.not_eq_true', ltOf_f] using h
open Classical in
noncomputable def sortF (l : Flat) : Flat := if h : ∃ E : List Ed, l = edges E then edges (sortE h.choose) else l
theorem sortF_edges (E : List Ed) : sortF (edges E) = edges (sortE E) := by
  have h : ∃ E' : List Ed, edges E = edges E' := ⟨E, rfl⟩
  unfold sortF
  rw [dif_pos h, ← edges_inj h.choose_spec]
theorem SortFn_row : RowFnCall Try.prog 91 92 2 (fun l => ∃ E : List Ed, l = edges E ∧ E.length ≤ 1000000) sortF := by
  refine ⟨⟨_, Try.func91, by decide, by simp [Try.f91]⟩, ?_, ?_⟩
  · rintro l ⟨E, rfl, _⟩
    rw [sortF_edges, edges_length, edges_length, (sortE_perm E).length_eq]
  · rintro l ⟨E, rfl, hE⟩ w own key A cap h hown
    rw [sortF_edges]
    rcases Nat.eq_zero_or_pos E.length with h0 | h0
    · have : E = [] := List.eq_nil_of_length_eq_zero h0
      subst this
      refine (AnyF.slices_SortFunc_none Try.laysSortF A cap _ w).mono ?_
      rintro e w' ⟨rfl, rfl⟩
      exact ⟨rfl, Frm.refl _ _, by simpa [sortE] using h⟩
    · have hlen : (edges (sortE E)).length = (edges E).length := by rw [edges_length, edges_length, (sortE_perm E).length_eq]
      obtain ⟨b, off, arr, T, hA, ho, hh, hs, hlay⟩ := h.lay (lo := 0) (S := edges (sortE E)) (by omega) (by rw [hlen, edges_length]; exact h0) (edges_even _)
      rw [Nat.zero_mul, Nat.add_zero] at hs hlay
      rw [splice_all hlen] at hlay
      have hH : HoldsK encE 2 w b off E.toArray := by
        unfold HoldsK
        rw [flatK_edges]
        exact holds_row h hA hh
      have eg : ∀ args w, (callFunc 92 args).run Try.prog w = .ok (.enter 92 args) w := enters_of Try.func92 (by kernel_rfl) rfl
      subst hA
      rw [edges_length]
      refine (AnyQ.slices_SortFunc_total Try.laysSortF 2 Try.isAgg60 Try.sizeOf60 encE (fun _ => rfl) (fun x v hv => by simp [encE] at hv; rcases hv with rfl | rfl <;> rfl) cmpE swoE 92 #[] b off cap E.toArray w eg (fun _ _ _ _ x y => clo_call x y _) hH (hown b _ ho) (by simp; omega) totE).mono ?_
      rintro e w' ⟨rfl, q, os, hw⟩
      have hw2 : w' = grow (putRow id (Sort.ahead w q) b off (cellsR (edges (sortE E))).toArray) os := by rw [hw, sortWorldK, putRowK, ← flatK_edges]; rfl
      obtain ⟨h1, h2⟩ := put_row (q := q) (os := os) ho hh hs hlay hown hw2
      exact ⟨rfl, h1, h2⟩
end Go.Sh

set_option linter.unusedVariables false
set_option linter.unusedSimpArgs false
namespace Go.Sh
open Go.Proofs
/-! ### graph.Normal -/
/-- what is kept ahead of the sorting -/
def prs (l : List Ed) : List Ed := l.filterMap fun p => if p.1 = p.2 then none else some (edN p)
theorem prs_snoc (l : List Ed) (p : Ed) : prs (l ++ [p]) = prs l ++ (if p.1 = p.2 then [] else [edN p]) := by
  unfold prs
  rw [List.filterMap_append]
  congr 1
  by_cases h : p.1 = p.2 <;> simp [h]
theorem prs_length (l : List Ed) : (prs l).length ≤ l.length := List.length_filterMap_le _ _
theorem mem_prs {l : List Ed} {x : Ed} : x ∈ prs l ↔ ∃ p ∈ l, p.1 ≠ p.2 ∧ x = edN p := by
  unfold prs
  rw [List.mem_filterMap]
  constructor
  · rintro ⟨p, hp, h⟩
    split at h
    · simp at h
    · rename_i hne; injection h with h; exact ⟨p, hp, hne, h.symm⟩
  · rintro ⟨p, hp, hne, rfl⟩
    exact ⟨p, hp, by rw [if_neg hne]⟩
theorem norm_of {l M : List Ed} (hs : M.Pairwise ltE) (hm : ∀ x, x ∈ M ↔ x ∈ sortE (prs l)) : M = normE l :=
  sortedE_eq hs (normE_sorted l) fun x => by rw [hm, (sortE_perm _).mem_iff, mem_prs, mem_normE]
noncomputable def XNor : Cx := { Γ := [], T := T, nt := 70, inl := [(93, inlF Try.f93)], ext := [91], base := rowFnCR 91 92 2 (fun l => ∃ E : List Ed, l = edges E ∧ E.length ≤ 1000000) sortF }
theorem XNor_ok : CrOk Try.prog (callAt 1 XNor) := callAt_ok hmix hT sound_nil (inl_cons Try.func93 (by rfl) (by rfl) (by rfl) inl_nil) (rowFn_ok SortFn_row) 1
theorem edges_set (l : List Ed) (i : Nat) (x : Ed) : (edges l).set i [.i .i64 x.1, .i .i64 x.2] = edges (l.set i x) := by simp [edges, List.map_set]
theorem take_spl {α : Type} (l m : List α) (i : Nat) (h : i + m.length ≤ l.length) : (splice l i m).take i = l.take i := by
  apply List.ext_getElem?
  intro j
  rw [List.getElem?_take, List.getElem?_take]
  split
  · rw [splice_get _ _ _ _ h, if_neg (by omega)]
  · rfl
set_option maxHeartbeats 2000000 in
theorem NormG_p : SoundP Try.prog 56 (conF (fun a : Int × List Ed => a.2.length ≤ 1000000) (fun a => [.one (.s (.i .i64 a.1)), .one (.flat false 2 (edges a.2))]) (fun a => .tup [grO (normF a.1 a.2).1.1 (normF a.1 a.2).1.2, .one (.s (.i .i64 (normF a.1 a.2).2))])) := by
  refine con_pure (X := XNor) (cr := callAt 1 XNor) XNor_ok hmix hT sound_nil Try.func56 (by rfl) (by rfl) (by rfl) 2 ?_
  rintro ⟨n, l⟩ hl
  dsimp only at hl
  refine ⟨⟨Nat.le_of_ble_eq_true rfl, Nat.le_of_ble_eq_true rfl⟩, ?_⟩
  refine Pick.by (fun h1 => ?_) (fun h1 => ?_)
  · have h1 : n < 0 := by simpa using h1
    have hv : normF n l = ((0, []), 1) := if_pos h1
    dsimp only
    rw [hv]
    exact ⟨rfl, rfl, ⟨rfl, ⟨rfl, rfl⟩, trivial⟩, rfl, trivial⟩
  have h1 : ¬ n < 0 := by simpa using h1
  refine Pick.by (fun h2 => ?_) (fun h2 => ?_)
  · have h2 : n > 1000 := by simpa using h2
    have hv : normF n l = ((0, []), 5) := by unfold normF; rw [if_neg h1, if_pos h2]
    dsimp only
    rw [hv]
    exact ⟨rfl, rfl, ⟨rfl, ⟨rfl, rfl⟩, trivial⟩, rfl, trivial⟩
  have h2 : ¬ n > 1000 := by simpa using h2
  refine LoopP.intro (α := Nat) (fun i => i ≤ l.length ∧ ∀ q ∈ l.take i, inR n q) (fun i => l.length - i) (fun i => [(0, .s (.i .i64 n)), (4, .ptr 0 0), (5, .s (.i .i64 0)), (6, .sl 2 none none), (17, .sl 1 none none), (18, .s (.i .i64 l.length)), (19, .s (.i .i64 i))])
    (fun i => [(0, some (.blk [.s (.i .i64 0), .nils])), (1, some (.flat false 2 (edges l))), (2, some (.flat true 2 (edges (prs (l.take i)))))]) 3 0 ⟨by omega, by simp⟩ (by refine Weak.by [(0, some _), (1, some _), (2, none)] (by ((repeat' first | exact rfl | exact trivial | refine And.intro ?_ ?_) <;> (repeat' first | exact rfl | exact trivial | refine And.intro ?_ ?_)); all_goals (first | exact sc_eq (by rw [edges_length]) | simp [prs, edges])) (by ((repeat' first | exact rfl | exact trivial | refine And.intro ?_ ?_) <;> (repeat' first | exact rfl | exact trivial | refine And.intro ?_ ?_)); all_goals (first | exact sc_eq (by rw [edges_length]) | simp [prs, edges])) (by rfl)) ?_
  rintro i ⟨hi, hin⟩
  refine Pick.by (fun hc => ?_) (fun hc => ?_)
  · have hlt : i < l.length := by simpa using hc
    have hbad : ¬ inR n l[i] → normF n l = ((0, []), 4) := fun h => by
      unfold normF
      rw [if_neg h1, if_neg h2, if_neg fun k => h (k _ (List.getElem_mem hlt))]
    refine Idx.by i rfl (by rw [edges_length]; exact hlt) ?_
    refine Look.by _ (edges_get (List.getElem?_eq_getElem hlt)) ?_
    refine Pick.by (fun h3 => ?_) (fun h3 => ?_)
    · have h3 : mnI l[i].1 l[i].2 < 0 := of_decide_eq_true h3
      have hv := hbad (fun h => by unfold inR at h; unfold mnI at h3; split at h3 <;> omega)
      dsimp only
      rw [hv]
      exact ⟨rfl, rfl, ⟨rfl, ⟨rfl, rfl⟩, trivial⟩, rfl, trivial⟩
    have h3 : ¬ mnI l[i].1 l[i].2 < 0 := of_decide_eq_false h3
    refine Pick.by (fun h4 => ?_) (fun h4 => ?_)
    · have h4 : mxI l[i].1 l[i].2 ≥ n := of_decide_eq_true h4
      have hv := hbad (fun h => by unfold inR at h; unfold mxI at h4; split at h4 <;> omega)
      dsimp only
      rw [hv]
      exact ⟨rfl, rfl, ⟨rfl, ⟨rfl, rfl⟩, trivial⟩, rfl, trivial⟩
    have h4 : ¬ mxI l[i].1 l[i].2 ≥ n := of_decide_eq_false h4
    have hok : inR n l[i] := by unfold inR; unfold mnI at h3; unfold mxI at h4; split at h3 <;> split at h4 <;> omega
    have hin2 := all_take hlt hin hok
    have ht : l.take (i + 1) = l.take i ++ [l[i]] := List.take_succ_eq_append_getElem hlt
    have hpl := prs_length (l.take i)
    rw [List.length_take] at hpl
    refine Pick.by (fun h5 => ?_) (fun h5 => ?_)
    · have h5 : l[i].1 ≠ l[i].2 := by simpa using h5
      refine Pick.T (by simp [cut, edges_length]; omega) ?_
      refine Pick.T (inI64_of (by omega) (by omega)) ?_
      refine Next.by (i + 1) ⟨by omega, hin2⟩ (by show l.length - (i + 1) < l.length - i; omega) (by refine Weak.by [(0, some _), (1, some _), (2, some _)] (by ((repeat' first | exact rfl | exact trivial | refine And.intro ?_ ?_) <;> (repeat' first | exact rfl | exact trivial | refine And.intro ?_ ?_)); all_goals ((rw [ht, prs_snoc, if_neg h5, edges_snoc]; rfl))) (by ((repeat' first | exact rfl | exact trivial | refine And.intro ?_ ?_) <;> (repeat' first | exact rfl | exact trivial | refine And.intro ?_ ?_)); all_goals ((rw [ht, prs_snoc, if_neg h5, edges_snoc]; rfl))) (by rfl))
    · have h5 : l[i].1 = l[i].2 := by simpa using h5
      refine Pick.T (inI64_of (by omega) (by omega)) ?_
      refine Next.by (i + 1) ⟨by omega, hin2⟩ (by show l.length - (i + 1) < l.length - i; omega) (by refine Weak.by [(0, some _), (1, some _), (2, some _)] (by ((repeat' first | exact rfl | exact trivial | refine And.intro ?_ ?_) <;> (repeat' first | exact rfl | exact trivial | refine And.intro ?_ ?_)); all_goals ((rw [ht, prs_snoc, if_pos h5, List.append_nil]))) (by ((repeat' first | exact rfl | exact trivial | refine And.intro ?_ ?_) <;> (repeat' first | exact rfl | exact trivial | refine And.intro ?_ ?_)); all_goals ((rw [ht, prs_snoc, if_pos h5, List.append_nil]))) (by rfl))
  have hge : l.length ≤ i := by simpa using hc
  rw [List.take_of_length_le hge] at hin
  have hi' : i = l.length := by omega
  subst hi'
  rw [List.take_length]
  have hpl := prs_length l
  have hval : normF n l = if (normE l).length > 4000 then ((0, []), 5) else ((n, normE l), 0) := by
    unfold normF
    rw [if_neg h1, if_neg h2, if_pos hin]
  refine ⟨rfl, rfl, _, rfl, ⟨_, rfl, by omega⟩, ?_⟩
  rw [sortF_edges]
  obtain ⟨L, hL⟩ : ∃ L, L = sortE (prs l) := ⟨_, rfl⟩
  have hLl : L.length ≤ 1000000 := by rw [hL, (sortE_perm _).length_eq]; omega
  have hLs : L.Pairwise fun x y => ¬ ltE y x := by rw [hL]; exact sortE_sorted _
  have hLm : ∀ M : List Ed, M.Pairwise ltE → (∀ x, x ∈ M ↔ x ∈ L) → M = normE l := fun M h1 h2 => norm_of h1 fun x => by rw [h2, hL]
  rw [← hL]
  clear hL
  refine Pick.by (fun h6 => ?_) (fun h6 => ?_)
  · have h6 : L.length < 2 := by simp [edges_length] at h6; omega
    have hfin : L = normE l := hLm L (by
      match L, h6 with
      | [], _ => exact List.Pairwise.nil
      | [a], _ => simp) (fun x => Iff.rfl)
    rw [hfin]
    refine Pick.by (fun h20 => ?_) (fun h20 => ?_)
    · have h20 : (normE l).length > 4000 := by simp [edges_length] at h20; omega
      have hv : normF n l = ((0, []), 5) := by rw [hval, if_pos h20]
      dsimp only
      rw [hv]
      exact ⟨rfl, rfl, ⟨rfl, ⟨rfl, rfl⟩, trivial⟩, rfl, trivial⟩
    · have h20 : ¬ (normE l).length > 4000 := by simp [edges_length] at h20; omega
      have hv : normF n l = ((n, normE l), 0) := by rw [hval, if_neg h20]
      dsimp only
      rw [hv]
      exact ⟨rfl, rfl, ⟨rfl, ⟨rfl, rfl⟩, trivial⟩, rfl, trivial⟩
  have h6 : ¬ L.length < 2 := by simp [edges_length] at h6; omega
  refine LoopP.intro (α := Nat) (fun k => 1 ≤ k ∧ k ≤ L.length ∧ (L.take k).Pairwise ltE) (fun k => L.length - k) (fun k => [(0, .sl 1 none none), (3, .s (.i .i64 k)), (1000000, .s (.i .i64 n)), (1000004, .ptr 0 0)])
    (fun k => [(0, some (.blk [.s (.i .i64 0), .nils])), (1, some (.flat true 2 (edges L)))]) 2 1 ⟨by omega, by omega, ?_⟩ (by refine Weak.by [(0, some _), (1, some _)] (by ((repeat' first | exact rfl | exact trivial | refine And.intro ?_ ?_) <;> (repeat' first | exact rfl | exact trivial | refine And.intro ?_ ?_))) (by ((repeat' first | exact rfl | exact trivial | refine And.intro ?_ ?_) <;> (repeat' first | exact rfl | exact trivial | refine And.intro ?_ ?_))) (by rfl)) ?_
  · rw [List.take_one]; cases L[0]? <;> simp
  rintro k ⟨hk1, hk, hp⟩
  refine Pick.by (fun h7 => ?_) (fun h7 => ?_)
  · have hkl : k < L.length := by simp [edges_length] at h7; omega
    refine Idx.by k rfl (by rw [edges_length]; exact hkl) ?_
    refine Look.by _ (edges_get (List.getElem?_eq_getElem hkl)) ?_
    refine Pick.T (inI64_of (by omega) (by omega)) ?_
    refine Idx.by (k - 1) (by omega) (by rw [edges_length]; omega) ?_
    refine Look.by _ (edges_get (List.getElem?_eq_getElem (show k - 1 < L.length by omega))) ?_
    refine Seg.by (by kernel_rfl) ?_
    have hsorted := List.pairwise_iff_getElem.1 hLs
    refine Pick.by (fun h8 => ?_) (fun h8 => ?_)
    · have h8 : L[k].1 = L[k - 1].1 ∧ L[k].2 = L[k - 1].2 := by simpa using h8
      have h8 : L[k] = L[k - 1] := Prod.ext h8.1 h8.2
      refine Rng.by k L.length rfl (by rw [edges_length]) (by omega) (by rw [edges_length]; omega) ?_
      refine LoopP.intro (α := Nat × Nat × List Ed) (fun p => 1 ≤ p.1 ∧ p.1 < k + p.2.1 ∧ 1 ≤ p.2.1 ∧ k + p.2.1 ≤ L.length ∧ p.2.2.length = L.length ∧ (p.2.2.take p.1).Pairwise ltE ∧ (∀ x, x ∈ p.2.2.take p.1 ↔ x ∈ L.take (k + p.2.1)) ∧ p.2.2[p.1 - 1]? = L[k + p.2.1 - 1]? ∧ ∀ j, k + p.2.1 - 1 ≤ j → p.2.2[j]? = L[j]?)
        (fun p => L.length - (k + p.2.1)) (fun p => [(0, .sl 1 none none), (3, .s (.i .i64 p.1)), (4, .sl 1 none (some (k, L.length - k))), (5, .s (.i .i64 p.2.1)), (1000000, .s (.i .i64 n)), (1000004, .ptr 0 0)])
        (fun p => [(0, some (.blk [.s (.i .i64 0), .nils])), (1, some (.flat true 2 (edges p.2.2)))]) 2 (k, 1, L) ?_ (by refine Weak.by [(0, some _), (1, some _)] (by ((repeat' first | exact rfl | exact trivial | refine And.intro ?_ ?_) <;> (repeat' first | exact rfl | exact trivial | refine And.intro ?_ ?_))) (by ((repeat' first | exact rfl | exact trivial | refine And.intro ?_ ?_) <;> (repeat' first | exact rfl | exact trivial | refine And.intro ?_ ?_))) (by rfl)) ?_
      · refine ⟨hk1, by simp only; omega, by simp, by simp only; omega, rfl, hp, fun x => ?_, ?_, fun j _ => rfl⟩
        · show x ∈ L.take k ↔ x ∈ L.take (k + 1)
          rw [List.take_succ_eq_append_getElem hkl, List.mem_append]
          constructor
          · exact .inl
          · rintro (h | h)
            · exact h
            · simp at h
              rw [h, h8]
              exact List.mem_iff_getElem?.2 ⟨k - 1, by rw [List.getElem?_take, if_pos (by omega), List.getElem?_eq_getElem]⟩
        · show L[k - 1]? = L[k + 1 - 1]?
          rw [show k + 1 - 1 = k by omega, List.getElem?_eq_getElem hkl, List.getElem?_eq_getElem (by omega), h8]
      rintro ⟨kk, k2, M⟩ ⟨g1, g2, g3, g4, g5, g6, g7, g8, g9⟩
      dsimp only at g1 g2 g3 g4 g5 g6 g7 g8 g9
      refine Pick.by (fun h9 => ?_) (fun h9 => ?_)
      · have h9 : k + k2 < L.length := by simp at h9; omega
        have e1 : M[k + k2]? = some L[k + k2] := by rw [g9 _ (by omega)]; exact List.getElem?_eq_getElem h9
        have e2 : M[k + (k2 - 1)]? = some L[k + (k2 - 1)] := by rw [g9 _ (by omega)]; exact List.getElem?_eq_getElem (by omega)
        refine Idx.by k2 rfl (by omega) ?_
        refine Look.by _ (edges_get e1) ?_
        refine Pick.T (inI64_of (by dsimp only; omega) (by dsimp only; omega)) ?_
        refine Idx.by (k2 - 1) (by dsimp only; omega) (by omega) ?_
        refine Look.by _ (edges_get e2) ?_
        refine Seg.by (by kernel_rfl) ?_
        have e3 : L[k + (k2 - 1)] = L[k + k2 - 1] := by congr 1; omega
        refine Pick.by (fun h10 => ?_) (fun h10 => ?_)
        · have h10 : L[k + k2] ≠ L[k + (k2 - 1)] := fun h => by rw [h] at h10; simp at h10
          have hlt : ltE L[k + (k2 - 1)] L[k + k2] := by
            have h11 := hsorted (k + (k2 - 1)) (k + k2) (by omega) h9 (by omega)
            unfold ltE at h11 ⊢
            rcases Int.lt_trichotomy L[k + k2].1 L[k + (k2 - 1)].1 with h | h | h
            · omega
            · rcases Int.lt_trichotomy L[k + k2].2 L[k + (k2 - 1)].2 with h' | h' | h'
              · omega
              · exact absurd (Prod.ext h h') h10
              · omega
            · omega
          refine Idx.by k2 rfl (by omega) ?_
          refine Look.by _ (edges_get e1) ?_
          have hkM : kk < M.length := by omega
          refine Idx.by kk rfl (by rw [edges_length]; exact hkM) ?_
          refine Look.by _ (edges_get (List.getElem?_eq_getElem hkM)) ?_
          refine Pick.T (inI64_of (by dsimp only; omega) (by dsimp only; omega)) ?_
          refine Pick.T (inI64_of (by dsimp only; omega) (by dsimp only; omega)) ?_
          have hsp : (M.set kk L[k + k2]).take (kk + 1) = M.take kk ++ [L[k + k2]] := by
            rw [List.take_succ_eq_append_getElem (by rw [List.length_set]; exact hkM), List.getElem_set_self, List.take_set_of_le (Nat.le_refl _)]
          have hlast : M[kk - 1]? = some L[k + (k2 - 1)] := by rw [g8, show k + k2 - 1 = k + (k2 - 1) by omega]; exact List.getElem?_eq_getElem (by omega)
          refine Next.by (kk + 1, k2 + 1, M.set kk L[k + k2]) ⟨by dsimp only; omega, by dsimp only; omega, by dsimp only; omega, by dsimp only; omega, by simpa using g5, ?_, fun x => ?_, ?_, fun j hj => ?_⟩ (by dsimp only; omega) (by refine Weak.by [(0, some _), (1, some _)] (by ((repeat' first | exact rfl | exact trivial | refine And.intro ?_ ?_) <;> (repeat' first | exact rfl | exact trivial | refine And.intro ?_ ?_)); all_goals ((rw [← edges_set]; rfl))) (by ((repeat' first | exact rfl | exact trivial | refine And.intro ?_ ?_) <;> (repeat' first | exact rfl | exact trivial | refine And.intro ?_ ?_)); all_goals ((rw [← edges_set]; rfl))) (by rfl))
          · show ((M.set kk L[k + k2]).take (kk + 1)).Pairwise ltE
            rw [hsp, List.pairwise_append]
            refine ⟨g6, by simp, fun a ha b hb => ?_⟩
            simp at hb
            subst hb
            obtain ⟨j, hj, rfl⟩ := List.mem_iff_getElem.1 ha
            rw [List.length_take] at hj
            rcases Nat.lt_or_ge j (kk - 1) with h | h
            · have h12 := List.pairwise_iff_getElem.1 g6 j (kk - 1) (by rw [List.length_take]; omega) (by rw [List.length_take]; omega) h
              have h13 : (M.take kk)[kk - 1]'(by rw [List.length_take]; omega) = L[k + (k2 - 1)] := by
                have : (M.take kk)[kk - 1]? = some L[k + (k2 - 1)] := by rw [List.getElem?_take, if_pos (by omega)]; exact hlast
                rw [List.getElem?_eq_getElem (by rw [List.length_take]; omega)] at this
                injection this
              rw [h13] at h12
              exact h12.trans hlt
            · have hj' : j = kk - 1 := by omega
              subst hj'
              have h13 : (M.take kk)[kk - 1]'(by rw [List.length_take]; omega) = L[k + (k2 - 1)] := by
                have : (M.take kk)[kk - 1]? = some L[k + (k2 - 1)] := by rw [List.getElem?_take, if_pos (by omega)]; exact hlast
                rw [List.getElem?_eq_getElem (by rw [List.length_take]; omega)] at this
                injection this
              rw [h13]
              exact hlt
          · show x ∈ (M.set kk L[k + k2]).take (kk + 1) ↔ x ∈ L.take (k + (k2 + 1))
            rw [hsp, List.mem_append, g7, show k + (k2 + 1) = k + k2 + 1 by omega, List.take_succ_eq_append_getElem h9, List.mem_append]
          · show (M.set kk L[k + k2])[kk + 1 - 1]? = L[k + (k2 + 1) - 1]?
            rw [show kk + 1 - 1 = kk by omega, show k + (k2 + 1) - 1 = k + k2 by omega, List.getElem?_set_self hkM]
            exact (List.getElem?_eq_getElem h9).symm
          · show (M.set kk L[k + k2])[j]? = L[j]?
            have hj : k + (k2 + 1) - 1 ≤ j := hj
            rw [List.getElem?_set_ne (by omega)]
            exact g9 j (by omega)
        · have h10 : L[k + k2] = L[k + (k2 - 1)] := by
            have h10 : L[k + k2].1 = L[k + (k2 - 1)].1 ∧ L[k + k2].2 = L[k + (k2 - 1)].2 := by simpa using h10
            exact Prod.ext h10.1 h10.2
          refine Pick.T (inI64_of (by dsimp only; omega) (by dsimp only; omega)) ?_
          refine Next.by (kk, k2 + 1, M) ⟨g1, by dsimp only; omega, by dsimp only; omega, by dsimp only; omega, g5, g6, fun x => ?_, ?_, fun j hj => g9 j (by dsimp only at hj; omega)⟩ (by dsimp only; omega) (by refine Weak.by [(0, some _), (1, some _)] (by ((repeat' first | exact rfl | exact trivial | refine And.intro ?_ ?_) <;> (repeat' first | exact rfl | exact trivial | refine And.intro ?_ ?_))) (by ((repeat' first | exact rfl | exact trivial | refine And.intro ?_ ?_) <;> (repeat' first | exact rfl | exact trivial | refine And.intro ?_ ?_))) (by rfl))
          · show x ∈ M.take kk ↔ x ∈ L.take (k + (k2 + 1))
            rw [g7, show k + (k2 + 1) = k + k2 + 1 by omega, List.take_succ_eq_append_getElem h9, List.mem_append]
            constructor
            · exact .inl
            · rintro (h | h)
              · exact h
              · simp at h
                rw [h, h10]
                exact List.mem_iff_getElem?.2 ⟨k + (k2 - 1), by rw [List.getElem?_take, if_pos (by omega), List.getElem?_eq_getElem]⟩
          · show M[kk - 1]? = L[k + (k2 + 1) - 1]?
            rw [g8, show k + (k2 + 1) - 1 = k + k2 by omega, List.getElem?_eq_getElem h9, List.getElem?_eq_getElem (by omega), h10, e3]
      have h9 : L.length = k + k2 := by simp at h9; omega
      refine Rng.by kk L.length rfl (by dsimp only; rw [edges_length, g5]) (by omega) (by dsimp only; rw [edges_length]; omega) ?_
      have hkL : kk ≤ (edges M).length := by rw [edges_length]; omega
      have hc1 : (cut (subOf none 0 kk L.length) (edges M)).length = L.length - kk := by
        show (((edges M).drop kk).take (L.length - kk)).length = _
        rw [List.length_take, List.length_drop, edges_length]; omega
      refine Pick.T (decide_eq_true (by
        show kk + (cut (subOf none 0 kk L.length) (edges M)).length ≤ (edges M).length
        rw [hc1, edges_length]; omega)) ?_
      have hnrm : M.take kk = normE l := hLm _ g6 fun x => by rw [g7, ← h9, List.take_length]
      have hkn : (normE l).length = kk := by rw [← hnrm, List.length_take]; omega
      have hb : kk + (List.replicate (cut (subOf none 0 kk L.length) (edges M)).length [Sc.i .i64 0, Sc.i .i64 0]).length ≤ (edges M).length := by rw [List.length_replicate, hc1, edges_length]; omega
      have hfl : (splice (edges M) kk (List.replicate (cut (subOf none 0 kk L.length) (edges M)).length [Sc.i .i64 0, Sc.i .i64 0])).take kk = edges (normE l) := by
        rw [take_spl _ _ _ hb, ← hnrm]
        simp [edges, List.map_take]
      have hsl := splice_length (edges M) kk _ hb
      refine Rng.by 0 kk rfl rfl (by omega) (by
        show kk ≤ (splice (edges M) kk (List.replicate (cut (subOf none 0 kk L.length) (edges M)).length [Sc.i .i64 0, Sc.i .i64 0])).length
        rw [hsl]; exact hkL) ?_
      refine Pick.by (fun h20 => ?_) (fun h20 => ?_)
      · have h20 : (normE l).length > 4000 := by simp at h20; omega
        have hv : normF n l = ((0, []), 5) := by rw [hval, if_pos h20]
        dsimp only
        rw [hv]
        exact ⟨rfl, rfl, ⟨rfl, ⟨rfl, rfl⟩, trivial⟩, rfl, trivial⟩
      · have h20 : ¬ (normE l).length > 4000 := by simp at h20; omega
        have hv : normF n l = ((n, normE l), 0) := by rw [hval, if_neg h20]
        dsimp only
        rw [hv]
        exact ⟨rfl, rfl, ⟨rfl, ⟨rfl, hfl.symm⟩, trivial⟩, rfl, trivial⟩
    have h8 : L[k] ≠ L[k - 1] := fun h => by rw [h] at h8; simp at h8
    refine Pick.T (inI64_of (by omega) (by omega)) ?_
    refine Next.by (k + 1) ⟨by omega, by omega, pw_step hkl hp (fun _ => ?_)⟩ (by show L.length - (k + 1) < L.length - k; omega) (by refine Weak.by [(0, some _), (1, some _)] (by ((repeat' first | exact rfl | exact trivial | refine And.intro ?_ ?_) <;> (repeat' first | exact rfl | exact trivial | refine And.intro ?_ ?_))) (by ((repeat' first | exact rfl | exact trivial | refine And.intro ?_ ?_) <;> (repeat' first | exact rfl | exact trivial | refine And.intro ?_ ?_))) (by rfl))
    have h11 := hsorted (k - 1) k (by omega) hkl (by omega)
    unfold ltE at h11 ⊢
    rcases Int.lt_trichotomy L[k].1 L[k - 1].1 with h | h | h
    · omega
    · rcases Int.lt_trichotomy L[k].2 L[k - 1].2 with h' | h' | h'
      · omega
      · exact absurd (Prod.ext h h') h8
      · omega
    · omega
  have hkl : k = L.length := by simp [edges_length] at h7; omega
  subst hkl
  rw [List.take_length] at hp
  have hfin : L = normE l := hLm L hp fun x => Iff.rfl
  rw [hfin]
  refine Pick.by (fun h20 => ?_) (fun h20 => ?_)
  · have h20 : (normE l).length > 4000 := by simp [edges_length] at h20; omega
    have hv : normF n l = ((0, []), 5) := by rw [hval, if_pos h20]
    dsimp only
    rw [hv]
    exact ⟨rfl, rfl, ⟨rfl, ⟨rfl, rfl⟩, trivial⟩, rfl, trivial⟩
  · have h20 : ¬ (normE l).length > 4000 := by simp [edges_length] at h20; omega
    have hv : normF n l = ((n, normE l), 0) := by rw [hval, if_neg h20]
    dsimp only
    rw [hv]
    exact ⟨rfl, rfl, ⟨rfl, ⟨rfl, rfl⟩, trivial⟩, rfl, trivial⟩
end Go.Sh

set_option linter.unusedVariables false
set_option linter.unusedSimpArgs false
namespace Go.Proofs
open Go.RowKit Go.Shelf Go.Sh

attribute [local go_sem] Oper.semAt_some
theorem Try.infoE : (Try.prog.info? 60).map (fun i => (i.zero, i.size, i.bytes)) = some (some (.agg #[.int .i64 0, .int .i64 0]), 2, 16) := by kernel_rfl
/-- the edges that are left of some under new numbers -/
def Try.renE (f : Int → Int) (E : List Ed) : List Ed := E.filterMap fun p => if f p.1 ≥ 0 ∧ f p.2 ≥ 0 then some (f p.1, f p.2) else none
theorem Try.renE_snoc (f : Int → Int) (E : List Ed) (p : Ed) : Try.renE f (E ++ [p]) = Try.renE f E ++ (if f p.1 ≥ 0 ∧ f p.2 ≥ 0 then [(f p.1, f p.2)] else []) := by
  unfold Try.renE
  rw [List.filterMap_append]
  congr 1
  by_cases h : f p.1 ≥ 0 ∧ f p.2 ≥ 0 <;> simp [h]
theorem Try.renE_length (f : Int → Int) (E : List Ed) : (Try.renE f E).length ≤ E.length := List.length_filterMap_le _ _
theorem Try.own_edges {w : World} {base : Nat} {x : Value} {L : List Ed} {e : TypeId} (h : w.ownsRow base e 2 x L.length (L.flatMap encE)) : ∃ A c, x = .slice A L.length c ∧ FlatOk w noLab none A c 2 (edges L) := by
  rcases h.2 with ⟨rfl, h0⟩ | ⟨g, cap, cur, rfl, hb, hg, h1, h2, h3, h4⟩
  · have : L = [] := List.eq_nil_of_length_eq_zero h0
    subst this
    exact ⟨none, 0, rfl, FlatOk.nil (by omega)⟩
  · refine ⟨_, _, rfl, ⟨by rw [edges_length]; exact h1, by omega, edges_even L, fun i row j x hi hj => ?_, fun h => by simp at h⟩⟩
    refine ⟨_, rfl, rfl, ?_⟩
    rw [Addr.add_plain, cells_at hg, Nat.zero_add]
    have hfl := flat_get (edges_even L) i j row hi (by have := edges_even L i row hi; have := (List.getElem?_eq_some_iff.1 hj).1; omega)
    have hil := (List.getElem?_eq_some_iff.1 hi).1
    rw [edges_length] at hil
    have hjl := (List.getElem?_eq_some_iff.1 hj).1
    have hr2 := edges_even L i row hi
    have hcr : cellsR (edges L) = L.flatMap encE := by
      unfold cellsR edges
      clear h h1 h2 h3 h4 hb hg hi hj hfl hil hjl
      induction L with
      | nil => rfl
      | cons p L ih => simp only [List.map_cons, List.flatten_cons, List.map_append, List.flatMap_cons, ih]; rfl
    have h5 : (cur.toList.take (L.length * 2))[i * 2 + j]? = some x.val := by
      rw [h4, ← hcr, cellsR, List.getElem?_map, hfl, hj]; rfl
    rw [List.getElem?_take_of_lt (by omega)] at h5
    rw [← Array.getElem?_toList]
    exact h5
/-- what sub.Delete's closure tells -/
def Try.delF (v x : Int) : Int := if x = v then -1 else if x > v then x - 1 else x
set_option maxHeartbeats 1000000 in
theorem Try.del1_in (m : Nat) (B : Nat) (v x : Int) (W : World) (hx : 0 ≤ x ∧ x ≤ 1000) (hv : W.cell? ⟨B, 0, none⟩ = some (.int .i64 v)) :
    CallsIn Fence.wide m Try.prog 58 #[.int .i64 x, .pointer (some ⟨B, 0, none⟩)] W fun e W' => e = .returned (.int .i64 (Try.delF v x)) ∧ W' = W := by
  refine callsIn_of_wp Try.func58 rfl trivial ?_ rfl
  simp only [Try.ntmps58, List.size_toArray, List.length_cons, List.length_nil, Nat.reduceAdd, Nat.reduceSub, Array.replicate_succ, Array.replicate_zero, List.push_toArray, List.append_toArray, List.nil_append, List.cons_append]
  unfold Try.delF
  by_cases h1 : x = v
  · have h1b : (x == v) = true := by simpa using h1
    rw [if_pos h1]
    gi_wp2
    go_ret
    exact ⟨rfl, rfl⟩
  · have h1b : (x == v) = false := by simpa using h1
    rw [if_neg h1]
    by_cases h2 : v < x
    · rw [if_pos h2]
      gi_wp2
      go_ret
      exact ⟨rfl, rfl⟩
    · rw [if_neg h2]
      gi_wp2
      go_ret
      exact ⟨rfl, rfl⟩
/-- what sub.Contract's closure tells -/
def Try.conF (hi lo x : Int) : Int := if x = hi then lo else if x > hi then x - 1 else x
set_option maxHeartbeats 1000000 in
theorem Try.con1_in (m : Nat) (B B2 : Nat) (hi lo x : Int) (W : World) (hx : 0 ≤ x ∧ x ≤ 1000) (hv : W.cell? ⟨B, 0, none⟩ = some (.int .i64 hi)) (hv2 : W.cell? ⟨B2, 0, none⟩ = some (.int .i64 lo)) :
    CallsIn Fence.wide m Try.prog 63 #[.int .i64 x, .pointer (some ⟨B, 0, none⟩), .pointer (some ⟨B2, 0, none⟩)] W fun e W' => e = .returned (.int .i64 (Try.conF hi lo x)) ∧ W' = W := by
  refine callsIn_of_wp Try.func63 rfl trivial ?_ rfl
  simp only [Try.ntmps63, List.size_toArray, List.length_cons, List.length_nil, Nat.reduceAdd, Nat.reduceSub, Array.replicate_succ, Array.replicate_zero, List.push_toArray, List.append_toArray, List.nil_append, List.cons_append]
  unfold Try.conF
  by_cases h1 : x = hi
  · have h1b : (x == hi) = true := by simpa using h1
    rw [if_pos h1]
    gi_wp2
    go_ret
    exact ⟨rfl, rfl⟩
  · have h1b : (x == hi) = false := by simpa using h1
    rw [if_neg h1]
    by_cases h2 : hi < x
    · rw [if_pos h2]
      gi_wp2
      go_ret
      exact ⟨rfl, rfl⟩
    · rw [if_neg h2]
      gi_wp2
      go_ret
      exact ⟨rfl, rfl⟩
end Go.Proofs

set_option linter.unusedVariables false
set_option linter.unusedSimpArgs false
namespace Go.Proofs
open Go.RowKit Go.Shelf Go.Sh

attribute [local go_sem] Oper.semAt_some
theorem Try.wide_fn (f : Nat) : Fence.wide.fn f = True := rfl
attribute [local go_sem] Try.wide_fn
theorem Try.own_ge {w : World} {b k size : Nat} {e : TypeId} {v : Value} {xs : List Value} (h : w.ownsRow b e size v k xs) : ∀ g, v.ownBlock = some g → b ≤ g := by
  intro g hg
  rcases h.2 with ⟨rfl, _⟩ | ⟨g', cap, cur, rfl, hb, _⟩
  · simp [Value.ownBlock] at hg
  · simp [Value.ownBlock] at hg; omega
theorem Try.cells_two (w : World) (x y : Value) (t : TypeId) : ∀ j u, [x, y][j]? = some u → (w.alloc (.cells #[x, y] t)).cell? ((⟨w.heap.size, 0, none⟩ : Addr).add j) = some u := by
  intro j u hj
  rw [Addr.add_plain, World.cell?]
  show (match (w.alloc _).heap[w.heap.size]? with | some (.cells c _ _) => _ | _ => _) = _
  rw [World.alloc_heap_new, Nat.zero_add]
  show #[x, y][j]? = some u
  rw [← hj]; simp
theorem Try.set2 {W : World} {b : Nat} {x y x' y' : Value} {T : TypeId} (h : W.heap[b]? = some (.cells #[x, y] T)) : ((W.setCell ⟨b, 0, none⟩ x').setCell ⟨b, 1, none⟩ y').heap[b]? = some (.cells #[x', y'] T) := by
  rw [Go.Sort.setCell_eq, Go.Sort.setCell_eq]
  simp [Go.Sort.mapBlock, Array.getElem?_modify, h, Go.Sort.onCells]
theorem Try.set2_size {W : World} {b : Nat} {x' y' : Value} : ((W.setCell ⟨b, 0, none⟩ x').setCell ⟨b, 1, none⟩ y').heap.size = W.heap.size := by simp [World.setCell]
theorem Try.set2_other {W : World} {b k : Nat} {x' y' : Value} (h : k ≠ b) : ((W.setCell ⟨b, 0, none⟩ x').setCell ⟨b, 1, none⟩ y').heap[k]? = W.heap[k]? := by
  rw [Below.heap_setCell _ _ _ _ h, Below.heap_setCell _ _ _ _ h]
theorem Try.tup2 {w : World} {lab : Nat → Option Key} {n r : Int} {E : List Ed} {u : Value} (h : VOk w lab 0 (.tup [grO n E, .one (.s (.i .i64 r))]) u) : ∃ A c, u = .tuple #[.agg #[.int .i64 n, .slice A E.length c], .int .i64 r] ∧ FlatOk w lab (some (1, none)) A c 2 (edges E) := by
  obtain ⟨us, rfl, hv⟩ := h
  obtain ⟨us⟩ := us
  match us, hv with
  | [], hv => exact hv.elim
  | [_], hv => exact hv.2.elim
  | _ :: _ :: _ :: _, hv => exact hv.2.2.elim
  | [ug, ue], hv =>
    obtain ⟨⟨cs, rfl, hc⟩, ⟨_, he⟩, _⟩ := hv
    obtain ⟨cs⟩ := cs
    match cs, hc with
    | [], hc => exact hc.elim
    | [_], hc => exact hc.2.elim
    | _ :: _ :: _ :: _, hc => exact hc.2.2.elim
    | [a, b], hc =>
      obtain ⟨⟨_, h1⟩, ⟨x, h2, h3⟩, _⟩ := hc
      have h1 : a = .int .i64 n := h1
      have he : ue = .int .i64 r := he
      rw [edges_length] at h2
      subst h1 he h2
      exact ⟨x.A, x.c, rfl, h3⟩
theorem Try.tup2_ok {w : World} {lab : Nat → Option Key} {n r : Int} {E : List Ed} {A : Option Addr} {c : Nat} (h : FlatOk w lab (some (1, none)) A c 2 (edges E)) : VOk w lab 0 (.tup [grO n E, .one (.s (.i .i64 r))]) (.tuple #[.agg #[.int .i64 n, .slice A E.length c], .int .i64 r]) :=
  ⟨_, rfl, ⟨_, rfl, ⟨⟨none, 0, fun _ => none, fun _ => 0⟩, rfl⟩, ⟨⟨A, c, fun _ => none, fun _ => 0⟩, by show Value.slice A E.length c = .slice A (edges E).length c; rw [edges_length], h⟩, trivial⟩, ⟨⟨none, 0, fun _ => none, fun _ => 0⟩, rfl⟩, trivial⟩
set_option maxRecDepth 100000 in
set_option maxHeartbeats 2000000 in
theorem Try.renDel_in (B : Nat) (f : Int → Int) (N n : Int) (E : List Ed) (A : Option Addr) (cap : Nat) (w : World) (hE : E.length ≤ 4000) (hn : n ≤ 1000) (hr : ∀ p ∈ E, okE n p) (h : FlatOk w noLab none A cap 2 (edges E))
    (hcl : ∀ (m : Nat) (x : Int) (W : World), 0 ≤ x ∧ x ≤ 1000 → Below w.heap.size w W → CallsIn Fence.wide m Try.prog 58 #[.int .i64 x, .pointer (some ⟨B, 0, none⟩)] W fun e W' => e = .returned (.int .i64 (f x)) ∧ W' = W)
    (R : (Int × List Ed) × Int) (hR : R = normF N (Try.renE f E)) :
    CallsIn Fence.wide 8 Try.prog 59 #[.agg #[.int .i64 N, .func (.func 58) #[] #[.pointer (some ⟨B, 0, none⟩)]], .agg #[.int .i64 n, .slice A E.length cap]] w fun e W' =>
      ∃ u lab, e = .returned u ∧ Below w.heap.size w W' ∧ (∀ b k, lab b = some k → w.heap.size ≤ b ∧ b < W'.heap.size) ∧ VOk W' lab 0 (.tup [grO R.1.1 R.1.2, .one (.s (.i .i64 R.2))]) u := by
  obtain ⟨i0, hi, hz0, hz1, hz2⟩ := info_parts Try.infoE
  obtain ⟨⟨n1, E1⟩, r1⟩ := R
  obtain ⟨w1, hw1⟩ : ∃ w1, w.alloc (.cells #[.int .i64 N, .func (.func 58) #[] #[.pointer (some ⟨B, 0, none⟩)]] 96) = w1 := ⟨_, rfl⟩
  obtain ⟨w2, hw2⟩ : ∃ w2, w1.alloc (.cells #[.int .i64 n, .slice A E.length cap] 26) = w2 := ⟨_, rfl⟩
  obtain ⟨w3, hw3⟩ : ∃ w3, w2.alloc (.cells #[.int .i64 0, .slice none 0 0] 26) = w3 := ⟨_, rfl⟩
  have s1 : w1.heap.size = w.heap.size + 1 := by rw [← hw1]; simp
  have s2 : w2.heap.size = w.heap.size + 2 := by rw [← hw2]; simp [s1]
  have s3 : w3.heap.size = w.heap.size + 3 := by rw [← hw3]; simp [s2]
  have b1 : Below w.heap.size w w1 := by rw [← hw1]; exact (Below.refl _ w).alloc (Nat.le_refl _) _
  have b2 : Below w.heap.size w w2 := by rw [← hw2]; exact b1.alloc (by omega) _
  have b3 : Below w.heap.size w w3 := by rw [← hw3]; exact b2.alloc (by omega) _
  have g1 : w3.heap[w.heap.size]? = some (.cells #[.int .i64 N, .func (.func 58) #[] #[.pointer (some ⟨B, 0, none⟩)]] 96) := by
    rw [← hw3, Below.heap_alloc _ _ _ (by omega), ← hw2, Below.heap_alloc _ _ _ (by omega), ← hw1]; exact World.alloc_heap_new _ _
  have g2 : w3.heap[w.heap.size + 1]? = some (.cells #[.int .i64 n, .slice A E.length cap] 26) := by
    rw [← hw3, Below.heap_alloc _ _ _ (by omega), ← hw2, ← s1]; exact World.alloc_heap_new _ _
  have g3 : w3.heap[w.heap.size + 2]? = some (.cells #[.int .i64 0, .slice none 0 0] 26) := by
    rw [← hw3, ← s2]; exact World.alloc_heap_new _ _
  have c10 : w3.cell? ⟨w.heap.size, 0, none⟩ = some (.int .i64 N) := by simp [World.cell?, g1]
  have c11 : w3.cell? ⟨w.heap.size, 1, none⟩ = some (.func (.func 58) #[] #[.pointer (some ⟨B, 0, none⟩)]) := by simp [World.cell?, g1]
  have c21 : w3.cell? ⟨w.heap.size + 1, 1, none⟩ = some (.slice A E.length cap) := by simp [World.cell?, g2]
  refine callsIn_of_wp Try.func59 rfl trivial ?_ rfl
  simp only [Try.ntmps59, List.size_toArray, List.length_cons, List.length_nil, Nat.reduceAdd, Nat.reduceSub, Array.replicate_succ, Array.replicate_zero, List.push_toArray, List.append_toArray, List.nil_append, List.cons_append]
  have hEd := Try.eds_of h
  gi_wp2
  gi_loopw [6, 14] (fun lv i wr => ∃ k : Nat, k ≤ E.length ∧ i = .int .i64 k ∧ wr.ownsRow (w.heap.size + 3) 60 2 lv (Try.renE f (E.take k)).length ((Try.renE f (E.take k)).flatMap encE) ∧ Below (w.heap.size + 3) w3 wr)
    (fun _ i _ => E.length - (intOf i).toNat)
  case atStart => exact ⟨0, Nat.zero_le _, rfl, World.ownsRow_nil _ _ _ _, Below.refl _ _⟩
  case round =>
    obtain ⟨k, hk, rfl, hrow, hB⟩ := hrel
    have hsz := hB.size
    rw [s3] at hsz
    have hBw : Below w.heap.size w wr := b3.trans (hB.mono (by omega))
    have m1 : wr.cell? ⟨w.heap.size, 0, none⟩ = some (.int .i64 N) := (hB.cell (p := ⟨w.heap.size, 0, none⟩) (by show w.heap.size < _; omega)).trans c10
    have m2 : wr.cell? ⟨w.heap.size, 1, none⟩ = some (.func (.func 58) #[] #[.pointer (some ⟨B, 0, none⟩)]) := (hB.cell (p := ⟨w.heap.size, 1, none⟩) (by show w.heap.size < _; omega)).trans c11
    by_cases hlt : k < E.length
    · obtain ⟨x, hx⟩ : ∃ x, E[k]? = some x := ⟨_, List.getElem?_eq_getElem hlt⟩
      have hok := hr x (List.mem_of_getElem? hx)
      obtain ⟨xa, xb⟩ := x
      have htk : E.take (k + 1) = E.take k ++ [(xa, xb)] := by
        rw [List.take_succ_eq_append_getElem hlt]
        rw [List.getElem?_eq_getElem hlt] at hx
        injection hx with hx
        rw [hx]
      have hst := Try.renE_snoc f (E.take k) (xa, xb)
      rw [← htk] at hst
      unfold okE at hok
      dsimp only at hok hst
      rcases hEd with ⟨rfl, _⟩ | ⟨ab, ao, c, e, hb, hcs⟩
      · simp at hlt
      injection e with e1 e2 e3
      subst e1
      subst e3
      have hcx1 : wr.cell? ⟨ab, ao + k * 2, none⟩ = some (.int .i64 xa) := (hBw.cell (p := ⟨ab, ao + k * 2, none⟩) hb).trans (hcs k _ hx).1
      have hcx2 : wr.cell? ⟨ab, ao + k * 2 + 1, none⟩ = some (.int .i64 xb) := (hBw.cell (p := ⟨ab, ao + k * 2 + 1, none⟩) hb).trans (hcs k _ hx).2
      have hB5 : Below (w.heap.size + 3) w3 (wr.alloc (.cells #[.int .i64 xa, .int .i64 xb] 60)) := hB.alloc (by omega) _
      have hBw5 : Below w.heap.size w (wr.alloc (.cells #[.int .i64 xa, .int .i64 xb] 60)) := hBw.alloc (by omega) _
      have n2 : (wr.alloc (.cells #[.int .i64 xa, .int .i64 xb] 60)).cell? ⟨w.heap.size, 1, none⟩ = some (.func (.func 58) #[] #[.pointer (some ⟨B, 0, none⟩)]) := (hB5.cell (p := ⟨w.heap.size, 1, none⟩) (by show w.heap.size < _; omega)).trans c11
      have hrow5 := hrow.alloc (.cells #[.int .i64 xa, .int .i64 xb] 60)
      have x0 : (wr.alloc (.cells #[.int .i64 xa, .int .i64 xb] 60)).cell? ⟨wr.heap.size, 0, none⟩ = some (.int .i64 xa) := by rw [World.cell?]; show (match (wr.alloc _).heap[wr.heap.size]? with | some (.cells c _ _) => _ | _ => _) = _; rw [World.alloc_heap_new]; rfl
      have x1 : (wr.alloc (.cells #[.int .i64 xa, .int .i64 xb] 60)).cell? ⟨wr.heap.size, 1, none⟩ = some (.int .i64 xb) := by rw [World.cell?]; show (match (wr.alloc _).heap[wr.heap.size]? with | some (.cells c _ _) => _ | _ => _) = _; rw [World.alloc_heap_new]; rfl
      have hdr : ∀ q, Below w.heap.size w ((wr.alloc (.cells #[.int .i64 xa, .int .i64 xb] 60)).drewN q) := fun q => ⟨hBw5.os, hBw5.tape, hBw5.output, hBw5.size, hBw5.block⟩
      gi_wp2
      have hxa : 0 ≤ xa ∧ xa ≤ 1000 := by omega
      have hxb : 0 ≤ xb ∧ xb ≤ 1000 := by omega
      gi_quiet ((gi_at_call 58; exact CallsIn.quiet_of_same (hcl _ _ _ (by first | exact hxa | exact hxb) (hdr _))))
      have hB6 : Below (w.heap.size + 3) w3 ((wr.alloc (.cells #[.int .i64 xa, .int .i64 xb] 60)).drewN nq) := ⟨hB5.os, hB5.tape, hB5.output, hB5.size, hB5.block⟩
      have hrow6 : ((wr.alloc (.cells #[.int .i64 xa, .int .i64 xb] 60)).drewN nq).ownsRow (w.heap.size + 3) 60 2 u6 (Try.renE f (E.take k)).length ((Try.renE f (E.take k)).flatMap encE) := hrow5
      generalize (wr.alloc (.cells #[.int .i64 xa, .int .i64 xb] 60)).drewN nq = W6 at hB6 hrow6 ⊢
      have hln := Try.renE_length f (E.take k)
      rw [List.length_take] at hln
      have hs6 := hB6.size
      have hmx : (Try.renE f (E.take k)).length + 1 ≤ maxLen := by unfold maxLen; omega
      have hm8 : ((Try.renE f (E.take k)).length + 1) * 16 ≤ 140737488355328 := by omega
      have hge := Try.own_ge hrow6
      have hsA : w.heap.size + 3 ≤ (W6.alloc (.cells #[.int .i64 (f xa), .int .i64 (f xb)] 60)).heap.size := by rw [World.size_alloc]; omega
      by_cases h1 : 0 ≤ f xa
      · by_cases h2 : 0 ≤ f xb
        · rw [if_pos ⟨h1, h2⟩] at hst
          gi_wp2_with (gi_at_builtin; refine wpListIn_append_own _ rfl _ _ 22 rfl (w.heap.size + 3) 60 i0 _ 2 16 Try.underlying22 hi hz0 hz1 hz2 rfl (by decide) _ _ _ rfl (hrow6.alloc _) ⟨W6.heap.size, 0, none⟩ 1 1 [.int .i64 (f xa), .int .i64 (f xb)] rfl rfl (Try.cells_two _ _ _ _) (by simp [Value.oneCell']) hmx hm8 hsA ?_; intro v' w1' hown' hgrow _)
          have hr7 : w1'.ownsRow (w.heap.size + 3) 60 2 v' (Try.renE f (E.take (k + 1))).length ((Try.renE f (E.take (k + 1))).flatMap encE) := by
            rw [hst, List.length_append, List.flatMap_append]
            simpa [encE] using hown'
          have hB7 : Below (w.heap.size + 3) w3 w1' := (hB6.alloc (by omega) _).grown hgrow hsA hge
          go_roundw
          case rel => exact ⟨k + 1, by omega, by simp, hr7, hB7⟩
          case measure => simp [intOf]; omega
        · rw [if_neg (fun h => h2 h.2), List.append_nil] at hst
          gi_wp2
          go_roundw
          case rel => exact ⟨k + 1, by omega, by simp, by rw [hst]; exact hrow6, hB6⟩
          case measure => simp [intOf]; omega
      · rw [if_neg (fun h => h1 h.1), List.append_nil] at hst
        gi_wp2
        go_roundw
        case rel => exact ⟨k + 1, by omega, by simp, by rw [hst]; exact hrow6, hB6⟩
        case measure => simp [intOf]; omega
    · obtain rfl : k = E.length := by omega
      rw [List.take_length] at hrow
      obtain ⟨lv, lc, rfl, hfl⟩ := Try.own_edges hrow
      have hll := Try.renE_length f E
      have hNF := NormC_at (n := N) (l := Try.renE f E) (by omega)
      have hcall := NormG_p _ _ _ hNF wr #[.int .i64 N, .slice lv (Try.renE f E).length lc] ⟨⟨⟨none, 0, fun _ => none, fun _ => 0⟩, rfl⟩, ⟨⟨lv, lc, fun _ => none, fun _ => 0⟩, by show Value.slice lv (Try.renE f E).length lc = .slice lv (edges (Try.renE f E)).length lc; rw [edges_length], hfl⟩, trivial⟩
      rw [← hR] at hcall
      clear hR hNF
      have g3' : wr.heap[w.heap.size + 2]? = some (.cells #[.int .i64 0, .slice none 0 0] 26) := (hB.block _ (by omega)).trans g3
      have hlt2 : w.heap.size + 2 < wr.heap.size := by omega
      gi_wp2
      gi_at_call 56
      refine (callsIn_wide.2 hcall).mono ?_
      rintro e W7 ⟨u, lab, rfl, hf7, hlab, hu⟩
      obtain ⟨ra, rc, rfl, hfl7⟩ := Try.tup2 hu
      have g37 : W7.heap[w.heap.size + 2]? = some (.cells #[.int .i64 0, .slice none 0 0] 26) := (hf7.block _ hlt2 (fun h => h)).trans g3'
      have q0 : W7.cell? ⟨w.heap.size + 2, 0, none⟩ = some (.int .i64 0) := by simp [World.cell?, g37]
      have q1 : W7.cell? ⟨w.heap.size + 2, 1, none⟩ = some (.slice none 0 0) := by simp [World.cell?, g37]
      have z0 : W7.frozen? ⟨w.heap.size + 2, 0, none⟩ = false := by simp [World.frozen?, g37]
      have z1 : W7.frozen? ⟨w.heap.size + 2, 1, none⟩ = false := by simp [World.frozen?, g37]
      gi_wp2
      have g38 := Try.set2 (x' := .int .i64 n1) (y' := .slice ra E1.length rc) g37
      have hz8 := Try.set2_size (W := W7) (b := w.heap.size + 2) (x' := .int .i64 n1) (y' := .slice ra E1.length rc)
      have ho8 : ∀ k, k ≠ w.heap.size + 2 → _ := fun k hk => Try.set2_other (W := W7) (x' := .int .i64 n1) (y' := .slice ra E1.length rc) hk
      have hB7 : Below w.heap.size w ((W7.setCell ⟨w.heap.size + 2, 0, none⟩ (.int .i64 n1)).setCell ⟨w.heap.size + 2, 1, none⟩ (.slice ra E1.length rc)) :=
        ((hBw.trans (hf7.below.mono (by omega))).setCell (p := ⟨w.heap.size + 2, 0, none⟩) (by show w.heap.size ≤ w.heap.size + 2; omega) _).setCell (p := ⟨w.heap.size + 2, 1, none⟩) (by show w.heap.size ≤ w.heap.size + 2; omega) _
      generalize (W7.setCell ⟨w.heap.size + 2, 0, none⟩ (.int .i64 n1)).setCell ⟨w.heap.size + 2, 1, none⟩ (.slice ra E1.length rc) = W8 at g38 hz8 ho8 hB7 ⊢
      have d0 : W8.cell? ⟨w.heap.size + 2, 0, none⟩ = some (.int .i64 n1) := by simp [World.cell?, g38]
      have d1 : W8.cell? ⟨w.heap.size + 2, 1, none⟩ = some (.slice ra E1.length rc) := by simp [World.cell?, g38]
      refine bodyPost_ret (v := .tuple #[.agg #[.int .i64 n1, .slice ra E1.length rc], .int .i64 r1]) ?_ rfl ?_
      · simp [results, Try.f59, go_sem, d0, d1]
      · refine ⟨_, lab, rfl, hB7, fun b k hk => ⟨by have := (hlab b k hk).1; omega, by rw [hz8]; exact (hlab b k hk).2⟩, Try.tup2_ok (hfl7.mono id fun b hb ho => ⟨ho, ho8 b ?_⟩)⟩
        have := (hlab b _ ho).1
        omega
set_option maxRecDepth 100000 in
set_option maxHeartbeats 2000000 in
theorem Try.renCon_in (B B2 : Nat) (f : Int → Int) (N n : Int) (E : List Ed) (A : Option Addr) (cap : Nat) (w : World) (hE : E.length ≤ 4000) (hn : n ≤ 1000) (hr : ∀ p ∈ E, okE n p) (h : FlatOk w noLab none A cap 2 (edges E))
    (hcl : ∀ (m : Nat) (x : Int) (W : World), 0 ≤ x ∧ x ≤ 1000 → Below w.heap.size w W → CallsIn Fence.wide m Try.prog 63 #[.int .i64 x, .pointer (some ⟨B, 0, none⟩), .pointer (some ⟨B2, 0, none⟩)] W fun e W' => e = .returned (.int .i64 (f x)) ∧ W' = W)
    (R : (Int × List Ed) × Int) (hR : R = normF N (Try.renE f E)) :
    CallsIn Fence.wide 8 Try.prog 59 #[.agg #[.int .i64 N, .func (.func 63) #[] #[.pointer (some ⟨B, 0, none⟩), .pointer (some ⟨B2, 0, none⟩)]], .agg #[.int .i64 n, .slice A E.length cap]] w fun e W' =>
      ∃ u lab, e = .returned u ∧ Below w.heap.size w W' ∧ (∀ b k, lab b = some k → w.heap.size ≤ b ∧ b < W'.heap.size) ∧ VOk W' lab 0 (.tup [grO R.1.1 R.1.2, .one (.s (.i .i64 R.2))]) u := by
  obtain ⟨i0, hi, hz0, hz1, hz2⟩ := info_parts Try.infoE
  obtain ⟨⟨n1, E1⟩, r1⟩ := R
  obtain ⟨w1, hw1⟩ : ∃ w1, w.alloc (.cells #[.int .i64 N, .func (.func 63) #[] #[.pointer (some ⟨B, 0, none⟩), .pointer (some ⟨B2, 0, none⟩)]] 96) = w1 := ⟨_, rfl⟩
  obtain ⟨w2, hw2⟩ : ∃ w2, w1.alloc (.cells #[.int .i64 n, .slice A E.length cap] 26) = w2 := ⟨_, rfl⟩
  obtain ⟨w3, hw3⟩ : ∃ w3, w2.alloc (.cells #[.int .i64 0, .slice none 0 0] 26) = w3 := ⟨_, rfl⟩
  have s1 : w1.heap.size = w.heap.size + 1 := by rw [← hw1]; simp
  have s2 : w2.heap.size = w.heap.size + 2 := by rw [← hw2]; simp [s1]
  have s3 : w3.heap.size = w.heap.size + 3 := by rw [← hw3]; simp [s2]
  have b1 : Below w.heap.size w w1 := by rw [← hw1]; exact (Below.refl _ w).alloc (Nat.le_refl _) _
  have b2 : Below w.heap.size w w2 := by rw [← hw2]; exact b1.alloc (by omega) _
  have b3 : Below w.heap.size w w3 := by rw [← hw3]; exact b2.alloc (by omega) _
  have g1 : w3.heap[w.heap.size]? = some (.cells #[.int .i64 N, .func (.func 63) #[] #[.pointer (some ⟨B, 0, none⟩), .pointer (some ⟨B2, 0, none⟩)]] 96) := by
    rw [← hw3, Below.heap_alloc _ _ _ (by omega), ← hw2, Below.heap_alloc _ _ _ (by omega), ← hw1]; exact World.alloc_heap_new _ _
  have g2 : w3.heap[w.heap.size + 1]? = some (.cells #[.int .i64 n, .slice A E.length cap] 26) := by
    rw [← hw3, Below.heap_alloc _ _ _ (by omega), ← hw2, ← s1]; exact World.alloc_heap_new _ _
  have g3 : w3.heap[w.heap.size + 2]? = some (.cells #[.int .i64 0, .slice none 0 0] 26) := by
    rw [← hw3, ← s2]; exact World.alloc_heap_new _ _
  have c10 : w3.cell? ⟨w.heap.size, 0, none⟩ = some (.int .i64 N) := by simp [World.cell?, g1]
  have c11 : w3.cell? ⟨w.heap.size, 1, none⟩ = some (.func (.func 63) #[] #[.pointer (some ⟨B, 0, none⟩), .pointer (some ⟨B2, 0, none⟩)]) := by simp [World.cell?, g1]
  have c21 : w3.cell? ⟨w.heap.size + 1, 1, none⟩ = some (.slice A E.length cap) := by simp [World.cell?, g2]
  refine callsIn_of_wp Try.func59 rfl trivial ?_ rfl
  simp only [Try.ntmps59, List.size_toArray, List.length_cons, List.length_nil, Nat.reduceAdd, Nat.reduceSub, Array.replicate_succ, Array.replicate_zero, List.push_toArray, List.append_toArray, List.nil_append, List.cons_append]
  have hEd := Try.eds_of h
  gi_wp2
  gi_loopw [6, 14] (fun lv i wr => ∃ k : Nat, k ≤ E.length ∧ i = .int .i64 k ∧ wr.ownsRow (w.heap.size + 3) 60 2 lv (Try.renE f (E.take k)).length ((Try.renE f (E.take k)).flatMap encE) ∧ Below (w.heap.size + 3) w3 wr)
    (fun _ i _ => E.length - (intOf i).toNat)
  case atStart => exact ⟨0, Nat.zero_le _, rfl, World.ownsRow_nil _ _ _ _, Below.refl _ _⟩
  case round =>
    obtain ⟨k, hk, rfl, hrow, hB⟩ := hrel
    have hsz := hB.size
    rw [s3] at hsz
    have hBw : Below w.heap.size w wr := b3.trans (hB.mono (by omega))
    have m1 : wr.cell? ⟨w.heap.size, 0, none⟩ = some (.int .i64 N) := (hB.cell (p := ⟨w.heap.size, 0, none⟩) (by show w.heap.size < _; omega)).trans c10
    have m2 : wr.cell? ⟨w.heap.size, 1, none⟩ = some (.func (.func 63) #[] #[.pointer (some ⟨B, 0, none⟩), .pointer (some ⟨B2, 0, none⟩)]) := (hB.cell (p := ⟨w.heap.size, 1, none⟩) (by show w.heap.size < _; omega)).trans c11
    by_cases hlt : k < E.length
    · obtain ⟨x, hx⟩ : ∃ x, E[k]? = some x := ⟨_, List.getElem?_eq_getElem hlt⟩
      have hok := hr x (List.mem_of_getElem? hx)
      obtain ⟨xa, xb⟩ := x
      have htk : E.take (k + 1) = E.take k ++ [(xa, xb)] := by
        rw [List.take_succ_eq_append_getElem hlt]
        rw [List.getElem?_eq_getElem hlt] at hx
        injection hx with hx
        rw [hx]
      have hst := Try.renE_snoc f (E.take k) (xa, xb)
      rw [← htk] at hst
      unfold okE at hok
      dsimp only at hok hst
      rcases hEd with ⟨rfl, _⟩ | ⟨ab, ao, c, e, hb, hcs⟩
      · simp at hlt
      injection e with e1 e2 e3
      subst e1
      subst e3
      have hcx1 : wr.cell? ⟨ab, ao + k * 2, none⟩ = some (.int .i64 xa) := (hBw.cell (p := ⟨ab, ao + k * 2, none⟩) hb).trans (hcs k _ hx).1
      have hcx2 : wr.cell? ⟨ab, ao + k * 2 + 1, none⟩ = some (.int .i64 xb) := (hBw.cell (p := ⟨ab, ao + k * 2 + 1, none⟩) hb).trans (hcs k _ hx).2
      have hB5 : Below (w.heap.size + 3) w3 (wr.alloc (.cells #[.int .i64 xa, .int .i64 xb] 60)) := hB.alloc (by omega) _
      have hBw5 : Below w.heap.size w (wr.alloc (.cells #[.int .i64 xa, .int .i64 xb] 60)) := hBw.alloc (by omega) _
      have n2 : (wr.alloc (.cells #[.int .i64 xa, .int .i64 xb] 60)).cell? ⟨w.heap.size, 1, none⟩ = some (.func (.func 63) #[] #[.pointer (some ⟨B, 0, none⟩), .pointer (some ⟨B2, 0, none⟩)]) := (hB5.cell (p := ⟨w.heap.size, 1, none⟩) (by show w.heap.size < _; omega)).trans c11
      have hrow5 := hrow.alloc (.cells #[.int .i64 xa, .int .i64 xb] 60)
      have x0 : (wr.alloc (.cells #[.int .i64 xa, .int .i64 xb] 60)).cell? ⟨wr.heap.size, 0, none⟩ = some (.int .i64 xa) := by rw [World.cell?]; show (match (wr.alloc _).heap[wr.heap.size]? with | some (.cells c _ _) => _ | _ => _) = _; rw [World.alloc_heap_new]; rfl
      have x1 : (wr.alloc (.cells #[.int .i64 xa, .int .i64 xb] 60)).cell? ⟨wr.heap.size, 1, none⟩ = some (.int .i64 xb) := by rw [World.cell?]; show (match (wr.alloc _).heap[wr.heap.size]? with | some (.cells c _ _) => _ | _ => _) = _; rw [World.alloc_heap_new]; rfl
      have hdr : ∀ q, Below w.heap.size w ((wr.alloc (.cells #[.int .i64 xa, .int .i64 xb] 60)).drewN q) := fun q => ⟨hBw5.os, hBw5.tape, hBw5.output, hBw5.size, hBw5.block⟩
      gi_wp2
      have hxa : 0 ≤ xa ∧ xa ≤ 1000 := by omega
      have hxb : 0 ≤ xb ∧ xb ≤ 1000 := by omega
      gi_quiet ((gi_at_call 63; exact CallsIn.quiet_of_same (hcl _ _ _ (by first | exact hxa | exact hxb) (hdr _))))
      have hB6 : Below (w.heap.size + 3) w3 ((wr.alloc (.cells #[.int .i64 xa, .int .i64 xb] 60)).drewN nq) := ⟨hB5.os, hB5.tape, hB5.output, hB5.size, hB5.block⟩
      have hrow6 : ((wr.alloc (.cells #[.int .i64 xa, .int .i64 xb] 60)).drewN nq).ownsRow (w.heap.size + 3) 60 2 u6 (Try.renE f (E.take k)).length ((Try.renE f (E.take k)).flatMap encE) := hrow5
      generalize (wr.alloc (.cells #[.int .i64 xa, .int .i64 xb] 60)).drewN nq = W6 at hB6 hrow6 ⊢
      have hln := Try.renE_length f (E.take k)
      rw [List.length_take] at hln
      have hs6 := hB6.size
      have hmx : (Try.renE f (E.take k)).length + 1 ≤ maxLen := by unfold maxLen; omega
      have hm8 : ((Try.renE f (E.take k)).length + 1) * 16 ≤ 140737488355328 := by omega
      have hge := Try.own_ge hrow6
      have hsA : w.heap.size + 3 ≤ (W6.alloc (.cells #[.int .i64 (f xa), .int .i64 (f xb)] 60)).heap.size := by rw [World.size_alloc]; omega
      by_cases h1 : 0 ≤ f xa
      · by_cases h2 : 0 ≤ f xb
        · rw [if_pos ⟨h1, h2⟩] at hst
          gi_wp2_with (gi_at_builtin; refine wpListIn_append_own _ rfl _ _ 22 rfl (w.heap.size + 3) 60 i0 _ 2 16 Try.underlying22 hi hz0 hz1 hz2 rfl (by decide) _ _ _ rfl (hrow6.alloc _) ⟨W6.heap.size, 0, none⟩ 1 1 [.int .i64 (f xa), .int .i64 (f xb)] rfl rfl (Try.cells_two _ _ _ _) (by simp [Value.oneCell']) hmx hm8 hsA ?_; intro v' w1' hown' hgrow _)
          have hr7 : w1'.ownsRow (w.heap.size + 3) 60 2 v' (Try.renE f (E.take (k + 1))).length ((Try.renE f (E.take (k + 1))).flatMap encE) := by
            rw [hst, List.length_append, List.flatMap_append]
            simpa [encE] using hown'
          have hB7 : Below (w.heap.size + 3) w3 w1' := (hB6.alloc (by omega) _).grown hgrow hsA hge
          go_roundw
          case rel => exact ⟨k + 1, by omega, by simp, hr7, hB7⟩
          case measure => simp [intOf]; omega
        · rw [if_neg (fun h => h2 h.2), List.append_nil] at hst
          gi_wp2
          go_roundw
          case rel => exact ⟨k + 1, by omega, by simp, by rw [hst]; exact hrow6, hB6⟩
          case measure => simp [intOf]; omega
      · rw [if_neg (fun h => h1 h.1), List.append_nil] at hst
        gi_wp2
        go_roundw
        case rel => exact ⟨k + 1, by omega, by simp, by rw [hst]; exact hrow6, hB6⟩
        case measure => simp [intOf]; omega
    · obtain rfl : k = E.length := by omega
      rw [List.take_length] at hrow
      obtain ⟨lv, lc, rfl, hfl⟩ := Try.own_edges hrow
      have hll := Try.renE_length f E
      have hNF := NormC_at (n := N) (l := Try.renE f E) (by omega)
      have hcall := NormG_p _ _ _ hNF wr #[.int .i64 N, .slice lv (Try.renE f E).length lc] ⟨⟨⟨none, 0, fun _ => none, fun _ => 0⟩, rfl⟩, ⟨⟨lv, lc, fun _ => none, fun _ => 0⟩, by show Value.slice lv (Try.renE f E).length lc = .slice lv (edges (Try.renE f E)).length lc; rw [edges_length], hfl⟩, trivial⟩
      rw [← hR] at hcall
      clear hR hNF
      have g3' : wr.heap[w.heap.size + 2]? = some (.cells #[.int .i64 0, .slice none 0 0] 26) := (hB.block _ (by omega)).trans g3
      have hlt2 : w.heap.size + 2 < wr.heap.size := by omega
      gi_wp2
      gi_at_call 56
      refine (callsIn_wide.2 hcall).mono ?_
      rintro e W7 ⟨u, lab, rfl, hf7, hlab, hu⟩
      obtain ⟨ra, rc, rfl, hfl7⟩ := Try.tup2 hu
      have g37 : W7.heap[w.heap.size + 2]? = some (.cells #[.int .i64 0, .slice none 0 0] 26) := (hf7.block _ hlt2 (fun h => h)).trans g3'
      have q0 : W7.cell? ⟨w.heap.size + 2, 0, none⟩ = some (.int .i64 0) := by simp [World.cell?, g37]
      have q1 : W7.cell? ⟨w.heap.size + 2, 1, none⟩ = some (.slice none 0 0) := by simp [World.cell?, g37]
      have z0 : W7.frozen? ⟨w.heap.size + 2, 0, none⟩ = false := by simp [World.frozen?, g37]
      have z1 : W7.frozen? ⟨w.heap.size + 2, 1, none⟩ = false := by simp [World.frozen?, g37]
      gi_wp2
      have g38 := Try.set2 (x' := .int .i64 n1) (y' := .slice ra E1.length rc) g37
      have hz8 := Try.set2_size (W := W7) (b := w.heap.size + 2) (x' := .int .i64 n1) (y' := .slice ra E1.length rc)
      have ho8 : ∀ k, k ≠ w.heap.size + 2 → _ := fun k hk => Try.set2_other (W := W7) (x' := .int .i64 n1) (y' := .slice ra E1.length rc) hk
      have hB7 : Below w.heap.size w ((W7.setCell ⟨w.heap.size + 2, 0, none⟩ (.int .i64 n1)).setCell ⟨w.heap.size + 2, 1, none⟩ (.slice ra E1.length rc)) :=
        ((hBw.trans (hf7.below.mono (by omega))).setCell (p := ⟨w.heap.size + 2, 0, none⟩) (by show w.heap.size ≤ w.heap.size + 2; omega) _).setCell (p := ⟨w.heap.size + 2, 1, none⟩) (by show w.heap.size ≤ w.heap.size + 2; omega) _
      generalize (W7.setCell ⟨w.heap.size + 2, 0, none⟩ (.int .i64 n1)).setCell ⟨w.heap.size + 2, 1, none⟩ (.slice ra E1.length rc) = W8 at g38 hz8 ho8 hB7 ⊢
      have d0 : W8.cell? ⟨w.heap.size + 2, 0, none⟩ = some (.int .i64 n1) := by simp [World.cell?, g38]
      have d1 : W8.cell? ⟨w.heap.size + 2, 1, none⟩ = some (.slice ra E1.length rc) := by simp [World.cell?, g38]
      refine bodyPost_ret (v := .tuple #[.agg #[.int .i64 n1, .slice ra E1.length rc], .int .i64 r1]) ?_ rfl ?_
      · simp [results, Try.f59, go_sem, d0, d1]
      · refine ⟨_, lab, rfl, hB7, fun b k hk => ⟨by have := (hlab b k hk).1; omega, by rw [hz8]; exact (hlab b k hk).2⟩, Try.tup2_ok (hfl7.mono id fun b hb ho => ⟨ho, ho8 b ?_⟩)⟩
        have := (hlab b _ ho).1
        omega
end Go.Proofs

set_option linter.unusedVariables false
set_option linter.unusedSimpArgs false
namespace Go.Sh
open Go.Proofs Go.RowKit Go.Shelf
/-! ### graph.Near, graph.Has: contracts -/
def hasG (n : Int) (E : List Ed) (a b : Int) : Bool := decide (RightP n E) && (nearL E a).elem b
theorem us_int {w : World} {q : Nat} {v : Int} {u : Value} (h : V1Ok w noLab q (.one (.s (.i .i64 v))) u) : u = .int .i64 v := by
  obtain ⟨x, h⟩ := h; exact h
end Go.Sh

set_option linter.unusedVariables false
set_option linter.unusedSimpArgs false
namespace Go.Proofs
open Go.RowKit Go.Shelf Go.Sh

attribute [local go_sem] Oper.semAt_some
theorem Try.wide_fn2 (f : Nat) : Fence.wide.fn f = True := rfl
attribute [local go_sem] Try.wide_fn2
theorem Try.lab_none (w W : World) (h : Below w.heap.size w W) : ∀ b k, noLab b = some k → w.heap.size ≤ b ∧ b < W.heap.size := fun b k h => by simp [noLab] at h
/-- what sub.Delete answers -/
def Try.delG (n : Int) (E : List Ed) (v : Int) : (Int × List Ed) × Int := if RightP n E then (if v < 0 ∨ v ≥ n then ((0, []), 4) else normF (n - 1) (Try.renE (Try.delF v) E)) else ((0, []), 1)
set_option maxRecDepth 100000 in
set_option maxHeartbeats 2000000 in
theorem Try.Delete_in (n v : Int) (E : List Ed) (A : Option Addr) (c : Nat) (w : World) (hE : E.length ≤ 1000000) (h : FlatOk w noLab none A c 2 (edges E)) (R : (Int × List Ed) × Int) (hR : R = Try.delG n E v) :
    CallsIn Fence.wide 9 Try.prog 31 #[.agg #[.int .i64 n, .slice A E.length c], .int .i64 v] w fun e W' =>
      ∃ u lab, e = .returned u ∧ Below w.heap.size w W' ∧ (∀ b k, lab b = some k → w.heap.size ≤ b ∧ b < W'.heap.size) ∧ VOk W' lab 0 (.tup [grO R.1.1 R.1.2, .one (.s (.i .i64 R.2))]) u := by
  obtain ⟨w1, hw1⟩ : ∃ w1, w.alloc (.cells #[.int .i64 n, .slice A E.length c] 26) = w1 := ⟨_, rfl⟩
  obtain ⟨w2, hw2⟩ : ∃ w2, w1.alloc (.cells #[.int .i64 v] 3) = w2 := ⟨_, rfl⟩
  obtain ⟨w3, hw3⟩ : ∃ w3, w2.alloc (.cells #[.int .i64 0, .slice none 0 0] 26) = w3 := ⟨_, rfl⟩
  have s1 : w1.heap.size = w.heap.size + 1 := by rw [← hw1]; simp
  have s2 : w2.heap.size = w.heap.size + 2 := by rw [← hw2]; simp [s1]
  have s3 : w3.heap.size = w.heap.size + 3 := by rw [← hw3]; simp [s2]
  have b1 : Below w.heap.size w w1 := by rw [← hw1]; exact (Below.refl _ w).alloc (Nat.le_refl _) _
  have b2 : Below w.heap.size w w2 := by rw [← hw2]; exact b1.alloc (by omega) _
  have b3 : Below w.heap.size w w3 := by rw [← hw3]; exact b2.alloc (by omega) _
  have g1 : w3.heap[w.heap.size]? = some (.cells #[.int .i64 n, .slice A E.length c] 26) := by
    rw [← hw3, Below.heap_alloc _ _ _ (by omega), ← hw2, Below.heap_alloc _ _ _ (by omega), ← hw1]; exact World.alloc_heap_new _ _
  have g2 : w3.heap[w.heap.size + 1]? = some (.cells #[.int .i64 v] 3) := by
    rw [← hw3, Below.heap_alloc _ _ _ (by omega), ← hw2, ← s1]; exact World.alloc_heap_new _ _
  have g3 : w3.heap[w.heap.size + 2]? = some (.cells #[.int .i64 0, .slice none 0 0] 26) := by
    rw [← hw3, ← s2]; exact World.alloc_heap_new _ _
  have c10 : w3.cell? ⟨w.heap.size, 0, none⟩ = some (.int .i64 n) := by simp [World.cell?, g1]
  have c11 : w3.cell? ⟨w.heap.size, 1, none⟩ = some (.slice A E.length c) := by simp [World.cell?, g1]
  refine callsIn_of_wp Try.func31 rfl trivial ?_ rfl
  simp only [Try.ntmps31, List.size_toArray, List.length_cons, List.length_nil, Nat.reduceAdd, Nat.reduceSub, Array.replicate_succ, Array.replicate_zero, List.push_toArray, List.append_toArray, List.nil_append, List.cons_append]
  have f3 := Try.flat_below h (fun b hb => b3.block b hb)
  have l3 : w.heap.size + 2 < w3.heap.size := by omega
  obtain ⟨W7, hW7⟩ : ∃ W7 : World, True := ⟨w, trivial⟩
  clear W7 hW7
  have hright := Try.right_in 8 w3 n E A c f3
  by_cases hRt : RightP n E
  · rw [decide_eq_true hRt] at hright
    gi_wp2
    gi_at_call 39
    refine hright.mono ?_
    rintro e W7 ⟨rfl, hb7⟩
    have m0 := (hb7.cell (p := ⟨w.heap.size, 0, none⟩) (by show w.heap.size < _; omega)).trans c10
    have m1 := (hb7.cell (p := ⟨w.heap.size, 1, none⟩) (by show w.heap.size < _; omega)).trans c11
    have g27 : W7.heap[w.heap.size + 1]? = some (.cells #[.int .i64 v] 3) := (hb7.block _ (by omega)).trans g2
    have mv : W7.cell? ⟨w.heap.size + 1, 0, none⟩ = some (.int .i64 v) := by simp [World.cell?, g27]
    have g37 : W7.heap[w.heap.size + 2]? = some (.cells #[.int .i64 0, .slice none 0 0] 26) := (hb7.block _ l3).trans g3
    have q0 : W7.cell? ⟨w.heap.size + 2, 0, none⟩ = some (.int .i64 0) := by simp [World.cell?, g37]
    have q1 : W7.cell? ⟨w.heap.size + 2, 1, none⟩ = some (.slice none 0 0) := by simp [World.cell?, g37]
    have z0 : W7.frozen? ⟨w.heap.size + 2, 0, none⟩ = false := by simp [World.frozen?, g37]
    have z1 : W7.frozen? ⟨w.heap.size + 2, 1, none⟩ = false := by simp [World.frozen?, g37]
    have hB7 : Below w.heap.size w W7 := b3.trans (hb7.mono (by omega))
    have l7 : w.heap.size + 2 < W7.heap.size := Nat.lt_of_lt_of_le l3 hb7.size
    have l17 : w.heap.size + 1 < W7.heap.size := by omega
    by_cases h1 : v < 0
    · have hv : R = ((0, []), 4) := by rw [hR]; unfold Try.delG; rw [if_pos hRt, if_pos (.inl h1)]
      subst hv
      gi_wp2
      have g38 := Try.set2 (x' := .int .i64 0) (y' := .slice none 0 0) g37
      have hB8 : Below w.heap.size w ((W7.setCell ⟨w.heap.size + 2, 0, none⟩ (.int .i64 0)).setCell ⟨w.heap.size + 2, 1, none⟩ (.slice none 0 0)) :=
        (hB7.setCell (p := ⟨w.heap.size + 2, 0, none⟩) (by show w.heap.size ≤ w.heap.size + 2; omega) _).setCell (p := ⟨w.heap.size + 2, 1, none⟩) (by show w.heap.size ≤ w.heap.size + 2; omega) _
      generalize (W7.setCell ⟨w.heap.size + 2, 0, none⟩ (.int .i64 0)).setCell ⟨w.heap.size + 2, 1, none⟩ (.slice none 0 0) = W8 at g38 hB8 ⊢
      have d0 : W8.cell? ⟨w.heap.size + 2, 0, none⟩ = some (.int .i64 0) := by simp [World.cell?, g38]
      have d1 : W8.cell? ⟨w.heap.size + 2, 1, none⟩ = some (.slice none 0 0) := by simp [World.cell?, g38]
      refine bodyPost_ret (v := .tuple #[.agg #[.int .i64 0, .slice none 0 0], .int .i64 4]) ?_ rfl ?_
      · simp [results, Try.f31, go_sem, d0, d1]
      · first
          | exact ⟨_, rfl, hB8, noLab, fun b k l hk => by simp [noLab] at hk, Try.tup2_ok (E := []) (FlatOk.nil (by omega))⟩
          | exact ⟨_, noLab, rfl, hB8, Try.lab_none _ _ hB8, Try.tup2_ok (E := []) (FlatOk.nil (by omega))⟩
    · by_cases h2 : n ≤ v
      · have hv : R = ((0, []), 4) := by rw [hR]; unfold Try.delG; rw [if_pos hRt, if_pos (.inr h2)]
        subst hv
        gi_wp2
        have g38 := Try.set2 (x' := .int .i64 0) (y' := .slice none 0 0) g37
        have hB8 : Below w.heap.size w ((W7.setCell ⟨w.heap.size + 2, 0, none⟩ (.int .i64 0)).setCell ⟨w.heap.size + 2, 1, none⟩ (.slice none 0 0)) :=
          (hB7.setCell (p := ⟨w.heap.size + 2, 0, none⟩) (by show w.heap.size ≤ w.heap.size + 2; omega) _).setCell (p := ⟨w.heap.size + 2, 1, none⟩) (by show w.heap.size ≤ w.heap.size + 2; omega) _
        generalize (W7.setCell ⟨w.heap.size + 2, 0, none⟩ (.int .i64 0)).setCell ⟨w.heap.size + 2, 1, none⟩ (.slice none 0 0) = W8 at g38 hB8 ⊢
        have d0 : W8.cell? ⟨w.heap.size + 2, 0, none⟩ = some (.int .i64 0) := by simp [World.cell?, g38]
        have d1 : W8.cell? ⟨w.heap.size + 2, 1, none⟩ = some (.slice none 0 0) := by simp [World.cell?, g38]
        refine bodyPost_ret (v := .tuple #[.agg #[.int .i64 0, .slice none 0 0], .int .i64 4]) ?_ rfl ?_
        · simp [results, Try.f31, go_sem, d0, d1]
        · first
            | exact ⟨_, rfl, hB8, noLab, fun b k l hk => by simp [noLab] at hk, Try.tup2_ok (E := []) (FlatOk.nil (by omega))⟩
            | exact ⟨_, noLab, rfl, hB8, Try.lab_none _ _ hB8, Try.tup2_ok (E := []) (FlatOk.nil (by omega))⟩
      · have hv : normF (n - 1) (Try.renE (Try.delF v) E) = R := by rw [hR]; unfold Try.delG; rw [if_pos hRt, if_neg (by omega)]
        clear hR
        have h7 := Try.flat_below h (fun b hb => hB7.block b hb)
        have hren := Try.renDel_in (w.heap.size + 1) (Try.delF v) (n - 1) n E A c W7 hRt.2.2.1 hRt.2.1 hRt.2.2.2.1 h7 (fun m x W hx hW => Try.del1_in m (w.heap.size + 1) v x W hx ((hW.cell (p := ⟨w.heap.size + 1, 0, none⟩) l17).trans mv)) R hv.symm
        obtain ⟨⟨n1, E1⟩, r1⟩ := R
        clear hv
        gi_wp2
        gi_at_call 59
        have hn1000 : n ≤ 1000 := hRt.2.1
        have hw64 : wrap64 (n - 1) = n - 1 := by unfold wrap64; omega
        rw [hw64]
        refine hren.mono ?_
        rintro e W9 ⟨u, lab, rfl, hb9, hlab, hu⟩
        obtain ⟨ra, rc, rfl, hfl9⟩ := Try.tup2 hu
        have g39 : W9.heap[w.heap.size + 2]? = some (.cells #[.int .i64 0, .slice none 0 0] 26) := (hb9.block _ l7).trans g37
        have q0 : W9.cell? ⟨w.heap.size + 2, 0, none⟩ = some (.int .i64 0) := by simp [World.cell?, g39]
        have q1 : W9.cell? ⟨w.heap.size + 2, 1, none⟩ = some (.slice none 0 0) := by simp [World.cell?, g39]
        have z0 : W9.frozen? ⟨w.heap.size + 2, 0, none⟩ = false := by simp [World.frozen?, g39]
        have z1 : W9.frozen? ⟨w.heap.size + 2, 1, none⟩ = false := by simp [World.frozen?, g39]
        gi_wp2
        have g38 := Try.set2 (x' := .int .i64 n1) (y' := .slice ra E1.length rc) g39
        have hz8 := Try.set2_size (W := W9) (b := w.heap.size + 2) (x' := .int .i64 n1) (y' := .slice ra E1.length rc)
        have ho8 : ∀ k, k ≠ w.heap.size + 2 → _ := fun k hk => Try.set2_other (W := W9) (x' := .int .i64 n1) (y' := .slice ra E1.length rc) hk
        have hB8 : Below w.heap.size w ((W9.setCell ⟨w.heap.size + 2, 0, none⟩ (.int .i64 n1)).setCell ⟨w.heap.size + 2, 1, none⟩ (.slice ra E1.length rc)) :=
          ((hB7.trans (hb9.mono (by omega))).setCell (p := ⟨w.heap.size + 2, 0, none⟩) (by show w.heap.size ≤ w.heap.size + 2; omega) _).setCell (p := ⟨w.heap.size + 2, 1, none⟩) (by show w.heap.size ≤ w.heap.size + 2; omega) _
        generalize (W9.setCell ⟨w.heap.size + 2, 0, none⟩ (.int .i64 n1)).setCell ⟨w.heap.size + 2, 1, none⟩ (.slice ra E1.length rc) = W8 at g38 hz8 ho8 hB8 ⊢
        have d0 : W8.cell? ⟨w.heap.size + 2, 0, none⟩ = some (.int .i64 n1) := by simp [World.cell?, g38]
        have d1 : W8.cell? ⟨w.heap.size + 2, 1, none⟩ = some (.slice ra E1.length rc) := by simp [World.cell?, g38]
        have hlab8 : ∀ b k, lab b = some k → w.heap.size ≤ b ∧ b < W8.heap.size := fun b k hk => ⟨by have := (hlab b k hk).1; omega, by rw [hz8]; exact (hlab b k hk).2⟩
        have hfl8 : FlatOk W8 lab (some (1, none)) ra rc 2 (edges E1) := hfl9.mono id fun b hb ho => ⟨ho, ho8 b (by have := (hlab b _ ho).1; omega)⟩
        refine bodyPost_ret (v := .tuple #[.agg #[.int .i64 n1, .slice ra E1.length rc], .int .i64 r1]) ?_ rfl ?_
        · simp [results, Try.f31, go_sem, d0, d1]
        · first
            | exact ⟨_, rfl, hB8, lab, fun b k l hk => hlab8 b (k, l) hk, Try.tup2_ok hfl8⟩
            | exact ⟨_, lab, rfl, hB8, hlab8, Try.tup2_ok hfl8⟩
  · rw [decide_eq_false hRt] at hright
    have hv : R = ((0, []), 1) := by rw [hR]; unfold Try.delG; rw [if_neg hRt]
    subst hv
    gi_wp2
    gi_at_call 39
    refine hright.mono ?_
    rintro e W7 ⟨rfl, hb7⟩
    have g37 : W7.heap[w.heap.size + 2]? = some (.cells #[.int .i64 0, .slice none 0 0] 26) := (hb7.block _ l3).trans g3
    have q0 : W7.cell? ⟨w.heap.size + 2, 0, none⟩ = some (.int .i64 0) := by simp [World.cell?, g37]
    have q1 : W7.cell? ⟨w.heap.size + 2, 1, none⟩ = some (.slice none 0 0) := by simp [World.cell?, g37]
    have z0 : W7.frozen? ⟨w.heap.size + 2, 0, none⟩ = false := by simp [World.frozen?, g37]
    have z1 : W7.frozen? ⟨w.heap.size + 2, 1, none⟩ = false := by simp [World.frozen?, g37]
    have hB7 : Below w.heap.size w W7 := b3.trans (hb7.mono (by omega))
    gi_wp2
    have g38 := Try.set2 (x' := .int .i64 0) (y' := .slice none 0 0) g37
    have hB8 : Below w.heap.size w ((W7.setCell ⟨w.heap.size + 2, 0, none⟩ (.int .i64 0)).setCell ⟨w.heap.size + 2, 1, none⟩ (.slice none 0 0)) :=
      (hB7.setCell (p := ⟨w.heap.size + 2, 0, none⟩) (by show w.heap.size ≤ w.heap.size + 2; omega) _).setCell (p := ⟨w.heap.size + 2, 1, none⟩) (by show w.heap.size ≤ w.heap.size + 2; omega) _
    generalize (W7.setCell ⟨w.heap.size + 2, 0, none⟩ (.int .i64 0)).setCell ⟨w.heap.size + 2, 1, none⟩ (.slice none 0 0) = W8 at g38 hB8 ⊢
    have d0 : W8.cell? ⟨w.heap.size + 2, 0, none⟩ = some (.int .i64 0) := by simp [World.cell?, g38]
    have d1 : W8.cell? ⟨w.heap.size + 2, 1, none⟩ = some (.slice none 0 0) := by simp [World.cell?, g38]
    refine bodyPost_ret (v := .tuple #[.agg #[.int .i64 0, .slice none 0 0], .int .i64 1]) ?_ rfl ?_
    · simp [results, Try.f31, go_sem, d0, d1]
    · first
        | exact ⟨_, rfl, hB8, noLab, fun b k l hk => by simp [noLab] at hk, Try.tup2_ok (E := []) (FlatOk.nil (by omega))⟩
        | exact ⟨_, noLab, rfl, hB8, Try.lab_none _ _ hB8, Try.tup2_ok (E := []) (FlatOk.nil (by omega))⟩
/-- what sub.Contract answers -/
def Try.conG (n : Int) (E : List Ed) (a b : Int) : (Int × List Ed) × Int := if RightP n E then (if mnI a b < 0 ∨ mxI a b ≥ n then ((0, []), 4) else if hasG n E a b = true then normF (n - 1) (Try.renE (Try.conF (mxI a b) (mnI a b)) E) else ((0, []), 6)) else ((0, []), 1)
set_option maxRecDepth 100000 in
set_option maxHeartbeats 2000000 in
theorem Try.Contract_in (n a b : Int) (E : List Ed) (A : Option Addr) (c : Nat) (w : World) (hE : E.length ≤ 1000000) (h : FlatOk w noLab none A c 2 (edges E)) (R : (Int × List Ed) × Int) (hR : R = Try.conG n E a b) :
    CallsIn Fence.wide 9 Try.prog 33 #[.agg #[.int .i64 n, .slice A E.length c], .int .i64 a, .int .i64 b] w fun e W' =>
      ∃ u lab, e = .returned u ∧ Below w.heap.size w W' ∧ (∀ b k, lab b = some k → w.heap.size ≤ b ∧ b < W'.heap.size) ∧ VOk W' lab 0 (.tup [grO R.1.1 R.1.2, .one (.s (.i .i64 R.2))]) u := by
  obtain ⟨w1, hw1⟩ : ∃ w1, w.alloc (.cells #[.int .i64 n, .slice A E.length c] 26) = w1 := ⟨_, rfl⟩
  obtain ⟨w3, hw3⟩ : ∃ w3, w1.alloc (.cells #[.int .i64 0, .slice none 0 0] 26) = w3 := ⟨_, rfl⟩
  have s1 : w1.heap.size = w.heap.size + 1 := by rw [← hw1]; simp
  have s3 : w3.heap.size = w.heap.size + 2 := by rw [← hw3]; simp [s1]
  have b1 : Below w.heap.size w w1 := by rw [← hw1]; exact (Below.refl _ w).alloc (Nat.le_refl _) _
  have b3 : Below w.heap.size w w3 := by rw [← hw3]; exact b1.alloc (by omega) _
  have g1 : w3.heap[w.heap.size]? = some (.cells #[.int .i64 n, .slice A E.length c] 26) := by
    rw [← hw3, Below.heap_alloc _ _ _ (by omega), ← hw1]; exact World.alloc_heap_new _ _
  have g3 : w3.heap[w.heap.size + 1]? = some (.cells #[.int .i64 0, .slice none 0 0] 26) := by
    rw [← hw3, ← s1]; exact World.alloc_heap_new _ _
  have c10 : w3.cell? ⟨w.heap.size, 0, none⟩ = some (.int .i64 n) := by simp [World.cell?, g1]
  have c11 : w3.cell? ⟨w.heap.size, 1, none⟩ = some (.slice A E.length c) := by simp [World.cell?, g1]
  refine callsIn_of_wp Try.func33 rfl trivial ?_ rfl
  simp only [Try.ntmps33, List.size_toArray, List.length_cons, List.length_nil, Nat.reduceAdd, Nat.reduceSub, Array.replicate_succ, Array.replicate_zero, List.push_toArray, List.append_toArray, List.nil_append, List.cons_append]
  have f3 := Try.flat_below h (fun b hb => b3.block b hb)
  have l3 : w.heap.size + 1 < w3.heap.size := by omega
  have hright := Try.right_in 8 w3 n E A c f3
  by_cases hRt : RightP n E
  · rw [decide_eq_true hRt] at hright
    gi_wp2
    gi_at_call 39
    refine hright.mono ?_
    rintro e W7 ⟨rfl, hb7⟩
    have m0 := (hb7.cell (p := ⟨w.heap.size, 0, none⟩) (by show w.heap.size < _; omega)).trans c10
    have m1 := (hb7.cell (p := ⟨w.heap.size, 1, none⟩) (by show w.heap.size < _; omega)).trans c11
    have g37 : W7.heap[w.heap.size + 1]? = some (.cells #[.int .i64 0, .slice none 0 0] 26) := (hb7.block _ l3).trans g3
    have q0 : W7.cell? ⟨w.heap.size + 1, 0, none⟩ = some (.int .i64 0) := by simp [World.cell?, g37]
    have q1 : W7.cell? ⟨w.heap.size + 1, 1, none⟩ = some (.slice none 0 0) := by simp [World.cell?, g37]
    have z0 : W7.frozen? ⟨w.heap.size + 1, 0, none⟩ = false := by simp [World.frozen?, g37]
    have z1 : W7.frozen? ⟨w.heap.size + 1, 1, none⟩ = false := by simp [World.frozen?, g37]
    have hB7 : Below w.heap.size w W7 := b3.trans (hb7.mono (by omega))
    have l7 : w.heap.size + 1 < W7.heap.size := Nat.lt_of_lt_of_le l3 hb7.size
    have l17 : w.heap.size < W7.heap.size := by omega
    have hmn : mnI a b = min a b := by unfold mnI; omega
    have hmx : mxI a b = max a b := by unfold mxI; omega
    by_cases h1 : min a b < 0
    · have hv : R = ((0, []), 4) := by rw [hR]; unfold Try.conG; rw [if_pos hRt, if_pos (.inl (by rw [hmn]; exact h1))]
      subst hv
      gi_wp2
      have g38 := Try.set2 (x' := .int .i64 0) (y' := .slice none 0 0) g37
      have hB8 : Below w.heap.size w ((W7.setCell ⟨w.heap.size + 1, 0, none⟩ (.int .i64 0)).setCell ⟨w.heap.size + 1, 1, none⟩ (.slice none 0 0)) :=
        (hB7.setCell (p := ⟨w.heap.size + 1, 0, none⟩) (by show w.heap.size ≤ w.heap.size + 1; omega) _).setCell (p := ⟨w.heap.size + 1, 1, none⟩) (by show w.heap.size ≤ w.heap.size + 1; omega) _
      generalize (W7.setCell ⟨w.heap.size + 1, 0, none⟩ (.int .i64 0)).setCell ⟨w.heap.size + 1, 1, none⟩ (.slice none 0 0) = W8 at g38 hB8 ⊢
      have d0 : W8.cell? ⟨w.heap.size + 1, 0, none⟩ = some (.int .i64 0) := by simp [World.cell?, g38]
      have d1 : W8.cell? ⟨w.heap.size + 1, 1, none⟩ = some (.slice none 0 0) := by simp [World.cell?, g38]
      refine bodyPost_ret (v := .tuple #[.agg #[.int .i64 0, .slice none 0 0], .int .i64 4]) ?_ rfl ?_
      · simp [results, Try.f33, go_sem, d0, d1]
      · first
          | exact ⟨_, rfl, hB8, noLab, fun b k l hk => by simp [noLab] at hk, Try.tup2_ok (E := []) (FlatOk.nil (by omega))⟩
          | exact ⟨_, noLab, rfl, hB8, Try.lab_none _ _ hB8, Try.tup2_ok (E := []) (FlatOk.nil (by omega))⟩
    by_cases h2 : n ≤ max a b
    · have hv : R = ((0, []), 4) := by rw [hR]; unfold Try.conG; rw [if_pos hRt, if_pos (.inr (by rw [hmx]; exact h2))]
      subst hv
      gi_wp2
      have g38 := Try.set2 (x' := .int .i64 0) (y' := .slice none 0 0) g37
      have hB8 : Below w.heap.size w ((W7.setCell ⟨w.heap.size + 1, 0, none⟩ (.int .i64 0)).setCell ⟨w.heap.size + 1, 1, none⟩ (.slice none 0 0)) :=
        (hB7.setCell (p := ⟨w.heap.size + 1, 0, none⟩) (by show w.heap.size ≤ w.heap.size + 1; omega) _).setCell (p := ⟨w.heap.size + 1, 1, none⟩) (by show w.heap.size ≤ w.heap.size + 1; omega) _
      generalize (W7.setCell ⟨w.heap.size + 1, 0, none⟩ (.int .i64 0)).setCell ⟨w.heap.size + 1, 1, none⟩ (.slice none 0 0) = W8 at g38 hB8 ⊢
      have d0 : W8.cell? ⟨w.heap.size + 1, 0, none⟩ = some (.int .i64 0) := by simp [World.cell?, g38]
      have d1 : W8.cell? ⟨w.heap.size + 1, 1, none⟩ = some (.slice none 0 0) := by simp [World.cell?, g38]
      refine bodyPost_ret (v := .tuple #[.agg #[.int .i64 0, .slice none 0 0], .int .i64 4]) ?_ rfl ?_
      · simp [results, Try.f33, go_sem, d0, d1]
      · first
          | exact ⟨_, rfl, hB8, noLab, fun b k l hk => by simp [noLab] at hk, Try.tup2_ok (E := []) (FlatOk.nil (by omega))⟩
          | exact ⟨_, noLab, rfl, hB8, Try.lab_none _ _ hB8, Try.tup2_ok (E := []) (FlatOk.nil (by omega))⟩
    have h7 := Try.flat_below h (fun b hb => hB7.block b hb)
    have hHas : CallsIn Fence.wide 8 Try.prog 37 #[.agg #[.int .i64 n, .slice A E.length c], .int .i64 a, .int .i64 b] W7 fun e W' => e = .returned (.bool (hasG n E a b)) ∧ Below W7.heap.size W7 W' := callsIn_wide.2 ((callsIn_wide (n := 6)).1 (Try.Has_in n a b E A c W7 hE h7))
    by_cases h3 : hasG n E a b = true
    · rw [h3] at hHas
      have hv : normF (n - 1) (Try.renE (Try.conF (mxI a b) (mnI a b)) E) = R := by rw [hR]; unfold Try.conG; rw [if_pos hRt, if_neg (by rw [hmn, hmx]; omega), if_pos h3]
      clear hR
      rw [hmn, hmx] at hv
      gi_wp2
      gi_at_call 37
      refine hHas.mono ?_
      rintro e W6 ⟨rfl, hb6⟩
      have hB6 : Below w.heap.size w W6 := hB7.trans (hb6.mono (by omega))
      have l6 : w.heap.size + 1 < W6.heap.size := Nat.lt_of_lt_of_le l7 hb6.size
      have n0 := (hb6.cell (p := ⟨w.heap.size, 0, none⟩) (by show w.heap.size < _; omega)).trans m0
      have n1 := (hb6.cell (p := ⟨w.heap.size, 1, none⟩) (by show w.heap.size < _; omega)).trans m1
      have g36 : W6.heap[w.heap.size + 1]? = some (.cells #[.int .i64 0, .slice none 0 0] 26) := (hb6.block _ l7).trans g37
      obtain ⟨W5, hW5⟩ : ∃ W5, W6.alloc (.cells #[.int .i64 (min a b)] 3) = W5 := ⟨_, rfl⟩
      obtain ⟨W4, hW4⟩ : ∃ W4, W5.alloc (.cells #[.int .i64 (max a b)] 3) = W4 := ⟨_, rfl⟩
      have t5 : W5.heap.size = W6.heap.size + 1 := by rw [← hW5]; simp
      have t4 : W4.heap.size = W6.heap.size + 2 := by rw [← hW4]; simp [t5]
      have k5 : Below W6.heap.size W6 W5 := by rw [← hW5]; exact (Below.refl _ W6).alloc (Nat.le_refl _) _
      have k4 : Below W6.heap.size W6 W4 := by rw [← hW4]; exact k5.alloc (by omega) _
      have gl : W4.heap[W6.heap.size]? = some (.cells #[.int .i64 (min a b)] 3) := by
        rw [← hW4, Below.heap_alloc _ _ _ (by omega), ← hW5]; exact World.alloc_heap_new _ _
      have gh : W4.heap[W6.heap.size + 1]? = some (.cells #[.int .i64 (max a b)] 3) := by
        rw [← hW4, ← t5]; exact World.alloc_heap_new _ _
      have ml : W4.cell? ⟨W6.heap.size, 0, none⟩ = some (.int .i64 (min a b)) := by simp [World.cell?, gl]
      have mh : W4.cell? ⟨W6.heap.size + 1, 0, none⟩ = some (.int .i64 (max a b)) := by simp [World.cell?, gh]
      have p0 : W4.cell? ⟨w.heap.size, 0, none⟩ = some (.int .i64 n) := (k4.cell (p := ⟨w.heap.size, 0, none⟩) (by show w.heap.size < _; omega)).trans n0
      have p1 : W4.cell? ⟨w.heap.size, 1, none⟩ = some (.slice A E.length c) := (k4.cell (p := ⟨w.heap.size, 1, none⟩) (by show w.heap.size < _; omega)).trans n1
      have g34 : W4.heap[w.heap.size + 1]? = some (.cells #[.int .i64 0, .slice none 0 0] 26) := (k4.block _ l6).trans g36
      have hB4 : Below w.heap.size w W4 := hB6.trans (k4.mono (by omega))
      have h4 := Try.flat_below h (fun b hb => hB4.block b hb)
      have hren := Try.renCon_in (W6.heap.size + 1) W6.heap.size (Try.conF (max a b) (min a b)) (n - 1) n E A c W4 hRt.2.2.1 hRt.2.1 hRt.2.2.2.1 h4 (fun m x W hx hW => Try.con1_in m (W6.heap.size + 1) W6.heap.size (max a b) (min a b) x W hx ((hW.cell (p := ⟨W6.heap.size + 1, 0, none⟩) (by show W6.heap.size + 1 < _; omega)).trans mh) ((hW.cell (p := ⟨W6.heap.size, 0, none⟩) (by show W6.heap.size < _; omega)).trans ml)) R hv.symm
      obtain ⟨⟨n1', E1⟩, r1⟩ := R
      clear hv
      clear q0 q1 z0 z1 m0 m1
      gi_wp2
      gi_at_call 59
      have hn1000 : n ≤ 1000 := hRt.2.1
      have hw64 : wrap64 (n - 1) = n - 1 := by unfold wrap64; omega
      rw [hw64]
      refine hren.mono ?_
      rintro e W9 ⟨u, lab, rfl, hb9, hlab, hu⟩
      obtain ⟨ra, rc, rfl, hfl9⟩ := Try.tup2 hu
      have g39 : W9.heap[w.heap.size + 1]? = some (.cells #[.int .i64 0, .slice none 0 0] 26) := (hb9.block _ (by omega)).trans g34
      have q0 : W9.cell? ⟨w.heap.size + 1, 0, none⟩ = some (.int .i64 0) := by simp [World.cell?, g39]
      have q1 : W9.cell? ⟨w.heap.size + 1, 1, none⟩ = some (.slice none 0 0) := by simp [World.cell?, g39]
      have z0 : W9.frozen? ⟨w.heap.size + 1, 0, none⟩ = false := by simp [World.frozen?, g39]
      have z1 : W9.frozen? ⟨w.heap.size + 1, 1, none⟩ = false := by simp [World.frozen?, g39]
      gi_wp2
      have hB7 := hB4
      have g38 := Try.set2 (x' := .int .i64 n1') (y' := .slice ra E1.length rc) g39
      have hz8 := Try.set2_size (W := W9) (b := w.heap.size + 1) (x' := .int .i64 n1') (y' := .slice ra E1.length rc)
      have ho8 : ∀ k, k ≠ w.heap.size + 1 → _ := fun k hk => Try.set2_other (W := W9) (x' := .int .i64 n1') (y' := .slice ra E1.length rc) hk
      have hB8 : Below w.heap.size w ((W9.setCell ⟨w.heap.size + 1, 0, none⟩ (.int .i64 n1')).setCell ⟨w.heap.size + 1, 1, none⟩ (.slice ra E1.length rc)) :=
        ((hB7.trans (hb9.mono (by omega))).setCell (p := ⟨w.heap.size + 1, 0, none⟩) (by show w.heap.size ≤ w.heap.size + 1; omega) _).setCell (p := ⟨w.heap.size + 1, 1, none⟩) (by show w.heap.size ≤ w.heap.size + 1; omega) _
      generalize (W9.setCell ⟨w.heap.size + 1, 0, none⟩ (.int .i64 n1')).setCell ⟨w.heap.size + 1, 1, none⟩ (.slice ra E1.length rc) = W8 at g38 hz8 ho8 hB8 ⊢
      have d0 : W8.cell? ⟨w.heap.size + 1, 0, none⟩ = some (.int .i64 n1') := by simp [World.cell?, g38]
      have d1 : W8.cell? ⟨w.heap.size + 1, 1, none⟩ = some (.slice ra E1.length rc) := by simp [World.cell?, g38]
      have hlab8 : ∀ b k, lab b = some k → w.heap.size ≤ b ∧ b < W8.heap.size := fun b k hk => ⟨by have := (hlab b k hk).1; omega, by rw [hz8]; exact (hlab b k hk).2⟩
      have hfl8 : FlatOk W8 lab (some (1, none)) ra rc 2 (edges E1) := hfl9.mono id fun b hb ho => ⟨ho, ho8 b (by have := (hlab b _ ho).1; omega)⟩
      refine bodyPost_ret (v := .tuple #[.agg #[.int .i64 n1', .slice ra E1.length rc], .int .i64 r1]) ?_ rfl ?_
      · simp [results, Try.f33, go_sem, d0, d1]
      · first
          | exact ⟨_, rfl, hB8, lab, fun b k l hk => hlab8 b (k, l) hk, Try.tup2_ok hfl8⟩
          | exact ⟨_, lab, rfl, hB8, hlab8, Try.tup2_ok hfl8⟩
    · have h3 : hasG n E a b = false := by simpa using h3
      rw [h3] at hHas
      have hv : R = ((0, []), 6) := by rw [hR]; unfold Try.conG; rw [if_pos hRt, if_neg (by rw [hmn, hmx]; omega), if_neg (by rw [h3]; simp)]
      subst hv
      gi_wp2
      gi_at_call 37
      refine hHas.mono ?_
      rintro e W6 ⟨rfl, hb6⟩
      have hB6 : Below w.heap.size w W6 := hB7.trans (hb6.mono (by omega))
      have g36 : W6.heap[w.heap.size + 1]? = some (.cells #[.int .i64 0, .slice none 0 0] 26) := (hb6.block _ l7).trans g37
      clear q0 q1 z0 z1 m0 m1
      have q0 : W6.cell? ⟨w.heap.size + 1, 0, none⟩ = some (.int .i64 0) := by simp [World.cell?, g36]
      have q1 : W6.cell? ⟨w.heap.size + 1, 1, none⟩ = some (.slice none 0 0) := by simp [World.cell?, g36]
      have z0 : W6.frozen? ⟨w.heap.size + 1, 0, none⟩ = false := by simp [World.frozen?, g36]
      have z1 : W6.frozen? ⟨w.heap.size + 1, 1, none⟩ = false := by simp [World.frozen?, g36]
      clear hB7 g37 hb6 h7 hb7
      gi_wp2
      have hB7 := hB6
      have g37 := g36
      clear hB6 g36
      generalize W6 = W7 at q0 q1 z0 z1 hB7 g37 ⊢
      have g38 := Try.set2 (x' := .int .i64 0) (y' := .slice none 0 0) g37
      have hB8 : Below w.heap.size w ((W7.setCell ⟨w.heap.size + 1, 0, none⟩ (.int .i64 0)).setCell ⟨w.heap.size + 1, 1, none⟩ (.slice none 0 0)) :=
        (hB7.setCell (p := ⟨w.heap.size + 1, 0, none⟩) (by show w.heap.size ≤ w.heap.size + 1; omega) _).setCell (p := ⟨w.heap.size + 1, 1, none⟩) (by show w.heap.size ≤ w.heap.size + 1; omega) _
      generalize (W7.setCell ⟨w.heap.size + 1, 0, none⟩ (.int .i64 0)).setCell ⟨w.heap.size + 1, 1, none⟩ (.slice none 0 0) = W8 at g38 hB8 ⊢
      have d0 : W8.cell? ⟨w.heap.size + 1, 0, none⟩ = some (.int .i64 0) := by simp [World.cell?, g38]
      have d1 : W8.cell? ⟨w.heap.size + 1, 1, none⟩ = some (.slice none 0 0) := by simp [World.cell?, g38]
      refine bodyPost_ret (v := .tuple #[.agg #[.int .i64 0, .slice none 0 0], .int .i64 6]) ?_ rfl ?_
      · simp [results, Try.f33, go_sem, d0, d1]
      · first
          | exact ⟨_, rfl, hB8, noLab, fun b k l hk => by simp [noLab] at hk, Try.tup2_ok (E := []) (FlatOk.nil (by omega))⟩
          | exact ⟨_, noLab, rfl, hB8, Try.lab_none _ _ hB8, Try.tup2_ok (E := []) (FlatOk.nil (by omega))⟩
  · rw [decide_eq_false hRt] at hright
    have hv : R = ((0, []), 1) := by rw [hR]; unfold Try.conG; rw [if_neg hRt]
    subst hv
    gi_wp2
    gi_at_call 39
    refine hright.mono ?_
    rintro e W7 ⟨rfl, hb7⟩
    have g37 : W7.heap[w.heap.size + 1]? = some (.cells #[.int .i64 0, .slice none 0 0] 26) := (hb7.block _ l3).trans g3
    have q0 : W7.cell? ⟨w.heap.size + 1, 0, none⟩ = some (.int .i64 0) := by simp [World.cell?, g37]
    have q1 : W7.cell? ⟨w.heap.size + 1, 1, none⟩ = some (.slice none 0 0) := by simp [World.cell?, g37]
    have z0 : W7.frozen? ⟨w.heap.size + 1, 0, none⟩ = false := by simp [World.frozen?, g37]
    have z1 : W7.frozen? ⟨w.heap.size + 1, 1, none⟩ = false := by simp [World.frozen?, g37]
    have hB7 : Below w.heap.size w W7 := b3.trans (hb7.mono (by omega))
    gi_wp2
    have g38 := Try.set2 (x' := .int .i64 0) (y' := .slice none 0 0) g37
    have hB8 : Below w.heap.size w ((W7.setCell ⟨w.heap.size + 1, 0, none⟩ (.int .i64 0)).setCell ⟨w.heap.size + 1, 1, none⟩ (.slice none 0 0)) :=
      (hB7.setCell (p := ⟨w.heap.size + 1, 0, none⟩) (by show w.heap.size ≤ w.heap.size + 1; omega) _).setCell (p := ⟨w.heap.size + 1, 1, none⟩) (by show w.heap.size ≤ w.heap.size + 1; omega) _
    generalize (W7.setCell ⟨w.heap.size + 1, 0, none⟩ (.int .i64 0)).setCell ⟨w.heap.size + 1, 1, none⟩ (.slice none 0 0) = W8 at g38 hB8 ⊢
    have d0 : W8.cell? ⟨w.heap.size + 1, 0, none⟩ = some (.int .i64 0) := by simp [World.cell?, g38]
    have d1 : W8.cell? ⟨w.heap.size + 1, 1, none⟩ = some (.slice none 0 0) := by simp [World.cell?, g38]
    refine bodyPost_ret (v := .tuple #[.agg #[.int .i64 0, .slice none 0 0], .int .i64 1]) ?_ rfl ?_
    · simp [results, Try.f33, go_sem, d0, d1]
    · first
        | exact ⟨_, rfl, hB8, noLab, fun b k l hk => by simp [noLab] at hk, Try.tup2_ok (E := []) (FlatOk.nil (by omega))⟩
        | exact ⟨_, noLab, rfl, hB8, Try.lab_none _ _ hB8, Try.tup2_ok (E := []) (FlatOk.nil (by omega))⟩
end Go.Proofs

set_option linter.unusedVariables false
set_option linter.unusedSimpArgs false
namespace Go.Sh
open Go.Proofs Go.RowKit Go.Shelf
/-! ### sub.Delete, sub.Contract: contracts -/
noncomputable def DelC : Con := conP 2 (fun a : (Int × List Ed) × Int => a.1.2.length ≤ 1000000) (fun a => [grV a.1.1 a.1.2, .one (.s (.i .i64 a.2))]) (fun a => .tup [grO (Try.delG a.1.1 a.1.2 a.2).1.1 (Try.delG a.1.1 a.1.2 a.2).1.2, .one (.s (.i .i64 (Try.delG a.1.1 a.1.2 a.2).2))])
theorem DelC_at {n : Int} {E : List Ed} (v : Int) (h : E.length ≤ 1000000) : DelC.F [grV n E, .one (.s (.i .i64 v))] = some (.tup [grO (Try.delG n E v).1.1 (Try.delG n E v).1.2, .one (.s (.i .i64 (Try.delG n E v).2))], []) :=
  conP_at (a := ((n, E), v)) (fun a b _ _ h => by
    obtain ⟨⟨n, E⟩, v⟩ := a
    obtain ⟨⟨n', E'⟩, v'⟩ := b
    simp at h
    obtain ⟨h1, h2⟩ := h
    obtain ⟨rfl, rfl⟩ := grV_inj h1
    subst h2
    rfl) h
noncomputable def ConC : Con := conP 3 (fun a : (Int × List Ed) × Int × Int => a.1.2.length ≤ 1000000) (fun a => [grV a.1.1 a.1.2, .one (.s (.i .i64 a.2.1)), .one (.s (.i .i64 a.2.2))]) (fun a => .tup [grO (Try.conG a.1.1 a.1.2 a.2.1 a.2.2).1.1 (Try.conG a.1.1 a.1.2 a.2.1 a.2.2).1.2, .one (.s (.i .i64 (Try.conG a.1.1 a.1.2 a.2.1 a.2.2).2))])
theorem ConC_at {n : Int} {E : List Ed} (a b : Int) (h : E.length ≤ 1000000) : ConC.F [grV n E, .one (.s (.i .i64 a)), .one (.s (.i .i64 b))] = some (.tup [grO (Try.conG n E a b).1.1 (Try.conG n E a b).1.2, .one (.s (.i .i64 (Try.conG n E a b).2))], []) :=
  conP_at (a := ((n, E), a, b)) (fun x y _ _ h => by
    obtain ⟨⟨n, E⟩, a, b⟩ := x
    obtain ⟨⟨n', E'⟩, a', b'⟩ := y
    simp at h
    obtain ⟨h1, h2, h3⟩ := h
    obtain ⟨rfl, rfl⟩ := grV_inj h1
    subst h2 h3
    rfl) h
theorem Del_ok : SoundC Try.prog T 31 DelC := by
  refine sound_pure Try.func31 (by rfl) (by rfl) (by simp [DelC, conP]) ?_
  intro vs r outs hF w us hus
  obtain ⟨⟨⟨n, E⟩, v⟩, hl, rfl, rfl⟩ := conF_inv (pre := fun a : (Int × List Ed) × Int => a.1.2.length ≤ 1000000) (enc := fun a => [grV a.1.1 a.1.2, .one (.s (.i .i64 a.2))]) (val := fun a => .tup [grO (Try.delG a.1.1 a.1.2 a.2).1.1 (Try.delG a.1.1 a.1.2 a.2).1.2, .one (.s (.i .i64 (Try.delG a.1.1 a.1.2 a.2).2))]) hF
  dsimp only at hl hus ⊢
  obtain ⟨u1, u2, hu, h1, h2⟩ : ∃ u1 u2, us.toList = [u1, u2] ∧ V1Ok w noLab 0 (grV n E) u1 ∧ V1Ok w noLab (0 + 2) (.one (.s (.i .i64 v))) u2 := by
    match h : us.toList, hus with
    | [u1, u2], hus => exact ⟨u1, u2, rfl, hus.1, hus.2.1⟩
    | [], hus => exact hus.elim
    | [_], hus => exact hus.2.elim
    | _ :: _ :: _ :: _, hus => exact hus.2.2.elim
  obtain rfl : us = #[u1, u2] := by cases us; simp_all
  obtain ⟨A, c, rfl, hA⟩ := Try.gr_of h1
  rw [us_int h2]
  refine ((callsIn_wide (n := 9)).1 (Try.Delete_in n v E A c w hl hA _ rfl)).mono ?_
  rintro e w' ⟨u, lab, rfl, hb, hlab, hv⟩
  exact ⟨u, lab, rfl, ⟨hb.os, .of hb.tape, hb.output, hb.size, fun b h _ => hb.block b h⟩, hlab, hv⟩
theorem Con_ok : SoundC Try.prog T 33 ConC := by
  refine sound_pure Try.func33 (by rfl) (by rfl) (by simp [ConC, conP]) ?_
  intro vs r outs hF w us hus
  obtain ⟨⟨⟨n, E⟩, a, b⟩, hl, rfl, rfl⟩ := conF_inv (pre := fun a : (Int × List Ed) × Int × Int => a.1.2.length ≤ 1000000) (enc := fun a => [grV a.1.1 a.1.2, .one (.s (.i .i64 a.2.1)), .one (.s (.i .i64 a.2.2))]) (val := fun a => .tup [grO (Try.conG a.1.1 a.1.2 a.2.1 a.2.2).1.1 (Try.conG a.1.1 a.1.2 a.2.1 a.2.2).1.2, .one (.s (.i .i64 (Try.conG a.1.1 a.1.2 a.2.1 a.2.2).2))]) hF
  dsimp only at hl hus ⊢
  obtain ⟨u1, u2, u3, hu, h1, h2, h3⟩ : ∃ u1 u2 u3, us.toList = [u1, u2, u3] ∧ V1Ok w noLab 0 (grV n E) u1 ∧ V1Ok w noLab (0 + 2) (.one (.s (.i .i64 a))) u2 ∧ V1Ok w noLab (0 + 2 + 1) (.one (.s (.i .i64 b))) u3 := by
    match h : us.toList, hus with
    | [u1, u2, u3], hus => exact ⟨u1, u2, u3, rfl, hus.1, hus.2.1, hus.2.2.1⟩
    | [], hus => exact hus.elim
    | [_], hus => exact hus.2.elim
    | [_, _], hus => exact hus.2.2.elim
    | _ :: _ :: _ :: _ :: _, hus => exact hus.2.2.2.elim
  obtain rfl : us = #[u1, u2, u3] := by cases us; simp_all
  obtain ⟨A, c, rfl, hA⟩ := Try.gr_of h1
  rw [us_int h2, us_int h3]
  refine ((callsIn_wide (n := 9)).1 (Try.Contract_in n a b E A c w hl hA _ rfl)).mono ?_
  rintro e w' ⟨u, lab, rfl, hb, hlab, hv⟩
  exact ⟨u, lab, rfl, ⟨hb.os, .of hb.tape, hb.output, hb.size, fun b h _ => hb.block b h⟩, hlab, hv⟩
end Go.Sh

set_option linter.unusedVariables false
set_option linter.unusedSimpArgs false
namespace Go.Sh
open Go.Proofs Go.Sort Go.RowKit
/-! ### a row in a block -/
theorem cell_at {w : World} {b : Nat} {arr : Array Value} {T : TypeId} {fr : Nat × Nat} (h : w.heap[b]? = some (.cells arr T fr)) (k : Nat) : w.cell? ⟨b, k, none⟩ = arr[k]? := by simp [World.cell?, h]
structure InBlock (w : World) (own : Nat → Option Key) (key : Key) (A : Option Addr) (cap : Nat) (l : List Int) (b off : Nat) (arr : Array Value) (T : TypeId) : Prop where
  at_ : A = some ⟨b, off, none⟩
  own : own b = some key
  heap : w.heap[b]? = some (.cells arr T (0, 0))
  size : off + cap ≤ arr.size
  fits : l.length ≤ cap
  great : cap ≤ 9223372036854775807
  cell : ∀ (j : Nat) (x : Int), l[j]? = some x → arr[off + j]? = some (.int .i64 x)
theorem InBlock.of {w : World} {own : Nat → Option Key} {key : Key} {A : Option Addr} {cap : Nat} {l : List Int} (h : FlatOk w own (some key) A cap 1 (ints l)) (hne : cap ≠ 0) : ∃ b off arr T, InBlock w own key A cap l b off arr T := by
  rcases h.room rfl with h0 | ⟨b, off, arr, T, h1, h2, h3, h4⟩
  · exact absurd h0.1 hne
  · refine ⟨b, off, arr, T, h1, h2, h3, by omega, by have := h.fits; rw [ints_length] at this; exact this, by omega, fun j x hj => ?_⟩
    obtain ⟨a, ha, _, hc⟩ := h.cell j [.i .i64 x] 0 (.i .i64 x) (ints_get hj) rfl
    rw [h1] at ha
    injection ha with ha
    subst ha
    rw [Nat.mul_one, Nat.add_zero, Addr.add_plain, cell_at h3] at hc
    exact hc
theorem InBlock.flat {w : World} {own : Nat → Option Key} {key : Key} {A : Option Addr} {cap : Nat} {l : List Int} {b off : Nat} {arr : Array Value} {T : TypeId} (h : InBlock w own key A cap l b off arr T) : FlatOk w own (some key) A cap 1 (ints l) := {
  fits := by rw [ints_length]; exact h.fits
  pos := by omega
  even := fun i row hi => by
    simp only [ints, List.getElem?_map, Option.map_eq_some_iff] at hi
    obtain ⟨x, _, rfl⟩ := hi
    rfl
  cell := fun i row j x hi hj => by
    simp only [ints, List.getElem?_map, Option.map_eq_some_iff] at hi
    obtain ⟨y, hy, rfl⟩ := hi
    have : j = 0 := by
      apply Classical.byContradiction
      intro hn
      rw [List.getElem?_eq_none (by simp; omega)] at hj; simp at hj
    subst this
    simp at hj
    subst hj
    refine ⟨_, h.at_, h.own, ?_⟩
    rw [Nat.mul_one, Nat.add_zero, Addr.add_plain, cell_at h.heap]
    exact h.cell i y hy
  room := fun _ => .inr ⟨b, off, arr, T, h.at_, h.own, h.heap, by have := h.size; omega, h.great⟩ }
theorem InBlock.holds {w : World} {own : Nat → Option Key} {key : Key} {A : Option Addr} {cap : Nat} {l : List Int} {b off : Nat} {arr : Array Value} {T : TypeId} (h : InBlock w own key A cap l b off arr T) : Holds (Value.int .i64) w b off l.toArray := fun j hj => by
  have hj : j < l.length := by simpa using hj
  refine ⟨?_, by simp [World.frozen?, h.heap]⟩
  rw [cell_at h.heap, h.cell j l[j] (List.getElem?_eq_getElem hj)]
  simp [hj]
theorem InBlock.lt {w : World} {own : Nat → Option Key} {key : Key} {A : Option Addr} {cap : Nat} {l : List Int} {b off : Nat} {arr : Array Value} {T : TypeId} (h : InBlock w own key A cap l b off arr T) : b < w.heap.size := by
  rcases Nat.lt_or_ge b w.heap.size with k | k
  · exact k
  · have := h.heap; simp [Array.getElem?_eq_none k] at this
theorem putCells_get (off : Nat) (d : List Int) (c : Array Value) (k : Nat) : (putCells (Value.int .i64) off d.toArray c)[k]? = (c[k]?).map fun x => if off ≤ k ∧ k < off + d.length then .int .i64 (d[k - off]!) else x := by
  unfold putCells
  rw [Array.getElem?_mapIdx]
  simp
/-- behind a call that laid a row in its place -/
theorem InBlock.put {w w' : World} {own : Nat → Option Key} {key : Key} {A : Option Addr} {cap : Nat} {l : List Int} {b off : Nat} {arr : Array Value} {T : TypeId} (h : InBlock w own key A cap l b off arr T) {q : Nat} {os : Array Obj} {d m : List Int} (hd : d.length ≤ cap) (hm : m <+: d)
    (hw : w' = grow (putRow (Value.int .i64) (Sort.ahead w q) b off d.toArray) os) : Frm (fun b => own b = some key) w w' ∧ InBlock w' own key A cap m b off (putCells (Value.int .i64) off d.toArray arr) T := by
  subst hw
  have hb := h.lt
  have hheap : ∀ x, x < w.heap.size → (grow (putRow (Value.int .i64) (Sort.ahead w q) b off d.toArray) os).heap[x]? = (w.heap[x]?).map fun o => if x = b then onCells (putCells (Value.int .i64) off d.toArray) o else o := fun x hx => by
    show ((w.heap.modify b (onCells (putCells (Value.int .i64) off d.toArray))) ++ os)[x]? = _
    rw [Array.getElem?_append_left (by simpa using hx), Array.getElem?_modify]
    by_cases e : b = x
    · simp [e]
    · have : ¬ x = b := fun h => e h.symm
      simp [e, this]
  refine ⟨⟨rfl, .of rfl, rfl, ?_, fun x hx hn => ?_⟩, ⟨h.at_, h.own, ?_, ?_, ?_, h.great, fun j x hj => ?_⟩⟩
  · show w.heap.size ≤ ((w.heap.modify b _) ++ os).size
    simp
  · rw [hheap x hx]
    have : x ≠ b := fun e => hn (by rw [e]; exact h.own)
    simp [this]
  · rw [hheap b hb, h.heap]; simp [onCells]
  · have := h.size; simpa [putCells] using this
  · exact Nat.le_trans hm.length_le hd
  · rw [putCells_get]
    have hjl := (List.getElem?_eq_some_iff.1 hj).1
    have hml := hm.length_le
    have hs := h.size
    rw [Array.getElem?_eq_getElem (show off + j < arr.size by omega), Option.map_some, if_pos ⟨by omega, by omega⟩]
    obtain ⟨t, rfl⟩ := hm
    rw [show off + j - off = j by omega]
    congr 1
    have hx : (m ++ t)[j]? = some x := by rw [List.getElem?_append_left hjl]; exact hj
    have hlt := (List.getElem?_eq_some_iff.1 hx).1
    rw [getElem!_pos _ j hlt]
    rw [List.getElem?_eq_getElem hlt] at hx
    injection hx with hx
    rw [hx]
theorem ahead_own {w w' : World} {own : Nat → Option Key} {key : Key} {A : Option Addr} {cap : Nat} {l : List Int} {b off : Nat} {arr : Array Value} {T : TypeId} (h : InBlock w' own key A cap l b off arr T) (hb : b < w.heap.size) : FlatOk w' (fun b => if w.heap.size ≤ b then (if b < w'.heap.size then some key else none) else own b) (some key) A cap 1 (ints l) := by
  refine InBlock.flat (b := b) (off := off) (arr := arr) (T := T) ⟨h.at_, ?_, h.heap, h.size, h.fits, h.great, h.cell⟩
  show (if w.heap.size ≤ b then _ else _) = _
  rw [if_neg (by omega)]
  exact h.own
theorem flat_empty {w w' : World} {own : Nat → Option Key} {key : Key} {A : Option Addr} {cap : Nat} {l : List Int} (h : FlatOk w own (some key) A cap 1 (ints l)) (hw : w' = w ∨ w'.heap = w.heap) : FlatOk w' (fun b => if w.heap.size ≤ b then (if b < w'.heap.size then some key else none) else own b) (some key) A cap 1 (ints l) := by
  have hh : w'.heap = w.heap := by rcases hw with rfl | h; · rfl
                                   · exact h
  refine h.mono id fun b hb ho => ⟨?_, by rw [hh]⟩
  show (if w.heap.size ≤ b then _ else _) = _
  rw [if_neg (by omega)]
  exact ho
theorem fn_ok {P : Program} {f : Nat} {fn : Func} (h : P.funcs[f]? = some fn) (h1 : (fn.name == "runtime.NumGoroutine") = false) (h2 : fn.body.isSome = true) : ∃ fn, P.funcs[f]? = some fn ∧ fn.name ≠ "runtime.NumGoroutine" ∧ fn.body ≠ none :=
  ⟨fn, h, by simpa using h1, fun h => by rw [h] at h2; simp at h2⟩
/-! ### slices.Sort -/
theorem Sort_row : RowCall Try.prog 77 (fun l => l.length ≤ 1000000) sortI := by
  refine ⟨fn_ok Try.func77 (by rfl) (by rfl), fun l => (List.mergeSort_perm l _).length_eq, fun l hl w own key A cap h => ?_⟩
  by_cases hc : cap = 0
  · have h0 := h.fits
    rw [ints_length, hc] at h0
    have : l = [] := List.eq_nil_of_length_eq_zero (by omega)
    subst this
    refine (Any.slices_Sort_int_none Try.laysSort A cap w).mono ?_
    rintro e w' ⟨rfl, rfl⟩
    exact ⟨rfl, Frm.refl _ _, by simpa [sortI] using h⟩
  · obtain ⟨b, off, arr, T, hb⟩ := InBlock.of h hc
    have hA := hb.at_
    subst hA
    refine (Any.slices_Sort_int Try.laysSort b off cap l w hb.holds hb.lt (by omega)).mono ?_
    rintro e w' ⟨rfl, n, os, hw⟩
    obtain ⟨h1, h2⟩ := hb.put (q := n) (os := os) (d := sortI l) (m := sortI l) (by rw [sortI, (List.mergeSort_perm l _).length_eq]; exact hb.fits) (List.prefix_refl _) hw
    exact ⟨rfl, h1, h2.flat⟩
/-! ### reduce.without -/
theorem erase_at {l : List Int} {x : Int} (hs : l.Pairwise (· ≤ ·)) (hx : x ∈ l) : l.countP (· < x) < l.length ∧ l.take (l.countP (· < x)) ++ l.drop (l.countP (· < x) + 1) = l.erase x := by
  induction l with
  | nil => simp at hx
  | cons a l ih =>
    rw [List.pairwise_cons] at hs
    by_cases ha : a = x
    · subst ha
      have h0 : l.countP (· < a) = 0 := List.countP_eq_zero.2 fun y hy => by have := hs.1 y hy; simp; omega
      rw [List.countP_cons, h0]
      simp
    · have hm : x ∈ l := (List.mem_cons.1 hx).elim (fun h => absurd h.symm ha) id
      have hlt : a < x := by have := hs.1 x hm; omega
      obtain ⟨h1, h2⟩ := ih hs.2 hm
      rw [List.countP_cons, if_pos (by simpa using hlt), List.take_succ_cons, List.drop_succ_cons, List.erase_cons_tail (by simpa using ha), List.cons_append, h2]
      exact ⟨by simp; omega, rfl⟩
theorem search_empty (A : Option Addr) (c : Nat) (x : Int) (w : World) : Calls Try.prog 97 #[.slice A 0 c, .int .i64 x] w fun e w' => e = .returned (.tuple #[.int .i64 0, .bool false]) ∧ w' = w :=
  Any.slices_BinarySearch_int_empty Try.laysSearch A c x w
theorem search_row (b off n c : Nat) (zs : List Int) (x : Int) (w : World) (hz : n ≤ zs.length) (hbig : n < 4611686018427387904) (hc : ∀ j, j < zs.length → w.cell? ⟨b, off + j, none⟩ = some (.int .i64 (zs.getD j 0))) (hs : (zs.take n).Pairwise (· ≤ ·)) :
    Calls Try.prog 97 #[.slice (some ⟨b, off, none⟩) n c, .int .i64 x] w fun e w' => e = .returned (.tuple #[.int .i64 ((zs.take n).countP (· < x) : Nat), .bool ((zs.take n).contains x)]) ∧ ∃ q, w' = w.drewN q :=
  Any.slices_BinarySearch_int Try.laysSearch b off n c zs x w hz hbig hc hs
theorem delete_row (blk off cap i j : Nat) (zs : List Int) (w : World) (hH : Holds (Value.int .i64) w blk off zs.toArray) (hcap : zs.length ≤ cap) (hm : cap ≤ 9223372036854775807) (hij : i ≤ j) (hj : j ≤ zs.length) :
    Calls Try.prog 110 #[.slice (some ⟨blk, off, none⟩) zs.length cap, .int .i64 i, .int .i64 j] w fun e w' => e = .returned (.slice (some ⟨blk, off, none⟩) (zs.length - (j - i)) cap) ∧ ∃ q, w' = putRow (Value.int .i64) (Sort.ahead w q) blk off (zs.take i ++ zs.drop j ++ List.replicate (j - i) 0).toArray :=
  Any.slices_Delete_int Try.laysDelete blk off cap i j zs w hH hcap hm hij hj
attribute [local go_sem] Oper.semAt_some
set_option maxRecDepth 100000 in
set_option maxHeartbeats 2000000 in
theorem Without_call : FlatCall Try.prog 98 (fun l _ => l.Pairwise (· ≤ ·) ∧ l.length ≤ 1000000) (fun l x => l.erase x) := by
  refine ⟨fn_ok Try.func98 (by rfl) (by rfl), fun l x hl w own key A cap h => ?_⟩
  obtain ⟨hs, hlen⟩ := hl
  have hfa : Fence.wide.fn 97 := trivial
  have hfb : Fence.wide.fn 110 := trivial
  refine (callsIn_wide (n := 6)).1 ?_
  refine callsIn_of_wp Try.func98 rfl trivial ?_ rfl
  simp only [Try.ntmps98, List.size_toArray, List.length_cons, List.length_nil, Nat.reduceAdd, Nat.reduceSub, Array.replicate_succ, Array.replicate_zero, List.push_toArray, List.append_toArray, List.nil_append, List.cons_append]
  by_cases hc : cap = 0
  · have h0 := h.fits
    rw [ints_length, hc] at h0
    have : l = [] := List.eq_nil_of_length_eq_zero (by omega)
    subst this
    subst hc
    gi_wp2_with (gi_at_call 97; refine (callsIn_wide.2 (search_empty A 0 x w)).mono ?_; rintro e w' ⟨rfl, rfl⟩)
    go_ret
    exact ⟨A, 0, rfl, Frm.refl _ _, flat_empty h (.inl rfl)⟩
  · obtain ⟨b, off, arr, T, hb⟩ := InBlock.of h hc
    have hA := hb.at_
    subst hA
    have hcell : ∀ j, j < l.length → w.cell? ⟨b, off + j, none⟩ = some (.int .i64 (l.getD j 0)) := fun j hj => by
      rw [cell_at hb.heap, hb.cell j l[j] (List.getElem?_eq_getElem hj), List.getD_eq_getElem?_getD, List.getElem?_eq_getElem hj]; rfl
    have hT : l.take l.length = l := List.take_length
    have hSearch := search_row b off l.length cap l x w (Nat.le_refl _) (by omega) hcell (by rw [hT]; exact hs)
    rw [hT] at hSearch
    by_cases hx : x ∈ l
    · have hct : l.contains x = true := by simpa using hx
      rw [hct] at hSearch
      obtain ⟨e1, e2⟩ := erase_at hs hx
      generalize hi : l.countP (· < x) = i at *
      have hfit := hb.fits
      have hcm := hb.great
      have hD : ∀ q, Calls Try.prog 110 #[.slice (some ⟨b, off, none⟩) l.length cap, .int .i64 i, .int .i64 ((i : Int) + 1)] (w.drewN q) fun e w' => e = .returned (.slice (some ⟨b, off, none⟩) (l.length - 1) cap) ∧ ∃ q', w' = putRow (Value.int .i64) (Sort.ahead (w.drewN q) q') b off (l.take i ++ l.drop (i + 1) ++ List.replicate 1 0).toArray := fun q => by
        have := delete_row b off cap i (i + 1) l (w.drewN q) (fun j hj => hb.holds j hj) hfit hcm (by omega) (by omega)
        simpa using this
      gi_wp2_with (first
        | (gi_at_call 97; refine (callsIn_wide.2 hSearch).mono ?_; rintro e w' ⟨rfl, q, rfl⟩)
        | (gi_at_call 110; refine (callsIn_wide.2 (hD _)).mono ?_; rintro e w' ⟨rfl, q', rfl⟩))
      go_ret
      have hle : (l.erase x).length = l.length - 1 := List.length_erase_of_mem hx
      have hw : putRow (Value.int .i64) (Sort.ahead (w.drewN q) q') b off (l.erase x ++ [0]).toArray = grow (putRow (Value.int .i64) (Sort.ahead w (q + q')) b off (l.erase x ++ [0]).toArray) #[] := by
        simp [grow, putRow, mapBlock, Sort.ahead, World.drewN, Nat.add_assoc]
      obtain ⟨h1, h2⟩ := hb.put (d := l.erase x ++ [0]) (m := l.erase x) (by simp; omega) (List.prefix_append _ _) hw
      exact ⟨some ⟨b, off, none⟩, cap, by rw [hle]; rfl, h1, ahead_own h2 hb.lt⟩
    · have hct : l.contains x = false := by simpa using hx
      rw [hct] at hSearch
      gi_wp2_with (gi_at_call 97; refine (callsIn_wide.2 hSearch).mono ?_; rintro e w' ⟨rfl, q, rfl⟩)
      go_ret
      refine ⟨some ⟨b, off, none⟩, cap, ?_, ⟨rfl, .of rfl, rfl, Nat.le_refl _, fun _ _ _ => rfl⟩, ?_⟩
      · rw [List.erase_of_not_mem hx]; rfl
      · rw [List.erase_of_not_mem hx]
        exact flat_empty h (.inr rfl)
/-! ### reduce.with -/
def insAt (l : List Int) (x : Int) : List Int := l.take (l.countP (· < x)) ++ x :: l.drop (l.countP (· < x))
theorem insAt_length (l : List Int) (x : Int) : (insAt l x).length = l.length + 1 := by
  have := List.countP_le_length (p := fun y => decide (y < x)) (l := l)
  simp [insAt]; omega
theorem heap_setCells (b : Nat) : ∀ (vs : List Value) (o : Nat) (w : World) (arr : Array Value) (T : TypeId) (fr : Nat × Nat), w.heap[b]? = some (.cells arr T fr) → o + vs.length ≤ arr.size →
    ∃ arr', (w.setCells b o vs).heap[b]? = some (.cells arr' T fr) ∧ arr'.size = arr.size ∧ (∀ k, arr'[k]? = if o ≤ k ∧ k < o + vs.length then vs[k - o]? else arr[k]?) ∧ (∀ x, x ≠ b → (w.setCells b o vs).heap[x]? = w.heap[x]?) ∧
      (w.setCells b o vs).heap.size = w.heap.size ∧ (w.setCells b o vs).os = w.os ∧ (w.setCells b o vs).tape = w.tape ∧ (w.setCells b o vs).output = w.output := by
  intro vs
  induction vs with
  | nil => intro o w arr T fr h _; exact ⟨arr, h, rfl, fun k => by rw [if_neg (by intro h; have h2 := h.2; simp at h2; omega)], fun _ _ => rfl, rfl, rfl, rfl, rfl⟩
  | cons v vs ih =>
    intro o w arr T fr h hs
    have hs : o + (vs.length + 1) ≤ arr.size := hs
    have h1 : (w.setCell ⟨b, o, none⟩ v).heap[b]? = some (.cells (arr.setIfInBounds o v) T fr) := by
      rw [setCell_eq]
      simp [mapBlock, Array.getElem?_modify, h, onCells]
    obtain ⟨arr', k1, k2, k3, k4, k5, k6, k7, k8⟩ := ih (o + 1) (w.setCell ⟨b, o, none⟩ v) _ T fr h1 (by simp; omega)
    refine ⟨arr', k1, by rw [k2]; simp, fun k => ?_, fun x hx => ?_, ?_, ?_, ?_, ?_⟩
    · rw [k3]
      by_cases e : k = o
      · subst e
        rw [if_neg (by omega), if_pos (by simp), Nat.sub_self, Array.getElem?_setIfInBounds, if_pos rfl, if_pos (by omega)]
        simp
      · by_cases hk : o + 1 ≤ k ∧ k < o + 1 + vs.length
        · rw [if_pos hk, if_pos (by simp; omega), show k - o = (k - (o + 1)) + 1 by omega]; rfl
        · rw [if_neg hk, if_neg (by simp; omega), Array.getElem?_setIfInBounds, if_neg (fun h => e h.symm)]
    · rw [show w.setCells b o (v :: vs) = (w.setCell ⟨b, o, none⟩ v).setCells b (o + 1) vs from rfl, k4 x hx, setCell_eq]
      show (w.heap.modify b _)[x]? = _
      rw [Array.getElem?_modify, if_neg (fun h => hx h.symm)]
    · rw [show w.setCells b o (v :: vs) = (w.setCell ⟨b, o, none⟩ v).setCells b (o + 1) vs from rfl, k5, setCell_eq]
      show (w.heap.modify b _).size = _
      simp
    · rw [show w.setCells b o (v :: vs) = (w.setCell ⟨b, o, none⟩ v).setCells b (o + 1) vs from rfl, k6, setCell_eq]; rfl
    · rw [show w.setCells b o (v :: vs) = (w.setCell ⟨b, o, none⟩ v).setCells b (o + 1) vs from rfl, k7, setCell_eq]; rfl
    · rw [show w.setCells b o (v :: vs) = (w.setCell ⟨b, o, none⟩ v).setCells b (o + 1) vs from rfl, k8, setCell_eq]; rfl
theorem vals_get {l : List Int} {j : Nat} {v : Value} (h : (l.map (Value.int .i64))[j]? = some v) : ∃ x, l[j]? = some x ∧ v = .int .i64 x := by
  rw [List.getElem?_map, Option.map_eq_some_iff] at h
  obtain ⟨x, h1, h2⟩ := h
  exact ⟨x, h1, h2.symm⟩
theorem vals_one' (l : List Int) : ∀ v ∈ l.map (Value.int .i64), v.oneCell' = true := fun v hv => by
  obtain ⟨x, _, rfl⟩ := List.mem_map.1 hv
  rfl
theorem ins_shift (b off n c i vb voff m vc : Nat) (cs vs : List Value) (w : World) (hi : i < n) (hm : 0 < m) (hroom : n + m ≤ c) (hc63 : c ≤ 9223372036854775807) (hvb : vb ≠ b)
    (hcl : cs.length = n) (hvl : vs.length = m)
    (hcs : ∀ j v, cs[j]? = some v → w.cell? ⟨b, off + j, none⟩ = some v) (hsp : ∀ j, j < n + m → (w.cell? ⟨b, off + j, none⟩).isSome = true) (hfz : ∀ j, j < n + m → w.frozen? ⟨b, off + j, none⟩ = false)
    (hvs : ∀ j v, vs[j]? = some v → w.cell? ⟨vb, voff + j, none⟩ = some v) (h1c : ∀ v ∈ cs, v.oneCell' = true) (h1v : ∀ v ∈ vs, v.oneCell' = true)
    (tA tB : TypeId) (kA kB : Nat) (hsa : w.shape? vb = some (tA, kA)) (hsb : w.shape? b = some (tB, kB)) (hkB : kB ≠ 0) (hfa : w.frozen? ⟨vb, voff, none⟩ = false) (hfe : w.frozen? ⟨vb, kA, none⟩ = false) :
    Calls Try.prog 111 #[.slice (some ⟨b, off, none⟩) n c, .int .i64 i, .slice (some ⟨vb, voff, none⟩) m vc] w fun e w' =>
      e = .returned (.slice (some ⟨b, off, none⟩) (n + m) c) ∧ w' = (w.drew.setCells b (off + (i + m)) (cs.drop i)).setCells b (off + i) vs :=
  Any2.slices_Insert_int_shift Try.laysInsert b off n c i vb voff m vc cs vs w hi hm hroom hc63 hvb hcl hvl hcs hsp hfz hvs h1c h1v tA tB kA kB hsa hsb hkB hfa hfe
theorem ins_end (b off n c vb voff m vc : Nat) (vs : List Value) (w : World) (hm : 0 < m) (hroom : n + m ≤ c) (hc63 : c ≤ 9223372036854775807)
    (hvl : vs.length = m) (hsp : ∀ j, j < m → (w.cell? ⟨b, off + n + j, none⟩).isSome = true) (hfz : ∀ j, j < m → w.frozen? ⟨b, off + n + j, none⟩ = false)
    (hvs : ∀ j v, vs[j]? = some v → w.cell? ⟨vb, voff + j, none⟩ = some v) (h1v : ∀ v ∈ vs, v.oneCell' = true) :
    Calls Try.prog 111 #[.slice (some ⟨b, off, none⟩) n c, .int .i64 n, .slice (some ⟨vb, voff, none⟩) m vc] w fun e w' =>
      e = .returned (.slice (some ⟨b, off, none⟩) (n + m) c) ∧ w' = w.setCells b (off + n) vs :=
  Any2.slices_Insert_int_end_room Try.laysInsert b off n c vb voff m vc vs w hm hroom hc63 hvl hsp hfz hvs h1v
theorem ins_end_grow (base : Option Addr) (n c vb voff m vc : Nat) (cs vs : List Value) (w : World) (hm : 0 < m) (hnc : n ≤ c) (hroom : c < n + m) (hbig : (n + m) * 8 ≤ 140737488355328)
    (hcl : cs.length = n) (hvl : vs.length = m) (hnil : base = none → n = 0)
    (hcs : ∀ a, base = some a → ∀ j v, cs[j]? = some v → w.cell? (a.add j) = some v)
    (hvs : ∀ j v, vs[j]? = some v → w.cell? ⟨vb, voff + j, none⟩ = some v) (h1v : ∀ v ∈ vs, v.oneCell' = true) :
    Calls Try.prog 111 #[.slice base n c, .int .i64 n, .slice (some ⟨vb, voff, none⟩) m vc] w fun e w' =>
      e = .returned (.slice (some ⟨w.heap.size, 0, none⟩) (n + m) (grownCap w (n + m) c 3)) ∧
      w' = w.drew.alloc (.cells ((cs ++ vs).toArray ++ Builtin.zeroCells (Value.int .i64 0).cells (grownCap w (n + m) c 3 - (n + m))) 3) :=
  Any2.slices_Insert_int_end_grow Try.laysInsert base n c vb voff m vc cs vs w hm hnc hroom hbig hcl hvl hnil hcs hvs h1v
theorem ins_grow (b off n c i vb voff m vc : Nat) (cs vs : List Value) (w : World) (hi : i < n) (hm : 0 < m) (hnc : n ≤ c) (hroom : c < n + m) (hbig : (n + m) * 8 ≤ 140737488355328)
    (hcl : cs.length = n) (hvl : vs.length = m)
    (hcs : ∀ j v, cs[j]? = some v → w.cell? ⟨b, off + j, none⟩ = some v)
    (hvs : ∀ j v, vs[j]? = some v → w.cell? ⟨vb, voff + j, none⟩ = some v) (h1c : ∀ v ∈ cs, v.oneCell' = true) (h1v : ∀ v ∈ vs, v.oneCell' = true) :
    Calls Try.prog 111 #[.slice (some ⟨b, off, none⟩) n c, .int .i64 i, .slice (some ⟨vb, voff, none⟩) m vc] w fun e w' =>
      e = .returned (.slice (some ⟨w.heap.size, 0, none⟩) (n + m) (grownCap w (n + m) c 3)) ∧
      w' = (((w.alloc (.cells ((cs.take i).toArray ++ Builtin.zeroCells (Value.int .i64 0).cells (n + m - i) ++ Builtin.zeroCells (Value.int .i64 0).cells (grownCap w (n + m) c 3 - (n + m))) 3)).drew.setCells w.heap.size i vs).drew).setCells w.heap.size (i + m) (cs.drop i) :=
  Any2.slices_Insert_int_grow Try.laysInsert b off n c i vb voff m vc cs vs w hi hm hnc hroom hbig hcl hvl hcs hvs h1c h1v
theorem insAt_get {l : List Int} {x : Int} {i j : Nat} {y : Int} (hi : l.countP (· < x) = i) (h : (insAt l x)[j]? = some y) : (j < i ∧ l[j]? = some y) ∨ (j = i ∧ y = x) ∨ (i < j ∧ l[j - 1]? = some y) := by
  have hle := List.countP_le_length (p := fun y => decide (y < x)) (l := l)
  unfold insAt at h
  rw [hi] at h hle
  have htl : (l.take i).length = i := by rw [List.length_take]; omega
  by_cases h1 : j < i
  · rw [List.getElem?_append_left (by omega), List.getElem?_take, if_pos h1] at h
    exact .inl ⟨h1, h⟩
  · rw [List.getElem?_append_right (by omega), htl] at h
    by_cases h2 : j = i
    · subst h2
      rw [Nat.sub_self] at h
      simp at h
      exact .inr (.inl ⟨rfl, h.symm⟩)
    · rw [show j - i = (j - i - 1) + 1 by omega, List.getElem?_cons_succ, List.getElem?_drop] at h
      exact .inr (.inr ⟨by omega, by rw [show j - 1 = i + (j - i - 1) by omega]; exact h⟩)
/-- what 'slices.Insert' does with one number more, that lies in a block of its own -/
theorem insert_row (own : Nat → Option Key) (key : Key) (A : Option Addr) (cap : Nat) (l : List Int) (x : Int) (w : World) (vb : Nat) (Tv : TypeId) (h : FlatOk w own (some key) A cap 1 (ints l)) (hlen : l.length ≤ 1000000)
    (hvb : w.heap[vb]? = some (.cells #[.int .i64 x] Tv (0, 0))) (hno : own vb ≠ some key) {i : Nat} (hi : l.countP (· < x) = i) :
    Calls Try.prog 111 #[.slice A l.length cap, .int .i64 i, .slice (some ⟨vb, 0, none⟩) 1 1] w fun e w' => ∃ A' cap', e = .returned (.slice A' (l.length + 1) cap') ∧ Frm (fun b => own b = some key) w w' ∧
      FlatOk w' (fun b => if w.heap.size ≤ b then (if b < w'.heap.size then some key else none) else own b) (some key) A' cap' 1 (ints (insAt l x)) := by
  have hle := List.countP_le_length (p := fun y => decide (y < x)) (l := l)
  rw [hi] at hle
  have hvs : ∀ j v, [Value.int .i64 x][j]? = some v → w.cell? ⟨vb, 0 + j, none⟩ = some v := fun j v hj => by
    rw [cell_at hvb, Nat.zero_add]
    have : j = 0 := by
      apply Classical.byContradiction
      intro hn
      rw [List.getElem?_eq_none (by simp; omega)] at hj; simp at hj
    subst this
    simpa using hj
  have h1v : ∀ v ∈ [Value.int .i64 x], v.oneCell' = true := fun v hv => by simp at hv; subst hv; rfl
  have hvf : ∀ k, w.frozen? ⟨vb, k, none⟩ = false := fun k => by simp [World.frozen?, hvb]
  by_cases hn : i = l.length
  · by_cases hroom : l.length + 1 ≤ cap
    · obtain ⟨b, off, arr, T, hb⟩ := InBlock.of h (by omega)
      have hA := hb.at_
      subst hA
      have hsz := hb.size
      rw [hn]
      refine (ins_end b off l.length cap vb 0 1 1 [.int .i64 x] w (by omega) hroom hb.great rfl (fun j hj => ?_) (fun j hj => by simp [World.frozen?, hb.heap]) hvs h1v).mono ?_
      · rw [cell_at hb.heap, Array.getElem?_eq_getElem (by omega)]; rfl
      · rintro e w' ⟨rfl, rfl⟩
        obtain ⟨arr', k1, k2, k3, k4, k5, k6, k7, k8⟩ := heap_setCells b [.int .i64 x] (off + l.length) w arr T (0, 0) hb.heap (by simp; omega)
        refine ⟨_, cap, rfl, ⟨k6, .of k7, k8, by omega, fun y hy hn => k4 y fun e => hn (by rw [e]; exact hb.own)⟩, ahead_own (b := b) (off := off) (arr := arr') (T := T) ⟨rfl, hb.own, k1, by omega, by rw [insAt_length]; exact hroom, hb.great, fun j y hj => ?_⟩ hb.lt⟩
        rw [k3]
        rcases insAt_get hi hj with ⟨h1, h2⟩ | ⟨h1, h2⟩ | ⟨h1, h2⟩
        · rw [if_neg (by simp; omega)]; exact hb.cell j y h2
        · rw [if_pos (by simp; omega), h2, show off + j - (off + l.length) = 0 by omega]; rfl
        · have := (List.getElem?_eq_some_iff.1 h2).1; omega
    · have hfit := h.fits
      rw [ints_length] at hfit
      have hge := grownCap_ge w (l.length + 1) cap 3
      have hgm := grownCap_le_maxLen w (l.length + 1) cap 3 (by unfold maxLen; omega)
      unfold maxLen at hgm
      rw [hn]
      refine (ins_end_grow A l.length cap vb 0 1 1 (l.map (Value.int .i64)) [.int .i64 x] w (by omega) hfit (by omega) (by omega) (by simp) rfl (fun e => ?_) (fun a ha j v hj => ?_) hvs h1v).mono ?_
      · by_cases hc : cap = 0
        · omega
        · obtain ⟨b, off, arr, T, hb⟩ := InBlock.of h hc
          have := hb.at_
          rw [e] at this; simp at this
      · obtain ⟨y, hy, rfl⟩ := vals_get hj
        have hjl := (List.getElem?_eq_some_iff.1 hy).1
        obtain ⟨b, off, arr, T, hb⟩ := InBlock.of h (by omega)
        have hA := hb.at_
        rw [ha] at hA
        injection hA with hA
        subst hA
        rw [Addr.add_plain, cell_at hb.heap]
        exact hb.cell j y hy
      · rintro e w' ⟨rfl, rfl⟩
        have hz : (Builtin.zeroCells (Value.int .i64 0).cells (grownCap w (l.length + 1) cap 3 - (l.length + 1))).size = grownCap w (l.length + 1) cap 3 - (l.length + 1) := by rw [zeroCells_eq]; simp [Value.cells]
        refine ⟨_, _, rfl, ⟨rfl, .of rfl, rfl, ?_, fun y hy _ => heap_alloc_lt w.drew _ hy⟩, InBlock.flat (b := w.heap.size) (off := 0) (T := 3) ⟨rfl, ?_, heap_alloc_at w.drew _, ?_, by rw [insAt_length]; exact hge, by omega, fun j y hj => ?_⟩⟩
        · show w.heap.size ≤ (w.heap.push _).size
          simp
        · show (if w.heap.size ≤ w.heap.size then (if w.heap.size < (w.heap.push _).size then some key else none) else own w.heap.size) = some key
          rw [if_pos (Nat.le_refl _), if_pos (by simp)]
        · rw [Array.size_append, hz]; simp; omega
        · have hjl := (List.getElem?_eq_some_iff.1 hj).1
          rw [insAt_length] at hjl
          rw [Nat.zero_add, Array.getElem?_append_left (by simp; omega), List.getElem?_toArray]
          rcases insAt_get hi hj with ⟨h1, h2⟩ | ⟨h1, h2⟩ | ⟨h1, h2⟩
          · rw [List.getElem?_append_left (by simp; omega), List.getElem?_map, h2]; rfl
          · rw [List.getElem?_append_right (by simp; omega), h2, show j - (l.map (Value.int .i64)).length = 0 by simp; omega]; rfl
          · have := (List.getElem?_eq_some_iff.1 h2).1; omega
  · have hlt : i < l.length := by omega
    have hfit := h.fits
    rw [ints_length] at hfit
    obtain ⟨b, off, arr, T, hb⟩ := InBlock.of h (by omega)
    have hA := hb.at_
    subst hA
    have hsz := hb.size
    have hne : vb ≠ b := fun e => hno (by rw [e]; exact hb.own)
    have hcs : ∀ j v, (l.map (Value.int .i64))[j]? = some v → w.cell? ⟨b, off + j, none⟩ = some v := fun j v hj => by
      obtain ⟨y, hy, rfl⟩ := vals_get hj
      rw [cell_at hb.heap]; exact hb.cell j y hy
    by_cases hroom : l.length + 1 ≤ cap
    · refine (ins_shift b off l.length cap i vb 0 1 1 (l.map (Value.int .i64)) [.int .i64 x] w hlt (by omega) hroom hb.great hne (by simp) rfl hcs (fun j hj => ?_) (fun j hj => by simp [World.frozen?, hb.heap]) hvs (vals_one' l) h1v Tv T 1 arr.size (by simp [World.shape?, hvb]) (by simp [World.shape?, hb.heap]) (by omega) (hvf _) (hvf _)).mono ?_
      · rw [cell_at hb.heap, Array.getElem?_eq_getElem (by omega)]; rfl
      · rintro e w' ⟨rfl, rfl⟩
        have hdl : ((l.map (Value.int .i64)).drop i).length = l.length - i := by simp
        obtain ⟨arr1, p1, p2, p3, p4, p5, p6, p7, p8⟩ := heap_setCells b ((l.map (Value.int .i64)).drop i) (off + (i + 1)) w.drew arr T (0, 0) hb.heap (by rw [hdl]; omega)
        obtain ⟨arr', k1, k2, k3, k4, k5, k6, k7, k8⟩ := heap_setCells b [.int .i64 x] (off + i) _ arr1 T (0, 0) p1 (by simp; omega)
        refine ⟨_, cap, rfl, ⟨k6.trans p6, .of (k7.trans p7), k8.trans p8, by rw [k5, p5]; exact Nat.le_refl _, fun y hy hn => (k4 y fun e => hn (by rw [e]; exact hb.own)).trans (p4 y fun e => hn (by rw [e]; exact hb.own))⟩, ahead_own (b := b) (off := off) (arr := arr') (T := T) ⟨rfl, hb.own, k1, by omega, by rw [insAt_length]; exact hroom, hb.great, fun j y hj => ?_⟩ hb.lt⟩
        rw [k3]
        rcases insAt_get hi hj with ⟨h1, h2⟩ | ⟨h1, h2⟩ | ⟨h1, h2⟩
        · rw [if_neg (by simp; omega), p3, if_neg (by rw [hdl]; omega)]; exact hb.cell j y h2
        · rw [if_pos (by simp; omega), h2, show off + j - (off + i) = 0 by omega]; rfl
        · have hjl := (List.getElem?_eq_some_iff.1 h2).1
          rw [if_neg (by simp; omega), p3, if_pos (by rw [hdl]; omega), List.getElem?_drop, List.getElem?_map, show i + (off + j - (off + (i + 1))) = j - 1 by omega, h2]; rfl
    · have hge := grownCap_ge w (l.length + 1) cap 3
      have hgm := grownCap_le_maxLen w (l.length + 1) cap 3 (by unfold maxLen; omega)
      unfold maxLen at hgm
      refine (ins_grow b off l.length cap i vb 0 1 1 (l.map (Value.int .i64)) [.int .i64 x] w hlt (by omega) hfit (by omega) (by omega) (by simp) rfl hcs hvs (vals_one' l) h1v).mono ?_
      rintro e w' ⟨rfl, rfl⟩
      have hz : ∀ m, (Builtin.zeroCells (Value.int .i64 0).cells m).size = m := fun m => by rw [zeroCells_eq]; simp [Value.cells]
      have hdl : ((l.map (Value.int .i64)).drop i).length = l.length - i := by simp
      generalize hROW : ((l.map (Value.int .i64)).take i).toArray ++ Builtin.zeroCells (Value.int .i64 0).cells (l.length + 1 - i) ++ Builtin.zeroCells (Value.int .i64 0).cells (grownCap w (l.length + 1) cap 3 - (l.length + 1)) = ROW
      have hRs : ROW.size = grownCap w (l.length + 1) cap 3 := by rw [← hROW, Array.size_append, Array.size_append, hz, hz]; simp; omega
      have hRg : ∀ j y, j < i → l[j]? = some y → ROW[j]? = some (.int .i64 y) := fun j y hj hy => by
        rw [← hROW, Array.getElem?_append_left (by rw [Array.size_append, hz]; simp; omega), Array.getElem?_append_left (by simp; omega), List.getElem?_toArray, List.getElem?_take, if_pos hj, List.getElem?_map, hy]; rfl
      obtain ⟨arr1, p1, p2, p3, p4, p5, p6, p7, p8⟩ := heap_setCells w.heap.size [.int .i64 x] i (w.alloc (.cells ROW 3)).drew ROW 3 (0, 0) (heap_alloc_at w _) (by simp; omega)
      obtain ⟨arr', k1, k2, k3, k4, k5, k6, k7, k8⟩ := heap_setCells w.heap.size ((l.map (Value.int .i64)).drop i) (i + 1) (((w.alloc (.cells ROW 3)).drew.setCells w.heap.size i [.int .i64 x]).drew) arr1 3 (0, 0) p1 (by rw [hdl]; omega)
      have hal : (w.alloc (.cells ROW 3)).heap.size = w.heap.size + 1 := by show (w.heap.push _).size = _; simp
      refine ⟨_, _, rfl, ⟨k6.trans p6, .of (k7.trans p7), k8.trans p8, ?_, fun y hy hn => ?_⟩, InBlock.flat (b := w.heap.size) (off := 0) (arr := arr') (T := 3) ⟨rfl, ?_, k1, by omega, by rw [insAt_length]; exact hge, by omega, fun j y hj => ?_⟩⟩
      · have e1 : _ = (w.alloc (.cells ROW 3)).heap.size := k5.trans p5
        rw [e1, hal]; omega
      · have hne2 : y ≠ w.heap.size := by omega
        exact (k4 y hne2).trans ((p4 y hne2).trans (heap_alloc_lt w _ hy))
      · have e1 : _ = (w.alloc (.cells ROW 3)).heap.size := k5.trans p5
        show (if w.heap.size ≤ w.heap.size then (if w.heap.size < _ then some key else none) else own w.heap.size) = some key
        rw [if_pos (Nat.le_refl _), if_pos (by rw [e1, hal]; omega)]
      · rw [Nat.zero_add, k3]
        rcases insAt_get hi hj with ⟨h1, h2⟩ | ⟨h1, h2⟩ | ⟨h1, h2⟩
        · rw [if_neg (by omega), p3, if_neg (by simp; omega)]; exact hRg j y h1 h2
        · rw [if_neg (by omega), p3, if_pos (by simp; omega), h2, show j - i = 0 by omega]; rfl
        · have hjl := (List.getElem?_eq_some_iff.1 h2).1
          rw [if_pos (by rw [hdl]; omega), List.getElem?_drop, List.getElem?_map, show i + (j - (i + 1)) = j - 1 by omega, h2]; rfl
theorem alloc_flat {w : World} {own : Nat → Option Key} {key : Option Key} {A : Option Addr} {cap sz : Nat} {rows : Flat} (o : Obj) (h : FlatOk w own key A cap sz rows) : FlatOk (w.alloc o) own key A cap sz rows :=
  h.mono id fun b hb ho => ⟨ho, heap_alloc_lt w o hb⟩
theorem own_none_of {w : World} {own : Nat → Option Key} (key : Key) : ∃ own' : Nat → Option Key, (∀ b, b < w.heap.size → own' b = own b) ∧ ∀ b, w.heap.size ≤ b → own' b = none := ⟨fun b => if b < w.heap.size then own b else none, fun b hb => if_pos hb, fun b hb => if_neg (by omega)⟩
set_option maxRecDepth 100000 in
set_option maxHeartbeats 2000000 in
theorem With_call : FlatCall Try.prog 99 (fun l _ => l.Pairwise (· ≤ ·) ∧ l.length ≤ 1000000) insAt := by
  refine ⟨fn_ok Try.func99 (by rfl) (by rfl), fun l x hl w own key A cap h => ?_⟩
  obtain ⟨hs, hlen⟩ := hl
  have hfa : Fence.wide.fn 97 := trivial
  have hfb : Fence.wide.fn 111 := trivial
  -- behind the search: the number's own block, and the row
  have hI : ∀ (w1 : World) (T : TypeId), w1.heap = w.heap → w1.os = w.os → w1.tape = w.tape → w1.output = w.output → Calls Try.prog 111 #[.slice A l.length cap, .int .i64 (l.countP (· < x) : Nat), .slice (some ⟨w1.heap.size, 0, none⟩) 1 1] (w1.alloc (.cells #[.int .i64 x] T)) fun e w' => ∃ A' cap', e = .returned (.slice A' (insAt l x).length cap') ∧ Frm (fun b => own b = some key) w w' ∧
      FlatOk w' (fun b => if w.heap.size ≤ b then (if b < w'.heap.size then some key else none) else own b) (some key) A' cap' 1 (ints (insAt l x)) := fun w1 T e1 e2 e3 e4 => by
    obtain ⟨own', o1, o2⟩ := own_none_of (w := w1) (own := own) key
    have h1 : FlatOk w1 own' (some key) A cap 1 (ints l) := h.mono id fun b hb ho => ⟨by rw [o1 b (by rw [e1]; exact hb)]; exact ho, by rw [e1]⟩
    refine (insert_row own' key A cap l x (w1.alloc (.cells #[.int .i64 x] T)) w1.heap.size T (alloc_flat _ h1) hlen (heap_alloc_at w1 _) (by rw [o2 _ (Nat.le_refl _)]; simp) rfl).mono ?_
    rintro e w' ⟨A', cap', rfl, hf, hF⟩
    have hsz : (w1.alloc (.cells #[.int .i64 x] T)).heap.size = w.heap.size + 1 := by rw [← e1]; show (w1.heap.push _).size = _; simp
    have hle := hf.size
    rw [hsz] at hle
    refine ⟨A', cap', by rw [insAt_length], ⟨hf.os.trans e2, hf.tape.trans (.of e3), hf.output.trans e4, by omega, fun b hb hn => ?_⟩, hF.mono id fun b hb ho => ⟨?_, rfl⟩⟩
    · rw [hf.block b (by omega) (by rw [o1 b (by rw [e1]; exact hb)]; exact hn), heap_alloc_lt w1 _ (by rw [e1]; exact hb), e1]
    · rw [hsz] at ho
      show (if w.heap.size ≤ b then (if b < w'.heap.size then some key else none) else own b) = some key
      by_cases h1 : w.heap.size ≤ b
      · rw [if_pos h1, if_pos hb]
      · rw [if_neg h1]
        have ho : (if w.heap.size + 1 ≤ b then (if b < w'.heap.size then some key else none) else own' b) = some key := ho
        rw [if_neg (by omega), o1 b (by rw [e1]; omega)] at ho
        exact ho
  refine (callsIn_wide (n := 6)).1 ?_
  refine callsIn_of_wp Try.func99 rfl trivial ?_ rfl
  simp only [Try.ntmps99, List.size_toArray, List.length_cons, List.length_nil, Nat.reduceAdd, Nat.reduceSub, Array.replicate_succ, Array.replicate_zero, List.push_toArray, List.append_toArray, List.nil_append, List.cons_append]
  by_cases hc : cap = 0
  · have h0 := h.fits
    rw [ints_length, hc] at h0
    have : l = [] := List.eq_nil_of_length_eq_zero (by omega)
    subst this
    subst hc
    have hI0 := hI w 3 rfl rfl rfl rfl
    gi_wp2_with (first
      | (gi_at_call 97; refine (callsIn_wide.2 (search_empty A 0 x w)).mono ?_; rintro e w' ⟨rfl, rfl⟩)
      | (gi_at_call 111; refine (callsIn_wide.2 hI0).mono ?_; rintro e w' ⟨A', cap', rfl, h1, h2⟩))
    go_ret
    exact ⟨A', cap', rfl, h1, h2⟩
  · obtain ⟨b, off, arr, T, hb⟩ := InBlock.of h hc
    have hA := hb.at_
    subst hA
    have hcell : ∀ j, j < l.length → w.cell? ⟨b, off + j, none⟩ = some (.int .i64 (l.getD j 0)) := fun j hj => by
      rw [cell_at hb.heap, hb.cell j l[j] (List.getElem?_eq_getElem hj), List.getD_eq_getElem?_getD, List.getElem?_eq_getElem hj]; rfl
    have hT : l.take l.length = l := List.take_length
    have hSearch := search_row b off l.length cap l x w (Nat.le_refl _) (by omega) hcell (by rw [hT]; exact hs)
    rw [hT] at hSearch
    have hI0 := fun q => hI (w.drewN q) 3 rfl rfl rfl rfl
    gi_wp2_with (first
      | (gi_at_call 97; refine (callsIn_wide.2 hSearch).mono ?_; rintro e w' ⟨rfl, q, rfl⟩)
      | (gi_at_call 111; refine (callsIn_wide.2 (hI0 _)).mono ?_; rintro e w' ⟨A', cap', rfl, h1, h2⟩))
    go_ret
    exact ⟨A', cap', rfl, h1, h2⟩
end Go.Sh
