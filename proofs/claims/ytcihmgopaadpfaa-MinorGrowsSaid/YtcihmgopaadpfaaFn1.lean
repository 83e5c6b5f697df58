/- What the functions answer that the statement reaches. No condition. -/
import Derived.Test.YtcihmgopaadpfaaEn3
import Derived.Test.YtcihmgopaadpfaaProg
import Derived.KernelRfl
import Derived.Shelf.Sort.Plain
import Derived.Shelf.Slices.In.SortNone
import Derived.Shelf.Slices.CompactI
import Derived.Shelf.Slices.Delete
import Derived.Shelf.Slices.Empties
import Derived.Shelf.Spec.SlicesInsertGrow
import Derived.Shelf.Spec.SlicesInsert
import Derived.Ground.NamesProg
import Derived.Ground.Names2Prog
import Derived.Shelf.SlSortCmp.NoneTotal
import Derived.Ground.SlsfProg
import Derived.RangeFuncBox
import Derived.RangeFuncLeaves
import Derived.Shelf.Abstract
import Derived.WalkKit
import Derived.OwnWalkIn
import Derived.TacticsInMore
import Derived.LoopNIn
import Derived.LoopIn
import Derived.Maps.AppendAt
import Derived.Sort.OwnSorted
import Derived.Shelf.SlIterI.Sorted
import Derived.Sort.QuietIn
import Derived.Sort.QuietTacIn
import Derived.Test.YtcihmgopaadpfaaRows
namespace Go.Sh
open Go.Proofs
def T : Tab := [
  (2, ⟨.int .i64, 1, 8, [.s (.i .i64 0)], false, [2]⟩),
  (3, ⟨.int .i64, 1, 8, [.s (.i .i64 0)], false, [3]⟩),
  (4, ⟨.bool, 1, 1, [.s (.b false)], false, [4]⟩),
  (5, ⟨.int .u8, 1, 1, [.s (.i .u8 0)], false, [5]⟩),
  (6, ⟨.int .u8, 1, 1, [.s (.i .u8 0)], false, [6]⟩),
  (7, ⟨.struct [(0, 2), (1, 3), (2, 4), (3, 6)], 4, 24, [.s (.i .i64 0), .s (.i .i64 0), .s (.b false), .s (.i .u8 0)], true, [2, 3, 4, 6]⟩),
  (8, ⟨.struct [(0, 2), (1, 3), (2, 4), (3, 6)], 4, 24, [.s (.i .i64 0), .s (.i .i64 0), .s (.b false), .s (.i .u8 0)], true, [2, 3, 4, 6]⟩),
  (12, ⟨.int .u64, 1, 8, [.s (.i .u64 0)], false, [12]⟩),
  (21, ⟨.int .i32, 1, 4, [.s (.i .i32 0)], false, [21]⟩),
  (22, ⟨.slice 60, 1, 24, [.nils], false, [22]⟩),
  (23, ⟨.struct [(0, 3), (1, 22)], 2, 32, [.s (.i .i64 0), .nils], false, [3, 22]⟩),
  (24, ⟨.struct [(0, 3), (1, 22)], 2, 32, [.s (.i .i64 0), .nils], false, [3, 22]⟩),
  (26, ⟨.struct [(0, 3), (1, 22)], 2, 32, [.s (.i .i64 0), .nils], false, [3, 22]⟩),
  (28, ⟨.slice 29, 1, 24, [.nils], false, [28]⟩),
  (29, ⟨.slice 3, 1, 24, [.nils], false, [29]⟩),
  (30, ⟨.struct [(0, 28), (1, 29)], 2, 48, [.nils, .nils], false, [28, 29]⟩),
  (31, ⟨.struct [(0, 28), (1, 29)], 2, 48, [.nils, .nils], false, [28, 29]⟩),
  (32, ⟨.int .i64, 1, 8, [.s (.i .i64 0)], false, [32]⟩),
  (35, ⟨.struct [(0, 28), (1, 29)], 2, 48, [.nils, .nils], false, [28, 29]⟩),
  (46, ⟨.struct [(0, 3), (1, 28)], 2, 32, [.s (.i .i64 0), .nils], false, [3, 28]⟩),
  (47, ⟨.struct [(0, 3), (1, 28)], 2, 32, [.s (.i .i64 0), .nils], false, [3, 28]⟩),
  (48, ⟨.struct [(0, 3), (1, 28)], 2, 32, [.s (.i .i64 0), .nils], false, [3, 28]⟩),
  (51, ⟨.array 2 3, 2, 16, [.s (.i .i64 0), .s (.i .i64 0)], false, [3, 3]⟩),
  (59, ⟨.struct [(0, 3), (1, 3)], 2, 16, [.s (.i .i64 0), .s (.i .i64 0)], true, [3, 3]⟩),
  (60, ⟨.struct [(0, 3), (1, 3)], 2, 16, [.s (.i .i64 0), .s (.i .i64 0)], true, [3, 3]⟩),
  (67, ⟨.slice 73, 1, 24, [.nils], false, [67]⟩),
  (68, ⟨.struct [(0, 67), (1, 29), (2, 22)], 3, 72, [.nils, .nils, .nils], false, [67, 29, 22]⟩),
  (69, ⟨.struct [(0, 67), (1, 29), (2, 22)], 3, 72, [.nils, .nils, .nils], false, [67, 29, 22]⟩),
  (71, ⟨.array 1000 3, 1000, 8000, (List.replicate 1000 (.s (.i .i64 0))), false, (List.replicate 1000 (3))⟩),
  (72, ⟨.struct [(0, 3), (1, 3), (2, 3), (3, 4)], 4, 32, [.s (.i .i64 0), .s (.i .i64 0), .s (.i .i64 0), .s (.b false)], true, [3, 3, 3, 4]⟩),
  (73, ⟨.struct [(0, 3), (1, 3), (2, 3), (3, 4)], 4, 32, [.s (.i .i64 0), .s (.i .i64 0), .s (.i .i64 0), .s (.b false)], true, [3, 3, 3, 4]⟩),
  (75, ⟨.slice 79, 1, 24, [.nils], false, [75]⟩),
  (76, ⟨.struct [(0, 75), (1, 29), (2, 22)], 3, 72, [.nils, .nils, .nils], false, [75, 29, 22]⟩),
  (77, ⟨.struct [(0, 75), (1, 29), (2, 22)], 3, 72, [.nils, .nils, .nils], false, [75, 29, 22]⟩),
  (79, ⟨.struct [(0, 3), (1, 3), (2, 3), (3, 4)], 4, 32, [.s (.i .i64 0), .s (.i .i64 0), .s (.i .i64 0), .s (.b false)], true, [3, 3, 3, 4]⟩),
  (83, ⟨.array 1000 3, 1000, 8000, (List.replicate 1000 (.s (.i .i64 0))), false, (List.replicate 1000 (3))⟩),
  (85, ⟨.map 60 3 true 2, 1, 8, [.bad], false, [85]⟩),
  (105, ⟨.slice 4, 1, 24, [.nils], false, [105]⟩),
  (106, ⟨.struct [(0, 28), (1, 105)], 2, 48, [.nils, .nils], false, [28, 105]⟩),
  (107, ⟨.struct [(0, 28), (1, 105)], 2, 48, [.nils, .nils], false, [28, 105]⟩),
  (109, ⟨.struct [(0, 29)], 1, 24, [.nils], false, [29]⟩),
  (110, ⟨.struct [(0, 29)], 1, 24, [.nils], false, [29]⟩),
  (118, ⟨.ptr 138, 1, 8, [.bad], false, [118]⟩),
  (124, ⟨.int .u64, 1, 8, [.s (.i .u64 0)], false, [124]⟩),
  (131, ⟨.ptr 110, 1, 8, [.bad], false, [131]⟩),
  (136, ⟨.slice 105, 1, 24, [.nils], false, [136]⟩),
  (137, ⟨.struct [(0, 105), (1, 136)], 2, 48, [.nils, .nils], false, [105, 136]⟩),
  (138, ⟨.struct [(0, 105), (1, 136)], 2, 48, [.nils, .nils], false, [105, 136]⟩),
  (147, ⟨.int .i64, 1, 8, [.s (.i .i64 0)], false, [147]⟩),
  (154, ⟨.int .u32, 1, 4, [.s (.i .u32 0)], false, [154]⟩),
  (156, ⟨.int .u64, 1, 8, [.s (.i .u64 0)], false, [156]⟩),
  (163, ⟨.int .u64, 1, 8, [.s (.i .u64 0)], false, [163]⟩),
  (167, ⟨.ptr 3, 1, 8, [.bad], false, [167]⟩),
  (172, ⟨.ptr 163, 1, 8, [.bad], false, [172]⟩),
  (182, ⟨.int .u8, 1, 1, [.s (.i .u8 0)], false, [182]⟩),
  (183, ⟨.int .u8, 1, 1, [.s (.i .u8 0)], false, [183]⟩),
  (185, ⟨.ptr 5, 1, 8, [.bad], false, [185]⟩),
  (186, ⟨.int .i32, 1, 4, [.s (.i .i32 0)], false, [186]⟩),
  (187, ⟨.int .i32, 1, 4, [.s (.i .i32 0)], false, [187]⟩)]
theorem hT : TabOk Go.Proofs.Try.prog T := tab_ok (by kernel_rfl)
theorem hmix : Try.prog.follows .mixedOrders = true := by kernel_rfl
end Go.Sh

/-
  DERIVED: THE SHELF's CONTRACTS AT THIS DUMP, IN PLAIN WORDS (tools/lay-plain.mjs out of 'YtcihmgopaadpfaaLay.lean', which tools/lay-shelf.mjs wrote): THE SAME DECLARATIONS UNDER THE SAME NAMES: 'import', 'namespace', 'open', 'def', 'theorem' AND NOTHING ELSE: no command of the shelf's: FOR A HAND-IN. Each laying: the table of numbers ('.._ren') and one theorem, a field a fact of the dump's own or the kernel's comparison; each contract: ONE APPLICATION.
-/
namespace Go.Proofs
open Go.Shelf
def Try.laysSort_ren : Go.Shelf.Ren := ⟨fun | 189 => 77 | 125 => 101 | 257 => 100 | 128 => 120 | 129 => 121 | 294 => 112 | 295 => 113 | 296 => 114 | 297 => 115 | 298 => 116 | 299 => 117 | 216 => 108 | 300 => 118 | 301 => 119 | 328 => 134 | 329 => 135 | 330 => 136 | 331 => 137 | 332 => 138 | 215 => 107 | 343 => 144 | n => n, fun | 28 => 29 | 3 => 3 | 46 => 124 | 0 => 0 | 51 => 154 | 53 => 156 | 4 => 4 | 183 => 148 | 182 => 147 | 131 => 132 | 5 => 5 | 9 => 9 | 218 => 163 | 222 => 167 | 228 => 172 | 229 => 173 | n => n, fun | n => n⟩
theorem Try.laysSort : Go.Proofs.Lays.n189 Try.prog Try.laysSort_ren := {
  mixed := by kernel_rfl
  f125 := Try.func101.trans (congrArg some (by kernel_rfl))
  f128 := Try.func120.trans (congrArg some (by kernel_rfl))
  f129 := Try.func121.trans (congrArg some (by kernel_rfl))
  f189 := Try.func77.trans (congrArg some (by kernel_rfl))
  f215 := Try.func107.trans (congrArg some (by kernel_rfl))
  f216 := Try.func108.trans (congrArg some (by kernel_rfl))
  f257 := Try.func100.trans (congrArg some (by kernel_rfl))
  f294 := Try.func112.trans (congrArg some (by kernel_rfl))
  f295 := Try.func113.trans (congrArg some (by kernel_rfl))
  f296 := Try.func114.trans (congrArg some (by kernel_rfl))
  f297 := Try.func115.trans (congrArg some (by kernel_rfl))
  f298 := Try.func116.trans (congrArg some (by kernel_rfl))
  f299 := Try.func117.trans (congrArg some (by kernel_rfl))
  f300 := Try.func118.trans (congrArg some (by kernel_rfl))
  f301 := Try.func119.trans (congrArg some (by kernel_rfl))
  f328 := Try.func134.trans (congrArg some (by kernel_rfl))
  f329 := Try.func135.trans (congrArg some (by kernel_rfl))
  f330 := Try.func136.trans (congrArg some (by kernel_rfl))
  f331 := Try.func137.trans (congrArg some (by kernel_rfl))
  f332 := Try.func138.trans (congrArg some (by kernel_rfl))
  f343 := Try.func144.trans (congrArg some (by kernel_rfl))
  t0 := Try.underlying0
  a0 := Try.isAgg0
  z0 := Try.sizeOf0
  v0 := Try.zeroValue0
  t3 := Try.underlying3
  a3 := Try.isAgg3
  z3 := Try.sizeOf3
  v3 := Try.zeroValue3
  t4 := Try.underlying4
  a4 := Try.isAgg4
  z4 := Try.sizeOf4
  v4 := Try.zeroValue4
  t5 := Try.underlying5
  a5 := Try.isAgg5
  z5 := Try.sizeOf5
  v5 := Try.zeroValue5
  t9 := Try.underlying9
  a9 := Try.isAgg9
  z9 := Try.sizeOf9
  v9 := Try.zeroValue9
  t28 := Try.underlying29
  a28 := Try.isAgg29
  z28 := Try.sizeOf29
  v28 := Try.zeroValue29
  t46 := Try.underlying124
  a46 := Try.isAgg124
  z46 := Try.sizeOf124
  v46 := Try.zeroValue124
  t51 := Try.underlying154
  a51 := Try.isAgg154
  z51 := Try.sizeOf154
  v51 := Try.zeroValue154
  t53 := Try.underlying156
  a53 := Try.isAgg156
  z53 := Try.sizeOf156
  v53 := Try.zeroValue156
  t131 := Try.underlying132
  a131 := Try.isAgg132
  z131 := Try.sizeOf132
  v131 := Try.zeroValue132
  t182 := Try.underlying147
  a182 := Try.isAgg147
  z182 := Try.sizeOf147
  v182 := Try.zeroValue147
  t183 := Try.underlying148
  a183 := Try.isAgg148
  z183 := Try.sizeOf148
  v183 := Try.zeroValue148
  t218 := Try.underlying163
  a218 := Try.isAgg163
  z218 := Try.sizeOf163
  v218 := Try.zeroValue163
  t222 := Try.underlying167
  a222 := Try.isAgg167
  z222 := Try.sizeOf167
  v222 := Try.zeroValue167
  t228 := Try.underlying172
  a228 := Try.isAgg172
  z228 := Try.sizeOf172
  v228 := Try.zeroValue172
  t229 := Try.underlying173
  a229 := Try.isAgg173
  z229 := Try.sizeOf173
  v229 := Try.zeroValue173 }
def Try.laysCompact_ren : Go.Shelf.Ren := ⟨fun | 20 => 105 | n => n, fun | 22 => 29 | 3 => 3 | 4 => 4 | 0 => 0 | n => n, fun | n => n⟩
theorem Try.laysCompact : Go.Proofs.Lays2.n20 Try.prog Try.laysCompact_ren := {
  mixed := by kernel_rfl
  f20 := Try.func105.trans (congrArg some (by kernel_rfl))
  t0 := Try.underlying0
  a0 := Try.isAgg0
  z0 := Try.sizeOf0
  v0 := Try.zeroValue0
  t3 := Try.underlying3
  a3 := Try.isAgg3
  z3 := Try.sizeOf3
  v3 := Try.zeroValue3
  t4 := Try.underlying4
  a4 := Try.isAgg4
  z4 := Try.sizeOf4
  v4 := Try.zeroValue4
  t22 := Try.underlying29
  a22 := Try.isAgg29
  z22 := Try.sizeOf29
  v22 := Try.zeroValue29
  i3 := by kernel_rfl }
def Try.laysSortF_ren : Go.Shelf.Ren := ⟨fun | 6 => 91 | 15 => 101 | 14 => 106 | 28 => 120 | 29 => 121 | 20 => 124 | 21 => 125 | 22 => 126 | 23 => 127 | 24 => 128 | 25 => 129 | 26 => 130 | 27 => 131 | 46 => 140 | 47 => 135 | 48 => 136 | 49 => 141 | 50 => 142 | 57 => 145 | n => n, fun | 22 => 22 | 24 => 60 | 25 => 104 | 3 => 3 | 39 => 124 | 0 => 0 | 53 => 154 | 55 => 156 | 4 => 4 | 46 => 148 | 45 => 147 | 50 => 132 | 5 => 5 | 9 => 9 | 66 => 163 | 70 => 167 | 76 => 172 | 77 => 173 | n => n, fun | n => n⟩
theorem Try.laysSortF : Go.Proofs.SlLaysF0.n6 Try.prog Try.laysSortF_ren := {
  mixed := by kernel_rfl
  f6 := ⟨Try.f91.name, by decide, Try.func91.trans (congrArg some (by kernel_rfl))⟩
  f14 := ⟨Try.f106.name, by decide, Try.func106.trans (congrArg some (by kernel_rfl))⟩
  f15 := Try.func101.trans (congrArg some (by kernel_rfl))
  f20 := ⟨Try.f124.name, by decide, Try.func124.trans (congrArg some (by kernel_rfl))⟩
  f21 := ⟨Try.f125.name, by decide, Try.func125.trans (congrArg some (by kernel_rfl))⟩
  f22 := ⟨Try.f126.name, by decide, Try.func126.trans (congrArg some (by kernel_rfl))⟩
  f23 := ⟨Try.f127.name, by decide, Try.func127.trans (congrArg some (by kernel_rfl))⟩
  f24 := ⟨Try.f128.name, by decide, Try.func128.trans (congrArg some (by kernel_rfl))⟩
  f25 := ⟨Try.f129.name, by decide, Try.func129.trans (congrArg some (by kernel_rfl))⟩
  f26 := ⟨Try.f130.name, by decide, Try.func130.trans (congrArg some (by kernel_rfl))⟩
  f27 := ⟨Try.f131.name, by decide, Try.func131.trans (congrArg some (by kernel_rfl))⟩
  f28 := Try.func120.trans (congrArg some (by kernel_rfl))
  f29 := Try.func121.trans (congrArg some (by kernel_rfl))
  f46 := ⟨Try.f140.name, by decide, Try.func140.trans (congrArg some (by kernel_rfl))⟩
  f47 := Try.func135.trans (congrArg some (by kernel_rfl))
  f48 := Try.func136.trans (congrArg some (by kernel_rfl))
  f49 := ⟨Try.f141.name, by decide, Try.func141.trans (congrArg some (by kernel_rfl))⟩
  f50 := ⟨Try.f142.name, by decide, Try.func142.trans (congrArg some (by kernel_rfl))⟩
  f57 := ⟨Try.f145.name, by decide, Try.func145.trans (congrArg some (by kernel_rfl))⟩
  t0 := Try.underlying0
  a0 := Try.isAgg0
  z0 := Try.sizeOf0
  v0 := Try.zeroValue0
  t3 := Try.underlying3
  a3 := Try.isAgg3
  z3 := Try.sizeOf3
  v3 := Try.zeroValue3
  t4 := Try.underlying4
  a4 := Try.isAgg4
  z4 := Try.sizeOf4
  v4 := Try.zeroValue4
  t5 := Try.underlying5
  a5 := Try.isAgg5
  z5 := Try.sizeOf5
  v5 := Try.zeroValue5
  t9 := Try.underlying9
  a9 := Try.isAgg9
  z9 := Try.sizeOf9
  v9 := Try.zeroValue9
  t22 := Try.underlying22
  a22 := Try.isAgg22
  z22 := Try.sizeOf22
  v22 := Try.zeroValue22
  t25 := Try.underlying104
  a25 := Try.isAgg104
  z25 := Try.sizeOf104
  v25 := Try.zeroValue104
  t39 := Try.underlying124
  a39 := Try.isAgg124
  z39 := Try.sizeOf124
  v39 := Try.zeroValue124
  t45 := Try.underlying147
  a45 := Try.isAgg147
  z45 := Try.sizeOf147
  v45 := Try.zeroValue147
  t46 := Try.underlying148
  a46 := Try.isAgg148
  z46 := Try.sizeOf148
  v46 := Try.zeroValue148
  t50 := Try.underlying132
  a50 := Try.isAgg132
  z50 := Try.sizeOf132
  v50 := Try.zeroValue132
  t53 := Try.underlying154
  a53 := Try.isAgg154
  z53 := Try.sizeOf154
  v53 := Try.zeroValue154
  t55 := Try.underlying156
  a55 := Try.isAgg156
  z55 := Try.sizeOf156
  v55 := Try.zeroValue156
  t66 := Try.underlying163
  a66 := Try.isAgg163
  z66 := Try.sizeOf163
  v66 := Try.zeroValue163
  t70 := Try.underlying167
  a70 := Try.isAgg167
  z70 := Try.sizeOf167
  v70 := Try.zeroValue167
  t76 := Try.underlying172
  a76 := Try.isAgg172
  z76 := Try.sizeOf172
  v76 := Try.zeroValue172
  t77 := Try.underlying173
  a77 := Try.isAgg173
  z77 := Try.sizeOf173
  v77 := Try.zeroValue173 }
end Go.Proofs

set_option linter.unusedVariables false
set_option linter.unusedSimpArgs false
namespace Go.Sh
open Go.Proofs
/-! ### carcanetref03.In -/
noncomputable def InC : Con := conP 2 (fun a : List Int × Int => a.1.length ≤ 1000000) (fun a => [.one (.flat false 1 (ints a.1)), .one (.s (.i .i64 a.2))]) (fun a => .one (.s (.b (a.1.elem a.2))))
theorem In_ok : SoundC Try.prog T 36 InC := by
  refine sound_con (X := { Γ := [], T := T, nt := 18 }) cr_none hmix hT sound_nil Try.func36 (by rfl) (by rfl) (by rfl) (by rfl) 2 ?_
  rintro ⟨l, x⟩ hl
  have hl : l.length ≤ 1000000 := hl
  refine ⟨⟨Nat.le_of_ble_eq_true rfl, Nat.le_of_ble_eq_true rfl⟩, ?_⟩
  refine LoopP.intro (α := Nat) (fun k => k ≤ l.length ∧ (l.drop k).elem x = l.elem x) (fun k => l.length - k) (fun k => [(0, .sl 0 none none), (1, .s (.i .i64 x)), (5, .s (.i .i64 k))]) (fun k => [(0, some (.flat false 1 (ints l)))]) 1 0 ⟨by simp, by simp⟩ (by refine Weak.by [(0, some _)] (by ((repeat' first | exact rfl | exact trivial | refine And.intro ?_ ?_) <;> (repeat' first | exact rfl | exact trivial | refine And.intro ?_ ?_))) (by ((repeat' first | exact rfl | exact trivial | refine And.intro ?_ ?_) <;> (repeat' first | exact rfl | exact trivial | refine And.intro ?_ ?_))) (by rfl)) ?_
  rintro k ⟨hk, hs⟩
  refine Pick.by (fun h => ?_) (fun h => ?_)
  · simp only [ints_length, decide_eq_true_eq] at h
    have hlt : k < l.length := by simpa using h
    refine Idx.by k rfl (by simpa [ints_length] using hlt) ?_
    refine Look.by _ (ints_get (List.getElem?_eq_getElem hlt)) ?_
    rw [List.drop_eq_getElem_cons hlt] at hs
    refine Pick.by (fun h => ?_) (fun h => ?_)
    · refine ⟨rfl, ?_⟩
      have : l[k] = x := by simpa using h
      show _ = _
      rw [← hs]; simp [this]
    · refine Pick.T (inI64_of (by omega) (by omega)) ?_
      refine ⟨k + 1, ⟨by omega, ?_⟩, by omega, by refine Weak.by [(0, some _)] (by ((repeat' first | exact rfl | exact trivial | refine And.intro ?_ ?_) <;> (repeat' first | exact rfl | exact trivial | refine And.intro ?_ ?_))) (by ((repeat' first | exact rfl | exact trivial | refine And.intro ?_ ?_) <;> (repeat' first | exact rfl | exact trivial | refine And.intro ?_ ?_))) (by rfl)⟩
      have : ¬ l[k] = x := by simpa using h
      rw [← hs, List.elem_cons, show (x == l[k]) = false by simpa using fun e => this e.symm]
  · refine ⟨rfl, ?_⟩
    have hge : l.length ≤ k := by simpa [ints_length] using h
    show _ = _
    rw [← hs, List.drop_eq_nil_of_le hge]; rfl
end Go.Sh

set_option linter.unusedVariables false
set_option linter.unusedSimpArgs false
namespace Go.Sh
open Go.Proofs
/-! ### carcanetref03.Sorted -/
def sortI (l : List Int) : List Int := l.mergeSort (fun a b => decide (a ≤ b))
theorem sortI_unique {l r : List Int} (h : r.Pairwise (· ≤ ·)) (k : r.Perm l) : r = sortI l := by
  refine List.Perm.eq_of_pairwise (le := fun a b => a ≤ b) (fun a b _ _ h1 h2 => Int.le_antisymm h1 h2) h ?_ (k.trans (List.mergeSort_perm l _).symm)
  have := List.pairwise_mergeSort (le := fun a b : Int => decide (a ≤ b)) (fun a b c h1 h2 => by simp at *; omega) (fun a b => by simp; omega) l
  exact this.imp (fun h => by simpa using h)
/-- What 'copy' and the store leave. -/
theorem ins_get (acc : List Int) (at_ k : Nat) (h : acc.length = k) (ha : at_ ≤ k) (i : Nat) :
    (laid (cut none (ints acc) ++ cut none [[Sc.i .i64 0]]) (loOf (subOf none 0 (at_ + 1) (k + 1))) (cut (subOf none 0 (at_ + 1) (k + 1)) (cut none (ints acc) ++ cut none [[Sc.i .i64 0]])).length (cut (subOf none 0 at_ (k + 1)) (cut none (ints acc) ++ cut none [[Sc.i .i64 0]])))[i]? =
      if at_ + 1 ≤ i ∧ i < k + 1 then (ints acc)[i - 1]? else (ints acc ++ [[Sc.i .i64 0]])[i]? := by
  simp only [laid, cut, loOf, subOf]
  have hl : (ints acc ++ [[Sc.i .i64 0]]).length = k + 1 := by simp [ints_length, h]
  have hd : (((ints acc ++ [[Sc.i .i64 0]]).drop (at_ + 1)).take (k + 1 - (at_ + 1))).length = k - at_ := by rw [List.length_take, List.length_drop, hl]; omega
  rw [hd]
  have hS : (((((ints acc ++ [[Sc.i .i64 0]]).drop at_).take (k + 1 - at_)).take (k - at_))).length = k - at_ := by rw [List.length_take, List.length_take, List.length_drop, hl]; omega
  rw [splice_get _ _ _ _ (by rw [hS, hl]; omega), hS]
  by_cases hc : at_ + 1 ≤ i ∧ i < k + 1
  · rw [if_pos ⟨hc.1, by omega⟩, if_pos hc, List.getElem?_take, if_pos (by omega), List.getElem?_take, if_pos (by omega), List.getElem?_drop, show at_ + (i - (at_ + 1)) = i - 1 by omega, List.getElem?_append_left (by rw [ints_length]; omega)]
  · rw [if_neg hc, if_neg (by omega)]
theorem ins_len (acc : List Int) (at_ k : Nat) (h : acc.length = k) (ha : at_ ≤ k) :
    (laid (cut none (ints acc) ++ cut none [[Sc.i .i64 0]]) (loOf (subOf none 0 (at_ + 1) (k + 1))) (cut (subOf none 0 (at_ + 1) (k + 1)) (cut none (ints acc) ++ cut none [[Sc.i .i64 0]])).length (cut (subOf none 0 at_ (k + 1)) (cut none (ints acc) ++ cut none [[Sc.i .i64 0]]))).length = k + 1 := by
  simp only [laid, cut, loOf, subOf]
  rw [splice_length]
  · simp [ints_length, h]
  · simp [ints_length, h]; omega
theorem ins_rows (acc : List Int) (at_ k : Nat) (x : Int) (h : acc.length = k) (ha : at_ ≤ k) : ∃ y : Int,
    (laid (cut none (ints acc) ++ cut none [[Sc.i .i64 0]]) (loOf (subOf none 0 (at_ + 1) (k + 1))) (cut (subOf none 0 (at_ + 1) (k + 1)) (cut none (ints acc) ++ cut none [[Sc.i .i64 0]])).length (cut (subOf none 0 at_ (k + 1)) (cut none (ints acc) ++ cut none [[Sc.i .i64 0]])))[at_]? = some [Sc.i .i64 y] ∧
    ints (acc.take at_ ++ x :: acc.drop at_) = (laid (cut none (ints acc) ++ cut none [[Sc.i .i64 0]]) (loOf (subOf none 0 (at_ + 1) (k + 1))) (cut (subOf none 0 (at_ + 1) (k + 1)) (cut none (ints acc) ++ cut none [[Sc.i .i64 0]])).length (cut (subOf none 0 at_ (k + 1)) (cut none (ints acc) ++ cut none [[Sc.i .i64 0]]))).set at_ (splice [Sc.i .i64 y] 0 [Sc.i .i64 x]) := by
  have hl := ins_len acc at_ k h ha
  have hg := ins_get acc at_ k h ha
  generalize laid _ _ _ _ = L at hl hg ⊢
  obtain ⟨y, hy⟩ : ∃ y : Int, (ints acc ++ [[Sc.i .i64 0]])[at_]? = some [Sc.i .i64 y] := by
    by_cases hc : at_ < k
    · exact ⟨_, by rw [List.getElem?_append_left (by rw [ints_length]; omega)]; exact ints_get (List.getElem?_eq_getElem (by omega))⟩
    · exact ⟨0, by rw [List.getElem?_append_right (by rw [ints_length]; omega), ints_length, show at_ - acc.length = 0 by omega]; rfl⟩
  refine ⟨y, by rw [hg, if_neg (by omega)]; exact hy, ?_⟩
  apply List.ext_getElem?
  intro i
  have hi : ∀ (m : List Int) (i : Nat), (ints m)[i]? = m[i]?.map fun x => [Sc.i .i64 x] := fun m i => by simp [ints]
  rw [hi]
  by_cases h1 : i = at_
  · subst h1
    rw [List.getElem?_set_self (by omega), List.getElem?_append_right (by rw [List.length_take]; omega), show i - (acc.take i).length = 0 by rw [List.length_take]; omega]
    rfl
  · rw [List.getElem?_set_ne (Ne.symm h1), hg]
    by_cases h2 : i < at_
    · rw [if_neg (by omega), List.getElem?_append_left (by rw [List.length_take]; omega), List.getElem?_take, if_pos h2, List.getElem?_append_left (by rw [ints_length]; omega), hi]
    · rw [List.getElem?_append_right (by rw [List.length_take]; omega), show i - (acc.take at_).length = (i - at_ - 1) + 1 by rw [List.length_take]; omega, List.getElem?_cons_succ, List.getElem?_drop, show at_ + (i - at_ - 1) = i - 1 by omega]
      by_cases h3 : i < k + 1
      · rw [if_pos (by omega), hi]
      · rw [if_neg (by omega), List.getElem?_eq_none (by omega), List.getElem?_eq_none (by simp [ints_length]; omega)]; rfl
theorem ins_sorted {acc : List Int} {at_ : Nat} {x : Int} (hs : acc.Pairwise (· ≤ ·)) (ha : at_ ≤ acc.length) (hgt : ∀ j y, at_ ≤ j → acc[j]? = some y → x < y) (hle : ∀ y, at_ ≠ 0 → acc[at_ - 1]? = some y → y ≤ x) :
    (acc.take at_ ++ x :: acc.drop at_).Pairwise (· ≤ ·) := by
  have hs' := hs
  rw [← List.take_append_drop at_ acc, List.pairwise_append] at hs'
  have h1 : ∀ y ∈ acc.take at_, y ≤ x := fun y hy => by
    obtain ⟨i, hi⟩ := List.mem_iff_getElem?.1 hy
    rw [List.getElem?_take] at hi
    split at hi
    · rename_i hlt
      have hat : at_ - 1 < acc.length := by omega
      have := hle acc[at_ - 1] (by omega) (List.getElem?_eq_getElem hat)
      rcases Nat.eq_or_lt_of_le (show i ≤ at_ - 1 by omega) with e | hlt2
      · subst e; rw [List.getElem?_eq_getElem hat] at hi; injection hi with hi; omega
      · have hp := List.pairwise_iff_getElem.1 hs i (at_ - 1) (by omega) hat hlt2
        rw [List.getElem?_eq_getElem (by omega)] at hi
        injection hi with hi
        omega
    · simp at hi
  have h2 : ∀ y ∈ acc.drop at_, x < y := fun y hy => by
    obtain ⟨i, hi⟩ := List.mem_iff_getElem?.1 hy
    rw [List.getElem?_drop] at hi
    exact hgt _ y (by omega) hi
  refine List.pairwise_append.2 ⟨hs'.1, List.pairwise_cons.2 ⟨fun y hy => Int.le_of_lt (h2 y hy), hs'.2.1⟩, fun a ha b hb => ?_⟩
  rcases List.mem_cons.1 hb with rfl | hb
  · exact h1 a ha
  · exact hs'.2.2 a ha b hb
noncomputable def SortedC : Con := conP 1 (fun l : List Int => l.length ≤ 1000000) (fun l => [.one (.flat false 1 (ints l))]) (fun l => .one (.flat true 1 (ints (sortI l))))
theorem Sorted_ok : SoundC Try.prog T 43 SortedC := by
  refine sound_con (X := { Γ := [], T := T, nt := 50 }) cr_none hmix hT sound_nil Try.func43 (by rfl) (by rfl) (by rfl) (by rfl) 2 ?_
  intro l hl
  have hl : l.length ≤ 1000000 := hl
  refine ⟨⟨Nat.le_of_ble_eq_true rfl, Nat.le_of_ble_eq_true rfl⟩, ?_⟩
  refine LoopP.intro (α := Nat × List Int) (fun p => p.1 ≤ l.length ∧ p.2.Pairwise (· ≤ ·) ∧ p.2.Perm (l.take p.1)) (fun p => l.length - p.1) (fun p => [(0, .sl 0 none none), (3, .sl 1 none none), (4, .s (.i .i64 p.1))]) (fun p => [(0, some (.flat false 1 (ints l))), (1, some (.flat true 1 (ints p.2)))]) 2 (0, []) ⟨by simp, by simp, by simp⟩ (by refine Weak.by [(0, some _), (1, some _)] (by ((repeat' first | exact rfl | exact trivial | refine And.intro ?_ ?_) <;> (repeat' first | exact rfl | exact trivial | refine And.intro ?_ ?_))) (by ((repeat' first | exact rfl | exact trivial | refine And.intro ?_ ?_) <;> (repeat' first | exact rfl | exact trivial | refine And.intro ?_ ?_))) (by rfl)) ?_
  rintro ⟨k, acc⟩ ⟨hk, hs, hp⟩
  dsimp only at hk hs hp
  have hal : acc.length = k := by rw [hp.length_eq, List.length_take]; omega
  refine Pick.by (fun h => ?_) (fun h => ?_)
  · simp only [ints_length, decide_eq_true_eq] at h
    have hlt : k < l.length := by simpa using h
    -- the place
    refine LoopP.intro (α := Nat) (fun at_ => at_ ≤ k ∧ ∀ j y, at_ ≤ j → acc[j]? = some y → l[k] < y) (fun at_ => at_) (fun at_ => [(0, .sl 0 none none), (3, .sl 1 none none), (4, .s (.i .i64 k)), (5, .s (.i .i64 at_))]) (fun at_ => [(0, some (.flat false 1 (ints l))), (1, some (.flat true 1 (ints acc)))]) 2 k ⟨by simp, fun j y hj hy => ?_⟩ ?_ ?_
    · have := (List.getElem?_eq_some_iff.1 hy).1; omega
    · refine Weak.by [(0, some _), (1, some _)] (by ((repeat' first | exact rfl | exact trivial | refine And.intro ?_ ?_) <;> (repeat' first | exact rfl | exact trivial | refine And.intro ?_ ?_)); all_goals (show _ = _; rw [ints_length, hal])) (by ((repeat' first | exact rfl | exact trivial | refine And.intro ?_ ?_) <;> (repeat' first | exact rfl | exact trivial | refine And.intro ?_ ?_)); all_goals (show _ = _; rw [ints_length, hal])) (by rfl)
    rintro at_ ⟨ha, hgt⟩
    -- is it further ahead?
    refine Pick.by (fun h0 => ?_) (fun h0 => ?_)
    · have h0 : 0 < at_ := by simpa using h0
      refine Pick.T (inI64_of (by omega) (by omega)) ?_
      refine ⟨at_ - 1, by omega, by rw [ints_length]; omega, ?_⟩
      have hat : at_ - 1 < acc.length := by omega
      refine ⟨_, ints_get (List.getElem?_eq_getElem hat), ?_⟩
      refine ⟨k, rfl, by rw [ints_length]; exact hlt, ?_⟩
      refine ⟨_, ints_get (List.getElem?_eq_getElem hlt), ?_⟩
      refine Seg.by (by kernel_rfl) ?_
      refine Pick.by (fun h => ?_) (fun h => ?_)
      · refine Pick.T (inI64_of (by omega) (by omega)) ?_
        have h : l[k] < acc[at_ - 1] := by simpa using h
        refine ⟨at_ - 1, ⟨by omega, fun j y hj hy => ?_⟩, by omega, by refine Weak.by [(0, some _), (1, some _)] (by ((repeat' first | exact rfl | exact trivial | refine And.intro ?_ ?_) <;> (repeat' first | exact rfl | exact trivial | refine And.intro ?_ ?_)); all_goals (exact sc_eq (by omega))) (by ((repeat' first | exact rfl | exact trivial | refine And.intro ?_ ?_) <;> (repeat' first | exact rfl | exact trivial | refine And.intro ?_ ?_)); all_goals (exact sc_eq (by omega))) (by rfl)⟩
        rcases Nat.eq_or_lt_of_le hj with e | hj
        · subst e; rw [List.getElem?_eq_getElem hat] at hy; injection hy with hy; omega
        · exact hgt j y (by omega) hy
      have hle : ∀ y, at_ ≠ 0 → acc[at_ - 1]? = some y → y ≤ l[k] := fun y _ hy => by
        rw [List.getElem?_eq_getElem hat] at hy; injection hy with hy
        have h : ¬ (l[k] < acc[at_ - 1]) := by simpa using h
        omega
      refine Pick.T (by simp [ints_length, cut]; omega) ?_
      refine Pick.T (inI64_of (by omega) (by omega)) ?_
      refine Rng.by (at_ + 1) (k + 1) (by omega) (by simp [ints_length, cut]; omega) (by omega) (by simp [ints_length, cut]; omega) ?_
      refine Rng.by at_ (k + 1) (by omega) (by simp [ints_length, cut]; omega) (by omega) (by simp [ints_length, cut]; omega) ?_
      refine Pick.T (by simp [ints_length, cut, loOf, subOf]; omega) ?_
      refine Seg.by (by kernel_rfl) ?_
      refine Idx.by k rfl ?_ ?_
      · rw [ints_length]; exact hlt
      refine Look.by _ (ints_get (List.getElem?_eq_getElem hlt)) ?_
      have hlen := ins_len acc at_ k hal ha
      refine Idx.by at_ rfl (by rw [ins_len acc at_ k hal ha]; omega) ?_
      obtain ⟨y, hy, hrow⟩ := ins_rows acc at_ k l[k] hal ha
      refine Look.by _ hy ?_
      refine Pick.T (inI64_of (by omega) (by omega)) ?_
      refine Next.by (k + 1, acc.take at_ ++ l[k] :: acc.drop at_) ⟨by show k + 1 ≤ l.length; omega, ?_, ?_⟩ (by show l.length - (k + 1) < l.length - k; omega) (by refine Weak.by [(0, some _), (1, some _)] (by ((repeat' first | exact rfl | exact trivial | refine And.intro ?_ ?_) <;> (repeat' first | exact rfl | exact trivial | refine And.intro ?_ ?_)); all_goals (exact hrow)) (by ((repeat' first | exact rfl | exact trivial | refine And.intro ?_ ?_) <;> (repeat' first | exact rfl | exact trivial | refine And.intro ?_ ?_)); all_goals (exact hrow)) (by rfl))
      · exact ins_sorted hs (by omega) hgt hle
      · show (acc.take at_ ++ l[k] :: acc.drop at_).Perm (l.take (k + 1))
        rw [List.take_succ_eq_append_getElem hlt]
        refine List.perm_middle.trans ?_
        rw [List.take_append_drop]
        exact (hp.cons _).trans (List.perm_append_singleton _ _).symm
    · have hle : ∀ y, at_ ≠ 0 → acc[at_ - 1]? = some y → y ≤ l[k] := fun y h1 hy => by
        exact absurd (by simpa using h0) h1
      refine Seg.by (by kernel_rfl) ?_
      refine Pick.T (by simp [ints_length, cut]; omega) ?_
      refine Pick.T (inI64_of (by omega) (by omega)) ?_
      refine Rng.by (at_ + 1) (k + 1) (by omega) (by simp [ints_length, cut]; omega) (by omega) (by simp [ints_length, cut]; omega) ?_
      refine Rng.by at_ (k + 1) (by omega) (by simp [ints_length, cut]; omega) (by omega) (by simp [ints_length, cut]; omega) ?_
      refine Pick.T (by simp [ints_length, cut, loOf, subOf]; omega) ?_
      refine Seg.by (by kernel_rfl) ?_
      refine Idx.by k rfl ?_ ?_
      · rw [ints_length]; exact hlt
      refine Look.by _ (ints_get (List.getElem?_eq_getElem hlt)) ?_
      have hlen := ins_len acc at_ k hal ha
      refine Idx.by at_ rfl (by rw [ins_len acc at_ k hal ha]; omega) ?_
      obtain ⟨y, hy, hrow⟩ := ins_rows acc at_ k l[k] hal ha
      refine Look.by _ hy ?_
      refine Pick.T (inI64_of (by omega) (by omega)) ?_
      refine Next.by (k + 1, acc.take at_ ++ l[k] :: acc.drop at_) ⟨by show k + 1 ≤ l.length; omega, ?_, ?_⟩ (by show l.length - (k + 1) < l.length - k; omega) (by refine Weak.by [(0, some _), (1, some _)] (by ((repeat' first | exact rfl | exact trivial | refine And.intro ?_ ?_) <;> (repeat' first | exact rfl | exact trivial | refine And.intro ?_ ?_)); all_goals (exact hrow)) (by ((repeat' first | exact rfl | exact trivial | refine And.intro ?_ ?_) <;> (repeat' first | exact rfl | exact trivial | refine And.intro ?_ ?_)); all_goals (exact hrow)) (by rfl))
      · exact ins_sorted hs (by omega) hgt hle
      · show (acc.take at_ ++ l[k] :: acc.drop at_).Perm (l.take (k + 1))
        rw [List.take_succ_eq_append_getElem hlt]
        refine List.perm_middle.trans ?_
        rw [List.take_append_drop]
        exact (hp.cons _).trans (List.perm_append_singleton _ _).symm
  · refine ⟨rfl, ?_⟩
    have hge : l.length ≤ k := by simpa [ints_length] using h
    rw [List.take_of_length_le hge] at hp
    rw [sortI_unique hs hp]
    exact ⟨rfl, rfl⟩
end Go.Sh

set_option linter.unusedVariables false
set_option linter.unusedSimpArgs false
namespace Go.Sh
open Go.Proofs
theorem conP_at {α : Type} {n : Nat} {pre : α → Prop} {enc : α → List V} {val : α → V} (hinj : ∀ a b, pre a → pre b → enc a = enc b → val a = val b) {a : α} (ha : pre a) : (conP n pre enc val).F (enc a) = some (val a, []) := conF_at hinj ha
/-! ### carcanetref03.Same -/
theorem drop_cons {α : Type} {l : List α} {k : Nat} (h : k < l.length) : l.drop k = l[k] :: l.drop (k + 1) := List.drop_eq_getElem_cons h
/-! ### carcanetref03.SameRows -/
def rowsI (l : List (List Int)) : List Flat := l.map ints
theorem rowsI_get {l : List (List Int)} {i : Nat} {x : List Int} (h : l[i]? = some x) : (rowsI l)[i]? = some (ints x) := by simp [rowsI, h]
theorem rowsI_length (l : List (List Int)) : (rowsI l).length = l.length := by simp [rowsI]
theorem rowsI_inj {l m : List (List Int)} (h : rowsI l = rowsI m) : l = m := (List.map_inj_right (fun x y h => ints_inj h)).1 h
def small (l : List (List Int)) : Prop := l.length ≤ 1000000 ∧ ∀ x ∈ l, x.length ≤ 1000000
end Go.Sh

set_option linter.unusedVariables false
set_option linter.unusedSimpArgs false
namespace Go.Sh
open Go.Proofs
/-! ### graphs as data -/
abbrev Ed := Int × Int
def edges (l : List Ed) : Flat := l.map fun p => [.i .i64 p.1, .i .i64 p.2]
theorem edges_get {l : List Ed} {i : Nat} {x : Ed} (h : l[i]? = some x) : (edges l)[i]? = some [.i .i64 x.1, .i .i64 x.2] := by simp [edges, h]
theorem edges_length (l : List Ed) : (edges l).length = l.length := by simp [edges]
theorem edges_inj {l m : List Ed} (h : edges l = edges m) : l = m := (List.map_inj_right (fun x y h => by simp at h; exact Prod.ext h.1 h.2)).1 h
def grV (n : Int) (E : List Ed) : V := .agg [.s (.i .i64 n), .flat false 2 (edges E)]
theorem grV_inj {n m : Int} {E F : List Ed} (h : grV n E = grV m F) : n = m ∧ E = F := by
  simp [grV] at h
  exact ⟨h.1, edges_inj h.2⟩
def ltE (p q : Ed) : Prop := p.1 < q.1 ∨ p.1 = q.1 ∧ p.2 < q.2
instance (p q : Ed) : Decidable (ltE p q) := by unfold ltE; infer_instance
theorem ltE.trans {p q r : Ed} (h : ltE p q) (k : ltE q r) : ltE p r := by unfold ltE at *; omega
def okE (n : Int) (p : Ed) : Prop := 0 ≤ p.1 ∧ p.1 < p.2 ∧ p.2 < n
instance (n : Int) (p : Ed) : Decidable (okE n p) := by unfold okE; infer_instance
def RightP (n : Int) (E : List Ed) : Prop := 0 ≤ n ∧ n ≤ 1000 ∧ E.length ≤ 4000 ∧ (∀ p ∈ E, okE n p) ∧ E.Pairwise ltE
instance (n : Int) (E : List Ed) : Decidable (RightP n E) := by unfold RightP; infer_instance
theorem pw_step {E : List Ed} {i : Nat} (hi : i < E.length) (h : (E.take i).Pairwise ltE) (k : ∀ h0 : 0 < i, ltE (E[i - 1]'(by omega)) E[i]) : (E.take (i + 1)).Pairwise ltE := by
  rw [List.take_succ_eq_append_getElem hi, List.pairwise_append]
  refine ⟨h, by simp, fun a ha b hb => ?_⟩
  simp at hb
  subst hb
  obtain ⟨j, hj, rfl⟩ := List.mem_iff_getElem.1 ha
  rw [List.length_take] at hj
  have h0 : 0 < i := by omega
  rw [List.getElem_take]
  rcases Nat.eq_or_lt_of_le (show j ≤ i - 1 by omega) with e | hlt
  · subst e; exact k h0
  · have := List.pairwise_iff_getElem.1 h j (i - 1) (by rw [List.length_take]; omega) (by rw [List.length_take]; omega) hlt
    rw [List.getElem_take, List.getElem_take] at this
    exact this.trans (k h0)
theorem pw_no {E : List Ed} {i : Nat} (hi : i < E.length) (h0 : 0 < i) (k : ¬ ltE (E[i - 1]'(by omega)) E[i]) : ¬ E.Pairwise ltE := fun h => k (List.pairwise_iff_getElem.1 h (i - 1) i (by omega) hi (by omega))
theorem all_step {E : List Ed} {n : Int} {i : Nat} (hi : i < E.length) (h : ∀ p ∈ E.take i, okE n p) (k : okE n E[i]) : ∀ p ∈ E.take (i + 1), okE n p := by
  rw [List.take_succ_eq_append_getElem hi]
  intro p hp
  rcases List.mem_append.1 hp with hp | hp
  · exact h p hp
  · simp at hp; subst hp; exact k

/-! ### cmp -/
noncomputable def isNaNC : Con := conP 1 (fun _ : Int => True) (fun x => [.one (.s (.i .i64 x))]) (fun _ => .one (.s (.b false)))
theorem isNaN_ok [Fwd] : SoundC Try.prog T 107 isNaNC := by
  refine sound_con (X := { Γ := [], T := T, nt := 6 }) cr_none hmix hT sound_nil Try.func107 (by rfl) (by rfl) (by rfl) (by rfl) 1 ?_
  rintro x -
  refine ⟨⟨Nat.le_of_ble_eq_true rfl, Nat.le_of_ble_eq_true rfl⟩, ?_⟩
  refine ⟨rfl, ?_⟩
  show _ = _
  simp
theorem isNaNC_at (x : Int) : isNaNC.F [.one (.s (.i .i64 x))] = some (.one (.s (.b false)), []) := conP_at (a := x) (fun a b _ _ h => rfl) trivial
def cmpI (x y : Int) : Int := if x < y then -1 else if y < x then 1 else 0
noncomputable def CompareC : Con := conP 2 (fun _ : Int × Int => True) (fun a => [.one (.s (.i .i64 a.1)), .one (.s (.i .i64 a.2))]) (fun a => .one (.s (.i .i64 (cmpI a.1 a.2))))
theorem Compare_ok [Fwd] : SoundC Try.prog T 96 CompareC := by
  refine sound_con (X := { Γ := [(107, isNaNC)], T := T, nt := 20 }) cr_none hmix hT (sound_cons isNaN_ok sound_nil) Try.func96 (by rfl) (by rfl) (by rfl) (by rfl) 2 ?_
  rintro ⟨x, y⟩ -
  refine ⟨⟨Nat.le_of_ble_eq_true rfl, Nat.le_of_ble_eq_true rfl⟩, ?_⟩
  refine Call.by _ _ (isNaNC_at x) ?_
  refine Call.by _ _ (isNaNC_at y) ?_
  refine Pick.by (fun h => ?_) (fun h => ?_)
  · refine ⟨rfl, ?_⟩
    have h : x < y := by simpa using h
    show _ = _
    simp [cmpI, h]
  refine Pick.by (fun h2 => ?_) (fun h2 => ?_)
  · refine ⟨rfl, ?_⟩
    have h : ¬ x < y := by simpa using h
    have h2 : y < x := by simpa using h2
    show _ = _
    simp [cmpI, h, h2]
  · refine ⟨rfl, ?_⟩
    have h : ¬ x < y := by simpa using h
    have h2 : ¬ y < x := by simpa using h2
    show _ = _
    simp [cmpI, h, h2]
theorem CompareC_at (x y : Int) : CompareC.F [.one (.s (.i .i64 x)), .one (.s (.i .i64 y))] = some (.one (.s (.i .i64 (cmpI x y))), []) :=
  conP_at (a := (x, y)) (fun a b _ _ h => by simp at h; rw [Prod.ext h.1 h.2]) trivial
def orI (l : List Int) : Int := match l.find? (fun x => x != 0) with | some x => x | none => 0
noncomputable def OrC : Con := conP 1 (fun l : List Int => l.length ≤ 1000000) (fun l => [.one (.flat false 1 (ints l))]) (fun l => .one (.s (.i .i64 (orI l))))
theorem Or_ok [Fwd] : SoundC Try.prog T 95 OrC := by
  refine sound_con (X := { Γ := [], T := T, nt := 18 }) cr_none hmix hT sound_nil Try.func95 (by rfl) (by rfl) (by rfl) (by rfl) 1 ?_
  intro l hl
  have hl : l.length ≤ 1000000 := hl
  refine ⟨⟨Nat.le_of_ble_eq_true rfl, Nat.le_of_ble_eq_true rfl⟩, ?_⟩
  refine LoopP.intro (α := Nat) (fun k => k ≤ l.length ∧ orI (l.drop k) = orI l) (fun k => l.length - k) (fun k => [(3, .s (.i .i64 0)), (6, .sl 0 none none), (7, .s (.i .i64 l.length)), (8, .s (.i .i64 k))]) (fun k => [(0, some (.flat false 1 (ints l)))]) 1 0 ⟨by simp, by simp⟩ (by refine Weak.by [(0, some _)] (by ((repeat' first | exact rfl | exact trivial | refine And.intro ?_ ?_) <;> (repeat' first | exact rfl | exact trivial | refine And.intro ?_ ?_)); all_goals (exact sc_eq (by rw [ints_length]))) (by ((repeat' first | exact rfl | exact trivial | refine And.intro ?_ ?_) <;> (repeat' first | exact rfl | exact trivial | refine And.intro ?_ ?_)); all_goals (exact sc_eq (by rw [ints_length]))) (by rfl)) ?_
  rintro k ⟨hk, hs⟩
  refine Pick.by (fun h => ?_) (fun h => ?_)
  · have hlt : k < l.length := by simpa using h
    rw [drop_cons hlt] at hs
    refine Idx.by k rfl (by rw [ints_length]; exact hlt) ?_
    refine Look.by _ (ints_get (List.getElem?_eq_getElem hlt)) ?_
    refine Pick.by (fun h => ?_) (fun h => ?_)
    · refine ⟨rfl, ?_⟩
      have h : (l[k] != 0) = true := h
      show _ = _
      rw [← hs]; simp only [orI, List.find?_cons, h]
    · have h : (l[k] != 0) = false := h
      refine Pick.T (inI64_of (by omega) (by omega)) ?_
      refine Next.by (k + 1) ⟨by omega, ?_⟩ (by omega) (by refine Weak.by [(0, some _)] (by ((repeat' first | exact rfl | exact trivial | refine And.intro ?_ ?_) <;> (repeat' first | exact rfl | exact trivial | refine And.intro ?_ ?_))) (by ((repeat' first | exact rfl | exact trivial | refine And.intro ?_ ?_) <;> (repeat' first | exact rfl | exact trivial | refine And.intro ?_ ?_))) (by rfl))
      rw [← hs]; simp only [orI, List.find?_cons, h]
  · refine ⟨rfl, ?_⟩
    have hge : l.length ≤ k := by simpa using h
    show _ = _
    rw [← hs, List.drop_eq_nil_of_le hge]; rfl
theorem OrC_at (l : List Int) (hl : l.length ≤ 1000000) : OrC.F [.one (.flat false 1 (ints l))] = some (.one (.s (.i .i64 (orI l))), []) :=
  conP_at (a := l) (fun a b _ _ h => by simp at h; rw [ints_inj h]) hl
/-! ### graph.compare -/
def cmpE (p q : Ed) : Int := orI [cmpI p.1 q.1, cmpI p.2 q.2]
theorem cmpE_lt (p q : Ed) : cmpE p q < 0 ↔ ltE p q := by
  unfold cmpE orI cmpI ltE
  repeat' split
  all_goals simp_all
  all_goals omega
def edV (p : Ed) : V := .agg [.s (.i .i64 p.1), .s (.i .i64 p.2)]
noncomputable def compareC : Con := conP 2 (fun _ : Ed × Ed => True) (fun a => [edV a.1, edV a.2]) (fun a => .one (.s (.i .i64 (cmpE a.1 a.2))))
theorem compare_ok [Fwd] : SoundC Try.prog T 69 compareC := by
  refine sound_con (X := { Γ := [(96, CompareC), (95, OrC)], T := T, nt := 17 }) cr_none hmix hT (sound_cons Compare_ok (sound_cons Or_ok sound_nil)) Try.func69 (by rfl) (by rfl) (by rfl) (by rfl) 4 ?_
  rintro ⟨⟨a, b⟩, ⟨c, d⟩⟩ -
  refine ⟨⟨Nat.le_of_ble_eq_true rfl, Nat.le_of_ble_eq_true rfl⟩, ?_⟩
  refine Call.by _ _ (CompareC_at a c) ?_
  refine Call.by _ _ (CompareC_at b d) ?_
  refine Call.by _ _ (OrC_at [cmpI a c, cmpI b d] (by simp)) ?_
  refine Seg.by (by kernel_rfl) ?_
  refine ⟨rfl, ?_⟩
  show _ = _
  rfl
theorem compareC_at (p q : Ed) : compareC.F [edV p, edV q] = some (.one (.s (.i .i64 (cmpE p q))), []) :=
  conP_at (a := (p, q)) (fun a b _ _ h => by
    obtain ⟨⟨a1, a2⟩, a3, a4⟩ := a
    obtain ⟨⟨b1, b2⟩, b3, b4⟩ := b
    simp [edV] at h
    obtain ⟨⟨rfl, rfl⟩, rfl, rfl⟩ := h; rfl) trivial
end Go.Sh

set_option linter.unusedVariables false
set_option linter.unusedSimpArgs false
namespace Go.Sh
open Go.Proofs
/-! ### Right, twice -/
noncomputable def RightC : Con := conP 1 (fun _ : Int × List Ed => True) (fun g => [grV g.1 g.2]) (fun g => .one (.s (.b (decide (RightP g.1 g.2)))))
theorem no_of {n : Int} {E : List Ed} (h : ¬ RightP n E) : (false : Bool) = decide (RightP n E) := (decide_eq_false h).symm
theorem RightC_at (n : Int) (E : List Ed) : RightC.F [grV n E] = some (.one (.s (.b (decide (RightP n E)))), []) :=
  conP_at (a := (n, E)) (fun a b _ _ h => by simp at h; obtain ⟨h1, h2⟩ := grV_inj h; rw [Prod.ext h1 h2]) trivial
def RI (n : Int) (E : List Ed) (k : Nat) : Prop := k ≤ E.length ∧ (∀ p ∈ E.take k, okE n p) ∧ (E.take k).Pairwise ltE
set_option maxHeartbeats 1000000 in
theorem RightG_p : SoundP Try.prog 39 (conF (fun _ : Int × List Ed => True) (fun g => [grV g.1 g.2]) (fun g => .one (.s (.b (decide (RightP g.1 g.2)))))) := by
  refine con_pure (X := { Γ := [(69, compareC)], T := T, nt := 60 }) cr_none hmix hT (sound_cons compare_ok sound_nil) Try.func39 (by rfl) (by rfl) (by rfl) 2 ?_
  rintro ⟨n, E⟩ -
  refine ⟨⟨Nat.le_of_ble_eq_true rfl, Nat.le_of_ble_eq_true rfl⟩, ?_⟩
  refine Pick.by (fun h1 => ?_) (fun h1 => ?_)
  · have h1 : n < 0 := by simpa using h1
    refine ⟨rfl, ?_⟩
    show Sc.b _ = Sc.b _
    rw [← no_of (fun h => by have := h.1; simp only at this; omega)]
  have h1 : ¬ n < 0 := by simpa using h1
  refine Pick.by (fun h2 => ?_) (fun h2 => ?_)
  · have h2 : n > 1000 := by simpa using h2
    refine ⟨rfl, ?_⟩
    show Sc.b _ = Sc.b _
    rw [← no_of (fun h => by have := h.2.1; simp only at this; omega)]
  have h2 : ¬ n > 1000 := by simpa using h2
  refine Pick.by (fun h3 => ?_) (fun h3 => ?_)
  · have h3 : E.length > 4000 := by simp [edges_length] at h3; omega
    refine ⟨rfl, ?_⟩
    show Sc.b _ = Sc.b _
    rw [← no_of (fun h => by have := h.2.2.1; simp only at this; omega)]
  have h3 : E.length ≤ 4000 := by simp [edges_length] at h3; omega
  refine LoopP.intro (α := Nat) (RI n E) (fun k => E.length - k) (fun k => [(1, .ptr 0 0), (20, .sl 1 none none), (21, .s (.i .i64 E.length)), (22, .s (.i .i64 k))]) (fun k => [(0, some (.blk [.s (.i .i64 n), .sl 1 none none])), (1, some (.flat false 2 (edges E)))]) 2 0 ⟨by simp, by simp, by simp⟩ (by refine Weak.by [(0, some _), (1, some _)] (by ((repeat' first | exact rfl | exact trivial | refine And.intro ?_ ?_) <;> (repeat' first | exact rfl | exact trivial | refine And.intro ?_ ?_)); all_goals (exact sc_eq (by rw [edges_length]))) (by ((repeat' first | exact rfl | exact trivial | refine And.intro ?_ ?_) <;> (repeat' first | exact rfl | exact trivial | refine And.intro ?_ ?_)); all_goals (exact sc_eq (by rw [edges_length]))) (by rfl)) ?_
  rintro k ⟨hk, ha, hp⟩
  refine Pick.by (fun h => ?_) (fun h => ?_)
  · have hlt : k < E.length := by simpa using h
    refine Idx.by k rfl (by rw [edges_length]; exact hlt) ?_
    refine Look.by _ (edges_get (List.getElem?_eq_getElem hlt)) ?_
    have hbad : ¬ okE n E[k] → ¬ RightP n E := fun h q => h (q.2.2.2.1 _ (List.getElem_mem hlt))
    refine Pick.by (fun h4 => ?_) (fun h4 => ?_)
    · have h4 : E[k].1 < 0 := by simpa using h4
      refine Seg.by (by kernel_rfl) ?_
      refine ⟨rfl, ?_⟩
      show Sc.b _ = Sc.b _
      rw [← no_of (hbad (fun q => by unfold okE at q; omega))]
    have h4 : ¬ E[k].1 < 0 := by simpa using h4
    refine Pick.by (fun h5 => ?_) (fun h5 => ?_)
    · have h5 : E[k].1 ≥ E[k].2 := by simpa using h5
      refine Seg.by (by kernel_rfl) ?_
      refine ⟨rfl, ?_⟩
      show Sc.b _ = Sc.b _
      rw [← no_of (hbad (fun q => by unfold okE at q; omega))]
    have h5 : ¬ E[k].1 ≥ E[k].2 := by simpa using h5
    refine Pick.by (fun h6 => ?_) (fun h6 => ?_)
    · have h6 : E[k].2 ≥ n := by simpa using h6
      refine Seg.by (by kernel_rfl) ?_
      refine ⟨rfl, ?_⟩
      show Sc.b _ = Sc.b _
      rw [← no_of (hbad (fun q => by unfold okE at q; omega))]
    have h6 : ¬ E[k].2 ≥ n := by simpa using h6
    have hok : okE n E[k] := by unfold okE; omega
    refine Pick.by (fun h0 => ?_) (fun h0 => ?_)
    · have h0 : 0 < k := by simpa using h0
      have hk1 : k - 1 < E.length := by omega
      refine Pick.T (inI64_of (by omega) (by omega)) ?_
      refine Idx.by (k - 1) (by omega) (by rw [edges_length]; exact hk1) ?_
      refine Look.by _ (edges_get (List.getElem?_eq_getElem hk1)) ?_
      refine Call.by _ _ (compareC_at E[k - 1] E[k]) ?_
      refine Seg.by (by kernel_rfl) ?_
      have hc := cmpE_lt E[k - 1] E[k]
      refine Pick.by (fun h9 => ?_) (fun h9 => ?_)
      · have h9 : cmpE E[k - 1] E[k] ≥ 0 := by simpa using h9
        refine ⟨rfl, ?_⟩
        show Sc.b _ = Sc.b _
        rw [← no_of (fun q => pw_no hlt h0 (by rw [← hc]; omega) q.2.2.2.2)]
      · have h9 : ¬ cmpE E[k - 1] E[k] ≥ 0 := by simpa using h9
        refine Pick.T (inI64_of (by omega) (by omega)) ?_
        refine Next.by (k + 1) ⟨by omega, all_step hlt ha hok, pw_step hlt hp (fun _ => by rw [← hc]; omega)⟩ (by omega) (by refine Weak.by [(0, some _), (1, some _)] (by ((repeat' first | exact rfl | exact trivial | refine And.intro ?_ ?_) <;> (repeat' first | exact rfl | exact trivial | refine And.intro ?_ ?_))) (by ((repeat' first | exact rfl | exact trivial | refine And.intro ?_ ?_) <;> (repeat' first | exact rfl | exact trivial | refine And.intro ?_ ?_))) (by rfl))
    · have h0 : ¬ 0 < k := by simpa using h0
      refine Seg.by (by kernel_rfl) ?_
      refine Pick.T (inI64_of (by omega) (by omega)) ?_
      refine Next.by (k + 1) ⟨by omega, all_step hlt ha hok, pw_step hlt hp (fun h => absurd h h0)⟩ (by omega) (by refine Weak.by [(0, some _), (1, some _)] (by ((repeat' first | exact rfl | exact trivial | refine And.intro ?_ ?_) <;> (repeat' first | exact rfl | exact trivial | refine And.intro ?_ ?_))) (by ((repeat' first | exact rfl | exact trivial | refine And.intro ?_ ?_) <;> (repeat' first | exact rfl | exact trivial | refine And.intro ?_ ?_))) (by rfl))
  · refine ⟨rfl, ?_⟩
    have hge : E.length ≤ k := by simpa using h
    rw [List.take_of_length_le hge] at ha hp
    show Sc.b _ = Sc.b _
    rw [decide_eq_true (show RightP (n, E).1 (n, E).2 from ⟨by simp only; omega, by simp only; omega, h3, ha, hp⟩)]
theorem RightG_ok : SoundC Try.prog T 39 RightC := sound_pure Try.func39 (by rfl) (by rfl) (by simp [RightC, conP]) RightG_p
end Go.Sh

set_option linter.unusedVariables false
set_option linter.unusedSimpArgs false
namespace Go.Sh
open Go.Proofs
/-! ### minor.above, Lift, Drop -/
def aboveF (l : List Int) (h : Int) : List Int := l.map fun v => if v ≥ h then v + 1 else v
def mild (l : List Int) : Prop := l.length ≤ 1000000 ∧ ∀ v ∈ l, -9223372036854775808 ≤ v ∧ v ≤ 4611686018427387904
noncomputable def aboveC : Con := conP 2 (fun a : List Int × Int => mild a.1) (fun a => [.one (.flat false 1 (ints a.1)), .one (.s (.i .i64 a.2))]) (fun a => .one (.flat true 1 (ints (aboveF a.1 a.2))))
theorem aboveC_at {l : List Int} (h : Int) (hl : mild l) : aboveC.F [.one (.flat false 1 (ints l)), .one (.s (.i .i64 h))] = some (.one (.flat true 1 (ints (aboveF l h))), []) :=
  conP_at (a := (l, h)) (fun a b _ _ h => by simp at h; obtain ⟨h1, h2⟩ := h; rw [Prod.ext (ints_inj h1) h2]) hl
theorem ints_snoc (l : List Int) (x : Int) : ints (l ++ [x]) = ints l ++ [[.i .i64 x]] := by simp [ints]
theorem take_snoc {α β : Type} (f : α → β) {l : List α} {k : Nat} (h : k < l.length) : (l.take (k + 1)).map f = (l.take k).map f ++ [f l[k]] := by
  rw [List.take_succ_eq_append_getElem h, List.map_append]; rfl
theorem above_ok : SoundC Try.prog T 62 aboveC := by
  refine sound_con (X := { Γ := [], T := T, nt := 25 }) cr_none hmix hT sound_nil Try.func62 (by rfl) (by rfl) (by rfl) (by rfl) 2 ?_
  rintro ⟨l, h⟩ ⟨hl, hv⟩
  dsimp only at hl hv
  refine ⟨⟨Nat.le_of_ble_eq_true rfl, Nat.le_of_ble_eq_true rfl⟩, ?_⟩
  refine LoopP.intro (α := Nat) (fun k => k ≤ l.length) (fun k => l.length - k) (fun k => [(1, .s (.i .i64 h)), (5, .sl 1 none none), (8, .sl 0 none none), (9, .s (.i .i64 l.length)), (10, .s (.i .i64 k))]) (fun k => [(0, some (.flat false 1 (ints l))), (1, some (.flat true 1 (ints (aboveF (l.take k) h))))]) 2 0 (by simp) (by refine Weak.by [(0, some _), (1, none)] (by ((repeat' first | exact rfl | exact trivial | refine And.intro ?_ ?_) <;> (repeat' first | exact rfl | exact trivial | refine And.intro ?_ ?_)); all_goals (first | exact sc_eq (by rw [ints_length]) | (simp [aboveF, ints]))) (by ((repeat' first | exact rfl | exact trivial | refine And.intro ?_ ?_) <;> (repeat' first | exact rfl | exact trivial | refine And.intro ?_ ?_)); all_goals (first | exact sc_eq (by rw [ints_length]) | (simp [aboveF, ints]))) (by rfl)) ?_
  rintro k hk
  refine Pick.by (fun hc => ?_) (fun hc => ?_)
  · have hlt : k < l.length := by simpa using hc
    have hx := hv _ (List.getElem_mem hlt)
    refine Idx.by k rfl (by rw [ints_length]; exact hlt) ?_
    refine Look.by _ (ints_get (List.getElem?_eq_getElem hlt)) ?_
    have hstep : ints (aboveF (l.take (k + 1)) h) = ints (aboveF (l.take k) h) ++ [[.i .i64 (if l[k] ≥ h then l[k] + 1 else l[k])]] := by
      rw [← ints_snoc]; unfold aboveF; rw [take_snoc _ hlt]
    have hroom : (ints (aboveF (l.take k) h)).length = k := by rw [ints_length]; simp [aboveF]; omega
    refine Pick.by (fun hg => ?_) (fun hg => ?_)
    · have hg : l[k] ≥ h := by simpa using hg
      rw [if_pos hg] at hstep
      refine Pick.T (inI64_of (by omega) (by omega)) ?_
      refine Pick.T (by rw [cut, hroom]; simp; omega) ?_
      refine Pick.T (inI64_of (by omega) (by omega)) ?_
      refine Next.by (k + 1) (by omega) (by omega) (by refine Weak.by [(0, some _), (1, some _)] (by ((repeat' first | exact rfl | exact trivial | refine And.intro ?_ ?_) <;> (repeat' first | exact rfl | exact trivial | refine And.intro ?_ ?_)); all_goals (exact hstep)) (by ((repeat' first | exact rfl | exact trivial | refine And.intro ?_ ?_) <;> (repeat' first | exact rfl | exact trivial | refine And.intro ?_ ?_)); all_goals (exact hstep)) (by rfl))
    · have hg : ¬ l[k] ≥ h := by simpa using hg
      rw [if_neg hg] at hstep
      refine Pick.T (by rw [cut, hroom]; simp; omega) ?_
      refine Pick.T (inI64_of (by omega) (by omega)) ?_
      refine Next.by (k + 1) (by omega) (by omega) (by refine Weak.by [(0, some _), (1, some _)] (by ((repeat' first | exact rfl | exact trivial | refine And.intro ?_ ?_) <;> (repeat' first | exact rfl | exact trivial | refine And.intro ?_ ?_)); all_goals (exact hstep)) (by ((repeat' first | exact rfl | exact trivial | refine And.intro ?_ ?_) <;> (repeat' first | exact rfl | exact trivial | refine And.intro ?_ ?_)); all_goals (exact hstep)) (by rfl))
  · refine ⟨rfl, ?_⟩
    have hge : l.length ≤ k := by simpa using hc
    refine ⟨rfl, ?_⟩
    show ints (aboveF l h) = _
    rw [List.take_of_length_le hge]; rfl
/-- what a row is lifted to -/
def liftRow (lo hi : Int) (l : List Int) : List Int := if lo < 0 ∨ lo = hi then l else if l.elem lo then aboveF l hi ++ [hi] else aboveF l hi
def milds (l : List (List Int)) : Prop := l.length ≤ 1000000 ∧ ∀ x ∈ l, mild x
theorem rowsI_snoc (l : List (List Int)) (x : List Int) : rowsI (l ++ [x]) = rowsI l ++ [ints x] := by simp [rowsI]
/-! each, lifting -/
noncomputable def EachLC : Con := conP 2 (fun a : List (List Int) × Int × Int => milds a.1) (fun a => [.one (.nest false 1 (rowsI a.1)), .clo 64 [.cap (.i .i64 a.2.1), .cap (.i .i64 a.2.2)]]) (fun a => .one (.nest true 1 (rowsI (a.1.map (liftRow a.2.1 a.2.2)))))
noncomputable def XL : Cx := { Γ := [(62, aboveC)], T := T, nt := 22, inl := [(64, inlF Try.f64)] }
theorem EachL_ok : SoundC Try.prog T 60 EachLC := by
  refine sound_con (X := XL) (cr := callAt 1 XL) (callAt_ok hmix hT (sound_cons above_ok sound_nil) (inl_cons Try.func64 (by rfl) (by rfl) (by rfl) inl_nil) cr_none 1) hmix hT (sound_cons above_ok sound_nil) Try.func60 (by rfl) (by rfl) (by rfl) (by rfl) 3 ?_
  rintro ⟨l, lo, hi⟩ ⟨hl, hm⟩
  dsimp only at hl hm
  refine ⟨⟨Nat.le_of_ble_eq_true rfl, Nat.le_of_ble_eq_true rfl⟩, ?_⟩
  refine LoopP.intro (α := Nat) (fun k => k ≤ l.length) (fun k => l.length - k) (fun k => [(1, .fn 64 [.ptr 1 0, .ptr 2 0]), (5, .sl 3 none none), (8, .sl 0 none none), (9, .s (.i .i64 l.length)), (10, .s (.i .i64 k))]) (fun k => [(0, some (.nest false 1 (rowsI l) [] [])), (1, some (.rblk [.s (.i .i64 lo)])), (2, some (.rblk [.s (.i .i64 hi)])), (3, some (.nest true 1 (rowsI ((l.take k).map (liftRow lo hi))) [] []))]) 4 0 (by simp) (by refine Weak.by [(0, some _), (1, some _), (2, some _), (3, none)] (by ((repeat' first | exact rfl | exact trivial | refine And.intro ?_ ?_) <;> (repeat' first | exact rfl | exact trivial | refine And.intro ?_ ?_)); all_goals (first | exact sc_eq (by rw [rowsI_length]) | (simp [rowsI]))) (by ((repeat' first | exact rfl | exact trivial | refine And.intro ?_ ?_) <;> (repeat' first | exact rfl | exact trivial | refine And.intro ?_ ?_)); all_goals (first | exact sc_eq (by rw [rowsI_length]) | (simp [rowsI]))) (by rfl)) ?_
  rintro k hk
  refine Pick.by (fun hc => ?_) (fun hc => ?_)
  · have hlt : k < l.length := by simpa using hc
    have hx := hm _ (List.getElem_mem hlt)
    refine Idx.by k rfl (by rw [rowsI_length]; exact hlt) ?_
    refine Pick.T (by simpa [rowsI_length] using hlt) ?_
    have hstep : rowsI ((l.take (k + 1)).map (liftRow lo hi)) = rowsI ((l.take k).map (liftRow lo hi)) ++ [ints (liftRow lo hi l[k])] := by
      rw [← rowsI_snoc, take_snoc _ hlt]
    have hroom : (rowsI ((l.take k).map (liftRow lo hi))).length = k := by rw [rowsI_length]; simp; omega
    have same : lo < 0 ∨ lo = hi → liftRow lo hi l[k] = l[k] := fun h => if_pos h
    refine Pick.by (fun hg => ?_) (fun hg => ?_)
    · have hg : lo < 0 := by simpa using hg
      rw [same (.inl hg)] at hstep
      refine Look.by _ (rowsI_get (List.getElem?_eq_getElem hlt)) ?_
      refine Pick.T (by simp [cut, ints_length]; have := hx.1; omega) ?_
      refine Pick.T (by rw [hroom]; simp; omega) ?_
      refine Pick.T (inI64_of (by omega) (by omega)) ?_
      refine Next.by (k + 1) (by omega) (by omega) (by refine Weak.by [(0, some _), (1, some _), (2, some _), (3, some _)] (by ((repeat' first | exact rfl | exact trivial | refine And.intro ?_ ?_) <;> (repeat' first | exact rfl | exact trivial | refine And.intro ?_ ?_)); all_goals (exact hstep)) (by ((repeat' first | exact rfl | exact trivial | refine And.intro ?_ ?_) <;> (repeat' first | exact rfl | exact trivial | refine And.intro ?_ ?_)); all_goals (exact hstep)) (by rfl))
    have hg : ¬ lo < 0 := by simpa using hg
    refine Pick.by (fun he => ?_) (fun he => ?_)
    · have he : lo = hi := by simpa using he
      rw [same (.inr he)] at hstep
      refine Look.by _ (rowsI_get (List.getElem?_eq_getElem hlt)) ?_
      refine Pick.T (by simp [cut, ints_length]; have := hx.1; omega) ?_
      refine Pick.T (by rw [hroom]; simp; omega) ?_
      refine Pick.T (inI64_of (by omega) (by omega)) ?_
      refine Next.by (k + 1) (by omega) (by omega) (by refine Weak.by [(0, some _), (1, some _), (2, some _), (3, some _)] (by ((repeat' first | exact rfl | exact trivial | refine And.intro ?_ ?_) <;> (repeat' first | exact rfl | exact trivial | refine And.intro ?_ ?_)); all_goals (exact hstep)) (by ((repeat' first | exact rfl | exact trivial | refine And.intro ?_ ?_) <;> (repeat' first | exact rfl | exact trivial | refine And.intro ?_ ?_)); all_goals (exact hstep)) (by rfl))
    have he : ¬ lo = hi := by simpa using he
    have hno : ¬ (lo < 0 ∨ lo = hi) := fun h => h.elim hg he
    refine Look.by _ (rowsI_get (List.getElem?_eq_getElem hlt)) ?_
    refine Call.by _ _ (aboveC_at hi hx) ?_
    refine Look.by _ (rowsI_get (List.getElem?_eq_getElem hlt)) ?_
    have hxl := hx.1
    refine LoopP.intro (α := Nat) (fun j => j ≤ l[k].length ∧ (l[k].drop j).elem lo = l[k].elem lo) (fun j => l[k].length - j) (fun j => [(1, .ptr 1 0), (2, .ptr 2 0), (5, .sl 4 none none), (20, .sl 0 (some (k, 0)) none), (21, .s (.i .i64 l[k].length)), (22, .s (.i .i64 j)),
      (1000001, .fn 64 [.ptr 1 0, .ptr 2 0]), (1000008, .sl 0 none none), (1000009, .s (.i .i64 l.length)), (1000010, .s (.i .i64 k)), (1000014, .sl 3 none none)])
      (fun j => [(0, some (.nest false 1 (rowsI l) [] [])), (1, some (.rblk [.s (.i .i64 lo)])), (2, some (.rblk [.s (.i .i64 hi)])), (3, some (.nest true 1 (rowsI ((l.take k).map (liftRow lo hi))) [] [])), (4, some (.flat true 1 (ints (aboveF l[k] hi))))]) 5 0 ⟨by simp, by simp⟩ (by refine Weak.by [(0, some _), (1, some _), (2, some _), (3, some _), (4, some _)] (by ((repeat' first | exact rfl | exact trivial | refine And.intro ?_ ?_) <;> (repeat' first | exact rfl | exact trivial | refine And.intro ?_ ?_)); all_goals (first | exact sc_eq (by rw [ints_length]) | simp)) (by ((repeat' first | exact rfl | exact trivial | refine And.intro ?_ ?_) <;> (repeat' first | exact rfl | exact trivial | refine And.intro ?_ ?_)); all_goals (first | exact sc_eq (by rw [ints_length]) | simp)) (by rfl)) ?_
    rintro j ⟨hj, hs⟩
    refine Pick.by (fun hd => ?_) (fun hd => ?_)
    · have hjl : j < l[k].length := by simpa using hd
      rw [drop_cons hjl] at hs
      refine Look.by _ (rowsI_get (List.getElem?_eq_getElem hlt)) ?_
      refine Idx.by j rfl (by rw [ints_length]; exact hjl) ?_
      refine Look.by _ (rowsI_get (List.getElem?_eq_getElem hlt)) ?_
      refine Look.by _ (ints_get (List.getElem?_eq_getElem hjl)) ?_
      refine Pick.by (fun hq => ?_) (fun hq => ?_)
      · have hq : l[k][j] = lo := by simpa using hq
        have hmem : l[k].elem lo = true := by rw [← hs]; simp [hq]
        rw [show liftRow lo hi l[k] = aboveF l[k] hi ++ [hi] by unfold liftRow; rw [if_neg hno, if_pos hmem], ints_snoc] at hstep
        refine Pick.T (by simp [cut, ints_length, aboveF]; omega) ?_
        refine Pick.T (by rw [hroom]; simp; omega) ?_
        refine Pick.T (inI64_of (by omega) (by omega)) ?_
        refine Next.by (k + 1) (by omega) (by omega) (by refine Weak.by [(0, some _), (1, some _), (2, some _), (3, some _)] (by ((repeat' first | exact rfl | exact trivial | refine And.intro ?_ ?_) <;> (repeat' first | exact rfl | exact trivial | refine And.intro ?_ ?_)); all_goals (exact hstep)) (by ((repeat' first | exact rfl | exact trivial | refine And.intro ?_ ?_) <;> (repeat' first | exact rfl | exact trivial | refine And.intro ?_ ?_)); all_goals (exact hstep)) (by rfl))
      · have hq : ¬ l[k][j] = lo := by simpa using hq
        refine Pick.T (inI64_of (by omega) (by omega)) ?_
        refine Next.by (j + 1) ⟨by omega, ?_⟩ (by omega) (by refine Weak.by [(0, some _), (1, some _), (2, some _), (3, some _), (4, some _)] (by ((repeat' first | exact rfl | exact trivial | refine And.intro ?_ ?_) <;> (repeat' first | exact rfl | exact trivial | refine And.intro ?_ ?_)); all_goals (simp)) (by ((repeat' first | exact rfl | exact trivial | refine And.intro ?_ ?_) <;> (repeat' first | exact rfl | exact trivial | refine And.intro ?_ ?_)); all_goals (simp)) (by rfl))
        rw [← hs, List.elem_cons, show (lo == l[k][j]) = false by simpa using fun e => hq e.symm]
    · have hge : l[k].length ≤ j := by simpa using hd
      have hmem : ¬ l[k].elem lo = true := by rw [← hs, List.drop_eq_nil_of_le hge]; simp
      rw [show liftRow lo hi l[k] = aboveF l[k] hi by unfold liftRow; rw [if_neg hno, if_neg hmem]] at hstep
      refine Pick.T (by rw [hroom]; simp; omega) ?_
      refine Pick.T (inI64_of (by omega) (by omega)) ?_
      refine Next.by (k + 1) (by omega) (by omega) (by refine Weak.by [(0, some _), (1, some _), (2, some _), (3, some _)] (by ((repeat' first | exact rfl | exact trivial | refine And.intro ?_ ?_) <;> (repeat' first | exact rfl | exact trivial | refine And.intro ?_ ?_)); all_goals (exact hstep)) (by ((repeat' first | exact rfl | exact trivial | refine And.intro ?_ ?_) <;> (repeat' first | exact rfl | exact trivial | refine And.intro ?_ ?_)); all_goals (exact hstep)) (by rfl))
  · refine ⟨rfl, ?_⟩
    have hge : l.length ≤ k := by simpa using hc
    refine ⟨rfl, ?_⟩
    show rowsI (l.map (liftRow lo hi)) = _
    rw [List.take_of_length_le hge]
theorem EachLC_at {l : List (List Int)} (lo hi : Int) (hl : milds l) : EachLC.F [.one (.nest false 1 (rowsI l)), .clo 64 [.cap (.i .i64 lo), .cap (.i .i64 hi)]] = some (.one (.nest true 1 (rowsI (l.map (liftRow lo hi)))), []) :=
  conP_at (a := (l, lo, hi)) (fun a b _ _ h => by simp at h; obtain ⟨h1, h2, h3⟩ := h; rw [Prod.ext (rowsI_inj h1) (Prod.ext h2 h3)]) hl
end Go.Sh

set_option linter.unusedVariables false
set_option linter.unusedSimpArgs false
namespace Go.Sh
open Go.Proofs
def moV (own : Bool) (k : Int) (l : List (List Int)) : V := .agg [.s (.i .i64 k), .nest own 1 (rowsI l)]
theorem moV_inj {own : Bool} {k k' : Int} {l l' : List (List Int)} (h : moV own k l = moV own k' l') : k = k' ∧ l = l' := by
  simp [moV] at h
  exact ⟨h.1, rowsI_inj h.2⟩
def mnI (a b : Int) : Int := if b < a then b else a
def mxI (a b : Int) : Int := if b > a then b else a
abbrev Mo := Int × List (List Int)
noncomputable def LiftMC : Con := conP 3 (fun a : Mo × Int × Int => milds a.1.2) (fun a => [moV false a.1.1 a.1.2, .one (.s (.i .i64 a.2.1)), .one (.s (.i .i64 a.2.2))]) (fun a => moV true a.1.1 (a.1.2.map (liftRow (mnI a.2.1 a.2.2) (mxI a.2.1 a.2.2))))
theorem LiftM_ok : SoundC Try.prog T 34 LiftMC := by
  refine sound_con (X := { Γ := [(60, EachLC)], T := T, nt := 22 }) cr_none hmix hT (sound_cons EachL_ok sound_nil) Try.func34 (by rfl) (by rfl) (by rfl) (by rfl) 4 ?_
  rintro ⟨⟨k, l⟩, a, b⟩ hl
  dsimp only at hl
  refine ⟨⟨Nat.le_of_ble_eq_true rfl, Nat.le_of_ble_eq_true rfl⟩, ?_⟩
  refine Call.by _ _ (EachLC_at (mnI a b) (mxI a b) hl) ?_
  refine Seg.by (by kernel_rfl) ?_
  exact ⟨rfl, rfl, ⟨rfl, rfl⟩, trivial⟩
theorem LiftMC_at {k : Int} {l : List (List Int)} (a b : Int) (hl : milds l) : LiftMC.F [moV false k l, .one (.s (.i .i64 a)), .one (.s (.i .i64 b))] = some (moV true k (l.map (liftRow (mnI a b) (mxI a b))), []) :=
  conP_at (a := ((k, l), a, b)) (fun a b _ _ h => by
    obtain ⟨⟨k, l⟩, x, y⟩ := a
    obtain ⟨⟨k', l'⟩, x', y'⟩ := b
    simp at h
    obtain ⟨h1, h2, h3⟩ := h
    obtain ⟨rfl, rfl⟩ := moV_inj h1
    subst h2; subst h3; rfl) hl
/-! ### carcanetref08.Drop -/
end Go.Sh

set_option linter.unusedVariables false
set_option linter.unusedSimpArgs false
namespace Go.Sh
open Go.Proofs
theorem InC_at {l : List Int} (x : Int) (hl : l.length ≤ 1000000) : InC.F [.one (.flat false 1 (ints l)), .one (.s (.i .i64 x))] = some (.one (.s (.b (l.elem x))), []) :=
  conP_at (a := (l, x)) (fun a b _ _ h => by simp at h; obtain ⟨h1, h2⟩ := h; rw [Prod.ext (ints_inj h1) h2]) hl
theorem set_same {α : Type} {l : List α} {i : Nat} {x : α} (h : l[i]? = some x) : l.set i x = l := by
  apply List.ext_getElem?
  intro j
  by_cases hj : j = i
  · subst hj; rw [List.getElem?_set_self (List.getElem?_eq_some_iff.1 h).1, h]
  · rw [List.getElem?_set_ne (Ne.symm hj)]
/-! ### carcanetref08.Lift -/
/-! ### carcanetlaw08.small, same -/
def cutSets (l : List (List Int)) : List (List Int) := (l.take 6).map fun x => x.take 20
noncomputable def SmallC : Con := conP 1 (fun _ : Mo => True) (fun a => [moV false a.1 a.2]) (fun a => moV true a.1 (cutSets a.2))
theorem SmallC_at (k : Int) (l : List (List Int)) : SmallC.F [moV false k l] = some (moV true k (cutSets l), []) :=
  conP_at (a := (k, l)) (fun a b _ _ h => by simp at h; obtain ⟨h1, h2⟩ := moV_inj h; rw [Prod.ext h1 h2]) trivial
theorem Small_ok : SoundC Try.prog T 30 SmallC := by
  refine sound_con (X := { Γ := [], T := T, nt := 40 }) cr_none hmix hT sound_nil Try.func30 (by rfl) (by rfl) (by rfl) (by rfl) 2 ?_
  rintro ⟨kd, l⟩ -
  refine ⟨⟨Nat.le_of_ble_eq_true rfl, Nat.le_of_ble_eq_true rfl⟩, ?_⟩
  refine LoopP.intro (α := Nat) (fun k => k ≤ l.length ∧ k ≤ 6) (fun k => l.length - k) (fun k => [(1, .ptr 0 0), (2, .ptr 2 0), (3, .ptr 3 0), (4, .s (.i .i64 k))])
    (fun k => [(0, some (.blk [.s (.i .i64 kd), .sl 1 none none])), (1, some (.nest false 1 (rowsI l) [] [])), (2, some (.blk [.s (.i .i64 0), .nils])), (3, some (.blk [.s (.i .i64 kd), .sl 4 none none])), (4, some (.nest true 1 (rowsI ((l.take k).map fun x => x.take 20)) [] []))]) 5 0 (by simp) (by refine Weak.by [(0, some _), (1, some _), (2, some _), (3, some _), (4, none)] (by ((repeat' first | exact rfl | exact trivial | refine And.intro ?_ ?_) <;> (repeat' first | exact rfl | exact trivial | refine And.intro ?_ ?_)); all_goals (simp [rowsI])) (by ((repeat' first | exact rfl | exact trivial | refine And.intro ?_ ?_) <;> (repeat' first | exact rfl | exact trivial | refine And.intro ?_ ?_)); all_goals (simp [rowsI])) (by rfl)) ?_
  rintro k ⟨hk, hk6⟩
  have endd : k = l.length ∨ k = 6 → rowsI (cutSets l) = rowsI ((l.take k).map fun x => x.take 20) := fun h => by
    unfold cutSets
    rcases h with h | h
    · rw [List.take_of_length_le (by omega : l.length ≤ k), List.take_of_length_le (by omega : l.length ≤ 6)]
    · rw [h]
  refine Pick.by (fun hc => ?_) (fun hc => ?_)
  · have hlt : k < l.length := by simpa [rowsI_length] using hc
    refine Pick.by (fun h6 => ?_) (fun h6 => ?_)
    · have h6 : k < 6 := by simp at h6; omega
      have hstep : rowsI ((l.take (k + 1)).map fun x => x.take 20) = rowsI ((l.take k).map fun x => x.take 20) ++ [ints (l[k].take 20)] := by
        rw [← rowsI_snoc, take_snoc _ hlt]
      have hroom : (rowsI ((l.take k).map fun x => x.take 20)).length = k := by rw [rowsI_length]; simp; omega
      refine Idx.by k rfl ?_ ?_
      · rw [rowsI_length]; exact hlt
      refine Pick.T (by simpa [rowsI_length] using hlt) ?_
      refine Idx.by k rfl ?_ ?_
      · rw [rowsI_length]; exact hlt
      refine Pick.T (by simpa [rowsI_length] using hlt) ?_
      refine Look.by _ (rowsI_get (List.getElem?_eq_getElem hlt)) ?_
      refine Look.by _ (rowsI_get (List.getElem?_eq_getElem hlt)) ?_
      refine Rng.by 0 (min l[k].length 20) rfl ?_ (by omega) ?_ ?_
      · rw [ints_length]
        show (if (20 : Int) < (l[k].length : Int) then (20 : Int) else (l[k].length : Int)) = _
        split <;> omega
      · rw [ints_length]; omega
      have hcut : cut (subOf none 0 0 (min l[k].length 20)) (ints l[k]) = ints (l[k].take 20) := by
        simp only [subOf, cut, List.drop_zero, Nat.sub_zero, ints, List.map_take]
        rw [List.take_eq_take_iff]; simp; omega
      refine Look.by _ (rowsI_get (List.getElem?_eq_getElem hlt)) ?_
      refine Pick.T (by rw [hcut]; simp [ints_length, cut]; omega) ?_
      refine Pick.T (by rw [hroom]; simp; omega) ?_
      refine Seg.by (by kernel_rfl) ?_
      refine Pick.T (inI64_of (by omega) (by omega)) ?_
      refine Next.by (k + 1) ⟨by omega, by omega⟩ (by omega) (by refine Weak.by [(0, some _), (1, some _), (2, some _), (3, some _), (4, some _)] (by ((repeat' first | exact rfl | exact trivial | refine And.intro ?_ ?_) <;> (repeat' first | exact rfl | exact trivial | refine And.intro ?_ ?_)); all_goals (rw [hstep, ← hcut]; rfl)) (by ((repeat' first | exact rfl | exact trivial | refine And.intro ?_ ?_) <;> (repeat' first | exact rfl | exact trivial | refine And.intro ?_ ?_)); all_goals (rw [hstep, ← hcut]; rfl)) (by rfl))
    · have h6 : ¬ k < 6 := by simp at h6; omega
      exact ⟨rfl, rfl, ⟨rfl, endd (.inr (by omega))⟩, trivial⟩
  · have hge : l.length ≤ k := by simpa [rowsI_length] using hc
    exact ⟨rfl, rfl, ⟨rfl, endd (.inl (by omega))⟩, trivial⟩
end Go.Sh

set_option linter.unusedVariables false
set_option linter.unusedSimpArgs false
namespace Go.Sh
open Go.Proofs
/-! ### slices.Min, slices.Max -/
def mnL : List Int → Int
  | [] => 0
  | x :: r => r.foldl mnI x
def mxL : List Int → Int
  | [] => 0
  | x :: r => r.foldl mxI x
theorem mnL_snoc {l : List Int} (h : l ≠ []) (x : Int) : mnL (l ++ [x]) = mnI (mnL l) x := by
  cases l with
  | nil => exact absurd rfl h
  | cons a l => simp [mnL, List.foldl_append]
theorem mxL_snoc {l : List Int} (h : l ≠ []) (x : Int) : mxL (l ++ [x]) = mxI (mxL l) x := by
  cases l with
  | nil => exact absurd rfl h
  | cons a l => simp [mxL, List.foldl_append]
theorem mnF_ge (r : List Int) (a c : Int) : c ≤ r.foldl mnI a ↔ c ≤ a ∧ ∀ x ∈ r, c ≤ x := by
  induction r generalizing a with
  | nil => simp
  | cons y r ih =>
    rw [List.foldl_cons, ih]
    unfold mnI
    split <;> simp <;> intros <;> omega
theorem mxF_le (r : List Int) (a c : Int) : r.foldl mxI a ≤ c ↔ a ≤ c ∧ ∀ x ∈ r, x ≤ c := by
  induction r generalizing a with
  | nil => simp
  | cons y r ih =>
    rw [List.foldl_cons, ih]
    unfold mxI
    split <;> simp <;> intros <;> omega
theorem mnL_ge {l : List Int} (h : l ≠ []) (c : Int) : c ≤ mnL l ↔ ∀ x ∈ l, c ≤ x := by
  cases l with
  | nil => exact absurd rfl h
  | cons a l => simp [mnL, mnF_ge]
theorem mxL_le {l : List Int} (h : l ≠ []) (c : Int) : mxL l ≤ c ↔ ∀ x ∈ l, x ≤ c := by
  cases l with
  | nil => exact absurd rfl h
  | cons a l => simp [mxL, mxF_le]
noncomputable def MinC : Con := conP 1 (fun l : List Int => l ≠ [] ∧ l.length ≤ 1000000) (fun l => [.one (.flat false 1 (ints l))]) (fun l => .one (.s (.i .i64 (mnL l))))
noncomputable def MaxC : Con := conP 1 (fun l : List Int => l ≠ [] ∧ l.length ≤ 1000000) (fun l => [.one (.flat false 1 (ints l))]) (fun l => .one (.s (.i .i64 (mxL l))))
theorem MinC_at {l : List Int} (h : l ≠ []) (hl : l.length ≤ 1000000) : MinC.F [.one (.flat false 1 (ints l))] = some (.one (.s (.i .i64 (mnL l))), []) :=
  conP_at (a := l) (fun a b _ _ h => by simp at h; rw [ints_inj h]) ⟨h, hl⟩
theorem MaxC_at {l : List Int} (h : l ≠ []) (hl : l.length ≤ 1000000) : MaxC.F [.one (.flat false 1 (ints l))] = some (.one (.s (.i .i64 (mxL l))), []) :=
  conP_at (a := l) (fun a b _ _ h => by simp at h; rw [ints_inj h]) ⟨h, hl⟩
theorem Min_ok : SoundC Try.prog T 89 MinC := by
  refine sound_con (X := { Γ := [], T := T, nt := 25 }) cr_none hmix hT sound_nil Try.func89 (by rfl) (by rfl) (by rfl) (by rfl) 1 ?_
  rintro l ⟨hne, hl⟩
  have hpos : 0 < l.length := List.length_pos_iff.2 hne
  refine ⟨⟨Nat.le_of_ble_eq_true rfl, Nat.le_of_ble_eq_true rfl⟩, ?_⟩
  refine Pick.F (by rw [ints_length]; simp; omega) ?_
  refine Idx.by 0 rfl (by rw [ints_length]; exact hpos) ?_
  refine Look.by _ (ints_get (List.getElem?_eq_getElem hpos)) ?_
  refine LoopP.intro (α := Nat) (fun k => 1 ≤ k ∧ k ≤ l.length) (fun k => l.length - k) (fun k => [(0, .sl 0 none none), (3, .s (.i .i64 (mnL (l.take k)))), (4, .s (.i .i64 k))]) (fun k => [(0, some (.flat false 1 (ints l)))]) 1 1 ⟨by omega, by omega⟩ (by refine Weak.by [(0, some _)] (by ((repeat' first | exact rfl | exact trivial | refine And.intro ?_ ?_) <;> (repeat' first | exact rfl | exact trivial | refine And.intro ?_ ?_)); all_goals (exact sc_eq (by cases l with | nil => exact absurd rfl hne | cons a l => rfl))) (by ((repeat' first | exact rfl | exact trivial | refine And.intro ?_ ?_) <;> (repeat' first | exact rfl | exact trivial | refine And.intro ?_ ?_)); all_goals (exact sc_eq (by cases l with | nil => exact absurd rfl hne | cons a l => rfl))) (by rfl)) ?_
  rintro k ⟨h1, hk⟩
  have hne2 : l.take k ≠ [] := by intro h; have := congrArg List.length h; rw [List.length_take, List.length_nil] at this; omega
  refine Pick.by (fun hc => ?_) (fun hc => ?_)
  · have hlt : k < l.length := by simpa [ints_length] using hc
    refine Idx.by k rfl (by rw [ints_length]; exact hlt) ?_
    refine Look.by _ (ints_get (List.getElem?_eq_getElem hlt)) ?_
    refine Pick.T (inI64_of (by omega) (by omega)) ?_
    refine Next.by (k + 1) ⟨by omega, by omega⟩ (by omega) (by refine Weak.by [(0, some _)] (by ((repeat' first | exact rfl | exact trivial | refine And.intro ?_ ?_) <;> (repeat' first | exact rfl | exact trivial | refine And.intro ?_ ?_)); all_goals (exact sc_eq (by rw [List.take_succ_eq_append_getElem hlt, mnL_snoc hne2]; rfl))) (by ((repeat' first | exact rfl | exact trivial | refine And.intro ?_ ?_) <;> (repeat' first | exact rfl | exact trivial | refine And.intro ?_ ?_)); all_goals (exact sc_eq (by rw [List.take_succ_eq_append_getElem hlt, mnL_snoc hne2]; rfl))) (by rfl))
  · refine ⟨rfl, ?_⟩
    have hge : l.length ≤ k := by simpa [ints_length] using hc
    rw [List.take_of_length_le hge]
    exact rfl
theorem Max_ok : SoundC Try.prog T 90 MaxC := by
  refine sound_con (X := { Γ := [], T := T, nt := 25 }) cr_none hmix hT sound_nil Try.func90 (by rfl) (by rfl) (by rfl) (by rfl) 1 ?_
  rintro l ⟨hne, hl⟩
  have hpos : 0 < l.length := List.length_pos_iff.2 hne
  refine ⟨⟨Nat.le_of_ble_eq_true rfl, Nat.le_of_ble_eq_true rfl⟩, ?_⟩
  refine Pick.F (by rw [ints_length]; simp; omega) ?_
  refine Idx.by 0 rfl (by rw [ints_length]; exact hpos) ?_
  refine Look.by _ (ints_get (List.getElem?_eq_getElem hpos)) ?_
  refine LoopP.intro (α := Nat) (fun k => 1 ≤ k ∧ k ≤ l.length) (fun k => l.length - k) (fun k => [(0, .sl 0 none none), (3, .s (.i .i64 (mxL (l.take k)))), (4, .s (.i .i64 k))]) (fun k => [(0, some (.flat false 1 (ints l)))]) 1 1 ⟨by omega, by omega⟩ (by refine Weak.by [(0, some _)] (by ((repeat' first | exact rfl | exact trivial | refine And.intro ?_ ?_) <;> (repeat' first | exact rfl | exact trivial | refine And.intro ?_ ?_)); all_goals (exact sc_eq (by cases l with | nil => exact absurd rfl hne | cons a l => rfl))) (by ((repeat' first | exact rfl | exact trivial | refine And.intro ?_ ?_) <;> (repeat' first | exact rfl | exact trivial | refine And.intro ?_ ?_)); all_goals (exact sc_eq (by cases l with | nil => exact absurd rfl hne | cons a l => rfl))) (by rfl)) ?_
  rintro k ⟨h1, hk⟩
  have hne2 : l.take k ≠ [] := by intro h; have := congrArg List.length h; rw [List.length_take, List.length_nil] at this; omega
  refine Pick.by (fun hc => ?_) (fun hc => ?_)
  · have hlt : k < l.length := by simpa [ints_length] using hc
    refine Idx.by k rfl (by rw [ints_length]; exact hlt) ?_
    refine Look.by _ (ints_get (List.getElem?_eq_getElem hlt)) ?_
    refine Pick.T (inI64_of (by omega) (by omega)) ?_
    refine Next.by (k + 1) ⟨by omega, by omega⟩ (by omega) (by refine Weak.by [(0, some _)] (by ((repeat' first | exact rfl | exact trivial | refine And.intro ?_ ?_) <;> (repeat' first | exact rfl | exact trivial | refine And.intro ?_ ?_)); all_goals (exact sc_eq (by rw [List.take_succ_eq_append_getElem hlt, mxL_snoc hne2]; rfl))) (by ((repeat' first | exact rfl | exact trivial | refine And.intro ?_ ?_) <;> (repeat' first | exact rfl | exact trivial | refine And.intro ?_ ?_)); all_goals (exact sc_eq (by rw [List.take_succ_eq_append_getElem hlt, mxL_snoc hne2]; rfl))) (by rfl))
  · refine ⟨rfl, ?_⟩
    have hge : l.length ≤ k := by simpa [ints_length] using hc
    rw [List.take_of_length_le hge]
    exact rfl
end Go.Sh

set_option linter.unusedVariables false
set_option linter.unusedSimpArgs false
namespace Go.Sh
/-! ### vertices that hold together -/
def adjE (E : List Ed) (a b : Int) : Prop := (a, b) ∈ E ∨ (b, a) ∈ E
inductive Rch (E : List Ed) (l : List Int) (s : Int) : Int → Prop
  | base : Rch E l s s
  | step {u v : Int} : Rch E l s u → adjE E u v → v ∈ l → Rch E l s v
def Conn (E : List Ed) (l : List Int) : Prop := ∀ v ∈ l, Rch E l (l.headD 0) v
def WholeP (n : Int) (E : List Ed) (l : List Int) : Prop := RightP n E ∧ l ≠ [] ∧ l.Nodup ∧ (∀ v ∈ l, 0 ≤ v ∧ v < n) ∧ Conn E l
open Classical in
noncomputable def wholeB (n : Int) (E : List Ed) (l : List Int) : Bool := decide (WholeP n E l)
theorem wholeB_no {n : Int} {E : List Ed} {l : List Int} (h : ¬ WholeP n E l) : wholeB n E l = false := by unfold wholeB; exact @decide_eq_false _ (Classical.propDecidable _) h
theorem wholeB_iff {n : Int} {E : List Ed} {l : List Int} : wholeB n E l = true ↔ WholeP n E l := by unfold wholeB; exact @decide_eq_true_iff _ (Classical.propDecidable _)
/-! #### marks -/
def mrk (f : List Int) (v : Int) : Int := f.getD v.toNat 0
structure MI (n : Int) (E : List Ed) (l : List Int) (f : List Int) : Prop where
  len : f.length = n.toNat
  val : ∀ (i : Nat) x, f[i]? = some x → (x = 0 ∧ (i : Int) ∉ l) ∨ (x = 1 ∧ (i : Int) ∈ l) ∨ (x = 2 ∧ (i : Int) ∈ l ∧ Rch E l (l.headD 0) i)
  head : mrk f (l.headD 0) = 2
def cnt (l : List Int) (f : List Int) : Nat := l.countP fun v => mrk f v == 2
theorem cnt_le (l f : List Int) : cnt l f ≤ l.length := List.countP_le_length
theorem mk_get {f : List Int} {v : Int} {n : Int} (hl : f.length = n.toNat) (h0 : 0 ≤ v) (hn : v < n) : f[v.toNat]? = some (mrk f v) := by
  have : v.toNat < f.length := by omega
  rw [mrk, List.getD_eq_getElem?_getD, List.getElem?_eq_getElem this]; rfl
theorem mk_set {f : List Int} {u v : Int} {x : Int} {n : Int} (hl : f.length = n.toNat) (h0 : 0 ≤ v) (hn : v < n) (hu : 0 ≤ u) : mrk (f.set v.toNat x) u = if u = v then x else mrk f u := by
  unfold mrk
  rw [List.getD_eq_getElem?_getD, List.getD_eq_getElem?_getD, List.getElem?_set]
  by_cases h : u = v
  · subst h
    rw [if_pos rfl, if_pos (by omega), if_pos rfl]; rfl
  · rw [if_neg (by omega), if_neg h]
theorem countP_one {l : List Int} {p q : Int → Bool} {v : Int} (hn : l.Nodup) (hv : v ∈ l) (hpv : p v = false) (hq : ∀ w ∈ l, q w = (decide (w = v) || p w)) : l.countP q = l.countP p + 1 := by
  induction l with
  | nil => simp at hv
  | cons a l ih =>
    rw [List.nodup_cons] at hn
    rw [List.countP_cons, List.countP_cons, hq a (by simp)]
    rcases List.mem_cons.1 hv with rfl | hv
    · have : l.countP q = l.countP p := List.countP_congr fun w hw => by
        rw [hq w (by simp [hw])]
        have : w ≠ v := fun e => hn.1 (e ▸ hw)
        simp [this]
      rw [this, hpv]; simp
    · have hne : a ≠ v := fun e => hn.1 (e ▸ hv)
      rw [ih hn.2 hv fun w hw => hq w (by simp [hw])]
      simp [hne]; omega
def noisy (f : List Int) (p : Ed) : Prop := mrk f p.1 + mrk f p.2 = 3 ∧ 0 < mrk f p.1 ∧ 0 < mrk f p.2
section
variable {n : Int} {E : List Ed} {l f : List Int}
theorem MI.cases (h : MI n E l f) {v : Int} (h0 : 0 ≤ v) (hn : v < n) : (mrk f v = 0 ∧ v ∉ l) ∨ (mrk f v = 1 ∧ v ∈ l) ∨ (mrk f v = 2 ∧ v ∈ l ∧ Rch E l (l.headD 0) v) := by
  have := h.val v.toNat _ (mk_get h.len h0 hn)
  rwa [Int.toNat_of_nonneg h0] at this
theorem MI.mark (h : MI n E l f) (hnd : l.Nodup) (hl0 : ∀ v ∈ l, 0 ≤ v ∧ v < n) (hh : 0 ≤ l.headD 0) {u v : Int} (hv : mrk f v = 1) (h0 : 0 ≤ v) (hn : v < n) (hu : Rch E l (l.headD 0) u) (ha : adjE E u v) :
    MI n E l (f.set v.toNat 2) ∧ cnt l (f.set v.toNat 2) = cnt l f + 1 := by
  have hvl : v ∈ l := by
    rcases h.cases h0 hn with ⟨h1, _⟩ | ⟨_, h2⟩ | ⟨h1, _⟩ <;> first | omega | exact h2
  refine ⟨⟨by rw [List.length_set]; exact h.len, fun i x hx => ?_, ?_⟩, ?_⟩
  · rw [List.getElem?_set] at hx
    split at hx
    · rename_i he
      split at hx
      · injection hx with hx
        have e : (i : Int) = v := by omega
        rw [e]
        exact .inr (.inr ⟨hx.symm, hvl, .step hu ha hvl⟩)
      · simp at hx
    · exact h.val i x hx
  · rw [mk_set h.len h0 hn hh]
    split
    · rfl
    · exact h.head
  · refine countP_one hnd hvl (by simp [hv]) fun w hw => ?_
    rw [mk_set h.len h0 hn (hl0 w hw).1]
    by_cases e : w = v
    · simp [e]
    · simp [e]
theorem MI.step (h : MI n E l f) (hnd : l.Nodup) (hl0 : ∀ v ∈ l, 0 ≤ v ∧ v < n) (hh : 0 ≤ l.headD 0) {p : Ed} (hp : p ∈ E) (hok : okE n p) (hq : noisy f p) :
    MI n E l ((f.set p.1.toNat 2).set p.2.toNat 2) ∧ cnt l ((f.set p.1.toNat 2).set p.2.toNat 2) = cnt l f + 1 := by
  obtain ⟨a, b⟩ := p
  obtain ⟨h1, h2, h3⟩ := hq
  obtain ⟨o1, o2, o3⟩ := hok
  dsimp only at *
  have ga : f[a.toNat]? = some (mrk f a) := mk_get h.len o1 (by omega)
  have gb : f[b.toNat]? = some (mrk f b) := mk_get h.len (by omega) o3
  by_cases ha : mrk f a = 2
  · rw [ha] at ga
    rw [set_same ga]
    have ra : Rch E l (l.headD 0) a := by rcases h.cases o1 (by omega) with ⟨h1, _⟩ | ⟨h1, _⟩ | ⟨_, _, h2⟩ <;> first | omega | exact h2
    exact h.mark hnd hl0 hh (by omega) (by omega) o3 ra (.inl hp)
  · have hb : mrk f b = 2 := by
      rcases h.cases o1 (show a < n by omega) with ⟨k1, _⟩ | ⟨k1, _⟩ | ⟨k1, _⟩ <;> omega
    rw [hb] at gb
    have : ((f.set a.toNat 2)[b.toNat]?) = some 2 := by
      rw [List.getElem?_set, if_neg (by omega)]; exact gb
    rw [set_same this]
    have rb : Rch E l (l.headD 0) b := by rcases h.cases (show 0 ≤ b by omega) o3 with ⟨h1, _⟩ | ⟨h1, _⟩ | ⟨_, _, h2⟩ <;> first | omega | exact h2
    exact h.mark hnd hl0 hh (by omega) o1 (by omega) rb (.inr hp)
theorem MI.done (h : MI n E l f) (hl0 : ∀ v ∈ l, 0 ≤ v ∧ v < n) (hE : ∀ p ∈ E, okE n p) (hq : ∀ p ∈ E, ¬ noisy f p) : cnt l f = l.length ↔ Conn E l := by
  unfold cnt
  rw [List.countP_eq_length]
  constructor
  · intro hc v hv
    have hm : mrk f v = 2 := by simpa using hc v hv
    rcases h.cases (hl0 v hv).1 (hl0 v hv).2 with ⟨h1, _⟩ | ⟨h1, _⟩ | ⟨_, _, h2⟩ <;> first | omega | exact h2
  · intro hc v hv
    have key : ∀ v, Rch E l (l.headD 0) v → mrk f v = 2 := by
      intro v hr
      induction hr with
      | base => exact h.head
      | @step u v _ ha hv ih =>
        rcases h.cases (hl0 v hv).1 (hl0 v hv).2 with ⟨_, h2⟩ | ⟨h1, _⟩ | ⟨h1, _⟩
        · exact absurd hv h2
        · rcases ha with ha | ha
          · exact absurd ⟨by simp only; omega, by simp only; omega, by simp only; omega⟩ (hq _ ha)
          · exact absurd ⟨by simp only; omega, by simp only; omega, by simp only; omega⟩ (hq _ ha)
        · exact h1
    simpa using key v (hc v hv)
end
/-! #### the first marks -/
def mkF (n : Int) (l : List Int) : List Int := (List.range n.toNat).map fun (i : Nat) => if (i : Int) ∈ l then 1 else 0
theorem mkF_length (n : Int) (l : List Int) : (mkF n l).length = n.toNat := by simp [mkF]
theorem mkF_nil (n : Int) : mkF n [] = List.replicate n.toNat 0 := by simp [mkF, List.map_const']
theorem mkF_step {n : Int} {l : List Int} {v : Int} (h0 : 0 ≤ v) : mkF n (l ++ [v]) = (mkF n l).set v.toNat 1 := by
  apply List.ext_getElem?
  intro i
  rw [List.getElem?_set]
  by_cases hi : i < n.toNat
  · simp only [mkF, List.getElem?_map, List.getElem?_range hi, Option.map_some, List.length_map, List.length_range]
    by_cases he : v.toNat = i
    · have : (i : Int) = v := by omega
      rw [if_pos he, if_pos (show v.toNat < n.toNat by omega)]
      simp [this]
    · have : (i : Int) ≠ v := by omega
      rw [if_neg he]
      simp [this]
  · rw [List.getElem?_eq_none (by rw [mkF_length]; omega), List.getElem?_eq_none (by rw [mkF_length]; omega)]
    split
    · rw [if_neg (by rw [mkF_length]; omega)]
    · rfl
theorem mkF_MI {n : Int} {E : List Ed} {l : List Int} (hne : l ≠ []) (hl0 : ∀ v ∈ l, 0 ≤ v ∧ v < n) (hnd : l.Nodup) : MI n E l ((mkF n l).set (l.headD 0).toNat 2) ∧ cnt l ((mkF n l).set (l.headD 0).toNat 2) = 1 := by
  have hh : l.headD 0 ∈ l := by cases l with | nil => exact absurd rfl hne | cons a l => simp
  obtain ⟨h0, hn⟩ := hl0 _ hh
  refine ⟨⟨by rw [List.length_set, mkF_length], fun i x hx => ?_, ?_⟩, ?_⟩
  · rw [List.getElem?_set] at hx
    split at hx
    · split at hx
      · injection hx with hx
        have e : (i : Int) = l.headD 0 := by omega
        rw [e]
        exact .inr (.inr ⟨hx.symm, hh, .base⟩)
      · simp at hx
    · simp only [mkF, List.getElem?_map] at hx
      by_cases hi : i < n.toNat
      · rw [List.getElem?_range hi] at hx
        simp only [Option.map_some, Option.some.injEq] at hx
        by_cases hm : (i : Int) ∈ l
        · rw [if_pos hm] at hx; exact .inr (.inl ⟨hx.symm, hm⟩)
        · rw [if_neg hm] at hx; exact .inl ⟨hx.symm, hm⟩
      · rw [List.getElem?_eq_none (by simpa using hi)] at hx; simp at hx
  · rw [mk_set (mkF_length n l) h0 hn h0, if_pos rfl]
  · have : l.countP (fun v => mrk (mkF n l) v == 2) = 0 := by
      rw [List.countP_eq_zero]
      intro v hv
      have hg := mk_get (mkF_length n l) (hl0 v hv).1 (hl0 v hv).2
      have hi : v.toNat < n.toNat := by have := hl0 v hv; omega
      simp only [mkF, List.getElem?_map, List.getElem?_range hi, Option.map_some, Option.some.injEq] at hg
      have : mrk (mkF n l) v = if (v.toNat : Int) ∈ l then 1 else 0 := hg.symm
      rw [this]
      split <;> simp
    unfold cnt
    rw [countP_one (p := fun v => mrk (mkF n l) v == 2) hnd hh ?_ fun w hw => ?_, this]
    · rw [List.countP_eq_zero] at this
      simpa using this _ hh
    · rw [mk_set (mkF_length n l) h0 hn (hl0 w hw).1]
      by_cases e : w = l.headD 0
      · rw [if_pos e, decide_eq_true e]; rfl
      · rw [if_neg e, decide_eq_false e]; rfl
end Go.Sh

set_option linter.unusedVariables false
set_option linter.unusedSimpArgs false
namespace Go.Sh
open Go.Proofs
noncomputable def UnlikeC : Con := conP 1 (fun l : List Int => l.length ≤ 1000000) (fun l => [.one (.flat false 1 (ints l))]) (fun l => .one (.s (.b (decide l.Nodup))))
theorem UnlikeC_at {l : List Int} (h : l.length ≤ 1000000) : UnlikeC.F [.one (.flat false 1 (ints l))] = some (.one (.s (.b (decide l.Nodup))), []) :=
  conP_at (a := l) (fun a b _ _ h => by simp at h; rw [ints_inj h]) h
noncomputable def WholeC : Con := conP 2 (fun a : (Int × List Ed) × List Int => a.2.length ≤ 1000000) (fun a => [grV a.1.1 a.1.2, .one (.flat false 1 (ints a.2))]) (fun a => .one (.s (.b (wholeB a.1.1 a.1.2 a.2))))
theorem WholeC_at {n : Int} {E : List Ed} {l : List Int} (h : l.length ≤ 1000000) : WholeC.F [grV n E, .one (.flat false 1 (ints l))] = some (.one (.s (.b (wholeB n E l))), []) :=
  conP_at (a := ((n, E), l)) (fun a b _ _ h => by
    obtain ⟨⟨n, E⟩, l⟩ := a
    obtain ⟨⟨n', E'⟩, l'⟩ := b
    simp at h
    obtain ⟨h1, h2⟩ := h
    obtain ⟨rfl, rfl⟩ := grV_inj h1
    rw [ints_inj h2]) h
theorem ints_set (f : List Int) (i : Nat) (x : Int) : ints (f.set i x) = (ints f).set i [.i .i64 x] := by simp [ints, List.map_set]
theorem quiet_step {f : List Int} {E : List Ed} {k : Nat} (hk : k < E.length) (h : ∀ p ∈ E.take k, ¬ noisy f p) (h2 : ¬ noisy f E[k]) : ∀ p ∈ E.take (k + 1), ¬ noisy f p := by
  rw [List.take_succ_eq_append_getElem hk]
  intro p hp
  rcases List.mem_append.1 hp with hp | hp
  · exact h p hp
  · simp at hp; subst hp; exact h2
theorem noW {n : Int} {E : List Ed} {l : List Int} (h : ¬ WholeP n E l) : Sc.b false = Sc.b (wholeB n E l) := by rw [← wholeB_no h]
set_option maxHeartbeats 2000000 in
theorem Whole_ok (hU : SoundC Try.prog T 88 UnlikeC) : SoundC Try.prog T 55 WholeC := by
  refine sound_con (X := { Γ := [(39, RightC), (88, UnlikeC), (89, MinC), (90, MaxC)], T := T, nt := 106 }) cr_none hmix hT (sound_cons RightG_ok (sound_cons hU (sound_cons Min_ok (sound_cons Max_ok sound_nil)))) Try.func55 (by rfl) (by rfl) (by rfl) (by rfl) 3 ?_
  rintro ⟨⟨n, E⟩, l⟩ hl
  dsimp only at hl
  refine ⟨⟨Nat.le_of_ble_eq_true rfl, Nat.le_of_ble_eq_true rfl⟩, ?_⟩
  refine Call.by _ _ (RightC_at n E) ?_
  refine Pick.by (fun h1 => ?_) (fun h1 => ?_)
  · have h1 : ¬ RightP n E := by have h1 : (!decide (RightP n E)) = true := h1; simpa using h1
    refine Seg.by (by kernel_rfl) ?_
    refine ⟨rfl, ?_⟩
    show Sc.b false = Sc.b (wholeB n E l)
    exact noW fun h => h1 h.1
  have h1 : RightP n E := by have h1 : (!decide (RightP n E)) = false := h1; simpa using h1
  refine Pick.by (fun h2 => ?_) (fun h2 => ?_)
  · have h2 : l = [] := by simpa [ints] using h2
    refine Seg.by (by kernel_rfl) ?_
    refine ⟨rfl, ?_⟩
    show Sc.b false = Sc.b (wholeB n E l)
    exact noW fun h => h.2.1 h2
  have h2 : l ≠ [] := by simpa [ints] using h2
  refine Call.by _ _ (UnlikeC_at hl) ?_
  refine Pick.by (fun h3 => ?_) (fun h3 => ?_)
  · have h3 : ¬ l.Nodup := by have h3 : (!decide l.Nodup) = true := h3; simpa using h3
    refine Seg.by (by kernel_rfl) ?_
    refine ⟨rfl, ?_⟩
    show Sc.b false = Sc.b (wholeB n E l)
    exact noW fun h => h3 h.2.2.1
  have h3 : l.Nodup := by have h3 : (!decide l.Nodup) = false := h3; simpa using h3
  refine Call.by _ _ (MinC_at h2 hl) ?_
  refine Pick.by (fun h4 => ?_) (fun h4 => ?_)
  · have h4 : mnL l < 0 := by simpa using h4
    refine Seg.by (by kernel_rfl) ?_
    refine ⟨rfl, ?_⟩
    show Sc.b false = Sc.b (wholeB n E l)
    exact noW fun h => by have := (mnL_ge h2 0).2 (fun x hx => (h.2.2.2.1 x hx).1); omega
  have h4 : ¬ mnL l < 0 := by simpa using h4
  refine Call.by _ _ (MaxC_at h2 hl) ?_
  refine Seg.by (by kernel_rfl) ?_
  refine Pick.by (fun h5 => ?_) (fun h5 => ?_)
  · have h5 : mxL l ≥ n := by simpa using h5
    refine ⟨rfl, ?_⟩
    show Sc.b false = Sc.b (wholeB n E l)
    exact noW fun h => by have := (mxL_le h2 (n - 1)).2 (fun x hx => by have := (h.2.2.2.1 x hx).2; omega); omega
  have h5 : ¬ mxL l ≥ n := by simpa using h5
  have hl0 : ∀ v ∈ l, 0 ≤ v ∧ v < n := fun v hv => ⟨(mnL_ge h2 0).1 (by omega) v hv, by have := (mxL_le h2 (n - 1)).1 (by omega) v hv; omega⟩
  have hn0 : 0 ≤ n := h1.1
  have hn1 : n ≤ 1000 := h1.2.1
  have hE4 : E.length ≤ 4000 := h1.2.2.1
  have hpos : 0 < l.length := List.length_pos_iff.2 h2
  have hhd : l[0] = l.headD 0 := by cases l with | nil => exact absurd rfl h2 | cons a l => rfl
  have hh := hl0 _ (List.getElem_mem hpos)
  refine Pick.T (by simp) ?_
  refine Idx.by n.toNat (by show n = _; omega) (by omega) ?_
  refine LoopP.intro (α := Nat) (fun k => k ≤ l.length) (fun k => l.length - k) (fun k => [(1, .sl 2 none none), (2, .ptr 0 0), (5, .sl 3 none none), (40, .sl 2 none none), (41, .s (.i .i64 l.length)), (42, .s (.i .i64 k))])
    (fun k => [(0, some (.blk [.s (.i .i64 n), .sl 1 none none])), (1, some (.flat false 2 (edges E))), (2, some (.flat false 1 (ints l))), (3, some (.flat true 1 (ints (mkF n (l.take k)))))]) 4 0 (by omega) (by refine Weak.by [(0, some _), (1, some _), (2, some _), (3, some _)] (by ((repeat' first | exact rfl | exact trivial | refine And.intro ?_ ?_) <;> (repeat' first | exact rfl | exact trivial | refine And.intro ?_ ?_)); all_goals (first | exact sc_eq (by rw [ints_length]) | (rw [List.take_zero, mkF_nil]; simp [ints]))) (by ((repeat' first | exact rfl | exact trivial | refine And.intro ?_ ?_) <;> (repeat' first | exact rfl | exact trivial | refine And.intro ?_ ?_)); all_goals (first | exact sc_eq (by rw [ints_length]) | (rw [List.take_zero, mkF_nil]; simp [ints]))) (by rfl)) ?_
  rintro k hk
  refine Pick.by (fun hc => ?_) (fun hc => ?_)
  · have hlt : k < l.length := by simpa using hc
    have hv := hl0 _ (List.getElem_mem hlt)
    have hg := mk_get (mkF_length n (l.take k)) hv.1 hv.2
    refine Idx.by k rfl (by rw [ints_length]; exact hlt) ?_
    refine Look.by _ (ints_get (List.getElem?_eq_getElem hlt)) ?_
    refine Idx.by l[k].toNat (by show l[k] = _; omega) (by rw [ints_length, mkF_length]; omega) ?_
    refine Look.by _ (ints_get hg) ?_
    refine Pick.T (inI64_of (by omega) (by omega)) ?_
    refine Next.by (k + 1) (by omega) (by omega) (by refine Weak.by [(0, some _), (1, some _), (2, some _), (3, some _)] (by ((repeat' first | exact rfl | exact trivial | refine And.intro ?_ ?_) <;> (repeat' first | exact rfl | exact trivial | refine And.intro ?_ ?_)); all_goals (rw [List.take_succ_eq_append_getElem hlt, mkF_step hv.1, ints_set]; rfl)) (by ((repeat' first | exact rfl | exact trivial | refine And.intro ?_ ?_) <;> (repeat' first | exact rfl | exact trivial | refine And.intro ?_ ?_)); all_goals (rw [List.take_succ_eq_append_getElem hlt, mkF_step hv.1, ints_set]; rfl)) (by rfl))
  have hge : l.length ≤ k := by simpa using hc
  rw [List.take_of_length_le hge]
  refine Idx.by 0 rfl (by rw [ints_length]; exact hpos) ?_
  refine Look.by _ (ints_get (List.getElem?_eq_getElem hpos)) ?_
  refine Idx.by l[0].toNat (by show l[0] = _; omega) (by rw [ints_length, mkF_length]; omega) ?_
  refine Look.by _ (ints_get (mk_get (mkF_length n l) hh.1 hh.2)) ?_
  obtain ⟨hM0, hc0⟩ := mkF_MI (E := E) h2 hl0 h3
  rw [← hhd] at hM0 hc0
  refine LoopP.intro (α := List Int × Bool) (fun p => MI n E l p.1 ∧ (p.2 = false → ∀ q ∈ E, ¬ noisy p.1 q)) (fun p => 2 * (l.length - cnt l p.1) + p.2.toNat) (fun p => [(1, .sl 2 none none), (2, .ptr 0 0), (5, .sl 3 none none), (8, .s (.i .i64 (cnt l p.1))), (9, .s (.b p.2))])
    (fun p => [(0, some (.blk [.s (.i .i64 n), .sl 1 none none])), (1, some (.flat false 2 (edges E))), (2, some (.flat false 1 (ints l))), (3, some (.flat true 1 (ints p.1)))]) 4 ((mkF n l).set l[0].toNat 2, true) ⟨hM0, fun h => by cases h⟩ (by refine Weak.by [(0, some _), (1, some _), (2, some _), (3, some _)] (by ((repeat' first | exact rfl | exact trivial | refine And.intro ?_ ?_) <;> (repeat' first | exact rfl | exact trivial | refine And.intro ?_ ?_)); all_goals (first | exact sc_eq (by dsimp only; rw [hc0]; rfl) | (dsimp only; rw [ints_set]; rfl))) (by ((repeat' first | exact rfl | exact trivial | refine And.intro ?_ ?_) <;> (repeat' first | exact rfl | exact trivial | refine And.intro ?_ ?_)); all_goals (first | exact sc_eq (by dsimp only; rw [hc0]; rfl) | (dsimp only; rw [ints_set]; rfl))) (by rfl)) ?_
  rintro ⟨f, ch⟩ ⟨hM, hq⟩
  dsimp only at hM hq
  refine Pick.by (fun hb => ?_) (fun hb => ?_)
  · have hb : ch = true := hb
    subst hb
    refine LoopP.intro (α := (List Int × Bool) × Nat) (fun p => p.2 ≤ E.length ∧ MI n E l p.1.1 ∧ (p.1.2 = false → p.1.1 = f ∧ ∀ q ∈ E.take p.2, ¬ noisy p.1.1 q) ∧ (p.1.2 = true → cnt l f < cnt l p.1.1)) (fun p => E.length - p.2)
      (fun p => [(1, .sl 2 none none), (2, .ptr 0 0), (5, .sl 3 none none), (8, .s (.i .i64 (cnt l p.1.1))), (9, .s (.b p.1.2)), (57, .sl 1 none none), (58, .s (.i .i64 E.length)), (59, .s (.i .i64 p.2))])
      (fun p => [(0, some (.blk [.s (.i .i64 n), .sl 1 none none])), (1, some (.flat false 2 (edges E))), (2, some (.flat false 1 (ints l))), (3, some (.flat true 1 (ints p.1.1)))]) 4 ((f, false), 0) ⟨by simp, hM, fun _ => ⟨rfl, by simp⟩, fun h => by cases h⟩ (by refine Weak.by [(0, some _), (1, some _), (2, some _), (3, some _)] (by ((repeat' first | exact rfl | exact trivial | refine And.intro ?_ ?_) <;> (repeat' first | exact rfl | exact trivial | refine And.intro ?_ ?_)); all_goals (exact sc_eq (by rw [edges_length]))) (by ((repeat' first | exact rfl | exact trivial | refine And.intro ?_ ?_) <;> (repeat' first | exact rfl | exact trivial | refine And.intro ?_ ?_)); all_goals (exact sc_eq (by rw [edges_length]))) (by rfl)) ?_
    rintro ⟨⟨g, ch⟩, k⟩ ⟨hk, hG, hf, ht⟩
    dsimp only at hk hG hf ht
    have hcl := cnt_le l g
    refine Pick.by (fun hc => ?_) (fun hc => ?_)
    · have hlt : k < E.length := by simpa using hc
      have hok := h1.2.2.2.1 _ (List.getElem_mem hlt)
      have ho1 := hok.1
      have ho2 := hok.2.1
      have ho3 := hok.2.2
      refine Idx.by k rfl (by rw [edges_length]; exact hlt) ?_
      refine Look.by _ (edges_get (List.getElem?_eq_getElem hlt)) ?_
      have ga := mk_get hG.len ho1 (show E[k].1 < n by omega)
      have gb := mk_get hG.len (show 0 ≤ E[k].2 by omega) ho3
      have ia : E[k].1.toNat < (ints g).length := by rw [ints_length, hG.len]; omega
      have ib : E[k].2.toNat < (ints g).length := by rw [ints_length, hG.len]; omega
      have ca := hG.cases ho1 (show E[k].1 < n by omega)
      have cb := hG.cases (show 0 ≤ E[k].2 by omega) ho3
      have na : 0 ≤ mrk g E[k].1 ∧ mrk g E[k].1 ≤ 2 := by rcases ca with h | h | h <;> omega
      have nb : 0 ≤ mrk g E[k].2 ∧ mrk g E[k].2 ≤ 2 := by rcases cb with h | h | h <;> omega
      refine Idx.by E[k].1.toNat (by omega) ia ?_
      refine Look.by _ (ints_get ga) ?_
      refine Idx.by E[k].2.toNat (by omega) ib ?_
      refine Look.by _ (ints_get gb) ?_
      refine Pick.T (inI64_of (by omega) (by omega)) ?_
      refine Pick.by (fun h6 => ?_) (fun h6 => ?_)
      · have h6 : mrk g E[k].1 + mrk g E[k].2 = 3 := by simpa using h6
        refine Idx.by E[k].1.toNat (by omega) ia ?_
        refine Look.by _ (ints_get ga) ?_
        refine Pick.T (by simp; omega) ?_
        refine Idx.by E[k].2.toNat (by omega) ib ?_
        refine Look.by _ (ints_get gb) ?_
        refine Seg.by (by kernel_rfl) ?_
        refine Pick.T (by simp; omega) ?_
        have hno : noisy g E[k] := ⟨h6, by omega, by omega⟩
        obtain ⟨hM2, hc2⟩ := hG.step h3 hl0 (by rw [← hhd]; exact hh.1) (List.getElem_mem hlt) hok hno
        have hcl2 := cnt_le l ((g.set E[k].1.toNat 2).set E[k].2.toNat 2)
        refine Idx.by E[k].1.toNat (by omega) ia ?_
        refine Look.by _ (ints_get ga) ?_
        refine Idx.by E[k].2.toNat (by omega) (by rw [List.length_set]; exact ib) ?_
        refine Look.by [.i .i64 (mrk g E[k].2)] (by rw [List.getElem?_set, if_neg (by omega)]; exact ints_get gb) ?_
        refine Seg.by (by kernel_rfl) ?_
        refine Pick.T (inI64_of (by show _ ≤ (cnt l g : Int) + 1; omega) (by show (cnt l g : Int) + 1 ≤ _; omega)) ?_
        refine Pick.T (inI64_of (by omega) (by omega)) ?_
        refine Next.by (((g.set E[k].1.toNat 2).set E[k].2.toNat 2, true), k + 1) ⟨by omega, hM2, fun h => by simp at h, fun _ => ?_⟩ (by show E.length - (k + 1) < E.length - k; omega) (by refine Weak.by [(0, some _), (1, some _), (2, some _), (3, some _)] (by ((repeat' first | exact rfl | exact trivial | refine And.intro ?_ ?_) <;> (repeat' first | exact rfl | exact trivial | refine And.intro ?_ ?_)); all_goals (first | exact sc_eq (by rw [hc2]; rfl) | (dsimp only; rw [ints_set, ints_set]; rfl))) (by ((repeat' first | exact rfl | exact trivial | refine And.intro ?_ ?_) <;> (repeat' first | exact rfl | exact trivial | refine And.intro ?_ ?_)); all_goals (first | exact sc_eq (by rw [hc2]; rfl) | (dsimp only; rw [ints_set, ints_set]; rfl))) (by rfl))
        dsimp only
        rw [hc2]
        cases ch with
        | true => have := ht rfl; omega
        | false => rw [(hf rfl).1]; omega
      · have h6 : ¬ mrk g E[k].1 + mrk g E[k].2 = 3 := by simpa using h6
        refine Seg.by (by kernel_rfl) ?_
        refine Pick.T (inI64_of (by omega) (by omega)) ?_
        refine Next.by ((g, ch), k + 1) ⟨by omega, hG, fun h => ⟨(hf h).1, quiet_step hlt (hf h).2 fun h => h6 h.1⟩, ht⟩ (by show E.length - (k + 1) < E.length - k; omega) (by refine Weak.by [(0, some _), (1, some _), (2, some _), (3, some _)] (by ((repeat' first | exact rfl | exact trivial | refine And.intro ?_ ?_) <;> (repeat' first | exact rfl | exact trivial | refine And.intro ?_ ?_))) (by ((repeat' first | exact rfl | exact trivial | refine And.intro ?_ ?_) <;> (repeat' first | exact rfl | exact trivial | refine And.intro ?_ ?_))) (by rfl))
    · have hge : E.length ≤ k := by simpa using hc
      rw [List.take_of_length_le hge] at hf
      refine Next.by (g, ch) ⟨hG, fun h => (hf h).2⟩ ?_ (by refine Weak.by [(0, some _), (1, some _), (2, some _), (3, some _)] (by ((repeat' first | exact rfl | exact trivial | refine And.intro ?_ ?_) <;> (repeat' first | exact rfl | exact trivial | refine And.intro ?_ ?_))) (by ((repeat' first | exact rfl | exact trivial | refine And.intro ?_ ?_) <;> (repeat' first | exact rfl | exact trivial | refine And.intro ?_ ?_))) (by rfl))
      have hcl0 := cnt_le l f
      show 2 * (l.length - cnt l g) + ch.toNat < 2 * (l.length - cnt l f) + true.toNat
      cases ch with
      | true => have := ht rfl; simp only [Bool.toNat_true]; omega
      | false => rw [(hf rfl).1]; simp
  · have hb : ch = false := hb
    have hd := hM.done hl0 h1.2.2.2.1 (hq hb)
    refine ⟨rfl, ?_⟩
    show Sc.b (((cnt l f : Nat) : Int) == ((ints l).length : Int)) = Sc.b (wholeB n E l)
    rw [ints_length]
    by_cases hc : cnt l f = l.length
    · rw [wholeB_iff.2 ⟨h1, h2, h3, hl0, hd.1 hc⟩, hc]; simp
    · rw [wholeB_no fun h => hc (hd.2 h.2.2.2.2)]
      congr 1
      exact beq_eq_false_iff_ne.2 (by omega)
end Go.Sh

set_option linter.unusedVariables false
set_option linter.unusedSimpArgs false
namespace Go.Sh
/-! ### models -/
def patG (k : Int) : Int × List Ed :=
  if k = 1 then (4, [(0, 1), (0, 2), (0, 3), (1, 2), (1, 3), (2, 3)]) else if k = 2 then (5, [(0, 2), (0, 3), (0, 4), (1, 2), (1, 3), (1, 4)]) else (0, [])
theorem patG_cases (k : Int) : (k = 1 ∧ patG k = (4, [(0, 1), (0, 2), (0, 3), (1, 2), (1, 3), (2, 3)])) ∨ (k = 2 ∧ patG k = (5, [(0, 2), (0, 3), (0, 4), (1, 2), (1, 3), (1, 4)])) ∨ (k ≠ 1 ∧ k ≠ 2 ∧ patG k = (0, [])) := by
  unfold patG
  by_cases h : k = 1
  · simp [h]
  · by_cases h2 : k = 2
    · simp [h2]
    · simp [h, h2]
theorem patG_ok (k : Int) : (patG k).2.length ≤ 6 ∧ 0 ≤ (patG k).1 ∧ (patG k).1 ≤ 5 ∧ ∀ q ∈ (patG k).2, 0 ≤ q.1 ∧ q.1 < q.2 ∧ q.2 < (patG k).1 := by
  rcases patG_cases k with ⟨_, h⟩ | ⟨_, h⟩ | ⟨_, _, h⟩ <;> rw [h] <;> decide
def touchB (E : List Ed) (A B : List Int) : Bool := E.any fun x => (A.elem x.1 && B.elem x.2) || (B.elem x.1 && A.elem x.2)
def setAt (S : List (List Int)) (i : Int) : List Int := S.getD i.toNat []
def CheckP (n : Int) (E : List Ed) (k : Int) (S : List (List Int)) : Prop :=
  RightP n E ∧ (patG k).1 ≠ 0 ∧ (S.length : Int) = (patG k).1 ∧ (∀ l ∈ S, WholeP n E l) ∧ S.flatten.Nodup ∧ ∀ q ∈ (patG k).2, touchB E (setAt S q.1) (setAt S q.2) = true
open Classical in
noncomputable def checkB (n : Int) (E : List Ed) (k : Int) (S : List (List Int)) : Bool := decide (CheckP n E k S)
theorem checkB_no {n : Int} {E : List Ed} {k : Int} {S : List (List Int)} (h : ¬ CheckP n E k S) : checkB n E k S = false := by unfold checkB; exact @decide_eq_false _ (Classical.propDecidable _) h
theorem checkB_iff {n : Int} {E : List Ed} {k : Int} {S : List (List Int)} : checkB n E k S = true ↔ CheckP n E k S := by unfold checkB; exact @decide_eq_true_iff _ (Classical.propDecidable _)
/-- which set a vertex is in -/
structure OF (n : Int) (f : List Int) (S : List (List Int)) : Prop where
  len : f.length = n.toNat
  bnd : ∀ v, 0 ≤ v → v < n → 0 ≤ mrk f v ∧ mrk f v ≤ S.length
  val : ∀ v, 0 ≤ v → v < n → ∀ i : Nat, mrk f v = i + 1 ↔ ∃ l, S[i]? = some l ∧ v ∈ l
section
variable {n : Int} {E : List Ed} {f : List Int} {S : List (List Int)} {l : List Int}
theorem mrk_zero {n : Int} {v : Int} (h0 : 0 ≤ v) (hn : v < n) : mrk (List.replicate n.toNat 0) v = 0 := by
  unfold mrk
  rw [List.getD_eq_getElem?_getD, List.getElem?_replicate, if_pos (by omega)]; rfl
theorem OF.nil (n : Int) : OF n (List.replicate n.toNat 0) [] :=
  ⟨by simp, fun v h0 hn => by rw [mrk_zero h0 hn]; simp, fun v h0 hn i => by rw [mrk_zero h0 hn]; simp; omega⟩
theorem OF.open (h : OF n f S) : OF n f (S ++ [[]]) := by
  refine ⟨h.len, fun v h0 hn => ⟨(h.bnd v h0 hn).1, by have := (h.bnd v h0 hn).2; simp; omega⟩, fun v h0 hn i => ?_⟩
  rw [h.val v h0 hn i]
  constructor
  · rintro ⟨l, h1, h2⟩
    exact ⟨l, by rw [List.getElem?_append_left (List.getElem?_eq_some_iff.1 h1).1]; exact h1, h2⟩
  · rintro ⟨l, h1, h2⟩
    by_cases hi : i < S.length
    · rw [List.getElem?_append_left hi] at h1; exact ⟨l, h1, h2⟩
    · rw [List.getElem?_append_right (by omega)] at h1
      have : i - S.length = 0 ∨ 0 < i - S.length := by omega
      rcases this with e | e
      · rw [e] at h1; simp at h1; subst h1; simp at h2
      · rw [List.getElem?_eq_none (by simp; omega)] at h1; simp at h1
theorem OF.put {v : Int} (h : OF n f (S ++ [l])) (h0 : 0 ≤ v) (hn : v < n) (hz : mrk f v = 0) : OF n (f.set v.toNat (S.length + 1)) (S ++ [l ++ [v]]) := by
  refine ⟨by rw [List.length_set]; exact h.len, fun u u0 un => ?_, fun u u0 un i => ?_⟩
  · have := h.bnd u u0 un
    rw [mk_set h.len h0 hn u0]
    simp at this ⊢
    split <;> omega
  · rw [mk_set h.len h0 hn u0]
    have hv := h.val u u0 un i
    by_cases e : u = v
    · subst e
      rw [if_pos rfl]
      constructor
      · intro hi
        have hi : i = S.length := by omega
        subst hi
        exact ⟨l ++ [u], by rw [List.getElem?_append_right (Nat.le_refl _)]; simp, by simp⟩
      · rintro ⟨m, h1, h2⟩
        by_cases hi : i < S.length
        · rw [List.getElem?_append_left hi] at h1
          have := hv.2 ⟨m, by rw [List.getElem?_append_left hi]; exact h1, h2⟩
          omega
        · rw [List.getElem?_append_right (by omega)] at h1
          have := (List.getElem?_eq_some_iff.1 h1).1
          simp at this
          omega
    · rw [if_neg e, hv]
      constructor
      · rintro ⟨m, h1, h2⟩
        by_cases hi : i < S.length
        · rw [List.getElem?_append_left hi] at h1
          exact ⟨m, by rw [List.getElem?_append_left hi]; exact h1, h2⟩
        · rw [List.getElem?_append_right (by omega)] at h1
          have hlt := (List.getElem?_eq_some_iff.1 h1).1
          simp at hlt
          have hz' : i - S.length = 0 := by omega
          rw [hz'] at h1
          simp at h1
          subst h1
          exact ⟨l ++ [v], by rw [List.getElem?_append_right (by omega), hz']; simp, by simp [h2]⟩
      · rintro ⟨m, h1, h2⟩
        by_cases hi : i < S.length
        · rw [List.getElem?_append_left hi] at h1
          exact ⟨m, by rw [List.getElem?_append_left hi]; exact h1, h2⟩
        · rw [List.getElem?_append_right (by omega)] at h1
          have hlt := (List.getElem?_eq_some_iff.1 h1).1
          simp at hlt
          have hz' : i - S.length = 0 := by omega
          rw [hz'] at h1
          simp at h1
          subst h1
          have h2 : u ∈ l := by simpa [e] using h2
          exact ⟨l, by rw [List.getElem?_append_right (by omega), hz']; simp, h2⟩
theorem OF.uniq (h : OF n f S) {v : Int} (h0 : 0 ≤ v) (hn : v < n) {i j : Nat} {a b : List Int} (ha : S[i]? = some a) (hb : S[j]? = some b) (va : v ∈ a) (vb : v ∈ b) : i = j := by
  have h1 := (h.val v h0 hn i).2 ⟨a, ha, va⟩
  have h2 := (h.val v h0 hn j).2 ⟨b, hb, vb⟩
  omega
theorem OF.nodup (h : OF n f S) (hW : ∀ l ∈ S, WholeP n E l) : S.flatten.Nodup := by
  rw [List.Nodup, List.pairwise_flatten]
  refine ⟨fun l hl => (hW l hl).2.2.1, List.pairwise_iff_getElem.2 fun i j hi hj hij => ?_⟩
  intro v va w vb e
  subst e
  have hr := (hW _ (List.getElem_mem hi)).2.2.2.1 v va
  have := h.uniq hr.1 hr.2 (List.getElem?_eq_getElem hi) (List.getElem?_eq_getElem hj) va vb
  omega
/-- Someone is in two sets, or twice in one. -/
theorem OF.twice {k j : Nat} (h : OF n f (S.take k ++ [l.take j])) (hk : S[k]? = some l) (hj : j < l.length) {v : Int} (hv : l[j] = v) (hW : WholeP n E l) (hz : 0 < mrk f v) : ¬ S.flatten.Nodup := by
  intro hnd
  have hkl := (List.getElem?_eq_some_iff.1 hk).1
  have hvl : v ∈ l := hv ▸ List.getElem_mem hj
  have hr := hW.2.2.2.1 v hvl
  obtain ⟨b0, b1⟩ := h.bnd v hr.1 hr.2
  obtain ⟨m, h1, h2⟩ := (h.val v hr.1 hr.2 (mrk f v - 1).toNat).1 (by omega)
  rw [List.Nodup, List.pairwise_flatten] at hnd
  by_cases hi : (mrk f v - 1).toNat < k
  · rw [List.getElem?_append_left (by rw [List.length_take]; omega), List.getElem?_take, if_pos hi] at h1
    have := List.pairwise_iff_getElem.1 hnd.2 _ k (List.getElem?_eq_some_iff.1 h1).1 hkl hi
    have e1 := (List.getElem?_eq_some_iff.1 h1).2
    have e2 := (List.getElem?_eq_some_iff.1 hk).2
    rw [e1, e2] at this
    exact this v h2 v hvl rfl
  · rw [List.getElem?_append_right (by rw [List.length_take]; omega)] at h1
    have hlt := (List.getElem?_eq_some_iff.1 h1).1
    simp only [List.length_singleton] at hlt
    have hz' : (mrk f v - 1).toNat - (S.take k).length = 0 := by omega
    rw [hz'] at h1
    simp at h1
    subst h1
    obtain ⟨i, hi, he⟩ := List.mem_iff_getElem.1 h2
    rw [List.length_take] at hi
    rw [List.getElem_take] at he
    have := List.pairwise_iff_getElem.1 hW.2.2.1 i j (by omega) hj (by omega)
    rw [he, hv] at this
    exact this rfl
end
/-! #### what is met -/
def metF (f : List Int) (E : List Ed) : List (List Int × Int) := E.foldl (fun m x => mapPut m [mnI (mrk f x.1) (mrk f x.2) - 1, mxI (mrk f x.1) (mrk f x.2) - 1] 1) []
theorem metF_snoc (f : List Int) (E : List Ed) (x : Ed) : metF f (E ++ [x]) = mapPut (metF f E) [mnI (mrk f x.1) (mrk f x.2) - 1, mxI (mrk f x.1) (mrk f x.2) - 1] 1 := by simp [metF, List.foldl_append]
theorem metF_iff (f : List Int) (key : List Int) : ∀ E : List Ed, mapGet (metF f E) key ≠ 0 ↔ ∃ x ∈ E, [mnI (mrk f x.1) (mrk f x.2) - 1, mxI (mrk f x.1) (mrk f x.2) - 1] = key := by
  intro E
  have key' : ∀ (E : List Ed) (m : List (List Int × Int)), mapGet (E.foldl (fun m x => mapPut m [mnI (mrk f x.1) (mrk f x.2) - 1, mxI (mrk f x.1) (mrk f x.2) - 1] 1) m) key ≠ 0 ↔ mapGet m key ≠ 0 ∨ ∃ x ∈ E, [mnI (mrk f x.1) (mrk f x.2) - 1, mxI (mrk f x.1) (mrk f x.2) - 1] = key := by
    intro E
    induction E with
    | nil => intro m; simp
    | cons x E ih =>
      intro m
      rw [List.foldl_cons, ih, mapGet_put]
      by_cases h : [mnI (mrk f x.1) (mrk f x.2) - 1, mxI (mrk f x.1) (mrk f x.2) - 1] = key
      · rw [if_pos h]
        constructor
        · intro _; exact .inr ⟨x, by simp, h⟩
        · intro _; exact .inl (by simp)
      · rw [if_neg h]
        constructor
        · rintro (h1 | ⟨y, hy, h1⟩)
          · exact .inl h1
          · exact .inr ⟨y, by simp [hy], h1⟩
        · rintro (h1 | ⟨y, hy, h1⟩)
          · exact .inl h1
          · rcases List.mem_cons.1 hy with rfl | hy
            · exact absurd h1 h
            · exact .inr ⟨y, hy, h1⟩
  rw [metF, key']
  simp [mapGet]
theorem met_touch {n : Int} {E : List Ed} {f : List Int} {S : List (List Int)} (h : OF n f S) (hE : ∀ x ∈ E, okE n x) {q : Ed} (h0 : 0 ≤ q.1) (h1 : q.1 < q.2) (h2 : q.2 < S.length) :
    mapGet (metF f E) [q.1, q.2] ≠ 0 ↔ touchB E (setAt S q.1) (setAt S q.2) = true := by
  rw [metF_iff]
  unfold touchB
  rw [List.any_eq_true]
  have hs : ∀ v, 0 ≤ v → v < n → ∀ i : Int, 0 ≤ i → i < S.length → (mrk f v = i + 1 ↔ v ∈ setAt S i) := by
    intro v v0 vn i i0 il
    have := h.val v v0 vn i.toNat
    rw [Int.toNat_of_nonneg i0] at this
    rw [this]
    have hl : i.toNat < S.length := by omega
    rw [setAt, List.getD_eq_getElem?_getD, List.getElem?_eq_getElem hl]
    simp
  have hc : ∀ x ∈ E, ([mnI (mrk f x.1) (mrk f x.2) - 1, mxI (mrk f x.1) (mrk f x.2) - 1] = [q.1, q.2] ↔ ((setAt S q.1).elem x.1 && (setAt S q.2).elem x.2 || (setAt S q.2).elem x.1 && (setAt S q.1).elem x.2) = true) := by
    intro x hx
    obtain ⟨o1, o2, o3⟩ := hE x hx
    have a1 := hs x.1 o1 (by omega) q.1 h0 (by omega)
    have a2 := hs x.2 (by omega) o3 q.2 (by omega) h2
    have a3 := hs x.1 o1 (by omega) q.2 (by omega) h2
    have a4 := hs x.2 (by omega) o3 q.1 h0 (by omega)
    simp only [Bool.or_eq_true, Bool.and_eq_true, List.elem_eq_mem, decide_eq_true_eq, ← a1, ← a2, ← a3, ← a4]
    simp only [List.cons.injEq, and_true]
    unfold mnI mxI
    split <;> split <;> omega
  constructor
  · rintro ⟨x, hx, he⟩; exact ⟨x, hx, (hc x hx).1 he⟩
  · rintro ⟨x, hx, he⟩; exact ⟨x, hx, (hc x hx).2 he⟩
end Go.Sh

set_option linter.unusedVariables false
set_option linter.unusedSimpArgs false
namespace Go.Sh
open Go.Proofs
def grO (n : Int) (E : List Ed) : V := .agg [.s (.i .i64 n), .flat true 2 (edges E)]
/-! ### minor.Pattern -/
noncomputable def PatC : Con := conP 1 (fun _ : Int => True) (fun k => [.one (.s (.i .i64 k))]) (fun k => grO (patG k).1 (patG k).2)
theorem PatC_at (k : Int) : PatC.F [.one (.s (.i .i64 k))] = some (grO (patG k).1 (patG k).2, []) :=
  conP_at (a := k) (fun a b _ _ h => by simp at h; rw [h]) trivial
theorem Pat_ok : SoundC Try.prog T 54 PatC := by
  refine sound_con (X := { Γ := [], T := T, nt := 25 }) cr_none hmix hT sound_nil Try.func54 (by rfl) (by rfl) (by rfl) (by rfl) 1 ?_
  intro k _
  refine ⟨⟨Nat.le_of_ble_eq_true rfl, Nat.le_of_ble_eq_true rfl⟩, ?_⟩
  refine Pick.by (fun h1 => ?_) (fun h1 => ?_)
  · have h1 : k = 1 := by simpa using h1
    subst h1
    exact ⟨rfl, rfl, ⟨rfl, rfl⟩, trivial⟩
  have h1 : ¬ k = 1 := by simpa using h1
  refine Pick.by (fun h2 => ?_) (fun h2 => ?_)
  · have h2 : k = 2 := by simpa using h2
    subst h2
    exact ⟨rfl, rfl, ⟨rfl, rfl⟩, trivial⟩
  have h2 : ¬ k = 2 := by simpa using h2
  have h : patG k = (0, []) := by unfold patG; rw [if_neg h1, if_neg h2]
  rw [h]
  exact ⟨rfl, rfl, ⟨rfl, rfl⟩, trivial⟩
/-! ### minor.Check -/
noncomputable def CheckC : Con := conP 2 (fun a : (Int × List Ed) × Mo => small a.2.2) (fun a => [grV a.1.1 a.1.2, moV false a.2.1 a.2.2]) (fun a => .one (.s (.b (checkB a.1.1 a.1.2 a.2.1 a.2.2))))
theorem CheckC_at {n : Int} {E : List Ed} {k : Int} {S : List (List Int)} (h : small S) : CheckC.F [grV n E, moV false k S] = some (.one (.s (.b (checkB n E k S))), []) :=
  conP_at (a := ((n, E), (k, S))) (fun a b _ _ h => by
    obtain ⟨⟨n, E⟩, k, S⟩ := a
    obtain ⟨⟨n', E'⟩, k', S'⟩ := b
    simp at h
    obtain ⟨h1, h2⟩ := h
    obtain ⟨rfl, rfl⟩ := grV_inj h1
    obtain ⟨rfl, rfl⟩ := moV_inj h2
    rfl) h
theorem noCk {n : Int} {E : List Ed} {k : Int} {S : List (List Int)} (h : ¬ CheckP n E k S) : Sc.b false = Sc.b (checkB n E k S) := by rw [← checkB_no h]
set_option maxHeartbeats 2000000 in
theorem Check_ok (hU : SoundC Try.prog T 88 UnlikeC) : SoundC Try.prog T 27 CheckC := by
  refine sound_con (X := { Γ := [(54, PatC), (39, RightC), (55, WholeC)], T := T, nt := 119 }) cr_none hmix hT (sound_cons Pat_ok (sound_cons RightG_ok (sound_cons (Whole_ok hU) sound_nil))) Try.func27 (by rfl) (by rfl) (by rfl) (by rfl) 4 ?_
  rintro ⟨⟨n, E⟩, k, S⟩ ⟨hSl, hSr⟩
  dsimp only at hSl hSr
  obtain ⟨hp1, hp2, hp3, hp4⟩ := patG_ok k
  refine ⟨⟨Nat.le_of_ble_eq_true rfl, Nat.le_of_ble_eq_true rfl⟩, ?_⟩
  refine Call.by _ _ (PatC_at k) ?_
  refine Call.by _ _ (RightC_at n E) ?_
  refine Pick.by (fun h1 => ?_) (fun h1 => ?_)
  · have h1 : ¬ RightP n E := by have h1 : (!decide (RightP n E)) = true := h1; simpa using h1
    refine ⟨rfl, ?_⟩
    show Sc.b false = Sc.b (checkB n E k S)
    exact noCk fun h => h1 h.1
  have h1 : RightP n E := by have h1 : (!decide (RightP n E)) = false := h1; simpa using h1
  refine Pick.by (fun h2 => ?_) (fun h2 => ?_)
  · have h2 : (patG k).1 = 0 := by simpa using h2
    refine ⟨rfl, ?_⟩
    show Sc.b false = Sc.b (checkB n E k S)
    exact noCk fun h => h.2.1 h2
  have h2 : (patG k).1 ≠ 0 := by simpa using h2
  refine Pick.by (fun h3 => ?_) (fun h3 => ?_)
  · have h3 : (S.length : Int) ≠ (patG k).1 := by simpa [rowsI_length] using h3
    refine ⟨rfl, ?_⟩
    show Sc.b false = Sc.b (checkB n E k S)
    exact noCk fun h => h3 h.2.2.1
  have h3 : (S.length : Int) = (patG k).1 := by simpa [rowsI_length] using h3
  have hn0 : 0 ≤ n := h1.1
  have hn1 : n ≤ 1000 := h1.2.1
  have hE4 : E.length ≤ 4000 := h1.2.2.1
  refine Pick.T (by simp) ?_
  refine Idx.by n.toNat (by show n = _; omega) (by omega) ?_
  refine LoopP.intro (α := List Int × Nat) (fun p => p.2 ≤ S.length ∧ OF n p.1 (S.take p.2) ∧ ∀ l ∈ S.take p.2, WholeP n E l) (fun p => S.length - p.2) (fun p => [(2, .ptr 0 0), (5, .ptr 2 0), (6, .sl 4 none none), (41, .sl 3 none none), (42, .s (.i .i64 S.length)), (43, .s (.i .i64 p.2))])
    (fun p => [(0, some (.blk [.s (.i .i64 n), .sl 1 none none])), (1, some (.flat false 2 (edges E))), (2, some (.blk [.s (.i .i64 (patG k).1), .sl 5 none none])), (3, some (.nest false 1 (rowsI S) [] [])), (4, some (.flat true 1 (ints p.1))), (5, some (.flat true 2 (edges (patG k).2)))]) 6 (List.replicate n.toNat 0, 0) ⟨by simp, by simpa using OF.nil n, by simp⟩ (by refine Weak.by [(0, some _), (1, some _), (2, some _), (3, some _), (4, some _), (5, some _)] (by ((repeat' first | exact rfl | exact trivial | refine And.intro ?_ ?_) <;> (repeat' first | exact rfl | exact trivial | refine And.intro ?_ ?_)); all_goals (first | exact sc_eq (by rw [rowsI_length]) | simp [ints])) (by ((repeat' first | exact rfl | exact trivial | refine And.intro ?_ ?_) <;> (repeat' first | exact rfl | exact trivial | refine And.intro ?_ ?_)); all_goals (first | exact sc_eq (by rw [rowsI_length]) | simp [ints])) (by rfl)) ?_
  rintro ⟨f, i⟩ ⟨hi, hF, hW⟩
  dsimp only at hi hF hW
  refine Pick.by (fun hc => ?_) (fun hc => ?_)
  · have hlt : i < S.length := by simpa using hc
    have hSi : S[i]? = some S[i] := List.getElem?_eq_getElem hlt
    have hsl := hSr _ (List.getElem_mem hlt)
    refine Idx.by i rfl (by rw [rowsI_length]; exact hlt) ?_
    refine Pick.T (by simpa [rowsI_length] using hlt) ?_
    refine Look.by _ (rowsI_get hSi) ?_
    refine Call.by _ _ (WholeC_at hsl) ?_
    refine Pick.by (fun h4 => ?_) (fun h4 => ?_)
    · have h4 : ¬ WholeP n E S[i] := by have h4 : (!wholeB n E S[i]) = true := h4; intro h; rw [wholeB_iff.2 h] at h4; cases h4
      refine ⟨rfl, ?_⟩
      show Sc.b false = Sc.b (checkB n E k S)
      exact noCk fun h => h4 (h.2.2.2.1 _ (List.getElem_mem hlt))
    have h4 : WholeP n E S[i] := by have h4 : (!wholeB n E S[i]) = false := h4; exact wholeB_iff.1 (by simpa using h4)
    refine Look.by _ (rowsI_get hSi) ?_
    refine LoopP.intro (α := List Int × Nat) (fun p => p.2 ≤ S[i].length ∧ OF n p.1 (S.take i ++ [S[i].take p.2])) (fun p => S[i].length - p.2) (fun p => [(2, .ptr 0 0), (5, .ptr 2 0), (6, .sl 4 none none), (7, .s (.i .i64 i)), (41, .sl 3 none none), (42, .s (.i .i64 S.length)), (43, .s (.i .i64 i)), (52, .sl 3 (some (i, 0)) none), (53, .s (.i .i64 S[i].length)), (54, .s (.i .i64 p.2))])
      (fun p => [(0, some (.blk [.s (.i .i64 n), .sl 1 none none])), (1, some (.flat false 2 (edges E))), (2, some (.blk [.s (.i .i64 (patG k).1), .sl 5 none none])), (3, some (.nest false 1 (rowsI S) [] [])), (4, some (.flat true 1 (ints p.1))), (5, some (.flat true 2 (edges (patG k).2)))]) 6 (f, 0) ⟨by simp, by simpa using hF.open⟩ (by refine Weak.by [(0, some _), (1, some _), (2, some _), (3, some _), (4, some _), (5, some _)] (by ((repeat' first | exact rfl | exact trivial | refine And.intro ?_ ?_) <;> (repeat' first | exact rfl | exact trivial | refine And.intro ?_ ?_)); all_goals (first | exact sc_eq (by rw [ints_length]) | simp)) (by ((repeat' first | exact rfl | exact trivial | refine And.intro ?_ ?_) <;> (repeat' first | exact rfl | exact trivial | refine And.intro ?_ ?_)); all_goals (first | exact sc_eq (by rw [ints_length]) | simp)) (by rfl)) ?_
    rintro ⟨g, j⟩ ⟨hj, hG⟩
    dsimp only at hj hG
    refine Pick.by (fun hd => ?_) (fun hd => ?_)
    · have hjl : j < S[i].length := by simpa using hd
      have hr := h4.2.2.2.1 _ (List.getElem_mem hjl)
      have hg := mk_get hG.len hr.1 hr.2
      have hx : S[i][j].toNat < (ints g).length := by rw [ints_length, hG.len]; omega
      refine Look.by _ (rowsI_get hSi) ?_
      refine Idx.by j rfl (by rw [ints_length]; exact hjl) ?_
      refine Look.by _ (rowsI_get hSi) ?_
      refine Look.by _ (ints_get (List.getElem?_eq_getElem hjl)) ?_
      refine Idx.by S[i][j].toNat (by show S[i][j] = _; omega) hx ?_
      refine Look.by _ (ints_get hg) ?_
      refine Pick.by (fun h5 => ?_) (fun h5 => ?_)
      · have h5 : 0 < mrk g S[i][j] := by simpa using h5
        refine ⟨rfl, ?_⟩
        show Sc.b false = Sc.b (checkB n E k S)
        exact noCk fun h => hG.twice hSi hjl rfl h4 h5 h.2.2.2.2.1
      have h5 : ¬ 0 < mrk g S[i][j] := by simpa using h5
      have hb := (hG.bnd _ hr.1 hr.2).1
      refine Pick.T (inI64_of (by omega) (by omega)) ?_
      refine Idx.by S[i][j].toNat (by show S[i][j] = _; omega) hx ?_
      refine Look.by _ (ints_get hg) ?_
      refine Pick.T (inI64_of (by omega) (by omega)) ?_
      have hP := hG.put hr.1 hr.2 (by omega)
      have hil : (S.take i).length = i := by rw [List.length_take]; omega
      rw [hil] at hP
      refine Next.by (g.set S[i][j].toNat (i + 1), j + 1) ⟨by omega, by rw [List.take_succ_eq_append_getElem hjl]; exact hP⟩ (by show S[i].length - (j + 1) < S[i].length - j; omega) (by refine Weak.by [(0, some _), (1, some _), (2, some _), (3, some _), (4, some _), (5, some _)] (by ((repeat' first | exact rfl | exact trivial | refine And.intro ?_ ?_) <;> (repeat' first | exact rfl | exact trivial | refine And.intro ?_ ?_)); all_goals (first | (rw [ints_set]; rfl) | simp)) (by ((repeat' first | exact rfl | exact trivial | refine And.intro ?_ ?_) <;> (repeat' first | exact rfl | exact trivial | refine And.intro ?_ ?_)); all_goals (first | (rw [ints_set]; rfl) | simp)) (by rfl))
    · have hge : S[i].length ≤ j := by simpa using hd
      rw [List.take_of_length_le hge] at hG
      have hs : S.take i ++ [S[i]] = S.take (i + 1) := (List.take_succ_eq_append_getElem hlt).symm
      rw [hs] at hG
      refine Pick.T (inI64_of (by omega) (by omega)) ?_
      refine Next.by (g, i + 1) ⟨by omega, hG, fun l hl => ?_⟩ (by show S.length - (i + 1) < S.length - i; omega) (by refine Weak.by [(0, some _), (1, some _), (2, some _), (3, some _), (4, some _), (5, some _)] (by ((repeat' first | exact rfl | exact trivial | refine And.intro ?_ ?_) <;> (repeat' first | exact rfl | exact trivial | refine And.intro ?_ ?_))) (by ((repeat' first | exact rfl | exact trivial | refine And.intro ?_ ?_) <;> (repeat' first | exact rfl | exact trivial | refine And.intro ?_ ?_))) (by rfl))
      rw [← hs] at hl
      rcases List.mem_append.1 hl with hl | hl
      · exact hW l hl
      · simp at hl; subst hl; exact h4
  have hge : S.length ≤ i := by simpa using hc
  rw [List.take_of_length_le hge] at hF hW
  have hon : ∀ x ∈ E, okE n x := h1.2.2.2.1
  refine LoopP.intro (α := Nat) (fun q => q ≤ E.length) (fun q => E.length - q) (fun q => [(5, .ptr 1 0), (6, .sl 2 none none), (11, .mp 4), (72, .sl 0 none none), (73, .s (.i .i64 E.length)), (74, .s (.i .i64 q))])
    (fun q => [(0, some (.flat false 2 (edges E))), (1, some (.blk [.s (.i .i64 (patG k).1), .sl 3 none none])), (2, some (.flat true 1 (ints f))), (3, some (.flat true 2 (edges (patG k).2))), (4, some (.map true 2 (metF f (E.take q))))]) 5 0 (by simp) (by refine Weak.by [(0, some _), (1, some _), (2, some _), (3, some _), (4, some _)] (by ((repeat' first | exact rfl | exact trivial | refine And.intro ?_ ?_) <;> (repeat' first | exact rfl | exact trivial | refine And.intro ?_ ?_)); all_goals (exact sc_eq (by rw [edges_length]))) (by ((repeat' first | exact rfl | exact trivial | refine And.intro ?_ ?_) <;> (repeat' first | exact rfl | exact trivial | refine And.intro ?_ ?_)); all_goals (exact sc_eq (by rw [edges_length]))) (by rfl)) ?_
  rintro q hq
  refine Pick.by (fun hd => ?_) (fun hd => ?_)
  · have hlt : q < E.length := by simpa using hd
    obtain ⟨ho1, ho2, ho3⟩ := hon _ (List.getElem_mem hlt)
    have ga := mk_get hF.len ho1 (show E[q].1 < n by omega)
    have gb := mk_get hF.len (show 0 ≤ E[q].2 by omega) ho3
    have ia : E[q].1.toNat < (ints f).length := by rw [ints_length, hF.len]; omega
    have ib : E[q].2.toNat < (ints f).length := by rw [ints_length, hF.len]; omega
    have ba := hF.bnd _ ho1 (show E[q].1 < n by omega)
    have bb := hF.bnd _ (show 0 ≤ E[q].2 by omega) ho3
    have hmn : 0 ≤ mnI (mrk f E[q].1) (mrk f E[q].2) ∧ mnI (mrk f E[q].1) (mrk f E[q].2) ≤ S.length := by unfold mnI; split <;> omega
    have hmx : 0 ≤ mxI (mrk f E[q].1) (mrk f E[q].2) ∧ mxI (mrk f E[q].1) (mrk f E[q].2) ≤ S.length := by unfold mxI; split <;> omega
    refine Idx.by q rfl (by rw [edges_length]; exact hlt) ?_
    refine Look.by _ (edges_get (List.getElem?_eq_getElem hlt)) ?_
    refine Idx.by E[q].1.toNat (by omega) ia ?_
    refine Look.by _ (ints_get ga) ?_
    refine Idx.by E[q].2.toNat (by omega) ib ?_
    refine Look.by _ (ints_get gb) ?_
    refine Idx.by E[q].1.toNat (by omega) ia ?_
    refine Look.by _ (ints_get ga) ?_
    refine Idx.by E[q].2.toNat (by omega) ib ?_
    refine Look.by _ (ints_get gb) ?_
    refine Seg.by (by kernel_rfl) ?_
    refine Pick.T (inI64_of (by show _ ≤ mnI (mrk f E[q].1) (mrk f E[q].2) - 1; omega) (by show mnI (mrk f E[q].1) (mrk f E[q].2) - 1 ≤ _; omega)) ?_
    refine Pick.T (inI64_of (by show _ ≤ mxI (mrk f E[q].1) (mrk f E[q].2) - 1; omega) (by show mxI (mrk f E[q].1) (mrk f E[q].2) - 1 ≤ _; omega)) ?_
    refine Pick.T (inI64_of (by show _ ≤ mnI (mrk f E[q].1) (mrk f E[q].2) - 1; omega) (by show mnI (mrk f E[q].1) (mrk f E[q].2) - 1 ≤ _; omega)) ?_
    refine Pick.T (inI64_of (by show _ ≤ mxI (mrk f E[q].1) (mrk f E[q].2) - 1; omega) (by show mxI (mrk f E[q].1) (mrk f E[q].2) - 1 ≤ _; omega)) ?_
    refine Pick.T (inI64_of (by omega) (by omega)) ?_
    refine Next.by (q + 1) (by omega) (by omega) (by refine Weak.by [(0, some _), (1, some _), (2, some _), (3, some _), (4, some _)] (by ((repeat' first | exact rfl | exact trivial | refine And.intro ?_ ?_) <;> (repeat' first | exact rfl | exact trivial | refine And.intro ?_ ?_)); all_goals (rw [List.take_succ_eq_append_getElem hlt, metF_snoc]; rfl)) (by ((repeat' first | exact rfl | exact trivial | refine And.intro ?_ ?_) <;> (repeat' first | exact rfl | exact trivial | refine And.intro ?_ ?_)); all_goals (rw [List.take_succ_eq_append_getElem hlt, metF_snoc]; rfl)) (by rfl))
  have hge2 : E.length ≤ q := by simpa using hd
  rw [List.take_of_length_le hge2]
  refine LoopP.intro (α := Nat) (fun q => q ≤ (patG k).2.length ∧ ∀ x ∈ (patG k).2.take q, mapGet (metF f E) [x.1, x.2] ≠ 0) (fun q => (patG k).2.length - q) (fun q => [(11, .mp 1), (108, .sl 0 none none), (109, .s (.i .i64 (patG k).2.length)), (110, .s (.i .i64 q))])
    (fun q => [(0, some (.flat true 2 (edges (patG k).2))), (1, some (.map true 2 (metF f E)))]) 2 0 ⟨by simp, by simp⟩ (by refine Weak.by [(0, some _), (1, some _)] (by ((repeat' first | exact rfl | exact trivial | refine And.intro ?_ ?_) <;> (repeat' first | exact rfl | exact trivial | refine And.intro ?_ ?_)); all_goals (exact sc_eq (by rw [edges_length]))) (by ((repeat' first | exact rfl | exact trivial | refine And.intro ?_ ?_) <;> (repeat' first | exact rfl | exact trivial | refine And.intro ?_ ?_)); all_goals (exact sc_eq (by rw [edges_length]))) (by rfl)) ?_
  rintro q ⟨hq, hmt⟩
  have tou : ∀ x ∈ (patG k).2, mapGet (metF f E) [x.1, x.2] ≠ 0 ↔ touchB E (setAt S x.1) (setAt S x.2) = true := fun x hx => by
    obtain ⟨q1, q2, q3⟩ := hp4 x hx
    exact met_touch hF hon q1 q2 (by omega)
  refine Pick.by (fun hd => ?_) (fun hd => ?_)
  · have hlt : q < (patG k).2.length := by simpa using hd
    have hxm := List.getElem_mem hlt
    obtain ⟨q1, q2, q3⟩ := hp4 _ hxm
    refine Idx.by q rfl (by rw [edges_length]; exact hlt) ?_
    refine Look.by _ (edges_get (List.getElem?_eq_getElem hlt)) ?_
    refine Pick.T (inI64_of (by omega) (by omega)) ?_
    refine Pick.T (inI64_of (by omega) (by omega)) ?_
    refine Pick.by (fun h6 => ?_) (fun h6 => ?_)
    · have h6 : mapGet (metF f E) [(patG k).2[q].1, (patG k).2[q].2] = 0 := by simpa using h6
      refine ⟨rfl, ?_⟩
      show Sc.b false = Sc.b (checkB n E k S)
      exact noCk fun h => (tou _ hxm).2 (h.2.2.2.2.2 _ hxm) h6
    · have h6 : ¬ mapGet (metF f E) [(patG k).2[q].1, (patG k).2[q].2] = 0 := by simpa using h6
      refine Pick.T (inI64_of (by omega) (by omega)) ?_
      refine Next.by (q + 1) ⟨by omega, fun x hx => ?_⟩ (by omega) (by refine Weak.by [(0, some _), (1, some _)] (by ((repeat' first | exact rfl | exact trivial | refine And.intro ?_ ?_) <;> (repeat' first | exact rfl | exact trivial | refine And.intro ?_ ?_))) (by ((repeat' first | exact rfl | exact trivial | refine And.intro ?_ ?_) <;> (repeat' first | exact rfl | exact trivial | refine And.intro ?_ ?_))) (by rfl))
      rw [List.take_succ_eq_append_getElem hlt] at hx
      rcases List.mem_append.1 hx with hx | hx
      · exact hmt x hx
      · simp at hx; subst hx; exact h6
  · have hge3 : (patG k).2.length ≤ q := by simpa using hd
    rw [List.take_of_length_le hge3] at hmt
    refine ⟨rfl, ?_⟩
    show Sc.b true = Sc.b (checkB n E k S)
    rw [checkB_iff.2 ⟨h1, h2, h3, hW, hF.nodup hW, fun x hx => (tou x hx).1 (hmt x hx)⟩]
end Go.Sh

set_option linter.unusedVariables false
set_option linter.unusedSimpArgs false
namespace Go.Sh
open Go.Proofs
/-! ### carcanetlaw08.shown -/
def E8 : List Ed := [(0, 1), (0, 2), (0, 3), (1, 2), (1, 4), (2, 3), (3, 4)]
theorem whole1 {n : Int} {E : List Ed} {x : Int} (hR : RightP n E) (h0 : 0 ≤ x) (hn : x < n) : WholeP n E [x] :=
  ⟨hR, by simp, by simp, by simp; omega, fun v hv => by simp at hv; subst hv; exact .base⟩
theorem R8 : RightP 5 E8 := by decide
theorem shown_yes : CheckP 5 E8 1 [[0], [1], [2], [3, 4]] := by
  refine ⟨R8, by decide, by decide, fun l hl => ?_, by decide, by decide⟩
  simp only [List.mem_cons, List.not_mem_nil, or_false] at hl
  rcases hl with rfl | rfl | rfl | rfl
  · exact whole1 R8 (by decide) (by decide)
  · exact whole1 R8 (by decide) (by decide)
  · exact whole1 R8 (by decide) (by decide)
  · refine ⟨R8, by decide, by decide, by decide, fun v hv => ?_⟩
    simp only [List.mem_cons, List.not_mem_nil, or_false] at hv
    rcases hv with rfl | rfl
    · exact .base
    · exact .step (u := 3) .base (.inl (by decide)) (by decide)
theorem shown_no : ¬ CheckP 5 E8 1 [[0], [1], [2], [3]] := fun h => absurd (h.2.2.2.2.2 (1, 3) (by decide)) (by decide)
noncomputable def ShownC : Con := conP 0 (fun _ : Unit => True) (fun _ => []) (fun _ => .one (.s (.b true)))
theorem ShownC_at : ShownC.F [] = some (.one (.s (.b true)), []) := conP_at (a := ()) (fun a b _ _ h => rfl) trivial
set_option maxHeartbeats 1000000 in
theorem Shown_ok (hU : SoundC Try.prog T 88 UnlikeC) : SoundC Try.prog T 28 ShownC := by
  refine sound_con (X := { Γ := [(54, PatC), (34, LiftMC), (27, CheckC)], T := T, nt := 82 }) cr_none hmix hT (sound_cons Pat_ok (sound_cons LiftM_ok (sound_cons (Check_ok hU) sound_nil))) Try.func28 (by rfl) (by rfl) (by rfl) (by rfl) 0 ?_
  rintro ⟨⟩ -
  refine ⟨⟨Nat.le_of_ble_eq_true rfl, Nat.le_of_ble_eq_true rfl⟩, ?_⟩
  refine Call.by _ _ (PatC_at 1) ?_
  refine Call.by _ _ (PatC_at 2) ?_
  have hL := LiftMC_at (k := 1) (l := [[0], [1], [2], [3]]) 4 3 ⟨by decide, by unfold mild; decide⟩
  rw [show List.map (liftRow (mnI 4 3) (mxI 4 3)) [[0], [1], [2], [3]] = [[0], [1], [2], [3, 4]] by decide] at hL
  refine Call.by _ _ hL ?_
  refine Idx.by 3 rfl (by decide) ?_
  refine Look.by (ints [3, 4]) rfl ?_
  refine Idx.by 3 rfl (by decide) ?_
  refine Look.by (ints [3, 4]) rfl ?_
  refine Idx.by 1 rfl (by decide) ?_
  refine Look.by (ints [3, 4]) rfl ?_
  refine Look.by [.i .i64 4] rfl ?_
  refine Call.by _ _ (CheckC_at (n := 5) (E := E8) (k := 1) (S := [[0], [1], [2], [3, 4]]) (by unfold small; decide)) ?_
  rw [checkB_iff.2 shown_yes]
  refine Call.by _ _ (CheckC_at (n := 5) (E := E8) (k := 1) (S := [[0], [1], [2], [3]]) (by unfold small; decide)) ?_
  rw [checkB_no shown_no]
  exact ⟨rfl, rfl⟩
end Go.Sh

set_option linter.unusedVariables false
set_option linter.unusedSimpArgs false
namespace Go.Sh
/-! ### the normal form of edges -/
def insE (p : Ed) : List Ed → List Ed
  | [] => [p]
  | q :: r => if ltE p q then p :: q :: r else if p = q then q :: r else q :: insE p r
def edN (p : Ed) : Ed := (mnI p.1 p.2, mxI p.1 p.2)
def normE (l : List Ed) : List Ed := l.foldr (fun p E => if p.1 = p.2 then E else insE (edN p) E) []
theorem mem_insE {p x : Ed} : ∀ {E : List Ed}, x ∈ insE p E ↔ x = p ∨ x ∈ E := by
  intro E
  induction E with
  | nil => simp [insE]
  | cons q r ih =>
    unfold insE
    split
    · simp
    · split
      · rename_i h; subst h; simp
      · simp only [List.mem_cons, ih]
        constructor
        · rintro (h | h | h) <;> simp [h]
        · rintro (h | h | h) <;> simp [h]
theorem ltE_tri (p q : Ed) : ltE p q ∨ p = q ∨ ltE q p := by
  obtain ⟨a, b⟩ := p
  obtain ⟨c, d⟩ := q
  unfold ltE
  simp only [Prod.mk.injEq]
  omega
theorem insE_sorted {p : Ed} : ∀ {E : List Ed}, E.Pairwise ltE → (insE p E).Pairwise ltE := by
  intro E
  induction E with
  | nil => intro _; simp [insE]
  | cons q r ih =>
    intro h
    unfold insE
    have h' := List.pairwise_cons.1 h
    split
    · rename_i hlt
      exact List.pairwise_cons.2 ⟨fun x hx => by rcases List.mem_cons.1 hx with rfl | hx; exact hlt; exact hlt.trans (h'.1 x hx), h⟩
    · split
      · exact h
      · rename_i h1 h2
        refine List.pairwise_cons.2 ⟨fun x hx => ?_, ih h'.2⟩
        rcases mem_insE.1 hx with rfl | hx
        · rcases ltE_tri x q with h | h | h
          · exact absurd h h1
          · exact absurd h h2
          · exact h
        · exact h'.1 x hx
theorem normE_sorted (l : List Ed) : (normE l).Pairwise ltE := by
  induction l with
  | nil => simp [normE]
  | cons p l ih =>
    show (if p.1 = p.2 then normE l else insE (edN p) (normE l)).Pairwise ltE
    split
    · exact ih
    · exact insE_sorted ih
theorem mem_normE {l : List Ed} {x : Ed} : x ∈ normE l ↔ ∃ p ∈ l, p.1 ≠ p.2 ∧ x = edN p := by
  induction l with
  | nil => simp [normE]
  | cons p l ih =>
    show x ∈ (if p.1 = p.2 then normE l else insE (edN p) (normE l)) ↔ _
    split
    · rename_i h
      rw [ih]
      constructor
      · rintro ⟨q, hq, h1⟩; exact ⟨q, by simp [hq], h1⟩
      · rintro ⟨q, hq, h1, h2⟩
        rcases List.mem_cons.1 hq with rfl | hq
        · exact absurd h h1
        · exact ⟨q, hq, h1, h2⟩
    · rename_i h
      rw [mem_insE, ih]
      constructor
      · rintro (h1 | ⟨q, hq, h1⟩)
        · exact ⟨p, by simp, h, h1⟩
        · exact ⟨q, by simp [hq], h1⟩
      · rintro ⟨q, hq, h1, h2⟩
        rcases List.mem_cons.1 hq with rfl | hq
        · exact .inl h2
        · exact .inr ⟨q, hq, h1, h2⟩
theorem ltE_ne {p q : Ed} (h : ltE p q) : p ≠ q := by
  intro e
  subst e
  unfold ltE at h
  omega
theorem sortedE_eq {E F : List Ed} (h : E.Pairwise ltE) (k : F.Pairwise ltE) (hm : ∀ x, x ∈ E ↔ x ∈ F) : E = F := by
  have hp : E.Perm F := (List.perm_ext_iff_of_nodup (h.imp ltE_ne) (k.imp ltE_ne)).2 hm
  refine List.Perm.eq_of_pairwise (le := ltE) (fun a b _ _ h1 h2 => ?_) h k hp
  unfold ltE at h1 h2
  exact absurd h1 (by omega)
theorem edN_ok {n : Int} {p : Ed} (h1 : 0 ≤ p.1 ∧ p.1 < n) (h2 : 0 ≤ p.2 ∧ p.2 < n) (hne : p.1 ≠ p.2) : okE n (edN p) := by
  unfold okE edN mnI mxI
  dsimp only
  split <;> split <;> omega
theorem normE_ok {n : Int} {l : List Ed} (h : ∀ p ∈ l, (0 ≤ p.1 ∧ p.1 < n) ∧ 0 ≤ p.2 ∧ p.2 < n) : ∀ x ∈ normE l, okE n x := by
  intro x hx
  obtain ⟨p, hp, hne, rfl⟩ := mem_normE.1 hx
  exact edN_ok (h p hp).1 (h p hp).2 hne
theorem insE_length (p : Ed) (E : List Ed) : (insE p E).length ≤ E.length + 1 := by
  induction E with
  | nil => simp [insE]
  | cons q r ih =>
    unfold insE
    split
    · simp
    · split
      · simp
      · simp; omega
theorem normE_length (l : List Ed) : (normE l).length ≤ l.length := by
  induction l with
  | nil => simp [normE]
  | cons p l ih =>
    show (if p.1 = p.2 then normE l else insE (edN p) (normE l)).length ≤ _
    split
    · simp; omega
    · have := insE_length (edN p) (normE l); simp; omega
/-! #### rows of greater neighbours -/
structure UpI (n : Nat) (l : List Ed) (U : List (List Int)) : Prop where
  len : U.length = n
  nd : ∀ r ∈ U, r.Nodup
  ln : ∀ r ∈ U, r.length ≤ l.length
  mem : ∀ (a : Nat) r, U[a]? = some r → ∀ b, b ∈ r ↔ ∃ p ∈ l, p.1 ≠ p.2 ∧ edN p = ((a : Int), b)
theorem UpI.nil (n : Nat) : UpI n [] (List.replicate n []) := by
  refine ⟨by simp, fun r hr => ?_, fun r hr => ?_, fun a r h b => ?_⟩
  · rw [(List.mem_replicate.1 hr).2]; exact List.nodup_nil
  · rw [(List.mem_replicate.1 hr).2]; simp
  · rw [List.getElem?_replicate] at h
    split at h
    · injection h with h; subst h; simp
    · simp at h
theorem UpI.skip {n : Nat} {l : List Ed} {U : List (List Int)} {p : Ed} (h : UpI n l U) (hp : ∀ r, p.1 ≠ p.2 → U[(edN p).1.toNat]? = some r → 0 ≤ (edN p).1 → (edN p).2 ∈ r) (h0 : 0 ≤ (edN p).1) : UpI n (l ++ [p]) U := by
  refine ⟨h.len, h.nd, fun r hr => by have := h.ln r hr; simp; omega, fun a r ha b => ?_⟩
  rw [h.mem a r ha b]
  constructor
  · rintro ⟨q, hq, k⟩; exact ⟨q, by simp [hq], k⟩
  · rintro ⟨q, hq, k1, k2⟩
    rcases List.mem_append.1 hq with hq | hq
    · exact ⟨q, hq, k1, k2⟩
    · simp at hq
      subst hq
      have e1 : (edN q).1.toNat = a := by rw [k2]; simp
      have := hp r k1 (by rw [e1]; exact ha) h0
      rw [k2] at this
      obtain ⟨q', hq', k'⟩ := (h.mem a r ha b).1 this
      exact ⟨q', hq', k'⟩
theorem UpI.put {n : Nat} {l : List Ed} {U : List (List Int)} {p : Ed} {a : Nat} {r : List Int} (h : UpI n l U) (hne : p.1 ≠ p.2) (ha : (edN p).1 = a) (hr : U[a]? = some r) (hb : (edN p).2 ∉ r) : UpI n (l ++ [p]) (U.set a (r ++ [(edN p).2])) := by
  have hin : ∀ x ∈ U.set a (r ++ [(edN p).2]), x ∈ U ∨ x = r ++ [(edN p).2] := fun x hx => List.mem_or_eq_of_mem_set hx
  refine ⟨by rw [List.length_set]; exact h.len, fun x hx => ?_, fun x hx => ?_, fun c x hc b => ?_⟩
  · rcases hin x hx with hx | rfl
    · exact h.nd x hx
    · rw [List.nodup_append]
      refine ⟨h.nd r (List.mem_of_getElem? hr), by simp, fun y hy z hz e => ?_⟩
      simp at hz
      subst e
      subst hz
      exact hb hy
  · rcases hin x hx with hx | rfl
    · have := h.ln x hx; simp; omega
    · have := h.ln r (List.mem_of_getElem? hr); simp; omega
  · rw [List.getElem?_set] at hc
    split at hc
    · rename_i e
      subst e
      split at hc
      · injection hc with hc
        subst hc
        rw [List.mem_append, h.mem a r hr b]
        constructor
        · rintro (⟨q, hq, k⟩ | hb')
          · exact ⟨q, by simp [hq], k⟩
          · simp at hb'
            exact ⟨p, by simp, hne, by rw [hb', ← ha]⟩
        · rintro ⟨q, hq, k1, k2⟩
          rcases List.mem_append.1 hq with hq | hq
          · exact .inl ⟨q, hq, k1, k2⟩
          · simp at hq
            subst hq
            exact .inr (by rw [k2]; simp)
      · simp at hc
    · rename_i e
      rw [h.mem c x hc b]
      constructor
      · rintro ⟨q, hq, k⟩; exact ⟨q, by simp [hq], k⟩
      · rintro ⟨q, hq, k1, k2⟩
        rcases List.mem_append.1 hq with hq | hq
        · exact ⟨q, hq, k1, k2⟩
        · simp at hq
          subst hq
          rw [k2] at ha
          simp at ha
          omega
def rowE (U : List (List Int)) (a : Nat) : List Ed := (sortI (U.getD a [])).map fun b => ((a : Int), b)
def accE (U : List (List Int)) (k : Nat) : List Ed := (List.range k).flatMap (rowE U)
theorem accE_succ (U : List (List Int)) (k : Nat) : accE U (k + 1) = accE U k ++ rowE U k := by simp [accE, List.range_succ]
theorem sortI_length (l : List Int) : (sortI l).length = l.length := (List.mergeSort_perm l _).length_eq
theorem mem_sortI {l : List Int} {x : Int} : x ∈ sortI l ↔ x ∈ l := (List.mergeSort_perm l _).mem_iff
theorem sortI_sorted (l : List Int) : (sortI l).Pairwise (· ≤ ·) := by
  have := List.pairwise_mergeSort (le := fun a b : Int => decide (a ≤ b)) (fun a b c h1 h2 => by simp at *; omega) (fun a b => by simp; omega) l
  exact this.imp (fun h => by simpa using h)
theorem sortI_lt {l : List Int} (h : l.Nodup) : (sortI l).Pairwise (· < ·) := by
  have h1 := sortI_sorted l
  have h2 : (sortI l).Nodup := (List.mergeSort_perm l _).nodup_iff.2 h
  have := h1.and h2
  exact this.imp fun h => by omega
theorem accE_length {U : List (List Int)} {m : Nat} (h : ∀ r ∈ U, r.length ≤ m) (k : Nat) : (accE U k).length ≤ k * m := by
  induction k with
  | zero => simp [accE]
  | succ k ih =>
    rw [accE_succ, List.length_append, Nat.succ_mul]
    have : (rowE U k).length ≤ m := by
      unfold rowE
      rw [List.length_map, sortI_length, List.getD_eq_getElem?_getD]
      cases hk : U[k]? with
      | none => simp
      | some r => exact h r (List.mem_of_getElem? hk)
    omega
theorem accE_norm {n : Nat} {l : List Ed} {U : List (List Int)} (h : UpI n l U) (hl : ∀ p ∈ l, (0 ≤ p.1 ∧ p.1 < n) ∧ 0 ≤ p.2 ∧ p.2 < n) : accE U n = normE l := by
  have hmem : ∀ k x, x ∈ accE U k ↔ ∃ a, a < k ∧ x ∈ rowE U a := fun k x => by simp [accE]
  have hrow : ∀ a x, x ∈ rowE U a ↔ ∃ r, U[a]? = some r ∧ x.1 = a ∧ x.2 ∈ r := by
    intro a x
    unfold rowE
    rw [List.mem_map, List.getD_eq_getElem?_getD]
    cases hk : U[a]? with
    | none => simp [sortI]
    | some r =>
      simp only [Option.getD_some, mem_sortI]
      constructor
      · rintro ⟨b, hb, rfl⟩; exact ⟨r, rfl, rfl, hb⟩
      · rintro ⟨r', e, h1, h2⟩
        injection e with e
        subst e
        exact ⟨x.2, h2, by rw [← h1]⟩
  refine sortedE_eq ?_ (normE_sorted l) fun x => ?_
  · have : ∀ k, (accE U k).Pairwise ltE := by
      intro k
      induction k with
      | zero => simp [accE]
      | succ k ih =>
        rw [accE_succ, List.pairwise_append]
        refine ⟨ih, ?_, fun x hx y hy => ?_⟩
        · unfold rowE
          rw [List.pairwise_map]
          have hnd : (U.getD k []).Nodup := by
            rw [List.getD_eq_getElem?_getD]
            cases hk : U[k]? with
            | none => simp
            | some r => exact h.nd r (List.mem_of_getElem? hk)
          exact (sortI_lt hnd).imp fun h => .inr ⟨rfl, h⟩
        · obtain ⟨a, ha, hxa⟩ := (hmem k x).1 hx
          obtain ⟨_, _, h1, _⟩ := (hrow a x).1 hxa
          obtain ⟨_, _, h2, _⟩ := (hrow k y).1 hy
          exact .inl (by omega)
    exact this n
  · rw [hmem, mem_normE]
    constructor
    · rintro ⟨a, ha, hx⟩
      obtain ⟨r, hr, h1, h2⟩ := (hrow a x).1 hx
      obtain ⟨p, hp, hne, he⟩ := (h.mem a r hr x.2).1 h2
      exact ⟨p, hp, hne, by rw [he, ← h1]⟩
    · rintro ⟨p, hp, hne, rfl⟩
      have hok := edN_ok (hl p hp).1 (hl p hp).2 hne
      obtain ⟨o1, o2, o3⟩ := hok
      have hlt : (edN p).1.toNat < n := by omega
      refine ⟨(edN p).1.toNat, hlt, (hrow _ _).2 ⟨_, List.getElem?_eq_getElem (by rw [h.len]; exact hlt), by omega, ?_⟩⟩
      refine (h.mem _ _ (List.getElem?_eq_getElem (by rw [h.len]; exact hlt)) _).2 ⟨p, hp, hne, ?_⟩
      rw [Int.toNat_of_nonneg o1]
end Go.Sh

set_option linter.unusedVariables false
set_option linter.unusedSimpArgs false
namespace Go.Sh
open Go.Proofs
/-! ### carcanetref03.Normal -/
theorem SortedC_at {l : List Int} (h : l.length ≤ 1000000) : SortedC.F [.one (.flat false 1 (ints l))] = some (.one (.flat true 1 (ints (sortI l))), []) :=
  conP_at (a := l) (fun a b _ _ h => by simp at h; rw [ints_inj h]) h
def inR (n : Int) (p : Ed) : Prop := (0 ≤ p.1 ∧ p.1 < n) ∧ 0 ≤ p.2 ∧ p.2 < n
instance (n : Int) (p : Ed) : Decidable (inR n p) := by unfold inR; infer_instance
/-- number of vertices, edges, error -/
def normF (n : Int) (l : List Ed) : (Int × List Ed) × Int :=
  if n < 0 then ((0, []), 1) else if n > 1000 then ((0, []), 5) else if ∀ p ∈ l, inR n p then (if (normE l).length > 4000 then ((0, []), 5) else ((n, normE l), 0)) else ((0, []), 4)
noncomputable def NormC : Con := conP 2 (fun a : Int × List Ed => a.2.length ≤ 1000000) (fun a => [.one (.s (.i .i64 a.1)), .one (.flat false 2 (edges a.2))]) (fun a => .tup [grO (normF a.1 a.2).1.1 (normF a.1 a.2).1.2, .one (.s (.i .i64 (normF a.1 a.2).2))])
theorem NormC_at {n : Int} {l : List Ed} (h : l.length ≤ 1000000) : NormC.F [.one (.s (.i .i64 n)), .one (.flat false 2 (edges l))] = some (.tup [grO (normF n l).1.1 (normF n l).1.2, .one (.s (.i .i64 (normF n l).2))], []) :=
  conP_at (a := (n, l)) (fun a b _ _ h => by simp at h; obtain ⟨h1, h2⟩ := h; rw [Prod.ext h1 (edges_inj h2)]) h
theorem edges_snoc (l : List Ed) (x : Ed) : edges (l ++ [x]) = edges l ++ [[.i .i64 x.1, .i .i64 x.2]] := by simp [edges]
theorem all_take {α : Type} {Q : α → Prop} {l : List α} {k : Nat} (hk : k < l.length) (h : ∀ p ∈ l.take k, Q p) (h2 : Q l[k]) : ∀ p ∈ l.take (k + 1), Q p := by
  rw [List.take_succ_eq_append_getElem hk]
  intro p hp
  rcases List.mem_append.1 hp with hp | hp
  · exact h p hp
  · simp at hp; subst hp; exact h2
set_option maxHeartbeats 2000000 in
theorem Norm3_ok : SoundC Try.prog T 68 NormC := by
  refine sound_con (X := { Γ := [(36, InC), (43, SortedC)], T := T, nt := 120 }) cr_none hmix hT (sound_cons In_ok (sound_cons Sorted_ok sound_nil)) Try.func68 (by rfl) (by rfl) (by rfl) (by rfl) 2 ?_
  rintro ⟨n, l⟩ hl
  dsimp only at hl
  refine ⟨⟨Nat.le_of_ble_eq_true rfl, Nat.le_of_ble_eq_true rfl⟩, ?_⟩
  refine Pick.by (fun h1 => ?_) (fun h1 => ?_)
  · have h1 : n < 0 := by simpa using h1
    have hv : normF n l = ((0, []), 1) := if_pos h1
    dsimp only
    rw [hv]
    exact ⟨rfl, rfl, ⟨rfl, ⟨rfl, rfl⟩, trivial⟩, rfl, trivial⟩
  have h1 : ¬ n < 0 := by simpa using h1
  refine Pick.by (fun h2 => ?_) (fun h2 => ?_)
  · have h2 : n > 1000 := by simpa using h2
    have hv : normF n l = ((0, []), 5) := by unfold normF; rw [if_neg h1, if_pos h2]
    dsimp only
    rw [hv]
    exact ⟨rfl, rfl, ⟨rfl, ⟨rfl, rfl⟩, trivial⟩, rfl, trivial⟩
  have h2 : ¬ n > 1000 := by simpa using h2
  refine Pick.T (by simp) ?_
  refine Idx.by n.toNat (by show n = _; omega) (by omega) ?_
  refine LoopP.intro (α := Nat × List (List Int)) (fun p => p.1 ≤ l.length ∧ UpI n.toNat (l.take p.1) p.2 ∧ ∀ q ∈ l.take p.1, inR n q) (fun p => l.length - p.1) (fun p => [(0, .s (.i .i64 n)), (1, .sl 1 none none), (4, .ptr 0 0), (6, .sl 2 none none), (7, .s (.i .i64 p.1))])
    (fun p => [(0, some (.blk [.s (.i .i64 0), .nils])), (1, some (.flat false 2 (edges l))), (2, some (.nest true 1 (rowsI p.2) [] []))]) 3 (0, List.replicate n.toNat []) ⟨by simp, by simpa using UpI.nil n.toNat, by simp⟩ (by refine Weak.by [(0, some _), (1, some _), (2, some _)] (by ((repeat' first | exact rfl | exact trivial | refine And.intro ?_ ?_) <;> (repeat' first | exact rfl | exact trivial | refine And.intro ?_ ?_)); all_goals (simp [rowsI, ints])) (by ((repeat' first | exact rfl | exact trivial | refine And.intro ?_ ?_) <;> (repeat' first | exact rfl | exact trivial | refine And.intro ?_ ?_)); all_goals (simp [rowsI, ints])) (by rfl)) ?_
  rintro ⟨i, U⟩ ⟨hi, hU, hin⟩
  dsimp only at hi hU hin
  refine Pick.by (fun hc => ?_) (fun hc => ?_)
  · have hlt : i < l.length := by simpa [edges_length] using hc
    have hbad : ¬ inR n l[i] → normF n l = ((0, []), 4) := fun h => by
      unfold normF
      rw [if_neg h1, if_neg h2, if_neg fun k => h (k _ (List.getElem_mem hlt))]
    refine Idx.by i rfl (by rw [edges_length]; exact hlt) ?_
    refine Look.by _ (edges_get (List.getElem?_eq_getElem hlt)) ?_
    refine Idx.by i rfl (by rw [edges_length]; exact hlt) ?_
    refine Look.by _ (edges_get (List.getElem?_eq_getElem hlt)) ?_
    refine Pick.by (fun h3 => ?_) (fun h3 => ?_)
    · have h3 : l[i].1 < 0 := by simpa using h3
      have hv := hbad (fun h => by unfold inR at h; omega)
      dsimp only
      rw [hv]
      exact ⟨rfl, rfl, ⟨rfl, ⟨rfl, rfl⟩, trivial⟩, rfl, trivial⟩
    have h3 : ¬ l[i].1 < 0 := by simpa using h3
    refine Pick.by (fun h4 => ?_) (fun h4 => ?_)
    · have h4 : l[i].2 < 0 := by simpa using h4
      have hv := hbad (fun h => by unfold inR at h; omega)
      dsimp only
      rw [hv]
      exact ⟨rfl, rfl, ⟨rfl, ⟨rfl, rfl⟩, trivial⟩, rfl, trivial⟩
    have h4 : ¬ l[i].2 < 0 := by simpa using h4
    refine Pick.by (fun h5 => ?_) (fun h5 => ?_)
    · have h5 : l[i].1 ≥ n := by simpa using h5
      have hv := hbad (fun h => by unfold inR at h; omega)
      dsimp only
      rw [hv]
      exact ⟨rfl, rfl, ⟨rfl, ⟨rfl, rfl⟩, trivial⟩, rfl, trivial⟩
    have h5 : ¬ l[i].1 ≥ n := by simpa using h5
    refine Pick.by (fun h6 => ?_) (fun h6 => ?_)
    · have h6 : l[i].2 ≥ n := by simpa using h6
      have hv := hbad (fun h => by unfold inR at h; omega)
      dsimp only
      rw [hv]
      exact ⟨rfl, rfl, ⟨rfl, ⟨rfl, rfl⟩, trivial⟩, rfl, trivial⟩
    have h6 : ¬ l[i].2 ≥ n := by simpa using h6
    have hok : inR n l[i] := ⟨⟨by omega, by omega⟩, by omega, by omega⟩
    have hin2 := all_take hlt hin hok
    have ht : l.take (i + 1) = l.take i ++ [l[i]] := List.take_succ_eq_append_getElem hlt
    have hlo : 0 ≤ mnI l[i].1 l[i].2 ∧ mnI l[i].1 l[i].2 < n := by unfold mnI; split <;> omega
    have hU0 : (mnI l[i].1 l[i].2).toNat < U.length := by rw [hU.len]; omega
    obtain ⟨r, hr⟩ : ∃ r, U[(mnI l[i].1 l[i].2).toNat]? = some r := ⟨_, List.getElem?_eq_getElem hU0⟩
    have hrl : r.length ≤ 1000000 := by have := hU.ln r (List.mem_of_getElem? hr); rw [List.length_take] at this; omega
    have hix : (mnI l[i].1 l[i].2).toNat < (rowsI U).length := by rw [rowsI_length]; exact hU0
    refine Pick.by (fun h7 => ?_) (fun h7 => ?_)
    · have h7 : l[i].1 ≠ l[i].2 := by simpa using h7
      refine Idx.by (mnI l[i].1 l[i].2).toNat (by show mnI l[i].1 l[i].2 = _; omega) hix ?_
      refine Pick.T (by simpa using hix) ?_
      refine Look.by _ (rowsI_get hr) ?_
      refine Call.by _ _ (InC_at (mxI l[i].1 l[i].2) hrl) ?_
      refine Pick.by (fun h8 => ?_) (fun h8 => ?_)
      · have h8 : ¬ mxI l[i].1 l[i].2 ∈ r := by have h8 : (!r.elem (mxI l[i].1 l[i].2)) = true := h8; simpa using h8
        refine Idx.by (mnI l[i].1 l[i].2).toNat (by show mnI l[i].1 l[i].2 = _; omega) hix ?_
        refine Pick.T (by simpa using hix) ?_
        refine Look.by _ (rowsI_get hr) ?_
        refine Pick.T (by simp [cut, ints_length]; omega) ?_
        refine Idx.by (mnI l[i].1 l[i].2).toNat (by show mnI l[i].1 l[i].2 = _; omega) hix ?_
        refine Pick.T (by simpa using hix) ?_
        refine Pick.T (by simp) ?_
        refine Pick.T (inI64_of (by omega) (by omega)) ?_
        have hP := hU.put h7 (a := (mnI l[i].1 l[i].2).toNat) (by show mnI l[i].1 l[i].2 = _; omega) hr h8
        refine Next.by (i + 1, U.set (mnI l[i].1 l[i].2).toNat (r ++ [mxI l[i].1 l[i].2])) ⟨by omega, by rw [ht]; exact hP, hin2⟩ (by show l.length - (i + 1) < l.length - i; omega) (by refine Weak.by [(0, some _), (1, some _), (2, some _)] (by ((repeat' first | exact rfl | exact trivial | refine And.intro ?_ ?_) <;> (repeat' first | exact rfl | exact trivial | refine And.intro ?_ ?_)); all_goals ((unfold rowsI; rw [List.map_set, ints_snoc]; rfl))) (by ((repeat' first | exact rfl | exact trivial | refine And.intro ?_ ?_) <;> (repeat' first | exact rfl | exact trivial | refine And.intro ?_ ?_)); all_goals ((unfold rowsI; rw [List.map_set, ints_snoc]; rfl))) (by rfl))
      · have h8 : mxI l[i].1 l[i].2 ∈ r := by have h8 : (!r.elem (mxI l[i].1 l[i].2)) = false := h8; simpa using h8
        refine Pick.T (inI64_of (by omega) (by omega)) ?_
        have hP : UpI n.toNat (l.take i ++ [l[i]]) U := hU.skip (fun r' _ hr' _ => by
          have hr' : U[(mnI l[i].1 l[i].2).toNat]? = some r' := hr'
          rw [hr] at hr'
          injection hr' with e
          rw [← e]; exact h8) hlo.1
        refine Next.by (i + 1, U) ⟨by omega, by rw [ht]; exact hP, hin2⟩ (by show l.length - (i + 1) < l.length - i; omega) (by refine Weak.by [(0, some _), (1, some _), (2, some _)] (by ((repeat' first | exact rfl | exact trivial | refine And.intro ?_ ?_) <;> (repeat' first | exact rfl | exact trivial | refine And.intro ?_ ?_))) (by ((repeat' first | exact rfl | exact trivial | refine And.intro ?_ ?_) <;> (repeat' first | exact rfl | exact trivial | refine And.intro ?_ ?_))) (by rfl))
    · have h7 : l[i].1 = l[i].2 := by simpa using h7
      refine Pick.T (inI64_of (by omega) (by omega)) ?_
      have hP : UpI n.toNat (l.take i ++ [l[i]]) U := hU.skip (fun r' h => absurd h7 h) hlo.1
      refine Next.by (i + 1, U) ⟨by omega, by rw [ht]; exact hP, hin2⟩ (by show l.length - (i + 1) < l.length - i; omega) (by refine Weak.by [(0, some _), (1, some _), (2, some _)] (by ((repeat' first | exact rfl | exact trivial | refine And.intro ?_ ?_) <;> (repeat' first | exact rfl | exact trivial | refine And.intro ?_ ?_))) (by ((repeat' first | exact rfl | exact trivial | refine And.intro ?_ ?_) <;> (repeat' first | exact rfl | exact trivial | refine And.intro ?_ ?_))) (by rfl))
  have hge : l.length ≤ i := by simpa [edges_length] using hc
  rw [List.take_of_length_le hge] at hU hin
  have hUr : ∀ r ∈ U, r.length ≤ 1000000 := fun r hr => by have := hU.ln r hr; omega
  have hnorm : accE U n.toNat = normE l := accE_norm hU (fun p hp => by have := hin p hp; unfold inR at this; omega)
  have hval : normF n l = if (normE l).length > 4000 then ((0, []), 5) else ((n, normE l), 0) := by
    unfold normF
    rw [if_neg h1, if_neg h2, if_pos hin]
  refine LoopP.intro (α := Nat) (fun k => k ≤ n.toNat) (fun k => n.toNat - k) (fun k => [(0, .s (.i .i64 n)), (4, .ptr 0 0), (6, .sl 1 none none), (11, .ptr 2 0), (12, .s (.i .i64 k))])
    (fun k => [(0, some (.blk [.s (.i .i64 0), .nils])), (1, some (.nest true 1 (rowsI U) [] [])), (2, some (.blk [.s (.i .i64 n), .sl 3 none none])), (3, some (.flat true 2 (edges (accE U k))))]) 4 0 (by omega) (by refine Weak.by [(0, some _), (1, some _), (2, some _), (3, none)] (by ((repeat' first | exact rfl | exact trivial | refine And.intro ?_ ?_) <;> (repeat' first | exact rfl | exact trivial | refine And.intro ?_ ?_))) (by ((repeat' first | exact rfl | exact trivial | refine And.intro ?_ ?_) <;> (repeat' first | exact rfl | exact trivial | refine And.intro ?_ ?_))) (by rfl)) ?_
  rintro k hk
  have hal := accE_length hUr k
  refine Pick.by (fun hd => ?_) (fun hd => ?_)
  · have hkn : k < n.toNat := by simp at hd; omega
    have hkU : k < U.length := by rw [hU.len]; exact hkn
    have hr : U[k]? = some U[k] := List.getElem?_eq_getElem hkU
    have hrl := hUr _ (List.getElem_mem hkU)
    have hrow : rowE U k = (sortI U[k]).map fun b => ((k : Int), b) := by unfold rowE; rw [List.getD_eq_getElem?_getD, hr]; rfl
    refine Idx.by k rfl (by rw [rowsI_length]; exact hkU) ?_
    refine Pick.T (by simpa [rowsI_length] using hkU) ?_
    refine Look.by _ (rowsI_get hr) ?_
    refine Call.by _ _ (SortedC_at hrl) ?_
    refine LoopP.intro (α := Nat) (fun j => j ≤ (sortI U[k]).length) (fun j => (sortI U[k]).length - j) (fun j => [(0, .s (.i .i64 n)), (4, .ptr 0 0), (6, .sl 1 none none), (11, .ptr 2 0), (12, .s (.i .i64 k)), (13, .sl 4 none none), (14, .s (.i .i64 j))])
      (fun j => [(0, some (.blk [.s (.i .i64 0), .nils])), (1, some (.nest true 1 (rowsI U) [] [])), (2, some (.blk [.s (.i .i64 n), .sl 3 none none])), (3, some (.flat true 2 (edges (accE U k ++ (rowE U k).take j)))), (4, some (.flat true 1 (ints (sortI U[k]))))]) 5 0 (by omega) (by refine Weak.by [(0, some _), (1, some _), (2, some _), (3, some _), (4, some _)] (by ((repeat' first | exact rfl | exact trivial | refine And.intro ?_ ?_) <;> (repeat' first | exact rfl | exact trivial | refine And.intro ?_ ?_)); all_goals (simp)) (by ((repeat' first | exact rfl | exact trivial | refine And.intro ?_ ?_) <;> (repeat' first | exact rfl | exact trivial | refine And.intro ?_ ?_)); all_goals (simp)) (by rfl)) ?_
    rintro j hj
    have hsl : (sortI U[k]).length ≤ 1000000 := by rw [sortI_length]; exact hrl
    refine Pick.by (fun he => ?_) (fun he => ?_)
    · have hjl : j < (sortI U[k]).length := by simpa [ints_length] using he
      have hjr : j < (rowE U k).length := by rw [hrow, List.length_map]; exact hjl
      refine Idx.by j rfl (by rw [ints_length]; exact hjl) ?_
      refine Look.by _ (ints_get (List.getElem?_eq_getElem hjl)) ?_
      refine Pick.T (by simp [cut, edges_length]; omega) ?_
      refine Seg.by (by kernel_rfl) ?_
      refine Pick.T (inI64_of (by omega) (by omega)) ?_
      refine Next.by (j + 1) (by omega) (by omega) (by refine Weak.by [(0, some _), (1, some _), (2, some _), (3, some _), (4, some _)] (by ((repeat' first | exact rfl | exact trivial | refine And.intro ?_ ?_) <;> (repeat' first | exact rfl | exact trivial | refine And.intro ?_ ?_)); all_goals ((rw [List.take_succ_eq_append_getElem hjr, ← List.append_assoc, edges_snoc]; simp [hrow]; rfl))) (by ((repeat' first | exact rfl | exact trivial | refine And.intro ?_ ?_) <;> (repeat' first | exact rfl | exact trivial | refine And.intro ?_ ?_)); all_goals ((rw [List.take_succ_eq_append_getElem hjr, ← List.append_assoc, edges_snoc]; simp [hrow]; rfl))) (by rfl))
    · have hge2 : (sortI U[k]).length ≤ j := by simpa [ints_length] using he
      have ht : (rowE U k).take j = rowE U k := List.take_of_length_le (by rw [hrow, List.length_map]; exact hge2)
      rw [ht, ← accE_succ]
      refine Pick.T (inI64_of (by omega) (by omega)) ?_
      refine Next.by (k + 1) (by omega) (by omega) (by refine Weak.by [(0, some _), (1, some _), (2, some _), (3, some _)] (by ((repeat' first | exact rfl | exact trivial | refine And.intro ?_ ?_) <;> (repeat' first | exact rfl | exact trivial | refine And.intro ?_ ?_))) (by ((repeat' first | exact rfl | exact trivial | refine And.intro ?_ ?_) <;> (repeat' first | exact rfl | exact trivial | refine And.intro ?_ ?_))) (by rfl))
  have hkn : k = n.toNat := by simp at hd; omega
  subst hkn
  rw [hnorm]
  refine Pick.by (fun he => ?_) (fun he => ?_)
  · have he : (normE l).length > 4000 := by simp [edges_length] at he; omega
    have hv : normF n l = ((0, []), 5) := by rw [hval, if_pos he]
    dsimp only
    rw [hv]
    exact ⟨rfl, rfl, ⟨rfl, ⟨rfl, rfl⟩, trivial⟩, rfl, trivial⟩
  · have he : ¬ (normE l).length > 4000 := by simp [edges_length] at he; omega
    have hv : normF n l = ((n, normE l), 0) := by rw [hval, if_neg he]
    dsimp only
    rw [hv]
    exact ⟨rfl, rfl, ⟨rfl, ⟨rfl, rfl⟩, trivial⟩, rfl, trivial⟩
end Go.Sh

set_option linter.unusedVariables false
set_option linter.unusedSimpArgs false
namespace Go.Sh
open Go.Proofs
/-! ### carcanetref03.Any, Of -/
def andI (a b : Int) : Int := IntKind.wrap .i64 ((BitVec.ofInt (IntKind.bits .i64) a &&& BitVec.ofInt (IntKind.bits .i64) b).toNat : Int)
def low (a : Int) : Int := andI a 65535
theorem low_range (a : Int) : 0 ≤ low a ∧ low a ≤ 65535 := by
  unfold low andI
  have h : (BitVec.ofInt (IntKind.bits .i64) a &&& BitVec.ofInt (IntKind.bits .i64) 65535).toNat ≤ 65535 := by
    rw [BitVec.toNat_and]
    refine Nat.le_trans Nat.and_le_right ?_
    decide
  generalize (BitVec.ofInt (IntKind.bits .i64) a &&& BitVec.ofInt (IntKind.bits .i64) 65535).toNat = m at h
  have : IntKind.wrap .i64 (m : Int) = m := by
    have e : (m : Int) % 2 ^ 64 = m := by omega
    simp only [IntKind.wrap, IntKind.bits, IntKind.signed]
    refine (if_neg fun h => ?_).trans e
    simp at h
    omega
  rw [this]
  omega
def anyN (n most : Int) : Int := (low n).tmod (most + 1)
def anyP (m : Int) (p : Ed) : Ed := ((low p.1).tmod m, (low p.2).tmod m)
def anyL (m : Int) (l : List Ed) : List Ed := if m > 0 then (l.take 300).map (anyP m) else []
def anyE (n : Int) (l : List Ed) (most : Int) : List Ed := normE (anyL (anyN n most) l)
theorem tmod_range {a m : Int} (h : 0 ≤ a) (hm : 0 < m) : 0 ≤ a.tmod m ∧ a.tmod m < m := ⟨Int.tmod_nonneg m h, Int.tmod_lt_of_pos a hm⟩
theorem anyN_range {n most : Int} (h : 0 ≤ most) : 0 ≤ anyN n most ∧ anyN n most ≤ most := by
  have := tmod_range (low_range n).1 (show 0 < most + 1 by omega)
  unfold anyN
  omega
theorem anyL_inR (m : Int) (l : List Ed) : ∀ p ∈ anyL m l, inR m p := by
  unfold anyL
  split
  · rename_i h
    intro p hp
    obtain ⟨q, _, rfl⟩ := List.mem_map.1 hp
    exact ⟨tmod_range (low_range q.1).1 h, tmod_range (low_range q.2).1 h⟩
  · simp
theorem anyL_length (m : Int) (l : List Ed) : (anyL m l).length ≤ 300 := by
  unfold anyL
  split
  · simp; omega
  · simp
theorem any_norm {n most : Int} {l : List Ed} (h : 0 ≤ most) (h2 : most ≤ 1000) : normF (anyN n most) (anyL (anyN n most) l) = ((anyN n most, anyE n l most), 0) := by
  have hr := anyN_range (n := n) h
  have hl := Nat.le_trans (normE_length (anyL (anyN n most) l)) (anyL_length (anyN n most) l)
  unfold normF
  rw [if_neg (by omega), if_neg (by omega), if_pos (anyL_inR _ _), if_neg (by omega)]
  rfl
theorem any_right {n most : Int} {l : List Ed} (h : 0 ≤ most) (h2 : most ≤ 1000) : RightP (anyN n most) (anyE n l most) := by
  have hr := anyN_range (n := n) h
  have hl := Nat.le_trans (normE_length (anyL (anyN n most) l)) (anyL_length (anyN n most) l)
  exact ⟨hr.1, by omega, by unfold anyE; omega, normE_ok (anyL_inR _ _), normE_sorted _⟩
noncomputable def AnyC : Con := conP 3 (fun a : (Int × List Ed) × Int => 0 ≤ a.2 ∧ a.2 ≤ 1000) (fun a => [.one (.s (.i .i64 a.1.1)), .one (.flat false 2 (edges a.1.2)), .one (.s (.i .i64 a.2))]) (fun a => grO (anyN a.1.1 a.2) (anyE a.1.1 a.1.2 a.2))
theorem AnyC_at (n : Int) (l : List Ed) {most : Int} (h : 0 ≤ most ∧ most ≤ 1000) : AnyC.F [.one (.s (.i .i64 n)), .one (.flat false 2 (edges l)), .one (.s (.i .i64 most))] = some (grO (anyN n most) (anyE n l most), []) :=
  conP_at (a := ((n, l), most)) (fun a b _ _ h => by
    obtain ⟨⟨n, l⟩, m⟩ := a
    obtain ⟨⟨n', l'⟩, m'⟩ := b
    simp at h
    obtain ⟨h1, h2, h3⟩ := h
    subst h1; subst h3
    rw [edges_inj h2]) h
set_option maxRecDepth 20000 in
set_option maxHeartbeats 1000000 in
theorem Any_ok : SoundC Try.prog T 38 AnyC := by
  refine sound_con (X := { Γ := [(68, NormC)], T := T, nt := 57 }) cr_none hmix hT (sound_cons Norm3_ok sound_nil) Try.func38 (by rfl) (by rfl) (by rfl) (by rfl) 3 ?_
  rintro ⟨⟨n, l⟩, most⟩ ⟨hm0, hm1⟩
  dsimp only at hm0 hm1
  dsimp only
  refine ⟨⟨Nat.le_of_ble_eq_true rfl, Nat.le_of_ble_eq_true rfl⟩, ?_⟩
  have hr := anyN_range (n := n) hm0
  refine Pick.T (inI64_of (by omega) (by omega)) ?_
  refine Pick.F (by simp; omega) ?_
  obtain ⟨m, hm⟩ : ∃ m, anyN n most = m := ⟨_, rfl⟩
  have hE : anyE n l most = normE (anyL m l) := by unfold anyE; rw [hm]
  have hnf := any_norm (n := n) (l := l) hm0 hm1
  rw [hm] at hr hnf
  refine LoopP.intro (α := Nat) (fun k => k ≤ l.length ∧ k ≤ 300 ∧ (0 < k → 0 < m)) (fun k => l.length - k) (fun k => [(0, .s (.i .i64 (m))), (1, .sl 1 none none), (6, .ptr 0 0), (7, .sl 2 none none), (8, .s (.i .i64 k))])
    (fun k => [(0, some (.blk [.s (.i .i64 0), .nils])), (1, some (.flat false 2 (edges l))), (2, some (.flat true 2 (edges ((l.take k).map (anyP (m))))))]) 3 0 ⟨by omega, by omega, by omega⟩ (by refine Weak.by [(0, some _), (1, some _), (2, none)] (by ((repeat' first | exact rfl | exact trivial | refine And.intro ?_ ?_) <;> (repeat' first | exact rfl | exact trivial | refine And.intro ?_ ?_)); all_goals (exact sc_eq hm.symm)) (by ((repeat' first | exact rfl | exact trivial | refine And.intro ?_ ?_) <;> (repeat' first | exact rfl | exact trivial | refine And.intro ?_ ?_)); all_goals (exact sc_eq hm.symm)) (by rfl)) ?_
  rintro k ⟨hk, hk3, hk0⟩
  have hlen : (edges ((l.take k).map (anyP (m)))).length = k := by rw [edges_length]; simp; omega
  have fin : k = l.length ∨ k = 300 ∨ m ≤ 0 → (l.take k).map (anyP (m)) = anyL (m) l := by
    intro h
    unfold anyL
    split
    · rename_i hp
      rcases h with h | h | h
      · rw [List.take_of_length_le (by omega : l.length ≤ k), List.take_of_length_le (by omega : l.length ≤ 300)]
      · rw [h]
      · omega
    · have : k = 0 := by omega
      subst this; simp
  have endd : (l.take k).map (anyP (m)) = anyL (m) l → NormC.F [.one (.s (.i .i64 (m))), .one (.flat false 2 (edges ((l.take k).map (anyP (m)))))] = some (.tup [grO (m) (anyE n l most), .one (.s (.i .i64 0))], []) := by
    intro h
    have := NormC_at (n := m) (l := (l.take k).map (anyP (m))) (by rw [← edges_length, hlen]; omega)
    rw [this, h, hnf]
  refine Pick.by (fun hc => ?_) (fun hc => ?_)
  · have hlt : k < l.length := by simpa [edges_length] using hc
    refine Pick.by (fun hd => ?_) (fun hd => ?_)
    · have hd : k < 300 := by simp at hd; omega
      refine Pick.by (fun he => ?_) (fun he => ?_)
      · have he : 0 < m := by simpa using he
        refine Idx.by k rfl (by rw [edges_length]; exact hlt) ?_
        refine Look.by _ (edges_get (List.getElem?_eq_getElem hlt)) ?_
        refine Pick.F (by simp; omega) ?_
        refine Idx.by k rfl (by rw [edges_length]; exact hlt) ?_
        refine Look.by _ (edges_get (List.getElem?_eq_getElem hlt)) ?_
        refine Pick.F (by simp; omega) ?_
        refine Pick.T (by rw [cut, hlen]; simp; omega) ?_
        refine Seg.by (by kernel_rfl) ?_
        refine Pick.T (inI64_of (by omega) (by omega)) ?_
        refine Next.by (k + 1) ⟨by omega, by omega, fun _ => he⟩ (by omega) (by refine Weak.by [(0, some _), (1, some _), (2, some _)] (by ((repeat' first | exact rfl | exact trivial | refine And.intro ?_ ?_) <;> (repeat' first | exact rfl | exact trivial | refine And.intro ?_ ?_)); all_goals ((rw [take_snoc _ hlt, edges_snoc]; rfl))) (by ((repeat' first | exact rfl | exact trivial | refine And.intro ?_ ?_) <;> (repeat' first | exact rfl | exact trivial | refine And.intro ?_ ?_)); all_goals ((rw [take_snoc _ hlt, edges_snoc]; rfl))) (by rfl))
      · have he : m ≤ 0 := by simpa using he
        refine Call.by _ _ (endd (fin (.inr (.inr he)))) ?_
        exact ⟨rfl, sc_eq hm.symm, ⟨rfl, rfl⟩, trivial⟩
    · have hd : k = 300 := by simp at hd; omega
      refine Call.by _ _ (endd (fin (.inr (.inl hd)))) ?_
      exact ⟨rfl, sc_eq hm.symm, ⟨rfl, rfl⟩, trivial⟩
  · have hge : l.length ≤ k := by simpa [edges_length] using hc
    refine Call.by _ _ (endd (fin (.inl (by omega)))) ?_
    exact ⟨rfl, sc_eq hm.symm, ⟨rfl, rfl⟩, trivial⟩
noncomputable def OfC : Con := conP 2 (fun a : (Int × List Ed) × Int => 0 ≤ a.2 ∧ a.2 ≤ 1000) (fun a => [grV a.1.1 a.1.2, .one (.s (.i .i64 a.2))]) (fun a => grO (anyN a.1.1 a.2) (anyE a.1.1 a.1.2 a.2))
theorem OfC_at (n : Int) (l : List Ed) {most : Int} (h : 0 ≤ most ∧ most ≤ 1000) : OfC.F [grV n l, .one (.s (.i .i64 most))] = some (grO (anyN n most) (anyE n l most), []) :=
  conP_at (a := ((n, l), most)) (fun a b _ _ h => by
    obtain ⟨⟨n, l⟩, m⟩ := a
    obtain ⟨⟨n', l'⟩, m'⟩ := b
    simp at h
    obtain ⟨h1, h3⟩ := h
    obtain ⟨rfl, rfl⟩ := grV_inj h1
    subst h3
    rfl) h
theorem Of_ok : SoundC Try.prog T 16 OfC := by
  refine sound_con (X := { Γ := [(38, AnyC)], T := T, nt := 11 }) cr_none hmix hT (sound_cons Any_ok sound_nil) Try.func16 (by rfl) (by rfl) (by rfl) (by rfl) 3 ?_
  rintro ⟨⟨n, l⟩, most⟩ hm
  dsimp only at hm
  refine ⟨⟨Nat.le_of_ble_eq_true rfl, Nat.le_of_ble_eq_true rfl⟩, ?_⟩
  refine Call.by _ _ (AnyC_at n l hm) ?_
  exact ⟨rfl, rfl, ⟨rfl, rfl⟩, trivial⟩
/-! ### SameEdges, SameGraph -/
/-! ### Near -/
end Go.Sh

set_option linter.unusedVariables false
set_option linter.unusedSimpArgs false
namespace Go.Sh
open Go.Proofs
/-! ### carcanetref05.Unlike -/
/-! ### carcanetref05.Whole -/
theorem nodup_len {l : List Int} : ∀ {m : List Int}, l.Nodup → (∀ x ∈ l, x ∈ m) → l.length ≤ m.length := by
  induction l with
  | nil => intro m _ _; simp
  | cons x l ih =>
    intro m h s
    rw [List.nodup_cons] at h
    have hx := s x (by simp)
    have := ih (m := m.erase x) h.2 fun y hy => (List.mem_erase_of_ne (fun (e : y = x) => h.1 (by rw [← e]; exact hy))).2 (s y (by simp [hy]))
    rw [List.length_erase_of_mem hx] at this
    have := List.length_pos_of_mem hx
    simp; omega
theorem nodup_all {l m : List Int} (h : l.Nodup) (s : ∀ x ∈ l, x ∈ m) (hl : m.length ≤ l.length) : ∀ x ∈ m, x ∈ l := by
  intro x hx
  by_cases hxl : x ∈ l
  · exact hxl
  · have := nodup_len (l := x :: l) (m := m) (List.nodup_cons.2 ⟨hxl, h⟩) fun y hy => by
      rcases List.mem_cons.1 hy with rfl | hy
      · exact hx
      · exact s y hy
    simp at this
    omega
structure GI (E : List Ed) (l got : List Int) : Prop where
  nd : got.Nodup
  sub : ∀ v ∈ got, v ∈ l
  rch : ∀ v ∈ got, Rch E l (l.headD 0) v
  head : l.headD 0 ∈ got
theorem GI.length {E : List Ed} {l got : List Int} (h : GI E l got) : got.length ≤ l.length := nodup_len h.nd h.sub
theorem GI.put {E : List Ed} {l got : List Int} (h : GI E l got) {u v : Int} (hu : u ∈ got) (ha : adjE E u v) (hv : v ∈ l) (hn : v ∉ got) : GI E l (got ++ [v]) := by
  refine ⟨?_, fun x hx => ?_, fun x hx => ?_, List.mem_append_left _ h.head⟩
  · rw [List.nodup_append]
    refine ⟨h.nd, by simp, fun a ha' b hb e => ?_⟩
    simp at hb
    subst hb; subst e
    exact hn ha'
  · rcases List.mem_append.1 hx with hx | hx
    · exact h.sub x hx
    · simp at hx; subst hx; exact hv
  · rcases List.mem_append.1 hx with hx | hx
    · exact h.rch x hx
    · simp at hx; subst hx; exact .step (h.rch u hu) ha hv
theorem GI.done {E : List Ed} {l got : List Int} (h : GI E l got) (hnd : l.Nodup) (hc : ∀ u ∈ got, ∀ v, adjE E u v → v ∈ l → v ∈ got) : got.length = l.length ↔ Conn E l := by
  constructor
  · intro hl v hv
    exact h.rch v (nodup_all h.nd h.sub (by omega) v hv)
  · intro hC
    have key : ∀ v, Rch E l (l.headD 0) v → v ∈ got := by
      intro v hr
      induction hr with
      | base => exact h.head
      | step _ ha hv ih => exact hc _ ih _ ha hv
    have := nodup_len hnd fun v hv => key v (hC v hv)
    have := h.length
    omega
end Go.Sh

namespace Go.Proofs
open Go.RowKit Go.Shelf

attribute [local go_sem] Oper.semAt_some

def Try.upto {α : Type} (f : Nat → α) (k : Nat) : List α := (List.range k).map f
theorem Try.upto_succ {α : Type} (f : Nat → α) (k : Nat) : Try.upto f (k + 1) = Try.upto f k ++ [f k] := by simp [Try.upto, List.range_succ]
theorem Try.upto_length {α : Type} (f : Nat → α) (k : Nat) : (Try.upto f k).length = k := by simp [Try.upto]
theorem Try.upto_all (zs : List Int) : Try.upto (fun j => zs[j]?.getD 0) zs.length = zs := by
  apply List.ext_getElem
  · simp [Try.upto]
  · intro i h1 h2
    simp [Try.upto, h2]
theorem Try.upto_take (zs : List Int) {k : Nat} (hk : k ≤ zs.length) : Try.upto (fun j => zs[j]?.getD 0) k = zs.take k := by
  apply List.ext_getElem
  · simp [Try.upto, hk]
  · intro i h1 h2
    have : i < zs.length := by simp [Try.upto] at h1; omega
    simp [Try.upto, this]

set_option maxRecDepth 100000 in
set_option maxHeartbeats 2000000 in
theorem Try.values1_in (F : Fence) (n : Nat) (h7 : F.fn 123) (hro : F.round = none) (hn : 1 ≤ n) (l Bs n₀ len cap : Nat) (a : Addr) (zs : List Int) (hreach : len * 8 ≤ 140737488351232) (hb : a.block < n₀) (J Jx : List Int → World → Prop)
    (hY : ∀ pre x W, J pre W → pre.length < len → YieldAt F (n - 1) Try.prog l #[.int .i64 x] W fun e W' =>
      (e = .returned (.bool true) ∧ J (pre ++ [x]) W' ∧ Below n₀ W W') ∨ (e = .returned (.bool false) ∧ Jx (pre ++ [x]) W'))
    (W : World) (hBs : W.cell? ⟨Bs, 0, none⟩ = some (.slice (some a) len cap)) (hc : ∀ j, j < len → W.cell? (a.add j) = some (.int .i64 (zs[j]?.getD 0))) (h0 : J [] W) :
    CallsIn F n Try.prog 123 #[.func (.yield l) #[] #[], .pointer (some ⟨Bs, 0, none⟩)] W fun e W' => (∃ v, e = .returned v) ∧
      ((∃ ys, ys = Try.upto (fun j => zs[j]?.getD 0) len ∧ J ys W') ∨ (∃ pre, (∃ k, k ≤ len ∧ pre = Try.upto (fun j => zs[j]?.getD 0) k) ∧ Jx pre W')) := by
  refine callsIn_of_wp Try.func123 rfl h7 ?_ hro
  simp only [Try.ntmps123, List.size_toArray, List.length_cons, List.length_nil, Nat.reduceAdd, Nat.reduceSub, Array.replicate_succ, Array.replicate_zero, List.push_toArray, List.append_toArray, List.nil_append, List.cons_append]
  gi_wp2
  gi_loopw [7] (fun i wr => ∃ k : Nat, k ≤ len ∧ i = .int .i64 k ∧ J (Try.upto (fun j => zs[j]?.getD 0) k) wr ∧ Below n₀ W wr)
    (fun i _ => len - (intOf i).toNat)
  case atStart => exact ⟨0, Nat.zero_le _, rfl, h0, Below.refl _ _⟩
  case round =>
    obtain ⟨k, hk, rfl, hJs, hnx⟩ := hrel
    have hcx : k < len → wr.cell? (a.add k) = some (.int .i64 (zs[k]?.getD 0)) := fun h => (hnx.cell (p := a.add k) (by unfold Addr.add; split <;> exact hb)).trans (hc k h)
    by_cases hlt : k < len
    · obtain ⟨fn, tmps, assign, body, hy, hR⟩ := hY _ (zs[k]?.getD 0) wr hJs (by rw [Try.upto_length]; exact hlt)
      have hcx' := hcx hlt
      gi_wp2
      refine hR.mono ?_
      rintro e W3 (⟨rfl, hJ3, hk3⟩ | ⟨rfl, hJx3⟩)
      · gi_wp2
        go_roundw
        case rel => exact ⟨k + 1, by omega, by simp, by rw [Try.upto_succ]; exact hJ3, hnx.trans hk3⟩
        case measure => simp [intOf]; omega
      · gi_wp2
        refine bodyPost_ret (results_none rfl _ _ _) rfl ?_
        exact ⟨⟨_, rfl⟩, .inr ⟨_, ⟨k + 1, by omega, (Try.upto_succ _ _).symm⟩, hJx3⟩⟩
    · obtain rfl : k = len := by omega
      gi_wp2
      go_end0
      exact ⟨⟨_, rfl⟩, .inl ⟨_, rfl, hJs⟩⟩
set_option maxRecDepth 100000 in
set_option maxHeartbeats 1000000 in
theorem Try.values1_nil_in (F : Fence) (n : Nat) (h7 : F.fn 123) (hro : F.round = none) (l Bs : Nat) (a : Option Addr) (cap : Nat) (J : List Int → World → Prop) (W : World) (hBs : W.cell? ⟨Bs, 0, none⟩ = some (.slice a 0 cap)) (h0 : J [] W) :
    CallsIn F n Try.prog 123 #[.func (.yield l) #[] #[], .pointer (some ⟨Bs, 0, none⟩)] W fun e W' => (∃ v, e = .returned v) ∧ J [] W' := by
  refine callsIn_of_wp Try.func123 rfl h7 ?_ hro
  simp only [Try.ntmps123, List.size_toArray, List.length_cons, List.length_nil, Nat.reduceAdd, Nat.reduceSub, Array.replicate_succ, Array.replicate_zero, List.push_toArray, List.append_toArray, List.nil_append, List.cons_append]
  gi_wp2
  gi_loopw [7] (fun i wr => i = .int .i64 0 ∧ J [] wr) (fun _ _ => 0)
  case atStart => exact ⟨rfl, h0⟩
  case round =>
    obtain ⟨rfl, hJs⟩ := hrel
    gi_wp2
    go_end0
    exact ⟨⟨_, rfl⟩, hJs⟩

set_option maxHeartbeats 1000000 in
theorem Try.values_in (F : Fence) (n : Nat) (h5 : F.fn 104) (hro : F.round = none) (a : Option Addr) (len cap : Nat) (w : World) :
    CallsIn F n Try.prog 104 #[.slice a len cap] w fun e w' => e = .returned (.func (.func 123) #[] #[.pointer (some ⟨w.heap.size, 0, none⟩)]) ∧ w' = w.alloc (.cells #[.slice a len cap] 29) := by
  refine callsIn_of_wp Try.func104 rfl h5 ?_ hro
  simp only [Try.ntmps104, List.size_toArray, List.length_cons, List.length_nil, Nat.reduceAdd, Nat.reduceSub, Array.replicate_succ, Array.replicate_zero, List.push_toArray, List.append_toArray, List.nil_append, List.cons_append]
  gi_wp2
  go_ret
  exact ⟨rfl, rfl⟩
def Try.Ints (n₀ : Nat) (W : World) (sv : Value) (zs : List Int) : Prop :=
  (zs = [] ∧ ∃ a cap, sv = .slice a 0 cap) ∨ ∃ a cap, sv = .slice (some a) zs.length cap ∧ a.block < n₀ ∧ ∀ j, j < zs.length → W.cell? (a.add j) = some (.int .i64 (zs[j]?.getD 0))
theorem Try.add_block (a : Addr) (j : Nat) : (a.add j).block = a.block := by unfold Addr.add; split <;> rfl
theorem Try.Ints.below {n₀ : Nat} {A B : World} (h : Below n₀ A B) {sv : Value} {zs : List Int} : Try.Ints n₀ A sv zs → Try.Ints n₀ B sv zs
  | .inl e => .inl e
  | .inr ⟨a, cap, e, hb, hc⟩ => .inr ⟨a, cap, e, hb, fun j hj => (h.cell (p := a.add j) (by rw [Try.add_block]; exact hb)).trans (hc j hj)⟩
theorem Try.values_stops (F : Fence) (n : Nat) (h7 : F.fn 123) (hro : F.round = none) (hn : 1 ≤ n) (Bs n₀ : Nat) (sv : Value) (zs : List Int) (hreach : zs.length * 8 ≤ 140737488351232) (w : World) (hBs : Bs < w.heap.size) (hn₀ : n₀ ≤ w.heap.size)
    (hc : w.cell? ⟨Bs, 0, none⟩ = some sv) (hI : Try.Ints n₀ w sv zs) :
    SeqStopsK F n Try.prog 123 #[.pointer (some ⟨Bs, 0, none⟩)] (fun x : Int => #[Value.int .i64 x]) (Below n₀) (fun ys => ys = zs) (fun pre => pre <+: zs) zs.length w := fun l J Jx W hW _ _ hY h0 => by
  have hc' := (hW.cell (p := ⟨Bs, 0, none⟩) hBs).trans hc
  rcases hI.below (hW.mono hn₀) with ⟨rfl, a, cap, rfl⟩ | ⟨a, cap, rfl, hb, hcs⟩
  · exact (Try.values1_nil_in F n h7 hro l Bs a cap J W hc' h0).mono fun e W' ⟨he, hj⟩ => ⟨he, .inl ⟨_, rfl, hj⟩⟩
  · refine (Try.values1_in F n h7 hro hn l Bs n₀ zs.length cap a zs hreach hb J Jx hY W hc' hcs h0).mono ?_
    rintro e W' ⟨he, ⟨ys, rfl, hj⟩ | ⟨pre, ⟨k, hk, rfl⟩, hj⟩⟩
    · exact ⟨he, .inl ⟨_, Try.upto_all zs, hj⟩⟩
    · exact ⟨he, .inr ⟨_, by rw [Try.upto_take zs hk]; exact List.take_prefix _ _, hj⟩⟩
end Go.Proofs

namespace Go.Proofs
open Go.RowKit Go.Shelf

attribute [local go_sem] Oper.semAt_some
theorem Try.info3 : (Try.prog.info? 3).map (fun i => (i.zero, i.size, i.bytes)) = some (some (.int .i64 0), 1, 8) := by kernel_rfl
set_option maxRecDepth 100000 in
set_option maxHeartbeats 2000000 in
theorem Try.appendSeq_in (F : Fence) (n : Nat) (h116 : F.fn 139) (h103 : F.fn 123) (hro : F.round = none) (hn : 3 ≤ n) (Bs n₀ : Nat) (sv : Value) (zs : List Int) (hlen : zs.length ≤ maxLen) (hreach : zs.length * 8 ≤ 140737488351232) (w : World) (hBs : Bs < w.heap.size) (hn₀ : n₀ ≤ w.heap.size)
    (hc : w.cell? ⟨Bs, 0, none⟩ = some sv) (hI : Try.Ints n₀ w sv zs) :
    CallsIn F n Try.prog 139 #[.slice none 0 0, .func (.func 123) #[] #[.pointer (some ⟨Bs, 0, none⟩)]] w fun e W' => ∃ v, e = .returned v ∧ W'.ownsRow w.heap.size 3 1 v zs.length (zs.map (Value.int .i64)) ∧ (v = .slice none 0 0 ↔ zs = []) ∧ Below w.heap.size w W' := by
  have h1 : 1 ≤ n := by omega
  obtain ⟨i0, hi, hz0, hz1, hz2⟩ := info_parts Try.info3
  refine callsIn_of_wp_marks Try.func139 rfl h116 ?_ hro
  simp only [Try.ntmps139, List.size_toArray, List.length_cons, List.length_nil, Nat.reduceAdd, Nat.reduceSub, Array.replicate_succ, Array.replicate_zero, List.push_toArray, List.append_toArray, List.nil_append, List.cons_append]
  gi_wp2
  have bO := Boxed.new w 29 (.slice none 0 0)
  have hB0 : Below w.heap.size w (w.alloc (.cells #[.slice none 0 0] 29)) := ((Below.refl _ w).alloc (Nat.le_refl _) _)
  refine wpIn_rangeFunc_ownG hro h1 (gf := 123) (lb := #[.pointer (some ⟨Bs, 0, none⟩)]) rfl h103 (enters_of Try.func123 (by kernel_rfl) rfl)
    (Try.values_stops F (n - 1) h103 hro (by omega) Bs w.heap.size _ zs hreach _ (by simp; omega) (by simp) ((hB0.cell (p := ⟨Bs, 0, none⟩) hBs).trans hc) (by
      rcases hI.below (hB0.mono hn₀) with h | ⟨a, cap, e, hb, hcs⟩
      · exact .inl h
      · exact .inr ⟨a, cap, e, by omega, hcs⟩)) belowK_t (belowK_b (by simp)) (Below.refl _ _) (fun _ => rfl)
    (fun pre W => (∃ v, Boxed W w.heap.size 29 v ∧ W.ownsRow w.heap.size 3 1 v pre.length (pre.map (Value.int .i64)) ∧ (v = .slice none 0 0 ↔ pre = [])) ∧ Below w.heap.size w W)
    (fun _ _ _ => False)
    (OwnFrom.and (Own.from (holdsRow_own w.heap.size w.heap.size 29 3 1 (fun pre : List Int => pre.length) (fun pre => pre.map (Value.int .i64)) (fun pre v => v = .slice none 0 0 ↔ pre = [])) _) (ownFrom_below (Nat.le_refl _) (by simp)))
    (fun _ _ _ _ _ hs _ _ => hs)
    ⟨⟨_, bO, World.ownsRow_nil _ _ _ _, by simp⟩, hB0⟩
    (fun x => { tmps := #[.slice none 0 0, .func (.func 123) #[] #[.pointer (some ⟨Bs, 0, none⟩)], .pointer (some ⟨w.heap.size, 0, none⟩), undef, .slice none 0 0, .int .i64 x, .func (.func 123) #[] #[.pointer (some ⟨Bs, 0, none⟩)], .int .i64 x, undef, undef, undef, undef, undef], defers := [] }) ?assign ?body ?done ?stop
  case assign =>
    intro l x W K hK
    gi_wp2
    exact hK
  case body =>
    rintro l pre x W ⟨⟨v, hv, hrow, hnil⟩, hB⟩ hlt
    have hc := hv.cell
    gi_wp2_with (gi_at_builtin; refine wpListIn_append_own _ rfl _ _ 29 rfl w.heap.size 3 i0 (.int .i64 0) 1 8 Try.underlying29 hi hz0 hz1 hz2 rfl (by decide) _ _ _ rfl (hrow.alloc _) ⟨W.heap.size, 0, none⟩ 1 1 [.int .i64 x] rfl rfl (cell_one_new _ _ _) (by simp [Value.oneCell']) (by omega) (by omega) (by have := hB.size; simp; omega) ?_; intro v' w1 hown' hgrow _; obtain ⟨g', cap', rfl⟩ := ownsRow_succ hown'; obtain ⟨hv1, hv2, hr2, hk2, hb2⟩ := hv.appended (by decide) hrow hB.size (Nat.le_refl _) hown' hgrow; have hc1 := hv1.cell; have hf1 := hv1.frozen)
    exact ⟨hk2.from _, hb2, ⟨_, hv2, by simpa using hr2, by simp⟩, hB.trans hb2⟩
  case done =>
    rintro D ys W hD rfl ⟨⟨v, hv, hrow, hnil⟩, hB⟩ hK
    have hc := hv.cell
    gi_wp2
    refine ⟨by simp, .inl ⟨_, _, rfl, run_takeDeferred hK, ?_⟩⟩
    exact ⟨_, results_tmp rfl _ _ _, v, rfl, ownsRow_putObj hrow _ hK rfl, hnil, hB.trans (belowK_b (w := w) (Nat.le_refl _) W D _ _ (by simp at hD; omega) hK rfl rfl)⟩
  case stop =>
    rintro D c pre W _ _ h _
    exact h.elim
end Go.Proofs

namespace Go.Proofs
open Go.RowKit Go.Shelf Go.Maps Go.Sort

attribute [local go_sem] Oper.semAt_some
set_option maxRecDepth 100000 in
set_option maxHeartbeats 2000000 in
theorem Try.collect_in (F : Fence) (n : Nat) (h102 : F.fn 122) (h116 : F.fn 139) (h103 : F.fn 123) (hro : F.round = none) (hn : 4 ≤ n) (Bs n₀ : Nat) (sv : Value) (zs : List Int) (hlen : zs.length ≤ maxLen) (hreach : zs.length * 8 ≤ 140737488351232) (w : World) (hBs : Bs < w.heap.size) (hn₀ : n₀ ≤ w.heap.size)
    (hc : w.cell? ⟨Bs, 0, none⟩ = some sv) (hI : Try.Ints n₀ w sv zs) :
    CallsIn F n Try.prog 122 #[.func (.func 123) #[] #[.pointer (some ⟨Bs, 0, none⟩)]] w fun e W' => ∃ v, e = .returned v ∧ W'.ownsRow w.heap.size 3 1 v zs.length (zs.map (Value.int .i64)) ∧ (v = .slice none 0 0 ↔ zs = []) ∧ Below w.heap.size w W' := by
  have h1 : 1 ≤ n := by omega
  refine callsIn_of_wp Try.func122 rfl h102 ?_ hro
  simp only [Try.ntmps122, List.size_toArray, List.length_cons, List.length_nil, Nat.reduceAdd, Nat.reduceSub, Array.replicate_succ, Array.replicate_zero, List.push_toArray, List.append_toArray, List.nil_append, List.cons_append]
  gi_wp2_with (gi_at_call 139; refine (Try.appendSeq_in F (n - 1) h116 h103 hro (by omega) Bs n₀ sv zs hlen hreach w hBs hn₀ hc hI).mono ?_; rintro e w' ⟨v, rfl, hrow, hnil, hB⟩)
  go_ret
  exact ⟨v, rfl, hrow, hnil, hB⟩
def Try.SortsIn (F : Fence) (m : Nat) : Prop :=
  (∀ (blk off cap : Nat) (ss : List Int) (W : World), Holds (Value.int .i64) W blk off ss.toArray → blk < W.heap.size → ss.length < 4611686018427387904 →
    CallsIn F m Try.prog 77 #[.slice (some ⟨blk, off, none⟩) ss.length cap] W fun e w' => e = .returned (.tuple #[]) ∧ ∃ k os, w' = grow (putRow (Value.int .i64) (Sort.ahead W k) blk off (ss.mergeSort fun x y => decide (x ≤ y)).toArray) os) ∧
  (∀ (p : Option Addr) (cap : Nat) (W : World), CallsIn F m Try.prog 77 #[.slice p 0 cap] W fun e w' => e = .returned (.tuple #[]) ∧ w' = W)
theorem Try.sortsIn (m : Nat) : Try.SortsIn Fence.wide m :=
  ⟨fun blk off cap ss W h1 h2 h3 => callsIn_wide.2 (Any.slices_Sort_int Try.laysSort blk off cap ss W h1 h2 h3), fun p cap W => callsIn_wide.2 (Any.slices_Sort_int_none Try.laysSort p cap W)⟩
set_option maxRecDepth 100000 in
set_option maxHeartbeats 2000000 in
theorem Try.sorted_in (F : Fence) (n : Nat) (h92 : F.fn 103) (h84 : F.fn 77) (h102 : F.fn 122) (h116 : F.fn 139) (h103 : F.fn 123) (hro : F.round = none) (hn : 5 ≤ n) (hsort : Try.SortsIn F (n - 1)) (Bs n₀ : Nat) (sv : Value) (zs : List Int) (hlen : zs.length ≤ maxLen) (hreach : zs.length * 8 ≤ 140737488351232) (w : World) (hBs : Bs < w.heap.size) (hn₀ : n₀ ≤ w.heap.size)
    (hc : w.cell? ⟨Bs, 0, none⟩ = some sv) (hI : Try.Ints n₀ w sv zs) :
    CallsIn F n Try.prog 103 #[.func (.func 123) #[] #[.pointer (some ⟨Bs, 0, none⟩)]] w fun e W' => ∃ v, e = .returned v ∧ W'.ownsRow w.heap.size 3 1 v zs.length ((zs.mergeSort (fun x y => decide (x ≤ y))).map (Value.int .i64)) ∧ (v = .slice none 0 0 ↔ zs = []) ∧ Below w.heap.size w W' := by
  have h1 : 1 ≤ n := by omega
  refine callsIn_of_wp Try.func103 rfl h92 ?_ hro
  simp only [Try.ntmps103, List.size_toArray, List.length_cons, List.length_nil, Nat.reduceAdd, Nat.reduceSub, Array.replicate_succ, Array.replicate_zero, List.push_toArray, List.append_toArray, List.nil_append, List.cons_append]
  gi_wp2_with (gi_at_call 122; refine (Try.collect_in F (n - 1) h102 h116 h103 hro (by omega) Bs n₀ sv zs hlen hreach w hBs hn₀ hc hI).mono ?_; rintro e W ⟨v, rfl, hrow, hnil, hb⟩)
  rcases hrow.2 with ⟨rfl, hz⟩ | ⟨gb, cap, cur, rfl, hbase, hgb, r1, r2, r3, r4⟩
  · have hss : zs = [] := List.eq_nil_of_length_eq_zero hz
    subst hss
    gi_wp2_with (gi_at_call 77; refine (hsort.2 none 0 W).mono ?_; rintro e w' ⟨rfl, rfl⟩)
    go_ret
    exact ⟨.slice none 0 0, rfl, by simpa using hrow, by simp, hb⟩
  · have hH : Holds (Value.int .i64) W gb 0 zs.toArray := holds_of_block_i hgb (by simpa using r4)
    have hgl : gb < W.heap.size := (Array.getElem?_eq_some_iff.1 hgb).1
    have hsz : zs.length < 4611686018427387904 := by omega
    have cS := hsort.1 gb 0 cap zs W hH hgl hsz
    gi_wp2_with (gi_at_call 77; refine cS.mono ?_; rintro e w' ⟨rfl, nn, os, rfl⟩)
    go_ret
    exact ⟨_, rfl, ownsRow_sorted_i (by simp) hbase hgb r1 r2 r3, hnil, hb.grown (grownBy_sorted_i _) hb.size (fun j hj => by cases hj; exact hbase)⟩
end Go.Proofs

namespace Go.Proofs
open Go.RowKit Go.Shelf Go.Maps Go.Sort

theorem Try.keeps_iff (s : List Int) (j : Nat) (hj : j < s.length) : Lib.keeps s.toArray j = true ↔ (j = 0 ∨ s[j] ≠ s[j - 1]'(by omega)) := by
  have h1 : s.toArray[j]! = s[j] := by rw [getElem!_pos _ j (by simpa using hj)]; simp
  have h2 : s.toArray[j - 1]! = s[j - 1]'(by omega) := by rw [getElem!_pos _ (j - 1) (by simp; omega)]; simp
  unfold Lib.keeps
  rw [h1, h2]
  simp
theorem Try.compact_nodup {s : List Int} (hs : s.Pairwise (· ≤ ·)) : (Lib.compact s).length = s.length ↔ s.Nodup := by
  unfold Lib.compact Lib.compactUpTo
  rw [List.length_map]
  have hr : s.length = (List.range s.length).length := by simp
  constructor
  · intro h
    have hall : ∀ j ∈ List.range s.length, Lib.keeps s.toArray j = true := by
      refine List.length_filter_eq_length_iff.1 ?_
      rw [h]; exact hr
    have hlt : ∀ i j (hij : i < j) (hj : j < s.length), s[i]'(by omega) < s[j] := by
      intro i j hij hj
      have hk := (Try.keeps_iff s j hj).1 (hall j (List.mem_range.2 hj))
      have hne : s[j] ≠ s[j - 1]'(by omega) := by rcases hk with h | h <;> first | omega | exact h
      have hle : s[j - 1]'(by omega) ≤ s[j] := by
        have := List.pairwise_iff_getElem.1 hs (j - 1) j (by omega) hj (by omega)
        exact this
      have h2 : s[i]'(by omega) ≤ s[j - 1]'(by omega) := by
        rcases Nat.eq_or_lt_of_le (show i ≤ j - 1 by omega) with e | h
        · subst e; exact Int.le_refl _
        · exact List.pairwise_iff_getElem.1 hs i (j - 1) (by omega) (by omega) h
      omega
    exact List.pairwise_iff_getElem.2 fun i j hi hj hij => by have := hlt i j hij hj; omega
  · intro h
    rw [List.length_filter_eq_length_iff.2 ?_]
    · simp
    · intro j hj
      have hj := List.mem_range.1 hj
      rw [Try.keeps_iff s j hj]
      by_cases h0 : j = 0
      · exact .inl h0
      · have := List.pairwise_iff_getElem.1 h (j - 1) j (by omega) hj (by omega)
        exact .inr fun e => this e.symm
def Try.sortL (zs : List Int) : List Int := zs.mergeSort (fun x y => decide (x ≤ y))
theorem Try.sortL_sorted (zs : List Int) : (Try.sortL zs).Pairwise (· ≤ ·) := by
  have := List.pairwise_mergeSort (le := fun a b : Int => decide (a ≤ b)) (fun a b c h1 h2 => by simp at *; omega) (fun a b => by simp; omega) zs
  exact this.imp (fun h => by simpa using h)
theorem Try.compact_sort (zs : List Int) : (Lib.compact (Try.sortL zs)).length = zs.length ↔ zs.Nodup := by
  have hp : (Try.sortL zs).Perm zs := List.mergeSort_perm zs _
  rw [← hp.length_eq, Try.compact_nodup (Try.sortL_sorted zs), hp.nodup_iff]
def Try.CompactsIn (F : Fence) (m : Nat) : Prop :=
  (∀ (blk off cap : Nat) (zs : List Int) (w : World), Holds (Value.int .i64) w blk off zs.toArray → zs.length ≤ 9223372036854775807 → zs.length ≤ cap →
    CallsIn F m Try.prog 105 #[.slice (some ⟨blk, off, none⟩) zs.length cap] w fun e w' => e = .returned (.slice (some ⟨blk, off, none⟩) (Lib.compact zs).length cap) ∧ ∃ q, w' = putRow (Value.int .i64) (Sort.ahead w q) blk off (Lib.compact zs ++ List.replicate (zs.length - (Lib.compact zs).length) 0).toArray) ∧
  (∀ (a : Option Addr) (cap : Nat) (w : World), CallsIn F m Try.prog 105 #[.slice a 0 cap] w fun e w' => e = .returned (.slice a 0 cap) ∧ w' = w)
theorem Try.compactsIn (m : Nat) : Try.CompactsIn Fence.wide m :=
  ⟨fun blk off cap ss W h1 h2 h3 => callsIn_wide.2 (Any.slices_Compact_int Try.laysCompact blk off cap ss W h1 h2 h3), fun p cap W => callsIn_wide.2 (Any.slices_Compact_int_empty Try.laysCompact p cap W)⟩
set_option maxRecDepth 100000 in
set_option maxHeartbeats 2000000 in
theorem Try.unlike_in (F : Fence) (n : Nat) (h77 : F.fn 88) (h93 : F.fn 104) (h94 : F.fn 105) (h92 : F.fn 103) (h84 : F.fn 77) (h102 : F.fn 122) (h116 : F.fn 139) (h103 : F.fn 123) (hro : F.round = none) (hn : 6 ≤ n) (hsort : Try.SortsIn F (n - 1 - 1)) (hcomp : Try.CompactsIn F (n - 1)) (a : Option Addr) (cap : Nat) (zs : List Int) (hlen : zs.length ≤ 1000000) (w : World)
    (hI : Try.Ints w.heap.size w (.slice a zs.length cap) zs) :
    CallsIn F n Try.prog 88 #[.slice a zs.length cap] w fun e W' => e = .returned (.bool (decide zs.Nodup)) ∧ Below w.heap.size w W' := by
  have h1 : 1 ≤ n := by omega
  have hml : zs.length ≤ maxLen := by unfold maxLen; omega
  have hB0 : Below w.heap.size w (w.alloc (.cells #[.slice a zs.length cap] 29)) := ((Below.refl _ w).alloc (Nat.le_refl _) _)
  have bO := Boxed.new w 29 (.slice a zs.length cap)
  have hcs := Try.compact_sort zs
  have hsl : (Try.sortL zs).length = zs.length := (List.mergeSort_perm zs _).length_eq
  refine callsIn_of_wp Try.func88 rfl h77 ?_ hro
  simp only [Try.ntmps88, List.size_toArray, List.length_cons, List.length_nil, Nat.reduceAdd, Nat.reduceSub, Array.replicate_succ, Array.replicate_zero, List.push_toArray, List.append_toArray, List.nil_append, List.cons_append]
  gi_wp2_with (first
    | (gi_at_call 104; refine (Try.values_in F (n - 1) h93 hro _ _ _ _).mono ?_; rintro e w' ⟨rfl, rfl⟩)
    | (gi_at_call 103; refine (Try.sorted_in F (n - 1) h92 h84 h102 h116 h103 hro (by omega) hsort w.heap.size w.heap.size _ zs hml (by omega) _ (by simp) (by simp) bO.cell (hI.below hB0)).mono ?_; rintro e W ⟨v, rfl, hrow, hnil, hb⟩))
  rcases hrow.2 with ⟨rfl, hz⟩ | ⟨gb, cap', cur, rfl, hbase, hgb, r1, r2, r3, r4⟩
  · have hss : zs = [] := List.eq_nil_of_length_eq_zero hz
    subst hss
    gi_wp2_with (gi_at_call 105; refine (hcomp.2 none 0 W).mono ?_; rintro e w' ⟨rfl, rfl⟩)
    go_ret
    exact ⟨rfl, hB0.trans (hb.mono (by simp))⟩
  · have hH : Holds (Value.int .i64) W gb 0 (Try.sortL zs).toArray := holds_of_block_i hgb (by rw [hsl]; simpa [Try.sortL] using r4)
    have hsz : (Try.sortL zs).length ≤ 9223372036854775807 := by omega
    have cS := hcomp.1 gb 0 cap' (Try.sortL zs) W hH hsz (by omega)
    rw [hsl] at cS
    gi_wp2_with (gi_at_call 105; refine cS.mono ?_; rintro e w' ⟨rfl, q, rfl⟩)
    go_ret
    have hg : W.grownBy (putRow encZ (Sort.ahead W q) gb 0 (Lib.compact (Try.sortL zs) ++ List.replicate (zs.length - (Lib.compact (Try.sortL zs)).length) 0).toArray) (some gb) := by
      have := grownBy_sorted_i (w := W) (g := gb) (n := q) (os := #[]) (Lib.compact (Try.sortL zs) ++ List.replicate (zs.length - (Lib.compact (Try.sortL zs)).length) 0).toArray
      rwa [grow_empty] at this
    have hb1 : Below w.heap.size w W := hB0.trans (hb.mono (by simp))
    refine ⟨?_, hb1.grown hg hb1.size (fun j hj => by cases hj; simp at hbase; omega)⟩
    show Ending.returned (.bool (((Lib.compact (Try.sortL zs)).length : Int) == (zs.length : Int))) = _
    congr 2
    by_cases hd : zs.Nodup
    · rw [decide_eq_true hd, hcs.2 hd]; simp
    · rw [decide_eq_false hd]
      exact beq_eq_false_iff_ne.2 fun h => hd (hcs.1 (by omega))
open Go.Sh in
theorem Try.ints_of {w : World} {l : List Int} {A : Option Addr} {c : Nat} (h : FlatOk w noLab none A c 1 (ints l)) : Try.Ints w.heap.size w (.slice A l.length c) l := by
  cases l with
  | nil => exact .inl ⟨rfl, A, c, rfl⟩
  | cons x l =>
    obtain ⟨a, rfl, _, h0⟩ := h.cell 0 [.i .i64 x] 0 (.i .i64 x) rfl rfl
    refine .inr ⟨a, c, rfl, ?_, fun j hj => ?_⟩
    · have h0 : w.cell? (a.add (0 * 1 + 0)) = some (Sc.val (.i .i64 x)) := h0
      have e : (a.add (0 * 1 + 0)).block = a.block := Try.add_block a _
      rw [← e]
      generalize a.add (0 * 1 + 0) = p at h0
      simp only [World.cell?] at h0
      by_cases hp : p.block < w.heap.size
      · exact hp
      · rw [Array.getElem?_eq_none (by omega)] at h0
        simp at h0
    · have hg := List.getElem?_eq_getElem hj
      obtain ⟨b, hb, _, hc⟩ := h.cell j [.i .i64 (x :: l)[j]] 0 (.i .i64 (x :: l)[j]) (ints_get hg) rfl
      injection hb with hb
      subst hb
      rw [Nat.mul_one, Nat.add_zero] at hc
      rw [hc, hg]; rfl
end Go.Proofs


set_option linter.unusedVariables false
namespace Go.Sh
open Go.Proofs
/-! ### walk.unlike -/
theorem Unlike_ok : SoundC Try.prog T 88 UnlikeC := by
  refine sound_pure Try.func88 (by rfl) (by rfl) (by simp [UnlikeC, conP]) ?_
  intro vs r outs hF w us hus
  obtain ⟨l, hl, rfl, rfl⟩ := conF_inv (pre := fun l : List Int => l.length ≤ 1000000) (enc := fun l => [.one (.flat false 1 (ints l))]) (val := fun l => .one (.s (.b (decide l.Nodup)))) hF
  have hl : l.length ≤ 1000000 := hl
  obtain ⟨u, hu⟩ : ∃ u, us.toList = [u] ∧ V1Ok w noLab 0 (.one (.flat false 1 (ints l))) u := by
    cases h : us.toList with
    | nil => rw [h] at hus; exact hus.elim
    | cons u r =>
      rw [h] at hus
      cases r with
      | nil => exact ⟨u, rfl, hus.1⟩
      | cons _ _ => exact hus.2.elim
  obtain ⟨he, ⟨x, hx, hF⟩⟩ := hu
  obtain rfl : us = #[u] := by cases us; simp_all
  subst hx
  rw [ints_length]
  refine ((callsIn_wide (n := 6)).1 (Try.unlike_in Fence.wide 6 trivial trivial trivial trivial trivial trivial trivial trivial rfl (by omega) (Try.sortsIn _) (Try.compactsIn _) x.A x.c l hl w (Try.ints_of hF))).mono ?_
  rintro e w' ⟨rfl, hb⟩
  exact ⟨_, noLab, rfl, ⟨hb.os, .of hb.tape, hb.output, hb.size, fun b h _ => hb.block b h⟩, fun b k h => by simp [noLab] at h, ⟨⟨none, 0, fun _ => none, fun _ => 0⟩, rfl⟩⟩
end Go.Sh

set_option linter.unusedVariables false
set_option linter.unusedSimpArgs false
namespace Go.Sh
open Go.Proofs
/-! ### carcanetref08.Size, joined, touch -/
/-! ### carcanetref08.Check -/
end Go.Sh

set_option linter.unusedVariables false
set_option linter.unusedSimpArgs false
namespace Go.Sh
/-! ### few edges, few vertices -/
theorem cut_small (S : List (List Int)) : small (cutSets S) := by
  refine ⟨by simp [cutSets]; omega, fun l hl => ?_⟩
  obtain ⟨m, _, rfl⟩ := List.mem_map.1 hl
  simp; omega
end Go.Sh

set_option linter.unusedVariables false
set_option linter.unusedSimpArgs false
namespace Go.Proofs
open Go.RowKit Go.Shelf

attribute [local go_sem] Oper.semAt_some
/-- the cells of edges -/
def Try.Eds (S : Nat → Prop) (W : World) (sv : Value) (E : List (Int × Int)) : Prop :=
  (E = [] ∧ ∃ a cap, sv = .slice a 0 cap) ∨ ∃ ab ao cap, sv = .slice (some ⟨ab, ao, none⟩) E.length cap ∧ S ab ∧ ∀ j x, E[j]? = some x → W.cell? ⟨ab, ao + j * 2, none⟩ = some (.int .i64 x.1) ∧ W.cell? ⟨ab, ao + j * 2 + 1, none⟩ = some (.int .i64 x.2)
/-- some blocks lie as they lay -/
structure Try.Kept (S : Nat → Prop) (W W' : World) : Prop where
  size : W.heap.size ≤ W'.heap.size
  block : ∀ k, S k → W'.heap[k]? = W.heap[k]?
theorem Try.Kept.refl (S : Nat → Prop) (W : World) : Try.Kept S W W := ⟨Nat.le_refl _, fun _ _ => rfl⟩
theorem Try.Kept.trans {S : Nat → Prop} {A B C : World} (h : Try.Kept S A B) (k : Try.Kept S B C) : Try.Kept S A C := ⟨Nat.le_trans h.size k.size, fun b hb => (k.block b hb).trans (h.block b hb)⟩
theorem Try.Kept.cell {S : Nat → Prop} {W W' : World} (h : Try.Kept S W W') {p : Addr} (hp : S p.block) : W'.cell? p = W.cell? p := World.cell?_of_block (w := W) (h.block p.block hp)
theorem Try.Kept.alloc {S : Nat → Prop} {A W : World} (h : Try.Kept S A W) (hS : ∀ k, S k → k < A.heap.size) (o : Obj) : Try.Kept S A (W.alloc o) := ⟨Nat.le_trans h.size (by simp), fun k hk => (Below.heap_alloc W o k (Nat.lt_of_lt_of_le (hS k hk) h.size)).trans (h.block k hk)⟩
theorem Try.Kept.of {n : Nat} {S : Nat → Prop} {W W' : World} (h : Below n W W') (hS : ∀ k, S k → k < n) : Try.Kept S W W' := ⟨h.size, fun k hk => h.block k (hS k hk)⟩
end Go.Proofs

set_option linter.unusedVariables false
set_option linter.unusedSimpArgs false
namespace Go.Proofs
open Go.RowKit Go.Shelf Go.Sh

attribute [local go_sem] Oper.semAt_some
theorem Try.Eds.kept {S S' : Nat → Prop} {A B : World} (h : Try.Kept S A B) (hS : ∀ k, S' k → S k) {sv : Value} {E : List Ed} : Try.Eds S' A sv E → Try.Eds S B sv E
  | .inl e => .inl e
  | .inr ⟨ab, ao, cap, e, hb, hc⟩ => .inr ⟨ab, ao, cap, e, hS _ hb, fun j x hj => ⟨(h.cell (p := ⟨ab, ao + j * 2, none⟩) (hS _ hb)).trans (hc j x hj).1, (h.cell (p := ⟨ab, ao + j * 2 + 1, none⟩) (hS _ hb)).trans (hc j x hj).2⟩⟩
end Go.Proofs

set_option linter.unusedVariables false
set_option linter.unusedSimpArgs false
namespace Go.Proofs
open Go.RowKit Go.Shelf Go.Sh

attribute [local go_sem] Oper.semAt_some
/-! ### graph.Has -/
end Go.Proofs

set_option linter.unusedVariables false
set_option linter.unusedSimpArgs false
namespace Go.Sh
open Go.Proofs Go.Sort Go.Shelf Go.RowKit
/-! ### rows of cells in their place -/
theorem holds_row {w : World} {own : Nat → Option Key} {key : Option Key} {A : Option Addr} {cap sz : Nat} {rows : Flat} {b off : Nat} {arr : Array Value} {T : TypeId} (h : FlatOk w own key A cap sz rows) (hA : A = some ⟨b, off, none⟩) (hh : w.heap[b]? = some (.cells arr T (0, 0))) :
    Holds id w b off (cellsR rows).toArray := by
  intro t ht
  have ht0 := ht
  have ht : t < rows.flatten.length := by rw [List.size_toArray, cellsR, List.length_map] at ht; exact ht
  have hlen : rows.flatten.length = rows.length * sz := flat_len h.even
  have h0 : 0 < sz := h.pos
  have hi : t / sz < rows.length := by rw [Nat.div_lt_iff_lt_mul h0]; omega
  have hj : t % sz < sz := Nat.mod_lt _ h0
  have hrow : rows[t / sz]? = some rows[t / sz] := List.getElem?_eq_getElem hi
  have hrl := h.even _ _ hrow
  have hcell : (rows[t / sz])[t % sz]? = some (rows[t / sz])[t % sz] := List.getElem?_eq_getElem (by omega)
  obtain ⟨ad, h1, _, h2⟩ := h.cell _ _ _ _ hrow hcell
  rw [hA] at h1
  injection h1 with h1
  subst h1
  have hq : t / sz * sz + t % sz = t := by rw [Nat.mul_comm]; exact Nat.div_add_mod t sz
  have hfl := flat_get h.even (t / sz) (t % sz) _ hrow hj
  rw [hq, hcell] at hfl
  rw [hq, Addr.add_plain] at h2
  refine ⟨?_, by simp [World.frozen?, hh]⟩
  have ht' : t < (cellsR rows).toArray.size := ht0
  rw [getElem!_pos _ t ht', h2]
  have hz : (cellsR rows)[t]? = some (rows[t / sz])[t % sz].val := by unfold cellsR; rw [List.getElem?_map, hfl]; rfl
  have hz2 := List.getElem?_eq_getElem (l := cellsR rows) (i := t) (by simpa using ht')
  rw [hz2] at hz
  injection hz with hz
  simp [hz]
theorem splice_all {α : Type} {l m : List α} (h : m.length = l.length) : splice l 0 m = m := by
  apply List.ext_getElem?
  intro i
  rw [splice_get l 0 m i (by omega)]
  by_cases hi : i < m.length
  · rw [if_pos ⟨by omega, by omega⟩]; simp
  · rw [if_neg (by omega), List.getElem?_eq_none (by omega), List.getElem?_eq_none (by omega)]
theorem put_splice {off : Nat} {arr : Array Value} {cs : List Value} (h : off + cs.length ≤ arr.size) : putCells id off cs.toArray arr = (splice arr.toList off cs).toArray := by
  apply Array.ext'
  apply List.ext_getElem?
  intro i
  rw [List.toList_toArray, splice_get _ _ _ _ (by simpa using h)]
  rw [Array.getElem?_toList]
  unfold putCells
  rw [Array.getElem?_mapIdx]
  by_cases hi : off ≤ i ∧ i < off + cs.length
  · rw [if_pos hi, Array.getElem?_eq_getElem (by omega), Option.map_some, if_pos (by simpa using hi), getElem!_pos _ _ (by simp; omega), List.getElem?_eq_getElem (by omega)]
    simp
  · rw [if_neg hi, Array.getElem?_toList]
    cases hq : arr[i]? with
    | none => rfl
    | some x => rw [Option.map_some, if_neg (by simpa using hi)]
/-- behind a call that laid a row of cells in its place -/
theorem put_row {w w' : World} {own : Nat → Option Key} {key : Key} {A : Option Addr} {cap sz : Nat} {rows' : Flat} {b off : Nat} {arr : Array Value} {T : TypeId} {q : Nat} {os : Array Obj} (ho : own b = some key) (hh : w.heap[b]? = some (.cells arr T (0, 0))) (hs : off + (cellsR rows').length ≤ arr.size)
    (hlay : FlatOk (w.setRow b (splice arr.toList off (cellsR rows')).toArray) own (some key) A cap sz rows') (hown : ∀ b k, own b = some k → b < w.heap.size)
    (hw : w' = grow (putRow id (Sort.ahead w q) b off (cellsR rows').toArray) os) : Frm (fun b => own b = some key) w w' ∧ FlatOk w' own (some key) A cap sz rows' := by
  subst hw
  have hb : b < w.heap.size := hown b _ ho
  have hheap : ∀ x, x < w.heap.size → (grow (putRow id (Sort.ahead w q) b off (cellsR rows').toArray) os).heap[x]? = (w.heap[x]?).map fun o => if x = b then onCells (putCells id off (cellsR rows').toArray) o else o := fun x hx => by
    show ((w.heap.modify b (onCells (putCells id off (cellsR rows').toArray))) ++ os)[x]? = _
    rw [Array.getElem?_append_left (by simpa using hx), Array.getElem?_modify]
    by_cases e : b = x
    · simp [e]
    · have : ¬ x = b := fun h => e h.symm
      simp [e, this]
  refine ⟨⟨rfl, .of rfl, rfl, ?_, fun x hx hn => ?_⟩, hlay.mono id fun x hx hx2 => ⟨hx2, ?_⟩⟩
  · show w.heap.size ≤ ((w.heap.modify b _) ++ os).size
    simp
  · rw [hheap x hx]
    have : x ≠ b := fun e => hn (by rw [e]; exact ho)
    simp [this]
  · have hx' : x < w.heap.size := hown x _ hx2
    rw [hheap x hx']
    by_cases e : x = b
    · subst e
      rw [hh, World.setRow]
      show _ = (w.heap.modify x _)[x]?
      rw [Array.getElem?_modify, if_pos rfl, hh]
      simp [onCells]
      exact put_splice hs
    · rw [World.setRow]
      show _ = (w.heap.modify b _)[x]?
      rw [Array.getElem?_modify, if_neg (fun h => e h.symm)]
      simp [e]
/-! ### edges -/
def encE (p : Ed) : List Value := [.int .i64 p.1, .int .i64 p.2]
theorem edges_even (l : List Ed) : ∀ (i : Nat) (row : Row), (edges l)[i]? = some row → row.length = 2 := fun i row h => by
  simp only [edges, List.getElem?_map, Option.map_eq_some_iff] at h
  obtain ⟨x, _, rfl⟩ := h
  rfl
theorem flatK_edges (l : List Ed) : flatK encE 2 l.toArray = (cellsR (edges l)).toArray := by
  apply Array.ext'
  show (flatK encE 2 l.toArray).toList = cellsR (edges l)
  induction l with
  | nil => simp [flatK, cellsR, edges]
  | cons p l ih =>
    have e : cellsR (edges (p :: l)) = encE p ++ cellsR (edges l) := rfl
    rw [e, ← ih]
    simp only [flatK, List.size_toArray, List.length_cons, Array.toList_map, Array.toList_range]
    rw [show (l.length + 1) * 2 = 2 + l.length * 2 by omega, List.range_add, List.map_append, List.map_map]
    congr 1
    refine List.map_congr_left fun t ht => ?_
    have h1 : (2 + t) / 2 = t / 2 + 1 := by omega
    have h2 : (2 + t) % 2 = t % 2 := by omega
    simp only [Function.comp, h1, h2]
    congr 1
    simp
/-! ### graph.Normal's closure -/
theorem Clo_p [Fwd] : SoundP Try.prog 92 (conF (fun _ : Ed × Ed => True) (fun a => [edV a.1, edV a.2]) (fun a => .one (.s (.i .i64 (cmpE a.1 a.2))))) := by
  refine con_pure (X := { Γ := [(69, compareC)], T := T, nt := 8 }) cr_none hmix hT (sound_cons compare_ok sound_nil) Try.func92 (by rfl) (by rfl) (by rfl) 4 ?_
  rintro ⟨⟨a, b⟩, ⟨c, d⟩⟩ -
  refine ⟨⟨Nat.le_of_ble_eq_true rfl, Nat.le_of_ble_eq_true rfl⟩, ?_⟩
  refine Call.by _ _ (compareC_at (a, b) (c, d)) ?_
  refine ⟨rfl, ?_⟩
  show _ = _
  rfl
theorem frm_grow [Fwd] (hD : Fwd.D) {w w' : World} (h : Frm (fun _ => False) w w') : ∃ q os, w' = grow (w.drewN q) os := by
  refine ⟨w'.drawn - w.drawn, w'.heap.extract w.heap.size w'.heap.size, ?_⟩
  have hd : w.drawn ≤ w'.drawn := h.tape.2 hD
  have hh : w'.heap = w.heap ++ w'.heap.extract w.heap.size w'.heap.size := by
    apply Array.ext_getElem?
    intro i
    have hs := h.size
    rcases Nat.lt_or_ge i w.heap.size with hi | hi
    · rw [Array.getElem?_append_left hi]; exact h.block i hi (fun h => h)
    · rw [Array.getElem?_append_right hi, Array.getElem?_extract]
      split
      · congr 1; omega
      · rw [Array.getElem?_eq_none]; omega
  have h1 := h.os; have h2 := h.tape.1; have h3 := h.output
  obtain ⟨a1, a2, a3, a4, a5⟩ := w
  obtain ⟨b1, b2, b3, b4, b5⟩ := w'
  simp only at h1 h2 h3 hd
  subst h1 h2 h3
  unfold grow World.drewN
  simp only at hh ⊢
  rw [← hh]
  congr 1
  omega
theorem clo_call (x y : Ed) (W : World) : Calls Try.prog 92 #[.agg (encE x).toArray, .agg (encE y).toArray] W fun e w' => e = .returned (.int .i64 (cmpE x y)) ∧ ∃ q os', w' = grow (W.drewN q) os' := by
  letI : Fwd := ⟨True⟩
  have hz : ∀ (q : Nat) (z : Sc), CellOk W noLab q (.s z) z.val := fun q z => ⟨⟨none, 0, fun _ => none, fun _ => 0⟩, rfl⟩
  have hF : conF (fun _ : Ed × Ed => True) (fun a => [edV a.1, edV a.2]) (fun a => V.one (C.s (.i .i64 (cmpE a.1 a.2)))) [edV x, edV y] = some (.one (.s (.i .i64 (cmpE x y))), []) := compareC_at x y
  refine (Clo_p _ _ _ hF W #[.agg (encE x).toArray, .agg (encE y).toArray] ⟨⟨_, rfl, hz _ _, hz _ _, trivial⟩, ⟨_, rfl, hz _ _, hz _ _, trivial⟩, trivial⟩).mono ?_
  rintro e w' ⟨u, lab, rfl, hf, _, hu⟩
  obtain ⟨p, hu⟩ := hu
  refine ⟨?_, frm_grow trivial hf⟩
  show Ending.returned u = _
  rw [show u = (Sc.i .i64 (cmpE x y)).val from hu]
  rfl
/-! ### slices.SortFunc on edges -/
theorem ltOf_iff (x y : Ed) : ltOf cmpE x y = decide (ltE x y) := by
  unfold ltOf
  exact decide_eq_decide.2 (cmpE_lt x y)
theorem ltOf_t {x y : Ed} : ltOf cmpE x y = true ↔ ltE x y := by rw [ltOf_iff, decide_eq_true_iff]
theorem ltOf_f {x y : Ed} : ltOf cmpE x y = false ↔ ¬ ltE x y := by rw [ltOf_iff, decide_eq_false_iff_not]
theorem swoE : SWO (ltOf cmpE) where
  irrefl x := by rw [ltOf_f]; unfold ltE; omega
  trans x y z h1 h2 := by rw [ltOf_t] at *; unfold ltE at *; omega
  ntrans x y z h1 h2 := by rw [ltOf_f] at *; unfold ltE at *; omega
theorem totE (x y : Ed) (h1 : ltOf cmpE x y = false) (h2 : ltOf cmpE y x = false) : x = y := by
  rw [ltOf_f] at *; unfold ltE at *
  exact Prod.ext (by omega) (by omega)
def sortE (l : List Ed) : List Ed := l.mergeSort fun x y => !(ltOf cmpE) y x
theorem sortE_perm (l : List Ed) : (sortE l).Perm l := List.mergeSort_perm l _
theorem sortE_sorted (l : List Ed) : (sortE l).Pairwise fun x y => ¬ ltE y x := by
  have := List.pairwise_mergeSort (le := fun x y : Ed => !(ltOf cmpE) y x) (fun a b c h1 h2 => by
    simp only [Bool.not_eq_true', ltOf_f] at *; unfold ltE at *; omega) (fun a b => by
    simp only [Bool.or_eq_true, Bool.not_eq_true', ltOf_f]; unfold ltE; omega) l
  exact this.imp fun h => by simpa only [Bool.not_eq_true', ltOf_f] using h
open Classical in
noncomputable def sortF (l : Flat) : Flat := if h : ∃ E : List Ed, l = edges E then edges (sortE h.choose) else l
theorem sortF_edges (E : List Ed) : sortF (edges E) = edges (sortE E) := by
  have h : ∃ E' : List Ed, edges E = edges E' := ⟨E, rfl⟩
  unfold sortF
  rw [dif_pos h, ← edges_inj h.choose_spec]
theorem SortFn_row : RowFnCall Try.prog 91 92 2 (fun l => ∃ E : List Ed, l = edges E ∧ E.length ≤ 1000000) sortF := by
  refine ⟨⟨_, Try.func91, by decide, by simp [Try.f91]⟩, ?_, ?_⟩
  · rintro l ⟨E, rfl, _⟩
    rw [sortF_edges, edges_length, edges_length, (sortE_perm E).length_eq]
  · rintro l ⟨E, rfl, hE⟩ w own key A cap h hown
    rw [sortF_edges]
    rcases Nat.eq_zero_or_pos E.length with h0 | h0
    · have : E = [] := List.eq_nil_of_length_eq_zero h0
      subst this
      refine (AnyF.slices_SortFunc_none Try.laysSortF A cap _ w).mono ?_
      rintro e w' ⟨rfl, rfl⟩
      exact ⟨rfl, Frm.refl _ _, by simpa [sortE] using h⟩
    · have hlen : (edges (sortE E)).length = (edges E).length := by rw [edges_length, edges_length, (sortE_perm E).length_eq]
      obtain ⟨b, off, arr, T, hA, ho, hh, hs, hlay⟩ := h.lay (lo := 0) (S := edges (sortE E)) (by omega) (by rw [hlen, edges_length]; exact h0) (edges_even _)
      rw [Nat.zero_mul, Nat.add_zero] at hs hlay
      rw [splice_all hlen] at hlay
      have hH : HoldsK encE 2 w b off E.toArray := by
        unfold HoldsK
        rw [flatK_edges]
        exact holds_row h hA hh
      have eg : ∀ args w, (callFunc 92 args).run Try.prog w = .ok (.enter 92 args) w := enters_of Try.func92 (by kernel_rfl) rfl
      subst hA
      rw [edges_length]
      refine (AnyQ.slices_SortFunc_total Try.laysSortF 2 Try.isAgg60 Try.sizeOf60 encE (fun _ => rfl) (fun x v hv => by simp [encE] at hv; rcases hv with rfl | rfl <;> rfl) cmpE swoE 92 #[] b off cap E.toArray w eg (fun _ _ _ _ x y => clo_call x y _) hH (hown b _ ho) (by simp; omega) totE).mono ?_
      rintro e w' ⟨rfl, q, os, hw⟩
      have hw2 : w' = grow (putRow id (Sort.ahead w q) b off (cellsR (edges (sortE E))).toArray) os := by rw [hw, sortWorldK, putRowK, ← flatK_edges]; rfl
      obtain ⟨h1, h2⟩ := put_row (q := q) (os := os) ho hh hs hlay hown hw2
      exact ⟨rfl, h1, h2⟩
end Go.Sh

set_option linter.unusedVariables false
set_option linter.unusedSimpArgs false
namespace Go.Sh
open Go.Proofs
/-! ### graph.Normal -/
/-- what is kept ahead of the sorting -/
def prs (l : List Ed) : List Ed := l.filterMap fun p => if p.1 = p.2 then none else some (edN p)
theorem prs_snoc (l : List Ed) (p : Ed) : prs (l ++ [p]) = prs l ++ (if p.1 = p.2 then [] else [edN p]) := by
  unfold prs
  rw [List.filterMap_append]
  congr 1
  by_cases h : p.1 = p.2 <;> simp [h]
theorem prs_length (l : List Ed) : (prs l).length ≤ l.length := List.length_filterMap_le _ _
theorem mem_prs {l : List Ed} {x : Ed} : x ∈ prs l ↔ ∃ p ∈ l, p.1 ≠ p.2 ∧ x = edN p := by
  unfold prs
  rw [List.mem_filterMap]
  constructor
  · rintro ⟨p, hp, h⟩
    split at h
    · simp at h
    · rename_i hne; injection h with h; exact ⟨p, hp, hne, h.symm⟩
  · rintro ⟨p, hp, hne, rfl⟩
    exact ⟨p, hp, by rw [if_neg hne]⟩
theorem norm_of {l M : List Ed} (hs : M.Pairwise ltE) (hm : ∀ x, x ∈ M ↔ x ∈ sortE (prs l)) : M = normE l :=
  sortedE_eq hs (normE_sorted l) fun x => by rw [hm, (sortE_perm _).mem_iff, mem_prs, mem_normE]
noncomputable def XNor : Cx := { Γ := [], T := T, nt := 70, inl := [(93, inlF Try.f93)], ext := [91], base := rowFnCR 91 92 2 (fun l => ∃ E : List Ed, l = edges E ∧ E.length ≤ 1000000) sortF }
theorem XNor_ok : CrOk Try.prog (callAt 1 XNor) := callAt_ok hmix hT sound_nil (inl_cons Try.func93 (by rfl) (by rfl) (by rfl) inl_nil) (rowFn_ok SortFn_row) 1
theorem edges_set (l : List Ed) (i : Nat) (x : Ed) : (edges l).set i [.i .i64 x.1, .i .i64 x.2] = edges (l.set i x) := by simp [edges, List.map_set]
theorem take_spl {α : Type} (l m : List α) (i : Nat) (h : i + m.length ≤ l.length) : (splice l i m).take i = l.take i := by
  apply List.ext_getElem?
  intro j
  rw [List.getElem?_take, List.getElem?_take]
  split
  · rw [splice_get _ _ _ _ h, if_neg (by omega)]
  · rfl
set_option maxHeartbeats 2000000 in
theorem NormG_p : SoundP Try.prog 56 (conF (fun a : Int × List Ed => a.2.length ≤ 1000000) (fun a => [.one (.s (.i .i64 a.1)), .one (.flat false 2 (edges a.2))]) (fun a => .tup [grO (normF a.1 a.2).1.1 (normF a.1 a.2).1.2, .one (.s (.i .i64 (normF a.1 a.2).2))])) := by
  refine con_pure (X := XNor) (cr := callAt 1 XNor) XNor_ok hmix hT sound_nil Try.func56 (by rfl) (by rfl) (by rfl) 2 ?_
  rintro ⟨n, l⟩ hl
  dsimp only at hl
  refine ⟨⟨Nat.le_of_ble_eq_true rfl, Nat.le_of_ble_eq_true rfl⟩, ?_⟩
  refine Pick.by (fun h1 => ?_) (fun h1 => ?_)
  · have h1 : n < 0 := by simpa using h1
    have hv : normF n l = ((0, []), 1) := if_pos h1
    dsimp only
    rw [hv]
    exact ⟨rfl, rfl, ⟨rfl, ⟨rfl, rfl⟩, trivial⟩, rfl, trivial⟩
  have h1 : ¬ n < 0 := by simpa using h1
  refine Pick.by (fun h2 => ?_) (fun h2 => ?_)
  · have h2 : n > 1000 := by simpa using h2
    have hv : normF n l = ((0, []), 5) := by unfold normF; rw [if_neg h1, if_pos h2]
    dsimp only
    rw [hv]
    exact ⟨rfl, rfl, ⟨rfl, ⟨rfl, rfl⟩, trivial⟩, rfl, trivial⟩
  have h2 : ¬ n > 1000 := by simpa using h2
  refine LoopP.intro (α := Nat) (fun i => i ≤ l.length ∧ ∀ q ∈ l.take i, inR n q) (fun i => l.length - i) (fun i => [(0, .s (.i .i64 n)), (4, .ptr 0 0), (5, .s (.i .i64 0)), (6, .sl 2 none none), (17, .sl 1 none none), (18, .s (.i .i64 l.length)), (19, .s (.i .i64 i))])
    (fun i => [(0, some (.blk [.s (.i .i64 0), .nils])), (1, some (.flat false 2 (edges l))), (2, some (.flat true 2 (edges (prs (l.take i)))))]) 3 0 ⟨by omega, by simp⟩ (by refine Weak.by [(0, some _), (1, some _), (2, none)] (by ((repeat' first | exact rfl | exact trivial | refine And.intro ?_ ?_) <;> (repeat' first | exact rfl | exact trivial | refine And.intro ?_ ?_)); all_goals (first | exact sc_eq (by rw [edges_length]) | simp [prs, edges])) (by ((repeat' first | exact rfl | exact trivial | refine And.intro ?_ ?_) <;> (repeat' first | exact rfl | exact trivial | refine And.intro ?_ ?_)); all_goals (first | exact sc_eq (by rw [edges_length]) | simp [prs, edges])) (by rfl)) ?_
  rintro i ⟨hi, hin⟩
  refine Pick.by (fun hc => ?_) (fun hc => ?_)
  · have hlt : i < l.length := by simpa using hc
    have hbad : ¬ inR n l[i] → normF n l = ((0, []), 4) := fun h => by
      unfold normF
      rw [if_neg h1, if_neg h2, if_neg fun k => h (k _ (List.getElem_mem hlt))]
    refine Idx.by i rfl (by rw [edges_length]; exact hlt) ?_
    refine Look.by _ (edges_get (List.getElem?_eq_getElem hlt)) ?_
    refine Pick.by (fun h3 => ?_) (fun h3 => ?_)
    · have h3 : mnI l[i].1 l[i].2 < 0 := of_decide_eq_true h3
      have hv := hbad (fun h => by unfold inR at h; unfold mnI at h3; split at h3 <;> omega)
      dsimp only
      rw [hv]
      exact ⟨rfl, rfl, ⟨rfl, ⟨rfl, rfl⟩, trivial⟩, rfl, trivial⟩
    have h3 : ¬ mnI l[i].1 l[i].2 < 0 := of_decide_eq_false h3
    refine Pick.by (fun h4 => ?_) (fun h4 => ?_)
    · have h4 : mxI l[i].1 l[i].2 ≥ n := of_decide_eq_true h4
      have hv := hbad (fun h => by unfold inR at h; unfold mxI at h4; split at h4 <;> omega)
      dsimp only
      rw [hv]
      exact ⟨rfl, rfl, ⟨rfl, ⟨rfl, rfl⟩, trivial⟩, rfl, trivial⟩
    have h4 : ¬ mxI l[i].1 l[i].2 ≥ n := of_decide_eq_false h4
    have hok : inR n l[i] := by unfold inR; unfold mnI at h3; unfold mxI at h4; split at h3 <;> split at h4 <;> omega
    have hin2 := all_take hlt hin hok
    have ht : l.take (i + 1) = l.take i ++ [l[i]] := List.take_succ_eq_append_getElem hlt
    have hpl := prs_length (l.take i)
    rw [List.length_take] at hpl
    refine Pick.by (fun h5 => ?_) (fun h5 => ?_)
    · have h5 : l[i].1 ≠ l[i].2 := by simpa using h5
      refine Pick.T (by simp [cut, edges_length]; omega) ?_
      refine Pick.T (inI64_of (by omega) (by omega)) ?_
      refine Next.by (i + 1) ⟨by omega, hin2⟩ (by show l.length - (i + 1) < l.length - i; omega) (by refine Weak.by [(0, some _), (1, some _), (2, some _)] (by ((repeat' first | exact rfl | exact trivial | refine And.intro ?_ ?_) <;> (repeat' first | exact rfl | exact trivial | refine And.intro ?_ ?_)); all_goals ((rw [ht, prs_snoc, if_neg h5, edges_snoc]; rfl))) (by ((repeat' first | exact rfl | exact trivial | refine And.intro ?_ ?_) <;> (repeat' first | exact rfl | exact trivial | refine And.intro ?_ ?_)); all_goals ((rw [ht, prs_snoc, if_neg h5, edges_snoc]; rfl))) (by rfl))
    · have h5 : l[i].1 = l[i].2 := by simpa using h5
      refine Pick.T (inI64_of (by omega) (by omega)) ?_
      refine Next.by (i + 1) ⟨by omega, hin2⟩ (by show l.length - (i + 1) < l.length - i; omega) (by refine Weak.by [(0, some _), (1, some _), (2, some _)] (by ((repeat' first | exact rfl | exact trivial | refine And.intro ?_ ?_) <;> (repeat' first | exact rfl | exact trivial | refine And.intro ?_ ?_)); all_goals ((rw [ht, prs_snoc, if_pos h5, List.append_nil]))) (by ((repeat' first | exact rfl | exact trivial | refine And.intro ?_ ?_) <;> (repeat' first | exact rfl | exact trivial | refine And.intro ?_ ?_)); all_goals ((rw [ht, prs_snoc, if_pos h5, List.append_nil]))) (by rfl))
  have hge : l.length ≤ i := by simpa using hc
  rw [List.take_of_length_le hge] at hin
  have hi' : i = l.length := by omega
  subst hi'
  rw [List.take_length]
  have hpl := prs_length l
  have hval : normF n l = if (normE l).length > 4000 then ((0, []), 5) else ((n, normE l), 0) := by
    unfold normF
    rw [if_neg h1, if_neg h2, if_pos hin]
  refine ⟨rfl, rfl, _, rfl, ⟨_, rfl, by omega⟩, ?_⟩
  rw [sortF_edges]
  obtain ⟨L, hL⟩ : ∃ L, L = sortE (prs l) := ⟨_, rfl⟩
  have hLl : L.length ≤ 1000000 := by rw [hL, (sortE_perm _).length_eq]; omega
  have hLs : L.Pairwise fun x y => ¬ ltE y x := by rw [hL]; exact sortE_sorted _
  have hLm : ∀ M : List Ed, M.Pairwise ltE → (∀ x, x ∈ M ↔ x ∈ L) → M = normE l := fun M h1 h2 => norm_of h1 fun x => by rw [h2, hL]
  rw [← hL]
  clear hL
  refine Pick.by (fun h6 => ?_) (fun h6 => ?_)
  · have h6 : L.length < 2 := by simp [edges_length] at h6; omega
    have hfin : L = normE l := hLm L (by
      match L, h6 with
      | [], _ => exact List.Pairwise.nil
      | [a], _ => simp) (fun x => Iff.rfl)
    rw [hfin]
    refine Pick.by (fun h20 => ?_) (fun h20 => ?_)
    · have h20 : (normE l).length > 4000 := by simp [edges_length] at h20; omega
      have hv : normF n l = ((0, []), 5) := by rw [hval, if_pos h20]
      dsimp only
      rw [hv]
      exact ⟨rfl, rfl, ⟨rfl, ⟨rfl, rfl⟩, trivial⟩, rfl, trivial⟩
    · have h20 : ¬ (normE l).length > 4000 := by simp [edges_length] at h20; omega
      have hv : normF n l = ((n, normE l), 0) := by rw [hval, if_neg h20]
      dsimp only
      rw [hv]
      exact ⟨rfl, rfl, ⟨rfl, ⟨rfl, rfl⟩, trivial⟩, rfl, trivial⟩
  have h6 : ¬ L.length < 2 := by simp [edges_length] at h6; omega
  refine LoopP.intro (α := Nat) (fun k => 1 ≤ k ∧ k ≤ L.length ∧ (L.take k).Pairwise ltE) (fun k => L.length - k) (fun k => [(0, .sl 1 none none), (3, .s (.i .i64 k)), (1000000, .s (.i .i64 n)), (1000004, .ptr 0 0)])
    (fun k => [(0, some (.blk [.s (.i .i64 0), .nils])), (1, some (.flat true 2 (edges L)))]) 2 1 ⟨by omega, by omega, ?_⟩ (by refine Weak.by [(0, some _), (1, some _)] (by ((repeat' first | exact rfl | exact trivial | refine And.intro ?_ ?_) <;> (repeat' first | exact rfl | exact trivial | refine And.intro ?_ ?_))) (by ((repeat' first | exact rfl | exact trivial | refine And.intro ?_ ?_) <;> (repeat' first | exact rfl | exact trivial | refine And.intro ?_ ?_))) (by rfl)) ?_
  · rw [List.take_one]; cases L[0]? <;> simp
  rintro k ⟨hk1, hk, hp⟩
  refine Pick.by (fun h7 => ?_) (fun h7 => ?_)
  · have hkl : k < L.length := by simp [edges_length] at h7; omega
    refine Idx.by k rfl (by rw [edges_length]; exact hkl) ?_
    refine Look.by _ (edges_get (List.getElem?_eq_getElem hkl)) ?_
    refine Pick.T (inI64_of (by omega) (by omega)) ?_
    refine Idx.by (k - 1) (by omega) (by rw [edges_length]; omega) ?_
    refine Look.by _ (edges_get (List.getElem?_eq_getElem (show k - 1 < L.length by omega))) ?_
    refine Seg.by (by kernel_rfl) ?_
    have hsorted := List.pairwise_iff_getElem.1 hLs
    refine Pick.by (fun h8 => ?_) (fun h8 => ?_)
    · have h8 : L[k].1 = L[k - 1].1 ∧ L[k].2 = L[k - 1].2 := by simpa using h8
      have h8 : L[k] = L[k - 1] := Prod.ext h8.1 h8.2
      refine Rng.by k L.length rfl (by rw [edges_length]) (by omega) (by rw [edges_length]; omega) ?_
      refine LoopP.intro (α := Nat × Nat × List Ed) (fun p => 1 ≤ p.1 ∧ p.1 < k + p.2.1 ∧ 1 ≤ p.2.1 ∧ k + p.2.1 ≤ L.length ∧ p.2.2.length = L.length ∧ (p.2.2.take p.1).Pairwise ltE ∧ (∀ x, x ∈ p.2.2.take p.1 ↔ x ∈ L.take (k + p.2.1)) ∧ p.2.2[p.1 - 1]? = L[k + p.2.1 - 1]? ∧ ∀ j, k + p.2.1 - 1 ≤ j → p.2.2[j]? = L[j]?)
        (fun p => L.length - (k + p.2.1)) (fun p => [(0, .sl 1 none none), (3, .s (.i .i64 p.1)), (4, .sl 1 none (some (k, L.length - k))), (5, .s (.i .i64 p.2.1)), (1000000, .s (.i .i64 n)), (1000004, .ptr 0 0)])
        (fun p => [(0, some (.blk [.s (.i .i64 0), .nils])), (1, some (.flat true 2 (edges p.2.2)))]) 2 (k, 1, L) ?_ (by refine Weak.by [(0, some _), (1, some _)] (by ((repeat' first | exact rfl | exact trivial | refine And.intro ?_ ?_) <;> (repeat' first | exact rfl | exact trivial | refine And.intro ?_ ?_))) (by ((repeat' first | exact rfl | exact trivial | refine And.intro ?_ ?_) <;> (repeat' first | exact rfl | exact trivial | refine And.intro ?_ ?_))) (by rfl)) ?_
      · refine ⟨hk1, by simp only; omega, by simp, by simp only; omega, rfl, hp, fun x => ?_, ?_, fun j _ => rfl⟩
        · show x ∈ L.take k ↔ x ∈ L.take (k + 1)
          rw [List.take_succ_eq_append_getElem hkl, List.mem_append]
          constructor
          · exact .inl
          · rintro (h | h)
            · exact h
            · simp at h
              rw [h, h8]
              exact List.mem_iff_getElem?.2 ⟨k - 1, by rw [List.getElem?_take, if_pos (by omega), List.getElem?_eq_getElem]⟩
        · show L[k - 1]? = L[k + 1 - 1]?
          rw [show k + 1 - 1 = k by omega, List.getElem?_eq_getElem hkl, List.getElem?_eq_getElem (by omega), h8]
      rintro ⟨kk, k2, M⟩ ⟨g1, g2, g3, g4, g5, g6, g7, g8, g9⟩
      dsimp only at g1 g2 g3 g4 g5 g6 g7 g8 g9
      refine Pick.by (fun h9 => ?_) (fun h9 => ?_)
      · have h9 : k + k2 < L.length := by simp at h9; omega
        have e1 : M[k + k2]? = some L[k + k2] := by rw [g9 _ (by omega)]; exact List.getElem?_eq_getElem h9
        have e2 : M[k + (k2 - 1)]? = some L[k + (k2 - 1)] := by rw [g9 _ (by omega)]; exact List.getElem?_eq_getElem (by omega)
        refine Idx.by k2 rfl (by omega) ?_
        refine Look.by _ (edges_get e1) ?_
        refine Pick.T (inI64_of (by dsimp only; omega) (by dsimp only; omega)) ?_
        refine Idx.by (k2 - 1) (by dsimp only; omega) (by omega) ?_
        refine Look.by _ (edges_get e2) ?_
        refine Seg.by (by kernel_rfl) ?_
        have e3 : L[k + (k2 - 1)] = L[k + k2 - 1] := by congr 1; omega
        refine Pick.by (fun h10 => ?_) (fun h10 => ?_)
        · have h10 : L[k + k2] ≠ L[k + (k2 - 1)] := fun h => by rw [h] at h10; simp at h10
          have hlt : ltE L[k + (k2 - 1)] L[k + k2] := by
            have h11 := hsorted (k + (k2 - 1)) (k + k2) (by omega) h9 (by omega)
            unfold ltE at h11 ⊢
            rcases Int.lt_trichotomy L[k + k2].1 L[k + (k2 - 1)].1 with h | h | h
            · omega
            · rcases Int.lt_trichotomy L[k + k2].2 L[k + (k2 - 1)].2 with h' | h' | h'
              · omega
              · exact absurd (Prod.ext h h') h10
              · omega
            · omega
          refine Idx.by k2 rfl (by omega) ?_
          refine Look.by _ (edges_get e1) ?_
          have hkM : kk < M.length := by omega
          refine Idx.by kk rfl (by rw [edges_length]; exact hkM) ?_
          refine Look.by _ (edges_get (List.getElem?_eq_getElem hkM)) ?_
          refine Pick.T (inI64_of (by dsimp only; omega) (by dsimp only; omega)) ?_
          refine Pick.T (inI64_of (by dsimp only; omega) (by dsimp only; omega)) ?_
          have hsp : (M.set kk L[k + k2]).take (kk + 1) = M.take kk ++ [L[k + k2]] := by
            rw [List.take_succ_eq_append_getElem (by rw [List.length_set]; exact hkM), List.getElem_set_self, List.take_set_of_le (Nat.le_refl _)]
          have hlast : M[kk - 1]? = some L[k + (k2 - 1)] := by rw [g8, show k + k2 - 1 = k + (k2 - 1) by omega]; exact List.getElem?_eq_getElem (by omega)
          refine Next.by (kk + 1, k2 + 1, M.set kk L[k + k2]) ⟨by dsimp only; omega, by dsimp only; omega, by dsimp only; omega, by dsimp only; omega, by simpa using g5, ?_, fun x => ?_, ?_, fun j hj => ?_⟩ (by dsimp only; omega) (by refine Weak.by [(0, some _), (1, some _)] (by ((repeat' first | exact rfl | exact trivial | refine And.intro ?_ ?_) <;> (repeat' first | exact rfl | exact trivial | refine And.intro ?_ ?_)); all_goals ((rw [← edges_set]; rfl))) (by ((repeat' first | exact rfl | exact trivial | refine And.intro ?_ ?_) <;> (repeat' first | exact rfl | exact trivial | refine And.intro ?_ ?_)); all_goals ((rw [← edges_set]; rfl))) (by rfl))
          · show ((M.set kk L[k + k2]).take (kk + 1)).Pairwise ltE
            rw [hsp, List.pairwise_append]
            refine ⟨g6, by simp, fun a ha b hb => ?_⟩
            simp at hb
            subst hb
            obtain ⟨j, hj, rfl⟩ := List.mem_iff_getElem.1 ha
            rw [List.length_take] at hj
            rcases Nat.lt_or_ge j (kk - 1) with h | h
            · have h12 := List.pairwise_iff_getElem.1 g6 j (kk - 1) (by rw [List.length_take]; omega) (by rw [List.length_take]; omega) h
              have h13 : (M.take kk)[kk - 1]'(by rw [List.length_take]; omega) = L[k + (k2 - 1)] := by
                have : (M.take kk)[kk - 1]? = some L[k + (k2 - 1)] := by rw [List.getElem?_take, if_pos (by omega)]; exact hlast
                rw [List.getElem?_eq_getElem (by rw [List.length_take]; omega)] at this
                injection this
              rw [h13] at h12
              exact h12.trans hlt
            · have hj' : j = kk - 1 := by omega
              subst hj'
              have h13 : (M.take kk)[kk - 1]'(by rw [List.length_take]; omega) = L[k + (k2 - 1)] := by
                have : (M.take kk)[kk - 1]? = some L[k + (k2 - 1)] := by rw [List.getElem?_take, if_pos (by omega)]; exact hlast
                rw [List.getElem?_eq_getElem (by rw [List.length_take]; omega)] at this
                injection this
              rw [h13]
              exact hlt
          · show x ∈ (M.set kk L[k + k2]).take (kk + 1) ↔ x ∈ L.take (k + (k2 + 1))
            rw [hsp, List.mem_append, g7, show k + (k2 + 1) = k + k2 + 1 by omega, List.take_succ_eq_append_getElem h9, List.mem_append]
          · show (M.set kk L[k + k2])[kk + 1 - 1]? = L[k + (k2 + 1) - 1]?
            rw [show kk + 1 - 1 = kk by omega, show k + (k2 + 1) - 1 = k + k2 by omega, List.getElem?_set_self hkM]
            exact (List.getElem?_eq_getElem h9).symm
          · show (M.set kk L[k + k2])[j]? = L[j]?
            have hj : k + (k2 + 1) - 1 ≤ j := hj
            rw [List.getElem?_set_ne (by omega)]
            exact g9 j (by omega)
        · have h10 : L[k + k2] = L[k + (k2 - 1)] := by
            have h10 : L[k + k2].1 = L[k + (k2 - 1)].1 ∧ L[k + k2].2 = L[k + (k2 - 1)].2 := by simpa using h10
            exact Prod.ext h10.1 h10.2
          refine Pick.T (inI64_of (by dsimp only; omega) (by dsimp only; omega)) ?_
          refine Next.by (kk, k2 + 1, M) ⟨g1, by dsimp only; omega, by dsimp only; omega, by dsimp only; omega, g5, g6, fun x => ?_, ?_, fun j hj => g9 j (by dsimp only at hj; omega)⟩ (by dsimp only; omega) (by refine Weak.by [(0, some _), (1, some _)] (by ((repeat' first | exact rfl | exact trivial | refine And.intro ?_ ?_) <;> (repeat' first | exact rfl | exact trivial | refine And.intro ?_ ?_))) (by ((repeat' first | exact rfl | exact trivial | refine And.intro ?_ ?_) <;> (repeat' first | exact rfl | exact trivial | refine And.intro ?_ ?_))) (by rfl))
          · show x ∈ M.take kk ↔ x ∈ L.take (k + (k2 + 1))
            rw [g7, show k + (k2 + 1) = k + k2 + 1 by omega, List.take_succ_eq_append_getElem h9, List.mem_append]
            constructor
            · exact .inl
            · rintro (h | h)
              · exact h
              · simp at h
                rw [h, h10]
                exact List.mem_iff_getElem?.2 ⟨k + (k2 - 1), by rw [List.getElem?_take, if_pos (by omega), List.getElem?_eq_getElem]⟩
          · show M[kk - 1]? = L[k + (k2 + 1) - 1]?
            rw [g8, show k + (k2 + 1) - 1 = k + k2 by omega, List.getElem?_eq_getElem h9, List.getElem?_eq_getElem (by omega), h10, e3]
      have h9 : L.length = k + k2 := by simp at h9; omega
      refine Rng.by kk L.length rfl (by dsimp only; rw [edges_length, g5]) (by omega) (by dsimp only; rw [edges_length]; omega) ?_
      have hkL : kk ≤ (edges M).length := by rw [edges_length]; omega
      have hc1 : (cut (subOf none 0 kk L.length) (edges M)).length = L.length - kk := by
        show (((edges M).drop kk).take (L.length - kk)).length = _
        rw [List.length_take, List.length_drop, edges_length]; omega
      refine Pick.T (decide_eq_true (by
        show kk + (cut (subOf none 0 kk L.length) (edges M)).length ≤ (edges M).length
        rw [hc1, edges_length]; omega)) ?_
      have hnrm : M.take kk = normE l := hLm _ g6 fun x => by rw [g7, ← h9, List.take_length]
      have hkn : (normE l).length = kk := by rw [← hnrm, List.length_take]; omega
      have hb : kk + (List.replicate (cut (subOf none 0 kk L.length) (edges M)).length [Sc.i .i64 0, Sc.i .i64 0]).length ≤ (edges M).length := by rw [List.length_replicate, hc1, edges_length]; omega
      have hfl : (splice (edges M) kk (List.replicate (cut (subOf none 0 kk L.length) (edges M)).length [Sc.i .i64 0, Sc.i .i64 0])).take kk = edges (normE l) := by
        rw [take_spl _ _ _ hb, ← hnrm]
        simp [edges, List.map_take]
      have hsl := splice_length (edges M) kk _ hb
      refine Rng.by 0 kk rfl rfl (by omega) (by
        show kk ≤ (splice (edges M) kk (List.replicate (cut (subOf none 0 kk L.length) (edges M)).length [Sc.i .i64 0, Sc.i .i64 0])).length
        rw [hsl]; exact hkL) ?_
      refine Pick.by (fun h20 => ?_) (fun h20 => ?_)
      · have h20 : (normE l).length > 4000 := by simp at h20; omega
        have hv : normF n l = ((0, []), 5) := by rw [hval, if_pos h20]
        dsimp only
        rw [hv]
        exact ⟨rfl, rfl, ⟨rfl, ⟨rfl, rfl⟩, trivial⟩, rfl, trivial⟩
      · have h20 : ¬ (normE l).length > 4000 := by simp at h20; omega
        have hv : normF n l = ((n, normE l), 0) := by rw [hval, if_neg h20]
        dsimp only
        rw [hv]
        exact ⟨rfl, rfl, ⟨rfl, ⟨rfl, hfl.symm⟩, trivial⟩, rfl, trivial⟩
    have h8 : L[k] ≠ L[k - 1] := fun h => by rw [h] at h8; simp at h8
    refine Pick.T (inI64_of (by omega) (by omega)) ?_
    refine Next.by (k + 1) ⟨by omega, by omega, pw_step hkl hp (fun _ => ?_)⟩ (by show L.length - (k + 1) < L.length - k; omega) (by refine Weak.by [(0, some _), (1, some _)] (by ((repeat' first | exact rfl | exact trivial | refine And.intro ?_ ?_) <;> (repeat' first | exact rfl | exact trivial | refine And.intro ?_ ?_))) (by ((repeat' first | exact rfl | exact trivial | refine And.intro ?_ ?_) <;> (repeat' first | exact rfl | exact trivial | refine And.intro ?_ ?_))) (by rfl))
    have h11 := hsorted (k - 1) k (by omega) hkl (by omega)
    unfold ltE at h11 ⊢
    rcases Int.lt_trichotomy L[k].1 L[k - 1].1 with h | h | h
    · omega
    · rcases Int.lt_trichotomy L[k].2 L[k - 1].2 with h' | h' | h'
      · omega
      · exact absurd (Prod.ext h h') h8
      · omega
    · omega
  have hkl : k = L.length := by simp [edges_length] at h7; omega
  subst hkl
  rw [List.take_length] at hp
  have hfin : L = normE l := hLm L hp fun x => Iff.rfl
  rw [hfin]
  refine Pick.by (fun h20 => ?_) (fun h20 => ?_)
  · have h20 : (normE l).length > 4000 := by simp [edges_length] at h20; omega
    have hv : normF n l = ((0, []), 5) := by rw [hval, if_pos h20]
    dsimp only
    rw [hv]
    exact ⟨rfl, rfl, ⟨rfl, ⟨rfl, rfl⟩, trivial⟩, rfl, trivial⟩
  · have h20 : ¬ (normE l).length > 4000 := by simp [edges_length] at h20; omega
    have hv : normF n l = ((n, normE l), 0) := by rw [hval, if_neg h20]
    dsimp only
    rw [hv]
    exact ⟨rfl, rfl, ⟨rfl, ⟨rfl, rfl⟩, trivial⟩, rfl, trivial⟩
theorem NormG_ok : SoundC Try.prog T 56 NormC := sound_pure Try.func56 (by rfl) (by rfl) (by simp [NormC, conP]) NormG_p
end Go.Sh

set_option linter.unusedVariables false
set_option linter.unusedSimpArgs false
namespace Go.Proofs
open Go.RowKit Go.Shelf Go.Sh

attribute [local go_sem] Oper.semAt_some
/-- the edges that are left of some under new numbers -/
def Try.renE (f : Int → Int) (E : List Ed) : List Ed := E.filterMap fun p => if f p.1 ≥ 0 ∧ f p.2 ≥ 0 then some (f p.1, f p.2) else none
/-- what sub.Contract's closure tells -/
def Try.conF (hi lo x : Int) : Int := if x = hi then lo else if x > hi then x - 1 else x
end Go.Proofs

set_option linter.unusedVariables false
set_option linter.unusedSimpArgs false
namespace Go.Proofs
open Go.RowKit Go.Shelf Go.Sh

attribute [local go_sem] Oper.semAt_some
theorem Try.wide_fn (f : Nat) : Fence.wide.fn f = True := rfl
attribute [local go_sem] Try.wide_fn
end Go.Proofs

set_option linter.unusedVariables false
set_option linter.unusedSimpArgs false
namespace Go.Sh
open Go.Proofs Go.RowKit Go.Shelf
/-! ### graph.Near, graph.Has: contracts -/
end Go.Sh

set_option linter.unusedVariables false
set_option linter.unusedSimpArgs false
namespace Go.Proofs
open Go.RowKit Go.Shelf Go.Sh

attribute [local go_sem] Oper.semAt_some
theorem Try.wide_fn2 (f : Nat) : Fence.wide.fn f = True := rfl
attribute [local go_sem] Try.wide_fn2
end Go.Proofs

set_option linter.unusedVariables false
set_option linter.unusedSimpArgs false
namespace Go.Sh
open Go.Proofs Go.RowKit Go.Shelf
/-! ### sub.Delete, sub.Contract: contracts -/
end Go.Sh

set_option linter.unusedVariables false
set_option linter.unusedSimpArgs false
namespace Go.Sh
open Go.Proofs
/-! ### models of what came of a graph are models of the graph -/
theorem touch_iff {E : List Ed} {A B : List Int} : touchB E A B = true ↔ ∃ a ∈ A, ∃ b ∈ B, adjE E a b := by
  unfold touchB adjE
  rw [List.any_eq_true]
  constructor
  · rintro ⟨x, hx, h⟩
    simp only [Bool.or_eq_true, Bool.and_eq_true, List.elem_eq_mem, decide_eq_true_eq] at h
    rcases h with ⟨h1, h2⟩ | ⟨h1, h2⟩
    · exact ⟨_, h1, _, h2, .inl hx⟩
    · exact ⟨_, h2, _, h1, .inr hx⟩
  · rintro ⟨a, ha, b, hb, h | h⟩
    · exact ⟨_, h, by simp [ha, hb]⟩
    · exact ⟨_, h, by simp [ha, hb]⟩
def upR (φ : Int → Int) (lo hi : Int) (l : List Int) : List Int := if lo ∈ l then l.map φ ++ [hi] else l.map φ
theorem mem_upR {φ : Int → Int} {lo hi : Int} {l : List Int} {x : Int} : x ∈ upR φ lo hi l ↔ (∃ y ∈ l, φ y = x) ∨ (lo ∈ l ∧ x = hi) := by
  unfold upR
  split
  · rename_i h; simp [h]
  · rename_i h; simp [h]
theorem upR_head {φ : Int → Int} {lo hi : Int} {l : List Int} (h : l ≠ []) : (upR φ lo hi l).headD 0 = φ (l.headD 0) := by
  cases l with
  | nil => exact absurd rfl h
  | cons a l => unfold upR; split <;> rfl
theorem nodup_flat {S : List (List Int)} : S.flatten.Nodup ↔ (∀ l ∈ S, l.Nodup) ∧ S.Pairwise fun A B => ∀ x, x ∈ A → x ∈ B → False := by
  rw [List.nodup_iff_pairwise_ne, List.pairwise_flatten]
  constructor
  · rintro ⟨h1, h2⟩
    exact ⟨fun l hl => h1 l hl, h2.imp fun h x hx hy => h x hx x hy rfl⟩
  · rintro ⟨h1, h2⟩
    exact ⟨fun l hl => h1 l hl, h2.imp fun {A B} h x hx y hy (e : x = y) => h x hx (by rw [e]; exact hy)⟩
theorem chk_up {n n' hi lo : Int} {E E' : List Ed} {k : Int} {S : List (List Int)} {φ : Int → Int} (h : CheckP n' E' k S) (hR : RightP n E) (hin : ∀ x, 0 ≤ x ∧ x < n' → 0 ≤ φ x ∧ φ x < n) (hinj : ∀ x y, φ x = φ y → x = y)
    (hlo : 0 ≤ lo → φ lo = lo ∧ 0 ≤ hi ∧ hi < n ∧ adjE E lo hi ∧ ∀ x, φ x ≠ hi)
    (hadj : ∀ a b, adjE E' a b → adjE E (φ a) (φ b) ∨ (a = lo ∧ adjE E hi (φ b)) ∨ (b = lo ∧ adjE E (φ a) hi)) : CheckP n E k (S.map (upR φ lo hi)) := by
  obtain ⟨h1, h2, h3, h4, h5, h6⟩ := h
  have hlo' : ∀ l ∈ S, lo ∈ l → φ lo = lo ∧ 0 ≤ hi ∧ hi < n ∧ adjE E lo hi ∧ ∀ x, φ x ≠ hi := fun l hl hm => hlo ((h4 l hl).2.2.2.1 lo hm).1
  have hsym : ∀ a b, adjE E a b → adjE E b a := fun a b h => h.symm
  rw [nodup_flat] at h5
  refine ⟨hR, h2, by simpa using h3, ?_, ?_, ?_⟩
  · intro l' hl'
    obtain ⟨l, hl, rfl⟩ := List.mem_map.1 hl'
    obtain ⟨_, w2, w3, w4, w5⟩ := h4 l hl
    refine ⟨hR, ?_, ?_, ?_, ?_⟩
    · unfold upR; split
      · simp
      · simpa using w2
    · have hm : (l.map φ).Nodup := by
        rw [List.nodup_iff_pairwise_ne, List.pairwise_map]
        exact w3.imp fun hne he => hne (hinj _ _ he)
      unfold upR; split
      · rename_i hm2
        rw [List.nodup_append]
        refine ⟨hm, by simp, fun a ha b hb => ?_⟩
        obtain ⟨x, _, rfl⟩ := List.mem_map.1 ha
        simp at hb; subst hb
        exact (hlo' l hl hm2).2.2.2.2 x
      · exact hm
    · intro x hx
      rcases mem_upR.1 hx with ⟨y, hy, rfl⟩ | ⟨hm, rfl⟩
      · exact hin _ (w4 y hy)
      · exact ⟨(hlo' l hl hm).2.1, (hlo' l hl hm).2.2.1⟩
    · have hs : l.headD 0 ∈ l := by cases l with
        | nil => exact absurd rfl w2
        | cons a l => simp
      have hmem : ∀ x, Rch E' l (l.headD 0) x → x ∈ l := fun x hx => by
        cases hx with
        | base => exact hs
        | step _ _ hv => exact hv
      have key : ∀ x, Rch E' l (l.headD 0) x → Rch E (upR φ lo hi l) (φ (l.headD 0)) (φ x) := by
        intro x hx
        induction hx with
        | base => exact .base
        | @step u v hu ha hv ih =>
          have hvm : φ v ∈ upR φ lo hi l := mem_upR.2 (.inl ⟨v, hv, rfl⟩)
          rcases hadj u v ha with h | ⟨rfl, h⟩ | ⟨rfl, h⟩
          · exact .step ih h hvm
          · have hum := hmem _ hu
            obtain ⟨q1, q2, q3, q4, q5⟩ := hlo' l hl hum
            rw [q1] at ih
            exact .step (.step ih q4 (mem_upR.2 (.inr ⟨hum, rfl⟩))) h hvm
          · obtain ⟨q1, q2, q3, q4, q5⟩ := hlo' l hl hv
            refine .step (.step ih h (mem_upR.2 (.inr ⟨hv, rfl⟩))) ?_ hvm
            rw [q1]; exact hsym _ _ q4
      intro x hx
      rw [upR_head w2]
      rcases mem_upR.1 hx with ⟨y, hy, rfl⟩ | ⟨hm, rfl⟩
      · exact key y (w5 y hy)
      · obtain ⟨q1, q2, q3, q4, q5⟩ := hlo' l hl hm
        have := key lo (w5 lo hm)
        rw [q1] at this
        exact .step this q4 hx
  · rw [nodup_flat]
    refine ⟨?_, ?_⟩
    · intro l' hl'
      obtain ⟨l, hl, rfl⟩ := List.mem_map.1 hl'
      have hm : (l.map φ).Nodup := by
        rw [List.nodup_iff_pairwise_ne, List.pairwise_map]
        exact (h4 l hl).2.2.1.imp fun hne he => hne (hinj _ _ he)
      unfold upR; split
      · rename_i hm2
        rw [List.nodup_append]
        refine ⟨hm, by simp, fun a ha b hb => ?_⟩
        obtain ⟨x, _, rfl⟩ := List.mem_map.1 ha
        simp at hb; subst hb
        exact (hlo' l hl hm2).2.2.2.2 x
      · exact hm
    · rw [List.pairwise_map]
      refine h5.2.imp_of_mem fun {A B} hA hB hd => ?_
      intro x hx hy
      rcases mem_upR.1 hx with ⟨a, ha, rfl⟩ | ⟨hm, rfl⟩
      · rcases mem_upR.1 hy with ⟨b, hb, hab⟩ | ⟨hm2, he⟩
        · exact hd a ha (by rw [← hinj _ _ hab]; exact hb)
        · exact (hlo' B hB hm2).2.2.2.2 a he
      · rcases mem_upR.1 hy with ⟨b, hb, hab⟩ | ⟨hm2, _⟩
        · exact (hlo' A hA hm).2.2.2.2 b hab
        · exact hd _ hm hm2
  · intro q hq
    have hlen := (patG_ok k).2.2.2 q hq
    have ht := touch_iff.1 (h6 q hq)
    have hat : ∀ i : Int, 0 ≤ i → i < (patG k).1 → setAt (S.map (upR φ lo hi)) i = upR φ lo hi (setAt S i) ∧ setAt S i ∈ S := fun i h0 hi' => by
      have hlt : i.toNat < S.length := by omega
      unfold setAt
      rw [List.getD_eq_getElem?_getD, List.getD_eq_getElem?_getD, List.getElem?_map, List.getElem?_eq_getElem hlt]
      exact ⟨rfl, List.getElem_mem hlt⟩
    obtain ⟨e1, m1⟩ := hat q.1 hlen.1 (by omega)
    obtain ⟨e2, m2⟩ := hat q.2 (by omega) hlen.2.2
    rw [e1, e2]
    obtain ⟨a, ha, b, hb, hab⟩ := ht
    refine touch_iff.2 ?_
    rcases hadj a b hab with h | ⟨rfl, h⟩ | ⟨rfl, h⟩
    · exact ⟨_, mem_upR.2 (.inl ⟨a, ha, rfl⟩), _, mem_upR.2 (.inl ⟨b, hb, rfl⟩), h⟩
    · exact ⟨_, mem_upR.2 (.inr ⟨ha, rfl⟩), _, mem_upR.2 (.inl ⟨b, hb, rfl⟩), h⟩
    · exact ⟨_, mem_upR.2 (.inl ⟨a, ha, rfl⟩), _, mem_upR.2 (.inr ⟨hb, rfl⟩), h⟩
/-! ### what came of a deletion, of a contraction -/
end Go.Sh

set_option linter.unusedVariables false
set_option linter.unusedSimpArgs false
namespace Go.Sh
open Go.Proofs
/-! ### carcanetlaw08.MinorCheck, MinorNone -/
end Go.Sh

set_option linter.unusedVariables false
set_option linter.unusedSimpArgs false
namespace Go.Sh
open Go.Proofs
/-! ### MinorDrop, MinorLift -/
end Go.Sh

set_option linter.unusedVariables false
set_option linter.unusedSimpArgs false
namespace Go.Sh
open Go.Proofs Go.RowKit
/-! ### slices.Clone of steps -/
attribute [local go_sem] Oper.semAt_some
theorem tSE : Try.prog.underlying 22 = some (TypeDesc.slice 60) := by kernel_rfl
theorem iSE : (Try.prog.info? 60).map (fun i => (i.zero, i.size, i.bytes)) = some (some (.agg #[.int .i64 0, .int .i64 0]), 2, 16) := by kernel_rfl
set_option maxRecDepth 100000 in
set_option maxHeartbeats 2000000 in
theorem clone_emptyE (A : Option Addr) (c : Nat) (w : World) : Calls Try.prog 57 #[.slice A 0 c] w fun e w' => ∃ B c', e = .returned (.slice B 0 c') ∧ Frm (fun _ => False) w w' ∧ ((B = none ∧ c' = 0) ∨ ∃ gb cur T, B = some ⟨gb, 0, none⟩ ∧ w.heap.size ≤ gb ∧ w'.heap[gb]? = some (.cells cur T (0, 0)) ∧ c' * 2 ≤ cur.size ∧ c' ≤ 9223372036854775807) := by
  have t22 := tSE
  obtain ⟨i0, hi, hz0, hz1, hz2⟩ := info_parts iSE
  have q22 : ∀ (w : World) (a : Option Addr) (n c n' c' : Nat), (binOp .eql 22 (.slice a n c) (.slice none n' c')).run Try.prog w = .ok (.bool a.isNone) w := fun w a n c n' c' => Lib.run_eql_slice_nil w _ _ a n c n' c' tSE
  have u22 : ∀ w, Sem.run Try.prog (underlying 22) w = .ok (TypeDesc.slice 60) w := run_underlying t22
  refine (callsIn_wide (n := 6)).1 ?_
  refine callsIn_of_wp Try.func57 rfl trivial ?_ rfl
  simp only [Try.ntmps57, List.size_toArray, List.length_cons, List.length_nil, Nat.reduceAdd, Nat.reduceSub, Array.replicate_succ, Array.replicate_zero, List.push_toArray, List.append_toArray, List.nil_append, List.cons_append]
  cases A with
  | none =>
    gi_wp2
    go_ret
    exact ⟨_, _, rfl, Frm.refl _ _, .inl ⟨rfl, rfl⟩⟩
  | some a =>
    gi_wp2_with (gi_at_builtin; refine wpListIn_append_own _ rfl _ _ 22 rfl w.heap.size 60 i0 _ 2 16 t22 hi hz0 hz1 hz2 rfl (by decide) _ _ _ rfl (World.ownsRow_made w #[] 0 (Nat.le_refl _) (Nat.zero_le _) rfl) a 0 c [] rfl rfl (by intro j u hj; simp at hj) (by intro u hu; cases hu) (by unfold maxLen; omega) (by omega) (by simp) ?_)
    intro v' w1 hown hgrow hnil
    gi_wp2
    go_ret
    have hb : Below w.heap.size w w1 := ((Below.refl _ w).alloc (Nat.le_refl _) _).grown hgrow (by simp) (by intro k hk; simp [Value.ownBlock] at hk; omega)
    have hf : Frm (fun _ => False) w w1 := ⟨hb.os, .of hb.tape, hb.output, hb.size, fun b h _ => hb.block b h⟩
    rcases hown.2 with ⟨rfl, _⟩ | ⟨gb, cap', cur, rfl, hbase, hgb, r1, r2, r3, r4⟩
    · exact ⟨_, _, rfl, hf, .inl ⟨rfl, rfl⟩⟩
    · refine ⟨_, _, rfl, hf, .inr ⟨gb, cur, _, rfl, hbase, hgb, ?_, ?_⟩⟩
      · omega
      · unfold maxLen at *; omega
noncomputable def CloneCE : Con := conP 1 (fun l : List Ed => l.length ≤ 1000000) (fun l => [.one (.flat false 2 (edges l))]) (fun l => .one (.flat true 2 (edges l)))
theorem CloneC_atE {l : List Ed} (h : l.length ≤ 1000000) : CloneCE.F [.one (.flat false 2 (edges l))] = some (.one (.flat true 2 (edges l)), []) :=
  conP_at (a := l) (fun a b _ _ h => by simp at h; rw [edges_inj h]) h
theorem Clone_okE : SoundC Try.prog T 57 CloneCE := by
  refine sound_pure Try.func57 (by rfl) (by rfl) (by simp [CloneCE, conP]) ?_
  have hfull : SoundP Try.prog 57 (conF (fun l : List Ed => l.length ≤ 1000000 ∧ l ≠ []) (fun l => [.one (.flat false 2 (edges l))]) (fun l => .one (.flat true 2 (edges l)))) := by
    refine con_pure (X := { Γ := [], T := T, nt := 8 }) cr_none hmix hT sound_nil Try.func57 (by rfl) (by rfl) (by rfl) 1 ?_
    rintro l ⟨hl, hne⟩
    refine ⟨⟨Nat.le_of_ble_eq_true rfl, Nat.le_of_ble_eq_true rfl⟩, ?_⟩
    have hpos : 0 < l.length := List.length_pos_iff.2 hne
    refine Pick.T (by rw [edges_length]; simpa using hpos) ?_
    refine Pick.T (by simp [cut, edges_length]; omega) ?_
    exact ⟨rfl, rfl, rfl⟩
  intro vs r outs hF w us hus
  obtain ⟨l, hl, rfl, rfl⟩ := conF_inv (pre := fun l : List Ed => l.length ≤ 1000000) (enc := fun l => [.one (.flat false 2 (edges l))]) (val := fun l => .one (.flat true 2 (edges l))) hF
  by_cases hne : l = []
  · subst hne
    obtain ⟨u, hu, x, hx, hFl⟩ : ∃ u, us = #[u] ∧ CellOk w noLab 0 (.flat false 2 (edges [])) u := by
      obtain ⟨us⟩ := us
      match us, hus with
      | [u], hus => exact ⟨u, rfl, hus.1⟩
      | [], hus => exact hus.elim
      | _ :: _ :: _, hus => exact hus.2.elim
    subst hu
    subst hx
    refine (clone_emptyE x.A x.c w).mono ?_
    rintro e w' ⟨B, c', rfl, hf, hB⟩
    rcases hB with ⟨rfl, rfl⟩ | ⟨gb, cur, T', rfl, h1, h2, h3, h4⟩
    · exact ⟨_, noLab, rfl, hf, fun b k h => by simp [noLab] at h, ⟨⟨none, 0, fun _ => none, fun _ => 0⟩, rfl, FlatOk.nil (by omega)⟩⟩
    · have hlt : gb < w'.heap.size := by
        rcases Nat.lt_or_ge gb w'.heap.size with h | h
        · exact h
        · simp [Array.getElem?_eq_none h] at h2
      refine ⟨_, fun b => if b = gb then some (0, none) else none, rfl, hf, fun b k h => ?_, ⟨⟨some ⟨gb, 0, none⟩, c', fun _ => none, fun _ => 0⟩, rfl, ?_⟩⟩
      · dsimp only at h
        split at h
        · rename_i e; subst e; exact ⟨h1, hlt⟩
        · simp at h
      · exact { fits := Nat.zero_le _, pos := by omega, even := fun i row h => by simp [edges] at h, cell := fun i row j x h => by simp [edges] at h, room := fun _ => .inr ⟨gb, 0, cur, T', rfl, if_pos rfl, h2, by dsimp only; omega, h4⟩ }
  · exact hfull _ _ _ (conF_at (fun a b _ _ h => by simp at h; rw [edges_inj h]) ⟨hl, hne⟩) w us hus

/-! ### graph.Add -/
def addF (n : Int) (E : List Ed) (a b : Int) : (Int × List Ed) × Int := if RightP n E then (if mnI a b < 0 ∨ mxI a b ≥ n then ((0, []), 4) else if a = b then ((0, []), 1) else normF n (E ++ [(a, b)])) else ((0, []), 1)
noncomputable def AddC : Con := conP 3 (fun a : (Int × List Ed) × Int × Int => a.1.2.length ≤ 999999) (fun a => [grV a.1.1 a.1.2, .one (.s (.i .i64 a.2.1)), .one (.s (.i .i64 a.2.2))]) (fun a => .tup [grO (addF a.1.1 a.1.2 a.2.1 a.2.2).1.1 (addF a.1.1 a.1.2 a.2.1 a.2.2).1.2, .one (.s (.i .i64 (addF a.1.1 a.1.2 a.2.1 a.2.2).2))])
theorem AddC_at {n : Int} {E : List Ed} (a b : Int) (h : E.length ≤ 999999) : AddC.F [grV n E, .one (.s (.i .i64 a)), .one (.s (.i .i64 b))] = some (.tup [grO (addF n E a b).1.1 (addF n E a b).1.2, .one (.s (.i .i64 (addF n E a b).2))], []) :=
  conP_at (a := ((n, E), a, b)) (fun x y _ _ h => by
    obtain ⟨⟨n, E⟩, a, b⟩ := x
    obtain ⟨⟨n', E'⟩, a', b'⟩ := y
    simp at h
    obtain ⟨h1, h2, h3⟩ := h
    obtain ⟨rfl, rfl⟩ := grV_inj h1
    subst h2 h3
    rfl) h
set_option maxHeartbeats 1000000 in
theorem Add_ok : SoundC Try.prog T 29 AddC := by
  refine sound_con (X := { Γ := [(39, RightC), (57, CloneCE), (56, NormC)], T := T, nt := 45 }) cr_none hmix hT (sound_cons RightG_ok (sound_cons Clone_okE (sound_cons NormG_ok sound_nil))) Try.func29 (by rfl) (by rfl) (by rfl) (by rfl) 4 ?_
  rintro ⟨⟨n, E⟩, a, b⟩ hl
  dsimp only at hl
  refine ⟨⟨Nat.le_of_ble_eq_true rfl, Nat.le_of_ble_eq_true rfl⟩, ?_⟩
  refine Call.by _ _ (RightC_at n E) ?_
  refine Pick.by (fun h1 => ?_) (fun h1 => ?_)
  · have h1 : ¬ RightP n E := by simpa using h1
    have hv : addF n E a b = ((0, []), 1) := if_neg h1
    dsimp only
    rw [hv]
    exact ⟨rfl, rfl, ⟨rfl, ⟨rfl, rfl⟩, trivial⟩, rfl, trivial⟩
  have h1 : RightP n E := by simpa using h1
  refine Pick.by (fun h2 => ?_) (fun h2 => ?_)
  · have h2 : mnI a b < 0 := of_decide_eq_true h2
    have hv : addF n E a b = ((0, []), 4) := by unfold addF; rw [if_pos h1, if_pos (.inl h2)]
    dsimp only
    rw [hv]
    exact ⟨rfl, rfl, ⟨rfl, ⟨rfl, rfl⟩, trivial⟩, rfl, trivial⟩
  have h2 : ¬ mnI a b < 0 := of_decide_eq_false h2
  refine Pick.by (fun h3 => ?_) (fun h3 => ?_)
  · have h3 : mxI a b ≥ n := of_decide_eq_true h3
    have hv : addF n E a b = ((0, []), 4) := by unfold addF; rw [if_pos h1, if_pos (.inr h3)]
    dsimp only
    rw [hv]
    exact ⟨rfl, rfl, ⟨rfl, ⟨rfl, rfl⟩, trivial⟩, rfl, trivial⟩
  have h3 : ¬ mxI a b ≥ n := of_decide_eq_false h3
  refine Pick.by (fun h4 => ?_) (fun h4 => ?_)
  · have h4 : a = b := by simpa using h4
    have hv : addF n E a b = ((0, []), 1) := by unfold addF; rw [if_pos h1, if_neg (by omega), if_pos h4]
    dsimp only
    rw [hv]
    exact ⟨rfl, rfl, ⟨rfl, ⟨rfl, rfl⟩, trivial⟩, rfl, trivial⟩
  have h4 : a ≠ b := by simpa using h4
  have hv : addF n E a b = normF n (E ++ [(a, b)]) := by unfold addF; rw [if_pos h1, if_neg (by omega), if_neg h4]
  dsimp only
  rw [hv]
  refine Call.by _ _ (CloneC_atE (by omega)) ?_
  refine Pick.T (by simp [cut, edges_length]; omega) ?_
  have hN := NormC_at (n := n) (l := E ++ [(a, b)]) (by simp; omega)
  rw [edges_snoc] at hN
  refine Call.by _ _ hN ?_
  refine Seg.by (by kernel_rfl) ?_
  exact ⟨rfl, rfl, ⟨rfl, ⟨rfl, rfl⟩, trivial⟩, rfl, trivial⟩
/-! ### slices.Index on edges -/
end Go.Sh

set_option linter.unusedVariables false
set_option linter.unusedSimpArgs false
namespace Go.Sh
open Go.Proofs
/-! ### MinorGrows -/
theorem grow_up {n a b : Int} {E : List Ed} {k : Int} {S : List (List Int)} (hR' : RightP n (normE (E ++ [(a, b)]))) (hR : RightP n E) (h : CheckP n E k S) : CheckP n (normE (E ++ [(a, b)])) k S := by
  have hu := chk_up (φ := fun x => x) (lo := -1) (hi := 0) h hR' (fun x hx => hx) (fun x y hxy => hxy) (fun h => absurd h (by omega)) (fun p q hpq => by
    refine .inl ?_
    have key : ∀ p q : Int, (p, q) ∈ E → (p, q) ∈ normE (E ++ [(a, b)]) := fun p q hm => by
      have hok := hR.2.2.2.1 _ hm
      unfold okE at hok
      dsimp only at hok
      refine mem_normE.2 ⟨(p, q), by simp [hm], by dsimp only; omega, ?_⟩
      unfold edN mnI mxI
      dsimp only
      rw [if_neg (by omega), if_pos (by omega)]
    exact hpq.elim (fun h => .inl (key _ _ h)) (fun h => .inr (key _ _ h)))
  have he : S.map (upR (fun x => x) (-1) 0) = S := by
    conv => rhs; rw [← List.map_id S]
    refine List.map_congr_left fun l hl => ?_
    have hr := (h.2.2.2.1 l hl).2.2.2.1
    unfold upR
    rw [if_neg (fun hm => by have := hr _ hm; omega)]
    simp
  rw [← he]; exact hu
theorem add_val {n a b : Int} {E : List Ed} (hR : RightP n E) (hl : E.length ≤ 300) (ha : 0 ≤ a ∧ a < n) (hb : 0 ≤ b ∧ b < n) (hne : a ≠ b) : addF n E a b = ((n, normE (E ++ [(a, b)])), 0) ∧ RightP n (normE (E ++ [(a, b)])) := by
  have hin : ∀ p ∈ E ++ [(a, b)], inR n p := fun p hp => by
    rcases List.mem_append.1 hp with hp | hp
    · have := hR.2.2.2.1 _ hp; unfold okE at this; unfold inR; omega
    · simp at hp; subst hp; unfold inR; dsimp only; omega
  have hlen : (normE (E ++ [(a, b)])).length ≤ 4000 := Nat.le_trans (normE_length _) (by simp; omega)
  refine ⟨?_, hR.1, hR.2.1, hlen, normE_ok (fun p hp => by have := hin p hp; unfold inR at this; exact this), normE_sorted _⟩
  unfold addF mnI mxI
  rw [if_pos hR, if_neg (by split <;> split <;> omega), if_neg hne]
  unfold normF
  rw [if_neg (by have := hR.1; omega), if_neg (by have := hR.2.1; omega), if_pos hin, if_neg (by omega)]
noncomputable def MGrowsF := conF (fun _ : (Int × List Ed) × (Int × Int) × Mo => True) (fun a => [grV a.1.1 a.1.2, .agg [.s (.i .i64 a.2.1.1), .s (.i .i64 a.2.1.2)], moV false a.2.2.1 a.2.2.2]) (fun _ => .one (.s (.b true)))
set_option maxHeartbeats 1000000 in
theorem MGrows_ok : SoundP Try.prog 10 MGrowsF := by
  refine con_pure (X := { Γ := [(28, ShownC), (16, OfC), (30, SmallC), (27, CheckC), (29, AddC)], T := T, nt := Try.f10.ntmps }) cr_none hmix hT (sound_cons (Shown_ok Unlike_ok) (sound_cons Of_ok (sound_cons Small_ok (sound_cons (Check_ok Unlike_ok) (sound_cons Add_ok sound_nil))))) Try.func10 (by rfl) (by rfl) (by rfl) 6 ?_
  rintro ⟨⟨n, E⟩, ⟨x, y⟩, k, S⟩ -
  refine ⟨⟨Nat.le_of_ble_eq_true rfl, Nat.le_of_ble_eq_true rfl⟩, ?_⟩
  refine Call.by _ _ ShownC_at ?_
  refine Call.by _ _ (OfC_at n E (most := 20) (by omega)) ?_
  have hR := any_right (n := n) (l := E) (most := 20) (by omega) (by omega)
  have hF3 : (anyE n E 20).length ≤ 300 := Nat.le_trans (normE_length _) (anyL_length _ _)
  obtain ⟨m, hm⟩ : ∃ m, anyN n 20 = m := ⟨_, rfl⟩
  obtain ⟨F, hF⟩ : ∃ F, anyE n E 20 = F := ⟨_, rfl⟩
  rw [hm, hF] at hR ⊢
  rw [hF] at hF3
  have hFl := hR.2.2.1
  have hm1 := hR.2.1
  refine Pick.by (fun h1 => ?_) (fun h1 => ?_)
  · exact ⟨rfl, rfl⟩
  have h1 : ¬ m < 2 := of_decide_eq_false h1
  have hxl := low_range x
  have hyl := low_range y
  have hr := tmod_range hxl.1 (show 0 < m by omega)
  have hq := tmod_range hyl.1 (show 0 < m - 1 by omega)
  have hb := tmod_range (show 0 ≤ (low x).tmod m + 1 + (low y).tmod (m - 1) by omega) (show 0 < m by omega)
  have hne : (low x).tmod m ≠ ((low x).tmod m + 1 + (low y).tmod (m - 1)).tmod m := by
    rw [Int.tmod_eq_emod_of_nonneg (show 0 ≤ (low x).tmod m + 1 + (low y).tmod (m - 1) by omega)]
    rcases Int.lt_or_le ((low x).tmod m + 1 + (low y).tmod (m - 1)) m with h | h
    · rw [Int.emod_eq_of_lt (by omega) h]; omega
    · rw [← Int.sub_emod_right, Int.emod_eq_of_lt (by omega) (by omega)]; omega
  refine Idx.by 0 rfl (by decide) ?_
  refine Pick.F (beq_eq_false_iff_ne.2 (by omega)) ?_
  refine Pick.T (inI64_of (by show _ ≤ (low x).tmod m + 1; omega) (by show (low x).tmod m + 1 ≤ _; omega)) ?_
  refine Idx.by 1 rfl (by decide) ?_
  refine Pick.T (inI64_of (by omega) (by omega)) ?_
  refine Pick.F (beq_eq_false_iff_ne.2 (by omega)) ?_
  refine Pick.T (inI64_of (by show _ ≤ (low x).tmod m + 1 + (low y).tmod (m - 1); omega) (by show (low x).tmod m + 1 + (low y).tmod (m - 1) ≤ _; omega)) ?_
  refine Pick.F (beq_eq_false_iff_ne.2 (by omega)) ?_
  refine Seg.by (by kernel_rfl) ?_
  obtain ⟨hd, hR'⟩ := add_val hR hF3 hr hb hne
  have hD := AddC_at (n := m) (E := F) ((low x).tmod m) (((low x).tmod m + 1 + (low y).tmod (m - 1)).tmod m) (by omega)
  rw [hd] at hD
  have hcs := cut_small S
  refine Call.by _ _ hD ?_
  refine Call.by _ _ (SmallC_at k S) ?_
  refine Call.by _ _ (CheckC_at (n := m) (E := F) (k := k) hcs) ?_
  refine Pick.by (fun h2 => ?_) (fun h2 => ?_)
  · exact ⟨rfl, rfl⟩
  have h2 : checkB m F k (cutSets S) = true := by
    have h2 : (!checkB m F k (cutSets S)) = false := h2
    simpa using h2
  have hup := grow_up hR' hR (checkB_iff.1 h2)
  have hfin := CheckC_at (n := m) (E := normE (F ++ [((low x).tmod m, ((low x).tmod m + 1 + (low y).tmod (m - 1)).tmod m)])) (k := k) hcs
  rw [checkB_iff.2 hup] at hfin
  refine Call.by _ _ hfin ?_
  exact ⟨rfl, rfl⟩
end Go.Sh

set_option linter.unusedVariables false
set_option linter.unusedSimpArgs false
namespace Go.Sh
open Go.Proofs
/-! ### carcanetlaw08.MinorMoves -/
def i64 (x : Int) : Prop := -9223372036854775808 ≤ x ∧ x ≤ 9223372036854775807
def rows64 (S : List (List Int)) : Prop := ∀ l ∈ S, ∀ x ∈ l, i64 x
def clI (x : Int) : Int := mnI x 4611686018427387904
def clP (j : Nat) (row : List Int) : List Int := (row.take j).map clI ++ row.drop j
theorem clP_all (row : List Int) (j : Nat) (h : row.length ≤ j) : clP j row = row.map clI := by
  unfold clP
  rw [List.take_of_length_le h, List.drop_eq_nil_of_le h, List.append_nil]
theorem clP_zero (row : List Int) : clP 0 row = row := by simp [clP]
def ClI (S : List (List Int)) (i j : Nat) (R : List (List Int)) : Prop := R.length = S.length ∧ ∀ r row, S[r]? = some row → R[r]? = some (if r < i then row.map clI else if r = i then clP j row else row)
theorem ClI.at {S R : List (List Int)} {i j : Nat} (h : ClI S i j R) {row : List Int} (hi : S[i]? = some row) : R[i]? = some (clP j row) := by
  have := h.2 i row hi
  rwa [if_neg (by omega), if_pos rfl] at this
theorem ClI.step {S R : List (List Int)} {i j : Nat} (h : ClI S i j R) {row : List Int} (hi : S[i]? = some row) : ClI S i (j + 1) (R.set i (clP (j + 1) row)) := by
  refine ⟨by rw [List.length_set]; exact h.1, fun r w hr => ?_⟩
  rw [List.getElem?_set]
  by_cases e : i = r
  · subst e
    rw [hi] at hr
    injection hr with hr
    subst hr
    rw [if_pos rfl, if_pos (by rw [h.1]; exact (List.getElem?_eq_some_iff.1 hi).1), if_neg (by omega), if_pos rfl]
  · rw [if_neg e, h.2 r w hr, if_neg (show ¬ r = i by omega), if_neg (show ¬ r = i by omega)]
theorem ClI.next {S R : List (List Int)} {i j : Nat} (h : ClI S i j R) {row : List Int} (hi : S[i]? = some row) (hj : row.length ≤ j) : ClI S (i + 1) 0 R := by
  refine ⟨h.1, fun r w hr => ?_⟩
  rw [h.2 r w hr]
  by_cases e : r < i
  · rw [if_pos e, if_pos (by omega)]
  · by_cases e2 : r = i
    · subst e2
      rw [hi] at hr
      injection hr with hr
      subst hr
      rw [if_neg e, if_pos rfl, if_pos (by omega), clP_all _ _ hj]
    · rw [if_neg e, if_neg e2, if_neg (by omega)]
      split
      · rw [clP_zero]
      · rfl
theorem ClI.done {S R : List (List Int)} {i : Nat} (h : ClI S i 0 R) (hi : S.length ≤ i) : R = S.map fun l => l.map clI := by
  apply List.ext_getElem?
  intro r
  by_cases hr : r < S.length
  · rw [h.2 r _ (List.getElem?_eq_getElem hr), if_pos (by omega)]
    simp [hr]
  · rw [List.getElem?_eq_none (by rw [h.1]; omega), List.getElem?_eq_none (by simp; omega)]
theorem ClI.zero (S : List (List Int)) : ClI S 0 0 S := ⟨rfl, fun r row h => by
  rw [if_neg (by omega), clP_zero]
  split <;> exact h⟩
end Go.Sh

set_option linter.unusedVariables false
set_option linter.unusedSimpArgs false
namespace Go.Sh
open Go.Proofs
/-! ### what is handed in, as data -/
theorem VTy.struct {T : Tab} {t : Nat} {ti : TI} {fs : List (Nat × Nat)} {v : V} (ht : lk T t = some ti) (hk : ti.kind = .struct fs) (h : VTy T t v) : ∃ cs, v = .agg cs ∧ All2 (fun (f : Nat × Nat) c => CTy T f.2 c) fs cs := by
  unfold VTy at h
  rw [ht] at h
  simp only at h
  rw [hk] at h
  exact h
theorem VTy.cell {T : Tab} {t : Nat} {ti : TI} {v : V} (ht : lk T t = some ti) (hk : ∀ fs, ti.kind ≠ .struct fs ∧ ∀ n e, ti.kind ≠ .array n e) (h : VTy T t v) : ∃ c, v = .one c ∧ CTy T t c := by
  unfold VTy at h
  rw [ht] at h
  simp only at h
  cases hq : ti.kind with
  | struct fs => exact absurd hq (hk fs).1
  | array n e => exact absurd hq ((hk []).2 n e)
  | _ => rw [hq] at h; exact h
theorem VTy.array {T : Tab} {t : Nat} {ti : TI} {n e : Nat} {v : V} (ht : lk T t = some ti) (hk : ti.kind = .array n e) (h : VTy T t v) : ∃ cs, v = .agg cs ∧ cs.length = n ∧ ∀ c ∈ cs, CTy T e c := by
  unfold VTy at h
  rw [ht] at h
  simp only at h
  rw [hk] at h
  exact h
theorem ScTy.int {T : Tab} {t : Nat} {ti : TI} {k : IntKind} {x : Sc} (ht : lk T t = some ti) (hk : ti.kind = .int k) (h : ScTy T t x) : ∃ n, x = .i k n ∧ (Lit.int k n).wf = true := by
  unfold ScTy at h
  rw [ht] at h
  simp only at h
  rw [hk] at h
  cases x with
  | i k' n => obtain ⟨rfl, h⟩ := h; exact ⟨n, rfl, h⟩
  | b _ => exact h.elim
theorem CTy.sc {T : Tab} {t : Nat} {c : C} (hs : sliceE T t = none) (h : CTy T t c) : ∃ x, c = .s x ∧ ScTy T t x := by
  unfold CTy at h
  rw [hs] at h
  exact h
theorem CTy.flat {T : Tab} {t e : Nat} {c : C} (hs : sliceE T t = some e) (hs2 : sliceE T e = none) (h : CTy T t c) : ∃ rows, c = .flat false (sizeT T e) rows ∧ FlatTy T e rows := by
  unfold CTy at h
  rw [hs] at h
  simp only at h
  rw [hs2] at h
  exact h
theorem CTy.nest {T : Tab} {t e e2 : Nat} {c : C} (hs : sliceE T t = some e) (hs2 : sliceE T e = some e2) (h : CTy T t c) : ∃ rows, c = .nest false (sizeT T e2) rows ∧ rows.length ≤ maxLen ∧ ∀ fl ∈ rows, FlatTy T e2 fl := by
  unfold CTy at h
  rw [hs] at h
  simp only at h
  rw [hs2] at h
  exact h
theorem i64_wf {n : Int} (h : (Lit.int .i64 n).wf = true) : i64 n := by
  simp [Lit.wf, IntKind.min, IntKind.max, IntKind.signed, IntKind.bits] at h
  exact h
theorem list_ex {α β : Type} {P : α → β → Prop} : ∀ {l : List α}, (∀ x ∈ l, ∃ y, P x y) → ∃ m : List β, All2 P l m := by
  intro l
  induction l with
  | nil => intro _; exact ⟨[], All2.nil⟩
  | cons x l ih =>
    intro h
    obtain ⟨y, hy⟩ := h x (by simp)
    obtain ⟨m, hm⟩ := ih fun x hx => h x (by simp [hx])
    exact ⟨y :: m, All2.cons' hy hm⟩
theorem All2.map_eq {α β : Type} {f : β → α} {l : List α} {m : List β} (h : All2 (fun x y => x = f y) l m) : l = m.map f := by
  apply List.ext_getElem?
  intro i
  rw [List.getElem?_map]
  by_cases hi : i < l.length
  · have him : i < m.length := by rw [← h.1]; exact hi
    rw [List.getElem?_eq_getElem hi, List.getElem?_eq_getElem him, Option.map_some, h.2 i _ _ (List.getElem?_eq_getElem hi) (List.getElem?_eq_getElem him)]
  · rw [List.getElem?_eq_none (by omega), List.getElem?_eq_none (by rw [← h.1]; omega)]; rfl
theorem All2.mem {α β : Type} {R : α → β → Prop} {l : List α} {m : List β} (h : All2 R l m) {y : β} (hy : y ∈ m) : ∃ x ∈ l, R x y := by
  obtain ⟨i, hi⟩ := List.mem_iff_getElem?.1 hy
  have hl := (List.getElem?_eq_some_iff.1 hi).1
  rw [← h.1] at hl
  exact ⟨_, List.getElem_mem hl, h.2 i _ y (List.getElem?_eq_getElem hl) hi⟩
/-! #### at this program's types -/
theorem row_int {row : Row} (h : RowTy T 3 row) : ∃ n, row = [.i .i64 n] ∧ i64 n := by
  obtain ⟨x, rfl, hx⟩ := h
  obtain ⟨n, rfl, hw⟩ := ScTy.int (t := 3) rfl rfl hx
  exact ⟨n, rfl, i64_wf hw⟩
theorem ints_of {fl : Flat} (h : FlatTy T 3 fl) : ∃ l : List Int, fl = ints l ∧ l.length ≤ maxLen ∧ ∀ x ∈ l, i64 x := by
  obtain ⟨m, hm⟩ := list_ex (P := fun row n => row = [Sc.i .i64 n] ∧ i64 n) fun row hr => row_int (h.2 row hr)
  refine ⟨m, All2.map_eq (f := fun n => [Sc.i .i64 n]) (hm.imp fun _ _ _ k => k.1), by rw [← hm.1]; exact h.1, fun x hx => ?_⟩
  obtain ⟨_, _, k⟩ := hm.mem hx
  exact k.2
theorem rows_of {rows : List Flat} (h : ∀ fl ∈ rows, FlatTy T 3 fl) : ∃ S : List (List Int), rows = rowsI S ∧ rows64 S ∧ ∀ l ∈ S, l.length ≤ maxLen := by
  obtain ⟨m, hm⟩ := list_ex (P := fun (fl : Flat) l => fl = ints l ∧ l.length ≤ maxLen ∧ ∀ x ∈ l, i64 x) fun fl hf => ints_of (h fl hf)
  refine ⟨m, All2.map_eq (hm.imp fun _ _ _ k => k.1), fun l hl => ?_, fun l hl => ?_⟩
  · obtain ⟨_, _, k⟩ := hm.mem hl; exact k.2.2
  · obtain ⟨_, _, k⟩ := hm.mem hl; exact k.2.1
theorem All2.two {α β : Type} {R : α → β → Prop} {a b : α} {m : List β} (h : All2 R [a, b] m) : ∃ x y, m = [x, y] ∧ R a x ∧ R b y := by
  obtain ⟨h1, h2⟩ := h
  match m, h1, h2 with
  | [x, y], _, h2 => exact ⟨x, y, rfl, h2 0 a x rfl rfl, h2 1 b y rfl rfl⟩
theorem All2.one {α β : Type} {R : α → β → Prop} {a : α} {m : List β} (h : All2 R [a] m) : ∃ x, m = [x] ∧ R a x := by
  obtain ⟨h1, h2⟩ := h
  match m, h1, h2 with
  | [x], _, h2 => exact ⟨x, rfl, h2 0 a x rfl rfl⟩
theorem All2.three {α β : Type} {R : α → β → Prop} {a b c : α} {m : List β} (h : All2 R [a, b, c] m) : ∃ x y z, m = [x, y, z] ∧ R a x ∧ R b y ∧ R c z := by
  obtain ⟨h1, h2⟩ := h
  match m, h1, h2 with
  | [x, y, z], _, h2 => exact ⟨x, y, z, rfl, h2 0 a x rfl rfl, h2 1 b y rfl rfl, h2 2 c z rfl rfl⟩
theorem row_edge {row : Row} (h : RowTy T 60 row) : ∃ p : Ed, row = [.i .i64 p.1, .i .i64 p.2] ∧ i64 p.1 ∧ i64 p.2 := by
  obtain ⟨_, h⟩ := h
  obtain ⟨x, y, rfl, hx, hy⟩ := All2.two h
  obtain ⟨n, rfl, hn⟩ := ScTy.int (t := 3) rfl rfl hx
  obtain ⟨m, rfl, hm⟩ := ScTy.int (t := 3) rfl rfl hy
  exact ⟨(n, m), rfl, i64_wf hn, i64_wf hm⟩
theorem edges_of {fl : Flat} (h : FlatTy T 60 fl) : ∃ E : List Ed, fl = edges E ∧ E.length ≤ maxLen ∧ ∀ p ∈ E, i64 p.1 ∧ i64 p.2 := by
  obtain ⟨m, hm⟩ := list_ex (P := fun row (p : Ed) => row = [Sc.i .i64 p.1, Sc.i .i64 p.2] ∧ i64 p.1 ∧ i64 p.2) fun row hr => row_edge (h.2 row hr)
  refine ⟨m, All2.map_eq (f := fun p : Ed => [Sc.i .i64 p.1, Sc.i .i64 p.2]) (hm.imp fun _ _ _ k => k.1), by rw [← hm.1]; exact h.1, fun x hx => ?_⟩
  obtain ⟨_, _, k⟩ := hm.mem hx
  exact k.2
theorem model_of {v : V} (h : VTy T 47 v) : ∃ k S, v = moV false k S ∧ i64 k ∧ rows64 S := by
  obtain ⟨cs, rfl, hcs⟩ := VTy.struct (t := 47) rfl rfl h
  obtain ⟨x, y, rfl, hx, hy⟩ := All2.two hcs
  obtain ⟨z, rfl, hz⟩ := CTy.sc (t := 3) rfl hx
  obtain ⟨n, rfl, hw⟩ := ScTy.int (t := 3) rfl rfl hz
  obtain ⟨rows, rfl, _, hr⟩ := CTy.nest (t := 28) (e := 29) (e2 := 3) rfl rfl hy
  obtain ⟨S, rfl, hS, _⟩ := rows_of hr
  exact ⟨n, S, rfl, i64_wf hw, hS⟩
theorem net_of {v : V} (h : VTy T 24 v) : ∃ n E, v = grV n E ∧ i64 n ∧ ∀ p ∈ E, i64 p.1 ∧ i64 p.2 := by
  obtain ⟨cs, rfl, hcs⟩ := VTy.struct (t := 24) rfl rfl h
  obtain ⟨x, y, rfl, hx, hy⟩ := All2.two hcs
  obtain ⟨z, rfl, hz⟩ := CTy.sc (t := 3) rfl hx
  obtain ⟨n, rfl, hw⟩ := ScTy.int (t := 3) rfl rfl hz
  obtain ⟨rows, rfl, hr⟩ := CTy.flat (t := 22) (e := 60) rfl rfl hy
  obtain ⟨E, rfl, _, hE⟩ := edges_of hr
  exact ⟨n, E, rfl, i64_wf hw, hE⟩
end Go.Sh

set_option linter.unusedVariables false
namespace Go.Sh
open Go.Proofs
theorem own : ownKnob Try.prog.godebug = none := by kernel_rfl
theorem laidOut : laidOutB Try.prog = true := by kernel_rfl
set_option maxRecDepth 100000 in
/-- A law whose function answers true, whatever comes. -/
theorem law_row {s : ChangeSpec} {f : FuncId} {fn : Func} {conds : List PathCond} {apart fresh handsOn : Bool} {ts : List TypeId} {F : List V → Option (V × List V)} (hf : Try.prog.funcs[f]? = some fn) (hin : Try.prog.inits.idxOf? f = none) (hv : s.vars = [])
    (hts : fn.params.toList = ts) (ha : ts.all (argB T) = true) (hr : ts.all (fun t => Try.prog.readableRec t && Nat.blt t Try.prog.types.size) = true) (hres : fn.resultTypes = #[4])
    (hsp : ∀ (H : Type) (ds : List (DataW H)), ds.length = ts.length → (s.fn H ds).results = [.lit (.bool true)] ∧ (s.fn H ds).args = ds ∧ (s.fn H ds).vars = [])
    (hS : SoundP Try.prog f F) (hF : LawV T ts F) (os : Os) (started : os.Started) (H : Type) (enc : TypeId × Value → H) (a : Assume)
    (hw : ∃ (w : World) (tape : Tape) (i : Input), w.os = os ∧ (w.forCall tape i).Shaped Try.checked.prog ∧ i.vars = [] ∧ Input.okWide Try.checked.prog (w.forCall tape i) .any w.heap.size f i ∧
      s.pre6 enc Try.checked.prog fn conds apart (w.forCall tape i).memory i.args ∧ a.holds Try.checked.prog (lone (Frame.enter Try.checked.prog f i.args .normal) [] (w.forCall tape i))) :
    ReturnsInHanded a Try.checked os f .any (s.pre6 enc Try.checked.prog fn conds apart) (s.post enc Try.checked.prog fn apart fresh handsOn false) := by
  refine returnsInHanded_of_change (C := Try.checked) own started hin hf hw ?_
  intro W base args ds gs before hval hW _ _
  refine law_contract (P := Try.prog) (conds := conds) hT laidOut hv hts ha (fun t ht => ?_) hres Try.underlying4 (hsp H) hS hF hval hW
  have := List.all_eq_true.1 hr t ht
  simp only [Bool.and_eq_true] at this
  exact ⟨this.1, Nat.le_of_ble_eq_true this.2⟩
end Go.Sh

set_option linter.unusedVariables false
namespace Go.Sh
open Go.Proofs
/-! ### two numbers in an array -/
theorem two_of {v : V} (h : VTy T 51 v) : ∃ a b : Int, v = .agg [.s (.i .i64 a), .s (.i .i64 b)] ∧ i64 a ∧ i64 b := by
  obtain ⟨cs, rfl, hl, hc⟩ := VTy.array (t := 51) (n := 2) (e := 3) rfl rfl h
  match cs, hl, hc with
  | [x, y], _, hc =>
    obtain ⟨p, rfl, hp⟩ := CTy.sc (t := 3) rfl (hc x (by simp))
    obtain ⟨a, rfl, ha⟩ := ScTy.int (t := 3) rfl rfl hp
    obtain ⟨q, rfl, hq⟩ := CTy.sc (t := 3) rfl (hc y (by simp))
    obtain ⟨b, rfl, hb⟩ := ScTy.int (t := 3) rfl rfl hq
    exact ⟨a, b, rfl, i64_wf ha, i64_wf hb⟩
end Go.Sh
