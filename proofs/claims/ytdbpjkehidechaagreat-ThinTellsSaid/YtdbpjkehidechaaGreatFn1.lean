/- What the functions answer that the statement reaches. No condition. -/
import Derived.Test.YtdbpjkehidechaaGreatEn3
import Derived.Test.YtdbpjkehidechaaGreatProg
import Derived.KernelRfl
import Derived.Shelf.Sort.Plain
import Derived.Shelf.Slices.In.SortNone
import Derived.Shelf.Slices.CompactI
import Derived.Shelf.Slices.Delete
import Derived.Shelf.Slices.Empties
import Derived.Shelf.Spec.SlicesInsertGrow
import Derived.Shelf.Spec.SlicesInsert
import Derived.Ground.NamesProg
import Derived.Ground.Names2Prog
import Derived.Ground.Names8Prog
import Derived.Shelf.Spec.SlicesGrow
import Derived.Shelf.SlSortCmp.NoneTotal
import Derived.Ground.SlsfProg
import Derived.Deep.RegionLaw
import Derived.RangeFuncBox
import Derived.RangeFuncLeaves
import Derived.Shelf.Abstract
import Derived.WalkKit
import Derived.OwnWalkIn
import Derived.TacticsInMore
import Derived.LoopNIn
import Derived.LoopIn
import Derived.Maps.AppendAt
import Derived.Sort.OwnSorted
import Derived.Shelf.SlIterI.Sorted
set_option linter.unusedVariables false
set_option linter.unusedSimpArgs false
set_option linter.unusedSectionVars false
namespace Go.Sh
open Go.Proofs
def T : Tab := [
 (1, ⟨.other, 1, 8, [.bad], false, [1]⟩),
 (2, ⟨.int .i64, 1, 8, [.s (.i .i64 0)], false, [2]⟩),
 (3, ⟨.int .i64, 1, 8, [.s (.i .i64 0)], false, [3]⟩),
 (4, ⟨.bool, 1, 1, [.s (.b false)], false, [4]⟩),
 (5, ⟨.int .u8, 1, 1, [.s (.i .u8 0)], false, [5]⟩),
 (6, ⟨.int .u8, 1, 1, [.s (.i .u8 0)], false, [6]⟩),
 (7, ⟨.struct [(0, 2), (1, 3), (2, 4), (3, 6)], 4, 24, [.s (.i .i64 0), .s (.i .i64 0), .s (.b false), .s (.i .u8 0)], true, [2, 3, 4, 6]⟩),
 (8, ⟨.struct [(0, 2), (1, 3), (2, 4), (3, 6)], 4, 24, [.s (.i .i64 0), .s (.i .i64 0), .s (.b false), .s (.i .u8 0)], true, [2, 3, 4, 6]⟩),
 (12, ⟨.int .u64, 1, 8, [.s (.i .u64 0)], false, [12]⟩),
 (17, ⟨.ptr 189, 1, 8, [.bad], false, [17]⟩),
 (18, ⟨.struct [(0, 17)], 1, 8, [.bad], false, [17]⟩),
 (19, ⟨.struct [(0, 17)], 1, 8, [.bad], false, [17]⟩),
 (21, ⟨.int .i32, 1, 4, [.s (.i .i32 0)], false, [21]⟩),
 (22, ⟨.slice 43, 1, 24, [.nils], false, [22]⟩),
 (23, ⟨.struct [(0, 3), (1, 22)], 2, 32, [.s (.i .i64 0), .nils], false, [3, 22]⟩),
 (24, ⟨.struct [(0, 3), (1, 22)], 2, 32, [.s (.i .i64 0), .nils], false, [3, 22]⟩),
 (25, ⟨.other, 1, 8, [.bad], false, [25]⟩),
 (26, ⟨.struct [(0, 3), (1, 22)], 2, 32, [.s (.i .i64 0), .nils], false, [3, 22]⟩),
 (27, ⟨.other, 1, 8, [.bad], false, [27]⟩),
 (28, ⟨.slice 3, 1, 24, [.nils], false, [28]⟩),
 (29, ⟨.slice 28, 1, 24, [.nils], false, [29]⟩),
 (30, ⟨.struct [(0, 3), (1, 28), (2, 29)], 3, 56, [.s (.i .i64 0), .nils, .nils], false, [3, 28, 29]⟩),
 (31, ⟨.struct [(0, 3), (1, 28), (2, 29)], 3, 56, [.s (.i .i64 0), .nils, .nils], false, [3, 28, 29]⟩),
 (33, ⟨.other, 1, 8, [.bad], false, [33]⟩),
 (34, ⟨.struct [(0, 3), (1, 28), (2, 29)], 3, 56, [.s (.i .i64 0), .nils, .nils], false, [3, 28, 29]⟩),
 (36, ⟨.other, 1, 8, [.bad], false, [36]⟩),
 (37, ⟨.other, 1, 8, [.bad], false, [37]⟩),
 (38, ⟨.other, 1, 8, [.bad], false, [38]⟩),
 (39, ⟨.other, 1, 8, [.bad], false, [39]⟩),
 (40, ⟨.other, 1, 8, [.bad], false, [40]⟩),
 (41, ⟨.array 4 3, 4, 32, [.s (.i .i64 0), .s (.i .i64 0), .s (.i .i64 0), .s (.i .i64 0)], false, [3, 3, 3, 3]⟩),
 (42, ⟨.struct [(0, 3), (1, 3)], 2, 16, [.s (.i .i64 0), .s (.i .i64 0)], true, [3, 3]⟩),
 (43, ⟨.struct [(0, 3), (1, 3)], 2, 16, [.s (.i .i64 0), .s (.i .i64 0)], true, [3, 3]⟩),
 (44, ⟨.int .i64, 1, 8, [.s (.i .i64 0)], false, [44]⟩),
 (46, ⟨.other, 1, 8, [.bad], false, [46]⟩),
 (47, ⟨.other, 1, 8, [.bad], false, [47]⟩),
 (48, ⟨.other, 1, 8, [.bad], false, [48]⟩),
 (49, ⟨.other, 1, 8, [.bad], false, [49]⟩),
 (50, ⟨.struct [(0, 3), (1, 29)], 2, 32, [.s (.i .i64 0), .nils], false, [3, 29]⟩),
 (51, ⟨.struct [(0, 3), (1, 29)], 2, 32, [.s (.i .i64 0), .nils], false, [3, 29]⟩),
 (52, ⟨.other, 1, 8, [.bad], false, [52]⟩),
 (53, ⟨.other, 1, 8, [.bad], false, [53]⟩),
 (54, ⟨.other, 1, 8, [.bad], false, [54]⟩),
 (55, ⟨.other, 1, 8, [.bad], false, [55]⟩),
 (56, ⟨.other, 1, 8, [.bad], false, [56]⟩),
 (57, ⟨.other, 1, 8, [.bad], false, [57]⟩),
 (58, ⟨.other, 1, 8, [.bad], false, [58]⟩),
 (59, ⟨.other, 1, 8, [.bad], false, [59]⟩),
 (60, ⟨.other, 1, 8, [.bad], false, [60]⟩),
 (61, ⟨.other, 1, 8, [.bad], false, [61]⟩),
 (62, ⟨.other, 1, 8, [.bad], false, [62]⟩),
 (63, ⟨.other, 1, 8, [.bad], false, [63]⟩),
 (64, ⟨.other, 1, 8, [.bad], false, [64]⟩),
 (65, ⟨.other, 1, 8, [.bad], false, [65]⟩),
 (66, ⟨.other, 1, 8, [.bad], false, [66]⟩),
 (67, ⟨.other, 1, 8, [.bad], false, [67]⟩),
 (68, ⟨.other, 1, 8, [.bad], false, [68]⟩),
 (69, ⟨.other, 1, 8, [.bad], false, [69]⟩),
 (70, ⟨.other, 1, 8, [.bad], false, [70]⟩),
 (71, ⟨.other, 1, 8, [.bad], false, [71]⟩),
 (72, ⟨.other, 1, 8, [.bad], false, [72]⟩),
 (73, ⟨.other, 1, 8, [.bad], false, [73]⟩),
 (74, ⟨.other, 1, 8, [.bad], false, [74]⟩),
 (75, ⟨.other, 1, 8, [.bad], false, [75]⟩),
 (76, ⟨.other, 1, 8, [.bad], false, [76]⟩),
 (77, ⟨.other, 1, 8, [.bad], false, [77]⟩),
 (78, ⟨.map 43 3 true 2, 1, 8, [.bad], false, [78]⟩),
 (79, ⟨.slice 81, 1, 24, [.nils], false, [79]⟩),
 (80, ⟨.other, 1, 8, [.bad], false, [80]⟩),
 (81, ⟨.array 2 3, 2, 16, [.s (.i .i64 0), .s (.i .i64 0)], false, [3, 3]⟩),
 (82, ⟨.other, 1, 8, [.bad], false, [82]⟩),
 (83, ⟨.other, 1, 8, [.bad], false, [83]⟩),
 (84, ⟨.other, 1, 8, [.bad], false, [84]⟩),
 (85, ⟨.other, 1, 8, [.bad], false, [85]⟩),
 (86, ⟨.other, 1, 8, [.bad], false, [86]⟩),
 (87, ⟨.int .u64, 1, 8, [.s (.i .u64 0)], false, [87]⟩),
 (88, ⟨.other, 1, 8, [.bad], false, [88]⟩),
 (89, ⟨.other, 1, 8, [.bad], false, [89]⟩),
 (91, ⟨.other, 1, 8, [.bad], false, [91]⟩),
 (92, ⟨.slice 130, 1, 24, [.nils], false, [92]⟩),
 (93, ⟨.struct [(0, 92), (1, 28), (2, 22)], 3, 72, [.nils, .nils, .nils], false, [92, 28, 22]⟩),
 (94, ⟨.struct [(0, 92), (1, 28), (2, 22)], 3, 72, [.nils, .nils, .nils], false, [92, 28, 22]⟩),
 (95, ⟨.other, 1, 8, [.bad], false, [95]⟩),
 (96, ⟨.slice 136, 1, 24, [.nils], false, [96]⟩),
 (97, ⟨.struct [(0, 96), (1, 28), (2, 22)], 3, 72, [.nils, .nils, .nils], false, [96, 28, 22]⟩),
 (98, ⟨.struct [(0, 96), (1, 28), (2, 22)], 3, 72, [.nils, .nils, .nils], false, [96, 28, 22]⟩),
 (99, ⟨.other, 1, 8, [.bad], false, [99]⟩),
 (100, ⟨.other, 1, 8, [.bad], false, [100]⟩),
 (101, ⟨.other, 1, 8, [.bad], false, [101]⟩),
 (102, ⟨.other, 1, 8, [.bad], false, [102]⟩),
 (103, ⟨.other, 1, 8, [.bad], false, [103]⟩),
 (104, ⟨.other, 1, 8, [.bad], false, [104]⟩),
 (105, ⟨.array 6 81, 12, 96, [.s (.i .i64 0), .s (.i .i64 0), .s (.i .i64 0), .s (.i .i64 0), .s (.i .i64 0), .s (.i .i64 0), .s (.i .i64 0), .s (.i .i64 0), .s (.i .i64 0), .s (.i .i64 0), .s (.i .i64 0), .s (.i .i64 0)], false, [3, 3, 3, 3, 3, 3, 3, 3, 3, 3, 3, 3]⟩),
 (106, ⟨.array 3 81, 6, 48, [.s (.i .i64 0), .s (.i .i64 0), .s (.i .i64 0), .s (.i .i64 0), .s (.i .i64 0), .s (.i .i64 0)], false, [3, 3, 3, 3, 3, 3]⟩),
 (107, ⟨.other, 1, 8, [.bad], false, [107]⟩),
 (109, ⟨.other, 1, 8, [.bad], false, [109]⟩),
 (110, ⟨.other, 1, 8, [.bad], false, [110]⟩),
 (111, ⟨.int .i64, 1, 8, [.s (.i .i64 0)], false, [111]⟩),
 (113, ⟨.other, 1, 8, [.bad], false, [113]⟩),
 (114, ⟨.other, 1, 8, [.bad], false, [114]⟩),
 (115, ⟨.other, 1, 8, [.bad], false, [115]⟩),
 (116, ⟨.other, 1, 8, [.bad], false, [116]⟩),
 (117, ⟨.other, 1, 8, [.bad], false, [117]⟩),
 (118, ⟨.int .u32, 1, 4, [.s (.i .u32 0)], false, [118]⟩),
 (119, ⟨.other, 1, 8, [.bad], false, [119]⟩),
 (120, ⟨.int .u64, 1, 8, [.s (.i .u64 0)], false, [120]⟩),
 (121, ⟨.slice 4, 1, 24, [.nils], false, [121]⟩),
 (122, ⟨.struct [(0, 29), (1, 121)], 2, 48, [.nils, .nils], false, [29, 121]⟩),
 (123, ⟨.struct [(0, 29), (1, 121)], 2, 48, [.nils, .nils], false, [29, 121]⟩),
 (124, ⟨.other, 1, 8, [.bad], false, [124]⟩),
 (125, ⟨.struct [(0, 28)], 1, 24, [.nils], false, [28]⟩),
 (126, ⟨.struct [(0, 28)], 1, 24, [.nils], false, [28]⟩),
 (127, ⟨.other, 1, 8, [.bad], false, [127]⟩),
 (128, ⟨.other, 1, 8, [.bad], false, [128]⟩),
 (129, ⟨.struct [(0, 3), (1, 3), (2, 3), (3, 4)], 4, 32, [.s (.i .i64 0), .s (.i .i64 0), .s (.i .i64 0), .s (.b false)], true, [3, 3, 3, 4]⟩),
 (130, ⟨.struct [(0, 3), (1, 3), (2, 3), (3, 4)], 4, 32, [.s (.i .i64 0), .s (.i .i64 0), .s (.i .i64 0), .s (.b false)], true, [3, 3, 3, 4]⟩),
 (131, ⟨.other, 1, 8, [.bad], false, [131]⟩),
 (132, ⟨.other, 1, 8, [.bad], false, [132]⟩),
 (133, ⟨.other, 1, 8, [.bad], false, [133]⟩),
 (134, ⟨.ptr 158, 1, 8, [.bad], false, [134]⟩),
 (135, ⟨.other, 1, 8, [.bad], false, [135]⟩),
 (136, ⟨.struct [(0, 3), (1, 3), (2, 3), (3, 4)], 4, 32, [.s (.i .i64 0), .s (.i .i64 0), .s (.i .i64 0), .s (.b false)], true, [3, 3, 3, 4]⟩),
 (137, ⟨.other, 1, 8, [.bad], false, [137]⟩),
 (138, ⟨.other, 1, 8, [.bad], false, [138]⟩),
 (139, ⟨.other, 1, 8, [.bad], false, [139]⟩),
 (140, ⟨.other, 1, 8, [.bad], false, [140]⟩),
 (141, ⟨.other, 1, 8, [.bad], false, [141]⟩),
 (142, ⟨.other, 1, 8, [.bad], false, [142]⟩),
 (143, ⟨.other, 1, 8, [.bad], false, [143]⟩),
 (144, ⟨.other, 1, 8, [.bad], false, [144]⟩),
 (145, ⟨.other, 1, 8, [.bad], false, [145]⟩),
 (146, ⟨.other, 1, 8, [.bad], false, [146]⟩),
 (147, ⟨.other, 1, 8, [.bad], false, [147]⟩),
 (148, ⟨.other, 1, 8, [.bad], false, [148]⟩),
 (149, ⟨.int .u64, 1, 8, [.s (.i .u64 0)], false, [149]⟩),
 (150, ⟨.other, 1, 8, [.bad], false, [150]⟩),
 (151, ⟨.other, 1, 8, [.bad], false, [151]⟩),
 (152, ⟨.other, 1, 8, [.bad], false, [152]⟩),
 (153, ⟨.ptr 3, 1, 8, [.bad], false, [153]⟩),
 (154, ⟨.other, 1, 8, [.bad], false, [154]⟩),
 (155, ⟨.ptr 126, 1, 8, [.bad], false, [155]⟩),
 (156, ⟨.slice 121, 1, 24, [.nils], false, [156]⟩),
 (157, ⟨.struct [(0, 121), (1, 156)], 2, 48, [.nils, .nils], false, [121, 156]⟩),
 (158, ⟨.struct [(0, 121), (1, 156)], 2, 48, [.nils, .nils], false, [121, 156]⟩),
 (159, ⟨.other, 1, 8, [.bad], false, [159]⟩),
 (160, ⟨.other, 1, 8, [.bad], false, [160]⟩),
 (161, ⟨.other, 1, 8, [.bad], false, [161]⟩),
 (162, ⟨.other, 1, 8, [.bad], false, [162]⟩),
 (163, ⟨.other, 1, 8, [.bad], false, [163]⟩),
 (164, ⟨.other, 1, 8, [.bad], false, [164]⟩),
 (165, ⟨.other, 1, 8, [.bad], false, [165]⟩),
 (166, ⟨.other, 1, 8, [.bad], false, [166]⟩),
 (167, ⟨.ptr 149, 1, 8, [.bad], false, [167]⟩),
 (168, ⟨.other, 1, 8, [.bad], false, [168]⟩),
 (169, ⟨.other, 1, 8, [.bad], false, [169]⟩),
 (170, ⟨.other, 1, 8, [.bad], false, [170]⟩),
 (171, ⟨.other, 1, 8, [.bad], false, [171]⟩),
 (172, ⟨.other, 1, 8, [.bad], false, [172]⟩),
 (173, ⟨.other, 1, 8, [.bad], false, [173]⟩),
 (174, ⟨.other, 1, 8, [.bad], false, [174]⟩),
 (175, ⟨.other, 1, 8, [.bad], false, [175]⟩),
 (176, ⟨.other, 1, 8, [.bad], false, [176]⟩),
 (182, ⟨.int .u8, 1, 1, [.s (.i .u8 0)], false, [182]⟩),
 (183, ⟨.int .u8, 1, 1, [.s (.i .u8 0)], false, [183]⟩),
 (184, ⟨.other, 1, 8, [.bad], false, [184]⟩),
 (185, ⟨.ptr 5, 1, 8, [.bad], false, [185]⟩),
 (186, ⟨.int .i32, 1, 4, [.s (.i .i32 0)], false, [186]⟩),
 (187, ⟨.int .i32, 1, 4, [.s (.i .i32 0)], false, [187]⟩),
 (188, ⟨.struct [(0, 12), (1, 12), (2, 118), (3, 182), (4, 5), (5, 5), (6, 183), (7, 184), (8, 185), (9, 186), (10, 187)], 11, 48, [.s (.i .u64 0), .s (.i .u64 0), .s (.i .u32 0), .s (.i .u8 0), .s (.i .u8 0), .s (.i .u8 0), .s (.i .u8 0), .bad, .bad, .s (.i .i32 0), .s (.i .i32 0)], false, [12, 12, 118, 182, 5, 5, 183, 184, 185, 186, 187]⟩),
 (189, ⟨.struct [(0, 12), (1, 12), (2, 118), (3, 182), (4, 5), (5, 5), (6, 183), (7, 184), (8, 185), (9, 186), (10, 187)], 11, 48, [.s (.i .u64 0), .s (.i .u64 0), .s (.i .u32 0), .s (.i .u8 0), .s (.i .u8 0), .s (.i .u8 0), .s (.i .u8 0), .bad, .bad, .s (.i .i32 0), .s (.i .i32 0)], false, [12, 12, 118, 182, 5, 5, 183, 184, 185, 186, 187]⟩)]
theorem hT : TabOk Go.Proofs.Tryz.prog T := tab_ok (by kernel_rfl)
theorem hmix : Tryz.prog.follows .mixedOrders = true := by kernel_rfl
end Go.Sh
namespace Go.Proofs
open Go.Shelf
def Tryz.laysSort_ren : Go.Shelf.Ren := ⟨fun | 189 => 81 | 125 => 62 | 257 => 117 | 128 => 93 | 129 => 94 | 294 => 133 | 295 => 134 | 296 => 135 | 297 => 136 | 298 => 137 | 299 => 138 | 216 => 118 | 300 => 139 | 301 => 140 | 328 => 146 | 329 => 121 | 330 => 122 | 331 => 147 | 332 => 148 | 215 => 63 | 343 => 151 | n => n, fun | 28 => 28 | 3 => 3 | 46 => 87 | 0 => 0 | 51 => 118 | 53 => 120 | 4 => 4 | 183 => 112 | 182 => 111 | 131 => 108 | 5 => 5 | 9 => 9 | 218 => 149 | 222 => 153 | 228 => 167 | 229 => 90 | n => n, fun | n => n⟩
theorem Tryz.laysSort : Go.Proofs.Lays.n189 Tryz.prog Tryz.laysSort_ren := {
 mixed := by kernel_rfl
 f125 := Tryz.func62.trans (congrArg some (by kernel_rfl))
 f128 := Tryz.func93.trans (congrArg some (by kernel_rfl))
 f129 := Tryz.func94.trans (congrArg some (by kernel_rfl))
 f189 := Tryz.func81.trans (congrArg some (by kernel_rfl))
 f215 := Tryz.func63.trans (congrArg some (by kernel_rfl))
 f216 := Tryz.func118.trans (congrArg some (by kernel_rfl))
 f257 := Tryz.func117.trans (congrArg some (by kernel_rfl))
 f294 := Tryz.func133.trans (congrArg some (by kernel_rfl))
 f295 := Tryz.func134.trans (congrArg some (by kernel_rfl))
 f296 := Tryz.func135.trans (congrArg some (by kernel_rfl))
 f297 := Tryz.func136.trans (congrArg some (by kernel_rfl))
 f298 := Tryz.func137.trans (congrArg some (by kernel_rfl))
 f299 := Tryz.func138.trans (congrArg some (by kernel_rfl))
 f300 := Tryz.func139.trans (congrArg some (by kernel_rfl))
 f301 := Tryz.func140.trans (congrArg some (by kernel_rfl))
 f328 := Tryz.func146.trans (congrArg some (by kernel_rfl))
 f329 := Tryz.func121.trans (congrArg some (by kernel_rfl))
 f330 := Tryz.func122.trans (congrArg some (by kernel_rfl))
 f331 := Tryz.func147.trans (congrArg some (by kernel_rfl))
 f332 := Tryz.func148.trans (congrArg some (by kernel_rfl))
 f343 := Tryz.func151.trans (congrArg some (by kernel_rfl))
 t0 := Tryz.underlying0
 a0 := Tryz.isAgg0
 z0 := Tryz.sizeOf0
 v0 := Tryz.zeroValue0
 t3 := Tryz.underlying3
 a3 := Tryz.isAgg3
 z3 := Tryz.sizeOf3
 v3 := Tryz.zeroValue3
 t4 := Tryz.underlying4
 a4 := Tryz.isAgg4
 z4 := Tryz.sizeOf4
 v4 := Tryz.zeroValue4
 t5 := Tryz.underlying5
 a5 := Tryz.isAgg5
 z5 := Tryz.sizeOf5
 v5 := Tryz.zeroValue5
 t9 := Tryz.underlying9
 a9 := Tryz.isAgg9
 z9 := Tryz.sizeOf9
 v9 := Tryz.zeroValue9
 t28 := Tryz.underlying28
 a28 := Tryz.isAgg28
 z28 := Tryz.sizeOf28
 v28 := Tryz.zeroValue28
 t46 := Tryz.underlying87
 a46 := Tryz.isAgg87
 z46 := Tryz.sizeOf87
 v46 := Tryz.zeroValue87
 t51 := Tryz.underlying118
 a51 := Tryz.isAgg118
 z51 := Tryz.sizeOf118
 v51 := Tryz.zeroValue118
 t53 := Tryz.underlying120
 a53 := Tryz.isAgg120
 z53 := Tryz.sizeOf120
 v53 := Tryz.zeroValue120
 t131 := Tryz.underlying108
 a131 := Tryz.isAgg108
 z131 := Tryz.sizeOf108
 v131 := Tryz.zeroValue108
 t182 := Tryz.underlying111
 a182 := Tryz.isAgg111
 z182 := Tryz.sizeOf111
 v182 := Tryz.zeroValue111
 t183 := Tryz.underlying112
 a183 := Tryz.isAgg112
 z183 := Tryz.sizeOf112
 v183 := Tryz.zeroValue112
 t218 := Tryz.underlying149
 a218 := Tryz.isAgg149
 z218 := Tryz.sizeOf149
 v218 := Tryz.zeroValue149
 t222 := Tryz.underlying153
 a222 := Tryz.isAgg153
 z222 := Tryz.sizeOf153
 v222 := Tryz.zeroValue153
 t228 := Tryz.underlying167
 a228 := Tryz.isAgg167
 z228 := Tryz.sizeOf167
 v228 := Tryz.zeroValue167
 t229 := Tryz.underlying90
 a229 := Tryz.isAgg90
 z229 := Tryz.sizeOf90
 v229 := Tryz.zeroValue90 }
def Tryz.laysCompact_ren : Go.Shelf.Ren := ⟨fun | 20 => 116 | n => n, fun | 22 => 28 | 3 => 3 | 4 => 4 | 0 => 0 | n => n, fun | n => n⟩
theorem Tryz.laysCompact : Go.Proofs.Lays2.n20 Tryz.prog Tryz.laysCompact_ren := {
 mixed := by kernel_rfl
 f20 := Tryz.func116.trans (congrArg some (by kernel_rfl))
 t0 := Tryz.underlying0
 a0 := Tryz.isAgg0
 z0 := Tryz.sizeOf0
 v0 := Tryz.zeroValue0
 t3 := Tryz.underlying3
 a3 := Tryz.isAgg3
 z3 := Tryz.sizeOf3
 v3 := Tryz.zeroValue3
 t4 := Tryz.underlying4
 a4 := Tryz.isAgg4
 z4 := Tryz.sizeOf4
 v4 := Tryz.zeroValue4
 t22 := Tryz.underlying28
 a22 := Tryz.isAgg28
 z22 := Tryz.sizeOf28
 v22 := Tryz.zeroValue28
 i3 := by kernel_rfl }
def Tryz.laysInsert_ren : Go.Shelf.Ren := ⟨fun | 21 => 143 | 27 => 149 | 28 => 150 | 35 => 152 | 39 => 153 | n => n, fun | 22 => 28 | 3 => 3 | 4 => 4 | 0 => 0 | n => n, fun | n => n⟩
theorem Tryz.laysInsert : Go.Proofs.Lays2.n21 Tryz.prog Tryz.laysInsert_ren := {
 mixed := by kernel_rfl
 f21 := Tryz.func143.trans (congrArg some (by kernel_rfl))
 f27 := Tryz.func149.trans (congrArg some (by kernel_rfl))
 f28 := Tryz.func150.trans (congrArg some (by kernel_rfl))
 f35 := Tryz.func152.trans (congrArg some (by kernel_rfl))
 f39 := Tryz.func153.trans (congrArg some (by kernel_rfl))
 t0 := Tryz.underlying0
 a0 := Tryz.isAgg0
 z0 := Tryz.sizeOf0
 v0 := Tryz.zeroValue0
 t3 := Tryz.underlying3
 a3 := Tryz.isAgg3
 z3 := Tryz.sizeOf3
 v3 := Tryz.zeroValue3
 t4 := Tryz.underlying4
 a4 := Tryz.isAgg4
 z4 := Tryz.sizeOf4
 v4 := Tryz.zeroValue4
 t22 := Tryz.underlying28
 a22 := Tryz.isAgg28
 z22 := Tryz.sizeOf28
 v22 := Tryz.zeroValue28
 i3 := by kernel_rfl }
def Tryz.laysDelete_ren : Go.Shelf.Ren := ⟨fun | 23 => 142 | n => n, fun | 22 => 28 | 3 => 3 | 4 => 4 | 0 => 0 | n => n, fun | n => n⟩
theorem Tryz.laysDelete : Go.Proofs.Lays2.n23 Tryz.prog Tryz.laysDelete_ren := {
 mixed := by kernel_rfl
 f23 := Tryz.func142.trans (congrArg some (by kernel_rfl))
 t0 := Tryz.underlying0
 a0 := Tryz.isAgg0
 z0 := Tryz.sizeOf0
 v0 := Tryz.zeroValue0
 t3 := Tryz.underlying3
 a3 := Tryz.isAgg3
 z3 := Tryz.sizeOf3
 v3 := Tryz.zeroValue3
 t4 := Tryz.underlying4
 a4 := Tryz.isAgg4
 z4 := Tryz.sizeOf4
 v4 := Tryz.zeroValue4
 t22 := Tryz.underlying28
 a22 := Tryz.isAgg28
 z22 := Tryz.sizeOf28
 v22 := Tryz.zeroValue28
 i3 := by kernel_rfl }
def Tryz.laysSearch_ren : Go.Shelf.Ren := ⟨fun | 25 => 82 | 31 => 118 | 32 => 119 | 37 => 63 | n => n, fun | 22 => 28 | 3 => 3 | 4 => 4 | 40 => 87 | 0 => 0 | n => n, fun | n => n⟩
theorem Tryz.laysSearch : Go.Proofs.Lays2.n25 Tryz.prog Tryz.laysSearch_ren := {
 mixed := by kernel_rfl
 f25 := Tryz.func82.trans (congrArg some (by kernel_rfl))
 f31 := Tryz.func118.trans (congrArg some (by kernel_rfl))
 f32 := Tryz.func119.trans (congrArg some (by kernel_rfl))
 f37 := Tryz.func63.trans (congrArg some (by kernel_rfl))
 t0 := Tryz.underlying0
 a0 := Tryz.isAgg0
 z0 := Tryz.sizeOf0
 v0 := Tryz.zeroValue0
 t3 := Tryz.underlying3
 a3 := Tryz.isAgg3
 z3 := Tryz.sizeOf3
 v3 := Tryz.zeroValue3
 t4 := Tryz.underlying4
 a4 := Tryz.isAgg4
 z4 := Tryz.sizeOf4
 v4 := Tryz.zeroValue4
 t22 := Tryz.underlying28
 a22 := Tryz.isAgg28
 z22 := Tryz.sizeOf28
 v22 := Tryz.zeroValue28
 t40 := Tryz.underlying87
 a40 := Tryz.isAgg87
 z40 := Tryz.sizeOf87
 v40 := Tryz.zeroValue87 }
def Tryz.laysSortR_ren : Go.Shelf.Ren := ⟨fun | 6 => 27 | 15 => 62 | 14 => 61 | 28 => 93 | 29 => 94 | 20 => 85 | 21 => 86 | 22 => 87 | 23 => 88 | 24 => 89 | 25 => 90 | 26 => 91 | 27 => 92 | 46 => 120 | 47 => 121 | 48 => 122 | 49 => 123 | 50 => 124 | 57 => 141 | n => n, fun | 22 => 29 | 24 => 28 | 25 => 61 | 3 => 3 | 39 => 87 | 0 => 0 | 53 => 118 | 55 => 120 | 4 => 4 | 46 => 112 | 45 => 111 | 50 => 108 | 5 => 5 | 9 => 9 | 66 => 149 | 70 => 153 | 76 => 167 | 77 => 90 | n => n, fun | n => n⟩
theorem Tryz.laysSortR : Go.Proofs.SlLaysF.n6 Tryz.prog Tryz.laysSortR_ren := {
 mixed := by kernel_rfl
 f6 := ⟨Tryz.f27.name, by decide, Tryz.func27.trans (congrArg some (by kernel_rfl))⟩
 f14 := ⟨Tryz.f61.name, by decide, Tryz.func61.trans (congrArg some (by kernel_rfl))⟩
 f15 := Tryz.func62.trans (congrArg some (by kernel_rfl))
 f20 := ⟨Tryz.f85.name, by decide, Tryz.func85.trans (congrArg some (by kernel_rfl))⟩
 f21 := ⟨Tryz.f86.name, by decide, Tryz.func86.trans (congrArg some (by kernel_rfl))⟩
 f22 := ⟨Tryz.f87.name, by decide, Tryz.func87.trans (congrArg some (by kernel_rfl))⟩
 f23 := ⟨Tryz.f88.name, by decide, Tryz.func88.trans (congrArg some (by kernel_rfl))⟩
 f24 := ⟨Tryz.f89.name, by decide, Tryz.func89.trans (congrArg some (by kernel_rfl))⟩
 f25 := ⟨Tryz.f90.name, by decide, Tryz.func90.trans (congrArg some (by kernel_rfl))⟩
 f26 := ⟨Tryz.f91.name, by decide, Tryz.func91.trans (congrArg some (by kernel_rfl))⟩
 f27 := ⟨Tryz.f92.name, by decide, Tryz.func92.trans (congrArg some (by kernel_rfl))⟩
 f28 := Tryz.func93.trans (congrArg some (by kernel_rfl))
 f29 := Tryz.func94.trans (congrArg some (by kernel_rfl))
 f46 := ⟨Tryz.f120.name, by decide, Tryz.func120.trans (congrArg some (by kernel_rfl))⟩
 f47 := Tryz.func121.trans (congrArg some (by kernel_rfl))
 f48 := Tryz.func122.trans (congrArg some (by kernel_rfl))
 f49 := ⟨Tryz.f123.name, by decide, Tryz.func123.trans (congrArg some (by kernel_rfl))⟩
 f50 := ⟨Tryz.f124.name, by decide, Tryz.func124.trans (congrArg some (by kernel_rfl))⟩
 f57 := ⟨Tryz.f141.name, by decide, Tryz.func141.trans (congrArg some (by kernel_rfl))⟩
 t0 := Tryz.underlying0
 a0 := Tryz.isAgg0
 z0 := Tryz.sizeOf0
 v0 := Tryz.zeroValue0
 t3 := Tryz.underlying3
 a3 := Tryz.isAgg3
 z3 := Tryz.sizeOf3
 v3 := Tryz.zeroValue3
 t4 := Tryz.underlying4
 a4 := Tryz.isAgg4
 z4 := Tryz.sizeOf4
 v4 := Tryz.zeroValue4
 t5 := Tryz.underlying5
 a5 := Tryz.isAgg5
 z5 := Tryz.sizeOf5
 v5 := Tryz.zeroValue5
 t9 := Tryz.underlying9
 a9 := Tryz.isAgg9
 z9 := Tryz.sizeOf9
 v9 := Tryz.zeroValue9
 t22 := Tryz.underlying29
 a22 := Tryz.isAgg29
 z22 := Tryz.sizeOf29
 v22 := Tryz.zeroValue29
 a24 := Tryz.isAgg28
 z24 := Tryz.sizeOf28
 t25 := Tryz.underlying61
 a25 := Tryz.isAgg61
 z25 := Tryz.sizeOf61
 v25 := Tryz.zeroValue61
 t39 := Tryz.underlying87
 a39 := Tryz.isAgg87
 z39 := Tryz.sizeOf87
 v39 := Tryz.zeroValue87
 t45 := Tryz.underlying111
 a45 := Tryz.isAgg111
 z45 := Tryz.sizeOf111
 v45 := Tryz.zeroValue111
 t46 := Tryz.underlying112
 a46 := Tryz.isAgg112
 z46 := Tryz.sizeOf112
 v46 := Tryz.zeroValue112
 t50 := Tryz.underlying108
 a50 := Tryz.isAgg108
 z50 := Tryz.sizeOf108
 v50 := Tryz.zeroValue108
 t53 := Tryz.underlying118
 a53 := Tryz.isAgg118
 z53 := Tryz.sizeOf118
 v53 := Tryz.zeroValue118
 t55 := Tryz.underlying120
 a55 := Tryz.isAgg120
 z55 := Tryz.sizeOf120
 v55 := Tryz.zeroValue120
 t66 := Tryz.underlying149
 a66 := Tryz.isAgg149
 z66 := Tryz.sizeOf149
 v66 := Tryz.zeroValue149
 t70 := Tryz.underlying153
 a70 := Tryz.isAgg153
 z70 := Tryz.sizeOf153
 v70 := Tryz.zeroValue153
 t76 := Tryz.underlying167
 a76 := Tryz.isAgg167
 z76 := Tryz.sizeOf167
 v76 := Tryz.zeroValue167
 t77 := Tryz.underlying90
 a77 := Tryz.isAgg90
 z77 := Tryz.sizeOf90
 v77 := Tryz.zeroValue90 }
end Go.Proofs
namespace Go.Sh
open Go.Proofs
noncomputable def InC : Con := conP 2 (fun a : List Int × Int => a.1.length <= 1000000) (fun a => [.one (.flat false 1 (ints a.1)), .one (.s (.i .i64 a.2))]) (fun a => .one (.s (.b (a.1.elem a.2))))
theorem In_ok : SoundC Tryz.prog T 83 InC := by
 refine sound_con (X := { Γ := [], T := T, nt := 18 }) cr_none hmix hT sound_nil Tryz.func83 (by rfl) (by rfl) (by rfl) (by rfl) 2 ?_
 rintro ⟨l, x⟩ hl
 have hl : l.length <= 1000000 := hl
 refine two_le ?_
 refine LoopP.intro (α := Nat) (fun k => k <= l.length /\ (l.drop k).elem x = l.elem x) (fun k => l.length - k) (fun k => [(0, .sl 0 none none), (1, .s (.i .i64 x)), (5, .s (.i .i64 k))]) (fun k => [(0, some (.flat false 1 (ints l)))]) 1 0 ⟨by simp, by simp⟩ (by refine Weak.ba [(0, some _)]) ?_
 rintro k ⟨hk, hs⟩
 refine Pick.by (fun h => ?_) (fun h => ?_)
 ·simp only [qiq, decide_eq_true_eq] at h;have hlt : k < l.length := by simpa using h
  refine Idx.by k rfl (by simpa [qiq] using hlt) ?_;refine Look.by _ (qhq (qEq hlt)) ?_;rw [List.drop_eq_getElem_cons hlt] at hs;refine Pick.by (fun h => ?_) (fun h => ?_)
  ·refine ⟨rfl, ?_⟩;have : l[k] = x := by simpa using h
   show _ = _
   rw [<- hs]; simp [this]
  ·refine Pick.n ?_;refine ⟨k + 1, ⟨by omega, ?_⟩, by omega, by refine Weak.ba [(0, some _)]⟩;have : ¬ l[k] = x := by simpa using h
   rw [<- hs, List.elem_cons, show (x == l[k]) = false by simpa using fun e => this e.symm]
 ·refine ⟨rfl, ?_⟩;have hge : l.length <= k := by simpa [qiq] using h
  show _ = _
  rw [<- hs, List.drop_eq_nil_of_le hge]; rfl
def sortI (l : List Int) : List Int := l.mergeSort (fun a b => decide (a <= b))
theorem sortI_unique {l r : List Int} (h : r.Pairwise (· <= ·)) (k : r.Perm l) : r = sortI l := by
 refine List.Perm.eq_of_pairwise (le := fun a b => a <= b) (fun a b _ _ h1 h2 => Int.le_antisymm h1 h2) h ?_ (k.trans (List.mergeSort_perm l _).symm)
 have := List.pairwise_mergeSort (le := fun a b : Int => decide (a <= b)) (fun a b c h1 h2 => by simp at *; omega) (fun a b => by simp; omega) l
 exact this.imp (fun h => by simpa using h)
theorem ins_get (acc : List Int) (at_ k : Nat) (h : acc.length = k) (ha : at_ <= k) (i : Nat) :
  (laid (cut none (ints acc) ++ cut none [[Sc.i .i64 0]]) (loOf (subOf none 0 (at_ + 1) (k + 1))) (cut (subOf none 0 (at_ + 1) (k + 1)) (cut none (ints acc) ++ cut none [[Sc.i .i64 0]])).length (cut (subOf none 0 at_ (k + 1)) (cut none (ints acc) ++ cut none [[Sc.i .i64 0]])))[i]? =
   if at_ + 1 <= i /\ i < k + 1 then (ints acc)[i - 1]? else (ints acc ++ [[Sc.i .i64 0]])[i]? := by
 simp only [laid, cut, loOf, subOf]
 have hl : (ints acc ++ [[Sc.i .i64 0]]).length = k + 1 := by simp [qiq, h]
 have hd : (((ints acc ++ [[Sc.i .i64 0]]).drop (at_ + 1)).take (k + 1 - (at_ + 1))).length = k - at_ := by rw [List.length_take, List.length_drop, hl]; omega
 rw [hd]
 have hS : (((((ints acc ++ [[Sc.i .i64 0]]).drop at_).take (k + 1 - at_)).take (k - at_))).length = k - at_ := by rw [List.length_take, List.length_take, List.length_drop, hl]; omega
 rw [splice_get _ _ _ _ (by rw [hS, hl]; omega), hS]
 by_cases hc : at_ + 1 <= i /\ i < k + 1
 ·rw [if_pos ⟨hc.1, by omega⟩, if_pos hc, List.getElem?_take, if_pos (by omega), List.getElem?_take, if_pos (by omega), List.getElem?_drop, show at_ + (i - (at_ + 1)) = i - 1 by omega, qLq (by rw [qiq]; omega)]
 ·rw [if_neg hc, if_neg (by omega)]
theorem ins_len (acc : List Int) (at_ k : Nat) (h : acc.length = k) (ha : at_ <= k) :
  (laid (cut none (ints acc) ++ cut none [[Sc.i .i64 0]]) (loOf (subOf none 0 (at_ + 1) (k + 1))) (cut (subOf none 0 (at_ + 1) (k + 1)) (cut none (ints acc) ++ cut none [[Sc.i .i64 0]])).length (cut (subOf none 0 at_ (k + 1)) (cut none (ints acc) ++ cut none [[Sc.i .i64 0]]))).length = k + 1 := by
 simp only [laid, cut, loOf, subOf]
 rw [splice_length]
 ·simp [qiq, h]
 ·simp [qiq, h]; omega
theorem ins_rows (acc : List Int) (at_ k : Nat) (x : Int) (h : acc.length = k) (ha : at_ <= k) : ∃ y : Int,
  (laid (cut none (ints acc) ++ cut none [[Sc.i .i64 0]]) (loOf (subOf none 0 (at_ + 1) (k + 1))) (cut (subOf none 0 (at_ + 1) (k + 1)) (cut none (ints acc) ++ cut none [[Sc.i .i64 0]])).length (cut (subOf none 0 at_ (k + 1)) (cut none (ints acc) ++ cut none [[Sc.i .i64 0]])))[at_]? = some [Sc.i .i64 y] /\
  ints (acc.take at_ ++ x :: acc.drop at_) = (laid (cut none (ints acc) ++ cut none [[Sc.i .i64 0]]) (loOf (subOf none 0 (at_ + 1) (k + 1))) (cut (subOf none 0 (at_ + 1) (k + 1)) (cut none (ints acc) ++ cut none [[Sc.i .i64 0]])).length (cut (subOf none 0 at_ (k + 1)) (cut none (ints acc) ++ cut none [[Sc.i .i64 0]]))).set at_ (splice [Sc.i .i64 y] 0 [Sc.i .i64 x]) := by
 have hl := ins_len acc at_ k h ha
 have hg := ins_get acc at_ k h ha
 generalize laid _ _ _ _ = L at hl hg ⊢
 obtain ⟨y, hy⟩ : ∃ y : Int, (ints acc ++ [[Sc.i .i64 0]])[at_]? = some [Sc.i .i64 y] := by
  by_cases hc : at_ < k
  ·exact ⟨_, by rw [qLq (by rw [qiq]; omega)]; exact qhq (qEq (by omega))⟩
  ·exact ⟨0, by rw [qRq (by rw [qiq]; omega), qiq, show at_ - acc.length = 0 by omega]; rfl⟩
 refine ⟨y, by rw [hg, if_neg (by omega)]; exact hy, ?_⟩
 apply List.ext_getElem?
 intro i
 have hi : ∀ (m : List Int) (i : Nat), (ints m)[i]? = m[i]?.map fun x => [Sc.i .i64 x] := fun m i => by simp [ints]
 rw [hi]
 by_cases h1 : i = at_
 ·subst h1;rw [List.getElem?_set_self (by omega), qRq (by rw [List.length_take]; omega), show i - (acc.take i).length = 0 by rw [List.length_take]; omega]
  rfl
 ·rw [qNq (Ne.symm h1), hg];by_cases h2 : i < at_
  ·rw [if_neg (by omega), qLq (by rw [List.length_take]; omega), List.getElem?_take, if_pos h2, qLq (by rw [qiq]; omega), hi]
  ·rw [qRq (by rw [List.length_take]; omega), show i - (acc.take at_).length = (i - at_ - 1) + 1 by rw [List.length_take]; omega, List.getElem?_cons_succ, List.getElem?_drop, show at_ + (i - at_ - 1) = i - 1 by omega];by_cases h3 : i < k + 1
   ·rw [if_pos (by omega), hi]
   ·rw [if_neg (by omega), List.getElem?_eq_none (by omega), List.getElem?_eq_none (by simp [qiq]; omega)]; rfl
theorem ins_sorted {acc : List Int} {at_ : Nat} {x : Int} (hs : acc.Pairwise (· <= ·)) (ha : at_ <= acc.length) (hgt : ∀ j y, at_ <= j -> acc[j]? = some y -> x < y) (hle : ∀ y, at_ ≠ 0 -> acc[at_ - 1]? = some y -> y <= x) :
  (acc.take at_ ++ x :: acc.drop at_).Pairwise (· <= ·) := by
 have hs' := hs
 rw [<- List.take_append_drop at_ acc, List.pairwise_append] at hs'
 have h1 : ∀ y ∈ acc.take at_, y <= x := fun y hy => by
  obtain ⟨i, hi⟩ := List.mem_iff_getElem?.1 hy;rw [List.getElem?_take] at hi;split at hi
  ·rename_i hlt;have hat : at_ - 1 < acc.length := by omega
   have := hle acc[at_ - 1] (by omega) (qEq hat);rcases Nat.eq_or_lt_of_le (show i <= at_ - 1 by omega) with e | hlt2
   ·subst e; rw [qEq hat] at hi; injection hi with hi; omega
   ·have hp := List.pairwise_iff_getElem.1 hs i (at_ - 1) (by omega) hat hlt2;rw [qEq (by omega)] at hi;injection hi with hi
    omega
  ·simp at hi
 have h2 : ∀ y ∈ acc.drop at_, x < y := fun y hy => by
  obtain ⟨i, hi⟩ := List.mem_iff_getElem?.1 hy;rw [List.getElem?_drop] at hi;exact hgt _ y (by omega) hi
 refine List.pairwise_append.2 ⟨hs'.1, List.pairwise_cons.2 ⟨fun y hy => Int.le_of_lt (h2 y hy), hs'.2.1⟩, fun a ha b hb => ?_⟩
 rcases List.mem_cons.1 hb with rfl | hb
 ·exact h1 a ha
 ·exact hs'.2.2 a ha b hb
noncomputable def SortedC : Con := conP 1 (fun l : List Int => l.length <= 1000000) (fun l => [.one (.flat false 1 (ints l))]) (fun l => .one (.flat true 1 (ints (sortI l))))
theorem Sorted_ok : SoundC Tryz.prog T 64 SortedC := by
 refine sound_con (X := { Γ := [], T := T, nt := 50 }) cr_none hmix hT sound_nil Tryz.func64 (by rfl) (by rfl) (by rfl) (by rfl) 2 ?_
 intro l hl
 have hl : l.length <= 1000000 := hl
 refine two_le ?_
 refine LoopP.intro (α := Nat × List Int) (fun p => p.1 <= l.length /\ p.2.Pairwise (· <= ·) /\ p.2.Perm (l.take p.1)) (fun p => l.length - p.1) (fun p => [(0, .sl 0 none none), (3, .sl 1 none none), (4, .s (.i .i64 p.1))]) (fun p => [(0, some (.flat false 1 (ints l))), (1, some (.flat true 1 (ints p.2)))]) 2 (0, []) ⟨by simp, by simp, by simp⟩ (by refine Weak.ba [(0, some _), (1, some _)]) ?_
 rintro ⟨k, acc⟩ ⟨hk, hs, hp⟩
 dsimp only at hk hs hp
 have hal : acc.length = k := by rw [hp.length_eq, List.length_take]; omega
 refine Pick.by (fun h => ?_) (fun h => ?_)
 ·simp only [qiq, decide_eq_true_eq] at h;have hlt : k < l.length := by simpa using h
  -- the place
  refine LoopP.intro (α := Nat) (fun at_ => at_ <= k /\ ∀ j y, at_ <= j -> acc[j]? = some y -> l[k] < y) (fun at_ => at_) (fun at_ => [(0, .sl 0 none none), (3, .sl 1 none none), (4, .s (.i .i64 k)), (5, .s (.i .i64 at_))]) (fun at_ => [(0, some (.flat false 1 (ints l))), (1, some (.flat true 1 (ints acc)))]) 2 k ⟨by simp, fun j y hj hy => ?_⟩ ?_ ?_
  ·have := (qSq.1 hy).1; omega
  ·refine Weak.bw [(0, some _), (1, some _)] (by ((repeat' first|exact rfl|exact trivial|apply And.intro) <;> (repeat' first|exact rfl|exact trivial|apply And.intro)); all_goals (show _ = _; rw [qiq, hal]))
  rintro at_ ⟨ha, hgt⟩
  -- is it further ahead?
  refine Pick.by (fun h0 => ?_) (fun h0 => ?_)
  ·have h0 : 0 < at_ := by simpa using h0
   refine Pick.n ?_;refine ⟨at_ - 1, by omega, by rw [qiq]; omega, ?_⟩;have hat : at_ - 1 < acc.length := by omega
   refine ⟨_, qhq (qEq hat), ?_⟩;refine ⟨k, rfl, by rw [qiq]; exact hlt, ?_⟩;refine ⟨_, qhq (qEq hlt), ?_⟩;refine Seg.by (by kernel_rfl) ?_;refine Pick.by (fun h => ?_) (fun h => ?_)
   ·refine Pick.n ?_;have h : l[k] < acc[at_ - 1] := by simpa using h
    refine ⟨at_ - 1, ⟨by omega, fun j y hj hy => ?_⟩, by omega, by refine Weak.bw [(0, some _), (1, some _)] (by ((repeat' first|exact rfl|exact trivial|apply And.intro) <;> (repeat' first|exact rfl|exact trivial|apply And.intro)); all_goals (exact sc_eq (by omega)))⟩;rcases Nat.eq_or_lt_of_le hj with e | hj
    ·subst e; rw [qEq hat] at hy; injection hy with hy; omega
    ·exact hgt j y (by omega) hy
   have hle : ∀ y, at_ ≠ 0 -> acc[at_ - 1]? = some y -> y <= l[k] := fun y _ hy => by
    rw [qEq hat] at hy; injection hy with hy
    have h : ¬ (l[k] < acc[at_ - 1]) := by simpa using h
    omega
   refine Pick.T (by simp [qiq, cut]; omega) ?_;refine Pick.n ?_;refine Rng.by (at_ + 1) (k + 1) (by omega) (by simp [qiq, cut]; omega) (by omega) (by simp [qiq, cut]; omega) ?_;refine Rng.by at_ (k + 1) (by omega) (by simp [qiq, cut]; omega) (by omega) (by simp [qiq, cut]; omega) ?_;refine Pick.T (by simp [qiq, cut, loOf, subOf]; omega) ?_;refine Seg.by (by kernel_rfl) ?_;refine Idx.by k rfl ?_ ?_
   ·rw [qiq]; exact hlt
   refine Look.by _ (qhq (qEq hlt)) ?_;have hlen := ins_len acc at_ k hal ha;refine Idx.by at_ rfl (by rw [ins_len acc at_ k hal ha]; omega) ?_;obtain ⟨y, hy, hrow⟩ := ins_rows acc at_ k l[k] hal ha;refine Look.by _ hy ?_;refine Pick.n ?_;refine Next.by (k + 1, acc.take at_ ++ l[k] :: acc.drop at_) ⟨by show k + 1 <= l.length; omega, ?_, ?_⟩ (by show l.length - (k + 1) < l.length - k; omega) (by refine Weak.bw [(0, some _), (1, some _)] (by ((repeat' first|exact rfl|exact trivial|apply And.intro) <;> (repeat' first|exact rfl|exact trivial|apply And.intro)); all_goals (exact hrow)))
   ·exact ins_sorted hs (by omega) hgt hle
   ·show (acc.take at_ ++ l[k] :: acc.drop at_).Perm (l.take (k + 1))
    rw [qTq hlt];refine List.perm_middle.trans ?_;rw [List.take_append_drop];exact (hp.cons _).trans (List.perm_append_singleton _ _).symm
  ·have hle : ∀ y, at_ ≠ 0 -> acc[at_ - 1]? = some y -> y <= l[k] := fun y h1 hy => by
    exact absurd (by simpa using h0) h1
   refine Seg.by (by kernel_rfl) ?_;refine Pick.T (by simp [qiq, cut]; omega) ?_;refine Pick.n ?_;refine Rng.by (at_ + 1) (k + 1) (by omega) (by simp [qiq, cut]; omega) (by omega) (by simp [qiq, cut]; omega) ?_;refine Rng.by at_ (k + 1) (by omega) (by simp [qiq, cut]; omega) (by omega) (by simp [qiq, cut]; omega) ?_;refine Pick.T (by simp [qiq, cut, loOf, subOf]; omega) ?_;refine Seg.by (by kernel_rfl) ?_;refine Idx.by k rfl ?_ ?_
   ·rw [qiq]; exact hlt
   refine Look.by _ (qhq (qEq hlt)) ?_;have hlen := ins_len acc at_ k hal ha;refine Idx.by at_ rfl (by rw [ins_len acc at_ k hal ha]; omega) ?_;obtain ⟨y, hy, hrow⟩ := ins_rows acc at_ k l[k] hal ha;refine Look.by _ hy ?_;refine Pick.n ?_;refine Next.by (k + 1, acc.take at_ ++ l[k] :: acc.drop at_) ⟨by show k + 1 <= l.length; omega, ?_, ?_⟩ (by show l.length - (k + 1) < l.length - k; omega) (by refine Weak.bw [(0, some _), (1, some _)] (by ((repeat' first|exact rfl|exact trivial|apply And.intro) <;> (repeat' first|exact rfl|exact trivial|apply And.intro)); all_goals (exact hrow)))
   ·exact ins_sorted hs (by omega) hgt hle
   ·show (acc.take at_ ++ l[k] :: acc.drop at_).Perm (l.take (k + 1))
    rw [qTq hlt];refine List.perm_middle.trans ?_;rw [List.take_append_drop];exact (hp.cons _).trans (List.perm_append_singleton _ _).symm
 ·refine ⟨rfl, ?_⟩;have hge : l.length <= k := by simpa [qiq] using h
  rw [List.take_of_length_le hge] at hp;rw [sortI_unique hs hp];exact ⟨rfl, rfl⟩
theorem conP_at {α : Type} {n : Nat} {pre : α -> Prop} {enc : α -> List V} {val : α -> V} (hinj : ∀ a b, pre a -> pre b -> enc a = enc b -> val a = val b) {a : α} (ha : pre a) : (conP n pre enc val).F (enc a) = some (val a, []) := conF_at hinj ha
theorem drop_cons {α : Type} {l : List α} {k : Nat} (h : k < l.length) : l.drop k = l[k] :: l.drop (k + 1) := List.drop_eq_getElem_cons h
noncomputable def SameC : Con := conP 2 (fun a : List Int × List Int => a.1.length <= 1000000000 /\ a.2.length <= 1000000000) (fun a => [.one (.flat false 1 (ints a.1)), .one (.flat false 1 (ints a.2))]) (fun a => .one (.s (.b (decide (a.1 = a.2)))))
theorem Same_ok : SoundC Tryz.prog T 37 SameC := by
 refine sound_con (X := { Γ := [], T := T, nt := 26 }) cr_none hmix hT sound_nil Tryz.func37 (by rfl) (by rfl) (by rfl) (by rfl) 2 ?_
 rintro ⟨l, m⟩ ⟨hl, hm⟩
 dsimp only at hl hm
 refine two_le ?_
 refine Pick.by (fun h => ?_) (fun h => ?_)
 ·refine ⟨rfl, ?_⟩;have h : ¬ l.length = m.length := by simp [qiq] at h; omega
  show _ = _
  rw [decide_eq_false (fun e => h (by simp only at e; rw [e]))]
 have hlm : l.length = m.length := by simp [qiq] at h; omega
 refine LoopP.intro (α := Nat) (fun k => k <= l.length /\ (l.drop k = m.drop k ↔ l = m)) (fun k => l.length - k) (fun k => [(0, .sl 0 none none), (1, .sl 1 none none), (5, .s (.i .i64 k))]) (fun k => [(0, some (.flat false 1 (ints l))), (1, some (.flat false 1 (ints m)))]) 2 0 ⟨by simp, by simp⟩ (by refine Weak.ba [(0, some _), (1, some _)]) ?_
 rintro k ⟨hk, hs⟩
 refine Pick.by (fun h => ?_) (fun h => ?_)
 ·have hlt : k < l.length := by simpa [qiq] using h
  refine Idx.by k rfl (by rw [qiq]; exact hlt) ?_;refine Look.by _ (qhq (qEq hlt)) ?_;refine Idx.by k rfl (by rw [qiq]; omega) ?_;refine Look.by _ (qhq (qEq (by omega))) ?_;refine Seg.by (by kernel_rfl) ?_;refine Pick.by (fun h => ?_) (fun h => ?_)
  ·refine ⟨rfl, ?_⟩;have h : ¬ l[k] = m[k] := by simpa using h
   show _ = _
   rw [decide_eq_false (fun e => h (by simp only at e; subst e; rfl))]
  ·have h : l[k] = m[k] := by simpa using h
   refine Pick.n ?_;refine Next.by (k + 1) ⟨by omega, ?_⟩ (by omega) (by refine Weak.ba [(0, some _), (1, some _)]);rw [drop_cons hlt, drop_cons (l := m) (by omega), h, List.cons.injEq] at hs;simpa using hs
 ·refine ⟨rfl, ?_⟩;have hge : l.length <= k := by simpa [qiq] using h
  have e : l = m := hs.1 (by rw [List.drop_eq_nil_of_le hge, List.drop_eq_nil_of_le (by omega)]);show _ = _
  rw [decide_eq_true (show (l, m).1 = (l, m).2 from e)]
theorem SameC_at (l m : List Int) (hl : l.length <= 1000000000) (hm : m.length <= 1000000000) : SameC.F [.one (.flat false 1 (ints l)), .one (.flat false 1 (ints m))] = some (.one (.s (.b (decide (l = m)))), []) :=
 conP_at (a := (l, m)) (fun a b _ _ h => by simp at h; obtain ⟨h1, h2⟩ := h; rw [Prod.ext (ints_inj h1) (ints_inj h2)]) ⟨hl, hm⟩
def rowsI (l : List (List Int)) : List Flat := l.map ints
theorem qgq {l : List (List Int)} {i : Nat} {x : List Int} (h : l[i]? = some x) : (rowsI l)[i]? = some (ints x) := by simp [rowsI, h]
theorem qrq (l : List (List Int)) : (rowsI l).length = l.length := by simp [rowsI]
theorem rowsI_inj {l m : List (List Int)} (h : rowsI l = rowsI m) : l = m := (List.map_inj_right (fun x y h => ints_inj h)).1 h
def small (l : List (List Int)) : Prop := l.length <= 1000000 /\ ∀ x ∈ l, x.length <= 1000000
noncomputable def SameRowsC : Con := conP 2 (fun a : List (List Int) × List (List Int) => small a.1 /\ small a.2) (fun a => [.one (.nest false 1 (rowsI a.1)), .one (.nest false 1 (rowsI a.2))]) (fun a => .one (.s (.b (decide (a.1 = a.2)))))
theorem SameRows_ok : SoundC Tryz.prog T 38 SameRowsC := by
 refine sound_con (X := { Γ := [(37, SameC)], T := T, nt := 27 }) cr_none hmix hT (sound_cons Same_ok sound_nil) Tryz.func38 (by rfl) (by rfl) (by rfl) (by rfl) 2 ?_
 rintro ⟨l, m⟩ ⟨hl, hm⟩
 dsimp only at hl hm
 have hl1 := hl.1
 refine two_le ?_
 refine Pick.by (fun h => ?_) (fun h => ?_)
 ·refine ⟨rfl, ?_⟩;have h : ¬ l.length = m.length := by simp [qrq] at h; omega
  show _ = _
  rw [decide_eq_false (fun e => h (by simp only at e; rw [e]))]
 have hlm : l.length = m.length := by simp [qrq] at h; omega
 refine LoopP.intro (α := Nat) (fun k => k <= l.length /\ (l.drop k = m.drop k ↔ l = m)) (fun k => l.length - k) (fun k => [(0, .sl 0 none none), (1, .sl 1 none none), (5, .s (.i .i64 k))]) (fun k => [(0, some (.nest false 1 (rowsI l) [] [])), (1, some (.nest false 1 (rowsI m) [] []))]) 2 0 ⟨by simp, by simp⟩ (by refine Weak.ba [(0, some _), (1, some _)]) ?_
 rintro k ⟨hk, hs⟩
 refine Pick.by (fun h => ?_) (fun h => ?_)
 ·have hlt : k < l.length := by simpa [qrq] using h
  refine Idx.by k rfl (by rw [qrq]; exact hlt) ?_;refine Pick.T (by simpa [qrq] using hlt) ?_;refine Idx.by k rfl (by rw [qrq]; omega) ?_;refine Pick.T (by simp [qrq]; omega) ?_;refine Look.by _ (qgq (qEq hlt)) ?_;refine Look.by _ (qgq (qEq (by omega))) ?_;refine Call.by _ _ (SameC_at l[k] m[k] (by have := hl.2 _ (List.getElem_mem hlt); omega) (by have := hm.2 _ (List.getElem_mem (by omega : k < m.length)); omega)) ?_;refine Seg.by (by kernel_rfl) ?_;refine Pick.by (fun h => ?_) (fun h => ?_)
  ·refine ⟨rfl, ?_⟩;have h : ¬ l[k] = m[k] := by simpa using h
   show _ = _
   rw [decide_eq_false (fun e => h (by simp only at e; subst e; rfl))]
  ·have h : l[k] = m[k] := by simpa using h
   refine Pick.n ?_;refine Next.by (k + 1) ⟨by omega, ?_⟩ (by omega) (by refine Weak.ba [(0, some _), (1, some _)]);rw [drop_cons hlt, drop_cons (l := m) (by omega), h, List.cons.injEq] at hs;simpa using hs
 ·refine ⟨rfl, ?_⟩;have hge : l.length <= k := by simpa [qrq] using h
  have e : l = m := hs.1 (by rw [List.drop_eq_nil_of_le hge, List.drop_eq_nil_of_le (by omega)]);show _ = _
  rw [decide_eq_true (show (l, m).1 = (l, m).2 from e)]
abbrev Ed := Int × Int
def edges (l : List Ed) : Flat := l.map fun p => [.i .i64 p.1, .i .i64 p.2]
theorem edges_get {l : List Ed} {i : Nat} {x : Ed} (h : l[i]? = some x) : (edges l)[i]? = some [.i .i64 x.1, .i .i64 x.2] := by simp [edges, h]
theorem qeq (l : List Ed) : (edges l).length = l.length := by simp [edges]
theorem edges_inj {l m : List Ed} (h : edges l = edges m) : l = m := (List.map_inj_right (fun x y h => by simp at h; exact Prod.ext h.1 h.2)).1 h
def grV (n : Int) (E : List Ed) : V := .agg [.s (.i .i64 n), .flat false 2 (edges E)]
theorem grV_inj {n m : Int} {E F : List Ed} (h : grV n E = grV m F) : n = m /\ E = F := by
 simp [grV] at h
 exact ⟨h.1, edges_inj h.2⟩
def ltE (p q : Ed) : Prop := p.1 < q.1 \/ p.1 = q.1 /\ p.2 < q.2
instance (p q : Ed) : Decidable (ltE p q) := by unfold ltE; infer_instance
theorem ltE.trans {p q r : Ed} (h : ltE p q) (k : ltE q r) : ltE p r := by unfold ltE at *; omega
def okE (n : Int) (p : Ed) : Prop := 0 <= p.1 /\ p.1 < p.2 /\ p.2 < n
instance (n : Int) (p : Ed) : Decidable (okE n p) := by unfold okE; infer_instance
def RightP (n : Int) (E : List Ed) : Prop := 0 <= n /\ n <= 1000 /\ E.length <= 4000 /\ (∀ p ∈ E, okE n p) /\ E.Pairwise ltE
instance (n : Int) (E : List Ed) : Decidable (RightP n E) := by unfold RightP; infer_instance
theorem pw_step {E : List Ed} {i : Nat} (hi : i < E.length) (h : (E.take i).Pairwise ltE) (k : ∀ h0 : 0 < i, ltE (E[i - 1]'(by omega)) E[i]) : (E.take (i + 1)).Pairwise ltE := by
 rw [qTq hi, List.pairwise_append]
 refine ⟨h, by simp, fun a ha b hb => ?_⟩
 simp at hb
 subst hb
 obtain ⟨j, hj, rfl⟩ := List.mem_iff_getElem.1 ha
 rw [List.length_take] at hj
 have h0 : 0 < i := by omega
 rw [List.getElem_take]
 rcases Nat.eq_or_lt_of_le (show j <= i - 1 by omega) with e | hlt
 ·subst e; exact k h0
 ·have := List.pairwise_iff_getElem.1 h j (i - 1) (by rw [List.length_take]; omega) (by rw [List.length_take]; omega) hlt;rw [List.getElem_take, List.getElem_take] at this;exact this.trans (k h0)
theorem pw_no {E : List Ed} {i : Nat} (hi : i < E.length) (h0 : 0 < i) (k : ¬ ltE (E[i - 1]'(by omega)) E[i]) : ¬ E.Pairwise ltE := fun h => k (List.pairwise_iff_getElem.1 h (i - 1) i (by omega) hi (by omega))
theorem all_step {E : List Ed} {n : Int} {i : Nat} (hi : i < E.length) (h : ∀ p ∈ E.take i, okE n p) (k : okE n E[i]) : ∀ p ∈ E.take (i + 1), okE n p := by
 rw [qTq hi]
 intro p hp
 rcases List.mem_append.1 hp with hp | hp
 ·exact h p hp
 ·simp at hp; subst hp; exact k
noncomputable def isNaNC : Con := conP 1 (fun _ : Int => True) (fun x => [.one (.s (.i .i64 x))]) (fun _ => .one (.s (.b false)))
theorem isNaN_ok [Fwd] : SoundC Tryz.prog T 63 isNaNC := by
 refine sound_con (X := { Γ := [], T := T, nt := 6 }) cr_none hmix hT sound_nil Tryz.func63 (by rfl) (by rfl) (by rfl) (by rfl) 1 ?_
 rintro x -
 refine two_le ?_
 refine ⟨rfl, ?_⟩
 show _ = _
 simp
theorem isNaNC_at (x : Int) : isNaNC.F [.one (.s (.i .i64 x))] = some (.one (.s (.b false)), []) := conP_at (a := x) (fun a b _ _ h => rfl) trivial
def cmpI (x y : Int) : Int := if x < y then -1 else if y < x then 1 else 0
noncomputable def CompareC : Con := conP 2 (fun _ : Int × Int => True) (fun a => [.one (.s (.i .i64 a.1)), .one (.s (.i .i64 a.2))]) (fun a => .one (.s (.i .i64 (cmpI a.1 a.2))))
theorem Compare_ok [Fwd] : SoundC Tryz.prog T 30 CompareC := by
 refine sound_con (X := { Γ := [(63, isNaNC)], T := T, nt := 20 }) cr_none hmix hT (sound_cons isNaN_ok sound_nil) Tryz.func30 (by rfl) (by rfl) (by rfl) (by rfl) 2 ?_
 rintro ⟨x, y⟩ -
 refine two_le ?_
 refine Call.by _ _ (isNaNC_at x) ?_
 refine Call.by _ _ (isNaNC_at y) ?_
 refine Pick.by (fun h => ?_) (fun h => ?_)
 ·refine ⟨rfl, ?_⟩;have h : x < y := by simpa using h
  show _ = _
  simp [cmpI, h]
 refine Pick.by (fun h2 => ?_) (fun h2 => ?_)
 ·refine ⟨rfl, ?_⟩;have h : ¬ x < y := by simpa using h
  have h2 : y < x := by simpa using h2
  show _ = _
  simp [cmpI, h, h2]
 ·refine ⟨rfl, ?_⟩;have h : ¬ x < y := by simpa using h
  have h2 : ¬ y < x := by simpa using h2
  show _ = _
  simp [cmpI, h, h2]
theorem CompareC_at (x y : Int) : CompareC.F [.one (.s (.i .i64 x)), .one (.s (.i .i64 y))] = some (.one (.s (.i .i64 (cmpI x y))), []) :=
 conP_at (a := (x, y)) (fun a b _ _ h => by simp at h; rw [Prod.ext h.1 h.2]) trivial
def orI (l : List Int) : Int := match l.find? (fun x => x != 0) with | some x => x | none => 0
noncomputable def OrC : Con := conP 1 (fun l : List Int => l.length <= 1000000) (fun l => [.one (.flat false 1 (ints l))]) (fun l => .one (.s (.i .i64 (orI l))))
theorem Or_ok [Fwd] : SoundC Tryz.prog T 29 OrC := by
 refine sound_con (X := { Γ := [], T := T, nt := 18 }) cr_none hmix hT sound_nil Tryz.func29 (by rfl) (by rfl) (by rfl) (by rfl) 1 ?_
 intro l hl
 have hl : l.length <= 1000000 := hl
 refine two_le ?_
 refine LoopP.intro (α := Nat) (fun k => k <= l.length /\ orI (l.drop k) = orI l) (fun k => l.length - k) (fun k => [(3, .s (.i .i64 0)), (6, .sl 0 none none), (7, .s (.i .i64 l.length)), (8, .s (.i .i64 k))]) (fun k => [(0, some (.flat false 1 (ints l)))]) 1 0 ⟨by simp, by simp⟩ (by refine Weak.bw [(0, some _)] (by ((repeat' first|exact rfl|exact trivial|apply And.intro) <;> (repeat' first|exact rfl|exact trivial|apply And.intro)); all_goals (exact sc_eq (by rw [qiq])))) ?_
 rintro k ⟨hk, hs⟩
 refine Pick.by (fun h => ?_) (fun h => ?_)
 ·have hlt : k < l.length := by simpa using h
  rw [drop_cons hlt] at hs;refine Idx.by k rfl (by rw [qiq]; exact hlt) ?_;refine Look.by _ (qhq (qEq hlt)) ?_;refine Pick.by (fun h => ?_) (fun h => ?_)
  ·refine ⟨rfl, ?_⟩;have h : (l[k] != 0) = true := h;show _ = _
   rw [<- hs]; simp only [orI, List.find?_cons, h]
  ·have h : (l[k] != 0) = false := h;refine Pick.n ?_;refine Next.by (k + 1) ⟨by omega, ?_⟩ (by omega) (by refine Weak.ba [(0, some _)]);rw [<- hs]; simp only [orI, List.find?_cons, h]
 ·refine ⟨rfl, ?_⟩;have hge : l.length <= k := by simpa using h
  show _ = _
  rw [<- hs, List.drop_eq_nil_of_le hge]; rfl
theorem OrC_at (l : List Int) (hl : l.length <= 1000000) : OrC.F [.one (.flat false 1 (ints l))] = some (.one (.s (.i .i64 (orI l))), []) :=
 conP_at (a := l) (fun a b _ _ h => by simp at h; rw [ints_inj h]) hl
def cmpE (p q : Ed) : Int := orI [cmpI p.1 q.1, cmpI p.2 q.2]
theorem cmpE_lt (p q : Ed) : cmpE p q < 0 ↔ ltE p q := by
 unfold cmpE orI cmpI ltE
 repeat' split
 all_goals simp_all
 all_goals omega
def edV (p : Ed) : V := .agg [.s (.i .i64 p.1), .s (.i .i64 p.2)]
noncomputable def compareC : Con := conP 2 (fun _ : Ed × Ed => True) (fun a => [edV a.1, edV a.2]) (fun a => .one (.s (.i .i64 (cmpE a.1 a.2))))
theorem compare_ok [Fwd] : SoundC Tryz.prog T 46 compareC := by
 refine sound_con (X := { Γ := [(30, CompareC), (29, OrC)], T := T, nt := 17 }) cr_none hmix hT (sound_cons Compare_ok (sound_cons Or_ok sound_nil)) Tryz.func46 (by rfl) (by rfl) (by rfl) (by rfl) 4 ?_
 rintro ⟨⟨a, b⟩, ⟨c, d⟩⟩ -
 refine two_le ?_
 refine Call.by _ _ (CompareC_at a c) ?_
 refine Call.by _ _ (CompareC_at b d) ?_
 refine Call.by _ _ (OrC_at [cmpI a c, cmpI b d] (by simp)) ?_
 refine Seg.by (by kernel_rfl) ?_
 refine ⟨rfl, ?_⟩
 show _ = _
 rfl
theorem compareC_at (p q : Ed) : compareC.F [edV p, edV q] = some (.one (.s (.i .i64 (cmpE p q))), []) :=
 conP_at (a := (p, q)) (fun a b _ _ h => by
  obtain ⟨⟨a1, a2⟩, a3, a4⟩ := a;obtain ⟨⟨b1, b2⟩, b3, b4⟩ := b;simp [edV] at h;obtain ⟨⟨rfl, rfl⟩, rfl, rfl⟩ := h; rfl) trivial
noncomputable def RightC : Con := conP 1 (fun _ : Int × List Ed => True) (fun g => [grV g.1 g.2]) (fun g => .one (.s (.b (decide (RightP g.1 g.2)))))
theorem no_of {n : Int} {E : List Ed} (h : ¬ RightP n E) : (false : Bool) = decide (RightP n E) := (decide_eq_false h).symm
theorem RightC_at (n : Int) (E : List Ed) : RightC.F [grV n E] = some (.one (.s (.b (decide (RightP n E)))), []) :=
 conP_at (a := (n, E)) (fun a b _ _ h => by simp at h; obtain ⟨h1, h2⟩ := grV_inj h; rw [Prod.ext h1 h2]) trivial
def RI (n : Int) (E : List Ed) (k : Nat) : Prop := k <= E.length /\ (∀ p ∈ E.take k, okE n p) /\ (E.take k).Pairwise ltE
set_option maxHeartbeats 1000000 in
theorem Right3_ok : SoundC Tryz.prog T 31 RightC := by
 refine sound_con (X := { Γ := [], T := T, nt := 86 }) cr_none hmix hT sound_nil Tryz.func31 (by rfl) (by rfl) (by rfl) (by rfl) 2 ?_
 rintro ⟨n, E⟩ -
 refine two_le ?_
 refine Pick.by (fun h1 => ?_) (fun h1 => ?_)
 ·have h1 : n < 0 := by simpa using h1
  refine ⟨rfl, ?_⟩;show Sc.b _ = Sc.b _
  rw [<- no_of (fun h => by have := h.1; simp only at this; omega)]
 have h1 : ¬ n < 0 := by simpa using h1
 refine Pick.by (fun h2 => ?_) (fun h2 => ?_)
 ·have h2 : n > 1000 := by simpa using h2
  refine ⟨rfl, ?_⟩;show Sc.b _ = Sc.b _
  rw [<- no_of (fun h => by have := h.2.1; simp only at this; omega)]
 have h2 : ¬ n > 1000 := by simpa using h2
 refine Pick.by (fun h3 => ?_) (fun h3 => ?_)
 ·have h3 : E.length > 4000 := by simp [qeq] at h3; omega
  refine ⟨rfl, ?_⟩;show Sc.b _ = Sc.b _
  rw [<- no_of (fun h => by have := h.2.2.1; simp only at this; omega)]
 have h3 : E.length <= 4000 := by simp [qeq] at h3; omega
 refine LoopP.intro (α := Nat) (RI n E) (fun k => E.length - k) (fun k => [(1, .ptr 0 0), (3, .s (.i .i64 k))]) (fun k => [(0, some (.blk [.s (.i .i64 n), .sl 1 none none])), (1, some (.flat false 2 (edges E)))]) 2 0 ⟨by simp, by simp, by simp⟩ (by refine Weak.ba [(0, some _), (1, some _)]) ?_
 rintro k ⟨hk, ha, hp⟩
 refine Pick.by (fun h => ?_) (fun h => ?_)
 ·have hlt : k < E.length := by simpa [qeq] using h
  refine Idx.by k rfl (by rw [qeq]; exact hlt) ?_;refine Look.by _ (edges_get (qEq hlt)) ?_;have hbad : ¬ okE n E[k] -> ¬ RightP n E := fun h q => h (q.2.2.2.1 _ (List.getElem_mem hlt))
  refine Pick.by (fun h4 => ?_) (fun h4 => ?_)
  ·have h4 : E[k].1 < 0 := by simpa using h4
   refine ⟨rfl, ?_⟩;show Sc.b _ = Sc.b _
   rw [<- no_of (hbad (fun q => by unfold okE at q; omega))]
  have h4 : ¬ E[k].1 < 0 := by simpa using h4
  refine Pick.by (fun h5 => ?_) (fun h5 => ?_)
  ·have h5 : E[k].2 ≥ n := by simpa using h5
   refine ⟨rfl, ?_⟩;show Sc.b _ = Sc.b _
   rw [<- no_of (hbad (fun q => by unfold okE at q; omega))]
  have h5 : ¬ E[k].2 ≥ n := by simpa using h5
  refine Pick.by (fun h6 => ?_) (fun h6 => ?_)
  ·have h6 : E[k].1 ≥ E[k].2 := by simpa using h6
   refine ⟨rfl, ?_⟩;show Sc.b _ = Sc.b _
   rw [<- no_of (hbad (fun q => by unfold okE at q; omega))]
  have h6 : ¬ E[k].1 ≥ E[k].2 := by simpa using h6
  have hok : okE n E[k] := by unfold okE; omega
  refine Pick.by (fun h0 => ?_) (fun h0 => ?_)
  ·have h0 : 0 < k := by simpa using h0
   have hk1 : k - 1 < E.length := by omega
   refine Pick.n ?_;refine Idx.by (k - 1) (by omega) (by rw [qeq]; exact hk1) ?_;refine Look.by _ (edges_get (qEq hk1)) ?_;refine Pick.by (fun h7 => ?_) (fun h7 => ?_)
   ·have h7 : E[k - 1].1 > E[k].1 := by simpa using h7
    refine Seg.by (by kernel_rfl) ?_;refine ⟨rfl, ?_⟩;show Sc.b _ = Sc.b _
    rw [<- no_of (fun q => pw_no hlt h0 (by unfold ltE; omega) q.2.2.2.2)]
   have h7 : ¬ E[k - 1].1 > E[k].1 := by simpa using h7
   refine Pick.n ?_;refine Idx.by (k - 1) (by omega) (by rw [qeq]; exact hk1) ?_;refine Look.by _ (edges_get (qEq hk1)) ?_;refine Pick.by (fun h8 => ?_) (fun h8 => ?_)
   ·have h8 : E[k - 1].1 = E[k].1 := by simpa using h8
    refine Pick.n ?_;refine Idx.by (k - 1) (by omega) (by rw [qeq]; exact hk1) ?_;refine Look.by _ (edges_get (qEq hk1)) ?_;refine Seg.by (by kernel_rfl) ?_;refine Pick.by (fun h9 => ?_) (fun h9 => ?_)
    ·have h9 : E[k - 1].2 ≥ E[k].2 := by simpa using h9
     refine ⟨rfl, ?_⟩;show Sc.b _ = Sc.b _
     rw [<- no_of (fun q => pw_no hlt h0 (by unfold ltE; omega) q.2.2.2.2)]
    ·have h9 : ¬ E[k - 1].2 ≥ E[k].2 := by simpa using h9
     refine Pick.n ?_;refine Next.by (k + 1) ⟨by omega, all_step hlt ha hok, pw_step hlt hp (fun _ => by unfold ltE; omega)⟩ (by omega) (by refine Weak.ba [(0, some _), (1, some _)])
   ·have h8 : ¬ E[k - 1].1 = E[k].1 := by simpa using h8
    refine Seg.by (by kernel_rfl) ?_;refine Pick.n ?_;refine Next.by (k + 1) ⟨by omega, all_step hlt ha hok, pw_step hlt hp (fun _ => by unfold ltE; omega)⟩ (by omega) (by refine Weak.ba [(0, some _), (1, some _)])
  ·have h0 : ¬ 0 < k := by simpa using h0
   refine Seg.by (by kernel_rfl) ?_;refine Pick.n ?_;refine Next.by (k + 1) ⟨by omega, all_step hlt ha hok, pw_step hlt hp (fun h => absurd h h0)⟩ (by omega) (by refine Weak.ba [(0, some _), (1, some _)])
 ·refine ⟨rfl, ?_⟩;have hge : E.length <= k := by simpa [qeq] using h
  rw [List.take_of_length_le hge] at ha hp;show Sc.b _ = Sc.b _
  rw [decide_eq_true (show RightP (n, E).1 (n, E).2 from ⟨by simp only; omega, by simp only; omega, h3, ha, hp⟩)]
set_option maxHeartbeats 1000000 in
theorem RightG_p : SoundP Tryz.prog 25 (conF (fun _ : Int × List Ed => True) (fun g => [grV g.1 g.2]) (fun g => .one (.s (.b (decide (RightP g.1 g.2)))))) := by
 refine con_pure (X := { Γ := [(46, compareC)], T := T, nt := 60 }) cr_none hmix hT (sound_cons compare_ok sound_nil) Tryz.func25 (by rfl) (by rfl) (by rfl) 2 ?_
 rintro ⟨n, E⟩ -
 refine two_le ?_
 refine Pick.by (fun h1 => ?_) (fun h1 => ?_)
 ·have h1 : n < 0 := by simpa using h1
  refine ⟨rfl, ?_⟩;show Sc.b _ = Sc.b _
  rw [<- no_of (fun h => by have := h.1; simp only at this; omega)]
 have h1 : ¬ n < 0 := by simpa using h1
 refine Pick.by (fun h2 => ?_) (fun h2 => ?_)
 ·have h2 : n > 1000 := by simpa using h2
  refine ⟨rfl, ?_⟩;show Sc.b _ = Sc.b _
  rw [<- no_of (fun h => by have := h.2.1; simp only at this; omega)]
 have h2 : ¬ n > 1000 := by simpa using h2
 refine Pick.by (fun h3 => ?_) (fun h3 => ?_)
 ·have h3 : E.length > 4000 := by simp [qeq] at h3; omega
  refine ⟨rfl, ?_⟩;show Sc.b _ = Sc.b _
  rw [<- no_of (fun h => by have := h.2.2.1; simp only at this; omega)]
 have h3 : E.length <= 4000 := by simp [qeq] at h3; omega
 refine LoopP.intro (α := Nat) (RI n E) (fun k => E.length - k) (fun k => [(1, .ptr 0 0), (20, .sl 1 none none), (21, .s (.i .i64 E.length)), (22, .s (.i .i64 k))]) (fun k => [(0, some (.blk [.s (.i .i64 n), .sl 1 none none])), (1, some (.flat false 2 (edges E)))]) 2 0 ⟨by simp, by simp, by simp⟩ (by refine Weak.bw [(0, some _), (1, some _)] (by ((repeat' first|exact rfl|exact trivial|apply And.intro) <;> (repeat' first|exact rfl|exact trivial|apply And.intro)); all_goals (exact sc_eq (by rw [qeq])))) ?_
 rintro k ⟨hk, ha, hp⟩
 refine Pick.by (fun h => ?_) (fun h => ?_)
 ·have hlt : k < E.length := by simpa using h
  refine Idx.by k rfl (by rw [qeq]; exact hlt) ?_;refine Look.by _ (edges_get (qEq hlt)) ?_;have hbad : ¬ okE n E[k] -> ¬ RightP n E := fun h q => h (q.2.2.2.1 _ (List.getElem_mem hlt))
  refine Pick.by (fun h4 => ?_) (fun h4 => ?_)
  ·have h4 : E[k].1 < 0 := by simpa using h4
   refine Seg.by (by kernel_rfl) ?_;refine ⟨rfl, ?_⟩;show Sc.b _ = Sc.b _
   rw [<- no_of (hbad (fun q => by unfold okE at q; omega))]
  have h4 : ¬ E[k].1 < 0 := by simpa using h4
  refine Pick.by (fun h5 => ?_) (fun h5 => ?_)
  ·have h5 : E[k].1 ≥ E[k].2 := by simpa using h5
   refine Seg.by (by kernel_rfl) ?_;refine ⟨rfl, ?_⟩;show Sc.b _ = Sc.b _
   rw [<- no_of (hbad (fun q => by unfold okE at q; omega))]
  have h5 : ¬ E[k].1 ≥ E[k].2 := by simpa using h5
  refine Pick.by (fun h6 => ?_) (fun h6 => ?_)
  ·have h6 : E[k].2 ≥ n := by simpa using h6
   refine Seg.by (by kernel_rfl) ?_;refine ⟨rfl, ?_⟩;show Sc.b _ = Sc.b _
   rw [<- no_of (hbad (fun q => by unfold okE at q; omega))]
  have h6 : ¬ E[k].2 ≥ n := by simpa using h6
  have hok : okE n E[k] := by unfold okE; omega
  refine Pick.by (fun h0 => ?_) (fun h0 => ?_)
  ·have h0 : 0 < k := by simpa using h0
   have hk1 : k - 1 < E.length := by omega
   refine Pick.n ?_;refine Idx.by (k - 1) (by omega) (by rw [qeq]; exact hk1) ?_;refine Look.by _ (edges_get (qEq hk1)) ?_;refine Call.by _ _ (compareC_at E[k - 1] E[k]) ?_;refine Seg.by (by kernel_rfl) ?_;have hc := cmpE_lt E[k - 1] E[k];refine Pick.by (fun h9 => ?_) (fun h9 => ?_)
   ·have h9 : cmpE E[k - 1] E[k] ≥ 0 := by simpa using h9
    refine ⟨rfl, ?_⟩;show Sc.b _ = Sc.b _
    rw [<- no_of (fun q => pw_no hlt h0 (by rw [<- hc]; omega) q.2.2.2.2)]
   ·have h9 : ¬ cmpE E[k - 1] E[k] ≥ 0 := by simpa using h9
    refine Pick.n ?_;refine Next.by (k + 1) ⟨by omega, all_step hlt ha hok, pw_step hlt hp (fun _ => by rw [<- hc]; omega)⟩ (by omega) (by refine Weak.ba [(0, some _), (1, some _)])
  ·have h0 : ¬ 0 < k := by simpa using h0
   refine Seg.by (by kernel_rfl) ?_;refine Pick.n ?_;refine Next.by (k + 1) ⟨by omega, all_step hlt ha hok, pw_step hlt hp (fun h => absurd h h0)⟩ (by omega) (by refine Weak.ba [(0, some _), (1, some _)])
 ·refine ⟨rfl, ?_⟩;have hge : E.length <= k := by simpa using h
  rw [List.take_of_length_le hge] at ha hp;show Sc.b _ = Sc.b _
  rw [decide_eq_true (show RightP (n, E).1 (n, E).2 from ⟨by simp only; omega, by simp only; omega, h3, ha, hp⟩)]
theorem RightG_ok : SoundC Tryz.prog T 25 RightC := sound_pure Tryz.func25 (by rfl) (by rfl) (by simp [RightC, conP]) RightG_p
theorem ints_snoc (l : List Int) (x : Int) : ints (l ++ [x]) = ints l ++ [[.i .i64 x]] := by simp [ints]
theorem take_snoc {α β : Type} (f : α -> β) {l : List α} {k : Nat} (h : k < l.length) : (l.take (k + 1)).map f = (l.take k).map f ++ [f l[k]] := by
 rw [qTq h, List.map_append]; rfl
theorem rowsI_snoc (l : List (List Int)) (x : List Int) : rowsI (l ++ [x]) = rowsI l ++ [ints x] := by simp [rowsI]
def mnI (a b : Int) : Int := if b < a then b else a
def mxI (a b : Int) : Int := if b > a then b else a
theorem InC_at {l : List Int} (x : Int) (hl : l.length <= 1000000) : InC.F [.one (.flat false 1 (ints l)), .one (.s (.i .i64 x))] = some (.one (.s (.b (l.elem x))), []) :=
 conP_at (a := (l, x)) (fun a b _ _ h => by simp at h; obtain ⟨h1, h2⟩ := h; rw [Prod.ext (ints_inj h1) h2]) hl
theorem set_same {α : Type} {l : List α} {i : Nat} {x : α} (h : l[i]? = some x) : l.set i x = l := by
 apply List.ext_getElem?
 intro j
 by_cases hj : j = i
 ·subst hj; rw [List.getElem?_set_self (qSq.1 h).1, h]
 ·rw [qNq (Ne.symm hj)]
theorem SameRowsC_at {l m : List (List Int)} (hl : small l) (hm : small m) : SameRowsC.F [.one (.nest false 1 (rowsI l)), .one (.nest false 1 (rowsI m))] = some (.one (.s (.b (decide (l = m)))), []) :=
 conP_at (a := (l, m)) (fun a b _ _ h => by simp at h; obtain ⟨h1, h2⟩ := h; rw [Prod.ext (rowsI_inj h1) (rowsI_inj h2)]) ⟨hl, hm⟩
end Go.Sh
namespace Go.Sh
def adjE (E : List Ed) (a b : Int) : Prop := (a, b) ∈ E \/ (b, a) ∈ E
def mrk (f : List Int) (v : Int) : Int := f.getD v.toNat 0
def cnt (l : List Int) (f : List Int) : Nat := l.countP fun v => mrk f v == 2
section
variable {n : Int} {E : List Ed} {l f : List Int}
end
end Go.Sh
namespace Go.Sh
open Go.Proofs
noncomputable def UnlikeC : Con := conP 1 (fun l : List Int => l.length <= 1000000) (fun l => [.one (.flat false 1 (ints l))]) (fun l => .one (.s (.b (decide l.Nodup))))
theorem UnlikeC_at {l : List Int} (h : l.length <= 1000000) : UnlikeC.F [.one (.flat false 1 (ints l))] = some (.one (.s (.b (decide l.Nodup))), []) :=
 conP_at (a := l) (fun a b _ _ h => by simp at h; rw [ints_inj h]) h
theorem ints_set (f : List Int) (i : Nat) (x : Int) : ints (f.set i x) = (ints f).set i [.i .i64 x] := by simp [ints, List.map_set]
end Go.Sh
namespace Go.Sh
section
variable {n : Int} {E : List Ed} {f : List Int} {S : List (List Int)} {l : List Int}
end
end Go.Sh
namespace Go.Sh
open Go.Proofs
def grO (n : Int) (E : List Ed) : V := .agg [.s (.i .i64 n), .flat true 2 (edges E)]
end Go.Sh
namespace Go.Sh
def insE (p : Ed) : List Ed -> List Ed
 | [] => [p]
 | q :: r => if ltE p q then p :: q :: r else if p = q then q :: r else q :: insE p r
def edN (p : Ed) : Ed := (mnI p.1 p.2, mxI p.1 p.2)
def normE (l : List Ed) : List Ed := l.foldr (fun p E => if p.1 = p.2 then E else insE (edN p) E) []
theorem mem_insE {p x : Ed} : ∀ {E : List Ed}, x ∈ insE p E ↔ x = p \/ x ∈ E := by
 intro E
 induction E with
 | nil => simp [insE]
 | cons q r ih =>
  unfold insE;split
  ·simp
  ·split
   ·rename_i h; subst h; simp
   ·simp only [List.mem_cons, ih];constructor
    ·rintro (h | h | h) <;> simp [h]
    ·rintro (h | h | h) <;> simp [h]
theorem ltE_tri (p q : Ed) : ltE p q \/ p = q \/ ltE q p := by
 obtain ⟨a, b⟩ := p
 obtain ⟨c, d⟩ := q
 unfold ltE
 simp only [Prod.mk.injEq]
 omega
theorem insE_sorted {p : Ed} : ∀ {E : List Ed}, E.Pairwise ltE -> (insE p E).Pairwise ltE := by
 intro E
 induction E with
 | nil => intro _; simp [insE]
 | cons q r ih =>
  intro h;unfold insE;have h' := List.pairwise_cons.1 h;split
  ·rename_i hlt;exact List.pairwise_cons.2 ⟨fun x hx => by rcases List.mem_cons.1 hx with rfl | hx; exact hlt; exact hlt.trans (h'.1 x hx), h⟩
  ·split
   ·exact h
   ·rename_i h1 h2;refine List.pairwise_cons.2 ⟨fun x hx => ?_, ih h'.2⟩;rcases mem_insE.1 hx with rfl | hx
    ·rcases ltE_tri x q with h | h | h
     ·exact absurd h h1
     ·exact absurd h h2
     ·exact h
    ·exact h'.1 x hx
theorem normE_sorted (l : List Ed) : (normE l).Pairwise ltE := by
 induction l with
 | nil => simp [normE]
 | cons p l ih =>
  show (if p.1 = p.2 then normE l else insE (edN p) (normE l)).Pairwise ltE
  split
  ·exact ih
  ·exact insE_sorted ih
theorem mem_normE {l : List Ed} {x : Ed} : x ∈ normE l ↔ ∃ p ∈ l, p.1 ≠ p.2 /\ x = edN p := by
 induction l with
 | nil => simp [normE]
 | cons p l ih =>
  show x ∈ (if p.1 = p.2 then normE l else insE (edN p) (normE l)) ↔ _
  split
  ·rename_i h;rw [ih];constructor
   ·rintro ⟨q, hq, h1⟩; exact ⟨q, by simp [hq], h1⟩
   ·rintro ⟨q, hq, h1, h2⟩;rcases List.mem_cons.1 hq with rfl | hq
    ·exact absurd h h1
    ·exact ⟨q, hq, h1, h2⟩
  ·rename_i h;rw [mem_insE, ih];constructor
   ·rintro (h1 | ⟨q, hq, h1⟩)
    ·exact ⟨p, by simp, h, h1⟩
    ·exact ⟨q, by simp [hq], h1⟩
   ·rintro ⟨q, hq, h1, h2⟩;rcases List.mem_cons.1 hq with rfl | hq
    ·exact .inl h2
    ·exact .inr ⟨q, hq, h1, h2⟩
theorem ltE_ne {p q : Ed} (h : ltE p q) : p ≠ q := by
 intro e
 subst e
 unfold ltE at h
 omega
theorem sortedE_eq {E F : List Ed} (h : E.Pairwise ltE) (k : F.Pairwise ltE) (hm : ∀ x, x ∈ E ↔ x ∈ F) : E = F := by
 have hp : E.Perm F := (List.perm_ext_iff_of_nodup (h.imp ltE_ne) (k.imp ltE_ne)).2 hm
 refine List.Perm.eq_of_pairwise (le := ltE) (fun a b _ _ h1 h2 => ?_) h k hp
 unfold ltE at h1 h2
 exact absurd h1 (by omega)
theorem edN_ok {n : Int} {p : Ed} (h1 : 0 <= p.1 /\ p.1 < n) (h2 : 0 <= p.2 /\ p.2 < n) (hne : p.1 ≠ p.2) : okE n (edN p) := by
 unfold okE edN mnI mxI
 dsimp only
 split <;> split <;> omega
theorem normE_ok {n : Int} {l : List Ed} (h : ∀ p ∈ l, (0 <= p.1 /\ p.1 < n) /\ 0 <= p.2 /\ p.2 < n) : ∀ x ∈ normE l, okE n x := by
 intro x hx
 obtain ⟨p, hp, hne, rfl⟩ := mem_normE.1 hx
 exact edN_ok (h p hp).1 (h p hp).2 hne
theorem insE_length (p : Ed) (E : List Ed) : (insE p E).length <= E.length + 1 := by
 induction E with
 | nil => simp [insE]
 | cons q r ih =>
  unfold insE;split
  ·simp
  ·split
   ·simp
   ·simp; omega
theorem normE_length (l : List Ed) : (normE l).length <= l.length := by
 induction l with
 | nil => simp [normE]
 | cons p l ih =>
  show (if p.1 = p.2 then normE l else insE (edN p) (normE l)).length <= _
  split
  ·simp; omega
  ·have := insE_length (edN p) (normE l); simp; omega
structure UpI (n : Nat) (l : List Ed) (U : List (List Int)) : Prop where
 len : U.length = n
 nd : ∀ r ∈ U, r.Nodup
 ln : ∀ r ∈ U, r.length <= l.length
 mem : ∀ (a : Nat) r, U[a]? = some r -> ∀ b, b ∈ r ↔ ∃ p ∈ l, p.1 ≠ p.2 /\ edN p = ((a : Int), b)
theorem UpI.nil (n : Nat) : UpI n [] (List.replicate n []) := by
 refine ⟨by simp, fun r hr => ?_, fun r hr => ?_, fun a r h b => ?_⟩
 ·rw [(List.mem_replicate.1 hr).2]; exact List.nodup_nil
 ·rw [(List.mem_replicate.1 hr).2]; simp
 ·rw [List.getElem?_replicate] at h;split at h
  ·injection h with h; subst h; simp
  ·simp at h
theorem UpI.skip {n : Nat} {l : List Ed} {U : List (List Int)} {p : Ed} (h : UpI n l U) (hp : ∀ r, p.1 ≠ p.2 -> U[(edN p).1.toNat]? = some r -> 0 <= (edN p).1 -> (edN p).2 ∈ r) (h0 : 0 <= (edN p).1) : UpI n (l ++ [p]) U := by
 refine ⟨h.len, h.nd, fun r hr => by have := h.ln r hr; simp; omega, fun a r ha b => ?_⟩
 rw [h.mem a r ha b]
 constructor
 ·rintro ⟨q, hq, k⟩; exact ⟨q, by simp [hq], k⟩
 ·rintro ⟨q, hq, k1, k2⟩;rcases List.mem_append.1 hq with hq | hq
  ·exact ⟨q, hq, k1, k2⟩
  ·simp at hq;subst hq;have e1 : (edN q).1.toNat = a := by rw [k2]; simp
   have := hp r k1 (by rw [e1]; exact ha) h0;rw [k2] at this;obtain ⟨q', hq', k'⟩ := (h.mem a r ha b).1 this;exact ⟨q', hq', k'⟩
theorem UpI.put {n : Nat} {l : List Ed} {U : List (List Int)} {p : Ed} {a : Nat} {r : List Int} (h : UpI n l U) (hne : p.1 ≠ p.2) (ha : (edN p).1 = a) (hr : U[a]? = some r) (hb : (edN p).2 ∉ r) : UpI n (l ++ [p]) (U.set a (r ++ [(edN p).2])) := by
 have hin : ∀ x ∈ U.set a (r ++ [(edN p).2]), x ∈ U \/ x = r ++ [(edN p).2] := fun x hx => List.mem_or_eq_of_mem_set hx
 refine ⟨by rw [List.length_set]; exact h.len, fun x hx => ?_, fun x hx => ?_, fun c x hc b => ?_⟩
 ·rcases hin x hx with hx | rfl
  ·exact h.nd x hx
  ·rw [List.nodup_append];refine ⟨h.nd r (qMq hr), by simp, fun y hy z hz e => ?_⟩;simp at hz;subst e;subst hz;exact hb hy
 ·rcases hin x hx with hx | rfl
  ·have := h.ln x hx; simp; omega
  ·have := h.ln r (qMq hr); simp; omega
 ·rw [List.getElem?_set] at hc;split at hc
  ·rename_i e;subst e;split at hc
   ·injection hc with hc
    subst hc;rw [List.mem_append, h.mem a r hr b];constructor
    ·rintro (⟨q, hq, k⟩ | hb')
     ·exact ⟨q, by simp [hq], k⟩
     ·simp at hb';exact ⟨p, by simp, hne, by rw [hb', <- ha]⟩
    ·rintro ⟨q, hq, k1, k2⟩;rcases List.mem_append.1 hq with hq | hq
     ·exact .inl ⟨q, hq, k1, k2⟩
     ·simp at hq;subst hq;exact .inr (by rw [k2]; simp)
   ·simp at hc
  ·rename_i e;rw [h.mem c x hc b];constructor
   ·rintro ⟨q, hq, k⟩; exact ⟨q, by simp [hq], k⟩
   ·rintro ⟨q, hq, k1, k2⟩;rcases List.mem_append.1 hq with hq | hq
    ·exact ⟨q, hq, k1, k2⟩
    ·simp at hq;subst hq;rw [k2] at ha;simp at ha;omega
def rowE (U : List (List Int)) (a : Nat) : List Ed := (sortI (U.getD a [])).map fun b => ((a : Int), b)
def accE (U : List (List Int)) (k : Nat) : List Ed := (List.range k).flatMap (rowE U)
theorem accE_succ (U : List (List Int)) (k : Nat) : accE U (k + 1) = accE U k ++ rowE U k := by simp [accE, List.range_succ]
theorem sortI_length (l : List Int) : (sortI l).length = l.length := (List.mergeSort_perm l _).length_eq
theorem mem_sortI {l : List Int} {x : Int} : x ∈ sortI l ↔ x ∈ l := (List.mergeSort_perm l _).mem_iff
theorem sortI_sorted (l : List Int) : (sortI l).Pairwise (· <= ·) := by
 have := List.pairwise_mergeSort (le := fun a b : Int => decide (a <= b)) (fun a b c h1 h2 => by simp at *; omega) (fun a b => by simp; omega) l
 exact this.imp (fun h => by simpa using h)
theorem sortI_lt {l : List Int} (h : l.Nodup) : (sortI l).Pairwise (· < ·) := by
 have h1 := sortI_sorted l
 have h2 : (sortI l).Nodup := (List.mergeSort_perm l _).nodup_iff.2 h
 have := h1.and h2
 exact this.imp fun h => by omega
theorem accE_length {U : List (List Int)} {m : Nat} (h : ∀ r ∈ U, r.length <= m) (k : Nat) : (accE U k).length <= k * m := by
 induction k with
 | zero => simp [accE]
 | succ k ih =>
  rw [accE_succ, List.length_append, Nat.succ_mul];have : (rowE U k).length <= m := by
   unfold rowE;rw [List.length_map, sortI_length, qDq]
   cases hk : U[k]? with
   | none => simp
   | some r => exact h r (qMq hk)
  omega
theorem accE_norm {n : Nat} {l : List Ed} {U : List (List Int)} (h : UpI n l U) (hl : ∀ p ∈ l, (0 <= p.1 /\ p.1 < n) /\ 0 <= p.2 /\ p.2 < n) : accE U n = normE l := by
 have hmem : ∀ k x, x ∈ accE U k ↔ ∃ a, a < k /\ x ∈ rowE U a := fun k x => by simp [accE]
 have hrow : ∀ a x, x ∈ rowE U a ↔ ∃ r, U[a]? = some r /\ x.1 = a /\ x.2 ∈ r := by
  intro a x;unfold rowE;rw [List.mem_map, qDq]
  cases hk : U[a]? with
  | none => simp [sortI]
  | some r =>
   simp only [Option.getD_some, mem_sortI];constructor
   ·rintro ⟨b, hb, rfl⟩; exact ⟨r, rfl, rfl, hb⟩
   ·rintro ⟨r', e, h1, h2⟩;injection e with e
    subst e;exact ⟨x.2, h2, by rw [<- h1]⟩
 refine sortedE_eq ?_ (normE_sorted l) fun x => ?_
 ·have : ∀ k, (accE U k).Pairwise ltE := by
   intro k
   induction k with
   | zero => simp [accE]
   | succ k ih =>
    rw [accE_succ, List.pairwise_append];refine ⟨ih, ?_, fun x hx y hy => ?_⟩
    ·unfold rowE;rw [List.pairwise_map];have hnd : (U.getD k []).Nodup := by
      rw [qDq]
      cases hk : U[k]? with
      | none => simp
      | some r => exact h.nd r (qMq hk)
     exact (sortI_lt hnd).imp fun h => .inr ⟨rfl, h⟩
    ·obtain ⟨a, ha, hxa⟩ := (hmem k x).1 hx;obtain ⟨_, _, h1, _⟩ := (hrow a x).1 hxa;obtain ⟨_, _, h2, _⟩ := (hrow k y).1 hy;exact .inl (by omega)
  exact this n
 ·rw [hmem, mem_normE];constructor
  ·rintro ⟨a, ha, hx⟩;obtain ⟨r, hr, h1, h2⟩ := (hrow a x).1 hx;obtain ⟨p, hp, hne, he⟩ := (h.mem a r hr x.2).1 h2;exact ⟨p, hp, hne, by rw [he, <- h1]⟩
  ·rintro ⟨p, hp, hne, rfl⟩;have hok := edN_ok (hl p hp).1 (hl p hp).2 hne;obtain ⟨o1, o2, o3⟩ := hok;have hlt : (edN p).1.toNat < n := by omega
   refine ⟨(edN p).1.toNat, hlt, (hrow _ _).2 ⟨_, qEq (by rw [h.len]; exact hlt), by omega, ?_⟩⟩;refine (h.mem _ _ (qEq (by rw [h.len]; exact hlt)) _).2 ⟨p, hp, hne, ?_⟩;rw [Int.toNat_of_nonneg o1]
end Go.Sh
namespace Go.Sh
open Go.Proofs
theorem SortedC_at {l : List Int} (h : l.length <= 1000000) : SortedC.F [.one (.flat false 1 (ints l))] = some (.one (.flat true 1 (ints (sortI l))), []) :=
 conP_at (a := l) (fun a b _ _ h => by simp at h; rw [ints_inj h]) h
def inR (n : Int) (p : Ed) : Prop := (0 <= p.1 /\ p.1 < n) /\ 0 <= p.2 /\ p.2 < n
instance (n : Int) (p : Ed) : Decidable (inR n p) := by unfold inR; infer_instance
def normF (n : Int) (l : List Ed) : (Int × List Ed) × Int :=
 if n < 0 then ((0, []), 1) else if n > 1000 then ((0, []), 5) else if ∀ p ∈ l, inR n p then (if (normE l).length > 4000 then ((0, []), 5) else ((n, normE l), 0)) else ((0, []), 4)
noncomputable def NormC : Con := conP 2 (fun a : Int × List Ed => a.2.length <= 1000000) (fun a => [.one (.s (.i .i64 a.1)), .one (.flat false 2 (edges a.2))]) (fun a => .tup [grO (normF a.1 a.2).1.1 (normF a.1 a.2).1.2, .one (.s (.i .i64 (normF a.1 a.2).2))])
theorem NormC_at {n : Int} {l : List Ed} (h : l.length <= 1000000) : NormC.F [.one (.s (.i .i64 n)), .one (.flat false 2 (edges l))] = some (.tup [grO (normF n l).1.1 (normF n l).1.2, .one (.s (.i .i64 (normF n l).2))], []) :=
 conP_at (a := (n, l)) (fun a b _ _ h => by simp at h; obtain ⟨h1, h2⟩ := h; rw [Prod.ext h1 (edges_inj h2)]) h
theorem edges_snoc (l : List Ed) (x : Ed) : edges (l ++ [x]) = edges l ++ [[.i .i64 x.1, .i .i64 x.2]] := by simp [edges]
theorem all_take {α : Type} {Q : α -> Prop} {l : List α} {k : Nat} (hk : k < l.length) (h : ∀ p ∈ l.take k, Q p) (h2 : Q l[k]) : ∀ p ∈ l.take (k + 1), Q p := by
 rw [qTq hk]
 intro p hp
 rcases List.mem_append.1 hp with hp | hp
 ·exact h p hp
 ·simp at hp; subst hp; exact h2
set_option maxHeartbeats 2000000 in
theorem Norm3_ok : SoundC Tryz.prog T 59 NormC := by
 refine sound_con (X := { Γ := [(83, InC), (64, SortedC)], T := T, nt := 120 }) cr_none hmix hT (sound_cons In_ok (sound_cons Sorted_ok sound_nil)) Tryz.func59 (by rfl) (by rfl) (by rfl) (by rfl) 2 ?_
 rintro ⟨n, l⟩ hl
 dsimp only at hl
 refine two_le ?_
 refine Pick.by (fun h1 => ?_) (fun h1 => ?_)
 ·have h1 : n < 0 := by simpa using h1
  have hv : normF n l = ((0, []), 1) := if_pos h1;dsimp only;rw [hv];exact ⟨rfl, rfl, ⟨rfl, ⟨rfl, rfl⟩, trivial⟩, rfl, trivial⟩
 have h1 : ¬ n < 0 := by simpa using h1
 refine Pick.by (fun h2 => ?_) (fun h2 => ?_)
 ·have h2 : n > 1000 := by simpa using h2
  have hv : normF n l = ((0, []), 5) := by unfold normF; rw [if_neg h1, if_pos h2]
  dsimp only;rw [hv];exact ⟨rfl, rfl, ⟨rfl, ⟨rfl, rfl⟩, trivial⟩, rfl, trivial⟩
 have h2 : ¬ n > 1000 := by simpa using h2
 refine Pick.T (by simp) ?_
 refine Idx.by n.toNat (by show n = _; omega) (by omega) ?_
 refine LoopP.intro (α := Nat × List (List Int)) (fun p => p.1 <= l.length /\ UpI n.toNat (l.take p.1) p.2 /\ ∀ q ∈ l.take p.1, inR n q) (fun p => l.length - p.1) (fun p => [(0, .s (.i .i64 n)), (1, .sl 1 none none), (4, .ptr 0 0), (6, .sl 2 none none), (7, .s (.i .i64 p.1))])
  (fun p => [(0, some (.blk [.s (.i .i64 0), .nils])), (1, some (.flat false 2 (edges l))), (2, some (.nest true 1 (rowsI p.2) [] []))]) 3 (0, List.replicate n.toNat []) ⟨by simp, by simpa using UpI.nil n.toNat, by simp⟩ (by refine Weak.bw (sg 0 [_,_,_]) (by ((repeat' first|exact rfl|exact trivial|apply And.intro) <;> (repeat' first|exact rfl|exact trivial|apply And.intro)); all_goals (simp [rowsI, ints]))) ?_
 rintro ⟨i, U⟩ ⟨hi, hU, hin⟩
 dsimp only at hi hU hin
 refine Pick.by (fun hc => ?_) (fun hc => ?_)
 ·have hlt : i < l.length := by simpa [qeq] using hc
  have hbad : ¬ inR n l[i] -> normF n l = ((0, []), 4) := fun h => by
   unfold normF;rw [if_neg h1, if_neg h2, if_neg fun k => h (k _ (List.getElem_mem hlt))]
  refine Idx.by i rfl (by rw [qeq]; exact hlt) ?_;refine Look.by _ (edges_get (qEq hlt)) ?_;refine Idx.by i rfl (by rw [qeq]; exact hlt) ?_;refine Look.by _ (edges_get (qEq hlt)) ?_;refine Pick.by (fun h3 => ?_) (fun h3 => ?_)
  ·have h3 : l[i].1 < 0 := by simpa using h3
   have hv := hbad (fun h => by unfold inR at h; omega);dsimp only;rw [hv];exact ⟨rfl, rfl, ⟨rfl, ⟨rfl, rfl⟩, trivial⟩, rfl, trivial⟩
  have h3 : ¬ l[i].1 < 0 := by simpa using h3
  refine Pick.by (fun h4 => ?_) (fun h4 => ?_)
  ·have h4 : l[i].2 < 0 := by simpa using h4
   have hv := hbad (fun h => by unfold inR at h; omega);dsimp only;rw [hv];exact ⟨rfl, rfl, ⟨rfl, ⟨rfl, rfl⟩, trivial⟩, rfl, trivial⟩
  have h4 : ¬ l[i].2 < 0 := by simpa using h4
  refine Pick.by (fun h5 => ?_) (fun h5 => ?_)
  ·have h5 : l[i].1 ≥ n := by simpa using h5
   have hv := hbad (fun h => by unfold inR at h; omega);dsimp only;rw [hv];exact ⟨rfl, rfl, ⟨rfl, ⟨rfl, rfl⟩, trivial⟩, rfl, trivial⟩
  have h5 : ¬ l[i].1 ≥ n := by simpa using h5
  refine Pick.by (fun h6 => ?_) (fun h6 => ?_)
  ·have h6 : l[i].2 ≥ n := by simpa using h6
   have hv := hbad (fun h => by unfold inR at h; omega);dsimp only;rw [hv];exact ⟨rfl, rfl, ⟨rfl, ⟨rfl, rfl⟩, trivial⟩, rfl, trivial⟩
  have h6 : ¬ l[i].2 ≥ n := by simpa using h6
  have hok : inR n l[i] := ⟨⟨by omega, by omega⟩, by omega, by omega⟩;have hin2 := all_take hlt hin hok;have ht : l.take (i + 1) = l.take i ++ [l[i]] := qTq hlt;have hlo : 0 <= mnI l[i].1 l[i].2 /\ mnI l[i].1 l[i].2 < n := by unfold mnI; split <;> omega
  have hU0 : (mnI l[i].1 l[i].2).toNat < U.length := by rw [hU.len]; omega
  obtain ⟨r, hr⟩ : ∃ r, U[(mnI l[i].1 l[i].2).toNat]? = some r := ⟨_, qEq hU0⟩;have hrl : r.length <= 1000000 := by have := hU.ln r (qMq hr); rw [List.length_take] at this; omega
  have hix : (mnI l[i].1 l[i].2).toNat < (rowsI U).length := by rw [qrq]; exact hU0
  refine Pick.by (fun h7 => ?_) (fun h7 => ?_)
  ·have h7 : l[i].1 ≠ l[i].2 := by simpa using h7
   refine Idx.by (mnI l[i].1 l[i].2).toNat (by show mnI l[i].1 l[i].2 = _; omega) hix ?_;refine Pick.T (by simpa using hix) ?_;refine Look.by _ (qgq hr) ?_;refine Call.by _ _ (InC_at (mxI l[i].1 l[i].2) hrl) ?_;refine Pick.by (fun h8 => ?_) (fun h8 => ?_)
   ·have h8 : ¬ mxI l[i].1 l[i].2 ∈ r := by have h8 : (!r.elem (mxI l[i].1 l[i].2)) = true := h8; simpa using h8
    refine Idx.by (mnI l[i].1 l[i].2).toNat (by show mnI l[i].1 l[i].2 = _; omega) hix ?_;refine Pick.T (by simpa using hix) ?_;refine Look.by _ (qgq hr) ?_;refine Pick.T (by simp [cut, qiq]; omega) ?_;refine Idx.by (mnI l[i].1 l[i].2).toNat (by show mnI l[i].1 l[i].2 = _; omega) hix ?_;refine Pick.T (by simpa using hix) ?_;refine Pick.T (by simp) ?_;refine Pick.n ?_;have hP := hU.put h7 (a := (mnI l[i].1 l[i].2).toNat) (by show mnI l[i].1 l[i].2 = _; omega) hr h8;refine Next.by (i + 1, U.set (mnI l[i].1 l[i].2).toNat (r ++ [mxI l[i].1 l[i].2])) ⟨by omega, by rw [ht]; exact hP, hin2⟩ (by show l.length - (i + 1) < l.length - i; omega) (by refine Weak.bw (sg 0 [_,_,_]) (by ((repeat' first|exact rfl|exact trivial|apply And.intro) <;> (repeat' first|exact rfl|exact trivial|apply And.intro)); all_goals ((unfold rowsI; rw [List.map_set, ints_snoc]; rfl))))
   ·have h8 : mxI l[i].1 l[i].2 ∈ r := by have h8 : (!r.elem (mxI l[i].1 l[i].2)) = false := h8; simpa using h8
    refine Pick.n ?_;have hP : UpI n.toNat (l.take i ++ [l[i]]) U := hU.skip (fun r' _ hr' _ => by
     have hr' : U[(mnI l[i].1 l[i].2).toNat]? = some r' := hr';rw [hr] at hr';injection hr' with e
     rw [<- e]; exact h8) hlo.1
    refine Next.by (i + 1, U) ⟨by omega, by rw [ht]; exact hP, hin2⟩ (by show l.length - (i + 1) < l.length - i; omega) (by refine Weak.ba (sg 0 [_,_,_]))
  ·have h7 : l[i].1 = l[i].2 := by simpa using h7
   refine Pick.n ?_;have hP : UpI n.toNat (l.take i ++ [l[i]]) U := hU.skip (fun r' h => absurd h7 h) hlo.1;refine Next.by (i + 1, U) ⟨by omega, by rw [ht]; exact hP, hin2⟩ (by show l.length - (i + 1) < l.length - i; omega) (by refine Weak.ba (sg 0 [_,_,_]))
 have hge : l.length <= i := by simpa [qeq] using hc
 rw [List.take_of_length_le hge] at hU hin
 have hUr : ∀ r ∈ U, r.length <= 1000000 := fun r hr => by have := hU.ln r hr; omega
 have hnorm : accE U n.toNat = normE l := accE_norm hU (fun p hp => by have := hin p hp; unfold inR at this; omega)
 have hval : normF n l = if (normE l).length > 4000 then ((0, []), 5) else ((n, normE l), 0) := by
  unfold normF;rw [if_neg h1, if_neg h2, if_pos hin]
 refine LoopP.intro (α := Nat) (fun k => k <= n.toNat) (fun k => n.toNat - k) (fun k => [(0, .s (.i .i64 n)), (4, .ptr 0 0), (6, .sl 1 none none), (11, .ptr 2 0), (12, .s (.i .i64 k))])
  (fun k => [(0, some (.blk [.s (.i .i64 0), .nils])), (1, some (.nest true 1 (rowsI U) [] [])), (2, some (.blk [.s (.i .i64 n), .sl 3 none none])), (3, some (.flat true 2 (edges (accE U k))))]) 4 0 (by omega) (by refine Weak.ba [(0, some _), (1, some _), (2, some _), (3, none)]) ?_
 rintro k hk
 have hal := accE_length hUr k
 refine Pick.by (fun hd => ?_) (fun hd => ?_)
 ·have hkn : k < n.toNat := by simp at hd; omega
  have hkU : k < U.length := by rw [hU.len]; exact hkn
  have hr : U[k]? = some U[k] := qEq hkU;have hrl := hUr _ (List.getElem_mem hkU);have hrow : rowE U k = (sortI U[k]).map fun b => ((k : Int), b) := by unfold rowE; rw [qDq, hr]; rfl
  refine Idx.by k rfl (by rw [qrq]; exact hkU) ?_;refine Pick.T (by simpa [qrq] using hkU) ?_;refine Look.by _ (qgq hr) ?_;refine Call.by _ _ (SortedC_at hrl) ?_;refine LoopP.intro (α := Nat) (fun j => j <= (sortI U[k]).length) (fun j => (sortI U[k]).length - j) (fun j => [(0, .s (.i .i64 n)), (4, .ptr 0 0), (6, .sl 1 none none), (11, .ptr 2 0), (12, .s (.i .i64 k)), (13, .sl 4 none none), (14, .s (.i .i64 j))])
   (fun j => [(0, some (.blk [.s (.i .i64 0), .nils])), (1, some (.nest true 1 (rowsI U) [] [])), (2, some (.blk [.s (.i .i64 n), .sl 3 none none])), (3, some (.flat true 2 (edges (accE U k ++ (rowE U k).take j)))), (4, some (.flat true 1 (ints (sortI U[k]))))]) 5 0 (by omega) (by refine Weak.bw (sg 0 [_,_,_,_,_]) (by ((repeat' first|exact rfl|exact trivial|apply And.intro) <;> (repeat' first|exact rfl|exact trivial|apply And.intro)); all_goals (simp))) ?_
  rintro j hj;have hsl : (sortI U[k]).length <= 1000000 := by rw [sortI_length]; exact hrl
  refine Pick.by (fun he => ?_) (fun he => ?_)
  ·have hjl : j < (sortI U[k]).length := by simpa [qiq] using he
   have hjr : j < (rowE U k).length := by rw [hrow, List.length_map]; exact hjl
   refine Idx.by j rfl (by rw [qiq]; exact hjl) ?_;refine Look.by _ (qhq (qEq hjl)) ?_;refine Pick.T (by simp [cut, qeq]; omega) ?_;refine Seg.by (by kernel_rfl) ?_;refine Pick.n ?_;refine Next.by (j + 1) (by omega) (by omega) (by refine Weak.bw (sg 0 [_,_,_,_,_]) (by ((repeat' first|exact rfl|exact trivial|apply And.intro) <;> (repeat' first|exact rfl|exact trivial|apply And.intro)); all_goals ((rw [qTq hjr, <- List.append_assoc, edges_snoc]; simp [hrow]; rfl))))
  ·have hge2 : (sortI U[k]).length <= j := by simpa [qiq] using he
   have ht : (rowE U k).take j = rowE U k := List.take_of_length_le (by rw [hrow, List.length_map]; exact hge2);rw [ht, <- accE_succ];refine Pick.n ?_;refine Next.by (k + 1) (by omega) (by omega) (by refine Weak.ba (sg 0 [_,_,_,_]))
 have hkn : k = n.toNat := by simp at hd; omega
 subst hkn
 rw [hnorm]
 refine Pick.by (fun he => ?_) (fun he => ?_)
 ·have he : (normE l).length > 4000 := by simp [qeq] at he; omega
  have hv : normF n l = ((0, []), 5) := by rw [hval, if_pos he]
  dsimp only;rw [hv];exact ⟨rfl, rfl, ⟨rfl, ⟨rfl, rfl⟩, trivial⟩, rfl, trivial⟩
 ·have he : ¬ (normE l).length > 4000 := by simp [qeq] at he; omega
  have hv : normF n l = ((n, normE l), 0) := by rw [hval, if_neg he]
  dsimp only;rw [hv];exact ⟨rfl, rfl, ⟨rfl, ⟨rfl, rfl⟩, trivial⟩, rfl, trivial⟩
def andI (a b : Int) : Int := IntKind.wrap .i64 ((BitVec.ofInt (IntKind.bits .i64) a &&& BitVec.ofInt (IntKind.bits .i64) b).toNat : Int)
def low (a : Int) : Int := andI a 65535
theorem low_range (a : Int) : 0 <= low a /\ low a <= 65535 := by
 unfold low andI
 have h : (BitVec.ofInt (IntKind.bits .i64) a &&& BitVec.ofInt (IntKind.bits .i64) 65535).toNat <= 65535 := by
  rw [BitVec.toNat_and];refine Nat.le_trans Nat.and_le_right ?_
  decide
 generalize (BitVec.ofInt (IntKind.bits .i64) a &&& BitVec.ofInt (IntKind.bits .i64) 65535).toNat = m at h
 have : IntKind.wrap .i64 (m : Int) = m := by
  have e : (m : Int) % 2 ^ 64 = m := by omega
  simp only [IntKind.wrap, IntKind.bits, IntKind.signed];refine (if_neg fun h => ?_).trans e;simp at h;omega
 rw [this]
 omega
def anyN (n most : Int) : Int := (low n).tmod (most + 1)
def anyP (m : Int) (p : Ed) : Ed := ((low p.1).tmod m, (low p.2).tmod m)
def anyL (m : Int) (l : List Ed) : List Ed := if m > 0 then (l.take 300).map (anyP m) else []
def anyE (n : Int) (l : List Ed) (most : Int) : List Ed := normE (anyL (anyN n most) l)
theorem tmod_range {a m : Int} (h : 0 <= a) (hm : 0 < m) : 0 <= a.tmod m /\ a.tmod m < m := ⟨Int.tmod_nonneg m h, Int.tmod_lt_of_pos a hm⟩
theorem anyN_range {n most : Int} (h : 0 <= most) : 0 <= anyN n most /\ anyN n most <= most := by
 have := tmod_range (low_range n).1 (show 0 < most + 1 by omega)
 unfold anyN
 omega
theorem anyL_inR (m : Int) (l : List Ed) : ∀ p ∈ anyL m l, inR m p := by
 unfold anyL
 split
 ·rename_i h;intro p hp;obtain ⟨q, _, rfl⟩ := List.mem_map.1 hp;exact ⟨tmod_range (low_range q.1).1 h, tmod_range (low_range q.2).1 h⟩
 ·simp
theorem anyL_length (m : Int) (l : List Ed) : (anyL m l).length <= 300 := by
 unfold anyL
 split
 ·simp; omega
 ·simp
theorem any_norm {n most : Int} {l : List Ed} (h : 0 <= most) (h2 : most <= 1000) : normF (anyN n most) (anyL (anyN n most) l) = ((anyN n most, anyE n l most), 0) := by
 have hr := anyN_range (n := n) h
 have hl := Nat.le_trans (normE_length (anyL (anyN n most) l)) (anyL_length (anyN n most) l)
 unfold normF
 rw [if_neg (by omega), if_neg (by omega), if_pos (anyL_inR _ _), if_neg (by omega)]
 rfl
theorem any_right {n most : Int} {l : List Ed} (h : 0 <= most) (h2 : most <= 1000) : RightP (anyN n most) (anyE n l most) := by
 have hr := anyN_range (n := n) h
 have hl := Nat.le_trans (normE_length (anyL (anyN n most) l)) (anyL_length (anyN n most) l)
 exact ⟨hr.1, by omega, by unfold anyE; omega, normE_ok (anyL_inR _ _), normE_sorted _⟩
noncomputable def AnyC : Con := conP 3 (fun a : (Int × List Ed) × Int => 0 <= a.2 /\ a.2 <= 1000) (fun a => [.one (.s (.i .i64 a.1.1)), .one (.flat false 2 (edges a.1.2)), .one (.s (.i .i64 a.2))]) (fun a => grO (anyN a.1.1 a.2) (anyE a.1.1 a.1.2 a.2))
theorem AnyC_at (n : Int) (l : List Ed) {most : Int} (h : 0 <= most /\ most <= 1000) : AnyC.F [.one (.s (.i .i64 n)), .one (.flat false 2 (edges l)), .one (.s (.i .i64 most))] = some (grO (anyN n most) (anyE n l most), []) :=
 conP_at (a := ((n, l), most)) (fun a b _ _ h => by
  obtain ⟨⟨n, l⟩, m⟩ := a;obtain ⟨⟨n', l'⟩, m'⟩ := b;simp at h;obtain ⟨h1, h2, h3⟩ := h;subst h1; subst h3
  rw [edges_inj h2]) h
set_option maxRecDepth 20000 in
set_option maxHeartbeats 1000000 in
theorem Any_ok : SoundC Tryz.prog T 24 AnyC := by
 refine sound_con (X := { Γ := [(59, NormC)], T := T, nt := 57 }) cr_none hmix hT (sound_cons Norm3_ok sound_nil) Tryz.func24 (by rfl) (by rfl) (by rfl) (by rfl) 3 ?_
 rintro ⟨⟨n, l⟩, most⟩ ⟨hm0, hm1⟩
 dsimp only at hm0 hm1
 dsimp only
 refine two_le ?_
 have hr := anyN_range (n := n) hm0
 refine Pick.n ?_
 refine Pick.F (by simp; omega) ?_
 obtain ⟨m, hm⟩ : ∃ m, anyN n most = m := ⟨_, rfl⟩
 have hE : anyE n l most = normE (anyL m l) := by unfold anyE; rw [hm]
 have hnf := any_norm (n := n) (l := l) hm0 hm1
 rw [hm] at hr hnf
 refine LoopP.intro (α := Nat) (fun k => k <= l.length /\ k <= 300 /\ (0 < k -> 0 < m)) (fun k => l.length - k) (fun k => [(0, .s (.i .i64 (m))), (1, .sl 1 none none), (6, .ptr 0 0), (7, .sl 2 none none), (8, .s (.i .i64 k))])
  (fun k => [(0, some (.blk [.s (.i .i64 0), .nils])), (1, some (.flat false 2 (edges l))), (2, some (.flat true 2 (edges ((l.take k).map (anyP (m))))))]) 3 0 ⟨by omega, by omega, by omega⟩ (by refine Weak.bw [(0, some _), (1, some _), (2, none)] (by ((repeat' first|exact rfl|exact trivial|apply And.intro) <;> (repeat' first|exact rfl|exact trivial|apply And.intro)); all_goals (exact sc_eq hm.symm))) ?_
 rintro k ⟨hk, hk3, hk0⟩
 have hlen : (edges ((l.take k).map (anyP (m)))).length = k := by rw [qeq]; simp; omega
 have fin : k = l.length \/ k = 300 \/ m <= 0 -> (l.take k).map (anyP (m)) = anyL (m) l := by
  intro h;unfold anyL;split
  ·rename_i hp;rcases h with h | h | h
   ·rw [List.take_of_length_le (by omega : l.length <= k), List.take_of_length_le (by omega : l.length <= 300)]
   ·rw [h]
   ·omega
  ·have : k = 0 := by omega
   subst this; simp
 have endd : (l.take k).map (anyP (m)) = anyL (m) l -> NormC.F [.one (.s (.i .i64 (m))), .one (.flat false 2 (edges ((l.take k).map (anyP (m)))))] = some (.tup [grO (m) (anyE n l most), .one (.s (.i .i64 0))], []) := by
  intro h;have := NormC_at (n := m) (l := (l.take k).map (anyP (m))) (by rw [<- qeq, hlen]; omega);rw [this, h, hnf]
 refine Pick.by (fun hc => ?_) (fun hc => ?_)
 ·have hlt : k < l.length := by simpa [qeq] using hc
  refine Pick.by (fun hd => ?_) (fun hd => ?_)
  ·have hd : k < 300 := by simp at hd; omega
   refine Pick.by (fun he => ?_) (fun he => ?_)
   ·have he : 0 < m := by simpa using he
    refine Idx.by k rfl (by rw [qeq]; exact hlt) ?_;refine Look.by _ (edges_get (qEq hlt)) ?_;refine Pick.F (by simp; omega) ?_;refine Idx.by k rfl (by rw [qeq]; exact hlt) ?_;refine Look.by _ (edges_get (qEq hlt)) ?_;refine Pick.F (by simp; omega) ?_;refine Pick.T (by rw [cut, hlen]; simp; omega) ?_;refine Seg.by (by kernel_rfl) ?_;refine Pick.n ?_;refine Next.by (k + 1) ⟨by omega, by omega, fun _ => he⟩ (by omega) (by refine Weak.bw (sg 0 [_,_,_]) (by ((repeat' first|exact rfl|exact trivial|apply And.intro) <;> (repeat' first|exact rfl|exact trivial|apply And.intro)); all_goals ((rw [take_snoc _ hlt, edges_snoc]; rfl))))
   ·have he : m <= 0 := by simpa using he
    refine Call.by _ _ (endd (fin (.inr (.inr he)))) ?_;exact ⟨rfl, sc_eq hm.symm, ⟨rfl, rfl⟩, trivial⟩
  ·have hd : k = 300 := by simp at hd; omega
   refine Call.by _ _ (endd (fin (.inr (.inl hd)))) ?_;exact ⟨rfl, sc_eq hm.symm, ⟨rfl, rfl⟩, trivial⟩
 ·have hge : l.length <= k := by simpa [qeq] using hc
  refine Call.by _ _ (endd (fin (.inl (by omega)))) ?_;exact ⟨rfl, sc_eq hm.symm, ⟨rfl, rfl⟩, trivial⟩
noncomputable def OfC : Con := conP 2 (fun a : (Int × List Ed) × Int => 0 <= a.2 /\ a.2 <= 1000) (fun a => [grV a.1.1 a.1.2, .one (.s (.i .i64 a.2))]) (fun a => grO (anyN a.1.1 a.2) (anyE a.1.1 a.1.2 a.2))
theorem OfC_at (n : Int) (l : List Ed) {most : Int} (h : 0 <= most /\ most <= 1000) : OfC.F [grV n l, .one (.s (.i .i64 most))] = some (grO (anyN n most) (anyE n l most), []) :=
 conP_at (a := ((n, l), most)) (fun a b _ _ h => by
  obtain ⟨⟨n, l⟩, m⟩ := a;obtain ⟨⟨n', l'⟩, m'⟩ := b;simp at h;obtain ⟨h1, h3⟩ := h;obtain ⟨rfl, rfl⟩ := grV_inj h1;subst h3
  rfl) h
theorem Of_ok : SoundC Tryz.prog T 8 OfC := by
 refine sound_con (X := { Γ := [(24, AnyC)], T := T, nt := 11 }) cr_none hmix hT (sound_cons Any_ok sound_nil) Tryz.func8 (by rfl) (by rfl) (by rfl) (by rfl) 3 ?_
 rintro ⟨⟨n, l⟩, most⟩ hm
 dsimp only at hm
 refine two_le ?_
 refine Call.by _ _ (AnyC_at n l hm) ?_
 exact ⟨rfl, rfl, ⟨rfl, rfl⟩, trivial⟩
noncomputable def SameEC : Con := conP 2 (fun a : List Ed × List Ed => a.1.length <= 1000000) (fun a => [.one (.flat false 2 (edges a.1)), .one (.flat false 2 (edges a.2))]) (fun a => .one (.s (.b (decide (a.1 = a.2)))))
theorem SameEC_at {l m : List Ed} (h : l.length <= 1000000) : SameEC.F [.one (.flat false 2 (edges l)), .one (.flat false 2 (edges m))] = some (.one (.s (.b (decide (l = m)))), []) :=
 conP_at (a := (l, m)) (fun a b _ _ h => by simp at h; obtain ⟨h1, h2⟩ := h; rw [Prod.ext (edges_inj h1) (edges_inj h2)]) h
theorem SameE_ok : SoundC Tryz.prog T 39 SameEC := by
 refine sound_con (X := { Γ := [], T := T, nt := 26 }) cr_none hmix hT sound_nil Tryz.func39 (by rfl) (by rfl) (by rfl) (by rfl) 2 ?_
 rintro ⟨l, m⟩ hl
 dsimp only at hl
 refine two_le ?_
 refine Pick.by (fun h => ?_) (fun h => ?_)
 ·have h : l.length ≠ m.length := by simp [qeq] at h; omega
  refine ⟨rfl, ?_⟩;show Sc.b false = Sc.b (decide (l = m))
  rw [decide_eq_false fun e => h (by rw [e])]
 have h : l.length = m.length := by simp [qeq] at h; omega
 refine LoopP.intro (α := Nat) (fun k => k <= l.length /\ l.take k = m.take k) (fun k => l.length - k) (fun k => [(0, .sl 0 none none), (1, .sl 1 none none), (5, .s (.i .i64 k))]) (fun k => [(0, some (.flat false 2 (edges l))), (1, some (.flat false 2 (edges m)))]) 2 0 ⟨by omega, by simp⟩ (by refine Weak.ba [(0, some _), (1, some _)]) ?_
 rintro k ⟨hk, ht⟩
 refine Pick.by (fun hc => ?_) (fun hc => ?_)
 ·have hlt : k < l.length := by simpa [qeq] using hc
  have hlm : k < m.length := by omega
  refine Idx.by k rfl (by rw [qeq]; exact hlt) ?_;refine Look.by _ (edges_get (qEq hlt)) ?_;refine Idx.by k rfl (by rw [qeq]; exact hlm) ?_;refine Look.by _ (edges_get (qEq hlm)) ?_;refine Seg.by (by kernel_rfl) ?_;refine Pick.by (fun hd => ?_) (fun hd => ?_)
  ·have hd : l[k] ≠ m[k] := by
    intro e;rw [e] at hd;simp at hd
   refine ⟨rfl, ?_⟩;show Sc.b false = Sc.b (decide (l = m))
   rw [decide_eq_false fun e => hd (by subst e; rfl)]
  ·have hd : l[k] = m[k] := by
    simp at hd;exact Prod.ext hd.1 hd.2
   refine Pick.n ?_;refine Next.by (k + 1) ⟨by omega, by rw [qTq hlt, qTq hlm, ht, hd]⟩ (by omega) (by refine Weak.ba [(0, some _), (1, some _)])
 ·have hge : l.length <= k := by simpa [qeq] using hc
  rw [List.take_of_length_le hge, List.take_of_length_le (by omega)] at ht;refine ⟨rfl, ?_⟩;show Sc.b true = Sc.b (decide (l = m))
  rw [decide_eq_true ht]
noncomputable def SameGC : Con := conP 2 (fun a : (Int × List Ed) × (Int × List Ed) => a.1.2.length <= 1000000) (fun a => [grV a.1.1 a.1.2, grV a.2.1 a.2.2]) (fun a => .one (.s (.b (decide (a.1 = a.2)))))
theorem SameGC_at {n n' : Int} {l m : List Ed} (h : l.length <= 1000000) : SameGC.F [grV n l, grV n' m] = some (.one (.s (.b (decide ((n, l) = (n', m))))), []) :=
 conP_at (a := ((n, l), (n', m))) (fun a b _ _ h => by
  obtain ⟨⟨n, l⟩, n', m⟩ := a;obtain ⟨⟨k, p⟩, k', q⟩ := b;simp at h;obtain ⟨h1, h2⟩ := h;obtain ⟨rfl, rfl⟩ := grV_inj h1;obtain ⟨rfl, rfl⟩ := grV_inj h2
  rfl) h
theorem SameG_ok : SoundC Tryz.prog T 15 SameGC := by
 refine sound_con (X := { Γ := [(39, SameEC)], T := T, nt := 17 }) cr_none hmix hT (sound_cons SameE_ok sound_nil) Tryz.func15 (by rfl) (by rfl) (by rfl) (by rfl) 4 ?_
 rintro ⟨⟨n, l⟩, n', m⟩ hl
 dsimp only at hl
 refine two_le ?_
 refine Pick.by (fun h => ?_) (fun h => ?_)
 ·have h : n = n' := by simpa using h
  refine Call.by _ _ (SameEC_at hl) ?_;refine ⟨rfl, ?_⟩;show Sc.b (decide (l = m)) = Sc.b (decide ((n, l) = (n', m)))
  congr 1
  simp [h]
 ·have h : ¬ n = n' := by simpa using h
  refine ⟨rfl, ?_⟩;show Sc.b false = Sc.b (decide ((n, l) = (n', m)))
  congr 1
  simp [h]
def nearX (v : Int) (x : Ed) : List Int := (if x.1 = v then [x.2] else []) ++ (if x.2 = v then [x.1] else [])
def nearL (E : List Ed) (v : Int) : List Int := E.flatMap (nearX v)
theorem mem_nearL {E : List Ed} {v w : Int} : w ∈ nearL E v ↔ adjE E v w := by
 unfold nearL nearX adjE
 rw [List.mem_flatMap]
 constructor
 ·rintro ⟨⟨a, b⟩, hx, h⟩;rw [List.mem_append] at h;dsimp only at h;rcases h with h | h
  ·split at h
   ·rename_i e; subst e; simp at h; subst h; exact .inl hx
   ·simp at h
  ·split at h
   ·rename_i e; subst e; simp at h; subst h; exact .inr hx
   ·simp at h
 ·rintro (h | h)
  ·exact ⟨_, h, by simp⟩
  ·exact ⟨_, h, by simp⟩
theorem nearL_length (E : List Ed) (v : Int) : (nearL E v).length <= 2 * E.length := by
 induction E with
 | nil => simp [nearL]
 | cons x E ih =>
  have : nearL (x :: E) v = nearX v x ++ nearL E v := by simp [nearL]
  rw [this, List.length_append, List.length_cons];have : (nearX v x).length <= 2 := by unfold nearX; split <;> split <;> simp
  omega
theorem nearL_snoc (E : List Ed) (x : Ed) (v : Int) : nearL (E ++ [x]) v = nearL E v ++ nearX v x := by simp [nearL]
def nearF (n : Int) (E : List Ed) (v : Int) : List Int := if RightP n E then sortI (nearL E v) else []
noncomputable def NearC : Con := conP 2 (fun _ : (Int × List Ed) × Int => True) (fun a => [grV a.1.1 a.1.2, .one (.s (.i .i64 a.2))]) (fun a => .one (.flat true 1 (ints (nearF a.1.1 a.1.2 a.2))))
theorem NearC_at (n : Int) (E : List Ed) (v : Int) : NearC.F [grV n E, .one (.s (.i .i64 v))] = some (.one (.flat true 1 (ints (nearF n E v))), []) :=
 conP_at (a := ((n, E), v)) (fun a b _ _ h => by
  obtain ⟨⟨n, E⟩, v⟩ := a;obtain ⟨⟨n', E'⟩, v'⟩ := b;simp at h;obtain ⟨h1, h2⟩ := h;obtain ⟨rfl, rfl⟩ := grV_inj h1;subst h2
  rfl) trivial
set_option maxHeartbeats 1000000 in
theorem Near3_ok : SoundC Tryz.prog T 32 NearC := by
 refine sound_con (X := { Γ := [(31, RightC), (64, SortedC)], T := T, nt := 55 }) cr_none hmix hT (sound_cons Right3_ok (sound_cons Sorted_ok sound_nil)) Tryz.func32 (by rfl) (by rfl) (by rfl) (by rfl) 3 ?_
 rintro ⟨⟨n, E⟩, v⟩ -
 dsimp only
 refine two_le ?_
 refine Call.by _ _ (RightC_at n E) ?_
 refine Pick.by (fun h1 => ?_) (fun h1 => ?_)
 ·have h1 : ¬ RightP n E := by have h1 : (!decide (RightP n E)) = true := h1; simpa using h1
  have hv : nearF n E v = [] := if_neg h1;rw [hv];exact ⟨rfl, rfl, rfl⟩
 have h1 : RightP n E := by have h1 : (!decide (RightP n E)) = false := h1; simpa using h1
 have hv : nearF n E v = sortI (nearL E v) := if_pos h1
 have hE4 : E.length <= 4000 := h1.2.2.1
 rw [hv]
 refine LoopP.intro (α := Nat) (fun k => k <= E.length) (fun k => E.length - k) (fun k => [(1, .s (.i .i64 v)), (2, .ptr 0 0), (5, .sl 2 none none), (6, .s (.i .i64 k))])
  (fun k => [(0, some (.blk [.s (.i .i64 n), .sl 1 none none])), (1, some (.flat false 2 (edges E))), (2, some (.flat true 1 (ints (nearL (E.take k) v))))]) 3 0 (by omega) (by refine Weak.ba (sg 0 [_,_,_])) ?_
 rintro k hk
 refine Pick.by (fun hc => ?_) (fun hc => ?_)
 ·have hlt : k < E.length := by simpa [qeq] using hc
  have hl := nearL_length (E.take k) v;rw [List.length_take] at hl;have hs : nearL (E.take (k + 1)) v = nearL (E.take k) v ++ nearX v E[k] := by rw [qTq hlt, nearL_snoc]
  refine Idx.by k rfl (by rw [qeq]; exact hlt) ?_;refine Look.by _ (edges_get (qEq hlt)) ?_;refine Pick.by (fun h2 => ?_) (fun h2 => ?_)
  ·have h2 : E[k].1 = v := by simpa using h2
   refine Idx.by k rfl (by rw [qeq]; exact hlt) ?_;refine Look.by _ (edges_get (qEq hlt)) ?_;refine Pick.T (by simp [cut, qiq]; omega) ?_;refine Idx.by k rfl (by rw [qeq]; exact hlt) ?_;refine Look.by _ (edges_get (qEq hlt)) ?_;refine Pick.by (fun h3 => ?_) (fun h3 => ?_)
   ·have h3 : E[k].2 = v := by simpa using h3
    refine Idx.by k rfl (by rw [qeq]; exact hlt) ?_;refine Look.by _ (edges_get (qEq hlt)) ?_;refine Pick.T (by simp [cut, qiq]; omega) ?_;refine Pick.n ?_;refine Next.by (k + 1) (by omega) (by omega) (by refine Weak.bw (sg 0 [_,_,_]) (by ((repeat' first|exact rfl|exact trivial|apply And.intro) <;> (repeat' first|exact rfl|exact trivial|apply And.intro)); all_goals ((rw [hs]; unfold nearX; rw [if_pos h2, if_pos h3, <- List.append_assoc, ints_snoc, ints_snoc]; rfl))))
   ·have h3 : ¬ E[k].2 = v := by simpa using h3
    refine Pick.n ?_;refine Next.by (k + 1) (by omega) (by omega) (by refine Weak.bw (sg 0 [_,_,_]) (by ((repeat' first|exact rfl|exact trivial|apply And.intro) <;> (repeat' first|exact rfl|exact trivial|apply And.intro)); all_goals ((rw [hs]; unfold nearX; rw [if_pos h2, if_neg h3, List.append_nil, ints_snoc]; rfl))))
  ·have h2 : ¬ E[k].1 = v := by simpa using h2
   refine Idx.by k rfl (by rw [qeq]; exact hlt) ?_;refine Look.by _ (edges_get (qEq hlt)) ?_;refine Pick.by (fun h3 => ?_) (fun h3 => ?_)
   ·have h3 : E[k].2 = v := by simpa using h3
    refine Idx.by k rfl (by rw [qeq]; exact hlt) ?_;refine Look.by _ (edges_get (qEq hlt)) ?_;refine Pick.T (by simp [cut, qiq]; omega) ?_;refine Pick.n ?_;refine Next.by (k + 1) (by omega) (by omega) (by refine Weak.bw (sg 0 [_,_,_]) (by ((repeat' first|exact rfl|exact trivial|apply And.intro) <;> (repeat' first|exact rfl|exact trivial|apply And.intro)); all_goals ((rw [hs]; unfold nearX; rw [if_neg h2, if_pos h3, List.nil_append, ints_snoc]; rfl))))
   ·have h3 : ¬ E[k].2 = v := by simpa using h3
    refine Pick.n ?_;refine Next.by (k + 1) (by omega) (by omega) (by refine Weak.bw (sg 0 [_,_,_]) (by ((repeat' first|exact rfl|exact trivial|apply And.intro) <;> (repeat' first|exact rfl|exact trivial|apply And.intro)); all_goals ((rw [hs]; unfold nearX; rw [if_neg h2, if_neg h3, List.append_nil, List.append_nil]))))
 ·have hge : E.length <= k := by simpa [qeq] using hc
  rw [List.take_of_length_le hge];have hl := nearL_length E v;refine Call.by _ _ (SortedC_at (show (nearL E v).length <= 1000000 by omega)) ?_;exact ⟨rfl, rfl, rfl⟩
def stepsE (E : List Ed) (p : List Int) : Prop := ∀ i, i + 1 < p.length -> adjE E (p.getD i 0) (p.getD (i + 1) 0)
def PathP (n : Int) (E : List Ed) (p : List Int) : Prop := RightP n E /\ p ≠ [] /\ (0 <= p.headD 0 /\ p.headD 0 < n) /\ p.Nodup /\ stepsE E p
noncomputable def pathB (n : Int) (E : List Ed) (p : List Int) : Bool := @decide (PathP n E p) (Classical.propDecidable _)
theorem pathB_iff {n : Int} {E : List Ed} {p : List Int} : pathB n E p = true ↔ PathP n E p := @decide_eq_true_iff _ (Classical.propDecidable _)
theorem pathB_no {n : Int} {E : List Ed} {p : List Int} (h : ¬ PathP n E p) : pathB n E p = false := by rw [Bool.eq_false_iff]; exact fun k => h (pathB_iff.1 k)
theorem adj_in {n : Int} {E : List Ed} (hR : RightP n E) {x y : Int} (h : adjE E x y) : (0 <= x /\ x < n) /\ 0 <= y /\ y < n := by
 rcases h with h | h <;> (have := hR.2.2.2.1 _ h; unfold okE at this; dsimp only at this; omega)
theorem getD_at {p : List Int} {i : Nat} (h : i < p.length) : p.getD i 0 = p[i] := by rw [qDq, qEq h]; rfl
theorem path_in {n : Int} {E : List Ed} {p : List Int} (h : PathP n E p) : ∀ x ∈ p, 0 <= x /\ x < n := fun x hx => by
 obtain ⟨i, hi, rfl⟩ := List.mem_iff_getElem.1 hx
 cases i with
 | zero => rw [show p[0] = p.headD 0 by cases p with | nil => simp at hi | cons a l => rfl]; exact h.2.2.1
 | succ i =>
  have := (adj_in h.1 (h.2.2.2.2 i hi)).2
  rwa [getD_at hi] at this
def innerL (p : List Int) : List Int := (p.drop 1).dropLast
theorem innerL_length (p : List Int) : (innerL p).length = p.length - 2 := by simp [innerL]; omega
theorem innerL_get {p : List Int} {i : Nat} (h : i < p.length - 2) : (innerL p)[i]'(by rw [innerL_length]; exact h) = p[i + 1]'(by omega) := by
 simp only [innerL, List.getElem_dropLast, List.getElem_drop]
 congr 1
 omega
theorem mem_inner {p : List Int} {v : Int} : v ∈ innerL p ↔ ∃ i, ∃ h : i + 2 < p.length, v = p[i + 1]'(by omega) := by
 rw [List.mem_iff_getElem]
 constructor
 ·rintro ⟨i, hi, rfl⟩;rw [innerL_length] at hi;exact ⟨i, by omega, innerL_get (by omega)⟩
 ·rintro ⟨i, hi, rfl⟩;exact ⟨i, by rw [innerL_length]; omega, innerL_get (by omega)⟩
def ApartP (L : List (List Int)) : Prop := ∀ r ∈ L, ∀ v ∈ innerL r, L.flatten.count v = 1
noncomputable def apartB (L : List (List Int)) : Bool := @decide (ApartP L) (Classical.propDecidable _)
theorem apartB_iff {L : List (List Int)} : apartB L = true ↔ ApartP L := @decide_eq_true_iff _ (Classical.propDecidable _)
theorem apartB_no {L : List (List Int)} (h : ¬ ApartP L) : apartB L = false := by rw [Bool.eq_false_iff]; exact fun k => h (apartB_iff.1 k)
def prsT (k : Int) : List (Int × Int) := if k = 1 then [(0, 1), (0, 2), (0, 3), (1, 2), (1, 3), (2, 3)] else if k = 2 then [(0, 1), (0, 1), (0, 1)] else []
def shapeP (k : Int) (T : List Int) (L : List (List Int)) : Prop := (k = 1 /\ T.length = 4 /\ L.length = 6) \/ (k = 2 /\ T.length = 2 /\ L.length = 3)
instance (k : Int) (T : List Int) (L : List (List Int)) : Decidable (shapeP k T L) := by unfold shapeP; exact inferInstance
def fitP (n : Int) (E : List Ed) (k : Int) (T : List Int) (i : Nat) (p : List Int) : Prop :=
 PathP n E p /\ p.headD 0 = T.getD ((prsT k).getD i (0, 0)).1.toNat 0 /\ p.getLastD 0 = T.getD ((prsT k).getD i (0, 0)).2.toNat 0 /\ k + 1 <= p.length
def SubP (n : Int) (E : List Ed) (k : Int) (T : List Int) (L : List (List Int)) : Prop := shapeP k T L /\ (∀ i p, L[i]? = some p -> fitP n E k T i p) /\ ApartP L
noncomputable def subB (n : Int) (E : List Ed) (k : Int) (T : List Int) (L : List (List Int)) : Bool := @decide (SubP n E k T L) (Classical.propDecidable _)
theorem subB_iff {n : Int} {E : List Ed} {k : Int} {T : List Int} {L : List (List Int)} : subB n E k T L = true ↔ SubP n E k T L := @decide_eq_true_iff _ (Classical.propDecidable _)
theorem subB_no {n : Int} {E : List Ed} {k : Int} {T : List Int} {L : List (List Int)} (h : ¬ SubP n E k T L) : subB n E k T L = false := by rw [Bool.eq_false_iff]; exact fun k => h (subB_iff.1 k)
def sbV (o : Bool) (k : Int) (T : List Int) (L : List (List Int)) : V := .agg [.s (.i .i64 k), .flat o 1 (ints T), .nest o 1 (rowsI L)]
theorem sbV_inj {o : Bool} {k k' : Int} {T T' : List Int} {L L' : List (List Int)} (h : sbV o k T L = sbV o k' T' L') : k = k' /\ T = T' /\ L = L' := by
 simp only [sbV, V.agg.injEq, List.cons.injEq, C.nest.injEq, C.flat.injEq, C.s.injEq, Sc.i.injEq, true_and, and_true] at h
 exact ⟨h.1, ints_inj h.2.1, rowsI_inj h.2.2⟩
theorem sub_tops {n : Int} {E : List Ed} {k : Int} {T : List Int} {L : List (List Int)} (h : SubP n E k T L) : T.Nodup := by
 obtain ⟨hs, hf, _⟩ := h
 have key : ∀ i (p : List Int), L[i]? = some p -> p.headD 0 ≠ p.getLastD 0 := fun i p hp e => by
  obtain ⟨hP, _, _, hl⟩ := hf i p hp;have h2 : 2 <= p.length := by rcases hs with hs | hs <;> omega
  match p, h2, hP.2.2.2.1, e with
  | a :: b :: r, _, hnd, e =>
   have hm : a ∈ b :: r := by
    have e : a = (b :: r).getLastD 0 := by simpa [List.getLastD_cons] using e
    rw [e, List.getLastD_eq_getLast?, List.getLast?_eq_some_getLast (by simp)];exact List.getLast_mem _
   exact (List.nodup_cons.1 hnd).1 hm
 have hk : ∀ i, i < L.length -> T.getD ((prsT k).getD i (0, 0)).1.toNat 0 ≠ T.getD ((prsT k).getD i (0, 0)).2.toNat 0 := fun i hi e => by
  obtain ⟨_, h1, h2, _⟩ := hf i _ (qEq hi);exact key i _ (qEq hi) (by rw [h1, h2, e])
 rcases hs with ⟨rfl, hT, hL⟩ | ⟨rfl, hT, hL⟩
 ·match T, hT with
  | [a, b, c, d], _ =>
   have h0 := hk 0 (by omega);have h1 := hk 1 (by omega);have h2 := hk 2 (by omega);have h3 := hk 3 (by omega);have h4 := hk 4 (by omega);have h5 := hk 5 (by omega);simp [prsT] at h0 h1 h2 h3 h4 h5;simp; exact ⟨⟨h0, h1, h2⟩, ⟨h3, h4⟩, h5⟩
 ·match T, hT with
  | [a, b], _ =>
   have h0 := hk 0 (by omega);simp [prsT] at h0;simp; exact h0
def segsR (p : List Int) : List Ed := (List.range (p.length - 1)).map fun i => edN (p.getD i 0, p.getD (i + 1) 0)
def segs (L : List (List Int)) : List Ed := L.flatMap segsR
def insAll (l : List Ed) : List Ed := l.foldr insE []
theorem mem_insAll {l : List Ed} {x : Ed} : x ∈ insAll l ↔ x ∈ l := by
 induction l with
 | nil => simp [insAll]
 | cons p l ih => simp only [insAll, List.foldr_cons] at ih ⊢; rw [mem_insE, ih, List.mem_cons]
theorem insAll_sorted (l : List Ed) : (insAll l).Pairwise ltE := by
 induction l with
 | nil => simp [insAll]
 | cons p l ih => simp only [insAll, List.foldr_cons] at ih ⊢; exact insE_sorted ih
theorem insAll_of {l M : List Ed} (hs : M.Pairwise ltE) (hm : ∀ x, x ∈ M ↔ x ∈ l) : M = insAll l :=
 sortedE_eq hs (insAll_sorted l) fun x => by rw [hm, mem_insAll]
end Go.Sh
namespace Go.Proofs
open Go.RowKit Go.Sh
attribute [local go_sem] Oper.semAt_some
def Tryz.prsR (k : Int) : Option (Nat × Flat) := if k = 1 \/ k = 2 then some (2, edges (prsT k)) else none
theorem Tryz.edges_ev (l : List Ed) : ∀ (i : Nat) (row : Row), (edges l)[i]? = some row -> row.length = 2 := fun i row h => by
 simp only [edges, List.getElem?_map, Option.map_eq_some_iff] at h
 obtain ⟨x, _, rfl⟩ := h
 rfl
theorem Tryz.al_size (W : World) (o : Obj) : (W.alloc o).heap.size = W.heap.size + 1 := by show (W.heap.push o).size = _; simp
theorem Tryz.rows_at {w' : World} {own : Nat -> Option Key} {key : Key} {b : Nat} {arr : Array Value} {T : TypeId} {E : List Ed} (hh : w'.heap[b]? = some (.cells arr T (0, 0))) (ho : own b = some key) (hs : arr.size = E.length * 2) (hl : E.length <= 1000)
  (hc : ∀ (k : Nat) (x : Ed), E[k]? = some x -> arr[k * 2]? = some (.int .i64 x.1) /\ arr[k * 2 + 1]? = some (.int .i64 x.2)) : FlatOk w' own (some key) (some ⟨b, 0, none⟩) E.length 2 (edges E) := by
 refine ⟨by rw [qeq]; exact Nat.le_refl _, by omega, Tryz.edges_ev E, fun r row q x hr hq => ?_, fun _ => .inr ⟨b, 0, arr, T, rfl, ho, hh, by omega, by omega⟩⟩
 simp only [edges, List.getElem?_map, Option.map_eq_some_iff] at hr
 obtain ⟨x0, hx0, rfl⟩ := hr
 have hql : q < 2 := (List.getElem?_eq_some_iff.1 hq).1
 refine ⟨_, rfl, ho, ?_⟩
 obtain ⟨c1, c2⟩ := hc r x0 hx0
 rw [Addr.add_plain]
 simp only [World.cell?, hh, Nat.zero_add]
 match q, hql, hq with
 | 0, _, hq => simp at hq; subst hq; rw [Nat.add_zero]; exact c1
 | 1, _, hq => simp at hq; subst hq; exact c2
set_option maxRecDepth 100000 in
set_option maxHeartbeats 4000000 in
theorem Tryz.pairs_run (k : Int) (w : World) : Calls Tryz.prog 53 #[.int .i64 k] w fun e w' => ∃ u, e = .returned u /\ Frm (fun _ => False) w w' /\ newOut w w' u (Tryz.prsR k) := by
 have hfr : ∀ o1 o2 : Obj, Frm (fun _ => False) w ((w.alloc o1).alloc o2) := fun o1 o2 => by
  refine ⟨rfl, .rfl, rfl, by rw [Tryz.al_size, Tryz.al_size]; omega, fun b hb _ => ?_⟩;rw [heap_alloc_lt _ _ (by rw [Tryz.al_size]; omega), heap_alloc_lt _ _ hb]
 have hat0 : ∀ o1 o2 : Obj, ((w.alloc o1).alloc o2).heap[w.heap.size]? = some o1 := fun o1 o2 => by
  rw [heap_alloc_lt _ _ (by rw [Tryz.al_size]; omega), heap_alloc_at]
 have hat1 : ∀ o1 o2 : Obj, ((w.alloc o1).alloc o2).heap[w.heap.size + 1]? = some o2 := fun o1 o2 => by
  have := heap_alloc_at (w.alloc o1) o2
  rwa [Tryz.al_size] at this
 have hsz : ∀ o1 o2 : Obj, ((w.alloc o1).alloc o2).heap.size = w.heap.size + 2 := fun o1 o2 => by rw [Tryz.al_size, Tryz.al_size]
 by_cases h1 : k = 1
 ·subst h1
  go_enter Tryz.func53, Tryz.ntmps53
  go_wp2
  go_ret
  refine ⟨_, rfl, hfr _ _, some ⟨w.heap.size, 0, none⟩, 6, rfl, fun key => ?_⟩;exact Tryz.rows_at (E := prsT 1) (hat0 _ _) (by rw [if_pos ⟨Nat.le_refl _, by rw [hsz]; omega⟩]) rfl (by decide) (fun k x hx => by
   have hk : k < 6 := (List.getElem?_eq_some_iff.1 hx).1
   match k, hk, hx with
   | 0, _, hx => cases hx; exact ⟨rfl, rfl⟩
   | 1, _, hx => cases hx; exact ⟨rfl, rfl⟩
   | 2, _, hx => cases hx; exact ⟨rfl, rfl⟩
   | 3, _, hx => cases hx; exact ⟨rfl, rfl⟩
   | 4, _, hx => cases hx; exact ⟨rfl, rfl⟩
   | 5, _, hx => cases hx; exact ⟨rfl, rfl⟩)
 ·by_cases h2 : k = 2
  ·subst h2
   go_enter Tryz.func53, Tryz.ntmps53
   go_wp2
   go_ret
   refine ⟨_, rfl, hfr _ _, some ⟨w.heap.size + 1, 0, none⟩, 3, rfl, fun key => ?_⟩;exact Tryz.rows_at (E := prsT 2) (hat1 _ _) (by rw [if_pos ⟨by omega, by rw [hsz]; omega⟩]) rfl (by decide) (fun k x hx => by
    have hk : k < 3 := (List.getElem?_eq_some_iff.1 hx).1
    match k, hk, hx with
    | 0, _, hx => cases hx; exact ⟨rfl, rfl⟩
    | 1, _, hx => cases hx; exact ⟨rfl, rfl⟩
    | 2, _, hx => cases hx; exact ⟨rfl, rfl⟩)
  ·have hr : Tryz.prsR k = none := if_neg (by omega);rw [hr]
   go_enter Tryz.func53, Tryz.ntmps53
   go_wp2
   go_ret
   exact ⟨_, rfl, hfr _ _, rfl⟩
theorem Tryz.pairs_call : NewCall Tryz.prog 53 (fun x => match x with | .i .i64 k => some (Tryz.prsR k) | _ => none) := by
 refine ⟨⟨_, Tryz.func53, by decide, by simp [Tryz.f53]⟩, fun x r hx w => ?_⟩
 cases x with
 | i kd k =>
  cases kd <;> simp at hx
  subst hx;exact Tryz.pairs_run k w
 | b v => simp at hx
end Go.Proofs
namespace Go.Proofs
open Go.RowKit Go.Shelf
attribute [local go_sem] Oper.semAt_some
def Tryz.upto {α : Type} (f : Nat -> α) (k : Nat) : List α := (List.range k).map f
theorem Tryz.upto_succ {α : Type} (f : Nat -> α) (k : Nat) : Tryz.upto f (k + 1) = Tryz.upto f k ++ [f k] := by simp [Tryz.upto, List.range_succ]
theorem Tryz.upto_length {α : Type} (f : Nat -> α) (k : Nat) : (Tryz.upto f k).length = k := by simp [Tryz.upto]
theorem Tryz.upto_all (zs : List Int) : Tryz.upto (fun j => zs[j]?.getD 0) zs.length = zs := by
 apply List.ext_getElem
 ·simp [Tryz.upto]
 ·intro i h1 h2;simp [Tryz.upto, h2]
theorem Tryz.upto_take (zs : List Int) {k : Nat} (hk : k <= zs.length) : Tryz.upto (fun j => zs[j]?.getD 0) k = zs.take k := by
 apply List.ext_getElem
 ·simp [Tryz.upto, hk]
 ·intro i h1 h2;have : i < zs.length := by simp [Tryz.upto] at h1; omega
  simp [Tryz.upto, this]
set_option maxRecDepth 100000 in
set_option maxHeartbeats 2000000 in
theorem Tryz.values1_in (F : Fence) (n : Nat) (h7 : F.fn 132) (hro : F.round = none) (hn : 1 <= n) (l Bs n₀ len cap : Nat) (a : Addr) (zs : List Int) (hreach : len * 8 <= 140737488351232) (hb : a.block < n₀) (J Jx : List Int -> World -> Prop)
  (hY : ∀ pre x W, J pre W -> pre.length < len -> YieldAt F (n - 1) Tryz.prog l #[.int .i64 x] W fun e W' =>
   (e = .returned (.bool true) /\ J (pre ++ [x]) W' /\ Below n₀ W W') \/ (e = .returned (.bool false) /\ Jx (pre ++ [x]) W'))
  (W : World) (hBs : W.cell? ⟨Bs, 0, none⟩ = some (.slice (some a) len cap)) (hc : ∀ j, j < len -> W.cell? (a.add j) = some (.int .i64 (zs[j]?.getD 0))) (h0 : J [] W) :
  CallsIn F n Tryz.prog 132 #[.func (.yield l) #[] #[], .pointer (some ⟨Bs, 0, none⟩)] W fun e W' => (∃ v, e = .returned v) /\
   ((∃ ys, ys = Tryz.upto (fun j => zs[j]?.getD 0) len /\ J ys W') \/ (∃ pre, (∃ k, k <= len /\ pre = Tryz.upto (fun j => zs[j]?.getD 0) k) /\ Jx pre W')) := by
 refine callsIn_of_wp Tryz.func132 rfl h7 ?_ hro
 simp only [Tryz.ntmps132, List.size_toArray, List.length_cons, List.length_nil, Nat.reduceAdd, Nat.reduceSub, Array.replicate_succ, Array.replicate_zero, List.push_toArray, List.append_toArray, List.nil_append, List.cons_append]
 gi_wp2
 gi_loopw [7] (fun i wr => ∃ k : Nat, k <= len /\ i = .int .i64 k /\ J (Tryz.upto (fun j => zs[j]?.getD 0) k) wr /\ Below n₀ W wr)
  (fun i _ => len - (intOf i).toNat)
 case atStart => exact ⟨0, Nat.zero_le _, rfl, h0, Below.refl _ _⟩
 case round =>
  obtain ⟨k, hk, rfl, hJs, hnx⟩ := hrel;have hcx : k < len -> wr.cell? (a.add k) = some (.int .i64 (zs[k]?.getD 0)) := fun h => (hnx.cell (p := a.add k) (by unfold Addr.add; split <;> exact hb)).trans (hc k h)
  by_cases hlt : k < len
  ·obtain ⟨fn, tmps, assign, body, hy, hR⟩ := hY _ (zs[k]?.getD 0) wr hJs (by rw [Tryz.upto_length]; exact hlt);have hcx' := hcx hlt
   gi_wp2
   refine hR.mono ?_;rintro e W3 (⟨rfl, hJ3, hk3⟩ | ⟨rfl, hJx3⟩)
   ·gi_wp2
    go_roundw
    case rel => exact ⟨k + 1, by omega, by simp, by rw [Tryz.upto_succ]; exact hJ3, hnx.trans hk3⟩
    case measure => simp [intOf]; omega
   ·gi_wp2
    refine bodyPost_ret (results_none rfl _ _ _) rfl ?_;exact ⟨⟨_, rfl⟩, .inr ⟨_, ⟨k + 1, by omega, (Tryz.upto_succ _ _).symm⟩, hJx3⟩⟩
  ·obtain rfl : k = len := by omega
   gi_wp2
   go_end0
   exact ⟨⟨_, rfl⟩, .inl ⟨_, rfl, hJs⟩⟩
set_option maxRecDepth 100000 in
set_option maxHeartbeats 1000000 in
theorem Tryz.values1_nil_in (F : Fence) (n : Nat) (h7 : F.fn 132) (hro : F.round = none) (l Bs : Nat) (a : Option Addr) (cap : Nat) (J : List Int -> World -> Prop) (W : World) (hBs : W.cell? ⟨Bs, 0, none⟩ = some (.slice a 0 cap)) (h0 : J [] W) :
  CallsIn F n Tryz.prog 132 #[.func (.yield l) #[] #[], .pointer (some ⟨Bs, 0, none⟩)] W fun e W' => (∃ v, e = .returned v) /\ J [] W' := by
 refine callsIn_of_wp Tryz.func132 rfl h7 ?_ hro
 simp only [Tryz.ntmps132, List.size_toArray, List.length_cons, List.length_nil, Nat.reduceAdd, Nat.reduceSub, Array.replicate_succ, Array.replicate_zero, List.push_toArray, List.append_toArray, List.nil_append, List.cons_append]
 gi_wp2
 gi_loopw [7] (fun i wr => i = .int .i64 0 /\ J [] wr) (fun _ _ => 0)
 case atStart => exact ⟨rfl, h0⟩
 case round =>
  obtain ⟨rfl, hJs⟩ := hrel
  gi_wp2
  go_end0
  exact ⟨⟨_, rfl⟩, hJs⟩
set_option maxHeartbeats 1000000 in
theorem Tryz.values_in (F : Fence) (n : Nat) (h5 : F.fn 115) (hro : F.round = none) (a : Option Addr) (len cap : Nat) (w : World) :
  CallsIn F n Tryz.prog 115 #[.slice a len cap] w fun e w' => e = .returned (.func (.func 132) #[] #[.pointer (some ⟨w.heap.size, 0, none⟩)]) /\ w' = w.alloc (.cells #[.slice a len cap] 28) := by
 refine callsIn_of_wp Tryz.func115 rfl h5 ?_ hro
 simp only [Tryz.ntmps115, List.size_toArray, List.length_cons, List.length_nil, Nat.reduceAdd, Nat.reduceSub, Array.replicate_succ, Array.replicate_zero, List.push_toArray, List.append_toArray, List.nil_append, List.cons_append]
 gi_wp2
 go_ret
 exact ⟨rfl, rfl⟩
def Tryz.Ints (n₀ : Nat) (W : World) (sv : Value) (zs : List Int) : Prop :=
 (zs = [] /\ ∃ a cap, sv = .slice a 0 cap) \/ ∃ a cap, sv = .slice (some a) zs.length cap /\ a.block < n₀ /\ ∀ j, j < zs.length -> W.cell? (a.add j) = some (.int .i64 (zs[j]?.getD 0))
theorem Tryz.add_block (a : Addr) (j : Nat) : (a.add j).block = a.block := by unfold Addr.add; split <;> rfl
theorem Tryz.Ints.below {n₀ : Nat} {A B : World} (h : Below n₀ A B) {sv : Value} {zs : List Int} : Tryz.Ints n₀ A sv zs -> Tryz.Ints n₀ B sv zs
 | .inl e => .inl e
 | .inr ⟨a, cap, e, hb, hc⟩ => .inr ⟨a, cap, e, hb, fun j hj => (h.cell (p := a.add j) (by rw [Tryz.add_block]; exact hb)).trans (hc j hj)⟩
theorem Tryz.values_stops (F : Fence) (n : Nat) (h7 : F.fn 132) (hro : F.round = none) (hn : 1 <= n) (Bs n₀ : Nat) (sv : Value) (zs : List Int) (hreach : zs.length * 8 <= 140737488351232) (w : World) (hBs : Bs < w.heap.size) (hn₀ : n₀ <= w.heap.size)
  (hc : w.cell? ⟨Bs, 0, none⟩ = some sv) (hI : Tryz.Ints n₀ w sv zs) :
  SeqStopsK F n Tryz.prog 132 #[.pointer (some ⟨Bs, 0, none⟩)] (fun x : Int => #[Value.int .i64 x]) (Below n₀) (fun ys => ys = zs) (fun pre => pre <+: zs) zs.length w := fun l J Jx W hW _ _ hY h0 => by
 have hc' := (hW.cell (p := ⟨Bs, 0, none⟩) hBs).trans hc
 rcases hI.below (hW.mono hn₀) with ⟨rfl, a, cap, rfl⟩ | ⟨a, cap, rfl, hb, hcs⟩
 ·exact (Tryz.values1_nil_in F n h7 hro l Bs a cap J W hc' h0).mono fun e W' ⟨he, hj⟩ => ⟨he, .inl ⟨_, rfl, hj⟩⟩
 ·refine (Tryz.values1_in F n h7 hro hn l Bs n₀ zs.length cap a zs hreach hb J Jx hY W hc' hcs h0).mono ?_;rintro e W' ⟨he, ⟨ys, rfl, hj⟩ | ⟨pre, ⟨k, hk, rfl⟩, hj⟩⟩
  ·exact ⟨he, .inl ⟨_, Tryz.upto_all zs, hj⟩⟩
  ·exact ⟨he, .inr ⟨_, by rw [Tryz.upto_take zs hk]; exact List.take_prefix _ _, hj⟩⟩
end Go.Proofs
namespace Go.Proofs
open Go.RowKit Go.Shelf
attribute [local go_sem] Oper.semAt_some
def Tryz.Eds (S : Nat -> Prop) (W : World) (sv : Value) (E : List (Int × Int)) : Prop :=
 (E = [] /\ ∃ a cap, sv = .slice a 0 cap) \/ ∃ ab ao cap, sv = .slice (some ⟨ab, ao, none⟩) E.length cap /\ S ab /\ ∀ j x, E[j]? = some x -> W.cell? ⟨ab, ao + j * 2, none⟩ = some (.int .i64 x.1) /\ W.cell? ⟨ab, ao + j * 2 + 1, none⟩ = some (.int .i64 x.2)
structure Tryz.Kept (S : Nat -> Prop) (W W' : World) : Prop where
 size : W.heap.size <= W'.heap.size
 block : ∀ k, S k -> W'.heap[k]? = W.heap[k]?
theorem Tryz.Kept.refl (S : Nat -> Prop) (W : World) : Tryz.Kept S W W := ⟨Nat.le_refl _, fun _ _ => rfl⟩
theorem Tryz.Kept.trans {S : Nat -> Prop} {A B C : World} (h : Tryz.Kept S A B) (k : Tryz.Kept S B C) : Tryz.Kept S A C := ⟨Nat.le_trans h.size k.size, fun b hb => (k.block b hb).trans (h.block b hb)⟩
theorem Tryz.Kept.cell {S : Nat -> Prop} {W W' : World} (h : Tryz.Kept S W W') {p : Addr} (hp : S p.block) : W'.cell? p = W.cell? p := World.cell?_of_block (w := W) (h.block p.block hp)
theorem Tryz.Kept.alloc {S : Nat -> Prop} {A W : World} (h : Tryz.Kept S A W) (hS : ∀ k, S k -> k < A.heap.size) (o : Obj) : Tryz.Kept S A (W.alloc o) := ⟨Nat.le_trans h.size (by simp), fun k hk => (Below.heap_alloc W o k (Nat.lt_of_lt_of_le (hS k hk) h.size)).trans (h.block k hk)⟩
theorem Tryz.Kept.of {n : Nat} {S : Nat -> Prop} {W W' : World} (h : Below n W W') (hS : ∀ k, S k -> k < n) : Tryz.Kept S W W' := ⟨h.size, fun k hk => h.block k (hS k hk)⟩
def Tryz.Kp (S : Nat -> Prop) (t : Nat) (W W' : World) : Prop := Tryz.Kept S W W' /\ ∀ (k : Nat) (c : Array Value) (fr : Nat × Nat), W.heap[k]? = some (Obj.cells c t fr) -> W'.heap[k]? = some (Obj.cells c t fr)
theorem Tryz.kp_t {S : Nat -> Prop} {t : Nat} {A B C : World} (h : Tryz.Kp S t A B) (k : Tryz.Kp S t B C) : Tryz.Kp S t A C := ⟨h.1.trans k.1, fun b c fr hb => k.2 b c fr (h.2 b c fr hb)⟩
theorem Tryz.kp_b {S : Nat -> Prop} {t : Nat} {w : World} (hS : ∀ k, S k -> k < w.heap.size) (W : World) (l : Nat) (o o' : Obj) (hl : w.heap.size <= l) (h : W.heap[l]? = some o) (hc : o.isCells = false) (hw : o.isWalk = false) : Tryz.Kp S t W (W.putObj l o') :=
 ⟨⟨(grownBy_putObj' W l o').size, fun k hk => by
  by_cases hlt : k < W.heap.size
  ·exact (grownBy_putObj' W l o').block k hlt (fun e2 => by injection e2 with e2; have := hS k hk; omega)
  ·have h1 := hS k hk;have h2 := (Array.getElem?_eq_some_iff.1 h).1;omega⟩, fun k c fr hk => by
  by_cases e : k = l
  ·subst e; rw [h] at hk; injection hk with hk; subst hk; cases hc
  ·exact ((grownBy_putObj' W l o').block k (Array.getElem?_eq_some_iff.1 hk).1 (fun e2 => e (by cases e2; rfl))).trans hk⟩
open Go.Sh in
theorem Tryz.nearL_one {n v xa xb : Int} (h : okE n (xa, xb)) (l : List Ed) : Go.Sh.nearL (l ++ [(xa, xb)]) v = Go.Sh.nearL l v ++ (if xb = v then [xa] else if xa = v then [xb] else []) := by
 unfold Go.Sh.okE at h
 rw [Go.Sh.nearL_snoc]
 unfold Go.Sh.nearX
 dsimp only at h ⊢
 by_cases h2 : xb = v
 ·rw [if_pos h2, if_neg (by omega), if_pos h2]; rfl
 ·rw [if_neg h2, if_neg h2];by_cases h3 : xa = v
  ·rw [if_pos h3]; rfl
  ·rw [if_neg h3]; rfl
set_option maxRecDepth 100000 in
set_option maxHeartbeats 2000000 in
theorem Tryz.near1_in (F : Fence) (n : Nat) (h7 : F.fn 84) (hro : F.round = none) (hn : 1 <= n) (l Bg Bv cap : Nat) (S : Nat -> Prop) (ab ao : Nat) (v m : Int) (E : List (Int × Int)) (hE : ∀ p ∈ E, Go.Sh.okE m p) (hEl : E.length <= 4000) (hb : S ab) (hBg0 : S Bg) (hBv0 : S Bv) (J Jx : List Int -> World -> Prop)
  (hY : ∀ pre x W, J pre W -> pre.length < E.length -> YieldAt F (n - 1) Tryz.prog l #[.int .i64 x] W fun e W' =>
   (e = .returned (.bool true) /\ J (pre ++ [x]) W' /\ Tryz.Kp S 43 W W') \/ (e = .returned (.bool false) /\ Jx (pre ++ [x]) W'))
  (W : World) (hJ : AbidesFrom W.heap.size J) (hS : ∀ k, S k -> k < W.heap.size) (hBg : W.cell? ⟨Bg, 1, none⟩ = some (.slice (some ⟨ab, ao, none⟩) E.length cap)) (hBv : W.cell? ⟨Bv, 0, none⟩ = some (.int .i64 v)) (hc : ∀ j x, E[j]? = some x -> W.cell? ⟨ab, ao + j * 2, none⟩ = some (.int .i64 x.1) /\ W.cell? ⟨ab, ao + j * 2 + 1, none⟩ = some (.int .i64 x.2)) (h0 : J [] W) :
  CallsIn F n Tryz.prog 84 #[.func (.yield l) #[] #[], .pointer (some ⟨Bg, 0, none⟩), .pointer (some ⟨Bv, 0, none⟩)] W fun e W' => (∃ v, e = .returned v) /\
   ((∃ k, k <= E.length /\ (k = E.length \/ ∃ x, E[k]? = some x /\ x.1 > v) /\ J (Go.Sh.nearL (E.take k) v) W') \/ (∃ pre, (∃ k, k <= E.length /\ pre = Go.Sh.nearL (E.take k) v) /\ Jx pre W')) := by
 refine callsIn_of_wp Tryz.func84 rfl h7 ?_ hro
 simp only [Tryz.ntmps84, List.size_toArray, List.length_cons, List.length_nil, Nat.reduceAdd, Nat.reduceSub, Array.replicate_succ, Array.replicate_zero, List.push_toArray, List.append_toArray, List.nil_append, List.cons_append]
 gi_wp2
 gi_loopw [9] (fun i wr => ∃ k : Nat, k <= E.length /\ i = .int .i64 k /\ J (Go.Sh.nearL (E.take k) v) wr /\ (Go.Sh.nearL (E.take k) v).length <= k /\ Tryz.Kept S W wr)
  (fun i _ => E.length - (intOf i).toNat)
 case atStart => exact ⟨0, Nat.zero_le _, rfl, h0, by simp [Go.Sh.nearL], Tryz.Kept.refl _ _⟩
 case round =>
  obtain ⟨k, hk, rfl, hJs, hnl, hnx⟩ := hrel;by_cases hlt : k < E.length
  ·obtain ⟨x, hx⟩ : ∃ x, E[k]? = some x := ⟨_, List.getElem?_eq_getElem hlt⟩;have hxm : x ∈ E := List.mem_of_getElem? hx;have hok := hE x hxm;have hcx1 : wr.cell? ⟨ab, ao + k * 2, none⟩ = some (.int .i64 x.1) := (hnx.cell (p := ⟨ab, ao + k * 2, none⟩) hb).trans (hc k x hx).1;have hcx2 : wr.cell? ⟨ab, ao + k * 2 + 1, none⟩ = some (.int .i64 x.2) := (hnx.cell (p := ⟨ab, ao + k * 2 + 1, none⟩) hb).trans (hc k x hx).2;have hv2 : wr.cell? ⟨Bv, 0, none⟩ = some (.int .i64 v) := (hnx.cell (p := ⟨Bv, 0, none⟩) hBv0).trans hBv;obtain ⟨xa, xb⟩ := x;have hab : xa < xb := hok.2.1;have htk : E.take (k + 1) = E.take k ++ [(xa, xb)] := by
    rw [List.take_succ_eq_append_getElem hlt];rw [List.getElem?_eq_getElem hlt] at hx;injection hx with hx
    rw [hx]
   have hst := Tryz.nearL_one (v := v) hok (E.take k);rw [<- htk] at hst;dsimp only at hcx1 hcx2;have hv3 : (wr.alloc (.cells #[.int .i64 xa, .int .i64 xb] 43)).cell? ⟨Bv, 0, none⟩ = some (.int .i64 v) := ((hnx.alloc hS _).cell (p := ⟨Bv, 0, none⟩) hBv0).trans hBv;have hJ3 : J (Go.Sh.nearL (E.take k) v) (wr.alloc (.cells #[.int .i64 xa, .int .i64 xb] 43)) := hJ _ _ _ none hJs (World.grownBy_alloc _ _ _) (fun r e => by cases e);have hnx3 : Tryz.Kept S W (wr.alloc (.cells #[.int .i64 xa, .int .i64 xb] 43)) := hnx.alloc hS _;by_cases h1 : v < xa
   ·gi_wp2
    refine bodyPost_ret (results_none rfl _ _ _) rfl ?_;exact ⟨⟨_, rfl⟩, .inl ⟨k, by omega, .inr ⟨_, hx, h1⟩, hJ3⟩⟩
   ·by_cases h2 : xb = v
    ·rw [if_pos h2] at hst;have h3 : ¬ xa = v := by omega
     obtain ⟨fn, tmps, assign, body, hy, hR⟩ := hY _ xa _ hJ3 (by omega);rw [<- hst] at hR;subst h2
     gi_wp2
     refine hR.mono ?_;rintro e W3 (⟨rfl, hJ4, hk4⟩ | ⟨rfl, hJx4⟩)
     ·have hbx : W3.heap[wr.heap.size]? = some (.cells #[.int .i64 xa, .int .i64 xb] 43) := hk4.2 _ _ _ (World.alloc_heap_new wr _);have hb0 : W3.cell? ⟨wr.heap.size, 0, none⟩ = some (.int .i64 xa) := by simp [World.cell?, hbx]
      have hv4 : W3.cell? ⟨Bv, 0, none⟩ = some (.int .i64 xb) := (hk4.1.cell (p := ⟨Bv, 0, none⟩) hBv0).trans hv3
      gi_wp2
      refine ⟨fun _ h => (by cases h), ?_⟩
      gi_wp2
      go_roundw
      case rel => exact ⟨k + 1, by omega, by simp, hJ4, by rw [hst, List.length_append]; simp; omega, hnx3.trans hk4.1⟩
      case measure => simp [intOf]; omega
     ·gi_wp2
      refine bodyPost_ret (results_none rfl _ _ _) rfl ?_;exact ⟨⟨_, rfl⟩, .inr ⟨_, ⟨k + 1, by omega, rfl⟩, hJx4⟩⟩
    ·rw [if_neg h2] at hst;by_cases h3 : xa = v
     ·rw [if_pos h3] at hst;obtain ⟨fn, tmps, assign, body, hy, hR⟩ := hY _ xb _ hJ3 (by omega);rw [<- hst] at hR;subst h3;have hbf : (xb == xa) = false := beq_eq_false_iff_ne.2 h2
      gi_wp2
      refine ⟨fun _ h => (by cases h), ?_⟩
      gi_wp2
      refine hR.mono ?_;rintro e W3 (⟨rfl, hJ4, hk4⟩ | ⟨rfl, hJx4⟩)
      ·gi_wp2
       go_roundw
       case rel => exact ⟨k + 1, by omega, by simp, hJ4, by rw [hst, List.length_append]; simp; omega, hnx3.trans hk4.1⟩
       case measure => simp [intOf]; omega
      ·gi_wp2
       refine bodyPost_ret (results_none rfl _ _ _) rfl ?_;exact ⟨⟨_, rfl⟩, .inr ⟨_, ⟨k + 1, by omega, rfl⟩, hJx4⟩⟩
     ·rw [if_neg h3, List.append_nil] at hst;have hbf : (xb == v) = false := beq_eq_false_iff_ne.2 h2;have hbg : (xa == v) = false := beq_eq_false_iff_ne.2 h3
      gi_wp2
      refine ⟨fun _ h => (by cases h), ?_⟩
      gi_wp2
      go_roundw
      case rel => exact ⟨k + 1, by omega, by simp, by rw [hst]; exact hJ3, by rw [hst]; omega, hnx3⟩
      case measure => simp [intOf]; omega
  ·obtain rfl : k = E.length := by omega
   gi_wp2
   go_end0
   exact ⟨⟨_, rfl⟩, .inl ⟨_, Nat.le_refl _, .inl rfl, hJs⟩⟩
open Go.Sh in
theorem Tryz.near_rest {n v : Int} {E : List Ed} (hE : ∀ p ∈ E, okE n p) (hs : E.Pairwise ltE) {k : Nat} (hk : k = E.length \/ ∃ x, E[k]? = some x /\ x.1 > v) : Go.Sh.nearL (E.take k) v = Go.Sh.nearL E v := by
 rcases hk with rfl | ⟨x, hx, hv⟩
 ·rw [List.take_length]
 ·have h2 : Go.Sh.nearL (E.drop k) v = [] := by
   unfold Go.Sh.nearL;rw [List.flatMap_eq_nil_iff];intro y hy;have hy1 : x.1 <= y.1 := by
    obtain ⟨j, hj⟩ := List.getElem?_of_mem hy;rw [List.getElem?_drop] at hj;rcases Nat.eq_zero_or_pos j with h0 | h0
    ·subst h0; rw [Nat.add_zero, hx] at hj; injection hj with hj; rw [hj]; exact Int.le_refl _
    ·obtain ⟨h1, e1⟩ := List.getElem?_eq_some_iff.1 hx;obtain ⟨h3, e3⟩ := List.getElem?_eq_some_iff.1 hj;have := List.pairwise_iff_getElem.1 hs k (k + j) h1 h3 (by omega);rw [e1, e3] at this;unfold ltE at this; omega
   have := (hE y (List.mem_of_mem_drop hy)).2.1;unfold nearX;rw [if_neg (by omega), if_neg (by omega)]; rfl
  conv => rhs; rw [<- List.take_append_drop k E]
  unfold Go.Sh.nearL at h2 ⊢;rw [List.flatMap_append, h2, List.append_nil]
end Go.Proofs
namespace Go.Proofs
open Go.RowKit Go.Shelf
attribute [local go_sem] Oper.semAt_some
theorem Tryz.info3 : (Tryz.prog.info? 3).map (fun i => (i.zero, i.size, i.bytes)) = some (some (.int .i64 0), 1, 8) := by kernel_rfl
set_option maxRecDepth 100000 in
set_option maxHeartbeats 2000000 in
theorem Tryz.appendSeq_in (F : Fence) (n : Nat) (h116 : F.fn 145) (h103 : F.fn 132) (hro : F.round = none) (hn : 3 <= n) (Bs n₀ : Nat) (sv : Value) (zs : List Int) (hlen : zs.length <= maxLen) (hreach : zs.length * 8 <= 140737488351232) (w : World) (hBs : Bs < w.heap.size) (hn₀ : n₀ <= w.heap.size)
  (hc : w.cell? ⟨Bs, 0, none⟩ = some sv) (hI : Tryz.Ints n₀ w sv zs) :
  CallsIn F n Tryz.prog 145 #[.slice none 0 0, .func (.func 132) #[] #[.pointer (some ⟨Bs, 0, none⟩)]] w fun e W' => ∃ v, e = .returned v /\ W'.ownsRow w.heap.size 3 1 v zs.length (zs.map (Value.int .i64)) /\ (v = .slice none 0 0 ↔ zs = []) /\ Below w.heap.size w W' := by
 have h1 : 1 <= n := by omega
 obtain ⟨i0, hi, hz0, hz1, hz2⟩ := info_parts Tryz.info3
 refine callsIn_of_wp_marks Tryz.func145 rfl h116 ?_ hro
 simp only [Tryz.ntmps145, List.size_toArray, List.length_cons, List.length_nil, Nat.reduceAdd, Nat.reduceSub, Array.replicate_succ, Array.replicate_zero, List.push_toArray, List.append_toArray, List.nil_append, List.cons_append]
 gi_wp2
 have bO := Boxed.new w 28 (.slice none 0 0)
 have hB0 : Below w.heap.size w (w.alloc (.cells #[.slice none 0 0] 28)) := ((Below.refl _ w).alloc (Nat.le_refl _) _)
 refine wpIn_rangeFunc_ownG hro h1 (gf := 132) (lb := #[.pointer (some ⟨Bs, 0, none⟩)]) rfl h103 (enters_of Tryz.func132 (by kernel_rfl) rfl)
  (Tryz.values_stops F (n - 1) h103 hro (by omega) Bs w.heap.size _ zs hreach _ (by simp; omega) (by simp) ((hB0.cell (p := ⟨Bs, 0, none⟩) hBs).trans hc) (by
   rcases hI.below (hB0.mono hn₀) with h | ⟨a, cap, e, hb, hcs⟩
   ·exact .inl h
   ·exact .inr ⟨a, cap, e, by omega, hcs⟩)) belowK_t (belowK_b (by simp)) (Below.refl _ _) (fun _ => rfl)
  (fun pre W => (∃ v, Boxed W w.heap.size 28 v /\ W.ownsRow w.heap.size 3 1 v pre.length (pre.map (Value.int .i64)) /\ (v = .slice none 0 0 ↔ pre = [])) /\ Below w.heap.size w W)
  (fun _ _ _ => False)
  (OwnFrom.and (Own.from (holdsRow_own w.heap.size w.heap.size 28 3 1 (fun pre : List Int => pre.length) (fun pre => pre.map (Value.int .i64)) (fun pre v => v = .slice none 0 0 ↔ pre = [])) _) (ownFrom_below (Nat.le_refl _) (by simp)))
  (fun _ _ _ _ _ hs _ _ => hs)
  ⟨⟨_, bO, World.ownsRow_nil _ _ _ _, by simp⟩, hB0⟩
  (fun x => { tmps := #[.slice none 0 0, .func (.func 132) #[] #[.pointer (some ⟨Bs, 0, none⟩)], .pointer (some ⟨w.heap.size, 0, none⟩), undef, .slice none 0 0, .int .i64 x, .func (.func 132) #[] #[.pointer (some ⟨Bs, 0, none⟩)], .int .i64 x, undef, undef, undef, undef, undef], defers := [] }) ?assign ?body ?done ?stop
 case assign =>
  intro l x W K hK
  gi_wp2
  exact hK
 case body =>
  rintro l pre x W ⟨⟨v, hv, hrow, hnil⟩, hB⟩ hlt;have hc := hv.cell
  gi_wp2_with (gi_at_builtin; refine wpListIn_append_own _ rfl _ _ 28 rfl w.heap.size 3 i0 (.int .i64 0) 1 8 Tryz.underlying28 hi hz0 hz1 hz2 rfl (by decide) _ _ _ rfl (hrow.alloc _) ⟨W.heap.size, 0, none⟩ 1 1 [.int .i64 x] rfl rfl (cell_one_new _ _ _) (by simp [Value.oneCell']) (by omega) (by omega) (by have := hB.size; simp; omega) ?_; intro v' w1 hown' hgrow _; obtain ⟨g', cap', rfl⟩ := ownsRow_succ hown'; obtain ⟨hv1, hv2, hr2, hk2, hb2⟩ := hv.appended (by decide) hrow hB.size (Nat.le_refl _) hown' hgrow; have hc1 := hv1.cell; have hf1 := hv1.frozen)
  exact ⟨hk2.from _, hb2, ⟨_, hv2, by simpa using hr2, by simp⟩, hB.trans hb2⟩
 case done =>
  rintro D ys W hD rfl ⟨⟨v, hv, hrow, hnil⟩, hB⟩ hK;have hc := hv.cell
  gi_wp2
  refine ⟨by simp, .inl ⟨_, _, rfl, run_takeDeferred hK, ?_⟩⟩;exact ⟨_, results_tmp rfl _ _ _, v, rfl, ownsRow_putObj hrow _ hK rfl, hnil, hB.trans (belowK_b (w := w) (Nat.le_refl _) W D _ _ (by simp at hD; omega) hK rfl rfl)⟩
 case stop =>
  rintro D c pre W _ _ h _;exact h.elim
end Go.Proofs
namespace Go.Proofs
open Go.RowKit Go.Shelf Go.Sh
attribute [local go_sem] Oper.semAt_some
theorem Tryz.gr_of {w : World} {n : Int} {E : List Ed} {u : Value} (h : V1Ok w noLab 0 (grV n E) u) : ∃ A c, u = .agg #[.int .i64 n, .slice A E.length c] /\ FlatOk w noLab none A c 2 (edges E) := by
 obtain ⟨cs, rfl, hc⟩ := h
 cases hl : cs.toList with
 | nil => rw [hl] at hc; exact hc.elim
 | cons a r =>
  rw [hl] at hc
  cases r with
  | nil => exact hc.2.elim
  | cons b r =>
   cases r with
   | cons _ _ => exact hc.2.2.elim
   | nil =>
    obtain ⟨⟨_, h1⟩, ⟨x, h2, h3⟩, _⟩ := hc;have h1 : a = .int .i64 n := h1;rw [qeq] at h2;refine ⟨x.A, x.c, ?_, h3⟩;have : cs = #[a, b] := by cases cs; simp_all
    rw [this, h1, h2]
theorem Tryz.gr_ok {w : World} {n : Int} {E : List Ed} {A : Option Addr} {c : Nat} (h : FlatOk w noLab none A c 2 (edges E)) : V1Ok w noLab 0 (grV n E) (.agg #[.int .i64 n, .slice A E.length c]) :=
 ⟨_, rfl, ⟨⟨none, 0, fun _ => none, fun _ => 0⟩, rfl⟩, ⟨⟨A, c, fun _ => none, fun _ => 0⟩, by show Value.slice A E.length c = .slice A (edges E).length c; rw [qeq], h⟩, trivial⟩
theorem Tryz.flat_below {w w' : World} {A : Option Addr} {c sz : Nat} {rows : Flat} (h : FlatOk w noLab none A c sz rows) (hb : ∀ b : Nat, b < w.heap.size -> w'.heap[b]? = w.heap[b]?) : FlatOk w' noLab none A c sz rows :=
 h.mono (by simp) (fun b hlt _ => ⟨rfl, hb b hlt⟩)
theorem Tryz.eds_of {w : World} {E : List Ed} {A : Option Addr} {c : Nat} (h : FlatOk w noLab none A c 2 (edges E)) : Tryz.Eds (· < w.heap.size) w (.slice A E.length c) E := by
 cases E with
 | nil => exact .inl ⟨rfl, A, c, rfl⟩
 | cons x E =>
  obtain ⟨a, rfl, _, h0⟩ := h.cell 0 [.i .i64 x.1, .i .i64 x.2] 0 (.i .i64 x.1) rfl rfl;have h0 : w.cell? a = some (.int .i64 x.1) := h0;obtain ⟨ab, ao, sp⟩ := a;have hsp : sp = none := by
   cases sp with
   | none => rfl
   | some s =>
    simp only [World.cell?] at h0;split at h0 <;> simp at h0
  subst hsp;refine .inr ⟨ab, ao, c, rfl, ?_, fun j y hj => ?_⟩
  ·simp only [World.cell?] at h0;by_cases hp : ab < w.heap.size
   ·exact hp
   ·rw [Array.getElem?_eq_none (by omega)] at h0;simp at h0
  ·have hr := edges_get hj;obtain ⟨b1, e1, _, h1⟩ := h.cell j _ 0 (.i .i64 y.1) hr rfl;obtain ⟨b2, e2, _, h2⟩ := h.cell j _ 1 (.i .i64 y.2) hr rfl;injection e1 with e1
   injection e2 with e2
   subst e1;subst e2;rw [Addr.add_plain] at h1 h2;exact ⟨h1, by rw [Nat.add_assoc]; exact h2⟩
theorem Tryz.right_in (m : Nat) (w : World) (n : Int) (E : List Ed) (A : Option Addr) (c : Nat) (h : FlatOk w noLab none A c 2 (edges E)) :
  CallsIn Fence.wide m Tryz.prog 25 #[.agg #[.int .i64 n, .slice A E.length c]] w fun e w' => e = .returned (.bool (decide (RightP n E))) /\ Below w.heap.size w w' := by
 refine callsIn_wide.2 ((RightG_p [grV n E] _ _ (RightC_at n E) w #[_] ⟨Tryz.gr_ok h, trivial⟩).mono ?_)
 rintro e w' ⟨u, lab, rfl, hf, _, hu⟩
 obtain ⟨x, hu⟩ := hu
 have hu : u = .bool (decide (RightP n E)) := hu
 exact ⟨by rw [hu], hf.os, hf.tape.1, hf.output, hf.size, fun b hb => hf.block b hb (fun h => h)⟩
def Tryz.nearW (w : World) (n v : Int) (sv : Value) : World := (w.alloc (.cells #[.int .i64 n, sv] 26)).alloc (.cells #[.int .i64 v] 3)
set_option maxHeartbeats 1000000 in
theorem Tryz.near_in (F : Fence) (m : Nat) (h5 : F.fn 60) (hro : F.round = none) (n v : Int) (A : Option Addr) (len c : Nat) (w : World) :
  CallsIn F m Tryz.prog 60 #[.agg #[.int .i64 n, .slice A len c], .int .i64 v] w fun e w' => e = .returned (.func (.func 84) #[] #[.pointer (some ⟨w.heap.size, 0, none⟩), .pointer (some ⟨w.heap.size + 1, 0, none⟩)]) /\ w' = Tryz.nearW w n v (.slice A len c) := by
 refine callsIn_of_wp Tryz.func60 rfl h5 ?_ hro
 simp only [Tryz.ntmps60, List.size_toArray, List.length_cons, List.length_nil, Nat.reduceAdd, Nat.reduceSub, Array.replicate_succ, Array.replicate_zero, List.push_toArray, List.append_toArray, List.nil_append, List.cons_append]
 gi_wp2
 go_ret
 refine ⟨?_, rfl⟩
 simp
set_option maxRecDepth 100000 in
set_option maxHeartbeats 1000000 in
theorem Tryz.near1_nil_in (F : Fence) (m : Nat) (h7 : F.fn 84) (hro : F.round = none) (l Bg Bv : Nat) (a : Option Addr) (cap : Nat) (J : List Int -> World -> Prop) (W : World) (hBg : W.cell? ⟨Bg, 1, none⟩ = some (.slice a 0 cap)) (h0 : J [] W) :
  CallsIn F m Tryz.prog 84 #[.func (.yield l) #[] #[], .pointer (some ⟨Bg, 0, none⟩), .pointer (some ⟨Bv, 0, none⟩)] W fun e W' => (∃ v, e = .returned v) /\ J [] W' := by
 refine callsIn_of_wp Tryz.func84 rfl h7 ?_ hro
 simp only [Tryz.ntmps84, List.size_toArray, List.length_cons, List.length_nil, Nat.reduceAdd, Nat.reduceSub, Array.replicate_succ, Array.replicate_zero, List.push_toArray, List.append_toArray, List.nil_append, List.cons_append]
 gi_wp2
 gi_loopw [9] (fun i wr => i = .int .i64 0 /\ J [] wr) (fun _ _ => 0)
 case atStart => exact ⟨rfl, h0⟩
 case round =>
  obtain ⟨rfl, hJs⟩ := hrel
  gi_wp2
  go_end0
  exact ⟨⟨_, rfl⟩, hJs⟩
theorem Tryz.Eds.kept {S S' : Nat -> Prop} {A B : World} (h : Tryz.Kept S A B) (hS : ∀ k, S' k -> S k) {sv : Value} {E : List Ed} : Tryz.Eds S' A sv E -> Tryz.Eds S B sv E
 | .inl e => .inl e
 | .inr ⟨ab, ao, cap, e, hb, hc⟩ => .inr ⟨ab, ao, cap, e, hS _ hb, fun j x hj => ⟨(h.cell (p := ⟨ab, ao + j * 2, none⟩) (hS _ hb)).trans (hc j x hj).1, (h.cell (p := ⟨ab, ao + j * 2 + 1, none⟩) (hS _ hb)).trans (hc j x hj).2⟩⟩
theorem Tryz.near_stops (F : Fence) (m : Nat) (h7 : F.fn 84) (hro : F.round = none) (hm : 1 <= m) (Bg Bv : Nat) (S : Nat -> Prop) (n v : Int) (sv : Value) (E : List Ed) (hR : RightP n E) (w : World) (hBg0 : S Bg) (hBv0 : S Bv) (hS : ∀ k, S k -> k < w.heap.size)
  (hBg : w.cell? ⟨Bg, 1, none⟩ = some sv) (hBv : w.cell? ⟨Bv, 0, none⟩ = some (.int .i64 v)) (hI : Tryz.Eds S w sv E) :
  SeqStopsK F m Tryz.prog 84 #[.pointer (some ⟨Bg, 0, none⟩), .pointer (some ⟨Bv, 0, none⟩)] (fun x : Int => #[Value.int .i64 x]) (Tryz.Kp S 43) (fun ys => ys = Go.Sh.nearL E v) (fun pre => pre <+: Go.Sh.nearL E v) E.length w := fun l J Jx W hW hJ _ hY h0 => by
 have hk := Tryz.Kept.of hW hS
 have hBg' := (hk.cell (p := ⟨Bg, 1, none⟩) hBg0).trans hBg
 have hBv' := (hk.cell (p := ⟨Bv, 0, none⟩) hBv0).trans hBv
 rcases hI.kept hk (fun k h => h) with ⟨rfl, a, cap, rfl⟩ | ⟨ab, ao, cap, rfl, hb, hcs⟩
 ·exact (Tryz.near1_nil_in F m h7 hro l Bg Bv a cap J W hBg' h0).mono fun e W' ⟨he, hj⟩ => ⟨he, .inl ⟨_, rfl, hj⟩⟩
 ·refine (Tryz.near1_in F m h7 hro hm l Bg Bv cap S ab ao v n E hR.2.2.2.1 hR.2.2.1 hb hBg0 hBv0 J Jx hY W hJ (fun k h => Nat.lt_of_lt_of_le (hS k h) hW.size) hBg' hBv' hcs h0).mono ?_;rintro e W' ⟨he, ⟨k, hk, hk2, hj⟩ | ⟨pre, ⟨k, hk, rfl⟩, hj⟩⟩
  ·refine ⟨he, .inl ⟨_, rfl, ?_⟩⟩;rw [<- Tryz.near_rest hR.2.2.2.1 hR.2.2.2.2 hk2]; exact hj
  ·refine ⟨he, .inr ⟨_, ?_, hj⟩⟩;exact ⟨Go.Sh.nearL (E.drop k) v, by unfold Go.Sh.nearL; rw [<- List.flatMap_append, List.take_append_drop]⟩
theorem Tryz.kp_append {W w1 : World} {n₀ B T : Nat} {S : Nat -> Prop} {t e : TypeId} {size : Nat} {v v' : Value} {k : Nat} {xs : List Value} {tmp : Obj} (hv : Boxed W B t v) (ht : t ≠ T) (he : e ≠ T) (hrow : W.ownsRow n₀ e size v k xs) (hgrow : (W.alloc tmp).grownBy w1 v.ownBlock) (hS : ∀ k, S k -> k < n₀ /\ k ≠ B /\ k < W.heap.size) : Tryz.Kp S T W (w1.setCell ⟨B, 0, none⟩ v') := by
 have hsz : W.heap.size <= (w1.setCell ⟨B, 0, none⟩ v').heap.size := by
  have h1 := hgrow.size;have h2 : (w1.setCell ⟨B, 0, none⟩ v').heap.size = w1.heap.size := by simp [World.setCell]
  rw [h2]; simp at h1; omega
 refine ⟨⟨hsz, fun b hb => ?_⟩, fun b c fr hk => ?_⟩
 ·obtain ⟨h1, h2, h3⟩ := hS b hb;rw [Below.heap_setCell _ _ _ _ h2];refine (hgrow.block b (by simp; omega) ?_).trans (Below.heap_alloc _ _ _ h3);rcases hrow.2 with ⟨rfl, _⟩ | ⟨g, cap, cur, rfl, hg, hgb, _⟩
  ·simp [Value.ownBlock]
  ·intro h;obtain rfl : b = g := by simpa [Value.ownBlock] using h
   omega
 ·have hlt := (Array.getElem?_eq_some_iff.1 hk).1;have h1 : b ≠ B := fun h => by
   subst h;have hv : W.heap[b]? = some (.cells #[v] t (0, 0)) := hv;rw [hv] at hk;injection hk with hk; injection hk with _ hk; exact ht hk
  rw [Below.heap_setCell _ _ _ _ h1];refine (hgrow.block b (by simp; omega) ?_).trans ((Below.heap_alloc _ _ _ hlt).trans hk);rcases hrow.2 with ⟨rfl, _⟩ | ⟨g, cap, cur, rfl, _, hgb, _⟩
  ·simp [Value.ownBlock]
  ·intro h;obtain rfl : b = g := by simpa [Value.ownBlock] using h
   rw [hgb] at hk;injection hk with hk; injection hk with _ hk; exact he hk
end Go.Proofs
namespace Go.Proofs
open Go.RowKit Go.Shelf Go.Sh
attribute [local go_sem] Oper.semAt_some
theorem Tryz.ownsRow_base {W : World} {b b' : Nat} {e : TypeId} {size : Nat} {v : Value} {k : Nat} {xs : List Value} (h : W.ownsRow b e size v k xs) (hb : b' <= b) : W.ownsRow b' e size v k xs :=
 ⟨h.1, h.2.imp id fun ⟨g, cap, cur, h1, h2, h3⟩ => ⟨g, cap, cur, h1, Nat.le_trans hb h2, h3⟩⟩
theorem Tryz.append_step {W w1 : World} {n0 n4 B : Nat} {v v' : Value} {k m : Nat} {xs ys : List Value} {tmp : Obj} (hv : Boxed W B 28 v) (hrow : W.ownsRow n4 3 1 v k xs) (h0 : n0 <= n4) (h4 : n4 <= W.heap.size) (hB : n0 <= B) (hown' : w1.ownsRow n4 3 1 v' m ys) (hgrow : (W.alloc tmp).grownBy w1 v.ownBlock) :
  Boxed w1 B 28 v /\ Boxed (w1.setCell ⟨B, 0, none⟩ v') B 28 v' /\ (w1.setCell ⟨B, 0, none⟩ v').ownsRow n4 3 1 v' m ys /\ KeepsOthers W (w1.setCell ⟨B, 0, none⟩ v') /\ Below n0 W (w1.setCell ⟨B, 0, none⟩ v') /\ Tryz.Kp (fun k => k < n4 /\ k ≠ B) 43 W (w1.setCell ⟨B, 0, none⟩ v') := by
 obtain ⟨hv1, hv2, hr2, hk2, hb2⟩ := hv.appended (by decide) (Tryz.ownsRow_base hrow h0) (Nat.le_trans h0 h4) hB (Tryz.ownsRow_base hown' h0) hgrow
 exact ⟨hv1, hv2, hown'.kept (grownBy_setCell' w1 B v') (.inr (hv1.not_row (by decide) hown').symm), hk2, hb2, Tryz.kp_append hv (by decide) (by decide) hrow hgrow (fun k h => ⟨h.1, h.2, Nat.lt_of_lt_of_le h.1 h4⟩)⟩
structure Tryz.NearAt (w W3 W4 : World) (n v : Int) (A : Option Addr) (c : Nat) (E : List Ed) : Prop where
 size : W4.heap.size = W3.heap.size + 2
 below : Below W3.heap.size W3 W4
 cg : W4.cell? ⟨W3.heap.size, 1, none⟩ = some (.slice A E.length c)
 cv : W4.cell? ⟨W3.heap.size + 1, 0, none⟩ = some (.int .i64 v)
theorem Tryz.near_at (w W3 : World) (n v : Int) (A : Option Addr) (c : Nat) (E : List Ed) : Tryz.NearAt w W3 (Tryz.nearW W3 n v (.slice A E.length c)) n v A c E := by
 have s4 : (Tryz.nearW W3 n v (.slice A E.length c)).heap.size = W3.heap.size + 2 := by simp [Tryz.nearW]
 have hb : Below W3.heap.size W3 (Tryz.nearW W3 n v (.slice A E.length c)) := ((Below.refl _ W3).alloc (Nat.le_refl _) _).alloc (by simp) _
 have h1 : (Tryz.nearW W3 n v (.slice A E.length c)).heap[W3.heap.size]? = some (.cells #[.int .i64 n, .slice A E.length c] 26) := by
  unfold Tryz.nearW;rw [Below.heap_alloc _ _ _ (by simp)]; exact World.alloc_heap_new _ _
 have h2 : (Tryz.nearW W3 n v (.slice A E.length c)).heap[W3.heap.size + 1]? = some (.cells #[.int .i64 v] 3) := by
  have := World.alloc_heap_new (W3.alloc (.cells #[.int .i64 n, .slice A E.length c] 26)) (.cells #[.int .i64 v] 3)
  rwa [World.size_alloc] at this
 exact ⟨s4, hb, by simp [World.cell?, h1], by simp [World.cell?, h2]⟩
set_option maxRecDepth 100000 in
set_option maxHeartbeats 2000000 in
theorem Tryz.Near_in (n v : Int) (E : List Ed) (A : Option Addr) (c : Nat) (w : World) (hE : E.length <= 1000000) (h : FlatOk w noLab none A c 2 (edges E)) (L : List Int) (hL : L = if RightP n E then Go.Sh.nearL E v else []) :
  CallsIn Fence.wide 6 Tryz.prog 26 #[.agg #[.int .i64 n, .slice A E.length c], .int .i64 v] w fun e W' => ∃ x, e = .returned x /\ W'.ownsRow w.heap.size 3 1 x L.length (L.map (Value.int .i64)) /\ Below w.heap.size w W' := by
 obtain ⟨i0, hi, hz0, hz1, hz2⟩ := info_parts Tryz.info3
 obtain ⟨w1, hw1⟩ : ∃ w1, w.alloc (.cells #[.int .i64 n, .slice A E.length c] 26) = w1 := ⟨_, rfl⟩
 obtain ⟨w2, hw2⟩ : ∃ w2, w1.alloc (.cells #[.slice none 0 0] 28) = w2 := ⟨_, rfl⟩
 have s1 : w1.heap.size = w.heap.size + 1 := by rw [<- hw1]; simp
 have s2 : w2.heap.size = w.heap.size + 2 := by rw [<- hw2]; simp [s1]
 have b1 : Below w.heap.size w w1 := by rw [<- hw1]; exact (Below.refl _ w).alloc (Nat.le_refl _) _
 have b2 : Below w.heap.size w w2 := by rw [<- hw2]; exact b1.alloc (by omega) _
 have hg2 : w2.heap[w.heap.size]? = some (.cells #[.int .i64 n, .slice A E.length c] 26) := by
  rw [<- hw2, Below.heap_alloc _ _ _ (by omega), <- hw1]; exact World.alloc_heap_new _ _
 have bO : Boxed w2 (w.heap.size + 1) 28 (.slice none 0 0) := by rw [<- hw2, <- s1]; exact Boxed.new _ _ _
 have c0 : w2.cell? ⟨w.heap.size, 0, none⟩ = some (.int .i64 n) := by simp [World.cell?, hg2]
 have c1 : w2.cell? ⟨w.heap.size, 1, none⟩ = some (.slice A E.length c) := by simp [World.cell?, hg2]
 refine callsIn_of_wp_marks Tryz.func26 rfl trivial ?_ rfl
 simp only [Tryz.ntmps26, List.size_toArray, List.length_cons, List.length_nil, Nat.reduceAdd, Nat.reduceSub, Array.replicate_succ, Array.replicate_zero, List.push_toArray, List.append_toArray, List.nil_append, List.cons_append]
 have f2 := Tryz.flat_below h (fun b hb => b2.block b hb)
 subst hw1
 subst hw2
 by_cases hR : RightP n E
 ·rw [if_pos hR] at hL
  gi_wp2_with (first
   | (refine ⟨trivial, ?_⟩; gi_at_call 25; refine (Tryz.right_in 5 _ n E A c f2).mono ?_; rintro e W3 ⟨rfl, hb3⟩; have c0' := (hb3.cell (p := ⟨w.heap.size, 0, none⟩) (by show w.heap.size < _; rw [s2]; omega)).trans c0; have c1' := (hb3.cell (p := ⟨w.heap.size, 1, none⟩) (by show w.heap.size < _; rw [s2]; omega)).trans c1; have hd : decide (RightP n E) = true := decide_eq_true hR)
   | (refine ⟨trivial, ?_⟩; gi_at_call 60; refine (Tryz.near_in Fence.wide 5 trivial rfl n v A E.length c _).mono ?_; rintro e W4 ⟨rfl, rfl⟩))
  have hA4 := Tryz.near_at w W3 n v A c E;have s3 : w.heap.size + 2 <= W3.heap.size := by have := hb3.size; rw [s2] at this; exact this
  have bO3 : Boxed W3 (w.heap.size + 1) 28 (.slice none 0 0) := (hb3.block _ (by rw [s2]; omega)).trans bO;have b3 : Below w.heap.size w W3 := b2.trans (hb3.mono (by rw [s2]; omega));have hE3 := (Tryz.eds_of h).kept (Tryz.Kept.of (S := (· < w.heap.size)) b3 (fun k h => h)) (fun k h => h);generalize Tryz.nearW W3 n v (.slice A E.length c) = W4 at hA4 ⊢
  obtain ⟨s4, hb4, cg, cv⟩ := hA4;have bO4 : Boxed W4 (w.heap.size + 1) 28 (.slice none 0 0) := (hb4.block _ (by omega)).trans bO3;have b4 : Below w.heap.size w W4 := b3.trans (hb4.mono (by omega));have hE4 : Tryz.Eds (fun k => k < W4.heap.size /\ k ≠ w.heap.size + 1) W4 (.slice A E.length c) E := by
   rcases hE3.kept (Tryz.Kept.of (S := (· < w.heap.size)) (hb4.mono (show w.heap.size <= _ by omega)) (fun k h => h)) (fun k h => h) with h0 | ⟨ab, ao, cap, e, hb, hc⟩
   ·exact .inl h0
   ·exact .inr ⟨ab, ao, cap, e, ⟨by omega, by omega⟩, hc⟩
  have hml : E.length <= 4000 := hR.2.2.1;refine wpIn_rangeFunc_ownG rfl (by omega) (gf := 84) (lb := #[.pointer (some ⟨W3.heap.size, 0, none⟩), .pointer (some ⟨W3.heap.size + 1, 0, none⟩)]) rfl trivial (enters_of Tryz.func84 (by kernel_rfl) rfl)
   (Tryz.near_stops Fence.wide 5 trivial rfl (by omega) W3.heap.size (W3.heap.size + 1) (fun k => k < W4.heap.size /\ k ≠ w.heap.size + 1) n v _ E hR W4 ⟨by omega, by omega⟩ ⟨by omega, by omega⟩ (fun k h => h.1) cg cv hE4) Tryz.kp_t (Tryz.kp_b (fun k h => h.1)) (Below.refl _ _) (fun _ => rfl)
   (fun pre W => (∃ x, Boxed W (w.heap.size + 1) 28 x /\ W.ownsRow W4.heap.size 3 1 x pre.length (pre.map (Value.int .i64)) /\ (x = .slice none 0 0 ↔ pre = [])) /\ Below w.heap.size W4 W)
   (fun _ _ _ => False)
   (OwnFrom.and (Own.from (holdsRow_own W4.heap.size (w.heap.size + 1) 28 3 1 (fun pre : List Int => pre.length) (fun pre => pre.map (Value.int .i64)) (fun pre v => v = .slice none 0 0 ↔ pre = [])) _) (ownFrom_below (by omega) (by omega)))
   (fun _ _ _ _ _ hs _ _ => hs)
   ⟨⟨_, bO4, World.ownsRow_nil _ _ _ _, by simp⟩, Below.refl _ _⟩
   (fun x => { tmps := #[.agg #[.int .i64 n, .slice A E.length c], .int .i64 v, .pointer (some ⟨w.heap.size, 0, none⟩), undef, .slice none 0 0, .pointer (some ⟨w.heap.size + 1, 0, none⟩), .int .i64 x, .agg #[.int .i64 n, .slice A E.length c], .bool true, .bool false, .agg #[.int .i64 n, .slice A E.length c], .int .i64 v, .func (.func 84) #[] #[.pointer (some ⟨W3.heap.size, 0, none⟩), .pointer (some ⟨W3.heap.size + 1, 0, none⟩)], .int .i64 x, undef, undef, undef, undef, undef], defers := [] }) ?assign ?body ?done ?stop
  case assign =>
   intro l x W K hK
   gi_wp2
   exact hK
  case body =>
   rintro l pre x W ⟨⟨y, hv, hrow, hnil⟩, hB⟩ hlt;have hc := hv.cell;have hmx : pre.length + 1 <= maxLen := by unfold maxLen; omega
   have hB3 : W4.heap.size <= W.heap.size := hB.size;have hw4 : w.heap.size <= W4.heap.size := by omega
   have hwB : w.heap.size <= w.heap.size + 1 := by omega
   have hm8 : (pre.length + 1) * 8 <= 140737488355328 := by omega
   gi_wp2_with (gi_at_builtin; refine wpListIn_append_own _ rfl _ _ 28 rfl W4.heap.size 3 i0 (.int .i64 0) 1 8 Tryz.underlying28 hi hz0 hz1 hz2 rfl (by decide) _ _ _ rfl (hrow.alloc _) ⟨W.heap.size, 0, none⟩ 1 1 [.int .i64 x] rfl rfl (cell_one_new _ _ _) (by simp [Value.oneCell']) hmx hm8 (by rw [World.size_alloc]; omega) ?_; intro v' w1 hown' hgrow _; obtain ⟨g', cap', rfl⟩ := ownsRow_succ hown'; obtain ⟨hv1, hv2, hr3, hk2, hb2, hk3⟩ := Tryz.append_step hv hrow hw4 hB3 hwB hown' hgrow; have hc1 := hv1.cell; have hf1 := hv1.frozen)
   exact ⟨hk2.from _, hk3, ⟨_, hv2, by simpa using hr3, by simp⟩, hB.trans hb2⟩
  case done =>
   rintro D ys W hD rfl ⟨⟨y, hv, hrow, hnil⟩, hB⟩ hK;have hc := hv.cell
   gi_wp2
   refine ⟨by simp, .inl ⟨_, _, rfl, run_takeDeferred hK, ?_⟩⟩;exact ⟨_, results_tmp rfl _ _ _, y, rfl, by rw [hL]; exact ownsRow_putObj (Tryz.ownsRow_base hrow (by omega)) _ hK rfl, (b4.trans hB).trans (belowK_b (w := w) (Nat.le_refl _) W D _ _ (by omega) hK rfl rfl)⟩
  case stop =>
   rintro D cd pre W _ _ h _;exact h.elim
 ·rw [if_neg hR] at hL;subst hL
  gi_wp2_with (refine ⟨trivial, ?_⟩; gi_at_call 25; refine (Tryz.right_in 5 _ n E A c f2).mono ?_; rintro e W3 ⟨rfl, hb3⟩; have hd : decide (RightP n E) = false := decide_eq_false hR)
  exact ⟨_, results_tmp rfl _ _ _, _, rfl, World.ownsRow_nil _ _ _ _, b2.trans (hb3.mono (by rw [s2]; omega))⟩
set_option maxRecDepth 100000 in
set_option maxHeartbeats 2000000 in
theorem Tryz.Has_in (n a b : Int) (E : List Ed) (A : Option Addr) (c : Nat) (w : World) (hE : E.length <= 1000000) (h : FlatOk w noLab none A c 2 (edges E)) :
  CallsIn Fence.wide 6 Tryz.prog 80 #[.agg #[.int .i64 n, .slice A E.length c], .int .i64 a, .int .i64 b] w fun e W' => e = .returned (.bool (decide (RightP n E) && (Go.Sh.nearL E a).elem b)) /\ Below w.heap.size w W' := by
 obtain ⟨w1, hw1⟩ : ∃ w1, w.alloc (.cells #[.int .i64 n, .slice A E.length c] 26) = w1 := ⟨_, rfl⟩
 obtain ⟨w2, hw2⟩ : ∃ w2, w1.alloc (.cells #[.int .i64 b] 3) = w2 := ⟨_, rfl⟩
 obtain ⟨w3, hw3⟩ : ∃ w3, w2.alloc (.cells #[.bool false] 4) = w3 := ⟨_, rfl⟩
 have s1 : w1.heap.size = w.heap.size + 1 := by rw [<- hw1]; simp
 have s2 : w2.heap.size = w.heap.size + 2 := by rw [<- hw2]; simp [s1]
 have s3 : w3.heap.size = w.heap.size + 3 := by rw [<- hw3]; simp [s2]
 have b1 : Below w.heap.size w w1 := by rw [<- hw1]; exact (Below.refl _ w).alloc (Nat.le_refl _) _
 have b2 : Below w.heap.size w w2 := by rw [<- hw2]; exact b1.alloc (by omega) _
 have b3 : Below w.heap.size w w3 := by rw [<- hw3]; exact b2.alloc (by omega) _
 have hg3 : w3.heap[w.heap.size]? = some (.cells #[.int .i64 n, .slice A E.length c] 26) := by
  rw [<- hw3, Below.heap_alloc _ _ _ (by omega), <- hw2, Below.heap_alloc _ _ _ (by omega), <- hw1]; exact World.alloc_heap_new _ _
 have bB : Boxed w3 (w.heap.size + 1) 3 (.int .i64 b) := by rw [<- hw3, <- s1]; refine Boxed.alloc ?_ _; rw [<- hw2]; exact Boxed.new _ _ _
 have bO : Boxed w3 (w.heap.size + 2) 4 (.bool false) := by rw [<- hw3, <- s2]; exact Boxed.new _ _ _
 have c0 : w3.cell? ⟨w.heap.size, 0, none⟩ = some (.int .i64 n) := by simp [World.cell?, hg3]
 have c1 : w3.cell? ⟨w.heap.size, 1, none⟩ = some (.slice A E.length c) := by simp [World.cell?, hg3]
 refine callsIn_of_wp_marks Tryz.func80 rfl trivial ?_ rfl
 simp only [Tryz.ntmps80, List.size_toArray, List.length_cons, List.length_nil, Nat.reduceAdd, Nat.reduceSub, Array.replicate_succ, Array.replicate_zero, List.push_toArray, List.append_toArray, List.nil_append, List.cons_append]
 have f3 := Tryz.flat_below h (fun b hb => b3.block b hb)
 subst hw1
 subst hw2
 subst hw3
 by_cases hR : RightP n E
 ·gi_wp2_with (first
   | (refine ⟨trivial, ?_⟩; gi_at_call 25; refine (Tryz.right_in 5 _ n E A c f3).mono ?_; rintro e W3 ⟨rfl, hb3⟩; have c0' := (hb3.cell (p := ⟨w.heap.size, 0, none⟩) (by show w.heap.size < _; rw [s3]; omega)).trans c0; have c1' := (hb3.cell (p := ⟨w.heap.size, 1, none⟩) (by show w.heap.size < _; rw [s3]; omega)).trans c1; have hd : decide (RightP n E) = true := decide_eq_true hR)
   | (refine ⟨trivial, ?_⟩; gi_at_call 60; refine (Tryz.near_in Fence.wide 5 trivial rfl n a A E.length c _).mono ?_; rintro e W4 ⟨rfl, rfl⟩))
  have hA4 := Tryz.near_at w W3 n a A c E;have t3 : w.heap.size + 3 <= W3.heap.size := by have := hb3.size; rw [s3] at this; exact this
  have bB3 : Boxed W3 (w.heap.size + 1) 3 (.int .i64 b) := (hb3.block _ (by rw [s3]; omega)).trans bB;have bO3 : Boxed W3 (w.heap.size + 2) 4 (.bool false) := (hb3.block _ (by rw [s3]; omega)).trans bO;have d3 : Below w.heap.size w W3 := b3.trans (hb3.mono (by rw [s3]; omega));have hE3 := (Tryz.eds_of h).kept (Tryz.Kept.of (S := (· < w.heap.size)) d3 (fun k h => h)) (fun k h => h);generalize Tryz.nearW W3 n a (.slice A E.length c) = W4 at hA4 ⊢
  obtain ⟨s4, hb4, cg, cv⟩ := hA4;have bB4 : Boxed W4 (w.heap.size + 1) 3 (.int .i64 b) := (hb4.block _ (by omega)).trans bB3;have bO4 : Boxed W4 (w.heap.size + 2) 4 (.bool false) := (hb4.block _ (by omega)).trans bO3;have d4 : Below w.heap.size w W4 := d3.trans (hb4.mono (by omega));have hE4 : Tryz.Eds (fun k => k < W4.heap.size /\ k ≠ w.heap.size + 2) W4 (.slice A E.length c) E := by
   rcases hE3.kept (Tryz.Kept.of (S := (· < w.heap.size)) (hb4.mono (show w.heap.size <= _ by omega)) (fun k h => h)) (fun k h => h) with h0 | ⟨ab, ao, cap, e, hb, hc⟩
   ·exact .inl h0
   ·exact .inr ⟨ab, ao, cap, e, ⟨by omega, by omega⟩, hc⟩
  have hml : E.length <= 4000 := hR.2.2.1;have hd2 : decide (RightP n E) = true := decide_eq_true hR;refine wpIn_rangeFunc_ownG rfl (by omega) (gf := 84) (lb := #[.pointer (some ⟨W3.heap.size, 0, none⟩), .pointer (some ⟨W3.heap.size + 1, 0, none⟩)]) rfl trivial (enters_of Tryz.func84 (by kernel_rfl) rfl)
   (Tryz.near_stops Fence.wide 5 trivial rfl (by omega) W3.heap.size (W3.heap.size + 1) (fun k => k < W4.heap.size /\ k ≠ w.heap.size + 2) n a _ E hR W4 ⟨by omega, by omega⟩ ⟨by omega, by omega⟩ (fun k h => h.1) cg cv hE4) Tryz.kp_t (Tryz.kp_b (fun k h => h.1)) (Below.refl _ _) (fun _ => rfl)
   (fun pre W => (Boxed W (w.heap.size + 1) 3 (.int .i64 b) /\ Boxed W (w.heap.size + 2) 4 (.bool false) /\ b ∉ pre) /\ Below w.heap.size W4 W)
   (fun cd pre W => (cd = .ret /\ Boxed W (w.heap.size + 2) 4 (.bool true) /\ b ∈ pre) /\ Below w.heap.size W4 W)
   (OwnFrom.and (fun s X Y row hs hg hr => ⟨hs.1.kept hg (fun e => by have := (hr _ e.symm).1; omega), hs.2.1.kept hg (fun e => by have := (hr _ e.symm).1; omega), hs.2.2⟩) (ownFrom_below (by omega) (by omega)))
   (fun cd => OwnFrom.and (fun s X Y row hs hg hr => ⟨hs.1, hs.2.1.kept hg (fun e => by have := (hr _ e.symm).1; omega), hs.2.2⟩) (ownFrom_below (by omega) (by omega)))
   ⟨⟨bB4, bO4, by simp⟩, Below.refl _ _⟩
   (fun x => { tmps := #[.agg #[.int .i64 n, .slice A E.length c], .int .i64 a, .int .i64 b, .pointer (some ⟨w.heap.size, 0, none⟩), undef, .pointer (some ⟨w.heap.size + 1, 0, none⟩), .pointer (some ⟨w.heap.size + 2, 0, none⟩), .int .i64 x, .agg #[.int .i64 n, .slice A E.length c], .bool true, .bool false, .agg #[.int .i64 n, .slice A E.length c], .int .i64 a, .func (.func 84) #[] #[.pointer (some ⟨W3.heap.size, 0, none⟩), .pointer (some ⟨W3.heap.size + 1, 0, none⟩)], .int .i64 x, undef, undef, undef], defers := [] }) ?assign ?body ?done ?stop
  case assign =>
   intro l x W K hK
   gi_wp2
   exact hK
  case body =>
   rintro l pre x W ⟨⟨hv, ho, hn⟩, hB⟩ hlt;have hc := hv.cell;have hoc := ho.cell;have hof := ho.frozen;by_cases hx : x = b
   ·have hxb : (x == b) = true := by simpa using hx
    gi_wp2
    exact ⟨(KeepsOthers.setCell _ _ _).from _, ⟨rfl, ho.set _, by simp [hx]⟩, hB.setCell (p := ⟨w.heap.size + 2, 0, none⟩) (by show w.heap.size <= w.heap.size + 2; omega) _⟩
   ·have hxb : (x == b) = false := by simpa using hx
    gi_wp2
    exact ⟨KeepsFrom.refl _ _, ⟨Tryz.Kept.refl _ _, fun _ _ _ h => h⟩, ⟨hv, ho, by simp [hn]; exact fun e => hx e.symm⟩, hB⟩
  case done =>
   rintro D ys W hD rfl ⟨⟨hv, ho, hn⟩, hB⟩ hK;have hoc := ho.cell;have hof := ho.frozen
   gi_wp2
   have hK' : (W.setCell ⟨w.heap.size + 2, 0, none⟩ (.bool false)).heap[D]? = some (.deferred (some [])) := by
    rw [Below.heap_setCell _ _ _ _ (by show D ≠ w.heap.size + 2; omega)]; exact hK
   refine ⟨by simp, .inl ⟨_, _, rfl, run_takeDeferred hK', ?_⟩⟩;have hc5 := cell_kept (ho.set (.bool false)).cell (grownBy_putObj' _ D (.deferred none)) (fun r e => by cases e; exact ⟨_, hK', rfl⟩);refine ⟨.bool false, ?_, by rw [hd2, show (Go.Sh.nearL E a).elem b = false by simpa using hn]; rfl, ((d4.trans hB).setCell (p := ⟨w.heap.size + 2, 0, none⟩) (by show w.heap.size <= w.heap.size + 2; omega) _).trans (belowK_b (w := w) (Nat.le_refl _) _ D _ _ (by omega) hK' rfl rfl)⟩;simp [results, Tryz.f80, go_sem, hc5]
  case stop =>
   rintro D cd pre W hD hpre ⟨⟨rfl, ho, hn⟩, hB⟩ hK
   gi_wp2
   refine ⟨by simp, .inl ⟨_, _, rfl, run_takeDeferred hK, ?_⟩⟩;have hc5 := cell_kept ho.cell (grownBy_putObj' _ D (.deferred none)) (fun r e => by cases e; exact ⟨_, hK, rfl⟩);refine ⟨.bool true, ?_, by rw [hd2, show (Go.Sh.nearL E a).elem b = true by simpa using hpre.subset hn]; rfl, (d4.trans hB).trans (belowK_b (w := w) (Nat.le_refl _) _ D _ _ (by omega) hK rfl rfl)⟩;simp [results, Tryz.f80, go_sem, hc5]
 ·gi_wp2_with (refine ⟨trivial, ?_⟩; gi_at_call 25; refine (Tryz.right_in 5 _ n E A c f3).mono ?_; rintro e W3 ⟨rfl, hb3⟩; have hd : decide (RightP n E) = false := decide_eq_false hR; have bO3 : Boxed W3 (w.heap.size + 2) 4 (.bool false) := (hb3.block _ (by rw [s3]; omega)).trans bO; have hoc := bO3.cell; have hof := bO3.frozen)
  have bO3 : Boxed W3 (w.heap.size + 2) 4 (.bool false) := (hb3.block _ (by rw [s3]; omega)).trans bO;have hc5 := (bO3.set (.bool false)).cell;refine ⟨.bool false, ?_, by rw [decide_eq_false hR]; rfl, (b3.trans (hb3.mono (by rw [s3]; omega))).setCell (p := ⟨w.heap.size + 2, 0, none⟩) (by show w.heap.size <= w.heap.size + 2; omega) _⟩;simp [results, Tryz.f80, go_sem, hc5]
end Go.Proofs
namespace Go.Sh
open Go.Proofs Go.RowKit Go.Shelf
theorem own_flat {w : World} {base : Nat} {x : Value} {L : List Int} {e : TypeId} (h : w.ownsRow base e 1 x L.length (L.map (Value.int .i64))) : ∃ lab : Nat -> Option Key, (∀ b k, lab b = some k -> base <= b /\ b < w.heap.size) /\ VOk w lab 0 (.one (.flat true 1 (ints L))) x := by
 rcases h.2 with ⟨rfl, h0⟩ | ⟨g, cap, cur, rfl, hb, hg, h1, h2, h3, h4⟩
 ·have : L = [] := List.eq_nil_of_length_eq_zero h0;subst this;exact ⟨noLab, fun b k h => by simp [noLab] at h, ⟨none, 0, fun _ => none, fun _ => 0⟩, rfl, ⟨by simp [ints], by omega, fun i row h => by simp [ints] at h, fun i row j x h => by simp [ints] at h, fun _ => .inl ⟨rfl, rfl⟩⟩⟩
 ·have hgl : g < w.heap.size := (Array.getElem?_eq_some_iff.1 hg).1;refine ⟨fun b => if b = g then some (0, none) else none, fun b k h => ?_, ⟨some ⟨g, 0, none⟩, cap, fun _ => none, fun _ => 0⟩, by show Value.slice _ _ _ = .slice _ (ints L).length _; rw [qiq], ?_⟩
  ·dsimp only at h;split at h
   ·rename_i e; subst e; exact ⟨hb, hgl⟩
   ·cases h
  ·have hm : cap <= 9223372036854775807 := by unfold maxLen at h2; omega
   refine ⟨by rw [qiq]; exact h1, by omega, fun i row hi => ?_, fun i row j x hi hj => ?_, fun _ => .inr ⟨g, 0, cur, e, rfl, by simp, hg, by show 0 + cap * 1 <= cur.size; omega, hm⟩⟩
   ·simp only [ints, List.getElem?_map, Option.map_eq_some_iff] at hi;obtain ⟨y, _, rfl⟩ := hi; rfl
   ·simp only [ints, List.getElem?_map, Option.map_eq_some_iff] at hi;obtain ⟨y, hy, rfl⟩ := hi;have hj0 : j = 0 := by
     cases j with
     | zero => rfl
     | succ j => simp at hj
    subst hj0;simp at hj;subst hj;refine ⟨_, rfl, by simp, ?_⟩;rw [Addr.add_plain, cells_at hg];have hil := (qSq.1 hy).1;have h5 : (cur.toList.take (L.length * 1))[i]? = some (.int .i64 y) := by rw [h4, List.getElem?_map, hy]; rfl
    rw [List.getElem?_take_of_lt (by omega)] at h5;rw [Nat.mul_one, Nat.add_zero, Nat.zero_add, <- Array.getElem?_toList];exact h5
def nearG (n : Int) (E : List Ed) (v : Int) : List Int := if RightP n E then nearL E v else []
def hasG (n : Int) (E : List Ed) (a b : Int) : Bool := decide (RightP n E) && (nearL E a).elem b
noncomputable def NearGC : Con := conP 2 (fun a : (Int × List Ed) × Int => a.1.2.length <= 1000000) (fun a => [grV a.1.1 a.1.2, .one (.s (.i .i64 a.2))]) (fun a => .one (.flat true 1 (ints (nearG a.1.1 a.1.2 a.2))))
theorem NearGC_at {n : Int} {E : List Ed} (v : Int) (h : E.length <= 1000000) : NearGC.F [grV n E, .one (.s (.i .i64 v))] = some (.one (.flat true 1 (ints (nearG n E v))), []) :=
 conP_at (a := ((n, E), v)) (fun a b _ _ h => by
  obtain ⟨⟨n, E⟩, v⟩ := a;obtain ⟨⟨n', E'⟩, v'⟩ := b;simp at h;obtain ⟨h1, h2⟩ := h;obtain ⟨rfl, rfl⟩ := grV_inj h1;subst h2
  rfl) h
noncomputable def HasGC : Con := conP 3 (fun a : (Int × List Ed) × Int × Int => a.1.2.length <= 1000000) (fun a => [grV a.1.1 a.1.2, .one (.s (.i .i64 a.2.1)), .one (.s (.i .i64 a.2.2))]) (fun a => .one (.s (.b (hasG a.1.1 a.1.2 a.2.1 a.2.2))))
theorem HasGC_at {n : Int} {E : List Ed} (a b : Int) (h : E.length <= 1000000) : HasGC.F [grV n E, .one (.s (.i .i64 a)), .one (.s (.i .i64 b))] = some (.one (.s (.b (hasG n E a b))), []) :=
 conP_at (a := ((n, E), a, b)) (fun x y _ _ h => by
  obtain ⟨⟨n, E⟩, a, b⟩ := x;obtain ⟨⟨n', E'⟩, a', b'⟩ := y;simp at h;obtain ⟨h1, h2, h3⟩ := h;obtain ⟨rfl, rfl⟩ := grV_inj h1;subst h2 h3
  rfl) h
theorem us_int {w : World} {q : Nat} {v : Int} {u : Value} (h : V1Ok w noLab q (.one (.s (.i .i64 v))) u) : u = .int .i64 v := by
 obtain ⟨x, h⟩ := h; exact h
theorem Near_ok : SoundC Tryz.prog T 26 NearGC := by
 refine sound_pure Tryz.func26 (by rfl) (by rfl) (by simp [NearGC, conP]) ?_
 intro vs r outs hF w us hus
 obtain ⟨⟨⟨n, E⟩, v⟩, hl, rfl, rfl⟩ := conF_inv (pre := fun a : (Int × List Ed) × Int => a.1.2.length <= 1000000) (enc := fun a => [grV a.1.1 a.1.2, .one (.s (.i .i64 a.2))]) (val := fun a => .one (.flat true 1 (ints (nearG a.1.1 a.1.2 a.2)))) hF
 dsimp only at hl hus ⊢
 obtain ⟨u1, u2, hu, h1, h2⟩ : ∃ u1 u2, us.toList = [u1, u2] /\ V1Ok w noLab 0 (grV n E) u1 /\ V1Ok w noLab (0 + 2) (.one (.s (.i .i64 v))) u2 := by
  match h : us.toList, hus with
  | [u1, u2], hus => exact ⟨u1, u2, rfl, hus.1, hus.2.1⟩
  | [], hus => exact hus.elim
  | [_], hus => exact hus.2.elim
  | _ :: _ :: _ :: _, hus => exact hus.2.2.elim
 obtain rfl : us = #[u1, u2] := by cases us; simp_all
 obtain ⟨A, c, rfl, hA⟩ := Tryz.gr_of h1
 rw [us_int h2]
 refine ((callsIn_wide (n := 6)).1 (Tryz.Near_in n v E A c w hl hA (nearG n E v) rfl)).mono ?_
 rintro e w' ⟨x, rfl, hx, hb⟩
 obtain ⟨lab, hlab, hv⟩ := own_flat hx
 exact ⟨x, lab, rfl, ⟨hb.os, .of hb.tape, hb.output, hb.size, fun b h _ => hb.block b h⟩, hlab, hv⟩
theorem Has_ok : SoundC Tryz.prog T 80 HasGC := by
 refine sound_pure Tryz.func80 (by rfl) (by rfl) (by simp [HasGC, conP]) ?_
 intro vs r outs hF w us hus
 obtain ⟨⟨⟨n, E⟩, a, b⟩, hl, rfl, rfl⟩ := conF_inv (pre := fun a : (Int × List Ed) × Int × Int => a.1.2.length <= 1000000) (enc := fun a => [grV a.1.1 a.1.2, .one (.s (.i .i64 a.2.1)), .one (.s (.i .i64 a.2.2))]) (val := fun a => .one (.s (.b (hasG a.1.1 a.1.2 a.2.1 a.2.2)))) hF
 dsimp only at hl hus ⊢
 obtain ⟨u1, u2, u3, hu, h1, h2, h3⟩ : ∃ u1 u2 u3, us.toList = [u1, u2, u3] /\ V1Ok w noLab 0 (grV n E) u1 /\ V1Ok w noLab (0 + 2) (.one (.s (.i .i64 a))) u2 /\ V1Ok w noLab (0 + 2 + 1) (.one (.s (.i .i64 b))) u3 := by
  match h : us.toList, hus with
  | [u1, u2, u3], hus => exact ⟨u1, u2, u3, rfl, hus.1, hus.2.1, hus.2.2.1⟩
  | [], hus => exact hus.elim
  | [_], hus => exact hus.2.elim
  | [_, _], hus => exact hus.2.2.elim
  | _ :: _ :: _ :: _ :: _, hus => exact hus.2.2.2.elim
 obtain rfl : us = #[u1, u2, u3] := by cases us; simp_all
 obtain ⟨A, c, rfl, hA⟩ := Tryz.gr_of h1
 rw [us_int h2, us_int h3]
 refine ((callsIn_wide (n := 6)).1 (Tryz.Has_in n a b E A c w hl hA)).mono ?_
 rintro e w' ⟨rfl, hb⟩
 exact ⟨_, noLab, rfl, ⟨hb.os, .of hb.tape, hb.output, hb.size, fun b h _ => hb.block b h⟩, fun b k h => by simp [noLab] at h, ⟨⟨none, 0, fun _ => none, fun _ => 0⟩, rfl⟩⟩
end Go.Sh
namespace Go.Proofs
open Go.RowKit Go.Shelf Go.Maps Go.Sort
attribute [local go_sem] Oper.semAt_some
set_option maxRecDepth 100000 in
set_option maxHeartbeats 2000000 in
theorem Tryz.collect_in (F : Fence) (n : Nat) (h102 : F.fn 131) (h116 : F.fn 145) (h103 : F.fn 132) (hro : F.round = none) (hn : 4 <= n) (Bs n₀ : Nat) (sv : Value) (zs : List Int) (hlen : zs.length <= maxLen) (hreach : zs.length * 8 <= 140737488351232) (w : World) (hBs : Bs < w.heap.size) (hn₀ : n₀ <= w.heap.size)
  (hc : w.cell? ⟨Bs, 0, none⟩ = some sv) (hI : Tryz.Ints n₀ w sv zs) :
  CallsIn F n Tryz.prog 131 #[.func (.func 132) #[] #[.pointer (some ⟨Bs, 0, none⟩)]] w fun e W' => ∃ v, e = .returned v /\ W'.ownsRow w.heap.size 3 1 v zs.length (zs.map (Value.int .i64)) /\ (v = .slice none 0 0 ↔ zs = []) /\ Below w.heap.size w W' := by
 have h1 : 1 <= n := by omega
 refine callsIn_of_wp Tryz.func131 rfl h102 ?_ hro
 simp only [Tryz.ntmps131, List.size_toArray, List.length_cons, List.length_nil, Nat.reduceAdd, Nat.reduceSub, Array.replicate_succ, Array.replicate_zero, List.push_toArray, List.append_toArray, List.nil_append, List.cons_append]
 gi_wp2_with (gi_at_call 145; refine (Tryz.appendSeq_in F (n - 1) h116 h103 hro (by omega) Bs n₀ sv zs hlen hreach w hBs hn₀ hc hI).mono ?_; rintro e w' ⟨v, rfl, hrow, hnil, hB⟩)
 go_ret
 exact ⟨v, rfl, hrow, hnil, hB⟩
def Tryz.SortsIn (F : Fence) (m : Nat) : Prop :=
 (∀ (blk off cap : Nat) (ss : List Int) (W : World), Holds (Value.int .i64) W blk off ss.toArray -> blk < W.heap.size -> ss.length < 4611686018427387904 ->
  CallsIn F m Tryz.prog 81 #[.slice (some ⟨blk, off, none⟩) ss.length cap] W fun e w' => e = .returned (.tuple #[]) /\ ∃ k os, w' = grow (putRow (Value.int .i64) (Sort.ahead W k) blk off (ss.mergeSort fun x y => decide (x <= y)).toArray) os) /\
 (∀ (p : Option Addr) (cap : Nat) (W : World), CallsIn F m Tryz.prog 81 #[.slice p 0 cap] W fun e w' => e = .returned (.tuple #[]) /\ w' = W)
theorem Tryz.sortsIn (m : Nat) : Tryz.SortsIn Fence.wide m :=
 ⟨fun blk off cap ss W h1 h2 h3 => callsIn_wide.2 (Any.slices_Sort_int Tryz.laysSort blk off cap ss W h1 h2 h3), fun p cap W => callsIn_wide.2 (Any.slices_Sort_int_none Tryz.laysSort p cap W)⟩
set_option maxRecDepth 100000 in
set_option maxHeartbeats 2000000 in
theorem Tryz.sorted_in (F : Fence) (n : Nat) (h92 : F.fn 114) (h84 : F.fn 81) (h102 : F.fn 131) (h116 : F.fn 145) (h103 : F.fn 132) (hro : F.round = none) (hn : 5 <= n) (hsort : Tryz.SortsIn F (n - 1)) (Bs n₀ : Nat) (sv : Value) (zs : List Int) (hlen : zs.length <= maxLen) (hreach : zs.length * 8 <= 140737488351232) (w : World) (hBs : Bs < w.heap.size) (hn₀ : n₀ <= w.heap.size)
  (hc : w.cell? ⟨Bs, 0, none⟩ = some sv) (hI : Tryz.Ints n₀ w sv zs) :
  CallsIn F n Tryz.prog 114 #[.func (.func 132) #[] #[.pointer (some ⟨Bs, 0, none⟩)]] w fun e W' => ∃ v, e = .returned v /\ W'.ownsRow w.heap.size 3 1 v zs.length ((zs.mergeSort (fun x y => decide (x <= y))).map (Value.int .i64)) /\ (v = .slice none 0 0 ↔ zs = []) /\ Below w.heap.size w W' := by
 have h1 : 1 <= n := by omega
 refine callsIn_of_wp Tryz.func114 rfl h92 ?_ hro
 simp only [Tryz.ntmps114, List.size_toArray, List.length_cons, List.length_nil, Nat.reduceAdd, Nat.reduceSub, Array.replicate_succ, Array.replicate_zero, List.push_toArray, List.append_toArray, List.nil_append, List.cons_append]
 gi_wp2_with (gi_at_call 131; refine (Tryz.collect_in F (n - 1) h102 h116 h103 hro (by omega) Bs n₀ sv zs hlen hreach w hBs hn₀ hc hI).mono ?_; rintro e W ⟨v, rfl, hrow, hnil, hb⟩)
 rcases hrow.2 with ⟨rfl, hz⟩ | ⟨gb, cap, cur, rfl, hbase, hgb, r1, r2, r3, r4⟩
 ·have hss : zs = [] := List.eq_nil_of_length_eq_zero hz;subst hss
  gi_wp2_with (gi_at_call 81; refine (hsort.2 none 0 W).mono ?_; rintro e w' ⟨rfl, rfl⟩)
  go_ret
  exact ⟨.slice none 0 0, rfl, by simpa using hrow, by simp, hb⟩
 ·have hH : Holds (Value.int .i64) W gb 0 zs.toArray := holds_of_block_i hgb (by simpa using r4);have hgl : gb < W.heap.size := (Array.getElem?_eq_some_iff.1 hgb).1;have hsz : zs.length < 4611686018427387904 := by omega
  have cS := hsort.1 gb 0 cap zs W hH hgl hsz
  gi_wp2_with (gi_at_call 81; refine cS.mono ?_; rintro e w' ⟨rfl, nn, os, rfl⟩)
  go_ret
  exact ⟨_, rfl, ownsRow_sorted_i (by simp) hbase hgb r1 r2 r3, hnil, hb.grown (grownBy_sorted_i _) hb.size (fun j hj => by cases hj; exact hbase)⟩
end Go.Proofs
namespace Go.Proofs
open Go.RowKit Go.Shelf Go.Maps Go.Sort
theorem Tryz.keeps_iff (s : List Int) (j : Nat) (hj : j < s.length) : Lib.keeps s.toArray j = true ↔ (j = 0 \/ s[j] ≠ s[j - 1]'(by omega)) := by
 have h1 : s.toArray[j]! = s[j] := by rw [getElem!_pos _ j (by simpa using hj)]; simp
 have h2 : s.toArray[j - 1]! = s[j - 1]'(by omega) := by rw [getElem!_pos _ (j - 1) (by simp; omega)]; simp
 unfold Lib.keeps
 rw [h1, h2]
 simp
theorem Tryz.compact_nodup {s : List Int} (hs : s.Pairwise (· <= ·)) : (Lib.compact s).length = s.length ↔ s.Nodup := by
 unfold Lib.compact Lib.compactUpTo
 rw [List.length_map]
 have hr : s.length = (List.range s.length).length := by simp
 constructor
 ·intro h;have hall : ∀ j ∈ List.range s.length, Lib.keeps s.toArray j = true := by
   refine List.length_filter_eq_length_iff.1 ?_;rw [h]; exact hr
  have hlt : ∀ i j (hij : i < j) (hj : j < s.length), s[i]'(by omega) < s[j] := by
   intro i j hij hj;have hk := (Tryz.keeps_iff s j hj).1 (hall j (List.mem_range.2 hj));have hne : s[j] ≠ s[j - 1]'(by omega) := by rcases hk with h | h <;> first | omega | exact h
   have hle : s[j - 1]'(by omega) <= s[j] := by
    have := List.pairwise_iff_getElem.1 hs (j - 1) j (by omega) hj (by omega);exact this
   have h2 : s[i]'(by omega) <= s[j - 1]'(by omega) := by
    rcases Nat.eq_or_lt_of_le (show i <= j - 1 by omega) with e | h
    ·subst e; exact Int.le_refl _
    ·exact List.pairwise_iff_getElem.1 hs i (j - 1) (by omega) (by omega) h
   omega
  exact List.pairwise_iff_getElem.2 fun i j hi hj hij => by have := hlt i j hij hj; omega
 ·intro h;rw [List.length_filter_eq_length_iff.2 ?_]
  ·simp
  ·intro j hj;have hj := List.mem_range.1 hj;rw [Tryz.keeps_iff s j hj];by_cases h0 : j = 0
   ·exact .inl h0
   ·have := List.pairwise_iff_getElem.1 h (j - 1) j (by omega) hj (by omega);exact .inr fun e => this e.symm
def Tryz.sortL (zs : List Int) : List Int := zs.mergeSort (fun x y => decide (x <= y))
theorem Tryz.sortL_sorted (zs : List Int) : (Tryz.sortL zs).Pairwise (· <= ·) := by
 have := List.pairwise_mergeSort (le := fun a b : Int => decide (a <= b)) (fun a b c h1 h2 => by simp at *; omega) (fun a b => by simp; omega) zs
 exact this.imp (fun h => by simpa using h)
theorem Tryz.compact_sort (zs : List Int) : (Lib.compact (Tryz.sortL zs)).length = zs.length ↔ zs.Nodup := by
 have hp : (Tryz.sortL zs).Perm zs := List.mergeSort_perm zs _
 rw [<- hp.length_eq, Tryz.compact_nodup (Tryz.sortL_sorted zs), hp.nodup_iff]
def Tryz.CompactsIn (F : Fence) (m : Nat) : Prop :=
 (∀ (blk off cap : Nat) (zs : List Int) (w : World), Holds (Value.int .i64) w blk off zs.toArray -> zs.length <= 9223372036854775807 -> zs.length <= cap ->
  CallsIn F m Tryz.prog 116 #[.slice (some ⟨blk, off, none⟩) zs.length cap] w fun e w' => e = .returned (.slice (some ⟨blk, off, none⟩) (Lib.compact zs).length cap) /\ ∃ q, w' = putRow (Value.int .i64) (Sort.ahead w q) blk off (Lib.compact zs ++ List.replicate (zs.length - (Lib.compact zs).length) 0).toArray) /\
 (∀ (a : Option Addr) (cap : Nat) (w : World), CallsIn F m Tryz.prog 116 #[.slice a 0 cap] w fun e w' => e = .returned (.slice a 0 cap) /\ w' = w)
theorem Tryz.compactsIn (m : Nat) : Tryz.CompactsIn Fence.wide m :=
 ⟨fun blk off cap ss W h1 h2 h3 => callsIn_wide.2 (Any.slices_Compact_int Tryz.laysCompact blk off cap ss W h1 h2 h3), fun p cap W => callsIn_wide.2 (Any.slices_Compact_int_empty Tryz.laysCompact p cap W)⟩
set_option maxRecDepth 100000 in
set_option maxHeartbeats 2000000 in
theorem Tryz.unlike_in (F : Fence) (n : Nat) (h77 : F.fn 77) (h93 : F.fn 115) (h94 : F.fn 116) (h92 : F.fn 114) (h84 : F.fn 81) (h102 : F.fn 131) (h116 : F.fn 145) (h103 : F.fn 132) (hro : F.round = none) (hn : 6 <= n) (hsort : Tryz.SortsIn F (n - 1 - 1)) (hcomp : Tryz.CompactsIn F (n - 1)) (a : Option Addr) (cap : Nat) (zs : List Int) (hlen : zs.length <= 1000000) (w : World)
  (hI : Tryz.Ints w.heap.size w (.slice a zs.length cap) zs) :
  CallsIn F n Tryz.prog 77 #[.slice a zs.length cap] w fun e W' => e = .returned (.bool (decide zs.Nodup)) /\ Below w.heap.size w W' := by
 have h1 : 1 <= n := by omega
 have hml : zs.length <= maxLen := by unfold maxLen; omega
 have hB0 : Below w.heap.size w (w.alloc (.cells #[.slice a zs.length cap] 28)) := ((Below.refl _ w).alloc (Nat.le_refl _) _)
 have bO := Boxed.new w 28 (.slice a zs.length cap)
 have hcs := Tryz.compact_sort zs
 have hsl : (Tryz.sortL zs).length = zs.length := (List.mergeSort_perm zs _).length_eq
 refine callsIn_of_wp Tryz.func77 rfl h77 ?_ hro
 simp only [Tryz.ntmps77, List.size_toArray, List.length_cons, List.length_nil, Nat.reduceAdd, Nat.reduceSub, Array.replicate_succ, Array.replicate_zero, List.push_toArray, List.append_toArray, List.nil_append, List.cons_append]
 gi_wp2_with (first
  | (gi_at_call 115; refine (Tryz.values_in F (n - 1) h93 hro _ _ _ _).mono ?_; rintro e w' ⟨rfl, rfl⟩)
  | (gi_at_call 114; refine (Tryz.sorted_in F (n - 1) h92 h84 h102 h116 h103 hro (by omega) hsort w.heap.size w.heap.size _ zs hml (by omega) _ (by simp) (by simp) bO.cell (hI.below hB0)).mono ?_; rintro e W ⟨v, rfl, hrow, hnil, hb⟩))
 rcases hrow.2 with ⟨rfl, hz⟩ | ⟨gb, cap', cur, rfl, hbase, hgb, r1, r2, r3, r4⟩
 ·have hss : zs = [] := List.eq_nil_of_length_eq_zero hz;subst hss
  gi_wp2_with (gi_at_call 116; refine (hcomp.2 none 0 W).mono ?_; rintro e w' ⟨rfl, rfl⟩)
  go_ret
  exact ⟨rfl, hB0.trans (hb.mono (by simp))⟩
 ·have hH : Holds (Value.int .i64) W gb 0 (Tryz.sortL zs).toArray := holds_of_block_i hgb (by rw [hsl]; simpa [Tryz.sortL] using r4);have hsz : (Tryz.sortL zs).length <= 9223372036854775807 := by omega
  have cS := hcomp.1 gb 0 cap' (Tryz.sortL zs) W hH hsz (by omega);rw [hsl] at cS
  gi_wp2_with (gi_at_call 116; refine cS.mono ?_; rintro e w' ⟨rfl, q, rfl⟩)
  go_ret
  have hg : W.grownBy (putRow encZ (Sort.ahead W q) gb 0 (Lib.compact (Tryz.sortL zs) ++ List.replicate (zs.length - (Lib.compact (Tryz.sortL zs)).length) 0).toArray) (some gb) := by
   have := grownBy_sorted_i (w := W) (g := gb) (n := q) (os := #[]) (Lib.compact (Tryz.sortL zs) ++ List.replicate (zs.length - (Lib.compact (Tryz.sortL zs)).length) 0).toArray
   rwa [grow_empty] at this
  have hb1 : Below w.heap.size w W := hB0.trans (hb.mono (by simp));refine ⟨?_, hb1.grown hg hb1.size (fun j hj => by cases hj; simp at hbase; omega)⟩;show Ending.returned (.bool (((Lib.compact (Tryz.sortL zs)).length : Int) == (zs.length : Int))) = _
  congr 2
  by_cases hd : zs.Nodup
  ·rw [decide_eq_true hd, hcs.2 hd]; simp
  ·rw [decide_eq_false hd];exact beq_eq_false_iff_ne.2 fun h => hd (hcs.1 (by omega))
open Go.Sh in
theorem Tryz.ints_of {w : World} {l : List Int} {A : Option Addr} {c : Nat} (h : FlatOk w noLab none A c 1 (ints l)) : Tryz.Ints w.heap.size w (.slice A l.length c) l := by
 cases l with
 | nil => exact .inl ⟨rfl, A, c, rfl⟩
 | cons x l =>
  obtain ⟨a, rfl, _, h0⟩ := h.cell 0 [.i .i64 x] 0 (.i .i64 x) rfl rfl;refine .inr ⟨a, c, rfl, ?_, fun j hj => ?_⟩
  ·have h0 : w.cell? (a.add (0 * 1 + 0)) = some (Sc.val (.i .i64 x)) := h0;have e : (a.add (0 * 1 + 0)).block = a.block := Tryz.add_block a _;rw [<- e];generalize a.add (0 * 1 + 0) = p at h0
   simp only [World.cell?] at h0;by_cases hp : p.block < w.heap.size
   ·exact hp
   ·rw [Array.getElem?_eq_none (by omega)] at h0;simp at h0
  ·have hg := List.getElem?_eq_getElem hj;obtain ⟨b, hb, _, hc⟩ := h.cell j [.i .i64 (x :: l)[j]] 0 (.i .i64 (x :: l)[j]) (qhq hg) rfl;injection hb with hb
   subst hb;rw [Nat.mul_one, Nat.add_zero] at hc;rw [hc, hg]; rfl
end Go.Proofs
namespace Go.Sh
open Go.Proofs
theorem Unlike_ok : SoundC Tryz.prog T 77 UnlikeC := by
 refine sound_pure Tryz.func77 (by rfl) (by rfl) (by simp [UnlikeC, conP]) ?_
 intro vs r outs hF w us hus
 obtain ⟨l, hl, rfl, rfl⟩ := conF_inv (pre := fun l : List Int => l.length <= 1000000) (enc := fun l => [.one (.flat false 1 (ints l))]) (val := fun l => .one (.s (.b (decide l.Nodup)))) hF
 have hl : l.length <= 1000000 := hl
 obtain ⟨u, hu⟩ : ∃ u, us.toList = [u] /\ V1Ok w noLab 0 (.one (.flat false 1 (ints l))) u := by
  cases h : us.toList with
  | nil => rw [h] at hus; exact hus.elim
  | cons u r =>
   rw [h] at hus
   cases r with
   | nil => exact ⟨u, rfl, hus.1⟩
   | cons _ _ => exact hus.2.elim
 obtain ⟨he, ⟨x, hx, hF⟩⟩ := hu
 obtain rfl : us = #[u] := by cases us; simp_all
 subst hx
 rw [qiq]
 refine ((callsIn_wide (n := 6)).1 (Tryz.unlike_in Fence.wide 6 trivial trivial trivial trivial trivial trivial trivial trivial rfl (by omega) (Tryz.sortsIn _) (Tryz.compactsIn _) x.A x.c l hl w (Tryz.ints_of hF))).mono ?_
 rintro e w' ⟨rfl, hb⟩
 exact ⟨_, noLab, rfl, ⟨hb.os, .of hb.tape, hb.output, hb.size, fun b h _ => hb.block b h⟩, fun b k h => by simp [noLab] at h, ⟨⟨none, 0, fun _ => none, fun _ => 0⟩, rfl⟩⟩
end Go.Sh
namespace Go.Sh
open Go.Proofs Go.Sort Go.RowKit
theorem cell_at {w : World} {b : Nat} {arr : Array Value} {T : TypeId} {fr : Nat × Nat} (h : w.heap[b]? = some (.cells arr T fr)) (k : Nat) : w.cell? ⟨b, k, none⟩ = arr[k]? := by simp [World.cell?, h]
structure InBlock (w : World) (own : Nat -> Option Key) (key : Key) (A : Option Addr) (cap : Nat) (l : List Int) (b off : Nat) (arr : Array Value) (T : TypeId) : Prop where
 at_ : A = some ⟨b, off, none⟩
 own : own b = some key
 heap : w.heap[b]? = some (.cells arr T (0, 0))
 size : off + cap <= arr.size
 fits : l.length <= cap
 great : cap <= 9223372036854775807
 cell : ∀ (j : Nat) (x : Int), l[j]? = some x -> arr[off + j]? = some (.int .i64 x)
theorem InBlock.of {w : World} {own : Nat -> Option Key} {key : Key} {A : Option Addr} {cap : Nat} {l : List Int} (h : FlatOk w own (some key) A cap 1 (ints l)) (hne : cap ≠ 0) : ∃ b off arr T, InBlock w own key A cap l b off arr T := by
 rcases h.room rfl with h0 | ⟨b, off, arr, T, h1, h2, h3, h4⟩
 ·exact absurd h0.1 hne
 ·refine ⟨b, off, arr, T, h1, h2, h3, by omega, by have := h.fits; rw [qiq] at this; exact this, by omega, fun j x hj => ?_⟩;obtain ⟨a, ha, _, hc⟩ := h.cell j [.i .i64 x] 0 (.i .i64 x) (qhq hj) rfl;rw [h1] at ha;injection ha with ha
  subst ha;rw [Nat.mul_one, Nat.add_zero, Addr.add_plain, cell_at h3] at hc;exact hc
theorem InBlock.flat {w : World} {own : Nat -> Option Key} {key : Key} {A : Option Addr} {cap : Nat} {l : List Int} {b off : Nat} {arr : Array Value} {T : TypeId} (h : InBlock w own key A cap l b off arr T) : FlatOk w own (some key) A cap 1 (ints l) := {
 fits := by rw [qiq]; exact h.fits
 pos := by omega
 even := fun i row hi => by
  simp only [ints, List.getElem?_map, Option.map_eq_some_iff] at hi;obtain ⟨x, _, rfl⟩ := hi
  rfl
 cell := fun i row j x hi hj => by
  simp only [ints, List.getElem?_map, Option.map_eq_some_iff] at hi;obtain ⟨y, hy, rfl⟩ := hi;have : j = 0 := by
   apply Classical.byContradiction
   intro hn;rw [List.getElem?_eq_none (by simp; omega)] at hj; simp at hj
  subst this;simp at hj;subst hj;refine ⟨_, h.at_, h.own, ?_⟩;rw [Nat.mul_one, Nat.add_zero, Addr.add_plain, cell_at h.heap];exact h.cell i y hy
 room := fun _ => .inr ⟨b, off, arr, T, h.at_, h.own, h.heap, by have := h.size; omega, h.great⟩ }
theorem InBlock.holds {w : World} {own : Nat -> Option Key} {key : Key} {A : Option Addr} {cap : Nat} {l : List Int} {b off : Nat} {arr : Array Value} {T : TypeId} (h : InBlock w own key A cap l b off arr T) : Holds (Value.int .i64) w b off l.toArray := fun j hj => by
 have hj : j < l.length := by simpa using hj
 refine ⟨?_, by simp [World.frozen?, h.heap]⟩
 rw [cell_at h.heap, h.cell j l[j] (qEq hj)]
 simp [hj]
theorem InBlock.lt {w : World} {own : Nat -> Option Key} {key : Key} {A : Option Addr} {cap : Nat} {l : List Int} {b off : Nat} {arr : Array Value} {T : TypeId} (h : InBlock w own key A cap l b off arr T) : b < w.heap.size := by
 rcases Nat.lt_or_ge b w.heap.size with k | k
 ·exact k
 ·have := h.heap; simp [Array.getElem?_eq_none k] at this
theorem putCells_get (off : Nat) (d : List Int) (c : Array Value) (k : Nat) : (putCells (Value.int .i64) off d.toArray c)[k]? = (c[k]?).map fun x => if off <= k /\ k < off + d.length then .int .i64 (d[k - off]!) else x := by
 unfold putCells
 rw [Array.getElem?_mapIdx]
 simp
theorem InBlock.put {w w' : World} {own : Nat -> Option Key} {key : Key} {A : Option Addr} {cap : Nat} {l : List Int} {b off : Nat} {arr : Array Value} {T : TypeId} (h : InBlock w own key A cap l b off arr T) {q : Nat} {os : Array Obj} {d m : List Int} (hd : d.length <= cap) (hm : m <+: d)
  (hw : w' = grow (putRow (Value.int .i64) (Sort.ahead w q) b off d.toArray) os) : Frm (fun b => own b = some key) w w' /\ InBlock w' own key A cap m b off (putCells (Value.int .i64) off d.toArray arr) T := by
 subst hw
 have hb := h.lt
 have hheap : ∀ x, x < w.heap.size -> (grow (putRow (Value.int .i64) (Sort.ahead w q) b off d.toArray) os).heap[x]? = (w.heap[x]?).map fun o => if x = b then onCells (putCells (Value.int .i64) off d.toArray) o else o := fun x hx => by
  show ((w.heap.modify b (onCells (putCells (Value.int .i64) off d.toArray))) ++ os)[x]? = _
  rw [Array.getElem?_append_left (by simpa using hx), Array.getElem?_modify];by_cases e : b = x
  ·simp [e]
  ·have : ¬ x = b := fun h => e h.symm
   simp [e, this]
 refine ⟨⟨rfl, .of rfl, rfl, ?_, fun x hx hn => ?_⟩, ⟨h.at_, h.own, ?_, ?_, ?_, h.great, fun j x hj => ?_⟩⟩
 ·show w.heap.size <= ((w.heap.modify b _) ++ os).size
  simp
 ·rw [hheap x hx];have : x ≠ b := fun e => hn (by rw [e]; exact h.own)
  simp [this]
 ·rw [hheap b hb, h.heap]; simp [onCells]
 ·have := h.size; simpa [putCells] using this
 ·exact Nat.le_trans hm.length_le hd
 ·rw [putCells_get];have hjl := (qSq.1 hj).1;have hml := hm.length_le;have hs := h.size;rw [Array.getElem?_eq_getElem (show off + j < arr.size by omega), Option.map_some, if_pos ⟨by omega, by omega⟩];obtain ⟨t, rfl⟩ := hm;rw [show off + j - off = j by omega]
  congr 1
  have hx : (m ++ t)[j]? = some x := by rw [qLq hjl]; exact hj
  have hlt := (qSq.1 hx).1;rw [getElem!_pos _ j hlt];rw [qEq hlt] at hx;injection hx with hx
  rw [hx]
theorem ahead_own {w w' : World} {own : Nat -> Option Key} {key : Key} {A : Option Addr} {cap : Nat} {l : List Int} {b off : Nat} {arr : Array Value} {T : TypeId} (h : InBlock w' own key A cap l b off arr T) (hb : b < w.heap.size) : FlatOk w' (fun b => if w.heap.size <= b then (if b < w'.heap.size then some key else none) else own b) (some key) A cap 1 (ints l) := by
 refine InBlock.flat (b := b) (off := off) (arr := arr) (T := T) ⟨h.at_, ?_, h.heap, h.size, h.fits, h.great, h.cell⟩
 show (if w.heap.size <= b then _ else _) = _
 rw [if_neg (by omega)]
 exact h.own
theorem flat_empty {w w' : World} {own : Nat -> Option Key} {key : Key} {A : Option Addr} {cap : Nat} {l : List Int} (h : FlatOk w own (some key) A cap 1 (ints l)) (hw : w' = w \/ w'.heap = w.heap) : FlatOk w' (fun b => if w.heap.size <= b then (if b < w'.heap.size then some key else none) else own b) (some key) A cap 1 (ints l) := by
 have hh : w'.heap = w.heap := by rcases hw with rfl | h; · rfl
                                  ·exact h
 refine h.mono id fun b hb ho => ⟨?_, by rw [hh]⟩
 show (if w.heap.size <= b then _ else _) = _
 rw [if_neg (by omega)]
 exact ho
theorem fn_ok {P : Program} {f : Nat} {fn : Func} (h : P.funcs[f]? = some fn) (h1 : (fn.name == "runtime.NumGoroutine") = false) (h2 : fn.body.isSome = true) : ∃ fn, P.funcs[f]? = some fn /\ fn.name ≠ "runtime.NumGoroutine" /\ fn.body ≠ none :=
 ⟨fn, h, by simpa using h1, fun h => by rw [h] at h2; simp at h2⟩
theorem Sort_row : RowCall Tryz.prog 81 (fun l => l.length <= 1000000) sortI := by
 refine ⟨fn_ok Tryz.func81 (by rfl) (by rfl), fun l => (List.mergeSort_perm l _).length_eq, fun l hl w own key A cap h => ?_⟩
 by_cases hc : cap = 0
 ·have h0 := h.fits;rw [qiq, hc] at h0;have : l = [] := List.eq_nil_of_length_eq_zero (by omega);subst this;refine (Any.slices_Sort_int_none Tryz.laysSort A cap w).mono ?_;rintro e w' ⟨rfl, rfl⟩;exact ⟨rfl, Frm.refl _ _, by simpa [sortI] using h⟩
 ·obtain ⟨b, off, arr, T, hb⟩ := InBlock.of h hc;have hA := hb.at_;subst hA;refine (Any.slices_Sort_int Tryz.laysSort b off cap l w hb.holds hb.lt (by omega)).mono ?_;rintro e w' ⟨rfl, n, os, hw⟩;obtain ⟨h1, h2⟩ := hb.put (q := n) (os := os) (d := sortI l) (m := sortI l) (by rw [sortI, (List.mergeSort_perm l _).length_eq]; exact hb.fits) (List.prefix_refl _) hw;exact ⟨rfl, h1, h2.flat⟩
theorem erase_at {l : List Int} {x : Int} (hs : l.Pairwise (· <= ·)) (hx : x ∈ l) : l.countP (· < x) < l.length /\ l.take (l.countP (· < x)) ++ l.drop (l.countP (· < x) + 1) = l.erase x := by
 induction l with
 | nil => simp at hx
 | cons a l ih =>
  rw [List.pairwise_cons] at hs;by_cases ha : a = x
  ·subst ha;have h0 : l.countP (· < a) = 0 := List.countP_eq_zero.2 fun y hy => by have := hs.1 y hy; simp; omega
   rw [List.countP_cons, h0];simp
  ·have hm : x ∈ l := (List.mem_cons.1 hx).elim (fun h => absurd h.symm ha) id;have hlt : a < x := by have := hs.1 x hm; omega
   obtain ⟨h1, h2⟩ := ih hs.2 hm;rw [List.countP_cons, if_pos (by simpa using hlt), List.take_succ_cons, List.drop_succ_cons, List.erase_cons_tail (by simpa using ha), List.cons_append, h2];exact ⟨by simp; omega, rfl⟩
theorem search_empty (A : Option Addr) (c : Nat) (x : Int) (w : World) : Calls Tryz.prog 82 #[.slice A 0 c, .int .i64 x] w fun e w' => e = .returned (.tuple #[.int .i64 0, .bool false]) /\ w' = w :=
 Any.slices_BinarySearch_int_empty Tryz.laysSearch A c x w
theorem search_row (b off n c : Nat) (zs : List Int) (x : Int) (w : World) (hz : n <= zs.length) (hbig : n < 4611686018427387904) (hc : ∀ j, j < zs.length -> w.cell? ⟨b, off + j, none⟩ = some (.int .i64 (zs.getD j 0))) (hs : (zs.take n).Pairwise (· <= ·)) :
  Calls Tryz.prog 82 #[.slice (some ⟨b, off, none⟩) n c, .int .i64 x] w fun e w' => e = .returned (.tuple #[.int .i64 ((zs.take n).countP (· < x) : Nat), .bool ((zs.take n).contains x)]) /\ ∃ q, w' = w.drewN q :=
 Any.slices_BinarySearch_int Tryz.laysSearch b off n c zs x w hz hbig hc hs
theorem delete_row (blk off cap i j : Nat) (zs : List Int) (w : World) (hH : Holds (Value.int .i64) w blk off zs.toArray) (hcap : zs.length <= cap) (hm : cap <= 9223372036854775807) (hij : i <= j) (hj : j <= zs.length) :
  Calls Tryz.prog 142 #[.slice (some ⟨blk, off, none⟩) zs.length cap, .int .i64 i, .int .i64 j] w fun e w' => e = .returned (.slice (some ⟨blk, off, none⟩) (zs.length - (j - i)) cap) /\ ∃ q, w' = putRow (Value.int .i64) (Sort.ahead w q) blk off (zs.take i ++ zs.drop j ++ List.replicate (j - i) 0).toArray :=
 Any.slices_Delete_int Tryz.laysDelete blk off cap i j zs w hH hcap hm hij hj
attribute [local go_sem] Oper.semAt_some
set_option maxRecDepth 100000 in
set_option maxHeartbeats 2000000 in
theorem Without_call : FlatCall Tryz.prog 125 (fun l _ => l.Pairwise (· <= ·) /\ l.length <= 1000000) (fun l x => l.erase x) := by
 refine ⟨fn_ok Tryz.func125 (by rfl) (by rfl), fun l x hl w own key A cap h => ?_⟩
 obtain ⟨hs, hlen⟩ := hl
 have hfa : Fence.wide.fn 82 := trivial
 have hfb : Fence.wide.fn 142 := trivial
 refine (callsIn_wide (n := 6)).1 ?_
 refine callsIn_of_wp Tryz.func125 rfl trivial ?_ rfl
 simp only [Tryz.ntmps125, List.size_toArray, List.length_cons, List.length_nil, Nat.reduceAdd, Nat.reduceSub, Array.replicate_succ, Array.replicate_zero, List.push_toArray, List.append_toArray, List.nil_append, List.cons_append]
 by_cases hc : cap = 0
 ·have h0 := h.fits;rw [qiq, hc] at h0;have : l = [] := List.eq_nil_of_length_eq_zero (by omega);subst this;subst hc
  gi_wp2_with (gi_at_call 82; refine (callsIn_wide.2 (search_empty A 0 x w)).mono ?_; rintro e w' ⟨rfl, rfl⟩)
  go_ret
  exact ⟨A, 0, rfl, Frm.refl _ _, flat_empty h (.inl rfl)⟩
 ·obtain ⟨b, off, arr, T, hb⟩ := InBlock.of h hc;have hA := hb.at_;subst hA;have hcell : ∀ j, j < l.length -> w.cell? ⟨b, off + j, none⟩ = some (.int .i64 (l.getD j 0)) := fun j hj => by
   rw [cell_at hb.heap, hb.cell j l[j] (qEq hj), qDq, qEq hj]; rfl
  have hT : l.take l.length = l := List.take_length;have hSearch := search_row b off l.length cap l x w (Nat.le_refl _) (by omega) hcell (by rw [hT]; exact hs);rw [hT] at hSearch;by_cases hx : x ∈ l
  ·have hct : l.contains x = true := by simpa using hx
   rw [hct] at hSearch;obtain ⟨e1, e2⟩ := erase_at hs hx;generalize hi : l.countP (· < x) = i at *
   have hfit := hb.fits;have hcm := hb.great;have hD : ∀ q, Calls Tryz.prog 142 #[.slice (some ⟨b, off, none⟩) l.length cap, .int .i64 i, .int .i64 ((i : Int) + 1)] (w.drewN q) fun e w' => e = .returned (.slice (some ⟨b, off, none⟩) (l.length - 1) cap) /\ ∃ q', w' = putRow (Value.int .i64) (Sort.ahead (w.drewN q) q') b off (l.take i ++ l.drop (i + 1) ++ List.replicate 1 0).toArray := fun q => by
    have := delete_row b off cap i (i + 1) l (w.drewN q) (fun j hj => hb.holds j hj) hfit hcm (by omega) (by omega);simpa using this
   gi_wp2_with (first
    | (gi_at_call 82; refine (callsIn_wide.2 hSearch).mono ?_; rintro e w' ⟨rfl, q, rfl⟩)
    | (gi_at_call 142; refine (callsIn_wide.2 (hD _)).mono ?_; rintro e w' ⟨rfl, q', rfl⟩))
   go_ret
   have hle : (l.erase x).length = l.length - 1 := List.length_erase_of_mem hx;have hw : putRow (Value.int .i64) (Sort.ahead (w.drewN q) q') b off (l.erase x ++ [0]).toArray = grow (putRow (Value.int .i64) (Sort.ahead w (q + q')) b off (l.erase x ++ [0]).toArray) #[] := by
    simp [grow, putRow, mapBlock, Sort.ahead, World.drewN, Nat.add_assoc]
   obtain ⟨h1, h2⟩ := hb.put (d := l.erase x ++ [0]) (m := l.erase x) (by simp; omega) (List.prefix_append _ _) hw;exact ⟨some ⟨b, off, none⟩, cap, by rw [hle]; rfl, h1, ahead_own h2 hb.lt⟩
  ·have hct : l.contains x = false := by simpa using hx
   rw [hct] at hSearch
   gi_wp2_with (gi_at_call 82; refine (callsIn_wide.2 hSearch).mono ?_; rintro e w' ⟨rfl, q, rfl⟩)
   go_ret
   refine ⟨some ⟨b, off, none⟩, cap, ?_, ⟨rfl, .of rfl, rfl, Nat.le_refl _, fun _ _ _ => rfl⟩, ?_⟩
   ·rw [List.erase_of_not_mem hx]; rfl
   ·rw [List.erase_of_not_mem hx];exact flat_empty h (.inr rfl)
def insAt (l : List Int) (x : Int) : List Int := l.take (l.countP (· < x)) ++ x :: l.drop (l.countP (· < x))
theorem insAt_length (l : List Int) (x : Int) : (insAt l x).length = l.length + 1 := by
 have := List.countP_le_length (p := fun y => decide (y < x)) (l := l)
 simp [insAt]; omega
theorem heap_setCells (b : Nat) : ∀ (vs : List Value) (o : Nat) (w : World) (arr : Array Value) (T : TypeId) (fr : Nat × Nat), w.heap[b]? = some (.cells arr T fr) -> o + vs.length <= arr.size ->
  ∃ arr', (w.setCells b o vs).heap[b]? = some (.cells arr' T fr) /\ arr'.size = arr.size /\ (∀ k, arr'[k]? = if o <= k /\ k < o + vs.length then vs[k - o]? else arr[k]?) /\ (∀ x, x ≠ b -> (w.setCells b o vs).heap[x]? = w.heap[x]?) /\
   (w.setCells b o vs).heap.size = w.heap.size /\ (w.setCells b o vs).os = w.os /\ (w.setCells b o vs).tape = w.tape /\ (w.setCells b o vs).output = w.output := by
 intro vs
 induction vs with
 | nil => intro o w arr T fr h _; exact ⟨arr, h, rfl, fun k => by rw [if_neg (by intro h; have h2 := h.2; simp at h2; omega)], fun _ _ => rfl, rfl, rfl, rfl, rfl⟩
 | cons v vs ih =>
  intro o w arr T fr h hs;have hs : o + (vs.length + 1) <= arr.size := hs;have h1 : (w.setCell ⟨b, o, none⟩ v).heap[b]? = some (.cells (arr.setIfInBounds o v) T fr) := by
   rw [setCell_eq];simp [mapBlock, Array.getElem?_modify, h, onCells]
  obtain ⟨arr', k1, k2, k3, k4, k5, k6, k7, k8⟩ := ih (o + 1) (w.setCell ⟨b, o, none⟩ v) _ T fr h1 (by simp; omega);refine ⟨arr', k1, by rw [k2]; simp, fun k => ?_, fun x hx => ?_, ?_, ?_, ?_, ?_⟩
  ·rw [k3];by_cases e : k = o
   ·subst e;rw [if_neg (by omega), if_pos (by simp), Nat.sub_self, Array.getElem?_setIfInBounds, if_pos rfl, if_pos (by omega)];simp
   ·by_cases hk : o + 1 <= k /\ k < o + 1 + vs.length
    ·rw [if_pos hk, if_pos (by simp; omega), show k - o = (k - (o + 1)) + 1 by omega]; rfl
    ·rw [if_neg hk, if_neg (by simp; omega), Array.getElem?_setIfInBounds, if_neg (fun h => e h.symm)]
  ·rw [show w.setCells b o (v :: vs) = (w.setCell ⟨b, o, none⟩ v).setCells b (o + 1) vs from rfl, k4 x hx, setCell_eq];show (w.heap.modify b _)[x]? = _
   rw [Array.getElem?_modify, if_neg (fun h => hx h.symm)]
  ·rw [show w.setCells b o (v :: vs) = (w.setCell ⟨b, o, none⟩ v).setCells b (o + 1) vs from rfl, k5, setCell_eq];show (w.heap.modify b _).size = _
   simp
  ·rw [show w.setCells b o (v :: vs) = (w.setCell ⟨b, o, none⟩ v).setCells b (o + 1) vs from rfl, k6, setCell_eq]; rfl
  ·rw [show w.setCells b o (v :: vs) = (w.setCell ⟨b, o, none⟩ v).setCells b (o + 1) vs from rfl, k7, setCell_eq]; rfl
  ·rw [show w.setCells b o (v :: vs) = (w.setCell ⟨b, o, none⟩ v).setCells b (o + 1) vs from rfl, k8, setCell_eq]; rfl
theorem vals_get {l : List Int} {j : Nat} {v : Value} (h : (l.map (Value.int .i64))[j]? = some v) : ∃ x, l[j]? = some x /\ v = .int .i64 x := by
 rw [List.getElem?_map, Option.map_eq_some_iff] at h
 obtain ⟨x, h1, h2⟩ := h
 exact ⟨x, h1, h2.symm⟩
theorem vals_one' (l : List Int) : ∀ v ∈ l.map (Value.int .i64), v.oneCell' = true := fun v hv => by
 obtain ⟨x, _, rfl⟩ := List.mem_map.1 hv
 rfl
theorem ins_shift (b off n c i vb voff m vc : Nat) (cs vs : List Value) (w : World) (hi : i < n) (hm : 0 < m) (hroom : n + m <= c) (hc63 : c <= 9223372036854775807) (hvb : vb ≠ b)
  (hcl : cs.length = n) (hvl : vs.length = m)
  (hcs : ∀ j v, cs[j]? = some v -> w.cell? ⟨b, off + j, none⟩ = some v) (hsp : ∀ j, j < n + m -> (w.cell? ⟨b, off + j, none⟩).isSome = true) (hfz : ∀ j, j < n + m -> w.frozen? ⟨b, off + j, none⟩ = false)
  (hvs : ∀ j v, vs[j]? = some v -> w.cell? ⟨vb, voff + j, none⟩ = some v) (h1c : ∀ v ∈ cs, v.oneCell' = true) (h1v : ∀ v ∈ vs, v.oneCell' = true)
  (tA tB : TypeId) (kA kB : Nat) (hsa : w.shape? vb = some (tA, kA)) (hsb : w.shape? b = some (tB, kB)) (hkB : kB ≠ 0) (hfa : w.frozen? ⟨vb, voff, none⟩ = false) (hfe : w.frozen? ⟨vb, kA, none⟩ = false) :
  Calls Tryz.prog 143 #[.slice (some ⟨b, off, none⟩) n c, .int .i64 i, .slice (some ⟨vb, voff, none⟩) m vc] w fun e w' =>
   e = .returned (.slice (some ⟨b, off, none⟩) (n + m) c) /\ w' = (w.drew.setCells b (off + (i + m)) (cs.drop i)).setCells b (off + i) vs :=
 Any2.slices_Insert_int_shift Tryz.laysInsert b off n c i vb voff m vc cs vs w hi hm hroom hc63 hvb hcl hvl hcs hsp hfz hvs h1c h1v tA tB kA kB hsa hsb hkB hfa hfe
theorem ins_end (b off n c vb voff m vc : Nat) (vs : List Value) (w : World) (hm : 0 < m) (hroom : n + m <= c) (hc63 : c <= 9223372036854775807)
  (hvl : vs.length = m) (hsp : ∀ j, j < m -> (w.cell? ⟨b, off + n + j, none⟩).isSome = true) (hfz : ∀ j, j < m -> w.frozen? ⟨b, off + n + j, none⟩ = false)
  (hvs : ∀ j v, vs[j]? = some v -> w.cell? ⟨vb, voff + j, none⟩ = some v) (h1v : ∀ v ∈ vs, v.oneCell' = true) :
  Calls Tryz.prog 143 #[.slice (some ⟨b, off, none⟩) n c, .int .i64 n, .slice (some ⟨vb, voff, none⟩) m vc] w fun e w' =>
   e = .returned (.slice (some ⟨b, off, none⟩) (n + m) c) /\ w' = w.setCells b (off + n) vs :=
 Any2.slices_Insert_int_end_room Tryz.laysInsert b off n c vb voff m vc vs w hm hroom hc63 hvl hsp hfz hvs h1v
theorem ins_end_grow (base : Option Addr) (n c vb voff m vc : Nat) (cs vs : List Value) (w : World) (hm : 0 < m) (hnc : n <= c) (hroom : c < n + m) (hbig : (n + m) * 8 <= 140737488355328)
  (hcl : cs.length = n) (hvl : vs.length = m) (hnil : base = none -> n = 0)
  (hcs : ∀ a, base = some a -> ∀ j v, cs[j]? = some v -> w.cell? (a.add j) = some v)
  (hvs : ∀ j v, vs[j]? = some v -> w.cell? ⟨vb, voff + j, none⟩ = some v) (h1v : ∀ v ∈ vs, v.oneCell' = true) :
  Calls Tryz.prog 143 #[.slice base n c, .int .i64 n, .slice (some ⟨vb, voff, none⟩) m vc] w fun e w' =>
   e = .returned (.slice (some ⟨w.heap.size, 0, none⟩) (n + m) (grownCap w (n + m) c 3)) /\
   w' = w.drew.alloc (.cells ((cs ++ vs).toArray ++ Builtin.zeroCells (Value.int .i64 0).cells (grownCap w (n + m) c 3 - (n + m))) 3) :=
 Any2.slices_Insert_int_end_grow Tryz.laysInsert base n c vb voff m vc cs vs w hm hnc hroom hbig hcl hvl hnil hcs hvs h1v
theorem ins_grow (b off n c i vb voff m vc : Nat) (cs vs : List Value) (w : World) (hi : i < n) (hm : 0 < m) (hnc : n <= c) (hroom : c < n + m) (hbig : (n + m) * 8 <= 140737488355328)
  (hcl : cs.length = n) (hvl : vs.length = m)
  (hcs : ∀ j v, cs[j]? = some v -> w.cell? ⟨b, off + j, none⟩ = some v)
  (hvs : ∀ j v, vs[j]? = some v -> w.cell? ⟨vb, voff + j, none⟩ = some v) (h1c : ∀ v ∈ cs, v.oneCell' = true) (h1v : ∀ v ∈ vs, v.oneCell' = true) :
  Calls Tryz.prog 143 #[.slice (some ⟨b, off, none⟩) n c, .int .i64 i, .slice (some ⟨vb, voff, none⟩) m vc] w fun e w' =>
   e = .returned (.slice (some ⟨w.heap.size, 0, none⟩) (n + m) (grownCap w (n + m) c 3)) /\
   w' = (((w.alloc (.cells ((cs.take i).toArray ++ Builtin.zeroCells (Value.int .i64 0).cells (n + m - i) ++ Builtin.zeroCells (Value.int .i64 0).cells (grownCap w (n + m) c 3 - (n + m))) 3)).drew.setCells w.heap.size i vs).drew).setCells w.heap.size (i + m) (cs.drop i) :=
 Any2.slices_Insert_int_grow Tryz.laysInsert b off n c i vb voff m vc cs vs w hi hm hnc hroom hbig hcl hvl hcs hvs h1c h1v
theorem insAt_get {l : List Int} {x : Int} {i j : Nat} {y : Int} (hi : l.countP (· < x) = i) (h : (insAt l x)[j]? = some y) : (j < i /\ l[j]? = some y) \/ (j = i /\ y = x) \/ (i < j /\ l[j - 1]? = some y) := by
 have hle := List.countP_le_length (p := fun y => decide (y < x)) (l := l)
 unfold insAt at h
 rw [hi] at h hle
 have htl : (l.take i).length = i := by rw [List.length_take]; omega
 by_cases h1 : j < i
 ·rw [qLq (by omega), List.getElem?_take, if_pos h1] at h;exact .inl ⟨h1, h⟩
 ·rw [qRq (by omega), htl] at h;by_cases h2 : j = i
  ·subst h2;rw [Nat.sub_self] at h;simp at h;exact .inr (.inl ⟨rfl, h.symm⟩)
  ·rw [show j - i = (j - i - 1) + 1 by omega, List.getElem?_cons_succ, List.getElem?_drop] at h;exact .inr (.inr ⟨by omega, by rw [show j - 1 = i + (j - i - 1) by omega]; exact h⟩)
theorem insert_row (own : Nat -> Option Key) (key : Key) (A : Option Addr) (cap : Nat) (l : List Int) (x : Int) (w : World) (vb : Nat) (Tv : TypeId) (h : FlatOk w own (some key) A cap 1 (ints l)) (hlen : l.length <= 1000000)
  (hvb : w.heap[vb]? = some (.cells #[.int .i64 x] Tv (0, 0))) (hno : own vb ≠ some key) {i : Nat} (hi : l.countP (· < x) = i) :
  Calls Tryz.prog 143 #[.slice A l.length cap, .int .i64 i, .slice (some ⟨vb, 0, none⟩) 1 1] w fun e w' => ∃ A' cap', e = .returned (.slice A' (l.length + 1) cap') /\ Frm (fun b => own b = some key) w w' /\
   FlatOk w' (fun b => if w.heap.size <= b then (if b < w'.heap.size then some key else none) else own b) (some key) A' cap' 1 (ints (insAt l x)) := by
 have hle := List.countP_le_length (p := fun y => decide (y < x)) (l := l)
 rw [hi] at hle
 have hvs : ∀ j v, [Value.int .i64 x][j]? = some v -> w.cell? ⟨vb, 0 + j, none⟩ = some v := fun j v hj => by
  rw [cell_at hvb, Nat.zero_add];have : j = 0 := by
   apply Classical.byContradiction
   intro hn;rw [List.getElem?_eq_none (by simp; omega)] at hj; simp at hj
  subst this;simpa using hj
 have h1v : ∀ v ∈ [Value.int .i64 x], v.oneCell' = true := fun v hv => by simp at hv; subst hv; rfl
 have hvf : ∀ k, w.frozen? ⟨vb, k, none⟩ = false := fun k => by simp [World.frozen?, hvb]
 by_cases hn : i = l.length
 ·by_cases hroom : l.length + 1 <= cap
  ·obtain ⟨b, off, arr, T, hb⟩ := InBlock.of h (by omega);have hA := hb.at_;subst hA;have hsz := hb.size;rw [hn];refine (ins_end b off l.length cap vb 0 1 1 [.int .i64 x] w (by omega) hroom hb.great rfl (fun j hj => ?_) (fun j hj => by simp [World.frozen?, hb.heap]) hvs h1v).mono ?_
   ·rw [cell_at hb.heap, Array.getElem?_eq_getElem (by omega)]; rfl
   ·rintro e w' ⟨rfl, rfl⟩;obtain ⟨arr', k1, k2, k3, k4, k5, k6, k7, k8⟩ := heap_setCells b [.int .i64 x] (off + l.length) w arr T (0, 0) hb.heap (by simp; omega);refine ⟨_, cap, rfl, ⟨k6, .of k7, k8, by omega, fun y hy hn => k4 y fun e => hn (by rw [e]; exact hb.own)⟩, ahead_own (b := b) (off := off) (arr := arr') (T := T) ⟨rfl, hb.own, k1, by omega, by rw [insAt_length]; exact hroom, hb.great, fun j y hj => ?_⟩ hb.lt⟩;rw [k3];rcases insAt_get hi hj with ⟨h1, h2⟩ | ⟨h1, h2⟩ | ⟨h1, h2⟩
    ·rw [if_neg (by simp; omega)]; exact hb.cell j y h2
    ·rw [if_pos (by simp; omega), h2, show off + j - (off + l.length) = 0 by omega]; rfl
    ·have := (qSq.1 h2).1; omega
  ·have hfit := h.fits;rw [qiq] at hfit;have hge := grownCap_ge w (l.length + 1) cap 3;have hgm := grownCap_le_maxLen w (l.length + 1) cap 3 (by unfold maxLen; omega);unfold maxLen at hgm;rw [hn];refine (ins_end_grow A l.length cap vb 0 1 1 (l.map (Value.int .i64)) [.int .i64 x] w (by omega) hfit (by omega) (by omega) (by simp) rfl (fun e => ?_) (fun a ha j v hj => ?_) hvs h1v).mono ?_
   ·by_cases hc : cap = 0
    ·omega
    ·obtain ⟨b, off, arr, T, hb⟩ := InBlock.of h hc;have := hb.at_;rw [e] at this; simp at this
   ·obtain ⟨y, hy, rfl⟩ := vals_get hj;have hjl := (qSq.1 hy).1;obtain ⟨b, off, arr, T, hb⟩ := InBlock.of h (by omega);have hA := hb.at_;rw [ha] at hA;injection hA with hA
    subst hA;rw [Addr.add_plain, cell_at hb.heap];exact hb.cell j y hy
   ·rintro e w' ⟨rfl, rfl⟩;have hz : (Builtin.zeroCells (Value.int .i64 0).cells (grownCap w (l.length + 1) cap 3 - (l.length + 1))).size = grownCap w (l.length + 1) cap 3 - (l.length + 1) := by rw [zeroCells_eq]; simp [Value.cells]
    refine ⟨_, _, rfl, ⟨rfl, .of rfl, rfl, ?_, fun y hy _ => heap_alloc_lt w.drew _ hy⟩, InBlock.flat (b := w.heap.size) (off := 0) (T := 3) ⟨rfl, ?_, heap_alloc_at w.drew _, ?_, by rw [insAt_length]; exact hge, by omega, fun j y hj => ?_⟩⟩
    ·show w.heap.size <= (w.heap.push _).size
     simp
    ·show (if w.heap.size <= w.heap.size then (if w.heap.size < (w.heap.push _).size then some key else none) else own w.heap.size) = some key
     rw [if_pos (Nat.le_refl _), if_pos (by simp)]
    ·rw [Array.size_append, hz]; simp; omega
    ·have hjl := (qSq.1 hj).1;rw [insAt_length] at hjl;rw [Nat.zero_add, Array.getElem?_append_left (by simp; omega), List.getElem?_toArray];rcases insAt_get hi hj with ⟨h1, h2⟩ | ⟨h1, h2⟩ | ⟨h1, h2⟩
     ·rw [qLq (by simp; omega), List.getElem?_map, h2]; rfl
     ·rw [qRq (by simp; omega), h2, show j - (l.map (Value.int .i64)).length = 0 by simp; omega]; rfl
     ·have := (qSq.1 h2).1; omega
 ·have hlt : i < l.length := by omega
  have hfit := h.fits;rw [qiq] at hfit;obtain ⟨b, off, arr, T, hb⟩ := InBlock.of h (by omega);have hA := hb.at_;subst hA;have hsz := hb.size;have hne : vb ≠ b := fun e => hno (by rw [e]; exact hb.own)
  have hcs : ∀ j v, (l.map (Value.int .i64))[j]? = some v -> w.cell? ⟨b, off + j, none⟩ = some v := fun j v hj => by
   obtain ⟨y, hy, rfl⟩ := vals_get hj;rw [cell_at hb.heap]; exact hb.cell j y hy
  by_cases hroom : l.length + 1 <= cap
  ·refine (ins_shift b off l.length cap i vb 0 1 1 (l.map (Value.int .i64)) [.int .i64 x] w hlt (by omega) hroom hb.great hne (by simp) rfl hcs (fun j hj => ?_) (fun j hj => by simp [World.frozen?, hb.heap]) hvs (vals_one' l) h1v Tv T 1 arr.size (by simp [World.shape?, hvb]) (by simp [World.shape?, hb.heap]) (by omega) (hvf _) (hvf _)).mono ?_
   ·rw [cell_at hb.heap, Array.getElem?_eq_getElem (by omega)]; rfl
   ·rintro e w' ⟨rfl, rfl⟩;have hdl : ((l.map (Value.int .i64)).drop i).length = l.length - i := by simp
    obtain ⟨arr1, p1, p2, p3, p4, p5, p6, p7, p8⟩ := heap_setCells b ((l.map (Value.int .i64)).drop i) (off + (i + 1)) w.drew arr T (0, 0) hb.heap (by rw [hdl]; omega);obtain ⟨arr', k1, k2, k3, k4, k5, k6, k7, k8⟩ := heap_setCells b [.int .i64 x] (off + i) _ arr1 T (0, 0) p1 (by simp; omega);refine ⟨_, cap, rfl, ⟨k6.trans p6, .of (k7.trans p7), k8.trans p8, by rw [k5, p5]; exact Nat.le_refl _, fun y hy hn => (k4 y fun e => hn (by rw [e]; exact hb.own)).trans (p4 y fun e => hn (by rw [e]; exact hb.own))⟩, ahead_own (b := b) (off := off) (arr := arr') (T := T) ⟨rfl, hb.own, k1, by omega, by rw [insAt_length]; exact hroom, hb.great, fun j y hj => ?_⟩ hb.lt⟩;rw [k3];rcases insAt_get hi hj with ⟨h1, h2⟩ | ⟨h1, h2⟩ | ⟨h1, h2⟩
    ·rw [if_neg (by simp; omega), p3, if_neg (by rw [hdl]; omega)]; exact hb.cell j y h2
    ·rw [if_pos (by simp; omega), h2, show off + j - (off + i) = 0 by omega]; rfl
    ·have hjl := (qSq.1 h2).1;rw [if_neg (by simp; omega), p3, if_pos (by rw [hdl]; omega), List.getElem?_drop, List.getElem?_map, show i + (off + j - (off + (i + 1))) = j - 1 by omega, h2]; rfl
  ·have hge := grownCap_ge w (l.length + 1) cap 3;have hgm := grownCap_le_maxLen w (l.length + 1) cap 3 (by unfold maxLen; omega);unfold maxLen at hgm;refine (ins_grow b off l.length cap i vb 0 1 1 (l.map (Value.int .i64)) [.int .i64 x] w hlt (by omega) hfit (by omega) (by omega) (by simp) rfl hcs hvs (vals_one' l) h1v).mono ?_;rintro e w' ⟨rfl, rfl⟩;have hz : ∀ m, (Builtin.zeroCells (Value.int .i64 0).cells m).size = m := fun m => by rw [zeroCells_eq]; simp [Value.cells]
   have hdl : ((l.map (Value.int .i64)).drop i).length = l.length - i := by simp
   generalize hROW : ((l.map (Value.int .i64)).take i).toArray ++ Builtin.zeroCells (Value.int .i64 0).cells (l.length + 1 - i) ++ Builtin.zeroCells (Value.int .i64 0).cells (grownCap w (l.length + 1) cap 3 - (l.length + 1)) = ROW
   have hRs : ROW.size = grownCap w (l.length + 1) cap 3 := by rw [<- hROW, Array.size_append, Array.size_append, hz, hz]; simp; omega
   have hRg : ∀ j y, j < i -> l[j]? = some y -> ROW[j]? = some (.int .i64 y) := fun j y hj hy => by
    rw [<- hROW, Array.getElem?_append_left (by rw [Array.size_append, hz]; simp; omega), Array.getElem?_append_left (by simp; omega), List.getElem?_toArray, List.getElem?_take, if_pos hj, List.getElem?_map, hy]; rfl
   obtain ⟨arr1, p1, p2, p3, p4, p5, p6, p7, p8⟩ := heap_setCells w.heap.size [.int .i64 x] i (w.alloc (.cells ROW 3)).drew ROW 3 (0, 0) (heap_alloc_at w _) (by simp; omega);obtain ⟨arr', k1, k2, k3, k4, k5, k6, k7, k8⟩ := heap_setCells w.heap.size ((l.map (Value.int .i64)).drop i) (i + 1) (((w.alloc (.cells ROW 3)).drew.setCells w.heap.size i [.int .i64 x]).drew) arr1 3 (0, 0) p1 (by rw [hdl]; omega);have hal : (w.alloc (.cells ROW 3)).heap.size = w.heap.size + 1 := by show (w.heap.push _).size = _; simp
   refine ⟨_, _, rfl, ⟨k6.trans p6, .of (k7.trans p7), k8.trans p8, ?_, fun y hy hn => ?_⟩, InBlock.flat (b := w.heap.size) (off := 0) (arr := arr') (T := 3) ⟨rfl, ?_, k1, by omega, by rw [insAt_length]; exact hge, by omega, fun j y hj => ?_⟩⟩
   ·have e1 : _ = (w.alloc (.cells ROW 3)).heap.size := k5.trans p5;rw [e1, hal]; omega
   ·have hne2 : y ≠ w.heap.size := by omega
    exact (k4 y hne2).trans ((p4 y hne2).trans (heap_alloc_lt w _ hy))
   ·have e1 : _ = (w.alloc (.cells ROW 3)).heap.size := k5.trans p5;show (if w.heap.size <= w.heap.size then (if w.heap.size < _ then some key else none) else own w.heap.size) = some key
    rw [if_pos (Nat.le_refl _), if_pos (by rw [e1, hal]; omega)]
   ·rw [Nat.zero_add, k3];rcases insAt_get hi hj with ⟨h1, h2⟩ | ⟨h1, h2⟩ | ⟨h1, h2⟩
    ·rw [if_neg (by omega), p3, if_neg (by simp; omega)]; exact hRg j y h1 h2
    ·rw [if_neg (by omega), p3, if_pos (by simp; omega), h2, show j - i = 0 by omega]; rfl
    ·have hjl := (qSq.1 h2).1;rw [if_pos (by rw [hdl]; omega), List.getElem?_drop, List.getElem?_map, show i + (j - (i + 1)) = j - 1 by omega, h2]; rfl
theorem alloc_flat {w : World} {own : Nat -> Option Key} {key : Option Key} {A : Option Addr} {cap sz : Nat} {rows : Flat} (o : Obj) (h : FlatOk w own key A cap sz rows) : FlatOk (w.alloc o) own key A cap sz rows :=
 h.mono id fun b hb ho => ⟨ho, heap_alloc_lt w o hb⟩
theorem own_none_of {w : World} {own : Nat -> Option Key} (key : Key) : ∃ own' : Nat -> Option Key, (∀ b, b < w.heap.size -> own' b = own b) /\ ∀ b, w.heap.size <= b -> own' b = none := ⟨fun b => if b < w.heap.size then own b else none, fun b hb => if_pos hb, fun b hb => if_neg (by omega)⟩
set_option maxRecDepth 100000 in
set_option maxHeartbeats 2000000 in
theorem With_call : FlatCall Tryz.prog 126 (fun l _ => l.Pairwise (· <= ·) /\ l.length <= 1000000) insAt := by
 refine ⟨fn_ok Tryz.func126 (by rfl) (by rfl), fun l x hl w own key A cap h => ?_⟩
 obtain ⟨hs, hlen⟩ := hl
 have hfa : Fence.wide.fn 82 := trivial
 have hfb : Fence.wide.fn 143 := trivial
 -- behind the search: the number's own block, and the row
 have hI : ∀ (w1 : World) (T : TypeId), w1.heap = w.heap -> w1.os = w.os -> w1.tape = w.tape -> w1.output = w.output -> Calls Tryz.prog 143 #[.slice A l.length cap, .int .i64 (l.countP (· < x) : Nat), .slice (some ⟨w1.heap.size, 0, none⟩) 1 1] (w1.alloc (.cells #[.int .i64 x] T)) fun e w' => ∃ A' cap', e = .returned (.slice A' (insAt l x).length cap') /\ Frm (fun b => own b = some key) w w' /\
   FlatOk w' (fun b => if w.heap.size <= b then (if b < w'.heap.size then some key else none) else own b) (some key) A' cap' 1 (ints (insAt l x)) := fun w1 T e1 e2 e3 e4 => by
  obtain ⟨own', o1, o2⟩ := own_none_of (w := w1) (own := own) key;have h1 : FlatOk w1 own' (some key) A cap 1 (ints l) := h.mono id fun b hb ho => ⟨by rw [o1 b (by rw [e1]; exact hb)]; exact ho, by rw [e1]⟩
  refine (insert_row own' key A cap l x (w1.alloc (.cells #[.int .i64 x] T)) w1.heap.size T (alloc_flat _ h1) hlen (heap_alloc_at w1 _) (by rw [o2 _ (Nat.le_refl _)]; simp) rfl).mono ?_;rintro e w' ⟨A', cap', rfl, hf, hF⟩;have hsz : (w1.alloc (.cells #[.int .i64 x] T)).heap.size = w.heap.size + 1 := by rw [<- e1]; show (w1.heap.push _).size = _; simp
  have hle := hf.size;rw [hsz] at hle;refine ⟨A', cap', by rw [insAt_length], ⟨hf.os.trans e2, hf.tape.trans (.of e3), hf.output.trans e4, by omega, fun b hb hn => ?_⟩, hF.mono id fun b hb ho => ⟨?_, rfl⟩⟩
  ·rw [hf.block b (by omega) (by rw [o1 b (by rw [e1]; exact hb)]; exact hn), heap_alloc_lt w1 _ (by rw [e1]; exact hb), e1]
  ·rw [hsz] at ho;show (if w.heap.size <= b then (if b < w'.heap.size then some key else none) else own b) = some key
   by_cases h1 : w.heap.size <= b
   ·rw [if_pos h1, if_pos hb]
   ·rw [if_neg h1];have ho : (if w.heap.size + 1 <= b then (if b < w'.heap.size then some key else none) else own' b) = some key := ho;rw [if_neg (by omega), o1 b (by rw [e1]; omega)] at ho;exact ho
 refine (callsIn_wide (n := 6)).1 ?_
 refine callsIn_of_wp Tryz.func126 rfl trivial ?_ rfl
 simp only [Tryz.ntmps126, List.size_toArray, List.length_cons, List.length_nil, Nat.reduceAdd, Nat.reduceSub, Array.replicate_succ, Array.replicate_zero, List.push_toArray, List.append_toArray, List.nil_append, List.cons_append]
 by_cases hc : cap = 0
 ·have h0 := h.fits;rw [qiq, hc] at h0;have : l = [] := List.eq_nil_of_length_eq_zero (by omega);subst this;subst hc;have hI0 := hI w 3 rfl rfl rfl rfl
  gi_wp2_with (first
   | (gi_at_call 82; refine (callsIn_wide.2 (search_empty A 0 x w)).mono ?_; rintro e w' ⟨rfl, rfl⟩)
   | (gi_at_call 143; refine (callsIn_wide.2 hI0).mono ?_; rintro e w' ⟨A', cap', rfl, h1, h2⟩))
  go_ret
  exact ⟨A', cap', rfl, h1, h2⟩
 ·obtain ⟨b, off, arr, T, hb⟩ := InBlock.of h hc;have hA := hb.at_;subst hA;have hcell : ∀ j, j < l.length -> w.cell? ⟨b, off + j, none⟩ = some (.int .i64 (l.getD j 0)) := fun j hj => by
   rw [cell_at hb.heap, hb.cell j l[j] (qEq hj), qDq, qEq hj]; rfl
  have hT : l.take l.length = l := List.take_length;have hSearch := search_row b off l.length cap l x w (Nat.le_refl _) (by omega) hcell (by rw [hT]; exact hs);rw [hT] at hSearch;have hI0 := fun q => hI (w.drewN q) 3 rfl rfl rfl rfl
  gi_wp2_with (first
   | (gi_at_call 82; refine (callsIn_wide.2 hSearch).mono ?_; rintro e w' ⟨rfl, q, rfl⟩)
   | (gi_at_call 143; refine (callsIn_wide.2 (hI0 _)).mono ?_; rintro e w' ⟨A', cap', rfl, h1, h2⟩))
  go_ret
  exact ⟨A', cap', rfl, h1, h2⟩
end Go.Sh
namespace Go.Sh
abbrev Stp := Int × Int × Int × Bool
def nbrs (n : Nat) (E : List Ed) : List (List Int) := (List.range n).map fun (v : Nat) => nearL E v
def rowAt (N : List (List Int)) (v : Int) : List Int := N.getD v.toNat []
def goneAt (G : List Bool) (v : Int) : Bool := G.getD v.toNat false
def mayB (N : List (List Int)) (G : List Bool) (v : Int) : Bool := decide (0 <= v) && (decide (v < N.length) && (!goneAt G v && decide ((rowAt N v).length <= 2)))
def stepF (N : List (List Int)) (v : Int) : Stp := (v, (rowAt N v).getD 0 (-1), (rowAt N v).getD 1 (-1), decide (1 < (rowAt N v).length) && !(rowAt N ((rowAt N v).getD 0 (-1))).elem ((rowAt N v).getD 1 (-1)))
def cutF (v : Int) (N : List (List Int)) (x : Int) : List (List Int) := N.set x.toNat ((rowAt N x).erase v)
def joinF (N : List (List Int)) (a b : Int) : List (List Int) := N.set a.toNat (insAt (rowAt N a) b)
def doN (N : List (List Int)) (s : Stp) : List (List Int) :=
 ((if s.2.2.2 then joinF (joinF ((rowAt N s.1).foldl (cutF s.1) N) s.2.1 s.2.2.1) s.2.2.1 s.2.1 else (rowAt N s.1).foldl (cutF s.1) N)).set s.1.toNat []
def doG (G : List Bool) (s : Stp) : List Bool := G.set s.1.toNat true
def leftF (G : List Bool) : List Int := ((List.range G.length).filter fun v => !G.getD v false).map fun (v : Nat) => (v : Int)
def outE (N : List (List Int)) (v : Int) : List Ed := ((rowAt N v).filter fun x => decide (x > v)).map fun x => (v, x)
def edgesF (N : List (List Int)) (G : List Bool) : List Ed := (leftF G).flatMap (outE N)
structure Wf (N : List (List Int)) (G : List Bool) : Prop where
 len : G.length = N.length
 most : N.length <= 1000
 row : ∀ l ∈ N, l.Pairwise (· < ·) /\ ∀ x ∈ l, 0 <= x /\ x < N.length
 sym : ∀ u v : Int, 0 <= u -> 0 <= v -> v ∈ rowAt N u -> u ∈ rowAt N v
 irr : ∀ v : Int, 0 <= v -> v ∉ rowAt N v
 gone : ∀ v : Int, 0 <= v -> goneAt G v = true -> rowAt N v = []
theorem rowAt_mem {N : List (List Int)} {v : Int} (h0 : 0 <= v) (h : v < N.length) : rowAt N v ∈ N /\ N[v.toNat]? = some (rowAt N v) := by
 have hlt : v.toNat < N.length := by omega
 unfold rowAt
 rw [qDq, qEq hlt]
 exact ⟨List.getElem_mem hlt, rfl⟩
theorem goneAt_get {N : List (List Int)} {G : List Bool} (hl : G.length = N.length) {v : Int} (h0 : 0 <= v) (h : v < N.length) : G[v.toNat]? = some (goneAt G v) := by
 have hlt : v.toNat < G.length := by omega
 unfold goneAt
 rw [qDq, qEq hlt]; rfl
theorem rowAt_out {N : List (List Int)} {v : Int} (h : ¬ v.toNat < N.length) : rowAt N v = [] := by
 unfold rowAt
 rw [qDq, List.getElem?_eq_none (by omega)]; rfl
theorem Wf.rows {N : List (List Int)} {G : List Bool} (h : Wf N G) (v : Int) : (rowAt N v).Pairwise (· < ·) /\ ∀ x ∈ rowAt N v, 0 <= x /\ x < N.length := by
 by_cases hv : v.toNat < N.length
 ·unfold rowAt;rw [qDq, qEq hv];exact h.row _ (List.getElem_mem hv)
 ·rw [rowAt_out hv]; simp
theorem sorted_len' {n : Int} : ∀ {l : List Int} {a : Int}, l.Pairwise (· < ·) -> (∀ x ∈ l, a <= x /\ x < n) -> (l.length : Int) <= max (n - a) 0 := by
 intro l
 induction l with
 | nil => intro a _ _; simp; omega
 | cons x l ih =>
  intro a h hr;rw [List.pairwise_cons] at h;have hx := hr x (by simp);have := ih (a := x + 1) h.2 fun y hy => ⟨by have := h.1 y hy; omega, (hr y (by simp [hy])).2⟩
  simp only [List.length_cons];omega
theorem Wf.row_len {N : List (List Int)} {G : List Bool} (h : Wf N G) (v : Int) : (rowAt N v).length <= N.length := by
 have := sorted_len' (h.rows v).1 (h.rows v).2
 omega
theorem rowAt_set {N : List (List Int)} {i u : Int} {r : List Int} (hi : 0 <= i) (hi2 : i < N.length) (hu : 0 <= u) : rowAt (N.set i.toNat r) u = if u = i then r else rowAt N u := by
 unfold rowAt
 rw [qDq, List.getElem?_set]
 by_cases e : u = i
 ·subst e;rw [if_pos rfl, if_pos (by omega), if_pos rfl]; rfl
 ·rw [if_neg (by omega), if_neg e]; rfl
theorem goneAt_set {G : List Bool} {i u : Int} (hi : 0 <= i) (hi2 : i < G.length) (hu : 0 <= u) : goneAt (G.set i.toNat true) u = if u = i then true else goneAt G u := by
 unfold goneAt
 rw [qDq, List.getElem?_set]
 by_cases e : u = i
 ·subst e;rw [if_pos rfl, if_pos (by omega), if_pos rfl]; rfl
 ·rw [if_neg (by omega), if_neg e]; rfl
theorem cutF_length (v : Int) (N : List (List Int)) (x : Int) : (cutF v N x).length = N.length := by simp [cutF]
theorem joinF_length (N : List (List Int)) (a b : Int) : (joinF N a b).length = N.length := by simp [joinF]
theorem cuts_length (v : Int) (l : List Int) (N : List (List Int)) : (l.foldl (cutF v) N).length = N.length := by
 induction l generalizing N with
 | nil => rfl
 | cons x l ih => rw [List.foldl_cons, ih, cutF_length]
theorem cuts_row {v : Int} : ∀ {l : List Int} {N : List (List Int)} {u : Int}, l.Nodup -> (∀ x ∈ l, 0 <= x /\ x < N.length) -> 0 <= u -> rowAt (l.foldl (cutF v) N) u = if u ∈ l then (rowAt N u).erase v else rowAt N u := by
 intro l
 induction l with
 | nil => intro N u _ _ _; simp
 | cons x l ih =>
  intro N u hn hr hu;rw [List.nodup_cons] at hn;have hx := hr x (by simp);rw [List.foldl_cons, ih hn.2 (fun y hy => by rw [cutF_length]; exact hr y (by simp [hy])) hu];unfold cutF;rw [rowAt_set hx.1 hx.2 hu];by_cases e : u = x
  ·subst e;simp [hn.1]
  ·simp [e]
theorem mem_insAt {l : List Int} {x y : Int} : y ∈ insAt l x ↔ y ∈ l \/ y = x := by
 unfold insAt
 rw [List.mem_append, List.mem_cons]
 constructor
 ·rintro (h | h | h)
  ·exact .inl (List.mem_of_mem_take h)
  ·exact .inr h
  ·exact .inl (List.mem_of_mem_drop h)
 ·rintro (h | h)
  ·rw [<- List.take_append_drop (l.countP (· < x)) l, List.mem_append] at h;exact h.elim .inl fun h => .inr (.inr h)
  ·exact .inr (.inl h)
theorem count_split {l : List Int} {x : Int} (h : l.Pairwise (· < ·)) : (∀ y ∈ l.take (l.countP (· < x)), y < x) /\ ∀ y ∈ l.drop (l.countP (· < x)), x <= y := by
 induction l with
 | nil => simp
 | cons a l ih =>
  rw [List.pairwise_cons] at h;by_cases ha : a < x
  ·rw [List.countP_cons, if_pos (by simpa using ha), List.take_succ_cons, List.drop_succ_cons];refine ⟨fun y hy => ?_, (ih h.2).2⟩;rcases List.mem_cons.1 hy with rfl | hy
   ·exact ha
   ·exact (ih h.2).1 y hy
  ·have h0 : (a :: l).countP (· < x) = 0 := List.countP_eq_zero.2 fun y hy => by
    rcases List.mem_cons.1 hy with rfl | hy
    ·simpa using ha
    ·have := h.1 y hy; simp; omega
   rw [h0];refine ⟨by simp, fun y hy => ?_⟩;rcases List.mem_cons.1 hy with rfl | hy
   ·omega
   ·have := h.1 y hy; omega
theorem insAt_sorted {l : List Int} {x : Int} (h : l.Pairwise (· < ·)) (hx : x ∉ l) : (insAt l x).Pairwise (· < ·) := by
 obtain ⟨h1, h2⟩ := count_split (x := x) h
 unfold insAt
 rw [List.pairwise_append]
 refine ⟨h.sublist (List.take_sublist _ _), List.pairwise_cons.2 ⟨fun y hy => ?_, h.sublist (List.drop_sublist _ _)⟩, fun y hy z hz => ?_⟩
 ·have := h2 y hy;have : y ≠ x := fun e => hx (e ▸ List.mem_of_mem_drop hy)
  omega
 ·have hy1 := h1 y hy;rcases List.mem_cons.1 hz with rfl | hz
  ·exact hy1
  ·have := h2 z hz; omega
theorem erase_sorted {l : List Int} {x : Int} (h : l.Pairwise (· < ·)) : (l.erase x).Pairwise (· < ·) := h.sublist (List.erase_sublist)
theorem mem_erase_sorted {l : List Int} {x y : Int} (h : l.Pairwise (· < ·)) : y ∈ l.erase x ↔ y ∈ l /\ y ≠ x := by
 have hn : l.Nodup := h.imp fun hab => by omega
 rw [hn.mem_erase_iff]
 exact And.comm
structure MayP (N : List (List Int)) (G : List Bool) (v : Int) : Prop where
 lo : 0 <= v
 hi : v < N.length
 there : goneAt G v = false
 two : (rowAt N v).length <= 2
theorem mayB_iff {N : List (List Int)} {G : List Bool} {v : Int} : mayB N G v = true ↔ MayP N G v := by
 unfold mayB
 simp only [Bool.and_eq_true, decide_eq_true_eq, Bool.not_eq_true']
 exact ⟨fun ⟨a, b, c, d⟩ => ⟨a, b, c, d⟩, fun h => ⟨h.lo, h.hi, h.there, h.two⟩⟩
theorem step_two {N : List (List Int)} {G : List Bool} (h : Wf N G) {v : Int} (hm : MayP N G v) {s : Stp} (hs : s = stepF N v) : s.1 = v /\ ((rowAt N v = [] /\ s.2.1 = -1 /\ s.2.2.1 = -1 /\ s.2.2.2 = false) \/ (∃ a, rowAt N v = [a] /\ s.2.1 = a /\ s.2.2.1 = -1 /\ s.2.2.2 = false) \/
  (∃ a b, rowAt N v = [a, b] /\ a < b /\ s.2.1 = a /\ s.2.2.1 = b /\ s.2.2.2 = !(rowAt N a).elem b)) := by
 subst hs
 refine ⟨rfl, ?_⟩
 unfold stepF
 have h2 := hm.two
 have h3 := (h.rows v).1
 cases hl : rowAt N v with
 | nil => exact .inl ⟨rfl, rfl, rfl, rfl⟩
 | cons a l =>
  rw [hl] at h2 h3
  cases l with
  | nil => exact .inr (.inl ⟨a, rfl, rfl, rfl, rfl⟩)
  | cons b l =>
   cases l with
   | nil => exact .inr (.inr ⟨a, b, rfl, by simp at h3; exact h3, rfl, rfl, rfl⟩)
   | cons c l => exact absurd h2 (by simp)
theorem doN_length (N : List (List Int)) (s : Stp) : (doN N s).length = N.length := by
 unfold doN
 rw [List.length_set]
 split
 ·rw [joinF_length, joinF_length, cuts_length]
 ·rw [cuts_length]
theorem do_row {N : List (List Int)} {G : List Bool} (h : Wf N G) {v : Int} (hm : MayP N G v) {u : Int} (hu : 0 <= u) : (rowAt (doN N (stepF N v)) u).Pairwise (· < ·) /\ (∀ y, y ∈ rowAt (doN N (stepF N v)) u ↔ u ≠ v /\ ((y ∈ rowAt N u /\ y ≠ v) \/ ((stepF N v).2.2.2 = true /\ ((u = (stepF N v).2.1 /\ y = (stepF N v).2.2.1) \/ (u = (stepF N v).2.2.1 /\ y = (stepF N v).2.1))))) := by
 obtain ⟨_, hc⟩ := step_two h hm rfl
 have hrv := h.rows v
 have hnd : (rowAt N v).Nodup := hrv.1.imp fun hab => by omega
 have base : ∀ w, 0 <= w -> rowAt ((rowAt N v).foldl (cutF v) N) w = (rowAt N w).erase v := fun w hw => by
  rw [cuts_row hnd hrv.2 hw];split
  ·rfl
  ·rename_i hnot;rw [List.erase_of_not_mem];exact fun hin => hnot (h.sym w v hw hm.lo hin)
 have hlen := cuts_length v (rowAt N v) N
 have hv1 : (stepF N v).1 = v := rfl
 unfold doN
 rw [hv1]
 have hjl : ∀ M : List (List Int), M.length = N.length -> rowAt (M.set v.toNat []) u = if u = v then [] else rowAt M u := fun M hM => rowAt_set hm.lo (by rw [hM]; exact hm.hi) hu
 have er := erase_sorted (x := v) (h.rows u).1
 have em : ∀ y, y ∈ (rowAt N u).erase v ↔ y ∈ rowAt N u /\ y ≠ v := fun y => mem_erase_sorted (h.rows u).1
 by_cases hadd : (stepF N v).2.2.2 = true
 ·rw [if_pos hadd];rcases hc with ⟨_, _, _, e⟩ | ⟨_, _, _, _, e⟩ | ⟨a, b, hl, hab, ea, eb, ec⟩
  ·rw [hadd] at e; cases e
  ·rw [hadd] at e; cases e
  rw [hadd] at ec;have hnb : b ∉ rowAt N a := by
   intro hin;have : (rowAt N a).elem b = true := by simpa using hin
   rw [this] at ec; cases ec
  have hra := hrv.2 a (by rw [hl]; simp);have hrb := hrv.2 b (by rw [hl]; simp);have hva : a ≠ v := fun e => h.irr v hm.lo (by rw [hl, e]; simp)
  have hvb : b ≠ v := fun e => h.irr v hm.lo (by rw [hl, e]; simp)
  rw [ea, eb];rw [hjl _ (by rw [joinF_length, joinF_length, hlen])];have j1 : ∀ w, 0 <= w -> rowAt (joinF ((rowAt N v).foldl (cutF v) N) a b) w = if w = a then insAt ((rowAt N a).erase v) b else (rowAt N w).erase v := fun w hw => by
   unfold joinF;rw [rowAt_set hra.1 (by rw [hlen]; exact hra.2) hw, base a hra.1, base w hw]
  have j2 : rowAt (joinF (joinF ((rowAt N v).foldl (cutF v) N) a b) b a) u = if u = b then insAt ((rowAt N b).erase v) a else if u = a then insAt ((rowAt N a).erase v) b else (rowAt N u).erase v := by
   have e : rowAt (joinF ((rowAt N v).foldl (cutF v) N) a b) b = (rowAt N b).erase v := by rw [j1 b hrb.1, if_neg (by omega)]
   show rowAt ((joinF ((rowAt N v).foldl (cutF v) N) a b).set b.toNat (insAt (rowAt (joinF ((rowAt N v).foldl (cutF v) N) a b) b) a)) u = _
   rw [rowAt_set hrb.1 (by rw [joinF_length, hlen]; exact hrb.2) hu, e, j1 u hu]
  rw [j2];by_cases e1 : u = v
  ·rw [if_pos e1]; simp [e1]
  rw [if_neg e1];have hna : a ∉ rowAt N b := fun hin => hnb (h.sym b a hrb.1 hra.1 hin)
  by_cases e2 : u = b
  ·subst e2;rw [if_pos rfl];refine ⟨insAt_sorted er fun hin => hna ((em a).1 hin).1, fun y => ?_⟩;rw [mem_insAt, em];constructor
   ·rintro (⟨h1, h2⟩ | h1)
    ·exact ⟨e1, .inl ⟨h1, h2⟩⟩
    ·exact ⟨e1, .inr ⟨hadd, .inr ⟨rfl, h1⟩⟩⟩
   ·rintro ⟨_, h1 | ⟨_, ⟨h1, _⟩ | ⟨_, h1⟩⟩⟩
    ·exact .inl h1
    ·omega
    ·exact .inr h1
  ·rw [if_neg e2];by_cases e3 : u = a
   ·subst e3;rw [if_pos rfl];refine ⟨insAt_sorted er fun hin => hnb ((em b).1 hin).1, fun y => ?_⟩;rw [mem_insAt, em];constructor
    ·rintro (⟨h1, h2⟩ | h1)
     ·exact ⟨e1, .inl ⟨h1, h2⟩⟩
     ·exact ⟨e1, .inr ⟨hadd, .inl ⟨rfl, h1⟩⟩⟩
    ·rintro ⟨_, h1 | ⟨_, ⟨_, h1⟩ | ⟨h1, _⟩⟩⟩
     ·exact .inl h1
     ·exact .inr h1
     ·omega
   ·rw [if_neg e3];refine ⟨er, fun y => ?_⟩;rw [em];constructor
    ·intro h1; exact ⟨e1, .inl h1⟩
    ·rintro ⟨_, h1 | ⟨_, ⟨h1, _⟩ | ⟨h1, _⟩⟩⟩
     ·exact h1
     ·exact absurd h1 e3
     ·exact absurd h1 e2
 ·rw [if_neg hadd, hjl _ hlen];by_cases e1 : u = v
  ·rw [if_pos e1]; simp [e1]
  rw [if_neg e1, base u hu];refine ⟨er, fun y => ?_⟩;rw [em];simp [e1, hadd]
theorem do_gone {N : List (List Int)} {G : List Bool} (h : Wf N G) {v : Int} (hm : MayP N G v) {u : Int} (hu : 0 <= u) : goneAt (doG G (stepF N v)) u = if u = v then true else goneAt G u :=
 goneAt_set hm.lo (by rw [h.len]; exact hm.hi) hu
theorem do_wf {N : List (List Int)} {G : List Bool} (h : Wf N G) {v : Int} (hm : MayP N G v) : Wf (doN N (stepF N v)) (doG G (stepF N v)) := by
 have hlen := doN_length N (stepF N v)
 obtain ⟨_, hc⟩ := step_two h hm rfl
 have hab : (stepF N v).2.2.2 = true -> (stepF N v).2.1 ∈ rowAt N v /\ (stepF N v).2.2.1 ∈ rowAt N v /\ (stepF N v).2.1 ≠ (stepF N v).2.2.1 := fun hadd => by
  rcases hc with ⟨_, _, _, e⟩ | ⟨_, _, _, _, e⟩ | ⟨a, b, hl, hab, ea, eb, ec⟩
  ·rw [hadd] at e; cases e
  ·rw [hadd] at e; cases e
  ·rw [ea, eb, hl]; exact ⟨by simp, by simp, by omega⟩
 refine ⟨by rw [hlen, doG, List.length_set]; exact h.len, by rw [hlen]; exact h.most, fun l hl => ?_, fun u w hu hw hin => ?_, fun u hu hin => ?_, fun u hu hg => ?_⟩
 ·obtain ⟨i, hi, rfl⟩ := List.mem_iff_getElem.1 hl;have e : (doN N (stepF N v))[i] = rowAt (doN N (stepF N v)) (i : Int) := by
   unfold rowAt;rw [Int.toNat_natCast, qDq, qEq hi]; rfl
  rw [e, hlen];obtain ⟨h1, h2⟩ := do_row h hm (show (0 : Int) <= (i : Int) by omega);refine ⟨h1, fun y hy => ?_⟩;rcases ((h2 y).1 hy).2 with ⟨k, _⟩ | ⟨hadd, ⟨_, k⟩ | ⟨_, k⟩⟩
  ·exact (h.rows _).2 y k
  ·rw [k]; exact (h.rows v).2 _ (hab hadd).2.1
  ·rw [k]; exact (h.rows v).2 _ (hab hadd).1
 ·have h1 := (do_row h hm hu).2 w;have h2 := (do_row h hm hw).2 u;obtain ⟨k1, k2⟩ := h1.1 hin;refine h2.2 ⟨?_, ?_⟩
  ·rcases k2 with ⟨_, k⟩ | ⟨hadd, ⟨_, k⟩ | ⟨_, k⟩⟩
   ·exact k
   ·rw [k]; intro e; have := (hab hadd).2.1; rw [e] at this; exact h.irr v hm.lo this
   ·rw [k]; intro e; have := (hab hadd).1; rw [e] at this; exact h.irr v hm.lo this
  ·rcases k2 with ⟨k, _⟩ | ⟨hadd, ⟨k, k'⟩ | ⟨k, k'⟩⟩
   ·exact .inl ⟨h.sym u w hu hw k, k1⟩
   ·exact .inr ⟨hadd, .inr ⟨k', k⟩⟩
   ·exact .inr ⟨hadd, .inl ⟨k', k⟩⟩
 ·rcases (((do_row h hm hu).2 u).1 hin).2 with ⟨k, _⟩ | ⟨hadd, ⟨k, k'⟩ | ⟨k, k'⟩⟩
  ·exact h.irr u hu k
  ·exact (hab hadd).2.2 (k ▸ k')
  ·exact (hab hadd).2.2 (k ▸ k').symm
 ·rw [do_gone h hm hu] at hg;have key : ∀ y, y ∉ rowAt (doN N (stepF N v)) u := fun y hy => by
   obtain ⟨k1, k2⟩ := ((do_row h hm hu).2 y).1 hy;rw [if_neg k1] at hg;have hr := h.gone u hu hg;rcases k2 with ⟨k, _⟩ | ⟨hadd, ⟨k, _⟩ | ⟨k, _⟩⟩
   ·rw [hr] at k; simp at k
   ·have := h.sym v u hm.lo hu (k ▸ (hab hadd).1);rw [hr] at this; simp at this
   ·have := h.sym v u hm.lo hu (k ▸ (hab hadd).2.1);rw [hr] at this; simp at this
  exact List.eq_nil_iff_forall_not_mem.2 key
theorem nbrs_length (n : Nat) (E : List Ed) : (nbrs n E).length = n := by simp [nbrs]
theorem nbrs_row {n : Nat} {E : List Ed} {v : Int} (h0 : 0 <= v) (h : v < n) : rowAt (nbrs n E) v = nearL E v := by
 unfold rowAt nbrs
 rw [qDq, List.getElem?_map, List.getElem?_range (by omega)]
 show nearL E (v.toNat : Int) = _
 rw [Int.toNat_of_nonneg h0]
theorem near_sorted {n : Int} {v : Int} : ∀ {E : List Ed}, (∀ p ∈ E, okE n p) -> E.Pairwise ltE -> (nearL E v).Pairwise (· < ·) := by
 intro E
 suffices h : ∀ E : List Ed, (∀ p ∈ E, okE n p) -> E.Pairwise ltE -> (nearL E v).Pairwise (· < ·) from fun a b => h E a b
 intro E
 induction E with
 | nil => intro _ _; simp [nearL]
 | cons x E ih =>
  intro hE hs;rw [List.pairwise_cons] at hs;have hx := hE x (by simp);have e : nearL (x :: E) v = nearX v x ++ nearL E v := by simp [nearL]
  rw [e, List.pairwise_append];refine ⟨?_, ih (fun p hp => hE p (by simp [hp])) hs.2, fun y hy z hz => ?_⟩
  ·obtain ⟨h1, h2, h3⟩ := hx;unfold nearX;split <;> split <;> simp <;> omega
  ·unfold nearL at hz;obtain ⟨p, hp, hz⟩ := List.mem_flatMap.1 hz;have hl := hs.1 p hp;have hpo := hE p (by simp [hp]);obtain ⟨x1, x2⟩ := x;obtain ⟨p1, p2⟩ := p;obtain ⟨h1, h2, h3⟩ := hx;obtain ⟨q1, q2, q3⟩ := hpo;simp only [ltE] at hl;simp only [nearX, List.mem_append] at hy hz;dsimp only at *;rcases hy with hy | hy
   ·split at hy
    ·simp at hy;rcases hz with hz | hz
     ·split at hz
      ·simp at hz; omega
      ·simp at hz
     ·split at hz
      ·simp at hz; omega
      ·simp at hz
    ·simp at hy
   ·split at hy
    ·simp at hy;rcases hz with hz | hz
     ·split at hz
      ·simp at hz; omega
      ·simp at hz
     ·split at hz
      ·simp at hz; omega
      ·simp at hz
    ·simp at hy
theorem begin_wf {n : Int} {E : List Ed} (h : RightP n E) : Wf (nbrs n.toNat E) (List.replicate n.toNat false) := by
 have h0 := h.1
 have hm := h.2.1
 have hE : ∀ p ∈ E, okE n p := fun p hp => h.2.2.2.1 p hp
 have adj : ∀ {u w : Int}, adjE E u w -> 0 <= u /\ u < n /\ 0 <= w /\ w < n /\ u ≠ w := fun {u w} ha => by
  rcases ha with ha | ha
  ·obtain ⟨h1, h2, h3⟩ := hE _ ha; dsimp only at h1 h2 h3; omega
  ·obtain ⟨h1, h2, h3⟩ := hE _ ha; dsimp only at h1 h2 h3; omega
 have row : ∀ u : Int, 0 <= u -> ∀ w, w ∈ rowAt (nbrs n.toNat E) u ↔ adjE E u w := fun u hu w => by
  by_cases hlt : u < n
  ·rw [nbrs_row hu (by omega), mem_nearL]
  ·rw [rowAt_out (by rw [nbrs_length]; omega)];constructor
   ·simp
   ·intro ha; have := adj ha; omega
 refine ⟨by rw [nbrs_length]; simp, by rw [nbrs_length]; omega, fun l hl => ?_, fun u w hu hw hin => ?_, fun u hu hin => ?_, fun u hu hg => ?_⟩
 ·obtain ⟨i, hi, rfl⟩ := List.mem_map.1 hl;refine ⟨near_sorted hE h.2.2.2.2, fun w hw => ?_⟩;have := adj (mem_nearL.1 hw);rw [nbrs_length]; omega
 ·rw [row u hu] at hin;rw [row w hw]; exact hin.symm
 ·rw [row u hu] at hin;have := adj hin; omega
 ·exfalso
  unfold goneAt at hg;rw [qDq, List.getElem?_replicate] at hg;split at hg <;> simp at hg
end Go.Sh
namespace Go.Sh
open Go.Proofs
def restV (own : Bool) (N : List (List Int)) (G : List Bool) : V := .agg [.nest own 1 (rowsI N), .flat own 1 (bools G)]
theorem restV_inj {o : Bool} {N M : List (List Int)} {G H : List Bool} (h : restV o N G = restV o M H) : N = M /\ G = H := by
 unfold restV at h
 injection h with h
 injection h with h1 h2
 injection h2 with h2 _
 injection h1 with _ _ h1
 injection h2 with _ _ h2
 exact ⟨rowsI_inj h1, bools_inj h2⟩
noncomputable def SearchC : Con := conP 2 (fun a : List Int × Int => a.1.Pairwise (· <= ·) /\ a.1.length <= 1000000) (fun a => [.one (.flat false 1 (ints a.1)), .one (.s (.i .i64 a.2))]) (fun a => .tup [.one (.s (.i .i64 (a.1.countP (· < a.2) : Nat))), .one (.s (.b (a.1.elem a.2)))])
theorem SearchC_at {l : List Int} {x : Int} (h : l.Pairwise (· <= ·) /\ l.length <= 1000000) : SearchC.F [.one (.flat false 1 (ints l)), .one (.s (.i .i64 x))] = some (.tup [.one (.s (.i .i64 (l.countP (· < x) : Nat))), .one (.s (.b (l.elem x)))], []) :=
 conP_at (a := (l, x)) (fun a b _ _ h => by
  obtain ⟨l, x⟩ := a;obtain ⟨m, y⟩ := b;simp at h;obtain ⟨h1, h2⟩ := h;rw [ints_inj h1, h2]) h
theorem Search_ok : SoundC Tryz.prog T 82 SearchC := by
 refine sound_pure Tryz.func82 (by rfl) (by rfl) (by simp [SearchC, conP]) ?_
 intro vs r outs hF w us hus
 obtain ⟨⟨l, x⟩, hl, rfl, rfl⟩ := conF_inv (pre := fun a : List Int × Int => a.1.Pairwise (· <= ·) /\ a.1.length <= 1000000) (enc := fun a => [.one (.flat false 1 (ints a.1)), .one (.s (.i .i64 a.2))]) (val := fun a => .tup [.one (.s (.i .i64 (a.1.countP (· < a.2) : Nat))), .one (.s (.b (a.1.elem a.2)))]) hF
 obtain ⟨u, u2, hu, ⟨y, hy, hFl⟩, hx⟩ : ∃ u u2, us = #[u, u2] /\ CellOk w noLab 0 (.flat false 1 (ints l)) u /\ u2 = .int .i64 x := by
  obtain ⟨us⟩ := us
  match us, hus with
  | [u, u2], hus => exact ⟨u, u2, rfl, hus.1, hus.2.1.choose_spec⟩
  | [], hus => exact hus.elim
  | [_], hus => exact hus.2.elim
  | _ :: _ :: _ :: _, hus => exact hus.2.2.elim
 subst hu
 subst hx
 subst hy
 rw [qiq]
 have fin : ∀ w' : World, w'.os = w.os -> w'.tape = w.tape -> w'.output = w.output -> w'.heap = w.heap -> ∃ (u : Value) (lab : Nat -> Option Key), Ending.returned (.tuple #[.int .i64 (l.countP (· < x) : Nat), .bool (l.elem x)]) = .returned u /\ Frm (fun _ => False) w w' /\ (∀ b k, lab b = some k -> w.heap.size <= b /\ b < w'.heap.size) /\ VOk w' lab 0 (.tup [.one (.s (.i .i64 (l.countP (· < x) : Nat))), .one (.s (.b (l.elem x)))]) u := fun w' h1 h2 h3 h4 =>
  ⟨_, noLab, rfl, ⟨h1, .of h2, h3, by rw [h4]; exact Nat.le_refl _, fun b _ _ => by rw [h4]⟩, fun b k h => by simp [noLab] at h, ⟨_, rfl, ⟨⟨none, 0, fun _ => none, fun _ => 0⟩, rfl⟩, ⟨⟨none, 0, fun _ => none, fun _ => 0⟩, rfl⟩, trivial⟩⟩
 cases l with
 | nil =>
  refine (search_empty y.A y.c x w).mono ?_;rintro e w' ⟨rfl, rfl⟩;exact fin _ rfl rfl rfl rfl
 | cons a l =>
  have hcell : ∀ j (hj : j < (a :: l).length), ∃ b, y.A = some b /\ w.cell? (b.add j) = some (.int .i64 ((a :: l).getD j 0)) := fun j hj => by
   obtain ⟨b, hb, _, hc⟩ := hFl.cell j [.i .i64 (a :: l)[j]] 0 (.i .i64 (a :: l)[j]) (qhq (qEq hj)) rfl;rw [Nat.mul_one, Nat.add_zero] at hc;exact ⟨b, hb, by rw [hc, qDq, qEq hj]; rfl⟩
  obtain ⟨⟨b, off, spot⟩, hb, hc0⟩ := hcell 0 (by simp);have hsp : spot = none := by
   cases spot with
   | none => rfl
   | some z => exfalso; simp [Addr.add, World.cell?] at hc0; split at hc0 <;> simp at hc0
  subst hsp;have hs := search_row b off (a :: l).length y.c (a :: l) x w (Nat.le_refl _) (by have := hl.2; dsimp only at this; omega) (fun j hj => by
   obtain ⟨b', hb', hc⟩ := hcell j hj;rw [hb] at hb';injection hb' with hb'
   subst hb';rw [Addr.add_plain] at hc;exact hc) (by rw [List.take_length]; exact hl.1)
  rw [List.take_length] at hs;rw [hb];refine hs.mono ?_;rintro e w' ⟨rfl, q, rfl⟩;exact fin _ rfl rfl rfl rfl
noncomputable def BeginC : Con := conP 2 (fun a : Int × List Ed => RightP a.1 a.2) (fun a => [grV a.1 a.2]) (fun a => restV true (nbrs a.1.toNat a.2) (List.replicate a.1.toNat false))
theorem BeginC_at {n : Int} {E : List Ed} (h : RightP n E) : BeginC.F [grV n E] = some (restV true (nbrs n.toNat E) (List.replicate n.toNat false), []) :=
 conP_at (a := (n, E)) (fun x y _ _ h => by
  obtain ⟨n, E⟩ := x;obtain ⟨n', E'⟩ := y;simp at h;obtain ⟨rfl, rfl⟩ := grV_inj h
  rfl) h
theorem sortI_id {l : List Int} (h : l.Pairwise (· < ·)) : sortI l = l := (sortI_unique (h.imp fun hab => by omega) (List.Perm.refl _)).symm
theorem nbrs_snoc {n : Nat} {E : List Ed} {x : Ed} {m : Int} (hx : okE m x) (hm : m = n) : nbrs n (E ++ [x]) = ((nbrs n E).set x.1.toNat (nearL E x.1 ++ [x.2])).set x.2.toNat (nearL E x.2 ++ [x.1]) := by
 obtain ⟨h1, h2, h3⟩ := hx
 apply List.ext_getElem?
 intro i
 rw [List.getElem?_set, List.getElem?_set]
 by_cases hi : i < n
 ·have e : ∀ E, (nbrs n E)[i]? = some (nearL E i) := fun E => by unfold nbrs; rw [List.getElem?_map, List.getElem?_range hi]; rfl
  rw [e, e, nearL_snoc];unfold nearX;by_cases a1 : x.2.toNat = i
  ·have : x.2 = i := by omega
   rw [if_pos a1, if_neg (show ¬ x.1 = (i : Int) by omega), if_pos this, if_pos (show x.2.toNat < ((nbrs n E).set x.1.toNat (nearL E x.1 ++ [x.2])).length by rw [List.length_set, nbrs_length]; omega), this]; rfl
  ·rw [if_neg a1, if_neg (show ¬ x.2 = (i : Int) by omega)];by_cases a2 : x.1.toNat = i
   ·have : x.1 = i := by omega
    rw [if_pos a2, if_pos this, if_pos (show x.1.toNat < (nbrs n E).length by rw [nbrs_length]; omega), this]; simp
   ·rw [if_neg a2, if_neg (show ¬ x.1 = (i : Int) by omega)]; simp
 ·rw [List.getElem?_eq_none (by rw [nbrs_length]; omega), if_neg (by omega), if_neg (by omega), List.getElem?_eq_none (by rw [nbrs_length]; omega)]
theorem rowsI_set (N : List (List Int)) (i : Nat) (l : List Int) : rowsI (N.set i l) = (rowsI N).set i (ints l) := by simp [rowsI, List.map_set]
set_option maxHeartbeats 2000000 in
theorem Begin_ok : SoundC Tryz.prog T 95 BeginC := by
 refine sound_con (X := { Γ := [], T := T, nt := 64, ext := [81] }) (rowIn_ok Sort_row) hmix hT sound_nil Tryz.func95 (by rfl) (by rfl) (by rfl) (by rfl) 2 ?_
 rintro ⟨n, E⟩ hR
 dsimp only at hR ⊢
 obtain ⟨hn0, hn1, hE4, hokE, hsrt⟩ := id hR
 have hW := begin_wf hR
 refine two_le ?_
 refine Pick.T (by simp) ?_
 refine Idx.by n.toNat (by omega) (by omega) ?_
 refine Pick.T (by simp) ?_
 refine Idx.by n.toNat (by omega) (by omega) ?_
 refine Seg.by (by kernel_rfl) ?_
 refine LoopP.intro (α := Nat) (fun k => k <= E.length) (fun k => E.length - k) (fun k => [(1, .ptr 0 0), (2, .ptr 2 0), (3, .ptr 3 0), (16, .sl 1 none none), (17, .s (.i .i64 E.length)), (18, .s (.i .i64 k))])
  (fun k => [(0, some (.blk [.s (.i .i64 n), .sl 1 none none])), (1, some (.flat false 2 (edges E))), (2, some (.blk [.nils, .nils])), (3, some (.blk [.sl 4 none none, .sl 5 none none])), (4, some (.nest true 1 (rowsI (nbrs n.toNat (E.take k))) [] [])), (5, some (.flat true 1 (bools (List.replicate n.toNat false))))]) 6 0 (by omega) (by refine Weak.bw (sg 0 [_,_,_,_,_,_]) (by ((repeat' first|exact rfl|exact trivial|apply And.intro) <;> (repeat' first|exact rfl|exact trivial|apply And.intro)); all_goals ((first | (rw [qeq]; rfl) | (simp [nbrs, nearL, rowsI, ints, List.map_const']; done) | (simp [bools]; done))))) ?_
 rintro k hk
 refine Pick.by (fun hc => ?_) (fun hc => ?_)
 ·have hlt : k < E.length := by simpa using hc
  have hok := hokE _ (List.getElem_mem hlt);have hget := edges_get (qEq hlt);have hnl := nearL_length (E.take k);have hnl2 : ∀ v, (nearL (E.take k) v).length <= 8000 := fun v => by have := hnl v; rw [List.length_take] at this; omega
  have hst : nbrs n.toNat (E.take (k + 1)) = nbrs n.toNat (E.take k ++ [E[k]]) := by rw [qTq hlt]
  obtain ⟨⟨a, b⟩, hab⟩ : ∃ p, E[k] = p := ⟨_, rfl⟩;rw [hab] at hok hget hst;rw [nbrs_snoc hok (by omega)] at hst;obtain ⟨o1, o2, o3⟩ := hok;dsimp only at o1 o2 o3 hget hst;have hrow : ∀ v : Int, 0 <= v -> v < n -> (rowsI (nbrs n.toNat (E.take k)))[v.toNat]? = some (ints (nearL (E.take k) v)) := fun v h0 h1 => by
   refine qgq ?_;unfold nbrs;rw [List.getElem?_map, List.getElem?_range (by omega)];show some (nearL (E.take k) (v.toNat : Int)) = _
   rw [Int.toNat_of_nonneg h0]
  have hrl : (rowsI (nbrs n.toNat (E.take k))).length = n.toNat := by rw [qrq, nbrs_length]
  refine Idx.by k rfl (by rw [qeq]; exact hlt) ?_;refine Look.by _ hget ?_;refine Idx.by a.toNat (by omega) (by rw [hrl]; omega) ?_;refine Pick.T (by rw [hrl]; simp; omega) ?_;refine Look.by _ (hrow a (by omega) (by omega)) ?_;refine Pick.T (by simp [cut, qiq]; have := hnl2 a; omega) ?_;refine Idx.by a.toNat (by omega) (by rw [hrl]; omega) ?_;refine Pick.T (by rw [hrl]; simp; omega) ?_;refine Pick.T (by simp) ?_;refine Seg.by (by kernel_rfl) ?_;have hset : (rowsI (nbrs n.toNat (E.take k))).set a.toNat (ints (nearL (E.take k) a) ++ [[.i .i64 b]]) = rowsI ((nbrs n.toNat (E.take k)).set a.toNat (nearL (E.take k) a ++ [b])) := by rw [rowsI_set, ints_snoc]
  have hrl2 : ((rowsI (nbrs n.toNat (E.take k))).set a.toNat (ints (nearL (E.take k) a) ++ [[.i .i64 b]])).length = n.toNat := by rw [List.length_set, hrl]
  refine Idx.by b.toNat (by omega) (by show b.toNat < ((rowsI (nbrs n.toNat (E.take k))).set a.toNat (ints (nearL (E.take k) a) ++ [[.i .i64 b]])).length; rw [hrl2]; omega) ?_;refine Pick.T (by show decide (b.toNat < ((rowsI (nbrs n.toNat (E.take k))).set a.toNat (ints (nearL (E.take k) a) ++ [[.i .i64 b]])).length) = true; rw [hrl2]; simp; omega) ?_;refine Look.by (ints (nearL (E.take k) b)) (by show ((rowsI (nbrs n.toNat (E.take k))).set a.toNat (ints (nearL (E.take k) a) ++ [[.i .i64 b]]))[b.toNat]? = _; rw [qNq (by omega)]; exact hrow b (by omega) (by omega)) ?_;refine Pick.T (by simp [cut, qiq]; have := hnl2 b; omega) ?_;refine Idx.by b.toNat (by omega) (by show b.toNat < ((rowsI (nbrs n.toNat (E.take k))).set a.toNat (ints (nearL (E.take k) a) ++ [[.i .i64 b]])).length; rw [hrl2]; omega) ?_;refine Pick.T (by show decide (b.toNat < ((rowsI (nbrs n.toNat (E.take k))).set a.toNat (ints (nearL (E.take k) a) ++ [[.i .i64 b]])).length) = true; rw [hrl2]; simp; omega) ?_;refine Pick.T (by simp) ?_;refine Seg.by (by kernel_rfl) ?_;refine Pick.n ?_;refine Next.by (k + 1) (by omega) (by omega) (by refine Weak.bw (sg 0 [_,_,_,_,_,_]) (by ((repeat' first|exact rfl|exact trivial|apply And.intro) <;> (repeat' first|exact rfl|exact trivial|apply And.intro)); all_goals ((rw [hst, rowsI_set, rowsI_set, ints_snoc, ints_snoc]; rfl))))
 ·have hge : E.length <= k := by simpa using hc
  rw [List.take_of_length_le hge];have hrl : (rowsI (nbrs n.toNat E)).length = n.toNat := by rw [qrq, nbrs_length]
  refine LoopP.intro (α := Nat) (fun j => j <= n.toNat) (fun j => n.toNat - j) (fun j => [(2, .ptr 0 0), (3, .ptr 1 0), (54, .sl 2 none none), (55, .s (.i .i64 n.toNat)), (56, .s (.i .i64 j))])
   (fun j => [(0, some (.blk [.nils, .nils])), (1, some (.blk [.sl 2 none none, .sl 3 none none])), (2, some (.nest true 1 (rowsI (nbrs n.toNat E)) [] [])), (3, some (.flat true 1 (bools (List.replicate n.toNat false))))]) 4 0 (by omega) (by refine Weak.bw (sg 0 [_,_,_,_]) (by ((repeat' first|exact rfl|exact trivial|apply And.intro) <;> (repeat' first|exact rfl|exact trivial|apply And.intro)); all_goals ((first | (rw [hrl]; rfl) | done)))) ?_
  rintro j hj;refine Pick.by (fun hc => ?_) (fun hc => ?_)
  ·have hlt : j < n.toNat := by simp at hc; omega
   have hrow : (rowsI (nbrs n.toNat E))[j]? = some (ints (nearL E j)) := by
    refine qgq ?_;unfold nbrs;rw [List.getElem?_map, List.getElem?_range hlt]; rfl
   have hsd := near_sorted (n := n) (v := (j : Int)) hokE hsrt;refine Idx.by j rfl (by rw [hrl]; exact hlt) ?_;refine Pick.T (by rw [hrl]; simp; omega) ?_;refine ⟨rfl, rowsI (nbrs n.toNat E), [], [], nearL E j, rfl, by simp, by simp, hrow, ?_, ?_⟩
   ·have := nearL_length E j; omega
   rw [sortI_id hsd];refine Pick.n ?_;refine Next.by (j + 1) (by omega) (by omega) (by refine Weak.bw (sg 0 [_,_,_,_]) (by ((repeat' first|exact rfl|exact trivial|apply And.intro) <;> (repeat' first|exact rfl|exact trivial|apply And.intro)); all_goals ((rw [set_same hrow]))))
  ·exact ⟨rfl, by (repeat' first|exact rfl|exact trivial|apply And.intro)⟩
noncomputable def TopsC : Con := conP 1 (fun _ : Int => True) (fun k => [.one (.s (.i .i64 k))]) (fun k => .one (.s (.i .i64 (if k = 1 then 4 else 2))))
theorem TopsC_at (k : Int) : TopsC.F [.one (.s (.i .i64 k))] = some (.one (.s (.i .i64 (if k = 1 then 4 else 2))), []) :=
 conP_at (a := k) (fun x y _ _ h => by simp at h; rw [h]) trivial
theorem Tops_ok : SoundC Tryz.prog T 54 TopsC := by
 refine sound_con (X := { Γ := [], T := T, nt := 5 }) cr_none hmix hT sound_nil Tryz.func54 (by rfl) (by rfl) (by rfl) (by rfl) 1 ?_
 rintro k -
 refine two_le ?_
 refine Pick.by (fun h1 => ?_) (fun h1 => ?_)
 ·have h1 : k = 1 := by simpa using h1
  refine ⟨rfl, ?_⟩;show _ = _
  rw [if_pos h1]
 ·have h1 : ¬ k = 1 := by simpa using h1
  refine ⟨rfl, ?_⟩;show _ = _
  rw [if_neg h1]
noncomputable def PathC : Con := conP 2 (fun a : (Int × List Ed) × List Int => a.2.length <= 1000000) (fun a => [grV a.1.1 a.1.2, .one (.flat false 1 (ints a.2))]) (fun a => .one (.s (.b (pathB a.1.1 a.1.2 a.2))))
theorem PathC_at {n : Int} {E : List Ed} {l : List Int} (h : l.length <= 1000000) : PathC.F [grV n E, .one (.flat false 1 (ints l))] = some (.one (.s (.b (pathB n E l))), []) :=
 conP_at (a := ((n, E), l)) (fun a b _ _ h => by
  obtain ⟨⟨n, E⟩, l⟩ := a;obtain ⟨⟨n', E'⟩, l'⟩ := b;simp at h;obtain ⟨h1, h2⟩ := h;obtain ⟨rfl, rfl⟩ := grV_inj h1;rw [ints_inj h2]) h
theorem noP {n : Int} {E : List Ed} {l : List Int} (h : ¬ PathP n E l) : Sc.b false = Sc.b (pathB n E l) := by rw [pathB_no h]
theorem hasG_adj {n : Int} {E : List Ed} {a b : Int} (hR : RightP n E) : hasG n E a b = true ↔ adjE E a b := by
 unfold hasG
 rw [decide_eq_true hR, Bool.true_and, List.elem_iff, mem_nearL]
set_option maxHeartbeats 1000000 in
theorem Path_ok : SoundC Tryz.prog T 57 PathC := by
 refine sound_con (X := { Γ := [(25, RightC), (77, UnlikeC), (80, HasGC)], T := T, nt := 52 }) cr_none hmix hT (sound_cons RightG_ok (sound_cons Unlike_ok (sound_cons Has_ok sound_nil))) Tryz.func57 (by rfl) (by rfl) (by rfl) (by rfl) 3 ?_
 rintro ⟨⟨n, E⟩, l⟩ hl
 dsimp only at hl
 refine two_le ?_
 refine Call.by _ _ (RightC_at n E) ?_
 refine Pick.by (fun h1 => ?_) (fun h1 => ?_)
 ·have h1 : ¬ RightP n E := by have h1 : (!decide (RightP n E)) = true := h1; simpa using h1
  refine Seg.by (by kernel_rfl) ?_;refine ⟨rfl, ?_⟩;show Sc.b false = Sc.b (pathB n E l)
  exact noP fun h => h1 h.1
 have h1 : RightP n E := by have h1 : (!decide (RightP n E)) = false := h1; simpa using h1
 refine Pick.by (fun h2 => ?_) (fun h2 => ?_)
 ·have h2 : l = [] := by simpa [ints] using h2
  refine Seg.by (by kernel_rfl) ?_;refine ⟨rfl, ?_⟩;show Sc.b false = Sc.b (pathB n E l)
  exact noP fun h => h.2.1 h2
 have h2 : l ≠ [] := by simpa [ints] using h2
 have hpos : 0 < l.length := List.length_pos_iff.2 h2
 have hhd : l[0] = l.headD 0 := by cases l with | nil => exact absurd rfl h2 | cons a l => rfl
 refine Idx.by 0 rfl (by rw [qiq]; exact hpos) ?_
 refine Look.by _ (qhq (qEq hpos)) ?_
 refine Pick.by (fun h3 => ?_) (fun h3 => ?_)
 ·have h3 : l[0] < 0 := of_decide_eq_true h3;refine Seg.by (by kernel_rfl) ?_;refine ⟨rfl, ?_⟩;show Sc.b false = Sc.b (pathB n E l)
  exact noP fun h => by have := h.2.2.1; omega
 have h3 : ¬ l[0] < 0 := of_decide_eq_false h3
 refine Idx.by 0 rfl (by rw [qiq]; exact hpos) ?_
 refine Look.by _ (qhq (qEq hpos)) ?_
 refine Pick.by (fun h4 => ?_) (fun h4 => ?_)
 ·have h4 : l[0] ≥ n := of_decide_eq_true h4;refine Seg.by (by kernel_rfl) ?_;refine ⟨rfl, ?_⟩;show Sc.b false = Sc.b (pathB n E l)
  exact noP fun h => by have := h.2.2.1; omega
 have h4 : ¬ l[0] ≥ n := of_decide_eq_false h4
 refine Call.by _ _ (UnlikeC_at hl) ?_
 refine Seg.by (by kernel_rfl) ?_
 refine Pick.by (fun h5 => ?_) (fun h5 => ?_)
 ·have h5 : ¬ l.Nodup := by have h5 : (!decide l.Nodup) = true := h5; simpa using h5
  refine ⟨rfl, ?_⟩;show Sc.b false = Sc.b (pathB n E l)
  exact noP fun h => h5 h.2.2.2.1
 have h5 : l.Nodup := by have h5 : (!decide l.Nodup) = false := h5; simpa using h5
 have hE4 := h1.2.2.1
 refine Pick.T (inI64_of (by rw [qiq]; show _ <= (l.length : Int) - 1; omega) (by rw [qiq]; show (l.length : Int) - 1 <= _; omega)) ?_
 refine LoopP.intro (α := Nat) (fun k => k + 1 <= l.length /\ ∀ i, i < k -> adjE E (l.getD i 0) (l.getD (i + 1) 0)) (fun k => l.length - k) (fun k => [(1, .sl 2 none none), (2, .ptr 0 0), (35, .s (.i .i64 ((l.length : Int) - 1))), (36, .s (.i .i64 k))])
  (fun k => [(0, some (.blk [.s (.i .i64 n), .sl 1 none none])), (1, some (.flat false 2 (edges E))), (2, some (.flat false 1 (ints l)))]) 3 0 ⟨by omega, fun i h => by omega⟩ (by refine Weak.bw (sg 0 [_,_,_]) (by ((repeat' first|exact rfl|exact trivial|apply And.intro) <;> (repeat' first|exact rfl|exact trivial|apply And.intro)); all_goals (exact sc_eq (by rw [qiq])))) ?_
 rintro k ⟨hk, hst⟩
 refine Pick.by (fun hc => ?_) (fun hc => ?_)
 ·have hlt : k + 1 < l.length := by have := of_decide_eq_true hc; omega
  refine Idx.by k rfl (by rw [qiq]; omega) ?_;refine Look.by _ (qhq (qEq (by omega))) ?_;refine Pick.n ?_;refine Idx.by (k + 1) (by omega) (by rw [qiq]; omega) ?_;refine Look.by _ (qhq (qEq hlt)) ?_;refine Call.by _ _ (HasGC_at _ _ (by omega)) ?_;refine Seg.by (by kernel_rfl) ?_;refine Pick.by (fun h6 => ?_) (fun h6 => ?_)
  ·have h6 : hasG n E l[k] l[k + 1] = false := by have h6 : (!hasG n E l[k] l[k + 1]) = true := h6; simpa using h6
   refine ⟨rfl, ?_⟩;show Sc.b false = Sc.b (pathB n E l)
   exact noP fun h => by
    have := h.2.2.2.2 k hlt;rw [getD_at (by omega), getD_at hlt, <- hasG_adj h1, h6] at this;cases this
  ·have h6 : hasG n E l[k] l[k + 1] = true := by have h6 : (!hasG n E l[k] l[k + 1]) = false := h6; simpa using h6
   refine Pick.n ?_;refine Next.by (k + 1) ⟨by omega, fun i hi => ?_⟩ (by omega) (by refine Weak.ba (sg 0 [_,_,_]));rcases Nat.lt_or_ge i k with h | h
   ·exact hst i h
   ·obtain rfl : i = k := by omega
    rw [getD_at (by omega), getD_at hlt, <- hasG_adj h1];exact h6
 ·have hge : l.length = k + 1 := by have := of_decide_eq_false hc; omega
  refine ⟨rfl, ?_⟩;show Sc.b true = Sc.b (pathB n E l)
  rw [pathB_iff.2 ⟨h1, h2, by omega, h5, fun i hi => hst i (by omega)⟩]
theorem nodup_step {l : List Int} {i : Nat} (hi : i < l.length) (h : (l.take i).Nodup) (k : ∀ j (hj : j < i), l[i] ≠ l[j]) : (l.take (i + 1)).Nodup := by
 rw [qTq hi, List.nodup_append]
 refine ⟨h, by simp, fun a ha b hb e => ?_⟩
 simp at hb
 subst hb
 subst e
 obtain ⟨j, hj, e⟩ := List.mem_iff_getElem.1 ha
 rw [List.length_take] at hj
 rw [List.getElem_take] at e
 exact k j (by omega) e.symm
theorem Unlike5_ok : SoundC Tryz.prog T 66 UnlikeC := by
 refine sound_con (X := { Γ := [], T := T, nt := 25 }) cr_none hmix hT sound_nil Tryz.func66 (by rfl) (by rfl) (by rfl) (by rfl) 1 ?_
 intro l hl
 have hl : l.length <= 1000000 := hl
 refine two_le ?_
 refine LoopP.intro (α := Nat) (fun i => i <= l.length /\ (l.take i).Nodup) (fun i => l.length - i) (fun i => [(0, .sl 0 none none), (3, .s (.i .i64 i))]) (fun i => [(0, some (.flat false 1 (ints l)))]) 1 0 ⟨by omega, by simp⟩ (by refine Weak.ba [(0, some _)]) ?_
 rintro i ⟨hi, hn⟩
 refine Pick.by (fun hc => ?_) (fun hc => ?_)
 ·have hlt : i < l.length := by simpa [qiq] using hc
  refine LoopP.intro (α := Nat) (fun k => k <= i /\ ∀ j (hj : j < k) (hji : j < i), l[i] ≠ l[j]) (fun k => i - k) (fun k => [(0, .sl 0 none none), (3, .s (.i .i64 i)), (4, .s (.i .i64 k))]) (fun k => [(0, some (.flat false 1 (ints l)))]) 1 0 ⟨by omega, fun j hj => by omega⟩ (by refine Weak.ba [(0, some _)]) ?_;rintro k ⟨hk, hd⟩;refine Pick.by (fun he => ?_) (fun he => ?_)
  ·have hki : k < i := by simpa using he
   have hkl : k < l.length := by omega
   refine Idx.by i rfl (by rw [qiq]; exact hlt) ?_;refine Look.by _ (qhq (qEq hlt)) ?_;refine Idx.by k rfl (by rw [qiq]; exact hkl) ?_;refine Look.by _ (qhq (qEq hkl)) ?_;refine Seg.by (by kernel_rfl) ?_;refine Pick.by (fun hq => ?_) (fun hq => ?_)
   ·have hq : l[i] = l[k] := by simpa using hq
    refine ⟨rfl, ?_⟩;show Sc.b false = Sc.b (decide l.Nodup)
    rw [decide_eq_false (show ¬ l.Nodup from fun h => (List.pairwise_iff_getElem.1 (show l.Pairwise (fun a b => a ≠ b) from h) k i hkl hlt hki) hq.symm)]
   ·have hq : ¬ l[i] = l[k] := by simpa using hq
    refine Pick.n ?_;refine Next.by (k + 1) ⟨by omega, fun j hj hji => ?_⟩ (by omega) (by refine Weak.ba [(0, some _)]);rcases Nat.lt_or_ge j k with h | h
    ·exact hd j h hji
    ·have : j = k := by omega
     subst this; exact hq
  ·have hge : i <= k := by simpa using he
   refine Pick.n ?_;refine Next.by (i + 1) ⟨by omega, nodup_step hlt hn fun j hj => hd j (by omega) hj⟩ (by omega) (by refine Weak.ba [(0, some _)])
 ·have hge : l.length <= i := by simpa [qiq] using hc
  rw [List.take_of_length_le hge] at hn;refine ⟨rfl, ?_⟩;show Sc.b true = Sc.b (decide l.Nodup)
  rw [decide_eq_true hn]
theorem nodup_len {l : List Int} : ∀ {m : List Int}, l.Nodup -> (∀ x ∈ l, x ∈ m) -> l.length <= m.length := by
 induction l with
 | nil => intro m _ _; simp
 | cons x l ih =>
  intro m h s;rw [List.nodup_cons] at h;have hx := s x (by simp);have := ih (m := m.erase x) h.2 fun y hy => (List.mem_erase_of_ne (fun (e : y = x) => h.1 (by rw [<- e]; exact hy))).2 (s y (by simp [hy]))
  rw [List.length_erase_of_mem hx] at this;have := List.length_pos_of_mem hx;simp; omega
theorem flatten_len {S : List (List Int)} {m : Nat} (h : ∀ l ∈ S, l.length <= m) : S.flatten.length <= S.length * m := by
 induction S with
 | nil => simp
 | cons x S ih =>
  have h1 := h x (by simp);have h2 := ih fun l hl => h l (by simp [hl])
  rw [List.flatten_cons, List.length_append, List.length_cons, Nat.succ_mul];omega
theorem flat_snoc (S : List (List Int)) (x : List Int) : (S ++ [x]).flatten = S.flatten ++ x := by simp
theorem ints_append (l m : List Int) : ints (l ++ m) = ints l ++ ints m := by simp [ints]
def fewL (L : List (List Int)) : Prop := L.length <= 100 /\ ∀ l ∈ L, l.length <= 5000
theorem srt_two {v : Int} : ∀ {l : List Int}, l.Pairwise (· <= ·) -> v ∈ l -> ((l[l.countP (· < v) + 1]? = some v) ↔ l.count v ≠ 1)
 | [], _, h => by simp at h
 | a :: r, hs, hm => by
  obtain ⟨h1, h2⟩ := List.pairwise_cons.1 hs;rcases Int.lt_trichotomy a v with h | h | h
  ·have hm' : v ∈ r := by rcases List.mem_cons.1 hm with e | e; (· omega); exact e
   have ih := srt_two h2 hm';rw [List.countP_cons_of_pos (by simpa using h), List.getElem?_cons_succ, ih, List.count_cons_of_ne (by omega)]
  ·subst h;have h0 : r.countP (· < a) = 0 := List.countP_eq_zero.2 fun x hx => by have := h1 x hx; simp; omega
   rw [List.countP_cons_of_neg (by simp), h0, List.count_cons_self]
   cases r with
   | nil => simp
   | cons b r =>
    obtain ⟨h3, h4⟩ := List.pairwise_cons.1 h2;have hb := h1 b (by simp);simp only [Nat.zero_add, List.getElem?_cons_succ, List.getElem?_cons_zero, Option.some.injEq];by_cases e : b = a
    ·subst e; simp
    ·have : (b :: r).count a = 0 := List.count_eq_zero.2 fun hx => by
      rcases List.mem_cons.1 hx with e2 | e2
      ·exact e e2.symm
      ·have := h3 a e2; omega
     rw [this]; simp [e]
  ·exfalso
   rcases List.mem_cons.1 hm with e | e
   ·omega
   ·have := h1 v e; omega
def fewA (L : List (List Int)) : Prop := L.length <= 1000 /\ (∀ l ∈ L, l.length <= 5000) /\ L.flatten.length <= 500000
theorem few_app {L : List (List Int)} (h : fewL L) : fewA L := by
 refine ⟨by have := h.1; omega, h.2, ?_⟩
 have h1 := flatten_len (S := L) (m := 5000) h.2
 have h2 := Nat.mul_le_mul_right 5000 h.1
 omega
theorem take_flat (L : List (List Int)) (i : Nat) : (L.take i).flatten.length <= L.flatten.length := by
 conv => rhs; rw [<- List.take_append_drop i L, List.flatten_append, List.length_append]
 omega
noncomputable def ApartC : Con := conP 1 (fun L : List (List Int) => fewA L) (fun L => [.one (.nest false 1 (rowsI L))]) (fun L => .one (.s (.b (apartB L))))
theorem ApartC_at {L : List (List Int)} (h : fewA L) : ApartC.F [.one (.nest false 1 (rowsI L))] = some (.one (.s (.b (apartB L))), []) :=
 conP_at (a := L) (fun x y _ _ h => by simp at h; rw [rowsI_inj h]) h
theorem noA {L : List (List Int)} (h : ¬ ApartP L) : Sc.b false = Sc.b (apartB L) := by rw [apartB_no h]
set_option maxHeartbeats 1000000 in
theorem Apart_ok : SoundC Tryz.prog T 58 ApartC := by
 refine sound_con (X := { Γ := [(82, SearchC)], T := T, nt := 65, ext := [81] }) (rowIn_ok Sort_row) hmix hT (sound_cons Search_ok sound_nil) Tryz.func58 (by rfl) (by rfl) (by rfl) (by rfl) 1 ?_
 rintro L ⟨hL, hLr, hLf⟩
 refine two_le ?_
 refine LoopP.intro (α := Nat) (fun i => i <= L.length) (fun i => L.length - i) (fun i => [(0, .sl 0 none none), (3, .sl 1 none none), (12, .sl 0 none none), (13, .s (.i .i64 L.length)), (14, .s (.i .i64 i))])
  (fun i => [(0, some (.nest false 1 (rowsI L) [] [])), (1, some (.flat true 1 (ints (L.take i).flatten)))]) 2 0 (by omega) (by refine Weak.bw [(0, some _), (1, none)] (by ((repeat' first|exact rfl|exact trivial|apply And.intro) <;> (repeat' first|exact rfl|exact trivial|apply And.intro)); all_goals (exact sc_eq (by rw [qrq])))) ?_
 rintro i hi
 have hfl : (L.take i).flatten.length <= 500000 := Nat.le_trans (take_flat L i) hLf
 refine Pick.by (fun hc => ?_) (fun hc => ?_)
 ·have hlt : i < L.length := by have := of_decide_eq_true hc; omega
  have hSi : L[i]? = some L[i] := qEq hlt;have hsl := hLr _ (List.getElem_mem hlt);refine Idx.by i rfl (by rw [qrq]; exact hlt) ?_;refine Pick.T (by simpa [qrq] using hlt) ?_;refine Look.by _ (qgq hSi) ?_;refine Pick.T (by simp [cut, qiq] at hfl ⊢; omega) ?_;refine Pick.n ?_;refine Next.by (i + 1) (by omega) (by omega) (by refine Weak.bw [(0, some _), (1, some _)] (by ((repeat' first|exact rfl|exact trivial|apply And.intro) <;> (repeat' first|exact rfl|exact trivial|apply And.intro)); all_goals ((rw [qTq hlt, flat_snoc, ints_append]; rfl))))
 have hge : L.length <= i := by have := of_decide_eq_false hc; omega
 rw [List.take_of_length_le hge] at hfl ⊢
 refine ⟨rfl, _, rfl, by omega, ?_⟩
 have hss := sortI_sorted L.flatten
 have hsp : (sortI L.flatten).Perm L.flatten := List.mergeSort_perm _ _
 have hsl := sortI_length L.flatten
 obtain ⟨M, hM⟩ : ∃ M, sortI L.flatten = M := ⟨_, rfl⟩
 rw [hM] at hss hsp hsl ⊢
 refine LoopP.intro (α := Nat) (fun i => i <= L.length /\ ∀ r ∈ L.take i, ∀ v ∈ innerL r, L.flatten.count v = 1) (fun i => L.length - i) (fun i => [(3, .sl 1 none none), (24, .sl 0 none none), (25, .s (.i .i64 L.length)), (26, .s (.i .i64 i))])
  (fun i => [(0, some (.nest false 1 (rowsI L) [] [])), (1, some (.flat true 1 (ints M)))]) 2 0 ⟨by omega, by simp⟩ (by refine Weak.bw [(0, some _), (1, some _)] (by ((repeat' first|exact rfl|exact trivial|apply And.intro) <;> (repeat' first|exact rfl|exact trivial|apply And.intro)); all_goals (exact sc_eq (by rw [qrq])))) ?_
 rintro i ⟨hi, hap⟩
 refine Pick.by (fun hc => ?_) (fun hc => ?_)
 ·have hlt : i < L.length := by have := of_decide_eq_true hc; omega
  have hrl := hLr _ (List.getElem_mem hlt);have hLi : L[i]? = some L[i] := qEq hlt;have hmem : L[i] ∈ L := List.getElem_mem hlt;obtain ⟨p, hp⟩ : ∃ p, L[i] = p := ⟨_, rfl⟩;rw [hp] at hrl hLi hmem;have hnext : (∀ v ∈ innerL p, L.flatten.count v = 1) -> ∀ r ∈ L.take (i + 1), ∀ v ∈ innerL r, L.flatten.count v = 1 := fun h => all_take hlt hap (by rw [hp]; exact h)
  refine Idx.by i rfl (by rw [qrq]; exact hlt) ?_;refine Pick.T (by simpa [qrq] using hlt) ?_;refine Look.by _ (qgq hLi) ?_;refine Pick.by (fun h3 => ?_) (fun h3 => ?_)
  ·have h3 : p.length < 3 := by have := of_decide_eq_true h3; rw [qiq] at this; omega
   refine Pick.n ?_;refine Next.by (i + 1) ⟨by omega, hnext fun v hv => ?_⟩ (by omega) (by refine Weak.ba [(0, some _), (1, some _)]);obtain ⟨j, hj, _⟩ := mem_inner.1 hv;omega
  have h3 : 3 <= p.length := by have := of_decide_eq_false h3; rw [qiq] at this; omega
  refine Look.by _ (qgq hLi) ?_;refine Pick.T (inI64_of (by rw [qiq]; omega) (by rw [qiq]; omega)) ?_;refine Look.by _ (qgq hLi) ?_;refine Rng.by 1 (p.length - 1) rfl (by rw [qiq]; omega) (by omega) (by rw [qiq]; omega) ?_;refine Look.by _ (qgq hLi) ?_;refine LoopP.intro (α := Nat) (fun j => j <= p.length - 1 - 1 /\ ∀ v ∈ (innerL p).take j, L.flatten.count v = 1) (fun j => p.length - 1 - 1 - j) (fun j => [(3, .sl 1 none none), (24, .sl 0 none none), (25, .s (.i .i64 L.length)), (26, .s (.i .i64 i)), (37, .sl 0 (some (i, 0)) (some (1, p.length - 1 - 1))), (38, .s (.i .i64 (p.length - 1 - 1 : Nat))), (39, .s (.i .i64 j))])
   (fun j => [(0, some (.nest false 1 (rowsI L) [] [])), (1, some (.flat true 1 (ints M)))]) 2 0 ⟨by omega, by simp⟩ (by refine Weak.bw [(0, some _), (1, some _)] (by ((repeat' first|exact rfl|exact trivial|apply And.intro) <;> (repeat' first|exact rfl|exact trivial|apply And.intro)); all_goals (simp))) ?_
  rintro j ⟨hj, hjp⟩;refine Pick.by (fun hc2 => ?_) (fun hc2 => ?_)
  ·have hjl : j < p.length - 1 - 1 := by have := of_decide_eq_true hc2; omega
   have hj1 : 1 + j < p.length := by omega
   refine Look.by _ (qgq hLi) ?_;refine Idx.by j rfl hjl ?_;refine Look.by _ (qgq hLi) ?_;refine Look.by _ (qhq (qEq hj1)) ?_;have hil : j < (innerL p).length := by rw [innerL_length]; omega
   have hve : (innerL p)[j] = p[1 + j] := by rw [innerL_get (by omega)]; congr 1; omega
   have hvi : p[1 + j] ∈ innerL p := by rw [<- hve]; exact List.getElem_mem hil
   obtain ⟨v, hv⟩ : ∃ v, p[1 + j] = v := ⟨_, rfl⟩;rw [hv] at hve hvi ⊢;have hvp : v ∈ p := by rw [<- hv]; exact List.getElem_mem _
   have hvM : v ∈ M := hsp.mem_iff.2 (List.mem_flatten.2 ⟨p, hmem, hvp⟩);have htw := srt_two hss hvM;have hcn : M.count v = L.flatten.count v := hsp.count_eq v;rw [hcn] at htw;have hcl : M.countP (· < v) <= M.length := List.countP_le_length;refine Call.by _ _ (SearchC_at (x := v) ⟨hss, by omega⟩) ?_;refine Pick.n ?_;have hgo : ¬ M[M.countP (· < v) + 1]? = some v -> ∀ u ∈ (innerL p).take (j + 1), L.flatten.count u = 1 := fun h => all_take hil hjp (by rw [hve]; exact Decidable.not_not.1 fun k => h (htw.2 k))
   refine Pick.by (fun h6 => ?_) (fun h6 => ?_)
   ·have h6 : M.countP (· < v) + 1 < M.length := by have := of_decide_eq_true h6; rw [qiq] at this; omega
    refine Pick.n ?_;refine Idx.by (M.countP (· < v) + 1) (by omega) (by rw [qiq]; exact h6) ?_;refine Look.by _ (qhq (qEq h6)) ?_;refine Pick.by (fun h7 => ?_) (fun h7 => ?_)
    ·have h7 : M[M.countP (· < v) + 1] = v := by simpa using h7
     refine ⟨rfl, ?_⟩;show Sc.b false = Sc.b (apartB L)
     exact noA fun h => htw.1 (by rw [qEq h6, h7]) (h p hmem v hvi)
    ·have h7 : ¬ M[M.countP (· < v) + 1] = v := by simpa using h7
     refine Pick.n ?_;refine Next.by (j + 1) ⟨by omega, hgo (by rw [qEq h6]; simpa using h7)⟩ (by omega) (by refine Weak.bw [(0, some _), (1, some _)] (by ((repeat' first|exact rfl|exact trivial|apply And.intro) <;> (repeat' first|exact rfl|exact trivial|apply And.intro)); all_goals (simp)))
   ·have h6 : ¬ M.countP (· < v) + 1 < M.length := by have := of_decide_eq_false h6; rw [qiq] at this; omega
    refine Pick.n ?_;refine Next.by (j + 1) ⟨by omega, hgo (by rw [List.getElem?_eq_none (by omega)]; simp)⟩ (by omega) (by refine Weak.bw [(0, some _), (1, some _)] (by ((repeat' first|exact rfl|exact trivial|apply And.intro) <;> (repeat' first|exact rfl|exact trivial|apply And.intro)); all_goals (simp)))
  ·have hjg : p.length - 1 - 1 <= j := by have := of_decide_eq_false hc2; omega
   refine Pick.n ?_;refine Next.by (i + 1) ⟨by omega, hnext ?_⟩ (by omega) (by refine Weak.ba [(0, some _), (1, some _)]);rw [List.take_of_length_le (by rw [innerL_length]; omega)] at hjp;exact hjp
 ·have hge : L.length <= i := by have := of_decide_eq_false hc; omega
  rw [List.take_of_length_le hge] at hap;refine ⟨rfl, ?_⟩;show Sc.b true = Sc.b (apartB L)
  rw [apartB_iff.2 hap]
end Go.Sh
