/- The statement about the solutions that are made out of bodies (UnifyMakes) holds for every input. Here: The program's functions as abstract code. -/
import Derived.Test.YtnlnkcibhdiocaaGreatB2
import Derived.KernelRfl

set_option linter.unusedVariables false
set_option linter.unusedSimpArgs false
set_option linter.unnecessarySimpa false

/-! The program's functions as abstract code. -/
namespace Go.Tm
open Go.Abs Go.Proofs
set_option maxRecDepth 20000

/-- tenet/level.sorted -/
def F210 : AFunc := ⟨9, [.tmp 2],
 .seq (.ops [] [⟨some 2, none, .mv (.k (.nil 2))⟩])
 (.seq (.ops [] [⟨some 4, none, .tk 0⟩,
 ⟨some 5, none, .callS 242 [.t 4]⟩,
 ⟨some 3, none, .tk 5⟩])
 (.seq (.ops [] [⟨some 6, none, .tk 3⟩,
 ⟨some 7, none, .callS 243 [.t 6, .k (.d (.func 244 []))]⟩])
 (.seq (.ops [] [⟨some 8, none, .tk 3⟩,
 ⟨some 2, none, .tk 8⟩])
 (.ret))))⟩
theorem z210 : sp0 210 = some (.code F210) := by kernel_rfl

/-- tenet/level.sorted$1 -/
def F244 : AFunc := ⟨10, [.tmp 4],
 .seq (.ops [] [⟨some 2, none, .box true 2 (.t 0)⟩,
 ⟨some 3, none, .box true 2 (.t 1)⟩,
 ⟨some 4, none, .mv (.k (.d (.int .i64 0)))⟩])
 (.seq (.ops [] [⟨some 5, none, .fa 0 1 false (.t 2)⟩,
 ⟨some 6, none, .ld false 1 (.t 5)⟩,
 ⟨some 7, none, .fa 0 1 false (.t 3)⟩,
 ⟨some 8, none, .ld false 1 (.t 7)⟩,
 ⟨some 9, none, .call 245 [.t 6, .t 8]⟩,
 ⟨some 4, none, .tk 9⟩])
 (.ret))⟩
theorem z244 : sp0 244 = some (.code F244) := by kernel_rfl

/-- cmp.Compare[int] -/
def F245 : AFunc := ⟨20, [.tmp 4],
 .seq (.ops [] [⟨some 4, none, .mv (.k (.d (.int .i64 0)))⟩])
 (.seq (.ops [] [⟨some 7, none, .mv (.t 0)⟩,
 ⟨some 8, none, .call 266 [.t 7]⟩,
 ⟨some 5, none, .tk 8⟩])
 (.seq (.ops [] [⟨some 9, none, .mv (.t 1)⟩,
 ⟨some 10, none, .call 266 [.t 9]⟩,
 ⟨some 6, none, .tk 10⟩])
 (.seq (.seq (.ops [] [⟨some 11, none, .mv (.t 5)⟩])
 (.cond (.t 11) (.seq (.seq (.ops [] [⟨some 12, none, .mv (.t 6)⟩])
 (.cond (.t 12) (.seq (.ops [] [⟨some 4, none, .mv (.k (.d (.int .i64 0)))⟩])
 (.ret))
 (.skip)))
 (.seq (.ops [] [⟨some 4, none, .mv (.k (.d (.int .i64 (-1))))⟩])
 (.ret)))
 (.skip)))
 (.seq (.seq (.ops [] [⟨some 13, none, .mv (.t 6)⟩])
 (.cond (.t 13) (.seq (.ops [] [⟨some 4, none, .mv (.k (.d (.int .i64 1)))⟩])
 (.ret))
 (.skip)))
 (.seq (.seq (.ops [] [⟨some 14, none, .mv (.t 0)⟩,
 ⟨some 15, none, .mv (.t 1)⟩,
 ⟨some 16, none, .bin .lss (.t 14) (.t 15)⟩])
 (.cond (.t 16) (.seq (.ops [] [⟨some 4, none, .mv (.k (.d (.int .i64 (-1))))⟩])
 (.ret))
 (.skip)))
 (.seq (.seq (.ops [] [⟨some 17, none, .mv (.t 0)⟩,
 ⟨some 18, none, .mv (.t 1)⟩,
 ⟨some 19, none, .bin .gtr (.t 17) (.t 18)⟩])
 (.cond (.t 19) (.seq (.ops [] [⟨some 4, none, .mv (.k (.d (.int .i64 1)))⟩])
 (.ret))
 (.skip)))
 (.seq (.ops [] [⟨some 4, none, .mv (.k (.d (.int .i64 0)))⟩])
 (.ret))))))))⟩
theorem z245 : sp0 245 = some (.code F245) := by kernel_rfl

/-- cmp.isNaN[int] -/
def F266 : AFunc := ⟨6, [.tmp 2],
 .seq (.ops [] [⟨some 2, none, .mv (.k (.d (.bool false)))⟩])
 (.seq (.ops [] [⟨some 3, none, .mv (.t 0)⟩,
 ⟨some 4, none, .mv (.t 0)⟩,
 ⟨some 5, none, .bin .neq (.t 3) (.t 4)⟩,
 ⟨some 2, none, .tk 5⟩])
 (.ret))⟩
theorem z266 : sp0 266 = some (.code F266) := by kernel_rfl

/-- slices.Clone[tenet/level.parts,tenet/api.LVar] -/
def F242 : AFunc := ⟨8, [.tmp 2],
 .seq (.ops [] [⟨some 2, none, .mv (.k (.nil 2))⟩])
 (.seq (.seq (.ops [] [⟨some 3, none, .mv (.t 0)⟩,
 ⟨some 4, none, .isNil 0 (.t 3) false⟩])
 (.cond (.t 4) (.seq (.ops [] [⟨some 2, none, .mv (.k (.nil 2))⟩])
 (.ret))
 (.skip)))
 (.seq (.ops [] [⟨some 5, none, .mkslice 2 [.d (.int .i64 0), .d (.int .i64 0)] (.k (.d (.int .i64 0))) (.k (.d (.int .i64 0)))⟩,
 ⟨some 6, none, .mv (.t 0)⟩,
 ⟨some 7, none, .appM 2 (.t 5) (.t 6)⟩,
 ⟨some 2, none, .tk 7⟩])
 (.ret)))⟩
theorem z242 : sp0 242 = some (.code F242) := by kernel_rfl

/-- slices.SortFunc[tenet/level.parts,tenet/api.LVar] -/
def F243 : AFunc := ⟨14, [],
 .seq (.ops [] [⟨some 5, none, .mv (.t 0)⟩,
 ⟨some 6, none, .len 1 (.t 5)⟩,
 ⟨some 4, none, .tk 6⟩])
 (.ops [] [⟨some 7, none, .tk 0⟩,
 ⟨some 8, none, .tk 4⟩,
 ⟨some 9, none, .mv (.t 4)⟩,
 ⟨some 10, none, .conv .u64 (.t 9)⟩,
 ⟨some 11, none, .call 247 [.t 10]⟩,
 ⟨some 12, none, .tk 1⟩,
 ⟨some 13, none, .callS 265 [.t 7, .k (.d (.int .i64 0)), .t 8, .t 11, .t 12]⟩])⟩
theorem z243 : sp0 243 = some (.code F243) := by kernel_rfl

/-- slices.pdqsortCmpFunc[tenet/api.LVar] -/
def F265 : AFunc := ⟨148, [],
 .seq (.ops [] [⟨some 10, none, .mv (.k (.d (.bool true)))⟩])
 (.seq (.ops [] [⟨some 11, none, .mv (.k (.d (.bool true)))⟩])
 (.block 0 (.loop 148 [0, 1, 2, 3, 4, 10, 11] (.block 1 (.seq (.ops [] [⟨some 21, none, .mv (.t 2)⟩,
 ⟨some 22, none, .mv (.t 1)⟩,
 ⟨some 23, none, .bin .sub (.t 21) (.t 22)⟩,
 ⟨some 12, none, .tk 23⟩])
 (.seq (.seq (.ops [] [⟨some 24, none, .mv (.t 12)⟩,
 ⟨some 25, none, .bin .leq (.t 24) (.k (.d (.int .i64 12)))⟩])
 (.cond (.t 25) (.seq (.ops [] [⟨some 26, none, .tk 0⟩,
 ⟨some 27, none, .tk 1⟩,
 ⟨some 28, none, .tk 2⟩,
 ⟨some 29, none, .tk 4⟩,
 ⟨some 30, none, .callS 311 [.t 26, .t 27, .t 28, .t 29]⟩])
 (.ret))
 (.skip)))
 (.seq (.seq (.ops [] [⟨some 31, none, .mv (.t 3)⟩,
 ⟨some 32, none, .bin .eql (.t 31) (.k (.d (.int .i64 0)))⟩])
 (.cond (.t 32) (.seq (.ops [] [⟨some 33, none, .tk 0⟩,
 ⟨some 34, none, .tk 1⟩,
 ⟨some 35, none, .tk 2⟩,
 ⟨some 36, none, .tk 4⟩,
 ⟨some 37, none, .callS 312 [.t 33, .t 34, .t 35, .t 36]⟩])
 (.ret))
 (.skip)))
 (.seq (.seq (.ops [] [⟨some 38, none, .mv (.t 10)⟩,
 ⟨some 39, none, .not (.t 38)⟩])
 (.cond (.t 39) (.seq (.ops [] [⟨some 40, none, .tk 0⟩,
 ⟨some 41, none, .tk 1⟩,
 ⟨some 42, none, .tk 2⟩,
 ⟨some 43, none, .tk 4⟩,
 ⟨some 44, none, .callS 313 [.t 40, .t 41, .t 42, .t 43]⟩])
 (.ops [] [⟨some 45, none, .mv (.t 3)⟩,
 ⟨some 46, none, .bin .sub (.t 45) (.k (.d (.int .i64 1)))⟩,
 ⟨some 3, none, .tk 46⟩]))
 (.skip)))
 (.seq (.ops [] [⟨some 48, none, .tk 0⟩,
 ⟨some 49, none, .tk 1⟩,
 ⟨some 50, none, .tk 2⟩,
 ⟨some 51, none, .tk 4⟩,
 ⟨some 52, none, .callS 314 [.t 48, .t 49, .t 50, .t 51]⟩,
 ⟨some 47, none, .mv (.t 52)⟩,
 ⟨some 53, none, .ext (.t 47) 0⟩,
 ⟨some 54, none, .ext (.t 47) 1⟩,
 ⟨some 13, none, .tk 53⟩,
 ⟨some 14, none, .tk 54⟩])
 (.seq (.seq (.ops [] [⟨some 55, none, .mv (.t 14)⟩,
 ⟨some 56, none, .bin .eql (.t 55) (.k (.d (.int .i64 2)))⟩])
 (.cond (.t 56) (.seq (.ops [] [⟨some 57, none, .tk 0⟩,
 ⟨some 58, none, .tk 1⟩,
 ⟨some 59, none, .tk 2⟩,
 ⟨some 60, none, .tk 4⟩,
 ⟨some 61, none, .callS 315 [.t 57, .t 58, .t 59, .t 60]⟩])
 (.seq (.ops [] [⟨some 62, none, .mv (.t 2)⟩,
 ⟨some 63, none, .bin .sub (.t 62) (.k (.d (.int .i64 1)))⟩,
 ⟨some 64, none, .mv (.t 13)⟩,
 ⟨some 65, none, .mv (.t 1)⟩,
 ⟨some 66, none, .bin .sub (.t 64) (.t 65)⟩,
 ⟨some 67, none, .bin .sub (.t 63) (.t 66)⟩,
 ⟨some 13, none, .tk 67⟩])
 (.ops [] [⟨some 14, none, .mv (.k (.d (.int .i64 1)))⟩])))
 (.skip)))
 (.seq (.seq (.ops [] [⟨some 68, none, .mv (.t 10)⟩,
 ⟨some 69, none, .mv (.t 68)⟩,
 ⟨some 70, some (69, true), .mv (.t 11)⟩,
 ⟨some 71, none, .pick (.t 69) (.t 70) (.k (.d (.bool false)))⟩,
 ⟨some 72, none, .mv (.t 71)⟩,
 ⟨some 73, some (72, true), .mv (.t 14)⟩,
 ⟨some 74, some (72, true), .bin .eql (.t 73) (.k (.d (.int .i64 1)))⟩,
 ⟨some 75, none, .pick (.t 72) (.t 74) (.k (.d (.bool false)))⟩])
 (.cond (.t 75) (.seq (.ops [] [⟨some 76, none, .tk 0⟩,
 ⟨some 77, none, .tk 1⟩,
 ⟨some 78, none, .tk 2⟩,
 ⟨some 79, none, .tk 4⟩,
 ⟨some 80, none, .callS 316 [.t 76, .t 77, .t 78, .t 79]⟩])
 (.cond (.t 80) (.ret)
 (.skip)))
 (.skip)))
 (.seq (.seq (.ops [] [⟨some 81, none, .mv (.t 1)⟩,
 ⟨some 82, none, .bin .gtr (.t 81) (.k (.d (.int .i64 0)))⟩,
 ⟨some 83, none, .mv (.t 82)⟩,
 ⟨some 84, some (83, true), .mv (.t 4)⟩,
 ⟨some 85, some (83, true), .mv (.t 0)⟩,
 ⟨some 86, some (83, true), .mv (.t 1)⟩,
 ⟨some 87, some (83, true), .bin .sub (.t 86) (.k (.d (.int .i64 1)))⟩,
 ⟨some 88, some (83, true), .ia 2 true (.t 85) (.t 87)⟩,
 ⟨some 89, some (83, true), .ld true 2 (.t 88)⟩,
 ⟨some 90, some (83, true), .mv (.t 0)⟩,
 ⟨some 91, some (83, true), .mv (.t 13)⟩,
 ⟨some 92, some (83, true), .ia 2 true (.t 90) (.t 91)⟩,
 ⟨some 93, some (83, true), .ld true 2 (.t 92)⟩,
 ⟨some 94, some (83, true), .callVS (.t 84) [.t 89, .t 93]⟩,
 ⟨some 95, some (83, true), .bin .lss (.t 94) (.k (.d (.int .i64 0)))⟩,
 ⟨some 96, some (83, true), .not (.t 95)⟩,
 ⟨some 97, none, .pick (.t 83) (.t 96) (.k (.d (.bool false)))⟩])
 (.cond (.t 97) (.seq (.ops [] [⟨some 98, none, .tk 0⟩,
 ⟨some 99, none, .tk 1⟩,
 ⟨some 100, none, .tk 2⟩,
 ⟨some 101, none, .tk 13⟩,
 ⟨some 102, none, .tk 4⟩,
 ⟨some 103, none, .callS 317 [.t 98, .t 99, .t 100, .t 101, .t 102]⟩,
 ⟨some 15, none, .tk 103⟩])
 (.seq (.ops [] [⟨some 104, none, .tk 15⟩,
 ⟨some 1, none, .tk 104⟩])
 (.exit 1)))
 (.skip)))
 (.seq (.ops [] [⟨some 106, none, .tk 0⟩,
 ⟨some 107, none, .tk 1⟩,
 ⟨some 108, none, .tk 2⟩,
 ⟨some 109, none, .tk 13⟩,
 ⟨some 110, none, .tk 4⟩,
 ⟨some 111, none, .callS 318 [.t 106, .t 107, .t 108, .t 109, .t 110]⟩,
 ⟨some 105, none, .mv (.t 111)⟩,
 ⟨some 112, none, .ext (.t 105) 0⟩,
 ⟨some 113, none, .ext (.t 105) 1⟩,
 ⟨some 16, none, .tk 112⟩,
 ⟨some 17, none, .tk 113⟩])
 (.seq (.ops [] [⟨some 114, none, .tk 17⟩,
 ⟨some 11, none, .tk 114⟩])
 (.seq (.ops [] [⟨some 115, none, .mv (.t 16)⟩,
 ⟨some 116, none, .mv (.t 1)⟩,
 ⟨some 117, none, .bin .sub (.t 115) (.t 116)⟩,
 ⟨some 118, none, .mv (.t 2)⟩,
 ⟨some 119, none, .mv (.t 16)⟩,
 ⟨some 120, none, .bin .sub (.t 118) (.t 119)⟩,
 ⟨some 18, none, .tk 117⟩,
 ⟨some 19, none, .tk 120⟩])
 (.seq (.ops [] [⟨some 121, none, .mv (.t 12)⟩,
 ⟨some 122, none, .bin .quo (.t 121) (.k (.d (.int .i64 8)))⟩,
 ⟨some 20, none, .tk 122⟩])
 (.seq (.ops [] [⟨some 123, none, .mv (.t 18)⟩,
 ⟨some 124, none, .mv (.t 19)⟩,
 ⟨some 125, none, .bin .lss (.t 123) (.t 124)⟩])
 (.cond (.t 125) (.seq (.ops [] [⟨some 126, none, .mv (.t 18)⟩,
 ⟨some 127, none, .mv (.t 20)⟩,
 ⟨some 128, none, .bin .geq (.t 126) (.t 127)⟩,
 ⟨some 10, none, .tk 128⟩])
 (.seq (.ops [] [⟨some 129, none, .tk 0⟩,
 ⟨some 130, none, .tk 1⟩,
 ⟨some 131, none, .tk 16⟩,
 ⟨some 132, none, .tk 3⟩,
 ⟨some 133, none, .tk 4⟩,
 ⟨some 134, none, .callS 265 [.t 129, .t 130, .t 131, .t 132, .t 133]⟩])
 (.ops [] [⟨some 135, none, .mv (.t 16)⟩,
 ⟨some 136, none, .bin .add (.t 135) (.k (.d (.int .i64 1)))⟩,
 ⟨some 1, none, .tk 136⟩])))
 (.seq (.ops [] [⟨some 137, none, .mv (.t 19)⟩,
 ⟨some 138, none, .mv (.t 20)⟩,
 ⟨some 139, none, .bin .geq (.t 137) (.t 138)⟩,
 ⟨some 10, none, .tk 139⟩])
 (.seq (.ops [] [⟨some 140, none, .tk 0⟩,
 ⟨some 141, none, .mv (.t 16)⟩,
 ⟨some 142, none, .bin .add (.t 141) (.k (.d (.int .i64 1)))⟩,
 ⟨some 143, none, .tk 2⟩,
 ⟨some 144, none, .tk 3⟩,
 ⟨some 145, none, .tk 4⟩,
 ⟨some 146, none, .callS 265 [.t 140, .t 142, .t 143, .t 144, .t 145]⟩])
 (.ops [] [⟨some 147, none, .tk 16⟩,
 ⟨some 2, none, .tk 147⟩])))))))))))))))))))))⟩
theorem z265 : sp0 265 = some (.code F265) := by kernel_rfl

/-- slices.insertionSortCmpFunc[tenet/api.LVar] -/
def F311 : AFunc := ⟨53, [],
 .seq (.ops [] [⟨some 10, none, .mv (.t 1)⟩,
 ⟨some 11, none, .bin .add (.t 10) (.k (.d (.int .i64 1)))⟩,
 ⟨some 8, none, .tk 11⟩])
 (.block 0 (.loop 53 [0, 1, 2, 3, 8] (.seq (.seq (.ops [] [⟨some 12, none, .mv (.t 8)⟩,
 ⟨some 13, none, .mv (.t 2)⟩,
 ⟨some 14, none, .bin .lss (.t 12) (.t 13)⟩])
 (.cond (.t 14) (.skip)
 (.exit 0)))
 (.seq (.block 1 (.seq (.ops [] [⟨some 17, none, .tk 8⟩,
 ⟨some 9, none, .tk 17⟩])
 (.block 2 (.loop 53 [0, 1, 2, 3, 8, 9] (.seq (.seq (.ops [] [⟨some 18, none, .mv (.t 9)⟩,
 ⟨some 19, none, .mv (.t 1)⟩,
 ⟨some 20, none, .bin .gtr (.t 18) (.t 19)⟩,
 ⟨some 21, none, .mv (.t 20)⟩,
 ⟨some 22, some (21, true), .mv (.t 3)⟩,
 ⟨some 23, some (21, true), .mv (.t 0)⟩,
 ⟨some 24, some (21, true), .mv (.t 9)⟩,
 ⟨some 25, some (21, true), .ia 2 true (.t 23) (.t 24)⟩,
 ⟨some 26, some (21, true), .ld true 2 (.t 25)⟩,
 ⟨some 27, some (21, true), .mv (.t 0)⟩,
 ⟨some 28, some (21, true), .mv (.t 9)⟩,
 ⟨some 29, some (21, true), .bin .sub (.t 28) (.k (.d (.int .i64 1)))⟩,
 ⟨some 30, some (21, true), .ia 2 true (.t 27) (.t 29)⟩,
 ⟨some 31, some (21, true), .ld true 2 (.t 30)⟩,
 ⟨some 32, some (21, true), .callVS (.t 22) [.t 26, .t 31]⟩,
 ⟨some 33, some (21, true), .bin .lss (.t 32) (.k (.d (.int .i64 0)))⟩,
 ⟨some 34, none, .pick (.t 21) (.t 33) (.k (.d (.bool false)))⟩])
 (.cond (.t 34) (.skip)
 (.exit 2)))
 (.seq (.block 3 (.ops [] [⟨some 37, none, .mv (.t 0)⟩,
 ⟨some 38, none, .mv (.t 9)⟩,
 ⟨some 39, none, .mv (.t 0)⟩,
 ⟨some 40, none, .mv (.t 9)⟩,
 ⟨some 41, none, .bin .sub (.t 40) (.k (.d (.int .i64 1)))⟩,
 ⟨some 42, none, .mv (.t 0)⟩,
 ⟨some 43, none, .mv (.t 9)⟩,
 ⟨some 44, none, .bin .sub (.t 43) (.k (.d (.int .i64 1)))⟩,
 ⟨some 45, none, .ia 2 true (.t 42) (.t 44)⟩,
 ⟨some 46, none, .ld true 2 (.t 45)⟩,
 ⟨some 47, none, .mv (.t 0)⟩,
 ⟨some 48, none, .mv (.t 9)⟩,
 ⟨some 49, none, .ia 2 true (.t 47) (.t 48)⟩,
 ⟨some 50, none, .ld true 2 (.t 49)⟩,
 ⟨some 51, none, .ia 2 true (.t 37) (.t 38)⟩,
 ⟨none, none, .st true 2 (.t 51) (.t 46)⟩,
 ⟨some 52, none, .ia 2 true (.t 39) (.t 41)⟩,
 ⟨none, none, .st true 2 (.t 52) (.t 50)⟩]))
 (.ops [] [⟨some 35, none, .mv (.t 9)⟩,
 ⟨some 36, none, .bin .sub (.t 35) (.k (.d (.int .i64 1)))⟩,
 ⟨some 9, none, .tk 36⟩])))))))
 (.ops [] [⟨some 15, none, .mv (.t 8)⟩,
 ⟨some 16, none, .bin .add (.t 15) (.k (.d (.int .i64 1)))⟩,
 ⟨some 8, none, .tk 16⟩])))))⟩
theorem z311 : sp0 311 = some (.code F311) := by kernel_rfl

/-- slices.Clone[[]tenet/api.LVar,tenet/api.LVar] -/
def F193 : AFunc := ⟨8, [.tmp 2],
 .seq (.ops [] [⟨some 2, none, .mv (.k (.nil 2))⟩])
 (.seq (.seq (.ops [] [⟨some 3, none, .mv (.t 0)⟩,
 ⟨some 4, none, .isNil 0 (.t 3) false⟩])
 (.cond (.t 4) (.seq (.ops [] [⟨some 2, none, .mv (.k (.nil 2))⟩])
 (.ret))
 (.skip)))
 (.seq (.ops [] [⟨some 5, none, .lit 2 []⟩,
 ⟨some 6, none, .mv (.t 0)⟩,
 ⟨some 7, none, .app 2 (.t 5) (.t 6)⟩,
 ⟨some 2, none, .tk 7⟩])
 (.ret)))⟩
theorem z193 : sp0 193 = some (.code F193) := by kernel_rfl

/-- slices.Clone[[]int,int] -/
def F79 : AFunc := ⟨8, [.tmp 2],
 .seq (.ops [] [⟨some 2, none, .mv (.k (.nil 1))⟩])
 (.seq (.seq (.ops [] [⟨some 3, none, .mv (.t 0)⟩,
 ⟨some 4, none, .isNil 0 (.t 3) false⟩])
 (.cond (.t 4) (.seq (.ops [] [⟨some 2, none, .mv (.k (.nil 1))⟩])
 (.ret))
 (.skip)))
 (.seq (.ops [] [⟨some 5, none, .lit 1 []⟩,
 ⟨some 6, none, .mv (.t 0)⟩,
 ⟨some 7, none, .app 1 (.t 5) (.t 6)⟩,
 ⟨some 2, none, .tk 7⟩])
 (.ret)))⟩
theorem z79 : sp0 79 = some (.code F79) := by kernel_rfl

end Go.Tm
