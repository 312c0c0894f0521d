/- SplitRuns holds of every input whose data are of bulk at most 1048576 (the row's second form). Here: The program's functions as abstract code. -/
import Derived.Test.YtnhbhonbihccpaaGreatB2
import Derived.KernelRfl

set_option linter.unusedVariables false
set_option linter.unusedSimpArgs false
set_option linter.unnecessarySimpa false

/-! The program's functions as abstract code. -/
namespace Go.Sp
open Go.Abs Go.Proofs
set_option maxRecDepth 20000

/-- tenet/tenetlaw15.SplitRuns -/
def F5 : AFunc := ⟨138, [.tmp 6],
 .seq (.ops [] [⟨some 3, none, .box true 4 (.t 0)⟩,
 ⟨some 6, none, .mv (.k (.d (.bool false)))⟩])
 (.seq (.seq (.ops [] [⟨some 23, none, .ld true 4 (.t 3)⟩,
 ⟨some 24, none, .call 22 [.t 23]⟩,
 ⟨some 25, none, .mv (.t 24)⟩,
 ⟨some 26, some (25, false), .mv (.t 1)⟩,
 ⟨some 27, some (25, false), .bin .gtr (.t 26) (.k (.d (.int .i64 300)))⟩,
 ⟨some 28, some (25, false), .mv (.t 27)⟩,
 ⟨some 29, some (28, true), .mv (.t 1)⟩,
 ⟨some 30, some (28, true), .bin .leq (.t 29) (.k (.d (.int .i64 10000)))⟩,
 ⟨some 31, some (25, false), .pick (.t 28) (.t 30) (.k (.d (.bool false)))⟩,
 ⟨some 32, none, .pick (.t 25) (.k (.d (.bool true))) (.t 31)⟩])
 (.cond (.t 32) (.seq (.ops [] [⟨some 6, none, .mv (.k (.d (.bool true)))⟩])
 (.ret))
 (.skip)))
 (.seq (.ops [] [⟨some 34, none, .fa 0 2 true (.t 3)⟩,
 ⟨some 35, none, .ld true 2 (.t 34)⟩,
 ⟨some 36, none, .fa 2 1 false (.t 3)⟩,
 ⟨some 37, none, .ld false 1 (.t 36)⟩,
 ⟨some 38, none, .fa 3 1 false (.t 3)⟩,
 ⟨some 39, none, .ld false 1 (.t 38)⟩,
 ⟨some 40, none, .call 23 [.t 35, .t 37, .t 39]⟩,
 ⟨some 33, none, .mv (.t 40)⟩,
 ⟨some 41, none, .ext (.t 33) 0⟩,
 ⟨some 42, none, .ext (.t 33) 1⟩,
 ⟨some 7, none, .tk 41⟩,
 ⟨some 8, none, .tk 42⟩])
 (.seq (.ops [] [⟨some 44, none, .fa 0 2 true (.t 3)⟩,
 ⟨some 45, none, .ld true 2 (.t 44)⟩,
 ⟨some 46, none, .fa 2 1 false (.t 3)⟩,
 ⟨some 47, none, .ld false 1 (.t 46)⟩,
 ⟨some 48, none, .fa 3 1 false (.t 3)⟩,
 ⟨some 49, none, .ld false 1 (.t 48)⟩,
 ⟨some 50, none, .call 24 [.t 45, .t 47, .t 49]⟩,
 ⟨some 43, none, .mv (.t 50)⟩,
 ⟨some 51, none, .ext (.t 43) 0⟩,
 ⟨some 52, none, .ext (.t 43) 1⟩,
 ⟨some 9, none, .tk 51⟩,
 ⟨some 10, none, .tk 52⟩])
 (.seq (.ops [] [⟨some 54, none, .fa 0 2 true (.t 3)⟩,
 ⟨some 55, none, .ld true 2 (.t 54)⟩,
 ⟨some 56, none, .fa 2 1 false (.t 3)⟩,
 ⟨some 57, none, .ld false 1 (.t 56)⟩,
 ⟨some 58, none, .fa 3 1 false (.t 3)⟩,
 ⟨some 59, none, .ld false 1 (.t 58)⟩,
 ⟨some 60, none, .mv (.t 1)⟩,
 ⟨some 61, none, .call 25 [.t 55, .t 57, .t 59, .t 60]⟩,
 ⟨some 53, none, .mv (.t 61)⟩,
 ⟨some 62, none, .ext (.t 53) 0⟩,
 ⟨some 63, none, .ext (.t 53) 1⟩,
 ⟨some 64, none, .ext (.t 53) 2⟩,
 ⟨some 11, none, .alloc true [.d (.int .i64 0), .d (.str []), .nil 3]⟩,
 ⟨none, none, .st true 3 (.t 11) (.t 62)⟩,
 ⟨some 12, none, .tk 63⟩,
 ⟨some 13, none, .tk 64⟩])
 (.seq (.ops [] [⟨some 66, none, .fa 0 2 true (.t 3)⟩,
 ⟨some 67, none, .ld true 2 (.t 66)⟩,
 ⟨some 68, none, .fa 2 1 false (.t 3)⟩,
 ⟨some 69, none, .ld false 1 (.t 68)⟩,
 ⟨some 70, none, .fa 3 1 false (.t 3)⟩,
 ⟨some 71, none, .ld false 1 (.t 70)⟩,
 ⟨some 72, none, .mv (.t 1)⟩,
 ⟨some 73, none, .call 26 [.t 67, .t 69, .t 71, .t 72]⟩,
 ⟨some 65, none, .mv (.t 73)⟩,
 ⟨some 74, none, .ext (.t 65) 0⟩,
 ⟨some 75, none, .ext (.t 65) 1⟩,
 ⟨some 76, none, .ext (.t 65) 2⟩,
 ⟨some 14, none, .alloc true [.d (.int .i64 0), .d (.str []), .nil 3]⟩,
 ⟨none, none, .st true 3 (.t 14) (.t 74)⟩,
 ⟨some 15, none, .tk 75⟩,
 ⟨some 16, none, .tk 76⟩])
 (.seq (.ops [] [⟨some 78, none, .fa 0 2 true (.t 3)⟩,
 ⟨some 79, none, .ld true 2 (.t 78)⟩,
 ⟨some 80, none, .fa 2 1 false (.t 3)⟩,
 ⟨some 81, none, .ld false 1 (.t 80)⟩,
 ⟨some 82, none, .mv (.t 2)⟩,
 ⟨some 83, none, .call 27 [.t 79, .t 81, .t 82]⟩,
 ⟨some 77, none, .mv (.t 83)⟩,
 ⟨some 84, none, .ext (.t 77) 0⟩,
 ⟨some 85, none, .ext (.t 77) 1⟩,
 ⟨some 86, none, .ext (.t 77) 2⟩,
 ⟨some 17, none, .tk 84⟩,
 ⟨some 18, none, .tk 85⟩,
 ⟨some 19, none, .tk 86⟩])
 (.seq (.ops [] [⟨some 88, none, .fa 0 2 true (.t 3)⟩,
 ⟨some 89, none, .ld true 2 (.t 88)⟩,
 ⟨some 90, none, .fa 2 1 false (.t 3)⟩,
 ⟨some 91, none, .ld false 1 (.t 90)⟩,
 ⟨some 92, none, .mv (.t 2)⟩,
 ⟨some 93, none, .call 28 [.t 89, .t 91, .t 92]⟩,
 ⟨some 87, none, .mv (.t 93)⟩,
 ⟨some 94, none, .ext (.t 87) 0⟩,
 ⟨some 95, none, .ext (.t 87) 1⟩,
 ⟨some 96, none, .ext (.t 87) 2⟩,
 ⟨some 20, none, .tk 94⟩,
 ⟨some 21, none, .tk 95⟩,
 ⟨some 22, none, .tk 96⟩])
 (.seq (.ops [] [⟨some 97, none, .mv (.t 7)⟩,
 ⟨some 98, none, .mv (.t 9)⟩,
 ⟨some 99, none, .bin .eql (.t 97) (.t 98)⟩,
 ⟨some 100, none, .mv (.t 99)⟩,
 ⟨some 101, some (100, true), .mv (.t 8)⟩,
 ⟨some 102, some (100, true), .mv (.t 10)⟩,
 ⟨some 103, some (100, true), .bin .eql (.t 101) (.t 102)⟩,
 ⟨some 104, none, .pick (.t 100) (.t 103) (.k (.d (.bool false)))⟩,
 ⟨some 105, none, .mv (.t 104)⟩,
 ⟨some 106, some (105, true), .mv (.t 12)⟩,
 ⟨some 107, some (105, true), .mv (.t 15)⟩,
 ⟨some 108, some (105, true), .eqB false (.t 106) (.t 107)⟩,
 ⟨some 109, none, .pick (.t 105) (.t 108) (.k (.d (.bool false)))⟩,
 ⟨some 110, none, .mv (.t 109)⟩,
 ⟨some 111, some (110, true), .mv (.t 13)⟩,
 ⟨some 112, some (110, true), .mv (.t 16)⟩,
 ⟨some 113, some (110, true), .bin .eql (.t 111) (.t 112)⟩,
 ⟨some 114, none, .pick (.t 110) (.t 113) (.k (.d (.bool false)))⟩,
 ⟨some 115, none, .mv (.t 114)⟩,
 ⟨some 116, some (115, true), .ld true 3 (.t 11)⟩,
 ⟨some 117, some (115, true), .ld true 3 (.t 14)⟩,
 ⟨some 118, some (115, true), .call 29 [.t 116, .t 117]⟩,
 ⟨some 119, none, .pick (.t 115) (.t 118) (.k (.d (.bool false)))⟩,
 ⟨some 120, none, .mv (.t 119)⟩,
 ⟨some 121, some (120, true), .mv (.t 19)⟩,
 ⟨some 122, some (120, true), .mv (.t 22)⟩,
 ⟨some 123, some (120, true), .bin .eql (.t 121) (.t 122)⟩,
 ⟨some 124, none, .pick (.t 120) (.t 123) (.k (.d (.bool false)))⟩,
 ⟨some 125, none, .mv (.t 124)⟩,
 ⟨some 126, some (125, true), .mv (.t 17)⟩,
 ⟨some 127, some (125, true), .mv (.t 20)⟩,
 ⟨some 128, some (125, true), .call 30 [.t 126, .t 127]⟩,
 ⟨some 129, none, .pick (.t 125) (.t 128) (.k (.d (.bool false)))⟩,
 ⟨some 130, none, .mv (.t 129)⟩,
 ⟨some 131, some (130, true), .mv (.t 18)⟩,
 ⟨some 132, some (130, true), .mv (.t 21)⟩,
 ⟨some 133, some (130, true), .call 30 [.t 131, .t 132]⟩,
 ⟨some 134, none, .pick (.t 130) (.t 133) (.k (.d (.bool false)))⟩,
 ⟨some 135, none, .mv (.t 134)⟩,
 ⟨some 136, some (135, true), .call 11 []⟩,
 ⟨some 137, none, .pick (.t 135) (.t 136) (.k (.d (.bool false)))⟩,
 ⟨some 6, none, .tk 137⟩])
 (.ret)))))))))⟩
theorem c5 : sp 5 = some (.code F5) := by kernel_rfl

/-- tenet/tenetlaw15.large -/
def F22 : AFunc := ⟨12, [.tmp 2],
 .seq (.ops [] [⟨some 1, none, .box true 4 (.t 0)⟩,
 ⟨some 2, none, .mv (.k (.d (.bool false)))⟩])
 (.seq (.ops [] [⟨some 3, none, .fa 0 2 true (.t 1)⟩,
 ⟨some 4, none, .ld true 2 (.t 3)⟩,
 ⟨some 5, none, .call 8 [.t 4]⟩,
 ⟨some 6, none, .mv (.t 5)⟩,
 ⟨some 7, some (6, false), .fa 3 1 false (.t 1)⟩,
 ⟨some 8, some (6, false), .ld false 1 (.t 7)⟩,
 ⟨some 9, some (6, false), .call 31 [.t 8, .k (.d (.int .i64 200))]⟩,
 ⟨some 10, some (6, false), .bin .gtr (.t 9) (.k (.d (.int .i64 200)))⟩,
 ⟨some 11, none, .pick (.t 6) (.k (.d (.bool true))) (.t 10)⟩,
 ⟨some 2, none, .tk 11⟩])
 (.ret))⟩
theorem c22 : sp 22 = some (.code F22) := by kernel_rfl

/-- tenet/split.First -/
def F23 : AFunc := ⟨27, [.tmp 6, .tmp 7],
 .seq (.ops [] [⟨some 3, none, .box true 2 (.t 0)⟩,
 ⟨some 6, none, .mv (.k (.d (.int .i64 0)))⟩,
 ⟨some 7, none, .mv (.k (.d (.int .i64 0)))⟩])
 (.seq (.ops [] [⟨some 11, none, .ld true 2 (.t 3)⟩,
 ⟨some 12, none, .mv (.t 1)⟩,
 ⟨some 13, none, .call 43 [.t 11, .t 12]⟩,
 ⟨some 10, none, .mv (.t 13)⟩,
 ⟨some 14, none, .ext (.t 10) 0⟩,
 ⟨some 15, none, .ext (.t 10) 1⟩,
 ⟨some 8, none, .alloc true [.d (.str []), .nil 1, .d (.str []), .nil 5]⟩,
 ⟨none, none, .st true 4 (.t 8) (.t 14)⟩,
 ⟨some 9, none, .tk 15⟩])
 (.seq (.seq (.ops [] [⟨some 16, none, .mv (.t 9)⟩,
 ⟨some 17, none, .bin .neq (.t 16) (.k (.d (.int .i64 0)))⟩])
 (.cond (.t 17) (.seq (.ops [] [⟨some 18, none, .tk 9⟩,
 ⟨some 6, none, .mv (.k (.d (.int .i64 0)))⟩,
 ⟨some 7, none, .tk 18⟩])
 (.ret))
 (.skip)))
 (.seq (.seq (.ops [] [⟨some 19, none, .ld true 2 (.t 3)⟩,
 ⟨some 20, none, .ld true 4 (.t 8)⟩,
 ⟨some 21, none, .mv (.t 2)⟩,
 ⟨some 22, none, .call 59 [.t 19, .t 20, .t 21]⟩,
 ⟨some 23, none, .not (.t 22)⟩])
 (.cond (.t 23) (.seq (.ops [] [⟨some 6, none, .mv (.k (.d (.int .i64 0)))⟩,
 ⟨some 7, none, .mv (.k (.d (.int .i64 4)))⟩])
 (.ret))
 (.skip)))
 (.seq (.ops [] [⟨some 24, none, .ld true 4 (.t 8)⟩,
 ⟨some 25, none, .mv (.t 2)⟩,
 ⟨some 26, none, .call 60 [.t 24, .t 25]⟩,
 ⟨some 6, none, .tk 26⟩,
 ⟨some 7, none, .mv (.k (.d (.int .i64 0)))⟩])
 (.ret)))))⟩
theorem c23 : sp 23 = some (.code F23) := by kernel_rfl

/-- tenet/split.given -/
def F59 : AFunc := ⟨32, [.tmp 6],
 .seq (.ops [] [⟨some 3, none, .box true 2 (.t 0)⟩,
 ⟨some 4, none, .box true 4 (.t 1)⟩,
 ⟨some 6, none, .mv (.k (.d (.bool false)))⟩])
 (.seq (.seq (.ops [] [⟨some 9, none, .mv (.t 2)⟩,
 ⟨some 10, none, .len 1 (.t 9)⟩,
 ⟨some 11, none, .fa 1 1 false (.t 4)⟩,
 ⟨some 12, none, .ld false 1 (.t 11)⟩,
 ⟨some 13, none, .len 1 (.t 12)⟩,
 ⟨some 14, none, .bin .neq (.t 10) (.t 13)⟩])
 (.cond (.t 14) (.seq (.ops [] [⟨some 6, none, .mv (.k (.d (.bool false)))⟩])
 (.ret))
 (.skip)))
 (.seq (.seq (.ops [] [⟨some 15, none, .mv (.t 2)⟩,
 ⟨some 16, none, .len 1 (.t 15)⟩,
 ⟨some 17, none, .mv (.k (.d (.int .i64 0)))⟩])
 (.block 0 (.loop 32 [3, 4, 15, 16, 17] (.seq (.ops [] [⟨some 18, none, .bin .lss (.t 17) (.t 16)⟩])
 (.seq (.cond (.t 18) (.skip)
 (.exit 0))
 (.seq (.block 1 (.seq (.ops [] [⟨some 19, none, .tk 17⟩,
 ⟨some 20, none, .ia 3 true (.t 15) (.t 17)⟩,
 ⟨some 21, none, .ld true 3 (.t 20)⟩,
 ⟨some 8, none, .alloc true [.d (.int .i64 0), .d (.str []), .nil 3]⟩,
 ⟨some 7, none, .tk 19⟩,
 ⟨none, none, .st true 3 (.t 8) (.t 21)⟩])
 (.seq (.ops [] [⟨some 22, none, .ld true 2 (.t 3)⟩,
 ⟨some 23, none, .ld true 3 (.t 8)⟩,
 ⟨some 24, none, .fa 1 1 false (.t 4)⟩,
 ⟨some 25, none, .ld false 1 (.t 24)⟩,
 ⟨some 26, none, .mv (.t 7)⟩,
 ⟨some 27, none, .ia 1 false (.t 25) (.t 26)⟩,
 ⟨some 28, none, .ld false 1 (.t 27)⟩,
 ⟨some 29, none, .call 73 [.t 22, .t 23, .t 28]⟩,
 ⟨some 30, none, .not (.t 29)⟩])
 (.cond (.t 30) (.seq (.ops [] [⟨some 6, none, .mv (.k (.d (.bool false)))⟩])
 (.ret))
 (.skip)))))
 (.ops [] [⟨some 31, none, .bin .add (.t 17) (.k (.d (.int .i64 1)))⟩,
 ⟨some 17, none, .mv (.t 31)⟩])))))))
 (.seq (.ops [] [⟨some 6, none, .mv (.k (.d (.bool true)))⟩])
 (.ret))))⟩
theorem c59 : sp 59 = some (.code F59) := by kernel_rfl

/-- tenet/split.first -/
def F60 : AFunc := ⟨9, [.tmp 4],
 .seq (.ops [] [⟨some 2, none, .box true 4 (.t 0)⟩,
 ⟨some 3, none, .box false 1 (.t 1)⟩,
 ⟨some 4, none, .mv (.k (.d (.int .i64 0)))⟩])
 (.seq (.ops [] [⟨some 5, none, .fa 3 1 false (.t 2)⟩,
 ⟨some 6, none, .ld false 1 (.t 5)⟩,
 ⟨some 7, none, .fn 106 [.t 3]⟩,
 ⟨some 8, none, .call 105 [.t 6, .t 7]⟩,
 ⟨some 4, none, .tk 8⟩])
 (.ret))⟩
theorem c60 : sp 60 = some (.code F60) := by kernel_rfl

/-- tenet/split.first$1 -/
def F106 : AFunc := ⟨22, [.tmp 3],
 .seq (.ops [] [⟨some 2, none, .box true 5 (.t 0)⟩,
 ⟨some 3, none, .mv (.k (.d (.bool false)))⟩])
 (.seq (.seq (.ops [] [⟨some 6, none, .fa 0 1 false (.t 2)⟩,
 ⟨some 7, none, .ld false 1 (.t 6)⟩,
 ⟨some 8, none, .len 1 (.t 7)⟩,
 ⟨some 9, none, .mv (.k (.d (.int .i64 0)))⟩])
 (.block 0 (.loop 22 [1, 7, 8, 9] (.seq (.ops [] [⟨some 10, none, .bin .lss (.t 9) (.t 8)⟩])
 (.seq (.cond (.t 10) (.skip)
 (.exit 0))
 (.seq (.block 1 (.seq (.ops [] [⟨some 11, none, .tk 9⟩,
 ⟨some 12, none, .ia 3 true (.t 7) (.t 9)⟩,
 ⟨some 13, none, .ld true 3 (.t 12)⟩,
 ⟨some 5, none, .alloc true [.d (.int .i64 0), .d (.str []), .nil 3]⟩,
 ⟨some 4, none, .tk 11⟩,
 ⟨none, none, .st true 3 (.t 5) (.t 13)⟩])
 (.seq (.ops [] [⟨some 14, none, .ld true 3 (.t 5)⟩,
 ⟨some 15, none, .ld false 1 (.t 1)⟩,
 ⟨some 16, none, .mv (.t 4)⟩,
 ⟨some 17, none, .ia 3 true (.t 15) (.t 16)⟩,
 ⟨some 18, none, .ld true 3 (.t 17)⟩,
 ⟨some 19, none, .call 107 [.t 14, .t 18]⟩,
 ⟨some 20, none, .not (.t 19)⟩])
 (.cond (.t 20) (.seq (.ops [] [⟨some 3, none, .mv (.k (.d (.bool false)))⟩])
 (.ret))
 (.skip)))))
 (.ops [] [⟨some 21, none, .bin .add (.t 9) (.k (.d (.int .i64 1)))⟩,
 ⟨some 9, none, .mv (.t 21)⟩])))))))
 (.seq (.ops [] [⟨some 3, none, .mv (.k (.d (.bool true)))⟩])
 (.ret)))⟩
theorem c106 : sp 106 = some (.code F106) := by kernel_rfl

/-- tenet/split.matches -/
def F107 : AFunc := ⟨46, [.tmp 4],
 .seq (.ops [] [⟨some 2, none, .box true 3 (.t 0)⟩,
 ⟨some 3, none, .box true 3 (.t 1)⟩,
 ⟨some 4, none, .mv (.k (.d (.bool false)))⟩])
 (.seq (.seq (.ops [] [⟨some 6, none, .fa 0 1 false (.t 2)⟩,
 ⟨some 7, none, .ld false 1 (.t 6)⟩])
 (.block 0 (.seq (.seq (.ops [] [⟨some 9, none, .bin .eql (.t 7) (.k (.d (.int .i64 1)))⟩,
 ⟨some 8, none, .tk 9⟩])
 (.cond (.t 8) (.skip)
 (.ops [] [⟨some 10, none, .bin .eql (.t 7) (.k (.d (.int .i64 4)))⟩,
 ⟨some 8, none, .tk 10⟩])))
 (.cond (.t 8) (.seq (.ops [] [⟨some 4, none, .mv (.k (.d (.bool true)))⟩])
 (.ret))
 (.seq (.ops [] [⟨some 12, none, .bin .eql (.t 7) (.k (.d (.int .i64 2)))⟩,
 ⟨some 11, none, .tk 12⟩])
 (.cond (.t 11) (.seq (.seq (.ops [] [⟨some 13, none, .fa 1 1 false (.t 2)⟩,
 ⟨some 14, none, .ld false 1 (.t 13)⟩,
 ⟨some 15, none, .fa 1 1 false (.t 3)⟩,
 ⟨some 16, none, .ld false 1 (.t 15)⟩,
 ⟨some 17, none, .bin .neq (.t 14) (.t 16)⟩,
 ⟨some 18, none, .mv (.t 17)⟩,
 ⟨some 19, some (18, false), .fa 2 1 false (.t 2)⟩,
 ⟨some 20, some (18, false), .ld false 1 (.t 19)⟩,
 ⟨some 21, some (18, false), .len 1 (.t 20)⟩,
 ⟨some 22, some (18, false), .fa 2 1 false (.t 3)⟩,
 ⟨some 23, some (18, false), .ld false 1 (.t 22)⟩,
 ⟨some 24, some (18, false), .len 1 (.t 23)⟩,
 ⟨some 25, some (18, false), .bin .neq (.t 21) (.t 24)⟩,
 ⟨some 26, none, .pick (.t 18) (.k (.d (.bool true))) (.t 25)⟩])
 (.cond (.t 26) (.seq (.ops [] [⟨some 4, none, .mv (.k (.d (.bool false)))⟩])
 (.ret))
 (.skip)))
 (.seq (.seq (.ops [] [⟨some 27, none, .fa 2 1 false (.t 2)⟩,
 ⟨some 28, none, .ld false 1 (.t 27)⟩,
 ⟨some 29, none, .len 1 (.t 28)⟩,
 ⟨some 30, none, .mv (.k (.d (.int .i64 0)))⟩])
 (.block 1 (.loop 46 [2, 3, 29, 30] (.seq (.ops [] [⟨some 31, none, .bin .lss (.t 30) (.t 29)⟩])
 (.seq (.cond (.t 31) (.skip)
 (.exit 1))
 (.seq (.block 2 (.seq (.ops [] [⟨some 32, none, .tk 30⟩,
 ⟨some 5, none, .tk 32⟩])
 (.seq (.ops [] [⟨some 33, none, .fa 2 1 false (.t 2)⟩,
 ⟨some 34, none, .ld false 1 (.t 33)⟩,
 ⟨some 35, none, .mv (.t 5)⟩,
 ⟨some 36, none, .ia 3 true (.t 34) (.t 35)⟩,
 ⟨some 37, none, .ld true 3 (.t 36)⟩,
 ⟨some 38, none, .fa 2 1 false (.t 3)⟩,
 ⟨some 39, none, .ld false 1 (.t 38)⟩,
 ⟨some 40, none, .mv (.t 5)⟩,
 ⟨some 41, none, .ia 3 true (.t 39) (.t 40)⟩,
 ⟨some 42, none, .ld true 3 (.t 41)⟩,
 ⟨some 43, none, .call 107 [.t 37, .t 42]⟩,
 ⟨some 44, none, .not (.t 43)⟩])
 (.cond (.t 44) (.seq (.ops [] [⟨some 4, none, .mv (.k (.d (.bool false)))⟩])
 (.ret))
 (.skip)))))
 (.ops [] [⟨some 45, none, .bin .add (.t 30) (.k (.d (.int .i64 1)))⟩,
 ⟨some 30, none, .mv (.t 45)⟩])))))))
 (.seq (.ops [] [⟨some 4, none, .mv (.k (.d (.bool true)))⟩])
 (.ret))))
 (.skip)))))))
 (.seq (.ops [] [⟨some 4, none, .mv (.k (.d (.bool false)))⟩])
 (.ret)))⟩
theorem c107 : sp 107 = some (.code F107) := by kernel_rfl

/-- tenet/split.Run -/
def F25 : AFunc := ⟨8, [.reg 87, .tmp 9, .tmp 10],
 .seq (.ops [] [⟨some 4, none, .box true 2 (.t 0)⟩,
 ⟨some 87, none, .ralloc true [.d (.int .i64 0), .d (.str []), .nil 3]⟩,
 ⟨some 9, none, .mv (.k (.d (.bool false)))⟩,
 ⟨some 10, none, .mv (.k (.d (.int .i64 0)))⟩])
 (.seq (.ops [] [⟨some 20, none, .ld true 2 (.t 4)⟩,
 ⟨some 21, none, .mv (.t 1)⟩,
 ⟨some 22, none, .call 43 [.t 20, .t 21]⟩,
 ⟨some 19, none, .mv (.t 22)⟩,
 ⟨some 23, none, .ext (.t 19) 0⟩,
 ⟨some 24, none, .ext (.t 19) 1⟩,
 ⟨some 11, none, .alloc true [.d (.str []), .nil 1, .d (.str []), .nil 5]⟩,
 ⟨none, none, .st true 4 (.t 11) (.t 23)⟩,
 ⟨some 12, none, .tk 24⟩])
 (.seq (.block 0 (.seq (.ops [] [⟨some 26, none, .mv (.t 12)⟩,
 ⟨some 27, none, .bin .neq (.t 26) (.k (.d (.int .i64 0)))⟩,
 ⟨some 25, none, .tk 27⟩])
 (.cond (.t 25) (.seq (.ops [] [⟨some 28, none, .build [.d (.int .i64 0), .d (.str []), .nil 3] []⟩,
 ⟨some 29, none, .tk 12⟩,
 ⟨some 87, none, .rst 87 true 3 (.t 28)⟩,
 ⟨some 9, none, .mv (.k (.d (.bool false)))⟩,
 ⟨some 10, none, .tk 29⟩])
 (.ret))
 (.seq (.ops [] [⟨some 31, none, .ld true 2 (.t 4)⟩,
 ⟨some 32, none, .ld true 4 (.t 11)⟩,
 ⟨some 33, none, .mv (.t 2)⟩,
 ⟨some 34, none, .call 59 [.t 31, .t 32, .t 33]⟩,
 ⟨some 35, none, .not (.t 34)⟩,
 ⟨some 30, none, .tk 35⟩])
 (.cond (.t 30) (.seq (.ops [] [⟨some 36, none, .build [.d (.int .i64 0), .d (.str []), .nil 3] []⟩,
 ⟨some 87, none, .rst 87 true 3 (.t 36)⟩,
 ⟨some 9, none, .mv (.k (.d (.bool false)))⟩,
 ⟨some 10, none, .mv (.k (.d (.int .i64 4)))⟩])
 (.ret))
 (.seq (.ops [] [⟨some 38, none, .mv (.t 3)⟩,
 ⟨some 39, none, .bin .lss (.t 38) (.k (.d (.int .i64 0)))⟩,
 ⟨some 40, none, .mv (.t 39)⟩,
 ⟨some 41, some (40, false), .mv (.t 3)⟩,
 ⟨some 42, some (40, false), .bin .gtr (.t 41) (.k (.d (.int .i64 10000)))⟩,
 ⟨some 43, none, .pick (.t 40) (.k (.d (.bool true))) (.t 42)⟩,
 ⟨some 37, none, .tk 43⟩])
 (.cond (.t 37) (.seq (.ops [] [⟨some 44, none, .build [.d (.int .i64 0), .d (.str []), .nil 3] []⟩,
 ⟨some 87, none, .rst 87 true 3 (.t 44)⟩,
 ⟨some 9, none, .mv (.k (.d (.bool false)))⟩,
 ⟨some 10, none, .mv (.k (.d (.int .i64 1)))⟩])
 (.ret))
 (.skip))))))))
 (.seq (.ops [] [⟨some 13, none, .mv (.k (.nil 4))⟩])
 (.seq (.seq (.ops [] [⟨some 45, none, .mv (.t 2)⟩,
 ⟨some 46, none, .len 1 (.t 45)⟩,
 ⟨some 47, none, .mv (.k (.d (.int .i64 0)))⟩])
 (.block 1 (.loop 79 [1, 3, 4, 13, 45, 46, 47, 87] (.seq (.ops [] [⟨some 48, none, .bin .lss (.t 47) (.t 46)⟩])
 (.seq (.cond (.t 48) (.skip)
 (.exit 1))
 (.seq (.block 2 (.seq (.ops [] [⟨some 49, none, .ia 3 true (.t 45) (.t 47)⟩,
 ⟨some 50, none, .ld true 3 (.t 49)⟩,
 ⟨some 15, none, .alloc true [.d (.int .i64 0), .d (.str []), .nil 3]⟩,
 ⟨none, none, .st true 3 (.t 15) (.t 50)⟩])
 (.ops [] [⟨some 51, none, .tk 13⟩,
 ⟨some 52, none, .ld true 3 (.t 15)⟩,
 ⟨some 53, none, .call 63 [.t 52]⟩,
 ⟨some 54, none, .lit 4 [.t 53]⟩,
 ⟨some 55, none, .app 4 (.t 51) (.t 54)⟩,
 ⟨some 13, none, .tk 55⟩])))
 (.ops [] [⟨some 56, none, .bin .add (.t 47) (.k (.d (.int .i64 1)))⟩,
 ⟨some 47, none, .mv (.t 56)⟩])))))))
 (.seq (.ops [] [⟨some 57, none, .ld true 2 (.t 4)⟩,
 ⟨some 58, none, .mv (.t 3)⟩,
 ⟨some 59, none, .build [.nil 2, .nil 4, .d (.int .i64 0)] [(0, 2, (.t 57)), (2, 1, (.t 58))]⟩,
 ⟨some 60, none, .box true 3 (.t 59)⟩,
 ⟨some 16, none, .tk 60⟩])
 (.seq (.ops [] [⟨some 62, none, .tk 16⟩,
 ⟨some 63, none, .tk 1⟩,
 ⟨some 64, none, .tk 13⟩,
 ⟨some 65, none, .callS 64 [.t 62, .t 63, .t 64]⟩,
 ⟨some 61, none, .mv (.t 65)⟩,
 ⟨some 66, none, .ext (.t 61) 0⟩,
 ⟨some 67, none, .ext (.t 61) 1⟩,
 ⟨some 17, none, .alloc true [.d (.int .i64 0), .d (.str []), .nil 3, .d (.int .i64 0)]⟩,
 ⟨none, none, .st true 4 (.t 17) (.t 66)⟩,
 ⟨some 18, none, .tk 67⟩])
 (.seq (.seq (.ops [] [⟨some 68, none, .mv (.t 18)⟩,
 ⟨some 69, none, .not (.t 68)⟩,
 ⟨some 70, none, .mv (.t 69)⟩,
 ⟨some 71, some (70, false), .fa 3 1 false (.t 17)⟩,
 ⟨some 72, some (70, false), .ld false 1 (.t 71)⟩,
 ⟨some 73, some (70, false), .bin .gtr (.t 72) (.k (.d (.int .i64 10000)))⟩,
 ⟨some 74, none, .pick (.t 70) (.k (.d (.bool true))) (.t 73)⟩])
 (.cond (.t 74) (.seq (.ops [] [⟨some 75, none, .build [.d (.int .i64 0), .d (.str []), .nil 3] []⟩,
 ⟨some 87, none, .rst 87 true 3 (.t 75)⟩,
 ⟨some 9, none, .mv (.k (.d (.bool false)))⟩,
 ⟨some 10, none, .mv (.k (.d (.int .i64 0)))⟩])
 (.ret))
 (.skip)))
 (.seq (.ops [] [⟨some 76, none, .fa 0 3 true (.t 17)⟩,
 ⟨some 77, none, .ld true 3 (.t 76)⟩,
 ⟨some 78, none, .call 65 [.t 77]⟩,
 ⟨some 87, none, .rst 87 true 3 (.t 78)⟩,
 ⟨some 9, none, .mv (.k (.d (.bool true)))⟩,
 ⟨some 10, none, .mv (.k (.d (.int .i64 0)))⟩])
 (.ret)))))))))⟩
theorem c25 : sp 25 = some (.code F25) := by kernel_rfl

/-- tenet/split.sized -/
def F63 : AFunc := ⟨2, [.reg 24],
 .seq (.ops [] [⟨some 1, none, .box true 3 (.t 0)⟩,
 ⟨some 24, none, .ralloc true [.d (.int .i64 0), .d (.str []), .nil 3, .d (.int .i64 0)]⟩])
 (.seq (.ops [] [⟨some 3, none, .mv (.k (.d (.int .i64 1)))⟩])
 (.seq (.seq (.ops [] [⟨some 6, none, .fa 2 1 false (.t 1)⟩,
 ⟨some 7, none, .ld false 1 (.t 6)⟩,
 ⟨some 8, none, .len 1 (.t 7)⟩,
 ⟨some 9, none, .mv (.k (.d (.int .i64 0)))⟩])
 (.block 0 (.loop 22 [1, 3, 7, 8, 9, 24] (.seq (.ops [] [⟨some 10, none, .bin .lss (.t 9) (.t 8)⟩])
 (.seq (.cond (.t 10) (.skip)
 (.exit 0))
 (.seq (.block 1 (.seq (.ops [] [⟨some 11, none, .ia 3 true (.t 7) (.t 9)⟩,
 ⟨some 12, none, .ld true 3 (.t 11)⟩,
 ⟨some 5, none, .alloc true [.d (.int .i64 0), .d (.str []), .nil 3]⟩,
 ⟨none, none, .st true 3 (.t 5) (.t 12)⟩])
 (.ops [] [⟨some 13, none, .mv (.t 3)⟩,
 ⟨some 14, none, .ld true 3 (.t 5)⟩,
 ⟨some 15, none, .call 63 [.t 14]⟩,
 ⟨some 16, none, .fld 3 1 false (.t 15)⟩,
 ⟨some 17, none, .bin .add (.t 13) (.t 16)⟩,
 ⟨some 3, none, .tk 17⟩])))
 (.ops [] [⟨some 18, none, .bin .add (.t 9) (.k (.d (.int .i64 1)))⟩,
 ⟨some 9, none, .mv (.t 18)⟩])))))))
 (.seq (.ops [] [⟨some 19, none, .ld true 3 (.t 1)⟩,
 ⟨some 20, none, .mv (.t 3)⟩,
 ⟨some 21, none, .build [.d (.int .i64 0), .d (.str []), .nil 3, .d (.int .i64 0)] [(0, 3, (.t 19)), (3, 1, (.t 20))]⟩,
 ⟨some 24, none, .rst 24 true 4 (.t 21)⟩])
 (.ret))))⟩
theorem c63 : sp 63 = some (.code F63) := by kernel_rfl

/-- (*tenet/split.runner).call -/
def F64 : AFunc := ⟨6, [.reg 153, .tmp 7],
 .seq (.ops [] [⟨some 153, none, .ralloc true [.d (.int .i64 0), .d (.str []), .nil 3, .d (.int .i64 0)]⟩,
 ⟨some 7, none, .mv (.k (.d (.bool false)))⟩])
 (.seq (.ops [] [⟨some 26, none, .mv (.t 0)⟩,
 ⟨some 27, none, .nilck (.t 26)⟩,
 ⟨some 28, none, .fa 0 2 true (.t 27)⟩,
 ⟨some 29, none, .ld true 2 (.t 28)⟩,
 ⟨some 30, none, .mv (.t 1)⟩,
 ⟨some 31, none, .call 84 [.t 29, .t 30]⟩,
 ⟨some 25, none, .mv (.t 31)⟩,
 ⟨some 32, none, .ext (.t 25) 0⟩,
 ⟨some 33, none, .ext (.t 25) 1⟩,
 ⟨some 8, none, .alloc true [.d (.str []), .nil 1, .d (.str []), .nil 5]⟩,
 ⟨none, none, .st true 4 (.t 8) (.t 32)⟩,
 ⟨some 9, none, .tk 33⟩])
 (.seq (.seq (.ops [] [⟨some 34, none, .mv (.t 0)⟩,
 ⟨some 35, none, .nilck (.t 34)⟩,
 ⟨some 36, none, .fa 2 1 false (.t 35)⟩,
 ⟨some 37, none, .ld false 1 (.t 36)⟩,
 ⟨some 38, none, .bin .eql (.t 37) (.k (.d (.int .i64 0)))⟩])
 (.cond (.t 38) (.seq (.ops [] [⟨some 39, none, .build [.d (.int .i64 0), .d (.str []), .nil 3, .d (.int .i64 0)] []⟩,
 ⟨some 153, none, .rst 153 true 4 (.t 39)⟩,
 ⟨some 7, none, .mv (.k (.d (.bool false)))⟩])
 (.ret))
 (.skip)))
 (.seq (.ops [] [⟨some 40, none, .mv (.t 0)⟩,
 ⟨some 41, none, .nilck (.t 40)⟩,
 ⟨some 42, none, .fa 2 1 false (.t 41)⟩,
 ⟨some 43, none, .ld false 1 (.t 42)⟩,
 ⟨some 44, none, .bin .sub (.t 43) (.k (.d (.int .i64 1)))⟩,
 ⟨some 45, none, .nilck (.t 40)⟩,
 ⟨some 46, none, .fa 2 1 false (.t 45)⟩,
 ⟨none, none, .st false 1 (.t 46) (.t 44)⟩])
 (.seq (.ops [] [⟨some 10, none, .mv (.k (.nil 3))⟩])
 (.seq (.seq (.ops [] [⟨some 47, none, .mv (.t 2)⟩,
 ⟨some 48, none, .len 1 (.t 47)⟩,
 ⟨some 49, none, .mv (.k (.d (.int .i64 0)))⟩])
 (.block 0 (.loop 147 [0, 8, 10, 47, 48, 49, 153] (.seq (.ops [] [⟨some 50, none, .bin .lss (.t 49) (.t 48)⟩])
 (.seq (.cond (.t 50) (.skip)
 (.exit 0))
 (.seq (.block 1 (.seq (.ops [] [⟨some 51, none, .ia 4 true (.t 47) (.t 49)⟩,
 ⟨some 52, none, .ld true 4 (.t 51)⟩,
 ⟨some 12, none, .alloc true [.d (.int .i64 0), .d (.str []), .nil 3, .d (.int .i64 0)]⟩,
 ⟨none, none, .st true 4 (.t 12) (.t 52)⟩])
 (.ops [] [⟨some 53, none, .tk 10⟩,
 ⟨some 54, none, .fa 0 3 true (.t 12)⟩,
 ⟨some 55, none, .ld true 3 (.t 54)⟩,
 ⟨some 56, none, .lit 3 [.t 55]⟩,
 ⟨some 57, none, .app 3 (.t 53) (.t 56)⟩,
 ⟨some 10, none, .tk 57⟩])))
 (.ops [] [⟨some 58, none, .bin .add (.t 49) (.k (.d (.int .i64 1)))⟩,
 ⟨some 49, none, .mv (.t 58)⟩])))))))
 (.seq (.ops [] [⟨some 59, none, .ld true 4 (.t 8)⟩,
 ⟨some 60, none, .mv (.t 10)⟩,
 ⟨some 61, none, .call 60 [.t 59, .t 60]⟩,
 ⟨some 13, none, .tk 61⟩])
 (.seq (.seq (.ops [] [⟨some 62, none, .mv (.t 13)⟩,
 ⟨some 63, none, .bin .lss (.t 62) (.k (.d (.int .i64 0)))⟩,
 ⟨some 64, none, .mv (.t 63)⟩,
 ⟨some 65, some (64, false), .fa 3 1 false (.t 8)⟩,
 ⟨some 66, some (64, false), .ld false 1 (.t 65)⟩,
 ⟨some 67, some (64, false), .mv (.t 13)⟩,
 ⟨some 68, some (64, false), .ia 5 true (.t 66) (.t 67)⟩,
 ⟨some 69, some (64, false), .fa 1 1 false (.t 68)⟩,
 ⟨some 70, some (64, false), .ld false 1 (.t 69)⟩,
 ⟨some 71, none, .pick (.t 64) (.k (.d (.bool true))) (.t 70)⟩])
 (.cond (.t 71) (.seq (.ops [] [⟨some 72, none, .build [.d (.int .i64 0), .d (.str []), .nil 3, .d (.int .i64 0)] []⟩,
 ⟨some 153, none, .rst 153 true 4 (.t 72)⟩,
 ⟨some 7, none, .mv (.k (.d (.bool false)))⟩])
 (.ret))
 (.skip)))
 (.seq (.ops [] [⟨some 74, none, .mv (.t 0)⟩,
 ⟨some 75, none, .nilck (.t 74)⟩,
 ⟨some 76, none, .fa 0 2 true (.t 75)⟩,
 ⟨some 77, none, .ld true 2 (.t 76)⟩,
 ⟨some 78, none, .ld true 4 (.t 8)⟩,
 ⟨some 79, none, .fa 3 1 false (.t 8)⟩,
 ⟨some 80, none, .ld false 1 (.t 79)⟩,
 ⟨some 81, none, .mv (.t 13)⟩,
 ⟨some 82, none, .ia 5 true (.t 80) (.t 81)⟩,
 ⟨some 83, none, .ld true 5 (.t 82)⟩,
 ⟨some 84, none, .call 67 [.t 77, .t 78, .t 83]⟩,
 ⟨some 73, none, .mv (.t 84)⟩,
 ⟨some 85, none, .ext (.t 73) 0⟩,
 ⟨some 86, none, .ext (.t 73) 1⟩,
 ⟨some 14, none, .tk 85⟩,
 ⟨some 15, none, .tk 86⟩])
 (.seq (.ops [] [⟨some 87, none, .mkmap⟩,
 ⟨some 16, none, .tk 87⟩])
 (.seq (.seq (.ops [] [⟨some 88, none, .mv (.t 14)⟩,
 ⟨some 89, none, .nilck (.t 88)⟩,
 ⟨some 90, none, .fa 2 1 false (.t 89)⟩,
 ⟨some 91, none, .ld false 1 (.t 90)⟩,
 ⟨some 92, none, .len 1 (.t 91)⟩,
 ⟨some 93, none, .mv (.k (.d (.int .i64 0)))⟩])
 (.block 2 (.loop 147 [0, 8, 10, 13, 14, 16, 91, 92, 93, 153] (.seq (.ops [] [⟨some 94, none, .bin .lss (.t 93) (.t 92)⟩])
 (.seq (.cond (.t 94) (.skip)
 (.exit 2))
 (.seq (.block 3 (.seq (.ops [] [⟨some 95, none, .ia 3 true (.t 91) (.t 93)⟩,
 ⟨some 96, none, .ld true 3 (.t 95)⟩,
 ⟨some 18, none, .alloc true [.d (.str []), .d (.str []), .nil 1]⟩,
 ⟨none, none, .st true 3 (.t 18) (.t 96)⟩])
 (.seq (.ops [] [⟨some 98, none, .mv (.t 10)⟩,
 ⟨some 99, none, .fa 2 1 false (.t 18)⟩,
 ⟨some 100, none, .ld false 1 (.t 99)⟩,
 ⟨some 101, none, .call 82 [.t 98, .t 100]⟩,
 ⟨some 97, none, .mv (.t 101)⟩,
 ⟨some 102, none, .ext (.t 97) 0⟩,
 ⟨some 103, none, .ext (.t 97) 1⟩,
 ⟨some 19, none, .alloc true [.d (.int .i64 0), .d (.str []), .nil 3]⟩,
 ⟨none, none, .st true 3 (.t 19) (.t 102)⟩,
 ⟨some 20, none, .tk 103⟩])
 (.ops [] [⟨some 104, none, .mv (.t 16)⟩,
 ⟨some 105, none, .fa 0 1 false (.t 18)⟩,
 ⟨some 106, none, .ld false 1 (.t 105)⟩,
 ⟨some 107, none, .ld true 3 (.t 19)⟩,
 ⟨some 108, none, .call 63 [.t 107]⟩,
 ⟨none, none, .mup 1 (.t 104) (.t 106) (.t 108)⟩]))))
 (.ops [] [⟨some 109, none, .bin .add (.t 93) (.k (.d (.int .i64 1)))⟩,
 ⟨some 93, none, .mv (.t 109)⟩])))))))
 (.seq (.seq (.ops [] [⟨some 110, none, .mv (.t 14)⟩,
 ⟨some 111, none, .nilck (.t 110)⟩,
 ⟨some 112, none, .fa 3 1 false (.t 111)⟩,
 ⟨some 113, none, .ld false 1 (.t 112)⟩,
 ⟨some 114, none, .len 1 (.t 113)⟩,
 ⟨some 115, none, .mv (.k (.d (.int .i64 0)))⟩])
 (.block 4 (.loop 147 [0, 8, 10, 13, 16, 113, 114, 115, 153] (.seq (.ops [] [⟨some 116, none, .bin .lss (.t 115) (.t 114)⟩])
 (.seq (.cond (.t 116) (.skip)
 (.exit 4))
 (.seq (.block 5 (.seq (.ops [] [⟨some 117, none, .ia 3 true (.t 113) (.t 115)⟩,
 ⟨some 118, none, .ld true 3 (.t 117)⟩,
 ⟨some 22, none, .alloc true [.d (.str []), .d (.str []), .nil 1]⟩,
 ⟨none, none, .st true 3 (.t 22) (.t 118)⟩])
 (.seq (.ops [] [⟨some 120, none, .mv (.t 10)⟩,
 ⟨some 121, none, .fa 2 1 false (.t 22)⟩,
 ⟨some 122, none, .ld false 1 (.t 121)⟩,
 ⟨some 123, none, .call 82 [.t 120, .t 122]⟩,
 ⟨some 119, none, .mv (.t 123)⟩,
 ⟨some 124, none, .ext (.t 119) 0⟩,
 ⟨some 125, none, .ext (.t 119) 1⟩,
 ⟨some 23, none, .alloc true [.d (.int .i64 0), .d (.str []), .nil 3]⟩,
 ⟨none, none, .st true 3 (.t 23) (.t 124)⟩,
 ⟨some 24, none, .tk 125⟩])
 (.seq (.ops [] [⟨some 126, none, .ld true 3 (.t 23)⟩,
 ⟨some 127, none, .mv (.t 16)⟩,
 ⟨some 128, none, .fa 0 1 false (.t 22)⟩,
 ⟨some 129, none, .ld false 1 (.t 128)⟩,
 ⟨some 130, none, .look 1 false (.agg [.int .i64 0, .str [], .list 3 [], .int .i64 0]) (.t 127) (.t 129)⟩,
 ⟨some 131, none, .fld 0 3 true (.t 130)⟩,
 ⟨some 132, none, .call 109 [.t 126, .t 131]⟩,
 ⟨some 133, none, .not (.t 132)⟩])
 (.cond (.t 133) (.seq (.ops [] [⟨some 134, none, .build [.d (.int .i64 0), .d (.str []), .nil 3, .d (.int .i64 0)] []⟩,
 ⟨some 153, none, .rst 153 true 4 (.t 134)⟩,
 ⟨some 7, none, .mv (.k (.d (.bool false)))⟩])
 (.ret))
 (.skip))))))
 (.ops [] [⟨some 135, none, .bin .add (.t 115) (.k (.d (.int .i64 1)))⟩,
 ⟨some 115, none, .mv (.t 135)⟩])))))))
 (.seq (.ops [] [⟨some 136, none, .tk 0⟩,
 ⟨some 137, none, .fa 3 1 false (.t 8)⟩,
 ⟨some 138, none, .ld false 1 (.t 137)⟩,
 ⟨some 139, none, .mv (.t 13)⟩,
 ⟨some 140, none, .ia 5 true (.t 138) (.t 139)⟩,
 ⟨some 141, none, .fa 2 3 true (.t 140)⟩,
 ⟨some 142, none, .ld true 3 (.t 141)⟩,
 ⟨some 143, none, .tk 16⟩,
 ⟨some 144, none, .callS 110 [.t 136, .t 142, .t 143]⟩,
 ⟨some 145, none, .ext (.t 144) 0⟩,
 ⟨some 146, none, .ext (.t 144) 1⟩,
 ⟨some 153, none, .rst 153 true 4 (.t 145)⟩,
 ⟨some 7, none, .tk 146⟩])
 (.ret)))))))))))))⟩
theorem c64 : sp 64 = some (.code F64) := by kernel_rfl

/-- (*tenet/split.runner).eval -/
def F110 : AFunc := ⟨6, [.reg 91, .tmp 7],
 .seq (.ops [] [⟨some 4, none, .box true 3 (.t 1)⟩,
 ⟨some 91, none, .ralloc true [.d (.int .i64 0), .d (.str []), .nil 3, .d (.int .i64 0)]⟩,
 ⟨some 7, none, .mv (.k (.d (.bool false)))⟩])
 (.seq (.seq (.ops [] [⟨some 16, none, .fa 0 1 false (.t 4)⟩,
 ⟨some 17, none, .ld false 1 (.t 16)⟩,
 ⟨some 18, none, .bin .eql (.t 17) (.k (.d (.int .i64 1)))⟩])
 (.cond (.t 18) (.seq (.ops [] [⟨some 19, none, .mv (.t 2)⟩,
 ⟨some 20, none, .fa 1 1 false (.t 4)⟩,
 ⟨some 21, none, .ld false 1 (.t 20)⟩,
 ⟨some 22, none, .look 1 false (.agg [.int .i64 0, .str [], .list 3 [], .int .i64 0]) (.t 19) (.t 21)⟩,
 ⟨some 91, none, .rst 91 true 4 (.t 22)⟩,
 ⟨some 7, none, .mv (.k (.d (.bool true)))⟩])
 (.ret))
 (.skip)))
 (.seq (.ops [] [⟨some 8, none, .mv (.k (.nil 4))⟩])
 (.seq (.seq (.ops [] [⟨some 23, none, .fa 2 1 false (.t 4)⟩,
 ⟨some 24, none, .ld false 1 (.t 23)⟩,
 ⟨some 25, none, .len 1 (.t 24)⟩,
 ⟨some 26, none, .mv (.k (.d (.int .i64 0)))⟩])
 (.block 0 (.loop 85 [0, 2, 4, 8, 24, 25, 26, 91] (.seq (.ops [] [⟨some 27, none, .bin .lss (.t 26) (.t 25)⟩])
 (.seq (.cond (.t 27) (.skip)
 (.exit 0))
 (.seq (.block 1 (.seq (.ops [] [⟨some 28, none, .ia 3 true (.t 24) (.t 26)⟩,
 ⟨some 29, none, .ld true 3 (.t 28)⟩,
 ⟨some 10, none, .alloc true [.d (.int .i64 0), .d (.str []), .nil 3]⟩,
 ⟨none, none, .st true 3 (.t 10) (.t 29)⟩])
 (.seq (.ops [] [⟨some 31, none, .tk 0⟩,
 ⟨some 32, none, .ld true 3 (.t 10)⟩,
 ⟨some 33, none, .tk 2⟩,
 ⟨some 34, none, .callS 110 [.t 31, .t 32, .t 33]⟩,
 ⟨some 30, none, .mv (.t 34)⟩,
 ⟨some 35, none, .ext (.t 30) 0⟩,
 ⟨some 36, none, .ext (.t 30) 1⟩,
 ⟨some 11, none, .alloc true [.d (.int .i64 0), .d (.str []), .nil 3, .d (.int .i64 0)]⟩,
 ⟨none, none, .st true 4 (.t 11) (.t 35)⟩,
 ⟨some 12, none, .tk 36⟩])
 (.seq (.seq (.ops [] [⟨some 37, none, .mv (.t 12)⟩,
 ⟨some 38, none, .not (.t 37)⟩])
 (.cond (.t 38) (.seq (.ops [] [⟨some 39, none, .build [.d (.int .i64 0), .d (.str []), .nil 3, .d (.int .i64 0)] []⟩,
 ⟨some 91, none, .rst 91 true 4 (.t 39)⟩,
 ⟨some 7, none, .mv (.k (.d (.bool false)))⟩])
 (.ret))
 (.skip)))
 (.ops [] [⟨some 40, none, .tk 8⟩,
 ⟨some 41, none, .ld true 4 (.t 11)⟩,
 ⟨some 42, none, .lit 4 [.t 41]⟩,
 ⟨some 43, none, .app 4 (.t 40) (.t 42)⟩,
 ⟨some 8, none, .tk 43⟩])))))
 (.ops [] [⟨some 44, none, .bin .add (.t 26) (.k (.d (.int .i64 1)))⟩,
 ⟨some 26, none, .mv (.t 44)⟩])))))))
 (.seq (.seq (.ops [] [⟨some 45, none, .fa 0 1 false (.t 4)⟩,
 ⟨some 46, none, .ld false 1 (.t 45)⟩,
 ⟨some 47, none, .bin .eql (.t 46) (.k (.d (.int .i64 3)))⟩])
 (.cond (.t 47) (.seq (.ops [] [⟨some 48, none, .tk 0⟩,
 ⟨some 49, none, .fa 1 1 false (.t 4)⟩,
 ⟨some 50, none, .ld false 1 (.t 49)⟩,
 ⟨some 51, none, .tk 8⟩,
 ⟨some 52, none, .callS 64 [.t 48, .t 50, .t 51]⟩,
 ⟨some 53, none, .ext (.t 52) 0⟩,
 ⟨some 54, none, .ext (.t 52) 1⟩,
 ⟨some 91, none, .rst 91 true 4 (.t 53)⟩,
 ⟨some 7, none, .tk 54⟩])
 (.ret))
 (.skip)))
 (.seq (.ops [] [⟨some 55, none, .fa 1 1 false (.t 4)⟩,
 ⟨some 56, none, .ld false 1 (.t 55)⟩,
 ⟨some 57, none, .build [.d (.int .i64 0), .d (.str []), .nil 3] [(0, 1, (.k (.d (.int .i64 2)))), (1, 1, (.t 56))]⟩,
 ⟨some 58, none, .build [.d (.int .i64 0), .d (.str []), .nil 3, .d (.int .i64 0)] [(0, 3, (.t 57)), (3, 1, (.k (.d (.int .i64 1))))]⟩,
 ⟨some 13, none, .alloc true [.d (.int .i64 0), .d (.str []), .nil 3, .d (.int .i64 0)]⟩,
 ⟨none, none, .st true 4 (.t 13) (.t 58)⟩])
 (.seq (.seq (.ops [] [⟨some 59, none, .mv (.t 8)⟩,
 ⟨some 60, none, .len 1 (.t 59)⟩,
 ⟨some 61, none, .mv (.k (.d (.int .i64 0)))⟩])
 (.block 2 (.loop 85 [13, 59, 60, 61, 91] (.seq (.ops [] [⟨some 62, none, .bin .lss (.t 61) (.t 60)⟩])
 (.seq (.cond (.t 62) (.skip)
 (.exit 2))
 (.seq (.block 3 (.seq (.ops [] [⟨some 63, none, .ia 4 true (.t 59) (.t 61)⟩,
 ⟨some 64, none, .ld true 4 (.t 63)⟩,
 ⟨some 15, none, .alloc true [.d (.int .i64 0), .d (.str []), .nil 3, .d (.int .i64 0)]⟩,
 ⟨none, none, .st true 4 (.t 15) (.t 64)⟩])
 (.seq (.ops [] [⟨some 65, none, .fa 0 3 true (.t 13)⟩,
 ⟨some 66, none, .fa 2 1 false (.t 65)⟩,
 ⟨some 67, none, .ldT (.t 66)⟩,
 ⟨some 68, none, .fa 0 3 true (.t 15)⟩,
 ⟨some 69, none, .ld true 3 (.t 68)⟩,
 ⟨some 70, none, .lit 3 [.t 69]⟩,
 ⟨some 71, none, .app 3 (.t 67) (.t 70)⟩,
 ⟨some 72, none, .fa 0 3 true (.t 13)⟩,
 ⟨some 73, none, .fa 2 1 false (.t 72)⟩,
 ⟨none, none, .st false 1 (.t 73) (.t 71)⟩])
 (.ops [] [⟨some 74, none, .fa 3 1 false (.t 13)⟩,
 ⟨some 75, none, .ld false 1 (.t 74)⟩,
 ⟨some 76, none, .fa 3 1 false (.t 15)⟩,
 ⟨some 77, none, .ld false 1 (.t 76)⟩,
 ⟨some 78, none, .bin .add (.t 75) (.t 77)⟩,
 ⟨some 79, none, .fa 3 1 false (.t 13)⟩,
 ⟨none, none, .st false 1 (.t 79) (.t 78)⟩]))))
 (.ops [] [⟨some 80, none, .bin .add (.t 61) (.k (.d (.int .i64 1)))⟩,
 ⟨some 61, none, .mv (.t 80)⟩])))))))
 (.seq (.ops [] [⟨some 81, none, .ld true 4 (.t 13)⟩,
 ⟨some 82, none, .fa 3 1 false (.t 13)⟩,
 ⟨some 83, none, .ld false 1 (.t 82)⟩,
 ⟨some 84, none, .bin .leq (.t 83) (.k (.d (.int .i64 10000)))⟩,
 ⟨some 91, none, .rst 91 true 4 (.t 81)⟩,
 ⟨some 7, none, .tk 84⟩])
 (.ret))))))))⟩
theorem c110 : sp 110 = some (.code F110) := by kernel_rfl

/-- tenet/split.at -/
def F82 : AFunc := ⟨4, [.reg 39, .tmp 5],
 .seq (.ops [] [⟨some 39, none, .ralloc true [.d (.int .i64 0), .d (.str []), .nil 3]⟩,
 ⟨some 5, none, .mv (.k (.d (.bool false)))⟩])
 (.seq (.ops [] [⟨some 6, none, .alloc true [.d (.int .i64 0), .d (.str []), .nil 3]⟩])
 (.seq (.seq (.ops [] [⟨some 9, none, .mv (.t 1)⟩,
 ⟨some 10, none, .len 1 (.t 9)⟩,
 ⟨some 11, none, .mv (.k (.d (.int .i64 0)))⟩])
 (.block 0 (.loop 35 [0, 1, 6, 9, 10, 11, 39] (.seq (.ops [] [⟨some 12, none, .bin .lss (.t 11) (.t 10)⟩])
 (.seq (.cond (.t 12) (.skip)
 (.exit 0))
 (.seq (.block 1 (.seq (.ops [] [⟨some 13, none, .ia 1 false (.t 9) (.t 11)⟩,
 ⟨some 14, none, .ld false 1 (.t 13)⟩,
 ⟨some 8, none, .tk 14⟩])
 (.seq (.seq (.ops [] [⟨some 15, none, .mv (.t 8)⟩,
 ⟨some 16, none, .bin .lss (.t 15) (.k (.d (.int .i64 0)))⟩,
 ⟨some 17, none, .mv (.t 16)⟩,
 ⟨some 18, some (17, false), .mv (.t 8)⟩,
 ⟨some 19, some (17, false), .mv (.t 0)⟩,
 ⟨some 20, some (17, false), .len 1 (.t 19)⟩,
 ⟨some 21, some (17, false), .bin .geq (.t 18) (.t 20)⟩,
 ⟨some 22, none, .pick (.t 17) (.k (.d (.bool true))) (.t 21)⟩])
 (.cond (.t 22) (.seq (.ops [] [⟨some 23, none, .build [.d (.int .i64 0), .d (.str []), .nil 3] []⟩,
 ⟨some 39, none, .rst 39 true 3 (.t 23)⟩,
 ⟨some 5, none, .mv (.k (.d (.bool false)))⟩])
 (.ret))
 (.skip)))
 (.seq (.ops [] [⟨some 24, none, .mv (.t 0)⟩,
 ⟨some 25, none, .mv (.t 8)⟩,
 ⟨some 26, none, .ia 3 true (.t 24) (.t 25)⟩,
 ⟨some 27, none, .ld true 3 (.t 26)⟩,
 ⟨none, none, .st true 3 (.t 6) (.t 27)⟩])
 (.ops [] [⟨some 28, none, .fa 2 1 false (.t 6)⟩,
 ⟨some 29, none, .ld false 1 (.t 28)⟩,
 ⟨some 0, none, .tk 29⟩])))))
 (.ops [] [⟨some 30, none, .bin .add (.t 11) (.k (.d (.int .i64 1)))⟩,
 ⟨some 11, none, .mv (.t 30)⟩])))))))
 (.seq (.ops [] [⟨some 31, none, .ld true 3 (.t 6)⟩,
 ⟨some 32, none, .mv (.t 1)⟩,
 ⟨some 33, none, .len 1 (.t 32)⟩,
 ⟨some 34, none, .bin .gtr (.t 33) (.k (.d (.int .i64 0)))⟩,
 ⟨some 39, none, .rst 39 true 3 (.t 31)⟩,
 ⟨some 5, none, .tk 34⟩])
 (.ret))))⟩
theorem c82 : sp 82 = some (.code F82) := by kernel_rfl

/-- tenet/split.same -/
def F109 : AFunc := ⟨24, [.tmp 4],
 .seq (.ops [] [⟨some 2, none, .box true 3 (.t 0)⟩,
 ⟨some 3, none, .box true 3 (.t 1)⟩,
 ⟨some 4, none, .mv (.k (.d (.bool false)))⟩])
 (.seq (.ops [] [⟨some 5, none, .fa 0 1 false (.t 2)⟩,
 ⟨some 6, none, .ld false 1 (.t 5)⟩,
 ⟨some 7, none, .fa 0 1 false (.t 3)⟩,
 ⟨some 8, none, .ld false 1 (.t 7)⟩,
 ⟨some 9, none, .bin .eql (.t 6) (.t 8)⟩,
 ⟨some 10, none, .mv (.t 9)⟩,
 ⟨some 11, some (10, true), .fa 1 1 false (.t 2)⟩,
 ⟨some 12, some (10, true), .ld false 1 (.t 11)⟩,
 ⟨some 13, some (10, true), .fa 1 1 false (.t 3)⟩,
 ⟨some 14, some (10, true), .ld false 1 (.t 13)⟩,
 ⟨some 15, some (10, true), .bin .eql (.t 12) (.t 14)⟩,
 ⟨some 16, none, .pick (.t 10) (.t 15) (.k (.d (.bool false)))⟩,
 ⟨some 17, none, .mv (.t 16)⟩,
 ⟨some 18, some (17, true), .fa 2 1 false (.t 2)⟩,
 ⟨some 19, some (17, true), .ld false 1 (.t 18)⟩,
 ⟨some 20, some (17, true), .fa 2 1 false (.t 3)⟩,
 ⟨some 21, some (17, true), .ld false 1 (.t 20)⟩,
 ⟨some 22, some (17, true), .call 151 [.t 19, .t 21, .k (.d (.func 109 []))]⟩,
 ⟨some 23, none, .pick (.t 17) (.t 22) (.k (.d (.bool false)))⟩,
 ⟨some 4, none, .tk 23⟩])
 (.ret))⟩
theorem c109 : sp 109 = some (.code F109) := by kernel_rfl

/-- tenet/split.WithOf -/
def F27 : AFunc := ⟨68, [.tmp 6, .tmp 7, .tmp 8],
 .seq (.ops [] [⟨some 3, none, .box true 2 (.t 0)⟩,
 ⟨some 6, none, .mv (.k (.nil 1))⟩,
 ⟨some 7, none, .mv (.k (.nil 1))⟩,
 ⟨some 8, none, .mv (.k (.d (.int .i64 0)))⟩])
 (.seq (.ops [] [⟨some 18, none, .ld true 2 (.t 3)⟩,
 ⟨some 19, none, .mv (.t 1)⟩,
 ⟨some 20, none, .call 43 [.t 18, .t 19]⟩,
 ⟨some 17, none, .mv (.t 20)⟩,
 ⟨some 21, none, .ext (.t 17) 0⟩,
 ⟨some 22, none, .ext (.t 17) 1⟩,
 ⟨some 9, none, .alloc true [.d (.str []), .nil 1, .d (.str []), .nil 5]⟩,
 ⟨none, none, .st true 4 (.t 9) (.t 21)⟩,
 ⟨some 10, none, .tk 22⟩])
 (.seq (.seq (.ops [] [⟨some 23, none, .mv (.t 10)⟩,
 ⟨some 24, none, .bin .neq (.t 23) (.k (.d (.int .i64 0)))⟩])
 (.cond (.t 24) (.seq (.ops [] [⟨some 25, none, .tk 10⟩,
 ⟨some 6, none, .mv (.k (.nil 1))⟩,
 ⟨some 7, none, .mv (.k (.nil 1))⟩,
 ⟨some 8, none, .tk 25⟩])
 (.ret))
 (.skip)))
 (.seq (.seq (.ops [] [⟨some 26, none, .mv (.t 2)⟩,
 ⟨some 27, none, .bin .lss (.t 26) (.k (.d (.int .i64 0)))⟩,
 ⟨some 28, none, .mv (.t 27)⟩,
 ⟨some 29, some (28, false), .mv (.t 2)⟩,
 ⟨some 30, some (28, false), .fa 3 1 false (.t 9)⟩,
 ⟨some 31, some (28, false), .ld false 1 (.t 30)⟩,
 ⟨some 32, some (28, false), .len 1 (.t 31)⟩,
 ⟨some 33, some (28, false), .bin .geq (.t 29) (.t 32)⟩,
 ⟨some 34, none, .pick (.t 28) (.k (.d (.bool true))) (.t 33)⟩])
 (.cond (.t 34) (.seq (.ops [] [⟨some 6, none, .mv (.k (.nil 1))⟩,
 ⟨some 7, none, .mv (.k (.nil 1))⟩,
 ⟨some 8, none, .mv (.k (.d (.int .i64 1)))⟩])
 (.ret))
 (.skip)))
 (.seq (.ops [] [⟨some 36, none, .ld true 2 (.t 3)⟩,
 ⟨some 37, none, .ld true 4 (.t 9)⟩,
 ⟨some 38, none, .fa 3 1 false (.t 9)⟩,
 ⟨some 39, none, .ld false 1 (.t 38)⟩,
 ⟨some 40, none, .mv (.t 2)⟩,
 ⟨some 41, none, .ia 5 true (.t 39) (.t 40)⟩,
 ⟨some 42, none, .ld true 5 (.t 41)⟩,
 ⟨some 43, none, .call 67 [.t 36, .t 37, .t 42]⟩,
 ⟨some 35, none, .mv (.t 43)⟩,
 ⟨some 44, none, .ext (.t 35) 0⟩,
 ⟨some 45, none, .ext (.t 35) 1⟩,
 ⟨some 11, none, .tk 44⟩,
 ⟨some 12, none, .tk 45⟩])
 (.seq (.ops [] [⟨some 13, none, .mv (.k (.nil 1))⟩,
 ⟨some 14, none, .mv (.k (.nil 1))⟩])
 (.seq (.seq (.ops [] [⟨some 46, none, .mv (.t 11)⟩,
 ⟨some 47, none, .nilck (.t 46)⟩,
 ⟨some 48, none, .fa 2 1 false (.t 47)⟩,
 ⟨some 49, none, .ld false 1 (.t 48)⟩,
 ⟨some 50, none, .len 1 (.t 49)⟩,
 ⟨some 51, none, .mv (.k (.d (.int .i64 0)))⟩])
 (.block 0 (.loop 68 [13, 14, 49, 50, 51] (.seq (.ops [] [⟨some 52, none, .bin .lss (.t 51) (.t 50)⟩])
 (.seq (.cond (.t 52) (.skip)
 (.exit 0))
 (.seq (.block 1 (.seq (.ops [] [⟨some 53, none, .ia 3 true (.t 49) (.t 51)⟩,
 ⟨some 54, none, .ld true 3 (.t 53)⟩,
 ⟨some 16, none, .alloc true [.d (.str []), .d (.str []), .nil 1]⟩,
 ⟨none, none, .st true 3 (.t 16) (.t 54)⟩])
 (.ops [] [⟨some 55, none, .tk 13⟩,
 ⟨some 56, none, .fa 0 1 false (.t 16)⟩,
 ⟨some 57, none, .ld false 1 (.t 56)⟩,
 ⟨some 58, none, .lit 1 [.t 57]⟩,
 ⟨some 59, none, .app 1 (.t 55) (.t 58)⟩,
 ⟨some 60, none, .tk 14⟩,
 ⟨some 61, none, .fa 1 1 false (.t 16)⟩,
 ⟨some 62, none, .ld false 1 (.t 61)⟩,
 ⟨some 63, none, .lit 1 [.t 62]⟩,
 ⟨some 64, none, .app 1 (.t 60) (.t 63)⟩,
 ⟨some 13, none, .tk 59⟩,
 ⟨some 14, none, .tk 64⟩])))
 (.ops [] [⟨some 65, none, .bin .add (.t 51) (.k (.d (.int .i64 1)))⟩,
 ⟨some 51, none, .mv (.t 65)⟩])))))))
 (.seq (.ops [] [⟨some 66, none, .tk 13⟩,
 ⟨some 67, none, .tk 14⟩,
 ⟨some 6, none, .tk 66⟩,
 ⟨some 7, none, .tk 67⟩,
 ⟨some 8, none, .mv (.k (.d (.int .i64 0)))⟩])
 (.ret))))))))⟩
theorem c27 : sp 27 = some (.code F27) := by kernel_rfl

/-- tenet/tenetref15.First -/
def F24 : AFunc := ⟨28, [.tmp 6, .tmp 7],
 .seq (.ops [] [⟨some 3, none, .box true 2 (.t 0)⟩,
 ⟨some 6, none, .mv (.k (.d (.int .i64 0)))⟩,
 ⟨some 7, none, .mv (.k (.d (.int .i64 0)))⟩])
 (.seq (.ops [] [⟨some 11, none, .ld true 2 (.t 3)⟩,
 ⟨some 12, none, .mv (.t 1)⟩,
 ⟨some 13, none, .call 10 [.t 11, .t 12]⟩,
 ⟨some 10, none, .mv (.t 13)⟩,
 ⟨some 14, none, .ext (.t 10) 0⟩,
 ⟨some 15, none, .ext (.t 10) 1⟩,
 ⟨some 8, none, .alloc true [.d (.str []), .nil 1, .d (.str []), .nil 5]⟩,
 ⟨none, none, .st true 4 (.t 8) (.t 14)⟩,
 ⟨some 9, none, .tk 15⟩])
 (.seq (.seq (.ops [] [⟨some 16, none, .mv (.t 9)⟩,
 ⟨some 17, none, .bin .neq (.t 16) (.k (.d (.int .i64 0)))⟩])
 (.cond (.t 17) (.seq (.ops [] [⟨some 18, none, .tk 9⟩,
 ⟨some 6, none, .mv (.k (.d (.int .i64 0)))⟩,
 ⟨some 7, none, .tk 18⟩])
 (.ret))
 (.skip)))
 (.seq (.seq (.ops [] [⟨some 19, none, .ld true 2 (.t 3)⟩,
 ⟨some 20, none, .mv (.t 2)⟩,
 ⟨some 21, none, .fa 1 1 false (.t 8)⟩,
 ⟨some 22, none, .ld false 1 (.t 21)⟩,
 ⟨some 23, none, .call 61 [.t 19, .t 20, .t 22]⟩,
 ⟨some 24, none, .not (.t 23)⟩])
 (.cond (.t 24) (.seq (.ops [] [⟨some 6, none, .mv (.k (.d (.int .i64 0)))⟩,
 ⟨some 7, none, .mv (.k (.d (.int .i64 4)))⟩])
 (.ret))
 (.skip)))
 (.seq (.ops [] [⟨some 25, none, .ld true 4 (.t 8)⟩,
 ⟨some 26, none, .mv (.t 2)⟩,
 ⟨some 27, none, .call 62 [.t 25, .t 26]⟩,
 ⟨some 6, none, .tk 27⟩,
 ⟨some 7, none, .mv (.k (.d (.int .i64 0)))⟩])
 (.ret)))))⟩
theorem c24 : sp 24 = some (.code F24) := by kernel_rfl

/-- tenet/tenetref15.values -/
def F61 : AFunc := ⟨30, [.tmp 6],
 .seq (.ops [] [⟨some 3, none, .box true 2 (.t 0)⟩,
 ⟨some 6, none, .mv (.k (.d (.bool false)))⟩])
 (.seq (.seq (.ops [] [⟨some 8, none, .mv (.t 1)⟩,
 ⟨some 9, none, .len 1 (.t 8)⟩,
 ⟨some 10, none, .mv (.t 2)⟩,
 ⟨some 11, none, .len 1 (.t 10)⟩,
 ⟨some 12, none, .bin .neq (.t 9) (.t 11)⟩])
 (.cond (.t 12) (.seq (.ops [] [⟨some 6, none, .mv (.k (.d (.bool false)))⟩])
 (.ret))
 (.skip)))
 (.seq (.seq (.ops [] [⟨some 7, none, .mv (.k (.d (.int .i64 0)))⟩])
 (.block 0 (.loop 30 [1, 2, 3, 7] (.seq (.seq (.ops [] [⟨some 13, none, .mv (.t 7)⟩,
 ⟨some 14, none, .mv (.t 1)⟩,
 ⟨some 15, none, .len 1 (.t 14)⟩,
 ⟨some 16, none, .bin .lss (.t 13) (.t 15)⟩])
 (.cond (.t 16) (.skip)
 (.exit 0)))
 (.seq (.block 1 (.seq (.ops [] [⟨some 19, none, .ld true 2 (.t 3)⟩,
 ⟨some 20, none, .mv (.t 1)⟩,
 ⟨some 21, none, .mv (.t 7)⟩,
 ⟨some 22, none, .ia 3 true (.t 20) (.t 21)⟩,
 ⟨some 23, none, .ld true 3 (.t 22)⟩,
 ⟨some 24, none, .mv (.t 2)⟩,
 ⟨some 25, none, .mv (.t 7)⟩,
 ⟨some 26, none, .ia 1 false (.t 24) (.t 25)⟩,
 ⟨some 27, none, .ld false 1 (.t 26)⟩,
 ⟨some 28, none, .call 75 [.t 19, .t 23, .t 27]⟩,
 ⟨some 29, none, .not (.t 28)⟩])
 (.cond (.t 29) (.seq (.ops [] [⟨some 6, none, .mv (.k (.d (.bool false)))⟩])
 (.ret))
 (.skip))))
 (.ops [] [⟨some 17, none, .mv (.t 7)⟩,
 ⟨some 18, none, .bin .add (.t 17) (.k (.d (.int .i64 1)))⟩,
 ⟨some 7, none, .tk 18⟩]))))))
 (.seq (.ops [] [⟨some 6, none, .mv (.k (.d (.bool true)))⟩])
 (.ret))))⟩
theorem c61 : sp 61 = some (.code F61) := by kernel_rfl

/-- tenet/tenetref15.first -/
def F62 : AFunc := ⟨40, [.tmp 4],
 .seq (.ops [] [⟨some 2, none, .box true 4 (.t 0)⟩,
 ⟨some 4, none, .mv (.k (.d (.int .i64 0)))⟩])
 (.seq (.seq (.ops [] [⟨some 5, none, .mv (.k (.d (.int .i64 0)))⟩])
 (.block 0 (.loop 40 [1, 2, 5] (.seq (.seq (.ops [] [⟨some 8, none, .mv (.t 5)⟩,
 ⟨some 9, none, .fa 3 1 false (.t 2)⟩,
 ⟨some 10, none, .ld false 1 (.t 9)⟩,
 ⟨some 11, none, .len 1 (.t 10)⟩,
 ⟨some 12, none, .bin .lss (.t 8) (.t 11)⟩])
 (.cond (.t 12) (.skip)
 (.exit 0)))
 (.seq (.block 1 (.seq (.ops [] [⟨some 6, none, .mv (.k (.d (.bool true)))⟩])
 (.seq (.seq (.ops [] [⟨some 7, none, .mv (.k (.d (.int .i64 0)))⟩])
 (.block 2 (.loop 40 [1, 2, 5, 6, 7] (.seq (.seq (.ops [] [⟨some 15, none, .mv (.t 7)⟩,
 ⟨some 16, none, .mv (.t 1)⟩,
 ⟨some 17, none, .len 1 (.t 16)⟩,
 ⟨some 18, none, .bin .lss (.t 15) (.t 17)⟩])
 (.cond (.t 18) (.skip)
 (.exit 2)))
 (.seq (.block 3 (.ops [] [⟨some 21, none, .mv (.t 6)⟩,
 ⟨some 22, none, .mv (.t 21)⟩,
 ⟨some 23, some (22, true), .fa 3 1 false (.t 2)⟩,
 ⟨some 24, some (22, true), .ld false 1 (.t 23)⟩,
 ⟨some 25, some (22, true), .mv (.t 5)⟩,
 ⟨some 26, some (22, true), .ia 5 true (.t 24) (.t 25)⟩,
 ⟨some 27, some (22, true), .fa 0 1 false (.t 26)⟩,
 ⟨some 28, some (22, true), .ld false 1 (.t 27)⟩,
 ⟨some 29, some (22, true), .mv (.t 7)⟩,
 ⟨some 30, some (22, true), .ia 3 true (.t 28) (.t 29)⟩,
 ⟨some 31, some (22, true), .ld true 3 (.t 30)⟩,
 ⟨some 32, some (22, true), .mv (.t 1)⟩,
 ⟨some 33, some (22, true), .mv (.t 7)⟩,
 ⟨some 34, some (22, true), .ia 3 true (.t 32) (.t 33)⟩,
 ⟨some 35, some (22, true), .ld true 3 (.t 34)⟩,
 ⟨some 36, some (22, true), .call 108 [.t 31, .t 35]⟩,
 ⟨some 37, none, .pick (.t 22) (.t 36) (.k (.d (.bool false)))⟩,
 ⟨some 6, none, .tk 37⟩]))
 (.ops [] [⟨some 19, none, .mv (.t 7)⟩,
 ⟨some 20, none, .bin .add (.t 19) (.k (.d (.int .i64 1)))⟩,
 ⟨some 7, none, .tk 20⟩]))))))
 (.seq (.ops [] [⟨some 38, none, .mv (.t 6)⟩])
 (.cond (.t 38) (.seq (.ops [] [⟨some 39, none, .tk 5⟩,
 ⟨some 4, none, .tk 39⟩])
 (.ret))
 (.skip))))))
 (.ops [] [⟨some 13, none, .mv (.t 5)⟩,
 ⟨some 14, none, .bin .add (.t 13) (.k (.d (.int .i64 1)))⟩,
 ⟨some 5, none, .tk 14⟩]))))))
 (.seq (.ops [] [⟨some 4, none, .mv (.k (.d (.int .i64 (-1))))⟩])
 (.ret)))⟩
theorem c62 : sp 62 = some (.code F62) := by kernel_rfl

/-- tenet/tenetref15.Matches -/
def F108 : AFunc := ⟨46, [.tmp 4],
 .seq (.ops [] [⟨some 2, none, .box true 3 (.t 0)⟩,
 ⟨some 3, none, .box true 3 (.t 1)⟩,
 ⟨some 4, none, .mv (.k (.d (.bool false)))⟩])
 (.seq (.seq (.ops [] [⟨some 6, none, .ld true 3 (.t 2)⟩,
 ⟨some 7, none, .call 150 [.t 6]⟩])
 (.cond (.t 7) (.seq (.ops [] [⟨some 4, none, .mv (.k (.d (.bool true)))⟩])
 (.ret))
 (.skip)))
 (.seq (.seq (.ops [] [⟨some 8, none, .fa 0 1 false (.t 2)⟩,
 ⟨some 9, none, .ld false 1 (.t 8)⟩,
 ⟨some 10, none, .bin .neq (.t 9) (.k (.d (.int .i64 2)))⟩,
 ⟨some 11, none, .mv (.t 10)⟩,
 ⟨some 12, some (11, false), .fa 1 1 false (.t 2)⟩,
 ⟨some 13, some (11, false), .ld false 1 (.t 12)⟩,
 ⟨some 14, some (11, false), .fa 1 1 false (.t 3)⟩,
 ⟨some 15, some (11, false), .ld false 1 (.t 14)⟩,
 ⟨some 16, some (11, false), .bin .neq (.t 13) (.t 15)⟩,
 ⟨some 17, none, .pick (.t 11) (.k (.d (.bool true))) (.t 16)⟩,
 ⟨some 18, none, .mv (.t 17)⟩,
 ⟨some 19, some (18, false), .fa 2 1 false (.t 2)⟩,
 ⟨some 20, some (18, false), .ld false 1 (.t 19)⟩,
 ⟨some 21, some (18, false), .len 1 (.t 20)⟩,
 ⟨some 22, some (18, false), .fa 2 1 false (.t 3)⟩,
 ⟨some 23, some (18, false), .ld false 1 (.t 22)⟩,
 ⟨some 24, some (18, false), .len 1 (.t 23)⟩,
 ⟨some 25, some (18, false), .bin .neq (.t 21) (.t 24)⟩,
 ⟨some 26, none, .pick (.t 18) (.k (.d (.bool true))) (.t 25)⟩])
 (.cond (.t 26) (.seq (.ops [] [⟨some 4, none, .mv (.k (.d (.bool false)))⟩])
 (.ret))
 (.skip)))
 (.seq (.seq (.ops [] [⟨some 5, none, .mv (.k (.d (.int .i64 0)))⟩])
 (.block 0 (.loop 46 [2, 3, 5] (.seq (.seq (.ops [] [⟨some 27, none, .mv (.t 5)⟩,
 ⟨some 28, none, .fa 2 1 false (.t 2)⟩,
 ⟨some 29, none, .ld false 1 (.t 28)⟩,
 ⟨some 30, none, .len 1 (.t 29)⟩,
 ⟨some 31, none, .bin .lss (.t 27) (.t 30)⟩])
 (.cond (.t 31) (.skip)
 (.exit 0)))
 (.seq (.block 1 (.seq (.ops [] [⟨some 34, none, .fa 2 1 false (.t 2)⟩,
 ⟨some 35, none, .ld false 1 (.t 34)⟩,
 ⟨some 36, none, .mv (.t 5)⟩,
 ⟨some 37, none, .ia 3 true (.t 35) (.t 36)⟩,
 ⟨some 38, none, .ld true 3 (.t 37)⟩,
 ⟨some 39, none, .fa 2 1 false (.t 3)⟩,
 ⟨some 40, none, .ld false 1 (.t 39)⟩,
 ⟨some 41, none, .mv (.t 5)⟩,
 ⟨some 42, none, .ia 3 true (.t 40) (.t 41)⟩,
 ⟨some 43, none, .ld true 3 (.t 42)⟩,
 ⟨some 44, none, .call 108 [.t 38, .t 43]⟩,
 ⟨some 45, none, .not (.t 44)⟩])
 (.cond (.t 45) (.seq (.ops [] [⟨some 4, none, .mv (.k (.d (.bool false)))⟩])
 (.ret))
 (.skip))))
 (.ops [] [⟨some 32, none, .mv (.t 5)⟩,
 ⟨some 33, none, .bin .add (.t 32) (.k (.d (.int .i64 1)))⟩,
 ⟨some 5, none, .tk 33⟩]))))))
 (.seq (.ops [] [⟨some 4, none, .mv (.k (.d (.bool true)))⟩])
 (.ret)))))⟩
theorem c108 : sp 108 = some (.code F108) := by kernel_rfl

/-- tenet/tenetref15.Run -/
def F26 : AFunc := ⟨8, [.reg 63, .tmp 9, .tmp 10],
 .seq (.ops [] [⟨some 4, none, .box true 2 (.t 0)⟩,
 ⟨some 63, none, .ralloc true [.d (.int .i64 0), .d (.str []), .nil 3]⟩,
 ⟨some 9, none, .mv (.k (.d (.bool false)))⟩,
 ⟨some 10, none, .mv (.k (.d (.int .i64 0)))⟩])
 (.seq (.ops [] [⟨some 17, none, .ld true 2 (.t 4)⟩,
 ⟨some 18, none, .mv (.t 1)⟩,
 ⟨some 19, none, .call 10 [.t 17, .t 18]⟩,
 ⟨some 16, none, .mv (.t 19)⟩,
 ⟨some 20, none, .ext (.t 16) 0⟩,
 ⟨some 21, none, .ext (.t 16) 1⟩,
 ⟨some 11, none, .alloc true [.d (.str []), .nil 1, .d (.str []), .nil 5]⟩,
 ⟨none, none, .st true 4 (.t 11) (.t 20)⟩,
 ⟨some 12, none, .tk 21⟩])
 (.seq (.seq (.ops [] [⟨some 22, none, .mv (.t 12)⟩,
 ⟨some 23, none, .bin .neq (.t 22) (.k (.d (.int .i64 0)))⟩])
 (.cond (.t 23) (.seq (.ops [] [⟨some 24, none, .build [.d (.int .i64 0), .d (.str []), .nil 3] []⟩,
 ⟨some 25, none, .tk 12⟩,
 ⟨some 63, none, .rst 63 true 3 (.t 24)⟩,
 ⟨some 9, none, .mv (.k (.d (.bool false)))⟩,
 ⟨some 10, none, .tk 25⟩])
 (.ret))
 (.skip)))
 (.seq (.seq (.ops [] [⟨some 26, none, .ld true 2 (.t 4)⟩,
 ⟨some 27, none, .mv (.t 2)⟩,
 ⟨some 28, none, .fa 1 1 false (.t 11)⟩,
 ⟨some 29, none, .ld false 1 (.t 28)⟩,
 ⟨some 30, none, .call 61 [.t 26, .t 27, .t 29]⟩,
 ⟨some 31, none, .not (.t 30)⟩])
 (.cond (.t 31) (.seq (.ops [] [⟨some 32, none, .build [.d (.int .i64 0), .d (.str []), .nil 3] []⟩,
 ⟨some 63, none, .rst 63 true 3 (.t 32)⟩,
 ⟨some 9, none, .mv (.k (.d (.bool false)))⟩,
 ⟨some 10, none, .mv (.k (.d (.int .i64 4)))⟩])
 (.ret))
 (.skip)))
 (.seq (.seq (.ops [] [⟨some 33, none, .mv (.t 3)⟩,
 ⟨some 34, none, .bin .lss (.t 33) (.k (.d (.int .i64 0)))⟩,
 ⟨some 35, none, .mv (.t 34)⟩,
 ⟨some 36, some (35, false), .mv (.t 3)⟩,
 ⟨some 37, some (35, false), .bin .gtr (.t 36) (.k (.d (.int .i64 10000)))⟩,
 ⟨some 38, none, .pick (.t 35) (.k (.d (.bool true))) (.t 37)⟩])
 (.cond (.t 38) (.seq (.ops [] [⟨some 39, none, .build [.d (.int .i64 0), .d (.str []), .nil 3] []⟩,
 ⟨some 63, none, .rst 63 true 3 (.t 39)⟩,
 ⟨some 9, none, .mv (.k (.d (.bool false)))⟩,
 ⟨some 10, none, .mv (.k (.d (.int .i64 1)))⟩])
 (.ret))
 (.skip)))
 (.seq (.ops [] [⟨some 40, none, .ld true 2 (.t 4)⟩,
 ⟨some 41, none, .mv (.t 3)⟩,
 ⟨some 42, none, .build [.nil 2, .nil 4, .d (.int .i64 0)] [(0, 2, (.t 40)), (2, 1, (.t 41))]⟩,
 ⟨some 43, none, .box true 3 (.t 42)⟩,
 ⟨some 13, none, .tk 43⟩])
 (.seq (.ops [] [⟨some 45, none, .tk 13⟩,
 ⟨some 46, none, .tk 1⟩,
 ⟨some 47, none, .tk 2⟩,
 ⟨some 48, none, .callS 66 [.t 45, .t 46, .t 47]⟩,
 ⟨some 44, none, .mv (.t 48)⟩,
 ⟨some 49, none, .ext (.t 44) 0⟩,
 ⟨some 50, none, .ext (.t 44) 1⟩,
 ⟨some 14, none, .alloc true [.d (.int .i64 0), .d (.str []), .nil 3]⟩,
 ⟨none, none, .st true 3 (.t 14) (.t 49)⟩,
 ⟨some 15, none, .tk 50⟩])
 (.seq (.seq (.ops [] [⟨some 51, none, .mv (.t 15)⟩,
 ⟨some 52, none, .not (.t 51)⟩])
 (.cond (.t 52) (.seq (.ops [] [⟨some 53, none, .build [.d (.int .i64 0), .d (.str []), .nil 3] []⟩,
 ⟨some 63, none, .rst 63 true 3 (.t 53)⟩,
 ⟨some 9, none, .mv (.k (.d (.bool false)))⟩,
 ⟨some 10, none, .mv (.k (.d (.int .i64 0)))⟩])
 (.ret))
 (.skip)))
 (.seq (.ops [] [⟨some 54, none, .ld true 3 (.t 14)⟩,
 ⟨some 63, none, .rst 63 true 3 (.t 54)⟩,
 ⟨some 9, none, .mv (.k (.d (.bool true)))⟩,
 ⟨some 10, none, .mv (.k (.d (.int .i64 0)))⟩])
 (.ret)))))))))⟩
theorem c26 : sp 26 = some (.code F26) := by kernel_rfl

/-- tenet/tenetref15.EqExpr -/
def F29 : AFunc := ⟨46, [.tmp 4],
 .seq (.ops [] [⟨some 2, none, .box true 3 (.t 0)⟩,
 ⟨some 3, none, .box true 3 (.t 1)⟩,
 ⟨some 4, none, .mv (.k (.d (.bool false)))⟩])
 (.seq (.seq (.ops [] [⟨some 6, none, .fa 0 1 false (.t 2)⟩,
 ⟨some 7, none, .ld false 1 (.t 6)⟩,
 ⟨some 8, none, .fa 0 1 false (.t 3)⟩,
 ⟨some 9, none, .ld false 1 (.t 8)⟩,
 ⟨some 10, none, .bin .neq (.t 7) (.t 9)⟩,
 ⟨some 11, none, .mv (.t 10)⟩,
 ⟨some 12, some (11, false), .fa 1 1 false (.t 2)⟩,
 ⟨some 13, some (11, false), .ld false 1 (.t 12)⟩,
 ⟨some 14, some (11, false), .fa 1 1 false (.t 3)⟩,
 ⟨some 15, some (11, false), .ld false 1 (.t 14)⟩,
 ⟨some 16, some (11, false), .bin .neq (.t 13) (.t 15)⟩,
 ⟨some 17, none, .pick (.t 11) (.k (.d (.bool true))) (.t 16)⟩,
 ⟨some 18, none, .mv (.t 17)⟩,
 ⟨some 19, some (18, false), .fa 2 1 false (.t 2)⟩,
 ⟨some 20, some (18, false), .ld false 1 (.t 19)⟩,
 ⟨some 21, some (18, false), .len 1 (.t 20)⟩,
 ⟨some 22, some (18, false), .fa 2 1 false (.t 3)⟩,
 ⟨some 23, some (18, false), .ld false 1 (.t 22)⟩,
 ⟨some 24, some (18, false), .len 1 (.t 23)⟩,
 ⟨some 25, some (18, false), .bin .neq (.t 21) (.t 24)⟩,
 ⟨some 26, none, .pick (.t 18) (.k (.d (.bool true))) (.t 25)⟩])
 (.cond (.t 26) (.seq (.ops [] [⟨some 4, none, .mv (.k (.d (.bool false)))⟩])
 (.ret))
 (.skip)))
 (.seq (.seq (.ops [] [⟨some 5, none, .mv (.k (.d (.int .i64 0)))⟩])
 (.block 0 (.loop 46 [2, 3, 5] (.seq (.seq (.ops [] [⟨some 27, none, .mv (.t 5)⟩,
 ⟨some 28, none, .fa 2 1 false (.t 2)⟩,
 ⟨some 29, none, .ld false 1 (.t 28)⟩,
 ⟨some 30, none, .len 1 (.t 29)⟩,
 ⟨some 31, none, .bin .lss (.t 27) (.t 30)⟩])
 (.cond (.t 31) (.skip)
 (.exit 0)))
 (.seq (.block 1 (.seq (.ops [] [⟨some 34, none, .fa 2 1 false (.t 2)⟩,
 ⟨some 35, none, .ld false 1 (.t 34)⟩,
 ⟨some 36, none, .mv (.t 5)⟩,
 ⟨some 37, none, .ia 3 true (.t 35) (.t 36)⟩,
 ⟨some 38, none, .ld true 3 (.t 37)⟩,
 ⟨some 39, none, .fa 2 1 false (.t 3)⟩,
 ⟨some 40, none, .ld false 1 (.t 39)⟩,
 ⟨some 41, none, .mv (.t 5)⟩,
 ⟨some 42, none, .ia 3 true (.t 40) (.t 41)⟩,
 ⟨some 43, none, .ld true 3 (.t 42)⟩,
 ⟨some 44, none, .call 29 [.t 38, .t 43]⟩,
 ⟨some 45, none, .not (.t 44)⟩])
 (.cond (.t 45) (.seq (.ops [] [⟨some 4, none, .mv (.k (.d (.bool false)))⟩])
 (.ret))
 (.skip))))
 (.ops [] [⟨some 32, none, .mv (.t 5)⟩,
 ⟨some 33, none, .bin .add (.t 32) (.k (.d (.int .i64 1)))⟩,
 ⟨some 5, none, .tk 33⟩]))))))
 (.seq (.ops [] [⟨some 4, none, .mv (.k (.d (.bool true)))⟩])
 (.ret))))⟩
theorem c29 : sp 29 = some (.code F29) := by kernel_rfl

/-- tenet/tenetref15.bound -/
def F112 : AFunc := ⟨48, [.tmp 6],
 .seq (.ops [] [⟨some 3, none, .box true 3 (.t 0)⟩,
 ⟨some 4, none, .box true 3 (.t 1)⟩,
 ⟨some 6, none, .mv (.k (.nil 4))⟩])
 (.seq (.seq (.ops [] [⟨some 8, none, .fa 0 1 false (.t 3)⟩,
 ⟨some 9, none, .ld false 1 (.t 8)⟩,
 ⟨some 10, none, .bin .eql (.t 9) (.k (.d (.int .i64 1)))⟩,
 ⟨some 11, none, .mv (.t 10)⟩,
 ⟨some 12, some (11, true), .fa 1 1 false (.t 3)⟩,
 ⟨some 13, some (11, true), .ld false 1 (.t 12)⟩,
 ⟨some 14, some (11, true), .bin .neq (.t 13) (.k (.d (.str [95])))⟩,
 ⟨some 15, none, .pick (.t 11) (.t 14) (.k (.d (.bool false)))⟩])
 (.cond (.t 15) (.seq (.ops [] [⟨some 16, none, .tk 2⟩,
 ⟨some 17, none, .fa 1 1 false (.t 3)⟩,
 ⟨some 18, none, .ld false 1 (.t 17)⟩,
 ⟨some 19, none, .ld true 3 (.t 4)⟩,
 ⟨some 20, none, .build [.d (.str []), .d (.int .i64 0), .d (.str []), .nil 3] [(0, 1, (.t 18)), (1, 3, (.t 19))]⟩,
 ⟨some 21, none, .lit 4 [.t 20]⟩,
 ⟨some 22, none, .app 4 (.t 16) (.t 21)⟩,
 ⟨some 6, none, .tk 22⟩])
 (.ret))
 (.skip)))
 (.seq (.seq (.ops [] [⟨some 7, none, .mv (.k (.d (.int .i64 0)))⟩])
 (.block 0 (.loop 48 [2, 3, 4, 7] (.seq (.seq (.ops [] [⟨some 23, none, .fa 0 1 false (.t 3)⟩,
 ⟨some 24, none, .ld false 1 (.t 23)⟩,
 ⟨some 25, none, .bin .eql (.t 24) (.k (.d (.int .i64 2)))⟩,
 ⟨some 26, none, .mv (.t 25)⟩,
 ⟨some 27, some (26, true), .mv (.t 7)⟩,
 ⟨some 28, some (26, true), .fa 2 1 false (.t 3)⟩,
 ⟨some 29, some (26, true), .ld false 1 (.t 28)⟩,
 ⟨some 30, some (26, true), .len 1 (.t 29)⟩,
 ⟨some 31, some (26, true), .bin .lss (.t 27) (.t 30)⟩,
 ⟨some 32, none, .pick (.t 26) (.t 31) (.k (.d (.bool false)))⟩])
 (.cond (.t 32) (.skip)
 (.exit 0)))
 (.seq (.block 1 (.ops [] [⟨some 35, none, .fa 2 1 false (.t 3)⟩,
 ⟨some 36, none, .ld false 1 (.t 35)⟩,
 ⟨some 37, none, .mv (.t 7)⟩,
 ⟨some 38, none, .ia 3 true (.t 36) (.t 37)⟩,
 ⟨some 39, none, .ld true 3 (.t 38)⟩,
 ⟨some 40, none, .fa 2 1 false (.t 4)⟩,
 ⟨some 41, none, .ld false 1 (.t 40)⟩,
 ⟨some 42, none, .mv (.t 7)⟩,
 ⟨some 43, none, .ia 3 true (.t 41) (.t 42)⟩,
 ⟨some 44, none, .ld true 3 (.t 43)⟩,
 ⟨some 45, none, .tk 2⟩,
 ⟨some 46, none, .callS 112 [.t 39, .t 44, .t 45]⟩,
 ⟨some 2, none, .tk 46⟩]))
 (.ops [] [⟨some 33, none, .mv (.t 7)⟩,
 ⟨some 34, none, .bin .add (.t 33) (.k (.d (.int .i64 1)))⟩,
 ⟨some 7, none, .tk 34⟩]))))))
 (.seq (.ops [] [⟨some 47, none, .tk 2⟩,
 ⟨some 6, none, .tk 47⟩])
 (.ret))))⟩
theorem c112 : sp 112 = some (.code F112) := by kernel_rfl

/-- tenet/tenetref15.dots -/
def F113 : AFunc := ⟨43, [.tmp 6],
 .seq (.ops [] [⟨some 3, none, .box true 3 (.t 0)⟩,
 ⟨some 4, none, .box true 3 (.t 1)⟩,
 ⟨some 6, none, .mv (.k (.nil 4))⟩])
 (.seq (.seq (.ops [] [⟨some 8, none, .fa 0 1 false (.t 3)⟩,
 ⟨some 9, none, .ld false 1 (.t 8)⟩,
 ⟨some 10, none, .bin .eql (.t 9) (.k (.d (.int .i64 4)))⟩])
 (.cond (.t 10) (.seq (.ops [] [⟨some 11, none, .tk 2⟩,
 ⟨some 12, none, .fa 1 1 false (.t 3)⟩,
 ⟨some 13, none, .ld false 1 (.t 12)⟩,
 ⟨some 14, none, .ld true 3 (.t 4)⟩,
 ⟨some 15, none, .build [.d (.str []), .d (.int .i64 0), .d (.str []), .nil 3] [(0, 1, (.t 13)), (1, 3, (.t 14))]⟩,
 ⟨some 16, none, .lit 4 [.t 15]⟩,
 ⟨some 17, none, .app 4 (.t 11) (.t 16)⟩,
 ⟨some 6, none, .tk 17⟩])
 (.ret))
 (.skip)))
 (.seq (.seq (.ops [] [⟨some 7, none, .mv (.k (.d (.int .i64 0)))⟩])
 (.block 0 (.loop 43 [2, 3, 4, 7] (.seq (.seq (.ops [] [⟨some 18, none, .fa 0 1 false (.t 3)⟩,
 ⟨some 19, none, .ld false 1 (.t 18)⟩,
 ⟨some 20, none, .bin .eql (.t 19) (.k (.d (.int .i64 2)))⟩,
 ⟨some 21, none, .mv (.t 20)⟩,
 ⟨some 22, some (21, true), .mv (.t 7)⟩,
 ⟨some 23, some (21, true), .fa 2 1 false (.t 3)⟩,
 ⟨some 24, some (21, true), .ld false 1 (.t 23)⟩,
 ⟨some 25, some (21, true), .len 1 (.t 24)⟩,
 ⟨some 26, some (21, true), .bin .lss (.t 22) (.t 25)⟩,
 ⟨some 27, none, .pick (.t 21) (.t 26) (.k (.d (.bool false)))⟩])
 (.cond (.t 27) (.skip)
 (.exit 0)))
 (.seq (.block 1 (.ops [] [⟨some 30, none, .fa 2 1 false (.t 3)⟩,
 ⟨some 31, none, .ld false 1 (.t 30)⟩,
 ⟨some 32, none, .mv (.t 7)⟩,
 ⟨some 33, none, .ia 3 true (.t 31) (.t 32)⟩,
 ⟨some 34, none, .ld true 3 (.t 33)⟩,
 ⟨some 35, none, .fa 2 1 false (.t 4)⟩,
 ⟨some 36, none, .ld false 1 (.t 35)⟩,
 ⟨some 37, none, .mv (.t 7)⟩,
 ⟨some 38, none, .ia 3 true (.t 36) (.t 37)⟩,
 ⟨some 39, none, .ld true 3 (.t 38)⟩,
 ⟨some 40, none, .tk 2⟩,
 ⟨some 41, none, .callS 113 [.t 34, .t 39, .t 40]⟩,
 ⟨some 2, none, .tk 41⟩]))
 (.ops [] [⟨some 28, none, .mv (.t 7)⟩,
 ⟨some 29, none, .bin .add (.t 28) (.k (.d (.int .i64 1)))⟩,
 ⟨some 7, none, .tk 29⟩]))))))
 (.seq (.ops [] [⟨some 42, none, .tk 2⟩,
 ⟨some 6, none, .tk 42⟩])
 (.ret))))⟩
theorem c113 : sp 113 = some (.code F113) := by kernel_rfl

/-- tenet/tenetref15.find -/
def F114 : AFunc := ⟨4, [.reg 29],
 .seq (.ops [] [⟨some 29, none, .ralloc true [.d (.int .i64 0), .d (.str []), .nil 3]⟩])
 (.seq (.seq (.ops [] [⟨some 5, none, .mv (.k (.d (.int .i64 0)))⟩])
 (.block 0 (.loop 25 [0, 1, 5, 29] (.seq (.seq (.ops [] [⟨some 6, none, .mv (.t 5)⟩,
 ⟨some 7, none, .mv (.t 0)⟩,
 ⟨some 8, none, .len 1 (.t 7)⟩,
 ⟨some 9, none, .bin .lss (.t 6) (.t 8)⟩])
 (.cond (.t 9) (.skip)
 (.exit 0)))
 (.seq (.block 1 (.seq (.ops [] [⟨some 12, none, .mv (.t 0)⟩,
 ⟨some 13, none, .mv (.t 5)⟩,
 ⟨some 14, none, .ia 4 true (.t 12) (.t 13)⟩,
 ⟨some 15, none, .fa 0 1 false (.t 14)⟩,
 ⟨some 16, none, .ld false 1 (.t 15)⟩,
 ⟨some 17, none, .mv (.t 1)⟩,
 ⟨some 18, none, .bin .eql (.t 16) (.t 17)⟩])
 (.cond (.t 18) (.seq (.ops [] [⟨some 19, none, .mv (.t 0)⟩,
 ⟨some 20, none, .mv (.t 5)⟩,
 ⟨some 21, none, .ia 4 true (.t 19) (.t 20)⟩,
 ⟨some 22, none, .fa 1 3 true (.t 21)⟩,
 ⟨some 23, none, .ld true 3 (.t 22)⟩,
 ⟨some 29, none, .rst 29 true 3 (.t 23)⟩])
 (.ret))
 (.skip))))
 (.ops [] [⟨some 10, none, .mv (.t 5)⟩,
 ⟨some 11, none, .bin .add (.t 10) (.k (.d (.int .i64 1)))⟩,
 ⟨some 5, none, .tk 11⟩]))))))
 (.seq (.ops [] [⟨some 24, none, .build [.d (.int .i64 0), .d (.str []), .nil 3] []⟩,
 ⟨some 29, none, .rst 29 true 3 (.t 24)⟩])
 (.ret)))⟩
theorem c114 : sp 114 = some (.code F114) := by kernel_rfl

/-- (*tenet/tenetref15.runner).call -/
def F66 : AFunc := ⟨6, [.reg 133, .tmp 7],
 .seq (.ops [] [⟨some 133, none, .ralloc true [.d (.int .i64 0), .d (.str []), .nil 3]⟩,
 ⟨some 7, none, .mv (.k (.d (.bool false)))⟩])
 (.seq (.seq (.ops [] [⟨some 16, none, .mv (.t 0)⟩,
 ⟨some 17, none, .nilck (.t 16)⟩,
 ⟨some 18, none, .fa 2 1 false (.t 17)⟩,
 ⟨some 19, none, .ld false 1 (.t 18)⟩,
 ⟨some 20, none, .bin .eql (.t 19) (.k (.d (.int .i64 0)))⟩])
 (.cond (.t 20) (.seq (.ops [] [⟨some 21, none, .build [.d (.int .i64 0), .d (.str []), .nil 3] []⟩,
 ⟨some 133, none, .rst 133 true 3 (.t 21)⟩,
 ⟨some 7, none, .mv (.k (.d (.bool false)))⟩])
 (.ret))
 (.skip)))
 (.seq (.ops [] [⟨some 22, none, .mv (.t 0)⟩,
 ⟨some 23, none, .mv (.t 0)⟩,
 ⟨some 24, none, .nilck (.t 23)⟩,
 ⟨some 25, none, .fa 2 1 false (.t 24)⟩,
 ⟨some 26, none, .ld false 1 (.t 25)⟩,
 ⟨some 27, none, .bin .sub (.t 26) (.k (.d (.int .i64 1)))⟩,
 ⟨some 28, none, .nilck (.t 22)⟩,
 ⟨some 29, none, .fa 2 1 false (.t 28)⟩,
 ⟨none, none, .st false 1 (.t 29) (.t 27)⟩])
 (.seq (.ops [.cells true [.d (.str []), .nil 1, .d (.str []), .nil 5]] [⟨some 30, none, .mv (.t 0)⟩,
 ⟨some 31, none, .nilck (.t 30)⟩,
 ⟨some 32, none, .fa 0 2 true (.t 31)⟩,
 ⟨some 33, none, .fa 1 1 false (.t 32)⟩,
 ⟨some 34, none, .ld false 1 (.t 33)⟩,
 ⟨some 35, none, .mv (.t 0)⟩,
 ⟨some 36, none, .nilck (.t 35)⟩,
 ⟨some 37, none, .fa 0 2 true (.t 36)⟩,
 ⟨some 38, none, .ld true 2 (.t 37)⟩,
 ⟨some 39, none, .mv (.t 1)⟩,
 ⟨some 40, none, .call 45 [.t 38, .t 39]⟩,
 ⟨some 41, none, .ia 4 true (.t 34) (.t 40)⟩,
 ⟨some 42, none, .ld true 4 (.t 41)⟩,
 ⟨some 8, none, .allocR 0⟩,
 ⟨none, none, .st true 4 (.t 8) (.t 42)⟩])
 (.seq (.ops [] [⟨some 43, none, .ld true 4 (.t 8)⟩,
 ⟨some 44, none, .mv (.t 2)⟩,
 ⟨some 45, none, .call 62 [.t 43, .t 44]⟩,
 ⟨some 9, none, .tk 45⟩])
 (.seq (.seq (.ops [] [⟨some 46, none, .mv (.t 9)⟩,
 ⟨some 47, none, .bin .lss (.t 46) (.k (.d (.int .i64 0)))⟩])
 (.cond (.t 47) (.seq (.ops [] [⟨some 48, none, .build [.d (.int .i64 0), .d (.str []), .nil 3] []⟩,
 ⟨some 133, none, .rst 133 true 3 (.t 48)⟩,
 ⟨some 7, none, .mv (.k (.d (.bool false)))⟩])
 (.ret))
 (.skip)))
 (.seq (.ops [] [⟨some 10, none, .mv (.k (.nil 4))⟩,
 ⟨some 11, none, .mv (.k (.nil 4))⟩])
 (.seq (.seq (.ops [] [⟨some 12, none, .mv (.k (.d (.int .i64 0)))⟩])
 (.block 0 (.loop 127 [0, 2, 8, 9, 10, 11, 12, 133] (.seq (.seq (.ops [] [⟨some 49, none, .mv (.t 12)⟩,
 ⟨some 50, none, .mv (.t 2)⟩,
 ⟨some 51, none, .len 1 (.t 50)⟩,
 ⟨some 52, none, .bin .lss (.t 49) (.t 51)⟩])
 (.cond (.t 52) (.skip)
 (.exit 0)))
 (.seq (.block 1 (.seq (.ops [] [⟨some 55, none, .fa 3 1 false (.t 8)⟩,
 ⟨some 56, none, .ld false 1 (.t 55)⟩,
 ⟨some 57, none, .mv (.t 9)⟩,
 ⟨some 58, none, .ia 5 true (.t 56) (.t 57)⟩,
 ⟨some 59, none, .fa 0 1 false (.t 58)⟩,
 ⟨some 60, none, .ld false 1 (.t 59)⟩,
 ⟨some 61, none, .mv (.t 12)⟩,
 ⟨some 62, none, .ia 3 true (.t 60) (.t 61)⟩,
 ⟨some 63, none, .ld true 3 (.t 62)⟩,
 ⟨some 64, none, .mv (.t 2)⟩,
 ⟨some 65, none, .mv (.t 12)⟩,
 ⟨some 66, none, .ia 3 true (.t 64) (.t 65)⟩,
 ⟨some 67, none, .ld true 3 (.t 66)⟩,
 ⟨some 68, none, .tk 10⟩,
 ⟨some 69, none, .callS 112 [.t 63, .t 67, .t 68]⟩,
 ⟨some 10, none, .tk 69⟩])
 (.ops [] [⟨some 70, none, .fa 3 1 false (.t 8)⟩,
 ⟨some 71, none, .ld false 1 (.t 70)⟩,
 ⟨some 72, none, .mv (.t 9)⟩,
 ⟨some 73, none, .ia 5 true (.t 71) (.t 72)⟩,
 ⟨some 74, none, .fa 0 1 false (.t 73)⟩,
 ⟨some 75, none, .ld false 1 (.t 74)⟩,
 ⟨some 76, none, .mv (.t 12)⟩,
 ⟨some 77, none, .ia 3 true (.t 75) (.t 76)⟩,
 ⟨some 78, none, .ld true 3 (.t 77)⟩,
 ⟨some 79, none, .mv (.t 2)⟩,
 ⟨some 80, none, .mv (.t 12)⟩,
 ⟨some 81, none, .ia 3 true (.t 79) (.t 80)⟩,
 ⟨some 82, none, .ld true 3 (.t 81)⟩,
 ⟨some 83, none, .tk 11⟩,
 ⟨some 84, none, .callS 113 [.t 78, .t 82, .t 83]⟩,
 ⟨some 11, none, .tk 84⟩])))
 (.ops [] [⟨some 53, none, .mv (.t 12)⟩,
 ⟨some 54, none, .bin .add (.t 53) (.k (.d (.int .i64 1)))⟩,
 ⟨some 12, none, .tk 54⟩]))))))
 (.seq (.seq (.ops [] [⟨some 13, none, .mv (.k (.d (.int .i64 0)))⟩])
 (.block 2 (.loop 127 [0, 8, 9, 10, 11, 13, 133] (.seq (.seq (.ops [] [⟨some 85, none, .mv (.t 13)⟩,
 ⟨some 86, none, .mv (.t 11)⟩,
 ⟨some 87, none, .len 1 (.t 86)⟩,
 ⟨some 88, none, .bin .lss (.t 85) (.t 87)⟩])
 (.cond (.t 88) (.skip)
 (.exit 2)))
 (.seq (.block 3 (.seq (.ops [] [⟨some 91, none, .mv (.t 11)⟩,
 ⟨some 92, none, .mv (.t 13)⟩,
 ⟨some 93, none, .ia 4 true (.t 91) (.t 92)⟩,
 ⟨some 94, none, .fa 1 3 true (.t 93)⟩,
 ⟨some 95, none, .ld true 3 (.t 94)⟩,
 ⟨some 96, none, .mv (.t 10)⟩,
 ⟨some 97, none, .mv (.t 11)⟩,
 ⟨some 98, none, .mv (.t 13)⟩,
 ⟨some 99, none, .ia 4 true (.t 97) (.t 98)⟩,
 ⟨some 100, none, .fa 0 1 false (.t 99)⟩,
 ⟨some 101, none, .ld false 1 (.t 100)⟩,
 ⟨some 102, none, .call 114 [.t 96, .t 101]⟩,
 ⟨some 103, none, .call 29 [.t 95, .t 102]⟩,
 ⟨some 104, none, .not (.t 103)⟩])
 (.cond (.t 104) (.seq (.ops [] [⟨some 105, none, .build [.d (.int .i64 0), .d (.str []), .nil 3] []⟩,
 ⟨some 133, none, .rst 133 true 3 (.t 105)⟩,
 ⟨some 7, none, .mv (.k (.d (.bool false)))⟩])
 (.ret))
 (.skip))))
 (.ops [] [⟨some 89, none, .mv (.t 13)⟩,
 ⟨some 90, none, .bin .add (.t 89) (.k (.d (.int .i64 1)))⟩,
 ⟨some 13, none, .tk 90⟩]))))))
 (.seq (.ops [] [⟨some 107, none, .tk 0⟩,
 ⟨some 108, none, .fa 3 1 false (.t 8)⟩,
 ⟨some 109, none, .ld false 1 (.t 108)⟩,
 ⟨some 110, none, .mv (.t 9)⟩,
 ⟨some 111, none, .ia 5 true (.t 109) (.t 110)⟩,
 ⟨some 112, none, .fa 2 3 true (.t 111)⟩,
 ⟨some 113, none, .ld true 3 (.t 112)⟩,
 ⟨some 114, none, .tk 10⟩,
 ⟨some 115, none, .callS 115 [.t 107, .t 113, .t 114]⟩,
 ⟨some 106, none, .mv (.t 115)⟩,
 ⟨some 116, none, .ext (.t 106) 0⟩,
 ⟨some 117, none, .ext (.t 106) 1⟩,
 ⟨some 14, none, .alloc true [.d (.int .i64 0), .d (.str []), .nil 3]⟩,
 ⟨none, none, .st true 3 (.t 14) (.t 116)⟩,
 ⟨some 15, none, .tk 117⟩])
 (.seq (.seq (.ops [] [⟨some 118, none, .mv (.t 15)⟩,
 ⟨some 119, none, .not (.t 118)⟩,
 ⟨some 120, none, .mv (.t 119)⟩,
 ⟨some 121, some (120, false), .ld true 3 (.t 14)⟩,
 ⟨some 122, some (120, false), .call 99 [.t 121]⟩,
 ⟨some 123, some (120, false), .bin .gtr (.t 122) (.k (.d (.int .i64 10000)))⟩,
 ⟨some 124, none, .pick (.t 120) (.k (.d (.bool true))) (.t 123)⟩])
 (.cond (.t 124) (.seq (.ops [] [⟨some 125, none, .build [.d (.int .i64 0), .d (.str []), .nil 3] []⟩,
 ⟨some 133, none, .rst 133 true 3 (.t 125)⟩,
 ⟨some 7, none, .mv (.k (.d (.bool false)))⟩])
 (.ret))
 (.skip)))
 (.seq (.ops [] [⟨some 126, none, .ld true 3 (.t 14)⟩,
 ⟨some 133, none, .rst 133 true 3 (.t 126)⟩,
 ⟨some 7, none, .mv (.k (.d (.bool true)))⟩])
 (.ret))))))))))))⟩
theorem c66 : sp 66 = some (.code F66) := by kernel_rfl

/-- (*tenet/tenetref15.runner).eval -/
def F115 : AFunc := ⟨6, [.reg 69, .tmp 7],
 .seq (.ops [] [⟨some 4, none, .box true 3 (.t 1)⟩,
 ⟨some 69, none, .ralloc true [.d (.int .i64 0), .d (.str []), .nil 3]⟩,
 ⟨some 7, none, .mv (.k (.d (.bool false)))⟩])
 (.seq (.seq (.ops [] [⟨some 13, none, .fa 0 1 false (.t 4)⟩,
 ⟨some 14, none, .ld false 1 (.t 13)⟩,
 ⟨some 15, none, .bin .eql (.t 14) (.k (.d (.int .i64 1)))⟩])
 (.cond (.t 15) (.seq (.ops [] [⟨some 16, none, .mv (.t 2)⟩,
 ⟨some 17, none, .fa 1 1 false (.t 4)⟩,
 ⟨some 18, none, .ld false 1 (.t 17)⟩,
 ⟨some 19, none, .call 114 [.t 16, .t 18]⟩,
 ⟨some 69, none, .rst 69 true 3 (.t 19)⟩,
 ⟨some 7, none, .mv (.k (.d (.bool true)))⟩])
 (.ret))
 (.skip)))
 (.seq (.ops [] [⟨some 8, none, .mv (.k (.nil 3))⟩])
 (.seq (.seq (.ops [] [⟨some 9, none, .mv (.k (.d (.int .i64 0)))⟩])
 (.block 0 (.loop 63 [0, 2, 4, 8, 9, 69] (.seq (.seq (.ops [] [⟨some 20, none, .mv (.t 9)⟩,
 ⟨some 21, none, .fa 2 1 false (.t 4)⟩,
 ⟨some 22, none, .ld false 1 (.t 21)⟩,
 ⟨some 23, none, .len 1 (.t 22)⟩,
 ⟨some 24, none, .bin .lss (.t 20) (.t 23)⟩])
 (.cond (.t 24) (.skip)
 (.exit 0)))
 (.seq (.block 1 (.seq (.ops [] [⟨some 28, none, .tk 0⟩,
 ⟨some 29, none, .fa 2 1 false (.t 4)⟩,
 ⟨some 30, none, .ld false 1 (.t 29)⟩,
 ⟨some 31, none, .mv (.t 9)⟩,
 ⟨some 32, none, .ia 3 true (.t 30) (.t 31)⟩,
 ⟨some 33, none, .ld true 3 (.t 32)⟩,
 ⟨some 34, none, .tk 2⟩,
 ⟨some 35, none, .callS 115 [.t 28, .t 33, .t 34]⟩,
 ⟨some 27, none, .mv (.t 35)⟩,
 ⟨some 36, none, .ext (.t 27) 0⟩,
 ⟨some 37, none, .ext (.t 27) 1⟩,
 ⟨some 10, none, .alloc true [.d (.int .i64 0), .d (.str []), .nil 3]⟩,
 ⟨none, none, .st true 3 (.t 10) (.t 36)⟩,
 ⟨some 11, none, .tk 37⟩])
 (.seq (.seq (.ops [] [⟨some 38, none, .mv (.t 11)⟩,
 ⟨some 39, none, .not (.t 38)⟩])
 (.cond (.t 39) (.seq (.ops [] [⟨some 40, none, .build [.d (.int .i64 0), .d (.str []), .nil 3] []⟩,
 ⟨some 69, none, .rst 69 true 3 (.t 40)⟩,
 ⟨some 7, none, .mv (.k (.d (.bool false)))⟩])
 (.ret))
 (.skip)))
 (.ops [] [⟨some 41, none, .tk 8⟩,
 ⟨some 42, none, .ld true 3 (.t 10)⟩,
 ⟨some 43, none, .lit 3 [.t 42]⟩,
 ⟨some 44, none, .app 3 (.t 41) (.t 43)⟩,
 ⟨some 8, none, .tk 44⟩]))))
 (.ops [] [⟨some 25, none, .mv (.t 9)⟩,
 ⟨some 26, none, .bin .add (.t 25) (.k (.d (.int .i64 1)))⟩,
 ⟨some 9, none, .tk 26⟩]))))))
 (.seq (.seq (.ops [] [⟨some 45, none, .fa 0 1 false (.t 4)⟩,
 ⟨some 46, none, .ld false 1 (.t 45)⟩,
 ⟨some 47, none, .bin .eql (.t 46) (.k (.d (.int .i64 3)))⟩])
 (.cond (.t 47) (.seq (.ops [] [⟨some 48, none, .tk 0⟩,
 ⟨some 49, none, .fa 1 1 false (.t 4)⟩,
 ⟨some 50, none, .ld false 1 (.t 49)⟩,
 ⟨some 51, none, .tk 8⟩,
 ⟨some 52, none, .callS 66 [.t 48, .t 50, .t 51]⟩,
 ⟨some 53, none, .ext (.t 52) 0⟩,
 ⟨some 54, none, .ext (.t 52) 1⟩,
 ⟨some 69, none, .rst 69 true 3 (.t 53)⟩,
 ⟨some 7, none, .tk 54⟩])
 (.ret))
 (.skip)))
 (.seq (.ops [] [⟨some 55, none, .fa 1 1 false (.t 4)⟩,
 ⟨some 56, none, .ld false 1 (.t 55)⟩,
 ⟨some 57, none, .mv (.t 8)⟩,
 ⟨some 58, none, .build [.d (.int .i64 0), .d (.str []), .nil 3] [(0, 1, (.k (.d (.int .i64 2)))), (1, 1, (.t 56)), (2, 1, (.t 57))]⟩,
 ⟨some 12, none, .alloc true [.d (.int .i64 0), .d (.str []), .nil 3]⟩,
 ⟨none, none, .st true 3 (.t 12) (.t 58)⟩])
 (.seq (.ops [] [⟨some 59, none, .ld true 3 (.t 12)⟩,
 ⟨some 60, none, .ld true 3 (.t 12)⟩,
 ⟨some 61, none, .call 99 [.t 60]⟩,
 ⟨some 62, none, .bin .leq (.t 61) (.k (.d (.int .i64 10000)))⟩,
 ⟨some 69, none, .rst 69 true 3 (.t 59)⟩,
 ⟨some 7, none, .tk 62⟩])
 (.ret)))))))⟩
theorem c115 : sp 115 = some (.code F115) := by kernel_rfl

/-- tenet/tenetref15.WithOf -/
def F28 : AFunc := ⟨65, [.tmp 6, .tmp 7, .tmp 8],
 .seq (.ops [] [⟨some 3, none, .box true 2 (.t 0)⟩,
 ⟨some 6, none, .mv (.k (.nil 1))⟩,
 ⟨some 7, none, .mv (.k (.nil 1))⟩,
 ⟨some 8, none, .mv (.k (.d (.int .i64 0)))⟩])
 (.seq (.ops [] [⟨some 16, none, .ld true 2 (.t 3)⟩,
 ⟨some 17, none, .mv (.t 1)⟩,
 ⟨some 18, none, .call 10 [.t 16, .t 17]⟩,
 ⟨some 15, none, .mv (.t 18)⟩,
 ⟨some 19, none, .ext (.t 15) 0⟩,
 ⟨some 20, none, .ext (.t 15) 1⟩,
 ⟨some 9, none, .alloc true [.d (.str []), .nil 1, .d (.str []), .nil 5]⟩,
 ⟨none, none, .st true 4 (.t 9) (.t 19)⟩,
 ⟨some 10, none, .tk 20⟩])
 (.seq (.seq (.ops [] [⟨some 21, none, .mv (.t 10)⟩,
 ⟨some 22, none, .bin .neq (.t 21) (.k (.d (.int .i64 0)))⟩])
 (.cond (.t 22) (.seq (.ops [] [⟨some 23, none, .tk 10⟩,
 ⟨some 6, none, .mv (.k (.nil 1))⟩,
 ⟨some 7, none, .mv (.k (.nil 1))⟩,
 ⟨some 8, none, .tk 23⟩])
 (.ret))
 (.skip)))
 (.seq (.seq (.ops [] [⟨some 24, none, .mv (.t 2)⟩,
 ⟨some 25, none, .bin .lss (.t 24) (.k (.d (.int .i64 0)))⟩,
 ⟨some 26, none, .mv (.t 25)⟩,
 ⟨some 27, some (26, false), .mv (.t 2)⟩,
 ⟨some 28, some (26, false), .fa 3 1 false (.t 9)⟩,
 ⟨some 29, some (26, false), .ld false 1 (.t 28)⟩,
 ⟨some 30, some (26, false), .len 1 (.t 29)⟩,
 ⟨some 31, some (26, false), .bin .geq (.t 27) (.t 30)⟩,
 ⟨some 32, none, .pick (.t 26) (.k (.d (.bool true))) (.t 31)⟩])
 (.cond (.t 32) (.seq (.ops [] [⟨some 6, none, .mv (.k (.nil 1))⟩,
 ⟨some 7, none, .mv (.k (.nil 1))⟩,
 ⟨some 8, none, .mv (.k (.d (.int .i64 1)))⟩])
 (.ret))
 (.skip)))
 (.seq (.ops [] [⟨some 11, none, .mv (.k (.nil 1))⟩,
 ⟨some 12, none, .mv (.k (.nil 1))⟩])
 (.seq (.ops [] [⟨some 33, none, .ld true 2 (.t 3)⟩,
 ⟨some 34, none, .ld true 4 (.t 9)⟩,
 ⟨some 35, none, .fa 3 1 false (.t 9)⟩,
 ⟨some 36, none, .ld false 1 (.t 35)⟩,
 ⟨some 37, none, .mv (.t 2)⟩,
 ⟨some 38, none, .ia 5 true (.t 36) (.t 37)⟩,
 ⟨some 39, none, .ld true 5 (.t 38)⟩,
 ⟨some 40, none, .call 68 [.t 33, .t 34, .t 39]⟩,
 ⟨some 13, none, .tk 40⟩])
 (.seq (.seq (.ops [] [⟨some 14, none, .mv (.k (.d (.int .i64 0)))⟩])
 (.block 0 (.loop 65 [11, 12, 13, 14] (.seq (.seq (.ops [] [⟨some 41, none, .mv (.t 14)⟩,
 ⟨some 42, none, .mv (.t 13)⟩,
 ⟨some 43, none, .len 1 (.t 42)⟩,
 ⟨some 44, none, .bin .lss (.t 41) (.t 43)⟩])
 (.cond (.t 44) (.skip)
 (.exit 0)))
 (.seq (.block 1 (.ops [] [⟨some 47, none, .tk 11⟩,
 ⟨some 48, none, .mv (.t 13)⟩,
 ⟨some 49, none, .mv (.t 14)⟩,
 ⟨some 50, none, .ia 2 true (.t 48) (.t 49)⟩,
 ⟨some 51, none, .fa 0 1 false (.t 50)⟩,
 ⟨some 52, none, .ld false 1 (.t 51)⟩,
 ⟨some 53, none, .lit 1 [.t 52]⟩,
 ⟨some 54, none, .app 1 (.t 47) (.t 53)⟩,
 ⟨some 55, none, .tk 12⟩,
 ⟨some 56, none, .mv (.t 13)⟩,
 ⟨some 57, none, .mv (.t 14)⟩,
 ⟨some 58, none, .ia 2 true (.t 56) (.t 57)⟩,
 ⟨some 59, none, .fa 1 1 false (.t 58)⟩,
 ⟨some 60, none, .ld false 1 (.t 59)⟩,
 ⟨some 61, none, .lit 1 [.t 60]⟩,
 ⟨some 62, none, .app 1 (.t 55) (.t 61)⟩,
 ⟨some 11, none, .tk 54⟩,
 ⟨some 12, none, .tk 62⟩]))
 (.ops [] [⟨some 45, none, .mv (.t 14)⟩,
 ⟨some 46, none, .bin .add (.t 45) (.k (.d (.int .i64 1)))⟩,
 ⟨some 14, none, .tk 46⟩]))))))
 (.seq (.ops [] [⟨some 63, none, .tk 11⟩,
 ⟨some 64, none, .tk 12⟩,
 ⟨some 6, none, .tk 63⟩,
 ⟨some 7, none, .tk 64⟩,
 ⟨some 8, none, .mv (.k (.d (.int .i64 0)))⟩])
 (.ret))))))))⟩
theorem c28 : sp 28 = some (.code F28) := by kernel_rfl

/-- tenet/tenetref00.EqStrings -/
def F30 : AFunc := ⟨26, [.tmp 4],
 .seq (.ops [] [⟨some 4, none, .mv (.k (.d (.bool false)))⟩])
 (.seq (.seq (.ops [] [⟨some 6, none, .mv (.t 0)⟩,
 ⟨some 7, none, .len 1 (.t 6)⟩,
 ⟨some 8, none, .mv (.t 1)⟩,
 ⟨some 9, none, .len 1 (.t 8)⟩,
 ⟨some 10, none, .bin .neq (.t 7) (.t 9)⟩])
 (.cond (.t 10) (.seq (.ops [] [⟨some 4, none, .mv (.k (.d (.bool false)))⟩])
 (.ret))
 (.skip)))
 (.seq (.seq (.ops [] [⟨some 5, none, .mv (.k (.d (.int .i64 0)))⟩])
 (.block 0 (.loop 26 [0, 1, 5] (.seq (.seq (.ops [] [⟨some 11, none, .mv (.t 5)⟩,
 ⟨some 12, none, .mv (.t 0)⟩,
 ⟨some 13, none, .len 1 (.t 12)⟩,
 ⟨some 14, none, .bin .lss (.t 11) (.t 13)⟩])
 (.cond (.t 14) (.skip)
 (.exit 0)))
 (.seq (.block 1 (.seq (.ops [] [⟨some 17, none, .mv (.t 0)⟩,
 ⟨some 18, none, .mv (.t 5)⟩,
 ⟨some 19, none, .ia 1 false (.t 17) (.t 18)⟩,
 ⟨some 20, none, .ld false 1 (.t 19)⟩,
 ⟨some 21, none, .mv (.t 1)⟩,
 ⟨some 22, none, .mv (.t 5)⟩,
 ⟨some 23, none, .ia 1 false (.t 21) (.t 22)⟩,
 ⟨some 24, none, .ld false 1 (.t 23)⟩,
 ⟨some 25, none, .bin .neq (.t 20) (.t 24)⟩])
 (.cond (.t 25) (.seq (.ops [] [⟨some 4, none, .mv (.k (.d (.bool false)))⟩])
 (.ret))
 (.skip))))
 (.ops [] [⟨some 15, none, .mv (.t 5)⟩,
 ⟨some 16, none, .bin .add (.t 15) (.k (.d (.int .i64 1)))⟩,
 ⟨some 5, none, .tk 16⟩]))))))
 (.seq (.ops [] [⟨some 4, none, .mv (.k (.d (.bool true)))⟩])
 (.ret))))⟩
theorem c30 : sp 30 = some (.code F30) := by kernel_rfl

/-- slices.IndexFunc[[]tenet/api.Clause,tenet/api.Clause] -/
def F105 : AFunc := ⟨19, [.tmp 4],
 .seq (.ops [] [⟨some 4, none, .mv (.k (.d (.int .i64 0)))⟩])
 (.seq (.seq (.ops [] [⟨some 6, none, .mv (.t 0)⟩,
 ⟨some 7, none, .len 1 (.t 6)⟩,
 ⟨some 8, none, .mv (.k (.d (.int .i64 0)))⟩])
 (.block 0 (.loop 19 [0, 1, 7, 8] (.seq (.ops [] [⟨some 9, none, .bin .lss (.t 8) (.t 7)⟩])
 (.seq (.cond (.t 9) (.skip)
 (.exit 0))
 (.seq (.block 1 (.seq (.ops [] [⟨some 10, none, .tk 8⟩,
 ⟨some 5, none, .tk 10⟩])
 (.seq (.ops [] [⟨some 11, none, .mv (.t 1)⟩,
 ⟨some 12, none, .mv (.t 0)⟩,
 ⟨some 13, none, .mv (.t 5)⟩,
 ⟨some 14, none, .ia 5 true (.t 12) (.t 13)⟩,
 ⟨some 15, none, .ld true 5 (.t 14)⟩,
 ⟨some 16, none, .callV (.t 11) [.t 15]⟩])
 (.cond (.t 16) (.seq (.ops [] [⟨some 17, none, .tk 5⟩,
 ⟨some 4, none, .tk 17⟩])
 (.ret))
 (.skip)))))
 (.ops [] [⟨some 18, none, .bin .add (.t 8) (.k (.d (.int .i64 1)))⟩,
 ⟨some 8, none, .mv (.t 18)⟩])))))))
 (.seq (.ops [] [⟨some 4, none, .mv (.k (.d (.int .i64 (-1))))⟩])
 (.ret)))⟩
theorem c105 : sp 105 = some (.code F105) := by kernel_rfl

/-- slices.EqualFunc[[]tenet/api.Expr,[]tenet/api.Expr,tenet/api.Expr,tenet/api.Expr] -/
def F151 : AFunc := ⟨32, [.tmp 6],
 .seq (.ops [] [⟨some 6, none, .mv (.k (.d (.bool false)))⟩])
 (.seq (.seq (.ops [] [⟨some 10, none, .mv (.t 0)⟩,
 ⟨some 11, none, .len 1 (.t 10)⟩,
 ⟨some 12, none, .mv (.t 1)⟩,
 ⟨some 13, none, .len 1 (.t 12)⟩,
 ⟨some 14, none, .bin .neq (.t 11) (.t 13)⟩])
 (.cond (.t 14) (.seq (.ops [] [⟨some 6, none, .mv (.k (.d (.bool false)))⟩])
 (.ret))
 (.skip)))
 (.seq (.seq (.ops [] [⟨some 15, none, .mv (.t 0)⟩,
 ⟨some 16, none, .len 1 (.t 15)⟩,
 ⟨some 17, none, .mv (.k (.d (.int .i64 0)))⟩])
 (.block 0 (.loop 32 [1, 2, 15, 16, 17] (.seq (.ops [] [⟨some 18, none, .bin .lss (.t 17) (.t 16)⟩])
 (.seq (.cond (.t 18) (.skip)
 (.exit 0))
 (.seq (.block 1 (.seq (.ops [] [⟨some 19, none, .tk 17⟩,
 ⟨some 20, none, .ia 3 true (.t 15) (.t 17)⟩,
 ⟨some 21, none, .ld true 3 (.t 20)⟩,
 ⟨some 8, none, .alloc true [.d (.int .i64 0), .d (.str []), .nil 3]⟩,
 ⟨some 7, none, .tk 19⟩,
 ⟨none, none, .st true 3 (.t 8) (.t 21)⟩])
 (.seq (.ops [] [⟨some 22, none, .mv (.t 1)⟩,
 ⟨some 23, none, .mv (.t 7)⟩,
 ⟨some 24, none, .ia 3 true (.t 22) (.t 23)⟩,
 ⟨some 25, none, .ld true 3 (.t 24)⟩,
 ⟨some 9, none, .alloc true [.d (.int .i64 0), .d (.str []), .nil 3]⟩,
 ⟨none, none, .st true 3 (.t 9) (.t 25)⟩])
 (.seq (.ops [] [⟨some 26, none, .mv (.t 2)⟩,
 ⟨some 27, none, .ld true 3 (.t 8)⟩,
 ⟨some 28, none, .ld true 3 (.t 9)⟩,
 ⟨some 29, none, .callV (.t 26) [.t 27, .t 28]⟩,
 ⟨some 30, none, .not (.t 29)⟩])
 (.cond (.t 30) (.seq (.ops [] [⟨some 6, none, .mv (.k (.d (.bool false)))⟩])
 (.ret))
 (.skip))))))
 (.ops [] [⟨some 31, none, .bin .add (.t 17) (.k (.d (.int .i64 1)))⟩,
 ⟨some 17, none, .mv (.t 31)⟩])))))))
 (.seq (.ops [] [⟨some 6, none, .mv (.k (.d (.bool true)))⟩])
 (.ret))))⟩
theorem c151 : sp 151 = some (.code F151) := by kernel_rfl

end Go.Sp
