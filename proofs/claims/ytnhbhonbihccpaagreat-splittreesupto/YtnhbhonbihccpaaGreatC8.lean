/- SplitTrees holds of every input whose data are of bulk at most 1048576 (the row's second form). Here: The program's functions as abstract code. -/
import Derived.Test.YtnhbhonbihccpaaGreatB2
import Derived.KernelRfl

set_option linter.unusedVariables false
set_option linter.unusedSimpArgs false
set_option linter.unnecessarySimpa false

/-! The program's functions as abstract code. -/
namespace Go.Sp
open Go.Abs Go.Proofs
set_option maxRecDepth 20000

/-- tenet/tenetlaw15.SplitTrees -/
def F7 : AFunc := ⟨92, [.tmp 2],
 .seq (.ops [] [⟨some 1, none, .box true 4 (.t 0)⟩,
 ⟨some 2, none, .mv (.k (.d (.bool false)))⟩])
 (.seq (.seq (.ops [] [⟨some 9, none, .ld true 4 (.t 1)⟩,
 ⟨some 10, none, .call 22 [.t 9]⟩])
 (.cond (.t 10) (.seq (.ops [] [⟨some 2, none, .mv (.k (.d (.bool true)))⟩])
 (.ret))
 (.skip)))
 (.seq (.ops [] [⟨some 12, none, .fa 0 2 true (.t 1)⟩,
 ⟨some 13, none, .ld true 2 (.t 12)⟩,
 ⟨some 14, none, .fa 2 1 false (.t 1)⟩,
 ⟨some 15, none, .ld false 1 (.t 14)⟩,
 ⟨some 16, none, .call 38 [.t 13, .t 15]⟩,
 ⟨some 11, none, .mv (.t 16)⟩,
 ⟨some 17, none, .ext (.t 11) 0⟩,
 ⟨some 18, none, .ext (.t 11) 1⟩,
 ⟨some 3, none, .tk 17⟩,
 ⟨some 4, none, .tk 18⟩])
 (.seq (.ops [] [⟨some 20, none, .fa 0 2 true (.t 1)⟩,
 ⟨some 21, none, .ld true 2 (.t 20)⟩,
 ⟨some 22, none, .fa 2 1 false (.t 1)⟩,
 ⟨some 23, none, .ld false 1 (.t 22)⟩,
 ⟨some 24, none, .call 10 [.t 21, .t 23]⟩,
 ⟨some 19, none, .mv (.t 24)⟩,
 ⟨some 25, none, .ext (.t 19) 0⟩,
 ⟨some 26, none, .ext (.t 19) 1⟩,
 ⟨some 5, none, .alloc true [.d (.str []), .nil 1, .d (.str []), .nil 5]⟩,
 ⟨none, none, .st true 4 (.t 5) (.t 25)⟩,
 ⟨some 6, none, .tk 26⟩])
 (.seq (.seq (.ops [] [⟨some 27, none, .mv (.t 6)⟩,
 ⟨some 28, none, .bin .neq (.t 27) (.k (.d (.int .i64 0)))⟩])
 (.cond (.t 28) (.seq (.ops [] [⟨some 29, none, .mv (.t 4)⟩,
 ⟨some 30, none, .mv (.t 6)⟩,
 ⟨some 31, none, .bin .eql (.t 29) (.t 30)⟩,
 ⟨some 32, none, .mv (.t 31)⟩,
 ⟨some 33, some (32, true), .mv (.t 3)⟩,
 ⟨some 34, some (32, true), .len 1 (.t 33)⟩,
 ⟨some 35, some (32, true), .bin .eql (.t 34) (.k (.d (.int .i64 0)))⟩,
 ⟨some 36, none, .pick (.t 32) (.t 35) (.k (.d (.bool false)))⟩,
 ⟨some 37, none, .mv (.t 36)⟩,
 ⟨some 38, some (37, true), .call 11 []⟩,
 ⟨some 39, none, .pick (.t 37) (.t 38) (.k (.d (.bool false)))⟩,
 ⟨some 2, none, .tk 39⟩])
 (.ret))
 (.skip)))
 (.seq (.seq (.ops [] [⟨some 40, none, .mv (.t 4)⟩,
 ⟨some 41, none, .bin .neq (.t 40) (.k (.d (.int .i64 0)))⟩])
 (.cond (.t 41) (.seq (.ops [] [⟨some 42, none, .mv (.t 4)⟩,
 ⟨some 43, none, .bin .eql (.t 42) (.k (.d (.int .i64 2)))⟩,
 ⟨some 44, none, .mv (.t 43)⟩,
 ⟨some 45, some (44, true), .ld true 4 (.t 5)⟩,
 ⟨some 46, some (44, true), .call 39 [.t 45]⟩,
 ⟨some 47, some (44, true), .not (.t 46)⟩,
 ⟨some 48, none, .pick (.t 44) (.t 47) (.k (.d (.bool false)))⟩,
 ⟨some 49, none, .mv (.t 48)⟩,
 ⟨some 50, some (49, true), .mv (.t 3)⟩,
 ⟨some 51, some (49, true), .len 1 (.t 50)⟩,
 ⟨some 52, some (49, true), .bin .eql (.t 51) (.k (.d (.int .i64 0)))⟩,
 ⟨some 53, none, .pick (.t 49) (.t 52) (.k (.d (.bool false)))⟩,
 ⟨some 54, none, .mv (.t 53)⟩,
 ⟨some 55, some (54, true), .call 11 []⟩,
 ⟨some 56, none, .pick (.t 54) (.t 55) (.k (.d (.bool false)))⟩,
 ⟨some 2, none, .tk 56⟩])
 (.ret))
 (.skip)))
 (.seq (.ops [] [⟨some 58, none, .fa 0 2 true (.t 1)⟩,
 ⟨some 59, none, .ld true 2 (.t 58)⟩,
 ⟨some 60, none, .fa 2 1 false (.t 1)⟩,
 ⟨some 61, none, .ld false 1 (.t 60)⟩,
 ⟨some 62, none, .fa 3 1 false (.t 1)⟩,
 ⟨some 63, none, .ld false 1 (.t 62)⟩,
 ⟨some 64, none, .call 24 [.t 59, .t 61, .t 63]⟩,
 ⟨some 57, none, .mv (.t 64)⟩,
 ⟨some 65, none, .ext (.t 57) 0⟩,
 ⟨some 66, none, .ext (.t 57) 1⟩,
 ⟨some 7, none, .tk 65⟩,
 ⟨some 8, none, .tk 66⟩])
 (.seq (.seq (.ops [] [⟨some 67, none, .mv (.t 3)⟩,
 ⟨some 68, none, .len 1 (.t 67)⟩,
 ⟨some 69, none, .bin .gtr (.t 68) (.k (.d (.int .i64 400)))⟩])
 (.cond (.t 69) (.seq (.ops [] [⟨some 2, none, .mv (.k (.d (.bool false)))⟩])
 (.ret))
 (.skip)))
 (.seq (.seq (.ops [] [⟨some 70, none, .mv (.t 8)⟩,
 ⟨some 71, none, .bin .neq (.t 70) (.k (.d (.int .i64 0)))⟩])
 (.cond (.t 71) (.seq (.ops [] [⟨some 72, none, .call 11 []⟩,
 ⟨some 2, none, .tk 72⟩])
 (.ret))
 (.skip)))
 (.seq (.ops [] [⟨some 73, none, .mv (.t 3)⟩,
 ⟨some 74, none, .fa 3 1 false (.t 1)⟩,
 ⟨some 75, none, .ld false 1 (.t 74)⟩,
 ⟨some 76, none, .call 40 [.t 73, .t 75]⟩,
 ⟨some 77, none, .mv (.t 7)⟩,
 ⟨some 78, none, .bin .eql (.t 76) (.t 77)⟩,
 ⟨some 79, none, .mv (.t 78)⟩,
 ⟨some 80, some (79, true), .fa 0 2 true (.t 1)⟩,
 ⟨some 81, some (79, true), .ld true 2 (.t 80)⟩,
 ⟨some 82, some (79, true), .mv (.t 3)⟩,
 ⟨some 83, some (79, true), .fa 3 1 false (.t 1)⟩,
 ⟨some 84, some (79, true), .ld false 1 (.t 83)⟩,
 ⟨some 85, some (79, true), .call 41 [.t 81, .t 82, .t 84]⟩,
 ⟨some 86, some (79, true), .mv (.t 7)⟩,
 ⟨some 87, some (79, true), .bin .eql (.t 85) (.t 86)⟩,
 ⟨some 88, none, .pick (.t 79) (.t 87) (.k (.d (.bool false)))⟩,
 ⟨some 89, none, .mv (.t 88)⟩,
 ⟨some 90, some (89, true), .call 11 []⟩,
 ⟨some 91, none, .pick (.t 89) (.t 90) (.k (.d (.bool false)))⟩,
 ⟨some 2, none, .tk 91⟩])
 (.ret))))))))))⟩
theorem c7 : sp 7 = some (.code F7) := by kernel_rfl

/-- tenet/tenetlaw15.follow -/
def F40 : AFunc := ⟨112, [.tmp 4],
 .seq (.ops [] [⟨some 4, none, .mv (.k (.d (.int .i64 0)))⟩])
 (.seq (.ops [] [⟨some 5, none, .mv (.k (.d (.int .i64 0)))⟩])
 (.seq (.seq (.ops [] [⟨some 6, none, .mv (.k (.d (.int .i64 0)))⟩])
 (.block 0 (.loop 112 [0, 1, 5, 6] (.seq (.seq (.ops [] [⟨some 11, none, .mv (.t 6)⟩,
 ⟨some 12, none, .bin .leq (.t 11) (.k (.d (.int .i64 400)))⟩])
 (.cond (.t 12) (.skip)
 (.exit 0)))
 (.seq (.block 1 (.seq (.seq (.ops [] [⟨some 15, none, .mv (.t 5)⟩,
 ⟨some 16, none, .bin .lss (.t 15) (.k (.d (.int .i64 0)))⟩,
 ⟨some 17, none, .mv (.t 16)⟩,
 ⟨some 18, some (17, false), .mv (.t 5)⟩,
 ⟨some 19, some (17, false), .mv (.t 0)⟩,
 ⟨some 20, some (17, false), .len 1 (.t 19)⟩,
 ⟨some 21, some (17, false), .bin .geq (.t 18) (.t 20)⟩,
 ⟨some 22, none, .pick (.t 17) (.k (.d (.bool true))) (.t 21)⟩])
 (.cond (.t 22) (.seq (.ops [] [⟨some 4, none, .mv (.k (.d (.int .i64 (-2))))⟩])
 (.ret))
 (.skip)))
 (.seq (.ops [] [⟨some 23, none, .mv (.t 0)⟩,
 ⟨some 24, none, .mv (.t 5)⟩,
 ⟨some 25, none, .ia 4 true (.t 23) (.t 24)⟩,
 ⟨some 26, none, .ld true 4 (.t 25)⟩,
 ⟨some 7, none, .alloc true [.d (.int .i64 0), .nil 1, .nil 1, .nil 1]⟩,
 ⟨none, none, .st true 4 (.t 7) (.t 26)⟩])
 (.seq (.seq (.ops [] [⟨some 27, none, .fa 2 1 false (.t 7)⟩,
 ⟨some 28, none, .ld false 1 (.t 27)⟩,
 ⟨some 29, none, .len 1 (.t 28)⟩,
 ⟨some 30, none, .bin .eql (.t 29) (.k (.d (.int .i64 0)))⟩])
 (.cond (.t 30) (.seq (.ops [] [⟨some 31, none, .fa 0 1 false (.t 7)⟩,
 ⟨some 32, none, .ld false 1 (.t 31)⟩,
 ⟨some 4, none, .tk 32⟩])
 (.ret))
 (.skip)))
 (.seq (.seq (.ops [] [⟨some 33, none, .fa 1 1 false (.t 7)⟩,
 ⟨some 34, none, .ld false 1 (.t 33)⟩,
 ⟨some 35, none, .len 1 (.t 34)⟩,
 ⟨some 36, none, .bin .eql (.t 35) (.k (.d (.int .i64 0)))⟩,
 ⟨some 37, none, .mv (.t 36)⟩,
 ⟨some 38, some (37, false), .fa 1 1 false (.t 7)⟩,
 ⟨some 39, some (37, false), .ld false 1 (.t 38)⟩,
 ⟨some 40, some (37, false), .ia 1 false (.t 39) (.k (.d (.int .i64 0)))⟩,
 ⟨some 41, some (37, false), .ld false 1 (.t 40)⟩,
 ⟨some 42, some (37, false), .bin .lss (.t 41) (.k (.d (.int .i64 0)))⟩,
 ⟨some 43, none, .pick (.t 37) (.k (.d (.bool true))) (.t 42)⟩,
 ⟨some 44, none, .mv (.t 43)⟩,
 ⟨some 45, some (44, false), .fa 1 1 false (.t 7)⟩,
 ⟨some 46, some (44, false), .ld false 1 (.t 45)⟩,
 ⟨some 47, some (44, false), .ia 1 false (.t 46) (.k (.d (.int .i64 0)))⟩,
 ⟨some 48, some (44, false), .ld false 1 (.t 47)⟩,
 ⟨some 49, some (44, false), .mv (.t 1)⟩,
 ⟨some 50, some (44, false), .len 1 (.t 49)⟩,
 ⟨some 51, some (44, false), .bin .geq (.t 48) (.t 50)⟩,
 ⟨some 52, none, .pick (.t 44) (.k (.d (.bool true))) (.t 51)⟩])
 (.cond (.t 52) (.seq (.ops [] [⟨some 4, none, .mv (.k (.d (.int .i64 (-2))))⟩])
 (.ret))
 (.skip)))
 (.seq (.ops [] [⟨some 53, none, .mv (.t 1)⟩,
 ⟨some 54, none, .fa 1 1 false (.t 7)⟩,
 ⟨some 55, none, .ld false 1 (.t 54)⟩,
 ⟨some 56, none, .ia 1 false (.t 55) (.k (.d (.int .i64 0)))⟩,
 ⟨some 57, none, .ld false 1 (.t 56)⟩,
 ⟨some 58, none, .ia 3 true (.t 53) (.t 57)⟩,
 ⟨some 59, none, .ld true 3 (.t 58)⟩,
 ⟨some 8, none, .alloc true [.d (.int .i64 0), .d (.str []), .nil 3]⟩,
 ⟨none, none, .st true 3 (.t 8) (.t 59)⟩])
 (.seq (.seq (.ops [] [⟨some 9, none, .mv (.k (.d (.int .i64 1)))⟩])
 (.block 2 (.loop 112 [0, 1, 6, 7, 8, 9] (.seq (.seq (.ops [] [⟨some 60, none, .mv (.t 9)⟩,
 ⟨some 61, none, .fa 1 1 false (.t 7)⟩,
 ⟨some 62, none, .ld false 1 (.t 61)⟩,
 ⟨some 63, none, .len 1 (.t 62)⟩,
 ⟨some 64, none, .bin .lss (.t 60) (.t 63)⟩])
 (.cond (.t 64) (.skip)
 (.exit 2)))
 (.seq (.block 3 (.seq (.seq (.ops [] [⟨some 67, none, .fa 1 1 false (.t 7)⟩,
 ⟨some 68, none, .ld false 1 (.t 67)⟩,
 ⟨some 69, none, .mv (.t 9)⟩,
 ⟨some 70, none, .ia 1 false (.t 68) (.t 69)⟩,
 ⟨some 71, none, .ld false 1 (.t 70)⟩,
 ⟨some 72, none, .bin .lss (.t 71) (.k (.d (.int .i64 0)))⟩,
 ⟨some 73, none, .mv (.t 72)⟩,
 ⟨some 74, some (73, false), .fa 1 1 false (.t 7)⟩,
 ⟨some 75, some (73, false), .ld false 1 (.t 74)⟩,
 ⟨some 76, some (73, false), .mv (.t 9)⟩,
 ⟨some 77, some (73, false), .ia 1 false (.t 75) (.t 76)⟩,
 ⟨some 78, some (73, false), .ld false 1 (.t 77)⟩,
 ⟨some 79, some (73, false), .fa 2 1 false (.t 8)⟩,
 ⟨some 80, some (73, false), .ld false 1 (.t 79)⟩,
 ⟨some 81, some (73, false), .len 1 (.t 80)⟩,
 ⟨some 82, some (73, false), .bin .geq (.t 78) (.t 81)⟩,
 ⟨some 83, none, .pick (.t 73) (.k (.d (.bool true))) (.t 82)⟩])
 (.cond (.t 83) (.seq (.ops [] [⟨some 4, none, .mv (.k (.d (.int .i64 (-2))))⟩])
 (.ret))
 (.skip)))
 (.ops [] [⟨some 84, none, .fa 2 1 false (.t 8)⟩,
 ⟨some 85, none, .ld false 1 (.t 84)⟩,
 ⟨some 86, none, .fa 1 1 false (.t 7)⟩,
 ⟨some 87, none, .ld false 1 (.t 86)⟩,
 ⟨some 88, none, .mv (.t 9)⟩,
 ⟨some 89, none, .ia 1 false (.t 87) (.t 88)⟩,
 ⟨some 90, none, .ld false 1 (.t 89)⟩,
 ⟨some 91, none, .ia 3 true (.t 85) (.t 90)⟩,
 ⟨some 92, none, .ld true 3 (.t 91)⟩,
 ⟨none, none, .st true 3 (.t 8) (.t 92)⟩])))
 (.ops [] [⟨some 65, none, .mv (.t 9)⟩,
 ⟨some 66, none, .bin .add (.t 65) (.k (.d (.int .i64 1)))⟩,
 ⟨some 9, none, .tk 66⟩]))))))
 (.seq (.ops [] [⟨some 93, none, .fa 2 1 false (.t 7)⟩,
 ⟨some 94, none, .ld false 1 (.t 93)⟩,
 ⟨some 95, none, .fa 1 1 false (.t 8)⟩,
 ⟨some 96, none, .ld false 1 (.t 95)⟩,
 ⟨some 97, none, .call 81 [.t 94, .t 96]⟩,
 ⟨some 10, none, .tk 97⟩])
 (.seq (.seq (.ops [] [⟨some 98, none, .mv (.t 10)⟩,
 ⟨some 99, none, .bin .lss (.t 98) (.k (.d (.int .i64 0)))⟩,
 ⟨some 100, none, .mv (.t 99)⟩,
 ⟨some 101, some (100, false), .mv (.t 10)⟩,
 ⟨some 102, some (100, false), .fa 3 1 false (.t 7)⟩,
 ⟨some 103, some (100, false), .ld false 1 (.t 102)⟩,
 ⟨some 104, some (100, false), .len 1 (.t 103)⟩,
 ⟨some 105, some (100, false), .bin .geq (.t 101) (.t 104)⟩,
 ⟨some 106, none, .pick (.t 100) (.k (.d (.bool true))) (.t 105)⟩])
 (.cond (.t 106) (.seq (.ops [] [⟨some 4, none, .mv (.k (.d (.int .i64 (-2))))⟩])
 (.ret))
 (.skip)))
 (.ops [] [⟨some 107, none, .fa 3 1 false (.t 7)⟩,
 ⟨some 108, none, .ld false 1 (.t 107)⟩,
 ⟨some 109, none, .mv (.t 10)⟩,
 ⟨some 110, none, .ia 1 false (.t 108) (.t 109)⟩,
 ⟨some 111, none, .ld false 1 (.t 110)⟩,
 ⟨some 5, none, .tk 111⟩]))))))))))
 (.ops [] [⟨some 13, none, .mv (.t 6)⟩,
 ⟨some 14, none, .bin .add (.t 13) (.k (.d (.int .i64 1)))⟩,
 ⟨some 6, none, .tk 14⟩]))))))
 (.seq (.ops [] [⟨some 4, none, .mv (.k (.d (.int .i64 (-2))))⟩])
 (.ret))))⟩
theorem c40 : sp 40 = some (.code F40) := by kernel_rfl

/-- tenet/tenetlaw15.plain -/
def F39 : AFunc := ⟨52, [.tmp 2],
 .seq (.ops [] [⟨some 1, none, .box true 4 (.t 0)⟩,
 ⟨some 2, none, .mv (.k (.d (.bool false)))⟩])
 (.seq (.seq (.ops [] [⟨some 3, none, .mv (.k (.d (.int .i64 0)))⟩])
 (.block 0 (.loop 52 [1, 3] (.seq (.seq (.ops [] [⟨some 7, none, .mv (.t 3)⟩,
 ⟨some 8, none, .fa 3 1 false (.t 1)⟩,
 ⟨some 9, none, .ld false 1 (.t 8)⟩,
 ⟨some 10, none, .len 1 (.t 9)⟩,
 ⟨some 11, none, .bin .lss (.t 7) (.t 10)⟩])
 (.cond (.t 11) (.skip)
 (.exit 0)))
 (.seq (.block 1 (.seq (.ops [] [⟨some 4, none, .mv (.k (.d (.int .i64 0)))⟩])
 (.block 2 (.loop 52 [1, 3, 4] (.seq (.seq (.ops [] [⟨some 14, none, .mv (.t 4)⟩,
 ⟨some 15, none, .fa 3 1 false (.t 1)⟩,
 ⟨some 16, none, .ld false 1 (.t 15)⟩,
 ⟨some 17, none, .mv (.t 3)⟩,
 ⟨some 18, none, .ia 5 true (.t 16) (.t 17)⟩,
 ⟨some 19, none, .fa 0 1 false (.t 18)⟩,
 ⟨some 20, none, .ld false 1 (.t 19)⟩,
 ⟨some 21, none, .len 1 (.t 20)⟩,
 ⟨some 22, none, .bin .lss (.t 14) (.t 21)⟩])
 (.cond (.t 22) (.skip)
 (.exit 2)))
 (.seq (.block 3 (.seq (.ops [] [⟨some 25, none, .fa 3 1 false (.t 1)⟩,
 ⟨some 26, none, .ld false 1 (.t 25)⟩,
 ⟨some 27, none, .mv (.t 3)⟩,
 ⟨some 28, none, .ia 5 true (.t 26) (.t 27)⟩,
 ⟨some 29, none, .fa 0 1 false (.t 28)⟩,
 ⟨some 30, none, .ld false 1 (.t 29)⟩,
 ⟨some 31, none, .mv (.t 4)⟩,
 ⟨some 32, none, .ia 3 true (.t 30) (.t 31)⟩,
 ⟨some 33, none, .ld true 3 (.t 32)⟩,
 ⟨some 5, none, .alloc true [.d (.int .i64 0), .d (.str []), .nil 3]⟩,
 ⟨none, none, .st true 3 (.t 5) (.t 33)⟩])
 (.seq (.ops [] [⟨some 6, none, .mv (.k (.d (.int .i64 0)))⟩])
 (.block 4 (.loop 52 [1, 3, 4, 5, 6] (.seq (.seq (.ops [] [⟨some 34, none, .mv (.t 6)⟩,
 ⟨some 35, none, .fa 2 1 false (.t 5)⟩,
 ⟨some 36, none, .ld false 1 (.t 35)⟩,
 ⟨some 37, none, .len 1 (.t 36)⟩,
 ⟨some 38, none, .bin .lss (.t 34) (.t 37)⟩])
 (.cond (.t 38) (.skip)
 (.exit 4)))
 (.seq (.block 5 (.seq (.ops [] [⟨some 41, none, .fa 2 1 false (.t 5)⟩,
 ⟨some 42, none, .ld false 1 (.t 41)⟩,
 ⟨some 43, none, .mv (.t 6)⟩,
 ⟨some 44, none, .ia 3 true (.t 42) (.t 43)⟩,
 ⟨some 45, none, .fa 0 1 false (.t 44)⟩,
 ⟨some 46, none, .ld false 1 (.t 45)⟩,
 ⟨some 47, none, .bin .eql (.t 46) (.k (.d (.int .i64 2)))⟩])
 (.cond (.t 47) (.seq (.ops [] [⟨some 2, none, .mv (.k (.d (.bool false)))⟩])
 (.ret))
 (.skip))))
 (.ops [] [⟨some 39, none, .mv (.t 6)⟩,
 ⟨some 40, none, .bin .add (.t 39) (.k (.d (.int .i64 1)))⟩,
 ⟨some 6, none, .tk 40⟩]))))))))
 (.ops [] [⟨some 23, none, .mv (.t 4)⟩,
 ⟨some 24, none, .bin .add (.t 23) (.k (.d (.int .i64 1)))⟩,
 ⟨some 4, none, .tk 24⟩])))))))
 (.ops [] [⟨some 12, none, .mv (.t 3)⟩,
 ⟨some 13, none, .bin .add (.t 12) (.k (.d (.int .i64 1)))⟩,
 ⟨some 3, none, .tk 13⟩]))))))
 (.seq (.ops [] [⟨some 48, none, .fa 1 1 false (.t 1)⟩,
 ⟨some 49, none, .ld false 1 (.t 48)⟩,
 ⟨some 50, none, .len 1 (.t 49)⟩,
 ⟨some 51, none, .bin .leq (.t 50) (.k (.d (.int .i64 2)))⟩,
 ⟨some 2, none, .tk 51⟩])
 (.ret)))⟩
theorem c39 : sp 39 = some (.code F39) := by kernel_rfl

/-- tenet/split.Tree -/
def F38 : AFunc := ⟨28, [.tmp 4, .tmp 5],
 .seq (.ops [] [⟨some 2, none, .box true 2 (.t 0)⟩,
 ⟨some 4, none, .mv (.k (.nil 4))⟩,
 ⟨some 5, none, .mv (.k (.d (.int .i64 0)))⟩])
 (.seq (.ops [] [⟨some 11, none, .ld true 2 (.t 2)⟩,
 ⟨some 12, none, .mv (.t 1)⟩,
 ⟨some 13, none, .call 43 [.t 11, .t 12]⟩,
 ⟨some 10, none, .mv (.t 13)⟩,
 ⟨some 14, none, .ext (.t 10) 0⟩,
 ⟨some 15, none, .ext (.t 10) 1⟩,
 ⟨some 6, none, .alloc true [.d (.str []), .nil 1, .d (.str []), .nil 5]⟩,
 ⟨none, none, .st true 4 (.t 6) (.t 14)⟩,
 ⟨some 7, none, .tk 15⟩])
 (.seq (.seq (.ops [] [⟨some 16, none, .mv (.t 7)⟩,
 ⟨some 17, none, .bin .neq (.t 16) (.k (.d (.int .i64 0)))⟩])
 (.cond (.t 17) (.seq (.ops [] [⟨some 18, none, .tk 7⟩,
 ⟨some 4, none, .mv (.k (.nil 4))⟩,
 ⟨some 5, none, .tk 18⟩])
 (.ret))
 (.skip)))
 (.seq (.ops [] [⟨some 20, none, .ld true 2 (.t 2)⟩,
 ⟨some 21, none, .ld true 4 (.t 6)⟩,
 ⟨some 22, none, .call 80 [.t 20, .t 21]⟩,
 ⟨some 19, none, .mv (.t 22)⟩,
 ⟨some 23, none, .ext (.t 19) 0⟩,
 ⟨some 24, none, .ext (.t 19) 1⟩,
 ⟨some 8, none, .tk 23⟩,
 ⟨some 9, none, .tk 24⟩])
 (.seq (.seq (.ops [] [⟨some 25, none, .mv (.t 9)⟩,
 ⟨some 26, none, .not (.t 25)⟩])
 (.cond (.t 26) (.seq (.ops [] [⟨some 4, none, .mv (.k (.nil 4))⟩,
 ⟨some 5, none, .mv (.k (.d (.int .i64 2)))⟩])
 (.ret))
 (.skip)))
 (.seq (.ops [] [⟨some 27, none, .tk 8⟩,
 ⟨some 4, none, .tk 27⟩,
 ⟨some 5, none, .mv (.k (.d (.int .i64 0)))⟩])
 (.ret))))))⟩
theorem c38 : sp 38 = some (.code F38) := by kernel_rfl

/-- tenet/split.grown -/
def F80 : AFunc := ⟨59, [.tmp 4, .tmp 5],
 .seq (.ops [] [⟨some 2, none, .box true 2 (.t 0)⟩,
 ⟨some 3, none, .box true 4 (.t 1)⟩,
 ⟨some 4, none, .mv (.k (.nil 4))⟩,
 ⟨some 5, none, .mv (.k (.d (.bool false)))⟩])
 (.seq (.ops [] [⟨some 14, none, .ld true 2 (.t 2)⟩,
 ⟨some 15, none, .build [.nil 2, .nil 4, .nil 4] [(0, 2, (.t 14))]⟩,
 ⟨some 16, none, .box true 3 (.t 15)⟩,
 ⟨some 6, none, .tk 16⟩])
 (.seq (.ops [] [⟨some 7, none, .mv (.k (.nil 2))⟩])
 (.seq (.seq (.ops [] [⟨some 17, none, .fa 3 1 false (.t 3)⟩,
 ⟨some 18, none, .ld false 1 (.t 17)⟩,
 ⟨some 19, none, .len 1 (.t 18)⟩,
 ⟨some 20, none, .mv (.k (.d (.int .i64 0)))⟩])
 (.block 0 (.loop 59 [3, 6, 7, 18, 19, 20] (.seq (.ops [] [⟨some 21, none, .bin .lss (.t 20) (.t 19)⟩])
 (.seq (.cond (.t 21) (.skip)
 (.exit 0))
 (.seq (.block 1 (.seq (.ops [] [⟨some 22, none, .tk 20⟩,
 ⟨some 23, none, .ia 5 true (.t 18) (.t 20)⟩,
 ⟨some 24, none, .ld true 5 (.t 23)⟩,
 ⟨some 9, none, .alloc true [.nil 3, .d (.bool false), .d (.int .i64 0), .d (.str []), .nil 3]⟩,
 ⟨some 8, none, .tk 22⟩,
 ⟨none, none, .st true 5 (.t 9) (.t 24)⟩])
 (.ops [] [⟨some 25, none, .tk 7⟩,
 ⟨some 26, none, .mv (.t 8)⟩,
 ⟨some 27, none, .fa 0 1 false (.t 9)⟩,
 ⟨some 28, none, .ld false 1 (.t 27)⟩,
 ⟨some 29, none, .build [.d (.int .i64 0), .nil 3] [(0, 1, (.t 26)), (1, 1, (.t 28))]⟩,
 ⟨some 30, none, .lit 2 [.t 29]⟩,
 ⟨some 31, none, .app 2 (.t 25) (.t 30)⟩,
 ⟨some 7, none, .tk 31⟩])))
 (.ops [] [⟨some 32, none, .bin .add (.t 20) (.k (.d (.int .i64 1)))⟩,
 ⟨some 20, none, .mv (.t 32)⟩])))))))
 (.seq (.ops [] [⟨some 10, none, .mv (.k (.nil 2))⟩])
 (.seq (.seq (.ops [] [⟨some 33, none, .fa 1 1 false (.t 3)⟩,
 ⟨some 34, none, .ld false 1 (.t 33)⟩,
 ⟨some 35, none, .len 1 (.t 34)⟩,
 ⟨some 36, none, .mv (.k (.d (.int .i64 0)))⟩])
 (.block 2 (.loop 59 [6, 7, 10, 34, 35, 36] (.seq (.ops [] [⟨some 37, none, .bin .lss (.t 36) (.t 35)⟩])
 (.seq (.cond (.t 37) (.skip)
 (.exit 2))
 (.seq (.block 3 (.seq (.ops [] [⟨some 38, none, .tk 36⟩,
 ⟨some 39, none, .ia 1 false (.t 34) (.t 36)⟩,
 ⟨some 40, none, .ld false 1 (.t 39)⟩,
 ⟨some 11, none, .tk 38⟩,
 ⟨some 12, none, .tk 40⟩])
 (.ops [] [⟨some 41, none, .tk 10⟩,
 ⟨some 42, none, .mv (.t 11)⟩,
 ⟨some 43, none, .lit 1 [.t 42]⟩,
 ⟨some 44, none, .mv (.t 12)⟩,
 ⟨some 45, none, .build [.nil 1, .d (.str [])] [(0, 1, (.t 43)), (1, 1, (.t 44))]⟩,
 ⟨some 46, none, .lit 2 [.t 45]⟩,
 ⟨some 47, none, .app 2 (.t 41) (.t 46)⟩,
 ⟨some 10, none, .tk 47⟩])))
 (.ops [] [⟨some 48, none, .bin .add (.t 36) (.k (.d (.int .i64 1)))⟩,
 ⟨some 36, none, .mv (.t 48)⟩])))))))
 (.seq (.ops [] [⟨some 49, none, .tk 6⟩,
 ⟨some 50, none, .tk 7⟩,
 ⟨some 51, none, .tk 10⟩,
 ⟨some 52, none, .callS 129 [.t 49, .t 50, .t 51]⟩,
 ⟨some 53, none, .bin .eql (.t 52) (.k (.d (.int .i64 0)))⟩,
 ⟨some 13, none, .tk 53⟩])
 (.seq (.ops [] [⟨some 54, none, .mv (.t 6)⟩,
 ⟨some 55, none, .nilck (.t 54)⟩,
 ⟨some 56, none, .fa 2 1 false (.t 55)⟩,
 ⟨some 57, none, .ld false 1 (.t 56)⟩,
 ⟨some 58, none, .tk 13⟩,
 ⟨some 4, none, .tk 57⟩,
 ⟨some 5, none, .tk 58⟩])
 (.ret))))))))⟩
theorem c80 : sp 80 = some (.code F80) := by kernel_rfl

/-- (*tenet/split.growth).grow -/
def F129 : AFunc := ⟨166, [.tmp 6],
 .seq (.ops [] [⟨some 6, none, .mv (.k (.d (.int .i64 0)))⟩])
 (.scope (.seq (.ops [] [⟨some 7, none, .mv (.k (.d (.int .i64 0)))⟩,
 ⟨some 8, none, .mv (.k (.d (.int .i64 0)))⟩])
 (.seq (.label 0)
 (.seq (.seq (.ops [] [⟨some 21, none, .mv (.t 1)⟩,
 ⟨some 22, none, .len 1 (.t 21)⟩,
 ⟨some 23, none, .bin .eql (.t 22) (.k (.d (.int .i64 0)))⟩])
 (.cond (.t 23) (.seq (.ops [] [⟨some 24, none, .tk 0⟩,
 ⟨some 25, none, .callS 161 [.t 24, .k (.d (.int .i64 (-1)))]⟩,
 ⟨some 6, none, .tk 25⟩])
 (.ret))
 (.skip)))
 (.seq (.seq (.ops [] [⟨some 26, none, .mv (.t 1)⟩,
 ⟨some 27, none, .ia 2 true (.t 26) (.k (.d (.int .i64 0)))⟩,
 ⟨some 28, none, .fa 1 1 false (.t 27)⟩,
 ⟨some 29, none, .ld false 1 (.t 28)⟩,
 ⟨some 30, none, .call 162 [.t 29, .k (.d (.func 163 []))]⟩])
 (.cond (.t 30) (.seq (.ops [] [⟨some 31, none, .mv (.t 1)⟩,
 ⟨some 32, none, .slice 2 (.t 31) (some (.k (.d (.int .i64 1)))) none none⟩,
 ⟨some 1, none, .tk 32⟩])
 (.goto 0))
 (.skip)))
 (.seq (.ops [] [⟨some 33, none, .mv (.t 1)⟩,
 ⟨some 34, none, .ia 2 true (.t 33) (.k (.d (.int .i64 0)))⟩,
 ⟨some 35, none, .fa 1 1 false (.t 34)⟩,
 ⟨some 36, none, .ld false 1 (.t 35)⟩,
 ⟨some 37, none, .call 164 [.t 36, .k (.d (.func 165 []))]⟩,
 ⟨some 7, none, .tk 37⟩])
 (.seq (.seq (.ops [] [⟨some 38, none, .mv (.t 7)⟩,
 ⟨some 39, none, .bin .lss (.t 38) (.k (.d (.int .i64 0)))⟩])
 (.cond (.t 39) (.seq (.ops [] [⟨some 40, none, .tk 0⟩,
 ⟨some 41, none, .mv (.t 1)⟩,
 ⟨some 42, none, .ia 2 true (.t 41) (.k (.d (.int .i64 0)))⟩,
 ⟨some 43, none, .fa 0 1 false (.t 42)⟩,
 ⟨some 44, none, .ld false 1 (.t 43)⟩,
 ⟨some 45, none, .callS 161 [.t 40, .t 44]⟩,
 ⟨some 6, none, .tk 45⟩])
 (.ret))
 (.skip)))
 (.seq (.ops [] [⟨some 46, none, .tk 0⟩,
 ⟨some 47, none, .callS 161 [.t 46, .k (.d (.int .i64 (-1)))]⟩,
 ⟨some 8, none, .tk 47⟩])
 (.seq (.seq (.ops [] [⟨some 48, none, .mv (.t 8)⟩,
 ⟨some 49, none, .bin .lss (.t 48) (.k (.d (.int .i64 0)))⟩])
 (.cond (.t 49) (.seq (.ops [] [⟨some 6, none, .mv (.k (.d (.int .i64 (-1))))⟩])
 (.ret))
 (.skip)))
 (.seq (.ops [.cells true [.d (.str []), .nil 2]] [⟨some 51, none, .mv (.t 0)⟩,
 ⟨some 52, none, .nilck (.t 51)⟩,
 ⟨some 53, none, .fa 0 2 true (.t 52)⟩,
 ⟨some 54, none, .ld true 2 (.t 53)⟩,
 ⟨some 55, none, .mv (.t 2)⟩,
 ⟨some 56, none, .mv (.t 7)⟩,
 ⟨some 57, none, .ia 2 true (.t 55) (.t 56)⟩,
 ⟨some 58, none, .fa 1 1 false (.t 57)⟩,
 ⟨some 59, none, .ld false 1 (.t 58)⟩,
 ⟨some 60, none, .call 103 [.t 54, .t 59]⟩,
 ⟨some 50, none, .mv (.t 60)⟩,
 ⟨some 61, none, .ext (.t 50) 0⟩,
 ⟨some 62, none, .ext (.t 50) 1⟩,
 ⟨some 9, none, .allocR 0⟩,
 ⟨none, none, .st true 2 (.t 9) (.t 61)⟩,
 ⟨some 10, none, .tk 62⟩])
 (.seq (.ops [] [⟨some 63, none, .mv (.t 2)⟩,
 ⟨some 64, none, .mv (.t 7)⟩,
 ⟨some 65, none, .ia 2 true (.t 63) (.t 64)⟩,
 ⟨some 66, none, .fa 0 1 false (.t 65)⟩,
 ⟨some 67, none, .ld false 1 (.t 66)⟩,
 ⟨some 68, none, .call 166 [.t 67]⟩,
 ⟨some 69, none, .build [.d (.int .i64 0), .nil 1, .nil 1, .nil 1] [(1, 1, (.t 68))]⟩,
 ⟨some 11, none, .alloc true [.d (.int .i64 0), .nil 1, .nil 1, .nil 1]⟩,
 ⟨none, none, .st true 4 (.t 11) (.t 69)⟩])
 (.seq (.seq (.ops [] [⟨some 70, none, .fa 1 1 false (.t 9)⟩,
 ⟨some 71, none, .ld false 1 (.t 70)⟩,
 ⟨some 72, none, .len 1 (.t 71)⟩,
 ⟨some 73, none, .mv (.k (.d (.int .i64 0)))⟩])
 (.block 0 (.loop 166 [0, 1, 2, 7, 8, 11, 71, 72, 73] (.seq (.ops [] [⟨some 74, none, .bin .lss (.t 73) (.t 72)⟩])
 (.seq (.cond (.t 74) (.skip)
 (.exit 0))
 (.seq (.block 1 (.seq (.ops [] [⟨some 75, none, .ia 2 true (.t 71) (.t 73)⟩,
 ⟨some 76, none, .ld true 2 (.t 75)⟩,
 ⟨some 13, none, .alloc true [.d (.str []), .nil 1]⟩,
 ⟨none, none, .st true 2 (.t 13) (.t 76)⟩])
 (.seq (.ops [] [⟨some 14, none, .mv (.k (.nil 2))⟩])
 (.seq (.seq (.ops [] [⟨some 77, none, .mv (.t 1)⟩,
 ⟨some 78, none, .len 1 (.t 77)⟩,
 ⟨some 79, none, .mv (.k (.d (.int .i64 0)))⟩])
 (.block 2 (.loop 166 [0, 1, 2, 7, 8, 11, 13, 14, 71, 72, 73, 77, 78, 79] (.seq (.ops [] [⟨some 80, none, .bin .lss (.t 79) (.t 78)⟩])
 (.seq (.cond (.t 80) (.skip)
 (.exit 2))
 (.seq (.block 3 (.seq (.ops [] [⟨some 81, none, .ia 2 true (.t 77) (.t 79)⟩,
 ⟨some 82, none, .ld true 2 (.t 81)⟩,
 ⟨some 16, none, .alloc true [.d (.int .i64 0), .nil 3]⟩,
 ⟨none, none, .st true 2 (.t 16) (.t 82)⟩])
 (.seq (.ops [] [⟨some 83, none, .fa 1 1 false (.t 16)⟩,
 ⟨some 84, none, .ld false 1 (.t 83)⟩,
 ⟨some 85, none, .mv (.t 7)⟩,
 ⟨some 86, none, .ia 3 true (.t 84) (.t 85)⟩,
 ⟨some 87, none, .ld true 3 (.t 86)⟩,
 ⟨some 88, none, .lit 3 [.t 87]⟩,
 ⟨some 89, none, .fa 1 1 false (.t 16)⟩,
 ⟨some 90, none, .ld false 1 (.t 89)⟩,
 ⟨some 91, none, .mv (.t 7)⟩,
 ⟨some 92, none, .slice 3 (.t 90) none (some (.t 91)) none⟩,
 ⟨some 93, none, .fa 1 1 false (.t 16)⟩,
 ⟨some 94, none, .ld false 1 (.t 93)⟩,
 ⟨some 95, none, .mv (.t 7)⟩,
 ⟨some 96, none, .bin .add (.t 95) (.k (.d (.int .i64 1)))⟩,
 ⟨some 97, none, .slice 3 (.t 94) (some (.t 96)) none none⟩,
 ⟨some 98, none, .lit 1 [.t 88, .t 92, .t 97]⟩,
 ⟨some 99, none, .call 167 [.t 98]⟩,
 ⟨some 17, none, .tk 99⟩])
 (.seq (.ops [] [⟨some 100, none, .mv (.t 17)⟩,
 ⟨some 101, none, .lit 1 [.t 100]⟩,
 ⟨some 102, none, .fa 0 1 false (.t 13)⟩,
 ⟨some 103, none, .ld false 1 (.t 102)⟩,
 ⟨some 104, none, .fa 1 1 false (.t 13)⟩,
 ⟨some 105, none, .ld false 1 (.t 104)⟩,
 ⟨some 106, none, .len 1 (.t 105)⟩,
 ⟨some 107, none, .call 136 [.t 101, .t 103, .t 106]⟩,
 ⟨some 108, none, .len 1 (.t 107)⟩,
 ⟨some 109, none, .mv (.k (.d (.int .i64 0)))⟩])
 (.block 4 (.loop 166 [0, 1, 2, 7, 8, 11, 13, 14, 16, 71, 72, 73, 77, 78, 79, 107, 108, 109] (.seq (.ops [] [⟨some 110, none, .bin .lss (.t 109) (.t 108)⟩])
 (.seq (.cond (.t 110) (.skip)
 (.exit 4))
 (.seq (.block 5 (.seq (.ops [] [⟨some 111, none, .ia 1 false (.t 107) (.t 109)⟩,
 ⟨some 112, none, .ld false 1 (.t 111)⟩,
 ⟨some 19, none, .tk 112⟩])
 (.ops [] [⟨some 113, none, .tk 14⟩,
 ⟨some 114, none, .fa 0 1 false (.t 16)⟩,
 ⟨some 115, none, .ld false 1 (.t 114)⟩,
 ⟨some 116, none, .mv (.t 19)⟩,
 ⟨some 117, none, .build [.d (.int .i64 0), .nil 3] [(0, 1, (.t 115)), (1, 1, (.t 116))]⟩,
 ⟨some 118, none, .lit 2 [.t 117]⟩,
 ⟨some 119, none, .app 2 (.t 113) (.t 118)⟩,
 ⟨some 14, none, .tk 119⟩])))
 (.ops [] [⟨some 120, none, .bin .add (.t 109) (.k (.d (.int .i64 1)))⟩,
 ⟨some 109, none, .mv (.t 120)⟩]))))))))))
 (.ops [] [⟨some 121, none, .bin .add (.t 79) (.k (.d (.int .i64 1)))⟩,
 ⟨some 79, none, .mv (.t 121)⟩])))))))
 (.seq (.ops [] [⟨some 122, none, .tk 0⟩,
 ⟨some 123, none, .tk 14⟩,
 ⟨some 124, none, .mv (.t 0)⟩,
 ⟨some 125, none, .mv (.t 2)⟩,
 ⟨some 126, none, .mv (.t 7)⟩,
 ⟨some 127, none, .ia 2 true (.t 125) (.t 126)⟩,
 ⟨some 128, none, .fa 0 1 false (.t 127)⟩,
 ⟨some 129, none, .ld false 1 (.t 128)⟩,
 ⟨some 130, none, .ld true 2 (.t 13)⟩,
 ⟨some 131, none, .callX 169 [.t 124, .t 129, .t 130]⟩,
 ⟨some 132, none, .mv (.t 2)⟩,
 ⟨some 133, none, .mv (.t 7)⟩,
 ⟨some 134, none, .slice 2 (.t 132) none (some (.t 133)) none⟩,
 ⟨some 135, none, .mv (.t 2)⟩,
 ⟨some 136, none, .mv (.t 7)⟩,
 ⟨some 137, none, .bin .add (.t 136) (.k (.d (.int .i64 1)))⟩,
 ⟨some 138, none, .slice 2 (.t 135) (some (.t 137)) none none⟩,
 ⟨some 139, none, .lit 1 [.t 131, .t 134, .t 138]⟩,
 ⟨some 140, none, .call 168 [.t 139]⟩,
 ⟨some 141, none, .callS 129 [.t 122, .t 123, .t 140]⟩,
 ⟨some 20, none, .tk 141⟩])
 (.seq (.seq (.ops [] [⟨some 142, none, .mv (.t 20)⟩,
 ⟨some 143, none, .bin .lss (.t 142) (.k (.d (.int .i64 0)))⟩])
 (.cond (.t 143) (.seq (.ops [] [⟨some 6, none, .mv (.k (.d (.int .i64 (-1))))⟩])
 (.ret))
 (.skip)))
 (.seq (.ops [] [⟨some 144, none, .fa 2 1 false (.t 11)⟩,
 ⟨some 145, none, .ldT (.t 144)⟩,
 ⟨some 146, none, .fa 0 1 false (.t 13)⟩,
 ⟨some 147, none, .ld false 1 (.t 146)⟩,
 ⟨some 148, none, .lit 1 [.t 147]⟩,
 ⟨some 149, none, .app 1 (.t 145) (.t 148)⟩,
 ⟨some 150, none, .fa 2 1 false (.t 11)⟩,
 ⟨none, none, .st false 1 (.t 150) (.t 149)⟩])
 (.ops [] [⟨some 151, none, .fa 3 1 false (.t 11)⟩,
 ⟨some 152, none, .ldT (.t 151)⟩,
 ⟨some 153, none, .mv (.t 20)⟩,
 ⟨some 154, none, .lit 1 [.t 153]⟩,
 ⟨some 155, none, .app 1 (.t 152) (.t 154)⟩,
 ⟨some 156, none, .fa 3 1 false (.t 11)⟩,
 ⟨none, none, .st false 1 (.t 156) (.t 155)⟩]))))))))
 (.ops [] [⟨some 157, none, .bin .add (.t 73) (.k (.d (.int .i64 1)))⟩,
 ⟨some 73, none, .mv (.t 157)⟩])))))))
 (.seq (.ops [] [⟨some 158, none, .mv (.t 0)⟩,
 ⟨some 159, none, .nilck (.t 158)⟩,
 ⟨some 160, none, .fa 2 1 false (.t 159)⟩,
 ⟨some 161, none, .ld false 1 (.t 160)⟩,
 ⟨some 162, none, .mv (.t 8)⟩,
 ⟨some 163, none, .ld true 4 (.t 11)⟩,
 ⟨some 164, none, .ia 4 true (.t 161) (.t 162)⟩,
 ⟨none, none, .st true 4 (.t 164) (.t 163)⟩])
 (.seq (.ops [] [⟨some 165, none, .tk 8⟩,
 ⟨some 6, none, .tk 165⟩])
 (.ret)))))))))))))))⟩
theorem c129 : sp 129 = some (.code F129) := by kernel_rfl

/-- (*tenet/split.growth).grow$1 -/
def F163 : AFunc := ⟨6, [.tmp 2],
 .seq (.ops [] [⟨some 1, none, .box true 3 (.t 0)⟩,
 ⟨some 2, none, .mv (.k (.d (.bool false)))⟩])
 (.seq (.ops [] [⟨some 3, none, .fa 0 1 false (.t 1)⟩,
 ⟨some 4, none, .ld false 1 (.t 3)⟩,
 ⟨some 5, none, .bin .eql (.t 4) (.k (.d (.int .i64 3)))⟩,
 ⟨some 2, none, .tk 5⟩])
 (.ret))⟩
theorem c163 : sp 163 = some (.code F163) := by kernel_rfl

/-- (*tenet/split.growth).grow$2 -/
def F165 : AFunc := ⟨6, [.tmp 2],
 .seq (.ops [] [⟨some 1, none, .box true 3 (.t 0)⟩,
 ⟨some 2, none, .mv (.k (.d (.bool false)))⟩])
 (.seq (.ops [] [⟨some 3, none, .fa 0 1 false (.t 1)⟩,
 ⟨some 4, none, .ld false 1 (.t 3)⟩,
 ⟨some 5, none, .bin .eql (.t 4) (.k (.d (.int .i64 2)))⟩,
 ⟨some 2, none, .tk 5⟩])
 (.ret))⟩
theorem c165 : sp 165 = some (.code F165) := by kernel_rfl

/-- (*tenet/split.growth).leaf -/
def F161 : AFunc := ⟨28, [.tmp 4],
 .seq (.ops [] [⟨some 4, none, .mv (.k (.d (.int .i64 0)))⟩])
 (.seq (.seq (.ops [] [⟨some 5, none, .mv (.t 0)⟩,
 ⟨some 6, none, .nilck (.t 5)⟩,
 ⟨some 7, none, .fa 2 1 false (.t 6)⟩,
 ⟨some 8, none, .ld false 1 (.t 7)⟩,
 ⟨some 9, none, .len 1 (.t 8)⟩,
 ⟨some 10, none, .bin .eql (.t 9) (.k (.d (.int .i64 400)))⟩])
 (.cond (.t 10) (.seq (.ops [] [⟨some 4, none, .mv (.k (.d (.int .i64 (-1))))⟩])
 (.ret))
 (.skip)))
 (.seq (.ops [] [⟨some 11, none, .mv (.t 0)⟩,
 ⟨some 12, none, .mv (.t 0)⟩,
 ⟨some 13, none, .nilck (.t 12)⟩,
 ⟨some 14, none, .fa 2 1 false (.t 13)⟩,
 ⟨some 15, none, .ld false 1 (.t 14)⟩,
 ⟨some 16, none, .mv (.t 1)⟩,
 ⟨some 17, none, .build [.d (.int .i64 0), .nil 1, .nil 1, .nil 1] [(0, 1, (.t 16))]⟩,
 ⟨some 18, none, .lit 4 [.t 17]⟩,
 ⟨some 19, none, .appM 4 (.t 15) (.t 18)⟩,
 ⟨some 20, none, .nilck (.t 11)⟩,
 ⟨some 21, none, .fa 2 1 false (.t 20)⟩,
 ⟨none, none, .st false 1 (.t 21) (.t 19)⟩])
 (.seq (.ops [] [⟨some 22, none, .mv (.t 0)⟩,
 ⟨some 23, none, .nilck (.t 22)⟩,
 ⟨some 24, none, .fa 2 1 false (.t 23)⟩,
 ⟨some 25, none, .ld false 1 (.t 24)⟩,
 ⟨some 26, none, .len 1 (.t 25)⟩,
 ⟨some 27, none, .bin .sub (.t 26) (.k (.d (.int .i64 1)))⟩,
 ⟨some 4, none, .tk 27⟩])
 (.ret))))⟩
theorem c161 : sp 161 = some (.code F161) := by kernel_rfl

/-- (*tenet/split.growth).fields -/
def F169 : AFunc := ⟨30, [.tmp 6],
 .seq (.ops [] [⟨some 5, none, .box true 2 (.t 2)⟩,
 ⟨some 6, none, .mv (.k (.nil 2))⟩])
 (.seq (.ops [] [⟨some 7, none, .mv (.k (.nil 2))⟩])
 (.seq (.seq (.ops [] [⟨some 10, none, .fa 1 1 false (.t 5)⟩,
 ⟨some 11, none, .ld false 1 (.t 10)⟩,
 ⟨some 12, none, .len 1 (.t 11)⟩,
 ⟨some 13, none, .mv (.k (.d (.int .i64 0)))⟩])
 (.block 0 (.loop 30 [1, 7, 11, 12, 13] (.seq (.ops [] [⟨some 14, none, .bin .lss (.t 13) (.t 12)⟩])
 (.seq (.cond (.t 14) (.skip)
 (.exit 0))
 (.seq (.block 1 (.seq (.ops [] [⟨some 15, none, .tk 13⟩,
 ⟨some 16, none, .ia 1 false (.t 11) (.t 13)⟩,
 ⟨some 17, none, .ld false 1 (.t 16)⟩,
 ⟨some 8, none, .tk 15⟩,
 ⟨some 9, none, .tk 17⟩])
 (.ops [] [⟨some 18, none, .tk 7⟩,
 ⟨some 19, none, .mv (.t 1)⟩,
 ⟨some 20, none, .callO 153 [.t 19]⟩,
 ⟨some 21, none, .mv (.t 8)⟩,
 ⟨some 22, none, .lit 1 [.t 21]⟩,
 ⟨some 23, none, .app 1 (.t 20) (.t 22)⟩,
 ⟨some 24, none, .mv (.t 9)⟩,
 ⟨some 25, none, .build [.nil 1, .d (.str [])] [(0, 1, (.t 23)), (1, 1, (.t 24))]⟩,
 ⟨some 26, none, .lit 2 [.t 25]⟩,
 ⟨some 27, none, .app 2 (.t 18) (.t 26)⟩,
 ⟨some 7, none, .tk 27⟩])))
 (.ops [] [⟨some 28, none, .bin .add (.t 13) (.k (.d (.int .i64 1)))⟩,
 ⟨some 13, none, .mv (.t 28)⟩])))))))
 (.seq (.ops [] [⟨some 29, none, .tk 7⟩,
 ⟨some 6, none, .tk 29⟩])
 (.ret))))⟩
theorem c169 : sp 169 = some (.code F169) := by kernel_rfl

/-- tenet/split.Follow -/
def F41 : AFunc := ⟨71, [.tmp 6],
 .seq (.ops [] [⟨some 3, none, .box true 2 (.t 0)⟩,
 ⟨some 6, none, .mv (.k (.d (.int .i64 0)))⟩])
 (.seq (.ops [] [⟨some 7, none, .mv (.k (.d (.int .i64 0)))⟩])
 (.seq (.seq (.ops [] [⟨some 12, none, .mv (.t 1)⟩,
 ⟨some 13, none, .len 1 (.t 12)⟩,
 ⟨some 14, none, .bin .add (.t 13) (.k (.d (.int .i64 1)))⟩,
 ⟨some 15, none, .mv (.k (.d (.int .i64 0)))⟩])
 (.block 0 (.loop 71 [1, 2, 7, 14, 15] (.seq (.ops [] [⟨some 16, none, .bin .lss (.t 15) (.t 14)⟩])
 (.seq (.cond (.t 16) (.skip)
 (.exit 0))
 (.seq (.block 1 (.seq (.seq (.ops [] [⟨some 17, none, .mv (.t 7)⟩,
 ⟨some 18, none, .bin .lss (.t 17) (.k (.d (.int .i64 0)))⟩,
 ⟨some 19, none, .mv (.t 18)⟩,
 ⟨some 20, some (19, false), .mv (.t 7)⟩,
 ⟨some 21, some (19, false), .mv (.t 1)⟩,
 ⟨some 22, some (19, false), .len 1 (.t 21)⟩,
 ⟨some 23, some (19, false), .bin .geq (.t 20) (.t 22)⟩,
 ⟨some 24, none, .pick (.t 19) (.k (.d (.bool true))) (.t 23)⟩])
 (.cond (.t 24) (.seq (.ops [] [⟨some 6, none, .mv (.k (.d (.int .i64 (-1))))⟩])
 (.ret))
 (.skip)))
 (.seq (.ops [] [⟨some 25, none, .mv (.t 1)⟩,
 ⟨some 26, none, .mv (.t 7)⟩,
 ⟨some 27, none, .ia 4 true (.t 25) (.t 26)⟩,
 ⟨some 28, none, .ld true 4 (.t 27)⟩,
 ⟨some 8, none, .alloc true [.d (.int .i64 0), .nil 1, .nil 1, .nil 1]⟩,
 ⟨none, none, .st true 4 (.t 8) (.t 28)⟩])
 (.seq (.seq (.ops [] [⟨some 29, none, .fa 2 1 false (.t 8)⟩,
 ⟨some 30, none, .ld false 1 (.t 29)⟩,
 ⟨some 31, none, .len 1 (.t 30)⟩,
 ⟨some 32, none, .bin .eql (.t 31) (.k (.d (.int .i64 0)))⟩])
 (.cond (.t 32) (.seq (.ops [] [⟨some 33, none, .fa 0 1 false (.t 8)⟩,
 ⟨some 34, none, .ld false 1 (.t 33)⟩,
 ⟨some 6, none, .tk 34⟩])
 (.ret))
 (.skip)))
 (.seq (.ops [] [⟨some 36, none, .mv (.t 2)⟩,
 ⟨some 37, none, .fa 1 1 false (.t 8)⟩,
 ⟨some 38, none, .ld false 1 (.t 37)⟩,
 ⟨some 39, none, .call 82 [.t 36, .t 38]⟩,
 ⟨some 35, none, .mv (.t 39)⟩,
 ⟨some 40, none, .ext (.t 35) 0⟩,
 ⟨some 41, none, .ext (.t 35) 1⟩,
 ⟨some 9, none, .alloc true [.d (.int .i64 0), .d (.str []), .nil 3]⟩,
 ⟨none, none, .st true 3 (.t 9) (.t 40)⟩,
 ⟨some 10, none, .tk 41⟩])
 (.seq (.ops [] [⟨some 42, none, .fa 2 1 false (.t 8)⟩,
 ⟨some 43, none, .ld false 1 (.t 42)⟩,
 ⟨some 44, none, .fa 1 1 false (.t 9)⟩,
 ⟨some 45, none, .ld false 1 (.t 44)⟩,
 ⟨some 46, none, .call 83 [.t 43, .t 45]⟩,
 ⟨some 11, none, .tk 46⟩])
 (.seq (.seq (.ops [] [⟨some 47, none, .mv (.t 10)⟩,
 ⟨some 48, none, .not (.t 47)⟩,
 ⟨some 49, none, .mv (.t 48)⟩,
 ⟨some 50, some (49, false), .fa 0 1 false (.t 9)⟩,
 ⟨some 51, some (49, false), .ld false 1 (.t 50)⟩,
 ⟨some 52, some (49, false), .bin .neq (.t 51) (.k (.d (.int .i64 2)))⟩,
 ⟨some 53, none, .pick (.t 49) (.k (.d (.bool true))) (.t 52)⟩,
 ⟨some 54, none, .mv (.t 53)⟩,
 ⟨some 55, some (54, false), .mv (.t 11)⟩,
 ⟨some 56, some (54, false), .bin .lss (.t 55) (.k (.d (.int .i64 0)))⟩,
 ⟨some 57, none, .pick (.t 54) (.k (.d (.bool true))) (.t 56)⟩,
 ⟨some 58, none, .mv (.t 57)⟩,
 ⟨some 59, some (58, false), .mv (.t 11)⟩,
 ⟨some 60, some (58, false), .fa 3 1 false (.t 8)⟩,
 ⟨some 61, some (58, false), .ld false 1 (.t 60)⟩,
 ⟨some 62, some (58, false), .len 1 (.t 61)⟩,
 ⟨some 63, some (58, false), .bin .geq (.t 59) (.t 62)⟩,
 ⟨some 64, none, .pick (.t 58) (.k (.d (.bool true))) (.t 63)⟩])
 (.cond (.t 64) (.seq (.ops [] [⟨some 6, none, .mv (.k (.d (.int .i64 (-1))))⟩])
 (.ret))
 (.skip)))
 (.ops [] [⟨some 65, none, .fa 3 1 false (.t 8)⟩,
 ⟨some 66, none, .ld false 1 (.t 65)⟩,
 ⟨some 67, none, .mv (.t 11)⟩,
 ⟨some 68, none, .ia 1 false (.t 66) (.t 67)⟩,
 ⟨some 69, none, .ld false 1 (.t 68)⟩,
 ⟨some 7, none, .tk 69⟩]))))))))
 (.ops [] [⟨some 70, none, .bin .add (.t 15) (.k (.d (.int .i64 1)))⟩,
 ⟨some 15, none, .mv (.t 70)⟩])))))))
 (.seq (.ops [] [⟨some 6, none, .mv (.k (.d (.int .i64 (-1))))⟩])
 (.ret))))⟩
theorem c41 : sp 41 = some (.code F41) := by kernel_rfl

/-- slices.Index[[]string,string] -/
def F83 : AFunc := ⟨19, [.tmp 4],
 .seq (.ops [] [⟨some 4, none, .mv (.k (.d (.int .i64 0)))⟩])
 (.seq (.seq (.ops [] [⟨some 6, none, .mv (.t 0)⟩,
 ⟨some 7, none, .len 1 (.t 6)⟩,
 ⟨some 8, none, .mv (.k (.d (.int .i64 0)))⟩])
 (.block 0 (.loop 19 [0, 1, 7, 8] (.seq (.ops [] [⟨some 9, none, .bin .lss (.t 8) (.t 7)⟩])
 (.seq (.cond (.t 9) (.skip)
 (.exit 0))
 (.seq (.block 1 (.seq (.ops [] [⟨some 10, none, .tk 8⟩,
 ⟨some 5, none, .tk 10⟩])
 (.seq (.ops [] [⟨some 11, none, .mv (.t 1)⟩,
 ⟨some 12, none, .mv (.t 0)⟩,
 ⟨some 13, none, .mv (.t 5)⟩,
 ⟨some 14, none, .ia 1 false (.t 12) (.t 13)⟩,
 ⟨some 15, none, .ld false 1 (.t 14)⟩,
 ⟨some 16, none, .bin .eql (.t 11) (.t 15)⟩])
 (.cond (.t 16) (.seq (.ops [] [⟨some 17, none, .tk 5⟩,
 ⟨some 4, none, .tk 17⟩])
 (.ret))
 (.skip)))))
 (.ops [] [⟨some 18, none, .bin .add (.t 8) (.k (.d (.int .i64 1)))⟩,
 ⟨some 8, none, .mv (.t 18)⟩])))))))
 (.seq (.ops [] [⟨some 4, none, .mv (.k (.d (.int .i64 (-1))))⟩])
 (.ret)))⟩
theorem c83 : sp 83 = some (.code F83) := by kernel_rfl

/-- slices.Concat[[]tenet/split.column,tenet/split.column] -/
def F168 : AFunc := ⟨36, [.tmp 2],
 .seq (.ops [] [⟨some 2, none, .mv (.k (.nil 2))⟩])
 (.seq (.ops [] [⟨some 3, none, .mv (.k (.d (.int .i64 0)))⟩])
 (.seq (.seq (.ops [] [⟨some 9, none, .mv (.t 0)⟩,
 ⟨some 10, none, .len 1 (.t 9)⟩,
 ⟨some 11, none, .mv (.k (.d (.int .i64 0)))⟩])
 (.block 0 (.loop 0 [0, 3, 9, 10, 11] (.seq (.ops [] [⟨some 12, none, .bin .lss (.t 11) (.t 10)⟩])
 (.seq (.cond (.t 12) (.skip)
 (.exit 0))
 (.seq (.block 1 (.seq (.ops [] [⟨some 13, none, .ia 1 false (.t 9) (.t 11)⟩,
 ⟨some 14, none, .ld false 1 (.t 13)⟩,
 ⟨some 5, none, .tk 14⟩])
 (.seq (.ops [] [⟨some 15, none, .mv (.t 3)⟩,
 ⟨some 16, none, .mv (.t 5)⟩,
 ⟨some 17, none, .len 1 (.t 16)⟩,
 ⟨some 18, none, .bin .add (.t 15) (.t 17)⟩,
 ⟨some 3, none, .tk 18⟩])
 (.seq (.ops [] [⟨some 19, none, .mv (.t 3)⟩,
 ⟨some 20, none, .bin .lss (.t 19) (.k (.d (.int .i64 0)))⟩])
 (.cond (.t 20) (.ops [] [⟨none, none, .bad⟩,
 ⟨none, none, .bad⟩])
 (.skip))))))
 (.ops [] [⟨some 22, none, .bin .add (.t 11) (.k (.d (.int .i64 1)))⟩,
 ⟨some 11, none, .mv (.t 22)⟩])))))))
 (.seq (.ops [] [⟨some 23, none, .tk 3⟩,
 ⟨some 24, none, .callS 177 [.k (.nil 2), .t 23]⟩,
 ⟨some 6, none, .tk 24⟩])
 (.seq (.seq (.ops [] [⟨some 25, none, .mv (.t 0)⟩,
 ⟨some 26, none, .len 1 (.t 25)⟩,
 ⟨some 27, none, .mv (.k (.d (.int .i64 0)))⟩])
 (.block 2 (.loop 0 [6, 25, 26, 27] (.seq (.ops [] [⟨some 28, none, .bin .lss (.t 27) (.t 26)⟩])
 (.seq (.cond (.t 28) (.skip)
 (.exit 2))
 (.seq (.block 3 (.seq (.ops [] [⟨some 29, none, .ia 1 false (.t 25) (.t 27)⟩,
 ⟨some 30, none, .ld false 1 (.t 29)⟩,
 ⟨some 8, none, .tk 30⟩])
 (.ops [] [⟨some 31, none, .mv (.t 6)⟩,
 ⟨some 32, none, .mv (.t 8)⟩,
 ⟨some 33, none, .appM 2 (.t 31) (.t 32)⟩,
 ⟨some 6, none, .tk 33⟩])))
 (.ops [] [⟨some 34, none, .bin .add (.t 27) (.k (.d (.int .i64 1)))⟩,
 ⟨some 27, none, .mv (.t 34)⟩])))))))
 (.seq (.ops [] [⟨some 35, none, .tk 6⟩,
 ⟨some 2, none, .tk 35⟩])
 (.ret))))))⟩
theorem c168 : sp 168 = some (.code F168) := by kernel_rfl

/-- slices.Grow[[]tenet/split.column,tenet/split.column] -/
def F177 : AFunc := ⟨27, [.tmp 4],
 .seq (.ops [] [⟨some 4, none, .mv (.k (.nil 2))⟩])
 (.seq (.seq (.ops [] [⟨some 5, none, .mv (.t 1)⟩,
 ⟨some 6, none, .bin .lss (.t 5) (.k (.d (.int .i64 0)))⟩])
 (.cond (.t 6) (.ops [] [⟨none, none, .bad⟩,
 ⟨none, none, .bad⟩])
 (.skip)))
 (.seq (.seq (.ops [] [⟨some 8, none, .mv (.t 1)⟩,
 ⟨some 9, none, .mv (.t 0)⟩,
 ⟨some 10, none, .cap (.t 9)⟩,
 ⟨some 11, none, .mv (.t 0)⟩,
 ⟨some 12, none, .len 1 (.t 11)⟩,
 ⟨some 13, none, .bin .sub (.t 10) (.t 12)⟩,
 ⟨some 14, none, .bin .sub (.t 8) (.t 13)⟩,
 ⟨some 1, none, .tk 14⟩])
 (.seq (.ops [] [⟨some 15, none, .mv (.t 1)⟩,
 ⟨some 16, none, .bin .gtr (.t 15) (.k (.d (.int .i64 0)))⟩])
 (.cond (.t 16) (.ops [] [⟨some 17, none, .mv (.t 0)⟩,
 ⟨some 18, none, .mv (.t 0)⟩,
 ⟨some 19, none, .cap (.t 18)⟩,
 ⟨some 20, none, .slice 2 (.t 17) none (some (.t 19)) none⟩,
 ⟨some 21, none, .mv (.t 1)⟩,
 ⟨some 22, none, .appZ 2 [.nil 1, .d (.str [])] (.t 20) (.t 21)⟩,
 ⟨some 23, none, .mv (.t 0)⟩,
 ⟨some 24, none, .len 1 (.t 23)⟩,
 ⟨some 25, none, .slice 2 (.t 22) none (some (.t 24)) none⟩,
 ⟨some 0, none, .tk 25⟩])
 (.skip))))
 (.seq (.ops [] [⟨some 26, none, .tk 0⟩,
 ⟨some 4, none, .tk 26⟩])
 (.ret))))⟩
theorem c177 : sp 177 = some (.code F177) := by kernel_rfl

/-- slices.ContainsFunc[tenet/split.vector,tenet/api.Pat] -/
def F162 : AFunc := ⟨9, [.tmp 4],
 .seq (.ops [] [⟨some 4, none, .mv (.k (.d (.bool false)))⟩])
 (.seq (.ops [] [⟨some 5, none, .mv (.t 0)⟩,
 ⟨some 6, none, .mv (.t 1)⟩,
 ⟨some 7, none, .call 164 [.t 5, .t 6]⟩,
 ⟨some 8, none, .bin .geq (.t 7) (.k (.d (.int .i64 0)))⟩,
 ⟨some 4, none, .tk 8⟩])
 (.ret))⟩
theorem c162 : sp 162 = some (.code F162) := by kernel_rfl

/-- slices.IndexFunc[tenet/split.vector,tenet/api.Pat] -/
def F164 : AFunc := ⟨19, [.tmp 4],
 .seq (.ops [] [⟨some 4, none, .mv (.k (.d (.int .i64 0)))⟩])
 (.seq (.seq (.ops [] [⟨some 6, none, .mv (.t 0)⟩,
 ⟨some 7, none, .len 1 (.t 6)⟩,
 ⟨some 8, none, .mv (.k (.d (.int .i64 0)))⟩])
 (.block 0 (.loop 19 [0, 1, 7, 8] (.seq (.ops [] [⟨some 9, none, .bin .lss (.t 8) (.t 7)⟩])
 (.seq (.cond (.t 9) (.skip)
 (.exit 0))
 (.seq (.block 1 (.seq (.ops [] [⟨some 10, none, .tk 8⟩,
 ⟨some 5, none, .tk 10⟩])
 (.seq (.ops [] [⟨some 11, none, .mv (.t 1)⟩,
 ⟨some 12, none, .mv (.t 0)⟩,
 ⟨some 13, none, .mv (.t 5)⟩,
 ⟨some 14, none, .ia 3 true (.t 12) (.t 13)⟩,
 ⟨some 15, none, .ld true 3 (.t 14)⟩,
 ⟨some 16, none, .callV (.t 11) [.t 15]⟩])
 (.cond (.t 16) (.seq (.ops [] [⟨some 17, none, .tk 5⟩,
 ⟨some 4, none, .tk 17⟩])
 (.ret))
 (.skip)))))
 (.ops [] [⟨some 18, none, .bin .add (.t 8) (.k (.d (.int .i64 1)))⟩,
 ⟨some 8, none, .mv (.t 18)⟩])))))))
 (.seq (.ops [] [⟨some 4, none, .mv (.k (.d (.int .i64 (-1))))⟩])
 (.ret)))⟩
theorem c164 : sp 164 = some (.code F164) := by kernel_rfl

end Go.Sp
