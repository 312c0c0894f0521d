/- SplitMore holds of every input whose data are of bulk at most 1048576 (the row's second form). Here: The program's functions as abstract code. SmCodeG. -/
import Derived.Test.YtnhbhonbihccpaaB2
import Derived.KernelRfl

set_option linter.unusedVariables false
set_option linter.unusedSimpArgs false
set_option linter.unnecessarySimpa false

/-! The program's functions as abstract code. -/
namespace Go.Sp
open Go.Abs Go.Proofs
set_option maxRecDepth 20000

/-- tenet/split.Check -/
def F17 : AFunc := ⟨62, [.tmp 2, .tmp 3, .tmp 4],
 .seq (.ops [] [⟨some 1, none, .box true 2 (.t 0)⟩,
 ⟨some 2, none, .mv (.k (.d (.int .i64 0)))⟩,
 ⟨some 3, none, .mv (.k (.d (.int .i64 0)))⟩,
 ⟨some 4, none, .mv (.k (.d (.int .i64 0)))⟩])
 (.seq (.seq (.ops [] [⟨some 16, none, .ld true 2 (.t 1)⟩,
 ⟨some 17, none, .call 19 [.t 16]⟩,
 ⟨some 15, none, .mv (.t 17)⟩,
 ⟨some 18, none, .ext (.t 15) 0⟩,
 ⟨some 19, none, .ext (.t 15) 1⟩,
 ⟨some 20, none, .ext (.t 15) 2⟩,
 ⟨some 5, none, .tk 18⟩,
 ⟨some 6, none, .tk 19⟩,
 ⟨some 7, none, .tk 20⟩])
 (.seq (.ops [] [⟨some 21, none, .mv (.t 5)⟩,
 ⟨some 22, none, .bin .neq (.t 21) (.k (.d (.int .i64 0)))⟩])
 (.cond (.t 22) (.seq (.ops [] [⟨some 23, none, .tk 5⟩,
 ⟨some 24, none, .tk 6⟩,
 ⟨some 25, none, .tk 7⟩,
 ⟨some 2, none, .tk 23⟩,
 ⟨some 3, none, .tk 24⟩,
 ⟨some 4, none, .tk 25⟩])
 (.ret))
 (.skip))))
 (.seq (.seq (.ops [] [⟨some 26, none, .fa 1 1 false (.t 1)⟩,
 ⟨some 27, none, .ld false 1 (.t 26)⟩,
 ⟨some 28, none, .len 1 (.t 27)⟩,
 ⟨some 29, none, .mv (.k (.d (.int .i64 0)))⟩])
 (.block 0 (.loop 62 [1, 27, 28, 29] (.seq (.ops [] [⟨some 30, none, .bin .lss (.t 29) (.t 28)⟩])
 (.seq (.cond (.t 30) (.skip)
 (.exit 0))
 (.seq (.block 1 (.seq (.ops [] [⟨some 31, none, .tk 29⟩,
 ⟨some 32, none, .ia 4 true (.t 27) (.t 29)⟩,
 ⟨some 33, none, .ld true 4 (.t 32)⟩,
 ⟨some 9, none, .alloc true [.d (.str []), .nil 1, .d (.str []), .nil 5]⟩,
 ⟨some 8, none, .tk 31⟩,
 ⟨none, none, .st true 4 (.t 9) (.t 33)⟩])
 (.seq (.ops [] [⟨some 35, none, .ld true 2 (.t 1)⟩,
 ⟨some 36, none, .ld true 4 (.t 9)⟩,
 ⟨some 37, none, .call 31 [.t 35, .t 36]⟩,
 ⟨some 34, none, .mv (.t 37)⟩,
 ⟨some 38, none, .ext (.t 34) 0⟩,
 ⟨some 39, none, .ext (.t 34) 1⟩,
 ⟨some 10, none, .tk 38⟩,
 ⟨some 11, none, .tk 39⟩])
 (.seq (.ops [] [⟨some 40, none, .mv (.t 11)⟩])
 (.cond (.t 40) (.seq (.ops [] [⟨some 41, none, .tk 8⟩,
 ⟨some 2, none, .mv (.k (.d (.int .i64 150)))⟩,
 ⟨some 3, none, .tk 41⟩,
 ⟨some 4, none, .mv (.k (.d (.int .i64 (-1))))⟩])
 (.ret))
 (.skip))))))
 (.ops [] [⟨some 42, none, .bin .add (.t 29) (.k (.d (.int .i64 1)))⟩,
 ⟨some 29, none, .mv (.t 42)⟩])))))))
 (.seq (.seq (.ops [] [⟨some 43, none, .fa 1 1 false (.t 1)⟩,
 ⟨some 44, none, .ld false 1 (.t 43)⟩,
 ⟨some 45, none, .len 1 (.t 44)⟩,
 ⟨some 46, none, .mv (.k (.d (.int .i64 0)))⟩])
 (.block 2 (.loop 62 [1, 44, 45, 46] (.seq (.ops [] [⟨some 47, none, .bin .lss (.t 46) (.t 45)⟩])
 (.seq (.cond (.t 47) (.skip)
 (.exit 2))
 (.seq (.block 3 (.seq (.ops [] [⟨some 48, none, .tk 46⟩,
 ⟨some 49, none, .ia 4 true (.t 44) (.t 46)⟩,
 ⟨some 50, none, .ld true 4 (.t 49)⟩,
 ⟨some 13, none, .alloc true [.d (.str []), .nil 1, .d (.str []), .nil 5]⟩,
 ⟨some 12, none, .tk 48⟩,
 ⟨none, none, .st true 4 (.t 13) (.t 50)⟩])
 (.seq (.ops [] [⟨some 51, none, .ld true 2 (.t 1)⟩,
 ⟨some 52, none, .ld true 4 (.t 13)⟩,
 ⟨some 53, none, .call 16 [.t 51, .t 52]⟩,
 ⟨some 14, none, .tk 53⟩])
 (.seq (.ops [] [⟨some 54, none, .mv (.t 14)⟩,
 ⟨some 55, none, .len 1 (.t 54)⟩,
 ⟨some 56, none, .bin .gtr (.t 55) (.k (.d (.int .i64 0)))⟩])
 (.cond (.t 56) (.seq (.ops [] [⟨some 57, none, .tk 12⟩,
 ⟨some 58, none, .mv (.t 14)⟩,
 ⟨some 59, none, .ia 1 false (.t 58) (.k (.d (.int .i64 0)))⟩,
 ⟨some 60, none, .ld false 1 (.t 59)⟩,
 ⟨some 2, none, .mv (.k (.d (.int .i64 151)))⟩,
 ⟨some 3, none, .tk 57⟩,
 ⟨some 4, none, .tk 60⟩])
 (.ret))
 (.skip))))))
 (.ops [] [⟨some 61, none, .bin .add (.t 46) (.k (.d (.int .i64 1)))⟩,
 ⟨some 46, none, .mv (.t 61)⟩])))))))
 (.seq (.ops [] [⟨some 2, none, .mv (.k (.d (.int .i64 0)))⟩,
 ⟨some 3, none, .mv (.k (.d (.int .i64 (-1))))⟩,
 ⟨some 4, none, .mv (.k (.d (.int .i64 (-1))))⟩])
 (.ret)))))⟩
/-- tenet/split.Useless -/
def F7 : AFunc := ⟨20, [.tmp 4, .tmp 5],
 .seq (.ops [] [⟨some 2, none, .box true 2 (.t 0)⟩,
 ⟨some 4, none, .mv (.k (.nil 1))⟩,
 ⟨some 5, none, .mv (.k (.d (.int .i64 0)))⟩])
 (.seq (.ops [] [⟨some 9, none, .ld true 2 (.t 2)⟩,
 ⟨some 10, none, .mv (.t 1)⟩,
 ⟨some 11, none, .call 11 [.t 9, .t 10]⟩,
 ⟨some 8, none, .mv (.t 11)⟩,
 ⟨some 12, none, .ext (.t 8) 0⟩,
 ⟨some 13, none, .ext (.t 8) 1⟩,
 ⟨some 6, none, .alloc true [.d (.str []), .nil 1, .d (.str []), .nil 5]⟩,
 ⟨none, none, .st true 4 (.t 6) (.t 12)⟩,
 ⟨some 7, none, .tk 13⟩])
 (.seq (.seq (.ops [] [⟨some 14, none, .mv (.t 7)⟩,
 ⟨some 15, none, .bin .neq (.t 14) (.k (.d (.int .i64 0)))⟩])
 (.cond (.t 15) (.seq (.ops [] [⟨some 16, none, .tk 7⟩,
 ⟨some 4, none, .mv (.k (.nil 1))⟩,
 ⟨some 5, none, .tk 16⟩])
 (.ret))
 (.skip)))
 (.seq (.ops [] [⟨some 17, none, .ld true 2 (.t 2)⟩,
 ⟨some 18, none, .ld true 4 (.t 6)⟩,
 ⟨some 19, none, .call 16 [.t 17, .t 18]⟩,
 ⟨some 4, none, .tk 19⟩,
 ⟨some 5, none, .mv (.k (.d (.int .i64 0)))⟩])
 (.ret))))⟩
theorem c7 : sp 7 = some (.code F7) := by kernel_rfl

/-- tenet/split.uncovered -/
def F31 : AFunc := ⟨19, [.tmp 4, .tmp 5],
 .seq (.ops [] [⟨some 2, none, .box true 2 (.t 0)⟩,
 ⟨some 3, none, .box true 4 (.t 1)⟩,
 ⟨some 4, none, .mv (.k (.nil 3))⟩,
 ⟨some 5, none, .mv (.k (.d (.bool false)))⟩])
 (.seq (.ops [] [⟨some 6, none, .ld true 2 (.t 2)⟩,
 ⟨some 7, none, .ld true 2 (.t 2)⟩,
 ⟨some 8, none, .call 28 [.t 7]⟩,
 ⟨some 9, none, .ld true 4 (.t 3)⟩,
 ⟨some 10, none, .fa 3 1 false (.t 3)⟩,
 ⟨some 11, none, .ld false 1 (.t 10)⟩,
 ⟨some 12, none, .len 1 (.t 11)⟩,
 ⟨some 13, none, .call 30 [.t 9, .t 12]⟩,
 ⟨some 14, none, .fa 1 1 false (.t 3)⟩,
 ⟨some 15, none, .ld false 1 (.t 14)⟩,
 ⟨some 16, none, .call 55 [.t 6, .t 8, .t 13, .t 15]⟩,
 ⟨some 17, none, .ext (.t 16) 0⟩,
 ⟨some 18, none, .ext (.t 16) 1⟩,
 ⟨some 4, none, .tk 17⟩,
 ⟨some 5, none, .tk 18⟩])
 (.ret))⟩
/-- tenet/split.useless -/
def F16 : AFunc := ⟨41, [.tmp 4],
 .seq (.ops [] [⟨some 2, none, .box true 2 (.t 0)⟩,
 ⟨some 3, none, .box true 4 (.t 1)⟩,
 ⟨some 4, none, .mv (.k (.nil 1))⟩])
 (.seq (.ops [] [⟨some 9, none, .ld true 2 (.t 2)⟩,
 ⟨some 10, none, .call 28 [.t 9]⟩,
 ⟨some 5, none, .tk 10⟩])
 (.seq (.ops [] [⟨some 6, none, .mv (.k (.nil 1))⟩])
 (.seq (.seq (.ops [] [⟨some 11, none, .fa 3 1 false (.t 3)⟩,
 ⟨some 12, none, .ld false 1 (.t 11)⟩,
 ⟨some 13, none, .len 1 (.t 12)⟩,
 ⟨some 14, none, .mv (.k (.d (.int .i64 0)))⟩])
 (.block 0 (.loop 41 [2, 3, 5, 6, 12, 13, 14] (.seq (.ops [] [⟨some 15, none, .bin .lss (.t 14) (.t 13)⟩])
 (.seq (.cond (.t 15) (.skip)
 (.exit 0))
 (.seq (.block 1 (.seq (.ops [] [⟨some 16, none, .tk 14⟩,
 ⟨some 17, none, .ia 5 true (.t 12) (.t 14)⟩,
 ⟨some 18, none, .ld true 5 (.t 17)⟩,
 ⟨some 8, none, .alloc true [.nil 3, .d (.bool false), .d (.int .i64 0), .d (.str []), .nil 3]⟩,
 ⟨some 7, none, .tk 16⟩,
 ⟨none, none, .st true 5 (.t 8) (.t 18)⟩])
 (.seq (.ops [] [⟨some 19, none, .fa 1 1 false (.t 8)⟩,
 ⟨some 20, none, .ld false 1 (.t 19)⟩,
 ⟨some 21, none, .not (.t 20)⟩,
 ⟨some 22, none, .mv (.t 21)⟩,
 ⟨some 23, some (22, true), .ld true 2 (.t 2)⟩,
 ⟨some 24, some (22, true), .mv (.t 5)⟩,
 ⟨some 25, some (22, true), .ld true 4 (.t 3)⟩,
 ⟨some 26, some (22, true), .mv (.t 7)⟩,
 ⟨some 27, some (22, true), .call 30 [.t 25, .t 26]⟩,
 ⟨some 28, some (22, true), .fa 0 1 false (.t 8)⟩,
 ⟨some 29, some (22, true), .ld false 1 (.t 28)⟩,
 ⟨some 30, some (22, true), .fa 1 1 false (.t 3)⟩,
 ⟨some 31, some (22, true), .ld false 1 (.t 30)⟩,
 ⟨some 32, some (22, true), .call 29 [.t 23, .t 24, .t 27, .t 29, .t 31]⟩,
 ⟨some 33, some (22, true), .not (.t 32)⟩,
 ⟨some 34, none, .pick (.t 22) (.t 33) (.k (.d (.bool false)))⟩])
 (.cond (.t 34) (.ops [] [⟨some 35, none, .tk 6⟩,
 ⟨some 36, none, .mv (.t 7)⟩,
 ⟨some 37, none, .lit 1 [.t 36]⟩,
 ⟨some 38, none, .app 1 (.t 35) (.t 37)⟩,
 ⟨some 6, none, .tk 38⟩])
 (.skip)))))
 (.ops [] [⟨some 39, none, .bin .add (.t 14) (.k (.d (.int .i64 1)))⟩,
 ⟨some 14, none, .mv (.t 39)⟩])))))))
 (.seq (.ops [] [⟨some 40, none, .tk 6⟩,
 ⟨some 4, none, .tk 40⟩])
 (.ret)))))⟩
theorem c16 : sp 16 = some (.code F16) := by kernel_rfl

/-- tenet/split.missing -/
def F55 : AFunc := ⟨124, [.tmp 8, .tmp 9],
 .seq (.ops [] [⟨some 4, none, .box true 2 (.t 0)⟩,
 ⟨some 5, none, .box false 1 (.t 1)⟩,
 ⟨some 8, none, .mv (.k (.nil 3))⟩,
 ⟨some 9, none, .mv (.k (.d (.bool false)))⟩])
 (.seq (.seq (.ops [] [⟨some 23, none, .mv (.t 3)⟩,
 ⟨some 24, none, .fn 71 [.t 5]⟩,
 ⟨some 25, none, .call 34 [.t 23, .t 24]⟩])
 (.cond (.t 25) (.seq (.ops [] [⟨some 8, none, .mv (.k (.nil 3))⟩,
 ⟨some 9, none, .mv (.k (.d (.bool false)))⟩])
 (.ret))
 (.skip)))
 (.seq (.seq (.ops [] [⟨some 26, none, .mv (.t 2)⟩,
 ⟨some 27, none, .len 1 (.t 26)⟩,
 ⟨some 28, none, .bin .eql (.t 27) (.k (.d (.int .i64 0)))⟩])
 (.cond (.t 28) (.seq (.ops [] [⟨some 29, none, .build [.d (.int .i64 0), .d (.str []), .nil 3] [(0, 1, (.k (.d (.int .i64 1)))), (1, 1, (.k (.d (.str [95]))))]⟩,
 ⟨some 30, none, .lit 3 [.t 29]⟩,
 ⟨some 31, none, .mv (.t 3)⟩,
 ⟨some 32, none, .len 1 (.t 31)⟩,
 ⟨some 33, none, .call 72 [.t 30, .t 32]⟩,
 ⟨some 8, none, .tk 33⟩,
 ⟨some 9, none, .mv (.k (.d (.bool true)))⟩])
 (.ret))
 (.skip)))
 (.seq (.seq (.ops [] [⟨some 34, none, .mv (.t 3)⟩,
 ⟨some 35, none, .len 1 (.t 34)⟩,
 ⟨some 36, none, .bin .eql (.t 35) (.k (.d (.int .i64 0)))⟩])
 (.cond (.t 36) (.seq (.ops [] [⟨some 8, none, .mv (.k (.nil 3))⟩,
 ⟨some 9, none, .mv (.k (.d (.bool false)))⟩])
 (.ret))
 (.skip)))
 (.seq (.seq (.ops [] [⟨some 37, none, .mv (.t 2)⟩,
 ⟨some 38, none, .call 49 [.t 37, .k (.d (.func 73 []))]⟩,
 ⟨some 39, none, .not (.t 38)⟩])
 (.cond (.t 39) (.seq (.ops [] [⟨some 10, none, .mv (.k (.nil 1))⟩])
 (.seq (.seq (.ops [] [⟨some 40, none, .mv (.t 2)⟩,
 ⟨some 41, none, .len 1 (.t 40)⟩,
 ⟨some 42, none, .mv (.k (.d (.int .i64 0)))⟩])
 (.block 0 (.loop 124 [3, 4, 5, 10, 40, 41, 42] (.seq (.ops [] [⟨some 43, none, .bin .lss (.t 42) (.t 41)⟩])
 (.seq (.cond (.t 43) (.skip)
 (.exit 0))
 (.seq (.block 1 (.seq (.ops [] [⟨some 44, none, .ia 1 false (.t 40) (.t 42)⟩,
 ⟨some 45, none, .ld false 1 (.t 44)⟩,
 ⟨some 12, none, .tk 45⟩])
 (.seq (.ops [] [⟨some 46, none, .mv (.t 12)⟩,
 ⟨some 47, none, .ia 3 true (.t 46) (.k (.d (.int .i64 0)))⟩,
 ⟨some 48, none, .fa 0 1 false (.t 47)⟩,
 ⟨some 49, none, .ld false 1 (.t 48)⟩,
 ⟨some 50, none, .bin .neq (.t 49) (.k (.d (.int .i64 3)))⟩])
 (.cond (.t 50) (.ops [] [⟨some 51, none, .tk 10⟩,
 ⟨some 52, none, .mv (.t 12)⟩,
 ⟨some 53, none, .slice 3 (.t 52) (some (.k (.d (.int .i64 1)))) none none⟩,
 ⟨some 54, none, .lit 1 [.t 53]⟩,
 ⟨some 55, none, .app 1 (.t 51) (.t 54)⟩,
 ⟨some 10, none, .tk 55⟩])
 (.skip)))))
 (.ops [] [⟨some 56, none, .bin .add (.t 42) (.k (.d (.int .i64 1)))⟩,
 ⟨some 42, none, .mv (.t 56)⟩])))))))
 (.seq (.ops [] [⟨some 58, none, .ld true 2 (.t 4)⟩,
 ⟨some 59, none, .ld false 1 (.t 5)⟩,
 ⟨some 60, none, .mv (.t 10)⟩,
 ⟨some 61, none, .mv (.t 3)⟩,
 ⟨some 62, none, .slice 1 (.t 61) (some (.k (.d (.int .i64 1)))) none none⟩,
 ⟨some 63, none, .call 55 [.t 58, .t 59, .t 60, .t 62]⟩,
 ⟨some 57, none, .mv (.t 63)⟩,
 ⟨some 64, none, .ext (.t 57) 0⟩,
 ⟨some 65, none, .ext (.t 57) 1⟩,
 ⟨some 13, none, .tk 64⟩,
 ⟨some 14, none, .tk 65⟩])
 (.seq (.seq (.ops [] [⟨some 66, none, .mv (.t 14)⟩,
 ⟨some 67, none, .not (.t 66)⟩])
 (.cond (.t 67) (.seq (.ops [] [⟨some 8, none, .mv (.k (.nil 3))⟩,
 ⟨some 9, none, .mv (.k (.d (.bool false)))⟩])
 (.ret))
 (.skip)))
 (.seq (.ops [] [⟨some 68, none, .build [.d (.int .i64 0), .d (.str []), .nil 3] [(0, 1, (.k (.d (.int .i64 1)))), (1, 1, (.k (.d (.str [95]))))]⟩,
 ⟨some 69, none, .lit 3 [.t 68]⟩,
 ⟨some 70, none, .mv (.t 13)⟩,
 ⟨some 71, none, .app 3 (.t 69) (.t 70)⟩,
 ⟨some 8, none, .tk 71⟩,
 ⟨some 9, none, .mv (.k (.d (.bool true)))⟩])
 (.ret))))))
 (.skip)))
 (.seq (.ops [.cells true [.d (.str []), .nil 2]] [⟨some 73, none, .ld true 2 (.t 4)⟩,
 ⟨some 74, none, .mv (.t 3)⟩,
 ⟨some 75, none, .ia 1 false (.t 74) (.k (.d (.int .i64 0)))⟩,
 ⟨some 76, none, .ld false 1 (.t 75)⟩,
 ⟨some 77, none, .call 38 [.t 73, .t 76]⟩,
 ⟨some 72, none, .mv (.t 77)⟩,
 ⟨some 78, none, .ext (.t 72) 0⟩,
 ⟨some 79, none, .ext (.t 72) 1⟩,
 ⟨some 15, none, .allocR 0⟩,
 ⟨none, none, .st true 2 (.t 15) (.t 78)⟩,
 ⟨some 16, none, .tk 79⟩])
 (.seq (.seq (.ops [] [⟨some 80, none, .fa 1 1 false (.t 15)⟩,
 ⟨some 81, none, .ld false 1 (.t 80)⟩,
 ⟨some 82, none, .len 1 (.t 81)⟩,
 ⟨some 83, none, .mv (.k (.d (.int .i64 0)))⟩])
 (.block 2 (.loop 124 [2, 3, 4, 5, 81, 82, 83] (.seq (.ops [] [⟨some 84, none, .bin .lss (.t 83) (.t 82)⟩])
 (.seq (.cond (.t 84) (.skip)
 (.exit 2))
 (.seq (.block 3 (.seq (.ops [] [⟨some 85, none, .ia 2 true (.t 81) (.t 83)⟩,
 ⟨some 86, none, .ld true 2 (.t 85)⟩,
 ⟨some 18, none, .alloc true [.d (.str []), .nil 1]⟩,
 ⟨none, none, .st true 2 (.t 18) (.t 86)⟩])
 (.seq (.ops [] [⟨some 88, none, .ld true 2 (.t 4)⟩,
 ⟨some 89, none, .ld false 1 (.t 5)⟩,
 ⟨some 90, none, .mv (.t 2)⟩,
 ⟨some 91, none, .fa 0 1 false (.t 18)⟩,
 ⟨some 92, none, .ld false 1 (.t 91)⟩,
 ⟨some 93, none, .fa 1 1 false (.t 18)⟩,
 ⟨some 94, none, .ld false 1 (.t 93)⟩,
 ⟨some 95, none, .len 1 (.t 94)⟩,
 ⟨some 96, none, .call 53 [.t 90, .t 92, .t 95]⟩,
 ⟨some 97, none, .fa 1 1 false (.t 18)⟩,
 ⟨some 98, none, .ld false 1 (.t 97)⟩,
 ⟨some 99, none, .mv (.t 3)⟩,
 ⟨some 100, none, .slice 1 (.t 99) (some (.k (.d (.int .i64 1)))) none none⟩,
 ⟨some 101, none, .lit 1 [.t 98, .t 100]⟩,
 ⟨some 102, none, .call 54 [.t 101]⟩,
 ⟨some 103, none, .call 55 [.t 88, .t 89, .t 96, .t 102]⟩,
 ⟨some 87, none, .mv (.t 103)⟩,
 ⟨some 104, none, .ext (.t 87) 0⟩,
 ⟨some 105, none, .ext (.t 87) 1⟩,
 ⟨some 19, none, .tk 104⟩,
 ⟨some 20, none, .tk 105⟩])
 (.seq (.ops [] [⟨some 106, none, .mv (.t 20)⟩])
 (.cond (.t 106) (.seq (.ops [] [⟨some 107, none, .fa 1 1 false (.t 18)⟩,
 ⟨some 108, none, .ld false 1 (.t 107)⟩,
 ⟨some 109, none, .len 1 (.t 108)⟩,
 ⟨some 21, none, .tk 109⟩])
 (.seq (.ops [.cells true [.d (.int .i64 0), .d (.str []), .nil 3]] [⟨some 110, none, .fa 0 1 false (.t 18)⟩,
 ⟨some 111, none, .ld false 1 (.t 110)⟩,
 ⟨some 112, none, .mv (.t 19)⟩,
 ⟨some 113, none, .mv (.t 21)⟩,
 ⟨some 114, none, .slice 3 (.t 112) none (some (.t 113)) none⟩,
 ⟨some 115, none, .call 27 [.t 114]⟩,
 ⟨some 116, none, .build [.d (.int .i64 0), .d (.str []), .nil 3] [(0, 1, (.k (.d (.int .i64 2)))), (1, 1, (.t 111)), (2, 1, (.t 115))]⟩,
 ⟨some 22, none, .allocR 0⟩,
 ⟨none, none, .st true 3 (.t 22) (.t 116)⟩])
 (.seq (.ops [] [⟨some 117, none, .ld true 3 (.t 22)⟩,
 ⟨some 118, none, .lit 3 [.t 117]⟩,
 ⟨some 119, none, .mv (.t 19)⟩,
 ⟨some 120, none, .mv (.t 21)⟩,
 ⟨some 121, none, .slice 3 (.t 119) (some (.t 120)) none none⟩,
 ⟨some 122, none, .app 3 (.t 118) (.t 121)⟩,
 ⟨some 8, none, .tk 122⟩,
 ⟨some 9, none, .mv (.k (.d (.bool true)))⟩])
 (.ret))))
 (.skip))))))
 (.ops [] [⟨some 123, none, .bin .add (.t 83) (.k (.d (.int .i64 1)))⟩,
 ⟨some 83, none, .mv (.t 123)⟩])))))))
 (.seq (.ops [] [⟨some 8, none, .mv (.k (.nil 3))⟩,
 ⟨some 9, none, .mv (.k (.d (.bool false)))⟩])
 (.ret))))))))⟩
/-- tenet/split.missing$1 -/
def F71 : AFunc := ⟨8, [.tmp 3],
 .seq (.ops [] [⟨some 3, none, .mv (.k (.d (.bool false)))⟩])
 (.seq (.ops [] [⟨some 4, none, .ld false 1 (.t 1)⟩,
 ⟨some 5, none, .mv (.t 0)⟩,
 ⟨some 6, none, .look 1 false (.bool false) (.t 4) (.t 5)⟩,
 ⟨some 7, none, .not (.t 6)⟩,
 ⟨some 3, none, .tk 7⟩])
 (.ret))⟩
/-- tenet/split.missing$2 -/
def F73 : AFunc := ⟨8, [.tmp 2],
 .seq (.ops [] [⟨some 2, none, .mv (.k (.d (.bool false)))⟩])
 (.seq (.ops [] [⟨some 3, none, .mv (.t 0)⟩,
 ⟨some 4, none, .ia 3 true (.t 3) (.k (.d (.int .i64 0)))⟩,
 ⟨some 5, none, .fa 0 1 false (.t 4)⟩,
 ⟨some 6, none, .ld false 1 (.t 5)⟩,
 ⟨some 7, none, .bin .eql (.t 6) (.k (.d (.int .i64 2)))⟩,
 ⟨some 2, none, .tk 7⟩])
 (.ret))⟩
/-- tenet/split.rows -/
def F30 : AFunc := ⟨24, [.tmp 4],
 .seq (.ops [] [⟨some 2, none, .box true 4 (.t 0)⟩,
 ⟨some 4, none, .mv (.k (.nil 1))⟩])
 (.seq (.ops [] [⟨some 5, none, .mv (.k (.nil 1))⟩])
 (.seq (.seq (.ops [] [⟨some 8, none, .fa 3 1 false (.t 2)⟩,
 ⟨some 9, none, .ld false 1 (.t 8)⟩,
 ⟨some 10, none, .mv (.t 1)⟩,
 ⟨some 11, none, .slice 5 (.t 9) none (some (.t 10)) none⟩,
 ⟨some 12, none, .len 1 (.t 11)⟩,
 ⟨some 13, none, .mv (.k (.d (.int .i64 0)))⟩])
 (.block 0 (.loop 24 [5, 11, 12, 13] (.seq (.ops [] [⟨some 14, none, .bin .lss (.t 13) (.t 12)⟩])
 (.seq (.cond (.t 14) (.skip)
 (.exit 0))
 (.seq (.block 1 (.seq (.ops [] [⟨some 15, none, .ia 5 true (.t 11) (.t 13)⟩,
 ⟨some 16, none, .ld true 5 (.t 15)⟩,
 ⟨some 7, none, .alloc true [.nil 3, .d (.bool false), .d (.int .i64 0), .d (.str []), .nil 3]⟩,
 ⟨none, none, .st true 5 (.t 7) (.t 16)⟩])
 (.ops [] [⟨some 17, none, .tk 5⟩,
 ⟨some 18, none, .fa 0 1 false (.t 7)⟩,
 ⟨some 19, none, .ld false 1 (.t 18)⟩,
 ⟨some 20, none, .lit 1 [.t 19]⟩,
 ⟨some 21, none, .app 1 (.t 17) (.t 20)⟩,
 ⟨some 5, none, .tk 21⟩])))
 (.ops [] [⟨some 22, none, .bin .add (.t 13) (.k (.d (.int .i64 1)))⟩,
 ⟨some 13, none, .mv (.t 22)⟩])))))))
 (.seq (.ops [] [⟨some 23, none, .tk 5⟩,
 ⟨some 4, none, .tk 23⟩])
 (.ret))))⟩
theorem c30 : sp 30 = some (.code F30) := by kernel_rfl

/-- tenet/split.useful -/
def F29 : AFunc := ⟨87, [.tmp 10],
 .seq (.ops [] [⟨some 5, none, .box true 2 (.t 0)⟩,
 ⟨some 6, none, .box false 1 (.t 1)⟩,
 ⟨some 7, none, .box false 1 (.t 2)⟩,
 ⟨some 8, none, .box false 1 (.t 3)⟩,
 ⟨some 9, none, .box false 1 (.t 4)⟩,
 ⟨some 10, none, .mv (.k (.d (.bool false)))⟩])
 (.seq (.seq (.ops [] [⟨some 17, none, .ld false 1 (.t 9)⟩,
 ⟨some 18, none, .len 1 (.t 17)⟩,
 ⟨some 19, none, .bin .eql (.t 18) (.k (.d (.int .i64 0)))⟩])
 (.cond (.t 19) (.seq (.ops [] [⟨some 20, none, .ld false 1 (.t 7)⟩,
 ⟨some 21, none, .len 1 (.t 20)⟩,
 ⟨some 22, none, .bin .eql (.t 21) (.k (.d (.int .i64 0)))⟩,
 ⟨some 10, none, .tk 22⟩])
 (.ret))
 (.skip)))
 (.seq (.ops [.cells true [.d (.str []), .nil 2]] [⟨some 24, none, .ld true 2 (.t 5)⟩,
 ⟨some 25, none, .ld false 1 (.t 9)⟩,
 ⟨some 26, none, .ia 1 false (.t 25) (.k (.d (.int .i64 0)))⟩,
 ⟨some 27, none, .ld false 1 (.t 26)⟩,
 ⟨some 28, none, .call 38 [.t 24, .t 27]⟩,
 ⟨some 23, none, .mv (.t 28)⟩,
 ⟨some 29, none, .ext (.t 23) 0⟩,
 ⟨some 30, none, .ext (.t 23) 1⟩,
 ⟨some 11, none, .allocR 0⟩,
 ⟨none, none, .st true 2 (.t 11) (.t 29)⟩,
 ⟨some 12, none, .tk 30⟩])
 (.seq (.seq (.ops [] [⟨some 31, none, .ld false 1 (.t 8)⟩,
 ⟨some 32, none, .ia 3 true (.t 31) (.k (.d (.int .i64 0)))⟩,
 ⟨some 33, none, .ld true 3 (.t 32)⟩,
 ⟨some 13, none, .alloc true [.d (.int .i64 0), .d (.str []), .nil 3]⟩,
 ⟨none, none, .st true 3 (.t 13) (.t 33)⟩])
 (.block 0 (.seq (.ops [] [⟨some 35, none, .fa 0 1 false (.t 13)⟩,
 ⟨some 36, none, .ld false 1 (.t 35)⟩,
 ⟨some 37, none, .bin .eql (.t 36) (.k (.d (.int .i64 3)))⟩,
 ⟨some 38, none, .mv (.t 37)⟩,
 ⟨some 39, some (38, false), .ld false 1 (.t 6)⟩,
 ⟨some 40, some (38, false), .ld false 1 (.t 9)⟩,
 ⟨some 41, some (38, false), .ia 1 false (.t 40) (.k (.d (.int .i64 0)))⟩,
 ⟨some 42, some (38, false), .ld false 1 (.t 41)⟩,
 ⟨some 43, some (38, false), .look 1 false (.bool false) (.t 39) (.t 42)⟩,
 ⟨some 44, some (38, false), .not (.t 43)⟩,
 ⟨some 45, none, .pick (.t 38) (.k (.d (.bool true))) (.t 44)⟩,
 ⟨some 34, none, .tk 45⟩])
 (.cond (.t 34) (.seq (.ops [] [⟨some 10, none, .mv (.k (.d (.bool false)))⟩])
 (.ret))
 (.seq (.ops [] [⟨some 47, none, .fa 0 1 false (.t 13)⟩,
 ⟨some 48, none, .ld false 1 (.t 47)⟩,
 ⟨some 49, none, .bin .eql (.t 48) (.k (.d (.int .i64 1)))⟩,
 ⟨some 50, none, .mv (.t 49)⟩,
 ⟨some 51, some (50, false), .fa 0 1 false (.t 13)⟩,
 ⟨some 52, some (50, false), .ld false 1 (.t 51)⟩,
 ⟨some 53, some (50, false), .bin .eql (.t 52) (.k (.d (.int .i64 4)))⟩,
 ⟨some 54, none, .pick (.t 50) (.k (.d (.bool true))) (.t 53)⟩,
 ⟨some 46, none, .tk 54⟩])
 (.cond (.t 46) (.seq (.ops [] [⟨some 55, none, .ld false 1 (.t 7)⟩,
 ⟨some 56, none, .call 49 [.t 55, .k (.d (.func 50 []))]⟩,
 ⟨some 57, none, .not (.t 56)⟩])
 (.cond (.t 57) (.seq (.ops [] [⟨some 14, none, .mv (.k (.nil 1))⟩])
 (.seq (.seq (.ops [] [⟨some 58, none, .ld false 1 (.t 7)⟩,
 ⟨some 59, none, .len 1 (.t 58)⟩,
 ⟨some 60, none, .mv (.k (.d (.int .i64 0)))⟩])
 (.block 1 (.loop 87 [5, 6, 8, 9, 14, 58, 59, 60] (.seq (.ops [] [⟨some 61, none, .bin .lss (.t 60) (.t 59)⟩])
 (.seq (.cond (.t 61) (.skip)
 (.exit 1))
 (.seq (.block 2 (.seq (.ops [] [⟨some 62, none, .ia 1 false (.t 58) (.t 60)⟩,
 ⟨some 63, none, .ld false 1 (.t 62)⟩,
 ⟨some 16, none, .tk 63⟩])
 (.seq (.ops [] [⟨some 64, none, .mv (.t 16)⟩,
 ⟨some 65, none, .ia 3 true (.t 64) (.k (.d (.int .i64 0)))⟩,
 ⟨some 66, none, .fa 0 1 false (.t 65)⟩,
 ⟨some 67, none, .ld false 1 (.t 66)⟩,
 ⟨some 68, none, .bin .neq (.t 67) (.k (.d (.int .i64 3)))⟩])
 (.cond (.t 68) (.ops [] [⟨some 69, none, .tk 14⟩,
 ⟨some 70, none, .mv (.t 16)⟩,
 ⟨some 71, none, .slice 3 (.t 70) (some (.k (.d (.int .i64 1)))) none none⟩,
 ⟨some 72, none, .lit 1 [.t 71]⟩,
 ⟨some 73, none, .app 1 (.t 69) (.t 72)⟩,
 ⟨some 14, none, .tk 73⟩])
 (.skip)))))
 (.ops [] [⟨some 74, none, .bin .add (.t 60) (.k (.d (.int .i64 1)))⟩,
 ⟨some 60, none, .mv (.t 74)⟩])))))))
 (.seq (.ops [] [⟨some 75, none, .ld true 2 (.t 5)⟩,
 ⟨some 76, none, .ld false 1 (.t 6)⟩,
 ⟨some 77, none, .mv (.t 14)⟩,
 ⟨some 78, none, .ld false 1 (.t 8)⟩,
 ⟨some 79, none, .slice 3 (.t 78) (some (.k (.d (.int .i64 1)))) none none⟩,
 ⟨some 80, none, .ld false 1 (.t 9)⟩,
 ⟨some 81, none, .slice 1 (.t 80) (some (.k (.d (.int .i64 1)))) none none⟩,
 ⟨some 82, none, .call 29 [.t 75, .t 76, .t 77, .t 79, .t 81]⟩,
 ⟨some 10, none, .tk 82⟩])
 (.ret))))
 (.skip)))
 (.skip)))))))
 (.seq (.ops [] [⟨some 83, none, .fa 1 1 false (.t 11)⟩,
 ⟨some 84, none, .ld false 1 (.t 83)⟩,
 ⟨some 85, none, .fn 52 [.t 8, .t 5, .t 6, .t 7, .t 9]⟩,
 ⟨some 86, none, .call 51 [.t 84, .t 85]⟩,
 ⟨some 10, none, .tk 86⟩])
 (.ret)))))⟩
theorem c29 : sp 29 = some (.code F29) := by kernel_rfl

/-- tenet/split.useful$1 -/
def F50 : AFunc := ⟨8, [.tmp 2],
 .seq (.ops [] [⟨some 2, none, .mv (.k (.d (.bool false)))⟩])
 (.seq (.ops [] [⟨some 3, none, .mv (.t 0)⟩,
 ⟨some 4, none, .ia 3 true (.t 3) (.k (.d (.int .i64 0)))⟩,
 ⟨some 5, none, .fa 0 1 false (.t 4)⟩,
 ⟨some 6, none, .ld false 1 (.t 5)⟩,
 ⟨some 7, none, .bin .eql (.t 6) (.k (.d (.int .i64 2)))⟩,
 ⟨some 2, none, .tk 7⟩])
 (.ret))⟩
theorem c50 : sp 50 = some (.code F50) := by kernel_rfl

/-- tenet/split.useful$2 -/
def F52 : AFunc := ⟨41, [.tmp 7],
 .seq (.ops [] [⟨some 6, none, .box true 2 (.t 0)⟩,
 ⟨some 7, none, .mv (.k (.d (.bool false)))⟩])
 (.seq (.ops [] [⟨some 9, none, .ld false 1 (.t 1)⟩,
 ⟨some 10, none, .lit 1 [.t 9]⟩,
 ⟨some 11, none, .fa 0 1 false (.t 6)⟩,
 ⟨some 12, none, .ld false 1 (.t 11)⟩,
 ⟨some 13, none, .fa 1 1 false (.t 6)⟩,
 ⟨some 14, none, .ld false 1 (.t 13)⟩,
 ⟨some 15, none, .len 1 (.t 14)⟩,
 ⟨some 16, none, .call 53 [.t 10, .t 12, .t 15]⟩,
 ⟨some 8, none, .tk 16⟩])
 (.seq (.ops [] [⟨some 17, none, .mv (.t 8)⟩,
 ⟨some 18, none, .len 1 (.t 17)⟩,
 ⟨some 19, none, .bin .eql (.t 18) (.k (.d (.int .i64 1)))⟩,
 ⟨some 20, none, .mv (.t 19)⟩,
 ⟨some 21, some (20, true), .ld true 2 (.t 2)⟩,
 ⟨some 22, some (20, true), .ld false 1 (.t 3)⟩,
 ⟨some 23, some (20, true), .ld false 1 (.t 4)⟩,
 ⟨some 24, some (20, true), .fa 0 1 false (.t 6)⟩,
 ⟨some 25, some (20, true), .ld false 1 (.t 24)⟩,
 ⟨some 26, some (20, true), .fa 1 1 false (.t 6)⟩,
 ⟨some 27, some (20, true), .ld false 1 (.t 26)⟩,
 ⟨some 28, some (20, true), .len 1 (.t 27)⟩,
 ⟨some 29, some (20, true), .call 53 [.t 23, .t 25, .t 28]⟩,
 ⟨some 30, some (20, true), .mv (.t 8)⟩,
 ⟨some 31, some (20, true), .ia 1 false (.t 30) (.k (.d (.int .i64 0)))⟩,
 ⟨some 32, some (20, true), .ld false 1 (.t 31)⟩,
 ⟨some 33, some (20, true), .fa 1 1 false (.t 6)⟩,
 ⟨some 34, some (20, true), .ld false 1 (.t 33)⟩,
 ⟨some 35, some (20, true), .ld false 1 (.t 5)⟩,
 ⟨some 36, some (20, true), .slice 1 (.t 35) (some (.k (.d (.int .i64 1)))) none none⟩,
 ⟨some 37, some (20, true), .lit 1 [.t 34, .t 36]⟩,
 ⟨some 38, some (20, true), .call 54 [.t 37]⟩,
 ⟨some 39, some (20, true), .call 29 [.t 21, .t 22, .t 29, .t 32, .t 38]⟩,
 ⟨some 40, none, .pick (.t 20) (.t 39) (.k (.d (.bool false)))⟩,
 ⟨some 7, none, .tk 40⟩])
 (.ret)))⟩
theorem c52 : sp 52 = some (.code F52) := by kernel_rfl

/-- tenet/split.special -/
def F53 : AFunc := ⟨59, [.tmp 6],
 .seq (.ops [] [⟨some 6, none, .mv (.k (.nil 1))⟩])
 (.seq (.ops [] [⟨some 7, none, .mv (.k (.nil 1))⟩])
 (.seq (.seq (.ops [] [⟨some 11, none, .mv (.t 0)⟩,
 ⟨some 12, none, .len 1 (.t 11)⟩,
 ⟨some 13, none, .mv (.k (.d (.int .i64 0)))⟩])
 (.block 0 (.loop 59 [1, 2, 7, 11, 12, 13] (.seq (.ops [] [⟨some 14, none, .bin .lss (.t 13) (.t 12)⟩])
 (.seq (.cond (.t 14) (.skip)
 (.exit 0))
 (.seq (.block 1 (.seq (.ops [] [⟨some 15, none, .ia 1 false (.t 11) (.t 13)⟩,
 ⟨some 16, none, .ld false 1 (.t 15)⟩,
 ⟨some 9, none, .tk 16⟩])
 (.seq (.ops [] [⟨some 17, none, .mv (.t 9)⟩,
 ⟨some 18, none, .ia 3 true (.t 17) (.k (.d (.int .i64 0)))⟩,
 ⟨some 19, none, .ld true 3 (.t 18)⟩,
 ⟨some 10, none, .alloc true [.d (.int .i64 0), .d (.str []), .nil 3]⟩,
 ⟨none, none, .st true 3 (.t 10) (.t 19)⟩])
 (.block 2 (.seq (.ops [] [⟨some 21, none, .fa 0 1 false (.t 10)⟩,
 ⟨some 22, none, .ld false 1 (.t 21)⟩,
 ⟨some 23, none, .bin .eql (.t 22) (.k (.d (.int .i64 2)))⟩,
 ⟨some 24, none, .mv (.t 23)⟩,
 ⟨some 25, some (24, true), .fa 1 1 false (.t 10)⟩,
 ⟨some 26, some (24, true), .ld false 1 (.t 25)⟩,
 ⟨some 27, some (24, true), .mv (.t 1)⟩,
 ⟨some 28, some (24, true), .bin .eql (.t 26) (.t 27)⟩,
 ⟨some 29, none, .pick (.t 24) (.t 28) (.k (.d (.bool false)))⟩,
 ⟨some 20, none, .tk 29⟩])
 (.cond (.t 20) (.ops [] [⟨some 30, none, .tk 7⟩,
 ⟨some 31, none, .fa 2 1 false (.t 10)⟩,
 ⟨some 32, none, .ld false 1 (.t 31)⟩,
 ⟨some 33, none, .mv (.t 9)⟩,
 ⟨some 34, none, .slice 3 (.t 33) (some (.k (.d (.int .i64 1)))) none none⟩,
 ⟨some 35, none, .lit 1 [.t 32, .t 34]⟩,
 ⟨some 36, none, .call 68 [.t 35]⟩,
 ⟨some 37, none, .lit 1 [.t 36]⟩,
 ⟨some 38, none, .app 1 (.t 30) (.t 37)⟩,
 ⟨some 7, none, .tk 38⟩])
 (.seq (.ops [] [⟨some 40, none, .fa 0 1 false (.t 10)⟩,
 ⟨some 41, none, .ld false 1 (.t 40)⟩,
 ⟨some 42, none, .bin .eql (.t 41) (.k (.d (.int .i64 1)))⟩,
 ⟨some 43, none, .mv (.t 42)⟩,
 ⟨some 44, some (43, false), .fa 0 1 false (.t 10)⟩,
 ⟨some 45, some (43, false), .ld false 1 (.t 44)⟩,
 ⟨some 46, some (43, false), .bin .eql (.t 45) (.k (.d (.int .i64 4)))⟩,
 ⟨some 47, none, .pick (.t 43) (.k (.d (.bool true))) (.t 46)⟩,
 ⟨some 39, none, .tk 47⟩])
 (.cond (.t 39) (.ops [] [⟨some 48, none, .tk 7⟩,
 ⟨some 49, none, .mv (.t 2)⟩,
 ⟨some 50, none, .call 69 [.t 49]⟩,
 ⟨some 51, none, .mv (.t 9)⟩,
 ⟨some 52, none, .slice 3 (.t 51) (some (.k (.d (.int .i64 1)))) none none⟩,
 ⟨some 53, none, .lit 1 [.t 50, .t 52]⟩,
 ⟨some 54, none, .call 68 [.t 53]⟩,
 ⟨some 55, none, .lit 1 [.t 54]⟩,
 ⟨some 56, none, .app 1 (.t 48) (.t 55)⟩,
 ⟨some 7, none, .tk 56⟩])
 (.skip)))))))))
 (.ops [] [⟨some 57, none, .bin .add (.t 13) (.k (.d (.int .i64 1)))⟩,
 ⟨some 13, none, .mv (.t 57)⟩])))))))
 (.seq (.ops [] [⟨some 58, none, .tk 7⟩,
 ⟨some 6, none, .tk 58⟩])
 (.ret))))⟩
theorem c53 : sp 53 = some (.code F53) := by kernel_rfl

/-- tenet/split.wide -/
def F69 : AFunc := ⟨18, [.tmp 2],
 .seq (.ops [] [⟨some 2, none, .mv (.k (.nil 3))⟩])
 (.seq (.ops [] [⟨some 5, none, .mv (.t 0)⟩,
 ⟨some 6, none, .mkslice 3 [.d (.int .i64 0), .d (.str []), .nil 3] (.t 5) (.t 5)⟩,
 ⟨some 3, none, .tk 6⟩])
 (.seq (.seq (.ops [] [⟨some 7, none, .mv (.t 3)⟩,
 ⟨some 8, none, .len 1 (.t 7)⟩,
 ⟨some 9, none, .mv (.k (.d (.int .i64 0)))⟩])
 (.block 0 (.loop 18 [3, 8, 9] (.seq (.ops [] [⟨some 10, none, .bin .lss (.t 9) (.t 8)⟩])
 (.seq (.cond (.t 10) (.skip)
 (.exit 0))
 (.seq (.block 1 (.seq (.ops [] [⟨some 11, none, .tk 9⟩,
 ⟨some 4, none, .tk 11⟩])
 (.ops [] [⟨some 12, none, .mv (.t 3)⟩,
 ⟨some 13, none, .mv (.t 4)⟩,
 ⟨some 14, none, .build [.d (.int .i64 0), .d (.str []), .nil 3] [(0, 1, (.k (.d (.int .i64 1)))), (1, 1, (.k (.d (.str [95]))))]⟩,
 ⟨some 15, none, .ia 3 true (.t 12) (.t 13)⟩,
 ⟨none, none, .st true 3 (.t 15) (.t 14)⟩])))
 (.ops [] [⟨some 16, none, .bin .add (.t 9) (.k (.d (.int .i64 1)))⟩,
 ⟨some 9, none, .mv (.t 16)⟩])))))))
 (.seq (.ops [] [⟨some 17, none, .tk 3⟩,
 ⟨some 2, none, .tk 17⟩])
 (.ret))))⟩
theorem c69 : sp 69 = some (.code F69) := by kernel_rfl

/-- slices.Repeat[[]tenet/api.Expr,tenet/api.Expr] -/
def F72 : AFunc := ⟨48, [.tmp 4],
 .seq (.ops [] [⟨some 4, none, .mv (.k (.nil 3))⟩])
 (.seq (.seq (.ops [] [⟨some 9, none, .mv (.t 1)⟩,
 ⟨some 10, none, .bin .lss (.t 9) (.k (.d (.int .i64 0)))⟩])
 (.cond (.t 10) (.ops [] [⟨none, none, .bad⟩,
 ⟨none, none, .bad⟩])
 (.skip)))
 (.seq (.ops [] [⟨some 13, none, .mv (.t 0)⟩,
 ⟨some 14, none, .len 1 (.t 13)⟩,
 ⟨some 15, none, .conv .u64 (.t 14)⟩,
 ⟨some 16, none, .mv (.t 1)⟩,
 ⟨some 17, none, .conv .u64 (.t 16)⟩,
 ⟨some 18, none, .call 77 [.t 15, .t 17]⟩,
 ⟨some 12, none, .mv (.t 18)⟩,
 ⟨some 19, none, .ext (.t 12) 0⟩,
 ⟨some 20, none, .ext (.t 12) 1⟩,
 ⟨some 5, none, .tk 19⟩,
 ⟨some 6, none, .tk 20⟩])
 (.seq (.seq (.ops [] [⟨some 21, none, .mv (.t 5)⟩,
 ⟨some 22, none, .bin .gtr (.t 21) (.k (.d (.int .u64 0)))⟩,
 ⟨some 23, none, .mv (.t 22)⟩,
 ⟨some 24, some (23, false), .mv (.t 6)⟩,
 ⟨some 25, some (23, false), .bin .gtr (.t 24) (.k (.d (.int .u64 9223372036854775807)))⟩,
 ⟨some 26, none, .pick (.t 23) (.k (.d (.bool true))) (.t 25)⟩])
 (.cond (.t 26) (.ops [] [⟨none, none, .bad⟩,
 ⟨none, none, .bad⟩])
 (.skip)))
 (.seq (.ops [] [⟨some 28, none, .mv (.t 6)⟩,
 ⟨some 29, none, .conv .i64 (.t 28)⟩,
 ⟨some 30, none, .mkslice 3 [.d (.int .i64 0), .d (.str []), .nil 3] (.t 29) (.t 29)⟩,
 ⟨some 7, none, .tk 30⟩])
 (.seq (.ops [] [⟨some 31, none, .mv (.t 7)⟩,
 ⟨some 32, none, .mv (.t 0)⟩,
 ⟨some 33, none, .copy 3 (.t 31) (.t 32)⟩,
 ⟨some 8, none, .tk 33⟩])
 (.seq (.block 0 (.loop 48 [7, 8] (.seq (.seq (.ops [] [⟨some 34, none, .mv (.t 8)⟩,
 ⟨some 35, none, .mv (.t 7)⟩,
 ⟨some 36, none, .len 1 (.t 35)⟩,
 ⟨some 37, none, .bin .lss (.t 34) (.t 36)⟩])
 (.cond (.t 37) (.skip)
 (.exit 0)))
 (.block 1 (.ops [] [⟨some 38, none, .mv (.t 8)⟩,
 ⟨some 39, none, .mv (.t 7)⟩,
 ⟨some 40, none, .mv (.t 8)⟩,
 ⟨some 41, none, .slice 3 (.t 39) (some (.t 40)) none none⟩,
 ⟨some 42, none, .mv (.t 7)⟩,
 ⟨some 43, none, .mv (.t 8)⟩,
 ⟨some 44, none, .slice 3 (.t 42) none (some (.t 43)) none⟩,
 ⟨some 45, none, .copy 3 (.t 41) (.t 44)⟩,
 ⟨some 46, none, .bin .add (.t 38) (.t 45)⟩,
 ⟨some 8, none, .tk 46⟩])))))
 (.seq (.ops [] [⟨some 47, none, .tk 7⟩,
 ⟨some 4, none, .tk 47⟩])
 (.ret))))))))⟩
/-- slices.ContainsFunc[[]tenet/split.vector,tenet/split.vector] -/
def F49 : AFunc := ⟨9, [.tmp 4],
 .seq (.ops [] [⟨some 4, none, .mv (.k (.d (.bool false)))⟩])
 (.seq (.ops [] [⟨some 5, none, .mv (.t 0)⟩,
 ⟨some 6, none, .mv (.t 1)⟩,
 ⟨some 7, none, .call 67 [.t 5, .t 6]⟩,
 ⟨some 8, none, .bin .geq (.t 7) (.k (.d (.int .i64 0)))⟩,
 ⟨some 4, none, .tk 8⟩])
 (.ret))⟩
theorem c49 : sp 49 = some (.code F49) := by kernel_rfl

/-- slices.Concat[[]string,string] -/
def F54 : AFunc := ⟨36, [.tmp 2],
 .seq (.ops [] [⟨some 2, none, .mv (.k (.nil 1))⟩])
 (.seq (.ops [] [⟨some 3, none, .mv (.k (.d (.int .i64 0)))⟩])
 (.seq (.seq (.ops [] [⟨some 9, none, .mv (.t 0)⟩,
 ⟨some 10, none, .len 1 (.t 9)⟩,
 ⟨some 11, none, .mv (.k (.d (.int .i64 0)))⟩])
 (.block 0 (.loop 0 [0, 3, 9, 10, 11] (.seq (.ops [] [⟨some 12, none, .bin .lss (.t 11) (.t 10)⟩])
 (.seq (.cond (.t 12) (.skip)
 (.exit 0))
 (.seq (.block 1 (.seq (.ops [] [⟨some 13, none, .ia 1 false (.t 9) (.t 11)⟩,
 ⟨some 14, none, .ld false 1 (.t 13)⟩,
 ⟨some 5, none, .tk 14⟩])
 (.seq (.ops [] [⟨some 15, none, .mv (.t 3)⟩,
 ⟨some 16, none, .mv (.t 5)⟩,
 ⟨some 17, none, .len 1 (.t 16)⟩,
 ⟨some 18, none, .bin .add (.t 15) (.t 17)⟩,
 ⟨some 3, none, .tk 18⟩])
 (.seq (.ops [] [⟨some 19, none, .mv (.t 3)⟩,
 ⟨some 20, none, .bin .lss (.t 19) (.k (.d (.int .i64 0)))⟩])
 (.cond (.t 20) (.ops [] [⟨none, none, .bad⟩,
 ⟨none, none, .bad⟩])
 (.skip))))))
 (.ops [] [⟨some 22, none, .bin .add (.t 11) (.k (.d (.int .i64 1)))⟩,
 ⟨some 11, none, .mv (.t 22)⟩])))))))
 (.seq (.ops [] [⟨some 23, none, .tk 3⟩,
 ⟨some 24, none, .callS 70 [.k (.nil 1), .t 23]⟩,
 ⟨some 6, none, .tk 24⟩])
 (.seq (.seq (.ops [] [⟨some 25, none, .mv (.t 0)⟩,
 ⟨some 26, none, .len 1 (.t 25)⟩,
 ⟨some 27, none, .mv (.k (.d (.int .i64 0)))⟩])
 (.block 2 (.loop 0 [6, 25, 26, 27] (.seq (.ops [] [⟨some 28, none, .bin .lss (.t 27) (.t 26)⟩])
 (.seq (.cond (.t 28) (.skip)
 (.exit 2))
 (.seq (.block 3 (.seq (.ops [] [⟨some 29, none, .ia 1 false (.t 25) (.t 27)⟩,
 ⟨some 30, none, .ld false 1 (.t 29)⟩,
 ⟨some 8, none, .tk 30⟩])
 (.ops [] [⟨some 31, none, .mv (.t 6)⟩,
 ⟨some 32, none, .mv (.t 8)⟩,
 ⟨some 33, none, .appM 1 (.t 31) (.t 32)⟩,
 ⟨some 6, none, .tk 33⟩])))
 (.ops [] [⟨some 34, none, .bin .add (.t 27) (.k (.d (.int .i64 1)))⟩,
 ⟨some 27, none, .mv (.t 34)⟩])))))))
 (.seq (.ops [] [⟨some 35, none, .tk 6⟩,
 ⟨some 2, none, .tk 35⟩])
 (.ret))))))⟩
theorem c54 : sp 54 = some (.code F54) := by kernel_rfl

/-- slices.Concat[tenet/split.vector,tenet/api.Pat] -/
def F68 : AFunc := ⟨36, [.tmp 2],
 .seq (.ops [] [⟨some 2, none, .mv (.k (.nil 3))⟩])
 (.seq (.ops [] [⟨some 3, none, .mv (.k (.d (.int .i64 0)))⟩])
 (.seq (.seq (.ops [] [⟨some 9, none, .mv (.t 0)⟩,
 ⟨some 10, none, .len 1 (.t 9)⟩,
 ⟨some 11, none, .mv (.k (.d (.int .i64 0)))⟩])
 (.block 0 (.loop 0 [0, 3, 9, 10, 11] (.seq (.ops [] [⟨some 12, none, .bin .lss (.t 11) (.t 10)⟩])
 (.seq (.cond (.t 12) (.skip)
 (.exit 0))
 (.seq (.block 1 (.seq (.ops [] [⟨some 13, none, .ia 1 false (.t 9) (.t 11)⟩,
 ⟨some 14, none, .ld false 1 (.t 13)⟩,
 ⟨some 5, none, .tk 14⟩])
 (.seq (.ops [] [⟨some 15, none, .mv (.t 3)⟩,
 ⟨some 16, none, .mv (.t 5)⟩,
 ⟨some 17, none, .len 1 (.t 16)⟩,
 ⟨some 18, none, .bin .add (.t 15) (.t 17)⟩,
 ⟨some 3, none, .tk 18⟩])
 (.seq (.ops [] [⟨some 19, none, .mv (.t 3)⟩,
 ⟨some 20, none, .bin .lss (.t 19) (.k (.d (.int .i64 0)))⟩])
 (.cond (.t 20) (.ops [] [⟨none, none, .bad⟩,
 ⟨none, none, .bad⟩])
 (.skip))))))
 (.ops [] [⟨some 22, none, .bin .add (.t 11) (.k (.d (.int .i64 1)))⟩,
 ⟨some 11, none, .mv (.t 22)⟩])))))))
 (.seq (.ops [] [⟨some 23, none, .tk 3⟩,
 ⟨some 24, none, .callS 76 [.k (.nil 3), .t 23]⟩,
 ⟨some 6, none, .tk 24⟩])
 (.seq (.seq (.ops [] [⟨some 25, none, .mv (.t 0)⟩,
 ⟨some 26, none, .len 1 (.t 25)⟩,
 ⟨some 27, none, .mv (.k (.d (.int .i64 0)))⟩])
 (.block 2 (.loop 0 [6, 25, 26, 27] (.seq (.ops [] [⟨some 28, none, .bin .lss (.t 27) (.t 26)⟩])
 (.seq (.cond (.t 28) (.skip)
 (.exit 2))
 (.seq (.block 3 (.seq (.ops [] [⟨some 29, none, .ia 1 false (.t 25) (.t 27)⟩,
 ⟨some 30, none, .ld false 1 (.t 29)⟩,
 ⟨some 8, none, .tk 30⟩])
 (.ops [] [⟨some 31, none, .mv (.t 6)⟩,
 ⟨some 32, none, .mv (.t 8)⟩,
 ⟨some 33, none, .appM 3 (.t 31) (.t 32)⟩,
 ⟨some 6, none, .tk 33⟩])))
 (.ops [] [⟨some 34, none, .bin .add (.t 27) (.k (.d (.int .i64 1)))⟩,
 ⟨some 27, none, .mv (.t 34)⟩])))))))
 (.seq (.ops [] [⟨some 35, none, .tk 6⟩,
 ⟨some 2, none, .tk 35⟩])
 (.ret))))))⟩
theorem c68 : sp 68 = some (.code F68) := by kernel_rfl

/-- slices.ContainsFunc[[]tenet/api.SortCon,tenet/api.SortCon] -/
def F51 : AFunc := ⟨9, [.tmp 4],
 .seq (.ops [] [⟨some 4, none, .mv (.k (.d (.bool false)))⟩])
 (.seq (.ops [] [⟨some 5, none, .mv (.t 0)⟩,
 ⟨some 6, none, .mv (.t 1)⟩,
 ⟨some 7, none, .call 61 [.t 5, .t 6]⟩,
 ⟨some 8, none, .bin .geq (.t 7) (.k (.d (.int .i64 0)))⟩,
 ⟨some 4, none, .tk 8⟩])
 (.ret))⟩
theorem c51 : sp 51 = some (.code F51) := by kernel_rfl

/-- slices.Grow[[]string,string] -/
def F70 : AFunc := ⟨27, [.tmp 4],
 .seq (.ops [] [⟨some 4, none, .mv (.k (.nil 1))⟩])
 (.seq (.seq (.ops [] [⟨some 5, none, .mv (.t 1)⟩,
 ⟨some 6, none, .bin .lss (.t 5) (.k (.d (.int .i64 0)))⟩])
 (.cond (.t 6) (.ops [] [⟨none, none, .bad⟩,
 ⟨none, none, .bad⟩])
 (.skip)))
 (.seq (.seq (.ops [] [⟨some 8, none, .mv (.t 1)⟩,
 ⟨some 9, none, .mv (.t 0)⟩,
 ⟨some 10, none, .cap (.t 9)⟩,
 ⟨some 11, none, .mv (.t 0)⟩,
 ⟨some 12, none, .len 1 (.t 11)⟩,
 ⟨some 13, none, .bin .sub (.t 10) (.t 12)⟩,
 ⟨some 14, none, .bin .sub (.t 8) (.t 13)⟩,
 ⟨some 1, none, .tk 14⟩])
 (.seq (.ops [] [⟨some 15, none, .mv (.t 1)⟩,
 ⟨some 16, none, .bin .gtr (.t 15) (.k (.d (.int .i64 0)))⟩])
 (.cond (.t 16) (.ops [] [⟨some 17, none, .mv (.t 0)⟩,
 ⟨some 18, none, .mv (.t 0)⟩,
 ⟨some 19, none, .cap (.t 18)⟩,
 ⟨some 20, none, .slice 1 (.t 17) none (some (.t 19)) none⟩,
 ⟨some 21, none, .mv (.t 1)⟩,
 ⟨some 22, none, .appZ 1 [.d (.str [])] (.t 20) (.t 21)⟩,
 ⟨some 23, none, .mv (.t 0)⟩,
 ⟨some 24, none, .len 1 (.t 23)⟩,
 ⟨some 25, none, .slice 1 (.t 22) none (some (.t 24)) none⟩,
 ⟨some 0, none, .tk 25⟩])
 (.skip))))
 (.seq (.ops [] [⟨some 26, none, .tk 0⟩,
 ⟨some 4, none, .tk 26⟩])
 (.ret))))⟩
theorem c70 : sp 70 = some (.code F70) := by kernel_rfl

/-- slices.Grow[tenet/split.vector,tenet/api.Pat] -/
def F76 : AFunc := ⟨27, [.tmp 4],
 .seq (.ops [] [⟨some 4, none, .mv (.k (.nil 3))⟩])
 (.seq (.seq (.ops [] [⟨some 5, none, .mv (.t 1)⟩,
 ⟨some 6, none, .bin .lss (.t 5) (.k (.d (.int .i64 0)))⟩])
 (.cond (.t 6) (.ops [] [⟨none, none, .bad⟩,
 ⟨none, none, .bad⟩])
 (.skip)))
 (.seq (.seq (.ops [] [⟨some 8, none, .mv (.t 1)⟩,
 ⟨some 9, none, .mv (.t 0)⟩,
 ⟨some 10, none, .cap (.t 9)⟩,
 ⟨some 11, none, .mv (.t 0)⟩,
 ⟨some 12, none, .len 1 (.t 11)⟩,
 ⟨some 13, none, .bin .sub (.t 10) (.t 12)⟩,
 ⟨some 14, none, .bin .sub (.t 8) (.t 13)⟩,
 ⟨some 1, none, .tk 14⟩])
 (.seq (.ops [] [⟨some 15, none, .mv (.t 1)⟩,
 ⟨some 16, none, .bin .gtr (.t 15) (.k (.d (.int .i64 0)))⟩])
 (.cond (.t 16) (.ops [] [⟨some 17, none, .mv (.t 0)⟩,
 ⟨some 18, none, .mv (.t 0)⟩,
 ⟨some 19, none, .cap (.t 18)⟩,
 ⟨some 20, none, .slice 3 (.t 17) none (some (.t 19)) none⟩,
 ⟨some 21, none, .mv (.t 1)⟩,
 ⟨some 22, none, .appZ 3 [.d (.int .i64 0), .d (.str []), .nil 3] (.t 20) (.t 21)⟩,
 ⟨some 23, none, .mv (.t 0)⟩,
 ⟨some 24, none, .len 1 (.t 23)⟩,
 ⟨some 25, none, .slice 3 (.t 22) none (some (.t 24)) none⟩,
 ⟨some 0, none, .tk 25⟩])
 (.skip))))
 (.seq (.ops [] [⟨some 26, none, .tk 0⟩,
 ⟨some 4, none, .tk 26⟩])
 (.ret))))⟩
theorem c76 : sp 76 = some (.code F76) := by kernel_rfl

/-- slices.IndexFunc[[]tenet/split.vector,tenet/split.vector] -/
def F67 : AFunc := ⟨19, [.tmp 4],
 .seq (.ops [] [⟨some 4, none, .mv (.k (.d (.int .i64 0)))⟩])
 (.seq (.seq (.ops [] [⟨some 6, none, .mv (.t 0)⟩,
 ⟨some 7, none, .len 1 (.t 6)⟩,
 ⟨some 8, none, .mv (.k (.d (.int .i64 0)))⟩])
 (.block 0 (.loop 19 [0, 1, 7, 8] (.seq (.ops [] [⟨some 9, none, .bin .lss (.t 8) (.t 7)⟩])
 (.seq (.cond (.t 9) (.skip)
 (.exit 0))
 (.seq (.block 1 (.seq (.ops [] [⟨some 10, none, .tk 8⟩,
 ⟨some 5, none, .tk 10⟩])
 (.seq (.ops [] [⟨some 11, none, .mv (.t 1)⟩,
 ⟨some 12, none, .mv (.t 0)⟩,
 ⟨some 13, none, .mv (.t 5)⟩,
 ⟨some 14, none, .ia 1 false (.t 12) (.t 13)⟩,
 ⟨some 15, none, .ld false 1 (.t 14)⟩,
 ⟨some 16, none, .callV (.t 11) [.t 15]⟩])
 (.cond (.t 16) (.seq (.ops [] [⟨some 17, none, .tk 5⟩,
 ⟨some 4, none, .tk 17⟩])
 (.ret))
 (.skip)))))
 (.ops [] [⟨some 18, none, .bin .add (.t 8) (.k (.d (.int .i64 1)))⟩,
 ⟨some 8, none, .mv (.t 18)⟩])))))))
 (.seq (.ops [] [⟨some 4, none, .mv (.k (.d (.int .i64 (-1))))⟩])
 (.ret)))⟩
theorem c67 : sp 67 = some (.code F67) := by kernel_rfl

/-- math/bits.Mul -/
def F77 : AFunc := ⟨30, [.tmp 4, .tmp 5],
 .seq (.ops [] [⟨some 4, none, .mv (.k (.d (.int .u64 0)))⟩,
 ⟨some 5, none, .mv (.k (.d (.int .u64 0)))⟩])
 (.seq (.cond (.k (.d (.bool false))) (.seq (.ops [] [⟨some 11, none, .mv (.t 0)⟩,
 ⟨some 12, none, .conv .u32 (.t 11)⟩,
 ⟨some 13, none, .mv (.t 1)⟩,
 ⟨some 14, none, .conv .u32 (.t 13)⟩,
 ⟨some 15, none, .call 78 [.t 12, .t 14]⟩,
 ⟨some 10, none, .mv (.t 15)⟩,
 ⟨some 16, none, .ext (.t 10) 0⟩,
 ⟨some 17, none, .ext (.t 10) 1⟩,
 ⟨some 6, none, .tk 16⟩,
 ⟨some 7, none, .tk 17⟩])
 (.seq (.ops [] [⟨some 18, none, .mv (.t 6)⟩,
 ⟨some 19, none, .conv .u64 (.t 18)⟩,
 ⟨some 20, none, .mv (.t 7)⟩,
 ⟨some 21, none, .conv .u64 (.t 20)⟩,
 ⟨some 4, none, .tk 19⟩,
 ⟨some 5, none, .tk 21⟩])
 (.ret)))
 (.skip))
 (.seq (.ops [] [⟨some 23, none, .mv (.t 0)⟩,
 ⟨some 24, none, .mv (.t 1)⟩,
 ⟨some 25, none, .call 79 [.t 23, .t 24]⟩,
 ⟨some 22, none, .mv (.t 25)⟩,
 ⟨some 26, none, .ext (.t 22) 0⟩,
 ⟨some 27, none, .ext (.t 22) 1⟩,
 ⟨some 8, none, .tk 26⟩,
 ⟨some 9, none, .tk 27⟩])
 (.seq (.ops [] [⟨some 28, none, .tk 8⟩,
 ⟨some 29, none, .tk 9⟩,
 ⟨some 4, none, .tk 28⟩,
 ⟨some 5, none, .tk 29⟩])
 (.ret))))⟩
/-- math/bits.Mul64 -/
def F79 : AFunc := ⟨51, [.tmp 4, .tmp 5],
 .seq (.ops [] [⟨some 4, none, .mv (.k (.d (.int .u64 0)))⟩,
 ⟨some 5, none, .mv (.k (.d (.int .u64 0)))⟩])
 (.seq (.ops [] [⟨some 14, none, .mv (.t 0)⟩,
 ⟨some 15, none, .bin .and (.t 14) (.k (.d (.int .u64 4294967295)))⟩,
 ⟨some 6, none, .tk 15⟩])
 (.seq (.ops [] [⟨some 16, none, .mv (.t 0)⟩,
 ⟨some 17, none, .bin .shr (.t 16) (.k (.d (.int .u64 32)))⟩,
 ⟨some 7, none, .tk 17⟩])
 (.seq (.ops [] [⟨some 18, none, .mv (.t 1)⟩,
 ⟨some 19, none, .bin .and (.t 18) (.k (.d (.int .u64 4294967295)))⟩,
 ⟨some 8, none, .tk 19⟩])
 (.seq (.ops [] [⟨some 20, none, .mv (.t 1)⟩,
 ⟨some 21, none, .bin .shr (.t 20) (.k (.d (.int .u64 32)))⟩,
 ⟨some 9, none, .tk 21⟩])
 (.seq (.ops [] [⟨some 22, none, .mv (.t 6)⟩,
 ⟨some 23, none, .mv (.t 8)⟩,
 ⟨some 24, none, .bin .mul (.t 22) (.t 23)⟩,
 ⟨some 10, none, .tk 24⟩])
 (.seq (.ops [] [⟨some 25, none, .mv (.t 7)⟩,
 ⟨some 26, none, .mv (.t 8)⟩,
 ⟨some 27, none, .bin .mul (.t 25) (.t 26)⟩,
 ⟨some 28, none, .mv (.t 10)⟩,
 ⟨some 29, none, .bin .shr (.t 28) (.k (.d (.int .u64 32)))⟩,
 ⟨some 30, none, .bin .add (.t 27) (.t 29)⟩,
 ⟨some 11, none, .tk 30⟩])
 (.seq (.ops [] [⟨some 31, none, .mv (.t 11)⟩,
 ⟨some 32, none, .bin .and (.t 31) (.k (.d (.int .u64 4294967295)))⟩,
 ⟨some 12, none, .tk 32⟩])
 (.seq (.ops [] [⟨some 33, none, .mv (.t 11)⟩,
 ⟨some 34, none, .bin .shr (.t 33) (.k (.d (.int .u64 32)))⟩,
 ⟨some 13, none, .tk 34⟩])
 (.seq (.ops [] [⟨some 35, none, .mv (.t 12)⟩,
 ⟨some 36, none, .mv (.t 6)⟩,
 ⟨some 37, none, .mv (.t 9)⟩,
 ⟨some 38, none, .bin .mul (.t 36) (.t 37)⟩,
 ⟨some 39, none, .bin .add (.t 35) (.t 38)⟩,
 ⟨some 12, none, .tk 39⟩])
 (.seq (.ops [] [⟨some 40, none, .mv (.t 7)⟩,
 ⟨some 41, none, .mv (.t 9)⟩,
 ⟨some 42, none, .bin .mul (.t 40) (.t 41)⟩,
 ⟨some 43, none, .mv (.t 13)⟩,
 ⟨some 44, none, .bin .add (.t 42) (.t 43)⟩,
 ⟨some 45, none, .mv (.t 12)⟩,
 ⟨some 46, none, .bin .shr (.t 45) (.k (.d (.int .u64 32)))⟩,
 ⟨some 47, none, .bin .add (.t 44) (.t 46)⟩,
 ⟨some 4, none, .tk 47⟩])
 (.seq (.ops [] [⟨some 48, none, .mv (.t 0)⟩,
 ⟨some 49, none, .mv (.t 1)⟩,
 ⟨some 50, none, .bin .mul (.t 48) (.t 49)⟩,
 ⟨some 5, none, .tk 50⟩])
 (.ret))))))))))))⟩
end Go.Sp

/-! SmCodeG -/
