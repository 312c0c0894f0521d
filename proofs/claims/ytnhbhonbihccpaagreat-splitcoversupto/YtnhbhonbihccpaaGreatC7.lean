/- SplitCovers holds of every input whose data are of bulk at most 1048576 (the row's second form). Here: The program's functions as abstract code. -/
import Derived.Test.YtnhbhonbihccpaaGreatB2
import Derived.KernelRfl

set_option linter.unusedVariables false
set_option linter.unusedSimpArgs false
set_option linter.unnecessarySimpa false

/-! The program's functions as abstract code. -/
namespace Go.Sp
open Go.Abs Go.Proofs
set_option maxRecDepth 20000

/-- tenet/tenetlaw15.SplitCovers -/
def F3 : AFunc := ⟨135, [.tmp 4],
 .seq (.ops [] [⟨some 2, none, .box true 2 (.t 0)⟩,
 ⟨some 4, none, .mv (.k (.d (.bool false)))⟩])
 (.seq (.seq (.ops [] [⟨some 14, none, .ld true 2 (.t 2)⟩,
 ⟨some 15, none, .call 8 [.t 14]⟩])
 (.cond (.t 15) (.seq (.ops [] [⟨some 4, none, .mv (.k (.d (.bool true)))⟩])
 (.ret))
 (.skip)))
 (.seq (.ops [] [⟨some 17, none, .ld true 2 (.t 2)⟩,
 ⟨some 18, none, .mv (.t 1)⟩,
 ⟨some 19, none, .call 9 [.t 17, .t 18]⟩,
 ⟨some 16, none, .mv (.t 19)⟩,
 ⟨some 20, none, .ext (.t 16) 0⟩,
 ⟨some 21, none, .ext (.t 16) 1⟩,
 ⟨some 22, none, .ext (.t 16) 2⟩,
 ⟨some 5, none, .tk 20⟩,
 ⟨some 6, none, .tk 21⟩,
 ⟨some 7, none, .tk 22⟩])
 (.seq (.ops [] [⟨some 24, none, .ld true 2 (.t 2)⟩,
 ⟨some 25, none, .mv (.t 1)⟩,
 ⟨some 26, none, .call 10 [.t 24, .t 25]⟩,
 ⟨some 23, none, .mv (.t 26)⟩,
 ⟨some 27, none, .ext (.t 23) 0⟩,
 ⟨some 28, none, .ext (.t 23) 1⟩,
 ⟨some 8, none, .alloc true [.d (.str []), .nil 1, .d (.str []), .nil 5]⟩,
 ⟨none, none, .st true 4 (.t 8) (.t 27)⟩,
 ⟨some 9, none, .tk 28⟩])
 (.seq (.seq (.ops [] [⟨some 29, none, .mv (.t 7)⟩,
 ⟨some 30, none, .mv (.t 9)⟩,
 ⟨some 31, none, .bin .neq (.t 29) (.t 30)⟩,
 ⟨some 32, none, .mv (.t 31)⟩,
 ⟨some 33, some (32, false), .mv (.t 7)⟩,
 ⟨some 34, some (32, false), .bin .neq (.t 33) (.k (.d (.int .i64 0)))⟩,
 ⟨some 35, none, .pick (.t 32) (.k (.d (.bool true))) (.t 34)⟩])
 (.cond (.t 35) (.seq (.ops [] [⟨some 36, none, .mv (.t 7)⟩,
 ⟨some 37, none, .mv (.t 9)⟩,
 ⟨some 38, none, .bin .eql (.t 36) (.t 37)⟩,
 ⟨some 39, none, .mv (.t 38)⟩,
 ⟨some 40, some (39, true), .mv (.t 5)⟩,
 ⟨some 41, some (39, true), .len 1 (.t 40)⟩,
 ⟨some 42, some (39, true), .bin .eql (.t 41) (.k (.d (.int .i64 0)))⟩,
 ⟨some 43, none, .pick (.t 39) (.t 42) (.k (.d (.bool false)))⟩,
 ⟨some 44, none, .mv (.t 43)⟩,
 ⟨some 45, some (44, true), .mv (.t 6)⟩,
 ⟨some 46, some (44, true), .not (.t 45)⟩,
 ⟨some 47, none, .pick (.t 44) (.t 46) (.k (.d (.bool false)))⟩,
 ⟨some 48, none, .mv (.t 47)⟩,
 ⟨some 49, some (48, true), .call 11 []⟩,
 ⟨some 50, none, .pick (.t 48) (.t 49) (.k (.d (.bool false)))⟩,
 ⟨some 4, none, .tk 50⟩])
 (.ret))
 (.skip)))
 (.seq (.seq (.ops [] [⟨some 51, none, .mv (.t 6)⟩,
 ⟨some 52, none, .ld true 2 (.t 2)⟩,
 ⟨some 53, none, .mv (.t 1)⟩,
 ⟨some 54, none, .call 12 [.t 52, .t 53]⟩,
 ⟨some 55, none, .eqB false (.t 51) (.t 54)⟩,
 ⟨some 56, none, .mv (.t 55)⟩,
 ⟨some 57, some (56, false), .mv (.t 6)⟩,
 ⟨some 58, some (56, false), .not (.t 57)⟩,
 ⟨some 59, none, .pick (.t 56) (.k (.d (.bool true))) (.t 58)⟩])
 (.cond (.t 59) (.seq (.ops [] [⟨some 60, none, .mv (.t 6)⟩,
 ⟨some 61, none, .ld true 2 (.t 2)⟩,
 ⟨some 62, none, .mv (.t 1)⟩,
 ⟨some 63, none, .call 12 [.t 61, .t 62]⟩,
 ⟨some 64, none, .eqB true (.t 60) (.t 63)⟩,
 ⟨some 65, none, .mv (.t 64)⟩,
 ⟨some 66, some (65, true), .mv (.t 5)⟩,
 ⟨some 67, some (65, true), .len 1 (.t 66)⟩,
 ⟨some 68, some (65, true), .bin .eql (.t 67) (.k (.d (.int .i64 0)))⟩,
 ⟨some 69, none, .pick (.t 65) (.t 68) (.k (.d (.bool false)))⟩,
 ⟨some 70, none, .mv (.t 69)⟩,
 ⟨some 71, some (70, true), .call 11 []⟩,
 ⟨some 72, none, .pick (.t 70) (.t 71) (.k (.d (.bool false)))⟩,
 ⟨some 4, none, .tk 72⟩])
 (.ret))
 (.skip)))
 (.seq (.seq (.ops [] [⟨some 73, none, .mv (.t 5)⟩,
 ⟨some 74, none, .len 1 (.t 73)⟩,
 ⟨some 75, none, .fa 1 1 false (.t 8)⟩,
 ⟨some 76, none, .ld false 1 (.t 75)⟩,
 ⟨some 77, none, .len 1 (.t 76)⟩,
 ⟨some 78, none, .bin .neq (.t 74) (.t 77)⟩])
 (.cond (.t 78) (.seq (.ops [] [⟨some 4, none, .mv (.k (.d (.bool false)))⟩])
 (.ret))
 (.skip)))
 (.seq (.seq (.ops [] [⟨some 10, none, .mv (.k (.d (.int .i64 0)))⟩])
 (.block 0 (.loop 135 [2, 5, 8, 10] (.seq (.seq (.ops [] [⟨some 79, none, .mv (.t 10)⟩,
 ⟨some 80, none, .mv (.t 5)⟩,
 ⟨some 81, none, .len 1 (.t 80)⟩,
 ⟨some 82, none, .bin .lss (.t 79) (.t 81)⟩])
 (.cond (.t 82) (.skip)
 (.exit 0)))
 (.seq (.block 1 (.seq (.ops [] [⟨some 85, none, .ld true 2 (.t 2)⟩,
 ⟨some 86, none, .mv (.t 5)⟩,
 ⟨some 87, none, .mv (.t 10)⟩,
 ⟨some 88, none, .ia 3 true (.t 86) (.t 87)⟩,
 ⟨some 89, none, .ld true 3 (.t 88)⟩,
 ⟨some 90, none, .fa 1 1 false (.t 8)⟩,
 ⟨some 91, none, .ld false 1 (.t 90)⟩,
 ⟨some 92, none, .mv (.t 10)⟩,
 ⟨some 93, none, .ia 1 false (.t 91) (.t 92)⟩,
 ⟨some 94, none, .ld false 1 (.t 93)⟩,
 ⟨some 95, none, .call 13 [.t 85, .t 89, .t 94]⟩,
 ⟨some 96, none, .not (.t 95)⟩])
 (.cond (.t 96) (.seq (.ops [] [⟨some 4, none, .mv (.k (.d (.bool false)))⟩])
 (.ret))
 (.skip))))
 (.ops [] [⟨some 83, none, .mv (.t 10)⟩,
 ⟨some 84, none, .bin .add (.t 83) (.k (.d (.int .i64 1)))⟩,
 ⟨some 10, none, .tk 84⟩]))))))
 (.seq (.seq (.ops [] [⟨some 11, none, .mv (.k (.d (.int .i64 0)))⟩])
 (.block 2 (.loop 135 [2, 5, 8, 11] (.seq (.seq (.ops [] [⟨some 97, none, .mv (.t 11)⟩,
 ⟨some 98, none, .fa 3 1 false (.t 8)⟩,
 ⟨some 99, none, .ld false 1 (.t 98)⟩,
 ⟨some 100, none, .len 1 (.t 99)⟩,
 ⟨some 101, none, .bin .lss (.t 97) (.t 100)⟩])
 (.cond (.t 101) (.skip)
 (.exit 2)))
 (.seq (.block 3 (.seq (.ops [] [⟨some 12, none, .mv (.k (.d (.bool true)))⟩])
 (.seq (.seq (.ops [] [⟨some 13, none, .mv (.k (.d (.int .i64 0)))⟩])
 (.block 4 (.loop 135 [2, 5, 8, 11, 12, 13] (.seq (.seq (.ops [] [⟨some 104, none, .mv (.t 13)⟩,
 ⟨some 105, none, .mv (.t 5)⟩,
 ⟨some 106, none, .len 1 (.t 105)⟩,
 ⟨some 107, none, .bin .lss (.t 104) (.t 106)⟩])
 (.cond (.t 107) (.skip)
 (.exit 4)))
 (.seq (.block 5 (.ops [] [⟨some 110, none, .mv (.t 12)⟩,
 ⟨some 111, none, .mv (.t 110)⟩,
 ⟨some 112, some (111, true), .ld true 2 (.t 2)⟩,
 ⟨some 113, some (111, true), .fa 3 1 false (.t 8)⟩,
 ⟨some 114, some (111, true), .ld false 1 (.t 113)⟩,
 ⟨some 115, some (111, true), .mv (.t 11)⟩,
 ⟨some 116, some (111, true), .ia 5 true (.t 114) (.t 115)⟩,
 ⟨some 117, some (111, true), .fa 0 1 false (.t 116)⟩,
 ⟨some 118, some (111, true), .ld false 1 (.t 117)⟩,
 ⟨some 119, some (111, true), .mv (.t 13)⟩,
 ⟨some 120, some (111, true), .ia 3 true (.t 118) (.t 119)⟩,
 ⟨some 121, some (111, true), .ld true 3 (.t 120)⟩,
 ⟨some 122, some (111, true), .mv (.t 5)⟩,
 ⟨some 123, some (111, true), .mv (.t 13)⟩,
 ⟨some 124, some (111, true), .ia 3 true (.t 122) (.t 123)⟩,
 ⟨some 125, some (111, true), .ld true 3 (.t 124)⟩,
 ⟨some 126, some (111, true), .fa 1 1 false (.t 8)⟩,
 ⟨some 127, some (111, true), .ld false 1 (.t 126)⟩,
 ⟨some 128, some (111, true), .mv (.t 13)⟩,
 ⟨some 129, some (111, true), .ia 1 false (.t 127) (.t 128)⟩,
 ⟨some 130, some (111, true), .ld false 1 (.t 129)⟩,
 ⟨some 131, some (111, true), .call 14 [.t 112, .t 121, .t 125, .t 130]⟩,
 ⟨some 132, none, .pick (.t 111) (.t 131) (.k (.d (.bool false)))⟩,
 ⟨some 12, none, .tk 132⟩]))
 (.ops [] [⟨some 108, none, .mv (.t 13)⟩,
 ⟨some 109, none, .bin .add (.t 108) (.k (.d (.int .i64 1)))⟩,
 ⟨some 13, none, .tk 109⟩]))))))
 (.seq (.ops [] [⟨some 133, none, .mv (.t 12)⟩])
 (.cond (.t 133) (.seq (.ops [] [⟨some 4, none, .mv (.k (.d (.bool false)))⟩])
 (.ret))
 (.skip))))))
 (.ops [] [⟨some 102, none, .mv (.t 11)⟩,
 ⟨some 103, none, .bin .add (.t 102) (.k (.d (.int .i64 1)))⟩,
 ⟨some 11, none, .tk 103⟩]))))))
 (.seq (.ops [] [⟨some 134, none, .call 11 []⟩,
 ⟨some 4, none, .tk 134⟩])
 (.ret))))))))))⟩
theorem c3 : sp 3 = some (.code F3) := by kernel_rfl

/-- tenet/split.Cover -/
def F9 : AFunc := ⟨28, [.tmp 4, .tmp 5, .tmp 6],
 .seq (.ops [] [⟨some 2, none, .box true 2 (.t 0)⟩,
 ⟨some 4, none, .mv (.k (.nil 3))⟩,
 ⟨some 5, none, .mv (.k (.d (.bool false)))⟩,
 ⟨some 6, none, .mv (.k (.d (.int .i64 0)))⟩])
 (.seq (.ops [] [⟨some 12, none, .ld true 2 (.t 2)⟩,
 ⟨some 13, none, .mv (.t 1)⟩,
 ⟨some 14, none, .call 43 [.t 12, .t 13]⟩,
 ⟨some 11, none, .mv (.t 14)⟩,
 ⟨some 15, none, .ext (.t 11) 0⟩,
 ⟨some 16, none, .ext (.t 11) 1⟩,
 ⟨some 7, none, .alloc true [.d (.str []), .nil 1, .d (.str []), .nil 5]⟩,
 ⟨none, none, .st true 4 (.t 7) (.t 15)⟩,
 ⟨some 8, none, .tk 16⟩])
 (.seq (.seq (.ops [] [⟨some 17, none, .mv (.t 8)⟩,
 ⟨some 18, none, .bin .neq (.t 17) (.k (.d (.int .i64 0)))⟩])
 (.cond (.t 18) (.seq (.ops [] [⟨some 19, none, .tk 8⟩,
 ⟨some 4, none, .mv (.k (.nil 3))⟩,
 ⟨some 5, none, .mv (.k (.d (.bool false)))⟩,
 ⟨some 6, none, .tk 19⟩])
 (.ret))
 (.skip)))
 (.seq (.ops [] [⟨some 21, none, .ld true 2 (.t 2)⟩,
 ⟨some 22, none, .ld true 4 (.t 7)⟩,
 ⟨some 23, none, .call 44 [.t 21, .t 22]⟩,
 ⟨some 20, none, .mv (.t 23)⟩,
 ⟨some 24, none, .ext (.t 20) 0⟩,
 ⟨some 25, none, .ext (.t 20) 1⟩,
 ⟨some 9, none, .tk 24⟩,
 ⟨some 10, none, .tk 25⟩])
 (.seq (.ops [] [⟨some 26, none, .tk 9⟩,
 ⟨some 27, none, .tk 10⟩,
 ⟨some 4, none, .tk 26⟩,
 ⟨some 5, none, .tk 27⟩,
 ⟨some 6, none, .mv (.k (.d (.int .i64 0)))⟩])
 (.ret)))))⟩
theorem c9 : sp 9 = some (.code F9) := by kernel_rfl

/-- tenet/tenetlaw15.stands -/
def F13 : AFunc := ⟨68, [.tmp 6],
 .seq (.ops [] [⟨some 3, none, .box true 2 (.t 0)⟩,
 ⟨some 4, none, .box true 3 (.t 1)⟩,
 ⟨some 6, none, .mv (.k (.d (.bool false)))⟩])
 (.seq (.seq (.ops [] [⟨some 10, none, .fa 0 1 false (.t 4)⟩,
 ⟨some 11, none, .ld false 1 (.t 10)⟩,
 ⟨some 12, none, .bin .eql (.t 11) (.k (.d (.int .i64 1)))⟩])
 (.cond (.t 12) (.seq (.ops [] [⟨some 13, none, .fa 1 1 false (.t 4)⟩,
 ⟨some 14, none, .ld false 1 (.t 13)⟩,
 ⟨some 15, none, .bin .eql (.t 14) (.k (.d (.str [95])))⟩,
 ⟨some 16, none, .mv (.t 15)⟩,
 ⟨some 17, some (16, true), .fa 2 1 false (.t 4)⟩,
 ⟨some 18, some (16, true), .ld false 1 (.t 17)⟩,
 ⟨some 19, some (16, true), .len 1 (.t 18)⟩,
 ⟨some 20, some (16, true), .bin .eql (.t 19) (.k (.d (.int .i64 0)))⟩,
 ⟨some 21, none, .pick (.t 16) (.t 20) (.k (.d (.bool false)))⟩,
 ⟨some 22, none, .mv (.t 21)⟩,
 ⟨some 23, some (22, true), .ld true 2 (.t 3)⟩,
 ⟨some 24, some (22, true), .mv (.t 2)⟩,
 ⟨some 25, some (22, true), .call 21 [.t 23, .t 24]⟩,
 ⟨some 26, none, .pick (.t 22) (.t 25) (.k (.d (.bool false)))⟩,
 ⟨some 6, none, .tk 26⟩])
 (.ret))
 (.skip)))
 (.seq (.ops [] [⟨some 28, none, .ld true 2 (.t 3)⟩,
 ⟨some 29, none, .mv (.t 2)⟩,
 ⟨some 30, none, .fa 1 1 false (.t 4)⟩,
 ⟨some 31, none, .ld false 1 (.t 30)⟩,
 ⟨some 32, none, .call 47 [.t 28, .t 29, .t 31]⟩,
 ⟨some 27, none, .mv (.t 32)⟩,
 ⟨some 33, none, .ext (.t 27) 0⟩,
 ⟨some 34, none, .ext (.t 27) 1⟩,
 ⟨some 7, none, .tk 33⟩,
 ⟨some 8, none, .tk 34⟩])
 (.seq (.seq (.ops [] [⟨some 35, none, .fa 0 1 false (.t 4)⟩,
 ⟨some 36, none, .ld false 1 (.t 35)⟩,
 ⟨some 37, none, .bin .neq (.t 36) (.k (.d (.int .i64 2)))⟩,
 ⟨some 38, none, .mv (.t 37)⟩,
 ⟨some 39, some (38, false), .mv (.t 8)⟩,
 ⟨some 40, some (38, false), .not (.t 39)⟩,
 ⟨some 41, none, .pick (.t 38) (.k (.d (.bool true))) (.t 40)⟩,
 ⟨some 42, none, .mv (.t 41)⟩,
 ⟨some 43, some (42, false), .mv (.t 7)⟩,
 ⟨some 44, some (42, false), .len 1 (.t 43)⟩,
 ⟨some 45, some (42, false), .fa 2 1 false (.t 4)⟩,
 ⟨some 46, some (42, false), .ld false 1 (.t 45)⟩,
 ⟨some 47, some (42, false), .len 1 (.t 46)⟩,
 ⟨some 48, some (42, false), .bin .neq (.t 44) (.t 47)⟩,
 ⟨some 49, none, .pick (.t 42) (.k (.d (.bool true))) (.t 48)⟩])
 (.cond (.t 49) (.seq (.ops [] [⟨some 6, none, .mv (.k (.d (.bool false)))⟩])
 (.ret))
 (.skip)))
 (.seq (.seq (.ops [] [⟨some 9, none, .mv (.k (.d (.int .i64 0)))⟩])
 (.block 0 (.loop 68 [3, 4, 7, 9] (.seq (.seq (.ops [] [⟨some 50, none, .mv (.t 9)⟩,
 ⟨some 51, none, .mv (.t 7)⟩,
 ⟨some 52, none, .len 1 (.t 51)⟩,
 ⟨some 53, none, .bin .lss (.t 50) (.t 52)⟩])
 (.cond (.t 53) (.skip)
 (.exit 0)))
 (.seq (.block 1 (.seq (.ops [] [⟨some 56, none, .ld true 2 (.t 3)⟩,
 ⟨some 57, none, .fa 2 1 false (.t 4)⟩,
 ⟨some 58, none, .ld false 1 (.t 57)⟩,
 ⟨some 59, none, .mv (.t 9)⟩,
 ⟨some 60, none, .ia 3 true (.t 58) (.t 59)⟩,
 ⟨some 61, none, .ld true 3 (.t 60)⟩,
 ⟨some 62, none, .mv (.t 7)⟩,
 ⟨some 63, none, .mv (.t 9)⟩,
 ⟨some 64, none, .ia 1 false (.t 62) (.t 63)⟩,
 ⟨some 65, none, .ld false 1 (.t 64)⟩,
 ⟨some 66, none, .call 13 [.t 56, .t 61, .t 65]⟩,
 ⟨some 67, none, .not (.t 66)⟩])
 (.cond (.t 67) (.seq (.ops [] [⟨some 6, none, .mv (.k (.d (.bool false)))⟩])
 (.ret))
 (.skip))))
 (.ops [] [⟨some 54, none, .mv (.t 9)⟩,
 ⟨some 55, none, .bin .add (.t 54) (.k (.d (.int .i64 1)))⟩,
 ⟨some 9, none, .tk 55⟩]))))))
 (.seq (.ops [] [⟨some 6, none, .mv (.k (.d (.bool true)))⟩])
 (.ret))))))⟩
theorem c13 : sp 13 = some (.code F13) := by kernel_rfl

/-- tenet/tenetlaw15.meets -/
def F14 : AFunc := ⟨89, [.tmp 8],
 .seq (.ops [] [⟨some 4, none, .box true 2 (.t 0)⟩,
 ⟨some 5, none, .box true 3 (.t 1)⟩,
 ⟨some 6, none, .box true 3 (.t 2)⟩,
 ⟨some 8, none, .mv (.k (.d (.bool false)))⟩])
 (.seq (.seq (.ops [] [⟨some 13, none, .fa 0 1 false (.t 5)⟩,
 ⟨some 14, none, .ld false 1 (.t 13)⟩,
 ⟨some 15, none, .bin .eql (.t 14) (.k (.d (.int .i64 1)))⟩,
 ⟨some 16, none, .mv (.t 15)⟩,
 ⟨some 17, some (16, false), .fa 0 1 false (.t 5)⟩,
 ⟨some 18, some (16, false), .ld false 1 (.t 17)⟩,
 ⟨some 19, some (16, false), .bin .eql (.t 18) (.k (.d (.int .i64 4)))⟩,
 ⟨some 20, none, .pick (.t 16) (.k (.d (.bool true))) (.t 19)⟩])
 (.cond (.t 20) (.seq (.ops [] [⟨some 8, none, .mv (.k (.d (.bool true)))⟩])
 (.ret))
 (.skip)))
 (.seq (.seq (.ops [] [⟨some 21, none, .fa 0 1 false (.t 5)⟩,
 ⟨some 22, none, .ld false 1 (.t 21)⟩,
 ⟨some 23, none, .bin .neq (.t 22) (.k (.d (.int .i64 2)))⟩,
 ⟨some 24, none, .mv (.t 23)⟩,
 ⟨some 25, some (24, false), .fa 0 1 false (.t 6)⟩,
 ⟨some 26, some (24, false), .ld false 1 (.t 25)⟩,
 ⟨some 27, some (24, false), .bin .eql (.t 26) (.k (.d (.int .i64 2)))⟩,
 ⟨some 28, some (24, false), .mv (.t 27)⟩,
 ⟨some 29, some (28, true), .fa 1 1 false (.t 6)⟩,
 ⟨some 30, some (28, true), .ld false 1 (.t 29)⟩,
 ⟨some 31, some (28, true), .fa 1 1 false (.t 5)⟩,
 ⟨some 32, some (28, true), .ld false 1 (.t 31)⟩,
 ⟨some 33, some (28, true), .bin .neq (.t 30) (.t 32)⟩,
 ⟨some 34, some (24, false), .pick (.t 28) (.t 33) (.k (.d (.bool false)))⟩,
 ⟨some 35, none, .pick (.t 24) (.k (.d (.bool true))) (.t 34)⟩])
 (.cond (.t 35) (.seq (.ops [] [⟨some 8, none, .mv (.k (.d (.bool false)))⟩])
 (.ret))
 (.skip)))
 (.seq (.ops [] [⟨some 37, none, .ld true 2 (.t 4)⟩,
 ⟨some 38, none, .mv (.t 3)⟩,
 ⟨some 39, none, .fa 1 1 false (.t 5)⟩,
 ⟨some 40, none, .ld false 1 (.t 39)⟩,
 ⟨some 41, none, .call 47 [.t 37, .t 38, .t 40]⟩,
 ⟨some 36, none, .mv (.t 41)⟩,
 ⟨some 42, none, .ext (.t 36) 0⟩,
 ⟨some 43, none, .ext (.t 36) 1⟩,
 ⟨some 9, none, .tk 42⟩,
 ⟨some 10, none, .tk 43⟩])
 (.seq (.seq (.ops [] [⟨some 11, none, .mv (.k (.d (.int .i64 0)))⟩])
 (.block 0 (.loop 89 [4, 5, 6, 9, 11] (.seq (.seq (.ops [] [⟨some 44, none, .mv (.t 11)⟩,
 ⟨some 45, none, .fa 2 1 false (.t 5)⟩,
 ⟨some 46, none, .ld false 1 (.t 45)⟩,
 ⟨some 47, none, .len 1 (.t 46)⟩,
 ⟨some 48, none, .bin .lss (.t 44) (.t 47)⟩,
 ⟨some 49, none, .mv (.t 48)⟩,
 ⟨some 50, some (49, true), .mv (.t 11)⟩,
 ⟨some 51, some (49, true), .mv (.t 9)⟩,
 ⟨some 52, some (49, true), .len 1 (.t 51)⟩,
 ⟨some 53, some (49, true), .bin .lss (.t 50) (.t 52)⟩,
 ⟨some 54, none, .pick (.t 49) (.t 53) (.k (.d (.bool false)))⟩])
 (.cond (.t 54) (.skip)
 (.exit 0)))
 (.seq (.block 1 (.seq (.ops [] [⟨some 57, none, .build [.d (.int .i64 0), .d (.str []), .nil 3] [(0, 1, (.k (.d (.int .i64 1)))), (1, 1, (.k (.d (.str [95]))))]⟩,
 ⟨some 12, none, .alloc true [.d (.int .i64 0), .d (.str []), .nil 3]⟩,
 ⟨none, none, .st true 3 (.t 12) (.t 57)⟩])
 (.seq (.seq (.ops [] [⟨some 58, none, .fa 0 1 false (.t 6)⟩,
 ⟨some 59, none, .ld false 1 (.t 58)⟩,
 ⟨some 60, none, .bin .eql (.t 59) (.k (.d (.int .i64 2)))⟩])
 (.cond (.t 60) (.ops [] [⟨some 61, none, .fa 2 1 false (.t 6)⟩,
 ⟨some 62, none, .ld false 1 (.t 61)⟩,
 ⟨some 63, none, .mv (.t 11)⟩,
 ⟨some 64, none, .ia 3 true (.t 62) (.t 63)⟩,
 ⟨some 65, none, .ld true 3 (.t 64)⟩,
 ⟨none, none, .st true 3 (.t 12) (.t 65)⟩])
 (.skip)))
 (.seq (.ops [] [⟨some 66, none, .ld true 2 (.t 4)⟩,
 ⟨some 67, none, .ld true 3 (.t 12)⟩,
 ⟨some 68, none, .mv (.t 9)⟩,
 ⟨some 69, none, .mv (.t 11)⟩,
 ⟨some 70, none, .ia 1 false (.t 68) (.t 69)⟩,
 ⟨some 71, none, .ld false 1 (.t 70)⟩,
 ⟨some 72, none, .call 13 [.t 66, .t 67, .t 71]⟩,
 ⟨some 73, none, .not (.t 72)⟩,
 ⟨some 74, none, .mv (.t 73)⟩,
 ⟨some 75, some (74, false), .ld true 2 (.t 4)⟩,
 ⟨some 76, some (74, false), .fa 2 1 false (.t 5)⟩,
 ⟨some 77, some (74, false), .ld false 1 (.t 76)⟩,
 ⟨some 78, some (74, false), .mv (.t 11)⟩,
 ⟨some 79, some (74, false), .ia 3 true (.t 77) (.t 78)⟩,
 ⟨some 80, some (74, false), .ld true 3 (.t 79)⟩,
 ⟨some 81, some (74, false), .ld true 3 (.t 12)⟩,
 ⟨some 82, some (74, false), .mv (.t 9)⟩,
 ⟨some 83, some (74, false), .mv (.t 11)⟩,
 ⟨some 84, some (74, false), .ia 1 false (.t 82) (.t 83)⟩,
 ⟨some 85, some (74, false), .ld false 1 (.t 84)⟩,
 ⟨some 86, some (74, false), .call 14 [.t 75, .t 80, .t 81, .t 85]⟩,
 ⟨some 87, some (74, false), .not (.t 86)⟩,
 ⟨some 88, none, .pick (.t 74) (.k (.d (.bool true))) (.t 87)⟩])
 (.cond (.t 88) (.seq (.ops [] [⟨some 8, none, .mv (.k (.d (.bool false)))⟩])
 (.ret))
 (.skip))))))
 (.ops [] [⟨some 55, none, .mv (.t 11)⟩,
 ⟨some 56, none, .bin .add (.t 55) (.k (.d (.int .i64 1)))⟩,
 ⟨some 11, none, .tk 56⟩]))))))
 (.seq (.ops [] [⟨some 8, none, .mv (.k (.d (.bool true)))⟩])
 (.ret))))))⟩
theorem c14 : sp 14 = some (.code F14) := by kernel_rfl

/-- tenet/tenetref15.Fields -/
def F47 : AFunc := ⟨14, [.tmp 6, .tmp 7],
 .seq (.ops [] [⟨some 3, none, .box true 2 (.t 0)⟩,
 ⟨some 6, none, .mv (.k (.nil 1))⟩,
 ⟨some 7, none, .mv (.k (.d (.bool false)))⟩])
 (.seq (.ops [] [⟨some 8, none, .ld true 2 (.t 3)⟩,
 ⟨some 9, none, .mv (.t 1)⟩,
 ⟨some 10, none, .mv (.t 2)⟩,
 ⟨some 11, none, .call 90 [.t 8, .t 9, .t 10]⟩,
 ⟨some 12, none, .ext (.t 11) 0⟩,
 ⟨some 13, none, .ext (.t 11) 1⟩,
 ⟨some 6, none, .tk 12⟩,
 ⟨some 7, none, .tk 13⟩])
 (.ret))⟩
theorem c47 : sp 47 = some (.code F47) := by kernel_rfl

/-- tenet/tenetref15.Covered -/
def F12 : AFunc := ⟨20, [.tmp 4],
 .seq (.ops [] [⟨some 2, none, .box true 2 (.t 0)⟩,
 ⟨some 4, none, .mv (.k (.d (.bool false)))⟩])
 (.seq (.ops [] [⟨some 8, none, .ld true 2 (.t 2)⟩,
 ⟨some 9, none, .mv (.t 1)⟩,
 ⟨some 10, none, .call 10 [.t 8, .t 9]⟩,
 ⟨some 7, none, .mv (.t 10)⟩,
 ⟨some 11, none, .ext (.t 7) 0⟩,
 ⟨some 12, none, .ext (.t 7) 1⟩,
 ⟨some 5, none, .alloc true [.d (.str []), .nil 1, .d (.str []), .nil 5]⟩,
 ⟨none, none, .st true 4 (.t 5) (.t 11)⟩,
 ⟨some 6, none, .tk 12⟩])
 (.seq (.ops [] [⟨some 13, none, .mv (.t 6)⟩,
 ⟨some 14, none, .bin .eql (.t 13) (.k (.d (.int .i64 0)))⟩,
 ⟨some 15, none, .mv (.t 14)⟩,
 ⟨some 16, some (15, true), .ld true 2 (.t 2)⟩,
 ⟨some 17, some (15, true), .ld true 4 (.t 5)⟩,
 ⟨some 18, some (15, true), .call 46 [.t 16, .t 17]⟩,
 ⟨some 19, none, .pick (.t 15) (.t 18) (.k (.d (.bool false)))⟩,
 ⟨some 4, none, .tk 19⟩])
 (.ret)))⟩
theorem c12 : sp 12 = some (.code F12) := by kernel_rfl

end Go.Sp
