/- SplitMore holds of every input whose data are of bulk at most 1048576 (the row's second form). Here: The program's functions as abstract code. The program's functions as abstract code. -/
import Derived.Test.YtnhbhonbihccpaaB2
import Derived.KernelRfl

set_option linter.unusedVariables false
set_option linter.unusedSimpArgs false
set_option linter.unnecessarySimpa false

/-! The program's functions as abstract code. -/
namespace Go.Sp
open Go.Abs Go.Proofs
set_option maxRecDepth 20000

/-- tenet/tenetlaw15.large -/
def F4 : AFunc := ⟨12, [.tmp 2],
 .seq (.ops [] [⟨some 1, none, .box true 4 (.t 0)⟩,
 ⟨some 2, none, .mv (.k (.d (.bool false)))⟩])
 (.seq (.ops [] [⟨some 3, none, .fa 0 2 true (.t 1)⟩,
 ⟨some 4, none, .ld true 2 (.t 3)⟩,
 ⟨some 5, none, .call 9 [.t 4]⟩,
 ⟨some 6, none, .mv (.t 5)⟩,
 ⟨some 7, some (6, false), .fa 3 1 false (.t 1)⟩,
 ⟨some 8, some (6, false), .ld false 1 (.t 7)⟩,
 ⟨some 9, some (6, false), .call 10 [.t 8, .k (.d (.int .i64 200))]⟩,
 ⟨some 10, some (6, false), .bin .gtr (.t 9) (.k (.d (.int .i64 200)))⟩,
 ⟨some 11, none, .pick (.t 6) (.k (.d (.bool true))) (.t 10)⟩,
 ⟨some 2, none, .tk 11⟩])
 (.ret))⟩
theorem c4 : sp 4 = some (.code F4) := by kernel_rfl

/-- tenet/split.given -/
def F12 : AFunc := ⟨32, [.tmp 6],
 .seq (.ops [] [⟨some 3, none, .box true 2 (.t 0)⟩,
 ⟨some 4, none, .box true 4 (.t 1)⟩,
 ⟨some 6, none, .mv (.k (.d (.bool false)))⟩])
 (.seq (.seq (.ops [] [⟨some 9, none, .mv (.t 2)⟩,
 ⟨some 10, none, .len 1 (.t 9)⟩,
 ⟨some 11, none, .fa 1 1 false (.t 4)⟩,
 ⟨some 12, none, .ld false 1 (.t 11)⟩,
 ⟨some 13, none, .len 1 (.t 12)⟩,
 ⟨some 14, none, .bin .neq (.t 10) (.t 13)⟩])
 (.cond (.t 14) (.seq (.ops [] [⟨some 6, none, .mv (.k (.d (.bool false)))⟩])
 (.ret))
 (.skip)))
 (.seq (.seq (.ops [] [⟨some 15, none, .mv (.t 2)⟩,
 ⟨some 16, none, .len 1 (.t 15)⟩,
 ⟨some 17, none, .mv (.k (.d (.int .i64 0)))⟩])
 (.block 0 (.loop 32 [3, 4, 15, 16, 17] (.seq (.ops [] [⟨some 18, none, .bin .lss (.t 17) (.t 16)⟩])
 (.seq (.cond (.t 18) (.skip)
 (.exit 0))
 (.seq (.block 1 (.seq (.ops [] [⟨some 19, none, .tk 17⟩,
 ⟨some 20, none, .ia 3 true (.t 15) (.t 17)⟩,
 ⟨some 21, none, .ld true 3 (.t 20)⟩,
 ⟨some 8, none, .alloc true [.d (.int .i64 0), .d (.str []), .nil 3]⟩,
 ⟨some 7, none, .tk 19⟩,
 ⟨none, none, .st true 3 (.t 8) (.t 21)⟩])
 (.seq (.ops [] [⟨some 22, none, .ld true 2 (.t 3)⟩,
 ⟨some 23, none, .ld true 3 (.t 8)⟩,
 ⟨some 24, none, .fa 1 1 false (.t 4)⟩,
 ⟨some 25, none, .ld false 1 (.t 24)⟩,
 ⟨some 26, none, .mv (.t 7)⟩,
 ⟨some 27, none, .ia 1 false (.t 25) (.t 26)⟩,
 ⟨some 28, none, .ld false 1 (.t 27)⟩,
 ⟨some 29, none, .call 21 [.t 22, .t 23, .t 28]⟩,
 ⟨some 30, none, .not (.t 29)⟩])
 (.cond (.t 30) (.seq (.ops [] [⟨some 6, none, .mv (.k (.d (.bool false)))⟩])
 (.ret))
 (.skip)))))
 (.ops [] [⟨some 31, none, .bin .add (.t 17) (.k (.d (.int .i64 1)))⟩,
 ⟨some 17, none, .mv (.t 31)⟩])))))))
 (.seq (.ops [] [⟨some 6, none, .mv (.k (.d (.bool true)))⟩])
 (.ret))))⟩
theorem c12 : sp 12 = some (.code F12) := by kernel_rfl

/-- tenet/split.first -/
def F22 : AFunc := ⟨9, [.tmp 4],
 .seq (.ops [] [⟨some 2, none, .box true 4 (.t 0)⟩,
 ⟨some 3, none, .box false 1 (.t 1)⟩,
 ⟨some 4, none, .mv (.k (.d (.int .i64 0)))⟩])
 (.seq (.ops [] [⟨some 5, none, .fa 3 1 false (.t 2)⟩,
 ⟨some 6, none, .ld false 1 (.t 5)⟩,
 ⟨some 7, none, .fn 41 [.t 3]⟩,
 ⟨some 8, none, .call 40 [.t 6, .t 7]⟩,
 ⟨some 4, none, .tk 8⟩])
 (.ret))⟩
theorem c22 : sp 22 = some (.code F22) := by kernel_rfl

/-- tenet/split.first$1 -/
def F41 : AFunc := ⟨22, [.tmp 3],
 .seq (.ops [] [⟨some 2, none, .box true 5 (.t 0)⟩,
 ⟨some 3, none, .mv (.k (.d (.bool false)))⟩])
 (.seq (.seq (.ops [] [⟨some 6, none, .fa 0 1 false (.t 2)⟩,
 ⟨some 7, none, .ld false 1 (.t 6)⟩,
 ⟨some 8, none, .len 1 (.t 7)⟩,
 ⟨some 9, none, .mv (.k (.d (.int .i64 0)))⟩])
 (.block 0 (.loop 22 [1, 7, 8, 9] (.seq (.ops [] [⟨some 10, none, .bin .lss (.t 9) (.t 8)⟩])
 (.seq (.cond (.t 10) (.skip)
 (.exit 0))
 (.seq (.block 1 (.seq (.ops [] [⟨some 11, none, .tk 9⟩,
 ⟨some 12, none, .ia 3 true (.t 7) (.t 9)⟩,
 ⟨some 13, none, .ld true 3 (.t 12)⟩,
 ⟨some 5, none, .alloc true [.d (.int .i64 0), .d (.str []), .nil 3]⟩,
 ⟨some 4, none, .tk 11⟩,
 ⟨none, none, .st true 3 (.t 5) (.t 13)⟩])
 (.seq (.ops [] [⟨some 14, none, .ld true 3 (.t 5)⟩,
 ⟨some 15, none, .ld false 1 (.t 1)⟩,
 ⟨some 16, none, .mv (.t 4)⟩,
 ⟨some 17, none, .ia 3 true (.t 15) (.t 16)⟩,
 ⟨some 18, none, .ld true 3 (.t 17)⟩,
 ⟨some 19, none, .call 42 [.t 14, .t 18]⟩,
 ⟨some 20, none, .not (.t 19)⟩])
 (.cond (.t 20) (.seq (.ops [] [⟨some 3, none, .mv (.k (.d (.bool false)))⟩])
 (.ret))
 (.skip)))))
 (.ops [] [⟨some 21, none, .bin .add (.t 9) (.k (.d (.int .i64 1)))⟩,
 ⟨some 9, none, .mv (.t 21)⟩])))))))
 (.seq (.ops [] [⟨some 3, none, .mv (.k (.d (.bool true)))⟩])
 (.ret)))⟩
theorem c41 : sp 41 = some (.code F41) := by kernel_rfl

/-- tenet/split.matches -/
def F42 : AFunc := ⟨46, [.tmp 4],
 .seq (.ops [] [⟨some 2, none, .box true 3 (.t 0)⟩,
 ⟨some 3, none, .box true 3 (.t 1)⟩,
 ⟨some 4, none, .mv (.k (.d (.bool false)))⟩])
 (.seq (.seq (.ops [] [⟨some 6, none, .fa 0 1 false (.t 2)⟩,
 ⟨some 7, none, .ld false 1 (.t 6)⟩])
 (.block 0 (.seq (.seq (.ops [] [⟨some 9, none, .bin .eql (.t 7) (.k (.d (.int .i64 1)))⟩,
 ⟨some 8, none, .tk 9⟩])
 (.cond (.t 8) (.skip)
 (.ops [] [⟨some 10, none, .bin .eql (.t 7) (.k (.d (.int .i64 4)))⟩,
 ⟨some 8, none, .tk 10⟩])))
 (.cond (.t 8) (.seq (.ops [] [⟨some 4, none, .mv (.k (.d (.bool true)))⟩])
 (.ret))
 (.seq (.ops [] [⟨some 12, none, .bin .eql (.t 7) (.k (.d (.int .i64 2)))⟩,
 ⟨some 11, none, .tk 12⟩])
 (.cond (.t 11) (.seq (.seq (.ops [] [⟨some 13, none, .fa 1 1 false (.t 2)⟩,
 ⟨some 14, none, .ld false 1 (.t 13)⟩,
 ⟨some 15, none, .fa 1 1 false (.t 3)⟩,
 ⟨some 16, none, .ld false 1 (.t 15)⟩,
 ⟨some 17, none, .bin .neq (.t 14) (.t 16)⟩,
 ⟨some 18, none, .mv (.t 17)⟩,
 ⟨some 19, some (18, false), .fa 2 1 false (.t 2)⟩,
 ⟨some 20, some (18, false), .ld false 1 (.t 19)⟩,
 ⟨some 21, some (18, false), .len 1 (.t 20)⟩,
 ⟨some 22, some (18, false), .fa 2 1 false (.t 3)⟩,
 ⟨some 23, some (18, false), .ld false 1 (.t 22)⟩,
 ⟨some 24, some (18, false), .len 1 (.t 23)⟩,
 ⟨some 25, some (18, false), .bin .neq (.t 21) (.t 24)⟩,
 ⟨some 26, none, .pick (.t 18) (.k (.d (.bool true))) (.t 25)⟩])
 (.cond (.t 26) (.seq (.ops [] [⟨some 4, none, .mv (.k (.d (.bool false)))⟩])
 (.ret))
 (.skip)))
 (.seq (.seq (.ops [] [⟨some 27, none, .fa 2 1 false (.t 2)⟩,
 ⟨some 28, none, .ld false 1 (.t 27)⟩,
 ⟨some 29, none, .len 1 (.t 28)⟩,
 ⟨some 30, none, .mv (.k (.d (.int .i64 0)))⟩])
 (.block 1 (.loop 46 [2, 3, 29, 30] (.seq (.ops [] [⟨some 31, none, .bin .lss (.t 30) (.t 29)⟩])
 (.seq (.cond (.t 31) (.skip)
 (.exit 1))
 (.seq (.block 2 (.seq (.ops [] [⟨some 32, none, .tk 30⟩,
 ⟨some 5, none, .tk 32⟩])
 (.seq (.ops [] [⟨some 33, none, .fa 2 1 false (.t 2)⟩,
 ⟨some 34, none, .ld false 1 (.t 33)⟩,
 ⟨some 35, none, .mv (.t 5)⟩,
 ⟨some 36, none, .ia 3 true (.t 34) (.t 35)⟩,
 ⟨some 37, none, .ld true 3 (.t 36)⟩,
 ⟨some 38, none, .fa 2 1 false (.t 3)⟩,
 ⟨some 39, none, .ld false 1 (.t 38)⟩,
 ⟨some 40, none, .mv (.t 5)⟩,
 ⟨some 41, none, .ia 3 true (.t 39) (.t 40)⟩,
 ⟨some 42, none, .ld true 3 (.t 41)⟩,
 ⟨some 43, none, .call 42 [.t 37, .t 42]⟩,
 ⟨some 44, none, .not (.t 43)⟩])
 (.cond (.t 44) (.seq (.ops [] [⟨some 4, none, .mv (.k (.d (.bool false)))⟩])
 (.ret))
 (.skip)))))
 (.ops [] [⟨some 45, none, .bin .add (.t 30) (.k (.d (.int .i64 1)))⟩,
 ⟨some 30, none, .mv (.t 45)⟩])))))))
 (.seq (.ops [] [⟨some 4, none, .mv (.k (.d (.bool true)))⟩])
 (.ret))))
 (.skip)))))))
 (.seq (.ops [] [⟨some 4, none, .mv (.k (.d (.bool false)))⟩])
 (.ret)))⟩
theorem c42 : sp 42 = some (.code F42) := by kernel_rfl

/-- tenet/split.Run -/
def F5 : AFunc := ⟨8, [.reg 87, .tmp 9, .tmp 10],
 .seq (.ops [] [⟨some 4, none, .box true 2 (.t 0)⟩,
 ⟨some 87, none, .ralloc true [.d (.int .i64 0), .d (.str []), .nil 3]⟩,
 ⟨some 9, none, .mv (.k (.d (.bool false)))⟩,
 ⟨some 10, none, .mv (.k (.d (.int .i64 0)))⟩])
 (.seq (.ops [] [⟨some 20, none, .ld true 2 (.t 4)⟩,
 ⟨some 21, none, .mv (.t 1)⟩,
 ⟨some 22, none, .call 11 [.t 20, .t 21]⟩,
 ⟨some 19, none, .mv (.t 22)⟩,
 ⟨some 23, none, .ext (.t 19) 0⟩,
 ⟨some 24, none, .ext (.t 19) 1⟩,
 ⟨some 11, none, .alloc true [.d (.str []), .nil 1, .d (.str []), .nil 5]⟩,
 ⟨none, none, .st true 4 (.t 11) (.t 23)⟩,
 ⟨some 12, none, .tk 24⟩])
 (.seq (.block 0 (.seq (.ops [] [⟨some 26, none, .mv (.t 12)⟩,
 ⟨some 27, none, .bin .neq (.t 26) (.k (.d (.int .i64 0)))⟩,
 ⟨some 25, none, .tk 27⟩])
 (.cond (.t 25) (.seq (.ops [] [⟨some 28, none, .build [.d (.int .i64 0), .d (.str []), .nil 3] []⟩,
 ⟨some 29, none, .tk 12⟩,
 ⟨some 87, none, .rst 87 true 3 (.t 28)⟩,
 ⟨some 9, none, .mv (.k (.d (.bool false)))⟩,
 ⟨some 10, none, .tk 29⟩])
 (.ret))
 (.seq (.ops [] [⟨some 31, none, .ld true 2 (.t 4)⟩,
 ⟨some 32, none, .ld true 4 (.t 11)⟩,
 ⟨some 33, none, .mv (.t 2)⟩,
 ⟨some 34, none, .call 12 [.t 31, .t 32, .t 33]⟩,
 ⟨some 35, none, .not (.t 34)⟩,
 ⟨some 30, none, .tk 35⟩])
 (.cond (.t 30) (.seq (.ops [] [⟨some 36, none, .build [.d (.int .i64 0), .d (.str []), .nil 3] []⟩,
 ⟨some 87, none, .rst 87 true 3 (.t 36)⟩,
 ⟨some 9, none, .mv (.k (.d (.bool false)))⟩,
 ⟨some 10, none, .mv (.k (.d (.int .i64 4)))⟩])
 (.ret))
 (.seq (.ops [] [⟨some 38, none, .mv (.t 3)⟩,
 ⟨some 39, none, .bin .lss (.t 38) (.k (.d (.int .i64 0)))⟩,
 ⟨some 40, none, .mv (.t 39)⟩,
 ⟨some 41, some (40, false), .mv (.t 3)⟩,
 ⟨some 42, some (40, false), .bin .gtr (.t 41) (.k (.d (.int .i64 10000)))⟩,
 ⟨some 43, none, .pick (.t 40) (.k (.d (.bool true))) (.t 42)⟩,
 ⟨some 37, none, .tk 43⟩])
 (.cond (.t 37) (.seq (.ops [] [⟨some 44, none, .build [.d (.int .i64 0), .d (.str []), .nil 3] []⟩,
 ⟨some 87, none, .rst 87 true 3 (.t 44)⟩,
 ⟨some 9, none, .mv (.k (.d (.bool false)))⟩,
 ⟨some 10, none, .mv (.k (.d (.int .i64 1)))⟩])
 (.ret))
 (.skip))))))))
 (.seq (.ops [] [⟨some 13, none, .mv (.k (.nil 4))⟩])
 (.seq (.seq (.ops [] [⟨some 45, none, .mv (.t 2)⟩,
 ⟨some 46, none, .len 1 (.t 45)⟩,
 ⟨some 47, none, .mv (.k (.d (.int .i64 0)))⟩])
 (.block 1 (.loop 79 [1, 3, 4, 13, 45, 46, 47, 87] (.seq (.ops [] [⟨some 48, none, .bin .lss (.t 47) (.t 46)⟩])
 (.seq (.cond (.t 48) (.skip)
 (.exit 1))
 (.seq (.block 2 (.seq (.ops [] [⟨some 49, none, .ia 3 true (.t 45) (.t 47)⟩,
 ⟨some 50, none, .ld true 3 (.t 49)⟩,
 ⟨some 15, none, .alloc true [.d (.int .i64 0), .d (.str []), .nil 3]⟩,
 ⟨none, none, .st true 3 (.t 15) (.t 50)⟩])
 (.ops [] [⟨some 51, none, .tk 13⟩,
 ⟨some 52, none, .ld true 3 (.t 15)⟩,
 ⟨some 53, none, .call 13 [.t 52]⟩,
 ⟨some 54, none, .lit 4 [.t 53]⟩,
 ⟨some 55, none, .app 4 (.t 51) (.t 54)⟩,
 ⟨some 13, none, .tk 55⟩])))
 (.ops [] [⟨some 56, none, .bin .add (.t 47) (.k (.d (.int .i64 1)))⟩,
 ⟨some 47, none, .mv (.t 56)⟩])))))))
 (.seq (.ops [] [⟨some 57, none, .ld true 2 (.t 4)⟩,
 ⟨some 58, none, .mv (.t 3)⟩,
 ⟨some 59, none, .build [.nil 2, .nil 4, .d (.int .i64 0)] [(0, 2, (.t 57)), (2, 1, (.t 58))]⟩,
 ⟨some 60, none, .box true 3 (.t 59)⟩,
 ⟨some 16, none, .tk 60⟩])
 (.seq (.ops [] [⟨some 62, none, .tk 16⟩,
 ⟨some 63, none, .tk 1⟩,
 ⟨some 64, none, .tk 13⟩,
 ⟨some 65, none, .callS 14 [.t 62, .t 63, .t 64]⟩,
 ⟨some 61, none, .mv (.t 65)⟩,
 ⟨some 66, none, .ext (.t 61) 0⟩,
 ⟨some 67, none, .ext (.t 61) 1⟩,
 ⟨some 17, none, .alloc true [.d (.int .i64 0), .d (.str []), .nil 3, .d (.int .i64 0)]⟩,
 ⟨none, none, .st true 4 (.t 17) (.t 66)⟩,
 ⟨some 18, none, .tk 67⟩])
 (.seq (.seq (.ops [] [⟨some 68, none, .mv (.t 18)⟩,
 ⟨some 69, none, .not (.t 68)⟩,
 ⟨some 70, none, .mv (.t 69)⟩,
 ⟨some 71, some (70, false), .fa 3 1 false (.t 17)⟩,
 ⟨some 72, some (70, false), .ld false 1 (.t 71)⟩,
 ⟨some 73, some (70, false), .bin .gtr (.t 72) (.k (.d (.int .i64 10000)))⟩,
 ⟨some 74, none, .pick (.t 70) (.k (.d (.bool true))) (.t 73)⟩])
 (.cond (.t 74) (.seq (.ops [] [⟨some 75, none, .build [.d (.int .i64 0), .d (.str []), .nil 3] []⟩,
 ⟨some 87, none, .rst 87 true 3 (.t 75)⟩,
 ⟨some 9, none, .mv (.k (.d (.bool false)))⟩,
 ⟨some 10, none, .mv (.k (.d (.int .i64 0)))⟩])
 (.ret))
 (.skip)))
 (.seq (.ops [] [⟨some 76, none, .fa 0 3 true (.t 17)⟩,
 ⟨some 77, none, .ld true 3 (.t 76)⟩,
 ⟨some 78, none, .call 15 [.t 77]⟩,
 ⟨some 87, none, .rst 87 true 3 (.t 78)⟩,
 ⟨some 9, none, .mv (.k (.d (.bool true)))⟩,
 ⟨some 10, none, .mv (.k (.d (.int .i64 0)))⟩])
 (.ret)))))))))⟩
theorem c5 : sp 5 = some (.code F5) := by kernel_rfl

/-- tenet/split.sized -/
def F13 : AFunc := ⟨2, [.reg 24],
 .seq (.ops [] [⟨some 1, none, .box true 3 (.t 0)⟩,
 ⟨some 24, none, .ralloc true [.d (.int .i64 0), .d (.str []), .nil 3, .d (.int .i64 0)]⟩])
 (.seq (.ops [] [⟨some 3, none, .mv (.k (.d (.int .i64 1)))⟩])
 (.seq (.seq (.ops [] [⟨some 6, none, .fa 2 1 false (.t 1)⟩,
 ⟨some 7, none, .ld false 1 (.t 6)⟩,
 ⟨some 8, none, .len 1 (.t 7)⟩,
 ⟨some 9, none, .mv (.k (.d (.int .i64 0)))⟩])
 (.block 0 (.loop 22 [1, 3, 7, 8, 9, 24] (.seq (.ops [] [⟨some 10, none, .bin .lss (.t 9) (.t 8)⟩])
 (.seq (.cond (.t 10) (.skip)
 (.exit 0))
 (.seq (.block 1 (.seq (.ops [] [⟨some 11, none, .ia 3 true (.t 7) (.t 9)⟩,
 ⟨some 12, none, .ld true 3 (.t 11)⟩,
 ⟨some 5, none, .alloc true [.d (.int .i64 0), .d (.str []), .nil 3]⟩,
 ⟨none, none, .st true 3 (.t 5) (.t 12)⟩])
 (.ops [] [⟨some 13, none, .mv (.t 3)⟩,
 ⟨some 14, none, .ld true 3 (.t 5)⟩,
 ⟨some 15, none, .call 13 [.t 14]⟩,
 ⟨some 16, none, .fld 3 1 false (.t 15)⟩,
 ⟨some 17, none, .bin .add (.t 13) (.t 16)⟩,
 ⟨some 3, none, .tk 17⟩])))
 (.ops [] [⟨some 18, none, .bin .add (.t 9) (.k (.d (.int .i64 1)))⟩,
 ⟨some 9, none, .mv (.t 18)⟩])))))))
 (.seq (.ops [] [⟨some 19, none, .ld true 3 (.t 1)⟩,
 ⟨some 20, none, .mv (.t 3)⟩,
 ⟨some 21, none, .build [.d (.int .i64 0), .d (.str []), .nil 3, .d (.int .i64 0)] [(0, 3, (.t 19)), (3, 1, (.t 20))]⟩,
 ⟨some 24, none, .rst 24 true 4 (.t 21)⟩])
 (.ret))))⟩
theorem c13 : sp 13 = some (.code F13) := by kernel_rfl

/-- (*tenet/split.runner).call -/
def F14 : AFunc := ⟨6, [.reg 153, .tmp 7],
 .seq (.ops [] [⟨some 153, none, .ralloc true [.d (.int .i64 0), .d (.str []), .nil 3, .d (.int .i64 0)]⟩,
 ⟨some 7, none, .mv (.k (.d (.bool false)))⟩])
 (.seq (.ops [] [⟨some 26, none, .mv (.t 0)⟩,
 ⟨some 27, none, .nilck (.t 26)⟩,
 ⟨some 28, none, .fa 0 2 true (.t 27)⟩,
 ⟨some 29, none, .ld true 2 (.t 28)⟩,
 ⟨some 30, none, .mv (.t 1)⟩,
 ⟨some 31, none, .call 20 [.t 29, .t 30]⟩,
 ⟨some 25, none, .mv (.t 31)⟩,
 ⟨some 32, none, .ext (.t 25) 0⟩,
 ⟨some 33, none, .ext (.t 25) 1⟩,
 ⟨some 8, none, .alloc true [.d (.str []), .nil 1, .d (.str []), .nil 5]⟩,
 ⟨none, none, .st true 4 (.t 8) (.t 32)⟩,
 ⟨some 9, none, .tk 33⟩])
 (.seq (.seq (.ops [] [⟨some 34, none, .mv (.t 0)⟩,
 ⟨some 35, none, .nilck (.t 34)⟩,
 ⟨some 36, none, .fa 2 1 false (.t 35)⟩,
 ⟨some 37, none, .ld false 1 (.t 36)⟩,
 ⟨some 38, none, .bin .eql (.t 37) (.k (.d (.int .i64 0)))⟩])
 (.cond (.t 38) (.seq (.ops [] [⟨some 39, none, .build [.d (.int .i64 0), .d (.str []), .nil 3, .d (.int .i64 0)] []⟩,
 ⟨some 153, none, .rst 153 true 4 (.t 39)⟩,
 ⟨some 7, none, .mv (.k (.d (.bool false)))⟩])
 (.ret))
 (.skip)))
 (.seq (.ops [] [⟨some 40, none, .mv (.t 0)⟩,
 ⟨some 41, none, .nilck (.t 40)⟩,
 ⟨some 42, none, .fa 2 1 false (.t 41)⟩,
 ⟨some 43, none, .ld false 1 (.t 42)⟩,
 ⟨some 44, none, .bin .sub (.t 43) (.k (.d (.int .i64 1)))⟩,
 ⟨some 45, none, .nilck (.t 40)⟩,
 ⟨some 46, none, .fa 2 1 false (.t 45)⟩,
 ⟨none, none, .st false 1 (.t 46) (.t 44)⟩])
 (.seq (.ops [] [⟨some 10, none, .mv (.k (.nil 3))⟩])
 (.seq (.seq (.ops [] [⟨some 47, none, .mv (.t 2)⟩,
 ⟨some 48, none, .len 1 (.t 47)⟩,
 ⟨some 49, none, .mv (.k (.d (.int .i64 0)))⟩])
 (.block 0 (.loop 147 [0, 8, 10, 47, 48, 49, 153] (.seq (.ops [] [⟨some 50, none, .bin .lss (.t 49) (.t 48)⟩])
 (.seq (.cond (.t 50) (.skip)
 (.exit 0))
 (.seq (.block 1 (.seq (.ops [] [⟨some 51, none, .ia 4 true (.t 47) (.t 49)⟩,
 ⟨some 52, none, .ld true 4 (.t 51)⟩,
 ⟨some 12, none, .alloc true [.d (.int .i64 0), .d (.str []), .nil 3, .d (.int .i64 0)]⟩,
 ⟨none, none, .st true 4 (.t 12) (.t 52)⟩])
 (.ops [] [⟨some 53, none, .tk 10⟩,
 ⟨some 54, none, .fa 0 3 true (.t 12)⟩,
 ⟨some 55, none, .ld true 3 (.t 54)⟩,
 ⟨some 56, none, .lit 3 [.t 55]⟩,
 ⟨some 57, none, .app 3 (.t 53) (.t 56)⟩,
 ⟨some 10, none, .tk 57⟩])))
 (.ops [] [⟨some 58, none, .bin .add (.t 49) (.k (.d (.int .i64 1)))⟩,
 ⟨some 49, none, .mv (.t 58)⟩])))))))
 (.seq (.ops [] [⟨some 59, none, .ld true 4 (.t 8)⟩,
 ⟨some 60, none, .mv (.t 10)⟩,
 ⟨some 61, none, .call 22 [.t 59, .t 60]⟩,
 ⟨some 13, none, .tk 61⟩])
 (.seq (.seq (.ops [] [⟨some 62, none, .mv (.t 13)⟩,
 ⟨some 63, none, .bin .lss (.t 62) (.k (.d (.int .i64 0)))⟩,
 ⟨some 64, none, .mv (.t 63)⟩,
 ⟨some 65, some (64, false), .fa 3 1 false (.t 8)⟩,
 ⟨some 66, some (64, false), .ld false 1 (.t 65)⟩,
 ⟨some 67, some (64, false), .mv (.t 13)⟩,
 ⟨some 68, some (64, false), .ia 5 true (.t 66) (.t 67)⟩,
 ⟨some 69, some (64, false), .fa 1 1 false (.t 68)⟩,
 ⟨some 70, some (64, false), .ld false 1 (.t 69)⟩,
 ⟨some 71, none, .pick (.t 64) (.k (.d (.bool true))) (.t 70)⟩])
 (.cond (.t 71) (.seq (.ops [] [⟨some 72, none, .build [.d (.int .i64 0), .d (.str []), .nil 3, .d (.int .i64 0)] []⟩,
 ⟨some 153, none, .rst 153 true 4 (.t 72)⟩,
 ⟨some 7, none, .mv (.k (.d (.bool false)))⟩])
 (.ret))
 (.skip)))
 (.seq (.ops [] [⟨some 74, none, .mv (.t 0)⟩,
 ⟨some 75, none, .nilck (.t 74)⟩,
 ⟨some 76, none, .fa 0 2 true (.t 75)⟩,
 ⟨some 77, none, .ld true 2 (.t 76)⟩,
 ⟨some 78, none, .ld true 4 (.t 8)⟩,
 ⟨some 79, none, .fa 3 1 false (.t 8)⟩,
 ⟨some 80, none, .ld false 1 (.t 79)⟩,
 ⟨some 81, none, .mv (.t 13)⟩,
 ⟨some 82, none, .ia 5 true (.t 80) (.t 81)⟩,
 ⟨some 83, none, .ld true 5 (.t 82)⟩,
 ⟨some 84, none, .call 23 [.t 77, .t 78, .t 83]⟩,
 ⟨some 73, none, .mv (.t 84)⟩,
 ⟨some 85, none, .ext (.t 73) 0⟩,
 ⟨some 86, none, .ext (.t 73) 1⟩,
 ⟨some 14, none, .tk 85⟩,
 ⟨some 15, none, .tk 86⟩])
 (.seq (.ops [] [⟨some 87, none, .mkmap⟩,
 ⟨some 16, none, .tk 87⟩])
 (.seq (.seq (.ops [] [⟨some 88, none, .mv (.t 14)⟩,
 ⟨some 89, none, .nilck (.t 88)⟩,
 ⟨some 90, none, .fa 2 1 false (.t 89)⟩,
 ⟨some 91, none, .ld false 1 (.t 90)⟩,
 ⟨some 92, none, .len 1 (.t 91)⟩,
 ⟨some 93, none, .mv (.k (.d (.int .i64 0)))⟩])
 (.block 2 (.loop 147 [0, 8, 10, 13, 14, 16, 91, 92, 93, 153] (.seq (.ops [] [⟨some 94, none, .bin .lss (.t 93) (.t 92)⟩])
 (.seq (.cond (.t 94) (.skip)
 (.exit 2))
 (.seq (.block 3 (.seq (.ops [] [⟨some 95, none, .ia 3 true (.t 91) (.t 93)⟩,
 ⟨some 96, none, .ld true 3 (.t 95)⟩,
 ⟨some 18, none, .alloc true [.d (.str []), .d (.str []), .nil 1]⟩,
 ⟨none, none, .st true 3 (.t 18) (.t 96)⟩])
 (.seq (.ops [] [⟨some 98, none, .mv (.t 10)⟩,
 ⟨some 99, none, .fa 2 1 false (.t 18)⟩,
 ⟨some 100, none, .ld false 1 (.t 99)⟩,
 ⟨some 101, none, .call 24 [.t 98, .t 100]⟩,
 ⟨some 97, none, .mv (.t 101)⟩,
 ⟨some 102, none, .ext (.t 97) 0⟩,
 ⟨some 103, none, .ext (.t 97) 1⟩,
 ⟨some 19, none, .alloc true [.d (.int .i64 0), .d (.str []), .nil 3]⟩,
 ⟨none, none, .st true 3 (.t 19) (.t 102)⟩,
 ⟨some 20, none, .tk 103⟩])
 (.ops [] [⟨some 104, none, .mv (.t 16)⟩,
 ⟨some 105, none, .fa 0 1 false (.t 18)⟩,
 ⟨some 106, none, .ld false 1 (.t 105)⟩,
 ⟨some 107, none, .ld true 3 (.t 19)⟩,
 ⟨some 108, none, .call 13 [.t 107]⟩,
 ⟨none, none, .mup 1 (.t 104) (.t 106) (.t 108)⟩]))))
 (.ops [] [⟨some 109, none, .bin .add (.t 93) (.k (.d (.int .i64 1)))⟩,
 ⟨some 93, none, .mv (.t 109)⟩])))))))
 (.seq (.seq (.ops [] [⟨some 110, none, .mv (.t 14)⟩,
 ⟨some 111, none, .nilck (.t 110)⟩,
 ⟨some 112, none, .fa 3 1 false (.t 111)⟩,
 ⟨some 113, none, .ld false 1 (.t 112)⟩,
 ⟨some 114, none, .len 1 (.t 113)⟩,
 ⟨some 115, none, .mv (.k (.d (.int .i64 0)))⟩])
 (.block 4 (.loop 147 [0, 8, 10, 13, 16, 113, 114, 115, 153] (.seq (.ops [] [⟨some 116, none, .bin .lss (.t 115) (.t 114)⟩])
 (.seq (.cond (.t 116) (.skip)
 (.exit 4))
 (.seq (.block 5 (.seq (.ops [] [⟨some 117, none, .ia 3 true (.t 113) (.t 115)⟩,
 ⟨some 118, none, .ld true 3 (.t 117)⟩,
 ⟨some 22, none, .alloc true [.d (.str []), .d (.str []), .nil 1]⟩,
 ⟨none, none, .st true 3 (.t 22) (.t 118)⟩])
 (.seq (.ops [] [⟨some 120, none, .mv (.t 10)⟩,
 ⟨some 121, none, .fa 2 1 false (.t 22)⟩,
 ⟨some 122, none, .ld false 1 (.t 121)⟩,
 ⟨some 123, none, .call 24 [.t 120, .t 122]⟩,
 ⟨some 119, none, .mv (.t 123)⟩,
 ⟨some 124, none, .ext (.t 119) 0⟩,
 ⟨some 125, none, .ext (.t 119) 1⟩,
 ⟨some 23, none, .alloc true [.d (.int .i64 0), .d (.str []), .nil 3]⟩,
 ⟨none, none, .st true 3 (.t 23) (.t 124)⟩,
 ⟨some 24, none, .tk 125⟩])
 (.seq (.ops [] [⟨some 126, none, .ld true 3 (.t 23)⟩,
 ⟨some 127, none, .mv (.t 16)⟩,
 ⟨some 128, none, .fa 0 1 false (.t 22)⟩,
 ⟨some 129, none, .ld false 1 (.t 128)⟩,
 ⟨some 130, none, .look 1 false (.agg [.int .i64 0, .str [], .list 3 [], .int .i64 0]) (.t 127) (.t 129)⟩,
 ⟨some 131, none, .fld 0 3 true (.t 130)⟩,
 ⟨some 132, none, .call 25 [.t 126, .t 131]⟩,
 ⟨some 133, none, .not (.t 132)⟩])
 (.cond (.t 133) (.seq (.ops [] [⟨some 134, none, .build [.d (.int .i64 0), .d (.str []), .nil 3, .d (.int .i64 0)] []⟩,
 ⟨some 153, none, .rst 153 true 4 (.t 134)⟩,
 ⟨some 7, none, .mv (.k (.d (.bool false)))⟩])
 (.ret))
 (.skip))))))
 (.ops [] [⟨some 135, none, .bin .add (.t 115) (.k (.d (.int .i64 1)))⟩,
 ⟨some 115, none, .mv (.t 135)⟩])))))))
 (.seq (.ops [] [⟨some 136, none, .tk 0⟩,
 ⟨some 137, none, .fa 3 1 false (.t 8)⟩,
 ⟨some 138, none, .ld false 1 (.t 137)⟩,
 ⟨some 139, none, .mv (.t 13)⟩,
 ⟨some 140, none, .ia 5 true (.t 138) (.t 139)⟩,
 ⟨some 141, none, .fa 2 3 true (.t 140)⟩,
 ⟨some 142, none, .ld true 3 (.t 141)⟩,
 ⟨some 143, none, .tk 16⟩,
 ⟨some 144, none, .callS 26 [.t 136, .t 142, .t 143]⟩,
 ⟨some 145, none, .ext (.t 144) 0⟩,
 ⟨some 146, none, .ext (.t 144) 1⟩,
 ⟨some 153, none, .rst 153 true 4 (.t 145)⟩,
 ⟨some 7, none, .tk 146⟩])
 (.ret)))))))))))))⟩
theorem c14 : sp 14 = some (.code F14) := by kernel_rfl

/-- (*tenet/split.runner).eval -/
def F26 : AFunc := ⟨6, [.reg 91, .tmp 7],
 .seq (.ops [] [⟨some 4, none, .box true 3 (.t 1)⟩,
 ⟨some 91, none, .ralloc true [.d (.int .i64 0), .d (.str []), .nil 3, .d (.int .i64 0)]⟩,
 ⟨some 7, none, .mv (.k (.d (.bool false)))⟩])
 (.seq (.seq (.ops [] [⟨some 16, none, .fa 0 1 false (.t 4)⟩,
 ⟨some 17, none, .ld false 1 (.t 16)⟩,
 ⟨some 18, none, .bin .eql (.t 17) (.k (.d (.int .i64 1)))⟩])
 (.cond (.t 18) (.seq (.ops [] [⟨some 19, none, .mv (.t 2)⟩,
 ⟨some 20, none, .fa 1 1 false (.t 4)⟩,
 ⟨some 21, none, .ld false 1 (.t 20)⟩,
 ⟨some 22, none, .look 1 false (.agg [.int .i64 0, .str [], .list 3 [], .int .i64 0]) (.t 19) (.t 21)⟩,
 ⟨some 91, none, .rst 91 true 4 (.t 22)⟩,
 ⟨some 7, none, .mv (.k (.d (.bool true)))⟩])
 (.ret))
 (.skip)))
 (.seq (.ops [] [⟨some 8, none, .mv (.k (.nil 4))⟩])
 (.seq (.seq (.ops [] [⟨some 23, none, .fa 2 1 false (.t 4)⟩,
 ⟨some 24, none, .ld false 1 (.t 23)⟩,
 ⟨some 25, none, .len 1 (.t 24)⟩,
 ⟨some 26, none, .mv (.k (.d (.int .i64 0)))⟩])
 (.block 0 (.loop 85 [0, 2, 4, 8, 24, 25, 26, 91] (.seq (.ops [] [⟨some 27, none, .bin .lss (.t 26) (.t 25)⟩])
 (.seq (.cond (.t 27) (.skip)
 (.exit 0))
 (.seq (.block 1 (.seq (.ops [] [⟨some 28, none, .ia 3 true (.t 24) (.t 26)⟩,
 ⟨some 29, none, .ld true 3 (.t 28)⟩,
 ⟨some 10, none, .alloc true [.d (.int .i64 0), .d (.str []), .nil 3]⟩,
 ⟨none, none, .st true 3 (.t 10) (.t 29)⟩])
 (.seq (.ops [] [⟨some 31, none, .tk 0⟩,
 ⟨some 32, none, .ld true 3 (.t 10)⟩,
 ⟨some 33, none, .tk 2⟩,
 ⟨some 34, none, .callS 26 [.t 31, .t 32, .t 33]⟩,
 ⟨some 30, none, .mv (.t 34)⟩,
 ⟨some 35, none, .ext (.t 30) 0⟩,
 ⟨some 36, none, .ext (.t 30) 1⟩,
 ⟨some 11, none, .alloc true [.d (.int .i64 0), .d (.str []), .nil 3, .d (.int .i64 0)]⟩,
 ⟨none, none, .st true 4 (.t 11) (.t 35)⟩,
 ⟨some 12, none, .tk 36⟩])
 (.seq (.seq (.ops [] [⟨some 37, none, .mv (.t 12)⟩,
 ⟨some 38, none, .not (.t 37)⟩])
 (.cond (.t 38) (.seq (.ops [] [⟨some 39, none, .build [.d (.int .i64 0), .d (.str []), .nil 3, .d (.int .i64 0)] []⟩,
 ⟨some 91, none, .rst 91 true 4 (.t 39)⟩,
 ⟨some 7, none, .mv (.k (.d (.bool false)))⟩])
 (.ret))
 (.skip)))
 (.ops [] [⟨some 40, none, .tk 8⟩,
 ⟨some 41, none, .ld true 4 (.t 11)⟩,
 ⟨some 42, none, .lit 4 [.t 41]⟩,
 ⟨some 43, none, .app 4 (.t 40) (.t 42)⟩,
 ⟨some 8, none, .tk 43⟩])))))
 (.ops [] [⟨some 44, none, .bin .add (.t 26) (.k (.d (.int .i64 1)))⟩,
 ⟨some 26, none, .mv (.t 44)⟩])))))))
 (.seq (.seq (.ops [] [⟨some 45, none, .fa 0 1 false (.t 4)⟩,
 ⟨some 46, none, .ld false 1 (.t 45)⟩,
 ⟨some 47, none, .bin .eql (.t 46) (.k (.d (.int .i64 3)))⟩])
 (.cond (.t 47) (.seq (.ops [] [⟨some 48, none, .tk 0⟩,
 ⟨some 49, none, .fa 1 1 false (.t 4)⟩,
 ⟨some 50, none, .ld false 1 (.t 49)⟩,
 ⟨some 51, none, .tk 8⟩,
 ⟨some 52, none, .callS 14 [.t 48, .t 50, .t 51]⟩,
 ⟨some 53, none, .ext (.t 52) 0⟩,
 ⟨some 54, none, .ext (.t 52) 1⟩,
 ⟨some 91, none, .rst 91 true 4 (.t 53)⟩,
 ⟨some 7, none, .tk 54⟩])
 (.ret))
 (.skip)))
 (.seq (.ops [] [⟨some 55, none, .fa 1 1 false (.t 4)⟩,
 ⟨some 56, none, .ld false 1 (.t 55)⟩,
 ⟨some 57, none, .build [.d (.int .i64 0), .d (.str []), .nil 3] [(0, 1, (.k (.d (.int .i64 2)))), (1, 1, (.t 56))]⟩,
 ⟨some 58, none, .build [.d (.int .i64 0), .d (.str []), .nil 3, .d (.int .i64 0)] [(0, 3, (.t 57)), (3, 1, (.k (.d (.int .i64 1))))]⟩,
 ⟨some 13, none, .alloc true [.d (.int .i64 0), .d (.str []), .nil 3, .d (.int .i64 0)]⟩,
 ⟨none, none, .st true 4 (.t 13) (.t 58)⟩])
 (.seq (.seq (.ops [] [⟨some 59, none, .mv (.t 8)⟩,
 ⟨some 60, none, .len 1 (.t 59)⟩,
 ⟨some 61, none, .mv (.k (.d (.int .i64 0)))⟩])
 (.block 2 (.loop 85 [13, 59, 60, 61, 91] (.seq (.ops [] [⟨some 62, none, .bin .lss (.t 61) (.t 60)⟩])
 (.seq (.cond (.t 62) (.skip)
 (.exit 2))
 (.seq (.block 3 (.seq (.ops [] [⟨some 63, none, .ia 4 true (.t 59) (.t 61)⟩,
 ⟨some 64, none, .ld true 4 (.t 63)⟩,
 ⟨some 15, none, .alloc true [.d (.int .i64 0), .d (.str []), .nil 3, .d (.int .i64 0)]⟩,
 ⟨none, none, .st true 4 (.t 15) (.t 64)⟩])
 (.seq (.ops [] [⟨some 65, none, .fa 0 3 true (.t 13)⟩,
 ⟨some 66, none, .fa 2 1 false (.t 65)⟩,
 ⟨some 67, none, .ldT (.t 66)⟩,
 ⟨some 68, none, .fa 0 3 true (.t 15)⟩,
 ⟨some 69, none, .ld true 3 (.t 68)⟩,
 ⟨some 70, none, .lit 3 [.t 69]⟩,
 ⟨some 71, none, .app 3 (.t 67) (.t 70)⟩,
 ⟨some 72, none, .fa 0 3 true (.t 13)⟩,
 ⟨some 73, none, .fa 2 1 false (.t 72)⟩,
 ⟨none, none, .st false 1 (.t 73) (.t 71)⟩])
 (.ops [] [⟨some 74, none, .fa 3 1 false (.t 13)⟩,
 ⟨some 75, none, .ld false 1 (.t 74)⟩,
 ⟨some 76, none, .fa 3 1 false (.t 15)⟩,
 ⟨some 77, none, .ld false 1 (.t 76)⟩,
 ⟨some 78, none, .bin .add (.t 75) (.t 77)⟩,
 ⟨some 79, none, .fa 3 1 false (.t 13)⟩,
 ⟨none, none, .st false 1 (.t 79) (.t 78)⟩]))))
 (.ops [] [⟨some 80, none, .bin .add (.t 61) (.k (.d (.int .i64 1)))⟩,
 ⟨some 61, none, .mv (.t 80)⟩])))))))
 (.seq (.ops [] [⟨some 81, none, .ld true 4 (.t 13)⟩,
 ⟨some 82, none, .fa 3 1 false (.t 13)⟩,
 ⟨some 83, none, .ld false 1 (.t 82)⟩,
 ⟨some 84, none, .bin .leq (.t 83) (.k (.d (.int .i64 10000)))⟩,
 ⟨some 91, none, .rst 91 true 4 (.t 81)⟩,
 ⟨some 7, none, .tk 84⟩])
 (.ret))))))))⟩
theorem c26 : sp 26 = some (.code F26) := by kernel_rfl

/-- tenet/split.at -/
def F24 : AFunc := ⟨4, [.reg 39, .tmp 5],
 .seq (.ops [] [⟨some 39, none, .ralloc true [.d (.int .i64 0), .d (.str []), .nil 3]⟩,
 ⟨some 5, none, .mv (.k (.d (.bool false)))⟩])
 (.seq (.ops [] [⟨some 6, none, .alloc true [.d (.int .i64 0), .d (.str []), .nil 3]⟩])
 (.seq (.seq (.ops [] [⟨some 9, none, .mv (.t 1)⟩,
 ⟨some 10, none, .len 1 (.t 9)⟩,
 ⟨some 11, none, .mv (.k (.d (.int .i64 0)))⟩])
 (.block 0 (.loop 35 [0, 1, 6, 9, 10, 11, 39] (.seq (.ops [] [⟨some 12, none, .bin .lss (.t 11) (.t 10)⟩])
 (.seq (.cond (.t 12) (.skip)
 (.exit 0))
 (.seq (.block 1 (.seq (.ops [] [⟨some 13, none, .ia 1 false (.t 9) (.t 11)⟩,
 ⟨some 14, none, .ld false 1 (.t 13)⟩,
 ⟨some 8, none, .tk 14⟩])
 (.seq (.seq (.ops [] [⟨some 15, none, .mv (.t 8)⟩,
 ⟨some 16, none, .bin .lss (.t 15) (.k (.d (.int .i64 0)))⟩,
 ⟨some 17, none, .mv (.t 16)⟩,
 ⟨some 18, some (17, false), .mv (.t 8)⟩,
 ⟨some 19, some (17, false), .mv (.t 0)⟩,
 ⟨some 20, some (17, false), .len 1 (.t 19)⟩,
 ⟨some 21, some (17, false), .bin .geq (.t 18) (.t 20)⟩,
 ⟨some 22, none, .pick (.t 17) (.k (.d (.bool true))) (.t 21)⟩])
 (.cond (.t 22) (.seq (.ops [] [⟨some 23, none, .build [.d (.int .i64 0), .d (.str []), .nil 3] []⟩,
 ⟨some 39, none, .rst 39 true 3 (.t 23)⟩,
 ⟨some 5, none, .mv (.k (.d (.bool false)))⟩])
 (.ret))
 (.skip)))
 (.seq (.ops [] [⟨some 24, none, .mv (.t 0)⟩,
 ⟨some 25, none, .mv (.t 8)⟩,
 ⟨some 26, none, .ia 3 true (.t 24) (.t 25)⟩,
 ⟨some 27, none, .ld true 3 (.t 26)⟩,
 ⟨none, none, .st true 3 (.t 6) (.t 27)⟩])
 (.ops [] [⟨some 28, none, .fa 2 1 false (.t 6)⟩,
 ⟨some 29, none, .ld false 1 (.t 28)⟩,
 ⟨some 0, none, .tk 29⟩])))))
 (.ops [] [⟨some 30, none, .bin .add (.t 11) (.k (.d (.int .i64 1)))⟩,
 ⟨some 11, none, .mv (.t 30)⟩])))))))
 (.seq (.ops [] [⟨some 31, none, .ld true 3 (.t 6)⟩,
 ⟨some 32, none, .mv (.t 1)⟩,
 ⟨some 33, none, .len 1 (.t 32)⟩,
 ⟨some 34, none, .bin .gtr (.t 33) (.k (.d (.int .i64 0)))⟩,
 ⟨some 39, none, .rst 39 true 3 (.t 31)⟩,
 ⟨some 5, none, .tk 34⟩])
 (.ret))))⟩
theorem c24 : sp 24 = some (.code F24) := by kernel_rfl

/-- tenet/split.same -/
def F25 : AFunc := ⟨24, [.tmp 4],
 .seq (.ops [] [⟨some 2, none, .box true 3 (.t 0)⟩,
 ⟨some 3, none, .box true 3 (.t 1)⟩,
 ⟨some 4, none, .mv (.k (.d (.bool false)))⟩])
 (.seq (.ops [] [⟨some 5, none, .fa 0 1 false (.t 2)⟩,
 ⟨some 6, none, .ld false 1 (.t 5)⟩,
 ⟨some 7, none, .fa 0 1 false (.t 3)⟩,
 ⟨some 8, none, .ld false 1 (.t 7)⟩,
 ⟨some 9, none, .bin .eql (.t 6) (.t 8)⟩,
 ⟨some 10, none, .mv (.t 9)⟩,
 ⟨some 11, some (10, true), .fa 1 1 false (.t 2)⟩,
 ⟨some 12, some (10, true), .ld false 1 (.t 11)⟩,
 ⟨some 13, some (10, true), .fa 1 1 false (.t 3)⟩,
 ⟨some 14, some (10, true), .ld false 1 (.t 13)⟩,
 ⟨some 15, some (10, true), .bin .eql (.t 12) (.t 14)⟩,
 ⟨some 16, none, .pick (.t 10) (.t 15) (.k (.d (.bool false)))⟩,
 ⟨some 17, none, .mv (.t 16)⟩,
 ⟨some 18, some (17, true), .fa 2 1 false (.t 2)⟩,
 ⟨some 19, some (17, true), .ld false 1 (.t 18)⟩,
 ⟨some 20, some (17, true), .fa 2 1 false (.t 3)⟩,
 ⟨some 21, some (17, true), .ld false 1 (.t 20)⟩,
 ⟨some 22, some (17, true), .call 47 [.t 19, .t 21, .k (.d (.func 25 []))]⟩,
 ⟨some 23, none, .pick (.t 17) (.t 22) (.k (.d (.bool false)))⟩,
 ⟨some 4, none, .tk 23⟩])
 (.ret))⟩
theorem c25 : sp 25 = some (.code F25) := by kernel_rfl

/-- tenet/tenetref15.EqExpr -/
def F6 : AFunc := ⟨46, [.tmp 4],
 .seq (.ops [] [⟨some 2, none, .box true 3 (.t 0)⟩,
 ⟨some 3, none, .box true 3 (.t 1)⟩,
 ⟨some 4, none, .mv (.k (.d (.bool false)))⟩])
 (.seq (.seq (.ops [] [⟨some 6, none, .fa 0 1 false (.t 2)⟩,
 ⟨some 7, none, .ld false 1 (.t 6)⟩,
 ⟨some 8, none, .fa 0 1 false (.t 3)⟩,
 ⟨some 9, none, .ld false 1 (.t 8)⟩,
 ⟨some 10, none, .bin .neq (.t 7) (.t 9)⟩,
 ⟨some 11, none, .mv (.t 10)⟩,
 ⟨some 12, some (11, false), .fa 1 1 false (.t 2)⟩,
 ⟨some 13, some (11, false), .ld false 1 (.t 12)⟩,
 ⟨some 14, some (11, false), .fa 1 1 false (.t 3)⟩,
 ⟨some 15, some (11, false), .ld false 1 (.t 14)⟩,
 ⟨some 16, some (11, false), .bin .neq (.t 13) (.t 15)⟩,
 ⟨some 17, none, .pick (.t 11) (.k (.d (.bool true))) (.t 16)⟩,
 ⟨some 18, none, .mv (.t 17)⟩,
 ⟨some 19, some (18, false), .fa 2 1 false (.t 2)⟩,
 ⟨some 20, some (18, false), .ld false 1 (.t 19)⟩,
 ⟨some 21, some (18, false), .len 1 (.t 20)⟩,
 ⟨some 22, some (18, false), .fa 2 1 false (.t 3)⟩,
 ⟨some 23, some (18, false), .ld false 1 (.t 22)⟩,
 ⟨some 24, some (18, false), .len 1 (.t 23)⟩,
 ⟨some 25, some (18, false), .bin .neq (.t 21) (.t 24)⟩,
 ⟨some 26, none, .pick (.t 18) (.k (.d (.bool true))) (.t 25)⟩])
 (.cond (.t 26) (.seq (.ops [] [⟨some 4, none, .mv (.k (.d (.bool false)))⟩])
 (.ret))
 (.skip)))
 (.seq (.seq (.ops [] [⟨some 5, none, .mv (.k (.d (.int .i64 0)))⟩])
 (.block 0 (.loop 46 [2, 3, 5] (.seq (.seq (.ops [] [⟨some 27, none, .mv (.t 5)⟩,
 ⟨some 28, none, .fa 2 1 false (.t 2)⟩,
 ⟨some 29, none, .ld false 1 (.t 28)⟩,
 ⟨some 30, none, .len 1 (.t 29)⟩,
 ⟨some 31, none, .bin .lss (.t 27) (.t 30)⟩])
 (.cond (.t 31) (.skip)
 (.exit 0)))
 (.seq (.block 1 (.seq (.ops [] [⟨some 34, none, .fa 2 1 false (.t 2)⟩,
 ⟨some 35, none, .ld false 1 (.t 34)⟩,
 ⟨some 36, none, .mv (.t 5)⟩,
 ⟨some 37, none, .ia 3 true (.t 35) (.t 36)⟩,
 ⟨some 38, none, .ld true 3 (.t 37)⟩,
 ⟨some 39, none, .fa 2 1 false (.t 3)⟩,
 ⟨some 40, none, .ld false 1 (.t 39)⟩,
 ⟨some 41, none, .mv (.t 5)⟩,
 ⟨some 42, none, .ia 3 true (.t 40) (.t 41)⟩,
 ⟨some 43, none, .ld true 3 (.t 42)⟩,
 ⟨some 44, none, .call 6 [.t 38, .t 43]⟩,
 ⟨some 45, none, .not (.t 44)⟩])
 (.cond (.t 45) (.seq (.ops [] [⟨some 4, none, .mv (.k (.d (.bool false)))⟩])
 (.ret))
 (.skip))))
 (.ops [] [⟨some 32, none, .mv (.t 5)⟩,
 ⟨some 33, none, .bin .add (.t 32) (.k (.d (.int .i64 1)))⟩,
 ⟨some 5, none, .tk 33⟩]))))))
 (.seq (.ops [] [⟨some 4, none, .mv (.k (.d (.bool true)))⟩])
 (.ret))))⟩
theorem c6 : sp 6 = some (.code F6) := by kernel_rfl

/-- slices.IndexFunc[[]tenet/api.Clause,tenet/api.Clause] -/
def F40 : AFunc := ⟨19, [.tmp 4],
 .seq (.ops [] [⟨some 4, none, .mv (.k (.d (.int .i64 0)))⟩])
 (.seq (.seq (.ops [] [⟨some 6, none, .mv (.t 0)⟩,
 ⟨some 7, none, .len 1 (.t 6)⟩,
 ⟨some 8, none, .mv (.k (.d (.int .i64 0)))⟩])
 (.block 0 (.loop 19 [0, 1, 7, 8] (.seq (.ops [] [⟨some 9, none, .bin .lss (.t 8) (.t 7)⟩])
 (.seq (.cond (.t 9) (.skip)
 (.exit 0))
 (.seq (.block 1 (.seq (.ops [] [⟨some 10, none, .tk 8⟩,
 ⟨some 5, none, .tk 10⟩])
 (.seq (.ops [] [⟨some 11, none, .mv (.t 1)⟩,
 ⟨some 12, none, .mv (.t 0)⟩,
 ⟨some 13, none, .mv (.t 5)⟩,
 ⟨some 14, none, .ia 5 true (.t 12) (.t 13)⟩,
 ⟨some 15, none, .ld true 5 (.t 14)⟩,
 ⟨some 16, none, .callV (.t 11) [.t 15]⟩])
 (.cond (.t 16) (.seq (.ops [] [⟨some 17, none, .tk 5⟩,
 ⟨some 4, none, .tk 17⟩])
 (.ret))
 (.skip)))))
 (.ops [] [⟨some 18, none, .bin .add (.t 8) (.k (.d (.int .i64 1)))⟩,
 ⟨some 8, none, .mv (.t 18)⟩])))))))
 (.seq (.ops [] [⟨some 4, none, .mv (.k (.d (.int .i64 (-1))))⟩])
 (.ret)))⟩
theorem c40 : sp 40 = some (.code F40) := by kernel_rfl

/-- slices.EqualFunc[[]tenet/api.Expr,[]tenet/api.Expr,tenet/api.Expr,tenet/api.Expr] -/
def F47 : AFunc := ⟨32, [.tmp 6],
 .seq (.ops [] [⟨some 6, none, .mv (.k (.d (.bool false)))⟩])
 (.seq (.seq (.ops [] [⟨some 10, none, .mv (.t 0)⟩,
 ⟨some 11, none, .len 1 (.t 10)⟩,
 ⟨some 12, none, .mv (.t 1)⟩,
 ⟨some 13, none, .len 1 (.t 12)⟩,
 ⟨some 14, none, .bin .neq (.t 11) (.t 13)⟩])
 (.cond (.t 14) (.seq (.ops [] [⟨some 6, none, .mv (.k (.d (.bool false)))⟩])
 (.ret))
 (.skip)))
 (.seq (.seq (.ops [] [⟨some 15, none, .mv (.t 0)⟩,
 ⟨some 16, none, .len 1 (.t 15)⟩,
 ⟨some 17, none, .mv (.k (.d (.int .i64 0)))⟩])
 (.block 0 (.loop 32 [1, 2, 15, 16, 17] (.seq (.ops [] [⟨some 18, none, .bin .lss (.t 17) (.t 16)⟩])
 (.seq (.cond (.t 18) (.skip)
 (.exit 0))
 (.seq (.block 1 (.seq (.ops [] [⟨some 19, none, .tk 17⟩,
 ⟨some 20, none, .ia 3 true (.t 15) (.t 17)⟩,
 ⟨some 21, none, .ld true 3 (.t 20)⟩,
 ⟨some 8, none, .alloc true [.d (.int .i64 0), .d (.str []), .nil 3]⟩,
 ⟨some 7, none, .tk 19⟩,
 ⟨none, none, .st true 3 (.t 8) (.t 21)⟩])
 (.seq (.ops [] [⟨some 22, none, .mv (.t 1)⟩,
 ⟨some 23, none, .mv (.t 7)⟩,
 ⟨some 24, none, .ia 3 true (.t 22) (.t 23)⟩,
 ⟨some 25, none, .ld true 3 (.t 24)⟩,
 ⟨some 9, none, .alloc true [.d (.int .i64 0), .d (.str []), .nil 3]⟩,
 ⟨none, none, .st true 3 (.t 9) (.t 25)⟩])
 (.seq (.ops [] [⟨some 26, none, .mv (.t 2)⟩,
 ⟨some 27, none, .ld true 3 (.t 8)⟩,
 ⟨some 28, none, .ld true 3 (.t 9)⟩,
 ⟨some 29, none, .callV (.t 26) [.t 27, .t 28]⟩,
 ⟨some 30, none, .not (.t 29)⟩])
 (.cond (.t 30) (.seq (.ops [] [⟨some 6, none, .mv (.k (.d (.bool false)))⟩])
 (.ret))
 (.skip))))))
 (.ops [] [⟨some 31, none, .bin .add (.t 17) (.k (.d (.int .i64 1)))⟩,
 ⟨some 17, none, .mv (.t 31)⟩])))))))
 (.seq (.ops [] [⟨some 6, none, .mv (.k (.d (.bool true)))⟩])
 (.ret))))⟩
theorem c47 : sp 47 = some (.code F47) := by kernel_rfl

end Go.Sp

/-! The program's functions as abstract code. -/
namespace Go.Sp
open Go.Abs Go.Proofs
set_option maxRecDepth 20000

/-- tenet/tenetlaw15.SplitMore -/
def F3 : AFunc := ⟨178, [.tmp 6],
 .seq (.ops [] [⟨some 3, none, .box true 4 (.t 0)⟩,
 ⟨some 6, none, .mv (.k (.d (.bool false)))⟩])
 (.seq (.seq (.ops [] [⟨some 21, none, .ld true 4 (.t 3)⟩,
 ⟨some 22, none, .call 4 [.t 21]⟩,
 ⟨some 23, none, .mv (.t 22)⟩,
 ⟨some 24, some (23, false), .mv (.t 1)⟩,
 ⟨some 25, some (23, false), .bin .gtr (.t 24) (.k (.d (.int .u16 300)))⟩,
 ⟨some 26, none, .pick (.t 23) (.k (.d (.bool true))) (.t 25)⟩])
 (.cond (.t 26) (.seq (.ops [] [⟨some 6, none, .mv (.k (.d (.bool true)))⟩])
 (.ret))
 (.skip)))
 (.seq (.ops [] [⟨some 28, none, .fa 0 2 true (.t 3)⟩,
 ⟨some 29, none, .ld true 2 (.t 28)⟩,
 ⟨some 30, none, .fa 2 1 false (.t 3)⟩,
 ⟨some 31, none, .ld false 1 (.t 30)⟩,
 ⟨some 32, none, .fa 3 1 false (.t 3)⟩,
 ⟨some 33, none, .ld false 1 (.t 32)⟩,
 ⟨some 34, none, .mv (.t 1)⟩,
 ⟨some 35, none, .conv .i64 (.t 34)⟩,
 ⟨some 36, none, .call 5 [.t 29, .t 31, .t 33, .t 35]⟩,
 ⟨some 27, none, .mv (.t 36)⟩,
 ⟨some 37, none, .ext (.t 27) 0⟩,
 ⟨some 38, none, .ext (.t 27) 1⟩,
 ⟨some 39, none, .ext (.t 27) 2⟩,
 ⟨some 7, none, .alloc true [.d (.int .i64 0), .d (.str []), .nil 3]⟩,
 ⟨none, none, .st true 3 (.t 7) (.t 37)⟩,
 ⟨some 8, none, .tk 38⟩,
 ⟨some 9, none, .tk 39⟩])
 (.seq (.ops [] [⟨some 41, none, .fa 0 2 true (.t 3)⟩,
 ⟨some 42, none, .ld true 2 (.t 41)⟩,
 ⟨some 43, none, .fa 2 1 false (.t 3)⟩,
 ⟨some 44, none, .ld false 1 (.t 43)⟩,
 ⟨some 45, none, .fa 3 1 false (.t 3)⟩,
 ⟨some 46, none, .ld false 1 (.t 45)⟩,
 ⟨some 47, none, .mv (.t 1)⟩,
 ⟨some 48, none, .conv .i64 (.t 47)⟩,
 ⟨some 49, none, .mv (.t 2)⟩,
 ⟨some 50, none, .conv .i64 (.t 49)⟩,
 ⟨some 51, none, .bin .add (.t 48) (.t 50)⟩,
 ⟨some 52, none, .call 5 [.t 42, .t 44, .t 46, .t 51]⟩,
 ⟨some 40, none, .mv (.t 52)⟩,
 ⟨some 53, none, .ext (.t 40) 0⟩,
 ⟨some 54, none, .ext (.t 40) 1⟩,
 ⟨some 55, none, .ext (.t 40) 2⟩,
 ⟨some 10, none, .alloc true [.d (.int .i64 0), .d (.str []), .nil 3]⟩,
 ⟨none, none, .st true 3 (.t 10) (.t 53)⟩,
 ⟨some 11, none, .tk 54⟩,
 ⟨some 12, none, .tk 55⟩])
 (.seq (.seq (.ops [] [⟨some 56, none, .mv (.t 9)⟩,
 ⟨some 57, none, .mv (.t 12)⟩,
 ⟨some 58, none, .bin .neq (.t 56) (.t 57)⟩,
 ⟨some 59, none, .mv (.t 58)⟩,
 ⟨some 60, some (59, false), .mv (.t 8)⟩,
 ⟨some 61, some (59, false), .mv (.t 60)⟩,
 ⟨some 62, some (61, true), .mv (.t 11)⟩,
 ⟨some 63, some (61, true), .not (.t 62)⟩,
 ⟨some 64, some (61, true), .mv (.t 63)⟩,
 ⟨some 65, some (64, false), .ld true 3 (.t 7)⟩,
 ⟨some 66, some (64, false), .ld true 3 (.t 10)⟩,
 ⟨some 67, some (64, false), .call 6 [.t 65, .t 66]⟩,
 ⟨some 68, some (64, false), .not (.t 67)⟩,
 ⟨some 69, some (61, true), .pick (.t 64) (.k (.d (.bool true))) (.t 68)⟩,
 ⟨some 70, some (59, false), .pick (.t 61) (.t 69) (.k (.d (.bool false)))⟩,
 ⟨some 71, none, .pick (.t 59) (.k (.d (.bool true))) (.t 70)⟩])
 (.cond (.t 71) (.seq (.ops [] [⟨some 6, none, .mv (.k (.d (.bool false)))⟩])
 (.ret))
 (.skip)))
 (.seq (.ops [] [⟨some 73, none, .fa 0 2 true (.t 3)⟩,
 ⟨some 74, none, .ld true 2 (.t 73)⟩,
 ⟨some 75, none, .fa 2 1 false (.t 3)⟩,
 ⟨some 76, none, .ld false 1 (.t 75)⟩,
 ⟨some 77, none, .call 7 [.t 74, .t 76]⟩,
 ⟨some 72, none, .mv (.t 77)⟩,
 ⟨some 78, none, .ext (.t 72) 0⟩,
 ⟨some 79, none, .ext (.t 72) 1⟩,
 ⟨some 13, none, .tk 78⟩,
 ⟨some 14, none, .tk 79⟩])
 (.seq (.seq (.ops [] [⟨some 80, none, .mv (.t 9)⟩,
 ⟨some 81, none, .bin .neq (.t 80) (.k (.d (.int .i64 0)))⟩,
 ⟨some 82, none, .mv (.t 81)⟩,
 ⟨some 83, some (82, false), .mv (.t 14)⟩,
 ⟨some 84, some (82, false), .bin .neq (.t 83) (.k (.d (.int .i64 0)))⟩,
 ⟨some 85, none, .pick (.t 82) (.k (.d (.bool true))) (.t 84)⟩,
 ⟨some 86, none, .mv (.t 85)⟩,
 ⟨some 87, some (86, false), .mv (.t 13)⟩,
 ⟨some 88, some (86, false), .len 1 (.t 87)⟩,
 ⟨some 89, some (86, false), .bin .eql (.t 88) (.k (.d (.int .i64 0)))⟩,
 ⟨some 90, none, .pick (.t 86) (.k (.d (.bool true))) (.t 89)⟩])
 (.cond (.t 90) (.seq (.ops [] [⟨some 91, none, .call 8 []⟩,
 ⟨some 6, none, .tk 91⟩])
 (.ret))
 (.skip)))
 (.seq (.ops [] [⟨some 92, none, .fa 0 2 true (.t 3)⟩,
 ⟨some 93, none, .ld true 2 (.t 92)⟩,
 ⟨some 15, none, .alloc true [.nil 2, .nil 4]⟩,
 ⟨none, none, .st true 2 (.t 15) (.t 93)⟩])
 (.seq (.ops [] [⟨some 94, none, .fa 1 1 false (.t 15)⟩,
 ⟨none, none, .st false 1 (.t 94) (.k (.nil 4))⟩])
 (.seq (.seq (.ops [] [⟨some 16, none, .mv (.k (.d (.int .i64 0)))⟩])
 (.block 0 (.loop 178 [1, 3, 7, 8, 9, 13, 15, 16] (.seq (.seq (.ops [] [⟨some 95, none, .mv (.t 16)⟩,
 ⟨some 96, none, .fa 0 2 true (.t 3)⟩,
 ⟨some 97, none, .fa 1 1 false (.t 96)⟩,
 ⟨some 98, none, .ld false 1 (.t 97)⟩,
 ⟨some 99, none, .len 1 (.t 98)⟩,
 ⟨some 100, none, .bin .lss (.t 95) (.t 99)⟩])
 (.cond (.t 100) (.skip)
 (.exit 0)))
 (.seq (.block 1 (.seq (.ops [] [⟨some 103, none, .fa 0 2 true (.t 3)⟩,
 ⟨some 104, none, .fa 1 1 false (.t 103)⟩,
 ⟨some 105, none, .ld false 1 (.t 104)⟩,
 ⟨some 106, none, .mv (.t 16)⟩,
 ⟨some 107, none, .ia 4 true (.t 105) (.t 106)⟩,
 ⟨some 108, none, .ld true 4 (.t 107)⟩,
 ⟨some 17, none, .alloc true [.d (.str []), .nil 1, .d (.str []), .nil 5]⟩,
 ⟨none, none, .st true 4 (.t 17) (.t 108)⟩])
 (.seq (.seq (.ops [] [⟨some 109, none, .fa 0 1 false (.t 17)⟩,
 ⟨some 110, none, .ld false 1 (.t 109)⟩,
 ⟨some 111, none, .fa 2 1 false (.t 3)⟩,
 ⟨some 112, none, .ld false 1 (.t 111)⟩,
 ⟨some 113, none, .bin .eql (.t 110) (.t 112)⟩])
 (.cond (.t 113) (.seq (.seq (.ops [] [⟨some 114, none, .mv (.t 13)⟩,
 ⟨some 115, none, .ia 1 false (.t 114) (.k (.d (.int .i64 0)))⟩,
 ⟨some 116, none, .ld false 1 (.t 115)⟩,
 ⟨some 117, none, .bin .lss (.t 116) (.k (.d (.int .i64 0)))⟩,
 ⟨some 118, none, .mv (.t 117)⟩,
 ⟨some 119, some (118, false), .mv (.t 13)⟩,
 ⟨some 120, some (118, false), .ia 1 false (.t 119) (.k (.d (.int .i64 0)))⟩,
 ⟨some 121, some (118, false), .ld false 1 (.t 120)⟩,
 ⟨some 122, some (118, false), .fa 3 1 false (.t 17)⟩,
 ⟨some 123, some (118, false), .ld false 1 (.t 122)⟩,
 ⟨some 124, some (118, false), .len 1 (.t 123)⟩,
 ⟨some 125, some (118, false), .bin .geq (.t 121) (.t 124)⟩,
 ⟨some 126, none, .pick (.t 118) (.k (.d (.bool true))) (.t 125)⟩])
 (.cond (.t 126) (.seq (.ops [] [⟨some 6, none, .mv (.k (.d (.bool false)))⟩])
 (.ret))
 (.skip)))
 (.ops [] [⟨some 127, none, .lit 5 []⟩,
 ⟨some 128, none, .fa 3 1 false (.t 17)⟩,
 ⟨some 129, none, .ld false 1 (.t 128)⟩,
 ⟨some 130, none, .mv (.t 13)⟩,
 ⟨some 131, none, .ia 1 false (.t 130) (.k (.d (.int .i64 0)))⟩,
 ⟨some 132, none, .ld false 1 (.t 131)⟩,
 ⟨some 133, none, .slice 5 (.t 129) none (some (.t 132)) none⟩,
 ⟨some 134, none, .app 5 (.t 127) (.t 133)⟩,
 ⟨some 135, none, .fa 3 1 false (.t 17)⟩,
 ⟨some 136, none, .ld false 1 (.t 135)⟩,
 ⟨some 137, none, .mv (.t 13)⟩,
 ⟨some 138, none, .ia 1 false (.t 137) (.k (.d (.int .i64 0)))⟩,
 ⟨some 139, none, .ld false 1 (.t 138)⟩,
 ⟨some 140, none, .bin .add (.t 139) (.k (.d (.int .i64 1)))⟩,
 ⟨some 141, none, .slice 5 (.t 136) (some (.t 140)) none none⟩,
 ⟨some 142, none, .app 5 (.t 134) (.t 141)⟩,
 ⟨some 143, none, .fa 3 1 false (.t 17)⟩,
 ⟨none, none, .st false 1 (.t 143) (.t 142)⟩]))
 (.skip)))
 (.ops [] [⟨some 144, none, .fa 1 1 false (.t 15)⟩,
 ⟨some 145, none, .ldT (.t 144)⟩,
 ⟨some 146, none, .ld true 4 (.t 17)⟩,
 ⟨some 147, none, .lit 4 [.t 146]⟩,
 ⟨some 148, none, .app 4 (.t 145) (.t 147)⟩,
 ⟨some 149, none, .fa 1 1 false (.t 15)⟩,
 ⟨none, none, .st false 1 (.t 149) (.t 148)⟩]))))
 (.ops [] [⟨some 101, none, .mv (.t 16)⟩,
 ⟨some 102, none, .bin .add (.t 101) (.k (.d (.int .i64 1)))⟩,
 ⟨some 16, none, .tk 102⟩]))))))
 (.seq (.ops [] [⟨some 151, none, .ld true 2 (.t 15)⟩,
 ⟨some 152, none, .fa 2 1 false (.t 3)⟩,
 ⟨some 153, none, .ld false 1 (.t 152)⟩,
 ⟨some 154, none, .fa 3 1 false (.t 3)⟩,
 ⟨some 155, none, .ld false 1 (.t 154)⟩,
 ⟨some 156, none, .mv (.t 1)⟩,
 ⟨some 157, none, .conv .i64 (.t 156)⟩,
 ⟨some 158, none, .call 5 [.t 151, .t 153, .t 155, .t 157]⟩,
 ⟨some 150, none, .mv (.t 158)⟩,
 ⟨some 159, none, .ext (.t 150) 0⟩,
 ⟨some 160, none, .ext (.t 150) 1⟩,
 ⟨some 161, none, .ext (.t 150) 2⟩,
 ⟨some 18, none, .alloc true [.d (.int .i64 0), .d (.str []), .nil 3]⟩,
 ⟨none, none, .st true 3 (.t 18) (.t 159)⟩,
 ⟨some 19, none, .tk 160⟩,
 ⟨some 20, none, .tk 161⟩])
 (.seq (.ops [] [⟨some 162, none, .mv (.t 20)⟩,
 ⟨some 163, none, .mv (.t 9)⟩,
 ⟨some 164, none, .bin .eql (.t 162) (.t 163)⟩,
 ⟨some 165, none, .mv (.t 164)⟩,
 ⟨some 166, some (165, true), .mv (.t 19)⟩,
 ⟨some 167, some (165, true), .mv (.t 8)⟩,
 ⟨some 168, some (165, true), .eqB false (.t 166) (.t 167)⟩,
 ⟨some 169, none, .pick (.t 165) (.t 168) (.k (.d (.bool false)))⟩,
 ⟨some 170, none, .mv (.t 169)⟩,
 ⟨some 171, some (170, true), .ld true 3 (.t 7)⟩,
 ⟨some 172, some (170, true), .ld true 3 (.t 18)⟩,
 ⟨some 173, some (170, true), .call 6 [.t 171, .t 172]⟩,
 ⟨some 174, none, .pick (.t 170) (.t 173) (.k (.d (.bool false)))⟩,
 ⟨some 175, none, .mv (.t 174)⟩,
 ⟨some 176, some (175, true), .call 8 []⟩,
 ⟨some 177, none, .pick (.t 175) (.t 176) (.k (.d (.bool false)))⟩,
 ⟨some 6, none, .tk 177⟩])
 (.ret))))))))))))⟩
theorem c3 : sp 3 = some (.code F3) := by kernel_rfl

end Go.Sp
