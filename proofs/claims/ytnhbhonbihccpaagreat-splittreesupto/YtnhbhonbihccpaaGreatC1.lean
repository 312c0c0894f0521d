/- SplitTrees holds of every input whose data are of bulk at most 1048576 (the row's second form). Here: The program's functions as abstract code. -/
import Derived.Test.YtnhbhonbihccpaaGreatB2
import Derived.KernelRfl

set_option linter.unusedVariables false
set_option linter.unusedSimpArgs false
set_option linter.unnecessarySimpa false

/-! The program's functions as abstract code. -/
namespace Go.Sp
open Go.Abs Go.Proofs
set_option maxRecDepth 20000

/-- tenet/tenetref15.sortAt -/
def F52 : AFunc := ⟨22, [.tmp 4],
 .seq (.ops [] [⟨some 2, none, .box true 2 (.t 0)⟩,
 ⟨some 4, none, .mv (.k (.d (.int .i64 0)))⟩])
 (.seq (.seq (.ops [] [⟨some 5, none, .mv (.k (.d (.int .i64 0)))⟩])
 (.block 0 (.loop 22 [1, 2, 5] (.seq (.seq (.ops [] [⟨some 6, none, .mv (.t 5)⟩,
 ⟨some 7, none, .fa 0 1 false (.t 2)⟩,
 ⟨some 8, none, .ld false 1 (.t 7)⟩,
 ⟨some 9, none, .len 1 (.t 8)⟩,
 ⟨some 10, none, .bin .lss (.t 6) (.t 9)⟩])
 (.cond (.t 10) (.skip)
 (.exit 0)))
 (.seq (.block 1 (.seq (.ops [] [⟨some 13, none, .fa 0 1 false (.t 2)⟩,
 ⟨some 14, none, .ld false 1 (.t 13)⟩,
 ⟨some 15, none, .mv (.t 5)⟩,
 ⟨some 16, none, .ia 2 true (.t 14) (.t 15)⟩,
 ⟨some 17, none, .fa 0 1 false (.t 16)⟩,
 ⟨some 18, none, .ld false 1 (.t 17)⟩,
 ⟨some 19, none, .mv (.t 1)⟩,
 ⟨some 20, none, .bin .eql (.t 18) (.t 19)⟩])
 (.cond (.t 20) (.seq (.ops [] [⟨some 21, none, .tk 5⟩,
 ⟨some 4, none, .tk 21⟩])
 (.ret))
 (.skip))))
 (.ops [] [⟨some 11, none, .mv (.t 5)⟩,
 ⟨some 12, none, .bin .add (.t 11) (.k (.d (.int .i64 1)))⟩,
 ⟨some 5, none, .tk 12⟩]))))))
 (.seq (.ops [] [⟨some 4, none, .mv (.k (.d (.int .i64 (-1))))⟩])
 (.ret)))⟩
theorem c52 : sp 52 = some (.code F52) := by kernel_rfl

/-- tenet/tenetref15.funAt -/
def F45 : AFunc := ⟨22, [.tmp 4],
 .seq (.ops [] [⟨some 2, none, .box true 2 (.t 0)⟩,
 ⟨some 4, none, .mv (.k (.d (.int .i64 0)))⟩])
 (.seq (.seq (.ops [] [⟨some 5, none, .mv (.k (.d (.int .i64 0)))⟩])
 (.block 0 (.loop 22 [1, 2, 5] (.seq (.seq (.ops [] [⟨some 6, none, .mv (.t 5)⟩,
 ⟨some 7, none, .fa 1 1 false (.t 2)⟩,
 ⟨some 8, none, .ld false 1 (.t 7)⟩,
 ⟨some 9, none, .len 1 (.t 8)⟩,
 ⟨some 10, none, .bin .lss (.t 6) (.t 9)⟩])
 (.cond (.t 10) (.skip)
 (.exit 0)))
 (.seq (.block 1 (.seq (.ops [] [⟨some 13, none, .fa 1 1 false (.t 2)⟩,
 ⟨some 14, none, .ld false 1 (.t 13)⟩,
 ⟨some 15, none, .mv (.t 5)⟩,
 ⟨some 16, none, .ia 4 true (.t 14) (.t 15)⟩,
 ⟨some 17, none, .fa 0 1 false (.t 16)⟩,
 ⟨some 18, none, .ld false 1 (.t 17)⟩,
 ⟨some 19, none, .mv (.t 1)⟩,
 ⟨some 20, none, .bin .eql (.t 18) (.t 19)⟩])
 (.cond (.t 20) (.seq (.ops [] [⟨some 21, none, .tk 5⟩,
 ⟨some 4, none, .tk 21⟩])
 (.ret))
 (.skip))))
 (.ops [] [⟨some 11, none, .mv (.t 5)⟩,
 ⟨some 12, none, .bin .add (.t 11) (.k (.d (.int .i64 1)))⟩,
 ⟨some 5, none, .tk 12⟩]))))))
 (.seq (.ops [] [⟨some 4, none, .mv (.k (.d (.int .i64 (-1))))⟩])
 (.ret)))⟩
theorem c45 : sp 45 = some (.code F45) := by kernel_rfl

/-- tenet/tenetref15.con -/
def F90 : AFunc := ⟨48, [.tmp 6, .tmp 7],
 .seq (.ops [] [⟨some 3, none, .box true 2 (.t 0)⟩,
 ⟨some 6, none, .mv (.k (.nil 1))⟩,
 ⟨some 7, none, .mv (.k (.d (.bool false)))⟩])
 (.seq (.ops [] [⟨some 10, none, .ld true 2 (.t 3)⟩,
 ⟨some 11, none, .mv (.t 1)⟩,
 ⟨some 12, none, .call 52 [.t 10, .t 11]⟩,
 ⟨some 8, none, .tk 12⟩])
 (.seq (.seq (.ops [] [⟨some 13, none, .mv (.t 8)⟩,
 ⟨some 14, none, .bin .lss (.t 13) (.k (.d (.int .i64 0)))⟩])
 (.cond (.t 14) (.seq (.ops [] [⟨some 6, none, .mv (.k (.nil 1))⟩,
 ⟨some 7, none, .mv (.k (.d (.bool false)))⟩])
 (.ret))
 (.skip)))
 (.seq (.seq (.ops [] [⟨some 9, none, .mv (.k (.d (.int .i64 0)))⟩])
 (.block 0 (.loop 48 [2, 3, 8, 9] (.seq (.seq (.ops [] [⟨some 15, none, .mv (.t 9)⟩,
 ⟨some 16, none, .fa 0 1 false (.t 3)⟩,
 ⟨some 17, none, .ld false 1 (.t 16)⟩,
 ⟨some 18, none, .mv (.t 8)⟩,
 ⟨some 19, none, .ia 2 true (.t 17) (.t 18)⟩,
 ⟨some 20, none, .fa 1 1 false (.t 19)⟩,
 ⟨some 21, none, .ld false 1 (.t 20)⟩,
 ⟨some 22, none, .len 1 (.t 21)⟩,
 ⟨some 23, none, .bin .lss (.t 15) (.t 22)⟩])
 (.cond (.t 23) (.skip)
 (.exit 0)))
 (.seq (.block 1 (.seq (.ops [] [⟨some 26, none, .fa 0 1 false (.t 3)⟩,
 ⟨some 27, none, .ld false 1 (.t 26)⟩,
 ⟨some 28, none, .mv (.t 8)⟩,
 ⟨some 29, none, .ia 2 true (.t 27) (.t 28)⟩,
 ⟨some 30, none, .fa 1 1 false (.t 29)⟩,
 ⟨some 31, none, .ld false 1 (.t 30)⟩,
 ⟨some 32, none, .mv (.t 9)⟩,
 ⟨some 33, none, .ia 2 true (.t 31) (.t 32)⟩,
 ⟨some 34, none, .fa 0 1 false (.t 33)⟩,
 ⟨some 35, none, .ld false 1 (.t 34)⟩,
 ⟨some 36, none, .mv (.t 2)⟩,
 ⟨some 37, none, .bin .eql (.t 35) (.t 36)⟩])
 (.cond (.t 37) (.seq (.ops [] [⟨some 38, none, .fa 0 1 false (.t 3)⟩,
 ⟨some 39, none, .ld false 1 (.t 38)⟩,
 ⟨some 40, none, .mv (.t 8)⟩,
 ⟨some 41, none, .ia 2 true (.t 39) (.t 40)⟩,
 ⟨some 42, none, .fa 1 1 false (.t 41)⟩,
 ⟨some 43, none, .ld false 1 (.t 42)⟩,
 ⟨some 44, none, .mv (.t 9)⟩,
 ⟨some 45, none, .ia 2 true (.t 43) (.t 44)⟩,
 ⟨some 46, none, .fa 1 1 false (.t 45)⟩,
 ⟨some 47, none, .ld false 1 (.t 46)⟩,
 ⟨some 6, none, .tk 47⟩,
 ⟨some 7, none, .mv (.k (.d (.bool true)))⟩])
 (.ret))
 (.skip))))
 (.ops [] [⟨some 24, none, .mv (.t 9)⟩,
 ⟨some 25, none, .bin .add (.t 24) (.k (.d (.int .i64 1)))⟩,
 ⟨some 9, none, .tk 25⟩]))))))
 (.seq (.ops [] [⟨some 6, none, .mv (.k (.nil 1))⟩,
 ⟨some 7, none, .mv (.k (.d (.bool false)))⟩])
 (.ret)))))⟩
theorem c90 : sp 90 = some (.code F90) := by kernel_rfl

/-- tenet/tenetref15.known -/
def F51 : AFunc := ⟨19, [.tmp 4],
 .seq (.ops [] [⟨some 2, none, .box true 2 (.t 0)⟩,
 ⟨some 4, none, .mv (.k (.d (.bool false)))⟩])
 (.seq (.seq (.ops [] [⟨some 5, none, .mv (.k (.d (.int .i64 0)))⟩])
 (.block 0 (.loop 19 [1, 2, 5] (.seq (.seq (.ops [] [⟨some 6, none, .mv (.t 5)⟩,
 ⟨some 7, none, .mv (.t 1)⟩,
 ⟨some 8, none, .len 1 (.t 7)⟩,
 ⟨some 9, none, .bin .lss (.t 6) (.t 8)⟩])
 (.cond (.t 9) (.skip)
 (.exit 0)))
 (.seq (.block 1 (.seq (.ops [] [⟨some 12, none, .ld true 2 (.t 2)⟩,
 ⟨some 13, none, .mv (.t 1)⟩,
 ⟨some 14, none, .mv (.t 5)⟩,
 ⟨some 15, none, .ia 1 false (.t 13) (.t 14)⟩,
 ⟨some 16, none, .ld false 1 (.t 15)⟩,
 ⟨some 17, none, .call 52 [.t 12, .t 16]⟩,
 ⟨some 18, none, .bin .lss (.t 17) (.k (.d (.int .i64 0)))⟩])
 (.cond (.t 18) (.seq (.ops [] [⟨some 4, none, .mv (.k (.d (.bool false)))⟩])
 (.ret))
 (.skip))))
 (.ops [] [⟨some 10, none, .mv (.t 5)⟩,
 ⟨some 11, none, .bin .add (.t 10) (.k (.d (.int .i64 1)))⟩,
 ⟨some 5, none, .tk 11⟩]))))))
 (.seq (.ops [] [⟨some 4, none, .mv (.k (.d (.bool true)))⟩])
 (.ret)))⟩
theorem c51 : sp 51 = some (.code F51) := by kernel_rfl

/-- tenet/tenetref00.Has -/
def F81 : AFunc := ⟨19, [.tmp 4],
 .seq (.ops [] [⟨some 4, none, .mv (.k (.d (.int .i64 0)))⟩])
 (.seq (.seq (.ops [] [⟨some 5, none, .mv (.k (.d (.int .i64 0)))⟩])
 (.block 0 (.loop 19 [0, 1, 5] (.seq (.seq (.ops [] [⟨some 6, none, .mv (.t 5)⟩,
 ⟨some 7, none, .mv (.t 0)⟩,
 ⟨some 8, none, .len 1 (.t 7)⟩,
 ⟨some 9, none, .bin .lss (.t 6) (.t 8)⟩])
 (.cond (.t 9) (.skip)
 (.exit 0)))
 (.seq (.block 1 (.seq (.ops [] [⟨some 12, none, .mv (.t 0)⟩,
 ⟨some 13, none, .mv (.t 5)⟩,
 ⟨some 14, none, .ia 1 false (.t 12) (.t 13)⟩,
 ⟨some 15, none, .ld false 1 (.t 14)⟩,
 ⟨some 16, none, .mv (.t 1)⟩,
 ⟨some 17, none, .bin .eql (.t 15) (.t 16)⟩])
 (.cond (.t 17) (.seq (.ops [] [⟨some 18, none, .tk 5⟩,
 ⟨some 4, none, .tk 18⟩])
 (.ret))
 (.skip))))
 (.ops [] [⟨some 10, none, .mv (.t 5)⟩,
 ⟨some 11, none, .bin .add (.t 10) (.k (.d (.int .i64 1)))⟩,
 ⟨some 5, none, .tk 11⟩]))))))
 (.seq (.ops [] [⟨some 4, none, .mv (.k (.d (.int .i64 (-1))))⟩])
 (.ret)))⟩
theorem c81 : sp 81 = some (.code F81) := by kernel_rfl

/-- tenet/tenetref03.Name -/
def F95 : AFunc := ⟨62, [.tmp 2],
 .seq (.ops [] [⟨some 2, none, .mv (.k (.d (.bool false)))⟩])
 (.seq (.seq (.ops [] [⟨some 7, none, .mv (.t 0)⟩,
 ⟨some 8, none, .len 0 (.t 7)⟩,
 ⟨some 9, none, .bin .lss (.t 8) (.k (.d (.int .i64 1)))⟩,
 ⟨some 10, none, .mv (.t 9)⟩,
 ⟨some 11, some (10, false), .mv (.t 0)⟩,
 ⟨some 12, some (10, false), .len 0 (.t 11)⟩,
 ⟨some 13, some (10, false), .bin .gtr (.t 12) (.k (.d (.int .i64 24)))⟩,
 ⟨some 14, none, .pick (.t 10) (.k (.d (.bool true))) (.t 13)⟩])
 (.cond (.t 14) (.seq (.ops [] [⟨some 2, none, .mv (.k (.d (.bool false)))⟩])
 (.ret))
 (.skip)))
 (.seq (.seq (.ops [] [⟨some 3, none, .mv (.k (.d (.int .i64 0)))⟩])
 (.block 0 (.loop 62 [0, 3] (.seq (.seq (.ops [] [⟨some 15, none, .mv (.t 3)⟩,
 ⟨some 16, none, .mv (.t 0)⟩,
 ⟨some 17, none, .len 0 (.t 16)⟩,
 ⟨some 18, none, .bin .lss (.t 15) (.t 17)⟩])
 (.cond (.t 18) (.skip)
 (.exit 0)))
 (.seq (.block 1 (.seq (.ops [] [⟨some 21, none, .mv (.t 0)⟩,
 ⟨some 22, none, .mv (.t 3)⟩,
 ⟨some 23, none, .ixS (.t 21) (.t 22)⟩,
 ⟨some 4, none, .tk 23⟩])
 (.seq (.ops [] [⟨some 24, none, .mv (.t 4)⟩,
 ⟨some 25, none, .bin .geq (.t 24) (.k (.d (.int .u8 48)))⟩,
 ⟨some 26, none, .mv (.t 25)⟩,
 ⟨some 27, some (26, true), .mv (.t 4)⟩,
 ⟨some 28, some (26, true), .bin .leq (.t 27) (.k (.d (.int .u8 57)))⟩,
 ⟨some 29, none, .pick (.t 26) (.t 28) (.k (.d (.bool false)))⟩,
 ⟨some 5, none, .tk 29⟩])
 (.seq (.ops [] [⟨some 30, none, .mv (.t 4)⟩,
 ⟨some 31, none, .bin .geq (.t 30) (.k (.d (.int .u8 97)))⟩,
 ⟨some 32, none, .mv (.t 31)⟩,
 ⟨some 33, some (32, true), .mv (.t 4)⟩,
 ⟨some 34, some (32, true), .bin .leq (.t 33) (.k (.d (.int .u8 122)))⟩,
 ⟨some 35, none, .pick (.t 32) (.t 34) (.k (.d (.bool false)))⟩,
 ⟨some 36, none, .mv (.t 35)⟩,
 ⟨some 37, some (36, false), .mv (.t 4)⟩,
 ⟨some 38, some (36, false), .bin .geq (.t 37) (.k (.d (.int .u8 65)))⟩,
 ⟨some 39, some (36, false), .mv (.t 38)⟩,
 ⟨some 40, some (39, true), .mv (.t 4)⟩,
 ⟨some 41, some (39, true), .bin .leq (.t 40) (.k (.d (.int .u8 90)))⟩,
 ⟨some 42, some (36, false), .pick (.t 39) (.t 41) (.k (.d (.bool false)))⟩,
 ⟨some 43, none, .pick (.t 36) (.k (.d (.bool true))) (.t 42)⟩,
 ⟨some 44, none, .mv (.t 43)⟩,
 ⟨some 45, some (44, false), .mv (.t 4)⟩,
 ⟨some 46, some (44, false), .bin .eql (.t 45) (.k (.d (.int .u8 95)))⟩,
 ⟨some 47, none, .pick (.t 44) (.k (.d (.bool true))) (.t 46)⟩,
 ⟨some 6, none, .tk 47⟩])
 (.seq (.ops [] [⟨some 48, none, .mv (.t 6)⟩,
 ⟨some 49, none, .not (.t 48)⟩,
 ⟨some 50, none, .mv (.t 49)⟩,
 ⟨some 51, some (50, true), .mv (.t 5)⟩,
 ⟨some 52, some (50, true), .not (.t 51)⟩,
 ⟨some 53, some (50, true), .mv (.t 52)⟩,
 ⟨some 54, some (53, true), .mv (.t 4)⟩,
 ⟨some 55, some (53, true), .bin .neq (.t 54) (.k (.d (.int .u8 46)))⟩,
 ⟨some 56, some (50, true), .pick (.t 53) (.t 55) (.k (.d (.bool false)))⟩,
 ⟨some 57, some (50, true), .mv (.t 56)⟩,
 ⟨some 58, some (57, false), .mv (.t 3)⟩,
 ⟨some 59, some (57, false), .bin .eql (.t 58) (.k (.d (.int .i64 0)))⟩,
 ⟨some 60, some (50, true), .pick (.t 57) (.k (.d (.bool true))) (.t 59)⟩,
 ⟨some 61, none, .pick (.t 50) (.t 60) (.k (.d (.bool false)))⟩])
 (.cond (.t 61) (.seq (.ops [] [⟨some 2, none, .mv (.k (.d (.bool false)))⟩])
 (.ret))
 (.skip)))))))
 (.ops [] [⟨some 19, none, .mv (.t 3)⟩,
 ⟨some 20, none, .bin .add (.t 19) (.k (.d (.int .i64 1)))⟩,
 ⟨some 3, none, .tk 20⟩]))))))
 (.seq (.ops [] [⟨some 2, none, .mv (.k (.d (.bool true)))⟩])
 (.ret))))⟩
theorem c95 : sp 95 = some (.code F95) := by kernel_rfl

/-- tenet/tenetref15.basic -/
def F50 : AFunc := ⟨114, [.tmp 2],
 .seq (.ops [] [⟨some 1, none, .box true 2 (.t 0)⟩,
 ⟨some 2, none, .mv (.k (.d (.bool false)))⟩])
 (.seq (.seq (.ops [] [⟨some 9, none, .fa 0 1 false (.t 1)⟩,
 ⟨some 10, none, .ld false 1 (.t 9)⟩,
 ⟨some 11, none, .len 1 (.t 10)⟩,
 ⟨some 12, none, .bin .gtr (.t 11) (.k (.d (.int .i64 8)))⟩,
 ⟨some 13, none, .mv (.t 12)⟩,
 ⟨some 14, some (13, false), .fa 1 1 false (.t 1)⟩,
 ⟨some 15, some (13, false), .ld false 1 (.t 14)⟩,
 ⟨some 16, some (13, false), .len 1 (.t 15)⟩,
 ⟨some 17, some (13, false), .bin .gtr (.t 16) (.k (.d (.int .i64 12)))⟩,
 ⟨some 18, none, .pick (.t 13) (.k (.d (.bool true))) (.t 17)⟩])
 (.cond (.t 18) (.seq (.ops [] [⟨some 2, none, .mv (.k (.d (.bool false)))⟩])
 (.ret))
 (.skip)))
 (.seq (.ops [] [⟨some 3, none, .mv (.k (.nil 1))⟩])
 (.seq (.seq (.ops [] [⟨some 4, none, .mv (.k (.d (.int .i64 0)))⟩])
 (.block 0 (.loop 114 [1, 3, 4] (.seq (.seq (.ops [] [⟨some 19, none, .mv (.t 4)⟩,
 ⟨some 20, none, .fa 0 1 false (.t 1)⟩,
 ⟨some 21, none, .ld false 1 (.t 20)⟩,
 ⟨some 22, none, .len 1 (.t 21)⟩,
 ⟨some 23, none, .bin .lss (.t 19) (.t 22)⟩])
 (.cond (.t 23) (.skip)
 (.exit 0)))
 (.seq (.block 1 (.seq (.ops [] [⟨some 26, none, .fa 0 1 false (.t 1)⟩,
 ⟨some 27, none, .ld false 1 (.t 26)⟩,
 ⟨some 28, none, .mv (.t 4)⟩,
 ⟨some 29, none, .ia 2 true (.t 27) (.t 28)⟩,
 ⟨some 30, none, .ld true 2 (.t 29)⟩,
 ⟨some 5, none, .alloc true [.d (.str []), .nil 2]⟩,
 ⟨none, none, .st true 2 (.t 5) (.t 30)⟩])
 (.seq (.ops [] [⟨some 31, none, .tk 3⟩,
 ⟨some 32, none, .fa 0 1 false (.t 5)⟩,
 ⟨some 33, none, .ld false 1 (.t 32)⟩,
 ⟨some 34, none, .lit 1 [.t 33]⟩,
 ⟨some 35, none, .app 1 (.t 31) (.t 34)⟩,
 ⟨some 3, none, .tk 35⟩])
 (.seq (.seq (.ops [] [⟨some 36, none, .fa 1 1 false (.t 5)⟩,
 ⟨some 37, none, .ld false 1 (.t 36)⟩,
 ⟨some 38, none, .len 1 (.t 37)⟩,
 ⟨some 39, none, .bin .gtr (.t 38) (.k (.d (.int .i64 8)))⟩])
 (.cond (.t 39) (.seq (.ops [] [⟨some 2, none, .mv (.k (.d (.bool false)))⟩])
 (.ret))
 (.skip)))
 (.seq (.ops [] [⟨some 6, none, .mv (.k (.d (.int .i64 0)))⟩])
 (.block 2 (.loop 114 [1, 3, 4, 5, 6] (.seq (.seq (.ops [] [⟨some 40, none, .mv (.t 6)⟩,
 ⟨some 41, none, .fa 1 1 false (.t 5)⟩,
 ⟨some 42, none, .ld false 1 (.t 41)⟩,
 ⟨some 43, none, .len 1 (.t 42)⟩,
 ⟨some 44, none, .bin .lss (.t 40) (.t 43)⟩])
 (.cond (.t 44) (.skip)
 (.exit 2)))
 (.seq (.block 3 (.seq (.ops [] [⟨some 47, none, .tk 3⟩,
 ⟨some 48, none, .fa 1 1 false (.t 5)⟩,
 ⟨some 49, none, .ld false 1 (.t 48)⟩,
 ⟨some 50, none, .mv (.t 6)⟩,
 ⟨some 51, none, .ia 2 true (.t 49) (.t 50)⟩,
 ⟨some 52, none, .fa 0 1 false (.t 51)⟩,
 ⟨some 53, none, .ld false 1 (.t 52)⟩,
 ⟨some 54, none, .lit 1 [.t 53]⟩,
 ⟨some 55, none, .app 1 (.t 47) (.t 54)⟩,
 ⟨some 3, none, .tk 55⟩])
 (.seq (.ops [] [⟨some 56, none, .fa 1 1 false (.t 5)⟩,
 ⟨some 57, none, .ld false 1 (.t 56)⟩,
 ⟨some 58, none, .mv (.t 6)⟩,
 ⟨some 59, none, .ia 2 true (.t 57) (.t 58)⟩,
 ⟨some 60, none, .fa 1 1 false (.t 59)⟩,
 ⟨some 61, none, .ld false 1 (.t 60)⟩,
 ⟨some 62, none, .len 1 (.t 61)⟩,
 ⟨some 63, none, .bin .gtr (.t 62) (.k (.d (.int .i64 4)))⟩,
 ⟨some 64, none, .mv (.t 63)⟩,
 ⟨some 65, some (64, false), .ld true 2 (.t 1)⟩,
 ⟨some 66, some (64, false), .fa 1 1 false (.t 5)⟩,
 ⟨some 67, some (64, false), .ld false 1 (.t 66)⟩,
 ⟨some 68, some (64, false), .mv (.t 6)⟩,
 ⟨some 69, some (64, false), .ia 2 true (.t 67) (.t 68)⟩,
 ⟨some 70, some (64, false), .fa 1 1 false (.t 69)⟩,
 ⟨some 71, some (64, false), .ld false 1 (.t 70)⟩,
 ⟨some 72, some (64, false), .call 51 [.t 65, .t 71]⟩,
 ⟨some 73, some (64, false), .not (.t 72)⟩,
 ⟨some 74, none, .pick (.t 64) (.k (.d (.bool true))) (.t 73)⟩])
 (.cond (.t 74) (.seq (.ops [] [⟨some 2, none, .mv (.k (.d (.bool false)))⟩])
 (.ret))
 (.skip)))))
 (.ops [] [⟨some 45, none, .mv (.t 6)⟩,
 ⟨some 46, none, .bin .add (.t 45) (.k (.d (.int .i64 1)))⟩,
 ⟨some 6, none, .tk 46⟩]))))))))))
 (.ops [] [⟨some 24, none, .mv (.t 4)⟩,
 ⟨some 25, none, .bin .add (.t 24) (.k (.d (.int .i64 1)))⟩,
 ⟨some 4, none, .tk 25⟩]))))))
 (.seq (.seq (.ops [] [⟨some 7, none, .mv (.k (.d (.int .i64 0)))⟩])
 (.block 4 (.loop 114 [1, 3, 7] (.seq (.seq (.ops [] [⟨some 75, none, .mv (.t 7)⟩,
 ⟨some 76, none, .fa 1 1 false (.t 1)⟩,
 ⟨some 77, none, .ld false 1 (.t 76)⟩,
 ⟨some 78, none, .len 1 (.t 77)⟩,
 ⟨some 79, none, .bin .lss (.t 75) (.t 78)⟩])
 (.cond (.t 79) (.skip)
 (.exit 4)))
 (.seq (.block 5 (.ops [] [⟨some 82, none, .tk 3⟩,
 ⟨some 83, none, .fa 1 1 false (.t 1)⟩,
 ⟨some 84, none, .ld false 1 (.t 83)⟩,
 ⟨some 85, none, .mv (.t 7)⟩,
 ⟨some 86, none, .ia 4 true (.t 84) (.t 85)⟩,
 ⟨some 87, none, .fa 0 1 false (.t 86)⟩,
 ⟨some 88, none, .ld false 1 (.t 87)⟩,
 ⟨some 89, none, .lit 1 [.t 88]⟩,
 ⟨some 90, none, .app 1 (.t 82) (.t 89)⟩,
 ⟨some 3, none, .tk 90⟩]))
 (.ops [] [⟨some 80, none, .mv (.t 7)⟩,
 ⟨some 81, none, .bin .add (.t 80) (.k (.d (.int .i64 1)))⟩,
 ⟨some 7, none, .tk 81⟩]))))))
 (.seq (.seq (.ops [] [⟨some 8, none, .mv (.k (.d (.int .i64 0)))⟩])
 (.block 6 (.loop 114 [3, 8] (.seq (.seq (.ops [] [⟨some 91, none, .mv (.t 8)⟩,
 ⟨some 92, none, .mv (.t 3)⟩,
 ⟨some 93, none, .len 1 (.t 92)⟩,
 ⟨some 94, none, .bin .lss (.t 91) (.t 93)⟩])
 (.cond (.t 94) (.skip)
 (.exit 6)))
 (.seq (.block 7 (.seq (.ops [] [⟨some 97, none, .mv (.t 3)⟩,
 ⟨some 98, none, .mv (.t 8)⟩,
 ⟨some 99, none, .ia 1 false (.t 97) (.t 98)⟩,
 ⟨some 100, none, .ld false 1 (.t 99)⟩,
 ⟨some 101, none, .call 95 [.t 100]⟩,
 ⟨some 102, none, .not (.t 101)⟩,
 ⟨some 103, none, .mv (.t 102)⟩,
 ⟨some 104, some (103, false), .mv (.t 3)⟩,
 ⟨some 105, some (103, false), .mv (.t 8)⟩,
 ⟨some 106, some (103, false), .slice 1 (.t 104) none (some (.t 105)) none⟩,
 ⟨some 107, some (103, false), .mv (.t 3)⟩,
 ⟨some 108, some (103, false), .mv (.t 8)⟩,
 ⟨some 109, some (103, false), .ia 1 false (.t 107) (.t 108)⟩,
 ⟨some 110, some (103, false), .ld false 1 (.t 109)⟩,
 ⟨some 111, some (103, false), .call 81 [.t 106, .t 110]⟩,
 ⟨some 112, some (103, false), .bin .geq (.t 111) (.k (.d (.int .i64 0)))⟩,
 ⟨some 113, none, .pick (.t 103) (.k (.d (.bool true))) (.t 112)⟩])
 (.cond (.t 113) (.seq (.ops [] [⟨some 2, none, .mv (.k (.d (.bool false)))⟩])
 (.ret))
 (.skip))))
 (.ops [] [⟨some 95, none, .mv (.t 8)⟩,
 ⟨some 96, none, .bin .add (.t 95) (.k (.d (.int .i64 1)))⟩,
 ⟨some 8, none, .tk 96⟩]))))))
 (.seq (.ops [] [⟨some 2, none, .mv (.k (.d (.bool true)))⟩])
 (.ret)))))))⟩
theorem c50 : sp 50 = some (.code F50) := by kernel_rfl

/-- tenet/split.isName -/
def F102 : AFunc := ⟨59, [.tmp 2],
 .seq (.ops [] [⟨some 2, none, .mv (.k (.d (.bool false)))⟩])
 (.seq (.seq (.ops [] [⟨some 6, none, .mv (.t 0)⟩,
 ⟨some 7, none, .len 0 (.t 6)⟩,
 ⟨some 8, none, .mv (.k (.d (.int .i64 0)))⟩])
 (.block 0 (.loop 59 [0, 7, 8] (.seq (.ops [] [⟨some 9, none, .bin .lss (.t 8) (.t 7)⟩])
 (.seq (.cond (.t 9) (.skip)
 (.exit 0))
 (.seq (.block 1 (.seq (.ops [] [⟨some 10, none, .tk 8⟩,
 ⟨some 3, none, .tk 10⟩])
 (.seq (.ops [] [⟨some 11, none, .mv (.t 0)⟩,
 ⟨some 12, none, .mv (.t 3)⟩,
 ⟨some 13, none, .ixS (.t 11) (.t 12)⟩,
 ⟨some 4, none, .tk 13⟩])
 (.seq (.ops [] [⟨some 14, none, .mv (.t 4)⟩,
 ⟨some 15, none, .bin .geq (.t 14) (.k (.d (.int .u8 97)))⟩,
 ⟨some 16, none, .mv (.t 15)⟩,
 ⟨some 17, some (16, true), .mv (.t 4)⟩,
 ⟨some 18, some (16, true), .bin .leq (.t 17) (.k (.d (.int .u8 122)))⟩,
 ⟨some 19, none, .pick (.t 16) (.t 18) (.k (.d (.bool false)))⟩,
 ⟨some 20, none, .mv (.t 19)⟩,
 ⟨some 21, some (20, false), .mv (.t 4)⟩,
 ⟨some 22, some (20, false), .bin .geq (.t 21) (.k (.d (.int .u8 65)))⟩,
 ⟨some 23, some (20, false), .mv (.t 22)⟩,
 ⟨some 24, some (23, true), .mv (.t 4)⟩,
 ⟨some 25, some (23, true), .bin .leq (.t 24) (.k (.d (.int .u8 90)))⟩,
 ⟨some 26, some (20, false), .pick (.t 23) (.t 25) (.k (.d (.bool false)))⟩,
 ⟨some 27, none, .pick (.t 20) (.k (.d (.bool true))) (.t 26)⟩,
 ⟨some 28, none, .mv (.t 27)⟩,
 ⟨some 29, some (28, false), .mv (.t 4)⟩,
 ⟨some 30, some (28, false), .bin .eql (.t 29) (.k (.d (.int .u8 95)))⟩,
 ⟨some 31, none, .pick (.t 28) (.k (.d (.bool true))) (.t 30)⟩,
 ⟨some 5, none, .tk 31⟩])
 (.seq (.ops [] [⟨some 32, none, .mv (.t 5)⟩,
 ⟨some 33, none, .not (.t 32)⟩,
 ⟨some 34, none, .mv (.t 33)⟩,
 ⟨some 35, some (34, true), .mv (.t 3)⟩,
 ⟨some 36, some (34, true), .bin .eql (.t 35) (.k (.d (.int .i64 0)))⟩,
 ⟨some 37, some (34, true), .mv (.t 36)⟩,
 ⟨some 38, some (37, false), .mv (.t 4)⟩,
 ⟨some 39, some (37, false), .bin .geq (.t 38) (.k (.d (.int .u8 48)))⟩,
 ⟨some 40, some (37, false), .mv (.t 39)⟩,
 ⟨some 41, some (40, true), .mv (.t 4)⟩,
 ⟨some 42, some (40, true), .bin .leq (.t 41) (.k (.d (.int .u8 57)))⟩,
 ⟨some 43, some (37, false), .pick (.t 40) (.t 42) (.k (.d (.bool false)))⟩,
 ⟨some 44, some (37, false), .mv (.t 43)⟩,
 ⟨some 45, some (44, false), .mv (.t 4)⟩,
 ⟨some 46, some (44, false), .bin .eql (.t 45) (.k (.d (.int .u8 46)))⟩,
 ⟨some 47, some (37, false), .pick (.t 44) (.k (.d (.bool true))) (.t 46)⟩,
 ⟨some 48, some (37, false), .not (.t 47)⟩,
 ⟨some 49, some (34, true), .pick (.t 37) (.k (.d (.bool true))) (.t 48)⟩,
 ⟨some 50, none, .pick (.t 34) (.t 49) (.k (.d (.bool false)))⟩])
 (.cond (.t 50) (.seq (.ops [] [⟨some 2, none, .mv (.k (.d (.bool false)))⟩])
 (.ret))
 (.skip)))))))
 (.ops [] [⟨some 51, none, .bin .add (.t 8) (.k (.d (.int .i64 1)))⟩,
 ⟨some 8, none, .mv (.t 51)⟩])))))))
 (.seq (.ops [] [⟨some 52, none, .mv (.t 0)⟩,
 ⟨some 53, none, .bin .neq (.t 52) (.k (.d (.str [])))⟩,
 ⟨some 54, none, .mv (.t 53)⟩,
 ⟨some 55, some (54, true), .mv (.t 0)⟩,
 ⟨some 56, some (54, true), .len 0 (.t 55)⟩,
 ⟨some 57, some (54, true), .bin .leq (.t 56) (.k (.d (.int .i64 24)))⟩,
 ⟨some 58, none, .pick (.t 54) (.t 57) (.k (.d (.bool false)))⟩,
 ⟨some 2, none, .tk 58⟩])
 (.ret)))⟩
theorem c102 : sp 102 = some (.code F102) := by kernel_rfl

/-- tenet/split.sort -/
def F103 : AFunc := ⟨4, [.reg 23, .tmp 5],
 .seq (.ops [] [⟨some 2, none, .box true 2 (.t 0)⟩,
 ⟨some 3, none, .box false 1 (.t 1)⟩,
 ⟨some 23, none, .ralloc true [.d (.str []), .nil 2]⟩,
 ⟨some 5, none, .mv (.k (.d (.bool false)))⟩])
 (.seq (.ops [] [⟨some 7, none, .fa 0 1 false (.t 2)⟩,
 ⟨some 8, none, .ld false 1 (.t 7)⟩,
 ⟨some 9, none, .fn 149 [.t 3]⟩,
 ⟨some 10, none, .call 121 [.t 8, .t 9]⟩,
 ⟨some 6, none, .tk 10⟩])
 (.seq (.seq (.ops [] [⟨some 11, none, .mv (.t 6)⟩,
 ⟨some 12, none, .bin .lss (.t 11) (.k (.d (.int .i64 0)))⟩])
 (.cond (.t 12) (.seq (.ops [] [⟨some 13, none, .build [.d (.str []), .nil 2] []⟩,
 ⟨some 23, none, .rst 23 true 2 (.t 13)⟩,
 ⟨some 5, none, .mv (.k (.d (.bool false)))⟩])
 (.ret))
 (.skip)))
 (.seq (.ops [] [⟨some 14, none, .fa 0 1 false (.t 2)⟩,
 ⟨some 15, none, .ld false 1 (.t 14)⟩,
 ⟨some 16, none, .mv (.t 6)⟩,
 ⟨some 17, none, .ia 2 true (.t 15) (.t 16)⟩,
 ⟨some 18, none, .ld true 2 (.t 17)⟩,
 ⟨some 23, none, .rst 23 true 2 (.t 18)⟩,
 ⟨some 5, none, .mv (.k (.d (.bool true)))⟩])
 (.ret))))⟩
theorem c103 : sp 103 = some (.code F103) := by kernel_rfl

/-- tenet/split.sort$1 -/
def F149 : AFunc := ⟨8, [.tmp 3],
 .seq (.ops [] [⟨some 2, none, .box true 2 (.t 0)⟩,
 ⟨some 3, none, .mv (.k (.d (.bool false)))⟩])
 (.seq (.ops [] [⟨some 4, none, .fa 0 1 false (.t 2)⟩,
 ⟨some 5, none, .ld false 1 (.t 4)⟩,
 ⟨some 6, none, .ld false 1 (.t 1)⟩,
 ⟨some 7, none, .bin .eql (.t 5) (.t 6)⟩,
 ⟨some 3, none, .tk 7⟩])
 (.ret))⟩
theorem c149 : sp 149 = some (.code F149) := by kernel_rfl

/-- tenet/split.fun -/
def F84 : AFunc := ⟨4, [.reg 23, .tmp 5],
 .seq (.ops [] [⟨some 2, none, .box true 2 (.t 0)⟩,
 ⟨some 3, none, .box false 1 (.t 1)⟩,
 ⟨some 23, none, .ralloc true [.d (.str []), .nil 1, .d (.str []), .nil 5]⟩,
 ⟨some 5, none, .mv (.k (.d (.bool false)))⟩])
 (.seq (.ops [] [⟨some 7, none, .fa 1 1 false (.t 2)⟩,
 ⟨some 8, none, .ld false 1 (.t 7)⟩,
 ⟨some 9, none, .fn 131 [.t 3]⟩,
 ⟨some 10, none, .call 130 [.t 8, .t 9]⟩,
 ⟨some 6, none, .tk 10⟩])
 (.seq (.seq (.ops [] [⟨some 11, none, .mv (.t 6)⟩,
 ⟨some 12, none, .bin .lss (.t 11) (.k (.d (.int .i64 0)))⟩])
 (.cond (.t 12) (.seq (.ops [] [⟨some 13, none, .build [.d (.str []), .nil 1, .d (.str []), .nil 5] []⟩,
 ⟨some 23, none, .rst 23 true 4 (.t 13)⟩,
 ⟨some 5, none, .mv (.k (.d (.bool false)))⟩])
 (.ret))
 (.skip)))
 (.seq (.ops [] [⟨some 14, none, .fa 1 1 false (.t 2)⟩,
 ⟨some 15, none, .ld false 1 (.t 14)⟩,
 ⟨some 16, none, .mv (.t 6)⟩,
 ⟨some 17, none, .ia 4 true (.t 15) (.t 16)⟩,
 ⟨some 18, none, .ld true 4 (.t 17)⟩,
 ⟨some 23, none, .rst 23 true 4 (.t 18)⟩,
 ⟨some 5, none, .mv (.k (.d (.bool true)))⟩])
 (.ret))))⟩
theorem c84 : sp 84 = some (.code F84) := by kernel_rfl

/-- tenet/split.fun$1 -/
def F131 : AFunc := ⟨8, [.tmp 3],
 .seq (.ops [] [⟨some 2, none, .box true 4 (.t 0)⟩,
 ⟨some 3, none, .mv (.k (.d (.bool false)))⟩])
 (.seq (.ops [] [⟨some 4, none, .fa 0 1 false (.t 2)⟩,
 ⟨some 5, none, .ld false 1 (.t 4)⟩,
 ⟨some 6, none, .ld false 1 (.t 1)⟩,
 ⟨some 7, none, .bin .eql (.t 5) (.t 6)⟩,
 ⟨some 3, none, .tk 7⟩])
 (.ret))⟩
theorem c131 : sp 131 = some (.code F131) := by kernel_rfl

/-- tenet/split.con -/
def F125 : AFunc := ⟨9, [.tmp 4],
 .seq (.ops [] [⟨some 2, none, .box true 2 (.t 0)⟩,
 ⟨some 3, none, .box false 1 (.t 1)⟩,
 ⟨some 4, none, .mv (.k (.d (.int .i64 0)))⟩])
 (.seq (.ops [] [⟨some 5, none, .fa 1 1 false (.t 2)⟩,
 ⟨some 6, none, .ld false 1 (.t 5)⟩,
 ⟨some 7, none, .fn 158 [.t 3]⟩,
 ⟨some 8, none, .call 157 [.t 6, .t 7]⟩,
 ⟨some 4, none, .tk 8⟩])
 (.ret))⟩
theorem c125 : sp 125 = some (.code F125) := by kernel_rfl

/-- tenet/split.con$1 -/
def F158 : AFunc := ⟨8, [.tmp 3],
 .seq (.ops [] [⟨some 2, none, .box true 2 (.t 0)⟩,
 ⟨some 3, none, .mv (.k (.d (.bool false)))⟩])
 (.seq (.ops [] [⟨some 4, none, .fa 0 1 false (.t 2)⟩,
 ⟨some 5, none, .ld false 1 (.t 4)⟩,
 ⟨some 6, none, .ld false 1 (.t 1)⟩,
 ⟨some 7, none, .bin .eql (.t 5) (.t 6)⟩,
 ⟨some 3, none, .tk 7⟩])
 (.ret))⟩
theorem c158 : sp 158 = some (.code F158) := by kernel_rfl

/-- slices.IndexFunc[[]tenet/api.Sort,tenet/api.Sort] -/
def F121 : AFunc := ⟨19, [.tmp 4],
 .seq (.ops [] [⟨some 4, none, .mv (.k (.d (.int .i64 0)))⟩])
 (.seq (.seq (.ops [] [⟨some 6, none, .mv (.t 0)⟩,
 ⟨some 7, none, .len 1 (.t 6)⟩,
 ⟨some 8, none, .mv (.k (.d (.int .i64 0)))⟩])
 (.block 0 (.loop 19 [0, 1, 7, 8] (.seq (.ops [] [⟨some 9, none, .bin .lss (.t 8) (.t 7)⟩])
 (.seq (.cond (.t 9) (.skip)
 (.exit 0))
 (.seq (.block 1 (.seq (.ops [] [⟨some 10, none, .tk 8⟩,
 ⟨some 5, none, .tk 10⟩])
 (.seq (.ops [] [⟨some 11, none, .mv (.t 1)⟩,
 ⟨some 12, none, .mv (.t 0)⟩,
 ⟨some 13, none, .mv (.t 5)⟩,
 ⟨some 14, none, .ia 2 true (.t 12) (.t 13)⟩,
 ⟨some 15, none, .ld true 2 (.t 14)⟩,
 ⟨some 16, none, .callV (.t 11) [.t 15]⟩])
 (.cond (.t 16) (.seq (.ops [] [⟨some 17, none, .tk 5⟩,
 ⟨some 4, none, .tk 17⟩])
 (.ret))
 (.skip)))))
 (.ops [] [⟨some 18, none, .bin .add (.t 8) (.k (.d (.int .i64 1)))⟩,
 ⟨some 8, none, .mv (.t 18)⟩])))))))
 (.seq (.ops [] [⟨some 4, none, .mv (.k (.d (.int .i64 (-1))))⟩])
 (.ret)))⟩
theorem c121 : sp 121 = some (.code F121) := by kernel_rfl

/-- slices.IndexFunc[[]tenet/api.Fun,tenet/api.Fun] -/
def F130 : AFunc := ⟨19, [.tmp 4],
 .seq (.ops [] [⟨some 4, none, .mv (.k (.d (.int .i64 0)))⟩])
 (.seq (.seq (.ops [] [⟨some 6, none, .mv (.t 0)⟩,
 ⟨some 7, none, .len 1 (.t 6)⟩,
 ⟨some 8, none, .mv (.k (.d (.int .i64 0)))⟩])
 (.block 0 (.loop 19 [0, 1, 7, 8] (.seq (.ops [] [⟨some 9, none, .bin .lss (.t 8) (.t 7)⟩])
 (.seq (.cond (.t 9) (.skip)
 (.exit 0))
 (.seq (.block 1 (.seq (.ops [] [⟨some 10, none, .tk 8⟩,
 ⟨some 5, none, .tk 10⟩])
 (.seq (.ops [] [⟨some 11, none, .mv (.t 1)⟩,
 ⟨some 12, none, .mv (.t 0)⟩,
 ⟨some 13, none, .mv (.t 5)⟩,
 ⟨some 14, none, .ia 4 true (.t 12) (.t 13)⟩,
 ⟨some 15, none, .ld true 4 (.t 14)⟩,
 ⟨some 16, none, .callV (.t 11) [.t 15]⟩])
 (.cond (.t 16) (.seq (.ops [] [⟨some 17, none, .tk 5⟩,
 ⟨some 4, none, .tk 17⟩])
 (.ret))
 (.skip)))))
 (.ops [] [⟨some 18, none, .bin .add (.t 8) (.k (.d (.int .i64 1)))⟩,
 ⟨some 8, none, .mv (.t 18)⟩])))))))
 (.seq (.ops [] [⟨some 4, none, .mv (.k (.d (.int .i64 (-1))))⟩])
 (.ret)))⟩
theorem c130 : sp 130 = some (.code F130) := by kernel_rfl

/-- slices.IndexFunc[[]tenet/api.SortCon,tenet/api.SortCon] -/
def F157 : AFunc := ⟨19, [.tmp 4],
 .seq (.ops [] [⟨some 4, none, .mv (.k (.d (.int .i64 0)))⟩])
 (.seq (.seq (.ops [] [⟨some 6, none, .mv (.t 0)⟩,
 ⟨some 7, none, .len 1 (.t 6)⟩,
 ⟨some 8, none, .mv (.k (.d (.int .i64 0)))⟩])
 (.block 0 (.loop 19 [0, 1, 7, 8] (.seq (.ops [] [⟨some 9, none, .bin .lss (.t 8) (.t 7)⟩])
 (.seq (.cond (.t 9) (.skip)
 (.exit 0))
 (.seq (.block 1 (.seq (.ops [] [⟨some 10, none, .tk 8⟩,
 ⟨some 5, none, .tk 10⟩])
 (.seq (.ops [] [⟨some 11, none, .mv (.t 1)⟩,
 ⟨some 12, none, .mv (.t 0)⟩,
 ⟨some 13, none, .mv (.t 5)⟩,
 ⟨some 14, none, .ia 2 true (.t 12) (.t 13)⟩,
 ⟨some 15, none, .ld true 2 (.t 14)⟩,
 ⟨some 16, none, .callV (.t 11) [.t 15]⟩])
 (.cond (.t 16) (.seq (.ops [] [⟨some 17, none, .tk 5⟩,
 ⟨some 4, none, .tk 17⟩])
 (.ret))
 (.skip)))))
 (.ops [] [⟨some 18, none, .bin .add (.t 8) (.k (.d (.int .i64 1)))⟩,
 ⟨some 8, none, .mv (.t 18)⟩])))))))
 (.seq (.ops [] [⟨some 4, none, .mv (.k (.d (.int .i64 (-1))))⟩])
 (.ret)))⟩
theorem c157 : sp 157 = some (.code F157) := by kernel_rfl

/-- tenet/split.shaped -/
def F56 : AFunc := ⟨94, [.tmp 2],
 .seq (.ops [] [⟨some 1, none, .box true 2 (.t 0)⟩,
 ⟨some 2, none, .mv (.k (.d (.bool false)))⟩])
 (.seq (.seq (.ops [] [⟨some 15, none, .fa 0 1 false (.t 1)⟩,
 ⟨some 16, none, .ld false 1 (.t 15)⟩,
 ⟨some 17, none, .len 1 (.t 16)⟩,
 ⟨some 18, none, .bin .gtr (.t 17) (.k (.d (.int .i64 8)))⟩,
 ⟨some 19, none, .mv (.t 18)⟩,
 ⟨some 20, some (19, false), .fa 1 1 false (.t 1)⟩,
 ⟨some 21, some (19, false), .ld false 1 (.t 20)⟩,
 ⟨some 22, some (19, false), .len 1 (.t 21)⟩,
 ⟨some 23, some (19, false), .bin .gtr (.t 22) (.k (.d (.int .i64 12)))⟩,
 ⟨some 24, none, .pick (.t 19) (.k (.d (.bool true))) (.t 23)⟩])
 (.cond (.t 24) (.seq (.ops [] [⟨some 2, none, .mv (.k (.d (.bool false)))⟩])
 (.ret))
 (.skip)))
 (.seq (.ops [] [⟨some 25, none, .mkmap⟩,
 ⟨some 3, none, .alloc false [.d (.fmap [] [])]⟩,
 ⟨none, none, .st false 1 (.t 3) (.t 25)⟩])
 (.seq (.ops [] [⟨some 26, none, .fn 101 [.t 3]⟩,
 ⟨some 4, none, .tk 26⟩])
 (.seq (.seq (.ops [] [⟨some 27, none, .fa 0 1 false (.t 1)⟩,
 ⟨some 28, none, .ld false 1 (.t 27)⟩,
 ⟨some 29, none, .len 1 (.t 28)⟩,
 ⟨some 30, none, .mv (.k (.d (.int .i64 0)))⟩])
 (.block 0 (.loop 94 [1, 4, 28, 29, 30] (.seq (.ops [] [⟨some 31, none, .bin .lss (.t 30) (.t 29)⟩])
 (.seq (.cond (.t 31) (.skip)
 (.exit 0))
 (.seq (.block 1 (.seq (.ops [] [⟨some 32, none, .ia 2 true (.t 28) (.t 30)⟩,
 ⟨some 33, none, .ld true 2 (.t 32)⟩,
 ⟨some 6, none, .alloc true [.d (.str []), .nil 2]⟩,
 ⟨none, none, .st true 2 (.t 6) (.t 33)⟩])
 (.seq (.seq (.ops [] [⟨some 34, none, .mv (.t 4)⟩,
 ⟨some 35, none, .fa 0 1 false (.t 6)⟩,
 ⟨some 36, none, .ld false 1 (.t 35)⟩,
 ⟨some 37, none, .callVS (.t 34) [.t 36]⟩,
 ⟨some 38, none, .not (.t 37)⟩,
 ⟨some 39, none, .mv (.t 38)⟩,
 ⟨some 40, some (39, false), .fa 1 1 false (.t 6)⟩,
 ⟨some 41, some (39, false), .ld false 1 (.t 40)⟩,
 ⟨some 42, some (39, false), .len 1 (.t 41)⟩,
 ⟨some 43, some (39, false), .bin .gtr (.t 42) (.k (.d (.int .i64 8)))⟩,
 ⟨some 44, none, .pick (.t 39) (.k (.d (.bool true))) (.t 43)⟩])
 (.cond (.t 44) (.seq (.ops [] [⟨some 2, none, .mv (.k (.d (.bool false)))⟩])
 (.ret))
 (.skip)))
 (.seq (.ops [] [⟨some 45, none, .fa 1 1 false (.t 6)⟩,
 ⟨some 46, none, .ld false 1 (.t 45)⟩,
 ⟨some 47, none, .len 1 (.t 46)⟩,
 ⟨some 48, none, .mv (.k (.d (.int .i64 0)))⟩])
 (.block 2 (.loop 94 [1, 4, 28, 29, 30, 46, 47, 48] (.seq (.ops [] [⟨some 49, none, .bin .lss (.t 48) (.t 47)⟩])
 (.seq (.cond (.t 49) (.skip)
 (.exit 2))
 (.seq (.block 3 (.seq (.ops [] [⟨some 50, none, .ia 2 true (.t 46) (.t 48)⟩,
 ⟨some 51, none, .ld true 2 (.t 50)⟩,
 ⟨some 8, none, .alloc true [.d (.str []), .nil 1]⟩,
 ⟨none, none, .st true 2 (.t 8) (.t 51)⟩])
 (.seq (.seq (.ops [] [⟨some 52, none, .mv (.t 4)⟩,
 ⟨some 53, none, .fa 0 1 false (.t 8)⟩,
 ⟨some 54, none, .ld false 1 (.t 53)⟩,
 ⟨some 55, none, .callVS (.t 52) [.t 54]⟩,
 ⟨some 56, none, .not (.t 55)⟩,
 ⟨some 57, none, .mv (.t 56)⟩,
 ⟨some 58, some (57, false), .fa 1 1 false (.t 8)⟩,
 ⟨some 59, some (57, false), .ld false 1 (.t 58)⟩,
 ⟨some 60, some (57, false), .len 1 (.t 59)⟩,
 ⟨some 61, some (57, false), .bin .gtr (.t 60) (.k (.d (.int .i64 4)))⟩,
 ⟨some 62, none, .pick (.t 57) (.k (.d (.bool true))) (.t 61)⟩])
 (.cond (.t 62) (.seq (.ops [] [⟨some 2, none, .mv (.k (.d (.bool false)))⟩])
 (.ret))
 (.skip)))
 (.seq (.ops [] [⟨some 63, none, .fa 1 1 false (.t 8)⟩,
 ⟨some 64, none, .ld false 1 (.t 63)⟩,
 ⟨some 65, none, .len 1 (.t 64)⟩,
 ⟨some 66, none, .mv (.k (.d (.int .i64 0)))⟩])
 (.block 4 (.loop 94 [1, 4, 28, 29, 30, 46, 47, 48, 64, 65, 66] (.seq (.ops [] [⟨some 67, none, .bin .lss (.t 66) (.t 65)⟩])
 (.seq (.cond (.t 67) (.skip)
 (.exit 4))
 (.seq (.block 5 (.seq (.ops [] [⟨some 68, none, .ia 1 false (.t 64) (.t 66)⟩,
 ⟨some 69, none, .ld false 1 (.t 68)⟩,
 ⟨some 10, none, .tk 69⟩])
 (.seq (.ops [] [⟨some 71, none, .ld true 2 (.t 1)⟩,
 ⟨some 72, none, .mv (.t 10)⟩,
 ⟨some 73, none, .call 103 [.t 71, .t 72]⟩,
 ⟨some 70, none, .mv (.t 73)⟩,
 ⟨some 74, none, .ext (.t 70) 0⟩,
 ⟨some 75, none, .ext (.t 70) 1⟩,
 ⟨some 11, none, .alloc true [.d (.str []), .nil 2]⟩,
 ⟨none, none, .st true 2 (.t 11) (.t 74)⟩,
 ⟨some 12, none, .tk 75⟩])
 (.seq (.ops [] [⟨some 76, none, .mv (.t 12)⟩,
 ⟨some 77, none, .not (.t 76)⟩])
 (.cond (.t 77) (.seq (.ops [] [⟨some 2, none, .mv (.k (.d (.bool false)))⟩])
 (.ret))
 (.skip))))))
 (.ops [] [⟨some 78, none, .bin .add (.t 66) (.k (.d (.int .i64 1)))⟩,
 ⟨some 66, none, .mv (.t 78)⟩]))))))))))
 (.ops [] [⟨some 79, none, .bin .add (.t 48) (.k (.d (.int .i64 1)))⟩,
 ⟨some 48, none, .mv (.t 79)⟩]))))))))))
 (.ops [] [⟨some 80, none, .bin .add (.t 30) (.k (.d (.int .i64 1)))⟩,
 ⟨some 30, none, .mv (.t 80)⟩])))))))
 (.seq (.seq (.ops [] [⟨some 81, none, .fa 1 1 false (.t 1)⟩,
 ⟨some 82, none, .ld false 1 (.t 81)⟩,
 ⟨some 83, none, .len 1 (.t 82)⟩,
 ⟨some 84, none, .mv (.k (.d (.int .i64 0)))⟩])
 (.block 6 (.loop 94 [4, 82, 83, 84] (.seq (.ops [] [⟨some 85, none, .bin .lss (.t 84) (.t 83)⟩])
 (.seq (.cond (.t 85) (.skip)
 (.exit 6))
 (.seq (.block 7 (.seq (.ops [] [⟨some 86, none, .ia 4 true (.t 82) (.t 84)⟩,
 ⟨some 87, none, .ld true 4 (.t 86)⟩,
 ⟨some 14, none, .alloc true [.d (.str []), .nil 1, .d (.str []), .nil 5]⟩,
 ⟨none, none, .st true 4 (.t 14) (.t 87)⟩])
 (.seq (.ops [] [⟨some 88, none, .mv (.t 4)⟩,
 ⟨some 89, none, .fa 0 1 false (.t 14)⟩,
 ⟨some 90, none, .ld false 1 (.t 89)⟩,
 ⟨some 91, none, .callVS (.t 88) [.t 90]⟩,
 ⟨some 92, none, .not (.t 91)⟩])
 (.cond (.t 92) (.seq (.ops [] [⟨some 2, none, .mv (.k (.d (.bool false)))⟩])
 (.ret))
 (.skip)))))
 (.ops [] [⟨some 93, none, .bin .add (.t 84) (.k (.d (.int .i64 1)))⟩,
 ⟨some 84, none, .mv (.t 93)⟩])))))))
 (.seq (.ops [] [⟨some 2, none, .mv (.k (.d (.bool true)))⟩])
 (.ret)))))))⟩
theorem c56 : sp 56 = some (.code F56) := by kernel_rfl

/-- tenet/split.shaped$1 -/
def F101 : AFunc := ⟨16, [.tmp 3],
 .seq (.ops [] [⟨some 3, none, .mv (.k (.d (.bool false)))⟩])
 (.seq (.ops [] [⟨some 5, none, .mv (.t 0)⟩,
 ⟨some 6, none, .call 102 [.t 5]⟩,
 ⟨some 7, none, .mv (.t 6)⟩,
 ⟨some 8, some (7, true), .ld false 1 (.t 1)⟩,
 ⟨some 9, some (7, true), .mv (.t 0)⟩,
 ⟨some 10, some (7, true), .look 1 false (.bool false) (.t 8) (.t 9)⟩,
 ⟨some 11, some (7, true), .not (.t 10)⟩,
 ⟨some 12, none, .pick (.t 7) (.t 11) (.k (.d (.bool false)))⟩,
 ⟨some 4, none, .tk 12⟩])
 (.seq (.ops [] [⟨some 13, none, .ld false 1 (.t 1)⟩,
 ⟨some 14, none, .mv (.t 0)⟩,
 ⟨none, none, .mup 1 (.t 13) (.t 14) (.k (.d (.bool true)))⟩])
 (.seq (.ops [] [⟨some 15, none, .tk 4⟩,
 ⟨some 3, none, .tk 15⟩])
 (.ret))))⟩
theorem c101 : sp 101 = some (.code F101) := by kernel_rfl

/-- tenet/split.typed -/
def F91 : AFunc := ⟨48, [.tmp 4],
 .seq (.ops [] [⟨some 2, none, .box true 2 (.t 0)⟩,
 ⟨some 3, none, .box true 4 (.t 1)⟩,
 ⟨some 4, none, .mv (.k (.d (.bool false)))⟩])
 (.seq (.ops [] [⟨some 12, none, .ld true 2 (.t 2)⟩,
 ⟨some 13, none, .fa 2 1 false (.t 3)⟩,
 ⟨some 14, none, .ld false 1 (.t 13)⟩,
 ⟨some 15, none, .call 103 [.t 12, .t 14]⟩,
 ⟨some 11, none, .mv (.t 15)⟩,
 ⟨some 16, none, .ext (.t 11) 0⟩,
 ⟨some 17, none, .ext (.t 11) 1⟩,
 ⟨some 5, none, .alloc true [.d (.str []), .nil 2]⟩,
 ⟨none, none, .st true 2 (.t 5) (.t 16)⟩,
 ⟨some 6, none, .tk 17⟩])
 (.seq (.seq (.ops [] [⟨some 18, none, .mv (.t 6)⟩,
 ⟨some 19, none, .not (.t 18)⟩,
 ⟨some 20, none, .mv (.t 19)⟩,
 ⟨some 21, some (20, false), .fa 1 1 false (.t 3)⟩,
 ⟨some 22, some (20, false), .ld false 1 (.t 21)⟩,
 ⟨some 23, some (20, false), .len 1 (.t 22)⟩,
 ⟨some 24, some (20, false), .bin .gtr (.t 23) (.k (.d (.int .i64 6)))⟩,
 ⟨some 25, none, .pick (.t 20) (.k (.d (.bool true))) (.t 24)⟩,
 ⟨some 26, none, .mv (.t 25)⟩,
 ⟨some 27, some (26, false), .fa 3 1 false (.t 3)⟩,
 ⟨some 28, some (26, false), .ld false 1 (.t 27)⟩,
 ⟨some 29, some (26, false), .len 1 (.t 28)⟩,
 ⟨some 30, some (26, false), .bin .gtr (.t 29) (.k (.d (.int .i64 16)))⟩,
 ⟨some 31, none, .pick (.t 26) (.k (.d (.bool true))) (.t 30)⟩])
 (.cond (.t 31) (.seq (.ops [] [⟨some 4, none, .mv (.k (.d (.bool false)))⟩])
 (.ret))
 (.skip)))
 (.seq (.seq (.ops [] [⟨some 32, none, .fa 1 1 false (.t 3)⟩,
 ⟨some 33, none, .ld false 1 (.t 32)⟩,
 ⟨some 34, none, .len 1 (.t 33)⟩,
 ⟨some 35, none, .mv (.k (.d (.int .i64 0)))⟩])
 (.block 0 (.loop 48 [2, 33, 34, 35] (.seq (.ops [] [⟨some 36, none, .bin .lss (.t 35) (.t 34)⟩])
 (.seq (.cond (.t 36) (.skip)
 (.exit 0))
 (.seq (.block 1 (.seq (.ops [] [⟨some 37, none, .ia 1 false (.t 33) (.t 35)⟩,
 ⟨some 38, none, .ld false 1 (.t 37)⟩,
 ⟨some 8, none, .tk 38⟩])
 (.seq (.ops [] [⟨some 40, none, .ld true 2 (.t 2)⟩,
 ⟨some 41, none, .mv (.t 8)⟩,
 ⟨some 42, none, .call 103 [.t 40, .t 41]⟩,
 ⟨some 39, none, .mv (.t 42)⟩,
 ⟨some 43, none, .ext (.t 39) 0⟩,
 ⟨some 44, none, .ext (.t 39) 1⟩,
 ⟨some 9, none, .alloc true [.d (.str []), .nil 2]⟩,
 ⟨none, none, .st true 2 (.t 9) (.t 43)⟩,
 ⟨some 10, none, .tk 44⟩])
 (.seq (.ops [] [⟨some 45, none, .mv (.t 10)⟩,
 ⟨some 46, none, .not (.t 45)⟩])
 (.cond (.t 46) (.seq (.ops [] [⟨some 4, none, .mv (.k (.d (.bool false)))⟩])
 (.ret))
 (.skip))))))
 (.ops [] [⟨some 47, none, .bin .add (.t 35) (.k (.d (.int .i64 1)))⟩,
 ⟨some 35, none, .mv (.t 47)⟩])))))))
 (.seq (.ops [] [⟨some 4, none, .mv (.k (.d (.bool true)))⟩])
 (.ret)))))⟩
theorem c91 : sp 91 = some (.code F91) := by kernel_rfl

/-- tenet/split.values -/
def F57 : AFunc := ⟨40, [.tmp 2],
 .seq (.ops [] [⟨some 1, none, .box true 2 (.t 0)⟩,
 ⟨some 2, none, .mv (.k (.d (.fmap [] [])))⟩])
 (.seq (.ops [] [⟨some 8, none, .mkmap⟩,
 ⟨some 3, none, .alloc false [.d (.fmap [] [])]⟩,
 ⟨none, none, .st false 1 (.t 3) (.t 8)⟩])
 (.seq (.seq (.ops [] [⟨some 9, none, .fa 0 1 false (.t 1)⟩,
 ⟨some 10, none, .ld false 1 (.t 9)⟩,
 ⟨some 11, none, .len 1 (.t 10)⟩,
 ⟨some 12, none, .mv (.k (.d (.int .i64 0)))⟩])
 (.block 0 (.loop 40 [1, 3, 11, 12] (.seq (.ops [] [⟨some 13, none, .bin .lss (.t 12) (.t 11)⟩])
 (.seq (.cond (.t 13) (.skip)
 (.exit 0))
 (.seq (.block 1 (.seq (.ops [] [⟨some 14, none, .fa 0 1 false (.t 1)⟩,
 ⟨some 15, none, .ld false 1 (.t 14)⟩,
 ⟨some 16, none, .len 1 (.t 15)⟩,
 ⟨some 17, none, .mv (.k (.d (.int .i64 0)))⟩])
 (.block 2 (.loop 40 [1, 3, 11, 12, 15, 16, 17] (.seq (.ops [] [⟨some 18, none, .bin .lss (.t 17) (.t 16)⟩])
 (.seq (.cond (.t 18) (.skip)
 (.exit 2))
 (.seq (.block 3 (.seq (.ops [] [⟨some 19, none, .ia 2 true (.t 15) (.t 17)⟩,
 ⟨some 20, none, .ld true 2 (.t 19)⟩,
 ⟨some 5, none, .alloc true [.d (.str []), .nil 2]⟩,
 ⟨none, none, .st true 2 (.t 5) (.t 20)⟩])
 (.seq (.ops [] [⟨some 21, none, .fa 1 1 false (.t 5)⟩,
 ⟨some 22, none, .ld false 1 (.t 21)⟩,
 ⟨some 23, none, .len 1 (.t 22)⟩,
 ⟨some 24, none, .mv (.k (.d (.int .i64 0)))⟩])
 (.block 4 (.loop 40 [1, 3, 5, 11, 12, 15, 16, 17, 22, 23, 24] (.seq (.ops [] [⟨some 25, none, .bin .lss (.t 24) (.t 23)⟩])
 (.seq (.cond (.t 25) (.skip)
 (.exit 4))
 (.seq (.block 5 (.seq (.ops [] [⟨some 26, none, .ia 2 true (.t 22) (.t 24)⟩,
 ⟨some 27, none, .ld true 2 (.t 26)⟩,
 ⟨some 7, none, .alloc true [.d (.str []), .nil 1]⟩,
 ⟨none, none, .st true 2 (.t 7) (.t 27)⟩])
 (.seq (.ops [] [⟨some 28, none, .fa 1 1 false (.t 7)⟩,
 ⟨some 29, none, .ld false 1 (.t 28)⟩,
 ⟨some 30, none, .fn 104 [.t 3]⟩,
 ⟨some 31, none, .call 92 [.t 29, .t 30]⟩,
 ⟨some 32, none, .not (.t 31)⟩])
 (.cond (.t 32) (.ops [] [⟨some 33, none, .ld false 1 (.t 3)⟩,
 ⟨some 34, none, .fa 0 1 false (.t 5)⟩,
 ⟨some 35, none, .ld false 1 (.t 34)⟩,
 ⟨none, none, .mup 1 (.t 33) (.t 35) (.k (.d (.bool true)))⟩])
 (.skip)))))
 (.ops [] [⟨some 36, none, .bin .add (.t 24) (.k (.d (.int .i64 1)))⟩,
 ⟨some 24, none, .mv (.t 36)⟩])))))))))
 (.ops [] [⟨some 37, none, .bin .add (.t 17) (.k (.d (.int .i64 1)))⟩,
 ⟨some 17, none, .mv (.t 37)⟩]))))))))
 (.ops [] [⟨some 38, none, .bin .add (.t 12) (.k (.d (.int .i64 1)))⟩,
 ⟨some 12, none, .mv (.t 38)⟩])))))))
 (.seq (.ops [] [⟨some 39, none, .ld false 1 (.t 3)⟩,
 ⟨some 2, none, .tk 39⟩])
 (.ret))))⟩
theorem c57 : sp 57 = some (.code F57) := by kernel_rfl

/-- tenet/split.values$1 -/
def F104 : AFunc := ⟨8, [.tmp 3],
 .seq (.ops [] [⟨some 3, none, .mv (.k (.d (.bool false)))⟩])
 (.seq (.ops [] [⟨some 4, none, .ld false 1 (.t 1)⟩,
 ⟨some 5, none, .mv (.t 0)⟩,
 ⟨some 6, none, .look 1 false (.bool false) (.t 4) (.t 5)⟩,
 ⟨some 7, none, .not (.t 6)⟩,
 ⟨some 3, none, .tk 7⟩])
 (.ret))⟩
theorem c104 : sp 104 = some (.code F104) := by kernel_rfl

/-- slices.ContainsFunc[[]string,string] -/
def F92 : AFunc := ⟨9, [.tmp 4],
 .seq (.ops [] [⟨some 4, none, .mv (.k (.d (.bool false)))⟩])
 (.seq (.ops [] [⟨some 5, none, .mv (.t 0)⟩,
 ⟨some 6, none, .mv (.t 1)⟩,
 ⟨some 7, none, .call 144 [.t 5, .t 6]⟩,
 ⟨some 8, none, .bin .geq (.t 7) (.k (.d (.int .i64 0)))⟩,
 ⟨some 4, none, .tk 8⟩])
 (.ret))⟩
theorem c92 : sp 92 = some (.code F92) := by kernel_rfl

/-- slices.IndexFunc[[]string,string] -/
def F144 : AFunc := ⟨19, [.tmp 4],
 .seq (.ops [] [⟨some 4, none, .mv (.k (.d (.int .i64 0)))⟩])
 (.seq (.seq (.ops [] [⟨some 6, none, .mv (.t 0)⟩,
 ⟨some 7, none, .len 1 (.t 6)⟩,
 ⟨some 8, none, .mv (.k (.d (.int .i64 0)))⟩])
 (.block 0 (.loop 19 [0, 1, 7, 8] (.seq (.ops [] [⟨some 9, none, .bin .lss (.t 8) (.t 7)⟩])
 (.seq (.cond (.t 9) (.skip)
 (.exit 0))
 (.seq (.block 1 (.seq (.ops [] [⟨some 10, none, .tk 8⟩,
 ⟨some 5, none, .tk 10⟩])
 (.seq (.ops [] [⟨some 11, none, .mv (.t 1)⟩,
 ⟨some 12, none, .mv (.t 0)⟩,
 ⟨some 13, none, .mv (.t 5)⟩,
 ⟨some 14, none, .ia 1 false (.t 12) (.t 13)⟩,
 ⟨some 15, none, .ld false 1 (.t 14)⟩,
 ⟨some 16, none, .callV (.t 11) [.t 15]⟩])
 (.cond (.t 16) (.seq (.ops [] [⟨some 17, none, .tk 5⟩,
 ⟨some 4, none, .tk 17⟩])
 (.ret))
 (.skip)))))
 (.ops [] [⟨some 18, none, .bin .add (.t 8) (.k (.d (.int .i64 1)))⟩,
 ⟨some 8, none, .mv (.t 18)⟩])))))))
 (.seq (.ops [] [⟨some 4, none, .mv (.k (.d (.int .i64 (-1))))⟩])
 (.ret)))⟩
theorem c144 : sp 144 = some (.code F144) := by kernel_rfl

end Go.Sp
