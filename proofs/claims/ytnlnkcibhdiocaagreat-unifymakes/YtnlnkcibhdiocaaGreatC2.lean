/- The statement about the solutions that are made out of bodies (UnifyMakes) holds for every input. Here: The program's functions as abstract code. -/
import Derived.Test.YtnlnkcibhdiocaaGreatD1
import Derived.KernelRfl

set_option linter.unusedVariables false
set_option linter.unusedSimpArgs false
set_option linter.unnecessarySimpa false

/-! The program's functions as abstract code. -/
namespace Go.Tm
open Go.Abs Go.Proofs
set_option maxRecDepth 20000

/-- tenet/tenetlaw09.ValueIs -/
def F5 : AFunc := ⟨13, [.tmp 2],
 .seq (.ops [] [⟨some 1, none, .box true 5 (.t 0)⟩,
 ⟨some 2, none, .mv (.k (.d (.bool false)))⟩])
 (.seq (.seq (.ops [] [⟨some 3, none, .ld true 5 (.t 1)⟩,
 ⟨some 4, none, .call 18 [.t 3, .k (.d (.int .i64 400))]⟩])
 (.cond (.t 4) (.seq (.ops [] [⟨some 2, none, .mv (.k (.d (.bool true)))⟩])
 (.ret))
 (.skip)))
 (.seq (.ops [] [⟨some 5, none, .ld true 5 (.t 1)⟩,
 ⟨some 6, none, .call 19 [.t 5]⟩,
 ⟨some 7, none, .ld true 5 (.t 1)⟩,
 ⟨some 8, none, .call 20 [.t 7]⟩,
 ⟨some 9, none, .eqB false (.t 6) (.t 8)⟩,
 ⟨some 10, none, .mv (.t 9)⟩,
 ⟨some 11, some (10, true), .call 21 []⟩,
 ⟨some 12, none, .pick (.t 10) (.t 11) (.k (.d (.bool false)))⟩,
 ⟨some 2, none, .tk 12⟩])
 (.ret)))⟩
theorem c5 : sp 5 = some (.code F5) := by kernel_rfl

/-- tenet/tenetref00.Heavy -/
def F18 : AFunc := ⟨14, [.tmp 4],
 .seq (.ops [] [⟨some 2, none, .box true 5 (.t 0)⟩,
 ⟨some 4, none, .mv (.k (.d (.bool false)))⟩])
 (.seq (.ops [] [⟨some 5, none, .ld true 5 (.t 2)⟩,
 ⟨some 6, none, .mv (.t 1)⟩,
 ⟨some 7, none, .call 50 [.t 5, .t 6]⟩,
 ⟨some 8, none, .mv (.t 1)⟩,
 ⟨some 9, none, .bin .gtr (.t 7) (.t 8)⟩,
 ⟨some 10, none, .mv (.t 9)⟩,
 ⟨some 11, some (10, false), .ld true 5 (.t 2)⟩,
 ⟨some 12, some (10, false), .call 51 [.t 11]⟩,
 ⟨some 13, none, .pick (.t 10) (.k (.d (.bool true))) (.t 12)⟩,
 ⟨some 4, none, .tk 13⟩])
 (.ret))⟩
theorem c18 : sp 18 = some (.code F18) := by kernel_rfl

/-- tenet/tenetref00.Nodes -/
def F50 : AFunc := ⟨59, [.tmp 4],
 .seq (.ops [] [⟨some 2, none, .box true 5 (.t 0)⟩,
 ⟨some 4, none, .mv (.k (.d (.int .i64 0)))⟩])
 (.seq (.ops [] [⟨some 5, none, .mv (.k (.d (.int .i64 1)))⟩])
 (.seq (.seq (.ops [] [⟨some 6, none, .mv (.k (.d (.int .i64 0)))⟩])
 (.block 0 (.loop 59 [1, 2, 5, 6] (.seq (.seq (.ops [] [⟨some 8, none, .mv (.t 6)⟩,
 ⟨some 9, none, .fa 3 1 false (.t 2)⟩,
 ⟨some 10, none, .ld false 1 (.t 9)⟩,
 ⟨some 11, none, .len 1 (.t 10)⟩,
 ⟨some 12, none, .bin .lss (.t 8) (.t 11)⟩,
 ⟨some 13, none, .mv (.t 12)⟩,
 ⟨some 14, some (13, true), .mv (.t 5)⟩,
 ⟨some 15, some (13, true), .mv (.t 1)⟩,
 ⟨some 16, some (13, true), .bin .leq (.t 14) (.t 15)⟩,
 ⟨some 17, none, .pick (.t 13) (.t 16) (.k (.d (.bool false)))⟩])
 (.cond (.t 17) (.skip)
 (.exit 0)))
 (.seq (.block 1 (.ops [] [⟨some 20, none, .mv (.t 5)⟩,
 ⟨some 21, none, .bin .add (.t 20) (.k (.d (.int .i64 1)))⟩,
 ⟨some 22, none, .fa 3 1 false (.t 2)⟩,
 ⟨some 23, none, .ld false 1 (.t 22)⟩,
 ⟨some 24, none, .mv (.t 6)⟩,
 ⟨some 25, none, .ia 2 true (.t 23) (.t 24)⟩,
 ⟨some 26, none, .fa 1 1 false (.t 25)⟩,
 ⟨some 27, none, .ld false 1 (.t 26)⟩,
 ⟨some 28, none, .len 1 (.t 27)⟩,
 ⟨some 29, none, .mv (.t 1)⟩,
 ⟨some 30, none, .mm false (.t 28) (.t 29)⟩,
 ⟨some 31, none, .bin .add (.t 21) (.t 30)⟩,
 ⟨some 5, none, .tk 31⟩]))
 (.ops [] [⟨some 18, none, .mv (.t 6)⟩,
 ⟨some 19, none, .bin .add (.t 18) (.k (.d (.int .i64 1)))⟩,
 ⟨some 6, none, .tk 19⟩]))))))
 (.seq (.seq (.ops [] [⟨some 7, none, .mv (.k (.d (.int .i64 0)))⟩])
 (.block 2 (.loop 59 [1, 2, 5, 7] (.seq (.seq (.ops [] [⟨some 32, none, .mv (.t 7)⟩,
 ⟨some 33, none, .fa 4 1 false (.t 2)⟩,
 ⟨some 34, none, .ld false 1 (.t 33)⟩,
 ⟨some 35, none, .len 1 (.t 34)⟩,
 ⟨some 36, none, .bin .lss (.t 32) (.t 35)⟩,
 ⟨some 37, none, .mv (.t 36)⟩,
 ⟨some 38, some (37, true), .mv (.t 5)⟩,
 ⟨some 39, some (37, true), .mv (.t 1)⟩,
 ⟨some 40, some (37, true), .bin .leq (.t 38) (.t 39)⟩,
 ⟨some 41, none, .pick (.t 37) (.t 40) (.k (.d (.bool false)))⟩])
 (.cond (.t 41) (.skip)
 (.exit 2)))
 (.seq (.block 3 (.ops [] [⟨some 44, none, .mv (.t 5)⟩,
 ⟨some 45, none, .fa 4 1 false (.t 2)⟩,
 ⟨some 46, none, .ld false 1 (.t 45)⟩,
 ⟨some 47, none, .mv (.t 7)⟩,
 ⟨some 48, none, .ia 5 true (.t 46) (.t 47)⟩,
 ⟨some 49, none, .ld true 5 (.t 48)⟩,
 ⟨some 50, none, .mv (.t 1)⟩,
 ⟨some 51, none, .mv (.t 5)⟩,
 ⟨some 52, none, .bin .sub (.t 50) (.t 51)⟩,
 ⟨some 53, none, .call 50 [.t 49, .t 52]⟩,
 ⟨some 54, none, .bin .add (.t 44) (.t 53)⟩,
 ⟨some 5, none, .tk 54⟩]))
 (.ops [] [⟨some 42, none, .mv (.t 7)⟩,
 ⟨some 43, none, .bin .add (.t 42) (.k (.d (.int .i64 1)))⟩,
 ⟨some 7, none, .tk 43⟩]))))))
 (.seq (.ops [] [⟨some 55, none, .mv (.t 5)⟩,
 ⟨some 56, none, .mv (.t 1)⟩,
 ⟨some 57, none, .bin .add (.t 56) (.k (.d (.int .i64 1)))⟩,
 ⟨some 58, none, .mm false (.t 55) (.t 57)⟩,
 ⟨some 4, none, .tk 58⟩])
 (.ret)))))⟩
theorem c50 : sp 50 = some (.code F50) := by kernel_rfl

/-- tenet/tenetref00.long -/
def F51 : AFunc := ⟨21, [.tmp 2],
 .seq (.ops [] [⟨some 1, none, .box true 5 (.t 0)⟩,
 ⟨some 2, none, .mv (.k (.d (.bool false)))⟩])
 (.seq (.seq (.ops [] [⟨some 4, none, .fa 2 1 false (.t 1)⟩,
 ⟨some 5, none, .ld false 1 (.t 4)⟩,
 ⟨some 6, none, .len 0 (.t 5)⟩,
 ⟨some 7, none, .bin .gtr (.t 6) (.k (.d (.int .i64 200)))⟩])
 (.cond (.t 7) (.seq (.ops [] [⟨some 2, none, .mv (.k (.d (.bool true)))⟩])
 (.ret))
 (.skip)))
 (.seq (.seq (.ops [] [⟨some 3, none, .mv (.k (.d (.int .i64 0)))⟩])
 (.block 0 (.loop 21 [1, 3] (.seq (.seq (.ops [] [⟨some 8, none, .mv (.t 3)⟩,
 ⟨some 9, none, .fa 4 1 false (.t 1)⟩,
 ⟨some 10, none, .ld false 1 (.t 9)⟩,
 ⟨some 11, none, .len 1 (.t 10)⟩,
 ⟨some 12, none, .bin .lss (.t 8) (.t 11)⟩])
 (.cond (.t 12) (.skip)
 (.exit 0)))
 (.seq (.block 1 (.seq (.ops [] [⟨some 15, none, .fa 4 1 false (.t 1)⟩,
 ⟨some 16, none, .ld false 1 (.t 15)⟩,
 ⟨some 17, none, .mv (.t 3)⟩,
 ⟨some 18, none, .ia 5 true (.t 16) (.t 17)⟩,
 ⟨some 19, none, .ld true 5 (.t 18)⟩,
 ⟨some 20, none, .call 51 [.t 19]⟩])
 (.cond (.t 20) (.seq (.ops [] [⟨some 2, none, .mv (.k (.d (.bool true)))⟩])
 (.ret))
 (.skip))))
 (.ops [] [⟨some 13, none, .mv (.t 3)⟩,
 ⟨some 14, none, .bin .add (.t 13) (.k (.d (.int .i64 1)))⟩,
 ⟨some 3, none, .tk 14⟩]))))))
 (.seq (.ops [] [⟨some 2, none, .mv (.k (.d (.bool false)))⟩])
 (.ret))))⟩
theorem c51 : sp 51 = some (.code F51) := by kernel_rfl

/-- tenet/term.Form -/
def F52 : AFunc := ⟨11, [.tmp 2],
 .seq (.ops [] [⟨some 1, none, .box true 5 (.t 0)⟩,
 ⟨some 2, none, .mv (.k (.d (.bool false)))⟩])
 (.seq (.ops [] [⟨some 3, none, .ld true 5 (.t 1)⟩,
 ⟨some 4, none, .call 90 [.t 3]⟩,
 ⟨some 5, none, .mv (.t 4)⟩,
 ⟨some 6, some (5, true), .fa 4 1 false (.t 1)⟩,
 ⟨some 7, some (5, true), .ld false 1 (.t 6)⟩,
 ⟨some 8, some (5, true), .callS 62 [.t 7, .k (.d (.func 91 []))]⟩,
 ⟨some 9, some (5, true), .not (.t 8)⟩,
 ⟨some 10, none, .pick (.t 5) (.t 9) (.k (.d (.bool false)))⟩,
 ⟨some 2, none, .tk 10⟩])
 (.ret))⟩
theorem c52 : sp 52 = some (.code F52) := by kernel_rfl

/-- tenet/term.Form$1 -/
def F91 : AFunc := ⟨6, [.tmp 2],
 .seq (.ops [] [⟨some 1, none, .box true 5 (.t 0)⟩,
 ⟨some 2, none, .mv (.k (.d (.bool false)))⟩])
 (.seq (.ops [] [⟨some 3, none, .ld true 5 (.t 1)⟩,
 ⟨some 4, none, .call 52 [.t 3]⟩,
 ⟨some 5, none, .not (.t 4)⟩,
 ⟨some 2, none, .tk 5⟩])
 (.ret))⟩
theorem c91 : sp 91 = some (.code F91) := by kernel_rfl

/-- tenet/term.node -/
def F90 : AFunc := ⟨122, [.tmp 2],
 .seq (.ops [] [⟨some 1, none, .box true 5 (.t 0)⟩,
 ⟨some 2, none, .mv (.k (.d (.bool false)))⟩])
 (.seq (.ops [] [⟨some 8, none, .fa 0 1 false (.t 1)⟩,
 ⟨some 9, none, .ld false 1 (.t 8)⟩,
 ⟨some 10, none, .call 130 [.t 9]⟩,
 ⟨some 7, none, .mv (.t 10)⟩,
 ⟨some 11, none, .ext (.t 7) 0⟩,
 ⟨some 12, none, .ext (.t 7) 1⟩,
 ⟨some 3, none, .alloc true [.d (.str []), .d (.int .i64 0), .d (.int .i64 0)]⟩,
 ⟨none, none, .st true 3 (.t 3) (.t 11)⟩,
 ⟨some 4, none, .tk 12⟩])
 (.seq (.seq (.ops [] [⟨some 13, none, .mv (.t 4)⟩,
 ⟨some 14, none, .not (.t 13)⟩])
 (.cond (.t 14) (.seq (.ops [] [⟨some 2, none, .mv (.k (.d (.bool false)))⟩])
 (.ret))
 (.skip)))
 (.seq (.ops [] [⟨some 5, none, .mv (.k (.d (.int .i64 0)))⟩])
 (.seq (.block 0 (.seq (.ops [] [⟨some 16, none, .fa 1 1 false (.t 3)⟩,
 ⟨some 17, none, .ld false 1 (.t 16)⟩,
 ⟨some 18, none, .bin .and (.t 17) (.k (.d (.int .i64 8)))⟩,
 ⟨some 19, none, .bin .neq (.t 18) (.k (.d (.int .i64 0)))⟩,
 ⟨some 15, none, .tk 19⟩])
 (.cond (.t 15) (.ops [] [⟨some 5, none, .mv (.k (.d (.int .i64 2000)))⟩])
 (.seq (.ops [] [⟨some 21, none, .fa 1 1 false (.t 3)⟩,
 ⟨some 22, none, .ld false 1 (.t 21)⟩,
 ⟨some 23, none, .bin .and (.t 22) (.k (.d (.int .i64 16)))⟩,
 ⟨some 24, none, .bin .neq (.t 23) (.k (.d (.int .i64 0)))⟩,
 ⟨some 20, none, .tk 24⟩])
 (.cond (.t 20) (.ops [] [⟨some 5, none, .mv (.k (.d (.int .i64 7)))⟩])
 (.seq (.ops [] [⟨some 26, none, .fa 1 1 false (.t 3)⟩,
 ⟨some 27, none, .ld false 1 (.t 26)⟩,
 ⟨some 28, none, .bin .and (.t 27) (.k (.d (.int .i64 32)))⟩,
 ⟨some 29, none, .bin .neq (.t 28) (.k (.d (.int .i64 0)))⟩,
 ⟨some 25, none, .tk 29⟩])
 (.cond (.t 25) (.ops [] [⟨some 5, none, .mv (.k (.d (.int .i64 1)))⟩])
 (.seq (.ops [] [⟨some 31, none, .fa 1 1 false (.t 3)⟩,
 ⟨some 32, none, .ld false 1 (.t 31)⟩,
 ⟨some 33, none, .bin .and (.t 32) (.k (.d (.int .i64 64)))⟩,
 ⟨some 34, none, .bin .neq (.t 33) (.k (.d (.int .i64 0)))⟩,
 ⟨some 30, none, .tk 34⟩])
 (.cond (.t 30) (.ops [] [⟨some 5, none, .mv (.k (.d (.int .i64 3)))⟩])
 (.skip))))))))))
 (.seq (.ops [] [⟨some 6, none, .mv (.k (.d (.int .i64 0)))⟩])
 (.seq (.seq (.ops [] [⟨some 35, none, .fa 1 1 false (.t 3)⟩,
 ⟨some 36, none, .ld false 1 (.t 35)⟩,
 ⟨some 37, none, .bin .and (.t 36) (.k (.d (.int .i64 2)))⟩,
 ⟨some 38, none, .bin .neq (.t 37) (.k (.d (.int .i64 0)))⟩])
 (.cond (.t 38) (.ops [] [⟨some 6, none, .mv (.k (.d (.int .i64 1)))⟩])
 (.skip)))
 (.seq (.block 1 (.seq (.ops [] [⟨some 40, none, .fa 1 1 false (.t 1)⟩,
 ⟨some 41, none, .ld false 1 (.t 40)⟩,
 ⟨some 42, none, .bin .lss (.t 41) (.k (.d (.int .i64 0)))⟩,
 ⟨some 43, none, .mv (.t 42)⟩,
 ⟨some 44, some (43, false), .fa 1 1 false (.t 1)⟩,
 ⟨some 45, some (43, false), .ld false 1 (.t 44)⟩,
 ⟨some 46, some (43, false), .mv (.t 5)⟩,
 ⟨some 47, some (43, false), .bin .gtr (.t 45) (.t 46)⟩,
 ⟨some 48, none, .pick (.t 43) (.k (.d (.bool true))) (.t 47)⟩,
 ⟨some 39, none, .tk 48⟩])
 (.cond (.t 39) (.seq (.ops [] [⟨some 2, none, .mv (.k (.d (.bool false)))⟩])
 (.ret))
 (.seq (.seq (.ops [] [⟨some 50, none, .fa 1 1 false (.t 3)⟩,
 ⟨some 51, none, .ld false 1 (.t 50)⟩,
 ⟨some 52, none, .bin .and (.t 51) (.k (.d (.int .i64 4)))⟩,
 ⟨some 53, none, .bin .neq (.t 52) (.k (.d (.int .i64 0)))⟩,
 ⟨some 54, none, .mv (.t 53)⟩,
 ⟨some 55, some (54, true), .fa 3 1 false (.t 1)⟩,
 ⟨some 56, some (54, true), .ld false 1 (.t 55)⟩,
 ⟨some 57, some (54, true), .len 1 (.t 56)⟩,
 ⟨some 58, some (54, true), .bin .gtr (.t 57) (.k (.d (.int .i64 8)))⟩,
 ⟨some 59, none, .pick (.t 54) (.t 58) (.k (.d (.bool false)))⟩,
 ⟨some 49, none, .tk 59⟩])
 (.cond (.t 49) (.skip)
 (.ops [] [⟨some 60, none, .fa 1 1 false (.t 3)⟩,
 ⟨some 61, none, .ld false 1 (.t 60)⟩,
 ⟨some 62, none, .bin .and (.t 61) (.k (.d (.int .i64 4)))⟩,
 ⟨some 63, none, .bin .eql (.t 62) (.k (.d (.int .i64 0)))⟩,
 ⟨some 64, none, .mv (.t 63)⟩,
 ⟨some 65, some (64, true), .fa 3 1 false (.t 1)⟩,
 ⟨some 66, some (64, true), .ld false 1 (.t 65)⟩,
 ⟨some 67, some (64, true), .len 1 (.t 66)⟩,
 ⟨some 68, some (64, true), .mv (.t 6)⟩,
 ⟨some 69, some (64, true), .bin .neq (.t 67) (.t 68)⟩,
 ⟨some 70, none, .pick (.t 64) (.t 69) (.k (.d (.bool false)))⟩,
 ⟨some 49, none, .tk 70⟩])))
 (.cond (.t 49) (.seq (.ops [] [⟨some 2, none, .mv (.k (.d (.bool false)))⟩])
 (.ret))
 (.seq (.seq (.ops [] [⟨some 72, none, .fa 1 1 false (.t 3)⟩,
 ⟨some 73, none, .ld false 1 (.t 72)⟩,
 ⟨some 74, none, .bin .and (.t 73) (.k (.d (.int .i64 1)))⟩,
 ⟨some 75, none, .bin .neq (.t 74) (.k (.d (.int .i64 0)))⟩,
 ⟨some 76, none, .mv (.t 75)⟩,
 ⟨some 77, some (76, true), .fa 2 1 false (.t 1)⟩,
 ⟨some 78, some (76, true), .ld false 1 (.t 77)⟩,
 ⟨some 79, some (76, true), .call 131 [.t 78]⟩,
 ⟨some 80, some (76, true), .not (.t 79)⟩,
 ⟨some 81, none, .pick (.t 76) (.t 80) (.k (.d (.bool false)))⟩,
 ⟨some 71, none, .tk 81⟩])
 (.cond (.t 71) (.skip)
 (.ops [] [⟨some 82, none, .fa 1 1 false (.t 3)⟩,
 ⟨some 83, none, .ld false 1 (.t 82)⟩,
 ⟨some 84, none, .bin .and (.t 83) (.k (.d (.int .i64 1)))⟩,
 ⟨some 85, none, .bin .eql (.t 84) (.k (.d (.int .i64 0)))⟩,
 ⟨some 86, none, .mv (.t 85)⟩,
 ⟨some 87, some (86, true), .fa 2 1 false (.t 1)⟩,
 ⟨some 88, some (86, true), .ld false 1 (.t 87)⟩,
 ⟨some 89, some (86, true), .bin .neq (.t 88) (.k (.d (.str [])))⟩,
 ⟨some 90, none, .pick (.t 86) (.t 89) (.k (.d (.bool false)))⟩,
 ⟨some 71, none, .tk 90⟩])))
 (.cond (.t 71) (.seq (.ops [] [⟨some 2, none, .mv (.k (.d (.bool false)))⟩])
 (.ret))
 (.seq (.seq (.ops [] [⟨some 92, none, .fa 0 1 false (.t 1)⟩,
 ⟨some 93, none, .ld false 1 (.t 92)⟩,
 ⟨some 94, none, .bin .eql (.t 93) (.k (.d (.int .i64 28)))⟩,
 ⟨some 95, none, .mv (.t 94)⟩,
 ⟨some 96, some (95, true), .fa 4 1 false (.t 1)⟩,
 ⟨some 97, some (95, true), .ld false 1 (.t 96)⟩,
 ⟨some 98, some (95, true), .len 1 (.t 97)⟩,
 ⟨some 99, some (95, true), .bin .lss (.t 98) (.k (.d (.int .i64 3)))⟩,
 ⟨some 100, some (95, true), .mv (.t 99)⟩,
 ⟨some 101, some (100, false), .fa 4 1 false (.t 1)⟩,
 ⟨some 102, some (100, false), .ld false 1 (.t 101)⟩,
 ⟨some 103, some (100, false), .len 1 (.t 102)⟩,
 ⟨some 104, some (100, false), .bin .gtr (.t 103) (.k (.d (.int .i64 11)))⟩,
 ⟨some 105, some (95, true), .pick (.t 100) (.k (.d (.bool true))) (.t 104)⟩,
 ⟨some 106, none, .pick (.t 95) (.t 105) (.k (.d (.bool false)))⟩,
 ⟨some 91, none, .tk 106⟩])
 (.cond (.t 91) (.skip)
 (.ops [] [⟨some 107, none, .fa 0 1 false (.t 1)⟩,
 ⟨some 108, none, .ld false 1 (.t 107)⟩,
 ⟨some 109, none, .bin .neq (.t 108) (.k (.d (.int .i64 28)))⟩,
 ⟨some 110, none, .mv (.t 109)⟩,
 ⟨some 111, some (110, true), .fa 4 1 false (.t 1)⟩,
 ⟨some 112, some (110, true), .ld false 1 (.t 111)⟩,
 ⟨some 113, some (110, true), .len 1 (.t 112)⟩,
 ⟨some 114, some (110, true), .fa 2 1 false (.t 3)⟩,
 ⟨some 115, some (110, true), .ld false 1 (.t 114)⟩,
 ⟨some 116, some (110, true), .bin .neq (.t 113) (.t 115)⟩,
 ⟨some 117, none, .pick (.t 110) (.t 116) (.k (.d (.bool false)))⟩,
 ⟨some 91, none, .tk 117⟩])))
 (.cond (.t 91) (.seq (.ops [] [⟨some 2, none, .mv (.k (.d (.bool false)))⟩])
 (.ret))
 (.skip))))))))))
 (.seq (.ops [] [⟨some 118, none, .fa 3 1 false (.t 1)⟩,
 ⟨some 119, none, .ld false 1 (.t 118)⟩,
 ⟨some 120, none, .call 132 [.t 119, .k (.d (.func 133 []))]⟩,
 ⟨some 121, none, .not (.t 120)⟩,
 ⟨some 2, none, .tk 121⟩])
 (.ret)))))))))⟩
theorem c90 : sp 90 = some (.code F90) := by kernel_rfl

/-- tenet/term.node$1 -/
def F133 : AFunc := ⟨6, [.tmp 2],
 .seq (.ops [] [⟨some 1, none, .box true 2 (.t 0)⟩,
 ⟨some 2, none, .mv (.k (.d (.bool false)))⟩])
 (.seq (.ops [] [⟨some 3, none, .ld true 2 (.t 1)⟩,
 ⟨some 4, none, .call 134 [.t 3]⟩,
 ⟨some 5, none, .not (.t 4)⟩,
 ⟨some 2, none, .tk 5⟩])
 (.ret))⟩
theorem c133 : sp 133 = some (.code F133) := by kernel_rfl

/-- tenet/term.of -/
def F130 : AFunc := ⟨2, [.reg 48, .tmp 3],
 .seq (.ops [] [⟨some 48, none, .ralloc true [.d (.str []), .d (.int .i64 0), .d (.int .i64 0)]⟩,
 ⟨some 3, none, .mv (.k (.d (.bool false)))⟩])
 (.seq (.ops [] [⟨some 5, none, .build [.d (.str []), .d (.int .i64 0), .d (.int .i64 0)] [(0, 1, (.k (.d (.str [35])))), (1, 1, (.k (.d (.int .i64 8)))), (2, 1, (.k (.d (.int .i64 0))))]⟩,
 ⟨some 6, none, .build [.d (.str []), .d (.int .i64 0), .d (.int .i64 0)] [(0, 1, (.k (.d (.str [64])))), (1, 1, (.k (.d (.int .i64 5)))), (2, 1, (.k (.d (.int .i64 0))))]⟩,
 ⟨some 7, none, .build [.d (.str []), .d (.int .i64 0), .d (.int .i64 0)] [(0, 1, (.k (.d (.str [116, 121, 112, 101])))), (1, 1, (.k (.d (.int .i64 2)))), (2, 1, (.k (.d (.int .i64 0))))]⟩,
 ⟨some 8, none, .build [.d (.str []), .d (.int .i64 0), .d (.int .i64 0)] [(0, 1, (.k (.d (.str [112, 114, 111, 112])))), (1, 1, (.k (.d (.int .i64 0)))), (2, 1, (.k (.d (.int .i64 0))))]⟩,
 ⟨some 9, none, .build [.d (.str []), .d (.int .i64 0), .d (.int .i64 0)] [(0, 1, (.k (.d (.str [112, 105])))), (1, 1, (.k (.d (.int .i64 64)))), (2, 1, (.k (.d (.int .i64 2))))]⟩,
 ⟨some 10, none, .build [.d (.str []), .d (.int .i64 0), .d (.int .i64 0)] [(0, 1, (.k (.d (.str [108, 97, 109])))), (1, 1, (.k (.d (.int .i64 32)))), (2, 1, (.k (.d (.int .i64 2))))]⟩,
 ⟨some 11, none, .build [.d (.str []), .d (.int .i64 0), .d (.int .i64 0)] [(0, 1, (.k (.d (.str [97, 112, 112])))), (1, 1, (.k (.d (.int .i64 32)))), (2, 1, (.k (.d (.int .i64 2))))]⟩,
 ⟨some 12, none, .build [.d (.str []), .d (.int .i64 0), .d (.int .i64 0)] [(0, 1, (.k (.d (.str [115, 105, 103])))), (1, 1, (.k (.d (.int .i64 64)))), (2, 1, (.k (.d (.int .i64 2))))]⟩,
 ⟨some 13, none, .build [.d (.str []), .d (.int .i64 0), .d (.int .i64 0)] [(0, 1, (.k (.d (.str [112, 97, 105, 114])))), (1, 1, (.k (.d (.int .i64 64)))), (2, 1, (.k (.d (.int .i64 4))))]⟩,
 ⟨some 14, none, .build [.d (.str []), .d (.int .i64 0), .d (.int .i64 0)] [(0, 1, (.k (.d (.str [102, 115, 116])))), (1, 1, (.k (.d (.int .i64 0)))), (2, 1, (.k (.d (.int .i64 1))))]⟩,
 ⟨some 15, none, .build [.d (.str []), .d (.int .i64 0), .d (.int .i64 0)] [(0, 1, (.k (.d (.str [115, 110, 100])))), (1, 1, (.k (.d (.int .i64 0)))), (2, 1, (.k (.d (.int .i64 1))))]⟩,
 ⟨some 16, none, .build [.d (.str []), .d (.int .i64 0), .d (.int .i64 0)] [(0, 1, (.k (.d (.str [117, 110, 105, 116])))), (1, 1, (.k (.d (.int .i64 0)))), (2, 1, (.k (.d (.int .i64 0))))]⟩,
 ⟨some 17, none, .build [.d (.str []), .d (.int .i64 0), .d (.int .i64 0)] [(0, 1, (.k (.d (.str [115, 116, 97, 114])))), (1, 1, (.k (.d (.int .i64 0)))), (2, 1, (.k (.d (.int .i64 0))))]⟩,
 ⟨some 18, none, .build [.d (.str []), .d (.int .i64 0), .d (.int .i64 0)] [(0, 1, (.k (.d (.str [116, 114, 117, 101])))), (1, 1, (.k (.d (.int .i64 0)))), (2, 1, (.k (.d (.int .i64 0))))]⟩,
 ⟨some 19, none, .build [.d (.str []), .d (.int .i64 0), .d (.int .i64 0)] [(0, 1, (.k (.d (.str [116, 114, 105, 118, 105, 97, 108])))), (1, 1, (.k (.d (.int .i64 0)))), (2, 1, (.k (.d (.int .i64 0))))]⟩,
 ⟨some 20, none, .build [.d (.str []), .d (.int .i64 0), .d (.int .i64 0)] [(0, 1, (.k (.d (.str [102, 97, 108, 115, 101])))), (1, 1, (.k (.d (.int .i64 0)))), (2, 1, (.k (.d (.int .i64 0))))]⟩,
 ⟨some 21, none, .build [.d (.str []), .d (.int .i64 0), .d (.int .i64 0)] [(0, 1, (.k (.d (.str [97, 98, 115, 117, 114, 100])))), (1, 1, (.k (.d (.int .i64 32)))), (2, 1, (.k (.d (.int .i64 2))))]⟩,
 ⟨some 22, none, .build [.d (.str []), .d (.int .i64 0), .d (.int .i64 0)] [(0, 1, (.k (.d (.str [101, 113])))), (1, 1, (.k (.d (.int .i64 2)))), (2, 1, (.k (.d (.int .i64 3))))]⟩,
 ⟨some 23, none, .build [.d (.str []), .d (.int .i64 0), .d (.int .i64 0)] [(0, 1, (.k (.d (.str [114, 101, 102, 108])))), (1, 1, (.k (.d (.int .i64 2)))), (2, 1, (.k (.d (.int .i64 2))))]⟩,
 ⟨some 24, none, .build [.d (.str []), .d (.int .i64 0), .d (.int .i64 0)] [(0, 1, (.k (.d (.str [115, 117, 98, 115, 116])))), (1, 1, (.k (.d (.int .i64 2)))), (2, 1, (.k (.d (.int .i64 6))))]⟩,
 ⟨some 25, none, .build [.d (.str []), .d (.int .i64 0), .d (.int .i64 0)] [(0, 1, (.k (.d (.str [99, 97, 115, 116])))), (1, 1, (.k (.d (.int .i64 2)))), (2, 1, (.k (.d (.int .i64 4))))]⟩,
 ⟨some 26, none, .build [.d (.str []), .d (.int .i64 0), .d (.int .i64 0)] [(0, 1, (.k (.d (.str [99, 111, 104])))), (1, 1, (.k (.d (.int .i64 2)))), (2, 1, (.k (.d (.int .i64 3))))]⟩,
 ⟨some 27, none, .build [.d (.str []), .d (.int .i64 0), .d (.int .i64 0)] [(0, 1, (.k (.d (.str [113, 117, 111])))), (1, 1, (.k (.d (.int .i64 2)))), (2, 1, (.k (.d (.int .i64 5))))]⟩,
 ⟨some 28, none, .build [.d (.str []), .d (.int .i64 0), .d (.int .i64 0)] [(0, 1, (.k (.d (.str [99, 108, 97, 115, 115])))), (1, 1, (.k (.d (.int .i64 0)))), (2, 1, (.k (.d (.int .i64 2))))]⟩,
 ⟨some 29, none, .build [.d (.str []), .d (.int .i64 0), .d (.int .i64 0)] [(0, 1, (.k (.d (.str [111, 117, 116])))), (1, 1, (.k (.d (.int .i64 34)))), (2, 1, (.k (.d (.int .i64 5))))]⟩,
 ⟨some 30, none, .build [.d (.str []), .d (.int .i64 0), .d (.int .i64 0)] [(0, 1, (.k (.d (.str [100, 97, 116, 97])))), (1, 1, (.k (.d (.int .i64 5)))), (2, 1, (.k (.d (.int .i64 1))))]⟩,
 ⟨some 31, none, .build [.d (.str []), .d (.int .i64 0), .d (.int .i64 0)] [(0, 1, (.k (.d (.str [99, 111, 110])))), (1, 1, (.k (.d (.int .i64 21)))), (2, 1, (.k (.d (.int .i64 2))))]⟩,
 ⟨some 32, none, .build [.d (.str []), .d (.int .i64 0), .d (.int .i64 0)] [(0, 1, (.k (.d (.str [101, 108, 105, 109])))), (1, 1, (.k (.d (.int .i64 37)))), (2, 1, (.k (.d (.int .i64 (-1)))))]⟩,
 ⟨some 33, none, .build [.d (.str []), .d (.int .i64 0), .d (.int .i64 0)] [(0, 1, (.k (.d (.str [63])))), (1, 1, (.k (.d (.int .i64 8)))), (2, 1, (.k (.d (.int .i64 0))))]⟩,
 ⟨some 34, none, .build [.d (.str []), .d (.int .i64 0), .d (.int .i64 0)] [(0, 1, (.k (.d (.str [112, 114, 111, 111, 102])))), (1, 1, (.k (.d (.int .i64 0)))), (2, 1, (.k (.d (.int .i64 0))))]⟩,
 ⟨some 35, none, .build [.d (.str []), .d (.int .i64 0), .d (.int .i64 0), .d (.str []), .d (.int .i64 0), .d (.int .i64 0), .d (.str []), .d (.int .i64 0), .d (.int .i64 0), .d (.str []), .d (.int .i64 0), .d (.int .i64 0), .d (.str []), .d (.int .i64 0), .d (.int .i64 0), .d (.str []), .d (.int .i64 0), .d (.int .i64 0), .d (.str []), .d (.int .i64 0), .d (.int .i64 0), .d (.str []), .d (.int .i64 0), .d (.int .i64 0), .d (.str []), .d (.int .i64 0), .d (.int .i64 0), .d (.str []), .d (.int .i64 0), .d (.int .i64 0), .d (.str []), .d (.int .i64 0), .d (.int .i64 0), .d (.str []), .d (.int .i64 0), .d (.int .i64 0), .d (.str []), .d (.int .i64 0), .d (.int .i64 0), .d (.str []), .d (.int .i64 0), .d (.int .i64 0), .d (.str []), .d (.int .i64 0), .d (.int .i64 0), .d (.str []), .d (.int .i64 0), .d (.int .i64 0), .d (.str []), .d (.int .i64 0), .d (.int .i64 0), .d (.str []), .d (.int .i64 0), .d (.int .i64 0), .d (.str []), .d (.int .i64 0), .d (.int .i64 0), .d (.str []), .d (.int .i64 0), .d (.int .i64 0), .d (.str []), .d (.int .i64 0), .d (.int .i64 0), .d (.str []), .d (.int .i64 0), .d (.int .i64 0), .d (.str []), .d (.int .i64 0), .d (.int .i64 0), .d (.str []), .d (.int .i64 0), .d (.int .i64 0), .d (.str []), .d (.int .i64 0), .d (.int .i64 0), .d (.str []), .d (.int .i64 0), .d (.int .i64 0), .d (.str []), .d (.int .i64 0), .d (.int .i64 0), .d (.str []), .d (.int .i64 0), .d (.int .i64 0), .d (.str []), .d (.int .i64 0), .d (.int .i64 0), .d (.str []), .d (.int .i64 0), .d (.int .i64 0), .d (.str []), .d (.int .i64 0), .d (.int .i64 0)] [(3, 3, (.t 5)), (6, 3, (.t 6)), (9, 3, (.t 7)), (12, 3, (.t 8)), (15, 3, (.t 9)), (18, 3, (.t 10)), (21, 3, (.t 11)), (24, 3, (.t 12)), (27, 3, (.t 13)), (30, 3, (.t 14)), (33, 3, (.t 15)), (36, 3, (.t 16)), (39, 3, (.t 17)), (42, 3, (.t 18)), (45, 3, (.t 19)), (48, 3, (.t 20)), (51, 3, (.t 21)), (54, 3, (.t 22)), (57, 3, (.t 23)), (60, 3, (.t 24)), (63, 3, (.t 25)), (66, 3, (.t 26)), (69, 3, (.t 27)), (72, 3, (.t 28)), (75, 3, (.t 29)), (78, 3, (.t 30)), (81, 3, (.t 31)), (84, 3, (.t 32)), (87, 3, (.t 33)), (90, 3, (.t 34))]⟩,
 ⟨some 4, none, .alloc true [.d (.str []), .d (.int .i64 0), .d (.int .i64 0), .d (.str []), .d (.int .i64 0), .d (.int .i64 0), .d (.str []), .d (.int .i64 0), .d (.int .i64 0), .d (.str []), .d (.int .i64 0), .d (.int .i64 0), .d (.str []), .d (.int .i64 0), .d (.int .i64 0), .d (.str []), .d (.int .i64 0), .d (.int .i64 0), .d (.str []), .d (.int .i64 0), .d (.int .i64 0), .d (.str []), .d (.int .i64 0), .d (.int .i64 0), .d (.str []), .d (.int .i64 0), .d (.int .i64 0), .d (.str []), .d (.int .i64 0), .d (.int .i64 0), .d (.str []), .d (.int .i64 0), .d (.int .i64 0), .d (.str []), .d (.int .i64 0), .d (.int .i64 0), .d (.str []), .d (.int .i64 0), .d (.int .i64 0), .d (.str []), .d (.int .i64 0), .d (.int .i64 0), .d (.str []), .d (.int .i64 0), .d (.int .i64 0), .d (.str []), .d (.int .i64 0), .d (.int .i64 0), .d (.str []), .d (.int .i64 0), .d (.int .i64 0), .d (.str []), .d (.int .i64 0), .d (.int .i64 0), .d (.str []), .d (.int .i64 0), .d (.int .i64 0), .d (.str []), .d (.int .i64 0), .d (.int .i64 0), .d (.str []), .d (.int .i64 0), .d (.int .i64 0), .d (.str []), .d (.int .i64 0), .d (.int .i64 0), .d (.str []), .d (.int .i64 0), .d (.int .i64 0), .d (.str []), .d (.int .i64 0), .d (.int .i64 0), .d (.str []), .d (.int .i64 0), .d (.int .i64 0), .d (.str []), .d (.int .i64 0), .d (.int .i64 0), .d (.str []), .d (.int .i64 0), .d (.int .i64 0), .d (.str []), .d (.int .i64 0), .d (.int .i64 0), .d (.str []), .d (.int .i64 0), .d (.int .i64 0), .d (.str []), .d (.int .i64 0), .d (.int .i64 0), .d (.str []), .d (.int .i64 0), .d (.int .i64 0)]⟩,
 ⟨none, none, .st true 93 (.t 4) (.t 35)⟩])
 (.seq (.seq (.ops [] [⟨some 36, none, .mv (.t 0)⟩,
 ⟨some 37, none, .bin .lss (.t 36) (.k (.d (.int .i64 1)))⟩,
 ⟨some 38, none, .mv (.t 37)⟩,
 ⟨some 39, some (38, false), .mv (.t 0)⟩,
 ⟨some 40, some (38, false), .bin .geq (.t 39) (.k (.d (.int .i64 31)))⟩,
 ⟨some 41, none, .pick (.t 38) (.k (.d (.bool true))) (.t 40)⟩])
 (.cond (.t 41) (.seq (.ops [] [⟨some 42, none, .build [.d (.str []), .d (.int .i64 0), .d (.int .i64 0)] []⟩,
 ⟨some 48, none, .rst 48 true 3 (.t 42)⟩,
 ⟨some 3, none, .mv (.k (.d (.bool false)))⟩])
 (.ret))
 (.skip)))
 (.seq (.ops [] [⟨some 43, none, .mv (.t 0)⟩,
 ⟨some 44, none, .iaA 31 3 true (.t 4) (.t 43)⟩,
 ⟨some 45, none, .ld true 3 (.t 44)⟩,
 ⟨some 48, none, .rst 48 true 3 (.t 45)⟩,
 ⟨some 3, none, .mv (.k (.d (.bool true)))⟩])
 (.ret))))⟩
theorem c130 : sp 130 = some (.code F130) := by kernel_rfl

/-- tenet/term.isName -/
def F131 : AFunc := ⟨60, [.tmp 2],
 .seq (.ops [] [⟨some 2, none, .mv (.k (.d (.bool false)))⟩])
 (.seq (.seq (.ops [] [⟨some 6, none, .mv (.t 0)⟩,
 ⟨some 7, none, .len 0 (.t 6)⟩,
 ⟨some 8, none, .mv (.k (.d (.int .i64 0)))⟩])
 (.block 0 (.loop 60 [0, 7, 8] (.seq (.ops [] [⟨some 9, none, .bin .lss (.t 8) (.t 7)⟩])
 (.seq (.cond (.t 9) (.skip)
 (.exit 0))
 (.seq (.block 1 (.seq (.ops [] [⟨some 10, none, .tk 8⟩,
 ⟨some 3, none, .tk 10⟩])
 (.seq (.ops [] [⟨some 11, none, .mv (.t 0)⟩,
 ⟨some 12, none, .mv (.t 3)⟩,
 ⟨some 13, none, .ixS (.t 11) (.t 12)⟩,
 ⟨some 4, none, .tk 13⟩])
 (.seq (.ops [] [⟨some 14, none, .mv (.t 4)⟩,
 ⟨some 15, none, .bin .geq (.t 14) (.k (.d (.int .u8 97)))⟩,
 ⟨some 16, none, .mv (.t 15)⟩,
 ⟨some 17, some (16, true), .mv (.t 4)⟩,
 ⟨some 18, some (16, true), .bin .leq (.t 17) (.k (.d (.int .u8 122)))⟩,
 ⟨some 19, none, .pick (.t 16) (.t 18) (.k (.d (.bool false)))⟩,
 ⟨some 20, none, .mv (.t 19)⟩,
 ⟨some 21, some (20, false), .mv (.t 4)⟩,
 ⟨some 22, some (20, false), .bin .geq (.t 21) (.k (.d (.int .u8 65)))⟩,
 ⟨some 23, some (20, false), .mv (.t 22)⟩,
 ⟨some 24, some (23, true), .mv (.t 4)⟩,
 ⟨some 25, some (23, true), .bin .leq (.t 24) (.k (.d (.int .u8 90)))⟩,
 ⟨some 26, some (20, false), .pick (.t 23) (.t 25) (.k (.d (.bool false)))⟩,
 ⟨some 27, none, .pick (.t 20) (.k (.d (.bool true))) (.t 26)⟩,
 ⟨some 28, none, .mv (.t 27)⟩,
 ⟨some 29, some (28, false), .mv (.t 4)⟩,
 ⟨some 30, some (28, false), .bin .eql (.t 29) (.k (.d (.int .u8 95)))⟩,
 ⟨some 31, none, .pick (.t 28) (.k (.d (.bool true))) (.t 30)⟩,
 ⟨some 5, none, .tk 31⟩])
 (.seq (.ops [] [⟨some 32, none, .mv (.t 5)⟩,
 ⟨some 33, none, .not (.t 32)⟩,
 ⟨some 34, none, .mv (.t 33)⟩,
 ⟨some 35, some (34, true), .mv (.t 3)⟩,
 ⟨some 36, some (34, true), .bin .eql (.t 35) (.k (.d (.int .i64 0)))⟩,
 ⟨some 37, some (34, true), .mv (.t 36)⟩,
 ⟨some 38, some (37, false), .mv (.t 4)⟩,
 ⟨some 39, some (37, false), .bin .geq (.t 38) (.k (.d (.int .u8 48)))⟩,
 ⟨some 40, some (37, false), .mv (.t 39)⟩,
 ⟨some 41, some (40, true), .mv (.t 4)⟩,
 ⟨some 42, some (40, true), .bin .leq (.t 41) (.k (.d (.int .u8 57)))⟩,
 ⟨some 43, some (37, false), .pick (.t 40) (.t 42) (.k (.d (.bool false)))⟩,
 ⟨some 44, some (37, false), .mv (.t 43)⟩,
 ⟨some 45, some (44, false), .mv (.t 4)⟩,
 ⟨some 46, some (44, false), .bin .eql (.t 45) (.k (.d (.int .u8 46)))⟩,
 ⟨some 47, some (37, false), .pick (.t 44) (.k (.d (.bool true))) (.t 46)⟩,
 ⟨some 48, some (37, false), .not (.t 47)⟩,
 ⟨some 49, some (34, true), .pick (.t 37) (.k (.d (.bool true))) (.t 48)⟩,
 ⟨some 50, none, .pick (.t 34) (.t 49) (.k (.d (.bool false)))⟩])
 (.cond (.t 50) (.seq (.ops [] [⟨some 2, none, .mv (.k (.d (.bool false)))⟩])
 (.ret))
 (.skip)))))))
 (.ops [] [⟨some 51, none, .bin .add (.t 8) (.k (.d (.int .i64 1)))⟩,
 ⟨some 8, none, .mv (.t 51)⟩])))))))
 (.seq (.ops [] [⟨some 52, none, .mv (.t 0)⟩,
 ⟨some 53, none, .len 0 (.t 52)⟩,
 ⟨some 54, none, .bin .geq (.t 53) (.k (.d (.int .i64 1)))⟩,
 ⟨some 55, none, .mv (.t 54)⟩,
 ⟨some 56, some (55, true), .mv (.t 0)⟩,
 ⟨some 57, some (55, true), .len 0 (.t 56)⟩,
 ⟨some 58, some (55, true), .bin .leq (.t 57) (.k (.d (.int .i64 24)))⟩,
 ⟨some 59, none, .pick (.t 55) (.t 58) (.k (.d (.bool false)))⟩,
 ⟨some 2, none, .tk 59⟩])
 (.ret)))⟩
theorem c131 : sp 131 = some (.code F131) := by kernel_rfl

/-- tenet/term.canonical -/
def F134 : AFunc := ⟨26, [.tmp 2],
 .seq (.ops [] [⟨some 1, none, .box true 2 (.t 0)⟩,
 ⟨some 2, none, .mv (.k (.d (.bool false)))⟩])
 (.seq (.ops [] [⟨some 6, none, .ld true 2 (.t 1)⟩,
 ⟨some 7, none, .call 173 [.t 6]⟩,
 ⟨some 5, none, .mv (.t 7)⟩,
 ⟨some 8, none, .ext (.t 5) 0⟩,
 ⟨some 9, none, .ext (.t 5) 1⟩,
 ⟨some 3, none, .alloc true [.d (.int .i64 0), .nil 2]⟩,
 ⟨none, none, .st true 2 (.t 3) (.t 8)⟩,
 ⟨some 4, none, .tk 9⟩])
 (.seq (.ops [] [⟨some 10, none, .mv (.t 4)⟩,
 ⟨some 11, none, .bin .eql (.t 10) (.k (.d (.int .i64 0)))⟩,
 ⟨some 12, none, .mv (.t 11)⟩,
 ⟨some 13, some (12, true), .fa 0 1 false (.t 3)⟩,
 ⟨some 14, some (12, true), .ld false 1 (.t 13)⟩,
 ⟨some 15, some (12, true), .fa 0 1 false (.t 1)⟩,
 ⟨some 16, some (12, true), .ld false 1 (.t 15)⟩,
 ⟨some 17, some (12, true), .bin .eql (.t 14) (.t 16)⟩,
 ⟨some 18, none, .pick (.t 12) (.t 17) (.k (.d (.bool false)))⟩,
 ⟨some 19, none, .mv (.t 18)⟩,
 ⟨some 20, some (19, true), .fa 1 1 false (.t 3)⟩,
 ⟨some 21, some (19, true), .ld false 1 (.t 20)⟩,
 ⟨some 22, some (19, true), .fa 1 1 false (.t 1)⟩,
 ⟨some 23, some (19, true), .ld false 1 (.t 22)⟩,
 ⟨some 24, some (19, true), .call 174 [.t 21, .t 23]⟩,
 ⟨some 25, none, .pick (.t 19) (.t 24) (.k (.d (.bool false)))⟩,
 ⟨some 2, none, .tk 25⟩])
 (.ret)))⟩
theorem c134 : sp 134 = some (.code F134) := by kernel_rfl

/-- slices.ContainsFunc[[]tenet/api.Term,tenet/api.Term] -/
def F62 : AFunc := ⟨9, [.tmp 4],
 .seq (.ops [] [⟨some 4, none, .mv (.k (.d (.bool false)))⟩])
 (.seq (.ops [] [⟨some 5, none, .tk 0⟩,
 ⟨some 6, none, .tk 1⟩,
 ⟨some 7, none, .callS 103 [.t 5, .t 6]⟩,
 ⟨some 8, none, .bin .geq (.t 7) (.k (.d (.int .i64 0)))⟩,
 ⟨some 4, none, .tk 8⟩])
 (.ret))⟩
theorem c62 : sp 62 = some (.code F62) := by kernel_rfl

/-- slices.IndexFunc[[]tenet/api.Term,tenet/api.Term] -/
def F103 : AFunc := ⟨19, [.tmp 4],
 .seq (.ops [] [⟨some 4, none, .mv (.k (.d (.int .i64 0)))⟩])
 (.seq (.seq (.ops [] [⟨some 6, none, .mv (.t 0)⟩,
 ⟨some 7, none, .len 1 (.t 6)⟩,
 ⟨some 8, none, .mv (.k (.d (.int .i64 0)))⟩])
 (.block 0 (.loop 19 [0, 1, 7, 8] (.seq (.ops [] [⟨some 9, none, .bin .lss (.t 8) (.t 7)⟩])
 (.seq (.cond (.t 9) (.skip)
 (.exit 0))
 (.seq (.block 1 (.seq (.ops [] [⟨some 10, none, .tk 8⟩,
 ⟨some 5, none, .tk 10⟩])
 (.seq (.ops [] [⟨some 11, none, .mv (.t 1)⟩,
 ⟨some 12, none, .mv (.t 0)⟩,
 ⟨some 13, none, .mv (.t 5)⟩,
 ⟨some 14, none, .ia 5 true (.t 12) (.t 13)⟩,
 ⟨some 15, none, .ld true 5 (.t 14)⟩,
 ⟨some 16, none, .callVS (.t 11) [.t 15]⟩])
 (.cond (.t 16) (.seq (.ops [] [⟨some 17, none, .tk 5⟩,
 ⟨some 4, none, .tk 17⟩])
 (.ret))
 (.skip)))))
 (.ops [] [⟨some 18, none, .bin .add (.t 8) (.k (.d (.int .i64 1)))⟩,
 ⟨some 8, none, .mv (.t 18)⟩])))))))
 (.seq (.ops [] [⟨some 4, none, .mv (.k (.d (.int .i64 (-1))))⟩])
 (.ret)))⟩
theorem c103 : sp 103 = some (.code F103) := by kernel_rfl

/-- slices.ContainsFunc[[]tenet/api.Level,tenet/api.Level] -/
def F132 : AFunc := ⟨9, [.tmp 4],
 .seq (.ops [] [⟨some 4, none, .mv (.k (.d (.bool false)))⟩])
 (.seq (.ops [] [⟨some 5, none, .mv (.t 0)⟩,
 ⟨some 6, none, .mv (.t 1)⟩,
 ⟨some 7, none, .call 172 [.t 5, .t 6]⟩,
 ⟨some 8, none, .bin .geq (.t 7) (.k (.d (.int .i64 0)))⟩,
 ⟨some 4, none, .tk 8⟩])
 (.ret))⟩
theorem c132 : sp 132 = some (.code F132) := by kernel_rfl

/-- slices.IndexFunc[[]tenet/api.Level,tenet/api.Level] -/
def F172 : AFunc := ⟨19, [.tmp 4],
 .seq (.ops [] [⟨some 4, none, .mv (.k (.d (.int .i64 0)))⟩])
 (.seq (.seq (.ops [] [⟨some 6, none, .mv (.t 0)⟩,
 ⟨some 7, none, .len 1 (.t 6)⟩,
 ⟨some 8, none, .mv (.k (.d (.int .i64 0)))⟩])
 (.block 0 (.loop 19 [0, 1, 7, 8] (.seq (.ops [] [⟨some 9, none, .bin .lss (.t 8) (.t 7)⟩])
 (.seq (.cond (.t 9) (.skip)
 (.exit 0))
 (.seq (.block 1 (.seq (.ops [] [⟨some 10, none, .tk 8⟩,
 ⟨some 5, none, .tk 10⟩])
 (.seq (.ops [] [⟨some 11, none, .mv (.t 1)⟩,
 ⟨some 12, none, .mv (.t 0)⟩,
 ⟨some 13, none, .mv (.t 5)⟩,
 ⟨some 14, none, .ia 2 true (.t 12) (.t 13)⟩,
 ⟨some 15, none, .ld true 2 (.t 14)⟩,
 ⟨some 16, none, .callV (.t 11) [.t 15]⟩])
 (.cond (.t 16) (.seq (.ops [] [⟨some 17, none, .tk 5⟩,
 ⟨some 4, none, .tk 17⟩])
 (.ret))
 (.skip)))))
 (.ops [] [⟨some 18, none, .bin .add (.t 8) (.k (.d (.int .i64 1)))⟩,
 ⟨some 8, none, .mv (.t 18)⟩])))))))
 (.seq (.ops [] [⟨some 4, none, .mv (.k (.d (.int .i64 (-1))))⟩])
 (.ret)))⟩
theorem c172 : sp 172 = some (.code F172) := by kernel_rfl

/-- tenet/level.Normal -/
def F173 : AFunc := ⟨2, [.reg 18, .tmp 3],
 .seq (.ops [] [⟨some 1, none, .box true 2 (.t 0)⟩,
 ⟨some 18, none, .ralloc true [.d (.int .i64 0), .nil 2]⟩,
 ⟨some 3, none, .mv (.k (.d (.int .i64 0)))⟩])
 (.seq (.seq (.ops [] [⟨some 4, none, .ld true 2 (.t 1)⟩,
 ⟨some 5, none, .call 206 [.t 4]⟩,
 ⟨some 6, none, .not (.t 5)⟩])
 (.cond (.t 6) (.seq (.ops [] [⟨some 7, none, .build [.d (.int .i64 0), .nil 2] []⟩,
 ⟨some 18, none, .rst 18 true 2 (.t 7)⟩,
 ⟨some 3, none, .mv (.k (.d (.int .i64 4)))⟩])
 (.ret))
 (.skip)))
 (.seq (.ops [] [⟨some 8, none, .fa 0 1 false (.t 1)⟩,
 ⟨some 9, none, .ld false 1 (.t 8)⟩,
 ⟨some 10, none, .fa 1 1 false (.t 1)⟩,
 ⟨some 11, none, .ld false 1 (.t 10)⟩,
 ⟨some 12, none, .call 210 [.t 11]⟩,
 ⟨some 13, none, .call 209 [.t 9, .t 12]⟩,
 ⟨some 14, none, .ext (.t 13) 0⟩,
 ⟨some 15, none, .ext (.t 13) 1⟩,
 ⟨some 18, none, .rst 18 true 2 (.t 14)⟩,
 ⟨some 3, none, .tk 15⟩])
 (.ret)))⟩
theorem c173 : sp 173 = some (.code F173) := by kernel_rfl

/-- tenet/level.Valid -/
def F206 : AFunc := ⟨56, [.tmp 2],
 .seq (.ops [] [⟨some 1, none, .box true 2 (.t 0)⟩,
 ⟨some 2, none, .mv (.k (.d (.bool false)))⟩])
 (.seq (.seq (.ops [] [⟨some 5, none, .fa 0 1 false (.t 1)⟩,
 ⟨some 6, none, .ld false 1 (.t 5)⟩,
 ⟨some 7, none, .bin .lss (.t 6) (.k (.d (.int .i64 0)))⟩,
 ⟨some 8, none, .mv (.t 7)⟩,
 ⟨some 9, some (8, false), .fa 0 1 false (.t 1)⟩,
 ⟨some 10, some (8, false), .ld false 1 (.t 9)⟩,
 ⟨some 11, some (8, false), .bin .gtr (.t 10) (.k (.d (.int .i64 1000)))⟩,
 ⟨some 12, none, .pick (.t 8) (.k (.d (.bool true))) (.t 11)⟩,
 ⟨some 13, none, .mv (.t 12)⟩,
 ⟨some 14, some (13, false), .fa 1 1 false (.t 1)⟩,
 ⟨some 15, some (13, false), .ld false 1 (.t 14)⟩,
 ⟨some 16, some (13, false), .len 1 (.t 15)⟩,
 ⟨some 17, some (13, false), .bin .gtr (.t 16) (.k (.d (.int .i64 8)))⟩,
 ⟨some 18, none, .pick (.t 13) (.k (.d (.bool true))) (.t 17)⟩])
 (.cond (.t 18) (.seq (.ops [] [⟨some 2, none, .mv (.k (.d (.bool false)))⟩])
 (.ret))
 (.skip)))
 (.seq (.seq (.ops [] [⟨some 19, none, .fa 1 1 false (.t 1)⟩,
 ⟨some 20, none, .ld false 1 (.t 19)⟩,
 ⟨some 21, none, .len 1 (.t 20)⟩,
 ⟨some 22, none, .mv (.k (.d (.int .i64 0)))⟩])
 (.block 0 (.loop 56 [1, 20, 21, 22] (.seq (.ops [] [⟨some 23, none, .bin .lss (.t 22) (.t 21)⟩])
 (.seq (.cond (.t 23) (.skip)
 (.exit 0))
 (.seq (.block 1 (.seq (.ops [] [⟨some 24, none, .tk 22⟩,
 ⟨some 25, none, .ia 2 true (.t 20) (.t 22)⟩,
 ⟨some 26, none, .ld true 2 (.t 25)⟩,
 ⟨some 4, none, .alloc true [.d (.int .i64 0), .d (.int .i64 0)]⟩,
 ⟨some 3, none, .tk 24⟩,
 ⟨none, none, .st true 2 (.t 4) (.t 26)⟩])
 (.seq (.ops [] [⟨some 27, none, .fa 0 1 false (.t 4)⟩,
 ⟨some 28, none, .ld false 1 (.t 27)⟩,
 ⟨some 29, none, .bin .lss (.t 28) (.k (.d (.int .i64 0)))⟩,
 ⟨some 30, none, .mv (.t 29)⟩,
 ⟨some 31, some (30, false), .fa 0 1 false (.t 4)⟩,
 ⟨some 32, some (30, false), .ld false 1 (.t 31)⟩,
 ⟨some 33, some (30, false), .bin .geq (.t 32) (.k (.d (.int .i64 1200)))⟩,
 ⟨some 34, none, .pick (.t 30) (.k (.d (.bool true))) (.t 33)⟩,
 ⟨some 35, none, .mv (.t 34)⟩,
 ⟨some 36, some (35, false), .fa 1 1 false (.t 4)⟩,
 ⟨some 37, some (35, false), .ld false 1 (.t 36)⟩,
 ⟨some 38, some (35, false), .bin .lss (.t 37) (.k (.d (.int .i64 0)))⟩,
 ⟨some 39, none, .pick (.t 35) (.k (.d (.bool true))) (.t 38)⟩,
 ⟨some 40, none, .mv (.t 39)⟩,
 ⟨some 41, some (40, false), .fa 1 1 false (.t 4)⟩,
 ⟨some 42, some (40, false), .ld false 1 (.t 41)⟩,
 ⟨some 43, some (40, false), .bin .gtr (.t 42) (.k (.d (.int .i64 1000)))⟩,
 ⟨some 44, none, .pick (.t 40) (.k (.d (.bool true))) (.t 43)⟩,
 ⟨some 45, none, .mv (.t 44)⟩,
 ⟨some 46, some (45, false), .fa 1 1 false (.t 1)⟩,
 ⟨some 47, some (45, false), .ld false 1 (.t 46)⟩,
 ⟨some 48, some (45, false), .mv (.t 3)⟩,
 ⟨some 49, some (45, false), .slice 2 (.t 47) none (some (.t 48)) none⟩,
 ⟨some 50, some (45, false), .fa 0 1 false (.t 4)⟩,
 ⟨some 51, some (45, false), .ld false 1 (.t 50)⟩,
 ⟨some 52, some (45, false), .call 240 [.t 49, .t 51]⟩,
 ⟨some 53, some (45, false), .bin .geq (.t 52) (.k (.d (.int .i64 0)))⟩,
 ⟨some 54, none, .pick (.t 45) (.k (.d (.bool true))) (.t 53)⟩])
 (.cond (.t 54) (.seq (.ops [] [⟨some 2, none, .mv (.k (.d (.bool false)))⟩])
 (.ret))
 (.skip)))))
 (.ops [] [⟨some 55, none, .bin .add (.t 22) (.k (.d (.int .i64 1)))⟩,
 ⟨some 22, none, .mv (.t 55)⟩])))))))
 (.seq (.ops [] [⟨some 2, none, .mv (.k (.d (.bool true)))⟩])
 (.ret))))⟩
theorem c206 : sp 206 = some (.code F206) := by kernel_rfl

/-- (tenet/level.parts).find -/
def F240 : AFunc := ⟨8, [.tmp 4],
 .seq (.ops [] [⟨some 3, none, .box false 1 (.t 1)⟩,
 ⟨some 4, none, .mv (.k (.d (.int .i64 0)))⟩])
 (.seq (.ops [] [⟨some 5, none, .mv (.t 0)⟩,
 ⟨some 6, none, .fn 264 [.t 3]⟩,
 ⟨some 7, none, .call 263 [.t 5, .t 6]⟩,
 ⟨some 4, none, .tk 7⟩])
 (.ret))⟩
theorem c240 : sp 240 = some (.code F240) := by kernel_rfl

/-- (tenet/level.parts).find$1 -/
def F264 : AFunc := ⟨8, [.tmp 3],
 .seq (.ops [] [⟨some 2, none, .box true 2 (.t 0)⟩,
 ⟨some 3, none, .mv (.k (.d (.bool false)))⟩])
 (.seq (.ops [] [⟨some 4, none, .fa 0 1 false (.t 2)⟩,
 ⟨some 5, none, .ld false 1 (.t 4)⟩,
 ⟨some 6, none, .ld false 1 (.t 1)⟩,
 ⟨some 7, none, .bin .eql (.t 5) (.t 6)⟩,
 ⟨some 3, none, .tk 7⟩])
 (.ret))⟩
theorem c264 : sp 264 = some (.code F264) := by kernel_rfl

/-- slices.IndexFunc[tenet/level.parts,tenet/api.LVar] -/
def F263 : AFunc := ⟨19, [.tmp 4],
 .seq (.ops [] [⟨some 4, none, .mv (.k (.d (.int .i64 0)))⟩])
 (.seq (.seq (.ops [] [⟨some 6, none, .mv (.t 0)⟩,
 ⟨some 7, none, .len 1 (.t 6)⟩,
 ⟨some 8, none, .mv (.k (.d (.int .i64 0)))⟩])
 (.block 0 (.loop 19 [0, 1, 7, 8] (.seq (.ops [] [⟨some 9, none, .bin .lss (.t 8) (.t 7)⟩])
 (.seq (.cond (.t 9) (.skip)
 (.exit 0))
 (.seq (.block 1 (.seq (.ops [] [⟨some 10, none, .tk 8⟩,
 ⟨some 5, none, .tk 10⟩])
 (.seq (.ops [] [⟨some 11, none, .mv (.t 1)⟩,
 ⟨some 12, none, .mv (.t 0)⟩,
 ⟨some 13, none, .mv (.t 5)⟩,
 ⟨some 14, none, .ia 2 true (.t 12) (.t 13)⟩,
 ⟨some 15, none, .ld true 2 (.t 14)⟩,
 ⟨some 16, none, .callV (.t 11) [.t 15]⟩])
 (.cond (.t 16) (.seq (.ops [] [⟨some 17, none, .tk 5⟩,
 ⟨some 4, none, .tk 17⟩])
 (.ret))
 (.skip)))))
 (.ops [] [⟨some 18, none, .bin .add (.t 8) (.k (.d (.int .i64 1)))⟩,
 ⟨some 8, none, .mv (.t 18)⟩])))))))
 (.seq (.ops [] [⟨some 4, none, .mv (.k (.d (.int .i64 (-1))))⟩])
 (.ret)))⟩
theorem c263 : sp 263 = some (.code F263) := by kernel_rfl

/-- tenet/level.canonical -/
def F209 : AFunc := ⟨4, [.reg 33, .tmp 5],
 .seq (.ops [] [⟨some 33, none, .ralloc true [.d (.int .i64 0), .nil 2]⟩,
 ⟨some 5, none, .mv (.k (.d (.int .i64 0)))⟩])
 (.seq (.seq (.ops [] [⟨some 6, none, .mv (.t 0)⟩,
 ⟨some 7, none, .mv (.t 1)⟩,
 ⟨some 8, none, .call 241 [.t 7]⟩,
 ⟨some 9, none, .bin .leq (.t 6) (.t 8)⟩])
 (.cond (.t 9) (.ops [] [⟨some 0, none, .mv (.k (.d (.int .i64 0)))⟩])
 (.skip)))
 (.seq (.seq (.ops [] [⟨some 10, none, .mv (.t 0)⟩,
 ⟨some 11, none, .bin .gtr (.t 10) (.k (.d (.int .i64 1000)))⟩,
 ⟨some 12, none, .mv (.t 11)⟩,
 ⟨some 13, some (12, false), .mv (.t 1)⟩,
 ⟨some 14, some (12, false), .call 241 [.t 13]⟩,
 ⟨some 15, some (12, false), .bin .gtr (.t 14) (.k (.d (.int .i64 1000)))⟩,
 ⟨some 16, none, .pick (.t 12) (.k (.d (.bool true))) (.t 15)⟩,
 ⟨some 17, none, .mv (.t 16)⟩,
 ⟨some 18, some (17, false), .mv (.t 1)⟩,
 ⟨some 19, some (17, false), .len 1 (.t 18)⟩,
 ⟨some 20, some (17, false), .bin .gtr (.t 19) (.k (.d (.int .i64 8)))⟩,
 ⟨some 21, none, .pick (.t 17) (.k (.d (.bool true))) (.t 20)⟩])
 (.cond (.t 21) (.seq (.ops [] [⟨some 22, none, .build [.d (.int .i64 0), .nil 2] []⟩,
 ⟨some 33, none, .rst 33 true 2 (.t 22)⟩,
 ⟨some 5, none, .mv (.k (.d (.int .i64 2)))⟩])
 (.ret))
 (.skip)))
 (.seq (.seq (.ops [] [⟨some 23, none, .mv (.t 1)⟩,
 ⟨some 24, none, .len 1 (.t 23)⟩,
 ⟨some 25, none, .bin .eql (.t 24) (.k (.d (.int .i64 0)))⟩])
 (.cond (.t 25) (.ops [] [⟨some 1, none, .mv (.k (.nil 2))⟩])
 (.skip)))
 (.seq (.ops [] [⟨some 26, none, .mv (.t 0)⟩,
 ⟨some 27, none, .mv (.t 1)⟩,
 ⟨some 28, none, .build [.d (.int .i64 0), .nil 2] [(0, 1, (.t 26)), (1, 1, (.t 27))]⟩,
 ⟨some 33, none, .rst 33 true 2 (.t 28)⟩,
 ⟨some 5, none, .mv (.k (.d (.int .i64 0)))⟩])
 (.ret)))))⟩
theorem c209 : sp 209 = some (.code F209) := by kernel_rfl

/-- (tenet/level.parts).most -/
def F241 : AFunc := ⟨18, [.tmp 2],
 .seq (.ops [] [⟨some 2, none, .mv (.k (.d (.int .i64 0)))⟩])
 (.seq (.ops [] [⟨some 3, none, .mv (.k (.d (.int .i64 (-1))))⟩])
 (.seq (.seq (.ops [] [⟨some 6, none, .mv (.t 0)⟩,
 ⟨some 7, none, .len 1 (.t 6)⟩,
 ⟨some 8, none, .mv (.k (.d (.int .i64 0)))⟩])
 (.block 0 (.loop 18 [3, 6, 7, 8] (.seq (.ops [] [⟨some 9, none, .bin .lss (.t 8) (.t 7)⟩])
 (.seq (.cond (.t 9) (.skip)
 (.exit 0))
 (.seq (.block 1 (.seq (.ops [] [⟨some 10, none, .ia 2 true (.t 6) (.t 8)⟩,
 ⟨some 11, none, .ld true 2 (.t 10)⟩,
 ⟨some 5, none, .alloc true [.d (.int .i64 0), .d (.int .i64 0)]⟩,
 ⟨none, none, .st true 2 (.t 5) (.t 11)⟩])
 (.ops [] [⟨some 12, none, .mv (.t 3)⟩,
 ⟨some 13, none, .fa 1 1 false (.t 5)⟩,
 ⟨some 14, none, .ld false 1 (.t 13)⟩,
 ⟨some 15, none, .mm true (.t 12) (.t 14)⟩,
 ⟨some 3, none, .tk 15⟩])))
 (.ops [] [⟨some 16, none, .bin .add (.t 8) (.k (.d (.int .i64 1)))⟩,
 ⟨some 8, none, .mv (.t 16)⟩])))))))
 (.seq (.ops [] [⟨some 17, none, .tk 3⟩,
 ⟨some 2, none, .tk 17⟩])
 (.ret))))⟩
theorem c241 : sp 241 = some (.code F241) := by kernel_rfl

/-- slices.Equal[[]tenet/api.LVar,tenet/api.LVar] -/
def F174 : AFunc := ⟨26, [.tmp 4],
 .seq (.ops [] [⟨some 4, none, .mv (.k (.d (.bool false)))⟩])
 (.seq (.seq (.ops [] [⟨some 6, none, .mv (.t 0)⟩,
 ⟨some 7, none, .len 1 (.t 6)⟩,
 ⟨some 8, none, .mv (.t 1)⟩,
 ⟨some 9, none, .len 1 (.t 8)⟩,
 ⟨some 10, none, .bin .neq (.t 7) (.t 9)⟩])
 (.cond (.t 10) (.seq (.ops [] [⟨some 4, none, .mv (.k (.d (.bool false)))⟩])
 (.ret))
 (.skip)))
 (.seq (.seq (.ops [] [⟨some 11, none, .mv (.t 0)⟩,
 ⟨some 12, none, .len 1 (.t 11)⟩,
 ⟨some 13, none, .mv (.k (.d (.int .i64 0)))⟩])
 (.block 0 (.loop 26 [0, 1, 12, 13] (.seq (.ops [] [⟨some 14, none, .bin .lss (.t 13) (.t 12)⟩])
 (.seq (.cond (.t 14) (.skip)
 (.exit 0))
 (.seq (.block 1 (.seq (.ops [] [⟨some 15, none, .tk 13⟩,
 ⟨some 5, none, .tk 15⟩])
 (.seq (.ops [] [⟨some 16, none, .mv (.t 0)⟩,
 ⟨some 17, none, .mv (.t 5)⟩,
 ⟨some 18, none, .ia 2 true (.t 16) (.t 17)⟩,
 ⟨some 19, none, .ld true 2 (.t 18)⟩,
 ⟨some 20, none, .mv (.t 1)⟩,
 ⟨some 21, none, .mv (.t 5)⟩,
 ⟨some 22, none, .ia 2 true (.t 20) (.t 21)⟩,
 ⟨some 23, none, .ld true 2 (.t 22)⟩,
 ⟨some 24, none, .eqRow [0, 0] true (.t 19) (.t 23)⟩])
 (.cond (.t 24) (.seq (.ops [] [⟨some 4, none, .mv (.k (.d (.bool false)))⟩])
 (.ret))
 (.skip)))))
 (.ops [] [⟨some 25, none, .bin .add (.t 13) (.k (.d (.int .i64 1)))⟩,
 ⟨some 13, none, .mv (.t 25)⟩])))))))
 (.seq (.ops [] [⟨some 4, none, .mv (.k (.d (.bool true)))⟩])
 (.ret))))⟩
theorem c174 : sp 174 = some (.code F174) := by kernel_rfl

end Go.Tm
