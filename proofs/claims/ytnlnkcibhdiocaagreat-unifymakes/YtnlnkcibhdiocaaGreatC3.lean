/- The statement about the solutions that are made out of bodies (UnifyMakes) holds for every input. Here: The program's functions as abstract code. -/
import Derived.Test.YtnlnkcibhdiocaaGreatD1
import Derived.KernelRfl

set_option linter.unusedVariables false
set_option linter.unusedSimpArgs false
set_option linter.unnecessarySimpa false

/-! The program's functions as abstract code. -/
namespace Go.Tm
open Go.Abs Go.Proofs
set_option maxRecDepth 20000

/-- tenet/tenetref03.Form -/
def F16 : AFunc := ⟨21, [.tmp 2],
 .seq (.ops [] [⟨some 1, none, .box true 5 (.t 0)⟩,
 ⟨some 2, none, .mv (.k (.d (.bool false)))⟩])
 (.seq (.seq (.ops [] [⟨some 4, none, .ld true 5 (.t 1)⟩,
 ⟨some 5, none, .call 47 [.t 4]⟩,
 ⟨some 6, none, .not (.t 5)⟩])
 (.cond (.t 6) (.seq (.ops [] [⟨some 2, none, .mv (.k (.d (.bool false)))⟩])
 (.ret))
 (.skip)))
 (.seq (.seq (.ops [] [⟨some 3, none, .mv (.k (.d (.int .i64 0)))⟩])
 (.block 0 (.loop 21 [1, 3] (.seq (.seq (.ops [] [⟨some 7, none, .mv (.t 3)⟩,
 ⟨some 8, none, .fa 4 1 false (.t 1)⟩,
 ⟨some 9, none, .ld false 1 (.t 8)⟩,
 ⟨some 10, none, .len 1 (.t 9)⟩,
 ⟨some 11, none, .bin .lss (.t 7) (.t 10)⟩])
 (.cond (.t 11) (.skip)
 (.exit 0)))
 (.seq (.block 1 (.seq (.ops [] [⟨some 14, none, .fa 4 1 false (.t 1)⟩,
 ⟨some 15, none, .ld false 1 (.t 14)⟩,
 ⟨some 16, none, .mv (.t 3)⟩,
 ⟨some 17, none, .ia 5 true (.t 15) (.t 16)⟩,
 ⟨some 18, none, .ld true 5 (.t 17)⟩,
 ⟨some 19, none, .call 16 [.t 18]⟩,
 ⟨some 20, none, .not (.t 19)⟩])
 (.cond (.t 20) (.seq (.ops [] [⟨some 2, none, .mv (.k (.d (.bool false)))⟩])
 (.ret))
 (.skip))))
 (.ops [] [⟨some 12, none, .mv (.t 3)⟩,
 ⟨some 13, none, .bin .add (.t 12) (.k (.d (.int .i64 1)))⟩,
 ⟨some 3, none, .tk 13⟩]))))))
 (.seq (.ops [] [⟨some 2, none, .mv (.k (.d (.bool true)))⟩])
 (.ret))))⟩
theorem c16 : sp 16 = some (.code F16) := by kernel_rfl

/-- tenet/tenetref03.node -/
def F47 : AFunc := ⟨94, [.tmp 2],
 .seq (.ops [] [⟨some 1, none, .box true 5 (.t 0)⟩,
 ⟨some 2, none, .mv (.k (.d (.bool false)))⟩])
 (.seq (.ops [] [⟨some 6, none, .fa 0 1 false (.t 1)⟩,
 ⟨some 7, none, .ld false 1 (.t 6)⟩,
 ⟨some 8, none, .call 83 [.t 7]⟩,
 ⟨some 3, none, .tk 8⟩])
 (.seq (.seq (.ops [] [⟨some 9, none, .mv (.t 3)⟩,
 ⟨some 10, none, .bin .eql (.t 9) (.k (.d (.int .i64 (-2))))⟩,
 ⟨some 11, none, .mv (.t 10)⟩,
 ⟨some 12, some (11, false), .mv (.t 3)⟩,
 ⟨some 13, some (11, false), .bin .geq (.t 12) (.k (.d (.int .i64 0)))⟩,
 ⟨some 14, some (11, false), .mv (.t 13)⟩,
 ⟨some 15, some (14, true), .fa 4 1 false (.t 1)⟩,
 ⟨some 16, some (14, true), .ld false 1 (.t 15)⟩,
 ⟨some 17, some (14, true), .len 1 (.t 16)⟩,
 ⟨some 18, some (14, true), .mv (.t 3)⟩,
 ⟨some 19, some (14, true), .bin .neq (.t 17) (.t 18)⟩,
 ⟨some 20, some (11, false), .pick (.t 14) (.t 19) (.k (.d (.bool false)))⟩,
 ⟨some 21, none, .pick (.t 11) (.k (.d (.bool true))) (.t 20)⟩,
 ⟨some 22, none, .mv (.t 21)⟩,
 ⟨some 23, some (22, false), .mv (.t 3)⟩,
 ⟨some 24, some (22, false), .bin .eql (.t 23) (.k (.d (.int .i64 (-1))))⟩,
 ⟨some 25, some (22, false), .mv (.t 24)⟩,
 ⟨some 26, some (25, true), .fa 4 1 false (.t 1)⟩,
 ⟨some 27, some (25, true), .ld false 1 (.t 26)⟩,
 ⟨some 28, some (25, true), .len 1 (.t 27)⟩,
 ⟨some 29, some (25, true), .bin .lss (.t 28) (.k (.d (.int .i64 3)))⟩,
 ⟨some 30, some (25, true), .mv (.t 29)⟩,
 ⟨some 31, some (30, false), .fa 4 1 false (.t 1)⟩,
 ⟨some 32, some (30, false), .ld false 1 (.t 31)⟩,
 ⟨some 33, some (30, false), .len 1 (.t 32)⟩,
 ⟨some 34, some (30, false), .bin .gtr (.t 33) (.k (.d (.int .i64 11)))⟩,
 ⟨some 35, some (25, true), .pick (.t 30) (.k (.d (.bool true))) (.t 34)⟩,
 ⟨some 36, some (22, false), .pick (.t 25) (.t 35) (.k (.d (.bool false)))⟩,
 ⟨some 37, none, .pick (.t 22) (.k (.d (.bool true))) (.t 36)⟩])
 (.cond (.t 37) (.seq (.ops [] [⟨some 2, none, .mv (.k (.d (.bool false)))⟩])
 (.ret))
 (.skip)))
 (.seq (.ops [] [⟨some 4, none, .mv (.k (.d (.int .i64 0)))⟩])
 (.seq (.seq (.ops [] [⟨some 38, none, .fa 0 1 false (.t 1)⟩,
 ⟨some 39, none, .ld false 1 (.t 38)⟩,
 ⟨some 40, none, .call 84 [.t 39]⟩])
 (.cond (.t 40) (.ops [] [⟨some 4, none, .mv (.k (.d (.int .i64 1)))⟩])
 (.skip)))
 (.seq (.seq (.ops [] [⟨some 41, none, .fa 0 1 false (.t 1)⟩,
 ⟨some 42, none, .ld false 1 (.t 41)⟩,
 ⟨some 43, none, .call 85 [.t 42]⟩,
 ⟨some 44, none, .not (.t 43)⟩,
 ⟨some 45, none, .mv (.t 44)⟩,
 ⟨some 46, some (45, true), .fa 3 1 false (.t 1)⟩,
 ⟨some 47, some (45, true), .ld false 1 (.t 46)⟩,
 ⟨some 48, some (45, true), .len 1 (.t 47)⟩,
 ⟨some 49, some (45, true), .mv (.t 4)⟩,
 ⟨some 50, some (45, true), .bin .neq (.t 48) (.t 49)⟩,
 ⟨some 51, none, .pick (.t 45) (.t 50) (.k (.d (.bool false)))⟩,
 ⟨some 52, none, .mv (.t 51)⟩,
 ⟨some 53, some (52, false), .fa 3 1 false (.t 1)⟩,
 ⟨some 54, some (52, false), .ld false 1 (.t 53)⟩,
 ⟨some 55, some (52, false), .len 1 (.t 54)⟩,
 ⟨some 56, some (52, false), .bin .gtr (.t 55) (.k (.d (.int .i64 8)))⟩,
 ⟨some 57, none, .pick (.t 52) (.k (.d (.bool true))) (.t 56)⟩])
 (.cond (.t 57) (.seq (.ops [] [⟨some 2, none, .mv (.k (.d (.bool false)))⟩])
 (.ret))
 (.skip)))
 (.seq (.seq (.ops [] [⟨some 5, none, .mv (.k (.d (.int .i64 0)))⟩])
 (.block 0 (.loop 94 [1, 5] (.seq (.seq (.ops [] [⟨some 58, none, .mv (.t 5)⟩,
 ⟨some 59, none, .fa 3 1 false (.t 1)⟩,
 ⟨some 60, none, .ld false 1 (.t 59)⟩,
 ⟨some 61, none, .len 1 (.t 60)⟩,
 ⟨some 62, none, .bin .lss (.t 58) (.t 61)⟩])
 (.cond (.t 62) (.skip)
 (.exit 0)))
 (.seq (.block 1 (.seq (.ops [] [⟨some 65, none, .fa 3 1 false (.t 1)⟩,
 ⟨some 66, none, .ld false 1 (.t 65)⟩,
 ⟨some 67, none, .mv (.t 5)⟩,
 ⟨some 68, none, .ia 2 true (.t 66) (.t 67)⟩,
 ⟨some 69, none, .ld true 2 (.t 68)⟩,
 ⟨some 70, none, .call 86 [.t 69]⟩,
 ⟨some 71, none, .not (.t 70)⟩])
 (.cond (.t 71) (.seq (.ops [] [⟨some 2, none, .mv (.k (.d (.bool false)))⟩])
 (.ret))
 (.skip))))
 (.ops [] [⟨some 63, none, .mv (.t 5)⟩,
 ⟨some 64, none, .bin .add (.t 63) (.k (.d (.int .i64 1)))⟩,
 ⟨some 5, none, .tk 64⟩]))))))
 (.seq (.seq (.ops [] [⟨some 72, none, .fa 0 1 false (.t 1)⟩,
 ⟨some 73, none, .ld false 1 (.t 72)⟩,
 ⟨some 74, none, .call 85 [.t 73]⟩,
 ⟨some 75, none, .mv (.t 74)⟩,
 ⟨some 76, some (75, true), .fa 2 1 false (.t 1)⟩,
 ⟨some 77, some (75, true), .ld false 1 (.t 76)⟩,
 ⟨some 78, some (75, true), .call 87 [.t 77]⟩,
 ⟨some 79, some (75, true), .not (.t 78)⟩,
 ⟨some 80, none, .pick (.t 75) (.t 79) (.k (.d (.bool false)))⟩,
 ⟨some 81, none, .mv (.t 80)⟩,
 ⟨some 82, some (81, false), .fa 0 1 false (.t 1)⟩,
 ⟨some 83, some (81, false), .ld false 1 (.t 82)⟩,
 ⟨some 84, some (81, false), .call 85 [.t 83]⟩,
 ⟨some 85, some (81, false), .not (.t 84)⟩,
 ⟨some 86, some (81, false), .mv (.t 85)⟩,
 ⟨some 87, some (86, true), .fa 2 1 false (.t 1)⟩,
 ⟨some 88, some (86, true), .ld false 1 (.t 87)⟩,
 ⟨some 89, some (86, true), .bin .neq (.t 88) (.k (.d (.str [])))⟩,
 ⟨some 90, some (81, false), .pick (.t 86) (.t 89) (.k (.d (.bool false)))⟩,
 ⟨some 91, none, .pick (.t 81) (.k (.d (.bool true))) (.t 90)⟩])
 (.cond (.t 91) (.seq (.ops [] [⟨some 2, none, .mv (.k (.d (.bool false)))⟩])
 (.ret))
 (.skip)))
 (.seq (.ops [] [⟨some 92, none, .ld true 5 (.t 1)⟩,
 ⟨some 93, none, .call 88 [.t 92]⟩,
 ⟨some 2, none, .tk 93⟩])
 (.ret)))))))))⟩
theorem c47 : sp 47 = some (.code F47) := by kernel_rfl

/-- tenet/tenetref03.Parts -/
def F83 : AFunc := ⟨42, [.tmp 2],
 .seq (.ops [] [⟨some 2, none, .mv (.k (.d (.int .i64 0)))⟩])
 (.seq (.seq (.ops [] [⟨some 3, none, .mv (.t 0)⟩])
 (.block 0 (.seq (.seq (.ops [] [⟨some 5, none, .bin .eql (.t 3) (.k (.d (.int .i64 1)))⟩,
 ⟨some 4, none, .tk 5⟩])
 (.cond (.t 4) (.skip)
 (.seq (.ops [] [⟨some 6, none, .bin .eql (.t 3) (.k (.d (.int .i64 2)))⟩,
 ⟨some 4, none, .tk 6⟩])
 (.cond (.t 4) (.skip)
 (.seq (.ops [] [⟨some 7, none, .bin .eql (.t 3) (.k (.d (.int .i64 3)))⟩,
 ⟨some 4, none, .tk 7⟩])
 (.cond (.t 4) (.skip)
 (.seq (.ops [] [⟨some 8, none, .bin .eql (.t 3) (.k (.d (.int .i64 4)))⟩,
 ⟨some 4, none, .tk 8⟩])
 (.cond (.t 4) (.skip)
 (.seq (.ops [] [⟨some 9, none, .bin .eql (.t 3) (.k (.d (.int .i64 12)))⟩,
 ⟨some 4, none, .tk 9⟩])
 (.cond (.t 4) (.skip)
 (.seq (.ops [] [⟨some 10, none, .bin .eql (.t 3) (.k (.d (.int .i64 13)))⟩,
 ⟨some 4, none, .tk 10⟩])
 (.cond (.t 4) (.skip)
 (.seq (.ops [] [⟨some 11, none, .bin .eql (.t 3) (.k (.d (.int .i64 14)))⟩,
 ⟨some 4, none, .tk 11⟩])
 (.cond (.t 4) (.skip)
 (.seq (.ops [] [⟨some 12, none, .bin .eql (.t 3) (.k (.d (.int .i64 15)))⟩,
 ⟨some 4, none, .tk 12⟩])
 (.cond (.t 4) (.skip)
 (.seq (.ops [] [⟨some 13, none, .bin .eql (.t 3) (.k (.d (.int .i64 16)))⟩,
 ⟨some 4, none, .tk 13⟩])
 (.cond (.t 4) (.skip)
 (.seq (.ops [] [⟨some 14, none, .bin .eql (.t 3) (.k (.d (.int .i64 29)))⟩,
 ⟨some 4, none, .tk 14⟩])
 (.cond (.t 4) (.skip)
 (.ops [] [⟨some 15, none, .bin .eql (.t 3) (.k (.d (.int .i64 30)))⟩,
 ⟨some 4, none, .tk 15⟩])))))))))))))))))))))
 (.cond (.t 4) (.seq (.ops [] [⟨some 2, none, .mv (.k (.d (.int .i64 0)))⟩])
 (.ret))
 (.seq (.seq (.ops [] [⟨some 17, none, .bin .eql (.t 3) (.k (.d (.int .i64 10)))⟩,
 ⟨some 16, none, .tk 17⟩])
 (.cond (.t 16) (.skip)
 (.seq (.ops [] [⟨some 18, none, .bin .eql (.t 3) (.k (.d (.int .i64 11)))⟩,
 ⟨some 16, none, .tk 18⟩])
 (.cond (.t 16) (.skip)
 (.ops [] [⟨some 19, none, .bin .eql (.t 3) (.k (.d (.int .i64 26)))⟩,
 ⟨some 16, none, .tk 19⟩])))))
 (.cond (.t 16) (.seq (.ops [] [⟨some 2, none, .mv (.k (.d (.int .i64 1)))⟩])
 (.ret))
 (.seq (.seq (.ops [] [⟨some 21, none, .bin .eql (.t 3) (.k (.d (.int .i64 5)))⟩,
 ⟨some 20, none, .tk 21⟩])
 (.cond (.t 20) (.skip)
 (.seq (.ops [] [⟨some 22, none, .bin .eql (.t 3) (.k (.d (.int .i64 6)))⟩,
 ⟨some 20, none, .tk 22⟩])
 (.cond (.t 20) (.skip)
 (.seq (.ops [] [⟨some 23, none, .bin .eql (.t 3) (.k (.d (.int .i64 7)))⟩,
 ⟨some 20, none, .tk 23⟩])
 (.cond (.t 20) (.skip)
 (.seq (.ops [] [⟨some 24, none, .bin .eql (.t 3) (.k (.d (.int .i64 8)))⟩,
 ⟨some 20, none, .tk 24⟩])
 (.cond (.t 20) (.skip)
 (.seq (.ops [] [⟨some 25, none, .bin .eql (.t 3) (.k (.d (.int .i64 17)))⟩,
 ⟨some 20, none, .tk 25⟩])
 (.cond (.t 20) (.skip)
 (.seq (.ops [] [⟨some 26, none, .bin .eql (.t 3) (.k (.d (.int .i64 19)))⟩,
 ⟨some 20, none, .tk 26⟩])
 (.cond (.t 20) (.skip)
 (.seq (.ops [] [⟨some 27, none, .bin .eql (.t 3) (.k (.d (.int .i64 24)))⟩,
 ⟨some 20, none, .tk 27⟩])
 (.cond (.t 20) (.skip)
 (.ops [] [⟨some 28, none, .bin .eql (.t 3) (.k (.d (.int .i64 27)))⟩,
 ⟨some 20, none, .tk 28⟩])))))))))))))))
 (.cond (.t 20) (.seq (.ops [] [⟨some 2, none, .mv (.k (.d (.int .i64 2)))⟩])
 (.ret))
 (.seq (.seq (.ops [] [⟨some 30, none, .bin .eql (.t 3) (.k (.d (.int .i64 18)))⟩,
 ⟨some 29, none, .tk 30⟩])
 (.cond (.t 29) (.skip)
 (.ops [] [⟨some 31, none, .bin .eql (.t 3) (.k (.d (.int .i64 22)))⟩,
 ⟨some 29, none, .tk 31⟩])))
 (.cond (.t 29) (.seq (.ops [] [⟨some 2, none, .mv (.k (.d (.int .i64 3)))⟩])
 (.ret))
 (.seq (.seq (.ops [] [⟨some 33, none, .bin .eql (.t 3) (.k (.d (.int .i64 9)))⟩,
 ⟨some 32, none, .tk 33⟩])
 (.cond (.t 32) (.skip)
 (.ops [] [⟨some 34, none, .bin .eql (.t 3) (.k (.d (.int .i64 21)))⟩,
 ⟨some 32, none, .tk 34⟩])))
 (.cond (.t 32) (.seq (.ops [] [⟨some 2, none, .mv (.k (.d (.int .i64 4)))⟩])
 (.ret))
 (.seq (.seq (.ops [] [⟨some 36, none, .bin .eql (.t 3) (.k (.d (.int .i64 23)))⟩,
 ⟨some 35, none, .tk 36⟩])
 (.cond (.t 35) (.skip)
 (.ops [] [⟨some 37, none, .bin .eql (.t 3) (.k (.d (.int .i64 25)))⟩,
 ⟨some 35, none, .tk 37⟩])))
 (.cond (.t 35) (.seq (.ops [] [⟨some 2, none, .mv (.k (.d (.int .i64 5)))⟩])
 (.ret))
 (.seq (.ops [] [⟨some 39, none, .bin .eql (.t 3) (.k (.d (.int .i64 20)))⟩,
 ⟨some 38, none, .tk 39⟩])
 (.cond (.t 38) (.seq (.ops [] [⟨some 2, none, .mv (.k (.d (.int .i64 6)))⟩])
 (.ret))
 (.seq (.ops [] [⟨some 41, none, .bin .eql (.t 3) (.k (.d (.int .i64 28)))⟩,
 ⟨some 40, none, .tk 41⟩])
 (.cond (.t 40) (.seq (.ops [] [⟨some 2, none, .mv (.k (.d (.int .i64 (-1))))⟩])
 (.ret))
 (.skip)))))))))))))))))))
 (.seq (.ops [] [⟨some 2, none, .mv (.k (.d (.int .i64 (-2))))⟩])
 (.ret)))⟩
theorem c83 : sp 83 = some (.code F83) := by kernel_rfl

/-- tenet/tenetref03.Name -/
def F87 : AFunc := ⟨62, [.tmp 2],
 .seq (.ops [] [⟨some 2, none, .mv (.k (.d (.bool false)))⟩])
 (.seq (.seq (.ops [] [⟨some 7, none, .mv (.t 0)⟩,
 ⟨some 8, none, .len 0 (.t 7)⟩,
 ⟨some 9, none, .bin .lss (.t 8) (.k (.d (.int .i64 1)))⟩,
 ⟨some 10, none, .mv (.t 9)⟩,
 ⟨some 11, some (10, false), .mv (.t 0)⟩,
 ⟨some 12, some (10, false), .len 0 (.t 11)⟩,
 ⟨some 13, some (10, false), .bin .gtr (.t 12) (.k (.d (.int .i64 24)))⟩,
 ⟨some 14, none, .pick (.t 10) (.k (.d (.bool true))) (.t 13)⟩])
 (.cond (.t 14) (.seq (.ops [] [⟨some 2, none, .mv (.k (.d (.bool false)))⟩])
 (.ret))
 (.skip)))
 (.seq (.seq (.ops [] [⟨some 3, none, .mv (.k (.d (.int .i64 0)))⟩])
 (.block 0 (.loop 62 [0, 3] (.seq (.seq (.ops [] [⟨some 15, none, .mv (.t 3)⟩,
 ⟨some 16, none, .mv (.t 0)⟩,
 ⟨some 17, none, .len 0 (.t 16)⟩,
 ⟨some 18, none, .bin .lss (.t 15) (.t 17)⟩])
 (.cond (.t 18) (.skip)
 (.exit 0)))
 (.seq (.block 1 (.seq (.ops [] [⟨some 21, none, .mv (.t 0)⟩,
 ⟨some 22, none, .mv (.t 3)⟩,
 ⟨some 23, none, .ixS (.t 21) (.t 22)⟩,
 ⟨some 4, none, .tk 23⟩])
 (.seq (.ops [] [⟨some 24, none, .mv (.t 4)⟩,
 ⟨some 25, none, .bin .geq (.t 24) (.k (.d (.int .u8 48)))⟩,
 ⟨some 26, none, .mv (.t 25)⟩,
 ⟨some 27, some (26, true), .mv (.t 4)⟩,
 ⟨some 28, some (26, true), .bin .leq (.t 27) (.k (.d (.int .u8 57)))⟩,
 ⟨some 29, none, .pick (.t 26) (.t 28) (.k (.d (.bool false)))⟩,
 ⟨some 5, none, .tk 29⟩])
 (.seq (.ops [] [⟨some 30, none, .mv (.t 4)⟩,
 ⟨some 31, none, .bin .geq (.t 30) (.k (.d (.int .u8 97)))⟩,
 ⟨some 32, none, .mv (.t 31)⟩,
 ⟨some 33, some (32, true), .mv (.t 4)⟩,
 ⟨some 34, some (32, true), .bin .leq (.t 33) (.k (.d (.int .u8 122)))⟩,
 ⟨some 35, none, .pick (.t 32) (.t 34) (.k (.d (.bool false)))⟩,
 ⟨some 36, none, .mv (.t 35)⟩,
 ⟨some 37, some (36, false), .mv (.t 4)⟩,
 ⟨some 38, some (36, false), .bin .geq (.t 37) (.k (.d (.int .u8 65)))⟩,
 ⟨some 39, some (36, false), .mv (.t 38)⟩,
 ⟨some 40, some (39, true), .mv (.t 4)⟩,
 ⟨some 41, some (39, true), .bin .leq (.t 40) (.k (.d (.int .u8 90)))⟩,
 ⟨some 42, some (36, false), .pick (.t 39) (.t 41) (.k (.d (.bool false)))⟩,
 ⟨some 43, none, .pick (.t 36) (.k (.d (.bool true))) (.t 42)⟩,
 ⟨some 44, none, .mv (.t 43)⟩,
 ⟨some 45, some (44, false), .mv (.t 4)⟩,
 ⟨some 46, some (44, false), .bin .eql (.t 45) (.k (.d (.int .u8 95)))⟩,
 ⟨some 47, none, .pick (.t 44) (.k (.d (.bool true))) (.t 46)⟩,
 ⟨some 6, none, .tk 47⟩])
 (.seq (.ops [] [⟨some 48, none, .mv (.t 6)⟩,
 ⟨some 49, none, .not (.t 48)⟩,
 ⟨some 50, none, .mv (.t 49)⟩,
 ⟨some 51, some (50, true), .mv (.t 5)⟩,
 ⟨some 52, some (50, true), .not (.t 51)⟩,
 ⟨some 53, some (50, true), .mv (.t 52)⟩,
 ⟨some 54, some (53, true), .mv (.t 4)⟩,
 ⟨some 55, some (53, true), .bin .neq (.t 54) (.k (.d (.int .u8 46)))⟩,
 ⟨some 56, some (50, true), .pick (.t 53) (.t 55) (.k (.d (.bool false)))⟩,
 ⟨some 57, some (50, true), .mv (.t 56)⟩,
 ⟨some 58, some (57, false), .mv (.t 3)⟩,
 ⟨some 59, some (57, false), .bin .eql (.t 58) (.k (.d (.int .i64 0)))⟩,
 ⟨some 60, some (50, true), .pick (.t 57) (.k (.d (.bool true))) (.t 59)⟩,
 ⟨some 61, none, .pick (.t 50) (.t 60) (.k (.d (.bool false)))⟩])
 (.cond (.t 61) (.seq (.ops [] [⟨some 2, none, .mv (.k (.d (.bool false)))⟩])
 (.ret))
 (.skip)))))))
 (.ops [] [⟨some 19, none, .mv (.t 3)⟩,
 ⟨some 20, none, .bin .add (.t 19) (.k (.d (.int .i64 1)))⟩,
 ⟨some 3, none, .tk 20⟩]))))))
 (.seq (.ops [] [⟨some 2, none, .mv (.k (.d (.bool true)))⟩])
 (.ret))))⟩
theorem c87 : sp 87 = some (.code F87) := by kernel_rfl

/-- tenet/tenetref03.canonical -/
def F86 : AFunc := ⟨17, [.tmp 2],
 .seq (.ops [] [⟨some 1, none, .box true 2 (.t 0)⟩,
 ⟨some 2, none, .mv (.k (.d (.bool false)))⟩])
 (.seq (.ops [] [⟨some 6, none, .ld true 2 (.t 1)⟩,
 ⟨some 7, none, .call 128 [.t 6]⟩,
 ⟨some 5, none, .mv (.t 7)⟩,
 ⟨some 8, none, .ext (.t 5) 0⟩,
 ⟨some 9, none, .ext (.t 5) 1⟩,
 ⟨some 3, none, .alloc true [.d (.int .i64 0), .nil 2]⟩,
 ⟨none, none, .st true 2 (.t 3) (.t 8)⟩,
 ⟨some 4, none, .tk 9⟩])
 (.seq (.ops [] [⟨some 10, none, .mv (.t 4)⟩,
 ⟨some 11, none, .bin .eql (.t 10) (.k (.d (.int .i64 0)))⟩,
 ⟨some 12, none, .mv (.t 11)⟩,
 ⟨some 13, some (12, true), .ld true 2 (.t 1)⟩,
 ⟨some 14, some (12, true), .ld true 2 (.t 3)⟩,
 ⟨some 15, some (12, true), .call 76 [.t 13, .t 14]⟩,
 ⟨some 16, none, .pick (.t 12) (.t 15) (.k (.d (.bool false)))⟩,
 ⟨some 2, none, .tk 16⟩])
 (.ret)))⟩
theorem c86 : sp 86 = some (.code F86) := by kernel_rfl

/-- tenet/tenetref03.number -/
def F88 : AFunc := ⟨55, [.tmp 2],
 .seq (.ops [] [⟨some 1, none, .box true 5 (.t 0)⟩,
 ⟨some 2, none, .mv (.k (.d (.bool false)))⟩])
 (.seq (.seq (.ops [] [⟨some 3, none, .fa 0 1 false (.t 1)⟩,
 ⟨some 4, none, .ld false 1 (.t 3)⟩])
 (.block 0 (.seq (.seq (.ops [] [⟨some 6, none, .bin .eql (.t 4) (.k (.d (.int .i64 1)))⟩,
 ⟨some 5, none, .tk 6⟩])
 (.cond (.t 5) (.skip)
 (.ops [] [⟨some 7, none, .bin .eql (.t 4) (.k (.d (.int .i64 29)))⟩,
 ⟨some 5, none, .tk 7⟩])))
 (.cond (.t 5) (.seq (.ops [] [⟨some 8, none, .fa 1 1 false (.t 1)⟩,
 ⟨some 9, none, .ld false 1 (.t 8)⟩,
 ⟨some 10, none, .bin .geq (.t 9) (.k (.d (.int .i64 0)))⟩,
 ⟨some 11, none, .mv (.t 10)⟩,
 ⟨some 12, some (11, true), .fa 1 1 false (.t 1)⟩,
 ⟨some 13, some (11, true), .ld false 1 (.t 12)⟩,
 ⟨some 14, some (11, true), .bin .leq (.t 13) (.k (.d (.int .i64 2000)))⟩,
 ⟨some 15, none, .pick (.t 11) (.t 14) (.k (.d (.bool false)))⟩,
 ⟨some 2, none, .tk 15⟩])
 (.ret))
 (.seq (.ops [] [⟨some 17, none, .bin .eql (.t 4) (.k (.d (.int .i64 27)))⟩,
 ⟨some 16, none, .tk 17⟩])
 (.cond (.t 16) (.seq (.ops [] [⟨some 18, none, .fa 1 1 false (.t 1)⟩,
 ⟨some 19, none, .ld false 1 (.t 18)⟩,
 ⟨some 20, none, .bin .geq (.t 19) (.k (.d (.int .i64 0)))⟩,
 ⟨some 21, none, .mv (.t 20)⟩,
 ⟨some 22, some (21, true), .fa 1 1 false (.t 1)⟩,
 ⟨some 23, some (21, true), .ld false 1 (.t 22)⟩,
 ⟨some 24, some (21, true), .bin .lss (.t 23) (.k (.d (.int .i64 8)))⟩,
 ⟨some 25, none, .pick (.t 21) (.t 24) (.k (.d (.bool false)))⟩,
 ⟨some 2, none, .tk 25⟩])
 (.ret))
 (.seq (.seq (.ops [] [⟨some 27, none, .bin .eql (.t 4) (.k (.d (.int .i64 6)))⟩,
 ⟨some 26, none, .tk 27⟩])
 (.cond (.t 26) (.skip)
 (.seq (.ops [] [⟨some 28, none, .bin .eql (.t 4) (.k (.d (.int .i64 7)))⟩,
 ⟨some 26, none, .tk 28⟩])
 (.cond (.t 26) (.skip)
 (.seq (.ops [] [⟨some 29, none, .bin .eql (.t 4) (.k (.d (.int .i64 17)))⟩,
 ⟨some 26, none, .tk 29⟩])
 (.cond (.t 26) (.skip)
 (.seq (.ops [] [⟨some 30, none, .bin .eql (.t 4) (.k (.d (.int .i64 25)))⟩,
 ⟨some 26, none, .tk 30⟩])
 (.cond (.t 26) (.skip)
 (.ops [] [⟨some 31, none, .bin .eql (.t 4) (.k (.d (.int .i64 28)))⟩,
 ⟨some 26, none, .tk 31⟩])))))))))
 (.cond (.t 26) (.seq (.ops [] [⟨some 32, none, .fa 1 1 false (.t 1)⟩,
 ⟨some 33, none, .ld false 1 (.t 32)⟩,
 ⟨some 34, none, .bin .eql (.t 33) (.k (.d (.int .i64 0)))⟩,
 ⟨some 35, none, .mv (.t 34)⟩,
 ⟨some 36, some (35, false), .fa 1 1 false (.t 1)⟩,
 ⟨some 37, some (35, false), .ld false 1 (.t 36)⟩,
 ⟨some 38, some (35, false), .bin .eql (.t 37) (.k (.d (.int .i64 1)))⟩,
 ⟨some 39, none, .pick (.t 35) (.k (.d (.bool true))) (.t 38)⟩,
 ⟨some 2, none, .tk 39⟩])
 (.ret))
 (.seq (.seq (.ops [] [⟨some 41, none, .bin .eql (.t 4) (.k (.d (.int .i64 5)))⟩,
 ⟨some 40, none, .tk 41⟩])
 (.cond (.t 40) (.skip)
 (.seq (.ops [] [⟨some 42, none, .bin .eql (.t 4) (.k (.d (.int .i64 8)))⟩,
 ⟨some 40, none, .tk 42⟩])
 (.cond (.t 40) (.skip)
 (.ops [] [⟨some 43, none, .bin .eql (.t 4) (.k (.d (.int .i64 9)))⟩,
 ⟨some 40, none, .tk 43⟩])))))
 (.cond (.t 40) (.seq (.ops [] [⟨some 44, none, .fa 1 1 false (.t 1)⟩,
 ⟨some 45, none, .ld false 1 (.t 44)⟩,
 ⟨some 46, none, .bin .geq (.t 45) (.k (.d (.int .i64 0)))⟩,
 ⟨some 47, none, .mv (.t 46)⟩,
 ⟨some 48, some (47, true), .fa 1 1 false (.t 1)⟩,
 ⟨some 49, some (47, true), .ld false 1 (.t 48)⟩,
 ⟨some 50, some (47, true), .bin .leq (.t 49) (.k (.d (.int .i64 3)))⟩,
 ⟨some 51, none, .pick (.t 47) (.t 50) (.k (.d (.bool false)))⟩,
 ⟨some 2, none, .tk 51⟩])
 (.ret))
 (.skip)))))))))))
 (.seq (.ops [] [⟨some 52, none, .fa 1 1 false (.t 1)⟩,
 ⟨some 53, none, .ld false 1 (.t 52)⟩,
 ⟨some 54, none, .bin .eql (.t 53) (.k (.d (.int .i64 0)))⟩,
 ⟨some 2, none, .tk 54⟩])
 (.ret)))⟩
theorem c88 : sp 88 = some (.code F88) := by kernel_rfl

/-- tenet/tenetref01.Normal -/
def F128 : AFunc := ⟨2, [.reg 18, .tmp 3],
 .seq (.ops [] [⟨some 1, none, .box true 2 (.t 0)⟩,
 ⟨some 18, none, .ralloc true [.d (.int .i64 0), .nil 2]⟩,
 ⟨some 3, none, .mv (.k (.d (.int .i64 0)))⟩])
 (.seq (.seq (.ops [] [⟨some 4, none, .ld true 2 (.t 1)⟩,
 ⟨some 5, none, .call 129 [.t 4]⟩,
 ⟨some 6, none, .not (.t 5)⟩])
 (.cond (.t 6) (.seq (.ops [] [⟨some 7, none, .build [.d (.int .i64 0), .nil 2] []⟩,
 ⟨some 18, none, .rst 18 true 2 (.t 7)⟩,
 ⟨some 3, none, .mv (.k (.d (.int .i64 4)))⟩])
 (.ret))
 (.skip)))
 (.seq (.ops [] [⟨some 8, none, .fa 0 1 false (.t 1)⟩,
 ⟨some 9, none, .ld false 1 (.t 8)⟩,
 ⟨some 10, none, .fa 1 1 false (.t 1)⟩,
 ⟨some 11, none, .ld false 1 (.t 10)⟩,
 ⟨some 12, none, .call 171 [.t 9, .t 11]⟩,
 ⟨some 13, none, .call 170 [.t 12]⟩,
 ⟨some 14, none, .ext (.t 13) 0⟩,
 ⟨some 15, none, .ext (.t 13) 1⟩,
 ⟨some 18, none, .rst 18 true 2 (.t 14)⟩,
 ⟨some 3, none, .tk 15⟩])
 (.ret)))⟩
theorem c128 : sp 128 = some (.code F128) := by kernel_rfl

/-- tenet/tenetref01.Valid -/
def F129 : AFunc := ⟨64, [.tmp 2],
 .seq (.ops [] [⟨some 1, none, .box true 2 (.t 0)⟩,
 ⟨some 2, none, .mv (.k (.d (.bool false)))⟩])
 (.seq (.seq (.ops [] [⟨some 6, none, .fa 0 1 false (.t 1)⟩,
 ⟨some 7, none, .ld false 1 (.t 6)⟩,
 ⟨some 8, none, .bin .lss (.t 7) (.k (.d (.int .i64 0)))⟩,
 ⟨some 9, none, .mv (.t 8)⟩,
 ⟨some 10, some (9, false), .fa 0 1 false (.t 1)⟩,
 ⟨some 11, some (9, false), .ld false 1 (.t 10)⟩,
 ⟨some 12, some (9, false), .bin .gtr (.t 11) (.k (.d (.int .i64 1000)))⟩,
 ⟨some 13, none, .pick (.t 9) (.k (.d (.bool true))) (.t 12)⟩,
 ⟨some 14, none, .mv (.t 13)⟩,
 ⟨some 15, some (14, false), .fa 1 1 false (.t 1)⟩,
 ⟨some 16, some (14, false), .ld false 1 (.t 15)⟩,
 ⟨some 17, some (14, false), .len 1 (.t 16)⟩,
 ⟨some 18, some (14, false), .bin .gtr (.t 17) (.k (.d (.int .i64 8)))⟩,
 ⟨some 19, none, .pick (.t 14) (.k (.d (.bool true))) (.t 18)⟩])
 (.cond (.t 19) (.seq (.ops [] [⟨some 2, none, .mv (.k (.d (.bool false)))⟩])
 (.ret))
 (.skip)))
 (.seq (.seq (.ops [] [⟨some 3, none, .mv (.k (.d (.int .i64 0)))⟩])
 (.block 0 (.loop 64 [1, 3] (.seq (.seq (.ops [] [⟨some 20, none, .mv (.t 3)⟩,
 ⟨some 21, none, .fa 1 1 false (.t 1)⟩,
 ⟨some 22, none, .ld false 1 (.t 21)⟩,
 ⟨some 23, none, .len 1 (.t 22)⟩,
 ⟨some 24, none, .bin .lss (.t 20) (.t 23)⟩])
 (.cond (.t 24) (.skip)
 (.exit 0)))
 (.seq (.block 1 (.seq (.ops [] [⟨some 27, none, .fa 1 1 false (.t 1)⟩,
 ⟨some 28, none, .ld false 1 (.t 27)⟩,
 ⟨some 29, none, .mv (.t 3)⟩,
 ⟨some 30, none, .ia 2 true (.t 28) (.t 29)⟩,
 ⟨some 31, none, .ld true 2 (.t 30)⟩,
 ⟨some 4, none, .alloc true [.d (.int .i64 0), .d (.int .i64 0)]⟩,
 ⟨none, none, .st true 2 (.t 4) (.t 31)⟩])
 (.seq (.seq (.ops [] [⟨some 32, none, .fa 0 1 false (.t 4)⟩,
 ⟨some 33, none, .ld false 1 (.t 32)⟩,
 ⟨some 34, none, .bin .lss (.t 33) (.k (.d (.int .i64 0)))⟩,
 ⟨some 35, none, .mv (.t 34)⟩,
 ⟨some 36, some (35, false), .fa 0 1 false (.t 4)⟩,
 ⟨some 37, some (35, false), .ld false 1 (.t 36)⟩,
 ⟨some 38, some (35, false), .bin .geq (.t 37) (.k (.d (.int .i64 1200)))⟩,
 ⟨some 39, none, .pick (.t 35) (.k (.d (.bool true))) (.t 38)⟩,
 ⟨some 40, none, .mv (.t 39)⟩,
 ⟨some 41, some (40, false), .fa 1 1 false (.t 4)⟩,
 ⟨some 42, some (40, false), .ld false 1 (.t 41)⟩,
 ⟨some 43, some (40, false), .bin .lss (.t 42) (.k (.d (.int .i64 0)))⟩,
 ⟨some 44, none, .pick (.t 40) (.k (.d (.bool true))) (.t 43)⟩,
 ⟨some 45, none, .mv (.t 44)⟩,
 ⟨some 46, some (45, false), .fa 1 1 false (.t 4)⟩,
 ⟨some 47, some (45, false), .ld false 1 (.t 46)⟩,
 ⟨some 48, some (45, false), .bin .gtr (.t 47) (.k (.d (.int .i64 1000)))⟩,
 ⟨some 49, none, .pick (.t 45) (.k (.d (.bool true))) (.t 48)⟩])
 (.cond (.t 49) (.seq (.ops [] [⟨some 2, none, .mv (.k (.d (.bool false)))⟩])
 (.ret))
 (.skip)))
 (.seq (.ops [] [⟨some 5, none, .mv (.k (.d (.int .i64 0)))⟩])
 (.block 2 (.loop 64 [1, 3, 4, 5] (.seq (.seq (.ops [] [⟨some 50, none, .mv (.t 5)⟩,
 ⟨some 51, none, .mv (.t 3)⟩,
 ⟨some 52, none, .bin .lss (.t 50) (.t 51)⟩])
 (.cond (.t 52) (.skip)
 (.exit 2)))
 (.seq (.block 3 (.seq (.ops [] [⟨some 55, none, .fa 1 1 false (.t 1)⟩,
 ⟨some 56, none, .ld false 1 (.t 55)⟩,
 ⟨some 57, none, .mv (.t 5)⟩,
 ⟨some 58, none, .ia 2 true (.t 56) (.t 57)⟩,
 ⟨some 59, none, .fa 0 1 false (.t 58)⟩,
 ⟨some 60, none, .ld false 1 (.t 59)⟩,
 ⟨some 61, none, .fa 0 1 false (.t 4)⟩,
 ⟨some 62, none, .ld false 1 (.t 61)⟩,
 ⟨some 63, none, .bin .eql (.t 60) (.t 62)⟩])
 (.cond (.t 63) (.seq (.ops [] [⟨some 2, none, .mv (.k (.d (.bool false)))⟩])
 (.ret))
 (.skip))))
 (.ops [] [⟨some 53, none, .mv (.t 5)⟩,
 ⟨some 54, none, .bin .add (.t 53) (.k (.d (.int .i64 1)))⟩,
 ⟨some 5, none, .tk 54⟩])))))))))
 (.ops [] [⟨some 25, none, .mv (.t 3)⟩,
 ⟨some 26, none, .bin .add (.t 25) (.k (.d (.int .i64 1)))⟩,
 ⟨some 3, none, .tk 26⟩]))))))
 (.seq (.ops [] [⟨some 2, none, .mv (.k (.d (.bool true)))⟩])
 (.ret))))⟩
theorem c129 : sp 129 = some (.code F129) := by kernel_rfl

/-- tenet/tenetref01.canonical -/
def F171 : AFunc := ⟨4, [.reg 46],
 .seq (.ops [] [⟨some 46, none, .ralloc true [.d (.int .i64 0), .nil 2]⟩])
 (.seq (.ops [] [⟨some 5, none, .alloc true [.d (.int .i64 0), .nil 2]⟩])
 (.seq (.ops [] [⟨some 8, none, .tk 0⟩,
 ⟨some 9, none, .fa 0 1 false (.t 5)⟩,
 ⟨none, none, .st false 1 (.t 9) (.t 8)⟩])
 (.seq (.seq (.ops [] [⟨some 6, none, .mv (.k (.d (.int .i64 0)))⟩])
 (.block 0 (.loop 42 [1, 5, 6, 46] (.seq (.seq (.ops [] [⟨some 10, none, .mv (.t 6)⟩,
 ⟨some 11, none, .mv (.t 1)⟩,
 ⟨some 12, none, .len 1 (.t 11)⟩,
 ⟨some 13, none, .bin .lss (.t 10) (.t 12)⟩])
 (.cond (.t 13) (.skip)
 (.exit 0)))
 (.seq (.block 1 (.ops [] [⟨some 16, none, .fa 1 1 false (.t 5)⟩,
 ⟨some 17, none, .ld false 1 (.t 16)⟩,
 ⟨some 18, none, .mv (.t 1)⟩,
 ⟨some 19, none, .mv (.t 6)⟩,
 ⟨some 20, none, .ia 2 true (.t 18) (.t 19)⟩,
 ⟨some 21, none, .ld true 2 (.t 20)⟩,
 ⟨some 22, none, .call 208 [.t 17, .t 21]⟩,
 ⟨some 23, none, .fa 1 1 false (.t 5)⟩,
 ⟨none, none, .st false 1 (.t 23) (.t 22)⟩]))
 (.ops [] [⟨some 14, none, .mv (.t 6)⟩,
 ⟨some 15, none, .bin .add (.t 14) (.k (.d (.int .i64 1)))⟩,
 ⟨some 6, none, .tk 15⟩]))))))
 (.seq (.seq (.ops [] [⟨some 7, none, .mv (.k (.d (.int .i64 0)))⟩])
 (.block 2 (.loop 42 [5, 7, 46] (.seq (.seq (.ops [] [⟨some 24, none, .mv (.t 7)⟩,
 ⟨some 25, none, .fa 1 1 false (.t 5)⟩,
 ⟨some 26, none, .ld false 1 (.t 25)⟩,
 ⟨some 27, none, .len 1 (.t 26)⟩,
 ⟨some 28, none, .bin .lss (.t 24) (.t 27)⟩])
 (.cond (.t 28) (.skip)
 (.exit 2)))
 (.seq (.block 3 (.seq (.ops [] [⟨some 31, none, .fa 1 1 false (.t 5)⟩,
 ⟨some 32, none, .ld false 1 (.t 31)⟩,
 ⟨some 33, none, .mv (.t 7)⟩,
 ⟨some 34, none, .ia 2 true (.t 32) (.t 33)⟩,
 ⟨some 35, none, .fa 1 1 false (.t 34)⟩,
 ⟨some 36, none, .ld false 1 (.t 35)⟩,
 ⟨some 37, none, .fa 0 1 false (.t 5)⟩,
 ⟨some 38, none, .ld false 1 (.t 37)⟩,
 ⟨some 39, none, .bin .geq (.t 36) (.t 38)⟩])
 (.cond (.t 39) (.ops [] [⟨some 40, none, .fa 0 1 false (.t 5)⟩,
 ⟨none, none, .st false 1 (.t 40) (.k (.d (.int .i64 0)))⟩])
 (.skip))))
 (.ops [] [⟨some 29, none, .mv (.t 7)⟩,
 ⟨some 30, none, .bin .add (.t 29) (.k (.d (.int .i64 1)))⟩,
 ⟨some 7, none, .tk 30⟩]))))))
 (.seq (.ops [] [⟨some 41, none, .ld true 2 (.t 5)⟩,
 ⟨some 46, none, .rst 46 true 2 (.t 41)⟩])
 (.ret))))))⟩
theorem c171 : sp 171 = some (.code F171) := by kernel_rfl

/-- tenet/tenetref01.put -/
def F208 : AFunc := ⟨54, [.tmp 4],
 .seq (.ops [] [⟨some 3, none, .box true 2 (.t 1)⟩,
 ⟨some 4, none, .mv (.k (.nil 2))⟩])
 (.seq (.ops [] [⟨some 5, none, .mv (.k (.nil 2))⟩])
 (.seq (.ops [] [⟨some 6, none, .mv (.k (.d (.bool false)))⟩])
 (.seq (.seq (.ops [] [⟨some 7, none, .mv (.k (.d (.int .i64 0)))⟩])
 (.block 0 (.loop 54 [0, 3, 5, 6, 7] (.seq (.seq (.ops [] [⟨some 9, none, .mv (.t 7)⟩,
 ⟨some 10, none, .mv (.t 0)⟩,
 ⟨some 11, none, .len 1 (.t 10)⟩,
 ⟨some 12, none, .bin .lss (.t 9) (.t 11)⟩])
 (.cond (.t 12) (.skip)
 (.exit 0)))
 (.seq (.block 1 (.seq (.ops [] [⟨some 15, none, .mv (.t 0)⟩,
 ⟨some 16, none, .mv (.t 7)⟩,
 ⟨some 17, none, .ia 2 true (.t 15) (.t 16)⟩,
 ⟨some 18, none, .ld true 2 (.t 17)⟩,
 ⟨some 8, none, .alloc true [.d (.int .i64 0), .d (.int .i64 0)]⟩,
 ⟨none, none, .st true 2 (.t 8) (.t 18)⟩])
 (.seq (.seq (.ops [] [⟨some 19, none, .mv (.t 6)⟩,
 ⟨some 20, none, .not (.t 19)⟩,
 ⟨some 21, none, .mv (.t 20)⟩,
 ⟨some 22, some (21, true), .fa 0 1 false (.t 3)⟩,
 ⟨some 23, some (21, true), .ld false 1 (.t 22)⟩,
 ⟨some 24, some (21, true), .fa 0 1 false (.t 8)⟩,
 ⟨some 25, some (21, true), .ld false 1 (.t 24)⟩,
 ⟨some 26, some (21, true), .bin .lss (.t 23) (.t 25)⟩,
 ⟨some 27, none, .pick (.t 21) (.t 26) (.k (.d (.bool false)))⟩])
 (.cond (.t 27) (.seq (.ops [] [⟨some 28, none, .tk 5⟩,
 ⟨some 29, none, .ld true 2 (.t 3)⟩,
 ⟨some 30, none, .lit 2 [.t 29]⟩,
 ⟨some 31, none, .app 2 (.t 28) (.t 30)⟩,
 ⟨some 5, none, .tk 31⟩])
 (.ops [] [⟨some 6, none, .mv (.k (.d (.bool true)))⟩]))
 (.skip)))
 (.seq (.seq (.ops [] [⟨some 32, none, .fa 0 1 false (.t 3)⟩,
 ⟨some 33, none, .ld false 1 (.t 32)⟩,
 ⟨some 34, none, .fa 0 1 false (.t 8)⟩,
 ⟨some 35, none, .ld false 1 (.t 34)⟩,
 ⟨some 36, none, .bin .eql (.t 33) (.t 35)⟩])
 (.cond (.t 36) (.seq (.ops [] [⟨some 37, none, .fa 1 1 false (.t 3)⟩,
 ⟨some 38, none, .ld false 1 (.t 37)⟩,
 ⟨some 39, none, .fa 1 1 false (.t 8)⟩,
 ⟨some 40, none, .ld false 1 (.t 39)⟩,
 ⟨some 41, none, .mm true (.t 38) (.t 40)⟩,
 ⟨some 42, none, .fa 1 1 false (.t 8)⟩,
 ⟨none, none, .st false 1 (.t 42) (.t 41)⟩])
 (.ops [] [⟨some 6, none, .mv (.k (.d (.bool true)))⟩]))
 (.skip)))
 (.ops [] [⟨some 43, none, .tk 5⟩,
 ⟨some 44, none, .ld true 2 (.t 8)⟩,
 ⟨some 45, none, .lit 2 [.t 44]⟩,
 ⟨some 46, none, .app 2 (.t 43) (.t 45)⟩,
 ⟨some 5, none, .tk 46⟩])))))
 (.ops [] [⟨some 13, none, .mv (.t 7)⟩,
 ⟨some 14, none, .bin .add (.t 13) (.k (.d (.int .i64 1)))⟩,
 ⟨some 7, none, .tk 14⟩]))))))
 (.seq (.seq (.ops [] [⟨some 47, none, .mv (.t 6)⟩,
 ⟨some 48, none, .not (.t 47)⟩])
 (.cond (.t 48) (.ops [] [⟨some 49, none, .tk 5⟩,
 ⟨some 50, none, .ld true 2 (.t 3)⟩,
 ⟨some 51, none, .lit 2 [.t 50]⟩,
 ⟨some 52, none, .app 2 (.t 49) (.t 51)⟩,
 ⟨some 5, none, .tk 52⟩])
 (.skip)))
 (.seq (.ops [] [⟨some 53, none, .tk 5⟩,
 ⟨some 4, none, .tk 53⟩])
 (.ret))))))⟩
theorem c208 : sp 208 = some (.code F208) := by kernel_rfl

/-- tenet/tenetref01.fits -/
def F170 : AFunc := ⟨2, [.reg 33, .tmp 3],
 .seq (.ops [] [⟨some 1, none, .box true 2 (.t 0)⟩,
 ⟨some 33, none, .ralloc true [.d (.int .i64 0), .nil 2]⟩,
 ⟨some 3, none, .mv (.k (.d (.int .i64 0)))⟩])
 (.seq (.seq (.ops [] [⟨some 5, none, .fa 1 1 false (.t 1)⟩,
 ⟨some 6, none, .ld false 1 (.t 5)⟩,
 ⟨some 7, none, .len 1 (.t 6)⟩,
 ⟨some 8, none, .bin .gtr (.t 7) (.k (.d (.int .i64 8)))⟩,
 ⟨some 9, none, .mv (.t 8)⟩,
 ⟨some 10, some (9, false), .fa 0 1 false (.t 1)⟩,
 ⟨some 11, some (9, false), .ld false 1 (.t 10)⟩,
 ⟨some 12, some (9, false), .bin .gtr (.t 11) (.k (.d (.int .i64 1000)))⟩,
 ⟨some 13, none, .pick (.t 9) (.k (.d (.bool true))) (.t 12)⟩])
 (.cond (.t 13) (.seq (.ops [] [⟨some 14, none, .build [.d (.int .i64 0), .nil 2] []⟩,
 ⟨some 33, none, .rst 33 true 2 (.t 14)⟩,
 ⟨some 3, none, .mv (.k (.d (.int .i64 2)))⟩])
 (.ret))
 (.skip)))
 (.seq (.seq (.ops [] [⟨some 4, none, .mv (.k (.d (.int .i64 0)))⟩])
 (.block 0 (.loop 31 [1, 4, 33] (.seq (.seq (.ops [] [⟨some 15, none, .mv (.t 4)⟩,
 ⟨some 16, none, .fa 1 1 false (.t 1)⟩,
 ⟨some 17, none, .ld false 1 (.t 16)⟩,
 ⟨some 18, none, .len 1 (.t 17)⟩,
 ⟨some 19, none, .bin .lss (.t 15) (.t 18)⟩])
 (.cond (.t 19) (.skip)
 (.exit 0)))
 (.seq (.block 1 (.seq (.ops [] [⟨some 22, none, .fa 1 1 false (.t 1)⟩,
 ⟨some 23, none, .ld false 1 (.t 22)⟩,
 ⟨some 24, none, .mv (.t 4)⟩,
 ⟨some 25, none, .ia 2 true (.t 23) (.t 24)⟩,
 ⟨some 26, none, .fa 1 1 false (.t 25)⟩,
 ⟨some 27, none, .ld false 1 (.t 26)⟩,
 ⟨some 28, none, .bin .gtr (.t 27) (.k (.d (.int .i64 1000)))⟩])
 (.cond (.t 28) (.seq (.ops [] [⟨some 29, none, .build [.d (.int .i64 0), .nil 2] []⟩,
 ⟨some 33, none, .rst 33 true 2 (.t 29)⟩,
 ⟨some 3, none, .mv (.k (.d (.int .i64 2)))⟩])
 (.ret))
 (.skip))))
 (.ops [] [⟨some 20, none, .mv (.t 4)⟩,
 ⟨some 21, none, .bin .add (.t 20) (.k (.d (.int .i64 1)))⟩,
 ⟨some 4, none, .tk 21⟩]))))))
 (.seq (.ops [] [⟨some 30, none, .ld true 2 (.t 1)⟩,
 ⟨some 33, none, .rst 33 true 2 (.t 30)⟩,
 ⟨some 3, none, .mv (.k (.d (.int .i64 0)))⟩])
 (.ret))))⟩
theorem c170 : sp 170 = some (.code F170) := by kernel_rfl

/-- tenet/tenetref00.EqLevel -/
def F76 : AFunc := ⟨38, [.tmp 4],
 .seq (.ops [] [⟨some 2, none, .box true 2 (.t 0)⟩,
 ⟨some 3, none, .box true 2 (.t 1)⟩,
 ⟨some 4, none, .mv (.k (.d (.bool false)))⟩])
 (.seq (.seq (.ops [] [⟨some 6, none, .fa 0 1 false (.t 2)⟩,
 ⟨some 7, none, .ld false 1 (.t 6)⟩,
 ⟨some 8, none, .fa 0 1 false (.t 3)⟩,
 ⟨some 9, none, .ld false 1 (.t 8)⟩,
 ⟨some 10, none, .bin .neq (.t 7) (.t 9)⟩,
 ⟨some 11, none, .mv (.t 10)⟩,
 ⟨some 12, some (11, false), .fa 1 1 false (.t 2)⟩,
 ⟨some 13, some (11, false), .ld false 1 (.t 12)⟩,
 ⟨some 14, some (11, false), .len 1 (.t 13)⟩,
 ⟨some 15, some (11, false), .fa 1 1 false (.t 3)⟩,
 ⟨some 16, some (11, false), .ld false 1 (.t 15)⟩,
 ⟨some 17, some (11, false), .len 1 (.t 16)⟩,
 ⟨some 18, some (11, false), .bin .neq (.t 14) (.t 17)⟩,
 ⟨some 19, none, .pick (.t 11) (.k (.d (.bool true))) (.t 18)⟩])
 (.cond (.t 19) (.seq (.ops [] [⟨some 4, none, .mv (.k (.d (.bool false)))⟩])
 (.ret))
 (.skip)))
 (.seq (.seq (.ops [] [⟨some 5, none, .mv (.k (.d (.int .i64 0)))⟩])
 (.block 0 (.loop 38 [2, 3, 5] (.seq (.seq (.ops [] [⟨some 20, none, .mv (.t 5)⟩,
 ⟨some 21, none, .fa 1 1 false (.t 2)⟩,
 ⟨some 22, none, .ld false 1 (.t 21)⟩,
 ⟨some 23, none, .len 1 (.t 22)⟩,
 ⟨some 24, none, .bin .lss (.t 20) (.t 23)⟩])
 (.cond (.t 24) (.skip)
 (.exit 0)))
 (.seq (.block 1 (.seq (.ops [] [⟨some 27, none, .fa 1 1 false (.t 2)⟩,
 ⟨some 28, none, .ld false 1 (.t 27)⟩,
 ⟨some 29, none, .mv (.t 5)⟩,
 ⟨some 30, none, .ia 2 true (.t 28) (.t 29)⟩,
 ⟨some 31, none, .ld true 2 (.t 30)⟩,
 ⟨some 32, none, .fa 1 1 false (.t 3)⟩,
 ⟨some 33, none, .ld false 1 (.t 32)⟩,
 ⟨some 34, none, .mv (.t 5)⟩,
 ⟨some 35, none, .ia 2 true (.t 33) (.t 34)⟩,
 ⟨some 36, none, .ld true 2 (.t 35)⟩,
 ⟨some 37, none, .eqRow [0, 0] true (.t 31) (.t 36)⟩])
 (.cond (.t 37) (.seq (.ops [] [⟨some 4, none, .mv (.k (.d (.bool false)))⟩])
 (.ret))
 (.skip))))
 (.ops [] [⟨some 25, none, .mv (.t 5)⟩,
 ⟨some 26, none, .bin .add (.t 25) (.k (.d (.int .i64 1)))⟩,
 ⟨some 5, none, .tk 26⟩]))))))
 (.seq (.ops [] [⟨some 4, none, .mv (.k (.d (.bool true)))⟩])
 (.ret))))⟩
theorem c76 : sp 76 = some (.code F76) := by kernel_rfl

end Go.Tm
