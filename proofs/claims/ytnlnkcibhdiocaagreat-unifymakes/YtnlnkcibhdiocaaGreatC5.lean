/- The statement about the solutions that are made out of bodies (UnifyMakes) holds for every input. Here: The program's functions as abstract code. -/
import Derived.Test.YtnlnkcibhdiocaaGreatC4
import Derived.KernelRfl

set_option linter.unusedVariables false
set_option linter.unusedSimpArgs false
set_option linter.unnecessarySimpa false

/-! The program's functions as abstract code. -/
namespace Go.Tm
open Go.Abs Go.Proofs
set_option maxRecDepth 20000

/-- tenet/tenetlaw13.UnifyMakes -/
def F6 : AFunc := ⟨59, [.tmp 8],
 .seq (.ops [] [⟨some 4, none, .box true 6 (.t 0)⟩,
 ⟨some 5, none, .box true 5 (.t 1)⟩,
 ⟨some 8, none, .mv (.k (.d (.bool false)))⟩])
 (.seq (.seq (.ops [] [⟨some 13, none, .fa 0 1 false (.t 4)⟩,
 ⟨some 14, none, .ld false 1 (.t 13)⟩,
 ⟨some 15, none, .call 22 [.t 14]⟩,
 ⟨some 16, none, .mv (.t 15)⟩,
 ⟨some 17, some (16, false), .fa 1 5 true (.t 4)⟩,
 ⟨some 18, some (16, false), .ld true 5 (.t 17)⟩,
 ⟨some 19, some (16, false), .call 18 [.t 18, .k (.d (.int .i64 100))]⟩,
 ⟨some 20, none, .pick (.t 16) (.k (.d (.bool true))) (.t 19)⟩,
 ⟨some 21, none, .mv (.t 20)⟩,
 ⟨some 22, some (21, false), .ld true 5 (.t 5)⟩,
 ⟨some 23, some (21, false), .call 18 [.t 22, .k (.d (.int .i64 100))]⟩,
 ⟨some 24, none, .pick (.t 21) (.k (.d (.bool true))) (.t 23)⟩])
 (.cond (.t 24) (.seq (.ops [] [⟨some 8, none, .mv (.k (.d (.bool true)))⟩])
 (.ret))
 (.skip)))
 (.seq (.ops [] [⟨some 26, none, .mv (.t 2)⟩,
 ⟨some 27, none, .ld true 6 (.t 4)⟩,
 ⟨some 28, none, .mv (.t 3)⟩,
 ⟨some 29, none, .call 23 [.t 26, .t 27, .t 28]⟩,
 ⟨some 25, none, .mv (.t 29)⟩,
 ⟨some 30, none, .ext (.t 25) 0⟩,
 ⟨some 31, none, .ext (.t 25) 1⟩,
 ⟨some 9, none, .alloc true [.d (.int .i64 0), .d (.int .i64 0), .d (.str []), .nil 2, .nil 5]⟩,
 ⟨none, none, .st true 5 (.t 9) (.t 30)⟩,
 ⟨some 10, none, .tk 31⟩])
 (.seq (.ops [] [⟨some 33, none, .mv (.t 2)⟩,
 ⟨some 34, none, .ld true 6 (.t 4)⟩,
 ⟨some 35, none, .mv (.t 3)⟩,
 ⟨some 36, none, .call 24 [.t 33, .t 34, .t 35]⟩,
 ⟨some 32, none, .mv (.t 36)⟩,
 ⟨some 37, none, .ext (.t 32) 0⟩,
 ⟨some 38, none, .ext (.t 32) 1⟩,
 ⟨some 11, none, .alloc true [.d (.int .i64 0), .d (.int .i64 0), .d (.str []), .nil 2, .nil 5]⟩,
 ⟨none, none, .st true 5 (.t 11) (.t 37)⟩,
 ⟨some 12, none, .tk 38⟩])
 (.seq (.ops [] [⟨some 39, none, .mv (.t 10)⟩,
 ⟨some 40, none, .mv (.t 12)⟩,
 ⟨some 41, none, .bin .eql (.t 39) (.t 40)⟩,
 ⟨some 42, none, .mv (.t 41)⟩,
 ⟨some 43, some (42, true), .ld true 5 (.t 9)⟩,
 ⟨some 44, some (42, true), .ld true 5 (.t 11)⟩,
 ⟨some 45, some (42, true), .call 12 [.t 43, .t 44]⟩,
 ⟨some 46, none, .pick (.t 42) (.t 45) (.k (.d (.bool false)))⟩,
 ⟨some 47, none, .mv (.t 46)⟩,
 ⟨some 48, some (47, true), .ld true 6 (.t 4)⟩,
 ⟨some 49, some (47, true), .ld true 5 (.t 5)⟩,
 ⟨some 50, some (47, true), .call 25 [.t 48, .t 49]⟩,
 ⟨some 51, some (47, true), .ld true 6 (.t 4)⟩,
 ⟨some 52, some (47, true), .ld true 5 (.t 5)⟩,
 ⟨some 53, some (47, true), .call 26 [.t 51, .t 52]⟩,
 ⟨some 54, some (47, true), .call 12 [.t 50, .t 53]⟩,
 ⟨some 55, none, .pick (.t 47) (.t 54) (.k (.d (.bool false)))⟩,
 ⟨some 56, none, .mv (.t 55)⟩,
 ⟨some 57, some (56, true), .call 27 []⟩,
 ⟨some 58, none, .pick (.t 56) (.t 57) (.k (.d (.bool false)))⟩,
 ⟨some 8, none, .tk 58⟩])
 (.ret)))))⟩
theorem c6 : sp 6 = some (.code F6) := by kernel_rfl

/-- tenet/tenetlaw13.thick -/
def F22 : AFunc := ⟨20, [.tmp 2],
 .seq (.ops [] [⟨some 2, none, .mv (.k (.d (.bool false)))⟩])
 (.seq (.seq (.ops [] [⟨some 3, none, .mv (.k (.d (.int .i64 0)))⟩])
 (.block 0 (.loop 20 [0, 3] (.seq (.seq (.ops [] [⟨some 4, none, .mv (.t 3)⟩,
 ⟨some 5, none, .mv (.t 0)⟩,
 ⟨some 6, none, .len 1 (.t 5)⟩,
 ⟨some 7, none, .bin .lss (.t 4) (.t 6)⟩])
 (.cond (.t 7) (.skip)
 (.exit 0)))
 (.seq (.block 1 (.seq (.ops [] [⟨some 10, none, .mv (.t 3)⟩,
 ⟨some 11, none, .bin .eql (.t 10) (.k (.d (.int .i64 10)))⟩,
 ⟨some 12, none, .mv (.t 11)⟩,
 ⟨some 13, some (12, false), .mv (.t 0)⟩,
 ⟨some 14, some (12, false), .mv (.t 3)⟩,
 ⟨some 15, some (12, false), .ia 6 true (.t 13) (.t 14)⟩,
 ⟨some 16, some (12, false), .fa 0 5 true (.t 15)⟩,
 ⟨some 17, some (12, false), .ld true 5 (.t 16)⟩,
 ⟨some 18, some (12, false), .call 18 [.t 17, .k (.d (.int .i64 100))]⟩,
 ⟨some 19, none, .pick (.t 12) (.k (.d (.bool true))) (.t 18)⟩])
 (.cond (.t 19) (.seq (.ops [] [⟨some 2, none, .mv (.k (.d (.bool true)))⟩])
 (.ret))
 (.skip))))
 (.ops [] [⟨some 8, none, .mv (.t 3)⟩,
 ⟨some 9, none, .bin .add (.t 8) (.k (.d (.int .i64 1)))⟩,
 ⟨some 3, none, .tk 9⟩]))))))
 (.seq (.ops [] [⟨some 2, none, .mv (.k (.d (.bool false)))⟩])
 (.ret)))⟩
theorem c22 : sp 22 = some (.code F22) := by kernel_rfl

/-- tenet/unify.Use -/
def F23 : AFunc := ⟨6, [.reg 47, .tmp 7],
 .seq (.ops [] [⟨some 4, none, .box true 6 (.t 1)⟩,
 ⟨some 47, none, .ralloc true [.d (.int .i64 0), .d (.int .i64 0), .d (.str []), .nil 2, .nil 5]⟩,
 ⟨some 7, none, .mv (.k (.d (.int .i64 0)))⟩])
 (.seq (.seq (.ops [] [⟨some 12, none, .mv (.t 2)⟩,
 ⟨some 13, none, .fa 0 1 false (.t 4)⟩,
 ⟨some 14, none, .ld false 1 (.t 13)⟩,
 ⟨some 15, none, .len 1 (.t 14)⟩,
 ⟨some 16, none, .bin .lss (.t 12) (.t 15)⟩])
 (.cond (.t 16) (.seq (.ops [] [⟨some 17, none, .build [.d (.int .i64 0), .d (.int .i64 0), .d (.str []), .nil 2, .nil 5] []⟩,
 ⟨some 47, none, .rst 47 true 5 (.t 17)⟩,
 ⟨some 7, none, .mv (.k (.d (.int .i64 1)))⟩])
 (.ret))
 (.skip)))
 (.seq (.ops [] [⟨some 18, none, .mv (.t 0)⟩,
 ⟨some 19, none, .build [.d (.int .i64 0), .d (.int .i64 0), .d (.str []), .nil 2, .nil 5] [(0, 1, (.k (.d (.int .i64 29)))), (1, 1, (.t 18))]⟩,
 ⟨some 8, none, .alloc true [.d (.int .i64 0), .d (.int .i64 0), .d (.str []), .nil 2, .nil 5]⟩,
 ⟨none, none, .st true 5 (.t 8) (.t 19)⟩])
 (.seq (.seq (.ops [] [⟨some 20, none, .fa 0 1 false (.t 4)⟩,
 ⟨some 21, none, .ld false 1 (.t 20)⟩,
 ⟨some 22, none, .len 1 (.t 21)⟩,
 ⟨some 23, none, .mv (.k (.d (.int .i64 0)))⟩])
 (.block 0 (.loop 41 [2, 8, 21, 22, 23, 47] (.seq (.ops [] [⟨some 24, none, .bin .lss (.t 23) (.t 22)⟩])
 (.seq (.cond (.t 24) (.skip)
 (.exit 0))
 (.seq (.block 1 (.seq (.ops [] [⟨some 25, none, .tk 23⟩,
 ⟨some 26, none, .ia 6 true (.t 21) (.t 23)⟩,
 ⟨some 27, none, .ld true 6 (.t 26)⟩,
 ⟨some 10, none, .alloc true [.d (.int .i64 0), .d (.int .i64 0), .d (.str []), .nil 2, .nil 5, .d (.bool false)]⟩,
 ⟨some 9, none, .tk 25⟩,
 ⟨none, none, .st true 6 (.t 10) (.t 27)⟩])
 (.seq (.ops [] [⟨some 11, none, .mv (.k (.d (.int .i64 0)))⟩])
 (.seq (.seq (.ops [] [⟨some 28, none, .fa 5 1 false (.t 10)⟩,
 ⟨some 29, none, .ld false 1 (.t 28)⟩])
 (.cond (.t 29) (.ops [] [⟨some 11, none, .mv (.k (.d (.int .i64 1)))⟩])
 (.skip)))
 (.ops [] [⟨some 30, none, .mv (.t 11)⟩,
 ⟨some 31, none, .ld true 5 (.t 8)⟩,
 ⟨some 32, none, .mv (.t 2)⟩,
 ⟨some 33, none, .bin .sub (.t 32) (.k (.d (.int .i64 1)))⟩,
 ⟨some 34, none, .mv (.t 9)⟩,
 ⟨some 35, none, .bin .sub (.t 33) (.t 34)⟩,
 ⟨some 36, none, .build [.d (.int .i64 0), .d (.int .i64 0), .d (.str []), .nil 2, .nil 5] [(0, 1, (.k (.d (.int .i64 1)))), (1, 1, (.t 35))]⟩,
 ⟨some 37, none, .lit 5 [.t 31, .t 36]⟩,
 ⟨some 38, none, .build [.d (.int .i64 0), .d (.int .i64 0), .d (.str []), .nil 2, .nil 5] [(0, 1, (.k (.d (.int .i64 7)))), (1, 1, (.t 30)), (4, 1, (.t 37))]⟩,
 ⟨none, none, .st true 5 (.t 8) (.t 38)⟩])))))
 (.ops [] [⟨some 39, none, .bin .add (.t 23) (.k (.d (.int .i64 1)))⟩,
 ⟨some 23, none, .mv (.t 39)⟩])))))))
 (.seq (.ops [] [⟨some 40, none, .ld true 5 (.t 8)⟩,
 ⟨some 47, none, .rst 47 true 5 (.t 40)⟩,
 ⟨some 7, none, .mv (.k (.d (.int .i64 0)))⟩])
 (.ret)))))⟩
theorem c23 : sp 23 = some (.code F23) := by kernel_rfl

/-- tenet/tenetref13.Use -/
def F24 : AFunc := ⟨6, [.reg 48, .tmp 7],
 .seq (.ops [] [⟨some 4, none, .box true 6 (.t 1)⟩,
 ⟨some 48, none, .ralloc true [.d (.int .i64 0), .d (.int .i64 0), .d (.str []), .nil 2, .nil 5]⟩,
 ⟨some 7, none, .mv (.k (.d (.int .i64 0)))⟩])
 (.seq (.seq (.ops [] [⟨some 11, none, .mv (.t 2)⟩,
 ⟨some 12, none, .fa 0 1 false (.t 4)⟩,
 ⟨some 13, none, .ld false 1 (.t 12)⟩,
 ⟨some 14, none, .len 1 (.t 13)⟩,
 ⟨some 15, none, .bin .lss (.t 11) (.t 14)⟩])
 (.cond (.t 15) (.seq (.ops [] [⟨some 16, none, .build [.d (.int .i64 0), .d (.int .i64 0), .d (.str []), .nil 2, .nil 5] []⟩,
 ⟨some 48, none, .rst 48 true 5 (.t 16)⟩,
 ⟨some 7, none, .mv (.k (.d (.int .i64 1)))⟩])
 (.ret))
 (.skip)))
 (.seq (.ops [] [⟨some 17, none, .mv (.t 0)⟩,
 ⟨some 18, none, .build [.d (.int .i64 0), .d (.int .i64 0), .d (.str []), .nil 2, .nil 5] [(0, 1, (.k (.d (.int .i64 29)))), (1, 1, (.t 17))]⟩,
 ⟨some 8, none, .alloc true [.d (.int .i64 0), .d (.int .i64 0), .d (.str []), .nil 2, .nil 5]⟩,
 ⟨none, none, .st true 5 (.t 8) (.t 18)⟩])
 (.seq (.seq (.ops [] [⟨some 9, none, .mv (.k (.d (.int .i64 0)))⟩])
 (.block 0 (.loop 42 [2, 4, 8, 9, 48] (.seq (.seq (.ops [] [⟨some 19, none, .mv (.t 9)⟩,
 ⟨some 20, none, .fa 0 1 false (.t 4)⟩,
 ⟨some 21, none, .ld false 1 (.t 20)⟩,
 ⟨some 22, none, .len 1 (.t 21)⟩,
 ⟨some 23, none, .bin .lss (.t 19) (.t 22)⟩])
 (.cond (.t 23) (.skip)
 (.exit 0)))
 (.seq (.block 1 (.seq (.ops [] [⟨some 10, none, .mv (.k (.d (.int .i64 0)))⟩])
 (.seq (.seq (.ops [] [⟨some 26, none, .fa 0 1 false (.t 4)⟩,
 ⟨some 27, none, .ld false 1 (.t 26)⟩,
 ⟨some 28, none, .mv (.t 9)⟩,
 ⟨some 29, none, .ia 6 true (.t 27) (.t 28)⟩,
 ⟨some 30, none, .fa 5 1 false (.t 29)⟩,
 ⟨some 31, none, .ld false 1 (.t 30)⟩])
 (.cond (.t 31) (.ops [] [⟨some 10, none, .mv (.k (.d (.int .i64 1)))⟩])
 (.skip)))
 (.ops [] [⟨some 32, none, .mv (.t 10)⟩,
 ⟨some 33, none, .ld true 5 (.t 8)⟩,
 ⟨some 34, none, .mv (.t 2)⟩,
 ⟨some 35, none, .bin .sub (.t 34) (.k (.d (.int .i64 1)))⟩,
 ⟨some 36, none, .mv (.t 9)⟩,
 ⟨some 37, none, .bin .sub (.t 35) (.t 36)⟩,
 ⟨some 38, none, .build [.d (.int .i64 0), .d (.int .i64 0), .d (.str []), .nil 2, .nil 5] [(0, 1, (.k (.d (.int .i64 1)))), (1, 1, (.t 37))]⟩,
 ⟨some 39, none, .lit 5 [.t 33, .t 38]⟩,
 ⟨some 40, none, .build [.d (.int .i64 0), .d (.int .i64 0), .d (.str []), .nil 2, .nil 5] [(0, 1, (.k (.d (.int .i64 7)))), (1, 1, (.t 32)), (4, 1, (.t 39))]⟩,
 ⟨none, none, .st true 5 (.t 8) (.t 40)⟩]))))
 (.ops [] [⟨some 24, none, .mv (.t 9)⟩,
 ⟨some 25, none, .bin .add (.t 24) (.k (.d (.int .i64 1)))⟩,
 ⟨some 9, none, .tk 25⟩]))))))
 (.seq (.ops [] [⟨some 41, none, .ld true 5 (.t 8)⟩,
 ⟨some 48, none, .rst 48 true 5 (.t 41)⟩,
 ⟨some 7, none, .mv (.k (.d (.int .i64 0)))⟩])
 (.ret)))))⟩
theorem c24 : sp 24 = some (.code F24) := by kernel_rfl

/-- tenet/tenetref13.Abstract -/
def F26 : AFunc := ⟨4, [.reg 40],
 .seq (.ops [] [⟨some 2, none, .box true 6 (.t 0)⟩,
 ⟨some 3, none, .box true 5 (.t 1)⟩,
 ⟨some 40, none, .ralloc true [.d (.int .i64 0), .d (.int .i64 0), .d (.str []), .nil 2, .nil 5]⟩])
 (.seq (.ops [] [⟨some 8, none, .ld true 5 (.t 3)⟩,
 ⟨some 9, none, .call 57 [.t 8]⟩,
 ⟨some 5, none, .alloc true [.d (.int .i64 0), .d (.int .i64 0), .d (.str []), .nil 2, .nil 5]⟩,
 ⟨none, none, .st true 5 (.t 5) (.t 9)⟩])
 (.seq (.seq (.ops [] [⟨some 10, none, .fa 0 1 false (.t 2)⟩,
 ⟨some 11, none, .ld false 1 (.t 10)⟩,
 ⟨some 12, none, .len 1 (.t 11)⟩,
 ⟨some 13, none, .bin .sub (.t 12) (.k (.d (.int .i64 1)))⟩,
 ⟨some 6, none, .tk 13⟩])
 (.block 0 (.loop 36 [2, 5, 6, 40] (.seq (.seq (.ops [] [⟨some 14, none, .mv (.t 6)⟩,
 ⟨some 15, none, .bin .geq (.t 14) (.k (.d (.int .i64 0)))⟩])
 (.cond (.t 15) (.skip)
 (.exit 0)))
 (.seq (.block 1 (.seq (.ops [] [⟨some 7, none, .mv (.k (.d (.int .i64 0)))⟩])
 (.seq (.seq (.ops [] [⟨some 18, none, .fa 0 1 false (.t 2)⟩,
 ⟨some 19, none, .ld false 1 (.t 18)⟩,
 ⟨some 20, none, .mv (.t 6)⟩,
 ⟨some 21, none, .ia 6 true (.t 19) (.t 20)⟩,
 ⟨some 22, none, .fa 5 1 false (.t 21)⟩,
 ⟨some 23, none, .ld false 1 (.t 22)⟩])
 (.cond (.t 23) (.ops [] [⟨some 7, none, .mv (.k (.d (.int .i64 1)))⟩])
 (.skip)))
 (.ops [] [⟨some 24, none, .mv (.t 7)⟩,
 ⟨some 25, none, .fa 0 1 false (.t 2)⟩,
 ⟨some 26, none, .ld false 1 (.t 25)⟩,
 ⟨some 27, none, .mv (.t 6)⟩,
 ⟨some 28, none, .ia 6 true (.t 26) (.t 27)⟩,
 ⟨some 29, none, .fa 0 5 true (.t 28)⟩,
 ⟨some 30, none, .ld true 5 (.t 29)⟩,
 ⟨some 31, none, .call 57 [.t 30]⟩,
 ⟨some 32, none, .ld true 5 (.t 5)⟩,
 ⟨some 33, none, .lit 5 [.t 31, .t 32]⟩,
 ⟨some 34, none, .build [.d (.int .i64 0), .d (.int .i64 0), .d (.str []), .nil 2, .nil 5] [(0, 1, (.k (.d (.int .i64 6)))), (1, 1, (.t 24)), (4, 1, (.t 33))]⟩,
 ⟨none, none, .st true 5 (.t 5) (.t 34)⟩]))))
 (.ops [] [⟨some 16, none, .mv (.t 6)⟩,
 ⟨some 17, none, .bin .sub (.t 16) (.k (.d (.int .i64 1)))⟩,
 ⟨some 6, none, .tk 17⟩]))))))
 (.seq (.ops [] [⟨some 35, none, .ld true 5 (.t 5)⟩,
 ⟨some 40, none, .rst 40 true 5 (.t 35)⟩])
 (.ret))))⟩
theorem c26 : sp 26 = some (.code F26) := by kernel_rfl

/-- tenet/tenetref00.CopyTerm -/
def F57 : AFunc := ⟨2, [.reg 18],
 .seq (.ops [] [⟨some 1, none, .box true 5 (.t 0)⟩,
 ⟨some 18, none, .ralloc true [.d (.int .i64 0), .d (.int .i64 0), .d (.str []), .nil 2, .nil 5]⟩])
 (.seq (.ops [] [⟨some 3, none, .fa 0 1 false (.t 1)⟩,
 ⟨some 4, none, .ld false 1 (.t 3)⟩,
 ⟨some 5, none, .fa 1 1 false (.t 1)⟩,
 ⟨some 6, none, .ld false 1 (.t 5)⟩,
 ⟨some 7, none, .fa 2 1 false (.t 1)⟩,
 ⟨some 8, none, .ld false 1 (.t 7)⟩,
 ⟨some 9, none, .fa 3 1 false (.t 1)⟩,
 ⟨some 10, none, .ld false 1 (.t 9)⟩,
 ⟨some 11, none, .call 67 [.t 10]⟩,
 ⟨some 12, none, .fa 4 1 false (.t 1)⟩,
 ⟨some 13, none, .ld false 1 (.t 12)⟩,
 ⟨some 14, none, .call 98 [.t 13]⟩,
 ⟨some 15, none, .build [.d (.int .i64 0), .d (.int .i64 0), .d (.str []), .nil 2, .nil 5] [(0, 1, (.t 4)), (1, 1, (.t 6)), (2, 1, (.t 8)), (3, 1, (.t 11)), (4, 1, (.t 14))]⟩,
 ⟨some 18, none, .rst 18 true 5 (.t 15)⟩])
 (.ret))⟩
theorem c57 : sp 57 = some (.code F57) := by kernel_rfl

/-- tenet/tenetref00.CopyTerms -/
def F98 : AFunc := ⟨20, [.tmp 2],
 .seq (.ops [] [⟨some 2, none, .mv (.k (.nil 5))⟩])
 (.seq (.ops [] [⟨some 3, none, .mv (.k (.nil 5))⟩])
 (.seq (.seq (.ops [] [⟨some 4, none, .mv (.k (.d (.int .i64 0)))⟩])
 (.block 0 (.loop 20 [0, 3, 4] (.seq (.seq (.ops [] [⟨some 5, none, .mv (.t 4)⟩,
 ⟨some 6, none, .mv (.t 0)⟩,
 ⟨some 7, none, .len 1 (.t 6)⟩,
 ⟨some 8, none, .bin .lss (.t 5) (.t 7)⟩])
 (.cond (.t 8) (.skip)
 (.exit 0)))
 (.seq (.block 1 (.ops [] [⟨some 11, none, .tk 3⟩,
 ⟨some 12, none, .mv (.t 0)⟩,
 ⟨some 13, none, .mv (.t 4)⟩,
 ⟨some 14, none, .ia 5 true (.t 12) (.t 13)⟩,
 ⟨some 15, none, .ld true 5 (.t 14)⟩,
 ⟨some 16, none, .call 57 [.t 15]⟩,
 ⟨some 17, none, .lit 5 [.t 16]⟩,
 ⟨some 18, none, .app 5 (.t 11) (.t 17)⟩,
 ⟨some 3, none, .tk 18⟩]))
 (.ops [] [⟨some 9, none, .mv (.t 4)⟩,
 ⟨some 10, none, .bin .add (.t 9) (.k (.d (.int .i64 1)))⟩,
 ⟨some 4, none, .tk 10⟩]))))))
 (.seq (.ops [] [⟨some 19, none, .tk 3⟩,
 ⟨some 2, none, .tk 19⟩])
 (.ret))))⟩
theorem c98 : sp 98 = some (.code F98) := by kernel_rfl

end Go.Tm
