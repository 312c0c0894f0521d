/- The statement about the solutions that are made out of bodies (UnifyMakes) holds for every input. Here: The program's functions as abstract code. -/
import Derived.Test.YtnlnkcibhdiocaaGreatC3
import Derived.KernelRfl

set_option linter.unusedVariables false
set_option linter.unusedSimpArgs false
set_option linter.unnecessarySimpa false

/-! The program's functions as abstract code. -/
namespace Go.Tm
open Go.Abs Go.Proofs
set_option maxRecDepth 20000

/-- tenet/tenetlaw06.ConvLooks -/
def F3 : AFunc := ⟨45, [.tmp 4],
 .seq (.ops [] [⟨some 4, none, .mv (.k (.d (.bool false)))⟩])
 (.seq (.seq (.ops [] [⟨some 9, none, .build [.nil 23] []⟩,
 ⟨some 10, none, .mv (.t 0)⟩,
 ⟨some 11, none, .call 8 [.t 9, .t 10, .k (.nil 5)]⟩])
 (.cond (.t 11) (.seq (.ops [] [⟨some 12, none, .call 9 []⟩,
 ⟨some 4, none, .tk 12⟩])
 (.ret))
 (.skip)))
 (.seq (.ops [] [⟨some 14, none, .mv (.t 0)⟩,
 ⟨some 15, none, .mv (.t 1)⟩,
 ⟨some 16, none, .call 10 [.t 14, .t 15]⟩,
 ⟨some 13, none, .mv (.t 16)⟩,
 ⟨some 17, none, .ext (.t 13) 0⟩,
 ⟨some 18, none, .ext (.t 13) 1⟩,
 ⟨some 5, none, .alloc true [.d (.int .i64 0), .d (.int .i64 0), .d (.str []), .nil 2, .nil 5, .d (.bool false)]⟩,
 ⟨none, none, .st true 6 (.t 5) (.t 17)⟩,
 ⟨some 6, none, .tk 18⟩])
 (.seq (.ops [] [⟨some 20, none, .mv (.t 0)⟩,
 ⟨some 21, none, .mv (.t 1)⟩,
 ⟨some 22, none, .call 11 [.t 20, .t 21]⟩,
 ⟨some 19, none, .mv (.t 22)⟩,
 ⟨some 23, none, .ext (.t 19) 0⟩,
 ⟨some 24, none, .ext (.t 19) 1⟩,
 ⟨some 7, none, .alloc true [.d (.int .i64 0), .d (.int .i64 0), .d (.str []), .nil 2, .nil 5, .d (.bool false)]⟩,
 ⟨none, none, .st true 6 (.t 7) (.t 23)⟩,
 ⟨some 8, none, .tk 24⟩])
 (.seq (.ops [] [⟨some 25, none, .mv (.t 6)⟩,
 ⟨some 26, none, .mv (.t 8)⟩,
 ⟨some 27, none, .bin .eql (.t 25) (.t 26)⟩,
 ⟨some 28, none, .mv (.t 27)⟩,
 ⟨some 29, some (28, true), .fa 5 1 false (.t 5)⟩,
 ⟨some 30, some (28, true), .ld false 1 (.t 29)⟩,
 ⟨some 31, some (28, true), .fa 5 1 false (.t 7)⟩,
 ⟨some 32, some (28, true), .ld false 1 (.t 31)⟩,
 ⟨some 33, some (28, true), .eqB false (.t 30) (.t 32)⟩,
 ⟨some 34, none, .pick (.t 28) (.t 33) (.k (.d (.bool false)))⟩,
 ⟨some 35, none, .mv (.t 34)⟩,
 ⟨some 36, some (35, true), .fa 0 5 true (.t 5)⟩,
 ⟨some 37, some (35, true), .ld true 5 (.t 36)⟩,
 ⟨some 38, some (35, true), .fa 0 5 true (.t 7)⟩,
 ⟨some 39, some (35, true), .ld true 5 (.t 38)⟩,
 ⟨some 40, some (35, true), .call 12 [.t 37, .t 39]⟩,
 ⟨some 41, none, .pick (.t 35) (.t 40) (.k (.d (.bool false)))⟩,
 ⟨some 42, none, .mv (.t 41)⟩,
 ⟨some 43, some (42, true), .call 9 []⟩,
 ⟨some 44, none, .pick (.t 42) (.t 43) (.k (.d (.bool false)))⟩,
 ⟨some 4, none, .tk 44⟩])
 (.ret)))))⟩
theorem c3 : sp 3 = some (.code F3) := by kernel_rfl

/-- tenet/tenetlaw06.heavy -/
def F8 : AFunc := ⟨39, [.tmp 6],
 .seq (.ops [] [⟨some 3, none, .box true 1 (.t 0)⟩,
 ⟨some 6, none, .mv (.k (.d (.bool false)))⟩])
 (.seq (.seq (.ops [] [⟨some 9, none, .ld true 1 (.t 3)⟩,
 ⟨some 10, none, .call 38 [.t 9, .k (.d (.int .i64 40)), .k (.d (.int .i64 300))]⟩,
 ⟨some 11, none, .mv (.t 10)⟩,
 ⟨some 12, some (11, false), .mv (.t 1)⟩,
 ⟨some 13, some (11, false), .len 1 (.t 12)⟩,
 ⟨some 14, some (11, false), .bin .gtr (.t 13) (.k (.d (.int .i64 50)))⟩,
 ⟨some 15, none, .pick (.t 11) (.k (.d (.bool true))) (.t 14)⟩])
 (.cond (.t 15) (.seq (.ops [] [⟨some 6, none, .mv (.k (.d (.bool true)))⟩])
 (.ret))
 (.skip)))
 (.seq (.seq (.ops [] [⟨some 7, none, .mv (.k (.d (.int .i64 0)))⟩])
 (.block 0 (.loop 39 [1, 2, 7] (.seq (.seq (.ops [] [⟨some 16, none, .mv (.t 7)⟩,
 ⟨some 17, none, .mv (.t 1)⟩,
 ⟨some 18, none, .len 1 (.t 17)⟩,
 ⟨some 19, none, .bin .lss (.t 16) (.t 18)⟩])
 (.cond (.t 19) (.skip)
 (.exit 0)))
 (.seq (.block 1 (.seq (.ops [] [⟨some 22, none, .mv (.t 1)⟩,
 ⟨some 23, none, .mv (.t 7)⟩,
 ⟨some 24, none, .ia 6 true (.t 22) (.t 23)⟩,
 ⟨some 25, none, .fa 0 5 true (.t 24)⟩,
 ⟨some 26, none, .ld true 5 (.t 25)⟩,
 ⟨some 27, none, .call 18 [.t 26, .k (.d (.int .i64 300))]⟩])
 (.cond (.t 27) (.seq (.ops [] [⟨some 6, none, .mv (.k (.d (.bool true)))⟩])
 (.ret))
 (.skip))))
 (.ops [] [⟨some 20, none, .mv (.t 7)⟩,
 ⟨some 21, none, .bin .add (.t 20) (.k (.d (.int .i64 1)))⟩,
 ⟨some 7, none, .tk 21⟩]))))))
 (.seq (.seq (.ops [] [⟨some 8, none, .mv (.k (.d (.int .i64 0)))⟩])
 (.block 2 (.loop 39 [2, 8] (.seq (.seq (.ops [] [⟨some 28, none, .mv (.t 8)⟩,
 ⟨some 29, none, .mv (.t 2)⟩,
 ⟨some 30, none, .len 1 (.t 29)⟩,
 ⟨some 31, none, .bin .lss (.t 28) (.t 30)⟩])
 (.cond (.t 31) (.skip)
 (.exit 2)))
 (.seq (.block 3 (.seq (.ops [] [⟨some 34, none, .mv (.t 2)⟩,
 ⟨some 35, none, .mv (.t 8)⟩,
 ⟨some 36, none, .ia 5 true (.t 34) (.t 35)⟩,
 ⟨some 37, none, .ld true 5 (.t 36)⟩,
 ⟨some 38, none, .call 18 [.t 37, .k (.d (.int .i64 300))]⟩])
 (.cond (.t 38) (.seq (.ops [] [⟨some 6, none, .mv (.k (.d (.bool true)))⟩])
 (.ret))
 (.skip))))
 (.ops [] [⟨some 32, none, .mv (.t 8)⟩,
 ⟨some 33, none, .bin .add (.t 32) (.k (.d (.int .i64 1)))⟩,
 ⟨some 8, none, .tk 33⟩]))))))
 (.seq (.ops [] [⟨some 6, none, .mv (.k (.d (.bool false)))⟩])
 (.ret)))))⟩
theorem c8 : sp 8 = some (.code F8) := by kernel_rfl

/-- tenet/tenetref00.HeavyTable -/
def F38 : AFunc := ⟨27, [.tmp 6],
 .seq (.ops [] [⟨some 3, none, .box true 1 (.t 0)⟩,
 ⟨some 6, none, .mv (.k (.d (.bool false)))⟩])
 (.seq (.seq (.ops [] [⟨some 8, none, .fa 0 1 false (.t 3)⟩,
 ⟨some 9, none, .ld false 1 (.t 8)⟩,
 ⟨some 10, none, .len 1 (.t 9)⟩,
 ⟨some 11, none, .mv (.t 1)⟩,
 ⟨some 12, none, .bin .gtr (.t 10) (.t 11)⟩])
 (.cond (.t 12) (.seq (.ops [] [⟨some 6, none, .mv (.k (.d (.bool true)))⟩])
 (.ret))
 (.skip)))
 (.seq (.seq (.ops [] [⟨some 7, none, .mv (.k (.d (.int .i64 0)))⟩])
 (.block 0 (.loop 27 [2, 3, 7] (.seq (.seq (.ops [] [⟨some 13, none, .mv (.t 7)⟩,
 ⟨some 14, none, .fa 0 1 false (.t 3)⟩,
 ⟨some 15, none, .ld false 1 (.t 14)⟩,
 ⟨some 16, none, .len 1 (.t 15)⟩,
 ⟨some 17, none, .bin .lss (.t 13) (.t 16)⟩])
 (.cond (.t 17) (.skip)
 (.exit 0)))
 (.seq (.block 1 (.seq (.ops [] [⟨some 20, none, .fa 0 1 false (.t 3)⟩,
 ⟨some 21, none, .ld false 1 (.t 20)⟩,
 ⟨some 22, none, .mv (.t 7)⟩,
 ⟨some 23, none, .ia 23 true (.t 21) (.t 22)⟩,
 ⟨some 24, none, .ld true 23 (.t 23)⟩,
 ⟨some 25, none, .mv (.t 2)⟩,
 ⟨some 26, none, .call 68 [.t 24, .t 25]⟩])
 (.cond (.t 26) (.seq (.ops [] [⟨some 6, none, .mv (.k (.d (.bool true)))⟩])
 (.ret))
 (.skip))))
 (.ops [] [⟨some 18, none, .mv (.t 7)⟩,
 ⟨some 19, none, .bin .add (.t 18) (.k (.d (.int .i64 1)))⟩,
 ⟨some 7, none, .tk 19⟩]))))))
 (.seq (.ops [] [⟨some 6, none, .mv (.k (.d (.bool false)))⟩])
 (.ret))))⟩
theorem c38 : sp 38 = some (.code F38) := by kernel_rfl

/-- tenet/conv.Lookup -/
def F10 : AFunc := ⟨4, [.reg 35, .tmp 5],
 .seq (.ops [] [⟨some 35, none, .ralloc true [.d (.int .i64 0), .d (.int .i64 0), .d (.str []), .nil 2, .nil 5, .d (.bool false)]⟩,
 ⟨some 5, none, .mv (.k (.d (.int .i64 0)))⟩])
 (.seq (.seq (.ops [] [⟨some 7, none, .mv (.t 1)⟩,
 ⟨some 8, none, .bin .lss (.t 7) (.k (.d (.int .i64 0)))⟩,
 ⟨some 9, none, .mv (.t 8)⟩,
 ⟨some 10, some (9, false), .mv (.t 1)⟩,
 ⟨some 11, some (9, false), .mv (.t 0)⟩,
 ⟨some 12, some (9, false), .len 1 (.t 11)⟩,
 ⟨some 13, some (9, false), .bin .geq (.t 10) (.t 12)⟩,
 ⟨some 14, none, .pick (.t 9) (.k (.d (.bool true))) (.t 13)⟩])
 (.cond (.t 14) (.seq (.ops [] [⟨some 15, none, .build [.d (.int .i64 0), .d (.int .i64 0), .d (.str []), .nil 2, .nil 5, .d (.bool false)] []⟩,
 ⟨some 35, none, .rst 35 true 6 (.t 15)⟩,
 ⟨some 5, none, .mv (.k (.d (.int .i64 1)))⟩])
 (.ret))
 (.skip)))
 (.seq (.ops [] [⟨some 16, none, .mv (.t 0)⟩,
 ⟨some 17, none, .mv (.t 0)⟩,
 ⟨some 18, none, .len 1 (.t 17)⟩,
 ⟨some 19, none, .bin .sub (.t 18) (.k (.d (.int .i64 1)))⟩,
 ⟨some 20, none, .mv (.t 1)⟩,
 ⟨some 21, none, .bin .sub (.t 19) (.t 20)⟩,
 ⟨some 22, none, .ia 6 true (.t 16) (.t 21)⟩,
 ⟨some 23, none, .ld true 6 (.t 22)⟩,
 ⟨some 6, none, .alloc true [.d (.int .i64 0), .d (.int .i64 0), .d (.str []), .nil 2, .nil 5, .d (.bool false)]⟩,
 ⟨none, none, .st true 6 (.t 6) (.t 23)⟩])
 (.seq (.ops [] [⟨some 24, none, .fa 0 5 true (.t 6)⟩,
 ⟨some 25, none, .ld true 5 (.t 24)⟩,
 ⟨some 26, none, .mv (.t 1)⟩,
 ⟨some 27, none, .bin .add (.t 26) (.k (.d (.int .i64 1)))⟩,
 ⟨some 28, none, .call 42 [.t 25, .t 27]⟩,
 ⟨some 29, none, .fa 0 5 true (.t 6)⟩,
 ⟨none, none, .st true 5 (.t 29) (.t 28)⟩])
 (.seq (.ops [] [⟨some 30, none, .ld true 6 (.t 6)⟩,
 ⟨some 35, none, .rst 35 true 6 (.t 30)⟩,
 ⟨some 5, none, .mv (.k (.d (.int .i64 0)))⟩])
 (.ret)))))⟩
theorem c10 : sp 10 = some (.code F10) := by kernel_rfl

/-- tenet/conv.up -/
def F42 : AFunc := ⟨4, [.reg 18],
 .seq (.ops [] [⟨some 2, none, .box true 5 (.t 0)⟩,
 ⟨some 18, none, .ralloc true [.d (.int .i64 0), .d (.int .i64 0), .d (.str []), .nil 2, .nil 5]⟩])
 (.seq (.ops [] [⟨some 8, none, .ld true 5 (.t 2)⟩,
 ⟨some 9, none, .mv (.t 1)⟩,
 ⟨some 10, none, .call 74 [.t 8, .t 9, .k (.d (.int .i64 0))]⟩,
 ⟨some 7, none, .mv (.t 10)⟩,
 ⟨some 11, none, .ext (.t 7) 0⟩,
 ⟨some 12, none, .ext (.t 7) 1⟩,
 ⟨some 5, none, .alloc true [.d (.int .i64 0), .d (.int .i64 0), .d (.str []), .nil 2, .nil 5]⟩,
 ⟨none, none, .st true 5 (.t 5) (.t 11)⟩,
 ⟨some 6, none, .tk 12⟩])
 (.seq (.ops [] [⟨some 13, none, .ld true 5 (.t 5)⟩,
 ⟨some 18, none, .rst 18 true 5 (.t 13)⟩])
 (.ret)))⟩
theorem c42 : sp 42 = some (.code F42) := by kernel_rfl

/-- tenet/term.Shift -/
def F74 : AFunc := ⟨6, [.reg 38, .tmp 7],
 .seq (.ops [] [⟨some 3, none, .box true 5 (.t 0)⟩,
 ⟨some 4, none, .box false 1 (.t 1)⟩,
 ⟨some 5, none, .box false 1 (.t 2)⟩,
 ⟨some 38, none, .ralloc true [.d (.int .i64 0), .d (.int .i64 0), .d (.str []), .nil 2, .nil 5]⟩,
 ⟨some 7, none, .mv (.k (.d (.bool false)))⟩])
 (.seq (.seq (.ops [] [⟨some 10, none, .ld false 1 (.t 5)⟩,
 ⟨some 11, none, .bin .lss (.t 10) (.k (.d (.int .i64 0)))⟩,
 ⟨some 12, none, .mv (.t 11)⟩,
 ⟨some 13, some (12, false), .ld false 1 (.t 5)⟩,
 ⟨some 14, some (12, false), .bin .gtr (.t 13) (.k (.d (.int .i64 2147483648)))⟩,
 ⟨some 15, none, .pick (.t 12) (.k (.d (.bool true))) (.t 14)⟩,
 ⟨some 16, none, .mv (.t 15)⟩,
 ⟨some 17, some (16, false), .ld false 1 (.t 4)⟩,
 ⟨some 18, some (16, false), .bin .lss (.t 17) (.k (.d (.int .i64 (-2147483648))))⟩,
 ⟨some 19, none, .pick (.t 16) (.k (.d (.bool true))) (.t 18)⟩,
 ⟨some 20, none, .mv (.t 19)⟩,
 ⟨some 21, some (20, false), .ld false 1 (.t 4)⟩,
 ⟨some 22, some (20, false), .bin .gtr (.t 21) (.k (.d (.int .i64 2147483648)))⟩,
 ⟨some 23, none, .pick (.t 20) (.k (.d (.bool true))) (.t 22)⟩])
 (.cond (.t 23) (.seq (.ops [] [⟨some 24, none, .build [.d (.int .i64 0), .d (.int .i64 0), .d (.str []), .nil 2, .nil 5] []⟩,
 ⟨some 38, none, .rst 38 true 5 (.t 24)⟩,
 ⟨some 7, none, .mv (.k (.d (.bool false)))⟩])
 (.ret))
 (.skip)))
 (.seq (.ops [] [⟨some 8, none, .alloc false [.d (.bool false)]⟩,
 ⟨none, none, .st false 1 (.t 8) (.k (.d (.bool true)))⟩])
 (.seq (.ops [] [⟨some 25, none, .ld true 5 (.t 3)⟩,
 ⟨some 26, none, .fn 123 [.t 5, .t 4, .t 8]⟩,
 ⟨some 27, none, .callS 104 [.t 25, .t 26]⟩,
 ⟨some 9, none, .alloc true [.d (.int .i64 0), .d (.int .i64 0), .d (.str []), .nil 2, .nil 5]⟩,
 ⟨none, none, .st true 5 (.t 9) (.t 27)⟩])
 (.seq (.seq (.ops [] [⟨some 28, none, .ld false 1 (.t 8)⟩,
 ⟨some 29, none, .not (.t 28)⟩])
 (.cond (.t 29) (.seq (.ops [] [⟨some 30, none, .build [.d (.int .i64 0), .d (.int .i64 0), .d (.str []), .nil 2, .nil 5] []⟩,
 ⟨some 38, none, .rst 38 true 5 (.t 30)⟩,
 ⟨some 7, none, .mv (.k (.d (.bool false)))⟩])
 (.ret))
 (.skip)))
 (.seq (.ops [] [⟨some 31, none, .ld true 5 (.t 9)⟩,
 ⟨some 38, none, .rst 38 true 5 (.t 31)⟩,
 ⟨some 7, none, .mv (.k (.d (.bool true)))⟩])
 (.ret))))))⟩
theorem c74 : sp 74 = some (.code F74) := by kernel_rfl

/-- tenet/term.Shift$1 -/
def F123 : AFunc := ⟨7, [.reg 36],
 .seq (.ops [] [⟨some 5, none, .box true 5 (.t 0)⟩,
 ⟨some 36, none, .ralloc true [.d (.int .i64 0), .d (.int .i64 0), .d (.str []), .nil 2, .nil 5]⟩])
 (.seq (.seq (.ops [] [⟨some 8, none, .fa 1 1 false (.t 5)⟩,
 ⟨some 9, none, .ld false 1 (.t 8)⟩,
 ⟨some 10, none, .mv (.t 1)⟩,
 ⟨some 11, none, .bin .sub (.t 9) (.t 10)⟩,
 ⟨some 12, none, .ld false 1 (.t 2)⟩,
 ⟨some 13, none, .bin .geq (.t 11) (.t 12)⟩])
 (.cond (.t 13) (.seq (.ops [] [⟨some 14, none, .fa 1 1 false (.t 5)⟩,
 ⟨some 15, none, .ld false 1 (.t 14)⟩,
 ⟨some 16, none, .ld false 1 (.t 3)⟩,
 ⟨some 17, none, .bin .add (.t 15) (.t 16)⟩,
 ⟨some 18, none, .fa 1 1 false (.t 5)⟩,
 ⟨none, none, .st false 1 (.t 18) (.t 17)⟩])
 (.ops [] [⟨some 19, none, .ld false 1 (.t 4)⟩,
 ⟨some 20, none, .mv (.t 19)⟩,
 ⟨some 21, some (20, true), .fa 1 1 false (.t 5)⟩,
 ⟨some 22, some (20, true), .ld false 1 (.t 21)⟩,
 ⟨some 23, some (20, true), .mv (.t 1)⟩,
 ⟨some 24, some (20, true), .bin .sub (.t 22) (.t 23)⟩,
 ⟨some 25, some (20, true), .ld false 1 (.t 2)⟩,
 ⟨some 26, some (20, true), .bin .geq (.t 24) (.t 25)⟩,
 ⟨some 27, none, .pick (.t 20) (.t 26) (.k (.d (.bool false)))⟩,
 ⟨none, none, .st false 1 (.t 4) (.t 27)⟩]))
 (.skip)))
 (.seq (.ops [] [⟨some 28, none, .ld true 5 (.t 5)⟩,
 ⟨some 36, none, .rst 36 true 5 (.t 28)⟩])
 (.ret)))⟩
theorem c123 : sp 123 = some (.code F123) := by kernel_rfl

/-- tenet/term.mapped -/
def F104 : AFunc := ⟨4, [.reg 14],
 .seq (.ops [] [⟨some 2, none, .box true 5 (.t 0)⟩,
 ⟨some 3, none, .box false 1 (.t 1)⟩,
 ⟨some 14, none, .ralloc true [.d (.int .i64 0), .d (.int .i64 0), .d (.str []), .nil 2, .nil 5]⟩])
 (.seq (.ops [] [⟨some 5, none, .alloc false [.d (.nilF)]⟩])
 (.seq (.ops [] [⟨some 6, none, .fn 144 [.t 5, .t 3]⟩,
 ⟨none, none, .st false 1 (.t 5) (.t 6)⟩])
 (.seq (.ops [] [⟨some 7, none, .ld false 1 (.t 5)⟩,
 ⟨some 8, none, .ld true 5 (.t 2)⟩,
 ⟨some 9, none, .callVS (.t 7) [.t 8, .k (.d (.int .i64 0))]⟩,
 ⟨some 14, none, .rst 14 true 5 (.t 9)⟩])
 (.ret))))⟩
theorem c104 : sp 104 = some (.code F104) := by kernel_rfl

/-- tenet/term.mapped$1 -/
def F144 : AFunc := ⟨6, [.reg 49],
 .seq (.ops [] [⟨some 4, none, .box true 5 (.t 0)⟩,
 ⟨some 49, none, .ralloc true [.d (.int .i64 0), .d (.int .i64 0), .d (.str []), .nil 2, .nil 5]⟩])
 (.seq (.ops [] [⟨some 10, none, .fa 3 1 false (.t 4)⟩,
 ⟨some 11, none, .ld false 1 (.t 10)⟩,
 ⟨some 12, none, .call 145 [.t 11]⟩,
 ⟨some 13, none, .fa 3 1 false (.t 4)⟩,
 ⟨none, none, .st false 1 (.t 13) (.t 12)⟩])
 (.seq (.ops [] [⟨some 7, none, .mv (.k (.nil 5))⟩])
 (.seq (.seq (.ops [] [⟨some 14, none, .fa 4 1 false (.t 4)⟩,
 ⟨some 15, none, .ld false 1 (.t 14)⟩,
 ⟨some 16, none, .len 1 (.t 15)⟩,
 ⟨some 17, none, .mv (.k (.d (.int .i64 0)))⟩])
 (.block 0 (.loop 43 [1, 2, 3, 4, 7, 15, 16, 17, 49] (.seq (.ops [] [⟨some 18, none, .bin .lss (.t 17) (.t 16)⟩])
 (.seq (.cond (.t 18) (.skip)
 (.exit 0))
 (.seq (.block 1 (.seq (.ops [] [⟨some 19, none, .tk 17⟩,
 ⟨some 20, none, .ia 5 true (.t 15) (.t 17)⟩,
 ⟨some 21, none, .ld true 5 (.t 20)⟩,
 ⟨some 9, none, .alloc true [.d (.int .i64 0), .d (.int .i64 0), .d (.str []), .nil 2, .nil 5]⟩,
 ⟨some 8, none, .tk 19⟩,
 ⟨none, none, .st true 5 (.t 9) (.t 21)⟩])
 (.ops [] [⟨some 22, none, .tk 7⟩,
 ⟨some 23, none, .ld false 1 (.t 2)⟩,
 ⟨some 24, none, .ld true 5 (.t 9)⟩,
 ⟨some 25, none, .mv (.t 1)⟩,
 ⟨some 26, none, .ld true 5 (.t 4)⟩,
 ⟨some 27, none, .mv (.t 8)⟩,
 ⟨some 28, none, .call 102 [.t 26, .t 27]⟩,
 ⟨some 29, none, .bin .add (.t 25) (.t 28)⟩,
 ⟨some 30, none, .callVS (.t 23) [.t 24, .t 29]⟩,
 ⟨some 31, none, .lit 5 [.t 30]⟩,
 ⟨some 32, none, .app 5 (.t 22) (.t 31)⟩,
 ⟨some 7, none, .tk 32⟩])))
 (.ops [] [⟨some 33, none, .bin .add (.t 17) (.k (.d (.int .i64 1)))⟩,
 ⟨some 17, none, .mv (.t 33)⟩])))))))
 (.seq (.ops [] [⟨some 34, none, .tk 7⟩,
 ⟨some 35, none, .fa 4 1 false (.t 4)⟩,
 ⟨none, none, .st false 1 (.t 35) (.t 34)⟩])
 (.seq (.seq (.ops [] [⟨some 36, none, .ld true 5 (.t 4)⟩,
 ⟨some 37, none, .call 146 [.t 36]⟩])
 (.cond (.t 37) (.seq (.ops [] [⟨some 38, none, .ld false 1 (.t 3)⟩,
 ⟨some 39, none, .ld true 5 (.t 4)⟩,
 ⟨some 40, none, .tk 1⟩,
 ⟨some 41, none, .callVS (.t 38) [.t 39, .t 40]⟩,
 ⟨some 49, none, .rst 49 true 5 (.t 41)⟩])
 (.ret))
 (.skip)))
 (.seq (.ops [] [⟨some 42, none, .ld true 5 (.t 4)⟩,
 ⟨some 49, none, .rst 49 true 5 (.t 42)⟩])
 (.ret)))))))⟩
theorem c144 : sp 144 = some (.code F144) := by kernel_rfl

/-- tenet/term.copied -/
def F145 : AFunc := ⟨27, [.tmp 2],
 .seq (.ops [] [⟨some 2, none, .mv (.k (.nil 2))⟩])
 (.seq (.seq (.ops [] [⟨some 5, none, .mv (.t 0)⟩,
 ⟨some 6, none, .len 1 (.t 5)⟩,
 ⟨some 7, none, .bin .eql (.t 6) (.k (.d (.int .i64 0)))⟩])
 (.cond (.t 7) (.seq (.ops [] [⟨some 2, none, .mv (.k (.nil 2))⟩])
 (.ret))
 (.skip)))
 (.seq (.ops [] [⟨some 8, none, .tk 0⟩,
 ⟨some 9, none, .callS 192 [.t 8]⟩,
 ⟨some 3, none, .tk 9⟩])
 (.seq (.seq (.ops [] [⟨some 10, none, .mv (.t 3)⟩,
 ⟨some 11, none, .len 1 (.t 10)⟩,
 ⟨some 12, none, .mv (.k (.d (.int .i64 0)))⟩])
 (.block 0 (.loop 27 [3, 11, 12] (.seq (.ops [] [⟨some 13, none, .bin .lss (.t 12) (.t 11)⟩])
 (.seq (.cond (.t 13) (.skip)
 (.exit 0))
 (.seq (.block 1 (.seq (.ops [] [⟨some 14, none, .tk 12⟩,
 ⟨some 4, none, .tk 14⟩])
 (.ops [] [⟨some 15, none, .mv (.t 3)⟩,
 ⟨some 16, none, .mv (.t 4)⟩,
 ⟨some 17, none, .mv (.t 3)⟩,
 ⟨some 18, none, .mv (.t 4)⟩,
 ⟨some 19, none, .ia 2 true (.t 17) (.t 18)⟩,
 ⟨some 20, none, .fa 1 1 false (.t 19)⟩,
 ⟨some 21, none, .ld false 1 (.t 20)⟩,
 ⟨some 22, none, .call 193 [.t 21]⟩,
 ⟨some 23, none, .ia 2 true (.t 15) (.t 16)⟩,
 ⟨some 24, none, .fa 1 1 false (.t 23)⟩,
 ⟨none, none, .st false 1 (.t 24) (.t 22)⟩])))
 (.ops [] [⟨some 25, none, .bin .add (.t 12) (.k (.d (.int .i64 1)))⟩,
 ⟨some 12, none, .mv (.t 25)⟩])))))))
 (.seq (.ops [] [⟨some 26, none, .tk 3⟩,
 ⟨some 2, none, .tk 26⟩])
 (.ret)))))⟩
theorem c145 : sp 145 = some (.code F145) := by kernel_rfl

/-- slices.Clone[[]tenet/api.Level,tenet/api.Level] -/
def F192 : AFunc := ⟨8, [.tmp 2],
 .seq (.ops [] [⟨some 2, none, .mv (.k (.nil 2))⟩])
 (.seq (.seq (.ops [] [⟨some 3, none, .mv (.t 0)⟩,
 ⟨some 4, none, .isNil 0 (.t 3) false⟩])
 (.cond (.t 4) (.seq (.ops [] [⟨some 2, none, .mv (.k (.nil 2))⟩])
 (.ret))
 (.skip)))
 (.seq (.ops [] [⟨some 5, none, .mkslice 2 [.d (.int .i64 0), .nil 2] (.k (.d (.int .i64 0))) (.k (.d (.int .i64 0)))⟩,
 ⟨some 6, none, .mv (.t 0)⟩,
 ⟨some 7, none, .appM 2 (.t 5) (.t 6)⟩,
 ⟨some 2, none, .tk 7⟩])
 (.ret)))⟩
theorem c192 : sp 192 = some (.code F192) := by kernel_rfl

/-- tenet/term.Binds -/
def F102 : AFunc := ⟨48, [.tmp 4],
 .seq (.ops [] [⟨some 2, none, .box true 5 (.t 0)⟩,
 ⟨some 4, none, .mv (.k (.d (.int .i64 0)))⟩])
 (.seq (.seq (.ops [] [⟨some 5, none, .mv (.t 1)⟩,
 ⟨some 6, none, .bin .lss (.t 5) (.k (.d (.int .i64 0)))⟩,
 ⟨some 7, none, .mv (.t 6)⟩,
 ⟨some 8, some (7, false), .mv (.t 1)⟩,
 ⟨some 9, some (7, false), .fa 4 1 false (.t 2)⟩,
 ⟨some 10, some (7, false), .ld false 1 (.t 9)⟩,
 ⟨some 11, some (7, false), .len 1 (.t 10)⟩,
 ⟨some 12, some (7, false), .bin .geq (.t 8) (.t 11)⟩,
 ⟨some 13, none, .pick (.t 7) (.k (.d (.bool true))) (.t 12)⟩])
 (.cond (.t 13) (.seq (.ops [] [⟨some 4, none, .mv (.k (.d (.int .i64 0)))⟩])
 (.ret))
 (.skip)))
 (.seq (.seq (.ops [] [⟨some 14, none, .fa 0 1 false (.t 2)⟩,
 ⟨some 15, none, .ld false 1 (.t 14)⟩])
 (.block 0 (.seq (.seq (.ops [] [⟨some 17, none, .bin .eql (.t 15) (.k (.d (.int .i64 5)))⟩,
 ⟨some 16, none, .tk 17⟩])
 (.cond (.t 16) (.skip)
 (.seq (.ops [] [⟨some 18, none, .bin .eql (.t 15) (.k (.d (.int .i64 6)))⟩,
 ⟨some 16, none, .tk 18⟩])
 (.cond (.t 16) (.skip)
 (.seq (.ops [] [⟨some 19, none, .bin .eql (.t 15) (.k (.d (.int .i64 8)))⟩,
 ⟨some 16, none, .tk 19⟩])
 (.cond (.t 16) (.skip)
 (.seq (.ops [] [⟨some 20, none, .bin .eql (.t 15) (.k (.d (.int .i64 9)))⟩,
 ⟨some 16, none, .tk 20⟩])
 (.cond (.t 16) (.skip)
 (.ops [] [⟨some 21, none, .bin .eql (.t 15) (.k (.d (.int .i64 20)))⟩,
 ⟨some 16, none, .tk 21⟩])))))))))
 (.cond (.t 16) (.seq (.ops [] [⟨some 22, none, .mv (.t 1)⟩,
 ⟨some 23, none, .bin .eql (.t 22) (.k (.d (.int .i64 1)))⟩])
 (.cond (.t 23) (.seq (.ops [] [⟨some 4, none, .mv (.k (.d (.int .i64 1)))⟩])
 (.ret))
 (.skip)))
 (.seq (.ops [] [⟨some 25, none, .bin .eql (.t 15) (.k (.d (.int .i64 23)))⟩,
 ⟨some 24, none, .tk 25⟩])
 (.cond (.t 24) (.seq (.ops [] [⟨some 26, none, .mv (.t 1)⟩,
 ⟨some 27, none, .bin .eql (.t 26) (.k (.d (.int .i64 1)))⟩])
 (.cond (.t 27) (.seq (.ops [] [⟨some 4, none, .mv (.k (.d (.int .i64 2)))⟩])
 (.ret))
 (.skip)))
 (.seq (.ops [] [⟨some 29, none, .bin .eql (.t 15) (.k (.d (.int .i64 25)))⟩,
 ⟨some 28, none, .tk 29⟩])
 (.cond (.t 28) (.seq (.ops [] [⟨some 30, none, .mv (.t 1)⟩,
 ⟨some 31, none, .bin .eql (.t 30) (.k (.d (.int .i64 1)))⟩,
 ⟨some 32, none, .mv (.t 31)⟩,
 ⟨some 33, some (32, false), .mv (.t 1)⟩,
 ⟨some 34, some (32, false), .bin .eql (.t 33) (.k (.d (.int .i64 2)))⟩,
 ⟨some 35, none, .pick (.t 32) (.k (.d (.bool true))) (.t 34)⟩])
 (.cond (.t 35) (.seq (.ops [] [⟨some 4, none, .mv (.k (.d (.int .i64 1)))⟩])
 (.ret))
 (.skip)))
 (.seq (.ops [] [⟨some 37, none, .bin .eql (.t 15) (.k (.d (.int .i64 28)))⟩,
 ⟨some 36, none, .tk 37⟩])
 (.cond (.t 36) (.block 1 (.seq (.ops [] [⟨some 39, none, .mv (.t 1)⟩,
 ⟨some 40, none, .bin .eql (.t 39) (.k (.d (.int .i64 0)))⟩,
 ⟨some 38, none, .tk 40⟩])
 (.cond (.t 38) (.seq (.ops [] [⟨some 4, none, .mv (.k (.d (.int .i64 2)))⟩])
 (.ret))
 (.seq (.ops [] [⟨some 42, none, .mv (.t 1)⟩,
 ⟨some 43, none, .fa 4 1 false (.t 2)⟩,
 ⟨some 44, none, .ld false 1 (.t 43)⟩,
 ⟨some 45, none, .len 1 (.t 44)⟩,
 ⟨some 46, none, .bin .sub (.t 45) (.k (.d (.int .i64 2)))⟩,
 ⟨some 47, none, .bin .lss (.t 42) (.t 46)⟩,
 ⟨some 41, none, .tk 47⟩])
 (.cond (.t 41) (.seq (.ops [] [⟨some 4, none, .mv (.k (.d (.int .i64 3)))⟩])
 (.ret))
 (.skip))))))
 (.skip)))))))))))
 (.seq (.ops [] [⟨some 4, none, .mv (.k (.d (.int .i64 0)))⟩])
 (.ret))))⟩
theorem c102 : sp 102 = some (.code F102) := by kernel_rfl

/-- tenet/term.variable -/
def F146 : AFunc := ⟨16, [.tmp 2],
 .seq (.ops [] [⟨some 1, none, .box true 5 (.t 0)⟩,
 ⟨some 2, none, .mv (.k (.d (.bool false)))⟩])
 (.seq (.ops [] [⟨some 3, none, .fa 0 1 false (.t 1)⟩,
 ⟨some 4, none, .ld false 1 (.t 3)⟩,
 ⟨some 5, none, .bin .eql (.t 4) (.k (.d (.int .i64 1)))⟩,
 ⟨some 6, none, .mv (.t 5)⟩,
 ⟨some 7, some (6, true), .fa 1 1 false (.t 1)⟩,
 ⟨some 8, some (6, true), .ld false 1 (.t 7)⟩,
 ⟨some 9, some (6, true), .bin .geq (.t 8) (.k (.d (.int .i64 0)))⟩,
 ⟨some 10, none, .pick (.t 6) (.t 9) (.k (.d (.bool false)))⟩,
 ⟨some 11, none, .mv (.t 10)⟩,
 ⟨some 12, some (11, true), .fa 1 1 false (.t 1)⟩,
 ⟨some 13, some (11, true), .ld false 1 (.t 12)⟩,
 ⟨some 14, some (11, true), .bin .leq (.t 13) (.k (.d (.int .i64 2147483648)))⟩,
 ⟨some 15, none, .pick (.t 11) (.t 14) (.k (.d (.bool false)))⟩,
 ⟨some 2, none, .tk 15⟩])
 (.ret))⟩
theorem c146 : sp 146 = some (.code F146) := by kernel_rfl

/-- tenet/tenetref06.Lookup -/
def F11 : AFunc := ⟨4, [.reg 36, .tmp 5],
 .seq (.ops [] [⟨some 36, none, .ralloc true [.d (.int .i64 0), .d (.int .i64 0), .d (.str []), .nil 2, .nil 5, .d (.bool false)]⟩,
 ⟨some 5, none, .mv (.k (.d (.int .i64 0)))⟩])
 (.seq (.seq (.ops [] [⟨some 7, none, .mv (.t 1)⟩,
 ⟨some 8, none, .bin .lss (.t 7) (.k (.d (.int .i64 0)))⟩,
 ⟨some 9, none, .mv (.t 8)⟩,
 ⟨some 10, some (9, false), .mv (.t 1)⟩,
 ⟨some 11, some (9, false), .mv (.t 0)⟩,
 ⟨some 12, some (9, false), .len 1 (.t 11)⟩,
 ⟨some 13, some (9, false), .bin .geq (.t 10) (.t 12)⟩,
 ⟨some 14, none, .pick (.t 9) (.k (.d (.bool true))) (.t 13)⟩])
 (.cond (.t 14) (.seq (.ops [] [⟨some 15, none, .build [.d (.int .i64 0), .d (.int .i64 0), .d (.str []), .nil 2, .nil 5, .d (.bool false)] []⟩,
 ⟨some 36, none, .rst 36 true 6 (.t 15)⟩,
 ⟨some 5, none, .mv (.k (.d (.int .i64 1)))⟩])
 (.ret))
 (.skip)))
 (.seq (.ops [] [⟨some 16, none, .mv (.t 0)⟩,
 ⟨some 17, none, .mv (.t 0)⟩,
 ⟨some 18, none, .len 1 (.t 17)⟩,
 ⟨some 19, none, .bin .sub (.t 18) (.k (.d (.int .i64 1)))⟩,
 ⟨some 20, none, .mv (.t 1)⟩,
 ⟨some 21, none, .bin .sub (.t 19) (.t 20)⟩,
 ⟨some 22, none, .ia 6 true (.t 16) (.t 21)⟩,
 ⟨some 23, none, .ld true 6 (.t 22)⟩,
 ⟨some 6, none, .alloc true [.d (.int .i64 0), .d (.int .i64 0), .d (.str []), .nil 2, .nil 5, .d (.bool false)]⟩,
 ⟨none, none, .st true 6 (.t 6) (.t 23)⟩])
 (.seq (.ops [] [⟨some 24, none, .fa 0 5 true (.t 6)⟩,
 ⟨some 25, none, .ld true 5 (.t 24)⟩,
 ⟨some 26, none, .mv (.t 1)⟩,
 ⟨some 27, none, .bin .add (.t 26) (.k (.d (.int .i64 1)))⟩,
 ⟨some 28, none, .call 43 [.t 25, .t 27]⟩,
 ⟨some 29, none, .fa 5 1 false (.t 6)⟩,
 ⟨some 30, none, .ld false 1 (.t 29)⟩,
 ⟨some 31, none, .build [.d (.int .i64 0), .d (.int .i64 0), .d (.str []), .nil 2, .nil 5, .d (.bool false)] [(0, 5, (.t 28)), (5, 1, (.t 30))]⟩,
 ⟨some 36, none, .rst 36 true 6 (.t 31)⟩,
 ⟨some 5, none, .mv (.k (.d (.int .i64 0)))⟩])
 (.ret))))⟩
theorem c11 : sp 11 = some (.code F11) := by kernel_rfl

/-- tenet/tenetref06.Up -/
def F43 : AFunc := ⟨4, [.reg 18],
 .seq (.ops [] [⟨some 2, none, .box true 5 (.t 0)⟩,
 ⟨some 18, none, .ralloc true [.d (.int .i64 0), .d (.int .i64 0), .d (.str []), .nil 2, .nil 5]⟩])
 (.seq (.ops [] [⟨some 8, none, .ld true 5 (.t 2)⟩,
 ⟨some 9, none, .mv (.t 1)⟩,
 ⟨some 10, none, .call 75 [.t 8, .t 9, .k (.d (.int .i64 0))]⟩,
 ⟨some 7, none, .mv (.t 10)⟩,
 ⟨some 11, none, .ext (.t 7) 0⟩,
 ⟨some 12, none, .ext (.t 7) 1⟩,
 ⟨some 5, none, .alloc true [.d (.int .i64 0), .d (.int .i64 0), .d (.str []), .nil 2, .nil 5]⟩,
 ⟨none, none, .st true 5 (.t 5) (.t 11)⟩,
 ⟨some 6, none, .tk 12⟩])
 (.seq (.ops [] [⟨some 13, none, .ld true 5 (.t 5)⟩,
 ⟨some 18, none, .rst 18 true 5 (.t 13)⟩])
 (.ret)))⟩
theorem c43 : sp 43 = some (.code F43) := by kernel_rfl

/-- tenet/tenetref03.Shift -/
def F75 : AFunc := ⟨6, [.reg 35, .tmp 7],
 .seq (.ops [] [⟨some 3, none, .box true 5 (.t 0)⟩,
 ⟨some 35, none, .ralloc true [.d (.int .i64 0), .d (.int .i64 0), .d (.str []), .nil 2, .nil 5]⟩,
 ⟨some 7, none, .mv (.k (.d (.bool false)))⟩])
 (.seq (.seq (.ops [] [⟨some 8, none, .mv (.t 2)⟩,
 ⟨some 9, none, .bin .lss (.t 8) (.k (.d (.int .i64 0)))⟩,
 ⟨some 10, none, .mv (.t 9)⟩,
 ⟨some 11, some (10, false), .mv (.t 2)⟩,
 ⟨some 12, some (10, false), .bin .gtr (.t 11) (.k (.d (.int .i64 2147483648)))⟩,
 ⟨some 13, none, .pick (.t 10) (.k (.d (.bool true))) (.t 12)⟩,
 ⟨some 14, none, .mv (.t 13)⟩,
 ⟨some 15, some (14, false), .mv (.t 1)⟩,
 ⟨some 16, some (14, false), .bin .lss (.t 15) (.k (.d (.int .i64 (-2147483648))))⟩,
 ⟨some 17, none, .pick (.t 14) (.k (.d (.bool true))) (.t 16)⟩,
 ⟨some 18, none, .mv (.t 17)⟩,
 ⟨some 19, some (18, false), .mv (.t 1)⟩,
 ⟨some 20, some (18, false), .bin .gtr (.t 19) (.k (.d (.int .i64 2147483648)))⟩,
 ⟨some 21, none, .pick (.t 18) (.k (.d (.bool true))) (.t 20)⟩])
 (.cond (.t 21) (.seq (.ops [] [⟨some 22, none, .build [.d (.int .i64 0), .d (.int .i64 0), .d (.str []), .nil 2, .nil 5] []⟩,
 ⟨some 35, none, .rst 35 true 5 (.t 22)⟩,
 ⟨some 7, none, .mv (.k (.d (.bool false)))⟩])
 (.ret))
 (.skip)))
 (.seq (.ops [] [⟨some 23, none, .ld true 5 (.t 3)⟩,
 ⟨some 24, none, .mv (.t 1)⟩,
 ⟨some 25, none, .mv (.t 2)⟩,
 ⟨some 26, none, .call 124 [.t 23, .t 24, .t 25, .k (.d (.int .i64 0))]⟩,
 ⟨some 27, none, .ext (.t 26) 0⟩,
 ⟨some 28, none, .ext (.t 26) 1⟩,
 ⟨some 35, none, .rst 35 true 5 (.t 27)⟩,
 ⟨some 7, none, .tk 28⟩])
 (.ret)))⟩
theorem c75 : sp 75 = some (.code F75) := by kernel_rfl

/-- tenet/tenetref03.shift -/
def F124 : AFunc := ⟨8, [.reg 79, .tmp 9],
 .seq (.ops [] [⟨some 4, none, .box true 5 (.t 0)⟩,
 ⟨some 79, none, .ralloc true [.d (.int .i64 0), .d (.int .i64 0), .d (.str []), .nil 2, .nil 5]⟩,
 ⟨some 9, none, .mv (.k (.d (.bool false)))⟩])
 (.seq (.ops [] [⟨some 14, none, .ld true 5 (.t 4)⟩,
 ⟨some 15, none, .callS 164 [.t 14, .k (.nil 5)]⟩,
 ⟨some 10, none, .alloc true [.d (.int .i64 0), .d (.int .i64 0), .d (.str []), .nil 2, .nil 5]⟩,
 ⟨none, none, .st true 5 (.t 10) (.t 15)⟩])
 (.seq (.seq (.ops [] [⟨some 16, none, .ld true 5 (.t 4)⟩,
 ⟨some 17, none, .call 165 [.t 16]⟩,
 ⟨some 18, none, .mv (.t 17)⟩,
 ⟨some 19, some (18, true), .fa 1 1 false (.t 4)⟩,
 ⟨some 20, some (18, true), .ld false 1 (.t 19)⟩,
 ⟨some 21, some (18, true), .mv (.t 2)⟩,
 ⟨some 22, some (18, true), .mv (.t 3)⟩,
 ⟨some 23, some (18, true), .bin .add (.t 21) (.t 22)⟩,
 ⟨some 24, some (18, true), .bin .geq (.t 20) (.t 23)⟩,
 ⟨some 25, none, .pick (.t 18) (.t 24) (.k (.d (.bool false)))⟩])
 (.cond (.t 25) (.seq (.ops [] [⟨some 26, none, .fa 1 1 false (.t 4)⟩,
 ⟨some 27, none, .ld false 1 (.t 26)⟩,
 ⟨some 28, none, .mv (.t 1)⟩,
 ⟨some 29, none, .bin .add (.t 27) (.t 28)⟩,
 ⟨some 30, none, .fa 1 1 false (.t 10)⟩,
 ⟨none, none, .st false 1 (.t 30) (.t 29)⟩])
 (.seq (.ops [] [⟨some 31, none, .fa 1 1 false (.t 10)⟩,
 ⟨some 32, none, .ld false 1 (.t 31)⟩,
 ⟨some 33, none, .mv (.t 2)⟩,
 ⟨some 34, none, .mv (.t 3)⟩,
 ⟨some 35, none, .bin .add (.t 33) (.t 34)⟩,
 ⟨some 36, none, .bin .lss (.t 32) (.t 35)⟩])
 (.cond (.t 36) (.seq (.ops [] [⟨some 37, none, .build [.d (.int .i64 0), .d (.int .i64 0), .d (.str []), .nil 2, .nil 5] []⟩,
 ⟨some 79, none, .rst 79 true 5 (.t 37)⟩,
 ⟨some 9, none, .mv (.k (.d (.bool false)))⟩])
 (.ret))
 (.skip))))
 (.skip)))
 (.seq (.seq (.ops [] [⟨some 11, none, .mv (.k (.d (.int .i64 0)))⟩])
 (.block 0 (.loop 71 [1, 2, 3, 4, 10, 11, 79] (.seq (.seq (.ops [] [⟨some 38, none, .mv (.t 11)⟩,
 ⟨some 39, none, .fa 4 1 false (.t 4)⟩,
 ⟨some 40, none, .ld false 1 (.t 39)⟩,
 ⟨some 41, none, .len 1 (.t 40)⟩,
 ⟨some 42, none, .bin .lss (.t 38) (.t 41)⟩])
 (.cond (.t 42) (.skip)
 (.exit 0)))
 (.seq (.block 1 (.seq (.ops [.cells true [.d (.int .i64 0), .d (.int .i64 0), .d (.str []), .nil 2, .nil 5]] [⟨some 46, none, .fa 4 1 false (.t 4)⟩,
 ⟨some 47, none, .ld false 1 (.t 46)⟩,
 ⟨some 48, none, .mv (.t 11)⟩,
 ⟨some 49, none, .ia 5 true (.t 47) (.t 48)⟩,
 ⟨some 50, none, .ld true 5 (.t 49)⟩,
 ⟨some 51, none, .mv (.t 1)⟩,
 ⟨some 52, none, .mv (.t 2)⟩,
 ⟨some 53, none, .mv (.t 3)⟩,
 ⟨some 54, none, .ld true 5 (.t 4)⟩,
 ⟨some 55, none, .mv (.t 11)⟩,
 ⟨some 56, none, .call 166 [.t 54, .t 55]⟩,
 ⟨some 57, none, .bin .add (.t 53) (.t 56)⟩,
 ⟨some 58, none, .call 124 [.t 50, .t 51, .t 52, .t 57]⟩,
 ⟨some 45, none, .mv (.t 58)⟩,
 ⟨some 59, none, .ext (.t 45) 0⟩,
 ⟨some 60, none, .ext (.t 45) 1⟩,
 ⟨some 12, none, .allocR 0⟩,
 ⟨none, none, .st true 5 (.t 12) (.t 59)⟩,
 ⟨some 13, none, .tk 60⟩])
 (.seq (.seq (.ops [] [⟨some 61, none, .mv (.t 13)⟩,
 ⟨some 62, none, .not (.t 61)⟩])
 (.cond (.t 62) (.seq (.ops [] [⟨some 63, none, .build [.d (.int .i64 0), .d (.int .i64 0), .d (.str []), .nil 2, .nil 5] []⟩,
 ⟨some 79, none, .rst 79 true 5 (.t 63)⟩,
 ⟨some 9, none, .mv (.k (.d (.bool false)))⟩])
 (.ret))
 (.skip)))
 (.ops [] [⟨some 64, none, .fa 4 1 false (.t 10)⟩,
 ⟨some 65, none, .ldT (.t 64)⟩,
 ⟨some 66, none, .ld true 5 (.t 12)⟩,
 ⟨some 67, none, .lit 5 [.t 66]⟩,
 ⟨some 68, none, .app 5 (.t 65) (.t 67)⟩,
 ⟨some 69, none, .fa 4 1 false (.t 10)⟩,
 ⟨none, none, .st false 1 (.t 69) (.t 68)⟩]))))
 (.ops [] [⟨some 43, none, .mv (.t 11)⟩,
 ⟨some 44, none, .bin .add (.t 43) (.k (.d (.int .i64 1)))⟩,
 ⟨some 11, none, .tk 44⟩]))))))
 (.seq (.ops [] [⟨some 70, none, .ld true 5 (.t 10)⟩,
 ⟨some 79, none, .rst 79 true 5 (.t 70)⟩,
 ⟨some 9, none, .mv (.k (.d (.bool true)))⟩])
 (.ret)))))⟩
theorem c124 : sp 124 = some (.code F124) := by kernel_rfl

/-- tenet/tenetref03.with -/
def F164 : AFunc := ⟨4, [.reg 20],
 .seq (.ops [] [⟨some 2, none, .box true 5 (.t 0)⟩,
 ⟨some 20, none, .ralloc true [.d (.int .i64 0), .d (.int .i64 0), .d (.str []), .nil 2, .nil 5]⟩])
 (.seq (.ops [] [⟨some 5, none, .fa 0 1 false (.t 2)⟩,
 ⟨some 6, none, .ld false 1 (.t 5)⟩,
 ⟨some 7, none, .fa 1 1 false (.t 2)⟩,
 ⟨some 8, none, .ld false 1 (.t 7)⟩,
 ⟨some 9, none, .fa 2 1 false (.t 2)⟩,
 ⟨some 10, none, .ld false 1 (.t 9)⟩,
 ⟨some 11, none, .fa 3 1 false (.t 2)⟩,
 ⟨some 12, none, .ld false 1 (.t 11)⟩,
 ⟨some 13, none, .call 67 [.t 12]⟩,
 ⟨some 14, none, .mv (.t 1)⟩,
 ⟨some 15, none, .build [.d (.int .i64 0), .d (.int .i64 0), .d (.str []), .nil 2, .nil 5] [(0, 1, (.t 6)), (1, 1, (.t 8)), (2, 1, (.t 10)), (3, 1, (.t 13)), (4, 1, (.t 14))]⟩,
 ⟨some 20, none, .rst 20 true 5 (.t 15)⟩])
 (.ret))⟩
theorem c164 : sp 164 = some (.code F164) := by kernel_rfl

/-- tenet/tenetref03.variable -/
def F165 : AFunc := ⟨16, [.tmp 2],
 .seq (.ops [] [⟨some 1, none, .box true 5 (.t 0)⟩,
 ⟨some 2, none, .mv (.k (.d (.bool false)))⟩])
 (.seq (.ops [] [⟨some 3, none, .fa 0 1 false (.t 1)⟩,
 ⟨some 4, none, .ld false 1 (.t 3)⟩,
 ⟨some 5, none, .bin .eql (.t 4) (.k (.d (.int .i64 1)))⟩,
 ⟨some 6, none, .mv (.t 5)⟩,
 ⟨some 7, some (6, true), .fa 1 1 false (.t 1)⟩,
 ⟨some 8, some (6, true), .ld false 1 (.t 7)⟩,
 ⟨some 9, some (6, true), .bin .geq (.t 8) (.k (.d (.int .i64 0)))⟩,
 ⟨some 10, none, .pick (.t 6) (.t 9) (.k (.d (.bool false)))⟩,
 ⟨some 11, none, .mv (.t 10)⟩,
 ⟨some 12, some (11, true), .fa 1 1 false (.t 1)⟩,
 ⟨some 13, some (11, true), .ld false 1 (.t 12)⟩,
 ⟨some 14, some (11, true), .bin .leq (.t 13) (.k (.d (.int .i64 2147483648)))⟩,
 ⟨some 15, none, .pick (.t 11) (.t 14) (.k (.d (.bool false)))⟩,
 ⟨some 2, none, .tk 15⟩])
 (.ret))⟩
theorem c165 : sp 165 = some (.code F165) := by kernel_rfl

/-- tenet/tenetref03.Binds -/
def F166 : AFunc := ⟨46, [.tmp 4],
 .seq (.ops [] [⟨some 2, none, .box true 5 (.t 0)⟩,
 ⟨some 4, none, .mv (.k (.d (.int .i64 0)))⟩])
 (.seq (.seq (.ops [] [⟨some 5, none, .mv (.t 1)⟩,
 ⟨some 6, none, .bin .lss (.t 5) (.k (.d (.int .i64 0)))⟩,
 ⟨some 7, none, .mv (.t 6)⟩,
 ⟨some 8, some (7, false), .mv (.t 1)⟩,
 ⟨some 9, some (7, false), .fa 4 1 false (.t 2)⟩,
 ⟨some 10, some (7, false), .ld false 1 (.t 9)⟩,
 ⟨some 11, some (7, false), .len 1 (.t 10)⟩,
 ⟨some 12, some (7, false), .bin .geq (.t 8) (.t 11)⟩,
 ⟨some 13, none, .pick (.t 7) (.k (.d (.bool true))) (.t 12)⟩])
 (.cond (.t 13) (.seq (.ops [] [⟨some 4, none, .mv (.k (.d (.int .i64 0)))⟩])
 (.ret))
 (.skip)))
 (.seq (.seq (.ops [] [⟨some 14, none, .fa 0 1 false (.t 2)⟩,
 ⟨some 15, none, .ld false 1 (.t 14)⟩])
 (.block 0 (.seq (.seq (.ops [] [⟨some 17, none, .bin .eql (.t 15) (.k (.d (.int .i64 5)))⟩,
 ⟨some 16, none, .tk 17⟩])
 (.cond (.t 16) (.skip)
 (.seq (.ops [] [⟨some 18, none, .bin .eql (.t 15) (.k (.d (.int .i64 6)))⟩,
 ⟨some 16, none, .tk 18⟩])
 (.cond (.t 16) (.skip)
 (.seq (.ops [] [⟨some 19, none, .bin .eql (.t 15) (.k (.d (.int .i64 8)))⟩,
 ⟨some 16, none, .tk 19⟩])
 (.cond (.t 16) (.skip)
 (.seq (.ops [] [⟨some 20, none, .bin .eql (.t 15) (.k (.d (.int .i64 9)))⟩,
 ⟨some 16, none, .tk 20⟩])
 (.cond (.t 16) (.skip)
 (.ops [] [⟨some 21, none, .bin .eql (.t 15) (.k (.d (.int .i64 20)))⟩,
 ⟨some 16, none, .tk 21⟩])))))))))
 (.cond (.t 16) (.seq (.ops [] [⟨some 22, none, .mv (.t 1)⟩,
 ⟨some 23, none, .bin .eql (.t 22) (.k (.d (.int .i64 1)))⟩])
 (.cond (.t 23) (.seq (.ops [] [⟨some 4, none, .mv (.k (.d (.int .i64 1)))⟩])
 (.ret))
 (.skip)))
 (.seq (.ops [] [⟨some 25, none, .bin .eql (.t 15) (.k (.d (.int .i64 23)))⟩,
 ⟨some 24, none, .tk 25⟩])
 (.cond (.t 24) (.seq (.ops [] [⟨some 26, none, .mv (.t 1)⟩,
 ⟨some 27, none, .bin .eql (.t 26) (.k (.d (.int .i64 1)))⟩])
 (.cond (.t 27) (.seq (.ops [] [⟨some 4, none, .mv (.k (.d (.int .i64 2)))⟩])
 (.ret))
 (.skip)))
 (.seq (.ops [] [⟨some 29, none, .bin .eql (.t 15) (.k (.d (.int .i64 25)))⟩,
 ⟨some 28, none, .tk 29⟩])
 (.cond (.t 28) (.seq (.ops [] [⟨some 30, none, .mv (.t 1)⟩,
 ⟨some 31, none, .bin .eql (.t 30) (.k (.d (.int .i64 1)))⟩,
 ⟨some 32, none, .mv (.t 31)⟩,
 ⟨some 33, some (32, false), .mv (.t 1)⟩,
 ⟨some 34, some (32, false), .bin .eql (.t 33) (.k (.d (.int .i64 2)))⟩,
 ⟨some 35, none, .pick (.t 32) (.k (.d (.bool true))) (.t 34)⟩])
 (.cond (.t 35) (.seq (.ops [] [⟨some 4, none, .mv (.k (.d (.int .i64 1)))⟩])
 (.ret))
 (.skip)))
 (.seq (.ops [] [⟨some 37, none, .bin .eql (.t 15) (.k (.d (.int .i64 28)))⟩,
 ⟨some 36, none, .tk 37⟩])
 (.cond (.t 36) (.seq (.seq (.ops [] [⟨some 38, none, .mv (.t 1)⟩,
 ⟨some 39, none, .bin .eql (.t 38) (.k (.d (.int .i64 0)))⟩])
 (.cond (.t 39) (.seq (.ops [] [⟨some 4, none, .mv (.k (.d (.int .i64 2)))⟩])
 (.ret))
 (.skip)))
 (.seq (.ops [] [⟨some 40, none, .mv (.t 1)⟩,
 ⟨some 41, none, .fa 4 1 false (.t 2)⟩,
 ⟨some 42, none, .ld false 1 (.t 41)⟩,
 ⟨some 43, none, .len 1 (.t 42)⟩,
 ⟨some 44, none, .bin .sub (.t 43) (.k (.d (.int .i64 2)))⟩,
 ⟨some 45, none, .bin .lss (.t 40) (.t 44)⟩])
 (.cond (.t 45) (.seq (.ops [] [⟨some 4, none, .mv (.k (.d (.int .i64 3)))⟩])
 (.ret))
 (.skip))))
 (.skip)))))))))))
 (.seq (.ops [] [⟨some 4, none, .mv (.k (.d (.int .i64 0)))⟩])
 (.ret))))⟩
theorem c166 : sp 166 = some (.code F166) := by kernel_rfl

/-- tenet/tenetref00.CopyLevels -/
def F67 : AFunc := ⟨20, [.tmp 2],
 .seq (.ops [] [⟨some 2, none, .mv (.k (.nil 2))⟩])
 (.seq (.ops [] [⟨some 3, none, .mv (.k (.nil 2))⟩])
 (.seq (.seq (.ops [] [⟨some 4, none, .mv (.k (.d (.int .i64 0)))⟩])
 (.block 0 (.loop 20 [0, 3, 4] (.seq (.seq (.ops [] [⟨some 5, none, .mv (.t 4)⟩,
 ⟨some 6, none, .mv (.t 0)⟩,
 ⟨some 7, none, .len 1 (.t 6)⟩,
 ⟨some 8, none, .bin .lss (.t 5) (.t 7)⟩])
 (.cond (.t 8) (.skip)
 (.exit 0)))
 (.seq (.block 1 (.ops [] [⟨some 11, none, .tk 3⟩,
 ⟨some 12, none, .mv (.t 0)⟩,
 ⟨some 13, none, .mv (.t 4)⟩,
 ⟨some 14, none, .ia 2 true (.t 12) (.t 13)⟩,
 ⟨some 15, none, .ld true 2 (.t 14)⟩,
 ⟨some 16, none, .call 107 [.t 15]⟩,
 ⟨some 17, none, .lit 2 [.t 16]⟩,
 ⟨some 18, none, .app 2 (.t 11) (.t 17)⟩,
 ⟨some 3, none, .tk 18⟩]))
 (.ops [] [⟨some 9, none, .mv (.t 4)⟩,
 ⟨some 10, none, .bin .add (.t 9) (.k (.d (.int .i64 1)))⟩,
 ⟨some 4, none, .tk 10⟩]))))))
 (.seq (.ops [] [⟨some 19, none, .tk 3⟩,
 ⟨some 2, none, .tk 19⟩])
 (.ret))))⟩
theorem c67 : sp 67 = some (.code F67) := by kernel_rfl

/-- tenet/tenetref00.CopyLevel -/
def F107 : AFunc := ⟨2, [.reg 28],
 .seq (.ops [] [⟨some 1, none, .box true 2 (.t 0)⟩,
 ⟨some 28, none, .ralloc true [.d (.int .i64 0), .nil 2]⟩])
 (.seq (.ops [] [⟨some 5, none, .fa 0 1 false (.t 1)⟩,
 ⟨some 6, none, .ld false 1 (.t 5)⟩,
 ⟨some 7, none, .build [.d (.int .i64 0), .nil 2] [(0, 1, (.t 6))]⟩,
 ⟨some 3, none, .alloc true [.d (.int .i64 0), .nil 2]⟩,
 ⟨none, none, .st true 2 (.t 3) (.t 7)⟩])
 (.seq (.seq (.ops [] [⟨some 4, none, .mv (.k (.d (.int .i64 0)))⟩])
 (.block 0 (.loop 26 [1, 3, 4, 28] (.seq (.seq (.ops [] [⟨some 8, none, .mv (.t 4)⟩,
 ⟨some 9, none, .fa 1 1 false (.t 1)⟩,
 ⟨some 10, none, .ld false 1 (.t 9)⟩,
 ⟨some 11, none, .len 1 (.t 10)⟩,
 ⟨some 12, none, .bin .lss (.t 8) (.t 11)⟩])
 (.cond (.t 12) (.skip)
 (.exit 0)))
 (.seq (.block 1 (.ops [] [⟨some 15, none, .fa 1 1 false (.t 3)⟩,
 ⟨some 16, none, .ldT (.t 15)⟩,
 ⟨some 17, none, .fa 1 1 false (.t 1)⟩,
 ⟨some 18, none, .ld false 1 (.t 17)⟩,
 ⟨some 19, none, .mv (.t 4)⟩,
 ⟨some 20, none, .ia 2 true (.t 18) (.t 19)⟩,
 ⟨some 21, none, .ld true 2 (.t 20)⟩,
 ⟨some 22, none, .lit 2 [.t 21]⟩,
 ⟨some 23, none, .app 2 (.t 16) (.t 22)⟩,
 ⟨some 24, none, .fa 1 1 false (.t 3)⟩,
 ⟨none, none, .st false 1 (.t 24) (.t 23)⟩]))
 (.ops [] [⟨some 13, none, .mv (.t 4)⟩,
 ⟨some 14, none, .bin .add (.t 13) (.k (.d (.int .i64 1)))⟩,
 ⟨some 4, none, .tk 14⟩]))))))
 (.seq (.ops [] [⟨some 25, none, .ld true 2 (.t 3)⟩,
 ⟨some 28, none, .rst 28 true 2 (.t 25)⟩])
 (.ret))))⟩
theorem c107 : sp 107 = some (.code F107) := by kernel_rfl

/-- tenet/tenetref00.EqTerm -/
def F12 : AFunc := ⟨38, [.tmp 4],
 .seq (.ops [] [⟨some 2, none, .box true 5 (.t 0)⟩,
 ⟨some 3, none, .box true 5 (.t 1)⟩,
 ⟨some 4, none, .mv (.k (.d (.bool false)))⟩])
 (.seq (.ops [] [⟨some 5, none, .fa 0 1 false (.t 2)⟩,
 ⟨some 6, none, .ld false 1 (.t 5)⟩,
 ⟨some 7, none, .fa 0 1 false (.t 3)⟩,
 ⟨some 8, none, .ld false 1 (.t 7)⟩,
 ⟨some 9, none, .bin .eql (.t 6) (.t 8)⟩,
 ⟨some 10, none, .mv (.t 9)⟩,
 ⟨some 11, some (10, true), .fa 1 1 false (.t 2)⟩,
 ⟨some 12, some (10, true), .ld false 1 (.t 11)⟩,
 ⟨some 13, some (10, true), .fa 1 1 false (.t 3)⟩,
 ⟨some 14, some (10, true), .ld false 1 (.t 13)⟩,
 ⟨some 15, some (10, true), .bin .eql (.t 12) (.t 14)⟩,
 ⟨some 16, none, .pick (.t 10) (.t 15) (.k (.d (.bool false)))⟩,
 ⟨some 17, none, .mv (.t 16)⟩,
 ⟨some 18, some (17, true), .fa 2 1 false (.t 2)⟩,
 ⟨some 19, some (17, true), .ld false 1 (.t 18)⟩,
 ⟨some 20, some (17, true), .fa 2 1 false (.t 3)⟩,
 ⟨some 21, some (17, true), .ld false 1 (.t 20)⟩,
 ⟨some 22, some (17, true), .bin .eql (.t 19) (.t 21)⟩,
 ⟨some 23, none, .pick (.t 17) (.t 22) (.k (.d (.bool false)))⟩,
 ⟨some 24, none, .mv (.t 23)⟩,
 ⟨some 25, some (24, true), .fa 3 1 false (.t 2)⟩,
 ⟨some 26, some (24, true), .ld false 1 (.t 25)⟩,
 ⟨some 27, some (24, true), .fa 3 1 false (.t 3)⟩,
 ⟨some 28, some (24, true), .ld false 1 (.t 27)⟩,
 ⟨some 29, some (24, true), .call 44 [.t 26, .t 28]⟩,
 ⟨some 30, none, .pick (.t 24) (.t 29) (.k (.d (.bool false)))⟩,
 ⟨some 31, none, .mv (.t 30)⟩,
 ⟨some 32, some (31, true), .fa 4 1 false (.t 2)⟩,
 ⟨some 33, some (31, true), .ld false 1 (.t 32)⟩,
 ⟨some 34, some (31, true), .fa 4 1 false (.t 3)⟩,
 ⟨some 35, some (31, true), .ld false 1 (.t 34)⟩,
 ⟨some 36, some (31, true), .call 33 [.t 33, .t 35]⟩,
 ⟨some 37, none, .pick (.t 31) (.t 36) (.k (.d (.bool false)))⟩,
 ⟨some 4, none, .tk 37⟩])
 (.ret))⟩
theorem c12 : sp 12 = some (.code F12) := by kernel_rfl

/-- tenet/tenetref00.EqLevels -/
def F44 : AFunc := ⟨27, [.tmp 4],
 .seq (.ops [] [⟨some 4, none, .mv (.k (.d (.bool false)))⟩])
 (.seq (.seq (.ops [] [⟨some 6, none, .mv (.t 0)⟩,
 ⟨some 7, none, .len 1 (.t 6)⟩,
 ⟨some 8, none, .mv (.t 1)⟩,
 ⟨some 9, none, .len 1 (.t 8)⟩,
 ⟨some 10, none, .bin .neq (.t 7) (.t 9)⟩])
 (.cond (.t 10) (.seq (.ops [] [⟨some 4, none, .mv (.k (.d (.bool false)))⟩])
 (.ret))
 (.skip)))
 (.seq (.seq (.ops [] [⟨some 5, none, .mv (.k (.d (.int .i64 0)))⟩])
 (.block 0 (.loop 27 [0, 1, 5] (.seq (.seq (.ops [] [⟨some 11, none, .mv (.t 5)⟩,
 ⟨some 12, none, .mv (.t 0)⟩,
 ⟨some 13, none, .len 1 (.t 12)⟩,
 ⟨some 14, none, .bin .lss (.t 11) (.t 13)⟩])
 (.cond (.t 14) (.skip)
 (.exit 0)))
 (.seq (.block 1 (.seq (.ops [] [⟨some 17, none, .mv (.t 0)⟩,
 ⟨some 18, none, .mv (.t 5)⟩,
 ⟨some 19, none, .ia 2 true (.t 17) (.t 18)⟩,
 ⟨some 20, none, .ld true 2 (.t 19)⟩,
 ⟨some 21, none, .mv (.t 1)⟩,
 ⟨some 22, none, .mv (.t 5)⟩,
 ⟨some 23, none, .ia 2 true (.t 21) (.t 22)⟩,
 ⟨some 24, none, .ld true 2 (.t 23)⟩,
 ⟨some 25, none, .call 76 [.t 20, .t 24]⟩,
 ⟨some 26, none, .not (.t 25)⟩])
 (.cond (.t 26) (.seq (.ops [] [⟨some 4, none, .mv (.k (.d (.bool false)))⟩])
 (.ret))
 (.skip))))
 (.ops [] [⟨some 15, none, .mv (.t 5)⟩,
 ⟨some 16, none, .bin .add (.t 15) (.k (.d (.int .i64 1)))⟩,
 ⟨some 5, none, .tk 16⟩]))))))
 (.seq (.ops [] [⟨some 4, none, .mv (.k (.d (.bool true)))⟩])
 (.ret))))⟩
theorem c44 : sp 44 = some (.code F44) := by kernel_rfl

/-- tenet/tenetref00.EqTerms -/
def F33 : AFunc := ⟨27, [.tmp 4],
 .seq (.ops [] [⟨some 4, none, .mv (.k (.d (.bool false)))⟩])
 (.seq (.seq (.ops [] [⟨some 6, none, .mv (.t 0)⟩,
 ⟨some 7, none, .len 1 (.t 6)⟩,
 ⟨some 8, none, .mv (.t 1)⟩,
 ⟨some 9, none, .len 1 (.t 8)⟩,
 ⟨some 10, none, .bin .neq (.t 7) (.t 9)⟩])
 (.cond (.t 10) (.seq (.ops [] [⟨some 4, none, .mv (.k (.d (.bool false)))⟩])
 (.ret))
 (.skip)))
 (.seq (.seq (.ops [] [⟨some 5, none, .mv (.k (.d (.int .i64 0)))⟩])
 (.block 0 (.loop 27 [0, 1, 5] (.seq (.seq (.ops [] [⟨some 11, none, .mv (.t 5)⟩,
 ⟨some 12, none, .mv (.t 0)⟩,
 ⟨some 13, none, .len 1 (.t 12)⟩,
 ⟨some 14, none, .bin .lss (.t 11) (.t 13)⟩])
 (.cond (.t 14) (.skip)
 (.exit 0)))
 (.seq (.block 1 (.seq (.ops [] [⟨some 17, none, .mv (.t 0)⟩,
 ⟨some 18, none, .mv (.t 5)⟩,
 ⟨some 19, none, .ia 5 true (.t 17) (.t 18)⟩,
 ⟨some 20, none, .ld true 5 (.t 19)⟩,
 ⟨some 21, none, .mv (.t 1)⟩,
 ⟨some 22, none, .mv (.t 5)⟩,
 ⟨some 23, none, .ia 5 true (.t 21) (.t 22)⟩,
 ⟨some 24, none, .ld true 5 (.t 23)⟩,
 ⟨some 25, none, .call 12 [.t 20, .t 24]⟩,
 ⟨some 26, none, .not (.t 25)⟩])
 (.cond (.t 26) (.seq (.ops [] [⟨some 4, none, .mv (.k (.d (.bool false)))⟩])
 (.ret))
 (.skip))))
 (.ops [] [⟨some 15, none, .mv (.t 5)⟩,
 ⟨some 16, none, .bin .add (.t 15) (.k (.d (.int .i64 1)))⟩,
 ⟨some 5, none, .tk 16⟩]))))))
 (.seq (.ops [] [⟨some 4, none, .mv (.k (.d (.bool true)))⟩])
 (.ret))))⟩
theorem c33 : sp 33 = some (.code F33) := by kernel_rfl

end Go.Tm
