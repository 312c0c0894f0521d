/- SplitTrees holds of every input whose data are of bulk at most 1048576 (the row's second form). Here: The program's functions as abstract code. -/
import Derived.Test.YtnhbhonbihccpaaGreatB2
import Derived.KernelRfl

set_option linter.unusedVariables false
set_option linter.unusedSimpArgs false
set_option linter.unnecessarySimpa false

/-! The program's functions as abstract code. -/
namespace Go.Sp
open Go.Abs Go.Proofs
set_option maxRecDepth 20000

/-- tenet/tenetlaw15.large -/
def F22 : AFunc := ⟨12, [.tmp 2],
 .seq (.ops [] [⟨some 1, none, .box true 4 (.t 0)⟩,
 ⟨some 2, none, .mv (.k (.d (.bool false)))⟩])
 (.seq (.ops [] [⟨some 3, none, .fa 0 2 true (.t 1)⟩,
 ⟨some 4, none, .ld true 2 (.t 3)⟩,
 ⟨some 5, none, .call 8 [.t 4]⟩,
 ⟨some 6, none, .mv (.t 5)⟩,
 ⟨some 7, some (6, false), .fa 3 1 false (.t 1)⟩,
 ⟨some 8, some (6, false), .ld false 1 (.t 7)⟩,
 ⟨some 9, some (6, false), .call 31 [.t 8, .k (.d (.int .i64 200))]⟩,
 ⟨some 10, some (6, false), .bin .gtr (.t 9) (.k (.d (.int .i64 200)))⟩,
 ⟨some 11, none, .pick (.t 6) (.k (.d (.bool true))) (.t 10)⟩,
 ⟨some 2, none, .tk 11⟩])
 (.ret))⟩
theorem c22 : sp 22 = some (.code F22) := by kernel_rfl

/-- tenet/split.First -/
def F23 : AFunc := ⟨27, [.tmp 6, .tmp 7],
 .seq (.ops [] [⟨some 3, none, .box true 2 (.t 0)⟩,
 ⟨some 6, none, .mv (.k (.d (.int .i64 0)))⟩,
 ⟨some 7, none, .mv (.k (.d (.int .i64 0)))⟩])
 (.seq (.ops [] [⟨some 11, none, .ld true 2 (.t 3)⟩,
 ⟨some 12, none, .mv (.t 1)⟩,
 ⟨some 13, none, .call 43 [.t 11, .t 12]⟩,
 ⟨some 10, none, .mv (.t 13)⟩,
 ⟨some 14, none, .ext (.t 10) 0⟩,
 ⟨some 15, none, .ext (.t 10) 1⟩,
 ⟨some 8, none, .alloc true [.d (.str []), .nil 1, .d (.str []), .nil 5]⟩,
 ⟨none, none, .st true 4 (.t 8) (.t 14)⟩,
 ⟨some 9, none, .tk 15⟩])
 (.seq (.seq (.ops [] [⟨some 16, none, .mv (.t 9)⟩,
 ⟨some 17, none, .bin .neq (.t 16) (.k (.d (.int .i64 0)))⟩])
 (.cond (.t 17) (.seq (.ops [] [⟨some 18, none, .tk 9⟩,
 ⟨some 6, none, .mv (.k (.d (.int .i64 0)))⟩,
 ⟨some 7, none, .tk 18⟩])
 (.ret))
 (.skip)))
 (.seq (.seq (.ops [] [⟨some 19, none, .ld true 2 (.t 3)⟩,
 ⟨some 20, none, .ld true 4 (.t 8)⟩,
 ⟨some 21, none, .mv (.t 2)⟩,
 ⟨some 22, none, .call 59 [.t 19, .t 20, .t 21]⟩,
 ⟨some 23, none, .not (.t 22)⟩])
 (.cond (.t 23) (.seq (.ops [] [⟨some 6, none, .mv (.k (.d (.int .i64 0)))⟩,
 ⟨some 7, none, .mv (.k (.d (.int .i64 4)))⟩])
 (.ret))
 (.skip)))
 (.seq (.ops [] [⟨some 24, none, .ld true 4 (.t 8)⟩,
 ⟨some 25, none, .mv (.t 2)⟩,
 ⟨some 26, none, .call 60 [.t 24, .t 25]⟩,
 ⟨some 6, none, .tk 26⟩,
 ⟨some 7, none, .mv (.k (.d (.int .i64 0)))⟩])
 (.ret)))))⟩
/-- tenet/split.given -/
def F59 : AFunc := ⟨32, [.tmp 6],
 .seq (.ops [] [⟨some 3, none, .box true 2 (.t 0)⟩,
 ⟨some 4, none, .box true 4 (.t 1)⟩,
 ⟨some 6, none, .mv (.k (.d (.bool false)))⟩])
 (.seq (.seq (.ops [] [⟨some 9, none, .mv (.t 2)⟩,
 ⟨some 10, none, .len 1 (.t 9)⟩,
 ⟨some 11, none, .fa 1 1 false (.t 4)⟩,
 ⟨some 12, none, .ld false 1 (.t 11)⟩,
 ⟨some 13, none, .len 1 (.t 12)⟩,
 ⟨some 14, none, .bin .neq (.t 10) (.t 13)⟩])
 (.cond (.t 14) (.seq (.ops [] [⟨some 6, none, .mv (.k (.d (.bool false)))⟩])
 (.ret))
 (.skip)))
 (.seq (.seq (.ops [] [⟨some 15, none, .mv (.t 2)⟩,
 ⟨some 16, none, .len 1 (.t 15)⟩,
 ⟨some 17, none, .mv (.k (.d (.int .i64 0)))⟩])
 (.block 0 (.loop 32 [3, 4, 15, 16, 17] (.seq (.ops [] [⟨some 18, none, .bin .lss (.t 17) (.t 16)⟩])
 (.seq (.cond (.t 18) (.skip)
 (.exit 0))
 (.seq (.block 1 (.seq (.ops [] [⟨some 19, none, .tk 17⟩,
 ⟨some 20, none, .ia 3 true (.t 15) (.t 17)⟩,
 ⟨some 21, none, .ld true 3 (.t 20)⟩,
 ⟨some 8, none, .alloc true [.d (.int .i64 0), .d (.str []), .nil 3]⟩,
 ⟨some 7, none, .tk 19⟩,
 ⟨none, none, .st true 3 (.t 8) (.t 21)⟩])
 (.seq (.ops [] [⟨some 22, none, .ld true 2 (.t 3)⟩,
 ⟨some 23, none, .ld true 3 (.t 8)⟩,
 ⟨some 24, none, .fa 1 1 false (.t 4)⟩,
 ⟨some 25, none, .ld false 1 (.t 24)⟩,
 ⟨some 26, none, .mv (.t 7)⟩,
 ⟨some 27, none, .ia 1 false (.t 25) (.t 26)⟩,
 ⟨some 28, none, .ld false 1 (.t 27)⟩,
 ⟨some 29, none, .call 73 [.t 22, .t 23, .t 28]⟩,
 ⟨some 30, none, .not (.t 29)⟩])
 (.cond (.t 30) (.seq (.ops [] [⟨some 6, none, .mv (.k (.d (.bool false)))⟩])
 (.ret))
 (.skip)))))
 (.ops [] [⟨some 31, none, .bin .add (.t 17) (.k (.d (.int .i64 1)))⟩,
 ⟨some 17, none, .mv (.t 31)⟩])))))))
 (.seq (.ops [] [⟨some 6, none, .mv (.k (.d (.bool true)))⟩])
 (.ret))))⟩
/-- tenet/split.first -/
def F60 : AFunc := ⟨9, [.tmp 4],
 .seq (.ops [] [⟨some 2, none, .box true 4 (.t 0)⟩,
 ⟨some 3, none, .box false 1 (.t 1)⟩,
 ⟨some 4, none, .mv (.k (.d (.int .i64 0)))⟩])
 (.seq (.ops [] [⟨some 5, none, .fa 3 1 false (.t 2)⟩,
 ⟨some 6, none, .ld false 1 (.t 5)⟩,
 ⟨some 7, none, .fn 106 [.t 3]⟩,
 ⟨some 8, none, .call 105 [.t 6, .t 7]⟩,
 ⟨some 4, none, .tk 8⟩])
 (.ret))⟩
/-- tenet/split.first$1 -/
def F106 : AFunc := ⟨22, [.tmp 3],
 .seq (.ops [] [⟨some 2, none, .box true 5 (.t 0)⟩,
 ⟨some 3, none, .mv (.k (.d (.bool false)))⟩])
 (.seq (.seq (.ops [] [⟨some 6, none, .fa 0 1 false (.t 2)⟩,
 ⟨some 7, none, .ld false 1 (.t 6)⟩,
 ⟨some 8, none, .len 1 (.t 7)⟩,
 ⟨some 9, none, .mv (.k (.d (.int .i64 0)))⟩])
 (.block 0 (.loop 22 [1, 7, 8, 9] (.seq (.ops [] [⟨some 10, none, .bin .lss (.t 9) (.t 8)⟩])
 (.seq (.cond (.t 10) (.skip)
 (.exit 0))
 (.seq (.block 1 (.seq (.ops [] [⟨some 11, none, .tk 9⟩,
 ⟨some 12, none, .ia 3 true (.t 7) (.t 9)⟩,
 ⟨some 13, none, .ld true 3 (.t 12)⟩,
 ⟨some 5, none, .alloc true [.d (.int .i64 0), .d (.str []), .nil 3]⟩,
 ⟨some 4, none, .tk 11⟩,
 ⟨none, none, .st true 3 (.t 5) (.t 13)⟩])
 (.seq (.ops [] [⟨some 14, none, .ld true 3 (.t 5)⟩,
 ⟨some 15, none, .ld false 1 (.t 1)⟩,
 ⟨some 16, none, .mv (.t 4)⟩,
 ⟨some 17, none, .ia 3 true (.t 15) (.t 16)⟩,
 ⟨some 18, none, .ld true 3 (.t 17)⟩,
 ⟨some 19, none, .call 107 [.t 14, .t 18]⟩,
 ⟨some 20, none, .not (.t 19)⟩])
 (.cond (.t 20) (.seq (.ops [] [⟨some 3, none, .mv (.k (.d (.bool false)))⟩])
 (.ret))
 (.skip)))))
 (.ops [] [⟨some 21, none, .bin .add (.t 9) (.k (.d (.int .i64 1)))⟩,
 ⟨some 9, none, .mv (.t 21)⟩])))))))
 (.seq (.ops [] [⟨some 3, none, .mv (.k (.d (.bool true)))⟩])
 (.ret)))⟩
/-- tenet/split.matches -/
def F107 : AFunc := ⟨46, [.tmp 4],
 .seq (.ops [] [⟨some 2, none, .box true 3 (.t 0)⟩,
 ⟨some 3, none, .box true 3 (.t 1)⟩,
 ⟨some 4, none, .mv (.k (.d (.bool false)))⟩])
 (.seq (.seq (.ops [] [⟨some 6, none, .fa 0 1 false (.t 2)⟩,
 ⟨some 7, none, .ld false 1 (.t 6)⟩])
 (.block 0 (.seq (.seq (.ops [] [⟨some 9, none, .bin .eql (.t 7) (.k (.d (.int .i64 1)))⟩,
 ⟨some 8, none, .tk 9⟩])
 (.cond (.t 8) (.skip)
 (.ops [] [⟨some 10, none, .bin .eql (.t 7) (.k (.d (.int .i64 4)))⟩,
 ⟨some 8, none, .tk 10⟩])))
 (.cond (.t 8) (.seq (.ops [] [⟨some 4, none, .mv (.k (.d (.bool true)))⟩])
 (.ret))
 (.seq (.ops [] [⟨some 12, none, .bin .eql (.t 7) (.k (.d (.int .i64 2)))⟩,
 ⟨some 11, none, .tk 12⟩])
 (.cond (.t 11) (.seq (.seq (.ops [] [⟨some 13, none, .fa 1 1 false (.t 2)⟩,
 ⟨some 14, none, .ld false 1 (.t 13)⟩,
 ⟨some 15, none, .fa 1 1 false (.t 3)⟩,
 ⟨some 16, none, .ld false 1 (.t 15)⟩,
 ⟨some 17, none, .bin .neq (.t 14) (.t 16)⟩,
 ⟨some 18, none, .mv (.t 17)⟩,
 ⟨some 19, some (18, false), .fa 2 1 false (.t 2)⟩,
 ⟨some 20, some (18, false), .ld false 1 (.t 19)⟩,
 ⟨some 21, some (18, false), .len 1 (.t 20)⟩,
 ⟨some 22, some (18, false), .fa 2 1 false (.t 3)⟩,
 ⟨some 23, some (18, false), .ld false 1 (.t 22)⟩,
 ⟨some 24, some (18, false), .len 1 (.t 23)⟩,
 ⟨some 25, some (18, false), .bin .neq (.t 21) (.t 24)⟩,
 ⟨some 26, none, .pick (.t 18) (.k (.d (.bool true))) (.t 25)⟩])
 (.cond (.t 26) (.seq (.ops [] [⟨some 4, none, .mv (.k (.d (.bool false)))⟩])
 (.ret))
 (.skip)))
 (.seq (.seq (.ops [] [⟨some 27, none, .fa 2 1 false (.t 2)⟩,
 ⟨some 28, none, .ld false 1 (.t 27)⟩,
 ⟨some 29, none, .len 1 (.t 28)⟩,
 ⟨some 30, none, .mv (.k (.d (.int .i64 0)))⟩])
 (.block 1 (.loop 46 [2, 3, 29, 30] (.seq (.ops [] [⟨some 31, none, .bin .lss (.t 30) (.t 29)⟩])
 (.seq (.cond (.t 31) (.skip)
 (.exit 1))
 (.seq (.block 2 (.seq (.ops [] [⟨some 32, none, .tk 30⟩,
 ⟨some 5, none, .tk 32⟩])
 (.seq (.ops [] [⟨some 33, none, .fa 2 1 false (.t 2)⟩,
 ⟨some 34, none, .ld false 1 (.t 33)⟩,
 ⟨some 35, none, .mv (.t 5)⟩,
 ⟨some 36, none, .ia 3 true (.t 34) (.t 35)⟩,
 ⟨some 37, none, .ld true 3 (.t 36)⟩,
 ⟨some 38, none, .fa 2 1 false (.t 3)⟩,
 ⟨some 39, none, .ld false 1 (.t 38)⟩,
 ⟨some 40, none, .mv (.t 5)⟩,
 ⟨some 41, none, .ia 3 true (.t 39) (.t 40)⟩,
 ⟨some 42, none, .ld true 3 (.t 41)⟩,
 ⟨some 43, none, .call 107 [.t 37, .t 42]⟩,
 ⟨some 44, none, .not (.t 43)⟩])
 (.cond (.t 44) (.seq (.ops [] [⟨some 4, none, .mv (.k (.d (.bool false)))⟩])
 (.ret))
 (.skip)))))
 (.ops [] [⟨some 45, none, .bin .add (.t 30) (.k (.d (.int .i64 1)))⟩,
 ⟨some 30, none, .mv (.t 45)⟩])))))))
 (.seq (.ops [] [⟨some 4, none, .mv (.k (.d (.bool true)))⟩])
 (.ret))))
 (.skip)))))))
 (.seq (.ops [] [⟨some 4, none, .mv (.k (.d (.bool false)))⟩])
 (.ret)))⟩
/-- tenet/split.at -/
def F82 : AFunc := ⟨4, [.reg 39, .tmp 5],
 .seq (.ops [] [⟨some 39, none, .ralloc true [.d (.int .i64 0), .d (.str []), .nil 3]⟩,
 ⟨some 5, none, .mv (.k (.d (.bool false)))⟩])
 (.seq (.ops [] [⟨some 6, none, .alloc true [.d (.int .i64 0), .d (.str []), .nil 3]⟩])
 (.seq (.seq (.ops [] [⟨some 9, none, .mv (.t 1)⟩,
 ⟨some 10, none, .len 1 (.t 9)⟩,
 ⟨some 11, none, .mv (.k (.d (.int .i64 0)))⟩])
 (.block 0 (.loop 35 [0, 1, 6, 9, 10, 11, 39] (.seq (.ops [] [⟨some 12, none, .bin .lss (.t 11) (.t 10)⟩])
 (.seq (.cond (.t 12) (.skip)
 (.exit 0))
 (.seq (.block 1 (.seq (.ops [] [⟨some 13, none, .ia 1 false (.t 9) (.t 11)⟩,
 ⟨some 14, none, .ld false 1 (.t 13)⟩,
 ⟨some 8, none, .tk 14⟩])
 (.seq (.seq (.ops [] [⟨some 15, none, .mv (.t 8)⟩,
 ⟨some 16, none, .bin .lss (.t 15) (.k (.d (.int .i64 0)))⟩,
 ⟨some 17, none, .mv (.t 16)⟩,
 ⟨some 18, some (17, false), .mv (.t 8)⟩,
 ⟨some 19, some (17, false), .mv (.t 0)⟩,
 ⟨some 20, some (17, false), .len 1 (.t 19)⟩,
 ⟨some 21, some (17, false), .bin .geq (.t 18) (.t 20)⟩,
 ⟨some 22, none, .pick (.t 17) (.k (.d (.bool true))) (.t 21)⟩])
 (.cond (.t 22) (.seq (.ops [] [⟨some 23, none, .build [.d (.int .i64 0), .d (.str []), .nil 3] []⟩,
 ⟨some 39, none, .rst 39 true 3 (.t 23)⟩,
 ⟨some 5, none, .mv (.k (.d (.bool false)))⟩])
 (.ret))
 (.skip)))
 (.seq (.ops [] [⟨some 24, none, .mv (.t 0)⟩,
 ⟨some 25, none, .mv (.t 8)⟩,
 ⟨some 26, none, .ia 3 true (.t 24) (.t 25)⟩,
 ⟨some 27, none, .ld true 3 (.t 26)⟩,
 ⟨none, none, .st true 3 (.t 6) (.t 27)⟩])
 (.ops [] [⟨some 28, none, .fa 2 1 false (.t 6)⟩,
 ⟨some 29, none, .ld false 1 (.t 28)⟩,
 ⟨some 0, none, .tk 29⟩])))))
 (.ops [] [⟨some 30, none, .bin .add (.t 11) (.k (.d (.int .i64 1)))⟩,
 ⟨some 11, none, .mv (.t 30)⟩])))))))
 (.seq (.ops [] [⟨some 31, none, .ld true 3 (.t 6)⟩,
 ⟨some 32, none, .mv (.t 1)⟩,
 ⟨some 33, none, .len 1 (.t 32)⟩,
 ⟨some 34, none, .bin .gtr (.t 33) (.k (.d (.int .i64 0)))⟩,
 ⟨some 39, none, .rst 39 true 3 (.t 31)⟩,
 ⟨some 5, none, .tk 34⟩])
 (.ret))))⟩
theorem c82 : sp 82 = some (.code F82) := by kernel_rfl

/-- tenet/tenetref15.First -/
def F24 : AFunc := ⟨28, [.tmp 6, .tmp 7],
 .seq (.ops [] [⟨some 3, none, .box true 2 (.t 0)⟩,
 ⟨some 6, none, .mv (.k (.d (.int .i64 0)))⟩,
 ⟨some 7, none, .mv (.k (.d (.int .i64 0)))⟩])
 (.seq (.ops [] [⟨some 11, none, .ld true 2 (.t 3)⟩,
 ⟨some 12, none, .mv (.t 1)⟩,
 ⟨some 13, none, .call 10 [.t 11, .t 12]⟩,
 ⟨some 10, none, .mv (.t 13)⟩,
 ⟨some 14, none, .ext (.t 10) 0⟩,
 ⟨some 15, none, .ext (.t 10) 1⟩,
 ⟨some 8, none, .alloc true [.d (.str []), .nil 1, .d (.str []), .nil 5]⟩,
 ⟨none, none, .st true 4 (.t 8) (.t 14)⟩,
 ⟨some 9, none, .tk 15⟩])
 (.seq (.seq (.ops [] [⟨some 16, none, .mv (.t 9)⟩,
 ⟨some 17, none, .bin .neq (.t 16) (.k (.d (.int .i64 0)))⟩])
 (.cond (.t 17) (.seq (.ops [] [⟨some 18, none, .tk 9⟩,
 ⟨some 6, none, .mv (.k (.d (.int .i64 0)))⟩,
 ⟨some 7, none, .tk 18⟩])
 (.ret))
 (.skip)))
 (.seq (.seq (.ops [] [⟨some 19, none, .ld true 2 (.t 3)⟩,
 ⟨some 20, none, .mv (.t 2)⟩,
 ⟨some 21, none, .fa 1 1 false (.t 8)⟩,
 ⟨some 22, none, .ld false 1 (.t 21)⟩,
 ⟨some 23, none, .call 61 [.t 19, .t 20, .t 22]⟩,
 ⟨some 24, none, .not (.t 23)⟩])
 (.cond (.t 24) (.seq (.ops [] [⟨some 6, none, .mv (.k (.d (.int .i64 0)))⟩,
 ⟨some 7, none, .mv (.k (.d (.int .i64 4)))⟩])
 (.ret))
 (.skip)))
 (.seq (.ops [] [⟨some 25, none, .ld true 4 (.t 8)⟩,
 ⟨some 26, none, .mv (.t 2)⟩,
 ⟨some 27, none, .call 62 [.t 25, .t 26]⟩,
 ⟨some 6, none, .tk 27⟩,
 ⟨some 7, none, .mv (.k (.d (.int .i64 0)))⟩])
 (.ret)))))⟩
theorem c24 : sp 24 = some (.code F24) := by kernel_rfl

/-- tenet/tenetref15.values -/
def F61 : AFunc := ⟨30, [.tmp 6],
 .seq (.ops [] [⟨some 3, none, .box true 2 (.t 0)⟩,
 ⟨some 6, none, .mv (.k (.d (.bool false)))⟩])
 (.seq (.seq (.ops [] [⟨some 8, none, .mv (.t 1)⟩,
 ⟨some 9, none, .len 1 (.t 8)⟩,
 ⟨some 10, none, .mv (.t 2)⟩,
 ⟨some 11, none, .len 1 (.t 10)⟩,
 ⟨some 12, none, .bin .neq (.t 9) (.t 11)⟩])
 (.cond (.t 12) (.seq (.ops [] [⟨some 6, none, .mv (.k (.d (.bool false)))⟩])
 (.ret))
 (.skip)))
 (.seq (.seq (.ops [] [⟨some 7, none, .mv (.k (.d (.int .i64 0)))⟩])
 (.block 0 (.loop 30 [1, 2, 3, 7] (.seq (.seq (.ops [] [⟨some 13, none, .mv (.t 7)⟩,
 ⟨some 14, none, .mv (.t 1)⟩,
 ⟨some 15, none, .len 1 (.t 14)⟩,
 ⟨some 16, none, .bin .lss (.t 13) (.t 15)⟩])
 (.cond (.t 16) (.skip)
 (.exit 0)))
 (.seq (.block 1 (.seq (.ops [] [⟨some 19, none, .ld true 2 (.t 3)⟩,
 ⟨some 20, none, .mv (.t 1)⟩,
 ⟨some 21, none, .mv (.t 7)⟩,
 ⟨some 22, none, .ia 3 true (.t 20) (.t 21)⟩,
 ⟨some 23, none, .ld true 3 (.t 22)⟩,
 ⟨some 24, none, .mv (.t 2)⟩,
 ⟨some 25, none, .mv (.t 7)⟩,
 ⟨some 26, none, .ia 1 false (.t 24) (.t 25)⟩,
 ⟨some 27, none, .ld false 1 (.t 26)⟩,
 ⟨some 28, none, .call 75 [.t 19, .t 23, .t 27]⟩,
 ⟨some 29, none, .not (.t 28)⟩])
 (.cond (.t 29) (.seq (.ops [] [⟨some 6, none, .mv (.k (.d (.bool false)))⟩])
 (.ret))
 (.skip))))
 (.ops [] [⟨some 17, none, .mv (.t 7)⟩,
 ⟨some 18, none, .bin .add (.t 17) (.k (.d (.int .i64 1)))⟩,
 ⟨some 7, none, .tk 18⟩]))))))
 (.seq (.ops [] [⟨some 6, none, .mv (.k (.d (.bool true)))⟩])
 (.ret))))⟩
theorem c61 : sp 61 = some (.code F61) := by kernel_rfl

/-- tenet/tenetref15.first -/
def F62 : AFunc := ⟨40, [.tmp 4],
 .seq (.ops [] [⟨some 2, none, .box true 4 (.t 0)⟩,
 ⟨some 4, none, .mv (.k (.d (.int .i64 0)))⟩])
 (.seq (.seq (.ops [] [⟨some 5, none, .mv (.k (.d (.int .i64 0)))⟩])
 (.block 0 (.loop 40 [1, 2, 5] (.seq (.seq (.ops [] [⟨some 8, none, .mv (.t 5)⟩,
 ⟨some 9, none, .fa 3 1 false (.t 2)⟩,
 ⟨some 10, none, .ld false 1 (.t 9)⟩,
 ⟨some 11, none, .len 1 (.t 10)⟩,
 ⟨some 12, none, .bin .lss (.t 8) (.t 11)⟩])
 (.cond (.t 12) (.skip)
 (.exit 0)))
 (.seq (.block 1 (.seq (.ops [] [⟨some 6, none, .mv (.k (.d (.bool true)))⟩])
 (.seq (.seq (.ops [] [⟨some 7, none, .mv (.k (.d (.int .i64 0)))⟩])
 (.block 2 (.loop 40 [1, 2, 5, 6, 7] (.seq (.seq (.ops [] [⟨some 15, none, .mv (.t 7)⟩,
 ⟨some 16, none, .mv (.t 1)⟩,
 ⟨some 17, none, .len 1 (.t 16)⟩,
 ⟨some 18, none, .bin .lss (.t 15) (.t 17)⟩])
 (.cond (.t 18) (.skip)
 (.exit 2)))
 (.seq (.block 3 (.ops [] [⟨some 21, none, .mv (.t 6)⟩,
 ⟨some 22, none, .mv (.t 21)⟩,
 ⟨some 23, some (22, true), .fa 3 1 false (.t 2)⟩,
 ⟨some 24, some (22, true), .ld false 1 (.t 23)⟩,
 ⟨some 25, some (22, true), .mv (.t 5)⟩,
 ⟨some 26, some (22, true), .ia 5 true (.t 24) (.t 25)⟩,
 ⟨some 27, some (22, true), .fa 0 1 false (.t 26)⟩,
 ⟨some 28, some (22, true), .ld false 1 (.t 27)⟩,
 ⟨some 29, some (22, true), .mv (.t 7)⟩,
 ⟨some 30, some (22, true), .ia 3 true (.t 28) (.t 29)⟩,
 ⟨some 31, some (22, true), .ld true 3 (.t 30)⟩,
 ⟨some 32, some (22, true), .mv (.t 1)⟩,
 ⟨some 33, some (22, true), .mv (.t 7)⟩,
 ⟨some 34, some (22, true), .ia 3 true (.t 32) (.t 33)⟩,
 ⟨some 35, some (22, true), .ld true 3 (.t 34)⟩,
 ⟨some 36, some (22, true), .call 108 [.t 31, .t 35]⟩,
 ⟨some 37, none, .pick (.t 22) (.t 36) (.k (.d (.bool false)))⟩,
 ⟨some 6, none, .tk 37⟩]))
 (.ops [] [⟨some 19, none, .mv (.t 7)⟩,
 ⟨some 20, none, .bin .add (.t 19) (.k (.d (.int .i64 1)))⟩,
 ⟨some 7, none, .tk 20⟩]))))))
 (.seq (.ops [] [⟨some 38, none, .mv (.t 6)⟩])
 (.cond (.t 38) (.seq (.ops [] [⟨some 39, none, .tk 5⟩,
 ⟨some 4, none, .tk 39⟩])
 (.ret))
 (.skip))))))
 (.ops [] [⟨some 13, none, .mv (.t 5)⟩,
 ⟨some 14, none, .bin .add (.t 13) (.k (.d (.int .i64 1)))⟩,
 ⟨some 5, none, .tk 14⟩]))))))
 (.seq (.ops [] [⟨some 4, none, .mv (.k (.d (.int .i64 (-1))))⟩])
 (.ret)))⟩
theorem c62 : sp 62 = some (.code F62) := by kernel_rfl

/-- tenet/tenetref15.Matches -/
def F108 : AFunc := ⟨46, [.tmp 4],
 .seq (.ops [] [⟨some 2, none, .box true 3 (.t 0)⟩,
 ⟨some 3, none, .box true 3 (.t 1)⟩,
 ⟨some 4, none, .mv (.k (.d (.bool false)))⟩])
 (.seq (.seq (.ops [] [⟨some 6, none, .ld true 3 (.t 2)⟩,
 ⟨some 7, none, .call 150 [.t 6]⟩])
 (.cond (.t 7) (.seq (.ops [] [⟨some 4, none, .mv (.k (.d (.bool true)))⟩])
 (.ret))
 (.skip)))
 (.seq (.seq (.ops [] [⟨some 8, none, .fa 0 1 false (.t 2)⟩,
 ⟨some 9, none, .ld false 1 (.t 8)⟩,
 ⟨some 10, none, .bin .neq (.t 9) (.k (.d (.int .i64 2)))⟩,
 ⟨some 11, none, .mv (.t 10)⟩,
 ⟨some 12, some (11, false), .fa 1 1 false (.t 2)⟩,
 ⟨some 13, some (11, false), .ld false 1 (.t 12)⟩,
 ⟨some 14, some (11, false), .fa 1 1 false (.t 3)⟩,
 ⟨some 15, some (11, false), .ld false 1 (.t 14)⟩,
 ⟨some 16, some (11, false), .bin .neq (.t 13) (.t 15)⟩,
 ⟨some 17, none, .pick (.t 11) (.k (.d (.bool true))) (.t 16)⟩,
 ⟨some 18, none, .mv (.t 17)⟩,
 ⟨some 19, some (18, false), .fa 2 1 false (.t 2)⟩,
 ⟨some 20, some (18, false), .ld false 1 (.t 19)⟩,
 ⟨some 21, some (18, false), .len 1 (.t 20)⟩,
 ⟨some 22, some (18, false), .fa 2 1 false (.t 3)⟩,
 ⟨some 23, some (18, false), .ld false 1 (.t 22)⟩,
 ⟨some 24, some (18, false), .len 1 (.t 23)⟩,
 ⟨some 25, some (18, false), .bin .neq (.t 21) (.t 24)⟩,
 ⟨some 26, none, .pick (.t 18) (.k (.d (.bool true))) (.t 25)⟩])
 (.cond (.t 26) (.seq (.ops [] [⟨some 4, none, .mv (.k (.d (.bool false)))⟩])
 (.ret))
 (.skip)))
 (.seq (.seq (.ops [] [⟨some 5, none, .mv (.k (.d (.int .i64 0)))⟩])
 (.block 0 (.loop 46 [2, 3, 5] (.seq (.seq (.ops [] [⟨some 27, none, .mv (.t 5)⟩,
 ⟨some 28, none, .fa 2 1 false (.t 2)⟩,
 ⟨some 29, none, .ld false 1 (.t 28)⟩,
 ⟨some 30, none, .len 1 (.t 29)⟩,
 ⟨some 31, none, .bin .lss (.t 27) (.t 30)⟩])
 (.cond (.t 31) (.skip)
 (.exit 0)))
 (.seq (.block 1 (.seq (.ops [] [⟨some 34, none, .fa 2 1 false (.t 2)⟩,
 ⟨some 35, none, .ld false 1 (.t 34)⟩,
 ⟨some 36, none, .mv (.t 5)⟩,
 ⟨some 37, none, .ia 3 true (.t 35) (.t 36)⟩,
 ⟨some 38, none, .ld true 3 (.t 37)⟩,
 ⟨some 39, none, .fa 2 1 false (.t 3)⟩,
 ⟨some 40, none, .ld false 1 (.t 39)⟩,
 ⟨some 41, none, .mv (.t 5)⟩,
 ⟨some 42, none, .ia 3 true (.t 40) (.t 41)⟩,
 ⟨some 43, none, .ld true 3 (.t 42)⟩,
 ⟨some 44, none, .call 108 [.t 38, .t 43]⟩,
 ⟨some 45, none, .not (.t 44)⟩])
 (.cond (.t 45) (.seq (.ops [] [⟨some 4, none, .mv (.k (.d (.bool false)))⟩])
 (.ret))
 (.skip))))
 (.ops [] [⟨some 32, none, .mv (.t 5)⟩,
 ⟨some 33, none, .bin .add (.t 32) (.k (.d (.int .i64 1)))⟩,
 ⟨some 5, none, .tk 33⟩]))))))
 (.seq (.ops [] [⟨some 4, none, .mv (.k (.d (.bool true)))⟩])
 (.ret)))))⟩
theorem c108 : sp 108 = some (.code F108) := by kernel_rfl

/-- slices.IndexFunc[[]tenet/api.Clause,tenet/api.Clause] -/
def F105 : AFunc := ⟨19, [.tmp 4],
 .seq (.ops [] [⟨some 4, none, .mv (.k (.d (.int .i64 0)))⟩])
 (.seq (.seq (.ops [] [⟨some 6, none, .mv (.t 0)⟩,
 ⟨some 7, none, .len 1 (.t 6)⟩,
 ⟨some 8, none, .mv (.k (.d (.int .i64 0)))⟩])
 (.block 0 (.loop 19 [0, 1, 7, 8] (.seq (.ops [] [⟨some 9, none, .bin .lss (.t 8) (.t 7)⟩])
 (.seq (.cond (.t 9) (.skip)
 (.exit 0))
 (.seq (.block 1 (.seq (.ops [] [⟨some 10, none, .tk 8⟩,
 ⟨some 5, none, .tk 10⟩])
 (.seq (.ops [] [⟨some 11, none, .mv (.t 1)⟩,
 ⟨some 12, none, .mv (.t 0)⟩,
 ⟨some 13, none, .mv (.t 5)⟩,
 ⟨some 14, none, .ia 5 true (.t 12) (.t 13)⟩,
 ⟨some 15, none, .ld true 5 (.t 14)⟩,
 ⟨some 16, none, .callV (.t 11) [.t 15]⟩])
 (.cond (.t 16) (.seq (.ops [] [⟨some 17, none, .tk 5⟩,
 ⟨some 4, none, .tk 17⟩])
 (.ret))
 (.skip)))))
 (.ops [] [⟨some 18, none, .bin .add (.t 8) (.k (.d (.int .i64 1)))⟩,
 ⟨some 8, none, .mv (.t 18)⟩])))))))
 (.seq (.ops [] [⟨some 4, none, .mv (.k (.d (.int .i64 (-1))))⟩])
 (.ret)))⟩
end Go.Sp
