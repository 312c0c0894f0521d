/- SplitTrees holds of every input whose data are of bulk at most 1048576 (the row's second form). Here: The program's functions as abstract code. -/
import Derived.Test.YtnhbhonbihccpaaGreatB2
import Derived.KernelRfl

set_option linter.unusedVariables false
set_option linter.unusedSimpArgs false
set_option linter.unnecessarySimpa false

/-! The program's functions as abstract code. -/
namespace Go.Sp
open Go.Abs Go.Proofs
set_option maxRecDepth 20000

/-- tenet/split.rows -/
def F86 : AFunc := ⟨24, [.tmp 4],
 .seq (.ops [] [⟨some 2, none, .box true 4 (.t 0)⟩,
 ⟨some 4, none, .mv (.k (.nil 1))⟩])
 (.seq (.ops [] [⟨some 5, none, .mv (.k (.nil 1))⟩])
 (.seq (.seq (.ops [] [⟨some 8, none, .fa 3 1 false (.t 2)⟩,
 ⟨some 9, none, .ld false 1 (.t 8)⟩,
 ⟨some 10, none, .mv (.t 1)⟩,
 ⟨some 11, none, .slice 5 (.t 9) none (some (.t 10)) none⟩,
 ⟨some 12, none, .len 1 (.t 11)⟩,
 ⟨some 13, none, .mv (.k (.d (.int .i64 0)))⟩])
 (.block 0 (.loop 24 [5, 11, 12, 13] (.seq (.ops [] [⟨some 14, none, .bin .lss (.t 13) (.t 12)⟩])
 (.seq (.cond (.t 14) (.skip)
 (.exit 0))
 (.seq (.block 1 (.seq (.ops [] [⟨some 15, none, .ia 5 true (.t 11) (.t 13)⟩,
 ⟨some 16, none, .ld true 5 (.t 15)⟩,
 ⟨some 7, none, .alloc true [.nil 3, .d (.bool false), .d (.int .i64 0), .d (.str []), .nil 3]⟩,
 ⟨none, none, .st true 5 (.t 7) (.t 16)⟩])
 (.ops [] [⟨some 17, none, .tk 5⟩,
 ⟨some 18, none, .fa 0 1 false (.t 7)⟩,
 ⟨some 19, none, .ld false 1 (.t 18)⟩,
 ⟨some 20, none, .lit 1 [.t 19]⟩,
 ⟨some 21, none, .app 1 (.t 17) (.t 20)⟩,
 ⟨some 5, none, .tk 21⟩])))
 (.ops [] [⟨some 22, none, .bin .add (.t 13) (.k (.d (.int .i64 1)))⟩,
 ⟨some 13, none, .mv (.t 22)⟩])))))))
 (.seq (.ops [] [⟨some 23, none, .tk 5⟩,
 ⟨some 4, none, .tk 23⟩])
 (.ret))))⟩
/-- tenet/split.special -/
def F136 : AFunc := ⟨59, [.tmp 6],
 .seq (.ops [] [⟨some 6, none, .mv (.k (.nil 1))⟩])
 (.seq (.ops [] [⟨some 7, none, .mv (.k (.nil 1))⟩])
 (.seq (.seq (.ops [] [⟨some 11, none, .mv (.t 0)⟩,
 ⟨some 12, none, .len 1 (.t 11)⟩,
 ⟨some 13, none, .mv (.k (.d (.int .i64 0)))⟩])
 (.block 0 (.loop 59 [1, 2, 7, 11, 12, 13] (.seq (.ops [] [⟨some 14, none, .bin .lss (.t 13) (.t 12)⟩])
 (.seq (.cond (.t 14) (.skip)
 (.exit 0))
 (.seq (.block 1 (.seq (.ops [] [⟨some 15, none, .ia 1 false (.t 11) (.t 13)⟩,
 ⟨some 16, none, .ld false 1 (.t 15)⟩,
 ⟨some 9, none, .tk 16⟩])
 (.seq (.ops [] [⟨some 17, none, .mv (.t 9)⟩,
 ⟨some 18, none, .ia 3 true (.t 17) (.k (.d (.int .i64 0)))⟩,
 ⟨some 19, none, .ld true 3 (.t 18)⟩,
 ⟨some 10, none, .alloc true [.d (.int .i64 0), .d (.str []), .nil 3]⟩,
 ⟨none, none, .st true 3 (.t 10) (.t 19)⟩])
 (.block 2 (.seq (.ops [] [⟨some 21, none, .fa 0 1 false (.t 10)⟩,
 ⟨some 22, none, .ld false 1 (.t 21)⟩,
 ⟨some 23, none, .bin .eql (.t 22) (.k (.d (.int .i64 2)))⟩,
 ⟨some 24, none, .mv (.t 23)⟩,
 ⟨some 25, some (24, true), .fa 1 1 false (.t 10)⟩,
 ⟨some 26, some (24, true), .ld false 1 (.t 25)⟩,
 ⟨some 27, some (24, true), .mv (.t 1)⟩,
 ⟨some 28, some (24, true), .bin .eql (.t 26) (.t 27)⟩,
 ⟨some 29, none, .pick (.t 24) (.t 28) (.k (.d (.bool false)))⟩,
 ⟨some 20, none, .tk 29⟩])
 (.cond (.t 20) (.ops [] [⟨some 30, none, .tk 7⟩,
 ⟨some 31, none, .fa 2 1 false (.t 10)⟩,
 ⟨some 32, none, .ld false 1 (.t 31)⟩,
 ⟨some 33, none, .mv (.t 9)⟩,
 ⟨some 34, none, .slice 3 (.t 33) (some (.k (.d (.int .i64 1)))) none none⟩,
 ⟨some 35, none, .lit 1 [.t 32, .t 34]⟩,
 ⟨some 36, none, .call 167 [.t 35]⟩,
 ⟨some 37, none, .lit 1 [.t 36]⟩,
 ⟨some 38, none, .app 1 (.t 30) (.t 37)⟩,
 ⟨some 7, none, .tk 38⟩])
 (.seq (.ops [] [⟨some 40, none, .fa 0 1 false (.t 10)⟩,
 ⟨some 41, none, .ld false 1 (.t 40)⟩,
 ⟨some 42, none, .bin .eql (.t 41) (.k (.d (.int .i64 1)))⟩,
 ⟨some 43, none, .mv (.t 42)⟩,
 ⟨some 44, some (43, false), .fa 0 1 false (.t 10)⟩,
 ⟨some 45, some (43, false), .ld false 1 (.t 44)⟩,
 ⟨some 46, some (43, false), .bin .eql (.t 45) (.k (.d (.int .i64 4)))⟩,
 ⟨some 47, none, .pick (.t 43) (.k (.d (.bool true))) (.t 46)⟩,
 ⟨some 39, none, .tk 47⟩])
 (.cond (.t 39) (.ops [] [⟨some 48, none, .tk 7⟩,
 ⟨some 49, none, .mv (.t 2)⟩,
 ⟨some 50, none, .call 172 [.t 49]⟩,
 ⟨some 51, none, .mv (.t 9)⟩,
 ⟨some 52, none, .slice 3 (.t 51) (some (.k (.d (.int .i64 1)))) none none⟩,
 ⟨some 53, none, .lit 1 [.t 50, .t 52]⟩,
 ⟨some 54, none, .call 167 [.t 53]⟩,
 ⟨some 55, none, .lit 1 [.t 54]⟩,
 ⟨some 56, none, .app 1 (.t 48) (.t 55)⟩,
 ⟨some 7, none, .tk 56⟩])
 (.skip)))))))))
 (.ops [] [⟨some 57, none, .bin .add (.t 13) (.k (.d (.int .i64 1)))⟩,
 ⟨some 13, none, .mv (.t 57)⟩])))))))
 (.seq (.ops [] [⟨some 58, none, .tk 7⟩,
 ⟨some 6, none, .tk 58⟩])
 (.ret))))⟩
theorem c136 : sp 136 = some (.code F136) := by kernel_rfl

/-- tenet/split.wide -/
def F172 : AFunc := ⟨18, [.tmp 2],
 .seq (.ops [] [⟨some 2, none, .mv (.k (.nil 3))⟩])
 (.seq (.ops [] [⟨some 5, none, .mv (.t 0)⟩,
 ⟨some 6, none, .mkslice 3 [.d (.int .i64 0), .d (.str []), .nil 3] (.t 5) (.t 5)⟩,
 ⟨some 3, none, .tk 6⟩])
 (.seq (.seq (.ops [] [⟨some 7, none, .mv (.t 3)⟩,
 ⟨some 8, none, .len 1 (.t 7)⟩,
 ⟨some 9, none, .mv (.k (.d (.int .i64 0)))⟩])
 (.block 0 (.loop 18 [3, 8, 9] (.seq (.ops [] [⟨some 10, none, .bin .lss (.t 9) (.t 8)⟩])
 (.seq (.cond (.t 10) (.skip)
 (.exit 0))
 (.seq (.block 1 (.seq (.ops [] [⟨some 11, none, .tk 9⟩,
 ⟨some 4, none, .tk 11⟩])
 (.ops [] [⟨some 12, none, .mv (.t 3)⟩,
 ⟨some 13, none, .mv (.t 4)⟩,
 ⟨some 14, none, .build [.d (.int .i64 0), .d (.str []), .nil 3] [(0, 1, (.k (.d (.int .i64 1)))), (1, 1, (.k (.d (.str [95]))))]⟩,
 ⟨some 15, none, .ia 3 true (.t 12) (.t 13)⟩,
 ⟨none, none, .st true 3 (.t 15) (.t 14)⟩])))
 (.ops [] [⟨some 16, none, .bin .add (.t 9) (.k (.d (.int .i64 1)))⟩,
 ⟨some 9, none, .mv (.t 16)⟩])))))))
 (.seq (.ops [] [⟨some 17, none, .tk 3⟩,
 ⟨some 2, none, .tk 17⟩])
 (.ret))))⟩
theorem c172 : sp 172 = some (.code F172) := by kernel_rfl

/-- slices.Repeat[[]tenet/api.Expr,tenet/api.Expr] -/
def F133 : AFunc := ⟨48, [.tmp 4],
 .seq (.ops [] [⟨some 4, none, .mv (.k (.nil 3))⟩])
 (.seq (.seq (.ops [] [⟨some 9, none, .mv (.t 1)⟩,
 ⟨some 10, none, .bin .lss (.t 9) (.k (.d (.int .i64 0)))⟩])
 (.cond (.t 10) (.ops [] [⟨none, none, .bad⟩,
 ⟨none, none, .bad⟩])
 (.skip)))
 (.seq (.ops [] [⟨some 13, none, .mv (.t 0)⟩,
 ⟨some 14, none, .len 1 (.t 13)⟩,
 ⟨some 15, none, .conv .u64 (.t 14)⟩,
 ⟨some 16, none, .mv (.t 1)⟩,
 ⟨some 17, none, .conv .u64 (.t 16)⟩,
 ⟨some 18, none, .call 170 [.t 15, .t 17]⟩,
 ⟨some 12, none, .mv (.t 18)⟩,
 ⟨some 19, none, .ext (.t 12) 0⟩,
 ⟨some 20, none, .ext (.t 12) 1⟩,
 ⟨some 5, none, .tk 19⟩,
 ⟨some 6, none, .tk 20⟩])
 (.seq (.seq (.ops [] [⟨some 21, none, .mv (.t 5)⟩,
 ⟨some 22, none, .bin .gtr (.t 21) (.k (.d (.int .u64 0)))⟩,
 ⟨some 23, none, .mv (.t 22)⟩,
 ⟨some 24, some (23, false), .mv (.t 6)⟩,
 ⟨some 25, some (23, false), .bin .gtr (.t 24) (.k (.d (.int .u64 9223372036854775807)))⟩,
 ⟨some 26, none, .pick (.t 23) (.k (.d (.bool true))) (.t 25)⟩])
 (.cond (.t 26) (.ops [] [⟨none, none, .bad⟩,
 ⟨none, none, .bad⟩])
 (.skip)))
 (.seq (.ops [] [⟨some 28, none, .mv (.t 6)⟩,
 ⟨some 29, none, .conv .i64 (.t 28)⟩,
 ⟨some 30, none, .mkslice 3 [.d (.int .i64 0), .d (.str []), .nil 3] (.t 29) (.t 29)⟩,
 ⟨some 7, none, .tk 30⟩])
 (.seq (.ops [] [⟨some 31, none, .mv (.t 7)⟩,
 ⟨some 32, none, .mv (.t 0)⟩,
 ⟨some 33, none, .copy 3 (.t 31) (.t 32)⟩,
 ⟨some 8, none, .tk 33⟩])
 (.seq (.block 0 (.loop 48 [7, 8] (.seq (.seq (.ops [] [⟨some 34, none, .mv (.t 8)⟩,
 ⟨some 35, none, .mv (.t 7)⟩,
 ⟨some 36, none, .len 1 (.t 35)⟩,
 ⟨some 37, none, .bin .lss (.t 34) (.t 36)⟩])
 (.cond (.t 37) (.skip)
 (.exit 0)))
 (.block 1 (.ops [] [⟨some 38, none, .mv (.t 8)⟩,
 ⟨some 39, none, .mv (.t 7)⟩,
 ⟨some 40, none, .mv (.t 8)⟩,
 ⟨some 41, none, .slice 3 (.t 39) (some (.t 40)) none none⟩,
 ⟨some 42, none, .mv (.t 7)⟩,
 ⟨some 43, none, .mv (.t 8)⟩,
 ⟨some 44, none, .slice 3 (.t 42) none (some (.t 43)) none⟩,
 ⟨some 45, none, .copy 3 (.t 41) (.t 44)⟩,
 ⟨some 46, none, .bin .add (.t 38) (.t 45)⟩,
 ⟨some 8, none, .tk 46⟩])))))
 (.seq (.ops [] [⟨some 47, none, .tk 7⟩,
 ⟨some 4, none, .tk 47⟩])
 (.ret))))))))⟩
/-- slices.Concat[[]string,string] -/
def F137 : AFunc := ⟨36, [.tmp 2],
 .seq (.ops [] [⟨some 2, none, .mv (.k (.nil 1))⟩])
 (.seq (.ops [] [⟨some 3, none, .mv (.k (.d (.int .i64 0)))⟩])
 (.seq (.seq (.ops [] [⟨some 9, none, .mv (.t 0)⟩,
 ⟨some 10, none, .len 1 (.t 9)⟩,
 ⟨some 11, none, .mv (.k (.d (.int .i64 0)))⟩])
 (.block 0 (.loop 0 [0, 3, 9, 10, 11] (.seq (.ops [] [⟨some 12, none, .bin .lss (.t 11) (.t 10)⟩])
 (.seq (.cond (.t 12) (.skip)
 (.exit 0))
 (.seq (.block 1 (.seq (.ops [] [⟨some 13, none, .ia 1 false (.t 9) (.t 11)⟩,
 ⟨some 14, none, .ld false 1 (.t 13)⟩,
 ⟨some 5, none, .tk 14⟩])
 (.seq (.ops [] [⟨some 15, none, .mv (.t 3)⟩,
 ⟨some 16, none, .mv (.t 5)⟩,
 ⟨some 17, none, .len 1 (.t 16)⟩,
 ⟨some 18, none, .bin .add (.t 15) (.t 17)⟩,
 ⟨some 3, none, .tk 18⟩])
 (.seq (.ops [] [⟨some 19, none, .mv (.t 3)⟩,
 ⟨some 20, none, .bin .lss (.t 19) (.k (.d (.int .i64 0)))⟩])
 (.cond (.t 20) (.ops [] [⟨none, none, .bad⟩,
 ⟨none, none, .bad⟩])
 (.skip))))))
 (.ops [] [⟨some 22, none, .bin .add (.t 11) (.k (.d (.int .i64 1)))⟩,
 ⟨some 11, none, .mv (.t 22)⟩])))))))
 (.seq (.ops [] [⟨some 23, none, .tk 3⟩,
 ⟨some 24, none, .callS 173 [.k (.nil 1), .t 23]⟩,
 ⟨some 6, none, .tk 24⟩])
 (.seq (.seq (.ops [] [⟨some 25, none, .mv (.t 0)⟩,
 ⟨some 26, none, .len 1 (.t 25)⟩,
 ⟨some 27, none, .mv (.k (.d (.int .i64 0)))⟩])
 (.block 2 (.loop 0 [6, 25, 26, 27] (.seq (.ops [] [⟨some 28, none, .bin .lss (.t 27) (.t 26)⟩])
 (.seq (.cond (.t 28) (.skip)
 (.exit 2))
 (.seq (.block 3 (.seq (.ops [] [⟨some 29, none, .ia 1 false (.t 25) (.t 27)⟩,
 ⟨some 30, none, .ld false 1 (.t 29)⟩,
 ⟨some 8, none, .tk 30⟩])
 (.ops [] [⟨some 31, none, .mv (.t 6)⟩,
 ⟨some 32, none, .mv (.t 8)⟩,
 ⟨some 33, none, .appM 1 (.t 31) (.t 32)⟩,
 ⟨some 6, none, .tk 33⟩])))
 (.ops [] [⟨some 34, none, .bin .add (.t 27) (.k (.d (.int .i64 1)))⟩,
 ⟨some 27, none, .mv (.t 34)⟩])))))))
 (.seq (.ops [] [⟨some 35, none, .tk 6⟩,
 ⟨some 2, none, .tk 35⟩])
 (.ret))))))⟩
/-- slices.Concat[tenet/split.vector,tenet/api.Pat] -/
def F167 : AFunc := ⟨36, [.tmp 2],
 .seq (.ops [] [⟨some 2, none, .mv (.k (.nil 3))⟩])
 (.seq (.ops [] [⟨some 3, none, .mv (.k (.d (.int .i64 0)))⟩])
 (.seq (.seq (.ops [] [⟨some 9, none, .mv (.t 0)⟩,
 ⟨some 10, none, .len 1 (.t 9)⟩,
 ⟨some 11, none, .mv (.k (.d (.int .i64 0)))⟩])
 (.block 0 (.loop 0 [0, 3, 9, 10, 11] (.seq (.ops [] [⟨some 12, none, .bin .lss (.t 11) (.t 10)⟩])
 (.seq (.cond (.t 12) (.skip)
 (.exit 0))
 (.seq (.block 1 (.seq (.ops [] [⟨some 13, none, .ia 1 false (.t 9) (.t 11)⟩,
 ⟨some 14, none, .ld false 1 (.t 13)⟩,
 ⟨some 5, none, .tk 14⟩])
 (.seq (.ops [] [⟨some 15, none, .mv (.t 3)⟩,
 ⟨some 16, none, .mv (.t 5)⟩,
 ⟨some 17, none, .len 1 (.t 16)⟩,
 ⟨some 18, none, .bin .add (.t 15) (.t 17)⟩,
 ⟨some 3, none, .tk 18⟩])
 (.seq (.ops [] [⟨some 19, none, .mv (.t 3)⟩,
 ⟨some 20, none, .bin .lss (.t 19) (.k (.d (.int .i64 0)))⟩])
 (.cond (.t 20) (.ops [] [⟨none, none, .bad⟩,
 ⟨none, none, .bad⟩])
 (.skip))))))
 (.ops [] [⟨some 22, none, .bin .add (.t 11) (.k (.d (.int .i64 1)))⟩,
 ⟨some 11, none, .mv (.t 22)⟩])))))))
 (.seq (.ops [] [⟨some 23, none, .tk 3⟩,
 ⟨some 24, none, .callS 176 [.k (.nil 3), .t 23]⟩,
 ⟨some 6, none, .tk 24⟩])
 (.seq (.seq (.ops [] [⟨some 25, none, .mv (.t 0)⟩,
 ⟨some 26, none, .len 1 (.t 25)⟩,
 ⟨some 27, none, .mv (.k (.d (.int .i64 0)))⟩])
 (.block 2 (.loop 0 [6, 25, 26, 27] (.seq (.ops [] [⟨some 28, none, .bin .lss (.t 27) (.t 26)⟩])
 (.seq (.cond (.t 28) (.skip)
 (.exit 2))
 (.seq (.block 3 (.seq (.ops [] [⟨some 29, none, .ia 1 false (.t 25) (.t 27)⟩,
 ⟨some 30, none, .ld false 1 (.t 29)⟩,
 ⟨some 8, none, .tk 30⟩])
 (.ops [] [⟨some 31, none, .mv (.t 6)⟩,
 ⟨some 32, none, .mv (.t 8)⟩,
 ⟨some 33, none, .appM 3 (.t 31) (.t 32)⟩,
 ⟨some 6, none, .tk 33⟩])))
 (.ops [] [⟨some 34, none, .bin .add (.t 27) (.k (.d (.int .i64 1)))⟩,
 ⟨some 27, none, .mv (.t 34)⟩])))))))
 (.seq (.ops [] [⟨some 35, none, .tk 6⟩,
 ⟨some 2, none, .tk 35⟩])
 (.ret))))))⟩
theorem c167 : sp 167 = some (.code F167) := by kernel_rfl

/-- slices.Grow[[]string,string] -/
def F173 : AFunc := ⟨27, [.tmp 4],
 .seq (.ops [] [⟨some 4, none, .mv (.k (.nil 1))⟩])
 (.seq (.seq (.ops [] [⟨some 5, none, .mv (.t 1)⟩,
 ⟨some 6, none, .bin .lss (.t 5) (.k (.d (.int .i64 0)))⟩])
 (.cond (.t 6) (.ops [] [⟨none, none, .bad⟩,
 ⟨none, none, .bad⟩])
 (.skip)))
 (.seq (.seq (.ops [] [⟨some 8, none, .mv (.t 1)⟩,
 ⟨some 9, none, .mv (.t 0)⟩,
 ⟨some 10, none, .cap (.t 9)⟩,
 ⟨some 11, none, .mv (.t 0)⟩,
 ⟨some 12, none, .len 1 (.t 11)⟩,
 ⟨some 13, none, .bin .sub (.t 10) (.t 12)⟩,
 ⟨some 14, none, .bin .sub (.t 8) (.t 13)⟩,
 ⟨some 1, none, .tk 14⟩])
 (.seq (.ops [] [⟨some 15, none, .mv (.t 1)⟩,
 ⟨some 16, none, .bin .gtr (.t 15) (.k (.d (.int .i64 0)))⟩])
 (.cond (.t 16) (.ops [] [⟨some 17, none, .mv (.t 0)⟩,
 ⟨some 18, none, .mv (.t 0)⟩,
 ⟨some 19, none, .cap (.t 18)⟩,
 ⟨some 20, none, .slice 1 (.t 17) none (some (.t 19)) none⟩,
 ⟨some 21, none, .mv (.t 1)⟩,
 ⟨some 22, none, .appZ 1 [.d (.str [])] (.t 20) (.t 21)⟩,
 ⟨some 23, none, .mv (.t 0)⟩,
 ⟨some 24, none, .len 1 (.t 23)⟩,
 ⟨some 25, none, .slice 1 (.t 22) none (some (.t 24)) none⟩,
 ⟨some 0, none, .tk 25⟩])
 (.skip))))
 (.seq (.ops [] [⟨some 26, none, .tk 0⟩,
 ⟨some 4, none, .tk 26⟩])
 (.ret))))⟩
/-- slices.Grow[tenet/split.vector,tenet/api.Pat] -/
def F176 : AFunc := ⟨27, [.tmp 4],
 .seq (.ops [] [⟨some 4, none, .mv (.k (.nil 3))⟩])
 (.seq (.seq (.ops [] [⟨some 5, none, .mv (.t 1)⟩,
 ⟨some 6, none, .bin .lss (.t 5) (.k (.d (.int .i64 0)))⟩])
 (.cond (.t 6) (.ops [] [⟨none, none, .bad⟩,
 ⟨none, none, .bad⟩])
 (.skip)))
 (.seq (.seq (.ops [] [⟨some 8, none, .mv (.t 1)⟩,
 ⟨some 9, none, .mv (.t 0)⟩,
 ⟨some 10, none, .cap (.t 9)⟩,
 ⟨some 11, none, .mv (.t 0)⟩,
 ⟨some 12, none, .len 1 (.t 11)⟩,
 ⟨some 13, none, .bin .sub (.t 10) (.t 12)⟩,
 ⟨some 14, none, .bin .sub (.t 8) (.t 13)⟩,
 ⟨some 1, none, .tk 14⟩])
 (.seq (.ops [] [⟨some 15, none, .mv (.t 1)⟩,
 ⟨some 16, none, .bin .gtr (.t 15) (.k (.d (.int .i64 0)))⟩])
 (.cond (.t 16) (.ops [] [⟨some 17, none, .mv (.t 0)⟩,
 ⟨some 18, none, .mv (.t 0)⟩,
 ⟨some 19, none, .cap (.t 18)⟩,
 ⟨some 20, none, .slice 3 (.t 17) none (some (.t 19)) none⟩,
 ⟨some 21, none, .mv (.t 1)⟩,
 ⟨some 22, none, .appZ 3 [.d (.int .i64 0), .d (.str []), .nil 3] (.t 20) (.t 21)⟩,
 ⟨some 23, none, .mv (.t 0)⟩,
 ⟨some 24, none, .len 1 (.t 23)⟩,
 ⟨some 25, none, .slice 3 (.t 22) none (some (.t 24)) none⟩,
 ⟨some 0, none, .tk 25⟩])
 (.skip))))
 (.seq (.ops [] [⟨some 26, none, .tk 0⟩,
 ⟨some 4, none, .tk 26⟩])
 (.ret))))⟩
theorem c176 : sp 176 = some (.code F176) := by kernel_rfl

/-- tenet/tenetlaw15.SplitChecks -/
def F4 : AFunc := ⟨76, [.tmp 4],
 .seq (.ops [] [⟨some 2, none, .box true 2 (.t 0)⟩,
 ⟨some 4, none, .mv (.k (.d (.bool false)))⟩])
 (.seq (.seq (.ops [] [⟨some 15, none, .ld true 2 (.t 2)⟩,
 ⟨some 16, none, .call 8 [.t 15]⟩])
 (.cond (.t 16) (.seq (.ops [] [⟨some 4, none, .mv (.k (.d (.bool true)))⟩])
 (.ret))
 (.skip)))
 (.seq (.ops [] [⟨some 18, none, .ld true 2 (.t 2)⟩,
 ⟨some 19, none, .call 15 [.t 18]⟩,
 ⟨some 17, none, .mv (.t 19)⟩,
 ⟨some 20, none, .ext (.t 17) 0⟩,
 ⟨some 21, none, .ext (.t 17) 1⟩,
 ⟨some 22, none, .ext (.t 17) 2⟩,
 ⟨some 5, none, .tk 20⟩,
 ⟨some 6, none, .tk 21⟩,
 ⟨some 7, none, .tk 22⟩])
 (.seq (.ops [] [⟨some 24, none, .ld true 2 (.t 2)⟩,
 ⟨some 25, none, .call 16 [.t 24]⟩,
 ⟨some 23, none, .mv (.t 25)⟩,
 ⟨some 26, none, .ext (.t 23) 0⟩,
 ⟨some 27, none, .ext (.t 23) 1⟩,
 ⟨some 28, none, .ext (.t 23) 2⟩,
 ⟨some 8, none, .tk 26⟩,
 ⟨some 9, none, .tk 27⟩,
 ⟨some 10, none, .tk 28⟩])
 (.seq (.ops [] [⟨some 30, none, .ld true 2 (.t 2)⟩,
 ⟨some 31, none, .mv (.t 1)⟩,
 ⟨some 32, none, .call 17 [.t 30, .t 31]⟩,
 ⟨some 29, none, .mv (.t 32)⟩,
 ⟨some 33, none, .ext (.t 29) 0⟩,
 ⟨some 34, none, .ext (.t 29) 1⟩,
 ⟨some 11, none, .tk 33⟩,
 ⟨some 12, none, .tk 34⟩])
 (.seq (.ops [] [⟨some 36, none, .ld true 2 (.t 2)⟩,
 ⟨some 37, none, .mv (.t 1)⟩,
 ⟨some 38, none, .call 18 [.t 36, .t 37]⟩,
 ⟨some 35, none, .mv (.t 38)⟩,
 ⟨some 39, none, .ext (.t 35) 0⟩,
 ⟨some 40, none, .ext (.t 35) 1⟩,
 ⟨some 13, none, .tk 39⟩,
 ⟨some 14, none, .tk 40⟩])
 (.seq (.ops [] [⟨some 41, none, .mv (.t 5)⟩,
 ⟨some 42, none, .mv (.t 8)⟩,
 ⟨some 43, none, .bin .eql (.t 41) (.t 42)⟩,
 ⟨some 44, none, .mv (.t 43)⟩,
 ⟨some 45, some (44, true), .mv (.t 6)⟩,
 ⟨some 46, some (44, true), .mv (.t 9)⟩,
 ⟨some 47, some (44, true), .bin .eql (.t 45) (.t 46)⟩,
 ⟨some 48, none, .pick (.t 44) (.t 47) (.k (.d (.bool false)))⟩,
 ⟨some 49, none, .mv (.t 48)⟩,
 ⟨some 50, some (49, true), .mv (.t 7)⟩,
 ⟨some 51, some (49, true), .mv (.t 10)⟩,
 ⟨some 52, some (49, true), .bin .eql (.t 50) (.t 51)⟩,
 ⟨some 53, none, .pick (.t 49) (.t 52) (.k (.d (.bool false)))⟩,
 ⟨some 54, none, .mv (.t 53)⟩,
 ⟨some 55, some (54, true), .mv (.t 12)⟩,
 ⟨some 56, some (54, true), .mv (.t 14)⟩,
 ⟨some 57, some (54, true), .bin .eql (.t 55) (.t 56)⟩,
 ⟨some 58, none, .pick (.t 54) (.t 57) (.k (.d (.bool false)))⟩,
 ⟨some 59, none, .mv (.t 58)⟩,
 ⟨some 60, some (59, true), .mv (.t 11)⟩,
 ⟨some 61, some (59, true), .mv (.t 13)⟩,
 ⟨some 62, some (59, true), .call 19 [.t 60, .t 61]⟩,
 ⟨some 63, none, .pick (.t 59) (.t 62) (.k (.d (.bool false)))⟩,
 ⟨some 64, none, .mv (.t 63)⟩,
 ⟨some 65, some (64, true), .ld true 2 (.t 2)⟩,
 ⟨some 66, some (64, true), .mv (.t 1)⟩,
 ⟨some 67, some (64, true), .call 20 [.t 65, .t 66]⟩,
 ⟨some 68, some (64, true), .ld true 2 (.t 2)⟩,
 ⟨some 69, some (64, true), .mv (.t 1)⟩,
 ⟨some 70, some (64, true), .call 21 [.t 68, .t 69]⟩,
 ⟨some 71, some (64, true), .eqB false (.t 67) (.t 70)⟩,
 ⟨some 72, none, .pick (.t 64) (.t 71) (.k (.d (.bool false)))⟩,
 ⟨some 73, none, .mv (.t 72)⟩,
 ⟨some 74, some (73, true), .call 11 []⟩,
 ⟨some 75, none, .pick (.t 73) (.t 74) (.k (.d (.bool false)))⟩,
 ⟨some 4, none, .tk 75⟩])
 (.ret)))))))⟩
theorem c4 : sp 4 = some (.code F4) := by kernel_rfl

/-- math/bits.Mul -/
def F170 : AFunc := ⟨30, [.tmp 4, .tmp 5],
 .seq (.ops [] [⟨some 4, none, .mv (.k (.d (.int .u64 0)))⟩,
 ⟨some 5, none, .mv (.k (.d (.int .u64 0)))⟩])
 (.seq (.cond (.k (.d (.bool false))) (.seq (.ops [] [⟨some 11, none, .mv (.t 0)⟩,
 ⟨some 12, none, .conv .u32 (.t 11)⟩,
 ⟨some 13, none, .mv (.t 1)⟩,
 ⟨some 14, none, .conv .u32 (.t 13)⟩,
 ⟨some 15, none, .call 178 [.t 12, .t 14]⟩,
 ⟨some 10, none, .mv (.t 15)⟩,
 ⟨some 16, none, .ext (.t 10) 0⟩,
 ⟨some 17, none, .ext (.t 10) 1⟩,
 ⟨some 6, none, .tk 16⟩,
 ⟨some 7, none, .tk 17⟩])
 (.seq (.ops [] [⟨some 18, none, .mv (.t 6)⟩,
 ⟨some 19, none, .conv .u64 (.t 18)⟩,
 ⟨some 20, none, .mv (.t 7)⟩,
 ⟨some 21, none, .conv .u64 (.t 20)⟩,
 ⟨some 4, none, .tk 19⟩,
 ⟨some 5, none, .tk 21⟩])
 (.ret)))
 (.skip))
 (.seq (.ops [] [⟨some 23, none, .mv (.t 0)⟩,
 ⟨some 24, none, .mv (.t 1)⟩,
 ⟨some 25, none, .call 179 [.t 23, .t 24]⟩,
 ⟨some 22, none, .mv (.t 25)⟩,
 ⟨some 26, none, .ext (.t 22) 0⟩,
 ⟨some 27, none, .ext (.t 22) 1⟩,
 ⟨some 8, none, .tk 26⟩,
 ⟨some 9, none, .tk 27⟩])
 (.seq (.ops [] [⟨some 28, none, .tk 8⟩,
 ⟨some 29, none, .tk 9⟩,
 ⟨some 4, none, .tk 28⟩,
 ⟨some 5, none, .tk 29⟩])
 (.ret))))⟩
/-- math/bits.Mul64 -/
def F179 : AFunc := ⟨51, [.tmp 4, .tmp 5],
 .seq (.ops [] [⟨some 4, none, .mv (.k (.d (.int .u64 0)))⟩,
 ⟨some 5, none, .mv (.k (.d (.int .u64 0)))⟩])
 (.seq (.ops [] [⟨some 14, none, .mv (.t 0)⟩,
 ⟨some 15, none, .bin .and (.t 14) (.k (.d (.int .u64 4294967295)))⟩,
 ⟨some 6, none, .tk 15⟩])
 (.seq (.ops [] [⟨some 16, none, .mv (.t 0)⟩,
 ⟨some 17, none, .bin .shr (.t 16) (.k (.d (.int .u64 32)))⟩,
 ⟨some 7, none, .tk 17⟩])
 (.seq (.ops [] [⟨some 18, none, .mv (.t 1)⟩,
 ⟨some 19, none, .bin .and (.t 18) (.k (.d (.int .u64 4294967295)))⟩,
 ⟨some 8, none, .tk 19⟩])
 (.seq (.ops [] [⟨some 20, none, .mv (.t 1)⟩,
 ⟨some 21, none, .bin .shr (.t 20) (.k (.d (.int .u64 32)))⟩,
 ⟨some 9, none, .tk 21⟩])
 (.seq (.ops [] [⟨some 22, none, .mv (.t 6)⟩,
 ⟨some 23, none, .mv (.t 8)⟩,
 ⟨some 24, none, .bin .mul (.t 22) (.t 23)⟩,
 ⟨some 10, none, .tk 24⟩])
 (.seq (.ops [] [⟨some 25, none, .mv (.t 7)⟩,
 ⟨some 26, none, .mv (.t 8)⟩,
 ⟨some 27, none, .bin .mul (.t 25) (.t 26)⟩,
 ⟨some 28, none, .mv (.t 10)⟩,
 ⟨some 29, none, .bin .shr (.t 28) (.k (.d (.int .u64 32)))⟩,
 ⟨some 30, none, .bin .add (.t 27) (.t 29)⟩,
 ⟨some 11, none, .tk 30⟩])
 (.seq (.ops [] [⟨some 31, none, .mv (.t 11)⟩,
 ⟨some 32, none, .bin .and (.t 31) (.k (.d (.int .u64 4294967295)))⟩,
 ⟨some 12, none, .tk 32⟩])
 (.seq (.ops [] [⟨some 33, none, .mv (.t 11)⟩,
 ⟨some 34, none, .bin .shr (.t 33) (.k (.d (.int .u64 32)))⟩,
 ⟨some 13, none, .tk 34⟩])
 (.seq (.ops [] [⟨some 35, none, .mv (.t 12)⟩,
 ⟨some 36, none, .mv (.t 6)⟩,
 ⟨some 37, none, .mv (.t 9)⟩,
 ⟨some 38, none, .bin .mul (.t 36) (.t 37)⟩,
 ⟨some 39, none, .bin .add (.t 35) (.t 38)⟩,
 ⟨some 12, none, .tk 39⟩])
 (.seq (.ops [] [⟨some 40, none, .mv (.t 7)⟩,
 ⟨some 41, none, .mv (.t 9)⟩,
 ⟨some 42, none, .bin .mul (.t 40) (.t 41)⟩,
 ⟨some 43, none, .mv (.t 13)⟩,
 ⟨some 44, none, .bin .add (.t 42) (.t 43)⟩,
 ⟨some 45, none, .mv (.t 12)⟩,
 ⟨some 46, none, .bin .shr (.t 45) (.k (.d (.int .u64 32)))⟩,
 ⟨some 47, none, .bin .add (.t 44) (.t 46)⟩,
 ⟨some 4, none, .tk 47⟩])
 (.seq (.ops [] [⟨some 48, none, .mv (.t 0)⟩,
 ⟨some 49, none, .mv (.t 1)⟩,
 ⟨some 50, none, .bin .mul (.t 48) (.t 49)⟩,
 ⟨some 5, none, .tk 50⟩])
 (.ret))))))))))))⟩
end Go.Sp
