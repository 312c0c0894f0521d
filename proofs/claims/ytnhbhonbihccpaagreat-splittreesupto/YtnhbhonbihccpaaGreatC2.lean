/- SplitTrees holds of every input whose data are of bulk at most 1048576 (the row's second form). Here: The program's functions as abstract code. -/
import Derived.Test.YtnhbhonbihccpaaGreatB2
import Derived.KernelRfl

set_option linter.unusedVariables false
set_option linter.unusedSimpArgs false
set_option linter.unnecessarySimpa false

/-! The program's functions as abstract code. -/
namespace Go.Sp
open Go.Abs Go.Proofs
set_option maxRecDepth 20000

/-- tenet/tenetref15.look -/
def F148 : AFunc := ⟨24, [.tmp 4],
 .seq (.ops [] [⟨some 4, none, .mv (.k (.d (.str [])))⟩])
 (.seq (.seq (.ops [] [⟨some 5, none, .mv (.k (.d (.int .i64 0)))⟩])
 (.block 0 (.loop 24 [0, 1, 5] (.seq (.seq (.ops [] [⟨some 6, none, .mv (.t 5)⟩,
 ⟨some 7, none, .mv (.t 0)⟩,
 ⟨some 8, none, .len 1 (.t 7)⟩,
 ⟨some 9, none, .bin .lss (.t 6) (.t 8)⟩])
 (.cond (.t 9) (.skip)
 (.exit 0)))
 (.seq (.block 1 (.seq (.ops [] [⟨some 12, none, .mv (.t 0)⟩,
 ⟨some 13, none, .mv (.t 5)⟩,
 ⟨some 14, none, .ia 2 true (.t 12) (.t 13)⟩,
 ⟨some 15, none, .fa 0 1 false (.t 14)⟩,
 ⟨some 16, none, .ld false 1 (.t 15)⟩,
 ⟨some 17, none, .mv (.t 1)⟩,
 ⟨some 18, none, .bin .eql (.t 16) (.t 17)⟩])
 (.cond (.t 18) (.seq (.ops [] [⟨some 19, none, .mv (.t 0)⟩,
 ⟨some 20, none, .mv (.t 5)⟩,
 ⟨some 21, none, .ia 2 true (.t 19) (.t 20)⟩,
 ⟨some 22, none, .fa 1 1 false (.t 21)⟩,
 ⟨some 23, none, .ld false 1 (.t 22)⟩,
 ⟨some 4, none, .tk 23⟩])
 (.ret))
 (.skip))))
 (.ops [] [⟨some 10, none, .mv (.t 5)⟩,
 ⟨some 11, none, .bin .add (.t 10) (.k (.d (.int .i64 1)))⟩,
 ⟨some 5, none, .tk 11⟩]))))))
 (.seq (.ops [] [⟨some 4, none, .mv (.k (.d (.str [])))⟩])
 (.ret)))⟩
theorem c148 : sp 148 = some (.code F148) := by kernel_rfl

/-- tenet/tenetref15.patNodes -/
def F96 : AFunc := ⟨21, [.tmp 2],
 .seq (.ops [] [⟨some 2, none, .mv (.k (.d (.int .i64 0)))⟩])
 (.seq (.ops [] [⟨some 3, none, .mv (.k (.d (.int .i64 0)))⟩])
 (.seq (.seq (.ops [] [⟨some 4, none, .mv (.k (.d (.int .i64 0)))⟩])
 (.block 0 (.loop 21 [0, 3, 4] (.seq (.seq (.ops [] [⟨some 5, none, .mv (.t 4)⟩,
 ⟨some 6, none, .mv (.t 0)⟩,
 ⟨some 7, none, .len 1 (.t 6)⟩,
 ⟨some 8, none, .bin .lss (.t 5) (.t 7)⟩])
 (.cond (.t 8) (.skip)
 (.exit 0)))
 (.seq (.block 1 (.ops [] [⟨some 11, none, .mv (.t 3)⟩,
 ⟨some 12, none, .bin .add (.t 11) (.k (.d (.int .i64 1)))⟩,
 ⟨some 13, none, .mv (.t 0)⟩,
 ⟨some 14, none, .mv (.t 4)⟩,
 ⟨some 15, none, .ia 3 true (.t 13) (.t 14)⟩,
 ⟨some 16, none, .fa 2 1 false (.t 15)⟩,
 ⟨some 17, none, .ld false 1 (.t 16)⟩,
 ⟨some 18, none, .call 96 [.t 17]⟩,
 ⟨some 19, none, .bin .add (.t 12) (.t 18)⟩,
 ⟨some 3, none, .tk 19⟩]))
 (.ops [] [⟨some 9, none, .mv (.t 4)⟩,
 ⟨some 10, none, .bin .add (.t 9) (.k (.d (.int .i64 1)))⟩,
 ⟨some 4, none, .tk 10⟩]))))))
 (.seq (.ops [] [⟨some 20, none, .tk 3⟩,
 ⟨some 2, none, .tk 20⟩])
 (.ret))))⟩
theorem c96 : sp 96 = some (.code F96) := by kernel_rfl

/-- tenet/tenetref15.absurd -/
def F98 : AFunc := ⟨24, [.tmp 2],
 .seq (.ops [] [⟨some 2, none, .mv (.k (.d (.bool false)))⟩])
 (.seq (.seq (.ops [] [⟨some 3, none, .mv (.k (.d (.int .i64 0)))⟩])
 (.block 0 (.loop 24 [0, 3] (.seq (.seq (.ops [] [⟨some 4, none, .mv (.t 3)⟩,
 ⟨some 5, none, .mv (.t 0)⟩,
 ⟨some 6, none, .len 1 (.t 5)⟩,
 ⟨some 7, none, .bin .lss (.t 4) (.t 6)⟩])
 (.cond (.t 7) (.skip)
 (.exit 0)))
 (.seq (.block 1 (.seq (.ops [] [⟨some 10, none, .mv (.t 0)⟩,
 ⟨some 11, none, .mv (.t 3)⟩,
 ⟨some 12, none, .ia 3 true (.t 10) (.t 11)⟩,
 ⟨some 13, none, .fa 0 1 false (.t 12)⟩,
 ⟨some 14, none, .ld false 1 (.t 13)⟩,
 ⟨some 15, none, .bin .eql (.t 14) (.k (.d (.int .i64 3)))⟩,
 ⟨some 16, none, .mv (.t 15)⟩,
 ⟨some 17, some (16, false), .mv (.t 0)⟩,
 ⟨some 18, some (16, false), .mv (.t 3)⟩,
 ⟨some 19, some (16, false), .ia 3 true (.t 17) (.t 18)⟩,
 ⟨some 20, some (16, false), .fa 2 1 false (.t 19)⟩,
 ⟨some 21, some (16, false), .ld false 1 (.t 20)⟩,
 ⟨some 22, some (16, false), .call 98 [.t 21]⟩,
 ⟨some 23, none, .pick (.t 16) (.k (.d (.bool true))) (.t 22)⟩])
 (.cond (.t 23) (.seq (.ops [] [⟨some 2, none, .mv (.k (.d (.bool true)))⟩])
 (.ret))
 (.skip))))
 (.ops [] [⟨some 8, none, .mv (.t 3)⟩,
 ⟨some 9, none, .bin .add (.t 8) (.k (.d (.int .i64 1)))⟩,
 ⟨some 3, none, .tk 9⟩]))))))
 (.seq (.ops [] [⟨some 2, none, .mv (.k (.d (.bool false)))⟩])
 (.ret)))⟩
theorem c98 : sp 98 = some (.code F98) := by kernel_rfl

/-- tenet/tenetref15.Nodes -/
def F99 : AFunc := ⟨21, [.tmp 2],
 .seq (.ops [] [⟨some 1, none, .box true 3 (.t 0)⟩,
 ⟨some 2, none, .mv (.k (.d (.int .i64 0)))⟩])
 (.seq (.ops [] [⟨some 3, none, .mv (.k (.d (.int .i64 1)))⟩])
 (.seq (.seq (.ops [] [⟨some 4, none, .mv (.k (.d (.int .i64 0)))⟩])
 (.block 0 (.loop 21 [1, 3, 4] (.seq (.seq (.ops [] [⟨some 5, none, .mv (.t 4)⟩,
 ⟨some 6, none, .fa 2 1 false (.t 1)⟩,
 ⟨some 7, none, .ld false 1 (.t 6)⟩,
 ⟨some 8, none, .len 1 (.t 7)⟩,
 ⟨some 9, none, .bin .lss (.t 5) (.t 8)⟩])
 (.cond (.t 9) (.skip)
 (.exit 0)))
 (.seq (.block 1 (.ops [] [⟨some 12, none, .mv (.t 3)⟩,
 ⟨some 13, none, .fa 2 1 false (.t 1)⟩,
 ⟨some 14, none, .ld false 1 (.t 13)⟩,
 ⟨some 15, none, .mv (.t 4)⟩,
 ⟨some 16, none, .ia 3 true (.t 14) (.t 15)⟩,
 ⟨some 17, none, .ld true 3 (.t 16)⟩,
 ⟨some 18, none, .call 99 [.t 17]⟩,
 ⟨some 19, none, .bin .add (.t 12) (.t 18)⟩,
 ⟨some 3, none, .tk 19⟩]))
 (.ops [] [⟨some 10, none, .mv (.t 4)⟩,
 ⟨some 11, none, .bin .add (.t 10) (.k (.d (.int .i64 1)))⟩,
 ⟨some 4, none, .tk 11⟩]))))))
 (.seq (.ops [] [⟨some 20, none, .tk 3⟩,
 ⟨some 2, none, .tk 20⟩])
 (.ret))))⟩
theorem c99 : sp 99 = some (.code F99) := by kernel_rfl

/-- tenet/tenetref15.open -/
def F150 : AFunc := ⟨11, [.tmp 2],
 .seq (.ops [] [⟨some 1, none, .box true 3 (.t 0)⟩,
 ⟨some 2, none, .mv (.k (.d (.bool false)))⟩])
 (.seq (.ops [] [⟨some 3, none, .fa 0 1 false (.t 1)⟩,
 ⟨some 4, none, .ld false 1 (.t 3)⟩,
 ⟨some 5, none, .bin .eql (.t 4) (.k (.d (.int .i64 1)))⟩,
 ⟨some 6, none, .mv (.t 5)⟩,
 ⟨some 7, some (6, false), .fa 0 1 false (.t 1)⟩,
 ⟨some 8, some (6, false), .ld false 1 (.t 7)⟩,
 ⟨some 9, some (6, false), .bin .eql (.t 8) (.k (.d (.int .i64 4)))⟩,
 ⟨some 10, none, .pick (.t 6) (.k (.d (.bool true))) (.t 9)⟩,
 ⟨some 2, none, .tk 10⟩])
 (.ret))⟩
theorem c150 : sp 150 = some (.code F150) := by kernel_rfl

/-- tenet/tenetref15.anything -/
def F87 : AFunc := ⟨0, [.reg 2],
 .seq (.ops [] [⟨some 2, none, .ralloc true [.d (.int .i64 0), .d (.str []), .nil 3]⟩])
 (.seq (.ops [] [⟨some 1, none, .build [.d (.int .i64 0), .d (.str []), .nil 3] [(0, 1, (.k (.d (.int .i64 1)))), (1, 1, (.k (.d (.str [95]))))]⟩,
 ⟨some 2, none, .rst 2 true 3 (.t 1)⟩])
 (.ret))⟩
theorem c87 : sp 87 = some (.code F87) := by kernel_rfl

/-- tenet/tenetref15.cased -/
def F141 : AFunc := ⟨18, [.tmp 2],
 .seq (.ops [] [⟨some 2, none, .mv (.k (.d (.bool false)))⟩])
 (.seq (.seq (.ops [] [⟨some 3, none, .mv (.k (.d (.int .i64 0)))⟩])
 (.block 0 (.loop 18 [0, 3] (.seq (.seq (.ops [] [⟨some 4, none, .mv (.t 3)⟩,
 ⟨some 5, none, .mv (.t 0)⟩,
 ⟨some 6, none, .len 1 (.t 5)⟩,
 ⟨some 7, none, .bin .lss (.t 4) (.t 6)⟩])
 (.cond (.t 7) (.skip)
 (.exit 0)))
 (.seq (.block 1 (.seq (.ops [] [⟨some 10, none, .mv (.t 0)⟩,
 ⟨some 11, none, .mv (.t 3)⟩,
 ⟨some 12, none, .ia 1 false (.t 10) (.t 11)⟩,
 ⟨some 13, none, .ld false 1 (.t 12)⟩,
 ⟨some 14, none, .ia 3 true (.t 13) (.k (.d (.int .i64 0)))⟩,
 ⟨some 15, none, .fa 0 1 false (.t 14)⟩,
 ⟨some 16, none, .ld false 1 (.t 15)⟩,
 ⟨some 17, none, .bin .eql (.t 16) (.k (.d (.int .i64 2)))⟩])
 (.cond (.t 17) (.seq (.ops [] [⟨some 2, none, .mv (.k (.d (.bool true)))⟩])
 (.ret))
 (.skip))))
 (.ops [] [⟨some 8, none, .mv (.t 3)⟩,
 ⟨some 9, none, .bin .add (.t 8) (.k (.d (.int .i64 1)))⟩,
 ⟨some 3, none, .tk 9⟩]))))))
 (.seq (.ops [] [⟨some 2, none, .mv (.k (.d (.bool false)))⟩])
 (.ret)))⟩
theorem c141 : sp 141 = some (.code F141) := by kernel_rfl

/-- tenet/tenetref15.rest -/
def F142 : AFunc := ⟨20, [.tmp 2],
 .seq (.ops [] [⟨some 2, none, .mv (.k (.nil 1))⟩])
 (.seq (.ops [] [⟨some 3, none, .mv (.k (.nil 1))⟩])
 (.seq (.seq (.ops [] [⟨some 4, none, .mv (.k (.d (.int .i64 0)))⟩])
 (.block 0 (.loop 20 [0, 3, 4] (.seq (.seq (.ops [] [⟨some 5, none, .mv (.t 4)⟩,
 ⟨some 6, none, .mv (.t 0)⟩,
 ⟨some 7, none, .len 1 (.t 6)⟩,
 ⟨some 8, none, .bin .lss (.t 5) (.t 7)⟩])
 (.cond (.t 8) (.skip)
 (.exit 0)))
 (.seq (.block 1 (.ops [] [⟨some 11, none, .tk 3⟩,
 ⟨some 12, none, .mv (.t 0)⟩,
 ⟨some 13, none, .mv (.t 4)⟩,
 ⟨some 14, none, .ia 1 false (.t 12) (.t 13)⟩,
 ⟨some 15, none, .ld false 1 (.t 14)⟩,
 ⟨some 16, none, .slice 3 (.t 15) (some (.k (.d (.int .i64 1)))) none none⟩,
 ⟨some 17, none, .lit 1 [.t 16]⟩,
 ⟨some 18, none, .app 1 (.t 11) (.t 17)⟩,
 ⟨some 3, none, .tk 18⟩]))
 (.ops [] [⟨some 9, none, .mv (.t 4)⟩,
 ⟨some 10, none, .bin .add (.t 9) (.k (.d (.int .i64 1)))⟩,
 ⟨some 4, none, .tk 10⟩]))))))
 (.seq (.ops [] [⟨some 19, none, .tk 3⟩,
 ⟨some 2, none, .tk 19⟩])
 (.ret))))⟩
theorem c142 : sp 142 = some (.code F142) := by kernel_rfl

/-- tenet/tenetref15.live -/
def F143 : AFunc := ⟨25, [.tmp 2],
 .seq (.ops [] [⟨some 2, none, .mv (.k (.nil 1))⟩])
 (.seq (.ops [] [⟨some 3, none, .mv (.k (.nil 1))⟩])
 (.seq (.seq (.ops [] [⟨some 4, none, .mv (.k (.d (.int .i64 0)))⟩])
 (.block 0 (.loop 25 [0, 3, 4] (.seq (.seq (.ops [] [⟨some 5, none, .mv (.t 4)⟩,
 ⟨some 6, none, .mv (.t 0)⟩,
 ⟨some 7, none, .len 1 (.t 6)⟩,
 ⟨some 8, none, .bin .lss (.t 5) (.t 7)⟩])
 (.cond (.t 8) (.skip)
 (.exit 0)))
 (.seq (.block 1 (.seq (.ops [] [⟨some 11, none, .mv (.t 0)⟩,
 ⟨some 12, none, .mv (.t 4)⟩,
 ⟨some 13, none, .ia 1 false (.t 11) (.t 12)⟩,
 ⟨some 14, none, .ld false 1 (.t 13)⟩,
 ⟨some 15, none, .call 98 [.t 14]⟩,
 ⟨some 16, none, .not (.t 15)⟩])
 (.cond (.t 16) (.ops [] [⟨some 17, none, .tk 3⟩,
 ⟨some 18, none, .mv (.t 0)⟩,
 ⟨some 19, none, .mv (.t 4)⟩,
 ⟨some 20, none, .ia 1 false (.t 18) (.t 19)⟩,
 ⟨some 21, none, .ld false 1 (.t 20)⟩,
 ⟨some 22, none, .lit 1 [.t 21]⟩,
 ⟨some 23, none, .app 1 (.t 17) (.t 22)⟩,
 ⟨some 3, none, .tk 23⟩])
 (.skip))))
 (.ops [] [⟨some 9, none, .mv (.t 4)⟩,
 ⟨some 10, none, .bin .add (.t 9) (.k (.d (.int .i64 1)))⟩,
 ⟨some 4, none, .tk 10⟩]))))))
 (.seq (.ops [] [⟨some 24, none, .tk 3⟩,
 ⟨some 2, none, .tk 24⟩])
 (.ret))))⟩
theorem c143 : sp 143 = some (.code F143) := by kernel_rfl

/-- tenet/tenetref15.joined -/
def F140 : AFunc := ⟨11, [.tmp 4],
 .seq (.ops [] [⟨some 4, none, .mv (.k (.nil 1))⟩])
 (.seq (.ops [] [⟨some 5, none, .lit 1 []⟩,
 ⟨some 6, none, .mv (.t 0)⟩,
 ⟨some 7, none, .app 1 (.t 5) (.t 6)⟩,
 ⟨some 8, none, .mv (.t 1)⟩,
 ⟨some 9, none, .slice 1 (.t 8) (some (.k (.d (.int .i64 1)))) none none⟩,
 ⟨some 10, none, .app 1 (.t 7) (.t 9)⟩,
 ⟨some 4, none, .tk 10⟩])
 (.ret))⟩
theorem c140 : sp 140 = some (.code F140) := by kernel_rfl

/-- tenet/tenetref15.has -/
def F138 : AFunc := ⟨19, [.tmp 4],
 .seq (.ops [] [⟨some 2, none, .box true 2 (.t 0)⟩,
 ⟨some 4, none, .mv (.k (.d (.bool false)))⟩])
 (.seq (.seq (.ops [] [⟨some 5, none, .mv (.k (.d (.int .i64 0)))⟩])
 (.block 0 (.loop 19 [1, 2, 5] (.seq (.seq (.ops [] [⟨some 6, none, .mv (.t 5)⟩,
 ⟨some 7, none, .mv (.t 1)⟩,
 ⟨some 8, none, .len 1 (.t 7)⟩,
 ⟨some 9, none, .bin .lss (.t 6) (.t 8)⟩])
 (.cond (.t 9) (.skip)
 (.exit 0)))
 (.seq (.block 1 (.seq (.ops [] [⟨some 12, none, .ld true 2 (.t 2)⟩,
 ⟨some 13, none, .mv (.t 1)⟩,
 ⟨some 14, none, .mv (.t 5)⟩,
 ⟨some 15, none, .ia 1 false (.t 13) (.t 14)⟩,
 ⟨some 16, none, .ld false 1 (.t 15)⟩,
 ⟨some 17, none, .call 58 [.t 12, .t 16]⟩,
 ⟨some 18, none, .not (.t 17)⟩])
 (.cond (.t 18) (.seq (.ops [] [⟨some 4, none, .mv (.k (.d (.bool false)))⟩])
 (.ret))
 (.skip))))
 (.ops [] [⟨some 10, none, .mv (.t 5)⟩,
 ⟨some 11, none, .bin .add (.t 10) (.k (.d (.int .i64 1)))⟩,
 ⟨some 5, none, .tk 11⟩]))))))
 (.seq (.ops [] [⟨some 4, none, .mv (.k (.d (.bool true)))⟩])
 (.ret)))⟩
theorem c138 : sp 138 = some (.code F138) := by kernel_rfl

/-- tenet/tenetref15.rowsOf -/
def F89 : AFunc := ⟨23, [.tmp 4],
 .seq (.ops [] [⟨some 2, none, .box true 4 (.t 0)⟩,
 ⟨some 4, none, .mv (.k (.nil 1))⟩])
 (.seq (.ops [] [⟨some 5, none, .mv (.k (.nil 1))⟩])
 (.seq (.seq (.ops [] [⟨some 6, none, .mv (.k (.d (.int .i64 0)))⟩])
 (.block 0 (.loop 23 [1, 2, 5, 6] (.seq (.seq (.ops [] [⟨some 7, none, .mv (.t 6)⟩,
 ⟨some 8, none, .mv (.t 1)⟩,
 ⟨some 9, none, .bin .lss (.t 7) (.t 8)⟩])
 (.cond (.t 9) (.skip)
 (.exit 0)))
 (.seq (.block 1 (.ops [] [⟨some 12, none, .tk 5⟩,
 ⟨some 13, none, .fa 3 1 false (.t 2)⟩,
 ⟨some 14, none, .ld false 1 (.t 13)⟩,
 ⟨some 15, none, .mv (.t 6)⟩,
 ⟨some 16, none, .ia 5 true (.t 14) (.t 15)⟩,
 ⟨some 17, none, .fa 0 1 false (.t 16)⟩,
 ⟨some 18, none, .ld false 1 (.t 17)⟩,
 ⟨some 19, none, .lit 1 [.t 18]⟩,
 ⟨some 20, none, .app 1 (.t 12) (.t 19)⟩,
 ⟨some 5, none, .tk 20⟩]))
 (.ops [] [⟨some 10, none, .mv (.t 6)⟩,
 ⟨some 11, none, .bin .add (.t 10) (.k (.d (.int .i64 1)))⟩,
 ⟨some 6, none, .tk 11⟩]))))))
 (.seq (.ops [] [⟨some 21, none, .mv (.t 5)⟩,
 ⟨some 22, none, .call 143 [.t 21]⟩,
 ⟨some 4, none, .tk 22⟩])
 (.ret))))⟩
theorem c89 : sp 89 = some (.code F89) := by kernel_rfl

/-- tenet/tenetref15.narrow -/
def F139 : AFunc := ⟨59, [.tmp 6],
 .seq (.ops [] [⟨some 6, none, .mv (.k (.nil 1))⟩])
 (.seq (.ops [] [⟨some 7, none, .mv (.k (.nil 1))⟩])
 (.seq (.seq (.ops [] [⟨some 8, none, .mv (.k (.d (.int .i64 0)))⟩])
 (.block 0 (.loop 59 [0, 1, 2, 7, 8] (.seq (.seq (.ops [] [⟨some 12, none, .mv (.t 8)⟩,
 ⟨some 13, none, .mv (.t 0)⟩,
 ⟨some 14, none, .len 1 (.t 13)⟩,
 ⟨some 15, none, .bin .lss (.t 12) (.t 14)⟩])
 (.cond (.t 15) (.skip)
 (.exit 0)))
 (.seq (.block 1 (.seq (.ops [] [⟨some 18, none, .mv (.t 0)⟩,
 ⟨some 19, none, .mv (.t 8)⟩,
 ⟨some 20, none, .ia 1 false (.t 18) (.t 19)⟩,
 ⟨some 21, none, .ld false 1 (.t 20)⟩,
 ⟨some 22, none, .ia 3 true (.t 21) (.k (.d (.int .i64 0)))⟩,
 ⟨some 23, none, .ld true 3 (.t 22)⟩,
 ⟨some 9, none, .alloc true [.d (.int .i64 0), .d (.str []), .nil 3]⟩,
 ⟨none, none, .st true 3 (.t 9) (.t 23)⟩])
 (.seq (.ops [] [⟨some 10, none, .mv (.k (.nil 3))⟩])
 (.seq (.seq (.ops [] [⟨some 24, none, .ld true 3 (.t 9)⟩,
 ⟨some 25, none, .call 150 [.t 24]⟩])
 (.cond (.t 25) (.seq (.ops [] [⟨some 11, none, .mv (.k (.d (.int .i64 0)))⟩])
 (.block 2 (.loop 59 [0, 1, 2, 7, 8, 10, 11] (.seq (.seq (.ops [] [⟨some 26, none, .mv (.t 11)⟩,
 ⟨some 27, none, .mv (.t 2)⟩,
 ⟨some 28, none, .bin .lss (.t 26) (.t 27)⟩])
 (.cond (.t 28) (.skip)
 (.exit 2)))
 (.seq (.block 3 (.ops [] [⟨some 31, none, .tk 10⟩,
 ⟨some 32, none, .call 87 []⟩,
 ⟨some 33, none, .lit 3 [.t 32]⟩,
 ⟨some 34, none, .app 3 (.t 31) (.t 33)⟩,
 ⟨some 10, none, .tk 34⟩]))
 (.ops [] [⟨some 29, none, .mv (.t 11)⟩,
 ⟨some 30, none, .bin .add (.t 29) (.k (.d (.int .i64 1)))⟩,
 ⟨some 11, none, .tk 30⟩]))))))
 (.seq (.ops [] [⟨some 35, none, .fa 0 1 false (.t 9)⟩,
 ⟨some 36, none, .ld false 1 (.t 35)⟩,
 ⟨some 37, none, .bin .eql (.t 36) (.k (.d (.int .i64 2)))⟩,
 ⟨some 38, none, .mv (.t 37)⟩,
 ⟨some 39, some (38, true), .fa 1 1 false (.t 9)⟩,
 ⟨some 40, some (38, true), .ld false 1 (.t 39)⟩,
 ⟨some 41, some (38, true), .mv (.t 1)⟩,
 ⟨some 42, some (38, true), .bin .eql (.t 40) (.t 41)⟩,
 ⟨some 43, none, .pick (.t 38) (.t 42) (.k (.d (.bool false)))⟩])
 (.cond (.t 43) (.ops [] [⟨some 44, none, .tk 10⟩,
 ⟨some 45, none, .fa 2 1 false (.t 9)⟩,
 ⟨some 46, none, .ld false 1 (.t 45)⟩,
 ⟨some 47, none, .app 3 (.t 44) (.t 46)⟩,
 ⟨some 10, none, .tk 47⟩])
 (.exit 1)))))
 (.ops [] [⟨some 48, none, .tk 7⟩,
 ⟨some 49, none, .tk 10⟩,
 ⟨some 50, none, .mv (.t 0)⟩,
 ⟨some 51, none, .mv (.t 8)⟩,
 ⟨some 52, none, .ia 1 false (.t 50) (.t 51)⟩,
 ⟨some 53, none, .ld false 1 (.t 52)⟩,
 ⟨some 54, none, .slice 3 (.t 53) (some (.k (.d (.int .i64 1)))) none none⟩,
 ⟨some 55, none, .app 3 (.t 49) (.t 54)⟩,
 ⟨some 56, none, .lit 1 [.t 55]⟩,
 ⟨some 57, none, .app 1 (.t 48) (.t 56)⟩,
 ⟨some 7, none, .tk 57⟩])))))
 (.ops [] [⟨some 16, none, .mv (.t 8)⟩,
 ⟨some 17, none, .bin .add (.t 16) (.k (.d (.int .i64 1)))⟩,
 ⟨some 8, none, .tk 17⟩]))))))
 (.seq (.ops [] [⟨some 58, none, .tk 7⟩,
 ⟨some 6, none, .tk 58⟩])
 (.ret))))⟩
theorem c139 : sp 139 = some (.code F139) := by kernel_rfl

/-- tenet/tenetref15.vars -/
def F120 : AFunc := ⟨69, [.tmp 8],
 .seq (.ops [] [⟨some 4, none, .box true 2 (.t 0)⟩,
 ⟨some 5, none, .box true 3 (.t 1)⟩,
 ⟨some 8, none, .mv (.k (.nil 2))⟩])
 (.seq (.seq (.ops [] [⟨some 12, none, .fa 0 1 false (.t 5)⟩,
 ⟨some 13, none, .ld false 1 (.t 12)⟩,
 ⟨some 14, none, .bin .eql (.t 13) (.k (.d (.int .i64 1)))⟩,
 ⟨some 15, none, .mv (.t 14)⟩,
 ⟨some 16, some (15, true), .fa 1 1 false (.t 5)⟩,
 ⟨some 17, some (15, true), .ld false 1 (.t 16)⟩,
 ⟨some 18, some (15, true), .bin .neq (.t 17) (.k (.d (.str [95])))⟩,
 ⟨some 19, none, .pick (.t 15) (.t 18) (.k (.d (.bool false)))⟩])
 (.cond (.t 19) (.seq (.ops [] [⟨some 20, none, .tk 3⟩,
 ⟨some 21, none, .fa 1 1 false (.t 5)⟩,
 ⟨some 22, none, .ld false 1 (.t 21)⟩,
 ⟨some 23, none, .mv (.t 2)⟩,
 ⟨some 24, none, .build [.d (.str []), .d (.str [])] [(0, 1, (.t 22)), (1, 1, (.t 23))]⟩,
 ⟨some 25, none, .lit 2 [.t 24]⟩,
 ⟨some 26, none, .app 2 (.t 20) (.t 25)⟩,
 ⟨some 8, none, .tk 26⟩])
 (.ret))
 (.skip)))
 (.seq (.ops [] [⟨some 28, none, .ld true 2 (.t 4)⟩,
 ⟨some 29, none, .mv (.t 2)⟩,
 ⟨some 30, none, .fa 1 1 false (.t 5)⟩,
 ⟨some 31, none, .ld false 1 (.t 30)⟩,
 ⟨some 32, none, .call 90 [.t 28, .t 29, .t 31]⟩,
 ⟨some 27, none, .mv (.t 32)⟩,
 ⟨some 33, none, .ext (.t 27) 0⟩,
 ⟨some 34, none, .ext (.t 27) 1⟩,
 ⟨some 9, none, .tk 33⟩,
 ⟨some 10, none, .tk 34⟩])
 (.seq (.seq (.ops [] [⟨some 11, none, .mv (.k (.d (.int .i64 0)))⟩])
 (.block 0 (.loop 69 [3, 4, 5, 9, 10, 11] (.seq (.seq (.ops [] [⟨some 35, none, .fa 0 1 false (.t 5)⟩,
 ⟨some 36, none, .ld false 1 (.t 35)⟩,
 ⟨some 37, none, .bin .eql (.t 36) (.k (.d (.int .i64 2)))⟩,
 ⟨some 38, none, .mv (.t 37)⟩,
 ⟨some 39, some (38, true), .mv (.t 10)⟩,
 ⟨some 40, none, .pick (.t 38) (.t 39) (.k (.d (.bool false)))⟩,
 ⟨some 41, none, .mv (.t 40)⟩,
 ⟨some 42, some (41, true), .mv (.t 11)⟩,
 ⟨some 43, some (41, true), .fa 2 1 false (.t 5)⟩,
 ⟨some 44, some (41, true), .ld false 1 (.t 43)⟩,
 ⟨some 45, some (41, true), .len 1 (.t 44)⟩,
 ⟨some 46, some (41, true), .bin .lss (.t 42) (.t 45)⟩,
 ⟨some 47, none, .pick (.t 41) (.t 46) (.k (.d (.bool false)))⟩,
 ⟨some 48, none, .mv (.t 47)⟩,
 ⟨some 49, some (48, true), .mv (.t 11)⟩,
 ⟨some 50, some (48, true), .mv (.t 9)⟩,
 ⟨some 51, some (48, true), .len 1 (.t 50)⟩,
 ⟨some 52, some (48, true), .bin .lss (.t 49) (.t 51)⟩,
 ⟨some 53, none, .pick (.t 48) (.t 52) (.k (.d (.bool false)))⟩])
 (.cond (.t 53) (.skip)
 (.exit 0)))
 (.seq (.block 1 (.ops [] [⟨some 56, none, .ld true 2 (.t 4)⟩,
 ⟨some 57, none, .fa 2 1 false (.t 5)⟩,
 ⟨some 58, none, .ld false 1 (.t 57)⟩,
 ⟨some 59, none, .mv (.t 11)⟩,
 ⟨some 60, none, .ia 3 true (.t 58) (.t 59)⟩,
 ⟨some 61, none, .ld true 3 (.t 60)⟩,
 ⟨some 62, none, .mv (.t 9)⟩,
 ⟨some 63, none, .mv (.t 11)⟩,
 ⟨some 64, none, .ia 1 false (.t 62) (.t 63)⟩,
 ⟨some 65, none, .ld false 1 (.t 64)⟩,
 ⟨some 66, none, .tk 3⟩,
 ⟨some 67, none, .callS 120 [.t 56, .t 61, .t 65, .t 66]⟩,
 ⟨some 3, none, .tk 67⟩]))
 (.ops [] [⟨some 54, none, .mv (.t 11)⟩,
 ⟨some 55, none, .bin .add (.t 54) (.k (.d (.int .i64 1)))⟩,
 ⟨some 11, none, .tk 55⟩]))))))
 (.seq (.ops [] [⟨some 68, none, .tk 3⟩,
 ⟨some 8, none, .tk 68⟩])
 (.ret)))))⟩
theorem c120 : sp 120 = some (.code F120) := by kernel_rfl

/-- tenet/tenetref15.fits -/
def F97 : AFunc := ⟨99, [.tmp 8],
 .seq (.ops [] [⟨some 4, none, .box true 2 (.t 0)⟩,
 ⟨some 5, none, .box true 3 (.t 1)⟩,
 ⟨some 8, none, .mv (.k (.d (.bool false)))⟩])
 (.seq (.seq (.ops [] [⟨some 12, none, .fa 0 1 false (.t 5)⟩,
 ⟨some 13, none, .ld false 1 (.t 12)⟩])
 (.block 0 (.seq (.ops [] [⟨some 15, none, .bin .eql (.t 13) (.k (.d (.int .i64 1)))⟩,
 ⟨some 14, none, .tk 15⟩])
 (.cond (.t 14) (.seq (.ops [] [⟨some 16, none, .fa 1 1 false (.t 5)⟩,
 ⟨some 17, none, .ld false 1 (.t 16)⟩,
 ⟨some 18, none, .bin .eql (.t 17) (.k (.d (.str [95])))⟩,
 ⟨some 19, none, .mv (.t 18)⟩,
 ⟨some 20, some (19, false), .fa 1 1 false (.t 5)⟩,
 ⟨some 21, some (19, false), .ld false 1 (.t 20)⟩,
 ⟨some 22, some (19, false), .call 95 [.t 21]⟩,
 ⟨some 23, none, .pick (.t 19) (.k (.d (.bool true))) (.t 22)⟩,
 ⟨some 24, none, .mv (.t 23)⟩,
 ⟨some 25, some (24, true), .fa 2 1 false (.t 5)⟩,
 ⟨some 26, some (24, true), .ld false 1 (.t 25)⟩,
 ⟨some 27, some (24, true), .len 1 (.t 26)⟩,
 ⟨some 28, some (24, true), .bin .eql (.t 27) (.k (.d (.int .i64 0)))⟩,
 ⟨some 29, none, .pick (.t 24) (.t 28) (.k (.d (.bool false)))⟩,
 ⟨some 8, none, .tk 29⟩])
 (.ret))
 (.seq (.ops [] [⟨some 31, none, .bin .eql (.t 13) (.k (.d (.int .i64 4)))⟩,
 ⟨some 30, none, .tk 31⟩])
 (.cond (.t 30) (.seq (.ops [] [⟨some 32, none, .fa 1 1 false (.t 5)⟩,
 ⟨some 33, none, .ld false 1 (.t 32)⟩,
 ⟨some 34, none, .bin .neq (.t 33) (.k (.d (.str [95])))⟩,
 ⟨some 35, none, .mv (.t 34)⟩,
 ⟨some 36, some (35, true), .mv (.t 3)⟩,
 ⟨some 37, some (35, true), .fa 1 1 false (.t 5)⟩,
 ⟨some 38, some (35, true), .ld false 1 (.t 37)⟩,
 ⟨some 39, some (35, true), .call 148 [.t 36, .t 38]⟩,
 ⟨some 40, some (35, true), .mv (.t 2)⟩,
 ⟨some 41, some (35, true), .bin .eql (.t 39) (.t 40)⟩,
 ⟨some 42, none, .pick (.t 35) (.t 41) (.k (.d (.bool false)))⟩,
 ⟨some 43, none, .mv (.t 42)⟩,
 ⟨some 44, some (43, true), .fa 2 1 false (.t 5)⟩,
 ⟨some 45, some (43, true), .ld false 1 (.t 44)⟩,
 ⟨some 46, some (43, true), .len 1 (.t 45)⟩,
 ⟨some 47, some (43, true), .bin .eql (.t 46) (.k (.d (.int .i64 0)))⟩,
 ⟨some 48, none, .pick (.t 43) (.t 47) (.k (.d (.bool false)))⟩,
 ⟨some 8, none, .tk 48⟩])
 (.ret))
 (.seq (.ops [] [⟨some 50, none, .bin .eql (.t 13) (.k (.d (.int .i64 3)))⟩,
 ⟨some 49, none, .tk 50⟩])
 (.cond (.t 49) (.seq (.ops [] [⟨some 51, none, .fa 1 1 false (.t 5)⟩,
 ⟨some 52, none, .ld false 1 (.t 51)⟩,
 ⟨some 53, none, .bin .eql (.t 52) (.k (.d (.str [])))⟩,
 ⟨some 54, none, .mv (.t 53)⟩,
 ⟨some 55, some (54, true), .fa 2 1 false (.t 5)⟩,
 ⟨some 56, some (54, true), .ld false 1 (.t 55)⟩,
 ⟨some 57, some (54, true), .len 1 (.t 56)⟩,
 ⟨some 58, some (54, true), .bin .eql (.t 57) (.k (.d (.int .i64 0)))⟩,
 ⟨some 59, none, .pick (.t 54) (.t 58) (.k (.d (.bool false)))⟩,
 ⟨some 8, none, .tk 59⟩])
 (.ret))
 (.seq (.ops [] [⟨some 61, none, .bin .eql (.t 13) (.k (.d (.int .i64 2)))⟩,
 ⟨some 60, none, .tk 61⟩])
 (.cond (.t 60) (.seq (.ops [] [⟨some 63, none, .ld true 2 (.t 4)⟩,
 ⟨some 64, none, .mv (.t 2)⟩,
 ⟨some 65, none, .fa 1 1 false (.t 5)⟩,
 ⟨some 66, none, .ld false 1 (.t 65)⟩,
 ⟨some 67, none, .call 90 [.t 63, .t 64, .t 66]⟩,
 ⟨some 62, none, .mv (.t 67)⟩,
 ⟨some 68, none, .ext (.t 62) 0⟩,
 ⟨some 69, none, .ext (.t 62) 1⟩,
 ⟨some 9, none, .tk 68⟩,
 ⟨some 10, none, .tk 69⟩])
 (.seq (.seq (.ops [] [⟨some 70, none, .mv (.t 10)⟩,
 ⟨some 71, none, .not (.t 70)⟩,
 ⟨some 72, none, .mv (.t 71)⟩,
 ⟨some 73, some (72, false), .mv (.t 9)⟩,
 ⟨some 74, some (72, false), .len 1 (.t 73)⟩,
 ⟨some 75, some (72, false), .fa 2 1 false (.t 5)⟩,
 ⟨some 76, some (72, false), .ld false 1 (.t 75)⟩,
 ⟨some 77, some (72, false), .len 1 (.t 76)⟩,
 ⟨some 78, some (72, false), .bin .neq (.t 74) (.t 77)⟩,
 ⟨some 79, none, .pick (.t 72) (.k (.d (.bool true))) (.t 78)⟩])
 (.cond (.t 79) (.seq (.ops [] [⟨some 8, none, .mv (.k (.d (.bool false)))⟩])
 (.ret))
 (.skip)))
 (.seq (.seq (.ops [] [⟨some 11, none, .mv (.k (.d (.int .i64 0)))⟩])
 (.block 1 (.loop 99 [3, 4, 5, 9, 11] (.seq (.seq (.ops [] [⟨some 80, none, .mv (.t 11)⟩,
 ⟨some 81, none, .mv (.t 9)⟩,
 ⟨some 82, none, .len 1 (.t 81)⟩,
 ⟨some 83, none, .bin .lss (.t 80) (.t 82)⟩])
 (.cond (.t 83) (.skip)
 (.exit 1)))
 (.seq (.block 2 (.seq (.ops [] [⟨some 86, none, .ld true 2 (.t 4)⟩,
 ⟨some 87, none, .fa 2 1 false (.t 5)⟩,
 ⟨some 88, none, .ld false 1 (.t 87)⟩,
 ⟨some 89, none, .mv (.t 11)⟩,
 ⟨some 90, none, .ia 3 true (.t 88) (.t 89)⟩,
 ⟨some 91, none, .ld true 3 (.t 90)⟩,
 ⟨some 92, none, .mv (.t 9)⟩,
 ⟨some 93, none, .mv (.t 11)⟩,
 ⟨some 94, none, .ia 1 false (.t 92) (.t 93)⟩,
 ⟨some 95, none, .ld false 1 (.t 94)⟩,
 ⟨some 96, none, .mv (.t 3)⟩,
 ⟨some 97, none, .call 97 [.t 86, .t 91, .t 95, .t 96]⟩,
 ⟨some 98, none, .not (.t 97)⟩])
 (.cond (.t 98) (.seq (.ops [] [⟨some 8, none, .mv (.k (.d (.bool false)))⟩])
 (.ret))
 (.skip))))
 (.ops [] [⟨some 84, none, .mv (.t 11)⟩,
 ⟨some 85, none, .bin .add (.t 84) (.k (.d (.int .i64 1)))⟩,
 ⟨some 11, none, .tk 85⟩]))))))
 (.seq (.ops [] [⟨some 8, none, .mv (.k (.d (.bool true)))⟩])
 (.ret)))))
 (.skip)))))))))))
 (.seq (.ops [] [⟨some 8, none, .mv (.k (.d (.bool false)))⟩])
 (.ret)))⟩
theorem c97 : sp 97 = some (.code F97) := by kernel_rfl

/-- tenet/tenetref15.typed -/
def F100 : AFunc := ⟨97, [.tmp 8],
 .seq (.ops [] [⟨some 4, none, .box true 2 (.t 0)⟩,
 ⟨some 5, none, .box true 3 (.t 1)⟩,
 ⟨some 8, none, .mv (.k (.d (.bool false)))⟩])
 (.seq (.ops [] [⟨some 9, none, .mv (.k (.nil 1))⟩])
 (.seq (.seq (.ops [] [⟨some 14, none, .fa 0 1 false (.t 5)⟩,
 ⟨some 15, none, .ld false 1 (.t 14)⟩])
 (.block 0 (.seq (.ops [] [⟨some 17, none, .bin .eql (.t 15) (.k (.d (.int .i64 1)))⟩,
 ⟨some 16, none, .tk 17⟩])
 (.cond (.t 16) (.seq (.ops [] [⟨some 18, none, .fa 1 1 false (.t 5)⟩,
 ⟨some 19, none, .ld false 1 (.t 18)⟩,
 ⟨some 20, none, .bin .neq (.t 19) (.k (.d (.str [95])))⟩,
 ⟨some 21, none, .mv (.t 20)⟩,
 ⟨some 22, some (21, true), .mv (.t 3)⟩,
 ⟨some 23, some (21, true), .fa 1 1 false (.t 5)⟩,
 ⟨some 24, some (21, true), .ld false 1 (.t 23)⟩,
 ⟨some 25, some (21, true), .call 148 [.t 22, .t 24]⟩,
 ⟨some 26, some (21, true), .mv (.t 2)⟩,
 ⟨some 27, some (21, true), .bin .eql (.t 25) (.t 26)⟩,
 ⟨some 28, none, .pick (.t 21) (.t 27) (.k (.d (.bool false)))⟩,
 ⟨some 29, none, .mv (.t 28)⟩,
 ⟨some 30, some (29, true), .fa 2 1 false (.t 5)⟩,
 ⟨some 31, some (29, true), .ld false 1 (.t 30)⟩,
 ⟨some 32, some (29, true), .len 1 (.t 31)⟩,
 ⟨some 33, some (29, true), .bin .eql (.t 32) (.k (.d (.int .i64 0)))⟩,
 ⟨some 34, none, .pick (.t 29) (.t 33) (.k (.d (.bool false)))⟩,
 ⟨some 8, none, .tk 34⟩])
 (.ret))
 (.seq (.ops [] [⟨some 36, none, .bin .eql (.t 15) (.k (.d (.int .i64 2)))⟩,
 ⟨some 35, none, .tk 36⟩])
 (.cond (.t 35) (.seq (.ops [] [⟨some 38, none, .ld true 2 (.t 4)⟩,
 ⟨some 39, none, .mv (.t 2)⟩,
 ⟨some 40, none, .fa 1 1 false (.t 5)⟩,
 ⟨some 41, none, .ld false 1 (.t 40)⟩,
 ⟨some 42, none, .call 90 [.t 38, .t 39, .t 41]⟩,
 ⟨some 37, none, .mv (.t 42)⟩,
 ⟨some 43, none, .ext (.t 37) 0⟩,
 ⟨some 44, none, .ext (.t 37) 1⟩,
 ⟨some 10, none, .tk 43⟩,
 ⟨some 11, none, .tk 44⟩])
 (.seq (.seq (.ops [] [⟨some 45, none, .mv (.t 11)⟩,
 ⟨some 46, none, .not (.t 45)⟩])
 (.cond (.t 46) (.seq (.ops [] [⟨some 8, none, .mv (.k (.d (.bool false)))⟩])
 (.ret))
 (.skip)))
 (.ops [] [⟨some 47, none, .tk 10⟩,
 ⟨some 9, none, .tk 47⟩])))
 (.seq (.ops [] [⟨some 49, none, .bin .eql (.t 15) (.k (.d (.int .i64 3)))⟩,
 ⟨some 48, none, .tk 49⟩])
 (.cond (.t 48) (.seq (.ops [] [⟨some 50, none, .ld true 2 (.t 4)⟩,
 ⟨some 51, none, .fa 1 1 false (.t 5)⟩,
 ⟨some 52, none, .ld false 1 (.t 51)⟩,
 ⟨some 53, none, .call 45 [.t 50, .t 52]⟩,
 ⟨some 12, none, .tk 53⟩])
 (.seq (.seq (.ops [] [⟨some 54, none, .mv (.t 12)⟩,
 ⟨some 55, none, .bin .lss (.t 54) (.k (.d (.int .i64 0)))⟩,
 ⟨some 56, none, .mv (.t 55)⟩,
 ⟨some 57, some (56, false), .fa 1 1 false (.t 4)⟩,
 ⟨some 58, some (56, false), .ld false 1 (.t 57)⟩,
 ⟨some 59, some (56, false), .mv (.t 12)⟩,
 ⟨some 60, some (56, false), .ia 4 true (.t 58) (.t 59)⟩,
 ⟨some 61, some (56, false), .fa 2 1 false (.t 60)⟩,
 ⟨some 62, some (56, false), .ld false 1 (.t 61)⟩,
 ⟨some 63, some (56, false), .mv (.t 2)⟩,
 ⟨some 64, some (56, false), .bin .neq (.t 62) (.t 63)⟩,
 ⟨some 65, none, .pick (.t 56) (.k (.d (.bool true))) (.t 64)⟩])
 (.cond (.t 65) (.seq (.ops [] [⟨some 8, none, .mv (.k (.d (.bool false)))⟩])
 (.ret))
 (.skip)))
 (.ops [] [⟨some 66, none, .fa 1 1 false (.t 4)⟩,
 ⟨some 67, none, .ld false 1 (.t 66)⟩,
 ⟨some 68, none, .mv (.t 12)⟩,
 ⟨some 69, none, .ia 4 true (.t 67) (.t 68)⟩,
 ⟨some 70, none, .fa 1 1 false (.t 69)⟩,
 ⟨some 71, none, .ld false 1 (.t 70)⟩,
 ⟨some 9, none, .tk 71⟩])))
 (.seq (.ops [] [⟨some 8, none, .mv (.k (.d (.bool false)))⟩])
 (.ret))))))))))
 (.seq (.seq (.ops [] [⟨some 72, none, .mv (.t 9)⟩,
 ⟨some 73, none, .len 1 (.t 72)⟩,
 ⟨some 74, none, .fa 2 1 false (.t 5)⟩,
 ⟨some 75, none, .ld false 1 (.t 74)⟩,
 ⟨some 76, none, .len 1 (.t 75)⟩,
 ⟨some 77, none, .bin .neq (.t 73) (.t 76)⟩])
 (.cond (.t 77) (.seq (.ops [] [⟨some 8, none, .mv (.k (.d (.bool false)))⟩])
 (.ret))
 (.skip)))
 (.seq (.seq (.ops [] [⟨some 13, none, .mv (.k (.d (.int .i64 0)))⟩])
 (.block 1 (.loop 97 [3, 4, 5, 9, 13] (.seq (.seq (.ops [] [⟨some 78, none, .mv (.t 13)⟩,
 ⟨some 79, none, .mv (.t 9)⟩,
 ⟨some 80, none, .len 1 (.t 79)⟩,
 ⟨some 81, none, .bin .lss (.t 78) (.t 80)⟩])
 (.cond (.t 81) (.skip)
 (.exit 1)))
 (.seq (.block 2 (.seq (.ops [] [⟨some 84, none, .ld true 2 (.t 4)⟩,
 ⟨some 85, none, .fa 2 1 false (.t 5)⟩,
 ⟨some 86, none, .ld false 1 (.t 85)⟩,
 ⟨some 87, none, .mv (.t 13)⟩,
 ⟨some 88, none, .ia 3 true (.t 86) (.t 87)⟩,
 ⟨some 89, none, .ld true 3 (.t 88)⟩,
 ⟨some 90, none, .mv (.t 9)⟩,
 ⟨some 91, none, .mv (.t 13)⟩,
 ⟨some 92, none, .ia 1 false (.t 90) (.t 91)⟩,
 ⟨some 93, none, .ld false 1 (.t 92)⟩,
 ⟨some 94, none, .mv (.t 3)⟩,
 ⟨some 95, none, .call 100 [.t 84, .t 89, .t 93, .t 94]⟩,
 ⟨some 96, none, .not (.t 95)⟩])
 (.cond (.t 96) (.seq (.ops [] [⟨some 8, none, .mv (.k (.d (.bool false)))⟩])
 (.ret))
 (.skip))))
 (.ops [] [⟨some 82, none, .mv (.t 13)⟩,
 ⟨some 83, none, .bin .add (.t 82) (.k (.d (.int .i64 1)))⟩,
 ⟨some 13, none, .tk 83⟩]))))))
 (.seq (.ops [] [⟨some 8, none, .mv (.k (.d (.bool true)))⟩])
 (.ret))))))⟩
theorem c100 : sp 100 = some (.code F100) := by kernel_rfl

/-- tenet/tenetref15.clauseVars -/
def F68 : AFunc := ⟨37, [.tmp 6],
 .seq (.ops [] [⟨some 3, none, .box true 2 (.t 0)⟩,
 ⟨some 4, none, .box true 4 (.t 1)⟩,
 ⟨some 5, none, .box true 5 (.t 2)⟩,
 ⟨some 6, none, .mv (.k (.nil 2))⟩])
 (.seq (.ops [] [⟨some 7, none, .mv (.k (.nil 2))⟩])
 (.seq (.seq (.ops [] [⟨some 8, none, .mv (.k (.d (.int .i64 0)))⟩])
 (.block 0 (.loop 37 [3, 4, 5, 7, 8] (.seq (.seq (.ops [] [⟨some 9, none, .mv (.t 8)⟩,
 ⟨some 10, none, .fa 0 1 false (.t 5)⟩,
 ⟨some 11, none, .ld false 1 (.t 10)⟩,
 ⟨some 12, none, .len 1 (.t 11)⟩,
 ⟨some 13, none, .bin .lss (.t 9) (.t 12)⟩,
 ⟨some 14, none, .mv (.t 13)⟩,
 ⟨some 15, some (14, true), .mv (.t 8)⟩,
 ⟨some 16, some (14, true), .fa 1 1 false (.t 4)⟩,
 ⟨some 17, some (14, true), .ld false 1 (.t 16)⟩,
 ⟨some 18, some (14, true), .len 1 (.t 17)⟩,
 ⟨some 19, some (14, true), .bin .lss (.t 15) (.t 18)⟩,
 ⟨some 20, none, .pick (.t 14) (.t 19) (.k (.d (.bool false)))⟩])
 (.cond (.t 20) (.skip)
 (.exit 0)))
 (.seq (.block 1 (.ops [] [⟨some 23, none, .ld true 2 (.t 3)⟩,
 ⟨some 24, none, .fa 0 1 false (.t 5)⟩,
 ⟨some 25, none, .ld false 1 (.t 24)⟩,
 ⟨some 26, none, .mv (.t 8)⟩,
 ⟨some 27, none, .ia 3 true (.t 25) (.t 26)⟩,
 ⟨some 28, none, .ld true 3 (.t 27)⟩,
 ⟨some 29, none, .fa 1 1 false (.t 4)⟩,
 ⟨some 30, none, .ld false 1 (.t 29)⟩,
 ⟨some 31, none, .mv (.t 8)⟩,
 ⟨some 32, none, .ia 1 false (.t 30) (.t 31)⟩,
 ⟨some 33, none, .ld false 1 (.t 32)⟩,
 ⟨some 34, none, .tk 7⟩,
 ⟨some 35, none, .callS 120 [.t 23, .t 28, .t 33, .t 34]⟩,
 ⟨some 7, none, .tk 35⟩]))
 (.ops [] [⟨some 21, none, .mv (.t 8)⟩,
 ⟨some 22, none, .bin .add (.t 21) (.k (.d (.int .i64 1)))⟩,
 ⟨some 8, none, .tk 22⟩]))))))
 (.seq (.ops [] [⟨some 36, none, .tk 7⟩,
 ⟨some 6, none, .tk 36⟩])
 (.ret))))⟩
theorem c68 : sp 68 = some (.code F68) := by kernel_rfl

/-- tenet/tenetref15.formed -/
def F53 : AFunc := ⟨114, [.tmp 6],
 .seq (.ops [] [⟨some 3, none, .box true 2 (.t 0)⟩,
 ⟨some 4, none, .box true 4 (.t 1)⟩,
 ⟨some 5, none, .box true 5 (.t 2)⟩,
 ⟨some 6, none, .mv (.k (.d (.bool false)))⟩])
 (.seq (.seq (.ops [] [⟨some 11, none, .fa 0 1 false (.t 5)⟩,
 ⟨some 12, none, .ld false 1 (.t 11)⟩,
 ⟨some 13, none, .len 1 (.t 12)⟩,
 ⟨some 14, none, .fa 1 1 false (.t 4)⟩,
 ⟨some 15, none, .ld false 1 (.t 14)⟩,
 ⟨some 16, none, .len 1 (.t 15)⟩,
 ⟨some 17, none, .bin .neq (.t 13) (.t 16)⟩,
 ⟨some 18, none, .mv (.t 17)⟩,
 ⟨some 19, some (18, false), .fa 0 1 false (.t 5)⟩,
 ⟨some 20, some (18, false), .ld false 1 (.t 19)⟩,
 ⟨some 21, some (18, false), .call 96 [.t 20]⟩,
 ⟨some 22, some (18, false), .bin .gtr (.t 21) (.k (.d (.int .i64 40)))⟩,
 ⟨some 23, none, .pick (.t 18) (.k (.d (.bool true))) (.t 22)⟩])
 (.cond (.t 23) (.seq (.ops [] [⟨some 6, none, .mv (.k (.d (.bool false)))⟩])
 (.ret))
 (.skip)))
 (.seq (.ops [] [⟨some 24, none, .ld true 2 (.t 3)⟩,
 ⟨some 25, none, .ld true 4 (.t 4)⟩,
 ⟨some 26, none, .ld true 5 (.t 5)⟩,
 ⟨some 27, none, .call 68 [.t 24, .t 25, .t 26]⟩,
 ⟨some 7, none, .tk 27⟩])
 (.seq (.seq (.ops [] [⟨some 8, none, .mv (.k (.d (.int .i64 0)))⟩])
 (.block 0 (.loop 114 [3, 4, 5, 7, 8] (.seq (.seq (.ops [] [⟨some 28, none, .mv (.t 8)⟩,
 ⟨some 29, none, .mv (.t 7)⟩,
 ⟨some 30, none, .len 1 (.t 29)⟩,
 ⟨some 31, none, .bin .lss (.t 28) (.t 30)⟩])
 (.cond (.t 31) (.skip)
 (.exit 0)))
 (.seq (.block 1 (.seq (.ops [] [⟨some 9, none, .mv (.k (.d (.int .i64 0)))⟩])
 (.block 2 (.loop 114 [3, 4, 5, 7, 8, 9] (.seq (.seq (.ops [] [⟨some 34, none, .mv (.t 9)⟩,
 ⟨some 35, none, .mv (.t 8)⟩,
 ⟨some 36, none, .bin .lss (.t 34) (.t 35)⟩])
 (.cond (.t 36) (.skip)
 (.exit 2)))
 (.seq (.block 3 (.seq (.ops [] [⟨some 39, none, .mv (.t 7)⟩,
 ⟨some 40, none, .mv (.t 9)⟩,
 ⟨some 41, none, .ia 2 true (.t 39) (.t 40)⟩,
 ⟨some 42, none, .fa 0 1 false (.t 41)⟩,
 ⟨some 43, none, .ld false 1 (.t 42)⟩,
 ⟨some 44, none, .mv (.t 7)⟩,
 ⟨some 45, none, .mv (.t 8)⟩,
 ⟨some 46, none, .ia 2 true (.t 44) (.t 45)⟩,
 ⟨some 47, none, .fa 0 1 false (.t 46)⟩,
 ⟨some 48, none, .ld false 1 (.t 47)⟩,
 ⟨some 49, none, .bin .eql (.t 43) (.t 48)⟩])
 (.cond (.t 49) (.seq (.ops [] [⟨some 6, none, .mv (.k (.d (.bool false)))⟩])
 (.ret))
 (.skip))))
 (.ops [] [⟨some 37, none, .mv (.t 9)⟩,
 ⟨some 38, none, .bin .add (.t 37) (.k (.d (.int .i64 1)))⟩,
 ⟨some 9, none, .tk 38⟩])))))))
 (.ops [] [⟨some 32, none, .mv (.t 8)⟩,
 ⟨some 33, none, .bin .add (.t 32) (.k (.d (.int .i64 1)))⟩,
 ⟨some 8, none, .tk 33⟩]))))))
 (.seq (.seq (.ops [] [⟨some 10, none, .mv (.k (.d (.int .i64 0)))⟩])
 (.block 4 (.loop 114 [3, 4, 5, 7, 10] (.seq (.seq (.ops [] [⟨some 50, none, .mv (.t 10)⟩,
 ⟨some 51, none, .fa 0 1 false (.t 5)⟩,
 ⟨some 52, none, .ld false 1 (.t 51)⟩,
 ⟨some 53, none, .len 1 (.t 52)⟩,
 ⟨some 54, none, .bin .lss (.t 50) (.t 53)⟩])
 (.cond (.t 54) (.skip)
 (.exit 4)))
 (.seq (.block 5 (.seq (.ops [] [⟨some 57, none, .ld true 2 (.t 3)⟩,
 ⟨some 58, none, .fa 0 1 false (.t 5)⟩,
 ⟨some 59, none, .ld false 1 (.t 58)⟩,
 ⟨some 60, none, .mv (.t 10)⟩,
 ⟨some 61, none, .ia 3 true (.t 59) (.t 60)⟩,
 ⟨some 62, none, .ld true 3 (.t 61)⟩,
 ⟨some 63, none, .fa 1 1 false (.t 4)⟩,
 ⟨some 64, none, .ld false 1 (.t 63)⟩,
 ⟨some 65, none, .mv (.t 10)⟩,
 ⟨some 66, none, .ia 1 false (.t 64) (.t 65)⟩,
 ⟨some 67, none, .ld false 1 (.t 66)⟩,
 ⟨some 68, none, .mv (.t 7)⟩,
 ⟨some 69, none, .call 97 [.t 57, .t 62, .t 67, .t 68]⟩,
 ⟨some 70, none, .not (.t 69)⟩])
 (.cond (.t 70) (.seq (.ops [] [⟨some 6, none, .mv (.k (.d (.bool false)))⟩])
 (.ret))
 (.skip))))
 (.ops [] [⟨some 55, none, .mv (.t 10)⟩,
 ⟨some 56, none, .bin .add (.t 55) (.k (.d (.int .i64 1)))⟩,
 ⟨some 10, none, .tk 56⟩]))))))
 (.seq (.seq (.ops [] [⟨some 71, none, .fa 1 1 false (.t 5)⟩,
 ⟨some 72, none, .ld false 1 (.t 71)⟩])
 (.cond (.t 72) (.seq (.ops [] [⟨some 73, none, .fa 0 1 false (.t 5)⟩,
 ⟨some 74, none, .ld false 1 (.t 73)⟩,
 ⟨some 75, none, .call 98 [.t 74]⟩,
 ⟨some 76, none, .mv (.t 75)⟩,
 ⟨some 77, some (76, true), .fa 2 3 true (.t 5)⟩,
 ⟨some 78, some (76, true), .fa 0 1 false (.t 77)⟩,
 ⟨some 79, some (76, true), .ld false 1 (.t 78)⟩,
 ⟨some 80, some (76, true), .bin .eql (.t 79) (.k (.d (.int .i64 0)))⟩,
 ⟨some 81, none, .pick (.t 76) (.t 80) (.k (.d (.bool false)))⟩,
 ⟨some 82, none, .mv (.t 81)⟩,
 ⟨some 83, some (82, true), .fa 2 3 true (.t 5)⟩,
 ⟨some 84, some (82, true), .fa 1 1 false (.t 83)⟩,
 ⟨some 85, some (82, true), .ld false 1 (.t 84)⟩,
 ⟨some 86, some (82, true), .bin .eql (.t 85) (.k (.d (.str [])))⟩,
 ⟨some 87, none, .pick (.t 82) (.t 86) (.k (.d (.bool false)))⟩,
 ⟨some 88, none, .mv (.t 87)⟩,
 ⟨some 89, some (88, true), .fa 2 3 true (.t 5)⟩,
 ⟨some 90, some (88, true), .fa 2 1 false (.t 89)⟩,
 ⟨some 91, some (88, true), .ld false 1 (.t 90)⟩,
 ⟨some 92, some (88, true), .len 1 (.t 91)⟩,
 ⟨some 93, some (88, true), .bin .eql (.t 92) (.k (.d (.int .i64 0)))⟩,
 ⟨some 94, none, .pick (.t 88) (.t 93) (.k (.d (.bool false)))⟩,
 ⟨some 6, none, .tk 94⟩])
 (.ret))
 (.skip)))
 (.seq (.ops [] [⟨some 95, none, .fa 0 1 false (.t 5)⟩,
 ⟨some 96, none, .ld false 1 (.t 95)⟩,
 ⟨some 97, none, .call 98 [.t 96]⟩,
 ⟨some 98, none, .not (.t 97)⟩,
 ⟨some 99, none, .mv (.t 98)⟩,
 ⟨some 100, some (99, true), .fa 2 3 true (.t 5)⟩,
 ⟨some 101, some (99, true), .ld true 3 (.t 100)⟩,
 ⟨some 102, some (99, true), .call 99 [.t 101]⟩,
 ⟨some 103, some (99, true), .bin .leq (.t 102) (.k (.d (.int .i64 60)))⟩,
 ⟨some 104, none, .pick (.t 99) (.t 103) (.k (.d (.bool false)))⟩,
 ⟨some 105, none, .mv (.t 104)⟩,
 ⟨some 106, some (105, true), .ld true 2 (.t 3)⟩,
 ⟨some 107, some (105, true), .fa 2 3 true (.t 5)⟩,
 ⟨some 108, some (105, true), .ld true 3 (.t 107)⟩,
 ⟨some 109, some (105, true), .fa 2 1 false (.t 4)⟩,
 ⟨some 110, some (105, true), .ld false 1 (.t 109)⟩,
 ⟨some 111, some (105, true), .mv (.t 7)⟩,
 ⟨some 112, some (105, true), .call 100 [.t 106, .t 108, .t 110, .t 111]⟩,
 ⟨some 113, none, .pick (.t 105) (.t 112) (.k (.d (.bool false)))⟩,
 ⟨some 6, none, .tk 113⟩])
 (.ret)))))))⟩
theorem c53 : sp 53 = some (.code F53) := by kernel_rfl

/-- tenet/tenetref15.Lived -/
def F58 : AFunc := ⟨86, [.tmp 4],
 .seq (.ops [] [⟨some 2, none, .box true 2 (.t 0)⟩,
 ⟨some 4, none, .mv (.k (.d (.bool false)))⟩])
 (.seq (.ops [] [⟨some 5, none, .mv (.k (.nil 1))⟩])
 (.block 0 (.loop 86 [1, 2, 5] (.block 1 (.seq (.ops [] [⟨some 12, none, .mv (.t 5)⟩,
 ⟨some 13, none, .len 1 (.t 12)⟩,
 ⟨some 6, none, .tk 13⟩])
 (.seq (.seq (.ops [] [⟨some 7, none, .mv (.k (.d (.int .i64 0)))⟩])
 (.block 2 (.loop 86 [1, 2, 5, 6, 7] (.seq (.seq (.ops [] [⟨some 14, none, .mv (.t 7)⟩,
 ⟨some 15, none, .fa 0 1 false (.t 2)⟩,
 ⟨some 16, none, .ld false 1 (.t 15)⟩,
 ⟨some 17, none, .len 1 (.t 16)⟩,
 ⟨some 18, none, .bin .lss (.t 14) (.t 17)⟩])
 (.cond (.t 18) (.skip)
 (.exit 2)))
 (.seq (.block 3 (.seq (.ops [] [⟨some 21, none, .fa 0 1 false (.t 2)⟩,
 ⟨some 22, none, .ld false 1 (.t 21)⟩,
 ⟨some 23, none, .mv (.t 7)⟩,
 ⟨some 24, none, .ia 2 true (.t 22) (.t 23)⟩,
 ⟨some 25, none, .ld true 2 (.t 24)⟩,
 ⟨some 8, none, .alloc true [.d (.str []), .nil 2]⟩,
 ⟨none, none, .st true 2 (.t 8) (.t 25)⟩])
 (.seq (.seq (.ops [] [⟨some 26, none, .ld true 2 (.t 2)⟩,
 ⟨some 27, none, .fa 0 1 false (.t 8)⟩,
 ⟨some 28, none, .ld false 1 (.t 27)⟩,
 ⟨some 29, none, .call 52 [.t 26, .t 28]⟩,
 ⟨some 30, none, .mv (.t 7)⟩,
 ⟨some 31, none, .bin .neq (.t 29) (.t 30)⟩,
 ⟨some 32, none, .mv (.t 31)⟩,
 ⟨some 33, some (32, false), .mv (.t 5)⟩,
 ⟨some 34, some (32, false), .fa 0 1 false (.t 8)⟩,
 ⟨some 35, some (32, false), .ld false 1 (.t 34)⟩,
 ⟨some 36, some (32, false), .call 81 [.t 33, .t 35]⟩,
 ⟨some 37, some (32, false), .bin .geq (.t 36) (.k (.d (.int .i64 0)))⟩,
 ⟨some 38, none, .pick (.t 32) (.k (.d (.bool true))) (.t 37)⟩])
 (.cond (.t 38) (.exit 3)
 (.skip)))
 (.seq (.ops [] [⟨some 9, none, .mv (.k (.d (.int .i64 0)))⟩])
 (.block 4 (.loop 86 [1, 2, 5, 6, 7, 8, 9] (.seq (.seq (.ops [] [⟨some 39, none, .mv (.t 9)⟩,
 ⟨some 40, none, .fa 1 1 false (.t 8)⟩,
 ⟨some 41, none, .ld false 1 (.t 40)⟩,
 ⟨some 42, none, .len 1 (.t 41)⟩,
 ⟨some 43, none, .bin .lss (.t 39) (.t 42)⟩])
 (.cond (.t 43) (.skip)
 (.exit 4)))
 (.seq (.block 5 (.seq (.ops [] [⟨some 10, none, .mv (.k (.d (.bool true)))⟩])
 (.seq (.seq (.ops [] [⟨some 11, none, .mv (.k (.d (.int .i64 0)))⟩])
 (.block 6 (.loop 86 [1, 2, 5, 6, 7, 8, 9, 10, 11] (.seq (.seq (.ops [] [⟨some 46, none, .mv (.t 11)⟩,
 ⟨some 47, none, .fa 1 1 false (.t 8)⟩,
 ⟨some 48, none, .ld false 1 (.t 47)⟩,
 ⟨some 49, none, .mv (.t 9)⟩,
 ⟨some 50, none, .ia 2 true (.t 48) (.t 49)⟩,
 ⟨some 51, none, .fa 1 1 false (.t 50)⟩,
 ⟨some 52, none, .ld false 1 (.t 51)⟩,
 ⟨some 53, none, .len 1 (.t 52)⟩,
 ⟨some 54, none, .bin .lss (.t 46) (.t 53)⟩])
 (.cond (.t 54) (.skip)
 (.exit 6)))
 (.seq (.block 7 (.ops [] [⟨some 57, none, .mv (.t 10)⟩,
 ⟨some 58, none, .mv (.t 57)⟩,
 ⟨some 59, some (58, true), .mv (.t 5)⟩,
 ⟨some 60, some (58, true), .fa 1 1 false (.t 8)⟩,
 ⟨some 61, some (58, true), .ld false 1 (.t 60)⟩,
 ⟨some 62, some (58, true), .mv (.t 9)⟩,
 ⟨some 63, some (58, true), .ia 2 true (.t 61) (.t 62)⟩,
 ⟨some 64, some (58, true), .fa 1 1 false (.t 63)⟩,
 ⟨some 65, some (58, true), .ld false 1 (.t 64)⟩,
 ⟨some 66, some (58, true), .mv (.t 11)⟩,
 ⟨some 67, some (58, true), .ia 1 false (.t 65) (.t 66)⟩,
 ⟨some 68, some (58, true), .ld false 1 (.t 67)⟩,
 ⟨some 69, some (58, true), .call 81 [.t 59, .t 68]⟩,
 ⟨some 70, some (58, true), .bin .geq (.t 69) (.k (.d (.int .i64 0)))⟩,
 ⟨some 71, none, .pick (.t 58) (.t 70) (.k (.d (.bool false)))⟩,
 ⟨some 10, none, .tk 71⟩]))
 (.ops [] [⟨some 55, none, .mv (.t 11)⟩,
 ⟨some 56, none, .bin .add (.t 55) (.k (.d (.int .i64 1)))⟩,
 ⟨some 11, none, .tk 56⟩]))))))
 (.seq (.ops [] [⟨some 72, none, .mv (.t 10)⟩])
 (.cond (.t 72) (.seq (.ops [] [⟨some 73, none, .tk 5⟩,
 ⟨some 74, none, .fa 0 1 false (.t 8)⟩,
 ⟨some 75, none, .ld false 1 (.t 74)⟩,
 ⟨some 76, none, .lit 1 [.t 75]⟩,
 ⟨some 77, none, .app 1 (.t 73) (.t 76)⟩,
 ⟨some 5, none, .tk 77⟩])
 (.exit 4))
 (.skip))))))
 (.ops [] [⟨some 44, none, .mv (.t 9)⟩,
 ⟨some 45, none, .bin .add (.t 44) (.k (.d (.int .i64 1)))⟩,
 ⟨some 9, none, .tk 45⟩])))))))))
 (.ops [] [⟨some 19, none, .mv (.t 7)⟩,
 ⟨some 20, none, .bin .add (.t 19) (.k (.d (.int .i64 1)))⟩,
 ⟨some 7, none, .tk 20⟩]))))))
 (.seq (.ops [] [⟨some 78, none, .mv (.t 5)⟩,
 ⟨some 79, none, .len 1 (.t 78)⟩,
 ⟨some 80, none, .mv (.t 6)⟩,
 ⟨some 81, none, .bin .eql (.t 79) (.t 80)⟩])
 (.cond (.t 81) (.seq (.ops [] [⟨some 82, none, .mv (.t 5)⟩,
 ⟨some 83, none, .mv (.t 1)⟩,
 ⟨some 84, none, .call 81 [.t 82, .t 83]⟩,
 ⟨some 85, none, .bin .geq (.t 84) (.k (.d (.int .i64 0)))⟩,
 ⟨some 4, none, .tk 85⟩])
 (.ret))
 (.skip)))))))))⟩
theorem c58 : sp 58 = some (.code F58) := by kernel_rfl

/-- tenet/tenetref15.rightAbsurd -/
def F54 : AFunc := ⟨50, [.tmp 6],
 .seq (.ops [] [⟨some 3, none, .box true 2 (.t 0)⟩,
 ⟨some 4, none, .box true 3 (.t 1)⟩,
 ⟨some 6, none, .mv (.k (.d (.bool false)))⟩])
 (.seq (.seq (.ops [] [⟨some 10, none, .fa 0 1 false (.t 4)⟩,
 ⟨some 11, none, .ld false 1 (.t 10)⟩,
 ⟨some 12, none, .bin .eql (.t 11) (.k (.d (.int .i64 3)))⟩])
 (.cond (.t 12) (.seq (.ops [] [⟨some 13, none, .ld true 2 (.t 3)⟩,
 ⟨some 14, none, .mv (.t 2)⟩,
 ⟨some 15, none, .call 58 [.t 13, .t 14]⟩,
 ⟨some 16, none, .not (.t 15)⟩,
 ⟨some 6, none, .tk 16⟩])
 (.ret))
 (.skip)))
 (.seq (.ops [] [⟨some 18, none, .ld true 2 (.t 3)⟩,
 ⟨some 19, none, .mv (.t 2)⟩,
 ⟨some 20, none, .fa 1 1 false (.t 4)⟩,
 ⟨some 21, none, .ld false 1 (.t 20)⟩,
 ⟨some 22, none, .call 90 [.t 18, .t 19, .t 21]⟩,
 ⟨some 17, none, .mv (.t 22)⟩,
 ⟨some 23, none, .ext (.t 17) 0⟩,
 ⟨some 24, none, .ext (.t 17) 1⟩,
 ⟨some 7, none, .tk 23⟩,
 ⟨some 8, none, .tk 24⟩])
 (.seq (.seq (.ops [] [⟨some 9, none, .mv (.k (.d (.int .i64 0)))⟩])
 (.block 0 (.loop 50 [3, 4, 7, 9] (.seq (.seq (.ops [] [⟨some 25, none, .mv (.t 9)⟩,
 ⟨some 26, none, .fa 2 1 false (.t 4)⟩,
 ⟨some 27, none, .ld false 1 (.t 26)⟩,
 ⟨some 28, none, .len 1 (.t 27)⟩,
 ⟨some 29, none, .bin .lss (.t 25) (.t 28)⟩,
 ⟨some 30, none, .mv (.t 29)⟩,
 ⟨some 31, some (30, true), .mv (.t 9)⟩,
 ⟨some 32, some (30, true), .mv (.t 7)⟩,
 ⟨some 33, some (30, true), .len 1 (.t 32)⟩,
 ⟨some 34, some (30, true), .bin .lss (.t 31) (.t 33)⟩,
 ⟨some 35, none, .pick (.t 30) (.t 34) (.k (.d (.bool false)))⟩])
 (.cond (.t 35) (.skip)
 (.exit 0)))
 (.seq (.block 1 (.seq (.ops [] [⟨some 38, none, .ld true 2 (.t 3)⟩,
 ⟨some 39, none, .fa 2 1 false (.t 4)⟩,
 ⟨some 40, none, .ld false 1 (.t 39)⟩,
 ⟨some 41, none, .mv (.t 9)⟩,
 ⟨some 42, none, .ia 3 true (.t 40) (.t 41)⟩,
 ⟨some 43, none, .ld true 3 (.t 42)⟩,
 ⟨some 44, none, .mv (.t 7)⟩,
 ⟨some 45, none, .mv (.t 9)⟩,
 ⟨some 46, none, .ia 1 false (.t 44) (.t 45)⟩,
 ⟨some 47, none, .ld false 1 (.t 46)⟩,
 ⟨some 48, none, .call 54 [.t 38, .t 43, .t 47]⟩,
 ⟨some 49, none, .not (.t 48)⟩])
 (.cond (.t 49) (.seq (.ops [] [⟨some 6, none, .mv (.k (.d (.bool false)))⟩])
 (.ret))
 (.skip))))
 (.ops [] [⟨some 36, none, .mv (.t 9)⟩,
 ⟨some 37, none, .bin .add (.t 36) (.k (.d (.int .i64 1)))⟩,
 ⟨some 9, none, .tk 37⟩]))))))
 (.seq (.ops [] [⟨some 6, none, .mv (.k (.d (.bool true)))⟩])
 (.ret)))))⟩
theorem c54 : sp 54 = some (.code F54) := by kernel_rfl

/-- tenet/tenetref15.Useful -/
def F88 : AFunc := ⟨127, [.tmp 8],
 .seq (.ops [] [⟨some 4, none, .box true 2 (.t 0)⟩,
 ⟨some 8, none, .mv (.k (.d (.bool false)))⟩])
 (.seq (.seq (.ops [] [⟨some 16, none, .ld true 2 (.t 4)⟩,
 ⟨some 17, none, .mv (.t 3)⟩,
 ⟨some 18, none, .call 138 [.t 16, .t 17]⟩,
 ⟨some 19, none, .not (.t 18)⟩])
 (.cond (.t 19) (.seq (.ops [] [⟨some 8, none, .mv (.k (.d (.bool false)))⟩])
 (.ret))
 (.skip)))
 (.seq (.seq (.ops [] [⟨some 20, none, .mv (.t 3)⟩,
 ⟨some 21, none, .len 1 (.t 20)⟩,
 ⟨some 22, none, .bin .eql (.t 21) (.k (.d (.int .i64 0)))⟩])
 (.cond (.t 22) (.seq (.ops [] [⟨some 23, none, .mv (.t 1)⟩,
 ⟨some 24, none, .len 1 (.t 23)⟩,
 ⟨some 25, none, .bin .eql (.t 24) (.k (.d (.int .i64 0)))⟩,
 ⟨some 8, none, .tk 25⟩])
 (.ret))
 (.skip)))
 (.seq (.seq (.ops [] [⟨some 26, none, .mv (.t 2)⟩,
 ⟨some 27, none, .ia 3 true (.t 26) (.k (.d (.int .i64 0)))⟩,
 ⟨some 28, none, .fa 0 1 false (.t 27)⟩,
 ⟨some 29, none, .ld false 1 (.t 28)⟩,
 ⟨some 30, none, .bin .eql (.t 29) (.k (.d (.int .i64 2)))⟩])
 (.cond (.t 30) (.seq (.ops [] [⟨some 32, none, .ld true 2 (.t 4)⟩,
 ⟨some 33, none, .mv (.t 3)⟩,
 ⟨some 34, none, .ia 1 false (.t 33) (.k (.d (.int .i64 0)))⟩,
 ⟨some 35, none, .ld false 1 (.t 34)⟩,
 ⟨some 36, none, .mv (.t 2)⟩,
 ⟨some 37, none, .ia 3 true (.t 36) (.k (.d (.int .i64 0)))⟩,
 ⟨some 38, none, .fa 1 1 false (.t 37)⟩,
 ⟨some 39, none, .ld false 1 (.t 38)⟩,
 ⟨some 40, none, .call 90 [.t 32, .t 35, .t 39]⟩,
 ⟨some 31, none, .mv (.t 40)⟩,
 ⟨some 41, none, .ext (.t 31) 0⟩,
 ⟨some 42, none, .ext (.t 31) 1⟩,
 ⟨some 9, none, .tk 41⟩,
 ⟨some 10, none, .tk 42⟩])
 (.seq (.ops [] [⟨some 43, none, .ld true 2 (.t 4)⟩,
 ⟨some 44, none, .mv (.t 1)⟩,
 ⟨some 45, none, .mv (.t 2)⟩,
 ⟨some 46, none, .ia 3 true (.t 45) (.k (.d (.int .i64 0)))⟩,
 ⟨some 47, none, .fa 1 1 false (.t 46)⟩,
 ⟨some 48, none, .ld false 1 (.t 47)⟩,
 ⟨some 49, none, .mv (.t 9)⟩,
 ⟨some 50, none, .len 1 (.t 49)⟩,
 ⟨some 51, none, .call 139 [.t 44, .t 48, .t 50]⟩,
 ⟨some 52, none, .lit 3 []⟩,
 ⟨some 53, none, .mv (.t 2)⟩,
 ⟨some 54, none, .ia 3 true (.t 53) (.k (.d (.int .i64 0)))⟩,
 ⟨some 55, none, .fa 2 1 false (.t 54)⟩,
 ⟨some 56, none, .ld false 1 (.t 55)⟩,
 ⟨some 57, none, .app 3 (.t 52) (.t 56)⟩,
 ⟨some 58, none, .mv (.t 2)⟩,
 ⟨some 59, none, .slice 3 (.t 58) (some (.k (.d (.int .i64 1)))) none none⟩,
 ⟨some 60, none, .app 3 (.t 57) (.t 59)⟩,
 ⟨some 61, none, .mv (.t 9)⟩,
 ⟨some 62, none, .mv (.t 3)⟩,
 ⟨some 63, none, .call 140 [.t 61, .t 62]⟩,
 ⟨some 64, none, .call 88 [.t 43, .t 51, .t 60, .t 63]⟩,
 ⟨some 8, none, .tk 64⟩])
 (.ret)))
 (.skip)))
 (.seq (.seq (.ops [] [⟨some 65, none, .mv (.t 1)⟩,
 ⟨some 66, none, .call 141 [.t 65]⟩,
 ⟨some 67, none, .not (.t 66)⟩])
 (.cond (.t 67) (.seq (.ops [] [⟨some 68, none, .ld true 2 (.t 4)⟩,
 ⟨some 69, none, .mv (.t 1)⟩,
 ⟨some 70, none, .call 142 [.t 69]⟩,
 ⟨some 71, none, .mv (.t 2)⟩,
 ⟨some 72, none, .slice 3 (.t 71) (some (.k (.d (.int .i64 1)))) none none⟩,
 ⟨some 73, none, .mv (.t 3)⟩,
 ⟨some 74, none, .slice 1 (.t 73) (some (.k (.d (.int .i64 1)))) none none⟩,
 ⟨some 75, none, .call 88 [.t 68, .t 70, .t 72, .t 74]⟩,
 ⟨some 8, none, .tk 75⟩])
 (.ret))
 (.skip)))
 (.seq (.ops [.cells true [.d (.str []), .nil 2]] [⟨some 76, none, .fa 0 1 false (.t 4)⟩,
 ⟨some 77, none, .ld false 1 (.t 76)⟩,
 ⟨some 78, none, .ld true 2 (.t 4)⟩,
 ⟨some 79, none, .mv (.t 3)⟩,
 ⟨some 80, none, .ia 1 false (.t 79) (.k (.d (.int .i64 0)))⟩,
 ⟨some 81, none, .ld false 1 (.t 80)⟩,
 ⟨some 82, none, .call 52 [.t 78, .t 81]⟩,
 ⟨some 83, none, .ia 2 true (.t 77) (.t 82)⟩,
 ⟨some 84, none, .ld true 2 (.t 83)⟩,
 ⟨some 11, none, .allocR 0⟩,
 ⟨none, none, .st true 2 (.t 11) (.t 84)⟩])
 (.seq (.seq (.ops [] [⟨some 12, none, .mv (.k (.d (.int .i64 0)))⟩])
 (.block 0 (.loop 127 [1, 2, 3, 4, 11, 12] (.seq (.seq (.ops [] [⟨some 85, none, .mv (.t 12)⟩,
 ⟨some 86, none, .fa 1 1 false (.t 11)⟩,
 ⟨some 87, none, .ld false 1 (.t 86)⟩,
 ⟨some 88, none, .len 1 (.t 87)⟩,
 ⟨some 89, none, .bin .lss (.t 85) (.t 88)⟩])
 (.cond (.t 89) (.skip)
 (.exit 0)))
 (.seq (.block 1 (.seq (.ops [] [⟨some 92, none, .fa 1 1 false (.t 11)⟩,
 ⟨some 93, none, .ld false 1 (.t 92)⟩,
 ⟨some 94, none, .mv (.t 12)⟩,
 ⟨some 95, none, .ia 2 true (.t 93) (.t 94)⟩,
 ⟨some 96, none, .fa 1 1 false (.t 95)⟩,
 ⟨some 97, none, .ld false 1 (.t 96)⟩,
 ⟨some 13, none, .tk 97⟩])
 (.seq (.ops [] [⟨some 14, none, .mv (.k (.nil 3))⟩])
 (.seq (.seq (.ops [] [⟨some 15, none, .mv (.k (.d (.int .i64 0)))⟩])
 (.block 2 (.loop 127 [1, 2, 3, 4, 11, 12, 13, 14, 15] (.seq (.seq (.ops [] [⟨some 98, none, .mv (.t 15)⟩,
 ⟨some 99, none, .mv (.t 13)⟩,
 ⟨some 100, none, .len 1 (.t 99)⟩,
 ⟨some 101, none, .bin .lss (.t 98) (.t 100)⟩])
 (.cond (.t 101) (.skip)
 (.exit 2)))
 (.seq (.block 3 (.ops [] [⟨some 104, none, .tk 14⟩,
 ⟨some 105, none, .call 87 []⟩,
 ⟨some 106, none, .lit 3 [.t 105]⟩,
 ⟨some 107, none, .app 3 (.t 104) (.t 106)⟩,
 ⟨some 14, none, .tk 107⟩]))
 (.ops [] [⟨some 102, none, .mv (.t 15)⟩,
 ⟨some 103, none, .bin .add (.t 102) (.k (.d (.int .i64 1)))⟩,
 ⟨some 15, none, .tk 103⟩]))))))
 (.seq (.ops [] [⟨some 108, none, .ld true 2 (.t 4)⟩,
 ⟨some 109, none, .mv (.t 1)⟩,
 ⟨some 110, none, .fa 1 1 false (.t 11)⟩,
 ⟨some 111, none, .ld false 1 (.t 110)⟩,
 ⟨some 112, none, .mv (.t 12)⟩,
 ⟨some 113, none, .ia 2 true (.t 111) (.t 112)⟩,
 ⟨some 114, none, .fa 0 1 false (.t 113)⟩,
 ⟨some 115, none, .ld false 1 (.t 114)⟩,
 ⟨some 116, none, .mv (.t 13)⟩,
 ⟨some 117, none, .len 1 (.t 116)⟩,
 ⟨some 118, none, .call 139 [.t 109, .t 115, .t 117]⟩,
 ⟨some 119, none, .tk 14⟩,
 ⟨some 120, none, .mv (.t 2)⟩,
 ⟨some 121, none, .slice 3 (.t 120) (some (.k (.d (.int .i64 1)))) none none⟩,
 ⟨some 122, none, .app 3 (.t 119) (.t 121)⟩,
 ⟨some 123, none, .mv (.t 13)⟩,
 ⟨some 124, none, .mv (.t 3)⟩,
 ⟨some 125, none, .call 140 [.t 123, .t 124]⟩,
 ⟨some 126, none, .call 88 [.t 108, .t 118, .t 122, .t 125]⟩])
 (.cond (.t 126) (.seq (.ops [] [⟨some 8, none, .mv (.k (.d (.bool true)))⟩])
 (.ret))
 (.skip)))))))
 (.ops [] [⟨some 90, none, .mv (.t 12)⟩,
 ⟨some 91, none, .bin .add (.t 90) (.k (.d (.int .i64 1)))⟩,
 ⟨some 12, none, .tk 91⟩]))))))
 (.seq (.ops [] [⟨some 8, none, .mv (.k (.d (.bool false)))⟩])
 (.ret))))))))⟩
theorem c88 : sp 88 = some (.code F88) := by kernel_rfl

/-- tenet/tenetref15.covered -/
def F46 : AFunc := ⟨29, [.tmp 4],
 .seq (.ops [] [⟨some 2, none, .box true 2 (.t 0)⟩,
 ⟨some 3, none, .box true 4 (.t 1)⟩,
 ⟨some 4, none, .mv (.k (.d (.bool false)))⟩])
 (.seq (.ops [] [⟨some 5, none, .mv (.k (.nil 3))⟩])
 (.seq (.seq (.ops [] [⟨some 6, none, .mv (.k (.d (.int .i64 0)))⟩])
 (.block 0 (.loop 29 [2, 3, 5, 6] (.seq (.seq (.ops [] [⟨some 7, none, .mv (.t 6)⟩,
 ⟨some 8, none, .fa 1 1 false (.t 3)⟩,
 ⟨some 9, none, .ld false 1 (.t 8)⟩,
 ⟨some 10, none, .len 1 (.t 9)⟩,
 ⟨some 11, none, .bin .lss (.t 7) (.t 10)⟩])
 (.cond (.t 11) (.skip)
 (.exit 0)))
 (.seq (.block 1 (.ops [] [⟨some 14, none, .tk 5⟩,
 ⟨some 15, none, .call 87 []⟩,
 ⟨some 16, none, .lit 3 [.t 15]⟩,
 ⟨some 17, none, .app 3 (.t 14) (.t 16)⟩,
 ⟨some 5, none, .tk 17⟩]))
 (.ops [] [⟨some 12, none, .mv (.t 6)⟩,
 ⟨some 13, none, .bin .add (.t 12) (.k (.d (.int .i64 1)))⟩,
 ⟨some 6, none, .tk 13⟩]))))))
 (.seq (.ops [] [⟨some 18, none, .ld true 2 (.t 2)⟩,
 ⟨some 19, none, .ld true 4 (.t 3)⟩,
 ⟨some 20, none, .fa 3 1 false (.t 3)⟩,
 ⟨some 21, none, .ld false 1 (.t 20)⟩,
 ⟨some 22, none, .len 1 (.t 21)⟩,
 ⟨some 23, none, .call 89 [.t 19, .t 22]⟩,
 ⟨some 24, none, .mv (.t 5)⟩,
 ⟨some 25, none, .fa 1 1 false (.t 3)⟩,
 ⟨some 26, none, .ld false 1 (.t 25)⟩,
 ⟨some 27, none, .call 88 [.t 18, .t 23, .t 24, .t 26]⟩,
 ⟨some 28, none, .not (.t 27)⟩,
 ⟨some 4, none, .tk 28⟩])
 (.ret))))⟩
theorem c46 : sp 46 = some (.code F46) := by kernel_rfl

/-- tenet/tenetref15.useless -/
def F55 : AFunc := ⟨42, [.tmp 4],
 .seq (.ops [] [⟨some 2, none, .box true 2 (.t 0)⟩,
 ⟨some 3, none, .box true 4 (.t 1)⟩,
 ⟨some 4, none, .mv (.k (.nil 1))⟩])
 (.seq (.ops [] [⟨some 5, none, .mv (.k (.nil 1))⟩])
 (.seq (.seq (.ops [] [⟨some 6, none, .mv (.k (.d (.int .i64 0)))⟩])
 (.block 0 (.loop 42 [2, 3, 5, 6] (.seq (.seq (.ops [] [⟨some 7, none, .mv (.t 6)⟩,
 ⟨some 8, none, .fa 3 1 false (.t 3)⟩,
 ⟨some 9, none, .ld false 1 (.t 8)⟩,
 ⟨some 10, none, .len 1 (.t 9)⟩,
 ⟨some 11, none, .bin .lss (.t 7) (.t 10)⟩])
 (.cond (.t 11) (.skip)
 (.exit 0)))
 (.seq (.block 1 (.seq (.ops [] [⟨some 14, none, .fa 3 1 false (.t 3)⟩,
 ⟨some 15, none, .ld false 1 (.t 14)⟩,
 ⟨some 16, none, .mv (.t 6)⟩,
 ⟨some 17, none, .ia 5 true (.t 15) (.t 16)⟩,
 ⟨some 18, none, .fa 1 1 false (.t 17)⟩,
 ⟨some 19, none, .ld false 1 (.t 18)⟩,
 ⟨some 20, none, .not (.t 19)⟩,
 ⟨some 21, none, .mv (.t 20)⟩,
 ⟨some 22, some (21, true), .ld true 2 (.t 2)⟩,
 ⟨some 23, some (21, true), .ld true 4 (.t 3)⟩,
 ⟨some 24, some (21, true), .mv (.t 6)⟩,
 ⟨some 25, some (21, true), .call 89 [.t 23, .t 24]⟩,
 ⟨some 26, some (21, true), .fa 3 1 false (.t 3)⟩,
 ⟨some 27, some (21, true), .ld false 1 (.t 26)⟩,
 ⟨some 28, some (21, true), .mv (.t 6)⟩,
 ⟨some 29, some (21, true), .ia 5 true (.t 27) (.t 28)⟩,
 ⟨some 30, some (21, true), .fa 0 1 false (.t 29)⟩,
 ⟨some 31, some (21, true), .ld false 1 (.t 30)⟩,
 ⟨some 32, some (21, true), .fa 1 1 false (.t 3)⟩,
 ⟨some 33, some (21, true), .ld false 1 (.t 32)⟩,
 ⟨some 34, some (21, true), .call 88 [.t 22, .t 25, .t 31, .t 33]⟩,
 ⟨some 35, some (21, true), .not (.t 34)⟩,
 ⟨some 36, none, .pick (.t 21) (.t 35) (.k (.d (.bool false)))⟩])
 (.cond (.t 36) (.ops [] [⟨some 37, none, .tk 5⟩,
 ⟨some 38, none, .mv (.t 6)⟩,
 ⟨some 39, none, .lit 1 [.t 38]⟩,
 ⟨some 40, none, .app 1 (.t 37) (.t 39)⟩,
 ⟨some 5, none, .tk 40⟩])
 (.skip))))
 (.ops [] [⟨some 12, none, .mv (.t 6)⟩,
 ⟨some 13, none, .bin .add (.t 12) (.k (.d (.int .i64 1)))⟩,
 ⟨some 6, none, .tk 13⟩]))))))
 (.seq (.ops [] [⟨some 41, none, .tk 5⟩,
 ⟨some 4, none, .tk 41⟩])
 (.ret))))⟩
theorem c55 : sp 55 = some (.code F55) := by kernel_rfl

/-- tenet/tenetref15.Check -/
def F16 : AFunc := ⟨155, [.tmp 2, .tmp 3, .tmp 4],
 .seq (.ops [] [⟨some 1, none, .box true 2 (.t 0)⟩,
 ⟨some 2, none, .mv (.k (.d (.int .i64 0)))⟩,
 ⟨some 3, none, .mv (.k (.d (.int .i64 0)))⟩,
 ⟨some 4, none, .mv (.k (.d (.int .i64 0)))⟩])
 (.seq (.seq (.ops [] [⟨some 14, none, .ld true 2 (.t 1)⟩,
 ⟨some 15, none, .call 50 [.t 14]⟩,
 ⟨some 16, none, .not (.t 15)⟩])
 (.cond (.t 16) (.seq (.ops [] [⟨some 2, none, .mv (.k (.d (.int .i64 4)))⟩,
 ⟨some 3, none, .mv (.k (.d (.int .i64 (-1))))⟩,
 ⟨some 4, none, .mv (.k (.d (.int .i64 (-1))))⟩])
 (.ret))
 (.skip)))
 (.seq (.seq (.ops [] [⟨some 5, none, .mv (.k (.d (.int .i64 0)))⟩])
 (.block 0 (.loop 155 [1, 5] (.seq (.seq (.ops [] [⟨some 17, none, .mv (.t 5)⟩,
 ⟨some 18, none, .fa 1 1 false (.t 1)⟩,
 ⟨some 19, none, .ld false 1 (.t 18)⟩,
 ⟨some 20, none, .len 1 (.t 19)⟩,
 ⟨some 21, none, .bin .lss (.t 17) (.t 20)⟩])
 (.cond (.t 21) (.skip)
 (.exit 0)))
 (.seq (.block 1 (.seq (.ops [] [⟨some 24, none, .fa 1 1 false (.t 1)⟩,
 ⟨some 25, none, .ld false 1 (.t 24)⟩,
 ⟨some 26, none, .mv (.t 5)⟩,
 ⟨some 27, none, .ia 4 true (.t 25) (.t 26)⟩,
 ⟨some 28, none, .ld true 4 (.t 27)⟩,
 ⟨some 6, none, .alloc true [.d (.str []), .nil 1, .d (.str []), .nil 5]⟩,
 ⟨none, none, .st true 4 (.t 6) (.t 28)⟩])
 (.seq (.ops [] [⟨some 29, none, .fa 1 1 false (.t 6)⟩,
 ⟨some 30, none, .ld false 1 (.t 29)⟩,
 ⟨some 31, none, .len 1 (.t 30)⟩,
 ⟨some 32, none, .bin .gtr (.t 31) (.k (.d (.int .i64 6)))⟩,
 ⟨some 33, none, .mv (.t 32)⟩,
 ⟨some 34, some (33, false), .fa 3 1 false (.t 6)⟩,
 ⟨some 35, some (33, false), .ld false 1 (.t 34)⟩,
 ⟨some 36, some (33, false), .len 1 (.t 35)⟩,
 ⟨some 37, some (33, false), .bin .gtr (.t 36) (.k (.d (.int .i64 16)))⟩,
 ⟨some 38, none, .pick (.t 33) (.k (.d (.bool true))) (.t 37)⟩,
 ⟨some 39, none, .mv (.t 38)⟩,
 ⟨some 40, some (39, false), .ld true 2 (.t 1)⟩,
 ⟨some 41, some (39, false), .fa 1 1 false (.t 6)⟩,
 ⟨some 42, some (39, false), .ld false 1 (.t 41)⟩,
 ⟨some 43, some (39, false), .call 51 [.t 40, .t 42]⟩,
 ⟨some 44, some (39, false), .not (.t 43)⟩,
 ⟨some 45, none, .pick (.t 39) (.k (.d (.bool true))) (.t 44)⟩,
 ⟨some 46, none, .mv (.t 45)⟩,
 ⟨some 47, some (46, false), .ld true 2 (.t 1)⟩,
 ⟨some 48, some (46, false), .fa 2 1 false (.t 6)⟩,
 ⟨some 49, some (46, false), .ld false 1 (.t 48)⟩,
 ⟨some 50, some (46, false), .call 52 [.t 47, .t 49]⟩,
 ⟨some 51, some (46, false), .bin .lss (.t 50) (.k (.d (.int .i64 0)))⟩,
 ⟨some 52, none, .pick (.t 46) (.k (.d (.bool true))) (.t 51)⟩])
 (.cond (.t 52) (.seq (.ops [] [⟨some 53, none, .tk 5⟩,
 ⟨some 2, none, .mv (.k (.d (.int .i64 4)))⟩,
 ⟨some 3, none, .tk 53⟩,
 ⟨some 4, none, .mv (.k (.d (.int .i64 (-1))))⟩])
 (.ret))
 (.skip)))))
 (.ops [] [⟨some 22, none, .mv (.t 5)⟩,
 ⟨some 23, none, .bin .add (.t 22) (.k (.d (.int .i64 1)))⟩,
 ⟨some 5, none, .tk 23⟩]))))))
 (.seq (.seq (.ops [] [⟨some 7, none, .mv (.k (.d (.int .i64 0)))⟩])
 (.block 2 (.loop 155 [1, 7] (.seq (.seq (.ops [] [⟨some 54, none, .mv (.t 7)⟩,
 ⟨some 55, none, .fa 1 1 false (.t 1)⟩,
 ⟨some 56, none, .ld false 1 (.t 55)⟩,
 ⟨some 57, none, .len 1 (.t 56)⟩,
 ⟨some 58, none, .bin .lss (.t 54) (.t 57)⟩])
 (.cond (.t 58) (.skip)
 (.exit 2)))
 (.seq (.block 3 (.seq (.ops [] [⟨some 8, none, .mv (.k (.d (.int .i64 0)))⟩])
 (.block 4 (.loop 155 [1, 7, 8] (.seq (.seq (.ops [] [⟨some 61, none, .mv (.t 8)⟩,
 ⟨some 62, none, .fa 1 1 false (.t 1)⟩,
 ⟨some 63, none, .ld false 1 (.t 62)⟩,
 ⟨some 64, none, .mv (.t 7)⟩,
 ⟨some 65, none, .ia 4 true (.t 63) (.t 64)⟩,
 ⟨some 66, none, .fa 3 1 false (.t 65)⟩,
 ⟨some 67, none, .ld false 1 (.t 66)⟩,
 ⟨some 68, none, .len 1 (.t 67)⟩,
 ⟨some 69, none, .bin .lss (.t 61) (.t 68)⟩])
 (.cond (.t 69) (.skip)
 (.exit 4)))
 (.seq (.block 5 (.seq (.ops [] [⟨some 72, none, .fa 1 1 false (.t 1)⟩,
 ⟨some 73, none, .ld false 1 (.t 72)⟩,
 ⟨some 74, none, .mv (.t 7)⟩,
 ⟨some 75, none, .ia 4 true (.t 73) (.t 74)⟩,
 ⟨some 76, none, .fa 3 1 false (.t 75)⟩,
 ⟨some 77, none, .ld false 1 (.t 76)⟩,
 ⟨some 78, none, .mv (.t 8)⟩,
 ⟨some 79, none, .ia 5 true (.t 77) (.t 78)⟩,
 ⟨some 80, none, .ld true 5 (.t 79)⟩,
 ⟨some 9, none, .alloc true [.nil 3, .d (.bool false), .d (.int .i64 0), .d (.str []), .nil 3]⟩,
 ⟨none, none, .st true 5 (.t 9) (.t 80)⟩])
 (.seq (.seq (.ops [] [⟨some 81, none, .ld true 2 (.t 1)⟩,
 ⟨some 82, none, .fa 1 1 false (.t 1)⟩,
 ⟨some 83, none, .ld false 1 (.t 82)⟩,
 ⟨some 84, none, .mv (.t 7)⟩,
 ⟨some 85, none, .ia 4 true (.t 83) (.t 84)⟩,
 ⟨some 86, none, .ld true 4 (.t 85)⟩,
 ⟨some 87, none, .ld true 5 (.t 9)⟩,
 ⟨some 88, none, .call 53 [.t 81, .t 86, .t 87]⟩,
 ⟨some 89, none, .not (.t 88)⟩])
 (.cond (.t 89) (.seq (.ops [] [⟨some 90, none, .tk 7⟩,
 ⟨some 91, none, .tk 8⟩,
 ⟨some 2, none, .mv (.k (.d (.int .i64 152)))⟩,
 ⟨some 3, none, .tk 90⟩,
 ⟨some 4, none, .tk 91⟩])
 (.ret))
 (.skip)))
 (.seq (.ops [] [⟨some 10, none, .mv (.k (.d (.int .i64 0)))⟩])
 (.block 6 (.loop 155 [1, 7, 8, 9, 10] (.seq (.seq (.ops [] [⟨some 92, none, .mv (.t 10)⟩,
 ⟨some 93, none, .fa 0 1 false (.t 9)⟩,
 ⟨some 94, none, .ld false 1 (.t 93)⟩,
 ⟨some 95, none, .len 1 (.t 94)⟩,
 ⟨some 96, none, .bin .lss (.t 92) (.t 95)⟩])
 (.cond (.t 96) (.skip)
 (.exit 6)))
 (.seq (.block 7 (.seq (.ops [] [⟨some 99, none, .ld true 2 (.t 1)⟩,
 ⟨some 100, none, .fa 0 1 false (.t 9)⟩,
 ⟨some 101, none, .ld false 1 (.t 100)⟩,
 ⟨some 102, none, .mv (.t 10)⟩,
 ⟨some 103, none, .ia 3 true (.t 101) (.t 102)⟩,
 ⟨some 104, none, .ld true 3 (.t 103)⟩,
 ⟨some 105, none, .fa 1 1 false (.t 1)⟩,
 ⟨some 106, none, .ld false 1 (.t 105)⟩,
 ⟨some 107, none, .mv (.t 7)⟩,
 ⟨some 108, none, .ia 4 true (.t 106) (.t 107)⟩,
 ⟨some 109, none, .fa 1 1 false (.t 108)⟩,
 ⟨some 110, none, .ld false 1 (.t 109)⟩,
 ⟨some 111, none, .mv (.t 10)⟩,
 ⟨some 112, none, .ia 1 false (.t 110) (.t 111)⟩,
 ⟨some 113, none, .ld false 1 (.t 112)⟩,
 ⟨some 114, none, .call 54 [.t 99, .t 104, .t 113]⟩,
 ⟨some 115, none, .not (.t 114)⟩])
 (.cond (.t 115) (.seq (.ops [] [⟨some 116, none, .tk 7⟩,
 ⟨some 117, none, .tk 8⟩,
 ⟨some 2, none, .mv (.k (.d (.int .i64 153)))⟩,
 ⟨some 3, none, .tk 116⟩,
 ⟨some 4, none, .tk 117⟩])
 (.ret))
 (.skip))))
 (.ops [] [⟨some 97, none, .mv (.t 10)⟩,
 ⟨some 98, none, .bin .add (.t 97) (.k (.d (.int .i64 1)))⟩,
 ⟨some 10, none, .tk 98⟩])))))))))
 (.ops [] [⟨some 70, none, .mv (.t 8)⟩,
 ⟨some 71, none, .bin .add (.t 70) (.k (.d (.int .i64 1)))⟩,
 ⟨some 8, none, .tk 71⟩])))))))
 (.ops [] [⟨some 59, none, .mv (.t 7)⟩,
 ⟨some 60, none, .bin .add (.t 59) (.k (.d (.int .i64 1)))⟩,
 ⟨some 7, none, .tk 60⟩]))))))
 (.seq (.seq (.ops [] [⟨some 11, none, .mv (.k (.d (.int .i64 0)))⟩])
 (.block 8 (.loop 155 [1, 11] (.seq (.seq (.ops [] [⟨some 118, none, .mv (.t 11)⟩,
 ⟨some 119, none, .fa 1 1 false (.t 1)⟩,
 ⟨some 120, none, .ld false 1 (.t 119)⟩,
 ⟨some 121, none, .len 1 (.t 120)⟩,
 ⟨some 122, none, .bin .lss (.t 118) (.t 121)⟩])
 (.cond (.t 122) (.skip)
 (.exit 8)))
 (.seq (.block 9 (.seq (.ops [] [⟨some 125, none, .ld true 2 (.t 1)⟩,
 ⟨some 126, none, .fa 1 1 false (.t 1)⟩,
 ⟨some 127, none, .ld false 1 (.t 126)⟩,
 ⟨some 128, none, .mv (.t 11)⟩,
 ⟨some 129, none, .ia 4 true (.t 127) (.t 128)⟩,
 ⟨some 130, none, .ld true 4 (.t 129)⟩,
 ⟨some 131, none, .call 46 [.t 125, .t 130]⟩,
 ⟨some 132, none, .not (.t 131)⟩])
 (.cond (.t 132) (.seq (.ops [] [⟨some 133, none, .tk 11⟩,
 ⟨some 2, none, .mv (.k (.d (.int .i64 150)))⟩,
 ⟨some 3, none, .tk 133⟩,
 ⟨some 4, none, .mv (.k (.d (.int .i64 (-1))))⟩])
 (.ret))
 (.skip))))
 (.ops [] [⟨some 123, none, .mv (.t 11)⟩,
 ⟨some 124, none, .bin .add (.t 123) (.k (.d (.int .i64 1)))⟩,
 ⟨some 11, none, .tk 124⟩]))))))
 (.seq (.seq (.ops [] [⟨some 12, none, .mv (.k (.d (.int .i64 0)))⟩])
 (.block 10 (.loop 155 [1, 12] (.seq (.seq (.ops [] [⟨some 134, none, .mv (.t 12)⟩,
 ⟨some 135, none, .fa 1 1 false (.t 1)⟩,
 ⟨some 136, none, .ld false 1 (.t 135)⟩,
 ⟨some 137, none, .len 1 (.t 136)⟩,
 ⟨some 138, none, .bin .lss (.t 134) (.t 137)⟩])
 (.cond (.t 138) (.skip)
 (.exit 10)))
 (.seq (.block 11 (.seq (.ops [] [⟨some 141, none, .ld true 2 (.t 1)⟩,
 ⟨some 142, none, .fa 1 1 false (.t 1)⟩,
 ⟨some 143, none, .ld false 1 (.t 142)⟩,
 ⟨some 144, none, .mv (.t 12)⟩,
 ⟨some 145, none, .ia 4 true (.t 143) (.t 144)⟩,
 ⟨some 146, none, .ld true 4 (.t 145)⟩,
 ⟨some 147, none, .call 55 [.t 141, .t 146]⟩,
 ⟨some 13, none, .tk 147⟩])
 (.seq (.ops [] [⟨some 148, none, .mv (.t 13)⟩,
 ⟨some 149, none, .len 1 (.t 148)⟩,
 ⟨some 150, none, .bin .gtr (.t 149) (.k (.d (.int .i64 0)))⟩])
 (.cond (.t 150) (.seq (.ops [] [⟨some 151, none, .tk 12⟩,
 ⟨some 152, none, .mv (.t 13)⟩,
 ⟨some 153, none, .ia 1 false (.t 152) (.k (.d (.int .i64 0)))⟩,
 ⟨some 154, none, .ld false 1 (.t 153)⟩,
 ⟨some 2, none, .mv (.k (.d (.int .i64 151)))⟩,
 ⟨some 3, none, .tk 151⟩,
 ⟨some 4, none, .tk 154⟩])
 (.ret))
 (.skip)))))
 (.ops [] [⟨some 139, none, .mv (.t 12)⟩,
 ⟨some 140, none, .bin .add (.t 139) (.k (.d (.int .i64 1)))⟩,
 ⟨some 12, none, .tk 140⟩]))))))
 (.seq (.ops [] [⟨some 2, none, .mv (.k (.d (.int .i64 0)))⟩,
 ⟨some 3, none, .mv (.k (.d (.int .i64 (-1))))⟩,
 ⟨some 4, none, .mv (.k (.d (.int .i64 (-1))))⟩])
 (.ret)))))))⟩
theorem c16 : sp 16 = some (.code F16) := by kernel_rfl

/-- tenet/tenetref15.Ready -/
def F10 : AFunc := ⟨4, [.reg 42, .tmp 5],
 .seq (.ops [] [⟨some 2, none, .box true 2 (.t 0)⟩,
 ⟨some 42, none, .ralloc true [.d (.str []), .nil 1, .d (.str []), .nil 5]⟩,
 ⟨some 5, none, .mv (.k (.d (.int .i64 0)))⟩])
 (.seq (.seq (.ops [] [⟨some 11, none, .ld true 2 (.t 2)⟩,
 ⟨some 12, none, .call 16 [.t 11]⟩,
 ⟨some 10, none, .mv (.t 12)⟩,
 ⟨some 13, none, .ext (.t 10) 0⟩,
 ⟨some 14, none, .ext (.t 10) 1⟩,
 ⟨some 15, none, .ext (.t 10) 2⟩,
 ⟨some 6, none, .tk 13⟩,
 ⟨some 7, none, .tk 14⟩,
 ⟨some 8, none, .tk 15⟩])
 (.seq (.ops [] [⟨some 16, none, .mv (.t 6)⟩,
 ⟨some 17, none, .bin .neq (.t 16) (.k (.d (.int .i64 0)))⟩,
 ⟨some 18, none, .mv (.t 17)⟩,
 ⟨some 19, some (18, true), .mv (.t 6)⟩,
 ⟨some 20, some (18, true), .bin .neq (.t 19) (.k (.d (.int .i64 150)))⟩,
 ⟨some 21, none, .pick (.t 18) (.t 20) (.k (.d (.bool false)))⟩,
 ⟨some 22, none, .mv (.t 21)⟩,
 ⟨some 23, some (22, true), .mv (.t 6)⟩,
 ⟨some 24, some (22, true), .bin .neq (.t 23) (.k (.d (.int .i64 151)))⟩,
 ⟨some 25, none, .pick (.t 22) (.t 24) (.k (.d (.bool false)))⟩])
 (.cond (.t 25) (.seq (.ops [] [⟨some 26, none, .build [.d (.str []), .nil 1, .d (.str []), .nil 5] []⟩,
 ⟨some 42, none, .rst 42 true 4 (.t 26)⟩,
 ⟨some 5, none, .mv (.k (.d (.int .i64 4)))⟩])
 (.ret))
 (.skip))))
 (.seq (.ops [] [⟨some 27, none, .ld true 2 (.t 2)⟩,
 ⟨some 28, none, .mv (.t 1)⟩,
 ⟨some 29, none, .call 45 [.t 27, .t 28]⟩,
 ⟨some 9, none, .tk 29⟩])
 (.seq (.seq (.ops [] [⟨some 30, none, .mv (.t 9)⟩,
 ⟨some 31, none, .bin .lss (.t 30) (.k (.d (.int .i64 0)))⟩])
 (.cond (.t 31) (.seq (.ops [] [⟨some 32, none, .build [.d (.str []), .nil 1, .d (.str []), .nil 5] []⟩,
 ⟨some 42, none, .rst 42 true 4 (.t 32)⟩,
 ⟨some 5, none, .mv (.k (.d (.int .i64 3)))⟩])
 (.ret))
 (.skip)))
 (.seq (.ops [] [⟨some 33, none, .fa 1 1 false (.t 2)⟩,
 ⟨some 34, none, .ld false 1 (.t 33)⟩,
 ⟨some 35, none, .mv (.t 9)⟩,
 ⟨some 36, none, .ia 4 true (.t 34) (.t 35)⟩,
 ⟨some 37, none, .ld true 4 (.t 36)⟩,
 ⟨some 42, none, .rst 42 true 4 (.t 37)⟩,
 ⟨some 5, none, .mv (.k (.d (.int .i64 0)))⟩])
 (.ret)))))⟩
theorem c10 : sp 10 = some (.code F10) := by kernel_rfl

end Go.Sp
