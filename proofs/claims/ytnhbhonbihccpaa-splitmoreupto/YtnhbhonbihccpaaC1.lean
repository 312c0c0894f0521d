/- SplitMore holds of every input whose data are of bulk at most 1048576 (the row's second form). Here: The program's functions as abstract code. SmCodeB. The program's functions as abstract code. The program's functions as abstract code. -/
import Derived.Test.YtnhbhonbihccpaaB2
import Derived.KernelRfl

set_option linter.unusedVariables false
set_option linter.unusedSimpArgs false
set_option linter.unnecessarySimpa false

/-! The program's functions as abstract code. -/
namespace Go.Sp
open Go.Abs Go.Proofs
set_option maxRecDepth 20000

/-- tenet/split.isName -/
def F57 : AFunc := ⟨59, [.tmp 2],
 .seq (.ops [] [⟨some 2, none, .mv (.k (.d (.bool false)))⟩])
 (.seq (.seq (.ops [] [⟨some 6, none, .mv (.t 0)⟩,
 ⟨some 7, none, .len 0 (.t 6)⟩,
 ⟨some 8, none, .mv (.k (.d (.int .i64 0)))⟩])
 (.block 0 (.loop 59 [0, 7, 8] (.seq (.ops [] [⟨some 9, none, .bin .lss (.t 8) (.t 7)⟩])
 (.seq (.cond (.t 9) (.skip)
 (.exit 0))
 (.seq (.block 1 (.seq (.ops [] [⟨some 10, none, .tk 8⟩,
 ⟨some 3, none, .tk 10⟩])
 (.seq (.ops [] [⟨some 11, none, .mv (.t 0)⟩,
 ⟨some 12, none, .mv (.t 3)⟩,
 ⟨some 13, none, .ixS (.t 11) (.t 12)⟩,
 ⟨some 4, none, .tk 13⟩])
 (.seq (.ops [] [⟨some 14, none, .mv (.t 4)⟩,
 ⟨some 15, none, .bin .geq (.t 14) (.k (.d (.int .u8 97)))⟩,
 ⟨some 16, none, .mv (.t 15)⟩,
 ⟨some 17, some (16, true), .mv (.t 4)⟩,
 ⟨some 18, some (16, true), .bin .leq (.t 17) (.k (.d (.int .u8 122)))⟩,
 ⟨some 19, none, .pick (.t 16) (.t 18) (.k (.d (.bool false)))⟩,
 ⟨some 20, none, .mv (.t 19)⟩,
 ⟨some 21, some (20, false), .mv (.t 4)⟩,
 ⟨some 22, some (20, false), .bin .geq (.t 21) (.k (.d (.int .u8 65)))⟩,
 ⟨some 23, some (20, false), .mv (.t 22)⟩,
 ⟨some 24, some (23, true), .mv (.t 4)⟩,
 ⟨some 25, some (23, true), .bin .leq (.t 24) (.k (.d (.int .u8 90)))⟩,
 ⟨some 26, some (20, false), .pick (.t 23) (.t 25) (.k (.d (.bool false)))⟩,
 ⟨some 27, none, .pick (.t 20) (.k (.d (.bool true))) (.t 26)⟩,
 ⟨some 28, none, .mv (.t 27)⟩,
 ⟨some 29, some (28, false), .mv (.t 4)⟩,
 ⟨some 30, some (28, false), .bin .eql (.t 29) (.k (.d (.int .u8 95)))⟩,
 ⟨some 31, none, .pick (.t 28) (.k (.d (.bool true))) (.t 30)⟩,
 ⟨some 5, none, .tk 31⟩])
 (.seq (.ops [] [⟨some 32, none, .mv (.t 5)⟩,
 ⟨some 33, none, .not (.t 32)⟩,
 ⟨some 34, none, .mv (.t 33)⟩,
 ⟨some 35, some (34, true), .mv (.t 3)⟩,
 ⟨some 36, some (34, true), .bin .eql (.t 35) (.k (.d (.int .i64 0)))⟩,
 ⟨some 37, some (34, true), .mv (.t 36)⟩,
 ⟨some 38, some (37, false), .mv (.t 4)⟩,
 ⟨some 39, some (37, false), .bin .geq (.t 38) (.k (.d (.int .u8 48)))⟩,
 ⟨some 40, some (37, false), .mv (.t 39)⟩,
 ⟨some 41, some (40, true), .mv (.t 4)⟩,
 ⟨some 42, some (40, true), .bin .leq (.t 41) (.k (.d (.int .u8 57)))⟩,
 ⟨some 43, some (37, false), .pick (.t 40) (.t 42) (.k (.d (.bool false)))⟩,
 ⟨some 44, some (37, false), .mv (.t 43)⟩,
 ⟨some 45, some (44, false), .mv (.t 4)⟩,
 ⟨some 46, some (44, false), .bin .eql (.t 45) (.k (.d (.int .u8 46)))⟩,
 ⟨some 47, some (37, false), .pick (.t 44) (.k (.d (.bool true))) (.t 46)⟩,
 ⟨some 48, some (37, false), .not (.t 47)⟩,
 ⟨some 49, some (34, true), .pick (.t 37) (.k (.d (.bool true))) (.t 48)⟩,
 ⟨some 50, none, .pick (.t 34) (.t 49) (.k (.d (.bool false)))⟩])
 (.cond (.t 50) (.seq (.ops [] [⟨some 2, none, .mv (.k (.d (.bool false)))⟩])
 (.ret))
 (.skip)))))))
 (.ops [] [⟨some 51, none, .bin .add (.t 8) (.k (.d (.int .i64 1)))⟩,
 ⟨some 8, none, .mv (.t 51)⟩])))))))
 (.seq (.ops [] [⟨some 52, none, .mv (.t 0)⟩,
 ⟨some 53, none, .bin .neq (.t 52) (.k (.d (.str [])))⟩,
 ⟨some 54, none, .mv (.t 53)⟩,
 ⟨some 55, some (54, true), .mv (.t 0)⟩,
 ⟨some 56, some (54, true), .len 0 (.t 55)⟩,
 ⟨some 57, some (54, true), .bin .leq (.t 56) (.k (.d (.int .i64 24)))⟩,
 ⟨some 58, none, .pick (.t 54) (.t 57) (.k (.d (.bool false)))⟩,
 ⟨some 2, none, .tk 58⟩])
 (.ret)))⟩
theorem c57 : sp 57 = some (.code F57) := by kernel_rfl

/-- tenet/split.sort -/
def F38 : AFunc := ⟨4, [.reg 23, .tmp 5],
 .seq (.ops [] [⟨some 2, none, .box true 2 (.t 0)⟩,
 ⟨some 3, none, .box false 1 (.t 1)⟩,
 ⟨some 23, none, .ralloc true [.d (.str []), .nil 2]⟩,
 ⟨some 5, none, .mv (.k (.d (.bool false)))⟩])
 (.seq (.ops [] [⟨some 7, none, .fa 0 1 false (.t 2)⟩,
 ⟨some 8, none, .ld false 1 (.t 7)⟩,
 ⟨some 9, none, .fn 60 [.t 3]⟩,
 ⟨some 10, none, .call 59 [.t 8, .t 9]⟩,
 ⟨some 6, none, .tk 10⟩])
 (.seq (.seq (.ops [] [⟨some 11, none, .mv (.t 6)⟩,
 ⟨some 12, none, .bin .lss (.t 11) (.k (.d (.int .i64 0)))⟩])
 (.cond (.t 12) (.seq (.ops [] [⟨some 13, none, .build [.d (.str []), .nil 2] []⟩,
 ⟨some 23, none, .rst 23 true 2 (.t 13)⟩,
 ⟨some 5, none, .mv (.k (.d (.bool false)))⟩])
 (.ret))
 (.skip)))
 (.seq (.ops [] [⟨some 14, none, .fa 0 1 false (.t 2)⟩,
 ⟨some 15, none, .ld false 1 (.t 14)⟩,
 ⟨some 16, none, .mv (.t 6)⟩,
 ⟨some 17, none, .ia 2 true (.t 15) (.t 16)⟩,
 ⟨some 18, none, .ld true 2 (.t 17)⟩,
 ⟨some 23, none, .rst 23 true 2 (.t 18)⟩,
 ⟨some 5, none, .mv (.k (.d (.bool true)))⟩])
 (.ret))))⟩
theorem c38 : sp 38 = some (.code F38) := by kernel_rfl

/-- tenet/split.sort$1 -/
def F60 : AFunc := ⟨8, [.tmp 3],
 .seq (.ops [] [⟨some 2, none, .box true 2 (.t 0)⟩,
 ⟨some 3, none, .mv (.k (.d (.bool false)))⟩])
 (.seq (.ops [] [⟨some 4, none, .fa 0 1 false (.t 2)⟩,
 ⟨some 5, none, .ld false 1 (.t 4)⟩,
 ⟨some 6, none, .ld false 1 (.t 1)⟩,
 ⟨some 7, none, .bin .eql (.t 5) (.t 6)⟩,
 ⟨some 3, none, .tk 7⟩])
 (.ret))⟩
theorem c60 : sp 60 = some (.code F60) := by kernel_rfl

/-- tenet/split.fun -/
def F20 : AFunc := ⟨4, [.reg 23, .tmp 5],
 .seq (.ops [] [⟨some 2, none, .box true 2 (.t 0)⟩,
 ⟨some 3, none, .box false 1 (.t 1)⟩,
 ⟨some 23, none, .ralloc true [.d (.str []), .nil 1, .d (.str []), .nil 5]⟩,
 ⟨some 5, none, .mv (.k (.d (.bool false)))⟩])
 (.seq (.ops [] [⟨some 7, none, .fa 1 1 false (.t 2)⟩,
 ⟨some 8, none, .ld false 1 (.t 7)⟩,
 ⟨some 9, none, .fn 37 [.t 3]⟩,
 ⟨some 10, none, .call 36 [.t 8, .t 9]⟩,
 ⟨some 6, none, .tk 10⟩])
 (.seq (.seq (.ops [] [⟨some 11, none, .mv (.t 6)⟩,
 ⟨some 12, none, .bin .lss (.t 11) (.k (.d (.int .i64 0)))⟩])
 (.cond (.t 12) (.seq (.ops [] [⟨some 13, none, .build [.d (.str []), .nil 1, .d (.str []), .nil 5] []⟩,
 ⟨some 23, none, .rst 23 true 4 (.t 13)⟩,
 ⟨some 5, none, .mv (.k (.d (.bool false)))⟩])
 (.ret))
 (.skip)))
 (.seq (.ops [] [⟨some 14, none, .fa 1 1 false (.t 2)⟩,
 ⟨some 15, none, .ld false 1 (.t 14)⟩,
 ⟨some 16, none, .mv (.t 6)⟩,
 ⟨some 17, none, .ia 4 true (.t 15) (.t 16)⟩,
 ⟨some 18, none, .ld true 4 (.t 17)⟩,
 ⟨some 23, none, .rst 23 true 4 (.t 18)⟩,
 ⟨some 5, none, .mv (.k (.d (.bool true)))⟩])
 (.ret))))⟩
theorem c20 : sp 20 = some (.code F20) := by kernel_rfl

/-- tenet/split.fun$1 -/
def F37 : AFunc := ⟨8, [.tmp 3],
 .seq (.ops [] [⟨some 2, none, .box true 4 (.t 0)⟩,
 ⟨some 3, none, .mv (.k (.d (.bool false)))⟩])
 (.seq (.ops [] [⟨some 4, none, .fa 0 1 false (.t 2)⟩,
 ⟨some 5, none, .ld false 1 (.t 4)⟩,
 ⟨some 6, none, .ld false 1 (.t 1)⟩,
 ⟨some 7, none, .bin .eql (.t 5) (.t 6)⟩,
 ⟨some 3, none, .tk 7⟩])
 (.ret))⟩
theorem c37 : sp 37 = some (.code F37) := by kernel_rfl

/-- tenet/split.con -/
def F39 : AFunc := ⟨9, [.tmp 4],
 .seq (.ops [] [⟨some 2, none, .box true 2 (.t 0)⟩,
 ⟨some 3, none, .box false 1 (.t 1)⟩,
 ⟨some 4, none, .mv (.k (.d (.int .i64 0)))⟩])
 (.seq (.ops [] [⟨some 5, none, .fa 1 1 false (.t 2)⟩,
 ⟨some 6, none, .ld false 1 (.t 5)⟩,
 ⟨some 7, none, .fn 62 [.t 3]⟩,
 ⟨some 8, none, .call 61 [.t 6, .t 7]⟩,
 ⟨some 4, none, .tk 8⟩])
 (.ret))⟩
theorem c39 : sp 39 = some (.code F39) := by kernel_rfl

/-- tenet/split.con$1 -/
def F62 : AFunc := ⟨8, [.tmp 3],
 .seq (.ops [] [⟨some 2, none, .box true 2 (.t 0)⟩,
 ⟨some 3, none, .mv (.k (.d (.bool false)))⟩])
 (.seq (.ops [] [⟨some 4, none, .fa 0 1 false (.t 2)⟩,
 ⟨some 5, none, .ld false 1 (.t 4)⟩,
 ⟨some 6, none, .ld false 1 (.t 1)⟩,
 ⟨some 7, none, .bin .eql (.t 5) (.t 6)⟩,
 ⟨some 3, none, .tk 7⟩])
 (.ret))⟩
theorem c62 : sp 62 = some (.code F62) := by kernel_rfl

/-- slices.IndexFunc[[]tenet/api.Sort,tenet/api.Sort] -/
def F59 : AFunc := ⟨19, [.tmp 4],
 .seq (.ops [] [⟨some 4, none, .mv (.k (.d (.int .i64 0)))⟩])
 (.seq (.seq (.ops [] [⟨some 6, none, .mv (.t 0)⟩,
 ⟨some 7, none, .len 1 (.t 6)⟩,
 ⟨some 8, none, .mv (.k (.d (.int .i64 0)))⟩])
 (.block 0 (.loop 19 [0, 1, 7, 8] (.seq (.ops [] [⟨some 9, none, .bin .lss (.t 8) (.t 7)⟩])
 (.seq (.cond (.t 9) (.skip)
 (.exit 0))
 (.seq (.block 1 (.seq (.ops [] [⟨some 10, none, .tk 8⟩,
 ⟨some 5, none, .tk 10⟩])
 (.seq (.ops [] [⟨some 11, none, .mv (.t 1)⟩,
 ⟨some 12, none, .mv (.t 0)⟩,
 ⟨some 13, none, .mv (.t 5)⟩,
 ⟨some 14, none, .ia 2 true (.t 12) (.t 13)⟩,
 ⟨some 15, none, .ld true 2 (.t 14)⟩,
 ⟨some 16, none, .callV (.t 11) [.t 15]⟩])
 (.cond (.t 16) (.seq (.ops [] [⟨some 17, none, .tk 5⟩,
 ⟨some 4, none, .tk 17⟩])
 (.ret))
 (.skip)))))
 (.ops [] [⟨some 18, none, .bin .add (.t 8) (.k (.d (.int .i64 1)))⟩,
 ⟨some 8, none, .mv (.t 18)⟩])))))))
 (.seq (.ops [] [⟨some 4, none, .mv (.k (.d (.int .i64 (-1))))⟩])
 (.ret)))⟩
theorem c59 : sp 59 = some (.code F59) := by kernel_rfl

/-- slices.IndexFunc[[]tenet/api.Fun,tenet/api.Fun] -/
def F36 : AFunc := ⟨19, [.tmp 4],
 .seq (.ops [] [⟨some 4, none, .mv (.k (.d (.int .i64 0)))⟩])
 (.seq (.seq (.ops [] [⟨some 6, none, .mv (.t 0)⟩,
 ⟨some 7, none, .len 1 (.t 6)⟩,
 ⟨some 8, none, .mv (.k (.d (.int .i64 0)))⟩])
 (.block 0 (.loop 19 [0, 1, 7, 8] (.seq (.ops [] [⟨some 9, none, .bin .lss (.t 8) (.t 7)⟩])
 (.seq (.cond (.t 9) (.skip)
 (.exit 0))
 (.seq (.block 1 (.seq (.ops [] [⟨some 10, none, .tk 8⟩,
 ⟨some 5, none, .tk 10⟩])
 (.seq (.ops [] [⟨some 11, none, .mv (.t 1)⟩,
 ⟨some 12, none, .mv (.t 0)⟩,
 ⟨some 13, none, .mv (.t 5)⟩,
 ⟨some 14, none, .ia 4 true (.t 12) (.t 13)⟩,
 ⟨some 15, none, .ld true 4 (.t 14)⟩,
 ⟨some 16, none, .callV (.t 11) [.t 15]⟩])
 (.cond (.t 16) (.seq (.ops [] [⟨some 17, none, .tk 5⟩,
 ⟨some 4, none, .tk 17⟩])
 (.ret))
 (.skip)))))
 (.ops [] [⟨some 18, none, .bin .add (.t 8) (.k (.d (.int .i64 1)))⟩,
 ⟨some 8, none, .mv (.t 18)⟩])))))))
 (.seq (.ops [] [⟨some 4, none, .mv (.k (.d (.int .i64 (-1))))⟩])
 (.ret)))⟩
theorem c36 : sp 36 = some (.code F36) := by kernel_rfl

/-- slices.IndexFunc[[]tenet/api.SortCon,tenet/api.SortCon] -/
def F61 : AFunc := ⟨19, [.tmp 4],
 .seq (.ops [] [⟨some 4, none, .mv (.k (.d (.int .i64 0)))⟩])
 (.seq (.seq (.ops [] [⟨some 6, none, .mv (.t 0)⟩,
 ⟨some 7, none, .len 1 (.t 6)⟩,
 ⟨some 8, none, .mv (.k (.d (.int .i64 0)))⟩])
 (.block 0 (.loop 19 [0, 1, 7, 8] (.seq (.ops [] [⟨some 9, none, .bin .lss (.t 8) (.t 7)⟩])
 (.seq (.cond (.t 9) (.skip)
 (.exit 0))
 (.seq (.block 1 (.seq (.ops [] [⟨some 10, none, .tk 8⟩,
 ⟨some 5, none, .tk 10⟩])
 (.seq (.ops [] [⟨some 11, none, .mv (.t 1)⟩,
 ⟨some 12, none, .mv (.t 0)⟩,
 ⟨some 13, none, .mv (.t 5)⟩,
 ⟨some 14, none, .ia 2 true (.t 12) (.t 13)⟩,
 ⟨some 15, none, .ld true 2 (.t 14)⟩,
 ⟨some 16, none, .callV (.t 11) [.t 15]⟩])
 (.cond (.t 16) (.seq (.ops [] [⟨some 17, none, .tk 5⟩,
 ⟨some 4, none, .tk 17⟩])
 (.ret))
 (.skip)))))
 (.ops [] [⟨some 18, none, .bin .add (.t 8) (.k (.d (.int .i64 1)))⟩,
 ⟨some 8, none, .mv (.t 18)⟩])))))))
 (.seq (.ops [] [⟨some 4, none, .mv (.k (.d (.int .i64 (-1))))⟩])
 (.ret)))⟩
theorem c61 : sp 61 = some (.code F61) := by kernel_rfl

/-- tenet/split.shaped -/
def F32 : AFunc := ⟨94, [.tmp 2],
 .seq (.ops [] [⟨some 1, none, .box true 2 (.t 0)⟩,
 ⟨some 2, none, .mv (.k (.d (.bool false)))⟩])
 (.seq (.seq (.ops [] [⟨some 15, none, .fa 0 1 false (.t 1)⟩,
 ⟨some 16, none, .ld false 1 (.t 15)⟩,
 ⟨some 17, none, .len 1 (.t 16)⟩,
 ⟨some 18, none, .bin .gtr (.t 17) (.k (.d (.int .i64 8)))⟩,
 ⟨some 19, none, .mv (.t 18)⟩,
 ⟨some 20, some (19, false), .fa 1 1 false (.t 1)⟩,
 ⟨some 21, some (19, false), .ld false 1 (.t 20)⟩,
 ⟨some 22, some (19, false), .len 1 (.t 21)⟩,
 ⟨some 23, some (19, false), .bin .gtr (.t 22) (.k (.d (.int .i64 12)))⟩,
 ⟨some 24, none, .pick (.t 19) (.k (.d (.bool true))) (.t 23)⟩])
 (.cond (.t 24) (.seq (.ops [] [⟨some 2, none, .mv (.k (.d (.bool false)))⟩])
 (.ret))
 (.skip)))
 (.seq (.ops [] [⟨some 25, none, .mkmap⟩,
 ⟨some 3, none, .alloc false [.d (.fmap [] [])]⟩,
 ⟨none, none, .st false 1 (.t 3) (.t 25)⟩])
 (.seq (.ops [] [⟨some 26, none, .fn 56 [.t 3]⟩,
 ⟨some 4, none, .tk 26⟩])
 (.seq (.seq (.ops [] [⟨some 27, none, .fa 0 1 false (.t 1)⟩,
 ⟨some 28, none, .ld false 1 (.t 27)⟩,
 ⟨some 29, none, .len 1 (.t 28)⟩,
 ⟨some 30, none, .mv (.k (.d (.int .i64 0)))⟩])
 (.block 0 (.loop 94 [1, 4, 28, 29, 30] (.seq (.ops [] [⟨some 31, none, .bin .lss (.t 30) (.t 29)⟩])
 (.seq (.cond (.t 31) (.skip)
 (.exit 0))
 (.seq (.block 1 (.seq (.ops [] [⟨some 32, none, .ia 2 true (.t 28) (.t 30)⟩,
 ⟨some 33, none, .ld true 2 (.t 32)⟩,
 ⟨some 6, none, .alloc true [.d (.str []), .nil 2]⟩,
 ⟨none, none, .st true 2 (.t 6) (.t 33)⟩])
 (.seq (.seq (.ops [] [⟨some 34, none, .mv (.t 4)⟩,
 ⟨some 35, none, .fa 0 1 false (.t 6)⟩,
 ⟨some 36, none, .ld false 1 (.t 35)⟩,
 ⟨some 37, none, .callVS (.t 34) [.t 36]⟩,
 ⟨some 38, none, .not (.t 37)⟩,
 ⟨some 39, none, .mv (.t 38)⟩,
 ⟨some 40, some (39, false), .fa 1 1 false (.t 6)⟩,
 ⟨some 41, some (39, false), .ld false 1 (.t 40)⟩,
 ⟨some 42, some (39, false), .len 1 (.t 41)⟩,
 ⟨some 43, some (39, false), .bin .gtr (.t 42) (.k (.d (.int .i64 8)))⟩,
 ⟨some 44, none, .pick (.t 39) (.k (.d (.bool true))) (.t 43)⟩])
 (.cond (.t 44) (.seq (.ops [] [⟨some 2, none, .mv (.k (.d (.bool false)))⟩])
 (.ret))
 (.skip)))
 (.seq (.ops [] [⟨some 45, none, .fa 1 1 false (.t 6)⟩,
 ⟨some 46, none, .ld false 1 (.t 45)⟩,
 ⟨some 47, none, .len 1 (.t 46)⟩,
 ⟨some 48, none, .mv (.k (.d (.int .i64 0)))⟩])
 (.block 2 (.loop 94 [1, 4, 28, 29, 30, 46, 47, 48] (.seq (.ops [] [⟨some 49, none, .bin .lss (.t 48) (.t 47)⟩])
 (.seq (.cond (.t 49) (.skip)
 (.exit 2))
 (.seq (.block 3 (.seq (.ops [] [⟨some 50, none, .ia 2 true (.t 46) (.t 48)⟩,
 ⟨some 51, none, .ld true 2 (.t 50)⟩,
 ⟨some 8, none, .alloc true [.d (.str []), .nil 1]⟩,
 ⟨none, none, .st true 2 (.t 8) (.t 51)⟩])
 (.seq (.seq (.ops [] [⟨some 52, none, .mv (.t 4)⟩,
 ⟨some 53, none, .fa 0 1 false (.t 8)⟩,
 ⟨some 54, none, .ld false 1 (.t 53)⟩,
 ⟨some 55, none, .callVS (.t 52) [.t 54]⟩,
 ⟨some 56, none, .not (.t 55)⟩,
 ⟨some 57, none, .mv (.t 56)⟩,
 ⟨some 58, some (57, false), .fa 1 1 false (.t 8)⟩,
 ⟨some 59, some (57, false), .ld false 1 (.t 58)⟩,
 ⟨some 60, some (57, false), .len 1 (.t 59)⟩,
 ⟨some 61, some (57, false), .bin .gtr (.t 60) (.k (.d (.int .i64 4)))⟩,
 ⟨some 62, none, .pick (.t 57) (.k (.d (.bool true))) (.t 61)⟩])
 (.cond (.t 62) (.seq (.ops [] [⟨some 2, none, .mv (.k (.d (.bool false)))⟩])
 (.ret))
 (.skip)))
 (.seq (.ops [] [⟨some 63, none, .fa 1 1 false (.t 8)⟩,
 ⟨some 64, none, .ld false 1 (.t 63)⟩,
 ⟨some 65, none, .len 1 (.t 64)⟩,
 ⟨some 66, none, .mv (.k (.d (.int .i64 0)))⟩])
 (.block 4 (.loop 94 [1, 4, 28, 29, 30, 46, 47, 48, 64, 65, 66] (.seq (.ops [] [⟨some 67, none, .bin .lss (.t 66) (.t 65)⟩])
 (.seq (.cond (.t 67) (.skip)
 (.exit 4))
 (.seq (.block 5 (.seq (.ops [] [⟨some 68, none, .ia 1 false (.t 64) (.t 66)⟩,
 ⟨some 69, none, .ld false 1 (.t 68)⟩,
 ⟨some 10, none, .tk 69⟩])
 (.seq (.ops [] [⟨some 71, none, .ld true 2 (.t 1)⟩,
 ⟨some 72, none, .mv (.t 10)⟩,
 ⟨some 73, none, .call 38 [.t 71, .t 72]⟩,
 ⟨some 70, none, .mv (.t 73)⟩,
 ⟨some 74, none, .ext (.t 70) 0⟩,
 ⟨some 75, none, .ext (.t 70) 1⟩,
 ⟨some 11, none, .alloc true [.d (.str []), .nil 2]⟩,
 ⟨none, none, .st true 2 (.t 11) (.t 74)⟩,
 ⟨some 12, none, .tk 75⟩])
 (.seq (.ops [] [⟨some 76, none, .mv (.t 12)⟩,
 ⟨some 77, none, .not (.t 76)⟩])
 (.cond (.t 77) (.seq (.ops [] [⟨some 2, none, .mv (.k (.d (.bool false)))⟩])
 (.ret))
 (.skip))))))
 (.ops [] [⟨some 78, none, .bin .add (.t 66) (.k (.d (.int .i64 1)))⟩,
 ⟨some 66, none, .mv (.t 78)⟩]))))))))))
 (.ops [] [⟨some 79, none, .bin .add (.t 48) (.k (.d (.int .i64 1)))⟩,
 ⟨some 48, none, .mv (.t 79)⟩]))))))))))
 (.ops [] [⟨some 80, none, .bin .add (.t 30) (.k (.d (.int .i64 1)))⟩,
 ⟨some 30, none, .mv (.t 80)⟩])))))))
 (.seq (.seq (.ops [] [⟨some 81, none, .fa 1 1 false (.t 1)⟩,
 ⟨some 82, none, .ld false 1 (.t 81)⟩,
 ⟨some 83, none, .len 1 (.t 82)⟩,
 ⟨some 84, none, .mv (.k (.d (.int .i64 0)))⟩])
 (.block 6 (.loop 94 [4, 82, 83, 84] (.seq (.ops [] [⟨some 85, none, .bin .lss (.t 84) (.t 83)⟩])
 (.seq (.cond (.t 85) (.skip)
 (.exit 6))
 (.seq (.block 7 (.seq (.ops [] [⟨some 86, none, .ia 4 true (.t 82) (.t 84)⟩,
 ⟨some 87, none, .ld true 4 (.t 86)⟩,
 ⟨some 14, none, .alloc true [.d (.str []), .nil 1, .d (.str []), .nil 5]⟩,
 ⟨none, none, .st true 4 (.t 14) (.t 87)⟩])
 (.seq (.ops [] [⟨some 88, none, .mv (.t 4)⟩,
 ⟨some 89, none, .fa 0 1 false (.t 14)⟩,
 ⟨some 90, none, .ld false 1 (.t 89)⟩,
 ⟨some 91, none, .callVS (.t 88) [.t 90]⟩,
 ⟨some 92, none, .not (.t 91)⟩])
 (.cond (.t 92) (.seq (.ops [] [⟨some 2, none, .mv (.k (.d (.bool false)))⟩])
 (.ret))
 (.skip)))))
 (.ops [] [⟨some 93, none, .bin .add (.t 84) (.k (.d (.int .i64 1)))⟩,
 ⟨some 84, none, .mv (.t 93)⟩])))))))
 (.seq (.ops [] [⟨some 2, none, .mv (.k (.d (.bool true)))⟩])
 (.ret)))))))⟩
theorem c32 : sp 32 = some (.code F32) := by kernel_rfl

/-- tenet/split.shaped$1 -/
def F56 : AFunc := ⟨16, [.tmp 3],
 .seq (.ops [] [⟨some 3, none, .mv (.k (.d (.bool false)))⟩])
 (.seq (.ops [] [⟨some 5, none, .mv (.t 0)⟩,
 ⟨some 6, none, .call 57 [.t 5]⟩,
 ⟨some 7, none, .mv (.t 6)⟩,
 ⟨some 8, some (7, true), .ld false 1 (.t 1)⟩,
 ⟨some 9, some (7, true), .mv (.t 0)⟩,
 ⟨some 10, some (7, true), .look 1 false (.bool false) (.t 8) (.t 9)⟩,
 ⟨some 11, some (7, true), .not (.t 10)⟩,
 ⟨some 12, none, .pick (.t 7) (.t 11) (.k (.d (.bool false)))⟩,
 ⟨some 4, none, .tk 12⟩])
 (.seq (.ops [] [⟨some 13, none, .ld false 1 (.t 1)⟩,
 ⟨some 14, none, .mv (.t 0)⟩,
 ⟨none, none, .mup 1 (.t 13) (.t 14) (.k (.d (.bool true)))⟩])
 (.seq (.ops [] [⟨some 15, none, .tk 4⟩,
 ⟨some 3, none, .tk 15⟩])
 (.ret))))⟩
theorem c56 : sp 56 = some (.code F56) := by kernel_rfl

/-- tenet/split.typed -/
def F33 : AFunc := ⟨48, [.tmp 4],
 .seq (.ops [] [⟨some 2, none, .box true 2 (.t 0)⟩,
 ⟨some 3, none, .box true 4 (.t 1)⟩,
 ⟨some 4, none, .mv (.k (.d (.bool false)))⟩])
 (.seq (.ops [] [⟨some 12, none, .ld true 2 (.t 2)⟩,
 ⟨some 13, none, .fa 2 1 false (.t 3)⟩,
 ⟨some 14, none, .ld false 1 (.t 13)⟩,
 ⟨some 15, none, .call 38 [.t 12, .t 14]⟩,
 ⟨some 11, none, .mv (.t 15)⟩,
 ⟨some 16, none, .ext (.t 11) 0⟩,
 ⟨some 17, none, .ext (.t 11) 1⟩,
 ⟨some 5, none, .alloc true [.d (.str []), .nil 2]⟩,
 ⟨none, none, .st true 2 (.t 5) (.t 16)⟩,
 ⟨some 6, none, .tk 17⟩])
 (.seq (.seq (.ops [] [⟨some 18, none, .mv (.t 6)⟩,
 ⟨some 19, none, .not (.t 18)⟩,
 ⟨some 20, none, .mv (.t 19)⟩,
 ⟨some 21, some (20, false), .fa 1 1 false (.t 3)⟩,
 ⟨some 22, some (20, false), .ld false 1 (.t 21)⟩,
 ⟨some 23, some (20, false), .len 1 (.t 22)⟩,
 ⟨some 24, some (20, false), .bin .gtr (.t 23) (.k (.d (.int .i64 6)))⟩,
 ⟨some 25, none, .pick (.t 20) (.k (.d (.bool true))) (.t 24)⟩,
 ⟨some 26, none, .mv (.t 25)⟩,
 ⟨some 27, some (26, false), .fa 3 1 false (.t 3)⟩,
 ⟨some 28, some (26, false), .ld false 1 (.t 27)⟩,
 ⟨some 29, some (26, false), .len 1 (.t 28)⟩,
 ⟨some 30, some (26, false), .bin .gtr (.t 29) (.k (.d (.int .i64 16)))⟩,
 ⟨some 31, none, .pick (.t 26) (.k (.d (.bool true))) (.t 30)⟩])
 (.cond (.t 31) (.seq (.ops [] [⟨some 4, none, .mv (.k (.d (.bool false)))⟩])
 (.ret))
 (.skip)))
 (.seq (.seq (.ops [] [⟨some 32, none, .fa 1 1 false (.t 3)⟩,
 ⟨some 33, none, .ld false 1 (.t 32)⟩,
 ⟨some 34, none, .len 1 (.t 33)⟩,
 ⟨some 35, none, .mv (.k (.d (.int .i64 0)))⟩])
 (.block 0 (.loop 48 [2, 33, 34, 35] (.seq (.ops [] [⟨some 36, none, .bin .lss (.t 35) (.t 34)⟩])
 (.seq (.cond (.t 36) (.skip)
 (.exit 0))
 (.seq (.block 1 (.seq (.ops [] [⟨some 37, none, .ia 1 false (.t 33) (.t 35)⟩,
 ⟨some 38, none, .ld false 1 (.t 37)⟩,
 ⟨some 8, none, .tk 38⟩])
 (.seq (.ops [] [⟨some 40, none, .ld true 2 (.t 2)⟩,
 ⟨some 41, none, .mv (.t 8)⟩,
 ⟨some 42, none, .call 38 [.t 40, .t 41]⟩,
 ⟨some 39, none, .mv (.t 42)⟩,
 ⟨some 43, none, .ext (.t 39) 0⟩,
 ⟨some 44, none, .ext (.t 39) 1⟩,
 ⟨some 9, none, .alloc true [.d (.str []), .nil 2]⟩,
 ⟨none, none, .st true 2 (.t 9) (.t 43)⟩,
 ⟨some 10, none, .tk 44⟩])
 (.seq (.ops [] [⟨some 45, none, .mv (.t 10)⟩,
 ⟨some 46, none, .not (.t 45)⟩])
 (.cond (.t 46) (.seq (.ops [] [⟨some 4, none, .mv (.k (.d (.bool false)))⟩])
 (.ret))
 (.skip))))))
 (.ops [] [⟨some 47, none, .bin .add (.t 35) (.k (.d (.int .i64 1)))⟩,
 ⟨some 35, none, .mv (.t 47)⟩])))))))
 (.seq (.ops [] [⟨some 4, none, .mv (.k (.d (.bool true)))⟩])
 (.ret)))))⟩
theorem c33 : sp 33 = some (.code F33) := by kernel_rfl

/-- tenet/split.values -/
def F28 : AFunc := ⟨40, [.tmp 2],
 .seq (.ops [] [⟨some 1, none, .box true 2 (.t 0)⟩,
 ⟨some 2, none, .mv (.k (.d (.fmap [] [])))⟩])
 (.seq (.ops [] [⟨some 8, none, .mkmap⟩,
 ⟨some 3, none, .alloc false [.d (.fmap [] [])]⟩,
 ⟨none, none, .st false 1 (.t 3) (.t 8)⟩])
 (.seq (.seq (.ops [] [⟨some 9, none, .fa 0 1 false (.t 1)⟩,
 ⟨some 10, none, .ld false 1 (.t 9)⟩,
 ⟨some 11, none, .len 1 (.t 10)⟩,
 ⟨some 12, none, .mv (.k (.d (.int .i64 0)))⟩])
 (.block 0 (.loop 40 [1, 3, 11, 12] (.seq (.ops [] [⟨some 13, none, .bin .lss (.t 12) (.t 11)⟩])
 (.seq (.cond (.t 13) (.skip)
 (.exit 0))
 (.seq (.block 1 (.seq (.ops [] [⟨some 14, none, .fa 0 1 false (.t 1)⟩,
 ⟨some 15, none, .ld false 1 (.t 14)⟩,
 ⟨some 16, none, .len 1 (.t 15)⟩,
 ⟨some 17, none, .mv (.k (.d (.int .i64 0)))⟩])
 (.block 2 (.loop 40 [1, 3, 11, 12, 15, 16, 17] (.seq (.ops [] [⟨some 18, none, .bin .lss (.t 17) (.t 16)⟩])
 (.seq (.cond (.t 18) (.skip)
 (.exit 2))
 (.seq (.block 3 (.seq (.ops [] [⟨some 19, none, .ia 2 true (.t 15) (.t 17)⟩,
 ⟨some 20, none, .ld true 2 (.t 19)⟩,
 ⟨some 5, none, .alloc true [.d (.str []), .nil 2]⟩,
 ⟨none, none, .st true 2 (.t 5) (.t 20)⟩])
 (.seq (.ops [] [⟨some 21, none, .fa 1 1 false (.t 5)⟩,
 ⟨some 22, none, .ld false 1 (.t 21)⟩,
 ⟨some 23, none, .len 1 (.t 22)⟩,
 ⟨some 24, none, .mv (.k (.d (.int .i64 0)))⟩])
 (.block 4 (.loop 40 [1, 3, 5, 11, 12, 15, 16, 17, 22, 23, 24] (.seq (.ops [] [⟨some 25, none, .bin .lss (.t 24) (.t 23)⟩])
 (.seq (.cond (.t 25) (.skip)
 (.exit 4))
 (.seq (.block 5 (.seq (.ops [] [⟨some 26, none, .ia 2 true (.t 22) (.t 24)⟩,
 ⟨some 27, none, .ld true 2 (.t 26)⟩,
 ⟨some 7, none, .alloc true [.d (.str []), .nil 1]⟩,
 ⟨none, none, .st true 2 (.t 7) (.t 27)⟩])
 (.seq (.ops [] [⟨some 28, none, .fa 1 1 false (.t 7)⟩,
 ⟨some 29, none, .ld false 1 (.t 28)⟩,
 ⟨some 30, none, .fn 48 [.t 3]⟩,
 ⟨some 31, none, .call 34 [.t 29, .t 30]⟩,
 ⟨some 32, none, .not (.t 31)⟩])
 (.cond (.t 32) (.ops [] [⟨some 33, none, .ld false 1 (.t 3)⟩,
 ⟨some 34, none, .fa 0 1 false (.t 5)⟩,
 ⟨some 35, none, .ld false 1 (.t 34)⟩,
 ⟨none, none, .mup 1 (.t 33) (.t 35) (.k (.d (.bool true)))⟩])
 (.skip)))))
 (.ops [] [⟨some 36, none, .bin .add (.t 24) (.k (.d (.int .i64 1)))⟩,
 ⟨some 24, none, .mv (.t 36)⟩])))))))))
 (.ops [] [⟨some 37, none, .bin .add (.t 17) (.k (.d (.int .i64 1)))⟩,
 ⟨some 17, none, .mv (.t 37)⟩]))))))))
 (.ops [] [⟨some 38, none, .bin .add (.t 12) (.k (.d (.int .i64 1)))⟩,
 ⟨some 12, none, .mv (.t 38)⟩])))))))
 (.seq (.ops [] [⟨some 39, none, .ld false 1 (.t 3)⟩,
 ⟨some 2, none, .tk 39⟩])
 (.ret))))⟩
theorem c28 : sp 28 = some (.code F28) := by kernel_rfl

/-- tenet/split.values$1 -/
def F48 : AFunc := ⟨8, [.tmp 3],
 .seq (.ops [] [⟨some 3, none, .mv (.k (.d (.bool false)))⟩])
 (.seq (.ops [] [⟨some 4, none, .ld false 1 (.t 1)⟩,
 ⟨some 5, none, .mv (.t 0)⟩,
 ⟨some 6, none, .look 1 false (.bool false) (.t 4) (.t 5)⟩,
 ⟨some 7, none, .not (.t 6)⟩,
 ⟨some 3, none, .tk 7⟩])
 (.ret))⟩
theorem c48 : sp 48 = some (.code F48) := by kernel_rfl

/-- slices.ContainsFunc[[]string,string] -/
def F34 : AFunc := ⟨9, [.tmp 4],
 .seq (.ops [] [⟨some 4, none, .mv (.k (.d (.bool false)))⟩])
 (.seq (.ops [] [⟨some 5, none, .mv (.t 0)⟩,
 ⟨some 6, none, .mv (.t 1)⟩,
 ⟨some 7, none, .call 58 [.t 5, .t 6]⟩,
 ⟨some 8, none, .bin .geq (.t 7) (.k (.d (.int .i64 0)))⟩,
 ⟨some 4, none, .tk 8⟩])
 (.ret))⟩
theorem c34 : sp 34 = some (.code F34) := by kernel_rfl

/-- slices.IndexFunc[[]string,string] -/
def F58 : AFunc := ⟨19, [.tmp 4],
 .seq (.ops [] [⟨some 4, none, .mv (.k (.d (.int .i64 0)))⟩])
 (.seq (.seq (.ops [] [⟨some 6, none, .mv (.t 0)⟩,
 ⟨some 7, none, .len 1 (.t 6)⟩,
 ⟨some 8, none, .mv (.k (.d (.int .i64 0)))⟩])
 (.block 0 (.loop 19 [0, 1, 7, 8] (.seq (.ops [] [⟨some 9, none, .bin .lss (.t 8) (.t 7)⟩])
 (.seq (.cond (.t 9) (.skip)
 (.exit 0))
 (.seq (.block 1 (.seq (.ops [] [⟨some 10, none, .tk 8⟩,
 ⟨some 5, none, .tk 10⟩])
 (.seq (.ops [] [⟨some 11, none, .mv (.t 1)⟩,
 ⟨some 12, none, .mv (.t 0)⟩,
 ⟨some 13, none, .mv (.t 5)⟩,
 ⟨some 14, none, .ia 1 false (.t 12) (.t 13)⟩,
 ⟨some 15, none, .ld false 1 (.t 14)⟩,
 ⟨some 16, none, .callV (.t 11) [.t 15]⟩])
 (.cond (.t 16) (.seq (.ops [] [⟨some 17, none, .tk 5⟩,
 ⟨some 4, none, .tk 17⟩])
 (.ret))
 (.skip)))))
 (.ops [] [⟨some 18, none, .bin .add (.t 8) (.k (.d (.int .i64 1)))⟩,
 ⟨some 8, none, .mv (.t 18)⟩])))))))
 (.seq (.ops [] [⟨some 4, none, .mv (.k (.d (.int .i64 (-1))))⟩])
 (.ret)))⟩
theorem c58 : sp 58 = some (.code F58) := by kernel_rfl

end Go.Sp

/-! SmCodeB -/


/-! The program's functions as abstract code. -/
namespace Go.Sp
open Go.Abs Go.Proofs
set_option maxRecDepth 20000

/-- tenet/split.basic -/
def F19 : AFunc := ⟨70, [.tmp 2, .tmp 3, .tmp 4],
 .seq (.ops [] [⟨some 1, none, .box true 2 (.t 0)⟩,
 ⟨some 2, none, .mv (.k (.d (.int .i64 0)))⟩,
 ⟨some 3, none, .mv (.k (.d (.int .i64 0)))⟩,
 ⟨some 4, none, .mv (.k (.d (.int .i64 0)))⟩])
 (.seq (.seq (.ops [] [⟨some 14, none, .ld true 2 (.t 1)⟩,
 ⟨some 15, none, .call 32 [.t 14]⟩,
 ⟨some 16, none, .not (.t 15)⟩])
 (.cond (.t 16) (.seq (.ops [] [⟨some 2, none, .mv (.k (.d (.int .i64 4)))⟩,
 ⟨some 3, none, .mv (.k (.d (.int .i64 (-1))))⟩,
 ⟨some 4, none, .mv (.k (.d (.int .i64 (-1))))⟩])
 (.ret))
 (.skip)))
 (.seq (.seq (.ops [] [⟨some 17, none, .fa 1 1 false (.t 1)⟩,
 ⟨some 18, none, .ld false 1 (.t 17)⟩,
 ⟨some 19, none, .len 1 (.t 18)⟩,
 ⟨some 20, none, .mv (.k (.d (.int .i64 0)))⟩])
 (.block 0 (.loop 70 [1, 18, 19, 20] (.seq (.ops [] [⟨some 21, none, .bin .lss (.t 20) (.t 19)⟩])
 (.seq (.cond (.t 21) (.skip)
 (.exit 0))
 (.seq (.block 1 (.seq (.ops [] [⟨some 22, none, .tk 20⟩,
 ⟨some 23, none, .ia 4 true (.t 18) (.t 20)⟩,
 ⟨some 24, none, .ld true 4 (.t 23)⟩,
 ⟨some 6, none, .alloc true [.d (.str []), .nil 1, .d (.str []), .nil 5]⟩,
 ⟨some 5, none, .tk 22⟩,
 ⟨none, none, .st true 4 (.t 6) (.t 24)⟩])
 (.seq (.ops [] [⟨some 25, none, .ld true 2 (.t 1)⟩,
 ⟨some 26, none, .ld true 4 (.t 6)⟩,
 ⟨some 27, none, .call 33 [.t 25, .t 26]⟩,
 ⟨some 28, none, .not (.t 27)⟩])
 (.cond (.t 28) (.seq (.ops [] [⟨some 29, none, .tk 5⟩,
 ⟨some 2, none, .mv (.k (.d (.int .i64 4)))⟩,
 ⟨some 3, none, .tk 29⟩,
 ⟨some 4, none, .mv (.k (.d (.int .i64 (-1))))⟩])
 (.ret))
 (.skip)))))
 (.ops [] [⟨some 30, none, .bin .add (.t 20) (.k (.d (.int .i64 1)))⟩,
 ⟨some 20, none, .mv (.t 30)⟩])))))))
 (.seq (.ops [] [⟨some 31, none, .ld true 2 (.t 1)⟩,
 ⟨some 32, none, .call 28 [.t 31]⟩,
 ⟨some 7, none, .alloc false [.d (.fmap [] [])]⟩,
 ⟨none, none, .st false 1 (.t 7) (.t 32)⟩])
 (.seq (.seq (.ops [] [⟨some 33, none, .fa 1 1 false (.t 1)⟩,
 ⟨some 34, none, .ld false 1 (.t 33)⟩,
 ⟨some 35, none, .len 1 (.t 34)⟩,
 ⟨some 36, none, .mv (.k (.d (.int .i64 0)))⟩])
 (.block 2 (.loop 70 [1, 7, 34, 35, 36] (.seq (.ops [] [⟨some 37, none, .bin .lss (.t 36) (.t 35)⟩])
 (.seq (.cond (.t 37) (.skip)
 (.exit 2))
 (.seq (.block 3 (.seq (.ops [] [⟨some 38, none, .tk 36⟩,
 ⟨some 39, none, .ia 4 true (.t 34) (.t 36)⟩,
 ⟨some 40, none, .ld true 4 (.t 39)⟩,
 ⟨some 9, none, .alloc true [.d (.str []), .nil 1, .d (.str []), .nil 5]⟩,
 ⟨some 8, none, .tk 38⟩,
 ⟨none, none, .st true 4 (.t 9) (.t 40)⟩])
 (.seq (.ops [] [⟨some 41, none, .fa 3 1 false (.t 9)⟩,
 ⟨some 42, none, .ld false 1 (.t 41)⟩,
 ⟨some 43, none, .len 1 (.t 42)⟩,
 ⟨some 44, none, .mv (.k (.d (.int .i64 0)))⟩])
 (.block 4 (.loop 70 [1, 7, 8, 9, 34, 35, 36, 42, 43, 44] (.seq (.ops [] [⟨some 45, none, .bin .lss (.t 44) (.t 43)⟩])
 (.seq (.cond (.t 45) (.skip)
 (.exit 4))
 (.seq (.block 5 (.seq (.ops [] [⟨some 46, none, .tk 44⟩,
 ⟨some 47, none, .ia 5 true (.t 42) (.t 44)⟩,
 ⟨some 48, none, .ld true 5 (.t 47)⟩,
 ⟨some 11, none, .alloc true [.nil 3, .d (.bool false), .d (.int .i64 0), .d (.str []), .nil 3]⟩,
 ⟨some 10, none, .tk 46⟩,
 ⟨none, none, .st true 5 (.t 11) (.t 48)⟩])
 (.seq (.ops [] [⟨some 50, none, .ld true 2 (.t 1)⟩,
 ⟨some 51, none, .ld true 4 (.t 9)⟩,
 ⟨some 52, none, .ld true 5 (.t 11)⟩,
 ⟨some 53, none, .call 23 [.t 50, .t 51, .t 52]⟩,
 ⟨some 49, none, .mv (.t 53)⟩,
 ⟨some 54, none, .ext (.t 49) 0⟩,
 ⟨some 55, none, .ext (.t 49) 1⟩,
 ⟨some 12, none, .tk 54⟩,
 ⟨some 13, none, .tk 55⟩])
 (.seq (.seq (.ops [] [⟨some 56, none, .mv (.t 13)⟩,
 ⟨some 57, none, .not (.t 56)⟩])
 (.cond (.t 57) (.seq (.ops [] [⟨some 58, none, .tk 8⟩,
 ⟨some 59, none, .tk 10⟩,
 ⟨some 2, none, .mv (.k (.d (.int .i64 152)))⟩,
 ⟨some 3, none, .tk 58⟩,
 ⟨some 4, none, .tk 59⟩])
 (.ret))
 (.skip)))
 (.seq (.ops [] [⟨some 60, none, .mv (.t 12)⟩,
 ⟨some 61, none, .nilck (.t 60)⟩,
 ⟨some 62, none, .fa 4 1 false (.t 61)⟩,
 ⟨some 63, none, .ld false 1 (.t 62)⟩,
 ⟨some 64, none, .fn 35 [.t 7]⟩,
 ⟨some 65, none, .call 34 [.t 63, .t 64]⟩])
 (.cond (.t 65) (.seq (.ops [] [⟨some 66, none, .tk 8⟩,
 ⟨some 67, none, .tk 10⟩,
 ⟨some 2, none, .mv (.k (.d (.int .i64 153)))⟩,
 ⟨some 3, none, .tk 66⟩,
 ⟨some 4, none, .tk 67⟩])
 (.ret))
 (.skip)))))))
 (.ops [] [⟨some 68, none, .bin .add (.t 44) (.k (.d (.int .i64 1)))⟩,
 ⟨some 44, none, .mv (.t 68)⟩])))))))))
 (.ops [] [⟨some 69, none, .bin .add (.t 36) (.k (.d (.int .i64 1)))⟩,
 ⟨some 36, none, .mv (.t 69)⟩])))))))
 (.seq (.ops [] [⟨some 2, none, .mv (.k (.d (.int .i64 0)))⟩,
 ⟨some 3, none, .mv (.k (.d (.int .i64 (-1))))⟩,
 ⟨some 4, none, .mv (.k (.d (.int .i64 (-1))))⟩])
 (.ret))))))⟩
theorem c19 : sp 19 = some (.code F19) := by kernel_rfl

/-- tenet/split.basic$1 -/
def F35 : AFunc := ⟨7, [.tmp 3],
 .seq (.ops [] [⟨some 3, none, .mv (.k (.d (.bool false)))⟩])
 (.seq (.ops [] [⟨some 4, none, .ld false 1 (.t 1)⟩,
 ⟨some 5, none, .mv (.t 0)⟩,
 ⟨some 6, none, .look 1 false (.bool false) (.t 4) (.t 5)⟩,
 ⟨some 3, none, .tk 6⟩])
 (.ret))⟩
theorem c35 : sp 35 = some (.code F35) := by kernel_rfl

/-- tenet/split.asked -/
def F11 : AFunc := ⟨4, [.reg 34, .tmp 5],
 .seq (.ops [] [⟨some 2, none, .box true 2 (.t 0)⟩,
 ⟨some 34, none, .ralloc true [.d (.str []), .nil 1, .d (.str []), .nil 5]⟩,
 ⟨some 5, none, .mv (.k (.d (.int .i64 0)))⟩])
 (.seq (.seq (.ops [] [⟨some 12, none, .ld true 2 (.t 2)⟩,
 ⟨some 13, none, .call 19 [.t 12]⟩,
 ⟨some 11, none, .mv (.t 13)⟩,
 ⟨some 14, none, .ext (.t 11) 0⟩,
 ⟨some 15, none, .ext (.t 11) 1⟩,
 ⟨some 16, none, .ext (.t 11) 2⟩,
 ⟨some 6, none, .tk 14⟩,
 ⟨some 7, none, .tk 15⟩,
 ⟨some 8, none, .tk 16⟩])
 (.seq (.ops [] [⟨some 17, none, .mv (.t 6)⟩,
 ⟨some 18, none, .bin .neq (.t 17) (.k (.d (.int .i64 0)))⟩])
 (.cond (.t 18) (.seq (.ops [] [⟨some 19, none, .build [.d (.str []), .nil 1, .d (.str []), .nil 5] []⟩,
 ⟨some 34, none, .rst 34 true 4 (.t 19)⟩,
 ⟨some 5, none, .mv (.k (.d (.int .i64 4)))⟩])
 (.ret))
 (.skip))))
 (.seq (.ops [] [⟨some 21, none, .ld true 2 (.t 2)⟩,
 ⟨some 22, none, .mv (.t 1)⟩,
 ⟨some 23, none, .call 20 [.t 21, .t 22]⟩,
 ⟨some 20, none, .mv (.t 23)⟩,
 ⟨some 24, none, .ext (.t 20) 0⟩,
 ⟨some 25, none, .ext (.t 20) 1⟩,
 ⟨some 9, none, .alloc true [.d (.str []), .nil 1, .d (.str []), .nil 5]⟩,
 ⟨none, none, .st true 4 (.t 9) (.t 24)⟩,
 ⟨some 10, none, .tk 25⟩])
 (.seq (.seq (.ops [] [⟨some 26, none, .mv (.t 10)⟩,
 ⟨some 27, none, .not (.t 26)⟩])
 (.cond (.t 27) (.seq (.ops [] [⟨some 28, none, .build [.d (.str []), .nil 1, .d (.str []), .nil 5] []⟩,
 ⟨some 34, none, .rst 34 true 4 (.t 28)⟩,
 ⟨some 5, none, .mv (.k (.d (.int .i64 3)))⟩])
 (.ret))
 (.skip)))
 (.seq (.ops [] [⟨some 29, none, .ld true 4 (.t 9)⟩,
 ⟨some 34, none, .rst 34 true 4 (.t 29)⟩,
 ⟨some 5, none, .mv (.k (.d (.int .i64 0)))⟩])
 (.ret)))))⟩
theorem c11 : sp 11 = some (.code F11) := by kernel_rfl

/-- tenet/split.formed -/
def F23 : AFunc := ⟨86, [.tmp 6, .tmp 7],
 .seq (.ops [] [⟨some 3, none, .box true 2 (.t 0)⟩,
 ⟨some 4, none, .box true 4 (.t 1)⟩,
 ⟨some 5, none, .box true 5 (.t 2)⟩,
 ⟨some 6, none, .mv (.k (.d (.nilP)))⟩,
 ⟨some 7, none, .mv (.k (.d (.bool false)))⟩])
 (.seq (.ops [] [⟨some 14, none, .ld true 2 (.t 3)⟩,
 ⟨some 15, none, .build [.nil 2, .nil 4, .nil 3, .nil 3, .nil 1, .d (.int .i64 0)] [(0, 2, (.t 14))]⟩,
 ⟨some 16, none, .box true 6 (.t 15)⟩,
 ⟨some 8, none, .tk 16⟩])
 (.seq (.seq (.ops [] [⟨some 17, none, .tk 8⟩,
 ⟨some 18, none, .fa 0 1 false (.t 5)⟩,
 ⟨some 19, none, .ld false 1 (.t 18)⟩,
 ⟨some 20, none, .fa 1 1 false (.t 4)⟩,
 ⟨some 21, none, .ld false 1 (.t 20)⟩,
 ⟨some 22, none, .callS 43 [.t 17, .t 19, .t 21, .k (.nil 1)]⟩,
 ⟨some 23, none, .not (.t 22)⟩,
 ⟨some 24, none, .mv (.t 23)⟩,
 ⟨some 25, some (24, false), .mv (.t 8)⟩,
 ⟨some 26, some (24, false), .nilck (.t 25)⟩,
 ⟨some 27, some (24, false), .fa 5 1 false (.t 26)⟩,
 ⟨some 28, some (24, false), .ld false 1 (.t 27)⟩,
 ⟨some 29, some (24, false), .bin .gtr (.t 28) (.k (.d (.int .i64 40)))⟩,
 ⟨some 30, none, .pick (.t 24) (.k (.d (.bool true))) (.t 29)⟩])
 (.cond (.t 30) (.seq (.ops [] [⟨some 6, none, .mv (.k (.d (.nilP)))⟩,
 ⟨some 7, none, .mv (.k (.d (.bool false)))⟩])
 (.ret))
 (.skip)))
 (.seq (.seq (.ops [] [⟨some 31, none, .mv (.t 8)⟩,
 ⟨some 32, none, .nilck (.t 31)⟩,
 ⟨some 33, none, .fa 3 1 false (.t 32)⟩,
 ⟨some 34, none, .ld false 1 (.t 33)⟩,
 ⟨some 35, none, .len 1 (.t 34)⟩,
 ⟨some 36, none, .mv (.k (.d (.int .i64 0)))⟩])
 (.block 0 (.loop 86 [4, 5, 8, 34, 35, 36] (.seq (.ops [] [⟨some 37, none, .bin .lss (.t 36) (.t 35)⟩])
 (.seq (.cond (.t 37) (.skip)
 (.exit 0))
 (.seq (.block 1 (.seq (.ops [] [⟨some 38, none, .ia 3 true (.t 34) (.t 36)⟩,
 ⟨some 39, none, .ld true 3 (.t 38)⟩,
 ⟨some 10, none, .alloc true [.d (.str []), .d (.str []), .nil 1]⟩,
 ⟨none, none, .st true 3 (.t 10) (.t 39)⟩])
 (.seq (.ops [] [⟨some 41, none, .tk 8⟩,
 ⟨some 42, none, .fa 0 1 false (.t 10)⟩,
 ⟨some 43, none, .ld false 1 (.t 42)⟩,
 ⟨some 44, none, .callS 44 [.t 41, .t 43]⟩,
 ⟨some 40, none, .mv (.t 44)⟩,
 ⟨some 45, none, .ext (.t 40) 0⟩,
 ⟨some 46, none, .ext (.t 40) 1⟩,
 ⟨some 11, none, .alloc true [.d (.str []), .d (.str []), .nil 1]⟩,
 ⟨none, none, .st true 3 (.t 11) (.t 45)⟩,
 ⟨some 12, none, .tk 46⟩])
 (.seq (.ops [] [⟨some 47, none, .mv (.t 12)⟩,
 ⟨some 48, none, .not (.t 47)⟩,
 ⟨some 49, none, .mv (.t 48)⟩,
 ⟨some 50, some (49, false), .fa 1 1 false (.t 11)⟩,
 ⟨some 51, some (49, false), .ld false 1 (.t 50)⟩,
 ⟨some 52, some (49, false), .fa 1 1 false (.t 10)⟩,
 ⟨some 53, some (49, false), .ld false 1 (.t 52)⟩,
 ⟨some 54, some (49, false), .bin .neq (.t 51) (.t 53)⟩,
 ⟨some 55, none, .pick (.t 49) (.k (.d (.bool true))) (.t 54)⟩])
 (.cond (.t 55) (.seq (.ops [] [⟨some 6, none, .mv (.k (.d (.nilP)))⟩,
 ⟨some 7, none, .mv (.k (.d (.bool false)))⟩])
 (.ret))
 (.skip))))))
 (.ops [] [⟨some 56, none, .bin .add (.t 36) (.k (.d (.int .i64 1)))⟩,
 ⟨some 36, none, .mv (.t 56)⟩])))))))
 (.seq (.seq (.ops [] [⟨some 57, none, .fa 1 1 false (.t 5)⟩,
 ⟨some 58, none, .ld false 1 (.t 57)⟩])
 (.cond (.t 58) (.seq (.ops [] [⟨some 59, none, .tk 8⟩,
 ⟨some 60, none, .mv (.t 8)⟩,
 ⟨some 61, none, .nilck (.t 60)⟩,
 ⟨some 62, none, .fa 4 1 false (.t 61)⟩,
 ⟨some 63, none, .ld false 1 (.t 62)⟩,
 ⟨some 64, none, .len 1 (.t 63)⟩,
 ⟨some 65, none, .bin .gtr (.t 64) (.k (.d (.int .i64 0)))⟩,
 ⟨some 66, none, .mv (.t 65)⟩,
 ⟨some 67, some (66, true), .fa 2 3 true (.t 5)⟩,
 ⟨some 68, some (66, true), .ld true 3 (.t 67)⟩,
 ⟨some 69, some (66, true), .call 45 [.t 68]⟩,
 ⟨some 70, none, .pick (.t 66) (.t 69) (.k (.d (.bool false)))⟩,
 ⟨some 6, none, .tk 59⟩,
 ⟨some 7, none, .tk 70⟩])
 (.ret))
 (.skip)))
 (.seq (.ops [] [⟨some 13, none, .alloc false [.d (.int .i64 0)]⟩,
 ⟨none, none, .st false 1 (.t 13) (.k (.d (.int .i64 0)))⟩])
 (.seq (.ops [] [⟨some 71, none, .tk 8⟩,
 ⟨some 72, none, .mv (.t 8)⟩,
 ⟨some 73, none, .nilck (.t 72)⟩,
 ⟨some 74, none, .fa 4 1 false (.t 73)⟩,
 ⟨some 75, none, .ld false 1 (.t 74)⟩,
 ⟨some 76, none, .len 1 (.t 75)⟩,
 ⟨some 77, none, .bin .eql (.t 76) (.k (.d (.int .i64 0)))⟩,
 ⟨some 78, none, .mv (.t 77)⟩,
 ⟨some 79, some (78, true), .tk 8⟩,
 ⟨some 80, some (78, true), .fa 2 3 true (.t 5)⟩,
 ⟨some 81, some (78, true), .ld true 3 (.t 80)⟩,
 ⟨some 82, some (78, true), .fa 2 1 false (.t 4)⟩,
 ⟨some 83, some (78, true), .ld false 1 (.t 82)⟩,
 ⟨some 84, some (78, true), .callS 46 [.t 79, .t 81, .t 83, .t 13]⟩,
 ⟨some 85, none, .pick (.t 78) (.t 84) (.k (.d (.bool false)))⟩,
 ⟨some 6, none, .tk 71⟩,
 ⟨some 7, none, .tk 85⟩])
 (.ret)))))))⟩
theorem c23 : sp 23 = some (.code F23) := by kernel_rfl

/-- (*tenet/split.clause).pats -/
def F43 : AFunc := ⟨37, [.tmp 8],
 .seq (.ops [] [⟨some 8, none, .mv (.k (.d (.bool false)))⟩])
 (.seq (.seq (.ops [] [⟨some 11, none, .mv (.t 1)⟩,
 ⟨some 12, none, .len 1 (.t 11)⟩,
 ⟨some 13, none, .mv (.t 2)⟩,
 ⟨some 14, none, .len 1 (.t 13)⟩,
 ⟨some 15, none, .bin .neq (.t 12) (.t 14)⟩])
 (.cond (.t 15) (.seq (.ops [] [⟨some 8, none, .mv (.k (.d (.bool false)))⟩])
 (.ret))
 (.skip)))
 (.seq (.seq (.ops [] [⟨some 16, none, .mv (.t 1)⟩,
 ⟨some 17, none, .len 1 (.t 16)⟩,
 ⟨some 18, none, .mv (.k (.d (.int .i64 0)))⟩])
 (.block 0 (.loop 37 [0, 2, 3, 16, 17, 18] (.seq (.ops [] [⟨some 19, none, .bin .lss (.t 18) (.t 17)⟩])
 (.seq (.cond (.t 19) (.skip)
 (.exit 0))
 (.seq (.block 1 (.seq (.ops [] [⟨some 20, none, .tk 18⟩,
 ⟨some 21, none, .ia 3 true (.t 16) (.t 18)⟩,
 ⟨some 22, none, .ld true 3 (.t 21)⟩,
 ⟨some 10, none, .alloc true [.d (.int .i64 0), .d (.str []), .nil 3]⟩,
 ⟨some 9, none, .tk 20⟩,
 ⟨none, none, .st true 3 (.t 10) (.t 22)⟩])
 (.seq (.ops [] [⟨some 23, none, .tk 0⟩,
 ⟨some 24, none, .ld true 3 (.t 10)⟩,
 ⟨some 25, none, .mv (.t 2)⟩,
 ⟨some 26, none, .mv (.t 9)⟩,
 ⟨some 27, none, .ia 1 false (.t 25) (.t 26)⟩,
 ⟨some 28, none, .ld false 1 (.t 27)⟩,
 ⟨some 29, none, .mv (.t 3)⟩,
 ⟨some 30, none, .callO 64 [.t 29]⟩,
 ⟨some 31, none, .mv (.t 9)⟩,
 ⟨some 32, none, .lit 1 [.t 31]⟩,
 ⟨some 33, none, .app 1 (.t 30) (.t 32)⟩,
 ⟨some 34, none, .callS 63 [.t 23, .t 24, .t 28, .t 33]⟩,
 ⟨some 35, none, .not (.t 34)⟩])
 (.cond (.t 35) (.seq (.ops [] [⟨some 8, none, .mv (.k (.d (.bool false)))⟩])
 (.ret))
 (.skip)))))
 (.ops [] [⟨some 36, none, .bin .add (.t 18) (.k (.d (.int .i64 1)))⟩,
 ⟨some 18, none, .mv (.t 36)⟩])))))))
 (.seq (.ops [] [⟨some 8, none, .mv (.k (.d (.bool true)))⟩])
 (.ret))))⟩
theorem c43 : sp 43 = some (.code F43) := by kernel_rfl

/-- (*tenet/split.clause).pat -/
def F63 : AFunc := ⟨132, [.tmp 8],
 .seq (.ops [] [⟨some 5, none, .box true 3 (.t 1)⟩,
 ⟨some 8, none, .mv (.k (.d (.bool false)))⟩])
 (.seq (.ops [] [⟨some 13, none, .mv (.t 0)⟩,
 ⟨some 14, none, .nilck (.t 13)⟩,
 ⟨some 15, none, .fa 5 1 false (.t 14)⟩,
 ⟨some 16, none, .ld false 1 (.t 15)⟩,
 ⟨some 17, none, .bin .add (.t 16) (.k (.d (.int .i64 1)))⟩,
 ⟨some 18, none, .nilck (.t 13)⟩,
 ⟨some 19, none, .fa 5 1 false (.t 18)⟩,
 ⟨none, none, .st false 1 (.t 19) (.t 17)⟩])
 (.seq (.ops [] [⟨some 20, none, .fa 1 1 false (.t 5)⟩,
 ⟨some 21, none, .ld false 1 (.t 20)⟩,
 ⟨some 22, none, .mv (.t 2)⟩,
 ⟨some 23, none, .mv (.t 3)⟩,
 ⟨some 24, none, .build [.d (.str []), .d (.str []), .nil 1] [(0, 1, (.t 21)), (1, 1, (.t 22)), (2, 1, (.t 23))]⟩,
 ⟨some 9, none, .alloc true [.d (.str []), .d (.str []), .nil 1]⟩,
 ⟨none, none, .st true 3 (.t 9) (.t 24)⟩])
 (.seq (.seq (.ops [] [⟨some 25, none, .fa 0 1 false (.t 5)⟩,
 ⟨some 26, none, .ld false 1 (.t 25)⟩])
 (.block 0 (.seq (.ops [] [⟨some 28, none, .bin .eql (.t 26) (.k (.d (.int .i64 1)))⟩,
 ⟨some 27, none, .tk 28⟩])
 (.cond (.t 27) (.seq (.seq (.ops [] [⟨some 29, none, .fa 2 1 false (.t 5)⟩,
 ⟨some 30, none, .ld false 1 (.t 29)⟩,
 ⟨some 31, none, .len 1 (.t 30)⟩,
 ⟨some 32, none, .bin .gtr (.t 31) (.k (.d (.int .i64 0)))⟩,
 ⟨some 33, none, .mv (.t 32)⟩,
 ⟨some 34, some (33, false), .fa 1 1 false (.t 5)⟩,
 ⟨some 35, some (33, false), .ld false 1 (.t 34)⟩,
 ⟨some 36, some (33, false), .bin .neq (.t 35) (.k (.d (.str [95])))⟩,
 ⟨some 37, some (33, false), .mv (.t 36)⟩,
 ⟨some 38, some (37, true), .fa 1 1 false (.t 5)⟩,
 ⟨some 39, some (37, true), .ld false 1 (.t 38)⟩,
 ⟨some 40, some (37, true), .call 57 [.t 39]⟩,
 ⟨some 41, some (37, true), .not (.t 40)⟩,
 ⟨some 42, some (37, true), .mv (.t 41)⟩,
 ⟨some 43, some (42, false), .mv (.t 0)⟩,
 ⟨some 44, some (42, false), .nilck (.t 43)⟩,
 ⟨some 45, some (42, false), .fa 2 1 false (.t 44)⟩,
 ⟨some 46, some (42, false), .ld false 1 (.t 45)⟩,
 ⟨some 47, some (42, false), .fn 75 [.t 5]⟩,
 ⟨some 48, some (42, false), .call 74 [.t 46, .t 47]⟩,
 ⟨some 49, some (37, true), .pick (.t 42) (.k (.d (.bool true))) (.t 48)⟩,
 ⟨some 50, some (33, false), .pick (.t 37) (.t 49) (.k (.d (.bool false)))⟩,
 ⟨some 51, none, .pick (.t 33) (.k (.d (.bool true))) (.t 50)⟩])
 (.cond (.t 51) (.seq (.ops [] [⟨some 8, none, .mv (.k (.d (.bool false)))⟩])
 (.ret))
 (.skip)))
 (.seq (.seq (.ops [] [⟨some 52, none, .fa 1 1 false (.t 5)⟩,
 ⟨some 53, none, .ld false 1 (.t 52)⟩,
 ⟨some 54, none, .bin .neq (.t 53) (.k (.d (.str [95])))⟩])
 (.cond (.t 54) (.ops [] [⟨some 55, none, .mv (.t 0)⟩,
 ⟨some 56, none, .mv (.t 0)⟩,
 ⟨some 57, none, .nilck (.t 56)⟩,
 ⟨some 58, none, .fa 2 1 false (.t 57)⟩,
 ⟨some 59, none, .ldT (.t 58)⟩,
 ⟨some 60, none, .ld true 3 (.t 9)⟩,
 ⟨some 61, none, .lit 3 [.t 60]⟩,
 ⟨some 62, none, .app 3 (.t 59) (.t 61)⟩,
 ⟨some 63, none, .nilck (.t 55)⟩,
 ⟨some 64, none, .fa 2 1 false (.t 63)⟩,
 ⟨none, none, .st false 1 (.t 64) (.t 62)⟩])
 (.skip)))
 (.seq (.ops [] [⟨some 8, none, .mv (.k (.d (.bool true)))⟩])
 (.ret))))
 (.seq (.ops [] [⟨some 66, none, .bin .eql (.t 26) (.k (.d (.int .i64 4)))⟩,
 ⟨some 65, none, .tk 66⟩])
 (.cond (.t 65) (.seq (.ops [] [⟨some 67, none, .mv (.t 0)⟩,
 ⟨some 68, none, .mv (.t 0)⟩,
 ⟨some 69, none, .nilck (.t 68)⟩,
 ⟨some 70, none, .fa 3 1 false (.t 69)⟩,
 ⟨some 71, none, .ldT (.t 70)⟩,
 ⟨some 72, none, .ld true 3 (.t 9)⟩,
 ⟨some 73, none, .lit 3 [.t 72]⟩,
 ⟨some 74, none, .app 3 (.t 71) (.t 73)⟩,
 ⟨some 75, none, .nilck (.t 67)⟩,
 ⟨some 76, none, .fa 3 1 false (.t 75)⟩,
 ⟨none, none, .st false 1 (.t 76) (.t 74)⟩])
 (.seq (.ops [] [⟨some 77, none, .fa 2 1 false (.t 5)⟩,
 ⟨some 78, none, .ld false 1 (.t 77)⟩,
 ⟨some 79, none, .len 1 (.t 78)⟩,
 ⟨some 80, none, .bin .eql (.t 79) (.k (.d (.int .i64 0)))⟩,
 ⟨some 8, none, .tk 80⟩])
 (.ret)))
 (.seq (.ops [] [⟨some 82, none, .bin .eql (.t 26) (.k (.d (.int .i64 3)))⟩,
 ⟨some 81, none, .tk 82⟩])
 (.cond (.t 81) (.seq (.ops [] [⟨some 83, none, .mv (.t 0)⟩,
 ⟨some 84, none, .mv (.t 0)⟩,
 ⟨some 85, none, .nilck (.t 84)⟩,
 ⟨some 86, none, .fa 4 1 false (.t 85)⟩,
 ⟨some 87, none, .ldT (.t 86)⟩,
 ⟨some 88, none, .mv (.t 2)⟩,
 ⟨some 89, none, .lit 1 [.t 88]⟩,
 ⟨some 90, none, .app 1 (.t 87) (.t 89)⟩,
 ⟨some 91, none, .nilck (.t 83)⟩,
 ⟨some 92, none, .fa 4 1 false (.t 91)⟩,
 ⟨none, none, .st false 1 (.t 92) (.t 90)⟩])
 (.seq (.ops [] [⟨some 93, none, .fa 2 1 false (.t 5)⟩,
 ⟨some 94, none, .ld false 1 (.t 93)⟩,
 ⟨some 95, none, .len 1 (.t 94)⟩,
 ⟨some 96, none, .bin .eql (.t 95) (.k (.d (.int .i64 0)))⟩,
 ⟨some 97, none, .mv (.t 96)⟩,
 ⟨some 98, some (97, true), .fa 1 1 false (.t 5)⟩,
 ⟨some 99, some (97, true), .ld false 1 (.t 98)⟩,
 ⟨some 100, some (97, true), .bin .eql (.t 99) (.k (.d (.str [])))⟩,
 ⟨some 101, none, .pick (.t 97) (.t 100) (.k (.d (.bool false)))⟩,
 ⟨some 8, none, .tk 101⟩])
 (.ret)))
 (.seq (.ops [] [⟨some 103, none, .bin .eql (.t 26) (.k (.d (.int .i64 2)))⟩,
 ⟨some 102, none, .tk 103⟩])
 (.cond (.t 102) (.seq (.ops [] [⟨some 105, none, .mv (.t 0)⟩,
 ⟨some 106, none, .nilck (.t 105)⟩,
 ⟨some 107, none, .fa 0 2 true (.t 106)⟩,
 ⟨some 108, none, .ld true 2 (.t 107)⟩,
 ⟨some 109, none, .mv (.t 2)⟩,
 ⟨some 110, none, .call 38 [.t 108, .t 109]⟩,
 ⟨some 104, none, .mv (.t 110)⟩,
 ⟨some 111, none, .ext (.t 104) 0⟩,
 ⟨some 112, none, .ext (.t 104) 1⟩,
 ⟨some 10, none, .alloc true [.d (.str []), .nil 2]⟩,
 ⟨none, none, .st true 2 (.t 10) (.t 111)⟩,
 ⟨some 11, none, .tk 112⟩])
 (.seq (.ops [] [⟨some 113, none, .ld true 2 (.t 10)⟩,
 ⟨some 114, none, .fa 1 1 false (.t 5)⟩,
 ⟨some 115, none, .ld false 1 (.t 114)⟩,
 ⟨some 116, none, .call 39 [.t 113, .t 115]⟩,
 ⟨some 12, none, .tk 116⟩])
 (.seq (.ops [] [⟨some 117, none, .mv (.t 12)⟩,
 ⟨some 118, none, .bin .geq (.t 117) (.k (.d (.int .i64 0)))⟩,
 ⟨some 119, none, .mv (.t 118)⟩,
 ⟨some 120, some (119, true), .tk 0⟩,
 ⟨some 121, some (119, true), .fa 2 1 false (.t 5)⟩,
 ⟨some 122, some (119, true), .ld false 1 (.t 121)⟩,
 ⟨some 123, some (119, true), .fa 1 1 false (.t 10)⟩,
 ⟨some 124, some (119, true), .ld false 1 (.t 123)⟩,
 ⟨some 125, some (119, true), .mv (.t 12)⟩,
 ⟨some 126, some (119, true), .ia 2 true (.t 124) (.t 125)⟩,
 ⟨some 127, some (119, true), .fa 1 1 false (.t 126)⟩,
 ⟨some 128, some (119, true), .ld false 1 (.t 127)⟩,
 ⟨some 129, some (119, true), .tk 3⟩,
 ⟨some 130, some (119, true), .callS 43 [.t 120, .t 122, .t 128, .t 129]⟩,
 ⟨some 131, none, .pick (.t 119) (.t 130) (.k (.d (.bool false)))⟩,
 ⟨some 8, none, .tk 131⟩])
 (.ret))))
 (.skip)))))))))))
 (.seq (.ops [] [⟨some 8, none, .mv (.k (.d (.bool false)))⟩])
 (.ret)))))⟩
theorem c63 : sp 63 = some (.code F63) := by kernel_rfl

/-- (*tenet/split.clause).pat$1 -/
def F75 : AFunc := ⟨9, [.tmp 3],
 .seq (.ops [] [⟨some 2, none, .box true 3 (.t 0)⟩,
 ⟨some 3, none, .mv (.k (.d (.bool false)))⟩])
 (.seq (.ops [] [⟨some 4, none, .fa 0 1 false (.t 2)⟩,
 ⟨some 5, none, .ld false 1 (.t 4)⟩,
 ⟨some 6, none, .fa 1 1 false (.t 1)⟩,
 ⟨some 7, none, .ld false 1 (.t 6)⟩,
 ⟨some 8, none, .bin .eql (.t 5) (.t 7)⟩,
 ⟨some 3, none, .tk 8⟩])
 (.ret))⟩
theorem c75 : sp 75 = some (.code F75) := by kernel_rfl

/-- (*tenet/split.clause).find -/
def F44 : AFunc := ⟨4, [.reg 27, .tmp 5],
 .seq (.ops [] [⟨some 3, none, .box false 1 (.t 1)⟩,
 ⟨some 27, none, .ralloc true [.d (.str []), .d (.str []), .nil 1]⟩,
 ⟨some 5, none, .mv (.k (.d (.bool false)))⟩])
 (.seq (.ops [] [⟨some 7, none, .mv (.t 0)⟩,
 ⟨some 8, none, .nilck (.t 7)⟩,
 ⟨some 9, none, .fa 2 1 false (.t 8)⟩,
 ⟨some 10, none, .ld false 1 (.t 9)⟩,
 ⟨some 11, none, .fn 66 [.t 3]⟩,
 ⟨some 12, none, .call 65 [.t 10, .t 11]⟩,
 ⟨some 6, none, .tk 12⟩])
 (.seq (.seq (.ops [] [⟨some 13, none, .mv (.t 6)⟩,
 ⟨some 14, none, .bin .lss (.t 13) (.k (.d (.int .i64 0)))⟩])
 (.cond (.t 14) (.seq (.ops [] [⟨some 15, none, .build [.d (.str []), .d (.str []), .nil 1] []⟩,
 ⟨some 27, none, .rst 27 true 3 (.t 15)⟩,
 ⟨some 5, none, .mv (.k (.d (.bool false)))⟩])
 (.ret))
 (.skip)))
 (.seq (.ops [] [⟨some 16, none, .mv (.t 0)⟩,
 ⟨some 17, none, .nilck (.t 16)⟩,
 ⟨some 18, none, .fa 2 1 false (.t 17)⟩,
 ⟨some 19, none, .ld false 1 (.t 18)⟩,
 ⟨some 20, none, .mv (.t 6)⟩,
 ⟨some 21, none, .ia 3 true (.t 19) (.t 20)⟩,
 ⟨some 22, none, .ld true 3 (.t 21)⟩,
 ⟨some 27, none, .rst 27 true 3 (.t 22)⟩,
 ⟨some 5, none, .mv (.k (.d (.bool true)))⟩])
 (.ret))))⟩
theorem c44 : sp 44 = some (.code F44) := by kernel_rfl

/-- (*tenet/split.clause).find$1 -/
def F66 : AFunc := ⟨8, [.tmp 3],
 .seq (.ops [] [⟨some 2, none, .box true 3 (.t 0)⟩,
 ⟨some 3, none, .mv (.k (.d (.bool false)))⟩])
 (.seq (.ops [] [⟨some 4, none, .fa 0 1 false (.t 2)⟩,
 ⟨some 5, none, .ld false 1 (.t 4)⟩,
 ⟨some 6, none, .ld false 1 (.t 1)⟩,
 ⟨some 7, none, .bin .eql (.t 5) (.t 6)⟩,
 ⟨some 3, none, .tk 7⟩])
 (.ret))⟩
theorem c66 : sp 66 = some (.code F66) := by kernel_rfl

/-- (*tenet/split.clause).fits -/
def F46 : AFunc := ⟨121, [.tmp 8],
 .seq (.ops [] [⟨some 5, none, .box true 3 (.t 1)⟩,
 ⟨some 8, none, .mv (.k (.d (.bool false)))⟩])
 (.seq (.seq (.ops [] [⟨some 19, none, .mv (.t 3)⟩,
 ⟨some 20, none, .nilck (.t 19)⟩,
 ⟨some 21, none, .ld false 1 (.t 20)⟩,
 ⟨some 22, none, .bin .add (.t 21) (.k (.d (.int .i64 1)))⟩,
 ⟨some 23, none, .nilck (.t 19)⟩,
 ⟨none, none, .st false 1 (.t 23) (.t 22)⟩])
 (.seq (.ops [] [⟨some 24, none, .mv (.t 3)⟩,
 ⟨some 25, none, .nilck (.t 24)⟩,
 ⟨some 26, none, .ld false 1 (.t 25)⟩,
 ⟨some 27, none, .bin .gtr (.t 26) (.k (.d (.int .i64 60)))⟩])
 (.cond (.t 27) (.seq (.ops [] [⟨some 8, none, .mv (.k (.d (.bool false)))⟩])
 (.ret))
 (.skip))))
 (.seq (.ops [] [⟨some 9, none, .mv (.k (.nil 1))⟩])
 (.seq (.seq (.ops [] [⟨some 28, none, .fa 0 1 false (.t 5)⟩,
 ⟨some 29, none, .ld false 1 (.t 28)⟩])
 (.block 0 (.seq (.ops [] [⟨some 31, none, .bin .eql (.t 29) (.k (.d (.int .i64 1)))⟩,
 ⟨some 30, none, .tk 31⟩])
 (.cond (.t 30) (.seq (.ops [] [⟨some 33, none, .tk 0⟩,
 ⟨some 34, none, .fa 1 1 false (.t 5)⟩,
 ⟨some 35, none, .ld false 1 (.t 34)⟩,
 ⟨some 36, none, .callS 44 [.t 33, .t 35]⟩,
 ⟨some 32, none, .mv (.t 36)⟩,
 ⟨some 37, none, .ext (.t 32) 0⟩,
 ⟨some 38, none, .ext (.t 32) 1⟩,
 ⟨some 10, none, .alloc true [.d (.str []), .d (.str []), .nil 1]⟩,
 ⟨none, none, .st true 3 (.t 10) (.t 37)⟩,
 ⟨some 11, none, .tk 38⟩])
 (.seq (.ops [] [⟨some 39, none, .mv (.t 11)⟩,
 ⟨some 40, none, .mv (.t 39)⟩,
 ⟨some 41, some (40, true), .fa 1 1 false (.t 10)⟩,
 ⟨some 42, some (40, true), .ld false 1 (.t 41)⟩,
 ⟨some 43, some (40, true), .mv (.t 2)⟩,
 ⟨some 44, some (40, true), .bin .eql (.t 42) (.t 43)⟩,
 ⟨some 45, none, .pick (.t 40) (.t 44) (.k (.d (.bool false)))⟩,
 ⟨some 46, none, .mv (.t 45)⟩,
 ⟨some 47, some (46, true), .fa 2 1 false (.t 5)⟩,
 ⟨some 48, some (46, true), .ld false 1 (.t 47)⟩,
 ⟨some 49, some (46, true), .len 1 (.t 48)⟩,
 ⟨some 50, some (46, true), .bin .eql (.t 49) (.k (.d (.int .i64 0)))⟩,
 ⟨some 51, none, .pick (.t 46) (.t 50) (.k (.d (.bool false)))⟩,
 ⟨some 8, none, .tk 51⟩])
 (.ret)))
 (.seq (.ops [] [⟨some 53, none, .bin .eql (.t 29) (.k (.d (.int .i64 2)))⟩,
 ⟨some 52, none, .tk 53⟩])
 (.cond (.t 52) (.seq (.ops [] [⟨some 55, none, .mv (.t 0)⟩,
 ⟨some 56, none, .nilck (.t 55)⟩,
 ⟨some 57, none, .fa 0 2 true (.t 56)⟩,
 ⟨some 58, none, .ld true 2 (.t 57)⟩,
 ⟨some 59, none, .mv (.t 2)⟩,
 ⟨some 60, none, .call 38 [.t 58, .t 59]⟩,
 ⟨some 54, none, .mv (.t 60)⟩,
 ⟨some 61, none, .ext (.t 54) 0⟩,
 ⟨some 62, none, .ext (.t 54) 1⟩,
 ⟨some 12, none, .alloc true [.d (.str []), .nil 2]⟩,
 ⟨none, none, .st true 2 (.t 12) (.t 61)⟩,
 ⟨some 13, none, .tk 62⟩])
 (.seq (.ops [] [⟨some 63, none, .ld true 2 (.t 12)⟩,
 ⟨some 64, none, .fa 1 1 false (.t 5)⟩,
 ⟨some 65, none, .ld false 1 (.t 64)⟩,
 ⟨some 66, none, .call 39 [.t 63, .t 65]⟩,
 ⟨some 14, none, .tk 66⟩])
 (.seq (.seq (.ops [] [⟨some 67, none, .mv (.t 14)⟩,
 ⟨some 68, none, .bin .lss (.t 67) (.k (.d (.int .i64 0)))⟩])
 (.cond (.t 68) (.seq (.ops [] [⟨some 8, none, .mv (.k (.d (.bool false)))⟩])
 (.ret))
 (.skip)))
 (.ops [] [⟨some 69, none, .fa 1 1 false (.t 12)⟩,
 ⟨some 70, none, .ld false 1 (.t 69)⟩,
 ⟨some 71, none, .mv (.t 14)⟩,
 ⟨some 72, none, .ia 2 true (.t 70) (.t 71)⟩,
 ⟨some 73, none, .fa 1 1 false (.t 72)⟩,
 ⟨some 74, none, .ld false 1 (.t 73)⟩,
 ⟨some 9, none, .tk 74⟩]))))
 (.seq (.ops [] [⟨some 76, none, .bin .eql (.t 29) (.k (.d (.int .i64 3)))⟩,
 ⟨some 75, none, .tk 76⟩])
 (.cond (.t 75) (.seq (.ops [.cells true [.d (.str []), .nil 1, .d (.str []), .nil 5]] [⟨some 78, none, .mv (.t 0)⟩,
 ⟨some 79, none, .nilck (.t 78)⟩,
 ⟨some 80, none, .fa 0 2 true (.t 79)⟩,
 ⟨some 81, none, .ld true 2 (.t 80)⟩,
 ⟨some 82, none, .fa 1 1 false (.t 5)⟩,
 ⟨some 83, none, .ld false 1 (.t 82)⟩,
 ⟨some 84, none, .call 20 [.t 81, .t 83]⟩,
 ⟨some 77, none, .mv (.t 84)⟩,
 ⟨some 85, none, .ext (.t 77) 0⟩,
 ⟨some 86, none, .ext (.t 77) 1⟩,
 ⟨some 15, none, .allocR 0⟩,
 ⟨none, none, .st true 4 (.t 15) (.t 85)⟩,
 ⟨some 16, none, .tk 86⟩])
 (.seq (.seq (.ops [] [⟨some 87, none, .mv (.t 16)⟩,
 ⟨some 88, none, .not (.t 87)⟩,
 ⟨some 89, none, .mv (.t 88)⟩,
 ⟨some 90, some (89, false), .fa 2 1 false (.t 15)⟩,
 ⟨some 91, some (89, false), .ld false 1 (.t 90)⟩,
 ⟨some 92, some (89, false), .mv (.t 2)⟩,
 ⟨some 93, some (89, false), .bin .neq (.t 91) (.t 92)⟩,
 ⟨some 94, none, .pick (.t 89) (.k (.d (.bool true))) (.t 93)⟩])
 (.cond (.t 94) (.seq (.ops [] [⟨some 8, none, .mv (.k (.d (.bool false)))⟩])
 (.ret))
 (.skip)))
 (.ops [] [⟨some 95, none, .fa 1 1 false (.t 15)⟩,
 ⟨some 96, none, .ld false 1 (.t 95)⟩,
 ⟨some 9, none, .tk 96⟩])))
 (.seq (.ops [] [⟨some 8, none, .mv (.k (.d (.bool false)))⟩])
 (.ret))))))))))
 (.seq (.seq (.ops [] [⟨some 97, none, .mv (.t 9)⟩,
 ⟨some 98, none, .len 1 (.t 97)⟩,
 ⟨some 99, none, .fa 2 1 false (.t 5)⟩,
 ⟨some 100, none, .ld false 1 (.t 99)⟩,
 ⟨some 101, none, .len 1 (.t 100)⟩,
 ⟨some 102, none, .bin .neq (.t 98) (.t 101)⟩])
 (.cond (.t 102) (.seq (.ops [] [⟨some 8, none, .mv (.k (.d (.bool false)))⟩])
 (.ret))
 (.skip)))
 (.seq (.seq (.ops [] [⟨some 103, none, .fa 2 1 false (.t 5)⟩,
 ⟨some 104, none, .ld false 1 (.t 103)⟩,
 ⟨some 105, none, .len 1 (.t 104)⟩,
 ⟨some 106, none, .mv (.k (.d (.int .i64 0)))⟩])
 (.block 1 (.loop 121 [0, 3, 9, 104, 105, 106] (.seq (.ops [] [⟨some 107, none, .bin .lss (.t 106) (.t 105)⟩])
 (.seq (.cond (.t 107) (.skip)
 (.exit 1))
 (.seq (.block 2 (.seq (.ops [] [⟨some 108, none, .tk 106⟩,
 ⟨some 109, none, .ia 3 true (.t 104) (.t 106)⟩,
 ⟨some 110, none, .ld true 3 (.t 109)⟩,
 ⟨some 18, none, .alloc true [.d (.int .i64 0), .d (.str []), .nil 3]⟩,
 ⟨some 17, none, .tk 108⟩,
 ⟨none, none, .st true 3 (.t 18) (.t 110)⟩])
 (.seq (.ops [] [⟨some 111, none, .tk 0⟩,
 ⟨some 112, none, .ld true 3 (.t 18)⟩,
 ⟨some 113, none, .mv (.t 9)⟩,
 ⟨some 114, none, .mv (.t 17)⟩,
 ⟨some 115, none, .ia 1 false (.t 113) (.t 114)⟩,
 ⟨some 116, none, .ld false 1 (.t 115)⟩,
 ⟨some 117, none, .tk 3⟩,
 ⟨some 118, none, .callS 46 [.t 111, .t 112, .t 116, .t 117]⟩,
 ⟨some 119, none, .not (.t 118)⟩])
 (.cond (.t 119) (.seq (.ops [] [⟨some 8, none, .mv (.k (.d (.bool false)))⟩])
 (.ret))
 (.skip)))))
 (.ops [] [⟨some 120, none, .bin .add (.t 106) (.k (.d (.int .i64 1)))⟩,
 ⟨some 106, none, .mv (.t 120)⟩])))))))
 (.seq (.ops [] [⟨some 8, none, .mv (.k (.d (.bool true)))⟩])
 (.ret)))))))⟩
theorem c46 : sp 46 = some (.code F46) := by kernel_rfl

/-- tenet/split.zero -/
def F45 : AFunc := ⟨17, [.tmp 2],
 .seq (.ops [] [⟨some 1, none, .box true 3 (.t 0)⟩,
 ⟨some 2, none, .mv (.k (.d (.bool false)))⟩])
 (.seq (.ops [] [⟨some 3, none, .fa 0 1 false (.t 1)⟩,
 ⟨some 4, none, .ld false 1 (.t 3)⟩,
 ⟨some 5, none, .bin .eql (.t 4) (.k (.d (.int .i64 0)))⟩,
 ⟨some 6, none, .mv (.t 5)⟩,
 ⟨some 7, some (6, true), .fa 1 1 false (.t 1)⟩,
 ⟨some 8, some (6, true), .ld false 1 (.t 7)⟩,
 ⟨some 9, some (6, true), .bin .eql (.t 8) (.k (.d (.str [])))⟩,
 ⟨some 10, none, .pick (.t 6) (.t 9) (.k (.d (.bool false)))⟩,
 ⟨some 11, none, .mv (.t 10)⟩,
 ⟨some 12, some (11, true), .fa 2 1 false (.t 1)⟩,
 ⟨some 13, some (11, true), .ld false 1 (.t 12)⟩,
 ⟨some 14, some (11, true), .len 1 (.t 13)⟩,
 ⟨some 15, some (11, true), .bin .eql (.t 14) (.k (.d (.int .i64 0)))⟩,
 ⟨some 16, none, .pick (.t 11) (.t 15) (.k (.d (.bool false)))⟩,
 ⟨some 2, none, .tk 16⟩])
 (.ret))⟩
theorem c45 : sp 45 = some (.code F45) := by kernel_rfl

/-- slices.Clip[[]int,int] -/
def F64 : AFunc := ⟨9, [.tmp 2],
 .seq (.ops [] [⟨some 2, none, .mv (.k (.nil 1))⟩])
 (.seq (.ops [] [⟨some 3, none, .mv (.t 0)⟩,
 ⟨some 4, none, .mv (.t 0)⟩,
 ⟨some 5, none, .len 1 (.t 4)⟩,
 ⟨some 6, none, .mv (.t 0)⟩,
 ⟨some 7, none, .len 1 (.t 6)⟩,
 ⟨some 8, none, .slice 1 (.t 3) none (some (.t 5)) (some (.t 7))⟩,
 ⟨some 2, none, .tk 8⟩])
 (.ret))⟩
theorem c64 : sp 64 = some (.code F64) := by kernel_rfl

/-- slices.IndexFunc[[]tenet/split.variable,tenet/split.variable] -/
def F65 : AFunc := ⟨19, [.tmp 4],
 .seq (.ops [] [⟨some 4, none, .mv (.k (.d (.int .i64 0)))⟩])
 (.seq (.seq (.ops [] [⟨some 6, none, .mv (.t 0)⟩,
 ⟨some 7, none, .len 1 (.t 6)⟩,
 ⟨some 8, none, .mv (.k (.d (.int .i64 0)))⟩])
 (.block 0 (.loop 19 [0, 1, 7, 8] (.seq (.ops [] [⟨some 9, none, .bin .lss (.t 8) (.t 7)⟩])
 (.seq (.cond (.t 9) (.skip)
 (.exit 0))
 (.seq (.block 1 (.seq (.ops [] [⟨some 10, none, .tk 8⟩,
 ⟨some 5, none, .tk 10⟩])
 (.seq (.ops [] [⟨some 11, none, .mv (.t 1)⟩,
 ⟨some 12, none, .mv (.t 0)⟩,
 ⟨some 13, none, .mv (.t 5)⟩,
 ⟨some 14, none, .ia 3 true (.t 12) (.t 13)⟩,
 ⟨some 15, none, .ld true 3 (.t 14)⟩,
 ⟨some 16, none, .callV (.t 11) [.t 15]⟩])
 (.cond (.t 16) (.seq (.ops [] [⟨some 17, none, .tk 5⟩,
 ⟨some 4, none, .tk 17⟩])
 (.ret))
 (.skip)))))
 (.ops [] [⟨some 18, none, .bin .add (.t 8) (.k (.d (.int .i64 1)))⟩,
 ⟨some 8, none, .mv (.t 18)⟩])))))))
 (.seq (.ops [] [⟨some 4, none, .mv (.k (.d (.int .i64 (-1))))⟩])
 (.ret)))⟩
theorem c65 : sp 65 = some (.code F65) := by kernel_rfl

/-- slices.ContainsFunc[[]tenet/split.variable,tenet/split.variable] -/
def F74 : AFunc := ⟨9, [.tmp 4],
 .seq (.ops [] [⟨some 4, none, .mv (.k (.d (.bool false)))⟩])
 (.seq (.ops [] [⟨some 5, none, .mv (.t 0)⟩,
 ⟨some 6, none, .mv (.t 1)⟩,
 ⟨some 7, none, .call 65 [.t 5, .t 6]⟩,
 ⟨some 8, none, .bin .geq (.t 7) (.k (.d (.int .i64 0)))⟩,
 ⟨some 4, none, .tk 8⟩])
 (.ret))⟩
theorem c74 : sp 74 = some (.code F74) := by kernel_rfl

end Go.Sp

/-! The program's functions as abstract code. -/
namespace Go.Sp
open Go.Abs Go.Proofs
set_option maxRecDepth 20000

/-- tenet/tenetlaw15.heavy -/
def F9 : AFunc := ⟨144, [.tmp 2],
 .seq (.ops [] [⟨some 1, none, .box true 2 (.t 0)⟩,
 ⟨some 2, none, .mv (.k (.d (.bool false)))⟩])
 (.seq (.seq (.ops [] [⟨some 8, none, .fa 0 1 false (.t 1)⟩,
 ⟨some 9, none, .ld false 1 (.t 8)⟩,
 ⟨some 10, none, .len 1 (.t 9)⟩,
 ⟨some 11, none, .bin .gtr (.t 10) (.k (.d (.int .i64 10)))⟩,
 ⟨some 12, none, .mv (.t 11)⟩,
 ⟨some 13, some (12, false), .fa 1 1 false (.t 1)⟩,
 ⟨some 14, some (12, false), .ld false 1 (.t 13)⟩,
 ⟨some 15, some (12, false), .len 1 (.t 14)⟩,
 ⟨some 16, some (12, false), .bin .gtr (.t 15) (.k (.d (.int .i64 14)))⟩,
 ⟨some 17, none, .pick (.t 12) (.k (.d (.bool true))) (.t 16)⟩])
 (.cond (.t 17) (.seq (.ops [] [⟨some 2, none, .mv (.k (.d (.bool true)))⟩])
 (.ret))
 (.skip)))
 (.seq (.seq (.ops [] [⟨some 3, none, .mv (.k (.d (.int .i64 0)))⟩])
 (.block 0 (.loop 144 [1, 3] (.seq (.seq (.ops [] [⟨some 18, none, .mv (.t 3)⟩,
 ⟨some 19, none, .fa 0 1 false (.t 1)⟩,
 ⟨some 20, none, .ld false 1 (.t 19)⟩,
 ⟨some 21, none, .len 1 (.t 20)⟩,
 ⟨some 22, none, .bin .lss (.t 18) (.t 21)⟩])
 (.cond (.t 22) (.skip)
 (.exit 0)))
 (.seq (.block 1 (.seq (.seq (.ops [] [⟨some 25, none, .fa 0 1 false (.t 1)⟩,
 ⟨some 26, none, .ld false 1 (.t 25)⟩,
 ⟨some 27, none, .mv (.t 3)⟩,
 ⟨some 28, none, .ia 2 true (.t 26) (.t 27)⟩,
 ⟨some 29, none, .fa 1 1 false (.t 28)⟩,
 ⟨some 30, none, .ld false 1 (.t 29)⟩,
 ⟨some 31, none, .len 1 (.t 30)⟩,
 ⟨some 32, none, .bin .gtr (.t 31) (.k (.d (.int .i64 10)))⟩,
 ⟨some 33, none, .mv (.t 32)⟩,
 ⟨some 34, some (33, false), .fa 0 1 false (.t 1)⟩,
 ⟨some 35, some (33, false), .ld false 1 (.t 34)⟩,
 ⟨some 36, some (33, false), .mv (.t 3)⟩,
 ⟨some 37, some (33, false), .ia 2 true (.t 35) (.t 36)⟩,
 ⟨some 38, some (33, false), .fa 0 1 false (.t 37)⟩,
 ⟨some 39, some (33, false), .ld false 1 (.t 38)⟩,
 ⟨some 40, some (33, false), .len 0 (.t 39)⟩,
 ⟨some 41, some (33, false), .bin .gtr (.t 40) (.k (.d (.int .i64 100)))⟩,
 ⟨some 42, none, .pick (.t 33) (.k (.d (.bool true))) (.t 41)⟩])
 (.cond (.t 42) (.seq (.ops [] [⟨some 2, none, .mv (.k (.d (.bool true)))⟩])
 (.ret))
 (.skip)))
 (.seq (.ops [] [⟨some 4, none, .mv (.k (.d (.int .i64 0)))⟩])
 (.block 2 (.loop 144 [1, 3, 4] (.seq (.seq (.ops [] [⟨some 43, none, .mv (.t 4)⟩,
 ⟨some 44, none, .fa 0 1 false (.t 1)⟩,
 ⟨some 45, none, .ld false 1 (.t 44)⟩,
 ⟨some 46, none, .mv (.t 3)⟩,
 ⟨some 47, none, .ia 2 true (.t 45) (.t 46)⟩,
 ⟨some 48, none, .fa 1 1 false (.t 47)⟩,
 ⟨some 49, none, .ld false 1 (.t 48)⟩,
 ⟨some 50, none, .len 1 (.t 49)⟩,
 ⟨some 51, none, .bin .lss (.t 43) (.t 50)⟩])
 (.cond (.t 51) (.skip)
 (.exit 2)))
 (.seq (.block 3 (.seq (.ops [] [⟨some 54, none, .fa 0 1 false (.t 1)⟩,
 ⟨some 55, none, .ld false 1 (.t 54)⟩,
 ⟨some 56, none, .mv (.t 3)⟩,
 ⟨some 57, none, .ia 2 true (.t 55) (.t 56)⟩,
 ⟨some 58, none, .fa 1 1 false (.t 57)⟩,
 ⟨some 59, none, .ld false 1 (.t 58)⟩,
 ⟨some 60, none, .mv (.t 4)⟩,
 ⟨some 61, none, .ia 2 true (.t 59) (.t 60)⟩,
 ⟨some 62, none, .fa 1 1 false (.t 61)⟩,
 ⟨some 63, none, .ld false 1 (.t 62)⟩,
 ⟨some 64, none, .len 1 (.t 63)⟩,
 ⟨some 65, none, .bin .gtr (.t 64) (.k (.d (.int .i64 8)))⟩,
 ⟨some 66, none, .mv (.t 65)⟩,
 ⟨some 67, some (66, false), .fa 0 1 false (.t 1)⟩,
 ⟨some 68, some (66, false), .ld false 1 (.t 67)⟩,
 ⟨some 69, some (66, false), .mv (.t 3)⟩,
 ⟨some 70, some (66, false), .ia 2 true (.t 68) (.t 69)⟩,
 ⟨some 71, some (66, false), .fa 1 1 false (.t 70)⟩,
 ⟨some 72, some (66, false), .ld false 1 (.t 71)⟩,
 ⟨some 73, some (66, false), .mv (.t 4)⟩,
 ⟨some 74, some (66, false), .ia 2 true (.t 72) (.t 73)⟩,
 ⟨some 75, some (66, false), .fa 0 1 false (.t 74)⟩,
 ⟨some 76, some (66, false), .ld false 1 (.t 75)⟩,
 ⟨some 77, some (66, false), .len 0 (.t 76)⟩,
 ⟨some 78, some (66, false), .bin .gtr (.t 77) (.k (.d (.int .i64 100)))⟩,
 ⟨some 79, none, .pick (.t 66) (.k (.d (.bool true))) (.t 78)⟩])
 (.cond (.t 79) (.seq (.ops [] [⟨some 2, none, .mv (.k (.d (.bool true)))⟩])
 (.ret))
 (.skip))))
 (.ops [] [⟨some 52, none, .mv (.t 4)⟩,
 ⟨some 53, none, .bin .add (.t 52) (.k (.d (.int .i64 1)))⟩,
 ⟨some 4, none, .tk 53⟩]))))))))
 (.ops [] [⟨some 23, none, .mv (.t 3)⟩,
 ⟨some 24, none, .bin .add (.t 23) (.k (.d (.int .i64 1)))⟩,
 ⟨some 3, none, .tk 24⟩]))))))
 (.seq (.seq (.ops [] [⟨some 5, none, .mv (.k (.d (.int .i64 0)))⟩])
 (.block 4 (.loop 144 [1, 5] (.seq (.seq (.ops [] [⟨some 80, none, .mv (.t 5)⟩,
 ⟨some 81, none, .fa 1 1 false (.t 1)⟩,
 ⟨some 82, none, .ld false 1 (.t 81)⟩,
 ⟨some 83, none, .len 1 (.t 82)⟩,
 ⟨some 84, none, .bin .lss (.t 80) (.t 83)⟩])
 (.cond (.t 84) (.skip)
 (.exit 4)))
 (.seq (.block 5 (.seq (.ops [] [⟨some 87, none, .fa 1 1 false (.t 1)⟩,
 ⟨some 88, none, .ld false 1 (.t 87)⟩,
 ⟨some 89, none, .mv (.t 5)⟩,
 ⟨some 90, none, .ia 4 true (.t 88) (.t 89)⟩,
 ⟨some 91, none, .ld true 4 (.t 90)⟩,
 ⟨some 6, none, .alloc true [.d (.str []), .nil 1, .d (.str []), .nil 5]⟩,
 ⟨none, none, .st true 4 (.t 6) (.t 91)⟩])
 (.seq (.seq (.ops [] [⟨some 92, none, .fa 1 1 false (.t 6)⟩,
 ⟨some 93, none, .ld false 1 (.t 92)⟩,
 ⟨some 94, none, .len 1 (.t 93)⟩,
 ⟨some 95, none, .bin .gtr (.t 94) (.k (.d (.int .i64 8)))⟩,
 ⟨some 96, none, .mv (.t 95)⟩,
 ⟨some 97, some (96, false), .fa 3 1 false (.t 6)⟩,
 ⟨some 98, some (96, false), .ld false 1 (.t 97)⟩,
 ⟨some 99, some (96, false), .len 1 (.t 98)⟩,
 ⟨some 100, some (96, false), .bin .gtr (.t 99) (.k (.d (.int .i64 18)))⟩,
 ⟨some 101, none, .pick (.t 96) (.k (.d (.bool true))) (.t 100)⟩,
 ⟨some 102, none, .mv (.t 101)⟩,
 ⟨some 103, some (102, false), .fa 0 1 false (.t 6)⟩,
 ⟨some 104, some (102, false), .ld false 1 (.t 103)⟩,
 ⟨some 105, some (102, false), .len 0 (.t 104)⟩,
 ⟨some 106, some (102, false), .bin .gtr (.t 105) (.k (.d (.int .i64 100)))⟩,
 ⟨some 107, none, .pick (.t 102) (.k (.d (.bool true))) (.t 106)⟩])
 (.cond (.t 107) (.seq (.ops [] [⟨some 2, none, .mv (.k (.d (.bool true)))⟩])
 (.ret))
 (.skip)))
 (.seq (.ops [] [⟨some 7, none, .mv (.k (.d (.int .i64 0)))⟩])
 (.block 6 (.loop 144 [1, 5, 6, 7] (.seq (.seq (.ops [] [⟨some 108, none, .mv (.t 7)⟩,
 ⟨some 109, none, .fa 3 1 false (.t 6)⟩,
 ⟨some 110, none, .ld false 1 (.t 109)⟩,
 ⟨some 111, none, .len 1 (.t 110)⟩,
 ⟨some 112, none, .bin .lss (.t 108) (.t 111)⟩])
 (.cond (.t 112) (.skip)
 (.exit 6)))
 (.seq (.block 7 (.seq (.ops [] [⟨some 115, none, .fa 3 1 false (.t 6)⟩,
 ⟨some 116, none, .ld false 1 (.t 115)⟩,
 ⟨some 117, none, .mv (.t 7)⟩,
 ⟨some 118, none, .ia 5 true (.t 116) (.t 117)⟩,
 ⟨some 119, none, .fa 0 1 false (.t 118)⟩,
 ⟨some 120, none, .ld false 1 (.t 119)⟩,
 ⟨some 121, none, .len 1 (.t 120)⟩,
 ⟨some 122, none, .bin .gtr (.t 121) (.k (.d (.int .i64 8)))⟩,
 ⟨some 123, none, .mv (.t 122)⟩,
 ⟨some 124, some (123, false), .fa 3 1 false (.t 6)⟩,
 ⟨some 125, some (123, false), .ld false 1 (.t 124)⟩,
 ⟨some 126, some (123, false), .mv (.t 7)⟩,
 ⟨some 127, some (123, false), .ia 5 true (.t 125) (.t 126)⟩,
 ⟨some 128, some (123, false), .fa 0 1 false (.t 127)⟩,
 ⟨some 129, some (123, false), .ld false 1 (.t 128)⟩,
 ⟨some 130, some (123, false), .call 18 [.t 129, .k (.d (.int .i64 70))]⟩,
 ⟨some 131, some (123, false), .bin .gtr (.t 130) (.k (.d (.int .i64 70)))⟩,
 ⟨some 132, none, .pick (.t 123) (.k (.d (.bool true))) (.t 131)⟩,
 ⟨some 133, none, .mv (.t 132)⟩,
 ⟨some 134, some (133, false), .fa 3 1 false (.t 6)⟩,
 ⟨some 135, some (133, false), .ld false 1 (.t 134)⟩,
 ⟨some 136, some (133, false), .mv (.t 7)⟩,
 ⟨some 137, some (133, false), .ia 5 true (.t 135) (.t 136)⟩,
 ⟨some 138, some (133, false), .fa 2 3 true (.t 137)⟩,
 ⟨some 139, some (133, false), .ld true 3 (.t 138)⟩,
 ⟨some 140, some (133, false), .lit 3 [.t 139]⟩,
 ⟨some 141, some (133, false), .call 10 [.t 140, .k (.d (.int .i64 70))]⟩,
 ⟨some 142, some (133, false), .bin .gtr (.t 141) (.k (.d (.int .i64 70)))⟩,
 ⟨some 143, none, .pick (.t 133) (.k (.d (.bool true))) (.t 142)⟩])
 (.cond (.t 143) (.seq (.ops [] [⟨some 2, none, .mv (.k (.d (.bool true)))⟩])
 (.ret))
 (.skip))))
 (.ops [] [⟨some 113, none, .mv (.t 7)⟩,
 ⟨some 114, none, .bin .add (.t 113) (.k (.d (.int .i64 1)))⟩,
 ⟨some 7, none, .tk 114⟩])))))))))
 (.ops [] [⟨some 85, none, .mv (.t 5)⟩,
 ⟨some 86, none, .bin .add (.t 85) (.k (.d (.int .i64 1)))⟩,
 ⟨some 5, none, .tk 86⟩]))))))
 (.seq (.ops [] [⟨some 2, none, .mv (.k (.d (.bool false)))⟩])
 (.ret)))))⟩
theorem c9 : sp 9 = some (.code F9) := by kernel_rfl

/-- tenet/tenetlaw15.pats -/
def F18 : AFunc := ⟨40, [.tmp 4],
 .seq (.ops [] [⟨some 4, none, .mv (.k (.d (.int .i64 0)))⟩])
 (.seq (.ops [] [⟨some 5, none, .mv (.k (.d (.int .i64 0)))⟩])
 (.seq (.seq (.ops [] [⟨some 6, none, .mv (.k (.d (.int .i64 0)))⟩])
 (.block 0 (.loop 40 [0, 1, 5, 6] (.seq (.seq (.ops [] [⟨some 7, none, .mv (.t 6)⟩,
 ⟨some 8, none, .mv (.t 0)⟩,
 ⟨some 9, none, .len 1 (.t 8)⟩,
 ⟨some 10, none, .bin .lss (.t 7) (.t 9)⟩,
 ⟨some 11, none, .mv (.t 10)⟩,
 ⟨some 12, some (11, true), .mv (.t 5)⟩,
 ⟨some 13, some (11, true), .mv (.t 1)⟩,
 ⟨some 14, some (11, true), .bin .leq (.t 12) (.t 13)⟩,
 ⟨some 15, none, .pick (.t 11) (.t 14) (.k (.d (.bool false)))⟩])
 (.cond (.t 15) (.skip)
 (.exit 0)))
 (.seq (.block 1 (.seq (.ops [] [⟨some 18, none, .mv (.t 5)⟩,
 ⟨some 19, none, .bin .add (.t 18) (.k (.d (.int .i64 1)))⟩,
 ⟨some 20, none, .mv (.t 0)⟩,
 ⟨some 21, none, .mv (.t 6)⟩,
 ⟨some 22, none, .ia 3 true (.t 20) (.t 21)⟩,
 ⟨some 23, none, .fa 2 1 false (.t 22)⟩,
 ⟨some 24, none, .ld false 1 (.t 23)⟩,
 ⟨some 25, none, .mv (.t 1)⟩,
 ⟨some 26, none, .mv (.t 5)⟩,
 ⟨some 27, none, .bin .sub (.t 25) (.t 26)⟩,
 ⟨some 28, none, .call 18 [.t 24, .t 27]⟩,
 ⟨some 29, none, .bin .add (.t 19) (.t 28)⟩,
 ⟨some 5, none, .tk 29⟩])
 (.seq (.ops [] [⟨some 30, none, .mv (.t 0)⟩,
 ⟨some 31, none, .mv (.t 6)⟩,
 ⟨some 32, none, .ia 3 true (.t 30) (.t 31)⟩,
 ⟨some 33, none, .fa 1 1 false (.t 32)⟩,
 ⟨some 34, none, .ld false 1 (.t 33)⟩,
 ⟨some 35, none, .len 0 (.t 34)⟩,
 ⟨some 36, none, .bin .gtr (.t 35) (.k (.d (.int .i64 100)))⟩])
 (.cond (.t 36) (.seq (.ops [] [⟨some 37, none, .mv (.t 1)⟩,
 ⟨some 38, none, .bin .add (.t 37) (.k (.d (.int .i64 1)))⟩,
 ⟨some 4, none, .tk 38⟩])
 (.ret))
 (.skip)))))
 (.ops [] [⟨some 16, none, .mv (.t 6)⟩,
 ⟨some 17, none, .bin .add (.t 16) (.k (.d (.int .i64 1)))⟩,
 ⟨some 6, none, .tk 17⟩]))))))
 (.seq (.ops [] [⟨some 39, none, .tk 5⟩,
 ⟨some 4, none, .tk 39⟩])
 (.ret))))⟩
theorem c18 : sp 18 = some (.code F18) := by kernel_rfl

/-- tenet/tenetlaw15.exprs -/
def F10 : AFunc := ⟨40, [.tmp 4],
 .seq (.ops [] [⟨some 4, none, .mv (.k (.d (.int .i64 0)))⟩])
 (.seq (.ops [] [⟨some 5, none, .mv (.k (.d (.int .i64 0)))⟩])
 (.seq (.seq (.ops [] [⟨some 6, none, .mv (.k (.d (.int .i64 0)))⟩])
 (.block 0 (.loop 40 [0, 1, 5, 6] (.seq (.seq (.ops [] [⟨some 7, none, .mv (.t 6)⟩,
 ⟨some 8, none, .mv (.t 0)⟩,
 ⟨some 9, none, .len 1 (.t 8)⟩,
 ⟨some 10, none, .bin .lss (.t 7) (.t 9)⟩,
 ⟨some 11, none, .mv (.t 10)⟩,
 ⟨some 12, some (11, true), .mv (.t 5)⟩,
 ⟨some 13, some (11, true), .mv (.t 1)⟩,
 ⟨some 14, some (11, true), .bin .leq (.t 12) (.t 13)⟩,
 ⟨some 15, none, .pick (.t 11) (.t 14) (.k (.d (.bool false)))⟩])
 (.cond (.t 15) (.skip)
 (.exit 0)))
 (.seq (.block 1 (.seq (.ops [] [⟨some 18, none, .mv (.t 5)⟩,
 ⟨some 19, none, .bin .add (.t 18) (.k (.d (.int .i64 1)))⟩,
 ⟨some 20, none, .mv (.t 0)⟩,
 ⟨some 21, none, .mv (.t 6)⟩,
 ⟨some 22, none, .ia 3 true (.t 20) (.t 21)⟩,
 ⟨some 23, none, .fa 2 1 false (.t 22)⟩,
 ⟨some 24, none, .ld false 1 (.t 23)⟩,
 ⟨some 25, none, .mv (.t 1)⟩,
 ⟨some 26, none, .mv (.t 5)⟩,
 ⟨some 27, none, .bin .sub (.t 25) (.t 26)⟩,
 ⟨some 28, none, .call 10 [.t 24, .t 27]⟩,
 ⟨some 29, none, .bin .add (.t 19) (.t 28)⟩,
 ⟨some 5, none, .tk 29⟩])
 (.seq (.ops [] [⟨some 30, none, .mv (.t 0)⟩,
 ⟨some 31, none, .mv (.t 6)⟩,
 ⟨some 32, none, .ia 3 true (.t 30) (.t 31)⟩,
 ⟨some 33, none, .fa 1 1 false (.t 32)⟩,
 ⟨some 34, none, .ld false 1 (.t 33)⟩,
 ⟨some 35, none, .len 0 (.t 34)⟩,
 ⟨some 36, none, .bin .gtr (.t 35) (.k (.d (.int .i64 100)))⟩])
 (.cond (.t 36) (.seq (.ops [] [⟨some 37, none, .mv (.t 1)⟩,
 ⟨some 38, none, .bin .add (.t 37) (.k (.d (.int .i64 1)))⟩,
 ⟨some 4, none, .tk 38⟩])
 (.ret))
 (.skip)))))
 (.ops [] [⟨some 16, none, .mv (.t 6)⟩,
 ⟨some 17, none, .bin .add (.t 16) (.k (.d (.int .i64 1)))⟩,
 ⟨some 6, none, .tk 17⟩]))))))
 (.seq (.ops [] [⟨some 39, none, .tk 5⟩,
 ⟨some 4, none, .tk 39⟩])
 (.ret))))⟩
theorem c10 : sp 10 = some (.code F10) := by kernel_rfl

/-- tenet/split.isValue -/
def F21 : AFunc := ⟨64, [.tmp 6],
 .seq (.ops [] [⟨some 3, none, .box true 2 (.t 0)⟩,
 ⟨some 4, none, .box true 3 (.t 1)⟩,
 ⟨some 6, none, .mv (.k (.d (.bool false)))⟩])
 (.seq (.ops [] [⟨some 13, none, .ld true 2 (.t 3)⟩,
 ⟨some 14, none, .mv (.t 2)⟩,
 ⟨some 15, none, .call 38 [.t 13, .t 14]⟩,
 ⟨some 12, none, .mv (.t 15)⟩,
 ⟨some 16, none, .ext (.t 12) 0⟩,
 ⟨some 17, none, .ext (.t 12) 1⟩,
 ⟨some 7, none, .alloc true [.d (.str []), .nil 2]⟩,
 ⟨none, none, .st true 2 (.t 7) (.t 16)⟩,
 ⟨some 8, none, .tk 17⟩])
 (.seq (.ops [] [⟨some 18, none, .ld true 2 (.t 7)⟩,
 ⟨some 19, none, .fa 1 1 false (.t 4)⟩,
 ⟨some 20, none, .ld false 1 (.t 19)⟩,
 ⟨some 21, none, .call 39 [.t 18, .t 20]⟩,
 ⟨some 9, none, .tk 21⟩])
 (.seq (.seq (.ops [] [⟨some 22, none, .fa 0 1 false (.t 4)⟩,
 ⟨some 23, none, .ld false 1 (.t 22)⟩,
 ⟨some 24, none, .bin .neq (.t 23) (.k (.d (.int .i64 2)))⟩,
 ⟨some 25, none, .mv (.t 24)⟩,
 ⟨some 26, some (25, false), .mv (.t 9)⟩,
 ⟨some 27, some (25, false), .bin .lss (.t 26) (.k (.d (.int .i64 0)))⟩,
 ⟨some 28, none, .pick (.t 25) (.k (.d (.bool true))) (.t 27)⟩,
 ⟨some 29, none, .mv (.t 28)⟩,
 ⟨some 30, some (29, false), .fa 2 1 false (.t 4)⟩,
 ⟨some 31, some (29, false), .ld false 1 (.t 30)⟩,
 ⟨some 32, some (29, false), .len 1 (.t 31)⟩,
 ⟨some 33, some (29, false), .fa 1 1 false (.t 7)⟩,
 ⟨some 34, some (29, false), .ld false 1 (.t 33)⟩,
 ⟨some 35, some (29, false), .mv (.t 9)⟩,
 ⟨some 36, some (29, false), .ia 2 true (.t 34) (.t 35)⟩,
 ⟨some 37, some (29, false), .fa 1 1 false (.t 36)⟩,
 ⟨some 38, some (29, false), .ld false 1 (.t 37)⟩,
 ⟨some 39, some (29, false), .len 1 (.t 38)⟩,
 ⟨some 40, some (29, false), .bin .neq (.t 32) (.t 39)⟩,
 ⟨some 41, none, .pick (.t 29) (.k (.d (.bool true))) (.t 40)⟩])
 (.cond (.t 41) (.seq (.ops [] [⟨some 6, none, .mv (.k (.d (.bool false)))⟩])
 (.ret))
 (.skip)))
 (.seq (.seq (.ops [] [⟨some 42, none, .fa 2 1 false (.t 4)⟩,
 ⟨some 43, none, .ld false 1 (.t 42)⟩,
 ⟨some 44, none, .len 1 (.t 43)⟩,
 ⟨some 45, none, .mv (.k (.d (.int .i64 0)))⟩])
 (.block 0 (.loop 64 [3, 7, 9, 43, 44, 45] (.seq (.ops [] [⟨some 46, none, .bin .lss (.t 45) (.t 44)⟩])
 (.seq (.cond (.t 46) (.skip)
 (.exit 0))
 (.seq (.block 1 (.seq (.ops [] [⟨some 47, none, .tk 45⟩,
 ⟨some 48, none, .ia 3 true (.t 43) (.t 45)⟩,
 ⟨some 49, none, .ld true 3 (.t 48)⟩,
 ⟨some 11, none, .alloc true [.d (.int .i64 0), .d (.str []), .nil 3]⟩,
 ⟨some 10, none, .tk 47⟩,
 ⟨none, none, .st true 3 (.t 11) (.t 49)⟩])
 (.seq (.ops [] [⟨some 50, none, .ld true 2 (.t 3)⟩,
 ⟨some 51, none, .ld true 3 (.t 11)⟩,
 ⟨some 52, none, .fa 1 1 false (.t 7)⟩,
 ⟨some 53, none, .ld false 1 (.t 52)⟩,
 ⟨some 54, none, .mv (.t 9)⟩,
 ⟨some 55, none, .ia 2 true (.t 53) (.t 54)⟩,
 ⟨some 56, none, .fa 1 1 false (.t 55)⟩,
 ⟨some 57, none, .ld false 1 (.t 56)⟩,
 ⟨some 58, none, .mv (.t 10)⟩,
 ⟨some 59, none, .ia 1 false (.t 57) (.t 58)⟩,
 ⟨some 60, none, .ld false 1 (.t 59)⟩,
 ⟨some 61, none, .call 21 [.t 50, .t 51, .t 60]⟩,
 ⟨some 62, none, .not (.t 61)⟩])
 (.cond (.t 62) (.seq (.ops [] [⟨some 6, none, .mv (.k (.d (.bool false)))⟩])
 (.ret))
 (.skip)))))
 (.ops [] [⟨some 63, none, .bin .add (.t 45) (.k (.d (.int .i64 1)))⟩,
 ⟨some 45, none, .mv (.t 63)⟩])))))))
 (.seq (.ops [] [⟨some 6, none, .mv (.k (.d (.bool true)))⟩])
 (.ret))))))⟩
theorem c21 : sp 21 = some (.code F21) := by kernel_rfl

end Go.Sp
