/- A part of the proof of SplitTermsUptoSaid: for programs and expressions of bulk at most 1048576 SplitTerms answers true and leaves its arguments as they were. Here: The program's functions as abstract code. -/
import Derived.Test.YtnhbhonbihccpaaGreatB2
import Derived.KernelRfl

set_option linter.unusedVariables false
set_option linter.unusedSimpArgs false
set_option linter.unnecessarySimpa false

/-! The program's functions as abstract code. -/
namespace Go.Sp
open Go.Abs Go.Proofs
set_option maxRecDepth 20000

/-- tenet/tenetlaw15.SplitTerms -/
def F6 : AFunc := ⟨64, [.tmp 4],
 .seq (.ops [] [⟨some 2, none, .box true 2 (.t 0)⟩,
   ⟨some 3, none, .box true 3 (.t 1)⟩,
   ⟨some 4, none, .mv (.k (.d (.bool false)))⟩])
 (.seq (.seq (.ops [] [⟨some 13, none, .ld true 2 (.t 2)⟩,
     ⟨some 14, none, .call 8 [.t 13]⟩,
     ⟨some 15, none, .mv (.t 14)⟩,
     ⟨some 16, some (15, false), .ld true 3 (.t 3)⟩,
     ⟨some 17, some (15, false), .lit 3 [.t 16]⟩,
     ⟨some 18, some (15, false), .call 31 [.t 17, .k (.d (.int .i64 200))]⟩,
     ⟨some 19, some (15, false), .bin .gtr (.t 18) (.k (.d (.int .i64 200)))⟩,
     ⟨some 20, none, .pick (.t 15) (.k (.d (.bool true))) (.t 19)⟩])
   (.cond (.t 20) (.seq (.ops [] [⟨some 4, none, .mv (.k (.d (.bool true)))⟩])
     (.ret))
    (.skip)))
  (.seq (.ops [] [⟨some 22, none, .ld true 2 (.t 2)⟩,
     ⟨some 23, none, .call 32 [.t 22]⟩,
     ⟨some 21, none, .mv (.t 23)⟩,
     ⟨some 24, none, .ext (.t 21) 0⟩,
     ⟨some 25, none, .ext (.t 21) 1⟩,
     ⟨some 5, none, .alloc true [.nil 23]⟩,
     ⟨none, none, .st true 1 (.t 5) (.t 24)⟩,
     ⟨some 6, none, .tk 25⟩])
   (.seq (.ops [] [⟨some 27, none, .ld true 2 (.t 2)⟩,
      ⟨some 28, none, .call 33 [.t 27]⟩,
      ⟨some 26, none, .mv (.t 28)⟩,
      ⟨some 29, none, .ext (.t 26) 0⟩,
      ⟨some 30, none, .ext (.t 26) 1⟩,
      ⟨some 7, none, .alloc true [.nil 23]⟩,
      ⟨none, none, .st true 1 (.t 7) (.t 29)⟩,
      ⟨some 8, none, .tk 30⟩])
    (.seq (.ops [] [⟨some 32, none, .ld true 2 (.t 2)⟩,
       ⟨some 33, none, .ld true 3 (.t 3)⟩,
       ⟨some 34, none, .call 34 [.t 32, .t 33]⟩,
       ⟨some 31, none, .mv (.t 34)⟩,
       ⟨some 35, none, .ext (.t 31) 0⟩,
       ⟨some 36, none, .ext (.t 31) 1⟩,
       ⟨some 9, none, .alloc true [.d (.int .i64 0), .d (.int .i64 0), .d (.str []), .nil 2, .nil 5]⟩,
       ⟨none, none, .st true 5 (.t 9) (.t 35)⟩,
       ⟨some 10, none, .tk 36⟩])
     (.seq (.ops [] [⟨some 38, none, .ld true 2 (.t 2)⟩,
        ⟨some 39, none, .ld true 3 (.t 3)⟩,
        ⟨some 40, none, .call 35 [.t 38, .t 39]⟩,
        ⟨some 37, none, .mv (.t 40)⟩,
        ⟨some 41, none, .ext (.t 37) 0⟩,
        ⟨some 42, none, .ext (.t 37) 1⟩,
        ⟨some 11, none, .alloc true [.d (.int .i64 0), .d (.int .i64 0), .d (.str []), .nil 2, .nil 5]⟩,
        ⟨none, none, .st true 5 (.t 11) (.t 41)⟩,
        ⟨some 12, none, .tk 42⟩])
      (.seq (.ops [] [⟨some 43, none, .mv (.t 6)⟩,
         ⟨some 44, none, .mv (.t 8)⟩,
         ⟨some 45, none, .bin .eql (.t 43) (.t 44)⟩,
         ⟨some 46, none, .mv (.t 45)⟩,
         ⟨some 47, some (46, true), .ld true 1 (.t 5)⟩,
         ⟨some 48, some (46, true), .ld true 1 (.t 7)⟩,
         ⟨some 49, some (46, true), .call 36 [.t 47, .t 48]⟩,
         ⟨some 50, none, .pick (.t 46) (.t 49) (.k (.d (.bool false)))⟩,
         ⟨some 51, none, .mv (.t 50)⟩,
         ⟨some 52, some (51, true), .mv (.t 10)⟩,
         ⟨some 53, some (51, true), .mv (.t 12)⟩,
         ⟨some 54, some (51, true), .bin .eql (.t 52) (.t 53)⟩,
         ⟨some 55, none, .pick (.t 51) (.t 54) (.k (.d (.bool false)))⟩,
         ⟨some 56, none, .mv (.t 55)⟩,
         ⟨some 57, some (56, true), .ld true 5 (.t 9)⟩,
         ⟨some 58, some (56, true), .ld true 5 (.t 11)⟩,
         ⟨some 59, some (56, true), .call 37 [.t 57, .t 58]⟩,
         ⟨some 60, none, .pick (.t 56) (.t 59) (.k (.d (.bool false)))⟩,
         ⟨some 61, none, .mv (.t 60)⟩,
         ⟨some 62, some (61, true), .call 11 []⟩,
         ⟨some 63, none, .pick (.t 61) (.t 62) (.k (.d (.bool false)))⟩,
         ⟨some 4, none, .tk 63⟩])
       (.ret)))))))⟩
theorem c6 : sp 6 = some (.code F6) := by kernel_rfl

/-- tenet/tenetlaw15.heavy -/
def F8 : AFunc := ⟨144, [.tmp 2],
 .seq (.ops [] [⟨some 1, none, .box true 2 (.t 0)⟩,
   ⟨some 2, none, .mv (.k (.d (.bool false)))⟩])
 (.seq (.seq (.ops [] [⟨some 8, none, .fa 0 1 false (.t 1)⟩,
     ⟨some 9, none, .ld false 1 (.t 8)⟩,
     ⟨some 10, none, .len 1 (.t 9)⟩,
     ⟨some 11, none, .bin .gtr (.t 10) (.k (.d (.int .i64 10)))⟩,
     ⟨some 12, none, .mv (.t 11)⟩,
     ⟨some 13, some (12, false), .fa 1 1 false (.t 1)⟩,
     ⟨some 14, some (12, false), .ld false 1 (.t 13)⟩,
     ⟨some 15, some (12, false), .len 1 (.t 14)⟩,
     ⟨some 16, some (12, false), .bin .gtr (.t 15) (.k (.d (.int .i64 14)))⟩,
     ⟨some 17, none, .pick (.t 12) (.k (.d (.bool true))) (.t 16)⟩])
   (.cond (.t 17) (.seq (.ops [] [⟨some 2, none, .mv (.k (.d (.bool true)))⟩])
     (.ret))
    (.skip)))
  (.seq (.seq (.ops [] [⟨some 3, none, .mv (.k (.d (.int .i64 0)))⟩])
    (.block 0 (.loop 144 [1, 3] (.seq (.seq (.ops [] [⟨some 18, none, .mv (.t 3)⟩,
          ⟨some 19, none, .fa 0 1 false (.t 1)⟩,
          ⟨some 20, none, .ld false 1 (.t 19)⟩,
          ⟨some 21, none, .len 1 (.t 20)⟩,
          ⟨some 22, none, .bin .lss (.t 18) (.t 21)⟩])
        (.cond (.t 22) (.skip)
         (.exit 0)))
       (.seq (.block 1 (.seq (.seq (.ops [] [⟨some 25, none, .fa 0 1 false (.t 1)⟩,
             ⟨some 26, none, .ld false 1 (.t 25)⟩,
             ⟨some 27, none, .mv (.t 3)⟩,
             ⟨some 28, none, .ia 2 true (.t 26) (.t 27)⟩,
             ⟨some 29, none, .fa 1 1 false (.t 28)⟩,
             ⟨some 30, none, .ld false 1 (.t 29)⟩,
             ⟨some 31, none, .len 1 (.t 30)⟩,
             ⟨some 32, none, .bin .gtr (.t 31) (.k (.d (.int .i64 10)))⟩,
             ⟨some 33, none, .mv (.t 32)⟩,
             ⟨some 34, some (33, false), .fa 0 1 false (.t 1)⟩,
             ⟨some 35, some (33, false), .ld false 1 (.t 34)⟩,
             ⟨some 36, some (33, false), .mv (.t 3)⟩,
             ⟨some 37, some (33, false), .ia 2 true (.t 35) (.t 36)⟩,
             ⟨some 38, some (33, false), .fa 0 1 false (.t 37)⟩,
             ⟨some 39, some (33, false), .ld false 1 (.t 38)⟩,
             ⟨some 40, some (33, false), .len 0 (.t 39)⟩,
             ⟨some 41, some (33, false), .bin .gtr (.t 40) (.k (.d (.int .i64 100)))⟩,
             ⟨some 42, none, .pick (.t 33) (.k (.d (.bool true))) (.t 41)⟩])
           (.cond (.t 42) (.seq (.ops [] [⟨some 2, none, .mv (.k (.d (.bool true)))⟩])
             (.ret))
            (.skip)))
          (.seq (.ops [] [⟨some 4, none, .mv (.k (.d (.int .i64 0)))⟩])
           (.block 2 (.loop 144 [1, 3, 4] (.seq (.seq (.ops [] [⟨some 43, none, .mv (.t 4)⟩,
                 ⟨some 44, none, .fa 0 1 false (.t 1)⟩,
                 ⟨some 45, none, .ld false 1 (.t 44)⟩,
                 ⟨some 46, none, .mv (.t 3)⟩,
                 ⟨some 47, none, .ia 2 true (.t 45) (.t 46)⟩,
                 ⟨some 48, none, .fa 1 1 false (.t 47)⟩,
                 ⟨some 49, none, .ld false 1 (.t 48)⟩,
                 ⟨some 50, none, .len 1 (.t 49)⟩,
                 ⟨some 51, none, .bin .lss (.t 43) (.t 50)⟩])
               (.cond (.t 51) (.skip)
                (.exit 2)))
              (.seq (.block 3 (.seq (.ops [] [⟨some 54, none, .fa 0 1 false (.t 1)⟩,
                   ⟨some 55, none, .ld false 1 (.t 54)⟩,
                   ⟨some 56, none, .mv (.t 3)⟩,
                   ⟨some 57, none, .ia 2 true (.t 55) (.t 56)⟩,
                   ⟨some 58, none, .fa 1 1 false (.t 57)⟩,
                   ⟨some 59, none, .ld false 1 (.t 58)⟩,
                   ⟨some 60, none, .mv (.t 4)⟩,
                   ⟨some 61, none, .ia 2 true (.t 59) (.t 60)⟩,
                   ⟨some 62, none, .fa 1 1 false (.t 61)⟩,
                   ⟨some 63, none, .ld false 1 (.t 62)⟩,
                   ⟨some 64, none, .len 1 (.t 63)⟩,
                   ⟨some 65, none, .bin .gtr (.t 64) (.k (.d (.int .i64 8)))⟩,
                   ⟨some 66, none, .mv (.t 65)⟩,
                   ⟨some 67, some (66, false), .fa 0 1 false (.t 1)⟩,
                   ⟨some 68, some (66, false), .ld false 1 (.t 67)⟩,
                   ⟨some 69, some (66, false), .mv (.t 3)⟩,
                   ⟨some 70, some (66, false), .ia 2 true (.t 68) (.t 69)⟩,
                   ⟨some 71, some (66, false), .fa 1 1 false (.t 70)⟩,
                   ⟨some 72, some (66, false), .ld false 1 (.t 71)⟩,
                   ⟨some 73, some (66, false), .mv (.t 4)⟩,
                   ⟨some 74, some (66, false), .ia 2 true (.t 72) (.t 73)⟩,
                   ⟨some 75, some (66, false), .fa 0 1 false (.t 74)⟩,
                   ⟨some 76, some (66, false), .ld false 1 (.t 75)⟩,
                   ⟨some 77, some (66, false), .len 0 (.t 76)⟩,
                   ⟨some 78, some (66, false), .bin .gtr (.t 77) (.k (.d (.int .i64 100)))⟩,
                   ⟨some 79, none, .pick (.t 66) (.k (.d (.bool true))) (.t 78)⟩])
                 (.cond (.t 79) (.seq (.ops [] [⟨some 2, none, .mv (.k (.d (.bool true)))⟩])
                   (.ret))
                  (.skip))))
               (.ops [] [⟨some 52, none, .mv (.t 4)⟩,
                 ⟨some 53, none, .bin .add (.t 52) (.k (.d (.int .i64 1)))⟩,
                 ⟨some 4, none, .tk 53⟩]))))))))
        (.ops [] [⟨some 23, none, .mv (.t 3)⟩,
          ⟨some 24, none, .bin .add (.t 23) (.k (.d (.int .i64 1)))⟩,
          ⟨some 3, none, .tk 24⟩]))))))
   (.seq (.seq (.ops [] [⟨some 5, none, .mv (.k (.d (.int .i64 0)))⟩])
     (.block 4 (.loop 144 [1, 5] (.seq (.seq (.ops [] [⟨some 80, none, .mv (.t 5)⟩,
           ⟨some 81, none, .fa 1 1 false (.t 1)⟩,
           ⟨some 82, none, .ld false 1 (.t 81)⟩,
           ⟨some 83, none, .len 1 (.t 82)⟩,
           ⟨some 84, none, .bin .lss (.t 80) (.t 83)⟩])
         (.cond (.t 84) (.skip)
          (.exit 4)))
        (.seq (.block 5 (.seq (.ops [] [⟨some 87, none, .fa 1 1 false (.t 1)⟩,
             ⟨some 88, none, .ld false 1 (.t 87)⟩,
             ⟨some 89, none, .mv (.t 5)⟩,
             ⟨some 90, none, .ia 4 true (.t 88) (.t 89)⟩,
             ⟨some 91, none, .ld true 4 (.t 90)⟩,
             ⟨some 6, none, .alloc true [.d (.str []), .nil 1, .d (.str []), .nil 5]⟩,
             ⟨none, none, .st true 4 (.t 6) (.t 91)⟩])
           (.seq (.seq (.ops [] [⟨some 92, none, .fa 1 1 false (.t 6)⟩,
               ⟨some 93, none, .ld false 1 (.t 92)⟩,
               ⟨some 94, none, .len 1 (.t 93)⟩,
               ⟨some 95, none, .bin .gtr (.t 94) (.k (.d (.int .i64 8)))⟩,
               ⟨some 96, none, .mv (.t 95)⟩,
               ⟨some 97, some (96, false), .fa 3 1 false (.t 6)⟩,
               ⟨some 98, some (96, false), .ld false 1 (.t 97)⟩,
               ⟨some 99, some (96, false), .len 1 (.t 98)⟩,
               ⟨some 100, some (96, false), .bin .gtr (.t 99) (.k (.d (.int .i64 18)))⟩,
               ⟨some 101, none, .pick (.t 96) (.k (.d (.bool true))) (.t 100)⟩,
               ⟨some 102, none, .mv (.t 101)⟩,
               ⟨some 103, some (102, false), .fa 0 1 false (.t 6)⟩,
               ⟨some 104, some (102, false), .ld false 1 (.t 103)⟩,
               ⟨some 105, some (102, false), .len 0 (.t 104)⟩,
               ⟨some 106, some (102, false), .bin .gtr (.t 105) (.k (.d (.int .i64 100)))⟩,
               ⟨some 107, none, .pick (.t 102) (.k (.d (.bool true))) (.t 106)⟩])
             (.cond (.t 107) (.seq (.ops [] [⟨some 2, none, .mv (.k (.d (.bool true)))⟩])
               (.ret))
              (.skip)))
            (.seq (.ops [] [⟨some 7, none, .mv (.k (.d (.int .i64 0)))⟩])
             (.block 6 (.loop 144 [1, 5, 6, 7] (.seq (.seq (.ops [] [⟨some 108, none, .mv (.t 7)⟩,
                   ⟨some 109, none, .fa 3 1 false (.t 6)⟩,
                   ⟨some 110, none, .ld false 1 (.t 109)⟩,
                   ⟨some 111, none, .len 1 (.t 110)⟩,
                   ⟨some 112, none, .bin .lss (.t 108) (.t 111)⟩])
                 (.cond (.t 112) (.skip)
                  (.exit 6)))
                (.seq (.block 7 (.seq (.ops [] [⟨some 115, none, .fa 3 1 false (.t 6)⟩,
                     ⟨some 116, none, .ld false 1 (.t 115)⟩,
                     ⟨some 117, none, .mv (.t 7)⟩,
                     ⟨some 118, none, .ia 5 true (.t 116) (.t 117)⟩,
                     ⟨some 119, none, .fa 0 1 false (.t 118)⟩,
                     ⟨some 120, none, .ld false 1 (.t 119)⟩,
                     ⟨some 121, none, .len 1 (.t 120)⟩,
                     ⟨some 122, none, .bin .gtr (.t 121) (.k (.d (.int .i64 8)))⟩,
                     ⟨some 123, none, .mv (.t 122)⟩,
                     ⟨some 124, some (123, false), .fa 3 1 false (.t 6)⟩,
                     ⟨some 125, some (123, false), .ld false 1 (.t 124)⟩,
                     ⟨some 126, some (123, false), .mv (.t 7)⟩,
                     ⟨some 127, some (123, false), .ia 5 true (.t 125) (.t 126)⟩,
                     ⟨some 128, some (123, false), .fa 0 1 false (.t 127)⟩,
                     ⟨some 129, some (123, false), .ld false 1 (.t 128)⟩,
                     ⟨some 130, some (123, false), .call 42 [.t 129, .k (.d (.int .i64 70))]⟩,
                     ⟨some 131, some (123, false), .bin .gtr (.t 130) (.k (.d (.int .i64 70)))⟩,
                     ⟨some 132, none, .pick (.t 123) (.k (.d (.bool true))) (.t 131)⟩,
                     ⟨some 133, none, .mv (.t 132)⟩,
                     ⟨some 134, some (133, false), .fa 3 1 false (.t 6)⟩,
                     ⟨some 135, some (133, false), .ld false 1 (.t 134)⟩,
                     ⟨some 136, some (133, false), .mv (.t 7)⟩,
                     ⟨some 137, some (133, false), .ia 5 true (.t 135) (.t 136)⟩,
                     ⟨some 138, some (133, false), .fa 2 3 true (.t 137)⟩,
                     ⟨some 139, some (133, false), .ld true 3 (.t 138)⟩,
                     ⟨some 140, some (133, false), .lit 3 [.t 139]⟩,
                     ⟨some 141, some (133, false), .call 31 [.t 140, .k (.d (.int .i64 70))]⟩,
                     ⟨some 142, some (133, false), .bin .gtr (.t 141) (.k (.d (.int .i64 70)))⟩,
                     ⟨some 143, none, .pick (.t 133) (.k (.d (.bool true))) (.t 142)⟩])
                   (.cond (.t 143) (.seq (.ops [] [⟨some 2, none, .mv (.k (.d (.bool true)))⟩])
                     (.ret))
                    (.skip))))
                 (.ops [] [⟨some 113, none, .mv (.t 7)⟩,
                   ⟨some 114, none, .bin .add (.t 113) (.k (.d (.int .i64 1)))⟩,
                   ⟨some 7, none, .tk 114⟩])))))))))
         (.ops [] [⟨some 85, none, .mv (.t 5)⟩,
           ⟨some 86, none, .bin .add (.t 85) (.k (.d (.int .i64 1)))⟩,
           ⟨some 5, none, .tk 86⟩]))))))
    (.seq (.ops [] [⟨some 2, none, .mv (.k (.d (.bool false)))⟩])
     (.ret)))))⟩
theorem c8 : sp 8 = some (.code F8) := by kernel_rfl

/-- tenet/tenetlaw15.pats -/
def F42 : AFunc := ⟨40, [.tmp 4],
 .seq (.ops [] [⟨some 4, none, .mv (.k (.d (.int .i64 0)))⟩])
 (.seq (.ops [] [⟨some 5, none, .mv (.k (.d (.int .i64 0)))⟩])
  (.seq (.seq (.ops [] [⟨some 6, none, .mv (.k (.d (.int .i64 0)))⟩])
    (.block 0 (.loop 40 [0, 1, 5, 6] (.seq (.seq (.ops [] [⟨some 7, none, .mv (.t 6)⟩,
          ⟨some 8, none, .mv (.t 0)⟩,
          ⟨some 9, none, .len 1 (.t 8)⟩,
          ⟨some 10, none, .bin .lss (.t 7) (.t 9)⟩,
          ⟨some 11, none, .mv (.t 10)⟩,
          ⟨some 12, some (11, true), .mv (.t 5)⟩,
          ⟨some 13, some (11, true), .mv (.t 1)⟩,
          ⟨some 14, some (11, true), .bin .leq (.t 12) (.t 13)⟩,
          ⟨some 15, none, .pick (.t 11) (.t 14) (.k (.d (.bool false)))⟩])
        (.cond (.t 15) (.skip)
         (.exit 0)))
       (.seq (.block 1 (.seq (.ops [] [⟨some 18, none, .mv (.t 5)⟩,
            ⟨some 19, none, .bin .add (.t 18) (.k (.d (.int .i64 1)))⟩,
            ⟨some 20, none, .mv (.t 0)⟩,
            ⟨some 21, none, .mv (.t 6)⟩,
            ⟨some 22, none, .ia 3 true (.t 20) (.t 21)⟩,
            ⟨some 23, none, .fa 2 1 false (.t 22)⟩,
            ⟨some 24, none, .ld false 1 (.t 23)⟩,
            ⟨some 25, none, .mv (.t 1)⟩,
            ⟨some 26, none, .mv (.t 5)⟩,
            ⟨some 27, none, .bin .sub (.t 25) (.t 26)⟩,
            ⟨some 28, none, .call 42 [.t 24, .t 27]⟩,
            ⟨some 29, none, .bin .add (.t 19) (.t 28)⟩,
            ⟨some 5, none, .tk 29⟩])
          (.seq (.ops [] [⟨some 30, none, .mv (.t 0)⟩,
             ⟨some 31, none, .mv (.t 6)⟩,
             ⟨some 32, none, .ia 3 true (.t 30) (.t 31)⟩,
             ⟨some 33, none, .fa 1 1 false (.t 32)⟩,
             ⟨some 34, none, .ld false 1 (.t 33)⟩,
             ⟨some 35, none, .len 0 (.t 34)⟩,
             ⟨some 36, none, .bin .gtr (.t 35) (.k (.d (.int .i64 100)))⟩])
           (.cond (.t 36) (.seq (.ops [] [⟨some 37, none, .mv (.t 1)⟩,
               ⟨some 38, none, .bin .add (.t 37) (.k (.d (.int .i64 1)))⟩,
               ⟨some 4, none, .tk 38⟩])
             (.ret))
            (.skip)))))
        (.ops [] [⟨some 16, none, .mv (.t 6)⟩,
          ⟨some 17, none, .bin .add (.t 16) (.k (.d (.int .i64 1)))⟩,
          ⟨some 6, none, .tk 17⟩]))))))
   (.seq (.ops [] [⟨some 39, none, .tk 5⟩,
      ⟨some 4, none, .tk 39⟩])
    (.ret))))⟩
theorem c42 : sp 42 = some (.code F42) := by kernel_rfl

/-- tenet/tenetlaw15.exprs -/
def F31 : AFunc := ⟨40, [.tmp 4],
 .seq (.ops [] [⟨some 4, none, .mv (.k (.d (.int .i64 0)))⟩])
 (.seq (.ops [] [⟨some 5, none, .mv (.k (.d (.int .i64 0)))⟩])
  (.seq (.seq (.ops [] [⟨some 6, none, .mv (.k (.d (.int .i64 0)))⟩])
    (.block 0 (.loop 40 [0, 1, 5, 6] (.seq (.seq (.ops [] [⟨some 7, none, .mv (.t 6)⟩,
          ⟨some 8, none, .mv (.t 0)⟩,
          ⟨some 9, none, .len 1 (.t 8)⟩,
          ⟨some 10, none, .bin .lss (.t 7) (.t 9)⟩,
          ⟨some 11, none, .mv (.t 10)⟩,
          ⟨some 12, some (11, true), .mv (.t 5)⟩,
          ⟨some 13, some (11, true), .mv (.t 1)⟩,
          ⟨some 14, some (11, true), .bin .leq (.t 12) (.t 13)⟩,
          ⟨some 15, none, .pick (.t 11) (.t 14) (.k (.d (.bool false)))⟩])
        (.cond (.t 15) (.skip)
         (.exit 0)))
       (.seq (.block 1 (.seq (.ops [] [⟨some 18, none, .mv (.t 5)⟩,
            ⟨some 19, none, .bin .add (.t 18) (.k (.d (.int .i64 1)))⟩,
            ⟨some 20, none, .mv (.t 0)⟩,
            ⟨some 21, none, .mv (.t 6)⟩,
            ⟨some 22, none, .ia 3 true (.t 20) (.t 21)⟩,
            ⟨some 23, none, .fa 2 1 false (.t 22)⟩,
            ⟨some 24, none, .ld false 1 (.t 23)⟩,
            ⟨some 25, none, .mv (.t 1)⟩,
            ⟨some 26, none, .mv (.t 5)⟩,
            ⟨some 27, none, .bin .sub (.t 25) (.t 26)⟩,
            ⟨some 28, none, .call 31 [.t 24, .t 27]⟩,
            ⟨some 29, none, .bin .add (.t 19) (.t 28)⟩,
            ⟨some 5, none, .tk 29⟩])
          (.seq (.ops [] [⟨some 30, none, .mv (.t 0)⟩,
             ⟨some 31, none, .mv (.t 6)⟩,
             ⟨some 32, none, .ia 3 true (.t 30) (.t 31)⟩,
             ⟨some 33, none, .fa 1 1 false (.t 32)⟩,
             ⟨some 34, none, .ld false 1 (.t 33)⟩,
             ⟨some 35, none, .len 0 (.t 34)⟩,
             ⟨some 36, none, .bin .gtr (.t 35) (.k (.d (.int .i64 100)))⟩])
           (.cond (.t 36) (.seq (.ops [] [⟨some 37, none, .mv (.t 1)⟩,
               ⟨some 38, none, .bin .add (.t 37) (.k (.d (.int .i64 1)))⟩,
               ⟨some 4, none, .tk 38⟩])
             (.ret))
            (.skip)))))
        (.ops [] [⟨some 16, none, .mv (.t 6)⟩,
          ⟨some 17, none, .bin .add (.t 16) (.k (.d (.int .i64 1)))⟩,
          ⟨some 6, none, .tk 17⟩]))))))
   (.seq (.ops [] [⟨some 39, none, .tk 5⟩,
      ⟨some 4, none, .tk 39⟩])
    (.ret))))⟩
theorem c31 : sp 31 = some (.code F31) := by kernel_rfl

/-- tenet/split.Families -/
def F32 : AFunc := ⟨2, [.reg 29, .tmp 3],
 .seq (.ops [] [⟨some 1, none, .box true 2 (.t 0)⟩,
   ⟨some 29, none, .ralloc true [.nil 23]⟩,
   ⟨some 3, none, .mv (.k (.d (.int .i64 0)))⟩])
 (.seq (.seq (.ops [] [⟨some 10, none, .ld true 2 (.t 1)⟩,
     ⟨some 11, none, .call 48 [.t 10]⟩,
     ⟨some 9, none, .mv (.t 11)⟩,
     ⟨some 12, none, .ext (.t 9) 0⟩,
     ⟨some 13, none, .ext (.t 9) 1⟩,
     ⟨some 14, none, .ext (.t 9) 2⟩,
     ⟨some 4, none, .tk 12⟩,
     ⟨some 5, none, .tk 13⟩,
     ⟨some 6, none, .tk 14⟩])
   (.seq (.ops [] [⟨some 15, none, .mv (.t 4)⟩,
      ⟨some 16, none, .bin .neq (.t 15) (.k (.d (.int .i64 0)))⟩])
    (.cond (.t 16) (.seq (.ops [] [⟨some 17, none, .build [.nil 23] []⟩,
        ⟨some 29, none, .rst 29 true 1 (.t 17)⟩,
        ⟨some 3, none, .mv (.k (.d (.int .i64 4)))⟩])
      (.ret))
     (.skip))))
  (.seq (.ops [] [⟨some 19, none, .ld true 2 (.t 1)⟩,
     ⟨some 20, none, .call 69 [.t 19]⟩,
     ⟨some 18, none, .mv (.t 20)⟩,
     ⟨some 21, none, .ext (.t 18) 0⟩,
     ⟨some 22, none, .ext (.t 18) 1⟩,
     ⟨some 7, none, .alloc true [.nil 23]⟩,
     ⟨none, none, .st true 1 (.t 7) (.t 21)⟩,
     ⟨some 8, none, .tk 22⟩])
   (.seq (.seq (.ops [] [⟨some 23, none, .mv (.t 8)⟩,
       ⟨some 24, none, .not (.t 23)⟩])
     (.cond (.t 24) (.seq (.ops [] [⟨some 25, none, .build [.nil 23] []⟩,
         ⟨some 29, none, .rst 29 true 1 (.t 25)⟩,
         ⟨some 3, none, .mv (.k (.d (.int .i64 2)))⟩])
       (.ret))
      (.skip)))
    (.seq (.ops [] [⟨some 26, none, .ld true 1 (.t 7)⟩,
       ⟨some 29, none, .rst 29 true 1 (.t 26)⟩,
       ⟨some 3, none, .mv (.k (.d (.int .i64 0)))⟩])
     (.ret)))))⟩
theorem c32 : sp 32 = some (.code F32) := by kernel_rfl

/-- tenet/tenetref15.Families -/
def F33 : AFunc := ⟨2, [.reg 88, .tmp 3],
 .seq (.ops [] [⟨some 1, none, .box true 2 (.t 0)⟩,
   ⟨some 88, none, .ralloc true [.nil 23]⟩,
   ⟨some 3, none, .mv (.k (.d (.int .i64 0)))⟩])
 (.seq (.seq (.ops [] [⟨some 13, none, .ld true 2 (.t 1)⟩,
     ⟨some 14, none, .call 16 [.t 13]⟩,
     ⟨some 12, none, .mv (.t 14)⟩,
     ⟨some 15, none, .ext (.t 12) 0⟩,
     ⟨some 16, none, .ext (.t 12) 1⟩,
     ⟨some 17, none, .ext (.t 12) 2⟩,
     ⟨some 4, none, .tk 15⟩,
     ⟨some 5, none, .tk 16⟩,
     ⟨some 6, none, .tk 17⟩])
   (.seq (.ops [] [⟨some 18, none, .mv (.t 4)⟩,
      ⟨some 19, none, .bin .neq (.t 18) (.k (.d (.int .i64 0)))⟩,
      ⟨some 20, none, .mv (.t 19)⟩,
      ⟨some 21, some (20, true), .mv (.t 4)⟩,
      ⟨some 22, some (20, true), .bin .neq (.t 21) (.k (.d (.int .i64 150)))⟩,
      ⟨some 23, none, .pick (.t 20) (.t 22) (.k (.d (.bool false)))⟩,
      ⟨some 24, none, .mv (.t 23)⟩,
      ⟨some 25, some (24, true), .mv (.t 4)⟩,
      ⟨some 26, some (24, true), .bin .neq (.t 25) (.k (.d (.int .i64 151)))⟩,
      ⟨some 27, none, .pick (.t 24) (.t 26) (.k (.d (.bool false)))⟩])
    (.cond (.t 27) (.seq (.ops [] [⟨some 28, none, .build [.nil 23] []⟩,
        ⟨some 88, none, .rst 88 true 1 (.t 28)⟩,
        ⟨some 3, none, .mv (.k (.d (.int .i64 4)))⟩])
      (.ret))
     (.skip))))
  (.seq (.seq (.ops [] [⟨some 29, none, .ld true 2 (.t 1)⟩,
      ⟨some 30, none, .call 70 [.t 29]⟩,
      ⟨some 31, none, .not (.t 30)⟩])
    (.cond (.t 31) (.seq (.ops [] [⟨some 32, none, .build [.nil 23] []⟩,
        ⟨some 88, none, .rst 88 true 1 (.t 32)⟩,
        ⟨some 3, none, .mv (.k (.d (.int .i64 2)))⟩])
      (.ret))
     (.skip)))
   (.seq (.ops [] [⟨some 7, none, .alloc true [.nil 23]⟩])
    (.seq (.seq (.ops [] [⟨some 8, none, .mv (.k (.d (.int .i64 0)))⟩])
      (.block 0 (.loop 86 [1, 7, 8, 88] (.seq (.seq (.ops [] [⟨some 33, none, .mv (.t 8)⟩,
            ⟨some 34, none, .fa 0 1 false (.t 1)⟩,
            ⟨some 35, none, .ld false 1 (.t 34)⟩,
            ⟨some 36, none, .len 1 (.t 35)⟩,
            ⟨some 37, none, .bin .lss (.t 33) (.t 36)⟩])
          (.cond (.t 37) (.skip)
           (.exit 0)))
         (.seq (.block 1 (.seq (.ops [] [⟨some 40, none, .fa 0 1 false (.t 1)⟩,
              ⟨some 41, none, .ld false 1 (.t 40)⟩,
              ⟨some 42, none, .mv (.t 8)⟩,
              ⟨some 43, none, .ia 2 true (.t 41) (.t 42)⟩,
              ⟨some 44, none, .fa 0 1 false (.t 43)⟩,
              ⟨some 45, none, .ld false 1 (.t 44)⟩,
              ⟨some 46, none, .build [.d (.int .i64 0), .d (.int .i64 0), .d (.str []), .nil 2, .nil 5] [(0, 1, (.k (.d (.int .i64 12))))]⟩,
              ⟨some 47, none, .build [.d (.str []), .d (.int .i64 0), .d (.int .i64 0), .d (.int .i64 0), .d (.int .i64 0), .d (.str []), .nil 2, .nil 5, .d (.int .i64 0), .d (.int .i64 0), .d (.str []), .nil 2, .nil 5, .d (.int .i64 0), .d (.int .i64 0), .d (.str []), .nil 2, .nil 5, .d (.int .i64 0), .nil 2, .d (.int .i64 0), .nil 2, .nil 6] [(0, 1, (.t 45)), (1, 1, (.k (.d (.int .i64 4)))), (13, 5, (.t 46))]⟩,
              ⟨some 9, none, .alloc true [.d (.str []), .d (.int .i64 0), .d (.int .i64 0), .d (.int .i64 0), .d (.int .i64 0), .d (.str []), .nil 2, .nil 5, .d (.int .i64 0), .d (.int .i64 0), .d (.str []), .nil 2, .nil 5, .d (.int .i64 0), .d (.int .i64 0), .d (.str []), .nil 2, .nil 5, .d (.int .i64 0), .nil 2, .d (.int .i64 0), .nil 2, .nil 6]⟩,
              ⟨none, none, .st true 23 (.t 9) (.t 47)⟩])
            (.seq (.seq (.ops [] [⟨some 10, none, .mv (.k (.d (.int .i64 0)))⟩])
              (.block 2 (.loop 86 [1, 7, 8, 9, 10, 88] (.seq (.seq (.ops [] [⟨some 48, none, .mv (.t 10)⟩,
                    ⟨some 49, none, .fa 0 1 false (.t 1)⟩,
                    ⟨some 50, none, .ld false 1 (.t 49)⟩,
                    ⟨some 51, none, .mv (.t 8)⟩,
                    ⟨some 52, none, .ia 2 true (.t 50) (.t 51)⟩,
                    ⟨some 53, none, .fa 1 1 false (.t 52)⟩,
                    ⟨some 54, none, .ld false 1 (.t 53)⟩,
                    ⟨some 55, none, .len 1 (.t 54)⟩,
                    ⟨some 56, none, .bin .lss (.t 48) (.t 55)⟩])
                  (.cond (.t 56) (.skip)
                   (.exit 2)))
                 (.seq (.block 3 (.seq (.ops [] [⟨some 59, none, .fa 0 1 false (.t 1)⟩,
                      ⟨some 60, none, .ld false 1 (.t 59)⟩,
                      ⟨some 61, none, .mv (.t 8)⟩,
                      ⟨some 62, none, .ia 2 true (.t 60) (.t 61)⟩,
                      ⟨some 63, none, .fa 1 1 false (.t 62)⟩,
                      ⟨some 64, none, .ld false 1 (.t 63)⟩,
                      ⟨some 65, none, .mv (.t 10)⟩,
                      ⟨some 66, none, .ia 2 true (.t 64) (.t 65)⟩,
                      ⟨some 67, none, .ld true 2 (.t 66)⟩,
                      ⟨some 11, none, .alloc true [.d (.str []), .nil 1]⟩,
                      ⟨none, none, .st true 2 (.t 11) (.t 67)⟩])
                    (.ops [] [⟨some 68, none, .fa 22 1 false (.t 9)⟩,
                      ⟨some 69, none, .ldT (.t 68)⟩,
                      ⟨some 70, none, .fa 0 1 false (.t 11)⟩,
                      ⟨some 71, none, .ld false 1 (.t 70)⟩,
                      ⟨some 72, none, .fa 1 1 false (.t 11)⟩,
                      ⟨some 73, none, .ld false 1 (.t 72)⟩,
                      ⟨some 74, none, .call 71 [.t 73]⟩,
                      ⟨some 75, none, .build [.d (.str []), .d (.int .i64 0), .d (.int .i64 0), .d (.str []), .nil 2, .nil 5] [(0, 1, (.t 71)), (1, 5, (.t 74))]⟩,
                      ⟨some 76, none, .lit 6 [.t 75]⟩,
                      ⟨some 77, none, .app 6 (.t 69) (.t 76)⟩,
                      ⟨some 78, none, .fa 22 1 false (.t 9)⟩,
                      ⟨none, none, .st false 1 (.t 78) (.t 77)⟩])))
                  (.ops [] [⟨some 57, none, .mv (.t 10)⟩,
                    ⟨some 58, none, .bin .add (.t 57) (.k (.d (.int .i64 1)))⟩,
                    ⟨some 10, none, .tk 58⟩]))))))
             (.ops [] [⟨some 79, none, .fa 0 1 false (.t 7)⟩,
               ⟨some 80, none, .ldT (.t 79)⟩,
               ⟨some 81, none, .ld true 23 (.t 9)⟩,
               ⟨some 82, none, .lit 23 [.t 81]⟩,
               ⟨some 83, none, .app 23 (.t 80) (.t 82)⟩,
               ⟨some 84, none, .fa 0 1 false (.t 7)⟩,
               ⟨none, none, .st false 1 (.t 84) (.t 83)⟩]))))
          (.ops [] [⟨some 38, none, .mv (.t 8)⟩,
            ⟨some 39, none, .bin .add (.t 38) (.k (.d (.int .i64 1)))⟩,
            ⟨some 8, none, .tk 39⟩]))))))
     (.seq (.ops [] [⟨some 85, none, .ld true 1 (.t 7)⟩,
        ⟨some 88, none, .rst 88 true 1 (.t 85)⟩,
        ⟨some 3, none, .mv (.k (.d (.int .i64 0)))⟩])
      (.ret))))))⟩
theorem c33 : sp 33 = some (.code F33) := by kernel_rfl

/-- tenet/split.Value -/
def F34 : AFunc := ⟨4, [.reg 47, .tmp 5],
 .seq (.ops [] [⟨some 2, none, .box true 2 (.t 0)⟩,
   ⟨some 3, none, .box true 3 (.t 1)⟩,
   ⟨some 47, none, .ralloc true [.d (.int .i64 0), .d (.int .i64 0), .d (.str []), .nil 2, .nil 5]⟩,
   ⟨some 5, none, .mv (.k (.d (.int .i64 0)))⟩])
 (.seq (.seq (.ops [] [⟨some 13, none, .ld true 2 (.t 2)⟩,
     ⟨some 14, none, .call 48 [.t 13]⟩,
     ⟨some 12, none, .mv (.t 14)⟩,
     ⟨some 15, none, .ext (.t 12) 0⟩,
     ⟨some 16, none, .ext (.t 12) 1⟩,
     ⟨some 17, none, .ext (.t 12) 2⟩,
     ⟨some 6, none, .tk 15⟩,
     ⟨some 7, none, .tk 16⟩,
     ⟨some 8, none, .tk 17⟩])
   (.seq (.ops [] [⟨some 18, none, .mv (.t 6)⟩,
      ⟨some 19, none, .bin .neq (.t 18) (.k (.d (.int .i64 0)))⟩])
    (.cond (.t 19) (.seq (.ops [] [⟨some 20, none, .build [.d (.int .i64 0), .d (.int .i64 0), .d (.str []), .nil 2, .nil 5] []⟩,
        ⟨some 47, none, .rst 47 true 5 (.t 20)⟩,
        ⟨some 5, none, .mv (.k (.d (.int .i64 4)))⟩])
      (.ret))
     (.skip))))
  (.seq (.ops [] [⟨some 22, none, .ld true 2 (.t 2)⟩,
     ⟨some 23, none, .fa 1 1 false (.t 3)⟩,
     ⟨some 24, none, .ld false 1 (.t 23)⟩,
     ⟨some 25, none, .call 72 [.t 22, .t 24]⟩,
     ⟨some 21, none, .mv (.t 25)⟩,
     ⟨some 26, none, .ext (.t 21) 0⟩,
     ⟨some 27, none, .ext (.t 21) 1⟩,
     ⟨some 28, none, .ext (.t 21) 2⟩,
     ⟨some 9, none, .alloc true [.d (.str []), .nil 2]⟩,
     ⟨none, none, .st true 2 (.t 9) (.t 26)⟩,
     ⟨some 10, none, .tk 27⟩,
     ⟨some 11, none, .tk 28⟩])
   (.seq (.seq (.ops [] [⟨some 29, none, .mv (.t 11)⟩,
       ⟨some 30, none, .not (.t 29)⟩,
       ⟨some 31, none, .mv (.t 30)⟩,
       ⟨some 32, some (31, false), .ld true 2 (.t 2)⟩,
       ⟨some 33, some (31, false), .ld true 3 (.t 3)⟩,
       ⟨some 34, some (31, false), .fa 0 1 false (.t 9)⟩,
       ⟨some 35, some (31, false), .ld false 1 (.t 34)⟩,
       ⟨some 36, some (31, false), .call 73 [.t 32, .t 33, .t 35]⟩,
       ⟨some 37, some (31, false), .not (.t 36)⟩,
       ⟨some 38, none, .pick (.t 31) (.k (.d (.bool true))) (.t 37)⟩])
     (.cond (.t 38) (.seq (.ops [] [⟨some 39, none, .build [.d (.int .i64 0), .d (.int .i64 0), .d (.str []), .nil 2, .nil 5] []⟩,
         ⟨some 47, none, .rst 47 true 5 (.t 39)⟩,
         ⟨some 5, none, .mv (.k (.d (.int .i64 4)))⟩])
       (.ret))
      (.skip)))
    (.seq (.ops [] [⟨some 40, none, .ld true 2 (.t 2)⟩,
       ⟨some 41, none, .ld true 3 (.t 3)⟩,
       ⟨some 42, none, .call 74 [.t 40, .t 41]⟩,
       ⟨some 47, none, .rst 47 true 5 (.t 42)⟩,
       ⟨some 5, none, .mv (.k (.d (.int .i64 0)))⟩])
     (.ret)))))⟩
theorem c34 : sp 34 = some (.code F34) := by kernel_rfl

/-- tenet/tenetref15.Value -/
def F35 : AFunc := ⟨4, [.reg 57, .tmp 5],
 .seq (.ops [] [⟨some 2, none, .box true 2 (.t 0)⟩,
   ⟨some 3, none, .box true 3 (.t 1)⟩,
   ⟨some 57, none, .ralloc true [.d (.int .i64 0), .d (.int .i64 0), .d (.str []), .nil 2, .nil 5]⟩,
   ⟨some 5, none, .mv (.k (.d (.int .i64 0)))⟩])
 (.seq (.seq (.ops [] [⟨some 11, none, .ld true 2 (.t 2)⟩,
     ⟨some 12, none, .call 16 [.t 11]⟩,
     ⟨some 10, none, .mv (.t 12)⟩,
     ⟨some 13, none, .ext (.t 10) 0⟩,
     ⟨some 14, none, .ext (.t 10) 1⟩,
     ⟨some 15, none, .ext (.t 10) 2⟩,
     ⟨some 6, none, .tk 13⟩,
     ⟨some 7, none, .tk 14⟩,
     ⟨some 8, none, .tk 15⟩])
   (.seq (.ops [] [⟨some 16, none, .mv (.t 6)⟩,
      ⟨some 17, none, .bin .neq (.t 16) (.k (.d (.int .i64 0)))⟩,
      ⟨some 18, none, .mv (.t 17)⟩,
      ⟨some 19, some (18, true), .mv (.t 6)⟩,
      ⟨some 20, some (18, true), .bin .neq (.t 19) (.k (.d (.int .i64 150)))⟩,
      ⟨some 21, none, .pick (.t 18) (.t 20) (.k (.d (.bool false)))⟩,
      ⟨some 22, none, .mv (.t 21)⟩,
      ⟨some 23, some (22, true), .mv (.t 6)⟩,
      ⟨some 24, some (22, true), .bin .neq (.t 23) (.k (.d (.int .i64 151)))⟩,
      ⟨some 25, none, .pick (.t 22) (.t 24) (.k (.d (.bool false)))⟩])
    (.cond (.t 25) (.seq (.ops [] [⟨some 26, none, .build [.d (.int .i64 0), .d (.int .i64 0), .d (.str []), .nil 2, .nil 5] []⟩,
        ⟨some 57, none, .rst 57 true 5 (.t 26)⟩,
        ⟨some 5, none, .mv (.k (.d (.int .i64 4)))⟩])
      (.ret))
     (.skip))))
  (.seq (.seq (.ops [] [⟨some 9, none, .mv (.k (.d (.int .i64 0)))⟩])
    (.block 0 (.loop 53 [2, 3, 9, 57] (.seq (.seq (.ops [] [⟨some 27, none, .mv (.t 9)⟩,
          ⟨some 28, none, .fa 0 1 false (.t 2)⟩,
          ⟨some 29, none, .ld false 1 (.t 28)⟩,
          ⟨some 30, none, .len 1 (.t 29)⟩,
          ⟨some 31, none, .bin .lss (.t 27) (.t 30)⟩])
        (.cond (.t 31) (.skip)
         (.exit 0)))
       (.seq (.block 1 (.seq (.ops [] [⟨some 34, none, .ld true 2 (.t 2)⟩,
            ⟨some 35, none, .ld true 3 (.t 3)⟩,
            ⟨some 36, none, .fa 0 1 false (.t 2)⟩,
            ⟨some 37, none, .ld false 1 (.t 36)⟩,
            ⟨some 38, none, .mv (.t 9)⟩,
            ⟨some 39, none, .ia 2 true (.t 37) (.t 38)⟩,
            ⟨some 40, none, .fa 0 1 false (.t 39)⟩,
            ⟨some 41, none, .ld false 1 (.t 40)⟩,
            ⟨some 42, none, .call 75 [.t 34, .t 35, .t 41]⟩])
          (.cond (.t 42) (.seq (.ops [] [⟨some 43, none, .ld true 2 (.t 2)⟩,
              ⟨some 44, none, .ld true 3 (.t 3)⟩,
              ⟨some 45, none, .fa 0 1 false (.t 2)⟩,
              ⟨some 46, none, .ld false 1 (.t 45)⟩,
              ⟨some 47, none, .mv (.t 9)⟩,
              ⟨some 48, none, .ia 2 true (.t 46) (.t 47)⟩,
              ⟨some 49, none, .fa 0 1 false (.t 48)⟩,
              ⟨some 50, none, .ld false 1 (.t 49)⟩,
              ⟨some 51, none, .call 76 [.t 43, .t 44, .t 50]⟩,
              ⟨some 57, none, .rst 57 true 5 (.t 51)⟩,
              ⟨some 5, none, .mv (.k (.d (.int .i64 0)))⟩])
            (.ret))
           (.skip))))
        (.ops [] [⟨some 32, none, .mv (.t 9)⟩,
          ⟨some 33, none, .bin .add (.t 32) (.k (.d (.int .i64 1)))⟩,
          ⟨some 9, none, .tk 33⟩]))))))
   (.seq (.ops [] [⟨some 52, none, .build [.d (.int .i64 0), .d (.int .i64 0), .d (.str []), .nil 2, .nil 5] []⟩,
      ⟨some 57, none, .rst 57 true 5 (.t 52)⟩,
      ⟨some 5, none, .mv (.k (.d (.int .i64 4)))⟩])
    (.ret))))⟩
theorem c35 : sp 35 = some (.code F35) := by kernel_rfl

/-- tenet/tenetref00.EqTable -/
def F36 : AFunc := ⟨32, [.tmp 4],
 .seq (.ops [] [⟨some 2, none, .box true 1 (.t 0)⟩,
   ⟨some 3, none, .box true 1 (.t 1)⟩,
   ⟨some 4, none, .mv (.k (.d (.bool false)))⟩])
 (.seq (.seq (.ops [] [⟨some 6, none, .fa 0 1 false (.t 2)⟩,
     ⟨some 7, none, .ld false 1 (.t 6)⟩,
     ⟨some 8, none, .len 1 (.t 7)⟩,
     ⟨some 9, none, .fa 0 1 false (.t 3)⟩,
     ⟨some 10, none, .ld false 1 (.t 9)⟩,
     ⟨some 11, none, .len 1 (.t 10)⟩,
     ⟨some 12, none, .bin .neq (.t 8) (.t 11)⟩])
   (.cond (.t 12) (.seq (.ops [] [⟨some 4, none, .mv (.k (.d (.bool false)))⟩])
     (.ret))
    (.skip)))
  (.seq (.seq (.ops [] [⟨some 5, none, .mv (.k (.d (.int .i64 0)))⟩])
    (.block 0 (.loop 32 [2, 3, 5] (.seq (.seq (.ops [] [⟨some 13, none, .mv (.t 5)⟩,
          ⟨some 14, none, .fa 0 1 false (.t 2)⟩,
          ⟨some 15, none, .ld false 1 (.t 14)⟩,
          ⟨some 16, none, .len 1 (.t 15)⟩,
          ⟨some 17, none, .bin .lss (.t 13) (.t 16)⟩])
        (.cond (.t 17) (.skip)
         (.exit 0)))
       (.seq (.block 1 (.seq (.ops [] [⟨some 20, none, .fa 0 1 false (.t 2)⟩,
            ⟨some 21, none, .ld false 1 (.t 20)⟩,
            ⟨some 22, none, .mv (.t 5)⟩,
            ⟨some 23, none, .ia 23 true (.t 21) (.t 22)⟩,
            ⟨some 24, none, .ld true 23 (.t 23)⟩,
            ⟨some 25, none, .fa 0 1 false (.t 3)⟩,
            ⟨some 26, none, .ld false 1 (.t 25)⟩,
            ⟨some 27, none, .mv (.t 5)⟩,
            ⟨some 28, none, .ia 23 true (.t 26) (.t 27)⟩,
            ⟨some 29, none, .ld true 23 (.t 28)⟩,
            ⟨some 30, none, .call 77 [.t 24, .t 29]⟩,
            ⟨some 31, none, .not (.t 30)⟩])
          (.cond (.t 31) (.seq (.ops [] [⟨some 4, none, .mv (.k (.d (.bool false)))⟩])
            (.ret))
           (.skip))))
        (.ops [] [⟨some 18, none, .mv (.t 5)⟩,
          ⟨some 19, none, .bin .add (.t 18) (.k (.d (.int .i64 1)))⟩,
          ⟨some 5, none, .tk 19⟩]))))))
   (.seq (.ops [] [⟨some 4, none, .mv (.k (.d (.bool true)))⟩])
    (.ret))))⟩
theorem c36 : sp 36 = some (.code F36) := by kernel_rfl

/-- tenet/tenetref00.EqTerm -/
def F37 : AFunc := ⟨38, [.tmp 4],
 .seq (.ops [] [⟨some 2, none, .box true 5 (.t 0)⟩,
   ⟨some 3, none, .box true 5 (.t 1)⟩,
   ⟨some 4, none, .mv (.k (.d (.bool false)))⟩])
 (.seq (.ops [] [⟨some 5, none, .fa 0 1 false (.t 2)⟩,
    ⟨some 6, none, .ld false 1 (.t 5)⟩,
    ⟨some 7, none, .fa 0 1 false (.t 3)⟩,
    ⟨some 8, none, .ld false 1 (.t 7)⟩,
    ⟨some 9, none, .bin .eql (.t 6) (.t 8)⟩,
    ⟨some 10, none, .mv (.t 9)⟩,
    ⟨some 11, some (10, true), .fa 1 1 false (.t 2)⟩,
    ⟨some 12, some (10, true), .ld false 1 (.t 11)⟩,
    ⟨some 13, some (10, true), .fa 1 1 false (.t 3)⟩,
    ⟨some 14, some (10, true), .ld false 1 (.t 13)⟩,
    ⟨some 15, some (10, true), .bin .eql (.t 12) (.t 14)⟩,
    ⟨some 16, none, .pick (.t 10) (.t 15) (.k (.d (.bool false)))⟩,
    ⟨some 17, none, .mv (.t 16)⟩,
    ⟨some 18, some (17, true), .fa 2 1 false (.t 2)⟩,
    ⟨some 19, some (17, true), .ld false 1 (.t 18)⟩,
    ⟨some 20, some (17, true), .fa 2 1 false (.t 3)⟩,
    ⟨some 21, some (17, true), .ld false 1 (.t 20)⟩,
    ⟨some 22, some (17, true), .bin .eql (.t 19) (.t 21)⟩,
    ⟨some 23, none, .pick (.t 17) (.t 22) (.k (.d (.bool false)))⟩,
    ⟨some 24, none, .mv (.t 23)⟩,
    ⟨some 25, some (24, true), .fa 3 1 false (.t 2)⟩,
    ⟨some 26, some (24, true), .ld false 1 (.t 25)⟩,
    ⟨some 27, some (24, true), .fa 3 1 false (.t 3)⟩,
    ⟨some 28, some (24, true), .ld false 1 (.t 27)⟩,
    ⟨some 29, some (24, true), .call 78 [.t 26, .t 28]⟩,
    ⟨some 30, none, .pick (.t 24) (.t 29) (.k (.d (.bool false)))⟩,
    ⟨some 31, none, .mv (.t 30)⟩,
    ⟨some 32, some (31, true), .fa 4 1 false (.t 2)⟩,
    ⟨some 33, some (31, true), .ld false 1 (.t 32)⟩,
    ⟨some 34, some (31, true), .fa 4 1 false (.t 3)⟩,
    ⟨some 35, some (31, true), .ld false 1 (.t 34)⟩,
    ⟨some 36, some (31, true), .call 79 [.t 33, .t 35]⟩,
    ⟨some 37, none, .pick (.t 31) (.t 36) (.k (.d (.bool false)))⟩,
    ⟨some 4, none, .tk 37⟩])
  (.ret))⟩
theorem c37 : sp 37 = some (.code F37) := by kernel_rfl

/-- tenet/split.families -/
def F69 : AFunc := ⟨2, [.reg 70, .tmp 3],
 .seq (.ops [] [⟨some 1, none, .box true 2 (.t 0)⟩,
   ⟨some 70, none, .ralloc true [.nil 23]⟩,
   ⟨some 3, none, .mv (.k (.d (.bool false)))⟩])
 (.seq (.ops [] [⟨some 4, none, .alloc true [.nil 23]⟩])
  (.seq (.seq (.ops [] [⟨some 13, none, .fa 0 1 false (.t 1)⟩,
      ⟨some 14, none, .ld false 1 (.t 13)⟩,
      ⟨some 15, none, .len 1 (.t 14)⟩,
      ⟨some 16, none, .mv (.k (.d (.int .i64 0)))⟩])
    (.block 0 (.loop 68 [1, 4, 14, 15, 16, 70] (.seq (.ops [] [⟨some 17, none, .bin .lss (.t 16) (.t 15)⟩])
       (.seq (.cond (.t 17) (.skip)
         (.exit 0))
        (.seq (.block 1 (.seq (.ops [] [⟨some 18, none, .tk 16⟩,
             ⟨some 19, none, .ia 2 true (.t 14) (.t 16)⟩,
             ⟨some 20, none, .ld true 2 (.t 19)⟩,
             ⟨some 6, none, .alloc true [.d (.str []), .nil 2]⟩,
             ⟨some 5, none, .tk 18⟩,
             ⟨none, none, .st true 2 (.t 6) (.t 20)⟩])
           (.seq (.ops [] [⟨some 21, none, .fa 0 1 false (.t 6)⟩,
              ⟨some 22, none, .ld false 1 (.t 21)⟩,
              ⟨some 23, none, .build [.d (.int .i64 0), .d (.int .i64 0), .d (.str []), .nil 2, .nil 5] [(0, 1, (.k (.d (.int .i64 12))))]⟩,
              ⟨some 24, none, .build [.d (.str []), .d (.int .i64 0), .d (.int .i64 0), .d (.int .i64 0), .d (.int .i64 0), .d (.str []), .nil 2, .nil 5, .d (.int .i64 0), .d (.int .i64 0), .d (.str []), .nil 2, .nil 5, .d (.int .i64 0), .d (.int .i64 0), .d (.str []), .nil 2, .nil 5, .d (.int .i64 0), .nil 2, .d (.int .i64 0), .nil 2, .nil 6] [(0, 1, (.t 22)), (1, 1, (.k (.d (.int .i64 4)))), (13, 5, (.t 23))]⟩,
              ⟨some 7, none, .alloc true [.d (.str []), .d (.int .i64 0), .d (.int .i64 0), .d (.int .i64 0), .d (.int .i64 0), .d (.str []), .nil 2, .nil 5, .d (.int .i64 0), .d (.int .i64 0), .d (.str []), .nil 2, .nil 5, .d (.int .i64 0), .d (.int .i64 0), .d (.str []), .nil 2, .nil 5, .d (.int .i64 0), .nil 2, .d (.int .i64 0), .nil 2, .nil 6]⟩,
              ⟨none, none, .st true 23 (.t 7) (.t 24)⟩])
            (.seq (.seq (.ops [] [⟨some 25, none, .fa 1 1 false (.t 6)⟩,
                ⟨some 26, none, .ld false 1 (.t 25)⟩,
                ⟨some 27, none, .len 1 (.t 26)⟩,
                ⟨some 28, none, .mv (.k (.d (.int .i64 0)))⟩])
              (.block 2 (.loop 68 [1, 4, 5, 7, 14, 15, 16, 26, 27, 28, 70] (.seq (.ops [] [⟨some 29, none, .bin .lss (.t 28) (.t 27)⟩])
                 (.seq (.cond (.t 29) (.skip)
                   (.exit 2))
                  (.seq (.block 3 (.seq (.ops [] [⟨some 30, none, .ia 2 true (.t 26) (.t 28)⟩,
                       ⟨some 31, none, .ld true 2 (.t 30)⟩,
                       ⟨some 9, none, .alloc true [.d (.str []), .nil 1]⟩,
                       ⟨none, none, .st true 2 (.t 9) (.t 31)⟩])
                     (.seq (.seq (.ops [] [⟨some 32, none, .fa 1 1 false (.t 9)⟩,
                         ⟨some 33, none, .ld false 1 (.t 32)⟩,
                         ⟨some 34, none, .len 1 (.t 33)⟩,
                         ⟨some 35, none, .mv (.k (.d (.int .i64 0)))⟩])
                       (.block 4 (.loop 68 [1, 4, 5, 7, 9, 14, 15, 16, 26, 27, 28, 33, 34, 35, 70] (.seq (.ops [] [⟨some 36, none, .bin .lss (.t 35) (.t 34)⟩])
                          (.seq (.cond (.t 36) (.skip)
                            (.exit 4))
                           (.seq (.block 5 (.seq (.ops [] [⟨some 37, none, .ia 1 false (.t 33) (.t 35)⟩,
                                ⟨some 38, none, .ldT (.t 37)⟩,
                                ⟨some 11, none, .alloc false [.d (.str [])]⟩,
                                ⟨none, none, .st false 1 (.t 11) (.t 38)⟩])
                              (.seq (.ops [] [⟨some 39, none, .fa 0 1 false (.t 1)⟩,
                                 ⟨some 40, none, .ld false 1 (.t 39)⟩,
                                 ⟨some 41, none, .fn 122 [.t 11]⟩,
                                 ⟨some 42, none, .call 121 [.t 40, .t 41]⟩,
                                 ⟨some 12, none, .tk 42⟩])
                               (.seq (.ops [] [⟨some 43, none, .mv (.t 12)⟩,
                                  ⟨some 44, none, .mv (.t 5)⟩,
                                  ⟨some 45, none, .bin .gtr (.t 43) (.t 44)⟩])
                                (.cond (.t 45) (.seq (.ops [] [⟨some 46, none, .build [.nil 23] []⟩,
                                    ⟨some 70, none, .rst 70 true 1 (.t 46)⟩,
                                    ⟨some 3, none, .mv (.k (.d (.bool false)))⟩])
                                  (.ret))
                                 (.skip))))))
                            (.ops [] [⟨some 47, none, .bin .add (.t 35) (.k (.d (.int .i64 1)))⟩,
                              ⟨some 35, none, .mv (.t 47)⟩])))))))
                      (.ops [] [⟨some 48, none, .fa 22 1 false (.t 7)⟩,
                        ⟨some 49, none, .ldT (.t 48)⟩,
                        ⟨some 50, none, .fa 0 1 false (.t 9)⟩,
                        ⟨some 51, none, .ld false 1 (.t 50)⟩,
                        ⟨some 52, none, .fa 1 1 false (.t 9)⟩,
                        ⟨some 53, none, .ld false 1 (.t 52)⟩,
                        ⟨some 54, none, .call 123 [.t 53]⟩,
                        ⟨some 55, none, .build [.d (.str []), .d (.int .i64 0), .d (.int .i64 0), .d (.str []), .nil 2, .nil 5] [(0, 1, (.t 51)), (1, 5, (.t 54))]⟩,
                        ⟨some 56, none, .lit 6 [.t 55]⟩,
                        ⟨some 57, none, .app 6 (.t 49) (.t 56)⟩,
                        ⟨some 58, none, .fa 22 1 false (.t 7)⟩,
                        ⟨none, none, .st false 1 (.t 58) (.t 57)⟩]))))
                   (.ops [] [⟨some 59, none, .bin .add (.t 28) (.k (.d (.int .i64 1)))⟩,
                     ⟨some 28, none, .mv (.t 59)⟩])))))))
             (.ops [] [⟨some 60, none, .fa 0 1 false (.t 4)⟩,
               ⟨some 61, none, .ldT (.t 60)⟩,
               ⟨some 62, none, .ld true 23 (.t 7)⟩,
               ⟨some 63, none, .lit 23 [.t 62]⟩,
               ⟨some 64, none, .app 23 (.t 61) (.t 63)⟩,
               ⟨some 65, none, .fa 0 1 false (.t 4)⟩,
               ⟨none, none, .st false 1 (.t 65) (.t 64)⟩])))))
         (.ops [] [⟨some 66, none, .bin .add (.t 16) (.k (.d (.int .i64 1)))⟩,
           ⟨some 16, none, .mv (.t 66)⟩])))))))
   (.seq (.ops [] [⟨some 67, none, .ld true 1 (.t 4)⟩,
      ⟨some 70, none, .rst 70 true 1 (.t 67)⟩,
      ⟨some 3, none, .mv (.k (.d (.bool true)))⟩])
    (.ret))))⟩
theorem c69 : sp 69 = some (.code F69) := by kernel_rfl

/-- tenet/split.families$1 -/
def F122 : AFunc := ⟨8, [.tmp 3],
 .seq (.ops [] [⟨some 2, none, .box true 2 (.t 0)⟩,
   ⟨some 3, none, .mv (.k (.d (.bool false)))⟩])
 (.seq (.ops [] [⟨some 4, none, .fa 0 1 false (.t 2)⟩,
    ⟨some 5, none, .ld false 1 (.t 4)⟩,
    ⟨some 6, none, .ld false 1 (.t 1)⟩,
    ⟨some 7, none, .bin .eql (.t 5) (.t 6)⟩,
    ⟨some 3, none, .tk 7⟩])
  (.ret))⟩
theorem c122 : sp 122 = some (.code F122) := by kernel_rfl

/-- tenet/split.product -/
def F123 : AFunc := ⟨2, [.reg 25],
 .seq (.ops [] [⟨some 25, none, .ralloc true [.d (.int .i64 0), .d (.int .i64 0), .d (.str []), .nil 2, .nil 5]⟩])
 (.seq (.seq (.ops [] [⟨some 3, none, .mv (.t 0)⟩,
     ⟨some 4, none, .len 1 (.t 3)⟩])
   (.block 0 (.seq (.ops [] [⟨some 6, none, .bin .eql (.t 4) (.k (.d (.int .i64 0)))⟩,
       ⟨some 5, none, .tk 6⟩])
     (.cond (.t 5) (.seq (.ops [] [⟨some 7, none, .build [.d (.int .i64 0), .d (.int .i64 0), .d (.str []), .nil 2, .nil 5] [(0, 1, (.k (.d (.int .i64 12))))]⟩,
         ⟨some 25, none, .rst 25 true 5 (.t 7)⟩])
       (.ret))
      (.seq (.ops [] [⟨some 9, none, .bin .eql (.t 4) (.k (.d (.int .i64 1)))⟩,
         ⟨some 8, none, .tk 9⟩])
       (.cond (.t 8) (.seq (.ops [] [⟨some 10, none, .mv (.t 0)⟩,
           ⟨some 11, none, .ia 1 false (.t 10) (.k (.d (.int .i64 0)))⟩,
           ⟨some 12, none, .ld false 1 (.t 11)⟩,
           ⟨some 13, none, .call 156 [.t 12]⟩,
           ⟨some 25, none, .rst 25 true 5 (.t 13)⟩])
         (.ret))
        (.skip)))))))
  (.seq (.ops [] [⟨some 14, none, .mv (.t 0)⟩,
     ⟨some 15, none, .ia 1 false (.t 14) (.k (.d (.int .i64 0)))⟩,
     ⟨some 16, none, .ld false 1 (.t 15)⟩,
     ⟨some 17, none, .call 156 [.t 16]⟩,
     ⟨some 18, none, .mv (.t 0)⟩,
     ⟨some 19, none, .slice 1 (.t 18) (some (.k (.d (.int .i64 1)))) none none⟩,
     ⟨some 20, none, .call 123 [.t 19]⟩,
     ⟨some 21, none, .lit 5 [.t 17, .t 20]⟩,
     ⟨some 22, none, .build [.d (.int .i64 0), .d (.int .i64 0), .d (.str []), .nil 2, .nil 5] [(0, 1, (.k (.d (.int .i64 8)))), (4, 1, (.t 21))]⟩,
     ⟨some 25, none, .rst 25 true 5 (.t 22)⟩])
   (.ret)))⟩
theorem c123 : sp 123 = some (.code F123) := by kernel_rfl

/-- tenet/split.built -/
def F126 : AFunc := ⟨6, [.reg 27],
 .seq (.ops [] [⟨some 3, none, .box true 2 (.t 0)⟩,
   ⟨some 27, none, .ralloc true [.d (.int .i64 0), .d (.int .i64 0), .d (.str []), .nil 2, .nil 5]⟩])
 (.seq (.ops [] [⟨some 7, none, .fa 0 1 false (.t 3)⟩,
    ⟨some 8, none, .ld false 1 (.t 7)⟩,
    ⟨some 9, none, .mv (.t 1)⟩,
    ⟨some 10, none, .call 159 []⟩,
    ⟨some 11, none, .fa 1 1 false (.t 3)⟩,
    ⟨some 12, none, .ld false 1 (.t 11)⟩,
    ⟨some 13, none, .mv (.t 1)⟩,
    ⟨some 14, none, .ia 2 true (.t 12) (.t 13)⟩,
    ⟨some 15, none, .fa 1 1 false (.t 14)⟩,
    ⟨some 16, none, .ld false 1 (.t 15)⟩,
    ⟨some 17, none, .mv (.t 2)⟩,
    ⟨some 18, none, .call 160 [.t 16, .t 17]⟩,
    ⟨some 19, none, .lit 5 [.t 10, .t 18]⟩,
    ⟨some 20, none, .build [.d (.int .i64 0), .d (.int .i64 0), .d (.str []), .nil 2, .nil 5] [(0, 1, (.k (.d (.int .i64 27)))), (2, 1, (.t 8)), (1, 1, (.t 9)), (4, 1, (.t 19))]⟩,
    ⟨some 27, none, .rst 27 true 5 (.t 20)⟩])
  (.ret))⟩
theorem c126 : sp 126 = some (.code F126) := by kernel_rfl

/-- tenet/split.family -/
def F156 : AFunc := ⟨2, [.reg 9],
 .seq (.ops [] [⟨some 9, none, .ralloc true [.d (.int .i64 0), .d (.int .i64 0), .d (.str []), .nil 2, .nil 5]⟩])
 (.seq (.ops [] [⟨some 3, none, .mv (.t 0)⟩,
    ⟨some 4, none, .call 159 []⟩,
    ⟨some 5, none, .lit 5 [.t 4]⟩,
    ⟨some 6, none, .build [.d (.int .i64 0), .d (.int .i64 0), .d (.str []), .nil 2, .nil 5] [(0, 1, (.k (.d (.int .i64 26)))), (2, 1, (.t 3)), (4, 1, (.t 5))]⟩,
    ⟨some 9, none, .rst 9 true 5 (.t 6)⟩])
  (.ret))⟩
theorem c156 : sp 156 = some (.code F156) := by kernel_rfl

/-- tenet/split.star -/
def F159 : AFunc := ⟨0, [.reg 2],
 .seq (.ops [] [⟨some 2, none, .ralloc true [.d (.int .i64 0), .d (.int .i64 0), .d (.str []), .nil 2, .nil 5]⟩])
 (.seq (.ops [] [⟨some 1, none, .build [.d (.int .i64 0), .d (.int .i64 0), .d (.str []), .nil 2, .nil 5] [(0, 1, (.k (.d (.int .i64 13))))]⟩,
    ⟨some 2, none, .rst 2 true 5 (.t 1)⟩])
  (.ret))⟩
theorem c159 : sp 159 = some (.code F159) := by kernel_rfl

/-- tenet/split.tuple -/
def F160 : AFunc := ⟨4, [.reg 36],
 .seq (.ops [] [⟨some 36, none, .ralloc true [.d (.int .i64 0), .d (.int .i64 0), .d (.str []), .nil 2, .nil 5]⟩])
 (.seq (.seq (.ops [] [⟨some 5, none, .mv (.t 0)⟩,
     ⟨some 6, none, .len 1 (.t 5)⟩])
   (.block 0 (.seq (.ops [] [⟨some 8, none, .bin .eql (.t 6) (.k (.d (.int .i64 0)))⟩,
       ⟨some 7, none, .tk 8⟩])
     (.cond (.t 7) (.seq (.ops [] [⟨some 9, none, .call 159 []⟩,
         ⟨some 36, none, .rst 36 true 5 (.t 9)⟩])
       (.ret))
      (.seq (.ops [] [⟨some 11, none, .bin .eql (.t 6) (.k (.d (.int .i64 1)))⟩,
         ⟨some 10, none, .tk 11⟩])
       (.cond (.t 10) (.seq (.ops [] [⟨some 12, none, .mv (.t 1)⟩,
           ⟨some 13, none, .ia 5 true (.t 12) (.k (.d (.int .i64 0)))⟩,
           ⟨some 14, none, .ld true 5 (.t 13)⟩,
           ⟨some 36, none, .rst 36 true 5 (.t 14)⟩])
         (.ret))
        (.skip)))))))
  (.seq (.ops [] [⟨some 15, none, .mv (.t 0)⟩,
     ⟨some 16, none, .ia 1 false (.t 15) (.k (.d (.int .i64 0)))⟩,
     ⟨some 17, none, .ld false 1 (.t 16)⟩,
     ⟨some 18, none, .call 156 [.t 17]⟩,
     ⟨some 19, none, .mv (.t 0)⟩,
     ⟨some 20, none, .slice 1 (.t 19) (some (.k (.d (.int .i64 1)))) none none⟩,
     ⟨some 21, none, .call 123 [.t 20]⟩,
     ⟨some 22, none, .mv (.t 1)⟩,
     ⟨some 23, none, .ia 5 true (.t 22) (.k (.d (.int .i64 0)))⟩,
     ⟨some 24, none, .ld true 5 (.t 23)⟩,
     ⟨some 25, none, .mv (.t 0)⟩,
     ⟨some 26, none, .slice 1 (.t 25) (some (.k (.d (.int .i64 1)))) none none⟩,
     ⟨some 27, none, .mv (.t 1)⟩,
     ⟨some 28, none, .slice 5 (.t 27) (some (.k (.d (.int .i64 1)))) none none⟩,
     ⟨some 29, none, .call 160 [.t 26, .t 28]⟩,
     ⟨some 30, none, .lit 5 [.t 18, .t 21, .t 24, .t 29]⟩,
     ⟨some 31, none, .build [.d (.int .i64 0), .d (.int .i64 0), .d (.str []), .nil 2, .nil 5] [(0, 1, (.k (.d (.int .i64 9)))), (4, 1, (.t 30))]⟩,
     ⟨some 36, none, .rst 36 true 5 (.t 31)⟩])
   (.ret)))⟩
theorem c160 : sp 160 = some (.code F160) := by kernel_rfl

/-- tenet/split.owner -/
def F72 : AFunc := ⟨4, [.reg 30, .tmp 5, .tmp 6],
 .seq (.ops [] [⟨some 2, none, .box true 2 (.t 0)⟩,
   ⟨some 30, none, .ralloc true [.d (.str []), .nil 2]⟩,
   ⟨some 5, none, .mv (.k (.d (.int .i64 0)))⟩,
   ⟨some 6, none, .mv (.k (.d (.bool false)))⟩])
 (.seq (.seq (.ops [] [⟨some 10, none, .fa 0 1 false (.t 2)⟩,
     ⟨some 11, none, .ld false 1 (.t 10)⟩,
     ⟨some 12, none, .len 1 (.t 11)⟩,
     ⟨some 13, none, .mv (.k (.d (.int .i64 0)))⟩])
   (.block 0 (.loop 26 [1, 11, 12, 13, 30] (.seq (.ops [] [⟨some 14, none, .bin .lss (.t 13) (.t 12)⟩])
      (.seq (.cond (.t 14) (.skip)
        (.exit 0))
       (.seq (.block 1 (.seq (.ops [] [⟨some 15, none, .ia 2 true (.t 11) (.t 13)⟩,
            ⟨some 16, none, .ld true 2 (.t 15)⟩,
            ⟨some 8, none, .alloc true [.d (.str []), .nil 2]⟩,
            ⟨none, none, .st true 2 (.t 8) (.t 16)⟩])
          (.seq (.ops [] [⟨some 17, none, .ld true 2 (.t 8)⟩,
             ⟨some 18, none, .mv (.t 1)⟩,
             ⟨some 19, none, .call 125 [.t 17, .t 18]⟩,
             ⟨some 9, none, .tk 19⟩])
           (.seq (.ops [] [⟨some 20, none, .mv (.t 9)⟩,
              ⟨some 21, none, .bin .geq (.t 20) (.k (.d (.int .i64 0)))⟩])
            (.cond (.t 21) (.seq (.ops [] [⟨some 22, none, .ld true 2 (.t 8)⟩,
                ⟨some 23, none, .tk 9⟩,
                ⟨some 30, none, .rst 30 true 2 (.t 22)⟩,
                ⟨some 5, none, .tk 23⟩,
                ⟨some 6, none, .mv (.k (.d (.bool true)))⟩])
              (.ret))
             (.skip))))))
        (.ops [] [⟨some 24, none, .bin .add (.t 13) (.k (.d (.int .i64 1)))⟩,
          ⟨some 13, none, .mv (.t 24)⟩])))))))
  (.seq (.ops [] [⟨some 25, none, .build [.d (.str []), .nil 2] []⟩,
     ⟨some 30, none, .rst 30 true 2 (.t 25)⟩,
     ⟨some 5, none, .mv (.k (.d (.int .i64 0)))⟩,
     ⟨some 6, none, .mv (.k (.d (.bool false)))⟩])
   (.ret)))⟩
theorem c72 : sp 72 = some (.code F72) := by kernel_rfl

/-- tenet/split.isValue -/
def F73 : AFunc := ⟨64, [.tmp 6],
 .seq (.ops [] [⟨some 3, none, .box true 2 (.t 0)⟩,
   ⟨some 4, none, .box true 3 (.t 1)⟩,
   ⟨some 6, none, .mv (.k (.d (.bool false)))⟩])
 (.seq (.ops [] [⟨some 13, none, .ld true 2 (.t 3)⟩,
    ⟨some 14, none, .mv (.t 2)⟩,
    ⟨some 15, none, .call 103 [.t 13, .t 14]⟩,
    ⟨some 12, none, .mv (.t 15)⟩,
    ⟨some 16, none, .ext (.t 12) 0⟩,
    ⟨some 17, none, .ext (.t 12) 1⟩,
    ⟨some 7, none, .alloc true [.d (.str []), .nil 2]⟩,
    ⟨none, none, .st true 2 (.t 7) (.t 16)⟩,
    ⟨some 8, none, .tk 17⟩])
  (.seq (.ops [] [⟨some 18, none, .ld true 2 (.t 7)⟩,
     ⟨some 19, none, .fa 1 1 false (.t 4)⟩,
     ⟨some 20, none, .ld false 1 (.t 19)⟩,
     ⟨some 21, none, .call 125 [.t 18, .t 20]⟩,
     ⟨some 9, none, .tk 21⟩])
   (.seq (.seq (.ops [] [⟨some 22, none, .fa 0 1 false (.t 4)⟩,
       ⟨some 23, none, .ld false 1 (.t 22)⟩,
       ⟨some 24, none, .bin .neq (.t 23) (.k (.d (.int .i64 2)))⟩,
       ⟨some 25, none, .mv (.t 24)⟩,
       ⟨some 26, some (25, false), .mv (.t 9)⟩,
       ⟨some 27, some (25, false), .bin .lss (.t 26) (.k (.d (.int .i64 0)))⟩,
       ⟨some 28, none, .pick (.t 25) (.k (.d (.bool true))) (.t 27)⟩,
       ⟨some 29, none, .mv (.t 28)⟩,
       ⟨some 30, some (29, false), .fa 2 1 false (.t 4)⟩,
       ⟨some 31, some (29, false), .ld false 1 (.t 30)⟩,
       ⟨some 32, some (29, false), .len 1 (.t 31)⟩,
       ⟨some 33, some (29, false), .fa 1 1 false (.t 7)⟩,
       ⟨some 34, some (29, false), .ld false 1 (.t 33)⟩,
       ⟨some 35, some (29, false), .mv (.t 9)⟩,
       ⟨some 36, some (29, false), .ia 2 true (.t 34) (.t 35)⟩,
       ⟨some 37, some (29, false), .fa 1 1 false (.t 36)⟩,
       ⟨some 38, some (29, false), .ld false 1 (.t 37)⟩,
       ⟨some 39, some (29, false), .len 1 (.t 38)⟩,
       ⟨some 40, some (29, false), .bin .neq (.t 32) (.t 39)⟩,
       ⟨some 41, none, .pick (.t 29) (.k (.d (.bool true))) (.t 40)⟩])
     (.cond (.t 41) (.seq (.ops [] [⟨some 6, none, .mv (.k (.d (.bool false)))⟩])
       (.ret))
      (.skip)))
    (.seq (.seq (.ops [] [⟨some 42, none, .fa 2 1 false (.t 4)⟩,
        ⟨some 43, none, .ld false 1 (.t 42)⟩,
        ⟨some 44, none, .len 1 (.t 43)⟩,
        ⟨some 45, none, .mv (.k (.d (.int .i64 0)))⟩])
      (.block 0 (.loop 64 [3, 7, 9, 43, 44, 45] (.seq (.ops [] [⟨some 46, none, .bin .lss (.t 45) (.t 44)⟩])
         (.seq (.cond (.t 46) (.skip)
           (.exit 0))
          (.seq (.block 1 (.seq (.ops [] [⟨some 47, none, .tk 45⟩,
               ⟨some 48, none, .ia 3 true (.t 43) (.t 45)⟩,
               ⟨some 49, none, .ld true 3 (.t 48)⟩,
               ⟨some 11, none, .alloc true [.d (.int .i64 0), .d (.str []), .nil 3]⟩,
               ⟨some 10, none, .tk 47⟩,
               ⟨none, none, .st true 3 (.t 11) (.t 49)⟩])
             (.seq (.ops [] [⟨some 50, none, .ld true 2 (.t 3)⟩,
                ⟨some 51, none, .ld true 3 (.t 11)⟩,
                ⟨some 52, none, .fa 1 1 false (.t 7)⟩,
                ⟨some 53, none, .ld false 1 (.t 52)⟩,
                ⟨some 54, none, .mv (.t 9)⟩,
                ⟨some 55, none, .ia 2 true (.t 53) (.t 54)⟩,
                ⟨some 56, none, .fa 1 1 false (.t 55)⟩,
                ⟨some 57, none, .ld false 1 (.t 56)⟩,
                ⟨some 58, none, .mv (.t 10)⟩,
                ⟨some 59, none, .ia 1 false (.t 57) (.t 58)⟩,
                ⟨some 60, none, .ld false 1 (.t 59)⟩,
                ⟨some 61, none, .call 73 [.t 50, .t 51, .t 60]⟩,
                ⟨some 62, none, .not (.t 61)⟩])
              (.cond (.t 62) (.seq (.ops [] [⟨some 6, none, .mv (.k (.d (.bool false)))⟩])
                (.ret))
               (.skip)))))
           (.ops [] [⟨some 63, none, .bin .add (.t 45) (.k (.d (.int .i64 1)))⟩,
             ⟨some 45, none, .mv (.t 63)⟩])))))))
     (.seq (.ops [] [⟨some 6, none, .mv (.k (.d (.bool true)))⟩])
      (.ret))))))⟩
theorem c73 : sp 73 = some (.code F73) := by kernel_rfl

/-- tenet/split.valued -/
def F74 : AFunc := ⟨4, [.reg 41],
 .seq (.ops [] [⟨some 2, none, .box true 2 (.t 0)⟩,
   ⟨some 3, none, .box true 3 (.t 1)⟩,
   ⟨some 41, none, .ralloc true [.d (.int .i64 0), .d (.int .i64 0), .d (.str []), .nil 2, .nil 5]⟩])
 (.seq (.ops [] [⟨some 12, none, .ld true 2 (.t 2)⟩,
    ⟨some 13, none, .fa 1 1 false (.t 3)⟩,
    ⟨some 14, none, .ld false 1 (.t 13)⟩,
    ⟨some 15, none, .call 72 [.t 12, .t 14]⟩,
    ⟨some 11, none, .mv (.t 15)⟩,
    ⟨some 16, none, .ext (.t 11) 0⟩,
    ⟨some 17, none, .ext (.t 11) 1⟩,
    ⟨some 18, none, .ext (.t 11) 2⟩,
    ⟨some 5, none, .alloc true [.d (.str []), .nil 2]⟩,
    ⟨none, none, .st true 2 (.t 5) (.t 16)⟩,
    ⟨some 6, none, .tk 17⟩,
    ⟨some 7, none, .tk 18⟩])
  (.seq (.ops [] [⟨some 8, none, .mv (.k (.nil 5))⟩])
   (.seq (.seq (.ops [] [⟨some 19, none, .fa 2 1 false (.t 3)⟩,
       ⟨some 20, none, .ld false 1 (.t 19)⟩,
       ⟨some 21, none, .len 1 (.t 20)⟩,
       ⟨some 22, none, .mv (.k (.d (.int .i64 0)))⟩])
     (.block 0 (.loop 37 [2, 5, 6, 8, 20, 21, 22, 41] (.seq (.ops [] [⟨some 23, none, .bin .lss (.t 22) (.t 21)⟩])
        (.seq (.cond (.t 23) (.skip)
          (.exit 0))
         (.seq (.block 1 (.seq (.ops [] [⟨some 24, none, .ia 3 true (.t 20) (.t 22)⟩,
              ⟨some 25, none, .ld true 3 (.t 24)⟩,
              ⟨some 10, none, .alloc true [.d (.int .i64 0), .d (.str []), .nil 3]⟩,
              ⟨none, none, .st true 3 (.t 10) (.t 25)⟩])
            (.ops [] [⟨some 26, none, .tk 8⟩,
              ⟨some 27, none, .ld true 2 (.t 2)⟩,
              ⟨some 28, none, .ld true 3 (.t 10)⟩,
              ⟨some 29, none, .call 74 [.t 27, .t 28]⟩,
              ⟨some 30, none, .lit 5 [.t 29]⟩,
              ⟨some 31, none, .app 5 (.t 26) (.t 30)⟩,
              ⟨some 8, none, .tk 31⟩])))
          (.ops [] [⟨some 32, none, .bin .add (.t 22) (.k (.d (.int .i64 1)))⟩,
            ⟨some 22, none, .mv (.t 32)⟩])))))))
    (.seq (.ops [] [⟨some 33, none, .ld true 2 (.t 5)⟩,
       ⟨some 34, none, .mv (.t 6)⟩,
       ⟨some 35, none, .mv (.t 8)⟩,
       ⟨some 36, none, .call 126 [.t 33, .t 34, .t 35]⟩,
       ⟨some 41, none, .rst 41 true 5 (.t 36)⟩])
     (.ret)))))⟩
theorem c74 : sp 74 = some (.code F74) := by kernel_rfl

/-- tenet/tenetref15.ordered -/
def F70 : AFunc := ⟨49, [.tmp 2],
 .seq (.ops [] [⟨some 1, none, .box true 2 (.t 0)⟩,
   ⟨some 2, none, .mv (.k (.d (.bool false)))⟩])
 (.seq (.seq (.ops [] [⟨some 3, none, .mv (.k (.d (.int .i64 0)))⟩])
   (.block 0 (.loop 49 [1, 3] (.seq (.seq (.ops [] [⟨some 7, none, .mv (.t 3)⟩,
         ⟨some 8, none, .fa 0 1 false (.t 1)⟩,
         ⟨some 9, none, .ld false 1 (.t 8)⟩,
         ⟨some 10, none, .len 1 (.t 9)⟩,
         ⟨some 11, none, .bin .lss (.t 7) (.t 10)⟩])
       (.cond (.t 11) (.skip)
        (.exit 0)))
      (.seq (.block 1 (.seq (.ops [] [⟨some 4, none, .mv (.k (.d (.int .i64 0)))⟩])
         (.block 2 (.loop 49 [1, 3, 4] (.seq (.seq (.ops [] [⟨some 14, none, .mv (.t 4)⟩,
               ⟨some 15, none, .fa 0 1 false (.t 1)⟩,
               ⟨some 16, none, .ld false 1 (.t 15)⟩,
               ⟨some 17, none, .mv (.t 3)⟩,
               ⟨some 18, none, .ia 2 true (.t 16) (.t 17)⟩,
               ⟨some 19, none, .fa 1 1 false (.t 18)⟩,
               ⟨some 20, none, .ld false 1 (.t 19)⟩,
               ⟨some 21, none, .len 1 (.t 20)⟩,
               ⟨some 22, none, .bin .lss (.t 14) (.t 21)⟩])
             (.cond (.t 22) (.skip)
              (.exit 2)))
            (.seq (.block 3 (.seq (.ops [] [⟨some 25, none, .fa 0 1 false (.t 1)⟩,
                 ⟨some 26, none, .ld false 1 (.t 25)⟩,
                 ⟨some 27, none, .mv (.t 3)⟩,
                 ⟨some 28, none, .ia 2 true (.t 26) (.t 27)⟩,
                 ⟨some 29, none, .fa 1 1 false (.t 28)⟩,
                 ⟨some 30, none, .ld false 1 (.t 29)⟩,
                 ⟨some 31, none, .mv (.t 4)⟩,
                 ⟨some 32, none, .ia 2 true (.t 30) (.t 31)⟩,
                 ⟨some 33, none, .fa 1 1 false (.t 32)⟩,
                 ⟨some 34, none, .ld false 1 (.t 33)⟩,
                 ⟨some 5, none, .tk 34⟩])
               (.seq (.ops [] [⟨some 6, none, .mv (.k (.d (.int .i64 0)))⟩])
                (.block 4 (.loop 49 [1, 3, 4, 5, 6] (.seq (.seq (.ops [] [⟨some 35, none, .mv (.t 6)⟩,
                      ⟨some 36, none, .mv (.t 5)⟩,
                      ⟨some 37, none, .len 1 (.t 36)⟩,
                      ⟨some 38, none, .bin .lss (.t 35) (.t 37)⟩])
                    (.cond (.t 38) (.skip)
                     (.exit 4)))
                   (.seq (.block 5 (.seq (.ops [] [⟨some 41, none, .ld true 2 (.t 1)⟩,
                        ⟨some 42, none, .mv (.t 5)⟩,
                        ⟨some 43, none, .mv (.t 6)⟩,
                        ⟨some 44, none, .ia 1 false (.t 42) (.t 43)⟩,
                        ⟨some 45, none, .ld false 1 (.t 44)⟩,
                        ⟨some 46, none, .call 52 [.t 41, .t 45]⟩,
                        ⟨some 47, none, .mv (.t 3)⟩,
                        ⟨some 48, none, .bin .gtr (.t 46) (.t 47)⟩])
                      (.cond (.t 48) (.seq (.ops [] [⟨some 2, none, .mv (.k (.d (.bool false)))⟩])
                        (.ret))
                       (.skip))))
                    (.ops [] [⟨some 39, none, .mv (.t 6)⟩,
                      ⟨some 40, none, .bin .add (.t 39) (.k (.d (.int .i64 1)))⟩,
                      ⟨some 6, none, .tk 40⟩]))))))))
             (.ops [] [⟨some 23, none, .mv (.t 4)⟩,
               ⟨some 24, none, .bin .add (.t 23) (.k (.d (.int .i64 1)))⟩,
               ⟨some 4, none, .tk 24⟩])))))))
       (.ops [] [⟨some 12, none, .mv (.t 3)⟩,
         ⟨some 13, none, .bin .add (.t 12) (.k (.d (.int .i64 1)))⟩,
         ⟨some 3, none, .tk 13⟩]))))))
  (.seq (.ops [] [⟨some 2, none, .mv (.k (.d (.bool true)))⟩])
   (.ret)))⟩
theorem c70 : sp 70 = some (.code F70) := by kernel_rfl

/-- tenet/tenetref15.argument -/
def F71 : AFunc := ⟨2, [.reg 25],
 .seq (.ops [] [⟨some 25, none, .ralloc true [.d (.int .i64 0), .d (.int .i64 0), .d (.str []), .nil 2, .nil 5]⟩])
 (.seq (.seq (.ops [] [⟨some 3, none, .mv (.t 0)⟩,
     ⟨some 4, none, .len 1 (.t 3)⟩,
     ⟨some 5, none, .bin .eql (.t 4) (.k (.d (.int .i64 0)))⟩])
   (.cond (.t 5) (.seq (.ops [] [⟨some 6, none, .build [.d (.int .i64 0), .d (.int .i64 0), .d (.str []), .nil 2, .nil 5] [(0, 1, (.k (.d (.int .i64 12))))]⟩,
       ⟨some 25, none, .rst 25 true 5 (.t 6)⟩])
     (.ret))
    (.skip)))
  (.seq (.seq (.ops [] [⟨some 7, none, .mv (.t 0)⟩,
      ⟨some 8, none, .len 1 (.t 7)⟩,
      ⟨some 9, none, .bin .eql (.t 8) (.k (.d (.int .i64 1)))⟩])
    (.cond (.t 9) (.seq (.ops [] [⟨some 10, none, .mv (.t 0)⟩,
        ⟨some 11, none, .ia 1 false (.t 10) (.k (.d (.int .i64 0)))⟩,
        ⟨some 12, none, .ld false 1 (.t 11)⟩,
        ⟨some 13, none, .call 124 [.t 12]⟩,
        ⟨some 25, none, .rst 25 true 5 (.t 13)⟩])
      (.ret))
     (.skip)))
   (.seq (.ops [] [⟨some 14, none, .mv (.t 0)⟩,
      ⟨some 15, none, .ia 1 false (.t 14) (.k (.d (.int .i64 0)))⟩,
      ⟨some 16, none, .ld false 1 (.t 15)⟩,
      ⟨some 17, none, .call 124 [.t 16]⟩,
      ⟨some 18, none, .mv (.t 0)⟩,
      ⟨some 19, none, .slice 1 (.t 18) (some (.k (.d (.int .i64 1)))) none none⟩,
      ⟨some 20, none, .call 71 [.t 19]⟩,
      ⟨some 21, none, .lit 5 [.t 17, .t 20]⟩,
      ⟨some 22, none, .build [.d (.int .i64 0), .d (.int .i64 0), .d (.str []), .nil 2, .nil 5] [(0, 1, (.k (.d (.int .i64 8)))), (4, 1, (.t 21))]⟩,
      ⟨some 25, none, .rst 25 true 5 (.t 22)⟩])
    (.ret))))⟩
theorem c71 : sp 71 = some (.code F71) := by kernel_rfl

/-- tenet/tenetref15.family -/
def F124 : AFunc := ⟨2, [.reg 9],
 .seq (.ops [] [⟨some 9, none, .ralloc true [.d (.int .i64 0), .d (.int .i64 0), .d (.str []), .nil 2, .nil 5]⟩])
 (.seq (.ops [] [⟨some 3, none, .mv (.t 0)⟩,
    ⟨some 4, none, .build [.d (.int .i64 0), .d (.int .i64 0), .d (.str []), .nil 2, .nil 5] [(0, 1, (.k (.d (.int .i64 13))))]⟩,
    ⟨some 5, none, .lit 5 [.t 4]⟩,
    ⟨some 6, none, .build [.d (.int .i64 0), .d (.int .i64 0), .d (.str []), .nil 2, .nil 5] [(0, 1, (.k (.d (.int .i64 26)))), (2, 1, (.t 3)), (4, 1, (.t 5))]⟩,
    ⟨some 9, none, .rst 9 true 5 (.t 6)⟩])
  (.ret))⟩
theorem c124 : sp 124 = some (.code F124) := by kernel_rfl

/-- tenet/tenetref15.packed -/
def F127 : AFunc := ⟨6, [.reg 46],
 .seq (.ops [] [⟨some 3, none, .box true 2 (.t 0)⟩,
   ⟨some 46, none, .ralloc true [.d (.int .i64 0), .d (.int .i64 0), .d (.str []), .nil 2, .nil 5]⟩])
 (.seq (.seq (.ops [] [⟨some 8, none, .mv (.t 2)⟩,
     ⟨some 9, none, .len 1 (.t 8)⟩,
     ⟨some 10, none, .bin .eql (.t 9) (.k (.d (.int .i64 0)))⟩])
   (.cond (.t 10) (.seq (.ops [] [⟨some 11, none, .build [.d (.int .i64 0), .d (.int .i64 0), .d (.str []), .nil 2, .nil 5] [(0, 1, (.k (.d (.int .i64 13))))]⟩,
       ⟨some 46, none, .rst 46 true 5 (.t 11)⟩])
     (.ret))
    (.skip)))
  (.seq (.ops [.cells true [.d (.int .i64 0), .d (.int .i64 0), .d (.str []), .nil 2, .nil 5]] [⟨some 12, none, .ld true 2 (.t 3)⟩,
     ⟨some 13, none, .mv (.t 1)⟩,
     ⟨some 14, none, .ia 3 true (.t 13) (.k (.d (.int .i64 0)))⟩,
     ⟨some 15, none, .ld true 3 (.t 14)⟩,
     ⟨some 16, none, .mv (.t 2)⟩,
     ⟨some 17, none, .ia 1 false (.t 16) (.k (.d (.int .i64 0)))⟩,
     ⟨some 18, none, .ld false 1 (.t 17)⟩,
     ⟨some 19, none, .call 76 [.t 12, .t 15, .t 18]⟩,
     ⟨some 7, none, .allocR 0⟩,
     ⟨none, none, .st true 5 (.t 7) (.t 19)⟩])
   (.seq (.seq (.ops [] [⟨some 20, none, .mv (.t 2)⟩,
       ⟨some 21, none, .len 1 (.t 20)⟩,
       ⟨some 22, none, .bin .eql (.t 21) (.k (.d (.int .i64 1)))⟩])
     (.cond (.t 22) (.seq (.ops [] [⟨some 23, none, .ld true 5 (.t 7)⟩,
         ⟨some 46, none, .rst 46 true 5 (.t 23)⟩])
       (.ret))
      (.skip)))
    (.seq (.ops [] [⟨some 24, none, .mv (.t 2)⟩,
       ⟨some 25, none, .ia 1 false (.t 24) (.k (.d (.int .i64 0)))⟩,
       ⟨some 26, none, .ld false 1 (.t 25)⟩,
       ⟨some 27, none, .call 124 [.t 26]⟩,
       ⟨some 28, none, .mv (.t 2)⟩,
       ⟨some 29, none, .slice 1 (.t 28) (some (.k (.d (.int .i64 1)))) none none⟩,
       ⟨some 30, none, .call 71 [.t 29]⟩,
       ⟨some 31, none, .ld true 5 (.t 7)⟩,
       ⟨some 32, none, .ld true 2 (.t 3)⟩,
       ⟨some 33, none, .mv (.t 1)⟩,
       ⟨some 34, none, .slice 3 (.t 33) (some (.k (.d (.int .i64 1)))) none none⟩,
       ⟨some 35, none, .mv (.t 2)⟩,
       ⟨some 36, none, .slice 1 (.t 35) (some (.k (.d (.int .i64 1)))) none none⟩,
       ⟨some 37, none, .call 127 [.t 32, .t 34, .t 36]⟩,
       ⟨some 38, none, .lit 5 [.t 27, .t 30, .t 31, .t 37]⟩,
       ⟨some 39, none, .build [.d (.int .i64 0), .d (.int .i64 0), .d (.str []), .nil 2, .nil 5] [(0, 1, (.k (.d (.int .i64 9)))), (4, 1, (.t 38))]⟩,
       ⟨some 46, none, .rst 46 true 5 (.t 39)⟩])
     (.ret)))))⟩
theorem c127 : sp 127 = some (.code F127) := by kernel_rfl

/-- tenet/tenetref15.IsValue -/
def F75 : AFunc := ⟨51, [.tmp 6],
 .seq (.ops [] [⟨some 3, none, .box true 2 (.t 0)⟩,
   ⟨some 4, none, .box true 3 (.t 1)⟩,
   ⟨some 6, none, .mv (.k (.d (.bool false)))⟩])
 (.seq (.ops [] [⟨some 11, none, .ld true 2 (.t 3)⟩,
    ⟨some 12, none, .mv (.t 2)⟩,
    ⟨some 13, none, .fa 1 1 false (.t 4)⟩,
    ⟨some 14, none, .ld false 1 (.t 13)⟩,
    ⟨some 15, none, .call 90 [.t 11, .t 12, .t 14]⟩,
    ⟨some 10, none, .mv (.t 15)⟩,
    ⟨some 16, none, .ext (.t 10) 0⟩,
    ⟨some 17, none, .ext (.t 10) 1⟩,
    ⟨some 7, none, .tk 16⟩,
    ⟨some 8, none, .tk 17⟩])
  (.seq (.seq (.ops [] [⟨some 18, none, .fa 0 1 false (.t 4)⟩,
      ⟨some 19, none, .ld false 1 (.t 18)⟩,
      ⟨some 20, none, .bin .neq (.t 19) (.k (.d (.int .i64 2)))⟩,
      ⟨some 21, none, .mv (.t 20)⟩,
      ⟨some 22, some (21, false), .mv (.t 8)⟩,
      ⟨some 23, some (21, false), .not (.t 22)⟩,
      ⟨some 24, none, .pick (.t 21) (.k (.d (.bool true))) (.t 23)⟩,
      ⟨some 25, none, .mv (.t 24)⟩,
      ⟨some 26, some (25, false), .mv (.t 7)⟩,
      ⟨some 27, some (25, false), .len 1 (.t 26)⟩,
      ⟨some 28, some (25, false), .fa 2 1 false (.t 4)⟩,
      ⟨some 29, some (25, false), .ld false 1 (.t 28)⟩,
      ⟨some 30, some (25, false), .len 1 (.t 29)⟩,
      ⟨some 31, some (25, false), .bin .neq (.t 27) (.t 30)⟩,
      ⟨some 32, none, .pick (.t 25) (.k (.d (.bool true))) (.t 31)⟩])
    (.cond (.t 32) (.seq (.ops [] [⟨some 6, none, .mv (.k (.d (.bool false)))⟩])
      (.ret))
     (.skip)))
   (.seq (.seq (.ops [] [⟨some 9, none, .mv (.k (.d (.int .i64 0)))⟩])
     (.block 0 (.loop 51 [3, 4, 7, 9] (.seq (.seq (.ops [] [⟨some 33, none, .mv (.t 9)⟩,
           ⟨some 34, none, .mv (.t 7)⟩,
           ⟨some 35, none, .len 1 (.t 34)⟩,
           ⟨some 36, none, .bin .lss (.t 33) (.t 35)⟩])
         (.cond (.t 36) (.skip)
          (.exit 0)))
        (.seq (.block 1 (.seq (.ops [] [⟨some 39, none, .ld true 2 (.t 3)⟩,
             ⟨some 40, none, .fa 2 1 false (.t 4)⟩,
             ⟨some 41, none, .ld false 1 (.t 40)⟩,
             ⟨some 42, none, .mv (.t 9)⟩,
             ⟨some 43, none, .ia 3 true (.t 41) (.t 42)⟩,
             ⟨some 44, none, .ld true 3 (.t 43)⟩,
             ⟨some 45, none, .mv (.t 7)⟩,
             ⟨some 46, none, .mv (.t 9)⟩,
             ⟨some 47, none, .ia 1 false (.t 45) (.t 46)⟩,
             ⟨some 48, none, .ld false 1 (.t 47)⟩,
             ⟨some 49, none, .call 75 [.t 39, .t 44, .t 48]⟩,
             ⟨some 50, none, .not (.t 49)⟩])
           (.cond (.t 50) (.seq (.ops [] [⟨some 6, none, .mv (.k (.d (.bool false)))⟩])
             (.ret))
            (.skip))))
         (.ops [] [⟨some 37, none, .mv (.t 9)⟩,
           ⟨some 38, none, .bin .add (.t 37) (.k (.d (.int .i64 1)))⟩,
           ⟨some 9, none, .tk 38⟩]))))))
    (.seq (.ops [] [⟨some 6, none, .mv (.k (.d (.bool true)))⟩])
     (.ret)))))⟩
theorem c75 : sp 75 = some (.code F75) := by kernel_rfl

/-- tenet/tenetref15.term -/
def F76 : AFunc := ⟨6, [.reg 63],
 .seq (.ops [] [⟨some 3, none, .box true 2 (.t 0)⟩,
   ⟨some 4, none, .box true 3 (.t 1)⟩,
   ⟨some 63, none, .ralloc true [.d (.int .i64 0), .d (.int .i64 0), .d (.str []), .nil 2, .nil 5]⟩])
 (.seq (.ops [] [⟨some 10, none, .ld true 2 (.t 3)⟩,
    ⟨some 11, none, .mv (.t 2)⟩,
    ⟨some 12, none, .call 52 [.t 10, .t 11]⟩,
    ⟨some 7, none, .tk 12⟩])
  (.seq (.ops [] [⟨some 8, none, .mv (.k (.d (.int .i64 0)))⟩])
   (.seq (.seq (.ops [] [⟨some 9, none, .mv (.k (.d (.int .i64 0)))⟩])
     (.block 0 (.loop 57 [2, 3, 4, 7, 8, 9, 63] (.seq (.seq (.ops [] [⟨some 13, none, .mv (.t 9)⟩,
           ⟨some 14, none, .fa 0 1 false (.t 3)⟩,
           ⟨some 15, none, .ld false 1 (.t 14)⟩,
           ⟨some 16, none, .mv (.t 7)⟩,
           ⟨some 17, none, .ia 2 true (.t 15) (.t 16)⟩,
           ⟨some 18, none, .fa 1 1 false (.t 17)⟩,
           ⟨some 19, none, .ld false 1 (.t 18)⟩,
           ⟨some 20, none, .len 1 (.t 19)⟩,
           ⟨some 21, none, .bin .lss (.t 13) (.t 20)⟩])
         (.cond (.t 21) (.skip)
          (.exit 0)))
        (.seq (.block 1 (.seq (.ops [] [⟨some 24, none, .fa 0 1 false (.t 3)⟩,
             ⟨some 25, none, .ld false 1 (.t 24)⟩,
             ⟨some 26, none, .mv (.t 7)⟩,
             ⟨some 27, none, .ia 2 true (.t 25) (.t 26)⟩,
             ⟨some 28, none, .fa 1 1 false (.t 27)⟩,
             ⟨some 29, none, .ld false 1 (.t 28)⟩,
             ⟨some 30, none, .mv (.t 9)⟩,
             ⟨some 31, none, .ia 2 true (.t 29) (.t 30)⟩,
             ⟨some 32, none, .fa 0 1 false (.t 31)⟩,
             ⟨some 33, none, .ld false 1 (.t 32)⟩,
             ⟨some 34, none, .fa 1 1 false (.t 4)⟩,
             ⟨some 35, none, .ld false 1 (.t 34)⟩,
             ⟨some 36, none, .bin .eql (.t 33) (.t 35)⟩])
           (.cond (.t 36) (.ops [] [⟨some 37, none, .tk 9⟩,
              ⟨some 8, none, .tk 37⟩])
            (.skip))))
         (.ops [] [⟨some 22, none, .mv (.t 9)⟩,
           ⟨some 23, none, .bin .add (.t 22) (.k (.d (.int .i64 1)))⟩,
           ⟨some 9, none, .tk 23⟩]))))))
    (.seq (.ops [] [⟨some 38, none, .mv (.t 2)⟩,
       ⟨some 39, none, .mv (.t 8)⟩,
       ⟨some 40, none, .build [.d (.int .i64 0), .d (.int .i64 0), .d (.str []), .nil 2, .nil 5] [(0, 1, (.k (.d (.int .i64 13))))]⟩,
       ⟨some 41, none, .ld true 2 (.t 3)⟩,
       ⟨some 42, none, .fa 2 1 false (.t 4)⟩,
       ⟨some 43, none, .ld false 1 (.t 42)⟩,
       ⟨some 44, none, .fa 0 1 false (.t 3)⟩,
       ⟨some 45, none, .ld false 1 (.t 44)⟩,
       ⟨some 46, none, .mv (.t 7)⟩,
       ⟨some 47, none, .ia 2 true (.t 45) (.t 46)⟩,
       ⟨some 48, none, .fa 1 1 false (.t 47)⟩,
       ⟨some 49, none, .ld false 1 (.t 48)⟩,
       ⟨some 50, none, .mv (.t 8)⟩,
       ⟨some 51, none, .ia 2 true (.t 49) (.t 50)⟩,
       ⟨some 52, none, .fa 1 1 false (.t 51)⟩,
       ⟨some 53, none, .ld false 1 (.t 52)⟩,
       ⟨some 54, none, .call 127 [.t 41, .t 43, .t 53]⟩,
       ⟨some 55, none, .lit 5 [.t 40, .t 54]⟩,
       ⟨some 56, none, .build [.d (.int .i64 0), .d (.int .i64 0), .d (.str []), .nil 2, .nil 5] [(0, 1, (.k (.d (.int .i64 27)))), (2, 1, (.t 38)), (1, 1, (.t 39)), (4, 1, (.t 55))]⟩,
       ⟨some 63, none, .rst 63 true 5 (.t 56)⟩])
     (.ret)))))⟩
theorem c76 : sp 76 = some (.code F76) := by kernel_rfl

/-- tenet/tenetref00.EqDecl -/
def F77 : AFunc := ⟨103, [.tmp 4],
 .seq (.ops [] [⟨some 2, none, .box true 23 (.t 0)⟩,
   ⟨some 3, none, .box true 23 (.t 1)⟩,
   ⟨some 4, none, .mv (.k (.d (.bool false)))⟩])
 (.seq (.seq (.ops [] [⟨some 6, none, .fa 0 1 false (.t 2)⟩,
     ⟨some 7, none, .ld false 1 (.t 6)⟩,
     ⟨some 8, none, .fa 0 1 false (.t 3)⟩,
     ⟨some 9, none, .ld false 1 (.t 8)⟩,
     ⟨some 10, none, .bin .neq (.t 7) (.t 9)⟩,
     ⟨some 11, none, .mv (.t 10)⟩,
     ⟨some 12, some (11, false), .fa 1 1 false (.t 2)⟩,
     ⟨some 13, some (11, false), .ld false 1 (.t 12)⟩,
     ⟨some 14, some (11, false), .fa 1 1 false (.t 3)⟩,
     ⟨some 15, some (11, false), .ld false 1 (.t 14)⟩,
     ⟨some 16, some (11, false), .bin .neq (.t 13) (.t 15)⟩,
     ⟨some 17, none, .pick (.t 11) (.k (.d (.bool true))) (.t 16)⟩,
     ⟨some 18, none, .mv (.t 17)⟩,
     ⟨some 19, some (18, false), .fa 2 1 false (.t 2)⟩,
     ⟨some 20, some (18, false), .ld false 1 (.t 19)⟩,
     ⟨some 21, some (18, false), .fa 2 1 false (.t 3)⟩,
     ⟨some 22, some (18, false), .ld false 1 (.t 21)⟩,
     ⟨some 23, some (18, false), .bin .neq (.t 20) (.t 22)⟩,
     ⟨some 24, none, .pick (.t 18) (.k (.d (.bool true))) (.t 23)⟩,
     ⟨some 25, none, .mv (.t 24)⟩,
     ⟨some 26, some (25, false), .fa 22 1 false (.t 2)⟩,
     ⟨some 27, some (25, false), .ld false 1 (.t 26)⟩,
     ⟨some 28, some (25, false), .len 1 (.t 27)⟩,
     ⟨some 29, some (25, false), .fa 22 1 false (.t 3)⟩,
     ⟨some 30, some (25, false), .ld false 1 (.t 29)⟩,
     ⟨some 31, some (25, false), .len 1 (.t 30)⟩,
     ⟨some 32, some (25, false), .bin .neq (.t 28) (.t 31)⟩,
     ⟨some 33, none, .pick (.t 25) (.k (.d (.bool true))) (.t 32)⟩])
   (.cond (.t 33) (.seq (.ops [] [⟨some 4, none, .mv (.k (.d (.bool false)))⟩])
     (.ret))
    (.skip)))
  (.seq (.seq (.ops [] [⟨some 5, none, .mv (.k (.d (.int .i64 0)))⟩])
    (.block 0 (.loop 103 [2, 3, 5] (.seq (.seq (.ops [] [⟨some 34, none, .mv (.t 5)⟩,
          ⟨some 35, none, .fa 22 1 false (.t 2)⟩,
          ⟨some 36, none, .ld false 1 (.t 35)⟩,
          ⟨some 37, none, .len 1 (.t 36)⟩,
          ⟨some 38, none, .bin .lss (.t 34) (.t 37)⟩])
        (.cond (.t 38) (.skip)
         (.exit 0)))
       (.seq (.block 1 (.seq (.ops [] [⟨some 41, none, .fa 22 1 false (.t 2)⟩,
            ⟨some 42, none, .ld false 1 (.t 41)⟩,
            ⟨some 43, none, .mv (.t 5)⟩,
            ⟨some 44, none, .ia 6 true (.t 42) (.t 43)⟩,
            ⟨some 45, none, .fa 0 1 false (.t 44)⟩,
            ⟨some 46, none, .ld false 1 (.t 45)⟩,
            ⟨some 47, none, .fa 22 1 false (.t 3)⟩,
            ⟨some 48, none, .ld false 1 (.t 47)⟩,
            ⟨some 49, none, .mv (.t 5)⟩,
            ⟨some 50, none, .ia 6 true (.t 48) (.t 49)⟩,
            ⟨some 51, none, .fa 0 1 false (.t 50)⟩,
            ⟨some 52, none, .ld false 1 (.t 51)⟩,
            ⟨some 53, none, .bin .neq (.t 46) (.t 52)⟩,
            ⟨some 54, none, .mv (.t 53)⟩,
            ⟨some 55, some (54, false), .fa 22 1 false (.t 2)⟩,
            ⟨some 56, some (54, false), .ld false 1 (.t 55)⟩,
            ⟨some 57, some (54, false), .mv (.t 5)⟩,
            ⟨some 58, some (54, false), .ia 6 true (.t 56) (.t 57)⟩,
            ⟨some 59, some (54, false), .fa 1 5 true (.t 58)⟩,
            ⟨some 60, some (54, false), .ld true 5 (.t 59)⟩,
            ⟨some 61, some (54, false), .fa 22 1 false (.t 3)⟩,
            ⟨some 62, some (54, false), .ld false 1 (.t 61)⟩,
            ⟨some 63, some (54, false), .mv (.t 5)⟩,
            ⟨some 64, some (54, false), .ia 6 true (.t 62) (.t 63)⟩,
            ⟨some 65, some (54, false), .fa 1 5 true (.t 64)⟩,
            ⟨some 66, some (54, false), .ld true 5 (.t 65)⟩,
            ⟨some 67, some (54, false), .call 37 [.t 60, .t 66]⟩,
            ⟨some 68, some (54, false), .not (.t 67)⟩,
            ⟨some 69, none, .pick (.t 54) (.k (.d (.bool true))) (.t 68)⟩])
          (.cond (.t 69) (.seq (.ops [] [⟨some 4, none, .mv (.k (.d (.bool false)))⟩])
            (.ret))
           (.skip))))
        (.ops [] [⟨some 39, none, .mv (.t 5)⟩,
          ⟨some 40, none, .bin .add (.t 39) (.k (.d (.int .i64 1)))⟩,
          ⟨some 5, none, .tk 40⟩]))))))
   (.seq (.ops [] [⟨some 70, none, .fa 3 5 true (.t 2)⟩,
      ⟨some 71, none, .ld true 5 (.t 70)⟩,
      ⟨some 72, none, .fa 3 5 true (.t 3)⟩,
      ⟨some 73, none, .ld true 5 (.t 72)⟩,
      ⟨some 74, none, .call 37 [.t 71, .t 73]⟩,
      ⟨some 75, none, .mv (.t 74)⟩,
      ⟨some 76, some (75, true), .fa 8 5 true (.t 2)⟩,
      ⟨some 77, some (75, true), .ld true 5 (.t 76)⟩,
      ⟨some 78, some (75, true), .fa 8 5 true (.t 3)⟩,
      ⟨some 79, some (75, true), .ld true 5 (.t 78)⟩,
      ⟨some 80, some (75, true), .call 37 [.t 77, .t 79]⟩,
      ⟨some 81, none, .pick (.t 75) (.t 80) (.k (.d (.bool false)))⟩,
      ⟨some 82, none, .mv (.t 81)⟩,
      ⟨some 83, some (82, true), .fa 13 5 true (.t 2)⟩,
      ⟨some 84, some (82, true), .ld true 5 (.t 83)⟩,
      ⟨some 85, some (82, true), .fa 13 5 true (.t 3)⟩,
      ⟨some 86, some (82, true), .ld true 5 (.t 85)⟩,
      ⟨some 87, some (82, true), .call 37 [.t 84, .t 86]⟩,
      ⟨some 88, none, .pick (.t 82) (.t 87) (.k (.d (.bool false)))⟩,
      ⟨some 89, none, .mv (.t 88)⟩,
      ⟨some 90, some (89, true), .fa 18 2 true (.t 2)⟩,
      ⟨some 91, some (89, true), .ld true 2 (.t 90)⟩,
      ⟨some 92, some (89, true), .fa 18 2 true (.t 3)⟩,
      ⟨some 93, some (89, true), .ld true 2 (.t 92)⟩,
      ⟨some 94, some (89, true), .call 128 [.t 91, .t 93]⟩,
      ⟨some 95, none, .pick (.t 89) (.t 94) (.k (.d (.bool false)))⟩,
      ⟨some 96, none, .mv (.t 95)⟩,
      ⟨some 97, some (96, true), .fa 20 2 true (.t 2)⟩,
      ⟨some 98, some (96, true), .ld true 2 (.t 97)⟩,
      ⟨some 99, some (96, true), .fa 20 2 true (.t 3)⟩,
      ⟨some 100, some (96, true), .ld true 2 (.t 99)⟩,
      ⟨some 101, some (96, true), .call 128 [.t 98, .t 100]⟩,
      ⟨some 102, none, .pick (.t 96) (.t 101) (.k (.d (.bool false)))⟩,
      ⟨some 4, none, .tk 102⟩])
    (.ret))))⟩
theorem c77 : sp 77 = some (.code F77) := by kernel_rfl

/-- tenet/tenetref00.EqLevels -/
def F78 : AFunc := ⟨27, [.tmp 4],
 .seq (.ops [] [⟨some 4, none, .mv (.k (.d (.bool false)))⟩])
 (.seq (.seq (.ops [] [⟨some 6, none, .mv (.t 0)⟩,
     ⟨some 7, none, .len 1 (.t 6)⟩,
     ⟨some 8, none, .mv (.t 1)⟩,
     ⟨some 9, none, .len 1 (.t 8)⟩,
     ⟨some 10, none, .bin .neq (.t 7) (.t 9)⟩])
   (.cond (.t 10) (.seq (.ops [] [⟨some 4, none, .mv (.k (.d (.bool false)))⟩])
     (.ret))
    (.skip)))
  (.seq (.seq (.ops [] [⟨some 5, none, .mv (.k (.d (.int .i64 0)))⟩])
    (.block 0 (.loop 27 [0, 1, 5] (.seq (.seq (.ops [] [⟨some 11, none, .mv (.t 5)⟩,
          ⟨some 12, none, .mv (.t 0)⟩,
          ⟨some 13, none, .len 1 (.t 12)⟩,
          ⟨some 14, none, .bin .lss (.t 11) (.t 13)⟩])
        (.cond (.t 14) (.skip)
         (.exit 0)))
       (.seq (.block 1 (.seq (.ops [] [⟨some 17, none, .mv (.t 0)⟩,
            ⟨some 18, none, .mv (.t 5)⟩,
            ⟨some 19, none, .ia 2 true (.t 17) (.t 18)⟩,
            ⟨some 20, none, .ld true 2 (.t 19)⟩,
            ⟨some 21, none, .mv (.t 1)⟩,
            ⟨some 22, none, .mv (.t 5)⟩,
            ⟨some 23, none, .ia 2 true (.t 21) (.t 22)⟩,
            ⟨some 24, none, .ld true 2 (.t 23)⟩,
            ⟨some 25, none, .call 128 [.t 20, .t 24]⟩,
            ⟨some 26, none, .not (.t 25)⟩])
          (.cond (.t 26) (.seq (.ops [] [⟨some 4, none, .mv (.k (.d (.bool false)))⟩])
            (.ret))
           (.skip))))
        (.ops [] [⟨some 15, none, .mv (.t 5)⟩,
          ⟨some 16, none, .bin .add (.t 15) (.k (.d (.int .i64 1)))⟩,
          ⟨some 5, none, .tk 16⟩]))))))
   (.seq (.ops [] [⟨some 4, none, .mv (.k (.d (.bool true)))⟩])
    (.ret))))⟩
theorem c78 : sp 78 = some (.code F78) := by kernel_rfl

/-- tenet/tenetref00.EqTerms -/
def F79 : AFunc := ⟨27, [.tmp 4],
 .seq (.ops [] [⟨some 4, none, .mv (.k (.d (.bool false)))⟩])
 (.seq (.seq (.ops [] [⟨some 6, none, .mv (.t 0)⟩,
     ⟨some 7, none, .len 1 (.t 6)⟩,
     ⟨some 8, none, .mv (.t 1)⟩,
     ⟨some 9, none, .len 1 (.t 8)⟩,
     ⟨some 10, none, .bin .neq (.t 7) (.t 9)⟩])
   (.cond (.t 10) (.seq (.ops [] [⟨some 4, none, .mv (.k (.d (.bool false)))⟩])
     (.ret))
    (.skip)))
  (.seq (.seq (.ops [] [⟨some 5, none, .mv (.k (.d (.int .i64 0)))⟩])
    (.block 0 (.loop 27 [0, 1, 5] (.seq (.seq (.ops [] [⟨some 11, none, .mv (.t 5)⟩,
          ⟨some 12, none, .mv (.t 0)⟩,
          ⟨some 13, none, .len 1 (.t 12)⟩,
          ⟨some 14, none, .bin .lss (.t 11) (.t 13)⟩])
        (.cond (.t 14) (.skip)
         (.exit 0)))
       (.seq (.block 1 (.seq (.ops [] [⟨some 17, none, .mv (.t 0)⟩,
            ⟨some 18, none, .mv (.t 5)⟩,
            ⟨some 19, none, .ia 5 true (.t 17) (.t 18)⟩,
            ⟨some 20, none, .ld true 5 (.t 19)⟩,
            ⟨some 21, none, .mv (.t 1)⟩,
            ⟨some 22, none, .mv (.t 5)⟩,
            ⟨some 23, none, .ia 5 true (.t 21) (.t 22)⟩,
            ⟨some 24, none, .ld true 5 (.t 23)⟩,
            ⟨some 25, none, .call 37 [.t 20, .t 24]⟩,
            ⟨some 26, none, .not (.t 25)⟩])
          (.cond (.t 26) (.seq (.ops [] [⟨some 4, none, .mv (.k (.d (.bool false)))⟩])
            (.ret))
           (.skip))))
        (.ops [] [⟨some 15, none, .mv (.t 5)⟩,
          ⟨some 16, none, .bin .add (.t 15) (.k (.d (.int .i64 1)))⟩,
          ⟨some 5, none, .tk 16⟩]))))))
   (.seq (.ops [] [⟨some 4, none, .mv (.k (.d (.bool true)))⟩])
    (.ret))))⟩
theorem c79 : sp 79 = some (.code F79) := by kernel_rfl

/-- tenet/tenetref00.EqLevel -/
def F128 : AFunc := ⟨38, [.tmp 4],
 .seq (.ops [] [⟨some 2, none, .box true 2 (.t 0)⟩,
   ⟨some 3, none, .box true 2 (.t 1)⟩,
   ⟨some 4, none, .mv (.k (.d (.bool false)))⟩])
 (.seq (.seq (.ops [] [⟨some 6, none, .fa 0 1 false (.t 2)⟩,
     ⟨some 7, none, .ld false 1 (.t 6)⟩,
     ⟨some 8, none, .fa 0 1 false (.t 3)⟩,
     ⟨some 9, none, .ld false 1 (.t 8)⟩,
     ⟨some 10, none, .bin .neq (.t 7) (.t 9)⟩,
     ⟨some 11, none, .mv (.t 10)⟩,
     ⟨some 12, some (11, false), .fa 1 1 false (.t 2)⟩,
     ⟨some 13, some (11, false), .ld false 1 (.t 12)⟩,
     ⟨some 14, some (11, false), .len 1 (.t 13)⟩,
     ⟨some 15, some (11, false), .fa 1 1 false (.t 3)⟩,
     ⟨some 16, some (11, false), .ld false 1 (.t 15)⟩,
     ⟨some 17, some (11, false), .len 1 (.t 16)⟩,
     ⟨some 18, some (11, false), .bin .neq (.t 14) (.t 17)⟩,
     ⟨some 19, none, .pick (.t 11) (.k (.d (.bool true))) (.t 18)⟩])
   (.cond (.t 19) (.seq (.ops [] [⟨some 4, none, .mv (.k (.d (.bool false)))⟩])
     (.ret))
    (.skip)))
  (.seq (.seq (.ops [] [⟨some 5, none, .mv (.k (.d (.int .i64 0)))⟩])
    (.block 0 (.loop 38 [2, 3, 5] (.seq (.seq (.ops [] [⟨some 20, none, .mv (.t 5)⟩,
          ⟨some 21, none, .fa 1 1 false (.t 2)⟩,
          ⟨some 22, none, .ld false 1 (.t 21)⟩,
          ⟨some 23, none, .len 1 (.t 22)⟩,
          ⟨some 24, none, .bin .lss (.t 20) (.t 23)⟩])
        (.cond (.t 24) (.skip)
         (.exit 0)))
       (.seq (.block 1 (.seq (.ops [] [⟨some 27, none, .fa 1 1 false (.t 2)⟩,
            ⟨some 28, none, .ld false 1 (.t 27)⟩,
            ⟨some 29, none, .mv (.t 5)⟩,
            ⟨some 30, none, .ia 2 true (.t 28) (.t 29)⟩,
            ⟨some 31, none, .ld true 2 (.t 30)⟩,
            ⟨some 32, none, .fa 1 1 false (.t 3)⟩,
            ⟨some 33, none, .ld false 1 (.t 32)⟩,
            ⟨some 34, none, .mv (.t 5)⟩,
            ⟨some 35, none, .ia 2 true (.t 33) (.t 34)⟩,
            ⟨some 36, none, .ld true 2 (.t 35)⟩,
            ⟨some 37, none, .eqRow [0, 0] true (.t 31) (.t 36)⟩])
          (.cond (.t 37) (.seq (.ops [] [⟨some 4, none, .mv (.k (.d (.bool false)))⟩])
            (.ret))
           (.skip))))
        (.ops [] [⟨some 25, none, .mv (.t 5)⟩,
          ⟨some 26, none, .bin .add (.t 25) (.k (.d (.int .i64 1)))⟩,
          ⟨some 5, none, .tk 26⟩]))))))
   (.seq (.ops [] [⟨some 4, none, .mv (.k (.d (.bool true)))⟩])
    (.ret))))⟩
theorem c128 : sp 128 = some (.code F128) := by kernel_rfl

end Go.Sp
