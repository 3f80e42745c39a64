/- The functions that the scanner reaches, each checked against the translation, part two; the table of them. -/
import Derived.Test.YtbdebcmklaooaaaDoorSa1a
set_option maxRecDepth 1000000
set_option linter.unusedVariables false
set_option linter.unusedSimpArgs false
namespace Go.Proofs.YtbdebcmklaooaaaDoor.AM.Sa
open Go.Proofs
/- sterling/sterlingref5.at -/
@[simp] def r19_0 : List HOp := [⟨(some 4), true, .mv (.val (.tr (.sc (.int .u8 0)))), none⟩]
@[simp] def r19_1 : List HOp := [⟨(some 5), false, .mv (.env 1), none⟩,
      ⟨(some 6), false, .mv (.env 0), none⟩,
      ⟨(some 7), false, .len 1 (.loc 6), none⟩,
      ⟨(some 8), false, .bin .other .lss (.loc 5) (.loc 7), none⟩]
@[simp] def r19_2 : List HOp := [⟨(some 9), false, .mv (.env 0), none⟩,
       ⟨(some 10), false, .mv (.env 1), none⟩,
       ⟨(some 11), false, .iaddr 1 (.loc 9) (.loc 10), none⟩,
       ⟨(some 12), false, .load 1 false (.loc 11), none⟩,
       ⟨(some 4), true, .mv (.loc 12), none⟩]
@[simp] def r19_3 : List HOp := [⟨(some 4), true, .mv (.val (.tr (.sc (.int .u8 0)))), none⟩]
@[simp] def k19_2 : HCode := .seq (.region r19_2 none) .ret
@[simp] def k19_1 : HCode := .cond (.loc 8) k19_2 .skip
def k19_3 : HCode := .seq (.region r19_3 none) .ret
@[simp] def k19_0 : HCode := .seq (.seq (.region r19_1 none) k19_1) k19_3
@[simp] def fn19 : HFn := { nargs := 2, results := [.tmp 4], mode := .iso, code := (.seq (.region r19_0 none) k19_0) }
theorem c19 : cFn Tryd.prog (Hs 19) .iso 19 = some fn19 := by kernel_rfl
/- sterling/sterlingref5.comment -/
@[simp] def r20_0 : List HOp := [⟨(some 4), true, .mv (.val (.tr (.sc (.int .i64 0)))), none⟩,
     ⟨(some 5), true, .mv (.val (.tr (.sc (.bool false)))), none⟩]
@[simp] def r20_1 : List HOp := [⟨(some 9), false, .mv (.env 0), none⟩,
      ⟨(some 10), false, .mv (.env 1), none⟩,
      ⟨(some 11), false, .bin .other .add (.loc 10) (.val (.tr (.sc (.int .i64 1)))), none⟩,
      ⟨(some 12), false, .iaddr 1 (.loc 9) (.loc 11), none⟩,
      ⟨(some 13), false, .load 1 false (.loc 12), none⟩,
      ⟨(some 14), false, .bin .other .eql (.loc 13) (.val (.tr (.sc (.int .u8 47)))), none⟩]
@[simp] def r20_2 : List HOp := [⟨(some 15), false, .mv (.env 1), none⟩,
       ⟨(some 6), true, .mv (.loc 15), none⟩]
@[simp] def r20_3 : List HOp := [⟨(some 16), false, .mv (.env 6), none⟩,
           ⟨(some 17), false, .mv (.env 0), none⟩,
           ⟨(some 18), false, .len 1 (.loc 17), none⟩,
           ⟨(some 19), false, .bin .other .lss (.loc 16) (.loc 18), none⟩,
           ⟨(some 20), false, .mv (.loc 19), none⟩,
           ⟨(some 21), false, .mv (.env 0), some ((.loc 20), true)⟩,
           ⟨(some 22), false, .mv (.env 6), some ((.loc 20), true)⟩,
           ⟨(some 23), false, .iaddr 1 (.loc 21) (.loc 22), some ((.loc 20), true)⟩,
           ⟨(some 24), false, .load 1 false (.loc 23), some ((.loc 20), true)⟩,
           ⟨(some 25), false, .bin .other .neq (.loc 24) (.val (.tr (.sc (.int .u8 10)))), some ((.loc 20), true)⟩,
           ⟨(some 26), false, .pick (.loc 20) (.loc 25) (.val (.tr (.sc (.bool false)))), none⟩]
@[simp] def r20_4 : List HOp := [⟨(some 27), false, .mv (.env 6), none⟩,
          ⟨(some 28), false, .bin .other .add (.loc 27) (.val (.tr (.sc (.int .i64 1)))), none⟩,
          ⟨(some 6), true, .mv (.loc 28), none⟩]
@[simp] def r20_5 : List HOp := [⟨(some 29), false, .mv (.env 6), none⟩,
       ⟨(some 30), false, .mv (.env 1), none⟩,
       ⟨(some 31), false, .bin .other .sub (.loc 29) (.loc 30), none⟩,
       ⟨(some 4), true, .mv (.loc 31), none⟩,
       ⟨(some 5), true, .mv (.val (.tr (.sc (.bool false)))), none⟩]
@[simp] def r20_6 : List HOp := [⟨(some 7), true, .mv (.val (.tr (.sc (.bool false)))), none⟩]
@[simp] def r20_7 : List HOp := [⟨(some 32), false, .mv (.env 1), none⟩,
      ⟨(some 33), false, .bin .other .add (.loc 32) (.val (.tr (.sc (.int .i64 2)))), none⟩,
      ⟨(some 8), true, .mv (.loc 33), none⟩]
@[simp] def r20_8 : List HOp := [⟨(some 34), false, .mv (.env 8), none⟩,
         ⟨(some 35), false, .bin .other .add (.loc 34) (.val (.tr (.sc (.int .i64 1)))), none⟩,
         ⟨(some 36), false, .mv (.env 0), none⟩,
         ⟨(some 37), false, .len 1 (.loc 36), none⟩,
         ⟨(some 38), false, .bin .other .lss (.loc 35) (.loc 37), none⟩]
@[simp] def r20_9 : List HOp := [⟨(some 41), false, .mv (.env 0), none⟩,
           ⟨(some 42), false, .mv (.env 8), none⟩,
           ⟨(some 43), false, .iaddr 1 (.loc 41) (.loc 42), none⟩,
           ⟨(some 44), false, .load 1 false (.loc 43), none⟩,
           ⟨(some 45), false, .bin .other .eql (.loc 44) (.val (.tr (.sc (.int .u8 42)))), none⟩,
           ⟨(some 46), false, .mv (.loc 45), none⟩,
           ⟨(some 47), false, .mv (.env 0), some ((.loc 46), true)⟩,
           ⟨(some 48), false, .mv (.env 8), some ((.loc 46), true)⟩,
           ⟨(some 49), false, .bin .other .add (.loc 48) (.val (.tr (.sc (.int .i64 1)))), some ((.loc 46), true)⟩,
           ⟨(some 50), false, .iaddr 1 (.loc 47) (.loc 49), some ((.loc 46), true)⟩,
           ⟨(some 51), false, .load 1 false (.loc 50), some ((.loc 46), true)⟩,
           ⟨(some 52), false, .bin .other .eql (.loc 51) (.val (.tr (.sc (.int .u8 47)))), some ((.loc 46), true)⟩,
           ⟨(some 53), false, .pick (.loc 46) (.loc 52) (.val (.tr (.sc (.bool false)))), none⟩]
@[simp] def r20_10 : List HOp := [⟨(some 54), false, .mv (.env 8), none⟩,
            ⟨(some 55), false, .bin .other .add (.loc 54) (.val (.tr (.sc (.int .i64 2)))), none⟩,
            ⟨(some 56), false, .mv (.env 1), none⟩,
            ⟨(some 57), false, .bin .other .sub (.loc 55) (.loc 56), none⟩,
            ⟨(some 58), false, .mv (.env 7), none⟩,
            ⟨(some 4), true, .mv (.loc 57), none⟩,
            ⟨(some 5), true, .mv (.loc 58), none⟩]
@[simp] def r20_11 : List HOp := [⟨(some 59), false, .mv (.env 7), none⟩,
         ⟨(some 60), false, .mv (.loc 59), none⟩,
         ⟨(some 61), false, .mv (.env 0), some ((.loc 60), false)⟩,
         ⟨(some 62), false, .mv (.env 8), some ((.loc 60), false)⟩,
         ⟨(some 63), false, .iaddr 1 (.loc 61) (.loc 62), some ((.loc 60), false)⟩,
         ⟨(some 64), false, .load 1 false (.loc 63), some ((.loc 60), false)⟩,
         ⟨(some 65), false, .bin .other .eql (.loc 64) (.val (.tr (.sc (.int .u8 10)))), some ((.loc 60), false)⟩,
         ⟨(some 66), false, .pick (.loc 60) (.val (.tr (.sc (.bool true)))) (.loc 65), none⟩,
         ⟨(some 7), true, .mv (.loc 66), none⟩]
@[simp] def r20_12 : List HOp := [⟨(some 39), false, .mv (.env 8), none⟩,
       ⟨(some 40), false, .bin .other .add (.loc 39) (.val (.tr (.sc (.int .i64 1)))), none⟩,
       ⟨(some 8), true, .mv (.loc 40), none⟩]
@[simp] def r20_13 : List HOp := [⟨(some 4), true, .mv (.val (.tr (.sc (.int .i64 0)))), none⟩,
     ⟨(some 5), true, .mv (.val (.tr (.sc (.bool false)))), none⟩]
@[simp] def k20_5 : HCode := .cond (.loc 26) .skip (.exit 0)
def k20_6 : HCode := .block 1 (.region r20_4 none)
def k20_4 : HCode := .seq (.seq (.region r20_3 none) k20_5) k20_6
def k20_7 : HCode := .seq (.region r20_5 none) .ret
@[simp] def k20_3 : HCode := .seq (.block 0 (.loop k20_4)) k20_7
@[simp] def k20_2 : HCode := .seq (.region r20_2 none) k20_3
@[simp] def k20_1 : HCode := .cond (.loc 14) k20_2 .skip
@[simp] def k20_12 : HCode := .cond (.loc 38) .skip (.exit 2)
@[simp] def k20_15 : HCode := .seq (.region r20_10 none) .ret
@[simp] def k20_14 : HCode := .cond (.loc 53) k20_15 .skip
def k20_16 : HCode := .region r20_11 none
def k20_17 : HCode := .region r20_12 none
def k20_13 : HCode := .seq (.block 3 (.seq (.seq (.region r20_9 none) k20_14) k20_16)) k20_17
def k20_11 : HCode := .seq (.seq (.region r20_8 none) k20_12) k20_13
@[simp] def k20_10 : HCode := .block 2 (.loop k20_11)
def k20_18 : HCode := .seq (.region r20_13 none) .ret
@[simp] def k20_9 : HCode := .seq (.seq (.region r20_7 none) k20_10) k20_18
def k20_8 : HCode := .seq (.region r20_6 none) k20_9
@[simp] def k20_0 : HCode := .seq (.seq (.region r20_1 none) k20_1) k20_8
@[simp] def fn20 : HFn := { nargs := 2, results := [.tmp 4, .tmp 5], mode := .iso, code := (.seq (.region r20_0 none) k20_0) }
theorem c20 : cFn Tryd.prog (Hs 20) .iso 20 = some fn20 := by kernel_rfl
/- sterling/sterlingref5.letter -/
@[simp] def r21_0 : List HOp := [⟨(some 2), true, .mv (.val (.tr (.sc (.bool false)))), none⟩]
@[simp] def r21_1 : List HOp := [⟨(some 3), false, .mv (.env 0), none⟩,
     ⟨(some 4), false, .bin .other .geq (.loc 3) (.val (.tr (.sc (.int .u8 97)))), none⟩,
     ⟨(some 5), false, .mv (.loc 4), none⟩,
     ⟨(some 6), false, .mv (.env 0), some ((.loc 5), true)⟩,
     ⟨(some 7), false, .bin .other .leq (.loc 6) (.val (.tr (.sc (.int .u8 122)))), some ((.loc 5), true)⟩,
     ⟨(some 8), false, .pick (.loc 5) (.loc 7) (.val (.tr (.sc (.bool false)))), none⟩,
     ⟨(some 9), false, .mv (.loc 8), none⟩,
     ⟨(some 10), false, .mv (.env 0), some ((.loc 9), false)⟩,
     ⟨(some 11), false, .bin .other .geq (.loc 10) (.val (.tr (.sc (.int .u8 65)))), some ((.loc 9), false)⟩,
     ⟨(some 12), false, .mv (.loc 11), some ((.loc 9), false)⟩,
     ⟨(some 13), false, .mv (.env 0), some ((.loc 12), true)⟩,
     ⟨(some 14), false, .bin .other .leq (.loc 13) (.val (.tr (.sc (.int .u8 90)))), some ((.loc 12), true)⟩,
     ⟨(some 15), false, .pick (.loc 12) (.loc 14) (.val (.tr (.sc (.bool false)))), some ((.loc 9), false)⟩,
     ⟨(some 16), false, .pick (.loc 9) (.val (.tr (.sc (.bool true)))) (.loc 15), none⟩,
     ⟨(some 17), false, .mv (.loc 16), none⟩,
     ⟨(some 18), false, .mv (.env 0), some ((.loc 17), false)⟩,
     ⟨(some 19), false, .bin .other .eql (.loc 18) (.val (.tr (.sc (.int .u8 95)))), some ((.loc 17), false)⟩,
     ⟨(some 20), false, .pick (.loc 17) (.val (.tr (.sc (.bool true)))) (.loc 19), none⟩,
     ⟨(some 2), true, .mv (.loc 20), none⟩]
@[simp] def k21_0 : HCode := .seq (.region r21_1 none) .ret
@[simp] def fn21 : HFn := { nargs := 1, results := [.tmp 2], mode := .iso, code := (.seq (.region r21_0 none) k21_0) }
theorem c21 : cFn Tryd.prog (Hs 21) .iso 21 = some fn21 := by kernel_rfl
/- sterling/sterlingref5.digit -/
@[simp] def r22_0 : List HOp := [⟨(some 2), true, .mv (.val (.tr (.sc (.bool false)))), none⟩]
@[simp] def r22_1 : List HOp := [⟨(some 3), false, .mv (.env 0), none⟩,
     ⟨(some 4), false, .bin .other .geq (.loc 3) (.val (.tr (.sc (.int .u8 48)))), none⟩,
     ⟨(some 5), false, .mv (.loc 4), none⟩,
     ⟨(some 6), false, .mv (.env 0), some ((.loc 5), true)⟩,
     ⟨(some 7), false, .bin .other .leq (.loc 6) (.val (.tr (.sc (.int .u8 57)))), some ((.loc 5), true)⟩,
     ⟨(some 8), false, .pick (.loc 5) (.loc 7) (.val (.tr (.sc (.bool false)))), none⟩,
     ⟨(some 2), true, .mv (.loc 8), none⟩]
@[simp] def k22_0 : HCode := .seq (.region r22_1 none) .ret
@[simp] def fn22 : HFn := { nargs := 1, results := [.tmp 2], mode := .iso, code := (.seq (.region r22_0 none) k22_0) }
theorem c22 : cFn Tryd.prog (Hs 22) .iso 22 = some fn22 := by kernel_rfl
/- sterling/sterlingref5.Word -/
@[simp] def r15_0 : List HOp := [⟨(some 2), true, .mv (.val (.tr (.sc (.bool false)))), none⟩]
@[simp] def r15_1 : List HOp := [⟨(some 5), false, .bslice false 25 1 [(.sc (.string ⟨⟨[]⟩⟩))] [(0, 1, (.val (.tr (.sc (.string ⟨⟨[98, 114, 101, 97, 107]⟩⟩))))), (1, 1, (.val (.tr (.sc (.string ⟨⟨[99, 97, 115, 101]⟩⟩))))), (2, 1, (.val (.tr (.sc (.string ⟨⟨[99, 104, 97, 110]⟩⟩))))), (3, 1, (.val (.tr (.sc (.string ⟨⟨[99, 111, 110, 115, 116]⟩⟩))))), (4, 1, (.val (.tr (.sc (.string ⟨⟨[99, 111, 110, 116, 105, 110, 117, 101]⟩⟩))))), (5, 1, (.val (.tr (.sc (.string ⟨⟨[100, 101, 102, 97, 117, 108, 116]⟩⟩))))), (6, 1, (.val (.tr (.sc (.string ⟨⟨[100, 101, 102, 101, 114]⟩⟩))))), (7, 1, (.val (.tr (.sc (.string ⟨⟨[101, 108, 115, 101]⟩⟩))))), (8, 1, (.val (.tr (.sc (.string ⟨⟨[102, 97, 108, 108, 116, 104, 114, 111, 117, 103, 104]⟩⟩))))), (9, 1, (.val (.tr (.sc (.string ⟨⟨[102, 111, 114]⟩⟩))))), (10, 1, (.val (.tr (.sc (.string ⟨⟨[102, 117, 110, 99]⟩⟩))))), (11, 1, (.val (.tr (.sc (.string ⟨⟨[103, 111]⟩⟩))))), (12, 1, (.val (.tr (.sc (.string ⟨⟨[103, 111, 116, 111]⟩⟩))))), (13, 1, (.val (.tr (.sc (.string ⟨⟨[105, 102]⟩⟩))))), (14, 1, (.val (.tr (.sc (.string ⟨⟨[105, 109, 112, 111, 114, 116]⟩⟩))))), (15, 1, (.val (.tr (.sc (.string ⟨⟨[105, 110, 116, 101, 114, 102, 97, 99, 101]⟩⟩))))), (16, 1, (.val (.tr (.sc (.string ⟨⟨[109, 97, 112]⟩⟩))))), (17, 1, (.val (.tr (.sc (.string ⟨⟨[112, 97, 99, 107, 97, 103, 101]⟩⟩))))), (18, 1, (.val (.tr (.sc (.string ⟨⟨[114, 97, 110, 103, 101]⟩⟩))))), (19, 1, (.val (.tr (.sc (.string ⟨⟨[114, 101, 116, 117, 114, 110]⟩⟩))))), (20, 1, (.val (.tr (.sc (.string ⟨⟨[115, 101, 108, 101, 99, 116]⟩⟩))))), (21, 1, (.val (.tr (.sc (.string ⟨⟨[115, 116, 114, 117, 99, 116]⟩⟩))))), (22, 1, (.val (.tr (.sc (.string ⟨⟨[115, 119, 105, 116, 99, 104]⟩⟩))))), (23, 1, (.val (.tr (.sc (.string ⟨⟨[116, 121, 112, 101]⟩⟩))))), (24, 1, (.val (.tr (.sc (.string ⟨⟨[118, 97, 114]⟩⟩)))))], none⟩,
     ⟨(some 3), true, .mv (.loc 5), none⟩]
@[simp] def r15_2 : List HOp := [⟨(some 4), true, .mv (.val (.tr (.sc (.int .i64 0)))), none⟩]
@[simp] def r15_3 : List HOp := [⟨(some 6), false, .mv (.env 4), none⟩,
         ⟨(some 7), false, .mv (.env 3), none⟩,
         ⟨(some 8), false, .len 1 (.loc 7), none⟩,
         ⟨(some 9), false, .bin .other .lss (.loc 6) (.loc 8), none⟩]
@[simp] def r15_4 : List HOp := [⟨(some 12), false, .mv (.env 3), none⟩,
          ⟨(some 13), false, .mv (.env 4), none⟩,
          ⟨(some 14), false, .iaddr 1 (.loc 12) (.loc 13), none⟩,
          ⟨(some 15), false, .load 1 false (.loc 14), none⟩,
          ⟨(some 16), false, .mv (.env 0), none⟩,
          ⟨(some 17), false, .bin .other .eql (.loc 15) (.loc 16), none⟩]
@[simp] def r15_5 : List HOp := [⟨(some 2), true, .mv (.val (.tr (.sc (.bool true)))), none⟩]
@[simp] def r15_6 : List HOp := [⟨(some 10), false, .mv (.env 4), none⟩,
       ⟨(some 11), false, .bin .other .add (.loc 10) (.val (.tr (.sc (.int .i64 1)))), none⟩,
       ⟨(some 4), true, .mv (.loc 11), none⟩]
@[simp] def r15_7 : List HOp := [⟨(some 2), true, .mv (.val (.tr (.sc (.bool false)))), none⟩]
@[simp] def k15_4 : HCode := .cond (.loc 9) .skip (.exit 0)
@[simp] def k15_7 : HCode := .seq (.region r15_5 none) .ret
@[simp] def k15_6 : HCode := .cond (.loc 17) k15_7 .skip
def k15_8 : HCode := .region r15_6 none
def k15_5 : HCode := .seq (.block 1 (.seq (.region r15_4 none) k15_6)) k15_8
def k15_3 : HCode := .seq (.seq (.region r15_3 none) k15_4) k15_5
@[simp] def k15_2 : HCode := .block 0 (.loop k15_3)
def k15_9 : HCode := .seq (.region r15_7 none) .ret
@[simp] def k15_1 : HCode := .seq (.seq (.region r15_2 none) k15_2) k15_9
@[simp] def k15_0 : HCode := .seq (.region r15_1 none) k15_1
@[simp] def fn15 : HFn := { nargs := 1, results := [.tmp 2], mode := .iso, code := (.seq (.region r15_0 none) k15_0) }
theorem c15 : cFn Tryd.prog (Hs 15) .iso 15 = some fn15 := by kernel_rfl
/- sterling/sterlingref5.number -/
@[simp] def r23_0 : List HOp := [⟨(some 4), true, .mv (.val (.tr (.sc (.int .i64 0)))), none⟩,
     ⟨(some 5), true, .mv (.val (.tr (.sc (.int .i64 0)))), none⟩]
@[simp] def r23_1 : List HOp := [⟨(some 16), false, .mv (.env 1), none⟩,
     ⟨(some 6), true, .mv (.val (.tr (.sc (.int .i64 2)))), none⟩,
     ⟨(some 7), true, .mv (.loc 16), none⟩]
@[simp] def r23_2 : List HOp := [⟨(some 17), false, .mv (.env 0), none⟩,
     ⟨(some 18), false, .mv (.env 1), none⟩,
     ⟨(some 19), false, .bin .other .add (.loc 18) (.val (.tr (.sc (.int .i64 1)))), none⟩,
     ⟨(some 20), false, .callf 19 [(.loc 17), (.loc 19)], none⟩,
     ⟨(some 8), true, .mv (.loc 20), none⟩]
@[simp] def r23_3 : List HOp := [⟨(some 62), false, .mv (.env 0), none⟩,
       ⟨(some 63), false, .mv (.env 1), none⟩,
       ⟨(some 64), false, .iaddr 1 (.loc 62) (.loc 63), none⟩,
       ⟨(some 65), false, .load 1 false (.loc 64), none⟩,
       ⟨(some 66), false, .bin .other .eql (.loc 65) (.val (.tr (.sc (.int .u8 48)))), none⟩,
       ⟨(some 67), false, .mv (.loc 66), none⟩,
       ⟨(some 68), false, .mv (.env 8), some ((.loc 67), true)⟩,
       ⟨(some 69), false, .bin .other .eql (.loc 68) (.val (.tr (.sc (.int .u8 120)))), some ((.loc 67), true)⟩,
       ⟨(some 70), false, .mv (.loc 69), some ((.loc 67), true)⟩,
       ⟨(some 71), false, .mv (.env 8), some ((.loc 70), false)⟩,
       ⟨(some 72), false, .bin .other .eql (.loc 71) (.val (.tr (.sc (.int .u8 88)))), some ((.loc 70), false)⟩,
       ⟨(some 73), false, .pick (.loc 70) (.val (.tr (.sc (.bool true)))) (.loc 72), some ((.loc 67), true)⟩,
       ⟨(some 74), false, .pick (.loc 67) (.loc 73) (.val (.tr (.sc (.bool false)))), none⟩,
       ⟨(some 61), false, .mv (.loc 74), none⟩]
@[simp] def r23_4 : List HOp := [⟨(some 75), false, .mv (.env 0), none⟩,
        ⟨(some 76), false, .mv (.env 1), none⟩,
        ⟨(some 77), false, .bin .other .add (.loc 76) (.val (.tr (.sc (.int .i64 2)))), none⟩,
        ⟨(some 78), false, .callf 40 [(.loc 75), (.loc 77), (.val (.tr (.sc (.int .i64 16))))], none⟩,
        ⟨(some 9), true, .mv (.loc 78), none⟩]
@[simp] def r23_5 : List HOp := [⟨(some 79), false, .mv (.env 1), none⟩,
        ⟨(some 80), false, .bin .other .add (.loc 79) (.val (.tr (.sc (.int .i64 2)))), none⟩,
        ⟨(some 81), false, .mv (.env 9), none⟩,
        ⟨(some 82), false, .bin .other .add (.loc 80) (.loc 81), none⟩,
        ⟨(some 7), true, .mv (.loc 82), none⟩]
@[simp] def r23_6 : List HOp := [⟨(some 83), false, .mv (.env 0), none⟩,
         ⟨(some 84), false, .mv (.env 7), none⟩,
         ⟨(some 85), false, .callf 19 [(.loc 83), (.loc 84)], none⟩,
         ⟨(some 86), false, .bin .other .eql (.loc 85) (.val (.tr (.sc (.int .u8 46)))), none⟩]
@[simp] def r23_7 : List HOp := [⟨(some 87), false, .mv (.env 0), none⟩,
          ⟨(some 88), false, .mv (.env 7), none⟩,
          ⟨(some 89), false, .bin .other .add (.loc 88) (.val (.tr (.sc (.int .i64 1)))), none⟩,
          ⟨(some 90), false, .callf 40 [(.loc 87), (.loc 89), (.val (.tr (.sc (.int .i64 16))))], none⟩,
          ⟨(some 10), true, .mv (.loc 90), none⟩]
@[simp] def r23_8 : List HOp := [⟨(some 91), false, .mv (.env 9), none⟩,
          ⟨(some 92), false, .mv (.env 10), none⟩,
          ⟨(some 93), false, .bin .other .add (.loc 91) (.loc 92), none⟩,
          ⟨(some 9), true, .mv (.loc 93), none⟩]
@[simp] def r23_9 : List HOp := [⟨(some 94), false, .mv (.env 7), none⟩,
          ⟨(some 95), false, .mv (.env 10), none⟩,
          ⟨(some 96), false, .bin .other .add (.val (.tr (.sc (.int .i64 1)))) (.loc 95), none⟩,
          ⟨(some 97), false, .bin .other .add (.loc 94) (.loc 96), none⟩,
          ⟨(some 7), true, .mv (.loc 97), none⟩]
@[simp] def r23_10 : List HOp := [⟨(some 6), true, .mv (.val (.tr (.sc (.int .i64 3)))), none⟩]
@[simp] def r23_11 : List HOp := [⟨(some 98), false, .mv (.env 0), none⟩,
        ⟨(some 99), false, .mv (.env 7), none⟩,
        ⟨(some 100), false, .callf 41 [(.loc 98), (.loc 99), (.val (.tr (.sc (.int .u8 112)))), (.val (.tr (.sc (.int .u8 80))))], none⟩,
        ⟨(some 11), true, .mv (.loc 100), none⟩]
@[simp] def r23_12 : List HOp := [⟨(some 101), false, .mv (.env 9), none⟩,
         ⟨(some 102), false, .bin .other .eql (.loc 101) (.val (.tr (.sc (.int .i64 0)))), none⟩,
         ⟨(some 103), false, .mv (.loc 102), none⟩,
         ⟨(some 104), false, .mv (.env 11), some ((.loc 103), false)⟩,
         ⟨(some 105), false, .bin .other .lss (.loc 104) (.val (.tr (.sc (.int .i64 0)))), some ((.loc 103), false)⟩,
         ⟨(some 106), false, .pick (.loc 103) (.val (.tr (.sc (.bool true)))) (.loc 105), none⟩,
         ⟨(some 107), false, .mv (.loc 106), none⟩,
         ⟨(some 108), false, .mv (.env 11), some ((.loc 107), false)⟩,
         ⟨(some 109), false, .bin .other .eql (.loc 108) (.val (.tr (.sc (.int .i64 0)))), some ((.loc 107), false)⟩,
         ⟨(some 110), false, .mv (.loc 109), some ((.loc 107), false)⟩,
         ⟨(some 111), false, .mv (.env 6), some ((.loc 110), true)⟩,
         ⟨(some 112), false, .bin .other .eql (.loc 111) (.val (.tr (.sc (.int .i64 3)))), some ((.loc 110), true)⟩,
         ⟨(some 113), false, .pick (.loc 110) (.loc 112) (.val (.tr (.sc (.bool false)))), some ((.loc 107), false)⟩,
         ⟨(some 114), false, .pick (.loc 107) (.val (.tr (.sc (.bool true)))) (.loc 113), none⟩]
@[simp] def r23_13 : List HOp := [⟨(some 4), true, .mv (.val (.tr (.sc (.int .i64 0)))), none⟩,
          ⟨(some 5), true, .mv (.val (.tr (.sc (.int .i64 0)))), none⟩]
@[simp] def r23_14 : List HOp := [⟨(some 115), false, .mv (.env 11), none⟩,
         ⟨(some 116), false, .bin .other .gtr (.loc 115) (.val (.tr (.sc (.int .i64 0)))), none⟩]
@[simp] def r23_15 : List HOp := [⟨(some 6), true, .mv (.val (.tr (.sc (.int .i64 3)))), none⟩]
@[simp] def r23_16 : List HOp := [⟨(some 117), false, .mv (.env 7), none⟩,
       ⟨(some 118), false, .mv (.env 11), none⟩,
       ⟨(some 119), false, .bin .other .add (.loc 117) (.loc 118), none⟩,
       ⟨(some 7), true, .mv (.loc 119), none⟩]
@[simp] def r23_17 : List HOp := [⟨(some 121), false, .mv (.env 0), none⟩,
        ⟨(some 122), false, .mv (.env 1), none⟩,
        ⟨(some 123), false, .iaddr 1 (.loc 121) (.loc 122), none⟩,
        ⟨(some 124), false, .load 1 false (.loc 123), none⟩,
        ⟨(some 125), false, .bin .other .eql (.loc 124) (.val (.tr (.sc (.int .u8 48)))), none⟩,
        ⟨(some 126), false, .mv (.loc 125), none⟩,
        ⟨(some 127), false, .mv (.env 8), some ((.loc 126), true)⟩,
        ⟨(some 128), false, .bin .other .eql (.loc 127) (.val (.tr (.sc (.int .u8 111)))), some ((.loc 126), true)⟩,
        ⟨(some 129), false, .mv (.loc 128), some ((.loc 126), true)⟩,
        ⟨(some 130), false, .mv (.env 8), some ((.loc 129), false)⟩,
        ⟨(some 131), false, .bin .other .eql (.loc 130) (.val (.tr (.sc (.int .u8 79)))), some ((.loc 129), false)⟩,
        ⟨(some 132), false, .pick (.loc 129) (.val (.tr (.sc (.bool true)))) (.loc 131), some ((.loc 126), true)⟩,
        ⟨(some 133), false, .mv (.loc 132), some ((.loc 126), true)⟩,
        ⟨(some 134), false, .mv (.env 8), some ((.loc 133), false)⟩,
        ⟨(some 135), false, .bin .other .eql (.loc 134) (.val (.tr (.sc (.int .u8 98)))), some ((.loc 133), false)⟩,
        ⟨(some 136), false, .pick (.loc 133) (.val (.tr (.sc (.bool true)))) (.loc 135), some ((.loc 126), true)⟩,
        ⟨(some 137), false, .mv (.loc 136), some ((.loc 126), true)⟩,
        ⟨(some 138), false, .mv (.env 8), some ((.loc 137), false)⟩,
        ⟨(some 139), false, .bin .other .eql (.loc 138) (.val (.tr (.sc (.int .u8 66)))), some ((.loc 137), false)⟩,
        ⟨(some 140), false, .pick (.loc 137) (.val (.tr (.sc (.bool true)))) (.loc 139), some ((.loc 126), true)⟩,
        ⟨(some 141), false, .pick (.loc 126) (.loc 140) (.val (.tr (.sc (.bool false)))), none⟩,
        ⟨(some 120), false, .mv (.loc 141), none⟩]
@[simp] def r23_18 : List HOp := [⟨(some 12), true, .mv (.val (.tr (.sc (.int .i64 8)))), none⟩]
@[simp] def r23_19 : List HOp := [⟨(some 142), false, .mv (.env 8), none⟩,
          ⟨(some 143), false, .bin .other .eql (.loc 142) (.val (.tr (.sc (.int .u8 98)))), none⟩,
          ⟨(some 144), false, .mv (.loc 143), none⟩,
          ⟨(some 145), false, .mv (.env 8), some ((.loc 144), false)⟩,
          ⟨(some 146), false, .bin .other .eql (.loc 145) (.val (.tr (.sc (.int .u8 66)))), some ((.loc 144), false)⟩,
          ⟨(some 147), false, .pick (.loc 144) (.val (.tr (.sc (.bool true)))) (.loc 146), none⟩]
@[simp] def r23_20 : List HOp := [⟨(some 12), true, .mv (.val (.tr (.sc (.int .i64 2)))), none⟩]
@[simp] def r23_21 : List HOp := [⟨(some 148), false, .mv (.env 0), none⟩,
         ⟨(some 149), false, .mv (.env 1), none⟩,
         ⟨(some 150), false, .bin .other .add (.loc 149) (.val (.tr (.sc (.int .i64 2)))), none⟩,
         ⟨(some 151), false, .mv (.env 12), none⟩,
         ⟨(some 152), false, .callf 40 [(.loc 148), (.loc 150), (.loc 151)], none⟩,
         ⟨(some 13), true, .mv (.loc 152), none⟩]
@[simp] def r23_22 : List HOp := [⟨(some 153), false, .mv (.env 13), none⟩,
          ⟨(some 154), false, .bin .other .eql (.loc 153) (.val (.tr (.sc (.int .i64 0)))), none⟩]
@[simp] def r23_23 : List HOp := [⟨(some 4), true, .mv (.val (.tr (.sc (.int .i64 0)))), none⟩,
           ⟨(some 5), true, .mv (.val (.tr (.sc (.int .i64 0)))), none⟩]
@[simp] def r23_24 : List HOp := [⟨(some 155), false, .mv (.env 1), none⟩,
        ⟨(some 156), false, .bin .other .add (.loc 155) (.val (.tr (.sc (.int .i64 2)))), none⟩,
        ⟨(some 157), false, .mv (.env 13), none⟩,
        ⟨(some 158), false, .bin .other .add (.loc 156) (.loc 157), none⟩,
        ⟨(some 7), true, .mv (.loc 158), none⟩]
@[simp] def r23_25 : List HOp := [⟨(some 21), false, .mv (.env 0), none⟩,
         ⟨(some 22), false, .mv (.env 1), none⟩,
         ⟨(some 23), false, .callf 40 [(.loc 21), (.loc 22), (.val (.tr (.sc (.int .i64 10))))], none⟩,
         ⟨(some 14), true, .mv (.loc 23), none⟩]
@[simp] def r23_26 : List HOp := [⟨(some 24), false, .mv (.env 1), none⟩,
         ⟨(some 25), false, .mv (.env 14), none⟩,
         ⟨(some 26), false, .bin .other .add (.loc 24) (.loc 25), none⟩,
         ⟨(some 7), true, .mv (.loc 26), none⟩]
@[simp] def r23_27 : List HOp := [⟨(some 27), false, .mv (.env 0), none⟩,
          ⟨(some 28), false, .mv (.env 7), none⟩,
          ⟨(some 29), false, .callf 19 [(.loc 27), (.loc 28)], none⟩,
          ⟨(some 30), false, .bin .other .eql (.loc 29) (.val (.tr (.sc (.int .u8 46)))), none⟩]
@[simp] def r23_28 : List HOp := [⟨(some 6), true, .mv (.val (.tr (.sc (.int .i64 3)))), none⟩]
@[simp] def r23_29 : List HOp := [⟨(some 31), false, .mv (.env 7), none⟩,
          ⟨(some 32), false, .mv (.env 0), none⟩,
          ⟨(some 33), false, .mv (.env 7), none⟩,
          ⟨(some 34), false, .bin .other .add (.loc 33) (.val (.tr (.sc (.int .i64 1)))), none⟩,
          ⟨(some 35), false, .callf 40 [(.loc 32), (.loc 34), (.val (.tr (.sc (.int .i64 10))))], none⟩,
          ⟨(some 36), false, .bin .other .add (.val (.tr (.sc (.int .i64 1)))) (.loc 35), none⟩,
          ⟨(some 37), false, .bin .other .add (.loc 31) (.loc 36), none⟩,
          ⟨(some 7), true, .mv (.loc 37), none⟩]
@[simp] def r23_30 : List HOp := [⟨(some 38), false, .mv (.env 0), none⟩,
         ⟨(some 39), false, .mv (.env 7), none⟩,
         ⟨(some 40), false, .callf 41 [(.loc 38), (.loc 39), (.val (.tr (.sc (.int .u8 101)))), (.val (.tr (.sc (.int .u8 69))))], none⟩,
         ⟨(some 15), true, .mv (.loc 40), none⟩]
@[simp] def r23_31 : List HOp := [⟨(some 41), false, .mv (.env 15), none⟩,
          ⟨(some 42), false, .bin .other .lss (.loc 41) (.val (.tr (.sc (.int .i64 0)))), none⟩]
@[simp] def r23_32 : List HOp := [⟨(some 4), true, .mv (.val (.tr (.sc (.int .i64 0)))), none⟩,
           ⟨(some 5), true, .mv (.val (.tr (.sc (.int .i64 0)))), none⟩]
@[simp] def r23_33 : List HOp := [⟨(some 43), false, .mv (.env 15), none⟩,
          ⟨(some 44), false, .bin .other .gtr (.loc 43) (.val (.tr (.sc (.int .i64 0)))), none⟩]
@[simp] def r23_34 : List HOp := [⟨(some 6), true, .mv (.val (.tr (.sc (.int .i64 3)))), none⟩]
@[simp] def r23_35 : List HOp := [⟨(some 45), false, .mv (.env 7), none⟩,
         ⟨(some 46), false, .mv (.env 15), none⟩,
         ⟨(some 47), false, .bin .other .add (.loc 45) (.loc 46), none⟩,
         ⟨(some 7), true, .mv (.loc 47), none⟩]
@[simp] def r23_36 : List HOp := [⟨(some 48), false, .mv (.env 6), none⟩,
         ⟨(some 49), false, .bin .other .eql (.loc 48) (.val (.tr (.sc (.int .i64 2)))), none⟩,
         ⟨(some 50), false, .mv (.loc 49), none⟩,
         ⟨(some 51), false, .mv (.env 14), some ((.loc 50), true)⟩,
         ⟨(some 52), false, .bin .other .gtr (.loc 51) (.val (.tr (.sc (.int .i64 1)))), some ((.loc 50), true)⟩,
         ⟨(some 53), false, .pick (.loc 50) (.loc 52) (.val (.tr (.sc (.bool false)))), none⟩,
         ⟨(some 54), false, .mv (.loc 53), none⟩,
         ⟨(some 55), false, .mv (.env 0), some ((.loc 54), true)⟩,
         ⟨(some 56), false, .mv (.env 1), some ((.loc 54), true)⟩,
         ⟨(some 57), false, .iaddr 1 (.loc 55) (.loc 56), some ((.loc 54), true)⟩,
         ⟨(some 58), false, .load 1 false (.loc 57), some ((.loc 54), true)⟩,
         ⟨(some 59), false, .bin .other .eql (.loc 58) (.val (.tr (.sc (.int .u8 48)))), some ((.loc 54), true)⟩,
         ⟨(some 60), false, .pick (.loc 54) (.loc 59) (.val (.tr (.sc (.bool false)))), none⟩]
@[simp] def r23_37 : List HOp := [⟨(some 4), true, .mv (.val (.tr (.sc (.int .i64 0)))), none⟩,
          ⟨(some 5), true, .mv (.val (.tr (.sc (.int .i64 0)))), none⟩]
@[simp] def r23_38 : List HOp := [⟨(some 159), false, .mv (.env 0), none⟩,
      ⟨(some 160), false, .mv (.env 7), none⟩,
      ⟨(some 161), false, .callf 19 [(.loc 159), (.loc 160)], none⟩,
      ⟨(some 162), false, .callf 21 [(.loc 161)], none⟩,
      ⟨(some 163), false, .mv (.loc 162), none⟩,
      ⟨(some 164), false, .mv (.env 0), some ((.loc 163), false)⟩,
      ⟨(some 165), false, .mv (.env 7), some ((.loc 163), false)⟩,
      ⟨(some 166), false, .callf 19 [(.loc 164), (.loc 165)], some ((.loc 163), false)⟩,
      ⟨(some 167), false, .callf 22 [(.loc 166)], some ((.loc 163), false)⟩,
      ⟨(some 168), false, .pick (.loc 163) (.val (.tr (.sc (.bool true)))) (.loc 167), none⟩,
      ⟨(some 169), false, .mv (.loc 168), none⟩,
      ⟨(some 170), false, .mv (.env 0), some ((.loc 169), false)⟩,
      ⟨(some 171), false, .mv (.env 7), some ((.loc 169), false)⟩,
      ⟨(some 172), false, .callf 19 [(.loc 170), (.loc 171)], some ((.loc 169), false)⟩,
      ⟨(some 173), false, .bin .other .eql (.loc 172) (.val (.tr (.sc (.int .u8 46)))), some ((.loc 169), false)⟩,
      ⟨(some 174), false, .pick (.loc 169) (.val (.tr (.sc (.bool true)))) (.loc 173), none⟩]
@[simp] def r23_39 : List HOp := [⟨(some 4), true, .mv (.val (.tr (.sc (.int .i64 0)))), none⟩,
       ⟨(some 5), true, .mv (.val (.tr (.sc (.int .i64 0)))), none⟩]
@[simp] def r23_40 : List HOp := [⟨(some 175), false, .mv (.env 6), none⟩,
     ⟨(some 176), false, .mv (.env 7), none⟩,
     ⟨(some 177), false, .mv (.env 1), none⟩,
     ⟨(some 178), false, .bin .other .sub (.loc 176) (.loc 177), none⟩,
     ⟨(some 4), true, .mv (.loc 175), none⟩,
     ⟨(some 5), true, .mv (.loc 178), none⟩]
@[simp] def k23_10 : HCode := .seq (.region r23_9 none) (.region r23_10 none)
@[simp] def k23_9 : HCode := .seq (.region r23_8 none) k23_10
@[simp] def k23_8 : HCode := .seq (.region r23_7 none) k23_9
@[simp] def k23_7 : HCode := .cond (.loc 86) k23_8 .skip
@[simp] def k23_14 : HCode := .seq (.region r23_13 none) .ret
@[simp] def k23_13 : HCode := .cond (.loc 114) k23_14 .skip
@[simp] def k23_16 : HCode := .cond (.loc 116) (.region r23_15 none) .skip
def k23_17 : HCode := .region r23_16 none
def k23_15 : HCode := .seq (.seq (.region r23_14 none) k23_16) k23_17
@[simp] def k23_12 : HCode := .seq (.seq (.region r23_12 none) k23_13) k23_15
def k23_11 : HCode := .seq (.region r23_11 none) k23_12
@[simp] def k23_6 : HCode := .seq (.seq (.region r23_6 none) k23_7) k23_11
@[simp] def k23_5 : HCode := .seq (.region r23_5 none) k23_6
@[simp] def k23_4 : HCode := .seq (.region r23_4 none) k23_5
@[simp] def k23_22 : HCode := .cond (.loc 147) (.region r23_20 none) .skip
@[simp] def k23_26 : HCode := .seq (.region r23_23 none) .ret
@[simp] def k23_25 : HCode := .cond (.loc 154) k23_26 .skip
def k23_27 : HCode := .region r23_24 none
@[simp] def k23_24 : HCode := .seq (.seq (.region r23_22 none) k23_25) k23_27
def k23_23 : HCode := .seq (.region r23_21 none) k23_24
@[simp] def k23_21 : HCode := .seq (.seq (.region r23_19 none) k23_22) k23_23
@[simp] def k23_20 : HCode := .seq (.region r23_18 none) k23_21
@[simp] def k23_32 : HCode := .seq (.region r23_28 none) (.region r23_29 none)
@[simp] def k23_31 : HCode := .cond (.loc 30) k23_32 .skip
@[simp] def k23_36 : HCode := .seq (.region r23_32 none) .ret
@[simp] def k23_35 : HCode := .cond (.loc 42) k23_36 .skip
@[simp] def k23_38 : HCode := .cond (.loc 44) (.region r23_34 none) .skip
@[simp] def k23_42 : HCode := .seq (.region r23_37 none) .ret
@[simp] def k23_41 : HCode := .cond (.loc 60) k23_42 .skip
@[simp] def k23_40 : HCode := .seq (.region r23_36 none) k23_41
def k23_39 : HCode := .seq (.region r23_35 none) k23_40
def k23_37 : HCode := .seq (.seq (.region r23_33 none) k23_38) k23_39
@[simp] def k23_34 : HCode := .seq (.seq (.region r23_31 none) k23_35) k23_37
def k23_33 : HCode := .seq (.region r23_30 none) k23_34
@[simp] def k23_30 : HCode := .seq (.seq (.region r23_27 none) k23_31) k23_33
@[simp] def k23_29 : HCode := .seq (.region r23_26 none) k23_30
@[simp] def k23_28 : HCode := .seq (.region r23_25 none) k23_29
@[simp] def k23_19 : HCode := .cond (.loc 120) k23_20 k23_28
@[simp] def k23_18 : HCode := .seq (.region r23_17 none) k23_19
@[simp] def k23_3 : HCode := .cond (.loc 61) k23_4 k23_18
@[simp] def k23_45 : HCode := .seq (.region r23_39 none) .ret
@[simp] def k23_44 : HCode := .cond (.loc 174) k23_45 .skip
def k23_46 : HCode := .seq (.region r23_40 none) .ret
def k23_43 : HCode := .seq (.seq (.region r23_38 none) k23_44) k23_46
@[simp] def k23_2 : HCode := .seq (.block 0 (.seq (.region r23_3 none) k23_3)) k23_43
@[simp] def k23_1 : HCode := .seq (.region r23_2 none) k23_2
@[simp] def k23_0 : HCode := .seq (.region r23_1 none) k23_1
@[simp] def fn23 : HFn := { nargs := 2, results := [.tmp 4, .tmp 5], mode := .iso, code := (.seq (.region r23_0 none) k23_0) }
theorem c23 : cFn Tryd.prog (Hs 23) .iso 23 = some fn23 := by kernel_rfl
/- sterling/sterlingref5.digits -/
@[simp] def r40_0 : List HOp := [⟨(some 6), true, .mv (.val (.tr (.sc (.int .i64 0)))), none⟩]
@[simp] def r40_1 : List HOp := [⟨(some 7), true, .mv (.val (.tr (.sc (.int .i64 0)))), none⟩]
@[simp] def r40_2 : List HOp := [⟨(some 9), false, .mv (.env 1), none⟩,
         ⟨(some 10), false, .mv (.env 7), none⟩,
         ⟨(some 11), false, .bin .other .add (.loc 9) (.loc 10), none⟩,
         ⟨(some 12), false, .mv (.env 0), none⟩,
         ⟨(some 13), false, .len 1 (.loc 12), none⟩,
         ⟨(some 14), false, .bin .other .lss (.loc 11) (.loc 13), none⟩]
@[simp] def r40_3 : List HOp := [⟨(some 15), false, .mv (.env 0), none⟩,
         ⟨(some 16), false, .mv (.env 1), none⟩,
         ⟨(some 17), false, .mv (.env 7), none⟩,
         ⟨(some 18), false, .bin .other .add (.loc 16) (.loc 17), none⟩,
         ⟨(some 19), false, .iaddr 1 (.loc 15) (.loc 18), none⟩,
         ⟨(some 20), false, .load 1 false (.loc 19), none⟩,
         ⟨(some 21), false, .callf 42 [(.loc 20)], none⟩,
         ⟨(some 8), true, .mv (.loc 21), none⟩]
@[simp] def r40_4 : List HOp := [⟨(some 22), false, .mv (.env 8), none⟩,
          ⟨(some 23), false, .bin .other .lss (.loc 22) (.val (.tr (.sc (.int .i64 0)))), none⟩,
          ⟨(some 24), false, .mv (.loc 23), none⟩,
          ⟨(some 25), false, .mv (.env 8), some ((.loc 24), false)⟩,
          ⟨(some 26), false, .mv (.env 2), some ((.loc 24), false)⟩,
          ⟨(some 27), false, .bin .other .geq (.loc 25) (.loc 26), some ((.loc 24), false)⟩,
          ⟨(some 28), false, .pick (.loc 24) (.val (.tr (.sc (.bool true)))) (.loc 27), none⟩]
@[simp] def r40_5 : List HOp := [⟨(some 29), false, .mv (.env 7), none⟩,
        ⟨(some 30), false, .bin .other .add (.loc 29) (.val (.tr (.sc (.int .i64 1)))), none⟩,
        ⟨(some 7), true, .mv (.loc 30), none⟩]
@[simp] def r40_6 : List HOp := [⟨(some 31), false, .mv (.env 7), none⟩,
     ⟨(some 6), true, .mv (.loc 31), none⟩]
@[simp] def k40_3 : HCode := .cond (.loc 14) .skip (.exit 0)
@[simp] def k40_6 : HCode := .cond (.loc 28) (.exit 0) .skip
def k40_7 : HCode := .region r40_5 none
@[simp] def k40_5 : HCode := .seq (.seq (.region r40_4 none) k40_6) k40_7
def k40_4 : HCode := .block 1 (.seq (.region r40_3 none) k40_5)
def k40_2 : HCode := .seq (.seq (.region r40_2 none) k40_3) k40_4
def k40_8 : HCode := .seq (.region r40_6 none) .ret
@[simp] def k40_1 : HCode := .seq (.block 0 (.loop k40_2)) k40_8
@[simp] def k40_0 : HCode := .seq (.region r40_1 none) k40_1
@[simp] def fn40 : HFn := { nargs := 3, results := [.tmp 6], mode := .iso, code := (.seq (.region r40_0 none) k40_0) }
theorem c40 : cFn Tryd.prog (Hs 40) .iso 40 = some fn40 := by kernel_rfl
/- sterling/sterlingref1.Digit -/
@[simp] def r42_0 : List HOp := [⟨(some 2), true, .mv (.val (.tr (.sc (.int .i64 0)))), none⟩]
@[simp] def r42_1 : List HOp := [⟨(some 4), false, .mv (.env 0), none⟩,
       ⟨(some 5), false, .bin .other .geq (.loc 4) (.val (.tr (.sc (.int .u8 48)))), none⟩,
       ⟨(some 6), false, .mv (.loc 5), none⟩,
       ⟨(some 7), false, .mv (.env 0), some ((.loc 6), true)⟩,
       ⟨(some 8), false, .bin .other .leq (.loc 7) (.val (.tr (.sc (.int .u8 57)))), some ((.loc 6), true)⟩,
       ⟨(some 9), false, .pick (.loc 6) (.loc 8) (.val (.tr (.sc (.bool false)))), none⟩,
       ⟨(some 3), false, .mv (.loc 9), none⟩]
@[simp] def r42_2 : List HOp := [⟨(some 10), false, .mv (.env 0), none⟩,
        ⟨(some 11), false, .bin .other .sub (.loc 10) (.val (.tr (.sc (.int .u8 48)))), none⟩,
        ⟨(some 12), false, .conv (.toInt .i64) (.loc 11), none⟩,
        ⟨(some 2), true, .mv (.loc 12), none⟩]
@[simp] def r42_3 : List HOp := [⟨(some 14), false, .mv (.env 0), none⟩,
        ⟨(some 15), false, .bin .other .geq (.loc 14) (.val (.tr (.sc (.int .u8 97)))), none⟩,
        ⟨(some 16), false, .mv (.loc 15), none⟩,
        ⟨(some 17), false, .mv (.env 0), some ((.loc 16), true)⟩,
        ⟨(some 18), false, .bin .other .leq (.loc 17) (.val (.tr (.sc (.int .u8 102)))), some ((.loc 16), true)⟩,
        ⟨(some 19), false, .pick (.loc 16) (.loc 18) (.val (.tr (.sc (.bool false)))), none⟩,
        ⟨(some 13), false, .mv (.loc 19), none⟩]
@[simp] def r42_4 : List HOp := [⟨(some 20), false, .mv (.env 0), none⟩,
         ⟨(some 21), false, .bin .other .sub (.loc 20) (.val (.tr (.sc (.int .u8 97)))), none⟩,
         ⟨(some 22), false, .conv (.toInt .i64) (.loc 21), none⟩,
         ⟨(some 23), false, .bin .other .add (.loc 22) (.val (.tr (.sc (.int .i64 10)))), none⟩,
         ⟨(some 2), true, .mv (.loc 23), none⟩]
@[simp] def r42_5 : List HOp := [⟨(some 25), false, .mv (.env 0), none⟩,
         ⟨(some 26), false, .bin .other .geq (.loc 25) (.val (.tr (.sc (.int .u8 65)))), none⟩,
         ⟨(some 27), false, .mv (.loc 26), none⟩,
         ⟨(some 28), false, .mv (.env 0), some ((.loc 27), true)⟩,
         ⟨(some 29), false, .bin .other .leq (.loc 28) (.val (.tr (.sc (.int .u8 70)))), some ((.loc 27), true)⟩,
         ⟨(some 30), false, .pick (.loc 27) (.loc 29) (.val (.tr (.sc (.bool false)))), none⟩,
         ⟨(some 24), false, .mv (.loc 30), none⟩]
@[simp] def r42_6 : List HOp := [⟨(some 31), false, .mv (.env 0), none⟩,
          ⟨(some 32), false, .bin .other .sub (.loc 31) (.val (.tr (.sc (.int .u8 65)))), none⟩,
          ⟨(some 33), false, .conv (.toInt .i64) (.loc 32), none⟩,
          ⟨(some 34), false, .bin .other .add (.loc 33) (.val (.tr (.sc (.int .i64 10)))), none⟩,
          ⟨(some 2), true, .mv (.loc 34), none⟩]
@[simp] def r42_7 : List HOp := [⟨(some 2), true, .mv (.val (.tr (.sc (.int .i64 (-1))))), none⟩]
@[simp] def k42_2 : HCode := .seq (.region r42_2 none) .ret
@[simp] def k42_5 : HCode := .seq (.region r42_4 none) .ret
@[simp] def k42_8 : HCode := .seq (.region r42_6 none) .ret
@[simp] def k42_7 : HCode := .cond (.loc 24) k42_8 .skip
@[simp] def k42_6 : HCode := .seq (.region r42_5 none) k42_7
@[simp] def k42_4 : HCode := .cond (.loc 13) k42_5 k42_6
@[simp] def k42_3 : HCode := .seq (.region r42_3 none) k42_4
@[simp] def k42_1 : HCode := .cond (.loc 3) k42_2 k42_3
def k42_9 : HCode := .seq (.region r42_7 none) .ret
@[simp] def k42_0 : HCode := .seq (.block 0 (.seq (.region r42_1 none) k42_1)) k42_9
@[simp] def fn42 : HFn := { nargs := 1, results := [.tmp 2], mode := .iso, code := (.seq (.region r42_0 none) k42_0) }
theorem c42 : cFn Tryd.prog (Hs 42) .iso 42 = some fn42 := by kernel_rfl
/- sterling/sterlingref5.exponent -/
@[simp] def r41_0 : List HOp := [⟨(some 8), true, .mv (.val (.tr (.sc (.int .i64 0)))), none⟩]
@[simp] def r41_1 : List HOp := [⟨(some 13), false, .mv (.env 0), none⟩,
      ⟨(some 14), false, .mv (.env 1), none⟩,
      ⟨(some 15), false, .callf 19 [(.loc 13), (.loc 14)], none⟩,
      ⟨(some 16), false, .mv (.env 2), none⟩,
      ⟨(some 17), false, .bin .other .neq (.loc 15) (.loc 16), none⟩,
      ⟨(some 18), false, .mv (.loc 17), none⟩,
      ⟨(some 19), false, .mv (.env 0), some ((.loc 18), true)⟩,
      ⟨(some 20), false, .mv (.env 1), some ((.loc 18), true)⟩,
      ⟨(some 21), false, .callf 19 [(.loc 19), (.loc 20)], some ((.loc 18), true)⟩,
      ⟨(some 22), false, .mv (.env 3), some ((.loc 18), true)⟩,
      ⟨(some 23), false, .bin .other .neq (.loc 21) (.loc 22), some ((.loc 18), true)⟩,
      ⟨(some 24), false, .pick (.loc 18) (.loc 23) (.val (.tr (.sc (.bool false)))), none⟩]
@[simp] def r41_2 : List HOp := [⟨(some 8), true, .mv (.val (.tr (.sc (.int .i64 0)))), none⟩]
@[simp] def r41_3 : List HOp := [⟨(some 25), false, .mv (.env 1), none⟩,
     ⟨(some 26), false, .bin .other .add (.loc 25) (.val (.tr (.sc (.int .i64 1)))), none⟩,
     ⟨(some 9), true, .mv (.loc 26), none⟩]
@[simp] def r41_4 : List HOp := [⟨(some 27), false, .mv (.env 0), none⟩,
      ⟨(some 28), false, .mv (.env 9), none⟩,
      ⟨(some 29), false, .callf 19 [(.loc 27), (.loc 28)], none⟩,
      ⟨(some 30), false, .bin .other .eql (.loc 29) (.val (.tr (.sc (.int .u8 43)))), none⟩,
      ⟨(some 31), false, .mv (.loc 30), none⟩,
      ⟨(some 32), false, .mv (.env 0), some ((.loc 31), false)⟩,
      ⟨(some 33), false, .mv (.env 9), some ((.loc 31), false)⟩,
      ⟨(some 34), false, .callf 19 [(.loc 32), (.loc 33)], some ((.loc 31), false)⟩,
      ⟨(some 35), false, .bin .other .eql (.loc 34) (.val (.tr (.sc (.int .u8 45)))), some ((.loc 31), false)⟩,
      ⟨(some 36), false, .pick (.loc 31) (.val (.tr (.sc (.bool true)))) (.loc 35), none⟩]
@[simp] def r41_5 : List HOp := [⟨(some 37), false, .mv (.env 9), none⟩,
      ⟨(some 38), false, .bin .other .add (.loc 37) (.val (.tr (.sc (.int .i64 1)))), none⟩,
      ⟨(some 9), true, .mv (.loc 38), none⟩]
@[simp] def r41_6 : List HOp := [⟨(some 39), false, .mv (.env 0), none⟩,
     ⟨(some 40), false, .mv (.env 9), none⟩,
     ⟨(some 41), false, .callf 40 [(.loc 39), (.loc 40), (.val (.tr (.sc (.int .i64 10))))], none⟩,
     ⟨(some 10), true, .mv (.loc 41), none⟩]
@[simp] def r41_7 : List HOp := [⟨(some 42), false, .mv (.env 10), none⟩,
      ⟨(some 43), false, .bin .other .eql (.loc 42) (.val (.tr (.sc (.int .i64 0)))), none⟩]
@[simp] def r41_8 : List HOp := [⟨(some 8), true, .mv (.val (.tr (.sc (.int .i64 (-1))))), none⟩]
@[simp] def r41_9 : List HOp := [⟨(some 11), true, .mv (.val (.tr (.sc (.int .i64 0)))), none⟩]
@[simp] def r41_10 : List HOp := [⟨(some 44), false, .mv (.env 9), none⟩,
      ⟨(some 12), true, .mv (.loc 44), none⟩]
@[simp] def r41_11 : List HOp := [⟨(some 45), false, .mv (.env 12), none⟩,
         ⟨(some 46), false, .mv (.env 9), none⟩,
         ⟨(some 47), false, .mv (.env 10), none⟩,
         ⟨(some 48), false, .bin .other .add (.loc 46) (.loc 47), none⟩,
         ⟨(some 49), false, .bin .other .lss (.loc 45) (.loc 48), none⟩]
@[simp] def r41_12 : List HOp := [⟨(some 52), false, .mv (.env 11), none⟩,
          ⟨(some 53), false, .bin .other .mul (.val (.tr (.sc (.int .i64 10)))) (.loc 52), none⟩,
          ⟨(some 54), false, .mv (.env 0), none⟩,
          ⟨(some 55), false, .mv (.env 12), none⟩,
          ⟨(some 56), false, .iaddr 1 (.loc 54) (.loc 55), none⟩,
          ⟨(some 57), false, .load 1 false (.loc 56), none⟩,
          ⟨(some 58), false, .bin .other .sub (.loc 57) (.val (.tr (.sc (.int .u8 48)))), none⟩,
          ⟨(some 59), false, .conv (.toInt .i64) (.loc 58), none⟩,
          ⟨(some 60), false, .bin .other .add (.loc 53) (.loc 59), none⟩,
          ⟨(some 11), true, .mv (.loc 60), none⟩]
@[simp] def r41_13 : List HOp := [⟨(some 61), false, .mv (.env 11), none⟩,
          ⟨(some 62), false, .bin .other .gtr (.loc 61) (.val (.tr (.sc (.int .i64 999)))), none⟩]
@[simp] def r41_14 : List HOp := [⟨(some 8), true, .mv (.val (.tr (.sc (.int .i64 (-1))))), none⟩]
@[simp] def r41_15 : List HOp := [⟨(some 50), false, .mv (.env 12), none⟩,
       ⟨(some 51), false, .bin .other .add (.loc 50) (.val (.tr (.sc (.int .i64 1)))), none⟩,
       ⟨(some 12), true, .mv (.loc 51), none⟩]
@[simp] def r41_16 : List HOp := [⟨(some 63), false, .mv (.env 9), none⟩,
     ⟨(some 64), false, .mv (.env 10), none⟩,
     ⟨(some 65), false, .bin .other .add (.loc 63) (.loc 64), none⟩,
     ⟨(some 66), false, .mv (.env 1), none⟩,
     ⟨(some 67), false, .bin .other .sub (.loc 65) (.loc 66), none⟩,
     ⟨(some 8), true, .mv (.loc 67), none⟩]
@[simp] def k41_2 : HCode := .seq (.region r41_2 none) .ret
@[simp] def k41_1 : HCode := .cond (.loc 24) k41_2 .skip
@[simp] def k41_5 : HCode := .cond (.loc 36) (.region r41_5 none) .skip
@[simp] def k41_9 : HCode := .seq (.region r41_8 none) .ret
@[simp] def k41_8 : HCode := .cond (.loc 43) k41_9 .skip
@[simp] def k41_14 : HCode := .cond (.loc 49) .skip (.exit 0)
@[simp] def k41_18 : HCode := .seq (.region r41_14 none) .ret
@[simp] def k41_17 : HCode := .cond (.loc 62) k41_18 .skip
@[simp] def k41_16 : HCode := .seq (.region r41_13 none) k41_17
def k41_19 : HCode := .region r41_15 none
def k41_15 : HCode := .seq (.block 1 (.seq (.region r41_12 none) k41_16)) k41_19
def k41_13 : HCode := .seq (.seq (.region r41_11 none) k41_14) k41_15
@[simp] def k41_12 : HCode := .block 0 (.loop k41_13)
def k41_20 : HCode := .seq (.region r41_16 none) .ret
@[simp] def k41_11 : HCode := .seq (.seq (.region r41_10 none) k41_12) k41_20
def k41_10 : HCode := .seq (.region r41_9 none) k41_11
@[simp] def k41_7 : HCode := .seq (.seq (.region r41_7 none) k41_8) k41_10
def k41_6 : HCode := .seq (.region r41_6 none) k41_7
@[simp] def k41_4 : HCode := .seq (.seq (.region r41_4 none) k41_5) k41_6
def k41_3 : HCode := .seq (.region r41_3 none) k41_4
@[simp] def k41_0 : HCode := .seq (.seq (.region r41_1 none) k41_1) k41_3
@[simp] def fn41 : HFn := { nargs := 4, results := [.tmp 8], mode := .iso, code := (.seq (.region r41_0 none) k41_0) }
theorem c41 : cFn Tryd.prog (Hs 41) .iso 41 = some fn41 := by kernel_rfl
/- sterling/sterlingref5.text -/
@[simp] def r24_0 : List HOp := [⟨(some 4), true, .mv (.val (.tr (.sc (.int .i64 0)))), none⟩,
     ⟨(some 5), true, .mv (.val (.tr (.sc (.slice none 0 0)))), none⟩]
@[simp] def r24_1 : List HOp := [⟨(some 6), true, .mv (.val (.tr (.sc (.slice none 0 0)))), none⟩]
@[simp] def r24_2 : List HOp := [⟨(some 14), false, .mv (.env 0), none⟩,
     ⟨(some 15), false, .mv (.env 1), none⟩,
     ⟨(some 16), false, .iaddr 1 (.loc 14) (.loc 15), none⟩,
     ⟨(some 17), false, .load 1 false (.loc 16), none⟩,
     ⟨(some 7), true, .mv (.loc 17), none⟩]
@[simp] def r24_3 : List HOp := [⟨(some 18), false, .mv (.env 1), none⟩,
      ⟨(some 19), false, .bin .other .add (.loc 18) (.val (.tr (.sc (.int .i64 1)))), none⟩,
      ⟨(some 8), true, .mv (.loc 19), none⟩]
@[simp] def r24_4 : List HOp := [⟨(some 20), false, .mv (.env 8), none⟩,
         ⟨(some 21), false, .mv (.env 0), none⟩,
         ⟨(some 22), false, .len 1 (.loc 21), none⟩,
         ⟨(some 23), false, .bin .other .lss (.loc 20) (.loc 22), none⟩]
@[simp] def r24_5 : List HOp := [⟨(some 24), false, .mv (.env 0), none⟩,
         ⟨(some 25), false, .mv (.env 8), none⟩,
         ⟨(some 26), false, .iaddr 1 (.loc 24) (.loc 25), none⟩,
         ⟨(some 27), false, .load 1 false (.loc 26), none⟩,
         ⟨(some 9), true, .mv (.loc 27), none⟩]
@[simp] def r24_6 : List HOp := [⟨(some 28), false, .mv (.env 9), none⟩,
          ⟨(some 29), false, .mv (.env 7), none⟩,
          ⟨(some 30), false, .bin .other .eql (.loc 28) (.loc 29), none⟩]
@[simp] def r24_7 : List HOp := [⟨(some 31), false, .mv (.env 8), none⟩,
           ⟨(some 32), false, .bin .other .add (.loc 31) (.val (.tr (.sc (.int .i64 1)))), none⟩,
           ⟨(some 33), false, .mv (.env 1), none⟩,
           ⟨(some 34), false, .bin .other .sub (.loc 32) (.loc 33), none⟩,
           ⟨(some 35), false, .mv (.env 6), none⟩,
           ⟨(some 4), true, .mv (.loc 34), none⟩,
           ⟨(some 5), true, .mv (.loc 35), none⟩]
@[simp] def r24_8 : List HOp := [⟨(some 36), false, .mv (.env 7), none⟩,
          ⟨(some 37), false, .bin .other .eql (.loc 36) (.val (.tr (.sc (.int .u8 34)))), none⟩,
          ⟨(some 38), false, .mv (.loc 37), none⟩,
          ⟨(some 39), false, .mv (.env 9), some ((.loc 38), true)⟩,
          ⟨(some 40), false, .bin .other .eql (.loc 39) (.val (.tr (.sc (.int .u8 10)))), some ((.loc 38), true)⟩,
          ⟨(some 41), false, .pick (.loc 38) (.loc 40) (.val (.tr (.sc (.bool false)))), none⟩]
@[simp] def r24_9 : List HOp := [⟨(some 4), true, .mv (.val (.tr (.sc (.int .i64 0)))), none⟩,
           ⟨(some 5), true, .mv (.val (.tr (.sc (.slice none 0 0)))), none⟩]
@[simp] def r24_10 : List HOp := [⟨(some 42), false, .mv (.env 7), none⟩,
          ⟨(some 43), false, .bin .other .eql (.loc 42) (.val (.tr (.sc (.int .u8 34)))), none⟩,
          ⟨(some 44), false, .mv (.loc 43), none⟩,
          ⟨(some 45), false, .mv (.env 9), some ((.loc 44), true)⟩,
          ⟨(some 46), false, .bin .other .eql (.loc 45) (.val (.tr (.sc (.int .u8 92)))), some ((.loc 44), true)⟩,
          ⟨(some 47), false, .pick (.loc 44) (.loc 46) (.val (.tr (.sc (.bool false)))), none⟩]
@[simp] def r24_11 : List HOp := [⟨(some 48), false, .mv (.env 0), none⟩,
            ⟨(some 49), false, .mv (.env 8), none⟩,
            ⟨(some 50), false, .bin .other .add (.loc 49) (.val (.tr (.sc (.int .i64 1)))), none⟩,
            ⟨(some 51), true, .callf 19 [(.loc 48), (.loc 50)], none⟩]
@[simp] def r24_12 : List HOp := [⟨(some 53), false, .bin .other .eql (.env 51) (.val (.tr (.sc (.int .u8 92)))), none⟩,
              ⟨(some 52), true, .mv (.loc 53), none⟩]
@[simp] def r24_13 : List HOp := [⟨(some 54), false, .bin .other .eql (.env 51) (.val (.tr (.sc (.int .u8 34)))), none⟩,
              ⟨(some 52), true, .mv (.loc 54), none⟩]
@[simp] def r24_14 : List HOp := [⟨(some 55), false, .mv (.env 6), none⟩,
              ⟨(some 56), false, .mv (.env 0), none⟩,
              ⟨(some 57), false, .mv (.env 8), none⟩,
              ⟨(some 58), false, .bin .other .add (.loc 57) (.val (.tr (.sc (.int .i64 1)))), none⟩,
              ⟨(some 59), false, .iaddr 1 (.loc 56) (.loc 58), none⟩,
              ⟨(some 60), false, .load 1 false (.loc 59), none⟩,
              ⟨(some 61), false, .bslice false 1 1 [(.sc (.int .u8 0))] [(0, 1, (.loc 60))], none⟩,
              ⟨(some 62), false, .append 1 1 (.loc 55) (.loc 61), none⟩,
              ⟨(some 6), true, .mv (.loc 62), none⟩]
@[simp] def r24_15 : List HOp := [⟨(some 63), false, .mv (.env 8), none⟩,
             ⟨(some 64), false, .bin .other .add (.loc 63) (.val (.tr (.sc (.int .i64 2)))), none⟩,
             ⟨(some 8), true, .mv (.loc 64), none⟩]
@[simp] def r24_16 : List HOp := [⟨(some 66), false, .bin .other .eql (.env 51) (.val (.tr (.sc (.int .u8 110)))), none⟩,
              ⟨(some 65), false, .mv (.loc 66), none⟩]
@[simp] def r24_17 : List HOp := [⟨(some 67), false, .mv (.env 6), none⟩,
               ⟨(some 68), false, .bslice false 1 1 [(.sc (.int .u8 0))] [(0, 1, (.val (.tr (.sc (.int .u8 10)))))], none⟩,
               ⟨(some 69), false, .append 1 1 (.loc 67) (.loc 68), none⟩,
               ⟨(some 6), true, .mv (.loc 69), none⟩]
@[simp] def r24_18 : List HOp := [⟨(some 70), false, .mv (.env 8), none⟩,
              ⟨(some 71), false, .bin .other .add (.loc 70) (.val (.tr (.sc (.int .i64 2)))), none⟩,
              ⟨(some 8), true, .mv (.loc 71), none⟩]
@[simp] def r24_19 : List HOp := [⟨(some 73), false, .bin .other .eql (.env 51) (.val (.tr (.sc (.int .u8 116)))), none⟩,
               ⟨(some 72), false, .mv (.loc 73), none⟩]
@[simp] def r24_20 : List HOp := [⟨(some 74), false, .mv (.env 6), none⟩,
                ⟨(some 75), false, .bslice false 1 1 [(.sc (.int .u8 0))] [(0, 1, (.val (.tr (.sc (.int .u8 9)))))], none⟩,
                ⟨(some 76), false, .append 1 1 (.loc 74) (.loc 75), none⟩,
                ⟨(some 6), true, .mv (.loc 76), none⟩]
@[simp] def r24_21 : List HOp := [⟨(some 77), false, .mv (.env 8), none⟩,
               ⟨(some 78), false, .bin .other .add (.loc 77) (.val (.tr (.sc (.int .i64 2)))), none⟩,
               ⟨(some 8), true, .mv (.loc 78), none⟩]
@[simp] def r24_22 : List HOp := [⟨(some 80), false, .bin .other .eql (.env 51) (.val (.tr (.sc (.int .u8 120)))), none⟩,
                 ⟨(some 79), true, .mv (.loc 80), none⟩]
@[simp] def r24_23 : List HOp := [⟨(some 81), false, .bin .other .eql (.env 51) (.val (.tr (.sc (.int .u8 117)))), none⟩,
                 ⟨(some 79), true, .mv (.loc 81), none⟩]
@[simp] def r24_24 : List HOp := [⟨(some 10), true, .mv (.val (.tr (.sc (.int .i64 2)))), none⟩]
@[simp] def r24_25 : List HOp := [⟨(some 82), false, .mv (.env 0), none⟩,
                  ⟨(some 83), false, .mv (.env 8), none⟩,
                  ⟨(some 84), false, .bin .other .add (.loc 83) (.val (.tr (.sc (.int .i64 1)))), none⟩,
                  ⟨(some 85), false, .iaddr 1 (.loc 82) (.loc 84), none⟩,
                  ⟨(some 86), false, .load 1 false (.loc 85), none⟩,
                  ⟨(some 87), false, .bin .other .eql (.loc 86) (.val (.tr (.sc (.int .u8 117)))), none⟩]
@[simp] def r24_26 : List HOp := [⟨(some 10), true, .mv (.val (.tr (.sc (.int .i64 4)))), none⟩]
@[simp] def r24_27 : List HOp := [⟨(some 88), false, .mv (.env 0), none⟩,
                  ⟨(some 89), false, .mv (.env 8), none⟩,
                  ⟨(some 90), false, .bin .other .add (.loc 89) (.val (.tr (.sc (.int .i64 2)))), none⟩,
                  ⟨(some 91), false, .callf 40 [(.loc 88), (.loc 90), (.val (.tr (.sc (.int .i64 16))))], none⟩,
                  ⟨(some 92), false, .mv (.env 10), none⟩,
                  ⟨(some 93), false, .bin .other .lss (.loc 91) (.loc 92), none⟩]
@[simp] def r24_28 : List HOp := [⟨(some 4), true, .mv (.val (.tr (.sc (.int .i64 0)))), none⟩,
                   ⟨(some 5), true, .mv (.val (.tr (.sc (.slice none 0 0)))), none⟩]
@[simp] def r24_29 : List HOp := [⟨(some 11), true, .mv (.val (.tr (.sc (.int .i64 0)))), none⟩]
@[simp] def r24_30 : List HOp := [⟨(some 12), true, .mv (.val (.tr (.sc (.int .i64 0)))), none⟩]
@[simp] def r24_31 : List HOp := [⟨(some 94), false, .mv (.env 12), none⟩,
                     ⟨(some 95), false, .mv (.env 10), none⟩,
                     ⟨(some 96), false, .bin .other .lss (.loc 94) (.loc 95), none⟩]
@[simp] def r24_32 : List HOp := [⟨(some 99), false, .mv (.env 11), none⟩,
                     ⟨(some 100), false, .bin .other .mul (.val (.tr (.sc (.int .i64 16)))) (.loc 99), none⟩,
                     ⟨(some 101), false, .mv (.env 0), none⟩,
                     ⟨(some 102), false, .mv (.env 8), none⟩,
                     ⟨(some 103), false, .bin .other .add (.loc 102) (.val (.tr (.sc (.int .i64 2)))), none⟩,
                     ⟨(some 104), false, .mv (.env 12), none⟩,
                     ⟨(some 105), false, .bin .other .add (.loc 103) (.loc 104), none⟩,
                     ⟨(some 106), false, .iaddr 1 (.loc 101) (.loc 105), none⟩,
                     ⟨(some 107), false, .load 1 false (.loc 106), none⟩,
                     ⟨(some 108), false, .callf 42 [(.loc 107)], none⟩,
                     ⟨(some 109), false, .bin .other .add (.loc 100) (.loc 108), none⟩,
                     ⟨(some 11), true, .mv (.loc 109), none⟩]
@[simp] def r24_33 : List HOp := [⟨(some 97), false, .mv (.env 12), none⟩,
                   ⟨(some 98), false, .bin .other .add (.loc 97) (.val (.tr (.sc (.int .i64 1)))), none⟩,
                   ⟨(some 12), true, .mv (.loc 98), none⟩]
@[simp] def r24_34 : List HOp := [⟨(some 110), false, .mv (.env 10), none⟩,
                  ⟨(some 111), false, .bin .other .eql (.loc 110) (.val (.tr (.sc (.int .i64 2)))), none⟩]
@[simp] def r24_35 : List HOp := [⟨(some 112), false, .mv (.env 6), none⟩,
                  ⟨(some 113), false, .mv (.env 11), none⟩,
                  ⟨(some 114), false, .conv (.toInt .u8) (.loc 113), none⟩,
                  ⟨(some 115), false, .bslice false 1 1 [(.sc (.int .u8 0))] [(0, 1, (.loc 114))], none⟩,
                  ⟨(some 116), false, .append 1 1 (.loc 112) (.loc 115), none⟩,
                  ⟨(some 6), true, .mv (.loc 116), none⟩]
@[simp] def r24_36 : List HOp := [⟨(some 117), false, .mv (.env 11), none⟩,
                   ⟨(some 118), false, .bin .other .geq (.loc 117) (.val (.tr (.sc (.int .i64 55296)))), none⟩,
                   ⟨(some 119), false, .mv (.loc 118), none⟩,
                   ⟨(some 120), false, .mv (.env 11), some ((.loc 119), true)⟩,
                   ⟨(some 121), false, .bin .other .lss (.loc 120) (.val (.tr (.sc (.int .i64 57344)))), some ((.loc 119), true)⟩,
                   ⟨(some 122), false, .pick (.loc 119) (.loc 121) (.val (.tr (.sc (.bool false)))), none⟩]
@[simp] def r24_37 : List HOp := [⟨(some 4), true, .mv (.val (.tr (.sc (.int .i64 0)))), none⟩,
                    ⟨(some 5), true, .mv (.val (.tr (.sc (.slice none 0 0)))), none⟩]
@[simp] def r24_38 : List HOp := [⟨(some 123), false, .mv (.env 6), none⟩,
                   ⟨(some 124), false, .mv (.env 11), none⟩,
                   ⟨(some 125), false, .callf 43 [(.loc 124)], none⟩,
                   ⟨(some 126), false, .append 1 1 (.loc 123) (.loc 125), none⟩,
                   ⟨(some 6), true, .mv (.loc 126), none⟩]
@[simp] def r24_39 : List HOp := [⟨(some 127), false, .mv (.env 8), none⟩,
                ⟨(some 128), false, .mv (.env 10), none⟩,
                ⟨(some 129), false, .bin .other .add (.val (.tr (.sc (.int .i64 2)))) (.loc 128), none⟩,
                ⟨(some 130), false, .bin .other .add (.loc 127) (.loc 129), none⟩,
                ⟨(some 8), true, .mv (.loc 130), none⟩]
@[simp] def r24_40 : List HOp := [⟨(some 4), true, .mv (.val (.tr (.sc (.int .i64 0)))), none⟩,
                 ⟨(some 5), true, .mv (.val (.tr (.sc (.slice none 0 0)))), none⟩]
@[simp] def r24_41 : List HOp := [⟨(some 131), false, .mv (.env 0), none⟩,
         ⟨(some 132), false, .mv (.env 8), none⟩,
         ⟨(some 133), false, .callf 44 [(.loc 131), (.loc 132)], none⟩,
         ⟨(some 13), true, .mv (.loc 133), none⟩]
@[simp] def r24_42 : List HOp := [⟨(some 134), false, .mv (.env 13), none⟩,
          ⟨(some 135), false, .bin .other .eql (.loc 134) (.val (.tr (.sc (.int .i64 0)))), none⟩]
@[simp] def r24_43 : List HOp := [⟨(some 4), true, .mv (.val (.tr (.sc (.int .i64 0)))), none⟩,
           ⟨(some 5), true, .mv (.val (.tr (.sc (.slice none 0 0)))), none⟩]
@[simp] def r24_44 : List HOp := [⟨(some 136), false, .mv (.env 7), none⟩,
          ⟨(some 137), false, .bin .other .neq (.loc 136) (.val (.tr (.sc (.int .u8 96)))), none⟩,
          ⟨(some 138), false, .mv (.loc 137), none⟩,
          ⟨(some 139), false, .mv (.env 9), some ((.loc 138), false)⟩,
          ⟨(some 140), false, .bin .other .neq (.loc 139) (.val (.tr (.sc (.int .u8 13)))), some ((.loc 138), false)⟩,
          ⟨(some 141), false, .pick (.loc 138) (.val (.tr (.sc (.bool true)))) (.loc 140), none⟩]
@[simp] def r24_45 : List HOp := [⟨(some 142), false, .mv (.env 6), none⟩,
          ⟨(some 143), false, .mv (.env 0), none⟩,
          ⟨(some 144), false, .mv (.env 8), none⟩,
          ⟨(some 145), false, .mv (.env 8), none⟩,
          ⟨(some 146), false, .mv (.env 13), none⟩,
          ⟨(some 147), false, .bin .other .add (.loc 145) (.loc 146), none⟩,
          ⟨(some 148), false, .slice 1 (.loc 143) (some (.loc 144)) (some (.loc 147)) none, none⟩,
          ⟨(some 149), false, .append 1 1 (.loc 142) (.loc 148), none⟩,
          ⟨(some 6), true, .mv (.loc 149), none⟩]
@[simp] def r24_46 : List HOp := [⟨(some 150), false, .mv (.env 8), none⟩,
        ⟨(some 151), false, .mv (.env 13), none⟩,
        ⟨(some 152), false, .bin .other .add (.loc 150) (.loc 151), none⟩,
        ⟨(some 8), true, .mv (.loc 152), none⟩]
@[simp] def r24_47 : List HOp := [⟨(some 4), true, .mv (.val (.tr (.sc (.int .i64 0)))), none⟩,
     ⟨(some 5), true, .mv (.val (.tr (.sc (.slice none 0 0)))), none⟩]
@[simp] def k24_5 : HCode := .cond (.loc 23) .skip (.exit 0)
@[simp] def k24_9 : HCode := .seq (.region r24_7 none) .ret
@[simp] def k24_8 : HCode := .cond (.loc 30) k24_9 .skip
@[simp] def k24_12 : HCode := .seq (.region r24_9 none) .ret
@[simp] def k24_11 : HCode := .cond (.loc 41) k24_12 .skip
@[simp] def k24_17 : HCode := .cond (.env 52) .skip (.region r24_13 none)
@[simp] def k24_19 : HCode := .seq (.region r24_14 none) (.region r24_15 none)
@[simp] def k24_22 : HCode := .seq (.region r24_17 none) (.region r24_18 none)
@[simp] def k24_25 : HCode := .seq (.region r24_20 none) (.region r24_21 none)
@[simp] def k24_27 : HCode := .cond (.env 79) .skip (.region r24_23 none)
@[simp] def k24_31 : HCode := .cond (.loc 87) (.region r24_26 none) .skip
@[simp] def k24_34 : HCode := .seq (.region r24_28 none) .ret
@[simp] def k24_33 : HCode := .cond (.loc 93) k24_34 .skip
@[simp] def k24_39 : HCode := .cond (.loc 96) .skip (.exit 3)
def k24_40 : HCode := .seq (.block 4 (.region r24_32 none)) (.region r24_33 none)
def k24_38 : HCode := .seq (.seq (.region r24_31 none) k24_39) k24_40
@[simp] def k24_37 : HCode := .block 3 (.loop k24_38)
@[simp] def k24_45 : HCode := .seq (.region r24_37 none) .ret
@[simp] def k24_44 : HCode := .cond (.loc 122) k24_45 (.region r24_38 none)
@[simp] def k24_43 : HCode := .seq (.region r24_36 none) k24_44
@[simp] def k24_42 : HCode := .cond (.loc 111) (.region r24_35 none) k24_43
def k24_46 : HCode := .region r24_39 none
def k24_41 : HCode := .seq (.seq (.region r24_34 none) k24_42) k24_46
@[simp] def k24_36 : HCode := .seq (.seq (.region r24_30 none) k24_37) k24_41
def k24_35 : HCode := .seq (.region r24_29 none) k24_36
def k24_32 : HCode := .seq (.seq (.region r24_27 none) k24_33) k24_35
@[simp] def k24_30 : HCode := .seq (.seq (.region r24_25 none) k24_31) k24_32
@[simp] def k24_29 : HCode := .seq (.region r24_24 none) k24_30
@[simp] def k24_47 : HCode := .seq (.region r24_40 none) .ret
def k24_28 : HCode := .cond (.env 79) k24_29 k24_47
@[simp] def k24_26 : HCode := .seq (.seq (.region r24_22 none) k24_27) k24_28
@[simp] def k24_24 : HCode := .cond (.loc 72) k24_25 k24_26
@[simp] def k24_23 : HCode := .seq (.region r24_19 none) k24_24
@[simp] def k24_21 : HCode := .cond (.loc 65) k24_22 k24_23
@[simp] def k24_20 : HCode := .seq (.region r24_16 none) k24_21
def k24_18 : HCode := .cond (.env 52) k24_19 k24_20
@[simp] def k24_16 : HCode := .block 2 (.seq (.seq (.region r24_12 none) k24_17) k24_18)
@[simp] def k24_15 : HCode := .seq (.seq (.region r24_11 none) k24_16) (.exit 1)
@[simp] def k24_14 : HCode := .cond (.loc 47) k24_15 .skip
@[simp] def k24_51 : HCode := .seq (.region r24_43 none) .ret
@[simp] def k24_50 : HCode := .cond (.loc 135) k24_51 .skip
@[simp] def k24_53 : HCode := .cond (.loc 141) (.region r24_45 none) .skip
def k24_54 : HCode := .region r24_46 none
def k24_52 : HCode := .seq (.seq (.region r24_44 none) k24_53) k24_54
@[simp] def k24_49 : HCode := .seq (.seq (.region r24_42 none) k24_50) k24_52
def k24_48 : HCode := .seq (.region r24_41 none) k24_49
def k24_13 : HCode := .seq (.seq (.region r24_10 none) k24_14) k24_48
def k24_10 : HCode := .seq (.seq (.region r24_8 none) k24_11) k24_13
@[simp] def k24_7 : HCode := .seq (.seq (.region r24_6 none) k24_8) k24_10
def k24_6 : HCode := .block 1 (.seq (.region r24_5 none) k24_7)
def k24_4 : HCode := .seq (.seq (.region r24_4 none) k24_5) k24_6
@[simp] def k24_3 : HCode := .block 0 (.loop k24_4)
def k24_55 : HCode := .seq (.region r24_47 none) .ret
@[simp] def k24_2 : HCode := .seq (.seq (.region r24_3 none) k24_3) k24_55
@[simp] def k24_1 : HCode := .seq (.region r24_2 none) k24_2
@[simp] def k24_0 : HCode := .seq (.region r24_1 none) k24_1
@[simp] def fn24 : HFn := { nargs := 2, results := [.tmp 4, .tmp 5], mode := .iso, code := (.seq (.region r24_0 none) k24_0) }
theorem c24 : cFn Tryd.prog (Hs 24) .iso 24 = some fn24 := by kernel_rfl
/- sterling/sterlingref5.rune8 -/
@[simp] def r43_0 : List HOp := [⟨(some 2), true, .mv (.val (.tr (.sc (.slice none 0 0)))), none⟩]
@[simp] def r43_1 : List HOp := [⟨(some 4), false, .mv (.env 0), none⟩,
       ⟨(some 5), false, .bin .other .lss (.loc 4) (.val (.tr (.sc (.int .i64 128)))), none⟩,
       ⟨(some 3), false, .mv (.loc 5), none⟩]
@[simp] def r43_2 : List HOp := [⟨(some 6), false, .mv (.env 0), none⟩,
        ⟨(some 7), false, .conv (.toInt .u8) (.loc 6), none⟩,
        ⟨(some 8), false, .bslice false 1 1 [(.sc (.int .u8 0))] [(0, 1, (.loc 7))], none⟩,
        ⟨(some 2), true, .mv (.loc 8), none⟩]
@[simp] def r43_3 : List HOp := [⟨(some 10), false, .mv (.env 0), none⟩,
        ⟨(some 11), false, .bin .other .lss (.loc 10) (.val (.tr (.sc (.int .i64 2048)))), none⟩,
        ⟨(some 9), false, .mv (.loc 11), none⟩]
@[simp] def r43_4 : List HOp := [⟨(some 12), false, .mv (.env 0), none⟩,
         ⟨(some 13), false, .bin .other .quo (.loc 12) (.val (.tr (.sc (.int .i64 64)))), none⟩,
         ⟨(some 14), false, .bin .other .add (.val (.tr (.sc (.int .i64 192)))) (.loc 13), none⟩,
         ⟨(some 15), false, .conv (.toInt .u8) (.loc 14), none⟩,
         ⟨(some 16), false, .mv (.env 0), none⟩,
         ⟨(some 17), false, .bin .other .rem (.loc 16) (.val (.tr (.sc (.int .i64 64)))), none⟩,
         ⟨(some 18), false, .bin .other .add (.val (.tr (.sc (.int .i64 128)))) (.loc 17), none⟩,
         ⟨(some 19), false, .conv (.toInt .u8) (.loc 18), none⟩,
         ⟨(some 20), false, .bslice false 2 1 [(.sc (.int .u8 0))] [(0, 1, (.loc 15)), (1, 1, (.loc 19))], none⟩,
         ⟨(some 2), true, .mv (.loc 20), none⟩]
@[simp] def r43_5 : List HOp := [⟨(some 21), false, .mv (.env 0), none⟩,
     ⟨(some 22), false, .bin .other .quo (.loc 21) (.val (.tr (.sc (.int .i64 4096)))), none⟩,
     ⟨(some 23), false, .bin .other .add (.val (.tr (.sc (.int .i64 224)))) (.loc 22), none⟩,
     ⟨(some 24), false, .conv (.toInt .u8) (.loc 23), none⟩,
     ⟨(some 25), false, .mv (.env 0), none⟩,
     ⟨(some 26), false, .bin .other .quo (.loc 25) (.val (.tr (.sc (.int .i64 64)))), none⟩,
     ⟨(some 27), false, .bin .other .rem (.loc 26) (.val (.tr (.sc (.int .i64 64)))), none⟩,
     ⟨(some 28), false, .bin .other .add (.val (.tr (.sc (.int .i64 128)))) (.loc 27), none⟩,
     ⟨(some 29), false, .conv (.toInt .u8) (.loc 28), none⟩,
     ⟨(some 30), false, .mv (.env 0), none⟩,
     ⟨(some 31), false, .bin .other .rem (.loc 30) (.val (.tr (.sc (.int .i64 64)))), none⟩,
     ⟨(some 32), false, .bin .other .add (.val (.tr (.sc (.int .i64 128)))) (.loc 31), none⟩,
     ⟨(some 33), false, .conv (.toInt .u8) (.loc 32), none⟩,
     ⟨(some 34), false, .bslice false 3 1 [(.sc (.int .u8 0))] [(0, 1, (.loc 24)), (1, 1, (.loc 29)), (2, 1, (.loc 33))], none⟩,
     ⟨(some 2), true, .mv (.loc 34), none⟩]
@[simp] def k43_2 : HCode := .seq (.region r43_2 none) .ret
@[simp] def k43_5 : HCode := .seq (.region r43_4 none) .ret
@[simp] def k43_4 : HCode := .cond (.loc 9) k43_5 .skip
@[simp] def k43_3 : HCode := .seq (.region r43_3 none) k43_4
@[simp] def k43_1 : HCode := .cond (.loc 3) k43_2 k43_3
def k43_6 : HCode := .seq (.region r43_5 none) .ret
@[simp] def k43_0 : HCode := .seq (.block 0 (.seq (.region r43_1 none) k43_1)) k43_6
@[simp] def fn43 : HFn := { nargs := 1, results := [.tmp 2], mode := .iso, code := (.seq (.region r43_0 none) k43_0) }
theorem c43 : cFn Tryd.prog (Hs 43) .iso 43 = some fn43 := by kernel_rfl
/- sterling/sterlingref5.utf -/
@[simp] def r44_0 : List HOp := [⟨(some 4), true, .mv (.val (.tr (.sc (.int .i64 0)))), none⟩]
@[simp] def r44_1 : List HOp := [⟨(some 10), false, .mv (.env 0), none⟩,
     ⟨(some 11), false, .mv (.env 1), none⟩,
     ⟨(some 12), false, .iaddr 1 (.loc 10) (.loc 11), none⟩,
     ⟨(some 13), false, .load 1 false (.loc 12), none⟩,
     ⟨(some 5), true, .mv (.loc 13), none⟩]
@[simp] def r44_2 : List HOp := [⟨(some 6), true, .mv (.val (.tr (.sc (.int .i64 0)))), none⟩,
     ⟨(some 7), true, .mv (.val (.tr (.sc (.int .i64 0)))), none⟩,
     ⟨(some 8), true, .mv (.val (.tr (.sc (.int .i64 0)))), none⟩]
@[simp] def r44_3 : List HOp := [⟨(some 15), false, .mv (.env 5), none⟩,
       ⟨(some 16), false, .bin .other .lss (.loc 15) (.val (.tr (.sc (.int .u8 128)))), none⟩,
       ⟨(some 14), false, .mv (.loc 16), none⟩]
@[simp] def r44_4 : List HOp := [⟨(some 4), true, .mv (.val (.tr (.sc (.int .i64 1)))), none⟩]
@[simp] def r44_5 : List HOp := [⟨(some 18), false, .mv (.env 5), none⟩,
        ⟨(some 19), false, .bin .other .geq (.loc 18) (.val (.tr (.sc (.int .u8 194)))), none⟩,
        ⟨(some 20), false, .mv (.loc 19), none⟩,
        ⟨(some 21), false, .mv (.env 5), some ((.loc 20), true)⟩,
        ⟨(some 22), false, .bin .other .lss (.loc 21) (.val (.tr (.sc (.int .u8 224)))), some ((.loc 20), true)⟩,
        ⟨(some 23), false, .pick (.loc 20) (.loc 22) (.val (.tr (.sc (.bool false)))), none⟩,
        ⟨(some 17), false, .mv (.loc 23), none⟩]
@[simp] def r44_6 : List HOp := [⟨(some 24), false, .mv (.env 5), none⟩,
        ⟨(some 25), false, .bin .other .rem (.loc 24) (.val (.tr (.sc (.int .u8 32)))), none⟩,
        ⟨(some 26), false, .conv (.toInt .i64) (.loc 25), none⟩,
        ⟨(some 6), true, .mv (.val (.tr (.sc (.int .i64 2)))), none⟩,
        ⟨(some 7), true, .mv (.loc 26), none⟩,
        ⟨(some 8), true, .mv (.val (.tr (.sc (.int .i64 128)))), none⟩]
@[simp] def r44_7 : List HOp := [⟨(some 28), false, .mv (.env 5), none⟩,
         ⟨(some 29), false, .bin .other .geq (.loc 28) (.val (.tr (.sc (.int .u8 224)))), none⟩,
         ⟨(some 30), false, .mv (.loc 29), none⟩,
         ⟨(some 31), false, .mv (.env 5), some ((.loc 30), true)⟩,
         ⟨(some 32), false, .bin .other .lss (.loc 31) (.val (.tr (.sc (.int .u8 240)))), some ((.loc 30), true)⟩,
         ⟨(some 33), false, .pick (.loc 30) (.loc 32) (.val (.tr (.sc (.bool false)))), none⟩,
         ⟨(some 27), false, .mv (.loc 33), none⟩]
@[simp] def r44_8 : List HOp := [⟨(some 34), false, .mv (.env 5), none⟩,
         ⟨(some 35), false, .bin .other .rem (.loc 34) (.val (.tr (.sc (.int .u8 16)))), none⟩,
         ⟨(some 36), false, .conv (.toInt .i64) (.loc 35), none⟩,
         ⟨(some 6), true, .mv (.val (.tr (.sc (.int .i64 3)))), none⟩,
         ⟨(some 7), true, .mv (.loc 36), none⟩,
         ⟨(some 8), true, .mv (.val (.tr (.sc (.int .i64 2048)))), none⟩]
@[simp] def r44_9 : List HOp := [⟨(some 38), false, .mv (.env 5), none⟩,
          ⟨(some 39), false, .bin .other .geq (.loc 38) (.val (.tr (.sc (.int .u8 240)))), none⟩,
          ⟨(some 40), false, .mv (.loc 39), none⟩,
          ⟨(some 41), false, .mv (.env 5), some ((.loc 40), true)⟩,
          ⟨(some 42), false, .bin .other .lss (.loc 41) (.val (.tr (.sc (.int .u8 245)))), some ((.loc 40), true)⟩,
          ⟨(some 43), false, .pick (.loc 40) (.loc 42) (.val (.tr (.sc (.bool false)))), none⟩,
          ⟨(some 37), false, .mv (.loc 43), none⟩]
@[simp] def r44_10 : List HOp := [⟨(some 44), false, .mv (.env 5), none⟩,
          ⟨(some 45), false, .bin .other .rem (.loc 44) (.val (.tr (.sc (.int .u8 8)))), none⟩,
          ⟨(some 46), false, .conv (.toInt .i64) (.loc 45), none⟩,
          ⟨(some 6), true, .mv (.val (.tr (.sc (.int .i64 4)))), none⟩,
          ⟨(some 7), true, .mv (.loc 46), none⟩,
          ⟨(some 8), true, .mv (.val (.tr (.sc (.int .i64 65536)))), none⟩]
@[simp] def r44_11 : List HOp := [⟨(some 4), true, .mv (.val (.tr (.sc (.int .i64 0)))), none⟩]
@[simp] def r44_12 : List HOp := [⟨(some 47), false, .mv (.env 1), none⟩,
      ⟨(some 48), false, .mv (.env 6), none⟩,
      ⟨(some 49), false, .bin .other .add (.loc 47) (.loc 48), none⟩,
      ⟨(some 50), false, .mv (.env 0), none⟩,
      ⟨(some 51), false, .len 1 (.loc 50), none⟩,
      ⟨(some 52), false, .bin .other .gtr (.loc 49) (.loc 51), none⟩]
@[simp] def r44_13 : List HOp := [⟨(some 4), true, .mv (.val (.tr (.sc (.int .i64 0)))), none⟩]
@[simp] def r44_14 : List HOp := [⟨(some 9), true, .mv (.val (.tr (.sc (.int .i64 1)))), none⟩]
@[simp] def r44_15 : List HOp := [⟨(some 53), false, .mv (.env 9), none⟩,
         ⟨(some 54), false, .mv (.env 6), none⟩,
         ⟨(some 55), false, .bin .other .lss (.loc 53) (.loc 54), none⟩]
@[simp] def r44_16 : List HOp := [⟨(some 58), false, .mv (.env 0), none⟩,
           ⟨(some 59), false, .mv (.env 1), none⟩,
           ⟨(some 60), false, .mv (.env 9), none⟩,
           ⟨(some 61), false, .bin .other .add (.loc 59) (.loc 60), none⟩,
           ⟨(some 62), false, .iaddr 1 (.loc 58) (.loc 61), none⟩,
           ⟨(some 63), false, .load 1 false (.loc 62), none⟩,
           ⟨(some 64), false, .bin .other .quo (.loc 63) (.val (.tr (.sc (.int .u8 64)))), none⟩,
           ⟨(some 65), false, .bin .other .neq (.loc 64) (.val (.tr (.sc (.int .u8 2)))), none⟩]
@[simp] def r44_17 : List HOp := [⟨(some 4), true, .mv (.val (.tr (.sc (.int .i64 0)))), none⟩]
@[simp] def r44_18 : List HOp := [⟨(some 66), false, .mv (.env 7), none⟩,
         ⟨(some 67), false, .bin .other .mul (.loc 66) (.val (.tr (.sc (.int .i64 64)))), none⟩,
         ⟨(some 68), false, .mv (.env 0), none⟩,
         ⟨(some 69), false, .mv (.env 1), none⟩,
         ⟨(some 70), false, .mv (.env 9), none⟩,
         ⟨(some 71), false, .bin .other .add (.loc 69) (.loc 70), none⟩,
         ⟨(some 72), false, .iaddr 1 (.loc 68) (.loc 71), none⟩,
         ⟨(some 73), false, .load 1 false (.loc 72), none⟩,
         ⟨(some 74), false, .bin .other .rem (.loc 73) (.val (.tr (.sc (.int .u8 64)))), none⟩,
         ⟨(some 75), false, .conv (.toInt .i64) (.loc 74), none⟩,
         ⟨(some 76), false, .bin .other .add (.loc 67) (.loc 75), none⟩,
         ⟨(some 7), true, .mv (.loc 76), none⟩]
@[simp] def r44_19 : List HOp := [⟨(some 56), false, .mv (.env 9), none⟩,
       ⟨(some 57), false, .bin .other .add (.loc 56) (.val (.tr (.sc (.int .i64 1)))), none⟩,
       ⟨(some 9), true, .mv (.loc 57), none⟩]
@[simp] def r44_20 : List HOp := [⟨(some 77), false, .mv (.env 7), none⟩,
      ⟨(some 78), false, .mv (.env 8), none⟩,
      ⟨(some 79), false, .bin .other .lss (.loc 77) (.loc 78), none⟩,
      ⟨(some 80), false, .mv (.loc 79), none⟩,
      ⟨(some 81), false, .mv (.env 7), some ((.loc 80), false)⟩,
      ⟨(some 82), false, .bin .other .gtr (.loc 81) (.val (.tr (.sc (.int .i64 1114111)))), some ((.loc 80), false)⟩,
      ⟨(some 83), false, .pick (.loc 80) (.val (.tr (.sc (.bool true)))) (.loc 82), none⟩,
      ⟨(some 84), false, .mv (.loc 83), none⟩,
      ⟨(some 85), false, .mv (.env 7), some ((.loc 84), false)⟩,
      ⟨(some 86), false, .bin .other .geq (.loc 85) (.val (.tr (.sc (.int .i64 55296)))), some ((.loc 84), false)⟩,
      ⟨(some 87), false, .mv (.loc 86), some ((.loc 84), false)⟩,
      ⟨(some 88), false, .mv (.env 7), some ((.loc 87), true)⟩,
      ⟨(some 89), false, .bin .other .lss (.loc 88) (.val (.tr (.sc (.int .i64 57344)))), some ((.loc 87), true)⟩,
      ⟨(some 90), false, .pick (.loc 87) (.loc 89) (.val (.tr (.sc (.bool false)))), some ((.loc 84), false)⟩,
      ⟨(some 91), false, .pick (.loc 84) (.val (.tr (.sc (.bool true)))) (.loc 90), none⟩]
@[simp] def r44_21 : List HOp := [⟨(some 4), true, .mv (.val (.tr (.sc (.int .i64 0)))), none⟩]
@[simp] def r44_22 : List HOp := [⟨(some 92), false, .mv (.env 6), none⟩,
     ⟨(some 4), true, .mv (.loc 92), none⟩]
@[simp] def k44_4 : HCode := .seq (.region r44_4 none) .ret
@[simp] def k44_11 : HCode := .seq (.region r44_11 none) .ret
@[simp] def k44_10 : HCode := .cond (.loc 37) (.region r44_10 none) k44_11
@[simp] def k44_9 : HCode := .seq (.region r44_9 none) k44_10
@[simp] def k44_8 : HCode := .cond (.loc 27) (.region r44_8 none) k44_9
@[simp] def k44_7 : HCode := .seq (.region r44_7 none) k44_8
@[simp] def k44_6 : HCode := .cond (.loc 17) (.region r44_6 none) k44_7
@[simp] def k44_5 : HCode := .seq (.region r44_5 none) k44_6
@[simp] def k44_3 : HCode := .cond (.loc 14) k44_4 k44_5
@[simp] def k44_14 : HCode := .seq (.region r44_13 none) .ret
@[simp] def k44_13 : HCode := .cond (.loc 52) k44_14 .skip
@[simp] def k44_18 : HCode := .cond (.loc 55) .skip (.exit 1)
@[simp] def k44_21 : HCode := .seq (.region r44_17 none) .ret
@[simp] def k44_20 : HCode := .cond (.loc 65) k44_21 .skip
def k44_22 : HCode := .region r44_18 none
def k44_23 : HCode := .region r44_19 none
def k44_19 : HCode := .seq (.block 2 (.seq (.seq (.region r44_16 none) k44_20) k44_22)) k44_23
def k44_17 : HCode := .seq (.seq (.region r44_15 none) k44_18) k44_19
@[simp] def k44_16 : HCode := .block 1 (.loop k44_17)
@[simp] def k44_26 : HCode := .seq (.region r44_21 none) .ret
@[simp] def k44_25 : HCode := .cond (.loc 91) k44_26 .skip
def k44_27 : HCode := .seq (.region r44_22 none) .ret
def k44_24 : HCode := .seq (.seq (.region r44_20 none) k44_25) k44_27
def k44_15 : HCode := .seq (.seq (.region r44_14 none) k44_16) k44_24
def k44_12 : HCode := .seq (.seq (.region r44_12 none) k44_13) k44_15
@[simp] def k44_2 : HCode := .seq (.block 0 (.seq (.region r44_3 none) k44_3)) k44_12
@[simp] def k44_1 : HCode := .seq (.region r44_2 none) k44_2
@[simp] def k44_0 : HCode := .seq (.region r44_1 none) k44_1
@[simp] def fn44 : HFn := { nargs := 2, results := [.tmp 4], mode := .iso, code := (.seq (.region r44_0 none) k44_0) }
theorem c44 : cFn Tryd.prog (Hs 44) .iso 44 = some fn44 := by kernel_rfl
/- sterling/sterlingref5.op -/
@[simp] def r25_0 : List HOp := [⟨(some 4), true, .mv (.val (.tr (.sc (.int .i64 0)))), none⟩]
@[simp] def r25_1 : List HOp := [⟨(some 7), false, .bslice false 41 1 [(.sc (.string ⟨⟨[]⟩⟩))] [(0, 1, (.val (.tr (.sc (.string ⟨⟨[38, 94, 61]⟩⟩))))), (1, 1, (.val (.tr (.sc (.string ⟨⟨[38, 94]⟩⟩))))), (2, 1, (.val (.tr (.sc (.string ⟨⟨[38, 38]⟩⟩))))), (3, 1, (.val (.tr (.sc (.string ⟨⟨[38, 61]⟩⟩))))), (4, 1, (.val (.tr (.sc (.string ⟨⟨[43, 61]⟩⟩))))), (5, 1, (.val (.tr (.sc (.string ⟨⟨[45, 61]⟩⟩))))), (6, 1, (.val (.tr (.sc (.string ⟨⟨[42, 61]⟩⟩))))), (7, 1, (.val (.tr (.sc (.string ⟨⟨[47, 61]⟩⟩))))), (8, 1, (.val (.tr (.sc (.string ⟨⟨[37, 61]⟩⟩))))), (9, 1, (.val (.tr (.sc (.string ⟨⟨[124, 61]⟩⟩))))), (10, 1, (.val (.tr (.sc (.string ⟨⟨[94, 61]⟩⟩))))), (11, 1, (.val (.tr (.sc (.string ⟨⟨[124, 124]⟩⟩))))), (12, 1, (.val (.tr (.sc (.string ⟨⟨[61, 61]⟩⟩))))), (13, 1, (.val (.tr (.sc (.string ⟨⟨[33, 61]⟩⟩))))), (14, 1, (.val (.tr (.sc (.string ⟨⟨[60, 61]⟩⟩))))), (15, 1, (.val (.tr (.sc (.string ⟨⟨[62, 61]⟩⟩))))), (16, 1, (.val (.tr (.sc (.string ⟨⟨[58, 61]⟩⟩))))), (17, 1, (.val (.tr (.sc (.string ⟨⟨[43, 43]⟩⟩))))), (18, 1, (.val (.tr (.sc (.string ⟨⟨[45, 45]⟩⟩))))), (19, 1, (.val (.tr (.sc (.string ⟨⟨[43]⟩⟩))))), (20, 1, (.val (.tr (.sc (.string ⟨⟨[45]⟩⟩))))), (21, 1, (.val (.tr (.sc (.string ⟨⟨[42]⟩⟩))))), (22, 1, (.val (.tr (.sc (.string ⟨⟨[47]⟩⟩))))), (23, 1, (.val (.tr (.sc (.string ⟨⟨[37]⟩⟩))))), (24, 1, (.val (.tr (.sc (.string ⟨⟨[38]⟩⟩))))), (25, 1, (.val (.tr (.sc (.string ⟨⟨[124]⟩⟩))))), (26, 1, (.val (.tr (.sc (.string ⟨⟨[94]⟩⟩))))), (27, 1, (.val (.tr (.sc (.string ⟨⟨[60]⟩⟩))))), (28, 1, (.val (.tr (.sc (.string ⟨⟨[62]⟩⟩))))), (29, 1, (.val (.tr (.sc (.string ⟨⟨[33]⟩⟩))))), (30, 1, (.val (.tr (.sc (.string ⟨⟨[40]⟩⟩))))), (31, 1, (.val (.tr (.sc (.string ⟨⟨[41]⟩⟩))))), (32, 1, (.val (.tr (.sc (.string ⟨⟨[91]⟩⟩))))), (33, 1, (.val (.tr (.sc (.string ⟨⟨[93]⟩⟩))))), (34, 1, (.val (.tr (.sc (.string ⟨⟨[123]⟩⟩))))), (35, 1, (.val (.tr (.sc (.string ⟨⟨[125]⟩⟩))))), (36, 1, (.val (.tr (.sc (.string ⟨⟨[44]⟩⟩))))), (37, 1, (.val (.tr (.sc (.string ⟨⟨[46]⟩⟩))))), (38, 1, (.val (.tr (.sc (.string ⟨⟨[61]⟩⟩))))), (39, 1, (.val (.tr (.sc (.string ⟨⟨[126]⟩⟩))))), (40, 1, (.val (.tr (.sc (.string ⟨⟨[58]⟩⟩)))))], none⟩,
     ⟨(some 5), true, .mv (.loc 7), none⟩]
@[simp] def r25_2 : List HOp := [⟨(some 6), true, .mv (.val (.tr (.sc (.int .i64 0)))), none⟩]
@[simp] def r25_3 : List HOp := [⟨(some 8), false, .mv (.env 6), none⟩,
         ⟨(some 9), false, .mv (.env 5), none⟩,
         ⟨(some 10), false, .len 1 (.loc 9), none⟩,
         ⟨(some 11), false, .bin .other .lss (.loc 8) (.loc 10), none⟩]
@[simp] def r25_4 : List HOp := [⟨(some 14), false, .mv (.env 0), none⟩,
          ⟨(some 15), false, .len 1 (.loc 14), none⟩,
          ⟨(some 16), false, .mv (.env 1), none⟩,
          ⟨(some 17), false, .bin .other .sub (.loc 15) (.loc 16), none⟩,
          ⟨(some 18), false, .mv (.env 5), none⟩,
          ⟨(some 19), false, .mv (.env 6), none⟩,
          ⟨(some 20), false, .iaddr 1 (.loc 18) (.loc 19), none⟩,
          ⟨(some 21), false, .load 1 false (.loc 20), none⟩,
          ⟨(some 22), false, .len 0 (.loc 21), none⟩,
          ⟨(some 23), false, .bin .other .geq (.loc 17) (.loc 22), none⟩,
          ⟨(some 24), false, .mv (.loc 23), none⟩,
          ⟨(some 25), false, .mv (.env 0), some ((.loc 24), true)⟩,
          ⟨(some 26), false, .mv (.env 1), some ((.loc 24), true)⟩,
          ⟨(some 27), false, .mv (.env 1), some ((.loc 24), true)⟩,
          ⟨(some 28), false, .mv (.env 5), some ((.loc 24), true)⟩,
          ⟨(some 29), false, .mv (.env 6), some ((.loc 24), true)⟩,
          ⟨(some 30), false, .iaddr 1 (.loc 28) (.loc 29), some ((.loc 24), true)⟩,
          ⟨(some 31), false, .load 1 false (.loc 30), some ((.loc 24), true)⟩,
          ⟨(some 32), false, .len 0 (.loc 31), some ((.loc 24), true)⟩,
          ⟨(some 33), false, .bin .other .add (.loc 27) (.loc 32), some ((.loc 24), true)⟩,
          ⟨(some 34), false, .slice 1 (.loc 25) (some (.loc 26)) (some (.loc 33)) none, some ((.loc 24), true)⟩,
          ⟨(some 35), false, .conv .bytesStr (.loc 34), some ((.loc 24), true)⟩,
          ⟨(some 36), false, .mv (.env 5), some ((.loc 24), true)⟩,
          ⟨(some 37), false, .mv (.env 6), some ((.loc 24), true)⟩,
          ⟨(some 38), false, .iaddr 1 (.loc 36) (.loc 37), some ((.loc 24), true)⟩,
          ⟨(some 39), false, .load 1 false (.loc 38), some ((.loc 24), true)⟩,
          ⟨(some 40), false, .bin .other .eql (.loc 35) (.loc 39), some ((.loc 24), true)⟩,
          ⟨(some 41), false, .pick (.loc 24) (.loc 40) (.val (.tr (.sc (.bool false)))), none⟩]
@[simp] def r25_5 : List HOp := [⟨(some 42), false, .mv (.env 5), none⟩,
           ⟨(some 43), false, .mv (.env 6), none⟩,
           ⟨(some 44), false, .iaddr 1 (.loc 42) (.loc 43), none⟩,
           ⟨(some 45), false, .load 1 false (.loc 44), none⟩,
           ⟨(some 46), false, .len 0 (.loc 45), none⟩,
           ⟨(some 4), true, .mv (.loc 46), none⟩]
@[simp] def r25_6 : List HOp := [⟨(some 12), false, .mv (.env 6), none⟩,
       ⟨(some 13), false, .bin .other .add (.loc 12) (.val (.tr (.sc (.int .i64 1)))), none⟩,
       ⟨(some 6), true, .mv (.loc 13), none⟩]
@[simp] def r25_7 : List HOp := [⟨(some 4), true, .mv (.val (.tr (.sc (.int .i64 0)))), none⟩]
@[simp] def k25_4 : HCode := .cond (.loc 11) .skip (.exit 0)
@[simp] def k25_7 : HCode := .seq (.region r25_5 none) .ret
@[simp] def k25_6 : HCode := .cond (.loc 41) k25_7 .skip
def k25_8 : HCode := .region r25_6 none
def k25_5 : HCode := .seq (.block 1 (.seq (.region r25_4 (some [ ( 0, [ 0 ] ) , ( 0, [ 14 ] ) , ( 0, [ 1 ] ) , ( 0, [ 15, 16 ] ) , ( 0, [ 5 ] ) , ( 0, [ 6 ] ) , ( 2, [ 18, 19 ] ) , ( 2, [ 20 ] ) , ( 0, [ 21 ] ) , ( 0, [ 17, 22 ] ) , ( 0, [ 23 ] ) , ( 0, [ 0, 24 ] ) , ( 0, [ 1, 24 ] ) , ( 0, [ 1, 24 ] ) , ( 0, [ 5, 24 ] ) , ( 0, [ 6, 24 ] ) , ( 1, [ 28, 29, 24 ] ) , ( 1, [ 30, 24 ] ) , ( 0, [ 31, 24 ] ) , ( 0, [ 27, 32, 24 ] ) , ( 1, [ 25, 26, 33, 24 ] ) , ( 1, [ 34, 24 ] ) , ( 0, [ 5, 24 ] ) , ( 0, [ 6, 24 ] ) , ( 1, [ 36, 37, 24 ] ) , ( 1, [ 38, 24 ] ) , ( 0, [ 35, 39, 24 ] ) , ( 0, [ 24, 40 ] ) ])) k25_6)) k25_8
def k25_3 : HCode := .seq (.seq (.region r25_3 none) k25_4) k25_5
@[simp] def k25_2 : HCode := .block 0 (.loop k25_3)
def k25_9 : HCode := .seq (.region r25_7 none) .ret
@[simp] def k25_1 : HCode := .seq (.seq (.region r25_2 none) k25_2) k25_9
@[simp] def k25_0 : HCode := .seq (.region r25_1 none) k25_1
@[simp] def fn25 : HFn := { nargs := 2, results := [.tmp 4], mode := .iso, code := (.seq (.region r25_0 none) k25_0) }
theorem c25 : cFn Tryd.prog (Hs 25) .iso 25 = some fn25 := by kernel_rfl
/- sterling/sterlingref5.ends -/
@[simp] def r26_0 : List HOp := [⟨(some 2), true, .mv (.val (.tr (.sc (.bool false)))), none⟩]
@[simp] def r26_1 : List HOp := [⟨(some 4), false, .mv (.env 0), none⟩,
      ⟨(some 5), false, .len 1 (.loc 4), none⟩,
      ⟨(some 6), false, .bin .other .eql (.loc 5) (.val (.tr (.sc (.int .i64 0)))), none⟩]
@[simp] def r26_2 : List HOp := [⟨(some 2), true, .mv (.val (.tr (.sc (.bool false)))), none⟩]
@[simp] def r26_3 : List HOp := [⟨(some 7), false, .mv (.env 0), none⟩,
     ⟨(some 8), false, .mv (.env 0), none⟩,
     ⟨(some 9), false, .len 1 (.loc 8), none⟩,
     ⟨(some 10), false, .bin .other .sub (.loc 9) (.val (.tr (.sc (.int .i64 1)))), none⟩,
     ⟨(some 11), false, .iaddr 3 (.loc 7) (.loc 10), none⟩,
     ⟨(some 12), false, .load 3 true (.loc 11), none⟩,
     ⟨(some 3), true, .alloc [(.sc (.int .i64 0)), (.sc (.string ⟨⟨[]⟩⟩)), (.sc (.int .i64 0))], none⟩,
     ⟨none, false, .store 3 (.env 3) (.loc 12), none⟩]
@[simp] def r26_4 : List HOp := [⟨(some 13), false, .faddr 0 (.env 3), none⟩,
      ⟨(some 14), true, .load 1 false (.loc 13), none⟩]
@[simp] def r26_5 : List HOp := [⟨(some 16), false, .bin .other .eql (.env 14) (.val (.tr (.sc (.int .i64 1)))), none⟩,
        ⟨(some 15), true, .mv (.loc 16), none⟩]
@[simp] def r26_6 : List HOp := [⟨(some 17), false, .bin .other .eql (.env 14) (.val (.tr (.sc (.int .i64 2)))), none⟩,
         ⟨(some 15), true, .mv (.loc 17), none⟩]
@[simp] def r26_7 : List HOp := [⟨(some 18), false, .bin .other .eql (.env 14) (.val (.tr (.sc (.int .i64 3)))), none⟩,
          ⟨(some 15), true, .mv (.loc 18), none⟩]
@[simp] def r26_8 : List HOp := [⟨(some 19), false, .bin .other .eql (.env 14) (.val (.tr (.sc (.int .i64 4)))), none⟩,
          ⟨(some 15), true, .mv (.loc 19), none⟩]
@[simp] def r26_9 : List HOp := [⟨(some 2), true, .mv (.val (.tr (.sc (.bool true)))), none⟩]
@[simp] def r26_10 : List HOp := [⟨(some 21), false, .bin .other .eql (.env 14) (.val (.tr (.sc (.int .i64 6)))), none⟩,
        ⟨(some 20), false, .mv (.loc 21), none⟩]
@[simp] def r26_11 : List HOp := [⟨(some 22), false, .faddr 1 (.env 3), none⟩,
         ⟨(some 23), false, .load 1 false (.loc 22), none⟩,
         ⟨(some 24), false, .bin .other .eql (.loc 23) (.val (.tr (.sc (.string ⟨⟨[98, 114, 101, 97, 107]⟩⟩)))), none⟩,
         ⟨(some 25), false, .mv (.loc 24), none⟩,
         ⟨(some 26), false, .faddr 1 (.env 3), some ((.loc 25), false)⟩,
         ⟨(some 27), false, .load 1 false (.loc 26), some ((.loc 25), false)⟩,
         ⟨(some 28), false, .bin .other .eql (.loc 27) (.val (.tr (.sc (.string ⟨⟨[99, 111, 110, 116, 105, 110, 117, 101]⟩⟩)))), some ((.loc 25), false)⟩,
         ⟨(some 29), false, .pick (.loc 25) (.val (.tr (.sc (.bool true)))) (.loc 28), none⟩,
         ⟨(some 30), false, .mv (.loc 29), none⟩,
         ⟨(some 31), false, .faddr 1 (.env 3), some ((.loc 30), false)⟩,
         ⟨(some 32), false, .load 1 false (.loc 31), some ((.loc 30), false)⟩,
         ⟨(some 33), false, .bin .other .eql (.loc 32) (.val (.tr (.sc (.string ⟨⟨[114, 101, 116, 117, 114, 110]⟩⟩)))), some ((.loc 30), false)⟩,
         ⟨(some 34), false, .pick (.loc 30) (.val (.tr (.sc (.bool true)))) (.loc 33), none⟩,
         ⟨(some 2), true, .mv (.loc 34), none⟩]
@[simp] def r26_12 : List HOp := [⟨(some 36), false, .bin .other .eql (.env 14) (.val (.tr (.sc (.int .i64 5)))), none⟩,
         ⟨(some 35), false, .mv (.loc 36), none⟩]
@[simp] def r26_13 : List HOp := [⟨(some 37), false, .faddr 1 (.env 3), none⟩,
          ⟨(some 38), false, .load 1 false (.loc 37), none⟩,
          ⟨(some 39), false, .bin .other .eql (.loc 38) (.val (.tr (.sc (.string ⟨⟨[43, 43]⟩⟩)))), none⟩,
          ⟨(some 40), false, .mv (.loc 39), none⟩,
          ⟨(some 41), false, .faddr 1 (.env 3), some ((.loc 40), false)⟩,
          ⟨(some 42), false, .load 1 false (.loc 41), some ((.loc 40), false)⟩,
          ⟨(some 43), false, .bin .other .eql (.loc 42) (.val (.tr (.sc (.string ⟨⟨[45, 45]⟩⟩)))), some ((.loc 40), false)⟩,
          ⟨(some 44), false, .pick (.loc 40) (.val (.tr (.sc (.bool true)))) (.loc 43), none⟩,
          ⟨(some 45), false, .mv (.loc 44), none⟩,
          ⟨(some 46), false, .faddr 1 (.env 3), some ((.loc 45), false)⟩,
          ⟨(some 47), false, .load 1 false (.loc 46), some ((.loc 45), false)⟩,
          ⟨(some 48), false, .bin .other .eql (.loc 47) (.val (.tr (.sc (.string ⟨⟨[41]⟩⟩)))), some ((.loc 45), false)⟩,
          ⟨(some 49), false, .pick (.loc 45) (.val (.tr (.sc (.bool true)))) (.loc 48), none⟩,
          ⟨(some 50), false, .mv (.loc 49), none⟩,
          ⟨(some 51), false, .faddr 1 (.env 3), some ((.loc 50), false)⟩,
          ⟨(some 52), false, .load 1 false (.loc 51), some ((.loc 50), false)⟩,
          ⟨(some 53), false, .bin .other .eql (.loc 52) (.val (.tr (.sc (.string ⟨⟨[93]⟩⟩)))), some ((.loc 50), false)⟩,
          ⟨(some 54), false, .pick (.loc 50) (.val (.tr (.sc (.bool true)))) (.loc 53), none⟩,
          ⟨(some 55), false, .mv (.loc 54), none⟩,
          ⟨(some 56), false, .faddr 1 (.env 3), some ((.loc 55), false)⟩,
          ⟨(some 57), false, .load 1 false (.loc 56), some ((.loc 55), false)⟩,
          ⟨(some 58), false, .bin .other .eql (.loc 57) (.val (.tr (.sc (.string ⟨⟨[125]⟩⟩)))), some ((.loc 55), false)⟩,
          ⟨(some 59), false, .pick (.loc 55) (.val (.tr (.sc (.bool true)))) (.loc 58), none⟩,
          ⟨(some 2), true, .mv (.loc 59), none⟩]
@[simp] def r26_14 : List HOp := [⟨(some 2), true, .mv (.val (.tr (.sc (.bool false)))), none⟩]
@[simp] def k26_2 : HCode := .seq (.region r26_2 none) .ret
@[simp] def k26_1 : HCode := .cond (.loc 6) k26_2 .skip
@[simp] def k26_10 : HCode := .cond (.env 15) .skip (.region r26_8 none)
@[simp] def k26_9 : HCode := .seq (.region r26_7 none) k26_10
@[simp] def k26_8 : HCode := .cond (.env 15) .skip k26_9
@[simp] def k26_7 : HCode := .seq (.region r26_6 none) k26_8
@[simp] def k26_6 : HCode := .cond (.env 15) .skip k26_7
@[simp] def k26_12 : HCode := .seq (.region r26_9 none) .ret
@[simp] def k26_15 : HCode := .seq (.region r26_11 none) .ret
@[simp] def k26_18 : HCode := .seq (.region r26_13 none) .ret
@[simp] def k26_17 : HCode := .cond (.loc 35) k26_18 .skip
@[simp] def k26_16 : HCode := .seq (.region r26_12 none) k26_17
@[simp] def k26_14 : HCode := .cond (.loc 20) k26_15 k26_16
@[simp] def k26_13 : HCode := .seq (.region r26_10 none) k26_14
def k26_11 : HCode := .cond (.env 15) k26_12 k26_13
@[simp] def k26_5 : HCode := .block 0 (.seq (.seq (.region r26_5 none) k26_6) k26_11)
def k26_19 : HCode := .seq (.region r26_14 none) .ret
@[simp] def k26_4 : HCode := .seq (.seq (.region r26_4 none) k26_5) k26_19
def k26_3 : HCode := .seq (.region r26_3 none) k26_4
@[simp] def k26_0 : HCode := .seq (.seq (.region r26_1 none) k26_1) k26_3
@[simp] def fn26 : HFn := { nargs := 1, results := [.tmp 2], mode := .iso, code := (.seq (.region r26_0 none) k26_0) }
theorem c26 : cFn Tryd.prog (Hs 26) .iso 26 = some fn26 := by kernel_rfl
/- sterling/sterlinglaw5.Same -/
@[simp] def r11_0 : List HOp := [⟨(some 4), true, .mv (.val (.tr (.sc (.bool false)))), none⟩]
@[simp] def r11_1 : List HOp := [⟨(some 6), false, .mv (.env 0), none⟩,
      ⟨(some 7), false, .len 1 (.loc 6), none⟩,
      ⟨(some 8), false, .mv (.env 1), none⟩,
      ⟨(some 9), false, .len 1 (.loc 8), none⟩,
      ⟨(some 10), false, .bin .other .neq (.loc 7) (.loc 9), none⟩]
@[simp] def r11_2 : List HOp := [⟨(some 4), true, .mv (.val (.tr (.sc (.bool false)))), none⟩]
@[simp] def r11_3 : List HOp := [⟨(some 5), true, .mv (.val (.tr (.sc (.int .i64 0)))), none⟩]
@[simp] def r11_4 : List HOp := [⟨(some 11), false, .mv (.env 5), none⟩,
         ⟨(some 12), false, .mv (.env 0), none⟩,
         ⟨(some 13), false, .len 1 (.loc 12), none⟩,
         ⟨(some 14), false, .bin .other .lss (.loc 11) (.loc 13), none⟩]
@[simp] def r11_5 : List HOp := [⟨(some 17), false, .mv (.env 0), none⟩,
          ⟨(some 18), false, .mv (.env 5), none⟩,
          ⟨(some 19), false, .iaddr 3 (.loc 17) (.loc 18), none⟩,
          ⟨(some 20), false, .faddr 0 (.loc 19), none⟩,
          ⟨(some 21), false, .load 1 false (.loc 20), none⟩,
          ⟨(some 22), false, .mv (.env 1), none⟩,
          ⟨(some 23), false, .mv (.env 5), none⟩,
          ⟨(some 24), false, .iaddr 3 (.loc 22) (.loc 23), none⟩,
          ⟨(some 25), false, .faddr 0 (.loc 24), none⟩,
          ⟨(some 26), false, .load 1 false (.loc 25), none⟩,
          ⟨(some 27), false, .bin .other .neq (.loc 21) (.loc 26), none⟩,
          ⟨(some 28), false, .mv (.loc 27), none⟩,
          ⟨(some 29), false, .mv (.env 0), some ((.loc 28), false)⟩,
          ⟨(some 30), false, .mv (.env 5), some ((.loc 28), false)⟩,
          ⟨(some 31), false, .iaddr 3 (.loc 29) (.loc 30), some ((.loc 28), false)⟩,
          ⟨(some 32), false, .faddr 1 (.loc 31), some ((.loc 28), false)⟩,
          ⟨(some 33), false, .load 1 false (.loc 32), some ((.loc 28), false)⟩,
          ⟨(some 34), false, .mv (.env 1), some ((.loc 28), false)⟩,
          ⟨(some 35), false, .mv (.env 5), some ((.loc 28), false)⟩,
          ⟨(some 36), false, .iaddr 3 (.loc 34) (.loc 35), some ((.loc 28), false)⟩,
          ⟨(some 37), false, .faddr 1 (.loc 36), some ((.loc 28), false)⟩,
          ⟨(some 38), false, .load 1 false (.loc 37), some ((.loc 28), false)⟩,
          ⟨(some 39), false, .bin .other .neq (.loc 33) (.loc 38), some ((.loc 28), false)⟩,
          ⟨(some 40), false, .pick (.loc 28) (.val (.tr (.sc (.bool true)))) (.loc 39), none⟩,
          ⟨(some 41), false, .mv (.loc 40), none⟩,
          ⟨(some 42), false, .mv (.env 0), some ((.loc 41), false)⟩,
          ⟨(some 43), false, .mv (.env 5), some ((.loc 41), false)⟩,
          ⟨(some 44), false, .iaddr 3 (.loc 42) (.loc 43), some ((.loc 41), false)⟩,
          ⟨(some 45), false, .faddr 2 (.loc 44), some ((.loc 41), false)⟩,
          ⟨(some 46), false, .load 1 false (.loc 45), some ((.loc 41), false)⟩,
          ⟨(some 47), false, .mv (.env 1), some ((.loc 41), false)⟩,
          ⟨(some 48), false, .mv (.env 5), some ((.loc 41), false)⟩,
          ⟨(some 49), false, .iaddr 3 (.loc 47) (.loc 48), some ((.loc 41), false)⟩,
          ⟨(some 50), false, .faddr 2 (.loc 49), some ((.loc 41), false)⟩,
          ⟨(some 51), false, .load 1 false (.loc 50), some ((.loc 41), false)⟩,
          ⟨(some 52), false, .bin .other .neq (.loc 46) (.loc 51), some ((.loc 41), false)⟩,
          ⟨(some 53), false, .pick (.loc 41) (.val (.tr (.sc (.bool true)))) (.loc 52), none⟩]
@[simp] def r11_6 : List HOp := [⟨(some 4), true, .mv (.val (.tr (.sc (.bool false)))), none⟩]
@[simp] def r11_7 : List HOp := [⟨(some 15), false, .mv (.env 5), none⟩,
       ⟨(some 16), false, .bin .other .add (.loc 15) (.val (.tr (.sc (.int .i64 1)))), none⟩,
       ⟨(some 5), true, .mv (.loc 16), none⟩]
@[simp] def r11_8 : List HOp := [⟨(some 4), true, .mv (.val (.tr (.sc (.bool true)))), none⟩]
@[simp] def k11_2 : HCode := .seq (.region r11_2 none) .ret
@[simp] def k11_1 : HCode := .cond (.loc 10) k11_2 .skip
@[simp] def k11_6 : HCode := .cond (.loc 14) .skip (.exit 0)
@[simp] def k11_9 : HCode := .seq (.region r11_6 none) .ret
@[simp] def k11_8 : HCode := .cond (.loc 53) k11_9 .skip
def k11_10 : HCode := .region r11_7 none
def k11_7 : HCode := .seq (.block 1 (.seq (.region r11_5 (some [ ( 0, [ 0 ] ) , ( 0, [ 5 ] ) , ( 1, [ 17, 18 ] ) , ( 0, [ 19 ] ) , ( 1, [ 20 ] ) , ( 0, [ 1 ] ) , ( 0, [ 5 ] ) , ( 1, [ 22, 23 ] ) , ( 0, [ 24 ] ) , ( 1, [ 25 ] ) , ( 0, [ 21, 26 ] ) , ( 0, [ 27 ] ) , ( 0, [ 0, 28 ] ) , ( 0, [ 5, 28 ] ) , ( 1, [ 29, 30, 28 ] ) , ( 0, [ 31, 28 ] ) , ( 1, [ 32, 28 ] ) , ( 0, [ 1, 28 ] ) , ( 0, [ 5, 28 ] ) , ( 1, [ 34, 35, 28 ] ) , ( 0, [ 36, 28 ] ) , ( 1, [ 37, 28 ] ) , ( 0, [ 33, 38, 28 ] ) , ( 0, [ 28, 39 ] ) , ( 0, [ 40 ] ) , ( 0, [ 0, 41 ] ) , ( 0, [ 5, 41 ] ) , ( 1, [ 42, 43, 41 ] ) , ( 0, [ 44, 41 ] ) , ( 1, [ 45, 41 ] ) , ( 0, [ 1, 41 ] ) , ( 0, [ 5, 41 ] ) , ( 1, [ 47, 48, 41 ] ) , ( 0, [ 49, 41 ] ) , ( 1, [ 50, 41 ] ) , ( 0, [ 46, 51, 41 ] ) , ( 0, [ 41, 52 ] ) ])) k11_8)) k11_10
def k11_5 : HCode := .seq (.seq (.region r11_4 none) k11_6) k11_7
@[simp] def k11_4 : HCode := .block 0 (.loop k11_5)
def k11_11 : HCode := .seq (.region r11_8 none) .ret
def k11_3 : HCode := .seq (.seq (.region r11_3 none) k11_4) k11_11
@[simp] def k11_0 : HCode := .seq (.seq (.region r11_1 none) k11_1) k11_3
@[simp] def fn11 : HFn := { nargs := 2, results := [.tmp 4], mode := .iso, code := (.seq (.region r11_0 none) k11_0) }
theorem c11 : cFn Tryd.prog (Hs 11) .iso 11 = some fn11 := by kernel_rfl
/- sterling/sterlinglaw5.ScanAgain -/
@[simp] def r4_0 : List HOp := [⟨(some 2), true, .mv (.val (.tr (.sc (.bool false)))), none⟩]
@[simp] def r4_1 : List HOp := [⟨(some 13), false, .callf 7 [], none⟩,
     ⟨(some 3), true, .mv (.loc 13), none⟩]
@[simp] def r4_2 : List HOp := [⟨(some 15), false, .mv (.env 0), none⟩,
     ⟨(some 16), false, .callf 8 [(.loc 15), (.val (.tr (.sc (.int .i64 400))))], none⟩,
     ⟨(some 17), false, .callf 9 [(.loc 16)], none⟩,
     ⟨(some 14), false, .mv (.loc 17), none⟩,
     ⟨(some 18), false, .extract (.loc 14) 0, none⟩,
     ⟨(some 19), false, .extract (.loc 14) 1, none⟩,
     ⟨(some 20), false, .extract (.loc 14) 2, none⟩,
     ⟨(some 4), true, .mv (.loc 18), none⟩,
     ⟨(some 5), false, .mv (.loc 19), none⟩,
     ⟨(some 6), true, .mv (.loc 20), none⟩]
@[simp] def r4_3 : List HOp := [⟨(some 21), false, .mv (.env 6), none⟩,
      ⟨(some 22), false, .un .not (.loc 21), none⟩,
      ⟨(some 23), false, .mv (.loc 22), none⟩,
      ⟨(some 24), false, .mv (.env 4), some ((.loc 23), false)⟩,
      ⟨(some 25), false, .len 1 (.loc 24), some ((.loc 23), false)⟩,
      ⟨(some 26), false, .bin .other .eql (.loc 25) (.val (.tr (.sc (.int .i64 0)))), some ((.loc 23), false)⟩,
      ⟨(some 27), false, .pick (.loc 23) (.val (.tr (.sc (.bool true)))) (.loc 26), none⟩]
@[simp] def r4_4 : List HOp := [⟨(some 28), false, .mv (.env 3), none⟩,
       ⟨(some 2), true, .mv (.loc 28), none⟩]
@[simp] def r4_5 : List HOp := [⟨(some 7), true, .mv (.val (.tr (.sc (.slice none 0 0)))), none⟩]
@[simp] def r4_6 : List HOp := [⟨(some 8), true, .mv (.val (.tr (.sc (.int .i64 0)))), none⟩]
@[simp] def r4_7 : List HOp := [⟨(some 29), false, .mv (.env 8), none⟩,
         ⟨(some 30), false, .mv (.env 4), none⟩,
         ⟨(some 31), false, .len 1 (.loc 30), none⟩,
         ⟨(some 32), false, .bin .other .lss (.loc 29) (.loc 31), none⟩]
@[simp] def r4_8 : List HOp := [⟨(some 35), false, .mv (.env 7), none⟩,
          ⟨(some 36), false, .mv (.env 4), none⟩,
          ⟨(some 37), false, .mv (.env 8), none⟩,
          ⟨(some 38), false, .iaddr 3 (.loc 36) (.loc 37), none⟩,
          ⟨(some 39), false, .faddr 1 (.loc 38), none⟩,
          ⟨(some 40), false, .load 1 false (.loc 39), none⟩,
          ⟨(some 41), false, .append 1 1 (.loc 35) (.loc 40), none⟩,
          ⟨(some 7), true, .mv (.loc 41), none⟩]
@[simp] def r4_9 : List HOp := [⟨(some 42), false, .mv (.env 4), none⟩,
          ⟨(some 43), false, .mv (.env 8), none⟩,
          ⟨(some 44), false, .iaddr 3 (.loc 42) (.loc 43), none⟩,
          ⟨(some 45), false, .faddr 1 (.loc 44), none⟩,
          ⟨(some 46), false, .load 1 false (.loc 45), none⟩,
          ⟨(some 47), false, .bin .other .neq (.loc 46) (.val (.tr (.sc (.string ⟨⟨[10]⟩⟩)))), none⟩]
@[simp] def r4_10 : List HOp := [⟨(some 48), false, .mv (.env 7), none⟩,
          ⟨(some 49), false, .bslice false 1 1 [(.sc (.int .u8 0))] [(0, 1, (.val (.tr (.sc (.int .u8 32)))))], none⟩,
          ⟨(some 50), false, .append 1 1 (.loc 48) (.loc 49), none⟩,
          ⟨(some 7), true, .mv (.loc 50), none⟩]
@[simp] def r4_11 : List HOp := [⟨(some 33), false, .mv (.env 8), none⟩,
       ⟨(some 34), false, .bin .other .add (.loc 33) (.val (.tr (.sc (.int .i64 1)))), none⟩,
       ⟨(some 8), true, .mv (.loc 34), none⟩]
@[simp] def r4_12 : List HOp := [⟨(some 52), false, .mv (.env 7), none⟩,
     ⟨(some 53), false, .callf 9 [(.loc 52)], none⟩,
     ⟨(some 51), false, .mv (.loc 53), none⟩,
     ⟨(some 54), false, .extract (.loc 51) 0, none⟩,
     ⟨(some 55), false, .extract (.loc 51) 1, none⟩,
     ⟨(some 56), false, .extract (.loc 51) 2, none⟩,
     ⟨(some 9), true, .mv (.loc 54), none⟩,
     ⟨(some 10), false, .mv (.loc 55), none⟩,
     ⟨(some 11), true, .mv (.loc 56), none⟩]
@[simp] def r4_13 : List HOp := [⟨(some 57), false, .mv (.env 11), none⟩,
      ⟨(some 58), false, .un .not (.loc 57), none⟩,
      ⟨(some 59), false, .mv (.loc 58), none⟩,
      ⟨(some 60), false, .mv (.env 9), some ((.loc 59), false)⟩,
      ⟨(some 61), false, .len 1 (.loc 60), some ((.loc 59), false)⟩,
      ⟨(some 62), false, .mv (.env 4), some ((.loc 59), false)⟩,
      ⟨(some 63), false, .len 1 (.loc 62), some ((.loc 59), false)⟩,
      ⟨(some 64), false, .bin .other .neq (.loc 61) (.loc 63), some ((.loc 59), false)⟩,
      ⟨(some 65), false, .pick (.loc 59) (.val (.tr (.sc (.bool true)))) (.loc 64), none⟩]
@[simp] def r4_14 : List HOp := [⟨(some 2), true, .mv (.val (.tr (.sc (.bool false)))), none⟩]
@[simp] def r4_15 : List HOp := [⟨(some 12), true, .mv (.val (.tr (.sc (.int .i64 0)))), none⟩]
@[simp] def r4_16 : List HOp := [⟨(some 66), false, .mv (.env 12), none⟩,
         ⟨(some 67), false, .mv (.env 4), none⟩,
         ⟨(some 68), false, .len 1 (.loc 67), none⟩,
         ⟨(some 69), false, .bin .other .lss (.loc 66) (.loc 68), none⟩]
@[simp] def r4_17 : List HOp := [⟨(some 72), false, .mv (.env 4), none⟩,
          ⟨(some 73), false, .mv (.env 12), none⟩,
          ⟨(some 74), false, .iaddr 3 (.loc 72) (.loc 73), none⟩,
          ⟨(some 75), false, .faddr 0 (.loc 74), none⟩,
          ⟨(some 76), false, .load 1 false (.loc 75), none⟩,
          ⟨(some 77), false, .mv (.env 9), none⟩,
          ⟨(some 78), false, .mv (.env 12), none⟩,
          ⟨(some 79), false, .iaddr 3 (.loc 77) (.loc 78), none⟩,
          ⟨(some 80), false, .faddr 0 (.loc 79), none⟩,
          ⟨(some 81), false, .load 1 false (.loc 80), none⟩,
          ⟨(some 82), false, .bin .other .neq (.loc 76) (.loc 81), none⟩,
          ⟨(some 83), false, .mv (.loc 82), none⟩,
          ⟨(some 84), false, .mv (.env 4), some ((.loc 83), false)⟩,
          ⟨(some 85), false, .mv (.env 12), some ((.loc 83), false)⟩,
          ⟨(some 86), false, .iaddr 3 (.loc 84) (.loc 85), some ((.loc 83), false)⟩,
          ⟨(some 87), false, .faddr 1 (.loc 86), some ((.loc 83), false)⟩,
          ⟨(some 88), false, .load 1 false (.loc 87), some ((.loc 83), false)⟩,
          ⟨(some 89), false, .mv (.env 9), some ((.loc 83), false)⟩,
          ⟨(some 90), false, .mv (.env 12), some ((.loc 83), false)⟩,
          ⟨(some 91), false, .iaddr 3 (.loc 89) (.loc 90), some ((.loc 83), false)⟩,
          ⟨(some 92), false, .faddr 1 (.loc 91), some ((.loc 83), false)⟩,
          ⟨(some 93), false, .load 1 false (.loc 92), some ((.loc 83), false)⟩,
          ⟨(some 94), false, .bin .other .neq (.loc 88) (.loc 93), some ((.loc 83), false)⟩,
          ⟨(some 95), false, .pick (.loc 83) (.val (.tr (.sc (.bool true)))) (.loc 94), none⟩]
@[simp] def r4_18 : List HOp := [⟨(some 2), true, .mv (.val (.tr (.sc (.bool false)))), none⟩]
@[simp] def r4_19 : List HOp := [⟨(some 70), false, .mv (.env 12), none⟩,
       ⟨(some 71), false, .bin .other .add (.loc 70) (.val (.tr (.sc (.int .i64 1)))), none⟩,
       ⟨(some 12), true, .mv (.loc 71), none⟩]
@[simp] def r4_20 : List HOp := [⟨(some 96), false, .mv (.env 3), none⟩,
     ⟨(some 2), true, .mv (.loc 96), none⟩]
@[simp] def k4_4 : HCode := .seq (.region r4_4 none) .ret
@[simp] def k4_3 : HCode := .cond (.loc 27) k4_4 .skip
@[simp] def k4_9 : HCode := .cond (.loc 32) .skip (.exit 0)
@[simp] def k4_12 : HCode := .cond (.loc 47) (.region r4_10 none) .skip
@[simp] def k4_11 : HCode := .seq (.region r4_9 none) k4_12
def k4_13 : HCode := .region r4_11 none
def k4_10 : HCode := .seq (.block 1 (.seq (.region r4_8 none) k4_11)) k4_13
def k4_8 : HCode := .seq (.seq (.region r4_7 none) k4_9) k4_10
@[simp] def k4_7 : HCode := .block 0 (.loop k4_8)
@[simp] def k4_17 : HCode := .seq (.region r4_14 none) .ret
@[simp] def k4_16 : HCode := .cond (.loc 65) k4_17 .skip
@[simp] def k4_21 : HCode := .cond (.loc 69) .skip (.exit 2)
@[simp] def k4_24 : HCode := .seq (.region r4_18 none) .ret
@[simp] def k4_23 : HCode := .cond (.loc 95) k4_24 .skip
def k4_25 : HCode := .region r4_19 none
def k4_22 : HCode := .seq (.block 3 (.seq (.region r4_17 (some [ ( 0, [ 4 ] ) , ( 0, [ 12 ] ) , ( 1, [ 72, 73 ] ) , ( 0, [ 74 ] ) , ( 1, [ 75 ] ) , ( 0, [ 9 ] ) , ( 0, [ 12 ] ) , ( 1, [ 77, 78 ] ) , ( 0, [ 79 ] ) , ( 1, [ 80 ] ) , ( 0, [ 76, 81 ] ) , ( 0, [ 82 ] ) , ( 0, [ 4, 83 ] ) , ( 0, [ 12, 83 ] ) , ( 1, [ 84, 85, 83 ] ) , ( 0, [ 86, 83 ] ) , ( 1, [ 87, 83 ] ) , ( 0, [ 9, 83 ] ) , ( 0, [ 12, 83 ] ) , ( 1, [ 89, 90, 83 ] ) , ( 0, [ 91, 83 ] ) , ( 1, [ 92, 83 ] ) , ( 0, [ 88, 93, 83 ] ) , ( 0, [ 83, 94 ] ) ])) k4_23)) k4_25
def k4_20 : HCode := .seq (.seq (.region r4_16 none) k4_21) k4_22
@[simp] def k4_19 : HCode := .block 2 (.loop k4_20)
def k4_26 : HCode := .seq (.region r4_20 none) .ret
def k4_18 : HCode := .seq (.seq (.region r4_15 none) k4_19) k4_26
@[simp] def k4_15 : HCode := .seq (.seq (.region r4_13 none) k4_16) k4_18
def k4_14 : HCode := .seq (.region r4_12 none) k4_15
@[simp] def k4_6 : HCode := .seq (.seq (.region r4_6 none) k4_7) k4_14
def k4_5 : HCode := .seq (.region r4_5 none) k4_6
@[simp] def k4_2 : HCode := .seq (.seq (.region r4_3 none) k4_3) k4_5
@[simp] def k4_1 : HCode := .seq (.region r4_2 none) k4_2
@[simp] def k4_0 : HCode := .seq (.region r4_1 none) k4_1
@[simp] def fn4 : HFn := { nargs := 1, results := [.tmp 2], mode := .shared, code := (.seq (.region r4_0 none) k4_0) }
theorem c4 : cFn Tryd.prog (Hs 4) .shared 4 = some fn4 := by kernel_rfl
/- sterling/sterlinglaw5.ScanValue -/
@[simp] def r5_0 : List HOp := [⟨(some 2), true, .mv (.val (.tr (.sc (.bool false)))), none⟩]
@[simp] def r5_1 : List HOp := [⟨(some 8), false, .callf 7 [], none⟩,
     ⟨(some 3), true, .mv (.loc 8), none⟩]
@[simp] def r5_2 : List HOp := [⟨(some 9), false, .mv (.env 0), none⟩,
      ⟨(some 10), false, .len 0 (.loc 9), none⟩,
      ⟨(some 11), false, .bin .other .gtr (.loc 10) (.val (.tr (.sc (.int .i64 200)))), none⟩]
@[simp] def r5_3 : List HOp := [⟨(some 12), false, .mv (.env 0), none⟩,
      ⟨(some 13), false, .slicestr (.loc 12) none (some (.val (.tr (.sc (.int .i64 200))))), none⟩,
      ⟨(some 0), true, .mv (.loc 13), none⟩]
@[simp] def r5_4 : List HOp := [⟨(some 15), false, .mv (.env 0), none⟩,
     ⟨(some 16), false, .callf 12 [(.loc 15)], none⟩,
     ⟨(some 14), false, .mv (.loc 16), none⟩,
     ⟨(some 17), false, .extract (.loc 14) 0, none⟩,
     ⟨(some 18), false, .extract (.loc 14) 1, none⟩,
     ⟨(some 4), true, .mv (.loc 17), none⟩,
     ⟨(some 5), true, .mv (.loc 18), none⟩]
@[simp] def r5_5 : List HOp := [⟨(some 20), false, .mv (.env 0), none⟩,
     ⟨(some 21), false, .callf 13 [(.loc 20)], none⟩,
     ⟨(some 19), false, .mv (.loc 21), none⟩,
     ⟨(some 22), false, .extract (.loc 19) 0, none⟩,
     ⟨(some 23), false, .extract (.loc 19) 1, none⟩,
     ⟨(some 6), true, .mv (.loc 22), none⟩,
     ⟨(some 7), true, .mv (.loc 23), none⟩]
@[simp] def r5_6 : List HOp := [⟨(some 24), false, .mv (.env 3), none⟩,
     ⟨(some 25), false, .mv (.loc 24), none⟩,
     ⟨(some 26), false, .mv (.env 5), some ((.loc 25), true)⟩,
     ⟨(some 27), false, .mv (.env 7), some ((.loc 25), true)⟩,
     ⟨(some 28), false, .bin .bool .eql (.loc 26) (.loc 27), some ((.loc 25), true)⟩,
     ⟨(some 29), false, .pick (.loc 25) (.loc 28) (.val (.tr (.sc (.bool false)))), none⟩,
     ⟨(some 30), false, .mv (.loc 29), none⟩,
     ⟨(some 31), false, .mv (.env 4), some ((.loc 30), true)⟩,
     ⟨(some 32), false, .mv (.env 6), some ((.loc 30), true)⟩,
     ⟨(some 33), false, .bin .other .eql (.loc 31) (.loc 32), some ((.loc 30), true)⟩,
     ⟨(some 34), false, .pick (.loc 30) (.loc 33) (.val (.tr (.sc (.bool false)))), none⟩,
     ⟨(some 35), false, .mv (.loc 34), none⟩,
     ⟨(some 36), false, .mv (.env 0), some ((.loc 35), true)⟩,
     ⟨(some 37), false, .callf 14 [(.loc 36)], some ((.loc 35), true)⟩,
     ⟨(some 38), false, .mv (.env 0), some ((.loc 35), true)⟩,
     ⟨(some 39), false, .callf 15 [(.loc 38)], some ((.loc 35), true)⟩,
     ⟨(some 40), false, .bin .bool .eql (.loc 37) (.loc 39), some ((.loc 35), true)⟩,
     ⟨(some 41), false, .pick (.loc 35) (.loc 40) (.val (.tr (.sc (.bool false)))), none⟩,
     ⟨(some 2), true, .mv (.loc 41), none⟩]
@[simp] def k5_2 : HCode := .cond (.loc 11) (.region r5_3 none) .skip
@[simp] def k5_5 : HCode := .seq (.region r5_6 none) .ret
@[simp] def k5_4 : HCode := .seq (.region r5_5 none) k5_5
def k5_3 : HCode := .seq (.region r5_4 none) k5_4
@[simp] def k5_1 : HCode := .seq (.seq (.region r5_2 none) k5_2) k5_3
@[simp] def k5_0 : HCode := .seq (.region r5_1 none) k5_1
@[simp] def fn5 : HFn := { nargs := 1, results := [.tmp 2], mode := .shared, code := (.seq (.region r5_0 none) k5_0) }
theorem c5 : cFn Tryd.prog (Hs 5) .shared 5 = some fn5 := by kernel_rfl
/- sterling/sterlingref5.Value -/
@[simp] def r13_0 : List HOp := [⟨(some 2), true, .mv (.val (.tr (.sc (.string ⟨⟨[]⟩⟩)))), none⟩,
     ⟨(some 3), true, .mv (.val (.tr (.sc (.bool false)))), none⟩]
@[simp] def r13_1 : List HOp := [⟨(some 6), false, .mv (.env 0), none⟩,
      ⟨(some 7), false, .bin .other .eql (.loc 6) (.val (.tr (.sc (.string ⟨⟨[]⟩⟩)))), none⟩,
      ⟨(some 8), false, .mv (.loc 7), none⟩,
      ⟨(some 9), false, .mv (.env 0), some ((.loc 8), false)⟩,
      ⟨(some 10), false, .istr (.loc 9) (.val (.tr (.sc (.int .i64 0)))), some ((.loc 8), false)⟩,
      ⟨(some 11), false, .bin .other .neq (.loc 10) (.val (.tr (.sc (.int .u8 34)))), some ((.loc 8), false)⟩,
      ⟨(some 12), false, .mv (.loc 11), some ((.loc 8), false)⟩,
      ⟨(some 13), false, .mv (.env 0), some ((.loc 12), true)⟩,
      ⟨(some 14), false, .istr (.loc 13) (.val (.tr (.sc (.int .i64 0)))), some ((.loc 12), true)⟩,
      ⟨(some 15), false, .bin .other .neq (.loc 14) (.val (.tr (.sc (.int .u8 96)))), some ((.loc 12), true)⟩,
      ⟨(some 16), false, .pick (.loc 12) (.loc 15) (.val (.tr (.sc (.bool false)))), some ((.loc 8), false)⟩,
      ⟨(some 17), false, .pick (.loc 8) (.val (.tr (.sc (.bool true)))) (.loc 16), none⟩]
@[simp] def r13_2 : List HOp := [⟨(some 2), true, .mv (.val (.tr (.sc (.string ⟨⟨[]⟩⟩)))), none⟩,
       ⟨(some 3), true, .mv (.val (.tr (.sc (.bool false)))), none⟩]
@[simp] def r13_3 : List HOp := [⟨(some 19), false, .mv (.env 0), none⟩,
     ⟨(some 20), false, .conv .strBytes (.loc 19), none⟩,
     ⟨(some 21), false, .callf 24 [(.loc 20), (.val (.tr (.sc (.int .i64 0))))], none⟩,
     ⟨(some 18), false, .mv (.loc 21), none⟩,
     ⟨(some 22), false, .extract (.loc 18) 0, none⟩,
     ⟨(some 23), false, .extract (.loc 18) 1, none⟩,
     ⟨(some 4), true, .mv (.loc 22), none⟩,
     ⟨(some 5), true, .mv (.loc 23), none⟩]
@[simp] def r13_4 : List HOp := [⟨(some 24), false, .mv (.env 4), none⟩,
      ⟨(some 25), false, .mv (.env 0), none⟩,
      ⟨(some 26), false, .len 0 (.loc 25), none⟩,
      ⟨(some 27), false, .bin .other .neq (.loc 24) (.loc 26), none⟩]
@[simp] def r13_5 : List HOp := [⟨(some 2), true, .mv (.val (.tr (.sc (.string ⟨⟨[]⟩⟩)))), none⟩,
       ⟨(some 3), true, .mv (.val (.tr (.sc (.bool false)))), none⟩]
@[simp] def r13_6 : List HOp := [⟨(some 28), false, .mv (.env 5), none⟩,
     ⟨(some 29), false, .conv .bytesStr (.loc 28), none⟩,
     ⟨(some 2), true, .mv (.loc 29), none⟩,
     ⟨(some 3), true, .mv (.val (.tr (.sc (.bool true)))), none⟩]
@[simp] def k13_2 : HCode := .seq (.region r13_2 none) .ret
@[simp] def k13_1 : HCode := .cond (.loc 17) k13_2 .skip
@[simp] def k13_6 : HCode := .seq (.region r13_5 none) .ret
@[simp] def k13_5 : HCode := .cond (.loc 27) k13_6 .skip
def k13_7 : HCode := .seq (.region r13_6 none) .ret
@[simp] def k13_4 : HCode := .seq (.seq (.region r13_4 none) k13_5) k13_7
def k13_3 : HCode := .seq (.region r13_3 none) k13_4
@[simp] def k13_0 : HCode := .seq (.seq (.region r13_1 none) k13_1) k13_3
@[simp] def fn13 : HFn := { nargs := 1, results := [.tmp 2, .tmp 3], mode := .iso, code := (.seq (.region r13_0 none) k13_0) }
theorem c13 : cFn Tryd.prog (Hs 13) .iso 13 = some fn13 := by kernel_rfl
def fn50 : HFn := { nargs := 2, code := .bad, results := [], mode := .ext 11 }
def fn51 : HFn := { nargs := 2, code := .bad, results := [], mode := .ext 12 }
def fn31 : HFn := { nargs := 2, code := .bad, results := [], mode := .ext 0 }
def fn84 : HFn := { nargs := 2, code := .bad, results := [], mode := .ext 16 }
def fn46 : HFn := { nargs := 1, code := .bad, results := [], mode := .ext 15 }
def fn56 : HFn := { nargs := 1, code := .bad, results := [], mode := .ext 10 }
def fn28 : HFn := { nargs := 3, code := .bad, results := [], mode := .ext 17 }
noncomputable def T : FTab := fun f => (bif2 (Nat.ble f 31) (bif2 (Nat.ble f 17) (bif2 (Nat.ble f 10) (bif2 (Nat.ble f 5) (bif2 (Nat.ble f 3) (bif2 (Nat.beq f 3) (some fn3) none) (bif2 (Nat.ble f 4) (bif2 (Nat.beq f 4) (some fn4) none) (bif2 (Nat.beq f 5) (some fn5) none))) (bif2 (Nat.ble f 8) (bif2 (Nat.ble f 7) (bif2 (Nat.beq f 7) (some fn7) none) (bif2 (Nat.beq f 8) (some fn8) none)) (bif2 (Nat.ble f 9) (bif2 (Nat.beq f 9) (some fn9) none) (bif2 (Nat.beq f 10) (some fn10) none)))) (bif2 (Nat.ble f 13) (bif2 (Nat.ble f 11) (bif2 (Nat.beq f 11) (some fn11) none) (bif2 (Nat.ble f 12) (bif2 (Nat.beq f 12) (some fn12) none) (bif2 (Nat.beq f 13) (some fn13) none))) (bif2 (Nat.ble f 15) (bif2 (Nat.ble f 14) (bif2 (Nat.beq f 14) (some fn14) none) (bif2 (Nat.beq f 15) (some fn15) none)) (bif2 (Nat.ble f 16) (bif2 (Nat.beq f 16) (some fn16) none) (bif2 (Nat.beq f 17) (some fn17) none))))) (bif2 (Nat.ble f 24) (bif2 (Nat.ble f 20) (bif2 (Nat.ble f 18) (bif2 (Nat.beq f 18) (some fn18) none) (bif2 (Nat.ble f 19) (bif2 (Nat.beq f 19) (some fn19) none) (bif2 (Nat.beq f 20) (some fn20) none))) (bif2 (Nat.ble f 22) (bif2 (Nat.ble f 21) (bif2 (Nat.beq f 21) (some fn21) none) (bif2 (Nat.beq f 22) (some fn22) none)) (bif2 (Nat.ble f 23) (bif2 (Nat.beq f 23) (some fn23) none) (bif2 (Nat.beq f 24) (some fn24) none)))) (bif2 (Nat.ble f 27) (bif2 (Nat.ble f 25) (bif2 (Nat.beq f 25) (some fn25) none) (bif2 (Nat.ble f 26) (bif2 (Nat.beq f 26) (some fn26) none) (bif2 (Nat.beq f 27) (some fn27) none))) (bif2 (Nat.ble f 29) (bif2 (Nat.ble f 28) (bif2 (Nat.beq f 28) (some fn28) none) (bif2 (Nat.beq f 29) (some fn29) none)) (bif2 (Nat.ble f 30) (bif2 (Nat.beq f 30) (some fn30) none) (bif2 (Nat.beq f 31) (some fn31) none)))))) (bif2 (Nat.ble f 45) (bif2 (Nat.ble f 38) (bif2 (Nat.ble f 34) (bif2 (Nat.ble f 32) (bif2 (Nat.beq f 32) (some fn32) none) (bif2 (Nat.ble f 33) (bif2 (Nat.beq f 33) (some fn33) none) (bif2 (Nat.beq f 34) (some fn34) none))) (bif2 (Nat.ble f 36) (bif2 (Nat.ble f 35) (bif2 (Nat.beq f 35) (some fn35) none) (bif2 (Nat.beq f 36) (some fn36) none)) (bif2 (Nat.ble f 37) (bif2 (Nat.beq f 37) (some fn37) none) (bif2 (Nat.beq f 38) (some fn38) none)))) (bif2 (Nat.ble f 41) (bif2 (Nat.ble f 39) (bif2 (Nat.beq f 39) (some fn39) none) (bif2 (Nat.ble f 40) (bif2 (Nat.beq f 40) (some fn40) none) (bif2 (Nat.beq f 41) (some fn41) none))) (bif2 (Nat.ble f 43) (bif2 (Nat.ble f 42) (bif2 (Nat.beq f 42) (some fn42) none) (bif2 (Nat.beq f 43) (some fn43) none)) (bif2 (Nat.ble f 44) (bif2 (Nat.beq f 44) (some fn44) none) (bif2 (Nat.beq f 45) (some fn45) none))))) (bif2 (Nat.ble f 54) (bif2 (Nat.ble f 50) (bif2 (Nat.ble f 46) (bif2 (Nat.beq f 46) (some fn46) none) (bif2 (Nat.ble f 48) (bif2 (Nat.beq f 48) (some fn48) none) (bif2 (Nat.beq f 50) (some fn50) none))) (bif2 (Nat.ble f 52) (bif2 (Nat.ble f 51) (bif2 (Nat.beq f 51) (some fn51) none) (bif2 (Nat.beq f 52) (some fn52) none)) (bif2 (Nat.ble f 53) (bif2 (Nat.beq f 53) (some fn53) none) (bif2 (Nat.beq f 54) (some fn54) none)))) (bif2 (Nat.ble f 57) (bif2 (Nat.ble f 55) (bif2 (Nat.beq f 55) (some fn55) none) (bif2 (Nat.ble f 56) (bif2 (Nat.beq f 56) (some fn56) none) (bif2 (Nat.beq f 57) (some fn57) none))) (bif2 (Nat.ble f 71) (bif2 (Nat.ble f 70) (bif2 (Nat.beq f 70) (some fn70) none) (bif2 (Nat.beq f 71) (some fn71) none)) (bif2 (Nat.ble f 72) (bif2 (Nat.beq f 72) (some fn72) none) (bif2 (Nat.beq f 84) (some fn84) none)))))))
theorem T4 : T 4 = some fn4 := rfl
theorem T7 : T 7 = some fn7 := rfl
theorem T8 : T 8 = some fn8 := rfl
theorem T9 : T 9 = some fn9 := rfl
theorem T14 : T 14 = some fn14 := rfl
theorem T16 : T 16 = some fn16 := rfl
theorem T17 : T 17 = some fn17 := rfl
theorem T18 : T 18 = some fn18 := rfl
theorem T27 : T 27 = some fn27 := rfl
theorem T31 : T 31 = some fn31 := rfl
theorem T32 : T 32 = some fn32 := rfl
theorem T33 : T 33 = some fn33 := rfl
theorem T34 : T 34 = some fn34 := rfl
theorem T35 : T 35 = some fn35 := rfl
theorem T36 : T 36 = some fn36 := rfl
theorem T37 : T 37 = some fn37 := rfl
theorem T38 : T 38 = some fn38 := rfl
theorem T39 : T 39 = some fn39 := rfl
theorem T45 : T 45 = some fn45 := rfl
theorem T46 : T 46 = some fn46 := rfl
theorem T50 : T 50 = some fn50 := rfl
theorem T51 : T 51 = some fn51 := rfl
theorem T52 : T 52 = some fn52 := rfl
theorem T53 : T 53 = some fn53 := rfl
theorem T54 : T 54 = some fn54 := rfl
theorem T55 : T 55 = some fn55 := rfl
theorem T56 : T 56 = some fn56 := rfl
theorem T57 : T 57 = some fn57 := rfl
theorem T70 : T 70 = some fn70 := rfl
theorem T71 : T 71 = some fn71 := rfl
theorem T72 : T 72 = some fn72 := rfl
theorem T84 : T 84 = some fn84 := rfl
theorem tabOk {Gd : Ground} (hg : GroundOk Gd) (he : ∀ f n k, Te f = some (n, k) → ExtOk Gd Tryd.prog f k) : TabOk Gd Tryd.prog T := by
  refine ⟨hg, fun f hfn h => ?_⟩
  unfold T at h
  rcases bif2_or h with ⟨_, h⟩ | ⟨_, h⟩
  · rcases bif2_or h with ⟨_, h⟩ | ⟨_, h⟩
    · rcases bif2_or h with ⟨_, h⟩ | ⟨_, h⟩
      · rcases bif2_or h with ⟨_, h⟩ | ⟨_, h⟩
        · rcases bif2_or h with ⟨_, h⟩ | ⟨_, h⟩
          · obtain ⟨hb, h⟩ := bif2_some h
            cases h
            rw [Nat.eq_of_beq_eq_true hb]
            exact .inl ⟨fun k hk => (by cases hk), Hs 3, c3⟩
          · rcases bif2_or h with ⟨_, h⟩ | ⟨_, h⟩
            · obtain ⟨hb, h⟩ := bif2_some h
              cases h
              rw [Nat.eq_of_beq_eq_true hb]
              exact .inl ⟨fun k hk => (by cases hk), Hs 4, c4⟩
            · obtain ⟨hb, h⟩ := bif2_some h
              cases h
              rw [Nat.eq_of_beq_eq_true hb]
              exact .inl ⟨fun k hk => (by cases hk), Hs 5, c5⟩
        · rcases bif2_or h with ⟨_, h⟩ | ⟨_, h⟩
          · rcases bif2_or h with ⟨_, h⟩ | ⟨_, h⟩
            · obtain ⟨hb, h⟩ := bif2_some h
              cases h
              rw [Nat.eq_of_beq_eq_true hb]
              exact .inl ⟨fun k hk => (by cases hk), Hs 7, c7⟩
            · obtain ⟨hb, h⟩ := bif2_some h
              cases h
              rw [Nat.eq_of_beq_eq_true hb]
              exact .inl ⟨fun k hk => (by cases hk), Hs 8, c8⟩
          · rcases bif2_or h with ⟨_, h⟩ | ⟨_, h⟩
            · obtain ⟨hb, h⟩ := bif2_some h
              cases h
              rw [Nat.eq_of_beq_eq_true hb]
              exact .inl ⟨fun k hk => (by cases hk), Hs 9, c9⟩
            · obtain ⟨hb, h⟩ := bif2_some h
              cases h
              rw [Nat.eq_of_beq_eq_true hb]
              exact .inl ⟨fun k hk => (by cases hk), Hs 10, c10⟩
      · rcases bif2_or h with ⟨_, h⟩ | ⟨_, h⟩
        · rcases bif2_or h with ⟨_, h⟩ | ⟨_, h⟩
          · obtain ⟨hb, h⟩ := bif2_some h
            cases h
            rw [Nat.eq_of_beq_eq_true hb]
            exact .inl ⟨fun k hk => (by cases hk), Hs 11, c11⟩
          · rcases bif2_or h with ⟨_, h⟩ | ⟨_, h⟩
            · obtain ⟨hb, h⟩ := bif2_some h
              cases h
              rw [Nat.eq_of_beq_eq_true hb]
              exact .inl ⟨fun k hk => (by cases hk), Hs 12, c12⟩
            · obtain ⟨hb, h⟩ := bif2_some h
              cases h
              rw [Nat.eq_of_beq_eq_true hb]
              exact .inl ⟨fun k hk => (by cases hk), Hs 13, c13⟩
        · rcases bif2_or h with ⟨_, h⟩ | ⟨_, h⟩
          · rcases bif2_or h with ⟨_, h⟩ | ⟨_, h⟩
            · obtain ⟨hb, h⟩ := bif2_some h
              cases h
              rw [Nat.eq_of_beq_eq_true hb]
              exact .inl ⟨fun k hk => (by cases hk), Hs 14, c14⟩
            · obtain ⟨hb, h⟩ := bif2_some h
              cases h
              rw [Nat.eq_of_beq_eq_true hb]
              exact .inl ⟨fun k hk => (by cases hk), Hs 15, c15⟩
          · rcases bif2_or h with ⟨_, h⟩ | ⟨_, h⟩
            · obtain ⟨hb, h⟩ := bif2_some h
              cases h
              rw [Nat.eq_of_beq_eq_true hb]
              exact .inl ⟨fun k hk => (by cases hk), Hs 16, c16⟩
            · obtain ⟨hb, h⟩ := bif2_some h
              cases h
              rw [Nat.eq_of_beq_eq_true hb]
              exact .inl ⟨fun k hk => (by cases hk), Hs 17, c17⟩
    · rcases bif2_or h with ⟨_, h⟩ | ⟨_, h⟩
      · rcases bif2_or h with ⟨_, h⟩ | ⟨_, h⟩
        · rcases bif2_or h with ⟨_, h⟩ | ⟨_, h⟩
          · obtain ⟨hb, h⟩ := bif2_some h
            cases h
            rw [Nat.eq_of_beq_eq_true hb]
            exact .inl ⟨fun k hk => (by cases hk), Hs 18, c18⟩
          · rcases bif2_or h with ⟨_, h⟩ | ⟨_, h⟩
            · obtain ⟨hb, h⟩ := bif2_some h
              cases h
              rw [Nat.eq_of_beq_eq_true hb]
              exact .inl ⟨fun k hk => (by cases hk), Hs 19, c19⟩
            · obtain ⟨hb, h⟩ := bif2_some h
              cases h
              rw [Nat.eq_of_beq_eq_true hb]
              exact .inl ⟨fun k hk => (by cases hk), Hs 20, c20⟩
        · rcases bif2_or h with ⟨_, h⟩ | ⟨_, h⟩
          · rcases bif2_or h with ⟨_, h⟩ | ⟨_, h⟩
            · obtain ⟨hb, h⟩ := bif2_some h
              cases h
              rw [Nat.eq_of_beq_eq_true hb]
              exact .inl ⟨fun k hk => (by cases hk), Hs 21, c21⟩
            · obtain ⟨hb, h⟩ := bif2_some h
              cases h
              rw [Nat.eq_of_beq_eq_true hb]
              exact .inl ⟨fun k hk => (by cases hk), Hs 22, c22⟩
          · rcases bif2_or h with ⟨_, h⟩ | ⟨_, h⟩
            · obtain ⟨hb, h⟩ := bif2_some h
              cases h
              rw [Nat.eq_of_beq_eq_true hb]
              exact .inl ⟨fun k hk => (by cases hk), Hs 23, c23⟩
            · obtain ⟨hb, h⟩ := bif2_some h
              cases h
              rw [Nat.eq_of_beq_eq_true hb]
              exact .inl ⟨fun k hk => (by cases hk), Hs 24, c24⟩
      · rcases bif2_or h with ⟨_, h⟩ | ⟨_, h⟩
        · rcases bif2_or h with ⟨_, h⟩ | ⟨_, h⟩
          · obtain ⟨hb, h⟩ := bif2_some h
            cases h
            rw [Nat.eq_of_beq_eq_true hb]
            exact .inl ⟨fun k hk => (by cases hk), Hs 25, c25⟩
          · rcases bif2_or h with ⟨_, h⟩ | ⟨_, h⟩
            · obtain ⟨hb, h⟩ := bif2_some h
              cases h
              rw [Nat.eq_of_beq_eq_true hb]
              exact .inl ⟨fun k hk => (by cases hk), Hs 26, c26⟩
            · obtain ⟨hb, h⟩ := bif2_some h
              cases h
              rw [Nat.eq_of_beq_eq_true hb]
              exact .inl ⟨fun k hk => (by cases hk), Hs 27, c27⟩
        · rcases bif2_or h with ⟨_, h⟩ | ⟨_, h⟩
          · rcases bif2_or h with ⟨_, h⟩ | ⟨_, h⟩
            · obtain ⟨hb, h⟩ := bif2_some h
              cases h
              rw [Nat.eq_of_beq_eq_true hb]
              exact .inr ⟨17, rfl, he 28 _ _ rfl⟩
            · obtain ⟨hb, h⟩ := bif2_some h
              cases h
              rw [Nat.eq_of_beq_eq_true hb]
              exact .inl ⟨fun k hk => (by cases hk), Hs 29, c29⟩
          · rcases bif2_or h with ⟨_, h⟩ | ⟨_, h⟩
            · obtain ⟨hb, h⟩ := bif2_some h
              cases h
              rw [Nat.eq_of_beq_eq_true hb]
              exact .inl ⟨fun k hk => (by cases hk), Hs 30, c30⟩
            · obtain ⟨hb, h⟩ := bif2_some h
              cases h
              rw [Nat.eq_of_beq_eq_true hb]
              exact .inr ⟨0, rfl, he 31 _ _ rfl⟩
  · rcases bif2_or h with ⟨_, h⟩ | ⟨_, h⟩
    · rcases bif2_or h with ⟨_, h⟩ | ⟨_, h⟩
      · rcases bif2_or h with ⟨_, h⟩ | ⟨_, h⟩
        · rcases bif2_or h with ⟨_, h⟩ | ⟨_, h⟩
          · obtain ⟨hb, h⟩ := bif2_some h
            cases h
            rw [Nat.eq_of_beq_eq_true hb]
            exact .inl ⟨fun k hk => (by cases hk), Hs 32, c32⟩
          · rcases bif2_or h with ⟨_, h⟩ | ⟨_, h⟩
            · obtain ⟨hb, h⟩ := bif2_some h
              cases h
              rw [Nat.eq_of_beq_eq_true hb]
              exact .inl ⟨fun k hk => (by cases hk), Hs 33, c33⟩
            · obtain ⟨hb, h⟩ := bif2_some h
              cases h
              rw [Nat.eq_of_beq_eq_true hb]
              exact .inl ⟨fun k hk => (by cases hk), Hs 34, c34⟩
        · rcases bif2_or h with ⟨_, h⟩ | ⟨_, h⟩
          · rcases bif2_or h with ⟨_, h⟩ | ⟨_, h⟩
            · obtain ⟨hb, h⟩ := bif2_some h
              cases h
              rw [Nat.eq_of_beq_eq_true hb]
              exact .inl ⟨fun k hk => (by cases hk), Hs 35, c35⟩
            · obtain ⟨hb, h⟩ := bif2_some h
              cases h
              rw [Nat.eq_of_beq_eq_true hb]
              exact .inl ⟨fun k hk => (by cases hk), Hs 36, c36⟩
          · rcases bif2_or h with ⟨_, h⟩ | ⟨_, h⟩
            · obtain ⟨hb, h⟩ := bif2_some h
              cases h
              rw [Nat.eq_of_beq_eq_true hb]
              exact .inl ⟨fun k hk => (by cases hk), Hs 37, c37⟩
            · obtain ⟨hb, h⟩ := bif2_some h
              cases h
              rw [Nat.eq_of_beq_eq_true hb]
              exact .inl ⟨fun k hk => (by cases hk), Hs 38, c38⟩
      · rcases bif2_or h with ⟨_, h⟩ | ⟨_, h⟩
        · rcases bif2_or h with ⟨_, h⟩ | ⟨_, h⟩
          · obtain ⟨hb, h⟩ := bif2_some h
            cases h
            rw [Nat.eq_of_beq_eq_true hb]
            exact .inl ⟨fun k hk => (by cases hk), Hs 39, c39⟩
          · rcases bif2_or h with ⟨_, h⟩ | ⟨_, h⟩
            · obtain ⟨hb, h⟩ := bif2_some h
              cases h
              rw [Nat.eq_of_beq_eq_true hb]
              exact .inl ⟨fun k hk => (by cases hk), Hs 40, c40⟩
            · obtain ⟨hb, h⟩ := bif2_some h
              cases h
              rw [Nat.eq_of_beq_eq_true hb]
              exact .inl ⟨fun k hk => (by cases hk), Hs 41, c41⟩
        · rcases bif2_or h with ⟨_, h⟩ | ⟨_, h⟩
          · rcases bif2_or h with ⟨_, h⟩ | ⟨_, h⟩
            · obtain ⟨hb, h⟩ := bif2_some h
              cases h
              rw [Nat.eq_of_beq_eq_true hb]
              exact .inl ⟨fun k hk => (by cases hk), Hs 42, c42⟩
            · obtain ⟨hb, h⟩ := bif2_some h
              cases h
              rw [Nat.eq_of_beq_eq_true hb]
              exact .inl ⟨fun k hk => (by cases hk), Hs 43, c43⟩
          · rcases bif2_or h with ⟨_, h⟩ | ⟨_, h⟩
            · obtain ⟨hb, h⟩ := bif2_some h
              cases h
              rw [Nat.eq_of_beq_eq_true hb]
              exact .inl ⟨fun k hk => (by cases hk), Hs 44, c44⟩
            · obtain ⟨hb, h⟩ := bif2_some h
              cases h
              rw [Nat.eq_of_beq_eq_true hb]
              exact .inl ⟨fun k hk => (by cases hk), Hs 45, c45⟩
    · rcases bif2_or h with ⟨_, h⟩ | ⟨_, h⟩
      · rcases bif2_or h with ⟨_, h⟩ | ⟨_, h⟩
        · rcases bif2_or h with ⟨_, h⟩ | ⟨_, h⟩
          · obtain ⟨hb, h⟩ := bif2_some h
            cases h
            rw [Nat.eq_of_beq_eq_true hb]
            exact .inr ⟨15, rfl, he 46 _ _ rfl⟩
          · rcases bif2_or h with ⟨_, h⟩ | ⟨_, h⟩
            · obtain ⟨hb, h⟩ := bif2_some h
              cases h
              rw [Nat.eq_of_beq_eq_true hb]
              exact .inl ⟨fun k hk => (by cases hk), Hs 48, c48⟩
            · obtain ⟨hb, h⟩ := bif2_some h
              cases h
              rw [Nat.eq_of_beq_eq_true hb]
              exact .inr ⟨11, rfl, he 50 _ _ rfl⟩
        · rcases bif2_or h with ⟨_, h⟩ | ⟨_, h⟩
          · rcases bif2_or h with ⟨_, h⟩ | ⟨_, h⟩
            · obtain ⟨hb, h⟩ := bif2_some h
              cases h
              rw [Nat.eq_of_beq_eq_true hb]
              exact .inr ⟨12, rfl, he 51 _ _ rfl⟩
            · obtain ⟨hb, h⟩ := bif2_some h
              cases h
              rw [Nat.eq_of_beq_eq_true hb]
              exact .inl ⟨fun k hk => (by cases hk), Hs 52, c52⟩
          · rcases bif2_or h with ⟨_, h⟩ | ⟨_, h⟩
            · obtain ⟨hb, h⟩ := bif2_some h
              cases h
              rw [Nat.eq_of_beq_eq_true hb]
              exact .inl ⟨fun k hk => (by cases hk), Hs 53, c53⟩
            · obtain ⟨hb, h⟩ := bif2_some h
              cases h
              rw [Nat.eq_of_beq_eq_true hb]
              exact .inl ⟨fun k hk => (by cases hk), Hs 54, c54⟩
      · rcases bif2_or h with ⟨_, h⟩ | ⟨_, h⟩
        · rcases bif2_or h with ⟨_, h⟩ | ⟨_, h⟩
          · obtain ⟨hb, h⟩ := bif2_some h
            cases h
            rw [Nat.eq_of_beq_eq_true hb]
            exact .inl ⟨fun k hk => (by cases hk), Hs 55, c55⟩
          · rcases bif2_or h with ⟨_, h⟩ | ⟨_, h⟩
            · obtain ⟨hb, h⟩ := bif2_some h
              cases h
              rw [Nat.eq_of_beq_eq_true hb]
              exact .inr ⟨10, rfl, he 56 _ _ rfl⟩
            · obtain ⟨hb, h⟩ := bif2_some h
              cases h
              rw [Nat.eq_of_beq_eq_true hb]
              exact .inl ⟨fun k hk => (by cases hk), Hs 57, c57⟩
        · rcases bif2_or h with ⟨_, h⟩ | ⟨_, h⟩
          · rcases bif2_or h with ⟨_, h⟩ | ⟨_, h⟩
            · obtain ⟨hb, h⟩ := bif2_some h
              cases h
              rw [Nat.eq_of_beq_eq_true hb]
              exact .inl ⟨fun k hk => (by cases hk), Hs 70, c70⟩
            · obtain ⟨hb, h⟩ := bif2_some h
              cases h
              rw [Nat.eq_of_beq_eq_true hb]
              exact .inl ⟨fun k hk => (by cases hk), Hs 71, c71⟩
          · rcases bif2_or h with ⟨_, h⟩ | ⟨_, h⟩
            · obtain ⟨hb, h⟩ := bif2_some h
              cases h
              rw [Nat.eq_of_beq_eq_true hb]
              exact .inl ⟨fun k hk => (by cases hk), Hs 72, c72⟩
            · obtain ⟨hb, h⟩ := bif2_some h
              cases h
              rw [Nat.eq_of_beq_eq_true hb]
              exact .inr ⟨16, rfl, he 84 _ _ rfl⟩
end Go.Proofs.YtbdebcmklaooaaaDoor.AM.Sa
