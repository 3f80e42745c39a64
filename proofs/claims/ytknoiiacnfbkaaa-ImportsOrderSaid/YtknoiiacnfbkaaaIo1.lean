/- The functions that ImportsOrder reaches, each checked against the translation, part two; the table of them. -/
import Derived.Test.YtknoiiacnfbkaaaIo1a
set_option maxRecDepth 1000000
set_option linter.unusedVariables false
set_option linter.unusedSimpArgs false
namespace Go.Proofs.Ytknoiiacnfbkaaa.AM.Io
open Go.Proofs
/- sterling/initorder.Reach -/
@[simp] def r14_0 : List HOp := [⟨(some 4), true, .mv (.val (.tr (.sc (.slice none 0 0)))), none⟩]
@[simp] def r14_1 : List HOp := [⟨(some 11), false, .mkmap, none⟩,
     ⟨(some 5), true, .mv (.loc 11), none⟩]
@[simp] def r14_2 : List HOp := [⟨(some 12), false, .mv (.env 1), none⟩,
     ⟨(some 13), false, .bslice true 1 1 [(.sc (.int .i64 0))] [(0, 1, (.loc 12))], none⟩,
     ⟨(some 6), true, .mv (.loc 13), none⟩]
@[simp] def r14_3 : List HOp := [⟨(some 7), true, .mv (.val (.tr (.sc (.slice none 0 0)))), none⟩]
@[simp] def r14_4 : List HOp := [⟨(some 14), false, .mv (.env 6), none⟩,
         ⟨(some 15), false, .len 1 (.loc 14), none⟩,
         ⟨(some 16), false, .bin .other .gtr (.loc 15) (.val (.tr (.sc (.int .i64 0)))), none⟩]
@[simp] def r14_5 : List HOp := [⟨(some 17), false, .mv (.env 6), none⟩,
         ⟨(some 18), false, .mv (.env 6), none⟩,
         ⟨(some 19), false, .len 1 (.loc 18), none⟩,
         ⟨(some 20), false, .bin .other .sub (.loc 19) (.val (.tr (.sc (.int .i64 1)))), none⟩,
         ⟨(some 21), false, .iaddr 1 (.loc 17) (.loc 20), none⟩,
         ⟨(some 22), false, .load 1 false (.loc 21), none⟩,
         ⟨(some 8), true, .mv (.loc 22), none⟩]
@[simp] def r14_6 : List HOp := [⟨(some 23), false, .mv (.env 6), none⟩,
         ⟨(some 24), false, .mv (.env 6), none⟩,
         ⟨(some 25), false, .len 1 (.loc 24), none⟩,
         ⟨(some 26), false, .bin .other .sub (.loc 25) (.val (.tr (.sc (.int .i64 1)))), none⟩,
         ⟨(some 27), false, .slice 1 (.loc 23) none (some (.loc 26)) none, none⟩,
         ⟨(some 6), true, .mv (.loc 27), none⟩]
@[simp] def r14_7 : List HOp := [⟨(some 28), false, .mv (.env 8), none⟩,
          ⟨(some 29), false, .bin .other .lss (.loc 28) (.val (.tr (.sc (.int .i64 0)))), none⟩,
          ⟨(some 30), false, .mv (.loc 29), none⟩,
          ⟨(some 31), false, .mv (.env 8), some ((.loc 30), false)⟩,
          ⟨(some 32), false, .mv (.env 0), some ((.loc 30), false)⟩,
          ⟨(some 33), false, .len 1 (.loc 32), some ((.loc 30), false)⟩,
          ⟨(some 34), false, .bin .other .geq (.loc 31) (.loc 33), some ((.loc 30), false)⟩,
          ⟨(some 35), false, .pick (.loc 30) (.val (.tr (.sc (.bool true)))) (.loc 34), none⟩]
@[simp] def r14_8 : List HOp := [⟨(some 36), false, .mv (.env 0), none⟩,
         ⟨(some 37), false, .mv (.env 8), none⟩,
         ⟨(some 38), false, .iaddr 1 (.loc 36) (.loc 37), none⟩,
         ⟨(some 39), true, .load 1 false (.loc 38), none⟩,
         ⟨(some 40), true, .len 1 (.env 39), none⟩,
         ⟨(some 41), true, .mv (.val (.tr (.sc (.int .i64 0)))), none⟩]
@[simp] def r14_9 : List HOp := [⟨(some 42), false, .bin .other .lss (.env 41) (.env 40), none⟩]
@[simp] def r14_10 : List HOp := [⟨(some 43), false, .iaddr 1 (.env 39) (.env 41), none⟩,
             ⟨(some 44), false, .load 1 false (.loc 43), none⟩,
             ⟨(some 10), true, .mv (.loc 44), none⟩]
@[simp] def r14_11 : List HOp := [⟨(some 45), false, .mv (.env 10), none⟩,
              ⟨(some 46), false, .bin .other .lss (.loc 45) (.val (.tr (.sc (.int .i64 0)))), none⟩,
              ⟨(some 47), false, .mv (.loc 46), none⟩,
              ⟨(some 48), false, .mv (.env 10), some ((.loc 47), false)⟩,
              ⟨(some 49), false, .mv (.env 0), some ((.loc 47), false)⟩,
              ⟨(some 50), false, .len 1 (.loc 49), some ((.loc 47), false)⟩,
              ⟨(some 51), false, .bin .other .geq (.loc 48) (.loc 50), some ((.loc 47), false)⟩,
              ⟨(some 52), false, .pick (.loc 47) (.val (.tr (.sc (.bool true)))) (.loc 51), none⟩]
@[simp] def r14_12 : List HOp := [⟨(some 53), false, .mv (.env 5), none⟩,
             ⟨(some 54), false, .mv (.env 10), none⟩,
             ⟨(some 55), false, .lookup (.int .i64) (.sc (.int .i64 0)) false (.loc 53) (.loc 54), none⟩,
             ⟨(some 56), false, .bin .other .add (.loc 55) (.val (.tr (.sc (.int .i64 1)))), none⟩,
             ⟨none, false, .mupd (.int .i64) (.loc 53) (.loc 54) (.loc 56), none⟩]
@[simp] def r14_13 : List HOp := [⟨(some 57), false, .mv (.env 5), none⟩,
             ⟨(some 58), false, .mv (.env 10), none⟩,
             ⟨(some 59), false, .lookup (.int .i64) (.sc (.int .i64 0)) false (.loc 57) (.loc 58), none⟩,
             ⟨(some 60), false, .bin .other .eql (.loc 59) (.val (.tr (.sc (.int .i64 1)))), none⟩]
@[simp] def r14_14 : List HOp := [⟨(some 61), false, .mv (.env 7), none⟩,
              ⟨(some 62), false, .mv (.env 10), none⟩,
              ⟨(some 63), false, .bslice false 1 1 [(.sc (.int .i64 0))] [(0, 1, (.loc 62))], none⟩,
              ⟨(some 64), false, .append 1 8 (.loc 61) (.loc 63), none⟩,
              ⟨(some 7), true, .mv (.loc 64), none⟩]
@[simp] def r14_15 : List HOp := [⟨(some 65), false, .mv (.env 6), none⟩,
             ⟨(some 66), false, .mv (.env 10), none⟩,
             ⟨(some 67), false, .bslice false 1 1 [(.sc (.int .i64 0))] [(0, 1, (.loc 66))], none⟩,
             ⟨(some 68), false, .append 1 8 (.loc 65) (.loc 67), none⟩,
             ⟨(some 6), true, .mv (.loc 68), none⟩]
@[simp] def r14_16 : List HOp := [⟨(some 69), false, .bin .other .add (.env 41) (.val (.tr (.sc (.int .i64 1)))), none⟩,
          ⟨(some 41), true, .mv (.loc 69), none⟩]
@[simp] def r14_17 : List HOp := [⟨(some 70), false, .mv (.env 7), none⟩,
     ⟨(some 71), false, .callf 26 [(.loc 70)], none⟩]
@[simp] def r14_18 : List HOp := [⟨(some 72), false, .mv (.env 7), none⟩,
     ⟨(some 4), true, .mv (.loc 72), none⟩]
@[simp] def k14_5 : HCode := .cond (.loc 16) .skip (.exit 0)
@[simp] def k14_9 : HCode := .cond (.loc 35) (.exit 1) .skip
@[simp] def k14_16 : HCode := .cond (.loc 52) (.exit 3) .skip
@[simp] def k14_20 : HCode := .seq (.region r14_14 none) (.region r14_15 none)
@[simp] def k14_19 : HCode := .cond (.loc 60) k14_20 .skip
@[simp] def k14_18 : HCode := .seq (.region r14_13 none) k14_19
def k14_17 : HCode := .seq (.region r14_12 none) k14_18
@[simp] def k14_15 : HCode := .seq (.seq (.region r14_11 none) k14_16) k14_17
def k14_21 : HCode := .region r14_16 none
def k14_14 : HCode := .seq (.block 3 (.seq (.region r14_10 none) k14_15)) k14_21
@[simp] def k14_13 : HCode := .seq (.cond (.loc 42) .skip (.exit 2)) k14_14
def k14_12 : HCode := .seq (.region r14_9 none) k14_13
@[simp] def k14_11 : HCode := .block 2 (.loop k14_12)
def k14_10 : HCode := .seq (.region r14_8 none) k14_11
@[simp] def k14_8 : HCode := .seq (.seq (.region r14_7 none) k14_9) k14_10
@[simp] def k14_7 : HCode := .seq (.region r14_6 none) k14_8
def k14_6 : HCode := .block 1 (.seq (.region r14_5 none) k14_7)
def k14_4 : HCode := .seq (.seq (.region r14_4 none) k14_5) k14_6
@[simp] def k14_23 : HCode := .seq (.region r14_18 none) .ret
def k14_22 : HCode := .seq (.region r14_17 none) k14_23
@[simp] def k14_3 : HCode := .seq (.block 0 (.loop k14_4)) k14_22
@[simp] def k14_2 : HCode := .seq (.region r14_3 none) k14_3
@[simp] def k14_1 : HCode := .seq (.region r14_2 none) k14_2
@[simp] def k14_0 : HCode := .seq (.region r14_1 none) k14_1
@[simp] def fn14 : HFn := { nargs := 2, results := [.tmp 4], mode := .iso, code := (.seq (.region r14_0 none) k14_0) }
theorem c14 : cFn Try.prog (Hs 14) .iso 14 = some fn14 := by kernel_rfl
/- slices.Contains[[]int,int] -/
@[simp] def r23_0 : List HOp := [⟨(some 4), true, .mv (.val (.tr (.sc (.bool false)))), none⟩]
@[simp] def r23_1 : List HOp := [⟨(some 5), false, .mv (.env 0), none⟩,
     ⟨(some 6), false, .mv (.env 1), none⟩,
     ⟨(some 7), false, .callf 29 [(.loc 5), (.loc 6)], none⟩,
     ⟨(some 8), false, .bin .other .geq (.loc 7) (.val (.tr (.sc (.int .i64 0)))), none⟩,
     ⟨(some 4), true, .mv (.loc 8), none⟩]
@[simp] def k23_0 : HCode := .seq (.region r23_1 none) .ret
@[simp] def fn23 : HFn := { nargs := 2, results := [.tmp 4], mode := .shared, code := (.seq (.region r23_0 none) k23_0) }
theorem c23 : cFn Try.prog (Hs 23) .shared 23 = some fn23 := by kernel_rfl
/- slices.Index[[]int,int] -/
@[simp] def r29_0 : List HOp := [⟨(some 4), true, .mv (.val (.tr (.sc (.int .i64 0)))), none⟩]
@[simp] def r29_1 : List HOp := [⟨(some 6), false, .mv (.env 0), none⟩,
      ⟨(some 7), true, .len 1 (.loc 6), none⟩,
      ⟨(some 8), true, .mv (.val (.tr (.sc (.int .i64 0)))), none⟩]
@[simp] def r29_2 : List HOp := [⟨(some 9), false, .bin .other .lss (.env 8) (.env 7), none⟩]
@[simp] def r29_3 : List HOp := [⟨(some 10), false, .mv (.env 8), none⟩,
          ⟨(some 5), true, .mv (.loc 10), none⟩]
@[simp] def r29_4 : List HOp := [⟨(some 11), false, .mv (.env 1), none⟩,
          ⟨(some 12), false, .mv (.env 0), none⟩,
          ⟨(some 13), false, .mv (.env 5), none⟩,
          ⟨(some 14), false, .iaddr 1 (.loc 12) (.loc 13), none⟩,
          ⟨(some 15), false, .load 1 false (.loc 14), none⟩,
          ⟨(some 16), false, .bin .other .eql (.loc 11) (.loc 15), none⟩]
@[simp] def r29_5 : List HOp := [⟨(some 17), false, .mv (.env 5), none⟩,
           ⟨(some 4), true, .mv (.loc 17), none⟩]
@[simp] def r29_6 : List HOp := [⟨(some 18), false, .bin .other .add (.env 8) (.val (.tr (.sc (.int .i64 1)))), none⟩,
       ⟨(some 8), true, .mv (.loc 18), none⟩]
@[simp] def r29_7 : List HOp := [⟨(some 4), true, .mv (.val (.tr (.sc (.int .i64 (-1))))), none⟩]
@[simp] def k29_7 : HCode := .seq (.region r29_5 none) .ret
@[simp] def k29_6 : HCode := .cond (.loc 16) k29_7 .skip
@[simp] def k29_5 : HCode := .seq (.region r29_4 none) k29_6
def k29_8 : HCode := .region r29_6 none
def k29_4 : HCode := .seq (.block 1 (.seq (.region r29_3 none) k29_5)) k29_8
@[simp] def k29_3 : HCode := .seq (.cond (.loc 9) .skip (.exit 0)) k29_4
def k29_2 : HCode := .seq (.region r29_2 none) k29_3
@[simp] def k29_1 : HCode := .block 0 (.loop k29_2)
def k29_9 : HCode := .seq (.region r29_7 none) .ret
@[simp] def k29_0 : HCode := .seq (.seq (.region r29_1 none) k29_1) k29_9
@[simp] def fn29 : HFn := { nargs := 2, results := [.tmp 4], mode := .shared, code := (.seq (.region r29_0 none) k29_0) }
theorem c29 : cFn Try.prog (Hs 29) .shared 29 = some fn29 := by kernel_rfl
/- sterling/initorder.Order$1 -/
@[simp] def r25_0 : List HOp := [⟨(some 4), true, .mv (.val (.tr (.sc (.bool false)))), none⟩]
@[simp] def r25_1 : List HOp := [⟨(some 5), false, .load 1 false (.env 1), none⟩,
     ⟨(some 6), false, .mv (.env 0), none⟩,
     ⟨(some 7), false, .iaddr 1 (.loc 5) (.loc 6), none⟩,
     ⟨(some 8), false, .load 1 false (.loc 7), none⟩,
     ⟨(some 9), false, .mv (.loc 8), none⟩,
     ⟨(some 10), false, .load 1 false (.env 2), some ((.loc 9), true)⟩,
     ⟨(some 11), false, .mv (.env 0), some ((.loc 9), true)⟩,
     ⟨(some 12), false, .iaddr 1 (.loc 10) (.loc 11), some ((.loc 9), true)⟩,
     ⟨(some 13), false, .load 1 false (.loc 12), some ((.loc 9), true)⟩,
     ⟨(some 14), false, .un .not (.loc 13), some ((.loc 9), true)⟩,
     ⟨(some 15), false, .pick (.loc 9) (.loc 14) (.val (.tr (.sc (.bool false)))), none⟩,
     ⟨(some 4), true, .mv (.loc 15), none⟩]
@[simp] def k25_0 : HCode := .seq (.region r25_1 none) .ret
@[simp] def fn25 : HFn := { nargs := 3, results := [.tmp 4], mode := .shared, code := (.seq (.region r25_0 none) k25_0) }
theorem c25 : cFn Try.prog (Hs 25) .shared 25 = some fn25 := by kernel_rfl
/- slices.ContainsFunc[[]int,int] -/
@[simp] def r24_0 : List HOp := [⟨(some 4), true, .mv (.val (.tr (.sc (.bool false)))), none⟩]
@[simp] def r24_1 : List HOp := [⟨(some 5), false, .mv (.env 0), none⟩,
     ⟨(some 6), false, .mv (.env 1), none⟩,
     ⟨(some 7), false, .callf 30 [(.loc 5), (.loc 6)], none⟩,
     ⟨(some 8), false, .bin .other .geq (.loc 7) (.val (.tr (.sc (.int .i64 0)))), none⟩,
     ⟨(some 4), true, .mv (.loc 8), none⟩]
@[simp] def k24_0 : HCode := .seq (.region r24_1 none) .ret
@[simp] def fn24 : HFn := { nargs := 2, results := [.tmp 4], mode := .shared, code := (.seq (.region r24_0 none) k24_0) }
theorem c24 : cFn Try.prog (Hs 24) .shared 24 = some fn24 := by kernel_rfl
/- slices.IndexFunc[[]int,int] -/
@[simp] def r30_0 : List HOp := [⟨(some 4), true, .mv (.val (.tr (.sc (.int .i64 0)))), none⟩]
@[simp] def r30_1 : List HOp := [⟨(some 6), false, .mv (.env 0), none⟩,
      ⟨(some 7), true, .len 1 (.loc 6), none⟩,
      ⟨(some 8), true, .mv (.val (.tr (.sc (.int .i64 0)))), none⟩]
@[simp] def r30_2 : List HOp := [⟨(some 9), false, .bin .other .lss (.env 8) (.env 7), none⟩]
@[simp] def r30_3 : List HOp := [⟨(some 10), false, .mv (.env 8), none⟩,
          ⟨(some 5), true, .mv (.loc 10), none⟩]
@[simp] def r30_4 : List HOp := [⟨(some 11), false, .mv (.env 1), none⟩,
          ⟨(some 12), false, .mv (.env 0), none⟩,
          ⟨(some 13), false, .mv (.env 5), none⟩,
          ⟨(some 14), false, .iaddr 1 (.loc 12) (.loc 13), none⟩,
          ⟨(some 15), false, .load 1 false (.loc 14), none⟩,
          ⟨(some 16), false, .callv (.loc 11) [(.loc 15)], none⟩]
@[simp] def r30_5 : List HOp := [⟨(some 17), false, .mv (.env 5), none⟩,
           ⟨(some 4), true, .mv (.loc 17), none⟩]
@[simp] def r30_6 : List HOp := [⟨(some 18), false, .bin .other .add (.env 8) (.val (.tr (.sc (.int .i64 1)))), none⟩,
       ⟨(some 8), true, .mv (.loc 18), none⟩]
@[simp] def r30_7 : List HOp := [⟨(some 4), true, .mv (.val (.tr (.sc (.int .i64 (-1))))), none⟩]
@[simp] def k30_7 : HCode := .seq (.region r30_5 none) .ret
@[simp] def k30_6 : HCode := .cond (.loc 16) k30_7 .skip
@[simp] def k30_5 : HCode := .seq (.region r30_4 none) k30_6
def k30_8 : HCode := .region r30_6 none
def k30_4 : HCode := .seq (.block 1 (.seq (.region r30_3 none) k30_5)) k30_8
@[simp] def k30_3 : HCode := .seq (.cond (.loc 9) .skip (.exit 0)) k30_4
def k30_2 : HCode := .seq (.region r30_2 none) k30_3
@[simp] def k30_1 : HCode := .block 0 (.loop k30_2)
def k30_9 : HCode := .seq (.region r30_7 none) .ret
@[simp] def k30_0 : HCode := .seq (.seq (.region r30_1 none) k30_1) k30_9
@[simp] def fn30 : HFn := { nargs := 2, results := [.tmp 4], mode := .shared, code := (.seq (.region r30_0 none) k30_0) }
theorem c30 : cFn Try.prog (Hs 30) .shared 30 = some fn30 := by kernel_rfl
/- sterling/sterlinglaw20.cut -/
@[simp] def r11_0 : List HOp := [⟨(some 4), true, .mv (.val (.tr (.sc (.slice none 0 0)))), none⟩]
@[simp] def r11_1 : List HOp := [⟨(some 5), true, .mv (.val (.tr (.sc (.slice none 0 0)))), none⟩]
@[simp] def r11_2 : List HOp := [⟨(some 6), true, .mv (.val (.tr (.sc (.int .i64 0)))), none⟩]
@[simp] def r11_3 : List HOp := [⟨(some 8), false, .mv (.env 6), none⟩,
         ⟨(some 9), false, .mv (.env 0), none⟩,
         ⟨(some 10), false, .len 1 (.loc 9), none⟩,
         ⟨(some 11), false, .bin .other .lss (.loc 8) (.loc 10), none⟩,
         ⟨(some 12), false, .mv (.loc 11), none⟩,
         ⟨(some 13), false, .mv (.env 6), some ((.loc 12), true)⟩,
         ⟨(some 14), false, .mv (.env 1), some ((.loc 12), true)⟩,
         ⟨(some 15), false, .bin .other .lss (.loc 13) (.loc 14), some ((.loc 12), true)⟩,
         ⟨(some 16), false, .pick (.loc 12) (.loc 15) (.val (.tr (.sc (.bool false)))), none⟩]
@[simp] def r11_4 : List HOp := [⟨(some 19), false, .mv (.env 0), none⟩,
          ⟨(some 20), false, .mv (.env 6), none⟩,
          ⟨(some 21), false, .iaddr 1 (.loc 19) (.loc 20), none⟩,
          ⟨(some 22), false, .load 1 false (.loc 21), none⟩,
          ⟨(some 7), true, .mv (.loc 22), none⟩]
@[simp] def r11_5 : List HOp := [⟨(some 23), false, .mv (.env 7), none⟩,
           ⟨(some 24), false, .len 1 (.loc 23), none⟩,
           ⟨(some 25), false, .bin .other .gtr (.loc 24) (.val (.tr (.sc (.int .i64 8)))), none⟩]
@[simp] def r11_6 : List HOp := [⟨(some 26), false, .mv (.env 7), none⟩,
           ⟨(some 27), false, .slice 1 (.loc 26) none (some (.val (.tr (.sc (.int .i64 8))))) none, none⟩,
           ⟨(some 7), true, .mv (.loc 27), none⟩]
@[simp] def r11_7 : List HOp := [⟨(some 28), false, .mv (.env 5), none⟩,
         ⟨(some 29), false, .mv (.env 7), none⟩,
         ⟨(some 30), false, .bslice false 1 1 [(.sc (.slice none 0 0))] [(0, 1, (.loc 29))], none⟩,
         ⟨(some 31), false, .append 1 24 (.loc 28) (.loc 30), none⟩,
         ⟨(some 5), true, .mv (.loc 31), none⟩]
@[simp] def r11_8 : List HOp := [⟨(some 17), false, .mv (.env 6), none⟩,
       ⟨(some 18), false, .bin .other .add (.loc 17) (.val (.tr (.sc (.int .i64 1)))), none⟩,
       ⟨(some 6), true, .mv (.loc 18), none⟩]
@[simp] def r11_9 : List HOp := [⟨(some 32), false, .mv (.env 5), none⟩,
     ⟨(some 4), true, .mv (.loc 32), none⟩]
@[simp] def k11_4 : HCode := .cond (.loc 16) .skip (.exit 0)
@[simp] def k11_7 : HCode := .cond (.loc 25) (.region r11_6 none) .skip
def k11_8 : HCode := .region r11_7 none
@[simp] def k11_6 : HCode := .seq (.seq (.region r11_5 none) k11_7) k11_8
def k11_9 : HCode := .region r11_8 none
def k11_5 : HCode := .seq (.block 1 (.seq (.region r11_4 none) k11_6)) k11_9
def k11_3 : HCode := .seq (.seq (.region r11_3 none) k11_4) k11_5
@[simp] def k11_2 : HCode := .block 0 (.loop k11_3)
def k11_10 : HCode := .seq (.region r11_9 none) .ret
@[simp] def k11_1 : HCode := .seq (.seq (.region r11_2 none) k11_2) k11_10
@[simp] def k11_0 : HCode := .seq (.region r11_1 none) k11_1
@[simp] def fn11 : HFn := { nargs := 2, results := [.tmp 4], mode := .iso, code := (.seq (.region r11_0 none) k11_0) }
theorem c11 : cFn Try.prog (Hs 11) .iso 11 = some fn11 := by kernel_rfl
/- sterling/sterlingref19.Init -/
@[simp] def r13_0 : List HOp := [⟨(some 4), true, .mv (.val (.tr (.sc (.slice none 0 0)))), none⟩,
     ⟨(some 5), true, .mv (.val (.tr (.sc (.bool false)))), none⟩]
@[simp] def r13_1 : List HOp := [⟨(some 15), false, .mv (.env 0), none⟩,
     ⟨(some 16), false, .len 1 (.loc 15), none⟩,
     ⟨(some 6), true, .mv (.loc 16), none⟩]
@[simp] def r13_2 : List HOp := [⟨(some 17), false, .mv (.env 6), none⟩,
     ⟨(some 18), false, .mkslice [(.sc (.slice none 0 0))] 24 (.loc 17) (.loc 17), none⟩,
     ⟨(some 7), true, .mv (.loc 18), none⟩]
@[simp] def r13_3 : List HOp := [⟨(some 8), true, .mv (.val (.tr (.sc (.int .i64 0)))), none⟩]
@[simp] def r13_4 : List HOp := [⟨(some 9), true, .mv (.val (.tr (.sc (.int .i64 0)))), none⟩]
@[simp] def r13_5 : List HOp := [⟨(some 19), false, .mv (.env 9), none⟩,
         ⟨(some 20), false, .mv (.env 6), none⟩,
         ⟨(some 21), false, .bin .other .lss (.loc 19) (.loc 20), none⟩]
@[simp] def r13_6 : List HOp := [⟨(some 24), false, .mv (.env 7), none⟩,
          ⟨(some 25), false, .mv (.env 9), none⟩,
          ⟨(some 26), false, .mv (.env 6), none⟩,
          ⟨(some 27), false, .mv (.env 1), none⟩,
          ⟨(some 28), false, .mv (.env 9), none⟩,
          ⟨(some 29), false, .callf 15 [(.loc 26), (.loc 27), (.loc 28)], none⟩,
          ⟨(some 30), false, .iaddr 1 (.loc 24) (.loc 25), none⟩,
          ⟨none, false, .store 1 (.loc 30) (.loc 29), none⟩]
@[simp] def r13_7 : List HOp := [⟨(some 31), false, .mv (.env 0), none⟩,
          ⟨(some 32), false, .mv (.env 9), none⟩,
          ⟨(some 33), false, .iaddr 1 (.loc 31) (.loc 32), none⟩,
          ⟨(some 34), false, .load 1 false (.loc 33), none⟩]
@[simp] def r13_8 : List HOp := [⟨(some 35), false, .mv (.env 8), none⟩,
           ⟨(some 36), false, .bin .other .add (.loc 35) (.val (.tr (.sc (.int .i64 1)))), none⟩,
           ⟨(some 8), true, .mv (.loc 36), none⟩]
@[simp] def r13_9 : List HOp := [⟨(some 37), false, .mv (.env 7), none⟩,
           ⟨(some 38), false, .mv (.env 9), none⟩,
           ⟨(some 39), false, .iaddr 1 (.loc 37) (.loc 38), none⟩,
           ⟨(some 40), false, .load 1 false (.loc 39), none⟩,
           ⟨(some 41), false, .mv (.env 9), none⟩,
           ⟨(some 42), false, .iaddr 1 (.loc 40) (.loc 41), none⟩,
           ⟨(some 43), false, .load 1 false (.loc 42), none⟩]
@[simp] def r13_10 : List HOp := [⟨(some 4), true, .mv (.val (.tr (.sc (.slice none 0 0)))), none⟩,
            ⟨(some 5), true, .mv (.val (.tr (.sc (.bool false)))), none⟩]
@[simp] def r13_11 : List HOp := [⟨(some 22), false, .mv (.env 9), none⟩,
       ⟨(some 23), false, .bin .other .add (.loc 22) (.val (.tr (.sc (.int .i64 1)))), none⟩,
       ⟨(some 9), true, .mv (.loc 23), none⟩]
@[simp] def r13_12 : List HOp := [⟨(some 44), false, .mv (.env 6), none⟩,
     ⟨(some 45), false, .mkslice [(.sc (.bool false))] 1 (.loc 44) (.loc 44), none⟩,
     ⟨(some 10), true, .mv (.loc 45), none⟩]
@[simp] def r13_13 : List HOp := [⟨(some 11), true, .mv (.val (.tr (.sc (.slice none 0 0)))), none⟩]
@[simp] def r13_14 : List HOp := [⟨(some 46), false, .mv (.env 11), none⟩,
         ⟨(some 47), false, .len 1 (.loc 46), none⟩,
         ⟨(some 48), false, .mv (.env 8), none⟩,
         ⟨(some 49), false, .bin .other .lss (.loc 47) (.loc 48), none⟩]
@[simp] def r13_15 : List HOp := [⟨(some 12), true, .mv (.val (.tr (.sc (.int .i64 0)))), none⟩]
@[simp] def r13_16 : List HOp := [⟨(some 50), false, .mv (.env 12), none⟩,
            ⟨(some 51), false, .mv (.env 6), none⟩,
            ⟨(some 52), false, .bin .other .lss (.loc 50) (.loc 51), none⟩]
@[simp] def r13_17 : List HOp := [⟨(some 55), false, .mv (.env 0), none⟩,
              ⟨(some 56), false, .mv (.env 12), none⟩,
              ⟨(some 57), false, .iaddr 1 (.loc 55) (.loc 56), none⟩,
              ⟨(some 58), false, .load 1 false (.loc 57), none⟩,
              ⟨(some 59), false, .un .not (.loc 58), none⟩,
              ⟨(some 60), false, .mv (.loc 59), none⟩,
              ⟨(some 61), false, .mv (.env 10), some ((.loc 60), false)⟩,
              ⟨(some 62), false, .mv (.env 12), some ((.loc 60), false)⟩,
              ⟨(some 63), false, .iaddr 1 (.loc 61) (.loc 62), some ((.loc 60), false)⟩,
              ⟨(some 64), false, .load 1 false (.loc 63), some ((.loc 60), false)⟩,
              ⟨(some 65), false, .pick (.loc 60) (.val (.tr (.sc (.bool true)))) (.loc 64), none⟩]
@[simp] def r13_18 : List HOp := [⟨(some 13), true, .mv (.val (.tr (.sc (.bool true)))), none⟩]
@[simp] def r13_19 : List HOp := [⟨(some 14), true, .mv (.val (.tr (.sc (.int .i64 0)))), none⟩]
@[simp] def r13_20 : List HOp := [⟨(some 66), false, .mv (.env 14), none⟩,
                 ⟨(some 67), false, .mv (.env 6), none⟩,
                 ⟨(some 68), false, .bin .other .lss (.loc 66) (.loc 67), none⟩,
                 ⟨(some 69), false, .mv (.loc 68), none⟩,
                 ⟨(some 70), false, .mv (.env 13), some ((.loc 69), true)⟩,
                 ⟨(some 71), false, .pick (.loc 69) (.loc 70) (.val (.tr (.sc (.bool false)))), none⟩]
@[simp] def r13_21 : List HOp := [⟨(some 74), false, .mv (.env 0), none⟩,
                 ⟨(some 75), false, .mv (.env 14), none⟩,
                 ⟨(some 76), false, .iaddr 1 (.loc 74) (.loc 75), none⟩,
                 ⟨(some 77), false, .load 1 false (.loc 76), none⟩,
                 ⟨(some 78), false, .un .not (.loc 77), none⟩,
                 ⟨(some 79), false, .mv (.loc 78), none⟩,
                 ⟨(some 80), false, .mv (.env 10), some ((.loc 79), false)⟩,
                 ⟨(some 81), false, .mv (.env 14), some ((.loc 79), false)⟩,
                 ⟨(some 82), false, .iaddr 1 (.loc 80) (.loc 81), some ((.loc 79), false)⟩,
                 ⟨(some 83), false, .load 1 false (.loc 82), some ((.loc 79), false)⟩,
                 ⟨(some 84), false, .pick (.loc 79) (.val (.tr (.sc (.bool true)))) (.loc 83), none⟩,
                 ⟨(some 85), false, .mv (.loc 84), none⟩,
                 ⟨(some 86), false, .mv (.env 7), some ((.loc 85), false)⟩,
                 ⟨(some 87), false, .mv (.env 12), some ((.loc 85), false)⟩,
                 ⟨(some 88), false, .iaddr 1 (.loc 86) (.loc 87), some ((.loc 85), false)⟩,
                 ⟨(some 89), false, .load 1 false (.loc 88), some ((.loc 85), false)⟩,
                 ⟨(some 90), false, .mv (.env 14), some ((.loc 85), false)⟩,
                 ⟨(some 91), false, .iaddr 1 (.loc 89) (.loc 90), some ((.loc 85), false)⟩,
                 ⟨(some 92), false, .load 1 false (.loc 91), some ((.loc 85), false)⟩,
                 ⟨(some 93), false, .un .not (.loc 92), some ((.loc 85), false)⟩,
                 ⟨(some 94), false, .pick (.loc 85) (.val (.tr (.sc (.bool true)))) (.loc 93), none⟩,
                 ⟨(some 13), true, .mv (.loc 94), none⟩]
@[simp] def r13_22 : List HOp := [⟨(some 72), false, .mv (.env 14), none⟩,
               ⟨(some 73), false, .bin .other .add (.loc 72) (.val (.tr (.sc (.int .i64 1)))), none⟩,
               ⟨(some 14), true, .mv (.loc 73), none⟩]
@[simp] def r13_23 : List HOp := [⟨(some 95), false, .mv (.env 13), none⟩]
@[simp] def r13_24 : List HOp := [⟨(some 96), false, .mv (.env 10), none⟩,
              ⟨(some 97), false, .mv (.env 12), none⟩,
              ⟨(some 98), false, .iaddr 1 (.loc 96) (.loc 97), none⟩,
              ⟨none, false, .store 1 (.loc 98) (.val (.tr (.sc (.bool true)))), none⟩]
@[simp] def r13_25 : List HOp := [⟨(some 99), false, .mv (.env 11), none⟩,
              ⟨(some 100), false, .mv (.env 12), none⟩,
              ⟨(some 101), false, .bslice false 1 1 [(.sc (.int .i64 0))] [(0, 1, (.loc 100))], none⟩,
              ⟨(some 102), false, .append 1 8 (.loc 99) (.loc 101), none⟩,
              ⟨(some 11), true, .mv (.loc 102), none⟩]
@[simp] def r13_26 : List HOp := [⟨(some 53), false, .mv (.env 12), none⟩,
          ⟨(some 54), false, .bin .other .add (.loc 53) (.val (.tr (.sc (.int .i64 1)))), none⟩,
          ⟨(some 12), true, .mv (.loc 54), none⟩]
@[simp] def r13_27 : List HOp := [⟨(some 103), false, .mv (.env 11), none⟩,
     ⟨(some 4), true, .mv (.loc 103), none⟩,
     ⟨(some 5), true, .mv (.val (.tr (.sc (.bool true)))), none⟩]
@[simp] def k13_6 : HCode := .cond (.loc 21) .skip (.exit 0)
@[simp] def k13_13 : HCode := .seq (.region r13_10 none) .ret
@[simp] def k13_12 : HCode := .cond (.loc 43) k13_13 .skip
@[simp] def k13_11 : HCode := .seq (.region r13_9 none) k13_12
@[simp] def k13_10 : HCode := .seq (.region r13_8 none) k13_11
@[simp] def k13_9 : HCode := .cond (.loc 34) k13_10 .skip
@[simp] def k13_8 : HCode := .seq (.region r13_7 none) k13_9
def k13_14 : HCode := .region r13_11 none
def k13_7 : HCode := .seq (.block 1 (.seq (.region r13_6 none) k13_8)) k13_14
def k13_5 : HCode := .seq (.seq (.region r13_5 none) k13_6) k13_7
@[simp] def k13_4 : HCode := .block 0 (.loop k13_5)
@[simp] def k13_19 : HCode := .cond (.loc 49) .skip (.exit 2)
@[simp] def k13_23 : HCode := .cond (.loc 52) .skip (.exit 4)
@[simp] def k13_25 : HCode := .cond (.loc 65) (.exit 5) .skip
@[simp] def k13_30 : HCode := .cond (.loc 71) .skip (.exit 6)
def k13_31 : HCode := .seq (.block 7 (.region r13_21 none)) (.region r13_22 none)
def k13_29 : HCode := .seq (.seq (.region r13_20 none) k13_30) k13_31
@[simp] def k13_28 : HCode := .block 6 (.loop k13_29)
@[simp] def k13_35 : HCode := .seq (.region r13_25 none) (.exit 4)
@[simp] def k13_34 : HCode := .seq (.region r13_24 none) k13_35
@[simp] def k13_33 : HCode := .cond (.loc 95) k13_34 .skip
def k13_32 : HCode := .seq (.region r13_23 none) k13_33
@[simp] def k13_27 : HCode := .seq (.seq (.region r13_19 none) k13_28) k13_32
def k13_26 : HCode := .seq (.region r13_18 none) k13_27
def k13_36 : HCode := .region r13_26 none
def k13_24 : HCode := .seq (.block 5 (.seq (.seq (.region r13_17 none) k13_25) k13_26)) k13_36
def k13_22 : HCode := .seq (.seq (.region r13_16 none) k13_23) k13_24
@[simp] def k13_21 : HCode := .block 4 (.loop k13_22)
def k13_20 : HCode := .block 3 (.seq (.region r13_15 none) k13_21)
def k13_18 : HCode := .seq (.seq (.region r13_14 none) k13_19) k13_20
def k13_37 : HCode := .seq (.region r13_27 none) .ret
@[simp] def k13_17 : HCode := .seq (.block 2 (.loop k13_18)) k13_37
@[simp] def k13_16 : HCode := .seq (.region r13_13 none) k13_17
def k13_15 : HCode := .seq (.region r13_12 none) k13_16
@[simp] def k13_3 : HCode := .seq (.seq (.region r13_4 none) k13_4) k13_15
@[simp] def k13_2 : HCode := .seq (.region r13_3 none) k13_3
@[simp] def k13_1 : HCode := .seq (.region r13_2 none) k13_2
@[simp] def k13_0 : HCode := .seq (.region r13_1 none) k13_1
@[simp] def fn13 : HFn := { nargs := 2, results := [.tmp 4, .tmp 5], mode := .iso, code := (.seq (.region r13_0 none) k13_0) }
theorem c13 : cFn Try.prog (Hs 13) .iso 13 = some fn13 := by kernel_rfl
/- sterling/sterlingref19.Reach -/
@[simp] def r15_0 : List HOp := [⟨(some 6), true, .mv (.val (.tr (.sc (.slice none 0 0)))), none⟩]
@[simp] def r15_1 : List HOp := [⟨(some 12), false, .mv (.env 0), none⟩,
     ⟨(some 13), false, .mkslice [(.sc (.bool false))] 1 (.loc 12) (.loc 12), none⟩,
     ⟨(some 7), true, .mv (.loc 13), none⟩]
@[simp] def r15_2 : List HOp := [⟨(some 14), false, .mv (.env 2), none⟩,
      ⟨(some 15), false, .bin .other .lss (.loc 14) (.val (.tr (.sc (.int .i64 0)))), none⟩,
      ⟨(some 16), false, .mv (.loc 15), none⟩,
      ⟨(some 17), false, .mv (.env 2), some ((.loc 16), false)⟩,
      ⟨(some 18), false, .mv (.env 0), some ((.loc 16), false)⟩,
      ⟨(some 19), false, .bin .other .geq (.loc 17) (.loc 18), some ((.loc 16), false)⟩,
      ⟨(some 20), false, .pick (.loc 16) (.val (.tr (.sc (.bool true)))) (.loc 19), none⟩]
@[simp] def r15_3 : List HOp := [⟨(some 21), false, .mv (.env 7), none⟩,
       ⟨(some 6), true, .mv (.loc 21), none⟩]
@[simp] def r15_4 : List HOp := [⟨(some 22), false, .mv (.env 2), none⟩,
     ⟨(some 23), false, .bslice true 1 1 [(.sc (.int .i64 0))] [(0, 1, (.loc 22))], none⟩,
     ⟨(some 8), true, .mv (.loc 23), none⟩]
@[simp] def r15_5 : List HOp := [⟨(some 24), false, .mv (.env 8), none⟩,
         ⟨(some 25), false, .len 1 (.loc 24), none⟩,
         ⟨(some 26), false, .bin .other .gtr (.loc 25) (.val (.tr (.sc (.int .i64 0)))), none⟩]
@[simp] def r15_6 : List HOp := [⟨(some 27), false, .mv (.env 8), none⟩,
         ⟨(some 28), false, .iaddr 1 (.loc 27) (.val (.tr (.sc (.int .i64 0)))), none⟩,
         ⟨(some 29), false, .load 1 false (.loc 28), none⟩,
         ⟨(some 9), true, .mv (.loc 29), none⟩]
@[simp] def r15_7 : List HOp := [⟨(some 30), false, .mv (.env 8), none⟩,
         ⟨(some 31), false, .slice 1 (.loc 30) (some (.val (.tr (.sc (.int .i64 1))))) none none, none⟩,
         ⟨(some 8), true, .mv (.loc 31), none⟩]
@[simp] def r15_8 : List HOp := [⟨(some 32), false, .mv (.env 9), none⟩,
          ⟨(some 33), false, .mv (.env 1), none⟩,
          ⟨(some 34), false, .len 1 (.loc 33), none⟩,
          ⟨(some 35), false, .bin .other .geq (.loc 32) (.loc 34), none⟩]
@[simp] def r15_9 : List HOp := [⟨(some 10), true, .mv (.val (.tr (.sc (.int .i64 0)))), none⟩]
@[simp] def r15_10 : List HOp := [⟨(some 36), false, .mv (.env 10), none⟩,
            ⟨(some 37), false, .mv (.env 1), none⟩,
            ⟨(some 38), false, .mv (.env 9), none⟩,
            ⟨(some 39), false, .iaddr 1 (.loc 37) (.loc 38), none⟩,
            ⟨(some 40), false, .load 1 false (.loc 39), none⟩,
            ⟨(some 41), false, .len 1 (.loc 40), none⟩,
            ⟨(some 42), false, .bin .other .lss (.loc 36) (.loc 41), none⟩]
@[simp] def r15_11 : List HOp := [⟨(some 45), false, .mv (.env 1), none⟩,
             ⟨(some 46), false, .mv (.env 9), none⟩,
             ⟨(some 47), false, .iaddr 1 (.loc 45) (.loc 46), none⟩,
             ⟨(some 48), false, .load 1 false (.loc 47), none⟩,
             ⟨(some 49), false, .mv (.env 10), none⟩,
             ⟨(some 50), false, .iaddr 1 (.loc 48) (.loc 49), none⟩,
             ⟨(some 51), false, .load 1 false (.loc 50), none⟩,
             ⟨(some 11), true, .mv (.loc 51), none⟩]
@[simp] def r15_12 : List HOp := [⟨(some 52), false, .mv (.env 11), none⟩,
             ⟨(some 53), false, .bin .other .geq (.loc 52) (.val (.tr (.sc (.int .i64 0)))), none⟩,
             ⟨(some 54), false, .mv (.loc 53), none⟩,
             ⟨(some 55), false, .mv (.env 11), some ((.loc 54), true)⟩,
             ⟨(some 56), false, .mv (.env 0), some ((.loc 54), true)⟩,
             ⟨(some 57), false, .bin .other .lss (.loc 55) (.loc 56), some ((.loc 54), true)⟩,
             ⟨(some 58), false, .pick (.loc 54) (.loc 57) (.val (.tr (.sc (.bool false)))), none⟩,
             ⟨(some 59), false, .mv (.loc 58), none⟩,
             ⟨(some 60), false, .mv (.env 7), some ((.loc 59), true)⟩,
             ⟨(some 61), false, .mv (.env 11), some ((.loc 59), true)⟩,
             ⟨(some 62), false, .iaddr 1 (.loc 60) (.loc 61), some ((.loc 59), true)⟩,
             ⟨(some 63), false, .load 1 false (.loc 62), some ((.loc 59), true)⟩,
             ⟨(some 64), false, .un .not (.loc 63), some ((.loc 59), true)⟩,
             ⟨(some 65), false, .pick (.loc 59) (.loc 64) (.val (.tr (.sc (.bool false)))), none⟩]
@[simp] def r15_13 : List HOp := [⟨(some 66), false, .mv (.env 7), none⟩,
              ⟨(some 67), false, .mv (.env 11), none⟩,
              ⟨(some 68), false, .iaddr 1 (.loc 66) (.loc 67), none⟩,
              ⟨none, false, .store 1 (.loc 68) (.val (.tr (.sc (.bool true)))), none⟩]
@[simp] def r15_14 : List HOp := [⟨(some 69), false, .mv (.env 8), none⟩,
             ⟨(some 70), false, .mv (.env 11), none⟩,
             ⟨(some 71), false, .bslice false 1 1 [(.sc (.int .i64 0))] [(0, 1, (.loc 70))], none⟩,
             ⟨(some 72), false, .append 1 8 (.loc 69) (.loc 71), none⟩,
             ⟨(some 8), true, .mv (.loc 72), none⟩]
@[simp] def r15_15 : List HOp := [⟨(some 43), false, .mv (.env 10), none⟩,
          ⟨(some 44), false, .bin .other .add (.loc 43) (.val (.tr (.sc (.int .i64 1)))), none⟩,
          ⟨(some 10), true, .mv (.loc 44), none⟩]
@[simp] def r15_16 : List HOp := [⟨(some 73), false, .mv (.env 7), none⟩,
     ⟨(some 6), true, .mv (.loc 73), none⟩]
@[simp] def k15_3 : HCode := .seq (.region r15_3 none) .ret
@[simp] def k15_2 : HCode := .cond (.loc 20) k15_3 .skip
@[simp] def k15_7 : HCode := .cond (.loc 26) .skip (.exit 0)
@[simp] def k15_11 : HCode := .cond (.loc 35) (.exit 1) .skip
@[simp] def k15_15 : HCode := .cond (.loc 42) .skip (.exit 2)
@[simp] def k15_19 : HCode := .seq (.region r15_13 none) (.region r15_14 none)
@[simp] def k15_18 : HCode := .cond (.loc 65) k15_19 .skip
@[simp] def k15_17 : HCode := .seq (.region r15_12 none) k15_18
def k15_20 : HCode := .region r15_15 none
def k15_16 : HCode := .seq (.block 3 (.seq (.region r15_11 none) k15_17)) k15_20
def k15_14 : HCode := .seq (.seq (.region r15_10 none) k15_15) k15_16
@[simp] def k15_13 : HCode := .block 2 (.loop k15_14)
def k15_12 : HCode := .seq (.region r15_9 none) k15_13
@[simp] def k15_10 : HCode := .seq (.seq (.region r15_8 none) k15_11) k15_12
@[simp] def k15_9 : HCode := .seq (.region r15_7 none) k15_10
def k15_8 : HCode := .block 1 (.seq (.region r15_6 none) k15_9)
def k15_6 : HCode := .seq (.seq (.region r15_5 none) k15_7) k15_8
def k15_21 : HCode := .seq (.region r15_16 none) .ret
@[simp] def k15_5 : HCode := .seq (.block 0 (.loop k15_6)) k15_21
def k15_4 : HCode := .seq (.region r15_4 none) k15_5
@[simp] def k15_1 : HCode := .seq (.seq (.region r15_2 none) k15_2) k15_4
@[simp] def k15_0 : HCode := .seq (.region r15_1 none) k15_1
@[simp] def fn15 : HFn := { nargs := 3, results := [.tmp 6], mode := .iso, code := (.seq (.region r15_0 none) k15_0) }
theorem c15 : cFn Try.prog (Hs 15) .iso 15 = some fn15 := by kernel_rfl
/- sterling/sterlinglaw20.InitReach -/
@[simp] def r5_0 : List HOp := [⟨(some 4), true, .mv (.val (.tr (.sc (.bool false)))), none⟩]
@[simp] def r5_1 : List HOp := [⟨(some 12), false, .callf 10 [], none⟩,
     ⟨(some 5), true, .mv (.loc 12), none⟩]
@[simp] def r5_2 : List HOp := [⟨(some 13), false, .mv (.env 0), none⟩,
     ⟨(some 14), false, .callf 11 [(.loc 13), (.val (.tr (.sc (.int .i64 16))))], none⟩,
     ⟨(some 6), true, .mv (.loc 14), none⟩]
@[simp] def r5_3 : List HOp := [⟨(some 15), false, .mv (.env 6), none⟩,
     ⟨(some 16), false, .len 1 (.loc 15), none⟩,
     ⟨(some 7), true, .mv (.loc 16), none⟩]
@[simp] def r5_4 : List HOp := [⟨(some 17), false, .mv (.env 1), none⟩,
      ⟨(some 18), false, .bin .other .lss (.loc 17) (.val (.tr (.sc (.int .i64 0)))), none⟩,
      ⟨(some 19), false, .mv (.loc 18), none⟩,
      ⟨(some 20), false, .mv (.env 1), some ((.loc 19), false)⟩,
      ⟨(some 21), false, .mv (.env 7), some ((.loc 19), false)⟩,
      ⟨(some 22), false, .bin .other .geq (.loc 20) (.loc 21), some ((.loc 19), false)⟩,
      ⟨(some 23), false, .pick (.loc 19) (.val (.tr (.sc (.bool true)))) (.loc 22), none⟩]
@[simp] def r5_5 : List HOp := [⟨(some 24), false, .mv (.env 5), none⟩,
       ⟨(some 25), false, .mv (.loc 24), none⟩,
       ⟨(some 26), false, .mv (.env 6), some ((.loc 25), true)⟩,
       ⟨(some 27), false, .callf 14 [(.loc 26), (.val (.tr (.sc (.int .i64 (-1)))))], some ((.loc 25), true)⟩,
       ⟨(some 28), false, .len 1 (.loc 27), some ((.loc 25), true)⟩,
       ⟨(some 29), false, .bin .other .eql (.loc 28) (.val (.tr (.sc (.int .i64 0)))), some ((.loc 25), true)⟩,
       ⟨(some 30), false, .pick (.loc 25) (.loc 29) (.val (.tr (.sc (.bool false)))), none⟩,
       ⟨(some 4), true, .mv (.loc 30), none⟩]
@[simp] def r5_6 : List HOp := [⟨(some 31), false, .mv (.env 7), none⟩,
     ⟨(some 32), false, .mv (.env 6), none⟩,
     ⟨(some 33), false, .mv (.env 1), none⟩,
     ⟨(some 34), false, .callf 15 [(.loc 31), (.loc 32), (.loc 33)], none⟩,
     ⟨(some 8), true, .mv (.loc 34), none⟩]
@[simp] def r5_7 : List HOp := [⟨(some 35), false, .mv (.env 6), none⟩,
     ⟨(some 36), false, .mv (.env 1), none⟩,
     ⟨(some 37), false, .callf 14 [(.loc 35), (.loc 36)], none⟩,
     ⟨(some 9), true, .mv (.loc 37), none⟩]
@[simp] def r5_8 : List HOp := [⟨(some 10), true, .mv (.val (.tr (.sc (.int .i64 0)))), none⟩]
@[simp] def r5_9 : List HOp := [⟨(some 11), true, .mv (.val (.tr (.sc (.int .i64 0)))), none⟩]
@[simp] def r5_10 : List HOp := [⟨(some 38), false, .mv (.env 11), none⟩,
         ⟨(some 39), false, .mv (.env 7), none⟩,
         ⟨(some 40), false, .bin .other .lss (.loc 38) (.loc 39), none⟩]
@[simp] def r5_11 : List HOp := [⟨(some 43), false, .mv (.env 8), none⟩,
          ⟨(some 44), false, .mv (.env 11), none⟩,
          ⟨(some 45), false, .iaddr 1 (.loc 43) (.loc 44), none⟩,
          ⟨(some 46), false, .load 1 false (.loc 45), none⟩]
@[simp] def r5_12 : List HOp := [⟨(some 47), false, .mv (.env 10), none⟩,
            ⟨(some 48), false, .mv (.env 9), none⟩,
            ⟨(some 49), false, .len 1 (.loc 48), none⟩,
            ⟨(some 50), false, .bin .other .geq (.loc 47) (.loc 49), none⟩,
            ⟨(some 51), false, .mv (.loc 50), none⟩,
            ⟨(some 52), false, .mv (.env 9), some ((.loc 51), false)⟩,
            ⟨(some 53), false, .mv (.env 10), some ((.loc 51), false)⟩,
            ⟨(some 54), false, .iaddr 1 (.loc 52) (.loc 53), some ((.loc 51), false)⟩,
            ⟨(some 55), false, .load 1 false (.loc 54), some ((.loc 51), false)⟩,
            ⟨(some 56), false, .mv (.env 11), some ((.loc 51), false)⟩,
            ⟨(some 57), false, .bin .other .neq (.loc 55) (.loc 56), some ((.loc 51), false)⟩,
            ⟨(some 58), false, .pick (.loc 51) (.val (.tr (.sc (.bool true)))) (.loc 57), none⟩]
@[simp] def r5_13 : List HOp := [⟨(some 4), true, .mv (.val (.tr (.sc (.bool false)))), none⟩]
@[simp] def r5_14 : List HOp := [⟨(some 59), false, .mv (.env 10), none⟩,
          ⟨(some 60), false, .bin .other .add (.loc 59) (.val (.tr (.sc (.int .i64 1)))), none⟩,
          ⟨(some 10), true, .mv (.loc 60), none⟩]
@[simp] def r5_15 : List HOp := [⟨(some 41), false, .mv (.env 11), none⟩,
       ⟨(some 42), false, .bin .other .add (.loc 41) (.val (.tr (.sc (.int .i64 1)))), none⟩,
       ⟨(some 11), true, .mv (.loc 42), none⟩]
@[simp] def r5_16 : List HOp := [⟨(some 61), false, .mv (.env 5), none⟩,
     ⟨(some 62), false, .mv (.loc 61), none⟩,
     ⟨(some 63), false, .mv (.env 10), some ((.loc 62), true)⟩,
     ⟨(some 64), false, .mv (.env 9), some ((.loc 62), true)⟩,
     ⟨(some 65), false, .len 1 (.loc 64), some ((.loc 62), true)⟩,
     ⟨(some 66), false, .bin .other .eql (.loc 63) (.loc 65), some ((.loc 62), true)⟩,
     ⟨(some 67), false, .pick (.loc 62) (.loc 66) (.val (.tr (.sc (.bool false)))), none⟩,
     ⟨(some 4), true, .mv (.loc 67), none⟩]
@[simp] def k5_5 : HCode := .seq (.region r5_5 none) .ret
@[simp] def k5_4 : HCode := .cond (.loc 23) k5_5 .skip
@[simp] def k5_12 : HCode := .cond (.loc 40) .skip (.exit 0)
@[simp] def k5_17 : HCode := .seq (.region r5_13 none) .ret
@[simp] def k5_16 : HCode := .cond (.loc 58) k5_17 .skip
def k5_18 : HCode := .region r5_14 none
@[simp] def k5_15 : HCode := .seq (.seq (.region r5_12 none) k5_16) k5_18
@[simp] def k5_14 : HCode := .cond (.loc 46) k5_15 .skip
def k5_19 : HCode := .region r5_15 none
def k5_13 : HCode := .seq (.block 1 (.seq (.region r5_11 none) k5_14)) k5_19
def k5_11 : HCode := .seq (.seq (.region r5_10 none) k5_12) k5_13
@[simp] def k5_10 : HCode := .block 0 (.loop k5_11)
def k5_20 : HCode := .seq (.region r5_16 none) .ret
@[simp] def k5_9 : HCode := .seq (.seq (.region r5_9 none) k5_10) k5_20
@[simp] def k5_8 : HCode := .seq (.region r5_8 none) k5_9
@[simp] def k5_7 : HCode := .seq (.region r5_7 none) k5_8
def k5_6 : HCode := .seq (.region r5_6 none) k5_7
@[simp] def k5_3 : HCode := .seq (.seq (.region r5_4 none) k5_4) k5_6
@[simp] def k5_2 : HCode := .seq (.region r5_3 none) k5_3
@[simp] def k5_1 : HCode := .seq (.region r5_2 none) k5_2
@[simp] def k5_0 : HCode := .seq (.region r5_1 none) k5_1
@[simp] def fn5 : HFn := { nargs := 2, results := [.tmp 4], mode := .shared, code := (.seq (.region r5_0 none) k5_0) }
theorem c5 : cFn Try.prog (Hs 5) .shared 5 = some fn5 := by kernel_rfl
def fn16 : HFn := { nargs := 1, code := .bad, results := [], mode := .ext 9 }
def fn26 : HFn := { nargs := 1, code := .bad, results := [], mode := .ext 8 }
noncomputable def T : FTab := fun f => (bif2 (Nat.ble f 15) (bif2 (Nat.ble f 8) (bif2 (Nat.ble f 5) (bif2 (Nat.ble f 3) (bif2 (Nat.beq f 3) (some fn3) none) (bif2 (Nat.ble f 4) (bif2 (Nat.beq f 4) (some fn4) none) (bif2 (Nat.beq f 5) (some fn5) none))) (bif2 (Nat.ble f 6) (bif2 (Nat.beq f 6) (some fn6) none) (bif2 (Nat.ble f 7) (bif2 (Nat.beq f 7) (some fn7) none) (bif2 (Nat.beq f 8) (some fn8) none)))) (bif2 (Nat.ble f 11) (bif2 (Nat.ble f 9) (bif2 (Nat.beq f 9) (some fn9) none) (bif2 (Nat.ble f 10) (bif2 (Nat.beq f 10) (some fn10) none) (bif2 (Nat.beq f 11) (some fn11) none))) (bif2 (Nat.ble f 13) (bif2 (Nat.ble f 12) (bif2 (Nat.beq f 12) (some fn12) none) (bif2 (Nat.beq f 13) (some fn13) none)) (bif2 (Nat.ble f 14) (bif2 (Nat.beq f 14) (some fn14) none) (bif2 (Nat.beq f 15) (some fn15) none))))) (bif2 (Nat.ble f 21) (bif2 (Nat.ble f 18) (bif2 (Nat.ble f 16) (bif2 (Nat.beq f 16) (some fn16) none) (bif2 (Nat.ble f 17) (bif2 (Nat.beq f 17) (some fn17) none) (bif2 (Nat.beq f 18) (some fn18) none))) (bif2 (Nat.ble f 19) (bif2 (Nat.beq f 19) (some fn19) none) (bif2 (Nat.ble f 20) (bif2 (Nat.beq f 20) (some fn20) none) (bif2 (Nat.beq f 21) (some fn21) none)))) (bif2 (Nat.ble f 24) (bif2 (Nat.ble f 22) (bif2 (Nat.beq f 22) (some fn22) none) (bif2 (Nat.ble f 23) (bif2 (Nat.beq f 23) (some fn23) none) (bif2 (Nat.beq f 24) (some fn24) none))) (bif2 (Nat.ble f 26) (bif2 (Nat.ble f 25) (bif2 (Nat.beq f 25) (some fn25) none) (bif2 (Nat.beq f 26) (some fn26) none)) (bif2 (Nat.ble f 29) (bif2 (Nat.beq f 29) (some fn29) none) (bif2 (Nat.beq f 30) (some fn30) none))))))
theorem T3 : T 3 = some fn3 := rfl
theorem T4 : T 4 = some fn4 := rfl
theorem T5 : T 5 = some fn5 := rfl
theorem T6 : T 6 = some fn6 := rfl
theorem T7 : T 7 = some fn7 := rfl
theorem T8 : T 8 = some fn8 := rfl
theorem T9 : T 9 = some fn9 := rfl
theorem T10 : T 10 = some fn10 := rfl
theorem T11 : T 11 = some fn11 := rfl
theorem T12 : T 12 = some fn12 := rfl
theorem T13 : T 13 = some fn13 := rfl
theorem T14 : T 14 = some fn14 := rfl
theorem T15 : T 15 = some fn15 := rfl
theorem T16 : T 16 = some fn16 := rfl
theorem T17 : T 17 = some fn17 := rfl
theorem T18 : T 18 = some fn18 := rfl
theorem T19 : T 19 = some fn19 := rfl
theorem T20 : T 20 = some fn20 := rfl
theorem T21 : T 21 = some fn21 := rfl
theorem T22 : T 22 = some fn22 := rfl
theorem T23 : T 23 = some fn23 := rfl
theorem T24 : T 24 = some fn24 := rfl
theorem T25 : T 25 = some fn25 := rfl
theorem T26 : T 26 = some fn26 := rfl
theorem T29 : T 29 = some fn29 := rfl
theorem T30 : T 30 = some fn30 := rfl
theorem tabOk {Gd : Ground} (hg : GroundOk Gd) (he : ∀ f n k, Te f = some (n, k) → ExtOk Gd Try.prog f k) : TabOk Gd Try.prog T := by
  refine ⟨hg, fun f hfn h => ?_⟩
  unfold T at h
  rcases bif2_or h with ⟨_, h⟩ | ⟨_, h⟩
  · rcases bif2_or h with ⟨_, h⟩ | ⟨_, h⟩
    · rcases bif2_or h with ⟨_, h⟩ | ⟨_, h⟩
      · rcases bif2_or h with ⟨_, h⟩ | ⟨_, h⟩
        · obtain ⟨hb, h⟩ := bif2_some h
          cases h
          rw [Nat.eq_of_beq_eq_true hb]
          exact .inl ⟨fun k hk => (by cases hk), Hs 3, c3⟩
        · rcases bif2_or h with ⟨_, h⟩ | ⟨_, h⟩
          · obtain ⟨hb, h⟩ := bif2_some h
            cases h
            rw [Nat.eq_of_beq_eq_true hb]
            exact .inl ⟨fun k hk => (by cases hk), Hs 4, c4⟩
          · obtain ⟨hb, h⟩ := bif2_some h
            cases h
            rw [Nat.eq_of_beq_eq_true hb]
            exact .inl ⟨fun k hk => (by cases hk), Hs 5, c5⟩
      · rcases bif2_or h with ⟨_, h⟩ | ⟨_, h⟩
        · obtain ⟨hb, h⟩ := bif2_some h
          cases h
          rw [Nat.eq_of_beq_eq_true hb]
          exact .inl ⟨fun k hk => (by cases hk), Hs 6, c6⟩
        · rcases bif2_or h with ⟨_, h⟩ | ⟨_, h⟩
          · obtain ⟨hb, h⟩ := bif2_some h
            cases h
            rw [Nat.eq_of_beq_eq_true hb]
            exact .inl ⟨fun k hk => (by cases hk), Hs 7, c7⟩
          · obtain ⟨hb, h⟩ := bif2_some h
            cases h
            rw [Nat.eq_of_beq_eq_true hb]
            exact .inl ⟨fun k hk => (by cases hk), Hs 8, c8⟩
    · rcases bif2_or h with ⟨_, h⟩ | ⟨_, h⟩
      · rcases bif2_or h with ⟨_, h⟩ | ⟨_, h⟩
        · obtain ⟨hb, h⟩ := bif2_some h
          cases h
          rw [Nat.eq_of_beq_eq_true hb]
          exact .inl ⟨fun k hk => (by cases hk), Hs 9, c9⟩
        · rcases bif2_or h with ⟨_, h⟩ | ⟨_, h⟩
          · obtain ⟨hb, h⟩ := bif2_some h
            cases h
            rw [Nat.eq_of_beq_eq_true hb]
            exact .inl ⟨fun k hk => (by cases hk), Hs 10, c10⟩
          · obtain ⟨hb, h⟩ := bif2_some h
            cases h
            rw [Nat.eq_of_beq_eq_true hb]
            exact .inl ⟨fun k hk => (by cases hk), Hs 11, c11⟩
      · rcases bif2_or h with ⟨_, h⟩ | ⟨_, h⟩
        · rcases bif2_or h with ⟨_, h⟩ | ⟨_, h⟩
          · obtain ⟨hb, h⟩ := bif2_some h
            cases h
            rw [Nat.eq_of_beq_eq_true hb]
            exact .inl ⟨fun k hk => (by cases hk), Hs 12, c12⟩
          · obtain ⟨hb, h⟩ := bif2_some h
            cases h
            rw [Nat.eq_of_beq_eq_true hb]
            exact .inl ⟨fun k hk => (by cases hk), Hs 13, c13⟩
        · rcases bif2_or h with ⟨_, h⟩ | ⟨_, h⟩
          · obtain ⟨hb, h⟩ := bif2_some h
            cases h
            rw [Nat.eq_of_beq_eq_true hb]
            exact .inl ⟨fun k hk => (by cases hk), Hs 14, c14⟩
          · obtain ⟨hb, h⟩ := bif2_some h
            cases h
            rw [Nat.eq_of_beq_eq_true hb]
            exact .inl ⟨fun k hk => (by cases hk), Hs 15, c15⟩
  · rcases bif2_or h with ⟨_, h⟩ | ⟨_, h⟩
    · rcases bif2_or h with ⟨_, h⟩ | ⟨_, h⟩
      · rcases bif2_or h with ⟨_, h⟩ | ⟨_, h⟩
        · obtain ⟨hb, h⟩ := bif2_some h
          cases h
          rw [Nat.eq_of_beq_eq_true hb]
          exact .inr ⟨9, rfl, he 16 _ _ rfl⟩
        · rcases bif2_or h with ⟨_, h⟩ | ⟨_, h⟩
          · obtain ⟨hb, h⟩ := bif2_some h
            cases h
            rw [Nat.eq_of_beq_eq_true hb]
            exact .inl ⟨fun k hk => (by cases hk), Hs 17, c17⟩
          · obtain ⟨hb, h⟩ := bif2_some h
            cases h
            rw [Nat.eq_of_beq_eq_true hb]
            exact .inl ⟨fun k hk => (by cases hk), Hs 18, c18⟩
      · rcases bif2_or h with ⟨_, h⟩ | ⟨_, h⟩
        · obtain ⟨hb, h⟩ := bif2_some h
          cases h
          rw [Nat.eq_of_beq_eq_true hb]
          exact .inl ⟨fun k hk => (by cases hk), Hs 19, c19⟩
        · rcases bif2_or h with ⟨_, h⟩ | ⟨_, h⟩
          · obtain ⟨hb, h⟩ := bif2_some h
            cases h
            rw [Nat.eq_of_beq_eq_true hb]
            exact .inl ⟨fun k hk => (by cases hk), Hs 20, c20⟩
          · obtain ⟨hb, h⟩ := bif2_some h
            cases h
            rw [Nat.eq_of_beq_eq_true hb]
            exact .inl ⟨fun k hk => (by cases hk), Hs 21, c21⟩
    · rcases bif2_or h with ⟨_, h⟩ | ⟨_, h⟩
      · rcases bif2_or h with ⟨_, h⟩ | ⟨_, h⟩
        · obtain ⟨hb, h⟩ := bif2_some h
          cases h
          rw [Nat.eq_of_beq_eq_true hb]
          exact .inl ⟨fun k hk => (by cases hk), Hs 22, c22⟩
        · rcases bif2_or h with ⟨_, h⟩ | ⟨_, h⟩
          · obtain ⟨hb, h⟩ := bif2_some h
            cases h
            rw [Nat.eq_of_beq_eq_true hb]
            exact .inl ⟨fun k hk => (by cases hk), Hs 23, c23⟩
          · obtain ⟨hb, h⟩ := bif2_some h
            cases h
            rw [Nat.eq_of_beq_eq_true hb]
            exact .inl ⟨fun k hk => (by cases hk), Hs 24, c24⟩
      · rcases bif2_or h with ⟨_, h⟩ | ⟨_, h⟩
        · rcases bif2_or h with ⟨_, h⟩ | ⟨_, h⟩
          · obtain ⟨hb, h⟩ := bif2_some h
            cases h
            rw [Nat.eq_of_beq_eq_true hb]
            exact .inl ⟨fun k hk => (by cases hk), Hs 25, c25⟩
          · obtain ⟨hb, h⟩ := bif2_some h
            cases h
            rw [Nat.eq_of_beq_eq_true hb]
            exact .inr ⟨8, rfl, he 26 _ _ rfl⟩
        · rcases bif2_or h with ⟨_, h⟩ | ⟨_, h⟩
          · obtain ⟨hb, h⟩ := bif2_some h
            cases h
            rw [Nat.eq_of_beq_eq_true hb]
            exact .inl ⟨fun k hk => (by cases hk), Hs 29, c29⟩
          · obtain ⟨hb, h⟩ := bif2_some h
            cases h
            rw [Nat.eq_of_beq_eq_true hb]
            exact .inl ⟨fun k hk => (by cases hk), Hs 30, c30⟩
end Go.Proofs.Ytknoiiacnfbkaaa.AM.Io
