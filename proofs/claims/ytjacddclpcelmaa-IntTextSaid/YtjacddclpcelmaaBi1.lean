/- The functions that IntText reaches, each checked against the translation, part two; the table of them. -/
import Derived.Test.YtjacddclpcelmaaBi1a
set_option maxRecDepth 1000000
set_option linter.unusedVariables false
set_option linter.unusedSimpArgs false
namespace Go.Proofs.Ytjacddclpcelmaa.AM.Bi
open Go.Proofs
/- sterling/sterlingref1.Sub -/
@[simp] def r17_0 : List HOp := [⟨(some 2), true, .box true (.env 0), none⟩,
     ⟨(some 3), true, .box true (.env 1), none⟩,
     ⟨(some 4), true, .alloc [(.sc (.bool false)), (.sc (.slice none 0 0))], none⟩]
@[simp] def r17_1 : List HOp := [⟨(some 5), false, .ldt 2 true (.env 2), none⟩,
     ⟨(some 6), false, .ldt 2 true (.env 3), none⟩,
     ⟨(some 7), false, .callf 21 [(.loc 6)], none⟩,
     ⟨(some 8), false, .callf 15 [(.loc 5), (.loc 7)], none⟩,
     ⟨none, false, .store 2 (.env 4) (.loc 8), none⟩]
@[simp] def k17_0 : HCode := .seq (.region r17_1 (some [ ( 0, [ 2 ] ) , ( 0, [ 3 ] ) , ( 2, [ 6 ] ) , ( 2, [ 5, 7 ] ) , ( 2, [ 4, 8 ] ) ])) .ret
@[simp] def fn17 : HFn := { nargs := 2, results := [.cell 4 2 true], mode := .iso, code := (.seq (.region r17_0 none) k17_0) }
theorem c17 : cFn Try.prog (Hs 17) .iso 17 = some fn17 := by kernel_rfl
/- sterling/sterlingref1.Neg -/
@[simp] def r21_0 : List HOp := [⟨(some 1), true, .box true (.env 0), none⟩,
     ⟨(some 2), true, .alloc [(.sc (.bool false)), (.sc (.slice none 0 0))], none⟩]
@[simp] def r21_1 : List HOp := [⟨(some 3), false, .faddr 0 (.env 1), none⟩,
     ⟨(some 4), false, .load 1 false (.loc 3), none⟩,
     ⟨(some 5), false, .un .not (.loc 4), none⟩,
     ⟨(some 6), false, .mv (.loc 5), none⟩,
     ⟨(some 7), false, .faddr 1 (.env 1), some ((.loc 6), true)⟩,
     ⟨(some 8), false, .load 1 false (.loc 7), some ((.loc 6), true)⟩,
     ⟨(some 9), false, .len 1 (.loc 8), some ((.loc 6), true)⟩,
     ⟨(some 10), false, .bin .other .gtr (.loc 9) (.val (.tr (.sc (.int .i64 0)))), some ((.loc 6), true)⟩,
     ⟨(some 11), false, .pick (.loc 6) (.loc 10) (.val (.tr (.sc (.bool false)))), none⟩,
     ⟨(some 12), false, .faddr 1 (.env 1), none⟩,
     ⟨(some 13), false, .load 1 false (.loc 12), none⟩,
     ⟨(some 14), false, .build [(.sc (.bool false)), (.sc (.slice none 0 0))] [(0, 1, (.loc 11)), (1, 1, (.loc 13))], none⟩,
     ⟨none, false, .store 2 (.env 2) (.loc 14), none⟩]
@[simp] def k21_0 : HCode := .seq (.region r21_1 none) .ret
@[simp] def fn21 : HFn := { nargs := 1, results := [.cell 2 2 true], mode := .iso, code := (.seq (.region r21_0 none) k21_0) }
theorem c21 : cFn Try.prog (Hs 21) .iso 21 = some fn21 := by kernel_rfl
/- sterling/sterlingref1.Mul -/
@[simp] def r19_0 : List HOp := [⟨(some 2), true, .box true (.env 0), none⟩,
     ⟨(some 3), true, .box true (.env 1), none⟩,
     ⟨(some 4), true, .alloc [(.sc (.bool false)), (.sc (.slice none 0 0))], none⟩]
@[simp] def r19_1 : List HOp := [⟨(some 6), false, .faddr 1 (.env 2), none⟩,
     ⟨(some 7), false, .load 1 false (.loc 6), none⟩,
     ⟨(some 8), false, .faddr 1 (.env 3), none⟩,
     ⟨(some 9), false, .load 1 false (.loc 8), none⟩,
     ⟨(some 10), false, .callf 49 [(.loc 7), (.loc 9)], none⟩,
     ⟨(some 5), true, .mv (.loc 10), none⟩]
@[simp] def r19_2 : List HOp := [⟨(some 11), false, .faddr 0 (.env 2), none⟩,
     ⟨(some 12), false, .load 1 false (.loc 11), none⟩,
     ⟨(some 13), false, .faddr 0 (.env 3), none⟩,
     ⟨(some 14), false, .load 1 false (.loc 13), none⟩,
     ⟨(some 15), false, .bin .bool .neq (.loc 12) (.loc 14), none⟩,
     ⟨(some 16), false, .mv (.loc 15), none⟩,
     ⟨(some 17), false, .mv (.env 5), some ((.loc 16), true)⟩,
     ⟨(some 18), false, .len 1 (.loc 17), some ((.loc 16), true)⟩,
     ⟨(some 19), false, .bin .other .gtr (.loc 18) (.val (.tr (.sc (.int .i64 0)))), some ((.loc 16), true)⟩,
     ⟨(some 20), false, .pick (.loc 16) (.loc 19) (.val (.tr (.sc (.bool false)))), none⟩,
     ⟨(some 21), false, .mv (.env 5), none⟩,
     ⟨(some 22), false, .build [(.sc (.bool false)), (.sc (.slice none 0 0))] [(0, 1, (.loc 20)), (1, 1, (.loc 21))], none⟩,
     ⟨none, false, .store 2 (.env 4) (.loc 22), none⟩]
@[simp] def k19_1 : HCode := .seq (.region r19_2 none) .ret
@[simp] def k19_0 : HCode := .seq (.region r19_1 none) k19_1
@[simp] def fn19 : HFn := { nargs := 2, results := [.cell 4 2 true], mode := .iso, code := (.seq (.region r19_0 none) k19_0) }
theorem c19 : cFn Try.prog (Hs 19) .iso 19 = some fn19 := by kernel_rfl
/- sterling/sterlingref1.mul -/
@[simp] def r49_0 : List HOp := [⟨(some 4), true, .mv (.val (.tr (.sc (.slice none 0 0)))), none⟩]
@[simp] def r49_1 : List HOp := [⟨(some 9), false, .mv (.env 0), none⟩,
     ⟨(some 10), false, .len 1 (.loc 9), none⟩,
     ⟨(some 11), false, .mv (.env 1), none⟩,
     ⟨(some 12), false, .len 1 (.loc 11), none⟩,
     ⟨(some 13), false, .bin .other .add (.loc 10) (.loc 12), none⟩,
     ⟨(some 14), false, .bin .other .add (.loc 13) (.val (.tr (.sc (.int .i64 1)))), none⟩,
     ⟨(some 15), false, .mkslice [(.sc (.int .i64 0))] 8 (.loc 14) (.loc 14), none⟩,
     ⟨(some 5), true, .mv (.loc 15), none⟩]
@[simp] def r49_2 : List HOp := [⟨(some 6), true, .mv (.val (.tr (.sc (.int .i64 0)))), none⟩]
@[simp] def r49_3 : List HOp := [⟨(some 16), false, .mv (.env 6), none⟩,
         ⟨(some 17), false, .mv (.env 0), none⟩,
         ⟨(some 18), false, .len 1 (.loc 17), none⟩,
         ⟨(some 19), false, .bin .other .lss (.loc 16) (.loc 18), none⟩]
@[simp] def r49_4 : List HOp := [⟨(some 7), true, .mv (.val (.tr (.sc (.int .i64 0)))), none⟩]
@[simp] def r49_5 : List HOp := [⟨(some 8), true, .mv (.val (.tr (.sc (.int .i64 0)))), none⟩]
@[simp] def r49_6 : List HOp := [⟨(some 22), false, .mv (.env 8), none⟩,
             ⟨(some 23), false, .mv (.env 1), none⟩,
             ⟨(some 24), false, .len 1 (.loc 23), none⟩,
             ⟨(some 25), false, .bin .other .lss (.loc 22) (.loc 24), none⟩,
             ⟨(some 26), false, .mv (.loc 25), none⟩,
             ⟨(some 27), false, .mv (.env 7), some ((.loc 26), false)⟩,
             ⟨(some 28), false, .bin .other .gtr (.loc 27) (.val (.tr (.sc (.int .i64 0)))), some ((.loc 26), false)⟩,
             ⟨(some 29), false, .pick (.loc 26) (.val (.tr (.sc (.bool true)))) (.loc 28), none⟩]
@[simp] def r49_7 : List HOp := [⟨(some 32), false, .mv (.env 7), none⟩,
              ⟨(some 33), false, .mv (.env 5), none⟩,
              ⟨(some 34), false, .mv (.env 6), none⟩,
              ⟨(some 35), false, .mv (.env 8), none⟩,
              ⟨(some 36), false, .bin .other .add (.loc 34) (.loc 35), none⟩,
              ⟨(some 37), false, .iaddr 1 (.loc 33) (.loc 36), none⟩,
              ⟨(some 38), false, .load 1 false (.loc 37), none⟩,
              ⟨(some 39), false, .bin .other .add (.loc 32) (.loc 38), none⟩,
              ⟨(some 7), true, .mv (.loc 39), none⟩]
@[simp] def r49_8 : List HOp := [⟨(some 40), false, .mv (.env 8), none⟩,
               ⟨(some 41), false, .mv (.env 1), none⟩,
               ⟨(some 42), false, .len 1 (.loc 41), none⟩,
               ⟨(some 43), false, .bin .other .lss (.loc 40) (.loc 42), none⟩]
@[simp] def r49_9 : List HOp := [⟨(some 44), false, .mv (.env 7), none⟩,
               ⟨(some 45), false, .mv (.env 0), none⟩,
               ⟨(some 46), false, .mv (.env 6), none⟩,
               ⟨(some 47), false, .iaddr 1 (.loc 45) (.loc 46), none⟩,
               ⟨(some 48), false, .load 1 false (.loc 47), none⟩,
               ⟨(some 49), false, .mv (.env 1), none⟩,
               ⟨(some 50), false, .mv (.env 8), none⟩,
               ⟨(some 51), false, .iaddr 1 (.loc 49) (.loc 50), none⟩,
               ⟨(some 52), false, .load 1 false (.loc 51), none⟩,
               ⟨(some 53), false, .bin .other .mul (.loc 48) (.loc 52), none⟩,
               ⟨(some 54), false, .bin .other .add (.loc 44) (.loc 53), none⟩,
               ⟨(some 7), true, .mv (.loc 54), none⟩]
@[simp] def r49_10 : List HOp := [⟨(some 55), false, .mv (.env 5), none⟩,
              ⟨(some 56), false, .mv (.env 6), none⟩,
              ⟨(some 57), false, .mv (.env 8), none⟩,
              ⟨(some 58), false, .bin .other .add (.loc 56) (.loc 57), none⟩,
              ⟨(some 59), false, .mv (.env 7), none⟩,
              ⟨(some 60), false, .bin .other .rem (.loc 59) (.val (.tr (.sc (.int .i64 65536)))), none⟩,
              ⟨(some 61), false, .iaddr 1 (.loc 55) (.loc 58), none⟩,
              ⟨none, false, .store 1 (.loc 61) (.loc 60), none⟩]
@[simp] def r49_11 : List HOp := [⟨(some 62), false, .mv (.env 7), none⟩,
             ⟨(some 63), false, .bin .other .quo (.loc 62) (.val (.tr (.sc (.int .i64 65536)))), none⟩,
             ⟨(some 7), true, .mv (.loc 63), none⟩]
@[simp] def r49_12 : List HOp := [⟨(some 30), false, .mv (.env 8), none⟩,
           ⟨(some 31), false, .bin .other .add (.loc 30) (.val (.tr (.sc (.int .i64 1)))), none⟩,
           ⟨(some 8), true, .mv (.loc 31), none⟩]
@[simp] def r49_13 : List HOp := [⟨(some 20), false, .mv (.env 6), none⟩,
       ⟨(some 21), false, .bin .other .add (.loc 20) (.val (.tr (.sc (.int .i64 1)))), none⟩,
       ⟨(some 6), true, .mv (.loc 21), none⟩]
@[simp] def r49_14 : List HOp := [⟨(some 64), false, .mv (.env 5), none⟩,
     ⟨(some 65), false, .callf 39 [(.loc 64)], none⟩,
     ⟨(some 4), true, .mv (.loc 65), none⟩]
@[simp] def k49_4 : HCode := .cond (.loc 19) .skip (.exit 0)
@[simp] def k49_9 : HCode := .cond (.loc 29) .skip (.exit 2)
@[simp] def k49_12 : HCode := .cond (.loc 43) (.region r49_9 (some [ ( 0, [ 7 ] ) , ( 0, [ 0 ] ) , ( 0, [ 6 ] ) , ( 1, [ 45, 46 ] ) , ( 1, [ 47 ] ) , ( 0, [ 1 ] ) , ( 0, [ 8 ] ) , ( 1, [ 49, 50 ] ) , ( 1, [ 51 ] ) , ( 0, [ 48, 52 ] ) , ( 0, [ 44, 53 ] ) , ( 0, [ 54 ] ) ])) .skip
def k49_13 : HCode := .seq (.region r49_10 none) (.region r49_11 none)
@[simp] def k49_11 : HCode := .seq (.seq (.region r49_8 none) k49_12) k49_13
def k49_14 : HCode := .region r49_12 none
def k49_10 : HCode := .seq (.block 3 (.seq (.region r49_7 none) k49_11)) k49_14
def k49_8 : HCode := .seq (.seq (.region r49_6 none) k49_9) k49_10
@[simp] def k49_7 : HCode := .block 2 (.loop k49_8)
@[simp] def k49_6 : HCode := .seq (.region r49_5 none) k49_7
def k49_15 : HCode := .region r49_13 none
def k49_5 : HCode := .seq (.block 1 (.seq (.region r49_4 none) k49_6)) k49_15
def k49_3 : HCode := .seq (.seq (.region r49_3 none) k49_4) k49_5
@[simp] def k49_2 : HCode := .block 0 (.loop k49_3)
def k49_16 : HCode := .seq (.region r49_14 none) .ret
@[simp] def k49_1 : HCode := .seq (.seq (.region r49_2 none) k49_2) k49_16
@[simp] def k49_0 : HCode := .seq (.region r49_1 none) k49_1
@[simp] def fn49 : HFn := { nargs := 2, results := [.tmp 4], mode := .iso, code := (.seq (.region r49_0 none) k49_0) }
theorem c49 : cFn Try.prog (Hs 49) .iso 49 = some fn49 := by kernel_rfl
/- sterling/sterlingref1.Cmp -/
@[simp] def r23_0 : List HOp := [⟨(some 2), true, .box true (.env 0), none⟩,
     ⟨(some 3), true, .box true (.env 1), none⟩,
     ⟨(some 4), true, .mv (.val (.tr (.sc (.int .i64 0)))), none⟩]
@[simp] def r23_1 : List HOp := [⟨(some 6), false, .load 2 true (.env 2), none⟩,
     ⟨(some 7), false, .load 2 true (.env 3), none⟩,
     ⟨(some 8), false, .callf 17 [(.loc 6), (.loc 7)], none⟩,
     ⟨(some 5), true, .alloc [(.sc (.bool false)), (.sc (.slice none 0 0))], none⟩,
     ⟨none, false, .store 2 (.env 5) (.loc 8), none⟩]
@[simp] def r23_2 : List HOp := [⟨(some 9), false, .faddr 1 (.env 5), none⟩,
      ⟨(some 10), false, .load 1 false (.loc 9), none⟩,
      ⟨(some 11), false, .len 1 (.loc 10), none⟩,
      ⟨(some 12), false, .bin .other .eql (.loc 11) (.val (.tr (.sc (.int .i64 0)))), none⟩]
@[simp] def r23_3 : List HOp := [⟨(some 4), true, .mv (.val (.tr (.sc (.int .i64 0)))), none⟩]
@[simp] def r23_4 : List HOp := [⟨(some 13), false, .faddr 0 (.env 5), none⟩,
      ⟨(some 14), false, .load 1 false (.loc 13), none⟩]
@[simp] def r23_5 : List HOp := [⟨(some 4), true, .mv (.val (.tr (.sc (.int .i64 (-1))))), none⟩]
@[simp] def r23_6 : List HOp := [⟨(some 4), true, .mv (.val (.tr (.sc (.int .i64 1)))), none⟩]
@[simp] def k23_3 : HCode := .seq (.region r23_3 none) .ret
@[simp] def k23_2 : HCode := .cond (.loc 12) k23_3 .skip
@[simp] def k23_6 : HCode := .seq (.region r23_5 none) .ret
@[simp] def k23_5 : HCode := .cond (.loc 14) k23_6 .skip
def k23_7 : HCode := .seq (.region r23_6 none) .ret
def k23_4 : HCode := .seq (.seq (.region r23_4 none) k23_5) k23_7
@[simp] def k23_1 : HCode := .seq (.seq (.region r23_2 none) k23_2) k23_4
@[simp] def k23_0 : HCode := .seq (.region r23_1 none) k23_1
@[simp] def fn23 : HFn := { nargs := 2, results := [.tmp 4], mode := .iso, code := (.seq (.region r23_0 none) k23_0) }
theorem c23 : cFn Try.prog (Hs 23) .iso 23 = some fn23 := by kernel_rfl
/- sterling/sterlingref1.Bits -/
@[simp] def r25_0 : List HOp := [⟨(some 1), true, .box true (.env 0), none⟩,
     ⟨(some 2), true, .mv (.val (.tr (.sc (.int .i64 0)))), none⟩]
@[simp] def r25_1 : List HOp := [⟨(some 4), false, .faddr 1 (.env 1), none⟩,
     ⟨(some 5), false, .load 1 false (.loc 4), none⟩,
     ⟨(some 6), false, .len 1 (.loc 5), none⟩,
     ⟨(some 7), false, .bin .other .mul (.val (.tr (.sc (.int .i64 16)))) (.loc 6), none⟩,
     ⟨(some 3), true, .mv (.loc 7), none⟩]
@[simp] def r25_2 : List HOp := [⟨(some 8), false, .mv (.env 3), none⟩,
         ⟨(some 9), false, .bin .other .gtr (.loc 8) (.val (.tr (.sc (.int .i64 0)))), none⟩,
         ⟨(some 10), false, .mv (.loc 9), none⟩,
         ⟨(some 11), false, .faddr 1 (.env 1), some ((.loc 10), true)⟩,
         ⟨(some 12), false, .load 1 false (.loc 11), some ((.loc 10), true)⟩,
         ⟨(some 13), false, .mv (.env 3), some ((.loc 10), true)⟩,
         ⟨(some 14), false, .bin .other .sub (.loc 13) (.val (.tr (.sc (.int .i64 1)))), some ((.loc 10), true)⟩,
         ⟨(some 15), false, .callf 52 [(.loc 12), (.loc 14)], some ((.loc 10), true)⟩,
         ⟨(some 16), false, .bin .other .eql (.loc 15) (.val (.tr (.sc (.int .i64 0)))), some ((.loc 10), true)⟩,
         ⟨(some 17), false, .pick (.loc 10) (.loc 16) (.val (.tr (.sc (.bool false)))), none⟩]
@[simp] def r25_3 : List HOp := [⟨(some 18), false, .mv (.env 3), none⟩,
        ⟨(some 19), false, .bin .other .sub (.loc 18) (.val (.tr (.sc (.int .i64 1)))), none⟩,
        ⟨(some 3), true, .mv (.loc 19), none⟩]
@[simp] def r25_4 : List HOp := [⟨(some 20), false, .mv (.env 3), none⟩,
     ⟨(some 2), true, .mv (.loc 20), none⟩]
@[simp] def k25_3 : HCode := .cond (.loc 17) .skip (.exit 0)
def k25_4 : HCode := .block 1 (.region r25_3 none)
def k25_2 : HCode := .seq (.seq (.region r25_2 none) k25_3) k25_4
def k25_5 : HCode := .seq (.region r25_4 none) .ret
@[simp] def k25_1 : HCode := .seq (.block 0 (.loop k25_2)) k25_5
@[simp] def k25_0 : HCode := .seq (.region r25_1 none) k25_1
@[simp] def fn25 : HFn := { nargs := 1, results := [.tmp 2], mode := .iso, code := (.seq (.region r25_0 none) k25_0) }
theorem c25 : cFn Try.prog (Hs 25) .iso 25 = some fn25 := by kernel_rfl
/- sterling/sterlingref1.bit -/
@[simp] def r52_0 : List HOp := [⟨(some 4), true, .mv (.val (.tr (.sc (.int .i64 0)))), none⟩]
@[simp] def r52_1 : List HOp := [⟨(some 5), false, .mv (.env 1), none⟩,
      ⟨(some 6), false, .bin .other .quo (.loc 5) (.val (.tr (.sc (.int .i64 16)))), none⟩,
      ⟨(some 7), false, .mv (.env 0), none⟩,
      ⟨(some 8), false, .len 1 (.loc 7), none⟩,
      ⟨(some 9), false, .bin .other .geq (.loc 6) (.loc 8), none⟩]
@[simp] def r52_2 : List HOp := [⟨(some 4), true, .mv (.val (.tr (.sc (.int .i64 0)))), none⟩]
@[simp] def r52_3 : List HOp := [⟨(some 10), false, .mv (.env 0), none⟩,
     ⟨(some 11), false, .mv (.env 1), none⟩,
     ⟨(some 12), false, .bin .other .quo (.loc 11) (.val (.tr (.sc (.int .i64 16)))), none⟩,
     ⟨(some 13), false, .iaddr 1 (.loc 10) (.loc 12), none⟩,
     ⟨(some 14), false, .load 1 false (.loc 13), none⟩,
     ⟨(some 15), false, .mv (.env 1), none⟩,
     ⟨(some 16), false, .bin .other .rem (.loc 15) (.val (.tr (.sc (.int .i64 16)))), none⟩,
     ⟨(some 17), false, .bin .other .shr (.loc 14) (.loc 16), none⟩,
     ⟨(some 18), false, .bin .other .rem (.loc 17) (.val (.tr (.sc (.int .i64 2)))), none⟩,
     ⟨(some 4), true, .mv (.loc 18), none⟩]
@[simp] def k52_2 : HCode := .seq (.region r52_2 none) .ret
@[simp] def k52_1 : HCode := .cond (.loc 9) k52_2 .skip
def k52_3 : HCode := .seq (.region r52_3 none) .ret
@[simp] def k52_0 : HCode := .seq (.seq (.region r52_1 none) k52_1) k52_3
@[simp] def fn52 : HFn := { nargs := 2, results := [.tmp 4], mode := .iso, code := (.seq (.region r52_0 none) k52_0) }
theorem c52 : cFn Try.prog (Hs 52) .iso 52 = some fn52 := by kernel_rfl
/- sterling/sterlinglaw1.IntQuo -/
@[simp] def r4_0 : List HOp := [⟨(some 2), true, .box false (.env 0), none⟩,
     ⟨(some 3), true, .box false (.env 1), none⟩,
     ⟨(some 4), true, .mv (.val (.tr (.sc (.bool false)))), none⟩]
@[simp] def r4_1 : List HOp := [⟨(some 14), false, .callf 10 [], none⟩,
     ⟨(some 5), true, .mv (.loc 14), none⟩]
@[simp] def r4_2 : List HOp := [⟨(some 15), false, .load 2 true (.env 2), none⟩,
     ⟨(some 16), false, .callf 11 [(.loc 15), (.val (.tr (.sc (.int .i64 12))))], none⟩,
     ⟨(some 17), false, .load 2 true (.env 3), none⟩,
     ⟨(some 18), false, .callf 11 [(.loc 17), (.val (.tr (.sc (.int .i64 12))))], none⟩,
     ⟨none, false, .store 2 (.env 2) (.loc 16), none⟩,
     ⟨none, false, .store 2 (.env 3) (.loc 18), none⟩]
@[simp] def r4_3 : List HOp := [⟨(some 19), false, .load 2 true (.env 2), none⟩,
     ⟨(some 20), false, .callf 12 [(.loc 19)], none⟩,
     ⟨(some 21), false, .load 2 true (.env 3), none⟩,
     ⟨(some 22), false, .callf 12 [(.loc 21)], none⟩,
     ⟨(some 6), true, .alloc [(.sc (.bool false)), (.sc (.slice none 0 0))], none⟩,
     ⟨(some 7), true, .alloc [(.sc (.bool false)), (.sc (.slice none 0 0))], none⟩,
     ⟨none, false, .store 2 (.env 6) (.loc 20), none⟩,
     ⟨none, false, .store 2 (.env 7) (.loc 22), none⟩]
@[simp] def r4_4 : List HOp := [⟨(some 24), false, .load 2 true (.env 2), none⟩,
     ⟨(some 25), false, .load 2 true (.env 3), none⟩,
     ⟨(some 26), false, .callf 26 [(.loc 24), (.loc 25)], none⟩,
     ⟨(some 23), false, .mv (.loc 26), none⟩,
     ⟨(some 27), false, .extract (.loc 23) 0, none⟩,
     ⟨(some 28), false, .extract (.loc 23) 1, none⟩,
     ⟨(some 29), false, .extract (.loc 23) 2, none⟩,
     ⟨(some 8), true, .alloc [(.sc (.bool false)), (.sc (.slice none 0 0))], none⟩,
     ⟨(some 9), true, .alloc [(.sc (.bool false)), (.sc (.slice none 0 0))], none⟩,
     ⟨none, false, .store 2 (.env 8) (.loc 27), none⟩,
     ⟨none, false, .store 2 (.env 9) (.loc 28), none⟩,
     ⟨(some 10), true, .mv (.loc 29), none⟩]
@[simp] def r4_5 : List HOp := [⟨(some 30), false, .faddr 1 (.env 7), none⟩,
      ⟨(some 31), false, .load 1 false (.loc 30), none⟩,
      ⟨(some 32), false, .len 1 (.loc 31), none⟩,
      ⟨(some 33), false, .bin .other .eql (.loc 32) (.val (.tr (.sc (.int .i64 0)))), none⟩]
@[simp] def r4_6 : List HOp := [⟨(some 34), false, .mv (.env 5), none⟩,
       ⟨(some 35), false, .mv (.loc 34), none⟩,
       ⟨(some 36), false, .mv (.env 10), some ((.loc 35), true)⟩,
       ⟨(some 37), false, .un .not (.loc 36), some ((.loc 35), true)⟩,
       ⟨(some 38), false, .pick (.loc 35) (.loc 37) (.val (.tr (.sc (.bool false)))), none⟩,
       ⟨(some 39), false, .mv (.loc 38), none⟩,
       ⟨(some 40), false, .faddr 1 (.env 8), some ((.loc 39), true)⟩,
       ⟨(some 41), false, .load 1 false (.loc 40), some ((.loc 39), true)⟩,
       ⟨(some 42), false, .len 1 (.loc 41), some ((.loc 39), true)⟩,
       ⟨(some 43), false, .bin .other .eql (.loc 42) (.val (.tr (.sc (.int .i64 0)))), some ((.loc 39), true)⟩,
       ⟨(some 44), false, .pick (.loc 39) (.loc 43) (.val (.tr (.sc (.bool false)))), none⟩,
       ⟨(some 45), false, .mv (.loc 44), none⟩,
       ⟨(some 46), false, .faddr 1 (.env 9), some ((.loc 45), true)⟩,
       ⟨(some 47), false, .load 1 false (.loc 46), some ((.loc 45), true)⟩,
       ⟨(some 48), false, .len 1 (.loc 47), some ((.loc 45), true)⟩,
       ⟨(some 49), false, .bin .other .eql (.loc 48) (.val (.tr (.sc (.int .i64 0)))), some ((.loc 45), true)⟩,
       ⟨(some 50), false, .pick (.loc 45) (.loc 49) (.val (.tr (.sc (.bool false)))), none⟩,
       ⟨(some 4), true, .mv (.loc 50), none⟩]
@[simp] def r4_7 : List HOp := [⟨(some 52), false, .load 2 true (.env 6), none⟩,
     ⟨(some 53), false, .load 2 true (.env 7), none⟩,
     ⟨(some 54), false, .callf 27 [(.loc 52), (.loc 53)], none⟩,
     ⟨(some 51), false, .mv (.loc 54), none⟩,
     ⟨(some 55), false, .extract (.loc 51) 0, none⟩,
     ⟨(some 56), false, .extract (.loc 51) 1, none⟩,
     ⟨(some 11), true, .alloc [(.sc (.bool false)), (.sc (.slice none 0 0))], none⟩,
     ⟨(some 12), true, .alloc [(.sc (.bool false)), (.sc (.slice none 0 0))], none⟩,
     ⟨none, false, .store 2 (.env 11) (.loc 55), none⟩,
     ⟨none, false, .store 2 (.env 12) (.loc 56), none⟩]
@[simp] def r4_8 : List HOp := [⟨(some 57), false, .load 2 true (.env 8), none⟩,
     ⟨(some 58), false, .load 2 true (.env 3), none⟩,
     ⟨(some 59), false, .callf 18 [(.loc 57), (.loc 58)], none⟩,
     ⟨(some 60), false, .load 2 true (.env 9), none⟩,
     ⟨(some 61), false, .callf 14 [(.loc 59), (.loc 60)], none⟩,
     ⟨(some 13), true, .alloc [(.sc (.bool false)), (.sc (.slice none 0 0))], none⟩,
     ⟨none, false, .store 2 (.env 13) (.loc 61), none⟩]
@[simp] def r4_9 : List HOp := [⟨(some 62), false, .mv (.env 5), none⟩,
     ⟨(some 63), false, .mv (.loc 62), none⟩,
     ⟨(some 64), false, .mv (.env 10), some ((.loc 63), true)⟩,
     ⟨(some 65), false, .pick (.loc 63) (.loc 64) (.val (.tr (.sc (.bool false)))), none⟩,
     ⟨(some 66), false, .mv (.loc 65), none⟩,
     ⟨(some 67), false, .load 2 true (.env 8), some ((.loc 66), true)⟩,
     ⟨(some 68), false, .load 2 true (.env 11), some ((.loc 66), true)⟩,
     ⟨(some 69), false, .callf 13 [(.loc 67), (.loc 68)], some ((.loc 66), true)⟩,
     ⟨(some 70), false, .pick (.loc 66) (.loc 69) (.val (.tr (.sc (.bool false)))), none⟩,
     ⟨(some 71), false, .mv (.loc 70), none⟩,
     ⟨(some 72), false, .load 2 true (.env 9), some ((.loc 71), true)⟩,
     ⟨(some 73), false, .load 2 true (.env 12), some ((.loc 71), true)⟩,
     ⟨(some 74), false, .callf 13 [(.loc 72), (.loc 73)], some ((.loc 71), true)⟩,
     ⟨(some 75), false, .pick (.loc 71) (.loc 74) (.val (.tr (.sc (.bool false)))), none⟩,
     ⟨(some 76), false, .mv (.loc 75), none⟩,
     ⟨(some 77), false, .load 2 true (.env 13), some ((.loc 76), true)⟩,
     ⟨(some 78), false, .load 2 true (.env 6), some ((.loc 76), true)⟩,
     ⟨(some 79), false, .callf 13 [(.loc 77), (.loc 78)], some ((.loc 76), true)⟩,
     ⟨(some 80), false, .pick (.loc 76) (.loc 79) (.val (.tr (.sc (.bool false)))), none⟩,
     ⟨(some 4), true, .mv (.loc 80), none⟩]
@[simp] def k4_6 : HCode := .seq (.region r4_6 none) .ret
@[simp] def k4_5 : HCode := .cond (.loc 33) k4_6 .skip
@[simp] def k4_9 : HCode := .seq (.region r4_9 none) .ret
@[simp] def k4_8 : HCode := .seq (.region r4_8 (some [ ( 1, [ 8 ] ) , ( 1, [ 3 ] ) , ( 1, [ 57, 58 ] ) , ( 1, [ 9 ] ) , ( 1, [ 59, 60 ] ) , ( 1, [ ] ) , ( 2, [ 13, 61 ] ) ])) k4_9
def k4_7 : HCode := .seq (.region r4_7 none) k4_8
@[simp] def k4_4 : HCode := .seq (.seq (.region r4_5 none) k4_5) k4_7
@[simp] def k4_3 : HCode := .seq (.region r4_4 none) k4_4
@[simp] def k4_2 : HCode := .seq (.region r4_3 (some [ ( 1, [ 2 ] ) , ( 1, [ 19 ] ) , ( 1, [ 3 ] ) , ( 1, [ 21 ] ) , ( 1, [ ] ) , ( 1, [ ] ) , ( 2, [ 6, 20 ] ) , ( 2, [ 7, 22 ] ) ])) k4_3
@[simp] def k4_1 : HCode := .seq (.region r4_2 (some [ ( 1, [ 2 ] ) , ( 1, [ 15 ] ) , ( 1, [ 3 ] ) , ( 2, [ 17 ] ) , ( 2, [ 2, 16 ] ) , ( 2, [ 3, 18 ] ) ])) k4_2
@[simp] def k4_0 : HCode := .seq (.region r4_1 none) k4_1
@[simp] def fn4 : HFn := { nargs := 2, results := [.tmp 4], mode := .shared, code := (.seq (.region r4_0 none) k4_0) }
theorem c4 : cFn Try.prog (Hs 4) .shared 4 = some fn4 := by kernel_rfl
/- sterling/sterlingref1.Quo -/
@[simp] def r27_0 : List HOp := [⟨(some 2), true, .box true (.env 0), none⟩,
     ⟨(some 3), true, .box true (.env 1), none⟩,
     ⟨(some 4), true, .alloc [(.sc (.bool false)), (.sc (.slice none 0 0))], none⟩,
     ⟨(some 5), true, .alloc [(.sc (.bool false)), (.sc (.slice none 0 0))], none⟩]
@[simp] def r27_1 : List HOp := [⟨(some 9), false, .faddr 1 (.env 2), none⟩,
     ⟨(some 10), false, .load 1 false (.loc 9), none⟩,
     ⟨(some 11), false, .faddr 1 (.env 3), none⟩,
     ⟨(some 12), false, .load 1 false (.loc 11), none⟩,
     ⟨(some 13), false, .callf 56 [(.loc 10), (.loc 12)], none⟩,
     ⟨(some 8), false, .mv (.loc 13), none⟩,
     ⟨(some 14), false, .extract (.loc 8) 0, none⟩,
     ⟨(some 15), false, .extract (.loc 8) 1, none⟩,
     ⟨(some 6), true, .mv (.loc 14), none⟩,
     ⟨(some 7), true, .mv (.loc 15), none⟩]
@[simp] def r27_2 : List HOp := [⟨(some 16), false, .faddr 0 (.env 2), none⟩,
     ⟨(some 17), false, .load 1 false (.loc 16), none⟩,
     ⟨(some 18), false, .faddr 0 (.env 3), none⟩,
     ⟨(some 19), false, .load 1 false (.loc 18), none⟩,
     ⟨(some 20), false, .bin .bool .neq (.loc 17) (.loc 19), none⟩,
     ⟨(some 21), false, .mv (.loc 20), none⟩,
     ⟨(some 22), false, .mv (.env 6), some ((.loc 21), true)⟩,
     ⟨(some 23), false, .len 1 (.loc 22), some ((.loc 21), true)⟩,
     ⟨(some 24), false, .bin .other .gtr (.loc 23) (.val (.tr (.sc (.int .i64 0)))), some ((.loc 21), true)⟩,
     ⟨(some 25), false, .pick (.loc 21) (.loc 24) (.val (.tr (.sc (.bool false)))), none⟩,
     ⟨(some 26), false, .mv (.env 6), none⟩,
     ⟨(some 27), false, .build [(.sc (.bool false)), (.sc (.slice none 0 0))] [(0, 1, (.loc 25)), (1, 1, (.loc 26))], none⟩,
     ⟨(some 28), false, .faddr 0 (.env 2), none⟩,
     ⟨(some 29), false, .load 1 false (.loc 28), none⟩,
     ⟨(some 30), false, .mv (.loc 29), none⟩,
     ⟨(some 31), false, .mv (.env 7), some ((.loc 30), true)⟩,
     ⟨(some 32), false, .len 1 (.loc 31), some ((.loc 30), true)⟩,
     ⟨(some 33), false, .bin .other .gtr (.loc 32) (.val (.tr (.sc (.int .i64 0)))), some ((.loc 30), true)⟩,
     ⟨(some 34), false, .pick (.loc 30) (.loc 33) (.val (.tr (.sc (.bool false)))), none⟩,
     ⟨(some 35), false, .mv (.env 7), none⟩,
     ⟨(some 36), false, .build [(.sc (.bool false)), (.sc (.slice none 0 0))] [(0, 1, (.loc 34)), (1, 1, (.loc 35))], none⟩,
     ⟨none, false, .store 2 (.env 4) (.loc 27), none⟩,
     ⟨none, false, .store 2 (.env 5) (.loc 36), none⟩]
@[simp] def k27_1 : HCode := .seq (.region r27_2 none) .ret
@[simp] def k27_0 : HCode := .seq (.region r27_1 none) k27_1
@[simp] def fn27 : HFn := { nargs := 2, results := [.cell 4 2 true, .cell 5 2 true], mode := .iso, code := (.seq (.region r27_0 none) k27_0) }
theorem c27 : cFn Try.prog (Hs 27) .iso 27 = some fn27 := by kernel_rfl
/- sterling/sterlingref1.quo -/
@[simp] def r56_0 : List HOp := [⟨(some 4), true, .mv (.val (.tr (.sc (.slice none 0 0)))), none⟩,
     ⟨(some 5), true, .mv (.val (.tr (.sc (.slice none 0 0)))), none⟩]
@[simp] def r56_1 : List HOp := [⟨(some 18), false, .mv (.env 1), none⟩,
      ⟨(some 19), false, .len 1 (.loc 18), none⟩,
      ⟨(some 20), false, .bin .other .eql (.loc 19) (.val (.tr (.sc (.int .i64 1)))), none⟩]
@[simp] def r56_2 : List HOp := [⟨(some 22), false, .mv (.env 0), none⟩,
       ⟨(some 23), false, .mv (.env 1), none⟩,
       ⟨(some 24), false, .iaddr 1 (.loc 23) (.val (.tr (.sc (.int .i64 0)))), none⟩,
       ⟨(some 25), false, .load 1 false (.loc 24), none⟩,
       ⟨(some 26), false, .callf 64 [(.loc 22), (.loc 25)], none⟩,
       ⟨(some 21), false, .mv (.loc 26), none⟩,
       ⟨(some 27), false, .extract (.loc 21) 0, none⟩,
       ⟨(some 28), false, .extract (.loc 21) 1, none⟩,
       ⟨(some 6), true, .mv (.loc 27), none⟩,
       ⟨(some 7), true, .mv (.loc 28), none⟩]
@[simp] def r56_3 : List HOp := [⟨(some 29), false, .mv (.env 6), none⟩,
       ⟨(some 30), false, .mv (.env 7), none⟩,
       ⟨(some 31), false, .bslice false 1 1 [(.sc (.int .i64 0))] [(0, 1, (.loc 30))], none⟩,
       ⟨(some 32), false, .callf 39 [(.loc 31)], none⟩,
       ⟨(some 4), true, .mv (.loc 29), none⟩,
       ⟨(some 5), true, .mv (.loc 32), none⟩]
@[simp] def r56_4 : List HOp := [⟨(some 33), false, .mv (.env 0), none⟩,
      ⟨(some 34), false, .mv (.env 1), none⟩,
      ⟨(some 35), false, .callf 46 [(.loc 33), (.loc 34)], none⟩,
      ⟨(some 36), false, .bin .other .lss (.loc 35) (.val (.tr (.sc (.int .i64 0)))), none⟩]
@[simp] def r56_5 : List HOp := [⟨(some 37), false, .mv (.env 0), none⟩,
       ⟨(some 4), true, .mv (.val (.tr (.sc (.slice none 0 0)))), none⟩,
       ⟨(some 5), true, .mv (.loc 37), none⟩]
@[simp] def r56_6 : List HOp := [⟨(some 38), false, .mv (.env 1), none⟩,
     ⟨(some 39), false, .mv (.env 1), none⟩,
     ⟨(some 40), false, .len 1 (.loc 39), none⟩,
     ⟨(some 41), false, .bin .other .sub (.loc 40) (.val (.tr (.sc (.int .i64 1)))), none⟩,
     ⟨(some 42), false, .iaddr 1 (.loc 38) (.loc 41), none⟩,
     ⟨(some 43), false, .load 1 false (.loc 42), none⟩,
     ⟨(some 44), false, .bin .other .add (.loc 43) (.val (.tr (.sc (.int .i64 1)))), none⟩,
     ⟨(some 45), false, .bin .other .quo (.val (.tr (.sc (.int .i64 65536)))) (.loc 44), none⟩,
     ⟨(some 8), true, .mv (.loc 45), none⟩]
@[simp] def r56_7 : List HOp := [⟨(some 46), false, .mv (.env 0), none⟩,
     ⟨(some 47), false, .mv (.env 8), none⟩,
     ⟨(some 48), false, .callf 69 [(.loc 46), (.loc 47)], none⟩,
     ⟨(some 9), true, .mv (.loc 48), none⟩]
@[simp] def r56_8 : List HOp := [⟨(some 49), false, .mv (.env 1), none⟩,
     ⟨(some 50), false, .mv (.env 8), none⟩,
     ⟨(some 51), false, .callf 69 [(.loc 49), (.loc 50)], none⟩,
     ⟨(some 52), false, .callf 39 [(.loc 51)], none⟩,
     ⟨(some 10), true, .mv (.loc 52), none⟩]
@[simp] def r56_9 : List HOp := [⟨(some 53), false, .mv (.env 10), none⟩,
     ⟨(some 54), false, .len 1 (.loc 53), none⟩,
     ⟨(some 11), true, .mv (.loc 54), none⟩]
@[simp] def r56_10 : List HOp := [⟨(some 55), false, .mv (.env 9), none⟩,
     ⟨(some 56), false, .len 1 (.loc 55), none⟩,
     ⟨(some 57), false, .mv (.env 11), none⟩,
     ⟨(some 58), false, .bin .other .sub (.loc 56) (.loc 57), none⟩,
     ⟨(some 59), false, .mkslice [(.sc (.int .i64 0))] 8 (.loc 58) (.loc 58), none⟩,
     ⟨(some 12), true, .mv (.loc 59), none⟩]
@[simp] def r56_11 : List HOp := [⟨(some 60), false, .mv (.env 11), none⟩,
     ⟨(some 61), false, .bin .other .add (.loc 60) (.val (.tr (.sc (.int .i64 1)))), none⟩,
     ⟨(some 62), false, .mkslice [(.sc (.int .i64 0))] 8 (.loc 61) (.loc 61), none⟩,
     ⟨(some 13), true, .mv (.loc 62), none⟩]
@[simp] def r56_12 : List HOp := [⟨(some 63), false, .mv (.env 9), none⟩,
      ⟨(some 64), false, .len 1 (.loc 63), none⟩,
      ⟨(some 65), false, .mv (.env 11), none⟩,
      ⟨(some 66), false, .bin .other .sub (.loc 64) (.loc 65), none⟩,
      ⟨(some 67), false, .bin .other .sub (.loc 66) (.val (.tr (.sc (.int .i64 1)))), none⟩,
      ⟨(some 14), true, .mv (.loc 67), none⟩]
@[simp] def r56_13 : List HOp := [⟨(some 68), false, .mv (.env 14), none⟩,
         ⟨(some 69), false, .bin .other .geq (.loc 68) (.val (.tr (.sc (.int .i64 0)))), none⟩]
@[simp] def r56_14 : List HOp := [⟨(some 72), false, .mv (.env 9), none⟩,
          ⟨(some 73), false, .mv (.env 14), none⟩,
          ⟨(some 74), false, .mv (.env 11), none⟩,
          ⟨(some 75), false, .bin .other .add (.loc 73) (.loc 74), none⟩,
          ⟨(some 76), false, .iaddr 1 (.loc 72) (.loc 75), none⟩,
          ⟨(some 77), false, .load 1 false (.loc 76), none⟩,
          ⟨(some 78), false, .bin .other .mul (.loc 77) (.val (.tr (.sc (.int .i64 65536)))), none⟩,
          ⟨(some 79), false, .mv (.env 9), none⟩,
          ⟨(some 80), false, .mv (.env 14), none⟩,
          ⟨(some 81), false, .mv (.env 11), none⟩,
          ⟨(some 82), false, .bin .other .add (.loc 80) (.loc 81), none⟩,
          ⟨(some 83), false, .bin .other .sub (.loc 82) (.val (.tr (.sc (.int .i64 1)))), none⟩,
          ⟨(some 84), false, .iaddr 1 (.loc 79) (.loc 83), none⟩,
          ⟨(some 85), false, .load 1 false (.loc 84), none⟩,
          ⟨(some 86), false, .bin .other .add (.loc 78) (.loc 85), none⟩,
          ⟨(some 87), false, .mv (.env 10), none⟩,
          ⟨(some 88), false, .mv (.env 11), none⟩,
          ⟨(some 89), false, .bin .other .sub (.loc 88) (.val (.tr (.sc (.int .i64 1)))), none⟩,
          ⟨(some 90), false, .iaddr 1 (.loc 87) (.loc 89), none⟩,
          ⟨(some 91), false, .load 1 false (.loc 90), none⟩,
          ⟨(some 92), false, .bin .other .quo (.loc 86) (.loc 91), none⟩,
          ⟨(some 15), true, .mv (.loc 92), none⟩]
@[simp] def r56_15 : List HOp := [⟨(some 93), false, .mv (.env 15), none⟩,
           ⟨(some 94), false, .bin .other .geq (.loc 93) (.val (.tr (.sc (.int .i64 65536)))), none⟩]
@[simp] def r56_16 : List HOp := [⟨(some 15), true, .mv (.val (.tr (.sc (.int .i64 65535)))), none⟩]
@[simp] def r56_17 : List HOp := [⟨(some 95), false, .mv (.env 9), none⟩,
              ⟨(some 96), false, .mv (.env 10), none⟩,
              ⟨(some 97), false, .mv (.env 13), none⟩,
              ⟨(some 98), false, .mv (.env 14), none⟩,
              ⟨(some 99), false, .mv (.env 15), none⟩,
              ⟨(some 100), false, .callf 70 [(.loc 95), (.loc 96), (.loc 97), (.loc 98), (.loc 99)], none⟩,
              ⟨(some 101), false, .un .not (.loc 100), none⟩]
@[simp] def r56_18 : List HOp := [⟨(some 102), false, .mv (.env 15), none⟩,
             ⟨(some 103), false, .bin .other .sub (.loc 102) (.val (.tr (.sc (.int .i64 1)))), none⟩,
             ⟨(some 15), true, .mv (.loc 103), none⟩]
@[simp] def r56_19 : List HOp := [⟨(some 104), false, .mv (.env 12), none⟩,
         ⟨(some 105), false, .mv (.env 14), none⟩,
         ⟨(some 106), false, .mv (.env 15), none⟩,
         ⟨(some 107), false, .iaddr 1 (.loc 104) (.loc 105), none⟩,
         ⟨none, false, .store 1 (.loc 107) (.loc 106), none⟩]
@[simp] def r56_20 : List HOp := [⟨(some 70), false, .mv (.env 14), none⟩,
       ⟨(some 71), false, .bin .other .sub (.loc 70) (.val (.tr (.sc (.int .i64 1)))), none⟩,
       ⟨(some 14), true, .mv (.loc 71), none⟩]
@[simp] def r56_21 : List HOp := [⟨(some 109), false, .mv (.env 9), none⟩,
     ⟨(some 110), false, .callf 39 [(.loc 109)], none⟩,
     ⟨(some 111), false, .mv (.env 8), none⟩,
     ⟨(some 112), false, .callf 64 [(.loc 110), (.loc 111)], none⟩,
     ⟨(some 108), false, .mv (.loc 112), none⟩,
     ⟨(some 113), false, .extract (.loc 108) 0, none⟩,
     ⟨(some 114), false, .extract (.loc 108) 1, none⟩,
     ⟨(some 16), true, .mv (.loc 113), none⟩,
     ⟨(some 17), false, .mv (.loc 114), none⟩]
@[simp] def r56_22 : List HOp := [⟨(some 115), false, .mv (.env 12), none⟩,
     ⟨(some 116), false, .callf 39 [(.loc 115)], none⟩,
     ⟨(some 117), false, .mv (.env 16), none⟩,
     ⟨(some 4), true, .mv (.loc 116), none⟩,
     ⟨(some 5), true, .mv (.loc 117), none⟩]
@[simp] def k56_3 : HCode := .seq (.region r56_3 none) .ret
@[simp] def k56_2 : HCode := .seq (.region r56_2 none) k56_3
@[simp] def k56_1 : HCode := .cond (.loc 20) k56_2 .skip
@[simp] def k56_6 : HCode := .seq (.region r56_5 none) .ret
@[simp] def k56_5 : HCode := .cond (.loc 36) k56_6 .skip
@[simp] def k56_16 : HCode := .cond (.loc 69) .skip (.exit 0)
@[simp] def k56_19 : HCode := .cond (.loc 94) (.region r56_16 none) .skip
@[simp] def k56_22 : HCode := .cond (.loc 101) .skip (.exit 2)
def k56_23 : HCode := .block 3 (.region r56_18 none)
def k56_21 : HCode := .seq (.seq (.region r56_17 none) k56_22) k56_23
def k56_24 : HCode := .region r56_19 none
def k56_20 : HCode := .seq (.block 2 (.loop k56_21)) k56_24
@[simp] def k56_18 : HCode := .seq (.seq (.region r56_15 none) k56_19) k56_20
def k56_25 : HCode := .region r56_20 none
def k56_17 : HCode := .seq (.block 1 (.seq (.region r56_14 (some [ ( 0, [ 9 ] ) , ( 0, [ 14 ] ) , ( 0, [ 11 ] ) , ( 0, [ 73, 74 ] ) , ( 1, [ 72, 75 ] ) , ( 1, [ 76 ] ) , ( 0, [ 77 ] ) , ( 0, [ 9 ] ) , ( 0, [ 14 ] ) , ( 0, [ 11 ] ) , ( 0, [ 80, 81 ] ) , ( 0, [ 82 ] ) , ( 1, [ 79, 83 ] ) , ( 1, [ 84 ] ) , ( 0, [ 78, 85 ] ) , ( 0, [ 10 ] ) , ( 0, [ 11 ] ) , ( 0, [ 88 ] ) , ( 1, [ 87, 89 ] ) , ( 1, [ 90 ] ) , ( 0, [ 86, 91 ] ) , ( 0, [ 92 ] ) ])) k56_18)) k56_25
def k56_15 : HCode := .seq (.seq (.region r56_13 none) k56_16) k56_17
@[simp] def k56_14 : HCode := .block 0 (.loop k56_15)
@[simp] def k56_27 : HCode := .seq (.region r56_22 none) .ret
def k56_26 : HCode := .seq (.region r56_21 none) k56_27
@[simp] def k56_13 : HCode := .seq (.seq (.region r56_12 none) k56_14) k56_26
@[simp] def k56_12 : HCode := .seq (.region r56_11 none) k56_13
@[simp] def k56_11 : HCode := .seq (.region r56_10 none) k56_12
@[simp] def k56_10 : HCode := .seq (.region r56_9 none) k56_11
@[simp] def k56_9 : HCode := .seq (.region r56_8 none) k56_10
@[simp] def k56_8 : HCode := .seq (.region r56_7 none) k56_9
def k56_7 : HCode := .seq (.region r56_6 none) k56_8
def k56_4 : HCode := .seq (.seq (.region r56_4 none) k56_5) k56_7
@[simp] def k56_0 : HCode := .seq (.seq (.region r56_1 none) k56_1) k56_4
@[simp] def fn56 : HFn := { nargs := 2, results := [.tmp 4, .tmp 5], mode := .iso, code := (.seq (.region r56_0 none) k56_0) }
theorem c56 : cFn Try.prog (Hs 56) .iso 56 = some fn56 := by kernel_rfl
/- sterling/sterlingref1.small -/
@[simp] def r64_0 : List HOp := [⟨(some 4), true, .mv (.val (.tr (.sc (.slice none 0 0)))), none⟩,
     ⟨(some 5), true, .mv (.val (.tr (.sc (.int .i64 0)))), none⟩]
@[simp] def r64_1 : List HOp := [⟨(some 9), false, .mv (.env 0), none⟩,
     ⟨(some 10), false, .len 1 (.loc 9), none⟩,
     ⟨(some 11), false, .mkslice [(.sc (.int .i64 0))] 8 (.loc 10) (.loc 10), none⟩,
     ⟨(some 6), true, .mv (.loc 11), none⟩]
@[simp] def r64_2 : List HOp := [⟨(some 7), true, .mv (.val (.tr (.sc (.int .i64 0)))), none⟩]
@[simp] def r64_3 : List HOp := [⟨(some 12), false, .mv (.env 0), none⟩,
      ⟨(some 13), false, .len 1 (.loc 12), none⟩,
      ⟨(some 14), false, .bin .other .sub (.loc 13) (.val (.tr (.sc (.int .i64 1)))), none⟩,
      ⟨(some 8), true, .mv (.loc 14), none⟩]
@[simp] def r64_4 : List HOp := [⟨(some 15), false, .mv (.env 8), none⟩,
         ⟨(some 16), false, .bin .other .geq (.loc 15) (.val (.tr (.sc (.int .i64 0)))), none⟩]
@[simp] def r64_5 : List HOp := [⟨(some 19), false, .mv (.env 7), none⟩,
          ⟨(some 20), false, .bin .other .mul (.loc 19) (.val (.tr (.sc (.int .i64 65536)))), none⟩,
          ⟨(some 21), false, .mv (.env 0), none⟩,
          ⟨(some 22), false, .mv (.env 8), none⟩,
          ⟨(some 23), false, .iaddr 1 (.loc 21) (.loc 22), none⟩,
          ⟨(some 24), false, .load 1 false (.loc 23), none⟩,
          ⟨(some 25), false, .bin .other .add (.loc 20) (.loc 24), none⟩,
          ⟨(some 7), true, .mv (.loc 25), none⟩]
@[simp] def r64_6 : List HOp := [⟨(some 26), false, .mv (.env 6), none⟩,
          ⟨(some 27), false, .mv (.env 8), none⟩,
          ⟨(some 28), false, .mv (.env 7), none⟩,
          ⟨(some 29), false, .mv (.env 1), none⟩,
          ⟨(some 30), false, .bin .other .quo (.loc 28) (.loc 29), none⟩,
          ⟨(some 31), false, .iaddr 1 (.loc 26) (.loc 27), none⟩,
          ⟨none, false, .store 1 (.loc 31) (.loc 30), none⟩]
@[simp] def r64_7 : List HOp := [⟨(some 32), false, .mv (.env 7), none⟩,
         ⟨(some 33), false, .mv (.env 1), none⟩,
         ⟨(some 34), false, .bin .other .rem (.loc 32) (.loc 33), none⟩,
         ⟨(some 7), true, .mv (.loc 34), none⟩]
@[simp] def r64_8 : List HOp := [⟨(some 17), false, .mv (.env 8), none⟩,
       ⟨(some 18), false, .bin .other .sub (.loc 17) (.val (.tr (.sc (.int .i64 1)))), none⟩,
       ⟨(some 8), true, .mv (.loc 18), none⟩]
@[simp] def r64_9 : List HOp := [⟨(some 35), false, .mv (.env 6), none⟩,
     ⟨(some 36), false, .callf 39 [(.loc 35)], none⟩,
     ⟨(some 37), false, .mv (.env 7), none⟩,
     ⟨(some 4), true, .mv (.loc 36), none⟩,
     ⟨(some 5), true, .mv (.loc 37), none⟩]
@[simp] def k64_5 : HCode := .cond (.loc 16) .skip (.exit 0)
@[simp] def k64_7 : HCode := .seq (.region r64_6 none) (.region r64_7 none)
def k64_6 : HCode := .seq (.block 1 (.seq (.region r64_5 none) k64_7)) (.region r64_8 none)
def k64_4 : HCode := .seq (.seq (.region r64_4 none) k64_5) k64_6
@[simp] def k64_3 : HCode := .block 0 (.loop k64_4)
def k64_8 : HCode := .seq (.region r64_9 none) .ret
@[simp] def k64_2 : HCode := .seq (.seq (.region r64_3 none) k64_3) k64_8
@[simp] def k64_1 : HCode := .seq (.region r64_2 none) k64_2
@[simp] def k64_0 : HCode := .seq (.region r64_1 none) k64_1
@[simp] def fn64 : HFn := { nargs := 2, results := [.tmp 4, .tmp 5], mode := .iso, code := (.seq (.region r64_0 none) k64_0) }
theorem c64 : cFn Try.prog (Hs 64) .iso 64 = some fn64 := by kernel_rfl
/- sterling/sterlingref1.times -/
@[simp] def r69_0 : List HOp := [⟨(some 4), true, .mv (.val (.tr (.sc (.slice none 0 0)))), none⟩]
@[simp] def r69_1 : List HOp := [⟨(some 8), false, .mv (.env 0), none⟩,
     ⟨(some 9), false, .len 1 (.loc 8), none⟩,
     ⟨(some 10), false, .bin .other .add (.loc 9) (.val (.tr (.sc (.int .i64 1)))), none⟩,
     ⟨(some 11), false, .mkslice [(.sc (.int .i64 0))] 8 (.loc 10) (.loc 10), none⟩,
     ⟨(some 5), true, .mv (.loc 11), none⟩]
@[simp] def r69_2 : List HOp := [⟨(some 6), true, .mv (.val (.tr (.sc (.int .i64 0)))), none⟩]
@[simp] def r69_3 : List HOp := [⟨(some 7), true, .mv (.val (.tr (.sc (.int .i64 0)))), none⟩]
@[simp] def r69_4 : List HOp := [⟨(some 12), false, .mv (.env 7), none⟩,
         ⟨(some 13), false, .mv (.env 0), none⟩,
         ⟨(some 14), false, .len 1 (.loc 13), none⟩,
         ⟨(some 15), false, .bin .other .lss (.loc 12) (.loc 14), none⟩]
@[simp] def r69_5 : List HOp := [⟨(some 18), false, .mv (.env 6), none⟩,
          ⟨(some 19), false, .mv (.env 0), none⟩,
          ⟨(some 20), false, .mv (.env 7), none⟩,
          ⟨(some 21), false, .iaddr 1 (.loc 19) (.loc 20), none⟩,
          ⟨(some 22), false, .load 1 false (.loc 21), none⟩,
          ⟨(some 23), false, .mv (.env 1), none⟩,
          ⟨(some 24), false, .bin .other .mul (.loc 22) (.loc 23), none⟩,
          ⟨(some 25), false, .bin .other .add (.loc 18) (.loc 24), none⟩,
          ⟨(some 6), true, .mv (.loc 25), none⟩]
@[simp] def r69_6 : List HOp := [⟨(some 26), false, .mv (.env 5), none⟩,
          ⟨(some 27), false, .mv (.env 7), none⟩,
          ⟨(some 28), false, .mv (.env 6), none⟩,
          ⟨(some 29), false, .bin .other .rem (.loc 28) (.val (.tr (.sc (.int .i64 65536)))), none⟩,
          ⟨(some 30), false, .iaddr 1 (.loc 26) (.loc 27), none⟩,
          ⟨none, false, .store 1 (.loc 30) (.loc 29), none⟩]
@[simp] def r69_7 : List HOp := [⟨(some 31), false, .mv (.env 6), none⟩,
         ⟨(some 32), false, .bin .other .quo (.loc 31) (.val (.tr (.sc (.int .i64 65536)))), none⟩,
         ⟨(some 6), true, .mv (.loc 32), none⟩]
@[simp] def r69_8 : List HOp := [⟨(some 16), false, .mv (.env 7), none⟩,
       ⟨(some 17), false, .bin .other .add (.loc 16) (.val (.tr (.sc (.int .i64 1)))), none⟩,
       ⟨(some 7), true, .mv (.loc 17), none⟩]
@[simp] def r69_9 : List HOp := [⟨(some 33), false, .mv (.env 5), none⟩,
     ⟨(some 34), false, .mv (.env 0), none⟩,
     ⟨(some 35), false, .len 1 (.loc 34), none⟩,
     ⟨(some 36), false, .mv (.env 6), none⟩,
     ⟨(some 37), false, .iaddr 1 (.loc 33) (.loc 35), none⟩,
     ⟨none, false, .store 1 (.loc 37) (.loc 36), none⟩]
@[simp] def r69_10 : List HOp := [⟨(some 38), false, .mv (.env 5), none⟩,
     ⟨(some 4), true, .mv (.loc 38), none⟩]
@[simp] def k69_5 : HCode := .cond (.loc 15) .skip (.exit 0)
@[simp] def k69_7 : HCode := .seq (.region r69_6 none) (.region r69_7 none)
def k69_6 : HCode := .seq (.block 1 (.seq (.region r69_5 none) k69_7)) (.region r69_8 none)
def k69_4 : HCode := .seq (.seq (.region r69_4 none) k69_5) k69_6
@[simp] def k69_3 : HCode := .block 0 (.loop k69_4)
@[simp] def k69_9 : HCode := .seq (.region r69_10 none) .ret
def k69_8 : HCode := .seq (.region r69_9 none) k69_9
@[simp] def k69_2 : HCode := .seq (.seq (.region r69_3 none) k69_3) k69_8
@[simp] def k69_1 : HCode := .seq (.region r69_2 none) k69_2
@[simp] def k69_0 : HCode := .seq (.region r69_1 none) k69_1
@[simp] def fn69 : HFn := { nargs := 2, results := [.tmp 4], mode := .shared, code := (.seq (.region r69_0 none) k69_0) }
theorem c69 : cFn Try.prog (Hs 69) .shared 69 = some fn69 := by kernel_rfl
/- sterling/sterlingref1.less -/
@[simp] def r70_0 : List HOp := [⟨(some 10), true, .mv (.val (.tr (.sc (.bool false)))), none⟩]
@[simp] def r70_1 : List HOp := [⟨(some 15), false, .mv (.env 1), none⟩,
     ⟨(some 16), false, .len 1 (.loc 15), none⟩,
     ⟨(some 11), true, .mv (.loc 16), none⟩]
@[simp] def r70_2 : List HOp := [⟨(some 12), true, .mv (.val (.tr (.sc (.int .i64 0)))), none⟩]
@[simp] def r70_3 : List HOp := [⟨(some 13), true, .mv (.val (.tr (.sc (.int .i64 0)))), none⟩]
@[simp] def r70_4 : List HOp := [⟨(some 17), false, .mv (.env 13), none⟩,
         ⟨(some 18), false, .mv (.env 11), none⟩,
         ⟨(some 19), false, .bin .other .leq (.loc 17) (.loc 18), none⟩]
@[simp] def r70_5 : List HOp := [⟨(some 22), false, .mv (.env 13), none⟩,
           ⟨(some 23), false, .mv (.env 11), none⟩,
           ⟨(some 24), false, .bin .other .lss (.loc 22) (.loc 23), none⟩]
@[simp] def r70_6 : List HOp := [⟨(some 25), false, .mv (.env 12), none⟩,
           ⟨(some 26), false, .mv (.env 1), none⟩,
           ⟨(some 27), false, .mv (.env 13), none⟩,
           ⟨(some 28), false, .iaddr 1 (.loc 26) (.loc 27), none⟩,
           ⟨(some 29), false, .load 1 false (.loc 28), none⟩,
           ⟨(some 30), false, .mv (.env 4), none⟩,
           ⟨(some 31), false, .bin .other .mul (.loc 29) (.loc 30), none⟩,
           ⟨(some 32), false, .bin .other .add (.loc 25) (.loc 31), none⟩,
           ⟨(some 12), true, .mv (.loc 32), none⟩]
@[simp] def r70_7 : List HOp := [⟨(some 33), false, .mv (.env 0), none⟩,
          ⟨(some 34), false, .mv (.env 3), none⟩,
          ⟨(some 35), false, .mv (.env 13), none⟩,
          ⟨(some 36), false, .bin .other .add (.loc 34) (.loc 35), none⟩,
          ⟨(some 37), false, .iaddr 1 (.loc 33) (.loc 36), none⟩,
          ⟨(some 38), false, .load 1 false (.loc 37), none⟩,
          ⟨(some 39), false, .mv (.env 12), none⟩,
          ⟨(some 40), false, .bin .other .rem (.loc 39) (.val (.tr (.sc (.int .i64 65536)))), none⟩,
          ⟨(some 41), false, .bin .other .sub (.loc 38) (.loc 40), none⟩,
          ⟨(some 14), true, .mv (.loc 41), none⟩]
@[simp] def r70_8 : List HOp := [⟨(some 42), false, .mv (.env 12), none⟩,
          ⟨(some 43), false, .bin .other .quo (.loc 42) (.val (.tr (.sc (.int .i64 65536)))), none⟩,
          ⟨(some 12), true, .mv (.loc 43), none⟩]
@[simp] def r70_9 : List HOp := [⟨(some 44), false, .mv (.env 14), none⟩,
           ⟨(some 45), false, .bin .other .lss (.loc 44) (.val (.tr (.sc (.int .i64 0)))), none⟩]
@[simp] def r70_10 : List HOp := [⟨(some 46), false, .mv (.env 14), none⟩,
            ⟨(some 47), false, .bin .other .add (.loc 46) (.val (.tr (.sc (.int .i64 65536)))), none⟩,
            ⟨(some 14), true, .mv (.loc 47), none⟩]
@[simp] def r70_11 : List HOp := [⟨(some 48), false, .mv (.env 12), none⟩,
           ⟨(some 49), false, .bin .other .add (.loc 48) (.val (.tr (.sc (.int .i64 1)))), none⟩,
           ⟨(some 12), true, .mv (.loc 49), none⟩]
@[simp] def r70_12 : List HOp := [⟨(some 50), false, .mv (.env 2), none⟩,
         ⟨(some 51), false, .mv (.env 13), none⟩,
         ⟨(some 52), false, .mv (.env 14), none⟩,
         ⟨(some 53), false, .iaddr 1 (.loc 50) (.loc 51), none⟩,
         ⟨none, false, .store 1 (.loc 53) (.loc 52), none⟩]
@[simp] def r70_13 : List HOp := [⟨(some 20), false, .mv (.env 13), none⟩,
       ⟨(some 21), false, .bin .other .add (.loc 20) (.val (.tr (.sc (.int .i64 1)))), none⟩,
       ⟨(some 13), true, .mv (.loc 21), none⟩]
@[simp] def r70_14 : List HOp := [⟨(some 54), false, .mv (.env 12), none⟩,
      ⟨(some 55), false, .bin .other .neq (.loc 54) (.val (.tr (.sc (.int .i64 0)))), none⟩]
@[simp] def r70_15 : List HOp := [⟨(some 10), true, .mv (.val (.tr (.sc (.bool false)))), none⟩]
@[simp] def r70_16 : List HOp := [⟨(some 56), false, .mv (.env 0), none⟩,
     ⟨(some 57), false, .mv (.env 3), none⟩,
     ⟨(some 58), false, .slice 1 (.loc 56) (some (.loc 57)) none none, none⟩,
     ⟨(some 59), false, .mv (.env 2), none⟩,
     ⟨(some 60), false, .copy 1 (.loc 58) (.loc 59), none⟩]
@[simp] def r70_17 : List HOp := [⟨(some 10), true, .mv (.val (.tr (.sc (.bool true)))), none⟩]
@[simp] def k70_5 : HCode := .cond (.loc 19) .skip (.exit 0)
@[simp] def k70_7 : HCode := .cond (.loc 24) (.region r70_6 none) .skip
@[simp] def k70_12 : HCode := .seq (.region r70_10 none) (.region r70_11 none)
@[simp] def k70_11 : HCode := .cond (.loc 45) k70_12 .skip
def k70_13 : HCode := .region r70_12 none
@[simp] def k70_10 : HCode := .seq (.seq (.region r70_9 none) k70_11) k70_13
@[simp] def k70_9 : HCode := .seq (.region r70_8 none) k70_10
def k70_8 : HCode := .seq (.region r70_7 none) k70_9
def k70_14 : HCode := .region r70_13 none
def k70_6 : HCode := .seq (.block 1 (.seq (.seq (.region r70_5 none) k70_7) k70_8)) k70_14
def k70_4 : HCode := .seq (.seq (.region r70_4 none) k70_5) k70_6
@[simp] def k70_3 : HCode := .block 0 (.loop k70_4)
@[simp] def k70_17 : HCode := .seq (.region r70_15 none) .ret
@[simp] def k70_16 : HCode := .cond (.loc 55) k70_17 .skip
@[simp] def k70_19 : HCode := .seq (.region r70_17 none) .ret
def k70_18 : HCode := .seq (.region r70_16 none) k70_19
def k70_15 : HCode := .seq (.seq (.region r70_14 none) k70_16) k70_18
@[simp] def k70_2 : HCode := .seq (.seq (.region r70_3 none) k70_3) k70_15
@[simp] def k70_1 : HCode := .seq (.region r70_2 none) k70_2
@[simp] def k70_0 : HCode := .seq (.region r70_1 none) k70_1
@[simp] def fn70 : HFn := { nargs := 5, results := [.tmp 10], mode := .shared, code := (.seq (.region r70_0 none) k70_0) }
theorem c70 : cFn Try.prog (Hs 70) .shared 70 = some fn70 := by kernel_rfl
/- sterling/sterlinglaw1.IntBitwise -/
@[simp] def r5_0 : List HOp := [⟨(some 4), true, .box false (.env 1), none⟩,
     ⟨(some 5), true, .box false (.env 2), none⟩,
     ⟨(some 6), true, .mv (.val (.tr (.sc (.bool false)))), none⟩]
@[simp] def r5_1 : List HOp := [⟨(some 12), false, .callf 10 [], none⟩,
     ⟨(some 7), true, .mv (.loc 12), none⟩]
@[simp] def r5_2 : List HOp := [⟨(some 13), false, .load 2 true (.env 4), none⟩,
     ⟨(some 14), false, .callf 11 [(.loc 13), (.val (.tr (.sc (.int .i64 8))))], none⟩,
     ⟨(some 15), false, .load 2 true (.env 5), none⟩,
     ⟨(some 16), false, .callf 11 [(.loc 15), (.val (.tr (.sc (.int .i64 8))))], none⟩,
     ⟨none, false, .store 2 (.env 4) (.loc 14), none⟩,
     ⟨none, false, .store 2 (.env 5) (.loc 16), none⟩]
@[simp] def r5_3 : List HOp := [⟨(some 18), false, .mv (.env 0), none⟩,
     ⟨(some 19), false, .load 2 true (.env 4), none⟩,
     ⟨(some 20), false, .load 2 true (.env 5), none⟩,
     ⟨(some 21), false, .callf 28 [(.loc 18), (.loc 19), (.loc 20)], none⟩,
     ⟨(some 17), false, .mv (.loc 21), none⟩,
     ⟨(some 22), false, .extract (.loc 17) 0, none⟩,
     ⟨(some 23), false, .extract (.loc 17) 1, none⟩,
     ⟨(some 8), true, .alloc [(.sc (.bool false)), (.sc (.slice none 0 0))], none⟩,
     ⟨none, false, .store 2 (.env 8) (.loc 22), none⟩,
     ⟨(some 9), true, .mv (.loc 23), none⟩]
@[simp] def r5_4 : List HOp := [⟨(some 25), false, .mv (.env 0), none⟩,
     ⟨(some 26), false, .load 2 true (.env 4), none⟩,
     ⟨(some 27), false, .callf 12 [(.loc 26)], none⟩,
     ⟨(some 28), false, .load 2 true (.env 5), none⟩,
     ⟨(some 29), false, .callf 12 [(.loc 28)], none⟩,
     ⟨(some 30), false, .callf 29 [(.loc 25), (.loc 27), (.loc 29)], none⟩,
     ⟨(some 24), false, .mv (.loc 30), none⟩,
     ⟨(some 31), false, .extract (.loc 24) 0, none⟩,
     ⟨(some 32), false, .extract (.loc 24) 1, none⟩,
     ⟨(some 10), true, .alloc [(.sc (.bool false)), (.sc (.slice none 0 0))], none⟩,
     ⟨none, false, .store 2 (.env 10) (.loc 31), none⟩,
     ⟨(some 11), true, .mv (.loc 32), none⟩]
@[simp] def r5_5 : List HOp := [⟨(some 33), false, .mv (.env 7), none⟩,
     ⟨(some 34), false, .mv (.loc 33), none⟩,
     ⟨(some 35), false, .mv (.env 9), some ((.loc 34), true)⟩,
     ⟨(some 36), false, .mv (.env 11), some ((.loc 34), true)⟩,
     ⟨(some 37), false, .bin .bool .eql (.loc 35) (.loc 36), some ((.loc 34), true)⟩,
     ⟨(some 38), false, .pick (.loc 34) (.loc 37) (.val (.tr (.sc (.bool false)))), none⟩,
     ⟨(some 39), false, .mv (.loc 38), none⟩,
     ⟨(some 40), false, .load 2 true (.env 8), some ((.loc 39), true)⟩,
     ⟨(some 41), false, .load 2 true (.env 10), some ((.loc 39), true)⟩,
     ⟨(some 42), false, .callf 13 [(.loc 40), (.loc 41)], some ((.loc 39), true)⟩,
     ⟨(some 43), false, .pick (.loc 39) (.loc 42) (.val (.tr (.sc (.bool false)))), none⟩,
     ⟨(some 6), true, .mv (.loc 43), none⟩]
@[simp] def k5_4 : HCode := .seq (.region r5_5 none) .ret
@[simp] def k5_3 : HCode := .seq (.region r5_4 (some [ ( 0, [ 0 ] ) , ( 1, [ 4 ] ) , ( 1, [ 26 ] ) , ( 1, [ 5 ] ) , ( 1, [ 28 ] ) , ( 1, [ 25, 27, 29 ] ) , ( 0, [ 30 ] ) , ( 0, [ 24 ] ) , ( 0, [ 24 ] ) , ( 1, [ ] ) , ( 2, [ 10, 31 ] ) , ( 0, [ 32 ] ) ])) k5_4
@[simp] def k5_2 : HCode := .seq (.region r5_3 none) k5_3
@[simp] def k5_1 : HCode := .seq (.region r5_2 (some [ ( 1, [ 4 ] ) , ( 1, [ 13 ] ) , ( 1, [ 5 ] ) , ( 2, [ 15 ] ) , ( 2, [ 4, 14 ] ) , ( 2, [ 5, 16 ] ) ])) k5_2
@[simp] def k5_0 : HCode := .seq (.region r5_1 none) k5_1
@[simp] def fn5 : HFn := { nargs := 3, results := [.tmp 6], mode := .shared, code := (.seq (.region r5_0 none) k5_0) }
theorem c5 : cFn Try.prog (Hs 5) .shared 5 = some fn5 := by kernel_rfl
/- sterling/sterlingref1.Bitwise -/
@[simp] def r29_0 : List HOp := [⟨(some 4), true, .box true (.env 1), none⟩,
     ⟨(some 5), true, .box true (.env 2), none⟩,
     ⟨(some 6), true, .alloc [(.sc (.bool false)), (.sc (.slice none 0 0))], none⟩,
     ⟨(some 7), true, .mv (.val (.tr (.sc (.bool false)))), none⟩]
@[simp] def r29_1 : List HOp := [⟨(some 17), false, .load 2 true (.env 4), none⟩,
     ⟨(some 18), false, .callf 25 [(.loc 17)], none⟩,
     ⟨(some 8), true, .mv (.loc 18), none⟩]
@[simp] def r29_2 : List HOp := [⟨(some 19), false, .load 2 true (.env 5), none⟩,
      ⟨(some 20), false, .callf 25 [(.loc 19)], none⟩,
      ⟨(some 21), false, .mv (.env 8), none⟩,
      ⟨(some 22), false, .bin .other .gtr (.loc 20) (.loc 21), none⟩]
@[simp] def r29_3 : List HOp := [⟨(some 23), false, .load 2 true (.env 5), none⟩,
      ⟨(some 24), false, .callf 25 [(.loc 23)], none⟩,
      ⟨(some 8), true, .mv (.loc 24), none⟩]
@[simp] def r29_4 : List HOp := [⟨(some 25), false, .mv (.env 8), none⟩,
     ⟨(some 26), false, .bin .other .add (.loc 25) (.val (.tr (.sc (.int .i64 2)))), none⟩,
     ⟨(some 8), true, .mv (.loc 26), none⟩]
@[simp] def r29_5 : List HOp := [⟨(some 27), false, .ldt 2 true (.env 4), none⟩,
     ⟨(some 28), false, .mv (.env 8), none⟩,
     ⟨(some 29), false, .callf 58 [(.loc 27), (.loc 28)], none⟩,
     ⟨(some 30), false, .ldt 2 true (.env 5), none⟩,
     ⟨(some 31), false, .mv (.env 8), none⟩,
     ⟨(some 32), false, .callf 58 [(.loc 30), (.loc 31)], none⟩,
     ⟨(some 9), true, .alloc [(.sc (.bool false)), (.sc (.slice none 0 0))], none⟩,
     ⟨(some 10), true, .alloc [(.sc (.bool false)), (.sc (.slice none 0 0))], none⟩,
     ⟨none, false, .store 2 (.env 9) (.loc 29), none⟩,
     ⟨none, false, .store 2 (.env 10) (.loc 32), none⟩]
@[simp] def r29_6 : List HOp := [⟨(some 11), true, .mv (.val (.tr (.sc (.slice none 0 0)))), none⟩]
@[simp] def r29_7 : List HOp := [⟨(some 12), true, .mv (.val (.tr (.sc (.int .i64 0)))), none⟩]
@[simp] def r29_8 : List HOp := [⟨(some 33), false, .mv (.env 12), none⟩,
         ⟨(some 34), false, .mv (.env 8), none⟩,
         ⟨(some 35), false, .bin .other .lss (.loc 33) (.loc 34), none⟩]
@[simp] def r29_9 : List HOp := [⟨(some 38), false, .mv (.env 12), none⟩,
           ⟨(some 39), false, .bin .other .rem (.loc 38) (.val (.tr (.sc (.int .i64 16)))), none⟩,
           ⟨(some 40), false, .bin .other .eql (.loc 39) (.val (.tr (.sc (.int .i64 0)))), none⟩]
@[simp] def r29_10 : List HOp := [⟨(some 41), false, .mv (.env 11), none⟩,
           ⟨(some 42), false, .bslice false 1 1 [(.sc (.int .i64 0))] [(0, 1, (.val (.tr (.sc (.int .i64 0)))))], none⟩,
           ⟨(some 43), false, .append 1 8 (.loc 41) (.loc 42), none⟩,
           ⟨(some 11), true, .mv (.loc 43), none⟩]
@[simp] def r29_11 : List HOp := [⟨(some 44), false, .faddr 1 (.env 9), none⟩,
          ⟨(some 45), false, .load 1 false (.loc 44), none⟩,
          ⟨(some 46), false, .mv (.env 12), none⟩,
          ⟨(some 47), false, .callf 52 [(.loc 45), (.loc 46)], none⟩,
          ⟨(some 48), false, .faddr 1 (.env 10), none⟩,
          ⟨(some 49), false, .load 1 false (.loc 48), none⟩,
          ⟨(some 50), false, .mv (.env 12), none⟩,
          ⟨(some 51), false, .callf 52 [(.loc 49), (.loc 50)], none⟩,
          ⟨(some 13), true, .mv (.loc 47), none⟩,
          ⟨(some 14), true, .mv (.loc 51), none⟩]
@[simp] def r29_12 : List HOp := [⟨(some 15), true, .mv (.val (.tr (.sc (.int .i64 0)))), none⟩]
@[simp] def r29_13 : List HOp := [⟨(some 52), true, .mv (.env 0), none⟩]
@[simp] def r29_14 : List HOp := [⟨(some 55), false, .bin .other .eql (.env 52) (.val (.tr (.sc (.string ⟨⟨[38]⟩⟩)))), none⟩,
            ⟨(some 54), false, .mv (.loc 55), none⟩]
@[simp] def r29_15 : List HOp := [⟨(some 56), false, .mv (.env 13), none⟩,
            ⟨(some 57), false, .mv (.env 14), none⟩,
            ⟨(some 58), false, .bin .other .mul (.loc 56) (.loc 57), none⟩,
            ⟨(some 15), true, .mv (.loc 58), none⟩]
@[simp] def r29_16 : List HOp := [⟨(some 60), false, .bin .other .eql (.env 52) (.val (.tr (.sc (.string ⟨⟨[124]⟩⟩)))), none⟩,
             ⟨(some 59), false, .mv (.loc 60), none⟩]
@[simp] def r29_17 : List HOp := [⟨(some 61), false, .mv (.env 13), none⟩,
             ⟨(some 62), false, .mv (.env 14), none⟩,
             ⟨(some 63), false, .bin .other .add (.loc 61) (.loc 62), none⟩,
             ⟨(some 64), false, .mv (.env 13), none⟩,
             ⟨(some 65), false, .mv (.env 14), none⟩,
             ⟨(some 66), false, .bin .other .mul (.loc 64) (.loc 65), none⟩,
             ⟨(some 67), false, .bin .other .sub (.loc 63) (.loc 66), none⟩,
             ⟨(some 15), true, .mv (.loc 67), none⟩]
@[simp] def r29_18 : List HOp := [⟨(some 69), false, .bin .other .eql (.env 52) (.val (.tr (.sc (.string ⟨⟨[94]⟩⟩)))), none⟩,
              ⟨(some 68), false, .mv (.loc 69), none⟩]
@[simp] def r29_19 : List HOp := [⟨(some 70), false, .mv (.env 13), none⟩,
              ⟨(some 71), false, .mv (.env 14), none⟩,
              ⟨(some 72), false, .bin .other .add (.loc 70) (.loc 71), none⟩,
              ⟨(some 73), false, .bin .other .rem (.loc 72) (.val (.tr (.sc (.int .i64 2)))), none⟩,
              ⟨(some 15), true, .mv (.loc 73), none⟩]
@[simp] def r29_20 : List HOp := [⟨(some 75), false, .bin .other .eql (.env 52) (.val (.tr (.sc (.string ⟨⟨[38, 94]⟩⟩)))), none⟩,
               ⟨(some 74), false, .mv (.loc 75), none⟩]
@[simp] def r29_21 : List HOp := [⟨(some 76), false, .mv (.env 13), none⟩,
               ⟨(some 77), false, .mv (.env 14), none⟩,
               ⟨(some 78), false, .bin .other .sub (.val (.tr (.sc (.int .i64 1)))) (.loc 77), none⟩,
               ⟨(some 79), false, .bin .other .mul (.loc 76) (.loc 78), none⟩,
               ⟨(some 15), true, .mv (.loc 79), none⟩]
@[simp] def r29_22 : List HOp := [⟨(some 53), false, .build [(.sc (.bool false)), (.sc (.slice none 0 0))] [], none⟩,
                ⟨none, false, .store 2 (.env 6) (.loc 53), none⟩,
                ⟨(some 7), true, .mv (.val (.tr (.sc (.bool false)))), none⟩]
@[simp] def r29_23 : List HOp := [⟨(some 80), false, .mv (.env 11), none⟩,
         ⟨(some 81), false, .mv (.env 12), none⟩,
         ⟨(some 82), false, .bin .other .quo (.loc 81) (.val (.tr (.sc (.int .i64 16)))), none⟩,
         ⟨(some 83), false, .iaddr 1 (.loc 80) (.loc 82), none⟩,
         ⟨(some 84), false, .load 1 false (.loc 83), none⟩,
         ⟨(some 85), false, .mv (.env 15), none⟩,
         ⟨(some 86), false, .mv (.env 12), none⟩,
         ⟨(some 87), false, .bin .other .rem (.loc 86) (.val (.tr (.sc (.int .i64 16)))), none⟩,
         ⟨(some 88), false, .bin .other .shl (.loc 85) (.loc 87), none⟩,
         ⟨(some 89), false, .bin .other .add (.loc 84) (.loc 88), none⟩,
         ⟨(some 90), false, .iaddr 1 (.loc 80) (.loc 82), none⟩,
         ⟨none, false, .store 1 (.loc 90) (.loc 89), none⟩]
@[simp] def r29_24 : List HOp := [⟨(some 36), false, .mv (.env 12), none⟩,
       ⟨(some 37), false, .bin .other .add (.loc 36) (.val (.tr (.sc (.int .i64 1)))), none⟩,
       ⟨(some 12), true, .mv (.loc 37), none⟩]
@[simp] def r29_25 : List HOp := [⟨(some 91), false, .mv (.env 11), none⟩,
     ⟨(some 92), false, .callf 39 [(.loc 91)], none⟩,
     ⟨(some 93), false, .build [(.sc (.bool false)), (.sc (.slice none 0 0))] [(0, 1, (.val (.tr (.sc (.bool false))))), (1, 1, (.loc 92))], none⟩,
     ⟨(some 16), true, .alloc [(.sc (.bool false)), (.sc (.slice none 0 0))], none⟩,
     ⟨none, false, .store 2 (.env 16) (.loc 93), none⟩]
@[simp] def r29_26 : List HOp := [⟨(some 94), false, .faddr 1 (.env 16), none⟩,
      ⟨(some 95), false, .load 1 false (.loc 94), none⟩,
      ⟨(some 96), false, .mv (.env 8), none⟩,
      ⟨(some 97), false, .bin .other .sub (.loc 96) (.val (.tr (.sc (.int .i64 1)))), none⟩,
      ⟨(some 98), false, .callf 52 [(.loc 95), (.loc 97)], none⟩,
      ⟨(some 99), false, .bin .other .eql (.loc 98) (.val (.tr (.sc (.int .i64 1)))), none⟩]
@[simp] def r29_27 : List HOp := [⟨(some 100), false, .load 2 true (.env 16), none⟩,
      ⟨(some 101), false, .mv (.env 8), none⟩,
      ⟨(some 102), false, .callf 59 [(.loc 101)], none⟩,
      ⟨(some 103), false, .callf 17 [(.loc 100), (.loc 102)], none⟩,
      ⟨none, false, .store 2 (.env 16) (.loc 103), none⟩]
@[simp] def r29_28 : List HOp := [⟨(some 104), false, .load 2 true (.env 16), none⟩,
     ⟨none, false, .store 2 (.env 6) (.loc 104), none⟩,
     ⟨(some 7), true, .mv (.val (.tr (.sc (.bool true)))), none⟩]
@[simp] def k29_2 : HCode := .cond (.loc 22) (.region r29_3 none) .skip
@[simp] def k29_9 : HCode := .cond (.loc 35) .skip (.exit 0)
@[simp] def k29_11 : HCode := .cond (.loc 40) (.region r29_10 none) .skip
@[simp] def k29_23 : HCode := .seq (.region r29_22 none) .ret
@[simp] def k29_22 : HCode := .cond (.loc 74) (.region r29_21 none) k29_23
@[simp] def k29_21 : HCode := .seq (.region r29_20 none) k29_22
@[simp] def k29_20 : HCode := .cond (.loc 68) (.region r29_19 none) k29_21
@[simp] def k29_19 : HCode := .seq (.region r29_18 none) k29_20
@[simp] def k29_18 : HCode := .cond (.loc 59) (.region r29_17 none) k29_19
@[simp] def k29_17 : HCode := .seq (.region r29_16 none) k29_18
@[simp] def k29_16 : HCode := .cond (.loc 54) (.region r29_15 none) k29_17
@[simp] def k29_15 : HCode := .block 2 (.seq (.region r29_14 none) k29_16)
def k29_24 : HCode := .region r29_23 (some [ ( 0, [ 11 ] ) , ( 0, [ 12 ] ) , ( 0, [ 81 ] ) , ( 2, [ 80, 82 ] ) , ( 2, [ 83 ] ) , ( 0, [ 15 ] ) , ( 0, [ 12 ] ) , ( 0, [ 86 ] ) , ( 0, [ 85, 87 ] ) , ( 0, [ 84, 88 ] ) , ( 2, [ 80, 82 ] ) , ( 2, [ 90, 89 ] ) ])
@[simp] def k29_14 : HCode := .seq (.seq (.region r29_13 none) k29_15) k29_24
@[simp] def k29_13 : HCode := .seq (.region r29_12 none) k29_14
def k29_12 : HCode := .seq (.region r29_11 (some [ ( 0, [ 9 ] ) , ( 1, [ 44 ] ) , ( 0, [ 12 ] ) , ( 1, [ 45, 46 ] ) , ( 0, [ 10 ] ) , ( 1, [ 48 ] ) , ( 0, [ 12 ] ) , ( 2, [ 49, 50 ] ) , ( 0, [ 47 ] ) , ( 0, [ 51 ] ) ])) k29_13
def k29_25 : HCode := .region r29_24 none
def k29_10 : HCode := .seq (.block 1 (.seq (.seq (.region r29_9 none) k29_11) k29_12)) k29_25
def k29_8 : HCode := .seq (.seq (.region r29_8 none) k29_9) k29_10
@[simp] def k29_7 : HCode := .block 0 (.loop k29_8)
@[simp] def k29_28 : HCode := .cond (.loc 99) (.region r29_27 (some [ ( 6, [ 16 ] ) , ( 0, [ 8 ] ) , ( 2, [ 101 ] ) , ( 2, [ 100, 102 ] ) , ( 2, [ 16, 103 ] ) ])) .skip
def k29_29 : HCode := .seq (.region r29_28 none) .ret
@[simp] def k29_27 : HCode := .seq (.seq (.region r29_26 none) k29_28) k29_29
def k29_26 : HCode := .seq (.region r29_25 none) k29_27
@[simp] def k29_6 : HCode := .seq (.seq (.region r29_7 none) k29_7) k29_26
@[simp] def k29_5 : HCode := .seq (.region r29_6 none) k29_6
@[simp] def k29_4 : HCode := .seq (.region r29_5 (some [ ( 0, [ 4 ] ) , ( 0, [ 8 ] ) , ( 1, [ 27, 28 ] ) , ( 0, [ 5 ] ) , ( 0, [ 8 ] ) , ( 1, [ 30, 31 ] ) , ( 1, [ ] ) , ( 1, [ ] ) , ( 2, [ 9, 29 ] ) , ( 2, [ 10, 32 ] ) ])) k29_5
def k29_3 : HCode := .seq (.region r29_4 none) k29_4
@[simp] def k29_1 : HCode := .seq (.seq (.region r29_2 none) k29_2) k29_3
@[simp] def k29_0 : HCode := .seq (.region r29_1 none) k29_1
@[simp] def fn29 : HFn := { nargs := 3, results := [.cell 6 2 true, .tmp 7], mode := .iso, code := (.seq (.region r29_0 none) k29_0) }
theorem c29 : cFn Try.prog (Hs 29) .iso 29 = some fn29 := by kernel_rfl
/- sterling/sterlingref1.low -/
@[simp] def r58_0 : List HOp := [⟨(some 2), true, .box true (.env 0), none⟩,
     ⟨(some 4), true, .alloc [(.sc (.bool false)), (.sc (.slice none 0 0))], none⟩]
@[simp] def r58_1 : List HOp := [⟨(some 8), false, .mv (.env 1), none⟩,
     ⟨(some 9), false, .callf 59 [(.loc 8)], none⟩,
     ⟨(some 5), true, .alloc [(.sc (.bool false)), (.sc (.slice none 0 0))], none⟩,
     ⟨none, false, .store 2 (.env 5) (.loc 9), none⟩]
@[simp] def r58_2 : List HOp := [⟨(some 11), false, .load 2 true (.env 2), none⟩,
     ⟨(some 12), false, .load 2 true (.env 5), none⟩,
     ⟨(some 13), false, .callf 27 [(.loc 11), (.loc 12)], none⟩,
     ⟨(some 10), false, .mv (.loc 13), none⟩,
     ⟨(some 14), false, .extract (.loc 10) 0, none⟩,
     ⟨(some 15), false, .extract (.loc 10) 1, none⟩,
     ⟨(some 6), false, .alloc [(.sc (.bool false)), (.sc (.slice none 0 0))], none⟩,
     ⟨(some 7), true, .alloc [(.sc (.bool false)), (.sc (.slice none 0 0))], none⟩,
     ⟨none, false, .store 2 (.loc 6) (.loc 14), none⟩,
     ⟨none, false, .store 2 (.env 7) (.loc 15), none⟩]
@[simp] def r58_3 : List HOp := [⟨(some 16), false, .faddr 0 (.env 7), none⟩,
      ⟨(some 17), false, .load 1 false (.loc 16), none⟩]
@[simp] def r58_4 : List HOp := [⟨(some 18), false, .load 2 true (.env 7), none⟩,
      ⟨(some 19), false, .load 2 true (.env 5), none⟩,
      ⟨(some 20), false, .callf 15 [(.loc 18), (.loc 19)], none⟩,
      ⟨none, false, .store 2 (.env 7) (.loc 20), none⟩]
@[simp] def r58_5 : List HOp := [⟨(some 21), false, .load 2 true (.env 7), none⟩,
     ⟨none, false, .store 2 (.env 4) (.loc 21), none⟩]
@[simp] def k58_3 : HCode := .cond (.loc 17) (.region r58_4 none) .skip
def k58_4 : HCode := .seq (.region r58_5 none) .ret
@[simp] def k58_2 : HCode := .seq (.seq (.region r58_3 none) k58_3) k58_4
@[simp] def k58_1 : HCode := .seq (.region r58_2 none) k58_2
@[simp] def k58_0 : HCode := .seq (.region r58_1 none) k58_1
@[simp] def fn58 : HFn := { nargs := 2, results := [.cell 4 2 true], mode := .iso, code := (.seq (.region r58_0 none) k58_0) }
theorem c58 : cFn Try.prog (Hs 58) .iso 58 = some fn58 := by kernel_rfl
/- sterling/sterlingref1.Power2 -/
@[simp] def r59_0 : List HOp := [⟨(some 2), true, .alloc [(.sc (.bool false)), (.sc (.slice none 0 0))], none⟩]
@[simp] def r59_1 : List HOp := [⟨(some 4), false, .mv (.env 0), none⟩,
     ⟨(some 5), false, .bin .other .quo (.loc 4) (.val (.tr (.sc (.int .i64 16)))), none⟩,
     ⟨(some 6), false, .bin .other .add (.loc 5) (.val (.tr (.sc (.int .i64 1)))), none⟩,
     ⟨(some 7), false, .mkslice [(.sc (.int .i64 0))] 8 (.loc 6) (.loc 6), none⟩,
     ⟨(some 3), true, .mv (.loc 7), none⟩]
@[simp] def r59_2 : List HOp := [⟨(some 8), false, .mv (.env 3), none⟩,
     ⟨(some 9), false, .mv (.env 0), none⟩,
     ⟨(some 10), false, .bin .other .quo (.loc 9) (.val (.tr (.sc (.int .i64 16)))), none⟩,
     ⟨(some 11), false, .mv (.env 0), none⟩,
     ⟨(some 12), false, .bin .other .rem (.loc 11) (.val (.tr (.sc (.int .i64 16)))), none⟩,
     ⟨(some 13), false, .bin .other .shl (.val (.tr (.sc (.int .i64 1)))) (.loc 12), none⟩,
     ⟨(some 14), false, .iaddr 1 (.loc 8) (.loc 10), none⟩,
     ⟨none, false, .store 1 (.loc 14) (.loc 13), none⟩]
@[simp] def r59_3 : List HOp := [⟨(some 15), false, .mv (.env 3), none⟩,
     ⟨(some 16), false, .build [(.sc (.bool false)), (.sc (.slice none 0 0))] [(0, 1, (.val (.tr (.sc (.bool false))))), (1, 1, (.loc 15))], none⟩,
     ⟨none, false, .store 2 (.env 2) (.loc 16), none⟩]
@[simp] def k59_2 : HCode := .seq (.region r59_3 none) .ret
@[simp] def k59_1 : HCode := .seq (.region r59_2 none) k59_2
@[simp] def k59_0 : HCode := .seq (.region r59_1 none) k59_1
@[simp] def fn59 : HFn := { nargs := 1, results := [.cell 2 2 true], mode := .iso, code := (.seq (.region r59_0 none) k59_0) }
theorem c59 : cFn Try.prog (Hs 59) .iso 59 = some fn59 := by kernel_rfl
/- sterling/sterlinglaw1.IntRing -/
@[simp] def r6_0 : List HOp := [⟨(some 4), true, .box false (.env 0), none⟩,
     ⟨(some 5), true, .box false (.env 1), none⟩,
     ⟨(some 6), true, .box false (.env 2), none⟩,
     ⟨(some 8), true, .mv (.val (.tr (.sc (.bool false)))), none⟩]
@[simp] def r6_1 : List HOp := [⟨(some 15), false, .callf 10 [], none⟩,
     ⟨(some 9), true, .mv (.loc 15), none⟩]
@[simp] def r6_2 : List HOp := [⟨(some 16), false, .load 2 true (.env 4), none⟩,
     ⟨(some 17), false, .callf 11 [(.loc 16), (.val (.tr (.sc (.int .i64 10))))], none⟩,
     ⟨(some 18), false, .load 2 true (.env 5), none⟩,
     ⟨(some 19), false, .callf 11 [(.loc 18), (.val (.tr (.sc (.int .i64 10))))], none⟩,
     ⟨(some 20), false, .load 2 true (.env 6), none⟩,
     ⟨(some 21), false, .callf 11 [(.loc 20), (.val (.tr (.sc (.int .i64 10))))], none⟩,
     ⟨none, false, .store 2 (.env 4) (.loc 17), none⟩,
     ⟨none, false, .store 2 (.env 5) (.loc 19), none⟩,
     ⟨none, false, .store 2 (.env 6) (.loc 21), none⟩]
@[simp] def r6_3 : List HOp := [⟨(some 22), false, .faddr 0 (.env 4), none⟩,
     ⟨(some 23), false, .load 1 false (.loc 22), none⟩,
     ⟨(some 24), false, .faddr 1 (.env 4), none⟩,
     ⟨(some 25), false, .load 1 false (.loc 24), none⟩,
     ⟨(some 26), false, .qappend 1 4 (.val (.tr (.sc (.slice none 0 0)))) (.loc 25), none⟩,
     ⟨(some 27), false, .build [(.sc (.bool false)), (.sc (.slice none 0 0))] [(0, 1, (.loc 23)), (1, 1, (.loc 26))], none⟩,
     ⟨(some 10), true, .alloc [(.sc (.bool false)), (.sc (.slice none 0 0))], none⟩,
     ⟨none, false, .store 2 (.env 10) (.loc 27), none⟩]
@[simp] def r6_4 : List HOp := [⟨(some 11), true, .mv (.val (.tr (.sc (.int .i64 0)))), none⟩]
@[simp] def r6_5 : List HOp := [⟨(some 28), false, .mv (.env 11), none⟩,
         ⟨(some 29), false, .mv (.env 3), none⟩,
         ⟨(some 30), false, .bin .other .lss (.loc 28) (.loc 29), none⟩,
         ⟨(some 31), false, .mv (.loc 30), none⟩,
         ⟨(some 32), false, .mv (.env 11), some ((.loc 31), true)⟩,
         ⟨(some 33), false, .bin .other .lss (.loc 32) (.val (.tr (.sc (.int .i64 4)))), some ((.loc 31), true)⟩,
         ⟨(some 34), false, .pick (.loc 31) (.loc 33) (.val (.tr (.sc (.bool false)))), none⟩]
@[simp] def r6_6 : List HOp := [⟨(some 37), false, .faddr 1 (.env 10), none⟩,
         ⟨(some 38), false, .load 1 false (.loc 37), none⟩,
         ⟨(some 39), false, .bslice false 1 1 [(.sc (.int .u32 0))] [(0, 1, (.val (.tr (.sc (.int .u32 0)))))], none⟩,
         ⟨(some 40), false, .append 1 4 (.loc 38) (.loc 39), none⟩,
         ⟨(some 41), false, .faddr 1 (.env 10), none⟩,
         ⟨none, false, .store 1 (.loc 41) (.loc 40), none⟩]
@[simp] def r6_7 : List HOp := [⟨(some 35), false, .mv (.env 11), none⟩,
       ⟨(some 36), false, .bin .other .add (.loc 35) (.val (.tr (.sc (.int .i64 1)))), none⟩,
       ⟨(some 11), true, .mv (.loc 36), none⟩]
@[simp] def r6_8 : List HOp := [⟨(some 42), false, .load 2 true (.env 10), none⟩,
     ⟨(some 43), false, .load 2 true (.env 5), none⟩,
     ⟨(some 44), false, .load 2 true (.env 6), none⟩,
     ⟨(some 45), false, .callf 14 [(.loc 43), (.loc 44)], none⟩,
     ⟨(some 46), false, .callf 18 [(.loc 42), (.loc 45)], none⟩,
     ⟨(some 12), true, .alloc [(.sc (.bool false)), (.sc (.slice none 0 0))], none⟩,
     ⟨none, false, .store 2 (.env 12) (.loc 46), none⟩]
@[simp] def r6_9 : List HOp := [⟨(some 47), false, .load 2 true (.env 4), none⟩,
     ⟨(some 48), false, .load 2 true (.env 5), none⟩,
     ⟨(some 49), false, .callf 18 [(.loc 47), (.loc 48)], none⟩,
     ⟨(some 50), false, .load 2 true (.env 4), none⟩,
     ⟨(some 51), false, .load 2 true (.env 6), none⟩,
     ⟨(some 52), false, .callf 18 [(.loc 50), (.loc 51)], none⟩,
     ⟨(some 53), false, .callf 14 [(.loc 49), (.loc 52)], none⟩,
     ⟨(some 13), true, .alloc [(.sc (.bool false)), (.sc (.slice none 0 0))], none⟩,
     ⟨none, false, .store 2 (.env 13) (.loc 53), none⟩]
@[simp] def r6_10 : List HOp := [⟨(some 54), false, .load 2 true (.env 10), none⟩,
     ⟨(some 55), false, .load 2 true (.env 4), none⟩,
     ⟨(some 56), false, .callf 16 [(.loc 54), (.loc 55)], none⟩,
     ⟨(some 14), true, .alloc [(.sc (.bool false)), (.sc (.slice none 0 0))], none⟩,
     ⟨none, false, .store 2 (.env 14) (.loc 56), none⟩]
@[simp] def r6_11 : List HOp := [⟨(some 57), false, .mv (.env 9), none⟩,
     ⟨(some 58), false, .mv (.loc 57), none⟩,
     ⟨(some 59), false, .load 2 true (.env 12), some ((.loc 58), true)⟩,
     ⟨(some 60), false, .load 2 true (.env 13), some ((.loc 58), true)⟩,
     ⟨(some 61), false, .callf 22 [(.loc 59), (.loc 60)], some ((.loc 58), true)⟩,
     ⟨(some 62), false, .bin .other .eql (.loc 61) (.val (.tr (.sc (.int .i64 0)))), some ((.loc 58), true)⟩,
     ⟨(some 63), false, .pick (.loc 58) (.loc 62) (.val (.tr (.sc (.bool false)))), none⟩,
     ⟨(some 64), false, .mv (.loc 63), none⟩,
     ⟨(some 65), false, .load 2 true (.env 4), some ((.loc 64), true)⟩,
     ⟨(some 66), false, .load 2 true (.env 10), some ((.loc 64), true)⟩,
     ⟨(some 67), false, .callf 22 [(.loc 65), (.loc 66)], some ((.loc 64), true)⟩,
     ⟨(some 68), false, .bin .other .eql (.loc 67) (.val (.tr (.sc (.int .i64 0)))), some ((.loc 64), true)⟩,
     ⟨(some 69), false, .pick (.loc 64) (.loc 68) (.val (.tr (.sc (.bool false)))), none⟩,
     ⟨(some 70), false, .mv (.loc 69), none⟩,
     ⟨(some 71), false, .faddr 1 (.env 14), some ((.loc 70), true)⟩,
     ⟨(some 72), false, .load 1 false (.loc 71), some ((.loc 70), true)⟩,
     ⟨(some 73), false, .len 1 (.loc 72), some ((.loc 70), true)⟩,
     ⟨(some 74), false, .bin .other .eql (.loc 73) (.val (.tr (.sc (.int .i64 0)))), some ((.loc 70), true)⟩,
     ⟨(some 75), false, .pick (.loc 70) (.loc 74) (.val (.tr (.sc (.bool false)))), none⟩,
     ⟨(some 76), false, .mv (.loc 75), none⟩,
     ⟨(some 77), false, .faddr 0 (.env 14), some ((.loc 76), true)⟩,
     ⟨(some 78), false, .load 1 false (.loc 77), some ((.loc 76), true)⟩,
     ⟨(some 79), false, .un .not (.loc 78), some ((.loc 76), true)⟩,
     ⟨(some 80), false, .pick (.loc 76) (.loc 79) (.val (.tr (.sc (.bool false)))), none⟩,
     ⟨(some 8), true, .mv (.loc 80), none⟩]
@[simp] def k6_6 : HCode := .cond (.loc 34) .skip (.exit 0)
def k6_7 : HCode := .seq (.block 1 (.region r6_6 none)) (.region r6_7 none)
def k6_5 : HCode := .seq (.seq (.region r6_5 none) k6_6) k6_7
@[simp] def k6_4 : HCode := .block 0 (.loop k6_5)
@[simp] def k6_11 : HCode := .seq (.region r6_11 none) .ret
@[simp] def k6_10 : HCode := .seq (.region r6_10 none) k6_11
@[simp] def k6_9 : HCode := .seq (.region r6_9 (some [ ( 1, [ 4 ] ) , ( 1, [ 5 ] ) , ( 1, [ 47, 48 ] ) , ( 1, [ 4 ] ) , ( 1, [ 6 ] ) , ( 1, [ 50, 51 ] ) , ( 1, [ 49, 52 ] ) , ( 1, [ ] ) , ( 2, [ 13, 53 ] ) ])) k6_10
def k6_8 : HCode := .seq (.region r6_8 (some [ ( 1, [ 10 ] ) , ( 1, [ 5 ] ) , ( 1, [ 6 ] ) , ( 1, [ 43, 44 ] ) , ( 1, [ 42, 45 ] ) , ( 1, [ ] ) , ( 2, [ 12, 46 ] ) ])) k6_9
@[simp] def k6_3 : HCode := .seq (.seq (.region r6_4 none) k6_4) k6_8
@[simp] def k6_2 : HCode := .seq (.region r6_3 (some [ ( 0, [ 4 ] ) , ( 1, [ 22 ] ) , ( 0, [ 4 ] ) , ( 1, [ 24 ] ) , ( 1, [ 25 ] ) , ( 0, [ 23, 26 ] ) , ( 1, [ ] ) , ( 2, [ 10, 27 ] ) ])) k6_3
@[simp] def k6_1 : HCode := .seq (.region r6_2 (some [ ( 1, [ 4 ] ) , ( 1, [ 16 ] ) , ( 1, [ 5 ] ) , ( 1, [ 18 ] ) , ( 1, [ 6 ] ) , ( 2, [ 20 ] ) , ( 2, [ 4, 17 ] ) , ( 2, [ 5, 19 ] ) , ( 2, [ 6, 21 ] ) ])) k6_2
@[simp] def k6_0 : HCode := .seq (.region r6_1 none) k6_1
@[simp] def fn6 : HFn := { nargs := 4, results := [.tmp 8], mode := .shared, code := (.seq (.region r6_0 none) k6_0) }
theorem c6 : cFn Try.prog (Hs 6) .shared 6 = some fn6 := by kernel_rfl
/- sterling/sterlinglaw1.IntPower -/
@[simp] def r7_0 : List HOp := [⟨(some 2), true, .box false (.env 0), none⟩,
     ⟨(some 4), true, .mv (.val (.tr (.sc (.bool false)))), none⟩]
@[simp] def r7_1 : List HOp := [⟨(some 12), false, .callf 10 [], none⟩,
     ⟨(some 5), true, .mv (.loc 12), none⟩]
@[simp] def r7_2 : List HOp := [⟨(some 13), false, .load 2 true (.env 2), none⟩,
     ⟨(some 14), false, .callf 11 [(.loc 13), (.val (.tr (.sc (.int .i64 3))))], none⟩,
     ⟨none, false, .store 2 (.env 2) (.loc 14), none⟩]
@[simp] def r7_3 : List HOp := [⟨(some 15), false, .mv (.env 1), none⟩,
      ⟨(some 16), false, .bin .other .lss (.loc 15) (.val (.tr (.sc (.int .i64 0)))), none⟩,
      ⟨(some 17), false, .mv (.loc 16), none⟩,
      ⟨(some 18), false, .mv (.env 1), some ((.loc 17), false)⟩,
      ⟨(some 19), false, .bin .other .gtr (.loc 18) (.val (.tr (.sc (.int .i64 20)))), some ((.loc 17), false)⟩,
      ⟨(some 20), false, .pick (.loc 17) (.val (.tr (.sc (.bool true)))) (.loc 19), none⟩]
@[simp] def r7_4 : List HOp := [⟨(some 21), false, .mv (.env 5), none⟩,
       ⟨(some 4), true, .mv (.loc 21), none⟩]
@[simp] def r7_5 : List HOp := [⟨(some 22), false, .callf 30 [(.val (.tr (.sc (.int .i64 1))))], none⟩,
     ⟨(some 6), true, .alloc [(.sc (.bool false)), (.sc (.slice none 0 0))], none⟩,
     ⟨none, false, .store 2 (.env 6) (.loc 22), none⟩]
@[simp] def r7_6 : List HOp := [⟨(some 7), true, .mv (.val (.tr (.sc (.int .i64 0)))), none⟩]
@[simp] def r7_7 : List HOp := [⟨(some 23), false, .mv (.env 7), none⟩,
         ⟨(some 24), false, .mv (.env 1), none⟩,
         ⟨(some 25), false, .bin .other .lss (.loc 23) (.loc 24), none⟩]
@[simp] def r7_8 : List HOp := [⟨(some 28), false, .load 2 true (.env 6), none⟩,
         ⟨(some 29), false, .load 2 true (.env 2), none⟩,
         ⟨(some 30), false, .callf 18 [(.loc 28), (.loc 29)], none⟩,
         ⟨none, false, .store 2 (.env 6) (.loc 30), none⟩]
@[simp] def r7_9 : List HOp := [⟨(some 26), false, .mv (.env 7), none⟩,
       ⟨(some 27), false, .bin .other .add (.loc 26) (.val (.tr (.sc (.int .i64 1)))), none⟩,
       ⟨(some 7), true, .mv (.loc 27), none⟩]
@[simp] def r7_10 : List HOp := [⟨(some 31), false, .load 2 true (.env 6), none⟩,
      ⟨(some 32), false, .load 2 true (.env 2), none⟩,
      ⟨(some 33), false, .callf 12 [(.loc 32)], none⟩,
      ⟨(some 34), false, .mv (.env 1), none⟩,
      ⟨(some 35), false, .callf 31 [(.loc 33), (.loc 34)], none⟩,
      ⟨(some 36), false, .callf 13 [(.loc 31), (.loc 35)], none⟩,
      ⟨(some 37), false, .un .not (.loc 36), none⟩]
@[simp] def r7_11 : List HOp := [⟨(some 4), true, .mv (.val (.tr (.sc (.bool false)))), none⟩]
@[simp] def r7_12 : List HOp := [⟨(some 8), true, .mv (.val (.tr (.sc (.int .i64 0)))), none⟩]
@[simp] def r7_13 : List HOp := [⟨(some 38), false, .mv (.env 8), none⟩,
         ⟨(some 39), false, .mv (.env 1), none⟩,
         ⟨(some 40), false, .bin .other .lss (.loc 38) (.loc 39), none⟩]
@[simp] def r7_14 : List HOp := [⟨(some 44), false, .load 2 true (.env 6), none⟩,
          ⟨(some 45), false, .load 2 true (.env 2), none⟩,
          ⟨(some 46), false, .callf 26 [(.loc 44), (.loc 45)], none⟩,
          ⟨(some 43), false, .mv (.loc 46), none⟩,
          ⟨(some 47), false, .extract (.loc 43) 0, none⟩,
          ⟨(some 48), false, .extract (.loc 43) 1, none⟩,
          ⟨(some 49), false, .extract (.loc 43) 2, none⟩,
          ⟨(some 9), true, .alloc [(.sc (.bool false)), (.sc (.slice none 0 0))], none⟩,
          ⟨(some 10), true, .alloc [(.sc (.bool false)), (.sc (.slice none 0 0))], none⟩,
          ⟨none, false, .store 2 (.env 9) (.loc 47), none⟩,
          ⟨none, false, .store 2 (.env 10) (.loc 48), none⟩,
          ⟨(some 11), true, .mv (.loc 49), none⟩]
@[simp] def r7_15 : List HOp := [⟨(some 50), false, .load 2 true (.env 2), none⟩,
           ⟨(some 51), false, .callf 12 [(.loc 50)], none⟩,
           ⟨(some 52), false, .field 1 1 false (.loc 51), none⟩,
           ⟨(some 53), false, .len 1 (.loc 52), none⟩,
           ⟨(some 54), false, .bin .other .eql (.loc 53) (.val (.tr (.sc (.int .i64 0)))), none⟩]
@[simp] def r7_16 : List HOp := [⟨(some 55), false, .mv (.env 5), none⟩,
            ⟨(some 56), false, .mv (.loc 55), none⟩,
            ⟨(some 57), false, .mv (.env 11), some ((.loc 56), true)⟩,
            ⟨(some 58), false, .un .not (.loc 57), some ((.loc 56), true)⟩,
            ⟨(some 59), false, .pick (.loc 56) (.loc 58) (.val (.tr (.sc (.bool false)))), none⟩,
            ⟨(some 4), true, .mv (.loc 59), none⟩]
@[simp] def r7_17 : List HOp := [⟨(some 60), false, .mv (.env 11), none⟩,
           ⟨(some 61), false, .un .not (.loc 60), none⟩,
           ⟨(some 62), false, .mv (.loc 61), none⟩,
           ⟨(some 63), false, .faddr 1 (.env 10), some ((.loc 62), false)⟩,
           ⟨(some 64), false, .load 1 false (.loc 63), some ((.loc 62), false)⟩,
           ⟨(some 65), false, .len 1 (.loc 64), some ((.loc 62), false)⟩,
           ⟨(some 66), false, .bin .other .gtr (.loc 65) (.val (.tr (.sc (.int .i64 0)))), some ((.loc 62), false)⟩,
           ⟨(some 67), false, .pick (.loc 62) (.val (.tr (.sc (.bool true)))) (.loc 66), none⟩]
@[simp] def r7_18 : List HOp := [⟨(some 4), true, .mv (.val (.tr (.sc (.bool false)))), none⟩]
@[simp] def r7_19 : List HOp := [⟨(some 68), false, .load 2 true (.env 9), none⟩,
         ⟨none, false, .store 2 (.env 6) (.loc 68), none⟩]
@[simp] def r7_20 : List HOp := [⟨(some 41), false, .mv (.env 8), none⟩,
       ⟨(some 42), false, .bin .other .add (.loc 41) (.val (.tr (.sc (.int .i64 1)))), none⟩,
       ⟨(some 8), true, .mv (.loc 42), none⟩]
@[simp] def r7_21 : List HOp := [⟨(some 69), false, .mv (.env 5), none⟩,
     ⟨(some 70), false, .mv (.loc 69), none⟩,
     ⟨(some 71), false, .load 2 true (.env 6), some ((.loc 70), true)⟩,
     ⟨(some 72), false, .callf 32 [(.val (.tr (.sc (.int .i64 1))))], some ((.loc 70), true)⟩,
     ⟨(some 73), false, .callf 13 [(.loc 71), (.loc 72)], some ((.loc 70), true)⟩,
     ⟨(some 74), false, .pick (.loc 70) (.loc 73) (.val (.tr (.sc (.bool false)))), none⟩,
     ⟨(some 4), true, .mv (.loc 74), none⟩]
@[simp] def k7_4 : HCode := .seq (.region r7_4 none) .ret
@[simp] def k7_3 : HCode := .cond (.loc 20) k7_4 .skip
@[simp] def k7_9 : HCode := .cond (.loc 25) .skip (.exit 0)
def k7_10 : HCode := .seq (.block 1 (.region r7_8 none)) (.region r7_9 none)
def k7_8 : HCode := .seq (.seq (.region r7_7 none) k7_9) k7_10
@[simp] def k7_7 : HCode := .block 0 (.loop k7_8)
@[simp] def k7_13 : HCode := .seq (.region r7_11 none) .ret
@[simp] def k7_12 : HCode := .cond (.loc 37) k7_13 .skip
@[simp] def k7_17 : HCode := .cond (.loc 40) .skip (.exit 2)
@[simp] def k7_21 : HCode := .seq (.region r7_16 none) .ret
@[simp] def k7_20 : HCode := .cond (.loc 54) k7_21 .skip
@[simp] def k7_24 : HCode := .seq (.region r7_18 none) .ret
@[simp] def k7_23 : HCode := .cond (.loc 67) k7_24 .skip
def k7_25 : HCode := .region r7_19 none
def k7_22 : HCode := .seq (.seq (.region r7_17 none) k7_23) k7_25
@[simp] def k7_19 : HCode := .seq (.seq (.region r7_15 none) k7_20) k7_22
def k7_26 : HCode := .region r7_20 none
def k7_18 : HCode := .seq (.block 3 (.seq (.region r7_14 none) k7_19)) k7_26
def k7_16 : HCode := .seq (.seq (.region r7_13 none) k7_17) k7_18
@[simp] def k7_15 : HCode := .block 2 (.loop k7_16)
def k7_27 : HCode := .seq (.region r7_21 (some [ ( 0, [ 5 ] ) , ( 0, [ 69 ] ) , ( 7, [ 6, 70 ] ) , ( 2, [ 70 ] ) , ( 2, [ 71, 72, 70 ] ) , ( 0, [ 70, 73 ] ) , ( 0, [ 74 ] ) ])) .ret
def k7_14 : HCode := .seq (.seq (.region r7_12 none) k7_15) k7_27
def k7_11 : HCode := .seq (.seq (.region r7_10 (some [ ( 8, [ 6 ] ) , ( 1, [ 2 ] ) , ( 2, [ 32 ] ) , ( 0, [ 1 ] ) , ( 2, [ 33, 34 ] ) , ( 2, [ 31, 35 ] ) , ( 0, [ 36 ] ) ])) k7_12) k7_14
@[simp] def k7_6 : HCode := .seq (.seq (.region r7_6 none) k7_7) k7_11
def k7_5 : HCode := .seq (.region r7_5 none) k7_6
@[simp] def k7_2 : HCode := .seq (.seq (.region r7_3 none) k7_3) k7_5
@[simp] def k7_1 : HCode := .seq (.region r7_2 none) k7_2
@[simp] def k7_0 : HCode := .seq (.region r7_1 none) k7_1
@[simp] def fn7 : HFn := { nargs := 2, results := [.tmp 4], mode := .shared, code := (.seq (.region r7_0 none) k7_0) }
theorem c7 : cFn Try.prog (Hs 7) .shared 7 = some fn7 := by kernel_rfl
/- sterling/sterlingref1.Power -/
@[simp] def r31_0 : List HOp := [⟨(some 2), true, .box false (.env 0), none⟩,
     ⟨(some 4), true, .alloc [(.sc (.bool false)), (.sc (.slice none 0 0))], none⟩]
@[simp] def r31_1 : List HOp := [⟨(some 6), false, .callf 32 [(.val (.tr (.sc (.int .i64 1))))], none⟩,
     ⟨(some 5), true, .alloc [(.sc (.bool false)), (.sc (.slice none 0 0))], none⟩,
     ⟨none, false, .store 2 (.env 5) (.loc 6), none⟩]
@[simp] def r31_2 : List HOp := [⟨(some 7), false, .mv (.env 1), none⟩,
         ⟨(some 8), false, .bin .other .gtr (.loc 7) (.val (.tr (.sc (.int .i64 0)))), none⟩]
@[simp] def r31_3 : List HOp := [⟨(some 11), false, .mv (.env 1), none⟩,
           ⟨(some 12), false, .bin .other .rem (.loc 11) (.val (.tr (.sc (.int .i64 2)))), none⟩,
           ⟨(some 13), false, .bin .other .eql (.loc 12) (.val (.tr (.sc (.int .i64 1)))), none⟩]
@[simp] def r31_4 : List HOp := [⟨(some 14), false, .load 2 true (.env 5), none⟩,
           ⟨(some 15), false, .load 2 true (.env 2), none⟩,
           ⟨(some 16), false, .callf 19 [(.loc 14), (.loc 15)], none⟩,
           ⟨none, false, .store 2 (.env 5) (.loc 16), none⟩]
@[simp] def r31_5 : List HOp := [⟨(some 17), false, .load 2 true (.env 2), none⟩,
         ⟨(some 18), false, .load 2 true (.env 2), none⟩,
         ⟨(some 19), false, .callf 19 [(.loc 17), (.loc 18)], none⟩,
         ⟨none, false, .store 2 (.env 2) (.loc 19), none⟩]
@[simp] def r31_6 : List HOp := [⟨(some 9), false, .mv (.env 1), none⟩,
       ⟨(some 10), false, .bin .other .quo (.loc 9) (.val (.tr (.sc (.int .i64 2)))), none⟩,
       ⟨(some 1), true, .mv (.loc 10), none⟩]
@[simp] def r31_7 : List HOp := [⟨(some 20), false, .load 2 true (.env 5), none⟩,
     ⟨none, false, .store 2 (.env 4) (.loc 20), none⟩]
@[simp] def k31_3 : HCode := .cond (.loc 8) .skip (.exit 0)
@[simp] def k31_5 : HCode := .cond (.loc 13) (.region r31_4 none) .skip
def k31_6 : HCode := .region r31_5 none
def k31_7 : HCode := .region r31_6 none
def k31_4 : HCode := .seq (.block 1 (.seq (.seq (.region r31_3 none) k31_5) k31_6)) k31_7
def k31_2 : HCode := .seq (.seq (.region r31_2 none) k31_3) k31_4
def k31_8 : HCode := .seq (.region r31_7 none) .ret
@[simp] def k31_1 : HCode := .seq (.block 0 (.loop k31_2)) k31_8
@[simp] def k31_0 : HCode := .seq (.region r31_1 none) k31_1
@[simp] def fn31 : HFn := { nargs := 2, results := [.cell 4 2 true], mode := .iso, code := (.seq (.region r31_0 none) k31_0) }
theorem c31 : cFn Try.prog (Hs 31) .iso 31 = some fn31 := by kernel_rfl
/- sterling/sterlingref1.Of -/
@[simp] def r32_0 : List HOp := [⟨(some 2), true, .alloc [(.sc (.bool false)), (.sc (.slice none 0 0))], none⟩]
@[simp] def r32_1 : List HOp := [⟨(some 6), false, .mv (.env 0), none⟩,
     ⟨(some 7), false, .bin .other .lss (.loc 6) (.val (.tr (.sc (.int .i64 0)))), none⟩,
     ⟨(some 3), true, .mv (.loc 7), none⟩]
@[simp] def r32_2 : List HOp := [⟨(some 4), true, .mv (.val (.tr (.sc (.slice none 0 0)))), none⟩]
@[simp] def r32_3 : List HOp := [⟨(some 8), false, .mv (.env 0), none⟩,
         ⟨(some 9), false, .bin .other .neq (.loc 8) (.val (.tr (.sc (.int .i64 0)))), none⟩]
@[simp] def r32_4 : List HOp := [⟨(some 10), false, .mv (.env 0), none⟩,
         ⟨(some 11), false, .bin .other .rem (.loc 10) (.val (.tr (.sc (.int .i64 65536)))), none⟩,
         ⟨(some 5), true, .mv (.loc 11), none⟩]
@[simp] def r32_5 : List HOp := [⟨(some 12), false, .mv (.env 5), none⟩,
          ⟨(some 13), false, .bin .other .lss (.loc 12) (.val (.tr (.sc (.int .i64 0)))), none⟩]
@[simp] def r32_6 : List HOp := [⟨(some 14), false, .mv (.env 5), none⟩,
          ⟨(some 15), false, .un .neg (.loc 14), none⟩,
          ⟨(some 5), true, .mv (.loc 15), none⟩]
@[simp] def r32_7 : List HOp := [⟨(some 16), false, .mv (.env 4), none⟩,
         ⟨(some 17), false, .mv (.env 5), none⟩,
         ⟨(some 18), false, .bslice false 1 1 [(.sc (.int .i64 0))] [(0, 1, (.loc 17))], none⟩,
         ⟨(some 19), false, .append 1 8 (.loc 16) (.loc 18), none⟩,
         ⟨(some 4), true, .mv (.loc 19), none⟩]
@[simp] def r32_8 : List HOp := [⟨(some 20), false, .mv (.env 0), none⟩,
        ⟨(some 21), false, .bin .other .quo (.loc 20) (.val (.tr (.sc (.int .i64 65536)))), none⟩,
        ⟨(some 0), true, .mv (.loc 21), none⟩]
@[simp] def r32_9 : List HOp := [⟨(some 22), false, .mv (.env 3), none⟩,
     ⟨(some 23), false, .mv (.env 4), none⟩,
     ⟨(some 24), false, .build [(.sc (.bool false)), (.sc (.slice none 0 0))] [(0, 1, (.loc 22)), (1, 1, (.loc 23))], none⟩,
     ⟨none, false, .store 2 (.env 2) (.loc 24), none⟩]
@[simp] def k32_4 : HCode := .cond (.loc 9) .skip (.exit 0)
@[simp] def k32_7 : HCode := .cond (.loc 13) (.region r32_6 none) .skip
def k32_8 : HCode := .seq (.region r32_7 none) (.region r32_8 none)
@[simp] def k32_6 : HCode := .seq (.seq (.region r32_5 none) k32_7) k32_8
def k32_5 : HCode := .block 1 (.seq (.region r32_4 none) k32_6)
def k32_3 : HCode := .seq (.seq (.region r32_3 none) k32_4) k32_5
def k32_9 : HCode := .seq (.region r32_9 none) .ret
@[simp] def k32_2 : HCode := .seq (.block 0 (.loop k32_3)) k32_9
@[simp] def k32_1 : HCode := .seq (.region r32_2 none) k32_2
@[simp] def k32_0 : HCode := .seq (.region r32_1 none) k32_1
@[simp] def fn32 : HFn := { nargs := 1, results := [.cell 2 2 true], mode := .iso, code := (.seq (.region r32_0 none) k32_0) }
theorem c32 : cFn Try.prog (Hs 32) .iso 32 = some fn32 := by kernel_rfl
/- sterling/sterlinglaw1.IntOwn -/
@[simp] def r8_0 : List HOp := [⟨(some 2), true, .box false (.env 0), none⟩,
     ⟨(some 3), true, .box false (.env 1), none⟩,
     ⟨(some 4), true, .mv (.val (.tr (.sc (.bool false)))), none⟩]
@[simp] def r8_1 : List HOp := [⟨(some 12), false, .callf 10 [], none⟩,
     ⟨(some 5), true, .mv (.loc 12), none⟩]
@[simp] def r8_2 : List HOp := [⟨(some 13), false, .load 2 true (.env 2), none⟩,
     ⟨(some 14), false, .callf 11 [(.loc 13), (.val (.tr (.sc (.int .i64 6))))], none⟩,
     ⟨(some 15), false, .load 2 true (.env 3), none⟩,
     ⟨(some 16), false, .callf 11 [(.loc 15), (.val (.tr (.sc (.int .i64 6))))], none⟩,
     ⟨none, false, .store 2 (.env 2) (.loc 14), none⟩,
     ⟨none, false, .store 2 (.env 3) (.loc 16), none⟩]
@[simp] def r8_3 : List HOp := [⟨(some 17), false, .faddr 0 (.env 2), none⟩,
     ⟨(some 18), false, .load 1 false (.loc 17), none⟩,
     ⟨(some 19), false, .faddr 1 (.env 2), none⟩,
     ⟨(some 20), false, .load 1 false (.loc 19), none⟩,
     ⟨(some 21), false, .qappend 1 4 (.val (.tr (.sc (.slice none 0 0)))) (.loc 20), none⟩,
     ⟨(some 22), false, .build [(.sc (.bool false)), (.sc (.slice none 0 0))] [(0, 1, (.loc 18)), (1, 1, (.loc 21))], none⟩,
     ⟨(some 6), true, .alloc [(.sc (.bool false)), (.sc (.slice none 0 0))], none⟩,
     ⟨none, false, .store 2 (.env 6) (.loc 22), none⟩]
@[simp] def r8_4 : List HOp := [⟨(some 23), false, .faddr 0 (.env 3), none⟩,
     ⟨(some 24), false, .load 1 false (.loc 23), none⟩,
     ⟨(some 25), false, .faddr 1 (.env 3), none⟩,
     ⟨(some 26), false, .load 1 false (.loc 25), none⟩,
     ⟨(some 27), false, .qappend 1 4 (.val (.tr (.sc (.slice none 0 0)))) (.loc 26), none⟩,
     ⟨(some 28), false, .build [(.sc (.bool false)), (.sc (.slice none 0 0))] [(0, 1, (.loc 24)), (1, 1, (.loc 27))], none⟩,
     ⟨(some 7), true, .alloc [(.sc (.bool false)), (.sc (.slice none 0 0))], none⟩,
     ⟨none, false, .store 2 (.env 7) (.loc 28), none⟩]
@[simp] def r8_5 : List HOp := [⟨(some 29), false, .load 2 true (.env 6), none⟩,
     ⟨(some 30), false, .load 2 true (.env 7), none⟩,
     ⟨(some 31), false, .callf 14 [(.loc 29), (.loc 30)], none⟩,
     ⟨(some 32), false, .load 2 true (.env 6), none⟩,
     ⟨(some 33), false, .load 2 true (.env 7), none⟩,
     ⟨(some 34), false, .callf 16 [(.loc 32), (.loc 33)], none⟩,
     ⟨(some 35), false, .load 2 true (.env 6), none⟩,
     ⟨(some 36), false, .load 2 true (.env 7), none⟩,
     ⟨(some 37), false, .callf 18 [(.loc 35), (.loc 36)], none⟩,
     ⟨(some 38), false, .load 2 true (.env 6), none⟩,
     ⟨(some 39), false, .callf 20 [(.loc 38)], none⟩,
     ⟨(some 40), false, .bslice false 4 2 [(.sc (.bool false)), (.sc (.slice none 0 0))] [(0, 2, (.loc 31)), (2, 2, (.loc 34)), (4, 2, (.loc 37)), (6, 2, (.loc 39))], none⟩,
     ⟨(some 8), true, .mv (.loc 40), none⟩]
@[simp] def r8_6 : List HOp := [⟨(some 9), true, .mv (.val (.tr (.sc (.int .i64 0)))), none⟩]
@[simp] def r8_7 : List HOp := [⟨(some 41), false, .mv (.env 9), none⟩,
         ⟨(some 42), false, .mv (.env 8), none⟩,
         ⟨(some 43), false, .len 1 (.loc 42), none⟩,
         ⟨(some 44), false, .bin .other .lss (.loc 41) (.loc 43), none⟩]
@[simp] def r8_8 : List HOp := [⟨(some 10), true, .mv (.val (.tr (.sc (.int .i64 0)))), none⟩]
@[simp] def r8_9 : List HOp := [⟨(some 47), false, .mv (.env 10), none⟩,
             ⟨(some 48), false, .mv (.env 8), none⟩,
             ⟨(some 49), false, .mv (.env 9), none⟩,
             ⟨(some 50), false, .iaddr 2 (.loc 48) (.loc 49), none⟩,
             ⟨(some 51), false, .faddr 1 (.loc 50), none⟩,
             ⟨(some 52), false, .load 1 false (.loc 51), none⟩,
             ⟨(some 53), false, .len 1 (.loc 52), none⟩,
             ⟨(some 54), false, .bin .other .lss (.loc 47) (.loc 53), none⟩]
@[simp] def r8_10 : List HOp := [⟨(some 57), false, .mv (.env 8), none⟩,
             ⟨(some 58), false, .mv (.env 9), none⟩,
             ⟨(some 59), false, .iaddr 2 (.loc 57) (.loc 58), none⟩,
             ⟨(some 60), false, .faddr 1 (.loc 59), none⟩,
             ⟨(some 61), false, .load 1 false (.loc 60), none⟩,
             ⟨(some 62), false, .mv (.env 10), none⟩,
             ⟨(some 63), false, .iaddr 1 (.loc 61) (.loc 62), none⟩,
             ⟨(some 64), false, .load 1 false (.loc 63), none⟩,
             ⟨(some 65), false, .bin .other .xor (.loc 64) (.val (.tr (.sc (.int .u32 5)))), none⟩,
             ⟨(some 66), false, .iaddr 1 (.loc 61) (.loc 62), none⟩,
             ⟨none, false, .store 1 (.loc 66) (.loc 65), none⟩]
@[simp] def r8_11 : List HOp := [⟨(some 55), false, .mv (.env 10), none⟩,
           ⟨(some 56), false, .bin .other .add (.loc 55) (.val (.tr (.sc (.int .i64 1)))), none⟩,
           ⟨(some 10), true, .mv (.loc 56), none⟩]
@[simp] def r8_12 : List HOp := [⟨(some 45), false, .mv (.env 9), none⟩,
       ⟨(some 46), false, .bin .other .add (.loc 45) (.val (.tr (.sc (.int .i64 1)))), none⟩,
       ⟨(some 9), true, .mv (.loc 46), none⟩]
@[simp] def r8_13 : List HOp := [⟨(some 11), true, .mv (.val (.tr (.sc (.int .i64 0)))), none⟩]
@[simp] def r8_14 : List HOp := [⟨(some 67), false, .mv (.env 11), none⟩,
         ⟨(some 68), false, .faddr 1 (.env 2), none⟩,
         ⟨(some 69), false, .load 1 false (.loc 68), none⟩,
         ⟨(some 70), false, .len 1 (.loc 69), none⟩,
         ⟨(some 71), false, .bin .other .lss (.loc 67) (.loc 70), none⟩]
@[simp] def r8_15 : List HOp := [⟨(some 74), false, .faddr 1 (.env 2), none⟩,
          ⟨(some 75), false, .load 1 false (.loc 74), none⟩,
          ⟨(some 76), false, .mv (.env 11), none⟩,
          ⟨(some 77), false, .iaddr 1 (.loc 75) (.loc 76), none⟩,
          ⟨(some 78), false, .load 1 false (.loc 77), none⟩,
          ⟨(some 79), false, .faddr 1 (.env 6), none⟩,
          ⟨(some 80), false, .load 1 false (.loc 79), none⟩,
          ⟨(some 81), false, .mv (.env 11), none⟩,
          ⟨(some 82), false, .iaddr 1 (.loc 80) (.loc 81), none⟩,
          ⟨(some 83), false, .load 1 false (.loc 82), none⟩,
          ⟨(some 84), false, .bin .other .neq (.loc 78) (.loc 83), none⟩]
@[simp] def r8_16 : List HOp := [⟨(some 4), true, .mv (.val (.tr (.sc (.bool false)))), none⟩]
@[simp] def r8_17 : List HOp := [⟨(some 72), false, .mv (.env 11), none⟩,
       ⟨(some 73), false, .bin .other .add (.loc 72) (.val (.tr (.sc (.int .i64 1)))), none⟩,
       ⟨(some 11), true, .mv (.loc 73), none⟩]
@[simp] def r8_18 : List HOp := [⟨(some 85), false, .mv (.env 5), none⟩,
     ⟨(some 86), false, .mv (.loc 85), none⟩,
     ⟨(some 87), false, .load 2 true (.env 6), some ((.loc 86), true)⟩,
     ⟨(some 88), false, .load 2 true (.env 7), some ((.loc 86), true)⟩,
     ⟨(some 89), false, .callf 14 [(.loc 87), (.loc 88)], some ((.loc 86), true)⟩,
     ⟨(some 90), false, .load 2 true (.env 2), some ((.loc 86), true)⟩,
     ⟨(some 91), false, .callf 12 [(.loc 90)], some ((.loc 86), true)⟩,
     ⟨(some 92), false, .load 2 true (.env 3), some ((.loc 86), true)⟩,
     ⟨(some 93), false, .callf 12 [(.loc 92)], some ((.loc 86), true)⟩,
     ⟨(some 94), false, .callf 15 [(.loc 91), (.loc 93)], some ((.loc 86), true)⟩,
     ⟨(some 95), false, .callf 13 [(.loc 89), (.loc 94)], some ((.loc 86), true)⟩,
     ⟨(some 96), false, .pick (.loc 86) (.loc 95) (.val (.tr (.sc (.bool false)))), none⟩,
     ⟨(some 4), true, .mv (.loc 96), none⟩]
@[simp] def k8_8 : HCode := .cond (.loc 44) .skip (.exit 0)
@[simp] def k8_12 : HCode := .cond (.loc 54) .skip (.exit 2)
def k8_13 : HCode := .seq (.block 3 (.region r8_10 none)) (.region r8_11 none)
def k8_11 : HCode := .seq (.seq (.region r8_9 none) k8_12) k8_13
@[simp] def k8_10 : HCode := .block 2 (.loop k8_11)
def k8_14 : HCode := .region r8_12 none
def k8_9 : HCode := .seq (.block 1 (.seq (.region r8_8 none) k8_10)) k8_14
def k8_7 : HCode := .seq (.seq (.region r8_7 none) k8_8) k8_9
@[simp] def k8_6 : HCode := .block 0 (.loop k8_7)
@[simp] def k8_18 : HCode := .cond (.loc 71) .skip (.exit 4)
@[simp] def k8_21 : HCode := .seq (.region r8_16 none) .ret
@[simp] def k8_20 : HCode := .cond (.loc 84) k8_21 .skip
def k8_22 : HCode := .region r8_17 none
def k8_19 : HCode := .seq (.block 5 (.seq (.region r8_15 (some [ ( 0, [ 2 ] ) , ( 1, [ 74 ] ) , ( 0, [ 11 ] ) , ( 1, [ 75, 76 ] ) , ( 1, [ 77 ] ) , ( 0, [ 6 ] ) , ( 1, [ 79 ] ) , ( 0, [ 11 ] ) , ( 1, [ 80, 81 ] ) , ( 1, [ 82 ] ) , ( 0, [ 78, 83 ] ) ])) k8_20)) k8_22
def k8_17 : HCode := .seq (.seq (.region r8_14 none) k8_18) k8_19
@[simp] def k8_16 : HCode := .block 4 (.loop k8_17)
def k8_23 : HCode := .seq (.region r8_18 (some [ ( 0, [ 5 ] ) , ( 0, [ 85 ] ) , ( 1, [ 6, 86 ] ) , ( 1, [ 7, 86 ] ) , ( 1, [ 87, 88, 86 ] ) , ( 1, [ 2, 86 ] ) , ( 1, [ 90, 86 ] ) , ( 1, [ 3, 86 ] ) , ( 2, [ 92, 86 ] ) , ( 2, [ 91, 93, 86 ] ) , ( 2, [ 89, 94, 86 ] ) , ( 0, [ 86, 95 ] ) , ( 0, [ 96 ] ) ])) .ret
def k8_15 : HCode := .seq (.seq (.region r8_13 none) k8_16) k8_23
@[simp] def k8_5 : HCode := .seq (.seq (.region r8_6 none) k8_6) k8_15
@[simp] def k8_4 : HCode := .seq (.region r8_5 (some [ ( 1, [ 6 ] ) , ( 1, [ 7 ] ) , ( 1, [ 29, 30 ] ) , ( 1, [ 6 ] ) , ( 1, [ 7 ] ) , ( 1, [ 32, 33 ] ) , ( 1, [ 6 ] ) , ( 1, [ 7 ] ) , ( 1, [ 35, 36 ] ) , ( 1, [ 6 ] ) , ( 2, [ 38 ] ) , ( 2, [ 31, 34, 37, 39 ] ) , ( 0, [ 40 ] ) ])) k8_5
@[simp] def k8_3 : HCode := .seq (.region r8_4 (some [ ( 0, [ 3 ] ) , ( 1, [ 23 ] ) , ( 0, [ 3 ] ) , ( 1, [ 25 ] ) , ( 1, [ 26 ] ) , ( 0, [ 24, 27 ] ) , ( 1, [ ] ) , ( 2, [ 7, 28 ] ) ])) k8_4
@[simp] def k8_2 : HCode := .seq (.region r8_3 (some [ ( 0, [ 2 ] ) , ( 1, [ 17 ] ) , ( 0, [ 2 ] ) , ( 1, [ 19 ] ) , ( 1, [ 20 ] ) , ( 0, [ 18, 21 ] ) , ( 1, [ ] ) , ( 2, [ 6, 22 ] ) ])) k8_3
@[simp] def k8_1 : HCode := .seq (.region r8_2 (some [ ( 1, [ 2 ] ) , ( 1, [ 13 ] ) , ( 1, [ 3 ] ) , ( 2, [ 15 ] ) , ( 2, [ 2, 14 ] ) , ( 2, [ 3, 16 ] ) ])) k8_2
@[simp] def k8_0 : HCode := .seq (.region r8_1 none) k8_1
@[simp] def fn8 : HFn := { nargs := 2, results := [.tmp 4], mode := .shared, code := (.seq (.region r8_0 none) k8_0) }
theorem c8 : cFn Try.prog (Hs 8) .shared 8 = some fn8 := by kernel_rfl
/- sterling/sterlinglaw1.IntText -/
@[simp] def r9_0 : List HOp := [⟨(some 4), true, .box false (.env 0), none⟩,
     ⟨(some 8), true, .mv (.val (.tr (.sc (.bool false)))), none⟩]
@[simp] def r9_1 : List HOp := [⟨(some 24), false, .callf 10 [], none⟩,
     ⟨(some 9), true, .mv (.loc 24), none⟩]
@[simp] def r9_2 : List HOp := [⟨(some 25), false, .load 2 true (.env 4), none⟩,
     ⟨(some 26), false, .callf 11 [(.loc 25), (.val (.tr (.sc (.int .i64 12))))], none⟩,
     ⟨none, false, .store 2 (.env 4) (.loc 26), none⟩]
@[simp] def r9_3 : List HOp := [⟨(some 27), false, .mv (.env 1), none⟩,
      ⟨(some 28), false, .len 0 (.loc 27), none⟩,
      ⟨(some 29), false, .bin .other .gtr (.loc 28) (.val (.tr (.sc (.int .i64 100)))), none⟩]
@[simp] def r9_4 : List HOp := [⟨(some 30), false, .mv (.env 1), none⟩,
      ⟨(some 31), false, .slicestr (.loc 30) none (some (.val (.tr (.sc (.int .i64 100))))), none⟩,
      ⟨(some 1), true, .mv (.loc 31), none⟩]
@[simp] def r9_5 : List HOp := [⟨(some 32), false, .load 2 true (.env 4), none⟩,
     ⟨(some 33), false, .callf 12 [(.loc 32)], none⟩,
     ⟨(some 10), true, .alloc [(.sc (.bool false)), (.sc (.slice none 0 0))], none⟩,
     ⟨none, false, .store 2 (.env 10) (.loc 33), none⟩]
@[simp] def r9_6 : List HOp := [⟨(some 34), false, .load 2 true (.env 4), none⟩,
     ⟨(some 35), false, .callf 33 [(.loc 34)], none⟩,
     ⟨(some 11), true, .mv (.loc 35), none⟩]
@[simp] def r9_7 : List HOp := [⟨(some 36), false, .mv (.env 11), none⟩,
      ⟨(some 37), false, .len 0 (.loc 36), none⟩,
      ⟨(some 38), false, .bin .other .eql (.loc 37) (.val (.tr (.sc (.int .i64 0)))), none⟩]
@[simp] def r9_8 : List HOp := [⟨(some 8), true, .mv (.val (.tr (.sc (.bool false)))), none⟩]
@[simp] def r9_9 : List HOp := [⟨(some 39), false, .faddr 0 (.env 10), none⟩,
      ⟨(some 40), false, .load 1 false (.loc 39), none⟩]
@[simp] def r9_10 : List HOp := [⟨(some 41), false, .mv (.env 11), none⟩,
      ⟨(some 42), false, .slicestr (.loc 41) (some (.val (.tr (.sc (.int .i64 1))))) none, none⟩,
      ⟨(some 11), true, .mv (.loc 42), none⟩]
@[simp] def r9_11 : List HOp := [⟨(some 44), false, .mv (.env 11), none⟩,
     ⟨(some 45), false, .callf 34 [(.loc 44), (.val (.tr (.sc (.int .i64 10))))], none⟩,
     ⟨(some 43), false, .mv (.loc 45), none⟩,
     ⟨(some 46), false, .extract (.loc 43) 0, none⟩,
     ⟨(some 47), false, .extract (.loc 43) 1, none⟩,
     ⟨(some 12), true, .alloc [(.sc (.bool false)), (.sc (.slice none 0 0))], none⟩,
     ⟨none, false, .store 2 (.env 12) (.loc 46), none⟩,
     ⟨(some 13), true, .mv (.loc 47), none⟩]
@[simp] def r9_12 : List HOp := [⟨(some 49), false, .mv (.env 1), none⟩,
     ⟨(some 50), false, .mv (.env 2), none⟩,
     ⟨(some 51), false, .callf 34 [(.loc 49), (.loc 50)], none⟩,
     ⟨(some 48), false, .mv (.loc 51), none⟩,
     ⟨(some 52), false, .extract (.loc 48) 0, none⟩,
     ⟨(some 53), false, .extract (.loc 48) 1, none⟩,
     ⟨(some 14), true, .alloc [(.sc (.bool false)), (.sc (.slice none 0 0))], none⟩,
     ⟨none, false, .store 2 (.env 14) (.loc 52), none⟩,
     ⟨(some 15), true, .mv (.loc 53), none⟩]
@[simp] def r9_13 : List HOp := [⟨(some 55), false, .mv (.env 1), none⟩,
     ⟨(some 56), false, .mv (.env 2), none⟩,
     ⟨(some 57), false, .callf 35 [(.loc 55), (.loc 56)], none⟩,
     ⟨(some 54), false, .mv (.loc 57), none⟩,
     ⟨(some 58), false, .extract (.loc 54) 0, none⟩,
     ⟨(some 59), false, .extract (.loc 54) 1, none⟩,
     ⟨(some 16), true, .alloc [(.sc (.bool false)), (.sc (.slice none 0 0))], none⟩,
     ⟨none, false, .store 2 (.env 16) (.loc 58), none⟩,
     ⟨(some 17), true, .mv (.loc 59), none⟩]
@[simp] def r9_14 : List HOp := [⟨(some 61), false, .load 2 true (.env 4), none⟩,
     ⟨(some 62), false, .callf 36 [(.loc 61)], none⟩,
     ⟨(some 60), false, .mv (.loc 62), none⟩,
     ⟨(some 63), false, .extract (.loc 60) 0, none⟩,
     ⟨(some 64), false, .extract (.loc 60) 1, none⟩,
     ⟨(some 18), true, .mv (.loc 63), none⟩,
     ⟨(some 19), true, .mv (.loc 64), none⟩]
@[simp] def r9_15 : List HOp := [⟨(some 66), false, .load 2 true (.env 10), none⟩,
     ⟨(some 67), false, .callf 37 [(.loc 66)], none⟩,
     ⟨(some 65), false, .mv (.loc 67), none⟩,
     ⟨(some 68), false, .extract (.loc 65) 0, none⟩,
     ⟨(some 69), false, .extract (.loc 65) 1, none⟩,
     ⟨(some 20), true, .mv (.loc 68), none⟩,
     ⟨(some 21), true, .mv (.loc 69), none⟩]
@[simp] def r9_16 : List HOp := [⟨(some 71), false, .mv (.env 3), none⟩,
     ⟨(some 72), false, .callf 30 [(.loc 71)], none⟩,
     ⟨(some 73), false, .callf 36 [(.loc 72)], none⟩,
     ⟨(some 70), false, .mv (.loc 73), none⟩,
     ⟨(some 74), false, .extract (.loc 70) 0, none⟩,
     ⟨(some 75), false, .extract (.loc 70) 1, none⟩,
     ⟨(some 22), true, .mv (.loc 74), none⟩,
     ⟨(some 23), true, .mv (.loc 75), none⟩]
@[simp] def r9_17 : List HOp := [⟨(some 76), false, .faddr 0 (.env 10), none⟩,
     ⟨none, false, .store 1 (.loc 76) (.val (.tr (.sc (.bool false)))), none⟩]
@[simp] def r9_18 : List HOp := [⟨(some 77), false, .mv (.env 9), none⟩,
     ⟨(some 78), false, .mv (.loc 77), none⟩,
     ⟨(some 79), false, .load 2 true (.env 4), some ((.loc 78), true)⟩,
     ⟨(some 80), false, .callf 33 [(.loc 79)], some ((.loc 78), true)⟩,
     ⟨(some 81), false, .load 2 true (.env 4), some ((.loc 78), true)⟩,
     ⟨(some 82), false, .callf 12 [(.loc 81)], some ((.loc 78), true)⟩,
     ⟨(some 83), false, .callf 38 [(.loc 82)], some ((.loc 78), true)⟩,
     ⟨(some 84), false, .bin .other .eql (.loc 80) (.loc 83), some ((.loc 78), true)⟩,
     ⟨(some 85), false, .pick (.loc 78) (.loc 84) (.val (.tr (.sc (.bool false)))), none⟩,
     ⟨(some 86), false, .mv (.loc 85), none⟩,
     ⟨(some 87), false, .mv (.env 13), some ((.loc 86), true)⟩,
     ⟨(some 88), false, .pick (.loc 86) (.loc 87) (.val (.tr (.sc (.bool false)))), none⟩,
     ⟨(some 89), false, .mv (.loc 88), none⟩,
     ⟨(some 90), false, .load 2 true (.env 12), some ((.loc 89), true)⟩,
     ⟨(some 91), false, .load 2 true (.env 10), some ((.loc 89), true)⟩,
     ⟨(some 92), false, .callf 13 [(.loc 90), (.loc 91)], some ((.loc 89), true)⟩,
     ⟨(some 93), false, .pick (.loc 89) (.loc 92) (.val (.tr (.sc (.bool false)))), none⟩,
     ⟨(some 94), false, .mv (.loc 93), none⟩,
     ⟨(some 95), false, .mv (.env 15), some ((.loc 94), true)⟩,
     ⟨(some 96), false, .mv (.env 17), some ((.loc 94), true)⟩,
     ⟨(some 97), false, .bin .bool .eql (.loc 95) (.loc 96), some ((.loc 94), true)⟩,
     ⟨(some 98), false, .pick (.loc 94) (.loc 97) (.val (.tr (.sc (.bool false)))), none⟩,
     ⟨(some 99), false, .mv (.loc 98), none⟩,
     ⟨(some 100), false, .load 2 true (.env 14), some ((.loc 99), true)⟩,
     ⟨(some 101), false, .load 2 true (.env 16), some ((.loc 99), true)⟩,
     ⟨(some 102), false, .callf 13 [(.loc 100), (.loc 101)], some ((.loc 99), true)⟩,
     ⟨(some 103), false, .pick (.loc 99) (.loc 102) (.val (.tr (.sc (.bool false)))), none⟩,
     ⟨(some 104), false, .mv (.loc 103), none⟩,
     ⟨(some 105), false, .mv (.env 18), some ((.loc 104), true)⟩,
     ⟨(some 106), false, .mv (.env 20), some ((.loc 104), true)⟩,
     ⟨(some 107), false, .bin .other .eql (.loc 105) (.loc 106), some ((.loc 104), true)⟩,
     ⟨(some 108), false, .pick (.loc 104) (.loc 107) (.val (.tr (.sc (.bool false)))), none⟩,
     ⟨(some 109), false, .mv (.loc 108), none⟩,
     ⟨(some 110), false, .mv (.env 19), some ((.loc 109), true)⟩,
     ⟨(some 111), false, .mv (.env 21), some ((.loc 109), true)⟩,
     ⟨(some 112), false, .bin .bool .eql (.loc 110) (.loc 111), some ((.loc 109), true)⟩,
     ⟨(some 113), false, .pick (.loc 109) (.loc 112) (.val (.tr (.sc (.bool false)))), none⟩,
     ⟨(some 114), false, .mv (.loc 113), none⟩,
     ⟨(some 115), false, .mv (.env 23), some ((.loc 114), true)⟩,
     ⟨(some 116), false, .pick (.loc 114) (.loc 115) (.val (.tr (.sc (.bool false)))), none⟩,
     ⟨(some 117), false, .mv (.loc 116), none⟩,
     ⟨(some 118), false, .mv (.env 22), some ((.loc 117), true)⟩,
     ⟨(some 119), false, .mv (.env 3), some ((.loc 117), true)⟩,
     ⟨(some 120), false, .bin .other .eql (.loc 118) (.loc 119), some ((.loc 117), true)⟩,
     ⟨(some 121), false, .pick (.loc 117) (.loc 120) (.val (.tr (.sc (.bool false)))), none⟩,
     ⟨(some 122), false, .mv (.loc 121), none⟩,
     ⟨(some 123), false, .mv (.env 3), some ((.loc 122), true)⟩,
     ⟨(some 124), false, .callf 30 [(.loc 123)], some ((.loc 122), true)⟩,
     ⟨(some 125), false, .mv (.env 3), some ((.loc 122), true)⟩,
     ⟨(some 126), false, .callf 32 [(.loc 125)], some ((.loc 122), true)⟩,
     ⟨(some 127), false, .callf 13 [(.loc 124), (.loc 126)], some ((.loc 122), true)⟩,
     ⟨(some 128), false, .pick (.loc 122) (.loc 127) (.val (.tr (.sc (.bool false)))), none⟩,
     ⟨(some 8), true, .mv (.loc 128), none⟩]
@[simp] def k9_3 : HCode := .cond (.loc 29) (.region r9_4 none) .skip
@[simp] def k9_8 : HCode := .seq (.region r9_8 none) .ret
@[simp] def k9_7 : HCode := .cond (.loc 38) k9_8 .skip
@[simp] def k9_10 : HCode := .cond (.loc 40) (.region r9_10 none) .skip
@[simp] def k9_18 : HCode := .seq (.region r9_18 (some [ ( 0, [ 9 ] ) , ( 0, [ 77 ] ) , ( 1, [ 4, 78 ] ) , ( 1, [ 79, 78 ] ) , ( 1, [ 4, 78 ] ) , ( 2, [ 81, 78 ] ) , ( 2, [ 82, 78 ] ) , ( 0, [ 80, 83, 78 ] ) , ( 0, [ 78, 84 ] ) , ( 0, [ 85 ] ) , ( 0, [ 13, 86 ] ) , ( 0, [ 86, 87 ] ) , ( 0, [ 88 ] ) , ( 1, [ 12, 89 ] ) , ( 1, [ 10, 89 ] ) , ( 2, [ 90, 91, 89 ] ) , ( 0, [ 89, 92 ] ) , ( 0, [ 93 ] ) , ( 0, [ 15, 94 ] ) , ( 0, [ 17, 94 ] ) , ( 0, [ 95, 96, 94 ] ) , ( 0, [ 94, 97 ] ) , ( 0, [ 98 ] ) , ( 1, [ 14, 99 ] ) , ( 1, [ 16, 99 ] ) , ( 2, [ 100, 101, 99 ] ) , ( 0, [ 99, 102 ] ) , ( 0, [ 103 ] ) , ( 0, [ 18, 104 ] ) , ( 0, [ 20, 104 ] ) , ( 0, [ 105, 106, 104 ] ) , ( 0, [ 104, 107 ] ) , ( 0, [ 108 ] ) , ( 0, [ 19, 109 ] ) , ( 0, [ 21, 109 ] ) , ( 0, [ 110, 111, 109 ] ) , ( 0, [ 109, 112 ] ) , ( 0, [ 113 ] ) , ( 0, [ 23, 114 ] ) , ( 0, [ 114, 115 ] ) , ( 0, [ 116 ] ) , ( 0, [ 22, 117 ] ) , ( 0, [ 3, 117 ] ) , ( 0, [ 118, 119, 117 ] ) , ( 0, [ 117, 120 ] ) , ( 0, [ 121 ] ) , ( 0, [ 3, 122 ] ) , ( 2, [ 123, 122 ] ) , ( 0, [ 3, 122 ] ) , ( 2, [ 125, 122 ] ) , ( 2, [ 124, 126, 122 ] ) , ( 0, [ 122, 127 ] ) , ( 0, [ 128 ] ) ])) .ret
@[simp] def k9_17 : HCode := .seq (.region r9_17 none) k9_18
@[simp] def k9_16 : HCode := .seq (.region r9_16 none) k9_17
@[simp] def k9_15 : HCode := .seq (.region r9_15 none) k9_16
@[simp] def k9_14 : HCode := .seq (.region r9_14 none) k9_15
@[simp] def k9_13 : HCode := .seq (.region r9_13 none) k9_14
@[simp] def k9_12 : HCode := .seq (.region r9_12 none) k9_13
def k9_11 : HCode := .seq (.region r9_11 none) k9_12
def k9_9 : HCode := .seq (.seq (.region r9_9 none) k9_10) k9_11
@[simp] def k9_6 : HCode := .seq (.seq (.region r9_7 none) k9_7) k9_9
@[simp] def k9_5 : HCode := .seq (.region r9_6 none) k9_6
def k9_4 : HCode := .seq (.region r9_5 none) k9_5
@[simp] def k9_2 : HCode := .seq (.seq (.region r9_3 none) k9_3) k9_4
@[simp] def k9_1 : HCode := .seq (.region r9_2 none) k9_2
@[simp] def k9_0 : HCode := .seq (.region r9_1 none) k9_1
@[simp] def fn9 : HFn := { nargs := 4, results := [.tmp 8], mode := .shared, code := (.seq (.region r9_0 none) k9_0) }
theorem c9 : cFn Try.prog (Hs 9) .shared 9 = some fn9 := by kernel_rfl
/- sterling/sterlingref1.Parse -/
@[simp] def r35_0 : List HOp := [⟨(some 4), true, .alloc [(.sc (.bool false)), (.sc (.slice none 0 0))], none⟩,
     ⟨(some 5), true, .mv (.val (.tr (.sc (.bool false)))), none⟩]
@[simp] def r35_1 : List HOp := [⟨(some 9), false, .mv (.env 0), none⟩,
      ⟨(some 10), false, .bin .other .eql (.loc 9) (.val (.tr (.sc (.string ⟨⟨[]⟩⟩)))), none⟩,
      ⟨(some 11), false, .mv (.loc 10), none⟩,
      ⟨(some 12), false, .mv (.env 1), some ((.loc 11), false)⟩,
      ⟨(some 13), false, .bin .other .neq (.loc 12) (.val (.tr (.sc (.int .i64 2)))), some ((.loc 11), false)⟩,
      ⟨(some 14), false, .mv (.loc 13), some ((.loc 11), false)⟩,
      ⟨(some 15), false, .mv (.env 1), some ((.loc 14), true)⟩,
      ⟨(some 16), false, .bin .other .neq (.loc 15) (.val (.tr (.sc (.int .i64 8)))), some ((.loc 14), true)⟩,
      ⟨(some 17), false, .pick (.loc 14) (.loc 16) (.val (.tr (.sc (.bool false)))), some ((.loc 11), false)⟩,
      ⟨(some 18), false, .mv (.loc 17), some ((.loc 11), false)⟩,
      ⟨(some 19), false, .mv (.env 1), some ((.loc 18), true)⟩,
      ⟨(some 20), false, .bin .other .neq (.loc 19) (.val (.tr (.sc (.int .i64 10)))), some ((.loc 18), true)⟩,
      ⟨(some 21), false, .pick (.loc 18) (.loc 20) (.val (.tr (.sc (.bool false)))), some ((.loc 11), false)⟩,
      ⟨(some 22), false, .mv (.loc 21), some ((.loc 11), false)⟩,
      ⟨(some 23), false, .mv (.env 1), some ((.loc 22), true)⟩,
      ⟨(some 24), false, .bin .other .neq (.loc 23) (.val (.tr (.sc (.int .i64 16)))), some ((.loc 22), true)⟩,
      ⟨(some 25), false, .pick (.loc 22) (.loc 24) (.val (.tr (.sc (.bool false)))), some ((.loc 11), false)⟩,
      ⟨(some 26), false, .pick (.loc 11) (.val (.tr (.sc (.bool true)))) (.loc 25), none⟩]
@[simp] def r35_2 : List HOp := [⟨(some 27), false, .build [(.sc (.bool false)), (.sc (.slice none 0 0))] [], none⟩,
       ⟨none, false, .store 2 (.env 4) (.loc 27), none⟩,
       ⟨(some 5), true, .mv (.val (.tr (.sc (.bool false)))), none⟩]
@[simp] def r35_3 : List HOp := [⟨(some 6), true, .mv (.val (.tr (.sc (.slice none 0 0)))), none⟩]
@[simp] def r35_4 : List HOp := [⟨(some 7), true, .mv (.val (.tr (.sc (.int .i64 0)))), none⟩]
@[simp] def r35_5 : List HOp := [⟨(some 28), false, .mv (.env 7), none⟩,
         ⟨(some 29), false, .mv (.env 0), none⟩,
         ⟨(some 30), false, .len 0 (.loc 29), none⟩,
         ⟨(some 31), false, .bin .other .lss (.loc 28) (.loc 30), none⟩]
@[simp] def r35_6 : List HOp := [⟨(some 34), false, .mv (.env 0), none⟩,
          ⟨(some 35), false, .mv (.env 7), none⟩,
          ⟨(some 36), false, .istr (.loc 34) (.loc 35), none⟩,
          ⟨(some 37), false, .callf 63 [(.loc 36)], none⟩,
          ⟨(some 8), true, .mv (.loc 37), none⟩]
@[simp] def r35_7 : List HOp := [⟨(some 38), false, .mv (.env 8), none⟩,
           ⟨(some 39), false, .bin .other .lss (.loc 38) (.val (.tr (.sc (.int .i64 0)))), none⟩,
           ⟨(some 40), false, .mv (.loc 39), none⟩,
           ⟨(some 41), false, .mv (.env 8), some ((.loc 40), false)⟩,
           ⟨(some 42), false, .mv (.env 1), some ((.loc 40), false)⟩,
           ⟨(some 43), false, .bin .other .geq (.loc 41) (.loc 42), some ((.loc 40), false)⟩,
           ⟨(some 44), false, .pick (.loc 40) (.val (.tr (.sc (.bool true)))) (.loc 43), none⟩]
@[simp] def r35_8 : List HOp := [⟨(some 45), false, .build [(.sc (.bool false)), (.sc (.slice none 0 0))] [], none⟩,
            ⟨none, false, .store 2 (.env 4) (.loc 45), none⟩,
            ⟨(some 5), true, .mv (.val (.tr (.sc (.bool false)))), none⟩]
@[simp] def r35_9 : List HOp := [⟨(some 46), false, .mv (.env 6), none⟩,
         ⟨(some 47), false, .mv (.env 1), none⟩,
         ⟨(some 48), false, .bslice false 1 1 [(.sc (.int .i64 0))] [(0, 1, (.loc 47))], none⟩,
         ⟨(some 49), false, .callf 49 [(.loc 46), (.loc 48)], none⟩,
         ⟨(some 50), false, .mv (.env 8), none⟩,
         ⟨(some 51), false, .bslice false 1 1 [(.sc (.int .i64 0))] [(0, 1, (.loc 50))], none⟩,
         ⟨(some 52), false, .callf 39 [(.loc 51)], none⟩,
         ⟨(some 53), false, .callf 45 [(.loc 49), (.loc 52)], none⟩,
         ⟨(some 6), true, .mv (.loc 53), none⟩]
@[simp] def r35_10 : List HOp := [⟨(some 32), false, .mv (.env 7), none⟩,
       ⟨(some 33), false, .bin .other .add (.loc 32) (.val (.tr (.sc (.int .i64 1)))), none⟩,
       ⟨(some 7), true, .mv (.loc 33), none⟩]
@[simp] def r35_11 : List HOp := [⟨(some 54), false, .mv (.env 6), none⟩,
     ⟨(some 55), false, .build [(.sc (.bool false)), (.sc (.slice none 0 0))] [(0, 1, (.val (.tr (.sc (.bool false))))), (1, 1, (.loc 54))], none⟩,
     ⟨none, false, .store 2 (.env 4) (.loc 55), none⟩,
     ⟨(some 5), true, .mv (.val (.tr (.sc (.bool true)))), none⟩]
@[simp] def k35_2 : HCode := .seq (.region r35_2 none) .ret
@[simp] def k35_1 : HCode := .cond (.loc 26) k35_2 .skip
@[simp] def k35_7 : HCode := .cond (.loc 31) .skip (.exit 0)
@[simp] def k35_11 : HCode := .seq (.region r35_8 none) .ret
@[simp] def k35_10 : HCode := .cond (.loc 44) k35_11 .skip
def k35_12 : HCode := .region r35_9 none
@[simp] def k35_9 : HCode := .seq (.seq (.region r35_7 none) k35_10) k35_12
def k35_13 : HCode := .region r35_10 none
def k35_8 : HCode := .seq (.block 1 (.seq (.region r35_6 none) k35_9)) k35_13
def k35_6 : HCode := .seq (.seq (.region r35_5 none) k35_7) k35_8
@[simp] def k35_5 : HCode := .block 0 (.loop k35_6)
def k35_14 : HCode := .seq (.region r35_11 none) .ret
@[simp] def k35_4 : HCode := .seq (.seq (.region r35_4 none) k35_5) k35_14
def k35_3 : HCode := .seq (.region r35_3 none) k35_4
@[simp] def k35_0 : HCode := .seq (.seq (.region r35_1 none) k35_1) k35_3
@[simp] def fn35 : HFn := { nargs := 2, results := [.cell 4 2 true, .tmp 5], mode := .iso, code := (.seq (.region r35_0 none) k35_0) }
theorem c35 : cFn Try.prog (Hs 35) .iso 35 = some fn35 := by kernel_rfl
/- sterling/sterlingref1.Digit -/
@[simp] def r63_0 : List HOp := [⟨(some 2), true, .mv (.val (.tr (.sc (.int .i64 0)))), none⟩]
@[simp] def r63_1 : List HOp := [⟨(some 4), false, .mv (.env 0), none⟩,
       ⟨(some 5), false, .bin .other .geq (.loc 4) (.val (.tr (.sc (.int .u8 48)))), none⟩,
       ⟨(some 6), false, .mv (.loc 5), none⟩,
       ⟨(some 7), false, .mv (.env 0), some ((.loc 6), true)⟩,
       ⟨(some 8), false, .bin .other .leq (.loc 7) (.val (.tr (.sc (.int .u8 57)))), some ((.loc 6), true)⟩,
       ⟨(some 9), false, .pick (.loc 6) (.loc 8) (.val (.tr (.sc (.bool false)))), none⟩,
       ⟨(some 3), false, .mv (.loc 9), none⟩]
@[simp] def r63_2 : List HOp := [⟨(some 10), false, .mv (.env 0), none⟩,
        ⟨(some 11), false, .bin .other .sub (.loc 10) (.val (.tr (.sc (.int .u8 48)))), none⟩,
        ⟨(some 12), false, .conv (.toInt .i64) (.loc 11), none⟩,
        ⟨(some 2), true, .mv (.loc 12), none⟩]
@[simp] def r63_3 : List HOp := [⟨(some 14), false, .mv (.env 0), none⟩,
        ⟨(some 15), false, .bin .other .geq (.loc 14) (.val (.tr (.sc (.int .u8 97)))), none⟩,
        ⟨(some 16), false, .mv (.loc 15), none⟩,
        ⟨(some 17), false, .mv (.env 0), some ((.loc 16), true)⟩,
        ⟨(some 18), false, .bin .other .leq (.loc 17) (.val (.tr (.sc (.int .u8 102)))), some ((.loc 16), true)⟩,
        ⟨(some 19), false, .pick (.loc 16) (.loc 18) (.val (.tr (.sc (.bool false)))), none⟩,
        ⟨(some 13), false, .mv (.loc 19), none⟩]
@[simp] def r63_4 : List HOp := [⟨(some 20), false, .mv (.env 0), none⟩,
         ⟨(some 21), false, .bin .other .sub (.loc 20) (.val (.tr (.sc (.int .u8 97)))), none⟩,
         ⟨(some 22), false, .conv (.toInt .i64) (.loc 21), none⟩,
         ⟨(some 23), false, .bin .other .add (.loc 22) (.val (.tr (.sc (.int .i64 10)))), none⟩,
         ⟨(some 2), true, .mv (.loc 23), none⟩]
@[simp] def r63_5 : List HOp := [⟨(some 25), false, .mv (.env 0), none⟩,
         ⟨(some 26), false, .bin .other .geq (.loc 25) (.val (.tr (.sc (.int .u8 65)))), none⟩,
         ⟨(some 27), false, .mv (.loc 26), none⟩,
         ⟨(some 28), false, .mv (.env 0), some ((.loc 27), true)⟩,
         ⟨(some 29), false, .bin .other .leq (.loc 28) (.val (.tr (.sc (.int .u8 70)))), some ((.loc 27), true)⟩,
         ⟨(some 30), false, .pick (.loc 27) (.loc 29) (.val (.tr (.sc (.bool false)))), none⟩,
         ⟨(some 24), false, .mv (.loc 30), none⟩]
@[simp] def r63_6 : List HOp := [⟨(some 31), false, .mv (.env 0), none⟩,
          ⟨(some 32), false, .bin .other .sub (.loc 31) (.val (.tr (.sc (.int .u8 65)))), none⟩,
          ⟨(some 33), false, .conv (.toInt .i64) (.loc 32), none⟩,
          ⟨(some 34), false, .bin .other .add (.loc 33) (.val (.tr (.sc (.int .i64 10)))), none⟩,
          ⟨(some 2), true, .mv (.loc 34), none⟩]
@[simp] def r63_7 : List HOp := [⟨(some 2), true, .mv (.val (.tr (.sc (.int .i64 (-1))))), none⟩]
@[simp] def k63_2 : HCode := .seq (.region r63_2 none) .ret
@[simp] def k63_5 : HCode := .seq (.region r63_4 none) .ret
@[simp] def k63_8 : HCode := .seq (.region r63_6 none) .ret
@[simp] def k63_7 : HCode := .cond (.loc 24) k63_8 .skip
@[simp] def k63_6 : HCode := .seq (.region r63_5 none) k63_7
@[simp] def k63_4 : HCode := .cond (.loc 13) k63_5 k63_6
@[simp] def k63_3 : HCode := .seq (.region r63_3 none) k63_4
@[simp] def k63_1 : HCode := .cond (.loc 3) k63_2 k63_3
def k63_9 : HCode := .seq (.region r63_7 none) .ret
@[simp] def k63_0 : HCode := .seq (.block 0 (.seq (.region r63_1 none) k63_1)) k63_9
@[simp] def fn63 : HFn := { nargs := 1, results := [.tmp 2], mode := .iso, code := (.seq (.region r63_0 none) k63_0) }
theorem c63 : cFn Try.prog (Hs 63) .iso 63 = some fn63 := by kernel_rfl
/- sterling/bigint.Int64 -/
@[simp] def r36_0 : List HOp := [⟨(some 1), true, .box true (.env 0), none⟩,
     ⟨(some 2), true, .mv (.val (.tr (.sc (.int .i64 0)))), none⟩,
     ⟨(some 3), true, .mv (.val (.tr (.sc (.bool false)))), none⟩]
@[simp] def r36_1 : List HOp := [⟨(some 8), false, .faddr 1 (.env 1), none⟩,
     ⟨(some 9), false, .load 1 false (.loc 8), none⟩,
     ⟨(some 10), false, .callf 48 [(.loc 9)], none⟩,
     ⟨(some 4), true, .mv (.loc 10), none⟩]
@[simp] def r36_2 : List HOp := [⟨(some 11), false, .mv (.env 4), none⟩,
      ⟨(some 12), false, .len 1 (.loc 11), none⟩,
      ⟨(some 13), false, .bin .other .gtr (.loc 12) (.val (.tr (.sc (.int .i64 2)))), none⟩]
@[simp] def r36_3 : List HOp := [⟨(some 2), true, .mv (.val (.tr (.sc (.int .i64 0)))), none⟩,
       ⟨(some 3), true, .mv (.val (.tr (.sc (.bool false)))), none⟩]
@[simp] def r36_4 : List HOp := [⟨(some 5), true, .mv (.val (.tr (.sc (.int .u64 0)))), none⟩]
@[simp] def r36_5 : List HOp := [⟨(some 14), true, .mv (.env 4), none⟩,
      ⟨(some 15), true, .len 1 (.env 14), none⟩,
      ⟨(some 16), true, .mv (.val (.tr (.sc (.int .i64 0)))), none⟩]
@[simp] def r36_6 : List HOp := [⟨(some 17), false, .bin .other .lss (.env 16) (.env 15), none⟩]
@[simp] def r36_7 : List HOp := [⟨(some 18), false, .mv (.env 16), none⟩,
          ⟨(some 19), false, .iaddr 1 (.env 14) (.env 16), none⟩,
          ⟨(some 20), false, .load 1 false (.loc 19), none⟩,
          ⟨(some 6), true, .mv (.loc 18), none⟩,
          ⟨(some 7), true, .mv (.loc 20), none⟩]
@[simp] def r36_8 : List HOp := [⟨(some 21), false, .mv (.env 5), none⟩,
         ⟨(some 22), false, .mv (.env 7), none⟩,
         ⟨(some 23), false, .conv (.toInt .u64) (.loc 22), none⟩,
         ⟨(some 24), false, .mv (.env 6), none⟩,
         ⟨(some 25), false, .bin .other .mul (.val (.tr (.sc (.int .i64 32)))) (.loc 24), none⟩,
         ⟨(some 26), false, .bin .other .shl (.loc 23) (.loc 25), none⟩,
         ⟨(some 27), false, .bin .other .or (.loc 21) (.loc 26), none⟩,
         ⟨(some 5), true, .mv (.loc 27), none⟩]
@[simp] def r36_9 : List HOp := [⟨(some 28), false, .bin .other .add (.env 16) (.val (.tr (.sc (.int .i64 1)))), none⟩,
       ⟨(some 16), true, .mv (.loc 28), none⟩]
@[simp] def r36_10 : List HOp := [⟨(some 30), false, .faddr 0 (.env 1), none⟩,
       ⟨(some 31), false, .load 1 false (.loc 30), none⟩,
       ⟨(some 32), false, .mv (.loc 31), none⟩,
       ⟨(some 33), false, .mv (.env 5), some ((.loc 32), true)⟩,
       ⟨(some 34), false, .bin .other .leq (.loc 33) (.val (.tr (.sc (.int .u64 9223372036854775808)))), some ((.loc 32), true)⟩,
       ⟨(some 35), false, .pick (.loc 32) (.loc 34) (.val (.tr (.sc (.bool false)))), none⟩,
       ⟨(some 29), false, .mv (.loc 35), none⟩]
@[simp] def r36_11 : List HOp := [⟨(some 36), false, .mv (.env 5), none⟩,
        ⟨(some 37), false, .un .neg (.loc 36), none⟩,
        ⟨(some 38), false, .conv (.toInt .i64) (.loc 37), none⟩,
        ⟨(some 2), true, .mv (.loc 38), none⟩,
        ⟨(some 3), true, .mv (.val (.tr (.sc (.bool true)))), none⟩]
@[simp] def r36_12 : List HOp := [⟨(some 40), false, .faddr 0 (.env 1), none⟩,
        ⟨(some 41), false, .load 1 false (.loc 40), none⟩,
        ⟨(some 42), false, .un .not (.loc 41), none⟩,
        ⟨(some 43), false, .mv (.loc 42), none⟩,
        ⟨(some 44), false, .mv (.env 5), some ((.loc 43), true)⟩,
        ⟨(some 45), false, .bin .other .lss (.loc 44) (.val (.tr (.sc (.int .u64 9223372036854775808)))), some ((.loc 43), true)⟩,
        ⟨(some 46), false, .pick (.loc 43) (.loc 45) (.val (.tr (.sc (.bool false)))), none⟩,
        ⟨(some 39), false, .mv (.loc 46), none⟩]
@[simp] def r36_13 : List HOp := [⟨(some 47), false, .mv (.env 5), none⟩,
         ⟨(some 48), false, .conv (.toInt .i64) (.loc 47), none⟩,
         ⟨(some 2), true, .mv (.loc 48), none⟩,
         ⟨(some 3), true, .mv (.val (.tr (.sc (.bool true)))), none⟩]
@[simp] def r36_14 : List HOp := [⟨(some 2), true, .mv (.val (.tr (.sc (.int .i64 0)))), none⟩,
     ⟨(some 3), true, .mv (.val (.tr (.sc (.bool false)))), none⟩]
@[simp] def k36_3 : HCode := .seq (.region r36_3 none) .ret
@[simp] def k36_2 : HCode := .cond (.loc 13) k36_3 .skip
def k36_9 : HCode := .seq (.block 1 (.seq (.region r36_7 none) (.region r36_8 none))) (.region r36_9 none)
@[simp] def k36_8 : HCode := .seq (.cond (.loc 17) .skip (.exit 0)) k36_9
def k36_7 : HCode := .seq (.region r36_6 none) k36_8
@[simp] def k36_6 : HCode := .block 0 (.loop k36_7)
@[simp] def k36_12 : HCode := .seq (.region r36_11 none) .ret
@[simp] def k36_15 : HCode := .seq (.region r36_13 none) .ret
@[simp] def k36_14 : HCode := .cond (.loc 39) k36_15 .skip
@[simp] def k36_13 : HCode := .seq (.region r36_12 none) k36_14
@[simp] def k36_11 : HCode := .cond (.loc 29) k36_12 k36_13
def k36_16 : HCode := .seq (.region r36_14 none) .ret
def k36_10 : HCode := .seq (.block 2 (.seq (.region r36_10 none) k36_11)) k36_16
@[simp] def k36_5 : HCode := .seq (.seq (.region r36_5 none) k36_6) k36_10
def k36_4 : HCode := .seq (.region r36_4 none) k36_5
@[simp] def k36_1 : HCode := .seq (.seq (.region r36_2 none) k36_2) k36_4
@[simp] def k36_0 : HCode := .seq (.region r36_1 none) k36_1
@[simp] def fn36 : HFn := { nargs := 1, results := [.tmp 2, .tmp 3], mode := .iso, code := (.seq (.region r36_0 none) k36_0) }
theorem c36 : cFn Try.prog (Hs 36) .iso 36 = some fn36 := by kernel_rfl
/- sterling/sterlingref1.Int64 -/
@[simp] def r37_0 : List HOp := [⟨(some 1), true, .box true (.env 0), none⟩,
     ⟨(some 2), true, .mv (.val (.tr (.sc (.int .i64 0)))), none⟩,
     ⟨(some 3), true, .mv (.val (.tr (.sc (.bool false)))), none⟩]
@[simp] def r37_1 : List HOp := [⟨(some 8), false, .callf 32 [(.val (.tr (.sc (.int .i64 (-9223372036854775808)))))], none⟩,
     ⟨(some 9), false, .callf 32 [(.val (.tr (.sc (.int .i64 9223372036854775807))))], none⟩,
     ⟨(some 4), true, .alloc [(.sc (.bool false)), (.sc (.slice none 0 0))], none⟩,
     ⟨(some 5), true, .alloc [(.sc (.bool false)), (.sc (.slice none 0 0))], none⟩,
     ⟨none, false, .store 2 (.env 4) (.loc 8), none⟩,
     ⟨none, false, .store 2 (.env 5) (.loc 9), none⟩]
@[simp] def r37_2 : List HOp := [⟨(some 10), false, .load 2 true (.env 1), none⟩,
      ⟨(some 11), false, .load 2 true (.env 4), none⟩,
      ⟨(some 12), false, .callf 23 [(.loc 10), (.loc 11)], none⟩,
      ⟨(some 13), false, .bin .other .lss (.loc 12) (.val (.tr (.sc (.int .i64 0)))), none⟩,
      ⟨(some 14), false, .mv (.loc 13), none⟩,
      ⟨(some 15), false, .load 2 true (.env 1), some ((.loc 14), false)⟩,
      ⟨(some 16), false, .load 2 true (.env 5), some ((.loc 14), false)⟩,
      ⟨(some 17), false, .callf 23 [(.loc 15), (.loc 16)], some ((.loc 14), false)⟩,
      ⟨(some 18), false, .bin .other .gtr (.loc 17) (.val (.tr (.sc (.int .i64 0)))), some ((.loc 14), false)⟩,
      ⟨(some 19), false, .pick (.loc 14) (.val (.tr (.sc (.bool true)))) (.loc 18), none⟩]
@[simp] def r37_3 : List HOp := [⟨(some 2), true, .mv (.val (.tr (.sc (.int .i64 0)))), none⟩,
       ⟨(some 3), true, .mv (.val (.tr (.sc (.bool false)))), none⟩]
@[simp] def r37_4 : List HOp := [⟨(some 6), true, .mv (.val (.tr (.sc (.int .i64 0)))), none⟩]
@[simp] def r37_5 : List HOp := [⟨(some 20), false, .faddr 1 (.env 1), none⟩,
      ⟨(some 21), false, .load 1 false (.loc 20), none⟩,
      ⟨(some 22), false, .len 1 (.loc 21), none⟩,
      ⟨(some 23), false, .bin .other .sub (.loc 22) (.val (.tr (.sc (.int .i64 1)))), none⟩,
      ⟨(some 7), true, .mv (.loc 23), none⟩]
@[simp] def r37_6 : List HOp := [⟨(some 24), false, .mv (.env 7), none⟩,
         ⟨(some 25), false, .bin .other .geq (.loc 24) (.val (.tr (.sc (.int .i64 0)))), none⟩]
@[simp] def r37_7 : List HOp := [⟨(some 28), false, .faddr 0 (.env 1), none⟩,
          ⟨(some 29), false, .load 1 false (.loc 28), none⟩]
@[simp] def r37_8 : List HOp := [⟨(some 30), false, .mv (.env 6), none⟩,
          ⟨(some 31), false, .bin .other .mul (.loc 30) (.val (.tr (.sc (.int .i64 65536)))), none⟩,
          ⟨(some 32), false, .faddr 1 (.env 1), none⟩,
          ⟨(some 33), false, .load 1 false (.loc 32), none⟩,
          ⟨(some 34), false, .mv (.env 7), none⟩,
          ⟨(some 35), false, .iaddr 1 (.loc 33) (.loc 34), none⟩,
          ⟨(some 36), false, .load 1 false (.loc 35), none⟩,
          ⟨(some 37), false, .bin .other .sub (.loc 31) (.loc 36), none⟩,
          ⟨(some 6), true, .mv (.loc 37), none⟩]
@[simp] def r37_9 : List HOp := [⟨(some 38), false, .mv (.env 6), none⟩,
          ⟨(some 39), false, .bin .other .mul (.loc 38) (.val (.tr (.sc (.int .i64 65536)))), none⟩,
          ⟨(some 40), false, .faddr 1 (.env 1), none⟩,
          ⟨(some 41), false, .load 1 false (.loc 40), none⟩,
          ⟨(some 42), false, .mv (.env 7), none⟩,
          ⟨(some 43), false, .iaddr 1 (.loc 41) (.loc 42), none⟩,
          ⟨(some 44), false, .load 1 false (.loc 43), none⟩,
          ⟨(some 45), false, .bin .other .add (.loc 39) (.loc 44), none⟩,
          ⟨(some 6), true, .mv (.loc 45), none⟩]
@[simp] def r37_10 : List HOp := [⟨(some 26), false, .mv (.env 7), none⟩,
       ⟨(some 27), false, .bin .other .sub (.loc 26) (.val (.tr (.sc (.int .i64 1)))), none⟩,
       ⟨(some 7), true, .mv (.loc 27), none⟩]
@[simp] def r37_11 : List HOp := [⟨(some 46), false, .mv (.env 6), none⟩,
     ⟨(some 2), true, .mv (.loc 46), none⟩,
     ⟨(some 3), true, .mv (.val (.tr (.sc (.bool true)))), none⟩]
@[simp] def k37_3 : HCode := .seq (.region r37_3 none) .ret
@[simp] def k37_2 : HCode := .cond (.loc 19) k37_3 .skip
@[simp] def k37_8 : HCode := .cond (.loc 25) .skip (.exit 0)
@[simp] def k37_10 : HCode := .cond (.loc 29) (.region r37_8 none) (.region r37_9 none)
def k37_11 : HCode := .region r37_10 none
def k37_9 : HCode := .seq (.block 1 (.seq (.region r37_7 none) k37_10)) k37_11
def k37_7 : HCode := .seq (.seq (.region r37_6 none) k37_8) k37_9
@[simp] def k37_6 : HCode := .block 0 (.loop k37_7)
def k37_12 : HCode := .seq (.region r37_11 none) .ret
@[simp] def k37_5 : HCode := .seq (.seq (.region r37_5 none) k37_6) k37_12
def k37_4 : HCode := .seq (.region r37_4 none) k37_5
@[simp] def k37_1 : HCode := .seq (.seq (.region r37_2 none) k37_2) k37_4
@[simp] def k37_0 : HCode := .seq (.region r37_1 none) k37_1
@[simp] def fn37 : HFn := { nargs := 1, results := [.tmp 2, .tmp 3], mode := .iso, code := (.seq (.region r37_0 none) k37_0) }
theorem c37 : cFn Try.prog (Hs 37) .iso 37 = some fn37 := by kernel_rfl
/- sterling/sterlingref1.Text -/
@[simp] def r38_0 : List HOp := [⟨(some 1), true, .box true (.env 0), none⟩,
     ⟨(some 2), true, .mv (.val (.tr (.sc (.string ⟨⟨[]⟩⟩)))), none⟩]
@[simp] def r38_1 : List HOp := [⟨(some 3), true, .mv (.val (.tr (.sc (.slice none 0 0)))), none⟩]
@[simp] def r38_2 : List HOp := [⟨(some 7), false, .faddr 1 (.env 1), none⟩,
     ⟨(some 8), false, .load 1 false (.loc 7), none⟩,
     ⟨(some 4), true, .mv (.loc 8), none⟩]
@[simp] def r38_3 : List HOp := [⟨(some 9), false, .mv (.env 4), none⟩,
         ⟨(some 10), false, .len 1 (.loc 9), none⟩,
         ⟨(some 11), false, .bin .other .gtr (.loc 10) (.val (.tr (.sc (.int .i64 0)))), none⟩,
         ⟨(some 12), false, .mv (.loc 11), none⟩,
         ⟨(some 13), false, .mv (.env 3), some ((.loc 12), false)⟩,
         ⟨(some 14), false, .len 1 (.loc 13), some ((.loc 12), false)⟩,
         ⟨(some 15), false, .bin .other .eql (.loc 14) (.val (.tr (.sc (.int .i64 0)))), some ((.loc 12), false)⟩,
         ⟨(some 16), false, .pick (.loc 12) (.val (.tr (.sc (.bool true)))) (.loc 15), none⟩]
@[simp] def r38_4 : List HOp := [⟨(some 18), false, .mv (.env 4), none⟩,
         ⟨(some 19), false, .callf 64 [(.loc 18), (.val (.tr (.sc (.int .i64 10))))], none⟩,
         ⟨(some 17), false, .mv (.loc 19), none⟩,
         ⟨(some 20), false, .extract (.loc 17) 0, none⟩,
         ⟨(some 21), false, .extract (.loc 17) 1, none⟩,
         ⟨(some 5), true, .mv (.loc 20), none⟩,
         ⟨(some 6), true, .mv (.loc 21), none⟩]
@[simp] def r38_5 : List HOp := [⟨(some 22), false, .mv (.env 6), none⟩,
         ⟨(some 23), false, .bin .other .add (.val (.tr (.sc (.int .i64 48)))) (.loc 22), none⟩,
         ⟨(some 24), false, .conv (.toInt .u8) (.loc 23), none⟩,
         ⟨(some 25), false, .bslice false 1 1 [(.sc (.int .u8 0))] [(0, 1, (.loc 24))], none⟩,
         ⟨(some 26), false, .mv (.env 3), none⟩,
         ⟨(some 27), false, .append 1 1 (.loc 25) (.loc 26), none⟩,
         ⟨(some 3), true, .mv (.loc 27), none⟩]
@[simp] def r38_6 : List HOp := [⟨(some 28), false, .mv (.env 5), none⟩,
        ⟨(some 4), true, .mv (.loc 28), none⟩]
@[simp] def r38_7 : List HOp := [⟨(some 29), false, .faddr 0 (.env 1), none⟩,
      ⟨(some 30), false, .load 1 false (.loc 29), none⟩]
@[simp] def r38_8 : List HOp := [⟨(some 31), false, .mv (.env 3), none⟩,
       ⟨(some 32), false, .conv .bytesStr (.loc 31), none⟩,
       ⟨(some 33), false, .bin .other .add (.val (.tr (.sc (.string ⟨⟨[45]⟩⟩)))) (.loc 32), none⟩,
       ⟨(some 2), true, .mv (.loc 33), none⟩]
@[simp] def r38_9 : List HOp := [⟨(some 34), false, .mv (.env 3), none⟩,
     ⟨(some 35), false, .conv .bytesStr (.loc 34), none⟩,
     ⟨(some 2), true, .mv (.loc 35), none⟩]
@[simp] def k38_4 : HCode := .cond (.loc 16) .skip (.exit 0)
@[simp] def k38_6 : HCode := .seq (.region r38_5 none) (.region r38_6 none)
def k38_5 : HCode := .block 1 (.seq (.region r38_4 none) k38_6)
def k38_3 : HCode := .seq (.seq (.region r38_3 none) k38_4) k38_5
@[simp] def k38_9 : HCode := .seq (.region r38_8 none) .ret
@[simp] def k38_8 : HCode := .cond (.loc 30) k38_9 .skip
def k38_10 : HCode := .seq (.region r38_9 none) .ret
def k38_7 : HCode := .seq (.seq (.region r38_7 none) k38_8) k38_10
@[simp] def k38_2 : HCode := .seq (.block 0 (.loop k38_3)) k38_7
@[simp] def k38_1 : HCode := .seq (.region r38_2 none) k38_2
@[simp] def k38_0 : HCode := .seq (.region r38_1 none) k38_1
@[simp] def fn38 : HFn := { nargs := 1, results := [.tmp 2], mode := .iso, code := (.seq (.region r38_0 none) k38_0) }
theorem c38 : cFn Try.prog (Hs 38) .iso 38 = some fn38 := by kernel_rfl
noncomputable def T : FTab := fun f => (bif2 (Nat.ble f 36) (bif2 (Nat.ble f 19) (bif2 (Nat.ble f 10) (bif2 (Nat.ble f 6) (bif2 (Nat.ble f 4) (bif2 (Nat.ble f 3) (bif2 (Nat.beq f 3) (some fn3) none) (bif2 (Nat.beq f 4) (some fn4) none)) (bif2 (Nat.ble f 5) (bif2 (Nat.beq f 5) (some fn5) none) (bif2 (Nat.beq f 6) (some fn6) none))) (bif2 (Nat.ble f 8) (bif2 (Nat.ble f 7) (bif2 (Nat.beq f 7) (some fn7) none) (bif2 (Nat.beq f 8) (some fn8) none)) (bif2 (Nat.ble f 9) (bif2 (Nat.beq f 9) (some fn9) none) (bif2 (Nat.beq f 10) (some fn10) none)))) (bif2 (Nat.ble f 14) (bif2 (Nat.ble f 12) (bif2 (Nat.ble f 11) (bif2 (Nat.beq f 11) (some fn11) none) (bif2 (Nat.beq f 12) (some fn12) none)) (bif2 (Nat.ble f 13) (bif2 (Nat.beq f 13) (some fn13) none) (bif2 (Nat.beq f 14) (some fn14) none))) (bif2 (Nat.ble f 16) (bif2 (Nat.ble f 15) (bif2 (Nat.beq f 15) (some fn15) none) (bif2 (Nat.beq f 16) (some fn16) none)) (bif2 (Nat.ble f 17) (bif2 (Nat.beq f 17) (some fn17) none) (bif2 (Nat.ble f 18) (bif2 (Nat.beq f 18) (some fn18) none) (bif2 (Nat.beq f 19) (some fn19) none)))))) (bif2 (Nat.ble f 27) (bif2 (Nat.ble f 23) (bif2 (Nat.ble f 21) (bif2 (Nat.ble f 20) (bif2 (Nat.beq f 20) (some fn20) none) (bif2 (Nat.beq f 21) (some fn21) none)) (bif2 (Nat.ble f 22) (bif2 (Nat.beq f 22) (some fn22) none) (bif2 (Nat.beq f 23) (some fn23) none))) (bif2 (Nat.ble f 25) (bif2 (Nat.ble f 24) (bif2 (Nat.beq f 24) (some fn24) none) (bif2 (Nat.beq f 25) (some fn25) none)) (bif2 (Nat.ble f 26) (bif2 (Nat.beq f 26) (some fn26) none) (bif2 (Nat.beq f 27) (some fn27) none)))) (bif2 (Nat.ble f 31) (bif2 (Nat.ble f 29) (bif2 (Nat.ble f 28) (bif2 (Nat.beq f 28) (some fn28) none) (bif2 (Nat.beq f 29) (some fn29) none)) (bif2 (Nat.ble f 30) (bif2 (Nat.beq f 30) (some fn30) none) (bif2 (Nat.beq f 31) (some fn31) none))) (bif2 (Nat.ble f 33) (bif2 (Nat.ble f 32) (bif2 (Nat.beq f 32) (some fn32) none) (bif2 (Nat.beq f 33) (some fn33) none)) (bif2 (Nat.ble f 34) (bif2 (Nat.beq f 34) (some fn34) none) (bif2 (Nat.ble f 35) (bif2 (Nat.beq f 35) (some fn35) none) (bif2 (Nat.beq f 36) (some fn36) none))))))) (bif2 (Nat.ble f 53) (bif2 (Nat.ble f 44) (bif2 (Nat.ble f 40) (bif2 (Nat.ble f 38) (bif2 (Nat.ble f 37) (bif2 (Nat.beq f 37) (some fn37) none) (bif2 (Nat.beq f 38) (some fn38) none)) (bif2 (Nat.ble f 39) (bif2 (Nat.beq f 39) (some fn39) none) (bif2 (Nat.beq f 40) (some fn40) none))) (bif2 (Nat.ble f 42) (bif2 (Nat.ble f 41) (bif2 (Nat.beq f 41) (some fn41) none) (bif2 (Nat.beq f 42) (some fn42) none)) (bif2 (Nat.ble f 43) (bif2 (Nat.beq f 43) (some fn43) none) (bif2 (Nat.beq f 44) (some fn44) none)))) (bif2 (Nat.ble f 48) (bif2 (Nat.ble f 46) (bif2 (Nat.ble f 45) (bif2 (Nat.beq f 45) (some fn45) none) (bif2 (Nat.beq f 46) (some fn46) none)) (bif2 (Nat.ble f 47) (bif2 (Nat.beq f 47) (some fn47) none) (bif2 (Nat.beq f 48) (some fn48) none))) (bif2 (Nat.ble f 50) (bif2 (Nat.ble f 49) (bif2 (Nat.beq f 49) (some fn49) none) (bif2 (Nat.beq f 50) (some fn50) none)) (bif2 (Nat.ble f 51) (bif2 (Nat.beq f 51) (some fn51) none) (bif2 (Nat.ble f 52) (bif2 (Nat.beq f 52) (some fn52) none) (bif2 (Nat.beq f 53) (some fn53) none)))))) (bif2 (Nat.ble f 61) (bif2 (Nat.ble f 57) (bif2 (Nat.ble f 55) (bif2 (Nat.ble f 54) (bif2 (Nat.beq f 54) (some fn54) none) (bif2 (Nat.beq f 55) (some fn55) none)) (bif2 (Nat.ble f 56) (bif2 (Nat.beq f 56) (some fn56) none) (bif2 (Nat.beq f 57) (some fn57) none))) (bif2 (Nat.ble f 59) (bif2 (Nat.ble f 58) (bif2 (Nat.beq f 58) (some fn58) none) (bif2 (Nat.beq f 59) (some fn59) none)) (bif2 (Nat.ble f 60) (bif2 (Nat.beq f 60) (some fn60) none) (bif2 (Nat.beq f 61) (some fn61) none)))) (bif2 (Nat.ble f 65) (bif2 (Nat.ble f 63) (bif2 (Nat.ble f 62) (bif2 (Nat.beq f 62) (some fn62) none) (bif2 (Nat.beq f 63) (some fn63) none)) (bif2 (Nat.ble f 64) (bif2 (Nat.beq f 64) (some fn64) none) (bif2 (Nat.beq f 65) (some fn65) none))) (bif2 (Nat.ble f 67) (bif2 (Nat.ble f 66) (bif2 (Nat.beq f 66) (some fn66) none) (bif2 (Nat.beq f 67) (some fn67) none)) (bif2 (Nat.ble f 68) (bif2 (Nat.beq f 68) (some fn68) none) (bif2 (Nat.ble f 69) (bif2 (Nat.beq f 69) (some fn69) none) (bif2 (Nat.beq f 70) (some fn70) none))))))))
theorem T3 : T 3 = some fn3 := rfl
theorem T4 : T 4 = some fn4 := rfl
theorem T5 : T 5 = some fn5 := rfl
theorem T6 : T 6 = some fn6 := rfl
theorem T7 : T 7 = some fn7 := rfl
theorem T8 : T 8 = some fn8 := rfl
theorem T9 : T 9 = some fn9 := rfl
theorem T10 : T 10 = some fn10 := rfl
theorem T11 : T 11 = some fn11 := rfl
theorem T12 : T 12 = some fn12 := rfl
theorem T13 : T 13 = some fn13 := rfl
theorem T14 : T 14 = some fn14 := rfl
theorem T15 : T 15 = some fn15 := rfl
theorem T16 : T 16 = some fn16 := rfl
theorem T17 : T 17 = some fn17 := rfl
theorem T18 : T 18 = some fn18 := rfl
theorem T19 : T 19 = some fn19 := rfl
theorem T20 : T 20 = some fn20 := rfl
theorem T21 : T 21 = some fn21 := rfl
theorem T22 : T 22 = some fn22 := rfl
theorem T23 : T 23 = some fn23 := rfl
theorem T24 : T 24 = some fn24 := rfl
theorem T25 : T 25 = some fn25 := rfl
theorem T26 : T 26 = some fn26 := rfl
theorem T27 : T 27 = some fn27 := rfl
theorem T28 : T 28 = some fn28 := rfl
theorem T29 : T 29 = some fn29 := rfl
theorem T30 : T 30 = some fn30 := rfl
theorem T31 : T 31 = some fn31 := rfl
theorem T32 : T 32 = some fn32 := rfl
theorem T33 : T 33 = some fn33 := rfl
theorem T34 : T 34 = some fn34 := rfl
theorem T35 : T 35 = some fn35 := rfl
theorem T36 : T 36 = some fn36 := rfl
theorem T37 : T 37 = some fn37 := rfl
theorem T38 : T 38 = some fn38 := rfl
theorem T39 : T 39 = some fn39 := rfl
theorem T40 : T 40 = some fn40 := rfl
theorem T41 : T 41 = some fn41 := rfl
theorem T42 : T 42 = some fn42 := rfl
theorem T43 : T 43 = some fn43 := rfl
theorem T44 : T 44 = some fn44 := rfl
theorem T45 : T 45 = some fn45 := rfl
theorem T46 : T 46 = some fn46 := rfl
theorem T47 : T 47 = some fn47 := rfl
theorem T48 : T 48 = some fn48 := rfl
theorem T49 : T 49 = some fn49 := rfl
theorem T50 : T 50 = some fn50 := rfl
theorem T51 : T 51 = some fn51 := rfl
theorem T52 : T 52 = some fn52 := rfl
theorem T53 : T 53 = some fn53 := rfl
theorem T54 : T 54 = some fn54 := rfl
theorem T55 : T 55 = some fn55 := rfl
theorem T56 : T 56 = some fn56 := rfl
theorem T57 : T 57 = some fn57 := rfl
theorem T58 : T 58 = some fn58 := rfl
theorem T59 : T 59 = some fn59 := rfl
theorem T60 : T 60 = some fn60 := rfl
theorem T61 : T 61 = some fn61 := rfl
theorem T62 : T 62 = some fn62 := rfl
theorem T63 : T 63 = some fn63 := rfl
theorem T64 : T 64 = some fn64 := rfl
theorem T65 : T 65 = some fn65 := rfl
theorem T66 : T 66 = some fn66 := rfl
theorem T67 : T 67 = some fn67 := rfl
theorem T68 : T 68 = some fn68 := rfl
theorem T69 : T 69 = some fn69 := rfl
theorem T70 : T 70 = some fn70 := rfl
theorem tabOk {Gd : Ground} (hg : GroundOk Gd) (he : ∀ f n k, Te f = some (n, k) → ExtOk Gd Try.prog f k) : TabOk Gd Try.prog T := by
  refine ⟨hg, fun f hfn h => ?_⟩
  unfold T at h
  rcases bif2_or h with ⟨_, h⟩ | ⟨_, h⟩
  · rcases bif2_or h with ⟨_, h⟩ | ⟨_, h⟩
    · rcases bif2_or h with ⟨_, h⟩ | ⟨_, h⟩
      · rcases bif2_or h with ⟨_, h⟩ | ⟨_, h⟩
        · rcases bif2_or h with ⟨_, h⟩ | ⟨_, h⟩
          · rcases bif2_or h with ⟨_, h⟩ | ⟨_, h⟩
            · obtain ⟨hb, h⟩ := bif2_some h
              cases h
              rw [Nat.eq_of_beq_eq_true hb]
              exact .inl ⟨fun k hk => (by cases hk), Hs 3, c3⟩
            · obtain ⟨hb, h⟩ := bif2_some h
              cases h
              rw [Nat.eq_of_beq_eq_true hb]
              exact .inl ⟨fun k hk => (by cases hk), Hs 4, c4⟩
          · rcases bif2_or h with ⟨_, h⟩ | ⟨_, h⟩
            · obtain ⟨hb, h⟩ := bif2_some h
              cases h
              rw [Nat.eq_of_beq_eq_true hb]
              exact .inl ⟨fun k hk => (by cases hk), Hs 5, c5⟩
            · obtain ⟨hb, h⟩ := bif2_some h
              cases h
              rw [Nat.eq_of_beq_eq_true hb]
              exact .inl ⟨fun k hk => (by cases hk), Hs 6, c6⟩
        · rcases bif2_or h with ⟨_, h⟩ | ⟨_, h⟩
          · rcases bif2_or h with ⟨_, h⟩ | ⟨_, h⟩
            · obtain ⟨hb, h⟩ := bif2_some h
              cases h
              rw [Nat.eq_of_beq_eq_true hb]
              exact .inl ⟨fun k hk => (by cases hk), Hs 7, c7⟩
            · obtain ⟨hb, h⟩ := bif2_some h
              cases h
              rw [Nat.eq_of_beq_eq_true hb]
              exact .inl ⟨fun k hk => (by cases hk), Hs 8, c8⟩
          · rcases bif2_or h with ⟨_, h⟩ | ⟨_, h⟩
            · obtain ⟨hb, h⟩ := bif2_some h
              cases h
              rw [Nat.eq_of_beq_eq_true hb]
              exact .inl ⟨fun k hk => (by cases hk), Hs 9, c9⟩
            · obtain ⟨hb, h⟩ := bif2_some h
              cases h
              rw [Nat.eq_of_beq_eq_true hb]
              exact .inl ⟨fun k hk => (by cases hk), Hs 10, c10⟩
      · rcases bif2_or h with ⟨_, h⟩ | ⟨_, h⟩
        · rcases bif2_or h with ⟨_, h⟩ | ⟨_, h⟩
          · rcases bif2_or h with ⟨_, h⟩ | ⟨_, h⟩
            · obtain ⟨hb, h⟩ := bif2_some h
              cases h
              rw [Nat.eq_of_beq_eq_true hb]
              exact .inl ⟨fun k hk => (by cases hk), Hs 11, c11⟩
            · obtain ⟨hb, h⟩ := bif2_some h
              cases h
              rw [Nat.eq_of_beq_eq_true hb]
              exact .inl ⟨fun k hk => (by cases hk), Hs 12, c12⟩
          · rcases bif2_or h with ⟨_, h⟩ | ⟨_, h⟩
            · obtain ⟨hb, h⟩ := bif2_some h
              cases h
              rw [Nat.eq_of_beq_eq_true hb]
              exact .inl ⟨fun k hk => (by cases hk), Hs 13, c13⟩
            · obtain ⟨hb, h⟩ := bif2_some h
              cases h
              rw [Nat.eq_of_beq_eq_true hb]
              exact .inl ⟨fun k hk => (by cases hk), Hs 14, c14⟩
        · rcases bif2_or h with ⟨_, h⟩ | ⟨_, h⟩
          · rcases bif2_or h with ⟨_, h⟩ | ⟨_, h⟩
            · obtain ⟨hb, h⟩ := bif2_some h
              cases h
              rw [Nat.eq_of_beq_eq_true hb]
              exact .inl ⟨fun k hk => (by cases hk), Hs 15, c15⟩
            · obtain ⟨hb, h⟩ := bif2_some h
              cases h
              rw [Nat.eq_of_beq_eq_true hb]
              exact .inl ⟨fun k hk => (by cases hk), Hs 16, c16⟩
          · rcases bif2_or h with ⟨_, h⟩ | ⟨_, h⟩
            · obtain ⟨hb, h⟩ := bif2_some h
              cases h
              rw [Nat.eq_of_beq_eq_true hb]
              exact .inl ⟨fun k hk => (by cases hk), Hs 17, c17⟩
            · rcases bif2_or h with ⟨_, h⟩ | ⟨_, h⟩
              · obtain ⟨hb, h⟩ := bif2_some h
                cases h
                rw [Nat.eq_of_beq_eq_true hb]
                exact .inl ⟨fun k hk => (by cases hk), Hs 18, c18⟩
              · obtain ⟨hb, h⟩ := bif2_some h
                cases h
                rw [Nat.eq_of_beq_eq_true hb]
                exact .inl ⟨fun k hk => (by cases hk), Hs 19, c19⟩
    · rcases bif2_or h with ⟨_, h⟩ | ⟨_, h⟩
      · rcases bif2_or h with ⟨_, h⟩ | ⟨_, h⟩
        · rcases bif2_or h with ⟨_, h⟩ | ⟨_, h⟩
          · rcases bif2_or h with ⟨_, h⟩ | ⟨_, h⟩
            · obtain ⟨hb, h⟩ := bif2_some h
              cases h
              rw [Nat.eq_of_beq_eq_true hb]
              exact .inl ⟨fun k hk => (by cases hk), Hs 20, c20⟩
            · obtain ⟨hb, h⟩ := bif2_some h
              cases h
              rw [Nat.eq_of_beq_eq_true hb]
              exact .inl ⟨fun k hk => (by cases hk), Hs 21, c21⟩
          · rcases bif2_or h with ⟨_, h⟩ | ⟨_, h⟩
            · obtain ⟨hb, h⟩ := bif2_some h
              cases h
              rw [Nat.eq_of_beq_eq_true hb]
              exact .inl ⟨fun k hk => (by cases hk), Hs 22, c22⟩
            · obtain ⟨hb, h⟩ := bif2_some h
              cases h
              rw [Nat.eq_of_beq_eq_true hb]
              exact .inl ⟨fun k hk => (by cases hk), Hs 23, c23⟩
        · rcases bif2_or h with ⟨_, h⟩ | ⟨_, h⟩
          · rcases bif2_or h with ⟨_, h⟩ | ⟨_, h⟩
            · obtain ⟨hb, h⟩ := bif2_some h
              cases h
              rw [Nat.eq_of_beq_eq_true hb]
              exact .inl ⟨fun k hk => (by cases hk), Hs 24, c24⟩
            · obtain ⟨hb, h⟩ := bif2_some h
              cases h
              rw [Nat.eq_of_beq_eq_true hb]
              exact .inl ⟨fun k hk => (by cases hk), Hs 25, c25⟩
          · rcases bif2_or h with ⟨_, h⟩ | ⟨_, h⟩
            · obtain ⟨hb, h⟩ := bif2_some h
              cases h
              rw [Nat.eq_of_beq_eq_true hb]
              exact .inl ⟨fun k hk => (by cases hk), Hs 26, c26⟩
            · obtain ⟨hb, h⟩ := bif2_some h
              cases h
              rw [Nat.eq_of_beq_eq_true hb]
              exact .inl ⟨fun k hk => (by cases hk), Hs 27, c27⟩
      · rcases bif2_or h with ⟨_, h⟩ | ⟨_, h⟩
        · rcases bif2_or h with ⟨_, h⟩ | ⟨_, h⟩
          · rcases bif2_or h with ⟨_, h⟩ | ⟨_, h⟩
            · obtain ⟨hb, h⟩ := bif2_some h
              cases h
              rw [Nat.eq_of_beq_eq_true hb]
              exact .inl ⟨fun k hk => (by cases hk), Hs 28, c28⟩
            · obtain ⟨hb, h⟩ := bif2_some h
              cases h
              rw [Nat.eq_of_beq_eq_true hb]
              exact .inl ⟨fun k hk => (by cases hk), Hs 29, c29⟩
          · rcases bif2_or h with ⟨_, h⟩ | ⟨_, h⟩
            · obtain ⟨hb, h⟩ := bif2_some h
              cases h
              rw [Nat.eq_of_beq_eq_true hb]
              exact .inl ⟨fun k hk => (by cases hk), Hs 30, c30⟩
            · obtain ⟨hb, h⟩ := bif2_some h
              cases h
              rw [Nat.eq_of_beq_eq_true hb]
              exact .inl ⟨fun k hk => (by cases hk), Hs 31, c31⟩
        · rcases bif2_or h with ⟨_, h⟩ | ⟨_, h⟩
          · rcases bif2_or h with ⟨_, h⟩ | ⟨_, h⟩
            · obtain ⟨hb, h⟩ := bif2_some h
              cases h
              rw [Nat.eq_of_beq_eq_true hb]
              exact .inl ⟨fun k hk => (by cases hk), Hs 32, c32⟩
            · obtain ⟨hb, h⟩ := bif2_some h
              cases h
              rw [Nat.eq_of_beq_eq_true hb]
              exact .inl ⟨fun k hk => (by cases hk), Hs 33, c33⟩
          · rcases bif2_or h with ⟨_, h⟩ | ⟨_, h⟩
            · obtain ⟨hb, h⟩ := bif2_some h
              cases h
              rw [Nat.eq_of_beq_eq_true hb]
              exact .inl ⟨fun k hk => (by cases hk), Hs 34, c34⟩
            · rcases bif2_or h with ⟨_, h⟩ | ⟨_, h⟩
              · obtain ⟨hb, h⟩ := bif2_some h
                cases h
                rw [Nat.eq_of_beq_eq_true hb]
                exact .inl ⟨fun k hk => (by cases hk), Hs 35, c35⟩
              · obtain ⟨hb, h⟩ := bif2_some h
                cases h
                rw [Nat.eq_of_beq_eq_true hb]
                exact .inl ⟨fun k hk => (by cases hk), Hs 36, c36⟩
  · rcases bif2_or h with ⟨_, h⟩ | ⟨_, h⟩
    · rcases bif2_or h with ⟨_, h⟩ | ⟨_, h⟩
      · rcases bif2_or h with ⟨_, h⟩ | ⟨_, h⟩
        · rcases bif2_or h with ⟨_, h⟩ | ⟨_, h⟩
          · rcases bif2_or h with ⟨_, h⟩ | ⟨_, h⟩
            · obtain ⟨hb, h⟩ := bif2_some h
              cases h
              rw [Nat.eq_of_beq_eq_true hb]
              exact .inl ⟨fun k hk => (by cases hk), Hs 37, c37⟩
            · obtain ⟨hb, h⟩ := bif2_some h
              cases h
              rw [Nat.eq_of_beq_eq_true hb]
              exact .inl ⟨fun k hk => (by cases hk), Hs 38, c38⟩
          · rcases bif2_or h with ⟨_, h⟩ | ⟨_, h⟩
            · obtain ⟨hb, h⟩ := bif2_some h
              cases h
              rw [Nat.eq_of_beq_eq_true hb]
              exact .inl ⟨fun k hk => (by cases hk), Hs 39, c39⟩
            · obtain ⟨hb, h⟩ := bif2_some h
              cases h
              rw [Nat.eq_of_beq_eq_true hb]
              exact .inl ⟨fun k hk => (by cases hk), Hs 40, c40⟩
        · rcases bif2_or h with ⟨_, h⟩ | ⟨_, h⟩
          · rcases bif2_or h with ⟨_, h⟩ | ⟨_, h⟩
            · obtain ⟨hb, h⟩ := bif2_some h
              cases h
              rw [Nat.eq_of_beq_eq_true hb]
              exact .inl ⟨fun k hk => (by cases hk), Hs 41, c41⟩
            · obtain ⟨hb, h⟩ := bif2_some h
              cases h
              rw [Nat.eq_of_beq_eq_true hb]
              exact .inl ⟨fun k hk => (by cases hk), Hs 42, c42⟩
          · rcases bif2_or h with ⟨_, h⟩ | ⟨_, h⟩
            · obtain ⟨hb, h⟩ := bif2_some h
              cases h
              rw [Nat.eq_of_beq_eq_true hb]
              exact .inl ⟨fun k hk => (by cases hk), Hs 43, c43⟩
            · obtain ⟨hb, h⟩ := bif2_some h
              cases h
              rw [Nat.eq_of_beq_eq_true hb]
              exact .inl ⟨fun k hk => (by cases hk), Hs 44, c44⟩
      · rcases bif2_or h with ⟨_, h⟩ | ⟨_, h⟩
        · rcases bif2_or h with ⟨_, h⟩ | ⟨_, h⟩
          · rcases bif2_or h with ⟨_, h⟩ | ⟨_, h⟩
            · obtain ⟨hb, h⟩ := bif2_some h
              cases h
              rw [Nat.eq_of_beq_eq_true hb]
              exact .inl ⟨fun k hk => (by cases hk), Hs 45, c45⟩
            · obtain ⟨hb, h⟩ := bif2_some h
              cases h
              rw [Nat.eq_of_beq_eq_true hb]
              exact .inl ⟨fun k hk => (by cases hk), Hs 46, c46⟩
          · rcases bif2_or h with ⟨_, h⟩ | ⟨_, h⟩
            · obtain ⟨hb, h⟩ := bif2_some h
              cases h
              rw [Nat.eq_of_beq_eq_true hb]
              exact .inl ⟨fun k hk => (by cases hk), Hs 47, c47⟩
            · obtain ⟨hb, h⟩ := bif2_some h
              cases h
              rw [Nat.eq_of_beq_eq_true hb]
              exact .inl ⟨fun k hk => (by cases hk), Hs 48, c48⟩
        · rcases bif2_or h with ⟨_, h⟩ | ⟨_, h⟩
          · rcases bif2_or h with ⟨_, h⟩ | ⟨_, h⟩
            · obtain ⟨hb, h⟩ := bif2_some h
              cases h
              rw [Nat.eq_of_beq_eq_true hb]
              exact .inl ⟨fun k hk => (by cases hk), Hs 49, c49⟩
            · obtain ⟨hb, h⟩ := bif2_some h
              cases h
              rw [Nat.eq_of_beq_eq_true hb]
              exact .inl ⟨fun k hk => (by cases hk), Hs 50, c50⟩
          · rcases bif2_or h with ⟨_, h⟩ | ⟨_, h⟩
            · obtain ⟨hb, h⟩ := bif2_some h
              cases h
              rw [Nat.eq_of_beq_eq_true hb]
              exact .inl ⟨fun k hk => (by cases hk), Hs 51, c51⟩
            · rcases bif2_or h with ⟨_, h⟩ | ⟨_, h⟩
              · obtain ⟨hb, h⟩ := bif2_some h
                cases h
                rw [Nat.eq_of_beq_eq_true hb]
                exact .inl ⟨fun k hk => (by cases hk), Hs 52, c52⟩
              · obtain ⟨hb, h⟩ := bif2_some h
                cases h
                rw [Nat.eq_of_beq_eq_true hb]
                exact .inl ⟨fun k hk => (by cases hk), Hs 53, c53⟩
    · rcases bif2_or h with ⟨_, h⟩ | ⟨_, h⟩
      · rcases bif2_or h with ⟨_, h⟩ | ⟨_, h⟩
        · rcases bif2_or h with ⟨_, h⟩ | ⟨_, h⟩
          · rcases bif2_or h with ⟨_, h⟩ | ⟨_, h⟩
            · obtain ⟨hb, h⟩ := bif2_some h
              cases h
              rw [Nat.eq_of_beq_eq_true hb]
              exact .inl ⟨fun k hk => (by cases hk), Hs 54, c54⟩
            · obtain ⟨hb, h⟩ := bif2_some h
              cases h
              rw [Nat.eq_of_beq_eq_true hb]
              exact .inl ⟨fun k hk => (by cases hk), Hs 55, c55⟩
          · rcases bif2_or h with ⟨_, h⟩ | ⟨_, h⟩
            · obtain ⟨hb, h⟩ := bif2_some h
              cases h
              rw [Nat.eq_of_beq_eq_true hb]
              exact .inl ⟨fun k hk => (by cases hk), Hs 56, c56⟩
            · obtain ⟨hb, h⟩ := bif2_some h
              cases h
              rw [Nat.eq_of_beq_eq_true hb]
              exact .inl ⟨fun k hk => (by cases hk), Hs 57, c57⟩
        · rcases bif2_or h with ⟨_, h⟩ | ⟨_, h⟩
          · rcases bif2_or h with ⟨_, h⟩ | ⟨_, h⟩
            · obtain ⟨hb, h⟩ := bif2_some h
              cases h
              rw [Nat.eq_of_beq_eq_true hb]
              exact .inl ⟨fun k hk => (by cases hk), Hs 58, c58⟩
            · obtain ⟨hb, h⟩ := bif2_some h
              cases h
              rw [Nat.eq_of_beq_eq_true hb]
              exact .inl ⟨fun k hk => (by cases hk), Hs 59, c59⟩
          · rcases bif2_or h with ⟨_, h⟩ | ⟨_, h⟩
            · obtain ⟨hb, h⟩ := bif2_some h
              cases h
              rw [Nat.eq_of_beq_eq_true hb]
              exact .inl ⟨fun k hk => (by cases hk), Hs 60, c60⟩
            · obtain ⟨hb, h⟩ := bif2_some h
              cases h
              rw [Nat.eq_of_beq_eq_true hb]
              exact .inl ⟨fun k hk => (by cases hk), Hs 61, c61⟩
      · rcases bif2_or h with ⟨_, h⟩ | ⟨_, h⟩
        · rcases bif2_or h with ⟨_, h⟩ | ⟨_, h⟩
          · rcases bif2_or h with ⟨_, h⟩ | ⟨_, h⟩
            · obtain ⟨hb, h⟩ := bif2_some h
              cases h
              rw [Nat.eq_of_beq_eq_true hb]
              exact .inl ⟨fun k hk => (by cases hk), Hs 62, c62⟩
            · obtain ⟨hb, h⟩ := bif2_some h
              cases h
              rw [Nat.eq_of_beq_eq_true hb]
              exact .inl ⟨fun k hk => (by cases hk), Hs 63, c63⟩
          · rcases bif2_or h with ⟨_, h⟩ | ⟨_, h⟩
            · obtain ⟨hb, h⟩ := bif2_some h
              cases h
              rw [Nat.eq_of_beq_eq_true hb]
              exact .inl ⟨fun k hk => (by cases hk), Hs 64, c64⟩
            · obtain ⟨hb, h⟩ := bif2_some h
              cases h
              rw [Nat.eq_of_beq_eq_true hb]
              exact .inl ⟨fun k hk => (by cases hk), Hs 65, c65⟩
        · rcases bif2_or h with ⟨_, h⟩ | ⟨_, h⟩
          · rcases bif2_or h with ⟨_, h⟩ | ⟨_, h⟩
            · obtain ⟨hb, h⟩ := bif2_some h
              cases h
              rw [Nat.eq_of_beq_eq_true hb]
              exact .inl ⟨fun k hk => (by cases hk), Hs 66, c66⟩
            · obtain ⟨hb, h⟩ := bif2_some h
              cases h
              rw [Nat.eq_of_beq_eq_true hb]
              exact .inl ⟨fun k hk => (by cases hk), Hs 67, c67⟩
          · rcases bif2_or h with ⟨_, h⟩ | ⟨_, h⟩
            · obtain ⟨hb, h⟩ := bif2_some h
              cases h
              rw [Nat.eq_of_beq_eq_true hb]
              exact .inl ⟨fun k hk => (by cases hk), Hs 68, c68⟩
            · rcases bif2_or h with ⟨_, h⟩ | ⟨_, h⟩
              · obtain ⟨hb, h⟩ := bif2_some h
                cases h
                rw [Nat.eq_of_beq_eq_true hb]
                exact .inl ⟨fun k hk => (by cases hk), Hs 69, c69⟩
              · obtain ⟨hb, h⟩ := bif2_some h
                cases h
                rw [Nat.eq_of_beq_eq_true hb]
                exact .inl ⟨fun k hk => (by cases hk), Hs 70, c70⟩
end Go.Proofs.Ytjacddclpcelmaa.AM.Bi
