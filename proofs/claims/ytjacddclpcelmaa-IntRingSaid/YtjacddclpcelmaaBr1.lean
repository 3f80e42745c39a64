/- The functions that IntRing reaches, each checked against the translation, part two; the table of them. -/
import Derived.Test.YtjacddclpcelmaaBr1a
set_option maxRecDepth 1000000
set_option linter.unusedVariables false
set_option linter.unusedSimpArgs false
namespace Go.Proofs.Ytjacddclpcelmaa.AM.Br
open Go.Proofs
/- sterling/bigint.gives -/
@[simp] def r68_0 : List HOp := [⟨(some 4), true, .mv (.val (.tr (.sc (.bool false)))), none⟩]
@[simp] def r68_1 : List HOp := [⟨(some 5), true, .mv (.val (.tr (.sc (.int .u64 0)))), none⟩]
@[simp] def r68_2 : List HOp := [⟨(some 7), false, .mv (.env 0), none⟩,
      ⟨(some 8), true, .len 1 (.loc 7), none⟩,
      ⟨(some 9), true, .mv (.val (.tr (.sc (.int .i64 0)))), none⟩]
@[simp] def r68_3 : List HOp := [⟨(some 10), false, .bin .other .lss (.env 9) (.env 8), none⟩]
@[simp] def r68_4 : List HOp := [⟨(some 11), false, .mv (.env 9), none⟩,
          ⟨(some 6), true, .mv (.loc 11), none⟩]
@[simp] def r68_5 : List HOp := [⟨(some 12), false, .mv (.env 5), none⟩,
          ⟨(some 13), false, .mv (.env 0), none⟩,
          ⟨(some 14), false, .mv (.env 6), none⟩,
          ⟨(some 15), false, .iaddr 1 (.loc 13) (.loc 14), none⟩,
          ⟨(some 16), false, .load 1 false (.loc 15), none⟩,
          ⟨(some 17), false, .conv (.toInt .u64) (.loc 16), none⟩,
          ⟨(some 18), false, .bin .other .add (.loc 12) (.loc 17), none⟩,
          ⟨(some 5), true, .mv (.loc 18), none⟩]
@[simp] def r68_6 : List HOp := [⟨(some 19), false, .mv (.env 6), none⟩,
           ⟨(some 20), false, .mv (.env 1), none⟩,
           ⟨(some 21), false, .len 1 (.loc 20), none⟩,
           ⟨(some 22), false, .bin .other .lss (.loc 19) (.loc 21), none⟩]
@[simp] def r68_7 : List HOp := [⟨(some 23), false, .mv (.env 5), none⟩,
           ⟨(some 24), false, .mv (.env 1), none⟩,
           ⟨(some 25), false, .mv (.env 6), none⟩,
           ⟨(some 26), false, .iaddr 1 (.loc 24) (.loc 25), none⟩,
           ⟨(some 27), false, .load 1 false (.loc 26), none⟩,
           ⟨(some 28), false, .conv (.toInt .u64) (.loc 27), none⟩,
           ⟨(some 29), false, .bin .other .add (.loc 23) (.loc 28), none⟩,
           ⟨(some 5), true, .mv (.loc 29), none⟩]
@[simp] def r68_8 : List HOp := [⟨(some 30), false, .mv (.env 0), none⟩,
          ⟨(some 31), false, .mv (.env 6), none⟩,
          ⟨(some 32), false, .mv (.env 5), none⟩,
          ⟨(some 33), false, .conv (.toInt .u32) (.loc 32), none⟩,
          ⟨(some 34), false, .iaddr 1 (.loc 30) (.loc 31), none⟩,
          ⟨none, false, .store 1 (.loc 34) (.loc 33), none⟩]
@[simp] def r68_9 : List HOp := [⟨(some 35), false, .mv (.env 5), none⟩,
         ⟨(some 36), false, .bin .other .shr (.loc 35) (.val (.tr (.sc (.int .u64 32)))), none⟩,
         ⟨(some 5), true, .mv (.loc 36), none⟩]
@[simp] def r68_10 : List HOp := [⟨(some 37), false, .bin .other .add (.env 9) (.val (.tr (.sc (.int .i64 1)))), none⟩,
       ⟨(some 9), true, .mv (.loc 37), none⟩]
@[simp] def r68_11 : List HOp := [⟨(some 38), false, .mv (.env 5), none⟩,
     ⟨(some 39), false, .bin .other .gtr (.loc 38) (.val (.tr (.sc (.int .u64 0)))), none⟩,
     ⟨(some 4), true, .mv (.loc 39), none⟩]
@[simp] def k68_8 : HCode := .cond (.loc 22) (.region r68_7 none) .skip
def k68_9 : HCode := .seq (.region r68_8 none) (.region r68_9 none)
@[simp] def k68_7 : HCode := .seq (.seq (.region r68_6 none) k68_8) k68_9
@[simp] def k68_6 : HCode := .seq (.region r68_5 none) k68_7
def k68_10 : HCode := .region r68_10 none
def k68_5 : HCode := .seq (.block 1 (.seq (.region r68_4 none) k68_6)) k68_10
@[simp] def k68_4 : HCode := .seq (.cond (.loc 10) .skip (.exit 0)) k68_5
def k68_3 : HCode := .seq (.region r68_3 none) k68_4
@[simp] def k68_2 : HCode := .block 0 (.loop k68_3)
def k68_11 : HCode := .seq (.region r68_11 none) .ret
@[simp] def k68_1 : HCode := .seq (.seq (.region r68_2 none) k68_2) k68_11
@[simp] def k68_0 : HCode := .seq (.region r68_1 none) k68_1
@[simp] def fn68 : HFn := { nargs := 2, results := [.tmp 4], mode := .shared, code := (.seq (.region r68_0 none) k68_0) }
theorem c68 : cFn Try.prog (Hs 68) .shared 68 = some fn68 := by kernel_rfl
/- sterling/bigint.Bitwise -/
@[simp] def r28_0 : List HOp := [⟨(some 4), true, .box true (.env 1), none⟩,
     ⟨(some 5), true, .box true (.env 2), none⟩,
     ⟨(some 6), true, .alloc [(.sc (.bool false)), (.sc (.slice none 0 0))], none⟩,
     ⟨(some 7), true, .mv (.val (.tr (.sc (.bool false)))), none⟩]
@[simp] def r28_1 : List HOp := [⟨(some 12), false, .faddr 1 (.env 4), none⟩,
     ⟨(some 13), false, .load 1 false (.loc 12), none⟩,
     ⟨(some 14), false, .len 1 (.loc 13), none⟩,
     ⟨(some 15), false, .faddr 1 (.env 5), none⟩,
     ⟨(some 16), false, .load 1 false (.loc 15), none⟩,
     ⟨(some 17), false, .len 1 (.loc 16), none⟩,
     ⟨(some 18), false, .minmax true (.loc 14) [(.loc 17)], none⟩,
     ⟨(some 19), false, .bin .other .add (.loc 18) (.val (.tr (.sc (.int .i64 1)))), none⟩,
     ⟨(some 8), true, .mv (.loc 19), none⟩]
@[simp] def r28_2 : List HOp := [⟨(some 20), false, .ldt 2 true (.env 4), none⟩,
     ⟨(some 21), false, .mv (.env 8), none⟩,
     ⟨(some 22), false, .callf 57 [(.loc 20), (.loc 21)], none⟩,
     ⟨(some 23), false, .ldt 2 true (.env 5), none⟩,
     ⟨(some 24), false, .mv (.env 8), none⟩,
     ⟨(some 25), false, .callf 57 [(.loc 23), (.loc 24)], none⟩,
     ⟨(some 9), true, .mv (.loc 22), none⟩,
     ⟨(some 10), true, .mv (.loc 25), none⟩]
@[simp] def r28_3 : List HOp := [⟨(some 26), false, .mv (.env 9), none⟩,
      ⟨(some 27), true, .len 1 (.loc 26), none⟩,
      ⟨(some 28), true, .mv (.val (.tr (.sc (.int .i64 0)))), none⟩]
@[simp] def r28_4 : List HOp := [⟨(some 29), false, .bin .other .lss (.env 28) (.env 27), none⟩]
@[simp] def r28_5 : List HOp := [⟨(some 30), false, .mv (.env 28), none⟩,
          ⟨(some 11), true, .mv (.loc 30), none⟩]
@[simp] def r28_6 : List HOp := [⟨(some 31), true, .mv (.env 0), none⟩]
@[simp] def r28_7 : List HOp := [⟨(some 34), false, .bin .other .eql (.env 31) (.val (.tr (.sc (.string ⟨⟨[38]⟩⟩)))), none⟩,
           ⟨(some 33), false, .mv (.loc 34), none⟩]
@[simp] def r28_8 : List HOp := [⟨(some 35), false, .mv (.env 9), none⟩,
           ⟨(some 36), false, .mv (.env 11), none⟩,
           ⟨(some 37), false, .iaddr 1 (.loc 35) (.loc 36), none⟩,
           ⟨(some 38), false, .load 1 false (.loc 37), none⟩,
           ⟨(some 39), false, .mv (.env 10), none⟩,
           ⟨(some 40), false, .mv (.env 11), none⟩,
           ⟨(some 41), false, .iaddr 1 (.loc 39) (.loc 40), none⟩,
           ⟨(some 42), false, .load 1 false (.loc 41), none⟩,
           ⟨(some 43), false, .bin .other .and (.loc 38) (.loc 42), none⟩,
           ⟨(some 44), false, .iaddr 1 (.loc 35) (.loc 36), none⟩,
           ⟨none, false, .store 1 (.loc 44) (.loc 43), none⟩]
@[simp] def r28_9 : List HOp := [⟨(some 46), false, .bin .other .eql (.env 31) (.val (.tr (.sc (.string ⟨⟨[124]⟩⟩)))), none⟩,
            ⟨(some 45), false, .mv (.loc 46), none⟩]
@[simp] def r28_10 : List HOp := [⟨(some 47), false, .mv (.env 9), none⟩,
            ⟨(some 48), false, .mv (.env 11), none⟩,
            ⟨(some 49), false, .iaddr 1 (.loc 47) (.loc 48), none⟩,
            ⟨(some 50), false, .load 1 false (.loc 49), none⟩,
            ⟨(some 51), false, .mv (.env 10), none⟩,
            ⟨(some 52), false, .mv (.env 11), none⟩,
            ⟨(some 53), false, .iaddr 1 (.loc 51) (.loc 52), none⟩,
            ⟨(some 54), false, .load 1 false (.loc 53), none⟩,
            ⟨(some 55), false, .bin .other .or (.loc 50) (.loc 54), none⟩,
            ⟨(some 56), false, .iaddr 1 (.loc 47) (.loc 48), none⟩,
            ⟨none, false, .store 1 (.loc 56) (.loc 55), none⟩]
@[simp] def r28_11 : List HOp := [⟨(some 58), false, .bin .other .eql (.env 31) (.val (.tr (.sc (.string ⟨⟨[94]⟩⟩)))), none⟩,
             ⟨(some 57), false, .mv (.loc 58), none⟩]
@[simp] def r28_12 : List HOp := [⟨(some 59), false, .mv (.env 9), none⟩,
             ⟨(some 60), false, .mv (.env 11), none⟩,
             ⟨(some 61), false, .iaddr 1 (.loc 59) (.loc 60), none⟩,
             ⟨(some 62), false, .load 1 false (.loc 61), none⟩,
             ⟨(some 63), false, .mv (.env 10), none⟩,
             ⟨(some 64), false, .mv (.env 11), none⟩,
             ⟨(some 65), false, .iaddr 1 (.loc 63) (.loc 64), none⟩,
             ⟨(some 66), false, .load 1 false (.loc 65), none⟩,
             ⟨(some 67), false, .bin .other .xor (.loc 62) (.loc 66), none⟩,
             ⟨(some 68), false, .iaddr 1 (.loc 59) (.loc 60), none⟩,
             ⟨none, false, .store 1 (.loc 68) (.loc 67), none⟩]
@[simp] def r28_13 : List HOp := [⟨(some 70), false, .bin .other .eql (.env 31) (.val (.tr (.sc (.string ⟨⟨[38, 94]⟩⟩)))), none⟩,
              ⟨(some 69), false, .mv (.loc 70), none⟩]
@[simp] def r28_14 : List HOp := [⟨(some 71), false, .mv (.env 9), none⟩,
              ⟨(some 72), false, .mv (.env 11), none⟩,
              ⟨(some 73), false, .iaddr 1 (.loc 71) (.loc 72), none⟩,
              ⟨(some 74), false, .load 1 false (.loc 73), none⟩,
              ⟨(some 75), false, .mv (.env 10), none⟩,
              ⟨(some 76), false, .mv (.env 11), none⟩,
              ⟨(some 77), false, .iaddr 1 (.loc 75) (.loc 76), none⟩,
              ⟨(some 78), false, .load 1 false (.loc 77), none⟩,
              ⟨(some 79), false, .bin .other .andNot (.loc 74) (.loc 78), none⟩,
              ⟨(some 80), false, .iaddr 1 (.loc 71) (.loc 72), none⟩,
              ⟨none, false, .store 1 (.loc 80) (.loc 79), none⟩]
@[simp] def r28_15 : List HOp := [⟨(some 32), false, .build [(.sc (.bool false)), (.sc (.slice none 0 0))] [], none⟩,
               ⟨none, false, .store 2 (.env 6) (.loc 32), none⟩,
               ⟨(some 7), true, .mv (.val (.tr (.sc (.bool false)))), none⟩]
@[simp] def r28_16 : List HOp := [⟨(some 81), false, .bin .other .add (.env 28) (.val (.tr (.sc (.int .i64 1)))), none⟩,
       ⟨(some 28), true, .mv (.loc 81), none⟩]
@[simp] def r28_17 : List HOp := [⟨(some 82), false, .mv (.env 9), none⟩,
      ⟨(some 83), false, .mv (.env 8), none⟩,
      ⟨(some 84), false, .bin .other .sub (.loc 83) (.val (.tr (.sc (.int .i64 1)))), none⟩,
      ⟨(some 85), false, .iaddr 1 (.loc 82) (.loc 84), none⟩,
      ⟨(some 86), false, .load 1 false (.loc 85), none⟩,
      ⟨(some 87), false, .bin .other .shr (.loc 86) (.val (.tr (.sc (.int .u64 31)))), none⟩,
      ⟨(some 88), false, .bin .other .eql (.loc 87) (.val (.tr (.sc (.int .u32 0)))), none⟩]
@[simp] def r28_18 : List HOp := [⟨(some 89), false, .mv (.env 9), none⟩,
       ⟨(some 90), false, .callf 41 [(.val (.tr (.sc (.bool false)))), (.loc 89)], none⟩,
       ⟨none, false, .store 2 (.env 6) (.loc 90), none⟩,
       ⟨(some 7), true, .mv (.val (.tr (.sc (.bool true)))), none⟩]
@[simp] def r28_19 : List HOp := [⟨(some 91), false, .mv (.env 9), none⟩,
     ⟨(some 92), false, .build [(.sc (.bool false)), (.sc (.slice none 0 0))] [(0, 1, (.val (.tr (.sc (.bool true))))), (1, 1, (.loc 91))], none⟩,
     ⟨(some 93), false, .mv (.env 8), none⟩,
     ⟨(some 94), false, .callf 57 [(.loc 92), (.loc 93)], none⟩,
     ⟨(some 95), false, .callf 41 [(.val (.tr (.sc (.bool true)))), (.loc 94)], none⟩,
     ⟨none, false, .store 2 (.env 6) (.loc 95), none⟩,
     ⟨(some 7), true, .mv (.val (.tr (.sc (.bool true)))), none⟩]
@[simp] def k28_16 : HCode := .seq (.region r28_15 none) .ret
@[simp] def k28_15 : HCode := .cond (.loc 69) (.region r28_14 (some [ ( 0, [ 9 ] ) , ( 0, [ 11 ] ) , ( 1, [ 71, 72 ] ) , ( 1, [ 73 ] ) , ( 0, [ 10 ] ) , ( 0, [ 11 ] ) , ( 1, [ 75, 76 ] ) , ( 1, [ 77 ] ) , ( 0, [ 74, 78 ] ) , ( 2, [ 71, 72 ] ) , ( 2, [ 80, 79 ] ) ])) k28_16
@[simp] def k28_14 : HCode := .seq (.region r28_13 none) k28_15
@[simp] def k28_13 : HCode := .cond (.loc 57) (.region r28_12 (some [ ( 0, [ 9 ] ) , ( 0, [ 11 ] ) , ( 1, [ 59, 60 ] ) , ( 1, [ 61 ] ) , ( 0, [ 10 ] ) , ( 0, [ 11 ] ) , ( 1, [ 63, 64 ] ) , ( 1, [ 65 ] ) , ( 0, [ 62, 66 ] ) , ( 2, [ 59, 60 ] ) , ( 2, [ 68, 67 ] ) ])) k28_14
@[simp] def k28_12 : HCode := .seq (.region r28_11 none) k28_13
@[simp] def k28_11 : HCode := .cond (.loc 45) (.region r28_10 (some [ ( 0, [ 9 ] ) , ( 0, [ 11 ] ) , ( 1, [ 47, 48 ] ) , ( 1, [ 49 ] ) , ( 0, [ 10 ] ) , ( 0, [ 11 ] ) , ( 1, [ 51, 52 ] ) , ( 1, [ 53 ] ) , ( 0, [ 50, 54 ] ) , ( 2, [ 47, 48 ] ) , ( 2, [ 56, 55 ] ) ])) k28_12
@[simp] def k28_10 : HCode := .seq (.region r28_9 none) k28_11
@[simp] def k28_9 : HCode := .cond (.loc 33) (.region r28_8 (some [ ( 0, [ 9 ] ) , ( 0, [ 11 ] ) , ( 1, [ 35, 36 ] ) , ( 1, [ 37 ] ) , ( 0, [ 10 ] ) , ( 0, [ 11 ] ) , ( 1, [ 39, 40 ] ) , ( 1, [ 41 ] ) , ( 0, [ 38, 42 ] ) , ( 2, [ 35, 36 ] ) , ( 2, [ 44, 43 ] ) ])) k28_10
@[simp] def k28_8 : HCode := .block 2 (.seq (.region r28_7 none) k28_9)
@[simp] def k28_7 : HCode := .seq (.region r28_6 none) k28_8
def k28_17 : HCode := .region r28_16 none
def k28_6 : HCode := .seq (.block 1 (.seq (.region r28_5 none) k28_7)) k28_17
@[simp] def k28_5 : HCode := .seq (.cond (.loc 29) .skip (.exit 0)) k28_6
def k28_4 : HCode := .seq (.region r28_4 none) k28_5
@[simp] def k28_3 : HCode := .block 0 (.loop k28_4)
@[simp] def k28_20 : HCode := .seq (.region r28_18 none) .ret
@[simp] def k28_19 : HCode := .cond (.loc 88) k28_20 .skip
def k28_21 : HCode := .seq (.region r28_19 none) .ret
def k28_18 : HCode := .seq (.seq (.region r28_17 none) k28_19) k28_21
@[simp] def k28_2 : HCode := .seq (.seq (.region r28_3 none) k28_3) k28_18
@[simp] def k28_1 : HCode := .seq (.region r28_2 (some [ ( 0, [ 4 ] ) , ( 0, [ 8 ] ) , ( 2, [ 20, 21 ] ) , ( 0, [ 5 ] ) , ( 0, [ 8 ] ) , ( 2, [ 23, 24 ] ) , ( 0, [ 22 ] ) , ( 0, [ 25 ] ) ])) k28_2
@[simp] def k28_0 : HCode := .seq (.region r28_1 none) k28_1
@[simp] def fn28 : HFn := { nargs := 3, results := [.cell 6 2 true, .tmp 7], mode := .iso, code := (.seq (.region r28_0 none) k28_0) }
theorem c28 : cFn Try.prog (Hs 28) .iso 28 = some fn28 := by kernel_rfl
/- sterling/bigint.digits -/
@[simp] def r57_0 : List HOp := [⟨(some 2), true, .box true (.env 0), none⟩,
     ⟨(some 4), true, .mv (.val (.tr (.sc (.slice none 0 0)))), none⟩]
@[simp] def r57_1 : List HOp := [⟨(some 9), false, .mv (.env 1), none⟩,
     ⟨(some 10), false, .mkslice [(.sc (.int .u32 0))] 4 (.loc 9) (.loc 9), none⟩,
     ⟨(some 5), true, .mv (.loc 10), none⟩]
@[simp] def r57_2 : List HOp := [⟨(some 11), false, .mv (.env 5), none⟩,
     ⟨(some 12), false, .faddr 1 (.env 2), none⟩,
     ⟨(some 13), false, .load 1 false (.loc 12), none⟩,
     ⟨(some 14), false, .callf 48 [(.loc 13)], none⟩,
     ⟨(some 15), false, .copy 1 (.loc 11) (.loc 14), none⟩]
@[simp] def r57_3 : List HOp := [⟨(some 16), false, .load 2 true (.env 2), none⟩,
      ⟨(some 17), false, .callf 50 [(.loc 16)], none⟩,
      ⟨(some 18), false, .un .not (.loc 17), none⟩]
@[simp] def r57_4 : List HOp := [⟨(some 19), false, .mv (.env 5), none⟩,
       ⟨(some 4), true, .mv (.loc 19), none⟩]
@[simp] def r57_5 : List HOp := [⟨(some 6), true, .mv (.val (.tr (.sc (.int .u64 1)))), none⟩]
@[simp] def r57_6 : List HOp := [⟨(some 20), true, .mv (.env 5), none⟩,
      ⟨(some 21), true, .len 1 (.env 20), none⟩,
      ⟨(some 22), true, .mv (.val (.tr (.sc (.int .i64 0)))), none⟩]
@[simp] def r57_7 : List HOp := [⟨(some 23), false, .bin .other .lss (.env 22) (.env 21), none⟩]
@[simp] def r57_8 : List HOp := [⟨(some 24), false, .mv (.env 22), none⟩,
          ⟨(some 25), false, .iaddr 1 (.env 20) (.env 22), none⟩,
          ⟨(some 26), false, .load 1 false (.loc 25), none⟩,
          ⟨(some 7), true, .mv (.loc 24), none⟩,
          ⟨(some 8), true, .mv (.loc 26), none⟩]
@[simp] def r57_9 : List HOp := [⟨(some 27), false, .mv (.env 6), none⟩,
          ⟨(some 28), false, .mv (.env 8), none⟩,
          ⟨(some 29), false, .un .xor (.loc 28), none⟩,
          ⟨(some 30), false, .conv (.toInt .u64) (.loc 29), none⟩,
          ⟨(some 31), false, .bin .other .add (.loc 27) (.loc 30), none⟩,
          ⟨(some 6), true, .mv (.loc 31), none⟩]
@[simp] def r57_10 : List HOp := [⟨(some 32), false, .mv (.env 5), none⟩,
          ⟨(some 33), false, .mv (.env 7), none⟩,
          ⟨(some 34), false, .mv (.env 6), none⟩,
          ⟨(some 35), false, .conv (.toInt .u32) (.loc 34), none⟩,
          ⟨(some 36), false, .iaddr 1 (.loc 32) (.loc 33), none⟩,
          ⟨none, false, .store 1 (.loc 36) (.loc 35), none⟩]
@[simp] def r57_11 : List HOp := [⟨(some 37), false, .mv (.env 6), none⟩,
         ⟨(some 38), false, .bin .other .shr (.loc 37) (.val (.tr (.sc (.int .u64 32)))), none⟩,
         ⟨(some 6), true, .mv (.loc 38), none⟩]
@[simp] def r57_12 : List HOp := [⟨(some 39), false, .bin .other .add (.env 22) (.val (.tr (.sc (.int .i64 1)))), none⟩,
       ⟨(some 22), true, .mv (.loc 39), none⟩]
@[simp] def r57_13 : List HOp := [⟨(some 40), false, .mv (.env 5), none⟩,
     ⟨(some 4), true, .mv (.loc 40), none⟩]
@[simp] def k57_4 : HCode := .seq (.region r57_4 none) .ret
@[simp] def k57_3 : HCode := .cond (.loc 18) k57_4 .skip
@[simp] def k57_12 : HCode := .seq (.region r57_10 none) (.region r57_11 none)
@[simp] def k57_11 : HCode := .seq (.region r57_9 none) k57_12
def k57_10 : HCode := .seq (.block 1 (.seq (.region r57_8 none) k57_11)) (.region r57_12 none)
@[simp] def k57_9 : HCode := .seq (.cond (.loc 23) .skip (.exit 0)) k57_10
def k57_8 : HCode := .seq (.region r57_7 none) k57_9
@[simp] def k57_7 : HCode := .block 0 (.loop k57_8)
def k57_13 : HCode := .seq (.region r57_13 none) .ret
@[simp] def k57_6 : HCode := .seq (.seq (.region r57_6 none) k57_7) k57_13
def k57_5 : HCode := .seq (.region r57_5 none) k57_6
@[simp] def k57_2 : HCode := .seq (.seq (.region r57_3 none) k57_3) k57_5
@[simp] def k57_1 : HCode := .seq (.region r57_2 none) k57_2
@[simp] def k57_0 : HCode := .seq (.region r57_1 none) k57_1
@[simp] def fn57 : HFn := { nargs := 2, results := [.tmp 4], mode := .shared, code := (.seq (.region r57_0 none) k57_0) }
theorem c57 : cFn Try.prog (Hs 57) .shared 57 = some fn57 := by kernel_rfl
/- sterling/bigint.below -/
@[simp] def r50_0 : List HOp := [⟨(some 1), true, .box true (.env 0), none⟩,
     ⟨(some 2), true, .mv (.val (.tr (.sc (.bool false)))), none⟩]
@[simp] def r50_1 : List HOp := [⟨(some 3), false, .faddr 0 (.env 1), none⟩,
     ⟨(some 4), false, .load 1 false (.loc 3), none⟩,
     ⟨(some 5), false, .mv (.loc 4), none⟩,
     ⟨(some 6), false, .faddr 1 (.env 1), some ((.loc 5), true)⟩,
     ⟨(some 7), false, .load 1 false (.loc 6), some ((.loc 5), true)⟩,
     ⟨(some 8), false, .callf 48 [(.loc 7)], some ((.loc 5), true)⟩,
     ⟨(some 9), false, .len 1 (.loc 8), some ((.loc 5), true)⟩,
     ⟨(some 10), false, .bin .other .gtr (.loc 9) (.val (.tr (.sc (.int .i64 0)))), some ((.loc 5), true)⟩,
     ⟨(some 11), false, .pick (.loc 5) (.loc 10) (.val (.tr (.sc (.bool false)))), none⟩,
     ⟨(some 2), true, .mv (.loc 11), none⟩]
@[simp] def k50_0 : HCode := .seq (.region r50_1 none) .ret
@[simp] def fn50 : HFn := { nargs := 1, results := [.tmp 2], mode := .iso, code := (.seq (.region r50_0 none) k50_0) }
theorem c50 : cFn Try.prog (Hs 50) .iso 50 = some fn50 := by kernel_rfl
/- sterling/bigint.Text -/
@[simp] def r33_0 : List HOp := [⟨(some 1), true, .box true (.env 0), none⟩,
     ⟨(some 2), true, .mv (.val (.tr (.sc (.string ⟨⟨[]⟩⟩)))), none⟩]
@[simp] def r33_1 : List HOp := [⟨(some 7), false, .faddr 1 (.env 1), none⟩,
     ⟨(some 8), false, .load 1 false (.loc 7), none⟩,
     ⟨(some 9), false, .callf 48 [(.loc 8)], none⟩,
     ⟨(some 10), false, .callf 53 [(.loc 9)], none⟩,
     ⟨(some 3), true, .mv (.loc 10), none⟩]
@[simp] def r33_2 : List HOp := [⟨(some 11), false, .mv (.env 3), none⟩,
      ⟨(some 12), false, .len 1 (.loc 11), none⟩,
      ⟨(some 13), false, .bin .other .eql (.loc 12) (.val (.tr (.sc (.int .i64 0)))), none⟩]
@[simp] def r33_3 : List HOp := [⟨(some 2), true, .mv (.val (.tr (.sc (.string ⟨⟨[48]⟩⟩)))), none⟩]
@[simp] def r33_4 : List HOp := [⟨(some 4), true, .mv (.val (.tr (.sc (.slice none 0 0)))), none⟩]
@[simp] def r33_5 : List HOp := [⟨(some 14), false, .mv (.env 3), none⟩,
         ⟨(some 15), false, .len 1 (.loc 14), none⟩,
         ⟨(some 16), false, .bin .other .gtr (.loc 15) (.val (.tr (.sc (.int .i64 0)))), none⟩]
@[simp] def r33_6 : List HOp := [⟨(some 17), false, .mv (.env 3), none⟩,
         ⟨(some 18), false, .callf 54 [(.loc 17), (.val (.tr (.sc (.int .u32 1000000000))))], none⟩,
         ⟨(some 5), true, .mv (.loc 18), none⟩]
@[simp] def r33_7 : List HOp := [⟨(some 19), false, .mv (.env 3), none⟩,
         ⟨(some 20), false, .callf 48 [(.loc 19)], none⟩,
         ⟨(some 3), true, .mv (.loc 20), none⟩]
@[simp] def r33_8 : List HOp := [⟨(some 6), true, .mv (.val (.tr (.sc (.int .i64 0)))), none⟩]
@[simp] def r33_9 : List HOp := [⟨(some 21), false, .mv (.env 6), none⟩,
            ⟨(some 22), false, .bin .other .lss (.loc 21) (.val (.tr (.sc (.int .i64 9)))), none⟩,
            ⟨(some 23), false, .mv (.loc 22), none⟩,
            ⟨(some 24), false, .mv (.env 3), some ((.loc 23), true)⟩,
            ⟨(some 25), false, .len 1 (.loc 24), some ((.loc 23), true)⟩,
            ⟨(some 26), false, .bin .other .gtr (.loc 25) (.val (.tr (.sc (.int .i64 0)))), some ((.loc 23), true)⟩,
            ⟨(some 27), false, .mv (.loc 26), some ((.loc 23), true)⟩,
            ⟨(some 28), false, .mv (.env 5), some ((.loc 27), false)⟩,
            ⟨(some 29), false, .bin .other .gtr (.loc 28) (.val (.tr (.sc (.int .u32 0)))), some ((.loc 27), false)⟩,
            ⟨(some 30), false, .pick (.loc 27) (.val (.tr (.sc (.bool true)))) (.loc 29), some ((.loc 23), true)⟩,
            ⟨(some 31), false, .pick (.loc 23) (.loc 30) (.val (.tr (.sc (.bool false)))), none⟩]
@[simp] def r33_10 : List HOp := [⟨(some 34), false, .mv (.env 4), none⟩,
             ⟨(some 35), false, .mv (.env 5), none⟩,
             ⟨(some 36), false, .bin .other .rem (.loc 35) (.val (.tr (.sc (.int .u32 10)))), none⟩,
             ⟨(some 37), false, .bin .other .add (.val (.tr (.sc (.int .u32 48)))) (.loc 36), none⟩,
             ⟨(some 38), false, .conv (.toInt .u8) (.loc 37), none⟩,
             ⟨(some 39), false, .bslice false 1 1 [(.sc (.int .u8 0))] [(0, 1, (.loc 38))], none⟩,
             ⟨(some 40), false, .append 1 1 (.loc 34) (.loc 39), none⟩,
             ⟨(some 4), true, .mv (.loc 40), none⟩]
@[simp] def r33_11 : List HOp := [⟨(some 41), false, .mv (.env 5), none⟩,
            ⟨(some 42), false, .bin .other .quo (.loc 41) (.val (.tr (.sc (.int .u32 10)))), none⟩,
            ⟨(some 5), true, .mv (.loc 42), none⟩]
@[simp] def r33_12 : List HOp := [⟨(some 32), false, .mv (.env 6), none⟩,
          ⟨(some 33), false, .bin .other .add (.loc 32) (.val (.tr (.sc (.int .i64 1)))), none⟩,
          ⟨(some 6), true, .mv (.loc 33), none⟩]
@[simp] def r33_13 : List HOp := [⟨(some 43), false, .faddr 0 (.env 1), none⟩,
      ⟨(some 44), false, .load 1 false (.loc 43), none⟩]
@[simp] def r33_14 : List HOp := [⟨(some 45), false, .mv (.env 4), none⟩,
      ⟨(some 46), false, .bslice false 1 1 [(.sc (.int .u8 0))] [(0, 1, (.val (.tr (.sc (.int .u8 45)))))], none⟩,
      ⟨(some 47), false, .append 1 1 (.loc 45) (.loc 46), none⟩,
      ⟨(some 4), true, .mv (.loc 47), none⟩]
@[simp] def r33_15 : List HOp := [⟨(some 48), false, .mv (.env 4), none⟩,
     ⟨(some 49), false, .callf 60 [(.loc 48)], none⟩]
@[simp] def r33_16 : List HOp := [⟨(some 50), false, .mv (.env 4), none⟩,
     ⟨(some 51), false, .conv .bytesStr (.loc 50), none⟩,
     ⟨(some 2), true, .mv (.loc 51), none⟩]
@[simp] def k33_3 : HCode := .seq (.region r33_3 none) .ret
@[simp] def k33_2 : HCode := .cond (.loc 13) k33_3 .skip
@[simp] def k33_7 : HCode := .cond (.loc 16) .skip (.exit 0)
@[simp] def k33_13 : HCode := .cond (.loc 31) .skip (.exit 2)
def k33_14 : HCode := .seq (.block 3 (.seq (.region r33_10 none) (.region r33_11 none))) (.region r33_12 none)
def k33_12 : HCode := .seq (.seq (.region r33_9 none) k33_13) k33_14
@[simp] def k33_11 : HCode := .block 2 (.loop k33_12)
@[simp] def k33_10 : HCode := .seq (.region r33_8 none) k33_11
@[simp] def k33_9 : HCode := .seq (.region r33_7 none) k33_10
def k33_8 : HCode := .block 1 (.seq (.region r33_6 none) k33_9)
def k33_6 : HCode := .seq (.seq (.region r33_5 none) k33_7) k33_8
@[simp] def k33_16 : HCode := .cond (.loc 44) (.region r33_14 none) .skip
@[simp] def k33_18 : HCode := .seq (.region r33_16 none) .ret
def k33_17 : HCode := .seq (.region r33_15 none) k33_18
def k33_15 : HCode := .seq (.seq (.region r33_13 none) k33_16) k33_17
@[simp] def k33_5 : HCode := .seq (.block 0 (.loop k33_6)) k33_15
def k33_4 : HCode := .seq (.region r33_4 none) k33_5
@[simp] def k33_1 : HCode := .seq (.seq (.region r33_2 none) k33_2) k33_4
@[simp] def k33_0 : HCode := .seq (.region r33_1 none) k33_1
@[simp] def fn33 : HFn := { nargs := 1, results := [.tmp 2], mode := .iso, code := (.seq (.region r33_0 none) k33_0) }
theorem c33 : cFn Try.prog (Hs 33) .iso 33 = some fn33 := by kernel_rfl
/- slices.Reverse[[]byte,byte] -/
@[simp] def r60_0 : List HOp := [⟨(some 4), false, .mv (.env 0), none⟩,
     ⟨(some 5), false, .len 1 (.loc 4), none⟩,
     ⟨(some 6), false, .bin .other .sub (.loc 5) (.val (.tr (.sc (.int .i64 1)))), none⟩,
     ⟨(some 2), true, .mv (.val (.tr (.sc (.int .i64 0)))), none⟩,
     ⟨(some 3), true, .mv (.loc 6), none⟩]
@[simp] def r60_1 : List HOp := [⟨(some 7), false, .mv (.env 2), none⟩,
        ⟨(some 8), false, .mv (.env 3), none⟩,
        ⟨(some 9), false, .bin .other .lss (.loc 7) (.loc 8), none⟩]
@[simp] def r60_2 : List HOp := [⟨(some 14), false, .mv (.env 0), none⟩,
        ⟨(some 15), false, .mv (.env 2), none⟩,
        ⟨(some 16), false, .mv (.env 0), none⟩,
        ⟨(some 17), false, .mv (.env 3), none⟩,
        ⟨(some 18), false, .mv (.env 0), none⟩,
        ⟨(some 19), false, .mv (.env 3), none⟩,
        ⟨(some 20), false, .iaddr 1 (.loc 18) (.loc 19), none⟩,
        ⟨(some 21), false, .load 1 false (.loc 20), none⟩,
        ⟨(some 22), false, .mv (.env 0), none⟩,
        ⟨(some 23), false, .mv (.env 2), none⟩,
        ⟨(some 24), false, .iaddr 1 (.loc 22) (.loc 23), none⟩,
        ⟨(some 25), false, .load 1 false (.loc 24), none⟩,
        ⟨(some 26), false, .iaddr 1 (.loc 14) (.loc 15), none⟩,
        ⟨none, false, .store 1 (.loc 26) (.loc 21), none⟩,
        ⟨(some 27), false, .iaddr 1 (.loc 16) (.loc 17), none⟩,
        ⟨none, false, .store 1 (.loc 27) (.loc 25), none⟩]
@[simp] def r60_3 : List HOp := [⟨(some 10), false, .mv (.env 2), none⟩,
      ⟨(some 11), false, .bin .other .add (.loc 10) (.val (.tr (.sc (.int .i64 1)))), none⟩,
      ⟨(some 12), false, .mv (.env 3), none⟩,
      ⟨(some 13), false, .bin .other .sub (.loc 12) (.val (.tr (.sc (.int .i64 1)))), none⟩,
      ⟨(some 2), true, .mv (.loc 11), none⟩,
      ⟨(some 3), true, .mv (.loc 13), none⟩]
@[simp] def k60_2 : HCode := .cond (.loc 9) .skip (.exit 0)
def k60_3 : HCode := .seq (.block 1 (.region r60_2 (some [ ( 0, [ 0 ] ) , ( 0, [ 2 ] ) , ( 0, [ 0 ] ) , ( 0, [ 3 ] ) , ( 0, [ 0 ] ) , ( 0, [ 3 ] ) , ( 1, [ 18, 19 ] ) , ( 1, [ 20 ] ) , ( 0, [ 0 ] ) , ( 0, [ 2 ] ) , ( 1, [ 22, 23 ] ) , ( 1, [ 24 ] ) , ( 2, [ 14, 15 ] ) , ( 2, [ 26, 21 ] ) , ( 2, [ 16, 17 ] ) , ( 2, [ 27, 25 ] ) ]))) (.region r60_3 none)
def k60_1 : HCode := .seq (.seq (.region r60_1 none) k60_2) k60_3
@[simp] def k60_0 : HCode := .block 0 (.loop k60_1)
@[simp] def fn60 : HFn := { nargs := 1, results := [], mode := .shared, code := (.seq (.region r60_0 none) k60_0) }
theorem c60 : cFn Try.prog (Hs 60) .shared 60 = some fn60 := by kernel_rfl
/- sterling/bigint.Mul -/
@[simp] def r18_0 : List HOp := [⟨(some 2), true, .box true (.env 0), none⟩,
     ⟨(some 3), true, .box true (.env 1), none⟩,
     ⟨(some 4), true, .alloc [(.sc (.bool false)), (.sc (.slice none 0 0))], none⟩]
@[simp] def r18_1 : List HOp := [⟨(some 13), false, .faddr 1 (.env 2), none⟩,
     ⟨(some 14), false, .ldt 1 false (.loc 13), none⟩,
     ⟨(some 15), false, .callf 48 [(.loc 14)], none⟩,
     ⟨(some 16), false, .faddr 1 (.env 3), none⟩,
     ⟨(some 17), false, .ldt 1 false (.loc 16), none⟩,
     ⟨(some 18), false, .callf 48 [(.loc 17)], none⟩,
     ⟨(some 5), true, .mv (.loc 15), none⟩,
     ⟨(some 6), true, .mv (.loc 18), none⟩]
@[simp] def r18_2 : List HOp := [⟨(some 19), false, .mv (.env 5), none⟩,
     ⟨(some 20), false, .len 1 (.loc 19), none⟩,
     ⟨(some 21), false, .mv (.env 6), none⟩,
     ⟨(some 22), false, .len 1 (.loc 21), none⟩,
     ⟨(some 23), false, .bin .other .add (.loc 20) (.loc 22), none⟩,
     ⟨(some 24), false, .mkslice [(.sc (.int .u32 0))] 4 (.loc 23) (.loc 23), none⟩,
     ⟨(some 7), true, .mv (.loc 24), none⟩]
@[simp] def r18_3 : List HOp := [⟨(some 25), true, .mv (.env 5), none⟩,
      ⟨(some 26), true, .len 1 (.env 25), none⟩,
      ⟨(some 27), true, .mv (.val (.tr (.sc (.int .i64 0)))), none⟩]
@[simp] def r18_4 : List HOp := [⟨(some 28), false, .bin .other .lss (.env 27) (.env 26), none⟩]
@[simp] def r18_5 : List HOp := [⟨(some 29), false, .mv (.env 27), none⟩,
          ⟨(some 30), false, .iaddr 1 (.env 25) (.env 27), none⟩,
          ⟨(some 31), false, .load 1 false (.loc 30), none⟩,
          ⟨(some 8), true, .mv (.loc 29), none⟩,
          ⟨(some 9), true, .mv (.loc 31), none⟩]
@[simp] def r18_6 : List HOp := [⟨(some 10), true, .mv (.val (.tr (.sc (.int .u64 0)))), none⟩]
@[simp] def r18_7 : List HOp := [⟨(some 32), true, .mv (.env 6), none⟩,
           ⟨(some 33), true, .len 1 (.env 32), none⟩,
           ⟨(some 34), true, .mv (.val (.tr (.sc (.int .i64 0)))), none⟩]
@[simp] def r18_8 : List HOp := [⟨(some 35), false, .bin .other .lss (.env 34) (.env 33), none⟩]
@[simp] def r18_9 : List HOp := [⟨(some 36), false, .mv (.env 34), none⟩,
               ⟨(some 37), false, .iaddr 1 (.env 32) (.env 34), none⟩,
               ⟨(some 38), false, .load 1 false (.loc 37), none⟩,
               ⟨(some 11), true, .mv (.loc 36), none⟩,
               ⟨(some 12), true, .mv (.loc 38), none⟩]
@[simp] def r18_10 : List HOp := [⟨(some 39), false, .mv (.env 10), none⟩,
               ⟨(some 40), false, .mv (.env 9), none⟩,
               ⟨(some 41), false, .conv (.toInt .u64) (.loc 40), none⟩,
               ⟨(some 42), false, .mv (.env 12), none⟩,
               ⟨(some 43), false, .conv (.toInt .u64) (.loc 42), none⟩,
               ⟨(some 44), false, .bin .other .mul (.loc 41) (.loc 43), none⟩,
               ⟨(some 45), false, .mv (.env 7), none⟩,
               ⟨(some 46), false, .mv (.env 8), none⟩,
               ⟨(some 47), false, .mv (.env 11), none⟩,
               ⟨(some 48), false, .bin .other .add (.loc 46) (.loc 47), none⟩,
               ⟨(some 49), false, .iaddr 1 (.loc 45) (.loc 48), none⟩,
               ⟨(some 50), false, .load 1 false (.loc 49), none⟩,
               ⟨(some 51), false, .conv (.toInt .u64) (.loc 50), none⟩,
               ⟨(some 52), false, .bin .other .add (.loc 44) (.loc 51), none⟩,
               ⟨(some 53), false, .bin .other .add (.loc 39) (.loc 52), none⟩,
               ⟨(some 10), true, .mv (.loc 53), none⟩]
@[simp] def r18_11 : List HOp := [⟨(some 54), false, .mv (.env 7), none⟩,
               ⟨(some 55), false, .mv (.env 8), none⟩,
               ⟨(some 56), false, .mv (.env 11), none⟩,
               ⟨(some 57), false, .bin .other .add (.loc 55) (.loc 56), none⟩,
               ⟨(some 58), false, .mv (.env 10), none⟩,
               ⟨(some 59), false, .conv (.toInt .u32) (.loc 58), none⟩,
               ⟨(some 60), false, .iaddr 1 (.loc 54) (.loc 57), none⟩,
               ⟨none, false, .store 1 (.loc 60) (.loc 59), none⟩]
@[simp] def r18_12 : List HOp := [⟨(some 61), false, .mv (.env 10), none⟩,
              ⟨(some 62), false, .bin .other .shr (.loc 61) (.val (.tr (.sc (.int .u64 32)))), none⟩,
              ⟨(some 10), true, .mv (.loc 62), none⟩]
@[simp] def r18_13 : List HOp := [⟨(some 63), false, .bin .other .add (.env 34) (.val (.tr (.sc (.int .i64 1)))), none⟩,
            ⟨(some 34), true, .mv (.loc 63), none⟩]
@[simp] def r18_14 : List HOp := [⟨(some 64), false, .mv (.env 7), none⟩,
         ⟨(some 65), false, .mv (.env 8), none⟩,
         ⟨(some 66), false, .mv (.env 6), none⟩,
         ⟨(some 67), false, .len 1 (.loc 66), none⟩,
         ⟨(some 68), false, .bin .other .add (.loc 65) (.loc 67), none⟩,
         ⟨(some 69), false, .mv (.env 10), none⟩,
         ⟨(some 70), false, .conv (.toInt .u32) (.loc 69), none⟩,
         ⟨(some 71), false, .iaddr 1 (.loc 64) (.loc 68), none⟩,
         ⟨none, false, .store 1 (.loc 71) (.loc 70), none⟩]
@[simp] def r18_15 : List HOp := [⟨(some 72), false, .bin .other .add (.env 27) (.val (.tr (.sc (.int .i64 1)))), none⟩,
       ⟨(some 27), true, .mv (.loc 72), none⟩]
@[simp] def r18_16 : List HOp := [⟨(some 73), false, .faddr 0 (.env 2), none⟩,
     ⟨(some 74), false, .load 1 false (.loc 73), none⟩,
     ⟨(some 75), false, .faddr 0 (.env 3), none⟩,
     ⟨(some 76), false, .load 1 false (.loc 75), none⟩,
     ⟨(some 77), false, .bin .bool .neq (.loc 74) (.loc 76), none⟩,
     ⟨(some 78), false, .mv (.env 7), none⟩,
     ⟨(some 79), false, .callf 41 [(.loc 77), (.loc 78)], none⟩,
     ⟨none, false, .store 2 (.env 4) (.loc 79), none⟩]
@[simp] def k18_14 : HCode := .seq (.region r18_11 none) (.region r18_12 none)
@[simp] def k18_13 : HCode := .seq (.region r18_10 none) k18_14
def k18_12 : HCode := .seq (.block 3 (.seq (.region r18_9 none) k18_13)) (.region r18_13 none)
@[simp] def k18_11 : HCode := .seq (.cond (.loc 35) .skip (.exit 2)) k18_12
def k18_10 : HCode := .seq (.region r18_8 none) k18_11
@[simp] def k18_9 : HCode := .block 2 (.loop k18_10)
def k18_15 : HCode := .region r18_14 none
@[simp] def k18_8 : HCode := .seq (.seq (.region r18_7 none) k18_9) k18_15
@[simp] def k18_7 : HCode := .seq (.region r18_6 none) k18_8
def k18_16 : HCode := .region r18_15 none
def k18_6 : HCode := .seq (.block 1 (.seq (.region r18_5 none) k18_7)) k18_16
@[simp] def k18_5 : HCode := .seq (.cond (.loc 28) .skip (.exit 0)) k18_6
def k18_4 : HCode := .seq (.region r18_4 none) k18_5
@[simp] def k18_3 : HCode := .block 0 (.loop k18_4)
def k18_17 : HCode := .seq (.region r18_16 none) .ret
@[simp] def k18_2 : HCode := .seq (.seq (.region r18_3 none) k18_3) k18_17
@[simp] def k18_1 : HCode := .seq (.region r18_2 none) k18_2
@[simp] def k18_0 : HCode := .seq (.region r18_1 (some [ ( 0, [ 2 ] ) , ( 0, [ 13 ] ) , ( 2, [ 14 ] ) , ( 0, [ 3 ] ) , ( 0, [ 16 ] ) , ( 2, [ 17 ] ) , ( 0, [ 15 ] ) , ( 0, [ 18 ] ) ])) k18_1
@[simp] def fn18 : HFn := { nargs := 2, results := [.cell 4 2 true], mode := .shared, code := (.seq (.region r18_0 none) k18_0) }
theorem c18 : cFn Try.prog (Hs 18) .shared 18 = some fn18 := by kernel_rfl
/- sterling/bigint.Add -/
@[simp] def r14_0 : List HOp := [⟨(some 2), true, .box true (.env 0), none⟩,
     ⟨(some 3), true, .box true (.env 1), none⟩,
     ⟨(some 4), true, .alloc [(.sc (.bool false)), (.sc (.slice none 0 0))], none⟩]
@[simp] def r14_1 : List HOp := [⟨(some 6), false, .faddr 0 (.env 2), none⟩,
       ⟨(some 7), false, .load 1 false (.loc 6), none⟩,
       ⟨(some 8), false, .faddr 0 (.env 3), none⟩,
       ⟨(some 9), false, .load 1 false (.loc 8), none⟩,
       ⟨(some 10), false, .bin .bool .eql (.loc 7) (.loc 9), none⟩,
       ⟨(some 5), false, .mv (.loc 10), none⟩]
@[simp] def r14_2 : List HOp := [⟨(some 11), false, .faddr 0 (.env 2), none⟩,
        ⟨(some 12), false, .ldt 1 false (.loc 11), none⟩,
        ⟨(some 13), false, .faddr 1 (.env 2), none⟩,
        ⟨(some 14), false, .ldt 1 false (.loc 13), none⟩,
        ⟨(some 15), false, .faddr 1 (.env 3), none⟩,
        ⟨(some 16), false, .ldt 1 false (.loc 15), none⟩,
        ⟨(some 17), false, .callf 42 [(.loc 14), (.loc 16)], none⟩,
        ⟨(some 18), false, .callf 41 [(.loc 12), (.loc 17)], none⟩,
        ⟨none, false, .store 2 (.env 4) (.loc 18), none⟩]
@[simp] def r14_3 : List HOp := [⟨(some 20), false, .faddr 1 (.env 2), none⟩,
        ⟨(some 21), false, .load 1 false (.loc 20), none⟩,
        ⟨(some 22), false, .faddr 1 (.env 3), none⟩,
        ⟨(some 23), false, .load 1 false (.loc 22), none⟩,
        ⟨(some 24), false, .callf 43 [(.loc 21), (.loc 23)], none⟩,
        ⟨(some 25), false, .bin .other .geq (.loc 24) (.val (.tr (.sc (.int .i64 0)))), none⟩,
        ⟨(some 19), false, .mv (.loc 25), none⟩]
@[simp] def r14_4 : List HOp := [⟨(some 26), false, .faddr 0 (.env 2), none⟩,
         ⟨(some 27), false, .ldt 1 false (.loc 26), none⟩,
         ⟨(some 28), false, .faddr 1 (.env 2), none⟩,
         ⟨(some 29), false, .ldt 1 false (.loc 28), none⟩,
         ⟨(some 30), false, .faddr 1 (.env 3), none⟩,
         ⟨(some 31), false, .ldt 1 false (.loc 30), none⟩,
         ⟨(some 32), false, .callf 44 [(.loc 29), (.loc 31)], none⟩,
         ⟨(some 33), false, .callf 41 [(.loc 27), (.loc 32)], none⟩,
         ⟨none, false, .store 2 (.env 4) (.loc 33), none⟩]
@[simp] def r14_5 : List HOp := [⟨(some 34), false, .faddr 0 (.env 3), none⟩,
     ⟨(some 35), false, .ldt 1 false (.loc 34), none⟩,
     ⟨(some 36), false, .faddr 1 (.env 3), none⟩,
     ⟨(some 37), false, .ldt 1 false (.loc 36), none⟩,
     ⟨(some 38), false, .faddr 1 (.env 2), none⟩,
     ⟨(some 39), false, .ldt 1 false (.loc 38), none⟩,
     ⟨(some 40), false, .callf 44 [(.loc 37), (.loc 39)], none⟩,
     ⟨(some 41), false, .callf 41 [(.loc 35), (.loc 40)], none⟩,
     ⟨none, false, .store 2 (.env 4) (.loc 41), none⟩]
@[simp] def k14_2 : HCode := .seq (.region r14_2 (some [ ( 0, [ 2 ] ) , ( 0, [ 11 ] ) , ( 0, [ 2 ] ) , ( 0, [ 13 ] ) , ( 0, [ 3 ] ) , ( 0, [ 15 ] ) , ( 2, [ 14, 16 ] ) , ( 2, [ 12, 17 ] ) , ( 2, [ 4, 18 ] ) ])) .ret
@[simp] def k14_5 : HCode := .seq (.region r14_4 (some [ ( 0, [ 2 ] ) , ( 0, [ 26 ] ) , ( 0, [ 2 ] ) , ( 0, [ 28 ] ) , ( 0, [ 3 ] ) , ( 0, [ 30 ] ) , ( 2, [ 29, 31 ] ) , ( 2, [ 27, 32 ] ) , ( 2, [ 4, 33 ] ) ])) .ret
@[simp] def k14_4 : HCode := .cond (.loc 19) k14_5 .skip
@[simp] def k14_3 : HCode := .seq (.region r14_3 none) k14_4
@[simp] def k14_1 : HCode := .cond (.loc 5) k14_2 k14_3
def k14_6 : HCode := .seq (.region r14_5 (some [ ( 0, [ 3 ] ) , ( 0, [ 34 ] ) , ( 0, [ 3 ] ) , ( 0, [ 36 ] ) , ( 0, [ 2 ] ) , ( 0, [ 38 ] ) , ( 2, [ 37, 39 ] ) , ( 2, [ 35, 40 ] ) , ( 2, [ 4, 41 ] ) ])) .ret
@[simp] def k14_0 : HCode := .seq (.block 0 (.seq (.region r14_1 none) k14_1)) k14_6
@[simp] def fn14 : HFn := { nargs := 2, results := [.cell 4 2 true], mode := .iso, code := (.seq (.region r14_0 none) k14_0) }
theorem c14 : cFn Try.prog (Hs 14) .iso 14 = some fn14 := by kernel_rfl
/- sterling/bigint.plus -/
@[simp] def r42_0 : List HOp := [⟨(some 4), true, .mv (.val (.tr (.sc (.slice none 0 0)))), none⟩]
@[simp] def r42_1 : List HOp := [⟨(some 9), false, .mv (.env 0), none⟩,
      ⟨(some 10), false, .len 1 (.loc 9), none⟩,
      ⟨(some 11), false, .mv (.env 1), none⟩,
      ⟨(some 12), false, .len 1 (.loc 11), none⟩,
      ⟨(some 13), false, .bin .other .lss (.loc 10) (.loc 12), none⟩]
@[simp] def r42_2 : List HOp := [⟨(some 14), false, .mv (.env 1), none⟩,
      ⟨(some 15), false, .mv (.env 0), none⟩,
      ⟨(some 0), true, .mv (.loc 14), none⟩,
      ⟨(some 1), true, .mv (.loc 15), none⟩]
@[simp] def r42_3 : List HOp := [⟨(some 16), false, .mv (.env 0), none⟩,
     ⟨(some 17), false, .len 1 (.loc 16), none⟩,
     ⟨(some 18), false, .bin .other .add (.loc 17) (.val (.tr (.sc (.int .i64 1)))), none⟩,
     ⟨(some 19), false, .mkslice [(.sc (.int .u32 0))] 4 (.loc 18) (.loc 18), none⟩,
     ⟨(some 5), true, .mv (.loc 19), none⟩]
@[simp] def r42_4 : List HOp := [⟨(some 6), true, .mv (.val (.tr (.sc (.int .u64 0)))), none⟩]
@[simp] def r42_5 : List HOp := [⟨(some 20), true, .mv (.env 0), none⟩,
      ⟨(some 21), true, .len 1 (.env 20), none⟩,
      ⟨(some 22), true, .mv (.val (.tr (.sc (.int .i64 0)))), none⟩]
@[simp] def r42_6 : List HOp := [⟨(some 23), false, .bin .other .lss (.env 22) (.env 21), none⟩]
@[simp] def r42_7 : List HOp := [⟨(some 24), false, .mv (.env 22), none⟩,
          ⟨(some 25), false, .iaddr 1 (.env 20) (.env 22), none⟩,
          ⟨(some 26), false, .load 1 false (.loc 25), none⟩,
          ⟨(some 7), true, .mv (.loc 24), none⟩,
          ⟨(some 8), true, .mv (.loc 26), none⟩]
@[simp] def r42_8 : List HOp := [⟨(some 27), false, .mv (.env 6), none⟩,
          ⟨(some 28), false, .mv (.env 8), none⟩,
          ⟨(some 29), false, .conv (.toInt .u64) (.loc 28), none⟩,
          ⟨(some 30), false, .bin .other .add (.loc 27) (.loc 29), none⟩,
          ⟨(some 6), true, .mv (.loc 30), none⟩]
@[simp] def r42_9 : List HOp := [⟨(some 31), false, .mv (.env 7), none⟩,
           ⟨(some 32), false, .mv (.env 1), none⟩,
           ⟨(some 33), false, .len 1 (.loc 32), none⟩,
           ⟨(some 34), false, .bin .other .lss (.loc 31) (.loc 33), none⟩]
@[simp] def r42_10 : List HOp := [⟨(some 35), false, .mv (.env 6), none⟩,
           ⟨(some 36), false, .mv (.env 1), none⟩,
           ⟨(some 37), false, .mv (.env 7), none⟩,
           ⟨(some 38), false, .iaddr 1 (.loc 36) (.loc 37), none⟩,
           ⟨(some 39), false, .load 1 false (.loc 38), none⟩,
           ⟨(some 40), false, .conv (.toInt .u64) (.loc 39), none⟩,
           ⟨(some 41), false, .bin .other .add (.loc 35) (.loc 40), none⟩,
           ⟨(some 6), true, .mv (.loc 41), none⟩]
@[simp] def r42_11 : List HOp := [⟨(some 42), false, .mv (.env 5), none⟩,
          ⟨(some 43), false, .mv (.env 7), none⟩,
          ⟨(some 44), false, .mv (.env 6), none⟩,
          ⟨(some 45), false, .conv (.toInt .u32) (.loc 44), none⟩,
          ⟨(some 46), false, .iaddr 1 (.loc 42) (.loc 43), none⟩,
          ⟨none, false, .store 1 (.loc 46) (.loc 45), none⟩]
@[simp] def r42_12 : List HOp := [⟨(some 47), false, .mv (.env 6), none⟩,
         ⟨(some 48), false, .bin .other .shr (.loc 47) (.val (.tr (.sc (.int .u64 32)))), none⟩,
         ⟨(some 6), true, .mv (.loc 48), none⟩]
@[simp] def r42_13 : List HOp := [⟨(some 49), false, .bin .other .add (.env 22) (.val (.tr (.sc (.int .i64 1)))), none⟩,
       ⟨(some 22), true, .mv (.loc 49), none⟩]
@[simp] def r42_14 : List HOp := [⟨(some 50), false, .mv (.env 5), none⟩,
     ⟨(some 51), false, .mv (.env 0), none⟩,
     ⟨(some 52), false, .len 1 (.loc 51), none⟩,
     ⟨(some 53), false, .mv (.env 6), none⟩,
     ⟨(some 54), false, .conv (.toInt .u32) (.loc 53), none⟩,
     ⟨(some 55), false, .iaddr 1 (.loc 50) (.loc 52), none⟩,
     ⟨none, false, .store 1 (.loc 55) (.loc 54), none⟩]
@[simp] def r42_15 : List HOp := [⟨(some 56), false, .mv (.env 5), none⟩,
     ⟨(some 4), true, .mv (.loc 56), none⟩]
@[simp] def k42_1 : HCode := .cond (.loc 13) (.region r42_2 none) .skip
@[simp] def k42_11 : HCode := .cond (.loc 34) (.region r42_10 none) .skip
def k42_12 : HCode := .seq (.region r42_11 none) (.region r42_12 none)
@[simp] def k42_10 : HCode := .seq (.seq (.region r42_9 none) k42_11) k42_12
@[simp] def k42_9 : HCode := .seq (.region r42_8 none) k42_10
def k42_13 : HCode := .region r42_13 none
def k42_8 : HCode := .seq (.block 1 (.seq (.region r42_7 none) k42_9)) k42_13
@[simp] def k42_7 : HCode := .seq (.cond (.loc 23) .skip (.exit 0)) k42_8
def k42_6 : HCode := .seq (.region r42_6 none) k42_7
@[simp] def k42_5 : HCode := .block 0 (.loop k42_6)
@[simp] def k42_15 : HCode := .seq (.region r42_15 none) .ret
def k42_14 : HCode := .seq (.region r42_14 none) k42_15
@[simp] def k42_4 : HCode := .seq (.seq (.region r42_5 none) k42_5) k42_14
@[simp] def k42_3 : HCode := .seq (.region r42_4 none) k42_4
def k42_2 : HCode := .seq (.region r42_3 none) k42_3
@[simp] def k42_0 : HCode := .seq (.seq (.region r42_1 none) k42_1) k42_2
@[simp] def fn42 : HFn := { nargs := 2, results := [.tmp 4], mode := .iso, code := (.seq (.region r42_0 none) k42_0) }
theorem c42 : cFn Try.prog (Hs 42) .iso 42 = some fn42 := by kernel_rfl
/- sterling/bigint.minus -/
@[simp] def r44_0 : List HOp := [⟨(some 4), true, .mv (.val (.tr (.sc (.slice none 0 0)))), none⟩]
@[simp] def r44_1 : List HOp := [⟨(some 9), false, .mv (.env 0), none⟩,
     ⟨(some 10), false, .callf 48 [(.loc 9)], none⟩,
     ⟨(some 11), false, .mv (.env 1), none⟩,
     ⟨(some 12), false, .callf 48 [(.loc 11)], none⟩,
     ⟨(some 0), true, .mv (.loc 10), none⟩,
     ⟨(some 1), true, .mv (.loc 12), none⟩]
@[simp] def r44_2 : List HOp := [⟨(some 13), false, .mv (.env 0), none⟩,
     ⟨(some 14), false, .len 1 (.loc 13), none⟩,
     ⟨(some 15), false, .mkslice [(.sc (.int .u32 0))] 4 (.loc 14) (.loc 14), none⟩,
     ⟨(some 5), true, .mv (.loc 15), none⟩]
@[simp] def r44_3 : List HOp := [⟨(some 6), true, .mv (.val (.tr (.sc (.int .i64 0)))), none⟩]
@[simp] def r44_4 : List HOp := [⟨(some 16), true, .mv (.env 0), none⟩,
      ⟨(some 17), true, .len 1 (.env 16), none⟩,
      ⟨(some 18), true, .mv (.val (.tr (.sc (.int .i64 0)))), none⟩]
@[simp] def r44_5 : List HOp := [⟨(some 19), false, .bin .other .lss (.env 18) (.env 17), none⟩]
@[simp] def r44_6 : List HOp := [⟨(some 20), false, .mv (.env 18), none⟩,
          ⟨(some 21), false, .iaddr 1 (.env 16) (.env 18), none⟩,
          ⟨(some 22), false, .load 1 false (.loc 21), none⟩,
          ⟨(some 7), true, .mv (.loc 20), none⟩,
          ⟨(some 8), true, .mv (.loc 22), none⟩]
@[simp] def r44_7 : List HOp := [⟨(some 23), false, .mv (.env 6), none⟩,
          ⟨(some 24), false, .mv (.env 8), none⟩,
          ⟨(some 25), false, .conv (.toInt .i64) (.loc 24), none⟩,
          ⟨(some 26), false, .bin .other .add (.loc 23) (.loc 25), none⟩,
          ⟨(some 6), true, .mv (.loc 26), none⟩]
@[simp] def r44_8 : List HOp := [⟨(some 27), false, .mv (.env 7), none⟩,
           ⟨(some 28), false, .mv (.env 1), none⟩,
           ⟨(some 29), false, .len 1 (.loc 28), none⟩,
           ⟨(some 30), false, .bin .other .lss (.loc 27) (.loc 29), none⟩]
@[simp] def r44_9 : List HOp := [⟨(some 31), false, .mv (.env 6), none⟩,
           ⟨(some 32), false, .mv (.env 1), none⟩,
           ⟨(some 33), false, .mv (.env 7), none⟩,
           ⟨(some 34), false, .iaddr 1 (.loc 32) (.loc 33), none⟩,
           ⟨(some 35), false, .load 1 false (.loc 34), none⟩,
           ⟨(some 36), false, .conv (.toInt .i64) (.loc 35), none⟩,
           ⟨(some 37), false, .bin .other .sub (.loc 31) (.loc 36), none⟩,
           ⟨(some 6), true, .mv (.loc 37), none⟩]
@[simp] def r44_10 : List HOp := [⟨(some 38), false, .mv (.env 5), none⟩,
          ⟨(some 39), false, .mv (.env 7), none⟩,
          ⟨(some 40), false, .mv (.env 6), none⟩,
          ⟨(some 41), false, .conv (.toInt .u32) (.loc 40), none⟩,
          ⟨(some 42), false, .iaddr 1 (.loc 38) (.loc 39), none⟩,
          ⟨none, false, .store 1 (.loc 42) (.loc 41), none⟩]
@[simp] def r44_11 : List HOp := [⟨(some 43), false, .mv (.env 6), none⟩,
         ⟨(some 44), false, .bin .other .shr (.loc 43) (.val (.tr (.sc (.int .u64 32)))), none⟩,
         ⟨(some 6), true, .mv (.loc 44), none⟩]
@[simp] def r44_12 : List HOp := [⟨(some 45), false, .bin .other .add (.env 18) (.val (.tr (.sc (.int .i64 1)))), none⟩,
       ⟨(some 18), true, .mv (.loc 45), none⟩]
@[simp] def r44_13 : List HOp := [⟨(some 46), false, .mv (.env 5), none⟩,
     ⟨(some 4), true, .mv (.loc 46), none⟩]
@[simp] def k44_10 : HCode := .cond (.loc 30) (.region r44_9 none) .skip
def k44_11 : HCode := .seq (.region r44_10 none) (.region r44_11 none)
@[simp] def k44_9 : HCode := .seq (.seq (.region r44_8 none) k44_10) k44_11
@[simp] def k44_8 : HCode := .seq (.region r44_7 none) k44_9
def k44_12 : HCode := .region r44_12 none
def k44_7 : HCode := .seq (.block 1 (.seq (.region r44_6 none) k44_8)) k44_12
@[simp] def k44_6 : HCode := .seq (.cond (.loc 19) .skip (.exit 0)) k44_7
def k44_5 : HCode := .seq (.region r44_5 none) k44_6
@[simp] def k44_4 : HCode := .block 0 (.loop k44_5)
def k44_13 : HCode := .seq (.region r44_13 none) .ret
@[simp] def k44_3 : HCode := .seq (.seq (.region r44_4 none) k44_4) k44_13
@[simp] def k44_2 : HCode := .seq (.region r44_3 none) k44_3
@[simp] def k44_1 : HCode := .seq (.region r44_2 none) k44_2
@[simp] def k44_0 : HCode := .seq (.region r44_1 none) k44_1
@[simp] def fn44 : HFn := { nargs := 2, results := [.tmp 4], mode := .iso, code := (.seq (.region r44_0 none) k44_0) }
theorem c44 : cFn Try.prog (Hs 44) .iso 44 = some fn44 := by kernel_rfl
/- sterling/bigint.Cmp -/
@[simp] def r22_0 : List HOp := [⟨(some 2), true, .box true (.env 0), none⟩,
     ⟨(some 3), true, .box true (.env 1), none⟩,
     ⟨(some 4), true, .mv (.val (.tr (.sc (.int .i64 0)))), none⟩]
@[simp] def r22_1 : List HOp := [⟨(some 6), false, .load 2 true (.env 2), none⟩,
       ⟨(some 7), false, .callf 50 [(.loc 6)], none⟩,
       ⟨(some 8), false, .mv (.loc 7), none⟩,
       ⟨(some 9), false, .load 2 true (.env 3), some ((.loc 8), true)⟩,
       ⟨(some 10), false, .callf 50 [(.loc 9)], some ((.loc 8), true)⟩,
       ⟨(some 11), false, .pick (.loc 8) (.loc 10) (.val (.tr (.sc (.bool false)))), none⟩,
       ⟨(some 5), false, .mv (.loc 11), none⟩]
@[simp] def r22_2 : List HOp := [⟨(some 12), false, .faddr 1 (.env 3), none⟩,
        ⟨(some 13), false, .load 1 false (.loc 12), none⟩,
        ⟨(some 14), false, .faddr 1 (.env 2), none⟩,
        ⟨(some 15), false, .load 1 false (.loc 14), none⟩,
        ⟨(some 16), false, .callf 43 [(.loc 13), (.loc 15)], none⟩,
        ⟨(some 4), true, .mv (.loc 16), none⟩]
@[simp] def r22_3 : List HOp := [⟨(some 18), false, .load 2 true (.env 2), none⟩,
        ⟨(some 19), false, .callf 50 [(.loc 18)], none⟩,
        ⟨(some 17), false, .mv (.loc 19), none⟩]
@[simp] def r22_4 : List HOp := [⟨(some 4), true, .mv (.val (.tr (.sc (.int .i64 (-1))))), none⟩]
@[simp] def r22_5 : List HOp := [⟨(some 21), false, .load 2 true (.env 3), none⟩,
         ⟨(some 22), false, .callf 50 [(.loc 21)], none⟩,
         ⟨(some 20), false, .mv (.loc 22), none⟩]
@[simp] def r22_6 : List HOp := [⟨(some 4), true, .mv (.val (.tr (.sc (.int .i64 1)))), none⟩]
@[simp] def r22_7 : List HOp := [⟨(some 23), false, .faddr 1 (.env 2), none⟩,
     ⟨(some 24), false, .load 1 false (.loc 23), none⟩,
     ⟨(some 25), false, .faddr 1 (.env 3), none⟩,
     ⟨(some 26), false, .load 1 false (.loc 25), none⟩,
     ⟨(some 27), false, .callf 43 [(.loc 24), (.loc 26)], none⟩,
     ⟨(some 4), true, .mv (.loc 27), none⟩]
@[simp] def k22_2 : HCode := .seq (.region r22_2 none) .ret
@[simp] def k22_5 : HCode := .seq (.region r22_4 none) .ret
@[simp] def k22_8 : HCode := .seq (.region r22_6 none) .ret
@[simp] def k22_7 : HCode := .cond (.loc 20) k22_8 .skip
@[simp] def k22_6 : HCode := .seq (.region r22_5 none) k22_7
@[simp] def k22_4 : HCode := .cond (.loc 17) k22_5 k22_6
@[simp] def k22_3 : HCode := .seq (.region r22_3 none) k22_4
@[simp] def k22_1 : HCode := .cond (.loc 5) k22_2 k22_3
def k22_9 : HCode := .seq (.region r22_7 none) .ret
@[simp] def k22_0 : HCode := .seq (.block 0 (.seq (.region r22_1 none) k22_1)) k22_9
@[simp] def fn22 : HFn := { nargs := 2, results := [.tmp 4], mode := .iso, code := (.seq (.region r22_0 none) k22_0) }
theorem c22 : cFn Try.prog (Hs 22) .iso 22 = some fn22 := by kernel_rfl
/- sterling/bigint.Bits -/
@[simp] def r24_0 : List HOp := [⟨(some 1), true, .box true (.env 0), none⟩,
     ⟨(some 2), true, .mv (.val (.tr (.sc (.int .i64 0)))), none⟩]
@[simp] def r24_1 : List HOp := [⟨(some 4), false, .faddr 1 (.env 1), none⟩,
     ⟨(some 5), false, .load 1 false (.loc 4), none⟩,
     ⟨(some 6), false, .callf 48 [(.loc 5)], none⟩,
     ⟨(some 3), true, .mv (.loc 6), none⟩]
@[simp] def r24_2 : List HOp := [⟨(some 7), false, .mv (.env 3), none⟩,
      ⟨(some 8), false, .len 1 (.loc 7), none⟩,
      ⟨(some 9), false, .bin .other .eql (.loc 8) (.val (.tr (.sc (.int .i64 0)))), none⟩]
@[simp] def r24_3 : List HOp := [⟨(some 2), true, .mv (.val (.tr (.sc (.int .i64 0)))), none⟩]
@[simp] def r24_4 : List HOp := [⟨(some 10), false, .mv (.env 3), none⟩,
     ⟨(some 11), false, .len 1 (.loc 10), none⟩,
     ⟨(some 12), false, .bin .other .sub (.loc 11) (.val (.tr (.sc (.int .i64 1)))), none⟩,
     ⟨(some 13), false, .bin .other .mul (.val (.tr (.sc (.int .i64 32)))) (.loc 12), none⟩,
     ⟨(some 14), false, .mv (.env 3), none⟩,
     ⟨(some 15), false, .mv (.env 3), none⟩,
     ⟨(some 16), false, .len 1 (.loc 15), none⟩,
     ⟨(some 17), false, .bin .other .sub (.loc 16) (.val (.tr (.sc (.int .i64 1)))), none⟩,
     ⟨(some 18), false, .iaddr 1 (.loc 14) (.loc 17), none⟩,
     ⟨(some 19), false, .load 1 false (.loc 18), none⟩,
     ⟨(some 20), false, .callf 51 [(.loc 19)], none⟩,
     ⟨(some 21), false, .bin .other .add (.loc 13) (.loc 20), none⟩,
     ⟨(some 2), true, .mv (.loc 21), none⟩]
@[simp] def k24_3 : HCode := .seq (.region r24_3 none) .ret
@[simp] def k24_2 : HCode := .cond (.loc 9) k24_3 .skip
def k24_4 : HCode := .seq (.region r24_4 none) .ret
@[simp] def k24_1 : HCode := .seq (.seq (.region r24_2 none) k24_2) k24_4
@[simp] def k24_0 : HCode := .seq (.region r24_1 none) k24_1
@[simp] def fn24 : HFn := { nargs := 1, results := [.tmp 2], mode := .iso, code := (.seq (.region r24_0 none) k24_0) }
theorem c24 : cFn Try.prog (Hs 24) .iso 24 = some fn24 := by kernel_rfl
/- sterling/bigint.Sub -/
@[simp] def r16_0 : List HOp := [⟨(some 2), true, .box true (.env 0), none⟩,
     ⟨(some 3), true, .box true (.env 1), none⟩,
     ⟨(some 4), true, .alloc [(.sc (.bool false)), (.sc (.slice none 0 0))], none⟩]
@[simp] def r16_1 : List HOp := [⟨(some 5), false, .load 2 true (.env 2), none⟩,
     ⟨(some 6), false, .faddr 0 (.env 3), none⟩,
     ⟨(some 7), false, .load 1 false (.loc 6), none⟩,
     ⟨(some 8), false, .un .not (.loc 7), none⟩,
     ⟨(some 9), false, .faddr 1 (.env 3), none⟩,
     ⟨(some 10), false, .load 1 false (.loc 9), none⟩,
     ⟨(some 11), false, .build [(.sc (.bool false)), (.sc (.slice none 0 0))] [(0, 1, (.loc 8)), (1, 1, (.loc 10))], none⟩,
     ⟨(some 12), false, .callf 14 [(.loc 5), (.loc 11)], none⟩,
     ⟨none, false, .store 2 (.env 4) (.loc 12), none⟩]
@[simp] def k16_0 : HCode := .seq (.region r16_1 none) .ret
@[simp] def fn16 : HFn := { nargs := 2, results := [.cell 4 2 true], mode := .iso, code := (.seq (.region r16_0 none) k16_0) }
theorem c16 : cFn Try.prog (Hs 16) .iso 16 = some fn16 := by kernel_rfl
/- sterling/bigint.Neg -/
@[simp] def r20_0 : List HOp := [⟨(some 1), true, .box true (.env 0), none⟩,
     ⟨(some 2), true, .alloc [(.sc (.bool false)), (.sc (.slice none 0 0))], none⟩]
@[simp] def r20_1 : List HOp := [⟨(some 3), false, .faddr 0 (.env 1), none⟩,
     ⟨(some 4), false, .load 1 false (.loc 3), none⟩,
     ⟨(some 5), false, .un .not (.loc 4), none⟩,
     ⟨(some 6), false, .faddr 1 (.env 1), none⟩,
     ⟨(some 7), false, .load 1 false (.loc 6), none⟩,
     ⟨(some 8), false, .callf 41 [(.loc 5), (.loc 7)], none⟩,
     ⟨none, false, .store 2 (.env 2) (.loc 8), none⟩]
@[simp] def k20_0 : HCode := .seq (.region r20_1 none) .ret
@[simp] def fn20 : HFn := { nargs := 1, results := [.cell 2 2 true], mode := .iso, code := (.seq (.region r20_0 none) k20_0) }
theorem c20 : cFn Try.prog (Hs 20) .iso 20 = some fn20 := by kernel_rfl
/- sterling/sterlinglaw1.Cut -/
@[simp] def r11_0 : List HOp := [⟨(some 2), true, .box false (.env 0), none⟩,
     ⟨(some 4), true, .alloc [(.sc (.bool false)), (.sc (.slice none 0 0))], none⟩]
@[simp] def r11_1 : List HOp := [⟨(some 5), false, .faddr 1 (.env 2), none⟩,
      ⟨(some 6), false, .load 1 false (.loc 5), none⟩,
      ⟨(some 7), false, .len 1 (.loc 6), none⟩,
      ⟨(some 8), false, .mv (.env 1), none⟩,
      ⟨(some 9), false, .bin .other .gtr (.loc 7) (.loc 8), none⟩]
@[simp] def r11_2 : List HOp := [⟨(some 10), false, .faddr 1 (.env 2), none⟩,
      ⟨(some 11), false, .load 1 false (.loc 10), none⟩,
      ⟨(some 12), false, .mv (.env 1), none⟩,
      ⟨(some 13), false, .slice 1 (.loc 11) none (some (.loc 12)) none, none⟩,
      ⟨(some 14), false, .faddr 1 (.env 2), none⟩,
      ⟨none, false, .store 1 (.loc 14) (.loc 13), none⟩]
@[simp] def r11_3 : List HOp := [⟨(some 15), false, .load 2 true (.env 2), none⟩,
     ⟨none, false, .store 2 (.env 4) (.loc 15), none⟩]
@[simp] def k11_1 : HCode := .cond (.loc 9) (.region r11_2 none) .skip
def k11_2 : HCode := .seq (.region r11_3 none) .ret
@[simp] def k11_0 : HCode := .seq (.seq (.region r11_1 none) k11_1) k11_2
@[simp] def fn11 : HFn := { nargs := 2, results := [.cell 4 2 true], mode := .iso, code := (.seq (.region r11_0 none) k11_0) }
theorem c11 : cFn Try.prog (Hs 11) .iso 11 = some fn11 := by kernel_rfl
noncomputable def T : FTab := fun f => (bif2 (Nat.ble f 42) (bif2 (Nat.ble f 22) (bif2 (Nat.ble f 14) (bif2 (Nat.ble f 10) (bif2 (Nat.ble f 6) (bif2 (Nat.beq f 6) (some fn6) none) (bif2 (Nat.beq f 10) (some fn10) none)) (bif2 (Nat.ble f 11) (bif2 (Nat.beq f 11) (some fn11) none) (bif2 (Nat.beq f 14) (some fn14) none))) (bif2 (Nat.ble f 18) (bif2 (Nat.ble f 16) (bif2 (Nat.beq f 16) (some fn16) none) (bif2 (Nat.beq f 18) (some fn18) none)) (bif2 (Nat.ble f 20) (bif2 (Nat.beq f 20) (some fn20) none) (bif2 (Nat.beq f 22) (some fn22) none)))) (bif2 (Nat.ble f 30) (bif2 (Nat.ble f 26) (bif2 (Nat.ble f 24) (bif2 (Nat.beq f 24) (some fn24) none) (bif2 (Nat.beq f 26) (some fn26) none)) (bif2 (Nat.ble f 28) (bif2 (Nat.beq f 28) (some fn28) none) (bif2 (Nat.beq f 30) (some fn30) none))) (bif2 (Nat.ble f 34) (bif2 (Nat.ble f 33) (bif2 (Nat.beq f 33) (some fn33) none) (bif2 (Nat.beq f 34) (some fn34) none)) (bif2 (Nat.ble f 41) (bif2 (Nat.beq f 41) (some fn41) none) (bif2 (Nat.beq f 42) (some fn42) none))))) (bif2 (Nat.ble f 55) (bif2 (Nat.ble f 50) (bif2 (Nat.ble f 44) (bif2 (Nat.ble f 43) (bif2 (Nat.beq f 43) (some fn43) none) (bif2 (Nat.beq f 44) (some fn44) none)) (bif2 (Nat.ble f 48) (bif2 (Nat.beq f 48) (some fn48) none) (bif2 (Nat.beq f 50) (some fn50) none))) (bif2 (Nat.ble f 53) (bif2 (Nat.ble f 51) (bif2 (Nat.beq f 51) (some fn51) none) (bif2 (Nat.beq f 53) (some fn53) none)) (bif2 (Nat.ble f 54) (bif2 (Nat.beq f 54) (some fn54) none) (bif2 (Nat.beq f 55) (some fn55) none)))) (bif2 (Nat.ble f 62) (bif2 (Nat.ble f 60) (bif2 (Nat.ble f 57) (bif2 (Nat.beq f 57) (some fn57) none) (bif2 (Nat.beq f 60) (some fn60) none)) (bif2 (Nat.ble f 61) (bif2 (Nat.beq f 61) (some fn61) none) (bif2 (Nat.beq f 62) (some fn62) none))) (bif2 (Nat.ble f 66) (bif2 (Nat.ble f 65) (bif2 (Nat.beq f 65) (some fn65) none) (bif2 (Nat.beq f 66) (some fn66) none)) (bif2 (Nat.ble f 67) (bif2 (Nat.beq f 67) (some fn67) none) (bif2 (Nat.beq f 68) (some fn68) none))))))
theorem T6 : T 6 = some fn6 := rfl
theorem T10 : T 10 = some fn10 := rfl
theorem T11 : T 11 = some fn11 := rfl
theorem T14 : T 14 = some fn14 := rfl
theorem T16 : T 16 = some fn16 := rfl
theorem T18 : T 18 = some fn18 := rfl
theorem T20 : T 20 = some fn20 := rfl
theorem T22 : T 22 = some fn22 := rfl
theorem T24 : T 24 = some fn24 := rfl
theorem T26 : T 26 = some fn26 := rfl
theorem T28 : T 28 = some fn28 := rfl
theorem T30 : T 30 = some fn30 := rfl
theorem T33 : T 33 = some fn33 := rfl
theorem T34 : T 34 = some fn34 := rfl
theorem T41 : T 41 = some fn41 := rfl
theorem T42 : T 42 = some fn42 := rfl
theorem T43 : T 43 = some fn43 := rfl
theorem T44 : T 44 = some fn44 := rfl
theorem T48 : T 48 = some fn48 := rfl
theorem T50 : T 50 = some fn50 := rfl
theorem T51 : T 51 = some fn51 := rfl
theorem T53 : T 53 = some fn53 := rfl
theorem T54 : T 54 = some fn54 := rfl
theorem T55 : T 55 = some fn55 := rfl
theorem T57 : T 57 = some fn57 := rfl
theorem T60 : T 60 = some fn60 := rfl
theorem T61 : T 61 = some fn61 := rfl
theorem T62 : T 62 = some fn62 := rfl
theorem T65 : T 65 = some fn65 := rfl
theorem T66 : T 66 = some fn66 := rfl
theorem T67 : T 67 = some fn67 := rfl
theorem T68 : T 68 = some fn68 := rfl
theorem tabOk {Gd : Ground} (hg : GroundOk Gd) (he : ∀ f n k, Te f = some (n, k) → ExtOk Gd Try.prog f k) : TabOk Gd Try.prog T := by
  refine ⟨hg, fun f hfn h => ?_⟩
  unfold T at h
  rcases bif2_or h with ⟨_, h⟩ | ⟨_, h⟩
  · rcases bif2_or h with ⟨_, h⟩ | ⟨_, h⟩
    · rcases bif2_or h with ⟨_, h⟩ | ⟨_, h⟩
      · rcases bif2_or h with ⟨_, h⟩ | ⟨_, h⟩
        · rcases bif2_or h with ⟨_, h⟩ | ⟨_, h⟩
          · obtain ⟨hb, h⟩ := bif2_some h
            cases h
            rw [Nat.eq_of_beq_eq_true hb]
            exact .inl ⟨fun k hk => (by cases hk), Hs 6, c6⟩
          · obtain ⟨hb, h⟩ := bif2_some h
            cases h
            rw [Nat.eq_of_beq_eq_true hb]
            exact .inl ⟨fun k hk => (by cases hk), Hs 10, c10⟩
        · rcases bif2_or h with ⟨_, h⟩ | ⟨_, h⟩
          · obtain ⟨hb, h⟩ := bif2_some h
            cases h
            rw [Nat.eq_of_beq_eq_true hb]
            exact .inl ⟨fun k hk => (by cases hk), Hs 11, c11⟩
          · obtain ⟨hb, h⟩ := bif2_some h
            cases h
            rw [Nat.eq_of_beq_eq_true hb]
            exact .inl ⟨fun k hk => (by cases hk), Hs 14, c14⟩
      · rcases bif2_or h with ⟨_, h⟩ | ⟨_, h⟩
        · rcases bif2_or h with ⟨_, h⟩ | ⟨_, h⟩
          · obtain ⟨hb, h⟩ := bif2_some h
            cases h
            rw [Nat.eq_of_beq_eq_true hb]
            exact .inl ⟨fun k hk => (by cases hk), Hs 16, c16⟩
          · obtain ⟨hb, h⟩ := bif2_some h
            cases h
            rw [Nat.eq_of_beq_eq_true hb]
            exact .inl ⟨fun k hk => (by cases hk), Hs 18, c18⟩
        · rcases bif2_or h with ⟨_, h⟩ | ⟨_, h⟩
          · obtain ⟨hb, h⟩ := bif2_some h
            cases h
            rw [Nat.eq_of_beq_eq_true hb]
            exact .inl ⟨fun k hk => (by cases hk), Hs 20, c20⟩
          · obtain ⟨hb, h⟩ := bif2_some h
            cases h
            rw [Nat.eq_of_beq_eq_true hb]
            exact .inl ⟨fun k hk => (by cases hk), Hs 22, c22⟩
    · rcases bif2_or h with ⟨_, h⟩ | ⟨_, h⟩
      · rcases bif2_or h with ⟨_, h⟩ | ⟨_, h⟩
        · rcases bif2_or h with ⟨_, h⟩ | ⟨_, h⟩
          · obtain ⟨hb, h⟩ := bif2_some h
            cases h
            rw [Nat.eq_of_beq_eq_true hb]
            exact .inl ⟨fun k hk => (by cases hk), Hs 24, c24⟩
          · obtain ⟨hb, h⟩ := bif2_some h
            cases h
            rw [Nat.eq_of_beq_eq_true hb]
            exact .inl ⟨fun k hk => (by cases hk), Hs 26, c26⟩
        · rcases bif2_or h with ⟨_, h⟩ | ⟨_, h⟩
          · obtain ⟨hb, h⟩ := bif2_some h
            cases h
            rw [Nat.eq_of_beq_eq_true hb]
            exact .inl ⟨fun k hk => (by cases hk), Hs 28, c28⟩
          · obtain ⟨hb, h⟩ := bif2_some h
            cases h
            rw [Nat.eq_of_beq_eq_true hb]
            exact .inl ⟨fun k hk => (by cases hk), Hs 30, c30⟩
      · rcases bif2_or h with ⟨_, h⟩ | ⟨_, h⟩
        · rcases bif2_or h with ⟨_, h⟩ | ⟨_, h⟩
          · obtain ⟨hb, h⟩ := bif2_some h
            cases h
            rw [Nat.eq_of_beq_eq_true hb]
            exact .inl ⟨fun k hk => (by cases hk), Hs 33, c33⟩
          · obtain ⟨hb, h⟩ := bif2_some h
            cases h
            rw [Nat.eq_of_beq_eq_true hb]
            exact .inl ⟨fun k hk => (by cases hk), Hs 34, c34⟩
        · rcases bif2_or h with ⟨_, h⟩ | ⟨_, h⟩
          · obtain ⟨hb, h⟩ := bif2_some h
            cases h
            rw [Nat.eq_of_beq_eq_true hb]
            exact .inl ⟨fun k hk => (by cases hk), Hs 41, c41⟩
          · obtain ⟨hb, h⟩ := bif2_some h
            cases h
            rw [Nat.eq_of_beq_eq_true hb]
            exact .inl ⟨fun k hk => (by cases hk), Hs 42, c42⟩
  · rcases bif2_or h with ⟨_, h⟩ | ⟨_, h⟩
    · rcases bif2_or h with ⟨_, h⟩ | ⟨_, h⟩
      · rcases bif2_or h with ⟨_, h⟩ | ⟨_, h⟩
        · rcases bif2_or h with ⟨_, h⟩ | ⟨_, h⟩
          · obtain ⟨hb, h⟩ := bif2_some h
            cases h
            rw [Nat.eq_of_beq_eq_true hb]
            exact .inl ⟨fun k hk => (by cases hk), Hs 43, c43⟩
          · obtain ⟨hb, h⟩ := bif2_some h
            cases h
            rw [Nat.eq_of_beq_eq_true hb]
            exact .inl ⟨fun k hk => (by cases hk), Hs 44, c44⟩
        · rcases bif2_or h with ⟨_, h⟩ | ⟨_, h⟩
          · obtain ⟨hb, h⟩ := bif2_some h
            cases h
            rw [Nat.eq_of_beq_eq_true hb]
            exact .inl ⟨fun k hk => (by cases hk), Hs 48, c48⟩
          · obtain ⟨hb, h⟩ := bif2_some h
            cases h
            rw [Nat.eq_of_beq_eq_true hb]
            exact .inl ⟨fun k hk => (by cases hk), Hs 50, c50⟩
      · rcases bif2_or h with ⟨_, h⟩ | ⟨_, h⟩
        · rcases bif2_or h with ⟨_, h⟩ | ⟨_, h⟩
          · obtain ⟨hb, h⟩ := bif2_some h
            cases h
            rw [Nat.eq_of_beq_eq_true hb]
            exact .inl ⟨fun k hk => (by cases hk), Hs 51, c51⟩
          · obtain ⟨hb, h⟩ := bif2_some h
            cases h
            rw [Nat.eq_of_beq_eq_true hb]
            exact .inl ⟨fun k hk => (by cases hk), Hs 53, c53⟩
        · rcases bif2_or h with ⟨_, h⟩ | ⟨_, h⟩
          · obtain ⟨hb, h⟩ := bif2_some h
            cases h
            rw [Nat.eq_of_beq_eq_true hb]
            exact .inl ⟨fun k hk => (by cases hk), Hs 54, c54⟩
          · obtain ⟨hb, h⟩ := bif2_some h
            cases h
            rw [Nat.eq_of_beq_eq_true hb]
            exact .inl ⟨fun k hk => (by cases hk), Hs 55, c55⟩
    · rcases bif2_or h with ⟨_, h⟩ | ⟨_, h⟩
      · rcases bif2_or h with ⟨_, h⟩ | ⟨_, h⟩
        · rcases bif2_or h with ⟨_, h⟩ | ⟨_, h⟩
          · obtain ⟨hb, h⟩ := bif2_some h
            cases h
            rw [Nat.eq_of_beq_eq_true hb]
            exact .inl ⟨fun k hk => (by cases hk), Hs 57, c57⟩
          · obtain ⟨hb, h⟩ := bif2_some h
            cases h
            rw [Nat.eq_of_beq_eq_true hb]
            exact .inl ⟨fun k hk => (by cases hk), Hs 60, c60⟩
        · rcases bif2_or h with ⟨_, h⟩ | ⟨_, h⟩
          · obtain ⟨hb, h⟩ := bif2_some h
            cases h
            rw [Nat.eq_of_beq_eq_true hb]
            exact .inl ⟨fun k hk => (by cases hk), Hs 61, c61⟩
          · obtain ⟨hb, h⟩ := bif2_some h
            cases h
            rw [Nat.eq_of_beq_eq_true hb]
            exact .inl ⟨fun k hk => (by cases hk), Hs 62, c62⟩
      · rcases bif2_or h with ⟨_, h⟩ | ⟨_, h⟩
        · rcases bif2_or h with ⟨_, h⟩ | ⟨_, h⟩
          · obtain ⟨hb, h⟩ := bif2_some h
            cases h
            rw [Nat.eq_of_beq_eq_true hb]
            exact .inl ⟨fun k hk => (by cases hk), Hs 65, c65⟩
          · obtain ⟨hb, h⟩ := bif2_some h
            cases h
            rw [Nat.eq_of_beq_eq_true hb]
            exact .inl ⟨fun k hk => (by cases hk), Hs 66, c66⟩
        · rcases bif2_or h with ⟨_, h⟩ | ⟨_, h⟩
          · obtain ⟨hb, h⟩ := bif2_some h
            cases h
            rw [Nat.eq_of_beq_eq_true hb]
            exact .inl ⟨fun k hk => (by cases hk), Hs 67, c67⟩
          · obtain ⟨hb, h⟩ := bif2_some h
            cases h
            rw [Nat.eq_of_beq_eq_true hb]
            exact .inl ⟨fun k hk => (by cases hk), Hs 68, c68⟩
end Go.Proofs.Ytjacddclpcelmaa.AM.Br
