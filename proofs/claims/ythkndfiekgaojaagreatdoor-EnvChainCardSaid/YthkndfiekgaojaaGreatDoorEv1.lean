/- The functions that EnvChain reaches, each checked against the translation, part two; the table of them. -/
import Derived.Test.YthkndfiekgaojaaGreatDoorEv1a
set_option maxRecDepth 1000000
set_option linter.unusedVariables false
set_option linter.unusedSimpArgs false
namespace Go.Proofs.YthkndfiekgaojaaGreatDoor.AM.Ev
open Go.Proofs
/- (*sterling/env.Env).Put -/
@[simp] def r18_0 : List HOp := [⟨(some 4), true, .box false (.env 1), none⟩,
     ⟨(some 5), true, .box false (.env 2), none⟩,
     ⟨(some 6), true, .alloc [(.sc (.int .i64 0)), (.sc (.string ⟨⟨[]⟩⟩)), (.sc (.int .i64 0)), (.sc (.slice none 0 0)), (.sc (.slice none 0 0)), (.sc (.slice none 0 0)), (.sc (.slice none 0 0))], none⟩]
@[simp] def r18_1 : List HOp := [⟨(some 10), false, .mv (.env 0), none⟩,
     ⟨(some 11), false, .faddr 1 (.env 5), none⟩,
     ⟨(some 12), false, .load 1 false (.loc 11), none⟩,
     ⟨(some 13), false, .callf 14 [(.loc 10), (.loc 12)], none⟩,
     ⟨(some 9), false, .mv (.loc 13), none⟩,
     ⟨(some 14), false, .extract (.loc 9) 0, none⟩,
     ⟨(some 15), false, .extract (.loc 9) 1, none⟩,
     ⟨(some 7), true, .alloc [(.sc (.string ⟨⟨[]⟩⟩)), (.sc (.slice none 0 0)), (.sc (.int .i64 0)), (.sc (.string ⟨⟨[]⟩⟩)), (.sc (.int .i64 0)), (.sc (.slice none 0 0)), (.sc (.slice none 0 0)), (.sc (.slice none 0 0)), (.sc (.slice none 0 0)), (.sc (.slice none 0 0))], none⟩,
     ⟨none, false, .store 10 (.env 7) (.loc 14), none⟩,
     ⟨(some 8), false, .mv (.loc 15), none⟩]
@[simp] def r18_2 : List HOp := [⟨(some 16), false, .load 7 true (.env 4), none⟩,
     ⟨(some 17), false, .load 10 true (.env 7), none⟩,
     ⟨(some 18), false, .callf 27 [(.loc 17)], none⟩,
     ⟨(some 19), false, .faddr 3 (.env 5), none⟩,
     ⟨(some 20), false, .load 1 false (.loc 19), none⟩,
     ⟨(some 21), false, .callf 35 [(.loc 16), (.loc 18), (.loc 20)], none⟩,
     ⟨none, false, .store 7 (.env 6) (.loc 21), none⟩]
@[simp] def k18_1 : HCode := .seq (.region r18_2 (some [ ( 1, [ 4 ] ) , ( 1, [ 7 ] ) , ( 1, [ 17 ] ) , ( 0, [ 5 ] ) , ( 1, [ 19 ] ) , ( 2, [ 16, 18, 20 ] ) , ( 2, [ 6, 21 ] ) ])) .ret
@[simp] def k18_0 : HCode := .seq (.region r18_1 none) k18_1
@[simp] def fn18 : HFn := { nargs := 3, results := [.cell 6 7 true], mode := .shared, code := (.seq (.region r18_0 none) k18_0) }
theorem c18 : cFn Tryz.prog (Hs 18) .shared 18 = some fn18 := by kernel_rfl
/- sterling/env.names -/
@[simp] def r27_0 : List HOp := [⟨(some 1), true, .box false (.env 0), none⟩,
     ⟨(some 2), true, .mv (.val (.tr (.sc (.slice none 0 0)))), none⟩]
@[simp] def r27_1 : List HOp := [⟨(some 3), true, .mv (.val (.tr (.sc (.slice none 0 0)))), none⟩]
@[simp] def r27_2 : List HOp := [⟨(some 5), false, .faddr 1 (.env 1), none⟩,
      ⟨(some 6), false, .load 1 false (.loc 5), none⟩,
      ⟨(some 7), true, .len 1 (.loc 6), none⟩,
      ⟨(some 8), true, .mv (.val (.tr (.sc (.int .i64 0)))), none⟩]
@[simp] def r27_3 : List HOp := [⟨(some 9), false, .bin .other .lss (.env 8) (.env 7), none⟩]
@[simp] def r27_4 : List HOp := [⟨(some 10), false, .mv (.env 8), none⟩,
          ⟨(some 4), true, .mv (.loc 10), none⟩]
@[simp] def r27_5 : List HOp := [⟨(some 11), false, .mv (.env 3), none⟩,
         ⟨(some 12), false, .faddr 0 (.env 1), none⟩,
         ⟨(some 13), false, .load 1 false (.loc 12), none⟩,
         ⟨(some 14), false, .bin .other .add (.loc 13) (.val (.tr (.sc (.string ⟨⟨[35]⟩⟩)))), none⟩,
         ⟨(some 15), false, .mv (.env 4), none⟩,
         ⟨(some 16), false, .callf 42 [(.loc 15)], none⟩,
         ⟨(some 17), false, .bin .other .add (.loc 14) (.loc 16), none⟩,
         ⟨(some 18), false, .bslice false 1 1 [(.sc (.string ⟨⟨[]⟩⟩))] [(0, 1, (.loc 17))], none⟩,
         ⟨(some 19), false, .append 1 16 (.loc 11) (.loc 18), none⟩,
         ⟨(some 3), true, .mv (.loc 19), none⟩]
@[simp] def r27_6 : List HOp := [⟨(some 20), false, .bin .other .add (.env 8) (.val (.tr (.sc (.int .i64 1)))), none⟩,
       ⟨(some 8), true, .mv (.loc 20), none⟩]
@[simp] def r27_7 : List HOp := [⟨(some 21), false, .mv (.env 3), none⟩,
     ⟨(some 2), true, .mv (.loc 21), none⟩]
def k27_5 : HCode := .seq (.block 1 (.seq (.region r27_4 none) (.region r27_5 (some [ ( 0, [ 3 ] ) , ( 0, [ 1 ] ) , ( 10, [ 12 ] ) , ( 0, [ 13 ] ) , ( 0, [ 4 ] ) , ( 2, [ 15 ] ) , ( 0, [ 14, 16 ] ) , ( 2, [ 17 ] ) , ( 2, [ 11, 18 ] ) , ( 0, [ 19 ] ) ])))) (.region r27_6 none)
@[simp] def k27_4 : HCode := .seq (.cond (.loc 9) .skip (.exit 0)) k27_5
def k27_3 : HCode := .seq (.region r27_3 none) k27_4
@[simp] def k27_2 : HCode := .block 0 (.loop k27_3)
def k27_6 : HCode := .seq (.region r27_7 none) .ret
@[simp] def k27_1 : HCode := .seq (.seq (.region r27_2 none) k27_2) k27_6
@[simp] def k27_0 : HCode := .seq (.region r27_1 none) k27_1
@[simp] def fn27 : HFn := { nargs := 1, results := [.tmp 2], mode := .shared, code := (.seq (.region r27_0 none) k27_0) }
theorem c27 : cFn Tryz.prog (Hs 27) .shared 27 = some fn27 := by kernel_rfl
/- sterling/subst.Put -/
@[simp] def r35_0 : List HOp := [⟨(some 3), true, .box false (.env 0), none⟩,
     ⟨(some 6), true, .alloc [(.sc (.int .i64 0)), (.sc (.string ⟨⟨[]⟩⟩)), (.sc (.int .i64 0)), (.sc (.slice none 0 0)), (.sc (.slice none 0 0)), (.sc (.slice none 0 0)), (.sc (.slice none 0 0))], none⟩]
@[simp] def r35_1 : List HOp := [⟨(some 9), false, .mv (.env 1), none⟩,
     ⟨(some 10), false, .mv (.env 1), none⟩,
     ⟨(some 11), false, .len 1 (.loc 10), none⟩,
     ⟨(some 12), false, .mv (.env 2), none⟩,
     ⟨(some 13), false, .len 1 (.loc 12), none⟩,
     ⟨(some 14), false, .minmax false (.loc 11) [(.loc 13)], none⟩,
     ⟨(some 15), false, .slice 1 (.loc 9) none (some (.loc 14)) none, none⟩,
     ⟨(some 1), true, .mv (.loc 15), none⟩]
@[simp] def r35_2 : List HOp := [⟨(some 7), true, .alloc [(.sc (.int .i64 0))], none⟩,
     ⟨none, false, .store 1 (.env 7) (.val (.tr (.sc (.int .i64 4096)))), none⟩]
@[simp] def r35_3 : List HOp := [⟨(some 16), false, .load 7 true (.env 3), none⟩,
      ⟨(some 17), false, .callf 16 [(.loc 16)], none⟩,
      ⟨(some 18), false, .un .not (.loc 17), none⟩,
      ⟨(some 19), false, .mv (.loc 18), none⟩,
      ⟨(some 20), false, .load 7 true (.env 3), some ((.loc 19), false)⟩,
      ⟨(some 21), false, .mv (.env 1), some ((.loc 19), false)⟩,
      ⟨(some 22), false, .mv (.env 2), some ((.loc 19), false)⟩,
      ⟨(some 23), false, .callf 56 [(.loc 20), (.loc 21), (.loc 22), (.env 7)], some ((.loc 19), false)⟩,
      ⟨(some 24), false, .un .not (.loc 23), some ((.loc 19), false)⟩,
      ⟨(some 25), false, .pick (.loc 19) (.val (.tr (.sc (.bool true)))) (.loc 24), none⟩]
@[simp] def r35_4 : List HOp := [⟨(some 26), false, .build [(.sc (.int .i64 0)), (.sc (.string ⟨⟨[]⟩⟩)), (.sc (.int .i64 0)), (.sc (.slice none 0 0)), (.sc (.slice none 0 0)), (.sc (.slice none 0 0)), (.sc (.slice none 0 0))] [], none⟩,
       ⟨none, false, .store 7 (.env 6) (.loc 26), none⟩]
@[simp] def r35_5 : List HOp := [⟨(some 27), false, .load 7 true (.env 3), none⟩,
     ⟨(some 28), false, .callf 19 [(.loc 27)], none⟩,
     ⟨(some 29), false, .mv (.env 1), none⟩,
     ⟨(some 30), false, .mv (.env 2), none⟩,
     ⟨(some 31), false, .callf 57 [(.loc 28), (.loc 29), (.loc 30)], none⟩,
     ⟨(some 8), true, .alloc [(.sc (.int .i64 0)), (.sc (.string ⟨⟨[]⟩⟩)), (.sc (.int .i64 0)), (.sc (.slice none 0 0)), (.sc (.slice none 0 0)), (.sc (.slice none 0 0)), (.sc (.slice none 0 0))], none⟩,
     ⟨none, false, .store 7 (.env 8) (.loc 31), none⟩]
@[simp] def r35_6 : List HOp := [⟨(some 32), false, .load 7 true (.env 8), none⟩,
      ⟨(some 33), false, .callf 16 [(.loc 32)], none⟩,
      ⟨(some 34), false, .un .not (.loc 33), none⟩]
@[simp] def r35_7 : List HOp := [⟨(some 35), false, .build [(.sc (.int .i64 0)), (.sc (.string ⟨⟨[]⟩⟩)), (.sc (.int .i64 0)), (.sc (.slice none 0 0)), (.sc (.slice none 0 0)), (.sc (.slice none 0 0)), (.sc (.slice none 0 0))] [], none⟩,
       ⟨none, false, .store 7 (.env 6) (.loc 35), none⟩]
@[simp] def r35_8 : List HOp := [⟨(some 36), false, .load 7 true (.env 8), none⟩,
     ⟨none, false, .store 7 (.env 6) (.loc 36), none⟩]
@[simp] def k35_4 : HCode := .seq (.region r35_4 none) .ret
@[simp] def k35_3 : HCode := .cond (.loc 25) k35_4 .skip
@[simp] def k35_8 : HCode := .seq (.region r35_7 none) .ret
@[simp] def k35_7 : HCode := .cond (.loc 34) k35_8 .skip
def k35_9 : HCode := .seq (.region r35_8 none) .ret
@[simp] def k35_6 : HCode := .seq (.seq (.region r35_6 none) k35_7) k35_9
def k35_5 : HCode := .seq (.region r35_5 none) k35_6
@[simp] def k35_2 : HCode := .seq (.seq (.region r35_3 none) k35_3) k35_5
@[simp] def k35_1 : HCode := .seq (.region r35_2 none) k35_2
@[simp] def k35_0 : HCode := .seq (.region r35_1 none) k35_1
@[simp] def fn35 : HFn := { nargs := 3, results := [.cell 6 7 true], mode := .shared, code := (.seq (.region r35_0 none) k35_0) }
theorem c35 : cFn Tryz.prog (Hs 35) .shared 35 = some fn35 := by kernel_rfl
/- sterling/subst.count -/
@[simp] def r56_0 : List HOp := [⟨(some 4), true, .box false (.env 0), none⟩,
     ⟨(some 8), true, .mv (.val (.tr (.sc (.bool false)))), none⟩]
@[simp] def r56_1 : List HOp := [⟨(some 16), false, .faddr 0 (.env 4), none⟩,
      ⟨(some 17), false, .load 1 false (.loc 16), none⟩,
      ⟨(some 18), false, .bin .other .eql (.loc 17) (.val (.tr (.sc (.int .i64 3)))), none⟩]
@[simp] def r56_2 : List HOp := [⟨(some 19), false, .mv (.env 1), none⟩,
       ⟨(some 20), false, .faddr 1 (.env 4), none⟩,
       ⟨(some 21), false, .load 1 false (.loc 20), none⟩,
       ⟨(some 22), false, .callf 74 [(.loc 19), (.loc 21)], none⟩,
       ⟨(some 9), true, .mv (.loc 22), none⟩]
@[simp] def r56_3 : List HOp := [⟨(some 23), false, .mv (.env 9), none⟩,
       ⟨(some 24), false, .bin .other .geq (.loc 23) (.val (.tr (.sc (.int .i64 0)))), none⟩]
@[simp] def r56_4 : List HOp := [⟨(some 25), false, .mv (.env 2), none⟩,
        ⟨(some 26), false, .mv (.env 9), none⟩,
        ⟨(some 27), false, .iaddr 7 (.loc 25) (.loc 26), none⟩,
        ⟨(some 28), false, .load 7 true (.loc 27), none⟩,
        ⟨(some 29), false, .mv (.env 3), none⟩,
        ⟨(some 30), false, .callf 56 [(.loc 28), (.val (.tr (.sc (.slice none 0 0)))), (.val (.tr (.sc (.slice none 0 0)))), (.loc 29)], none⟩,
        ⟨(some 8), true, .mv (.loc 30), none⟩]
@[simp] def r56_5 : List HOp := [⟨(some 31), false, .mv (.env 3), none⟩,
      ⟨(some 32), false, .nilchk (.loc 31), none⟩,
      ⟨(some 33), false, .load 1 false (.loc 32), none⟩,
      ⟨(some 34), false, .bin .other .sub (.loc 33) (.val (.tr (.sc (.int .i64 1)))), none⟩,
      ⟨(some 35), false, .nilchk (.loc 31), none⟩,
      ⟨none, false, .store 1 (.loc 35) (.loc 34), none⟩]
@[simp] def r56_6 : List HOp := [⟨(some 36), false, .mv (.env 3), none⟩,
      ⟨(some 37), false, .nilchk (.loc 36), none⟩,
      ⟨(some 38), false, .load 1 false (.loc 37), none⟩,
      ⟨(some 39), false, .bin .other .lss (.loc 38) (.val (.tr (.sc (.int .i64 0)))), none⟩]
@[simp] def r56_7 : List HOp := [⟨(some 8), true, .mv (.val (.tr (.sc (.bool false)))), none⟩]
@[simp] def r56_8 : List HOp := [⟨(some 40), false, .faddr 3 (.env 4), none⟩,
      ⟨(some 41), true, .load 1 false (.loc 40), none⟩,
      ⟨(some 42), true, .len 1 (.env 41), none⟩,
      ⟨(some 43), true, .mv (.val (.tr (.sc (.int .i64 0)))), none⟩]
@[simp] def r56_9 : List HOp := [⟨(some 44), false, .bin .other .lss (.env 43) (.env 42), none⟩]
@[simp] def r56_10 : List HOp := [⟨(some 45), false, .iaddr 7 (.env 41) (.env 43), none⟩,
          ⟨(some 46), false, .load 7 true (.loc 45), none⟩,
          ⟨(some 11), true, .alloc [(.sc (.int .i64 0)), (.sc (.string ⟨⟨[]⟩⟩)), (.sc (.int .i64 0)), (.sc (.slice none 0 0)), (.sc (.slice none 0 0)), (.sc (.slice none 0 0)), (.sc (.slice none 0 0))], none⟩,
          ⟨none, false, .store 7 (.env 11) (.loc 46), none⟩]
@[simp] def r56_11 : List HOp := [⟨(some 47), false, .load 7 true (.env 11), none⟩,
          ⟨(some 48), false, .mv (.env 1), none⟩,
          ⟨(some 49), false, .mv (.env 2), none⟩,
          ⟨(some 50), false, .mv (.env 3), none⟩,
          ⟨(some 51), false, .callf 56 [(.loc 47), (.loc 48), (.loc 49), (.loc 50)], none⟩,
          ⟨(some 52), false, .un .not (.loc 51), none⟩]
@[simp] def r56_12 : List HOp := [⟨(some 8), true, .mv (.val (.tr (.sc (.bool false)))), none⟩]
@[simp] def r56_13 : List HOp := [⟨(some 53), false, .bin .other .add (.env 43) (.val (.tr (.sc (.int .i64 1)))), none⟩,
       ⟨(some 43), true, .mv (.loc 53), none⟩]
@[simp] def r56_14 : List HOp := [⟨(some 54), false, .faddr 6 (.env 4), none⟩,
      ⟨(some 55), true, .load 1 false (.loc 54), none⟩,
      ⟨(some 56), true, .len 1 (.env 55), none⟩,
      ⟨(some 57), true, .mv (.val (.tr (.sc (.int .i64 0)))), none⟩]
@[simp] def r56_15 : List HOp := [⟨(some 58), false, .bin .other .lss (.env 57) (.env 56), none⟩]
@[simp] def r56_16 : List HOp := [⟨(some 59), false, .iaddr 1 (.env 55) (.env 57), none⟩,
          ⟨(some 60), false, .load 1 false (.loc 59), none⟩,
          ⟨(some 13), true, .mv (.loc 60), none⟩]
@[simp] def r56_17 : List HOp := [⟨(some 61), true, .mv (.env 13), none⟩,
          ⟨(some 62), true, .len 1 (.env 61), none⟩,
          ⟨(some 63), true, .mv (.val (.tr (.sc (.int .i64 0)))), none⟩]
@[simp] def r56_18 : List HOp := [⟨(some 64), false, .bin .other .lss (.env 63) (.env 62), none⟩]
@[simp] def r56_19 : List HOp := [⟨(some 65), false, .iaddr 8 (.env 61) (.env 63), none⟩,
              ⟨(some 66), false, .load 8 true (.loc 65), none⟩,
              ⟨(some 15), true, .alloc [(.sc (.bool false)), (.sc (.int .i64 0)), (.sc (.string ⟨⟨[]⟩⟩)), (.sc (.int .i64 0)), (.sc (.slice none 0 0)), (.sc (.slice none 0 0)), (.sc (.slice none 0 0)), (.sc (.slice none 0 0))], none⟩,
              ⟨none, false, .store 8 (.env 15) (.loc 66), none⟩]
@[simp] def r56_20 : List HOp := [⟨(some 67), false, .faddr 1 (.env 15), none⟩,
              ⟨(some 68), false, .load 7 true (.loc 67), none⟩,
              ⟨(some 69), false, .mv (.env 1), none⟩,
              ⟨(some 70), false, .mv (.env 2), none⟩,
              ⟨(some 71), false, .mv (.env 3), none⟩,
              ⟨(some 72), false, .callf 56 [(.loc 68), (.loc 69), (.loc 70), (.loc 71)], none⟩,
              ⟨(some 73), false, .un .not (.loc 72), none⟩]
@[simp] def r56_21 : List HOp := [⟨(some 8), true, .mv (.val (.tr (.sc (.bool false)))), none⟩]
@[simp] def r56_22 : List HOp := [⟨(some 74), false, .bin .other .add (.env 63) (.val (.tr (.sc (.int .i64 1)))), none⟩,
           ⟨(some 63), true, .mv (.loc 74), none⟩]
@[simp] def r56_23 : List HOp := [⟨(some 75), false, .bin .other .add (.env 57) (.val (.tr (.sc (.int .i64 1)))), none⟩,
       ⟨(some 57), true, .mv (.loc 75), none⟩]
@[simp] def r56_24 : List HOp := [⟨(some 8), true, .mv (.val (.tr (.sc (.bool true)))), none⟩]
@[simp] def k56_5 : HCode := .seq (.region r56_4 none) .ret
@[simp] def k56_4 : HCode := .cond (.loc 24) k56_5 .skip
@[simp] def k56_3 : HCode := .seq (.region r56_3 none) k56_4
@[simp] def k56_2 : HCode := .seq (.region r56_2 none) k56_3
@[simp] def k56_1 : HCode := .cond (.loc 18) k56_2 .skip
@[simp] def k56_9 : HCode := .seq (.region r56_7 none) .ret
@[simp] def k56_8 : HCode := .cond (.loc 39) k56_9 .skip
@[simp] def k56_7 : HCode := .seq (.region r56_6 none) k56_8
@[simp] def k56_17 : HCode := .seq (.region r56_12 none) .ret
@[simp] def k56_16 : HCode := .cond (.loc 52) k56_17 .skip
@[simp] def k56_15 : HCode := .seq (.region r56_11 none) k56_16
def k56_18 : HCode := .region r56_13 none
def k56_14 : HCode := .seq (.block 1 (.seq (.region r56_10 none) k56_15)) k56_18
@[simp] def k56_13 : HCode := .seq (.cond (.loc 44) .skip (.exit 0)) k56_14
def k56_12 : HCode := .seq (.region r56_9 none) k56_13
@[simp] def k56_11 : HCode := .block 0 (.loop k56_12)
@[simp] def k56_31 : HCode := .seq (.region r56_21 none) .ret
@[simp] def k56_30 : HCode := .cond (.loc 73) k56_31 .skip
@[simp] def k56_29 : HCode := .seq (.region r56_20 none) k56_30
def k56_32 : HCode := .region r56_22 none
def k56_28 : HCode := .seq (.block 5 (.seq (.region r56_19 none) k56_29)) k56_32
@[simp] def k56_27 : HCode := .seq (.cond (.loc 64) .skip (.exit 4)) k56_28
def k56_26 : HCode := .seq (.region r56_18 none) k56_27
@[simp] def k56_25 : HCode := .block 4 (.loop k56_26)
@[simp] def k56_24 : HCode := .seq (.region r56_17 none) k56_25
def k56_33 : HCode := .region r56_23 none
def k56_23 : HCode := .seq (.block 3 (.seq (.region r56_16 none) k56_24)) k56_33
@[simp] def k56_22 : HCode := .seq (.cond (.loc 58) .skip (.exit 2)) k56_23
def k56_21 : HCode := .seq (.region r56_15 none) k56_22
@[simp] def k56_20 : HCode := .block 2 (.loop k56_21)
def k56_34 : HCode := .seq (.region r56_24 none) .ret
def k56_19 : HCode := .seq (.seq (.region r56_14 none) k56_20) k56_34
def k56_10 : HCode := .seq (.seq (.region r56_8 none) k56_11) k56_19
def k56_6 : HCode := .seq (.seq (.region r56_5 none) k56_7) k56_10
@[simp] def k56_0 : HCode := .seq (.seq (.region r56_1 none) k56_1) k56_6
@[simp] def fn56 : HFn := { nargs := 4, results := [.tmp 8], mode := .shared, code := (.seq (.region r56_0 none) k56_0) }
theorem c56 : cFn Tryz.prog (Hs 56) .shared 56 = some fn56 := by kernel_rfl
/- slices.Index[[]string,string] -/
@[simp] def r74_0 : List HOp := [⟨(some 4), true, .mv (.val (.tr (.sc (.int .i64 0)))), none⟩]
@[simp] def r74_1 : List HOp := [⟨(some 6), false, .mv (.env 0), none⟩,
      ⟨(some 7), true, .len 1 (.loc 6), none⟩,
      ⟨(some 8), true, .mv (.val (.tr (.sc (.int .i64 0)))), none⟩]
@[simp] def r74_2 : List HOp := [⟨(some 9), false, .bin .other .lss (.env 8) (.env 7), none⟩]
@[simp] def r74_3 : List HOp := [⟨(some 10), false, .mv (.env 8), none⟩,
          ⟨(some 5), true, .mv (.loc 10), none⟩]
@[simp] def r74_4 : List HOp := [⟨(some 11), false, .mv (.env 1), none⟩,
          ⟨(some 12), false, .mv (.env 0), none⟩,
          ⟨(some 13), false, .mv (.env 5), none⟩,
          ⟨(some 14), false, .iaddr 1 (.loc 12) (.loc 13), none⟩,
          ⟨(some 15), false, .load 1 false (.loc 14), none⟩,
          ⟨(some 16), false, .bin .other .eql (.loc 11) (.loc 15), none⟩]
@[simp] def r74_5 : List HOp := [⟨(some 17), false, .mv (.env 5), none⟩,
           ⟨(some 4), true, .mv (.loc 17), none⟩]
@[simp] def r74_6 : List HOp := [⟨(some 18), false, .bin .other .add (.env 8) (.val (.tr (.sc (.int .i64 1)))), none⟩,
       ⟨(some 8), true, .mv (.loc 18), none⟩]
@[simp] def r74_7 : List HOp := [⟨(some 4), true, .mv (.val (.tr (.sc (.int .i64 (-1))))), none⟩]
@[simp] def k74_7 : HCode := .seq (.region r74_5 none) .ret
@[simp] def k74_6 : HCode := .cond (.loc 16) k74_7 .skip
@[simp] def k74_5 : HCode := .seq (.region r74_4 none) k74_6
def k74_8 : HCode := .region r74_6 none
def k74_4 : HCode := .seq (.block 1 (.seq (.region r74_3 none) k74_5)) k74_8
@[simp] def k74_3 : HCode := .seq (.cond (.loc 9) .skip (.exit 0)) k74_4
def k74_2 : HCode := .seq (.region r74_2 none) k74_3
@[simp] def k74_1 : HCode := .block 0 (.loop k74_2)
def k74_9 : HCode := .seq (.region r74_7 none) .ret
@[simp] def k74_0 : HCode := .seq (.seq (.region r74_1 none) k74_1) k74_9
@[simp] def fn74 : HFn := { nargs := 2, results := [.tmp 4], mode := .shared, code := (.seq (.region r74_0 none) k74_0) }
theorem c74 : cFn Tryz.prog (Hs 74) .shared 74 = some fn74 := by kernel_rfl
/- sterling/subst.put -/
@[simp] def r57_0 : List HOp := [⟨(some 3), true, .box false (.env 0), none⟩,
     ⟨(some 6), true, .alloc [(.sc (.int .i64 0)), (.sc (.string ⟨⟨[]⟩⟩)), (.sc (.int .i64 0)), (.sc (.slice none 0 0)), (.sc (.slice none 0 0)), (.sc (.slice none 0 0)), (.sc (.slice none 0 0))], none⟩]
@[simp] def r57_1 : List HOp := [⟨(some 12), false, .faddr 0 (.env 3), none⟩,
      ⟨(some 13), false, .load 1 false (.loc 12), none⟩,
      ⟨(some 14), false, .bin .other .eql (.loc 13) (.val (.tr (.sc (.int .i64 3)))), none⟩]
@[simp] def r57_2 : List HOp := [⟨(some 15), false, .mv (.env 1), none⟩,
       ⟨(some 16), false, .faddr 1 (.env 3), none⟩,
       ⟨(some 17), false, .load 1 false (.loc 16), none⟩,
       ⟨(some 18), false, .callf 74 [(.loc 15), (.loc 17)], none⟩,
       ⟨(some 7), true, .mv (.loc 18), none⟩]
@[simp] def r57_3 : List HOp := [⟨(some 19), false, .mv (.env 7), none⟩,
       ⟨(some 20), false, .bin .other .geq (.loc 19) (.val (.tr (.sc (.int .i64 0)))), none⟩]
@[simp] def r57_4 : List HOp := [⟨(some 21), false, .mv (.env 2), none⟩,
        ⟨(some 22), false, .mv (.env 7), none⟩,
        ⟨(some 23), false, .iaddr 7 (.loc 21) (.loc 22), none⟩,
        ⟨(some 24), false, .load 7 true (.loc 23), none⟩,
        ⟨(some 25), false, .callf 19 [(.loc 24)], none⟩,
        ⟨none, false, .store 7 (.env 6) (.loc 25), none⟩]
@[simp] def r57_5 : List HOp := [⟨(some 26), false, .faddr 3 (.env 3), none⟩,
      ⟨(some 27), false, .load 1 false (.loc 26), none⟩,
      ⟨(some 28), true, .len 1 (.loc 27), none⟩,
      ⟨(some 29), true, .mv (.val (.tr (.sc (.int .i64 0)))), none⟩]
@[simp] def r57_6 : List HOp := [⟨(some 30), false, .bin .other .lss (.env 29) (.env 28), none⟩]
@[simp] def r57_7 : List HOp := [⟨(some 31), false, .mv (.env 29), none⟩,
          ⟨(some 8), true, .mv (.loc 31), none⟩]
@[simp] def r57_8 : List HOp := [⟨(some 32), false, .faddr 3 (.env 3), none⟩,
         ⟨(some 33), false, .load 1 false (.loc 32), none⟩,
         ⟨(some 34), false, .mv (.env 8), none⟩,
         ⟨(some 35), false, .faddr 3 (.env 3), none⟩,
         ⟨(some 36), false, .load 1 false (.loc 35), none⟩,
         ⟨(some 37), false, .mv (.env 8), none⟩,
         ⟨(some 38), false, .iaddr 7 (.loc 36) (.loc 37), none⟩,
         ⟨(some 39), false, .load 7 true (.loc 38), none⟩,
         ⟨(some 40), false, .mv (.env 1), none⟩,
         ⟨(some 41), false, .mv (.env 2), none⟩,
         ⟨(some 42), false, .callf 57 [(.loc 39), (.loc 40), (.loc 41)], none⟩,
         ⟨(some 43), false, .iaddr 7 (.loc 33) (.loc 34), none⟩,
         ⟨none, false, .store 7 (.loc 43) (.loc 42), none⟩]
@[simp] def r57_9 : List HOp := [⟨(some 44), false, .bin .other .add (.env 29) (.val (.tr (.sc (.int .i64 1)))), none⟩,
       ⟨(some 29), true, .mv (.loc 44), none⟩]
@[simp] def r57_10 : List HOp := [⟨(some 45), false, .faddr 6 (.env 3), none⟩,
      ⟨(some 46), true, .load 1 false (.loc 45), none⟩,
      ⟨(some 47), true, .len 1 (.env 46), none⟩,
      ⟨(some 48), true, .mv (.val (.tr (.sc (.int .i64 0)))), none⟩]
@[simp] def r57_11 : List HOp := [⟨(some 49), false, .bin .other .lss (.env 48) (.env 47), none⟩]
@[simp] def r57_12 : List HOp := [⟨(some 50), false, .iaddr 1 (.env 46) (.env 48), none⟩,
          ⟨(some 51), false, .load 1 false (.loc 50), none⟩,
          ⟨(some 10), true, .mv (.loc 51), none⟩]
@[simp] def r57_13 : List HOp := [⟨(some 52), false, .mv (.env 10), none⟩,
          ⟨(some 53), true, .len 1 (.loc 52), none⟩,
          ⟨(some 54), true, .mv (.val (.tr (.sc (.int .i64 0)))), none⟩]
@[simp] def r57_14 : List HOp := [⟨(some 55), false, .bin .other .lss (.env 54) (.env 53), none⟩]
@[simp] def r57_15 : List HOp := [⟨(some 56), false, .mv (.env 54), none⟩,
              ⟨(some 11), true, .mv (.loc 56), none⟩]
@[simp] def r57_16 : List HOp := [⟨(some 57), false, .mv (.env 10), none⟩,
             ⟨(some 58), false, .mv (.env 11), none⟩,
             ⟨(some 59), false, .mv (.env 10), none⟩,
             ⟨(some 60), false, .mv (.env 11), none⟩,
             ⟨(some 61), false, .iaddr 8 (.loc 59) (.loc 60), none⟩,
             ⟨(some 62), false, .faddr 1 (.loc 61), none⟩,
             ⟨(some 63), false, .load 7 true (.loc 62), none⟩,
             ⟨(some 64), false, .mv (.env 1), none⟩,
             ⟨(some 65), false, .mv (.env 2), none⟩,
             ⟨(some 66), false, .callf 57 [(.loc 63), (.loc 64), (.loc 65)], none⟩,
             ⟨(some 67), false, .iaddr 8 (.loc 57) (.loc 58), none⟩,
             ⟨(some 68), false, .faddr 1 (.loc 67), none⟩,
             ⟨none, false, .store 7 (.loc 68) (.loc 66), none⟩]
@[simp] def r57_17 : List HOp := [⟨(some 69), false, .bin .other .add (.env 54) (.val (.tr (.sc (.int .i64 1)))), none⟩,
           ⟨(some 54), true, .mv (.loc 69), none⟩]
@[simp] def r57_18 : List HOp := [⟨(some 70), false, .bin .other .add (.env 48) (.val (.tr (.sc (.int .i64 1)))), none⟩,
       ⟨(some 48), true, .mv (.loc 70), none⟩]
@[simp] def r57_19 : List HOp := [⟨(some 71), false, .load 7 true (.env 3), none⟩,
     ⟨none, false, .store 7 (.env 6) (.loc 71), none⟩]
@[simp] def k57_5 : HCode := .seq (.region r57_4 none) .ret
@[simp] def k57_4 : HCode := .cond (.loc 20) k57_5 .skip
@[simp] def k57_3 : HCode := .seq (.region r57_3 none) k57_4
@[simp] def k57_2 : HCode := .seq (.region r57_2 none) k57_3
@[simp] def k57_1 : HCode := .cond (.loc 14) k57_2 .skip
def k57_10 : HCode := .seq (.block 1 (.seq (.region r57_7 none) (.region r57_8 (some [ ( 0, [ 3 ] ) , ( 15, [ 32 ] ) , ( 0, [ 8 ] ) , ( 0, [ 3 ] ) , ( 1, [ 35 ] ) , ( 0, [ 8 ] ) , ( 1, [ 36, 37 ] ) , ( 1, [ 38 ] ) , ( 0, [ 1 ] ) , ( 0, [ 2 ] ) , ( 2, [ 39, 40, 41 ] ) , ( 2, [ 33, 34 ] ) , ( 2, [ 43, 42 ] ) ])))) (.region r57_9 none)
@[simp] def k57_9 : HCode := .seq (.cond (.loc 30) .skip (.exit 0)) k57_10
def k57_8 : HCode := .seq (.region r57_6 none) k57_9
@[simp] def k57_7 : HCode := .block 0 (.loop k57_8)
def k57_20 : HCode := .seq (.block 5 (.seq (.region r57_15 none) (.region r57_16 none))) (.region r57_17 none)
@[simp] def k57_19 : HCode := .seq (.cond (.loc 55) .skip (.exit 4)) k57_20
def k57_18 : HCode := .seq (.region r57_14 none) k57_19
@[simp] def k57_17 : HCode := .block 4 (.loop k57_18)
@[simp] def k57_16 : HCode := .seq (.region r57_13 none) k57_17
def k57_21 : HCode := .region r57_18 none
def k57_15 : HCode := .seq (.block 3 (.seq (.region r57_12 none) k57_16)) k57_21
@[simp] def k57_14 : HCode := .seq (.cond (.loc 49) .skip (.exit 2)) k57_15
def k57_13 : HCode := .seq (.region r57_11 none) k57_14
@[simp] def k57_12 : HCode := .block 2 (.loop k57_13)
def k57_22 : HCode := .seq (.region r57_19 none) .ret
def k57_11 : HCode := .seq (.seq (.region r57_10 none) k57_12) k57_22
def k57_6 : HCode := .seq (.seq (.region r57_5 none) k57_7) k57_11
@[simp] def k57_0 : HCode := .seq (.seq (.region r57_1 none) k57_1) k57_6
@[simp] def fn57 : HFn := { nargs := 3, results := [.cell 6 7 true], mode := .shared, code := (.seq (.region r57_0 none) k57_0) }
theorem c57 : cFn Tryz.prog (Hs 57) .shared 57 = some fn57 := by kernel_rfl
/- (*sterling/env.Env).Constraint -/
@[simp] def r8_0 : List HOp := [⟨(some 4), true, .alloc [(.sc (.int .i64 0)), (.sc (.string ⟨⟨[]⟩⟩)), (.sc (.int .i64 0)), (.sc (.slice none 0 0)), (.sc (.slice none 0 0)), (.sc (.slice none 0 0)), (.sc (.slice none 0 0))], none⟩,
     ⟨(some 5), true, .mv (.val (.tr (.sc (.bool false)))), none⟩]
@[simp] def r8_1 : List HOp := [⟨(some 8), false, .mv (.env 0), none⟩,
      ⟨(some 9), false, .bin .pointer .eql (.loc 8) (.val (.tr (.sc (.pointer none)))), none⟩]
@[simp] def r8_2 : List HOp := [⟨(some 10), false, .build [(.sc (.int .i64 0)), (.sc (.string ⟨⟨[]⟩⟩)), (.sc (.int .i64 0)), (.sc (.slice none 0 0)), (.sc (.slice none 0 0)), (.sc (.slice none 0 0)), (.sc (.slice none 0 0))] [], none⟩,
       ⟨none, false, .store 7 (.env 4) (.loc 10), none⟩,
       ⟨(some 5), true, .mv (.val (.tr (.sc (.bool false)))), none⟩]
@[simp] def r8_3 : List HOp := [⟨(some 12), false, .mv (.env 0), none⟩,
     ⟨(some 13), false, .nilchk (.loc 12), none⟩,
     ⟨(some 14), false, .faddr 1 (.loc 13), none⟩,
     ⟨(some 15), false, .load 1 false (.loc 14), none⟩,
     ⟨(some 16), false, .mv (.env 1), none⟩,
     ⟨(some 17), false, .lookup .string (.agg [(.sc (.int .i64 0)), (.sc (.string ⟨⟨[]⟩⟩)), (.sc (.int .i64 0)), (.sc (.slice none 0 0)), (.sc (.slice none 0 0)), (.sc (.slice none 0 0)), (.sc (.slice none 0 0))]) true (.loc 15) (.loc 16), none⟩,
     ⟨(some 11), false, .mv (.loc 17), none⟩,
     ⟨(some 18), false, .extract (.loc 11) 0, none⟩,
     ⟨(some 19), false, .extract (.loc 11) 1, none⟩,
     ⟨(some 6), true, .alloc [(.sc (.int .i64 0)), (.sc (.string ⟨⟨[]⟩⟩)), (.sc (.int .i64 0)), (.sc (.slice none 0 0)), (.sc (.slice none 0 0)), (.sc (.slice none 0 0)), (.sc (.slice none 0 0))], none⟩,
     ⟨none, false, .store 7 (.env 6) (.loc 18), none⟩,
     ⟨(some 7), true, .mv (.loc 19), none⟩]
@[simp] def r8_4 : List HOp := [⟨(some 20), false, .load 7 true (.env 6), none⟩,
     ⟨(some 21), false, .callf 19 [(.loc 20)], none⟩,
     ⟨(some 22), false, .mv (.env 7), none⟩,
     ⟨none, false, .store 7 (.env 4) (.loc 21), none⟩,
     ⟨(some 5), true, .mv (.loc 22), none⟩]
@[simp] def k8_2 : HCode := .seq (.region r8_2 none) .ret
@[simp] def k8_1 : HCode := .cond (.loc 9) k8_2 .skip
@[simp] def k8_4 : HCode := .seq (.region r8_4 none) .ret
def k8_3 : HCode := .seq (.region r8_3 none) k8_4
@[simp] def k8_0 : HCode := .seq (.seq (.region r8_1 none) k8_1) k8_3
@[simp] def fn8 : HFn := { nargs := 2, results := [.cell 4 7 true, .tmp 5], mode := .shared, code := (.seq (.region r8_0 none) k8_0) }
theorem c8 : cFn Tryz.prog (Hs 8) .shared 8 = some fn8 := by kernel_rfl
/- sterling/sterlinglaw13.begun -/
@[simp] def r9_0 : List HOp := [⟨(some 0), true, .mv (.val (.tr (.sc (.bool false)))), none⟩]
@[simp] def r9_1 : List HOp := [⟨(some 10), false, .callf 20 [], none⟩,
     ⟨(some 11), false, .bslice false 1 7 [(.sc (.int .i64 0)), (.sc (.string ⟨⟨[]⟩⟩)), (.sc (.int .i64 0)), (.sc (.slice none 0 0)), (.sc (.slice none 0 0)), (.sc (.slice none 0 0)), (.sc (.slice none 0 0))] [(0, 7, (.loc 10))], none⟩,
     ⟨(some 12), false, .build [(.sc (.int .i64 0)), (.sc (.string ⟨⟨[]⟩⟩)), (.sc (.int .i64 0)), (.sc (.slice none 0 0)), (.sc (.slice none 0 0)), (.sc (.slice none 0 0)), (.sc (.slice none 0 0))] [(0, 1, (.val (.tr (.sc (.int .i64 3))))), (1, 1, (.val (.tr (.sc (.string ⟨⟨[112, 46, 76, 35, 48]⟩⟩)))))], none⟩,
     ⟨(some 13), false, .bslice false 1 7 [(.sc (.int .i64 0)), (.sc (.string ⟨⟨[]⟩⟩)), (.sc (.int .i64 0)), (.sc (.slice none 0 0)), (.sc (.slice none 0 0)), (.sc (.slice none 0 0)), (.sc (.slice none 0 0))] [(0, 7, (.loc 12))], none⟩,
     ⟨(some 14), false, .build [(.sc (.int .i64 0)), (.sc (.string ⟨⟨[]⟩⟩)), (.sc (.int .i64 0)), (.sc (.slice none 0 0)), (.sc (.slice none 0 0)), (.sc (.slice none 0 0)), (.sc (.slice none 0 0))] [(0, 1, (.val (.tr (.sc (.int .i64 5))))), (3, 1, (.loc 13))], none⟩,
     ⟨(some 15), false, .build [(.sc (.string ⟨⟨[]⟩⟩)), (.sc (.slice none 0 0)), (.sc (.int .i64 0)), (.sc (.string ⟨⟨[]⟩⟩)), (.sc (.int .i64 0)), (.sc (.slice none 0 0)), (.sc (.slice none 0 0)), (.sc (.slice none 0 0)), (.sc (.slice none 0 0)), (.sc (.slice none 0 0))] [(0, 1, (.val (.tr (.sc (.string ⟨⟨[112, 46, 76]⟩⟩))))), (1, 1, (.loc 11)), (2, 7, (.loc 14))], none⟩,
     ⟨(some 1), true, .alloc [(.sc (.string ⟨⟨[]⟩⟩)), (.sc (.slice none 0 0)), (.sc (.int .i64 0)), (.sc (.string ⟨⟨[]⟩⟩)), (.sc (.int .i64 0)), (.sc (.slice none 0 0)), (.sc (.slice none 0 0)), (.sc (.slice none 0 0)), (.sc (.slice none 0 0)), (.sc (.slice none 0 0))], none⟩,
     ⟨none, false, .store 10 (.env 1) (.loc 15), none⟩]
@[simp] def r9_2 : List HOp := [⟨(some 17), false, .load 10 true (.env 1), none⟩,
     ⟨(some 18), false, .bslice false 1 10 [(.sc (.string ⟨⟨[]⟩⟩)), (.sc (.slice none 0 0)), (.sc (.int .i64 0)), (.sc (.string ⟨⟨[]⟩⟩)), (.sc (.int .i64 0)), (.sc (.slice none 0 0)), (.sc (.slice none 0 0)), (.sc (.slice none 0 0)), (.sc (.slice none 0 0)), (.sc (.slice none 0 0))] [(0, 10, (.loc 17))], none⟩,
     ⟨(some 19), false, .callf 13 [(.loc 18), (.val (.tr (.sc (.slice none 0 0))))], none⟩,
     ⟨(some 16), false, .mv (.loc 19), none⟩,
     ⟨(some 20), false, .extract (.loc 16) 0, none⟩,
     ⟨(some 21), false, .extract (.loc 16) 1, none⟩,
     ⟨(some 2), true, .mv (.loc 20), none⟩,
     ⟨(some 3), true, .mv (.loc 21), none⟩]
@[simp] def r9_3 : List HOp := [⟨(some 22), false, .mv (.env 3), none⟩,
      ⟨(some 23), false, .un .not (.loc 22), none⟩,
      ⟨(some 24), false, .mv (.loc 23), none⟩,
      ⟨(some 25), false, .mv (.env 2), some ((.loc 24), false)⟩,
      ⟨(some 26), false, .bin .pointer .eql (.loc 25) (.val (.tr (.sc (.pointer none)))), some ((.loc 24), false)⟩,
      ⟨(some 27), false, .pick (.loc 24) (.val (.tr (.sc (.bool true)))) (.loc 26), none⟩]
@[simp] def r9_4 : List HOp := [⟨(some 0), true, .mv (.val (.tr (.sc (.bool false)))), none⟩]
@[simp] def r9_5 : List HOp := [⟨(some 29), false, .mv (.env 2), none⟩,
     ⟨(some 30), false, .callf 12 [(.val (.tr (.sc (.string ⟨⟨[105, 110, 116]⟩⟩))))], none⟩,
     ⟨(some 31), false, .bslice false 1 7 [(.sc (.int .i64 0)), (.sc (.string ⟨⟨[]⟩⟩)), (.sc (.int .i64 0)), (.sc (.slice none 0 0)), (.sc (.slice none 0 0)), (.sc (.slice none 0 0)), (.sc (.slice none 0 0))] [(0, 7, (.loc 30))], none⟩,
     ⟨(some 32), false, .callf 7 [(.val (.tr (.sc (.string ⟨⟨[112, 46, 76]⟩⟩)))), (.loc 31)], none⟩,
     ⟨(some 33), false, .callf 6 [(.loc 29), (.loc 32)], none⟩,
     ⟨(some 28), false, .mv (.loc 33), none⟩,
     ⟨(some 34), false, .extract (.loc 28) 0, none⟩,
     ⟨(some 35), false, .extract (.loc 28) 1, none⟩,
     ⟨(some 4), true, .alloc [(.sc (.int .i64 0)), (.sc (.string ⟨⟨[]⟩⟩)), (.sc (.int .i64 0)), (.sc (.slice none 0 0)), (.sc (.slice none 0 0)), (.sc (.slice none 0 0)), (.sc (.slice none 0 0))], none⟩,
     ⟨none, false, .store 7 (.env 4) (.loc 34), none⟩,
     ⟨(some 5), true, .mv (.loc 35), none⟩]
@[simp] def r9_6 : List HOp := [⟨(some 37), false, .mv (.env 2), none⟩,
     ⟨(some 38), false, .callf 5 [(.loc 37), (.val (.tr (.sc (.string ⟨⟨[101, 114, 114, 111, 114]⟩⟩))))], none⟩,
     ⟨(some 36), false, .mv (.loc 38), none⟩,
     ⟨(some 39), false, .extract (.loc 36) 0, none⟩,
     ⟨(some 40), false, .extract (.loc 36) 1, none⟩,
     ⟨(some 6), true, .alloc [(.sc (.string ⟨⟨[]⟩⟩)), (.sc (.slice none 0 0)), (.sc (.int .i64 0)), (.sc (.string ⟨⟨[]⟩⟩)), (.sc (.int .i64 0)), (.sc (.slice none 0 0)), (.sc (.slice none 0 0)), (.sc (.slice none 0 0)), (.sc (.slice none 0 0)), (.sc (.slice none 0 0))], none⟩,
     ⟨none, false, .store 10 (.env 6) (.loc 39), none⟩,
     ⟨(some 7), true, .mv (.loc 40), none⟩]
@[simp] def r9_7 : List HOp := [⟨(some 42), false, .mv (.env 2), none⟩,
     ⟨(some 43), false, .callf 8 [(.loc 42), (.val (.tr (.sc (.string ⟨⟨[112, 46, 76, 35, 48]⟩⟩))))], none⟩,
     ⟨(some 41), false, .mv (.loc 43), none⟩,
     ⟨(some 44), false, .extract (.loc 41) 0, none⟩,
     ⟨(some 45), false, .extract (.loc 41) 1, none⟩,
     ⟨(some 8), true, .alloc [(.sc (.int .i64 0)), (.sc (.string ⟨⟨[]⟩⟩)), (.sc (.int .i64 0)), (.sc (.slice none 0 0)), (.sc (.slice none 0 0)), (.sc (.slice none 0 0)), (.sc (.slice none 0 0))], none⟩,
     ⟨none, false, .store 7 (.env 8) (.loc 44), none⟩,
     ⟨(some 9), true, .mv (.loc 45), none⟩]
@[simp] def r9_8 : List HOp := [⟨(some 46), false, .mv (.env 5), none⟩,
     ⟨(some 47), false, .mv (.loc 46), none⟩,
     ⟨(some 48), false, .faddr 0 (.env 4), some ((.loc 47), true)⟩,
     ⟨(some 49), false, .load 1 false (.loc 48), some ((.loc 47), true)⟩,
     ⟨(some 50), false, .bin .other .eql (.loc 49) (.val (.tr (.sc (.int .i64 5)))), some ((.loc 47), true)⟩,
     ⟨(some 51), false, .pick (.loc 47) (.loc 50) (.val (.tr (.sc (.bool false)))), none⟩,
     ⟨(some 52), false, .mv (.loc 51), none⟩,
     ⟨(some 53), false, .faddr 3 (.env 4), some ((.loc 52), true)⟩,
     ⟨(some 54), false, .load 1 false (.loc 53), some ((.loc 52), true)⟩,
     ⟨(some 55), false, .len 1 (.loc 54), some ((.loc 52), true)⟩,
     ⟨(some 56), false, .bin .other .eql (.loc 55) (.val (.tr (.sc (.int .i64 1)))), some ((.loc 52), true)⟩,
     ⟨(some 57), false, .pick (.loc 52) (.loc 56) (.val (.tr (.sc (.bool false)))), none⟩,
     ⟨(some 58), false, .mv (.loc 57), none⟩,
     ⟨(some 59), false, .faddr 3 (.env 4), some ((.loc 58), true)⟩,
     ⟨(some 60), false, .load 1 false (.loc 59), some ((.loc 58), true)⟩,
     ⟨(some 61), false, .iaddr 7 (.loc 60) (.val (.tr (.sc (.int .i64 0)))), some ((.loc 58), true)⟩,
     ⟨(some 62), false, .faddr 1 (.loc 61), some ((.loc 58), true)⟩,
     ⟨(some 63), false, .load 1 false (.loc 62), some ((.loc 58), true)⟩,
     ⟨(some 64), false, .bin .other .eql (.loc 63) (.val (.tr (.sc (.string ⟨⟨[105, 110, 116]⟩⟩)))), some ((.loc 58), true)⟩,
     ⟨(some 65), false, .pick (.loc 58) (.loc 64) (.val (.tr (.sc (.bool false)))), none⟩,
     ⟨(some 66), false, .mv (.loc 65), none⟩,
     ⟨(some 67), false, .mv (.env 7), some ((.loc 66), true)⟩,
     ⟨(some 68), false, .pick (.loc 66) (.loc 67) (.val (.tr (.sc (.bool false)))), none⟩,
     ⟨(some 69), false, .mv (.loc 68), none⟩,
     ⟨(some 70), false, .faddr 2 (.env 6), some ((.loc 69), true)⟩,
     ⟨(some 71), false, .faddr 0 (.loc 70), some ((.loc 69), true)⟩,
     ⟨(some 72), false, .load 1 false (.loc 71), some ((.loc 69), true)⟩,
     ⟨(some 73), false, .bin .other .eql (.loc 72) (.val (.tr (.sc (.int .i64 10)))), some ((.loc 69), true)⟩,
     ⟨(some 74), false, .pick (.loc 69) (.loc 73) (.val (.tr (.sc (.bool false)))), none⟩,
     ⟨(some 75), false, .mv (.loc 74), none⟩,
     ⟨(some 76), false, .mv (.env 9), some ((.loc 75), true)⟩,
     ⟨(some 77), false, .pick (.loc 75) (.loc 76) (.val (.tr (.sc (.bool false)))), none⟩,
     ⟨(some 78), false, .mv (.loc 77), none⟩,
     ⟨(some 79), false, .faddr 0 (.env 8), some ((.loc 78), true)⟩,
     ⟨(some 80), false, .load 1 false (.loc 79), some ((.loc 78), true)⟩,
     ⟨(some 81), false, .bin .other .eql (.loc 80) (.val (.tr (.sc (.int .i64 10)))), some ((.loc 78), true)⟩,
     ⟨(some 82), false, .pick (.loc 78) (.loc 81) (.val (.tr (.sc (.bool false)))), none⟩,
     ⟨(some 83), false, .mv (.loc 82), none⟩,
     ⟨(some 84), false, .mv (.env 2), some ((.loc 83), true)⟩,
     ⟨(some 85), false, .load 7 true (.env 4), some ((.loc 83), true)⟩,
     ⟨(some 86), false, .callf 11 [(.loc 84), (.loc 85)], some ((.loc 83), true)⟩,
     ⟨(some 87), false, .pick (.loc 83) (.loc 86) (.val (.tr (.sc (.bool false)))), none⟩,
     ⟨(some 88), false, .mv (.loc 87), none⟩,
     ⟨(some 89), false, .mv (.env 2), some ((.loc 88), true)⟩,
     ⟨(some 90), false, .callf 10 [(.loc 89)], some ((.loc 88), true)⟩,
     ⟨(some 91), false, .len 1 (.loc 90), some ((.loc 88), true)⟩,
     ⟨(some 92), false, .bin .other .eql (.loc 91) (.val (.tr (.sc (.int .i64 3)))), some ((.loc 88), true)⟩,
     ⟨(some 93), false, .pick (.loc 88) (.loc 92) (.val (.tr (.sc (.bool false)))), none⟩,
     ⟨(some 0), true, .mv (.loc 93), none⟩]
@[simp] def k9_4 : HCode := .seq (.region r9_4 none) .ret
@[simp] def k9_3 : HCode := .cond (.loc 27) k9_4 .skip
@[simp] def k9_8 : HCode := .seq (.region r9_8 none) .ret
@[simp] def k9_7 : HCode := .seq (.region r9_7 none) k9_8
@[simp] def k9_6 : HCode := .seq (.region r9_6 none) k9_7
def k9_5 : HCode := .seq (.region r9_5 none) k9_6
@[simp] def k9_2 : HCode := .seq (.seq (.region r9_3 none) k9_3) k9_5
@[simp] def k9_1 : HCode := .seq (.region r9_2 none) k9_2
@[simp] def k9_0 : HCode := .seq (.region r9_1 none) k9_1
@[simp] def fn9 : HFn := { nargs := 0, results := [.tmp 0], mode := .shared, code := (.seq (.region r9_0 none) k9_0) }
theorem c9 : cFn Tryz.prog (Hs 9) .shared 9 = some fn9 := by kernel_rfl
/- sterling/sterlingref11.Any -/
@[simp] def r20_0 : List HOp := [⟨(some 0), true, .alloc [(.sc (.int .i64 0)), (.sc (.string ⟨⟨[]⟩⟩)), (.sc (.int .i64 0)), (.sc (.slice none 0 0)), (.sc (.slice none 0 0)), (.sc (.slice none 0 0)), (.sc (.slice none 0 0))], none⟩]
@[simp] def r20_1 : List HOp := [⟨(some 1), false, .build [(.sc (.int .i64 0)), (.sc (.string ⟨⟨[]⟩⟩)), (.sc (.int .i64 0)), (.sc (.slice none 0 0)), (.sc (.slice none 0 0)), (.sc (.slice none 0 0)), (.sc (.slice none 0 0))] [(0, 1, (.val (.tr (.sc (.int .i64 10)))))], none⟩,
     ⟨none, false, .store 7 (.env 0) (.loc 1), none⟩]
@[simp] def k20_0 : HCode := .seq (.region r20_1 none) .ret
@[simp] def fn20 : HFn := { nargs := 0, results := [.cell 0 7 true], mode := .iso, code := (.seq (.region r20_0 none) k20_0) }
theorem c20 : cFn Tryz.prog (Hs 20) .iso 20 = some fn20 := by kernel_rfl
/- sterling/env.New -/
@[simp] def r13_0 : List HOp := [⟨(some 4), true, .mv (.val (.tr (.sc (.pointer none)))), none⟩,
     ⟨(some 5), true, .mv (.val (.tr (.sc (.bool false)))), none⟩]
@[simp] def r13_1 : List HOp := [⟨(some 21), false, .mkmap, none⟩,
     ⟨(some 22), false, .mkmap, none⟩,
     ⟨(some 23), false, .mkmap, none⟩,
     ⟨(some 24), false, .build [(.sc (.map none)), (.sc (.map none)), (.sc (.map none))] [(0, 1, (.loc 21)), (1, 1, (.loc 22)), (2, 1, (.loc 23))], none⟩,
     ⟨(some 25), false, .box false (.loc 24), none⟩,
     ⟨(some 6), true, .mv (.loc 25), none⟩]
@[simp] def r13_2 : List HOp := [⟨(some 26), true, .mv (.env 0), none⟩,
      ⟨(some 27), true, .len 1 (.env 26), none⟩,
      ⟨(some 28), true, .mv (.val (.tr (.sc (.int .i64 0)))), none⟩]
@[simp] def r13_3 : List HOp := [⟨(some 29), false, .bin .other .lss (.env 28) (.env 27), none⟩]
@[simp] def r13_4 : List HOp := [⟨(some 30), false, .iaddr 10 (.env 26) (.env 28), none⟩,
          ⟨(some 31), false, .load 10 true (.loc 30), none⟩,
          ⟨(some 8), true, .alloc [(.sc (.string ⟨⟨[]⟩⟩)), (.sc (.slice none 0 0)), (.sc (.int .i64 0)), (.sc (.string ⟨⟨[]⟩⟩)), (.sc (.int .i64 0)), (.sc (.slice none 0 0)), (.sc (.slice none 0 0)), (.sc (.slice none 0 0)), (.sc (.slice none 0 0)), (.sc (.slice none 0 0))], none⟩,
          ⟨none, false, .store 10 (.env 8) (.loc 31), none⟩]
@[simp] def r13_5 : List HOp := [⟨(some 33), false, .mv (.env 6), none⟩,
          ⟨(some 34), false, .faddr 0 (.env 8), none⟩,
          ⟨(some 35), false, .load 1 false (.loc 34), none⟩,
          ⟨(some 36), false, .callf 14 [(.loc 33), (.loc 35)], none⟩,
          ⟨(some 32), false, .mv (.loc 36), none⟩,
          ⟨(some 37), false, .extract (.loc 32) 0, none⟩,
          ⟨(some 38), false, .extract (.loc 32) 1, none⟩,
          ⟨(some 9), false, .alloc [(.sc (.string ⟨⟨[]⟩⟩)), (.sc (.slice none 0 0)), (.sc (.int .i64 0)), (.sc (.string ⟨⟨[]⟩⟩)), (.sc (.int .i64 0)), (.sc (.slice none 0 0)), (.sc (.slice none 0 0)), (.sc (.slice none 0 0)), (.sc (.slice none 0 0)), (.sc (.slice none 0 0))], none⟩,
          ⟨none, false, .store 10 (.loc 9) (.loc 37), none⟩,
          ⟨(some 10), true, .mv (.loc 38), none⟩]
@[simp] def r13_6 : List HOp := [⟨(some 39), false, .mv (.env 10), none⟩,
           ⟨(some 40), false, .mv (.loc 39), none⟩,
           ⟨(some 41), false, .faddr 0 (.env 8), some ((.loc 40), false)⟩,
           ⟨(some 42), false, .load 1 false (.loc 41), some ((.loc 40), false)⟩,
           ⟨(some 43), false, .bin .other .eql (.loc 42) (.val (.tr (.sc (.string ⟨⟨[]⟩⟩)))), some ((.loc 40), false)⟩,
           ⟨(some 44), false, .pick (.loc 40) (.val (.tr (.sc (.bool true)))) (.loc 43), none⟩]
@[simp] def r13_7 : List HOp := [⟨(some 4), true, .mv (.val (.tr (.sc (.pointer none)))), none⟩,
            ⟨(some 5), true, .mv (.val (.tr (.sc (.bool false)))), none⟩]
@[simp] def r13_8 : List HOp := [⟨(some 45), false, .mv (.env 6), none⟩,
         ⟨(some 46), false, .nilchk (.loc 45), none⟩,
         ⟨(some 47), false, .faddr 0 (.loc 46), none⟩,
         ⟨(some 48), false, .load 1 false (.loc 47), none⟩,
         ⟨(some 49), false, .faddr 0 (.env 8), none⟩,
         ⟨(some 50), false, .load 1 false (.loc 49), none⟩,
         ⟨(some 51), false, .load 10 true (.env 8), none⟩,
         ⟨(some 52), false, .callf 15 [(.loc 51)], none⟩,
         ⟨none, false, .mupd .string (.loc 48) (.loc 50) (.loc 52), none⟩]
@[simp] def r13_9 : List HOp := [⟨(some 53), false, .bin .other .add (.env 28) (.val (.tr (.sc (.int .i64 1)))), none⟩,
       ⟨(some 28), true, .mv (.loc 53), none⟩]
@[simp] def r13_10 : List HOp := [⟨(some 54), true, .mv (.env 1), none⟩,
      ⟨(some 55), true, .len 1 (.env 54), none⟩,
      ⟨(some 56), true, .mv (.val (.tr (.sc (.int .i64 0)))), none⟩]
@[simp] def r13_11 : List HOp := [⟨(some 57), false, .bin .other .lss (.env 56) (.env 55), none⟩]
@[simp] def r13_12 : List HOp := [⟨(some 58), false, .iaddr 8 (.env 54) (.env 56), none⟩,
          ⟨(some 59), false, .load 8 true (.loc 58), none⟩,
          ⟨(some 12), true, .alloc [(.sc (.string ⟨⟨[]⟩⟩)), (.sc (.int .i64 0)), (.sc (.string ⟨⟨[]⟩⟩)), (.sc (.int .i64 0)), (.sc (.slice none 0 0)), (.sc (.slice none 0 0)), (.sc (.slice none 0 0)), (.sc (.slice none 0 0))], none⟩,
          ⟨none, false, .store 8 (.env 12) (.loc 59), none⟩]
@[simp] def r13_13 : List HOp := [⟨(some 61), false, .mv (.env 6), none⟩,
           ⟨(some 62), false, .nilchk (.loc 61), none⟩,
           ⟨(some 63), false, .faddr 1 (.loc 62), none⟩,
           ⟨(some 64), false, .load 1 false (.loc 63), none⟩,
           ⟨(some 65), false, .faddr 0 (.env 12), none⟩,
           ⟨(some 66), false, .load 1 false (.loc 65), none⟩,
           ⟨(some 67), false, .lookup .string (.agg [(.sc (.int .i64 0)), (.sc (.string ⟨⟨[]⟩⟩)), (.sc (.int .i64 0)), (.sc (.slice none 0 0)), (.sc (.slice none 0 0)), (.sc (.slice none 0 0)), (.sc (.slice none 0 0))]) true (.loc 64) (.loc 66), none⟩,
           ⟨(some 60), false, .mv (.loc 67), none⟩,
           ⟨(some 68), false, .extract (.loc 60) 0, none⟩,
           ⟨(some 69), false, .extract (.loc 60) 1, none⟩,
           ⟨(some 13), false, .alloc [(.sc (.int .i64 0)), (.sc (.string ⟨⟨[]⟩⟩)), (.sc (.int .i64 0)), (.sc (.slice none 0 0)), (.sc (.slice none 0 0)), (.sc (.slice none 0 0)), (.sc (.slice none 0 0))], none⟩,
           ⟨none, false, .store 7 (.loc 13) (.loc 68), none⟩,
           ⟨(some 14), true, .mv (.loc 69), none⟩]
@[simp] def r13_14 : List HOp := [⟨(some 70), false, .mv (.env 14), none⟩,
           ⟨(some 71), false, .mv (.loc 70), none⟩,
           ⟨(some 72), false, .faddr 0 (.env 12), some ((.loc 71), false)⟩,
           ⟨(some 73), false, .load 1 false (.loc 72), some ((.loc 71), false)⟩,
           ⟨(some 74), false, .bin .other .eql (.loc 73) (.val (.tr (.sc (.string ⟨⟨[]⟩⟩)))), some ((.loc 71), false)⟩,
           ⟨(some 75), false, .pick (.loc 71) (.val (.tr (.sc (.bool true)))) (.loc 74), none⟩,
           ⟨(some 76), false, .mv (.loc 75), none⟩,
           ⟨(some 77), false, .faddr 0 (.env 12), some ((.loc 76), false)⟩,
           ⟨(some 78), false, .load 1 false (.loc 77), some ((.loc 76), false)⟩,
           ⟨(some 79), false, .callf 25 [(.loc 78), (.val (.tr (.sc (.string ⟨⟨[35]⟩⟩))))], some ((.loc 76), false)⟩,
           ⟨(some 80), false, .pick (.loc 76) (.val (.tr (.sc (.bool true)))) (.loc 79), none⟩]
@[simp] def r13_15 : List HOp := [⟨(some 4), true, .mv (.val (.tr (.sc (.pointer none)))), none⟩,
            ⟨(some 5), true, .mv (.val (.tr (.sc (.bool false)))), none⟩]
@[simp] def r13_16 : List HOp := [⟨(some 81), false, .mv (.env 6), none⟩,
         ⟨(some 82), false, .nilchk (.loc 81), none⟩,
         ⟨(some 83), false, .faddr 1 (.loc 82), none⟩,
         ⟨(some 84), false, .load 1 false (.loc 83), none⟩,
         ⟨(some 85), false, .faddr 0 (.env 12), none⟩,
         ⟨(some 86), false, .load 1 false (.loc 85), none⟩,
         ⟨(some 87), false, .faddr 1 (.env 12), none⟩,
         ⟨(some 88), false, .load 7 true (.loc 87), none⟩,
         ⟨(some 89), false, .callf 19 [(.loc 88)], none⟩,
         ⟨none, false, .mupd .string (.loc 84) (.loc 86) (.loc 89), none⟩]
@[simp] def r13_17 : List HOp := [⟨(some 90), false, .bin .other .add (.env 56) (.val (.tr (.sc (.int .i64 1)))), none⟩,
       ⟨(some 56), true, .mv (.loc 90), none⟩]
@[simp] def r13_18 : List HOp := [⟨(some 91), true, .mv (.env 0), none⟩,
      ⟨(some 92), true, .len 1 (.env 91), none⟩,
      ⟨(some 93), true, .mv (.val (.tr (.sc (.int .i64 0)))), none⟩]
@[simp] def r13_19 : List HOp := [⟨(some 94), false, .bin .other .lss (.env 93) (.env 92), none⟩]
@[simp] def r13_20 : List HOp := [⟨(some 95), false, .iaddr 10 (.env 91) (.env 93), none⟩,
          ⟨(some 96), false, .load 10 true (.loc 95), none⟩,
          ⟨(some 16), true, .alloc [(.sc (.string ⟨⟨[]⟩⟩)), (.sc (.slice none 0 0)), (.sc (.int .i64 0)), (.sc (.string ⟨⟨[]⟩⟩)), (.sc (.int .i64 0)), (.sc (.slice none 0 0)), (.sc (.slice none 0 0)), (.sc (.slice none 0 0)), (.sc (.slice none 0 0)), (.sc (.slice none 0 0))], none⟩,
          ⟨none, false, .store 10 (.env 16) (.loc 96), none⟩]
@[simp] def r13_21 : List HOp := [⟨(some 97), false, .mv (.env 6), none⟩,
           ⟨(some 98), false, .load 10 true (.env 16), none⟩,
           ⟨(some 99), false, .callf 26 [(.loc 97), (.loc 98)], none⟩,
           ⟨(some 100), false, .un .not (.loc 99), none⟩]
@[simp] def r13_22 : List HOp := [⟨(some 4), true, .mv (.val (.tr (.sc (.pointer none)))), none⟩,
            ⟨(some 5), true, .mv (.val (.tr (.sc (.bool false)))), none⟩]
@[simp] def r13_23 : List HOp := [⟨(some 101), false, .load 10 true (.env 16), none⟩,
          ⟨(some 102), true, .callf 27 [(.loc 101)], none⟩,
          ⟨(some 103), true, .len 1 (.env 102), none⟩,
          ⟨(some 104), true, .mv (.val (.tr (.sc (.int .i64 0)))), none⟩]
@[simp] def r13_24 : List HOp := [⟨(some 105), false, .bin .other .lss (.env 104) (.env 103), none⟩]
@[simp] def r13_25 : List HOp := [⟨(some 106), false, .mv (.env 104), none⟩,
              ⟨(some 107), false, .iaddr 1 (.env 102) (.env 104), none⟩,
              ⟨(some 108), false, .load 1 false (.loc 107), none⟩,
              ⟨(some 17), true, .mv (.loc 106), none⟩,
              ⟨(some 18), true, .mv (.loc 108), none⟩]
@[simp] def r13_26 : List HOp := [⟨(some 109), false, .mv (.env 6), none⟩,
             ⟨(some 110), false, .nilchk (.loc 109), none⟩,
             ⟨(some 111), false, .faddr 1 (.loc 110), none⟩,
             ⟨(some 112), false, .load 1 false (.loc 111), none⟩,
             ⟨(some 113), false, .mv (.env 18), none⟩,
             ⟨(some 114), false, .faddr 1 (.env 16), none⟩,
             ⟨(some 115), false, .load 1 false (.loc 114), none⟩,
             ⟨(some 116), false, .mv (.env 17), none⟩,
             ⟨(some 117), false, .iaddr 7 (.loc 115) (.loc 116), none⟩,
             ⟨(some 118), false, .load 7 true (.loc 117), none⟩,
             ⟨(some 119), false, .callf 19 [(.loc 118)], none⟩,
             ⟨none, false, .mupd .string (.loc 112) (.loc 113) (.loc 119), none⟩]
@[simp] def r13_27 : List HOp := [⟨(some 120), false, .bin .other .add (.env 104) (.val (.tr (.sc (.int .i64 1)))), none⟩,
           ⟨(some 104), true, .mv (.loc 120), none⟩]
@[simp] def r13_28 : List HOp := [⟨(some 121), false, .bin .other .add (.env 93) (.val (.tr (.sc (.int .i64 1)))), none⟩,
       ⟨(some 93), true, .mv (.loc 121), none⟩]
@[simp] def r13_29 : List HOp := [⟨(some 122), true, .mv (.env 1), none⟩,
      ⟨(some 123), true, .len 1 (.env 122), none⟩,
      ⟨(some 124), true, .mv (.val (.tr (.sc (.int .i64 0)))), none⟩]
@[simp] def r13_30 : List HOp := [⟨(some 125), false, .bin .other .lss (.env 124) (.env 123), none⟩]
@[simp] def r13_31 : List HOp := [⟨(some 126), false, .iaddr 8 (.env 122) (.env 124), none⟩,
          ⟨(some 127), false, .load 8 true (.loc 126), none⟩,
          ⟨(some 20), true, .alloc [(.sc (.string ⟨⟨[]⟩⟩)), (.sc (.int .i64 0)), (.sc (.string ⟨⟨[]⟩⟩)), (.sc (.int .i64 0)), (.sc (.slice none 0 0)), (.sc (.slice none 0 0)), (.sc (.slice none 0 0)), (.sc (.slice none 0 0))], none⟩,
          ⟨none, false, .store 8 (.env 20) (.loc 127), none⟩]
@[simp] def r13_32 : List HOp := [⟨(some 128), false, .faddr 1 (.env 20), none⟩,
          ⟨(some 129), false, .load 7 true (.loc 128), none⟩,
          ⟨(some 130), false, .callf 16 [(.loc 129)], none⟩,
          ⟨(some 131), false, .un .not (.loc 130), none⟩,
          ⟨(some 132), false, .mv (.loc 131), none⟩,
          ⟨(some 133), false, .mv (.env 6), some ((.loc 132), false)⟩,
          ⟨(some 134), false, .faddr 1 (.env 20), some ((.loc 132), false)⟩,
          ⟨(some 135), false, .load 7 true (.loc 134), some ((.loc 132), false)⟩,
          ⟨(some 136), false, .faddr 1 (.env 20), some ((.loc 132), false)⟩,
          ⟨(some 137), false, .load 7 true (.loc 136), some ((.loc 132), false)⟩,
          ⟨(some 138), false, .callf 29 [(.loc 137)], some ((.loc 132), false)⟩,
          ⟨(some 139), false, .callf 28 [(.loc 133), (.loc 135), (.loc 138)], some ((.loc 132), false)⟩,
          ⟨(some 140), false, .un .not (.loc 139), some ((.loc 132), false)⟩,
          ⟨(some 141), false, .pick (.loc 132) (.val (.tr (.sc (.bool true)))) (.loc 140), none⟩]
@[simp] def r13_33 : List HOp := [⟨(some 4), true, .mv (.val (.tr (.sc (.pointer none)))), none⟩,
           ⟨(some 5), true, .mv (.val (.tr (.sc (.bool false)))), none⟩]
@[simp] def r13_34 : List HOp := [⟨(some 142), false, .bin .other .add (.env 124) (.val (.tr (.sc (.int .i64 1)))), none⟩,
       ⟨(some 124), true, .mv (.loc 142), none⟩]
@[simp] def r13_35 : List HOp := [⟨(some 143), false, .mv (.env 6), none⟩,
     ⟨(some 4), true, .mv (.loc 143), none⟩,
     ⟨(some 5), true, .mv (.val (.tr (.sc (.bool true)))), none⟩]
@[simp] def k13_9 : HCode := .seq (.region r13_7 none) .ret
@[simp] def k13_8 : HCode := .cond (.loc 44) k13_9 .skip
def k13_10 : HCode := .region r13_8 (some [ ( 0, [ 6 ] ) , ( 0, [ 45 ] ) , ( 0, [ 46 ] ) , ( 11, [ 47 ] ) , ( 0, [ 8 ] ) , ( 11, [ 49 ] ) , ( 1, [ 8 ] ) , ( 2, [ 51 ] ) , ( 2, [ 48, 50, 52 ] ) ])
@[simp] def k13_7 : HCode := .seq (.seq (.region r13_6 none) k13_8) k13_10
@[simp] def k13_6 : HCode := .seq (.region r13_5 none) k13_7
def k13_11 : HCode := .region r13_9 none
def k13_5 : HCode := .seq (.block 1 (.seq (.region r13_4 none) k13_6)) k13_11
@[simp] def k13_4 : HCode := .seq (.cond (.loc 29) .skip (.exit 0)) k13_5
def k13_3 : HCode := .seq (.region r13_3 none) k13_4
@[simp] def k13_2 : HCode := .block 0 (.loop k13_3)
@[simp] def k13_20 : HCode := .seq (.region r13_15 none) .ret
@[simp] def k13_19 : HCode := .cond (.loc 80) k13_20 .skip
@[simp] def k13_18 : HCode := .seq (.region r13_14 none) k13_19
def k13_21 : HCode := .region r13_16 (some [ ( 0, [ 6 ] ) , ( 0, [ 81 ] ) , ( 0, [ 82 ] ) , ( 12, [ 83 ] ) , ( 0, [ 12 ] ) , ( 12, [ 85 ] ) , ( 0, [ 12 ] ) , ( 1, [ 87 ] ) , ( 2, [ 88 ] ) , ( 2, [ 84, 86, 89 ] ) ])
@[simp] def k13_17 : HCode := .seq (.seq (.region r13_13 (some [ ( 0, [ 6 ] ) , ( 0, [ 61 ] ) , ( 0, [ 62 ] ) , ( 14, [ 63 ] ) , ( 0, [ 12 ] ) , ( 14, [ 65 ] ) , ( 14, [ 64, 66 ] ) , ( 0, [ 67 ] ) , ( 0, [ 60 ] ) , ( 0, [ 60 ] ) , ( 2, [ ] ) , ( 2, [ 13, 68 ] ) , ( 0, [ 69 ] ) ])) k13_18) k13_21
def k13_22 : HCode := .region r13_17 none
def k13_16 : HCode := .seq (.block 3 (.seq (.region r13_12 none) k13_17)) k13_22
@[simp] def k13_15 : HCode := .seq (.cond (.loc 57) .skip (.exit 2)) k13_16
def k13_14 : HCode := .seq (.region r13_11 none) k13_15
@[simp] def k13_13 : HCode := .block 2 (.loop k13_14)
@[simp] def k13_30 : HCode := .seq (.region r13_22 none) .ret
@[simp] def k13_29 : HCode := .cond (.loc 100) k13_30 .skip
def k13_35 : HCode := .seq (.block 7 (.seq (.region r13_25 none) (.region r13_26 (some [ ( 0, [ 6 ] ) , ( 0, [ 109 ] ) , ( 0, [ 110 ] ) , ( 14, [ 111 ] ) , ( 0, [ 18 ] ) , ( 0, [ 16 ] ) , ( 1, [ 114 ] ) , ( 0, [ 17 ] ) , ( 1, [ 115, 116 ] ) , ( 1, [ 117 ] ) , ( 2, [ 118 ] ) , ( 2, [ 112, 113, 119 ] ) ])))) (.region r13_27 none)
@[simp] def k13_34 : HCode := .seq (.cond (.loc 105) .skip (.exit 6)) k13_35
def k13_33 : HCode := .seq (.region r13_24 none) k13_34
@[simp] def k13_32 : HCode := .block 6 (.loop k13_33)
def k13_31 : HCode := .seq (.region r13_23 none) k13_32
@[simp] def k13_28 : HCode := .seq (.seq (.region r13_21 none) k13_29) k13_31
def k13_36 : HCode := .region r13_28 none
def k13_27 : HCode := .seq (.block 5 (.seq (.region r13_20 none) k13_28)) k13_36
@[simp] def k13_26 : HCode := .seq (.cond (.loc 94) .skip (.exit 4)) k13_27
def k13_25 : HCode := .seq (.region r13_19 none) k13_26
@[simp] def k13_24 : HCode := .block 4 (.loop k13_25)
@[simp] def k13_44 : HCode := .seq (.region r13_33 none) .ret
@[simp] def k13_43 : HCode := .cond (.loc 141) k13_44 .skip
@[simp] def k13_42 : HCode := .seq (.region r13_32 (some [ ( 0, [ 20 ] ) , ( 2, [ 128 ] ) , ( 2, [ 129 ] ) , ( 0, [ 130 ] ) , ( 0, [ 131 ] ) , ( 0, [ 6, 132 ] ) , ( 0, [ 20, 132 ] ) , ( 14, [ 134, 132 ] ) , ( 0, [ 20, 132 ] ) , ( 1, [ 136, 132 ] ) , ( 2, [ 137, 132 ] ) , ( 2, [ 133, 135, 138, 132 ] ) , ( 0, [ 139, 132 ] ) , ( 0, [ 132, 140 ] ) ])) k13_43
def k13_45 : HCode := .region r13_34 none
def k13_41 : HCode := .seq (.block 9 (.seq (.region r13_31 none) k13_42)) k13_45
@[simp] def k13_40 : HCode := .seq (.cond (.loc 125) .skip (.exit 8)) k13_41
def k13_39 : HCode := .seq (.region r13_30 none) k13_40
@[simp] def k13_38 : HCode := .block 8 (.loop k13_39)
def k13_46 : HCode := .seq (.region r13_35 none) .ret
def k13_37 : HCode := .seq (.seq (.region r13_29 none) k13_38) k13_46
def k13_23 : HCode := .seq (.seq (.region r13_18 none) k13_24) k13_37
def k13_12 : HCode := .seq (.seq (.region r13_10 none) k13_13) k13_23
@[simp] def k13_1 : HCode := .seq (.seq (.region r13_2 none) k13_2) k13_12
@[simp] def k13_0 : HCode := .seq (.region r13_1 none) k13_1
@[simp] def fn13 : HFn := { nargs := 2, results := [.tmp 4, .tmp 5], mode := .shared, code := (.seq (.region r13_0 none) k13_0) }
theorem c13 : cFn Tryz.prog (Hs 13) .shared 13 = some fn13 := by kernel_rfl
/- (*sterling/env.Env).right -/
@[simp] def r26_0 : List HOp := [⟨(some 3), true, .box false (.env 1), none⟩,
     ⟨(some 4), true, .mv (.val (.tr (.sc (.bool false)))), none⟩]
@[simp] def r26_1 : List HOp := [⟨(some 11), false, .load 10 true (.env 3), none⟩,
     ⟨(some 12), false, .callf 27 [(.loc 11)], none⟩,
     ⟨(some 5), true, .mv (.loc 12), none⟩]
@[simp] def r26_2 : List HOp := [⟨(some 13), false, .faddr 1 (.env 3), none⟩,
      ⟨(some 14), true, .load 1 false (.loc 13), none⟩,
      ⟨(some 15), true, .len 1 (.env 14), none⟩,
      ⟨(some 16), true, .mv (.val (.tr (.sc (.int .i64 0)))), none⟩]
@[simp] def r26_3 : List HOp := [⟨(some 17), false, .bin .other .lss (.env 16) (.env 15), none⟩]
@[simp] def r26_4 : List HOp := [⟨(some 18), false, .iaddr 7 (.env 14) (.env 16), none⟩,
          ⟨(some 19), false, .load 7 true (.loc 18), none⟩,
          ⟨(some 7), true, .alloc [(.sc (.int .i64 0)), (.sc (.string ⟨⟨[]⟩⟩)), (.sc (.int .i64 0)), (.sc (.slice none 0 0)), (.sc (.slice none 0 0)), (.sc (.slice none 0 0)), (.sc (.slice none 0 0))], none⟩,
          ⟨none, false, .store 7 (.env 7) (.loc 19), none⟩]
@[simp] def r26_5 : List HOp := [⟨(some 20), false, .mv (.env 0), none⟩,
          ⟨(some 21), false, .load 7 true (.env 7), none⟩,
          ⟨(some 22), false, .mv (.env 5), none⟩,
          ⟨(some 23), false, .callf 28 [(.loc 20), (.loc 21), (.loc 22)], none⟩,
          ⟨(some 24), false, .un .not (.loc 23), none⟩]
@[simp] def r26_6 : List HOp := [⟨(some 4), true, .mv (.val (.tr (.sc (.bool false)))), none⟩]
@[simp] def r26_7 : List HOp := [⟨(some 25), false, .bin .other .add (.env 16) (.val (.tr (.sc (.int .i64 1)))), none⟩,
       ⟨(some 16), true, .mv (.loc 25), none⟩]
@[simp] def r26_8 : List HOp := [⟨(some 26), false, .mkmap, none⟩,
     ⟨(some 8), true, .mv (.loc 26), none⟩]
@[simp] def r26_9 : List HOp := [⟨(some 27), false, .faddr 9 (.env 3), none⟩,
      ⟨(some 28), true, .load 1 false (.loc 27), none⟩,
      ⟨(some 29), true, .len 1 (.env 28), none⟩,
      ⟨(some 30), true, .mv (.val (.tr (.sc (.int .i64 0)))), none⟩]
@[simp] def r26_10 : List HOp := [⟨(some 31), false, .bin .other .lss (.env 30) (.env 29), none⟩]
@[simp] def r26_11 : List HOp := [⟨(some 32), false, .iaddr 9 (.env 28) (.env 30), none⟩,
          ⟨(some 33), false, .load 9 true (.loc 32), none⟩,
          ⟨(some 10), true, .alloc [(.sc (.string ⟨⟨[]⟩⟩)), (.sc (.bool false)), (.sc (.int .i64 0)), (.sc (.string ⟨⟨[]⟩⟩)), (.sc (.int .i64 0)), (.sc (.slice none 0 0)), (.sc (.slice none 0 0)), (.sc (.slice none 0 0)), (.sc (.slice none 0 0))], none⟩,
          ⟨none, false, .store 9 (.env 10) (.loc 33), none⟩]
@[simp] def r26_12 : List HOp := [⟨(some 34), false, .mv (.env 8), none⟩,
          ⟨(some 35), false, .faddr 0 (.env 10), none⟩,
          ⟨(some 36), false, .load 1 false (.loc 35), none⟩,
          ⟨(some 37), false, .lookup .string (.sc (.int .i64 0)) false (.loc 34) (.loc 36), none⟩,
          ⟨(some 38), false, .bin .other .add (.loc 37) (.val (.tr (.sc (.int .i64 1)))), none⟩,
          ⟨none, false, .mupd .string (.loc 34) (.loc 36) (.loc 38), none⟩]
@[simp] def r26_13 : List HOp := [⟨(some 39), false, .mv (.env 8), none⟩,
          ⟨(some 40), false, .faddr 0 (.env 10), none⟩,
          ⟨(some 41), false, .load 1 false (.loc 40), none⟩,
          ⟨(some 42), false, .lookup .string (.sc (.int .i64 0)) false (.loc 39) (.loc 41), none⟩,
          ⟨(some 43), false, .bin .other .gtr (.loc 42) (.val (.tr (.sc (.int .i64 1)))), none⟩,
          ⟨(some 44), false, .mv (.loc 43), none⟩,
          ⟨(some 45), false, .faddr 0 (.env 10), some ((.loc 44), false)⟩,
          ⟨(some 46), false, .load 1 false (.loc 45), some ((.loc 44), false)⟩,
          ⟨(some 47), false, .callf 41 [(.loc 46)], some ((.loc 44), false)⟩,
          ⟨(some 48), false, .un .not (.loc 47), some ((.loc 44), false)⟩,
          ⟨(some 49), false, .pick (.loc 44) (.val (.tr (.sc (.bool true)))) (.loc 48), none⟩,
          ⟨(some 50), false, .mv (.loc 49), none⟩,
          ⟨(some 51), false, .faddr 2 (.env 10), some ((.loc 50), false)⟩,
          ⟨(some 52), false, .faddr 0 (.loc 51), some ((.loc 50), false)⟩,
          ⟨(some 53), false, .load 1 false (.loc 52), some ((.loc 50), false)⟩,
          ⟨(some 54), false, .bin .other .neq (.loc 53) (.val (.tr (.sc (.int .i64 8)))), some ((.loc 50), false)⟩,
          ⟨(some 55), false, .pick (.loc 50) (.val (.tr (.sc (.bool true)))) (.loc 54), none⟩,
          ⟨(some 56), false, .mv (.loc 55), none⟩,
          ⟨(some 57), false, .mv (.env 0), some ((.loc 56), false)⟩,
          ⟨(some 58), false, .faddr 2 (.env 10), some ((.loc 56), false)⟩,
          ⟨(some 59), false, .load 7 true (.loc 58), some ((.loc 56), false)⟩,
          ⟨(some 60), false, .mv (.env 5), some ((.loc 56), false)⟩,
          ⟨(some 61), false, .callf 28 [(.loc 57), (.loc 59), (.loc 60)], some ((.loc 56), false)⟩,
          ⟨(some 62), false, .un .not (.loc 61), some ((.loc 56), false)⟩,
          ⟨(some 63), false, .pick (.loc 56) (.val (.tr (.sc (.bool true)))) (.loc 62), none⟩]
@[simp] def r26_14 : List HOp := [⟨(some 4), true, .mv (.val (.tr (.sc (.bool false)))), none⟩]
@[simp] def r26_15 : List HOp := [⟨(some 64), false, .bin .other .add (.env 30) (.val (.tr (.sc (.int .i64 1)))), none⟩,
       ⟨(some 30), true, .mv (.loc 64), none⟩]
@[simp] def r26_16 : List HOp := [⟨(some 65), false, .mv (.env 0), none⟩,
     ⟨(some 66), false, .faddr 2 (.env 3), none⟩,
     ⟨(some 67), false, .load 7 true (.loc 66), none⟩,
     ⟨(some 68), false, .mv (.env 5), none⟩,
     ⟨(some 69), false, .callf 28 [(.loc 65), (.loc 67), (.loc 68)], none⟩,
     ⟨(some 70), false, .mv (.loc 69), none⟩,
     ⟨(some 71), false, .faddr 2 (.env 3), some ((.loc 70), true)⟩,
     ⟨(some 72), false, .faddr 0 (.loc 71), some ((.loc 70), true)⟩,
     ⟨(some 73), false, .load 1 false (.loc 72), some ((.loc 70), true)⟩,
     ⟨(some 74), false, .bin .other .neq (.loc 73) (.val (.tr (.sc (.int .i64 3)))), some ((.loc 70), true)⟩,
     ⟨(some 75), false, .pick (.loc 70) (.loc 74) (.val (.tr (.sc (.bool false)))), none⟩,
     ⟨(some 4), true, .mv (.loc 75), none⟩]
@[simp] def k26_8 : HCode := .seq (.region r26_6 none) .ret
@[simp] def k26_7 : HCode := .cond (.loc 24) k26_8 .skip
@[simp] def k26_6 : HCode := .seq (.region r26_5 none) k26_7
def k26_9 : HCode := .region r26_7 none
def k26_5 : HCode := .seq (.block 1 (.seq (.region r26_4 none) k26_6)) k26_9
@[simp] def k26_4 : HCode := .seq (.cond (.loc 17) .skip (.exit 0)) k26_5
def k26_3 : HCode := .seq (.region r26_3 none) k26_4
@[simp] def k26_2 : HCode := .block 0 (.loop k26_3)
@[simp] def k26_19 : HCode := .seq (.region r26_14 none) .ret
@[simp] def k26_18 : HCode := .cond (.loc 63) k26_19 .skip
@[simp] def k26_17 : HCode := .seq (.region r26_13 none) k26_18
@[simp] def k26_16 : HCode := .seq (.region r26_12 none) k26_17
def k26_20 : HCode := .region r26_15 none
def k26_15 : HCode := .seq (.block 3 (.seq (.region r26_11 none) k26_16)) k26_20
@[simp] def k26_14 : HCode := .seq (.cond (.loc 31) .skip (.exit 2)) k26_15
def k26_13 : HCode := .seq (.region r26_10 none) k26_14
@[simp] def k26_12 : HCode := .block 2 (.loop k26_13)
def k26_21 : HCode := .seq (.region r26_16 none) .ret
@[simp] def k26_11 : HCode := .seq (.seq (.region r26_9 none) k26_12) k26_21
def k26_10 : HCode := .seq (.region r26_8 none) k26_11
@[simp] def k26_1 : HCode := .seq (.seq (.region r26_2 none) k26_2) k26_10
@[simp] def k26_0 : HCode := .seq (.region r26_1 none) k26_1
@[simp] def fn26 : HFn := { nargs := 2, results := [.tmp 4], mode := .shared, code := (.seq (.region r26_0 none) k26_0) }
theorem c26 : cFn Tryz.prog (Hs 26) .shared 26 = some fn26 := by kernel_rfl
/- (*sterling/env.Env).fine -/
@[simp] def r28_0 : List HOp := [⟨(some 4), true, .box false (.env 1), none⟩,
     ⟨(some 6), true, .mv (.val (.tr (.sc (.bool false)))), none⟩]
@[simp] def r28_1 : List HOp := [⟨(some 9), false, .load 7 true (.env 4), none⟩,
      ⟨(some 10), false, .callf 16 [(.loc 9)], none⟩,
      ⟨(some 11), false, .un .not (.loc 10), none⟩,
      ⟨(some 12), false, .mv (.loc 11), none⟩,
      ⟨(some 13), false, .faddr 0 (.env 4), some ((.loc 12), false)⟩,
      ⟨(some 14), false, .load 1 false (.loc 13), some ((.loc 12), false)⟩,
      ⟨(some 15), false, .bin .other .eql (.loc 14) (.val (.tr (.sc (.int .i64 11)))), some ((.loc 12), false)⟩,
      ⟨(some 16), false, .pick (.loc 12) (.val (.tr (.sc (.bool true)))) (.loc 15), none⟩,
      ⟨(some 17), false, .mv (.loc 16), none⟩,
      ⟨(some 18), false, .faddr 0 (.env 4), some ((.loc 17), false)⟩,
      ⟨(some 19), false, .load 1 false (.loc 18), some ((.loc 17), false)⟩,
      ⟨(some 20), false, .bin .other .eql (.loc 19) (.val (.tr (.sc (.int .i64 12)))), some ((.loc 17), false)⟩,
      ⟨(some 21), false, .pick (.loc 17) (.val (.tr (.sc (.bool true)))) (.loc 20), none⟩,
      ⟨(some 22), false, .mv (.loc 21), none⟩,
      ⟨(some 23), false, .faddr 0 (.env 4), some ((.loc 22), false)⟩,
      ⟨(some 24), false, .load 1 false (.loc 23), some ((.loc 22), false)⟩,
      ⟨(some 25), false, .bin .other .eql (.loc 24) (.val (.tr (.sc (.int .i64 13)))), some ((.loc 22), false)⟩,
      ⟨(some 26), false, .pick (.loc 22) (.val (.tr (.sc (.bool true)))) (.loc 25), none⟩,
      ⟨(some 27), false, .mv (.loc 26), none⟩,
      ⟨(some 28), false, .mv (.env 0), some ((.loc 27), false)⟩,
      ⟨(some 29), false, .load 7 true (.env 4), some ((.loc 27), false)⟩,
      ⟨(some 30), false, .callf 17 [(.loc 28), (.loc 29)], some ((.loc 27), false)⟩,
      ⟨(some 31), false, .un .not (.loc 30), some ((.loc 27), false)⟩,
      ⟨(some 32), false, .pick (.loc 27) (.val (.tr (.sc (.bool true)))) (.loc 31), none⟩]
@[simp] def r28_2 : List HOp := [⟨(some 6), true, .mv (.val (.tr (.sc (.bool false)))), none⟩]
@[simp] def r28_3 : List HOp := [⟨(some 33), false, .load 7 true (.env 4), none⟩,
      ⟨(some 34), true, .callf 29 [(.loc 33)], none⟩,
      ⟨(some 35), true, .len 1 (.env 34), none⟩,
      ⟨(some 36), true, .mv (.val (.tr (.sc (.int .i64 0)))), none⟩]
@[simp] def r28_4 : List HOp := [⟨(some 37), false, .bin .other .lss (.env 36) (.env 35), none⟩]
@[simp] def r28_5 : List HOp := [⟨(some 38), false, .iaddr 1 (.env 34) (.env 36), none⟩,
          ⟨(some 39), false, .load 1 false (.loc 38), none⟩,
          ⟨(some 8), true, .mv (.loc 39), none⟩]
@[simp] def r28_6 : List HOp := [⟨(some 40), false, .mv (.env 2), none⟩,
          ⟨(some 41), false, .mv (.env 8), none⟩,
          ⟨(some 42), false, .callf 43 [(.loc 40), (.loc 41)], none⟩,
          ⟨(some 43), false, .un .not (.loc 42), none⟩]
@[simp] def r28_7 : List HOp := [⟨(some 6), true, .mv (.val (.tr (.sc (.bool false)))), none⟩]
@[simp] def r28_8 : List HOp := [⟨(some 44), false, .bin .other .add (.env 36) (.val (.tr (.sc (.int .i64 1)))), none⟩,
       ⟨(some 36), true, .mv (.loc 44), none⟩]
@[simp] def r28_9 : List HOp := [⟨(some 6), true, .mv (.val (.tr (.sc (.bool true)))), none⟩]
@[simp] def k28_2 : HCode := .seq (.region r28_2 none) .ret
@[simp] def k28_1 : HCode := .cond (.loc 32) k28_2 .skip
@[simp] def k28_10 : HCode := .seq (.region r28_7 none) .ret
@[simp] def k28_9 : HCode := .cond (.loc 43) k28_10 .skip
@[simp] def k28_8 : HCode := .seq (.region r28_6 none) k28_9
def k28_11 : HCode := .region r28_8 none
def k28_7 : HCode := .seq (.block 1 (.seq (.region r28_5 none) k28_8)) k28_11
@[simp] def k28_6 : HCode := .seq (.cond (.loc 37) .skip (.exit 0)) k28_7
def k28_5 : HCode := .seq (.region r28_4 none) k28_6
@[simp] def k28_4 : HCode := .block 0 (.loop k28_5)
def k28_12 : HCode := .seq (.region r28_9 none) .ret
def k28_3 : HCode := .seq (.seq (.region r28_3 none) k28_4) k28_12
@[simp] def k28_0 : HCode := .seq (.seq (.region r28_1 none) k28_1) k28_3
@[simp] def fn28 : HFn := { nargs := 3, results := [.tmp 6], mode := .shared, code := (.seq (.region r28_0 none) k28_0) }
theorem c28 : cFn Tryz.prog (Hs 28) .shared 28 = some fn28 := by kernel_rfl
/- sterling/subst.Free -/
@[simp] def r29_0 : List HOp := [⟨(some 1), true, .box false (.env 0), none⟩,
     ⟨(some 2), true, .mv (.val (.tr (.sc (.slice none 0 0)))), none⟩]
@[simp] def r29_1 : List HOp := [⟨(some 4), false, .load 7 true (.env 1), none⟩,
      ⟨(some 5), false, .callf 16 [(.loc 4)], none⟩,
      ⟨(some 6), false, .un .not (.loc 5), none⟩]
@[simp] def r29_2 : List HOp := [⟨(some 2), true, .mv (.val (.tr (.sc (.slice none 0 0)))), none⟩]
@[simp] def r29_3 : List HOp := [⟨(some 3), true, .alloc [(.sc (.slice none 0 0))], none⟩]
@[simp] def r29_4 : List HOp := [⟨(some 7), false, .load 7 true (.env 1), none⟩,
     ⟨(some 8), false, .mkfn (.func 45) [] [(.env 3)], none⟩,
     ⟨(some 9), false, .callf 44 [(.loc 7), (.loc 8)], none⟩]
@[simp] def r29_5 : List HOp := [⟨(some 10), false, .load 1 false (.env 3), none⟩,
     ⟨(some 11), false, .callf 21 [(.loc 10)], none⟩]
@[simp] def r29_6 : List HOp := [⟨(some 12), false, .load 1 false (.env 3), none⟩,
     ⟨(some 13), false, .callf 47 [(.loc 12)], none⟩,
     ⟨(some 14), false, .callf 46 [(.loc 13)], none⟩,
     ⟨(some 2), true, .mv (.loc 14), none⟩]
@[simp] def k29_2 : HCode := .seq (.region r29_2 none) .ret
@[simp] def k29_1 : HCode := .cond (.loc 6) k29_2 .skip
@[simp] def k29_6 : HCode := .seq (.region r29_6 none) .ret
@[simp] def k29_5 : HCode := .seq (.region r29_5 none) k29_6
@[simp] def k29_4 : HCode := .seq (.region r29_4 none) k29_5
def k29_3 : HCode := .seq (.region r29_3 none) k29_4
@[simp] def k29_0 : HCode := .seq (.seq (.region r29_1 none) k29_1) k29_3
@[simp] def fn29 : HFn := { nargs := 1, results := [.tmp 2], mode := .shared, code := (.seq (.region r29_0 none) k29_0) }
theorem c29 : cFn Tryz.prog (Hs 29) .shared 29 = some fn29 := by kernel_rfl
/- sterling/subst.Free$1 -/
@[simp] def r45_0 : List HOp := [⟨(some 2), true, .box false (.env 0), none⟩]
@[simp] def r45_1 : List HOp := [⟨(some 3), false, .faddr 0 (.env 2), none⟩,
     ⟨(some 4), false, .load 1 false (.loc 3), none⟩,
     ⟨(some 5), false, .bin .other .eql (.loc 4) (.val (.tr (.sc (.int .i64 3)))), none⟩]
@[simp] def r45_2 : List HOp := [⟨(some 6), false, .load 1 false (.env 1), none⟩,
     ⟨(some 7), false, .faddr 1 (.env 2), none⟩,
     ⟨(some 8), false, .load 1 false (.loc 7), none⟩,
     ⟨(some 9), false, .bslice false 1 1 [(.sc (.string ⟨⟨[]⟩⟩))] [(0, 1, (.loc 8))], none⟩,
     ⟨(some 10), false, .append 1 16 (.loc 6) (.loc 9), none⟩,
     ⟨none, false, .store 1 (.env 1) (.loc 10), none⟩]
@[simp] def k45_1 : HCode := .cond (.loc 5) (.region r45_2 none) .skip
@[simp] def k45_0 : HCode := .seq (.region r45_1 none) k45_1
@[simp] def fn45 : HFn := { nargs := 2, results := [], mode := .shared, code := (.seq (.region r45_0 none) k45_0) }
theorem c45 : cFn Tryz.prog (Hs 45) .shared 45 = some fn45 := by kernel_rfl
/- sterling/subst.walk -/
@[simp] def r44_0 : List HOp := [⟨(some 2), true, .box false (.env 0), none⟩]
@[simp] def r44_1 : List HOp := [⟨(some 10), false, .mv (.env 1), none⟩,
     ⟨(some 11), false, .load 7 true (.env 2), none⟩,
     ⟨(some 12), false, .callv (.loc 10) [(.loc 11)], none⟩]
@[simp] def r44_2 : List HOp := [⟨(some 13), false, .faddr 3 (.env 2), none⟩,
      ⟨(some 14), true, .load 1 false (.loc 13), none⟩,
      ⟨(some 15), true, .len 1 (.env 14), none⟩,
      ⟨(some 16), true, .mv (.val (.tr (.sc (.int .i64 0)))), none⟩]
@[simp] def r44_3 : List HOp := [⟨(some 17), false, .bin .other .lss (.env 16) (.env 15), none⟩]
@[simp] def r44_4 : List HOp := [⟨(some 18), false, .iaddr 7 (.env 14) (.env 16), none⟩,
          ⟨(some 19), false, .load 7 true (.loc 18), none⟩,
          ⟨(some 5), true, .alloc [(.sc (.int .i64 0)), (.sc (.string ⟨⟨[]⟩⟩)), (.sc (.int .i64 0)), (.sc (.slice none 0 0)), (.sc (.slice none 0 0)), (.sc (.slice none 0 0)), (.sc (.slice none 0 0))], none⟩,
          ⟨none, false, .store 7 (.env 5) (.loc 19), none⟩]
@[simp] def r44_5 : List HOp := [⟨(some 20), false, .load 7 true (.env 5), none⟩,
         ⟨(some 21), false, .mv (.env 1), none⟩,
         ⟨(some 22), false, .callf 44 [(.loc 20), (.loc 21)], none⟩]
@[simp] def r44_6 : List HOp := [⟨(some 23), false, .bin .other .add (.env 16) (.val (.tr (.sc (.int .i64 1)))), none⟩,
       ⟨(some 16), true, .mv (.loc 23), none⟩]
@[simp] def r44_7 : List HOp := [⟨(some 24), false, .faddr 6 (.env 2), none⟩,
     ⟨(some 25), true, .load 1 false (.loc 24), none⟩,
     ⟨(some 26), true, .len 1 (.env 25), none⟩,
     ⟨(some 27), true, .mv (.val (.tr (.sc (.int .i64 0)))), none⟩]
@[simp] def r44_8 : List HOp := [⟨(some 28), false, .bin .other .lss (.env 27) (.env 26), none⟩]
@[simp] def r44_9 : List HOp := [⟨(some 29), false, .iaddr 1 (.env 25) (.env 27), none⟩,
         ⟨(some 30), false, .load 1 false (.loc 29), none⟩,
         ⟨(some 7), true, .mv (.loc 30), none⟩]
@[simp] def r44_10 : List HOp := [⟨(some 31), true, .mv (.env 7), none⟩,
         ⟨(some 32), true, .len 1 (.env 31), none⟩,
         ⟨(some 33), true, .mv (.val (.tr (.sc (.int .i64 0)))), none⟩]
@[simp] def r44_11 : List HOp := [⟨(some 34), false, .bin .other .lss (.env 33) (.env 32), none⟩]
@[simp] def r44_12 : List HOp := [⟨(some 35), false, .iaddr 8 (.env 31) (.env 33), none⟩,
             ⟨(some 36), false, .load 8 true (.loc 35), none⟩,
             ⟨(some 9), true, .alloc [(.sc (.bool false)), (.sc (.int .i64 0)), (.sc (.string ⟨⟨[]⟩⟩)), (.sc (.int .i64 0)), (.sc (.slice none 0 0)), (.sc (.slice none 0 0)), (.sc (.slice none 0 0)), (.sc (.slice none 0 0))], none⟩,
             ⟨none, false, .store 8 (.env 9) (.loc 36), none⟩]
@[simp] def r44_13 : List HOp := [⟨(some 37), false, .faddr 1 (.env 9), none⟩,
            ⟨(some 38), false, .load 7 true (.loc 37), none⟩,
            ⟨(some 39), false, .mv (.env 1), none⟩,
            ⟨(some 40), false, .callf 44 [(.loc 38), (.loc 39)], none⟩]
@[simp] def r44_14 : List HOp := [⟨(some 41), false, .bin .other .add (.env 33) (.val (.tr (.sc (.int .i64 1)))), none⟩,
          ⟨(some 33), true, .mv (.loc 41), none⟩]
@[simp] def r44_15 : List HOp := [⟨(some 42), false, .bin .other .add (.env 27) (.val (.tr (.sc (.int .i64 1)))), none⟩,
      ⟨(some 27), true, .mv (.loc 42), none⟩]
def k44_5 : HCode := .seq (.block 1 (.seq (.region r44_4 none) (.region r44_5 none))) (.region r44_6 none)
@[simp] def k44_4 : HCode := .seq (.cond (.loc 17) .skip (.exit 0)) k44_5
def k44_3 : HCode := .seq (.region r44_3 none) k44_4
@[simp] def k44_2 : HCode := .block 0 (.loop k44_3)
def k44_15 : HCode := .seq (.block 5 (.seq (.region r44_12 none) (.region r44_13 none))) (.region r44_14 none)
@[simp] def k44_14 : HCode := .seq (.cond (.loc 34) .skip (.exit 4)) k44_15
def k44_13 : HCode := .seq (.region r44_11 none) k44_14
@[simp] def k44_12 : HCode := .block 4 (.loop k44_13)
@[simp] def k44_11 : HCode := .seq (.region r44_10 none) k44_12
def k44_16 : HCode := .region r44_15 none
def k44_10 : HCode := .seq (.block 3 (.seq (.region r44_9 none) k44_11)) k44_16
@[simp] def k44_9 : HCode := .seq (.cond (.loc 28) .skip (.exit 2)) k44_10
def k44_8 : HCode := .seq (.region r44_8 none) k44_9
@[simp] def k44_7 : HCode := .block 2 (.loop k44_8)
def k44_6 : HCode := .seq (.region r44_7 none) k44_7
@[simp] def k44_1 : HCode := .seq (.seq (.region r44_2 none) k44_2) k44_6
@[simp] def k44_0 : HCode := .seq (.region r44_1 none) k44_1
@[simp] def fn44 : HFn := { nargs := 2, results := [], mode := .shared, code := (.seq (.region r44_0 none) k44_0) }
theorem c44 : cFn Tryz.prog (Hs 44) .shared 44 = some fn44 := by kernel_rfl
/- slices.Compact[[]string,string] -/
@[simp] def r47_0 : List HOp := [⟨(some 2), true, .mv (.val (.tr (.sc (.slice none 0 0)))), none⟩]
@[simp] def r47_1 : List HOp := [⟨(some 6), false, .mv (.env 0), none⟩,
      ⟨(some 7), false, .len 1 (.loc 6), none⟩,
      ⟨(some 8), false, .bin .other .lss (.loc 7) (.val (.tr (.sc (.int .i64 2)))), none⟩]
@[simp] def r47_2 : List HOp := [⟨(some 9), false, .mv (.env 0), none⟩,
       ⟨(some 2), true, .mv (.loc 9), none⟩]
@[simp] def r47_3 : List HOp := [⟨(some 3), true, .mv (.val (.tr (.sc (.int .i64 1)))), none⟩]
@[simp] def r47_4 : List HOp := [⟨(some 10), false, .mv (.env 3), none⟩,
         ⟨(some 11), false, .mv (.env 0), none⟩,
         ⟨(some 12), false, .len 1 (.loc 11), none⟩,
         ⟨(some 13), false, .bin .other .lss (.loc 10) (.loc 12), none⟩]
@[simp] def r47_5 : List HOp := [⟨(some 16), false, .mv (.env 0), none⟩,
          ⟨(some 17), false, .mv (.env 3), none⟩,
          ⟨(some 18), false, .iaddr 1 (.loc 16) (.loc 17), none⟩,
          ⟨(some 19), false, .load 1 false (.loc 18), none⟩,
          ⟨(some 20), false, .mv (.env 0), none⟩,
          ⟨(some 21), false, .mv (.env 3), none⟩,
          ⟨(some 22), false, .bin .other .sub (.loc 21) (.val (.tr (.sc (.int .i64 1)))), none⟩,
          ⟨(some 23), false, .iaddr 1 (.loc 20) (.loc 22), none⟩,
          ⟨(some 24), false, .load 1 false (.loc 23), none⟩,
          ⟨(some 25), false, .bin .other .eql (.loc 19) (.loc 24), none⟩]
@[simp] def r47_6 : List HOp := [⟨(some 26), false, .mv (.env 0), none⟩,
           ⟨(some 27), false, .mv (.env 3), none⟩,
           ⟨(some 28), false, .slice 1 (.loc 26) (some (.loc 27)) none none, none⟩,
           ⟨(some 4), true, .mv (.loc 28), none⟩]
@[simp] def r47_7 : List HOp := [⟨(some 5), true, .mv (.val (.tr (.sc (.int .i64 1)))), none⟩]
@[simp] def r47_8 : List HOp := [⟨(some 29), false, .mv (.env 5), none⟩,
               ⟨(some 30), false, .mv (.env 4), none⟩,
               ⟨(some 31), false, .len 1 (.loc 30), none⟩,
               ⟨(some 32), false, .bin .other .lss (.loc 29) (.loc 31), none⟩]
@[simp] def r47_9 : List HOp := [⟨(some 35), false, .mv (.env 4), none⟩,
                ⟨(some 36), false, .mv (.env 5), none⟩,
                ⟨(some 37), false, .iaddr 1 (.loc 35) (.loc 36), none⟩,
                ⟨(some 38), false, .load 1 false (.loc 37), none⟩,
                ⟨(some 39), false, .mv (.env 4), none⟩,
                ⟨(some 40), false, .mv (.env 5), none⟩,
                ⟨(some 41), false, .bin .other .sub (.loc 40) (.val (.tr (.sc (.int .i64 1)))), none⟩,
                ⟨(some 42), false, .iaddr 1 (.loc 39) (.loc 41), none⟩,
                ⟨(some 43), false, .load 1 false (.loc 42), none⟩,
                ⟨(some 44), false, .bin .other .neq (.loc 38) (.loc 43), none⟩]
@[simp] def r47_10 : List HOp := [⟨(some 45), false, .mv (.env 0), none⟩,
                 ⟨(some 46), false, .mv (.env 3), none⟩,
                 ⟨(some 47), false, .mv (.env 4), none⟩,
                 ⟨(some 48), false, .mv (.env 5), none⟩,
                 ⟨(some 49), false, .iaddr 1 (.loc 47) (.loc 48), none⟩,
                 ⟨(some 50), false, .load 1 false (.loc 49), none⟩,
                 ⟨(some 51), false, .iaddr 1 (.loc 45) (.loc 46), none⟩,
                 ⟨none, false, .store 1 (.loc 51) (.loc 50), none⟩]
@[simp] def r47_11 : List HOp := [⟨(some 52), false, .mv (.env 3), none⟩,
                ⟨(some 53), false, .bin .other .add (.loc 52) (.val (.tr (.sc (.int .i64 1)))), none⟩,
                ⟨(some 3), true, .mv (.loc 53), none⟩]
@[simp] def r47_12 : List HOp := [⟨(some 33), false, .mv (.env 5), none⟩,
             ⟨(some 34), false, .bin .other .add (.loc 33) (.val (.tr (.sc (.int .i64 1)))), none⟩,
             ⟨(some 5), true, .mv (.loc 34), none⟩]
@[simp] def r47_13 : List HOp := [⟨(some 54), false, .mv (.env 0), none⟩,
           ⟨(some 55), false, .mv (.env 3), none⟩,
           ⟨(some 56), false, .slice 1 (.loc 54) (some (.loc 55)) none none, none⟩,
           ⟨none, false, .clear [(.sc (.string ⟨⟨[]⟩⟩))] (.loc 56), none⟩]
@[simp] def r47_14 : List HOp := [⟨(some 57), false, .mv (.env 0), none⟩,
           ⟨(some 58), false, .mv (.env 3), none⟩,
           ⟨(some 59), false, .slice 1 (.loc 57) none (some (.loc 58)) none, none⟩,
           ⟨(some 2), true, .mv (.loc 59), none⟩]
@[simp] def r47_15 : List HOp := [⟨(some 14), false, .mv (.env 3), none⟩,
       ⟨(some 15), false, .bin .other .add (.loc 14) (.val (.tr (.sc (.int .i64 1)))), none⟩,
       ⟨(some 3), true, .mv (.loc 15), none⟩]
@[simp] def r47_16 : List HOp := [⟨(some 60), false, .mv (.env 0), none⟩,
     ⟨(some 2), true, .mv (.loc 60), none⟩]
@[simp] def k47_2 : HCode := .seq (.region r47_2 none) .ret
@[simp] def k47_1 : HCode := .cond (.loc 8) k47_2 .skip
@[simp] def k47_6 : HCode := .cond (.loc 13) .skip (.exit 0)
@[simp] def k47_13 : HCode := .cond (.loc 32) .skip (.exit 2)
@[simp] def k47_16 : HCode := .seq (.region r47_10 none) (.region r47_11 none)
@[simp] def k47_15 : HCode := .cond (.loc 44) k47_16 .skip
def k47_17 : HCode := .region r47_12 none
def k47_14 : HCode := .seq (.block 3 (.seq (.region r47_9 (some [ ( 0, [ 4 ] ) , ( 0, [ 5 ] ) , ( 1, [ 35, 36 ] ) , ( 1, [ 37 ] ) , ( 0, [ 4 ] ) , ( 0, [ 5 ] ) , ( 0, [ 40 ] ) , ( 1, [ 39, 41 ] ) , ( 1, [ 42 ] ) , ( 0, [ 38, 43 ] ) ])) k47_15)) k47_17
def k47_12 : HCode := .seq (.seq (.region r47_8 none) k47_13) k47_14
@[simp] def k47_11 : HCode := .block 2 (.loop k47_12)
@[simp] def k47_19 : HCode := .seq (.region r47_14 none) .ret
def k47_18 : HCode := .seq (.region r47_13 none) k47_19
@[simp] def k47_10 : HCode := .seq (.seq (.region r47_7 none) k47_11) k47_18
@[simp] def k47_9 : HCode := .seq (.region r47_6 none) k47_10
@[simp] def k47_8 : HCode := .cond (.loc 25) k47_9 .skip
def k47_20 : HCode := .region r47_15 none
def k47_7 : HCode := .seq (.block 1 (.seq (.region r47_5 (some [ ( 0, [ 0 ] ) , ( 0, [ 3 ] ) , ( 1, [ 16, 17 ] ) , ( 1, [ 18 ] ) , ( 0, [ 0 ] ) , ( 0, [ 3 ] ) , ( 0, [ 21 ] ) , ( 1, [ 20, 22 ] ) , ( 1, [ 23 ] ) , ( 0, [ 19, 24 ] ) ])) k47_8)) k47_20
def k47_5 : HCode := .seq (.seq (.region r47_4 none) k47_6) k47_7
@[simp] def k47_4 : HCode := .block 0 (.loop k47_5)
def k47_21 : HCode := .seq (.region r47_16 none) .ret
def k47_3 : HCode := .seq (.seq (.region r47_3 none) k47_4) k47_21
@[simp] def k47_0 : HCode := .seq (.seq (.region r47_1 none) k47_1) k47_3
@[simp] def fn47 : HFn := { nargs := 1, results := [.tmp 2], mode := .shared, code := (.seq (.region r47_0 none) k47_0) }
theorem c47 : cFn Tryz.prog (Hs 47) .shared 47 = some fn47 := by kernel_rfl
/- slices.Clip[[]string,string] -/
@[simp] def r46_0 : List HOp := [⟨(some 2), true, .mv (.val (.tr (.sc (.slice none 0 0)))), none⟩]
@[simp] def r46_1 : List HOp := [⟨(some 3), false, .mv (.env 0), none⟩,
     ⟨(some 4), false, .mv (.env 0), none⟩,
     ⟨(some 5), false, .len 1 (.loc 4), none⟩,
     ⟨(some 6), false, .mv (.env 0), none⟩,
     ⟨(some 7), false, .len 1 (.loc 6), none⟩,
     ⟨(some 8), false, .slice 1 (.loc 3) none (some (.loc 5)) (some (.loc 7)), none⟩,
     ⟨(some 2), true, .mv (.loc 8), none⟩]
@[simp] def k46_0 : HCode := .seq (.region r46_1 none) .ret
@[simp] def fn46 : HFn := { nargs := 1, results := [.tmp 2], mode := .shared, code := (.seq (.region r46_0 none) k46_0) }
theorem c46 : cFn Tryz.prog (Hs 46) .shared 46 = some fn46 := by kernel_rfl
/- slices.Contains[[]string,string] -/
@[simp] def r43_0 : List HOp := [⟨(some 4), true, .mv (.val (.tr (.sc (.bool false)))), none⟩]
@[simp] def r43_1 : List HOp := [⟨(some 5), false, .mv (.env 0), none⟩,
     ⟨(some 6), false, .mv (.env 1), none⟩,
     ⟨(some 7), false, .callf 74 [(.loc 5), (.loc 6)], none⟩,
     ⟨(some 8), false, .bin .other .geq (.loc 7) (.val (.tr (.sc (.int .i64 0)))), none⟩,
     ⟨(some 4), true, .mv (.loc 8), none⟩]
@[simp] def k43_0 : HCode := .seq (.region r43_1 none) .ret
@[simp] def fn43 : HFn := { nargs := 2, results := [.tmp 4], mode := .shared, code := (.seq (.region r43_0 none) k43_0) }
theorem c43 : cFn Tryz.prog (Hs 43) .shared 43 = some fn43 := by kernel_rfl
/- sterling/sterlingref11.B -/
@[simp] def r12_0 : List HOp := [⟨(some 2), true, .alloc [(.sc (.int .i64 0)), (.sc (.string ⟨⟨[]⟩⟩)), (.sc (.int .i64 0)), (.sc (.slice none 0 0)), (.sc (.slice none 0 0)), (.sc (.slice none 0 0)), (.sc (.slice none 0 0))], none⟩]
@[simp] def r12_1 : List HOp := [⟨(some 3), false, .mv (.env 0), none⟩,
     ⟨(some 4), false, .build [(.sc (.int .i64 0)), (.sc (.string ⟨⟨[]⟩⟩)), (.sc (.int .i64 0)), (.sc (.slice none 0 0)), (.sc (.slice none 0 0)), (.sc (.slice none 0 0)), (.sc (.slice none 0 0))] [(0, 1, (.val (.tr (.sc (.int .i64 1))))), (1, 1, (.loc 3))], none⟩,
     ⟨none, false, .store 7 (.env 2) (.loc 4), none⟩]
@[simp] def k12_0 : HCode := .seq (.region r12_1 none) .ret
@[simp] def fn12 : HFn := { nargs := 1, results := [.cell 2 7 true], mode := .iso, code := (.seq (.region r12_0 none) k12_0) }
theorem c12 : cFn Tryz.prog (Hs 12) .iso 12 = some fn12 := by kernel_rfl
/- (*sterling/env.Env).Holds -/
@[simp] def r11_0 : List HOp := [⟨(some 2), true, .box false (.env 0), none⟩,
     ⟨(some 3), true, .box false (.env 1), none⟩,
     ⟨(some 4), true, .mv (.val (.tr (.sc (.bool false)))), none⟩]
@[simp] def r11_1 : List HOp := [⟨(some 8), false, .load 1 false (.env 2), none⟩,
      ⟨(some 9), false, .load 7 true (.env 3), none⟩,
      ⟨(some 10), false, .callf 6 [(.loc 8), (.loc 9)], none⟩,
      ⟨(some 7), false, .mv (.loc 10), none⟩,
      ⟨(some 11), false, .extract (.loc 7) 0, none⟩,
      ⟨(some 12), false, .extract (.loc 7) 1, none⟩,
      ⟨(some 5), false, .alloc [(.sc (.int .i64 0)), (.sc (.string ⟨⟨[]⟩⟩)), (.sc (.int .i64 0)), (.sc (.slice none 0 0)), (.sc (.slice none 0 0)), (.sc (.slice none 0 0)), (.sc (.slice none 0 0))], none⟩,
      ⟨none, false, .store 7 (.loc 5) (.loc 11), none⟩,
      ⟨(some 6), true, .mv (.loc 12), none⟩]
@[simp] def r11_2 : List HOp := [⟨(some 13), false, .mv (.env 6), none⟩,
      ⟨(some 14), false, .un .not (.loc 13), none⟩]
@[simp] def r11_3 : List HOp := [⟨(some 4), true, .mv (.val (.tr (.sc (.bool false)))), none⟩]
@[simp] def r11_4 : List HOp := [⟨(some 15), false, .load 7 true (.env 3), none⟩,
     ⟨(some 16), false, .mkfn (.func 23) [] [(.env 2)], none⟩,
     ⟨(some 17), false, .callf 22 [(.loc 15), (.loc 16)], none⟩,
     ⟨(some 4), true, .mv (.loc 17), none⟩]
@[simp] def k11_3 : HCode := .seq (.region r11_3 none) .ret
@[simp] def k11_2 : HCode := .cond (.loc 14) k11_3 .skip
@[simp] def k11_1 : HCode := .seq (.region r11_2 none) k11_2
def k11_4 : HCode := .seq (.region r11_4 none) .ret
@[simp] def k11_0 : HCode := .seq (.seq (.region r11_1 none) k11_1) k11_4
@[simp] def fn11 : HFn := { nargs := 2, results := [.tmp 4], mode := .shared, code := (.seq (.region r11_0 none) k11_0) }
theorem c11 : cFn Tryz.prog (Hs 11) .shared 11 = some fn11 := by kernel_rfl
/- (*sterling/env.Env).Holds$1 -/
@[simp] def r23_0 : List HOp := [⟨(some 3), true, .mv (.val (.tr (.sc (.bool false)))), none⟩]
@[simp] def r23_1 : List HOp := [⟨(some 4), false, .load 1 false (.env 1), none⟩,
     ⟨(some 5), false, .mv (.env 0), none⟩,
     ⟨(some 6), false, .mkmap, none⟩,
     ⟨(some 7), false, .callf 24 [(.loc 4), (.loc 5), (.loc 6)], none⟩,
     ⟨(some 3), true, .mv (.loc 7), none⟩]
@[simp] def k23_0 : HCode := .seq (.region r23_1 none) .ret
@[simp] def fn23 : HFn := { nargs := 2, results := [.tmp 3], mode := .shared, code := (.seq (.region r23_0 none) k23_0) }
theorem c23 : cFn Tryz.prog (Hs 23) .shared 23 = some fn23 := by kernel_rfl
/- (*sterling/env.Env).holds -/
@[simp] def r24_0 : List HOp := [⟨(some 3), true, .box false (.env 0), none⟩,
     ⟨(some 5), true, .box false (.env 2), none⟩,
     ⟨(some 6), true, .mv (.val (.tr (.sc (.bool false)))), none⟩]
@[simp] def r24_1 : List HOp := [⟨(some 10), false, .load 1 false (.env 5), none⟩,
      ⟨(some 11), false, .mv (.env 1), none⟩,
      ⟨(some 12), false, .lookup .string (.sc (.int .i64 0)) false (.loc 10) (.loc 11), none⟩,
      ⟨(some 13), false, .bin .other .gtr (.loc 12) (.val (.tr (.sc (.int .i64 0)))), none⟩]
@[simp] def r24_2 : List HOp := [⟨(some 6), true, .mv (.val (.tr (.sc (.bool false)))), none⟩]
@[simp] def r24_3 : List HOp := [⟨(some 14), false, .load 1 false (.env 3), none⟩,
      ⟨(some 15), false, .bin .pointer .neq (.loc 14) (.val (.tr (.sc (.pointer none)))), none⟩,
      ⟨(some 16), false, .mv (.loc 15), none⟩,
      ⟨(some 17), false, .load 1 false (.env 3), some ((.loc 16), true)⟩,
      ⟨(some 18), false, .nilchk (.loc 17), some ((.loc 16), true)⟩,
      ⟨(some 19), false, .faddr 2 (.loc 18), some ((.loc 16), true)⟩,
      ⟨(some 20), false, .load 1 false (.loc 19), some ((.loc 16), true)⟩,
      ⟨(some 21), false, .mv (.env 1), some ((.loc 16), true)⟩,
      ⟨(some 22), false, .lookup .string (.sc (.int .i64 0)) false (.loc 20) (.loc 21), some ((.loc 16), true)⟩,
      ⟨(some 23), false, .bin .other .gtr (.loc 22) (.val (.tr (.sc (.int .i64 0)))), some ((.loc 16), true)⟩,
      ⟨(some 24), false, .pick (.loc 16) (.loc 23) (.val (.tr (.sc (.bool false)))), none⟩]
@[simp] def r24_4 : List HOp := [⟨(some 25), false, .load 1 false (.env 3), none⟩,
       ⟨(some 26), false, .nilchk (.loc 25), none⟩,
       ⟨(some 27), false, .faddr 2 (.loc 26), none⟩,
       ⟨(some 28), false, .load 1 false (.loc 27), none⟩,
       ⟨(some 29), false, .mv (.env 1), none⟩,
       ⟨(some 30), false, .lookup .string (.sc (.int .i64 0)) false (.loc 28) (.loc 29), none⟩,
       ⟨(some 31), false, .bin .other .eql (.loc 30) (.val (.tr (.sc (.int .i64 1)))), none⟩,
       ⟨(some 6), true, .mv (.loc 31), none⟩]
@[simp] def r24_5 : List HOp := [⟨(some 32), false, .load 1 false (.env 5), none⟩,
     ⟨(some 33), false, .mv (.env 1), none⟩,
     ⟨none, false, .mupd .string (.loc 32) (.loc 33) (.val (.tr (.sc (.int .i64 1)))), none⟩]
@[simp] def r24_6 : List HOp := [⟨(some 35), false, .load 1 false (.env 3), none⟩,
     ⟨(some 36), false, .mv (.env 1), none⟩,
     ⟨(some 37), false, .callf 14 [(.loc 35), (.loc 36)], none⟩,
     ⟨(some 34), false, .mv (.loc 37), none⟩,
     ⟨(some 38), false, .extract (.loc 34) 0, none⟩,
     ⟨(some 39), false, .extract (.loc 34) 1, none⟩,
     ⟨(some 7), true, .alloc [(.sc (.string ⟨⟨[]⟩⟩)), (.sc (.slice none 0 0)), (.sc (.int .i64 0)), (.sc (.string ⟨⟨[]⟩⟩)), (.sc (.int .i64 0)), (.sc (.slice none 0 0)), (.sc (.slice none 0 0)), (.sc (.slice none 0 0)), (.sc (.slice none 0 0)), (.sc (.slice none 0 0))], none⟩,
     ⟨none, false, .store 10 (.env 7) (.loc 38), none⟩,
     ⟨(some 8), false, .mv (.loc 39), none⟩]
@[simp] def r24_7 : List HOp := [⟨(some 40), false, .faddr 2 (.env 7), none⟩,
     ⟨(some 41), false, .load 7 true (.loc 40), none⟩,
     ⟨(some 42), false, .mkfn (.func 39) [] [(.env 3), (.env 5)], none⟩,
     ⟨(some 43), false, .callf 22 [(.loc 41), (.loc 42)], none⟩,
     ⟨(some 9), true, .mv (.loc 43), none⟩]
@[simp] def r24_8 : List HOp := [⟨(some 44), false, .load 1 false (.env 5), none⟩,
     ⟨(some 45), false, .mv (.env 1), none⟩,
     ⟨none, false, .mupd .string (.loc 44) (.loc 45) (.val (.tr (.sc (.int .i64 0)))), none⟩]
@[simp] def r24_9 : List HOp := [⟨(some 46), false, .load 1 false (.env 3), none⟩,
      ⟨(some 47), false, .bin .pointer .neq (.loc 46) (.val (.tr (.sc (.pointer none)))), none⟩,
      ⟨(some 48), false, .mv (.loc 47), none⟩,
      ⟨(some 49), false, .load 1 false (.env 3), some ((.loc 48), true)⟩,
      ⟨(some 50), false, .nilchk (.loc 49), some ((.loc 48), true)⟩,
      ⟨(some 51), false, .faddr 2 (.loc 50), some ((.loc 48), true)⟩,
      ⟨(some 52), false, .load 1 false (.loc 51), some ((.loc 48), true)⟩,
      ⟨(some 53), false, .len 2 (.loc 52), some ((.loc 48), true)⟩,
      ⟨(some 54), false, .load 1 false (.env 3), some ((.loc 48), true)⟩,
      ⟨(some 55), false, .nilchk (.loc 54), some ((.loc 48), true)⟩,
      ⟨(some 56), false, .faddr 0 (.loc 55), some ((.loc 48), true)⟩,
      ⟨(some 57), false, .load 1 false (.loc 56), some ((.loc 48), true)⟩,
      ⟨(some 58), false, .len 2 (.loc 57), some ((.loc 48), true)⟩,
      ⟨(some 59), false, .bin .other .leq (.loc 53) (.loc 58), some ((.loc 48), true)⟩,
      ⟨(some 60), false, .pick (.loc 48) (.loc 59) (.val (.tr (.sc (.bool false)))), none⟩]
@[simp] def r24_10 : List HOp := [⟨(some 61), false, .load 1 false (.env 3), none⟩,
       ⟨(some 62), false, .nilchk (.loc 61), none⟩,
       ⟨(some 63), false, .faddr 2 (.loc 62), none⟩,
       ⟨(some 64), false, .load 1 false (.loc 63), none⟩,
       ⟨(some 65), false, .mv (.env 1), none⟩,
       ⟨none, false, .mupd .string (.loc 64) (.loc 65) (.val (.tr (.sc (.int .i64 2)))), none⟩]
@[simp] def r24_11 : List HOp := [⟨(some 66), false, .mv (.env 9), none⟩]
@[simp] def r24_12 : List HOp := [⟨(some 67), false, .load 1 false (.env 3), none⟩,
       ⟨(some 68), false, .nilchk (.loc 67), none⟩,
       ⟨(some 69), false, .faddr 2 (.loc 68), none⟩,
       ⟨(some 70), false, .load 1 false (.loc 69), none⟩,
       ⟨(some 71), false, .mv (.env 1), none⟩,
       ⟨none, false, .mupd .string (.loc 70) (.loc 71) (.val (.tr (.sc (.int .i64 1)))), none⟩]
@[simp] def r24_13 : List HOp := [⟨(some 72), false, .mv (.env 9), none⟩,
     ⟨(some 6), true, .mv (.loc 72), none⟩]
@[simp] def k24_2 : HCode := .seq (.region r24_2 none) .ret
@[simp] def k24_1 : HCode := .cond (.loc 13) k24_2 .skip
@[simp] def k24_5 : HCode := .seq (.region r24_4 none) .ret
@[simp] def k24_4 : HCode := .cond (.loc 24) k24_5 .skip
@[simp] def k24_14 : HCode := .cond (.loc 66) (.region r24_12 none) .skip
@[simp] def k24_13 : HCode := .seq (.region r24_11 none) k24_14
@[simp] def k24_12 : HCode := .seq (.region r24_10 none) k24_13
@[simp] def k24_11 : HCode := .cond (.loc 60) k24_12 .skip
def k24_15 : HCode := .seq (.region r24_13 none) .ret
@[simp] def k24_10 : HCode := .seq (.seq (.region r24_9 (some [ ( 2, [ 3 ] ) , ( 0, [ 46 ] ) , ( 0, [ 47 ] ) , ( 1, [ 3, 48 ] ) , ( 0, [ 49, 48 ] ) , ( 0, [ 50, 48 ] ) , ( 1, [ 51, 48 ] ) , ( 1, [ 52, 48 ] ) , ( 1, [ 3, 48 ] ) , ( 0, [ 54, 48 ] ) , ( 0, [ 55, 48 ] ) , ( 1, [ 56, 48 ] ) , ( 2, [ 57, 48 ] ) , ( 0, [ 53, 58, 48 ] ) , ( 0, [ 48, 59 ] ) ])) k24_11) k24_15
@[simp] def k24_9 : HCode := .seq (.region r24_8 none) k24_10
@[simp] def k24_8 : HCode := .seq (.region r24_7 none) k24_9
@[simp] def k24_7 : HCode := .seq (.region r24_6 none) k24_8
def k24_6 : HCode := .seq (.region r24_5 none) k24_7
def k24_3 : HCode := .seq (.seq (.region r24_3 none) k24_4) k24_6
@[simp] def k24_0 : HCode := .seq (.seq (.region r24_1 none) k24_1) k24_3
@[simp] def fn24 : HFn := { nargs := 3, results := [.tmp 6], mode := .shared, code := (.seq (.region r24_0 none) k24_0) }
theorem c24 : cFn Tryz.prog (Hs 24) .shared 24 = some fn24 := by kernel_rfl
/- (*sterling/env.Env).holds$1 -/
@[simp] def r39_0 : List HOp := [⟨(some 4), true, .mv (.val (.tr (.sc (.bool false)))), none⟩]
@[simp] def r39_1 : List HOp := [⟨(some 5), false, .load 1 false (.env 1), none⟩,
     ⟨(some 6), false, .mv (.env 0), none⟩,
     ⟨(some 7), false, .load 1 false (.env 2), none⟩,
     ⟨(some 8), false, .callf 24 [(.loc 5), (.loc 6), (.loc 7)], none⟩,
     ⟨(some 4), true, .mv (.loc 8), none⟩]
@[simp] def k39_0 : HCode := .seq (.region r39_1 none) .ret
@[simp] def fn39 : HFn := { nargs := 3, results := [.tmp 4], mode := .shared, code := (.seq (.region r39_0 none) k39_0) }
theorem c39 : cFn Tryz.prog (Hs 39) .shared 39 = some fn39 := by kernel_rfl
/- sterling/env.inside -/
@[simp] def r22_0 : List HOp := [⟨(some 2), true, .box false (.env 0), none⟩,
     ⟨(some 4), true, .mv (.val (.tr (.sc (.bool false)))), none⟩]
@[simp] def r22_1 : List HOp := [⟨(some 7), false, .faddr 0 (.env 2), none⟩,
      ⟨(some 8), true, .load 1 false (.loc 7), none⟩]
@[simp] def r22_2 : List HOp := [⟨(some 10), false, .bin .other .eql (.env 8) (.val (.tr (.sc (.int .i64 2)))), none⟩,
       ⟨(some 9), false, .mv (.loc 10), none⟩]
@[simp] def r22_3 : List HOp := [⟨(some 11), false, .mv (.env 1), none⟩,
        ⟨(some 12), false, .faddr 1 (.env 2), none⟩,
        ⟨(some 13), false, .load 1 false (.loc 12), none⟩,
        ⟨(some 14), false, .callv (.loc 11) [(.loc 13)], none⟩,
        ⟨(some 15), false, .un .not (.loc 14), none⟩]
@[simp] def r22_4 : List HOp := [⟨(some 4), true, .mv (.val (.tr (.sc (.bool false)))), none⟩]
@[simp] def r22_5 : List HOp := [⟨(some 17), false, .bin .other .eql (.env 8) (.val (.tr (.sc (.int .i64 6)))), none⟩,
         ⟨(some 16), true, .mv (.loc 17), none⟩]
@[simp] def r22_6 : List HOp := [⟨(some 18), false, .bin .other .eql (.env 8) (.val (.tr (.sc (.int .i64 5)))), none⟩,
          ⟨(some 16), true, .mv (.loc 18), none⟩]
@[simp] def r22_7 : List HOp := [⟨(some 19), false, .bin .other .eql (.env 8) (.val (.tr (.sc (.int .i64 7)))), none⟩,
           ⟨(some 16), true, .mv (.loc 19), none⟩]
@[simp] def r22_8 : List HOp := [⟨(some 20), false, .bin .other .eql (.env 8) (.val (.tr (.sc (.int .i64 8)))), none⟩,
            ⟨(some 16), true, .mv (.loc 20), none⟩]
@[simp] def r22_9 : List HOp := [⟨(some 21), false, .bin .other .eql (.env 8) (.val (.tr (.sc (.int .i64 10)))), none⟩,
            ⟨(some 16), true, .mv (.loc 21), none⟩]
@[simp] def r22_10 : List HOp := [⟨(some 4), true, .mv (.val (.tr (.sc (.bool true)))), none⟩]
@[simp] def r22_11 : List HOp := [⟨(some 22), false, .faddr 3 (.env 2), none⟩,
      ⟨(some 23), true, .load 1 false (.loc 22), none⟩,
      ⟨(some 24), true, .len 1 (.env 23), none⟩,
      ⟨(some 25), true, .mv (.val (.tr (.sc (.int .i64 0)))), none⟩]
@[simp] def r22_12 : List HOp := [⟨(some 26), false, .bin .other .lss (.env 25) (.env 24), none⟩]
@[simp] def r22_13 : List HOp := [⟨(some 27), false, .iaddr 7 (.env 23) (.env 25), none⟩,
          ⟨(some 28), false, .load 7 true (.loc 27), none⟩,
          ⟨(some 6), true, .alloc [(.sc (.int .i64 0)), (.sc (.string ⟨⟨[]⟩⟩)), (.sc (.int .i64 0)), (.sc (.slice none 0 0)), (.sc (.slice none 0 0)), (.sc (.slice none 0 0)), (.sc (.slice none 0 0))], none⟩,
          ⟨none, false, .store 7 (.env 6) (.loc 28), none⟩]
@[simp] def r22_14 : List HOp := [⟨(some 29), false, .load 7 true (.env 6), none⟩,
          ⟨(some 30), false, .mv (.env 1), none⟩,
          ⟨(some 31), false, .callf 22 [(.loc 29), (.loc 30)], none⟩,
          ⟨(some 32), false, .un .not (.loc 31), none⟩]
@[simp] def r22_15 : List HOp := [⟨(some 4), true, .mv (.val (.tr (.sc (.bool false)))), none⟩]
@[simp] def r22_16 : List HOp := [⟨(some 33), false, .bin .other .add (.env 25) (.val (.tr (.sc (.int .i64 1)))), none⟩,
       ⟨(some 25), true, .mv (.loc 33), none⟩]
@[simp] def r22_17 : List HOp := [⟨(some 4), true, .mv (.val (.tr (.sc (.bool true)))), none⟩]
@[simp] def k22_5 : HCode := .seq (.region r22_4 none) .ret
@[simp] def k22_4 : HCode := .cond (.loc 15) k22_5 .skip
@[simp] def k22_3 : HCode := .seq (.region r22_3 none) k22_4
@[simp] def k22_13 : HCode := .cond (.env 16) .skip (.region r22_9 none)
@[simp] def k22_12 : HCode := .seq (.region r22_8 none) k22_13
@[simp] def k22_11 : HCode := .cond (.env 16) .skip k22_12
@[simp] def k22_10 : HCode := .seq (.region r22_7 none) k22_11
@[simp] def k22_9 : HCode := .cond (.env 16) .skip k22_10
@[simp] def k22_8 : HCode := .seq (.region r22_6 none) k22_9
@[simp] def k22_7 : HCode := .cond (.env 16) .skip k22_8
@[simp] def k22_15 : HCode := .seq (.region r22_10 none) .ret
def k22_14 : HCode := .cond (.env 16) k22_15 .skip
@[simp] def k22_6 : HCode := .seq (.seq (.region r22_5 none) k22_7) k22_14
@[simp] def k22_2 : HCode := .cond (.loc 9) k22_3 k22_6
@[simp] def k22_1 : HCode := .block 0 (.seq (.region r22_2 none) k22_2)
@[simp] def k22_23 : HCode := .seq (.region r22_15 none) .ret
@[simp] def k22_22 : HCode := .cond (.loc 32) k22_23 .skip
@[simp] def k22_21 : HCode := .seq (.region r22_14 none) k22_22
def k22_24 : HCode := .region r22_16 none
def k22_20 : HCode := .seq (.block 2 (.seq (.region r22_13 none) k22_21)) k22_24
@[simp] def k22_19 : HCode := .seq (.cond (.loc 26) .skip (.exit 1)) k22_20
def k22_18 : HCode := .seq (.region r22_12 none) k22_19
@[simp] def k22_17 : HCode := .block 1 (.loop k22_18)
def k22_25 : HCode := .seq (.region r22_17 none) .ret
def k22_16 : HCode := .seq (.seq (.region r22_11 none) k22_17) k22_25
@[simp] def k22_0 : HCode := .seq (.seq (.region r22_1 none) k22_1) k22_16
@[simp] def fn22 : HFn := { nargs := 2, results := [.tmp 4], mode := .shared, code := (.seq (.region r22_0 none) k22_0) }
theorem c22 : cFn Tryz.prog (Hs 22) .shared 22 = some fn22 := by kernel_rfl
/- sterling/sterlinglaw13.EnvChain -/
@[simp] def r4_0 : List HOp := [⟨(some 4), true, .mv (.val (.tr (.sc (.bool false)))), none⟩]
@[simp] def r4_1 : List HOp := [⟨(some 13), false, .callf 9 [], none⟩,
     ⟨(some 5), true, .mv (.loc 13), none⟩]
@[simp] def r4_2 : List HOp := [⟨(some 14), false, .mv (.env 0), none⟩,
      ⟨(some 15), false, .bin .other .lss (.loc 14) (.val (.tr (.sc (.int .i64 1)))), none⟩,
      ⟨(some 16), false, .mv (.loc 15), none⟩,
      ⟨(some 17), false, .mv (.env 0), some ((.loc 16), false)⟩,
      ⟨(some 18), false, .bin .other .gtr (.loc 17) (.val (.tr (.sc (.int .i64 26)))), some ((.loc 16), false)⟩,
      ⟨(some 19), false, .pick (.loc 16) (.val (.tr (.sc (.bool true)))) (.loc 18), none⟩]
@[simp] def r4_3 : List HOp := [⟨(some 20), false, .mv (.env 5), none⟩,
       ⟨(some 4), true, .mv (.loc 20), none⟩]
@[simp] def r4_4 : List HOp := [⟨(some 6), true, .mv (.val (.tr (.sc (.slice none 0 0)))), none⟩]
@[simp] def r4_5 : List HOp := [⟨(some 7), true, .mv (.val (.tr (.sc (.int .i64 0)))), none⟩]
@[simp] def r4_6 : List HOp := [⟨(some 21), false, .mv (.env 7), none⟩,
         ⟨(some 22), false, .mv (.env 0), none⟩,
         ⟨(some 23), false, .bin .other .lss (.loc 21) (.loc 22), none⟩]
@[simp] def r4_7 : List HOp := [⟨(some 26), false, .mv (.env 7), none⟩,
          ⟨(some 27), false, .bin .other .add (.loc 26) (.val (.tr (.sc (.int .i64 1)))), none⟩,
          ⟨(some 28), false, .mv (.env 0), none⟩,
          ⟨(some 29), false, .bin .other .rem (.loc 27) (.loc 28), none⟩,
          ⟨(some 30), false, .bin .other .add (.val (.tr (.sc (.int .i64 65)))) (.loc 29), none⟩,
          ⟨(some 31), false, .conv (.toInt .u8) (.loc 30), none⟩,
          ⟨(some 32), false, .bslice false 1 1 [(.sc (.int .u8 0))] [(0, 1, (.loc 31))], none⟩,
          ⟨(some 33), false, .conv .bytesStr (.loc 32), none⟩,
          ⟨(some 34), false, .bin .other .add (.val (.tr (.sc (.string ⟨⟨[112, 46]⟩⟩)))) (.loc 33), none⟩,
          ⟨(some 35), false, .callf 7 [(.loc 34), (.val (.tr (.sc (.slice none 0 0))))], none⟩,
          ⟨(some 8), true, .alloc [(.sc (.int .i64 0)), (.sc (.string ⟨⟨[]⟩⟩)), (.sc (.int .i64 0)), (.sc (.slice none 0 0)), (.sc (.slice none 0 0)), (.sc (.slice none 0 0)), (.sc (.slice none 0 0))], none⟩,
          ⟨none, false, .store 7 (.env 8) (.loc 35), none⟩]
@[simp] def r4_8 : List HOp := [⟨(some 36), false, .mv (.env 7), none⟩,
           ⟨(some 37), false, .mv (.env 0), none⟩,
           ⟨(some 38), false, .bin .other .sub (.loc 37) (.val (.tr (.sc (.int .i64 1)))), none⟩,
           ⟨(some 39), false, .bin .other .eql (.loc 36) (.loc 38), none⟩,
           ⟨(some 40), false, .mv (.loc 39), none⟩,
           ⟨(some 41), false, .mv (.env 1), some ((.loc 40), true)⟩,
           ⟨(some 42), false, .un .not (.loc 41), some ((.loc 40), true)⟩,
           ⟨(some 43), false, .pick (.loc 40) (.loc 42) (.val (.tr (.sc (.bool false)))), none⟩]
@[simp] def r4_9 : List HOp := [⟨(some 44), false, .callf 12 [(.val (.tr (.sc (.string ⟨⟨[115, 116, 114, 105, 110, 103]⟩⟩))))], none⟩,
           ⟨none, false, .store 7 (.env 8) (.loc 44), none⟩]
@[simp] def r4_10 : List HOp := [⟨(some 45), false, .mv (.env 6), none⟩,
         ⟨(some 46), false, .mv (.env 7), none⟩,
         ⟨(some 47), false, .bin .other .add (.val (.tr (.sc (.int .i64 65)))) (.loc 46), none⟩,
         ⟨(some 48), false, .conv (.toInt .u8) (.loc 47), none⟩,
         ⟨(some 49), false, .bslice false 1 1 [(.sc (.int .u8 0))] [(0, 1, (.loc 48))], none⟩,
         ⟨(some 50), false, .conv .bytesStr (.loc 49), none⟩,
         ⟨(some 51), false, .bin .other .add (.val (.tr (.sc (.string ⟨⟨[112, 46]⟩⟩)))) (.loc 50), none⟩,
         ⟨(some 52), false, .load 7 true (.env 8), none⟩,
         ⟨(some 53), false, .build [(.sc (.string ⟨⟨[]⟩⟩)), (.sc (.slice none 0 0)), (.sc (.int .i64 0)), (.sc (.string ⟨⟨[]⟩⟩)), (.sc (.int .i64 0)), (.sc (.slice none 0 0)), (.sc (.slice none 0 0)), (.sc (.slice none 0 0)), (.sc (.slice none 0 0)), (.sc (.slice none 0 0))] [(0, 1, (.loc 51)), (2, 7, (.loc 52))], none⟩,
         ⟨(some 54), false, .bslice false 1 10 [(.sc (.string ⟨⟨[]⟩⟩)), (.sc (.slice none 0 0)), (.sc (.int .i64 0)), (.sc (.string ⟨⟨[]⟩⟩)), (.sc (.int .i64 0)), (.sc (.slice none 0 0)), (.sc (.slice none 0 0)), (.sc (.slice none 0 0)), (.sc (.slice none 0 0)), (.sc (.slice none 0 0))] [(0, 10, (.loc 53))], none⟩,
         ⟨(some 55), false, .append 10 192 (.loc 45) (.loc 54), none⟩,
         ⟨(some 6), true, .mv (.loc 55), none⟩]
@[simp] def r4_11 : List HOp := [⟨(some 24), false, .mv (.env 7), none⟩,
       ⟨(some 25), false, .bin .other .add (.loc 24) (.val (.tr (.sc (.int .i64 1)))), none⟩,
       ⟨(some 7), true, .mv (.loc 25), none⟩]
@[simp] def r4_12 : List HOp := [⟨(some 57), false, .mv (.env 6), none⟩,
     ⟨(some 58), false, .callf 13 [(.loc 57), (.val (.tr (.sc (.slice none 0 0))))], none⟩,
     ⟨(some 56), false, .mv (.loc 58), none⟩,
     ⟨(some 59), false, .extract (.loc 56) 0, none⟩,
     ⟨(some 60), false, .extract (.loc 56) 1, none⟩,
     ⟨(some 9), true, .mv (.loc 59), none⟩,
     ⟨(some 10), true, .mv (.loc 60), none⟩]
@[simp] def r4_13 : List HOp := [⟨(some 61), false, .mv (.env 10), none⟩,
      ⟨(some 62), false, .un .not (.loc 61), none⟩]
@[simp] def r4_14 : List HOp := [⟨(some 4), true, .mv (.val (.tr (.sc (.bool false)))), none⟩]
@[simp] def r4_15 : List HOp := [⟨(some 64), false, .mv (.env 9), none⟩,
     ⟨(some 65), false, .callf 7 [(.val (.tr (.sc (.string ⟨⟨[112, 46, 65]⟩⟩)))), (.val (.tr (.sc (.slice none 0 0))))], none⟩,
     ⟨(some 66), false, .callf 6 [(.loc 64), (.loc 65)], none⟩,
     ⟨(some 63), false, .mv (.loc 66), none⟩,
     ⟨(some 67), false, .extract (.loc 63) 0, none⟩,
     ⟨(some 68), false, .extract (.loc 63) 1, none⟩,
     ⟨(some 11), true, .alloc [(.sc (.int .i64 0)), (.sc (.string ⟨⟨[]⟩⟩)), (.sc (.int .i64 0)), (.sc (.slice none 0 0)), (.sc (.slice none 0 0)), (.sc (.slice none 0 0)), (.sc (.slice none 0 0))], none⟩,
     ⟨none, false, .store 7 (.env 11) (.loc 67), none⟩,
     ⟨(some 12), true, .mv (.loc 68), none⟩]
@[simp] def r4_16 : List HOp := [⟨(some 69), false, .mv (.env 1), none⟩]
@[simp] def r4_17 : List HOp := [⟨(some 70), false, .mv (.env 5), none⟩,
       ⟨(some 71), false, .mv (.loc 70), none⟩,
       ⟨(some 72), false, .mv (.env 12), some ((.loc 71), true)⟩,
       ⟨(some 73), false, .un .not (.loc 72), some ((.loc 71), true)⟩,
       ⟨(some 74), false, .pick (.loc 71) (.loc 73) (.val (.tr (.sc (.bool false)))), none⟩,
       ⟨(some 75), false, .mv (.loc 74), none⟩,
       ⟨(some 76), false, .faddr 0 (.env 11), some ((.loc 75), true)⟩,
       ⟨(some 77), false, .load 1 false (.loc 76), some ((.loc 75), true)⟩,
       ⟨(some 78), false, .bin .other .eql (.loc 77) (.val (.tr (.sc (.int .i64 0)))), some ((.loc 75), true)⟩,
       ⟨(some 79), false, .pick (.loc 75) (.loc 78) (.val (.tr (.sc (.bool false)))), none⟩,
       ⟨(some 80), false, .mv (.loc 79), none⟩,
       ⟨(some 81), false, .mv (.env 9), some ((.loc 80), true)⟩,
       ⟨(some 82), false, .callf 7 [(.val (.tr (.sc (.string ⟨⟨[112, 46, 65]⟩⟩)))), (.val (.tr (.sc (.slice none 0 0))))], some ((.loc 80), true)⟩,
       ⟨(some 83), false, .callf 11 [(.loc 81), (.loc 82)], some ((.loc 80), true)⟩,
       ⟨(some 84), false, .un .not (.loc 83), some ((.loc 80), true)⟩,
       ⟨(some 85), false, .pick (.loc 80) (.loc 84) (.val (.tr (.sc (.bool false)))), none⟩,
       ⟨(some 4), true, .mv (.loc 85), none⟩]
@[simp] def r4_18 : List HOp := [⟨(some 86), false, .mv (.env 5), none⟩,
     ⟨(some 87), false, .mv (.loc 86), none⟩,
     ⟨(some 88), false, .mv (.env 12), some ((.loc 87), true)⟩,
     ⟨(some 89), false, .pick (.loc 87) (.loc 88) (.val (.tr (.sc (.bool false)))), none⟩,
     ⟨(some 90), false, .mv (.loc 89), none⟩,
     ⟨(some 91), false, .faddr 1 (.env 11), some ((.loc 90), true)⟩,
     ⟨(some 92), false, .load 1 false (.loc 91), some ((.loc 90), true)⟩,
     ⟨(some 93), false, .bin .other .eql (.loc 92) (.val (.tr (.sc (.string ⟨⟨[115, 116, 114, 105, 110, 103]⟩⟩)))), some ((.loc 90), true)⟩,
     ⟨(some 94), false, .pick (.loc 90) (.loc 93) (.val (.tr (.sc (.bool false)))), none⟩,
     ⟨(some 95), false, .mv (.loc 94), none⟩,
     ⟨(some 96), false, .mv (.env 9), some ((.loc 95), true)⟩,
     ⟨(some 97), false, .callf 7 [(.val (.tr (.sc (.string ⟨⟨[112, 46, 65]⟩⟩)))), (.val (.tr (.sc (.slice none 0 0))))], some ((.loc 95), true)⟩,
     ⟨(some 98), false, .callf 11 [(.loc 96), (.loc 97)], some ((.loc 95), true)⟩,
     ⟨(some 99), false, .pick (.loc 95) (.loc 98) (.val (.tr (.sc (.bool false)))), none⟩,
     ⟨(some 100), false, .mv (.loc 99), none⟩,
     ⟨(some 101), false, .mv (.env 9), some ((.loc 100), true)⟩,
     ⟨(some 102), false, .callf 10 [(.loc 101)], some ((.loc 100), true)⟩,
     ⟨(some 103), false, .len 1 (.loc 102), some ((.loc 100), true)⟩,
     ⟨(some 104), false, .mv (.env 0), some ((.loc 100), true)⟩,
     ⟨(some 105), false, .bin .other .add (.loc 104) (.val (.tr (.sc (.int .i64 2)))), some ((.loc 100), true)⟩,
     ⟨(some 106), false, .bin .other .eql (.loc 103) (.loc 105), some ((.loc 100), true)⟩,
     ⟨(some 107), false, .pick (.loc 100) (.loc 106) (.val (.tr (.sc (.bool false)))), none⟩,
     ⟨(some 4), true, .mv (.loc 107), none⟩]
@[simp] def k4_3 : HCode := .seq (.region r4_3 none) .ret
@[simp] def k4_2 : HCode := .cond (.loc 19) k4_3 .skip
@[simp] def k4_8 : HCode := .cond (.loc 23) .skip (.exit 0)
@[simp] def k4_11 : HCode := .cond (.loc 43) (.region r4_9 none) .skip
def k4_12 : HCode := .region r4_10 none
@[simp] def k4_10 : HCode := .seq (.seq (.region r4_8 none) k4_11) k4_12
def k4_13 : HCode := .region r4_11 none
def k4_9 : HCode := .seq (.block 1 (.seq (.region r4_7 none) k4_10)) k4_13
def k4_7 : HCode := .seq (.seq (.region r4_6 none) k4_8) k4_9
@[simp] def k4_6 : HCode := .block 0 (.loop k4_7)
@[simp] def k4_17 : HCode := .seq (.region r4_14 none) .ret
@[simp] def k4_16 : HCode := .cond (.loc 62) k4_17 .skip
@[simp] def k4_21 : HCode := .seq (.region r4_17 none) .ret
@[simp] def k4_20 : HCode := .cond (.loc 69) k4_21 .skip
def k4_22 : HCode := .seq (.region r4_18 none) .ret
@[simp] def k4_19 : HCode := .seq (.seq (.region r4_16 none) k4_20) k4_22
def k4_18 : HCode := .seq (.region r4_15 none) k4_19
@[simp] def k4_15 : HCode := .seq (.seq (.region r4_13 none) k4_16) k4_18
def k4_14 : HCode := .seq (.region r4_12 none) k4_15
@[simp] def k4_5 : HCode := .seq (.seq (.region r4_5 none) k4_6) k4_14
def k4_4 : HCode := .seq (.region r4_4 none) k4_5
@[simp] def k4_1 : HCode := .seq (.seq (.region r4_2 none) k4_2) k4_4
@[simp] def k4_0 : HCode := .seq (.region r4_1 none) k4_1
@[simp] def fn4 : HFn := { nargs := 2, results := [.tmp 4], mode := .shared, code := (.seq (.region r4_0 none) k4_0) }
theorem c4 : cFn Tryz.prog (Hs 4) .shared 4 = some fn4 := by kernel_rfl
def fn25 : HFn := { nargs := 2, code := .bad, results := [], mode := .ext 0 }
def fn76 : HFn := { nargs := 2, code := .bad, results := [], mode := .ext 2 }
def fn77 : HFn := { nargs := 2, code := .bad, results := [], mode := .ext 3 }
def fn42 : HFn := { nargs := 1, code := .bad, results := [], mode := .ext 1 }
def fn21 : HFn := { nargs := 1, code := .bad, results := [], mode := .ext 9 }
def fn10 : HFn := { nargs := 1, code := .bad, results := [], mode := .ext 14 }
noncomputable def T : FTab := fun f => (bif2 (Nat.ble f 33) (bif2 (Nat.ble f 17) (bif2 (Nat.ble f 9) (bif2 (Nat.ble f 5) (bif2 (Nat.ble f 3) (bif2 (Nat.beq f 3) (some fn3) none) (bif2 (Nat.ble f 4) (bif2 (Nat.beq f 4) (some fn4) none) (bif2 (Nat.beq f 5) (some fn5) none))) (bif2 (Nat.ble f 7) (bif2 (Nat.ble f 6) (bif2 (Nat.beq f 6) (some fn6) none) (bif2 (Nat.beq f 7) (some fn7) none)) (bif2 (Nat.ble f 8) (bif2 (Nat.beq f 8) (some fn8) none) (bif2 (Nat.beq f 9) (some fn9) none)))) (bif2 (Nat.ble f 13) (bif2 (Nat.ble f 11) (bif2 (Nat.ble f 10) (bif2 (Nat.beq f 10) (some fn10) none) (bif2 (Nat.beq f 11) (some fn11) none)) (bif2 (Nat.ble f 12) (bif2 (Nat.beq f 12) (some fn12) none) (bif2 (Nat.beq f 13) (some fn13) none))) (bif2 (Nat.ble f 15) (bif2 (Nat.ble f 14) (bif2 (Nat.beq f 14) (some fn14) none) (bif2 (Nat.beq f 15) (some fn15) none)) (bif2 (Nat.ble f 16) (bif2 (Nat.beq f 16) (some fn16) none) (bif2 (Nat.beq f 17) (some fn17) none))))) (bif2 (Nat.ble f 25) (bif2 (Nat.ble f 21) (bif2 (Nat.ble f 19) (bif2 (Nat.ble f 18) (bif2 (Nat.beq f 18) (some fn18) none) (bif2 (Nat.beq f 19) (some fn19) none)) (bif2 (Nat.ble f 20) (bif2 (Nat.beq f 20) (some fn20) none) (bif2 (Nat.beq f 21) (some fn21) none))) (bif2 (Nat.ble f 23) (bif2 (Nat.ble f 22) (bif2 (Nat.beq f 22) (some fn22) none) (bif2 (Nat.beq f 23) (some fn23) none)) (bif2 (Nat.ble f 24) (bif2 (Nat.beq f 24) (some fn24) none) (bif2 (Nat.beq f 25) (some fn25) none)))) (bif2 (Nat.ble f 29) (bif2 (Nat.ble f 27) (bif2 (Nat.ble f 26) (bif2 (Nat.beq f 26) (some fn26) none) (bif2 (Nat.beq f 27) (some fn27) none)) (bif2 (Nat.ble f 28) (bif2 (Nat.beq f 28) (some fn28) none) (bif2 (Nat.beq f 29) (some fn29) none))) (bif2 (Nat.ble f 31) (bif2 (Nat.ble f 30) (bif2 (Nat.beq f 30) (some fn30) none) (bif2 (Nat.beq f 31) (some fn31) none)) (bif2 (Nat.ble f 32) (bif2 (Nat.beq f 32) (some fn32) none) (bif2 (Nat.beq f 33) (some fn33) none)))))) (bif2 (Nat.ble f 51) (bif2 (Nat.ble f 43) (bif2 (Nat.ble f 36) (bif2 (Nat.ble f 34) (bif2 (Nat.beq f 34) (some fn34) none) (bif2 (Nat.ble f 35) (bif2 (Nat.beq f 35) (some fn35) none) (bif2 (Nat.beq f 36) (some fn36) none))) (bif2 (Nat.ble f 41) (bif2 (Nat.ble f 39) (bif2 (Nat.beq f 39) (some fn39) none) (bif2 (Nat.beq f 41) (some fn41) none)) (bif2 (Nat.ble f 42) (bif2 (Nat.beq f 42) (some fn42) none) (bif2 (Nat.beq f 43) (some fn43) none)))) (bif2 (Nat.ble f 47) (bif2 (Nat.ble f 45) (bif2 (Nat.ble f 44) (bif2 (Nat.beq f 44) (some fn44) none) (bif2 (Nat.beq f 45) (some fn45) none)) (bif2 (Nat.ble f 46) (bif2 (Nat.beq f 46) (some fn46) none) (bif2 (Nat.beq f 47) (some fn47) none))) (bif2 (Nat.ble f 49) (bif2 (Nat.ble f 48) (bif2 (Nat.beq f 48) (some fn48) none) (bif2 (Nat.beq f 49) (some fn49) none)) (bif2 (Nat.ble f 50) (bif2 (Nat.beq f 50) (some fn50) none) (bif2 (Nat.beq f 51) (some fn51) none))))) (bif2 (Nat.ble f 59) (bif2 (Nat.ble f 55) (bif2 (Nat.ble f 53) (bif2 (Nat.ble f 52) (bif2 (Nat.beq f 52) (some fn52) none) (bif2 (Nat.beq f 53) (some fn53) none)) (bif2 (Nat.ble f 54) (bif2 (Nat.beq f 54) (some fn54) none) (bif2 (Nat.beq f 55) (some fn55) none))) (bif2 (Nat.ble f 57) (bif2 (Nat.ble f 56) (bif2 (Nat.beq f 56) (some fn56) none) (bif2 (Nat.beq f 57) (some fn57) none)) (bif2 (Nat.ble f 58) (bif2 (Nat.beq f 58) (some fn58) none) (bif2 (Nat.beq f 59) (some fn59) none)))) (bif2 (Nat.ble f 76) (bif2 (Nat.ble f 74) (bif2 (Nat.ble f 72) (bif2 (Nat.beq f 72) (some fn72) none) (bif2 (Nat.beq f 74) (some fn74) none)) (bif2 (Nat.ble f 75) (bif2 (Nat.beq f 75) (some fn75) none) (bif2 (Nat.beq f 76) (some fn76) none))) (bif2 (Nat.ble f 78) (bif2 (Nat.ble f 77) (bif2 (Nat.beq f 77) (some fn77) none) (bif2 (Nat.beq f 78) (some fn78) none)) (bif2 (Nat.ble f 79) (bif2 (Nat.beq f 79) (some fn79) none) (bif2 (Nat.beq f 80) (some fn80) none)))))))
theorem T3 : T 3 = some fn3 := rfl
theorem T4 : T 4 = some fn4 := rfl
theorem T5 : T 5 = some fn5 := rfl
theorem T6 : T 6 = some fn6 := rfl
theorem T7 : T 7 = some fn7 := rfl
theorem T8 : T 8 = some fn8 := rfl
theorem T9 : T 9 = some fn9 := rfl
theorem T10 : T 10 = some fn10 := rfl
theorem T11 : T 11 = some fn11 := rfl
theorem T12 : T 12 = some fn12 := rfl
theorem T13 : T 13 = some fn13 := rfl
theorem T14 : T 14 = some fn14 := rfl
theorem T15 : T 15 = some fn15 := rfl
theorem T16 : T 16 = some fn16 := rfl
theorem T17 : T 17 = some fn17 := rfl
theorem T18 : T 18 = some fn18 := rfl
theorem T19 : T 19 = some fn19 := rfl
theorem T20 : T 20 = some fn20 := rfl
theorem T21 : T 21 = some fn21 := rfl
theorem T22 : T 22 = some fn22 := rfl
theorem T23 : T 23 = some fn23 := rfl
theorem T24 : T 24 = some fn24 := rfl
theorem T25 : T 25 = some fn25 := rfl
theorem T26 : T 26 = some fn26 := rfl
theorem T27 : T 27 = some fn27 := rfl
theorem T28 : T 28 = some fn28 := rfl
theorem T29 : T 29 = some fn29 := rfl
theorem T30 : T 30 = some fn30 := rfl
theorem T31 : T 31 = some fn31 := rfl
theorem T32 : T 32 = some fn32 := rfl
theorem T33 : T 33 = some fn33 := rfl
theorem T34 : T 34 = some fn34 := rfl
theorem T35 : T 35 = some fn35 := rfl
theorem T36 : T 36 = some fn36 := rfl
theorem T39 : T 39 = some fn39 := rfl
theorem T41 : T 41 = some fn41 := rfl
theorem T42 : T 42 = some fn42 := rfl
theorem T43 : T 43 = some fn43 := rfl
theorem T44 : T 44 = some fn44 := rfl
theorem T45 : T 45 = some fn45 := rfl
theorem T46 : T 46 = some fn46 := rfl
theorem T47 : T 47 = some fn47 := rfl
theorem T48 : T 48 = some fn48 := rfl
theorem T49 : T 49 = some fn49 := rfl
theorem T50 : T 50 = some fn50 := rfl
theorem T51 : T 51 = some fn51 := rfl
theorem T52 : T 52 = some fn52 := rfl
theorem T53 : T 53 = some fn53 := rfl
theorem T54 : T 54 = some fn54 := rfl
theorem T55 : T 55 = some fn55 := rfl
theorem T56 : T 56 = some fn56 := rfl
theorem T57 : T 57 = some fn57 := rfl
theorem T58 : T 58 = some fn58 := rfl
theorem T59 : T 59 = some fn59 := rfl
theorem T72 : T 72 = some fn72 := rfl
theorem T74 : T 74 = some fn74 := rfl
theorem T75 : T 75 = some fn75 := rfl
theorem T76 : T 76 = some fn76 := rfl
theorem T77 : T 77 = some fn77 := rfl
theorem T78 : T 78 = some fn78 := rfl
theorem T79 : T 79 = some fn79 := rfl
theorem T80 : T 80 = some fn80 := rfl
theorem tabOk {Gd : Ground} (hg : GroundOk Gd) (he : ∀ f n k, Te f = some (n, k) → ExtOk Gd Tryz.prog f k) : TabOk Gd Tryz.prog T := by
  refine ⟨hg, fun f hfn h => ?_⟩
  unfold T at h
  rcases bif2_or h with ⟨_, h⟩ | ⟨_, h⟩
  · rcases bif2_or h with ⟨_, h⟩ | ⟨_, h⟩
    · rcases bif2_or h with ⟨_, h⟩ | ⟨_, h⟩
      · rcases bif2_or h with ⟨_, h⟩ | ⟨_, h⟩
        · rcases bif2_or h with ⟨_, h⟩ | ⟨_, h⟩
          · obtain ⟨hb, h⟩ := bif2_some h
            cases h
            rw [Nat.eq_of_beq_eq_true hb]
            exact .inl ⟨fun k hk => (by cases hk), Hs 3, c3⟩
          · rcases bif2_or h with ⟨_, h⟩ | ⟨_, h⟩
            · obtain ⟨hb, h⟩ := bif2_some h
              cases h
              rw [Nat.eq_of_beq_eq_true hb]
              exact .inl ⟨fun k hk => (by cases hk), Hs 4, c4⟩
            · obtain ⟨hb, h⟩ := bif2_some h
              cases h
              rw [Nat.eq_of_beq_eq_true hb]
              exact .inl ⟨fun k hk => (by cases hk), Hs 5, c5⟩
        · rcases bif2_or h with ⟨_, h⟩ | ⟨_, h⟩
          · rcases bif2_or h with ⟨_, h⟩ | ⟨_, h⟩
            · obtain ⟨hb, h⟩ := bif2_some h
              cases h
              rw [Nat.eq_of_beq_eq_true hb]
              exact .inl ⟨fun k hk => (by cases hk), Hs 6, c6⟩
            · obtain ⟨hb, h⟩ := bif2_some h
              cases h
              rw [Nat.eq_of_beq_eq_true hb]
              exact .inl ⟨fun k hk => (by cases hk), Hs 7, c7⟩
          · rcases bif2_or h with ⟨_, h⟩ | ⟨_, h⟩
            · obtain ⟨hb, h⟩ := bif2_some h
              cases h
              rw [Nat.eq_of_beq_eq_true hb]
              exact .inl ⟨fun k hk => (by cases hk), Hs 8, c8⟩
            · obtain ⟨hb, h⟩ := bif2_some h
              cases h
              rw [Nat.eq_of_beq_eq_true hb]
              exact .inl ⟨fun k hk => (by cases hk), Hs 9, c9⟩
      · rcases bif2_or h with ⟨_, h⟩ | ⟨_, h⟩
        · rcases bif2_or h with ⟨_, h⟩ | ⟨_, h⟩
          · rcases bif2_or h with ⟨_, h⟩ | ⟨_, h⟩
            · obtain ⟨hb, h⟩ := bif2_some h
              cases h
              rw [Nat.eq_of_beq_eq_true hb]
              exact .inr ⟨14, rfl, he 10 _ _ rfl⟩
            · obtain ⟨hb, h⟩ := bif2_some h
              cases h
              rw [Nat.eq_of_beq_eq_true hb]
              exact .inl ⟨fun k hk => (by cases hk), Hs 11, c11⟩
          · rcases bif2_or h with ⟨_, h⟩ | ⟨_, h⟩
            · obtain ⟨hb, h⟩ := bif2_some h
              cases h
              rw [Nat.eq_of_beq_eq_true hb]
              exact .inl ⟨fun k hk => (by cases hk), Hs 12, c12⟩
            · obtain ⟨hb, h⟩ := bif2_some h
              cases h
              rw [Nat.eq_of_beq_eq_true hb]
              exact .inl ⟨fun k hk => (by cases hk), Hs 13, c13⟩
        · rcases bif2_or h with ⟨_, h⟩ | ⟨_, h⟩
          · rcases bif2_or h with ⟨_, h⟩ | ⟨_, h⟩
            · obtain ⟨hb, h⟩ := bif2_some h
              cases h
              rw [Nat.eq_of_beq_eq_true hb]
              exact .inl ⟨fun k hk => (by cases hk), Hs 14, c14⟩
            · obtain ⟨hb, h⟩ := bif2_some h
              cases h
              rw [Nat.eq_of_beq_eq_true hb]
              exact .inl ⟨fun k hk => (by cases hk), Hs 15, c15⟩
          · rcases bif2_or h with ⟨_, h⟩ | ⟨_, h⟩
            · obtain ⟨hb, h⟩ := bif2_some h
              cases h
              rw [Nat.eq_of_beq_eq_true hb]
              exact .inl ⟨fun k hk => (by cases hk), Hs 16, c16⟩
            · obtain ⟨hb, h⟩ := bif2_some h
              cases h
              rw [Nat.eq_of_beq_eq_true hb]
              exact .inl ⟨fun k hk => (by cases hk), Hs 17, c17⟩
    · rcases bif2_or h with ⟨_, h⟩ | ⟨_, h⟩
      · rcases bif2_or h with ⟨_, h⟩ | ⟨_, h⟩
        · rcases bif2_or h with ⟨_, h⟩ | ⟨_, h⟩
          · rcases bif2_or h with ⟨_, h⟩ | ⟨_, h⟩
            · obtain ⟨hb, h⟩ := bif2_some h
              cases h
              rw [Nat.eq_of_beq_eq_true hb]
              exact .inl ⟨fun k hk => (by cases hk), Hs 18, c18⟩
            · obtain ⟨hb, h⟩ := bif2_some h
              cases h
              rw [Nat.eq_of_beq_eq_true hb]
              exact .inl ⟨fun k hk => (by cases hk), Hs 19, c19⟩
          · rcases bif2_or h with ⟨_, h⟩ | ⟨_, h⟩
            · obtain ⟨hb, h⟩ := bif2_some h
              cases h
              rw [Nat.eq_of_beq_eq_true hb]
              exact .inl ⟨fun k hk => (by cases hk), Hs 20, c20⟩
            · obtain ⟨hb, h⟩ := bif2_some h
              cases h
              rw [Nat.eq_of_beq_eq_true hb]
              exact .inr ⟨9, rfl, he 21 _ _ rfl⟩
        · rcases bif2_or h with ⟨_, h⟩ | ⟨_, h⟩
          · rcases bif2_or h with ⟨_, h⟩ | ⟨_, h⟩
            · obtain ⟨hb, h⟩ := bif2_some h
              cases h
              rw [Nat.eq_of_beq_eq_true hb]
              exact .inl ⟨fun k hk => (by cases hk), Hs 22, c22⟩
            · obtain ⟨hb, h⟩ := bif2_some h
              cases h
              rw [Nat.eq_of_beq_eq_true hb]
              exact .inl ⟨fun k hk => (by cases hk), Hs 23, c23⟩
          · rcases bif2_or h with ⟨_, h⟩ | ⟨_, h⟩
            · obtain ⟨hb, h⟩ := bif2_some h
              cases h
              rw [Nat.eq_of_beq_eq_true hb]
              exact .inl ⟨fun k hk => (by cases hk), Hs 24, c24⟩
            · obtain ⟨hb, h⟩ := bif2_some h
              cases h
              rw [Nat.eq_of_beq_eq_true hb]
              exact .inr ⟨0, rfl, he 25 _ _ rfl⟩
      · rcases bif2_or h with ⟨_, h⟩ | ⟨_, h⟩
        · rcases bif2_or h with ⟨_, h⟩ | ⟨_, h⟩
          · rcases bif2_or h with ⟨_, h⟩ | ⟨_, h⟩
            · obtain ⟨hb, h⟩ := bif2_some h
              cases h
              rw [Nat.eq_of_beq_eq_true hb]
              exact .inl ⟨fun k hk => (by cases hk), Hs 26, c26⟩
            · obtain ⟨hb, h⟩ := bif2_some h
              cases h
              rw [Nat.eq_of_beq_eq_true hb]
              exact .inl ⟨fun k hk => (by cases hk), Hs 27, c27⟩
          · rcases bif2_or h with ⟨_, h⟩ | ⟨_, h⟩
            · obtain ⟨hb, h⟩ := bif2_some h
              cases h
              rw [Nat.eq_of_beq_eq_true hb]
              exact .inl ⟨fun k hk => (by cases hk), Hs 28, c28⟩
            · obtain ⟨hb, h⟩ := bif2_some h
              cases h
              rw [Nat.eq_of_beq_eq_true hb]
              exact .inl ⟨fun k hk => (by cases hk), Hs 29, c29⟩
        · rcases bif2_or h with ⟨_, h⟩ | ⟨_, h⟩
          · rcases bif2_or h with ⟨_, h⟩ | ⟨_, h⟩
            · obtain ⟨hb, h⟩ := bif2_some h
              cases h
              rw [Nat.eq_of_beq_eq_true hb]
              exact .inl ⟨fun k hk => (by cases hk), Hs 30, c30⟩
            · obtain ⟨hb, h⟩ := bif2_some h
              cases h
              rw [Nat.eq_of_beq_eq_true hb]
              exact .inl ⟨fun k hk => (by cases hk), Hs 31, c31⟩
          · rcases bif2_or h with ⟨_, h⟩ | ⟨_, h⟩
            · obtain ⟨hb, h⟩ := bif2_some h
              cases h
              rw [Nat.eq_of_beq_eq_true hb]
              exact .inl ⟨fun k hk => (by cases hk), Hs 32, c32⟩
            · obtain ⟨hb, h⟩ := bif2_some h
              cases h
              rw [Nat.eq_of_beq_eq_true hb]
              exact .inl ⟨fun k hk => (by cases hk), Hs 33, c33⟩
  · rcases bif2_or h with ⟨_, h⟩ | ⟨_, h⟩
    · rcases bif2_or h with ⟨_, h⟩ | ⟨_, h⟩
      · rcases bif2_or h with ⟨_, h⟩ | ⟨_, h⟩
        · rcases bif2_or h with ⟨_, h⟩ | ⟨_, h⟩
          · obtain ⟨hb, h⟩ := bif2_some h
            cases h
            rw [Nat.eq_of_beq_eq_true hb]
            exact .inl ⟨fun k hk => (by cases hk), Hs 34, c34⟩
          · rcases bif2_or h with ⟨_, h⟩ | ⟨_, h⟩
            · obtain ⟨hb, h⟩ := bif2_some h
              cases h
              rw [Nat.eq_of_beq_eq_true hb]
              exact .inl ⟨fun k hk => (by cases hk), Hs 35, c35⟩
            · obtain ⟨hb, h⟩ := bif2_some h
              cases h
              rw [Nat.eq_of_beq_eq_true hb]
              exact .inl ⟨fun k hk => (by cases hk), Hs 36, c36⟩
        · rcases bif2_or h with ⟨_, h⟩ | ⟨_, h⟩
          · rcases bif2_or h with ⟨_, h⟩ | ⟨_, h⟩
            · obtain ⟨hb, h⟩ := bif2_some h
              cases h
              rw [Nat.eq_of_beq_eq_true hb]
              exact .inl ⟨fun k hk => (by cases hk), Hs 39, c39⟩
            · obtain ⟨hb, h⟩ := bif2_some h
              cases h
              rw [Nat.eq_of_beq_eq_true hb]
              exact .inl ⟨fun k hk => (by cases hk), Hs 41, c41⟩
          · rcases bif2_or h with ⟨_, h⟩ | ⟨_, h⟩
            · obtain ⟨hb, h⟩ := bif2_some h
              cases h
              rw [Nat.eq_of_beq_eq_true hb]
              exact .inr ⟨1, rfl, he 42 _ _ rfl⟩
            · obtain ⟨hb, h⟩ := bif2_some h
              cases h
              rw [Nat.eq_of_beq_eq_true hb]
              exact .inl ⟨fun k hk => (by cases hk), Hs 43, c43⟩
      · rcases bif2_or h with ⟨_, h⟩ | ⟨_, h⟩
        · rcases bif2_or h with ⟨_, h⟩ | ⟨_, h⟩
          · rcases bif2_or h with ⟨_, h⟩ | ⟨_, h⟩
            · obtain ⟨hb, h⟩ := bif2_some h
              cases h
              rw [Nat.eq_of_beq_eq_true hb]
              exact .inl ⟨fun k hk => (by cases hk), Hs 44, c44⟩
            · obtain ⟨hb, h⟩ := bif2_some h
              cases h
              rw [Nat.eq_of_beq_eq_true hb]
              exact .inl ⟨fun k hk => (by cases hk), Hs 45, c45⟩
          · rcases bif2_or h with ⟨_, h⟩ | ⟨_, h⟩
            · obtain ⟨hb, h⟩ := bif2_some h
              cases h
              rw [Nat.eq_of_beq_eq_true hb]
              exact .inl ⟨fun k hk => (by cases hk), Hs 46, c46⟩
            · obtain ⟨hb, h⟩ := bif2_some h
              cases h
              rw [Nat.eq_of_beq_eq_true hb]
              exact .inl ⟨fun k hk => (by cases hk), Hs 47, c47⟩
        · rcases bif2_or h with ⟨_, h⟩ | ⟨_, h⟩
          · rcases bif2_or h with ⟨_, h⟩ | ⟨_, h⟩
            · obtain ⟨hb, h⟩ := bif2_some h
              cases h
              rw [Nat.eq_of_beq_eq_true hb]
              exact .inl ⟨fun k hk => (by cases hk), Hs 48, c48⟩
            · obtain ⟨hb, h⟩ := bif2_some h
              cases h
              rw [Nat.eq_of_beq_eq_true hb]
              exact .inl ⟨fun k hk => (by cases hk), Hs 49, c49⟩
          · rcases bif2_or h with ⟨_, h⟩ | ⟨_, h⟩
            · obtain ⟨hb, h⟩ := bif2_some h
              cases h
              rw [Nat.eq_of_beq_eq_true hb]
              exact .inl ⟨fun k hk => (by cases hk), Hs 50, c50⟩
            · obtain ⟨hb, h⟩ := bif2_some h
              cases h
              rw [Nat.eq_of_beq_eq_true hb]
              exact .inl ⟨fun k hk => (by cases hk), Hs 51, c51⟩
    · rcases bif2_or h with ⟨_, h⟩ | ⟨_, h⟩
      · rcases bif2_or h with ⟨_, h⟩ | ⟨_, h⟩
        · rcases bif2_or h with ⟨_, h⟩ | ⟨_, h⟩
          · rcases bif2_or h with ⟨_, h⟩ | ⟨_, h⟩
            · obtain ⟨hb, h⟩ := bif2_some h
              cases h
              rw [Nat.eq_of_beq_eq_true hb]
              exact .inl ⟨fun k hk => (by cases hk), Hs 52, c52⟩
            · obtain ⟨hb, h⟩ := bif2_some h
              cases h
              rw [Nat.eq_of_beq_eq_true hb]
              exact .inl ⟨fun k hk => (by cases hk), Hs 53, c53⟩
          · rcases bif2_or h with ⟨_, h⟩ | ⟨_, h⟩
            · obtain ⟨hb, h⟩ := bif2_some h
              cases h
              rw [Nat.eq_of_beq_eq_true hb]
              exact .inl ⟨fun k hk => (by cases hk), Hs 54, c54⟩
            · obtain ⟨hb, h⟩ := bif2_some h
              cases h
              rw [Nat.eq_of_beq_eq_true hb]
              exact .inl ⟨fun k hk => (by cases hk), Hs 55, c55⟩
        · rcases bif2_or h with ⟨_, h⟩ | ⟨_, h⟩
          · rcases bif2_or h with ⟨_, h⟩ | ⟨_, h⟩
            · obtain ⟨hb, h⟩ := bif2_some h
              cases h
              rw [Nat.eq_of_beq_eq_true hb]
              exact .inl ⟨fun k hk => (by cases hk), Hs 56, c56⟩
            · obtain ⟨hb, h⟩ := bif2_some h
              cases h
              rw [Nat.eq_of_beq_eq_true hb]
              exact .inl ⟨fun k hk => (by cases hk), Hs 57, c57⟩
          · rcases bif2_or h with ⟨_, h⟩ | ⟨_, h⟩
            · obtain ⟨hb, h⟩ := bif2_some h
              cases h
              rw [Nat.eq_of_beq_eq_true hb]
              exact .inl ⟨fun k hk => (by cases hk), Hs 58, c58⟩
            · obtain ⟨hb, h⟩ := bif2_some h
              cases h
              rw [Nat.eq_of_beq_eq_true hb]
              exact .inl ⟨fun k hk => (by cases hk), Hs 59, c59⟩
      · rcases bif2_or h with ⟨_, h⟩ | ⟨_, h⟩
        · rcases bif2_or h with ⟨_, h⟩ | ⟨_, h⟩
          · rcases bif2_or h with ⟨_, h⟩ | ⟨_, h⟩
            · obtain ⟨hb, h⟩ := bif2_some h
              cases h
              rw [Nat.eq_of_beq_eq_true hb]
              exact .inl ⟨fun k hk => (by cases hk), Hs 72, c72⟩
            · obtain ⟨hb, h⟩ := bif2_some h
              cases h
              rw [Nat.eq_of_beq_eq_true hb]
              exact .inl ⟨fun k hk => (by cases hk), Hs 74, c74⟩
          · rcases bif2_or h with ⟨_, h⟩ | ⟨_, h⟩
            · obtain ⟨hb, h⟩ := bif2_some h
              cases h
              rw [Nat.eq_of_beq_eq_true hb]
              exact .inl ⟨fun k hk => (by cases hk), Hs 75, c75⟩
            · obtain ⟨hb, h⟩ := bif2_some h
              cases h
              rw [Nat.eq_of_beq_eq_true hb]
              exact .inr ⟨2, rfl, he 76 _ _ rfl⟩
        · rcases bif2_or h with ⟨_, h⟩ | ⟨_, h⟩
          · rcases bif2_or h with ⟨_, h⟩ | ⟨_, h⟩
            · obtain ⟨hb, h⟩ := bif2_some h
              cases h
              rw [Nat.eq_of_beq_eq_true hb]
              exact .inr ⟨3, rfl, he 77 _ _ rfl⟩
            · obtain ⟨hb, h⟩ := bif2_some h
              cases h
              rw [Nat.eq_of_beq_eq_true hb]
              exact .inl ⟨fun k hk => (by cases hk), Hs 78, c78⟩
          · rcases bif2_or h with ⟨_, h⟩ | ⟨_, h⟩
            · obtain ⟨hb, h⟩ := bif2_some h
              cases h
              rw [Nat.eq_of_beq_eq_true hb]
              exact .inl ⟨fun k hk => (by cases hk), Hs 79, c79⟩
            · obtain ⟨hb, h⟩ := bif2_some h
              cases h
              rw [Nat.eq_of_beq_eq_true hb]
              exact .inl ⟨fun k hk => (by cases hk), Hs 80, c80⟩
end Go.Proofs.YthkndfiekgaojaaGreatDoor.AM.Ev
