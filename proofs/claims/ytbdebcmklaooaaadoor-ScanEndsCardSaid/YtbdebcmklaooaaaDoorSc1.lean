/- The functions that ScanEnds reaches, each checked against the translation, part two; the table of them. -/
import Derived.Test.YtbdebcmklaooaaaDoorSc1a
set_option maxRecDepth 1000000
set_option linter.unusedVariables false
set_option linter.unusedSimpArgs false
namespace Go.Proofs.YtbdebcmklaooaaaDoor.AM.Sc
open Go.Proofs
/- (*sterling/scan.scanner).escape -/
@[simp] def r45_0 : List HOp := [⟨(some 2), true, .mv (.val (.tr (.sc (.bool false)))), none⟩]
@[simp] def r45_1 : List HOp := [⟨(some 3), true, .mv (.val (.tr (.sc (.int .i64 0)))), none⟩]
@[simp] def r45_2 : List HOp := [⟨(some 5), false, .mv (.env 0), none⟩,
      ⟨(some 6), true, .callf 37 [(.loc 5), (.val (.tr (.sc (.int .i64 0))))], none⟩]
@[simp] def r45_3 : List HOp := [⟨(some 8), false, .bin .other .eql (.env 6) (.val (.tr (.sc (.int .u8 92)))), none⟩,
        ⟨(some 7), true, .mv (.loc 8), none⟩]
@[simp] def r45_4 : List HOp := [⟨(some 9), false, .bin .other .eql (.env 6) (.val (.tr (.sc (.int .u8 34)))), none⟩,
         ⟨(some 7), true, .mv (.loc 9), none⟩]
@[simp] def r45_5 : List HOp := [⟨(some 10), false, .bin .other .eql (.env 6) (.val (.tr (.sc (.int .u8 110)))), none⟩,
          ⟨(some 7), true, .mv (.loc 10), none⟩]
@[simp] def r45_6 : List HOp := [⟨(some 11), false, .bin .other .eql (.env 6) (.val (.tr (.sc (.int .u8 116)))), none⟩,
          ⟨(some 7), true, .mv (.loc 11), none⟩]
@[simp] def r45_7 : List HOp := [⟨(some 13), false, .bin .other .eql (.env 6) (.val (.tr (.sc (.int .u8 120)))), none⟩,
        ⟨(some 12), false, .mv (.loc 13), none⟩]
@[simp] def r45_8 : List HOp := [⟨(some 3), true, .mv (.val (.tr (.sc (.int .i64 2)))), none⟩]
@[simp] def r45_9 : List HOp := [⟨(some 15), false, .bin .other .eql (.env 6) (.val (.tr (.sc (.int .u8 117)))), none⟩,
         ⟨(some 14), false, .mv (.loc 15), none⟩]
@[simp] def r45_10 : List HOp := [⟨(some 3), true, .mv (.val (.tr (.sc (.int .i64 4)))), none⟩]
@[simp] def r45_11 : List HOp := [⟨(some 2), true, .mv (.val (.tr (.sc (.bool false)))), none⟩]
@[simp] def r45_12 : List HOp := [⟨(some 16), false, .mv (.env 0), none⟩,
     ⟨(some 17), false, .nilchk (.loc 16), none⟩,
     ⟨(some 18), false, .faddr 1 (.loc 17), none⟩,
     ⟨(some 19), false, .load 1 false (.loc 18), none⟩,
     ⟨(some 20), false, .bin .other .add (.loc 19) (.val (.tr (.sc (.int .i64 1)))), none⟩,
     ⟨(some 21), false, .nilchk (.loc 16), none⟩,
     ⟨(some 22), false, .faddr 1 (.loc 21), none⟩,
     ⟨none, false, .store 1 (.loc 22) (.loc 20), none⟩]
@[simp] def r45_13 : List HOp := [⟨(some 23), true, .mv (.env 3), none⟩,
      ⟨(some 24), true, .mv (.val (.tr (.sc (.int .i64 0)))), none⟩]
@[simp] def r45_14 : List HOp := [⟨(some 25), false, .bin .other .lss (.env 24) (.env 23), none⟩]
@[simp] def r45_15 : List HOp := [⟨(some 26), false, .mv (.env 24), none⟩,
          ⟨(some 4), true, .mv (.loc 26), none⟩]
@[simp] def r45_16 : List HOp := [⟨(some 27), false, .mv (.env 0), none⟩,
          ⟨(some 28), false, .mv (.env 4), none⟩,
          ⟨(some 29), false, .callf 37 [(.loc 27), (.loc 28)], none⟩,
          ⟨(some 30), false, .callf 57 [(.loc 29)], none⟩,
          ⟨(some 31), false, .un .not (.loc 30), none⟩]
@[simp] def r45_17 : List HOp := [⟨(some 2), true, .mv (.val (.tr (.sc (.bool false)))), none⟩]
@[simp] def r45_18 : List HOp := [⟨(some 32), false, .bin .other .add (.env 24) (.val (.tr (.sc (.int .i64 1)))), none⟩,
       ⟨(some 24), true, .mv (.loc 32), none⟩]
@[simp] def r45_19 : List HOp := [⟨(some 33), false, .mv (.env 3), none⟩,
      ⟨(some 34), false, .bin .other .eql (.loc 33) (.val (.tr (.sc (.int .i64 4)))), none⟩,
      ⟨(some 35), false, .mv (.loc 34), none⟩,
      ⟨(some 36), false, .mv (.env 0), some ((.loc 35), true)⟩,
      ⟨(some 37), false, .callf 37 [(.loc 36), (.val (.tr (.sc (.int .i64 0))))], some ((.loc 35), true)⟩,
      ⟨(some 38), false, .bin .other .or (.loc 37) (.val (.tr (.sc (.int .u8 32)))), some ((.loc 35), true)⟩,
      ⟨(some 39), false, .bin .other .eql (.loc 38) (.val (.tr (.sc (.int .u8 100)))), some ((.loc 35), true)⟩,
      ⟨(some 40), false, .pick (.loc 35) (.loc 39) (.val (.tr (.sc (.bool false)))), none⟩,
      ⟨(some 41), false, .mv (.loc 40), none⟩,
      ⟨(some 42), false, .mv (.env 0), some ((.loc 41), true)⟩,
      ⟨(some 43), false, .callf 37 [(.loc 42), (.val (.tr (.sc (.int .i64 1))))], some ((.loc 41), true)⟩,
      ⟨(some 44), false, .bin .other .geq (.loc 43) (.val (.tr (.sc (.int .u8 56)))), some ((.loc 41), true)⟩,
      ⟨(some 45), false, .pick (.loc 41) (.loc 44) (.val (.tr (.sc (.bool false)))), none⟩]
@[simp] def r45_20 : List HOp := [⟨(some 2), true, .mv (.val (.tr (.sc (.bool false)))), none⟩]
@[simp] def r45_21 : List HOp := [⟨(some 46), false, .mv (.env 0), none⟩,
     ⟨(some 47), false, .nilchk (.loc 46), none⟩,
     ⟨(some 48), false, .faddr 1 (.loc 47), none⟩,
     ⟨(some 49), false, .load 1 false (.loc 48), none⟩,
     ⟨(some 50), false, .mv (.env 3), none⟩,
     ⟨(some 51), false, .bin .other .add (.loc 49) (.loc 50), none⟩,
     ⟨(some 52), false, .nilchk (.loc 46), none⟩,
     ⟨(some 53), false, .faddr 1 (.loc 52), none⟩,
     ⟨none, false, .store 1 (.loc 53) (.loc 51), none⟩]
@[simp] def r45_22 : List HOp := [⟨(some 2), true, .mv (.val (.tr (.sc (.bool true)))), none⟩]
@[simp] def k45_7 : HCode := .cond (.env 7) .skip (.region r45_6 none)
@[simp] def k45_6 : HCode := .seq (.region r45_5 none) k45_7
@[simp] def k45_5 : HCode := .cond (.env 7) .skip k45_6
@[simp] def k45_4 : HCode := .seq (.region r45_4 none) k45_5
@[simp] def k45_3 : HCode := .cond (.env 7) .skip k45_4
@[simp] def k45_13 : HCode := .seq (.region r45_11 none) .ret
@[simp] def k45_12 : HCode := .cond (.loc 14) (.region r45_10 none) k45_13
@[simp] def k45_11 : HCode := .seq (.region r45_9 none) k45_12
@[simp] def k45_10 : HCode := .cond (.loc 12) (.region r45_8 none) k45_11
@[simp] def k45_9 : HCode := .seq (.region r45_7 none) k45_10
def k45_8 : HCode := .cond (.env 7) .skip k45_9
@[simp] def k45_2 : HCode := .block 0 (.seq (.seq (.region r45_3 none) k45_3) k45_8)
@[simp] def k45_22 : HCode := .seq (.region r45_17 none) .ret
@[simp] def k45_21 : HCode := .cond (.loc 31) k45_22 .skip
@[simp] def k45_20 : HCode := .seq (.region r45_16 none) k45_21
def k45_23 : HCode := .region r45_18 none
def k45_19 : HCode := .seq (.block 2 (.seq (.region r45_15 none) k45_20)) k45_23
@[simp] def k45_18 : HCode := .seq (.cond (.loc 25) .skip (.exit 1)) k45_19
def k45_17 : HCode := .seq (.region r45_14 none) k45_18
@[simp] def k45_16 : HCode := .block 1 (.loop k45_17)
@[simp] def k45_26 : HCode := .seq (.region r45_20 none) .ret
@[simp] def k45_25 : HCode := .cond (.loc 45) k45_26 .skip
@[simp] def k45_28 : HCode := .seq (.region r45_22 none) .ret
def k45_27 : HCode := .seq (.region r45_21 none) k45_28
def k45_24 : HCode := .seq (.seq (.region r45_19 none) k45_25) k45_27
@[simp] def k45_15 : HCode := .seq (.seq (.region r45_13 none) k45_16) k45_24
def k45_14 : HCode := .seq (.region r45_12 none) k45_15
@[simp] def k45_1 : HCode := .seq (.seq (.region r45_2 none) k45_2) k45_14
@[simp] def k45_0 : HCode := .seq (.region r45_1 none) k45_1
@[simp] def fn45 : HFn := { nargs := 1, results := [.tmp 2], mode := .shared, code := (.seq (.region r45_0 none) k45_0) }
theorem c45 : cFn Tryd.prog (Hs 45) .shared 45 = some fn45 := by kernel_rfl
/- unicode/utf8.DecodeRune -/
@[simp] def r46_0 : List HOp := [⟨(some 2), true, .mv (.val (.tr (.sc (.int .i32 0)))), none⟩,
     ⟨(some 3), true, .mv (.val (.tr (.sc (.int .i64 0)))), none⟩]
@[simp] def r46_1 : List HOp := [⟨(some 6), true, .mv (.env 0), none⟩,
      ⟨(some 7), true, .len 1 (.env 6), none⟩,
      ⟨(some 8), true, .mv (.val (.tr (.sc (.int .i64 0)))), none⟩]
@[simp] def r46_2 : List HOp := [⟨(some 9), false, .bin .other .lss (.env 8) (.env 7), none⟩]
@[simp] def r46_3 : List HOp := [⟨(some 10), false, .iaddr 1 (.env 6) (.env 8), none⟩,
          ⟨(some 11), false, .load 1 false (.loc 10), none⟩,
          ⟨(some 5), true, .mv (.loc 11), none⟩]
@[simp] def r46_4 : List HOp := [⟨(some 12), false, .mv (.env 5), none⟩,
           ⟨(some 13), false, .bin .other .lss (.loc 12) (.val (.tr (.sc (.int .u8 128)))), none⟩]
@[simp] def r46_5 : List HOp := [⟨(some 14), false, .mv (.env 5), none⟩,
            ⟨(some 15), false, .conv (.toInt .i32) (.loc 14), none⟩,
            ⟨(some 2), true, .mv (.loc 15), none⟩,
            ⟨(some 3), true, .mv (.val (.tr (.sc (.int .i64 1)))), none⟩]
@[simp] def r46_6 : List HOp := [⟨(some 16), false, .bin .other .add (.env 8) (.val (.tr (.sc (.int .i64 1)))), none⟩,
       ⟨(some 8), true, .mv (.loc 16), none⟩]
@[simp] def r46_7 : List HOp := [⟨(some 18), false, .mv (.env 0), none⟩,
     ⟨(some 19), false, .callf 58 [(.loc 18)], none⟩,
     ⟨(some 17), false, .mv (.loc 19), none⟩,
     ⟨(some 20), false, .extract (.loc 17) 0, none⟩,
     ⟨(some 21), false, .extract (.loc 17) 1, none⟩,
     ⟨(some 2), true, .mv (.loc 20), none⟩,
     ⟨(some 3), true, .mv (.loc 21), none⟩]
@[simp] def k46_7 : HCode := .seq (.region r46_5 none) .ret
@[simp] def k46_6 : HCode := .cond (.loc 13) k46_7 .skip
@[simp] def k46_5 : HCode := .seq (.seq (.region r46_4 none) k46_6) (.exit 0)
def k46_8 : HCode := .region r46_6 none
def k46_4 : HCode := .seq (.block 1 (.seq (.region r46_3 none) k46_5)) k46_8
@[simp] def k46_3 : HCode := .seq (.cond (.loc 9) .skip (.exit 0)) k46_4
def k46_2 : HCode := .seq (.region r46_2 none) k46_3
@[simp] def k46_1 : HCode := .block 0 (.loop k46_2)
def k46_9 : HCode := .seq (.region r46_7 none) .ret
@[simp] def k46_0 : HCode := .seq (.seq (.region r46_1 none) k46_1) k46_9
@[simp] def fn46 : HFn := { nargs := 1, results := [.tmp 2, .tmp 3], mode := .shared, code := (.seq (.region r46_0 none) k46_0) }
theorem c46 : cFn Tryd.prog (Hs 46) .shared 46 = some fn46 := by kernel_rfl
/- (*sterling/scan.scanner).operator -/
@[simp] def r39_0 : List HOp := [⟨(some 2), true, .mv (.val (.tr (.sc (.bool false)))), none⟩]
@[simp] def r39_1 : List HOp := [⟨(some 6), true, .callf 56 [(.val (.tr (.sc (.string ⟨⟨[38, 94, 61, 32, 38, 38, 32, 38, 94, 32, 38, 61, 32, 124, 124, 32, 124, 61, 32, 61, 61, 32, 33, 61, 32, 60, 61, 32, 62, 61, 32, 43, 61, 32, 45, 61, 32, 42, 61, 32, 47, 61, 32, 37, 61, 32, 94, 61, 32, 58, 61, 32, 43, 43, 32, 45, 45, 32, 43, 32, 45, 32, 42, 32, 47, 32, 37, 32, 38, 32, 124, 32, 94, 32, 60, 32, 62, 32, 33, 32, 40, 32, 41, 32, 91, 32, 93, 32, 123, 32, 125, 32, 44, 32, 46, 32, 61, 32, 126, 32, 58]⟩⟩))))], none⟩,
      ⟨(some 7), true, .len 1 (.env 6), none⟩,
      ⟨(some 8), true, .mv (.val (.tr (.sc (.int .i64 0)))), none⟩]
@[simp] def r39_2 : List HOp := [⟨(some 9), false, .bin .other .lss (.env 8) (.env 7), none⟩]
@[simp] def r39_3 : List HOp := [⟨(some 10), false, .iaddr 1 (.env 6) (.env 8), none⟩,
          ⟨(some 11), false, .load 1 false (.loc 10), none⟩,
          ⟨(some 4), true, .mv (.loc 11), none⟩]
@[simp] def r39_4 : List HOp := [⟨(some 12), false, .mv (.env 0), none⟩,
          ⟨(some 13), false, .mv (.env 4), none⟩,
          ⟨(some 14), false, .callf 32 [(.loc 12), (.loc 13)], none⟩]
@[simp] def r39_5 : List HOp := [⟨(some 15), false, .mv (.env 0), none⟩,
           ⟨(some 16), false, .nilchk (.loc 15), none⟩,
           ⟨(some 17), false, .faddr 1 (.loc 16), none⟩,
           ⟨(some 18), false, .load 1 false (.loc 17), none⟩,
           ⟨(some 5), true, .mv (.loc 18), none⟩]
@[simp] def r39_6 : List HOp := [⟨(some 19), false, .mv (.env 0), none⟩,
           ⟨(some 20), false, .nilchk (.loc 19), none⟩,
           ⟨(some 21), false, .faddr 1 (.loc 20), none⟩,
           ⟨(some 22), false, .load 1 false (.loc 21), none⟩,
           ⟨(some 23), false, .mv (.env 4), none⟩,
           ⟨(some 24), false, .len 0 (.loc 23), none⟩,
           ⟨(some 25), false, .bin .other .add (.loc 22) (.loc 24), none⟩,
           ⟨(some 26), false, .nilchk (.loc 19), none⟩,
           ⟨(some 27), false, .faddr 1 (.loc 26), none⟩,
           ⟨none, false, .store 1 (.loc 27) (.loc 25), none⟩]
@[simp] def r39_7 : List HOp := [⟨(some 28), false, .mv (.env 0), none⟩,
           ⟨(some 29), false, .mv (.env 5), none⟩,
           ⟨(some 30), false, .callf 18 [(.loc 28), (.val (.tr (.sc (.int .i64 5)))), (.loc 29)], none⟩]
@[simp] def r39_8 : List HOp := [⟨(some 31), false, .mv (.env 0), none⟩,
           ⟨(some 32), false, .mv (.env 4), none⟩,
           ⟨(some 33), false, .bin .other .add (.val (.tr (.sc (.string ⟨⟨[32]⟩⟩)))) (.loc 32), none⟩,
           ⟨(some 34), false, .bin .other .add (.loc 33) (.val (.tr (.sc (.string ⟨⟨[32]⟩⟩)))), none⟩,
           ⟨(some 35), false, .callf 31 [(.val (.tr (.sc (.string ⟨⟨[32, 43, 43, 32, 45, 45, 32, 41, 32, 93, 32, 125, 32]⟩⟩)))), (.loc 34)], none⟩,
           ⟨(some 36), false, .nilchk (.loc 31), none⟩,
           ⟨(some 37), false, .faddr 2 (.loc 36), none⟩,
           ⟨none, false, .store 1 (.loc 37) (.loc 35), none⟩]
@[simp] def r39_9 : List HOp := [⟨(some 2), true, .mv (.val (.tr (.sc (.bool true)))), none⟩]
@[simp] def r39_10 : List HOp := [⟨(some 38), false, .bin .other .add (.env 8) (.val (.tr (.sc (.int .i64 1)))), none⟩,
       ⟨(some 8), true, .mv (.loc 38), none⟩]
@[simp] def r39_11 : List HOp := [⟨(some 2), true, .mv (.val (.tr (.sc (.bool false)))), none⟩]
@[simp] def k39_11 : HCode := .seq (.region r39_9 none) .ret
@[simp] def k39_10 : HCode := .seq (.region r39_8 none) k39_11
@[simp] def k39_9 : HCode := .seq (.region r39_7 none) k39_10
@[simp] def k39_8 : HCode := .seq (.region r39_6 none) k39_9
@[simp] def k39_7 : HCode := .seq (.region r39_5 none) k39_8
@[simp] def k39_6 : HCode := .cond (.loc 14) k39_7 .skip
@[simp] def k39_5 : HCode := .seq (.region r39_4 none) k39_6
def k39_12 : HCode := .region r39_10 none
def k39_4 : HCode := .seq (.block 1 (.seq (.region r39_3 none) k39_5)) k39_12
@[simp] def k39_3 : HCode := .seq (.cond (.loc 9) .skip (.exit 0)) k39_4
def k39_2 : HCode := .seq (.region r39_2 none) k39_3
@[simp] def k39_1 : HCode := .block 0 (.loop k39_2)
def k39_13 : HCode := .seq (.region r39_11 none) .ret
@[simp] def k39_0 : HCode := .seq (.seq (.region r39_1 none) k39_1) k39_13
@[simp] def fn39 : HFn := { nargs := 1, results := [.tmp 2], mode := .shared, code := (.seq (.region r39_0 none) k39_0) }
theorem c39 : cFn Tryd.prog (Hs 39) .shared 39 = some fn39 := by kernel_rfl
/- sterling/scan.Value -/
@[simp] def r12_0 : List HOp := [⟨(some 2), true, .mv (.val (.tr (.sc (.string ⟨⟨[]⟩⟩)))), none⟩,
     ⟨(some 3), true, .mv (.val (.tr (.sc (.bool false)))), none⟩]
@[simp] def r12_1 : List HOp := [⟨(some 8), false, .mv (.env 0), none⟩,
     ⟨(some 9), false, .conv .strBytes (.loc 8), none⟩,
     ⟨(some 10), false, .build [(.sc (.slice none 0 0)), (.sc (.int .i64 0)), (.sc (.bool false)), (.sc (.slice none 0 0))] [(0, 1, (.loc 9))], none⟩,
     ⟨(some 11), false, .box false (.loc 10), none⟩,
     ⟨(some 4), true, .mv (.loc 11), none⟩]
@[simp] def r12_2 : List HOp := [⟨(some 12), false, .mv (.env 0), none⟩,
      ⟨(some 13), false, .bin .other .eql (.loc 12) (.val (.tr (.sc (.string ⟨⟨[]⟩⟩)))), none⟩,
      ⟨(some 14), false, .mv (.loc 13), none⟩,
      ⟨(some 15), false, .mv (.env 0), some ((.loc 14), false)⟩,
      ⟨(some 16), false, .istr (.loc 15) (.val (.tr (.sc (.int .i64 0)))), some ((.loc 14), false)⟩,
      ⟨(some 17), false, .bin .other .neq (.loc 16) (.val (.tr (.sc (.int .u8 34)))), some ((.loc 14), false)⟩,
      ⟨(some 18), false, .mv (.loc 17), some ((.loc 14), false)⟩,
      ⟨(some 19), false, .mv (.env 0), some ((.loc 18), true)⟩,
      ⟨(some 20), false, .istr (.loc 19) (.val (.tr (.sc (.int .i64 0)))), some ((.loc 18), true)⟩,
      ⟨(some 21), false, .bin .other .neq (.loc 20) (.val (.tr (.sc (.int .u8 96)))), some ((.loc 18), true)⟩,
      ⟨(some 22), false, .pick (.loc 18) (.loc 21) (.val (.tr (.sc (.bool false)))), some ((.loc 14), false)⟩,
      ⟨(some 23), false, .pick (.loc 14) (.val (.tr (.sc (.bool true)))) (.loc 22), none⟩,
      ⟨(some 24), false, .mv (.loc 23), none⟩,
      ⟨(some 25), false, .mv (.env 4), some ((.loc 24), false)⟩,
      ⟨(some 26), false, .callf 27 [(.loc 25)], some ((.loc 24), false)⟩,
      ⟨(some 27), false, .un .not (.loc 26), some ((.loc 24), false)⟩,
      ⟨(some 28), false, .pick (.loc 24) (.val (.tr (.sc (.bool true)))) (.loc 27), none⟩,
      ⟨(some 29), false, .mv (.loc 28), none⟩,
      ⟨(some 30), false, .mv (.env 4), some ((.loc 29), false)⟩,
      ⟨(some 31), false, .nilchk (.loc 30), some ((.loc 29), false)⟩,
      ⟨(some 32), false, .faddr 1 (.loc 31), some ((.loc 29), false)⟩,
      ⟨(some 33), false, .load 1 false (.loc 32), some ((.loc 29), false)⟩,
      ⟨(some 34), false, .mv (.env 0), some ((.loc 29), false)⟩,
      ⟨(some 35), false, .len 0 (.loc 34), some ((.loc 29), false)⟩,
      ⟨(some 36), false, .bin .other .neq (.loc 33) (.loc 35), some ((.loc 29), false)⟩,
      ⟨(some 37), false, .pick (.loc 29) (.val (.tr (.sc (.bool true)))) (.loc 36), none⟩]
@[simp] def r12_3 : List HOp := [⟨(some 2), true, .mv (.val (.tr (.sc (.string ⟨⟨[]⟩⟩)))), none⟩,
       ⟨(some 3), true, .mv (.val (.tr (.sc (.bool false)))), none⟩]
@[simp] def r12_4 : List HOp := [⟨(some 38), false, .mv (.env 0), none⟩,
     ⟨(some 39), false, .mv (.env 0), none⟩,
     ⟨(some 40), false, .len 0 (.loc 39), none⟩,
     ⟨(some 41), false, .bin .other .sub (.loc 40) (.val (.tr (.sc (.int .i64 1)))), none⟩,
     ⟨(some 42), false, .slicestr (.loc 38) (some (.val (.tr (.sc (.int .i64 1))))) (some (.loc 41)), none⟩,
     ⟨(some 5), true, .mv (.loc 42), none⟩]
@[simp] def r12_5 : List HOp := [⟨(some 43), false, .mv (.env 0), none⟩,
      ⟨(some 44), false, .istr (.loc 43) (.val (.tr (.sc (.int .i64 0)))), none⟩,
      ⟨(some 45), false, .bin .other .eql (.loc 44) (.val (.tr (.sc (.int .u8 96)))), none⟩]
@[simp] def r12_6 : List HOp := [⟨(some 46), false, .mv (.env 5), none⟩,
       ⟨(some 47), false, .callf 28 [(.loc 46), (.val (.tr (.sc (.string ⟨⟨[13]⟩⟩)))), (.val (.tr (.sc (.string ⟨⟨[]⟩⟩))))], none⟩,
       ⟨(some 2), true, .mv (.loc 47), none⟩,
       ⟨(some 3), true, .mv (.val (.tr (.sc (.bool true)))), none⟩]
@[simp] def r12_7 : List HOp := [⟨(some 6), true, .mv (.val (.tr (.sc (.slice none 0 0)))), none⟩]
@[simp] def r12_8 : List HOp := [⟨(some 7), true, .mv (.val (.tr (.sc (.int .i64 0)))), none⟩]
@[simp] def r12_9 : List HOp := [⟨(some 48), false, .mv (.env 7), none⟩,
         ⟨(some 49), false, .mv (.env 5), none⟩,
         ⟨(some 50), false, .len 0 (.loc 49), none⟩,
         ⟨(some 51), false, .bin .other .lss (.loc 48) (.loc 50), none⟩]
@[simp] def r12_10 : List HOp := [⟨(some 54), false, .mv (.env 5), none⟩,
           ⟨(some 55), false, .mv (.env 7), none⟩,
           ⟨(some 56), false, .istr (.loc 54) (.loc 55), none⟩,
           ⟨(some 57), false, .bin .other .neq (.loc 56) (.val (.tr (.sc (.int .u8 92)))), none⟩]
@[simp] def r12_11 : List HOp := [⟨(some 58), false, .mv (.env 6), none⟩,
            ⟨(some 59), false, .mv (.env 5), none⟩,
            ⟨(some 60), false, .mv (.env 7), none⟩,
            ⟨(some 61), false, .istr (.loc 59) (.loc 60), none⟩,
            ⟨(some 62), false, .bslice false 1 1 [(.sc (.int .u8 0))] [(0, 1, (.loc 61))], none⟩,
            ⟨(some 63), false, .append 1 1 (.loc 58) (.loc 62), none⟩,
            ⟨(some 6), true, .mv (.loc 63), none⟩]
@[simp] def r12_12 : List HOp := [⟨(some 64), false, .mv (.env 7), none⟩,
          ⟨(some 65), false, .bin .other .add (.loc 64) (.val (.tr (.sc (.int .i64 1)))), none⟩,
          ⟨(some 7), true, .mv (.loc 65), none⟩]
@[simp] def r12_13 : List HOp := [⟨(some 66), false, .mv (.env 5), none⟩,
          ⟨(some 67), false, .mv (.env 7), none⟩,
          ⟨(some 68), true, .istr (.loc 66) (.loc 67), none⟩]
@[simp] def r12_14 : List HOp := [⟨(some 76), false, .bin .other .eql (.env 68) (.val (.tr (.sc (.int .u8 110)))), none⟩,
           ⟨(some 75), false, .mv (.loc 76), none⟩]
@[simp] def r12_15 : List HOp := [⟨(some 77), false, .mv (.env 6), none⟩,
           ⟨(some 78), false, .bslice false 1 1 [(.sc (.int .u8 0))] [(0, 1, (.val (.tr (.sc (.int .u8 10)))))], none⟩,
           ⟨(some 79), false, .append 1 1 (.loc 77) (.loc 78), none⟩,
           ⟨(some 6), true, .mv (.loc 79), none⟩]
@[simp] def r12_16 : List HOp := [⟨(some 81), false, .bin .other .eql (.env 68) (.val (.tr (.sc (.int .u8 116)))), none⟩,
            ⟨(some 80), false, .mv (.loc 81), none⟩]
@[simp] def r12_17 : List HOp := [⟨(some 82), false, .mv (.env 6), none⟩,
            ⟨(some 83), false, .bslice false 1 1 [(.sc (.int .u8 0))] [(0, 1, (.val (.tr (.sc (.int .u8 9)))))], none⟩,
            ⟨(some 84), false, .append 1 1 (.loc 82) (.loc 83), none⟩,
            ⟨(some 6), true, .mv (.loc 84), none⟩]
@[simp] def r12_18 : List HOp := [⟨(some 86), false, .bin .other .eql (.env 68) (.val (.tr (.sc (.int .u8 120)))), none⟩,
             ⟨(some 85), false, .mv (.loc 86), none⟩]
@[simp] def r12_19 : List HOp := [⟨(some 87), false, .mv (.env 6), none⟩,
              ⟨(some 88), false, .mv (.env 5), none⟩,
              ⟨(some 89), false, .mv (.env 7), none⟩,
              ⟨(some 90), false, .bin .other .add (.loc 89) (.val (.tr (.sc (.int .i64 1)))), none⟩,
              ⟨(some 91), false, .mv (.env 7), none⟩,
              ⟨(some 92), false, .bin .other .add (.loc 91) (.val (.tr (.sc (.int .i64 3)))), none⟩,
              ⟨(some 93), false, .slicestr (.loc 88) (some (.loc 90)) (some (.loc 92)), none⟩,
              ⟨(some 94), false, .callf 29 [(.loc 93)], none⟩,
              ⟨(some 95), false, .conv (.toInt .u8) (.loc 94), none⟩,
              ⟨(some 96), false, .bslice false 1 1 [(.sc (.int .u8 0))] [(0, 1, (.loc 95))], none⟩,
              ⟨(some 97), false, .append 1 1 (.loc 87) (.loc 96), none⟩,
              ⟨(some 6), true, .mv (.loc 97), none⟩]
@[simp] def r12_20 : List HOp := [⟨(some 98), false, .mv (.env 7), none⟩,
             ⟨(some 99), false, .bin .other .add (.loc 98) (.val (.tr (.sc (.int .i64 2)))), none⟩,
             ⟨(some 7), true, .mv (.loc 99), none⟩]
@[simp] def r12_21 : List HOp := [⟨(some 101), false, .bin .other .eql (.env 68) (.val (.tr (.sc (.int .u8 117)))), none⟩,
              ⟨(some 100), false, .mv (.loc 101), none⟩]
@[simp] def r12_22 : List HOp := [⟨(some 102), false, .mv (.env 6), none⟩,
               ⟨(some 103), false, .mv (.env 5), none⟩,
               ⟨(some 104), false, .mv (.env 7), none⟩,
               ⟨(some 105), false, .bin .other .add (.loc 104) (.val (.tr (.sc (.int .i64 1)))), none⟩,
               ⟨(some 106), false, .mv (.env 7), none⟩,
               ⟨(some 107), false, .bin .other .add (.loc 106) (.val (.tr (.sc (.int .i64 5)))), none⟩,
               ⟨(some 108), false, .slicestr (.loc 103) (some (.loc 105)) (some (.loc 107)), none⟩,
               ⟨(some 109), false, .callf 29 [(.loc 108)], none⟩,
               ⟨(some 110), false, .callf 30 [(.loc 102), (.loc 109)], none⟩,
               ⟨(some 6), true, .mv (.loc 110), none⟩]
@[simp] def r12_23 : List HOp := [⟨(some 111), false, .mv (.env 7), none⟩,
              ⟨(some 112), false, .bin .other .add (.loc 111) (.val (.tr (.sc (.int .i64 4)))), none⟩,
              ⟨(some 7), true, .mv (.loc 112), none⟩]
@[simp] def r12_24 : List HOp := [⟨(some 69), false, .mv (.env 6), none⟩,
              ⟨(some 70), false, .mv (.env 5), none⟩,
              ⟨(some 71), false, .mv (.env 7), none⟩,
              ⟨(some 72), false, .istr (.loc 70) (.loc 71), none⟩,
              ⟨(some 73), false, .bslice false 1 1 [(.sc (.int .u8 0))] [(0, 1, (.loc 72))], none⟩,
              ⟨(some 74), false, .append 1 1 (.loc 69) (.loc 73), none⟩,
              ⟨(some 6), true, .mv (.loc 74), none⟩]
@[simp] def r12_25 : List HOp := [⟨(some 52), false, .mv (.env 7), none⟩,
       ⟨(some 53), false, .bin .other .add (.loc 52) (.val (.tr (.sc (.int .i64 1)))), none⟩,
       ⟨(some 7), true, .mv (.loc 53), none⟩]
@[simp] def r12_26 : List HOp := [⟨(some 113), false, .mv (.env 6), none⟩,
     ⟨(some 114), false, .conv .bytesStr (.loc 113), none⟩,
     ⟨(some 2), true, .mv (.loc 114), none⟩,
     ⟨(some 3), true, .mv (.val (.tr (.sc (.bool true)))), none⟩]
@[simp] def k12_3 : HCode := .seq (.region r12_3 none) .ret
@[simp] def k12_2 : HCode := .cond (.loc 37) k12_3 .skip
@[simp] def k12_7 : HCode := .seq (.region r12_6 none) .ret
@[simp] def k12_6 : HCode := .cond (.loc 45) k12_7 .skip
@[simp] def k12_12 : HCode := .cond (.loc 51) .skip (.exit 0)
@[simp] def k12_15 : HCode := .seq (.region r12_11 none) (.exit 1)
@[simp] def k12_14 : HCode := .cond (.loc 57) k12_15 .skip
@[simp] def k12_24 : HCode := .seq (.region r12_19 none) (.region r12_20 none)
@[simp] def k12_27 : HCode := .seq (.region r12_22 none) (.region r12_23 none)
@[simp] def k12_26 : HCode := .cond (.loc 100) k12_27 (.region r12_24 none)
@[simp] def k12_25 : HCode := .seq (.region r12_21 none) k12_26
@[simp] def k12_23 : HCode := .cond (.loc 85) k12_24 k12_25
@[simp] def k12_22 : HCode := .seq (.region r12_18 none) k12_23
@[simp] def k12_21 : HCode := .cond (.loc 80) (.region r12_17 none) k12_22
@[simp] def k12_20 : HCode := .seq (.region r12_16 none) k12_21
@[simp] def k12_19 : HCode := .cond (.loc 75) (.region r12_15 none) k12_20
@[simp] def k12_18 : HCode := .block 2 (.seq (.region r12_14 none) k12_19)
@[simp] def k12_17 : HCode := .seq (.region r12_13 none) k12_18
def k12_16 : HCode := .seq (.region r12_12 none) k12_17
def k12_28 : HCode := .region r12_25 none
def k12_13 : HCode := .seq (.block 1 (.seq (.seq (.region r12_10 none) k12_14) k12_16)) k12_28
def k12_11 : HCode := .seq (.seq (.region r12_9 none) k12_12) k12_13
@[simp] def k12_10 : HCode := .block 0 (.loop k12_11)
def k12_29 : HCode := .seq (.region r12_26 none) .ret
@[simp] def k12_9 : HCode := .seq (.seq (.region r12_8 none) k12_10) k12_29
def k12_8 : HCode := .seq (.region r12_7 none) k12_9
@[simp] def k12_5 : HCode := .seq (.seq (.region r12_5 none) k12_6) k12_8
def k12_4 : HCode := .seq (.region r12_4 none) k12_5
@[simp] def k12_1 : HCode := .seq (.seq (.region r12_2 none) k12_2) k12_4
@[simp] def k12_0 : HCode := .seq (.region r12_1 none) k12_1
@[simp] def fn12 : HFn := { nargs := 1, results := [.tmp 2, .tmp 3], mode := .shared, code := (.seq (.region r12_0 none) k12_0) }
theorem c12 : cFn Tryd.prog (Hs 12) .shared 12 = some fn12 := by kernel_rfl
/- strings.ReplaceAll -/
@[simp] def r28_0 : List HOp := [⟨(some 6), true, .mv (.val (.tr (.sc (.string ⟨⟨[]⟩⟩)))), none⟩]
@[simp] def r28_1 : List HOp := [⟨(some 7), false, .mv (.env 0), none⟩,
     ⟨(some 8), false, .mv (.env 1), none⟩,
     ⟨(some 9), false, .mv (.env 2), none⟩,
     ⟨(some 10), false, .callf 47 [(.loc 7), (.loc 8), (.loc 9), (.val (.tr (.sc (.int .i64 (-1)))))], none⟩,
     ⟨(some 6), true, .mv (.loc 10), none⟩]
@[simp] def k28_0 : HCode := .seq (.region r28_1 none) .ret
@[simp] def fn28 : HFn := { nargs := 3, results := [.tmp 6], mode := .shared, code := (.seq (.region r28_0 none) k28_0) }
theorem c28 : cFn Tryd.prog (Hs 28) .shared 28 = some fn28 := by kernel_rfl
/- strings.Replace -/
@[simp] def r47_0 : List HOp := [⟨(some 8), true, .mv (.val (.tr (.sc (.string ⟨⟨[]⟩⟩)))), none⟩]
@[simp] def r47_1 : List HOp := [⟨(some 16), false, .mv (.env 1), none⟩,
      ⟨(some 17), false, .mv (.env 2), none⟩,
      ⟨(some 18), false, .bin .other .eql (.loc 16) (.loc 17), none⟩,
      ⟨(some 19), false, .mv (.loc 18), none⟩,
      ⟨(some 20), false, .mv (.env 3), some ((.loc 19), false)⟩,
      ⟨(some 21), false, .bin .other .eql (.loc 20) (.val (.tr (.sc (.int .i64 0)))), some ((.loc 19), false)⟩,
      ⟨(some 22), false, .pick (.loc 19) (.val (.tr (.sc (.bool true)))) (.loc 21), none⟩]
@[simp] def r47_2 : List HOp := [⟨(some 23), false, .mv (.env 0), none⟩,
       ⟨(some 8), true, .mv (.loc 23), none⟩]
@[simp] def r47_3 : List HOp := [⟨(some 24), false, .mv (.env 0), none⟩,
      ⟨(some 25), false, .mv (.env 1), none⟩,
      ⟨(some 26), false, .callf 59 [(.loc 24), (.loc 25)], none⟩,
      ⟨(some 9), true, .mv (.loc 26), none⟩]
@[simp] def r47_4 : List HOp := [⟨(some 27), false, .mv (.env 9), none⟩,
      ⟨(some 28), false, .bin .other .eql (.loc 27) (.val (.tr (.sc (.int .i64 0)))), none⟩]
@[simp] def r47_5 : List HOp := [⟨(some 29), false, .mv (.env 0), none⟩,
       ⟨(some 8), true, .mv (.loc 29), none⟩]
@[simp] def r47_6 : List HOp := [⟨(some 30), false, .mv (.env 3), none⟩,
       ⟨(some 31), false, .bin .other .lss (.loc 30) (.val (.tr (.sc (.int .i64 0)))), none⟩,
       ⟨(some 32), false, .mv (.loc 31), none⟩,
       ⟨(some 33), false, .mv (.env 9), some ((.loc 32), false)⟩,
       ⟨(some 34), false, .mv (.env 3), some ((.loc 32), false)⟩,
       ⟨(some 35), false, .bin .other .lss (.loc 33) (.loc 34), some ((.loc 32), false)⟩,
       ⟨(some 36), false, .pick (.loc 32) (.val (.tr (.sc (.bool true)))) (.loc 35), none⟩]
@[simp] def r47_7 : List HOp := [⟨(some 37), false, .mv (.env 9), none⟩,
       ⟨(some 3), true, .mv (.loc 37), none⟩]
@[simp] def r47_8 : List HOp := [⟨(some 10), true, .alloc [(.sc (.pointer none)), (.sc (.slice none 0 0))], none⟩]
@[simp] def r47_9 : List HOp := [⟨(some 38), false, .mv (.env 0), none⟩,
     ⟨(some 39), false, .len 0 (.loc 38), none⟩,
     ⟨(some 40), false, .mv (.env 3), none⟩,
     ⟨(some 41), false, .mv (.env 2), none⟩,
     ⟨(some 42), false, .len 0 (.loc 41), none⟩,
     ⟨(some 43), false, .mv (.env 1), none⟩,
     ⟨(some 44), false, .len 0 (.loc 43), none⟩,
     ⟨(some 45), false, .bin .other .sub (.loc 42) (.loc 44), none⟩,
     ⟨(some 46), false, .bin .other .mul (.loc 40) (.loc 45), none⟩,
     ⟨(some 47), false, .bin .other .add (.loc 39) (.loc 46), none⟩,
     ⟨(some 48), false, .callf 60 [(.env 10), (.loc 47)], none⟩]
@[simp] def r47_10 : List HOp := [⟨(some 11), true, .mv (.val (.tr (.sc (.int .i64 0)))), none⟩]
@[simp] def r47_11 : List HOp := [⟨(some 49), false, .mv (.env 1), none⟩,
      ⟨(some 50), false, .len 0 (.loc 49), none⟩,
      ⟨(some 51), false, .bin .other .gtr (.loc 50) (.val (.tr (.sc (.int .i64 0)))), none⟩]
@[simp] def r47_12 : List HOp := [⟨(some 52), true, .mv (.env 3), none⟩,
       ⟨(some 53), true, .mv (.val (.tr (.sc (.int .i64 0)))), none⟩]
@[simp] def r47_13 : List HOp := [⟨(some 54), false, .bin .other .lss (.env 53) (.env 52), none⟩]
@[simp] def r47_14 : List HOp := [⟨(some 55), false, .mv (.env 11), none⟩,
           ⟨(some 56), false, .mv (.env 0), none⟩,
           ⟨(some 57), false, .mv (.env 11), none⟩,
           ⟨(some 58), false, .slicestr (.loc 56) (some (.loc 57)) none, none⟩,
           ⟨(some 59), false, .mv (.env 1), none⟩,
           ⟨(some 60), false, .callf 49 [(.loc 58), (.loc 59)], none⟩,
           ⟨(some 61), false, .bin .other .add (.loc 55) (.loc 60), none⟩,
           ⟨(some 12), true, .mv (.loc 61), none⟩]
@[simp] def r47_15 : List HOp := [⟨(some 62), false, .mv (.env 0), none⟩,
           ⟨(some 63), false, .mv (.env 11), none⟩,
           ⟨(some 64), false, .mv (.env 12), none⟩,
           ⟨(some 65), false, .slicestr (.loc 62) (some (.loc 63)) (some (.loc 64)), none⟩,
           ⟨(some 66), false, .callf 61 [(.env 10), (.loc 65)], none⟩]
@[simp] def r47_16 : List HOp := [⟨(some 67), false, .mv (.env 2), none⟩,
           ⟨(some 68), false, .callf 61 [(.env 10), (.loc 67)], none⟩]
@[simp] def r47_17 : List HOp := [⟨(some 69), false, .mv (.env 12), none⟩,
          ⟨(some 70), false, .mv (.env 1), none⟩,
          ⟨(some 71), false, .len 0 (.loc 70), none⟩,
          ⟨(some 72), false, .bin .other .add (.loc 69) (.loc 71), none⟩,
          ⟨(some 11), true, .mv (.loc 72), none⟩]
@[simp] def r47_18 : List HOp := [⟨(some 73), false, .bin .other .add (.env 53) (.val (.tr (.sc (.int .i64 1)))), none⟩,
        ⟨(some 53), true, .mv (.loc 73), none⟩]
@[simp] def r47_19 : List HOp := [⟨(some 74), false, .mv (.env 2), none⟩,
       ⟨(some 75), false, .callf 61 [(.env 10), (.loc 74)], none⟩]
@[simp] def r47_20 : List HOp := [⟨(some 76), false, .mv (.env 3), none⟩,
       ⟨(some 77), true, .bin .other .sub (.loc 76) (.val (.tr (.sc (.int .i64 1)))), none⟩,
       ⟨(some 78), true, .mv (.val (.tr (.sc (.int .i64 0)))), none⟩]
@[simp] def r47_21 : List HOp := [⟨(some 79), false, .bin .other .lss (.env 78) (.env 77), none⟩]
@[simp] def r47_22 : List HOp := [⟨(some 81), false, .mv (.env 0), none⟩,
           ⟨(some 82), false, .mv (.env 11), none⟩,
           ⟨(some 83), false, .slicestr (.loc 81) (some (.loc 82)) none, none⟩,
           ⟨(some 84), false, .callf 62 [(.loc 83)], none⟩,
           ⟨(some 80), false, .mv (.loc 84), none⟩,
           ⟨(some 85), false, .extract (.loc 80) 0, none⟩,
           ⟨(some 86), false, .extract (.loc 80) 1, none⟩,
           ⟨(some 13), false, .mv (.loc 85), none⟩,
           ⟨(some 14), true, .mv (.loc 86), none⟩]
@[simp] def r47_23 : List HOp := [⟨(some 87), false, .mv (.env 11), none⟩,
           ⟨(some 88), false, .mv (.env 14), none⟩,
           ⟨(some 89), false, .bin .other .add (.loc 87) (.loc 88), none⟩,
           ⟨(some 15), true, .mv (.loc 89), none⟩]
@[simp] def r47_24 : List HOp := [⟨(some 90), false, .mv (.env 0), none⟩,
           ⟨(some 91), false, .mv (.env 11), none⟩,
           ⟨(some 92), false, .mv (.env 15), none⟩,
           ⟨(some 93), false, .slicestr (.loc 90) (some (.loc 91)) (some (.loc 92)), none⟩,
           ⟨(some 94), false, .callf 61 [(.env 10), (.loc 93)], none⟩]
@[simp] def r47_25 : List HOp := [⟨(some 95), false, .mv (.env 2), none⟩,
           ⟨(some 96), false, .callf 61 [(.env 10), (.loc 95)], none⟩]
@[simp] def r47_26 : List HOp := [⟨(some 97), false, .mv (.env 15), none⟩,
          ⟨(some 11), true, .mv (.loc 97), none⟩]
@[simp] def r47_27 : List HOp := [⟨(some 98), false, .bin .other .add (.env 78) (.val (.tr (.sc (.int .i64 1)))), none⟩,
        ⟨(some 78), true, .mv (.loc 98), none⟩]
@[simp] def r47_28 : List HOp := [⟨(some 99), false, .mv (.env 0), none⟩,
     ⟨(some 100), false, .mv (.env 11), none⟩,
     ⟨(some 101), false, .slicestr (.loc 99) (some (.loc 100)) none, none⟩,
     ⟨(some 102), false, .callf 61 [(.env 10), (.loc 101)], none⟩]
@[simp] def r47_29 : List HOp := [⟨(some 103), false, .callf 63 [(.env 10)], none⟩,
     ⟨(some 8), true, .mv (.loc 103), none⟩]
@[simp] def k47_2 : HCode := .seq (.region r47_2 none) .ret
@[simp] def k47_1 : HCode := .cond (.loc 22) k47_2 .skip
@[simp] def k47_6 : HCode := .seq (.region r47_5 none) .ret
@[simp] def k47_8 : HCode := .cond (.loc 36) (.region r47_7 none) .skip
@[simp] def k47_7 : HCode := .seq (.region r47_6 none) k47_8
@[simp] def k47_5 : HCode := .cond (.loc 28) k47_6 k47_7
@[simp] def k47_4 : HCode := .seq (.region r47_4 none) k47_5
@[simp] def k47_20 : HCode := .seq (.region r47_16 none) (.region r47_17 none)
@[simp] def k47_19 : HCode := .seq (.region r47_15 none) k47_20
def k47_18 : HCode := .seq (.block 1 (.seq (.region r47_14 none) k47_19)) (.region r47_18 none)
@[simp] def k47_17 : HCode := .seq (.cond (.loc 54) .skip (.exit 0)) k47_18
def k47_16 : HCode := .seq (.region r47_13 none) k47_17
@[simp] def k47_15 : HCode := .block 0 (.loop k47_16)
@[simp] def k47_14 : HCode := .seq (.region r47_12 none) k47_15
@[simp] def k47_29 : HCode := .seq (.region r47_25 none) (.region r47_26 none)
@[simp] def k47_28 : HCode := .seq (.region r47_24 none) k47_29
@[simp] def k47_27 : HCode := .seq (.region r47_23 none) k47_28
def k47_26 : HCode := .seq (.block 3 (.seq (.region r47_22 none) k47_27)) (.region r47_27 none)
@[simp] def k47_25 : HCode := .seq (.cond (.loc 79) .skip (.exit 2)) k47_26
def k47_24 : HCode := .seq (.region r47_21 none) k47_25
@[simp] def k47_23 : HCode := .block 2 (.loop k47_24)
@[simp] def k47_22 : HCode := .seq (.region r47_20 none) k47_23
@[simp] def k47_21 : HCode := .seq (.region r47_19 none) k47_22
@[simp] def k47_13 : HCode := .cond (.loc 51) k47_14 k47_21
@[simp] def k47_31 : HCode := .seq (.region r47_29 none) .ret
def k47_30 : HCode := .seq (.region r47_28 none) k47_31
@[simp] def k47_12 : HCode := .seq (.seq (.region r47_11 none) k47_13) k47_30
@[simp] def k47_11 : HCode := .seq (.region r47_10 none) k47_12
@[simp] def k47_10 : HCode := .seq (.region r47_9 none) k47_11
def k47_9 : HCode := .seq (.region r47_8 none) k47_10
def k47_3 : HCode := .seq (.seq (.region r47_3 none) k47_4) k47_9
@[simp] def k47_0 : HCode := .seq (.seq (.region r47_1 none) k47_1) k47_3
@[simp] def fn47 : HFn := { nargs := 4, results := [.tmp 8], mode := .shared, code := (.seq (.region r47_0 none) k47_0) }
theorem c47 : cFn Tryd.prog (Hs 47) .shared 47 = some fn47 := by kernel_rfl
/- strings.Count -/
@[simp] def r59_0 : List HOp := [⟨(some 4), true, .mv (.val (.tr (.sc (.int .i64 0)))), none⟩]
@[simp] def r59_1 : List HOp := [⟨(some 7), false, .mv (.env 1), none⟩,
      ⟨(some 8), false, .len 0 (.loc 7), none⟩,
      ⟨(some 9), false, .bin .other .eql (.loc 8) (.val (.tr (.sc (.int .i64 0)))), none⟩]
@[simp] def r59_2 : List HOp := [⟨(some 10), false, .mv (.env 0), none⟩,
       ⟨(some 11), false, .callf 75 [(.loc 10)], none⟩,
       ⟨(some 12), false, .bin .other .add (.loc 11) (.val (.tr (.sc (.int .i64 1)))), none⟩,
       ⟨(some 4), true, .mv (.loc 12), none⟩]
@[simp] def r59_3 : List HOp := [⟨(some 13), false, .mv (.env 1), none⟩,
      ⟨(some 14), false, .len 0 (.loc 13), none⟩,
      ⟨(some 15), false, .bin .other .eql (.loc 14) (.val (.tr (.sc (.int .i64 1)))), none⟩]
@[simp] def r59_4 : List HOp := [⟨(some 16), false, .mv (.env 0), none⟩,
       ⟨(some 17), false, .mv (.env 1), none⟩,
       ⟨(some 18), false, .istr (.loc 17) (.val (.tr (.sc (.int .i64 0)))), none⟩,
       ⟨(some 19), false, .callf 76 [(.loc 16), (.loc 18)], none⟩,
       ⟨(some 4), true, .mv (.loc 19), none⟩]
@[simp] def r59_5 : List HOp := [⟨(some 5), true, .mv (.val (.tr (.sc (.int .i64 0)))), none⟩]
@[simp] def r59_6 : List HOp := [⟨(some 20), false, .mv (.env 0), none⟩,
        ⟨(some 21), false, .mv (.env 1), none⟩,
        ⟨(some 22), false, .callf 49 [(.loc 20), (.loc 21)], none⟩,
        ⟨(some 6), true, .mv (.loc 22), none⟩]
@[simp] def r59_7 : List HOp := [⟨(some 23), false, .mv (.env 6), none⟩,
         ⟨(some 24), false, .bin .other .eql (.loc 23) (.val (.tr (.sc (.int .i64 (-1))))), none⟩]
@[simp] def r59_8 : List HOp := [⟨(some 25), false, .mv (.env 5), none⟩,
          ⟨(some 4), true, .mv (.loc 25), none⟩]
@[simp] def r59_9 : List HOp := [⟨(some 26), false, .mv (.env 5), none⟩,
        ⟨(some 27), false, .bin .other .add (.loc 26) (.val (.tr (.sc (.int .i64 1)))), none⟩,
        ⟨(some 5), true, .mv (.loc 27), none⟩]
@[simp] def r59_10 : List HOp := [⟨(some 28), false, .mv (.env 0), none⟩,
       ⟨(some 29), false, .mv (.env 6), none⟩,
       ⟨(some 30), false, .mv (.env 1), none⟩,
       ⟨(some 31), false, .len 0 (.loc 30), none⟩,
       ⟨(some 32), false, .bin .other .add (.loc 29) (.loc 31), none⟩,
       ⟨(some 33), false, .slicestr (.loc 28) (some (.loc 32)) none, none⟩,
       ⟨(some 0), true, .mv (.loc 33), none⟩]
@[simp] def k59_2 : HCode := .seq (.region r59_2 none) .ret
@[simp] def k59_1 : HCode := .cond (.loc 9) k59_2 .skip
@[simp] def k59_5 : HCode := .seq (.region r59_4 none) .ret
@[simp] def k59_4 : HCode := .cond (.loc 15) k59_5 .skip
@[simp] def k59_11 : HCode := .seq (.region r59_8 none) .ret
@[simp] def k59_10 : HCode := .cond (.loc 24) k59_11 .skip
def k59_12 : HCode := .seq (.region r59_9 none) (.region r59_10 none)
@[simp] def k59_9 : HCode := .seq (.seq (.region r59_7 none) k59_10) k59_12
def k59_8 : HCode := .block 1 (.seq (.region r59_6 none) k59_9)
@[simp] def k59_7 : HCode := .block 0 (.loop k59_8)
def k59_6 : HCode := .seq (.region r59_5 none) k59_7
def k59_3 : HCode := .seq (.seq (.region r59_3 none) k59_4) k59_6
@[simp] def k59_0 : HCode := .seq (.seq (.region r59_1 none) k59_1) k59_3
@[simp] def fn59 : HFn := { nargs := 2, results := [.tmp 4], mode := .shared, code := (.seq (.region r59_0 none) k59_0) }
theorem c59 : cFn Tryd.prog (Hs 59) .shared 59 = some fn59 := by kernel_rfl
/- strings.Index -/
@[simp] def r49_0 : List HOp := [⟨(some 4), true, .mv (.val (.tr (.sc (.int .i64 0)))), none⟩]
@[simp] def r49_1 : List HOp := [⟨(some 5), false, .mv (.env 0), none⟩,
     ⟨(some 6), false, .mv (.env 1), none⟩,
     ⟨(some 7), false, .callf 64 [(.loc 5), (.loc 6)], none⟩,
     ⟨(some 4), true, .mv (.loc 7), none⟩]
@[simp] def k49_0 : HCode := .seq (.region r49_1 none) .ret
@[simp] def fn49 : HFn := { nargs := 2, results := [.tmp 4], mode := .shared, code := (.seq (.region r49_0 none) k49_0) }
theorem c49 : cFn Tryd.prog (Hs 49) .shared 49 = some fn49 := by kernel_rfl
/- internal/stringslite.Index -/
@[simp] def r64_0 : List HOp := [⟨(some 4), true, .mv (.val (.tr (.sc (.int .i64 0)))), none⟩]
@[simp] def r64_1 : List HOp := [⟨(some 14), false, .mv (.env 1), none⟩,
     ⟨(some 15), false, .len 0 (.loc 14), none⟩,
     ⟨(some 5), true, .mv (.loc 15), none⟩]
@[simp] def r64_2 : List HOp := [⟨(some 17), false, .mv (.env 5), none⟩,
       ⟨(some 18), false, .bin .other .eql (.loc 17) (.val (.tr (.sc (.int .i64 0)))), none⟩,
       ⟨(some 19), false, .mv (.loc 18), none⟩,
       ⟨(some 20), false, .mv (.env 1), some ((.loc 19), false)⟩,
       ⟨(some 21), false, .mv (.env 0), some ((.loc 19), false)⟩,
       ⟨(some 22), false, .bin .other .eql (.loc 20) (.loc 21), some ((.loc 19), false)⟩,
       ⟨(some 23), false, .pick (.loc 19) (.val (.tr (.sc (.bool true)))) (.loc 22), none⟩,
       ⟨(some 16), false, .mv (.loc 23), none⟩]
@[simp] def r64_3 : List HOp := [⟨(some 4), true, .mv (.val (.tr (.sc (.int .i64 0)))), none⟩]
@[simp] def r64_4 : List HOp := [⟨(some 25), false, .mv (.env 5), none⟩,
        ⟨(some 26), false, .bin .other .eql (.loc 25) (.val (.tr (.sc (.int .i64 1)))), none⟩,
        ⟨(some 24), false, .mv (.loc 26), none⟩]
@[simp] def r64_5 : List HOp := [⟨(some 27), false, .mv (.env 0), none⟩,
         ⟨(some 28), false, .mv (.env 1), none⟩,
         ⟨(some 29), false, .istr (.loc 28) (.val (.tr (.sc (.int .i64 0)))), none⟩,
         ⟨(some 30), false, .callf 80 [(.loc 27), (.loc 29)], none⟩,
         ⟨(some 4), true, .mv (.loc 30), none⟩]
@[simp] def r64_6 : List HOp := [⟨(some 32), false, .mv (.env 5), none⟩,
         ⟨(some 33), false, .mv (.env 0), none⟩,
         ⟨(some 34), false, .len 0 (.loc 33), none⟩,
         ⟨(some 35), false, .bin .other .geq (.loc 32) (.loc 34), none⟩,
         ⟨(some 31), false, .mv (.loc 35), none⟩]
@[simp] def r64_7 : List HOp := [⟨(some 4), true, .mv (.val (.tr (.sc (.int .i64 (-1))))), none⟩]
@[simp] def r64_8 : List HOp := [⟨(some 37), false, .mv (.env 5), none⟩,
          ⟨(some 38), false, .load 1 false (.val (.tr (.sc (.pointer (some ⟨0, 0, none⟩))))), none⟩,
          ⟨(some 39), false, .bin .other .leq (.loc 37) (.loc 38), none⟩,
          ⟨(some 40), false, .mv (.loc 39), none⟩,
          ⟨(some 41), false, .mv (.env 0), some ((.loc 40), true)⟩,
          ⟨(some 42), false, .len 0 (.loc 41), some ((.loc 40), true)⟩,
          ⟨(some 43), false, .bin .other .leq (.loc 42) (.val (.tr (.sc (.int .i64 64)))), some ((.loc 40), true)⟩,
          ⟨(some 44), false, .pick (.loc 40) (.loc 43) (.val (.tr (.sc (.bool false)))), none⟩,
          ⟨(some 36), false, .mv (.loc 44), none⟩]
@[simp] def r64_9 : List HOp := [⟨(some 45), false, .mv (.env 0), none⟩,
           ⟨(some 46), false, .mv (.env 1), none⟩,
           ⟨(some 47), false, .callf 81 [(.loc 45), (.loc 46)], none⟩,
           ⟨(some 4), true, .mv (.loc 47), none⟩]
@[simp] def r64_10 : List HOp := [⟨(some 48), false, .mv (.env 1), none⟩,
     ⟨(some 49), false, .istr (.loc 48) (.val (.tr (.sc (.int .i64 0)))), none⟩,
     ⟨(some 6), true, .mv (.loc 49), none⟩]
@[simp] def r64_11 : List HOp := [⟨(some 50), false, .mv (.env 1), none⟩,
     ⟨(some 51), false, .istr (.loc 50) (.val (.tr (.sc (.int .i64 1)))), none⟩,
     ⟨(some 7), true, .mv (.loc 51), none⟩]
@[simp] def r64_12 : List HOp := [⟨(some 8), true, .mv (.val (.tr (.sc (.int .i64 0)))), none⟩]
@[simp] def r64_13 : List HOp := [⟨(some 52), false, .mv (.env 0), none⟩,
     ⟨(some 53), false, .len 0 (.loc 52), none⟩,
     ⟨(some 54), false, .mv (.env 5), none⟩,
     ⟨(some 55), false, .bin .other .sub (.loc 53) (.loc 54), none⟩,
     ⟨(some 56), false, .bin .other .add (.loc 55) (.val (.tr (.sc (.int .i64 1)))), none⟩,
     ⟨(some 9), true, .mv (.loc 56), none⟩]
@[simp] def r64_14 : List HOp := [⟨(some 10), true, .mv (.val (.tr (.sc (.int .i64 0)))), none⟩]
@[simp] def r64_15 : List HOp := [⟨(some 57), false, .mv (.env 8), none⟩,
         ⟨(some 58), false, .mv (.env 9), none⟩,
         ⟨(some 59), false, .bin .other .lss (.loc 57) (.loc 58), none⟩]
@[simp] def r64_16 : List HOp := [⟨(some 60), false, .mv (.env 0), none⟩,
          ⟨(some 61), false, .mv (.env 8), none⟩,
          ⟨(some 62), false, .istr (.loc 60) (.loc 61), none⟩,
          ⟨(some 63), false, .mv (.env 6), none⟩,
          ⟨(some 64), false, .bin .other .neq (.loc 62) (.loc 63), none⟩]
@[simp] def r64_17 : List HOp := [⟨(some 65), false, .mv (.env 0), none⟩,
           ⟨(some 66), false, .mv (.env 8), none⟩,
           ⟨(some 67), false, .bin .other .add (.loc 66) (.val (.tr (.sc (.int .i64 1)))), none⟩,
           ⟨(some 68), false, .mv (.env 9), none⟩,
           ⟨(some 69), false, .slicestr (.loc 65) (some (.loc 67)) (some (.loc 68)), none⟩,
           ⟨(some 70), false, .mv (.env 6), none⟩,
           ⟨(some 71), false, .callf 80 [(.loc 69), (.loc 70)], none⟩,
           ⟨(some 11), true, .mv (.loc 71), none⟩]
@[simp] def r64_18 : List HOp := [⟨(some 72), false, .mv (.env 11), none⟩,
            ⟨(some 73), false, .bin .other .lss (.loc 72) (.val (.tr (.sc (.int .i64 0)))), none⟩]
@[simp] def r64_19 : List HOp := [⟨(some 4), true, .mv (.val (.tr (.sc (.int .i64 (-1))))), none⟩]
@[simp] def r64_20 : List HOp := [⟨(some 74), false, .mv (.env 8), none⟩,
          ⟨(some 75), false, .mv (.env 11), none⟩,
          ⟨(some 76), false, .bin .other .add (.loc 75) (.val (.tr (.sc (.int .i64 1)))), none⟩,
          ⟨(some 77), false, .bin .other .add (.loc 74) (.loc 76), none⟩,
          ⟨(some 8), true, .mv (.loc 77), none⟩]
@[simp] def r64_21 : List HOp := [⟨(some 78), false, .mv (.env 0), none⟩,
          ⟨(some 79), false, .mv (.env 8), none⟩,
          ⟨(some 80), false, .bin .other .add (.loc 79) (.val (.tr (.sc (.int .i64 1)))), none⟩,
          ⟨(some 81), false, .istr (.loc 78) (.loc 80), none⟩,
          ⟨(some 82), false, .mv (.env 7), none⟩,
          ⟨(some 83), false, .bin .other .eql (.loc 81) (.loc 82), none⟩,
          ⟨(some 84), false, .mv (.loc 83), none⟩,
          ⟨(some 85), false, .mv (.env 0), some ((.loc 84), true)⟩,
          ⟨(some 86), false, .mv (.env 8), some ((.loc 84), true)⟩,
          ⟨(some 87), false, .mv (.env 8), some ((.loc 84), true)⟩,
          ⟨(some 88), false, .mv (.env 5), some ((.loc 84), true)⟩,
          ⟨(some 89), false, .bin .other .add (.loc 87) (.loc 88), some ((.loc 84), true)⟩,
          ⟨(some 90), false, .slicestr (.loc 85) (some (.loc 86)) (some (.loc 89)), some ((.loc 84), true)⟩,
          ⟨(some 91), false, .mv (.env 1), some ((.loc 84), true)⟩,
          ⟨(some 92), false, .bin .other .eql (.loc 90) (.loc 91), some ((.loc 84), true)⟩,
          ⟨(some 93), false, .pick (.loc 84) (.loc 92) (.val (.tr (.sc (.bool false)))), none⟩]
@[simp] def r64_22 : List HOp := [⟨(some 94), false, .mv (.env 8), none⟩,
           ⟨(some 4), true, .mv (.loc 94), none⟩]
@[simp] def r64_23 : List HOp := [⟨(some 95), false, .mv (.env 8), none⟩,
         ⟨(some 96), false, .bin .other .add (.loc 95) (.val (.tr (.sc (.int .i64 1)))), none⟩,
         ⟨(some 8), true, .mv (.loc 96), none⟩]
@[simp] def r64_24 : List HOp := [⟨(some 97), false, .mv (.env 10), none⟩,
         ⟨(some 98), false, .bin .other .add (.loc 97) (.val (.tr (.sc (.int .i64 1)))), none⟩,
         ⟨(some 10), true, .mv (.loc 98), none⟩]
@[simp] def r64_25 : List HOp := [⟨(some 99), false, .mv (.env 5), none⟩,
         ⟨(some 100), false, .load 1 false (.val (.tr (.sc (.pointer (some ⟨0, 0, none⟩))))), none⟩,
         ⟨(some 101), false, .bin .other .leq (.loc 99) (.loc 100), none⟩,
         ⟨(some 102), false, .mv (.loc 101), none⟩,
         ⟨(some 103), false, .mv (.env 10), some ((.loc 102), true)⟩,
         ⟨(some 104), false, .mv (.env 8), some ((.loc 102), true)⟩,
         ⟨(some 105), false, .callf 67 [(.loc 104)], some ((.loc 102), true)⟩,
         ⟨(some 106), false, .bin .other .gtr (.loc 103) (.loc 105), some ((.loc 102), true)⟩,
         ⟨(some 107), false, .pick (.loc 102) (.loc 106) (.val (.tr (.sc (.bool false)))), none⟩]
@[simp] def r64_26 : List HOp := [⟨(some 108), false, .mv (.env 0), none⟩,
          ⟨(some 109), false, .mv (.env 8), none⟩,
          ⟨(some 110), false, .slicestr (.loc 108) (some (.loc 109)) none, none⟩,
          ⟨(some 111), false, .mv (.env 1), none⟩,
          ⟨(some 112), false, .callf 81 [(.loc 110), (.loc 111)], none⟩,
          ⟨(some 12), true, .mv (.loc 112), none⟩]
@[simp] def r64_27 : List HOp := [⟨(some 113), false, .mv (.env 12), none⟩,
           ⟨(some 114), false, .bin .other .geq (.loc 113) (.val (.tr (.sc (.int .i64 0)))), none⟩]
@[simp] def r64_28 : List HOp := [⟨(some 115), false, .mv (.env 12), none⟩,
            ⟨(some 116), false, .mv (.env 8), none⟩,
            ⟨(some 117), false, .bin .other .add (.loc 115) (.loc 116), none⟩,
            ⟨(some 4), true, .mv (.loc 117), none⟩]
@[simp] def r64_29 : List HOp := [⟨(some 4), true, .mv (.val (.tr (.sc (.int .i64 (-1))))), none⟩]
@[simp] def r64_30 : List HOp := [⟨(some 118), false, .mv (.env 5), none⟩,
          ⟨(some 119), false, .load 1 false (.val (.tr (.sc (.pointer (some ⟨0, 0, none⟩))))), none⟩,
          ⟨(some 120), false, .bin .other .gtr (.loc 118) (.loc 119), none⟩,
          ⟨(some 121), false, .mv (.loc 120), none⟩,
          ⟨(some 122), false, .mv (.env 10), some ((.loc 121), true)⟩,
          ⟨(some 123), false, .mv (.env 8), some ((.loc 121), true)⟩,
          ⟨(some 124), false, .bin .other .shr (.loc 123) (.val (.tr (.sc (.int .u64 4)))), some ((.loc 121), true)⟩,
          ⟨(some 125), false, .bin .other .add (.val (.tr (.sc (.int .i64 4)))) (.loc 124), some ((.loc 121), true)⟩,
          ⟨(some 126), false, .bin .other .geq (.loc 122) (.loc 125), some ((.loc 121), true)⟩,
          ⟨(some 127), false, .pick (.loc 121) (.loc 126) (.val (.tr (.sc (.bool false)))), none⟩,
          ⟨(some 128), false, .mv (.loc 127), none⟩,
          ⟨(some 129), false, .mv (.env 8), some ((.loc 128), true)⟩,
          ⟨(some 130), false, .mv (.env 9), some ((.loc 128), true)⟩,
          ⟨(some 131), false, .bin .other .lss (.loc 129) (.loc 130), some ((.loc 128), true)⟩,
          ⟨(some 132), false, .pick (.loc 128) (.loc 131) (.val (.tr (.sc (.bool false)))), none⟩]
@[simp] def r64_31 : List HOp := [⟨(some 133), false, .mv (.env 0), none⟩,
           ⟨(some 134), false, .mv (.env 8), none⟩,
           ⟨(some 135), false, .slicestr (.loc 133) (some (.loc 134)) none, none⟩,
           ⟨(some 136), false, .mv (.env 1), none⟩,
           ⟨(some 137), false, .callf 82 [(.loc 135), (.loc 136)], none⟩,
           ⟨(some 13), true, .mv (.loc 137), none⟩]
@[simp] def r64_32 : List HOp := [⟨(some 138), false, .mv (.env 13), none⟩,
            ⟨(some 139), false, .bin .other .lss (.loc 138) (.val (.tr (.sc (.int .i64 0)))), none⟩]
@[simp] def r64_33 : List HOp := [⟨(some 4), true, .mv (.val (.tr (.sc (.int .i64 (-1))))), none⟩]
@[simp] def r64_34 : List HOp := [⟨(some 140), false, .mv (.env 8), none⟩,
           ⟨(some 141), false, .mv (.env 13), none⟩,
           ⟨(some 142), false, .bin .other .add (.loc 140) (.loc 141), none⟩,
           ⟨(some 4), true, .mv (.loc 142), none⟩]
@[simp] def r64_35 : List HOp := [⟨(some 4), true, .mv (.val (.tr (.sc (.int .i64 (-1))))), none⟩]
@[simp] def k64_3 : HCode := .seq (.region r64_3 none) .ret
@[simp] def k64_6 : HCode := .seq (.region r64_5 none) .ret
@[simp] def k64_9 : HCode := .seq (.region r64_7 none) .ret
@[simp] def k64_12 : HCode := .seq (.region r64_9 none) .ret
@[simp] def k64_11 : HCode := .cond (.loc 36) k64_12 .skip
@[simp] def k64_10 : HCode := .seq (.region r64_8 none) k64_11
@[simp] def k64_8 : HCode := .cond (.loc 31) k64_9 k64_10
@[simp] def k64_7 : HCode := .seq (.region r64_6 none) k64_8
@[simp] def k64_5 : HCode := .cond (.loc 24) k64_6 k64_7
@[simp] def k64_4 : HCode := .seq (.region r64_4 none) k64_5
@[simp] def k64_2 : HCode := .cond (.loc 16) k64_3 k64_4
@[simp] def k64_20 : HCode := .cond (.loc 59) .skip (.exit 1)
@[simp] def k64_26 : HCode := .seq (.region r64_19 none) .ret
@[simp] def k64_25 : HCode := .cond (.loc 73) k64_26 .skip
def k64_27 : HCode := .region r64_20 none
@[simp] def k64_24 : HCode := .seq (.seq (.region r64_18 none) k64_25) k64_27
@[simp] def k64_23 : HCode := .seq (.region r64_17 none) k64_24
@[simp] def k64_22 : HCode := .cond (.loc 64) k64_23 .skip
@[simp] def k64_30 : HCode := .seq (.region r64_22 none) .ret
@[simp] def k64_29 : HCode := .cond (.loc 93) k64_30 .skip
@[simp] def k64_38 : HCode := .seq (.region r64_28 none) .ret
@[simp] def k64_37 : HCode := .cond (.loc 114) k64_38 .skip
def k64_39 : HCode := .seq (.region r64_29 none) .ret
@[simp] def k64_36 : HCode := .seq (.seq (.region r64_27 none) k64_37) k64_39
@[simp] def k64_35 : HCode := .seq (.region r64_26 none) k64_36
@[simp] def k64_45 : HCode := .seq (.region r64_33 none) .ret
@[simp] def k64_44 : HCode := .cond (.loc 139) k64_45 .skip
def k64_46 : HCode := .seq (.region r64_34 none) .ret
@[simp] def k64_43 : HCode := .seq (.seq (.region r64_32 none) k64_44) k64_46
@[simp] def k64_42 : HCode := .seq (.region r64_31 none) k64_43
@[simp] def k64_41 : HCode := .cond (.loc 132) k64_42 .skip
@[simp] def k64_40 : HCode := .seq (.region r64_30 none) k64_41
@[simp] def k64_34 : HCode := .cond (.loc 107) k64_35 k64_40
@[simp] def k64_33 : HCode := .seq (.region r64_25 none) k64_34
@[simp] def k64_32 : HCode := .seq (.region r64_24 none) k64_33
def k64_31 : HCode := .seq (.region r64_23 none) k64_32
def k64_28 : HCode := .seq (.seq (.region r64_21 none) k64_29) k64_31
def k64_21 : HCode := .block 2 (.seq (.seq (.region r64_16 none) k64_22) k64_28)
def k64_19 : HCode := .seq (.seq (.region r64_15 none) k64_20) k64_21
def k64_47 : HCode := .seq (.region r64_35 none) .ret
@[simp] def k64_18 : HCode := .seq (.block 1 (.loop k64_19)) k64_47
@[simp] def k64_17 : HCode := .seq (.region r64_14 none) k64_18
@[simp] def k64_16 : HCode := .seq (.region r64_13 none) k64_17
@[simp] def k64_15 : HCode := .seq (.region r64_12 none) k64_16
@[simp] def k64_14 : HCode := .seq (.region r64_11 none) k64_15
def k64_13 : HCode := .seq (.region r64_10 none) k64_14
@[simp] def k64_1 : HCode := .seq (.block 0 (.seq (.region r64_2 none) k64_2)) k64_13
@[simp] def k64_0 : HCode := .seq (.region r64_1 none) k64_1
@[simp] def fn64 : HFn := { nargs := 2, results := [.tmp 4], mode := .shared, code := (.seq (.region r64_0 none) k64_0) }
theorem c64 : cFn Tryd.prog (Hs 64) .shared 64 = some fn64 := by kernel_rfl
/- internal/bytealg.Cutover -/
@[simp] def r67_0 : List HOp := [⟨(some 2), true, .mv (.val (.tr (.sc (.int .i64 0)))), none⟩]
@[simp] def r67_1 : List HOp := [⟨(some 3), false, .mv (.env 0), none⟩,
     ⟨(some 4), false, .bin .other .add (.loc 3) (.val (.tr (.sc (.int .i64 16)))), none⟩,
     ⟨(some 5), false, .bin .other .quo (.loc 4) (.val (.tr (.sc (.int .i64 8)))), none⟩,
     ⟨(some 2), true, .mv (.loc 5), none⟩]
@[simp] def k67_0 : HCode := .seq (.region r67_1 none) .ret
@[simp] def fn67 : HFn := { nargs := 1, results := [.tmp 2], mode := .shared, code := (.seq (.region r67_0 none) k67_0) }
theorem c67 : cFn Tryd.prog (Hs 67) .shared 67 = some fn67 := by kernel_rfl
/- internal/bytealg.IndexRabinKarp[string] -/
@[simp] def r82_0 : List HOp := [⟨(some 4), true, .mv (.val (.tr (.sc (.int .i64 0)))), none⟩]
@[simp] def r82_1 : List HOp := [⟨(some 12), false, .mv (.env 1), none⟩,
     ⟨(some 13), false, .callf 89 [(.loc 12)], none⟩,
     ⟨(some 11), false, .mv (.loc 13), none⟩,
     ⟨(some 14), false, .extract (.loc 11) 0, none⟩,
     ⟨(some 15), false, .extract (.loc 11) 1, none⟩,
     ⟨(some 5), true, .mv (.loc 14), none⟩,
     ⟨(some 6), true, .mv (.loc 15), none⟩]
@[simp] def r82_2 : List HOp := [⟨(some 16), false, .mv (.env 1), none⟩,
     ⟨(some 17), false, .len 0 (.loc 16), none⟩,
     ⟨(some 7), true, .mv (.loc 17), none⟩]
@[simp] def r82_3 : List HOp := [⟨(some 8), true, .mv (.val (.tr (.sc (.int .u32 0)))), none⟩]
@[simp] def r82_4 : List HOp := [⟨(some 9), true, .mv (.val (.tr (.sc (.int .i64 0)))), none⟩]
@[simp] def r82_5 : List HOp := [⟨(some 18), false, .mv (.env 9), none⟩,
         ⟨(some 19), false, .mv (.env 7), none⟩,
         ⟨(some 20), false, .bin .other .lss (.loc 18) (.loc 19), none⟩]
@[simp] def r82_6 : List HOp := [⟨(some 23), false, .mv (.env 8), none⟩,
         ⟨(some 24), false, .bin .other .mul (.loc 23) (.val (.tr (.sc (.int .u32 16777619)))), none⟩,
         ⟨(some 25), false, .mv (.env 0), none⟩,
         ⟨(some 26), false, .mv (.env 9), none⟩,
         ⟨(some 27), false, .istr (.loc 25) (.loc 26), none⟩,
         ⟨(some 28), false, .conv (.toInt .u32) (.loc 27), none⟩,
         ⟨(some 29), false, .bin .other .add (.loc 24) (.loc 28), none⟩,
         ⟨(some 8), true, .mv (.loc 29), none⟩]
@[simp] def r82_7 : List HOp := [⟨(some 21), false, .mv (.env 9), none⟩,
       ⟨(some 22), false, .bin .other .add (.loc 21) (.val (.tr (.sc (.int .i64 1)))), none⟩,
       ⟨(some 9), true, .mv (.loc 22), none⟩]
@[simp] def r82_8 : List HOp := [⟨(some 30), false, .mv (.env 8), none⟩,
      ⟨(some 31), false, .mv (.env 5), none⟩,
      ⟨(some 32), false, .bin .other .eql (.loc 30) (.loc 31), none⟩,
      ⟨(some 33), false, .mv (.loc 32), none⟩,
      ⟨(some 34), false, .mv (.env 0), some ((.loc 33), true)⟩,
      ⟨(some 35), false, .mv (.env 7), some ((.loc 33), true)⟩,
      ⟨(some 36), false, .slicestr (.loc 34) none (some (.loc 35)), some ((.loc 33), true)⟩,
      ⟨(some 37), false, .mv (.env 1), some ((.loc 33), true)⟩,
      ⟨(some 38), false, .bin .other .eql (.loc 36) (.loc 37), some ((.loc 33), true)⟩,
      ⟨(some 39), false, .pick (.loc 33) (.loc 38) (.val (.tr (.sc (.bool false)))), none⟩]
@[simp] def r82_9 : List HOp := [⟨(some 4), true, .mv (.val (.tr (.sc (.int .i64 0)))), none⟩]
@[simp] def r82_10 : List HOp := [⟨(some 40), false, .mv (.env 7), none⟩,
      ⟨(some 10), true, .mv (.loc 40), none⟩]
@[simp] def r82_11 : List HOp := [⟨(some 41), false, .mv (.env 10), none⟩,
         ⟨(some 42), false, .mv (.env 0), none⟩,
         ⟨(some 43), false, .len 0 (.loc 42), none⟩,
         ⟨(some 44), false, .bin .other .lss (.loc 41) (.loc 43), none⟩]
@[simp] def r82_12 : List HOp := [⟨(some 45), false, .mv (.env 8), none⟩,
         ⟨(some 46), false, .bin .other .mul (.loc 45) (.val (.tr (.sc (.int .u32 16777619)))), none⟩,
         ⟨(some 8), true, .mv (.loc 46), none⟩]
@[simp] def r82_13 : List HOp := [⟨(some 47), false, .mv (.env 8), none⟩,
         ⟨(some 48), false, .mv (.env 0), none⟩,
         ⟨(some 49), false, .mv (.env 10), none⟩,
         ⟨(some 50), false, .istr (.loc 48) (.loc 49), none⟩,
         ⟨(some 51), false, .conv (.toInt .u32) (.loc 50), none⟩,
         ⟨(some 52), false, .bin .other .add (.loc 47) (.loc 51), none⟩,
         ⟨(some 8), true, .mv (.loc 52), none⟩]
@[simp] def r82_14 : List HOp := [⟨(some 53), false, .mv (.env 8), none⟩,
         ⟨(some 54), false, .mv (.env 6), none⟩,
         ⟨(some 55), false, .mv (.env 0), none⟩,
         ⟨(some 56), false, .mv (.env 10), none⟩,
         ⟨(some 57), false, .mv (.env 7), none⟩,
         ⟨(some 58), false, .bin .other .sub (.loc 56) (.loc 57), none⟩,
         ⟨(some 59), false, .istr (.loc 55) (.loc 58), none⟩,
         ⟨(some 60), false, .conv (.toInt .u32) (.loc 59), none⟩,
         ⟨(some 61), false, .bin .other .mul (.loc 54) (.loc 60), none⟩,
         ⟨(some 62), false, .bin .other .sub (.loc 53) (.loc 61), none⟩,
         ⟨(some 8), true, .mv (.loc 62), none⟩]
@[simp] def r82_15 : List HOp := [⟨(some 63), false, .mv (.env 10), none⟩,
         ⟨(some 64), false, .bin .other .add (.loc 63) (.val (.tr (.sc (.int .i64 1)))), none⟩,
         ⟨(some 10), true, .mv (.loc 64), none⟩]
@[simp] def r82_16 : List HOp := [⟨(some 65), false, .mv (.env 8), none⟩,
         ⟨(some 66), false, .mv (.env 5), none⟩,
         ⟨(some 67), false, .bin .other .eql (.loc 65) (.loc 66), none⟩,
         ⟨(some 68), false, .mv (.loc 67), none⟩,
         ⟨(some 69), false, .mv (.env 0), some ((.loc 68), true)⟩,
         ⟨(some 70), false, .mv (.env 10), some ((.loc 68), true)⟩,
         ⟨(some 71), false, .mv (.env 7), some ((.loc 68), true)⟩,
         ⟨(some 72), false, .bin .other .sub (.loc 70) (.loc 71), some ((.loc 68), true)⟩,
         ⟨(some 73), false, .mv (.env 10), some ((.loc 68), true)⟩,
         ⟨(some 74), false, .slicestr (.loc 69) (some (.loc 72)) (some (.loc 73)), some ((.loc 68), true)⟩,
         ⟨(some 75), false, .mv (.env 1), some ((.loc 68), true)⟩,
         ⟨(some 76), false, .bin .other .eql (.loc 74) (.loc 75), some ((.loc 68), true)⟩,
         ⟨(some 77), false, .pick (.loc 68) (.loc 76) (.val (.tr (.sc (.bool false)))), none⟩]
@[simp] def r82_17 : List HOp := [⟨(some 78), false, .mv (.env 10), none⟩,
          ⟨(some 79), false, .mv (.env 7), none⟩,
          ⟨(some 80), false, .bin .other .sub (.loc 78) (.loc 79), none⟩,
          ⟨(some 4), true, .mv (.loc 80), none⟩]
@[simp] def r82_18 : List HOp := [⟨(some 4), true, .mv (.val (.tr (.sc (.int .i64 (-1))))), none⟩]
@[simp] def k82_6 : HCode := .cond (.loc 20) .skip (.exit 0)
def k82_7 : HCode := .seq (.block 1 (.region r82_6 none)) (.region r82_7 none)
def k82_5 : HCode := .seq (.seq (.region r82_5 none) k82_6) k82_7
@[simp] def k82_4 : HCode := .block 0 (.loop k82_5)
@[simp] def k82_10 : HCode := .seq (.region r82_9 none) .ret
@[simp] def k82_9 : HCode := .cond (.loc 39) k82_10 .skip
@[simp] def k82_14 : HCode := .cond (.loc 44) .skip (.exit 2)
@[simp] def k82_21 : HCode := .seq (.region r82_17 none) .ret
@[simp] def k82_20 : HCode := .cond (.loc 77) k82_21 .skip
@[simp] def k82_19 : HCode := .seq (.region r82_16 none) k82_20
@[simp] def k82_18 : HCode := .seq (.region r82_15 none) k82_19
@[simp] def k82_17 : HCode := .seq (.region r82_14 none) k82_18
@[simp] def k82_16 : HCode := .seq (.region r82_13 none) k82_17
def k82_15 : HCode := .block 3 (.seq (.region r82_12 none) k82_16)
def k82_13 : HCode := .seq (.seq (.region r82_11 none) k82_14) k82_15
@[simp] def k82_12 : HCode := .block 2 (.loop k82_13)
def k82_22 : HCode := .seq (.region r82_18 none) .ret
def k82_11 : HCode := .seq (.seq (.region r82_10 none) k82_12) k82_22
def k82_8 : HCode := .seq (.seq (.region r82_8 none) k82_9) k82_11
@[simp] def k82_3 : HCode := .seq (.seq (.region r82_4 none) k82_4) k82_8
@[simp] def k82_2 : HCode := .seq (.region r82_3 none) k82_3
@[simp] def k82_1 : HCode := .seq (.region r82_2 none) k82_2
@[simp] def k82_0 : HCode := .seq (.region r82_1 none) k82_1
@[simp] def fn82 : HFn := { nargs := 2, results := [.tmp 4], mode := .shared, code := (.seq (.region r82_0 none) k82_0) }
theorem c82 : cFn Tryd.prog (Hs 82) .shared 82 = some fn82 := by kernel_rfl
/- internal/bytealg.hashStr[string] -/
@[simp] def r89_0 : List HOp := [⟨(some 2), true, .mv (.val (.tr (.sc (.int .u32 0)))), none⟩,
     ⟨(some 3), true, .mv (.val (.tr (.sc (.int .u32 0)))), none⟩]
@[simp] def r89_1 : List HOp := [⟨(some 4), true, .mv (.val (.tr (.sc (.int .u32 0)))), none⟩]
@[simp] def r89_2 : List HOp := [⟨(some 5), true, .mv (.val (.tr (.sc (.int .i64 0)))), none⟩]
@[simp] def r89_3 : List HOp := [⟨(some 9), false, .mv (.env 5), none⟩,
         ⟨(some 10), false, .mv (.env 0), none⟩,
         ⟨(some 11), false, .len 0 (.loc 10), none⟩,
         ⟨(some 12), false, .bin .other .lss (.loc 9) (.loc 11), none⟩]
@[simp] def r89_4 : List HOp := [⟨(some 15), false, .mv (.env 4), none⟩,
         ⟨(some 16), false, .bin .other .mul (.loc 15) (.val (.tr (.sc (.int .u32 16777619)))), none⟩,
         ⟨(some 17), false, .mv (.env 0), none⟩,
         ⟨(some 18), false, .mv (.env 5), none⟩,
         ⟨(some 19), false, .istr (.loc 17) (.loc 18), none⟩,
         ⟨(some 20), false, .conv (.toInt .u32) (.loc 19), none⟩,
         ⟨(some 21), false, .bin .other .add (.loc 16) (.loc 20), none⟩,
         ⟨(some 4), true, .mv (.loc 21), none⟩]
@[simp] def r89_5 : List HOp := [⟨(some 13), false, .mv (.env 5), none⟩,
       ⟨(some 14), false, .bin .other .add (.loc 13) (.val (.tr (.sc (.int .i64 1)))), none⟩,
       ⟨(some 5), true, .mv (.loc 14), none⟩]
@[simp] def r89_6 : List HOp := [⟨(some 6), true, .mv (.val (.tr (.sc (.int .u32 1)))), none⟩,
     ⟨(some 7), true, .mv (.val (.tr (.sc (.int .u32 16777619)))), none⟩]
@[simp] def r89_7 : List HOp := [⟨(some 22), false, .mv (.env 0), none⟩,
      ⟨(some 23), false, .len 0 (.loc 22), none⟩,
      ⟨(some 8), true, .mv (.loc 23), none⟩]
@[simp] def r89_8 : List HOp := [⟨(some 24), false, .mv (.env 8), none⟩,
         ⟨(some 25), false, .bin .other .gtr (.loc 24) (.val (.tr (.sc (.int .i64 0)))), none⟩]
@[simp] def r89_9 : List HOp := [⟨(some 28), false, .mv (.env 8), none⟩,
           ⟨(some 29), false, .bin .other .and (.loc 28) (.val (.tr (.sc (.int .i64 1)))), none⟩,
           ⟨(some 30), false, .bin .other .neq (.loc 29) (.val (.tr (.sc (.int .i64 0)))), none⟩]
@[simp] def r89_10 : List HOp := [⟨(some 31), false, .mv (.env 6), none⟩,
           ⟨(some 32), false, .mv (.env 7), none⟩,
           ⟨(some 33), false, .bin .other .mul (.loc 31) (.loc 32), none⟩,
           ⟨(some 6), true, .mv (.loc 33), none⟩]
@[simp] def r89_11 : List HOp := [⟨(some 34), false, .mv (.env 7), none⟩,
         ⟨(some 35), false, .mv (.env 7), none⟩,
         ⟨(some 36), false, .bin .other .mul (.loc 34) (.loc 35), none⟩,
         ⟨(some 7), true, .mv (.loc 36), none⟩]
@[simp] def r89_12 : List HOp := [⟨(some 26), false, .mv (.env 8), none⟩,
       ⟨(some 27), false, .bin .other .shr (.loc 26) (.val (.tr (.sc (.int .u64 1)))), none⟩,
       ⟨(some 8), true, .mv (.loc 27), none⟩]
@[simp] def r89_13 : List HOp := [⟨(some 37), false, .mv (.env 4), none⟩,
     ⟨(some 38), false, .mv (.env 6), none⟩,
     ⟨(some 2), true, .mv (.loc 37), none⟩,
     ⟨(some 3), true, .mv (.loc 38), none⟩]
@[simp] def k89_4 : HCode := .cond (.loc 12) .skip (.exit 0)
def k89_5 : HCode := .seq (.block 1 (.region r89_4 none)) (.region r89_5 none)
def k89_3 : HCode := .seq (.seq (.region r89_3 none) k89_4) k89_5
@[simp] def k89_2 : HCode := .block 0 (.loop k89_3)
@[simp] def k89_10 : HCode := .cond (.loc 25) .skip (.exit 2)
@[simp] def k89_12 : HCode := .cond (.loc 30) (.region r89_10 none) .skip
def k89_13 : HCode := .region r89_11 none
def k89_14 : HCode := .region r89_12 none
def k89_11 : HCode := .seq (.block 3 (.seq (.seq (.region r89_9 none) k89_12) k89_13)) k89_14
def k89_9 : HCode := .seq (.seq (.region r89_8 none) k89_10) k89_11
@[simp] def k89_8 : HCode := .block 2 (.loop k89_9)
def k89_15 : HCode := .seq (.region r89_13 none) .ret
@[simp] def k89_7 : HCode := .seq (.seq (.region r89_7 none) k89_8) k89_15
def k89_6 : HCode := .seq (.region r89_6 none) k89_7
@[simp] def k89_1 : HCode := .seq (.seq (.region r89_2 none) k89_2) k89_6
@[simp] def k89_0 : HCode := .seq (.region r89_1 none) k89_1
@[simp] def fn89 : HFn := { nargs := 1, results := [.tmp 2, .tmp 3], mode := .shared, code := (.seq (.region r89_0 none) k89_0) }
theorem c89 : cFn Tryd.prog (Hs 89) .shared 89 = some fn89 := by kernel_rfl
/- (*strings.Builder).grow -/
@[simp] def r78_0 : List HOp := [⟨(some 5), false, .mv (.env 0), none⟩,
     ⟨(some 6), false, .nilchk (.loc 5), none⟩,
     ⟨(some 7), false, .faddr 1 (.loc 6), none⟩,
     ⟨(some 8), false, .load 1 false (.loc 7), none⟩,
     ⟨(some 9), false, .cap (.loc 8), none⟩,
     ⟨(some 10), false, .bin .other .mul (.val (.tr (.sc (.int .i64 2)))) (.loc 9), none⟩,
     ⟨(some 11), false, .mv (.env 1), none⟩,
     ⟨(some 12), false, .bin .other .add (.loc 10) (.loc 11), none⟩,
     ⟨(some 13), false, .callf 87 [(.loc 12)], none⟩,
     ⟨(some 14), false, .mv (.env 0), none⟩,
     ⟨(some 15), false, .nilchk (.loc 14), none⟩,
     ⟨(some 16), false, .faddr 1 (.loc 15), none⟩,
     ⟨(some 17), false, .load 1 false (.loc 16), none⟩,
     ⟨(some 18), false, .len 1 (.loc 17), none⟩,
     ⟨(some 19), false, .slice 1 (.loc 13) none (some (.loc 18)) none, none⟩,
     ⟨(some 4), true, .mv (.loc 19), none⟩]
@[simp] def r78_1 : List HOp := [⟨(some 20), false, .mv (.env 4), none⟩,
     ⟨(some 21), false, .mv (.env 0), none⟩,
     ⟨(some 22), false, .nilchk (.loc 21), none⟩,
     ⟨(some 23), false, .faddr 1 (.loc 22), none⟩,
     ⟨(some 24), false, .load 1 false (.loc 23), none⟩,
     ⟨(some 25), false, .copy 1 (.loc 20) (.loc 24), none⟩]
@[simp] def r78_2 : List HOp := [⟨(some 26), false, .mv (.env 0), none⟩,
    ⟨(some 27), false, .mv (.env 4), none⟩,
    ⟨(some 28), false, .nilchk (.loc 26), none⟩,
    ⟨(some 29), false, .faddr 1 (.loc 28), none⟩,
    ⟨none, false, .store 1 (.loc 29) (.loc 27), none⟩]
@[simp] def k78_0 : HCode := .seq (.region r78_1 none) (.region r78_2 none)
@[simp] def fn78 : HFn := { nargs := 2, results := [], mode := .shared, code := (.seq (.region r78_0 (some [ ( 0, [ 0 ] ) , ( 0, [ 5 ] ) , ( 0, [ 6 ] ) , ( 1, [ 7 ] ) , ( 1, [ 8 ] ) , ( 0, [ 9 ] ) , ( 0, [ 1 ] ) , ( 0, [ 10, 11 ] ) , ( 1, [ 12 ] ) , ( 0, [ 0 ] ) , ( 0, [ 14 ] ) , ( 0, [ 15 ] ) , ( 1, [ 16 ] ) , ( 0, [ 17 ] ) , ( 2, [ 13, 18 ] ) , ( 0, [ 19 ] ) ])) k78_0) }
theorem c78 : cFn Tryd.prog (Hs 78) .shared 78 = some fn78 := by kernel_rfl
/- (*strings.Builder).WriteString -/
@[simp] def r61_0 : List HOp := [⟨(some 4), true, .mv (.val (.tr (.sc (.int .i64 0)))), none⟩,
     ⟨(some 5), true, .mv (.val (.tr (.sc .nilIface))), none⟩]
@[simp] def r61_1 : List HOp := [⟨(some 6), false, .mv (.env 0), none⟩,
     ⟨(some 7), false, .callf 77 [(.loc 6)], none⟩]
@[simp] def r61_2 : List HOp := [⟨(some 8), false, .mv (.env 0), none⟩,
     ⟨(some 9), false, .mv (.env 0), none⟩,
     ⟨(some 10), false, .nilchk (.loc 9), none⟩,
     ⟨(some 11), false, .faddr 1 (.loc 10), none⟩,
     ⟨(some 12), false, .load 1 false (.loc 11), none⟩,
     ⟨(some 13), false, .mv (.env 1), none⟩,
     ⟨(some 14), false, .append 1 1 (.loc 12) (.loc 13), none⟩,
     ⟨(some 15), false, .nilchk (.loc 8), none⟩,
     ⟨(some 16), false, .faddr 1 (.loc 15), none⟩,
     ⟨none, false, .store 1 (.loc 16) (.loc 14), none⟩]
@[simp] def r61_3 : List HOp := [⟨(some 17), false, .mv (.env 1), none⟩,
     ⟨(some 18), false, .len 0 (.loc 17), none⟩,
     ⟨(some 4), true, .mv (.loc 18), none⟩,
     ⟨(some 5), true, .mv (.val (.tr (.sc .nilIface))), none⟩]
@[simp] def k61_2 : HCode := .seq (.region r61_3 none) .ret
@[simp] def k61_1 : HCode := .seq (.region r61_2 none) k61_2
@[simp] def k61_0 : HCode := .seq (.region r61_1 none) k61_1
@[simp] def fn61 : HFn := { nargs := 2, results := [.tmp 4, .tmp 5], mode := .shared, code := (.seq (.region r61_0 none) k61_0) }
theorem c61 : cFn Tryd.prog (Hs 61) .shared 61 = some fn61 := by kernel_rfl
/- sterling/scan.value -/
@[simp] def r29_0 : List HOp := [⟨(some 2), true, .mv (.val (.tr (.sc (.int .i32 0)))), none⟩]
@[simp] def r29_1 : List HOp := [⟨(some 3), true, .mv (.val (.tr (.sc (.int .i32 0)))), none⟩]
@[simp] def r29_2 : List HOp := [⟨(some 7), false, .mv (.env 0), none⟩,
      ⟨(some 8), true, .len 0 (.loc 7), none⟩,
      ⟨(some 9), true, .mv (.val (.tr (.sc (.int .i64 0)))), none⟩]
@[simp] def r29_3 : List HOp := [⟨(some 10), false, .bin .other .lss (.env 9) (.env 8), none⟩]
@[simp] def r29_4 : List HOp := [⟨(some 11), false, .mv (.env 9), none⟩,
          ⟨(some 4), true, .mv (.loc 11), none⟩]
@[simp] def r29_5 : List HOp := [⟨(some 12), false, .mv (.env 0), none⟩,
          ⟨(some 13), false, .mv (.env 4), none⟩,
          ⟨(some 14), false, .istr (.loc 12) (.loc 13), none⟩,
          ⟨(some 5), true, .mv (.loc 14), none⟩]
@[simp] def r29_6 : List HOp := [⟨(some 15), false, .mv (.env 5), none⟩,
          ⟨(some 16), false, .bin .other .sub (.loc 15) (.val (.tr (.sc (.int .u8 48)))), none⟩,
          ⟨(some 17), false, .conv (.toInt .i32) (.loc 16), none⟩,
          ⟨(some 6), true, .mv (.loc 17), none⟩]
@[simp] def r29_7 : List HOp := [⟨(some 18), false, .mv (.env 5), none⟩,
           ⟨(some 19), false, .callf 36 [(.loc 18)], none⟩,
           ⟨(some 20), false, .un .not (.loc 19), none⟩]
@[simp] def r29_8 : List HOp := [⟨(some 21), false, .mv (.env 5), none⟩,
           ⟨(some 22), false, .bin .other .or (.loc 21) (.val (.tr (.sc (.int .u8 32)))), none⟩,
           ⟨(some 23), false, .bin .other .sub (.loc 22) (.val (.tr (.sc (.int .u8 97)))), none⟩,
           ⟨(some 24), false, .conv (.toInt .i32) (.loc 23), none⟩,
           ⟨(some 25), false, .bin .other .add (.loc 24) (.val (.tr (.sc (.int .i32 10)))), none⟩,
           ⟨(some 6), true, .mv (.loc 25), none⟩]
@[simp] def r29_9 : List HOp := [⟨(some 26), false, .mv (.env 3), none⟩,
         ⟨(some 27), false, .bin .other .mul (.val (.tr (.sc (.int .i32 16)))) (.loc 26), none⟩,
         ⟨(some 28), false, .mv (.env 6), none⟩,
         ⟨(some 29), false, .bin .other .add (.loc 27) (.loc 28), none⟩,
         ⟨(some 3), true, .mv (.loc 29), none⟩]
@[simp] def r29_10 : List HOp := [⟨(some 30), false, .bin .other .add (.env 9) (.val (.tr (.sc (.int .i64 1)))), none⟩,
       ⟨(some 9), true, .mv (.loc 30), none⟩]
@[simp] def r29_11 : List HOp := [⟨(some 31), false, .mv (.env 3), none⟩,
     ⟨(some 2), true, .mv (.loc 31), none⟩]
@[simp] def k29_9 : HCode := .cond (.loc 20) (.region r29_8 none) .skip
def k29_10 : HCode := .region r29_9 none
@[simp] def k29_8 : HCode := .seq (.seq (.region r29_7 none) k29_9) k29_10
@[simp] def k29_7 : HCode := .seq (.region r29_6 none) k29_8
@[simp] def k29_6 : HCode := .seq (.region r29_5 none) k29_7
def k29_11 : HCode := .region r29_10 none
def k29_5 : HCode := .seq (.block 1 (.seq (.region r29_4 none) k29_6)) k29_11
@[simp] def k29_4 : HCode := .seq (.cond (.loc 10) .skip (.exit 0)) k29_5
def k29_3 : HCode := .seq (.region r29_3 none) k29_4
@[simp] def k29_2 : HCode := .block 0 (.loop k29_3)
def k29_12 : HCode := .seq (.region r29_11 none) .ret
@[simp] def k29_1 : HCode := .seq (.seq (.region r29_2 none) k29_2) k29_12
@[simp] def k29_0 : HCode := .seq (.region r29_1 none) k29_1
@[simp] def fn29 : HFn := { nargs := 1, results := [.tmp 2], mode := .shared, code := (.seq (.region r29_0 none) k29_0) }
theorem c29 : cFn Tryd.prog (Hs 29) .shared 29 = some fn29 := by kernel_rfl
/- unicode/utf8.AppendRune -/
@[simp] def r30_0 : List HOp := [⟨(some 4), true, .mv (.val (.tr (.sc (.slice none 0 0)))), none⟩]
@[simp] def r30_1 : List HOp := [⟨(some 5), false, .mv (.env 1), none⟩,
      ⟨(some 6), false, .conv (.toInt .u32) (.loc 5), none⟩,
      ⟨(some 7), false, .bin .other .leq (.loc 6) (.val (.tr (.sc (.int .u32 127)))), none⟩]
@[simp] def r30_2 : List HOp := [⟨(some 8), false, .mv (.env 0), none⟩,
       ⟨(some 9), false, .mv (.env 1), none⟩,
       ⟨(some 10), false, .conv (.toInt .u8) (.loc 9), none⟩,
       ⟨(some 11), false, .bslice false 1 1 [(.sc (.int .u8 0))] [(0, 1, (.loc 10))], none⟩,
       ⟨(some 12), false, .append 1 1 (.loc 8) (.loc 11), none⟩,
       ⟨(some 4), true, .mv (.loc 12), none⟩]
@[simp] def r30_3 : List HOp := [⟨(some 13), false, .mv (.env 0), none⟩,
     ⟨(some 14), false, .mv (.env 1), none⟩,
     ⟨(some 15), false, .callf 48 [(.loc 13), (.loc 14)], none⟩,
     ⟨(some 4), true, .mv (.loc 15), none⟩]
@[simp] def k30_2 : HCode := .seq (.region r30_2 none) .ret
@[simp] def k30_1 : HCode := .cond (.loc 7) k30_2 .skip
def k30_3 : HCode := .seq (.region r30_3 none) .ret
@[simp] def k30_0 : HCode := .seq (.seq (.region r30_1 none) k30_1) k30_3
@[simp] def fn30 : HFn := { nargs := 2, results := [.tmp 4], mode := .shared, code := (.seq (.region r30_0 none) k30_0) }
theorem c30 : cFn Tryd.prog (Hs 30) .shared 30 = some fn30 := by kernel_rfl
/- unicode/utf8.appendRuneNonASCII -/
@[simp] def r48_0 : List HOp := [⟨(some 4), true, .mv (.val (.tr (.sc (.slice none 0 0)))), none⟩]
@[simp] def r48_1 : List HOp := [⟨(some 6), false, .mv (.env 1), none⟩,
     ⟨(some 7), false, .conv (.toInt .u32) (.loc 6), none⟩,
     ⟨(some 5), true, .mv (.loc 7), none⟩]
@[simp] def r48_2 : List HOp := [⟨(some 12), false, .mv (.env 5), none⟩,
      ⟨(some 13), false, .bin .other .leq (.loc 12) (.val (.tr (.sc (.int .u32 2047)))), none⟩,
      ⟨(some 11), false, .mv (.loc 13), none⟩]
@[simp] def r48_3 : List HOp := [⟨(some 14), false, .mv (.env 0), none⟩,
       ⟨(some 15), false, .mv (.env 1), none⟩,
       ⟨(some 16), false, .bin .other .shr (.loc 15) (.val (.tr (.sc (.int .u64 6)))), none⟩,
       ⟨(some 17), false, .conv (.toInt .u8) (.loc 16), none⟩,
       ⟨(some 18), false, .bin .other .or (.val (.tr (.sc (.int .u8 192)))) (.loc 17), none⟩,
       ⟨(some 19), false, .mv (.env 1), none⟩,
       ⟨(some 20), false, .conv (.toInt .u8) (.loc 19), none⟩,
       ⟨(some 21), false, .bin .other .and (.loc 20) (.val (.tr (.sc (.int .u8 63)))), none⟩,
       ⟨(some 22), false, .bin .other .or (.val (.tr (.sc (.int .u8 128)))) (.loc 21), none⟩,
       ⟨(some 23), false, .bslice false 2 1 [(.sc (.int .u8 0))] [(0, 1, (.loc 18)), (1, 1, (.loc 22))], none⟩,
       ⟨(some 24), false, .append 1 1 (.loc 14) (.loc 23), none⟩,
       ⟨(some 4), true, .mv (.loc 24), none⟩]
@[simp] def r48_4 : List HOp := [⟨(some 26), false, .mv (.env 5), none⟩,
        ⟨(some 27), false, .bin .other .lss (.loc 26) (.val (.tr (.sc (.int .u32 55296)))), none⟩,
        ⟨(some 25), true, .mv (.loc 27), none⟩]
@[simp] def r48_5 : List HOp := [⟨(some 28), false, .mv (.env 5), none⟩,
        ⟨(some 29), false, .bin .other .lss (.val (.tr (.sc (.int .u32 57343)))) (.loc 28), none⟩,
        ⟨(some 30), false, .mv (.loc 29), none⟩,
        ⟨(some 31), false, .mv (.env 5), some ((.loc 30), true)⟩,
        ⟨(some 32), false, .bin .other .leq (.loc 31) (.val (.tr (.sc (.int .u32 65535)))), some ((.loc 30), true)⟩,
        ⟨(some 33), false, .pick (.loc 30) (.loc 32) (.val (.tr (.sc (.bool false)))), none⟩,
        ⟨(some 25), true, .mv (.loc 33), none⟩]
@[simp] def r48_6 : List HOp := [⟨(some 34), false, .mv (.env 0), none⟩,
        ⟨(some 35), false, .mv (.env 1), none⟩,
        ⟨(some 36), false, .bin .other .shr (.loc 35) (.val (.tr (.sc (.int .u64 12)))), none⟩,
        ⟨(some 37), false, .conv (.toInt .u8) (.loc 36), none⟩,
        ⟨(some 38), false, .bin .other .or (.val (.tr (.sc (.int .u8 224)))) (.loc 37), none⟩,
        ⟨(some 39), false, .mv (.env 1), none⟩,
        ⟨(some 40), false, .bin .other .shr (.loc 39) (.val (.tr (.sc (.int .u64 6)))), none⟩,
        ⟨(some 41), false, .conv (.toInt .u8) (.loc 40), none⟩,
        ⟨(some 42), false, .bin .other .and (.loc 41) (.val (.tr (.sc (.int .u8 63)))), none⟩,
        ⟨(some 43), false, .bin .other .or (.val (.tr (.sc (.int .u8 128)))) (.loc 42), none⟩,
        ⟨(some 44), false, .mv (.env 1), none⟩,
        ⟨(some 45), false, .conv (.toInt .u8) (.loc 44), none⟩,
        ⟨(some 46), false, .bin .other .and (.loc 45) (.val (.tr (.sc (.int .u8 63)))), none⟩,
        ⟨(some 47), false, .bin .other .or (.val (.tr (.sc (.int .u8 128)))) (.loc 46), none⟩,
        ⟨(some 48), false, .bslice false 3 1 [(.sc (.int .u8 0))] [(0, 1, (.loc 38)), (1, 1, (.loc 43)), (2, 1, (.loc 47))], none⟩,
        ⟨(some 49), false, .append 1 1 (.loc 34) (.loc 48), none⟩,
        ⟨(some 4), true, .mv (.loc 49), none⟩]
@[simp] def r48_7 : List HOp := [⟨(some 51), false, .mv (.env 5), none⟩,
        ⟨(some 52), false, .bin .other .gtr (.loc 51) (.val (.tr (.sc (.int .u32 65535)))), none⟩,
        ⟨(some 53), false, .mv (.loc 52), none⟩,
        ⟨(some 54), false, .mv (.env 5), some ((.loc 53), true)⟩,
        ⟨(some 55), false, .bin .other .leq (.loc 54) (.val (.tr (.sc (.int .u32 1114111)))), some ((.loc 53), true)⟩,
        ⟨(some 56), false, .pick (.loc 53) (.loc 55) (.val (.tr (.sc (.bool false)))), none⟩,
        ⟨(some 50), false, .mv (.loc 56), none⟩]
@[simp] def r48_8 : List HOp := [⟨(some 57), false, .mv (.env 0), none⟩,
         ⟨(some 58), false, .mv (.env 1), none⟩,
         ⟨(some 59), false, .bin .other .shr (.loc 58) (.val (.tr (.sc (.int .u64 18)))), none⟩,
         ⟨(some 60), false, .conv (.toInt .u8) (.loc 59), none⟩,
         ⟨(some 61), false, .bin .other .or (.val (.tr (.sc (.int .u8 240)))) (.loc 60), none⟩,
         ⟨(some 62), false, .mv (.env 1), none⟩,
         ⟨(some 63), false, .bin .other .shr (.loc 62) (.val (.tr (.sc (.int .u64 12)))), none⟩,
         ⟨(some 64), false, .conv (.toInt .u8) (.loc 63), none⟩,
         ⟨(some 65), false, .bin .other .and (.loc 64) (.val (.tr (.sc (.int .u8 63)))), none⟩,
         ⟨(some 66), false, .bin .other .or (.val (.tr (.sc (.int .u8 128)))) (.loc 65), none⟩,
         ⟨(some 67), false, .mv (.env 1), none⟩,
         ⟨(some 68), false, .bin .other .shr (.loc 67) (.val (.tr (.sc (.int .u64 6)))), none⟩,
         ⟨(some 69), false, .conv (.toInt .u8) (.loc 68), none⟩,
         ⟨(some 70), false, .bin .other .and (.loc 69) (.val (.tr (.sc (.int .u8 63)))), none⟩,
         ⟨(some 71), false, .bin .other .or (.val (.tr (.sc (.int .u8 128)))) (.loc 70), none⟩,
         ⟨(some 72), false, .mv (.env 1), none⟩,
         ⟨(some 73), false, .conv (.toInt .u8) (.loc 72), none⟩,
         ⟨(some 74), false, .bin .other .and (.loc 73) (.val (.tr (.sc (.int .u8 63)))), none⟩,
         ⟨(some 75), false, .bin .other .or (.val (.tr (.sc (.int .u8 128)))) (.loc 74), none⟩,
         ⟨(some 76), false, .bslice false 4 1 [(.sc (.int .u8 0))] [(0, 1, (.loc 61)), (1, 1, (.loc 66)), (2, 1, (.loc 71)), (3, 1, (.loc 75))], none⟩,
         ⟨(some 77), false, .append 1 1 (.loc 57) (.loc 76), none⟩,
         ⟨(some 4), true, .mv (.loc 77), none⟩]
@[simp] def r48_9 : List HOp := [⟨(some 8), false, .mv (.env 0), none⟩,
         ⟨(some 9), false, .bslice false 3 1 [(.sc (.int .u8 0))] [(0, 1, (.val (.tr (.sc (.int .u8 239))))), (1, 1, (.val (.tr (.sc (.int .u8 191))))), (2, 1, (.val (.tr (.sc (.int .u8 189)))))], none⟩,
         ⟨(some 10), false, .append 1 1 (.loc 8) (.loc 9), none⟩,
         ⟨(some 4), true, .mv (.loc 10), none⟩]
@[simp] def k48_3 : HCode := .seq (.region r48_3 none) .ret
@[simp] def k48_5 : HCode := .cond (.env 25) .skip (.region r48_5 none)
@[simp] def k48_7 : HCode := .seq (.region r48_6 none) .ret
@[simp] def k48_10 : HCode := .seq (.region r48_8 none) .ret
@[simp] def k48_11 : HCode := .seq (.region r48_9 none) .ret
@[simp] def k48_9 : HCode := .cond (.loc 50) k48_10 k48_11
@[simp] def k48_8 : HCode := .seq (.region r48_7 none) k48_9
def k48_6 : HCode := .cond (.env 25) k48_7 k48_8
@[simp] def k48_4 : HCode := .seq (.seq (.region r48_4 none) k48_5) k48_6
@[simp] def k48_2 : HCode := .cond (.loc 11) k48_3 k48_4
@[simp] def k48_1 : HCode := .block 0 (.seq (.region r48_2 none) k48_2)
@[simp] def k48_0 : HCode := .seq (.region r48_1 none) k48_1
@[simp] def fn48 : HFn := { nargs := 2, results := [.tmp 4], mode := .shared, code := (.seq (.region r48_0 none) k48_0) }
theorem c48 : cFn Tryd.prog (Hs 48) .shared 48 = some fn48 := by kernel_rfl
def fn50 : HFn := { nargs := 2, code := .bad, results := [], mode := .ext 11 }
def fn51 : HFn := { nargs := 2, code := .bad, results := [], mode := .ext 12 }
def fn31 : HFn := { nargs := 2, code := .bad, results := [], mode := .ext 0 }
def fn56 : HFn := { nargs := 1, code := .bad, results := [], mode := .ext 10 }
noncomputable def T : FTab := fun f => (bif2 (Nat.ble f 49) (bif2 (Nat.ble f 31) (bif2 (Nat.ble f 16) (bif2 (Nat.ble f 9) (bif2 (Nat.ble f 6) (bif2 (Nat.beq f 6) (some fn6) none) (bif2 (Nat.ble f 7) (bif2 (Nat.beq f 7) (some fn7) none) (bif2 (Nat.beq f 9) (some fn9) none))) (bif2 (Nat.ble f 12) (bif2 (Nat.beq f 12) (some fn12) none) (bif2 (Nat.ble f 14) (bif2 (Nat.beq f 14) (some fn14) none) (bif2 (Nat.beq f 16) (some fn16) none)))) (bif2 (Nat.ble f 27) (bif2 (Nat.ble f 17) (bif2 (Nat.beq f 17) (some fn17) none) (bif2 (Nat.ble f 18) (bif2 (Nat.beq f 18) (some fn18) none) (bif2 (Nat.beq f 27) (some fn27) none))) (bif2 (Nat.ble f 29) (bif2 (Nat.ble f 28) (bif2 (Nat.beq f 28) (some fn28) none) (bif2 (Nat.beq f 29) (some fn29) none)) (bif2 (Nat.ble f 30) (bif2 (Nat.beq f 30) (some fn30) none) (bif2 (Nat.beq f 31) (some fn31) none))))) (bif2 (Nat.ble f 37) (bif2 (Nat.ble f 34) (bif2 (Nat.ble f 32) (bif2 (Nat.beq f 32) (some fn32) none) (bif2 (Nat.ble f 33) (bif2 (Nat.beq f 33) (some fn33) none) (bif2 (Nat.beq f 34) (some fn34) none))) (bif2 (Nat.ble f 35) (bif2 (Nat.beq f 35) (some fn35) none) (bif2 (Nat.ble f 36) (bif2 (Nat.beq f 36) (some fn36) none) (bif2 (Nat.beq f 37) (some fn37) none)))) (bif2 (Nat.ble f 45) (bif2 (Nat.ble f 38) (bif2 (Nat.beq f 38) (some fn38) none) (bif2 (Nat.ble f 39) (bif2 (Nat.beq f 39) (some fn39) none) (bif2 (Nat.beq f 45) (some fn45) none))) (bif2 (Nat.ble f 47) (bif2 (Nat.ble f 46) (bif2 (Nat.beq f 46) (some fn46) none) (bif2 (Nat.beq f 47) (some fn47) none)) (bif2 (Nat.ble f 48) (bif2 (Nat.beq f 48) (some fn48) none) (bif2 (Nat.beq f 49) (some fn49) none)))))) (bif2 (Nat.ble f 67) (bif2 (Nat.ble f 55) (bif2 (Nat.ble f 52) (bif2 (Nat.ble f 50) (bif2 (Nat.beq f 50) (some fn50) none) (bif2 (Nat.ble f 51) (bif2 (Nat.beq f 51) (some fn51) none) (bif2 (Nat.beq f 52) (some fn52) none))) (bif2 (Nat.ble f 53) (bif2 (Nat.beq f 53) (some fn53) none) (bif2 (Nat.ble f 54) (bif2 (Nat.beq f 54) (some fn54) none) (bif2 (Nat.beq f 55) (some fn55) none)))) (bif2 (Nat.ble f 59) (bif2 (Nat.ble f 56) (bif2 (Nat.beq f 56) (some fn56) none) (bif2 (Nat.ble f 57) (bif2 (Nat.beq f 57) (some fn57) none) (bif2 (Nat.beq f 59) (some fn59) none))) (bif2 (Nat.ble f 62) (bif2 (Nat.ble f 61) (bif2 (Nat.beq f 61) (some fn61) none) (bif2 (Nat.beq f 62) (some fn62) none)) (bif2 (Nat.ble f 64) (bif2 (Nat.beq f 64) (some fn64) none) (bif2 (Nat.beq f 67) (some fn67) none))))) (bif2 (Nat.ble f 84) (bif2 (Nat.ble f 72) (bif2 (Nat.ble f 70) (bif2 (Nat.beq f 70) (some fn70) none) (bif2 (Nat.ble f 71) (bif2 (Nat.beq f 71) (some fn71) none) (bif2 (Nat.beq f 72) (some fn72) none))) (bif2 (Nat.ble f 80) (bif2 (Nat.ble f 78) (bif2 (Nat.beq f 78) (some fn78) none) (bif2 (Nat.beq f 80) (some fn80) none)) (bif2 (Nat.ble f 82) (bif2 (Nat.beq f 82) (some fn82) none) (bif2 (Nat.beq f 84) (some fn84) none)))) (bif2 (Nat.ble f 92) (bif2 (Nat.ble f 89) (bif2 (Nat.beq f 89) (some fn89) none) (bif2 (Nat.ble f 90) (bif2 (Nat.beq f 90) (some fn90) none) (bif2 (Nat.beq f 92) (some fn92) none))) (bif2 (Nat.ble f 97) (bif2 (Nat.ble f 93) (bif2 (Nat.beq f 93) (some fn93) none) (bif2 (Nat.beq f 97) (some fn97) none)) (bif2 (Nat.ble f 99) (bif2 (Nat.beq f 99) (some fn99) none) (bif2 (Nat.beq f 100) (some fn100) none)))))))
theorem T6 : T 6 = some fn6 := rfl
theorem T7 : T 7 = some fn7 := rfl
theorem T9 : T 9 = some fn9 := rfl
theorem T12 : T 12 = some fn12 := rfl
theorem T14 : T 14 = some fn14 := rfl
theorem T16 : T 16 = some fn16 := rfl
theorem T17 : T 17 = some fn17 := rfl
theorem T18 : T 18 = some fn18 := rfl
theorem T27 : T 27 = some fn27 := rfl
theorem T28 : T 28 = some fn28 := rfl
theorem T29 : T 29 = some fn29 := rfl
theorem T30 : T 30 = some fn30 := rfl
theorem T31 : T 31 = some fn31 := rfl
theorem T32 : T 32 = some fn32 := rfl
theorem T33 : T 33 = some fn33 := rfl
theorem T34 : T 34 = some fn34 := rfl
theorem T35 : T 35 = some fn35 := rfl
theorem T36 : T 36 = some fn36 := rfl
theorem T37 : T 37 = some fn37 := rfl
theorem T38 : T 38 = some fn38 := rfl
theorem T39 : T 39 = some fn39 := rfl
theorem T45 : T 45 = some fn45 := rfl
theorem T46 : T 46 = some fn46 := rfl
theorem T47 : T 47 = some fn47 := rfl
theorem T48 : T 48 = some fn48 := rfl
theorem T49 : T 49 = some fn49 := rfl
theorem T50 : T 50 = some fn50 := rfl
theorem T51 : T 51 = some fn51 := rfl
theorem T52 : T 52 = some fn52 := rfl
theorem T53 : T 53 = some fn53 := rfl
theorem T54 : T 54 = some fn54 := rfl
theorem T55 : T 55 = some fn55 := rfl
theorem T56 : T 56 = some fn56 := rfl
theorem T57 : T 57 = some fn57 := rfl
theorem T59 : T 59 = some fn59 := rfl
theorem T61 : T 61 = some fn61 := rfl
theorem T62 : T 62 = some fn62 := rfl
theorem T64 : T 64 = some fn64 := rfl
theorem T67 : T 67 = some fn67 := rfl
theorem T70 : T 70 = some fn70 := rfl
theorem T71 : T 71 = some fn71 := rfl
theorem T72 : T 72 = some fn72 := rfl
theorem T78 : T 78 = some fn78 := rfl
theorem T80 : T 80 = some fn80 := rfl
theorem T82 : T 82 = some fn82 := rfl
theorem T84 : T 84 = some fn84 := rfl
theorem T89 : T 89 = some fn89 := rfl
theorem T90 : T 90 = some fn90 := rfl
theorem T92 : T 92 = some fn92 := rfl
theorem T93 : T 93 = some fn93 := rfl
theorem T97 : T 97 = some fn97 := rfl
theorem T99 : T 99 = some fn99 := rfl
theorem T100 : T 100 = some fn100 := rfl
theorem tabOk {Gd : Ground} (hg : GroundOk Gd) (he : ∀ f n k, Te f = some (n, k) → ExtOk Gd Tryd.prog f k) : TabOk Gd Tryd.prog T := by
  refine ⟨hg, fun f hfn h => ?_⟩
  unfold T at h
  rcases bif2_or h with ⟨_, h⟩ | ⟨_, h⟩
  · rcases bif2_or h with ⟨_, h⟩ | ⟨_, h⟩
    · rcases bif2_or h with ⟨_, h⟩ | ⟨_, h⟩
      · rcases bif2_or h with ⟨_, h⟩ | ⟨_, h⟩
        · rcases bif2_or h with ⟨_, h⟩ | ⟨_, h⟩
          · obtain ⟨hb, h⟩ := bif2_some h
            cases h
            rw [Nat.eq_of_beq_eq_true hb]
            exact .inl ⟨fun k hk => (by cases hk), Hs 6, c6⟩
          · rcases bif2_or h with ⟨_, h⟩ | ⟨_, h⟩
            · obtain ⟨hb, h⟩ := bif2_some h
              cases h
              rw [Nat.eq_of_beq_eq_true hb]
              exact .inl ⟨fun k hk => (by cases hk), Hs 7, c7⟩
            · obtain ⟨hb, h⟩ := bif2_some h
              cases h
              rw [Nat.eq_of_beq_eq_true hb]
              exact .inl ⟨fun k hk => (by cases hk), Hs 9, c9⟩
        · rcases bif2_or h with ⟨_, h⟩ | ⟨_, h⟩
          · obtain ⟨hb, h⟩ := bif2_some h
            cases h
            rw [Nat.eq_of_beq_eq_true hb]
            exact .inl ⟨fun k hk => (by cases hk), Hs 12, c12⟩
          · rcases bif2_or h with ⟨_, h⟩ | ⟨_, h⟩
            · obtain ⟨hb, h⟩ := bif2_some h
              cases h
              rw [Nat.eq_of_beq_eq_true hb]
              exact .inl ⟨fun k hk => (by cases hk), Hs 14, c14⟩
            · obtain ⟨hb, h⟩ := bif2_some h
              cases h
              rw [Nat.eq_of_beq_eq_true hb]
              exact .inl ⟨fun k hk => (by cases hk), Hs 16, c16⟩
      · rcases bif2_or h with ⟨_, h⟩ | ⟨_, h⟩
        · rcases bif2_or h with ⟨_, h⟩ | ⟨_, h⟩
          · obtain ⟨hb, h⟩ := bif2_some h
            cases h
            rw [Nat.eq_of_beq_eq_true hb]
            exact .inl ⟨fun k hk => (by cases hk), Hs 17, c17⟩
          · rcases bif2_or h with ⟨_, h⟩ | ⟨_, h⟩
            · obtain ⟨hb, h⟩ := bif2_some h
              cases h
              rw [Nat.eq_of_beq_eq_true hb]
              exact .inl ⟨fun k hk => (by cases hk), Hs 18, c18⟩
            · obtain ⟨hb, h⟩ := bif2_some h
              cases h
              rw [Nat.eq_of_beq_eq_true hb]
              exact .inl ⟨fun k hk => (by cases hk), Hs 27, c27⟩
        · rcases bif2_or h with ⟨_, h⟩ | ⟨_, h⟩
          · rcases bif2_or h with ⟨_, h⟩ | ⟨_, h⟩
            · obtain ⟨hb, h⟩ := bif2_some h
              cases h
              rw [Nat.eq_of_beq_eq_true hb]
              exact .inl ⟨fun k hk => (by cases hk), Hs 28, c28⟩
            · obtain ⟨hb, h⟩ := bif2_some h
              cases h
              rw [Nat.eq_of_beq_eq_true hb]
              exact .inl ⟨fun k hk => (by cases hk), Hs 29, c29⟩
          · rcases bif2_or h with ⟨_, h⟩ | ⟨_, h⟩
            · obtain ⟨hb, h⟩ := bif2_some h
              cases h
              rw [Nat.eq_of_beq_eq_true hb]
              exact .inl ⟨fun k hk => (by cases hk), Hs 30, c30⟩
            · obtain ⟨hb, h⟩ := bif2_some h
              cases h
              rw [Nat.eq_of_beq_eq_true hb]
              exact .inr ⟨0, rfl, he 31 _ _ rfl⟩
    · rcases bif2_or h with ⟨_, h⟩ | ⟨_, h⟩
      · rcases bif2_or h with ⟨_, h⟩ | ⟨_, h⟩
        · rcases bif2_or h with ⟨_, h⟩ | ⟨_, h⟩
          · obtain ⟨hb, h⟩ := bif2_some h
            cases h
            rw [Nat.eq_of_beq_eq_true hb]
            exact .inl ⟨fun k hk => (by cases hk), Hs 32, c32⟩
          · rcases bif2_or h with ⟨_, h⟩ | ⟨_, h⟩
            · obtain ⟨hb, h⟩ := bif2_some h
              cases h
              rw [Nat.eq_of_beq_eq_true hb]
              exact .inl ⟨fun k hk => (by cases hk), Hs 33, c33⟩
            · obtain ⟨hb, h⟩ := bif2_some h
              cases h
              rw [Nat.eq_of_beq_eq_true hb]
              exact .inl ⟨fun k hk => (by cases hk), Hs 34, c34⟩
        · rcases bif2_or h with ⟨_, h⟩ | ⟨_, h⟩
          · obtain ⟨hb, h⟩ := bif2_some h
            cases h
            rw [Nat.eq_of_beq_eq_true hb]
            exact .inl ⟨fun k hk => (by cases hk), Hs 35, c35⟩
          · rcases bif2_or h with ⟨_, h⟩ | ⟨_, h⟩
            · obtain ⟨hb, h⟩ := bif2_some h
              cases h
              rw [Nat.eq_of_beq_eq_true hb]
              exact .inl ⟨fun k hk => (by cases hk), Hs 36, c36⟩
            · obtain ⟨hb, h⟩ := bif2_some h
              cases h
              rw [Nat.eq_of_beq_eq_true hb]
              exact .inl ⟨fun k hk => (by cases hk), Hs 37, c37⟩
      · rcases bif2_or h with ⟨_, h⟩ | ⟨_, h⟩
        · rcases bif2_or h with ⟨_, h⟩ | ⟨_, h⟩
          · obtain ⟨hb, h⟩ := bif2_some h
            cases h
            rw [Nat.eq_of_beq_eq_true hb]
            exact .inl ⟨fun k hk => (by cases hk), Hs 38, c38⟩
          · rcases bif2_or h with ⟨_, h⟩ | ⟨_, h⟩
            · obtain ⟨hb, h⟩ := bif2_some h
              cases h
              rw [Nat.eq_of_beq_eq_true hb]
              exact .inl ⟨fun k hk => (by cases hk), Hs 39, c39⟩
            · obtain ⟨hb, h⟩ := bif2_some h
              cases h
              rw [Nat.eq_of_beq_eq_true hb]
              exact .inl ⟨fun k hk => (by cases hk), Hs 45, c45⟩
        · rcases bif2_or h with ⟨_, h⟩ | ⟨_, h⟩
          · rcases bif2_or h with ⟨_, h⟩ | ⟨_, h⟩
            · obtain ⟨hb, h⟩ := bif2_some h
              cases h
              rw [Nat.eq_of_beq_eq_true hb]
              exact .inl ⟨fun k hk => (by cases hk), Hs 46, c46⟩
            · obtain ⟨hb, h⟩ := bif2_some h
              cases h
              rw [Nat.eq_of_beq_eq_true hb]
              exact .inl ⟨fun k hk => (by cases hk), Hs 47, c47⟩
          · rcases bif2_or h with ⟨_, h⟩ | ⟨_, h⟩
            · obtain ⟨hb, h⟩ := bif2_some h
              cases h
              rw [Nat.eq_of_beq_eq_true hb]
              exact .inl ⟨fun k hk => (by cases hk), Hs 48, c48⟩
            · obtain ⟨hb, h⟩ := bif2_some h
              cases h
              rw [Nat.eq_of_beq_eq_true hb]
              exact .inl ⟨fun k hk => (by cases hk), Hs 49, c49⟩
  · rcases bif2_or h with ⟨_, h⟩ | ⟨_, h⟩
    · rcases bif2_or h with ⟨_, h⟩ | ⟨_, h⟩
      · rcases bif2_or h with ⟨_, h⟩ | ⟨_, h⟩
        · rcases bif2_or h with ⟨_, h⟩ | ⟨_, h⟩
          · obtain ⟨hb, h⟩ := bif2_some h
            cases h
            rw [Nat.eq_of_beq_eq_true hb]
            exact .inr ⟨11, rfl, he 50 _ _ rfl⟩
          · rcases bif2_or h with ⟨_, h⟩ | ⟨_, h⟩
            · obtain ⟨hb, h⟩ := bif2_some h
              cases h
              rw [Nat.eq_of_beq_eq_true hb]
              exact .inr ⟨12, rfl, he 51 _ _ rfl⟩
            · obtain ⟨hb, h⟩ := bif2_some h
              cases h
              rw [Nat.eq_of_beq_eq_true hb]
              exact .inl ⟨fun k hk => (by cases hk), Hs 52, c52⟩
        · rcases bif2_or h with ⟨_, h⟩ | ⟨_, h⟩
          · obtain ⟨hb, h⟩ := bif2_some h
            cases h
            rw [Nat.eq_of_beq_eq_true hb]
            exact .inl ⟨fun k hk => (by cases hk), Hs 53, c53⟩
          · rcases bif2_or h with ⟨_, h⟩ | ⟨_, h⟩
            · obtain ⟨hb, h⟩ := bif2_some h
              cases h
              rw [Nat.eq_of_beq_eq_true hb]
              exact .inl ⟨fun k hk => (by cases hk), Hs 54, c54⟩
            · obtain ⟨hb, h⟩ := bif2_some h
              cases h
              rw [Nat.eq_of_beq_eq_true hb]
              exact .inl ⟨fun k hk => (by cases hk), Hs 55, c55⟩
      · rcases bif2_or h with ⟨_, h⟩ | ⟨_, h⟩
        · rcases bif2_or h with ⟨_, h⟩ | ⟨_, h⟩
          · obtain ⟨hb, h⟩ := bif2_some h
            cases h
            rw [Nat.eq_of_beq_eq_true hb]
            exact .inr ⟨10, rfl, he 56 _ _ rfl⟩
          · rcases bif2_or h with ⟨_, h⟩ | ⟨_, h⟩
            · obtain ⟨hb, h⟩ := bif2_some h
              cases h
              rw [Nat.eq_of_beq_eq_true hb]
              exact .inl ⟨fun k hk => (by cases hk), Hs 57, c57⟩
            · obtain ⟨hb, h⟩ := bif2_some h
              cases h
              rw [Nat.eq_of_beq_eq_true hb]
              exact .inl ⟨fun k hk => (by cases hk), Hs 59, c59⟩
        · rcases bif2_or h with ⟨_, h⟩ | ⟨_, h⟩
          · rcases bif2_or h with ⟨_, h⟩ | ⟨_, h⟩
            · obtain ⟨hb, h⟩ := bif2_some h
              cases h
              rw [Nat.eq_of_beq_eq_true hb]
              exact .inl ⟨fun k hk => (by cases hk), Hs 61, c61⟩
            · obtain ⟨hb, h⟩ := bif2_some h
              cases h
              rw [Nat.eq_of_beq_eq_true hb]
              exact .inl ⟨fun k hk => (by cases hk), Hs 62, c62⟩
          · rcases bif2_or h with ⟨_, h⟩ | ⟨_, h⟩
            · obtain ⟨hb, h⟩ := bif2_some h
              cases h
              rw [Nat.eq_of_beq_eq_true hb]
              exact .inl ⟨fun k hk => (by cases hk), Hs 64, c64⟩
            · obtain ⟨hb, h⟩ := bif2_some h
              cases h
              rw [Nat.eq_of_beq_eq_true hb]
              exact .inl ⟨fun k hk => (by cases hk), Hs 67, c67⟩
    · rcases bif2_or h with ⟨_, h⟩ | ⟨_, h⟩
      · rcases bif2_or h with ⟨_, h⟩ | ⟨_, h⟩
        · rcases bif2_or h with ⟨_, h⟩ | ⟨_, h⟩
          · obtain ⟨hb, h⟩ := bif2_some h
            cases h
            rw [Nat.eq_of_beq_eq_true hb]
            exact .inl ⟨fun k hk => (by cases hk), Hs 70, c70⟩
          · rcases bif2_or h with ⟨_, h⟩ | ⟨_, h⟩
            · obtain ⟨hb, h⟩ := bif2_some h
              cases h
              rw [Nat.eq_of_beq_eq_true hb]
              exact .inl ⟨fun k hk => (by cases hk), Hs 71, c71⟩
            · obtain ⟨hb, h⟩ := bif2_some h
              cases h
              rw [Nat.eq_of_beq_eq_true hb]
              exact .inl ⟨fun k hk => (by cases hk), Hs 72, c72⟩
        · rcases bif2_or h with ⟨_, h⟩ | ⟨_, h⟩
          · rcases bif2_or h with ⟨_, h⟩ | ⟨_, h⟩
            · obtain ⟨hb, h⟩ := bif2_some h
              cases h
              rw [Nat.eq_of_beq_eq_true hb]
              exact .inl ⟨fun k hk => (by cases hk), Hs 78, c78⟩
            · obtain ⟨hb, h⟩ := bif2_some h
              cases h
              rw [Nat.eq_of_beq_eq_true hb]
              exact .inl ⟨fun k hk => (by cases hk), Hs 80, c80⟩
          · rcases bif2_or h with ⟨_, h⟩ | ⟨_, h⟩
            · obtain ⟨hb, h⟩ := bif2_some h
              cases h
              rw [Nat.eq_of_beq_eq_true hb]
              exact .inl ⟨fun k hk => (by cases hk), Hs 82, c82⟩
            · obtain ⟨hb, h⟩ := bif2_some h
              cases h
              rw [Nat.eq_of_beq_eq_true hb]
              exact .inl ⟨fun k hk => (by cases hk), Hs 84, c84⟩
      · rcases bif2_or h with ⟨_, h⟩ | ⟨_, h⟩
        · rcases bif2_or h with ⟨_, h⟩ | ⟨_, h⟩
          · obtain ⟨hb, h⟩ := bif2_some h
            cases h
            rw [Nat.eq_of_beq_eq_true hb]
            exact .inl ⟨fun k hk => (by cases hk), Hs 89, c89⟩
          · rcases bif2_or h with ⟨_, h⟩ | ⟨_, h⟩
            · obtain ⟨hb, h⟩ := bif2_some h
              cases h
              rw [Nat.eq_of_beq_eq_true hb]
              exact .inl ⟨fun k hk => (by cases hk), Hs 90, c90⟩
            · obtain ⟨hb, h⟩ := bif2_some h
              cases h
              rw [Nat.eq_of_beq_eq_true hb]
              exact .inl ⟨fun k hk => (by cases hk), Hs 92, c92⟩
        · rcases bif2_or h with ⟨_, h⟩ | ⟨_, h⟩
          · rcases bif2_or h with ⟨_, h⟩ | ⟨_, h⟩
            · obtain ⟨hb, h⟩ := bif2_some h
              cases h
              rw [Nat.eq_of_beq_eq_true hb]
              exact .inl ⟨fun k hk => (by cases hk), Hs 93, c93⟩
            · obtain ⟨hb, h⟩ := bif2_some h
              cases h
              rw [Nat.eq_of_beq_eq_true hb]
              exact .inl ⟨fun k hk => (by cases hk), Hs 97, c97⟩
          · rcases bif2_or h with ⟨_, h⟩ | ⟨_, h⟩
            · obtain ⟨hb, h⟩ := bif2_some h
              cases h
              rw [Nat.eq_of_beq_eq_true hb]
              exact .inl ⟨fun k hk => (by cases hk), Hs 99, c99⟩
            · obtain ⟨hb, h⟩ := bif2_some h
              cases h
              rw [Nat.eq_of_beq_eq_true hb]
              exact .inl ⟨fun k hk => (by cases hk), Hs 100, c100⟩
end Go.Proofs.YtbdebcmklaooaaaDoor.AM.Sc
