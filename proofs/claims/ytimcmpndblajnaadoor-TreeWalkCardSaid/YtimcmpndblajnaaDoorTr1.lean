/- The functions that TreeWalk reaches, each checked against the translation, part two; the table of them. -/
import Derived.Test.YtimcmpndblajnaaDoorTr1a
set_option maxRecDepth 1000000
set_option linter.unusedVariables false
set_option linter.unusedSimpArgs false
namespace Go.Proofs.YtimcmpndblajnaaDoor.AM.Tr
open Go.Proofs
/- strings.trimRightByte -/
@[simp] def r38_0 : List HOp := [⟨(some 4), true, .mv (.val (.tr (.sc (.string ⟨⟨[]⟩⟩)))), none⟩]
@[simp] def r38_1 : List HOp := [⟨(some 5), false, .mv (.env 0), none⟩,
         ⟨(some 6), false, .len 0 (.loc 5), none⟩,
         ⟨(some 7), false, .bin .other .gtr (.loc 6) (.val (.tr (.sc (.int .i64 0)))), none⟩,
         ⟨(some 8), false, .mv (.loc 7), none⟩,
         ⟨(some 9), false, .mv (.env 0), some ((.loc 8), true)⟩,
         ⟨(some 10), false, .mv (.env 0), some ((.loc 8), true)⟩,
         ⟨(some 11), false, .len 0 (.loc 10), some ((.loc 8), true)⟩,
         ⟨(some 12), false, .bin .other .sub (.loc 11) (.val (.tr (.sc (.int .i64 1)))), some ((.loc 8), true)⟩,
         ⟨(some 13), false, .istr (.loc 9) (.loc 12), some ((.loc 8), true)⟩,
         ⟨(some 14), false, .mv (.env 1), some ((.loc 8), true)⟩,
         ⟨(some 15), false, .bin .other .eql (.loc 13) (.loc 14), some ((.loc 8), true)⟩,
         ⟨(some 16), false, .pick (.loc 8) (.loc 15) (.val (.tr (.sc (.bool false)))), none⟩]
@[simp] def r38_2 : List HOp := [⟨(some 17), false, .mv (.env 0), none⟩,
        ⟨(some 18), false, .mv (.env 0), none⟩,
        ⟨(some 19), false, .len 0 (.loc 18), none⟩,
        ⟨(some 20), false, .bin .other .sub (.loc 19) (.val (.tr (.sc (.int .i64 1)))), none⟩,
        ⟨(some 21), false, .slicestr (.loc 17) none (some (.loc 20)), none⟩,
        ⟨(some 0), true, .mv (.loc 21), none⟩]
@[simp] def r38_3 : List HOp := [⟨(some 22), false, .mv (.env 0), none⟩,
     ⟨(some 4), true, .mv (.loc 22), none⟩]
@[simp] def k38_2 : HCode := .cond (.loc 16) .skip (.exit 0)
def k38_3 : HCode := .block 1 (.region r38_2 none)
def k38_1 : HCode := .seq (.seq (.region r38_1 none) k38_2) k38_3
def k38_4 : HCode := .seq (.region r38_3 none) .ret
@[simp] def k38_0 : HCode := .seq (.block 0 (.loop k38_1)) k38_4
@[simp] def fn38 : HFn := { nargs := 2, results := [.tmp 4], mode := .iso, code := (.seq (.region r38_0 none) k38_0) }
theorem c38 : cFn Tryd.prog (Hs 38) .iso 38 = some fn38 := by kernel_rfl
/- strings.trimRightASCII -/
@[simp] def r40_0 : List HOp := [⟨(some 4), true, .mv (.val (.tr (.sc (.string ⟨⟨[]⟩⟩)))), none⟩]
@[simp] def r40_1 : List HOp := [⟨(some 5), false, .mv (.env 0), none⟩,
         ⟨(some 6), false, .len 0 (.loc 5), none⟩,
         ⟨(some 7), false, .bin .other .gtr (.loc 6) (.val (.tr (.sc (.int .i64 0)))), none⟩]
@[simp] def r40_2 : List HOp := [⟨(some 8), false, .mv (.env 1), none⟩,
          ⟨(some 9), false, .mv (.env 0), none⟩,
          ⟨(some 10), false, .mv (.env 0), none⟩,
          ⟨(some 11), false, .len 0 (.loc 10), none⟩,
          ⟨(some 12), false, .bin .other .sub (.loc 11) (.val (.tr (.sc (.int .i64 1)))), none⟩,
          ⟨(some 13), false, .istr (.loc 9) (.loc 12), none⟩,
          ⟨(some 14), false, .callf 45 [(.loc 8), (.loc 13)], none⟩,
          ⟨(some 15), false, .un .not (.loc 14), none⟩]
@[simp] def r40_3 : List HOp := [⟨(some 16), false, .mv (.env 0), none⟩,
        ⟨(some 17), false, .mv (.env 0), none⟩,
        ⟨(some 18), false, .len 0 (.loc 17), none⟩,
        ⟨(some 19), false, .bin .other .sub (.loc 18) (.val (.tr (.sc (.int .i64 1)))), none⟩,
        ⟨(some 20), false, .slicestr (.loc 16) none (some (.loc 19)), none⟩,
        ⟨(some 0), true, .mv (.loc 20), none⟩]
@[simp] def r40_4 : List HOp := [⟨(some 21), false, .mv (.env 0), none⟩,
     ⟨(some 4), true, .mv (.loc 21), none⟩]
@[simp] def k40_2 : HCode := .cond (.loc 7) .skip (.exit 0)
@[simp] def k40_4 : HCode := .cond (.loc 15) (.exit 0) .skip
def k40_5 : HCode := .region r40_3 none
def k40_3 : HCode := .block 1 (.seq (.seq (.region r40_2 none) k40_4) k40_5)
def k40_1 : HCode := .seq (.seq (.region r40_1 none) k40_2) k40_3
def k40_6 : HCode := .seq (.region r40_4 none) .ret
@[simp] def k40_0 : HCode := .seq (.block 0 (.loop k40_1)) k40_6
@[simp] def fn40 : HFn := { nargs := 2, results := [.tmp 4], mode := .iso, code := (.seq (.region r40_0 none) k40_0) }
theorem c40 : cFn Tryd.prog (Hs 40) .iso 40 = some fn40 := by kernel_rfl
/- strings.trimRightUnicode -/
@[simp] def r41_0 : List HOp := [⟨(some 4), true, .mv (.val (.tr (.sc (.string ⟨⟨[]⟩⟩)))), none⟩]
@[simp] def r41_1 : List HOp := [⟨(some 7), false, .mv (.env 0), none⟩,
         ⟨(some 8), false, .len 0 (.loc 7), none⟩,
         ⟨(some 9), false, .bin .other .gtr (.loc 8) (.val (.tr (.sc (.int .i64 0)))), none⟩]
@[simp] def r41_2 : List HOp := [⟨(some 10), false, .mv (.env 0), none⟩,
         ⟨(some 11), false, .mv (.env 0), none⟩,
         ⟨(some 12), false, .len 0 (.loc 11), none⟩,
         ⟨(some 13), false, .bin .other .sub (.loc 12) (.val (.tr (.sc (.int .i64 1)))), none⟩,
         ⟨(some 14), false, .istr (.loc 10) (.loc 13), none⟩,
         ⟨(some 15), false, .conv (.toInt .i32) (.loc 14), none⟩,
         ⟨(some 5), true, .mv (.loc 15), none⟩,
         ⟨(some 6), true, .mv (.val (.tr (.sc (.int .i64 1)))), none⟩]
@[simp] def r41_3 : List HOp := [⟨(some 16), false, .mv (.env 5), none⟩,
          ⟨(some 17), false, .bin .other .geq (.loc 16) (.val (.tr (.sc (.int .i32 128)))), none⟩]
@[simp] def r41_4 : List HOp := [⟨(some 19), false, .mv (.env 0), none⟩,
          ⟨(some 20), false, .callf 46 [(.loc 19)], none⟩,
          ⟨(some 18), false, .mv (.loc 20), none⟩,
          ⟨(some 21), false, .extract (.loc 18) 0, none⟩,
          ⟨(some 22), false, .extract (.loc 18) 1, none⟩,
          ⟨(some 5), true, .mv (.loc 21), none⟩,
          ⟨(some 6), true, .mv (.loc 22), none⟩]
@[simp] def r41_5 : List HOp := [⟨(some 23), false, .mv (.env 1), none⟩,
          ⟨(some 24), false, .mv (.env 5), none⟩,
          ⟨(some 25), false, .callf 47 [(.loc 23), (.loc 24)], none⟩,
          ⟨(some 26), false, .un .not (.loc 25), none⟩]
@[simp] def r41_6 : List HOp := [⟨(some 27), false, .mv (.env 0), none⟩,
        ⟨(some 28), false, .mv (.env 0), none⟩,
        ⟨(some 29), false, .len 0 (.loc 28), none⟩,
        ⟨(some 30), false, .mv (.env 6), none⟩,
        ⟨(some 31), false, .bin .other .sub (.loc 29) (.loc 30), none⟩,
        ⟨(some 32), false, .slicestr (.loc 27) none (some (.loc 31)), none⟩,
        ⟨(some 0), true, .mv (.loc 32), none⟩]
@[simp] def r41_7 : List HOp := [⟨(some 33), false, .mv (.env 0), none⟩,
     ⟨(some 4), true, .mv (.loc 33), none⟩]
@[simp] def k41_2 : HCode := .cond (.loc 9) .skip (.exit 0)
@[simp] def k41_5 : HCode := .cond (.loc 17) (.region r41_4 none) .skip
@[simp] def k41_7 : HCode := .cond (.loc 26) (.exit 0) .skip
def k41_8 : HCode := .region r41_6 none
def k41_6 : HCode := .seq (.seq (.region r41_5 none) k41_7) k41_8
@[simp] def k41_4 : HCode := .seq (.seq (.region r41_3 none) k41_5) k41_6
def k41_3 : HCode := .block 1 (.seq (.region r41_2 none) k41_4)
def k41_1 : HCode := .seq (.seq (.region r41_1 none) k41_2) k41_3
def k41_9 : HCode := .seq (.region r41_7 none) .ret
@[simp] def k41_0 : HCode := .seq (.block 0 (.loop k41_1)) k41_9
@[simp] def fn41 : HFn := { nargs := 2, results := [.tmp 4], mode := .iso, code := (.seq (.region r41_0 none) k41_0) }
theorem c41 : cFn Tryd.prog (Hs 41) .iso 41 = some fn41 := by kernel_rfl
/- unicode/utf8.DecodeLastRuneInString -/
@[simp] def r46_0 : List HOp := [⟨(some 2), true, .mv (.val (.tr (.sc (.int .i32 0)))), none⟩,
     ⟨(some 3), true, .mv (.val (.tr (.sc (.int .i64 0)))), none⟩]
@[simp] def r46_1 : List HOp := [⟨(some 7), false, .mv (.env 0), none⟩,
     ⟨(some 8), false, .len 0 (.loc 7), none⟩,
     ⟨(some 4), true, .mv (.loc 8), none⟩]
@[simp] def r46_2 : List HOp := [⟨(some 9), false, .mv (.env 4), none⟩,
      ⟨(some 10), false, .bin .other .eql (.loc 9) (.val (.tr (.sc (.int .i64 0)))), none⟩]
@[simp] def r46_3 : List HOp := [⟨(some 2), true, .mv (.val (.tr (.sc (.int .i32 65533)))), none⟩,
       ⟨(some 3), true, .mv (.val (.tr (.sc (.int .i64 0)))), none⟩]
@[simp] def r46_4 : List HOp := [⟨(some 11), false, .mv (.env 4), none⟩,
     ⟨(some 12), false, .bin .other .sub (.loc 11) (.val (.tr (.sc (.int .i64 1)))), none⟩,
     ⟨(some 5), true, .mv (.loc 12), none⟩]
@[simp] def r46_5 : List HOp := [⟨(some 13), false, .mv (.env 0), none⟩,
     ⟨(some 14), false, .mv (.env 5), none⟩,
     ⟨(some 15), false, .istr (.loc 13) (.loc 14), none⟩,
     ⟨(some 16), false, .conv (.toInt .i32) (.loc 15), none⟩,
     ⟨(some 2), true, .mv (.loc 16), none⟩]
@[simp] def r46_6 : List HOp := [⟨(some 17), false, .mv (.env 2), none⟩,
      ⟨(some 18), false, .bin .other .lss (.loc 17) (.val (.tr (.sc (.int .i32 128)))), none⟩]
@[simp] def r46_7 : List HOp := [⟨(some 19), false, .mv (.env 2), none⟩,
       ⟨(some 2), true, .mv (.loc 19), none⟩,
       ⟨(some 3), true, .mv (.val (.tr (.sc (.int .i64 1)))), none⟩]
@[simp] def r46_8 : List HOp := [⟨(some 20), false, .mv (.env 4), none⟩,
     ⟨(some 21), false, .bin .other .sub (.loc 20) (.val (.tr (.sc (.int .i64 4)))), none⟩,
     ⟨(some 22), false, .minmax true (.loc 21) [(.val (.tr (.sc (.int .i64 0))))], none⟩,
     ⟨(some 6), true, .mv (.loc 22), none⟩]
@[simp] def r46_9 : List HOp := [⟨(some 23), false, .mv (.env 5), none⟩,
      ⟨(some 24), false, .bin .other .sub (.loc 23) (.val (.tr (.sc (.int .i64 1)))), none⟩,
      ⟨(some 5), true, .mv (.loc 24), none⟩]
@[simp] def r46_10 : List HOp := [⟨(some 25), false, .mv (.env 5), none⟩,
         ⟨(some 26), false, .mv (.env 6), none⟩,
         ⟨(some 27), false, .bin .other .geq (.loc 25) (.loc 26), none⟩]
@[simp] def r46_11 : List HOp := [⟨(some 30), false, .mv (.env 0), none⟩,
          ⟨(some 31), false, .mv (.env 5), none⟩,
          ⟨(some 32), false, .istr (.loc 30) (.loc 31), none⟩,
          ⟨(some 33), false, .callf 50 [(.loc 32)], none⟩]
@[simp] def r46_12 : List HOp := [⟨(some 28), false, .mv (.env 5), none⟩,
       ⟨(some 29), false, .bin .other .sub (.loc 28) (.val (.tr (.sc (.int .i64 1)))), none⟩,
       ⟨(some 5), true, .mv (.loc 29), none⟩]
@[simp] def r46_13 : List HOp := [⟨(some 34), false, .mv (.env 5), none⟩,
      ⟨(some 35), false, .bin .other .lss (.loc 34) (.val (.tr (.sc (.int .i64 0)))), none⟩]
@[simp] def r46_14 : List HOp := [⟨(some 5), true, .mv (.val (.tr (.sc (.int .i64 0)))), none⟩]
@[simp] def r46_15 : List HOp := [⟨(some 37), false, .mv (.env 0), none⟩,
     ⟨(some 38), false, .mv (.env 5), none⟩,
     ⟨(some 39), false, .mv (.env 4), none⟩,
     ⟨(some 40), false, .slicestr (.loc 37) (some (.loc 38)) (some (.loc 39)), none⟩,
     ⟨(some 41), false, .callf 51 [(.loc 40)], none⟩,
     ⟨(some 36), false, .mv (.loc 41), none⟩,
     ⟨(some 42), false, .extract (.loc 36) 0, none⟩,
     ⟨(some 43), false, .extract (.loc 36) 1, none⟩,
     ⟨(some 2), true, .mv (.loc 42), none⟩,
     ⟨(some 3), true, .mv (.loc 43), none⟩]
@[simp] def r46_16 : List HOp := [⟨(some 44), false, .mv (.env 5), none⟩,
      ⟨(some 45), false, .mv (.env 3), none⟩,
      ⟨(some 46), false, .bin .other .add (.loc 44) (.loc 45), none⟩,
      ⟨(some 47), false, .mv (.env 4), none⟩,
      ⟨(some 48), false, .bin .other .neq (.loc 46) (.loc 47), none⟩]
@[simp] def r46_17 : List HOp := [⟨(some 2), true, .mv (.val (.tr (.sc (.int .i32 65533)))), none⟩,
       ⟨(some 3), true, .mv (.val (.tr (.sc (.int .i64 1)))), none⟩]
@[simp] def r46_18 : List HOp := [⟨(some 49), false, .mv (.env 2), none⟩,
     ⟨(some 50), false, .mv (.env 3), none⟩,
     ⟨(some 2), true, .mv (.loc 49), none⟩,
     ⟨(some 3), true, .mv (.loc 50), none⟩]
@[simp] def k46_3 : HCode := .seq (.region r46_3 none) .ret
@[simp] def k46_2 : HCode := .cond (.loc 10) k46_3 .skip
@[simp] def k46_8 : HCode := .seq (.region r46_7 none) .ret
@[simp] def k46_7 : HCode := .cond (.loc 18) k46_8 .skip
@[simp] def k46_13 : HCode := .cond (.loc 27) .skip (.exit 0)
@[simp] def k46_15 : HCode := .cond (.loc 33) (.exit 0) .skip
def k46_16 : HCode := .region r46_12 none
def k46_14 : HCode := .seq (.block 1 (.seq (.region r46_11 none) k46_15)) k46_16
def k46_12 : HCode := .seq (.seq (.region r46_10 none) k46_13) k46_14
@[simp] def k46_11 : HCode := .block 0 (.loop k46_12)
@[simp] def k46_18 : HCode := .cond (.loc 35) (.region r46_14 none) .skip
@[simp] def k46_22 : HCode := .seq (.region r46_17 none) .ret
@[simp] def k46_21 : HCode := .cond (.loc 48) k46_22 .skip
def k46_23 : HCode := .seq (.region r46_18 none) .ret
@[simp] def k46_20 : HCode := .seq (.seq (.region r46_16 none) k46_21) k46_23
def k46_19 : HCode := .seq (.region r46_15 none) k46_20
def k46_17 : HCode := .seq (.seq (.region r46_13 none) k46_18) k46_19
@[simp] def k46_10 : HCode := .seq (.seq (.region r46_9 none) k46_11) k46_17
def k46_9 : HCode := .seq (.region r46_8 none) k46_10
@[simp] def k46_6 : HCode := .seq (.seq (.region r46_6 none) k46_7) k46_9
@[simp] def k46_5 : HCode := .seq (.region r46_5 none) k46_6
def k46_4 : HCode := .seq (.region r46_4 none) k46_5
@[simp] def k46_1 : HCode := .seq (.seq (.region r46_2 none) k46_2) k46_4
@[simp] def k46_0 : HCode := .seq (.region r46_1 none) k46_1
@[simp] def fn46 : HFn := { nargs := 1, results := [.tmp 2, .tmp 3], mode := .iso, code := (.seq (.region r46_0 none) k46_0) }
theorem c46 : cFn Tryd.prog (Hs 46) .iso 46 = some fn46 := by kernel_rfl
/- unicode/utf8.RuneStart -/
@[simp] def r50_0 : List HOp := [⟨(some 2), true, .mv (.val (.tr (.sc (.bool false)))), none⟩]
@[simp] def r50_1 : List HOp := [⟨(some 3), false, .mv (.env 0), none⟩,
     ⟨(some 4), false, .bin .other .and (.loc 3) (.val (.tr (.sc (.int .u8 192)))), none⟩,
     ⟨(some 5), false, .bin .other .neq (.loc 4) (.val (.tr (.sc (.int .u8 128)))), none⟩,
     ⟨(some 2), true, .mv (.loc 5), none⟩]
@[simp] def k50_0 : HCode := .seq (.region r50_1 none) .ret
@[simp] def fn50 : HFn := { nargs := 1, results := [.tmp 2], mode := .iso, code := (.seq (.region r50_0 none) k50_0) }
theorem c50 : cFn Tryd.prog (Hs 50) .iso 50 = some fn50 := by kernel_rfl
/- unicode/utf8.DecodeRuneInString -/
@[simp] def r51_0 : List HOp := [⟨(some 2), true, .mv (.val (.tr (.sc (.int .i32 0)))), none⟩,
     ⟨(some 3), true, .mv (.val (.tr (.sc (.int .i64 0)))), none⟩]
@[simp] def r51_1 : List HOp := [⟨(some 4), false, .mv (.env 0), none⟩,
      ⟨(some 5), false, .bin .other .neq (.loc 4) (.val (.tr (.sc (.string ⟨⟨[]⟩⟩)))), none⟩,
      ⟨(some 6), false, .mv (.loc 5), none⟩,
      ⟨(some 7), false, .mv (.env 0), some ((.loc 6), true)⟩,
      ⟨(some 8), false, .istr (.loc 7) (.val (.tr (.sc (.int .i64 0)))), some ((.loc 6), true)⟩,
      ⟨(some 9), false, .bin .other .lss (.loc 8) (.val (.tr (.sc (.int .u8 128)))), some ((.loc 6), true)⟩,
      ⟨(some 10), false, .pick (.loc 6) (.loc 9) (.val (.tr (.sc (.bool false)))), none⟩]
@[simp] def r51_2 : List HOp := [⟨(some 11), false, .mv (.env 0), none⟩,
       ⟨(some 12), false, .istr (.loc 11) (.val (.tr (.sc (.int .i64 0)))), none⟩,
       ⟨(some 13), false, .conv (.toInt .i32) (.loc 12), none⟩,
       ⟨(some 2), true, .mv (.loc 13), none⟩,
       ⟨(some 3), true, .mv (.val (.tr (.sc (.int .i64 1)))), none⟩]
@[simp] def r51_3 : List HOp := [⟨(some 15), false, .mv (.env 0), none⟩,
      ⟨(some 16), false, .callf 55 [(.loc 15)], none⟩,
      ⟨(some 14), false, .mv (.loc 16), none⟩,
      ⟨(some 17), false, .extract (.loc 14) 0, none⟩,
      ⟨(some 18), false, .extract (.loc 14) 1, none⟩,
      ⟨(some 2), true, .mv (.loc 17), none⟩,
      ⟨(some 3), true, .mv (.loc 18), none⟩]
@[simp] def k51_2 : HCode := .seq (.region r51_2 none) .ret
@[simp] def k51_1 : HCode := .cond (.loc 10) k51_2 (.region r51_3 none)
@[simp] def k51_0 : HCode := .seq (.seq (.region r51_1 none) k51_1) .ret
@[simp] def fn51 : HFn := { nargs := 1, results := [.tmp 2, .tmp 3], mode := .iso, code := (.seq (.region r51_0 none) k51_0) }
theorem c51 : cFn Tryd.prog (Hs 51) .iso 51 = some fn51 := by kernel_rfl
/- strings.ContainsRune -/
@[simp] def r47_0 : List HOp := [⟨(some 4), true, .mv (.val (.tr (.sc (.bool false)))), none⟩]
@[simp] def r47_1 : List HOp := [⟨(some 5), false, .mv (.env 0), none⟩,
     ⟨(some 6), false, .mv (.env 1), none⟩,
     ⟨(some 7), false, .callf 52 [(.loc 5), (.loc 6)], none⟩,
     ⟨(some 8), false, .bin .other .geq (.loc 7) (.val (.tr (.sc (.int .i64 0)))), none⟩,
     ⟨(some 4), true, .mv (.loc 8), none⟩]
@[simp] def k47_0 : HCode := .seq (.region r47_1 none) .ret
@[simp] def fn47 : HFn := { nargs := 2, results := [.tmp 4], mode := .iso, code := (.seq (.region r47_0 none) k47_0) }
theorem c47 : cFn Tryd.prog (Hs 47) .iso 47 = some fn47 := by kernel_rfl
/- strings.IndexByte -/
@[simp] def r56_0 : List HOp := [⟨(some 4), true, .mv (.val (.tr (.sc (.int .i64 0)))), none⟩]
@[simp] def r56_1 : List HOp := [⟨(some 5), false, .mv (.env 0), none⟩,
     ⟨(some 6), false, .mv (.env 1), none⟩,
     ⟨(some 7), false, .callf 60 [(.loc 5), (.loc 6)], none⟩,
     ⟨(some 4), true, .mv (.loc 7), none⟩]
@[simp] def k56_0 : HCode := .seq (.region r56_1 none) .ret
@[simp] def fn56 : HFn := { nargs := 2, results := [.tmp 4], mode := .iso, code := (.seq (.region r56_0 none) k56_0) }
theorem c56 : cFn Tryd.prog (Hs 56) .iso 56 = some fn56 := by kernel_rfl
/- internal/stringslite.IndexByte -/
@[simp] def r60_0 : List HOp := [⟨(some 4), true, .mv (.val (.tr (.sc (.int .i64 0)))), none⟩]
@[simp] def r60_1 : List HOp := [⟨(some 5), false, .mv (.env 0), none⟩,
     ⟨(some 6), false, .mv (.env 1), none⟩,
     ⟨(some 7), false, .callf 61 [(.loc 5), (.loc 6)], none⟩,
     ⟨(some 4), true, .mv (.loc 7), none⟩]
@[simp] def k60_0 : HCode := .seq (.region r60_1 none) .ret
@[simp] def fn60 : HFn := { nargs := 2, results := [.tmp 4], mode := .iso, code := (.seq (.region r60_0 none) k60_0) }
theorem c60 : cFn Tryd.prog (Hs 60) .iso 60 = some fn60 := by kernel_rfl
/- unicode/utf8.ValidRune -/
@[simp] def r57_0 : List HOp := [⟨(some 2), true, .mv (.val (.tr (.sc (.bool false)))), none⟩]
@[simp] def r57_1 : List HOp := [⟨(some 4), false, .mv (.env 0), none⟩,
       ⟨(some 5), false, .bin .other .leq (.val (.tr (.sc (.int .i32 0)))) (.loc 4), none⟩,
       ⟨(some 6), false, .mv (.loc 5), none⟩,
       ⟨(some 7), false, .mv (.env 0), some ((.loc 6), true)⟩,
       ⟨(some 8), false, .bin .other .lss (.loc 7) (.val (.tr (.sc (.int .i32 55296)))), some ((.loc 6), true)⟩,
       ⟨(some 9), false, .pick (.loc 6) (.loc 8) (.val (.tr (.sc (.bool false)))), none⟩,
       ⟨(some 3), false, .mv (.loc 9), none⟩]
@[simp] def r57_2 : List HOp := [⟨(some 2), true, .mv (.val (.tr (.sc (.bool true)))), none⟩]
@[simp] def r57_3 : List HOp := [⟨(some 11), false, .mv (.env 0), none⟩,
        ⟨(some 12), false, .bin .other .lss (.val (.tr (.sc (.int .i32 57343)))) (.loc 11), none⟩,
        ⟨(some 13), false, .mv (.loc 12), none⟩,
        ⟨(some 14), false, .mv (.env 0), some ((.loc 13), true)⟩,
        ⟨(some 15), false, .bin .other .leq (.loc 14) (.val (.tr (.sc (.int .i32 1114111)))), some ((.loc 13), true)⟩,
        ⟨(some 16), false, .pick (.loc 13) (.loc 15) (.val (.tr (.sc (.bool false)))), none⟩,
        ⟨(some 10), false, .mv (.loc 16), none⟩]
@[simp] def r57_4 : List HOp := [⟨(some 2), true, .mv (.val (.tr (.sc (.bool true)))), none⟩]
@[simp] def r57_5 : List HOp := [⟨(some 2), true, .mv (.val (.tr (.sc (.bool false)))), none⟩]
@[simp] def k57_2 : HCode := .seq (.region r57_2 none) .ret
@[simp] def k57_5 : HCode := .seq (.region r57_4 none) .ret
@[simp] def k57_4 : HCode := .cond (.loc 10) k57_5 .skip
@[simp] def k57_3 : HCode := .seq (.region r57_3 none) k57_4
@[simp] def k57_1 : HCode := .cond (.loc 3) k57_2 k57_3
def k57_6 : HCode := .seq (.region r57_5 none) .ret
@[simp] def k57_0 : HCode := .seq (.block 0 (.seq (.region r57_1 none) k57_1)) k57_6
@[simp] def fn57 : HFn := { nargs := 1, results := [.tmp 2], mode := .iso, code := (.seq (.region r57_0 none) k57_0) }
theorem c57 : cFn Tryd.prog (Hs 57) .iso 57 = some fn57 := by kernel_rfl
/- sterling/syntax.compound -/
@[simp] def r23_0 : List HOp := [⟨(some 1), true, .box true (.env 0), none⟩,
     ⟨(some 2), true, .mv (.val (.tr (.sc (.string ⟨⟨[]⟩⟩)))), none⟩]
@[simp] def r23_1 : List HOp := [⟨(some 8), false, .faddr 0 (.env 1), none⟩,
      ⟨(some 9), true, .load 1 false (.loc 8), none⟩]
@[simp] def r23_2 : List HOp := [⟨(some 11), false, .bin .other .eql (.env 9) (.val (.tr (.sc (.int .i64 37)))), none⟩,
       ⟨(some 10), false, .mv (.loc 11), none⟩]
@[simp] def r23_3 : List HOp := [⟨(some 12), false, .ldt 4 true (.env 1), none⟩,
        ⟨(some 13), false, .callf 35 [(.loc 12), (.val (.tr (.sc (.int .i64 0)))), (.val (.tr (.sc (.string ⟨⟨[59, 32]⟩⟩))))], none⟩,
        ⟨(some 14), false, .bin .other .add (.val (.tr (.sc (.string ⟨⟨[105, 102, 32]⟩⟩)))) (.loc 13), none⟩,
        ⟨(some 15), false, .ldt 4 true (.env 1), none⟩,
        ⟨(some 16), false, .callf 25 [(.loc 15), (.val (.tr (.sc (.int .i64 1))))], none⟩,
        ⟨(some 17), false, .callf 17 [(.loc 16)], none⟩,
        ⟨(some 18), false, .bin .other .add (.loc 14) (.loc 17), none⟩,
        ⟨(some 19), false, .bin .other .add (.loc 18) (.val (.tr (.sc (.string ⟨⟨[32]⟩⟩)))), none⟩,
        ⟨(some 20), false, .ldt 4 true (.env 1), none⟩,
        ⟨(some 21), false, .callf 25 [(.loc 20), (.val (.tr (.sc (.int .i64 2))))], none⟩,
        ⟨(some 22), false, .callf 17 [(.loc 21)], none⟩,
        ⟨(some 23), false, .bin .other .add (.loc 19) (.loc 22), none⟩,
        ⟨(some 24), false, .ldt 4 true (.env 1), none⟩,
        ⟨(some 25), false, .callf 31 [(.val (.tr (.sc (.string ⟨⟨[32, 101, 108, 115, 101, 32]⟩⟩)))), (.loc 24), (.val (.tr (.sc (.int .i64 3))))], none⟩,
        ⟨(some 26), false, .bin .other .add (.loc 23) (.loc 25), none⟩,
        ⟨(some 2), true, .mv (.loc 26), none⟩]
@[simp] def r23_4 : List HOp := [⟨(some 28), false, .bin .other .eql (.env 9) (.val (.tr (.sc (.int .i64 38)))), none⟩,
        ⟨(some 27), false, .mv (.loc 28), none⟩]
@[simp] def r23_5 : List HOp := [⟨(some 29), false, .load 4 true (.env 1), none⟩,
          ⟨(some 30), false, .callf 33 [(.loc 29), (.val (.tr (.sc (.int .i64 0))))], none⟩,
          ⟨(some 31), false, .un .not (.loc 30), none⟩,
          ⟨(some 32), false, .mv (.loc 31), none⟩,
          ⟨(some 33), false, .load 4 true (.env 1), some ((.loc 32), true)⟩,
          ⟨(some 34), false, .callf 33 [(.loc 33), (.val (.tr (.sc (.int .i64 2))))], some ((.loc 32), true)⟩,
          ⟨(some 35), false, .un .not (.loc 34), some ((.loc 32), true)⟩,
          ⟨(some 36), false, .pick (.loc 32) (.loc 35) (.val (.tr (.sc (.bool false)))), none⟩]
@[simp] def r23_6 : List HOp := [⟨(some 37), false, .ldt 4 true (.env 1), none⟩,
           ⟨(some 38), false, .callf 35 [(.loc 37), (.val (.tr (.sc (.int .i64 1)))), (.val (.tr (.sc (.string ⟨⟨[32]⟩⟩))))], none⟩,
           ⟨(some 39), false, .bin .other .add (.val (.tr (.sc (.string ⟨⟨[102, 111, 114, 32]⟩⟩)))) (.loc 38), none⟩,
           ⟨(some 40), false, .ldt 4 true (.env 1), none⟩,
           ⟨(some 41), false, .callf 25 [(.loc 40), (.val (.tr (.sc (.int .i64 3))))], none⟩,
           ⟨(some 42), false, .callf 17 [(.loc 41)], none⟩,
           ⟨(some 43), false, .bin .other .add (.loc 39) (.loc 42), none⟩,
           ⟨(some 2), true, .mv (.loc 43), none⟩]
@[simp] def r23_7 : List HOp := [⟨(some 44), false, .ldt 4 true (.env 1), none⟩,
         ⟨(some 45), false, .callf 35 [(.loc 44), (.val (.tr (.sc (.int .i64 0)))), (.val (.tr (.sc (.string ⟨⟨[]⟩⟩))))], none⟩,
         ⟨(some 46), false, .bin .other .add (.val (.tr (.sc (.string ⟨⟨[102, 111, 114, 32]⟩⟩)))) (.loc 45), none⟩,
         ⟨(some 47), false, .bin .other .add (.loc 46) (.val (.tr (.sc (.string ⟨⟨[59, 32]⟩⟩)))), none⟩,
         ⟨(some 48), false, .ldt 4 true (.env 1), none⟩,
         ⟨(some 49), false, .callf 35 [(.loc 48), (.val (.tr (.sc (.int .i64 1)))), (.val (.tr (.sc (.string ⟨⟨[]⟩⟩))))], none⟩,
         ⟨(some 50), false, .bin .other .add (.loc 47) (.loc 49), none⟩,
         ⟨(some 51), false, .bin .other .add (.loc 50) (.val (.tr (.sc (.string ⟨⟨[59, 32]⟩⟩)))), none⟩,
         ⟨(some 52), false, .ldt 4 true (.env 1), none⟩,
         ⟨(some 53), false, .callf 35 [(.loc 52), (.val (.tr (.sc (.int .i64 2)))), (.val (.tr (.sc (.string ⟨⟨[32]⟩⟩))))], none⟩,
         ⟨(some 54), false, .bin .other .add (.loc 51) (.loc 53), none⟩,
         ⟨(some 55), false, .ldt 4 true (.env 1), none⟩,
         ⟨(some 56), false, .callf 25 [(.loc 55), (.val (.tr (.sc (.int .i64 3))))], none⟩,
         ⟨(some 57), false, .callf 17 [(.loc 56)], none⟩,
         ⟨(some 58), false, .bin .other .add (.loc 54) (.loc 57), none⟩,
         ⟨(some 2), true, .mv (.loc 58), none⟩]
@[simp] def r23_8 : List HOp := [⟨(some 60), false, .bin .other .eql (.env 9) (.val (.tr (.sc (.int .i64 39)))), none⟩,
         ⟨(some 59), false, .mv (.loc 60), none⟩]
@[simp] def r23_9 : List HOp := [⟨(some 3), true, .mv (.val (.tr (.sc (.string ⟨⟨[]⟩⟩)))), none⟩]
@[simp] def r23_10 : List HOp := [⟨(some 61), false, .load 4 true (.env 1), none⟩,
           ⟨(some 62), false, .callf 33 [(.loc 61), (.val (.tr (.sc (.int .i64 0))))], none⟩]
@[simp] def r23_11 : List HOp := [⟨(some 63), false, .ldt 4 true (.env 1), none⟩,
           ⟨(some 64), false, .callf 25 [(.loc 63), (.val (.tr (.sc (.int .i64 0))))], none⟩,
           ⟨(some 65), false, .callf 17 [(.loc 64)], none⟩,
           ⟨(some 66), false, .ldt 4 true (.env 1), none⟩,
           ⟨(some 67), false, .callf 31 [(.val (.tr (.sc (.string ⟨⟨[44, 32]⟩⟩)))), (.loc 66), (.val (.tr (.sc (.int .i64 1))))], none⟩,
           ⟨(some 68), false, .bin .other .add (.loc 65) (.loc 67), none⟩,
           ⟨(some 69), false, .bin .other .add (.loc 68) (.val (.tr (.sc (.string ⟨⟨[32, 58, 61, 32]⟩⟩)))), none⟩,
           ⟨(some 3), true, .mv (.loc 69), none⟩]
@[simp] def r23_12 : List HOp := [⟨(some 70), false, .mv (.env 3), none⟩,
          ⟨(some 71), false, .bin .other .add (.val (.tr (.sc (.string ⟨⟨[102, 111, 114, 32]⟩⟩)))) (.loc 70), none⟩,
          ⟨(some 72), false, .bin .other .add (.loc 71) (.val (.tr (.sc (.string ⟨⟨[114, 97, 110, 103, 101, 32]⟩⟩)))), none⟩,
          ⟨(some 73), false, .ldt 4 true (.env 1), none⟩,
          ⟨(some 74), false, .callf 25 [(.loc 73), (.val (.tr (.sc (.int .i64 2))))], none⟩,
          ⟨(some 75), false, .callf 17 [(.loc 74)], none⟩,
          ⟨(some 76), false, .bin .other .add (.loc 72) (.loc 75), none⟩,
          ⟨(some 77), false, .bin .other .add (.loc 76) (.val (.tr (.sc (.string ⟨⟨[32]⟩⟩)))), none⟩,
          ⟨(some 78), false, .ldt 4 true (.env 1), none⟩,
          ⟨(some 79), false, .callf 25 [(.loc 78), (.val (.tr (.sc (.int .i64 3))))], none⟩,
          ⟨(some 80), false, .callf 17 [(.loc 79)], none⟩,
          ⟨(some 81), false, .bin .other .add (.loc 77) (.loc 80), none⟩,
          ⟨(some 2), true, .mv (.loc 81), none⟩]
@[simp] def r23_13 : List HOp := [⟨(some 83), false, .bin .other .eql (.env 9) (.val (.tr (.sc (.int .i64 40)))), none⟩,
          ⟨(some 82), false, .mv (.loc 83), none⟩]
@[simp] def r23_14 : List HOp := [⟨(some 84), false, .ldt 4 true (.env 1), none⟩,
           ⟨(some 85), false, .callf 35 [(.loc 84), (.val (.tr (.sc (.int .i64 0)))), (.val (.tr (.sc (.string ⟨⟨[59, 32]⟩⟩))))], none⟩,
           ⟨(some 86), false, .bin .other .add (.val (.tr (.sc (.string ⟨⟨[115, 119, 105, 116, 99, 104, 32]⟩⟩)))) (.loc 85), none⟩,
           ⟨(some 87), false, .ldt 4 true (.env 1), none⟩,
           ⟨(some 88), false, .callf 35 [(.loc 87), (.val (.tr (.sc (.int .i64 1)))), (.val (.tr (.sc (.string ⟨⟨[32]⟩⟩))))], none⟩,
           ⟨(some 89), false, .bin .other .add (.loc 86) (.loc 88), none⟩,
           ⟨(some 90), false, .ldt 4 true (.env 1), none⟩,
           ⟨(some 91), false, .callf 28 [(.loc 90), (.val (.tr (.sc (.int .i64 2))))], none⟩,
           ⟨(some 92), false, .callf 36 [(.loc 91)], none⟩,
           ⟨(some 93), false, .bin .other .add (.loc 89) (.loc 92), none⟩,
           ⟨(some 2), true, .mv (.loc 93), none⟩]
@[simp] def r23_15 : List HOp := [⟨(some 95), false, .bin .other .eql (.env 9) (.val (.tr (.sc (.int .i64 42)))), none⟩,
           ⟨(some 94), false, .mv (.loc 95), none⟩]
@[simp] def r23_16 : List HOp := [⟨(some 4), true, .mv (.val (.tr (.sc (.string ⟨⟨[]⟩⟩)))), none⟩]
@[simp] def r23_17 : List HOp := [⟨(some 96), false, .faddr 2 (.env 1), none⟩,
             ⟨(some 97), false, .load 1 false (.loc 96), none⟩,
             ⟨(some 98), false, .bin .other .neq (.loc 97) (.val (.tr (.sc (.string ⟨⟨[]⟩⟩)))), none⟩]
@[simp] def r23_18 : List HOp := [⟨(some 99), false, .faddr 2 (.env 1), none⟩,
             ⟨(some 100), false, .load 1 false (.loc 99), none⟩,
             ⟨(some 101), false, .bin .other .add (.loc 100) (.val (.tr (.sc (.string ⟨⟨[32, 58, 61, 32]⟩⟩)))), none⟩,
             ⟨(some 4), true, .mv (.loc 101), none⟩]
@[simp] def r23_19 : List HOp := [⟨(some 102), false, .mv (.env 4), none⟩,
            ⟨(some 103), false, .bin .other .add (.val (.tr (.sc (.string ⟨⟨[115, 119, 105, 116, 99, 104, 32]⟩⟩)))) (.loc 102), none⟩,
            ⟨(some 104), false, .ldt 4 true (.env 1), none⟩,
            ⟨(some 105), false, .callf 25 [(.loc 104), (.val (.tr (.sc (.int .i64 0))))], none⟩,
            ⟨(some 106), false, .callf 26 [(.loc 105)], none⟩,
            ⟨(some 107), false, .bin .other .add (.loc 103) (.loc 106), none⟩,
            ⟨(some 108), false, .bin .other .add (.loc 107) (.val (.tr (.sc (.string ⟨⟨[46, 40, 116, 121, 112, 101, 41, 32]⟩⟩)))), none⟩,
            ⟨(some 109), false, .ldt 4 true (.env 1), none⟩,
            ⟨(some 110), false, .callf 28 [(.loc 109), (.val (.tr (.sc (.int .i64 1))))], none⟩,
            ⟨(some 111), false, .callf 36 [(.loc 110)], none⟩,
            ⟨(some 112), false, .bin .other .add (.loc 108) (.loc 111), none⟩,
            ⟨(some 2), true, .mv (.loc 112), none⟩]
@[simp] def r23_20 : List HOp := [⟨(some 114), false, .bin .other .eql (.env 9) (.val (.tr (.sc (.int .i64 46)))), none⟩,
            ⟨(some 113), false, .mv (.loc 114), none⟩]
@[simp] def r23_21 : List HOp := [⟨(some 115), false, .faddr 2 (.env 1), none⟩,
             ⟨(some 116), false, .ldt 1 false (.loc 115), none⟩,
             ⟨(some 117), false, .bin .other .add (.loc 116) (.val (.tr (.sc (.string ⟨⟨[58, 32]⟩⟩)))), none⟩,
             ⟨(some 118), false, .ldt 4 true (.env 1), none⟩,
             ⟨(some 119), false, .callf 25 [(.loc 118), (.val (.tr (.sc (.int .i64 0))))], none⟩,
             ⟨(some 120), false, .callf 17 [(.loc 119)], none⟩,
             ⟨(some 121), false, .bin .other .add (.loc 117) (.loc 120), none⟩,
             ⟨(some 2), true, .mv (.loc 121), none⟩]
@[simp] def r23_22 : List HOp := [⟨(some 123), false, .bin .other .eql (.env 9) (.val (.tr (.sc (.int .i64 48)))), none⟩,
             ⟨(some 122), false, .mv (.loc 123), none⟩]
@[simp] def r23_23 : List HOp := [⟨(some 124), false, .faddr 2 (.env 1), none⟩,
              ⟨(some 125), false, .load 1 false (.loc 124), none⟩,
              ⟨(some 126), false, .bin .other .add (.val (.tr (.sc (.string ⟨⟨[112, 97, 99, 107, 97, 103, 101, 32]⟩⟩)))) (.loc 125), none⟩,
              ⟨(some 127), false, .bin .other .add (.loc 126) (.val (.tr (.sc (.string ⟨⟨[10]⟩⟩)))), none⟩,
              ⟨(some 5), true, .mv (.loc 127), none⟩]
@[simp] def r23_24 : List HOp := [⟨(some 128), false, .faddr 3 (.env 1), none⟩,
               ⟨(some 129), true, .load 1 false (.loc 128), none⟩,
               ⟨(some 130), true, .len 1 (.env 129), none⟩,
               ⟨(some 131), true, .mv (.val (.tr (.sc (.int .i64 0)))), none⟩]
@[simp] def r23_25 : List HOp := [⟨(some 132), false, .bin .other .lss (.env 131) (.env 130), none⟩]
@[simp] def r23_26 : List HOp := [⟨(some 133), false, .iaddr 4 (.env 129) (.env 131), none⟩,
                   ⟨(some 134), false, .load 4 true (.loc 133), none⟩,
                   ⟨(some 7), true, .alloc [(.sc (.int .i64 0)), (.sc (.int .i64 0)), (.sc (.string ⟨⟨[]⟩⟩)), (.sc (.slice none 0 0))], none⟩,
                   ⟨none, false, .store 4 (.env 7) (.loc 134), none⟩]
@[simp] def r23_27 : List HOp := [⟨(some 135), false, .mv (.env 5), none⟩,
                  ⟨(some 136), false, .load 4 true (.env 7), none⟩,
                  ⟨(some 137), false, .callf 17 [(.loc 136)], none⟩,
                  ⟨(some 138), false, .bin .other .add (.loc 137) (.val (.tr (.sc (.string ⟨⟨[10]⟩⟩)))), none⟩,
                  ⟨(some 139), false, .bin .other .add (.loc 135) (.loc 138), none⟩,
                  ⟨(some 5), true, .mv (.loc 139), none⟩]
@[simp] def r23_28 : List HOp := [⟨(some 140), false, .bin .other .add (.env 131) (.val (.tr (.sc (.int .i64 1)))), none⟩,
                ⟨(some 131), true, .mv (.loc 140), none⟩]
@[simp] def r23_29 : List HOp := [⟨(some 141), false, .mv (.env 5), none⟩,
              ⟨(some 2), true, .mv (.loc 141), none⟩]
@[simp] def r23_30 : List HOp := [⟨(some 143), false, .bin .other .eql (.env 9) (.val (.tr (.sc (.int .i64 49)))), none⟩,
              ⟨(some 142), false, .mv (.loc 143), none⟩]
@[simp] def r23_31 : List HOp := [⟨(some 144), false, .faddr 2 (.env 1), none⟩,
               ⟨(some 145), false, .load 1 false (.loc 144), none⟩,
               ⟨(some 146), false, .bin .other .add (.val (.tr (.sc (.string ⟨⟨[105, 109, 112, 111, 114, 116, 32]⟩⟩)))) (.loc 145), none⟩,
               ⟨(some 2), true, .mv (.loc 146), none⟩]
@[simp] def r23_32 : List HOp := [⟨(some 2), true, .mv (.val (.tr (.sc (.string ⟨⟨[]⟩⟩)))), none⟩]
@[simp] def k23_3 : HCode := .seq (.region r23_3 (some [ ( 0, [ 1 ] ) , ( 2, [ 12 ] ) , ( 0, [ 13 ] ) , ( 0, [ 1 ] ) , ( 2, [ 15 ] ) , ( 2, [ 16 ] ) , ( 0, [ 14, 17 ] ) , ( 0, [ 18 ] ) , ( 0, [ 1 ] ) , ( 2, [ 20 ] ) , ( 2, [ 21 ] ) , ( 0, [ 19, 22 ] ) , ( 0, [ 1 ] ) , ( 2, [ 24 ] ) , ( 0, [ 23, 25 ] ) , ( 0, [ 26 ] ) ])) .ret
@[simp] def k23_8 : HCode := .seq (.region r23_6 (some [ ( 0, [ 1 ] ) , ( 2, [ 37 ] ) , ( 0, [ 38 ] ) , ( 0, [ 1 ] ) , ( 2, [ 40 ] ) , ( 2, [ 41 ] ) , ( 0, [ 39, 42 ] ) , ( 0, [ 43 ] ) ])) .ret
@[simp] def k23_7 : HCode := .cond (.loc 36) k23_8 .skip
def k23_9 : HCode := .seq (.region r23_7 (some [ ( 0, [ 1 ] ) , ( 2, [ 44 ] ) , ( 0, [ 45 ] ) , ( 0, [ 46 ] ) , ( 0, [ 1 ] ) , ( 2, [ 48 ] ) , ( 0, [ 47, 49 ] ) , ( 0, [ 50 ] ) , ( 0, [ 1 ] ) , ( 2, [ 52 ] ) , ( 0, [ 51, 53 ] ) , ( 0, [ 1 ] ) , ( 2, [ 55 ] ) , ( 2, [ 56 ] ) , ( 0, [ 54, 57 ] ) , ( 0, [ 58 ] ) ])) .ret
@[simp] def k23_6 : HCode := .seq (.seq (.region r23_5 none) k23_7) k23_9
@[simp] def k23_14 : HCode := .cond (.loc 62) (.region r23_11 (some [ ( 0, [ 1 ] ) , ( 2, [ 63 ] ) , ( 2, [ 64 ] ) , ( 0, [ 1 ] ) , ( 2, [ 66 ] ) , ( 0, [ 65, 67 ] ) , ( 0, [ 68 ] ) , ( 0, [ 69 ] ) ])) .skip
def k23_15 : HCode := .seq (.region r23_12 (some [ ( 0, [ 3 ] ) , ( 0, [ 70 ] ) , ( 0, [ 71 ] ) , ( 0, [ 1 ] ) , ( 2, [ 73 ] ) , ( 2, [ 74 ] ) , ( 0, [ 72, 75 ] ) , ( 0, [ 76 ] ) , ( 0, [ 1 ] ) , ( 2, [ 78 ] ) , ( 2, [ 79 ] ) , ( 0, [ 77, 80 ] ) , ( 0, [ 81 ] ) ])) .ret
@[simp] def k23_13 : HCode := .seq (.seq (.region r23_10 none) k23_14) k23_15
@[simp] def k23_12 : HCode := .seq (.region r23_9 none) k23_13
@[simp] def k23_18 : HCode := .seq (.region r23_14 (some [ ( 0, [ 1 ] ) , ( 2, [ 84 ] ) , ( 0, [ 85 ] ) , ( 0, [ 1 ] ) , ( 2, [ 87 ] ) , ( 0, [ 86, 88 ] ) , ( 0, [ 1 ] ) , ( 2, [ 90 ] ) , ( 2, [ 91 ] ) , ( 0, [ 89, 92 ] ) , ( 0, [ 93 ] ) ])) .ret
@[simp] def k23_23 : HCode := .cond (.loc 98) (.region r23_18 none) .skip
def k23_24 : HCode := .seq (.region r23_19 (some [ ( 0, [ 4 ] ) , ( 0, [ 102 ] ) , ( 0, [ 1 ] ) , ( 2, [ 104 ] ) , ( 2, [ 105 ] ) , ( 0, [ 103, 106 ] ) , ( 0, [ 107 ] ) , ( 0, [ 1 ] ) , ( 2, [ 109 ] ) , ( 2, [ 110 ] ) , ( 0, [ 108, 111 ] ) , ( 0, [ 112 ] ) ])) .ret
@[simp] def k23_22 : HCode := .seq (.seq (.region r23_17 none) k23_23) k23_24
@[simp] def k23_21 : HCode := .seq (.region r23_16 none) k23_22
@[simp] def k23_27 : HCode := .seq (.region r23_21 (some [ ( 0, [ 1 ] ) , ( 0, [ 115 ] ) , ( 0, [ 116 ] ) , ( 0, [ 1 ] ) , ( 2, [ 118 ] ) , ( 2, [ 119 ] ) , ( 0, [ 117, 120 ] ) , ( 0, [ 121 ] ) ])) .ret
def k23_35 : HCode := .seq (.block 2 (.seq (.region r23_26 none) (.region r23_27 none))) (.region r23_28 none)
@[simp] def k23_34 : HCode := .seq (.cond (.loc 132) .skip (.exit 1)) k23_35
def k23_33 : HCode := .seq (.region r23_25 none) k23_34
@[simp] def k23_32 : HCode := .block 1 (.loop k23_33)
def k23_36 : HCode := .seq (.region r23_29 none) .ret
@[simp] def k23_31 : HCode := .seq (.seq (.region r23_24 none) k23_32) k23_36
@[simp] def k23_30 : HCode := .seq (.region r23_23 none) k23_31
@[simp] def k23_39 : HCode := .seq (.region r23_31 none) .ret
@[simp] def k23_38 : HCode := .cond (.loc 142) k23_39 .skip
@[simp] def k23_37 : HCode := .seq (.region r23_30 none) k23_38
@[simp] def k23_29 : HCode := .cond (.loc 122) k23_30 k23_37
@[simp] def k23_28 : HCode := .seq (.region r23_22 none) k23_29
@[simp] def k23_26 : HCode := .cond (.loc 113) k23_27 k23_28
@[simp] def k23_25 : HCode := .seq (.region r23_20 none) k23_26
@[simp] def k23_20 : HCode := .cond (.loc 94) k23_21 k23_25
@[simp] def k23_19 : HCode := .seq (.region r23_15 none) k23_20
@[simp] def k23_17 : HCode := .cond (.loc 82) k23_18 k23_19
@[simp] def k23_16 : HCode := .seq (.region r23_13 none) k23_17
@[simp] def k23_11 : HCode := .cond (.loc 59) k23_12 k23_16
@[simp] def k23_10 : HCode := .seq (.region r23_8 none) k23_11
@[simp] def k23_5 : HCode := .cond (.loc 27) k23_6 k23_10
@[simp] def k23_4 : HCode := .seq (.region r23_4 none) k23_5
@[simp] def k23_2 : HCode := .cond (.loc 10) k23_3 k23_4
@[simp] def k23_1 : HCode := .block 0 (.seq (.region r23_2 none) k23_2)
def k23_40 : HCode := .seq (.region r23_32 none) .ret
@[simp] def k23_0 : HCode := .seq (.seq (.region r23_1 none) k23_1) k23_40
@[simp] def fn23 : HFn := { nargs := 1, results := [.tmp 2], mode := .iso, code := (.seq (.region r23_0 none) k23_0) }
theorem c23 : cFn Tryd.prog (Hs 23) .iso 23 = some fn23 := by kernel_rfl
/- sterling/syntax.ahead -/
@[simp] def r35_0 : List HOp := [⟨(some 3), true, .box true (.env 0), none⟩,
     ⟨(some 6), true, .mv (.val (.tr (.sc (.string ⟨⟨[]⟩⟩)))), none⟩]
@[simp] def r35_1 : List HOp := [⟨(some 7), false, .load 4 true (.env 3), none⟩,
      ⟨(some 8), false, .mv (.env 1), none⟩,
      ⟨(some 9), false, .callf 33 [(.loc 7), (.loc 8)], none⟩,
      ⟨(some 10), false, .un .not (.loc 9), none⟩]
@[simp] def r35_2 : List HOp := [⟨(some 6), true, .mv (.val (.tr (.sc (.string ⟨⟨[]⟩⟩)))), none⟩]
@[simp] def r35_3 : List HOp := [⟨(some 11), false, .load 4 true (.env 3), none⟩,
     ⟨(some 12), false, .mv (.env 1), none⟩,
     ⟨(some 13), false, .callf 25 [(.loc 11), (.loc 12)], none⟩,
     ⟨(some 14), false, .callf 17 [(.loc 13)], none⟩,
     ⟨(some 15), false, .mv (.env 2), none⟩,
     ⟨(some 16), false, .bin .other .add (.loc 14) (.loc 15), none⟩,
     ⟨(some 6), true, .mv (.loc 16), none⟩]
@[simp] def k35_2 : HCode := .seq (.region r35_2 none) .ret
@[simp] def k35_1 : HCode := .cond (.loc 10) k35_2 .skip
def k35_3 : HCode := .seq (.region r35_3 none) .ret
@[simp] def k35_0 : HCode := .seq (.seq (.region r35_1 none) k35_1) k35_3
@[simp] def fn35 : HFn := { nargs := 3, results := [.tmp 6], mode := .iso, code := (.seq (.region r35_0 none) k35_0) }
theorem c35 : cFn Tryd.prog (Hs 35) .iso 35 = some fn35 := by kernel_rfl
/- sterling/syntax.cases -/
@[simp] def r36_0 : List HOp := [⟨(some 2), true, .mv (.val (.tr (.sc (.string ⟨⟨[]⟩⟩)))), none⟩]
@[simp] def r36_1 : List HOp := [⟨(some 3), true, .mv (.val (.tr (.sc (.string ⟨⟨[123, 32]⟩⟩)))), none⟩]
@[simp] def r36_2 : List HOp := [⟨(some 6), true, .mv (.env 0), none⟩,
      ⟨(some 7), true, .len 1 (.env 6), none⟩,
      ⟨(some 8), true, .mv (.val (.tr (.sc (.int .i64 0)))), none⟩]
@[simp] def r36_3 : List HOp := [⟨(some 9), false, .bin .other .lss (.env 8) (.env 7), none⟩]
@[simp] def r36_4 : List HOp := [⟨(some 10), false, .iaddr 4 (.env 6) (.env 8), none⟩,
          ⟨(some 11), false, .load 4 true (.loc 10), none⟩,
          ⟨(some 5), true, .alloc [(.sc (.int .i64 0)), (.sc (.int .i64 0)), (.sc (.string ⟨⟨[]⟩⟩)), (.sc (.slice none 0 0))], none⟩,
          ⟨none, false, .store 4 (.env 5) (.loc 11), none⟩]
@[simp] def r36_5 : List HOp := [⟨(some 12), false, .mv (.env 3), none⟩,
          ⟨(some 13), false, .faddr 2 (.env 5), none⟩,
          ⟨(some 14), false, .load 1 false (.loc 13), none⟩,
          ⟨(some 15), false, .bin .other .add (.loc 12) (.loc 14), none⟩,
          ⟨(some 3), true, .mv (.loc 15), none⟩]
@[simp] def r36_6 : List HOp := [⟨(some 16), false, .faddr 2 (.env 5), none⟩,
           ⟨(some 17), false, .load 1 false (.loc 16), none⟩,
           ⟨(some 18), false, .bin .other .eql (.loc 17) (.val (.tr (.sc (.string ⟨⟨[99, 97, 115, 101]⟩⟩)))), none⟩]
@[simp] def r36_7 : List HOp := [⟨(some 19), false, .mv (.env 3), none⟩,
           ⟨(some 20), false, .load 4 true (.env 5), none⟩,
           ⟨(some 21), false, .callf 25 [(.loc 20), (.val (.tr (.sc (.int .i64 0))))], none⟩,
           ⟨(some 22), false, .callf 17 [(.loc 21)], none⟩,
           ⟨(some 23), false, .bin .other .add (.val (.tr (.sc (.string ⟨⟨[32]⟩⟩)))) (.loc 22), none⟩,
           ⟨(some 24), false, .bin .other .add (.loc 19) (.loc 23), none⟩,
           ⟨(some 3), true, .mv (.loc 24), none⟩]
@[simp] def r36_8 : List HOp := [⟨(some 25), false, .mv (.env 3), none⟩,
         ⟨(some 26), false, .load 4 true (.env 5), none⟩,
         ⟨(some 27), false, .callf 25 [(.loc 26), (.val (.tr (.sc (.int .i64 1))))], none⟩,
         ⟨(some 28), false, .field 3 1 false (.loc 27), none⟩,
         ⟨(some 29), false, .callf 27 [(.loc 28), (.val (.tr (.sc (.string ⟨⟨[59, 32]⟩⟩))))], none⟩,
         ⟨(some 30), false, .bin .other .add (.val (.tr (.sc (.string ⟨⟨[58, 32]⟩⟩)))) (.loc 29), none⟩,
         ⟨(some 31), false, .bin .other .add (.loc 30) (.val (.tr (.sc (.string ⟨⟨[59, 32]⟩⟩)))), none⟩,
         ⟨(some 32), false, .bin .other .add (.loc 25) (.loc 31), none⟩,
         ⟨(some 3), true, .mv (.loc 32), none⟩]
@[simp] def r36_9 : List HOp := [⟨(some 33), false, .bin .other .add (.env 8) (.val (.tr (.sc (.int .i64 1)))), none⟩,
       ⟨(some 8), true, .mv (.loc 33), none⟩]
@[simp] def r36_10 : List HOp := [⟨(some 34), false, .mv (.env 3), none⟩,
     ⟨(some 35), false, .bin .other .add (.loc 34) (.val (.tr (.sc (.string ⟨⟨[125]⟩⟩)))), none⟩,
     ⟨(some 2), true, .mv (.loc 35), none⟩]
@[simp] def k36_8 : HCode := .cond (.loc 18) (.region r36_7 none) .skip
def k36_9 : HCode := .region r36_8 none
@[simp] def k36_7 : HCode := .seq (.seq (.region r36_6 none) k36_8) k36_9
@[simp] def k36_6 : HCode := .seq (.region r36_5 none) k36_7
def k36_10 : HCode := .region r36_9 none
def k36_5 : HCode := .seq (.block 1 (.seq (.region r36_4 none) k36_6)) k36_10
@[simp] def k36_4 : HCode := .seq (.cond (.loc 9) .skip (.exit 0)) k36_5
def k36_3 : HCode := .seq (.region r36_3 none) k36_4
@[simp] def k36_2 : HCode := .block 0 (.loop k36_3)
def k36_11 : HCode := .seq (.region r36_10 none) .ret
@[simp] def k36_1 : HCode := .seq (.seq (.region r36_2 none) k36_2) k36_11
@[simp] def k36_0 : HCode := .seq (.region r36_1 none) k36_1
@[simp] def fn36 : HFn := { nargs := 1, results := [.tmp 2], mode := .iso, code := (.seq (.region r36_0 none) k36_0) }
theorem c36 : cFn Tryd.prog (Hs 36) .iso 36 = some fn36 := by kernel_rfl
/- sterling/sterlinglaw6.Cut -/
@[simp] def r6_0 : List HOp := [⟨(some 1), true, .box true (.env 0), none⟩,
     ⟨(some 2), true, .alloc [(.sc (.int .i64 0)), (.sc (.int .i64 0)), (.sc (.string ⟨⟨[]⟩⟩)), (.sc (.slice none 0 0))], none⟩]
@[simp] def r6_1 : List HOp := [⟨(some 3), true, .alloc [(.sc (.int .i64 0))], none⟩,
     ⟨none, false, .store 1 (.env 3) (.val (.tr (.sc (.int .i64 80)))), none⟩]
@[simp] def r6_2 : List HOp := [⟨(some 4), false, .load 4 true (.env 1), none⟩,
     ⟨(some 5), false, .callf 18 [(.loc 4), (.val (.tr (.sc (.int .i64 1)))), (.env 3)], none⟩,
     ⟨none, false, .store 4 (.env 2) (.loc 5), none⟩]
@[simp] def k6_1 : HCode := .seq (.region r6_2 none) .ret
@[simp] def k6_0 : HCode := .seq (.region r6_1 none) k6_1
@[simp] def fn6 : HFn := { nargs := 1, results := [.cell 2 4 true], mode := .iso, code := (.seq (.region r6_0 none) k6_0) }
theorem c6 : cFn Tryd.prog (Hs 6) .iso 6 = some fn6 := by kernel_rfl
/- sterling/sterlinglaw6.some -/
@[simp] def r18_0 : List HOp := [⟨(some 3), true, .box true (.env 0), none⟩,
     ⟨(some 6), true, .alloc [(.sc (.int .i64 0)), (.sc (.int .i64 0)), (.sc (.string ⟨⟨[]⟩⟩)), (.sc (.slice none 0 0))], none⟩]
@[simp] def r18_1 : List HOp := [⟨(some 9), false, .mv (.env 2), none⟩,
     ⟨(some 10), false, .nilchk (.loc 9), none⟩,
     ⟨(some 11), false, .load 1 false (.loc 10), none⟩,
     ⟨(some 12), false, .bin .other .sub (.loc 11) (.val (.tr (.sc (.int .i64 1)))), none⟩,
     ⟨(some 13), false, .nilchk (.loc 9), none⟩,
     ⟨none, false, .store 1 (.loc 13) (.loc 12), none⟩]
@[simp] def r18_2 : List HOp := [⟨(some 14), false, .faddr 0 (.env 3), none⟩,
     ⟨(some 15), false, .load 1 false (.loc 14), none⟩,
     ⟨(some 16), false, .faddr 1 (.env 3), none⟩,
     ⟨(some 17), false, .load 1 false (.loc 16), none⟩,
     ⟨(some 18), false, .faddr 2 (.env 3), none⟩,
     ⟨(some 19), false, .load 1 false (.loc 18), none⟩,
     ⟨(some 20), false, .build [(.sc (.int .i64 0)), (.sc (.int .i64 0)), (.sc (.string ⟨⟨[]⟩⟩)), (.sc (.slice none 0 0))] [(0, 1, (.loc 15)), (1, 1, (.loc 17)), (2, 1, (.loc 19))], none⟩,
     ⟨(some 7), true, .alloc [(.sc (.int .i64 0)), (.sc (.int .i64 0)), (.sc (.string ⟨⟨[]⟩⟩)), (.sc (.slice none 0 0))], none⟩,
     ⟨none, false, .store 4 (.env 7) (.loc 20), none⟩]
@[simp] def r18_3 : List HOp := [⟨(some 8), true, .mv (.val (.tr (.sc (.int .i64 0)))), none⟩]
@[simp] def r18_4 : List HOp := [⟨(some 21), false, .mv (.env 8), none⟩,
         ⟨(some 22), false, .faddr 3 (.env 3), none⟩,
         ⟨(some 23), false, .load 1 false (.loc 22), none⟩,
         ⟨(some 24), false, .len 1 (.loc 23), none⟩,
         ⟨(some 25), false, .bin .other .lss (.loc 21) (.loc 24), none⟩,
         ⟨(some 26), false, .mv (.loc 25), none⟩,
         ⟨(some 27), false, .mv (.env 2), some ((.loc 26), true)⟩,
         ⟨(some 28), false, .nilchk (.loc 27), some ((.loc 26), true)⟩,
         ⟨(some 29), false, .load 1 false (.loc 28), some ((.loc 26), true)⟩,
         ⟨(some 30), false, .bin .other .gtr (.loc 29) (.val (.tr (.sc (.int .i64 0)))), some ((.loc 26), true)⟩,
         ⟨(some 31), false, .pick (.loc 26) (.loc 30) (.val (.tr (.sc (.bool false)))), none⟩,
         ⟨(some 32), false, .mv (.loc 31), none⟩,
         ⟨(some 33), false, .mv (.env 1), some ((.loc 32), true)⟩,
         ⟨(some 34), false, .bin .other .lss (.loc 33) (.val (.tr (.sc (.int .i64 12)))), some ((.loc 32), true)⟩,
         ⟨(some 35), false, .pick (.loc 32) (.loc 34) (.val (.tr (.sc (.bool false)))), none⟩]
@[simp] def r18_5 : List HOp := [⟨(some 38), false, .faddr 3 (.env 7), none⟩,
         ⟨(some 39), false, .load 1 false (.loc 38), none⟩,
         ⟨(some 40), false, .faddr 3 (.env 3), none⟩,
         ⟨(some 41), false, .ldt 1 false (.loc 40), none⟩,
         ⟨(some 42), false, .mv (.env 8), none⟩,
         ⟨(some 43), false, .iaddr 4 (.loc 41) (.loc 42), none⟩,
         ⟨(some 44), false, .load 4 true (.loc 43), none⟩,
         ⟨(some 45), false, .mv (.env 1), none⟩,
         ⟨(some 46), false, .bin .other .add (.loc 45) (.val (.tr (.sc (.int .i64 1)))), none⟩,
         ⟨(some 47), false, .mv (.env 2), none⟩,
         ⟨(some 48), false, .callf 18 [(.loc 44), (.loc 46), (.loc 47)], none⟩,
         ⟨(some 49), false, .bslice false 1 4 [(.sc (.int .i64 0)), (.sc (.int .i64 0)), (.sc (.string ⟨⟨[]⟩⟩)), (.sc (.slice none 0 0))] [(0, 4, (.loc 48))], none⟩,
         ⟨(some 50), false, .append 4 56 (.loc 39) (.loc 49), none⟩,
         ⟨(some 51), false, .faddr 3 (.env 7), none⟩,
         ⟨none, false, .store 1 (.loc 51) (.loc 50), none⟩]
@[simp] def r18_6 : List HOp := [⟨(some 36), false, .mv (.env 8), none⟩,
       ⟨(some 37), false, .bin .other .add (.loc 36) (.val (.tr (.sc (.int .i64 1)))), none⟩,
       ⟨(some 8), true, .mv (.loc 37), none⟩]
@[simp] def r18_7 : List HOp := [⟨(some 52), false, .load 4 true (.env 7), none⟩,
     ⟨none, false, .store 4 (.env 6) (.loc 52), none⟩]
@[simp] def k18_5 : HCode := .cond (.loc 35) .skip (.exit 0)
def k18_6 : HCode := .seq (.block 1 (.region r18_5 (some [ ( 0, [ 7 ] ) , ( 15, [ 38 ] ) , ( 0, [ 3 ] ) , ( 0, [ 40 ] ) , ( 0, [ 8 ] ) , ( 1, [ 41, 42 ] ) , ( 1, [ 43 ] ) , ( 0, [ 1 ] ) , ( 0, [ 45 ] ) , ( 0, [ 2 ] ) , ( 2, [ 44, 46, 47 ] ) , ( 2, [ 48 ] ) , ( 2, [ 39, 49 ] ) , ( 0, [ 7 ] ) , ( 2, [ 51, 50 ] ) ]))) (.region r18_6 none)
def k18_4 : HCode := .seq (.seq (.region r18_4 none) k18_5) k18_6
@[simp] def k18_3 : HCode := .block 0 (.loop k18_4)
def k18_7 : HCode := .seq (.region r18_7 none) .ret
@[simp] def k18_2 : HCode := .seq (.seq (.region r18_3 none) k18_3) k18_7
@[simp] def k18_1 : HCode := .seq (.region r18_2 none) k18_2
@[simp] def k18_0 : HCode := .seq (.region r18_1 none) k18_1
@[simp] def fn18 : HFn := { nargs := 3, results := [.cell 6 4 true], mode := .shared, code := (.seq (.region r18_0 none) k18_0) }
theorem c18 : cFn Tryd.prog (Hs 18) .shared 18 = some fn18 := by kernel_rfl
/- sterling/sterlinglaw6.over -/
@[simp] def r7_0 : List HOp := [⟨(some 4), true, .box true (.env 0), none⟩,
     ⟨(some 8), true, .mv (.val (.tr (.sc (.slice none 0 0)))), none⟩]
@[simp] def r7_1 : List HOp := [⟨(some 15), false, .mv (.env 2), none⟩,
     ⟨(some 16), false, .nilchk (.loc 15), none⟩,
     ⟨(some 17), false, .load 1 false (.loc 16), none⟩,
     ⟨(some 18), false, .mv (.env 1), none⟩,
     ⟨(some 19), false, .ldt 4 true (.env 4), none⟩,
     ⟨(some 20), false, .build [(.sc (.int .i64 0)), (.sc (.int .i64 0)), (.sc (.int .i64 0)), (.sc (.int .i64 0)), (.sc (.string ⟨⟨[]⟩⟩)), (.sc (.slice none 0 0))] [(0, 1, (.loc 17)), (1, 1, (.loc 18)), (2, 4, (.loc 19))], none⟩,
     ⟨(some 21), false, .bslice false 1 6 [(.sc (.int .i64 0)), (.sc (.int .i64 0)), (.sc (.int .i64 0)), (.sc (.int .i64 0)), (.sc (.string ⟨⟨[]⟩⟩)), (.sc (.slice none 0 0))] [(0, 6, (.loc 20))], none⟩,
     ⟨(some 9), true, .mv (.loc 21), none⟩]
@[simp] def r7_2 : List HOp := [⟨(some 22), false, .mv (.env 2), none⟩,
     ⟨(some 23), false, .nilchk (.loc 22), none⟩,
     ⟨(some 24), false, .load 1 false (.loc 23), none⟩,
     ⟨(some 10), true, .mv (.loc 24), none⟩]
@[simp] def r7_3 : List HOp := [⟨(some 25), false, .mv (.env 2), none⟩,
     ⟨(some 26), false, .nilchk (.loc 25), none⟩,
     ⟨(some 27), false, .load 1 false (.loc 26), none⟩,
     ⟨(some 28), false, .bin .other .add (.loc 27) (.val (.tr (.sc (.int .i64 1)))), none⟩,
     ⟨(some 29), false, .nilchk (.loc 25), none⟩,
     ⟨none, false, .store 1 (.loc 29) (.loc 28), none⟩]
@[simp] def r7_4 : List HOp := [⟨(some 11), true, .mv (.val (.tr (.sc (.bool false)))), none⟩]
@[simp] def r7_5 : List HOp := [⟨(some 12), true, .mv (.val (.tr (.sc (.int .i64 0)))), none⟩]
@[simp] def r7_6 : List HOp := [⟨(some 30), false, .mv (.env 12), none⟩,
         ⟨(some 31), false, .mv (.env 3), none⟩,
         ⟨(some 32), false, .len 1 (.loc 31), none⟩,
         ⟨(some 33), false, .bin .other .lss (.loc 30) (.loc 32), none⟩]
@[simp] def r7_7 : List HOp := [⟨(some 36), false, .mv (.env 11), none⟩,
         ⟨(some 37), false, .mv (.loc 36), none⟩,
         ⟨(some 38), false, .mv (.env 3), some ((.loc 37), false)⟩,
         ⟨(some 39), false, .mv (.env 12), some ((.loc 37), false)⟩,
         ⟨(some 40), false, .iaddr 1 (.loc 38) (.loc 39), some ((.loc 37), false)⟩,
         ⟨(some 41), false, .load 1 false (.loc 40), some ((.loc 37), false)⟩,
         ⟨(some 42), false, .mv (.env 10), some ((.loc 37), false)⟩,
         ⟨(some 43), false, .bin .other .eql (.loc 41) (.loc 42), some ((.loc 37), false)⟩,
         ⟨(some 44), false, .pick (.loc 37) (.val (.tr (.sc (.bool true)))) (.loc 43), none⟩,
         ⟨(some 11), true, .mv (.loc 44), none⟩]
@[simp] def r7_8 : List HOp := [⟨(some 34), false, .mv (.env 12), none⟩,
       ⟨(some 35), false, .bin .other .add (.loc 34) (.val (.tr (.sc (.int .i64 1)))), none⟩,
       ⟨(some 12), true, .mv (.loc 35), none⟩]
@[simp] def r7_9 : List HOp := [⟨(some 45), false, .mv (.env 11), none⟩]
@[simp] def r7_10 : List HOp := [⟨(some 46), false, .mv (.env 2), none⟩,
       ⟨(some 47), false, .nilchk (.loc 46), none⟩,
       ⟨(some 48), false, .load 1 false (.loc 47), none⟩,
       ⟨(some 49), false, .ldt 4 true (.env 4), none⟩,
       ⟨(some 50), false, .callf 12 [(.loc 49)], none⟩,
       ⟨(some 51), false, .bin .other .sub (.loc 50) (.val (.tr (.sc (.int .i64 1)))), none⟩,
       ⟨(some 52), false, .bin .other .add (.loc 48) (.loc 51), none⟩,
       ⟨(some 53), false, .nilchk (.loc 46), none⟩,
       ⟨none, false, .store 1 (.loc 53) (.loc 52), none⟩]
@[simp] def r7_11 : List HOp := [⟨(some 54), false, .mv (.env 9), none⟩,
       ⟨(some 8), true, .mv (.loc 54), none⟩]
@[simp] def r7_12 : List HOp := [⟨(some 13), true, .mv (.val (.tr (.sc (.int .i64 0)))), none⟩]
@[simp] def r7_13 : List HOp := [⟨(some 55), false, .mv (.env 13), none⟩,
         ⟨(some 56), false, .faddr 3 (.env 4), none⟩,
         ⟨(some 57), false, .load 1 false (.loc 56), none⟩,
         ⟨(some 58), false, .len 1 (.loc 57), none⟩,
         ⟨(some 59), false, .bin .other .lss (.loc 55) (.loc 58), none⟩]
@[simp] def r7_14 : List HOp := [⟨(some 62), false, .faddr 3 (.env 4), none⟩,
          ⟨(some 63), false, .load 1 false (.loc 62), none⟩,
          ⟨(some 64), false, .mv (.env 13), none⟩,
          ⟨(some 65), false, .iaddr 4 (.loc 63) (.loc 64), none⟩,
          ⟨(some 66), false, .load 4 true (.loc 65), none⟩,
          ⟨(some 67), false, .mv (.env 1), none⟩,
          ⟨(some 68), false, .bin .other .add (.loc 67) (.val (.tr (.sc (.int .i64 1)))), none⟩,
          ⟨(some 69), false, .mv (.env 2), none⟩,
          ⟨(some 70), false, .mv (.env 3), none⟩,
          ⟨(some 71), false, .callf 7 [(.loc 66), (.loc 68), (.loc 69), (.loc 70)], none⟩,
          ⟨(some 14), true, .mv (.loc 71), none⟩]
@[simp] def r7_15 : List HOp := [⟨(some 72), false, .mv (.env 9), none⟩,
         ⟨(some 73), false, .mv (.env 14), none⟩,
         ⟨(some 74), false, .append 6 72 (.loc 72) (.loc 73), none⟩,
         ⟨(some 9), true, .mv (.loc 74), none⟩]
@[simp] def r7_16 : List HOp := [⟨(some 60), false, .mv (.env 13), none⟩,
       ⟨(some 61), false, .bin .other .add (.loc 60) (.val (.tr (.sc (.int .i64 1)))), none⟩,
       ⟨(some 13), true, .mv (.loc 61), none⟩]
@[simp] def r7_17 : List HOp := [⟨(some 75), false, .mv (.env 9), none⟩,
     ⟨(some 8), true, .mv (.loc 75), none⟩]
@[simp] def k7_7 : HCode := .cond (.loc 33) .skip (.exit 0)
def k7_8 : HCode := .seq (.block 1 (.region r7_7 none)) (.region r7_8 none)
def k7_6 : HCode := .seq (.seq (.region r7_6 none) k7_7) k7_8
@[simp] def k7_5 : HCode := .block 0 (.loop k7_6)
@[simp] def k7_12 : HCode := .seq (.region r7_11 none) .ret
@[simp] def k7_11 : HCode := .seq (.region r7_10 (some [ ( 0, [ 2 ] ) , ( 0, [ 46 ] ) , ( 11, [ 47 ] ) , ( 0, [ 4 ] ) , ( 2, [ 49 ] ) , ( 0, [ 50 ] ) , ( 0, [ 48, 51 ] ) , ( 0, [ 46 ] ) , ( 2, [ 53, 52 ] ) ])) k7_12
@[simp] def k7_10 : HCode := .cond (.loc 45) k7_11 .skip
@[simp] def k7_16 : HCode := .cond (.loc 59) .skip (.exit 2)
def k7_17 : HCode := .seq (.block 3 (.seq (.region r7_14 none) (.region r7_15 none))) (.region r7_16 none)
def k7_15 : HCode := .seq (.seq (.region r7_13 none) k7_16) k7_17
@[simp] def k7_14 : HCode := .block 2 (.loop k7_15)
def k7_18 : HCode := .seq (.region r7_17 none) .ret
def k7_13 : HCode := .seq (.seq (.region r7_12 none) k7_14) k7_18
def k7_9 : HCode := .seq (.seq (.region r7_9 none) k7_10) k7_13
@[simp] def k7_4 : HCode := .seq (.seq (.region r7_5 none) k7_5) k7_9
@[simp] def k7_3 : HCode := .seq (.region r7_4 none) k7_4
@[simp] def k7_2 : HCode := .seq (.region r7_3 none) k7_3
@[simp] def k7_1 : HCode := .seq (.region r7_2 none) k7_2
@[simp] def k7_0 : HCode := .seq (.region r7_1 (some [ ( 0, [ 2 ] ) , ( 0, [ 15 ] ) , ( 2, [ 16 ] ) , ( 0, [ 1 ] ) , ( 0, [ 4 ] ) , ( 0, [ 17, 18, 19 ] ) , ( 2, [ 20 ] ) , ( 0, [ 21 ] ) ])) k7_1
@[simp] def fn7 : HFn := { nargs := 4, results := [.tmp 8], mode := .shared, code := (.seq (.region r7_0 none) k7_0) }
theorem c7 : cFn Tryd.prog (Hs 7) .shared 7 = some fn7 := by kernel_rfl
/- sterling/sterlingref7.Count -/
@[simp] def r12_0 : List HOp := [⟨(some 1), true, .box true (.env 0), none⟩,
     ⟨(some 2), true, .mv (.val (.tr (.sc (.int .i64 0)))), none⟩]
@[simp] def r12_1 : List HOp := [⟨(some 3), true, .mv (.val (.tr (.sc (.int .i64 1)))), none⟩]
@[simp] def r12_2 : List HOp := [⟨(some 4), true, .mv (.val (.tr (.sc (.int .i64 0)))), none⟩]
@[simp] def r12_3 : List HOp := [⟨(some 5), false, .mv (.env 4), none⟩,
         ⟨(some 6), false, .faddr 3 (.env 1), none⟩,
         ⟨(some 7), false, .load 1 false (.loc 6), none⟩,
         ⟨(some 8), false, .len 1 (.loc 7), none⟩,
         ⟨(some 9), false, .bin .other .lss (.loc 5) (.loc 8), none⟩]
@[simp] def r12_4 : List HOp := [⟨(some 12), false, .mv (.env 3), none⟩,
         ⟨(some 13), false, .faddr 3 (.env 1), none⟩,
         ⟨(some 14), false, .load 1 false (.loc 13), none⟩,
         ⟨(some 15), false, .mv (.env 4), none⟩,
         ⟨(some 16), false, .iaddr 4 (.loc 14) (.loc 15), none⟩,
         ⟨(some 17), false, .load 4 true (.loc 16), none⟩,
         ⟨(some 18), false, .callf 12 [(.loc 17)], none⟩,
         ⟨(some 19), false, .bin .other .add (.loc 12) (.loc 18), none⟩,
         ⟨(some 3), true, .mv (.loc 19), none⟩]
@[simp] def r12_5 : List HOp := [⟨(some 10), false, .mv (.env 4), none⟩,
       ⟨(some 11), false, .bin .other .add (.loc 10) (.val (.tr (.sc (.int .i64 1)))), none⟩,
       ⟨(some 4), true, .mv (.loc 11), none⟩]
@[simp] def r12_6 : List HOp := [⟨(some 20), false, .mv (.env 3), none⟩,
     ⟨(some 2), true, .mv (.loc 20), none⟩]
@[simp] def k12_4 : HCode := .cond (.loc 9) .skip (.exit 0)
def k12_5 : HCode := .seq (.block 1 (.region r12_4 none)) (.region r12_5 none)
def k12_3 : HCode := .seq (.seq (.region r12_3 none) k12_4) k12_5
@[simp] def k12_2 : HCode := .block 0 (.loop k12_3)
def k12_6 : HCode := .seq (.region r12_6 none) .ret
@[simp] def k12_1 : HCode := .seq (.seq (.region r12_2 none) k12_2) k12_6
@[simp] def k12_0 : HCode := .seq (.region r12_1 none) k12_1
@[simp] def fn12 : HFn := { nargs := 1, results := [.tmp 2], mode := .iso, code := (.seq (.region r12_0 none) k12_0) }
theorem c12 : cFn Tryd.prog (Hs 12) .iso 12 = some fn12 := by kernel_rfl
/- sterling/sterlinglaw6.TreeWalk$1 -/
@[simp] def r9_0 : List HOp := [⟨(some 9), true, .box true (.env 2), none⟩,
     ⟨(some 10), true, .mv (.val (.tr (.sc (.bool false)))), none⟩]
@[simp] def r9_1 : List HOp := [⟨(some 12), false, .load 1 false (.env 3), none⟩,
      ⟨(some 13), false, .load 1 false (.env 4), none⟩,
      ⟨(some 14), false, .len 1 (.loc 13), none⟩,
      ⟨(some 15), false, .bin .other .geq (.loc 12) (.loc 14), none⟩,
      ⟨(some 16), false, .mv (.loc 15), none⟩,
      ⟨(some 17), false, .mv (.env 0), some ((.loc 16), false)⟩,
      ⟨(some 18), false, .load 1 false (.env 4), some ((.loc 16), false)⟩,
      ⟨(some 19), false, .load 1 false (.env 3), some ((.loc 16), false)⟩,
      ⟨(some 20), false, .iaddr 6 (.loc 18) (.loc 19), some ((.loc 16), false)⟩,
      ⟨(some 21), false, .faddr 0 (.loc 20), some ((.loc 16), false)⟩,
      ⟨(some 22), false, .load 1 false (.loc 21), some ((.loc 16), false)⟩,
      ⟨(some 23), false, .bin .other .neq (.loc 17) (.loc 22), some ((.loc 16), false)⟩,
      ⟨(some 24), false, .pick (.loc 16) (.val (.tr (.sc (.bool true)))) (.loc 23), none⟩,
      ⟨(some 25), false, .mv (.loc 24), none⟩,
      ⟨(some 26), false, .mv (.env 1), some ((.loc 25), false)⟩,
      ⟨(some 27), false, .load 1 false (.env 4), some ((.loc 25), false)⟩,
      ⟨(some 28), false, .load 1 false (.env 3), some ((.loc 25), false)⟩,
      ⟨(some 29), false, .iaddr 6 (.loc 27) (.loc 28), some ((.loc 25), false)⟩,
      ⟨(some 30), false, .faddr 1 (.loc 29), some ((.loc 25), false)⟩,
      ⟨(some 31), false, .load 1 false (.loc 30), some ((.loc 25), false)⟩,
      ⟨(some 32), false, .bin .other .neq (.loc 26) (.loc 31), some ((.loc 25), false)⟩,
      ⟨(some 33), false, .pick (.loc 25) (.val (.tr (.sc (.bool true)))) (.loc 32), none⟩,
      ⟨(some 34), false, .mv (.loc 33), none⟩,
      ⟨(some 35), false, .ldt 4 true (.env 9), some ((.loc 34), false)⟩,
      ⟨(some 36), false, .load 1 false (.env 4), some ((.loc 34), false)⟩,
      ⟨(some 37), false, .load 1 false (.env 3), some ((.loc 34), false)⟩,
      ⟨(some 38), false, .iaddr 6 (.loc 36) (.loc 37), some ((.loc 34), false)⟩,
      ⟨(some 39), false, .faddr 2 (.loc 38), some ((.loc 34), false)⟩,
      ⟨(some 40), false, .load 4 true (.loc 39), some ((.loc 34), false)⟩,
      ⟨(some 41), false, .callf 10 [(.loc 35), (.loc 40)], some ((.loc 34), false)⟩,
      ⟨(some 42), false, .un .not (.loc 41), some ((.loc 34), false)⟩,
      ⟨(some 43), false, .pick (.loc 34) (.val (.tr (.sc (.bool true)))) (.loc 42), none⟩]
@[simp] def r9_2 : List HOp := [⟨none, false, .store 1 (.env 5) (.val (.tr (.sc (.bool false)))), none⟩]
@[simp] def r9_3 : List HOp := [⟨(some 44), false, .load 1 false (.env 3), none⟩,
     ⟨(some 45), false, .bin .other .add (.loc 44) (.val (.tr (.sc (.int .i64 1)))), none⟩,
     ⟨none, false, .store 1 (.env 3) (.loc 45), none⟩]
@[simp] def r9_4 : List HOp := [⟨(some 11), true, .mv (.val (.tr (.sc (.int .i64 0)))), none⟩]
@[simp] def r9_5 : List HOp := [⟨(some 46), false, .mv (.env 11), none⟩,
         ⟨(some 47), false, .load 1 false (.env 6), none⟩,
         ⟨(some 48), false, .len 1 (.loc 47), none⟩,
         ⟨(some 49), false, .bin .other .lss (.loc 46) (.loc 48), none⟩]
@[simp] def r9_6 : List HOp := [⟨(some 52), false, .load 1 false (.env 6), none⟩,
          ⟨(some 53), false, .mv (.env 11), none⟩,
          ⟨(some 54), false, .iaddr 1 (.loc 52) (.loc 53), none⟩,
          ⟨(some 55), false, .load 1 false (.loc 54), none⟩,
          ⟨(some 56), false, .mv (.env 0), none⟩,
          ⟨(some 57), false, .bin .other .eql (.loc 55) (.loc 56), none⟩]
@[simp] def r9_7 : List HOp := [⟨(some 10), true, .mv (.val (.tr (.sc (.bool false)))), none⟩]
@[simp] def r9_8 : List HOp := [⟨(some 50), false, .mv (.env 11), none⟩,
       ⟨(some 51), false, .bin .other .add (.loc 50) (.val (.tr (.sc (.int .i64 1)))), none⟩,
       ⟨(some 11), true, .mv (.loc 51), none⟩]
@[simp] def r9_9 : List HOp := [⟨(some 10), true, .mv (.val (.tr (.sc (.bool true)))), none⟩]
@[simp] def k9_1 : HCode := .cond (.loc 43) (.region r9_2 none) .skip
@[simp] def k9_6 : HCode := .cond (.loc 49) .skip (.exit 0)
@[simp] def k9_9 : HCode := .seq (.region r9_7 none) .ret
@[simp] def k9_8 : HCode := .cond (.loc 57) k9_9 .skip
def k9_10 : HCode := .region r9_8 none
def k9_7 : HCode := .seq (.block 1 (.seq (.region r9_6 none) k9_8)) k9_10
def k9_5 : HCode := .seq (.seq (.region r9_5 none) k9_6) k9_7
@[simp] def k9_4 : HCode := .block 0 (.loop k9_5)
def k9_11 : HCode := .seq (.region r9_9 none) .ret
@[simp] def k9_3 : HCode := .seq (.seq (.region r9_4 none) k9_4) k9_11
def k9_2 : HCode := .seq (.region r9_3 none) k9_3
@[simp] def k9_0 : HCode := .seq (.seq (.region r9_1 (some [ ( 1, [ 3 ] ) , ( 1, [ 4 ] ) , ( 0, [ 13 ] ) , ( 0, [ 12, 14 ] ) , ( 0, [ 15 ] ) , ( 0, [ 0, 16 ] ) , ( 1, [ 4, 16 ] ) , ( 1, [ 3, 16 ] ) , ( 2, [ 18, 19, 16 ] ) , ( 0, [ 20, 16 ] ) , ( 2, [ 21, 16 ] ) , ( 0, [ 17, 22, 16 ] ) , ( 0, [ 16, 23 ] ) , ( 0, [ 24 ] ) , ( 0, [ 1, 25 ] ) , ( 1, [ 4, 25 ] ) , ( 1, [ 3, 25 ] ) , ( 2, [ 27, 28, 25 ] ) , ( 0, [ 29, 25 ] ) , ( 2, [ 30, 25 ] ) , ( 0, [ 26, 31, 25 ] ) , ( 0, [ 25, 32 ] ) , ( 0, [ 33 ] ) , ( 0, [ 9, 34 ] ) , ( 1, [ 4, 34 ] ) , ( 1, [ 3, 34 ] ) , ( 2, [ 36, 37, 34 ] ) , ( 0, [ 38, 34 ] ) , ( 2, [ 39, 34 ] ) , ( 2, [ 35, 40, 34 ] ) , ( 0, [ 41, 34 ] ) , ( 0, [ 34, 42 ] ) ])) k9_1) k9_2
@[simp] def fn9 : HFn := { nargs := 7, results := [.tmp 10], mode := .shared, code := (.seq (.region r9_0 none) k9_0) }
theorem c9 : cFn Tryd.prog (Hs 9) .shared 9 = some fn9 := by kernel_rfl
/- sterling/sterlingref7.Eq -/
@[simp] def r10_0 : List HOp := [⟨(some 2), true, .box true (.env 0), none⟩,
     ⟨(some 3), true, .box true (.env 1), none⟩,
     ⟨(some 4), true, .mv (.val (.tr (.sc (.bool false)))), none⟩]
@[simp] def r10_1 : List HOp := [⟨(some 6), false, .faddr 0 (.env 2), none⟩,
      ⟨(some 7), false, .load 1 false (.loc 6), none⟩,
      ⟨(some 8), false, .faddr 0 (.env 3), none⟩,
      ⟨(some 9), false, .load 1 false (.loc 8), none⟩,
      ⟨(some 10), false, .bin .other .neq (.loc 7) (.loc 9), none⟩,
      ⟨(some 11), false, .mv (.loc 10), none⟩,
      ⟨(some 12), false, .faddr 2 (.env 2), some ((.loc 11), false)⟩,
      ⟨(some 13), false, .load 1 false (.loc 12), some ((.loc 11), false)⟩,
      ⟨(some 14), false, .faddr 2 (.env 3), some ((.loc 11), false)⟩,
      ⟨(some 15), false, .load 1 false (.loc 14), some ((.loc 11), false)⟩,
      ⟨(some 16), false, .bin .other .neq (.loc 13) (.loc 15), some ((.loc 11), false)⟩,
      ⟨(some 17), false, .pick (.loc 11) (.val (.tr (.sc (.bool true)))) (.loc 16), none⟩,
      ⟨(some 18), false, .mv (.loc 17), none⟩,
      ⟨(some 19), false, .faddr 3 (.env 2), some ((.loc 18), false)⟩,
      ⟨(some 20), false, .load 1 false (.loc 19), some ((.loc 18), false)⟩,
      ⟨(some 21), false, .len 1 (.loc 20), some ((.loc 18), false)⟩,
      ⟨(some 22), false, .faddr 3 (.env 3), some ((.loc 18), false)⟩,
      ⟨(some 23), false, .load 1 false (.loc 22), some ((.loc 18), false)⟩,
      ⟨(some 24), false, .len 1 (.loc 23), some ((.loc 18), false)⟩,
      ⟨(some 25), false, .bin .other .neq (.loc 21) (.loc 24), some ((.loc 18), false)⟩,
      ⟨(some 26), false, .pick (.loc 18) (.val (.tr (.sc (.bool true)))) (.loc 25), none⟩]
@[simp] def r10_2 : List HOp := [⟨(some 4), true, .mv (.val (.tr (.sc (.bool false)))), none⟩]
@[simp] def r10_3 : List HOp := [⟨(some 5), true, .mv (.val (.tr (.sc (.int .i64 0)))), none⟩]
@[simp] def r10_4 : List HOp := [⟨(some 27), false, .mv (.env 5), none⟩,
         ⟨(some 28), false, .faddr 3 (.env 2), none⟩,
         ⟨(some 29), false, .load 1 false (.loc 28), none⟩,
         ⟨(some 30), false, .len 1 (.loc 29), none⟩,
         ⟨(some 31), false, .bin .other .lss (.loc 27) (.loc 30), none⟩]
@[simp] def r10_5 : List HOp := [⟨(some 34), false, .faddr 3 (.env 2), none⟩,
          ⟨(some 35), false, .ldt 1 false (.loc 34), none⟩,
          ⟨(some 36), false, .mv (.env 5), none⟩,
          ⟨(some 37), false, .iaddr 4 (.loc 35) (.loc 36), none⟩,
          ⟨(some 38), false, .load 4 true (.loc 37), none⟩,
          ⟨(some 39), false, .faddr 3 (.env 3), none⟩,
          ⟨(some 40), false, .ldt 1 false (.loc 39), none⟩,
          ⟨(some 41), false, .mv (.env 5), none⟩,
          ⟨(some 42), false, .iaddr 4 (.loc 40) (.loc 41), none⟩,
          ⟨(some 43), false, .load 4 true (.loc 42), none⟩,
          ⟨(some 44), false, .callf 10 [(.loc 38), (.loc 43)], none⟩,
          ⟨(some 45), false, .un .not (.loc 44), none⟩]
@[simp] def r10_6 : List HOp := [⟨(some 4), true, .mv (.val (.tr (.sc (.bool false)))), none⟩]
@[simp] def r10_7 : List HOp := [⟨(some 32), false, .mv (.env 5), none⟩,
       ⟨(some 33), false, .bin .other .add (.loc 32) (.val (.tr (.sc (.int .i64 1)))), none⟩,
       ⟨(some 5), true, .mv (.loc 33), none⟩]
@[simp] def r10_8 : List HOp := [⟨(some 4), true, .mv (.val (.tr (.sc (.bool true)))), none⟩]
@[simp] def k10_2 : HCode := .seq (.region r10_2 none) .ret
@[simp] def k10_1 : HCode := .cond (.loc 26) k10_2 .skip
@[simp] def k10_6 : HCode := .cond (.loc 31) .skip (.exit 0)
@[simp] def k10_9 : HCode := .seq (.region r10_6 none) .ret
@[simp] def k10_8 : HCode := .cond (.loc 45) k10_9 .skip
def k10_10 : HCode := .region r10_7 none
def k10_7 : HCode := .seq (.block 1 (.seq (.region r10_5 (some [ ( 0, [ 2 ] ) , ( 0, [ 34 ] ) , ( 0, [ 5 ] ) , ( 1, [ 35, 36 ] ) , ( 1, [ 37 ] ) , ( 0, [ 3 ] ) , ( 0, [ 39 ] ) , ( 0, [ 5 ] ) , ( 1, [ 40, 41 ] ) , ( 1, [ 42 ] ) , ( 2, [ 38, 43 ] ) , ( 0, [ 44 ] ) ])) k10_8)) k10_10
def k10_5 : HCode := .seq (.seq (.region r10_4 none) k10_6) k10_7
@[simp] def k10_4 : HCode := .block 0 (.loop k10_5)
def k10_11 : HCode := .seq (.region r10_8 none) .ret
def k10_3 : HCode := .seq (.seq (.region r10_3 none) k10_4) k10_11
@[simp] def k10_0 : HCode := .seq (.seq (.region r10_1 none) k10_1) k10_3
@[simp] def fn10 : HFn := { nargs := 2, results := [.tmp 4], mode := .iso, code := (.seq (.region r10_0 none) k10_0) }
theorem c10 : cFn Tryd.prog (Hs 10) .iso 10 = some fn10 := by kernel_rfl
/- sterling/sterlingref7.Depth -/
@[simp] def r14_0 : List HOp := [⟨(some 1), true, .box true (.env 0), none⟩,
     ⟨(some 2), true, .mv (.val (.tr (.sc (.int .i64 0)))), none⟩]
@[simp] def r14_1 : List HOp := [⟨(some 3), true, .mv (.val (.tr (.sc (.int .i64 0)))), none⟩]
@[simp] def r14_2 : List HOp := [⟨(some 4), true, .mv (.val (.tr (.sc (.int .i64 0)))), none⟩]
@[simp] def r14_3 : List HOp := [⟨(some 6), false, .mv (.env 4), none⟩,
         ⟨(some 7), false, .faddr 3 (.env 1), none⟩,
         ⟨(some 8), false, .load 1 false (.loc 7), none⟩,
         ⟨(some 9), false, .len 1 (.loc 8), none⟩,
         ⟨(some 10), false, .bin .other .lss (.loc 6) (.loc 9), none⟩]
@[simp] def r14_4 : List HOp := [⟨(some 13), false, .faddr 3 (.env 1), none⟩,
          ⟨(some 14), false, .load 1 false (.loc 13), none⟩,
          ⟨(some 15), false, .mv (.env 4), none⟩,
          ⟨(some 16), false, .iaddr 4 (.loc 14) (.loc 15), none⟩,
          ⟨(some 17), false, .load 4 true (.loc 16), none⟩,
          ⟨(some 18), false, .callf 14 [(.loc 17)], none⟩,
          ⟨(some 5), true, .mv (.loc 18), none⟩]
@[simp] def r14_5 : List HOp := [⟨(some 19), false, .mv (.env 5), none⟩,
          ⟨(some 20), false, .mv (.env 3), none⟩,
          ⟨(some 21), false, .bin .other .gtr (.loc 19) (.loc 20), none⟩]
@[simp] def r14_6 : List HOp := [⟨(some 22), false, .mv (.env 5), none⟩,
          ⟨(some 3), true, .mv (.loc 22), none⟩]
@[simp] def r14_7 : List HOp := [⟨(some 11), false, .mv (.env 4), none⟩,
       ⟨(some 12), false, .bin .other .add (.loc 11) (.val (.tr (.sc (.int .i64 1)))), none⟩,
       ⟨(some 4), true, .mv (.loc 12), none⟩]
@[simp] def r14_8 : List HOp := [⟨(some 23), false, .mv (.env 3), none⟩,
     ⟨(some 24), false, .bin .other .add (.loc 23) (.val (.tr (.sc (.int .i64 1)))), none⟩,
     ⟨(some 2), true, .mv (.loc 24), none⟩]
@[simp] def k14_4 : HCode := .cond (.loc 10) .skip (.exit 0)
@[simp] def k14_7 : HCode := .cond (.loc 21) (.region r14_6 none) .skip
@[simp] def k14_6 : HCode := .seq (.region r14_5 none) k14_7
def k14_8 : HCode := .region r14_7 none
def k14_5 : HCode := .seq (.block 1 (.seq (.region r14_4 none) k14_6)) k14_8
def k14_3 : HCode := .seq (.seq (.region r14_3 none) k14_4) k14_5
@[simp] def k14_2 : HCode := .block 0 (.loop k14_3)
def k14_9 : HCode := .seq (.region r14_8 none) .ret
@[simp] def k14_1 : HCode := .seq (.seq (.region r14_2 none) k14_2) k14_9
@[simp] def k14_0 : HCode := .seq (.region r14_1 none) k14_1
@[simp] def fn14 : HFn := { nargs := 1, results := [.tmp 2], mode := .iso, code := (.seq (.region r14_0 none) k14_0) }
theorem c14 : cFn Tryd.prog (Hs 14) .iso 14 = some fn14 := by kernel_rfl
/- sterling/sterlinglaw6.TreeEq -/
@[simp] def r4_0 : List HOp := [⟨(some 2), true, .box false (.env 0), none⟩,
     ⟨(some 3), true, .box false (.env 1), none⟩,
     ⟨(some 4), true, .mv (.val (.tr (.sc (.bool false)))), none⟩]
@[simp] def r4_1 : List HOp := [⟨(some 6), false, .callf 5 [], none⟩,
     ⟨(some 5), true, .mv (.loc 6), none⟩]
@[simp] def r4_2 : List HOp := [⟨(some 7), false, .load 4 true (.env 2), none⟩,
     ⟨(some 8), false, .callf 6 [(.loc 7)], none⟩,
     ⟨(some 9), false, .load 4 true (.env 3), none⟩,
     ⟨(some 10), false, .callf 6 [(.loc 9)], none⟩,
     ⟨none, false, .store 4 (.env 2) (.loc 8), none⟩,
     ⟨none, false, .store 4 (.env 3) (.loc 10), none⟩]
@[simp] def r4_3 : List HOp := [⟨(some 11), false, .mv (.env 5), none⟩,
     ⟨(some 12), false, .mv (.loc 11), none⟩,
     ⟨(some 13), false, .load 4 true (.env 2), some ((.loc 12), true)⟩,
     ⟨(some 14), false, .load 4 true (.env 3), some ((.loc 12), true)⟩,
     ⟨(some 15), false, .callf 15 [(.loc 13), (.loc 14)], some ((.loc 12), true)⟩,
     ⟨(some 16), false, .load 4 true (.env 2), some ((.loc 12), true)⟩,
     ⟨(some 17), false, .load 4 true (.env 3), some ((.loc 12), true)⟩,
     ⟨(some 18), false, .callf 10 [(.loc 16), (.loc 17)], some ((.loc 12), true)⟩,
     ⟨(some 19), false, .bin .bool .eql (.loc 15) (.loc 18), some ((.loc 12), true)⟩,
     ⟨(some 20), false, .pick (.loc 12) (.loc 19) (.val (.tr (.sc (.bool false)))), none⟩,
     ⟨(some 21), false, .mv (.loc 20), none⟩,
     ⟨(some 22), false, .load 4 true (.env 2), some ((.loc 21), true)⟩,
     ⟨(some 23), false, .load 4 true (.env 2), some ((.loc 21), true)⟩,
     ⟨(some 24), false, .callf 15 [(.loc 22), (.loc 23)], some ((.loc 21), true)⟩,
     ⟨(some 25), false, .pick (.loc 21) (.loc 24) (.val (.tr (.sc (.bool false)))), none⟩,
     ⟨(some 26), false, .mv (.loc 25), none⟩,
     ⟨(some 27), false, .load 4 true (.env 2), some ((.loc 26), true)⟩,
     ⟨(some 28), false, .load 4 true (.env 3), some ((.loc 26), true)⟩,
     ⟨(some 29), false, .callf 15 [(.loc 27), (.loc 28)], some ((.loc 26), true)⟩,
     ⟨(some 30), false, .load 4 true (.env 3), some ((.loc 26), true)⟩,
     ⟨(some 31), false, .load 4 true (.env 2), some ((.loc 26), true)⟩,
     ⟨(some 32), false, .callf 15 [(.loc 30), (.loc 31)], some ((.loc 26), true)⟩,
     ⟨(some 33), false, .bin .bool .eql (.loc 29) (.loc 32), some ((.loc 26), true)⟩,
     ⟨(some 34), false, .pick (.loc 26) (.loc 33) (.val (.tr (.sc (.bool false)))), none⟩,
     ⟨(some 4), true, .mv (.loc 34), none⟩]
@[simp] def k4_2 : HCode := .seq (.region r4_3 (some [ ( 0, [ 5 ] ) , ( 0, [ 11 ] ) , ( 1, [ 2, 12 ] ) , ( 1, [ 3, 12 ] ) , ( 1, [ 13, 14, 12 ] ) , ( 1, [ 2, 12 ] ) , ( 1, [ 3, 12 ] ) , ( 2, [ 16, 17, 12 ] ) , ( 0, [ 15, 18, 12 ] ) , ( 0, [ 12, 19 ] ) , ( 0, [ 20 ] ) , ( 1, [ 2, 21 ] ) , ( 1, [ 2, 21 ] ) , ( 2, [ 22, 23, 21 ] ) , ( 0, [ 21, 24 ] ) , ( 0, [ 25 ] ) , ( 1, [ 2, 26 ] ) , ( 1, [ 3, 26 ] ) , ( 1, [ 27, 28, 26 ] ) , ( 1, [ 3, 26 ] ) , ( 1, [ 2, 26 ] ) , ( 2, [ 30, 31, 26 ] ) , ( 0, [ 29, 32, 26 ] ) , ( 0, [ 26, 33 ] ) , ( 0, [ 34 ] ) ])) .ret
@[simp] def k4_1 : HCode := .seq (.region r4_2 (some [ ( 1, [ 2 ] ) , ( 1, [ 7 ] ) , ( 1, [ 3 ] ) , ( 2, [ 9 ] ) , ( 2, [ 2, 8 ] ) , ( 2, [ 3, 10 ] ) ])) k4_2
@[simp] def k4_0 : HCode := .seq (.region r4_1 none) k4_1
@[simp] def fn4 : HFn := { nargs := 2, results := [.tmp 4], mode := .shared, code := (.seq (.region r4_0 none) k4_0) }
theorem c4 : cFn Tryd.prog (Hs 4) .shared 4 = some fn4 := by kernel_rfl
noncomputable def T : FTab := fun f => (bif2 (Nat.ble f 25) (bif2 (Nat.ble f 13) (bif2 (Nat.ble f 7) (bif2 (Nat.ble f 4) (bif2 (Nat.ble f 3) (bif2 (Nat.beq f 3) (some fn3) none) (bif2 (Nat.beq f 4) (some fn4) none)) (bif2 (Nat.ble f 5) (bif2 (Nat.beq f 5) (some fn5) none) (bif2 (Nat.ble f 6) (bif2 (Nat.beq f 6) (some fn6) none) (bif2 (Nat.beq f 7) (some fn7) none)))) (bif2 (Nat.ble f 10) (bif2 (Nat.ble f 8) (bif2 (Nat.beq f 8) (some fn8) none) (bif2 (Nat.ble f 9) (bif2 (Nat.beq f 9) (some fn9) none) (bif2 (Nat.beq f 10) (some fn10) none))) (bif2 (Nat.ble f 11) (bif2 (Nat.beq f 11) (some fn11) none) (bif2 (Nat.ble f 12) (bif2 (Nat.beq f 12) (some fn12) none) (bif2 (Nat.beq f 13) (some fn13) none))))) (bif2 (Nat.ble f 19) (bif2 (Nat.ble f 16) (bif2 (Nat.ble f 14) (bif2 (Nat.beq f 14) (some fn14) none) (bif2 (Nat.ble f 15) (bif2 (Nat.beq f 15) (some fn15) none) (bif2 (Nat.beq f 16) (some fn16) none))) (bif2 (Nat.ble f 17) (bif2 (Nat.beq f 17) (some fn17) none) (bif2 (Nat.ble f 18) (bif2 (Nat.beq f 18) (some fn18) none) (bif2 (Nat.beq f 19) (some fn19) none)))) (bif2 (Nat.ble f 22) (bif2 (Nat.ble f 20) (bif2 (Nat.beq f 20) (some fn20) none) (bif2 (Nat.ble f 21) (bif2 (Nat.beq f 21) (some fn21) none) (bif2 (Nat.beq f 22) (some fn22) none))) (bif2 (Nat.ble f 23) (bif2 (Nat.beq f 23) (some fn23) none) (bif2 (Nat.ble f 24) (bif2 (Nat.beq f 24) (some fn24) none) (bif2 (Nat.beq f 25) (some fn25) none)))))) (bif2 (Nat.ble f 36) (bif2 (Nat.ble f 30) (bif2 (Nat.ble f 27) (bif2 (Nat.ble f 26) (bif2 (Nat.beq f 26) (some fn26) none) (bif2 (Nat.beq f 27) (some fn27) none)) (bif2 (Nat.ble f 28) (bif2 (Nat.beq f 28) (some fn28) none) (bif2 (Nat.ble f 29) (bif2 (Nat.beq f 29) (some fn29) none) (bif2 (Nat.beq f 30) (some fn30) none)))) (bif2 (Nat.ble f 33) (bif2 (Nat.ble f 31) (bif2 (Nat.beq f 31) (some fn31) none) (bif2 (Nat.ble f 32) (bif2 (Nat.beq f 32) (some fn32) none) (bif2 (Nat.beq f 33) (some fn33) none))) (bif2 (Nat.ble f 34) (bif2 (Nat.beq f 34) (some fn34) none) (bif2 (Nat.ble f 35) (bif2 (Nat.beq f 35) (some fn35) none) (bif2 (Nat.beq f 36) (some fn36) none))))) (bif2 (Nat.ble f 47) (bif2 (Nat.ble f 41) (bif2 (Nat.ble f 38) (bif2 (Nat.beq f 38) (some fn38) none) (bif2 (Nat.ble f 40) (bif2 (Nat.beq f 40) (some fn40) none) (bif2 (Nat.beq f 41) (some fn41) none))) (bif2 (Nat.ble f 43) (bif2 (Nat.beq f 43) (some fn43) none) (bif2 (Nat.ble f 46) (bif2 (Nat.beq f 46) (some fn46) none) (bif2 (Nat.beq f 47) (some fn47) none)))) (bif2 (Nat.ble f 51) (bif2 (Nat.ble f 49) (bif2 (Nat.beq f 49) (some fn49) none) (bif2 (Nat.ble f 50) (bif2 (Nat.beq f 50) (some fn50) none) (bif2 (Nat.beq f 51) (some fn51) none))) (bif2 (Nat.ble f 56) (bif2 (Nat.beq f 56) (some fn56) none) (bif2 (Nat.ble f 57) (bif2 (Nat.beq f 57) (some fn57) none) (bif2 (Nat.beq f 60) (some fn60) none)))))))
theorem T3 : T 3 = some fn3 := rfl
theorem T4 : T 4 = some fn4 := rfl
theorem T5 : T 5 = some fn5 := rfl
theorem T6 : T 6 = some fn6 := rfl
theorem T7 : T 7 = some fn7 := rfl
theorem T8 : T 8 = some fn8 := rfl
theorem T9 : T 9 = some fn9 := rfl
theorem T10 : T 10 = some fn10 := rfl
theorem T11 : T 11 = some fn11 := rfl
theorem T12 : T 12 = some fn12 := rfl
theorem T13 : T 13 = some fn13 := rfl
theorem T14 : T 14 = some fn14 := rfl
theorem T15 : T 15 = some fn15 := rfl
theorem T16 : T 16 = some fn16 := rfl
theorem T17 : T 17 = some fn17 := rfl
theorem T18 : T 18 = some fn18 := rfl
theorem T19 : T 19 = some fn19 := rfl
theorem T20 : T 20 = some fn20 := rfl
theorem T21 : T 21 = some fn21 := rfl
theorem T22 : T 22 = some fn22 := rfl
theorem T23 : T 23 = some fn23 := rfl
theorem T24 : T 24 = some fn24 := rfl
theorem T25 : T 25 = some fn25 := rfl
theorem T26 : T 26 = some fn26 := rfl
theorem T27 : T 27 = some fn27 := rfl
theorem T28 : T 28 = some fn28 := rfl
theorem T29 : T 29 = some fn29 := rfl
theorem T30 : T 30 = some fn30 := rfl
theorem T31 : T 31 = some fn31 := rfl
theorem T32 : T 32 = some fn32 := rfl
theorem T33 : T 33 = some fn33 := rfl
theorem T34 : T 34 = some fn34 := rfl
theorem T35 : T 35 = some fn35 := rfl
theorem T36 : T 36 = some fn36 := rfl
theorem T38 : T 38 = some fn38 := rfl
theorem T40 : T 40 = some fn40 := rfl
theorem T41 : T 41 = some fn41 := rfl
theorem T43 : T 43 = some fn43 := rfl
theorem T46 : T 46 = some fn46 := rfl
theorem T47 : T 47 = some fn47 := rfl
theorem T49 : T 49 = some fn49 := rfl
theorem T50 : T 50 = some fn50 := rfl
theorem T51 : T 51 = some fn51 := rfl
theorem T56 : T 56 = some fn56 := rfl
theorem T57 : T 57 = some fn57 := rfl
theorem T60 : T 60 = some fn60 := rfl
theorem tabOk {Gd : Ground} (hg : GroundOk Gd) (he : ∀ f n k, Te f = some (n, k) → ExtOk Gd Tryd.prog f k) : TabOk Gd Tryd.prog T := by
  refine ⟨hg, fun f hfn h => ?_⟩
  unfold T at h
  rcases bif2_or h with ⟨_, h⟩ | ⟨_, h⟩
  · rcases bif2_or h with ⟨_, h⟩ | ⟨_, h⟩
    · rcases bif2_or h with ⟨_, h⟩ | ⟨_, h⟩
      · rcases bif2_or h with ⟨_, h⟩ | ⟨_, h⟩
        · rcases bif2_or h with ⟨_, h⟩ | ⟨_, h⟩
          · obtain ⟨hb, h⟩ := bif2_some h
            cases h
            rw [Nat.eq_of_beq_eq_true hb]
            exact .inl ⟨fun k hk => (by cases hk), Hs 3, c3⟩
          · obtain ⟨hb, h⟩ := bif2_some h
            cases h
            rw [Nat.eq_of_beq_eq_true hb]
            exact .inl ⟨fun k hk => (by cases hk), Hs 4, c4⟩
        · rcases bif2_or h with ⟨_, h⟩ | ⟨_, h⟩
          · obtain ⟨hb, h⟩ := bif2_some h
            cases h
            rw [Nat.eq_of_beq_eq_true hb]
            exact .inl ⟨fun k hk => (by cases hk), Hs 5, c5⟩
          · rcases bif2_or h with ⟨_, h⟩ | ⟨_, h⟩
            · obtain ⟨hb, h⟩ := bif2_some h
              cases h
              rw [Nat.eq_of_beq_eq_true hb]
              exact .inl ⟨fun k hk => (by cases hk), Hs 6, c6⟩
            · obtain ⟨hb, h⟩ := bif2_some h
              cases h
              rw [Nat.eq_of_beq_eq_true hb]
              exact .inl ⟨fun k hk => (by cases hk), Hs 7, c7⟩
      · rcases bif2_or h with ⟨_, h⟩ | ⟨_, h⟩
        · rcases bif2_or h with ⟨_, h⟩ | ⟨_, h⟩
          · obtain ⟨hb, h⟩ := bif2_some h
            cases h
            rw [Nat.eq_of_beq_eq_true hb]
            exact .inl ⟨fun k hk => (by cases hk), Hs 8, c8⟩
          · rcases bif2_or h with ⟨_, h⟩ | ⟨_, h⟩
            · obtain ⟨hb, h⟩ := bif2_some h
              cases h
              rw [Nat.eq_of_beq_eq_true hb]
              exact .inl ⟨fun k hk => (by cases hk), Hs 9, c9⟩
            · obtain ⟨hb, h⟩ := bif2_some h
              cases h
              rw [Nat.eq_of_beq_eq_true hb]
              exact .inl ⟨fun k hk => (by cases hk), Hs 10, c10⟩
        · rcases bif2_or h with ⟨_, h⟩ | ⟨_, h⟩
          · obtain ⟨hb, h⟩ := bif2_some h
            cases h
            rw [Nat.eq_of_beq_eq_true hb]
            exact .inl ⟨fun k hk => (by cases hk), Hs 11, c11⟩
          · rcases bif2_or h with ⟨_, h⟩ | ⟨_, h⟩
            · obtain ⟨hb, h⟩ := bif2_some h
              cases h
              rw [Nat.eq_of_beq_eq_true hb]
              exact .inl ⟨fun k hk => (by cases hk), Hs 12, c12⟩
            · obtain ⟨hb, h⟩ := bif2_some h
              cases h
              rw [Nat.eq_of_beq_eq_true hb]
              exact .inl ⟨fun k hk => (by cases hk), Hs 13, c13⟩
    · rcases bif2_or h with ⟨_, h⟩ | ⟨_, h⟩
      · rcases bif2_or h with ⟨_, h⟩ | ⟨_, h⟩
        · rcases bif2_or h with ⟨_, h⟩ | ⟨_, h⟩
          · obtain ⟨hb, h⟩ := bif2_some h
            cases h
            rw [Nat.eq_of_beq_eq_true hb]
            exact .inl ⟨fun k hk => (by cases hk), Hs 14, c14⟩
          · rcases bif2_or h with ⟨_, h⟩ | ⟨_, h⟩
            · obtain ⟨hb, h⟩ := bif2_some h
              cases h
              rw [Nat.eq_of_beq_eq_true hb]
              exact .inl ⟨fun k hk => (by cases hk), Hs 15, c15⟩
            · obtain ⟨hb, h⟩ := bif2_some h
              cases h
              rw [Nat.eq_of_beq_eq_true hb]
              exact .inl ⟨fun k hk => (by cases hk), Hs 16, c16⟩
        · rcases bif2_or h with ⟨_, h⟩ | ⟨_, h⟩
          · obtain ⟨hb, h⟩ := bif2_some h
            cases h
            rw [Nat.eq_of_beq_eq_true hb]
            exact .inl ⟨fun k hk => (by cases hk), Hs 17, c17⟩
          · rcases bif2_or h with ⟨_, h⟩ | ⟨_, h⟩
            · obtain ⟨hb, h⟩ := bif2_some h
              cases h
              rw [Nat.eq_of_beq_eq_true hb]
              exact .inl ⟨fun k hk => (by cases hk), Hs 18, c18⟩
            · obtain ⟨hb, h⟩ := bif2_some h
              cases h
              rw [Nat.eq_of_beq_eq_true hb]
              exact .inl ⟨fun k hk => (by cases hk), Hs 19, c19⟩
      · rcases bif2_or h with ⟨_, h⟩ | ⟨_, h⟩
        · rcases bif2_or h with ⟨_, h⟩ | ⟨_, h⟩
          · obtain ⟨hb, h⟩ := bif2_some h
            cases h
            rw [Nat.eq_of_beq_eq_true hb]
            exact .inl ⟨fun k hk => (by cases hk), Hs 20, c20⟩
          · rcases bif2_or h with ⟨_, h⟩ | ⟨_, h⟩
            · obtain ⟨hb, h⟩ := bif2_some h
              cases h
              rw [Nat.eq_of_beq_eq_true hb]
              exact .inl ⟨fun k hk => (by cases hk), Hs 21, c21⟩
            · obtain ⟨hb, h⟩ := bif2_some h
              cases h
              rw [Nat.eq_of_beq_eq_true hb]
              exact .inl ⟨fun k hk => (by cases hk), Hs 22, c22⟩
        · rcases bif2_or h with ⟨_, h⟩ | ⟨_, h⟩
          · obtain ⟨hb, h⟩ := bif2_some h
            cases h
            rw [Nat.eq_of_beq_eq_true hb]
            exact .inl ⟨fun k hk => (by cases hk), Hs 23, c23⟩
          · rcases bif2_or h with ⟨_, h⟩ | ⟨_, h⟩
            · obtain ⟨hb, h⟩ := bif2_some h
              cases h
              rw [Nat.eq_of_beq_eq_true hb]
              exact .inl ⟨fun k hk => (by cases hk), Hs 24, c24⟩
            · obtain ⟨hb, h⟩ := bif2_some h
              cases h
              rw [Nat.eq_of_beq_eq_true hb]
              exact .inl ⟨fun k hk => (by cases hk), Hs 25, c25⟩
  · rcases bif2_or h with ⟨_, h⟩ | ⟨_, h⟩
    · rcases bif2_or h with ⟨_, h⟩ | ⟨_, h⟩
      · rcases bif2_or h with ⟨_, h⟩ | ⟨_, h⟩
        · rcases bif2_or h with ⟨_, h⟩ | ⟨_, h⟩
          · obtain ⟨hb, h⟩ := bif2_some h
            cases h
            rw [Nat.eq_of_beq_eq_true hb]
            exact .inl ⟨fun k hk => (by cases hk), Hs 26, c26⟩
          · obtain ⟨hb, h⟩ := bif2_some h
            cases h
            rw [Nat.eq_of_beq_eq_true hb]
            exact .inl ⟨fun k hk => (by cases hk), Hs 27, c27⟩
        · rcases bif2_or h with ⟨_, h⟩ | ⟨_, h⟩
          · obtain ⟨hb, h⟩ := bif2_some h
            cases h
            rw [Nat.eq_of_beq_eq_true hb]
            exact .inl ⟨fun k hk => (by cases hk), Hs 28, c28⟩
          · rcases bif2_or h with ⟨_, h⟩ | ⟨_, h⟩
            · obtain ⟨hb, h⟩ := bif2_some h
              cases h
              rw [Nat.eq_of_beq_eq_true hb]
              exact .inl ⟨fun k hk => (by cases hk), Hs 29, c29⟩
            · obtain ⟨hb, h⟩ := bif2_some h
              cases h
              rw [Nat.eq_of_beq_eq_true hb]
              exact .inl ⟨fun k hk => (by cases hk), Hs 30, c30⟩
      · rcases bif2_or h with ⟨_, h⟩ | ⟨_, h⟩
        · rcases bif2_or h with ⟨_, h⟩ | ⟨_, h⟩
          · obtain ⟨hb, h⟩ := bif2_some h
            cases h
            rw [Nat.eq_of_beq_eq_true hb]
            exact .inl ⟨fun k hk => (by cases hk), Hs 31, c31⟩
          · rcases bif2_or h with ⟨_, h⟩ | ⟨_, h⟩
            · obtain ⟨hb, h⟩ := bif2_some h
              cases h
              rw [Nat.eq_of_beq_eq_true hb]
              exact .inl ⟨fun k hk => (by cases hk), Hs 32, c32⟩
            · obtain ⟨hb, h⟩ := bif2_some h
              cases h
              rw [Nat.eq_of_beq_eq_true hb]
              exact .inl ⟨fun k hk => (by cases hk), Hs 33, c33⟩
        · rcases bif2_or h with ⟨_, h⟩ | ⟨_, h⟩
          · obtain ⟨hb, h⟩ := bif2_some h
            cases h
            rw [Nat.eq_of_beq_eq_true hb]
            exact .inl ⟨fun k hk => (by cases hk), Hs 34, c34⟩
          · rcases bif2_or h with ⟨_, h⟩ | ⟨_, h⟩
            · obtain ⟨hb, h⟩ := bif2_some h
              cases h
              rw [Nat.eq_of_beq_eq_true hb]
              exact .inl ⟨fun k hk => (by cases hk), Hs 35, c35⟩
            · obtain ⟨hb, h⟩ := bif2_some h
              cases h
              rw [Nat.eq_of_beq_eq_true hb]
              exact .inl ⟨fun k hk => (by cases hk), Hs 36, c36⟩
    · rcases bif2_or h with ⟨_, h⟩ | ⟨_, h⟩
      · rcases bif2_or h with ⟨_, h⟩ | ⟨_, h⟩
        · rcases bif2_or h with ⟨_, h⟩ | ⟨_, h⟩
          · obtain ⟨hb, h⟩ := bif2_some h
            cases h
            rw [Nat.eq_of_beq_eq_true hb]
            exact .inl ⟨fun k hk => (by cases hk), Hs 38, c38⟩
          · rcases bif2_or h with ⟨_, h⟩ | ⟨_, h⟩
            · obtain ⟨hb, h⟩ := bif2_some h
              cases h
              rw [Nat.eq_of_beq_eq_true hb]
              exact .inl ⟨fun k hk => (by cases hk), Hs 40, c40⟩
            · obtain ⟨hb, h⟩ := bif2_some h
              cases h
              rw [Nat.eq_of_beq_eq_true hb]
              exact .inl ⟨fun k hk => (by cases hk), Hs 41, c41⟩
        · rcases bif2_or h with ⟨_, h⟩ | ⟨_, h⟩
          · obtain ⟨hb, h⟩ := bif2_some h
            cases h
            rw [Nat.eq_of_beq_eq_true hb]
            exact .inl ⟨fun k hk => (by cases hk), Hs 43, c43⟩
          · rcases bif2_or h with ⟨_, h⟩ | ⟨_, h⟩
            · obtain ⟨hb, h⟩ := bif2_some h
              cases h
              rw [Nat.eq_of_beq_eq_true hb]
              exact .inl ⟨fun k hk => (by cases hk), Hs 46, c46⟩
            · obtain ⟨hb, h⟩ := bif2_some h
              cases h
              rw [Nat.eq_of_beq_eq_true hb]
              exact .inl ⟨fun k hk => (by cases hk), Hs 47, c47⟩
      · rcases bif2_or h with ⟨_, h⟩ | ⟨_, h⟩
        · rcases bif2_or h with ⟨_, h⟩ | ⟨_, h⟩
          · obtain ⟨hb, h⟩ := bif2_some h
            cases h
            rw [Nat.eq_of_beq_eq_true hb]
            exact .inl ⟨fun k hk => (by cases hk), Hs 49, c49⟩
          · rcases bif2_or h with ⟨_, h⟩ | ⟨_, h⟩
            · obtain ⟨hb, h⟩ := bif2_some h
              cases h
              rw [Nat.eq_of_beq_eq_true hb]
              exact .inl ⟨fun k hk => (by cases hk), Hs 50, c50⟩
            · obtain ⟨hb, h⟩ := bif2_some h
              cases h
              rw [Nat.eq_of_beq_eq_true hb]
              exact .inl ⟨fun k hk => (by cases hk), Hs 51, c51⟩
        · rcases bif2_or h with ⟨_, h⟩ | ⟨_, h⟩
          · obtain ⟨hb, h⟩ := bif2_some h
            cases h
            rw [Nat.eq_of_beq_eq_true hb]
            exact .inl ⟨fun k hk => (by cases hk), Hs 56, c56⟩
          · rcases bif2_or h with ⟨_, h⟩ | ⟨_, h⟩
            · obtain ⟨hb, h⟩ := bif2_some h
              cases h
              rw [Nat.eq_of_beq_eq_true hb]
              exact .inl ⟨fun k hk => (by cases hk), Hs 57, c57⟩
            · obtain ⟨hb, h⟩ := bif2_some h
              cases h
              rw [Nat.eq_of_beq_eq_true hb]
              exact .inl ⟨fun k hk => (by cases hk), Hs 60, c60⟩
end Go.Proofs.YtimcmpndblajnaaDoor.AM.Tr
