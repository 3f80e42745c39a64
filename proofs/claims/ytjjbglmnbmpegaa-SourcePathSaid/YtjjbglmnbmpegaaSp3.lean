/- The regions of the functions walked by hand. -/
import Derived.Test.YtjjbglmnbmpegaaSp2
set_option maxRecDepth 1000000
set_option linter.unusedVariables false
set_option linter.unusedSimpArgs false
namespace Go.Proofs.Ytjjbglmnbmpegaa.AM.Sp
open Go.Proofs
def r5_0 : List HOp := [⟨(some 2), true, .mv (.val (.tr (.sc (.bool false)))), none⟩]
def r5_1 : List HOp := [⟨(some 5), false, .mv (.env 0), none⟩,
      ⟨(some 6), false, .bin .other .eql (.loc 5) (.val (.tr (.sc (.string ⟨⟨[]⟩⟩)))), none⟩,
      ⟨(some 7), false, .mv (.loc 6), none⟩,
      ⟨(some 8), false, .mv (.env 0), some ((.loc 7), false)⟩,
      ⟨(some 9), false, .len 0 (.loc 8), some ((.loc 7), false)⟩,
      ⟨(some 10), false, .bin .other .gtr (.loc 9) (.val (.tr (.sc (.int .i64 100)))), some ((.loc 7), false)⟩,
      ⟨(some 11), false, .pick (.loc 7) (.val (.tr (.sc (.bool true)))) (.loc 10), none⟩,
      ⟨(some 12), false, .mv (.loc 11), none⟩,
      ⟨(some 13), false, .mv (.env 0), some ((.loc 12), false)⟩,
      ⟨(some 14), false, .istr (.loc 13) (.val (.tr (.sc (.int .i64 0)))), some ((.loc 12), false)⟩,
      ⟨(some 15), false, .bin .other .eql (.loc 14) (.val (.tr (.sc (.int .u8 47)))), some ((.loc 12), false)⟩,
      ⟨(some 16), false, .pick (.loc 12) (.val (.tr (.sc (.bool true)))) (.loc 15), none⟩,
      ⟨(some 17), false, .mv (.loc 16), none⟩,
      ⟨(some 18), false, .mv (.env 0), some ((.loc 17), false)⟩,
      ⟨(some 19), false, .mv (.env 0), some ((.loc 17), false)⟩,
      ⟨(some 20), false, .len 0 (.loc 19), some ((.loc 17), false)⟩,
      ⟨(some 21), false, .bin .other .sub (.loc 20) (.val (.tr (.sc (.int .i64 1)))), some ((.loc 17), false)⟩,
      ⟨(some 22), false, .istr (.loc 18) (.loc 21), some ((.loc 17), false)⟩,
      ⟨(some 23), false, .bin .other .eql (.loc 22) (.val (.tr (.sc (.int .u8 47)))), some ((.loc 17), false)⟩,
      ⟨(some 24), false, .pick (.loc 17) (.val (.tr (.sc (.bool true)))) (.loc 23), none⟩]
def r5_3 : List HOp := [⟨(some 25), false, .mv (.env 0), none⟩,
      ⟨(some 26), true, .len 0 (.loc 25), none⟩,
      ⟨(some 27), true, .mv (.val (.tr (.sc (.int .i64 0)))), none⟩]
def r5_4 : List HOp := [⟨(some 28), false, .bin .other .lss (.env 27) (.env 26), none⟩]
def r5_5 : List HOp := [⟨(some 29), false, .mv (.env 27), none⟩,
          ⟨(some 3), true, .mv (.loc 29), none⟩]
def r5_6 : List HOp := [⟨(some 30), false, .mv (.env 0), none⟩,
          ⟨(some 31), false, .mv (.env 3), none⟩,
          ⟨(some 32), false, .istr (.loc 30) (.loc 31), none⟩,
          ⟨(some 4), true, .mv (.loc 32), none⟩]
def r5_7 : List HOp := [⟨(some 33), false, .mv (.env 4), none⟩,
          ⟨(some 34), false, .bin .other .or (.loc 33) (.val (.tr (.sc (.int .u8 32)))), none⟩,
          ⟨(some 35), false, .bin .other .lss (.loc 34) (.val (.tr (.sc (.int .u8 97)))), none⟩,
          ⟨(some 36), false, .mv (.loc 35), none⟩,
          ⟨(some 37), false, .mv (.env 4), some ((.loc 36), false)⟩,
          ⟨(some 38), false, .bin .other .or (.loc 37) (.val (.tr (.sc (.int .u8 32)))), some ((.loc 36), false)⟩,
          ⟨(some 39), false, .bin .other .gtr (.loc 38) (.val (.tr (.sc (.int .u8 122)))), some ((.loc 36), false)⟩,
          ⟨(some 40), false, .pick (.loc 36) (.val (.tr (.sc (.bool true)))) (.loc 39), none⟩,
          ⟨(some 41), false, .mv (.loc 40), none⟩,
          ⟨(some 42), false, .mv (.env 4), some ((.loc 41), true)⟩,
          ⟨(some 43), false, .bin .other .lss (.loc 42) (.val (.tr (.sc (.int .u8 48)))), some ((.loc 41), true)⟩,
          ⟨(some 44), false, .mv (.loc 43), some ((.loc 41), true)⟩,
          ⟨(some 45), false, .mv (.env 4), some ((.loc 44), false)⟩,
          ⟨(some 46), false, .bin .other .gtr (.loc 45) (.val (.tr (.sc (.int .u8 57)))), some ((.loc 44), false)⟩,
          ⟨(some 47), false, .pick (.loc 44) (.val (.tr (.sc (.bool true)))) (.loc 46), some ((.loc 41), true)⟩,
          ⟨(some 48), false, .pick (.loc 41) (.loc 47) (.val (.tr (.sc (.bool false)))), none⟩,
          ⟨(some 49), false, .mv (.loc 48), none⟩,
          ⟨(some 50), false, .mv (.env 0), some ((.loc 49), true)⟩,
          ⟨(some 51), false, .mv (.env 3), some ((.loc 49), true)⟩,
          ⟨(some 52), false, .mv (.env 3), some ((.loc 49), true)⟩,
          ⟨(some 53), false, .bin .other .add (.loc 52) (.val (.tr (.sc (.int .i64 1)))), some ((.loc 49), true)⟩,
          ⟨(some 54), false, .slicestr (.loc 50) (some (.loc 51)) (some (.loc 53)), some ((.loc 49), true)⟩,
          ⟨(some 55), false, .callf 10 [(.val (.tr (.sc (.string ⟨⟨[95, 47, 46, 45]⟩⟩)))), (.loc 54)], some ((.loc 49), true)⟩,
          ⟨(some 56), false, .un .not (.loc 55), some ((.loc 49), true)⟩,
          ⟨(some 57), false, .pick (.loc 49) (.loc 56) (.val (.tr (.sc (.bool false)))), none⟩]
def r5_9 : List HOp := [⟨(some 58), false, .bin .other .add (.env 27) (.val (.tr (.sc (.int .i64 1)))), none⟩,
       ⟨(some 27), true, .mv (.loc 58), none⟩]
def r5_10 : List HOp := [⟨(some 2), true, .mv (.val (.tr (.sc (.bool true)))), none⟩]
def fn5 : HFn := { nargs := 1, results := [.tmp 2], mode := .shared, code :=
  (.seq (.region r5_0 none)
  (.seq (.seq (.region r5_1 none)
   (.cond (.loc 24)
    (.seq (.region r5_0 none)
    .ret)
    .skip))
  (.seq (.seq (.region r5_3 none)
   (.block 0
    (.loop
     (.seq (.region r5_4 none)
     (.seq (.cond (.loc 28)
       .skip
       (.exit 0))
     (.seq (.block 1
       (.seq (.region r5_5 none)
       (.seq (.region r5_6 none)
       (.seq (.region r5_7 none)
       (.cond (.loc 57)
        (.seq (.region r5_0 none)
        .ret)
        .skip)))))
     (.region r5_9 none)))))))
  (.seq (.region r5_10 none)
  .ret)))) }
def r6_3 : List HOp := [⟨(some 3), true, .mv (.val (.tr (.sc (.int .i64 0)))), none⟩]
def r6_4 : List HOp := [⟨(some 25), false, .mv (.env 3), none⟩,
         ⟨(some 26), false, .mv (.env 0), none⟩,
         ⟨(some 27), false, .len 0 (.loc 26), none⟩,
         ⟨(some 28), false, .bin .other .lss (.loc 25) (.loc 27), none⟩]
def r6_5 : List HOp := [⟨(some 31), false, .mv (.env 0), none⟩,
          ⟨(some 32), false, .mv (.env 3), none⟩,
          ⟨(some 33), false, .istr (.loc 31) (.loc 32), none⟩,
          ⟨(some 4), true, .mv (.loc 33), none⟩]
def r6_6 : List HOp := [⟨(some 34), false, .mv (.env 4), none⟩,
          ⟨(some 35), false, .bin .other .geq (.loc 34) (.val (.tr (.sc (.int .u8 97)))), none⟩,
          ⟨(some 36), false, .mv (.loc 35), none⟩,
          ⟨(some 37), false, .mv (.env 4), some ((.loc 36), true)⟩,
          ⟨(some 38), false, .bin .other .leq (.loc 37) (.val (.tr (.sc (.int .u8 122)))), some ((.loc 36), true)⟩,
          ⟨(some 39), false, .pick (.loc 36) (.loc 38) (.val (.tr (.sc (.bool false)))), none⟩,
          ⟨(some 40), false, .mv (.loc 39), none⟩,
          ⟨(some 41), false, .mv (.env 4), some ((.loc 40), false)⟩,
          ⟨(some 42), false, .bin .other .geq (.loc 41) (.val (.tr (.sc (.int .u8 65)))), some ((.loc 40), false)⟩,
          ⟨(some 43), false, .mv (.loc 42), some ((.loc 40), false)⟩,
          ⟨(some 44), false, .mv (.env 4), some ((.loc 43), true)⟩,
          ⟨(some 45), false, .bin .other .leq (.loc 44) (.val (.tr (.sc (.int .u8 90)))), some ((.loc 43), true)⟩,
          ⟨(some 46), false, .pick (.loc 43) (.loc 45) (.val (.tr (.sc (.bool false)))), some ((.loc 40), false)⟩,
          ⟨(some 47), false, .pick (.loc 40) (.val (.tr (.sc (.bool true)))) (.loc 46), none⟩,
          ⟨(some 48), false, .mv (.loc 47), none⟩,
          ⟨(some 49), false, .mv (.env 4), some ((.loc 48), false)⟩,
          ⟨(some 50), false, .bin .other .geq (.loc 49) (.val (.tr (.sc (.int .u8 48)))), some ((.loc 48), false)⟩,
          ⟨(some 51), false, .mv (.loc 50), some ((.loc 48), false)⟩,
          ⟨(some 52), false, .mv (.env 4), some ((.loc 51), true)⟩,
          ⟨(some 53), false, .bin .other .leq (.loc 52) (.val (.tr (.sc (.int .u8 57)))), some ((.loc 51), true)⟩,
          ⟨(some 54), false, .pick (.loc 51) (.loc 53) (.val (.tr (.sc (.bool false)))), some ((.loc 48), false)⟩,
          ⟨(some 55), false, .pick (.loc 48) (.val (.tr (.sc (.bool true)))) (.loc 54), none⟩,
          ⟨(some 56), false, .mv (.loc 55), none⟩,
          ⟨(some 57), false, .mv (.env 4), some ((.loc 56), false)⟩,
          ⟨(some 58), false, .bin .other .eql (.loc 57) (.val (.tr (.sc (.int .u8 95)))), some ((.loc 56), false)⟩,
          ⟨(some 59), false, .pick (.loc 56) (.val (.tr (.sc (.bool true)))) (.loc 58), none⟩,
          ⟨(some 60), false, .mv (.loc 59), none⟩,
          ⟨(some 61), false, .mv (.env 4), some ((.loc 60), false)⟩,
          ⟨(some 62), false, .bin .other .eql (.loc 61) (.val (.tr (.sc (.int .u8 47)))), some ((.loc 60), false)⟩,
          ⟨(some 63), false, .pick (.loc 60) (.val (.tr (.sc (.bool true)))) (.loc 62), none⟩,
          ⟨(some 64), false, .mv (.loc 63), none⟩,
          ⟨(some 65), false, .mv (.env 4), some ((.loc 64), false)⟩,
          ⟨(some 66), false, .bin .other .eql (.loc 65) (.val (.tr (.sc (.int .u8 46)))), some ((.loc 64), false)⟩,
          ⟨(some 67), false, .pick (.loc 64) (.val (.tr (.sc (.bool true)))) (.loc 66), none⟩,
          ⟨(some 68), false, .mv (.loc 67), none⟩,
          ⟨(some 69), false, .mv (.env 4), some ((.loc 68), false)⟩,
          ⟨(some 70), false, .bin .other .eql (.loc 69) (.val (.tr (.sc (.int .u8 45)))), some ((.loc 68), false)⟩,
          ⟨(some 71), false, .pick (.loc 68) (.val (.tr (.sc (.bool true)))) (.loc 70), none⟩,
          ⟨(some 72), false, .un .not (.loc 71), none⟩]
def r6_8 : List HOp := [⟨(some 29), false, .mv (.env 3), none⟩,
       ⟨(some 30), false, .bin .other .add (.loc 29) (.val (.tr (.sc (.int .i64 1)))), none⟩,
       ⟨(some 3), true, .mv (.loc 30), none⟩]
def fn6 : HFn := { nargs := 1, results := [.tmp 2], mode := .shared, code :=
  (.seq (.region r5_0 none)
  (.seq (.seq (.region r5_1 none)
   (.cond (.loc 24)
    (.seq (.region r5_0 none)
    .ret)
    .skip))
  (.seq (.seq (.region r6_3 none)
   (.block 0
    (.loop
     (.seq (.seq (.region r6_4 none)
      (.cond (.loc 28)
       .skip
       (.exit 0)))
     (.seq (.block 1
       (.seq (.region r6_5 none)
       (.seq (.region r6_6 none)
       (.cond (.loc 72)
        (.seq (.region r5_0 none)
        .ret)
        .skip))))
     (.region r6_8 none))))))
  (.seq (.region r5_10 none)
  .ret)))) }
def r3_1 : List HOp := [⟨(some 4), false, .callf 4 [], none⟩,
     ⟨(some 3), true, .mv (.loc 4), none⟩]
def r3_2 : List HOp := [⟨(some 5), false, .mv (.env 0), none⟩,
      ⟨(some 6), false, .len 0 (.loc 5), none⟩,
      ⟨(some 7), false, .bin .other .gtr (.loc 6) (.val (.tr (.sc (.int .i64 120)))), none⟩]
def r3_3 : List HOp := [⟨(some 8), false, .mv (.env 0), none⟩,
      ⟨(some 9), false, .slicestr (.loc 8) none (some (.val (.tr (.sc (.int .i64 120))))), none⟩,
      ⟨(some 0), true, .mv (.loc 9), none⟩]
def r3_4 : List HOp := [⟨(some 10), false, .mv (.env 3), none⟩,
     ⟨(some 11), false, .mv (.loc 10), none⟩,
     ⟨(some 12), false, .mv (.env 0), some ((.loc 11), true)⟩,
     ⟨(some 13), false, .callf 5 [(.loc 12)], some ((.loc 11), true)⟩,
     ⟨(some 14), false, .mv (.env 0), some ((.loc 11), true)⟩,
     ⟨(some 15), false, .callf 6 [(.loc 14)], some ((.loc 11), true)⟩,
     ⟨(some 16), false, .bin .bool .eql (.loc 13) (.loc 15), some ((.loc 11), true)⟩,
     ⟨(some 17), false, .pick (.loc 11) (.loc 16) (.val (.tr (.sc (.bool false)))), none⟩,
     ⟨(some 2), true, .mv (.loc 17), none⟩]
def fn3 : HFn := { nargs := 1, results := [.tmp 2], mode := .shared, code :=
  (.seq (.region r5_0 none)
  (.seq (.region r3_1 none)
  (.seq (.seq (.region r3_2 none)
   (.cond (.loc 7)
    (.region r3_3 none)
    .skip))
  (.seq (.region r3_4 none)
  .ret)))) }
theorem T5 : T 5 = some fn5 := by kernel_rfl
theorem T6 : T 6 = some fn6 := by kernel_rfl
theorem T3 : T 3 = some fn3 := by kernel_rfl
end Go.Proofs.Ytjjbglmnbmpegaa.AM.Sp
