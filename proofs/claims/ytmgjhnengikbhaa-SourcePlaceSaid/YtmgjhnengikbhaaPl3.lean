/- SourcePlace, part 3: see the law's own text. -/
import Derived.Test.YtmgjhnengikbhaaPl2
set_option maxRecDepth 1000000
set_option linter.unusedVariables false
set_option linter.unusedSimpArgs false
namespace Go.Proofs.Ytmgjhnengikbhaa.AM.Pl
open Go.Proofs
def r4_0 : List HOp := [⟨(some 4), true, .mv (.val (.tr (.sc (.bool false)))), none⟩]
def r4_1 : List HOp := [⟨(some 11), false, .callf 6 [], none⟩,
     ⟨(some 5), true, .mv (.loc 11), none⟩]
def r4_2 : List HOp := [⟨(some 12), false, .mv (.env 0), none⟩,
      ⟨(some 13), false, .len 1 (.loc 12), none⟩,
      ⟨(some 14), false, .bin .other .gtr (.loc 13) (.val (.tr (.sc (.int .i64 500)))), none⟩]
def r4_3 : List HOp := [⟨(some 15), false, .mv (.env 0), none⟩,
      ⟨(some 16), false, .slice 1 (.loc 15) none (some (.val (.tr (.sc (.int .i64 500))))) none, none⟩,
      ⟨(some 0), true, .mv (.loc 16), none⟩]
def r4_4 : List HOp := [⟨(some 6), true, .mv (.val (.tr (.sc (.int .i64 1)))), none⟩,
     ⟨(some 7), true, .mv (.val (.tr (.sc (.int .i64 1)))), none⟩]
def r4_5 : List HOp := [⟨(some 8), true, .mv (.val (.tr (.sc (.int .i64 0)))), none⟩]
def r4_6 : List HOp := [⟨(some 17), false, .mv (.env 8), none⟩,
         ⟨(some 18), false, .mv (.env 0), none⟩,
         ⟨(some 19), false, .len 1 (.loc 18), none⟩,
         ⟨(some 20), false, .bin .other .lss (.loc 17) (.loc 19), none⟩,
         ⟨(some 21), false, .mv (.loc 20), none⟩,
         ⟨(some 22), false, .mv (.env 8), some ((.loc 21), true)⟩,
         ⟨(some 23), false, .mv (.env 1), some ((.loc 21), true)⟩,
         ⟨(some 24), false, .bin .other .lss (.loc 22) (.loc 23), some ((.loc 21), true)⟩,
         ⟨(some 25), false, .pick (.loc 21) (.loc 24) (.val (.tr (.sc (.bool false)))), none⟩]
def r4_7 : List HOp := [⟨(some 28), false, .mv (.env 0), none⟩,
           ⟨(some 29), false, .mv (.env 8), none⟩,
           ⟨(some 30), false, .iaddr 1 (.loc 28) (.loc 29), none⟩,
           ⟨(some 31), false, .load 1 false (.loc 30), none⟩,
           ⟨(some 32), false, .bin .other .eql (.loc 31) (.val (.tr (.sc (.int .u8 10)))), none⟩]
def r4_8 : List HOp := [⟨(some 33), false, .mv (.env 6), none⟩,
            ⟨(some 34), false, .bin .other .add (.loc 33) (.val (.tr (.sc (.int .i64 1)))), none⟩,
            ⟨(some 6), true, .mv (.loc 34), none⟩]
def r4_9 : List HOp := [⟨(some 7), true, .mv (.val (.tr (.sc (.int .i64 0)))), none⟩]
def r4_10 : List HOp := [⟨(some 35), false, .mv (.env 7), none⟩,
         ⟨(some 36), false, .bin .other .add (.loc 35) (.val (.tr (.sc (.int .i64 1)))), none⟩,
         ⟨(some 7), true, .mv (.loc 36), none⟩]
def r4_11 : List HOp := [⟨(some 26), false, .mv (.env 8), none⟩,
       ⟨(some 27), false, .bin .other .add (.loc 26) (.val (.tr (.sc (.int .i64 1)))), none⟩,
       ⟨(some 8), true, .mv (.loc 27), none⟩]
def r4_12 : List HOp := [⟨(some 38), false, .mv (.env 0), none⟩,
     ⟨(some 39), false, .mv (.env 1), none⟩,
     ⟨(some 40), false, .callf 8 [(.loc 38), (.loc 39)], none⟩,
     ⟨(some 37), false, .mv (.loc 40), none⟩,
     ⟨(some 41), false, .extract (.loc 37) 0, none⟩,
     ⟨(some 42), false, .extract (.loc 37) 1, none⟩,
     ⟨(some 9), true, .mv (.loc 41), none⟩,
     ⟨(some 10), true, .mv (.loc 42), none⟩]
def r4_13 : List HOp := [⟨(some 43), false, .mv (.env 5), none⟩,
     ⟨(some 44), false, .mv (.loc 43), none⟩,
     ⟨(some 45), false, .mv (.env 9), some ((.loc 44), true)⟩,
     ⟨(some 46), false, .mv (.env 6), some ((.loc 44), true)⟩,
     ⟨(some 47), false, .bin .other .eql (.loc 45) (.loc 46), some ((.loc 44), true)⟩,
     ⟨(some 48), false, .pick (.loc 44) (.loc 47) (.val (.tr (.sc (.bool false)))), none⟩,
     ⟨(some 49), false, .mv (.loc 48), none⟩,
     ⟨(some 50), false, .mv (.env 10), some ((.loc 49), true)⟩,
     ⟨(some 51), false, .mv (.env 7), some ((.loc 49), true)⟩,
     ⟨(some 52), false, .bin .other .eql (.loc 50) (.loc 51), some ((.loc 49), true)⟩,
     ⟨(some 53), false, .pick (.loc 49) (.loc 52) (.val (.tr (.sc (.bool false)))), none⟩,
     ⟨(some 4), true, .mv (.loc 53), none⟩]
def fn4 : HFn := { nargs := 2, results := [.tmp 4], mode := .shared, code :=
  (.seq (.region r4_0 none)
  (.seq (.region r4_1 none)
  (.seq (.seq (.region r4_2 none)
   (.cond (.loc 14)
    (.region r4_3 none)
    .skip))
  (.seq (.region r4_4 none)
  (.seq (.seq (.region r4_5 none)
   (.block 0
    (.loop
     (.seq (.seq (.region r4_6 none)
      (.cond (.loc 25)
       .skip
       (.exit 0)))
     (.seq (.block 1
       (.seq (.seq (.region r4_7 none)
        (.cond (.loc 32)
         (.seq (.region r4_8 none)
         (.region r4_9 none))
         .skip))
       (.region r4_10 none)))
     (.region r4_11 none))))))
  (.seq (.region r4_12 none)
  (.seq (.region r4_13 none)
  .ret))))))) }
theorem T4 : T 4 = some fn4 := by kernel_rfl
def r8_0 : List HOp := [⟨(some 4), true, .mv (.val (.tr (.sc (.int .i64 0)))), none⟩,
     ⟨(some 5), true, .mv (.val (.tr (.sc (.int .i64 0)))), none⟩]
def r8_1 : List HOp := [⟨(some 7), false, .mv (.env 0), none⟩,
     ⟨(some 8), false, .mv (.env 1), none⟩,
     ⟨(some 9), false, .mv (.env 0), none⟩,
     ⟨(some 10), false, .len 1 (.loc 9), none⟩,
     ⟨(some 11), false, .minmax false (.loc 8) [(.loc 10)], none⟩,
     ⟨(some 12), false, .minmax true (.loc 11) [(.val (.tr (.sc (.int .i64 0))))], none⟩,
     ⟨(some 13), false, .slice 1 (.loc 7) none (some (.loc 12)) none, none⟩,
     ⟨(some 6), true, .mv (.loc 13), none⟩]
def r8_2 : List HOp := [⟨(some 14), false, .mv (.env 6), none⟩,
     ⟨(some 15), false, .bslice false 1 1 [(.sc (.int .u8 0))] [(0, 1, (.val (.tr (.sc (.int .u8 10)))))], none⟩,
     ⟨(some 16), false, .callf 18 [(.loc 14), (.loc 15)], none⟩,
     ⟨(some 17), false, .bin .other .add (.val (.tr (.sc (.int .i64 1)))) (.loc 16), none⟩,
     ⟨(some 18), false, .mv (.env 6), none⟩,
     ⟨(some 19), false, .len 1 (.loc 18), none⟩,
     ⟨(some 20), false, .mv (.env 6), none⟩,
     ⟨(some 21), false, .callf 19 [(.loc 20), (.val (.tr (.sc (.int .u8 10))))], none⟩,
     ⟨(some 22), false, .bin .other .sub (.loc 19) (.loc 21), none⟩,
     ⟨(some 4), true, .mv (.loc 17), none⟩,
     ⟨(some 5), true, .mv (.loc 22), none⟩]
def fn8 : HFn := { nargs := 2, results := [.tmp 4, .tmp 5], mode := .shared, code :=
  (.seq (.region r8_0 none)
  (.seq (.region r8_1 none)
  (.seq (.region r8_2 none)
  .ret))) }
theorem T8 : T 8 = some fn8 := by kernel_rfl
def r18_0 : List HOp := [⟨(some 4), true, .mv (.val (.tr (.sc (.int .i64 0)))), none⟩]
def r18_1 : List HOp := [⟨(some 7), false, .mv (.env 1), none⟩,
      ⟨(some 8), false, .len 1 (.loc 7), none⟩,
      ⟨(some 9), false, .bin .other .eql (.loc 8) (.val (.tr (.sc (.int .i64 0)))), none⟩]
def r18_2 : List HOp := [⟨(some 10), false, .mv (.env 0), none⟩,
       ⟨(some 11), false, .callf 29 [(.loc 10)], none⟩,
       ⟨(some 12), false, .bin .other .add (.loc 11) (.val (.tr (.sc (.int .i64 1)))), none⟩,
       ⟨(some 4), true, .mv (.loc 12), none⟩]
def r18_3 : List HOp := [⟨(some 13), false, .mv (.env 1), none⟩,
      ⟨(some 14), false, .len 1 (.loc 13), none⟩,
      ⟨(some 15), false, .bin .other .eql (.loc 14) (.val (.tr (.sc (.int .i64 1)))), none⟩]
def r18_4 : List HOp := [⟨(some 16), false, .mv (.env 0), none⟩,
       ⟨(some 17), false, .mv (.env 1), none⟩,
       ⟨(some 18), false, .iaddr 1 (.loc 17) (.val (.tr (.sc (.int .i64 0)))), none⟩,
       ⟨(some 19), false, .load 1 false (.loc 18), none⟩,
       ⟨(some 20), false, .callf 30 [(.loc 16), (.loc 19)], none⟩,
       ⟨(some 4), true, .mv (.loc 20), none⟩]
def r18_5 : List HOp := [⟨(some 5), true, .mv (.val (.tr (.sc (.int .i64 0)))), none⟩]
def r18_6 : List HOp := [⟨(some 21), false, .mv (.env 0), none⟩,
        ⟨(some 22), false, .mv (.env 1), none⟩,
        ⟨(some 23), false, .callf 31 [(.loc 21), (.loc 22)], none⟩,
        ⟨(some 6), true, .mv (.loc 23), none⟩]
def r18_7 : List HOp := [⟨(some 24), false, .mv (.env 6), none⟩,
         ⟨(some 25), false, .bin .other .eql (.loc 24) (.val (.tr (.sc (.int .i64 (-1))))), none⟩]
def r18_8 : List HOp := [⟨(some 26), false, .mv (.env 5), none⟩,
          ⟨(some 4), true, .mv (.loc 26), none⟩]
def r18_9 : List HOp := [⟨(some 27), false, .mv (.env 5), none⟩,
        ⟨(some 28), false, .bin .other .add (.loc 27) (.val (.tr (.sc (.int .i64 1)))), none⟩,
        ⟨(some 5), true, .mv (.loc 28), none⟩]
def r18_10 : List HOp := [⟨(some 29), false, .mv (.env 0), none⟩,
       ⟨(some 30), false, .mv (.env 6), none⟩,
       ⟨(some 31), false, .mv (.env 1), none⟩,
       ⟨(some 32), false, .len 1 (.loc 31), none⟩,
       ⟨(some 33), false, .bin .other .add (.loc 30) (.loc 32), none⟩,
       ⟨(some 34), false, .slice 1 (.loc 29) (some (.loc 33)) none none, none⟩,
       ⟨(some 0), true, .mv (.loc 34), none⟩]
def fn18 : HFn := { nargs := 2, results := [.tmp 4], mode := .shared, code :=
  (.seq (.region r18_0 none)
  (.seq (.seq (.region r18_1 none)
   (.cond (.loc 9)
    (.seq (.region r18_2 none)
    .ret)
    .skip))
  (.seq (.seq (.region r18_3 none)
   (.cond (.loc 15)
    (.seq (.region r18_4 none)
    .ret)
    .skip))
  (.seq (.region r18_5 none)
  (.block 0
   (.loop
    (.block 1
     (.seq (.region r18_6 none)
     (.seq (.seq (.region r18_7 none)
      (.cond (.loc 25)
       (.seq (.region r18_8 none)
       .ret)
       .skip))
     (.seq (.region r18_9 none)
     (.region r18_10 none))))))))))) }
theorem T18 : T 18 = some fn18 := by kernel_rfl
def r19_0 : List HOp := [⟨(some 4), true, .mv (.val (.tr (.sc (.int .i64 0)))), none⟩]
def r19_1 : List HOp := [⟨(some 5), false, .mv (.env 0), none⟩,
     ⟨(some 6), false, .mv (.env 1), none⟩,
     ⟨(some 7), false, .callf 32 [(.loc 5), (.loc 6)], none⟩,
     ⟨(some 4), true, .mv (.loc 7), none⟩]
def fn19 : HFn := { nargs := 2, results := [.tmp 4], mode := .shared, code :=
  (.seq (.region r19_0 none)
  (.seq (.region r19_1 none)
  .ret)) }
theorem T19 : T 19 = some fn19 := by kernel_rfl
def r32_0 : List HOp := [⟨(some 4), true, .mv (.val (.tr (.sc (.int .i64 0)))), none⟩]
def r32_1 : List HOp := [⟨(some 6), false, .mv (.env 0), none⟩,
      ⟨(some 7), false, .len 1 (.loc 6), none⟩,
      ⟨(some 8), false, .bin .other .sub (.loc 7) (.val (.tr (.sc (.int .i64 1)))), none⟩,
      ⟨(some 5), true, .mv (.loc 8), none⟩]
def r32_2 : List HOp := [⟨(some 9), false, .mv (.env 5), none⟩,
         ⟨(some 10), false, .bin .other .geq (.loc 9) (.val (.tr (.sc (.int .i64 0)))), none⟩]
def r32_3 : List HOp := [⟨(some 13), false, .mv (.env 0), none⟩,
          ⟨(some 14), false, .mv (.env 5), none⟩,
          ⟨(some 15), false, .iaddr 1 (.loc 13) (.loc 14), none⟩,
          ⟨(some 16), false, .load 1 false (.loc 15), none⟩,
          ⟨(some 17), false, .mv (.env 1), none⟩,
          ⟨(some 18), false, .bin .other .eql (.loc 16) (.loc 17), none⟩]
def r32_4 : List HOp := [⟨(some 19), false, .mv (.env 5), none⟩,
           ⟨(some 4), true, .mv (.loc 19), none⟩]
def r32_5 : List HOp := [⟨(some 11), false, .mv (.env 5), none⟩,
       ⟨(some 12), false, .bin .other .sub (.loc 11) (.val (.tr (.sc (.int .i64 1)))), none⟩,
       ⟨(some 5), true, .mv (.loc 12), none⟩]
def r32_6 : List HOp := [⟨(some 4), true, .mv (.val (.tr (.sc (.int .i64 (-1))))), none⟩]
def fn32 : HFn := { nargs := 2, results := [.tmp 4], mode := .shared, code :=
  (.seq (.region r32_0 none)
  (.seq (.seq (.region r32_1 none)
   (.block 0
    (.loop
     (.seq (.seq (.region r32_2 none)
      (.cond (.loc 10)
       .skip
       (.exit 0)))
     (.seq (.block 1
       (.seq (.region r32_3 none)
       (.cond (.loc 18)
        (.seq (.region r32_4 none)
        .ret)
        .skip)))
     (.region r32_5 none))))))
  (.seq (.region r32_6 none)
  .ret))) }
theorem T32 : T 32 = some fn32 := by kernel_rfl
end Go.Proofs.Ytmgjhnengikbhaa.AM.Pl
