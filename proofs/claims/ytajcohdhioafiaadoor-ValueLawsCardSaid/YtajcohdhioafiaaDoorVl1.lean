/- The functions that ValueLaws reaches, each checked against the translation, part two; the table of them. -/
import Derived.Test.YtajcohdhioafiaaDoorVl1a
set_option maxRecDepth 1000000
set_option linter.unusedVariables false
set_option linter.unusedSimpArgs false
namespace Go.Proofs.YtajcohdhioafiaaDoor.AM.Vl
open Go.Proofs
/- math.IsInf -/
@[simp] def r83_0 : List HOp := [⟨(some 4), true, .mv (.val (.tr (.sc (.bool false)))), none⟩]
@[simp] def r83_1 : List HOp := [⟨(some 5), false, .mv (.env 1), none⟩,
      ⟨(some 6), false, .bin .other .eql (.loc 5) (.val (.tr (.sc (.int .i64 0)))), none⟩]
@[simp] def r83_2 : List HOp := [⟨(some 7), false, .mv (.env 0), none⟩,
      ⟨(some 8), false, .callf 98 [(.loc 7)], none⟩,
      ⟨(some 0), true, .mv (.loc 8), none⟩]
@[simp] def r83_3 : List HOp := [⟨(some 9), false, .mv (.env 1), none⟩,
       ⟨(some 10), false, .bin .other .lss (.loc 9) (.val (.tr (.sc (.int .i64 0)))), none⟩]
@[simp] def r83_4 : List HOp := [⟨(some 11), false, .mv (.env 0), none⟩,
       ⟨(some 12), false, .un .neg (.loc 11), none⟩,
       ⟨(some 0), true, .mv (.loc 12), none⟩]
@[simp] def r83_5 : List HOp := [⟨(some 13), false, .mv (.env 0), none⟩,
     ⟨(some 14), false, .bin .other .gtr (.loc 13) (.val (.tr (.sc (.float .f64 9218868437227405311)))), none⟩,
     ⟨(some 4), true, .mv (.loc 14), none⟩]
@[simp] def k83_3 : HCode := .cond (.loc 10) (.region r83_4 none) .skip
@[simp] def k83_2 : HCode := .seq (.region r83_3 none) k83_3
@[simp] def k83_1 : HCode := .cond (.loc 6) (.region r83_2 none) k83_2
def k83_4 : HCode := .seq (.region r83_5 none) .ret
@[simp] def k83_0 : HCode := .seq (.seq (.region r83_1 none) k83_1) k83_4
@[simp] def fn83 : HFn := { nargs := 2, results := [.tmp 4], mode := .iso, code := (.seq (.region r83_0 none) k83_0) }
theorem c83 : cFn Tryd.prog (Hs 83) .iso 83 = some fn83 := by kernel_rfl
/- math.Abs -/
@[simp] def r98_0 : List HOp := [⟨(some 2), true, .mv (.val (.tr (.sc (.float .f64 0)))), none⟩]
@[simp] def r98_1 : List HOp := [⟨(some 3), false, .mv (.env 0), none⟩,
     ⟨(some 4), false, .callf 18 [(.loc 3)], none⟩,
     ⟨(some 5), false, .bin .other .andNot (.loc 4) (.val (.tr (.sc (.int .u64 9223372036854775808)))), none⟩,
     ⟨(some 6), false, .callf 6 [(.loc 5)], none⟩,
     ⟨(some 2), true, .mv (.loc 6), none⟩]
@[simp] def k98_0 : HCode := .seq (.region r98_1 none) .ret
@[simp] def fn98 : HFn := { nargs := 1, results := [.tmp 2], mode := .iso, code := (.seq (.region r98_0 none) k98_0) }
theorem c98 : cFn Tryd.prog (Hs 98) .iso 98 = some fn98 := by kernel_rfl
/- math.IsNaN -/
@[simp] def r84_0 : List HOp := [⟨(some 2), true, .mv (.val (.tr (.sc (.bool false)))), none⟩]
@[simp] def r84_1 : List HOp := [⟨(some 3), false, .mv (.env 0), none⟩,
     ⟨(some 4), false, .mv (.env 0), none⟩,
     ⟨(some 5), false, .bin .other .neq (.loc 3) (.loc 4), none⟩,
     ⟨(some 2), true, .mv (.loc 5), none⟩]
@[simp] def k84_0 : HCode := .seq (.region r84_1 none) .ret
@[simp] def fn84 : HFn := { nargs := 1, results := [.tmp 2], mode := .iso, code := (.seq (.region r84_0 none) k84_0) }
theorem c84 : cFn Tryd.prog (Hs 84) .iso 84 = some fn84 := by kernel_rfl
/- math.normalize -/
@[simp] def r85_0 : List HOp := [⟨(some 2), true, .mv (.val (.tr (.sc (.float .f64 0)))), none⟩,
     ⟨(some 3), true, .mv (.val (.tr (.sc (.int .i64 0)))), none⟩]
@[simp] def r85_1 : List HOp := [⟨(some 4), false, .mv (.env 0), none⟩,
      ⟨(some 5), false, .callf 98 [(.loc 4)], none⟩,
      ⟨(some 6), false, .bin .other .lss (.loc 5) (.val (.tr (.sc (.float .f64 4503599627370496)))), none⟩]
@[simp] def r85_2 : List HOp := [⟨(some 7), false, .mv (.env 0), none⟩,
       ⟨(some 8), false, .bin .other .mul (.loc 7) (.val (.tr (.sc (.float .f64 4841369599423283200)))), none⟩,
       ⟨(some 2), true, .mv (.loc 8), none⟩,
       ⟨(some 3), true, .mv (.val (.tr (.sc (.int .i64 (-52))))), none⟩]
@[simp] def r85_3 : List HOp := [⟨(some 9), false, .mv (.env 0), none⟩,
     ⟨(some 2), true, .mv (.loc 9), none⟩,
     ⟨(some 3), true, .mv (.val (.tr (.sc (.int .i64 0)))), none⟩]
@[simp] def k85_2 : HCode := .seq (.region r85_2 none) .ret
@[simp] def k85_1 : HCode := .cond (.loc 6) k85_2 .skip
def k85_3 : HCode := .seq (.region r85_3 none) .ret
@[simp] def k85_0 : HCode := .seq (.seq (.region r85_1 none) k85_1) k85_3
@[simp] def fn85 : HFn := { nargs := 1, results := [.tmp 2, .tmp 3], mode := .iso, code := (.seq (.region r85_0 none) k85_0) }
theorem c85 : cFn Tryd.prog (Hs 85) .iso 85 = some fn85 := by kernel_rfl
/- math.Copysign -/
@[simp] def r86_0 : List HOp := [⟨(some 4), true, .mv (.val (.tr (.sc (.float .f64 0)))), none⟩]
@[simp] def r86_1 : List HOp := [⟨(some 5), false, .mv (.env 0), none⟩,
     ⟨(some 6), false, .callf 18 [(.loc 5)], none⟩,
     ⟨(some 7), false, .bin .other .andNot (.loc 6) (.val (.tr (.sc (.int .u64 9223372036854775808)))), none⟩,
     ⟨(some 8), false, .mv (.env 1), none⟩,
     ⟨(some 9), false, .callf 18 [(.loc 8)], none⟩,
     ⟨(some 10), false, .bin .other .and (.loc 9) (.val (.tr (.sc (.int .u64 9223372036854775808)))), none⟩,
     ⟨(some 11), false, .bin .other .or (.loc 7) (.loc 10), none⟩,
     ⟨(some 12), false, .callf 6 [(.loc 11)], none⟩,
     ⟨(some 4), true, .mv (.loc 12), none⟩]
@[simp] def k86_0 : HCode := .seq (.region r86_1 none) .ret
@[simp] def fn86 : HFn := { nargs := 2, results := [.tmp 4], mode := .iso, code := (.seq (.region r86_0 none) k86_0) }
theorem c86 : cFn Tryd.prog (Hs 86) .iso 86 = some fn86 := by kernel_rfl
/- sterling/float.Round64 -/
@[simp] def r29_0 : List HOp := [⟨(some 1), true, .box true (.env 0), none⟩,
     ⟨(some 2), true, .mv (.val (.tr (.sc (.float .f64 0)))), none⟩]
@[simp] def r29_1 : List HOp := [⟨(some 11), false, .load 4 true (.env 1), none⟩,
     ⟨(some 12), false, .callf 41 [(.loc 11)], none⟩,
     ⟨(some 10), false, .mv (.loc 12), none⟩,
     ⟨(some 13), false, .extract (.loc 10) 0, none⟩,
     ⟨(some 14), false, .extract (.loc 10) 1, none⟩,
     ⟨(some 15), false, .extract (.loc 10) 2, none⟩,
     ⟨(some 4), true, .alloc [(.sc (.bool false)), (.sc (.slice none 0 0))], none⟩,
     ⟨(some 5), true, .alloc [(.sc (.bool false)), (.sc (.slice none 0 0))], none⟩,
     ⟨(some 3), true, .mv (.loc 13), none⟩,
     ⟨none, false, .store 2 (.env 4) (.loc 14), none⟩,
     ⟨none, false, .store 2 (.env 5) (.loc 15), none⟩]
@[simp] def r29_2 : List HOp := [⟨(some 17), false, .build [(.sc (.int .i64 0)), (.sc (.int .i64 0)), (.sc (.int .i64 0))] [(0, 1, (.val (.tr (.sc (.int .i64 53))))), (1, 1, (.val (.tr (.sc (.int .i64 (-1074)))))), (2, 1, (.val (.tr (.sc (.int .i64 971)))))], none⟩,
     ⟨(some 18), false, .load 2 true (.env 4), none⟩,
     ⟨(some 19), false, .load 2 true (.env 5), none⟩,
     ⟨(some 20), false, .callf 42 [(.loc 17), (.loc 18), (.loc 19)], none⟩,
     ⟨(some 16), false, .mv (.loc 20), none⟩,
     ⟨(some 21), false, .extract (.loc 16) 0, none⟩,
     ⟨(some 22), false, .extract (.loc 16) 1, none⟩,
     ⟨(some 23), false, .extract (.loc 16) 2, none⟩,
     ⟨(some 6), true, .mv (.loc 21), none⟩,
     ⟨(some 7), true, .mv (.loc 22), none⟩,
     ⟨(some 8), true, .mv (.loc 23), none⟩]
@[simp] def r29_3 : List HOp := [⟨(some 24), false, .callf 43 [(.val (.tr (.sc (.int .i64 1))))], none⟩,
     ⟨(some 9), true, .mv (.loc 24), none⟩]
@[simp] def r29_4 : List HOp := [⟨(some 25), false, .mv (.env 8), none⟩]
@[simp] def r29_5 : List HOp := [⟨(some 26), false, .mv (.env 6), none⟩,
      ⟨(some 27), false, .conv (.toFloat .f64) (.loc 26), none⟩,
      ⟨(some 28), false, .mv (.env 7), none⟩,
      ⟨(some 29), false, .callf 44 [(.loc 27), (.loc 28)], none⟩,
      ⟨(some 9), true, .mv (.loc 29), none⟩]
@[simp] def r29_6 : List HOp := [⟨(some 30), false, .mv (.env 3), none⟩,
      ⟨(some 31), false, .mv (.loc 30), none⟩,
      ⟨(some 32), false, .mv (.env 6), some ((.loc 31), true)⟩,
      ⟨(some 33), false, .bin .other .gtr (.loc 32) (.val (.tr (.sc (.int .u64 0)))), some ((.loc 31), true)⟩,
      ⟨(some 34), false, .pick (.loc 31) (.loc 33) (.val (.tr (.sc (.bool false)))), none⟩]
@[simp] def r29_7 : List HOp := [⟨(some 35), false, .mv (.env 9), none⟩,
      ⟨(some 36), false, .un .neg (.loc 35), none⟩,
      ⟨(some 9), true, .mv (.loc 36), none⟩]
@[simp] def r29_8 : List HOp := [⟨(some 37), false, .mv (.env 9), none⟩,
     ⟨(some 2), true, .mv (.loc 37), none⟩]
@[simp] def k29_4 : HCode := .cond (.loc 25) (.region r29_5 none) .skip
@[simp] def k29_6 : HCode := .cond (.loc 34) (.region r29_7 none) .skip
def k29_7 : HCode := .seq (.region r29_8 none) .ret
def k29_5 : HCode := .seq (.seq (.region r29_6 none) k29_6) k29_7
@[simp] def k29_3 : HCode := .seq (.seq (.region r29_4 none) k29_4) k29_5
@[simp] def k29_2 : HCode := .seq (.region r29_3 none) k29_3
@[simp] def k29_1 : HCode := .seq (.region r29_2 none) k29_2
@[simp] def k29_0 : HCode := .seq (.region r29_1 none) k29_1
@[simp] def fn29 : HFn := { nargs := 1, results := [.tmp 2], mode := .iso, code := (.seq (.region r29_0 none) k29_0) }
theorem c29 : cFn Tryd.prog (Hs 29) .iso 29 = some fn29 := by kernel_rfl
/- sterling/value.Round -/
@[simp] def r20_0 : List HOp := [⟨(some 4), true, .mv (.val (.tr (.sc (.float .f64 0)))), none⟩]
@[simp] def r20_1 : List HOp := [⟨(some 5), false, .mv (.env 0), none⟩,
      ⟨(some 6), false, .bin .other .eql (.loc 5) (.val (.tr (.sc (.string ⟨⟨[102, 108, 111, 97, 116, 51, 50]⟩⟩)))), none⟩]
@[simp] def r20_2 : List HOp := [⟨(some 7), false, .mv (.env 1), none⟩,
       ⟨(some 8), false, .conv (.toFloat .f32) (.loc 7), none⟩,
       ⟨(some 9), false, .conv (.toFloat .f64) (.loc 8), none⟩,
       ⟨(some 4), true, .mv (.loc 9), none⟩]
@[simp] def r20_3 : List HOp := [⟨(some 10), false, .mv (.env 1), none⟩,
     ⟨(some 4), true, .mv (.loc 10), none⟩]
@[simp] def k20_2 : HCode := .seq (.region r20_2 none) .ret
@[simp] def k20_1 : HCode := .cond (.loc 6) k20_2 .skip
def k20_3 : HCode := .seq (.region r20_3 none) .ret
@[simp] def k20_0 : HCode := .seq (.seq (.region r20_1 none) k20_1) k20_3
@[simp] def fn20 : HFn := { nargs := 2, results := [.tmp 4], mode := .iso, code := (.seq (.region r20_0 none) k20_0) }
theorem c20 : cFn Tryd.prog (Hs 20) .iso 20 = some fn20 := by kernel_rfl
/- sterling/value.whole -/
@[simp] def r30_0 : List HOp := [⟨(some 4), true, .mv (.val (.tr (.sc (.int .i64 0)))), none⟩,
     ⟨(some 5), true, .mv (.val (.tr (.sc (.bool false)))), none⟩]
@[simp] def r30_1 : List HOp := [⟨(some 13), false, .mv (.env 0), none⟩,
     ⟨(some 14), false, .callf 46 [(.loc 13)], none⟩,
     ⟨(some 12), false, .mv (.loc 14), none⟩,
     ⟨(some 15), false, .extract (.loc 12) 0, none⟩,
     ⟨(some 16), false, .extract (.loc 12) 1, none⟩,
     ⟨(some 6), true, .alloc [(.sc (.bool false)), (.sc (.slice none 0 0)), (.sc (.bool false)), (.sc (.slice none 0 0))], none⟩,
     ⟨none, false, .store 4 (.env 6) (.loc 15), none⟩,
     ⟨(some 7), true, .mv (.loc 16), none⟩]
@[simp] def r30_2 : List HOp := [⟨(some 17), false, .mv (.env 7), none⟩,
      ⟨(some 18), false, .un .not (.loc 17), none⟩]
@[simp] def r30_3 : List HOp := [⟨(some 4), true, .mv (.val (.tr (.sc (.int .i64 0)))), none⟩,
       ⟨(some 5), true, .mv (.val (.tr (.sc (.bool false)))), none⟩]
@[simp] def r30_4 : List HOp := [⟨(some 20), false, .faddr 0 (.env 6), none⟩,
     ⟨(some 21), false, .load 2 true (.loc 20), none⟩,
     ⟨(some 22), false, .faddr 2 (.env 6), none⟩,
     ⟨(some 23), false, .load 2 true (.loc 22), none⟩,
     ⟨(some 24), false, .callf 47 [(.loc 21), (.loc 23)], none⟩,
     ⟨(some 19), false, .mv (.loc 24), none⟩,
     ⟨(some 25), false, .extract (.loc 19) 0, none⟩,
     ⟨(some 26), false, .extract (.loc 19) 1, none⟩,
     ⟨(some 27), false, .extract (.loc 19) 2, none⟩,
     ⟨(some 8), true, .alloc [(.sc (.bool false)), (.sc (.slice none 0 0))], none⟩,
     ⟨(some 9), false, .alloc [(.sc (.bool false)), (.sc (.slice none 0 0))], none⟩,
     ⟨none, false, .store 2 (.env 8) (.loc 25), none⟩,
     ⟨none, false, .store 2 (.loc 9) (.loc 26), none⟩,
     ⟨(some 10), false, .mv (.loc 27), none⟩]
@[simp] def r30_5 : List HOp := [⟨(some 29), false, .load 2 true (.env 8), none⟩,
     ⟨(some 30), false, .callf 49 [(.loc 29)], none⟩,
     ⟨(some 31), false, .mv (.env 1), none⟩,
     ⟨(some 32), false, .callf 48 [(.loc 30), (.loc 31)], none⟩,
     ⟨(some 28), false, .mv (.loc 32), none⟩,
     ⟨(some 33), false, .extract (.loc 28) 0, none⟩,
     ⟨(some 34), false, .extract (.loc 28) 1, none⟩,
     ⟨(some 11), true, .alloc [(.sc (.int .i64 0)), (.sc (.bool false)), (.sc (.string ⟨⟨[]⟩⟩)), (.sc (.bool false)), (.sc (.slice none 0 0)), (.sc (.bool false)), (.sc (.slice none 0 0))], none⟩,
     ⟨none, false, .store 7 (.env 11) (.loc 33), none⟩,
     ⟨(some 7), true, .mv (.loc 34), none⟩]
@[simp] def r30_6 : List HOp := [⟨(some 35), false, .mv (.env 7), none⟩,
      ⟨(some 36), false, .un .not (.loc 35), none⟩]
@[simp] def r30_7 : List HOp := [⟨(some 4), true, .mv (.val (.tr (.sc (.int .i64 0)))), none⟩,
       ⟨(some 5), true, .mv (.val (.tr (.sc (.bool false)))), none⟩]
@[simp] def r30_8 : List HOp := [⟨(some 37), false, .faddr 3 (.env 11), none⟩,
     ⟨(some 38), false, .load 4 true (.loc 37), none⟩,
     ⟨(some 39), false, .callf 50 [(.loc 38)], none⟩,
     ⟨(some 4), true, .mv (.loc 39), none⟩,
     ⟨(some 5), true, .mv (.val (.tr (.sc (.bool true)))), none⟩]
@[simp] def k30_3 : HCode := .seq (.region r30_3 none) .ret
@[simp] def k30_2 : HCode := .cond (.loc 18) k30_3 .skip
@[simp] def k30_8 : HCode := .seq (.region r30_7 none) .ret
@[simp] def k30_7 : HCode := .cond (.loc 36) k30_8 .skip
def k30_9 : HCode := .seq (.region r30_8 none) .ret
@[simp] def k30_6 : HCode := .seq (.seq (.region r30_6 none) k30_7) k30_9
@[simp] def k30_5 : HCode := .seq (.region r30_5 none) k30_6
def k30_4 : HCode := .seq (.region r30_4 none) k30_5
@[simp] def k30_1 : HCode := .seq (.seq (.region r30_2 none) k30_2) k30_4
@[simp] def k30_0 : HCode := .seq (.region r30_1 none) k30_1
@[simp] def fn30 : HFn := { nargs := 2, results := [.tmp 4, .tmp 5], mode := .iso, code := (.seq (.region r30_0 none) k30_0) }
theorem c30 : cFn Tryd.prog (Hs 30) .iso 30 = some fn30 := by kernel_rfl
/- sterling/float.Exact -/
@[simp] def r46_0 : List HOp := [⟨(some 2), true, .alloc [(.sc (.bool false)), (.sc (.slice none 0 0)), (.sc (.bool false)), (.sc (.slice none 0 0))], none⟩,
     ⟨(some 3), true, .mv (.val (.tr (.sc (.bool false)))), none⟩]
@[simp] def r46_1 : List HOp := [⟨(some 11), false, .mv (.env 0), none⟩,
     ⟨(some 12), false, .callf 67 [(.loc 11)], none⟩,
     ⟨(some 10), false, .mv (.loc 12), none⟩,
     ⟨(some 13), false, .extract (.loc 10) 0, none⟩,
     ⟨(some 14), false, .extract (.loc 10) 1, none⟩,
     ⟨(some 15), false, .extract (.loc 10) 2, none⟩,
     ⟨(some 16), false, .extract (.loc 10) 3, none⟩,
     ⟨(some 4), true, .mv (.loc 13), none⟩,
     ⟨(some 5), true, .mv (.loc 14), none⟩,
     ⟨(some 6), true, .mv (.loc 15), none⟩,
     ⟨(some 7), true, .mv (.loc 16), none⟩]
@[simp] def r46_2 : List HOp := [⟨(some 17), false, .mv (.env 7), none⟩,
      ⟨(some 18), false, .un .not (.loc 17), none⟩]
@[simp] def r46_3 : List HOp := [⟨(some 19), false, .callf 24 [(.val (.tr (.sc (.int .i64 1))))], none⟩,
       ⟨(some 20), false, .build [(.sc (.bool false)), (.sc (.slice none 0 0)), (.sc (.bool false)), (.sc (.slice none 0 0))] [(2, 2, (.loc 19))], none⟩,
       ⟨none, false, .store 4 (.env 2) (.loc 20), none⟩,
       ⟨(some 3), true, .mv (.val (.tr (.sc (.bool false)))), none⟩]
@[simp] def r46_4 : List HOp := [⟨(some 21), false, .mv (.env 5), none⟩,
     ⟨(some 22), false, .callf 24 [(.loc 21)], none⟩,
     ⟨(some 23), false, .callf 24 [(.val (.tr (.sc (.int .i64 1))))], none⟩,
     ⟨(some 8), true, .alloc [(.sc (.bool false)), (.sc (.slice none 0 0))], none⟩,
     ⟨(some 9), true, .alloc [(.sc (.bool false)), (.sc (.slice none 0 0))], none⟩,
     ⟨none, false, .store 2 (.env 8) (.loc 22), none⟩,
     ⟨none, false, .store 2 (.env 9) (.loc 23), none⟩]
@[simp] def r46_5 : List HOp := [⟨(some 24), false, .mv (.env 6), none⟩,
      ⟨(some 25), false, .bin .other .geq (.loc 24) (.val (.tr (.sc (.int .i64 0)))), none⟩]
@[simp] def r46_6 : List HOp := [⟨(some 26), false, .load 2 true (.env 8), none⟩,
      ⟨(some 27), false, .mv (.env 6), none⟩,
      ⟨(some 28), false, .callf 60 [(.loc 26), (.loc 27)], none⟩,
      ⟨none, false, .store 2 (.env 8) (.loc 28), none⟩]
@[simp] def r46_7 : List HOp := [⟨(some 29), false, .load 2 true (.env 9), none⟩,
      ⟨(some 30), false, .mv (.env 6), none⟩,
      ⟨(some 31), false, .un .neg (.loc 30), none⟩,
      ⟨(some 32), false, .callf 60 [(.loc 29), (.loc 31)], none⟩,
      ⟨none, false, .store 2 (.env 9) (.loc 32), none⟩]
@[simp] def r46_8 : List HOp := [⟨(some 33), false, .mv (.env 4), none⟩,
     ⟨(some 34), false, .faddr 0 (.env 8), none⟩,
     ⟨none, false, .store 1 (.loc 34) (.loc 33), none⟩]
@[simp] def r46_9 : List HOp := [⟨(some 35), false, .load 2 true (.env 8), none⟩,
     ⟨(some 36), false, .load 2 true (.env 9), none⟩,
     ⟨(some 37), false, .callf 68 [(.loc 35), (.loc 36)], none⟩,
     ⟨(some 38), false, .extract (.loc 37) 0, none⟩,
     ⟨(some 39), false, .extract (.loc 37) 1, none⟩,
     ⟨none, false, .store 4 (.env 2) (.loc 38), none⟩,
     ⟨(some 3), true, .mv (.loc 39), none⟩]
@[simp] def k46_3 : HCode := .seq (.region r46_3 none) .ret
@[simp] def k46_2 : HCode := .cond (.loc 18) k46_3 .skip
@[simp] def k46_6 : HCode := .cond (.loc 25) (.region r46_6 none) (.region r46_7 none)
@[simp] def k46_8 : HCode := .seq (.region r46_9 none) .ret
def k46_7 : HCode := .seq (.region r46_8 none) k46_8
@[simp] def k46_5 : HCode := .seq (.seq (.region r46_5 none) k46_6) k46_7
def k46_4 : HCode := .seq (.region r46_4 none) k46_5
@[simp] def k46_1 : HCode := .seq (.seq (.region r46_2 none) k46_2) k46_4
@[simp] def k46_0 : HCode := .seq (.region r46_1 none) k46_1
@[simp] def fn46 : HFn := { nargs := 1, results := [.cell 2 4 true, .tmp 3], mode := .iso, code := (.seq (.region r46_0 none) k46_0) }
theorem c46 : cFn Tryd.prog (Hs 46) .iso 46 = some fn46 := by kernel_rfl
/- sterling/float.parts -/
@[simp] def r67_0 : List HOp := [⟨(some 2), true, .mv (.val (.tr (.sc (.bool false)))), none⟩,
     ⟨(some 3), true, .mv (.val (.tr (.sc (.int .i64 0)))), none⟩,
     ⟨(some 4), true, .mv (.val (.tr (.sc (.int .i64 0)))), none⟩,
     ⟨(some 5), true, .mv (.val (.tr (.sc (.bool false)))), none⟩]
@[simp] def r67_1 : List HOp := [⟨(some 9), false, .mv (.env 0), none⟩,
     ⟨(some 10), false, .callf 18 [(.loc 9)], none⟩,
     ⟨(some 6), true, .mv (.loc 10), none⟩]
@[simp] def r67_2 : List HOp := [⟨(some 11), false, .mv (.env 6), none⟩,
     ⟨(some 12), false, .bin .other .shr (.loc 11) (.val (.tr (.sc (.int .u64 52)))), none⟩,
     ⟨(some 13), false, .bin .other .and (.loc 12) (.val (.tr (.sc (.int .u64 2047)))), none⟩,
     ⟨(some 14), false, .conv (.toInt .i64) (.loc 13), none⟩,
     ⟨(some 7), true, .mv (.loc 14), none⟩]
@[simp] def r67_3 : List HOp := [⟨(some 15), false, .mv (.env 6), none⟩,
     ⟨(some 16), false, .bin .other .and (.loc 15) (.val (.tr (.sc (.int .u64 4503599627370495)))), none⟩,
     ⟨(some 17), false, .conv (.toInt .i64) (.loc 16), none⟩,
     ⟨(some 8), true, .mv (.loc 17), none⟩]
@[simp] def r67_4 : List HOp := [⟨(some 18), false, .mv (.env 7), none⟩,
      ⟨(some 19), false, .bin .other .eql (.loc 18) (.val (.tr (.sc (.int .i64 2047)))), none⟩]
@[simp] def r67_5 : List HOp := [⟨(some 2), true, .mv (.val (.tr (.sc (.bool false)))), none⟩,
       ⟨(some 3), true, .mv (.val (.tr (.sc (.int .i64 0)))), none⟩,
       ⟨(some 4), true, .mv (.val (.tr (.sc (.int .i64 0)))), none⟩,
       ⟨(some 5), true, .mv (.val (.tr (.sc (.bool false)))), none⟩]
@[simp] def r67_6 : List HOp := [⟨(some 20), false, .mv (.env 7), none⟩,
      ⟨(some 21), false, .bin .other .gtr (.loc 20) (.val (.tr (.sc (.int .i64 0)))), none⟩]
@[simp] def r67_7 : List HOp := [⟨(some 22), false, .mv (.env 6), none⟩,
       ⟨(some 23), false, .bin .other .shr (.loc 22) (.val (.tr (.sc (.int .u64 63)))), none⟩,
       ⟨(some 24), false, .bin .other .eql (.loc 23) (.val (.tr (.sc (.int .u64 1)))), none⟩,
       ⟨(some 25), false, .mv (.env 8), none⟩,
       ⟨(some 26), false, .bin .other .or (.loc 25) (.val (.tr (.sc (.int .i64 4503599627370496)))), none⟩,
       ⟨(some 27), false, .mv (.env 7), none⟩,
       ⟨(some 28), false, .bin .other .sub (.loc 27) (.val (.tr (.sc (.int .i64 1075)))), none⟩,
       ⟨(some 2), true, .mv (.loc 24), none⟩,
       ⟨(some 3), true, .mv (.loc 26), none⟩,
       ⟨(some 4), true, .mv (.loc 28), none⟩,
       ⟨(some 5), true, .mv (.val (.tr (.sc (.bool true)))), none⟩]
@[simp] def r67_8 : List HOp := [⟨(some 29), false, .mv (.env 6), none⟩,
     ⟨(some 30), false, .bin .other .shr (.loc 29) (.val (.tr (.sc (.int .u64 63)))), none⟩,
     ⟨(some 31), false, .bin .other .eql (.loc 30) (.val (.tr (.sc (.int .u64 1)))), none⟩,
     ⟨(some 32), false, .mv (.env 8), none⟩,
     ⟨(some 2), true, .mv (.loc 31), none⟩,
     ⟨(some 3), true, .mv (.loc 32), none⟩,
     ⟨(some 4), true, .mv (.val (.tr (.sc (.int .i64 (-1074))))), none⟩,
     ⟨(some 5), true, .mv (.val (.tr (.sc (.bool true)))), none⟩]
@[simp] def k67_5 : HCode := .seq (.region r67_5 none) .ret
@[simp] def k67_4 : HCode := .cond (.loc 19) k67_5 .skip
@[simp] def k67_8 : HCode := .seq (.region r67_7 none) .ret
@[simp] def k67_7 : HCode := .cond (.loc 21) k67_8 .skip
def k67_9 : HCode := .seq (.region r67_8 none) .ret
def k67_6 : HCode := .seq (.seq (.region r67_6 none) k67_7) k67_9
@[simp] def k67_3 : HCode := .seq (.seq (.region r67_4 none) k67_4) k67_6
@[simp] def k67_2 : HCode := .seq (.region r67_3 none) k67_3
@[simp] def k67_1 : HCode := .seq (.region r67_2 none) k67_2
@[simp] def k67_0 : HCode := .seq (.region r67_1 none) k67_1
@[simp] def fn67 : HFn := { nargs := 1, results := [.tmp 2, .tmp 3, .tmp 4, .tmp 5], mode := .iso, code := (.seq (.region r67_0 none) k67_0) }
theorem c67 : cFn Tryd.prog (Hs 67) .iso 67 = some fn67 := by kernel_rfl
/- sterling/ratio.Of -/
@[simp] def r68_0 : List HOp := [⟨(some 2), true, .box true (.env 0), none⟩,
     ⟨(some 3), true, .box true (.env 1), none⟩,
     ⟨(some 4), true, .alloc [(.sc (.bool false)), (.sc (.slice none 0 0)), (.sc (.bool false)), (.sc (.slice none 0 0))], none⟩,
     ⟨(some 5), true, .mv (.val (.tr (.sc (.bool false)))), none⟩]
@[simp] def r68_1 : List HOp := [⟨(some 6), false, .load 2 true (.env 3), none⟩,
      ⟨(some 7), false, .callf 65 [(.loc 6)], none⟩]
@[simp] def r68_2 : List HOp := [⟨(some 8), false, .callf 24 [(.val (.tr (.sc (.int .i64 1))))], none⟩,
       ⟨(some 9), false, .build [(.sc (.bool false)), (.sc (.slice none 0 0)), (.sc (.bool false)), (.sc (.slice none 0 0))] [(2, 2, (.loc 8))], none⟩,
       ⟨none, false, .store 4 (.env 4) (.loc 9), none⟩,
       ⟨(some 5), true, .mv (.val (.tr (.sc (.bool false)))), none⟩]
@[simp] def r68_3 : List HOp := [⟨(some 10), false, .load 2 true (.env 2), none⟩,
     ⟨(some 11), false, .load 2 true (.env 3), none⟩,
     ⟨(some 12), false, .callf 45 [(.loc 10), (.loc 11)], none⟩,
     ⟨none, false, .store 4 (.env 4) (.loc 12), none⟩,
     ⟨(some 5), true, .mv (.val (.tr (.sc (.bool true)))), none⟩]
@[simp] def k68_2 : HCode := .seq (.region r68_2 none) .ret
@[simp] def k68_1 : HCode := .cond (.loc 7) k68_2 .skip
def k68_3 : HCode := .seq (.region r68_3 none) .ret
@[simp] def k68_0 : HCode := .seq (.seq (.region r68_1 none) k68_1) k68_3
@[simp] def fn68 : HFn := { nargs := 2, results := [.cell 4 4 true, .tmp 5], mode := .iso, code := (.seq (.region r68_0 none) k68_0) }
theorem c68 : cFn Tryd.prog (Hs 68) .iso 68 = some fn68 := by kernel_rfl
/- sterling/constant.Int -/
@[simp] def r49_0 : List HOp := [⟨(some 1), true, .box false (.env 0), none⟩,
     ⟨(some 2), true, .alloc [(.sc (.int .i64 0)), (.sc (.bool false)), (.sc (.string ⟨⟨[]⟩⟩)), (.sc (.bool false)), (.sc (.slice none 0 0)), (.sc (.bool false)), (.sc (.slice none 0 0))], none⟩]
@[simp] def r49_1 : List HOp := [⟨(some 3), false, .load 2 true (.env 1), none⟩,
     ⟨(some 4), false, .callf 28 [(.loc 3)], none⟩,
     ⟨(some 5), false, .build [(.sc (.int .i64 0)), (.sc (.bool false)), (.sc (.string ⟨⟨[]⟩⟩)), (.sc (.bool false)), (.sc (.slice none 0 0)), (.sc (.bool false)), (.sc (.slice none 0 0))] [(0, 1, (.val (.tr (.sc (.int .i64 3))))), (3, 4, (.loc 4))], none⟩,
     ⟨none, false, .store 7 (.env 2) (.loc 5), none⟩]
@[simp] def k49_0 : HCode := .seq (.region r49_1 none) .ret
@[simp] def fn49 : HFn := { nargs := 1, results := [.cell 2 7 true], mode := .iso, code := (.seq (.region r49_0 none) k49_0) }
theorem c49 : cFn Tryd.prog (Hs 49) .iso 49 = some fn49 := by kernel_rfl
/- sterling/constant.Fits -/
@[simp] def r48_0 : List HOp := [⟨(some 2), true, .box false (.env 0), none⟩,
     ⟨(some 4), true, .alloc [(.sc (.int .i64 0)), (.sc (.bool false)), (.sc (.string ⟨⟨[]⟩⟩)), (.sc (.bool false)), (.sc (.slice none 0 0)), (.sc (.bool false)), (.sc (.slice none 0 0))], none⟩,
     ⟨(some 5), true, .mv (.val (.tr (.sc (.bool false)))), none⟩]
@[simp] def r48_1 : List HOp := [⟨(some 15), false, .mv (.env 1), none⟩,
     ⟨(some 16), false, .callf 35 [(.loc 15)], none⟩,
     ⟨(some 14), false, .mv (.loc 16), none⟩,
     ⟨(some 17), false, .extract (.loc 14) 0, none⟩,
     ⟨(some 18), false, .extract (.loc 14) 1, none⟩,
     ⟨(some 19), false, .extract (.loc 14) 2, none⟩,
     ⟨(some 6), true, .alloc [(.sc (.bool false)), (.sc (.slice none 0 0))], none⟩,
     ⟨(some 7), true, .alloc [(.sc (.bool false)), (.sc (.slice none 0 0))], none⟩,
     ⟨none, false, .store 2 (.env 6) (.loc 17), none⟩,
     ⟨none, false, .store 2 (.env 7) (.loc 18), none⟩,
     ⟨(some 8), true, .mv (.loc 19), none⟩]
@[simp] def r48_2 : List HOp := [⟨(some 9), true, .mv (.val (.tr (.sc (.float .f64 0)))), none⟩]
@[simp] def r48_3 : List HOp := [⟨(some 22), false, .load 7 true (.env 2), none⟩,
       ⟨(some 23), false, .callf 71 [(.loc 22)], none⟩,
       ⟨(some 24), false, .un .not (.loc 23), none⟩,
       ⟨(some 21), false, .mv (.loc 24), none⟩]
@[simp] def r48_4 : List HOp := [⟨(some 25), false, .build [(.sc (.int .i64 0)), (.sc (.bool false)), (.sc (.string ⟨⟨[]⟩⟩)), (.sc (.bool false)), (.sc (.slice none 0 0)), (.sc (.bool false)), (.sc (.slice none 0 0))] [], none⟩,
        ⟨none, false, .store 7 (.env 4) (.loc 25), none⟩,
        ⟨(some 5), true, .mv (.val (.tr (.sc (.bool false)))), none⟩]
@[simp] def r48_5 : List HOp := [⟨(some 27), false, .mv (.env 1), none⟩,
         ⟨(some 28), false, .bin .other .eql (.loc 27) (.val (.tr (.sc (.string ⟨⟨[98, 111, 111, 108]⟩⟩)))), none⟩,
         ⟨(some 29), false, .mv (.loc 28), none⟩,
         ⟨(some 30), false, .faddr 0 (.env 2), some ((.loc 29), true)⟩,
         ⟨(some 31), false, .load 1 false (.loc 30), some ((.loc 29), true)⟩,
         ⟨(some 32), false, .bin .other .eql (.loc 31) (.val (.tr (.sc (.int .i64 1)))), some ((.loc 29), true)⟩,
         ⟨(some 33), false, .pick (.loc 29) (.loc 32) (.val (.tr (.sc (.bool false)))), none⟩,
         ⟨(some 26), true, .mv (.loc 33), none⟩]
@[simp] def r48_6 : List HOp := [⟨(some 34), false, .mv (.env 1), none⟩,
         ⟨(some 35), false, .bin .other .eql (.loc 34) (.val (.tr (.sc (.string ⟨⟨[115, 116, 114, 105, 110, 103]⟩⟩)))), none⟩,
         ⟨(some 36), false, .mv (.loc 35), none⟩,
         ⟨(some 37), false, .faddr 0 (.env 2), some ((.loc 36), true)⟩,
         ⟨(some 38), false, .load 1 false (.loc 37), some ((.loc 36), true)⟩,
         ⟨(some 39), false, .bin .other .eql (.loc 38) (.val (.tr (.sc (.int .i64 2)))), some ((.loc 36), true)⟩,
         ⟨(some 40), false, .pick (.loc 36) (.loc 39) (.val (.tr (.sc (.bool false)))), none⟩,
         ⟨(some 26), true, .mv (.loc 40), none⟩]
@[simp] def r48_7 : List HOp := [⟨(some 41), false, .load 7 true (.env 2), none⟩,
         ⟨none, false, .store 7 (.env 4) (.loc 41), none⟩,
         ⟨(some 5), true, .mv (.val (.tr (.sc (.bool true)))), none⟩]
@[simp] def r48_8 : List HOp := [⟨(some 43), false, .load 7 true (.env 2), none⟩,
         ⟨(some 44), false, .callf 72 [(.loc 43)], none⟩,
         ⟨(some 45), false, .un .not (.loc 44), none⟩,
         ⟨(some 42), false, .mv (.loc 45), none⟩]
@[simp] def r48_9 : List HOp := [⟨(some 46), false, .build [(.sc (.int .i64 0)), (.sc (.bool false)), (.sc (.string ⟨⟨[]⟩⟩)), (.sc (.bool false)), (.sc (.slice none 0 0)), (.sc (.bool false)), (.sc (.slice none 0 0))] [], none⟩,
          ⟨none, false, .store 7 (.env 4) (.loc 46), none⟩,
          ⟨(some 5), true, .mv (.val (.tr (.sc (.bool false)))), none⟩]
@[simp] def r48_10 : List HOp := [⟨(some 48), false, .mv (.env 8), none⟩,
          ⟨(some 47), false, .mv (.loc 48), none⟩]
@[simp] def r48_11 : List HOp := [⟨(some 50), false, .faddr 3 (.env 2), none⟩,
           ⟨(some 51), false, .load 4 true (.loc 50), none⟩,
           ⟨(some 52), false, .callf 73 [(.loc 51)], none⟩,
           ⟨(some 49), false, .mv (.loc 52), none⟩,
           ⟨(some 53), false, .extract (.loc 49) 0, none⟩,
           ⟨(some 54), false, .extract (.loc 49) 1, none⟩,
           ⟨(some 10), true, .alloc [(.sc (.bool false)), (.sc (.slice none 0 0))], none⟩,
           ⟨none, false, .store 2 (.env 10) (.loc 53), none⟩,
           ⟨(some 11), true, .mv (.loc 54), none⟩]
@[simp] def r48_12 : List HOp := [⟨(some 55), false, .mv (.env 11), none⟩,
            ⟨(some 56), false, .un .not (.loc 55), none⟩,
            ⟨(some 57), false, .mv (.loc 56), none⟩,
            ⟨(some 58), false, .load 2 true (.env 10), some ((.loc 57), false)⟩,
            ⟨(some 59), false, .load 2 true (.env 6), some ((.loc 57), false)⟩,
            ⟨(some 60), false, .callf 62 [(.loc 58), (.loc 59)], some ((.loc 57), false)⟩,
            ⟨(some 61), false, .bin .other .lss (.loc 60) (.val (.tr (.sc (.int .i64 0)))), some ((.loc 57), false)⟩,
            ⟨(some 62), false, .pick (.loc 57) (.val (.tr (.sc (.bool true)))) (.loc 61), none⟩,
            ⟨(some 63), false, .mv (.loc 62), none⟩,
            ⟨(some 64), false, .load 2 true (.env 10), some ((.loc 63), false)⟩,
            ⟨(some 65), false, .load 2 true (.env 7), some ((.loc 63), false)⟩,
            ⟨(some 66), false, .callf 62 [(.loc 64), (.loc 65)], some ((.loc 63), false)⟩,
            ⟨(some 67), false, .bin .other .gtr (.loc 66) (.val (.tr (.sc (.int .i64 0)))), some ((.loc 63), false)⟩,
            ⟨(some 68), false, .pick (.loc 63) (.val (.tr (.sc (.bool true)))) (.loc 67), none⟩]
@[simp] def r48_13 : List HOp := [⟨(some 69), false, .build [(.sc (.int .i64 0)), (.sc (.bool false)), (.sc (.string ⟨⟨[]⟩⟩)), (.sc (.bool false)), (.sc (.slice none 0 0)), (.sc (.bool false)), (.sc (.slice none 0 0))] [], none⟩,
             ⟨none, false, .store 7 (.env 4) (.loc 69), none⟩,
             ⟨(some 5), true, .mv (.val (.tr (.sc (.bool false)))), none⟩]
@[simp] def r48_14 : List HOp := [⟨(some 70), false, .load 2 true (.env 10), none⟩,
           ⟨(some 71), false, .callf 49 [(.loc 70)], none⟩,
           ⟨none, false, .store 7 (.env 4) (.loc 71), none⟩,
           ⟨(some 5), true, .mv (.val (.tr (.sc (.bool true)))), none⟩]
@[simp] def r48_15 : List HOp := [⟨(some 73), false, .mv (.env 1), none⟩,
           ⟨(some 74), false, .bin .other .eql (.loc 73) (.val (.tr (.sc (.string ⟨⟨[102, 108, 111, 97, 116, 51, 50]⟩⟩)))), none⟩,
           ⟨(some 72), false, .mv (.loc 74), none⟩]
@[simp] def r48_16 : List HOp := [⟨(some 75), false, .faddr 3 (.env 2), none⟩,
           ⟨(some 76), false, .load 4 true (.loc 75), none⟩,
           ⟨(some 77), false, .callf 27 [(.loc 76)], none⟩,
           ⟨(some 78), false, .conv (.toFloat .f64) (.loc 77), none⟩,
           ⟨(some 9), true, .mv (.loc 78), none⟩]
@[simp] def r48_17 : List HOp := [⟨(some 80), false, .mv (.env 1), none⟩,
            ⟨(some 81), false, .bin .other .eql (.loc 80) (.val (.tr (.sc (.string ⟨⟨[102, 108, 111, 97, 116, 54, 52]⟩⟩)))), none⟩,
            ⟨(some 79), false, .mv (.loc 81), none⟩]
@[simp] def r48_18 : List HOp := [⟨(some 82), false, .faddr 3 (.env 2), none⟩,
            ⟨(some 83), false, .load 4 true (.loc 82), none⟩,
            ⟨(some 84), false, .callf 29 [(.loc 83)], none⟩,
            ⟨(some 9), true, .mv (.loc 84), none⟩]
@[simp] def r48_19 : List HOp := [⟨(some 20), false, .build [(.sc (.int .i64 0)), (.sc (.bool false)), (.sc (.string ⟨⟨[]⟩⟩)), (.sc (.bool false)), (.sc (.slice none 0 0)), (.sc (.bool false)), (.sc (.slice none 0 0))] [], none⟩,
             ⟨none, false, .store 7 (.env 4) (.loc 20), none⟩,
             ⟨(some 5), true, .mv (.val (.tr (.sc (.bool false)))), none⟩]
@[simp] def r48_20 : List HOp := [⟨(some 86), false, .mv (.env 9), none⟩,
     ⟨(some 87), false, .callf 46 [(.loc 86)], none⟩,
     ⟨(some 85), false, .mv (.loc 87), none⟩,
     ⟨(some 88), false, .extract (.loc 85) 0, none⟩,
     ⟨(some 89), false, .extract (.loc 85) 1, none⟩,
     ⟨(some 12), true, .alloc [(.sc (.bool false)), (.sc (.slice none 0 0)), (.sc (.bool false)), (.sc (.slice none 0 0))], none⟩,
     ⟨none, false, .store 4 (.env 12) (.loc 88), none⟩,
     ⟨(some 13), true, .mv (.loc 89), none⟩]
@[simp] def r48_21 : List HOp := [⟨(some 90), false, .mv (.env 13), none⟩,
      ⟨(some 91), false, .un .not (.loc 90), none⟩]
@[simp] def r48_22 : List HOp := [⟨(some 92), false, .build [(.sc (.int .i64 0)), (.sc (.bool false)), (.sc (.string ⟨⟨[]⟩⟩)), (.sc (.bool false)), (.sc (.slice none 0 0)), (.sc (.bool false)), (.sc (.slice none 0 0))] [], none⟩,
       ⟨none, false, .store 7 (.env 4) (.loc 92), none⟩,
       ⟨(some 5), true, .mv (.val (.tr (.sc (.bool false)))), none⟩]
@[simp] def r48_23 : List HOp := [⟨(some 93), false, .load 4 true (.env 12), none⟩,
     ⟨(some 94), false, .callf 74 [(.loc 93)], none⟩,
     ⟨none, false, .store 7 (.env 4) (.loc 94), none⟩,
     ⟨(some 5), true, .mv (.val (.tr (.sc (.bool true)))), none⟩]
@[simp] def k48_4 : HCode := .seq (.region r48_4 none) .ret
@[simp] def k48_6 : HCode := .cond (.env 26) .skip (.region r48_6 none)
@[simp] def k48_8 : HCode := .seq (.region r48_7 none) .ret
@[simp] def k48_11 : HCode := .seq (.region r48_9 none) .ret
@[simp] def k48_17 : HCode := .seq (.region r48_13 none) .ret
@[simp] def k48_16 : HCode := .cond (.loc 68) k48_17 .skip
def k48_18 : HCode := .seq (.region r48_14 none) .ret
@[simp] def k48_15 : HCode := .seq (.seq (.region r48_12 none) k48_16) k48_18
@[simp] def k48_14 : HCode := .seq (.region r48_11 none) k48_15
@[simp] def k48_23 : HCode := .seq (.region r48_19 none) .ret
@[simp] def k48_22 : HCode := .cond (.loc 79) (.region r48_18 none) k48_23
@[simp] def k48_21 : HCode := .seq (.region r48_17 none) k48_22
@[simp] def k48_20 : HCode := .cond (.loc 72) (.region r48_16 none) k48_21
@[simp] def k48_19 : HCode := .seq (.region r48_15 none) k48_20
@[simp] def k48_13 : HCode := .cond (.loc 47) k48_14 k48_19
@[simp] def k48_12 : HCode := .seq (.region r48_10 none) k48_13
@[simp] def k48_10 : HCode := .cond (.loc 42) k48_11 k48_12
@[simp] def k48_9 : HCode := .seq (.region r48_8 none) k48_10
def k48_7 : HCode := .cond (.env 26) k48_8 k48_9
@[simp] def k48_5 : HCode := .seq (.seq (.region r48_5 none) k48_6) k48_7
@[simp] def k48_3 : HCode := .cond (.loc 21) k48_4 k48_5
@[simp] def k48_27 : HCode := .seq (.region r48_22 none) .ret
@[simp] def k48_26 : HCode := .cond (.loc 91) k48_27 .skip
def k48_28 : HCode := .seq (.region r48_23 none) .ret
@[simp] def k48_25 : HCode := .seq (.seq (.region r48_21 none) k48_26) k48_28
def k48_24 : HCode := .seq (.region r48_20 none) k48_25
@[simp] def k48_2 : HCode := .seq (.block 0 (.seq (.region r48_3 none) k48_3)) k48_24
@[simp] def k48_1 : HCode := .seq (.region r48_2 none) k48_2
@[simp] def k48_0 : HCode := .seq (.region r48_1 none) k48_1
@[simp] def fn48 : HFn := { nargs := 2, results := [.cell 4 7 true, .tmp 5], mode := .iso, code := (.seq (.region r48_0 none) k48_0) }
theorem c48 : cFn Tryd.prog (Hs 48) .iso 48 = some fn48 := by kernel_rfl
/- sterling/constant.May -/
@[simp] def r71_0 : List HOp := [⟨(some 1), true, .box false (.env 0), none⟩,
     ⟨(some 2), true, .mv (.val (.tr (.sc (.bool false)))), none⟩]
@[simp] def r71_1 : List HOp := [⟨(some 6), false, .faddr 3 (.env 1), none⟩,
     ⟨(some 7), false, .faddr 0 (.loc 6), none⟩,
     ⟨(some 8), false, .faddr 0 (.loc 7), none⟩,
     ⟨(some 9), false, .load 1 false (.loc 8), none⟩,
     ⟨(some 10), false, .un .not (.loc 9), none⟩,
     ⟨(some 11), false, .mv (.loc 10), none⟩,
     ⟨(some 12), false, .faddr 3 (.env 1), some ((.loc 11), true)⟩,
     ⟨(some 13), false, .faddr 0 (.loc 12), some ((.loc 11), true)⟩,
     ⟨(some 14), false, .faddr 1 (.loc 13), some ((.loc 11), true)⟩,
     ⟨(some 15), false, .load 1 false (.loc 14), some ((.loc 11), true)⟩,
     ⟨(some 16), false, .len 1 (.loc 15), some ((.loc 11), true)⟩,
     ⟨(some 17), false, .bin .other .eql (.loc 16) (.val (.tr (.sc (.int .i64 0)))), some ((.loc 11), true)⟩,
     ⟨(some 18), false, .pick (.loc 11) (.loc 17) (.val (.tr (.sc (.bool false)))), none⟩,
     ⟨(some 19), false, .mv (.loc 18), none⟩,
     ⟨(some 20), false, .faddr 3 (.env 1), some ((.loc 19), true)⟩,
     ⟨(some 21), false, .faddr 2 (.loc 20), some ((.loc 19), true)⟩,
     ⟨(some 22), false, .faddr 0 (.loc 21), some ((.loc 19), true)⟩,
     ⟨(some 23), false, .load 1 false (.loc 22), some ((.loc 19), true)⟩,
     ⟨(some 24), false, .un .not (.loc 23), some ((.loc 19), true)⟩,
     ⟨(some 25), false, .pick (.loc 19) (.loc 24) (.val (.tr (.sc (.bool false)))), none⟩,
     ⟨(some 26), false, .mv (.loc 25), none⟩,
     ⟨(some 27), false, .faddr 3 (.env 1), some ((.loc 26), true)⟩,
     ⟨(some 28), false, .faddr 2 (.loc 27), some ((.loc 26), true)⟩,
     ⟨(some 29), false, .faddr 1 (.loc 28), some ((.loc 26), true)⟩,
     ⟨(some 30), false, .load 1 false (.loc 29), some ((.loc 26), true)⟩,
     ⟨(some 31), false, .len 1 (.loc 30), some ((.loc 26), true)⟩,
     ⟨(some 32), false, .bin .other .eql (.loc 31) (.val (.tr (.sc (.int .i64 0)))), some ((.loc 26), true)⟩,
     ⟨(some 33), false, .pick (.loc 26) (.loc 32) (.val (.tr (.sc (.bool false)))), none⟩,
     ⟨(some 3), true, .mv (.loc 33), none⟩]
@[simp] def r71_2 : List HOp := [⟨(some 34), false, .mv (.env 3), none⟩,
      ⟨(some 35), false, .un .not (.loc 34), none⟩,
      ⟨(some 36), false, .mv (.loc 35), none⟩,
      ⟨(some 37), false, .faddr 3 (.env 1), some ((.loc 36), true)⟩,
      ⟨(some 38), false, .faddr 0 (.loc 37), some ((.loc 36), true)⟩,
      ⟨(some 39), false, .faddr 1 (.loc 38), some ((.loc 36), true)⟩,
      ⟨(some 40), false, .load 1 false (.loc 39), some ((.loc 36), true)⟩,
      ⟨(some 41), false, .len 1 (.loc 40), some ((.loc 36), true)⟩,
      ⟨(some 42), false, .bin .other .gtr (.loc 41) (.val (.tr (.sc (.int .i64 4096)))), some ((.loc 36), true)⟩,
      ⟨(some 43), false, .mv (.loc 42), some ((.loc 36), true)⟩,
      ⟨(some 44), false, .faddr 3 (.env 1), some ((.loc 43), false)⟩,
      ⟨(some 45), false, .faddr 2 (.loc 44), some ((.loc 43), false)⟩,
      ⟨(some 46), false, .faddr 1 (.loc 45), some ((.loc 43), false)⟩,
      ⟨(some 47), false, .load 1 false (.loc 46), some ((.loc 43), false)⟩,
      ⟨(some 48), false, .len 1 (.loc 47), some ((.loc 43), false)⟩,
      ⟨(some 49), false, .bin .other .gtr (.loc 48) (.val (.tr (.sc (.int .i64 4096)))), some ((.loc 43), false)⟩,
      ⟨(some 50), false, .pick (.loc 43) (.val (.tr (.sc (.bool true)))) (.loc 49), some ((.loc 36), true)⟩,
      ⟨(some 51), false, .pick (.loc 36) (.loc 50) (.val (.tr (.sc (.bool false)))), none⟩]
@[simp] def r71_3 : List HOp := [⟨(some 2), true, .mv (.val (.tr (.sc (.bool false)))), none⟩]
@[simp] def r71_4 : List HOp := [⟨(some 52), false, .faddr 0 (.env 1), none⟩,
      ⟨(some 53), true, .load 1 false (.loc 52), none⟩]
@[simp] def r71_5 : List HOp := [⟨(some 55), false, .bin .other .eql (.env 53) (.val (.tr (.sc (.int .i64 1)))), none⟩,
       ⟨(some 54), false, .mv (.loc 55), none⟩]
@[simp] def r71_6 : List HOp := [⟨(some 56), false, .mv (.env 3), none⟩,
        ⟨(some 57), false, .mv (.loc 56), none⟩,
        ⟨(some 58), false, .faddr 2 (.env 1), some ((.loc 57), true)⟩,
        ⟨(some 59), false, .load 1 false (.loc 58), some ((.loc 57), true)⟩,
        ⟨(some 60), false, .bin .other .eql (.loc 59) (.val (.tr (.sc (.string ⟨⟨[]⟩⟩)))), some ((.loc 57), true)⟩,
        ⟨(some 61), false, .pick (.loc 57) (.loc 60) (.val (.tr (.sc (.bool false)))), none⟩,
        ⟨(some 2), true, .mv (.loc 61), none⟩]
@[simp] def r71_7 : List HOp := [⟨(some 63), false, .bin .other .eql (.env 53) (.val (.tr (.sc (.int .i64 2)))), none⟩,
        ⟨(some 62), false, .mv (.loc 63), none⟩]
@[simp] def r71_8 : List HOp := [⟨(some 64), false, .mv (.env 3), none⟩,
         ⟨(some 65), false, .mv (.loc 64), none⟩,
         ⟨(some 66), false, .faddr 1 (.env 1), some ((.loc 65), true)⟩,
         ⟨(some 67), false, .load 1 false (.loc 66), some ((.loc 65), true)⟩,
         ⟨(some 68), false, .un .not (.loc 67), some ((.loc 65), true)⟩,
         ⟨(some 69), false, .pick (.loc 65) (.loc 68) (.val (.tr (.sc (.bool false)))), none⟩,
         ⟨(some 70), false, .mv (.loc 69), none⟩,
         ⟨(some 71), false, .faddr 2 (.env 1), some ((.loc 70), true)⟩,
         ⟨(some 72), false, .load 1 false (.loc 71), some ((.loc 70), true)⟩,
         ⟨(some 73), false, .len 0 (.loc 72), some ((.loc 70), true)⟩,
         ⟨(some 74), false, .bin .other .leq (.loc 73) (.val (.tr (.sc (.int .i64 65536)))), some ((.loc 70), true)⟩,
         ⟨(some 75), false, .pick (.loc 70) (.loc 74) (.val (.tr (.sc (.bool false)))), none⟩,
         ⟨(some 2), true, .mv (.loc 75), none⟩]
@[simp] def r71_9 : List HOp := [⟨(some 77), false, .bin .other .eql (.env 53) (.val (.tr (.sc (.int .i64 3)))), none⟩,
         ⟨(some 76), false, .mv (.loc 77), none⟩]
@[simp] def r71_10 : List HOp := [⟨(some 79), false, .faddr 3 (.env 1), none⟩,
          ⟨(some 80), false, .load 4 true (.loc 79), none⟩,
          ⟨(some 81), false, .callf 73 [(.loc 80)], none⟩,
          ⟨(some 78), false, .mv (.loc 81), none⟩,
          ⟨(some 82), false, .extract (.loc 78) 0, none⟩,
          ⟨(some 83), false, .extract (.loc 78) 1, none⟩,
          ⟨(some 4), false, .alloc [(.sc (.bool false)), (.sc (.slice none 0 0))], none⟩,
          ⟨none, false, .store 2 (.loc 4) (.loc 82), none⟩,
          ⟨(some 5), true, .mv (.loc 83), none⟩]
@[simp] def r71_11 : List HOp := [⟨(some 84), false, .mv (.env 5), none⟩,
          ⟨(some 85), false, .mv (.loc 84), none⟩,
          ⟨(some 86), false, .faddr 1 (.env 1), some ((.loc 85), true)⟩,
          ⟨(some 87), false, .load 1 false (.loc 86), some ((.loc 85), true)⟩,
          ⟨(some 88), false, .un .not (.loc 87), some ((.loc 85), true)⟩,
          ⟨(some 89), false, .pick (.loc 85) (.loc 88) (.val (.tr (.sc (.bool false)))), none⟩,
          ⟨(some 90), false, .mv (.loc 89), none⟩,
          ⟨(some 91), false, .faddr 2 (.env 1), some ((.loc 90), true)⟩,
          ⟨(some 92), false, .load 1 false (.loc 91), some ((.loc 90), true)⟩,
          ⟨(some 93), false, .bin .other .eql (.loc 92) (.val (.tr (.sc (.string ⟨⟨[]⟩⟩)))), some ((.loc 90), true)⟩,
          ⟨(some 94), false, .pick (.loc 90) (.loc 93) (.val (.tr (.sc (.bool false)))), none⟩,
          ⟨(some 95), false, .mv (.loc 94), none⟩,
          ⟨(some 96), false, .faddr 3 (.env 1), some ((.loc 95), true)⟩,
          ⟨(some 97), false, .load 4 true (.loc 96), some ((.loc 95), true)⟩,
          ⟨(some 98), false, .callf 91 [(.loc 97)], some ((.loc 95), true)⟩,
          ⟨(some 99), false, .pick (.loc 95) (.loc 98) (.val (.tr (.sc (.bool false)))), none⟩,
          ⟨(some 2), true, .mv (.loc 99), none⟩]
@[simp] def r71_12 : List HOp := [⟨(some 101), false, .bin .other .eql (.env 53) (.val (.tr (.sc (.int .i64 4)))), none⟩,
          ⟨(some 100), false, .mv (.loc 101), none⟩]
@[simp] def r71_13 : List HOp := [⟨(some 102), false, .faddr 1 (.env 1), none⟩,
           ⟨(some 103), false, .load 1 false (.loc 102), none⟩,
           ⟨(some 104), false, .un .not (.loc 103), none⟩,
           ⟨(some 105), false, .mv (.loc 104), none⟩,
           ⟨(some 106), false, .faddr 2 (.env 1), some ((.loc 105), true)⟩,
           ⟨(some 107), false, .load 1 false (.loc 106), some ((.loc 105), true)⟩,
           ⟨(some 108), false, .bin .other .eql (.loc 107) (.val (.tr (.sc (.string ⟨⟨[]⟩⟩)))), some ((.loc 105), true)⟩,
           ⟨(some 109), false, .pick (.loc 105) (.loc 108) (.val (.tr (.sc (.bool false)))), none⟩,
           ⟨(some 110), false, .mv (.loc 109), none⟩,
           ⟨(some 111), false, .faddr 3 (.env 1), some ((.loc 110), true)⟩,
           ⟨(some 112), false, .load 4 true (.loc 111), some ((.loc 110), true)⟩,
           ⟨(some 113), false, .callf 91 [(.loc 112)], some ((.loc 110), true)⟩,
           ⟨(some 114), false, .pick (.loc 110) (.loc 113) (.val (.tr (.sc (.bool false)))), none⟩,
           ⟨(some 2), true, .mv (.loc 114), none⟩]
@[simp] def r71_14 : List HOp := [⟨(some 2), true, .mv (.val (.tr (.sc (.bool false)))), none⟩]
@[simp] def k71_3 : HCode := .seq (.region r71_3 none) .ret
@[simp] def k71_2 : HCode := .cond (.loc 51) k71_3 .skip
@[simp] def k71_7 : HCode := .seq (.region r71_6 none) .ret
@[simp] def k71_10 : HCode := .seq (.region r71_8 none) .ret
@[simp] def k71_14 : HCode := .seq (.region r71_11 none) .ret
@[simp] def k71_13 : HCode := .seq (.region r71_10 none) k71_14
@[simp] def k71_17 : HCode := .seq (.region r71_13 none) .ret
@[simp] def k71_16 : HCode := .cond (.loc 100) k71_17 .skip
@[simp] def k71_15 : HCode := .seq (.region r71_12 none) k71_16
@[simp] def k71_12 : HCode := .cond (.loc 76) k71_13 k71_15
@[simp] def k71_11 : HCode := .seq (.region r71_9 none) k71_12
@[simp] def k71_9 : HCode := .cond (.loc 62) k71_10 k71_11
@[simp] def k71_8 : HCode := .seq (.region r71_7 none) k71_9
@[simp] def k71_6 : HCode := .cond (.loc 54) k71_7 k71_8
@[simp] def k71_5 : HCode := .block 0 (.seq (.region r71_5 none) k71_6)
def k71_18 : HCode := .seq (.region r71_14 none) .ret
def k71_4 : HCode := .seq (.seq (.region r71_4 none) k71_5) k71_18
@[simp] def k71_1 : HCode := .seq (.seq (.region r71_2 none) k71_2) k71_4
@[simp] def k71_0 : HCode := .seq (.region r71_1 none) k71_1
@[simp] def fn71 : HFn := { nargs := 1, results := [.tmp 2], mode := .iso, code := (.seq (.region r71_0 none) k71_0) }
theorem c71 : cFn Tryd.prog (Hs 71) .iso 71 = some fn71 := by kernel_rfl
/- sterling/ratio.Int -/
@[simp] def r73_0 : List HOp := [⟨(some 1), true, .box false (.env 0), none⟩,
     ⟨(some 2), true, .alloc [(.sc (.bool false)), (.sc (.slice none 0 0))], none⟩,
     ⟨(some 3), true, .mv (.val (.tr (.sc (.bool false)))), none⟩]
@[simp] def r73_1 : List HOp := [⟨(some 4), false, .load 4 true (.env 1), none⟩,
     ⟨(some 5), false, .callf 79 [(.loc 4)], none⟩,
     ⟨none, false, .store 4 (.env 1) (.loc 5), none⟩]
@[simp] def r73_2 : List HOp := [⟨(some 6), false, .faddr 2 (.env 1), none⟩,
      ⟨(some 7), false, .load 2 true (.loc 6), none⟩,
      ⟨(some 8), false, .callf 24 [(.val (.tr (.sc (.int .i64 1))))], none⟩,
      ⟨(some 9), false, .callf 62 [(.loc 7), (.loc 8)], none⟩,
      ⟨(some 10), false, .bin .other .neq (.loc 9) (.val (.tr (.sc (.int .i64 0)))), none⟩]
@[simp] def r73_3 : List HOp := [⟨(some 11), false, .build [(.sc (.bool false)), (.sc (.slice none 0 0))] [], none⟩,
       ⟨none, false, .store 2 (.env 2) (.loc 11), none⟩,
       ⟨(some 3), true, .mv (.val (.tr (.sc (.bool false)))), none⟩]
@[simp] def r73_4 : List HOp := [⟨(some 12), false, .faddr 0 (.env 1), none⟩,
     ⟨(some 13), false, .load 2 true (.loc 12), none⟩,
     ⟨none, false, .store 2 (.env 2) (.loc 13), none⟩,
     ⟨(some 3), true, .mv (.val (.tr (.sc (.bool true)))), none⟩]
@[simp] def k73_3 : HCode := .seq (.region r73_3 none) .ret
@[simp] def k73_2 : HCode := .cond (.loc 10) k73_3 .skip
def k73_4 : HCode := .seq (.region r73_4 none) .ret
@[simp] def k73_1 : HCode := .seq (.seq (.region r73_2 (some [ ( 0, [ 1 ] ) , ( 6, [ 6 ] ) , ( 2, [ ] ) , ( 2, [ 7, 8 ] ) , ( 0, [ 9 ] ) ])) k73_2) k73_4
@[simp] def k73_0 : HCode := .seq (.region r73_1 none) k73_1
@[simp] def fn73 : HFn := { nargs := 1, results := [.cell 2 2 true, .tmp 3], mode := .iso, code := (.seq (.region r73_0 none) k73_0) }
theorem c73 : cFn Tryd.prog (Hs 73) .iso 73 = some fn73 := by kernel_rfl
/- sterling/constant.small -/
@[simp] def r91_0 : List HOp := [⟨(some 1), true, .box false (.env 0), none⟩,
     ⟨(some 2), true, .mv (.val (.tr (.sc (.bool false)))), none⟩]
@[simp] def r91_1 : List HOp := [⟨(some 3), false, .load 4 true (.env 1), none⟩,
     ⟨(some 4), false, .build [(.sc (.bool false)), (.sc (.slice none 0 0)), (.sc (.bool false)), (.sc (.slice none 0 0))] [], none⟩,
     ⟨(some 5), false, .callf 58 [(.loc 3), (.loc 4)], none⟩,
     ⟨none, false, .store 4 (.env 1) (.loc 5), none⟩]
@[simp] def r91_2 : List HOp := [⟨(some 6), false, .faddr 0 (.env 1), none⟩,
     ⟨(some 7), false, .load 2 true (.loc 6), none⟩,
     ⟨(some 8), false, .callf 59 [(.loc 7)], none⟩,
     ⟨(some 9), false, .bin .other .leq (.loc 8) (.val (.tr (.sc (.int .i64 8192)))), none⟩,
     ⟨(some 10), false, .mv (.loc 9), none⟩,
     ⟨(some 11), false, .faddr 2 (.env 1), some ((.loc 10), true)⟩,
     ⟨(some 12), false, .load 2 true (.loc 11), some ((.loc 10), true)⟩,
     ⟨(some 13), false, .callf 59 [(.loc 12)], some ((.loc 10), true)⟩,
     ⟨(some 14), false, .bin .other .leq (.loc 13) (.val (.tr (.sc (.int .i64 8192)))), some ((.loc 10), true)⟩,
     ⟨(some 15), false, .pick (.loc 10) (.loc 14) (.val (.tr (.sc (.bool false)))), none⟩,
     ⟨(some 2), true, .mv (.loc 15), none⟩]
@[simp] def k91_1 : HCode := .seq (.region r91_2 none) .ret
@[simp] def k91_0 : HCode := .seq (.region r91_1 none) k91_1
@[simp] def fn91 : HFn := { nargs := 1, results := [.tmp 2], mode := .iso, code := (.seq (.region r91_0 none) k91_0) }
theorem c91 : cFn Tryd.prog (Hs 91) .iso 91 = some fn91 := by kernel_rfl
/- sterling/constant.number -/
@[simp] def r72_0 : List HOp := [⟨(some 1), true, .box false (.env 0), none⟩,
     ⟨(some 2), true, .mv (.val (.tr (.sc (.bool false)))), none⟩]
@[simp] def r72_1 : List HOp := [⟨(some 3), false, .load 7 true (.env 1), none⟩,
     ⟨(some 4), false, .callf 71 [(.loc 3)], none⟩,
     ⟨(some 5), false, .mv (.loc 4), none⟩,
     ⟨(some 6), false, .faddr 0 (.env 1), some ((.loc 5), true)⟩,
     ⟨(some 7), false, .load 1 false (.loc 6), some ((.loc 5), true)⟩,
     ⟨(some 8), false, .bin .other .eql (.loc 7) (.val (.tr (.sc (.int .i64 3)))), some ((.loc 5), true)⟩,
     ⟨(some 9), false, .mv (.loc 8), some ((.loc 5), true)⟩,
     ⟨(some 10), false, .faddr 0 (.env 1), some ((.loc 9), false)⟩,
     ⟨(some 11), false, .load 1 false (.loc 10), some ((.loc 9), false)⟩,
     ⟨(some 12), false, .bin .other .eql (.loc 11) (.val (.tr (.sc (.int .i64 4)))), some ((.loc 9), false)⟩,
     ⟨(some 13), false, .pick (.loc 9) (.val (.tr (.sc (.bool true)))) (.loc 12), some ((.loc 5), true)⟩,
     ⟨(some 14), false, .pick (.loc 5) (.loc 13) (.val (.tr (.sc (.bool false)))), none⟩,
     ⟨(some 2), true, .mv (.loc 14), none⟩]
@[simp] def k72_0 : HCode := .seq (.region r72_1 none) .ret
@[simp] def fn72 : HFn := { nargs := 1, results := [.tmp 2], mode := .iso, code := (.seq (.region r72_0 none) k72_0) }
theorem c72 : cFn Tryd.prog (Hs 72) .iso 72 = some fn72 := by kernel_rfl
/- sterling/constant.Float -/
@[simp] def r74_0 : List HOp := [⟨(some 1), true, .box false (.env 0), none⟩,
     ⟨(some 2), true, .alloc [(.sc (.int .i64 0)), (.sc (.bool false)), (.sc (.string ⟨⟨[]⟩⟩)), (.sc (.bool false)), (.sc (.slice none 0 0)), (.sc (.bool false)), (.sc (.slice none 0 0))], none⟩]
@[simp] def r74_1 : List HOp := [⟨(some 3), false, .load 4 true (.env 1), none⟩,
     ⟨(some 4), false, .build [(.sc (.bool false)), (.sc (.slice none 0 0)), (.sc (.bool false)), (.sc (.slice none 0 0))] [], none⟩,
     ⟨(some 5), false, .callf 58 [(.loc 3), (.loc 4)], none⟩,
     ⟨(some 6), false, .build [(.sc (.int .i64 0)), (.sc (.bool false)), (.sc (.string ⟨⟨[]⟩⟩)), (.sc (.bool false)), (.sc (.slice none 0 0)), (.sc (.bool false)), (.sc (.slice none 0 0))] [(0, 1, (.val (.tr (.sc (.int .i64 4))))), (3, 4, (.loc 5))], none⟩,
     ⟨none, false, .store 7 (.env 2) (.loc 6), none⟩]
@[simp] def k74_0 : HCode := .seq (.region r74_1 none) .ret
@[simp] def fn74 : HFn := { nargs := 1, results := [.cell 2 7 true], mode := .iso, code := (.seq (.region r74_0 none) k74_0) }
theorem c74 : cFn Tryd.prog (Hs 74) .iso 74 = some fn74 := by kernel_rfl
/- sterling/value.bitsOf -/
@[simp] def r50_0 : List HOp := [⟨(some 1), true, .box true (.env 0), none⟩,
     ⟨(some 2), true, .mv (.val (.tr (.sc (.int .i64 0)))), none⟩]
@[simp] def r50_1 : List HOp := [⟨(some 10), false, .load 4 true (.env 1), none⟩,
     ⟨(some 11), false, .callf 73 [(.loc 10)], none⟩,
     ⟨(some 9), false, .mv (.loc 11), none⟩,
     ⟨(some 12), false, .extract (.loc 9) 0, none⟩,
     ⟨(some 13), false, .extract (.loc 9) 1, none⟩,
     ⟨(some 3), true, .alloc [(.sc (.bool false)), (.sc (.slice none 0 0))], none⟩,
     ⟨none, false, .store 2 (.env 3) (.loc 12), none⟩,
     ⟨(some 4), false, .mv (.loc 13), none⟩]
@[simp] def r50_2 : List HOp := [⟨(some 15), false, .load 2 true (.env 3), none⟩,
      ⟨(some 16), false, .callf 61 [(.loc 15)], none⟩,
      ⟨(some 14), false, .mv (.loc 16), none⟩,
      ⟨(some 17), false, .extract (.loc 14) 0, none⟩,
      ⟨(some 18), false, .extract (.loc 14) 1, none⟩,
      ⟨(some 5), true, .mv (.loc 17), none⟩,
      ⟨(some 6), true, .mv (.loc 18), none⟩]
@[simp] def r50_3 : List HOp := [⟨(some 19), false, .mv (.env 6), none⟩]
@[simp] def r50_4 : List HOp := [⟨(some 20), false, .mv (.env 5), none⟩,
       ⟨(some 2), true, .mv (.loc 20), none⟩]
@[simp] def r50_5 : List HOp := [⟨(some 22), false, .load 2 true (.env 3), none⟩,
     ⟨(some 23), false, .callf 24 [(.val (.tr (.sc (.int .i64 4294967296))))], none⟩,
     ⟨(some 24), false, .callf 24 [(.val (.tr (.sc (.int .i64 4294967296))))], none⟩,
     ⟨(some 25), false, .callf 26 [(.loc 23), (.loc 24)], none⟩,
     ⟨(some 26), false, .callf 56 [(.loc 22), (.loc 25)], none⟩,
     ⟨(some 27), false, .callf 61 [(.loc 26)], none⟩,
     ⟨(some 21), false, .mv (.loc 27), none⟩,
     ⟨(some 28), false, .extract (.loc 21) 0, none⟩,
     ⟨(some 29), false, .extract (.loc 21) 1, none⟩,
     ⟨(some 7), true, .mv (.loc 28), none⟩,
     ⟨(some 8), false, .mv (.loc 29), none⟩]
@[simp] def r50_6 : List HOp := [⟨(some 30), false, .mv (.env 7), none⟩,
     ⟨(some 2), true, .mv (.loc 30), none⟩]
@[simp] def k50_4 : HCode := .seq (.region r50_4 none) .ret
@[simp] def k50_3 : HCode := .cond (.loc 19) k50_4 .skip
@[simp] def k50_2 : HCode := .seq (.region r50_3 none) k50_3
@[simp] def k50_6 : HCode := .seq (.region r50_6 none) .ret
def k50_5 : HCode := .seq (.region r50_5 (some [ ( 7, [ 3 ] ) , ( 2, [ ] ) , ( 2, [ ] ) , ( 2, [ 23, 24 ] ) , ( 2, [ 22, 25 ] ) , ( 2, [ 26 ] ) , ( 0, [ 27 ] ) , ( 0, [ 21 ] ) , ( 0, [ 21 ] ) , ( 0, [ 28 ] ) , ( 0, [ 29 ] ) ])) k50_6
@[simp] def k50_1 : HCode := .seq (.seq (.region r50_2 none) k50_2) k50_5
@[simp] def k50_0 : HCode := .seq (.region r50_1 none) k50_1
@[simp] def fn50 : HFn := { nargs := 1, results := [.tmp 2], mode := .iso, code := (.seq (.region r50_0 none) k50_0) }
theorem c50 : cFn Tryd.prog (Hs 50) .iso 50 = some fn50 := by kernel_rfl
/- sterling/value.Float -/
@[simp] def r8_0 : List HOp := [⟨(some 8), true, .mv (.val (.tr (.sc (.float .f64 0)))), none⟩]
@[simp] def r8_1 : List HOp := [⟨(some 10), false, .mv (.env 1), none⟩,
      ⟨(some 11), false, .callf 19 [(.loc 10)], none⟩,
      ⟨(some 12), false, .un .not (.loc 11), none⟩]
@[simp] def r8_2 : List HOp := [⟨(some 13), false, .callf 16 [], none⟩,
       ⟨(some 8), true, .mv (.loc 13), none⟩]
@[simp] def r8_3 : List HOp := [⟨(some 14), false, .mv (.env 1), none⟩,
     ⟨(some 15), false, .mv (.env 2), none⟩,
     ⟨(some 16), false, .callf 20 [(.loc 14), (.loc 15)], none⟩,
     ⟨(some 17), false, .mv (.env 1), none⟩,
     ⟨(some 18), false, .mv (.env 3), none⟩,
     ⟨(some 19), false, .callf 20 [(.loc 17), (.loc 18)], none⟩,
     ⟨(some 2), true, .mv (.loc 16), none⟩,
     ⟨(some 3), true, .mv (.loc 19), none⟩]
@[simp] def r8_4 : List HOp := [⟨(some 20), false, .callf 16 [], none⟩,
     ⟨(some 9), true, .mv (.loc 20), none⟩]
@[simp] def r8_5 : List HOp := [⟨(some 21), true, .mv (.env 0), none⟩]
@[simp] def r8_6 : List HOp := [⟨(some 23), false, .bin .other .eql (.env 21) (.val (.tr (.sc (.string ⟨⟨[43]⟩⟩)))), none⟩,
       ⟨(some 22), false, .mv (.loc 23), none⟩]
@[simp] def r8_7 : List HOp := [⟨(some 24), false, .mv (.env 2), none⟩,
       ⟨(some 25), false, .mv (.env 3), none⟩,
       ⟨(some 26), false, .bin .other .add (.loc 24) (.loc 25), none⟩,
       ⟨(some 9), true, .mv (.loc 26), none⟩]
@[simp] def r8_8 : List HOp := [⟨(some 28), false, .bin .other .eql (.env 21) (.val (.tr (.sc (.string ⟨⟨[45]⟩⟩)))), none⟩,
        ⟨(some 27), false, .mv (.loc 28), none⟩]
@[simp] def r8_9 : List HOp := [⟨(some 29), false, .mv (.env 2), none⟩,
        ⟨(some 30), false, .mv (.env 3), none⟩,
        ⟨(some 31), false, .bin .other .sub (.loc 29) (.loc 30), none⟩,
        ⟨(some 9), true, .mv (.loc 31), none⟩]
@[simp] def r8_10 : List HOp := [⟨(some 33), false, .bin .other .eql (.env 21) (.val (.tr (.sc (.string ⟨⟨[42]⟩⟩)))), none⟩,
         ⟨(some 32), false, .mv (.loc 33), none⟩]
@[simp] def r8_11 : List HOp := [⟨(some 34), false, .mv (.env 2), none⟩,
         ⟨(some 35), false, .mv (.env 3), none⟩,
         ⟨(some 36), false, .bin .other .mul (.loc 34) (.loc 35), none⟩,
         ⟨(some 9), true, .mv (.loc 36), none⟩]
@[simp] def r8_12 : List HOp := [⟨(some 38), false, .bin .other .eql (.env 21) (.val (.tr (.sc (.string ⟨⟨[47]⟩⟩)))), none⟩,
          ⟨(some 37), false, .mv (.loc 38), none⟩]
@[simp] def r8_13 : List HOp := [⟨(some 39), false, .mv (.env 2), none⟩,
          ⟨(some 40), false, .mv (.env 3), none⟩,
          ⟨(some 41), false, .bin .other .quo (.loc 39) (.loc 40), none⟩,
          ⟨(some 9), true, .mv (.loc 41), none⟩]
@[simp] def r8_14 : List HOp := [⟨(some 42), false, .mv (.env 1), none⟩,
     ⟨(some 43), false, .mv (.env 9), none⟩,
     ⟨(some 44), false, .callf 20 [(.loc 42), (.loc 43)], none⟩,
     ⟨(some 8), true, .mv (.loc 44), none⟩]
@[simp] def k8_2 : HCode := .seq (.region r8_2 none) .ret
@[simp] def k8_1 : HCode := .cond (.loc 12) k8_2 .skip
@[simp] def k8_13 : HCode := .cond (.loc 37) (.region r8_13 none) .skip
@[simp] def k8_12 : HCode := .seq (.region r8_12 none) k8_13
@[simp] def k8_11 : HCode := .cond (.loc 32) (.region r8_11 none) k8_12
@[simp] def k8_10 : HCode := .seq (.region r8_10 none) k8_11
@[simp] def k8_9 : HCode := .cond (.loc 27) (.region r8_9 none) k8_10
@[simp] def k8_8 : HCode := .seq (.region r8_8 none) k8_9
@[simp] def k8_7 : HCode := .cond (.loc 22) (.region r8_7 none) k8_8
@[simp] def k8_6 : HCode := .block 0 (.seq (.region r8_6 none) k8_7)
def k8_14 : HCode := .seq (.region r8_14 none) .ret
@[simp] def k8_5 : HCode := .seq (.seq (.region r8_5 none) k8_6) k8_14
@[simp] def k8_4 : HCode := .seq (.region r8_4 none) k8_5
def k8_3 : HCode := .seq (.region r8_3 none) k8_4
@[simp] def k8_0 : HCode := .seq (.seq (.region r8_1 none) k8_1) k8_3
@[simp] def fn8 : HFn := { nargs := 4, results := [.tmp 8], mode := .iso, code := (.seq (.region r8_0 none) k8_0) }
theorem c8 : cFn Tryd.prog (Hs 8) .iso 8 = some fn8 := by kernel_rfl
/- math.NaN -/
@[simp] def r16_0 : List HOp := [⟨(some 0), true, .mv (.val (.tr (.sc (.float .f64 0)))), none⟩]
@[simp] def r16_1 : List HOp := [⟨(some 1), false, .callf 6 [(.val (.tr (.sc (.int .u64 9221120237041090561))))], none⟩,
     ⟨(some 0), true, .mv (.loc 1), none⟩]
@[simp] def k16_0 : HCode := .seq (.region r16_1 none) .ret
@[simp] def fn16 : HFn := { nargs := 0, results := [.tmp 0], mode := .iso, code := (.seq (.region r16_0 none) k16_0) }
theorem c16 : cFn Tryd.prog (Hs 16) .iso 16 = some fn16 := by kernel_rfl
/- sterling/value.Order -/
@[simp] def r15_0 : List HOp := [⟨(some 8), true, .mv (.val (.tr (.sc (.bool false)))), none⟩]
@[simp] def r15_1 : List HOp := [⟨(some 12), false, .mv (.env 1), none⟩,
      ⟨(some 13), false, .callf 22 [(.loc 12)], none⟩,
      ⟨(some 14), false, .un .not (.loc 13), none⟩]
@[simp] def r15_2 : List HOp := [⟨(some 8), true, .mv (.val (.tr (.sc (.bool false)))), none⟩]
@[simp] def r15_3 : List HOp := [⟨(some 15), false, .mv (.env 2), none⟩,
     ⟨(some 16), false, .mv (.env 1), none⟩,
     ⟨(some 17), false, .callf 13 [(.loc 15), (.loc 16)], none⟩,
     ⟨(some 18), false, .mv (.env 3), none⟩,
     ⟨(some 19), false, .mv (.env 1), none⟩,
     ⟨(some 20), false, .callf 13 [(.loc 18), (.loc 19)], none⟩,
     ⟨(some 2), true, .mv (.loc 17), none⟩,
     ⟨(some 3), true, .mv (.loc 20), none⟩]
@[simp] def r15_4 : List HOp := [⟨(some 9), true, .mv (.val (.tr (.sc (.int .i64 0)))), none⟩]
@[simp] def r15_5 : List HOp := [⟨(some 22), false, .mv (.env 2), none⟩,
       ⟨(some 23), false, .mv (.env 3), none⟩,
       ⟨(some 24), false, .bin .other .eql (.loc 22) (.loc 23), none⟩,
       ⟨(some 21), false, .mv (.loc 24), none⟩]
@[simp] def r15_6 : List HOp := [⟨(some 26), false, .mv (.env 1), none⟩,
         ⟨(some 27), false, .bin .other .eql (.loc 26) (.val (.tr (.sc (.string ⟨⟨[117, 105, 110, 116]⟩⟩)))), none⟩,
         ⟨(some 28), false, .mv (.loc 27), none⟩,
         ⟨(some 29), false, .mv (.env 2), some ((.loc 28), true)⟩,
         ⟨(some 30), false, .conv (.toInt .u64) (.loc 29), some ((.loc 28), true)⟩,
         ⟨(some 31), false, .mv (.env 3), some ((.loc 28), true)⟩,
         ⟨(some 32), false, .conv (.toInt .u64) (.loc 31), some ((.loc 28), true)⟩,
         ⟨(some 33), false, .bin .other .lss (.loc 30) (.loc 32), some ((.loc 28), true)⟩,
         ⟨(some 34), false, .pick (.loc 28) (.loc 33) (.val (.tr (.sc (.bool false)))), none⟩,
         ⟨(some 25), true, .mv (.loc 34), none⟩]
@[simp] def r15_7 : List HOp := [⟨(some 35), false, .mv (.env 1), none⟩,
         ⟨(some 36), false, .bin .other .neq (.loc 35) (.val (.tr (.sc (.string ⟨⟨[117, 105, 110, 116]⟩⟩)))), none⟩,
         ⟨(some 37), false, .mv (.loc 36), none⟩,
         ⟨(some 38), false, .mv (.env 2), some ((.loc 37), true)⟩,
         ⟨(some 39), false, .mv (.env 3), some ((.loc 37), true)⟩,
         ⟨(some 40), false, .bin .other .lss (.loc 38) (.loc 39), some ((.loc 37), true)⟩,
         ⟨(some 41), false, .pick (.loc 37) (.loc 40) (.val (.tr (.sc (.bool false)))), none⟩,
         ⟨(some 25), true, .mv (.loc 41), none⟩]
@[simp] def r15_8 : List HOp := [⟨(some 9), true, .mv (.val (.tr (.sc (.int .i64 (-1))))), none⟩]
@[simp] def r15_9 : List HOp := [⟨(some 9), true, .mv (.val (.tr (.sc (.int .i64 1)))), none⟩]
@[simp] def r15_10 : List HOp := [⟨(some 43), false, .mv (.env 0), none⟩,
     ⟨(some 44), false, .mv (.env 9), none⟩,
     ⟨(some 45), false, .callf 31 [(.loc 43), (.loc 44)], none⟩,
     ⟨(some 42), false, .mv (.loc 45), none⟩,
     ⟨(some 46), false, .extract (.loc 42) 0, none⟩,
     ⟨(some 47), false, .extract (.loc 42) 1, none⟩,
     ⟨(some 10), true, .mv (.loc 46), none⟩,
     ⟨(some 11), false, .mv (.loc 47), none⟩]
@[simp] def r15_11 : List HOp := [⟨(some 48), false, .mv (.env 10), none⟩,
     ⟨(some 8), true, .mv (.loc 48), none⟩]
@[simp] def k15_2 : HCode := .seq (.region r15_2 none) .ret
@[simp] def k15_1 : HCode := .cond (.loc 14) k15_2 .skip
@[simp] def k15_8 : HCode := .cond (.env 25) .skip (.region r15_7 none)
def k15_9 : HCode := .cond (.env 25) (.region r15_8 none) (.region r15_9 none)
@[simp] def k15_7 : HCode := .seq (.seq (.region r15_6 none) k15_8) k15_9
@[simp] def k15_6 : HCode := .cond (.loc 21) .skip k15_7
@[simp] def k15_11 : HCode := .seq (.region r15_11 none) .ret
def k15_10 : HCode := .seq (.region r15_10 none) k15_11
@[simp] def k15_5 : HCode := .seq (.block 0 (.seq (.region r15_5 none) k15_6)) k15_10
@[simp] def k15_4 : HCode := .seq (.region r15_4 none) k15_5
def k15_3 : HCode := .seq (.region r15_3 none) k15_4
@[simp] def k15_0 : HCode := .seq (.seq (.region r15_1 none) k15_1) k15_3
@[simp] def fn15 : HFn := { nargs := 4, results := [.tmp 8], mode := .iso, code := (.seq (.region r15_0 none) k15_0) }
theorem c15 : cFn Tryd.prog (Hs 15) .iso 15 = some fn15 := by kernel_rfl
/- sterling/constant.Ordered -/
@[simp] def r31_0 : List HOp := [⟨(some 4), true, .mv (.val (.tr (.sc (.bool false)))), none⟩,
     ⟨(some 5), true, .mv (.val (.tr (.sc (.bool false)))), none⟩]
@[simp] def r31_1 : List HOp := [⟨(some 6), true, .mv (.env 0), none⟩]
@[simp] def r31_2 : List HOp := [⟨(some 8), false, .bin .other .eql (.env 6) (.val (.tr (.sc (.string ⟨⟨[61, 61]⟩⟩)))), none⟩,
       ⟨(some 7), false, .mv (.loc 8), none⟩]
@[simp] def r31_3 : List HOp := [⟨(some 9), false, .mv (.env 1), none⟩,
        ⟨(some 10), false, .bin .other .eql (.loc 9) (.val (.tr (.sc (.int .i64 0)))), none⟩,
        ⟨(some 4), true, .mv (.loc 10), none⟩,
        ⟨(some 5), true, .mv (.val (.tr (.sc (.bool true)))), none⟩]
@[simp] def r31_4 : List HOp := [⟨(some 12), false, .bin .other .eql (.env 6) (.val (.tr (.sc (.string ⟨⟨[33, 61]⟩⟩)))), none⟩,
        ⟨(some 11), false, .mv (.loc 12), none⟩]
@[simp] def r31_5 : List HOp := [⟨(some 13), false, .mv (.env 1), none⟩,
         ⟨(some 14), false, .bin .other .neq (.loc 13) (.val (.tr (.sc (.int .i64 0)))), none⟩,
         ⟨(some 4), true, .mv (.loc 14), none⟩,
         ⟨(some 5), true, .mv (.val (.tr (.sc (.bool true)))), none⟩]
@[simp] def r31_6 : List HOp := [⟨(some 16), false, .bin .other .eql (.env 6) (.val (.tr (.sc (.string ⟨⟨[60]⟩⟩)))), none⟩,
         ⟨(some 15), false, .mv (.loc 16), none⟩]
@[simp] def r31_7 : List HOp := [⟨(some 17), false, .mv (.env 1), none⟩,
          ⟨(some 18), false, .bin .other .lss (.loc 17) (.val (.tr (.sc (.int .i64 0)))), none⟩,
          ⟨(some 4), true, .mv (.loc 18), none⟩,
          ⟨(some 5), true, .mv (.val (.tr (.sc (.bool true)))), none⟩]
@[simp] def r31_8 : List HOp := [⟨(some 20), false, .bin .other .eql (.env 6) (.val (.tr (.sc (.string ⟨⟨[60, 61]⟩⟩)))), none⟩,
          ⟨(some 19), false, .mv (.loc 20), none⟩]
@[simp] def r31_9 : List HOp := [⟨(some 21), false, .mv (.env 1), none⟩,
           ⟨(some 22), false, .bin .other .leq (.loc 21) (.val (.tr (.sc (.int .i64 0)))), none⟩,
           ⟨(some 4), true, .mv (.loc 22), none⟩,
           ⟨(some 5), true, .mv (.val (.tr (.sc (.bool true)))), none⟩]
@[simp] def r31_10 : List HOp := [⟨(some 24), false, .bin .other .eql (.env 6) (.val (.tr (.sc (.string ⟨⟨[62]⟩⟩)))), none⟩,
           ⟨(some 23), false, .mv (.loc 24), none⟩]
@[simp] def r31_11 : List HOp := [⟨(some 25), false, .mv (.env 1), none⟩,
            ⟨(some 26), false, .bin .other .gtr (.loc 25) (.val (.tr (.sc (.int .i64 0)))), none⟩,
            ⟨(some 4), true, .mv (.loc 26), none⟩,
            ⟨(some 5), true, .mv (.val (.tr (.sc (.bool true)))), none⟩]
@[simp] def r31_12 : List HOp := [⟨(some 28), false, .bin .other .eql (.env 6) (.val (.tr (.sc (.string ⟨⟨[62, 61]⟩⟩)))), none⟩,
            ⟨(some 27), false, .mv (.loc 28), none⟩]
@[simp] def r31_13 : List HOp := [⟨(some 29), false, .mv (.env 1), none⟩,
             ⟨(some 30), false, .bin .other .geq (.loc 29) (.val (.tr (.sc (.int .i64 0)))), none⟩,
             ⟨(some 4), true, .mv (.loc 30), none⟩,
             ⟨(some 5), true, .mv (.val (.tr (.sc (.bool true)))), none⟩]
@[simp] def r31_14 : List HOp := [⟨(some 4), true, .mv (.val (.tr (.sc (.bool false)))), none⟩,
     ⟨(some 5), true, .mv (.val (.tr (.sc (.bool false)))), none⟩]
@[simp] def k31_3 : HCode := .seq (.region r31_3 none) .ret
@[simp] def k31_6 : HCode := .seq (.region r31_5 none) .ret
@[simp] def k31_9 : HCode := .seq (.region r31_7 none) .ret
@[simp] def k31_12 : HCode := .seq (.region r31_9 none) .ret
@[simp] def k31_15 : HCode := .seq (.region r31_11 none) .ret
@[simp] def k31_18 : HCode := .seq (.region r31_13 none) .ret
@[simp] def k31_17 : HCode := .cond (.loc 27) k31_18 .skip
@[simp] def k31_16 : HCode := .seq (.region r31_12 none) k31_17
@[simp] def k31_14 : HCode := .cond (.loc 23) k31_15 k31_16
@[simp] def k31_13 : HCode := .seq (.region r31_10 none) k31_14
@[simp] def k31_11 : HCode := .cond (.loc 19) k31_12 k31_13
@[simp] def k31_10 : HCode := .seq (.region r31_8 none) k31_11
@[simp] def k31_8 : HCode := .cond (.loc 15) k31_9 k31_10
@[simp] def k31_7 : HCode := .seq (.region r31_6 none) k31_8
@[simp] def k31_5 : HCode := .cond (.loc 11) k31_6 k31_7
@[simp] def k31_4 : HCode := .seq (.region r31_4 none) k31_5
@[simp] def k31_2 : HCode := .cond (.loc 7) k31_3 k31_4
@[simp] def k31_1 : HCode := .block 0 (.seq (.region r31_2 none) k31_2)
def k31_19 : HCode := .seq (.region r31_14 none) .ret
@[simp] def k31_0 : HCode := .seq (.seq (.region r31_1 none) k31_1) k31_19
@[simp] def fn31 : HFn := { nargs := 2, results := [.tmp 4, .tmp 5], mode := .iso, code := (.seq (.region r31_0 none) k31_0) }
theorem c31 : cFn Tryd.prog (Hs 31) .iso 31 = some fn31 := by kernel_rfl
/- sterling/value.FloatOrder -/
@[simp] def r10_0 : List HOp := [⟨(some 6), true, .mv (.val (.tr (.sc (.bool false)))), none⟩]
@[simp] def r10_1 : List HOp := [⟨(some 7), true, .mv (.env 0), none⟩]
@[simp] def r10_2 : List HOp := [⟨(some 9), false, .bin .other .eql (.env 7) (.val (.tr (.sc (.string ⟨⟨[61, 61]⟩⟩)))), none⟩,
       ⟨(some 8), false, .mv (.loc 9), none⟩]
@[simp] def r10_3 : List HOp := [⟨(some 10), false, .mv (.env 1), none⟩,
        ⟨(some 11), false, .mv (.env 2), none⟩,
        ⟨(some 12), false, .bin .other .eql (.loc 10) (.loc 11), none⟩,
        ⟨(some 6), true, .mv (.loc 12), none⟩]
@[simp] def r10_4 : List HOp := [⟨(some 14), false, .bin .other .eql (.env 7) (.val (.tr (.sc (.string ⟨⟨[33, 61]⟩⟩)))), none⟩,
        ⟨(some 13), false, .mv (.loc 14), none⟩]
@[simp] def r10_5 : List HOp := [⟨(some 15), false, .mv (.env 1), none⟩,
         ⟨(some 16), false, .mv (.env 2), none⟩,
         ⟨(some 17), false, .bin .other .neq (.loc 15) (.loc 16), none⟩,
         ⟨(some 6), true, .mv (.loc 17), none⟩]
@[simp] def r10_6 : List HOp := [⟨(some 19), false, .bin .other .eql (.env 7) (.val (.tr (.sc (.string ⟨⟨[60]⟩⟩)))), none⟩,
         ⟨(some 18), false, .mv (.loc 19), none⟩]
@[simp] def r10_7 : List HOp := [⟨(some 20), false, .mv (.env 1), none⟩,
          ⟨(some 21), false, .mv (.env 2), none⟩,
          ⟨(some 22), false, .bin .other .lss (.loc 20) (.loc 21), none⟩,
          ⟨(some 6), true, .mv (.loc 22), none⟩]
@[simp] def r10_8 : List HOp := [⟨(some 24), false, .bin .other .eql (.env 7) (.val (.tr (.sc (.string ⟨⟨[60, 61]⟩⟩)))), none⟩,
          ⟨(some 23), false, .mv (.loc 24), none⟩]
@[simp] def r10_9 : List HOp := [⟨(some 25), false, .mv (.env 1), none⟩,
           ⟨(some 26), false, .mv (.env 2), none⟩,
           ⟨(some 27), false, .bin .other .leq (.loc 25) (.loc 26), none⟩,
           ⟨(some 6), true, .mv (.loc 27), none⟩]
@[simp] def r10_10 : List HOp := [⟨(some 29), false, .bin .other .eql (.env 7) (.val (.tr (.sc (.string ⟨⟨[62]⟩⟩)))), none⟩,
           ⟨(some 28), false, .mv (.loc 29), none⟩]
@[simp] def r10_11 : List HOp := [⟨(some 30), false, .mv (.env 1), none⟩,
            ⟨(some 31), false, .mv (.env 2), none⟩,
            ⟨(some 32), false, .bin .other .gtr (.loc 30) (.loc 31), none⟩,
            ⟨(some 6), true, .mv (.loc 32), none⟩]
@[simp] def r10_12 : List HOp := [⟨(some 34), false, .bin .other .eql (.env 7) (.val (.tr (.sc (.string ⟨⟨[62, 61]⟩⟩)))), none⟩,
            ⟨(some 33), false, .mv (.loc 34), none⟩]
@[simp] def r10_13 : List HOp := [⟨(some 35), false, .mv (.env 1), none⟩,
             ⟨(some 36), false, .mv (.env 2), none⟩,
             ⟨(some 37), false, .bin .other .geq (.loc 35) (.loc 36), none⟩,
             ⟨(some 6), true, .mv (.loc 37), none⟩]
@[simp] def r10_14 : List HOp := [⟨(some 6), true, .mv (.val (.tr (.sc (.bool false)))), none⟩]
@[simp] def k10_3 : HCode := .seq (.region r10_3 none) .ret
@[simp] def k10_6 : HCode := .seq (.region r10_5 none) .ret
@[simp] def k10_9 : HCode := .seq (.region r10_7 none) .ret
@[simp] def k10_12 : HCode := .seq (.region r10_9 none) .ret
@[simp] def k10_15 : HCode := .seq (.region r10_11 none) .ret
@[simp] def k10_18 : HCode := .seq (.region r10_13 none) .ret
@[simp] def k10_17 : HCode := .cond (.loc 33) k10_18 .skip
@[simp] def k10_16 : HCode := .seq (.region r10_12 none) k10_17
@[simp] def k10_14 : HCode := .cond (.loc 28) k10_15 k10_16
@[simp] def k10_13 : HCode := .seq (.region r10_10 none) k10_14
@[simp] def k10_11 : HCode := .cond (.loc 23) k10_12 k10_13
@[simp] def k10_10 : HCode := .seq (.region r10_8 none) k10_11
@[simp] def k10_8 : HCode := .cond (.loc 18) k10_9 k10_10
@[simp] def k10_7 : HCode := .seq (.region r10_6 none) k10_8
@[simp] def k10_5 : HCode := .cond (.loc 13) k10_6 k10_7
@[simp] def k10_4 : HCode := .seq (.region r10_4 none) k10_5
@[simp] def k10_2 : HCode := .cond (.loc 8) k10_3 k10_4
@[simp] def k10_1 : HCode := .block 0 (.seq (.region r10_2 none) k10_2)
def k10_19 : HCode := .seq (.region r10_14 none) .ret
@[simp] def k10_0 : HCode := .seq (.seq (.region r10_1 none) k10_1) k10_19
@[simp] def fn10 : HFn := { nargs := 3, results := [.tmp 6], mode := .iso, code := (.seq (.region r10_0 none) k10_0) }
theorem c10 : cFn Tryd.prog (Hs 10) .iso 10 = some fn10 := by kernel_rfl
/- sterling/value.Text -/
@[simp] def r17_0 : List HOp := [⟨(some 6), true, .mv (.val (.tr (.sc (.string ⟨⟨[]⟩⟩)))), none⟩]
@[simp] def r17_1 : List HOp := [⟨(some 8), false, .mv (.env 0), none⟩,
       ⟨(some 9), false, .bin .other .eql (.loc 8) (.val (.tr (.sc (.string ⟨⟨[98, 111, 111, 108]⟩⟩)))), none⟩,
       ⟨(some 10), false, .mv (.loc 9), none⟩,
       ⟨(some 11), false, .mv (.env 1), some ((.loc 10), true)⟩,
       ⟨(some 12), false, .bin .other .neq (.loc 11) (.val (.tr (.sc (.int .i64 0)))), some ((.loc 10), true)⟩,
       ⟨(some 13), false, .pick (.loc 10) (.loc 12) (.val (.tr (.sc (.bool false)))), none⟩,
       ⟨(some 7), false, .mv (.loc 13), none⟩]
@[simp] def r17_2 : List HOp := [⟨(some 6), true, .mv (.val (.tr (.sc (.string ⟨⟨[116, 114, 117, 101]⟩⟩)))), none⟩]
@[simp] def r17_3 : List HOp := [⟨(some 15), false, .mv (.env 0), none⟩,
        ⟨(some 16), false, .bin .other .eql (.loc 15) (.val (.tr (.sc (.string ⟨⟨[98, 111, 111, 108]⟩⟩)))), none⟩,
        ⟨(some 14), false, .mv (.loc 16), none⟩]
@[simp] def r17_4 : List HOp := [⟨(some 6), true, .mv (.val (.tr (.sc (.string ⟨⟨[102, 97, 108, 115, 101]⟩⟩)))), none⟩]
@[simp] def r17_5 : List HOp := [⟨(some 18), false, .mv (.env 0), none⟩,
         ⟨(some 19), false, .bin .other .eql (.loc 18) (.val (.tr (.sc (.string ⟨⟨[117, 105, 110, 116]⟩⟩)))), none⟩,
         ⟨(some 17), false, .mv (.loc 19), none⟩]
@[simp] def r17_6 : List HOp := [⟨(some 20), false, .mv (.env 1), none⟩,
          ⟨(some 21), false, .conv (.toInt .u64) (.loc 20), none⟩,
          ⟨(some 22), false, .callf 32 [(.loc 21), (.val (.tr (.sc (.int .i64 10))))], none⟩,
          ⟨(some 6), true, .mv (.loc 22), none⟩]
@[simp] def r17_7 : List HOp := [⟨(some 24), false, .mv (.env 0), none⟩,
          ⟨(some 25), false, .callf 22 [(.loc 24)], none⟩,
          ⟨(some 23), false, .mv (.loc 25), none⟩]
@[simp] def r17_8 : List HOp := [⟨(some 26), false, .mv (.env 1), none⟩,
           ⟨(some 27), false, .mv (.env 0), none⟩,
           ⟨(some 28), false, .callf 13 [(.loc 26), (.loc 27)], none⟩,
           ⟨(some 29), false, .callf 33 [(.loc 28), (.val (.tr (.sc (.int .i64 10))))], none⟩,
           ⟨(some 6), true, .mv (.loc 29), none⟩]
@[simp] def r17_9 : List HOp := [⟨(some 31), false, .mv (.env 0), none⟩,
           ⟨(some 32), false, .callf 19 [(.loc 31)], none⟩,
           ⟨(some 30), false, .mv (.loc 32), none⟩]
@[simp] def r17_10 : List HOp := [⟨(some 33), false, .mv (.env 0), none⟩,
            ⟨(some 34), false, .mv (.env 2), none⟩,
            ⟨(some 35), false, .callf 20 [(.loc 33), (.loc 34)], none⟩,
            ⟨(some 36), false, .callf 34 [(.loc 35)], none⟩,
            ⟨(some 6), true, .mv (.loc 36), none⟩]
@[simp] def r17_11 : List HOp := [⟨(some 6), true, .mv (.val (.tr (.sc (.string ⟨⟨[]⟩⟩)))), none⟩]
@[simp] def k17_2 : HCode := .seq (.region r17_2 none) .ret
@[simp] def k17_5 : HCode := .seq (.region r17_4 none) .ret
@[simp] def k17_8 : HCode := .seq (.region r17_6 none) .ret
@[simp] def k17_11 : HCode := .seq (.region r17_8 none) .ret
@[simp] def k17_14 : HCode := .seq (.region r17_10 none) .ret
@[simp] def k17_13 : HCode := .cond (.loc 30) k17_14 .skip
@[simp] def k17_12 : HCode := .seq (.region r17_9 none) k17_13
@[simp] def k17_10 : HCode := .cond (.loc 23) k17_11 k17_12
@[simp] def k17_9 : HCode := .seq (.region r17_7 none) k17_10
@[simp] def k17_7 : HCode := .cond (.loc 17) k17_8 k17_9
@[simp] def k17_6 : HCode := .seq (.region r17_5 none) k17_7
@[simp] def k17_4 : HCode := .cond (.loc 14) k17_5 k17_6
@[simp] def k17_3 : HCode := .seq (.region r17_3 none) k17_4
@[simp] def k17_1 : HCode := .cond (.loc 7) k17_2 k17_3
def k17_15 : HCode := .seq (.region r17_11 none) .ret
@[simp] def k17_0 : HCode := .seq (.block 0 (.seq (.region r17_1 none) k17_1)) k17_15
@[simp] def fn17 : HFn := { nargs := 3, results := [.tmp 6], mode := .iso, code := (.seq (.region r17_0 none) k17_0) }
theorem c17 : cFn Tryd.prog (Hs 17) .iso 17 = some fn17 := by kernel_rfl
/- strconv.FormatInt -/
@[simp] def r33_0 : List HOp := [⟨(some 4), true, .mv (.val (.tr (.sc (.string ⟨⟨[]⟩⟩)))), none⟩]
@[simp] def r33_1 : List HOp := [⟨(some 5), false, .mv (.env 0), none⟩,
     ⟨(some 6), false, .mv (.env 1), none⟩,
     ⟨(some 7), false, .callf 52 [(.loc 5), (.loc 6)], none⟩,
     ⟨(some 4), true, .mv (.loc 7), none⟩]
@[simp] def k33_0 : HCode := .seq (.region r33_1 none) .ret
@[simp] def fn33 : HFn := { nargs := 2, results := [.tmp 4], mode := .iso, code := (.seq (.region r33_0 none) k33_0) }
theorem c33 : cFn Tryd.prog (Hs 33) .iso 33 = some fn33 := by kernel_rfl
/- internal/strconv.small -/
@[simp] def r75_0 : List HOp := [⟨(some 2), true, .mv (.val (.tr (.sc (.string ⟨⟨[]⟩⟩)))), none⟩]
@[simp] def r75_1 : List HOp := [⟨(some 3), false, .mv (.env 0), none⟩,
      ⟨(some 4), false, .bin .other .lss (.loc 3) (.val (.tr (.sc (.int .i64 10)))), none⟩]
@[simp] def r75_2 : List HOp := [⟨(some 5), false, .mv (.env 0), none⟩,
       ⟨(some 6), false, .mv (.env 0), none⟩,
       ⟨(some 7), false, .bin .other .add (.loc 6) (.val (.tr (.sc (.int .i64 1)))), none⟩,
       ⟨(some 8), false, .slicestr (.val (.tr (.sc (.string ⟨⟨[48, 49, 50, 51, 52, 53, 54, 55, 56, 57, 97, 98, 99, 100, 101, 102, 103, 104, 105, 106, 107, 108, 109, 110, 111, 112, 113, 114, 115, 116, 117, 118, 119, 120, 121, 122]⟩⟩)))) (some (.loc 5)) (some (.loc 7)), none⟩,
       ⟨(some 2), true, .mv (.loc 8), none⟩]
@[simp] def r75_3 : List HOp := [⟨(some 9), false, .mv (.env 0), none⟩,
     ⟨(some 10), false, .bin .other .mul (.loc 9) (.val (.tr (.sc (.int .i64 2)))), none⟩,
     ⟨(some 11), false, .mv (.env 0), none⟩,
     ⟨(some 12), false, .bin .other .mul (.loc 11) (.val (.tr (.sc (.int .i64 2)))), none⟩,
     ⟨(some 13), false, .bin .other .add (.loc 12) (.val (.tr (.sc (.int .i64 2)))), none⟩,
     ⟨(some 14), false, .slicestr (.val (.tr (.sc (.string ⟨⟨[48, 48, 48, 49, 48, 50, 48, 51, 48, 52, 48, 53, 48, 54, 48, 55, 48, 56, 48, 57, 49, 48, 49, 49, 49, 50, 49, 51, 49, 52, 49, 53, 49, 54, 49, 55, 49, 56, 49, 57, 50, 48, 50, 49, 50, 50, 50, 51, 50, 52, 50, 53, 50, 54, 50, 55, 50, 56, 50, 57, 51, 48, 51, 49, 51, 50, 51, 51, 51, 52, 51, 53, 51, 54, 51, 55, 51, 56, 51, 57, 52, 48, 52, 49, 52, 50, 52, 51, 52, 52, 52, 53, 52, 54, 52, 55, 52, 56, 52, 57, 53, 48, 53, 49, 53, 50, 53, 51, 53, 52, 53, 53, 53, 54, 53, 55, 53, 56, 53, 57, 54, 48, 54, 49, 54, 50, 54, 51, 54, 52, 54, 53, 54, 54, 54, 55, 54, 56, 54, 57, 55, 48, 55, 49, 55, 50, 55, 51, 55, 52, 55, 53, 55, 54, 55, 55, 55, 56, 55, 57, 56, 48, 56, 49, 56, 50, 56, 51, 56, 52, 56, 53, 56, 54, 56, 55, 56, 56, 56, 57, 57, 48, 57, 49, 57, 50, 57, 51, 57, 52, 57, 53, 57, 54, 57, 55, 57, 56, 57, 57]⟩⟩)))) (some (.loc 10)) (some (.loc 13)), none⟩,
     ⟨(some 2), true, .mv (.loc 14), none⟩]
@[simp] def k75_2 : HCode := .seq (.region r75_2 none) .ret
@[simp] def k75_1 : HCode := .cond (.loc 4) k75_2 .skip
def k75_3 : HCode := .seq (.region r75_3 none) .ret
@[simp] def k75_0 : HCode := .seq (.seq (.region r75_1 none) k75_1) k75_3
@[simp] def fn75 : HFn := { nargs := 1, results := [.tmp 2], mode := .iso, code := (.seq (.region r75_0 none) k75_0) }
theorem c75 : cFn Tryd.prog (Hs 75) .iso 75 = some fn75 := by kernel_rfl
/- math/bits.Len64 -/
@[simp] def r93_0 : List HOp := [⟨(some 2), true, .mv (.val (.tr (.sc (.int .i64 0)))), none⟩]
@[simp] def r93_1 : List HOp := [⟨(some 3), false, .mv (.env 0), none⟩,
      ⟨(some 4), false, .bin .other .geq (.loc 3) (.val (.tr (.sc (.int .u64 4294967296)))), none⟩]
@[simp] def r93_2 : List HOp := [⟨(some 5), false, .mv (.env 0), none⟩,
       ⟨(some 6), false, .bin .other .shr (.loc 5) (.val (.tr (.sc (.int .u64 32)))), none⟩,
       ⟨(some 0), true, .mv (.loc 6), none⟩]
@[simp] def r93_3 : List HOp := [⟨(some 2), true, .mv (.val (.tr (.sc (.int .i64 32)))), none⟩]
@[simp] def r93_4 : List HOp := [⟨(some 7), false, .mv (.env 0), none⟩,
      ⟨(some 8), false, .bin .other .geq (.loc 7) (.val (.tr (.sc (.int .u64 65536)))), none⟩]
@[simp] def r93_5 : List HOp := [⟨(some 9), false, .mv (.env 0), none⟩,
       ⟨(some 10), false, .bin .other .shr (.loc 9) (.val (.tr (.sc (.int .u64 16)))), none⟩,
       ⟨(some 0), true, .mv (.loc 10), none⟩]
@[simp] def r93_6 : List HOp := [⟨(some 11), false, .mv (.env 2), none⟩,
      ⟨(some 12), false, .bin .other .add (.loc 11) (.val (.tr (.sc (.int .i64 16)))), none⟩,
      ⟨(some 2), true, .mv (.loc 12), none⟩]
@[simp] def r93_7 : List HOp := [⟨(some 13), false, .mv (.env 0), none⟩,
      ⟨(some 14), false, .bin .other .geq (.loc 13) (.val (.tr (.sc (.int .u64 256)))), none⟩]
@[simp] def r93_8 : List HOp := [⟨(some 15), false, .mv (.env 0), none⟩,
       ⟨(some 16), false, .bin .other .shr (.loc 15) (.val (.tr (.sc (.int .u64 8)))), none⟩,
       ⟨(some 0), true, .mv (.loc 16), none⟩]
@[simp] def r93_9 : List HOp := [⟨(some 17), false, .mv (.env 2), none⟩,
      ⟨(some 18), false, .bin .other .add (.loc 17) (.val (.tr (.sc (.int .i64 8)))), none⟩,
      ⟨(some 2), true, .mv (.loc 18), none⟩]
@[simp] def r93_10 : List HOp := [⟨(some 19), false, .mv (.env 2), none⟩,
     ⟨(some 20), false, .mv (.env 0), none⟩,
     ⟨(some 21), false, .conv (.toInt .u8) (.loc 20), none⟩,
     ⟨(some 22), false, .istr (.val (.tr (.sc (.string ⟨⟨[0, 1, 2, 2, 3, 3, 3, 3, 4, 4, 4, 4, 4, 4, 4, 4, 5, 5, 5, 5, 5, 5, 5, 5, 5, 5, 5, 5, 5, 5, 5, 5, 6, 6, 6, 6, 6, 6, 6, 6, 6, 6, 6, 6, 6, 6, 6, 6, 6, 6, 6, 6, 6, 6, 6, 6, 6, 6, 6, 6, 6, 6, 6, 6, 7, 7, 7, 7, 7, 7, 7, 7, 7, 7, 7, 7, 7, 7, 7, 7, 7, 7, 7, 7, 7, 7, 7, 7, 7, 7, 7, 7, 7, 7, 7, 7, 7, 7, 7, 7, 7, 7, 7, 7, 7, 7, 7, 7, 7, 7, 7, 7, 7, 7, 7, 7, 7, 7, 7, 7, 7, 7, 7, 7, 7, 7, 7, 7, 8, 8, 8, 8, 8, 8, 8, 8, 8, 8, 8, 8, 8, 8, 8, 8, 8, 8, 8, 8, 8, 8, 8, 8, 8, 8, 8, 8, 8, 8, 8, 8, 8, 8, 8, 8, 8, 8, 8, 8, 8, 8, 8, 8, 8, 8, 8, 8, 8, 8, 8, 8, 8, 8, 8, 8, 8, 8, 8, 8, 8, 8, 8, 8, 8, 8, 8, 8, 8, 8, 8, 8, 8, 8, 8, 8, 8, 8, 8, 8, 8, 8, 8, 8, 8, 8, 8, 8, 8, 8, 8, 8, 8, 8, 8, 8, 8, 8, 8, 8, 8, 8, 8, 8, 8, 8, 8, 8, 8, 8, 8, 8, 8, 8, 8, 8, 8, 8, 8, 8, 8, 8, 8, 8, 8, 8, 8, 8]⟩⟩)))) (.loc 21), none⟩,
     ⟨(some 23), false, .conv (.toInt .i64) (.loc 22), none⟩,
     ⟨(some 24), false, .bin .other .add (.loc 19) (.loc 23), none⟩,
     ⟨(some 2), true, .mv (.loc 24), none⟩]
@[simp] def k93_2 : HCode := .seq (.region r93_2 none) (.region r93_3 none)
@[simp] def k93_1 : HCode := .cond (.loc 4) k93_2 .skip
@[simp] def k93_5 : HCode := .seq (.region r93_5 none) (.region r93_6 none)
@[simp] def k93_4 : HCode := .cond (.loc 8) k93_5 .skip
@[simp] def k93_8 : HCode := .seq (.region r93_8 none) (.region r93_9 none)
@[simp] def k93_7 : HCode := .cond (.loc 14) k93_8 .skip
def k93_9 : HCode := .seq (.region r93_10 none) .ret
def k93_6 : HCode := .seq (.seq (.region r93_7 none) k93_7) k93_9
def k93_3 : HCode := .seq (.seq (.region r93_4 none) k93_4) k93_6
@[simp] def k93_0 : HCode := .seq (.seq (.region r93_1 none) k93_1) k93_3
@[simp] def fn93 : HFn := { nargs := 1, results := [.tmp 2], mode := .iso, code := (.seq (.region r93_0 none) k93_0) }
theorem c93 : cFn Tryd.prog (Hs 93) .iso 93 = some fn93 := by kernel_rfl
/- internal/strconv.log10Pow2 -/
@[simp] def r92_0 : List HOp := [⟨(some 2), true, .mv (.val (.tr (.sc (.int .i64 0)))), none⟩]
@[simp] def r92_1 : List HOp := [⟨(some 3), false, .mv (.env 0), none⟩,
     ⟨(some 4), false, .bin .other .mul (.loc 3) (.val (.tr (.sc (.int .i64 78913)))), none⟩,
     ⟨(some 5), false, .bin .other .shr (.loc 4) (.val (.tr (.sc (.int .u64 18)))), none⟩,
     ⟨(some 2), true, .mv (.loc 5), none⟩]
@[simp] def k92_0 : HCode := .seq (.region r92_1 none) .ret
@[simp] def fn92 : HFn := { nargs := 1, results := [.tmp 2], mode := .iso, code := (.seq (.region r92_0 none) k92_0) }
theorem c92 : cFn Tryd.prog (Hs 92) .iso 92 = some fn92 := by kernel_rfl
/- internal/strconv.bool2[int] -/
@[simp] def r94_0 : List HOp := [⟨(some 2), true, .mv (.val (.tr (.sc (.int .i64 0)))), none⟩]
@[simp] def r94_1 : List HOp := [⟨(some 3), false, .mv (.env 0), none⟩]
@[simp] def r94_2 : List HOp := [⟨(some 2), true, .mv (.val (.tr (.sc (.int .i64 1)))), none⟩]
@[simp] def r94_3 : List HOp := [⟨(some 2), true, .mv (.val (.tr (.sc (.int .i64 0)))), none⟩]
@[simp] def k94_2 : HCode := .seq (.region r94_2 none) .ret
@[simp] def k94_1 : HCode := .cond (.loc 3) k94_2 .skip
def k94_3 : HCode := .seq (.region r94_3 none) .ret
@[simp] def k94_0 : HCode := .seq (.seq (.region r94_1 none) k94_1) k94_3
@[simp] def fn94 : HFn := { nargs := 1, results := [.tmp 2], mode := .iso, code := (.seq (.region r94_0 none) k94_0) }
theorem c94 : cFn Tryd.prog (Hs 94) .iso 94 = some fn94 := by kernel_rfl
/- internal/strconv.formatBase10 -/
@[simp] def r77_0 : List HOp := [⟨(some 17), false, .mv (.env 0), none⟩,
     ⟨(some 18), false, .len 1 (.loc 17), none⟩,
     ⟨(some 4), true, .mv (.loc 18), none⟩]
@[simp] def r77_1 : List HOp := [⟨(some 19), false, .mv (.env 4), none⟩,
         ⟨(some 20), false, .bin .other .geq (.loc 19) (.val (.tr (.sc (.int .i64 8)))), none⟩]
@[simp] def r77_2 : List HOp := [⟨(some 21), false, .mv (.env 1), none⟩,
         ⟨(some 22), false, .bin .other .rem (.loc 21) (.val (.tr (.sc (.int .u64 100000000)))), none⟩,
         ⟨(some 23), false, .conv (.toInt .u32) (.loc 22), none⟩,
         ⟨(some 5), true, .mv (.loc 23), none⟩]
@[simp] def r77_3 : List HOp := [⟨(some 24), false, .mv (.env 1), none⟩,
         ⟨(some 25), false, .bin .other .quo (.loc 24) (.val (.tr (.sc (.int .u64 100000000)))), none⟩,
         ⟨(some 1), true, .mv (.loc 25), none⟩]
@[simp] def r77_4 : List HOp := [⟨(some 26), false, .mv (.env 5), none⟩,
         ⟨(some 27), false, .bin .other .quo (.loc 26) (.val (.tr (.sc (.int .u32 10000)))), none⟩,
         ⟨(some 28), false, .mv (.env 5), none⟩,
         ⟨(some 29), false, .bin .other .rem (.loc 28) (.val (.tr (.sc (.int .u32 10000)))), none⟩,
         ⟨(some 6), true, .mv (.loc 27), none⟩,
         ⟨(some 7), true, .mv (.loc 29), none⟩]
@[simp] def r77_5 : List HOp := [⟨(some 30), false, .mv (.env 7), none⟩,
         ⟨(some 31), false, .bin .other .quo (.loc 30) (.val (.tr (.sc (.int .u32 100)))), none⟩,
         ⟨(some 32), false, .bin .other .mul (.loc 31) (.val (.tr (.sc (.int .u32 2)))), none⟩,
         ⟨(some 33), false, .mv (.env 7), none⟩,
         ⟨(some 34), false, .bin .other .rem (.loc 33) (.val (.tr (.sc (.int .u32 100)))), none⟩,
         ⟨(some 35), false, .bin .other .mul (.loc 34) (.val (.tr (.sc (.int .u32 2)))), none⟩,
         ⟨(some 8), true, .mv (.loc 32), none⟩,
         ⟨(some 9), true, .mv (.loc 35), none⟩]
@[simp] def r77_6 : List HOp := [⟨(some 36), false, .mv (.env 6), none⟩,
         ⟨(some 37), false, .bin .other .quo (.loc 36) (.val (.tr (.sc (.int .u32 100)))), none⟩,
         ⟨(some 38), false, .bin .other .mul (.loc 37) (.val (.tr (.sc (.int .u32 2)))), none⟩,
         ⟨(some 39), false, .mv (.env 6), none⟩,
         ⟨(some 40), false, .bin .other .rem (.loc 39) (.val (.tr (.sc (.int .u32 100)))), none⟩,
         ⟨(some 41), false, .bin .other .mul (.loc 40) (.val (.tr (.sc (.int .u32 2)))), none⟩,
         ⟨(some 10), true, .mv (.loc 38), none⟩,
         ⟨(some 11), true, .mv (.loc 41), none⟩]
@[simp] def r77_7 : List HOp := [⟨(some 42), false, .mv (.env 0), none⟩,
         ⟨(some 43), false, .mv (.env 4), none⟩,
         ⟨(some 44), false, .bin .other .sub (.loc 43) (.val (.tr (.sc (.int .i64 1)))), none⟩,
         ⟨(some 45), false, .mv (.env 0), none⟩,
         ⟨(some 46), false, .mv (.env 4), none⟩,
         ⟨(some 47), false, .bin .other .sub (.loc 46) (.val (.tr (.sc (.int .i64 2)))), none⟩,
         ⟨(some 48), false, .mv (.env 9), none⟩,
         ⟨(some 49), false, .bin .other .add (.loc 48) (.val (.tr (.sc (.int .u32 1)))), none⟩,
         ⟨(some 50), false, .istr (.val (.tr (.sc (.string ⟨⟨[48, 48, 48, 49, 48, 50, 48, 51, 48, 52, 48, 53, 48, 54, 48, 55, 48, 56, 48, 57, 49, 48, 49, 49, 49, 50, 49, 51, 49, 52, 49, 53, 49, 54, 49, 55, 49, 56, 49, 57, 50, 48, 50, 49, 50, 50, 50, 51, 50, 52, 50, 53, 50, 54, 50, 55, 50, 56, 50, 57, 51, 48, 51, 49, 51, 50, 51, 51, 51, 52, 51, 53, 51, 54, 51, 55, 51, 56, 51, 57, 52, 48, 52, 49, 52, 50, 52, 51, 52, 52, 52, 53, 52, 54, 52, 55, 52, 56, 52, 57, 53, 48, 53, 49, 53, 50, 53, 51, 53, 52, 53, 53, 53, 54, 53, 55, 53, 56, 53, 57, 54, 48, 54, 49, 54, 50, 54, 51, 54, 52, 54, 53, 54, 54, 54, 55, 54, 56, 54, 57, 55, 48, 55, 49, 55, 50, 55, 51, 55, 52, 55, 53, 55, 54, 55, 55, 55, 56, 55, 57, 56, 48, 56, 49, 56, 50, 56, 51, 56, 52, 56, 53, 56, 54, 56, 55, 56, 56, 56, 57, 57, 48, 57, 49, 57, 50, 57, 51, 57, 52, 57, 53, 57, 54, 57, 55, 57, 56, 57, 57]⟩⟩)))) (.loc 49), none⟩,
         ⟨(some 51), false, .mv (.env 9), none⟩,
         ⟨(some 52), false, .istr (.val (.tr (.sc (.string ⟨⟨[48, 48, 48, 49, 48, 50, 48, 51, 48, 52, 48, 53, 48, 54, 48, 55, 48, 56, 48, 57, 49, 48, 49, 49, 49, 50, 49, 51, 49, 52, 49, 53, 49, 54, 49, 55, 49, 56, 49, 57, 50, 48, 50, 49, 50, 50, 50, 51, 50, 52, 50, 53, 50, 54, 50, 55, 50, 56, 50, 57, 51, 48, 51, 49, 51, 50, 51, 51, 51, 52, 51, 53, 51, 54, 51, 55, 51, 56, 51, 57, 52, 48, 52, 49, 52, 50, 52, 51, 52, 52, 52, 53, 52, 54, 52, 55, 52, 56, 52, 57, 53, 48, 53, 49, 53, 50, 53, 51, 53, 52, 53, 53, 53, 54, 53, 55, 53, 56, 53, 57, 54, 48, 54, 49, 54, 50, 54, 51, 54, 52, 54, 53, 54, 54, 54, 55, 54, 56, 54, 57, 55, 48, 55, 49, 55, 50, 55, 51, 55, 52, 55, 53, 55, 54, 55, 55, 55, 56, 55, 57, 56, 48, 56, 49, 56, 50, 56, 51, 56, 52, 56, 53, 56, 54, 56, 55, 56, 56, 56, 57, 57, 48, 57, 49, 57, 50, 57, 51, 57, 52, 57, 53, 57, 54, 57, 55, 57, 56, 57, 57]⟩⟩)))) (.loc 51), none⟩,
         ⟨(some 53), false, .iaddr 1 (.loc 42) (.loc 44), none⟩,
         ⟨none, false, .store 1 (.loc 53) (.loc 50), none⟩,
         ⟨(some 54), false, .iaddr 1 (.loc 45) (.loc 47), none⟩,
         ⟨none, false, .store 1 (.loc 54) (.loc 52), none⟩]
@[simp] def r77_8 : List HOp := [⟨(some 55), false, .mv (.env 0), none⟩,
         ⟨(some 56), false, .mv (.env 4), none⟩,
         ⟨(some 57), false, .bin .other .sub (.loc 56) (.val (.tr (.sc (.int .i64 3)))), none⟩,
         ⟨(some 58), false, .mv (.env 0), none⟩,
         ⟨(some 59), false, .mv (.env 4), none⟩,
         ⟨(some 60), false, .bin .other .sub (.loc 59) (.val (.tr (.sc (.int .i64 4)))), none⟩,
         ⟨(some 61), false, .mv (.env 8), none⟩,
         ⟨(some 62), false, .bin .other .add (.loc 61) (.val (.tr (.sc (.int .u32 1)))), none⟩,
         ⟨(some 63), false, .istr (.val (.tr (.sc (.string ⟨⟨[48, 48, 48, 49, 48, 50, 48, 51, 48, 52, 48, 53, 48, 54, 48, 55, 48, 56, 48, 57, 49, 48, 49, 49, 49, 50, 49, 51, 49, 52, 49, 53, 49, 54, 49, 55, 49, 56, 49, 57, 50, 48, 50, 49, 50, 50, 50, 51, 50, 52, 50, 53, 50, 54, 50, 55, 50, 56, 50, 57, 51, 48, 51, 49, 51, 50, 51, 51, 51, 52, 51, 53, 51, 54, 51, 55, 51, 56, 51, 57, 52, 48, 52, 49, 52, 50, 52, 51, 52, 52, 52, 53, 52, 54, 52, 55, 52, 56, 52, 57, 53, 48, 53, 49, 53, 50, 53, 51, 53, 52, 53, 53, 53, 54, 53, 55, 53, 56, 53, 57, 54, 48, 54, 49, 54, 50, 54, 51, 54, 52, 54, 53, 54, 54, 54, 55, 54, 56, 54, 57, 55, 48, 55, 49, 55, 50, 55, 51, 55, 52, 55, 53, 55, 54, 55, 55, 55, 56, 55, 57, 56, 48, 56, 49, 56, 50, 56, 51, 56, 52, 56, 53, 56, 54, 56, 55, 56, 56, 56, 57, 57, 48, 57, 49, 57, 50, 57, 51, 57, 52, 57, 53, 57, 54, 57, 55, 57, 56, 57, 57]⟩⟩)))) (.loc 62), none⟩,
         ⟨(some 64), false, .mv (.env 8), none⟩,
         ⟨(some 65), false, .istr (.val (.tr (.sc (.string ⟨⟨[48, 48, 48, 49, 48, 50, 48, 51, 48, 52, 48, 53, 48, 54, 48, 55, 48, 56, 48, 57, 49, 48, 49, 49, 49, 50, 49, 51, 49, 52, 49, 53, 49, 54, 49, 55, 49, 56, 49, 57, 50, 48, 50, 49, 50, 50, 50, 51, 50, 52, 50, 53, 50, 54, 50, 55, 50, 56, 50, 57, 51, 48, 51, 49, 51, 50, 51, 51, 51, 52, 51, 53, 51, 54, 51, 55, 51, 56, 51, 57, 52, 48, 52, 49, 52, 50, 52, 51, 52, 52, 52, 53, 52, 54, 52, 55, 52, 56, 52, 57, 53, 48, 53, 49, 53, 50, 53, 51, 53, 52, 53, 53, 53, 54, 53, 55, 53, 56, 53, 57, 54, 48, 54, 49, 54, 50, 54, 51, 54, 52, 54, 53, 54, 54, 54, 55, 54, 56, 54, 57, 55, 48, 55, 49, 55, 50, 55, 51, 55, 52, 55, 53, 55, 54, 55, 55, 55, 56, 55, 57, 56, 48, 56, 49, 56, 50, 56, 51, 56, 52, 56, 53, 56, 54, 56, 55, 56, 56, 56, 57, 57, 48, 57, 49, 57, 50, 57, 51, 57, 52, 57, 53, 57, 54, 57, 55, 57, 56, 57, 57]⟩⟩)))) (.loc 64), none⟩,
         ⟨(some 66), false, .iaddr 1 (.loc 55) (.loc 57), none⟩,
         ⟨none, false, .store 1 (.loc 66) (.loc 63), none⟩,
         ⟨(some 67), false, .iaddr 1 (.loc 58) (.loc 60), none⟩,
         ⟨none, false, .store 1 (.loc 67) (.loc 65), none⟩]
@[simp] def r77_9 : List HOp := [⟨(some 68), false, .mv (.env 0), none⟩,
         ⟨(some 69), false, .mv (.env 4), none⟩,
         ⟨(some 70), false, .bin .other .sub (.loc 69) (.val (.tr (.sc (.int .i64 5)))), none⟩,
         ⟨(some 71), false, .mv (.env 0), none⟩,
         ⟨(some 72), false, .mv (.env 4), none⟩,
         ⟨(some 73), false, .bin .other .sub (.loc 72) (.val (.tr (.sc (.int .i64 6)))), none⟩,
         ⟨(some 74), false, .mv (.env 11), none⟩,
         ⟨(some 75), false, .bin .other .add (.loc 74) (.val (.tr (.sc (.int .u32 1)))), none⟩,
         ⟨(some 76), false, .istr (.val (.tr (.sc (.string ⟨⟨[48, 48, 48, 49, 48, 50, 48, 51, 48, 52, 48, 53, 48, 54, 48, 55, 48, 56, 48, 57, 49, 48, 49, 49, 49, 50, 49, 51, 49, 52, 49, 53, 49, 54, 49, 55, 49, 56, 49, 57, 50, 48, 50, 49, 50, 50, 50, 51, 50, 52, 50, 53, 50, 54, 50, 55, 50, 56, 50, 57, 51, 48, 51, 49, 51, 50, 51, 51, 51, 52, 51, 53, 51, 54, 51, 55, 51, 56, 51, 57, 52, 48, 52, 49, 52, 50, 52, 51, 52, 52, 52, 53, 52, 54, 52, 55, 52, 56, 52, 57, 53, 48, 53, 49, 53, 50, 53, 51, 53, 52, 53, 53, 53, 54, 53, 55, 53, 56, 53, 57, 54, 48, 54, 49, 54, 50, 54, 51, 54, 52, 54, 53, 54, 54, 54, 55, 54, 56, 54, 57, 55, 48, 55, 49, 55, 50, 55, 51, 55, 52, 55, 53, 55, 54, 55, 55, 55, 56, 55, 57, 56, 48, 56, 49, 56, 50, 56, 51, 56, 52, 56, 53, 56, 54, 56, 55, 56, 56, 56, 57, 57, 48, 57, 49, 57, 50, 57, 51, 57, 52, 57, 53, 57, 54, 57, 55, 57, 56, 57, 57]⟩⟩)))) (.loc 75), none⟩,
         ⟨(some 77), false, .mv (.env 11), none⟩,
         ⟨(some 78), false, .istr (.val (.tr (.sc (.string ⟨⟨[48, 48, 48, 49, 48, 50, 48, 51, 48, 52, 48, 53, 48, 54, 48, 55, 48, 56, 48, 57, 49, 48, 49, 49, 49, 50, 49, 51, 49, 52, 49, 53, 49, 54, 49, 55, 49, 56, 49, 57, 50, 48, 50, 49, 50, 50, 50, 51, 50, 52, 50, 53, 50, 54, 50, 55, 50, 56, 50, 57, 51, 48, 51, 49, 51, 50, 51, 51, 51, 52, 51, 53, 51, 54, 51, 55, 51, 56, 51, 57, 52, 48, 52, 49, 52, 50, 52, 51, 52, 52, 52, 53, 52, 54, 52, 55, 52, 56, 52, 57, 53, 48, 53, 49, 53, 50, 53, 51, 53, 52, 53, 53, 53, 54, 53, 55, 53, 56, 53, 57, 54, 48, 54, 49, 54, 50, 54, 51, 54, 52, 54, 53, 54, 54, 54, 55, 54, 56, 54, 57, 55, 48, 55, 49, 55, 50, 55, 51, 55, 52, 55, 53, 55, 54, 55, 55, 55, 56, 55, 57, 56, 48, 56, 49, 56, 50, 56, 51, 56, 52, 56, 53, 56, 54, 56, 55, 56, 56, 56, 57, 57, 48, 57, 49, 57, 50, 57, 51, 57, 52, 57, 53, 57, 54, 57, 55, 57, 56, 57, 57]⟩⟩)))) (.loc 77), none⟩,
         ⟨(some 79), false, .iaddr 1 (.loc 68) (.loc 70), none⟩,
         ⟨none, false, .store 1 (.loc 79) (.loc 76), none⟩,
         ⟨(some 80), false, .iaddr 1 (.loc 71) (.loc 73), none⟩,
         ⟨none, false, .store 1 (.loc 80) (.loc 78), none⟩]
@[simp] def r77_10 : List HOp := [⟨(some 81), false, .mv (.env 0), none⟩,
         ⟨(some 82), false, .mv (.env 4), none⟩,
         ⟨(some 83), false, .bin .other .sub (.loc 82) (.val (.tr (.sc (.int .i64 7)))), none⟩,
         ⟨(some 84), false, .mv (.env 0), none⟩,
         ⟨(some 85), false, .mv (.env 4), none⟩,
         ⟨(some 86), false, .bin .other .sub (.loc 85) (.val (.tr (.sc (.int .i64 8)))), none⟩,
         ⟨(some 87), false, .mv (.env 10), none⟩,
         ⟨(some 88), false, .bin .other .add (.loc 87) (.val (.tr (.sc (.int .u32 1)))), none⟩,
         ⟨(some 89), false, .istr (.val (.tr (.sc (.string ⟨⟨[48, 48, 48, 49, 48, 50, 48, 51, 48, 52, 48, 53, 48, 54, 48, 55, 48, 56, 48, 57, 49, 48, 49, 49, 49, 50, 49, 51, 49, 52, 49, 53, 49, 54, 49, 55, 49, 56, 49, 57, 50, 48, 50, 49, 50, 50, 50, 51, 50, 52, 50, 53, 50, 54, 50, 55, 50, 56, 50, 57, 51, 48, 51, 49, 51, 50, 51, 51, 51, 52, 51, 53, 51, 54, 51, 55, 51, 56, 51, 57, 52, 48, 52, 49, 52, 50, 52, 51, 52, 52, 52, 53, 52, 54, 52, 55, 52, 56, 52, 57, 53, 48, 53, 49, 53, 50, 53, 51, 53, 52, 53, 53, 53, 54, 53, 55, 53, 56, 53, 57, 54, 48, 54, 49, 54, 50, 54, 51, 54, 52, 54, 53, 54, 54, 54, 55, 54, 56, 54, 57, 55, 48, 55, 49, 55, 50, 55, 51, 55, 52, 55, 53, 55, 54, 55, 55, 55, 56, 55, 57, 56, 48, 56, 49, 56, 50, 56, 51, 56, 52, 56, 53, 56, 54, 56, 55, 56, 56, 56, 57, 57, 48, 57, 49, 57, 50, 57, 51, 57, 52, 57, 53, 57, 54, 57, 55, 57, 56, 57, 57]⟩⟩)))) (.loc 88), none⟩,
         ⟨(some 90), false, .mv (.env 10), none⟩,
         ⟨(some 91), false, .istr (.val (.tr (.sc (.string ⟨⟨[48, 48, 48, 49, 48, 50, 48, 51, 48, 52, 48, 53, 48, 54, 48, 55, 48, 56, 48, 57, 49, 48, 49, 49, 49, 50, 49, 51, 49, 52, 49, 53, 49, 54, 49, 55, 49, 56, 49, 57, 50, 48, 50, 49, 50, 50, 50, 51, 50, 52, 50, 53, 50, 54, 50, 55, 50, 56, 50, 57, 51, 48, 51, 49, 51, 50, 51, 51, 51, 52, 51, 53, 51, 54, 51, 55, 51, 56, 51, 57, 52, 48, 52, 49, 52, 50, 52, 51, 52, 52, 52, 53, 52, 54, 52, 55, 52, 56, 52, 57, 53, 48, 53, 49, 53, 50, 53, 51, 53, 52, 53, 53, 53, 54, 53, 55, 53, 56, 53, 57, 54, 48, 54, 49, 54, 50, 54, 51, 54, 52, 54, 53, 54, 54, 54, 55, 54, 56, 54, 57, 55, 48, 55, 49, 55, 50, 55, 51, 55, 52, 55, 53, 55, 54, 55, 55, 55, 56, 55, 57, 56, 48, 56, 49, 56, 50, 56, 51, 56, 52, 56, 53, 56, 54, 56, 55, 56, 56, 56, 57, 57, 48, 57, 49, 57, 50, 57, 51, 57, 52, 57, 53, 57, 54, 57, 55, 57, 56, 57, 57]⟩⟩)))) (.loc 90), none⟩,
         ⟨(some 92), false, .iaddr 1 (.loc 81) (.loc 83), none⟩,
         ⟨none, false, .store 1 (.loc 92) (.loc 89), none⟩,
         ⟨(some 93), false, .iaddr 1 (.loc 84) (.loc 86), none⟩,
         ⟨none, false, .store 1 (.loc 93) (.loc 91), none⟩]
@[simp] def r77_11 : List HOp := [⟨(some 94), false, .mv (.env 4), none⟩,
        ⟨(some 95), false, .bin .other .sub (.loc 94) (.val (.tr (.sc (.int .i64 8)))), none⟩,
        ⟨(some 4), true, .mv (.loc 95), none⟩]
@[simp] def r77_12 : List HOp := [⟨(some 96), false, .mv (.env 1), none⟩,
     ⟨(some 97), false, .conv (.toInt .u32) (.loc 96), none⟩,
     ⟨(some 12), true, .mv (.loc 97), none⟩]
@[simp] def r77_13 : List HOp := [⟨(some 98), false, .mv (.env 4), none⟩,
      ⟨(some 99), false, .bin .other .geq (.loc 98) (.val (.tr (.sc (.int .i64 4)))), none⟩]
@[simp] def r77_14 : List HOp := [⟨(some 100), false, .mv (.env 12), none⟩,
       ⟨(some 101), false, .bin .other .rem (.loc 100) (.val (.tr (.sc (.int .u32 10000)))), none⟩,
       ⟨(some 13), true, .mv (.loc 101), none⟩]
@[simp] def r77_15 : List HOp := [⟨(some 102), false, .mv (.env 12), none⟩,
       ⟨(some 103), false, .bin .other .quo (.loc 102) (.val (.tr (.sc (.int .u32 10000)))), none⟩,
       ⟨(some 12), true, .mv (.loc 103), none⟩]
@[simp] def r77_16 : List HOp := [⟨(some 104), false, .mv (.env 13), none⟩,
       ⟨(some 105), false, .bin .other .quo (.loc 104) (.val (.tr (.sc (.int .u32 100)))), none⟩,
       ⟨(some 106), false, .bin .other .mul (.loc 105) (.val (.tr (.sc (.int .u32 2)))), none⟩,
       ⟨(some 107), false, .mv (.env 13), none⟩,
       ⟨(some 108), false, .bin .other .rem (.loc 107) (.val (.tr (.sc (.int .u32 100)))), none⟩,
       ⟨(some 109), false, .bin .other .mul (.loc 108) (.val (.tr (.sc (.int .u32 2)))), none⟩,
       ⟨(some 14), true, .mv (.loc 106), none⟩,
       ⟨(some 15), true, .mv (.loc 109), none⟩]
@[simp] def r77_17 : List HOp := [⟨(some 110), false, .mv (.env 0), none⟩,
       ⟨(some 111), false, .mv (.env 4), none⟩,
       ⟨(some 112), false, .bin .other .sub (.loc 111) (.val (.tr (.sc (.int .i64 1)))), none⟩,
       ⟨(some 113), false, .mv (.env 0), none⟩,
       ⟨(some 114), false, .mv (.env 4), none⟩,
       ⟨(some 115), false, .bin .other .sub (.loc 114) (.val (.tr (.sc (.int .i64 2)))), none⟩,
       ⟨(some 116), false, .mv (.env 15), none⟩,
       ⟨(some 117), false, .bin .other .add (.loc 116) (.val (.tr (.sc (.int .u32 1)))), none⟩,
       ⟨(some 118), false, .istr (.val (.tr (.sc (.string ⟨⟨[48, 48, 48, 49, 48, 50, 48, 51, 48, 52, 48, 53, 48, 54, 48, 55, 48, 56, 48, 57, 49, 48, 49, 49, 49, 50, 49, 51, 49, 52, 49, 53, 49, 54, 49, 55, 49, 56, 49, 57, 50, 48, 50, 49, 50, 50, 50, 51, 50, 52, 50, 53, 50, 54, 50, 55, 50, 56, 50, 57, 51, 48, 51, 49, 51, 50, 51, 51, 51, 52, 51, 53, 51, 54, 51, 55, 51, 56, 51, 57, 52, 48, 52, 49, 52, 50, 52, 51, 52, 52, 52, 53, 52, 54, 52, 55, 52, 56, 52, 57, 53, 48, 53, 49, 53, 50, 53, 51, 53, 52, 53, 53, 53, 54, 53, 55, 53, 56, 53, 57, 54, 48, 54, 49, 54, 50, 54, 51, 54, 52, 54, 53, 54, 54, 54, 55, 54, 56, 54, 57, 55, 48, 55, 49, 55, 50, 55, 51, 55, 52, 55, 53, 55, 54, 55, 55, 55, 56, 55, 57, 56, 48, 56, 49, 56, 50, 56, 51, 56, 52, 56, 53, 56, 54, 56, 55, 56, 56, 56, 57, 57, 48, 57, 49, 57, 50, 57, 51, 57, 52, 57, 53, 57, 54, 57, 55, 57, 56, 57, 57]⟩⟩)))) (.loc 117), none⟩,
       ⟨(some 119), false, .mv (.env 15), none⟩,
       ⟨(some 120), false, .istr (.val (.tr (.sc (.string ⟨⟨[48, 48, 48, 49, 48, 50, 48, 51, 48, 52, 48, 53, 48, 54, 48, 55, 48, 56, 48, 57, 49, 48, 49, 49, 49, 50, 49, 51, 49, 52, 49, 53, 49, 54, 49, 55, 49, 56, 49, 57, 50, 48, 50, 49, 50, 50, 50, 51, 50, 52, 50, 53, 50, 54, 50, 55, 50, 56, 50, 57, 51, 48, 51, 49, 51, 50, 51, 51, 51, 52, 51, 53, 51, 54, 51, 55, 51, 56, 51, 57, 52, 48, 52, 49, 52, 50, 52, 51, 52, 52, 52, 53, 52, 54, 52, 55, 52, 56, 52, 57, 53, 48, 53, 49, 53, 50, 53, 51, 53, 52, 53, 53, 53, 54, 53, 55, 53, 56, 53, 57, 54, 48, 54, 49, 54, 50, 54, 51, 54, 52, 54, 53, 54, 54, 54, 55, 54, 56, 54, 57, 55, 48, 55, 49, 55, 50, 55, 51, 55, 52, 55, 53, 55, 54, 55, 55, 55, 56, 55, 57, 56, 48, 56, 49, 56, 50, 56, 51, 56, 52, 56, 53, 56, 54, 56, 55, 56, 56, 56, 57, 57, 48, 57, 49, 57, 50, 57, 51, 57, 52, 57, 53, 57, 54, 57, 55, 57, 56, 57, 57]⟩⟩)))) (.loc 119), none⟩,
       ⟨(some 121), false, .iaddr 1 (.loc 110) (.loc 112), none⟩,
       ⟨none, false, .store 1 (.loc 121) (.loc 118), none⟩,
       ⟨(some 122), false, .iaddr 1 (.loc 113) (.loc 115), none⟩,
       ⟨none, false, .store 1 (.loc 122) (.loc 120), none⟩]
@[simp] def r77_18 : List HOp := [⟨(some 123), false, .mv (.env 0), none⟩,
       ⟨(some 124), false, .mv (.env 4), none⟩,
       ⟨(some 125), false, .bin .other .sub (.loc 124) (.val (.tr (.sc (.int .i64 3)))), none⟩,
       ⟨(some 126), false, .mv (.env 0), none⟩,
       ⟨(some 127), false, .mv (.env 4), none⟩,
       ⟨(some 128), false, .bin .other .sub (.loc 127) (.val (.tr (.sc (.int .i64 4)))), none⟩,
       ⟨(some 129), false, .mv (.env 14), none⟩,
       ⟨(some 130), false, .bin .other .add (.loc 129) (.val (.tr (.sc (.int .u32 1)))), none⟩,
       ⟨(some 131), false, .istr (.val (.tr (.sc (.string ⟨⟨[48, 48, 48, 49, 48, 50, 48, 51, 48, 52, 48, 53, 48, 54, 48, 55, 48, 56, 48, 57, 49, 48, 49, 49, 49, 50, 49, 51, 49, 52, 49, 53, 49, 54, 49, 55, 49, 56, 49, 57, 50, 48, 50, 49, 50, 50, 50, 51, 50, 52, 50, 53, 50, 54, 50, 55, 50, 56, 50, 57, 51, 48, 51, 49, 51, 50, 51, 51, 51, 52, 51, 53, 51, 54, 51, 55, 51, 56, 51, 57, 52, 48, 52, 49, 52, 50, 52, 51, 52, 52, 52, 53, 52, 54, 52, 55, 52, 56, 52, 57, 53, 48, 53, 49, 53, 50, 53, 51, 53, 52, 53, 53, 53, 54, 53, 55, 53, 56, 53, 57, 54, 48, 54, 49, 54, 50, 54, 51, 54, 52, 54, 53, 54, 54, 54, 55, 54, 56, 54, 57, 55, 48, 55, 49, 55, 50, 55, 51, 55, 52, 55, 53, 55, 54, 55, 55, 55, 56, 55, 57, 56, 48, 56, 49, 56, 50, 56, 51, 56, 52, 56, 53, 56, 54, 56, 55, 56, 56, 56, 57, 57, 48, 57, 49, 57, 50, 57, 51, 57, 52, 57, 53, 57, 54, 57, 55, 57, 56, 57, 57]⟩⟩)))) (.loc 130), none⟩,
       ⟨(some 132), false, .mv (.env 14), none⟩,
       ⟨(some 133), false, .istr (.val (.tr (.sc (.string ⟨⟨[48, 48, 48, 49, 48, 50, 48, 51, 48, 52, 48, 53, 48, 54, 48, 55, 48, 56, 48, 57, 49, 48, 49, 49, 49, 50, 49, 51, 49, 52, 49, 53, 49, 54, 49, 55, 49, 56, 49, 57, 50, 48, 50, 49, 50, 50, 50, 51, 50, 52, 50, 53, 50, 54, 50, 55, 50, 56, 50, 57, 51, 48, 51, 49, 51, 50, 51, 51, 51, 52, 51, 53, 51, 54, 51, 55, 51, 56, 51, 57, 52, 48, 52, 49, 52, 50, 52, 51, 52, 52, 52, 53, 52, 54, 52, 55, 52, 56, 52, 57, 53, 48, 53, 49, 53, 50, 53, 51, 53, 52, 53, 53, 53, 54, 53, 55, 53, 56, 53, 57, 54, 48, 54, 49, 54, 50, 54, 51, 54, 52, 54, 53, 54, 54, 54, 55, 54, 56, 54, 57, 55, 48, 55, 49, 55, 50, 55, 51, 55, 52, 55, 53, 55, 54, 55, 55, 55, 56, 55, 57, 56, 48, 56, 49, 56, 50, 56, 51, 56, 52, 56, 53, 56, 54, 56, 55, 56, 56, 56, 57, 57, 48, 57, 49, 57, 50, 57, 51, 57, 52, 57, 53, 57, 54, 57, 55, 57, 56, 57, 57]⟩⟩)))) (.loc 132), none⟩,
       ⟨(some 134), false, .iaddr 1 (.loc 123) (.loc 125), none⟩,
       ⟨none, false, .store 1 (.loc 134) (.loc 131), none⟩,
       ⟨(some 135), false, .iaddr 1 (.loc 126) (.loc 128), none⟩,
       ⟨none, false, .store 1 (.loc 135) (.loc 133), none⟩]
@[simp] def r77_19 : List HOp := [⟨(some 136), false, .mv (.env 4), none⟩,
      ⟨(some 137), false, .bin .other .sub (.loc 136) (.val (.tr (.sc (.int .i64 4)))), none⟩,
      ⟨(some 4), true, .mv (.loc 137), none⟩]
@[simp] def r77_20 : List HOp := [⟨(some 138), false, .mv (.env 4), none⟩,
      ⟨(some 139), false, .bin .other .geq (.loc 138) (.val (.tr (.sc (.int .i64 2)))), none⟩]
@[simp] def r77_21 : List HOp := [⟨(some 140), false, .mv (.env 12), none⟩,
       ⟨(some 141), false, .bin .other .rem (.loc 140) (.val (.tr (.sc (.int .u32 100)))), none⟩,
       ⟨(some 142), false, .bin .other .mul (.loc 141) (.val (.tr (.sc (.int .u32 2)))), none⟩,
       ⟨(some 16), true, .mv (.loc 142), none⟩]
@[simp] def r77_22 : List HOp := [⟨(some 143), false, .mv (.env 12), none⟩,
       ⟨(some 144), false, .bin .other .quo (.loc 143) (.val (.tr (.sc (.int .u32 100)))), none⟩,
       ⟨(some 12), true, .mv (.loc 144), none⟩]
@[simp] def r77_23 : List HOp := [⟨(some 145), false, .mv (.env 0), none⟩,
       ⟨(some 146), false, .mv (.env 4), none⟩,
       ⟨(some 147), false, .bin .other .sub (.loc 146) (.val (.tr (.sc (.int .i64 1)))), none⟩,
       ⟨(some 148), false, .mv (.env 0), none⟩,
       ⟨(some 149), false, .mv (.env 4), none⟩,
       ⟨(some 150), false, .bin .other .sub (.loc 149) (.val (.tr (.sc (.int .i64 2)))), none⟩,
       ⟨(some 151), false, .mv (.env 16), none⟩,
       ⟨(some 152), false, .bin .other .add (.loc 151) (.val (.tr (.sc (.int .u32 1)))), none⟩,
       ⟨(some 153), false, .istr (.val (.tr (.sc (.string ⟨⟨[48, 48, 48, 49, 48, 50, 48, 51, 48, 52, 48, 53, 48, 54, 48, 55, 48, 56, 48, 57, 49, 48, 49, 49, 49, 50, 49, 51, 49, 52, 49, 53, 49, 54, 49, 55, 49, 56, 49, 57, 50, 48, 50, 49, 50, 50, 50, 51, 50, 52, 50, 53, 50, 54, 50, 55, 50, 56, 50, 57, 51, 48, 51, 49, 51, 50, 51, 51, 51, 52, 51, 53, 51, 54, 51, 55, 51, 56, 51, 57, 52, 48, 52, 49, 52, 50, 52, 51, 52, 52, 52, 53, 52, 54, 52, 55, 52, 56, 52, 57, 53, 48, 53, 49, 53, 50, 53, 51, 53, 52, 53, 53, 53, 54, 53, 55, 53, 56, 53, 57, 54, 48, 54, 49, 54, 50, 54, 51, 54, 52, 54, 53, 54, 54, 54, 55, 54, 56, 54, 57, 55, 48, 55, 49, 55, 50, 55, 51, 55, 52, 55, 53, 55, 54, 55, 55, 55, 56, 55, 57, 56, 48, 56, 49, 56, 50, 56, 51, 56, 52, 56, 53, 56, 54, 56, 55, 56, 56, 56, 57, 57, 48, 57, 49, 57, 50, 57, 51, 57, 52, 57, 53, 57, 54, 57, 55, 57, 56, 57, 57]⟩⟩)))) (.loc 152), none⟩,
       ⟨(some 154), false, .mv (.env 16), none⟩,
       ⟨(some 155), false, .istr (.val (.tr (.sc (.string ⟨⟨[48, 48, 48, 49, 48, 50, 48, 51, 48, 52, 48, 53, 48, 54, 48, 55, 48, 56, 48, 57, 49, 48, 49, 49, 49, 50, 49, 51, 49, 52, 49, 53, 49, 54, 49, 55, 49, 56, 49, 57, 50, 48, 50, 49, 50, 50, 50, 51, 50, 52, 50, 53, 50, 54, 50, 55, 50, 56, 50, 57, 51, 48, 51, 49, 51, 50, 51, 51, 51, 52, 51, 53, 51, 54, 51, 55, 51, 56, 51, 57, 52, 48, 52, 49, 52, 50, 52, 51, 52, 52, 52, 53, 52, 54, 52, 55, 52, 56, 52, 57, 53, 48, 53, 49, 53, 50, 53, 51, 53, 52, 53, 53, 53, 54, 53, 55, 53, 56, 53, 57, 54, 48, 54, 49, 54, 50, 54, 51, 54, 52, 54, 53, 54, 54, 54, 55, 54, 56, 54, 57, 55, 48, 55, 49, 55, 50, 55, 51, 55, 52, 55, 53, 55, 54, 55, 55, 55, 56, 55, 57, 56, 48, 56, 49, 56, 50, 56, 51, 56, 52, 56, 53, 56, 54, 56, 55, 56, 56, 56, 57, 57, 48, 57, 49, 57, 50, 57, 51, 57, 52, 57, 53, 57, 54, 57, 55, 57, 56, 57, 57]⟩⟩)))) (.loc 154), none⟩,
       ⟨(some 156), false, .iaddr 1 (.loc 145) (.loc 147), none⟩,
       ⟨none, false, .store 1 (.loc 156) (.loc 153), none⟩,
       ⟨(some 157), false, .iaddr 1 (.loc 148) (.loc 150), none⟩,
       ⟨none, false, .store 1 (.loc 157) (.loc 155), none⟩]
@[simp] def r77_24 : List HOp := [⟨(some 158), false, .mv (.env 4), none⟩,
      ⟨(some 159), false, .bin .other .sub (.loc 158) (.val (.tr (.sc (.int .i64 2)))), none⟩,
      ⟨(some 4), true, .mv (.loc 159), none⟩]
@[simp] def r77_25 : List HOp := [⟨(some 160), false, .mv (.env 4), none⟩,
     ⟨(some 161), false, .bin .other .gtr (.loc 160) (.val (.tr (.sc (.int .i64 0)))), none⟩]
@[simp] def r77_26 : List HOp := [⟨(some 162), false, .mv (.env 0), none⟩,
     ⟨(some 163), false, .mv (.env 12), none⟩,
     ⟨(some 164), false, .bin .other .add (.val (.tr (.sc (.int .u32 48)))) (.loc 163), none⟩,
     ⟨(some 165), false, .conv (.toInt .u8) (.loc 164), none⟩,
     ⟨(some 166), false, .iaddr 1 (.loc 162) (.val (.tr (.sc (.int .i64 0)))), none⟩,
     ⟨none, false, .store 1 (.loc 166) (.loc 165), none⟩]
@[simp] def k77_2 : HCode := .cond (.loc 20) .skip (.exit 0)
@[simp] def k77_11 : HCode := .seq (.region r77_10 (some [ ( 0, [ 0 ] ) , ( 0, [ 4 ] ) , ( 0, [ 82 ] ) , ( 0, [ 0 ] ) , ( 0, [ 4 ] ) , ( 0, [ 85 ] ) , ( 0, [ 10 ] ) , ( 0, [ 87 ] ) , ( 0, [ 88 ] ) , ( 0, [ 10 ] ) , ( 0, [ 90 ] ) , ( 2, [ 81, 83 ] ) , ( 2, [ 92, 89 ] ) , ( 2, [ 84, 86 ] ) , ( 2, [ 93, 91 ] ) ])) (.region r77_11 none)
@[simp] def k77_10 : HCode := .seq (.region r77_9 (some [ ( 0, [ 0 ] ) , ( 0, [ 4 ] ) , ( 0, [ 69 ] ) , ( 0, [ 0 ] ) , ( 0, [ 4 ] ) , ( 0, [ 72 ] ) , ( 0, [ 11 ] ) , ( 0, [ 74 ] ) , ( 0, [ 75 ] ) , ( 0, [ 11 ] ) , ( 0, [ 77 ] ) , ( 2, [ 68, 70 ] ) , ( 2, [ 79, 76 ] ) , ( 2, [ 71, 73 ] ) , ( 2, [ 80, 78 ] ) ])) k77_11
@[simp] def k77_9 : HCode := .seq (.region r77_8 (some [ ( 0, [ 0 ] ) , ( 0, [ 4 ] ) , ( 0, [ 56 ] ) , ( 0, [ 0 ] ) , ( 0, [ 4 ] ) , ( 0, [ 59 ] ) , ( 0, [ 8 ] ) , ( 0, [ 61 ] ) , ( 0, [ 62 ] ) , ( 0, [ 8 ] ) , ( 0, [ 64 ] ) , ( 2, [ 55, 57 ] ) , ( 2, [ 66, 63 ] ) , ( 2, [ 58, 60 ] ) , ( 2, [ 67, 65 ] ) ])) k77_10
@[simp] def k77_8 : HCode := .seq (.region r77_7 (some [ ( 0, [ 0 ] ) , ( 0, [ 4 ] ) , ( 0, [ 43 ] ) , ( 0, [ 0 ] ) , ( 0, [ 4 ] ) , ( 0, [ 46 ] ) , ( 0, [ 9 ] ) , ( 0, [ 48 ] ) , ( 0, [ 49 ] ) , ( 0, [ 9 ] ) , ( 0, [ 51 ] ) , ( 2, [ 42, 44 ] ) , ( 2, [ 53, 50 ] ) , ( 2, [ 45, 47 ] ) , ( 2, [ 54, 52 ] ) ])) k77_9
@[simp] def k77_7 : HCode := .seq (.region r77_6 none) k77_8
@[simp] def k77_6 : HCode := .seq (.region r77_5 none) k77_7
@[simp] def k77_5 : HCode := .seq (.region r77_4 none) k77_6
@[simp] def k77_4 : HCode := .seq (.region r77_3 none) k77_5
def k77_3 : HCode := .block 1 (.seq (.region r77_2 none) k77_4)
def k77_1 : HCode := .seq (.seq (.region r77_1 none) k77_2) k77_3
@[simp] def k77_19 : HCode := .seq (.region r77_18 (some [ ( 0, [ 0 ] ) , ( 0, [ 4 ] ) , ( 0, [ 124 ] ) , ( 0, [ 0 ] ) , ( 0, [ 4 ] ) , ( 0, [ 127 ] ) , ( 0, [ 14 ] ) , ( 0, [ 129 ] ) , ( 0, [ 130 ] ) , ( 0, [ 14 ] ) , ( 0, [ 132 ] ) , ( 2, [ 123, 125 ] ) , ( 2, [ 134, 131 ] ) , ( 2, [ 126, 128 ] ) , ( 2, [ 135, 133 ] ) ])) (.region r77_19 none)
@[simp] def k77_18 : HCode := .seq (.region r77_17 (some [ ( 0, [ 0 ] ) , ( 0, [ 4 ] ) , ( 0, [ 111 ] ) , ( 0, [ 0 ] ) , ( 0, [ 4 ] ) , ( 0, [ 114 ] ) , ( 0, [ 15 ] ) , ( 0, [ 116 ] ) , ( 0, [ 117 ] ) , ( 0, [ 15 ] ) , ( 0, [ 119 ] ) , ( 2, [ 110, 112 ] ) , ( 2, [ 121, 118 ] ) , ( 2, [ 113, 115 ] ) , ( 2, [ 122, 120 ] ) ])) k77_19
@[simp] def k77_17 : HCode := .seq (.region r77_16 none) k77_18
@[simp] def k77_16 : HCode := .seq (.region r77_15 none) k77_17
@[simp] def k77_15 : HCode := .seq (.region r77_14 none) k77_16
@[simp] def k77_14 : HCode := .cond (.loc 99) k77_15 .skip
@[simp] def k77_24 : HCode := .seq (.region r77_23 (some [ ( 0, [ 0 ] ) , ( 0, [ 4 ] ) , ( 0, [ 146 ] ) , ( 0, [ 0 ] ) , ( 0, [ 4 ] ) , ( 0, [ 149 ] ) , ( 0, [ 16 ] ) , ( 0, [ 151 ] ) , ( 0, [ 152 ] ) , ( 0, [ 16 ] ) , ( 0, [ 154 ] ) , ( 2, [ 145, 147 ] ) , ( 2, [ 156, 153 ] ) , ( 2, [ 148, 150 ] ) , ( 2, [ 157, 155 ] ) ])) (.region r77_24 none)
@[simp] def k77_23 : HCode := .seq (.region r77_22 none) k77_24
@[simp] def k77_22 : HCode := .seq (.region r77_21 none) k77_23
@[simp] def k77_21 : HCode := .cond (.loc 139) k77_22 .skip
@[simp] def k77_26 : HCode := .cond (.loc 161) (.region r77_26 none) .skip
def k77_25 : HCode := .seq (.region r77_25 none) k77_26
def k77_20 : HCode := .seq (.seq (.region r77_20 none) k77_21) k77_25
@[simp] def k77_13 : HCode := .seq (.seq (.region r77_13 none) k77_14) k77_20
def k77_12 : HCode := .seq (.region r77_12 none) k77_13
@[simp] def k77_0 : HCode := .seq (.block 0 (.loop k77_1)) k77_12
@[simp] def fn77 : HFn := { nargs := 2, results := [], mode := .iso, code := (.seq (.region r77_0 none) k77_0) }
theorem c77 : cFn Tryd.prog (Hs 77) .iso 77 = some fn77 := by kernel_rfl
/- internal/strconv.isPowerOfTwo -/
@[simp] def r95_0 : List HOp := [⟨(some 2), true, .mv (.val (.tr (.sc (.bool false)))), none⟩]
@[simp] def r95_1 : List HOp := [⟨(some 3), false, .mv (.env 0), none⟩,
     ⟨(some 4), false, .mv (.env 0), none⟩,
     ⟨(some 5), false, .bin .other .sub (.loc 4) (.val (.tr (.sc (.int .i64 1)))), none⟩,
     ⟨(some 6), false, .bin .other .and (.loc 3) (.loc 5), none⟩,
     ⟨(some 7), false, .bin .other .eql (.loc 6) (.val (.tr (.sc (.int .i64 0)))), none⟩,
     ⟨(some 2), true, .mv (.loc 7), none⟩]
@[simp] def k95_0 : HCode := .seq (.region r95_1 none) .ret
@[simp] def fn95 : HFn := { nargs := 1, results := [.tmp 2], mode := .iso, code := (.seq (.region r95_0 none) k95_0) }
theorem c95 : cFn Tryd.prog (Hs 95) .iso 95 = some fn95 := by kernel_rfl
/- math/bits.TrailingZeros -/
@[simp] def r96_0 : List HOp := [⟨(some 2), true, .mv (.val (.tr (.sc (.int .i64 0)))), none⟩]
@[simp] def r96_1 : List HOp := [⟨(some 3), false, .mv (.env 0), none⟩,
       ⟨(some 4), false, .conv (.toInt .u32) (.loc 3), none⟩,
       ⟨(some 5), false, .callf 99 [(.loc 4)], none⟩,
       ⟨(some 2), true, .mv (.loc 5), none⟩]
@[simp] def r96_2 : List HOp := [⟨(some 6), false, .mv (.env 0), none⟩,
     ⟨(some 7), false, .callf 100 [(.loc 6)], none⟩,
     ⟨(some 2), true, .mv (.loc 7), none⟩]
@[simp] def k96_1 : HCode := .seq (.region r96_1 none) .ret
def k96_2 : HCode := .seq (.region r96_2 none) .ret
@[simp] def k96_0 : HCode := .seq (.cond (.val (.tr (.sc (.bool false)))) k96_1 .skip) k96_2
@[simp] def fn96 : HFn := { nargs := 1, results := [.tmp 2], mode := .iso, code := (.seq (.region r96_0 none) k96_0) }
theorem c96 : cFn Tryd.prog (Hs 96) .iso 96 = some fn96 := by kernel_rfl
/- sterling/float.Text -/
@[simp] def r34_0 : List HOp := [⟨(some 2), true, .mv (.val (.tr (.sc (.string ⟨⟨[]⟩⟩)))), none⟩]
@[simp] def r34_1 : List HOp := [⟨(some 7), false, .mv (.env 0), none⟩,
     ⟨(some 8), false, .callf 46 [(.loc 7)], none⟩,
     ⟨(some 6), false, .mv (.loc 8), none⟩,
     ⟨(some 9), false, .extract (.loc 6) 0, none⟩,
     ⟨(some 10), false, .extract (.loc 6) 1, none⟩,
     ⟨(some 3), true, .alloc [(.sc (.bool false)), (.sc (.slice none 0 0)), (.sc (.bool false)), (.sc (.slice none 0 0))], none⟩,
     ⟨none, false, .store 4 (.env 3) (.loc 9), none⟩,
     ⟨(some 4), true, .mv (.loc 10), none⟩]
@[simp] def r34_2 : List HOp := [⟨(some 12), false, .mv (.env 0), none⟩,
       ⟨(some 13), false, .mv (.env 0), none⟩,
       ⟨(some 14), false, .bin .other .neq (.loc 12) (.loc 13), none⟩,
       ⟨(some 11), false, .mv (.loc 14), none⟩]
@[simp] def r34_3 : List HOp := [⟨(some 2), true, .mv (.val (.tr (.sc (.string ⟨⟨[78, 97, 78]⟩⟩)))), none⟩]
@[simp] def r34_4 : List HOp := [⟨(some 16), false, .mv (.env 4), none⟩,
        ⟨(some 17), false, .un .not (.loc 16), none⟩,
        ⟨(some 18), false, .mv (.loc 17), none⟩,
        ⟨(some 19), false, .mv (.env 0), some ((.loc 18), true)⟩,
        ⟨(some 20), false, .bin .other .gtr (.loc 19) (.val (.tr (.sc (.float .f64 0)))), some ((.loc 18), true)⟩,
        ⟨(some 21), false, .pick (.loc 18) (.loc 20) (.val (.tr (.sc (.bool false)))), none⟩,
        ⟨(some 15), false, .mv (.loc 21), none⟩]
@[simp] def r34_5 : List HOp := [⟨(some 2), true, .mv (.val (.tr (.sc (.string ⟨⟨[43, 73, 110, 102]⟩⟩)))), none⟩]
@[simp] def r34_6 : List HOp := [⟨(some 23), false, .mv (.env 4), none⟩,
         ⟨(some 24), false, .un .not (.loc 23), none⟩,
         ⟨(some 22), false, .mv (.loc 24), none⟩]
@[simp] def r34_7 : List HOp := [⟨(some 2), true, .mv (.val (.tr (.sc (.string ⟨⟨[45, 73, 110, 102]⟩⟩)))), none⟩]
@[simp] def r34_8 : List HOp := [⟨(some 25), false, .faddr 0 (.env 3), none⟩,
     ⟨(some 26), false, .faddr 0 (.loc 25), none⟩,
     ⟨none, false, .store 1 (.loc 26) (.val (.tr (.sc (.bool false)))), none⟩]
@[simp] def r34_9 : List HOp := [⟨(some 5), true, .mv (.val (.tr (.sc (.string ⟨⟨[]⟩⟩)))), none⟩]
@[simp] def r34_10 : List HOp := [⟨(some 27), false, .mv (.env 0), none⟩,
      ⟨(some 28), false, .callf 18 [(.loc 27)], none⟩,
      ⟨(some 29), false, .bin .other .shr (.loc 28) (.val (.tr (.sc (.int .u64 63)))), none⟩,
      ⟨(some 30), false, .bin .other .eql (.loc 29) (.val (.tr (.sc (.int .u64 1)))), none⟩]
@[simp] def r34_11 : List HOp := [⟨(some 5), true, .mv (.val (.tr (.sc (.string ⟨⟨[45]⟩⟩)))), none⟩]
@[simp] def r34_12 : List HOp := [⟨(some 31), false, .mv (.env 5), none⟩,
     ⟨(some 32), false, .load 4 true (.env 3), none⟩,
     ⟨(some 33), false, .callf 53 [(.loc 32)], none⟩,
     ⟨(some 34), false, .bin .other .add (.loc 31) (.loc 33), none⟩,
     ⟨(some 2), true, .mv (.loc 34), none⟩]
@[simp] def k34_3 : HCode := .seq (.region r34_3 none) .ret
@[simp] def k34_6 : HCode := .seq (.region r34_5 none) .ret
@[simp] def k34_9 : HCode := .seq (.region r34_7 none) .ret
@[simp] def k34_8 : HCode := .cond (.loc 22) k34_9 .skip
@[simp] def k34_7 : HCode := .seq (.region r34_6 none) k34_8
@[simp] def k34_5 : HCode := .cond (.loc 15) k34_6 k34_7
@[simp] def k34_4 : HCode := .seq (.region r34_4 none) k34_5
@[simp] def k34_2 : HCode := .cond (.loc 11) k34_3 k34_4
@[simp] def k34_13 : HCode := .cond (.loc 30) (.region r34_11 none) .skip
def k34_14 : HCode := .seq (.region r34_12 none) .ret
@[simp] def k34_12 : HCode := .seq (.seq (.region r34_10 none) k34_13) k34_14
@[simp] def k34_11 : HCode := .seq (.region r34_9 none) k34_12
def k34_10 : HCode := .seq (.region r34_8 none) k34_11
@[simp] def k34_1 : HCode := .seq (.block 0 (.seq (.region r34_2 none) k34_2)) k34_10
@[simp] def k34_0 : HCode := .seq (.region r34_1 none) k34_1
@[simp] def fn34 : HFn := { nargs := 1, results := [.tmp 2], mode := .iso, code := (.seq (.region r34_0 none) k34_0) }
theorem c34 : cFn Tryd.prog (Hs 34) .iso 34 = some fn34 := by kernel_rfl
/- sterling/ratio.Text -/
@[simp] def r53_0 : List HOp := [⟨(some 1), true, .box false (.env 0), none⟩,
     ⟨(some 2), true, .mv (.val (.tr (.sc (.string ⟨⟨[]⟩⟩)))), none⟩]
@[simp] def r53_1 : List HOp := [⟨(some 3), false, .load 4 true (.env 1), none⟩,
     ⟨(some 4), false, .callf 79 [(.loc 3)], none⟩,
     ⟨none, false, .store 4 (.env 1) (.loc 4), none⟩]
@[simp] def r53_2 : List HOp := [⟨(some 5), false, .faddr 0 (.env 1), none⟩,
     ⟨(some 6), false, .load 2 true (.loc 5), none⟩,
     ⟨(some 7), false, .callf 80 [(.loc 6)], none⟩,
     ⟨(some 8), false, .bin .other .add (.loc 7) (.val (.tr (.sc (.string ⟨⟨[47]⟩⟩)))), none⟩,
     ⟨(some 9), false, .faddr 2 (.env 1), none⟩,
     ⟨(some 10), false, .load 2 true (.loc 9), none⟩,
     ⟨(some 11), false, .callf 80 [(.loc 10)], none⟩,
     ⟨(some 12), false, .bin .other .add (.loc 8) (.loc 11), none⟩,
     ⟨(some 2), true, .mv (.loc 12), none⟩]
@[simp] def k53_1 : HCode := .seq (.region r53_2 (some [ ( 0, [ 1 ] ) , ( 1, [ 5 ] ) , ( 1, [ 6 ] ) , ( 0, [ 7 ] ) , ( 0, [ 1 ] ) , ( 1, [ 9 ] ) , ( 2, [ 10 ] ) , ( 0, [ 8, 11 ] ) , ( 0, [ 12 ] ) ])) .ret
@[simp] def k53_0 : HCode := .seq (.region r53_1 none) k53_1
@[simp] def fn53 : HFn := { nargs := 1, results := [.tmp 2], mode := .iso, code := (.seq (.region r53_0 none) k53_0) }
theorem c53 : cFn Tryd.prog (Hs 53) .iso 53 = some fn53 := by kernel_rfl
/- sterling/bigint.Text -/
@[simp] def r80_0 : List HOp := [⟨(some 1), true, .box true (.env 0), none⟩,
     ⟨(some 2), true, .mv (.val (.tr (.sc (.string ⟨⟨[]⟩⟩)))), none⟩]
@[simp] def r80_1 : List HOp := [⟨(some 7), false, .faddr 1 (.env 1), none⟩,
     ⟨(some 8), false, .load 1 false (.loc 7), none⟩,
     ⟨(some 9), false, .callf 40 [(.loc 8)], none⟩,
     ⟨(some 10), false, .callf 57 [(.loc 9)], none⟩,
     ⟨(some 3), true, .mv (.loc 10), none⟩]
@[simp] def r80_2 : List HOp := [⟨(some 11), false, .mv (.env 3), none⟩,
      ⟨(some 12), false, .len 1 (.loc 11), none⟩,
      ⟨(some 13), false, .bin .other .eql (.loc 12) (.val (.tr (.sc (.int .i64 0)))), none⟩]
@[simp] def r80_3 : List HOp := [⟨(some 2), true, .mv (.val (.tr (.sc (.string ⟨⟨[48]⟩⟩)))), none⟩]
@[simp] def r80_4 : List HOp := [⟨(some 4), true, .mv (.val (.tr (.sc (.slice none 0 0)))), none⟩]
@[simp] def r80_5 : List HOp := [⟨(some 14), false, .mv (.env 3), none⟩,
         ⟨(some 15), false, .len 1 (.loc 14), none⟩,
         ⟨(some 16), false, .bin .other .gtr (.loc 15) (.val (.tr (.sc (.int .i64 0)))), none⟩]
@[simp] def r80_6 : List HOp := [⟨(some 17), false, .mv (.env 3), none⟩,
         ⟨(some 18), false, .callf 69 [(.loc 17), (.val (.tr (.sc (.int .u32 1000000000))))], none⟩,
         ⟨(some 5), true, .mv (.loc 18), none⟩]
@[simp] def r80_7 : List HOp := [⟨(some 19), false, .mv (.env 3), none⟩,
         ⟨(some 20), false, .callf 40 [(.loc 19)], none⟩,
         ⟨(some 3), true, .mv (.loc 20), none⟩]
@[simp] def r80_8 : List HOp := [⟨(some 6), true, .mv (.val (.tr (.sc (.int .i64 0)))), none⟩]
@[simp] def r80_9 : List HOp := [⟨(some 21), false, .mv (.env 6), none⟩,
            ⟨(some 22), false, .bin .other .lss (.loc 21) (.val (.tr (.sc (.int .i64 9)))), none⟩,
            ⟨(some 23), false, .mv (.loc 22), none⟩,
            ⟨(some 24), false, .mv (.env 3), some ((.loc 23), true)⟩,
            ⟨(some 25), false, .len 1 (.loc 24), some ((.loc 23), true)⟩,
            ⟨(some 26), false, .bin .other .gtr (.loc 25) (.val (.tr (.sc (.int .i64 0)))), some ((.loc 23), true)⟩,
            ⟨(some 27), false, .mv (.loc 26), some ((.loc 23), true)⟩,
            ⟨(some 28), false, .mv (.env 5), some ((.loc 27), false)⟩,
            ⟨(some 29), false, .bin .other .gtr (.loc 28) (.val (.tr (.sc (.int .u32 0)))), some ((.loc 27), false)⟩,
            ⟨(some 30), false, .pick (.loc 27) (.val (.tr (.sc (.bool true)))) (.loc 29), some ((.loc 23), true)⟩,
            ⟨(some 31), false, .pick (.loc 23) (.loc 30) (.val (.tr (.sc (.bool false)))), none⟩]
@[simp] def r80_10 : List HOp := [⟨(some 34), false, .mv (.env 4), none⟩,
             ⟨(some 35), false, .mv (.env 5), none⟩,
             ⟨(some 36), false, .bin .other .rem (.loc 35) (.val (.tr (.sc (.int .u32 10)))), none⟩,
             ⟨(some 37), false, .bin .other .add (.val (.tr (.sc (.int .u32 48)))) (.loc 36), none⟩,
             ⟨(some 38), false, .conv (.toInt .u8) (.loc 37), none⟩,
             ⟨(some 39), false, .bslice false 1 1 [(.sc (.int .u8 0))] [(0, 1, (.loc 38))], none⟩,
             ⟨(some 40), false, .append 1 1 (.loc 34) (.loc 39), none⟩,
             ⟨(some 4), true, .mv (.loc 40), none⟩]
@[simp] def r80_11 : List HOp := [⟨(some 41), false, .mv (.env 5), none⟩,
            ⟨(some 42), false, .bin .other .quo (.loc 41) (.val (.tr (.sc (.int .u32 10)))), none⟩,
            ⟨(some 5), true, .mv (.loc 42), none⟩]
@[simp] def r80_12 : List HOp := [⟨(some 32), false, .mv (.env 6), none⟩,
          ⟨(some 33), false, .bin .other .add (.loc 32) (.val (.tr (.sc (.int .i64 1)))), none⟩,
          ⟨(some 6), true, .mv (.loc 33), none⟩]
@[simp] def r80_13 : List HOp := [⟨(some 43), false, .faddr 0 (.env 1), none⟩,
      ⟨(some 44), false, .load 1 false (.loc 43), none⟩]
@[simp] def r80_14 : List HOp := [⟨(some 45), false, .mv (.env 4), none⟩,
      ⟨(some 46), false, .bslice false 1 1 [(.sc (.int .u8 0))] [(0, 1, (.val (.tr (.sc (.int .u8 45)))))], none⟩,
      ⟨(some 47), false, .append 1 1 (.loc 45) (.loc 46), none⟩,
      ⟨(some 4), true, .mv (.loc 47), none⟩]
@[simp] def r80_15 : List HOp := [⟨(some 48), false, .mv (.env 4), none⟩,
     ⟨(some 49), false, .callf 97 [(.loc 48)], none⟩]
@[simp] def r80_16 : List HOp := [⟨(some 50), false, .mv (.env 4), none⟩,
     ⟨(some 51), false, .conv .bytesStr (.loc 50), none⟩,
     ⟨(some 2), true, .mv (.loc 51), none⟩]
@[simp] def k80_3 : HCode := .seq (.region r80_3 none) .ret
@[simp] def k80_2 : HCode := .cond (.loc 13) k80_3 .skip
@[simp] def k80_7 : HCode := .cond (.loc 16) .skip (.exit 0)
@[simp] def k80_13 : HCode := .cond (.loc 31) .skip (.exit 2)
def k80_14 : HCode := .seq (.block 3 (.seq (.region r80_10 none) (.region r80_11 none))) (.region r80_12 none)
def k80_12 : HCode := .seq (.seq (.region r80_9 none) k80_13) k80_14
@[simp] def k80_11 : HCode := .block 2 (.loop k80_12)
@[simp] def k80_10 : HCode := .seq (.region r80_8 none) k80_11
@[simp] def k80_9 : HCode := .seq (.region r80_7 none) k80_10
def k80_8 : HCode := .block 1 (.seq (.region r80_6 none) k80_9)
def k80_6 : HCode := .seq (.seq (.region r80_5 none) k80_7) k80_8
@[simp] def k80_16 : HCode := .cond (.loc 44) (.region r80_14 none) .skip
@[simp] def k80_18 : HCode := .seq (.region r80_16 none) .ret
def k80_17 : HCode := .seq (.region r80_15 none) k80_18
def k80_15 : HCode := .seq (.seq (.region r80_13 none) k80_16) k80_17
@[simp] def k80_5 : HCode := .seq (.block 0 (.loop k80_6)) k80_15
def k80_4 : HCode := .seq (.region r80_4 none) k80_5
@[simp] def k80_1 : HCode := .seq (.seq (.region r80_2 none) k80_2) k80_4
@[simp] def k80_0 : HCode := .seq (.region r80_1 none) k80_1
@[simp] def fn80 : HFn := { nargs := 1, results := [.tmp 2], mode := .iso, code := (.seq (.region r80_0 none) k80_0) }
theorem c80 : cFn Tryd.prog (Hs 80) .iso 80 = some fn80 := by kernel_rfl
/- slices.Reverse[[]byte,byte] -/
@[simp] def r97_0 : List HOp := [⟨(some 4), false, .mv (.env 0), none⟩,
     ⟨(some 5), false, .len 1 (.loc 4), none⟩,
     ⟨(some 6), false, .bin .other .sub (.loc 5) (.val (.tr (.sc (.int .i64 1)))), none⟩,
     ⟨(some 2), true, .mv (.val (.tr (.sc (.int .i64 0)))), none⟩,
     ⟨(some 3), true, .mv (.loc 6), none⟩]
@[simp] def r97_1 : List HOp := [⟨(some 7), false, .mv (.env 2), none⟩,
        ⟨(some 8), false, .mv (.env 3), none⟩,
        ⟨(some 9), false, .bin .other .lss (.loc 7) (.loc 8), none⟩]
@[simp] def r97_2 : List HOp := [⟨(some 14), false, .mv (.env 0), none⟩,
        ⟨(some 15), false, .mv (.env 2), none⟩,
        ⟨(some 16), false, .mv (.env 0), none⟩,
        ⟨(some 17), false, .mv (.env 3), none⟩,
        ⟨(some 18), false, .mv (.env 0), none⟩,
        ⟨(some 19), false, .mv (.env 3), none⟩,
        ⟨(some 20), false, .iaddr 1 (.loc 18) (.loc 19), none⟩,
        ⟨(some 21), false, .load 1 false (.loc 20), none⟩,
        ⟨(some 22), false, .mv (.env 0), none⟩,
        ⟨(some 23), false, .mv (.env 2), none⟩,
        ⟨(some 24), false, .iaddr 1 (.loc 22) (.loc 23), none⟩,
        ⟨(some 25), false, .load 1 false (.loc 24), none⟩,
        ⟨(some 26), false, .iaddr 1 (.loc 14) (.loc 15), none⟩,
        ⟨none, false, .store 1 (.loc 26) (.loc 21), none⟩,
        ⟨(some 27), false, .iaddr 1 (.loc 16) (.loc 17), none⟩,
        ⟨none, false, .store 1 (.loc 27) (.loc 25), none⟩]
@[simp] def r97_3 : List HOp := [⟨(some 10), false, .mv (.env 2), none⟩,
      ⟨(some 11), false, .bin .other .add (.loc 10) (.val (.tr (.sc (.int .i64 1)))), none⟩,
      ⟨(some 12), false, .mv (.env 3), none⟩,
      ⟨(some 13), false, .bin .other .sub (.loc 12) (.val (.tr (.sc (.int .i64 1)))), none⟩,
      ⟨(some 2), true, .mv (.loc 11), none⟩,
      ⟨(some 3), true, .mv (.loc 13), none⟩]
@[simp] def k97_2 : HCode := .cond (.loc 9) .skip (.exit 0)
def k97_3 : HCode := .seq (.block 1 (.region r97_2 (some [ ( 0, [ 0 ] ) , ( 0, [ 2 ] ) , ( 0, [ 0 ] ) , ( 0, [ 3 ] ) , ( 0, [ 0 ] ) , ( 0, [ 3 ] ) , ( 1, [ 18, 19 ] ) , ( 1, [ 20 ] ) , ( 0, [ 0 ] ) , ( 0, [ 2 ] ) , ( 1, [ 22, 23 ] ) , ( 1, [ 24 ] ) , ( 2, [ 14, 15 ] ) , ( 2, [ 26, 21 ] ) , ( 2, [ 16, 17 ] ) , ( 2, [ 27, 25 ] ) ]))) (.region r97_3 none)
def k97_1 : HCode := .seq (.seq (.region r97_1 none) k97_2) k97_3
@[simp] def k97_0 : HCode := .block 0 (.loop k97_1)
@[simp] def fn97 : HFn := { nargs := 1, results := [], mode := .shared, code := (.seq (.region r97_0 none) k97_0) }
theorem c97 : cFn Tryd.prog (Hs 97) .shared 97 = some fn97 := by kernel_rfl
def fn6 : HFn := { nargs := 1, code := .bad, results := [], mode := .ext 7 }
def fn18 : HFn := { nargs := 1, code := .bad, results := [], mode := .ext 6 }
def fn32 : HFn := { nargs := 2, code := .bad, results := [], mode := .ext 13 }
noncomputable def T : FTab := fun f => (bif2 (Nat.ble f 50) (bif2 (Nat.ble f 28) (bif2 (Nat.ble f 16) (bif2 (Nat.ble f 10) (bif2 (Nat.ble f 5) (bif2 (Nat.ble f 4) (bif2 (Nat.beq f 4) (some fn4) none) (bif2 (Nat.beq f 5) (some fn5) none)) (bif2 (Nat.ble f 6) (bif2 (Nat.beq f 6) (some fn6) none) (bif2 (Nat.ble f 8) (bif2 (Nat.beq f 8) (some fn8) none) (bif2 (Nat.beq f 10) (some fn10) none)))) (bif2 (Nat.ble f 13) (bif2 (Nat.ble f 12) (bif2 (Nat.beq f 12) (some fn12) none) (bif2 (Nat.beq f 13) (some fn13) none)) (bif2 (Nat.ble f 14) (bif2 (Nat.beq f 14) (some fn14) none) (bif2 (Nat.ble f 15) (bif2 (Nat.beq f 15) (some fn15) none) (bif2 (Nat.beq f 16) (some fn16) none))))) (bif2 (Nat.ble f 22) (bif2 (Nat.ble f 18) (bif2 (Nat.ble f 17) (bif2 (Nat.beq f 17) (some fn17) none) (bif2 (Nat.beq f 18) (some fn18) none)) (bif2 (Nat.ble f 19) (bif2 (Nat.beq f 19) (some fn19) none) (bif2 (Nat.ble f 20) (bif2 (Nat.beq f 20) (some fn20) none) (bif2 (Nat.beq f 22) (some fn22) none)))) (bif2 (Nat.ble f 25) (bif2 (Nat.ble f 23) (bif2 (Nat.beq f 23) (some fn23) none) (bif2 (Nat.ble f 24) (bif2 (Nat.beq f 24) (some fn24) none) (bif2 (Nat.beq f 25) (some fn25) none))) (bif2 (Nat.ble f 26) (bif2 (Nat.beq f 26) (some fn26) none) (bif2 (Nat.ble f 27) (bif2 (Nat.beq f 27) (some fn27) none) (bif2 (Nat.beq f 28) (some fn28) none)))))) (bif2 (Nat.ble f 39) (bif2 (Nat.ble f 33) (bif2 (Nat.ble f 30) (bif2 (Nat.ble f 29) (bif2 (Nat.beq f 29) (some fn29) none) (bif2 (Nat.beq f 30) (some fn30) none)) (bif2 (Nat.ble f 31) (bif2 (Nat.beq f 31) (some fn31) none) (bif2 (Nat.ble f 32) (bif2 (Nat.beq f 32) (some fn32) none) (bif2 (Nat.beq f 33) (some fn33) none)))) (bif2 (Nat.ble f 36) (bif2 (Nat.ble f 34) (bif2 (Nat.beq f 34) (some fn34) none) (bif2 (Nat.ble f 35) (bif2 (Nat.beq f 35) (some fn35) none) (bif2 (Nat.beq f 36) (some fn36) none))) (bif2 (Nat.ble f 37) (bif2 (Nat.beq f 37) (some fn37) none) (bif2 (Nat.ble f 38) (bif2 (Nat.beq f 38) (some fn38) none) (bif2 (Nat.beq f 39) (some fn39) none))))) (bif2 (Nat.ble f 44) (bif2 (Nat.ble f 41) (bif2 (Nat.ble f 40) (bif2 (Nat.beq f 40) (some fn40) none) (bif2 (Nat.beq f 41) (some fn41) none)) (bif2 (Nat.ble f 42) (bif2 (Nat.beq f 42) (some fn42) none) (bif2 (Nat.ble f 43) (bif2 (Nat.beq f 43) (some fn43) none) (bif2 (Nat.beq f 44) (some fn44) none)))) (bif2 (Nat.ble f 47) (bif2 (Nat.ble f 45) (bif2 (Nat.beq f 45) (some fn45) none) (bif2 (Nat.ble f 46) (bif2 (Nat.beq f 46) (some fn46) none) (bif2 (Nat.beq f 47) (some fn47) none))) (bif2 (Nat.ble f 48) (bif2 (Nat.beq f 48) (some fn48) none) (bif2 (Nat.ble f 49) (bif2 (Nat.beq f 49) (some fn49) none) (bif2 (Nat.beq f 50) (some fn50) none))))))) (bif2 (Nat.ble f 74) (bif2 (Nat.ble f 62) (bif2 (Nat.ble f 57) (bif2 (Nat.ble f 54) (bif2 (Nat.ble f 53) (bif2 (Nat.beq f 53) (some fn53) none) (bif2 (Nat.beq f 54) (some fn54) none)) (bif2 (Nat.ble f 55) (bif2 (Nat.beq f 55) (some fn55) none) (bif2 (Nat.ble f 56) (bif2 (Nat.beq f 56) (some fn56) none) (bif2 (Nat.beq f 57) (some fn57) none)))) (bif2 (Nat.ble f 59) (bif2 (Nat.ble f 58) (bif2 (Nat.beq f 58) (some fn58) none) (bif2 (Nat.beq f 59) (some fn59) none)) (bif2 (Nat.ble f 60) (bif2 (Nat.beq f 60) (some fn60) none) (bif2 (Nat.ble f 61) (bif2 (Nat.beq f 61) (some fn61) none) (bif2 (Nat.beq f 62) (some fn62) none))))) (bif2 (Nat.ble f 68) (bif2 (Nat.ble f 65) (bif2 (Nat.ble f 64) (bif2 (Nat.beq f 64) (some fn64) none) (bif2 (Nat.beq f 65) (some fn65) none)) (bif2 (Nat.ble f 66) (bif2 (Nat.beq f 66) (some fn66) none) (bif2 (Nat.ble f 67) (bif2 (Nat.beq f 67) (some fn67) none) (bif2 (Nat.beq f 68) (some fn68) none)))) (bif2 (Nat.ble f 71) (bif2 (Nat.ble f 69) (bif2 (Nat.beq f 69) (some fn69) none) (bif2 (Nat.ble f 70) (bif2 (Nat.beq f 70) (some fn70) none) (bif2 (Nat.beq f 71) (some fn71) none))) (bif2 (Nat.ble f 72) (bif2 (Nat.beq f 72) (some fn72) none) (bif2 (Nat.ble f 73) (bif2 (Nat.beq f 73) (some fn73) none) (bif2 (Nat.beq f 74) (some fn74) none)))))) (bif2 (Nat.ble f 87) (bif2 (Nat.ble f 81) (bif2 (Nat.ble f 77) (bif2 (Nat.ble f 75) (bif2 (Nat.beq f 75) (some fn75) none) (bif2 (Nat.beq f 77) (some fn77) none)) (bif2 (Nat.ble f 79) (bif2 (Nat.beq f 79) (some fn79) none) (bif2 (Nat.ble f 80) (bif2 (Nat.beq f 80) (some fn80) none) (bif2 (Nat.beq f 81) (some fn81) none)))) (bif2 (Nat.ble f 84) (bif2 (Nat.ble f 82) (bif2 (Nat.beq f 82) (some fn82) none) (bif2 (Nat.ble f 83) (bif2 (Nat.beq f 83) (some fn83) none) (bif2 (Nat.beq f 84) (some fn84) none))) (bif2 (Nat.ble f 85) (bif2 (Nat.beq f 85) (some fn85) none) (bif2 (Nat.ble f 86) (bif2 (Nat.beq f 86) (some fn86) none) (bif2 (Nat.beq f 87) (some fn87) none))))) (bif2 (Nat.ble f 92) (bif2 (Nat.ble f 89) (bif2 (Nat.ble f 88) (bif2 (Nat.beq f 88) (some fn88) none) (bif2 (Nat.beq f 89) (some fn89) none)) (bif2 (Nat.ble f 90) (bif2 (Nat.beq f 90) (some fn90) none) (bif2 (Nat.ble f 91) (bif2 (Nat.beq f 91) (some fn91) none) (bif2 (Nat.beq f 92) (some fn92) none)))) (bif2 (Nat.ble f 95) (bif2 (Nat.ble f 93) (bif2 (Nat.beq f 93) (some fn93) none) (bif2 (Nat.ble f 94) (bif2 (Nat.beq f 94) (some fn94) none) (bif2 (Nat.beq f 95) (some fn95) none))) (bif2 (Nat.ble f 96) (bif2 (Nat.beq f 96) (some fn96) none) (bif2 (Nat.ble f 97) (bif2 (Nat.beq f 97) (some fn97) none) (bif2 (Nat.beq f 98) (some fn98) none))))))))
theorem T4 : T 4 = some fn4 := rfl
theorem T5 : T 5 = some fn5 := rfl
theorem T6 : T 6 = some fn6 := rfl
theorem T8 : T 8 = some fn8 := rfl
theorem T10 : T 10 = some fn10 := rfl
theorem T12 : T 12 = some fn12 := rfl
theorem T13 : T 13 = some fn13 := rfl
theorem T14 : T 14 = some fn14 := rfl
theorem T15 : T 15 = some fn15 := rfl
theorem T16 : T 16 = some fn16 := rfl
theorem T17 : T 17 = some fn17 := rfl
theorem T18 : T 18 = some fn18 := rfl
theorem T19 : T 19 = some fn19 := rfl
theorem T20 : T 20 = some fn20 := rfl
theorem T22 : T 22 = some fn22 := rfl
theorem T23 : T 23 = some fn23 := rfl
theorem T24 : T 24 = some fn24 := rfl
theorem T25 : T 25 = some fn25 := rfl
theorem T26 : T 26 = some fn26 := rfl
theorem T27 : T 27 = some fn27 := rfl
theorem T28 : T 28 = some fn28 := rfl
theorem T29 : T 29 = some fn29 := rfl
theorem T30 : T 30 = some fn30 := rfl
theorem T31 : T 31 = some fn31 := rfl
theorem T32 : T 32 = some fn32 := rfl
theorem T33 : T 33 = some fn33 := rfl
theorem T34 : T 34 = some fn34 := rfl
theorem T35 : T 35 = some fn35 := rfl
theorem T36 : T 36 = some fn36 := rfl
theorem T37 : T 37 = some fn37 := rfl
theorem T38 : T 38 = some fn38 := rfl
theorem T39 : T 39 = some fn39 := rfl
theorem T40 : T 40 = some fn40 := rfl
theorem T41 : T 41 = some fn41 := rfl
theorem T42 : T 42 = some fn42 := rfl
theorem T43 : T 43 = some fn43 := rfl
theorem T44 : T 44 = some fn44 := rfl
theorem T45 : T 45 = some fn45 := rfl
theorem T46 : T 46 = some fn46 := rfl
theorem T47 : T 47 = some fn47 := rfl
theorem T48 : T 48 = some fn48 := rfl
theorem T49 : T 49 = some fn49 := rfl
theorem T50 : T 50 = some fn50 := rfl
theorem T53 : T 53 = some fn53 := rfl
theorem T54 : T 54 = some fn54 := rfl
theorem T55 : T 55 = some fn55 := rfl
theorem T56 : T 56 = some fn56 := rfl
theorem T57 : T 57 = some fn57 := rfl
theorem T58 : T 58 = some fn58 := rfl
theorem T59 : T 59 = some fn59 := rfl
theorem T60 : T 60 = some fn60 := rfl
theorem T61 : T 61 = some fn61 := rfl
theorem T62 : T 62 = some fn62 := rfl
theorem T64 : T 64 = some fn64 := rfl
theorem T65 : T 65 = some fn65 := rfl
theorem T66 : T 66 = some fn66 := rfl
theorem T67 : T 67 = some fn67 := rfl
theorem T68 : T 68 = some fn68 := rfl
theorem T69 : T 69 = some fn69 := rfl
theorem T70 : T 70 = some fn70 := rfl
theorem T71 : T 71 = some fn71 := rfl
theorem T72 : T 72 = some fn72 := rfl
theorem T73 : T 73 = some fn73 := rfl
theorem T74 : T 74 = some fn74 := rfl
theorem T75 : T 75 = some fn75 := rfl
theorem T77 : T 77 = some fn77 := rfl
theorem T79 : T 79 = some fn79 := rfl
theorem T80 : T 80 = some fn80 := rfl
theorem T81 : T 81 = some fn81 := rfl
theorem T82 : T 82 = some fn82 := rfl
theorem T83 : T 83 = some fn83 := rfl
theorem T84 : T 84 = some fn84 := rfl
theorem T85 : T 85 = some fn85 := rfl
theorem T86 : T 86 = some fn86 := rfl
theorem T87 : T 87 = some fn87 := rfl
theorem T88 : T 88 = some fn88 := rfl
theorem T89 : T 89 = some fn89 := rfl
theorem T90 : T 90 = some fn90 := rfl
theorem T91 : T 91 = some fn91 := rfl
theorem T92 : T 92 = some fn92 := rfl
theorem T93 : T 93 = some fn93 := rfl
theorem T94 : T 94 = some fn94 := rfl
theorem T95 : T 95 = some fn95 := rfl
theorem T96 : T 96 = some fn96 := rfl
theorem T97 : T 97 = some fn97 := rfl
theorem T98 : T 98 = some fn98 := rfl
theorem tabOk {Gd : Ground} (hg : GroundOk Gd) (he : ∀ f n k, Te f = some (n, k) → ExtOk Gd Tryd.prog f k) : TabOk Gd Tryd.prog T := by
  refine ⟨hg, fun f hfn h => ?_⟩
  unfold T at h
  rcases bif2_or h with ⟨_, h⟩ | ⟨_, h⟩
  · rcases bif2_or h with ⟨_, h⟩ | ⟨_, h⟩
    · rcases bif2_or h with ⟨_, h⟩ | ⟨_, h⟩
      · rcases bif2_or h with ⟨_, h⟩ | ⟨_, h⟩
        · rcases bif2_or h with ⟨_, h⟩ | ⟨_, h⟩
          · rcases bif2_or h with ⟨_, h⟩ | ⟨_, h⟩
            · obtain ⟨hb, h⟩ := bif2_some h
              cases h
              rw [Nat.eq_of_beq_eq_true hb]
              exact .inl ⟨fun k hk => (by cases hk), Hs 4, c4⟩
            · obtain ⟨hb, h⟩ := bif2_some h
              cases h
              rw [Nat.eq_of_beq_eq_true hb]
              exact .inl ⟨fun k hk => (by cases hk), Hs 5, c5⟩
          · rcases bif2_or h with ⟨_, h⟩ | ⟨_, h⟩
            · obtain ⟨hb, h⟩ := bif2_some h
              cases h
              rw [Nat.eq_of_beq_eq_true hb]
              exact .inr ⟨7, rfl, he 6 _ _ rfl⟩
            · rcases bif2_or h with ⟨_, h⟩ | ⟨_, h⟩
              · obtain ⟨hb, h⟩ := bif2_some h
                cases h
                rw [Nat.eq_of_beq_eq_true hb]
                exact .inl ⟨fun k hk => (by cases hk), Hs 8, c8⟩
              · obtain ⟨hb, h⟩ := bif2_some h
                cases h
                rw [Nat.eq_of_beq_eq_true hb]
                exact .inl ⟨fun k hk => (by cases hk), Hs 10, c10⟩
        · rcases bif2_or h with ⟨_, h⟩ | ⟨_, h⟩
          · rcases bif2_or h with ⟨_, h⟩ | ⟨_, h⟩
            · obtain ⟨hb, h⟩ := bif2_some h
              cases h
              rw [Nat.eq_of_beq_eq_true hb]
              exact .inl ⟨fun k hk => (by cases hk), Hs 12, c12⟩
            · obtain ⟨hb, h⟩ := bif2_some h
              cases h
              rw [Nat.eq_of_beq_eq_true hb]
              exact .inl ⟨fun k hk => (by cases hk), Hs 13, c13⟩
          · rcases bif2_or h with ⟨_, h⟩ | ⟨_, h⟩
            · obtain ⟨hb, h⟩ := bif2_some h
              cases h
              rw [Nat.eq_of_beq_eq_true hb]
              exact .inl ⟨fun k hk => (by cases hk), Hs 14, c14⟩
            · rcases bif2_or h with ⟨_, h⟩ | ⟨_, h⟩
              · obtain ⟨hb, h⟩ := bif2_some h
                cases h
                rw [Nat.eq_of_beq_eq_true hb]
                exact .inl ⟨fun k hk => (by cases hk), Hs 15, c15⟩
              · obtain ⟨hb, h⟩ := bif2_some h
                cases h
                rw [Nat.eq_of_beq_eq_true hb]
                exact .inl ⟨fun k hk => (by cases hk), Hs 16, c16⟩
      · rcases bif2_or h with ⟨_, h⟩ | ⟨_, h⟩
        · rcases bif2_or h with ⟨_, h⟩ | ⟨_, h⟩
          · rcases bif2_or h with ⟨_, h⟩ | ⟨_, h⟩
            · obtain ⟨hb, h⟩ := bif2_some h
              cases h
              rw [Nat.eq_of_beq_eq_true hb]
              exact .inl ⟨fun k hk => (by cases hk), Hs 17, c17⟩
            · obtain ⟨hb, h⟩ := bif2_some h
              cases h
              rw [Nat.eq_of_beq_eq_true hb]
              exact .inr ⟨6, rfl, he 18 _ _ rfl⟩
          · rcases bif2_or h with ⟨_, h⟩ | ⟨_, h⟩
            · obtain ⟨hb, h⟩ := bif2_some h
              cases h
              rw [Nat.eq_of_beq_eq_true hb]
              exact .inl ⟨fun k hk => (by cases hk), Hs 19, c19⟩
            · rcases bif2_or h with ⟨_, h⟩ | ⟨_, h⟩
              · obtain ⟨hb, h⟩ := bif2_some h
                cases h
                rw [Nat.eq_of_beq_eq_true hb]
                exact .inl ⟨fun k hk => (by cases hk), Hs 20, c20⟩
              · obtain ⟨hb, h⟩ := bif2_some h
                cases h
                rw [Nat.eq_of_beq_eq_true hb]
                exact .inl ⟨fun k hk => (by cases hk), Hs 22, c22⟩
        · rcases bif2_or h with ⟨_, h⟩ | ⟨_, h⟩
          · rcases bif2_or h with ⟨_, h⟩ | ⟨_, h⟩
            · obtain ⟨hb, h⟩ := bif2_some h
              cases h
              rw [Nat.eq_of_beq_eq_true hb]
              exact .inl ⟨fun k hk => (by cases hk), Hs 23, c23⟩
            · rcases bif2_or h with ⟨_, h⟩ | ⟨_, h⟩
              · obtain ⟨hb, h⟩ := bif2_some h
                cases h
                rw [Nat.eq_of_beq_eq_true hb]
                exact .inl ⟨fun k hk => (by cases hk), Hs 24, c24⟩
              · obtain ⟨hb, h⟩ := bif2_some h
                cases h
                rw [Nat.eq_of_beq_eq_true hb]
                exact .inl ⟨fun k hk => (by cases hk), Hs 25, c25⟩
          · rcases bif2_or h with ⟨_, h⟩ | ⟨_, h⟩
            · obtain ⟨hb, h⟩ := bif2_some h
              cases h
              rw [Nat.eq_of_beq_eq_true hb]
              exact .inl ⟨fun k hk => (by cases hk), Hs 26, c26⟩
            · rcases bif2_or h with ⟨_, h⟩ | ⟨_, h⟩
              · obtain ⟨hb, h⟩ := bif2_some h
                cases h
                rw [Nat.eq_of_beq_eq_true hb]
                exact .inl ⟨fun k hk => (by cases hk), Hs 27, c27⟩
              · obtain ⟨hb, h⟩ := bif2_some h
                cases h
                rw [Nat.eq_of_beq_eq_true hb]
                exact .inl ⟨fun k hk => (by cases hk), Hs 28, c28⟩
    · rcases bif2_or h with ⟨_, h⟩ | ⟨_, h⟩
      · rcases bif2_or h with ⟨_, h⟩ | ⟨_, h⟩
        · rcases bif2_or h with ⟨_, h⟩ | ⟨_, h⟩
          · rcases bif2_or h with ⟨_, h⟩ | ⟨_, h⟩
            · obtain ⟨hb, h⟩ := bif2_some h
              cases h
              rw [Nat.eq_of_beq_eq_true hb]
              exact .inl ⟨fun k hk => (by cases hk), Hs 29, c29⟩
            · obtain ⟨hb, h⟩ := bif2_some h
              cases h
              rw [Nat.eq_of_beq_eq_true hb]
              exact .inl ⟨fun k hk => (by cases hk), Hs 30, c30⟩
          · rcases bif2_or h with ⟨_, h⟩ | ⟨_, h⟩
            · obtain ⟨hb, h⟩ := bif2_some h
              cases h
              rw [Nat.eq_of_beq_eq_true hb]
              exact .inl ⟨fun k hk => (by cases hk), Hs 31, c31⟩
            · rcases bif2_or h with ⟨_, h⟩ | ⟨_, h⟩
              · obtain ⟨hb, h⟩ := bif2_some h
                cases h
                rw [Nat.eq_of_beq_eq_true hb]
                exact .inr ⟨13, rfl, he 32 _ _ rfl⟩
              · obtain ⟨hb, h⟩ := bif2_some h
                cases h
                rw [Nat.eq_of_beq_eq_true hb]
                exact .inl ⟨fun k hk => (by cases hk), Hs 33, c33⟩
        · rcases bif2_or h with ⟨_, h⟩ | ⟨_, h⟩
          · rcases bif2_or h with ⟨_, h⟩ | ⟨_, h⟩
            · obtain ⟨hb, h⟩ := bif2_some h
              cases h
              rw [Nat.eq_of_beq_eq_true hb]
              exact .inl ⟨fun k hk => (by cases hk), Hs 34, c34⟩
            · rcases bif2_or h with ⟨_, h⟩ | ⟨_, h⟩
              · obtain ⟨hb, h⟩ := bif2_some h
                cases h
                rw [Nat.eq_of_beq_eq_true hb]
                exact .inl ⟨fun k hk => (by cases hk), Hs 35, c35⟩
              · obtain ⟨hb, h⟩ := bif2_some h
                cases h
                rw [Nat.eq_of_beq_eq_true hb]
                exact .inl ⟨fun k hk => (by cases hk), Hs 36, c36⟩
          · rcases bif2_or h with ⟨_, h⟩ | ⟨_, h⟩
            · obtain ⟨hb, h⟩ := bif2_some h
              cases h
              rw [Nat.eq_of_beq_eq_true hb]
              exact .inl ⟨fun k hk => (by cases hk), Hs 37, c37⟩
            · rcases bif2_or h with ⟨_, h⟩ | ⟨_, h⟩
              · obtain ⟨hb, h⟩ := bif2_some h
                cases h
                rw [Nat.eq_of_beq_eq_true hb]
                exact .inl ⟨fun k hk => (by cases hk), Hs 38, c38⟩
              · obtain ⟨hb, h⟩ := bif2_some h
                cases h
                rw [Nat.eq_of_beq_eq_true hb]
                exact .inl ⟨fun k hk => (by cases hk), Hs 39, c39⟩
      · rcases bif2_or h with ⟨_, h⟩ | ⟨_, h⟩
        · rcases bif2_or h with ⟨_, h⟩ | ⟨_, h⟩
          · rcases bif2_or h with ⟨_, h⟩ | ⟨_, h⟩
            · obtain ⟨hb, h⟩ := bif2_some h
              cases h
              rw [Nat.eq_of_beq_eq_true hb]
              exact .inl ⟨fun k hk => (by cases hk), Hs 40, c40⟩
            · obtain ⟨hb, h⟩ := bif2_some h
              cases h
              rw [Nat.eq_of_beq_eq_true hb]
              exact .inl ⟨fun k hk => (by cases hk), Hs 41, c41⟩
          · rcases bif2_or h with ⟨_, h⟩ | ⟨_, h⟩
            · obtain ⟨hb, h⟩ := bif2_some h
              cases h
              rw [Nat.eq_of_beq_eq_true hb]
              exact .inl ⟨fun k hk => (by cases hk), Hs 42, c42⟩
            · rcases bif2_or h with ⟨_, h⟩ | ⟨_, h⟩
              · obtain ⟨hb, h⟩ := bif2_some h
                cases h
                rw [Nat.eq_of_beq_eq_true hb]
                exact .inl ⟨fun k hk => (by cases hk), Hs 43, c43⟩
              · obtain ⟨hb, h⟩ := bif2_some h
                cases h
                rw [Nat.eq_of_beq_eq_true hb]
                exact .inl ⟨fun k hk => (by cases hk), Hs 44, c44⟩
        · rcases bif2_or h with ⟨_, h⟩ | ⟨_, h⟩
          · rcases bif2_or h with ⟨_, h⟩ | ⟨_, h⟩
            · obtain ⟨hb, h⟩ := bif2_some h
              cases h
              rw [Nat.eq_of_beq_eq_true hb]
              exact .inl ⟨fun k hk => (by cases hk), Hs 45, c45⟩
            · rcases bif2_or h with ⟨_, h⟩ | ⟨_, h⟩
              · obtain ⟨hb, h⟩ := bif2_some h
                cases h
                rw [Nat.eq_of_beq_eq_true hb]
                exact .inl ⟨fun k hk => (by cases hk), Hs 46, c46⟩
              · obtain ⟨hb, h⟩ := bif2_some h
                cases h
                rw [Nat.eq_of_beq_eq_true hb]
                exact .inl ⟨fun k hk => (by cases hk), Hs 47, c47⟩
          · rcases bif2_or h with ⟨_, h⟩ | ⟨_, h⟩
            · obtain ⟨hb, h⟩ := bif2_some h
              cases h
              rw [Nat.eq_of_beq_eq_true hb]
              exact .inl ⟨fun k hk => (by cases hk), Hs 48, c48⟩
            · rcases bif2_or h with ⟨_, h⟩ | ⟨_, h⟩
              · obtain ⟨hb, h⟩ := bif2_some h
                cases h
                rw [Nat.eq_of_beq_eq_true hb]
                exact .inl ⟨fun k hk => (by cases hk), Hs 49, c49⟩
              · obtain ⟨hb, h⟩ := bif2_some h
                cases h
                rw [Nat.eq_of_beq_eq_true hb]
                exact .inl ⟨fun k hk => (by cases hk), Hs 50, c50⟩
  · rcases bif2_or h with ⟨_, h⟩ | ⟨_, h⟩
    · rcases bif2_or h with ⟨_, h⟩ | ⟨_, h⟩
      · rcases bif2_or h with ⟨_, h⟩ | ⟨_, h⟩
        · rcases bif2_or h with ⟨_, h⟩ | ⟨_, h⟩
          · rcases bif2_or h with ⟨_, h⟩ | ⟨_, h⟩
            · obtain ⟨hb, h⟩ := bif2_some h
              cases h
              rw [Nat.eq_of_beq_eq_true hb]
              exact .inl ⟨fun k hk => (by cases hk), Hs 53, c53⟩
            · obtain ⟨hb, h⟩ := bif2_some h
              cases h
              rw [Nat.eq_of_beq_eq_true hb]
              exact .inl ⟨fun k hk => (by cases hk), Hs 54, c54⟩
          · rcases bif2_or h with ⟨_, h⟩ | ⟨_, h⟩
            · obtain ⟨hb, h⟩ := bif2_some h
              cases h
              rw [Nat.eq_of_beq_eq_true hb]
              exact .inl ⟨fun k hk => (by cases hk), Hs 55, c55⟩
            · rcases bif2_or h with ⟨_, h⟩ | ⟨_, h⟩
              · obtain ⟨hb, h⟩ := bif2_some h
                cases h
                rw [Nat.eq_of_beq_eq_true hb]
                exact .inl ⟨fun k hk => (by cases hk), Hs 56, c56⟩
              · obtain ⟨hb, h⟩ := bif2_some h
                cases h
                rw [Nat.eq_of_beq_eq_true hb]
                exact .inl ⟨fun k hk => (by cases hk), Hs 57, c57⟩
        · rcases bif2_or h with ⟨_, h⟩ | ⟨_, h⟩
          · rcases bif2_or h with ⟨_, h⟩ | ⟨_, h⟩
            · obtain ⟨hb, h⟩ := bif2_some h
              cases h
              rw [Nat.eq_of_beq_eq_true hb]
              exact .inl ⟨fun k hk => (by cases hk), Hs 58, c58⟩
            · obtain ⟨hb, h⟩ := bif2_some h
              cases h
              rw [Nat.eq_of_beq_eq_true hb]
              exact .inl ⟨fun k hk => (by cases hk), Hs 59, c59⟩
          · rcases bif2_or h with ⟨_, h⟩ | ⟨_, h⟩
            · obtain ⟨hb, h⟩ := bif2_some h
              cases h
              rw [Nat.eq_of_beq_eq_true hb]
              exact .inl ⟨fun k hk => (by cases hk), Hs 60, c60⟩
            · rcases bif2_or h with ⟨_, h⟩ | ⟨_, h⟩
              · obtain ⟨hb, h⟩ := bif2_some h
                cases h
                rw [Nat.eq_of_beq_eq_true hb]
                exact .inl ⟨fun k hk => (by cases hk), Hs 61, c61⟩
              · obtain ⟨hb, h⟩ := bif2_some h
                cases h
                rw [Nat.eq_of_beq_eq_true hb]
                exact .inl ⟨fun k hk => (by cases hk), Hs 62, c62⟩
      · rcases bif2_or h with ⟨_, h⟩ | ⟨_, h⟩
        · rcases bif2_or h with ⟨_, h⟩ | ⟨_, h⟩
          · rcases bif2_or h with ⟨_, h⟩ | ⟨_, h⟩
            · obtain ⟨hb, h⟩ := bif2_some h
              cases h
              rw [Nat.eq_of_beq_eq_true hb]
              exact .inl ⟨fun k hk => (by cases hk), Hs 64, c64⟩
            · obtain ⟨hb, h⟩ := bif2_some h
              cases h
              rw [Nat.eq_of_beq_eq_true hb]
              exact .inl ⟨fun k hk => (by cases hk), Hs 65, c65⟩
          · rcases bif2_or h with ⟨_, h⟩ | ⟨_, h⟩
            · obtain ⟨hb, h⟩ := bif2_some h
              cases h
              rw [Nat.eq_of_beq_eq_true hb]
              exact .inl ⟨fun k hk => (by cases hk), Hs 66, c66⟩
            · rcases bif2_or h with ⟨_, h⟩ | ⟨_, h⟩
              · obtain ⟨hb, h⟩ := bif2_some h
                cases h
                rw [Nat.eq_of_beq_eq_true hb]
                exact .inl ⟨fun k hk => (by cases hk), Hs 67, c67⟩
              · obtain ⟨hb, h⟩ := bif2_some h
                cases h
                rw [Nat.eq_of_beq_eq_true hb]
                exact .inl ⟨fun k hk => (by cases hk), Hs 68, c68⟩
        · rcases bif2_or h with ⟨_, h⟩ | ⟨_, h⟩
          · rcases bif2_or h with ⟨_, h⟩ | ⟨_, h⟩
            · obtain ⟨hb, h⟩ := bif2_some h
              cases h
              rw [Nat.eq_of_beq_eq_true hb]
              exact .inl ⟨fun k hk => (by cases hk), Hs 69, c69⟩
            · rcases bif2_or h with ⟨_, h⟩ | ⟨_, h⟩
              · obtain ⟨hb, h⟩ := bif2_some h
                cases h
                rw [Nat.eq_of_beq_eq_true hb]
                exact .inl ⟨fun k hk => (by cases hk), Hs 70, c70⟩
              · obtain ⟨hb, h⟩ := bif2_some h
                cases h
                rw [Nat.eq_of_beq_eq_true hb]
                exact .inl ⟨fun k hk => (by cases hk), Hs 71, c71⟩
          · rcases bif2_or h with ⟨_, h⟩ | ⟨_, h⟩
            · obtain ⟨hb, h⟩ := bif2_some h
              cases h
              rw [Nat.eq_of_beq_eq_true hb]
              exact .inl ⟨fun k hk => (by cases hk), Hs 72, c72⟩
            · rcases bif2_or h with ⟨_, h⟩ | ⟨_, h⟩
              · obtain ⟨hb, h⟩ := bif2_some h
                cases h
                rw [Nat.eq_of_beq_eq_true hb]
                exact .inl ⟨fun k hk => (by cases hk), Hs 73, c73⟩
              · obtain ⟨hb, h⟩ := bif2_some h
                cases h
                rw [Nat.eq_of_beq_eq_true hb]
                exact .inl ⟨fun k hk => (by cases hk), Hs 74, c74⟩
    · rcases bif2_or h with ⟨_, h⟩ | ⟨_, h⟩
      · rcases bif2_or h with ⟨_, h⟩ | ⟨_, h⟩
        · rcases bif2_or h with ⟨_, h⟩ | ⟨_, h⟩
          · rcases bif2_or h with ⟨_, h⟩ | ⟨_, h⟩
            · obtain ⟨hb, h⟩ := bif2_some h
              cases h
              rw [Nat.eq_of_beq_eq_true hb]
              exact .inl ⟨fun k hk => (by cases hk), Hs 75, c75⟩
            · obtain ⟨hb, h⟩ := bif2_some h
              cases h
              rw [Nat.eq_of_beq_eq_true hb]
              exact .inl ⟨fun k hk => (by cases hk), Hs 77, c77⟩
          · rcases bif2_or h with ⟨_, h⟩ | ⟨_, h⟩
            · obtain ⟨hb, h⟩ := bif2_some h
              cases h
              rw [Nat.eq_of_beq_eq_true hb]
              exact .inl ⟨fun k hk => (by cases hk), Hs 79, c79⟩
            · rcases bif2_or h with ⟨_, h⟩ | ⟨_, h⟩
              · obtain ⟨hb, h⟩ := bif2_some h
                cases h
                rw [Nat.eq_of_beq_eq_true hb]
                exact .inl ⟨fun k hk => (by cases hk), Hs 80, c80⟩
              · obtain ⟨hb, h⟩ := bif2_some h
                cases h
                rw [Nat.eq_of_beq_eq_true hb]
                exact .inl ⟨fun k hk => (by cases hk), Hs 81, c81⟩
        · rcases bif2_or h with ⟨_, h⟩ | ⟨_, h⟩
          · rcases bif2_or h with ⟨_, h⟩ | ⟨_, h⟩
            · obtain ⟨hb, h⟩ := bif2_some h
              cases h
              rw [Nat.eq_of_beq_eq_true hb]
              exact .inl ⟨fun k hk => (by cases hk), Hs 82, c82⟩
            · rcases bif2_or h with ⟨_, h⟩ | ⟨_, h⟩
              · obtain ⟨hb, h⟩ := bif2_some h
                cases h
                rw [Nat.eq_of_beq_eq_true hb]
                exact .inl ⟨fun k hk => (by cases hk), Hs 83, c83⟩
              · obtain ⟨hb, h⟩ := bif2_some h
                cases h
                rw [Nat.eq_of_beq_eq_true hb]
                exact .inl ⟨fun k hk => (by cases hk), Hs 84, c84⟩
          · rcases bif2_or h with ⟨_, h⟩ | ⟨_, h⟩
            · obtain ⟨hb, h⟩ := bif2_some h
              cases h
              rw [Nat.eq_of_beq_eq_true hb]
              exact .inl ⟨fun k hk => (by cases hk), Hs 85, c85⟩
            · rcases bif2_or h with ⟨_, h⟩ | ⟨_, h⟩
              · obtain ⟨hb, h⟩ := bif2_some h
                cases h
                rw [Nat.eq_of_beq_eq_true hb]
                exact .inl ⟨fun k hk => (by cases hk), Hs 86, c86⟩
              · obtain ⟨hb, h⟩ := bif2_some h
                cases h
                rw [Nat.eq_of_beq_eq_true hb]
                exact .inl ⟨fun k hk => (by cases hk), Hs 87, c87⟩
      · rcases bif2_or h with ⟨_, h⟩ | ⟨_, h⟩
        · rcases bif2_or h with ⟨_, h⟩ | ⟨_, h⟩
          · rcases bif2_or h with ⟨_, h⟩ | ⟨_, h⟩
            · obtain ⟨hb, h⟩ := bif2_some h
              cases h
              rw [Nat.eq_of_beq_eq_true hb]
              exact .inl ⟨fun k hk => (by cases hk), Hs 88, c88⟩
            · obtain ⟨hb, h⟩ := bif2_some h
              cases h
              rw [Nat.eq_of_beq_eq_true hb]
              exact .inl ⟨fun k hk => (by cases hk), Hs 89, c89⟩
          · rcases bif2_or h with ⟨_, h⟩ | ⟨_, h⟩
            · obtain ⟨hb, h⟩ := bif2_some h
              cases h
              rw [Nat.eq_of_beq_eq_true hb]
              exact .inl ⟨fun k hk => (by cases hk), Hs 90, c90⟩
            · rcases bif2_or h with ⟨_, h⟩ | ⟨_, h⟩
              · obtain ⟨hb, h⟩ := bif2_some h
                cases h
                rw [Nat.eq_of_beq_eq_true hb]
                exact .inl ⟨fun k hk => (by cases hk), Hs 91, c91⟩
              · obtain ⟨hb, h⟩ := bif2_some h
                cases h
                rw [Nat.eq_of_beq_eq_true hb]
                exact .inl ⟨fun k hk => (by cases hk), Hs 92, c92⟩
        · rcases bif2_or h with ⟨_, h⟩ | ⟨_, h⟩
          · rcases bif2_or h with ⟨_, h⟩ | ⟨_, h⟩
            · obtain ⟨hb, h⟩ := bif2_some h
              cases h
              rw [Nat.eq_of_beq_eq_true hb]
              exact .inl ⟨fun k hk => (by cases hk), Hs 93, c93⟩
            · rcases bif2_or h with ⟨_, h⟩ | ⟨_, h⟩
              · obtain ⟨hb, h⟩ := bif2_some h
                cases h
                rw [Nat.eq_of_beq_eq_true hb]
                exact .inl ⟨fun k hk => (by cases hk), Hs 94, c94⟩
              · obtain ⟨hb, h⟩ := bif2_some h
                cases h
                rw [Nat.eq_of_beq_eq_true hb]
                exact .inl ⟨fun k hk => (by cases hk), Hs 95, c95⟩
          · rcases bif2_or h with ⟨_, h⟩ | ⟨_, h⟩
            · obtain ⟨hb, h⟩ := bif2_some h
              cases h
              rw [Nat.eq_of_beq_eq_true hb]
              exact .inl ⟨fun k hk => (by cases hk), Hs 96, c96⟩
            · rcases bif2_or h with ⟨_, h⟩ | ⟨_, h⟩
              · obtain ⟨hb, h⟩ := bif2_some h
                cases h
                rw [Nat.eq_of_beq_eq_true hb]
                exact .inl ⟨fun k hk => (by cases hk), Hs 97, c97⟩
              · obtain ⟨hb, h⟩ := bif2_some h
                cases h
                rw [Nat.eq_of_beq_eq_true hb]
                exact .inl ⟨fun k hk => (by cases hk), Hs 98, c98⟩
end Go.Proofs.YtajcohdhioafiaaDoor.AM.Vl
