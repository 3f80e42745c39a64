/- The functions that the scanner reaches, each checked against the translation, part one. -/
import Derived.Test.YtbdebcmklaooaaaDoorAm4
import Derived.Test.YtbdebcmklaooaaaDoorProg
import Derived.KernelRfl
set_option maxRecDepth 1000000
set_option linter.unusedVariables false
set_option linter.unusedSimpArgs false
namespace Go.Proofs.YtbdebcmklaooaaaDoor.AM.Sa
open Go.Proofs
/-- What was chosen for each function. -/
def Hq (f : Nat) : List Nat :=  []
def Hb (f : Nat) : List Nat :=  []
def Hl (f : Nat) : List Nat :=  []
def Ho (f d : Nat) : Bool := if Nat.beq f 7 then true else if Nat.beq f 33 then true else false
def Hs (f : Nat) : Hints := { own := fun d => Ho f d, qa := fun d => memN d (Hq f), tu := fun _ => true, bt := fun d => memN d (Hb f), ld := fun d => memN d (Hl f) }
/-- Functions by what they answer: how many arguments, which. -/
def Te (f : Nat) : Option (Nat × Nat) := if Nat.beq f 50 then some (2, 11) else if Nat.beq f 51 then some (2, 12) else if Nat.beq f 31 then some (2, 0) else if Nat.beq f 84 then some (2, 16) else if Nat.beq f 46 then some (1, 15) else if Nat.beq f 56 then some (1, 10) else if Nat.beq f 28 then some (3, 17) else none
/- sterling/sterlinglaw5.ScanAll -/
@[simp] def r3_0 : List HOp := [⟨(some 2), true, .mv (.val (.tr (.sc (.bool false)))), none⟩]
@[simp] def r3_1 : List HOp := [⟨(some 10), false, .callf 7 [], none⟩,
     ⟨(some 3), true, .mv (.loc 10), none⟩]
@[simp] def r3_2 : List HOp := [⟨(some 11), false, .mv (.env 0), none⟩,
     ⟨(some 12), false, .callf 8 [(.loc 11), (.val (.tr (.sc (.int .i64 600))))], none⟩,
     ⟨(some 0), true, .mv (.loc 12), none⟩]
@[simp] def r3_3 : List HOp := [⟨(some 14), false, .mv (.env 0), none⟩,
     ⟨(some 15), false, .callf 9 [(.loc 14)], none⟩,
     ⟨(some 13), false, .mv (.loc 15), none⟩,
     ⟨(some 16), false, .extract (.loc 13) 0, none⟩,
     ⟨(some 17), false, .extract (.loc 13) 1, none⟩,
     ⟨(some 18), false, .extract (.loc 13) 2, none⟩,
     ⟨(some 4), true, .mv (.loc 16), none⟩,
     ⟨(some 5), true, .mv (.loc 17), none⟩,
     ⟨(some 6), true, .mv (.loc 18), none⟩]
@[simp] def r3_4 : List HOp := [⟨(some 20), false, .mv (.env 0), none⟩,
     ⟨(some 21), false, .callf 10 [(.loc 20)], none⟩,
     ⟨(some 19), false, .mv (.loc 21), none⟩,
     ⟨(some 22), false, .extract (.loc 19) 0, none⟩,
     ⟨(some 23), false, .extract (.loc 19) 1, none⟩,
     ⟨(some 24), false, .extract (.loc 19) 2, none⟩,
     ⟨(some 7), true, .mv (.loc 22), none⟩,
     ⟨(some 8), true, .mv (.loc 23), none⟩,
     ⟨(some 9), true, .mv (.loc 24), none⟩]
@[simp] def r3_5 : List HOp := [⟨(some 25), false, .mv (.env 6), none⟩,
      ⟨(some 26), false, .mv (.env 9), none⟩,
      ⟨(some 27), false, .bin .bool .neq (.loc 25) (.loc 26), none⟩]
@[simp] def r3_6 : List HOp := [⟨(some 2), true, .mv (.val (.tr (.sc (.bool false)))), none⟩]
@[simp] def r3_7 : List HOp := [⟨(some 28), false, .mv (.env 6), none⟩,
      ⟨(some 29), false, .un .not (.loc 28), none⟩]
@[simp] def r3_8 : List HOp := [⟨(some 30), false, .mv (.env 3), none⟩,
       ⟨(some 31), false, .mv (.loc 30), none⟩,
       ⟨(some 32), false, .mv (.env 4), some ((.loc 31), true)⟩,
       ⟨(some 33), false, .len 1 (.loc 32), some ((.loc 31), true)⟩,
       ⟨(some 34), false, .bin .other .eql (.loc 33) (.val (.tr (.sc (.int .i64 0)))), some ((.loc 31), true)⟩,
       ⟨(some 35), false, .pick (.loc 31) (.loc 34) (.val (.tr (.sc (.bool false)))), none⟩,
       ⟨(some 36), false, .mv (.loc 35), none⟩,
       ⟨(some 37), false, .mv (.env 5), some ((.loc 36), true)⟩,
       ⟨(some 38), false, .mv (.env 8), some ((.loc 36), true)⟩,
       ⟨(some 39), false, .bin .other .geq (.loc 37) (.loc 38), some ((.loc 36), true)⟩,
       ⟨(some 40), false, .pick (.loc 36) (.loc 39) (.val (.tr (.sc (.bool false)))), none⟩,
       ⟨(some 41), false, .mv (.loc 40), none⟩,
       ⟨(some 42), false, .mv (.env 5), some ((.loc 41), true)⟩,
       ⟨(some 43), false, .mv (.env 0), some ((.loc 41), true)⟩,
       ⟨(some 44), false, .len 1 (.loc 43), some ((.loc 41), true)⟩,
       ⟨(some 45), false, .bin .other .leq (.loc 42) (.loc 44), some ((.loc 41), true)⟩,
       ⟨(some 46), false, .pick (.loc 41) (.loc 45) (.val (.tr (.sc (.bool false)))), none⟩,
       ⟨(some 2), true, .mv (.loc 46), none⟩]
@[simp] def r3_9 : List HOp := [⟨(some 47), false, .mv (.env 3), none⟩,
     ⟨(some 48), false, .mv (.loc 47), none⟩,
     ⟨(some 49), false, .mv (.env 5), some ((.loc 48), true)⟩,
     ⟨(some 50), false, .bin .other .eql (.loc 49) (.val (.tr (.sc (.int .i64 0)))), some ((.loc 48), true)⟩,
     ⟨(some 51), false, .pick (.loc 48) (.loc 50) (.val (.tr (.sc (.bool false)))), none⟩,
     ⟨(some 52), false, .mv (.loc 51), none⟩,
     ⟨(some 53), false, .mv (.env 4), some ((.loc 52), true)⟩,
     ⟨(some 54), false, .mv (.env 7), some ((.loc 52), true)⟩,
     ⟨(some 55), false, .callf 11 [(.loc 53), (.loc 54)], some ((.loc 52), true)⟩,
     ⟨(some 56), false, .pick (.loc 52) (.loc 55) (.val (.tr (.sc (.bool false)))), none⟩,
     ⟨(some 2), true, .mv (.loc 56), none⟩]
@[simp] def k3_6 : HCode := .seq (.region r3_6 none) .ret
@[simp] def k3_5 : HCode := .cond (.loc 27) k3_6 .skip
@[simp] def k3_9 : HCode := .seq (.region r3_8 none) .ret
@[simp] def k3_8 : HCode := .cond (.loc 29) k3_9 .skip
def k3_10 : HCode := .seq (.region r3_9 none) .ret
def k3_7 : HCode := .seq (.seq (.region r3_7 none) k3_8) k3_10
@[simp] def k3_4 : HCode := .seq (.seq (.region r3_5 none) k3_5) k3_7
@[simp] def k3_3 : HCode := .seq (.region r3_4 none) k3_4
@[simp] def k3_2 : HCode := .seq (.region r3_3 none) k3_3
@[simp] def k3_1 : HCode := .seq (.region r3_2 none) k3_2
@[simp] def k3_0 : HCode := .seq (.region r3_1 none) k3_1
@[simp] def fn3 : HFn := { nargs := 1, results := [.tmp 2], mode := .shared, code := (.seq (.region r3_0 none) k3_0) }
theorem c3 : cFn Tryd.prog (Hs 3) .shared 3 = some fn3 := by kernel_rfl
/- sterling/sterlinglaw5.begun -/
@[simp] def r7_0 : List HOp := [⟨(some 0), true, .mv (.val (.tr (.sc (.bool false)))), none⟩]
@[simp] def r7_1 : List HOp := [⟨(some 7), false, .bslice true 16 1 [(.sc (.int .u8 0))] [(0, 1, (.val (.tr (.sc (.int .u8 120))))), (1, 1, (.val (.tr (.sc (.int .u8 32))))), (2, 1, (.val (.tr (.sc (.int .u8 58))))), (3, 1, (.val (.tr (.sc (.int .u8 61))))), (4, 1, (.val (.tr (.sc (.int .u8 32))))), (5, 1, (.val (.tr (.sc (.int .u8 49))))), (6, 1, (.val (.tr (.sc (.int .u8 46))))), (7, 1, (.val (.tr (.sc (.int .u8 53))))), (8, 1, (.val (.tr (.sc (.int .u8 101))))), (9, 1, (.val (.tr (.sc (.int .u8 51))))), (10, 1, (.val (.tr (.sc (.int .u8 32))))), (11, 1, (.val (.tr (.sc (.int .u8 47))))), (12, 1, (.val (.tr (.sc (.int .u8 47))))), (13, 1, (.val (.tr (.sc (.int .u8 32))))), (14, 1, (.val (.tr (.sc (.int .u8 121))))), (15, 1, (.val (.tr (.sc (.int .u8 10)))))], none⟩,
     ⟨(some 8), false, .conv .same (.loc 7), none⟩,
     ⟨(some 9), false, .callf 9 [(.loc 8)], none⟩,
     ⟨(some 6), false, .mv (.loc 9), none⟩,
     ⟨(some 10), false, .extract (.loc 6) 0, none⟩,
     ⟨(some 11), false, .extract (.loc 6) 1, none⟩,
     ⟨(some 12), false, .extract (.loc 6) 2, none⟩,
     ⟨(some 1), true, .mv (.loc 10), none⟩,
     ⟨(some 2), true, .mv (.loc 11), none⟩,
     ⟨(some 3), true, .mv (.loc 12), none⟩]
@[simp] def r7_2 : List HOp := [⟨(some 14), false, .callf 12 [(.val (.tr (.sc (.string ⟨⟨[34, 97, 92, 110, 34]⟩⟩))))], none⟩,
     ⟨(some 13), false, .mv (.loc 14), none⟩,
     ⟨(some 15), false, .extract (.loc 13) 0, none⟩,
     ⟨(some 16), false, .extract (.loc 13) 1, none⟩,
     ⟨(some 4), true, .mv (.loc 15), none⟩,
     ⟨(some 5), true, .mv (.loc 16), none⟩]
@[simp] def r7_3 : List HOp := [⟨(some 17), false, .mv (.env 3), none⟩,
     ⟨(some 18), false, .mv (.loc 17), none⟩,
     ⟨(some 19), false, .mv (.env 2), some ((.loc 18), true)⟩,
     ⟨(some 20), false, .bin .other .eql (.loc 19) (.val (.tr (.sc (.int .i64 0)))), some ((.loc 18), true)⟩,
     ⟨(some 21), false, .pick (.loc 18) (.loc 20) (.val (.tr (.sc (.bool false)))), none⟩,
     ⟨(some 22), false, .mv (.loc 21), none⟩,
     ⟨(some 23), false, .mv (.env 1), some ((.loc 22), true)⟩,
     ⟨(some 24), false, .len 1 (.loc 23), some ((.loc 22), true)⟩,
     ⟨(some 25), false, .bin .other .eql (.loc 24) (.val (.tr (.sc (.int .i64 5)))), some ((.loc 22), true)⟩,
     ⟨(some 26), false, .pick (.loc 22) (.loc 25) (.val (.tr (.sc (.bool false)))), none⟩,
     ⟨(some 27), false, .mv (.loc 26), none⟩,
     ⟨(some 28), false, .mv (.env 1), some ((.loc 27), true)⟩,
     ⟨(some 29), false, .iaddr 3 (.loc 28) (.val (.tr (.sc (.int .i64 0)))), some ((.loc 27), true)⟩,
     ⟨(some 30), false, .faddr 0 (.loc 29), some ((.loc 27), true)⟩,
     ⟨(some 31), false, .load 1 false (.loc 30), some ((.loc 27), true)⟩,
     ⟨(some 32), false, .bin .other .eql (.loc 31) (.val (.tr (.sc (.int .i64 1)))), some ((.loc 27), true)⟩,
     ⟨(some 33), false, .pick (.loc 27) (.loc 32) (.val (.tr (.sc (.bool false)))), none⟩,
     ⟨(some 34), false, .mv (.loc 33), none⟩,
     ⟨(some 35), false, .mv (.env 1), some ((.loc 34), true)⟩,
     ⟨(some 36), false, .iaddr 3 (.loc 35) (.val (.tr (.sc (.int .i64 1)))), some ((.loc 34), true)⟩,
     ⟨(some 37), false, .faddr 1 (.loc 36), some ((.loc 34), true)⟩,
     ⟨(some 38), false, .load 1 false (.loc 37), some ((.loc 34), true)⟩,
     ⟨(some 39), false, .bin .other .eql (.loc 38) (.val (.tr (.sc (.string ⟨⟨[58, 61]⟩⟩)))), some ((.loc 34), true)⟩,
     ⟨(some 40), false, .pick (.loc 34) (.loc 39) (.val (.tr (.sc (.bool false)))), none⟩,
     ⟨(some 41), false, .mv (.loc 40), none⟩,
     ⟨(some 42), false, .mv (.env 1), some ((.loc 41), true)⟩,
     ⟨(some 43), false, .iaddr 3 (.loc 42) (.val (.tr (.sc (.int .i64 2)))), some ((.loc 41), true)⟩,
     ⟨(some 44), false, .faddr 0 (.loc 43), some ((.loc 41), true)⟩,
     ⟨(some 45), false, .load 1 false (.loc 44), some ((.loc 41), true)⟩,
     ⟨(some 46), false, .bin .other .eql (.loc 45) (.val (.tr (.sc (.int .i64 3)))), some ((.loc 41), true)⟩,
     ⟨(some 47), false, .pick (.loc 41) (.loc 46) (.val (.tr (.sc (.bool false)))), none⟩,
     ⟨(some 48), false, .mv (.loc 47), none⟩,
     ⟨(some 49), false, .mv (.env 1), some ((.loc 48), true)⟩,
     ⟨(some 50), false, .iaddr 3 (.loc 49) (.val (.tr (.sc (.int .i64 3)))), some ((.loc 48), true)⟩,
     ⟨(some 51), false, .faddr 0 (.loc 50), some ((.loc 48), true)⟩,
     ⟨(some 52), false, .load 1 false (.loc 51), some ((.loc 48), true)⟩,
     ⟨(some 53), false, .bin .other .eql (.loc 52) (.val (.tr (.sc (.int .i64 7)))), some ((.loc 48), true)⟩,
     ⟨(some 54), false, .pick (.loc 48) (.loc 53) (.val (.tr (.sc (.bool false)))), none⟩,
     ⟨(some 55), false, .mv (.loc 54), none⟩,
     ⟨(some 56), false, .mv (.env 1), some ((.loc 55), true)⟩,
     ⟨(some 57), false, .iaddr 3 (.loc 56) (.val (.tr (.sc (.int .i64 3)))), some ((.loc 55), true)⟩,
     ⟨(some 58), false, .faddr 2 (.loc 57), some ((.loc 55), true)⟩,
     ⟨(some 59), false, .load 1 false (.loc 58), some ((.loc 55), true)⟩,
     ⟨(some 60), false, .bin .other .eql (.loc 59) (.val (.tr (.sc (.int .i64 15)))), some ((.loc 55), true)⟩,
     ⟨(some 61), false, .pick (.loc 55) (.loc 60) (.val (.tr (.sc (.bool false)))), none⟩,
     ⟨(some 62), false, .mv (.loc 61), none⟩,
     ⟨(some 63), false, .mv (.env 1), some ((.loc 62), true)⟩,
     ⟨(some 64), false, .iaddr 3 (.loc 63) (.val (.tr (.sc (.int .i64 4)))), some ((.loc 62), true)⟩,
     ⟨(some 65), false, .faddr 0 (.loc 64), some ((.loc 62), true)⟩,
     ⟨(some 66), false, .load 1 false (.loc 65), some ((.loc 62), true)⟩,
     ⟨(some 67), false, .bin .other .eql (.loc 66) (.val (.tr (.sc (.int .i64 0)))), some ((.loc 62), true)⟩,
     ⟨(some 68), false, .pick (.loc 62) (.loc 67) (.val (.tr (.sc (.bool false)))), none⟩,
     ⟨(some 69), false, .mv (.loc 68), none⟩,
     ⟨(some 70), false, .mv (.env 5), some ((.loc 69), true)⟩,
     ⟨(some 71), false, .pick (.loc 69) (.loc 70) (.val (.tr (.sc (.bool false)))), none⟩,
     ⟨(some 72), false, .mv (.loc 71), none⟩,
     ⟨(some 73), false, .mv (.env 4), some ((.loc 72), true)⟩,
     ⟨(some 74), false, .bin .other .eql (.loc 73) (.val (.tr (.sc (.string ⟨⟨[97, 10]⟩⟩)))), some ((.loc 72), true)⟩,
     ⟨(some 75), false, .pick (.loc 72) (.loc 74) (.val (.tr (.sc (.bool false)))), none⟩,
     ⟨(some 76), false, .mv (.loc 75), none⟩,
     ⟨(some 77), false, .callf 14 [(.val (.tr (.sc (.string ⟨⟨[102, 117, 110, 99]⟩⟩))))], some ((.loc 76), true)⟩,
     ⟨(some 78), false, .pick (.loc 76) (.loc 77) (.val (.tr (.sc (.bool false)))), none⟩,
     ⟨(some 0), true, .mv (.loc 78), none⟩]
@[simp] def k7_2 : HCode := .seq (.region r7_3 none) .ret
@[simp] def k7_1 : HCode := .seq (.region r7_2 none) k7_2
@[simp] def k7_0 : HCode := .seq (.region r7_1 none) k7_1
@[simp] def fn7 : HFn := { nargs := 0, results := [.tmp 0], mode := .iso, code := (.seq (.region r7_0 none) k7_0) }
theorem c7 : cFn Tryd.prog (Hs 7) .iso 7 = some fn7 := by kernel_rfl
/- sterling/scan.Scan -/
@[simp] def r9_0 : List HOp := [⟨(some 2), true, .mv (.val (.tr (.sc (.slice none 0 0)))), none⟩,
     ⟨(some 3), true, .mv (.val (.tr (.sc (.int .i64 0)))), none⟩,
     ⟨(some 4), true, .mv (.val (.tr (.sc (.bool false)))), none⟩]
@[simp] def r9_1 : List HOp := [⟨(some 7), false, .mv (.env 0), none⟩,
     ⟨(some 8), false, .build [(.sc (.slice none 0 0)), (.sc (.int .i64 0)), (.sc (.bool false)), (.sc (.slice none 0 0))] [(0, 1, (.loc 7))], none⟩,
     ⟨(some 9), false, .box false (.loc 8), none⟩,
     ⟨(some 5), true, .mv (.loc 9), none⟩]
@[simp] def r9_2 : List HOp := [⟨(some 10), false, .mv (.env 5), none⟩,
         ⟨(some 11), false, .nilchk (.loc 10), none⟩,
         ⟨(some 12), false, .faddr 1 (.loc 11), none⟩,
         ⟨(some 13), false, .load 1 false (.loc 12), none⟩,
         ⟨(some 14), false, .mv (.env 0), none⟩,
         ⟨(some 15), false, .len 1 (.loc 14), none⟩,
         ⟨(some 16), false, .bin .other .lss (.loc 13) (.loc 15), none⟩]
@[simp] def r9_3 : List HOp := [⟨(some 17), false, .mv (.env 5), none⟩,
         ⟨(some 18), false, .nilchk (.loc 17), none⟩,
         ⟨(some 19), false, .faddr 1 (.loc 18), none⟩,
         ⟨(some 20), false, .load 1 false (.loc 19), none⟩,
         ⟨(some 6), true, .mv (.loc 20), none⟩]
@[simp] def r9_4 : List HOp := [⟨(some 21), false, .mv (.env 5), none⟩,
         ⟨(some 22), false, .callf 16 [(.loc 21)], none⟩,
         ⟨(some 23), false, .un .not (.loc 22), none⟩]
@[simp] def r9_5 : List HOp := [⟨(some 24), false, .mv (.env 6), none⟩,
          ⟨(some 2), true, .mv (.val (.tr (.sc (.slice none 0 0)))), none⟩,
          ⟨(some 3), true, .mv (.loc 24), none⟩,
          ⟨(some 4), true, .mv (.val (.tr (.sc (.bool false)))), none⟩]
@[simp] def r9_6 : List HOp := [⟨(some 25), false, .mv (.env 5), none⟩,
     ⟨(some 26), false, .mv (.env 0), none⟩,
     ⟨(some 27), false, .len 1 (.loc 26), none⟩,
     ⟨(some 28), false, .callf 17 [(.loc 25), (.loc 27)], none⟩]
@[simp] def r9_7 : List HOp := [⟨(some 29), false, .mv (.env 5), none⟩,
     ⟨(some 30), false, .mv (.env 0), none⟩,
     ⟨(some 31), false, .len 1 (.loc 30), none⟩,
     ⟨(some 32), false, .callf 18 [(.loc 29), (.val (.tr (.sc (.int .i64 0)))), (.loc 31)], none⟩]
@[simp] def r9_8 : List HOp := [⟨(some 33), false, .mv (.env 5), none⟩,
     ⟨(some 34), false, .nilchk (.loc 33), none⟩,
     ⟨(some 35), false, .faddr 3 (.loc 34), none⟩,
     ⟨(some 36), false, .load 1 false (.loc 35), none⟩,
     ⟨(some 2), true, .mv (.loc 36), none⟩,
     ⟨(some 3), true, .mv (.val (.tr (.sc (.int .i64 0)))), none⟩,
     ⟨(some 4), true, .mv (.val (.tr (.sc (.bool true)))), none⟩]
@[simp] def k9_3 : HCode := .cond (.loc 16) .skip (.exit 0)
@[simp] def k9_7 : HCode := .seq (.region r9_5 none) .ret
@[simp] def k9_6 : HCode := .cond (.loc 23) k9_7 .skip
@[simp] def k9_5 : HCode := .seq (.region r9_4 none) k9_6
def k9_4 : HCode := .block 1 (.seq (.region r9_3 none) k9_5)
def k9_2 : HCode := .seq (.seq (.region r9_2 none) k9_3) k9_4
@[simp] def k9_10 : HCode := .seq (.region r9_8 none) .ret
@[simp] def k9_9 : HCode := .seq (.region r9_7 none) k9_10
def k9_8 : HCode := .seq (.region r9_6 none) k9_9
@[simp] def k9_1 : HCode := .seq (.block 0 (.loop k9_2)) k9_8
@[simp] def k9_0 : HCode := .seq (.region r9_1 none) k9_1
@[simp] def fn9 : HFn := { nargs := 1, results := [.tmp 2, .tmp 3, .tmp 4], mode := .iso, code := (.seq (.region r9_0 none) k9_0) }
theorem c9 : cFn Tryd.prog (Hs 9) .iso 9 = some fn9 := by kernel_rfl
/- (*sterling/scan.scanner).token -/
@[simp] def r16_0 : List HOp := [⟨(some 2), true, .mv (.val (.tr (.sc (.bool false)))), none⟩]
@[simp] def r16_1 : List HOp := [⟨(some 5), false, .mv (.env 0), none⟩,
     ⟨(some 6), false, .nilchk (.loc 5), none⟩,
     ⟨(some 7), false, .faddr 0 (.loc 6), none⟩,
     ⟨(some 8), false, .load 1 false (.loc 7), none⟩,
     ⟨(some 9), false, .mv (.env 0), none⟩,
     ⟨(some 10), false, .nilchk (.loc 9), none⟩,
     ⟨(some 11), false, .faddr 1 (.loc 10), none⟩,
     ⟨(some 12), false, .load 1 false (.loc 11), none⟩,
     ⟨(some 13), false, .iaddr 1 (.loc 8) (.loc 12), none⟩,
     ⟨(some 14), false, .load 1 false (.loc 13), none⟩,
     ⟨(some 3), true, .mv (.loc 14), none⟩]
@[simp] def r16_2 : List HOp := [⟨(some 15), false, .mv (.env 0), none⟩,
     ⟨(some 16), false, .nilchk (.loc 15), none⟩,
     ⟨(some 17), false, .faddr 1 (.loc 16), none⟩,
     ⟨(some 18), false, .load 1 false (.loc 17), none⟩,
     ⟨(some 4), true, .mv (.loc 18), none⟩]
@[simp] def r16_3 : List HOp := [⟨(some 22), false, .mv (.env 3), none⟩,
       ⟨(some 23), false, .bin .other .eql (.loc 22) (.val (.tr (.sc (.int .u8 10)))), none⟩,
       ⟨(some 21), false, .mv (.loc 23), none⟩]
@[simp] def r16_4 : List HOp := [⟨(some 24), false, .mv (.env 0), none⟩,
        ⟨(some 25), false, .mv (.env 0), none⟩,
        ⟨(some 26), false, .nilchk (.loc 25), none⟩,
        ⟨(some 27), false, .faddr 1 (.loc 26), none⟩,
        ⟨(some 28), false, .load 1 false (.loc 27), none⟩,
        ⟨(some 29), false, .callf 17 [(.loc 24), (.loc 28)], none⟩]
@[simp] def r16_5 : List HOp := [⟨(some 30), false, .mv (.env 0), none⟩,
       ⟨(some 31), false, .nilchk (.loc 30), none⟩,
       ⟨(some 32), false, .faddr 1 (.loc 31), none⟩,
       ⟨(some 33), false, .load 1 false (.loc 32), none⟩,
       ⟨(some 34), false, .bin .other .add (.loc 33) (.val (.tr (.sc (.int .i64 1)))), none⟩,
       ⟨(some 35), false, .nilchk (.loc 30), none⟩,
       ⟨(some 36), false, .faddr 1 (.loc 35), none⟩,
       ⟨none, false, .store 1 (.loc 36) (.loc 34), none⟩]
@[simp] def r16_6 : List HOp := [⟨(some 38), false, .mv (.env 3), none⟩,
        ⟨(some 39), false, .bin .other .eql (.loc 38) (.val (.tr (.sc (.int .u8 32)))), none⟩,
        ⟨(some 40), false, .mv (.loc 39), none⟩,
        ⟨(some 41), false, .mv (.env 3), some ((.loc 40), false)⟩,
        ⟨(some 42), false, .bin .other .eql (.loc 41) (.val (.tr (.sc (.int .u8 9)))), some ((.loc 40), false)⟩,
        ⟨(some 43), false, .pick (.loc 40) (.val (.tr (.sc (.bool true)))) (.loc 42), none⟩,
        ⟨(some 44), false, .mv (.loc 43), none⟩,
        ⟨(some 45), false, .mv (.env 3), some ((.loc 44), false)⟩,
        ⟨(some 46), false, .bin .other .eql (.loc 45) (.val (.tr (.sc (.int .u8 13)))), some ((.loc 44), false)⟩,
        ⟨(some 47), false, .pick (.loc 44) (.val (.tr (.sc (.bool true)))) (.loc 46), none⟩,
        ⟨(some 37), false, .mv (.loc 47), none⟩]
@[simp] def r16_7 : List HOp := [⟨(some 48), false, .mv (.env 0), none⟩,
        ⟨(some 49), false, .nilchk (.loc 48), none⟩,
        ⟨(some 50), false, .faddr 1 (.loc 49), none⟩,
        ⟨(some 51), false, .load 1 false (.loc 50), none⟩,
        ⟨(some 52), false, .bin .other .add (.loc 51) (.val (.tr (.sc (.int .i64 1)))), none⟩,
        ⟨(some 53), false, .nilchk (.loc 48), none⟩,
        ⟨(some 54), false, .faddr 1 (.loc 53), none⟩,
        ⟨none, false, .store 1 (.loc 54) (.loc 52), none⟩]
@[simp] def r16_8 : List HOp := [⟨(some 56), false, .mv (.env 0), none⟩,
         ⟨(some 57), false, .callf 32 [(.loc 56), (.val (.tr (.sc (.string ⟨⟨[47, 47]⟩⟩))))], none⟩,
         ⟨(some 58), false, .mv (.loc 57), none⟩,
         ⟨(some 59), false, .mv (.env 0), some ((.loc 58), false)⟩,
         ⟨(some 60), false, .callf 32 [(.loc 59), (.val (.tr (.sc (.string ⟨⟨[47, 42]⟩⟩))))], some ((.loc 58), false)⟩,
         ⟨(some 61), false, .pick (.loc 58) (.val (.tr (.sc (.bool true)))) (.loc 60), none⟩,
         ⟨(some 55), false, .mv (.loc 61), none⟩]
@[simp] def r16_9 : List HOp := [⟨(some 62), false, .mv (.env 0), none⟩,
          ⟨(some 63), false, .callf 33 [(.loc 62)], none⟩,
          ⟨(some 2), true, .mv (.loc 63), none⟩]
@[simp] def r16_10 : List HOp := [⟨(some 65), false, .mv (.env 3), none⟩,
          ⟨(some 66), false, .callf 34 [(.loc 65)], none⟩,
          ⟨(some 64), false, .mv (.loc 66), none⟩]
@[simp] def r16_11 : List HOp := [⟨(some 67), false, .mv (.env 0), none⟩,
          ⟨(some 68), false, .callf 35 [(.loc 67)], none⟩]
@[simp] def r16_12 : List HOp := [⟨(some 70), false, .mv (.env 3), none⟩,
           ⟨(some 71), false, .callf 36 [(.loc 70)], none⟩,
           ⟨(some 72), false, .mv (.loc 71), none⟩,
           ⟨(some 73), false, .mv (.env 3), some ((.loc 72), false)⟩,
           ⟨(some 74), false, .bin .other .eql (.loc 73) (.val (.tr (.sc (.int .u8 46)))), some ((.loc 72), false)⟩,
           ⟨(some 75), false, .mv (.loc 74), some ((.loc 72), false)⟩,
           ⟨(some 76), false, .mv (.env 0), some ((.loc 75), true)⟩,
           ⟨(some 77), false, .callf 37 [(.loc 76), (.val (.tr (.sc (.int .i64 1))))], some ((.loc 75), true)⟩,
           ⟨(some 78), false, .callf 36 [(.loc 77)], some ((.loc 75), true)⟩,
           ⟨(some 79), false, .pick (.loc 75) (.loc 78) (.val (.tr (.sc (.bool false)))), some ((.loc 72), false)⟩,
           ⟨(some 80), false, .pick (.loc 72) (.val (.tr (.sc (.bool true)))) (.loc 79), none⟩,
           ⟨(some 69), false, .mv (.loc 80), none⟩]
@[simp] def r16_13 : List HOp := [⟨(some 81), false, .mv (.env 0), none⟩,
            ⟨(some 82), false, .nilchk (.loc 81), none⟩,
            ⟨(some 83), false, .faddr 2 (.loc 82), none⟩,
            ⟨none, false, .store 1 (.loc 83) (.val (.tr (.sc (.bool true)))), none⟩]
@[simp] def r16_14 : List HOp := [⟨(some 84), false, .mv (.env 0), none⟩,
            ⟨(some 85), false, .callf 38 [(.loc 84)], none⟩,
            ⟨(some 2), true, .mv (.loc 85), none⟩]
@[simp] def r16_15 : List HOp := [⟨(some 87), false, .mv (.env 3), none⟩,
            ⟨(some 88), false, .bin .other .eql (.loc 87) (.val (.tr (.sc (.int .u8 34)))), none⟩,
            ⟨(some 89), false, .mv (.loc 88), none⟩,
            ⟨(some 90), false, .mv (.env 3), some ((.loc 89), false)⟩,
            ⟨(some 91), false, .bin .other .eql (.loc 90) (.val (.tr (.sc (.int .u8 96)))), some ((.loc 89), false)⟩,
            ⟨(some 92), false, .pick (.loc 89) (.val (.tr (.sc (.bool true)))) (.loc 91), none⟩,
            ⟨(some 86), false, .mv (.loc 92), none⟩]
@[simp] def r16_16 : List HOp := [⟨(some 93), false, .mv (.env 0), none⟩,
             ⟨(some 94), false, .nilchk (.loc 93), none⟩,
             ⟨(some 95), false, .faddr 2 (.loc 94), none⟩,
             ⟨none, false, .store 1 (.loc 95) (.val (.tr (.sc (.bool true)))), none⟩]
@[simp] def r16_17 : List HOp := [⟨(some 96), false, .mv (.env 0), none⟩,
              ⟨(some 97), false, .callf 27 [(.loc 96)], none⟩,
              ⟨(some 98), false, .un .not (.loc 97), none⟩]
@[simp] def r16_18 : List HOp := [⟨(some 2), true, .mv (.val (.tr (.sc (.bool false)))), none⟩]
@[simp] def r16_19 : List HOp := [⟨(some 99), false, .mv (.env 0), none⟩,
            ⟨(some 100), false, .mv (.env 4), none⟩,
            ⟨(some 101), false, .callf 18 [(.loc 99), (.val (.tr (.sc (.int .i64 4)))), (.loc 100)], none⟩]
@[simp] def r16_20 : List HOp := [⟨(some 103), false, .mv (.env 3), none⟩,
             ⟨(some 104), false, .bin .other .eql (.loc 103) (.val (.tr (.sc (.int .u8 59)))), none⟩,
             ⟨(some 102), false, .mv (.loc 104), none⟩]
@[simp] def r16_21 : List HOp := [⟨(some 105), false, .mv (.env 0), none⟩,
              ⟨(some 106), false, .nilchk (.loc 105), none⟩,
              ⟨(some 107), false, .faddr 1 (.loc 106), none⟩,
              ⟨(some 108), false, .load 1 false (.loc 107), none⟩,
              ⟨(some 109), false, .bin .other .add (.loc 108) (.val (.tr (.sc (.int .i64 1)))), none⟩,
              ⟨(some 110), false, .nilchk (.loc 105), none⟩,
              ⟨(some 111), false, .faddr 1 (.loc 110), none⟩,
              ⟨none, false, .store 1 (.loc 111) (.loc 109), none⟩]
@[simp] def r16_22 : List HOp := [⟨(some 112), false, .mv (.env 0), none⟩,
              ⟨(some 113), false, .mv (.env 4), none⟩,
              ⟨(some 114), false, .callf 18 [(.loc 112), (.val (.tr (.sc (.int .i64 7)))), (.loc 113)], none⟩]
@[simp] def r16_23 : List HOp := [⟨(some 115), false, .mv (.env 0), none⟩,
             ⟨(some 116), false, .nilchk (.loc 115), none⟩,
             ⟨(some 117), false, .faddr 2 (.loc 116), none⟩,
             ⟨none, false, .store 1 (.loc 117) (.val (.tr (.sc (.bool false)))), none⟩]
@[simp] def r16_24 : List HOp := [⟨(some 19), false, .mv (.env 0), none⟩,
              ⟨(some 20), false, .callf 39 [(.loc 19)], none⟩,
              ⟨(some 2), true, .mv (.loc 20), none⟩]
@[simp] def r16_25 : List HOp := [⟨(some 2), true, .mv (.val (.tr (.sc (.bool true)))), none⟩]
@[simp] def k16_4 : HCode := .seq (.region r16_4 none) (.region r16_5 none)
@[simp] def k16_9 : HCode := .seq (.region r16_9 none) .ret
@[simp] def k16_15 : HCode := .seq (.region r16_14 none) .ret
@[simp] def k16_14 : HCode := .seq (.region r16_13 none) k16_15
@[simp] def k16_21 : HCode := .seq (.region r16_18 none) .ret
@[simp] def k16_20 : HCode := .cond (.loc 98) k16_21 .skip
def k16_22 : HCode := .region r16_19 none
@[simp] def k16_19 : HCode := .seq (.seq (.region r16_17 none) k16_20) k16_22
@[simp] def k16_18 : HCode := .seq (.region r16_16 none) k16_19
@[simp] def k16_26 : HCode := .seq (.region r16_22 none) (.region r16_23 none)
@[simp] def k16_25 : HCode := .seq (.region r16_21 none) k16_26
@[simp] def k16_27 : HCode := .seq (.region r16_24 none) .ret
@[simp] def k16_24 : HCode := .cond (.loc 102) k16_25 k16_27
@[simp] def k16_23 : HCode := .seq (.region r16_20 none) k16_24
@[simp] def k16_17 : HCode := .cond (.loc 86) k16_18 k16_23
@[simp] def k16_16 : HCode := .seq (.region r16_15 none) k16_17
@[simp] def k16_13 : HCode := .cond (.loc 69) k16_14 k16_16
@[simp] def k16_12 : HCode := .seq (.region r16_12 none) k16_13
@[simp] def k16_11 : HCode := .cond (.loc 64) (.region r16_11 none) k16_12
@[simp] def k16_10 : HCode := .seq (.region r16_10 none) k16_11
@[simp] def k16_8 : HCode := .cond (.loc 55) k16_9 k16_10
@[simp] def k16_7 : HCode := .seq (.region r16_8 none) k16_8
@[simp] def k16_6 : HCode := .cond (.loc 37) (.region r16_7 none) k16_7
@[simp] def k16_5 : HCode := .seq (.region r16_6 none) k16_6
@[simp] def k16_3 : HCode := .cond (.loc 21) k16_4 k16_5
def k16_28 : HCode := .seq (.region r16_25 none) .ret
@[simp] def k16_2 : HCode := .seq (.block 0 (.seq (.region r16_3 none) k16_3)) k16_28
@[simp] def k16_1 : HCode := .seq (.region r16_2 none) k16_2
@[simp] def k16_0 : HCode := .seq (.region r16_1 (some [ ( 0, [ 0 ] ) , ( 0, [ 5 ] ) , ( 0, [ 6 ] ) , ( 1, [ 7 ] ) , ( 0, [ 0 ] ) , ( 0, [ 9 ] ) , ( 0, [ 10 ] ) , ( 1, [ 11 ] ) , ( 2, [ 8, 12 ] ) , ( 2, [ 13 ] ) , ( 0, [ 14 ] ) ])) k16_1
@[simp] def fn16 : HFn := { nargs := 1, results := [.tmp 2], mode := .shared, code := (.seq (.region r16_0 none) k16_0) }
theorem c16 : cFn Tryd.prog (Hs 16) .shared 16 = some fn16 := by kernel_rfl
/- (*sterling/scan.scanner).newline -/
@[simp] def r17_0 : List HOp := [⟨(some 4), false, .mv (.env 0), none⟩,
      ⟨(some 5), false, .nilchk (.loc 4), none⟩,
      ⟨(some 6), false, .faddr 2 (.loc 5), none⟩,
      ⟨(some 7), false, .load 1 false (.loc 6), none⟩]
@[simp] def r17_1 : List HOp := [⟨(some 8), false, .mv (.env 0), none⟩,
      ⟨(some 9), false, .mv (.env 0), none⟩,
      ⟨(some 10), false, .nilchk (.loc 9), none⟩,
      ⟨(some 11), false, .faddr 3 (.loc 10), none⟩,
      ⟨(some 12), false, .load 1 false (.loc 11), none⟩,
      ⟨(some 13), false, .mv (.env 1), none⟩,
      ⟨(some 14), false, .build [(.sc (.int .i64 0)), (.sc (.string ⟨⟨[]⟩⟩)), (.sc (.int .i64 0))] [(0, 1, (.val (.tr (.sc (.int .i64 7))))), (1, 1, (.val (.tr (.sc (.string ⟨⟨[10]⟩⟩))))), (2, 1, (.loc 13))], none⟩,
      ⟨(some 15), false, .bslice false 1 3 [(.sc (.int .i64 0)), (.sc (.string ⟨⟨[]⟩⟩)), (.sc (.int .i64 0))] [(0, 3, (.loc 14))], none⟩,
      ⟨(some 16), false, .append 3 32 (.loc 12) (.loc 15), none⟩,
      ⟨(some 17), false, .nilchk (.loc 8), none⟩,
      ⟨(some 18), false, .faddr 3 (.loc 17), none⟩,
      ⟨none, false, .store 1 (.loc 18) (.loc 16), none⟩]
@[simp] def r17_2 : List HOp := [⟨(some 19), false, .mv (.env 0), none⟩,
    ⟨(some 20), false, .nilchk (.loc 19), none⟩,
    ⟨(some 21), false, .faddr 2 (.loc 20), none⟩,
    ⟨none, false, .store 1 (.loc 21) (.val (.tr (.sc (.bool false)))), none⟩]
@[simp] def k17_0 : HCode := .cond (.loc 7) (.region r17_1 none) .skip
def k17_1 : HCode := .region r17_2 none
@[simp] def fn17 : HFn := { nargs := 2, results := [], mode := .shared, code := (.seq (.seq (.region r17_0 none) k17_0) k17_1) }
theorem c17 : cFn Tryd.prog (Hs 17) .shared 17 = some fn17 := by kernel_rfl
/- (*sterling/scan.scanner).begins -/
@[simp] def r32_0 : List HOp := [⟨(some 4), true, .mv (.val (.tr (.sc (.bool false)))), none⟩]
@[simp] def r32_1 : List HOp := [⟨(some 5), false, .mv (.env 0), none⟩,
     ⟨(some 6), false, .nilchk (.loc 5), none⟩,
     ⟨(some 7), false, .faddr 0 (.loc 6), none⟩,
     ⟨(some 8), false, .load 1 false (.loc 7), none⟩,
     ⟨(some 9), false, .mv (.env 0), none⟩,
     ⟨(some 10), false, .nilchk (.loc 9), none⟩,
     ⟨(some 11), false, .faddr 1 (.loc 10), none⟩,
     ⟨(some 12), false, .load 1 false (.loc 11), none⟩,
     ⟨(some 13), false, .mv (.env 0), none⟩,
     ⟨(some 14), false, .nilchk (.loc 13), none⟩,
     ⟨(some 15), false, .faddr 0 (.loc 14), none⟩,
     ⟨(some 16), false, .load 1 false (.loc 15), none⟩,
     ⟨(some 17), false, .len 1 (.loc 16), none⟩,
     ⟨(some 18), false, .mv (.env 0), none⟩,
     ⟨(some 19), false, .nilchk (.loc 18), none⟩,
     ⟨(some 20), false, .faddr 1 (.loc 19), none⟩,
     ⟨(some 21), false, .load 1 false (.loc 20), none⟩,
     ⟨(some 22), false, .mv (.env 1), none⟩,
     ⟨(some 23), false, .len 0 (.loc 22), none⟩,
     ⟨(some 24), false, .bin .other .add (.loc 21) (.loc 23), none⟩,
     ⟨(some 25), false, .minmax false (.loc 17) [(.loc 24)], none⟩,
     ⟨(some 26), false, .slice 1 (.loc 8) (some (.loc 12)) (some (.loc 25)) none, none⟩,
     ⟨(some 27), false, .conv .bytesStr (.loc 26), none⟩,
     ⟨(some 28), false, .mv (.env 1), none⟩,
     ⟨(some 29), false, .bin .other .eql (.loc 27) (.loc 28), none⟩,
     ⟨(some 4), true, .mv (.loc 29), none⟩]
@[simp] def k32_0 : HCode := .seq (.region r32_1 (some [ ( 0, [ 0 ] ) , ( 0, [ 5 ] ) , ( 0, [ 6 ] ) , ( 1, [ 7 ] ) , ( 0, [ 0 ] ) , ( 0, [ 9 ] ) , ( 0, [ 10 ] ) , ( 1, [ 11 ] ) , ( 0, [ 0 ] ) , ( 0, [ 13 ] ) , ( 0, [ 14 ] ) , ( 1, [ 15 ] ) , ( 0, [ 16 ] ) , ( 0, [ 0 ] ) , ( 0, [ 18 ] ) , ( 0, [ 19 ] ) , ( 1, [ 20 ] ) , ( 0, [ 1 ] ) , ( 0, [ 22 ] ) , ( 0, [ 21, 23 ] ) , ( 0, [ 17, 24 ] ) , ( 2, [ 8, 12, 25 ] ) , ( 2, [ 26 ] ) , ( 0, [ 1 ] ) , ( 0, [ 27, 28 ] ) , ( 0, [ 29 ] ) ])) .ret
@[simp] def fn32 : HFn := { nargs := 2, results := [.tmp 4], mode := .shared, code := (.seq (.region r32_0 none) k32_0) }
theorem c32 : cFn Tryd.prog (Hs 32) .shared 32 = some fn32 := by kernel_rfl
/- (*sterling/scan.scanner).comment -/
@[simp] def r33_0 : List HOp := [⟨(some 2), true, .mv (.val (.tr (.sc (.bool false)))), none⟩]
@[simp] def r33_1 : List HOp := [⟨(some 5), false, .mv (.env 0), none⟩,
     ⟨(some 6), false, .nilchk (.loc 5), none⟩,
     ⟨(some 7), false, .faddr 1 (.loc 6), none⟩,
     ⟨(some 8), false, .load 1 false (.loc 7), none⟩,
     ⟨(some 3), true, .mv (.loc 8), none⟩]
@[simp] def r33_2 : List HOp := [⟨(some 9), false, .mv (.env 0), none⟩,
      ⟨(some 10), false, .callf 32 [(.loc 9), (.val (.tr (.sc (.string ⟨⟨[47, 47]⟩⟩))))], none⟩]
@[simp] def r33_3 : List HOp := [⟨(some 11), false, .mv (.env 0), none⟩,
           ⟨(some 12), false, .nilchk (.loc 11), none⟩,
           ⟨(some 13), false, .faddr 1 (.loc 12), none⟩,
           ⟨(some 14), false, .load 1 false (.loc 13), none⟩,
           ⟨(some 15), false, .mv (.env 0), none⟩,
           ⟨(some 16), false, .nilchk (.loc 15), none⟩,
           ⟨(some 17), false, .faddr 0 (.loc 16), none⟩,
           ⟨(some 18), false, .load 1 false (.loc 17), none⟩,
           ⟨(some 19), false, .len 1 (.loc 18), none⟩,
           ⟨(some 20), false, .bin .other .lss (.loc 14) (.loc 19), none⟩,
           ⟨(some 21), false, .mv (.loc 20), none⟩,
           ⟨(some 22), false, .mv (.env 0), some ((.loc 21), true)⟩,
           ⟨(some 23), false, .nilchk (.loc 22), some ((.loc 21), true)⟩,
           ⟨(some 24), false, .faddr 0 (.loc 23), some ((.loc 21), true)⟩,
           ⟨(some 25), false, .load 1 false (.loc 24), some ((.loc 21), true)⟩,
           ⟨(some 26), false, .mv (.env 0), some ((.loc 21), true)⟩,
           ⟨(some 27), false, .nilchk (.loc 26), some ((.loc 21), true)⟩,
           ⟨(some 28), false, .faddr 1 (.loc 27), some ((.loc 21), true)⟩,
           ⟨(some 29), false, .load 1 false (.loc 28), some ((.loc 21), true)⟩,
           ⟨(some 30), false, .iaddr 1 (.loc 25) (.loc 29), some ((.loc 21), true)⟩,
           ⟨(some 31), false, .load 1 false (.loc 30), some ((.loc 21), true)⟩,
           ⟨(some 32), false, .bin .other .neq (.loc 31) (.val (.tr (.sc (.int .u8 10)))), some ((.loc 21), true)⟩,
           ⟨(some 33), false, .pick (.loc 21) (.loc 32) (.val (.tr (.sc (.bool false)))), none⟩]
@[simp] def r33_4 : List HOp := [⟨(some 34), false, .mv (.env 0), none⟩,
          ⟨(some 35), false, .nilchk (.loc 34), none⟩,
          ⟨(some 36), false, .faddr 1 (.loc 35), none⟩,
          ⟨(some 37), false, .load 1 false (.loc 36), none⟩,
          ⟨(some 38), false, .bin .other .add (.loc 37) (.val (.tr (.sc (.int .i64 1)))), none⟩,
          ⟨(some 39), false, .nilchk (.loc 34), none⟩,
          ⟨(some 40), false, .faddr 1 (.loc 39), none⟩,
          ⟨none, false, .store 1 (.loc 40) (.loc 38), none⟩]
@[simp] def r33_5 : List HOp := [⟨(some 2), true, .mv (.val (.tr (.sc (.bool true)))), none⟩]
@[simp] def r33_6 : List HOp := [⟨(some 41), false, .mv (.env 0), none⟩,
     ⟨(some 42), false, .nilchk (.loc 41), none⟩,
     ⟨(some 43), false, .faddr 0 (.loc 42), none⟩,
     ⟨(some 44), false, .load 1 false (.loc 43), none⟩,
     ⟨(some 45), false, .mv (.env 0), none⟩,
     ⟨(some 46), false, .nilchk (.loc 45), none⟩,
     ⟨(some 47), false, .faddr 1 (.loc 46), none⟩,
     ⟨(some 48), false, .load 1 false (.loc 47), none⟩,
     ⟨(some 49), false, .bin .other .add (.loc 48) (.val (.tr (.sc (.int .i64 2)))), none⟩,
     ⟨(some 50), false, .slice 1 (.loc 44) (some (.loc 49)) none none, none⟩,
     ⟨(some 51), false, .bslice true 2 1 [(.sc (.int .u8 0))] [(0, 1, (.val (.tr (.sc (.int .u8 42))))), (1, 1, (.val (.tr (.sc (.int .u8 47)))))], none⟩,
     ⟨(some 52), false, .conv .same (.loc 51), none⟩,
     ⟨(some 53), false, .callf 50 [(.loc 50), (.loc 52)], none⟩,
     ⟨(some 4), true, .mv (.loc 53), none⟩]
@[simp] def r33_7 : List HOp := [⟨(some 54), false, .mv (.env 4), none⟩,
      ⟨(some 55), false, .bin .other .lss (.loc 54) (.val (.tr (.sc (.int .i64 0)))), none⟩]
@[simp] def r33_8 : List HOp := [⟨(some 2), true, .mv (.val (.tr (.sc (.bool false)))), none⟩]
@[simp] def r33_9 : List HOp := [⟨(some 56), false, .mv (.env 0), none⟩,
     ⟨(some 57), false, .nilchk (.loc 56), none⟩,
     ⟨(some 58), false, .faddr 1 (.loc 57), none⟩,
     ⟨(some 59), false, .load 1 false (.loc 58), none⟩,
     ⟨(some 60), false, .mv (.env 4), none⟩,
     ⟨(some 61), false, .bin .other .add (.loc 60) (.val (.tr (.sc (.int .i64 4)))), none⟩,
     ⟨(some 62), false, .bin .other .add (.loc 59) (.loc 61), none⟩,
     ⟨(some 63), false, .nilchk (.loc 56), none⟩,
     ⟨(some 64), false, .faddr 1 (.loc 63), none⟩,
     ⟨none, false, .store 1 (.loc 64) (.loc 62), none⟩]
@[simp] def r33_10 : List HOp := [⟨(some 65), false, .mv (.env 0), none⟩,
      ⟨(some 66), false, .nilchk (.loc 65), none⟩,
      ⟨(some 67), false, .faddr 0 (.loc 66), none⟩,
      ⟨(some 68), false, .load 1 false (.loc 67), none⟩,
      ⟨(some 69), false, .mv (.env 3), none⟩,
      ⟨(some 70), false, .mv (.env 0), none⟩,
      ⟨(some 71), false, .nilchk (.loc 70), none⟩,
      ⟨(some 72), false, .faddr 1 (.loc 71), none⟩,
      ⟨(some 73), false, .load 1 false (.loc 72), none⟩,
      ⟨(some 74), false, .slice 1 (.loc 68) (some (.loc 69)) (some (.loc 73)) none, none⟩,
      ⟨(some 75), false, .callf 51 [(.loc 74), (.val (.tr (.sc (.int .u8 10))))], none⟩,
      ⟨(some 76), false, .bin .other .geq (.loc 75) (.val (.tr (.sc (.int .i64 0)))), none⟩]
@[simp] def r33_11 : List HOp := [⟨(some 77), false, .mv (.env 0), none⟩,
      ⟨(some 78), false, .mv (.env 3), none⟩,
      ⟨(some 79), false, .callf 17 [(.loc 77), (.loc 78)], none⟩]
@[simp] def r33_12 : List HOp := [⟨(some 2), true, .mv (.val (.tr (.sc (.bool true)))), none⟩]
@[simp] def k33_5 : HCode := .cond (.loc 33) .skip (.exit 0)
def k33_6 : HCode := .block 1 (.region r33_4 none)
def k33_4 : HCode := .seq (.seq (.region r33_3 (some [ ( 0, [ 0 ] ) , ( 0, [ 11 ] ) , ( 0, [ 12 ] ) , ( 1, [ 13 ] ) , ( 0, [ 0 ] ) , ( 0, [ 15 ] ) , ( 0, [ 16 ] ) , ( 1, [ 17 ] ) , ( 0, [ 18 ] ) , ( 0, [ 14, 19 ] ) , ( 0, [ 20 ] ) , ( 0, [ 0, 21 ] ) , ( 0, [ 22, 21 ] ) , ( 0, [ 23, 21 ] ) , ( 1, [ 24, 21 ] ) , ( 0, [ 0, 21 ] ) , ( 0, [ 26, 21 ] ) , ( 0, [ 27, 21 ] ) , ( 1, [ 28, 21 ] ) , ( 2, [ 25, 29, 21 ] ) , ( 2, [ 30, 21 ] ) , ( 0, [ 31, 21 ] ) , ( 0, [ 21, 32 ] ) ])) k33_5) k33_6
def k33_7 : HCode := .seq (.region r33_5 none) .ret
@[simp] def k33_3 : HCode := .seq (.block 0 (.loop k33_4)) k33_7
@[simp] def k33_2 : HCode := .cond (.loc 10) k33_3 .skip
@[simp] def k33_11 : HCode := .seq (.region r33_8 none) .ret
@[simp] def k33_10 : HCode := .cond (.loc 55) k33_11 .skip
@[simp] def k33_14 : HCode := .cond (.loc 76) (.region r33_11 none) .skip
def k33_15 : HCode := .seq (.region r33_12 none) .ret
@[simp] def k33_13 : HCode := .seq (.seq (.region r33_10 (some [ ( 0, [ 0 ] ) , ( 0, [ 65 ] ) , ( 0, [ 66 ] ) , ( 1, [ 67 ] ) , ( 0, [ 3 ] ) , ( 0, [ 0 ] ) , ( 0, [ 70 ] ) , ( 0, [ 71 ] ) , ( 1, [ 72 ] ) , ( 2, [ 68, 69, 73 ] ) , ( 2, [ 74 ] ) , ( 0, [ 75 ] ) ])) k33_14) k33_15
def k33_12 : HCode := .seq (.region r33_9 none) k33_13
@[simp] def k33_9 : HCode := .seq (.seq (.region r33_7 none) k33_10) k33_12
def k33_8 : HCode := .seq (.region r33_6 (some [ ( 0, [ 0 ] ) , ( 0, [ 41 ] ) , ( 0, [ 42 ] ) , ( 15, [ 43 ] ) , ( 0, [ 0 ] ) , ( 0, [ 45 ] ) , ( 0, [ 46 ] ) , ( 15, [ 47 ] ) , ( 0, [ 48 ] ) , ( 15, [ 44, 49 ] ) , ( 2, [ ] ) , ( 2, [ 51 ] ) , ( 2, [ 50, 52 ] ) , ( 0, [ 53 ] ) ])) k33_9
@[simp] def k33_1 : HCode := .seq (.seq (.region r33_2 none) k33_2) k33_8
@[simp] def k33_0 : HCode := .seq (.region r33_1 none) k33_1
@[simp] def fn33 : HFn := { nargs := 1, results := [.tmp 2], mode := .shared, code := (.seq (.region r33_0 none) k33_0) }
theorem c33 : cFn Tryd.prog (Hs 33) .shared 33 = some fn33 := by kernel_rfl
/- sterling/scan.letter -/
@[simp] def r34_0 : List HOp := [⟨(some 2), true, .mv (.val (.tr (.sc (.bool false)))), none⟩]
@[simp] def r34_1 : List HOp := [⟨(some 3), false, .mv (.env 0), none⟩,
     ⟨(some 4), false, .bin .other .or (.loc 3) (.val (.tr (.sc (.int .u8 32)))), none⟩,
     ⟨(some 5), false, .bin .other .geq (.loc 4) (.val (.tr (.sc (.int .u8 97)))), none⟩,
     ⟨(some 6), false, .mv (.loc 5), none⟩,
     ⟨(some 7), false, .mv (.env 0), some ((.loc 6), true)⟩,
     ⟨(some 8), false, .bin .other .or (.loc 7) (.val (.tr (.sc (.int .u8 32)))), some ((.loc 6), true)⟩,
     ⟨(some 9), false, .bin .other .leq (.loc 8) (.val (.tr (.sc (.int .u8 122)))), some ((.loc 6), true)⟩,
     ⟨(some 10), false, .pick (.loc 6) (.loc 9) (.val (.tr (.sc (.bool false)))), none⟩,
     ⟨(some 11), false, .mv (.loc 10), none⟩,
     ⟨(some 12), false, .mv (.env 0), some ((.loc 11), false)⟩,
     ⟨(some 13), false, .bin .other .eql (.loc 12) (.val (.tr (.sc (.int .u8 95)))), some ((.loc 11), false)⟩,
     ⟨(some 14), false, .pick (.loc 11) (.val (.tr (.sc (.bool true)))) (.loc 13), none⟩,
     ⟨(some 2), true, .mv (.loc 14), none⟩]
@[simp] def k34_0 : HCode := .seq (.region r34_1 none) .ret
@[simp] def fn34 : HFn := { nargs := 1, results := [.tmp 2], mode := .iso, code := (.seq (.region r34_0 none) k34_0) }
theorem c34 : cFn Tryd.prog (Hs 34) .iso 34 = some fn34 := by kernel_rfl
/- (*sterling/scan.scanner).name -/
@[simp] def r35_0 : List HOp := [⟨(some 5), false, .mv (.env 0), none⟩,
     ⟨(some 6), false, .nilchk (.loc 5), none⟩,
     ⟨(some 7), false, .faddr 1 (.loc 6), none⟩,
     ⟨(some 8), false, .load 1 false (.loc 7), none⟩,
     ⟨(some 2), true, .mv (.loc 8), none⟩]
@[simp] def r35_1 : List HOp := [⟨(some 9), false, .mv (.env 0), none⟩,
     ⟨(some 10), false, .callf 52 [(.loc 9), (.val (.tr (.fn (.func 53) [] [])))], none⟩]
@[simp] def r35_2 : List HOp := [⟨(some 11), false, .mv (.env 0), none⟩,
     ⟨(some 12), false, .nilchk (.loc 11), none⟩,
     ⟨(some 13), false, .faddr 0 (.loc 12), none⟩,
     ⟨(some 14), false, .load 1 false (.loc 13), none⟩,
     ⟨(some 15), false, .mv (.env 2), none⟩,
     ⟨(some 16), false, .mv (.env 0), none⟩,
     ⟨(some 17), false, .nilchk (.loc 16), none⟩,
     ⟨(some 18), false, .faddr 1 (.loc 17), none⟩,
     ⟨(some 19), false, .load 1 false (.loc 18), none⟩,
     ⟨(some 20), false, .slice 1 (.loc 14) (some (.loc 15)) (some (.loc 19)) none, none⟩,
     ⟨(some 21), false, .conv .bytesStr (.loc 20), none⟩,
     ⟨(some 3), true, .mv (.loc 21), none⟩]
@[simp] def r35_3 : List HOp := [⟨(some 4), true, .mv (.val (.tr (.sc (.int .i64 1)))), none⟩]
@[simp] def r35_4 : List HOp := [⟨(some 22), false, .mv (.env 0), none⟩,
     ⟨(some 23), false, .nilchk (.loc 22), none⟩,
     ⟨(some 24), false, .faddr 2 (.loc 23), none⟩,
     ⟨none, false, .store 1 (.loc 24) (.val (.tr (.sc (.bool true)))), none⟩]
@[simp] def r35_5 : List HOp := [⟨(some 25), false, .mv (.env 3), none⟩,
      ⟨(some 26), false, .callf 14 [(.loc 25)], none⟩]
@[simp] def r35_6 : List HOp := [⟨(some 4), true, .mv (.val (.tr (.sc (.int .i64 6)))), none⟩]
@[simp] def r35_7 : List HOp := [⟨(some 27), false, .mv (.env 0), none⟩,
      ⟨(some 28), false, .mv (.env 3), none⟩,
      ⟨(some 29), false, .bin .other .eql (.loc 28) (.val (.tr (.sc (.string ⟨⟨[98, 114, 101, 97, 107]⟩⟩)))), none⟩,
      ⟨(some 30), false, .mv (.loc 29), none⟩,
      ⟨(some 31), false, .mv (.env 3), some ((.loc 30), false)⟩,
      ⟨(some 32), false, .bin .other .eql (.loc 31) (.val (.tr (.sc (.string ⟨⟨[99, 111, 110, 116, 105, 110, 117, 101]⟩⟩)))), some ((.loc 30), false)⟩,
      ⟨(some 33), false, .pick (.loc 30) (.val (.tr (.sc (.bool true)))) (.loc 32), none⟩,
      ⟨(some 34), false, .mv (.loc 33), none⟩,
      ⟨(some 35), false, .mv (.env 3), some ((.loc 34), false)⟩,
      ⟨(some 36), false, .bin .other .eql (.loc 35) (.val (.tr (.sc (.string ⟨⟨[114, 101, 116, 117, 114, 110]⟩⟩)))), some ((.loc 34), false)⟩,
      ⟨(some 37), false, .pick (.loc 34) (.val (.tr (.sc (.bool true)))) (.loc 36), none⟩,
      ⟨(some 38), false, .nilchk (.loc 27), none⟩,
      ⟨(some 39), false, .faddr 2 (.loc 38), none⟩,
      ⟨none, false, .store 1 (.loc 39) (.loc 37), none⟩]
@[simp] def r35_8 : List HOp := [⟨(some 40), false, .mv (.env 0), none⟩,
    ⟨(some 41), false, .mv (.env 4), none⟩,
    ⟨(some 42), false, .mv (.env 2), none⟩,
    ⟨(some 43), false, .callf 18 [(.loc 40), (.loc 41), (.loc 42)], none⟩]
@[simp] def k35_6 : HCode := .seq (.region r35_6 none) (.region r35_7 none)
@[simp] def k35_5 : HCode := .cond (.loc 26) k35_6 .skip
def k35_7 : HCode := .region r35_8 none
@[simp] def k35_4 : HCode := .seq (.seq (.region r35_5 none) k35_5) k35_7
@[simp] def k35_3 : HCode := .seq (.region r35_4 none) k35_4
@[simp] def k35_2 : HCode := .seq (.region r35_3 none) k35_3
@[simp] def k35_1 : HCode := .seq (.region r35_2 (some [ ( 0, [ 0 ] ) , ( 0, [ 11 ] ) , ( 0, [ 12 ] ) , ( 1, [ 13 ] ) , ( 0, [ 2 ] ) , ( 0, [ 0 ] ) , ( 0, [ 16 ] ) , ( 0, [ 17 ] ) , ( 1, [ 18 ] ) , ( 2, [ 14, 15, 19 ] ) , ( 2, [ 20 ] ) , ( 0, [ 21 ] ) ])) k35_2
@[simp] def k35_0 : HCode := .seq (.region r35_1 none) k35_1
@[simp] def fn35 : HFn := { nargs := 1, results := [], mode := .shared, code := (.seq (.region r35_0 none) k35_0) }
theorem c35 : cFn Tryd.prog (Hs 35) .shared 35 = some fn35 := by kernel_rfl
/- (*sterling/scan.scanner).run -/
@[simp] def r52_0 : List HOp := [⟨(some 4), true, .mv (.val (.tr (.sc (.int .i64 0)))), none⟩]
@[simp] def r52_1 : List HOp := [⟨(some 6), false, .mv (.env 0), none⟩,
     ⟨(some 7), false, .nilchk (.loc 6), none⟩,
     ⟨(some 8), false, .faddr 1 (.loc 7), none⟩,
     ⟨(some 9), false, .load 1 false (.loc 8), none⟩,
     ⟨(some 5), true, .mv (.loc 9), none⟩]
@[simp] def r52_2 : List HOp := [⟨(some 10), false, .mv (.env 0), none⟩,
         ⟨(some 11), false, .nilchk (.loc 10), none⟩,
         ⟨(some 12), false, .faddr 1 (.loc 11), none⟩,
         ⟨(some 13), false, .load 1 false (.loc 12), none⟩,
         ⟨(some 14), false, .mv (.env 0), none⟩,
         ⟨(some 15), false, .nilchk (.loc 14), none⟩,
         ⟨(some 16), false, .faddr 0 (.loc 15), none⟩,
         ⟨(some 17), false, .load 1 false (.loc 16), none⟩,
         ⟨(some 18), false, .len 1 (.loc 17), none⟩,
         ⟨(some 19), false, .bin .other .lss (.loc 13) (.loc 18), none⟩,
         ⟨(some 20), false, .mv (.loc 19), none⟩,
         ⟨(some 21), false, .mv (.env 1), some ((.loc 20), true)⟩,
         ⟨(some 22), false, .mv (.env 0), some ((.loc 20), true)⟩,
         ⟨(some 23), false, .nilchk (.loc 22), some ((.loc 20), true)⟩,
         ⟨(some 24), false, .faddr 0 (.loc 23), some ((.loc 20), true)⟩,
         ⟨(some 25), false, .load 1 false (.loc 24), some ((.loc 20), true)⟩,
         ⟨(some 26), false, .mv (.env 0), some ((.loc 20), true)⟩,
         ⟨(some 27), false, .nilchk (.loc 26), some ((.loc 20), true)⟩,
         ⟨(some 28), false, .faddr 1 (.loc 27), some ((.loc 20), true)⟩,
         ⟨(some 29), false, .load 1 false (.loc 28), some ((.loc 20), true)⟩,
         ⟨(some 30), false, .iaddr 1 (.loc 25) (.loc 29), some ((.loc 20), true)⟩,
         ⟨(some 31), false, .load 1 false (.loc 30), some ((.loc 20), true)⟩,
         ⟨(some 32), false, .callv (.loc 21) [(.loc 31)], some ((.loc 20), true)⟩,
         ⟨(some 33), false, .pick (.loc 20) (.loc 32) (.val (.tr (.sc (.bool false)))), none⟩]
@[simp] def r52_3 : List HOp := [⟨(some 34), false, .mv (.env 0), none⟩,
        ⟨(some 35), false, .nilchk (.loc 34), none⟩,
        ⟨(some 36), false, .faddr 1 (.loc 35), none⟩,
        ⟨(some 37), false, .load 1 false (.loc 36), none⟩,
        ⟨(some 38), false, .bin .other .add (.loc 37) (.val (.tr (.sc (.int .i64 1)))), none⟩,
        ⟨(some 39), false, .nilchk (.loc 34), none⟩,
        ⟨(some 40), false, .faddr 1 (.loc 39), none⟩,
        ⟨none, false, .store 1 (.loc 40) (.loc 38), none⟩]
@[simp] def r52_4 : List HOp := [⟨(some 41), false, .mv (.env 0), none⟩,
     ⟨(some 42), false, .nilchk (.loc 41), none⟩,
     ⟨(some 43), false, .faddr 1 (.loc 42), none⟩,
     ⟨(some 44), false, .load 1 false (.loc 43), none⟩,
     ⟨(some 45), false, .mv (.env 5), none⟩,
     ⟨(some 46), false, .bin .other .sub (.loc 44) (.loc 45), none⟩,
     ⟨(some 4), true, .mv (.loc 46), none⟩]
@[simp] def k52_3 : HCode := .cond (.loc 33) .skip (.exit 0)
def k52_4 : HCode := .block 1 (.region r52_3 none)
def k52_2 : HCode := .seq (.seq (.region r52_2 (some [ ( 0, [ 0 ] ) , ( 0, [ 10 ] ) , ( 0, [ 11 ] ) , ( 1, [ 12 ] ) , ( 0, [ 0 ] ) , ( 0, [ 14 ] ) , ( 0, [ 15 ] ) , ( 1, [ 16 ] ) , ( 0, [ 17 ] ) , ( 0, [ 13, 18 ] ) , ( 0, [ 19 ] ) , ( 0, [ 1, 20 ] ) , ( 0, [ 0, 20 ] ) , ( 0, [ 22, 20 ] ) , ( 0, [ 23, 20 ] ) , ( 1, [ 24, 20 ] ) , ( 0, [ 0, 20 ] ) , ( 0, [ 26, 20 ] ) , ( 0, [ 27, 20 ] ) , ( 1, [ 28, 20 ] ) , ( 2, [ 25, 29, 20 ] ) , ( 2, [ 30, 20 ] ) , ( 2, [ 21, 31, 20 ] ) , ( 0, [ 20, 32 ] ) ])) k52_3) k52_4
def k52_5 : HCode := .seq (.region r52_4 none) .ret
@[simp] def k52_1 : HCode := .seq (.block 0 (.loop k52_2)) k52_5
@[simp] def k52_0 : HCode := .seq (.region r52_1 none) k52_1
@[simp] def fn52 : HFn := { nargs := 2, results := [.tmp 4], mode := .shared, code := (.seq (.region r52_0 none) k52_0) }
theorem c52 : cFn Tryd.prog (Hs 52) .shared 52 = some fn52 := by kernel_rfl
/- (*sterling/scan.scanner).name$1 -/
@[simp] def r53_0 : List HOp := [⟨(some 2), true, .mv (.val (.tr (.sc (.bool false)))), none⟩]
@[simp] def r53_1 : List HOp := [⟨(some 3), false, .mv (.env 0), none⟩,
     ⟨(some 4), false, .callf 34 [(.loc 3)], none⟩,
     ⟨(some 5), false, .mv (.loc 4), none⟩,
     ⟨(some 6), false, .mv (.env 0), some ((.loc 5), false)⟩,
     ⟨(some 7), false, .callf 36 [(.loc 6)], some ((.loc 5), false)⟩,
     ⟨(some 8), false, .pick (.loc 5) (.val (.tr (.sc (.bool true)))) (.loc 7), none⟩,
     ⟨(some 2), true, .mv (.loc 8), none⟩]
@[simp] def k53_0 : HCode := .seq (.region r53_1 none) .ret
@[simp] def fn53 : HFn := { nargs := 1, results := [.tmp 2], mode := .shared, code := (.seq (.region r53_0 none) k53_0) }
theorem c53 : cFn Tryd.prog (Hs 53) .shared 53 = some fn53 := by kernel_rfl
/- sterling/scan.decimal -/
@[simp] def r36_0 : List HOp := [⟨(some 2), true, .mv (.val (.tr (.sc (.bool false)))), none⟩]
@[simp] def r36_1 : List HOp := [⟨(some 3), false, .mv (.env 0), none⟩,
     ⟨(some 4), false, .bin .other .geq (.loc 3) (.val (.tr (.sc (.int .u8 48)))), none⟩,
     ⟨(some 5), false, .mv (.loc 4), none⟩,
     ⟨(some 6), false, .mv (.env 0), some ((.loc 5), true)⟩,
     ⟨(some 7), false, .bin .other .leq (.loc 6) (.val (.tr (.sc (.int .u8 57)))), some ((.loc 5), true)⟩,
     ⟨(some 8), false, .pick (.loc 5) (.loc 7) (.val (.tr (.sc (.bool false)))), none⟩,
     ⟨(some 2), true, .mv (.loc 8), none⟩]
@[simp] def k36_0 : HCode := .seq (.region r36_1 none) .ret
@[simp] def fn36 : HFn := { nargs := 1, results := [.tmp 2], mode := .iso, code := (.seq (.region r36_0 none) k36_0) }
theorem c36 : cFn Tryd.prog (Hs 36) .iso 36 = some fn36 := by kernel_rfl
/- sterling/scan.Word -/
@[simp] def r14_0 : List HOp := [⟨(some 2), true, .mv (.val (.tr (.sc (.bool false)))), none⟩]
@[simp] def r14_1 : List HOp := [⟨(some 3), false, .mv (.env 0), none⟩,
     ⟨(some 4), false, .bin .other .neq (.loc 3) (.val (.tr (.sc (.string ⟨⟨[]⟩⟩)))), none⟩,
     ⟨(some 5), false, .mv (.loc 4), none⟩,
     ⟨(some 6), false, .mv (.env 0), some ((.loc 5), true)⟩,
     ⟨(some 7), false, .callf 31 [(.loc 6), (.val (.tr (.sc (.string ⟨⟨[32]⟩⟩))))], some ((.loc 5), true)⟩,
     ⟨(some 8), false, .un .not (.loc 7), some ((.loc 5), true)⟩,
     ⟨(some 9), false, .pick (.loc 5) (.loc 8) (.val (.tr (.sc (.bool false)))), none⟩,
     ⟨(some 10), false, .mv (.loc 9), none⟩,
     ⟨(some 11), false, .mv (.env 0), some ((.loc 10), true)⟩,
     ⟨(some 12), false, .bin .other .add (.val (.tr (.sc (.string ⟨⟨[32]⟩⟩)))) (.loc 11), some ((.loc 10), true)⟩,
     ⟨(some 13), false, .bin .other .add (.loc 12) (.val (.tr (.sc (.string ⟨⟨[32]⟩⟩)))), some ((.loc 10), true)⟩,
     ⟨(some 14), false, .callf 31 [(.val (.tr (.sc (.string ⟨⟨[32, 98, 114, 101, 97, 107, 32, 99, 97, 115, 101, 32, 99, 104, 97, 110, 32, 99, 111, 110, 115, 116, 32, 99, 111, 110, 116, 105, 110, 117, 101, 32, 100, 101, 102, 97, 117, 108, 116, 32, 100, 101, 102, 101, 114, 32, 101, 108, 115, 101, 32, 102, 97, 108, 108, 116, 104, 114, 111, 117, 103, 104, 32, 102, 111, 114, 32, 102, 117, 110, 99, 32, 103, 111, 32, 103, 111, 116, 111, 32, 105, 102, 32, 105, 109, 112, 111, 114, 116, 32, 105, 110, 116, 101, 114, 102, 97, 99, 101, 32, 109, 97, 112, 32, 112, 97, 99, 107, 97, 103, 101, 32, 114, 97, 110, 103, 101, 32, 114, 101, 116, 117, 114, 110, 32, 115, 101, 108, 101, 99, 116, 32, 115, 116, 114, 117, 99, 116, 32, 115, 119, 105, 116, 99, 104, 32, 116, 121, 112, 101, 32, 118, 97, 114, 32]⟩⟩)))), (.loc 13)], some ((.loc 10), true)⟩,
     ⟨(some 15), false, .pick (.loc 10) (.loc 14) (.val (.tr (.sc (.bool false)))), none⟩,
     ⟨(some 2), true, .mv (.loc 15), none⟩]
@[simp] def k14_0 : HCode := .seq (.region r14_1 none) .ret
@[simp] def fn14 : HFn := { nargs := 1, results := [.tmp 2], mode := .shared, code := (.seq (.region r14_0 none) k14_0) }
theorem c14 : cFn Tryd.prog (Hs 14) .shared 14 = some fn14 := by kernel_rfl
/- (*sterling/scan.scanner).put -/
@[simp] def r18_0 : List HOp := [⟨(some 6), false, .mv (.env 0), none⟩,
    ⟨(some 7), false, .mv (.env 0), none⟩,
    ⟨(some 8), false, .nilchk (.loc 7), none⟩,
    ⟨(some 9), false, .faddr 3 (.loc 8), none⟩,
    ⟨(some 10), false, .load 1 false (.loc 9), none⟩,
    ⟨(some 11), false, .mv (.env 1), none⟩,
    ⟨(some 12), false, .mv (.env 0), none⟩,
    ⟨(some 13), false, .nilchk (.loc 12), none⟩,
    ⟨(some 14), false, .faddr 0 (.loc 13), none⟩,
    ⟨(some 15), false, .load 1 false (.loc 14), none⟩,
    ⟨(some 16), false, .mv (.env 2), none⟩,
    ⟨(some 17), false, .mv (.env 0), none⟩,
    ⟨(some 18), false, .nilchk (.loc 17), none⟩,
    ⟨(some 19), false, .faddr 1 (.loc 18), none⟩,
    ⟨(some 20), false, .load 1 false (.loc 19), none⟩,
    ⟨(some 21), false, .slice 1 (.loc 15) (some (.loc 16)) (some (.loc 20)) none, none⟩,
    ⟨(some 22), false, .conv .bytesStr (.loc 21), none⟩,
    ⟨(some 23), false, .mv (.env 2), none⟩,
    ⟨(some 24), false, .build [(.sc (.int .i64 0)), (.sc (.string ⟨⟨[]⟩⟩)), (.sc (.int .i64 0))] [(0, 1, (.loc 11)), (1, 1, (.loc 22)), (2, 1, (.loc 23))], none⟩,
    ⟨(some 25), false, .bslice false 1 3 [(.sc (.int .i64 0)), (.sc (.string ⟨⟨[]⟩⟩)), (.sc (.int .i64 0))] [(0, 3, (.loc 24))], none⟩,
    ⟨(some 26), false, .append 3 32 (.loc 10) (.loc 25), none⟩,
    ⟨(some 27), false, .nilchk (.loc 6), none⟩,
    ⟨(some 28), false, .faddr 3 (.loc 27), none⟩,
    ⟨none, false, .store 1 (.loc 28) (.loc 26), none⟩]
@[simp] def fn18 : HFn := { nargs := 3, results := [], mode := .shared, code := (.region r18_0 (some [ ( 0, [ 0 ] ) , ( 0, [ 0 ] ) , ( 0, [ 7 ] ) , ( 0, [ 8 ] ) , ( 23, [ 9 ] ) , ( 0, [ 1 ] ) , ( 0, [ 0 ] ) , ( 0, [ 12 ] ) , ( 0, [ 13 ] ) , ( 1, [ 14 ] ) , ( 0, [ 2 ] ) , ( 0, [ 0 ] ) , ( 0, [ 17 ] ) , ( 0, [ 18 ] ) , ( 1, [ 19 ] ) , ( 1, [ 15, 16, 20 ] ) , ( 2, [ 21 ] ) , ( 0, [ 2 ] ) , ( 0, [ 11, 22, 23 ] ) , ( 2, [ 24 ] ) , ( 2, [ 10, 25 ] ) , ( 0, [ 6 ] ) , ( 0, [ 27 ] ) , ( 2, [ 28, 26 ] ) ])) }
theorem c18 : cFn Tryd.prog (Hs 18) .shared 18 = some fn18 := by kernel_rfl
/- (*sterling/scan.scanner).ahead -/
@[simp] def r37_0 : List HOp := [⟨(some 4), true, .mv (.val (.tr (.sc (.int .u8 0)))), none⟩]
@[simp] def r37_1 : List HOp := [⟨(some 5), false, .mv (.env 0), none⟩,
      ⟨(some 6), false, .nilchk (.loc 5), none⟩,
      ⟨(some 7), false, .faddr 1 (.loc 6), none⟩,
      ⟨(some 8), false, .load 1 false (.loc 7), none⟩,
      ⟨(some 9), false, .mv (.env 1), none⟩,
      ⟨(some 10), false, .bin .other .add (.loc 8) (.loc 9), none⟩,
      ⟨(some 11), false, .mv (.env 0), none⟩,
      ⟨(some 12), false, .nilchk (.loc 11), none⟩,
      ⟨(some 13), false, .faddr 0 (.loc 12), none⟩,
      ⟨(some 14), false, .load 1 false (.loc 13), none⟩,
      ⟨(some 15), false, .len 1 (.loc 14), none⟩,
      ⟨(some 16), false, .bin .other .geq (.loc 10) (.loc 15), none⟩]
@[simp] def r37_2 : List HOp := [⟨(some 4), true, .mv (.val (.tr (.sc (.int .u8 0)))), none⟩]
@[simp] def r37_3 : List HOp := [⟨(some 17), false, .mv (.env 0), none⟩,
     ⟨(some 18), false, .nilchk (.loc 17), none⟩,
     ⟨(some 19), false, .faddr 0 (.loc 18), none⟩,
     ⟨(some 20), false, .load 1 false (.loc 19), none⟩,
     ⟨(some 21), false, .mv (.env 0), none⟩,
     ⟨(some 22), false, .nilchk (.loc 21), none⟩,
     ⟨(some 23), false, .faddr 1 (.loc 22), none⟩,
     ⟨(some 24), false, .load 1 false (.loc 23), none⟩,
     ⟨(some 25), false, .mv (.env 1), none⟩,
     ⟨(some 26), false, .bin .other .add (.loc 24) (.loc 25), none⟩,
     ⟨(some 27), false, .iaddr 1 (.loc 20) (.loc 26), none⟩,
     ⟨(some 28), false, .load 1 false (.loc 27), none⟩,
     ⟨(some 4), true, .mv (.loc 28), none⟩]
@[simp] def k37_2 : HCode := .seq (.region r37_2 none) .ret
@[simp] def k37_1 : HCode := .cond (.loc 16) k37_2 .skip
def k37_3 : HCode := .seq (.region r37_3 (some [ ( 0, [ 0 ] ) , ( 0, [ 17 ] ) , ( 0, [ 18 ] ) , ( 1, [ 19 ] ) , ( 0, [ 0 ] ) , ( 0, [ 21 ] ) , ( 0, [ 22 ] ) , ( 1, [ 23 ] ) , ( 0, [ 1 ] ) , ( 0, [ 24, 25 ] ) , ( 2, [ 20, 26 ] ) , ( 2, [ 27 ] ) , ( 0, [ 28 ] ) ])) .ret
@[simp] def k37_0 : HCode := .seq (.seq (.region r37_1 (some [ ( 0, [ 0 ] ) , ( 0, [ 5 ] ) , ( 0, [ 6 ] ) , ( 1, [ 7 ] ) , ( 0, [ 1 ] ) , ( 0, [ 8, 9 ] ) , ( 0, [ 0 ] ) , ( 0, [ 11 ] ) , ( 0, [ 12 ] ) , ( 1, [ 13 ] ) , ( 0, [ 14 ] ) , ( 0, [ 10, 15 ] ) ])) k37_1) k37_3
@[simp] def fn37 : HFn := { nargs := 2, results := [.tmp 4], mode := .shared, code := (.seq (.region r37_0 none) k37_0) }
theorem c37 : cFn Tryd.prog (Hs 37) .shared 37 = some fn37 := by kernel_rfl
/- (*sterling/scan.scanner).number -/
@[simp] def r38_0 : List HOp := [⟨(some 2), true, .mv (.val (.tr (.sc (.bool false)))), none⟩]
@[simp] def r38_1 : List HOp := [⟨(some 9), false, .mv (.env 0), none⟩,
     ⟨(some 10), false, .nilchk (.loc 9), none⟩,
     ⟨(some 11), false, .faddr 1 (.loc 10), none⟩,
     ⟨(some 12), false, .load 1 false (.loc 11), none⟩,
     ⟨(some 3), true, .mv (.loc 12), none⟩]
@[simp] def r38_2 : List HOp := [⟨(some 13), false, .mv (.env 0), none⟩,
     ⟨(some 14), false, .mkfn (.func 54) [(.loc 13)] [], none⟩,
     ⟨(some 4), true, .mv (.loc 14), none⟩]
@[simp] def r38_3 : List HOp := [⟨(some 15), false, .mv (.env 0), none⟩,
      ⟨(some 16), false, .callf 37 [(.loc 15), (.val (.tr (.sc (.int .i64 1))))], none⟩,
      ⟨(some 17), false, .bin .other .or (.loc 16) (.val (.tr (.sc (.int .u8 32)))), none⟩,
      ⟨(some 5), true, .mv (.loc 17), none⟩]
@[simp] def r38_4 : List HOp := [⟨(some 18), false, .mv (.env 0), none⟩,
      ⟨(some 19), false, .nilchk (.loc 18), none⟩,
      ⟨(some 20), false, .faddr 0 (.loc 19), none⟩,
      ⟨(some 21), false, .load 1 false (.loc 20), none⟩,
      ⟨(some 22), false, .mv (.env 0), none⟩,
      ⟨(some 23), false, .nilchk (.loc 22), none⟩,
      ⟨(some 24), false, .faddr 1 (.loc 23), none⟩,
      ⟨(some 25), false, .load 1 false (.loc 24), none⟩,
      ⟨(some 26), false, .iaddr 1 (.loc 21) (.loc 25), none⟩,
      ⟨(some 27), false, .load 1 false (.loc 26), none⟩,
      ⟨(some 28), false, .bin .other .eql (.loc 27) (.val (.tr (.sc (.int .u8 48)))), none⟩,
      ⟨(some 29), false, .mv (.loc 28), none⟩,
      ⟨(some 30), false, .mv (.env 5), some ((.loc 29), true)⟩,
      ⟨(some 31), false, .bin .other .eql (.loc 30) (.val (.tr (.sc (.int .u8 120)))), some ((.loc 29), true)⟩,
      ⟨(some 32), false, .mv (.loc 31), some ((.loc 29), true)⟩,
      ⟨(some 33), false, .mv (.env 5), some ((.loc 32), false)⟩,
      ⟨(some 34), false, .bin .other .eql (.loc 33) (.val (.tr (.sc (.int .u8 111)))), some ((.loc 32), false)⟩,
      ⟨(some 35), false, .pick (.loc 32) (.val (.tr (.sc (.bool true)))) (.loc 34), some ((.loc 29), true)⟩,
      ⟨(some 36), false, .mv (.loc 35), some ((.loc 29), true)⟩,
      ⟨(some 37), false, .mv (.env 5), some ((.loc 36), false)⟩,
      ⟨(some 38), false, .bin .other .eql (.loc 37) (.val (.tr (.sc (.int .u8 98)))), some ((.loc 36), false)⟩,
      ⟨(some 39), false, .pick (.loc 36) (.val (.tr (.sc (.bool true)))) (.loc 38), some ((.loc 29), true)⟩,
      ⟨(some 40), false, .pick (.loc 29) (.loc 39) (.val (.tr (.sc (.bool false)))), none⟩]
@[simp] def r38_5 : List HOp := [⟨(some 41), false, .mv (.env 0), none⟩,
      ⟨(some 42), false, .mkfn (.func 55) [(.loc 41)] [], none⟩,
      ⟨(some 4), true, .mv (.loc 42), none⟩]
@[simp] def r38_6 : List HOp := [⟨(some 44), false, .mv (.env 4), none⟩,
     ⟨(some 45), false, .callv (.loc 44) [], none⟩,
     ⟨(some 43), false, .mv (.loc 45), none⟩,
     ⟨(some 46), false, .extract (.loc 43) 0, none⟩,
     ⟨(some 47), false, .extract (.loc 43) 1, none⟩,
     ⟨(some 6), true, .mv (.loc 46), none⟩,
     ⟨(some 7), true, .mv (.loc 47), none⟩]
@[simp] def r38_7 : List HOp := [⟨(some 48), false, .mv (.env 0), none⟩,
      ⟨(some 49), false, .callf 37 [(.loc 48), (.val (.tr (.sc (.int .i64 0))))], none⟩,
      ⟨(some 8), true, .mv (.loc 49), none⟩]
@[simp] def r38_8 : List HOp := [⟨(some 50), false, .mv (.env 7), none⟩,
      ⟨(some 51), false, .un .not (.loc 50), none⟩,
      ⟨(some 52), false, .mv (.loc 51), none⟩,
      ⟨(some 53), false, .mv (.env 8), some ((.loc 52), false)⟩,
      ⟨(some 54), false, .callf 34 [(.loc 53)], some ((.loc 52), false)⟩,
      ⟨(some 55), false, .pick (.loc 52) (.val (.tr (.sc (.bool true)))) (.loc 54), none⟩,
      ⟨(some 56), false, .mv (.loc 55), none⟩,
      ⟨(some 57), false, .mv (.env 8), some ((.loc 56), false)⟩,
      ⟨(some 58), false, .callf 36 [(.loc 57)], some ((.loc 56), false)⟩,
      ⟨(some 59), false, .pick (.loc 56) (.val (.tr (.sc (.bool true)))) (.loc 58), none⟩,
      ⟨(some 60), false, .mv (.loc 59), none⟩,
      ⟨(some 61), false, .mv (.env 8), some ((.loc 60), false)⟩,
      ⟨(some 62), false, .bin .other .eql (.loc 61) (.val (.tr (.sc (.int .u8 46)))), some ((.loc 60), false)⟩,
      ⟨(some 63), false, .pick (.loc 60) (.val (.tr (.sc (.bool true)))) (.loc 62), none⟩]
@[simp] def r38_9 : List HOp := [⟨(some 2), true, .mv (.val (.tr (.sc (.bool false)))), none⟩]
@[simp] def r38_10 : List HOp := [⟨(some 64), false, .mv (.env 0), none⟩,
     ⟨(some 65), false, .mv (.env 6), none⟩,
     ⟨(some 66), false, .mv (.env 3), none⟩,
     ⟨(some 67), false, .callf 18 [(.loc 64), (.loc 65), (.loc 66)], none⟩]
@[simp] def r38_11 : List HOp := [⟨(some 2), true, .mv (.val (.tr (.sc (.bool true)))), none⟩]
@[simp] def k38_4 : HCode := .cond (.loc 40) (.region r38_5 none) .skip
@[simp] def k38_3 : HCode := .seq (.region r38_4 (some [ ( 0, [ 0 ] ) , ( 0, [ 18 ] ) , ( 0, [ 19 ] ) , ( 1, [ 20 ] ) , ( 0, [ 0 ] ) , ( 0, [ 22 ] ) , ( 0, [ 23 ] ) , ( 1, [ 24 ] ) , ( 2, [ 21, 25 ] ) , ( 2, [ 26 ] ) , ( 0, [ 27 ] ) , ( 0, [ 28 ] ) , ( 0, [ 5, 29 ] ) , ( 0, [ 30, 29 ] ) , ( 0, [ 31, 29 ] ) , ( 0, [ 5, 32 ] ) , ( 0, [ 33, 32 ] ) , ( 0, [ 32, 34, 29 ] ) , ( 0, [ 35, 29 ] ) , ( 0, [ 5, 36 ] ) , ( 0, [ 37, 36 ] ) , ( 0, [ 36, 38, 29 ] ) , ( 0, [ 29, 39 ] ) ])) k38_4
@[simp] def k38_9 : HCode := .seq (.region r38_9 none) .ret
@[simp] def k38_8 : HCode := .cond (.loc 63) k38_9 .skip
@[simp] def k38_7 : HCode := .seq (.region r38_8 none) k38_8
@[simp] def k38_11 : HCode := .seq (.region r38_11 none) .ret
def k38_10 : HCode := .seq (.region r38_10 none) k38_11
@[simp] def k38_6 : HCode := .seq (.seq (.region r38_7 none) k38_7) k38_10
def k38_5 : HCode := .seq (.region r38_6 none) k38_6
@[simp] def k38_2 : HCode := .seq (.seq (.region r38_3 none) k38_3) k38_5
@[simp] def k38_1 : HCode := .seq (.region r38_2 none) k38_2
@[simp] def k38_0 : HCode := .seq (.region r38_1 none) k38_1
@[simp] def fn38 : HFn := { nargs := 1, results := [.tmp 2], mode := .shared, code := (.seq (.region r38_0 none) k38_0) }
theorem c38 : cFn Tryd.prog (Hs 38) .shared 38 = some fn38 := by kernel_rfl
/- (*sterling/scan.scanner).plain -/
@[simp] def r54_0 : List HOp := [⟨(some 2), true, .mv (.val (.tr (.sc (.int .i64 0)))), none⟩,
     ⟨(some 3), true, .mv (.val (.tr (.sc (.bool false)))), none⟩]
@[simp] def r54_1 : List HOp := [⟨(some 10), false, .mv (.env 0), none⟩,
     ⟨(some 11), false, .nilchk (.loc 10), none⟩,
     ⟨(some 12), false, .faddr 1 (.loc 11), none⟩,
     ⟨(some 13), false, .load 1 false (.loc 12), none⟩,
     ⟨(some 4), true, .mv (.loc 13), none⟩]
@[simp] def r54_2 : List HOp := [⟨(some 14), false, .mv (.env 0), none⟩,
     ⟨(some 15), false, .callf 52 [(.loc 14), (.val (.tr (.fn (.func 36) [] [])))], none⟩,
     ⟨(some 5), true, .mv (.loc 15), none⟩]
@[simp] def r54_3 : List HOp := [⟨(some 16), false, .mv (.env 5), none⟩,
     ⟨(some 17), false, .bin .other .eql (.loc 16) (.val (.tr (.sc (.int .i64 1)))), none⟩,
     ⟨(some 18), false, .mv (.loc 17), none⟩,
     ⟨(some 19), false, .mv (.env 0), some ((.loc 18), false)⟩,
     ⟨(some 20), false, .nilchk (.loc 19), some ((.loc 18), false)⟩,
     ⟨(some 21), false, .faddr 0 (.loc 20), some ((.loc 18), false)⟩,
     ⟨(some 22), false, .load 1 false (.loc 21), some ((.loc 18), false)⟩,
     ⟨(some 23), false, .mv (.env 4), some ((.loc 18), false)⟩,
     ⟨(some 24), false, .iaddr 1 (.loc 22) (.loc 23), some ((.loc 18), false)⟩,
     ⟨(some 25), false, .load 1 false (.loc 24), some ((.loc 18), false)⟩,
     ⟨(some 26), false, .bin .other .neq (.loc 25) (.val (.tr (.sc (.int .u8 48)))), some ((.loc 18), false)⟩,
     ⟨(some 27), false, .pick (.loc 18) (.val (.tr (.sc (.bool true)))) (.loc 26), none⟩,
     ⟨(some 6), true, .mv (.loc 27), none⟩]
@[simp] def r54_4 : List HOp := [⟨(some 28), false, .mv (.env 0), none⟩,
     ⟨(some 29), false, .callf 37 [(.loc 28), (.val (.tr (.sc (.int .i64 0))))], none⟩,
     ⟨(some 30), false, .bin .other .eql (.loc 29) (.val (.tr (.sc (.int .u8 46)))), none⟩,
     ⟨(some 7), true, .mv (.loc 30), none⟩]
@[simp] def r54_5 : List HOp := [⟨(some 31), false, .mv (.env 7), none⟩]
@[simp] def r54_6 : List HOp := [⟨(some 32), false, .mv (.env 0), none⟩,
       ⟨(some 33), false, .nilchk (.loc 32), none⟩,
       ⟨(some 34), false, .faddr 1 (.loc 33), none⟩,
       ⟨(some 35), false, .load 1 false (.loc 34), none⟩,
       ⟨(some 36), false, .bin .other .add (.loc 35) (.val (.tr (.sc (.int .i64 1)))), none⟩,
       ⟨(some 37), false, .nilchk (.loc 32), none⟩,
       ⟨(some 38), false, .faddr 1 (.loc 37), none⟩,
       ⟨none, false, .store 1 (.loc 38) (.loc 36), none⟩]
@[simp] def r54_7 : List HOp := [⟨(some 39), false, .mv (.env 5), none⟩,
      ⟨(some 40), false, .mv (.env 0), none⟩,
      ⟨(some 41), false, .callf 52 [(.loc 40), (.val (.tr (.fn (.func 36) [] [])))], none⟩,
      ⟨(some 42), false, .bin .other .add (.loc 39) (.loc 41), none⟩,
      ⟨(some 5), true, .mv (.loc 42), none⟩]
@[simp] def r54_8 : List HOp := [⟨(some 44), false, .mv (.env 0), none⟩,
     ⟨(some 45), false, .callf 70 [(.loc 44), (.val (.tr (.sc (.int .u8 101))))], none⟩,
     ⟨(some 43), false, .mv (.loc 45), none⟩,
     ⟨(some 46), false, .extract (.loc 43) 0, none⟩,
     ⟨(some 47), false, .extract (.loc 43) 1, none⟩,
     ⟨(some 8), true, .mv (.loc 46), none⟩,
     ⟨(some 9), true, .mv (.loc 47), none⟩]
@[simp] def r54_9 : List HOp := [⟨(some 48), false, .mv (.env 7), none⟩,
      ⟨(some 49), false, .mv (.loc 48), none⟩,
      ⟨(some 50), false, .mv (.env 8), some ((.loc 49), false)⟩,
      ⟨(some 51), false, .pick (.loc 49) (.val (.tr (.sc (.bool true)))) (.loc 50), none⟩]
@[simp] def r54_10 : List HOp := [⟨(some 52), false, .mv (.env 9), none⟩,
       ⟨(some 53), false, .mv (.loc 52), none⟩,
       ⟨(some 54), false, .mv (.env 5), some ((.loc 53), true)⟩,
       ⟨(some 55), false, .bin .other .gtr (.loc 54) (.val (.tr (.sc (.int .i64 0)))), some ((.loc 53), true)⟩,
       ⟨(some 56), false, .pick (.loc 53) (.loc 55) (.val (.tr (.sc (.bool false)))), none⟩,
       ⟨(some 2), true, .mv (.val (.tr (.sc (.int .i64 3)))), none⟩,
       ⟨(some 3), true, .mv (.loc 56), none⟩]
@[simp] def r54_11 : List HOp := [⟨(some 57), false, .mv (.env 6), none⟩,
     ⟨(some 2), true, .mv (.val (.tr (.sc (.int .i64 2)))), none⟩,
     ⟨(some 3), true, .mv (.loc 57), none⟩]
@[simp] def k54_6 : HCode := .seq (.region r54_6 none) (.region r54_7 none)
@[simp] def k54_5 : HCode := .cond (.loc 31) k54_6 .skip
@[simp] def k54_10 : HCode := .seq (.region r54_10 none) .ret
@[simp] def k54_9 : HCode := .cond (.loc 51) k54_10 .skip
def k54_11 : HCode := .seq (.region r54_11 none) .ret
@[simp] def k54_8 : HCode := .seq (.seq (.region r54_9 none) k54_9) k54_11
def k54_7 : HCode := .seq (.region r54_8 none) k54_8
@[simp] def k54_4 : HCode := .seq (.seq (.region r54_5 none) k54_5) k54_7
@[simp] def k54_3 : HCode := .seq (.region r54_4 none) k54_4
@[simp] def k54_2 : HCode := .seq (.region r54_3 none) k54_3
@[simp] def k54_1 : HCode := .seq (.region r54_2 none) k54_2
@[simp] def k54_0 : HCode := .seq (.region r54_1 none) k54_1
@[simp] def fn54 : HFn := { nargs := 1, results := [.tmp 2, .tmp 3], mode := .shared, code := (.seq (.region r54_0 none) k54_0) }
theorem c54 : cFn Tryd.prog (Hs 54) .shared 54 = some fn54 := by kernel_rfl
/- (*sterling/scan.scanner).exponent -/
@[simp] def r70_0 : List HOp := [⟨(some 4), true, .mv (.val (.tr (.sc (.bool false)))), none⟩,
     ⟨(some 5), true, .mv (.val (.tr (.sc (.bool false)))), none⟩]
@[simp] def r70_1 : List HOp := [⟨(some 10), false, .mv (.env 0), none⟩,
      ⟨(some 11), false, .callf 37 [(.loc 10), (.val (.tr (.sc (.int .i64 0))))], none⟩,
      ⟨(some 12), false, .bin .other .or (.loc 11) (.val (.tr (.sc (.int .u8 32)))), none⟩,
      ⟨(some 13), false, .mv (.env 1), none⟩,
      ⟨(some 14), false, .bin .other .neq (.loc 12) (.loc 13), none⟩]
@[simp] def r70_2 : List HOp := [⟨(some 4), true, .mv (.val (.tr (.sc (.bool false)))), none⟩,
       ⟨(some 5), true, .mv (.val (.tr (.sc (.bool true)))), none⟩]
@[simp] def r70_3 : List HOp := [⟨(some 15), false, .mv (.env 0), none⟩,
     ⟨(some 16), false, .nilchk (.loc 15), none⟩,
     ⟨(some 17), false, .faddr 1 (.loc 16), none⟩,
     ⟨(some 18), false, .load 1 false (.loc 17), none⟩,
     ⟨(some 19), false, .bin .other .add (.loc 18) (.val (.tr (.sc (.int .i64 1)))), none⟩,
     ⟨(some 20), false, .nilchk (.loc 15), none⟩,
     ⟨(some 21), false, .faddr 1 (.loc 20), none⟩,
     ⟨none, false, .store 1 (.loc 21) (.loc 19), none⟩]
@[simp] def r70_4 : List HOp := [⟨(some 22), false, .mv (.env 0), none⟩,
      ⟨(some 23), false, .callf 37 [(.loc 22), (.val (.tr (.sc (.int .i64 0))))], none⟩,
      ⟨(some 6), true, .mv (.loc 23), none⟩]
@[simp] def r70_5 : List HOp := [⟨(some 24), false, .mv (.env 6), none⟩,
      ⟨(some 25), false, .bin .other .eql (.loc 24) (.val (.tr (.sc (.int .u8 43)))), none⟩,
      ⟨(some 26), false, .mv (.loc 25), none⟩,
      ⟨(some 27), false, .mv (.env 6), some ((.loc 26), false)⟩,
      ⟨(some 28), false, .bin .other .eql (.loc 27) (.val (.tr (.sc (.int .u8 45)))), some ((.loc 26), false)⟩,
      ⟨(some 29), false, .pick (.loc 26) (.val (.tr (.sc (.bool true)))) (.loc 28), none⟩]
@[simp] def r70_6 : List HOp := [⟨(some 30), false, .mv (.env 0), none⟩,
      ⟨(some 31), false, .nilchk (.loc 30), none⟩,
      ⟨(some 32), false, .faddr 1 (.loc 31), none⟩,
      ⟨(some 33), false, .load 1 false (.loc 32), none⟩,
      ⟨(some 34), false, .bin .other .add (.loc 33) (.val (.tr (.sc (.int .i64 1)))), none⟩,
      ⟨(some 35), false, .nilchk (.loc 30), none⟩,
      ⟨(some 36), false, .faddr 1 (.loc 35), none⟩,
      ⟨none, false, .store 1 (.loc 36) (.loc 34), none⟩]
@[simp] def r70_7 : List HOp := [⟨(some 37), false, .mv (.env 0), none⟩,
     ⟨(some 38), false, .nilchk (.loc 37), none⟩,
     ⟨(some 39), false, .faddr 1 (.loc 38), none⟩,
     ⟨(some 40), false, .load 1 false (.loc 39), none⟩,
     ⟨(some 7), true, .mv (.loc 40), none⟩]
@[simp] def r70_8 : List HOp := [⟨(some 41), false, .mv (.env 0), none⟩,
     ⟨(some 42), false, .callf 52 [(.loc 41), (.val (.tr (.fn (.func 36) [] [])))], none⟩,
     ⟨(some 8), true, .mv (.loc 42), none⟩]
@[simp] def r70_9 : List HOp := [⟨(some 43), false, .mv (.env 0), none⟩,
     ⟨(some 44), false, .nilchk (.loc 43), none⟩,
     ⟨(some 45), false, .faddr 0 (.loc 44), none⟩,
     ⟨(some 46), false, .load 1 false (.loc 45), none⟩,
     ⟨(some 47), false, .mv (.env 7), none⟩,
     ⟨(some 48), false, .mv (.env 0), none⟩,
     ⟨(some 49), false, .nilchk (.loc 48), none⟩,
     ⟨(some 50), false, .faddr 1 (.loc 49), none⟩,
     ⟨(some 51), false, .load 1 false (.loc 50), none⟩,
     ⟨(some 52), false, .slice 1 (.loc 46) (some (.loc 47)) (some (.loc 51)) none, none⟩,
     ⟨(some 53), false, .conv .bytesStr (.loc 52), none⟩,
     ⟨(some 54), false, .callf 84 [(.loc 53), (.val (.tr (.sc (.string ⟨⟨[48]⟩⟩))))], none⟩,
     ⟨(some 9), true, .mv (.loc 54), none⟩]
@[simp] def r70_10 : List HOp := [⟨(some 55), false, .mv (.env 8), none⟩,
     ⟨(some 56), false, .bin .other .gtr (.loc 55) (.val (.tr (.sc (.int .i64 0)))), none⟩,
     ⟨(some 57), false, .mv (.loc 56), none⟩,
     ⟨(some 58), false, .mv (.env 9), some ((.loc 57), true)⟩,
     ⟨(some 59), false, .len 0 (.loc 58), some ((.loc 57), true)⟩,
     ⟨(some 60), false, .bin .other .leq (.loc 59) (.val (.tr (.sc (.int .i64 3)))), some ((.loc 57), true)⟩,
     ⟨(some 61), false, .pick (.loc 57) (.loc 60) (.val (.tr (.sc (.bool false)))), none⟩,
     ⟨(some 4), true, .mv (.val (.tr (.sc (.bool true)))), none⟩,
     ⟨(some 5), true, .mv (.loc 61), none⟩]
@[simp] def k70_2 : HCode := .seq (.region r70_2 none) .ret
@[simp] def k70_1 : HCode := .cond (.loc 14) k70_2 .skip
@[simp] def k70_6 : HCode := .cond (.loc 29) (.region r70_6 none) .skip
@[simp] def k70_5 : HCode := .seq (.region r70_5 none) k70_6
@[simp] def k70_10 : HCode := .seq (.region r70_10 none) .ret
@[simp] def k70_9 : HCode := .seq (.region r70_9 (some [ ( 0, [ 0 ] ) , ( 0, [ 43 ] ) , ( 0, [ 44 ] ) , ( 1, [ 45 ] ) , ( 0, [ 7 ] ) , ( 0, [ 0 ] ) , ( 0, [ 48 ] ) , ( 0, [ 49 ] ) , ( 1, [ 50 ] ) , ( 2, [ 46, 47, 51 ] ) , ( 2, [ 52 ] ) , ( 2, [ 53 ] ) , ( 0, [ 54 ] ) ])) k70_10
@[simp] def k70_8 : HCode := .seq (.region r70_8 none) k70_9
def k70_7 : HCode := .seq (.region r70_7 none) k70_8
@[simp] def k70_4 : HCode := .seq (.seq (.region r70_4 none) k70_5) k70_7
def k70_3 : HCode := .seq (.region r70_3 none) k70_4
@[simp] def k70_0 : HCode := .seq (.seq (.region r70_1 none) k70_1) k70_3
@[simp] def fn70 : HFn := { nargs := 2, results := [.tmp 4, .tmp 5], mode := .shared, code := (.seq (.region r70_0 none) k70_0) }
theorem c70 : cFn Tryd.prog (Hs 70) .shared 70 = some fn70 := by kernel_rfl
/- (*sterling/scan.scanner).prefixed -/
@[simp] def r55_0 : List HOp := [⟨(some 2), true, .mv (.val (.tr (.sc (.int .i64 0)))), none⟩,
     ⟨(some 3), true, .mv (.val (.tr (.sc (.bool false)))), none⟩]
@[simp] def r55_1 : List HOp := [⟨(some 9), false, .mv (.env 0), none⟩,
     ⟨(some 10), false, .callf 37 [(.loc 9), (.val (.tr (.sc (.int .i64 1))))], none⟩,
     ⟨(some 11), false, .bin .other .or (.loc 10) (.val (.tr (.sc (.int .u8 32)))), none⟩,
     ⟨(some 4), true, .mv (.loc 11), none⟩]
@[simp] def r55_2 : List HOp := [⟨(some 12), false, .mv (.env 0), none⟩,
     ⟨(some 13), false, .nilchk (.loc 12), none⟩,
     ⟨(some 14), false, .faddr 1 (.loc 13), none⟩,
     ⟨(some 15), false, .load 1 false (.loc 14), none⟩,
     ⟨(some 16), false, .bin .other .add (.loc 15) (.val (.tr (.sc (.int .i64 2)))), none⟩,
     ⟨(some 17), false, .nilchk (.loc 12), none⟩,
     ⟨(some 18), false, .faddr 1 (.loc 17), none⟩,
     ⟨none, false, .store 1 (.loc 18) (.loc 16), none⟩]
@[simp] def r55_3 : List HOp := [⟨(some 19), true, .mv (.env 4), none⟩]
@[simp] def r55_4 : List HOp := [⟨(some 21), false, .bin .other .eql (.env 19) (.val (.tr (.sc (.int .u8 111)))), none⟩,
       ⟨(some 20), false, .mv (.loc 21), none⟩]
@[simp] def r55_5 : List HOp := [⟨(some 22), false, .mv (.env 0), none⟩,
        ⟨(some 23), false, .callf 52 [(.loc 22), (.val (.tr (.fn (.func 71) [] [])))], none⟩,
        ⟨(some 24), false, .bin .other .gtr (.loc 23) (.val (.tr (.sc (.int .i64 0)))), none⟩,
        ⟨(some 2), true, .mv (.val (.tr (.sc (.int .i64 2)))), none⟩,
        ⟨(some 3), true, .mv (.loc 24), none⟩]
@[simp] def r55_6 : List HOp := [⟨(some 26), false, .bin .other .eql (.env 19) (.val (.tr (.sc (.int .u8 98)))), none⟩,
        ⟨(some 25), false, .mv (.loc 26), none⟩]
@[simp] def r55_7 : List HOp := [⟨(some 27), false, .mv (.env 0), none⟩,
         ⟨(some 28), false, .callf 52 [(.loc 27), (.val (.tr (.fn (.func 72) [] [])))], none⟩,
         ⟨(some 29), false, .bin .other .gtr (.loc 28) (.val (.tr (.sc (.int .i64 0)))), none⟩,
         ⟨(some 2), true, .mv (.val (.tr (.sc (.int .i64 2)))), none⟩,
         ⟨(some 3), true, .mv (.loc 29), none⟩]
@[simp] def r55_8 : List HOp := [⟨(some 30), false, .mv (.env 0), none⟩,
     ⟨(some 31), false, .callf 52 [(.loc 30), (.val (.tr (.fn (.func 57) [] [])))], none⟩,
     ⟨(some 5), true, .mv (.loc 31), none⟩,
     ⟨(some 6), true, .mv (.val (.tr (.sc (.bool false)))), none⟩]
@[simp] def r55_9 : List HOp := [⟨(some 32), false, .mv (.env 0), none⟩,
      ⟨(some 33), false, .callf 37 [(.loc 32), (.val (.tr (.sc (.int .i64 0))))], none⟩,
      ⟨(some 34), false, .bin .other .eql (.loc 33) (.val (.tr (.sc (.int .u8 46)))), none⟩]
@[simp] def r55_10 : List HOp := [⟨(some 35), false, .mv (.env 0), none⟩,
       ⟨(some 36), false, .nilchk (.loc 35), none⟩,
       ⟨(some 37), false, .faddr 1 (.loc 36), none⟩,
       ⟨(some 38), false, .load 1 false (.loc 37), none⟩,
       ⟨(some 39), false, .bin .other .add (.loc 38) (.val (.tr (.sc (.int .i64 1)))), none⟩,
       ⟨(some 40), false, .nilchk (.loc 35), none⟩,
       ⟨(some 41), false, .faddr 1 (.loc 40), none⟩,
       ⟨none, false, .store 1 (.loc 41) (.loc 39), none⟩]
@[simp] def r55_11 : List HOp := [⟨(some 6), true, .mv (.val (.tr (.sc (.bool true)))), none⟩]
@[simp] def r55_12 : List HOp := [⟨(some 42), false, .mv (.env 5), none⟩,
      ⟨(some 43), false, .mv (.env 0), none⟩,
      ⟨(some 44), false, .callf 52 [(.loc 43), (.val (.tr (.fn (.func 57) [] [])))], none⟩,
      ⟨(some 45), false, .bin .other .add (.loc 42) (.loc 44), none⟩,
      ⟨(some 5), true, .mv (.loc 45), none⟩]
@[simp] def r55_13 : List HOp := [⟨(some 47), false, .mv (.env 0), none⟩,
     ⟨(some 48), false, .callf 70 [(.loc 47), (.val (.tr (.sc (.int .u8 112))))], none⟩,
     ⟨(some 46), false, .mv (.loc 48), none⟩,
     ⟨(some 49), false, .extract (.loc 46) 0, none⟩,
     ⟨(some 50), false, .extract (.loc 46) 1, none⟩,
     ⟨(some 7), true, .mv (.loc 49), none⟩,
     ⟨(some 8), true, .mv (.loc 50), none⟩]
@[simp] def r55_14 : List HOp := [⟨(some 51), false, .mv (.env 7), none⟩]
@[simp] def r55_15 : List HOp := [⟨(some 52), false, .mv (.env 8), none⟩,
       ⟨(some 53), false, .mv (.loc 52), none⟩,
       ⟨(some 54), false, .mv (.env 5), some ((.loc 53), true)⟩,
       ⟨(some 55), false, .bin .other .gtr (.loc 54) (.val (.tr (.sc (.int .i64 0)))), some ((.loc 53), true)⟩,
       ⟨(some 56), false, .pick (.loc 53) (.loc 55) (.val (.tr (.sc (.bool false)))), none⟩,
       ⟨(some 2), true, .mv (.val (.tr (.sc (.int .i64 3)))), none⟩,
       ⟨(some 3), true, .mv (.loc 56), none⟩]
@[simp] def r55_16 : List HOp := [⟨(some 57), false, .mv (.env 5), none⟩,
     ⟨(some 58), false, .bin .other .gtr (.loc 57) (.val (.tr (.sc (.int .i64 0)))), none⟩,
     ⟨(some 59), false, .mv (.loc 58), none⟩,
     ⟨(some 60), false, .mv (.env 6), some ((.loc 59), true)⟩,
     ⟨(some 61), false, .un .not (.loc 60), some ((.loc 59), true)⟩,
     ⟨(some 62), false, .pick (.loc 59) (.loc 61) (.val (.tr (.sc (.bool false)))), none⟩,
     ⟨(some 2), true, .mv (.val (.tr (.sc (.int .i64 2)))), none⟩,
     ⟨(some 3), true, .mv (.loc 62), none⟩]
@[simp] def k55_5 : HCode := .seq (.region r55_5 none) .ret
@[simp] def k55_8 : HCode := .seq (.region r55_7 none) .ret
@[simp] def k55_7 : HCode := .cond (.loc 25) k55_8 .skip
@[simp] def k55_6 : HCode := .seq (.region r55_6 none) k55_7
@[simp] def k55_4 : HCode := .cond (.loc 20) k55_5 k55_6
@[simp] def k55_3 : HCode := .block 0 (.seq (.region r55_4 none) k55_4)
@[simp] def k55_13 : HCode := .seq (.region r55_11 none) (.region r55_12 none)
@[simp] def k55_12 : HCode := .seq (.region r55_10 none) k55_13
@[simp] def k55_11 : HCode := .cond (.loc 34) k55_12 .skip
@[simp] def k55_17 : HCode := .seq (.region r55_15 none) .ret
@[simp] def k55_16 : HCode := .cond (.loc 51) k55_17 .skip
def k55_18 : HCode := .seq (.region r55_16 none) .ret
@[simp] def k55_15 : HCode := .seq (.seq (.region r55_14 none) k55_16) k55_18
def k55_14 : HCode := .seq (.region r55_13 none) k55_15
@[simp] def k55_10 : HCode := .seq (.seq (.region r55_9 none) k55_11) k55_14
def k55_9 : HCode := .seq (.region r55_8 none) k55_10
@[simp] def k55_2 : HCode := .seq (.seq (.region r55_3 none) k55_3) k55_9
@[simp] def k55_1 : HCode := .seq (.region r55_2 none) k55_2
@[simp] def k55_0 : HCode := .seq (.region r55_1 none) k55_1
@[simp] def fn55 : HFn := { nargs := 1, results := [.tmp 2, .tmp 3], mode := .shared, code := (.seq (.region r55_0 none) k55_0) }
theorem c55 : cFn Tryd.prog (Hs 55) .shared 55 = some fn55 := by kernel_rfl
/- sterling/scan.octal -/
@[simp] def r71_0 : List HOp := [⟨(some 2), true, .mv (.val (.tr (.sc (.bool false)))), none⟩]
@[simp] def r71_1 : List HOp := [⟨(some 3), false, .mv (.env 0), none⟩,
     ⟨(some 4), false, .bin .other .geq (.loc 3) (.val (.tr (.sc (.int .u8 48)))), none⟩,
     ⟨(some 5), false, .mv (.loc 4), none⟩,
     ⟨(some 6), false, .mv (.env 0), some ((.loc 5), true)⟩,
     ⟨(some 7), false, .bin .other .leq (.loc 6) (.val (.tr (.sc (.int .u8 55)))), some ((.loc 5), true)⟩,
     ⟨(some 8), false, .pick (.loc 5) (.loc 7) (.val (.tr (.sc (.bool false)))), none⟩,
     ⟨(some 2), true, .mv (.loc 8), none⟩]
@[simp] def k71_0 : HCode := .seq (.region r71_1 none) .ret
@[simp] def fn71 : HFn := { nargs := 1, results := [.tmp 2], mode := .iso, code := (.seq (.region r71_0 none) k71_0) }
theorem c71 : cFn Tryd.prog (Hs 71) .iso 71 = some fn71 := by kernel_rfl
/- sterling/scan.binary -/
@[simp] def r72_0 : List HOp := [⟨(some 2), true, .mv (.val (.tr (.sc (.bool false)))), none⟩]
@[simp] def r72_1 : List HOp := [⟨(some 3), false, .mv (.env 0), none⟩,
     ⟨(some 4), false, .bin .other .eql (.loc 3) (.val (.tr (.sc (.int .u8 48)))), none⟩,
     ⟨(some 5), false, .mv (.loc 4), none⟩,
     ⟨(some 6), false, .mv (.env 0), some ((.loc 5), false)⟩,
     ⟨(some 7), false, .bin .other .eql (.loc 6) (.val (.tr (.sc (.int .u8 49)))), some ((.loc 5), false)⟩,
     ⟨(some 8), false, .pick (.loc 5) (.val (.tr (.sc (.bool true)))) (.loc 7), none⟩,
     ⟨(some 2), true, .mv (.loc 8), none⟩]
@[simp] def k72_0 : HCode := .seq (.region r72_1 none) .ret
@[simp] def fn72 : HFn := { nargs := 1, results := [.tmp 2], mode := .iso, code := (.seq (.region r72_0 none) k72_0) }
theorem c72 : cFn Tryd.prog (Hs 72) .iso 72 = some fn72 := by kernel_rfl
/- sterling/scan.hex -/
@[simp] def r57_0 : List HOp := [⟨(some 2), true, .mv (.val (.tr (.sc (.bool false)))), none⟩]
@[simp] def r57_1 : List HOp := [⟨(some 3), false, .mv (.env 0), none⟩,
     ⟨(some 4), false, .callf 36 [(.loc 3)], none⟩,
     ⟨(some 5), false, .mv (.loc 4), none⟩,
     ⟨(some 6), false, .mv (.env 0), some ((.loc 5), false)⟩,
     ⟨(some 7), false, .bin .other .or (.loc 6) (.val (.tr (.sc (.int .u8 32)))), some ((.loc 5), false)⟩,
     ⟨(some 8), false, .bin .other .geq (.loc 7) (.val (.tr (.sc (.int .u8 97)))), some ((.loc 5), false)⟩,
     ⟨(some 9), false, .mv (.loc 8), some ((.loc 5), false)⟩,
     ⟨(some 10), false, .mv (.env 0), some ((.loc 9), true)⟩,
     ⟨(some 11), false, .bin .other .or (.loc 10) (.val (.tr (.sc (.int .u8 32)))), some ((.loc 9), true)⟩,
     ⟨(some 12), false, .bin .other .leq (.loc 11) (.val (.tr (.sc (.int .u8 102)))), some ((.loc 9), true)⟩,
     ⟨(some 13), false, .pick (.loc 9) (.loc 12) (.val (.tr (.sc (.bool false)))), some ((.loc 5), false)⟩,
     ⟨(some 14), false, .pick (.loc 5) (.val (.tr (.sc (.bool true)))) (.loc 13), none⟩,
     ⟨(some 2), true, .mv (.loc 14), none⟩]
@[simp] def k57_0 : HCode := .seq (.region r57_1 none) .ret
@[simp] def fn57 : HFn := { nargs := 1, results := [.tmp 2], mode := .iso, code := (.seq (.region r57_0 none) k57_0) }
theorem c57 : cFn Tryd.prog (Hs 57) .iso 57 = some fn57 := by kernel_rfl
/- (*sterling/scan.scanner).quoted -/
@[simp] def r27_0 : List HOp := [⟨(some 2), true, .mv (.val (.tr (.sc (.bool false)))), none⟩]
@[simp] def r27_1 : List HOp := [⟨(some 7), false, .mv (.env 0), none⟩,
     ⟨(some 8), false, .nilchk (.loc 7), none⟩,
     ⟨(some 9), false, .faddr 0 (.loc 8), none⟩,
     ⟨(some 10), false, .load 1 false (.loc 9), none⟩,
     ⟨(some 11), false, .mv (.env 0), none⟩,
     ⟨(some 12), false, .nilchk (.loc 11), none⟩,
     ⟨(some 13), false, .faddr 1 (.loc 12), none⟩,
     ⟨(some 14), false, .load 1 false (.loc 13), none⟩,
     ⟨(some 15), false, .iaddr 1 (.loc 10) (.loc 14), none⟩,
     ⟨(some 16), false, .load 1 false (.loc 15), none⟩,
     ⟨(some 3), true, .mv (.loc 16), none⟩]
@[simp] def r27_2 : List HOp := [⟨(some 17), false, .mv (.env 0), none⟩,
     ⟨(some 18), false, .nilchk (.loc 17), none⟩,
     ⟨(some 19), false, .faddr 1 (.loc 18), none⟩,
     ⟨(some 20), false, .load 1 false (.loc 19), none⟩,
     ⟨(some 21), false, .bin .other .add (.loc 20) (.val (.tr (.sc (.int .i64 1)))), none⟩,
     ⟨(some 22), false, .nilchk (.loc 17), none⟩,
     ⟨(some 23), false, .faddr 1 (.loc 22), none⟩,
     ⟨none, false, .store 1 (.loc 23) (.loc 21), none⟩]
@[simp] def r27_3 : List HOp := [⟨(some 24), false, .mv (.env 0), none⟩,
         ⟨(some 25), false, .nilchk (.loc 24), none⟩,
         ⟨(some 26), false, .faddr 1 (.loc 25), none⟩,
         ⟨(some 27), false, .load 1 false (.loc 26), none⟩,
         ⟨(some 28), false, .mv (.env 0), none⟩,
         ⟨(some 29), false, .nilchk (.loc 28), none⟩,
         ⟨(some 30), false, .faddr 0 (.loc 29), none⟩,
         ⟨(some 31), false, .load 1 false (.loc 30), none⟩,
         ⟨(some 32), false, .len 1 (.loc 31), none⟩,
         ⟨(some 33), false, .bin .other .lss (.loc 27) (.loc 32), none⟩]
@[simp] def r27_4 : List HOp := [⟨(some 34), false, .mv (.env 0), none⟩,
         ⟨(some 35), false, .nilchk (.loc 34), none⟩,
         ⟨(some 36), false, .faddr 0 (.loc 35), none⟩,
         ⟨(some 37), false, .load 1 false (.loc 36), none⟩,
         ⟨(some 38), false, .mv (.env 0), none⟩,
         ⟨(some 39), false, .nilchk (.loc 38), none⟩,
         ⟨(some 40), false, .faddr 1 (.loc 39), none⟩,
         ⟨(some 41), false, .load 1 false (.loc 40), none⟩,
         ⟨(some 42), false, .iaddr 1 (.loc 37) (.loc 41), none⟩,
         ⟨(some 43), false, .load 1 false (.loc 42), none⟩,
         ⟨(some 4), true, .mv (.loc 43), none⟩]
@[simp] def r27_5 : List HOp := [⟨(some 72), false, .mv (.env 4), none⟩,
          ⟨(some 73), false, .mv (.env 3), none⟩,
          ⟨(some 74), false, .bin .other .eql (.loc 72) (.loc 73), none⟩,
          ⟨(some 71), false, .mv (.loc 74), none⟩]
@[simp] def r27_6 : List HOp := [⟨(some 75), false, .mv (.env 0), none⟩,
           ⟨(some 76), false, .nilchk (.loc 75), none⟩,
           ⟨(some 77), false, .faddr 1 (.loc 76), none⟩,
           ⟨(some 78), false, .load 1 false (.loc 77), none⟩,
           ⟨(some 79), false, .bin .other .add (.loc 78) (.val (.tr (.sc (.int .i64 1)))), none⟩,
           ⟨(some 80), false, .nilchk (.loc 75), none⟩,
           ⟨(some 81), false, .faddr 1 (.loc 80), none⟩,
           ⟨none, false, .store 1 (.loc 81) (.loc 79), none⟩]
@[simp] def r27_7 : List HOp := [⟨(some 2), true, .mv (.val (.tr (.sc (.bool true)))), none⟩]
@[simp] def r27_8 : List HOp := [⟨(some 83), false, .mv (.env 4), none⟩,
           ⟨(some 84), false, .bin .other .eql (.loc 83) (.val (.tr (.sc (.int .u8 10)))), none⟩,
           ⟨(some 85), false, .mv (.loc 84), none⟩,
           ⟨(some 86), false, .mv (.env 3), some ((.loc 85), true)⟩,
           ⟨(some 87), false, .bin .other .eql (.loc 86) (.val (.tr (.sc (.int .u8 34)))), some ((.loc 85), true)⟩,
           ⟨(some 88), false, .pick (.loc 85) (.loc 87) (.val (.tr (.sc (.bool false)))), none⟩,
           ⟨(some 82), false, .mv (.loc 88), none⟩]
@[simp] def r27_9 : List HOp := [⟨(some 2), true, .mv (.val (.tr (.sc (.bool false)))), none⟩]
@[simp] def r27_10 : List HOp := [⟨(some 90), false, .mv (.env 4), none⟩,
            ⟨(some 91), false, .bin .other .eql (.loc 90) (.val (.tr (.sc (.int .u8 92)))), none⟩,
            ⟨(some 92), false, .mv (.loc 91), none⟩,
            ⟨(some 93), false, .mv (.env 3), some ((.loc 92), true)⟩,
            ⟨(some 94), false, .bin .other .eql (.loc 93) (.val (.tr (.sc (.int .u8 34)))), some ((.loc 92), true)⟩,
            ⟨(some 95), false, .pick (.loc 92) (.loc 94) (.val (.tr (.sc (.bool false)))), none⟩,
            ⟨(some 89), false, .mv (.loc 95), none⟩]
@[simp] def r27_11 : List HOp := [⟨(some 96), false, .mv (.env 0), none⟩,
             ⟨(some 97), false, .nilchk (.loc 96), none⟩,
             ⟨(some 98), false, .faddr 1 (.loc 97), none⟩,
             ⟨(some 99), false, .load 1 false (.loc 98), none⟩,
             ⟨(some 100), false, .bin .other .add (.loc 99) (.val (.tr (.sc (.int .i64 1)))), none⟩,
             ⟨(some 101), false, .nilchk (.loc 96), none⟩,
             ⟨(some 102), false, .faddr 1 (.loc 101), none⟩,
             ⟨none, false, .store 1 (.loc 102) (.loc 100), none⟩]
@[simp] def r27_12 : List HOp := [⟨(some 103), false, .mv (.env 0), none⟩,
             ⟨(some 104), false, .callf 45 [(.loc 103)], none⟩,
             ⟨(some 105), false, .un .not (.loc 104), none⟩]
@[simp] def r27_13 : List HOp := [⟨(some 2), true, .mv (.val (.tr (.sc (.bool false)))), none⟩]
@[simp] def r27_14 : List HOp := [⟨(some 45), false, .mv (.env 0), none⟩,
             ⟨(some 46), false, .nilchk (.loc 45), none⟩,
             ⟨(some 47), false, .faddr 0 (.loc 46), none⟩,
             ⟨(some 48), false, .load 1 false (.loc 47), none⟩,
             ⟨(some 49), false, .mv (.env 0), none⟩,
             ⟨(some 50), false, .nilchk (.loc 49), none⟩,
             ⟨(some 51), false, .faddr 1 (.loc 50), none⟩,
             ⟨(some 52), false, .load 1 false (.loc 51), none⟩,
             ⟨(some 53), false, .slice 1 (.loc 48) (some (.loc 52)) none none, none⟩,
             ⟨(some 54), false, .callf 46 [(.loc 53)], none⟩,
             ⟨(some 44), false, .mv (.loc 54), none⟩,
             ⟨(some 55), false, .extract (.loc 44) 0, none⟩,
             ⟨(some 56), false, .extract (.loc 44) 1, none⟩,
             ⟨(some 5), true, .mv (.loc 55), none⟩,
             ⟨(some 6), true, .mv (.loc 56), none⟩]
@[simp] def r27_15 : List HOp := [⟨(some 57), false, .mv (.env 5), none⟩,
              ⟨(some 58), false, .bin .other .eql (.loc 57) (.val (.tr (.sc (.int .i32 65533)))), none⟩,
              ⟨(some 59), false, .mv (.loc 58), none⟩,
              ⟨(some 60), false, .mv (.env 6), some ((.loc 59), true)⟩,
              ⟨(some 61), false, .bin .other .lss (.loc 60) (.val (.tr (.sc (.int .i64 3)))), some ((.loc 59), true)⟩,
              ⟨(some 62), false, .pick (.loc 59) (.loc 61) (.val (.tr (.sc (.bool false)))), none⟩]
@[simp] def r27_16 : List HOp := [⟨(some 2), true, .mv (.val (.tr (.sc (.bool false)))), none⟩]
@[simp] def r27_17 : List HOp := [⟨(some 63), false, .mv (.env 0), none⟩,
            ⟨(some 64), false, .nilchk (.loc 63), none⟩,
            ⟨(some 65), false, .faddr 1 (.loc 64), none⟩,
            ⟨(some 66), false, .load 1 false (.loc 65), none⟩,
            ⟨(some 67), false, .mv (.env 6), none⟩,
            ⟨(some 68), false, .bin .other .add (.loc 66) (.loc 67), none⟩,
            ⟨(some 69), false, .nilchk (.loc 63), none⟩,
            ⟨(some 70), false, .faddr 1 (.loc 69), none⟩,
            ⟨none, false, .store 1 (.loc 70) (.loc 68), none⟩]
@[simp] def r27_18 : List HOp := [⟨(some 2), true, .mv (.val (.tr (.sc (.bool false)))), none⟩]
@[simp] def k27_4 : HCode := .cond (.loc 33) .skip (.exit 0)
@[simp] def k27_9 : HCode := .seq (.region r27_7 none) .ret
@[simp] def k27_8 : HCode := .seq (.region r27_6 none) k27_9
@[simp] def k27_12 : HCode := .seq (.region r27_9 none) .ret
@[simp] def k27_18 : HCode := .seq (.region r27_13 none) .ret
@[simp] def k27_17 : HCode := .cond (.loc 105) k27_18 .skip
@[simp] def k27_16 : HCode := .seq (.region r27_12 none) k27_17
@[simp] def k27_15 : HCode := .seq (.region r27_11 none) k27_16
@[simp] def k27_22 : HCode := .seq (.region r27_16 none) .ret
@[simp] def k27_21 : HCode := .cond (.loc 62) k27_22 .skip
def k27_23 : HCode := .region r27_17 none
@[simp] def k27_20 : HCode := .seq (.seq (.region r27_15 none) k27_21) k27_23
@[simp] def k27_19 : HCode := .seq (.region r27_14 (some [ ( 0, [ 0 ] ) , ( 0, [ 45 ] ) , ( 0, [ 46 ] ) , ( 1, [ 47 ] ) , ( 0, [ 0 ] ) , ( 0, [ 49 ] ) , ( 0, [ 50 ] ) , ( 1, [ 51 ] ) , ( 2, [ 48, 52 ] ) , ( 2, [ 53 ] ) , ( 0, [ 54 ] ) , ( 0, [ 44 ] ) , ( 0, [ 44 ] ) , ( 0, [ 55 ] ) , ( 0, [ 56 ] ) ])) k27_20
@[simp] def k27_14 : HCode := .cond (.loc 89) k27_15 k27_19
@[simp] def k27_13 : HCode := .seq (.region r27_10 none) k27_14
@[simp] def k27_11 : HCode := .cond (.loc 82) k27_12 k27_13
@[simp] def k27_10 : HCode := .seq (.region r27_8 none) k27_11
@[simp] def k27_7 : HCode := .cond (.loc 71) k27_8 k27_10
@[simp] def k27_6 : HCode := .block 2 (.seq (.region r27_5 none) k27_7)
def k27_5 : HCode := .block 1 (.seq (.region r27_4 (some [ ( 0, [ 0 ] ) , ( 0, [ 34 ] ) , ( 0, [ 35 ] ) , ( 1, [ 36 ] ) , ( 0, [ 0 ] ) , ( 0, [ 38 ] ) , ( 0, [ 39 ] ) , ( 1, [ 40 ] ) , ( 2, [ 37, 41 ] ) , ( 2, [ 42 ] ) , ( 0, [ 43 ] ) ])) k27_6)
def k27_3 : HCode := .seq (.seq (.region r27_3 (some [ ( 0, [ 0 ] ) , ( 0, [ 24 ] ) , ( 0, [ 25 ] ) , ( 1, [ 26 ] ) , ( 0, [ 0 ] ) , ( 0, [ 28 ] ) , ( 0, [ 29 ] ) , ( 1, [ 30 ] ) , ( 0, [ 31 ] ) , ( 0, [ 27, 32 ] ) ])) k27_4) k27_5
def k27_24 : HCode := .seq (.region r27_18 none) .ret
@[simp] def k27_2 : HCode := .seq (.block 0 (.loop k27_3)) k27_24
@[simp] def k27_1 : HCode := .seq (.region r27_2 none) k27_2
@[simp] def k27_0 : HCode := .seq (.region r27_1 (some [ ( 0, [ 0 ] ) , ( 0, [ 7 ] ) , ( 0, [ 8 ] ) , ( 1, [ 9 ] ) , ( 0, [ 0 ] ) , ( 0, [ 11 ] ) , ( 0, [ 12 ] ) , ( 1, [ 13 ] ) , ( 2, [ 10, 14 ] ) , ( 2, [ 15 ] ) , ( 0, [ 16 ] ) ])) k27_1
@[simp] def fn27 : HFn := { nargs := 1, results := [.tmp 2], mode := .shared, code := (.seq (.region r27_0 none) k27_0) }
theorem c27 : cFn Tryd.prog (Hs 27) .shared 27 = some fn27 := by kernel_rfl
/- (*sterling/scan.scanner).escape -/
@[simp] def r45_0 : List HOp := [⟨(some 2), true, .mv (.val (.tr (.sc (.bool false)))), none⟩]
@[simp] def r45_1 : List HOp := [⟨(some 3), true, .mv (.val (.tr (.sc (.int .i64 0)))), none⟩]
@[simp] def r45_2 : List HOp := [⟨(some 5), false, .mv (.env 0), none⟩,
      ⟨(some 6), true, .callf 37 [(.loc 5), (.val (.tr (.sc (.int .i64 0))))], none⟩]
@[simp] def r45_3 : List HOp := [⟨(some 8), false, .bin .other .eql (.env 6) (.val (.tr (.sc (.int .u8 92)))), none⟩,
        ⟨(some 7), true, .mv (.loc 8), none⟩]
@[simp] def r45_4 : List HOp := [⟨(some 9), false, .bin .other .eql (.env 6) (.val (.tr (.sc (.int .u8 34)))), none⟩,
         ⟨(some 7), true, .mv (.loc 9), none⟩]
@[simp] def r45_5 : List HOp := [⟨(some 10), false, .bin .other .eql (.env 6) (.val (.tr (.sc (.int .u8 110)))), none⟩,
          ⟨(some 7), true, .mv (.loc 10), none⟩]
@[simp] def r45_6 : List HOp := [⟨(some 11), false, .bin .other .eql (.env 6) (.val (.tr (.sc (.int .u8 116)))), none⟩,
          ⟨(some 7), true, .mv (.loc 11), none⟩]
@[simp] def r45_7 : List HOp := [⟨(some 13), false, .bin .other .eql (.env 6) (.val (.tr (.sc (.int .u8 120)))), none⟩,
        ⟨(some 12), false, .mv (.loc 13), none⟩]
@[simp] def r45_8 : List HOp := [⟨(some 3), true, .mv (.val (.tr (.sc (.int .i64 2)))), none⟩]
@[simp] def r45_9 : List HOp := [⟨(some 15), false, .bin .other .eql (.env 6) (.val (.tr (.sc (.int .u8 117)))), none⟩,
         ⟨(some 14), false, .mv (.loc 15), none⟩]
@[simp] def r45_10 : List HOp := [⟨(some 3), true, .mv (.val (.tr (.sc (.int .i64 4)))), none⟩]
@[simp] def r45_11 : List HOp := [⟨(some 2), true, .mv (.val (.tr (.sc (.bool false)))), none⟩]
@[simp] def r45_12 : List HOp := [⟨(some 16), false, .mv (.env 0), none⟩,
     ⟨(some 17), false, .nilchk (.loc 16), none⟩,
     ⟨(some 18), false, .faddr 1 (.loc 17), none⟩,
     ⟨(some 19), false, .load 1 false (.loc 18), none⟩,
     ⟨(some 20), false, .bin .other .add (.loc 19) (.val (.tr (.sc (.int .i64 1)))), none⟩,
     ⟨(some 21), false, .nilchk (.loc 16), none⟩,
     ⟨(some 22), false, .faddr 1 (.loc 21), none⟩,
     ⟨none, false, .store 1 (.loc 22) (.loc 20), none⟩]
@[simp] def r45_13 : List HOp := [⟨(some 23), true, .mv (.env 3), none⟩,
      ⟨(some 24), true, .mv (.val (.tr (.sc (.int .i64 0)))), none⟩]
@[simp] def r45_14 : List HOp := [⟨(some 25), false, .bin .other .lss (.env 24) (.env 23), none⟩]
@[simp] def r45_15 : List HOp := [⟨(some 26), false, .mv (.env 24), none⟩,
          ⟨(some 4), true, .mv (.loc 26), none⟩]
@[simp] def r45_16 : List HOp := [⟨(some 27), false, .mv (.env 0), none⟩,
          ⟨(some 28), false, .mv (.env 4), none⟩,
          ⟨(some 29), false, .callf 37 [(.loc 27), (.loc 28)], none⟩,
          ⟨(some 30), false, .callf 57 [(.loc 29)], none⟩,
          ⟨(some 31), false, .un .not (.loc 30), none⟩]
@[simp] def r45_17 : List HOp := [⟨(some 2), true, .mv (.val (.tr (.sc (.bool false)))), none⟩]
@[simp] def r45_18 : List HOp := [⟨(some 32), false, .bin .other .add (.env 24) (.val (.tr (.sc (.int .i64 1)))), none⟩,
       ⟨(some 24), true, .mv (.loc 32), none⟩]
@[simp] def r45_19 : List HOp := [⟨(some 33), false, .mv (.env 3), none⟩,
      ⟨(some 34), false, .bin .other .eql (.loc 33) (.val (.tr (.sc (.int .i64 4)))), none⟩,
      ⟨(some 35), false, .mv (.loc 34), none⟩,
      ⟨(some 36), false, .mv (.env 0), some ((.loc 35), true)⟩,
      ⟨(some 37), false, .callf 37 [(.loc 36), (.val (.tr (.sc (.int .i64 0))))], some ((.loc 35), true)⟩,
      ⟨(some 38), false, .bin .other .or (.loc 37) (.val (.tr (.sc (.int .u8 32)))), some ((.loc 35), true)⟩,
      ⟨(some 39), false, .bin .other .eql (.loc 38) (.val (.tr (.sc (.int .u8 100)))), some ((.loc 35), true)⟩,
      ⟨(some 40), false, .pick (.loc 35) (.loc 39) (.val (.tr (.sc (.bool false)))), none⟩,
      ⟨(some 41), false, .mv (.loc 40), none⟩,
      ⟨(some 42), false, .mv (.env 0), some ((.loc 41), true)⟩,
      ⟨(some 43), false, .callf 37 [(.loc 42), (.val (.tr (.sc (.int .i64 1))))], some ((.loc 41), true)⟩,
      ⟨(some 44), false, .bin .other .geq (.loc 43) (.val (.tr (.sc (.int .u8 56)))), some ((.loc 41), true)⟩,
      ⟨(some 45), false, .pick (.loc 41) (.loc 44) (.val (.tr (.sc (.bool false)))), none⟩]
@[simp] def r45_20 : List HOp := [⟨(some 2), true, .mv (.val (.tr (.sc (.bool false)))), none⟩]
@[simp] def r45_21 : List HOp := [⟨(some 46), false, .mv (.env 0), none⟩,
     ⟨(some 47), false, .nilchk (.loc 46), none⟩,
     ⟨(some 48), false, .faddr 1 (.loc 47), none⟩,
     ⟨(some 49), false, .load 1 false (.loc 48), none⟩,
     ⟨(some 50), false, .mv (.env 3), none⟩,
     ⟨(some 51), false, .bin .other .add (.loc 49) (.loc 50), none⟩,
     ⟨(some 52), false, .nilchk (.loc 46), none⟩,
     ⟨(some 53), false, .faddr 1 (.loc 52), none⟩,
     ⟨none, false, .store 1 (.loc 53) (.loc 51), none⟩]
@[simp] def r45_22 : List HOp := [⟨(some 2), true, .mv (.val (.tr (.sc (.bool true)))), none⟩]
@[simp] def k45_7 : HCode := .cond (.env 7) .skip (.region r45_6 none)
@[simp] def k45_6 : HCode := .seq (.region r45_5 none) k45_7
@[simp] def k45_5 : HCode := .cond (.env 7) .skip k45_6
@[simp] def k45_4 : HCode := .seq (.region r45_4 none) k45_5
@[simp] def k45_3 : HCode := .cond (.env 7) .skip k45_4
@[simp] def k45_13 : HCode := .seq (.region r45_11 none) .ret
@[simp] def k45_12 : HCode := .cond (.loc 14) (.region r45_10 none) k45_13
@[simp] def k45_11 : HCode := .seq (.region r45_9 none) k45_12
@[simp] def k45_10 : HCode := .cond (.loc 12) (.region r45_8 none) k45_11
@[simp] def k45_9 : HCode := .seq (.region r45_7 none) k45_10
def k45_8 : HCode := .cond (.env 7) .skip k45_9
@[simp] def k45_2 : HCode := .block 0 (.seq (.seq (.region r45_3 none) k45_3) k45_8)
@[simp] def k45_22 : HCode := .seq (.region r45_17 none) .ret
@[simp] def k45_21 : HCode := .cond (.loc 31) k45_22 .skip
@[simp] def k45_20 : HCode := .seq (.region r45_16 none) k45_21
def k45_23 : HCode := .region r45_18 none
def k45_19 : HCode := .seq (.block 2 (.seq (.region r45_15 none) k45_20)) k45_23
@[simp] def k45_18 : HCode := .seq (.cond (.loc 25) .skip (.exit 1)) k45_19
def k45_17 : HCode := .seq (.region r45_14 none) k45_18
@[simp] def k45_16 : HCode := .block 1 (.loop k45_17)
@[simp] def k45_26 : HCode := .seq (.region r45_20 none) .ret
@[simp] def k45_25 : HCode := .cond (.loc 45) k45_26 .skip
@[simp] def k45_28 : HCode := .seq (.region r45_22 none) .ret
def k45_27 : HCode := .seq (.region r45_21 none) k45_28
def k45_24 : HCode := .seq (.seq (.region r45_19 none) k45_25) k45_27
@[simp] def k45_15 : HCode := .seq (.seq (.region r45_13 none) k45_16) k45_24
def k45_14 : HCode := .seq (.region r45_12 none) k45_15
@[simp] def k45_1 : HCode := .seq (.seq (.region r45_2 none) k45_2) k45_14
@[simp] def k45_0 : HCode := .seq (.region r45_1 none) k45_1
@[simp] def fn45 : HFn := { nargs := 1, results := [.tmp 2], mode := .shared, code := (.seq (.region r45_0 none) k45_0) }
theorem c45 : cFn Tryd.prog (Hs 45) .shared 45 = some fn45 := by kernel_rfl
/- (*sterling/scan.scanner).operator -/
@[simp] def r39_0 : List HOp := [⟨(some 2), true, .mv (.val (.tr (.sc (.bool false)))), none⟩]
@[simp] def r39_1 : List HOp := [⟨(some 6), true, .callf 56 [(.val (.tr (.sc (.string ⟨⟨[38, 94, 61, 32, 38, 38, 32, 38, 94, 32, 38, 61, 32, 124, 124, 32, 124, 61, 32, 61, 61, 32, 33, 61, 32, 60, 61, 32, 62, 61, 32, 43, 61, 32, 45, 61, 32, 42, 61, 32, 47, 61, 32, 37, 61, 32, 94, 61, 32, 58, 61, 32, 43, 43, 32, 45, 45, 32, 43, 32, 45, 32, 42, 32, 47, 32, 37, 32, 38, 32, 124, 32, 94, 32, 60, 32, 62, 32, 33, 32, 40, 32, 41, 32, 91, 32, 93, 32, 123, 32, 125, 32, 44, 32, 46, 32, 61, 32, 126, 32, 58]⟩⟩))))], none⟩,
      ⟨(some 7), true, .len 1 (.env 6), none⟩,
      ⟨(some 8), true, .mv (.val (.tr (.sc (.int .i64 0)))), none⟩]
@[simp] def r39_2 : List HOp := [⟨(some 9), false, .bin .other .lss (.env 8) (.env 7), none⟩]
@[simp] def r39_3 : List HOp := [⟨(some 10), false, .iaddr 1 (.env 6) (.env 8), none⟩,
          ⟨(some 11), false, .load 1 false (.loc 10), none⟩,
          ⟨(some 4), true, .mv (.loc 11), none⟩]
@[simp] def r39_4 : List HOp := [⟨(some 12), false, .mv (.env 0), none⟩,
          ⟨(some 13), false, .mv (.env 4), none⟩,
          ⟨(some 14), false, .callf 32 [(.loc 12), (.loc 13)], none⟩]
@[simp] def r39_5 : List HOp := [⟨(some 15), false, .mv (.env 0), none⟩,
           ⟨(some 16), false, .nilchk (.loc 15), none⟩,
           ⟨(some 17), false, .faddr 1 (.loc 16), none⟩,
           ⟨(some 18), false, .load 1 false (.loc 17), none⟩,
           ⟨(some 5), true, .mv (.loc 18), none⟩]
@[simp] def r39_6 : List HOp := [⟨(some 19), false, .mv (.env 0), none⟩,
           ⟨(some 20), false, .nilchk (.loc 19), none⟩,
           ⟨(some 21), false, .faddr 1 (.loc 20), none⟩,
           ⟨(some 22), false, .load 1 false (.loc 21), none⟩,
           ⟨(some 23), false, .mv (.env 4), none⟩,
           ⟨(some 24), false, .len 0 (.loc 23), none⟩,
           ⟨(some 25), false, .bin .other .add (.loc 22) (.loc 24), none⟩,
           ⟨(some 26), false, .nilchk (.loc 19), none⟩,
           ⟨(some 27), false, .faddr 1 (.loc 26), none⟩,
           ⟨none, false, .store 1 (.loc 27) (.loc 25), none⟩]
@[simp] def r39_7 : List HOp := [⟨(some 28), false, .mv (.env 0), none⟩,
           ⟨(some 29), false, .mv (.env 5), none⟩,
           ⟨(some 30), false, .callf 18 [(.loc 28), (.val (.tr (.sc (.int .i64 5)))), (.loc 29)], none⟩]
@[simp] def r39_8 : List HOp := [⟨(some 31), false, .mv (.env 0), none⟩,
           ⟨(some 32), false, .mv (.env 4), none⟩,
           ⟨(some 33), false, .bin .other .add (.val (.tr (.sc (.string ⟨⟨[32]⟩⟩)))) (.loc 32), none⟩,
           ⟨(some 34), false, .bin .other .add (.loc 33) (.val (.tr (.sc (.string ⟨⟨[32]⟩⟩)))), none⟩,
           ⟨(some 35), false, .callf 31 [(.val (.tr (.sc (.string ⟨⟨[32, 43, 43, 32, 45, 45, 32, 41, 32, 93, 32, 125, 32]⟩⟩)))), (.loc 34)], none⟩,
           ⟨(some 36), false, .nilchk (.loc 31), none⟩,
           ⟨(some 37), false, .faddr 2 (.loc 36), none⟩,
           ⟨none, false, .store 1 (.loc 37) (.loc 35), none⟩]
@[simp] def r39_9 : List HOp := [⟨(some 2), true, .mv (.val (.tr (.sc (.bool true)))), none⟩]
@[simp] def r39_10 : List HOp := [⟨(some 38), false, .bin .other .add (.env 8) (.val (.tr (.sc (.int .i64 1)))), none⟩,
       ⟨(some 8), true, .mv (.loc 38), none⟩]
@[simp] def r39_11 : List HOp := [⟨(some 2), true, .mv (.val (.tr (.sc (.bool false)))), none⟩]
@[simp] def k39_11 : HCode := .seq (.region r39_9 none) .ret
@[simp] def k39_10 : HCode := .seq (.region r39_8 none) k39_11
@[simp] def k39_9 : HCode := .seq (.region r39_7 none) k39_10
@[simp] def k39_8 : HCode := .seq (.region r39_6 none) k39_9
@[simp] def k39_7 : HCode := .seq (.region r39_5 none) k39_8
@[simp] def k39_6 : HCode := .cond (.loc 14) k39_7 .skip
@[simp] def k39_5 : HCode := .seq (.region r39_4 none) k39_6
def k39_12 : HCode := .region r39_10 none
def k39_4 : HCode := .seq (.block 1 (.seq (.region r39_3 none) k39_5)) k39_12
@[simp] def k39_3 : HCode := .seq (.cond (.loc 9) .skip (.exit 0)) k39_4
def k39_2 : HCode := .seq (.region r39_2 none) k39_3
@[simp] def k39_1 : HCode := .block 0 (.loop k39_2)
def k39_13 : HCode := .seq (.region r39_11 none) .ret
@[simp] def k39_0 : HCode := .seq (.seq (.region r39_1 none) k39_1) k39_13
@[simp] def fn39 : HFn := { nargs := 1, results := [.tmp 2], mode := .shared, code := (.seq (.region r39_0 none) k39_0) }
theorem c39 : cFn Tryd.prog (Hs 39) .shared 39 = some fn39 := by kernel_rfl
/- sterling/scan.Value -/
@[simp] def r12_0 : List HOp := [⟨(some 2), true, .mv (.val (.tr (.sc (.string ⟨⟨[]⟩⟩)))), none⟩,
     ⟨(some 3), true, .mv (.val (.tr (.sc (.bool false)))), none⟩]
@[simp] def r12_1 : List HOp := [⟨(some 8), false, .mv (.env 0), none⟩,
     ⟨(some 9), false, .conv .strBytes (.loc 8), none⟩,
     ⟨(some 10), false, .build [(.sc (.slice none 0 0)), (.sc (.int .i64 0)), (.sc (.bool false)), (.sc (.slice none 0 0))] [(0, 1, (.loc 9))], none⟩,
     ⟨(some 11), false, .box false (.loc 10), none⟩,
     ⟨(some 4), true, .mv (.loc 11), none⟩]
@[simp] def r12_2 : List HOp := [⟨(some 12), false, .mv (.env 0), none⟩,
      ⟨(some 13), false, .bin .other .eql (.loc 12) (.val (.tr (.sc (.string ⟨⟨[]⟩⟩)))), none⟩,
      ⟨(some 14), false, .mv (.loc 13), none⟩,
      ⟨(some 15), false, .mv (.env 0), some ((.loc 14), false)⟩,
      ⟨(some 16), false, .istr (.loc 15) (.val (.tr (.sc (.int .i64 0)))), some ((.loc 14), false)⟩,
      ⟨(some 17), false, .bin .other .neq (.loc 16) (.val (.tr (.sc (.int .u8 34)))), some ((.loc 14), false)⟩,
      ⟨(some 18), false, .mv (.loc 17), some ((.loc 14), false)⟩,
      ⟨(some 19), false, .mv (.env 0), some ((.loc 18), true)⟩,
      ⟨(some 20), false, .istr (.loc 19) (.val (.tr (.sc (.int .i64 0)))), some ((.loc 18), true)⟩,
      ⟨(some 21), false, .bin .other .neq (.loc 20) (.val (.tr (.sc (.int .u8 96)))), some ((.loc 18), true)⟩,
      ⟨(some 22), false, .pick (.loc 18) (.loc 21) (.val (.tr (.sc (.bool false)))), some ((.loc 14), false)⟩,
      ⟨(some 23), false, .pick (.loc 14) (.val (.tr (.sc (.bool true)))) (.loc 22), none⟩,
      ⟨(some 24), false, .mv (.loc 23), none⟩,
      ⟨(some 25), false, .mv (.env 4), some ((.loc 24), false)⟩,
      ⟨(some 26), false, .callf 27 [(.loc 25)], some ((.loc 24), false)⟩,
      ⟨(some 27), false, .un .not (.loc 26), some ((.loc 24), false)⟩,
      ⟨(some 28), false, .pick (.loc 24) (.val (.tr (.sc (.bool true)))) (.loc 27), none⟩,
      ⟨(some 29), false, .mv (.loc 28), none⟩,
      ⟨(some 30), false, .mv (.env 4), some ((.loc 29), false)⟩,
      ⟨(some 31), false, .nilchk (.loc 30), some ((.loc 29), false)⟩,
      ⟨(some 32), false, .faddr 1 (.loc 31), some ((.loc 29), false)⟩,
      ⟨(some 33), false, .load 1 false (.loc 32), some ((.loc 29), false)⟩,
      ⟨(some 34), false, .mv (.env 0), some ((.loc 29), false)⟩,
      ⟨(some 35), false, .len 0 (.loc 34), some ((.loc 29), false)⟩,
      ⟨(some 36), false, .bin .other .neq (.loc 33) (.loc 35), some ((.loc 29), false)⟩,
      ⟨(some 37), false, .pick (.loc 29) (.val (.tr (.sc (.bool true)))) (.loc 36), none⟩]
@[simp] def r12_3 : List HOp := [⟨(some 2), true, .mv (.val (.tr (.sc (.string ⟨⟨[]⟩⟩)))), none⟩,
       ⟨(some 3), true, .mv (.val (.tr (.sc (.bool false)))), none⟩]
@[simp] def r12_4 : List HOp := [⟨(some 38), false, .mv (.env 0), none⟩,
     ⟨(some 39), false, .mv (.env 0), none⟩,
     ⟨(some 40), false, .len 0 (.loc 39), none⟩,
     ⟨(some 41), false, .bin .other .sub (.loc 40) (.val (.tr (.sc (.int .i64 1)))), none⟩,
     ⟨(some 42), false, .slicestr (.loc 38) (some (.val (.tr (.sc (.int .i64 1))))) (some (.loc 41)), none⟩,
     ⟨(some 5), true, .mv (.loc 42), none⟩]
@[simp] def r12_5 : List HOp := [⟨(some 43), false, .mv (.env 0), none⟩,
      ⟨(some 44), false, .istr (.loc 43) (.val (.tr (.sc (.int .i64 0)))), none⟩,
      ⟨(some 45), false, .bin .other .eql (.loc 44) (.val (.tr (.sc (.int .u8 96)))), none⟩]
@[simp] def r12_6 : List HOp := [⟨(some 46), false, .mv (.env 5), none⟩,
       ⟨(some 47), false, .callf 28 [(.loc 46), (.val (.tr (.sc (.string ⟨⟨[13]⟩⟩)))), (.val (.tr (.sc (.string ⟨⟨[]⟩⟩))))], none⟩,
       ⟨(some 2), true, .mv (.loc 47), none⟩,
       ⟨(some 3), true, .mv (.val (.tr (.sc (.bool true)))), none⟩]
@[simp] def r12_7 : List HOp := [⟨(some 6), true, .mv (.val (.tr (.sc (.slice none 0 0)))), none⟩]
@[simp] def r12_8 : List HOp := [⟨(some 7), true, .mv (.val (.tr (.sc (.int .i64 0)))), none⟩]
@[simp] def r12_9 : List HOp := [⟨(some 48), false, .mv (.env 7), none⟩,
         ⟨(some 49), false, .mv (.env 5), none⟩,
         ⟨(some 50), false, .len 0 (.loc 49), none⟩,
         ⟨(some 51), false, .bin .other .lss (.loc 48) (.loc 50), none⟩]
@[simp] def r12_10 : List HOp := [⟨(some 54), false, .mv (.env 5), none⟩,
           ⟨(some 55), false, .mv (.env 7), none⟩,
           ⟨(some 56), false, .istr (.loc 54) (.loc 55), none⟩,
           ⟨(some 57), false, .bin .other .neq (.loc 56) (.val (.tr (.sc (.int .u8 92)))), none⟩]
@[simp] def r12_11 : List HOp := [⟨(some 58), false, .mv (.env 6), none⟩,
            ⟨(some 59), false, .mv (.env 5), none⟩,
            ⟨(some 60), false, .mv (.env 7), none⟩,
            ⟨(some 61), false, .istr (.loc 59) (.loc 60), none⟩,
            ⟨(some 62), false, .bslice false 1 1 [(.sc (.int .u8 0))] [(0, 1, (.loc 61))], none⟩,
            ⟨(some 63), false, .append 1 1 (.loc 58) (.loc 62), none⟩,
            ⟨(some 6), true, .mv (.loc 63), none⟩]
@[simp] def r12_12 : List HOp := [⟨(some 64), false, .mv (.env 7), none⟩,
          ⟨(some 65), false, .bin .other .add (.loc 64) (.val (.tr (.sc (.int .i64 1)))), none⟩,
          ⟨(some 7), true, .mv (.loc 65), none⟩]
@[simp] def r12_13 : List HOp := [⟨(some 66), false, .mv (.env 5), none⟩,
          ⟨(some 67), false, .mv (.env 7), none⟩,
          ⟨(some 68), true, .istr (.loc 66) (.loc 67), none⟩]
@[simp] def r12_14 : List HOp := [⟨(some 76), false, .bin .other .eql (.env 68) (.val (.tr (.sc (.int .u8 110)))), none⟩,
           ⟨(some 75), false, .mv (.loc 76), none⟩]
@[simp] def r12_15 : List HOp := [⟨(some 77), false, .mv (.env 6), none⟩,
           ⟨(some 78), false, .bslice false 1 1 [(.sc (.int .u8 0))] [(0, 1, (.val (.tr (.sc (.int .u8 10)))))], none⟩,
           ⟨(some 79), false, .append 1 1 (.loc 77) (.loc 78), none⟩,
           ⟨(some 6), true, .mv (.loc 79), none⟩]
@[simp] def r12_16 : List HOp := [⟨(some 81), false, .bin .other .eql (.env 68) (.val (.tr (.sc (.int .u8 116)))), none⟩,
            ⟨(some 80), false, .mv (.loc 81), none⟩]
@[simp] def r12_17 : List HOp := [⟨(some 82), false, .mv (.env 6), none⟩,
            ⟨(some 83), false, .bslice false 1 1 [(.sc (.int .u8 0))] [(0, 1, (.val (.tr (.sc (.int .u8 9)))))], none⟩,
            ⟨(some 84), false, .append 1 1 (.loc 82) (.loc 83), none⟩,
            ⟨(some 6), true, .mv (.loc 84), none⟩]
@[simp] def r12_18 : List HOp := [⟨(some 86), false, .bin .other .eql (.env 68) (.val (.tr (.sc (.int .u8 120)))), none⟩,
             ⟨(some 85), false, .mv (.loc 86), none⟩]
@[simp] def r12_19 : List HOp := [⟨(some 87), false, .mv (.env 6), none⟩,
              ⟨(some 88), false, .mv (.env 5), none⟩,
              ⟨(some 89), false, .mv (.env 7), none⟩,
              ⟨(some 90), false, .bin .other .add (.loc 89) (.val (.tr (.sc (.int .i64 1)))), none⟩,
              ⟨(some 91), false, .mv (.env 7), none⟩,
              ⟨(some 92), false, .bin .other .add (.loc 91) (.val (.tr (.sc (.int .i64 3)))), none⟩,
              ⟨(some 93), false, .slicestr (.loc 88) (some (.loc 90)) (some (.loc 92)), none⟩,
              ⟨(some 94), false, .callf 29 [(.loc 93)], none⟩,
              ⟨(some 95), false, .conv (.toInt .u8) (.loc 94), none⟩,
              ⟨(some 96), false, .bslice false 1 1 [(.sc (.int .u8 0))] [(0, 1, (.loc 95))], none⟩,
              ⟨(some 97), false, .append 1 1 (.loc 87) (.loc 96), none⟩,
              ⟨(some 6), true, .mv (.loc 97), none⟩]
@[simp] def r12_20 : List HOp := [⟨(some 98), false, .mv (.env 7), none⟩,
             ⟨(some 99), false, .bin .other .add (.loc 98) (.val (.tr (.sc (.int .i64 2)))), none⟩,
             ⟨(some 7), true, .mv (.loc 99), none⟩]
@[simp] def r12_21 : List HOp := [⟨(some 101), false, .bin .other .eql (.env 68) (.val (.tr (.sc (.int .u8 117)))), none⟩,
              ⟨(some 100), false, .mv (.loc 101), none⟩]
@[simp] def r12_22 : List HOp := [⟨(some 102), false, .mv (.env 6), none⟩,
               ⟨(some 103), false, .mv (.env 5), none⟩,
               ⟨(some 104), false, .mv (.env 7), none⟩,
               ⟨(some 105), false, .bin .other .add (.loc 104) (.val (.tr (.sc (.int .i64 1)))), none⟩,
               ⟨(some 106), false, .mv (.env 7), none⟩,
               ⟨(some 107), false, .bin .other .add (.loc 106) (.val (.tr (.sc (.int .i64 5)))), none⟩,
               ⟨(some 108), false, .slicestr (.loc 103) (some (.loc 105)) (some (.loc 107)), none⟩,
               ⟨(some 109), false, .callf 29 [(.loc 108)], none⟩,
               ⟨(some 110), false, .callf 30 [(.loc 102), (.loc 109)], none⟩,
               ⟨(some 6), true, .mv (.loc 110), none⟩]
@[simp] def r12_23 : List HOp := [⟨(some 111), false, .mv (.env 7), none⟩,
              ⟨(some 112), false, .bin .other .add (.loc 111) (.val (.tr (.sc (.int .i64 4)))), none⟩,
              ⟨(some 7), true, .mv (.loc 112), none⟩]
@[simp] def r12_24 : List HOp := [⟨(some 69), false, .mv (.env 6), none⟩,
              ⟨(some 70), false, .mv (.env 5), none⟩,
              ⟨(some 71), false, .mv (.env 7), none⟩,
              ⟨(some 72), false, .istr (.loc 70) (.loc 71), none⟩,
              ⟨(some 73), false, .bslice false 1 1 [(.sc (.int .u8 0))] [(0, 1, (.loc 72))], none⟩,
              ⟨(some 74), false, .append 1 1 (.loc 69) (.loc 73), none⟩,
              ⟨(some 6), true, .mv (.loc 74), none⟩]
@[simp] def r12_25 : List HOp := [⟨(some 52), false, .mv (.env 7), none⟩,
       ⟨(some 53), false, .bin .other .add (.loc 52) (.val (.tr (.sc (.int .i64 1)))), none⟩,
       ⟨(some 7), true, .mv (.loc 53), none⟩]
@[simp] def r12_26 : List HOp := [⟨(some 113), false, .mv (.env 6), none⟩,
     ⟨(some 114), false, .conv .bytesStr (.loc 113), none⟩,
     ⟨(some 2), true, .mv (.loc 114), none⟩,
     ⟨(some 3), true, .mv (.val (.tr (.sc (.bool true)))), none⟩]
@[simp] def k12_3 : HCode := .seq (.region r12_3 none) .ret
@[simp] def k12_2 : HCode := .cond (.loc 37) k12_3 .skip
@[simp] def k12_7 : HCode := .seq (.region r12_6 none) .ret
@[simp] def k12_6 : HCode := .cond (.loc 45) k12_7 .skip
@[simp] def k12_12 : HCode := .cond (.loc 51) .skip (.exit 0)
@[simp] def k12_15 : HCode := .seq (.region r12_11 none) (.exit 1)
@[simp] def k12_14 : HCode := .cond (.loc 57) k12_15 .skip
@[simp] def k12_24 : HCode := .seq (.region r12_19 none) (.region r12_20 none)
@[simp] def k12_27 : HCode := .seq (.region r12_22 none) (.region r12_23 none)
@[simp] def k12_26 : HCode := .cond (.loc 100) k12_27 (.region r12_24 none)
@[simp] def k12_25 : HCode := .seq (.region r12_21 none) k12_26
@[simp] def k12_23 : HCode := .cond (.loc 85) k12_24 k12_25
@[simp] def k12_22 : HCode := .seq (.region r12_18 none) k12_23
@[simp] def k12_21 : HCode := .cond (.loc 80) (.region r12_17 none) k12_22
@[simp] def k12_20 : HCode := .seq (.region r12_16 none) k12_21
@[simp] def k12_19 : HCode := .cond (.loc 75) (.region r12_15 none) k12_20
@[simp] def k12_18 : HCode := .block 2 (.seq (.region r12_14 none) k12_19)
@[simp] def k12_17 : HCode := .seq (.region r12_13 none) k12_18
def k12_16 : HCode := .seq (.region r12_12 none) k12_17
def k12_28 : HCode := .region r12_25 none
def k12_13 : HCode := .seq (.block 1 (.seq (.seq (.region r12_10 none) k12_14) k12_16)) k12_28
def k12_11 : HCode := .seq (.seq (.region r12_9 none) k12_12) k12_13
@[simp] def k12_10 : HCode := .block 0 (.loop k12_11)
def k12_29 : HCode := .seq (.region r12_26 none) .ret
@[simp] def k12_9 : HCode := .seq (.seq (.region r12_8 none) k12_10) k12_29
def k12_8 : HCode := .seq (.region r12_7 none) k12_9
@[simp] def k12_5 : HCode := .seq (.seq (.region r12_5 none) k12_6) k12_8
def k12_4 : HCode := .seq (.region r12_4 none) k12_5
@[simp] def k12_1 : HCode := .seq (.seq (.region r12_2 none) k12_2) k12_4
@[simp] def k12_0 : HCode := .seq (.region r12_1 none) k12_1
@[simp] def fn12 : HFn := { nargs := 1, results := [.tmp 2, .tmp 3], mode := .iso, code := (.seq (.region r12_0 none) k12_0) }
theorem c12 : cFn Tryd.prog (Hs 12) .iso 12 = some fn12 := by kernel_rfl
/- sterling/scan.value -/
@[simp] def r29_0 : List HOp := [⟨(some 2), true, .mv (.val (.tr (.sc (.int .i32 0)))), none⟩]
@[simp] def r29_1 : List HOp := [⟨(some 3), true, .mv (.val (.tr (.sc (.int .i32 0)))), none⟩]
@[simp] def r29_2 : List HOp := [⟨(some 7), false, .mv (.env 0), none⟩,
      ⟨(some 8), true, .len 0 (.loc 7), none⟩,
      ⟨(some 9), true, .mv (.val (.tr (.sc (.int .i64 0)))), none⟩]
@[simp] def r29_3 : List HOp := [⟨(some 10), false, .bin .other .lss (.env 9) (.env 8), none⟩]
@[simp] def r29_4 : List HOp := [⟨(some 11), false, .mv (.env 9), none⟩,
          ⟨(some 4), true, .mv (.loc 11), none⟩]
@[simp] def r29_5 : List HOp := [⟨(some 12), false, .mv (.env 0), none⟩,
          ⟨(some 13), false, .mv (.env 4), none⟩,
          ⟨(some 14), false, .istr (.loc 12) (.loc 13), none⟩,
          ⟨(some 5), true, .mv (.loc 14), none⟩]
@[simp] def r29_6 : List HOp := [⟨(some 15), false, .mv (.env 5), none⟩,
          ⟨(some 16), false, .bin .other .sub (.loc 15) (.val (.tr (.sc (.int .u8 48)))), none⟩,
          ⟨(some 17), false, .conv (.toInt .i32) (.loc 16), none⟩,
          ⟨(some 6), true, .mv (.loc 17), none⟩]
@[simp] def r29_7 : List HOp := [⟨(some 18), false, .mv (.env 5), none⟩,
           ⟨(some 19), false, .callf 36 [(.loc 18)], none⟩,
           ⟨(some 20), false, .un .not (.loc 19), none⟩]
@[simp] def r29_8 : List HOp := [⟨(some 21), false, .mv (.env 5), none⟩,
           ⟨(some 22), false, .bin .other .or (.loc 21) (.val (.tr (.sc (.int .u8 32)))), none⟩,
           ⟨(some 23), false, .bin .other .sub (.loc 22) (.val (.tr (.sc (.int .u8 97)))), none⟩,
           ⟨(some 24), false, .conv (.toInt .i32) (.loc 23), none⟩,
           ⟨(some 25), false, .bin .other .add (.loc 24) (.val (.tr (.sc (.int .i32 10)))), none⟩,
           ⟨(some 6), true, .mv (.loc 25), none⟩]
@[simp] def r29_9 : List HOp := [⟨(some 26), false, .mv (.env 3), none⟩,
         ⟨(some 27), false, .bin .other .mul (.val (.tr (.sc (.int .i32 16)))) (.loc 26), none⟩,
         ⟨(some 28), false, .mv (.env 6), none⟩,
         ⟨(some 29), false, .bin .other .add (.loc 27) (.loc 28), none⟩,
         ⟨(some 3), true, .mv (.loc 29), none⟩]
@[simp] def r29_10 : List HOp := [⟨(some 30), false, .bin .other .add (.env 9) (.val (.tr (.sc (.int .i64 1)))), none⟩,
       ⟨(some 9), true, .mv (.loc 30), none⟩]
@[simp] def r29_11 : List HOp := [⟨(some 31), false, .mv (.env 3), none⟩,
     ⟨(some 2), true, .mv (.loc 31), none⟩]
@[simp] def k29_9 : HCode := .cond (.loc 20) (.region r29_8 none) .skip
def k29_10 : HCode := .region r29_9 none
@[simp] def k29_8 : HCode := .seq (.seq (.region r29_7 none) k29_9) k29_10
@[simp] def k29_7 : HCode := .seq (.region r29_6 none) k29_8
@[simp] def k29_6 : HCode := .seq (.region r29_5 none) k29_7
def k29_11 : HCode := .region r29_10 none
def k29_5 : HCode := .seq (.block 1 (.seq (.region r29_4 none) k29_6)) k29_11
@[simp] def k29_4 : HCode := .seq (.cond (.loc 10) .skip (.exit 0)) k29_5
def k29_3 : HCode := .seq (.region r29_3 none) k29_4
@[simp] def k29_2 : HCode := .block 0 (.loop k29_3)
def k29_12 : HCode := .seq (.region r29_11 none) .ret
@[simp] def k29_1 : HCode := .seq (.seq (.region r29_2 none) k29_2) k29_12
@[simp] def k29_0 : HCode := .seq (.region r29_1 none) k29_1
@[simp] def fn29 : HFn := { nargs := 1, results := [.tmp 2], mode := .iso, code := (.seq (.region r29_0 none) k29_0) }
theorem c29 : cFn Tryd.prog (Hs 29) .iso 29 = some fn29 := by kernel_rfl
/- unicode/utf8.AppendRune -/
@[simp] def r30_0 : List HOp := [⟨(some 4), true, .mv (.val (.tr (.sc (.slice none 0 0)))), none⟩]
@[simp] def r30_1 : List HOp := [⟨(some 5), false, .mv (.env 1), none⟩,
      ⟨(some 6), false, .conv (.toInt .u32) (.loc 5), none⟩,
      ⟨(some 7), false, .bin .other .leq (.loc 6) (.val (.tr (.sc (.int .u32 127)))), none⟩]
@[simp] def r30_2 : List HOp := [⟨(some 8), false, .mv (.env 0), none⟩,
       ⟨(some 9), false, .mv (.env 1), none⟩,
       ⟨(some 10), false, .conv (.toInt .u8) (.loc 9), none⟩,
       ⟨(some 11), false, .bslice false 1 1 [(.sc (.int .u8 0))] [(0, 1, (.loc 10))], none⟩,
       ⟨(some 12), false, .append 1 1 (.loc 8) (.loc 11), none⟩,
       ⟨(some 4), true, .mv (.loc 12), none⟩]
@[simp] def r30_3 : List HOp := [⟨(some 13), false, .mv (.env 0), none⟩,
     ⟨(some 14), false, .mv (.env 1), none⟩,
     ⟨(some 15), false, .callf 48 [(.loc 13), (.loc 14)], none⟩,
     ⟨(some 4), true, .mv (.loc 15), none⟩]
@[simp] def k30_2 : HCode := .seq (.region r30_2 none) .ret
@[simp] def k30_1 : HCode := .cond (.loc 7) k30_2 .skip
def k30_3 : HCode := .seq (.region r30_3 none) .ret
@[simp] def k30_0 : HCode := .seq (.seq (.region r30_1 none) k30_1) k30_3
@[simp] def fn30 : HFn := { nargs := 2, results := [.tmp 4], mode := .shared, code := (.seq (.region r30_0 none) k30_0) }
theorem c30 : cFn Tryd.prog (Hs 30) .shared 30 = some fn30 := by kernel_rfl
/- unicode/utf8.appendRuneNonASCII -/
@[simp] def r48_0 : List HOp := [⟨(some 4), true, .mv (.val (.tr (.sc (.slice none 0 0)))), none⟩]
@[simp] def r48_1 : List HOp := [⟨(some 6), false, .mv (.env 1), none⟩,
     ⟨(some 7), false, .conv (.toInt .u32) (.loc 6), none⟩,
     ⟨(some 5), true, .mv (.loc 7), none⟩]
@[simp] def r48_2 : List HOp := [⟨(some 12), false, .mv (.env 5), none⟩,
      ⟨(some 13), false, .bin .other .leq (.loc 12) (.val (.tr (.sc (.int .u32 2047)))), none⟩,
      ⟨(some 11), false, .mv (.loc 13), none⟩]
@[simp] def r48_3 : List HOp := [⟨(some 14), false, .mv (.env 0), none⟩,
       ⟨(some 15), false, .mv (.env 1), none⟩,
       ⟨(some 16), false, .bin .other .shr (.loc 15) (.val (.tr (.sc (.int .u64 6)))), none⟩,
       ⟨(some 17), false, .conv (.toInt .u8) (.loc 16), none⟩,
       ⟨(some 18), false, .bin .other .or (.val (.tr (.sc (.int .u8 192)))) (.loc 17), none⟩,
       ⟨(some 19), false, .mv (.env 1), none⟩,
       ⟨(some 20), false, .conv (.toInt .u8) (.loc 19), none⟩,
       ⟨(some 21), false, .bin .other .and (.loc 20) (.val (.tr (.sc (.int .u8 63)))), none⟩,
       ⟨(some 22), false, .bin .other .or (.val (.tr (.sc (.int .u8 128)))) (.loc 21), none⟩,
       ⟨(some 23), false, .bslice false 2 1 [(.sc (.int .u8 0))] [(0, 1, (.loc 18)), (1, 1, (.loc 22))], none⟩,
       ⟨(some 24), false, .append 1 1 (.loc 14) (.loc 23), none⟩,
       ⟨(some 4), true, .mv (.loc 24), none⟩]
@[simp] def r48_4 : List HOp := [⟨(some 26), false, .mv (.env 5), none⟩,
        ⟨(some 27), false, .bin .other .lss (.loc 26) (.val (.tr (.sc (.int .u32 55296)))), none⟩,
        ⟨(some 25), true, .mv (.loc 27), none⟩]
@[simp] def r48_5 : List HOp := [⟨(some 28), false, .mv (.env 5), none⟩,
        ⟨(some 29), false, .bin .other .lss (.val (.tr (.sc (.int .u32 57343)))) (.loc 28), none⟩,
        ⟨(some 30), false, .mv (.loc 29), none⟩,
        ⟨(some 31), false, .mv (.env 5), some ((.loc 30), true)⟩,
        ⟨(some 32), false, .bin .other .leq (.loc 31) (.val (.tr (.sc (.int .u32 65535)))), some ((.loc 30), true)⟩,
        ⟨(some 33), false, .pick (.loc 30) (.loc 32) (.val (.tr (.sc (.bool false)))), none⟩,
        ⟨(some 25), true, .mv (.loc 33), none⟩]
@[simp] def r48_6 : List HOp := [⟨(some 34), false, .mv (.env 0), none⟩,
        ⟨(some 35), false, .mv (.env 1), none⟩,
        ⟨(some 36), false, .bin .other .shr (.loc 35) (.val (.tr (.sc (.int .u64 12)))), none⟩,
        ⟨(some 37), false, .conv (.toInt .u8) (.loc 36), none⟩,
        ⟨(some 38), false, .bin .other .or (.val (.tr (.sc (.int .u8 224)))) (.loc 37), none⟩,
        ⟨(some 39), false, .mv (.env 1), none⟩,
        ⟨(some 40), false, .bin .other .shr (.loc 39) (.val (.tr (.sc (.int .u64 6)))), none⟩,
        ⟨(some 41), false, .conv (.toInt .u8) (.loc 40), none⟩,
        ⟨(some 42), false, .bin .other .and (.loc 41) (.val (.tr (.sc (.int .u8 63)))), none⟩,
        ⟨(some 43), false, .bin .other .or (.val (.tr (.sc (.int .u8 128)))) (.loc 42), none⟩,
        ⟨(some 44), false, .mv (.env 1), none⟩,
        ⟨(some 45), false, .conv (.toInt .u8) (.loc 44), none⟩,
        ⟨(some 46), false, .bin .other .and (.loc 45) (.val (.tr (.sc (.int .u8 63)))), none⟩,
        ⟨(some 47), false, .bin .other .or (.val (.tr (.sc (.int .u8 128)))) (.loc 46), none⟩,
        ⟨(some 48), false, .bslice false 3 1 [(.sc (.int .u8 0))] [(0, 1, (.loc 38)), (1, 1, (.loc 43)), (2, 1, (.loc 47))], none⟩,
        ⟨(some 49), false, .append 1 1 (.loc 34) (.loc 48), none⟩,
        ⟨(some 4), true, .mv (.loc 49), none⟩]
@[simp] def r48_7 : List HOp := [⟨(some 51), false, .mv (.env 5), none⟩,
        ⟨(some 52), false, .bin .other .gtr (.loc 51) (.val (.tr (.sc (.int .u32 65535)))), none⟩,
        ⟨(some 53), false, .mv (.loc 52), none⟩,
        ⟨(some 54), false, .mv (.env 5), some ((.loc 53), true)⟩,
        ⟨(some 55), false, .bin .other .leq (.loc 54) (.val (.tr (.sc (.int .u32 1114111)))), some ((.loc 53), true)⟩,
        ⟨(some 56), false, .pick (.loc 53) (.loc 55) (.val (.tr (.sc (.bool false)))), none⟩,
        ⟨(some 50), false, .mv (.loc 56), none⟩]
@[simp] def r48_8 : List HOp := [⟨(some 57), false, .mv (.env 0), none⟩,
         ⟨(some 58), false, .mv (.env 1), none⟩,
         ⟨(some 59), false, .bin .other .shr (.loc 58) (.val (.tr (.sc (.int .u64 18)))), none⟩,
         ⟨(some 60), false, .conv (.toInt .u8) (.loc 59), none⟩,
         ⟨(some 61), false, .bin .other .or (.val (.tr (.sc (.int .u8 240)))) (.loc 60), none⟩,
         ⟨(some 62), false, .mv (.env 1), none⟩,
         ⟨(some 63), false, .bin .other .shr (.loc 62) (.val (.tr (.sc (.int .u64 12)))), none⟩,
         ⟨(some 64), false, .conv (.toInt .u8) (.loc 63), none⟩,
         ⟨(some 65), false, .bin .other .and (.loc 64) (.val (.tr (.sc (.int .u8 63)))), none⟩,
         ⟨(some 66), false, .bin .other .or (.val (.tr (.sc (.int .u8 128)))) (.loc 65), none⟩,
         ⟨(some 67), false, .mv (.env 1), none⟩,
         ⟨(some 68), false, .bin .other .shr (.loc 67) (.val (.tr (.sc (.int .u64 6)))), none⟩,
         ⟨(some 69), false, .conv (.toInt .u8) (.loc 68), none⟩,
         ⟨(some 70), false, .bin .other .and (.loc 69) (.val (.tr (.sc (.int .u8 63)))), none⟩,
         ⟨(some 71), false, .bin .other .or (.val (.tr (.sc (.int .u8 128)))) (.loc 70), none⟩,
         ⟨(some 72), false, .mv (.env 1), none⟩,
         ⟨(some 73), false, .conv (.toInt .u8) (.loc 72), none⟩,
         ⟨(some 74), false, .bin .other .and (.loc 73) (.val (.tr (.sc (.int .u8 63)))), none⟩,
         ⟨(some 75), false, .bin .other .or (.val (.tr (.sc (.int .u8 128)))) (.loc 74), none⟩,
         ⟨(some 76), false, .bslice false 4 1 [(.sc (.int .u8 0))] [(0, 1, (.loc 61)), (1, 1, (.loc 66)), (2, 1, (.loc 71)), (3, 1, (.loc 75))], none⟩,
         ⟨(some 77), false, .append 1 1 (.loc 57) (.loc 76), none⟩,
         ⟨(some 4), true, .mv (.loc 77), none⟩]
@[simp] def r48_9 : List HOp := [⟨(some 8), false, .mv (.env 0), none⟩,
         ⟨(some 9), false, .bslice false 3 1 [(.sc (.int .u8 0))] [(0, 1, (.val (.tr (.sc (.int .u8 239))))), (1, 1, (.val (.tr (.sc (.int .u8 191))))), (2, 1, (.val (.tr (.sc (.int .u8 189)))))], none⟩,
         ⟨(some 10), false, .append 1 1 (.loc 8) (.loc 9), none⟩,
         ⟨(some 4), true, .mv (.loc 10), none⟩]
@[simp] def k48_3 : HCode := .seq (.region r48_3 none) .ret
@[simp] def k48_5 : HCode := .cond (.env 25) .skip (.region r48_5 none)
@[simp] def k48_7 : HCode := .seq (.region r48_6 none) .ret
@[simp] def k48_10 : HCode := .seq (.region r48_8 none) .ret
@[simp] def k48_11 : HCode := .seq (.region r48_9 none) .ret
@[simp] def k48_9 : HCode := .cond (.loc 50) k48_10 k48_11
@[simp] def k48_8 : HCode := .seq (.region r48_7 none) k48_9
def k48_6 : HCode := .cond (.env 25) k48_7 k48_8
@[simp] def k48_4 : HCode := .seq (.seq (.region r48_4 none) k48_5) k48_6
@[simp] def k48_2 : HCode := .cond (.loc 11) k48_3 k48_4
@[simp] def k48_1 : HCode := .block 0 (.seq (.region r48_2 none) k48_2)
@[simp] def k48_0 : HCode := .seq (.region r48_1 none) k48_1
@[simp] def fn48 : HFn := { nargs := 2, results := [.tmp 4], mode := .shared, code := (.seq (.region r48_0 none) k48_0) }
theorem c48 : cFn Tryd.prog (Hs 48) .shared 48 = some fn48 := by kernel_rfl
/- sterling/sterlinglaw5.Short -/
@[simp] def r8_0 : List HOp := [⟨(some 4), true, .mv (.val (.tr (.sc (.slice none 0 0)))), none⟩]
@[simp] def r8_1 : List HOp := [⟨(some 5), false, .mv (.env 0), none⟩,
      ⟨(some 6), false, .len 1 (.loc 5), none⟩,
      ⟨(some 7), false, .mv (.env 1), none⟩,
      ⟨(some 8), false, .bin .other .gtr (.loc 6) (.loc 7), none⟩]
@[simp] def r8_2 : List HOp := [⟨(some 9), false, .mv (.env 0), none⟩,
       ⟨(some 10), false, .mv (.env 1), none⟩,
       ⟨(some 11), false, .slice 1 (.loc 9) none (some (.loc 10)) none, none⟩,
       ⟨(some 4), true, .mv (.loc 11), none⟩]
@[simp] def r8_3 : List HOp := [⟨(some 12), false, .mv (.env 0), none⟩,
     ⟨(some 4), true, .mv (.loc 12), none⟩]
@[simp] def k8_2 : HCode := .seq (.region r8_2 none) .ret
@[simp] def k8_1 : HCode := .cond (.loc 8) k8_2 .skip
def k8_3 : HCode := .seq (.region r8_3 none) .ret
@[simp] def k8_0 : HCode := .seq (.seq (.region r8_1 none) k8_1) k8_3
@[simp] def fn8 : HFn := { nargs := 2, results := [.tmp 4], mode := .iso, code := (.seq (.region r8_0 none) k8_0) }
theorem c8 : cFn Tryd.prog (Hs 8) .iso 8 = some fn8 := by kernel_rfl
/- sterling/sterlingref5.Scan -/
@[simp] def r10_0 : List HOp := [⟨(some 2), true, .mv (.val (.tr (.sc (.slice none 0 0)))), none⟩,
     ⟨(some 3), true, .mv (.val (.tr (.sc (.int .i64 0)))), none⟩,
     ⟨(some 4), true, .mv (.val (.tr (.sc (.bool false)))), none⟩]
@[simp] def r10_1 : List HOp := [⟨(some 5), true, .mv (.val (.tr (.sc (.slice none 0 0)))), none⟩]
@[simp] def r10_2 : List HOp := [⟨(some 6), true, .mv (.val (.tr (.sc (.int .i64 0)))), none⟩]
@[simp] def r10_3 : List HOp := [⟨(some 11), false, .mv (.env 6), none⟩,
         ⟨(some 12), false, .mv (.env 0), none⟩,
         ⟨(some 13), false, .len 1 (.loc 12), none⟩,
         ⟨(some 14), false, .bin .other .lss (.loc 11) (.loc 13), none⟩]
@[simp] def r10_4 : List HOp := [⟨(some 15), false, .mv (.env 0), none⟩,
         ⟨(some 16), false, .mv (.env 6), none⟩,
         ⟨(some 17), false, .iaddr 1 (.loc 15) (.loc 16), none⟩,
         ⟨(some 18), false, .load 1 false (.loc 17), none⟩,
         ⟨(some 7), true, .mv (.loc 18), none⟩]
@[simp] def r10_5 : List HOp := [⟨(some 19), false, .mv (.env 7), none⟩,
         ⟨(some 20), false, .bin .other .eql (.loc 19) (.val (.tr (.sc (.int .u8 10)))), none⟩,
         ⟨(some 8), true, .mv (.loc 20), none⟩]
@[simp] def r10_6 : List HOp := [⟨(some 9), true, .mv (.val (.tr (.sc (.int .i64 1)))), none⟩]
@[simp] def r10_7 : List HOp := [⟨(some 10), true, .mv (.val (.tr (.sc (.int .i64 0)))), none⟩]
@[simp] def r10_8 : List HOp := [⟨(some 25), false, .mv (.env 7), none⟩,
           ⟨(some 26), false, .bin .other .eql (.loc 25) (.val (.tr (.sc (.int .u8 32)))), none⟩,
           ⟨(some 27), false, .mv (.loc 26), none⟩,
           ⟨(some 28), false, .mv (.env 7), some ((.loc 27), false)⟩,
           ⟨(some 29), false, .bin .other .eql (.loc 28) (.val (.tr (.sc (.int .u8 9)))), some ((.loc 27), false)⟩,
           ⟨(some 30), false, .pick (.loc 27) (.val (.tr (.sc (.bool true)))) (.loc 29), none⟩,
           ⟨(some 31), false, .mv (.loc 30), none⟩,
           ⟨(some 32), false, .mv (.env 7), some ((.loc 31), false)⟩,
           ⟨(some 33), false, .bin .other .eql (.loc 32) (.val (.tr (.sc (.int .u8 13)))), some ((.loc 31), false)⟩,
           ⟨(some 34), false, .pick (.loc 31) (.val (.tr (.sc (.bool true)))) (.loc 33), none⟩,
           ⟨(some 35), false, .mv (.loc 34), none⟩,
           ⟨(some 36), false, .mv (.env 8), some ((.loc 35), false)⟩,
           ⟨(some 37), false, .pick (.loc 35) (.val (.tr (.sc (.bool true)))) (.loc 36), none⟩,
           ⟨(some 24), false, .mv (.loc 37), none⟩]
@[simp] def r10_9 : List HOp := [⟨(some 39), false, .mv (.env 7), none⟩,
            ⟨(some 40), false, .bin .other .eql (.loc 39) (.val (.tr (.sc (.int .u8 47)))), none⟩,
            ⟨(some 41), false, .mv (.loc 40), none⟩,
            ⟨(some 42), false, .mv (.env 0), some ((.loc 41), true)⟩,
            ⟨(some 43), false, .mv (.env 6), some ((.loc 41), true)⟩,
            ⟨(some 44), false, .bin .other .add (.loc 43) (.val (.tr (.sc (.int .i64 1)))), some ((.loc 41), true)⟩,
            ⟨(some 45), false, .callf 19 [(.loc 42), (.loc 44)], some ((.loc 41), true)⟩,
            ⟨(some 46), false, .bin .other .eql (.loc 45) (.val (.tr (.sc (.int .u8 47)))), some ((.loc 41), true)⟩,
            ⟨(some 47), false, .mv (.loc 46), some ((.loc 41), true)⟩,
            ⟨(some 48), false, .mv (.env 0), some ((.loc 47), false)⟩,
            ⟨(some 49), false, .mv (.env 6), some ((.loc 47), false)⟩,
            ⟨(some 50), false, .bin .other .add (.loc 49) (.val (.tr (.sc (.int .i64 1)))), some ((.loc 47), false)⟩,
            ⟨(some 51), false, .callf 19 [(.loc 48), (.loc 50)], some ((.loc 47), false)⟩,
            ⟨(some 52), false, .bin .other .eql (.loc 51) (.val (.tr (.sc (.int .u8 42)))), some ((.loc 47), false)⟩,
            ⟨(some 53), false, .pick (.loc 47) (.val (.tr (.sc (.bool true)))) (.loc 52), some ((.loc 41), true)⟩,
            ⟨(some 54), false, .pick (.loc 41) (.loc 53) (.val (.tr (.sc (.bool false)))), none⟩,
            ⟨(some 38), false, .mv (.loc 54), none⟩]
@[simp] def r10_10 : List HOp := [⟨(some 56), false, .mv (.env 0), none⟩,
            ⟨(some 57), false, .mv (.env 6), none⟩,
            ⟨(some 58), false, .callf 20 [(.loc 56), (.loc 57)], none⟩,
            ⟨(some 55), false, .mv (.loc 58), none⟩,
            ⟨(some 59), false, .extract (.loc 55) 0, none⟩,
            ⟨(some 60), false, .extract (.loc 55) 1, none⟩,
            ⟨(some 9), true, .mv (.loc 59), none⟩,
            ⟨(some 8), true, .mv (.loc 60), none⟩]
@[simp] def r10_11 : List HOp := [⟨(some 62), false, .mv (.env 7), none⟩,
             ⟨(some 63), false, .callf 21 [(.loc 62)], none⟩,
             ⟨(some 61), false, .mv (.loc 63), none⟩]
@[simp] def r10_12 : List HOp := [⟨(some 64), false, .mv (.env 0), none⟩,
                  ⟨(some 65), false, .mv (.env 6), none⟩,
                  ⟨(some 66), false, .mv (.env 9), none⟩,
                  ⟨(some 67), false, .bin .other .add (.loc 65) (.loc 66), none⟩,
                  ⟨(some 68), false, .callf 19 [(.loc 64), (.loc 67)], none⟩,
                  ⟨(some 69), false, .callf 21 [(.loc 68)], none⟩,
                  ⟨(some 70), false, .mv (.loc 69), none⟩,
                  ⟨(some 71), false, .mv (.env 0), some ((.loc 70), false)⟩,
                  ⟨(some 72), false, .mv (.env 6), some ((.loc 70), false)⟩,
                  ⟨(some 73), false, .mv (.env 9), some ((.loc 70), false)⟩,
                  ⟨(some 74), false, .bin .other .add (.loc 72) (.loc 73), some ((.loc 70), false)⟩,
                  ⟨(some 75), false, .callf 19 [(.loc 71), (.loc 74)], some ((.loc 70), false)⟩,
                  ⟨(some 76), false, .callf 22 [(.loc 75)], some ((.loc 70), false)⟩,
                  ⟨(some 77), false, .pick (.loc 70) (.val (.tr (.sc (.bool true)))) (.loc 76), none⟩]
@[simp] def r10_13 : List HOp := [⟨(some 78), false, .mv (.env 9), none⟩,
                 ⟨(some 79), false, .bin .other .add (.loc 78) (.val (.tr (.sc (.int .i64 1)))), none⟩,
                 ⟨(some 9), true, .mv (.loc 79), none⟩]
@[simp] def r10_14 : List HOp := [⟨(some 10), true, .mv (.val (.tr (.sc (.int .i64 1)))), none⟩]
@[simp] def r10_15 : List HOp := [⟨(some 80), false, .mv (.env 0), none⟩,
              ⟨(some 81), false, .mv (.env 6), none⟩,
              ⟨(some 82), false, .mv (.env 6), none⟩,
              ⟨(some 83), false, .mv (.env 9), none⟩,
              ⟨(some 84), false, .bin .other .add (.loc 82) (.loc 83), none⟩,
              ⟨(some 85), false, .slice 1 (.loc 80) (some (.loc 81)) (some (.loc 84)) none, none⟩,
              ⟨(some 86), false, .conv .bytesStr (.loc 85), none⟩,
              ⟨(some 87), false, .callf 15 [(.loc 86)], none⟩]
@[simp] def r10_16 : List HOp := [⟨(some 10), true, .mv (.val (.tr (.sc (.int .i64 6)))), none⟩]
@[simp] def r10_17 : List HOp := [⟨(some 89), false, .mv (.env 7), none⟩,
              ⟨(some 90), false, .callf 22 [(.loc 89)], none⟩,
              ⟨(some 91), false, .mv (.loc 90), none⟩,
              ⟨(some 92), false, .mv (.env 7), some ((.loc 91), false)⟩,
              ⟨(some 93), false, .bin .other .eql (.loc 92) (.val (.tr (.sc (.int .u8 46)))), some ((.loc 91), false)⟩,
              ⟨(some 94), false, .mv (.loc 93), some ((.loc 91), false)⟩,
              ⟨(some 95), false, .mv (.env 0), some ((.loc 94), true)⟩,
              ⟨(some 96), false, .mv (.env 6), some ((.loc 94), true)⟩,
              ⟨(some 97), false, .bin .other .add (.loc 96) (.val (.tr (.sc (.int .i64 1)))), some ((.loc 94), true)⟩,
              ⟨(some 98), false, .callf 19 [(.loc 95), (.loc 97)], some ((.loc 94), true)⟩,
              ⟨(some 99), false, .callf 22 [(.loc 98)], some ((.loc 94), true)⟩,
              ⟨(some 100), false, .pick (.loc 94) (.loc 99) (.val (.tr (.sc (.bool false)))), some ((.loc 91), false)⟩,
              ⟨(some 101), false, .pick (.loc 91) (.val (.tr (.sc (.bool true)))) (.loc 100), none⟩,
              ⟨(some 88), false, .mv (.loc 101), none⟩]
@[simp] def r10_18 : List HOp := [⟨(some 103), false, .mv (.env 0), none⟩,
              ⟨(some 104), false, .mv (.env 6), none⟩,
              ⟨(some 105), false, .callf 23 [(.loc 103), (.loc 104)], none⟩,
              ⟨(some 102), false, .mv (.loc 105), none⟩,
              ⟨(some 106), false, .extract (.loc 102) 0, none⟩,
              ⟨(some 107), false, .extract (.loc 102) 1, none⟩,
              ⟨(some 10), true, .mv (.loc 106), none⟩,
              ⟨(some 9), true, .mv (.loc 107), none⟩]
@[simp] def r10_19 : List HOp := [⟨(some 109), false, .mv (.env 7), none⟩,
               ⟨(some 110), false, .bin .other .eql (.loc 109) (.val (.tr (.sc (.int .u8 34)))), none⟩,
               ⟨(some 111), false, .mv (.loc 110), none⟩,
               ⟨(some 112), false, .mv (.env 7), some ((.loc 111), false)⟩,
               ⟨(some 113), false, .bin .other .eql (.loc 112) (.val (.tr (.sc (.int .u8 96)))), some ((.loc 111), false)⟩,
               ⟨(some 114), false, .pick (.loc 111) (.val (.tr (.sc (.bool true)))) (.loc 113), none⟩,
               ⟨(some 108), false, .mv (.loc 114), none⟩]
@[simp] def r10_20 : List HOp := [⟨(some 116), false, .mv (.env 0), none⟩,
                ⟨(some 117), false, .mv (.env 6), none⟩,
                ⟨(some 118), false, .callf 24 [(.loc 116), (.loc 117)], none⟩,
                ⟨(some 115), false, .mv (.loc 118), none⟩,
                ⟨(some 119), false, .extract (.loc 115) 0, none⟩,
                ⟨(some 120), false, .extract (.loc 115) 1, none⟩,
                ⟨(some 9), true, .mv (.loc 119), none⟩]
@[simp] def r10_21 : List HOp := [⟨(some 10), true, .mv (.val (.tr (.sc (.int .i64 4)))), none⟩]
@[simp] def r10_22 : List HOp := [⟨(some 122), false, .mv (.env 7), none⟩,
                ⟨(some 123), false, .bin .other .eql (.loc 122) (.val (.tr (.sc (.int .u8 59)))), none⟩,
                ⟨(some 121), false, .mv (.loc 123), none⟩]
@[simp] def r10_23 : List HOp := [⟨(some 10), true, .mv (.val (.tr (.sc (.int .i64 7)))), none⟩]
@[simp] def r10_24 : List HOp := [⟨(some 21), false, .mv (.env 0), none⟩,
                 ⟨(some 22), false, .mv (.env 6), none⟩,
                 ⟨(some 23), false, .callf 25 [(.loc 21), (.loc 22)], none⟩,
                 ⟨(some 9), true, .mv (.loc 23), none⟩]
@[simp] def r10_25 : List HOp := [⟨(some 10), true, .mv (.val (.tr (.sc (.int .i64 5)))), none⟩]
@[simp] def r10_26 : List HOp := [⟨(some 124), false, .mv (.env 9), none⟩,
          ⟨(some 125), false, .bin .other .eql (.loc 124) (.val (.tr (.sc (.int .i64 0)))), none⟩]
@[simp] def r10_27 : List HOp := [⟨(some 126), false, .mv (.env 6), none⟩,
           ⟨(some 2), true, .mv (.val (.tr (.sc (.slice none 0 0)))), none⟩,
           ⟨(some 3), true, .mv (.loc 126), none⟩,
           ⟨(some 4), true, .mv (.val (.tr (.sc (.bool false)))), none⟩]
@[simp] def r10_28 : List HOp := [⟨(some 127), false, .mv (.env 8), none⟩,
          ⟨(some 128), false, .mv (.loc 127), none⟩,
          ⟨(some 129), false, .mv (.env 5), some ((.loc 128), true)⟩,
          ⟨(some 130), false, .callf 26 [(.loc 129)], some ((.loc 128), true)⟩,
          ⟨(some 131), false, .pick (.loc 128) (.loc 130) (.val (.tr (.sc (.bool false)))), none⟩]
@[simp] def r10_29 : List HOp := [⟨(some 132), false, .mv (.env 5), none⟩,
          ⟨(some 133), false, .mv (.env 6), none⟩,
          ⟨(some 134), false, .build [(.sc (.int .i64 0)), (.sc (.string ⟨⟨[]⟩⟩)), (.sc (.int .i64 0))] [(0, 1, (.val (.tr (.sc (.int .i64 7))))), (1, 1, (.val (.tr (.sc (.string ⟨⟨[10]⟩⟩))))), (2, 1, (.loc 133))], none⟩,
          ⟨(some 135), false, .bslice false 1 3 [(.sc (.int .i64 0)), (.sc (.string ⟨⟨[]⟩⟩)), (.sc (.int .i64 0))] [(0, 3, (.loc 134))], none⟩,
          ⟨(some 136), false, .append 3 32 (.loc 132) (.loc 135), none⟩,
          ⟨(some 5), true, .mv (.loc 136), none⟩]
@[simp] def r10_30 : List HOp := [⟨(some 137), false, .mv (.env 10), none⟩,
          ⟨(some 138), false, .bin .other .neq (.loc 137) (.val (.tr (.sc (.int .i64 0)))), none⟩]
@[simp] def r10_31 : List HOp := [⟨(some 139), false, .mv (.env 5), none⟩,
          ⟨(some 140), false, .mv (.env 10), none⟩,
          ⟨(some 141), false, .mv (.env 0), none⟩,
          ⟨(some 142), false, .mv (.env 6), none⟩,
          ⟨(some 143), false, .mv (.env 6), none⟩,
          ⟨(some 144), false, .mv (.env 9), none⟩,
          ⟨(some 145), false, .bin .other .add (.loc 143) (.loc 144), none⟩,
          ⟨(some 146), false, .slice 1 (.loc 141) (some (.loc 142)) (some (.loc 145)) none, none⟩,
          ⟨(some 147), false, .conv .bytesStr (.loc 146), none⟩,
          ⟨(some 148), false, .mv (.env 6), none⟩,
          ⟨(some 149), false, .build [(.sc (.int .i64 0)), (.sc (.string ⟨⟨[]⟩⟩)), (.sc (.int .i64 0))] [(0, 1, (.loc 140)), (1, 1, (.loc 147)), (2, 1, (.loc 148))], none⟩,
          ⟨(some 150), false, .bslice false 1 3 [(.sc (.int .i64 0)), (.sc (.string ⟨⟨[]⟩⟩)), (.sc (.int .i64 0))] [(0, 3, (.loc 149))], none⟩,
          ⟨(some 151), false, .append 3 32 (.loc 139) (.loc 150), none⟩,
          ⟨(some 5), true, .mv (.loc 151), none⟩]
@[simp] def r10_32 : List HOp := [⟨(some 152), false, .mv (.env 6), none⟩,
        ⟨(some 153), false, .mv (.env 9), none⟩,
        ⟨(some 154), false, .bin .other .add (.loc 152) (.loc 153), none⟩,
        ⟨(some 6), true, .mv (.loc 154), none⟩]
@[simp] def r10_33 : List HOp := [⟨(some 155), false, .mv (.env 5), none⟩,
      ⟨(some 156), false, .callf 26 [(.loc 155)], none⟩]
@[simp] def r10_34 : List HOp := [⟨(some 157), false, .mv (.env 5), none⟩,
      ⟨(some 158), false, .mv (.env 0), none⟩,
      ⟨(some 159), false, .len 1 (.loc 158), none⟩,
      ⟨(some 160), false, .build [(.sc (.int .i64 0)), (.sc (.string ⟨⟨[]⟩⟩)), (.sc (.int .i64 0))] [(0, 1, (.val (.tr (.sc (.int .i64 7))))), (1, 1, (.val (.tr (.sc (.string ⟨⟨[10]⟩⟩))))), (2, 1, (.loc 159))], none⟩,
      ⟨(some 161), false, .bslice false 1 3 [(.sc (.int .i64 0)), (.sc (.string ⟨⟨[]⟩⟩)), (.sc (.int .i64 0))] [(0, 3, (.loc 160))], none⟩,
      ⟨(some 162), false, .append 3 32 (.loc 157) (.loc 161), none⟩,
      ⟨(some 5), true, .mv (.loc 162), none⟩]
@[simp] def r10_35 : List HOp := [⟨(some 163), false, .mv (.env 5), none⟩,
     ⟨(some 164), false, .mv (.env 0), none⟩,
     ⟨(some 165), false, .len 1 (.loc 164), none⟩,
     ⟨(some 166), false, .build [(.sc (.int .i64 0)), (.sc (.string ⟨⟨[]⟩⟩)), (.sc (.int .i64 0))] [(0, 1, (.val (.tr (.sc (.int .i64 0))))), (2, 1, (.loc 165))], none⟩,
     ⟨(some 167), false, .bslice false 1 3 [(.sc (.int .i64 0)), (.sc (.string ⟨⟨[]⟩⟩)), (.sc (.int .i64 0))] [(0, 3, (.loc 166))], none⟩,
     ⟨(some 168), false, .append 3 32 (.loc 163) (.loc 167), none⟩,
     ⟨(some 2), true, .mv (.loc 168), none⟩,
     ⟨(some 3), true, .mv (.val (.tr (.sc (.int .i64 0)))), none⟩,
     ⟨(some 4), true, .mv (.val (.tr (.sc (.bool true)))), none⟩]
@[simp] def k10_4 : HCode := .cond (.loc 14) .skip (.exit 0)
@[simp] def k10_17 : HCode := .cond (.loc 77) .skip (.exit 3)
def k10_18 : HCode := .block 4 (.region r10_13 none)
def k10_16 : HCode := .seq (.seq (.region r10_12 none) k10_17) k10_18
@[simp] def k10_21 : HCode := .cond (.loc 87) (.region r10_16 none) .skip
@[simp] def k10_20 : HCode := .seq (.region r10_15 none) k10_21
def k10_19 : HCode := .seq (.region r10_14 none) k10_20
@[simp] def k10_15 : HCode := .seq (.block 3 (.loop k10_16)) k10_19
@[simp] def k10_26 : HCode := .seq (.region r10_20 none) (.region r10_21 none)
@[simp] def k10_29 : HCode := .seq (.region r10_24 none) (.region r10_25 none)
@[simp] def k10_28 : HCode := .cond (.loc 121) (.region r10_23 none) k10_29
@[simp] def k10_27 : HCode := .seq (.region r10_22 none) k10_28
@[simp] def k10_25 : HCode := .cond (.loc 108) k10_26 k10_27
@[simp] def k10_24 : HCode := .seq (.region r10_19 none) k10_25
@[simp] def k10_23 : HCode := .cond (.loc 88) (.region r10_18 none) k10_24
@[simp] def k10_22 : HCode := .seq (.region r10_17 none) k10_23
@[simp] def k10_14 : HCode := .cond (.loc 61) k10_15 k10_22
@[simp] def k10_13 : HCode := .seq (.region r10_11 none) k10_14
@[simp] def k10_12 : HCode := .cond (.loc 38) (.region r10_10 none) k10_13
@[simp] def k10_11 : HCode := .seq (.region r10_9 none) k10_12
@[simp] def k10_10 : HCode := .cond (.loc 24) .skip k10_11
@[simp] def k10_32 : HCode := .seq (.region r10_27 none) .ret
@[simp] def k10_31 : HCode := .cond (.loc 125) k10_32 .skip
@[simp] def k10_34 : HCode := .cond (.loc 131) (.region r10_29 none) .skip
@[simp] def k10_36 : HCode := .cond (.loc 138) (.region r10_31 none) .skip
def k10_37 : HCode := .region r10_32 none
def k10_35 : HCode := .seq (.seq (.region r10_30 none) k10_36) k10_37
def k10_33 : HCode := .seq (.seq (.region r10_28 none) k10_34) k10_35
def k10_30 : HCode := .seq (.seq (.region r10_26 none) k10_31) k10_33
@[simp] def k10_9 : HCode := .seq (.block 2 (.seq (.region r10_8 none) k10_10)) k10_30
@[simp] def k10_8 : HCode := .seq (.region r10_7 none) k10_9
@[simp] def k10_7 : HCode := .seq (.region r10_6 none) k10_8
@[simp] def k10_6 : HCode := .seq (.region r10_5 none) k10_7
def k10_5 : HCode := .block 1 (.seq (.region r10_4 none) k10_6)
def k10_3 : HCode := .seq (.seq (.region r10_3 none) k10_4) k10_5
@[simp] def k10_2 : HCode := .block 0 (.loop k10_3)
@[simp] def k10_39 : HCode := .cond (.loc 156) (.region r10_34 none) .skip
def k10_40 : HCode := .seq (.region r10_35 none) .ret
def k10_38 : HCode := .seq (.seq (.region r10_33 none) k10_39) k10_40
@[simp] def k10_1 : HCode := .seq (.seq (.region r10_2 none) k10_2) k10_38
@[simp] def k10_0 : HCode := .seq (.region r10_1 none) k10_1
@[simp] def fn10 : HFn := { nargs := 1, results := [.tmp 2, .tmp 3, .tmp 4], mode := .iso, code := (.seq (.region r10_0 none) k10_0) }
theorem c10 : cFn Tryd.prog (Hs 10) .iso 10 = some fn10 := by kernel_rfl
end Go.Proofs.YtbdebcmklaooaaaDoor.AM.Sa
