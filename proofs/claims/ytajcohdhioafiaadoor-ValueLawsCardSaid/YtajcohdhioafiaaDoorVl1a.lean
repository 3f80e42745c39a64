/- The functions that ValueLaws reaches, each checked against the translation, part one. -/
import Derived.Test.YtajcohdhioafiaaDoorAm3
import Derived.Test.YtajcohdhioafiaaDoorProg
import Derived.KernelRfl
set_option maxRecDepth 1000000
set_option linter.unusedVariables false
set_option linter.unusedSimpArgs false
namespace Go.Proofs.YtajcohdhioafiaaDoor.AM.Vl
open Go.Proofs
/-- What was chosen for each function. -/
def Hq (f : Nat) : List Nat :=  []
def Hb (f : Nat) : List Nat := if Nat.beq f 25 then [2, 3] else if Nat.beq f 55 then [1] else if Nat.beq f 56 then [2, 3] else if Nat.beq f 26 then [2, 3] else if Nat.beq f 28 then [1] else if Nat.beq f 65 then [1] else if Nat.beq f 59 then [1] else if Nat.beq f 62 then [2, 3] else if Nat.beq f 82 then [1] else if Nat.beq f 47 then [2, 3] else if Nat.beq f 27 then [1] else if Nat.beq f 79 then [1] else if Nat.beq f 42 then [3, 4, 5] else if Nat.beq f 60 then [2] else if Nat.beq f 61 then [1] else if Nat.beq f 29 then [1] else if Nat.beq f 68 then [2, 3] else if Nat.beq f 50 then [1] else if Nat.beq f 80 then [1] else []
def Hl (f : Nat) : List Nat := if Nat.beq f 25 then [12, 14, 16, 27, 29, 31, 35, 37, 39] else if Nat.beq f 26 then [14, 17] else if Nat.beq f 28 then [3] else if Nat.beq f 47 then [12, 15, 48, 50, 55] else if Nat.beq f 42 then [18, 20, 24, 27, 29, 30, 50, 91] else if Nat.beq f 60 then [21] else []
def Ho (f d : Nat) : Bool :=  false
def Hs (f : Nat) : Hints := { own := fun d => Ho f d, qa := fun d => memN d (Hq f), tu := fun _ => true, bt := fun d => memN d (Hb f), ld := fun d => memN d (Hl f) }
/-- Functions by what they answer: how many arguments, which. -/
def Te (f : Nat) : Option (Nat × Nat) := if Nat.beq f 6 then some (1, 7) else if Nat.beq f 18 then some (1, 6) else if Nat.beq f 32 then some (2, 13) else none
/- sterling/sterlinglaw25.ValueLaws -/
@[simp] def r4_0 : List HOp := [⟨(some 6), true, .mv (.val (.tr (.sc (.bool false)))), none⟩]
@[simp] def r4_1 : List HOp := [⟨(some 24), false, .callf 5 [], none⟩,
     ⟨(some 7), true, .mv (.loc 24), none⟩]
@[simp] def r4_2 : List HOp := [⟨(some 25), false, .mv (.env 0), none⟩,
      ⟨(some 26), false, .bin .other .neq (.loc 25) (.val (.tr (.sc (.string ⟨⟨[105, 110, 116]⟩⟩)))), none⟩,
      ⟨(some 27), false, .mv (.loc 26), none⟩,
      ⟨(some 28), false, .mv (.env 0), some ((.loc 27), true)⟩,
      ⟨(some 29), false, .bin .other .neq (.loc 28) (.val (.tr (.sc (.string ⟨⟨[105, 110, 116, 56]⟩⟩)))), some ((.loc 27), true)⟩,
      ⟨(some 30), false, .pick (.loc 27) (.loc 29) (.val (.tr (.sc (.bool false)))), none⟩,
      ⟨(some 31), false, .mv (.loc 30), none⟩,
      ⟨(some 32), false, .mv (.env 0), some ((.loc 31), true)⟩,
      ⟨(some 33), false, .bin .other .neq (.loc 32) (.val (.tr (.sc (.string ⟨⟨[117, 105, 110, 116, 56]⟩⟩)))), some ((.loc 31), true)⟩,
      ⟨(some 34), false, .pick (.loc 31) (.loc 33) (.val (.tr (.sc (.bool false)))), none⟩,
      ⟨(some 35), false, .mv (.loc 34), none⟩,
      ⟨(some 36), false, .mv (.env 0), some ((.loc 35), true)⟩,
      ⟨(some 37), false, .bin .other .neq (.loc 36) (.val (.tr (.sc (.string ⟨⟨[117, 105, 110, 116]⟩⟩)))), some ((.loc 35), true)⟩,
      ⟨(some 38), false, .pick (.loc 35) (.loc 37) (.val (.tr (.sc (.bool false)))), none⟩]
@[simp] def r4_3 : List HOp := [⟨(some 40), false, .mv (.env 0), none⟩,
       ⟨(some 41), false, .mv (.env 1), none⟩,
       ⟨(some 42), false, .mv (.env 2), none⟩,
       ⟨(some 43), false, .callf 12 [(.val (.tr (.sc (.string ⟨⟨[43]⟩⟩)))), (.loc 40), (.loc 41), (.loc 42)], none⟩,
       ⟨(some 39), false, .mv (.loc 43), none⟩,
       ⟨(some 44), false, .extract (.loc 39) 0, none⟩,
       ⟨(some 45), false, .extract (.loc 39) 1, none⟩,
       ⟨(some 8), false, .mv (.loc 44), none⟩,
       ⟨(some 9), true, .mv (.loc 45), none⟩]
@[simp] def r4_4 : List HOp := [⟨(some 46), false, .mv (.env 7), none⟩,
       ⟨(some 47), false, .mv (.loc 46), none⟩,
       ⟨(some 48), false, .mv (.env 9), some ((.loc 47), true)⟩,
       ⟨(some 49), false, .bin .other .eql (.loc 48) (.val (.tr (.sc (.string ⟨⟨[98, 97, 100]⟩⟩)))), some ((.loc 47), true)⟩,
       ⟨(some 50), false, .pick (.loc 47) (.loc 49) (.val (.tr (.sc (.bool false)))), none⟩,
       ⟨(some 6), true, .mv (.loc 50), none⟩]
@[simp] def r4_5 : List HOp := [⟨(some 52), false, .mv (.env 0), none⟩,
     ⟨(some 53), false, .mv (.env 1), none⟩,
     ⟨(some 54), false, .mv (.env 2), none⟩,
     ⟨(some 55), false, .callf 12 [(.val (.tr (.sc (.string ⟨⟨[43]⟩⟩)))), (.loc 52), (.loc 53), (.loc 54)], none⟩,
     ⟨(some 51), false, .mv (.loc 55), none⟩,
     ⟨(some 56), false, .extract (.loc 51) 0, none⟩,
     ⟨(some 57), false, .extract (.loc 51) 1, none⟩,
     ⟨(some 10), true, .mv (.loc 56), none⟩,
     ⟨(some 11), false, .mv (.loc 57), none⟩]
@[simp] def r4_6 : List HOp := [⟨(some 59), false, .mv (.env 0), none⟩,
     ⟨(some 60), false, .mv (.env 10), none⟩,
     ⟨(some 61), false, .mv (.env 2), none⟩,
     ⟨(some 62), false, .callf 12 [(.val (.tr (.sc (.string ⟨⟨[45]⟩⟩)))), (.loc 59), (.loc 60), (.loc 61)], none⟩,
     ⟨(some 58), false, .mv (.loc 62), none⟩,
     ⟨(some 63), false, .extract (.loc 58) 0, none⟩,
     ⟨(some 64), false, .extract (.loc 58) 1, none⟩,
     ⟨(some 12), true, .mv (.loc 63), none⟩,
     ⟨(some 13), false, .mv (.loc 64), none⟩]
@[simp] def r4_7 : List HOp := [⟨(some 66), false, .mv (.env 0), none⟩,
     ⟨(some 67), false, .mv (.env 1), none⟩,
     ⟨(some 68), false, .mv (.env 1), none⟩,
     ⟨(some 69), false, .callf 12 [(.val (.tr (.sc (.string ⟨⟨[94]⟩⟩)))), (.loc 66), (.loc 67), (.loc 68)], none⟩,
     ⟨(some 65), false, .mv (.loc 69), none⟩,
     ⟨(some 70), false, .extract (.loc 65) 0, none⟩,
     ⟨(some 71), false, .extract (.loc 65) 1, none⟩,
     ⟨(some 14), true, .mv (.loc 70), none⟩,
     ⟨(some 15), false, .mv (.loc 71), none⟩]
@[simp] def r4_8 : List HOp := [⟨(some 73), false, .mv (.env 0), none⟩,
     ⟨(some 74), false, .mv (.env 1), none⟩,
     ⟨(some 75), false, .mv (.env 2), none⟩,
     ⟨(some 76), false, .callf 12 [(.val (.tr (.sc (.string ⟨⟨[47]⟩⟩)))), (.loc 73), (.loc 74), (.loc 75)], none⟩,
     ⟨(some 72), false, .mv (.loc 76), none⟩,
     ⟨(some 77), false, .extract (.loc 72) 0, none⟩,
     ⟨(some 78), false, .extract (.loc 72) 1, none⟩,
     ⟨(some 16), true, .mv (.loc 77), none⟩,
     ⟨(some 17), true, .mv (.loc 78), none⟩]
@[simp] def r4_9 : List HOp := [⟨(some 80), false, .mv (.env 0), none⟩,
     ⟨(some 81), false, .mv (.env 1), none⟩,
     ⟨(some 82), false, .mv (.env 2), none⟩,
     ⟨(some 83), false, .callf 12 [(.val (.tr (.sc (.string ⟨⟨[37]⟩⟩)))), (.loc 80), (.loc 81), (.loc 82)], none⟩,
     ⟨(some 79), false, .mv (.loc 83), none⟩,
     ⟨(some 84), false, .extract (.loc 79) 0, none⟩,
     ⟨(some 85), false, .extract (.loc 79) 1, none⟩,
     ⟨(some 18), true, .mv (.loc 84), none⟩,
     ⟨(some 19), false, .mv (.loc 85), none⟩]
@[simp] def r4_10 : List HOp := [⟨(some 86), false, .mv (.env 12), none⟩,
      ⟨(some 87), false, .mv (.env 1), none⟩,
      ⟨(some 88), false, .mv (.env 0), none⟩,
      ⟨(some 89), false, .callf 13 [(.loc 87), (.loc 88)], none⟩,
      ⟨(some 90), false, .bin .other .neq (.loc 86) (.loc 89), none⟩,
      ⟨(some 91), false, .mv (.loc 90), none⟩,
      ⟨(some 92), false, .mv (.env 14), some ((.loc 91), false)⟩,
      ⟨(some 93), false, .bin .other .neq (.loc 92) (.val (.tr (.sc (.int .i64 0)))), some ((.loc 91), false)⟩,
      ⟨(some 94), false, .pick (.loc 91) (.val (.tr (.sc (.bool true)))) (.loc 93), none⟩]
@[simp] def r4_11 : List HOp := [⟨(some 6), true, .mv (.val (.tr (.sc (.bool false)))), none⟩]
@[simp] def r4_12 : List HOp := [⟨(some 95), false, .mv (.env 17), none⟩,
      ⟨(some 96), false, .bin .other .neq (.loc 95) (.val (.tr (.sc (.string ⟨⟨[]⟩⟩)))), none⟩]
@[simp] def r4_13 : List HOp := [⟨(some 97), false, .mv (.env 7), none⟩,
       ⟨(some 98), false, .mv (.loc 97), none⟩,
       ⟨(some 99), false, .mv (.env 2), some ((.loc 98), true)⟩,
       ⟨(some 100), false, .mv (.env 0), some ((.loc 98), true)⟩,
       ⟨(some 101), false, .callf 13 [(.loc 99), (.loc 100)], some ((.loc 98), true)⟩,
       ⟨(some 102), false, .bin .other .eql (.loc 101) (.val (.tr (.sc (.int .i64 0)))), some ((.loc 98), true)⟩,
       ⟨(some 103), false, .pick (.loc 98) (.loc 102) (.val (.tr (.sc (.bool false)))), none⟩,
       ⟨(some 6), true, .mv (.loc 103), none⟩]
@[simp] def r4_14 : List HOp := [⟨(some 105), false, .mv (.env 0), none⟩,
     ⟨(some 106), false, .mv (.env 16), none⟩,
     ⟨(some 107), false, .mv (.env 2), none⟩,
     ⟨(some 108), false, .callf 12 [(.val (.tr (.sc (.string ⟨⟨[42]⟩⟩)))), (.loc 105), (.loc 106), (.loc 107)], none⟩,
     ⟨(some 104), false, .mv (.loc 108), none⟩,
     ⟨(some 109), false, .extract (.loc 104) 0, none⟩,
     ⟨(some 110), false, .extract (.loc 104) 1, none⟩,
     ⟨(some 20), true, .mv (.loc 109), none⟩,
     ⟨(some 21), false, .mv (.loc 110), none⟩]
@[simp] def r4_15 : List HOp := [⟨(some 112), false, .mv (.env 0), none⟩,
     ⟨(some 113), false, .mv (.env 20), none⟩,
     ⟨(some 114), false, .mv (.env 18), none⟩,
     ⟨(some 115), false, .callf 12 [(.val (.tr (.sc (.string ⟨⟨[43]⟩⟩)))), (.loc 112), (.loc 113), (.loc 114)], none⟩,
     ⟨(some 111), false, .mv (.loc 115), none⟩,
     ⟨(some 116), false, .extract (.loc 111) 0, none⟩,
     ⟨(some 117), false, .extract (.loc 111) 1, none⟩,
     ⟨(some 22), true, .mv (.loc 116), none⟩,
     ⟨(some 23), false, .mv (.loc 117), none⟩]
@[simp] def r4_16 : List HOp := [⟨(some 118), false, .mv (.env 7), none⟩,
     ⟨(some 119), false, .mv (.loc 118), none⟩,
     ⟨(some 120), false, .mv (.env 22), some ((.loc 119), true)⟩,
     ⟨(some 121), false, .mv (.env 1), some ((.loc 119), true)⟩,
     ⟨(some 122), false, .mv (.env 0), some ((.loc 119), true)⟩,
     ⟨(some 123), false, .callf 13 [(.loc 121), (.loc 122)], some ((.loc 119), true)⟩,
     ⟨(some 124), false, .bin .other .eql (.loc 120) (.loc 123), some ((.loc 119), true)⟩,
     ⟨(some 125), false, .pick (.loc 119) (.loc 124) (.val (.tr (.sc (.bool false)))), none⟩,
     ⟨(some 6), true, .mv (.loc 125), none⟩]
@[simp] def k4_4 : HCode := .seq (.region r4_4 none) .ret
@[simp] def k4_3 : HCode := .seq (.region r4_3 none) k4_4
@[simp] def k4_2 : HCode := .cond (.loc 38) k4_3 .skip
@[simp] def k4_12 : HCode := .seq (.region r4_11 none) .ret
@[simp] def k4_11 : HCode := .cond (.loc 94) k4_12 .skip
@[simp] def k4_15 : HCode := .seq (.region r4_13 none) .ret
@[simp] def k4_14 : HCode := .cond (.loc 96) k4_15 .skip
@[simp] def k4_18 : HCode := .seq (.region r4_16 none) .ret
@[simp] def k4_17 : HCode := .seq (.region r4_15 none) k4_18
def k4_16 : HCode := .seq (.region r4_14 none) k4_17
def k4_13 : HCode := .seq (.seq (.region r4_12 none) k4_14) k4_16
@[simp] def k4_10 : HCode := .seq (.seq (.region r4_10 none) k4_11) k4_13
@[simp] def k4_9 : HCode := .seq (.region r4_9 none) k4_10
@[simp] def k4_8 : HCode := .seq (.region r4_8 none) k4_9
@[simp] def k4_7 : HCode := .seq (.region r4_7 none) k4_8
@[simp] def k4_6 : HCode := .seq (.region r4_6 none) k4_7
def k4_5 : HCode := .seq (.region r4_5 none) k4_6
@[simp] def k4_1 : HCode := .seq (.seq (.region r4_2 none) k4_2) k4_5
@[simp] def k4_0 : HCode := .seq (.region r4_1 none) k4_1
@[simp] def fn4 : HFn := { nargs := 3, results := [.tmp 6], mode := .shared, code := (.seq (.region r4_0 none) k4_0) }
theorem c4 : cFn Tryd.prog (Hs 4) .shared 4 = some fn4 := by kernel_rfl
/- sterling/sterlinglaw25.begun -/
@[simp] def r5_0 : List HOp := [⟨(some 0), true, .mv (.val (.tr (.sc (.bool false)))), none⟩]
@[simp] def r5_1 : List HOp := [⟨(some 9), false, .callf 12 [(.val (.tr (.sc (.string ⟨⟨[43]⟩⟩)))), (.val (.tr (.sc (.string ⟨⟨[105, 110, 116, 56]⟩⟩)))), (.val (.tr (.sc (.int .i64 127)))), (.val (.tr (.sc (.int .i64 1))))], none⟩,
     ⟨(some 8), false, .mv (.loc 9), none⟩,
     ⟨(some 10), false, .extract (.loc 8) 0, none⟩,
     ⟨(some 11), false, .extract (.loc 8) 1, none⟩,
     ⟨(some 1), true, .mv (.loc 10), none⟩,
     ⟨(some 2), true, .mv (.loc 11), none⟩]
@[simp] def r5_2 : List HOp := [⟨(some 13), false, .callf 12 [(.val (.tr (.sc (.string ⟨⟨[47]⟩⟩)))), (.val (.tr (.sc (.string ⟨⟨[105, 110, 116]⟩⟩)))), (.val (.tr (.sc (.int .i64 5)))), (.val (.tr (.sc (.int .i64 0))))], none⟩,
     ⟨(some 12), false, .mv (.loc 13), none⟩,
     ⟨(some 14), false, .extract (.loc 12) 0, none⟩,
     ⟨(some 15), false, .extract (.loc 12) 1, none⟩,
     ⟨(some 3), false, .mv (.loc 14), none⟩,
     ⟨(some 4), true, .mv (.loc 15), none⟩]
@[simp] def r5_3 : List HOp := [⟨(some 17), false, .callf 14 [(.val (.tr (.sc (.string ⟨⟨[102, 108, 111, 97, 116, 54, 52]⟩⟩)))), (.val (.tr (.sc (.string ⟨⟨[117, 105, 110, 116, 56]⟩⟩)))), (.val (.tr (.sc (.int .i64 0)))), (.val (.tr (.sc (.float .f64 4643207697381772493))))], none⟩,
     ⟨(some 16), false, .mv (.loc 17), none⟩,
     ⟨(some 18), false, .extract (.loc 16) 0, none⟩,
     ⟨(some 19), false, .extract (.loc 16) 1, none⟩,
     ⟨(some 20), false, .extract (.loc 16) 2, none⟩,
     ⟨(some 5), true, .mv (.loc 18), none⟩,
     ⟨(some 6), false, .mv (.loc 19), none⟩,
     ⟨(some 7), true, .mv (.loc 20), none⟩]
@[simp] def r5_4 : List HOp := [⟨(some 21), false, .mv (.env 1), none⟩,
     ⟨(some 22), false, .bin .other .eql (.loc 21) (.val (.tr (.sc (.int .i64 (-128))))), none⟩,
     ⟨(some 23), false, .mv (.loc 22), none⟩,
     ⟨(some 24), false, .mv (.env 2), some ((.loc 23), true)⟩,
     ⟨(some 25), false, .bin .other .eql (.loc 24) (.val (.tr (.sc (.string ⟨⟨[]⟩⟩)))), some ((.loc 23), true)⟩,
     ⟨(some 26), false, .pick (.loc 23) (.loc 25) (.val (.tr (.sc (.bool false)))), none⟩,
     ⟨(some 27), false, .mv (.loc 26), none⟩,
     ⟨(some 28), false, .mv (.env 4), some ((.loc 27), true)⟩,
     ⟨(some 29), false, .bin .other .eql (.loc 28) (.val (.tr (.sc (.string ⟨⟨[100, 105, 118, 105, 100, 101]⟩⟩)))), some ((.loc 27), true)⟩,
     ⟨(some 30), false, .pick (.loc 27) (.loc 29) (.val (.tr (.sc (.bool false)))), none⟩,
     ⟨(some 31), false, .mv (.loc 30), none⟩,
     ⟨(some 32), false, .mv (.env 5), some ((.loc 31), true)⟩,
     ⟨(some 33), false, .bin .other .eql (.loc 32) (.val (.tr (.sc (.int .i64 255)))), some ((.loc 31), true)⟩,
     ⟨(some 34), false, .pick (.loc 31) (.loc 33) (.val (.tr (.sc (.bool false)))), none⟩,
     ⟨(some 35), false, .mv (.loc 34), none⟩,
     ⟨(some 36), false, .mv (.env 7), some ((.loc 35), true)⟩,
     ⟨(some 37), false, .bin .other .eql (.loc 36) (.val (.tr (.sc (.string ⟨⟨[]⟩⟩)))), some ((.loc 35), true)⟩,
     ⟨(some 38), false, .pick (.loc 35) (.loc 37) (.val (.tr (.sc (.bool false)))), none⟩,
     ⟨(some 39), false, .mv (.loc 38), none⟩,
     ⟨(some 40), false, .callf 13 [(.val (.tr (.sc (.int .i64 300)))), (.val (.tr (.sc (.string ⟨⟨[117, 105, 110, 116, 56]⟩⟩))))], some ((.loc 39), true)⟩,
     ⟨(some 41), false, .bin .other .eql (.loc 40) (.val (.tr (.sc (.int .i64 44)))), some ((.loc 39), true)⟩,
     ⟨(some 42), false, .pick (.loc 39) (.loc 41) (.val (.tr (.sc (.bool false)))), none⟩,
     ⟨(some 43), false, .mv (.loc 42), none⟩,
     ⟨(some 44), false, .callf 8 [(.val (.tr (.sc (.string ⟨⟨[47]⟩⟩)))), (.val (.tr (.sc (.string ⟨⟨[102, 108, 111, 97, 116, 54, 52]⟩⟩)))), (.val (.tr (.sc (.float .f64 4607182418800017408)))), (.val (.tr (.sc (.float .f64 4616189618054758400))))], some ((.loc 43), true)⟩,
     ⟨(some 45), false, .bin .other .eql (.loc 44) (.val (.tr (.sc (.float .f64 4598175219545276416)))), some ((.loc 43), true)⟩,
     ⟨(some 46), false, .pick (.loc 43) (.loc 45) (.val (.tr (.sc (.bool false)))), none⟩,
     ⟨(some 47), false, .mv (.loc 46), none⟩,
     ⟨(some 48), false, .callf 15 [(.val (.tr (.sc (.string ⟨⟨[60]⟩⟩)))), (.val (.tr (.sc (.string ⟨⟨[117, 105, 110, 116]⟩⟩)))), (.val (.tr (.sc (.int .i64 1)))), (.val (.tr (.sc (.int .i64 (-1)))))], some ((.loc 47), true)⟩,
     ⟨(some 49), false, .pick (.loc 47) (.loc 48) (.val (.tr (.sc (.bool false)))), none⟩,
     ⟨(some 50), false, .mv (.loc 49), none⟩,
     ⟨(some 51), false, .callf 16 [], some ((.loc 50), true)⟩,
     ⟨(some 52), false, .callf 10 [(.val (.tr (.sc (.string ⟨⟨[33, 61]⟩⟩)))), (.loc 51), (.val (.tr (.sc (.float .f64 4607182418800017408))))], some ((.loc 50), true)⟩,
     ⟨(some 53), false, .pick (.loc 50) (.loc 52) (.val (.tr (.sc (.bool false)))), none⟩,
     ⟨(some 54), false, .mv (.loc 53), none⟩,
     ⟨(some 55), false, .callf 17 [(.val (.tr (.sc (.string ⟨⟨[117, 105, 110, 116]⟩⟩)))), (.val (.tr (.sc (.int .i64 (-1))))), (.val (.tr (.sc (.float .f64 0))))], some ((.loc 54), true)⟩,
     ⟨(some 56), false, .bin .other .eql (.loc 55) (.val (.tr (.sc (.string ⟨⟨[49, 56, 52, 52, 54, 55, 52, 52, 48, 55, 51, 55, 48, 57, 53, 53, 49, 54, 49, 53]⟩⟩)))), some ((.loc 54), true)⟩,
     ⟨(some 57), false, .pick (.loc 54) (.loc 56) (.val (.tr (.sc (.bool false)))), none⟩,
     ⟨(some 0), true, .mv (.loc 57), none⟩]
@[simp] def k5_3 : HCode := .seq (.region r5_4 none) .ret
@[simp] def k5_2 : HCode := .seq (.region r5_3 none) k5_3
@[simp] def k5_1 : HCode := .seq (.region r5_2 none) k5_2
@[simp] def k5_0 : HCode := .seq (.region r5_1 none) k5_1
@[simp] def fn5 : HFn := { nargs := 0, results := [.tmp 0], mode := .iso, code := (.seq (.region r5_0 none) k5_0) }
theorem c5 : cFn Tryd.prog (Hs 5) .iso 5 = some fn5 := by kernel_rfl
/- sterling/value.Int -/
@[simp] def r12_0 : List HOp := [⟨(some 8), true, .mv (.val (.tr (.sc (.int .i64 0)))), none⟩,
     ⟨(some 9), true, .mv (.val (.tr (.sc (.string ⟨⟨[]⟩⟩)))), none⟩]
@[simp] def r12_1 : List HOp := [⟨(some 11), false, .mv (.env 1), none⟩,
      ⟨(some 12), false, .callf 22 [(.loc 11)], none⟩,
      ⟨(some 13), false, .un .not (.loc 12), none⟩]
@[simp] def r12_2 : List HOp := [⟨(some 8), true, .mv (.val (.tr (.sc (.int .i64 0)))), none⟩,
       ⟨(some 9), true, .mv (.val (.tr (.sc (.string ⟨⟨[98, 97, 100]⟩⟩)))), none⟩]
@[simp] def r12_3 : List HOp := [⟨(some 14), false, .mv (.env 2), none⟩,
     ⟨(some 15), false, .mv (.env 1), none⟩,
     ⟨(some 16), false, .callf 13 [(.loc 14), (.loc 15)], none⟩,
     ⟨(some 17), false, .mv (.env 3), none⟩,
     ⟨(some 18), false, .mv (.env 1), none⟩,
     ⟨(some 19), false, .callf 13 [(.loc 17), (.loc 18)], none⟩,
     ⟨(some 2), true, .mv (.loc 16), none⟩,
     ⟨(some 3), true, .mv (.loc 19), none⟩]
@[simp] def r12_4 : List HOp := [⟨(some 10), true, .mv (.val (.tr (.sc (.int .i64 0)))), none⟩]
@[simp] def r12_5 : List HOp := [⟨(some 20), true, .mv (.env 0), none⟩]
@[simp] def r12_6 : List HOp := [⟨(some 22), false, .bin .other .eql (.env 20) (.val (.tr (.sc (.string ⟨⟨[43]⟩⟩)))), none⟩,
       ⟨(some 21), false, .mv (.loc 22), none⟩]
@[simp] def r12_7 : List HOp := [⟨(some 23), false, .mv (.env 2), none⟩,
       ⟨(some 24), false, .mv (.env 3), none⟩,
       ⟨(some 25), false, .bin .other .add (.loc 23) (.loc 24), none⟩,
       ⟨(some 10), true, .mv (.loc 25), none⟩]
@[simp] def r12_8 : List HOp := [⟨(some 27), false, .bin .other .eql (.env 20) (.val (.tr (.sc (.string ⟨⟨[45]⟩⟩)))), none⟩,
        ⟨(some 26), false, .mv (.loc 27), none⟩]
@[simp] def r12_9 : List HOp := [⟨(some 28), false, .mv (.env 2), none⟩,
        ⟨(some 29), false, .mv (.env 3), none⟩,
        ⟨(some 30), false, .bin .other .sub (.loc 28) (.loc 29), none⟩,
        ⟨(some 10), true, .mv (.loc 30), none⟩]
@[simp] def r12_10 : List HOp := [⟨(some 32), false, .bin .other .eql (.env 20) (.val (.tr (.sc (.string ⟨⟨[42]⟩⟩)))), none⟩,
         ⟨(some 31), false, .mv (.loc 32), none⟩]
@[simp] def r12_11 : List HOp := [⟨(some 33), false, .mv (.env 2), none⟩,
         ⟨(some 34), false, .mv (.env 3), none⟩,
         ⟨(some 35), false, .bin .other .mul (.loc 33) (.loc 34), none⟩,
         ⟨(some 10), true, .mv (.loc 35), none⟩]
@[simp] def r12_12 : List HOp := [⟨(some 37), false, .bin .other .eql (.env 20) (.val (.tr (.sc (.string ⟨⟨[47]⟩⟩)))), none⟩,
           ⟨(some 36), true, .mv (.loc 37), none⟩]
@[simp] def r12_13 : List HOp := [⟨(some 38), false, .bin .other .eql (.env 20) (.val (.tr (.sc (.string ⟨⟨[37]⟩⟩)))), none⟩,
           ⟨(some 36), true, .mv (.loc 38), none⟩]
@[simp] def r12_14 : List HOp := [⟨(some 39), false, .mv (.env 3), none⟩,
            ⟨(some 40), false, .bin .other .eql (.loc 39) (.val (.tr (.sc (.int .i64 0)))), none⟩]
@[simp] def r12_15 : List HOp := [⟨(some 8), true, .mv (.val (.tr (.sc (.int .i64 0)))), none⟩,
             ⟨(some 9), true, .mv (.val (.tr (.sc (.string ⟨⟨[100, 105, 118, 105, 100, 101]⟩⟩)))), none⟩]
@[simp] def r12_16 : List HOp := [⟨(some 41), false, .mv (.env 0), none⟩,
          ⟨(some 42), false, .mv (.env 2), none⟩,
          ⟨(some 43), false, .mv (.env 3), none⟩,
          ⟨(some 44), false, .mv (.env 1), none⟩,
          ⟨(some 45), false, .bin .other .eql (.loc 44) (.val (.tr (.sc (.string ⟨⟨[117, 105, 110, 116]⟩⟩)))), none⟩,
          ⟨(some 46), false, .callf 23 [(.loc 41), (.loc 42), (.loc 43), (.loc 45)], none⟩,
          ⟨(some 10), true, .mv (.loc 46), none⟩]
@[simp] def r12_17 : List HOp := [⟨(some 48), false, .bin .other .eql (.env 20) (.val (.tr (.sc (.string ⟨⟨[38]⟩⟩)))), none⟩,
           ⟨(some 47), false, .mv (.loc 48), none⟩]
@[simp] def r12_18 : List HOp := [⟨(some 49), false, .mv (.env 2), none⟩,
           ⟨(some 50), false, .mv (.env 3), none⟩,
           ⟨(some 51), false, .bin .other .and (.loc 49) (.loc 50), none⟩,
           ⟨(some 10), true, .mv (.loc 51), none⟩]
@[simp] def r12_19 : List HOp := [⟨(some 53), false, .bin .other .eql (.env 20) (.val (.tr (.sc (.string ⟨⟨[124]⟩⟩)))), none⟩,
            ⟨(some 52), false, .mv (.loc 53), none⟩]
@[simp] def r12_20 : List HOp := [⟨(some 54), false, .mv (.env 2), none⟩,
            ⟨(some 55), false, .mv (.env 3), none⟩,
            ⟨(some 56), false, .bin .other .or (.loc 54) (.loc 55), none⟩,
            ⟨(some 10), true, .mv (.loc 56), none⟩]
@[simp] def r12_21 : List HOp := [⟨(some 58), false, .bin .other .eql (.env 20) (.val (.tr (.sc (.string ⟨⟨[94]⟩⟩)))), none⟩,
             ⟨(some 57), false, .mv (.loc 58), none⟩]
@[simp] def r12_22 : List HOp := [⟨(some 59), false, .mv (.env 2), none⟩,
             ⟨(some 60), false, .mv (.env 3), none⟩,
             ⟨(some 61), false, .bin .other .xor (.loc 59) (.loc 60), none⟩,
             ⟨(some 10), true, .mv (.loc 61), none⟩]
@[simp] def r12_23 : List HOp := [⟨(some 63), false, .bin .other .eql (.env 20) (.val (.tr (.sc (.string ⟨⟨[38, 94]⟩⟩)))), none⟩,
              ⟨(some 62), false, .mv (.loc 63), none⟩]
@[simp] def r12_24 : List HOp := [⟨(some 64), false, .mv (.env 2), none⟩,
              ⟨(some 65), false, .mv (.env 3), none⟩,
              ⟨(some 66), false, .bin .other .andNot (.loc 64) (.loc 65), none⟩,
              ⟨(some 10), true, .mv (.loc 66), none⟩]
@[simp] def r12_25 : List HOp := [⟨(some 8), true, .mv (.val (.tr (.sc (.int .i64 0)))), none⟩,
               ⟨(some 9), true, .mv (.val (.tr (.sc (.string ⟨⟨[98, 97, 100]⟩⟩)))), none⟩]
@[simp] def r12_26 : List HOp := [⟨(some 67), false, .mv (.env 10), none⟩,
     ⟨(some 68), false, .mv (.env 1), none⟩,
     ⟨(some 69), false, .callf 13 [(.loc 67), (.loc 68)], none⟩,
     ⟨(some 8), true, .mv (.loc 69), none⟩,
     ⟨(some 9), true, .mv (.val (.tr (.sc (.string ⟨⟨[]⟩⟩)))), none⟩]
@[simp] def k12_2 : HCode := .seq (.region r12_2 none) .ret
@[simp] def k12_1 : HCode := .cond (.loc 13) k12_2 .skip
@[simp] def k12_13 : HCode := .cond (.env 36) .skip (.region r12_13 none)
@[simp] def k12_17 : HCode := .seq (.region r12_15 none) .ret
@[simp] def k12_16 : HCode := .cond (.loc 40) k12_17 .skip
def k12_18 : HCode := .region r12_16 none
@[simp] def k12_15 : HCode := .seq (.seq (.region r12_14 none) k12_16) k12_18
@[simp] def k12_27 : HCode := .seq (.region r12_25 none) .ret
@[simp] def k12_26 : HCode := .cond (.loc 62) (.region r12_24 none) k12_27
@[simp] def k12_25 : HCode := .seq (.region r12_23 none) k12_26
@[simp] def k12_24 : HCode := .cond (.loc 57) (.region r12_22 none) k12_25
@[simp] def k12_23 : HCode := .seq (.region r12_21 none) k12_24
@[simp] def k12_22 : HCode := .cond (.loc 52) (.region r12_20 none) k12_23
@[simp] def k12_21 : HCode := .seq (.region r12_19 none) k12_22
@[simp] def k12_20 : HCode := .cond (.loc 47) (.region r12_18 none) k12_21
@[simp] def k12_19 : HCode := .seq (.region r12_17 none) k12_20
def k12_14 : HCode := .cond (.env 36) k12_15 k12_19
@[simp] def k12_12 : HCode := .seq (.seq (.region r12_12 none) k12_13) k12_14
@[simp] def k12_11 : HCode := .cond (.loc 31) (.region r12_11 none) k12_12
@[simp] def k12_10 : HCode := .seq (.region r12_10 none) k12_11
@[simp] def k12_9 : HCode := .cond (.loc 26) (.region r12_9 none) k12_10
@[simp] def k12_8 : HCode := .seq (.region r12_8 none) k12_9
@[simp] def k12_7 : HCode := .cond (.loc 21) (.region r12_7 none) k12_8
@[simp] def k12_6 : HCode := .block 0 (.seq (.region r12_6 none) k12_7)
def k12_28 : HCode := .seq (.region r12_26 none) .ret
@[simp] def k12_5 : HCode := .seq (.seq (.region r12_5 none) k12_6) k12_28
@[simp] def k12_4 : HCode := .seq (.region r12_4 none) k12_5
def k12_3 : HCode := .seq (.region r12_3 none) k12_4
@[simp] def k12_0 : HCode := .seq (.seq (.region r12_1 none) k12_1) k12_3
@[simp] def fn12 : HFn := { nargs := 4, results := [.tmp 8, .tmp 9], mode := .iso, code := (.seq (.region r12_0 none) k12_0) }
theorem c12 : cFn Tryd.prog (Hs 12) .iso 12 = some fn12 := by kernel_rfl
/- sterling/value.integer -/
@[simp] def r22_0 : List HOp := [⟨(some 2), true, .mv (.val (.tr (.sc (.bool false)))), none⟩]
@[simp] def r22_1 : List HOp := [⟨(some 7), false, .mv (.env 0), none⟩,
     ⟨(some 8), false, .callf 35 [(.loc 7)], none⟩,
     ⟨(some 6), false, .mv (.loc 8), none⟩,
     ⟨(some 9), false, .extract (.loc 6) 0, none⟩,
     ⟨(some 10), false, .extract (.loc 6) 1, none⟩,
     ⟨(some 11), false, .extract (.loc 6) 2, none⟩,
     ⟨(some 3), false, .alloc [(.sc (.bool false)), (.sc (.slice none 0 0))], none⟩,
     ⟨(some 4), false, .alloc [(.sc (.bool false)), (.sc (.slice none 0 0))], none⟩,
     ⟨none, false, .store 2 (.loc 3) (.loc 9), none⟩,
     ⟨none, false, .store 2 (.loc 4) (.loc 10), none⟩,
     ⟨(some 5), true, .mv (.loc 11), none⟩]
@[simp] def r22_2 : List HOp := [⟨(some 12), false, .mv (.env 5), none⟩,
     ⟨(some 2), true, .mv (.loc 12), none⟩]
@[simp] def k22_1 : HCode := .seq (.region r22_2 none) .ret
@[simp] def k22_0 : HCode := .seq (.region r22_1 none) k22_1
@[simp] def fn22 : HFn := { nargs := 1, results := [.tmp 2], mode := .iso, code := (.seq (.region r22_0 none) k22_0) }
theorem c22 : cFn Tryd.prog (Hs 22) .iso 22 = some fn22 := by kernel_rfl
/- sterling/constant.Range -/
@[simp] def r35_0 : List HOp := [⟨(some 2), true, .alloc [(.sc (.bool false)), (.sc (.slice none 0 0))], none⟩,
     ⟨(some 3), true, .alloc [(.sc (.bool false)), (.sc (.slice none 0 0))], none⟩,
     ⟨(some 4), true, .mv (.val (.tr (.sc (.bool false)))), none⟩]
@[simp] def r35_1 : List HOp := [⟨(some 7), false, .callf 24 [(.val (.tr (.sc (.int .i64 1))))], none⟩,
     ⟨(some 5), true, .alloc [(.sc (.bool false)), (.sc (.slice none 0 0))], none⟩,
     ⟨none, false, .store 2 (.env 5) (.loc 7), none⟩]
@[simp] def r35_2 : List HOp := [⟨(some 6), true, .mv (.val (.tr (.fn (.func 54) [] []))), none⟩]
@[simp] def r35_3 : List HOp := [⟨(some 8), true, .mv (.env 0), none⟩]
@[simp] def r35_4 : List HOp := [⟨(some 10), false, .bin .other .eql (.env 8) (.val (.tr (.sc (.string ⟨⟨[105, 110, 116]⟩⟩)))), none⟩,
       ⟨(some 9), false, .mv (.loc 10), none⟩]
@[simp] def r35_5 : List HOp := [⟨(some 11), false, .mv (.env 6), none⟩,
        ⟨(some 12), false, .callv (.loc 11) [(.val (.tr (.sc (.int .i64 63))))], none⟩,
        ⟨(some 13), false, .callf 55 [(.loc 12)], none⟩,
        ⟨(some 14), false, .mv (.env 6), none⟩,
        ⟨(some 15), false, .callv (.loc 14) [(.val (.tr (.sc (.int .i64 63))))], none⟩,
        ⟨(some 16), false, .load 2 true (.env 5), none⟩,
        ⟨(some 17), false, .callf 56 [(.loc 15), (.loc 16)], none⟩,
        ⟨none, false, .store 2 (.env 2) (.loc 13), none⟩,
        ⟨none, false, .store 2 (.env 3) (.loc 17), none⟩,
        ⟨(some 4), true, .mv (.val (.tr (.sc (.bool true)))), none⟩]
@[simp] def r35_6 : List HOp := [⟨(some 19), false, .bin .other .eql (.env 8) (.val (.tr (.sc (.string ⟨⟨[105, 110, 116, 56]⟩⟩)))), none⟩,
        ⟨(some 18), false, .mv (.loc 19), none⟩]
@[simp] def r35_7 : List HOp := [⟨(some 20), false, .callf 24 [(.val (.tr (.sc (.int .i64 (-128)))))], none⟩,
         ⟨(some 21), false, .callf 24 [(.val (.tr (.sc (.int .i64 127))))], none⟩,
         ⟨none, false, .store 2 (.env 2) (.loc 20), none⟩,
         ⟨none, false, .store 2 (.env 3) (.loc 21), none⟩,
         ⟨(some 4), true, .mv (.val (.tr (.sc (.bool true)))), none⟩]
@[simp] def r35_8 : List HOp := [⟨(some 23), false, .bin .other .eql (.env 8) (.val (.tr (.sc (.string ⟨⟨[117, 105, 110, 116, 56]⟩⟩)))), none⟩,
         ⟨(some 22), false, .mv (.loc 23), none⟩]
@[simp] def r35_9 : List HOp := [⟨(some 24), false, .callf 24 [(.val (.tr (.sc (.int .i64 0))))], none⟩,
          ⟨(some 25), false, .callf 24 [(.val (.tr (.sc (.int .i64 255))))], none⟩,
          ⟨none, false, .store 2 (.env 2) (.loc 24), none⟩,
          ⟨none, false, .store 2 (.env 3) (.loc 25), none⟩,
          ⟨(some 4), true, .mv (.val (.tr (.sc (.bool true)))), none⟩]
@[simp] def r35_10 : List HOp := [⟨(some 27), false, .bin .other .eql (.env 8) (.val (.tr (.sc (.string ⟨⟨[117, 105, 110, 116]⟩⟩)))), none⟩,
          ⟨(some 26), false, .mv (.loc 27), none⟩]
@[simp] def r35_11 : List HOp := [⟨(some 28), false, .callf 24 [(.val (.tr (.sc (.int .i64 0))))], none⟩,
           ⟨(some 29), false, .mv (.env 6), none⟩,
           ⟨(some 30), false, .callv (.loc 29) [(.val (.tr (.sc (.int .i64 64))))], none⟩,
           ⟨(some 31), false, .load 2 true (.env 5), none⟩,
           ⟨(some 32), false, .callf 56 [(.loc 30), (.loc 31)], none⟩,
           ⟨none, false, .store 2 (.env 2) (.loc 28), none⟩,
           ⟨none, false, .store 2 (.env 3) (.loc 32), none⟩,
           ⟨(some 4), true, .mv (.val (.tr (.sc (.bool true)))), none⟩]
@[simp] def r35_12 : List HOp := [⟨(some 33), false, .build [(.sc (.bool false)), (.sc (.slice none 0 0))] [], none⟩,
     ⟨(some 34), false, .build [(.sc (.bool false)), (.sc (.slice none 0 0))] [], none⟩,
     ⟨none, false, .store 2 (.env 2) (.loc 33), none⟩,
     ⟨none, false, .store 2 (.env 3) (.loc 34), none⟩,
     ⟨(some 4), true, .mv (.val (.tr (.sc (.bool false)))), none⟩]
@[simp] def k35_5 : HCode := .seq (.region r35_5 (some [ ( 0, [ 6 ] ) , ( 1, [ 11 ] ) , ( 1, [ 12 ] ) , ( 0, [ 6 ] ) , ( 1, [ 14 ] ) , ( 1, [ 5 ] ) , ( 2, [ 15, 16 ] ) , ( 2, [ 2, 13 ] ) , ( 2, [ 3, 17 ] ) , ( 0, [ ] ) ])) .ret
@[simp] def k35_8 : HCode := .seq (.region r35_7 none) .ret
@[simp] def k35_11 : HCode := .seq (.region r35_9 none) .ret
@[simp] def k35_14 : HCode := .seq (.region r35_11 (some [ ( 1, [ ] ) , ( 0, [ 6 ] ) , ( 1, [ 29 ] ) , ( 1, [ 5 ] ) , ( 2, [ 30, 31 ] ) , ( 2, [ 2, 28 ] ) , ( 2, [ 3, 32 ] ) , ( 0, [ ] ) ])) .ret
@[simp] def k35_13 : HCode := .cond (.loc 26) k35_14 .skip
@[simp] def k35_12 : HCode := .seq (.region r35_10 none) k35_13
@[simp] def k35_10 : HCode := .cond (.loc 22) k35_11 k35_12
@[simp] def k35_9 : HCode := .seq (.region r35_8 none) k35_10
@[simp] def k35_7 : HCode := .cond (.loc 18) k35_8 k35_9
@[simp] def k35_6 : HCode := .seq (.region r35_6 none) k35_7
@[simp] def k35_4 : HCode := .cond (.loc 9) k35_5 k35_6
@[simp] def k35_3 : HCode := .block 0 (.seq (.region r35_4 none) k35_4)
def k35_15 : HCode := .seq (.region r35_12 none) .ret
@[simp] def k35_2 : HCode := .seq (.seq (.region r35_3 none) k35_3) k35_15
@[simp] def k35_1 : HCode := .seq (.region r35_2 none) k35_2
@[simp] def k35_0 : HCode := .seq (.region r35_1 none) k35_1
@[simp] def fn35 : HFn := { nargs := 1, results := [.cell 2 2 true, .cell 3 2 true, .tmp 4], mode := .iso, code := (.seq (.region r35_0 none) k35_0) }
theorem c35 : cFn Tryd.prog (Hs 35) .iso 35 = some fn35 := by kernel_rfl
/- sterling/bigint.Of -/
@[simp] def r24_0 : List HOp := [⟨(some 2), true, .alloc [(.sc (.bool false)), (.sc (.slice none 0 0))], none⟩]
@[simp] def r24_1 : List HOp := [⟨(some 4), false, .mv (.env 0), none⟩,
     ⟨(some 5), false, .conv (.toInt .u64) (.loc 4), none⟩,
     ⟨(some 3), true, .mv (.loc 5), none⟩]
@[simp] def r24_2 : List HOp := [⟨(some 6), false, .mv (.env 0), none⟩,
      ⟨(some 7), false, .bin .other .lss (.loc 6) (.val (.tr (.sc (.int .i64 0)))), none⟩]
@[simp] def r24_3 : List HOp := [⟨(some 8), false, .mv (.env 3), none⟩,
      ⟨(some 9), false, .un .neg (.loc 8), none⟩,
      ⟨(some 3), true, .mv (.loc 9), none⟩]
@[simp] def r24_4 : List HOp := [⟨(some 10), false, .mv (.env 0), none⟩,
     ⟨(some 11), false, .bin .other .lss (.loc 10) (.val (.tr (.sc (.int .i64 0)))), none⟩,
     ⟨(some 12), false, .mv (.env 3), none⟩,
     ⟨(some 13), false, .conv (.toInt .u32) (.loc 12), none⟩,
     ⟨(some 14), false, .mv (.env 3), none⟩,
     ⟨(some 15), false, .bin .other .shr (.loc 14) (.val (.tr (.sc (.int .u64 32)))), none⟩,
     ⟨(some 16), false, .conv (.toInt .u32) (.loc 15), none⟩,
     ⟨(some 17), false, .bslice false 2 1 [(.sc (.int .u32 0))] [(0, 1, (.loc 13)), (1, 1, (.loc 16))], none⟩,
     ⟨(some 18), false, .callf 36 [(.loc 11), (.loc 17)], none⟩,
     ⟨none, false, .store 2 (.env 2) (.loc 18), none⟩]
@[simp] def k24_2 : HCode := .cond (.loc 7) (.region r24_3 none) .skip
def k24_3 : HCode := .seq (.region r24_4 none) .ret
@[simp] def k24_1 : HCode := .seq (.seq (.region r24_2 none) k24_2) k24_3
@[simp] def k24_0 : HCode := .seq (.region r24_1 none) k24_1
@[simp] def fn24 : HFn := { nargs := 1, results := [.cell 2 2 true], mode := .iso, code := (.seq (.region r24_0 none) k24_0) }
theorem c24 : cFn Tryd.prog (Hs 24) .iso 24 = some fn24 := by kernel_rfl
/- sterling/bigint.made -/
@[simp] def r36_0 : List HOp := [⟨(some 4), true, .alloc [(.sc (.bool false)), (.sc (.slice none 0 0))], none⟩]
@[simp] def r36_1 : List HOp := [⟨(some 5), false, .mv (.env 1), none⟩,
     ⟨(some 6), false, .callf 40 [(.loc 5)], none⟩,
     ⟨(some 7), false, .callf 57 [(.loc 6)], none⟩,
     ⟨(some 1), true, .mv (.loc 7), none⟩]
@[simp] def r36_2 : List HOp := [⟨(some 8), false, .mv (.env 1), none⟩,
      ⟨(some 9), false, .len 1 (.loc 8), none⟩,
      ⟨(some 10), false, .bin .other .eql (.loc 9) (.val (.tr (.sc (.int .i64 0)))), none⟩]
@[simp] def r36_3 : List HOp := [⟨(some 11), false, .build [(.sc (.bool false)), (.sc (.slice none 0 0))] [], none⟩,
       ⟨none, false, .store 2 (.env 4) (.loc 11), none⟩]
@[simp] def r36_4 : List HOp := [⟨(some 12), false, .mv (.env 0), none⟩,
     ⟨(some 13), false, .mv (.env 1), none⟩,
     ⟨(some 14), false, .build [(.sc (.bool false)), (.sc (.slice none 0 0))] [(0, 1, (.loc 12)), (1, 1, (.loc 13))], none⟩,
     ⟨none, false, .store 2 (.env 4) (.loc 14), none⟩]
@[simp] def k36_3 : HCode := .seq (.region r36_3 none) .ret
@[simp] def k36_2 : HCode := .cond (.loc 10) k36_3 .skip
def k36_4 : HCode := .seq (.region r36_4 none) .ret
@[simp] def k36_1 : HCode := .seq (.seq (.region r36_2 none) k36_2) k36_4
@[simp] def k36_0 : HCode := .seq (.region r36_1 none) k36_1
@[simp] def fn36 : HFn := { nargs := 2, results := [.cell 4 2 true], mode := .iso, code := (.seq (.region r36_0 none) k36_0) }
theorem c36 : cFn Tryd.prog (Hs 36) .iso 36 = some fn36 := by kernel_rfl
/- sterling/bigint.norm -/
@[simp] def r40_0 : List HOp := [⟨(some 2), true, .mv (.val (.tr (.sc (.slice none 0 0)))), none⟩]
@[simp] def r40_1 : List HOp := [⟨(some 4), false, .mv (.env 0), none⟩,
     ⟨(some 5), false, .len 1 (.loc 4), none⟩,
     ⟨(some 3), true, .mv (.loc 5), none⟩]
@[simp] def r40_2 : List HOp := [⟨(some 6), false, .mv (.env 3), none⟩,
         ⟨(some 7), false, .bin .other .gtr (.loc 6) (.val (.tr (.sc (.int .i64 0)))), none⟩,
         ⟨(some 8), false, .mv (.loc 7), none⟩,
         ⟨(some 9), false, .mv (.env 0), some ((.loc 8), true)⟩,
         ⟨(some 10), false, .mv (.env 3), some ((.loc 8), true)⟩,
         ⟨(some 11), false, .bin .other .sub (.loc 10) (.val (.tr (.sc (.int .i64 1)))), some ((.loc 8), true)⟩,
         ⟨(some 12), false, .iaddr 1 (.loc 9) (.loc 11), some ((.loc 8), true)⟩,
         ⟨(some 13), false, .load 1 false (.loc 12), some ((.loc 8), true)⟩,
         ⟨(some 14), false, .bin .other .eql (.loc 13) (.val (.tr (.sc (.int .u32 0)))), some ((.loc 8), true)⟩,
         ⟨(some 15), false, .pick (.loc 8) (.loc 14) (.val (.tr (.sc (.bool false)))), none⟩]
@[simp] def r40_3 : List HOp := [⟨(some 16), false, .mv (.env 3), none⟩,
        ⟨(some 17), false, .bin .other .sub (.loc 16) (.val (.tr (.sc (.int .i64 1)))), none⟩,
        ⟨(some 3), true, .mv (.loc 17), none⟩]
@[simp] def r40_4 : List HOp := [⟨(some 18), false, .mv (.env 0), none⟩,
     ⟨(some 19), false, .mv (.env 3), none⟩,
     ⟨(some 20), false, .slice 1 (.loc 18) none (some (.loc 19)) none, none⟩,
     ⟨(some 2), true, .mv (.loc 20), none⟩]
@[simp] def k40_3 : HCode := .cond (.loc 15) .skip (.exit 0)
def k40_4 : HCode := .block 1 (.region r40_3 none)
def k40_2 : HCode := .seq (.seq (.region r40_2 none) k40_3) k40_4
def k40_5 : HCode := .seq (.region r40_4 none) .ret
@[simp] def k40_1 : HCode := .seq (.block 0 (.loop k40_2)) k40_5
@[simp] def k40_0 : HCode := .seq (.region r40_1 none) k40_1
@[simp] def fn40 : HFn := { nargs := 1, results := [.tmp 2], mode := .shared, code := (.seq (.region r40_0 none) k40_0) }
theorem c40 : cFn Tryd.prog (Hs 40) .shared 40 = some fn40 := by kernel_rfl
/- slices.Clone[[]uint32,uint32] -/
@[simp] def r57_0 : List HOp := [⟨(some 2), true, .mv (.val (.tr (.sc (.slice none 0 0)))), none⟩]
@[simp] def r57_1 : List HOp := [⟨(some 3), false, .mv (.env 0), none⟩,
      ⟨(some 4), false, .bin .slice .eql (.loc 3) (.val (.tr (.sc (.slice none 0 0)))), none⟩]
@[simp] def r57_2 : List HOp := [⟨(some 2), true, .mv (.val (.tr (.sc (.slice none 0 0)))), none⟩]
@[simp] def r57_3 : List HOp := [⟨(some 5), false, .bslice false 0 1 [(.sc (.int .u32 0))] [], none⟩,
     ⟨(some 6), false, .mv (.env 0), none⟩,
     ⟨(some 7), false, .append 1 4 (.loc 5) (.loc 6), none⟩,
     ⟨(some 2), true, .mv (.loc 7), none⟩]
@[simp] def k57_2 : HCode := .seq (.region r57_2 none) .ret
@[simp] def k57_1 : HCode := .cond (.loc 4) k57_2 .skip
def k57_3 : HCode := .seq (.region r57_3 none) .ret
@[simp] def k57_0 : HCode := .seq (.seq (.region r57_1 none) k57_1) k57_3
@[simp] def fn57 : HFn := { nargs := 1, results := [.tmp 2], mode := .shared, code := (.seq (.region r57_0 none) k57_0) }
theorem c57 : cFn Tryd.prog (Hs 57) .shared 57 = some fn57 := by kernel_rfl
/- sterling/constant.Range$1 -/
@[simp] def r54_0 : List HOp := [⟨(some 2), true, .alloc [(.sc (.bool false)), (.sc (.slice none 0 0))], none⟩]
@[simp] def r54_1 : List HOp := [⟨(some 5), false, .callf 24 [(.val (.tr (.sc (.int .i64 2147483648))))], none⟩,
     ⟨(some 3), true, .alloc [(.sc (.bool false)), (.sc (.slice none 0 0))], none⟩,
     ⟨none, false, .store 2 (.env 3) (.loc 5), none⟩]
@[simp] def r54_2 : List HOp := [⟨(some 4), true, .mv (.val (.tr (.sc (.int .i64 31)))), none⟩]
@[simp] def r54_3 : List HOp := [⟨(some 6), false, .mv (.env 4), none⟩,
         ⟨(some 7), false, .mv (.env 0), none⟩,
         ⟨(some 8), false, .bin .other .lss (.loc 6) (.loc 7), none⟩]
@[simp] def r54_4 : List HOp := [⟨(some 11), false, .load 2 true (.env 3), none⟩,
         ⟨(some 12), false, .load 2 true (.env 3), none⟩,
         ⟨(some 13), false, .callf 25 [(.loc 11), (.loc 12)], none⟩,
         ⟨none, false, .store 2 (.env 3) (.loc 13), none⟩]
@[simp] def r54_5 : List HOp := [⟨(some 9), false, .mv (.env 4), none⟩,
       ⟨(some 10), false, .bin .other .add (.loc 9) (.val (.tr (.sc (.int .i64 1)))), none⟩,
       ⟨(some 4), true, .mv (.loc 10), none⟩]
@[simp] def r54_6 : List HOp := [⟨(some 14), false, .load 2 true (.env 3), none⟩,
     ⟨none, false, .store 2 (.env 2) (.loc 14), none⟩]
@[simp] def k54_4 : HCode := .cond (.loc 8) .skip (.exit 0)
def k54_5 : HCode := .seq (.block 1 (.region r54_4 none)) (.region r54_5 none)
def k54_3 : HCode := .seq (.seq (.region r54_3 none) k54_4) k54_5
@[simp] def k54_2 : HCode := .block 0 (.loop k54_3)
def k54_6 : HCode := .seq (.region r54_6 none) .ret
@[simp] def k54_1 : HCode := .seq (.seq (.region r54_2 none) k54_2) k54_6
@[simp] def k54_0 : HCode := .seq (.region r54_1 none) k54_1
@[simp] def fn54 : HFn := { nargs := 1, results := [.cell 2 2 true], mode := .shared, code := (.seq (.region r54_0 none) k54_0) }
theorem c54 : cFn Tryd.prog (Hs 54) .shared 54 = some fn54 := by kernel_rfl
/- sterling/bigint.Add -/
@[simp] def r25_0 : List HOp := [⟨(some 2), true, .box true (.env 0), none⟩,
     ⟨(some 3), true, .box true (.env 1), none⟩,
     ⟨(some 4), true, .alloc [(.sc (.bool false)), (.sc (.slice none 0 0))], none⟩]
@[simp] def r25_1 : List HOp := [⟨(some 6), false, .faddr 0 (.env 2), none⟩,
       ⟨(some 7), false, .load 1 false (.loc 6), none⟩,
       ⟨(some 8), false, .faddr 0 (.env 3), none⟩,
       ⟨(some 9), false, .load 1 false (.loc 8), none⟩,
       ⟨(some 10), false, .bin .bool .eql (.loc 7) (.loc 9), none⟩,
       ⟨(some 5), false, .mv (.loc 10), none⟩]
@[simp] def r25_2 : List HOp := [⟨(some 11), false, .faddr 0 (.env 2), none⟩,
        ⟨(some 12), false, .ldt 1 false (.loc 11), none⟩,
        ⟨(some 13), false, .faddr 1 (.env 2), none⟩,
        ⟨(some 14), false, .ldt 1 false (.loc 13), none⟩,
        ⟨(some 15), false, .faddr 1 (.env 3), none⟩,
        ⟨(some 16), false, .ldt 1 false (.loc 15), none⟩,
        ⟨(some 17), false, .callf 37 [(.loc 14), (.loc 16)], none⟩,
        ⟨(some 18), false, .callf 36 [(.loc 12), (.loc 17)], none⟩,
        ⟨none, false, .store 2 (.env 4) (.loc 18), none⟩]
@[simp] def r25_3 : List HOp := [⟨(some 20), false, .faddr 1 (.env 2), none⟩,
        ⟨(some 21), false, .load 1 false (.loc 20), none⟩,
        ⟨(some 22), false, .faddr 1 (.env 3), none⟩,
        ⟨(some 23), false, .load 1 false (.loc 22), none⟩,
        ⟨(some 24), false, .callf 38 [(.loc 21), (.loc 23)], none⟩,
        ⟨(some 25), false, .bin .other .geq (.loc 24) (.val (.tr (.sc (.int .i64 0)))), none⟩,
        ⟨(some 19), false, .mv (.loc 25), none⟩]
@[simp] def r25_4 : List HOp := [⟨(some 26), false, .faddr 0 (.env 2), none⟩,
         ⟨(some 27), false, .ldt 1 false (.loc 26), none⟩,
         ⟨(some 28), false, .faddr 1 (.env 2), none⟩,
         ⟨(some 29), false, .ldt 1 false (.loc 28), none⟩,
         ⟨(some 30), false, .faddr 1 (.env 3), none⟩,
         ⟨(some 31), false, .ldt 1 false (.loc 30), none⟩,
         ⟨(some 32), false, .callf 39 [(.loc 29), (.loc 31)], none⟩,
         ⟨(some 33), false, .callf 36 [(.loc 27), (.loc 32)], none⟩,
         ⟨none, false, .store 2 (.env 4) (.loc 33), none⟩]
@[simp] def r25_5 : List HOp := [⟨(some 34), false, .faddr 0 (.env 3), none⟩,
     ⟨(some 35), false, .ldt 1 false (.loc 34), none⟩,
     ⟨(some 36), false, .faddr 1 (.env 3), none⟩,
     ⟨(some 37), false, .ldt 1 false (.loc 36), none⟩,
     ⟨(some 38), false, .faddr 1 (.env 2), none⟩,
     ⟨(some 39), false, .ldt 1 false (.loc 38), none⟩,
     ⟨(some 40), false, .callf 39 [(.loc 37), (.loc 39)], none⟩,
     ⟨(some 41), false, .callf 36 [(.loc 35), (.loc 40)], none⟩,
     ⟨none, false, .store 2 (.env 4) (.loc 41), none⟩]
@[simp] def k25_2 : HCode := .seq (.region r25_2 (some [ ( 0, [ 2 ] ) , ( 0, [ 11 ] ) , ( 0, [ 2 ] ) , ( 0, [ 13 ] ) , ( 0, [ 3 ] ) , ( 0, [ 15 ] ) , ( 2, [ 14, 16 ] ) , ( 2, [ 12, 17 ] ) , ( 2, [ 4, 18 ] ) ])) .ret
@[simp] def k25_5 : HCode := .seq (.region r25_4 (some [ ( 0, [ 2 ] ) , ( 0, [ 26 ] ) , ( 0, [ 2 ] ) , ( 0, [ 28 ] ) , ( 0, [ 3 ] ) , ( 0, [ 30 ] ) , ( 2, [ 29, 31 ] ) , ( 2, [ 27, 32 ] ) , ( 2, [ 4, 33 ] ) ])) .ret
@[simp] def k25_4 : HCode := .cond (.loc 19) k25_5 .skip
@[simp] def k25_3 : HCode := .seq (.region r25_3 none) k25_4
@[simp] def k25_1 : HCode := .cond (.loc 5) k25_2 k25_3
def k25_6 : HCode := .seq (.region r25_5 (some [ ( 0, [ 3 ] ) , ( 0, [ 34 ] ) , ( 0, [ 3 ] ) , ( 0, [ 36 ] ) , ( 0, [ 2 ] ) , ( 0, [ 38 ] ) , ( 2, [ 37, 39 ] ) , ( 2, [ 35, 40 ] ) , ( 2, [ 4, 41 ] ) ])) .ret
@[simp] def k25_0 : HCode := .seq (.block 0 (.seq (.region r25_1 none) k25_1)) k25_6
@[simp] def fn25 : HFn := { nargs := 2, results := [.cell 4 2 true], mode := .iso, code := (.seq (.region r25_0 none) k25_0) }
theorem c25 : cFn Tryd.prog (Hs 25) .iso 25 = some fn25 := by kernel_rfl
/- sterling/bigint.plus -/
@[simp] def r37_0 : List HOp := [⟨(some 4), true, .mv (.val (.tr (.sc (.slice none 0 0)))), none⟩]
@[simp] def r37_1 : List HOp := [⟨(some 9), false, .mv (.env 0), none⟩,
      ⟨(some 10), false, .len 1 (.loc 9), none⟩,
      ⟨(some 11), false, .mv (.env 1), none⟩,
      ⟨(some 12), false, .len 1 (.loc 11), none⟩,
      ⟨(some 13), false, .bin .other .lss (.loc 10) (.loc 12), none⟩]
@[simp] def r37_2 : List HOp := [⟨(some 14), false, .mv (.env 1), none⟩,
      ⟨(some 15), false, .mv (.env 0), none⟩,
      ⟨(some 0), true, .mv (.loc 14), none⟩,
      ⟨(some 1), true, .mv (.loc 15), none⟩]
@[simp] def r37_3 : List HOp := [⟨(some 16), false, .mv (.env 0), none⟩,
     ⟨(some 17), false, .len 1 (.loc 16), none⟩,
     ⟨(some 18), false, .bin .other .add (.loc 17) (.val (.tr (.sc (.int .i64 1)))), none⟩,
     ⟨(some 19), false, .mkslice [(.sc (.int .u32 0))] 4 (.loc 18) (.loc 18), none⟩,
     ⟨(some 5), true, .mv (.loc 19), none⟩]
@[simp] def r37_4 : List HOp := [⟨(some 6), true, .mv (.val (.tr (.sc (.int .u64 0)))), none⟩]
@[simp] def r37_5 : List HOp := [⟨(some 20), true, .mv (.env 0), none⟩,
      ⟨(some 21), true, .len 1 (.env 20), none⟩,
      ⟨(some 22), true, .mv (.val (.tr (.sc (.int .i64 0)))), none⟩]
@[simp] def r37_6 : List HOp := [⟨(some 23), false, .bin .other .lss (.env 22) (.env 21), none⟩]
@[simp] def r37_7 : List HOp := [⟨(some 24), false, .mv (.env 22), none⟩,
          ⟨(some 25), false, .iaddr 1 (.env 20) (.env 22), none⟩,
          ⟨(some 26), false, .load 1 false (.loc 25), none⟩,
          ⟨(some 7), true, .mv (.loc 24), none⟩,
          ⟨(some 8), true, .mv (.loc 26), none⟩]
@[simp] def r37_8 : List HOp := [⟨(some 27), false, .mv (.env 6), none⟩,
          ⟨(some 28), false, .mv (.env 8), none⟩,
          ⟨(some 29), false, .conv (.toInt .u64) (.loc 28), none⟩,
          ⟨(some 30), false, .bin .other .add (.loc 27) (.loc 29), none⟩,
          ⟨(some 6), true, .mv (.loc 30), none⟩]
@[simp] def r37_9 : List HOp := [⟨(some 31), false, .mv (.env 7), none⟩,
           ⟨(some 32), false, .mv (.env 1), none⟩,
           ⟨(some 33), false, .len 1 (.loc 32), none⟩,
           ⟨(some 34), false, .bin .other .lss (.loc 31) (.loc 33), none⟩]
@[simp] def r37_10 : List HOp := [⟨(some 35), false, .mv (.env 6), none⟩,
           ⟨(some 36), false, .mv (.env 1), none⟩,
           ⟨(some 37), false, .mv (.env 7), none⟩,
           ⟨(some 38), false, .iaddr 1 (.loc 36) (.loc 37), none⟩,
           ⟨(some 39), false, .load 1 false (.loc 38), none⟩,
           ⟨(some 40), false, .conv (.toInt .u64) (.loc 39), none⟩,
           ⟨(some 41), false, .bin .other .add (.loc 35) (.loc 40), none⟩,
           ⟨(some 6), true, .mv (.loc 41), none⟩]
@[simp] def r37_11 : List HOp := [⟨(some 42), false, .mv (.env 5), none⟩,
          ⟨(some 43), false, .mv (.env 7), none⟩,
          ⟨(some 44), false, .mv (.env 6), none⟩,
          ⟨(some 45), false, .conv (.toInt .u32) (.loc 44), none⟩,
          ⟨(some 46), false, .iaddr 1 (.loc 42) (.loc 43), none⟩,
          ⟨none, false, .store 1 (.loc 46) (.loc 45), none⟩]
@[simp] def r37_12 : List HOp := [⟨(some 47), false, .mv (.env 6), none⟩,
         ⟨(some 48), false, .bin .other .shr (.loc 47) (.val (.tr (.sc (.int .u64 32)))), none⟩,
         ⟨(some 6), true, .mv (.loc 48), none⟩]
@[simp] def r37_13 : List HOp := [⟨(some 49), false, .bin .other .add (.env 22) (.val (.tr (.sc (.int .i64 1)))), none⟩,
       ⟨(some 22), true, .mv (.loc 49), none⟩]
@[simp] def r37_14 : List HOp := [⟨(some 50), false, .mv (.env 5), none⟩,
     ⟨(some 51), false, .mv (.env 0), none⟩,
     ⟨(some 52), false, .len 1 (.loc 51), none⟩,
     ⟨(some 53), false, .mv (.env 6), none⟩,
     ⟨(some 54), false, .conv (.toInt .u32) (.loc 53), none⟩,
     ⟨(some 55), false, .iaddr 1 (.loc 50) (.loc 52), none⟩,
     ⟨none, false, .store 1 (.loc 55) (.loc 54), none⟩]
@[simp] def r37_15 : List HOp := [⟨(some 56), false, .mv (.env 5), none⟩,
     ⟨(some 4), true, .mv (.loc 56), none⟩]
@[simp] def k37_1 : HCode := .cond (.loc 13) (.region r37_2 none) .skip
@[simp] def k37_11 : HCode := .cond (.loc 34) (.region r37_10 none) .skip
def k37_12 : HCode := .seq (.region r37_11 none) (.region r37_12 none)
@[simp] def k37_10 : HCode := .seq (.seq (.region r37_9 none) k37_11) k37_12
@[simp] def k37_9 : HCode := .seq (.region r37_8 none) k37_10
def k37_13 : HCode := .region r37_13 none
def k37_8 : HCode := .seq (.block 1 (.seq (.region r37_7 none) k37_9)) k37_13
@[simp] def k37_7 : HCode := .seq (.cond (.loc 23) .skip (.exit 0)) k37_8
def k37_6 : HCode := .seq (.region r37_6 none) k37_7
@[simp] def k37_5 : HCode := .block 0 (.loop k37_6)
@[simp] def k37_15 : HCode := .seq (.region r37_15 none) .ret
def k37_14 : HCode := .seq (.region r37_14 none) k37_15
@[simp] def k37_4 : HCode := .seq (.seq (.region r37_5 none) k37_5) k37_14
@[simp] def k37_3 : HCode := .seq (.region r37_4 none) k37_4
def k37_2 : HCode := .seq (.region r37_3 none) k37_3
@[simp] def k37_0 : HCode := .seq (.seq (.region r37_1 none) k37_1) k37_2
@[simp] def fn37 : HFn := { nargs := 2, results := [.tmp 4], mode := .iso, code := (.seq (.region r37_0 none) k37_0) }
theorem c37 : cFn Tryd.prog (Hs 37) .iso 37 = some fn37 := by kernel_rfl
/- sterling/bigint.order -/
@[simp] def r38_0 : List HOp := [⟨(some 4), true, .mv (.val (.tr (.sc (.int .i64 0)))), none⟩]
@[simp] def r38_1 : List HOp := [⟨(some 6), false, .mv (.env 0), none⟩,
     ⟨(some 7), false, .callf 40 [(.loc 6)], none⟩,
     ⟨(some 8), false, .mv (.env 1), none⟩,
     ⟨(some 9), false, .callf 40 [(.loc 8)], none⟩,
     ⟨(some 0), true, .mv (.loc 7), none⟩,
     ⟨(some 1), true, .mv (.loc 9), none⟩]
@[simp] def r38_2 : List HOp := [⟨(some 10), false, .mv (.env 0), none⟩,
      ⟨(some 11), false, .len 1 (.loc 10), none⟩,
      ⟨(some 12), false, .mv (.env 1), none⟩,
      ⟨(some 13), false, .len 1 (.loc 12), none⟩,
      ⟨(some 14), false, .bin .other .neq (.loc 11) (.loc 13), none⟩]
@[simp] def r38_3 : List HOp := [⟨(some 15), false, .mv (.env 0), none⟩,
        ⟨(some 16), false, .len 1 (.loc 15), none⟩,
        ⟨(some 17), false, .mv (.env 1), none⟩,
        ⟨(some 18), false, .len 1 (.loc 17), none⟩,
        ⟨(some 19), false, .bin .other .lss (.loc 16) (.loc 18), none⟩]
@[simp] def r38_4 : List HOp := [⟨(some 4), true, .mv (.val (.tr (.sc (.int .i64 (-1))))), none⟩]
@[simp] def r38_5 : List HOp := [⟨(some 4), true, .mv (.val (.tr (.sc (.int .i64 1)))), none⟩]
@[simp] def r38_6 : List HOp := [⟨(some 20), false, .mv (.env 0), none⟩,
      ⟨(some 21), false, .len 1 (.loc 20), none⟩,
      ⟨(some 22), false, .bin .other .sub (.loc 21) (.val (.tr (.sc (.int .i64 1)))), none⟩,
      ⟨(some 5), true, .mv (.loc 22), none⟩]
@[simp] def r38_7 : List HOp := [⟨(some 23), false, .mv (.env 5), none⟩,
         ⟨(some 24), false, .bin .other .geq (.loc 23) (.val (.tr (.sc (.int .i64 0)))), none⟩]
@[simp] def r38_8 : List HOp := [⟨(some 27), false, .mv (.env 0), none⟩,
          ⟨(some 28), false, .mv (.env 5), none⟩,
          ⟨(some 29), false, .iaddr 1 (.loc 27) (.loc 28), none⟩,
          ⟨(some 30), false, .load 1 false (.loc 29), none⟩,
          ⟨(some 31), false, .mv (.env 1), none⟩,
          ⟨(some 32), false, .mv (.env 5), none⟩,
          ⟨(some 33), false, .iaddr 1 (.loc 31) (.loc 32), none⟩,
          ⟨(some 34), false, .load 1 false (.loc 33), none⟩,
          ⟨(some 35), false, .bin .other .neq (.loc 30) (.loc 34), none⟩]
@[simp] def r38_9 : List HOp := [⟨(some 36), false, .mv (.env 0), none⟩,
            ⟨(some 37), false, .mv (.env 5), none⟩,
            ⟨(some 38), false, .iaddr 1 (.loc 36) (.loc 37), none⟩,
            ⟨(some 39), false, .load 1 false (.loc 38), none⟩,
            ⟨(some 40), false, .mv (.env 1), none⟩,
            ⟨(some 41), false, .mv (.env 5), none⟩,
            ⟨(some 42), false, .iaddr 1 (.loc 40) (.loc 41), none⟩,
            ⟨(some 43), false, .load 1 false (.loc 42), none⟩,
            ⟨(some 44), false, .bin .other .lss (.loc 39) (.loc 43), none⟩]
@[simp] def r38_10 : List HOp := [⟨(some 4), true, .mv (.val (.tr (.sc (.int .i64 (-1))))), none⟩]
@[simp] def r38_11 : List HOp := [⟨(some 4), true, .mv (.val (.tr (.sc (.int .i64 1)))), none⟩]
@[simp] def r38_12 : List HOp := [⟨(some 25), false, .mv (.env 5), none⟩,
       ⟨(some 26), false, .bin .other .sub (.loc 25) (.val (.tr (.sc (.int .i64 1)))), none⟩,
       ⟨(some 5), true, .mv (.loc 26), none⟩]
@[simp] def r38_13 : List HOp := [⟨(some 4), true, .mv (.val (.tr (.sc (.int .i64 0)))), none⟩]
@[simp] def k38_5 : HCode := .seq (.region r38_4 none) .ret
@[simp] def k38_4 : HCode := .cond (.loc 19) k38_5 .skip
def k38_6 : HCode := .seq (.region r38_5 none) .ret
@[simp] def k38_3 : HCode := .seq (.seq (.region r38_3 none) k38_4) k38_6
@[simp] def k38_2 : HCode := .cond (.loc 14) k38_3 .skip
@[simp] def k38_10 : HCode := .cond (.loc 24) .skip (.exit 0)
@[simp] def k38_15 : HCode := .seq (.region r38_10 none) .ret
@[simp] def k38_14 : HCode := .cond (.loc 44) k38_15 .skip
def k38_16 : HCode := .seq (.region r38_11 none) .ret
@[simp] def k38_13 : HCode := .seq (.seq (.region r38_9 (some [ ( 0, [ 0 ] ) , ( 0, [ 5 ] ) , ( 1, [ 36, 37 ] ) , ( 1, [ 38 ] ) , ( 0, [ 1 ] ) , ( 0, [ 5 ] ) , ( 1, [ 40, 41 ] ) , ( 1, [ 42 ] ) , ( 0, [ 39, 43 ] ) ])) k38_14) k38_16
@[simp] def k38_12 : HCode := .cond (.loc 35) k38_13 .skip
def k38_17 : HCode := .region r38_12 none
def k38_11 : HCode := .seq (.block 1 (.seq (.region r38_8 (some [ ( 0, [ 0 ] ) , ( 0, [ 5 ] ) , ( 1, [ 27, 28 ] ) , ( 1, [ 29 ] ) , ( 0, [ 1 ] ) , ( 0, [ 5 ] ) , ( 1, [ 31, 32 ] ) , ( 1, [ 33 ] ) , ( 0, [ 30, 34 ] ) ])) k38_12)) k38_17
def k38_9 : HCode := .seq (.seq (.region r38_7 none) k38_10) k38_11
@[simp] def k38_8 : HCode := .block 0 (.loop k38_9)
def k38_18 : HCode := .seq (.region r38_13 none) .ret
def k38_7 : HCode := .seq (.seq (.region r38_6 none) k38_8) k38_18
@[simp] def k38_1 : HCode := .seq (.seq (.region r38_2 none) k38_2) k38_7
@[simp] def k38_0 : HCode := .seq (.region r38_1 none) k38_1
@[simp] def fn38 : HFn := { nargs := 2, results := [.tmp 4], mode := .iso, code := (.seq (.region r38_0 none) k38_0) }
theorem c38 : cFn Tryd.prog (Hs 38) .iso 38 = some fn38 := by kernel_rfl
/- sterling/bigint.minus -/
@[simp] def r39_0 : List HOp := [⟨(some 4), true, .mv (.val (.tr (.sc (.slice none 0 0)))), none⟩]
@[simp] def r39_1 : List HOp := [⟨(some 9), false, .mv (.env 0), none⟩,
     ⟨(some 10), false, .callf 40 [(.loc 9)], none⟩,
     ⟨(some 11), false, .mv (.env 1), none⟩,
     ⟨(some 12), false, .callf 40 [(.loc 11)], none⟩,
     ⟨(some 0), true, .mv (.loc 10), none⟩,
     ⟨(some 1), true, .mv (.loc 12), none⟩]
@[simp] def r39_2 : List HOp := [⟨(some 13), false, .mv (.env 0), none⟩,
     ⟨(some 14), false, .len 1 (.loc 13), none⟩,
     ⟨(some 15), false, .mkslice [(.sc (.int .u32 0))] 4 (.loc 14) (.loc 14), none⟩,
     ⟨(some 5), true, .mv (.loc 15), none⟩]
@[simp] def r39_3 : List HOp := [⟨(some 6), true, .mv (.val (.tr (.sc (.int .i64 0)))), none⟩]
@[simp] def r39_4 : List HOp := [⟨(some 16), true, .mv (.env 0), none⟩,
      ⟨(some 17), true, .len 1 (.env 16), none⟩,
      ⟨(some 18), true, .mv (.val (.tr (.sc (.int .i64 0)))), none⟩]
@[simp] def r39_5 : List HOp := [⟨(some 19), false, .bin .other .lss (.env 18) (.env 17), none⟩]
@[simp] def r39_6 : List HOp := [⟨(some 20), false, .mv (.env 18), none⟩,
          ⟨(some 21), false, .iaddr 1 (.env 16) (.env 18), none⟩,
          ⟨(some 22), false, .load 1 false (.loc 21), none⟩,
          ⟨(some 7), true, .mv (.loc 20), none⟩,
          ⟨(some 8), true, .mv (.loc 22), none⟩]
@[simp] def r39_7 : List HOp := [⟨(some 23), false, .mv (.env 6), none⟩,
          ⟨(some 24), false, .mv (.env 8), none⟩,
          ⟨(some 25), false, .conv (.toInt .i64) (.loc 24), none⟩,
          ⟨(some 26), false, .bin .other .add (.loc 23) (.loc 25), none⟩,
          ⟨(some 6), true, .mv (.loc 26), none⟩]
@[simp] def r39_8 : List HOp := [⟨(some 27), false, .mv (.env 7), none⟩,
           ⟨(some 28), false, .mv (.env 1), none⟩,
           ⟨(some 29), false, .len 1 (.loc 28), none⟩,
           ⟨(some 30), false, .bin .other .lss (.loc 27) (.loc 29), none⟩]
@[simp] def r39_9 : List HOp := [⟨(some 31), false, .mv (.env 6), none⟩,
           ⟨(some 32), false, .mv (.env 1), none⟩,
           ⟨(some 33), false, .mv (.env 7), none⟩,
           ⟨(some 34), false, .iaddr 1 (.loc 32) (.loc 33), none⟩,
           ⟨(some 35), false, .load 1 false (.loc 34), none⟩,
           ⟨(some 36), false, .conv (.toInt .i64) (.loc 35), none⟩,
           ⟨(some 37), false, .bin .other .sub (.loc 31) (.loc 36), none⟩,
           ⟨(some 6), true, .mv (.loc 37), none⟩]
@[simp] def r39_10 : List HOp := [⟨(some 38), false, .mv (.env 5), none⟩,
          ⟨(some 39), false, .mv (.env 7), none⟩,
          ⟨(some 40), false, .mv (.env 6), none⟩,
          ⟨(some 41), false, .conv (.toInt .u32) (.loc 40), none⟩,
          ⟨(some 42), false, .iaddr 1 (.loc 38) (.loc 39), none⟩,
          ⟨none, false, .store 1 (.loc 42) (.loc 41), none⟩]
@[simp] def r39_11 : List HOp := [⟨(some 43), false, .mv (.env 6), none⟩,
         ⟨(some 44), false, .bin .other .shr (.loc 43) (.val (.tr (.sc (.int .u64 32)))), none⟩,
         ⟨(some 6), true, .mv (.loc 44), none⟩]
@[simp] def r39_12 : List HOp := [⟨(some 45), false, .bin .other .add (.env 18) (.val (.tr (.sc (.int .i64 1)))), none⟩,
       ⟨(some 18), true, .mv (.loc 45), none⟩]
@[simp] def r39_13 : List HOp := [⟨(some 46), false, .mv (.env 5), none⟩,
     ⟨(some 4), true, .mv (.loc 46), none⟩]
@[simp] def k39_10 : HCode := .cond (.loc 30) (.region r39_9 none) .skip
def k39_11 : HCode := .seq (.region r39_10 none) (.region r39_11 none)
@[simp] def k39_9 : HCode := .seq (.seq (.region r39_8 none) k39_10) k39_11
@[simp] def k39_8 : HCode := .seq (.region r39_7 none) k39_9
def k39_12 : HCode := .region r39_12 none
def k39_7 : HCode := .seq (.block 1 (.seq (.region r39_6 none) k39_8)) k39_12
@[simp] def k39_6 : HCode := .seq (.cond (.loc 19) .skip (.exit 0)) k39_7
def k39_5 : HCode := .seq (.region r39_5 none) k39_6
@[simp] def k39_4 : HCode := .block 0 (.loop k39_5)
def k39_13 : HCode := .seq (.region r39_13 none) .ret
@[simp] def k39_3 : HCode := .seq (.seq (.region r39_4 none) k39_4) k39_13
@[simp] def k39_2 : HCode := .seq (.region r39_3 none) k39_3
@[simp] def k39_1 : HCode := .seq (.region r39_2 none) k39_2
@[simp] def k39_0 : HCode := .seq (.region r39_1 none) k39_1
@[simp] def fn39 : HFn := { nargs := 2, results := [.tmp 4], mode := .iso, code := (.seq (.region r39_0 none) k39_0) }
theorem c39 : cFn Tryd.prog (Hs 39) .iso 39 = some fn39 := by kernel_rfl
/- sterling/bigint.Neg -/
@[simp] def r55_0 : List HOp := [⟨(some 1), true, .box true (.env 0), none⟩,
     ⟨(some 2), true, .alloc [(.sc (.bool false)), (.sc (.slice none 0 0))], none⟩]
@[simp] def r55_1 : List HOp := [⟨(some 3), false, .faddr 0 (.env 1), none⟩,
     ⟨(some 4), false, .load 1 false (.loc 3), none⟩,
     ⟨(some 5), false, .un .not (.loc 4), none⟩,
     ⟨(some 6), false, .faddr 1 (.env 1), none⟩,
     ⟨(some 7), false, .load 1 false (.loc 6), none⟩,
     ⟨(some 8), false, .callf 36 [(.loc 5), (.loc 7)], none⟩,
     ⟨none, false, .store 2 (.env 2) (.loc 8), none⟩]
@[simp] def k55_0 : HCode := .seq (.region r55_1 none) .ret
@[simp] def fn55 : HFn := { nargs := 1, results := [.cell 2 2 true], mode := .iso, code := (.seq (.region r55_0 none) k55_0) }
theorem c55 : cFn Tryd.prog (Hs 55) .iso 55 = some fn55 := by kernel_rfl
/- sterling/bigint.Sub -/
@[simp] def r56_0 : List HOp := [⟨(some 2), true, .box true (.env 0), none⟩,
     ⟨(some 3), true, .box true (.env 1), none⟩,
     ⟨(some 4), true, .alloc [(.sc (.bool false)), (.sc (.slice none 0 0))], none⟩]
@[simp] def r56_1 : List HOp := [⟨(some 5), false, .load 2 true (.env 2), none⟩,
     ⟨(some 6), false, .faddr 0 (.env 3), none⟩,
     ⟨(some 7), false, .load 1 false (.loc 6), none⟩,
     ⟨(some 8), false, .un .not (.loc 7), none⟩,
     ⟨(some 9), false, .faddr 1 (.env 3), none⟩,
     ⟨(some 10), false, .load 1 false (.loc 9), none⟩,
     ⟨(some 11), false, .build [(.sc (.bool false)), (.sc (.slice none 0 0))] [(0, 1, (.loc 8)), (1, 1, (.loc 10))], none⟩,
     ⟨(some 12), false, .callf 25 [(.loc 5), (.loc 11)], none⟩,
     ⟨none, false, .store 2 (.env 4) (.loc 12), none⟩]
@[simp] def k56_0 : HCode := .seq (.region r56_1 none) .ret
@[simp] def fn56 : HFn := { nargs := 2, results := [.cell 4 2 true], mode := .iso, code := (.seq (.region r56_0 none) k56_0) }
theorem c56 : cFn Tryd.prog (Hs 56) .iso 56 = some fn56 := by kernel_rfl
/- sterling/value.Wrap -/
@[simp] def r13_0 : List HOp := [⟨(some 4), true, .mv (.val (.tr (.sc (.int .i64 0)))), none⟩]
@[simp] def r13_1 : List HOp := [⟨(some 5), true, .mv (.env 1), none⟩]
@[simp] def r13_2 : List HOp := [⟨(some 7), false, .bin .other .eql (.env 5) (.val (.tr (.sc (.string ⟨⟨[105, 110, 116, 56]⟩⟩)))), none⟩,
       ⟨(some 6), false, .mv (.loc 7), none⟩]
@[simp] def r13_3 : List HOp := [⟨(some 8), false, .mv (.env 0), none⟩,
        ⟨(some 9), false, .conv (.toInt .i8) (.loc 8), none⟩,
        ⟨(some 10), false, .conv (.toInt .i64) (.loc 9), none⟩,
        ⟨(some 4), true, .mv (.loc 10), none⟩]
@[simp] def r13_4 : List HOp := [⟨(some 12), false, .bin .other .eql (.env 5) (.val (.tr (.sc (.string ⟨⟨[117, 105, 110, 116, 56]⟩⟩)))), none⟩,
        ⟨(some 11), false, .mv (.loc 12), none⟩]
@[simp] def r13_5 : List HOp := [⟨(some 13), false, .mv (.env 0), none⟩,
         ⟨(some 14), false, .conv (.toInt .u8) (.loc 13), none⟩,
         ⟨(some 15), false, .conv (.toInt .i64) (.loc 14), none⟩,
         ⟨(some 4), true, .mv (.loc 15), none⟩]
@[simp] def r13_6 : List HOp := [⟨(some 16), false, .mv (.env 0), none⟩,
     ⟨(some 4), true, .mv (.loc 16), none⟩]
@[simp] def k13_3 : HCode := .seq (.region r13_3 none) .ret
@[simp] def k13_6 : HCode := .seq (.region r13_5 none) .ret
@[simp] def k13_5 : HCode := .cond (.loc 11) k13_6 .skip
@[simp] def k13_4 : HCode := .seq (.region r13_4 none) k13_5
@[simp] def k13_2 : HCode := .cond (.loc 6) k13_3 k13_4
@[simp] def k13_1 : HCode := .block 0 (.seq (.region r13_2 none) k13_2)
def k13_7 : HCode := .seq (.region r13_6 none) .ret
@[simp] def k13_0 : HCode := .seq (.seq (.region r13_1 none) k13_1) k13_7
@[simp] def fn13 : HFn := { nargs := 2, results := [.tmp 4], mode := .iso, code := (.seq (.region r13_0 none) k13_0) }
theorem c13 : cFn Tryd.prog (Hs 13) .iso 13 = some fn13 := by kernel_rfl
/- sterling/value.quo -/
@[simp] def r23_0 : List HOp := [⟨(some 8), true, .mv (.val (.tr (.sc (.int .i64 0)))), none⟩]
@[simp] def r23_1 : List HOp := [⟨(some 10), false, .mv (.env 3), none⟩,
       ⟨(some 11), false, .mv (.loc 10), none⟩,
       ⟨(some 12), false, .mv (.env 0), some ((.loc 11), true)⟩,
       ⟨(some 13), false, .bin .other .eql (.loc 12) (.val (.tr (.sc (.string ⟨⟨[47]⟩⟩)))), some ((.loc 11), true)⟩,
       ⟨(some 14), false, .pick (.loc 11) (.loc 13) (.val (.tr (.sc (.bool false)))), none⟩,
       ⟨(some 9), false, .mv (.loc 14), none⟩]
@[simp] def r23_2 : List HOp := [⟨(some 15), false, .mv (.env 1), none⟩,
        ⟨(some 16), false, .conv (.toInt .u64) (.loc 15), none⟩,
        ⟨(some 17), false, .mv (.env 2), none⟩,
        ⟨(some 18), false, .conv (.toInt .u64) (.loc 17), none⟩,
        ⟨(some 19), false, .bin .other .quo (.loc 16) (.loc 18), none⟩,
        ⟨(some 20), false, .conv (.toInt .i64) (.loc 19), none⟩,
        ⟨(some 8), true, .mv (.loc 20), none⟩]
@[simp] def r23_3 : List HOp := [⟨(some 22), false, .mv (.env 3), none⟩,
        ⟨(some 21), false, .mv (.loc 22), none⟩]
@[simp] def r23_4 : List HOp := [⟨(some 23), false, .mv (.env 1), none⟩,
         ⟨(some 24), false, .conv (.toInt .u64) (.loc 23), none⟩,
         ⟨(some 25), false, .mv (.env 2), none⟩,
         ⟨(some 26), false, .conv (.toInt .u64) (.loc 25), none⟩,
         ⟨(some 27), false, .bin .other .rem (.loc 24) (.loc 26), none⟩,
         ⟨(some 28), false, .conv (.toInt .i64) (.loc 27), none⟩,
         ⟨(some 8), true, .mv (.loc 28), none⟩]
@[simp] def r23_5 : List HOp := [⟨(some 30), false, .mv (.env 2), none⟩,
         ⟨(some 31), false, .bin .other .eql (.loc 30) (.val (.tr (.sc (.int .i64 (-1))))), none⟩,
         ⟨(some 32), false, .mv (.loc 31), none⟩,
         ⟨(some 33), false, .mv (.env 0), some ((.loc 32), true)⟩,
         ⟨(some 34), false, .bin .other .eql (.loc 33) (.val (.tr (.sc (.string ⟨⟨[47]⟩⟩)))), some ((.loc 32), true)⟩,
         ⟨(some 35), false, .pick (.loc 32) (.loc 34) (.val (.tr (.sc (.bool false)))), none⟩,
         ⟨(some 29), false, .mv (.loc 35), none⟩]
@[simp] def r23_6 : List HOp := [⟨(some 36), false, .mv (.env 1), none⟩,
          ⟨(some 37), false, .un .neg (.loc 36), none⟩,
          ⟨(some 8), true, .mv (.loc 37), none⟩]
@[simp] def r23_7 : List HOp := [⟨(some 39), false, .mv (.env 2), none⟩,
          ⟨(some 40), false, .bin .other .eql (.loc 39) (.val (.tr (.sc (.int .i64 (-1))))), none⟩,
          ⟨(some 38), false, .mv (.loc 40), none⟩]
@[simp] def r23_8 : List HOp := [⟨(some 8), true, .mv (.val (.tr (.sc (.int .i64 0)))), none⟩]
@[simp] def r23_9 : List HOp := [⟨(some 42), false, .mv (.env 0), none⟩,
           ⟨(some 43), false, .bin .other .eql (.loc 42) (.val (.tr (.sc (.string ⟨⟨[47]⟩⟩)))), none⟩,
           ⟨(some 41), false, .mv (.loc 43), none⟩]
@[simp] def r23_10 : List HOp := [⟨(some 44), false, .mv (.env 1), none⟩,
            ⟨(some 45), false, .mv (.env 2), none⟩,
            ⟨(some 46), false, .bin .other .quo (.loc 44) (.loc 45), none⟩,
            ⟨(some 8), true, .mv (.loc 46), none⟩]
@[simp] def r23_11 : List HOp := [⟨(some 47), false, .mv (.env 1), none⟩,
     ⟨(some 48), false, .mv (.env 2), none⟩,
     ⟨(some 49), false, .bin .other .rem (.loc 47) (.loc 48), none⟩,
     ⟨(some 8), true, .mv (.loc 49), none⟩]
@[simp] def k23_2 : HCode := .seq (.region r23_2 none) .ret
@[simp] def k23_5 : HCode := .seq (.region r23_4 none) .ret
@[simp] def k23_8 : HCode := .seq (.region r23_6 none) .ret
@[simp] def k23_11 : HCode := .seq (.region r23_8 none) .ret
@[simp] def k23_14 : HCode := .seq (.region r23_10 none) .ret
@[simp] def k23_13 : HCode := .cond (.loc 41) k23_14 .skip
@[simp] def k23_12 : HCode := .seq (.region r23_9 none) k23_13
@[simp] def k23_10 : HCode := .cond (.loc 38) k23_11 k23_12
@[simp] def k23_9 : HCode := .seq (.region r23_7 none) k23_10
@[simp] def k23_7 : HCode := .cond (.loc 29) k23_8 k23_9
@[simp] def k23_6 : HCode := .seq (.region r23_5 none) k23_7
@[simp] def k23_4 : HCode := .cond (.loc 21) k23_5 k23_6
@[simp] def k23_3 : HCode := .seq (.region r23_3 none) k23_4
@[simp] def k23_1 : HCode := .cond (.loc 9) k23_2 k23_3
def k23_15 : HCode := .seq (.region r23_11 none) .ret
@[simp] def k23_0 : HCode := .seq (.block 0 (.seq (.region r23_1 none) k23_1)) k23_15
@[simp] def fn23 : HFn := { nargs := 4, results := [.tmp 8], mode := .iso, code := (.seq (.region r23_0 none) k23_0) }
theorem c23 : cFn Tryd.prog (Hs 23) .iso 23 = some fn23 := by kernel_rfl
/- sterling/value.Convert -/
@[simp] def r14_0 : List HOp := [⟨(some 8), true, .mv (.val (.tr (.sc (.int .i64 0)))), none⟩,
     ⟨(some 9), true, .mv (.val (.tr (.sc (.float .f64 0)))), none⟩,
     ⟨(some 10), true, .mv (.val (.tr (.sc (.string ⟨⟨[]⟩⟩)))), none⟩]
@[simp] def r14_1 : List HOp := [⟨(some 15), false, .mv (.env 0), none⟩,
        ⟨(some 16), false, .callf 22 [(.loc 15)], none⟩,
        ⟨(some 17), false, .un .not (.loc 16), none⟩,
        ⟨(some 18), false, .mv (.loc 17), none⟩,
        ⟨(some 19), false, .mv (.env 0), some ((.loc 18), true)⟩,
        ⟨(some 20), false, .callf 19 [(.loc 19)], some ((.loc 18), true)⟩,
        ⟨(some 21), false, .un .not (.loc 20), some ((.loc 18), true)⟩,
        ⟨(some 22), false, .pick (.loc 18) (.loc 21) (.val (.tr (.sc (.bool false)))), none⟩,
        ⟨(some 14), true, .mv (.loc 22), none⟩]
@[simp] def r14_2 : List HOp := [⟨(some 23), false, .mv (.env 1), none⟩,
        ⟨(some 24), false, .callf 22 [(.loc 23)], none⟩,
        ⟨(some 25), false, .un .not (.loc 24), none⟩,
        ⟨(some 26), false, .mv (.loc 25), none⟩,
        ⟨(some 27), false, .mv (.env 1), some ((.loc 26), true)⟩,
        ⟨(some 28), false, .callf 19 [(.loc 27)], some ((.loc 26), true)⟩,
        ⟨(some 29), false, .un .not (.loc 28), some ((.loc 26), true)⟩,
        ⟨(some 30), false, .pick (.loc 26) (.loc 29) (.val (.tr (.sc (.bool false)))), none⟩,
        ⟨(some 14), true, .mv (.loc 30), none⟩]
@[simp] def r14_3 : List HOp := [⟨(some 8), true, .mv (.val (.tr (.sc (.int .i64 0)))), none⟩,
        ⟨(some 9), true, .mv (.val (.tr (.sc (.float .f64 0)))), none⟩,
        ⟨(some 10), true, .mv (.val (.tr (.sc (.string ⟨⟨[98, 97, 100]⟩⟩)))), none⟩]
@[simp] def r14_4 : List HOp := [⟨(some 32), false, .mv (.env 0), none⟩,
        ⟨(some 33), false, .callf 22 [(.loc 32)], none⟩,
        ⟨(some 34), false, .mv (.loc 33), none⟩,
        ⟨(some 35), false, .mv (.env 1), some ((.loc 34), true)⟩,
        ⟨(some 36), false, .callf 22 [(.loc 35)], some ((.loc 34), true)⟩,
        ⟨(some 37), false, .pick (.loc 34) (.loc 36) (.val (.tr (.sc (.bool false)))), none⟩,
        ⟨(some 31), false, .mv (.loc 37), none⟩]
@[simp] def r14_5 : List HOp := [⟨(some 38), false, .mv (.env 2), none⟩,
         ⟨(some 39), false, .mv (.env 0), none⟩,
         ⟨(some 40), false, .callf 13 [(.loc 38), (.loc 39)], none⟩,
         ⟨(some 41), false, .mv (.env 1), none⟩,
         ⟨(some 42), false, .callf 13 [(.loc 40), (.loc 41)], none⟩,
         ⟨(some 8), true, .mv (.loc 42), none⟩,
         ⟨(some 9), true, .mv (.val (.tr (.sc (.float .f64 0)))), none⟩,
         ⟨(some 10), true, .mv (.val (.tr (.sc (.string ⟨⟨[]⟩⟩)))), none⟩]
@[simp] def r14_6 : List HOp := [⟨(some 44), false, .mv (.env 0), none⟩,
         ⟨(some 45), false, .callf 22 [(.loc 44)], none⟩,
         ⟨(some 43), false, .mv (.loc 45), none⟩]
@[simp] def r14_7 : List HOp := [⟨(some 46), false, .mv (.env 2), none⟩,
          ⟨(some 47), false, .mv (.env 0), none⟩,
          ⟨(some 48), false, .callf 13 [(.loc 46), (.loc 47)], none⟩,
          ⟨(some 49), false, .callf 24 [(.loc 48)], none⟩,
          ⟨(some 11), true, .alloc [(.sc (.bool false)), (.sc (.slice none 0 0))], none⟩,
          ⟨none, false, .store 2 (.env 11) (.loc 49), none⟩]
@[simp] def r14_8 : List HOp := [⟨(some 50), false, .mv (.env 0), none⟩,
           ⟨(some 51), false, .bin .other .eql (.loc 50) (.val (.tr (.sc (.string ⟨⟨[117, 105, 110, 116]⟩⟩)))), none⟩,
           ⟨(some 52), false, .mv (.loc 51), none⟩,
           ⟨(some 53), false, .mv (.env 2), some ((.loc 52), true)⟩,
           ⟨(some 54), false, .bin .other .lss (.loc 53) (.val (.tr (.sc (.int .i64 0)))), some ((.loc 52), true)⟩,
           ⟨(some 55), false, .pick (.loc 52) (.loc 54) (.val (.tr (.sc (.bool false)))), none⟩]
@[simp] def r14_9 : List HOp := [⟨(some 56), false, .load 2 true (.env 11), none⟩,
           ⟨(some 57), false, .callf 24 [(.val (.tr (.sc (.int .i64 4294967296))))], none⟩,
           ⟨(some 58), false, .callf 24 [(.val (.tr (.sc (.int .i64 4294967296))))], none⟩,
           ⟨(some 59), false, .callf 26 [(.loc 57), (.loc 58)], none⟩,
           ⟨(some 60), false, .callf 25 [(.loc 56), (.loc 59)], none⟩,
           ⟨none, false, .store 2 (.env 11) (.loc 60), none⟩]
@[simp] def r14_10 : List HOp := [⟨(some 61), false, .mv (.env 1), none⟩,
           ⟨(some 62), false, .bin .other .eql (.loc 61) (.val (.tr (.sc (.string ⟨⟨[102, 108, 111, 97, 116, 51, 50]⟩⟩)))), none⟩]
@[simp] def r14_11 : List HOp := [⟨(some 63), false, .load 2 true (.env 11), none⟩,
            ⟨(some 64), false, .callf 28 [(.loc 63)], none⟩,
            ⟨(some 65), false, .callf 27 [(.loc 64)], none⟩,
            ⟨(some 66), false, .conv (.toFloat .f64) (.loc 65), none⟩,
            ⟨(some 8), true, .mv (.val (.tr (.sc (.int .i64 0)))), none⟩,
            ⟨(some 9), true, .mv (.loc 66), none⟩,
            ⟨(some 10), true, .mv (.val (.tr (.sc (.string ⟨⟨[]⟩⟩)))), none⟩]
@[simp] def r14_12 : List HOp := [⟨(some 67), false, .load 2 true (.env 11), none⟩,
          ⟨(some 68), false, .callf 28 [(.loc 67)], none⟩,
          ⟨(some 69), false, .callf 29 [(.loc 68)], none⟩,
          ⟨(some 8), true, .mv (.val (.tr (.sc (.int .i64 0)))), none⟩,
          ⟨(some 9), true, .mv (.loc 69), none⟩,
          ⟨(some 10), true, .mv (.val (.tr (.sc (.string ⟨⟨[]⟩⟩)))), none⟩]
@[simp] def r14_13 : List HOp := [⟨(some 71), false, .mv (.env 1), none⟩,
          ⟨(some 72), false, .callf 19 [(.loc 71)], none⟩,
          ⟨(some 70), false, .mv (.loc 72), none⟩]
@[simp] def r14_14 : List HOp := [⟨(some 73), false, .mv (.env 1), none⟩,
           ⟨(some 74), false, .mv (.env 0), none⟩,
           ⟨(some 75), false, .mv (.env 3), none⟩,
           ⟨(some 76), false, .callf 20 [(.loc 74), (.loc 75)], none⟩,
           ⟨(some 77), false, .callf 20 [(.loc 73), (.loc 76)], none⟩,
           ⟨(some 8), true, .mv (.val (.tr (.sc (.int .i64 0)))), none⟩,
           ⟨(some 9), true, .mv (.loc 77), none⟩,
           ⟨(some 10), true, .mv (.val (.tr (.sc (.string ⟨⟨[]⟩⟩)))), none⟩]
@[simp] def r14_15 : List HOp := [⟨(some 79), false, .mv (.env 0), none⟩,
     ⟨(some 80), false, .mv (.env 3), none⟩,
     ⟨(some 81), false, .callf 20 [(.loc 79), (.loc 80)], none⟩,
     ⟨(some 82), false, .mv (.env 1), none⟩,
     ⟨(some 83), false, .callf 30 [(.loc 81), (.loc 82)], none⟩,
     ⟨(some 78), false, .mv (.loc 83), none⟩,
     ⟨(some 84), false, .extract (.loc 78) 0, none⟩,
     ⟨(some 85), false, .extract (.loc 78) 1, none⟩,
     ⟨(some 12), true, .mv (.loc 84), none⟩,
     ⟨(some 13), true, .mv (.loc 85), none⟩]
@[simp] def r14_16 : List HOp := [⟨(some 86), false, .mv (.env 13), none⟩,
      ⟨(some 87), false, .un .not (.loc 86), none⟩]
@[simp] def r14_17 : List HOp := [⟨(some 8), true, .mv (.val (.tr (.sc (.int .i64 0)))), none⟩,
       ⟨(some 9), true, .mv (.val (.tr (.sc (.float .f64 0)))), none⟩,
       ⟨(some 10), true, .mv (.val (.tr (.sc (.string ⟨⟨[99, 111, 110, 118, 101, 114, 116]⟩⟩)))), none⟩]
@[simp] def r14_18 : List HOp := [⟨(some 88), false, .mv (.env 12), none⟩,
     ⟨(some 8), true, .mv (.loc 88), none⟩,
     ⟨(some 9), true, .mv (.val (.tr (.sc (.float .f64 0)))), none⟩,
     ⟨(some 10), true, .mv (.val (.tr (.sc (.string ⟨⟨[]⟩⟩)))), none⟩]
@[simp] def k14_1 : HCode := .cond (.env 14) .skip (.region r14_2 none)
@[simp] def k14_3 : HCode := .seq (.region r14_3 none) .ret
@[simp] def k14_6 : HCode := .seq (.region r14_5 none) .ret
@[simp] def k14_11 : HCode := .cond (.loc 55) (.region r14_9 (some [ ( 7, [ 11 ] ) , ( 2, [ ] ) , ( 2, [ ] ) , ( 2, [ 57, 58 ] ) , ( 2, [ 56, 59 ] ) , ( 2, [ 11, 60 ] ) ])) .skip
@[simp] def k14_14 : HCode := .seq (.region r14_11 none) .ret
@[simp] def k14_13 : HCode := .cond (.loc 62) k14_14 .skip
def k14_15 : HCode := .seq (.region r14_12 none) .ret
def k14_12 : HCode := .seq (.seq (.region r14_10 none) k14_13) k14_15
@[simp] def k14_10 : HCode := .seq (.seq (.region r14_8 none) k14_11) k14_12
@[simp] def k14_9 : HCode := .seq (.region r14_7 none) k14_10
@[simp] def k14_18 : HCode := .seq (.region r14_14 none) .ret
@[simp] def k14_17 : HCode := .cond (.loc 70) k14_18 .skip
@[simp] def k14_16 : HCode := .seq (.region r14_13 none) k14_17
@[simp] def k14_8 : HCode := .cond (.loc 43) k14_9 k14_16
@[simp] def k14_7 : HCode := .seq (.region r14_6 none) k14_8
@[simp] def k14_5 : HCode := .cond (.loc 31) k14_6 k14_7
@[simp] def k14_4 : HCode := .seq (.region r14_4 none) k14_5
def k14_2 : HCode := .cond (.env 14) k14_3 k14_4
@[simp] def k14_22 : HCode := .seq (.region r14_17 none) .ret
@[simp] def k14_21 : HCode := .cond (.loc 87) k14_22 .skip
def k14_23 : HCode := .seq (.region r14_18 none) .ret
@[simp] def k14_20 : HCode := .seq (.seq (.region r14_16 none) k14_21) k14_23
def k14_19 : HCode := .seq (.region r14_15 none) k14_20
@[simp] def k14_0 : HCode := .seq (.block 0 (.seq (.seq (.region r14_1 none) k14_1) k14_2)) k14_19
@[simp] def fn14 : HFn := { nargs := 4, results := [.tmp 8, .tmp 9, .tmp 10], mode := .iso, code := (.seq (.region r14_0 none) k14_0) }
theorem c14 : cFn Tryd.prog (Hs 14) .iso 14 = some fn14 := by kernel_rfl
/- sterling/value.fraction -/
@[simp] def r19_0 : List HOp := [⟨(some 2), true, .mv (.val (.tr (.sc (.bool false)))), none⟩]
@[simp] def r19_1 : List HOp := [⟨(some 3), false, .mv (.env 0), none⟩,
     ⟨(some 4), false, .bin .other .eql (.loc 3) (.val (.tr (.sc (.string ⟨⟨[102, 108, 111, 97, 116, 51, 50]⟩⟩)))), none⟩,
     ⟨(some 5), false, .mv (.loc 4), none⟩,
     ⟨(some 6), false, .mv (.env 0), some ((.loc 5), false)⟩,
     ⟨(some 7), false, .bin .other .eql (.loc 6) (.val (.tr (.sc (.string ⟨⟨[102, 108, 111, 97, 116, 54, 52]⟩⟩)))), some ((.loc 5), false)⟩,
     ⟨(some 8), false, .pick (.loc 5) (.val (.tr (.sc (.bool true)))) (.loc 7), none⟩,
     ⟨(some 2), true, .mv (.loc 8), none⟩]
@[simp] def k19_0 : HCode := .seq (.region r19_1 none) .ret
@[simp] def fn19 : HFn := { nargs := 1, results := [.tmp 2], mode := .iso, code := (.seq (.region r19_0 none) k19_0) }
theorem c19 : cFn Tryd.prog (Hs 19) .iso 19 = some fn19 := by kernel_rfl
/- sterling/bigint.Mul -/
@[simp] def r26_0 : List HOp := [⟨(some 2), true, .box true (.env 0), none⟩,
     ⟨(some 3), true, .box true (.env 1), none⟩,
     ⟨(some 4), true, .alloc [(.sc (.bool false)), (.sc (.slice none 0 0))], none⟩]
@[simp] def r26_1 : List HOp := [⟨(some 13), false, .faddr 1 (.env 2), none⟩,
     ⟨(some 14), false, .ldt 1 false (.loc 13), none⟩,
     ⟨(some 15), false, .callf 40 [(.loc 14)], none⟩,
     ⟨(some 16), false, .faddr 1 (.env 3), none⟩,
     ⟨(some 17), false, .ldt 1 false (.loc 16), none⟩,
     ⟨(some 18), false, .callf 40 [(.loc 17)], none⟩,
     ⟨(some 5), true, .mv (.loc 15), none⟩,
     ⟨(some 6), true, .mv (.loc 18), none⟩]
@[simp] def r26_2 : List HOp := [⟨(some 19), false, .mv (.env 5), none⟩,
     ⟨(some 20), false, .len 1 (.loc 19), none⟩,
     ⟨(some 21), false, .mv (.env 6), none⟩,
     ⟨(some 22), false, .len 1 (.loc 21), none⟩,
     ⟨(some 23), false, .bin .other .add (.loc 20) (.loc 22), none⟩,
     ⟨(some 24), false, .mkslice [(.sc (.int .u32 0))] 4 (.loc 23) (.loc 23), none⟩,
     ⟨(some 7), true, .mv (.loc 24), none⟩]
@[simp] def r26_3 : List HOp := [⟨(some 25), true, .mv (.env 5), none⟩,
      ⟨(some 26), true, .len 1 (.env 25), none⟩,
      ⟨(some 27), true, .mv (.val (.tr (.sc (.int .i64 0)))), none⟩]
@[simp] def r26_4 : List HOp := [⟨(some 28), false, .bin .other .lss (.env 27) (.env 26), none⟩]
@[simp] def r26_5 : List HOp := [⟨(some 29), false, .mv (.env 27), none⟩,
          ⟨(some 30), false, .iaddr 1 (.env 25) (.env 27), none⟩,
          ⟨(some 31), false, .load 1 false (.loc 30), none⟩,
          ⟨(some 8), true, .mv (.loc 29), none⟩,
          ⟨(some 9), true, .mv (.loc 31), none⟩]
@[simp] def r26_6 : List HOp := [⟨(some 10), true, .mv (.val (.tr (.sc (.int .u64 0)))), none⟩]
@[simp] def r26_7 : List HOp := [⟨(some 32), true, .mv (.env 6), none⟩,
           ⟨(some 33), true, .len 1 (.env 32), none⟩,
           ⟨(some 34), true, .mv (.val (.tr (.sc (.int .i64 0)))), none⟩]
@[simp] def r26_8 : List HOp := [⟨(some 35), false, .bin .other .lss (.env 34) (.env 33), none⟩]
@[simp] def r26_9 : List HOp := [⟨(some 36), false, .mv (.env 34), none⟩,
               ⟨(some 37), false, .iaddr 1 (.env 32) (.env 34), none⟩,
               ⟨(some 38), false, .load 1 false (.loc 37), none⟩,
               ⟨(some 11), true, .mv (.loc 36), none⟩,
               ⟨(some 12), true, .mv (.loc 38), none⟩]
@[simp] def r26_10 : List HOp := [⟨(some 39), false, .mv (.env 10), none⟩,
               ⟨(some 40), false, .mv (.env 9), none⟩,
               ⟨(some 41), false, .conv (.toInt .u64) (.loc 40), none⟩,
               ⟨(some 42), false, .mv (.env 12), none⟩,
               ⟨(some 43), false, .conv (.toInt .u64) (.loc 42), none⟩,
               ⟨(some 44), false, .bin .other .mul (.loc 41) (.loc 43), none⟩,
               ⟨(some 45), false, .mv (.env 7), none⟩,
               ⟨(some 46), false, .mv (.env 8), none⟩,
               ⟨(some 47), false, .mv (.env 11), none⟩,
               ⟨(some 48), false, .bin .other .add (.loc 46) (.loc 47), none⟩,
               ⟨(some 49), false, .iaddr 1 (.loc 45) (.loc 48), none⟩,
               ⟨(some 50), false, .load 1 false (.loc 49), none⟩,
               ⟨(some 51), false, .conv (.toInt .u64) (.loc 50), none⟩,
               ⟨(some 52), false, .bin .other .add (.loc 44) (.loc 51), none⟩,
               ⟨(some 53), false, .bin .other .add (.loc 39) (.loc 52), none⟩,
               ⟨(some 10), true, .mv (.loc 53), none⟩]
@[simp] def r26_11 : List HOp := [⟨(some 54), false, .mv (.env 7), none⟩,
               ⟨(some 55), false, .mv (.env 8), none⟩,
               ⟨(some 56), false, .mv (.env 11), none⟩,
               ⟨(some 57), false, .bin .other .add (.loc 55) (.loc 56), none⟩,
               ⟨(some 58), false, .mv (.env 10), none⟩,
               ⟨(some 59), false, .conv (.toInt .u32) (.loc 58), none⟩,
               ⟨(some 60), false, .iaddr 1 (.loc 54) (.loc 57), none⟩,
               ⟨none, false, .store 1 (.loc 60) (.loc 59), none⟩]
@[simp] def r26_12 : List HOp := [⟨(some 61), false, .mv (.env 10), none⟩,
              ⟨(some 62), false, .bin .other .shr (.loc 61) (.val (.tr (.sc (.int .u64 32)))), none⟩,
              ⟨(some 10), true, .mv (.loc 62), none⟩]
@[simp] def r26_13 : List HOp := [⟨(some 63), false, .bin .other .add (.env 34) (.val (.tr (.sc (.int .i64 1)))), none⟩,
            ⟨(some 34), true, .mv (.loc 63), none⟩]
@[simp] def r26_14 : List HOp := [⟨(some 64), false, .mv (.env 7), none⟩,
         ⟨(some 65), false, .mv (.env 8), none⟩,
         ⟨(some 66), false, .mv (.env 6), none⟩,
         ⟨(some 67), false, .len 1 (.loc 66), none⟩,
         ⟨(some 68), false, .bin .other .add (.loc 65) (.loc 67), none⟩,
         ⟨(some 69), false, .mv (.env 10), none⟩,
         ⟨(some 70), false, .conv (.toInt .u32) (.loc 69), none⟩,
         ⟨(some 71), false, .iaddr 1 (.loc 64) (.loc 68), none⟩,
         ⟨none, false, .store 1 (.loc 71) (.loc 70), none⟩]
@[simp] def r26_15 : List HOp := [⟨(some 72), false, .bin .other .add (.env 27) (.val (.tr (.sc (.int .i64 1)))), none⟩,
       ⟨(some 27), true, .mv (.loc 72), none⟩]
@[simp] def r26_16 : List HOp := [⟨(some 73), false, .faddr 0 (.env 2), none⟩,
     ⟨(some 74), false, .load 1 false (.loc 73), none⟩,
     ⟨(some 75), false, .faddr 0 (.env 3), none⟩,
     ⟨(some 76), false, .load 1 false (.loc 75), none⟩,
     ⟨(some 77), false, .bin .bool .neq (.loc 74) (.loc 76), none⟩,
     ⟨(some 78), false, .mv (.env 7), none⟩,
     ⟨(some 79), false, .callf 36 [(.loc 77), (.loc 78)], none⟩,
     ⟨none, false, .store 2 (.env 4) (.loc 79), none⟩]
@[simp] def k26_14 : HCode := .seq (.region r26_11 none) (.region r26_12 none)
@[simp] def k26_13 : HCode := .seq (.region r26_10 none) k26_14
def k26_12 : HCode := .seq (.block 3 (.seq (.region r26_9 none) k26_13)) (.region r26_13 none)
@[simp] def k26_11 : HCode := .seq (.cond (.loc 35) .skip (.exit 2)) k26_12
def k26_10 : HCode := .seq (.region r26_8 none) k26_11
@[simp] def k26_9 : HCode := .block 2 (.loop k26_10)
def k26_15 : HCode := .region r26_14 none
@[simp] def k26_8 : HCode := .seq (.seq (.region r26_7 none) k26_9) k26_15
@[simp] def k26_7 : HCode := .seq (.region r26_6 none) k26_8
def k26_16 : HCode := .region r26_15 none
def k26_6 : HCode := .seq (.block 1 (.seq (.region r26_5 none) k26_7)) k26_16
@[simp] def k26_5 : HCode := .seq (.cond (.loc 28) .skip (.exit 0)) k26_6
def k26_4 : HCode := .seq (.region r26_4 none) k26_5
@[simp] def k26_3 : HCode := .block 0 (.loop k26_4)
def k26_17 : HCode := .seq (.region r26_16 none) .ret
@[simp] def k26_2 : HCode := .seq (.seq (.region r26_3 none) k26_3) k26_17
@[simp] def k26_1 : HCode := .seq (.region r26_2 none) k26_2
@[simp] def k26_0 : HCode := .seq (.region r26_1 (some [ ( 0, [ 2 ] ) , ( 0, [ 13 ] ) , ( 2, [ 14 ] ) , ( 0, [ 3 ] ) , ( 0, [ 16 ] ) , ( 2, [ 17 ] ) , ( 0, [ 15 ] ) , ( 0, [ 18 ] ) ])) k26_1
@[simp] def fn26 : HFn := { nargs := 2, results := [.cell 4 2 true], mode := .iso, code := (.seq (.region r26_0 none) k26_0) }
theorem c26 : cFn Tryd.prog (Hs 26) .iso 26 = some fn26 := by kernel_rfl
/- sterling/ratio.Whole -/
@[simp] def r28_0 : List HOp := [⟨(some 1), true, .box true (.env 0), none⟩,
     ⟨(some 2), true, .alloc [(.sc (.bool false)), (.sc (.slice none 0 0)), (.sc (.bool false)), (.sc (.slice none 0 0))], none⟩]
@[simp] def r28_1 : List HOp := [⟨(some 3), false, .ldt 2 true (.env 1), none⟩,
     ⟨(some 4), false, .callf 24 [(.val (.tr (.sc (.int .i64 1))))], none⟩,
     ⟨(some 5), false, .callf 45 [(.loc 3), (.loc 4)], none⟩,
     ⟨none, false, .store 4 (.env 2) (.loc 5), none⟩]
@[simp] def k28_0 : HCode := .seq (.region r28_1 (some [ ( 0, [ 1 ] ) , ( 2, [ ] ) , ( 2, [ 3, 4 ] ) , ( 2, [ 2, 5 ] ) ])) .ret
@[simp] def fn28 : HFn := { nargs := 1, results := [.cell 2 4 true], mode := .iso, code := (.seq (.region r28_0 none) k28_0) }
theorem c28 : cFn Tryd.prog (Hs 28) .iso 28 = some fn28 := by kernel_rfl
/- sterling/ratio.made -/
@[simp] def r45_0 : List HOp := [⟨(some 2), true, .box false (.env 0), none⟩,
     ⟨(some 3), true, .box false (.env 1), none⟩,
     ⟨(some 4), true, .alloc [(.sc (.bool false)), (.sc (.slice none 0 0)), (.sc (.bool false)), (.sc (.slice none 0 0))], none⟩]
@[simp] def r45_1 : List HOp := [⟨(some 6), false, .load 2 true (.env 3), none⟩,
      ⟨(some 7), false, .callf 65 [(.loc 6)], none⟩]
@[simp] def r45_2 : List HOp := [⟨(some 8), false, .callf 24 [(.val (.tr (.sc (.int .i64 1))))], none⟩,
      ⟨none, false, .store 2 (.env 3) (.loc 8), none⟩]
@[simp] def r45_3 : List HOp := [⟨(some 9), false, .load 2 true (.env 3), none⟩,
      ⟨(some 10), false, .callf 24 [(.val (.tr (.sc (.int .i64 0))))], none⟩,
      ⟨(some 11), false, .callf 62 [(.loc 9), (.loc 10)], none⟩,
      ⟨(some 12), false, .bin .other .lss (.loc 11) (.val (.tr (.sc (.int .i64 0)))), none⟩]
@[simp] def r45_4 : List HOp := [⟨(some 13), false, .load 2 true (.env 2), none⟩,
      ⟨(some 14), false, .callf 55 [(.loc 13)], none⟩,
      ⟨(some 15), false, .load 2 true (.env 3), none⟩,
      ⟨(some 16), false, .callf 55 [(.loc 15)], none⟩,
      ⟨none, false, .store 2 (.env 2) (.loc 14), none⟩,
      ⟨none, false, .store 2 (.env 3) (.loc 16), none⟩]
@[simp] def r45_5 : List HOp := [⟨(some 17), false, .load 2 true (.env 2), none⟩,
      ⟨(some 18), false, .callf 65 [(.loc 17)], none⟩]
@[simp] def r45_6 : List HOp := [⟨(some 19), false, .callf 24 [(.val (.tr (.sc (.int .i64 1))))], none⟩,
       ⟨(some 20), false, .build [(.sc (.bool false)), (.sc (.slice none 0 0)), (.sc (.bool false)), (.sc (.slice none 0 0))] [(2, 2, (.loc 19))], none⟩,
       ⟨none, false, .store 4 (.env 4) (.loc 20), none⟩]
@[simp] def r45_7 : List HOp := [⟨(some 21), false, .load 2 true (.env 2), none⟩,
     ⟨(some 22), false, .load 2 true (.env 3), none⟩,
     ⟨(some 23), false, .callf 66 [(.loc 21), (.loc 22)], none⟩,
     ⟨(some 5), true, .alloc [(.sc (.bool false)), (.sc (.slice none 0 0))], none⟩,
     ⟨none, false, .store 2 (.env 5) (.loc 23), none⟩]
@[simp] def r45_8 : List HOp := [⟨(some 25), false, .load 2 true (.env 2), none⟩,
     ⟨(some 26), false, .load 2 true (.env 5), none⟩,
     ⟨(some 27), false, .callf 47 [(.loc 25), (.loc 26)], none⟩,
     ⟨(some 24), false, .mv (.loc 27), none⟩,
     ⟨(some 28), false, .extract (.loc 24) 0, none⟩,
     ⟨(some 29), false, .extract (.loc 24) 1, none⟩,
     ⟨(some 30), false, .extract (.loc 24) 2, none⟩,
     ⟨none, false, .store 2 (.env 2) (.loc 28), none⟩]
@[simp] def r45_9 : List HOp := [⟨(some 32), false, .load 2 true (.env 3), none⟩,
     ⟨(some 33), false, .load 2 true (.env 5), none⟩,
     ⟨(some 34), false, .callf 47 [(.loc 32), (.loc 33)], none⟩,
     ⟨(some 31), false, .mv (.loc 34), none⟩,
     ⟨(some 35), false, .extract (.loc 31) 0, none⟩,
     ⟨(some 36), false, .extract (.loc 31) 1, none⟩,
     ⟨(some 37), false, .extract (.loc 31) 2, none⟩,
     ⟨none, false, .store 2 (.env 3) (.loc 35), none⟩]
@[simp] def r45_10 : List HOp := [⟨(some 38), false, .load 2 true (.env 2), none⟩,
     ⟨(some 39), false, .load 2 true (.env 3), none⟩,
     ⟨(some 40), false, .build [(.sc (.bool false)), (.sc (.slice none 0 0)), (.sc (.bool false)), (.sc (.slice none 0 0))] [(0, 2, (.loc 38)), (2, 2, (.loc 39))], none⟩,
     ⟨none, false, .store 4 (.env 4) (.loc 40), none⟩]
@[simp] def k45_1 : HCode := .cond (.loc 7) (.region r45_2 none) .skip
@[simp] def k45_3 : HCode := .cond (.loc 12) (.region r45_4 (some [ ( 1, [ 2 ] ) , ( 1, [ 13 ] ) , ( 1, [ 3 ] ) , ( 2, [ 15 ] ) , ( 2, [ 2, 14 ] ) , ( 2, [ 3, 16 ] ) ])) .skip
@[simp] def k45_6 : HCode := .seq (.region r45_6 none) .ret
@[simp] def k45_5 : HCode := .cond (.loc 18) k45_6 .skip
@[simp] def k45_10 : HCode := .seq (.region r45_10 none) .ret
@[simp] def k45_9 : HCode := .seq (.region r45_9 none) k45_10
@[simp] def k45_8 : HCode := .seq (.region r45_8 none) k45_9
def k45_7 : HCode := .seq (.region r45_7 none) k45_8
def k45_4 : HCode := .seq (.seq (.region r45_5 none) k45_5) k45_7
def k45_2 : HCode := .seq (.seq (.region r45_3 (some [ ( 5, [ 3 ] ) , ( 2, [ ] ) , ( 2, [ 9, 10 ] ) , ( 0, [ 11 ] ) ])) k45_3) k45_4
@[simp] def k45_0 : HCode := .seq (.seq (.region r45_1 none) k45_1) k45_2
@[simp] def fn45 : HFn := { nargs := 2, results := [.cell 4 4 true], mode := .iso, code := (.seq (.region r45_0 none) k45_0) }
theorem c45 : cFn Tryd.prog (Hs 45) .iso 45 = some fn45 := by kernel_rfl
/- sterling/ratio.zero -/
@[simp] def r65_0 : List HOp := [⟨(some 1), true, .box true (.env 0), none⟩,
     ⟨(some 2), true, .mv (.val (.tr (.sc (.bool false)))), none⟩]
@[simp] def r65_1 : List HOp := [⟨(some 3), false, .load 2 true (.env 1), none⟩,
     ⟨(some 4), false, .callf 59 [(.loc 3)], none⟩,
     ⟨(some 5), false, .bin .other .eql (.loc 4) (.val (.tr (.sc (.int .i64 0)))), none⟩,
     ⟨(some 2), true, .mv (.loc 5), none⟩]
@[simp] def k65_0 : HCode := .seq (.region r65_1 none) .ret
@[simp] def fn65 : HFn := { nargs := 1, results := [.tmp 2], mode := .iso, code := (.seq (.region r65_0 none) k65_0) }
theorem c65 : cFn Tryd.prog (Hs 65) .iso 65 = some fn65 := by kernel_rfl
/- sterling/bigint.Bits -/
@[simp] def r59_0 : List HOp := [⟨(some 1), true, .box true (.env 0), none⟩,
     ⟨(some 2), true, .mv (.val (.tr (.sc (.int .i64 0)))), none⟩]
@[simp] def r59_1 : List HOp := [⟨(some 4), false, .faddr 1 (.env 1), none⟩,
     ⟨(some 5), false, .load 1 false (.loc 4), none⟩,
     ⟨(some 6), false, .callf 40 [(.loc 5)], none⟩,
     ⟨(some 3), true, .mv (.loc 6), none⟩]
@[simp] def r59_2 : List HOp := [⟨(some 7), false, .mv (.env 3), none⟩,
      ⟨(some 8), false, .len 1 (.loc 7), none⟩,
      ⟨(some 9), false, .bin .other .eql (.loc 8) (.val (.tr (.sc (.int .i64 0)))), none⟩]
@[simp] def r59_3 : List HOp := [⟨(some 2), true, .mv (.val (.tr (.sc (.int .i64 0)))), none⟩]
@[simp] def r59_4 : List HOp := [⟨(some 10), false, .mv (.env 3), none⟩,
     ⟨(some 11), false, .len 1 (.loc 10), none⟩,
     ⟨(some 12), false, .bin .other .sub (.loc 11) (.val (.tr (.sc (.int .i64 1)))), none⟩,
     ⟨(some 13), false, .bin .other .mul (.val (.tr (.sc (.int .i64 32)))) (.loc 12), none⟩,
     ⟨(some 14), false, .mv (.env 3), none⟩,
     ⟨(some 15), false, .mv (.env 3), none⟩,
     ⟨(some 16), false, .len 1 (.loc 15), none⟩,
     ⟨(some 17), false, .bin .other .sub (.loc 16) (.val (.tr (.sc (.int .i64 1)))), none⟩,
     ⟨(some 18), false, .iaddr 1 (.loc 14) (.loc 17), none⟩,
     ⟨(some 19), false, .load 1 false (.loc 18), none⟩,
     ⟨(some 20), false, .callf 81 [(.loc 19)], none⟩,
     ⟨(some 21), false, .bin .other .add (.loc 13) (.loc 20), none⟩,
     ⟨(some 2), true, .mv (.loc 21), none⟩]
@[simp] def k59_3 : HCode := .seq (.region r59_3 none) .ret
@[simp] def k59_2 : HCode := .cond (.loc 9) k59_3 .skip
def k59_4 : HCode := .seq (.region r59_4 none) .ret
@[simp] def k59_1 : HCode := .seq (.seq (.region r59_2 none) k59_2) k59_4
@[simp] def k59_0 : HCode := .seq (.region r59_1 none) k59_1
@[simp] def fn59 : HFn := { nargs := 1, results := [.tmp 2], mode := .iso, code := (.seq (.region r59_0 none) k59_0) }
theorem c59 : cFn Tryd.prog (Hs 59) .iso 59 = some fn59 := by kernel_rfl
/- math/bits.Len32 -/
@[simp] def r81_0 : List HOp := [⟨(some 2), true, .mv (.val (.tr (.sc (.int .i64 0)))), none⟩]
@[simp] def r81_1 : List HOp := [⟨(some 3), false, .mv (.env 0), none⟩,
      ⟨(some 4), false, .bin .other .geq (.loc 3) (.val (.tr (.sc (.int .u32 65536)))), none⟩]
@[simp] def r81_2 : List HOp := [⟨(some 5), false, .mv (.env 0), none⟩,
       ⟨(some 6), false, .bin .other .shr (.loc 5) (.val (.tr (.sc (.int .u64 16)))), none⟩,
       ⟨(some 0), true, .mv (.loc 6), none⟩]
@[simp] def r81_3 : List HOp := [⟨(some 2), true, .mv (.val (.tr (.sc (.int .i64 16)))), none⟩]
@[simp] def r81_4 : List HOp := [⟨(some 7), false, .mv (.env 0), none⟩,
      ⟨(some 8), false, .bin .other .geq (.loc 7) (.val (.tr (.sc (.int .u32 256)))), none⟩]
@[simp] def r81_5 : List HOp := [⟨(some 9), false, .mv (.env 0), none⟩,
       ⟨(some 10), false, .bin .other .shr (.loc 9) (.val (.tr (.sc (.int .u64 8)))), none⟩,
       ⟨(some 0), true, .mv (.loc 10), none⟩]
@[simp] def r81_6 : List HOp := [⟨(some 11), false, .mv (.env 2), none⟩,
      ⟨(some 12), false, .bin .other .add (.loc 11) (.val (.tr (.sc (.int .i64 8)))), none⟩,
      ⟨(some 2), true, .mv (.loc 12), none⟩]
@[simp] def r81_7 : List HOp := [⟨(some 13), false, .mv (.env 2), none⟩,
     ⟨(some 14), false, .mv (.env 0), none⟩,
     ⟨(some 15), false, .conv (.toInt .u8) (.loc 14), none⟩,
     ⟨(some 16), false, .istr (.val (.tr (.sc (.string ⟨⟨[0, 1, 2, 2, 3, 3, 3, 3, 4, 4, 4, 4, 4, 4, 4, 4, 5, 5, 5, 5, 5, 5, 5, 5, 5, 5, 5, 5, 5, 5, 5, 5, 6, 6, 6, 6, 6, 6, 6, 6, 6, 6, 6, 6, 6, 6, 6, 6, 6, 6, 6, 6, 6, 6, 6, 6, 6, 6, 6, 6, 6, 6, 6, 6, 7, 7, 7, 7, 7, 7, 7, 7, 7, 7, 7, 7, 7, 7, 7, 7, 7, 7, 7, 7, 7, 7, 7, 7, 7, 7, 7, 7, 7, 7, 7, 7, 7, 7, 7, 7, 7, 7, 7, 7, 7, 7, 7, 7, 7, 7, 7, 7, 7, 7, 7, 7, 7, 7, 7, 7, 7, 7, 7, 7, 7, 7, 7, 7, 8, 8, 8, 8, 8, 8, 8, 8, 8, 8, 8, 8, 8, 8, 8, 8, 8, 8, 8, 8, 8, 8, 8, 8, 8, 8, 8, 8, 8, 8, 8, 8, 8, 8, 8, 8, 8, 8, 8, 8, 8, 8, 8, 8, 8, 8, 8, 8, 8, 8, 8, 8, 8, 8, 8, 8, 8, 8, 8, 8, 8, 8, 8, 8, 8, 8, 8, 8, 8, 8, 8, 8, 8, 8, 8, 8, 8, 8, 8, 8, 8, 8, 8, 8, 8, 8, 8, 8, 8, 8, 8, 8, 8, 8, 8, 8, 8, 8, 8, 8, 8, 8, 8, 8, 8, 8, 8, 8, 8, 8, 8, 8, 8, 8, 8, 8, 8, 8, 8, 8, 8, 8, 8, 8, 8, 8, 8, 8]⟩⟩)))) (.loc 15), none⟩,
     ⟨(some 17), false, .conv (.toInt .i64) (.loc 16), none⟩,
     ⟨(some 18), false, .bin .other .add (.loc 13) (.loc 17), none⟩,
     ⟨(some 2), true, .mv (.loc 18), none⟩]
@[simp] def k81_2 : HCode := .seq (.region r81_2 none) (.region r81_3 none)
@[simp] def k81_1 : HCode := .cond (.loc 4) k81_2 .skip
@[simp] def k81_5 : HCode := .seq (.region r81_5 none) (.region r81_6 none)
@[simp] def k81_4 : HCode := .cond (.loc 8) k81_5 .skip
def k81_6 : HCode := .seq (.region r81_7 none) .ret
def k81_3 : HCode := .seq (.seq (.region r81_4 none) k81_4) k81_6
@[simp] def k81_0 : HCode := .seq (.seq (.region r81_1 none) k81_1) k81_3
@[simp] def fn81 : HFn := { nargs := 1, results := [.tmp 2], mode := .iso, code := (.seq (.region r81_0 none) k81_0) }
theorem c81 : cFn Tryd.prog (Hs 81) .iso 81 = some fn81 := by kernel_rfl
/- sterling/bigint.Cmp -/
@[simp] def r62_0 : List HOp := [⟨(some 2), true, .box true (.env 0), none⟩,
     ⟨(some 3), true, .box true (.env 1), none⟩,
     ⟨(some 4), true, .mv (.val (.tr (.sc (.int .i64 0)))), none⟩]
@[simp] def r62_1 : List HOp := [⟨(some 6), false, .load 2 true (.env 2), none⟩,
       ⟨(some 7), false, .callf 82 [(.loc 6)], none⟩,
       ⟨(some 8), false, .mv (.loc 7), none⟩,
       ⟨(some 9), false, .load 2 true (.env 3), some ((.loc 8), true)⟩,
       ⟨(some 10), false, .callf 82 [(.loc 9)], some ((.loc 8), true)⟩,
       ⟨(some 11), false, .pick (.loc 8) (.loc 10) (.val (.tr (.sc (.bool false)))), none⟩,
       ⟨(some 5), false, .mv (.loc 11), none⟩]
@[simp] def r62_2 : List HOp := [⟨(some 12), false, .faddr 1 (.env 3), none⟩,
        ⟨(some 13), false, .load 1 false (.loc 12), none⟩,
        ⟨(some 14), false, .faddr 1 (.env 2), none⟩,
        ⟨(some 15), false, .load 1 false (.loc 14), none⟩,
        ⟨(some 16), false, .callf 38 [(.loc 13), (.loc 15)], none⟩,
        ⟨(some 4), true, .mv (.loc 16), none⟩]
@[simp] def r62_3 : List HOp := [⟨(some 18), false, .load 2 true (.env 2), none⟩,
        ⟨(some 19), false, .callf 82 [(.loc 18)], none⟩,
        ⟨(some 17), false, .mv (.loc 19), none⟩]
@[simp] def r62_4 : List HOp := [⟨(some 4), true, .mv (.val (.tr (.sc (.int .i64 (-1))))), none⟩]
@[simp] def r62_5 : List HOp := [⟨(some 21), false, .load 2 true (.env 3), none⟩,
         ⟨(some 22), false, .callf 82 [(.loc 21)], none⟩,
         ⟨(some 20), false, .mv (.loc 22), none⟩]
@[simp] def r62_6 : List HOp := [⟨(some 4), true, .mv (.val (.tr (.sc (.int .i64 1)))), none⟩]
@[simp] def r62_7 : List HOp := [⟨(some 23), false, .faddr 1 (.env 2), none⟩,
     ⟨(some 24), false, .load 1 false (.loc 23), none⟩,
     ⟨(some 25), false, .faddr 1 (.env 3), none⟩,
     ⟨(some 26), false, .load 1 false (.loc 25), none⟩,
     ⟨(some 27), false, .callf 38 [(.loc 24), (.loc 26)], none⟩,
     ⟨(some 4), true, .mv (.loc 27), none⟩]
@[simp] def k62_2 : HCode := .seq (.region r62_2 none) .ret
@[simp] def k62_5 : HCode := .seq (.region r62_4 none) .ret
@[simp] def k62_8 : HCode := .seq (.region r62_6 none) .ret
@[simp] def k62_7 : HCode := .cond (.loc 20) k62_8 .skip
@[simp] def k62_6 : HCode := .seq (.region r62_5 none) k62_7
@[simp] def k62_4 : HCode := .cond (.loc 17) k62_5 k62_6
@[simp] def k62_3 : HCode := .seq (.region r62_3 none) k62_4
@[simp] def k62_1 : HCode := .cond (.loc 5) k62_2 k62_3
def k62_9 : HCode := .seq (.region r62_7 none) .ret
@[simp] def k62_0 : HCode := .seq (.block 0 (.seq (.region r62_1 none) k62_1)) k62_9
@[simp] def fn62 : HFn := { nargs := 2, results := [.tmp 4], mode := .iso, code := (.seq (.region r62_0 none) k62_0) }
theorem c62 : cFn Tryd.prog (Hs 62) .iso 62 = some fn62 := by kernel_rfl
/- sterling/bigint.below -/
@[simp] def r82_0 : List HOp := [⟨(some 1), true, .box true (.env 0), none⟩,
     ⟨(some 2), true, .mv (.val (.tr (.sc (.bool false)))), none⟩]
@[simp] def r82_1 : List HOp := [⟨(some 3), false, .faddr 0 (.env 1), none⟩,
     ⟨(some 4), false, .load 1 false (.loc 3), none⟩,
     ⟨(some 5), false, .mv (.loc 4), none⟩,
     ⟨(some 6), false, .faddr 1 (.env 1), some ((.loc 5), true)⟩,
     ⟨(some 7), false, .load 1 false (.loc 6), some ((.loc 5), true)⟩,
     ⟨(some 8), false, .callf 40 [(.loc 7)], some ((.loc 5), true)⟩,
     ⟨(some 9), false, .len 1 (.loc 8), some ((.loc 5), true)⟩,
     ⟨(some 10), false, .bin .other .gtr (.loc 9) (.val (.tr (.sc (.int .i64 0)))), some ((.loc 5), true)⟩,
     ⟨(some 11), false, .pick (.loc 5) (.loc 10) (.val (.tr (.sc (.bool false)))), none⟩,
     ⟨(some 2), true, .mv (.loc 11), none⟩]
@[simp] def k82_0 : HCode := .seq (.region r82_1 none) .ret
@[simp] def fn82 : HFn := { nargs := 1, results := [.tmp 2], mode := .iso, code := (.seq (.region r82_0 none) k82_0) }
theorem c82 : cFn Tryd.prog (Hs 82) .iso 82 = some fn82 := by kernel_rfl
/- sterling/ratio.gcd -/
@[simp] def r66_0 : List HOp := [⟨(some 2), true, .box false (.env 0), none⟩,
     ⟨(some 3), true, .box false (.env 1), none⟩,
     ⟨(some 4), true, .alloc [(.sc (.bool false)), (.sc (.slice none 0 0))], none⟩]
@[simp] def r66_1 : List HOp := [⟨(some 8), false, .load 2 true (.env 3), none⟩,
         ⟨(some 9), false, .callf 65 [(.loc 8)], none⟩,
         ⟨(some 10), false, .un .not (.loc 9), none⟩]
@[simp] def r66_2 : List HOp := [⟨(some 12), false, .load 2 true (.env 2), none⟩,
         ⟨(some 13), false, .load 2 true (.env 3), none⟩,
         ⟨(some 14), false, .callf 47 [(.loc 12), (.loc 13)], none⟩,
         ⟨(some 11), false, .mv (.loc 14), none⟩,
         ⟨(some 15), false, .extract (.loc 11) 0, none⟩,
         ⟨(some 16), false, .extract (.loc 11) 1, none⟩,
         ⟨(some 17), false, .extract (.loc 11) 2, none⟩,
         ⟨(some 5), false, .alloc [(.sc (.bool false)), (.sc (.slice none 0 0))], none⟩,
         ⟨(some 6), true, .alloc [(.sc (.bool false)), (.sc (.slice none 0 0))], none⟩,
         ⟨none, false, .store 2 (.loc 5) (.loc 15), none⟩,
         ⟨none, false, .store 2 (.env 6) (.loc 16), none⟩,
         ⟨(some 7), false, .mv (.loc 17), none⟩]
@[simp] def r66_3 : List HOp := [⟨(some 18), false, .load 2 true (.env 3), none⟩,
        ⟨(some 19), false, .load 2 true (.env 6), none⟩,
        ⟨none, false, .store 2 (.env 2) (.loc 18), none⟩,
        ⟨none, false, .store 2 (.env 3) (.loc 19), none⟩]
@[simp] def r66_4 : List HOp := [⟨(some 20), false, .faddr 0 (.env 2), none⟩,
     ⟨none, false, .store 1 (.loc 20) (.val (.tr (.sc (.bool false)))), none⟩]
@[simp] def r66_5 : List HOp := [⟨(some 21), false, .load 2 true (.env 2), none⟩,
     ⟨none, false, .store 2 (.env 4) (.loc 21), none⟩]
@[simp] def k66_2 : HCode := .cond (.loc 10) .skip (.exit 0)
def k66_3 : HCode := .block 1 (.seq (.region r66_2 none) (.region r66_3 (some [ ( 1, [ 3 ] ) , ( 6, [ 6 ] ) , ( 2, [ 2, 18 ] ) , ( 2, [ 3, 19 ] ) ])))
def k66_1 : HCode := .seq (.seq (.region r66_1 none) k66_2) k66_3
@[simp] def k66_5 : HCode := .seq (.region r66_5 none) .ret
def k66_4 : HCode := .seq (.region r66_4 none) k66_5
@[simp] def k66_0 : HCode := .seq (.block 0 (.loop k66_1)) k66_4
@[simp] def fn66 : HFn := { nargs := 2, results := [.cell 4 2 true], mode := .iso, code := (.seq (.region r66_0 none) k66_0) }
theorem c66 : cFn Tryd.prog (Hs 66) .iso 66 = some fn66 := by kernel_rfl
/- sterling/bigint.Quo -/
@[simp] def r47_0 : List HOp := [⟨(some 2), true, .box true (.env 0), none⟩,
     ⟨(some 3), true, .box true (.env 1), none⟩,
     ⟨(some 4), true, .alloc [(.sc (.bool false)), (.sc (.slice none 0 0))], none⟩,
     ⟨(some 5), true, .alloc [(.sc (.bool false)), (.sc (.slice none 0 0))], none⟩,
     ⟨(some 6), true, .mv (.val (.tr (.sc (.bool false)))), none⟩]
@[simp] def r47_1 : List HOp := [⟨(some 11), false, .faddr 1 (.env 2), none⟩,
     ⟨(some 12), false, .ldt 1 false (.loc 11), none⟩,
     ⟨(some 13), false, .callf 40 [(.loc 12)], none⟩,
     ⟨(some 14), false, .faddr 1 (.env 3), none⟩,
     ⟨(some 15), false, .ldt 1 false (.loc 14), none⟩,
     ⟨(some 16), false, .callf 40 [(.loc 15)], none⟩,
     ⟨(some 7), true, .mv (.loc 13), none⟩,
     ⟨(some 8), true, .mv (.loc 16), none⟩]
@[simp] def r47_2 : List HOp := [⟨(some 9), true, .mv (.val (.tr (.sc (.slice none 0 0)))), none⟩,
     ⟨(some 10), true, .mv (.val (.tr (.sc (.slice none 0 0)))), none⟩]
@[simp] def r47_3 : List HOp := [⟨(some 24), false, .mv (.env 8), none⟩,
       ⟨(some 25), false, .len 1 (.loc 24), none⟩,
       ⟨(some 26), false, .bin .other .eql (.loc 25) (.val (.tr (.sc (.int .i64 0)))), none⟩,
       ⟨(some 23), false, .mv (.loc 26), none⟩]
@[simp] def r47_4 : List HOp := [⟨(some 27), false, .build [(.sc (.bool false)), (.sc (.slice none 0 0))] [], none⟩,
        ⟨(some 28), false, .build [(.sc (.bool false)), (.sc (.slice none 0 0))] [], none⟩,
        ⟨none, false, .store 2 (.env 4) (.loc 27), none⟩,
        ⟨none, false, .store 2 (.env 5) (.loc 28), none⟩,
        ⟨(some 6), true, .mv (.val (.tr (.sc (.bool false)))), none⟩]
@[simp] def r47_5 : List HOp := [⟨(some 30), false, .mv (.env 7), none⟩,
        ⟨(some 31), false, .mv (.env 8), none⟩,
        ⟨(some 32), false, .callf 38 [(.loc 30), (.loc 31)], none⟩,
        ⟨(some 33), false, .bin .other .lss (.loc 32) (.val (.tr (.sc (.int .i64 0)))), none⟩,
        ⟨(some 29), false, .mv (.loc 33), none⟩]
@[simp] def r47_6 : List HOp := [⟨(some 34), false, .mv (.env 7), none⟩,
        ⟨(some 10), true, .mv (.loc 34), none⟩]
@[simp] def r47_7 : List HOp := [⟨(some 36), false, .mv (.env 8), none⟩,
         ⟨(some 37), false, .len 1 (.loc 36), none⟩,
         ⟨(some 38), false, .bin .other .eql (.loc 37) (.val (.tr (.sc (.int .i64 1)))), none⟩,
         ⟨(some 35), false, .mv (.loc 38), none⟩]
@[simp] def r47_8 : List HOp := [⟨(some 39), false, .mv (.env 7), none⟩,
          ⟨(some 40), false, .callf 57 [(.loc 39)], none⟩,
          ⟨(some 9), true, .mv (.loc 40), none⟩]
@[simp] def r47_9 : List HOp := [⟨(some 41), false, .mv (.env 9), none⟩,
         ⟨(some 42), false, .mv (.env 8), none⟩,
         ⟨(some 43), false, .iaddr 1 (.loc 42) (.val (.tr (.sc (.int .i64 0)))), none⟩,
         ⟨(some 44), false, .load 1 false (.loc 43), none⟩,
         ⟨(some 45), false, .callf 69 [(.loc 41), (.loc 44)], none⟩,
         ⟨(some 46), false, .bslice false 1 1 [(.sc (.int .u32 0))] [(0, 1, (.loc 45))], none⟩,
         ⟨(some 10), true, .mv (.loc 46), none⟩]
@[simp] def r47_10 : List HOp := [⟨(some 18), false, .mv (.env 7), none⟩,
         ⟨(some 19), false, .mv (.env 8), none⟩,
         ⟨(some 20), false, .callf 70 [(.loc 18), (.loc 19)], none⟩,
         ⟨(some 17), false, .mv (.loc 20), none⟩,
         ⟨(some 21), false, .extract (.loc 17) 0, none⟩,
         ⟨(some 22), false, .extract (.loc 17) 1, none⟩,
         ⟨(some 9), true, .mv (.loc 21), none⟩,
         ⟨(some 10), true, .mv (.loc 22), none⟩]
@[simp] def r47_11 : List HOp := [⟨(some 47), false, .faddr 0 (.env 2), none⟩,
     ⟨(some 48), false, .ldt 1 false (.loc 47), none⟩,
     ⟨(some 49), false, .faddr 0 (.env 3), none⟩,
     ⟨(some 50), false, .ldt 1 false (.loc 49), none⟩,
     ⟨(some 51), false, .bin .bool .neq (.loc 48) (.loc 50), none⟩,
     ⟨(some 52), false, .mv (.env 9), none⟩,
     ⟨(some 53), false, .callf 36 [(.loc 51), (.loc 52)], none⟩,
     ⟨(some 54), false, .faddr 0 (.env 2), none⟩,
     ⟨(some 55), false, .ldt 1 false (.loc 54), none⟩,
     ⟨(some 56), false, .mv (.env 10), none⟩,
     ⟨(some 57), false, .callf 36 [(.loc 55), (.loc 56)], none⟩,
     ⟨none, false, .store 2 (.env 4) (.loc 53), none⟩,
     ⟨none, false, .store 2 (.env 5) (.loc 57), none⟩,
     ⟨(some 6), true, .mv (.val (.tr (.sc (.bool true)))), none⟩]
@[simp] def k47_4 : HCode := .seq (.region r47_4 none) .ret
@[simp] def k47_9 : HCode := .seq (.region r47_8 none) (.region r47_9 none)
@[simp] def k47_8 : HCode := .cond (.loc 35) k47_9 (.region r47_10 none)
@[simp] def k47_7 : HCode := .seq (.region r47_7 none) k47_8
@[simp] def k47_6 : HCode := .cond (.loc 29) (.region r47_6 none) k47_7
@[simp] def k47_5 : HCode := .seq (.region r47_5 none) k47_6
@[simp] def k47_3 : HCode := .cond (.loc 23) k47_4 k47_5
def k47_10 : HCode := .seq (.region r47_11 (some [ ( 0, [ 2 ] ) , ( 0, [ 47 ] ) , ( 0, [ 3 ] ) , ( 0, [ 49 ] ) , ( 0, [ 48, 50 ] ) , ( 0, [ 9 ] ) , ( 2, [ 51, 52 ] ) , ( 0, [ 2 ] ) , ( 0, [ 54 ] ) , ( 0, [ 10 ] ) , ( 2, [ 55, 56 ] ) , ( 2, [ 4, 53 ] ) , ( 2, [ 5, 57 ] ) , ( 0, [ ] ) ])) .ret
@[simp] def k47_2 : HCode := .seq (.block 0 (.seq (.region r47_3 none) k47_3)) k47_10
@[simp] def k47_1 : HCode := .seq (.region r47_2 none) k47_2
@[simp] def k47_0 : HCode := .seq (.region r47_1 (some [ ( 0, [ 2 ] ) , ( 0, [ 11 ] ) , ( 2, [ 12 ] ) , ( 0, [ 3 ] ) , ( 0, [ 14 ] ) , ( 2, [ 15 ] ) , ( 0, [ 13 ] ) , ( 0, [ 16 ] ) ])) k47_1
@[simp] def fn47 : HFn := { nargs := 2, results := [.cell 4 2 true, .cell 5 2 true, .tmp 6], mode := .iso, code := (.seq (.region r47_0 none) k47_0) }
theorem c47 : cFn Tryd.prog (Hs 47) .iso 47 = some fn47 := by kernel_rfl
/- sterling/bigint.shrink -/
@[simp] def r69_0 : List HOp := [⟨(some 4), true, .mv (.val (.tr (.sc (.int .u32 0)))), none⟩]
@[simp] def r69_1 : List HOp := [⟨(some 5), true, .mv (.val (.tr (.sc (.int .u64 0)))), none⟩]
@[simp] def r69_2 : List HOp := [⟨(some 7), false, .mv (.env 0), none⟩,
      ⟨(some 8), false, .len 1 (.loc 7), none⟩,
      ⟨(some 9), false, .bin .other .sub (.loc 8) (.val (.tr (.sc (.int .i64 1)))), none⟩,
      ⟨(some 6), true, .mv (.loc 9), none⟩]
@[simp] def r69_3 : List HOp := [⟨(some 10), false, .mv (.env 6), none⟩,
         ⟨(some 11), false, .bin .other .geq (.loc 10) (.val (.tr (.sc (.int .i64 0)))), none⟩]
@[simp] def r69_4 : List HOp := [⟨(some 14), false, .mv (.env 5), none⟩,
          ⟨(some 15), false, .bin .other .shl (.loc 14) (.val (.tr (.sc (.int .u64 32)))), none⟩,
          ⟨(some 16), false, .mv (.env 0), none⟩,
          ⟨(some 17), false, .mv (.env 6), none⟩,
          ⟨(some 18), false, .iaddr 1 (.loc 16) (.loc 17), none⟩,
          ⟨(some 19), false, .load 1 false (.loc 18), none⟩,
          ⟨(some 20), false, .conv (.toInt .u64) (.loc 19), none⟩,
          ⟨(some 21), false, .bin .other .or (.loc 15) (.loc 20), none⟩,
          ⟨(some 5), true, .mv (.loc 21), none⟩]
@[simp] def r69_5 : List HOp := [⟨(some 22), false, .mv (.env 0), none⟩,
          ⟨(some 23), false, .mv (.env 6), none⟩,
          ⟨(some 24), false, .mv (.env 5), none⟩,
          ⟨(some 25), false, .mv (.env 1), none⟩,
          ⟨(some 26), false, .conv (.toInt .u64) (.loc 25), none⟩,
          ⟨(some 27), false, .bin .other .quo (.loc 24) (.loc 26), none⟩,
          ⟨(some 28), false, .conv (.toInt .u32) (.loc 27), none⟩,
          ⟨(some 29), false, .iaddr 1 (.loc 22) (.loc 23), none⟩,
          ⟨none, false, .store 1 (.loc 29) (.loc 28), none⟩]
@[simp] def r69_6 : List HOp := [⟨(some 30), false, .mv (.env 5), none⟩,
         ⟨(some 31), false, .mv (.env 1), none⟩,
         ⟨(some 32), false, .conv (.toInt .u64) (.loc 31), none⟩,
         ⟨(some 33), false, .bin .other .rem (.loc 30) (.loc 32), none⟩,
         ⟨(some 5), true, .mv (.loc 33), none⟩]
@[simp] def r69_7 : List HOp := [⟨(some 12), false, .mv (.env 6), none⟩,
       ⟨(some 13), false, .bin .other .sub (.loc 12) (.val (.tr (.sc (.int .i64 1)))), none⟩,
       ⟨(some 6), true, .mv (.loc 13), none⟩]
@[simp] def r69_8 : List HOp := [⟨(some 34), false, .mv (.env 5), none⟩,
     ⟨(some 35), false, .conv (.toInt .u32) (.loc 34), none⟩,
     ⟨(some 4), true, .mv (.loc 35), none⟩]
@[simp] def k69_4 : HCode := .cond (.loc 11) .skip (.exit 0)
@[simp] def k69_6 : HCode := .seq (.region r69_5 none) (.region r69_6 none)
def k69_5 : HCode := .seq (.block 1 (.seq (.region r69_4 none) k69_6)) (.region r69_7 none)
def k69_3 : HCode := .seq (.seq (.region r69_3 none) k69_4) k69_5
@[simp] def k69_2 : HCode := .block 0 (.loop k69_3)
def k69_7 : HCode := .seq (.region r69_8 none) .ret
@[simp] def k69_1 : HCode := .seq (.seq (.region r69_2 none) k69_2) k69_7
@[simp] def k69_0 : HCode := .seq (.region r69_1 none) k69_1
@[simp] def fn69 : HFn := { nargs := 2, results := [.tmp 4], mode := .shared, code := (.seq (.region r69_0 none) k69_0) }
theorem c69 : cFn Tryd.prog (Hs 69) .shared 69 = some fn69 := by kernel_rfl
/- sterling/bigint.divide -/
@[simp] def r70_0 : List HOp := [⟨(some 4), true, .mv (.val (.tr (.sc (.slice none 0 0)))), none⟩,
     ⟨(some 5), true, .mv (.val (.tr (.sc (.slice none 0 0)))), none⟩]
@[simp] def r70_1 : List HOp := [⟨(some 18), false, .mv (.env 1), none⟩,
     ⟨(some 19), false, .mv (.env 1), none⟩,
     ⟨(some 20), false, .len 1 (.loc 19), none⟩,
     ⟨(some 21), false, .bin .other .sub (.loc 20) (.val (.tr (.sc (.int .i64 1)))), none⟩,
     ⟨(some 22), false, .iaddr 1 (.loc 18) (.loc 21), none⟩,
     ⟨(some 23), false, .load 1 false (.loc 22), none⟩,
     ⟨(some 24), false, .callf 87 [(.loc 23)], none⟩,
     ⟨(some 6), true, .mv (.loc 24), none⟩]
@[simp] def r70_2 : List HOp := [⟨(some 25), false, .mv (.env 0), none⟩,
     ⟨(some 26), false, .mv (.env 6), none⟩,
     ⟨(some 27), false, .callf 88 [(.loc 25), (.loc 26)], none⟩,
     ⟨(some 28), false, .mv (.env 1), none⟩,
     ⟨(some 29), false, .mv (.env 6), none⟩,
     ⟨(some 30), false, .callf 88 [(.loc 28), (.loc 29)], none⟩,
     ⟨(some 31), false, .callf 40 [(.loc 30)], none⟩,
     ⟨(some 7), true, .mv (.loc 27), none⟩,
     ⟨(some 8), true, .mv (.loc 31), none⟩]
@[simp] def r70_3 : List HOp := [⟨(some 32), false, .mv (.env 8), none⟩,
     ⟨(some 33), false, .len 1 (.loc 32), none⟩,
     ⟨(some 9), true, .mv (.loc 33), none⟩]
@[simp] def r70_4 : List HOp := [⟨(some 34), false, .mv (.env 7), none⟩,
     ⟨(some 35), false, .len 1 (.loc 34), none⟩,
     ⟨(some 36), false, .mv (.env 9), none⟩,
     ⟨(some 37), false, .bin .other .sub (.loc 35) (.loc 36), none⟩,
     ⟨(some 38), false, .mkslice [(.sc (.int .u32 0))] 4 (.loc 37) (.loc 37), none⟩,
     ⟨(some 10), true, .mv (.loc 38), none⟩]
@[simp] def r70_5 : List HOp := [⟨(some 39), false, .mv (.env 10), none⟩,
      ⟨(some 40), false, .len 1 (.loc 39), none⟩,
      ⟨(some 41), false, .bin .other .sub (.loc 40) (.val (.tr (.sc (.int .i64 1)))), none⟩,
      ⟨(some 11), true, .mv (.loc 41), none⟩]
@[simp] def r70_6 : List HOp := [⟨(some 42), false, .mv (.env 11), none⟩,
         ⟨(some 43), false, .bin .other .geq (.loc 42) (.val (.tr (.sc (.int .i64 0)))), none⟩]
@[simp] def r70_7 : List HOp := [⟨(some 46), false, .mv (.env 7), none⟩,
          ⟨(some 47), false, .mv (.env 11), none⟩,
          ⟨(some 48), false, .mv (.env 9), none⟩,
          ⟨(some 49), false, .bin .other .add (.loc 47) (.loc 48), none⟩,
          ⟨(some 50), false, .iaddr 1 (.loc 46) (.loc 49), none⟩,
          ⟨(some 51), false, .load 1 false (.loc 50), none⟩,
          ⟨(some 52), false, .conv (.toInt .u64) (.loc 51), none⟩,
          ⟨(some 53), false, .bin .other .shl (.loc 52) (.val (.tr (.sc (.int .u64 32)))), none⟩,
          ⟨(some 54), false, .mv (.env 7), none⟩,
          ⟨(some 55), false, .mv (.env 11), none⟩,
          ⟨(some 56), false, .mv (.env 9), none⟩,
          ⟨(some 57), false, .bin .other .add (.loc 55) (.loc 56), none⟩,
          ⟨(some 58), false, .bin .other .sub (.loc 57) (.val (.tr (.sc (.int .i64 1)))), none⟩,
          ⟨(some 59), false, .iaddr 1 (.loc 54) (.loc 58), none⟩,
          ⟨(some 60), false, .load 1 false (.loc 59), none⟩,
          ⟨(some 61), false, .conv (.toInt .u64) (.loc 60), none⟩,
          ⟨(some 62), false, .bin .other .or (.loc 53) (.loc 61), none⟩,
          ⟨(some 12), true, .mv (.loc 62), none⟩]
@[simp] def r70_8 : List HOp := [⟨(some 63), false, .mv (.env 12), none⟩,
          ⟨(some 64), false, .mv (.env 8), none⟩,
          ⟨(some 65), false, .mv (.env 9), none⟩,
          ⟨(some 66), false, .bin .other .sub (.loc 65) (.val (.tr (.sc (.int .i64 1)))), none⟩,
          ⟨(some 67), false, .iaddr 1 (.loc 64) (.loc 66), none⟩,
          ⟨(some 68), false, .load 1 false (.loc 67), none⟩,
          ⟨(some 69), false, .conv (.toInt .u64) (.loc 68), none⟩,
          ⟨(some 70), false, .bin .other .quo (.loc 63) (.loc 69), none⟩,
          ⟨(some 71), false, .minmax false (.loc 70) [(.val (.tr (.sc (.int .u64 4294967295))))], none⟩,
          ⟨(some 13), true, .mv (.loc 71), none⟩]
@[simp] def r70_9 : List HOp := [⟨(some 72), false, .mv (.env 7), none⟩,
          ⟨(some 73), false, .mv (.env 11), none⟩,
          ⟨(some 74), false, .mv (.env 11), none⟩,
          ⟨(some 75), false, .mv (.env 9), none⟩,
          ⟨(some 76), false, .bin .other .add (.loc 74) (.loc 75), none⟩,
          ⟨(some 77), false, .bin .other .add (.loc 76) (.val (.tr (.sc (.int .i64 1)))), none⟩,
          ⟨(some 78), false, .slice 1 (.loc 72) (some (.loc 73)) (some (.loc 77)) none, none⟩,
          ⟨(some 14), true, .mv (.loc 78), none⟩]
@[simp] def r70_10 : List HOp := [⟨(some 79), false, .mv (.env 14), none⟩,
           ⟨(some 80), false, .mv (.env 8), none⟩,
           ⟨(some 81), false, .mv (.env 13), none⟩,
           ⟨(some 82), false, .callf 89 [(.loc 79), (.loc 80), (.loc 81)], none⟩,
           ⟨(some 15), true, .mv (.loc 82), none⟩]
@[simp] def r70_11 : List HOp := [⟨(some 83), false, .mv (.env 15), none⟩]
@[simp] def r70_12 : List HOp := [⟨(some 88), false, .mv (.env 13), none⟩,
              ⟨(some 89), false, .bin .other .sub (.loc 88) (.val (.tr (.sc (.int .u64 1)))), none⟩,
              ⟨(some 13), true, .mv (.loc 89), none⟩]
@[simp] def r70_13 : List HOp := [⟨(some 84), false, .mv (.env 14), none⟩,
            ⟨(some 85), false, .mv (.env 8), none⟩,
            ⟨(some 86), false, .callf 90 [(.loc 84), (.loc 85)], none⟩,
            ⟨(some 87), false, .un .not (.loc 86), none⟩,
            ⟨(some 15), true, .mv (.loc 87), none⟩]
@[simp] def r70_14 : List HOp := [⟨(some 90), false, .mv (.env 10), none⟩,
         ⟨(some 91), false, .mv (.env 11), none⟩,
         ⟨(some 92), false, .mv (.env 13), none⟩,
         ⟨(some 93), false, .conv (.toInt .u32) (.loc 92), none⟩,
         ⟨(some 94), false, .iaddr 1 (.loc 90) (.loc 91), none⟩,
         ⟨none, false, .store 1 (.loc 94) (.loc 93), none⟩]
@[simp] def r70_15 : List HOp := [⟨(some 44), false, .mv (.env 11), none⟩,
       ⟨(some 45), false, .bin .other .sub (.loc 44) (.val (.tr (.sc (.int .i64 1)))), none⟩,
       ⟨(some 11), true, .mv (.loc 45), none⟩]
@[simp] def r70_16 : List HOp := [⟨(some 95), false, .mv (.env 9), none⟩,
     ⟨(some 96), false, .mkslice [(.sc (.int .u32 0))] 4 (.loc 95) (.loc 95), none⟩,
     ⟨(some 16), true, .mv (.loc 96), none⟩]
@[simp] def r70_17 : List HOp := [⟨(some 97), true, .mv (.env 9), none⟩,
      ⟨(some 98), true, .mv (.val (.tr (.sc (.int .i64 0)))), none⟩]
@[simp] def r70_18 : List HOp := [⟨(some 99), false, .bin .other .lss (.env 98) (.env 97), none⟩]
@[simp] def r70_19 : List HOp := [⟨(some 100), false, .mv (.env 98), none⟩,
          ⟨(some 17), true, .mv (.loc 100), none⟩]
@[simp] def r70_20 : List HOp := [⟨(some 101), false, .mv (.env 16), none⟩,
         ⟨(some 102), false, .mv (.env 17), none⟩,
         ⟨(some 103), false, .mv (.env 7), none⟩,
         ⟨(some 104), false, .mv (.env 17), none⟩,
         ⟨(some 105), false, .bin .other .add (.loc 104) (.val (.tr (.sc (.int .i64 1)))), none⟩,
         ⟨(some 106), false, .iaddr 1 (.loc 103) (.loc 105), none⟩,
         ⟨(some 107), false, .load 1 false (.loc 106), none⟩,
         ⟨(some 108), false, .conv (.toInt .u64) (.loc 107), none⟩,
         ⟨(some 109), false, .bin .other .shl (.loc 108) (.val (.tr (.sc (.int .u64 32)))), none⟩,
         ⟨(some 110), false, .mv (.env 7), none⟩,
         ⟨(some 111), false, .mv (.env 17), none⟩,
         ⟨(some 112), false, .iaddr 1 (.loc 110) (.loc 111), none⟩,
         ⟨(some 113), false, .load 1 false (.loc 112), none⟩,
         ⟨(some 114), false, .conv (.toInt .u64) (.loc 113), none⟩,
         ⟨(some 115), false, .bin .other .or (.loc 109) (.loc 114), none⟩,
         ⟨(some 116), false, .mv (.env 6), none⟩,
         ⟨(some 117), false, .bin .other .shr (.loc 115) (.loc 116), none⟩,
         ⟨(some 118), false, .conv (.toInt .u32) (.loc 117), none⟩,
         ⟨(some 119), false, .iaddr 1 (.loc 101) (.loc 102), none⟩,
         ⟨none, false, .store 1 (.loc 119) (.loc 118), none⟩]
@[simp] def r70_21 : List HOp := [⟨(some 120), false, .bin .other .add (.env 98) (.val (.tr (.sc (.int .i64 1)))), none⟩,
       ⟨(some 98), true, .mv (.loc 120), none⟩]
@[simp] def r70_22 : List HOp := [⟨(some 121), false, .mv (.env 10), none⟩,
     ⟨(some 122), false, .mv (.env 16), none⟩,
     ⟨(some 4), true, .mv (.loc 121), none⟩,
     ⟨(some 5), true, .mv (.loc 122), none⟩]
@[simp] def k70_7 : HCode := .cond (.loc 43) .skip (.exit 0)
@[simp] def k70_14 : HCode := .cond (.loc 83) .skip (.exit 2)
def k70_15 : HCode := .seq (.block 3 (.region r70_12 none)) (.region r70_13 none)
def k70_13 : HCode := .seq (.seq (.region r70_11 none) k70_14) k70_15
@[simp] def k70_12 : HCode := .block 2 (.loop k70_13)
def k70_16 : HCode := .region r70_14 none
@[simp] def k70_11 : HCode := .seq (.seq (.region r70_10 none) k70_12) k70_16
@[simp] def k70_10 : HCode := .seq (.region r70_9 none) k70_11
@[simp] def k70_9 : HCode := .seq (.region r70_8 none) k70_10
def k70_17 : HCode := .region r70_15 none
def k70_8 : HCode := .seq (.block 1 (.seq (.region r70_7 (some [ ( 0, [ 7 ] ) , ( 0, [ 11 ] ) , ( 0, [ 9 ] ) , ( 0, [ 47, 48 ] ) , ( 1, [ 46, 49 ] ) , ( 1, [ 50 ] ) , ( 0, [ 51 ] ) , ( 0, [ 52 ] ) , ( 0, [ 7 ] ) , ( 0, [ 11 ] ) , ( 0, [ 9 ] ) , ( 0, [ 55, 56 ] ) , ( 0, [ 57 ] ) , ( 1, [ 54, 58 ] ) , ( 1, [ 59 ] ) , ( 0, [ 60 ] ) , ( 0, [ 53, 61 ] ) , ( 0, [ 62 ] ) ])) k70_9)) k70_17
def k70_6 : HCode := .seq (.seq (.region r70_6 none) k70_7) k70_8
@[simp] def k70_5 : HCode := .block 0 (.loop k70_6)
def k70_23 : HCode := .seq (.block 5 (.seq (.region r70_19 none) (.region r70_20 (some [ ( 0, [ 16 ] ) , ( 0, [ 17 ] ) , ( 0, [ 7 ] ) , ( 0, [ 17 ] ) , ( 0, [ 104 ] ) , ( 1, [ 103, 105 ] ) , ( 1, [ 106 ] ) , ( 0, [ 107 ] ) , ( 0, [ 108 ] ) , ( 0, [ 7 ] ) , ( 0, [ 17 ] ) , ( 1, [ 110, 111 ] ) , ( 1, [ 112 ] ) , ( 0, [ 113 ] ) , ( 0, [ 109, 114 ] ) , ( 0, [ 6 ] ) , ( 0, [ 115, 116 ] ) , ( 0, [ 117 ] ) , ( 2, [ 101, 102 ] ) , ( 2, [ 119, 118 ] ) ])))) (.region r70_21 none)
@[simp] def k70_22 : HCode := .seq (.cond (.loc 99) .skip (.exit 4)) k70_23
def k70_21 : HCode := .seq (.region r70_18 none) k70_22
@[simp] def k70_20 : HCode := .block 4 (.loop k70_21)
def k70_24 : HCode := .seq (.region r70_22 none) .ret
@[simp] def k70_19 : HCode := .seq (.seq (.region r70_17 none) k70_20) k70_24
def k70_18 : HCode := .seq (.region r70_16 none) k70_19
@[simp] def k70_4 : HCode := .seq (.seq (.region r70_5 none) k70_5) k70_18
@[simp] def k70_3 : HCode := .seq (.region r70_4 none) k70_4
@[simp] def k70_2 : HCode := .seq (.region r70_3 none) k70_3
@[simp] def k70_1 : HCode := .seq (.region r70_2 none) k70_2
@[simp] def k70_0 : HCode := .seq (.region r70_1 none) k70_1
@[simp] def fn70 : HFn := { nargs := 2, results := [.tmp 4, .tmp 5], mode := .iso, code := (.seq (.region r70_0 none) k70_0) }
theorem c70 : cFn Tryd.prog (Hs 70) .iso 70 = some fn70 := by kernel_rfl
/- math/bits.LeadingZeros32 -/
@[simp] def r87_0 : List HOp := [⟨(some 2), true, .mv (.val (.tr (.sc (.int .i64 0)))), none⟩]
@[simp] def r87_1 : List HOp := [⟨(some 3), false, .mv (.env 0), none⟩,
     ⟨(some 4), false, .callf 81 [(.loc 3)], none⟩,
     ⟨(some 5), false, .bin .other .sub (.val (.tr (.sc (.int .i64 32)))) (.loc 4), none⟩,
     ⟨(some 2), true, .mv (.loc 5), none⟩]
@[simp] def k87_0 : HCode := .seq (.region r87_1 none) .ret
@[simp] def fn87 : HFn := { nargs := 1, results := [.tmp 2], mode := .iso, code := (.seq (.region r87_0 none) k87_0) }
theorem c87 : cFn Tryd.prog (Hs 87) .iso 87 = some fn87 := by kernel_rfl
/- sterling/bigint.shifted -/
@[simp] def r88_0 : List HOp := [⟨(some 4), true, .mv (.val (.tr (.sc (.slice none 0 0)))), none⟩]
@[simp] def r88_1 : List HOp := [⟨(some 8), false, .mv (.env 0), none⟩,
     ⟨(some 9), false, .len 1 (.loc 8), none⟩,
     ⟨(some 10), false, .bin .other .add (.loc 9) (.val (.tr (.sc (.int .i64 1)))), none⟩,
     ⟨(some 11), false, .mkslice [(.sc (.int .u32 0))] 4 (.loc 10) (.loc 10), none⟩,
     ⟨(some 5), true, .mv (.loc 11), none⟩]
@[simp] def r88_2 : List HOp := [⟨(some 12), true, .mv (.env 0), none⟩,
      ⟨(some 13), true, .len 1 (.env 12), none⟩,
      ⟨(some 14), true, .mv (.val (.tr (.sc (.int .i64 0)))), none⟩]
@[simp] def r88_3 : List HOp := [⟨(some 15), false, .bin .other .lss (.env 14) (.env 13), none⟩]
@[simp] def r88_4 : List HOp := [⟨(some 16), false, .mv (.env 14), none⟩,
          ⟨(some 17), false, .iaddr 1 (.env 12) (.env 14), none⟩,
          ⟨(some 18), false, .load 1 false (.loc 17), none⟩,
          ⟨(some 6), true, .mv (.loc 16), none⟩,
          ⟨(some 7), true, .mv (.loc 18), none⟩]
@[simp] def r88_5 : List HOp := [⟨(some 19), false, .mv (.env 5), none⟩,
          ⟨(some 20), false, .mv (.env 6), none⟩,
          ⟨(some 21), false, .iaddr 1 (.loc 19) (.loc 20), none⟩,
          ⟨(some 22), false, .load 1 false (.loc 21), none⟩,
          ⟨(some 23), false, .mv (.env 7), none⟩,
          ⟨(some 24), false, .mv (.env 1), none⟩,
          ⟨(some 25), false, .bin .other .shl (.loc 23) (.loc 24), none⟩,
          ⟨(some 26), false, .bin .other .or (.loc 22) (.loc 25), none⟩,
          ⟨(some 27), false, .iaddr 1 (.loc 19) (.loc 20), none⟩,
          ⟨none, false, .store 1 (.loc 27) (.loc 26), none⟩]
@[simp] def r88_6 : List HOp := [⟨(some 28), false, .mv (.env 5), none⟩,
         ⟨(some 29), false, .mv (.env 6), none⟩,
         ⟨(some 30), false, .bin .other .add (.loc 29) (.val (.tr (.sc (.int .i64 1)))), none⟩,
         ⟨(some 31), false, .mv (.env 7), none⟩,
         ⟨(some 32), false, .conv (.toInt .u64) (.loc 31), none⟩,
         ⟨(some 33), false, .mv (.env 1), none⟩,
         ⟨(some 34), false, .bin .other .shl (.loc 32) (.loc 33), none⟩,
         ⟨(some 35), false, .bin .other .shr (.loc 34) (.val (.tr (.sc (.int .u64 32)))), none⟩,
         ⟨(some 36), false, .conv (.toInt .u32) (.loc 35), none⟩,
         ⟨(some 37), false, .iaddr 1 (.loc 28) (.loc 30), none⟩,
         ⟨none, false, .store 1 (.loc 37) (.loc 36), none⟩]
@[simp] def r88_7 : List HOp := [⟨(some 38), false, .bin .other .add (.env 14) (.val (.tr (.sc (.int .i64 1)))), none⟩,
       ⟨(some 14), true, .mv (.loc 38), none⟩]
@[simp] def r88_8 : List HOp := [⟨(some 39), false, .mv (.env 5), none⟩,
     ⟨(some 4), true, .mv (.loc 39), none⟩]
@[simp] def k88_6 : HCode := .seq (.region r88_5 (some [ ( 0, [ 5 ] ) , ( 0, [ 6 ] ) , ( 2, [ 19, 20 ] ) , ( 2, [ 21 ] ) , ( 0, [ 7 ] ) , ( 0, [ 1 ] ) , ( 0, [ 23, 24 ] ) , ( 0, [ 22, 25 ] ) , ( 2, [ 19, 20 ] ) , ( 2, [ 27, 26 ] ) ])) (.region r88_6 none)
def k88_5 : HCode := .seq (.block 1 (.seq (.region r88_4 none) k88_6)) (.region r88_7 none)
@[simp] def k88_4 : HCode := .seq (.cond (.loc 15) .skip (.exit 0)) k88_5
def k88_3 : HCode := .seq (.region r88_3 none) k88_4
@[simp] def k88_2 : HCode := .block 0 (.loop k88_3)
def k88_7 : HCode := .seq (.region r88_8 none) .ret
@[simp] def k88_1 : HCode := .seq (.seq (.region r88_2 none) k88_2) k88_7
@[simp] def k88_0 : HCode := .seq (.region r88_1 none) k88_1
@[simp] def fn88 : HFn := { nargs := 2, results := [.tmp 4], mode := .shared, code := (.seq (.region r88_0 none) k88_0) }
theorem c88 : cFn Tryd.prog (Hs 88) .shared 88 = some fn88 := by kernel_rfl
/- sterling/bigint.takes -/
@[simp] def r89_0 : List HOp := [⟨(some 6), true, .mv (.val (.tr (.sc (.bool false)))), none⟩]
@[simp] def r89_1 : List HOp := [⟨(some 7), true, .mv (.val (.tr (.sc (.int .u64 0)))), none⟩,
     ⟨(some 8), true, .mv (.val (.tr (.sc (.int .i64 0)))), none⟩]
@[simp] def r89_2 : List HOp := [⟨(some 10), false, .mv (.env 0), none⟩,
      ⟨(some 11), true, .len 1 (.loc 10), none⟩,
      ⟨(some 12), true, .mv (.val (.tr (.sc (.int .i64 0)))), none⟩]
@[simp] def r89_3 : List HOp := [⟨(some 13), false, .bin .other .lss (.env 12) (.env 11), none⟩]
@[simp] def r89_4 : List HOp := [⟨(some 14), false, .mv (.env 12), none⟩,
          ⟨(some 9), true, .mv (.loc 14), none⟩]
@[simp] def r89_5 : List HOp := [⟨(some 15), false, .mv (.env 9), none⟩,
           ⟨(some 16), false, .mv (.env 1), none⟩,
           ⟨(some 17), false, .len 1 (.loc 16), none⟩,
           ⟨(some 18), false, .bin .other .lss (.loc 15) (.loc 17), none⟩]
@[simp] def r89_6 : List HOp := [⟨(some 19), false, .mv (.env 7), none⟩,
           ⟨(some 20), false, .mv (.env 2), none⟩,
           ⟨(some 21), false, .mv (.env 1), none⟩,
           ⟨(some 22), false, .mv (.env 9), none⟩,
           ⟨(some 23), false, .iaddr 1 (.loc 21) (.loc 22), none⟩,
           ⟨(some 24), false, .load 1 false (.loc 23), none⟩,
           ⟨(some 25), false, .conv (.toInt .u64) (.loc 24), none⟩,
           ⟨(some 26), false, .bin .other .mul (.loc 20) (.loc 25), none⟩,
           ⟨(some 27), false, .bin .other .add (.loc 19) (.loc 26), none⟩,
           ⟨(some 7), true, .mv (.loc 27), none⟩]
@[simp] def r89_7 : List HOp := [⟨(some 28), false, .mv (.env 8), none⟩,
          ⟨(some 29), false, .mv (.env 0), none⟩,
          ⟨(some 30), false, .mv (.env 9), none⟩,
          ⟨(some 31), false, .iaddr 1 (.loc 29) (.loc 30), none⟩,
          ⟨(some 32), false, .load 1 false (.loc 31), none⟩,
          ⟨(some 33), false, .conv (.toInt .i64) (.loc 32), none⟩,
          ⟨(some 34), false, .mv (.env 7), none⟩,
          ⟨(some 35), false, .conv (.toInt .u32) (.loc 34), none⟩,
          ⟨(some 36), false, .conv (.toInt .i64) (.loc 35), none⟩,
          ⟨(some 37), false, .bin .other .sub (.loc 33) (.loc 36), none⟩,
          ⟨(some 38), false, .bin .other .add (.loc 28) (.loc 37), none⟩,
          ⟨(some 8), true, .mv (.loc 38), none⟩]
@[simp] def r89_8 : List HOp := [⟨(some 39), false, .mv (.env 0), none⟩,
          ⟨(some 40), false, .mv (.env 9), none⟩,
          ⟨(some 41), false, .mv (.env 8), none⟩,
          ⟨(some 42), false, .conv (.toInt .u32) (.loc 41), none⟩,
          ⟨(some 43), false, .iaddr 1 (.loc 39) (.loc 40), none⟩,
          ⟨none, false, .store 1 (.loc 43) (.loc 42), none⟩]
@[simp] def r89_9 : List HOp := [⟨(some 44), false, .mv (.env 8), none⟩,
          ⟨(some 45), false, .bin .other .shr (.loc 44) (.val (.tr (.sc (.int .u64 32)))), none⟩,
          ⟨(some 8), true, .mv (.loc 45), none⟩]
@[simp] def r89_10 : List HOp := [⟨(some 46), false, .mv (.env 7), none⟩,
         ⟨(some 47), false, .bin .other .shr (.loc 46) (.val (.tr (.sc (.int .u64 32)))), none⟩,
         ⟨(some 7), true, .mv (.loc 47), none⟩]
@[simp] def r89_11 : List HOp := [⟨(some 48), false, .bin .other .add (.env 12) (.val (.tr (.sc (.int .i64 1)))), none⟩,
       ⟨(some 12), true, .mv (.loc 48), none⟩]
@[simp] def r89_12 : List HOp := [⟨(some 49), false, .mv (.env 8), none⟩,
     ⟨(some 50), false, .bin .other .lss (.loc 49) (.val (.tr (.sc (.int .i64 0)))), none⟩,
     ⟨(some 6), true, .mv (.loc 50), none⟩]
@[simp] def k89_7 : HCode := .cond (.loc 18) (.region r89_6 none) .skip
@[simp] def k89_10 : HCode := .seq (.region r89_9 none) (.region r89_10 none)
@[simp] def k89_9 : HCode := .seq (.region r89_8 none) k89_10
def k89_8 : HCode := .seq (.region r89_7 none) k89_9
@[simp] def k89_6 : HCode := .seq (.seq (.region r89_5 none) k89_7) k89_8
def k89_11 : HCode := .region r89_11 none
def k89_5 : HCode := .seq (.block 1 (.seq (.region r89_4 none) k89_6)) k89_11
@[simp] def k89_4 : HCode := .seq (.cond (.loc 13) .skip (.exit 0)) k89_5
def k89_3 : HCode := .seq (.region r89_3 none) k89_4
@[simp] def k89_2 : HCode := .block 0 (.loop k89_3)
def k89_12 : HCode := .seq (.region r89_12 none) .ret
@[simp] def k89_1 : HCode := .seq (.seq (.region r89_2 none) k89_2) k89_12
@[simp] def k89_0 : HCode := .seq (.region r89_1 none) k89_1
@[simp] def fn89 : HFn := { nargs := 3, results := [.tmp 6], mode := .shared, code := (.seq (.region r89_0 none) k89_0) }
theorem c89 : cFn Tryd.prog (Hs 89) .shared 89 = some fn89 := by kernel_rfl
/- sterling/bigint.gives -/
@[simp] def r90_0 : List HOp := [⟨(some 4), true, .mv (.val (.tr (.sc (.bool false)))), none⟩]
@[simp] def r90_1 : List HOp := [⟨(some 5), true, .mv (.val (.tr (.sc (.int .u64 0)))), none⟩]
@[simp] def r90_2 : List HOp := [⟨(some 7), false, .mv (.env 0), none⟩,
      ⟨(some 8), true, .len 1 (.loc 7), none⟩,
      ⟨(some 9), true, .mv (.val (.tr (.sc (.int .i64 0)))), none⟩]
@[simp] def r90_3 : List HOp := [⟨(some 10), false, .bin .other .lss (.env 9) (.env 8), none⟩]
@[simp] def r90_4 : List HOp := [⟨(some 11), false, .mv (.env 9), none⟩,
          ⟨(some 6), true, .mv (.loc 11), none⟩]
@[simp] def r90_5 : List HOp := [⟨(some 12), false, .mv (.env 5), none⟩,
          ⟨(some 13), false, .mv (.env 0), none⟩,
          ⟨(some 14), false, .mv (.env 6), none⟩,
          ⟨(some 15), false, .iaddr 1 (.loc 13) (.loc 14), none⟩,
          ⟨(some 16), false, .load 1 false (.loc 15), none⟩,
          ⟨(some 17), false, .conv (.toInt .u64) (.loc 16), none⟩,
          ⟨(some 18), false, .bin .other .add (.loc 12) (.loc 17), none⟩,
          ⟨(some 5), true, .mv (.loc 18), none⟩]
@[simp] def r90_6 : List HOp := [⟨(some 19), false, .mv (.env 6), none⟩,
           ⟨(some 20), false, .mv (.env 1), none⟩,
           ⟨(some 21), false, .len 1 (.loc 20), none⟩,
           ⟨(some 22), false, .bin .other .lss (.loc 19) (.loc 21), none⟩]
@[simp] def r90_7 : List HOp := [⟨(some 23), false, .mv (.env 5), none⟩,
           ⟨(some 24), false, .mv (.env 1), none⟩,
           ⟨(some 25), false, .mv (.env 6), none⟩,
           ⟨(some 26), false, .iaddr 1 (.loc 24) (.loc 25), none⟩,
           ⟨(some 27), false, .load 1 false (.loc 26), none⟩,
           ⟨(some 28), false, .conv (.toInt .u64) (.loc 27), none⟩,
           ⟨(some 29), false, .bin .other .add (.loc 23) (.loc 28), none⟩,
           ⟨(some 5), true, .mv (.loc 29), none⟩]
@[simp] def r90_8 : List HOp := [⟨(some 30), false, .mv (.env 0), none⟩,
          ⟨(some 31), false, .mv (.env 6), none⟩,
          ⟨(some 32), false, .mv (.env 5), none⟩,
          ⟨(some 33), false, .conv (.toInt .u32) (.loc 32), none⟩,
          ⟨(some 34), false, .iaddr 1 (.loc 30) (.loc 31), none⟩,
          ⟨none, false, .store 1 (.loc 34) (.loc 33), none⟩]
@[simp] def r90_9 : List HOp := [⟨(some 35), false, .mv (.env 5), none⟩,
         ⟨(some 36), false, .bin .other .shr (.loc 35) (.val (.tr (.sc (.int .u64 32)))), none⟩,
         ⟨(some 5), true, .mv (.loc 36), none⟩]
@[simp] def r90_10 : List HOp := [⟨(some 37), false, .bin .other .add (.env 9) (.val (.tr (.sc (.int .i64 1)))), none⟩,
       ⟨(some 9), true, .mv (.loc 37), none⟩]
@[simp] def r90_11 : List HOp := [⟨(some 38), false, .mv (.env 5), none⟩,
     ⟨(some 39), false, .bin .other .gtr (.loc 38) (.val (.tr (.sc (.int .u64 0)))), none⟩,
     ⟨(some 4), true, .mv (.loc 39), none⟩]
@[simp] def k90_8 : HCode := .cond (.loc 22) (.region r90_7 none) .skip
def k90_9 : HCode := .seq (.region r90_8 none) (.region r90_9 none)
@[simp] def k90_7 : HCode := .seq (.seq (.region r90_6 none) k90_8) k90_9
@[simp] def k90_6 : HCode := .seq (.region r90_5 none) k90_7
def k90_10 : HCode := .region r90_10 none
def k90_5 : HCode := .seq (.block 1 (.seq (.region r90_4 none) k90_6)) k90_10
@[simp] def k90_4 : HCode := .seq (.cond (.loc 10) .skip (.exit 0)) k90_5
def k90_3 : HCode := .seq (.region r90_3 none) k90_4
@[simp] def k90_2 : HCode := .block 0 (.loop k90_3)
def k90_11 : HCode := .seq (.region r90_11 none) .ret
@[simp] def k90_1 : HCode := .seq (.seq (.region r90_2 none) k90_2) k90_11
@[simp] def k90_0 : HCode := .seq (.region r90_1 none) k90_1
@[simp] def fn90 : HFn := { nargs := 2, results := [.tmp 4], mode := .shared, code := (.seq (.region r90_0 none) k90_0) }
theorem c90 : cFn Tryd.prog (Hs 90) .shared 90 = some fn90 := by kernel_rfl
/- sterling/float.Round32 -/
@[simp] def r27_0 : List HOp := [⟨(some 1), true, .box true (.env 0), none⟩,
     ⟨(some 2), true, .mv (.val (.tr (.sc (.float .f32 0)))), none⟩]
@[simp] def r27_1 : List HOp := [⟨(some 11), false, .load 4 true (.env 1), none⟩,
     ⟨(some 12), false, .callf 41 [(.loc 11)], none⟩,
     ⟨(some 10), false, .mv (.loc 12), none⟩,
     ⟨(some 13), false, .extract (.loc 10) 0, none⟩,
     ⟨(some 14), false, .extract (.loc 10) 1, none⟩,
     ⟨(some 15), false, .extract (.loc 10) 2, none⟩,
     ⟨(some 4), true, .alloc [(.sc (.bool false)), (.sc (.slice none 0 0))], none⟩,
     ⟨(some 5), true, .alloc [(.sc (.bool false)), (.sc (.slice none 0 0))], none⟩,
     ⟨(some 3), true, .mv (.loc 13), none⟩,
     ⟨none, false, .store 2 (.env 4) (.loc 14), none⟩,
     ⟨none, false, .store 2 (.env 5) (.loc 15), none⟩]
@[simp] def r27_2 : List HOp := [⟨(some 17), false, .build [(.sc (.int .i64 0)), (.sc (.int .i64 0)), (.sc (.int .i64 0))] [(0, 1, (.val (.tr (.sc (.int .i64 24))))), (1, 1, (.val (.tr (.sc (.int .i64 (-149)))))), (2, 1, (.val (.tr (.sc (.int .i64 104)))))], none⟩,
     ⟨(some 18), false, .load 2 true (.env 4), none⟩,
     ⟨(some 19), false, .load 2 true (.env 5), none⟩,
     ⟨(some 20), false, .callf 42 [(.loc 17), (.loc 18), (.loc 19)], none⟩,
     ⟨(some 16), false, .mv (.loc 20), none⟩,
     ⟨(some 21), false, .extract (.loc 16) 0, none⟩,
     ⟨(some 22), false, .extract (.loc 16) 1, none⟩,
     ⟨(some 23), false, .extract (.loc 16) 2, none⟩,
     ⟨(some 6), true, .mv (.loc 21), none⟩,
     ⟨(some 7), true, .mv (.loc 22), none⟩,
     ⟨(some 8), true, .mv (.loc 23), none⟩]
@[simp] def r27_3 : List HOp := [⟨(some 24), false, .callf 43 [(.val (.tr (.sc (.int .i64 1))))], none⟩,
     ⟨(some 9), true, .mv (.loc 24), none⟩]
@[simp] def r27_4 : List HOp := [⟨(some 25), false, .mv (.env 8), none⟩]
@[simp] def r27_5 : List HOp := [⟨(some 26), false, .mv (.env 6), none⟩,
      ⟨(some 27), false, .conv (.toFloat .f64) (.loc 26), none⟩,
      ⟨(some 28), false, .mv (.env 7), none⟩,
      ⟨(some 29), false, .callf 44 [(.loc 27), (.loc 28)], none⟩,
      ⟨(some 9), true, .mv (.loc 29), none⟩]
@[simp] def r27_6 : List HOp := [⟨(some 30), false, .mv (.env 3), none⟩,
      ⟨(some 31), false, .mv (.loc 30), none⟩,
      ⟨(some 32), false, .mv (.env 6), some ((.loc 31), true)⟩,
      ⟨(some 33), false, .bin .other .gtr (.loc 32) (.val (.tr (.sc (.int .u64 0)))), some ((.loc 31), true)⟩,
      ⟨(some 34), false, .pick (.loc 31) (.loc 33) (.val (.tr (.sc (.bool false)))), none⟩]
@[simp] def r27_7 : List HOp := [⟨(some 35), false, .mv (.env 9), none⟩,
      ⟨(some 36), false, .un .neg (.loc 35), none⟩,
      ⟨(some 9), true, .mv (.loc 36), none⟩]
@[simp] def r27_8 : List HOp := [⟨(some 37), false, .mv (.env 9), none⟩,
     ⟨(some 38), false, .conv (.toFloat .f32) (.loc 37), none⟩,
     ⟨(some 2), true, .mv (.loc 38), none⟩]
@[simp] def k27_4 : HCode := .cond (.loc 25) (.region r27_5 none) .skip
@[simp] def k27_6 : HCode := .cond (.loc 34) (.region r27_7 none) .skip
def k27_7 : HCode := .seq (.region r27_8 none) .ret
def k27_5 : HCode := .seq (.seq (.region r27_6 none) k27_6) k27_7
@[simp] def k27_3 : HCode := .seq (.seq (.region r27_4 none) k27_4) k27_5
@[simp] def k27_2 : HCode := .seq (.region r27_3 none) k27_3
@[simp] def k27_1 : HCode := .seq (.region r27_2 none) k27_2
@[simp] def k27_0 : HCode := .seq (.region r27_1 none) k27_1
@[simp] def fn27 : HFn := { nargs := 1, results := [.tmp 2], mode := .iso, code := (.seq (.region r27_0 none) k27_0) }
theorem c27 : cFn Tryd.prog (Hs 27) .iso 27 = some fn27 := by kernel_rfl
/- sterling/float.apart -/
@[simp] def r41_0 : List HOp := [⟨(some 1), true, .box false (.env 0), none⟩,
     ⟨(some 2), true, .mv (.val (.tr (.sc (.bool false)))), none⟩,
     ⟨(some 3), true, .alloc [(.sc (.bool false)), (.sc (.slice none 0 0))], none⟩,
     ⟨(some 4), true, .alloc [(.sc (.bool false)), (.sc (.slice none 0 0))], none⟩]
@[simp] def r41_1 : List HOp := [⟨(some 7), false, .load 4 true (.env 1), none⟩,
     ⟨(some 8), false, .build [(.sc (.bool false)), (.sc (.slice none 0 0)), (.sc (.bool false)), (.sc (.slice none 0 0))] [], none⟩,
     ⟨(some 9), false, .callf 58 [(.loc 7), (.loc 8)], none⟩,
     ⟨none, false, .store 4 (.env 1) (.loc 9), none⟩]
@[simp] def r41_2 : List HOp := [⟨(some 10), false, .faddr 0 (.env 1), none⟩,
     ⟨(some 11), false, .load 2 true (.loc 10), none⟩,
     ⟨(some 5), true, .alloc [(.sc (.bool false)), (.sc (.slice none 0 0))], none⟩,
     ⟨none, false, .store 2 (.env 5) (.loc 11), none⟩]
@[simp] def r41_3 : List HOp := [⟨(some 12), false, .faddr 0 (.env 5), none⟩,
     ⟨(some 13), false, .load 1 false (.loc 12), none⟩,
     ⟨(some 6), true, .mv (.loc 13), none⟩]
@[simp] def r41_4 : List HOp := [⟨(some 14), false, .faddr 0 (.env 5), none⟩,
     ⟨none, false, .store 1 (.loc 14) (.val (.tr (.sc (.bool false)))), none⟩]
@[simp] def r41_5 : List HOp := [⟨(some 15), false, .mv (.env 6), none⟩,
     ⟨(some 16), false, .load 2 true (.env 5), none⟩,
     ⟨(some 17), false, .faddr 2 (.env 1), none⟩,
     ⟨(some 18), false, .load 2 true (.loc 17), none⟩,
     ⟨(some 2), true, .mv (.loc 15), none⟩,
     ⟨none, false, .store 2 (.env 3) (.loc 16), none⟩,
     ⟨none, false, .store 2 (.env 4) (.loc 18), none⟩]
@[simp] def k41_4 : HCode := .seq (.region r41_5 (some [ ( 0, [ 6 ] ) , ( 1, [ 5 ] ) , ( 0, [ 1 ] ) , ( 9, [ 17 ] ) , ( 0, [ 15 ] ) , ( 2, [ 3, 16 ] ) , ( 2, [ 4, 18 ] ) ])) .ret
@[simp] def k41_3 : HCode := .seq (.region r41_4 none) k41_4
@[simp] def k41_2 : HCode := .seq (.region r41_3 none) k41_3
@[simp] def k41_1 : HCode := .seq (.region r41_2 none) k41_2
@[simp] def k41_0 : HCode := .seq (.region r41_1 none) k41_1
@[simp] def fn41 : HFn := { nargs := 1, results := [.tmp 2, .cell 3 2 true, .cell 4 2 true], mode := .iso, code := (.seq (.region r41_0 none) k41_0) }
theorem c41 : cFn Tryd.prog (Hs 41) .iso 41 = some fn41 := by kernel_rfl
/- sterling/ratio.Add -/
@[simp] def r58_0 : List HOp := [⟨(some 2), true, .box false (.env 0), none⟩,
     ⟨(some 3), true, .box false (.env 1), none⟩,
     ⟨(some 4), true, .alloc [(.sc (.bool false)), (.sc (.slice none 0 0)), (.sc (.bool false)), (.sc (.slice none 0 0))], none⟩]
@[simp] def r58_1 : List HOp := [⟨(some 5), false, .load 4 true (.env 2), none⟩,
     ⟨(some 6), false, .callf 79 [(.loc 5)], none⟩,
     ⟨(some 7), false, .load 4 true (.env 3), none⟩,
     ⟨(some 8), false, .callf 79 [(.loc 7)], none⟩,
     ⟨none, false, .store 4 (.env 2) (.loc 6), none⟩,
     ⟨none, false, .store 4 (.env 3) (.loc 8), none⟩]
@[simp] def r58_2 : List HOp := [⟨(some 9), false, .faddr 0 (.env 2), none⟩,
     ⟨(some 10), false, .load 2 true (.loc 9), none⟩,
     ⟨(some 11), false, .faddr 2 (.env 3), none⟩,
     ⟨(some 12), false, .load 2 true (.loc 11), none⟩,
     ⟨(some 13), false, .callf 26 [(.loc 10), (.loc 12)], none⟩,
     ⟨(some 14), false, .faddr 0 (.env 3), none⟩,
     ⟨(some 15), false, .load 2 true (.loc 14), none⟩,
     ⟨(some 16), false, .faddr 2 (.env 2), none⟩,
     ⟨(some 17), false, .load 2 true (.loc 16), none⟩,
     ⟨(some 18), false, .callf 26 [(.loc 15), (.loc 17)], none⟩,
     ⟨(some 19), false, .callf 25 [(.loc 13), (.loc 18)], none⟩,
     ⟨(some 20), false, .faddr 2 (.env 2), none⟩,
     ⟨(some 21), false, .load 2 true (.loc 20), none⟩,
     ⟨(some 22), false, .faddr 2 (.env 3), none⟩,
     ⟨(some 23), false, .load 2 true (.loc 22), none⟩,
     ⟨(some 24), false, .callf 26 [(.loc 21), (.loc 23)], none⟩,
     ⟨(some 25), false, .callf 45 [(.loc 19), (.loc 24)], none⟩,
     ⟨none, false, .store 4 (.env 4) (.loc 25), none⟩]
@[simp] def k58_1 : HCode := .seq (.region r58_2 (some [ ( 0, [ 2 ] ) , ( 1, [ 9 ] ) , ( 0, [ 3 ] ) , ( 1, [ 11 ] ) , ( 1, [ 10, 12 ] ) , ( 0, [ 3 ] ) , ( 1, [ 14 ] ) , ( 0, [ 2 ] ) , ( 1, [ 16 ] ) , ( 1, [ 15, 17 ] ) , ( 1, [ 13, 18 ] ) , ( 0, [ 2 ] ) , ( 1, [ 20 ] ) , ( 0, [ 3 ] ) , ( 1, [ 22 ] ) , ( 2, [ 21, 23 ] ) , ( 2, [ 19, 24 ] ) , ( 2, [ 4, 25 ] ) ])) .ret
@[simp] def k58_0 : HCode := .seq (.region r58_1 (some [ ( 1, [ 2 ] ) , ( 1, [ 5 ] ) , ( 1, [ 3 ] ) , ( 2, [ 7 ] ) , ( 2, [ 2, 6 ] ) , ( 2, [ 3, 8 ] ) ])) k58_1
@[simp] def fn58 : HFn := { nargs := 2, results := [.cell 4 4 true], mode := .iso, code := (.seq (.region r58_0 none) k58_0) }
theorem c58 : cFn Tryd.prog (Hs 58) .iso 58 = some fn58 := by kernel_rfl
/- sterling/ratio.low -/
@[simp] def r79_0 : List HOp := [⟨(some 1), true, .box true (.env 0), none⟩,
     ⟨(some 2), true, .alloc [(.sc (.bool false)), (.sc (.slice none 0 0)), (.sc (.bool false)), (.sc (.slice none 0 0))], none⟩]
@[simp] def r79_1 : List HOp := [⟨(some 3), false, .faddr 0 (.env 1), none⟩,
     ⟨(some 4), false, .load 2 true (.loc 3), none⟩,
     ⟨(some 5), false, .faddr 2 (.env 1), none⟩,
     ⟨(some 6), false, .load 2 true (.loc 5), none⟩,
     ⟨(some 7), false, .callf 45 [(.loc 4), (.loc 6)], none⟩,
     ⟨none, false, .store 4 (.env 2) (.loc 7), none⟩]
@[simp] def k79_0 : HCode := .seq (.region r79_1 none) .ret
@[simp] def fn79 : HFn := { nargs := 1, results := [.cell 2 4 true], mode := .iso, code := (.seq (.region r79_0 none) k79_0) }
theorem c79 : cFn Tryd.prog (Hs 79) .iso 79 = some fn79 := by kernel_rfl
/- (sterling/float.format).rounded -/
@[simp] def r42_0 : List HOp := [⟨(some 3), true, .box true (.env 0), none⟩,
     ⟨(some 4), true, .box true (.env 1), none⟩,
     ⟨(some 5), true, .box true (.env 2), none⟩,
     ⟨(some 6), true, .mv (.val (.tr (.sc (.int .u64 0)))), none⟩,
     ⟨(some 7), true, .mv (.val (.tr (.sc (.int .i64 0)))), none⟩,
     ⟨(some 8), true, .mv (.val (.tr (.sc (.bool false)))), none⟩]
@[simp] def r42_1 : List HOp := [⟨(some 18), false, .ldt 2 true (.env 4), none⟩,
     ⟨(some 19), false, .callf 59 [(.loc 18)], none⟩,
     ⟨(some 20), false, .ldt 2 true (.env 5), none⟩,
     ⟨(some 21), false, .callf 59 [(.loc 20)], none⟩,
     ⟨(some 22), false, .bin .other .sub (.loc 19) (.loc 21), none⟩,
     ⟨(some 23), false, .faddr 0 (.env 3), none⟩,
     ⟨(some 24), false, .ldt 1 false (.loc 23), none⟩,
     ⟨(some 25), false, .bin .other .sub (.loc 22) (.loc 24), none⟩,
     ⟨(some 26), false, .faddr 1 (.env 3), none⟩,
     ⟨(some 27), false, .ldt 1 false (.loc 26), none⟩,
     ⟨(some 28), false, .minmax true (.loc 25) [(.loc 27)], none⟩,
     ⟨(some 9), true, .mv (.loc 28), none⟩]
@[simp] def r42_2 : List HOp := [⟨(some 29), false, .ldt 2 true (.env 4), none⟩,
        ⟨(some 30), false, .ldt 2 true (.env 5), none⟩,
        ⟨(some 10), true, .alloc [(.sc (.bool false)), (.sc (.slice none 0 0))], none⟩,
        ⟨(some 11), true, .alloc [(.sc (.bool false)), (.sc (.slice none 0 0))], none⟩,
        ⟨none, false, .store 2 (.env 10) (.loc 29), none⟩,
        ⟨none, false, .store 2 (.env 11) (.loc 30), none⟩]
@[simp] def r42_3 : List HOp := [⟨(some 31), false, .mv (.env 9), none⟩,
         ⟨(some 32), false, .bin .other .lss (.loc 31) (.val (.tr (.sc (.int .i64 0)))), none⟩]
@[simp] def r42_4 : List HOp := [⟨(some 33), false, .load 2 true (.env 4), none⟩,
         ⟨(some 34), false, .mv (.env 9), none⟩,
         ⟨(some 35), false, .un .neg (.loc 34), none⟩,
         ⟨(some 36), false, .callf 60 [(.loc 33), (.loc 35)], none⟩,
         ⟨none, false, .store 2 (.env 10) (.loc 36), none⟩]
@[simp] def r42_5 : List HOp := [⟨(some 37), false, .load 2 true (.env 5), none⟩,
         ⟨(some 38), false, .mv (.env 9), none⟩,
         ⟨(some 39), false, .callf 60 [(.loc 37), (.loc 38)], none⟩,
         ⟨none, false, .store 2 (.env 11) (.loc 39), none⟩]
@[simp] def r42_6 : List HOp := [⟨(some 41), false, .load 2 true (.env 10), none⟩,
        ⟨(some 42), false, .load 2 true (.env 11), none⟩,
        ⟨(some 43), false, .callf 47 [(.loc 41), (.loc 42)], none⟩,
        ⟨(some 40), false, .mv (.loc 43), none⟩,
        ⟨(some 44), false, .extract (.loc 40) 0, none⟩,
        ⟨(some 45), false, .extract (.loc 40) 1, none⟩,
        ⟨(some 46), false, .extract (.loc 40) 2, none⟩,
        ⟨(some 12), true, .alloc [(.sc (.bool false)), (.sc (.slice none 0 0))], none⟩,
        ⟨(some 13), true, .alloc [(.sc (.bool false)), (.sc (.slice none 0 0))], none⟩,
        ⟨none, false, .store 2 (.env 12) (.loc 44), none⟩,
        ⟨none, false, .store 2 (.env 13) (.loc 45), none⟩,
        ⟨(some 14), false, .mv (.loc 46), none⟩]
@[simp] def r42_7 : List HOp := [⟨(some 47), false, .load 2 true (.env 12), none⟩,
         ⟨(some 48), false, .callf 59 [(.loc 47)], none⟩,
         ⟨(some 49), false, .faddr 0 (.env 3), none⟩,
         ⟨(some 50), false, .ldt 1 false (.loc 49), none⟩,
         ⟨(some 51), false, .bin .other .gtr (.loc 48) (.loc 50), none⟩]
@[simp] def r42_8 : List HOp := [⟨(some 52), false, .mv (.env 9), none⟩,
          ⟨(some 53), false, .bin .other .add (.loc 52) (.val (.tr (.sc (.int .i64 1)))), none⟩,
          ⟨(some 9), true, .mv (.loc 53), none⟩]
@[simp] def r42_9 : List HOp := [⟨(some 55), false, .load 2 true (.env 12), none⟩,
        ⟨(some 56), false, .callf 61 [(.loc 55)], none⟩,
        ⟨(some 54), false, .mv (.loc 56), none⟩,
        ⟨(some 57), false, .extract (.loc 54) 0, none⟩,
        ⟨(some 58), false, .extract (.loc 54) 1, none⟩,
        ⟨(some 15), true, .mv (.loc 57), none⟩,
        ⟨(some 16), false, .mv (.loc 58), none⟩]
@[simp] def r42_10 : List HOp := [⟨(some 59), false, .load 2 true (.env 13), none⟩,
         ⟨(some 60), false, .load 2 true (.env 13), none⟩,
         ⟨(some 61), false, .callf 25 [(.loc 59), (.loc 60)], none⟩,
         ⟨(some 62), false, .load 2 true (.env 11), none⟩,
         ⟨(some 63), false, .callf 62 [(.loc 61), (.loc 62)], none⟩,
         ⟨(some 17), true, .mv (.loc 63), none⟩]
@[simp] def r42_11 : List HOp := [⟨(some 64), false, .mv (.env 17), none⟩,
         ⟨(some 65), false, .bin .other .gtr (.loc 64) (.val (.tr (.sc (.int .i64 0)))), none⟩,
         ⟨(some 66), false, .mv (.loc 65), none⟩,
         ⟨(some 67), false, .mv (.env 17), some ((.loc 66), false)⟩,
         ⟨(some 68), false, .bin .other .eql (.loc 67) (.val (.tr (.sc (.int .i64 0)))), some ((.loc 66), false)⟩,
         ⟨(some 69), false, .mv (.loc 68), some ((.loc 66), false)⟩,
         ⟨(some 70), false, .mv (.env 15), some ((.loc 69), true)⟩,
         ⟨(some 71), false, .bin .other .and (.loc 70) (.val (.tr (.sc (.int .i64 1)))), some ((.loc 69), true)⟩,
         ⟨(some 72), false, .bin .other .eql (.loc 71) (.val (.tr (.sc (.int .i64 1)))), some ((.loc 69), true)⟩,
         ⟨(some 73), false, .pick (.loc 69) (.loc 72) (.val (.tr (.sc (.bool false)))), some ((.loc 66), false)⟩,
         ⟨(some 74), false, .pick (.loc 66) (.val (.tr (.sc (.bool true)))) (.loc 73), none⟩]
@[simp] def r42_12 : List HOp := [⟨(some 75), false, .mv (.env 15), none⟩,
         ⟨(some 76), false, .bin .other .add (.loc 75) (.val (.tr (.sc (.int .i64 1)))), none⟩,
         ⟨(some 15), true, .mv (.loc 76), none⟩]
@[simp] def r42_13 : List HOp := [⟨(some 77), false, .mv (.env 15), none⟩,
         ⟨(some 78), false, .faddr 0 (.env 3), none⟩,
         ⟨(some 79), false, .load 1 false (.loc 78), none⟩,
         ⟨(some 80), false, .bin .other .shl (.val (.tr (.sc (.int .i64 1)))) (.loc 79), none⟩,
         ⟨(some 81), false, .bin .other .eql (.loc 77) (.loc 80), none⟩]
@[simp] def r42_14 : List HOp := [⟨(some 82), false, .mv (.env 15), none⟩,
         ⟨(some 83), false, .bin .other .quo (.loc 82) (.val (.tr (.sc (.int .i64 2)))), none⟩,
         ⟨(some 84), false, .mv (.env 9), none⟩,
         ⟨(some 85), false, .bin .other .add (.loc 84) (.val (.tr (.sc (.int .i64 1)))), none⟩,
         ⟨(some 15), true, .mv (.loc 83), none⟩,
         ⟨(some 9), true, .mv (.loc 85), none⟩]
@[simp] def r42_15 : List HOp := [⟨(some 86), false, .mv (.env 15), none⟩,
        ⟨(some 87), false, .conv (.toInt .u64) (.loc 86), none⟩,
        ⟨(some 88), false, .mv (.env 9), none⟩,
        ⟨(some 89), false, .mv (.env 9), none⟩,
        ⟨(some 90), false, .faddr 2 (.env 3), none⟩,
        ⟨(some 91), false, .ldt 1 false (.loc 90), none⟩,
        ⟨(some 92), false, .bin .other .leq (.loc 89) (.loc 91), none⟩,
        ⟨(some 6), true, .mv (.loc 87), none⟩,
        ⟨(some 7), true, .mv (.loc 88), none⟩,
        ⟨(some 8), true, .mv (.loc 92), none⟩]
@[simp] def k42_4 : HCode := .cond (.loc 32) (.region r42_4 none) (.region r42_5 none)
@[simp] def k42_8 : HCode := .seq (.region r42_8 none) (.exit 1)
@[simp] def k42_7 : HCode := .cond (.loc 51) k42_8 .skip
@[simp] def k42_12 : HCode := .cond (.loc 74) (.region r42_12 none) .skip
@[simp] def k42_11 : HCode := .seq (.region r42_11 none) k42_12
@[simp] def k42_14 : HCode := .cond (.loc 81) (.region r42_14 none) .skip
def k42_15 : HCode := .seq (.region r42_15 (some [ ( 0, [ 15 ] ) , ( 0, [ 86 ] ) , ( 0, [ 9 ] ) , ( 0, [ 9 ] ) , ( 0, [ 3 ] ) , ( 0, [ 90 ] ) , ( 0, [ 89, 91 ] ) , ( 0, [ 87 ] ) , ( 0, [ 88 ] ) , ( 0, [ 92 ] ) ])) .ret
def k42_13 : HCode := .seq (.seq (.region r42_13 none) k42_14) k42_15
@[simp] def k42_10 : HCode := .seq (.seq (.region r42_10 (some [ ( 1, [ 13 ] ) , ( 1, [ 13 ] ) , ( 1, [ 59, 60 ] ) , ( 1, [ 11 ] ) , ( 2, [ 61, 62 ] ) , ( 0, [ 63 ] ) ])) k42_11) k42_13
def k42_9 : HCode := .seq (.region r42_9 none) k42_10
@[simp] def k42_6 : HCode := .seq (.seq (.region r42_7 (some [ ( 2, [ 12 ] ) , ( 2, [ 47 ] ) , ( 0, [ 3 ] ) , ( 0, [ 49 ] ) , ( 0, [ 48, 50 ] ) ])) k42_7) k42_9
def k42_5 : HCode := .seq (.region r42_6 none) k42_6
@[simp] def k42_3 : HCode := .seq (.seq (.region r42_3 none) k42_4) k42_5
def k42_2 : HCode := .block 1 (.seq (.region r42_2 (some [ ( 0, [ 4 ] ) , ( 0, [ 5 ] ) , ( 1, [ ] ) , ( 1, [ ] ) , ( 2, [ 10, 29 ] ) , ( 2, [ 11, 30 ] ) ])) k42_3)
@[simp] def k42_1 : HCode := .block 0 (.loop k42_2)
@[simp] def k42_0 : HCode := .seq (.region r42_1 (some [ ( 0, [ 4 ] ) , ( 2, [ 18 ] ) , ( 0, [ 5 ] ) , ( 2, [ 20 ] ) , ( 0, [ 19, 21 ] ) , ( 0, [ 3 ] ) , ( 0, [ 23 ] ) , ( 0, [ 22, 24 ] ) , ( 0, [ 3 ] ) , ( 0, [ 26 ] ) , ( 0, [ 25, 27 ] ) , ( 0, [ 28 ] ) ])) k42_1
@[simp] def fn42 : HFn := { nargs := 3, results := [.tmp 6, .tmp 7, .tmp 8], mode := .iso, code := (.seq (.region r42_0 none) k42_0) }
theorem c42 : cFn Tryd.prog (Hs 42) .iso 42 = some fn42 := by kernel_rfl
/- sterling/float.shift -/
@[simp] def r60_0 : List HOp := [⟨(some 2), true, .box true (.env 0), none⟩,
     ⟨(some 4), true, .alloc [(.sc (.bool false)), (.sc (.slice none 0 0))], none⟩]
@[simp] def r60_1 : List HOp := [⟨(some 6), false, .mv (.env 1), none⟩,
     ⟨(some 7), false, .bin .other .quo (.loc 6) (.val (.tr (.sc (.int .i64 32)))), none⟩,
     ⟨(some 8), false, .mv (.env 1), none⟩,
     ⟨(some 9), false, .bin .other .quo (.loc 8) (.val (.tr (.sc (.int .i64 32)))), none⟩,
     ⟨(some 10), false, .faddr 1 (.env 2), none⟩,
     ⟨(some 11), false, .load 1 false (.loc 10), none⟩,
     ⟨(some 12), false, .len 1 (.loc 11), none⟩,
     ⟨(some 13), false, .bin .other .add (.loc 9) (.loc 12), none⟩,
     ⟨(some 14), false, .bin .other .add (.loc 13) (.val (.tr (.sc (.int .i64 1)))), none⟩,
     ⟨(some 15), false, .mkslice [(.sc (.int .u32 0))] 4 (.loc 7) (.loc 14), none⟩,
     ⟨(some 5), true, .mv (.loc 15), none⟩]
@[simp] def r60_2 : List HOp := [⟨(some 16), false, .mv (.env 5), none⟩,
     ⟨(some 17), false, .faddr 1 (.env 2), none⟩,
     ⟨(some 18), false, .load 1 false (.loc 17), none⟩,
     ⟨(some 19), false, .append 1 4 (.loc 16) (.loc 18), none⟩,
     ⟨(some 5), true, .mv (.loc 19), none⟩]
@[simp] def r60_3 : List HOp := [⟨(some 20), false, .faddr 0 (.env 2), none⟩,
     ⟨(some 21), false, .ldt 1 false (.loc 20), none⟩,
     ⟨(some 22), false, .mv (.env 5), none⟩,
     ⟨(some 23), false, .build [(.sc (.bool false)), (.sc (.slice none 0 0))] [(0, 1, (.loc 21)), (1, 1, (.loc 22))], none⟩,
     ⟨(some 24), false, .mv (.env 1), none⟩,
     ⟨(some 25), false, .bin .other .rem (.loc 24) (.val (.tr (.sc (.int .i64 32)))), none⟩,
     ⟨(some 26), false, .bin .other .shl (.val (.tr (.sc (.int .i64 1)))) (.loc 25), none⟩,
     ⟨(some 27), false, .callf 24 [(.loc 26)], none⟩,
     ⟨(some 28), false, .callf 26 [(.loc 23), (.loc 27)], none⟩,
     ⟨none, false, .store 2 (.env 4) (.loc 28), none⟩]
@[simp] def k60_2 : HCode := .seq (.region r60_3 (some [ ( 0, [ 2 ] ) , ( 0, [ 20 ] ) , ( 0, [ 5 ] ) , ( 0, [ 21, 22 ] ) , ( 0, [ 1 ] ) , ( 0, [ 24 ] ) , ( 0, [ 25 ] ) , ( 2, [ 26 ] ) , ( 2, [ 23, 27 ] ) , ( 2, [ 4, 28 ] ) ])) .ret
@[simp] def k60_1 : HCode := .seq (.region r60_2 none) k60_2
@[simp] def k60_0 : HCode := .seq (.region r60_1 none) k60_1
@[simp] def fn60 : HFn := { nargs := 2, results := [.cell 4 2 true], mode := .iso, code := (.seq (.region r60_0 none) k60_0) }
theorem c60 : cFn Tryd.prog (Hs 60) .iso 60 = some fn60 := by kernel_rfl
/- sterling/bigint.Int64 -/
@[simp] def r61_0 : List HOp := [⟨(some 1), true, .box true (.env 0), none⟩,
     ⟨(some 2), true, .mv (.val (.tr (.sc (.int .i64 0)))), none⟩,
     ⟨(some 3), true, .mv (.val (.tr (.sc (.bool false)))), none⟩]
@[simp] def r61_1 : List HOp := [⟨(some 8), false, .faddr 1 (.env 1), none⟩,
     ⟨(some 9), false, .load 1 false (.loc 8), none⟩,
     ⟨(some 10), false, .callf 40 [(.loc 9)], none⟩,
     ⟨(some 4), true, .mv (.loc 10), none⟩]
@[simp] def r61_2 : List HOp := [⟨(some 11), false, .mv (.env 4), none⟩,
      ⟨(some 12), false, .len 1 (.loc 11), none⟩,
      ⟨(some 13), false, .bin .other .gtr (.loc 12) (.val (.tr (.sc (.int .i64 2)))), none⟩]
@[simp] def r61_3 : List HOp := [⟨(some 2), true, .mv (.val (.tr (.sc (.int .i64 0)))), none⟩,
       ⟨(some 3), true, .mv (.val (.tr (.sc (.bool false)))), none⟩]
@[simp] def r61_4 : List HOp := [⟨(some 5), true, .mv (.val (.tr (.sc (.int .u64 0)))), none⟩]
@[simp] def r61_5 : List HOp := [⟨(some 14), true, .mv (.env 4), none⟩,
      ⟨(some 15), true, .len 1 (.env 14), none⟩,
      ⟨(some 16), true, .mv (.val (.tr (.sc (.int .i64 0)))), none⟩]
@[simp] def r61_6 : List HOp := [⟨(some 17), false, .bin .other .lss (.env 16) (.env 15), none⟩]
@[simp] def r61_7 : List HOp := [⟨(some 18), false, .mv (.env 16), none⟩,
          ⟨(some 19), false, .iaddr 1 (.env 14) (.env 16), none⟩,
          ⟨(some 20), false, .load 1 false (.loc 19), none⟩,
          ⟨(some 6), true, .mv (.loc 18), none⟩,
          ⟨(some 7), true, .mv (.loc 20), none⟩]
@[simp] def r61_8 : List HOp := [⟨(some 21), false, .mv (.env 5), none⟩,
         ⟨(some 22), false, .mv (.env 7), none⟩,
         ⟨(some 23), false, .conv (.toInt .u64) (.loc 22), none⟩,
         ⟨(some 24), false, .mv (.env 6), none⟩,
         ⟨(some 25), false, .bin .other .mul (.val (.tr (.sc (.int .i64 32)))) (.loc 24), none⟩,
         ⟨(some 26), false, .bin .other .shl (.loc 23) (.loc 25), none⟩,
         ⟨(some 27), false, .bin .other .or (.loc 21) (.loc 26), none⟩,
         ⟨(some 5), true, .mv (.loc 27), none⟩]
@[simp] def r61_9 : List HOp := [⟨(some 28), false, .bin .other .add (.env 16) (.val (.tr (.sc (.int .i64 1)))), none⟩,
       ⟨(some 16), true, .mv (.loc 28), none⟩]
@[simp] def r61_10 : List HOp := [⟨(some 30), false, .faddr 0 (.env 1), none⟩,
       ⟨(some 31), false, .load 1 false (.loc 30), none⟩,
       ⟨(some 32), false, .mv (.loc 31), none⟩,
       ⟨(some 33), false, .mv (.env 5), some ((.loc 32), true)⟩,
       ⟨(some 34), false, .bin .other .leq (.loc 33) (.val (.tr (.sc (.int .u64 9223372036854775808)))), some ((.loc 32), true)⟩,
       ⟨(some 35), false, .pick (.loc 32) (.loc 34) (.val (.tr (.sc (.bool false)))), none⟩,
       ⟨(some 29), false, .mv (.loc 35), none⟩]
@[simp] def r61_11 : List HOp := [⟨(some 36), false, .mv (.env 5), none⟩,
        ⟨(some 37), false, .un .neg (.loc 36), none⟩,
        ⟨(some 38), false, .conv (.toInt .i64) (.loc 37), none⟩,
        ⟨(some 2), true, .mv (.loc 38), none⟩,
        ⟨(some 3), true, .mv (.val (.tr (.sc (.bool true)))), none⟩]
@[simp] def r61_12 : List HOp := [⟨(some 40), false, .faddr 0 (.env 1), none⟩,
        ⟨(some 41), false, .load 1 false (.loc 40), none⟩,
        ⟨(some 42), false, .un .not (.loc 41), none⟩,
        ⟨(some 43), false, .mv (.loc 42), none⟩,
        ⟨(some 44), false, .mv (.env 5), some ((.loc 43), true)⟩,
        ⟨(some 45), false, .bin .other .lss (.loc 44) (.val (.tr (.sc (.int .u64 9223372036854775808)))), some ((.loc 43), true)⟩,
        ⟨(some 46), false, .pick (.loc 43) (.loc 45) (.val (.tr (.sc (.bool false)))), none⟩,
        ⟨(some 39), false, .mv (.loc 46), none⟩]
@[simp] def r61_13 : List HOp := [⟨(some 47), false, .mv (.env 5), none⟩,
         ⟨(some 48), false, .conv (.toInt .i64) (.loc 47), none⟩,
         ⟨(some 2), true, .mv (.loc 48), none⟩,
         ⟨(some 3), true, .mv (.val (.tr (.sc (.bool true)))), none⟩]
@[simp] def r61_14 : List HOp := [⟨(some 2), true, .mv (.val (.tr (.sc (.int .i64 0)))), none⟩,
     ⟨(some 3), true, .mv (.val (.tr (.sc (.bool false)))), none⟩]
@[simp] def k61_3 : HCode := .seq (.region r61_3 none) .ret
@[simp] def k61_2 : HCode := .cond (.loc 13) k61_3 .skip
def k61_9 : HCode := .seq (.block 1 (.seq (.region r61_7 none) (.region r61_8 none))) (.region r61_9 none)
@[simp] def k61_8 : HCode := .seq (.cond (.loc 17) .skip (.exit 0)) k61_9
def k61_7 : HCode := .seq (.region r61_6 none) k61_8
@[simp] def k61_6 : HCode := .block 0 (.loop k61_7)
@[simp] def k61_12 : HCode := .seq (.region r61_11 none) .ret
@[simp] def k61_15 : HCode := .seq (.region r61_13 none) .ret
@[simp] def k61_14 : HCode := .cond (.loc 39) k61_15 .skip
@[simp] def k61_13 : HCode := .seq (.region r61_12 none) k61_14
@[simp] def k61_11 : HCode := .cond (.loc 29) k61_12 k61_13
def k61_16 : HCode := .seq (.region r61_14 none) .ret
def k61_10 : HCode := .seq (.block 2 (.seq (.region r61_10 none) k61_11)) k61_16
@[simp] def k61_5 : HCode := .seq (.seq (.region r61_5 none) k61_6) k61_10
def k61_4 : HCode := .seq (.region r61_4 none) k61_5
@[simp] def k61_1 : HCode := .seq (.seq (.region r61_2 none) k61_2) k61_4
@[simp] def k61_0 : HCode := .seq (.region r61_1 none) k61_1
@[simp] def fn61 : HFn := { nargs := 1, results := [.tmp 2, .tmp 3], mode := .iso, code := (.seq (.region r61_0 none) k61_0) }
theorem c61 : cFn Tryd.prog (Hs 61) .iso 61 = some fn61 := by kernel_rfl
/- math.Inf -/
@[simp] def r43_0 : List HOp := [⟨(some 2), true, .mv (.val (.tr (.sc (.float .f64 0)))), none⟩]
@[simp] def r43_1 : List HOp := [⟨(some 3), true, .mv (.val (.tr (.sc (.int .u64 0)))), none⟩]
@[simp] def r43_2 : List HOp := [⟨(some 4), false, .mv (.env 0), none⟩,
      ⟨(some 5), false, .bin .other .geq (.loc 4) (.val (.tr (.sc (.int .i64 0)))), none⟩]
@[simp] def r43_3 : List HOp := [⟨(some 3), true, .mv (.val (.tr (.sc (.int .u64 9218868437227405312)))), none⟩]
@[simp] def r43_4 : List HOp := [⟨(some 3), true, .mv (.val (.tr (.sc (.int .u64 18442240474082181120)))), none⟩]
@[simp] def r43_5 : List HOp := [⟨(some 6), false, .mv (.env 3), none⟩,
     ⟨(some 7), false, .callf 6 [(.loc 6)], none⟩,
     ⟨(some 2), true, .mv (.loc 7), none⟩]
@[simp] def k43_2 : HCode := .cond (.loc 5) (.region r43_3 none) (.region r43_4 none)
def k43_3 : HCode := .seq (.region r43_5 none) .ret
@[simp] def k43_1 : HCode := .seq (.seq (.region r43_2 none) k43_2) k43_3
@[simp] def k43_0 : HCode := .seq (.region r43_1 none) k43_1
@[simp] def fn43 : HFn := { nargs := 1, results := [.tmp 2], mode := .iso, code := (.seq (.region r43_0 none) k43_0) }
theorem c43 : cFn Tryd.prog (Hs 43) .iso 43 = some fn43 := by kernel_rfl
/- math.Ldexp -/
@[simp] def r44_0 : List HOp := [⟨(some 4), true, .mv (.val (.tr (.sc (.float .f64 0)))), none⟩]
@[simp] def r44_1 : List HOp := [⟨(some 5), false, .mv (.env 0), none⟩,
       ⟨(some 6), false, .mv (.env 1), none⟩,
       ⟨(some 7), false, .callf 63 [(.loc 5), (.loc 6)], none⟩,
       ⟨(some 4), true, .mv (.loc 7), none⟩]
@[simp] def r44_2 : List HOp := [⟨(some 8), false, .mv (.env 0), none⟩,
     ⟨(some 9), false, .mv (.env 1), none⟩,
     ⟨(some 10), false, .callf 64 [(.loc 8), (.loc 9)], none⟩,
     ⟨(some 4), true, .mv (.loc 10), none⟩]
@[simp] def k44_1 : HCode := .seq (.region r44_1 none) .ret
def k44_2 : HCode := .seq (.region r44_2 none) .ret
@[simp] def k44_0 : HCode := .seq (.cond (.val (.tr (.sc (.bool false)))) k44_1 .skip) k44_2
@[simp] def fn44 : HFn := { nargs := 2, results := [.tmp 4], mode := .iso, code := (.seq (.region r44_0 none) k44_0) }
theorem c44 : cFn Tryd.prog (Hs 44) .iso 44 = some fn44 := by kernel_rfl
/- math.ldexp -/
@[simp] def r64_0 : List HOp := [⟨(some 4), true, .mv (.val (.tr (.sc (.float .f64 0)))), none⟩]
@[simp] def r64_1 : List HOp := [⟨(some 9), false, .mv (.env 0), none⟩,
       ⟨(some 10), false, .bin .other .eql (.loc 9) (.val (.tr (.sc (.float .f64 0)))), none⟩,
       ⟨(some 8), false, .mv (.loc 10), none⟩]
@[simp] def r64_2 : List HOp := [⟨(some 11), false, .mv (.env 0), none⟩,
        ⟨(some 4), true, .mv (.loc 11), none⟩]
@[simp] def r64_3 : List HOp := [⟨(some 13), false, .mv (.env 0), none⟩,
        ⟨(some 14), false, .callf 83 [(.loc 13), (.val (.tr (.sc (.int .i64 0))))], none⟩,
        ⟨(some 15), false, .mv (.loc 14), none⟩,
        ⟨(some 16), false, .mv (.env 0), some ((.loc 15), false)⟩,
        ⟨(some 17), false, .callf 84 [(.loc 16)], some ((.loc 15), false)⟩,
        ⟨(some 18), false, .pick (.loc 15) (.val (.tr (.sc (.bool true)))) (.loc 17), none⟩,
        ⟨(some 12), false, .mv (.loc 18), none⟩]
@[simp] def r64_4 : List HOp := [⟨(some 19), false, .mv (.env 0), none⟩,
         ⟨(some 4), true, .mv (.loc 19), none⟩]
@[simp] def r64_5 : List HOp := [⟨(some 21), false, .mv (.env 0), none⟩,
     ⟨(some 22), false, .callf 85 [(.loc 21)], none⟩,
     ⟨(some 20), false, .mv (.loc 22), none⟩,
     ⟨(some 23), false, .extract (.loc 20) 0, none⟩,
     ⟨(some 24), false, .extract (.loc 20) 1, none⟩,
     ⟨(some 0), true, .mv (.loc 23), none⟩,
     ⟨(some 5), true, .mv (.loc 24), none⟩]
@[simp] def r64_6 : List HOp := [⟨(some 25), false, .mv (.env 1), none⟩,
     ⟨(some 26), false, .mv (.env 5), none⟩,
     ⟨(some 27), false, .bin .other .add (.loc 25) (.loc 26), none⟩,
     ⟨(some 1), true, .mv (.loc 27), none⟩]
@[simp] def r64_7 : List HOp := [⟨(some 28), false, .mv (.env 0), none⟩,
     ⟨(some 29), false, .callf 18 [(.loc 28)], none⟩,
     ⟨(some 6), true, .mv (.loc 29), none⟩]
@[simp] def r64_8 : List HOp := [⟨(some 30), false, .mv (.env 1), none⟩,
     ⟨(some 31), false, .mv (.env 6), none⟩,
     ⟨(some 32), false, .bin .other .shr (.loc 31) (.val (.tr (.sc (.int .u64 52)))), none⟩,
     ⟨(some 33), false, .conv (.toInt .i64) (.loc 32), none⟩,
     ⟨(some 34), false, .bin .other .and (.loc 33) (.val (.tr (.sc (.int .i64 2047)))), none⟩,
     ⟨(some 35), false, .bin .other .sub (.loc 34) (.val (.tr (.sc (.int .i64 1023)))), none⟩,
     ⟨(some 36), false, .bin .other .add (.loc 30) (.loc 35), none⟩,
     ⟨(some 1), true, .mv (.loc 36), none⟩]
@[simp] def r64_9 : List HOp := [⟨(some 37), false, .mv (.env 1), none⟩,
      ⟨(some 38), false, .bin .other .lss (.loc 37) (.val (.tr (.sc (.int .i64 (-1075))))), none⟩]
@[simp] def r64_10 : List HOp := [⟨(some 39), false, .mv (.env 0), none⟩,
       ⟨(some 40), false, .callf 86 [(.val (.tr (.sc (.float .f64 0)))), (.loc 39)], none⟩,
       ⟨(some 4), true, .mv (.loc 40), none⟩]
@[simp] def r64_11 : List HOp := [⟨(some 41), false, .mv (.env 1), none⟩,
      ⟨(some 42), false, .bin .other .gtr (.loc 41) (.val (.tr (.sc (.int .i64 1023)))), none⟩]
@[simp] def r64_12 : List HOp := [⟨(some 43), false, .mv (.env 0), none⟩,
        ⟨(some 44), false, .bin .other .lss (.loc 43) (.val (.tr (.sc (.float .f64 0)))), none⟩]
@[simp] def r64_13 : List HOp := [⟨(some 45), false, .callf 43 [(.val (.tr (.sc (.int .i64 (-1)))))], none⟩,
         ⟨(some 4), true, .mv (.loc 45), none⟩]
@[simp] def r64_14 : List HOp := [⟨(some 46), false, .callf 43 [(.val (.tr (.sc (.int .i64 1))))], none⟩,
       ⟨(some 4), true, .mv (.loc 46), none⟩]
@[simp] def r64_15 : List HOp := [⟨(some 7), true, .mv (.val (.tr (.sc (.float .f64 4607182418800017408)))), none⟩]
@[simp] def r64_16 : List HOp := [⟨(some 47), false, .mv (.env 1), none⟩,
      ⟨(some 48), false, .bin .other .lss (.loc 47) (.val (.tr (.sc (.int .i64 (-1022))))), none⟩]
@[simp] def r64_17 : List HOp := [⟨(some 49), false, .mv (.env 1), none⟩,
       ⟨(some 50), false, .bin .other .add (.loc 49) (.val (.tr (.sc (.int .i64 53)))), none⟩,
       ⟨(some 1), true, .mv (.loc 50), none⟩]
@[simp] def r64_18 : List HOp := [⟨(some 7), true, .mv (.val (.tr (.sc (.float .f64 4368491638549381120)))), none⟩]
@[simp] def r64_19 : List HOp := [⟨(some 51), false, .mv (.env 6), none⟩,
     ⟨(some 52), false, .bin .other .andNot (.loc 51) (.val (.tr (.sc (.int .u64 9218868437227405312)))), none⟩,
     ⟨(some 6), true, .mv (.loc 52), none⟩]
@[simp] def r64_20 : List HOp := [⟨(some 53), false, .mv (.env 6), none⟩,
     ⟨(some 54), false, .mv (.env 1), none⟩,
     ⟨(some 55), false, .bin .other .add (.loc 54) (.val (.tr (.sc (.int .i64 1023)))), none⟩,
     ⟨(some 56), false, .conv (.toInt .u64) (.loc 55), none⟩,
     ⟨(some 57), false, .bin .other .shl (.loc 56) (.val (.tr (.sc (.int .u64 52)))), none⟩,
     ⟨(some 58), false, .bin .other .or (.loc 53) (.loc 57), none⟩,
     ⟨(some 6), true, .mv (.loc 58), none⟩]
@[simp] def r64_21 : List HOp := [⟨(some 59), false, .mv (.env 7), none⟩,
     ⟨(some 60), false, .mv (.env 6), none⟩,
     ⟨(some 61), false, .callf 6 [(.loc 60)], none⟩,
     ⟨(some 62), false, .bin .other .mul (.loc 59) (.loc 61), none⟩,
     ⟨(some 4), true, .mv (.loc 62), none⟩]
@[simp] def k64_2 : HCode := .seq (.region r64_2 none) .ret
@[simp] def k64_5 : HCode := .seq (.region r64_4 none) .ret
@[simp] def k64_4 : HCode := .cond (.loc 12) k64_5 .skip
@[simp] def k64_3 : HCode := .seq (.region r64_3 none) k64_4
@[simp] def k64_1 : HCode := .cond (.loc 8) k64_2 k64_3
@[simp] def k64_12 : HCode := .seq (.region r64_10 none) .ret
@[simp] def k64_11 : HCode := .cond (.loc 38) k64_12 .skip
@[simp] def k64_17 : HCode := .seq (.region r64_13 none) .ret
@[simp] def k64_16 : HCode := .cond (.loc 44) k64_17 .skip
def k64_18 : HCode := .seq (.region r64_14 none) .ret
@[simp] def k64_15 : HCode := .seq (.seq (.region r64_12 none) k64_16) k64_18
@[simp] def k64_14 : HCode := .cond (.loc 42) k64_15 .skip
@[simp] def k64_22 : HCode := .seq (.region r64_17 none) (.region r64_18 none)
@[simp] def k64_21 : HCode := .cond (.loc 48) k64_22 .skip
@[simp] def k64_25 : HCode := .seq (.region r64_21 none) .ret
@[simp] def k64_24 : HCode := .seq (.region r64_20 none) k64_25
def k64_23 : HCode := .seq (.region r64_19 none) k64_24
@[simp] def k64_20 : HCode := .seq (.seq (.region r64_16 none) k64_21) k64_23
def k64_19 : HCode := .seq (.region r64_15 none) k64_20
def k64_13 : HCode := .seq (.seq (.region r64_11 none) k64_14) k64_19
@[simp] def k64_10 : HCode := .seq (.seq (.region r64_9 none) k64_11) k64_13
@[simp] def k64_9 : HCode := .seq (.region r64_8 none) k64_10
@[simp] def k64_8 : HCode := .seq (.region r64_7 none) k64_9
@[simp] def k64_7 : HCode := .seq (.region r64_6 none) k64_8
def k64_6 : HCode := .seq (.region r64_5 none) k64_7
@[simp] def k64_0 : HCode := .seq (.block 0 (.seq (.region r64_1 none) k64_1)) k64_6
@[simp] def fn64 : HFn := { nargs := 2, results := [.tmp 4], mode := .iso, code := (.seq (.region r64_0 none) k64_0) }
theorem c64 : cFn Tryd.prog (Hs 64) .iso 64 = some fn64 := by kernel_rfl
end Go.Proofs.YtajcohdhioafiaaDoor.AM.Vl
