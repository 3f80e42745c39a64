/- The functions that IntText reaches, each checked against the translation, part one. -/
import Derived.Test.YtjacddclpcelmaaAm3
import Derived.Test.YtjacddclpcelmaaProg
import Derived.KernelRfl
set_option maxRecDepth 1000000
set_option linter.unusedVariables false
set_option linter.unusedSimpArgs false
namespace Go.Proofs.Ytjacddclpcelmaa.AM.Bi
open Go.Proofs
/-- What was chosen for each function. -/
def Hq (f : Nat) : List Nat := if Nat.beq f 6 then [26] else if Nat.beq f 8 then [21, 27] else []
def Hb (f : Nat) : List Nat := if Nat.beq f 26 then [2, 3] else if Nat.beq f 28 then [4, 5] else if Nat.beq f 57 then [2] else if Nat.beq f 50 then [1] else if Nat.beq f 33 then [1] else if Nat.beq f 18 then [2, 3] else if Nat.beq f 14 then [2, 3] else if Nat.beq f 22 then [2, 3] else if Nat.beq f 24 then [1] else if Nat.beq f 16 then [2, 3] else if Nat.beq f 20 then [1] else if Nat.beq f 12 then [1] else if Nat.beq f 15 then [2, 3] else if Nat.beq f 13 then [2, 3] else if Nat.beq f 40 then [1] else if Nat.beq f 17 then [2, 3] else if Nat.beq f 21 then [1] else if Nat.beq f 19 then [2, 3] else if Nat.beq f 23 then [2, 3] else if Nat.beq f 25 then [1] else if Nat.beq f 27 then [2, 3] else if Nat.beq f 29 then [4, 5] else if Nat.beq f 58 then [2] else if Nat.beq f 36 then [1] else if Nat.beq f 37 then [1] else if Nat.beq f 38 then [1] else []
def Hl (f : Nat) : List Nat := if Nat.beq f 26 then [12, 15, 48, 50, 55] else if Nat.beq f 28 then [20, 23] else if Nat.beq f 18 then [14, 17] else if Nat.beq f 14 then [12, 14, 16, 27, 29, 31, 35, 37, 39] else if Nat.beq f 12 then [14, 21] else if Nat.beq f 15 then [11, 13, 15, 29, 31, 33, 37, 39, 41] else if Nat.beq f 13 then [31] else if Nat.beq f 17 then [5, 6] else if Nat.beq f 29 then [27, 30] else []
def Hs (f : Nat) : Hints := { own := fun _ => !memN f [3, 10, 34, 61, 62, 41, 48, 53, 30, 26, 43, 54, 55, 65, 51, 66, 67, 68, 28, 57, 50, 33, 60, 18, 14, 42, 44, 22, 24, 16, 20, 11, 12, 39, 15, 45, 46, 47, 13, 40, 17, 21, 19, 49, 23, 25, 52, 4, 27, 56, 64, 69, 70, 5, 29, 58, 59, 6, 7, 31, 32, 8, 9, 35, 63, 36, 37, 38], qa := fun d => memN d (Hq f), tu := fun _ => true, bt := fun d => memN d (Hb f), ld := fun d => memN d (Hl f) }
/-- Functions by what they answer: how many arguments, which. -/
def Te (f : Nat) : Option (Nat × Nat) :=  none
/- sterling/sterlinglaw1.IntSums -/
@[simp] def r3_0 : List HOp := [⟨(some 2), true, .box false (.env 0), none⟩,
     ⟨(some 3), true, .box false (.env 1), none⟩,
     ⟨(some 4), true, .mv (.val (.tr (.sc (.bool false)))), none⟩]
@[simp] def r3_1 : List HOp := [⟨(some 8), false, .callf 10 [], none⟩,
     ⟨(some 5), true, .mv (.loc 8), none⟩]
@[simp] def r3_2 : List HOp := [⟨(some 9), false, .load 2 true (.env 2), none⟩,
     ⟨(some 10), false, .callf 11 [(.loc 9), (.val (.tr (.sc (.int .i64 12))))], none⟩,
     ⟨(some 11), false, .load 2 true (.env 3), none⟩,
     ⟨(some 12), false, .callf 11 [(.loc 11), (.val (.tr (.sc (.int .i64 12))))], none⟩,
     ⟨none, false, .store 2 (.env 2) (.loc 10), none⟩,
     ⟨none, false, .store 2 (.env 3) (.loc 12), none⟩]
@[simp] def r3_3 : List HOp := [⟨(some 13), false, .load 2 true (.env 2), none⟩,
     ⟨(some 14), false, .callf 12 [(.loc 13)], none⟩,
     ⟨(some 15), false, .load 2 true (.env 3), none⟩,
     ⟨(some 16), false, .callf 12 [(.loc 15)], none⟩,
     ⟨(some 6), true, .alloc [(.sc (.bool false)), (.sc (.slice none 0 0))], none⟩,
     ⟨(some 7), true, .alloc [(.sc (.bool false)), (.sc (.slice none 0 0))], none⟩,
     ⟨none, false, .store 2 (.env 6) (.loc 14), none⟩,
     ⟨none, false, .store 2 (.env 7) (.loc 16), none⟩]
@[simp] def r3_4 : List HOp := [⟨(some 17), false, .mv (.env 5), none⟩,
     ⟨(some 18), false, .mv (.loc 17), none⟩,
     ⟨(some 19), false, .load 2 true (.env 2), some ((.loc 18), true)⟩,
     ⟨(some 20), false, .load 2 true (.env 3), some ((.loc 18), true)⟩,
     ⟨(some 21), false, .callf 14 [(.loc 19), (.loc 20)], some ((.loc 18), true)⟩,
     ⟨(some 22), false, .load 2 true (.env 6), some ((.loc 18), true)⟩,
     ⟨(some 23), false, .load 2 true (.env 7), some ((.loc 18), true)⟩,
     ⟨(some 24), false, .callf 15 [(.loc 22), (.loc 23)], some ((.loc 18), true)⟩,
     ⟨(some 25), false, .callf 13 [(.loc 21), (.loc 24)], some ((.loc 18), true)⟩,
     ⟨(some 26), false, .pick (.loc 18) (.loc 25) (.val (.tr (.sc (.bool false)))), none⟩,
     ⟨(some 27), false, .mv (.loc 26), none⟩,
     ⟨(some 28), false, .load 2 true (.env 2), some ((.loc 27), true)⟩,
     ⟨(some 29), false, .load 2 true (.env 3), some ((.loc 27), true)⟩,
     ⟨(some 30), false, .callf 16 [(.loc 28), (.loc 29)], some ((.loc 27), true)⟩,
     ⟨(some 31), false, .load 2 true (.env 6), some ((.loc 27), true)⟩,
     ⟨(some 32), false, .load 2 true (.env 7), some ((.loc 27), true)⟩,
     ⟨(some 33), false, .callf 17 [(.loc 31), (.loc 32)], some ((.loc 27), true)⟩,
     ⟨(some 34), false, .callf 13 [(.loc 30), (.loc 33)], some ((.loc 27), true)⟩,
     ⟨(some 35), false, .pick (.loc 27) (.loc 34) (.val (.tr (.sc (.bool false)))), none⟩,
     ⟨(some 36), false, .mv (.loc 35), none⟩,
     ⟨(some 37), false, .load 2 true (.env 2), some ((.loc 36), true)⟩,
     ⟨(some 38), false, .load 2 true (.env 3), some ((.loc 36), true)⟩,
     ⟨(some 39), false, .callf 18 [(.loc 37), (.loc 38)], some ((.loc 36), true)⟩,
     ⟨(some 40), false, .load 2 true (.env 6), some ((.loc 36), true)⟩,
     ⟨(some 41), false, .load 2 true (.env 7), some ((.loc 36), true)⟩,
     ⟨(some 42), false, .callf 19 [(.loc 40), (.loc 41)], some ((.loc 36), true)⟩,
     ⟨(some 43), false, .callf 13 [(.loc 39), (.loc 42)], some ((.loc 36), true)⟩,
     ⟨(some 44), false, .pick (.loc 36) (.loc 43) (.val (.tr (.sc (.bool false)))), none⟩,
     ⟨(some 45), false, .mv (.loc 44), none⟩,
     ⟨(some 46), false, .load 2 true (.env 2), some ((.loc 45), true)⟩,
     ⟨(some 47), false, .callf 20 [(.loc 46)], some ((.loc 45), true)⟩,
     ⟨(some 48), false, .load 2 true (.env 6), some ((.loc 45), true)⟩,
     ⟨(some 49), false, .callf 21 [(.loc 48)], some ((.loc 45), true)⟩,
     ⟨(some 50), false, .callf 13 [(.loc 47), (.loc 49)], some ((.loc 45), true)⟩,
     ⟨(some 51), false, .pick (.loc 45) (.loc 50) (.val (.tr (.sc (.bool false)))), none⟩,
     ⟨(some 52), false, .mv (.loc 51), none⟩,
     ⟨(some 53), false, .load 2 true (.env 2), some ((.loc 52), true)⟩,
     ⟨(some 54), false, .load 2 true (.env 3), some ((.loc 52), true)⟩,
     ⟨(some 55), false, .callf 22 [(.loc 53), (.loc 54)], some ((.loc 52), true)⟩,
     ⟨(some 56), false, .load 2 true (.env 6), some ((.loc 52), true)⟩,
     ⟨(some 57), false, .load 2 true (.env 7), some ((.loc 52), true)⟩,
     ⟨(some 58), false, .callf 23 [(.loc 56), (.loc 57)], some ((.loc 52), true)⟩,
     ⟨(some 59), false, .bin .other .eql (.loc 55) (.loc 58), some ((.loc 52), true)⟩,
     ⟨(some 60), false, .pick (.loc 52) (.loc 59) (.val (.tr (.sc (.bool false)))), none⟩,
     ⟨(some 61), false, .mv (.loc 60), none⟩,
     ⟨(some 62), false, .load 2 true (.env 2), some ((.loc 61), true)⟩,
     ⟨(some 63), false, .callf 24 [(.loc 62)], some ((.loc 61), true)⟩,
     ⟨(some 64), false, .load 2 true (.env 6), some ((.loc 61), true)⟩,
     ⟨(some 65), false, .callf 25 [(.loc 64)], some ((.loc 61), true)⟩,
     ⟨(some 66), false, .bin .other .eql (.loc 63) (.loc 65), some ((.loc 61), true)⟩,
     ⟨(some 67), false, .pick (.loc 61) (.loc 66) (.val (.tr (.sc (.bool false)))), none⟩,
     ⟨(some 4), true, .mv (.loc 67), none⟩]
@[simp] def k3_3 : HCode := .seq (.region r3_4 (some [ ( 0, [ 5 ] ) , ( 0, [ 17 ] ) , ( 1, [ 2, 18 ] ) , ( 1, [ 3, 18 ] ) , ( 1, [ 19, 20, 18 ] ) , ( 1, [ 6, 18 ] ) , ( 1, [ 7, 18 ] ) , ( 2, [ 22, 23, 18 ] ) , ( 2, [ 21, 24, 18 ] ) , ( 0, [ 18, 25 ] ) , ( 0, [ 26 ] ) , ( 1, [ 2, 27 ] ) , ( 1, [ 3, 27 ] ) , ( 1, [ 28, 29, 27 ] ) , ( 1, [ 6, 27 ] ) , ( 1, [ 7, 27 ] ) , ( 2, [ 31, 32, 27 ] ) , ( 2, [ 30, 33, 27 ] ) , ( 0, [ 27, 34 ] ) , ( 0, [ 35 ] ) , ( 1, [ 2, 36 ] ) , ( 1, [ 3, 36 ] ) , ( 1, [ 37, 38, 36 ] ) , ( 1, [ 6, 36 ] ) , ( 1, [ 7, 36 ] ) , ( 2, [ 40, 41, 36 ] ) , ( 2, [ 39, 42, 36 ] ) , ( 0, [ 36, 43 ] ) , ( 0, [ 44 ] ) , ( 1, [ 2, 45 ] ) , ( 1, [ 46, 45 ] ) , ( 1, [ 6, 45 ] ) , ( 2, [ 48, 45 ] ) , ( 2, [ 47, 49, 45 ] ) , ( 0, [ 45, 50 ] ) , ( 0, [ 51 ] ) , ( 1, [ 2, 52 ] ) , ( 1, [ 3, 52 ] ) , ( 1, [ 53, 54, 52 ] ) , ( 1, [ 6, 52 ] ) , ( 1, [ 7, 52 ] ) , ( 2, [ 56, 57, 52 ] ) , ( 0, [ 55, 58, 52 ] ) , ( 0, [ 52, 59 ] ) , ( 0, [ 60 ] ) , ( 1, [ 2, 61 ] ) , ( 1, [ 62, 61 ] ) , ( 1, [ 6, 61 ] ) , ( 2, [ 64, 61 ] ) , ( 0, [ 63, 65, 61 ] ) , ( 0, [ 61, 66 ] ) , ( 0, [ 67 ] ) ])) .ret
@[simp] def k3_2 : HCode := .seq (.region r3_3 (some [ ( 1, [ 2 ] ) , ( 1, [ 13 ] ) , ( 1, [ 3 ] ) , ( 1, [ 15 ] ) , ( 1, [ ] ) , ( 1, [ ] ) , ( 2, [ 6, 14 ] ) , ( 2, [ 7, 16 ] ) ])) k3_3
@[simp] def k3_1 : HCode := .seq (.region r3_2 (some [ ( 1, [ 2 ] ) , ( 1, [ 9 ] ) , ( 1, [ 3 ] ) , ( 2, [ 11 ] ) , ( 2, [ 2, 10 ] ) , ( 2, [ 3, 12 ] ) ])) k3_2
@[simp] def k3_0 : HCode := .seq (.region r3_1 none) k3_1
@[simp] def fn3 : HFn := { nargs := 2, results := [.tmp 4], mode := .shared, code := (.seq (.region r3_0 none) k3_0) }
theorem c3 : cFn Try.prog (Hs 3) .shared 3 = some fn3 := by kernel_rfl
/- sterling/sterlinglaw1.begun -/
@[simp] def r10_0 : List HOp := [⟨(some 0), true, .mv (.val (.tr (.sc (.bool false)))), none⟩]
@[simp] def r10_1 : List HOp := [⟨(some 9), false, .callf 34 [(.val (.tr (.sc (.string ⟨⟨[49, 50, 51, 52, 53, 54, 55, 56, 57, 48, 49, 50, 51, 52, 53, 54, 55, 56, 57, 48]⟩⟩)))), (.val (.tr (.sc (.int .i64 10))))], none⟩,
     ⟨(some 8), false, .mv (.loc 9), none⟩,
     ⟨(some 10), false, .extract (.loc 8) 0, none⟩,
     ⟨(some 11), false, .extract (.loc 8) 1, none⟩,
     ⟨(some 1), true, .alloc [(.sc (.bool false)), (.sc (.slice none 0 0))], none⟩,
     ⟨none, false, .store 2 (.env 1) (.loc 10), none⟩,
     ⟨(some 2), true, .mv (.loc 11), none⟩]
@[simp] def r10_2 : List HOp := [⟨(some 13), false, .load 2 true (.env 1), none⟩,
     ⟨(some 14), false, .callf 30 [(.val (.tr (.sc (.int .i64 (-7)))))], none⟩,
     ⟨(some 15), false, .callf 26 [(.loc 13), (.loc 14)], none⟩,
     ⟨(some 12), false, .mv (.loc 15), none⟩,
     ⟨(some 16), false, .extract (.loc 12) 0, none⟩,
     ⟨(some 17), false, .extract (.loc 12) 1, none⟩,
     ⟨(some 18), false, .extract (.loc 12) 2, none⟩,
     ⟨(some 3), true, .alloc [(.sc (.bool false)), (.sc (.slice none 0 0))], none⟩,
     ⟨(some 4), true, .alloc [(.sc (.bool false)), (.sc (.slice none 0 0))], none⟩,
     ⟨none, false, .store 2 (.env 3) (.loc 16), none⟩,
     ⟨none, false, .store 2 (.env 4) (.loc 17), none⟩,
     ⟨(some 5), true, .mv (.loc 18), none⟩]
@[simp] def r10_3 : List HOp := [⟨(some 20), false, .callf 30 [(.val (.tr (.sc (.int .i64 (-2)))))], none⟩,
     ⟨(some 21), false, .callf 30 [(.val (.tr (.sc (.int .i64 7))))], none⟩,
     ⟨(some 22), false, .callf 28 [(.val (.tr (.sc (.string ⟨⟨[38]⟩⟩)))), (.loc 20), (.loc 21)], none⟩,
     ⟨(some 19), false, .mv (.loc 22), none⟩,
     ⟨(some 23), false, .extract (.loc 19) 0, none⟩,
     ⟨(some 24), false, .extract (.loc 19) 1, none⟩,
     ⟨(some 6), true, .alloc [(.sc (.bool false)), (.sc (.slice none 0 0))], none⟩,
     ⟨none, false, .store 2 (.env 6) (.loc 23), none⟩,
     ⟨(some 7), true, .mv (.loc 24), none⟩]
@[simp] def r10_4 : List HOp := [⟨(some 25), false, .mv (.env 2), none⟩,
     ⟨(some 26), false, .mv (.loc 25), none⟩,
     ⟨(some 27), false, .load 2 true (.env 1), some ((.loc 26), true)⟩,
     ⟨(some 28), false, .callf 33 [(.loc 27)], some ((.loc 26), true)⟩,
     ⟨(some 29), false, .bin .other .eql (.loc 28) (.val (.tr (.sc (.string ⟨⟨[49, 50, 51, 52, 53, 54, 55, 56, 57, 48, 49, 50, 51, 52, 53, 54, 55, 56, 57, 48]⟩⟩)))), some ((.loc 26), true)⟩,
     ⟨(some 30), false, .pick (.loc 26) (.loc 29) (.val (.tr (.sc (.bool false)))), none⟩,
     ⟨(some 31), false, .mv (.loc 30), none⟩,
     ⟨(some 32), false, .mv (.env 5), some ((.loc 31), true)⟩,
     ⟨(some 33), false, .pick (.loc 31) (.loc 32) (.val (.tr (.sc (.bool false)))), none⟩,
     ⟨(some 34), false, .mv (.loc 33), none⟩,
     ⟨(some 35), false, .load 2 true (.env 3), some ((.loc 34), true)⟩,
     ⟨(some 36), false, .callf 30 [(.val (.tr (.sc (.int .i64 (-7)))))], some ((.loc 34), true)⟩,
     ⟨(some 37), false, .callf 18 [(.loc 35), (.loc 36)], some ((.loc 34), true)⟩,
     ⟨(some 38), false, .load 2 true (.env 4), some ((.loc 34), true)⟩,
     ⟨(some 39), false, .callf 14 [(.loc 37), (.loc 38)], some ((.loc 34), true)⟩,
     ⟨(some 40), false, .load 2 true (.env 1), some ((.loc 34), true)⟩,
     ⟨(some 41), false, .callf 22 [(.loc 39), (.loc 40)], some ((.loc 34), true)⟩,
     ⟨(some 42), false, .bin .other .eql (.loc 41) (.val (.tr (.sc (.int .i64 0)))), some ((.loc 34), true)⟩,
     ⟨(some 43), false, .pick (.loc 34) (.loc 42) (.val (.tr (.sc (.bool false)))), none⟩,
     ⟨(some 44), false, .mv (.loc 43), none⟩,
     ⟨(some 45), false, .mv (.env 7), some ((.loc 44), true)⟩,
     ⟨(some 46), false, .pick (.loc 44) (.loc 45) (.val (.tr (.sc (.bool false)))), none⟩,
     ⟨(some 47), false, .mv (.loc 46), none⟩,
     ⟨(some 48), false, .load 2 true (.env 6), some ((.loc 47), true)⟩,
     ⟨(some 49), false, .callf 33 [(.loc 48)], some ((.loc 47), true)⟩,
     ⟨(some 50), false, .bin .other .eql (.loc 49) (.val (.tr (.sc (.string ⟨⟨[54]⟩⟩)))), some ((.loc 47), true)⟩,
     ⟨(some 51), false, .pick (.loc 47) (.loc 50) (.val (.tr (.sc (.bool false)))), none⟩,
     ⟨(some 52), false, .mv (.loc 51), none⟩,
     ⟨(some 53), false, .callf 30 [(.val (.tr (.sc (.int .i64 8))))], some ((.loc 52), true)⟩,
     ⟨(some 54), false, .callf 24 [(.loc 53)], some ((.loc 52), true)⟩,
     ⟨(some 55), false, .bin .other .eql (.loc 54) (.val (.tr (.sc (.int .i64 4)))), some ((.loc 52), true)⟩,
     ⟨(some 56), false, .pick (.loc 52) (.loc 55) (.val (.tr (.sc (.bool false)))), none⟩,
     ⟨(some 57), false, .mv (.loc 56), none⟩,
     ⟨(some 58), false, .load 2 true (.env 4), some ((.loc 57), true)⟩,
     ⟨(some 59), false, .load 2 true (.env 4), some ((.loc 57), true)⟩,
     ⟨(some 60), false, .callf 16 [(.loc 58), (.loc 59)], some ((.loc 57), true)⟩,
     ⟨(some 61), false, .callf 20 [(.loc 60)], some ((.loc 57), true)⟩,
     ⟨(some 62), false, .callf 33 [(.loc 61)], some ((.loc 57), true)⟩,
     ⟨(some 63), false, .bin .other .eql (.loc 62) (.val (.tr (.sc (.string ⟨⟨[48]⟩⟩)))), some ((.loc 57), true)⟩,
     ⟨(some 64), false, .pick (.loc 57) (.loc 63) (.val (.tr (.sc (.bool false)))), none⟩,
     ⟨(some 0), true, .mv (.loc 64), none⟩]
@[simp] def k10_3 : HCode := .seq (.region r10_4 (some [ ( 0, [ 2 ] ) , ( 0, [ 25 ] ) , ( 2, [ 1, 26 ] ) , ( 2, [ 27, 26 ] ) , ( 0, [ 28, 26 ] ) , ( 0, [ 26, 29 ] ) , ( 0, [ 30 ] ) , ( 0, [ 5, 31 ] ) , ( 0, [ 31, 32 ] ) , ( 0, [ 33 ] ) , ( 1, [ 3, 34 ] ) , ( 1, [ 34 ] ) , ( 1, [ 35, 36, 34 ] ) , ( 1, [ 4, 34 ] ) , ( 1, [ 37, 38, 34 ] ) , ( 1, [ 1, 34 ] ) , ( 2, [ 39, 40, 34 ] ) , ( 0, [ 41, 34 ] ) , ( 0, [ 34, 42 ] ) , ( 0, [ 43 ] ) , ( 0, [ 7, 44 ] ) , ( 0, [ 44, 45 ] ) , ( 0, [ 46 ] ) , ( 2, [ 6, 47 ] ) , ( 2, [ 48, 47 ] ) , ( 0, [ 49, 47 ] ) , ( 0, [ 47, 50 ] ) , ( 0, [ 51 ] ) , ( 2, [ 52 ] ) , ( 2, [ 53, 52 ] ) , ( 0, [ 54, 52 ] ) , ( 0, [ 52, 55 ] ) , ( 0, [ 56 ] ) , ( 1, [ 4, 57 ] ) , ( 1, [ 4, 57 ] ) , ( 2, [ 58, 59, 57 ] ) , ( 2, [ 60, 57 ] ) , ( 2, [ 61, 57 ] ) , ( 0, [ 62, 57 ] ) , ( 0, [ 57, 63 ] ) , ( 0, [ 64 ] ) ])) .ret
@[simp] def k10_2 : HCode := .seq (.region r10_3 none) k10_3
@[simp] def k10_1 : HCode := .seq (.region r10_2 (some [ ( 1, [ 1 ] ) , ( 1, [ ] ) , ( 1, [ 13, 14 ] ) , ( 0, [ 15 ] ) , ( 0, [ 12 ] ) , ( 0, [ 12 ] ) , ( 0, [ 12 ] ) , ( 1, [ ] ) , ( 1, [ ] ) , ( 2, [ 3, 16 ] ) , ( 2, [ 4, 17 ] ) , ( 0, [ 18 ] ) ])) k10_2
@[simp] def k10_0 : HCode := .seq (.region r10_1 none) k10_1
@[simp] def fn10 : HFn := { nargs := 0, results := [.tmp 0], mode := .iso, code := (.seq (.region r10_0 none) k10_0) }
theorem c10 : cFn Try.prog (Hs 10) .iso 10 = some fn10 := by kernel_rfl
/- sterling/bigint.Parse -/
@[simp] def r34_0 : List HOp := [⟨(some 4), true, .alloc [(.sc (.bool false)), (.sc (.slice none 0 0))], none⟩,
     ⟨(some 5), true, .mv (.val (.tr (.sc (.bool false)))), none⟩]
@[simp] def r34_1 : List HOp := [⟨(some 9), false, .mv (.env 0), none⟩,
      ⟨(some 10), false, .bin .other .eql (.loc 9) (.val (.tr (.sc (.string ⟨⟨[]⟩⟩)))), none⟩,
      ⟨(some 11), false, .mv (.loc 10), none⟩,
      ⟨(some 12), false, .mv (.env 1), some ((.loc 11), false)⟩,
      ⟨(some 13), false, .bin .other .neq (.loc 12) (.val (.tr (.sc (.int .i64 2)))), some ((.loc 11), false)⟩,
      ⟨(some 14), false, .mv (.loc 13), some ((.loc 11), false)⟩,
      ⟨(some 15), false, .mv (.env 1), some ((.loc 14), true)⟩,
      ⟨(some 16), false, .bin .other .neq (.loc 15) (.val (.tr (.sc (.int .i64 8)))), some ((.loc 14), true)⟩,
      ⟨(some 17), false, .pick (.loc 14) (.loc 16) (.val (.tr (.sc (.bool false)))), some ((.loc 11), false)⟩,
      ⟨(some 18), false, .mv (.loc 17), some ((.loc 11), false)⟩,
      ⟨(some 19), false, .mv (.env 1), some ((.loc 18), true)⟩,
      ⟨(some 20), false, .bin .other .neq (.loc 19) (.val (.tr (.sc (.int .i64 10)))), some ((.loc 18), true)⟩,
      ⟨(some 21), false, .pick (.loc 18) (.loc 20) (.val (.tr (.sc (.bool false)))), some ((.loc 11), false)⟩,
      ⟨(some 22), false, .mv (.loc 21), some ((.loc 11), false)⟩,
      ⟨(some 23), false, .mv (.env 1), some ((.loc 22), true)⟩,
      ⟨(some 24), false, .bin .other .neq (.loc 23) (.val (.tr (.sc (.int .i64 16)))), some ((.loc 22), true)⟩,
      ⟨(some 25), false, .pick (.loc 22) (.loc 24) (.val (.tr (.sc (.bool false)))), some ((.loc 11), false)⟩,
      ⟨(some 26), false, .pick (.loc 11) (.val (.tr (.sc (.bool true)))) (.loc 25), none⟩]
@[simp] def r34_2 : List HOp := [⟨(some 27), false, .build [(.sc (.bool false)), (.sc (.slice none 0 0))] [], none⟩,
       ⟨none, false, .store 2 (.env 4) (.loc 27), none⟩,
       ⟨(some 5), true, .mv (.val (.tr (.sc (.bool false)))), none⟩]
@[simp] def r34_3 : List HOp := [⟨(some 6), true, .mv (.val (.tr (.sc (.slice none 0 0)))), none⟩]
@[simp] def r34_4 : List HOp := [⟨(some 28), false, .mv (.env 0), none⟩,
      ⟨(some 29), true, .len 0 (.loc 28), none⟩,
      ⟨(some 30), true, .mv (.val (.tr (.sc (.int .i64 0)))), none⟩]
@[simp] def r34_5 : List HOp := [⟨(some 31), false, .bin .other .lss (.env 30) (.env 29), none⟩]
@[simp] def r34_6 : List HOp := [⟨(some 32), false, .mv (.env 30), none⟩,
          ⟨(some 7), true, .mv (.loc 32), none⟩]
@[simp] def r34_7 : List HOp := [⟨(some 33), false, .mv (.env 0), none⟩,
          ⟨(some 34), false, .mv (.env 7), none⟩,
          ⟨(some 35), false, .istr (.loc 33) (.loc 34), none⟩,
          ⟨(some 36), false, .callf 61 [(.loc 35)], none⟩,
          ⟨(some 8), true, .mv (.loc 36), none⟩]
@[simp] def r34_8 : List HOp := [⟨(some 37), false, .mv (.env 8), none⟩,
           ⟨(some 38), false, .mv (.env 1), none⟩,
           ⟨(some 39), false, .bin .other .geq (.loc 37) (.loc 38), none⟩]
@[simp] def r34_9 : List HOp := [⟨(some 40), false, .build [(.sc (.bool false)), (.sc (.slice none 0 0))] [], none⟩,
            ⟨none, false, .store 2 (.env 4) (.loc 40), none⟩,
            ⟨(some 5), true, .mv (.val (.tr (.sc (.bool false)))), none⟩]
@[simp] def r34_10 : List HOp := [⟨(some 41), false, .mv (.env 6), none⟩,
         ⟨(some 42), false, .mv (.env 1), none⟩,
         ⟨(some 43), false, .conv (.toInt .u32) (.loc 42), none⟩,
         ⟨(some 44), false, .mv (.env 8), none⟩,
         ⟨(some 45), false, .conv (.toInt .u32) (.loc 44), none⟩,
         ⟨(some 46), false, .callf 62 [(.loc 41), (.loc 43), (.loc 45)], none⟩,
         ⟨(some 6), true, .mv (.loc 46), none⟩]
@[simp] def r34_11 : List HOp := [⟨(some 47), false, .bin .other .add (.env 30) (.val (.tr (.sc (.int .i64 1)))), none⟩,
       ⟨(some 30), true, .mv (.loc 47), none⟩]
@[simp] def r34_12 : List HOp := [⟨(some 48), false, .mv (.env 6), none⟩,
     ⟨(some 49), false, .callf 41 [(.val (.tr (.sc (.bool false)))), (.loc 48)], none⟩,
     ⟨none, false, .store 2 (.env 4) (.loc 49), none⟩,
     ⟨(some 5), true, .mv (.val (.tr (.sc (.bool true)))), none⟩]
@[simp] def k34_2 : HCode := .seq (.region r34_2 none) .ret
@[simp] def k34_1 : HCode := .cond (.loc 26) k34_2 .skip
@[simp] def k34_12 : HCode := .seq (.region r34_9 none) .ret
@[simp] def k34_11 : HCode := .cond (.loc 39) k34_12 .skip
def k34_13 : HCode := .region r34_10 none
@[simp] def k34_10 : HCode := .seq (.seq (.region r34_8 none) k34_11) k34_13
@[simp] def k34_9 : HCode := .seq (.region r34_7 none) k34_10
def k34_14 : HCode := .region r34_11 none
def k34_8 : HCode := .seq (.block 1 (.seq (.region r34_6 none) k34_9)) k34_14
@[simp] def k34_7 : HCode := .seq (.cond (.loc 31) .skip (.exit 0)) k34_8
def k34_6 : HCode := .seq (.region r34_5 none) k34_7
@[simp] def k34_5 : HCode := .block 0 (.loop k34_6)
def k34_15 : HCode := .seq (.region r34_12 none) .ret
@[simp] def k34_4 : HCode := .seq (.seq (.region r34_4 none) k34_5) k34_15
def k34_3 : HCode := .seq (.region r34_3 none) k34_4
@[simp] def k34_0 : HCode := .seq (.seq (.region r34_1 none) k34_1) k34_3
@[simp] def fn34 : HFn := { nargs := 2, results := [.cell 4 2 true, .tmp 5], mode := .iso, code := (.seq (.region r34_0 none) k34_0) }
theorem c34 : cFn Try.prog (Hs 34) .iso 34 = some fn34 := by kernel_rfl
/- sterling/bigint.digit -/
@[simp] def r61_0 : List HOp := [⟨(some 2), true, .mv (.val (.tr (.sc (.int .i64 0)))), none⟩]
@[simp] def r61_1 : List HOp := [⟨(some 4), false, .mv (.env 0), none⟩,
       ⟨(some 5), false, .bin .other .geq (.loc 4) (.val (.tr (.sc (.int .u8 48)))), none⟩,
       ⟨(some 6), false, .mv (.loc 5), none⟩,
       ⟨(some 7), false, .mv (.env 0), some ((.loc 6), true)⟩,
       ⟨(some 8), false, .bin .other .leq (.loc 7) (.val (.tr (.sc (.int .u8 57)))), some ((.loc 6), true)⟩,
       ⟨(some 9), false, .pick (.loc 6) (.loc 8) (.val (.tr (.sc (.bool false)))), none⟩,
       ⟨(some 3), false, .mv (.loc 9), none⟩]
@[simp] def r61_2 : List HOp := [⟨(some 10), false, .mv (.env 0), none⟩,
        ⟨(some 11), false, .bin .other .sub (.loc 10) (.val (.tr (.sc (.int .u8 48)))), none⟩,
        ⟨(some 12), false, .conv (.toInt .i64) (.loc 11), none⟩,
        ⟨(some 2), true, .mv (.loc 12), none⟩]
@[simp] def r61_3 : List HOp := [⟨(some 14), false, .mv (.env 0), none⟩,
        ⟨(some 15), false, .bin .other .geq (.loc 14) (.val (.tr (.sc (.int .u8 97)))), none⟩,
        ⟨(some 16), false, .mv (.loc 15), none⟩,
        ⟨(some 17), false, .mv (.env 0), some ((.loc 16), true)⟩,
        ⟨(some 18), false, .bin .other .leq (.loc 17) (.val (.tr (.sc (.int .u8 102)))), some ((.loc 16), true)⟩,
        ⟨(some 19), false, .pick (.loc 16) (.loc 18) (.val (.tr (.sc (.bool false)))), none⟩,
        ⟨(some 13), false, .mv (.loc 19), none⟩]
@[simp] def r61_4 : List HOp := [⟨(some 20), false, .mv (.env 0), none⟩,
         ⟨(some 21), false, .bin .other .sub (.loc 20) (.val (.tr (.sc (.int .u8 97)))), none⟩,
         ⟨(some 22), false, .conv (.toInt .i64) (.loc 21), none⟩,
         ⟨(some 23), false, .bin .other .add (.loc 22) (.val (.tr (.sc (.int .i64 10)))), none⟩,
         ⟨(some 2), true, .mv (.loc 23), none⟩]
@[simp] def r61_5 : List HOp := [⟨(some 25), false, .mv (.env 0), none⟩,
         ⟨(some 26), false, .bin .other .geq (.loc 25) (.val (.tr (.sc (.int .u8 65)))), none⟩,
         ⟨(some 27), false, .mv (.loc 26), none⟩,
         ⟨(some 28), false, .mv (.env 0), some ((.loc 27), true)⟩,
         ⟨(some 29), false, .bin .other .leq (.loc 28) (.val (.tr (.sc (.int .u8 70)))), some ((.loc 27), true)⟩,
         ⟨(some 30), false, .pick (.loc 27) (.loc 29) (.val (.tr (.sc (.bool false)))), none⟩,
         ⟨(some 24), false, .mv (.loc 30), none⟩]
@[simp] def r61_6 : List HOp := [⟨(some 31), false, .mv (.env 0), none⟩,
          ⟨(some 32), false, .bin .other .sub (.loc 31) (.val (.tr (.sc (.int .u8 65)))), none⟩,
          ⟨(some 33), false, .conv (.toInt .i64) (.loc 32), none⟩,
          ⟨(some 34), false, .bin .other .add (.loc 33) (.val (.tr (.sc (.int .i64 10)))), none⟩,
          ⟨(some 2), true, .mv (.loc 34), none⟩]
@[simp] def r61_7 : List HOp := [⟨(some 2), true, .mv (.val (.tr (.sc (.int .i64 99)))), none⟩]
@[simp] def k61_2 : HCode := .seq (.region r61_2 none) .ret
@[simp] def k61_5 : HCode := .seq (.region r61_4 none) .ret
@[simp] def k61_8 : HCode := .seq (.region r61_6 none) .ret
@[simp] def k61_7 : HCode := .cond (.loc 24) k61_8 .skip
@[simp] def k61_6 : HCode := .seq (.region r61_5 none) k61_7
@[simp] def k61_4 : HCode := .cond (.loc 13) k61_5 k61_6
@[simp] def k61_3 : HCode := .seq (.region r61_3 none) k61_4
@[simp] def k61_1 : HCode := .cond (.loc 3) k61_2 k61_3
def k61_9 : HCode := .seq (.region r61_7 none) .ret
@[simp] def k61_0 : HCode := .seq (.block 0 (.seq (.region r61_1 none) k61_1)) k61_9
@[simp] def fn61 : HFn := { nargs := 1, results := [.tmp 2], mode := .iso, code := (.seq (.region r61_0 none) k61_0) }
theorem c61 : cFn Try.prog (Hs 61) .iso 61 = some fn61 := by kernel_rfl
/- sterling/bigint.grow -/
@[simp] def r62_0 : List HOp := [⟨(some 6), true, .mv (.val (.tr (.sc (.slice none 0 0)))), none⟩]
@[simp] def r62_1 : List HOp := [⟨(some 10), false, .mv (.env 2), none⟩,
     ⟨(some 11), false, .conv (.toInt .u64) (.loc 10), none⟩,
     ⟨(some 7), true, .mv (.loc 11), none⟩]
@[simp] def r62_2 : List HOp := [⟨(some 12), true, .mv (.env 0), none⟩,
      ⟨(some 13), true, .len 1 (.env 12), none⟩,
      ⟨(some 14), true, .mv (.val (.tr (.sc (.int .i64 0)))), none⟩]
@[simp] def r62_3 : List HOp := [⟨(some 15), false, .bin .other .lss (.env 14) (.env 13), none⟩]
@[simp] def r62_4 : List HOp := [⟨(some 16), false, .mv (.env 14), none⟩,
          ⟨(some 17), false, .iaddr 1 (.env 12) (.env 14), none⟩,
          ⟨(some 18), false, .load 1 false (.loc 17), none⟩,
          ⟨(some 8), true, .mv (.loc 16), none⟩,
          ⟨(some 9), true, .mv (.loc 18), none⟩]
@[simp] def r62_5 : List HOp := [⟨(some 19), false, .mv (.env 7), none⟩,
          ⟨(some 20), false, .mv (.env 9), none⟩,
          ⟨(some 21), false, .conv (.toInt .u64) (.loc 20), none⟩,
          ⟨(some 22), false, .mv (.env 1), none⟩,
          ⟨(some 23), false, .conv (.toInt .u64) (.loc 22), none⟩,
          ⟨(some 24), false, .bin .other .mul (.loc 21) (.loc 23), none⟩,
          ⟨(some 25), false, .bin .other .add (.loc 19) (.loc 24), none⟩,
          ⟨(some 7), true, .mv (.loc 25), none⟩]
@[simp] def r62_6 : List HOp := [⟨(some 26), false, .mv (.env 0), none⟩,
          ⟨(some 27), false, .mv (.env 8), none⟩,
          ⟨(some 28), false, .mv (.env 7), none⟩,
          ⟨(some 29), false, .conv (.toInt .u32) (.loc 28), none⟩,
          ⟨(some 30), false, .iaddr 1 (.loc 26) (.loc 27), none⟩,
          ⟨none, false, .store 1 (.loc 30) (.loc 29), none⟩]
@[simp] def r62_7 : List HOp := [⟨(some 31), false, .mv (.env 7), none⟩,
         ⟨(some 32), false, .bin .other .shr (.loc 31) (.val (.tr (.sc (.int .u64 32)))), none⟩,
         ⟨(some 7), true, .mv (.loc 32), none⟩]
@[simp] def r62_8 : List HOp := [⟨(some 33), false, .bin .other .add (.env 14) (.val (.tr (.sc (.int .i64 1)))), none⟩,
       ⟨(some 14), true, .mv (.loc 33), none⟩]
@[simp] def r62_9 : List HOp := [⟨(some 34), false, .mv (.env 7), none⟩,
      ⟨(some 35), false, .bin .other .gtr (.loc 34) (.val (.tr (.sc (.int .u64 0)))), none⟩]
@[simp] def r62_10 : List HOp := [⟨(some 36), false, .mv (.env 0), none⟩,
      ⟨(some 37), false, .mv (.env 7), none⟩,
      ⟨(some 38), false, .conv (.toInt .u32) (.loc 37), none⟩,
      ⟨(some 39), false, .bslice false 1 1 [(.sc (.int .u32 0))] [(0, 1, (.loc 38))], none⟩,
      ⟨(some 40), false, .append 1 4 (.loc 36) (.loc 39), none⟩,
      ⟨(some 0), true, .mv (.loc 40), none⟩]
@[simp] def r62_11 : List HOp := [⟨(some 41), false, .mv (.env 0), none⟩,
     ⟨(some 6), true, .mv (.loc 41), none⟩]
@[simp] def k62_7 : HCode := .seq (.region r62_6 none) (.region r62_7 none)
@[simp] def k62_6 : HCode := .seq (.region r62_5 none) k62_7
def k62_5 : HCode := .seq (.block 1 (.seq (.region r62_4 none) k62_6)) (.region r62_8 none)
@[simp] def k62_4 : HCode := .seq (.cond (.loc 15) .skip (.exit 0)) k62_5
def k62_3 : HCode := .seq (.region r62_3 none) k62_4
@[simp] def k62_2 : HCode := .block 0 (.loop k62_3)
@[simp] def k62_9 : HCode := .cond (.loc 35) (.region r62_10 none) .skip
def k62_10 : HCode := .seq (.region r62_11 none) .ret
def k62_8 : HCode := .seq (.seq (.region r62_9 none) k62_9) k62_10
@[simp] def k62_1 : HCode := .seq (.seq (.region r62_2 none) k62_2) k62_8
@[simp] def k62_0 : HCode := .seq (.region r62_1 none) k62_1
@[simp] def fn62 : HFn := { nargs := 3, results := [.tmp 6], mode := .shared, code := (.seq (.region r62_0 none) k62_0) }
theorem c62 : cFn Try.prog (Hs 62) .shared 62 = some fn62 := by kernel_rfl
/- sterling/bigint.made -/
@[simp] def r41_0 : List HOp := [⟨(some 4), true, .alloc [(.sc (.bool false)), (.sc (.slice none 0 0))], none⟩]
@[simp] def r41_1 : List HOp := [⟨(some 5), false, .mv (.env 1), none⟩,
     ⟨(some 6), false, .callf 48 [(.loc 5)], none⟩,
     ⟨(some 7), false, .callf 53 [(.loc 6)], none⟩,
     ⟨(some 1), true, .mv (.loc 7), none⟩]
@[simp] def r41_2 : List HOp := [⟨(some 8), false, .mv (.env 1), none⟩,
      ⟨(some 9), false, .len 1 (.loc 8), none⟩,
      ⟨(some 10), false, .bin .other .eql (.loc 9) (.val (.tr (.sc (.int .i64 0)))), none⟩]
@[simp] def r41_3 : List HOp := [⟨(some 11), false, .build [(.sc (.bool false)), (.sc (.slice none 0 0))] [], none⟩,
       ⟨none, false, .store 2 (.env 4) (.loc 11), none⟩]
@[simp] def r41_4 : List HOp := [⟨(some 12), false, .mv (.env 0), none⟩,
     ⟨(some 13), false, .mv (.env 1), none⟩,
     ⟨(some 14), false, .build [(.sc (.bool false)), (.sc (.slice none 0 0))] [(0, 1, (.loc 12)), (1, 1, (.loc 13))], none⟩,
     ⟨none, false, .store 2 (.env 4) (.loc 14), none⟩]
@[simp] def k41_3 : HCode := .seq (.region r41_3 none) .ret
@[simp] def k41_2 : HCode := .cond (.loc 10) k41_3 .skip
def k41_4 : HCode := .seq (.region r41_4 none) .ret
@[simp] def k41_1 : HCode := .seq (.seq (.region r41_2 none) k41_2) k41_4
@[simp] def k41_0 : HCode := .seq (.region r41_1 none) k41_1
@[simp] def fn41 : HFn := { nargs := 2, results := [.cell 4 2 true], mode := .iso, code := (.seq (.region r41_0 none) k41_0) }
theorem c41 : cFn Try.prog (Hs 41) .iso 41 = some fn41 := by kernel_rfl
/- sterling/bigint.norm -/
@[simp] def r48_0 : List HOp := [⟨(some 2), true, .mv (.val (.tr (.sc (.slice none 0 0)))), none⟩]
@[simp] def r48_1 : List HOp := [⟨(some 4), false, .mv (.env 0), none⟩,
     ⟨(some 5), false, .len 1 (.loc 4), none⟩,
     ⟨(some 3), true, .mv (.loc 5), none⟩]
@[simp] def r48_2 : List HOp := [⟨(some 6), false, .mv (.env 3), none⟩,
         ⟨(some 7), false, .bin .other .gtr (.loc 6) (.val (.tr (.sc (.int .i64 0)))), none⟩,
         ⟨(some 8), false, .mv (.loc 7), none⟩,
         ⟨(some 9), false, .mv (.env 0), some ((.loc 8), true)⟩,
         ⟨(some 10), false, .mv (.env 3), some ((.loc 8), true)⟩,
         ⟨(some 11), false, .bin .other .sub (.loc 10) (.val (.tr (.sc (.int .i64 1)))), some ((.loc 8), true)⟩,
         ⟨(some 12), false, .iaddr 1 (.loc 9) (.loc 11), some ((.loc 8), true)⟩,
         ⟨(some 13), false, .load 1 false (.loc 12), some ((.loc 8), true)⟩,
         ⟨(some 14), false, .bin .other .eql (.loc 13) (.val (.tr (.sc (.int .u32 0)))), some ((.loc 8), true)⟩,
         ⟨(some 15), false, .pick (.loc 8) (.loc 14) (.val (.tr (.sc (.bool false)))), none⟩]
@[simp] def r48_3 : List HOp := [⟨(some 16), false, .mv (.env 3), none⟩,
        ⟨(some 17), false, .bin .other .sub (.loc 16) (.val (.tr (.sc (.int .i64 1)))), none⟩,
        ⟨(some 3), true, .mv (.loc 17), none⟩]
@[simp] def r48_4 : List HOp := [⟨(some 18), false, .mv (.env 0), none⟩,
     ⟨(some 19), false, .mv (.env 3), none⟩,
     ⟨(some 20), false, .slice 1 (.loc 18) none (some (.loc 19)) none, none⟩,
     ⟨(some 2), true, .mv (.loc 20), none⟩]
@[simp] def k48_3 : HCode := .cond (.loc 15) .skip (.exit 0)
def k48_4 : HCode := .block 1 (.region r48_3 none)
def k48_2 : HCode := .seq (.seq (.region r48_2 none) k48_3) k48_4
def k48_5 : HCode := .seq (.region r48_4 none) .ret
@[simp] def k48_1 : HCode := .seq (.block 0 (.loop k48_2)) k48_5
@[simp] def k48_0 : HCode := .seq (.region r48_1 none) k48_1
@[simp] def fn48 : HFn := { nargs := 1, results := [.tmp 2], mode := .shared, code := (.seq (.region r48_0 none) k48_0) }
theorem c48 : cFn Try.prog (Hs 48) .shared 48 = some fn48 := by kernel_rfl
/- slices.Clone[[]uint32,uint32] -/
@[simp] def r53_0 : List HOp := [⟨(some 2), true, .mv (.val (.tr (.sc (.slice none 0 0)))), none⟩]
@[simp] def r53_1 : List HOp := [⟨(some 3), false, .mv (.env 0), none⟩,
      ⟨(some 4), false, .bin .slice .eql (.loc 3) (.val (.tr (.sc (.slice none 0 0)))), none⟩]
@[simp] def r53_2 : List HOp := [⟨(some 2), true, .mv (.val (.tr (.sc (.slice none 0 0)))), none⟩]
@[simp] def r53_3 : List HOp := [⟨(some 5), false, .bslice false 0 1 [(.sc (.int .u32 0))] [], none⟩,
     ⟨(some 6), false, .mv (.env 0), none⟩,
     ⟨(some 7), false, .append 1 4 (.loc 5) (.loc 6), none⟩,
     ⟨(some 2), true, .mv (.loc 7), none⟩]
@[simp] def k53_2 : HCode := .seq (.region r53_2 none) .ret
@[simp] def k53_1 : HCode := .cond (.loc 4) k53_2 .skip
def k53_3 : HCode := .seq (.region r53_3 none) .ret
@[simp] def k53_0 : HCode := .seq (.seq (.region r53_1 none) k53_1) k53_3
@[simp] def fn53 : HFn := { nargs := 1, results := [.tmp 2], mode := .shared, code := (.seq (.region r53_0 none) k53_0) }
theorem c53 : cFn Try.prog (Hs 53) .shared 53 = some fn53 := by kernel_rfl
/- sterling/bigint.Of -/
@[simp] def r30_0 : List HOp := [⟨(some 2), true, .alloc [(.sc (.bool false)), (.sc (.slice none 0 0))], none⟩]
@[simp] def r30_1 : List HOp := [⟨(some 4), false, .mv (.env 0), none⟩,
     ⟨(some 5), false, .conv (.toInt .u64) (.loc 4), none⟩,
     ⟨(some 3), true, .mv (.loc 5), none⟩]
@[simp] def r30_2 : List HOp := [⟨(some 6), false, .mv (.env 0), none⟩,
      ⟨(some 7), false, .bin .other .lss (.loc 6) (.val (.tr (.sc (.int .i64 0)))), none⟩]
@[simp] def r30_3 : List HOp := [⟨(some 8), false, .mv (.env 3), none⟩,
      ⟨(some 9), false, .un .neg (.loc 8), none⟩,
      ⟨(some 3), true, .mv (.loc 9), none⟩]
@[simp] def r30_4 : List HOp := [⟨(some 10), false, .mv (.env 0), none⟩,
     ⟨(some 11), false, .bin .other .lss (.loc 10) (.val (.tr (.sc (.int .i64 0)))), none⟩,
     ⟨(some 12), false, .mv (.env 3), none⟩,
     ⟨(some 13), false, .conv (.toInt .u32) (.loc 12), none⟩,
     ⟨(some 14), false, .mv (.env 3), none⟩,
     ⟨(some 15), false, .bin .other .shr (.loc 14) (.val (.tr (.sc (.int .u64 32)))), none⟩,
     ⟨(some 16), false, .conv (.toInt .u32) (.loc 15), none⟩,
     ⟨(some 17), false, .bslice false 2 1 [(.sc (.int .u32 0))] [(0, 1, (.loc 13)), (1, 1, (.loc 16))], none⟩,
     ⟨(some 18), false, .callf 41 [(.loc 11), (.loc 17)], none⟩,
     ⟨none, false, .store 2 (.env 2) (.loc 18), none⟩]
@[simp] def k30_2 : HCode := .cond (.loc 7) (.region r30_3 none) .skip
def k30_3 : HCode := .seq (.region r30_4 none) .ret
@[simp] def k30_1 : HCode := .seq (.seq (.region r30_2 none) k30_2) k30_3
@[simp] def k30_0 : HCode := .seq (.region r30_1 none) k30_1
@[simp] def fn30 : HFn := { nargs := 1, results := [.cell 2 2 true], mode := .iso, code := (.seq (.region r30_0 none) k30_0) }
theorem c30 : cFn Try.prog (Hs 30) .iso 30 = some fn30 := by kernel_rfl
/- sterling/bigint.Quo -/
@[simp] def r26_0 : List HOp := [⟨(some 2), true, .box true (.env 0), none⟩,
     ⟨(some 3), true, .box true (.env 1), none⟩,
     ⟨(some 4), true, .alloc [(.sc (.bool false)), (.sc (.slice none 0 0))], none⟩,
     ⟨(some 5), true, .alloc [(.sc (.bool false)), (.sc (.slice none 0 0))], none⟩,
     ⟨(some 6), true, .mv (.val (.tr (.sc (.bool false)))), none⟩]
@[simp] def r26_1 : List HOp := [⟨(some 11), false, .faddr 1 (.env 2), none⟩,
     ⟨(some 12), false, .ldt 1 false (.loc 11), none⟩,
     ⟨(some 13), false, .callf 48 [(.loc 12)], none⟩,
     ⟨(some 14), false, .faddr 1 (.env 3), none⟩,
     ⟨(some 15), false, .ldt 1 false (.loc 14), none⟩,
     ⟨(some 16), false, .callf 48 [(.loc 15)], none⟩,
     ⟨(some 7), true, .mv (.loc 13), none⟩,
     ⟨(some 8), true, .mv (.loc 16), none⟩]
@[simp] def r26_2 : List HOp := [⟨(some 9), true, .mv (.val (.tr (.sc (.slice none 0 0)))), none⟩,
     ⟨(some 10), true, .mv (.val (.tr (.sc (.slice none 0 0)))), none⟩]
@[simp] def r26_3 : List HOp := [⟨(some 24), false, .mv (.env 8), none⟩,
       ⟨(some 25), false, .len 1 (.loc 24), none⟩,
       ⟨(some 26), false, .bin .other .eql (.loc 25) (.val (.tr (.sc (.int .i64 0)))), none⟩,
       ⟨(some 23), false, .mv (.loc 26), none⟩]
@[simp] def r26_4 : List HOp := [⟨(some 27), false, .build [(.sc (.bool false)), (.sc (.slice none 0 0))] [], none⟩,
        ⟨(some 28), false, .build [(.sc (.bool false)), (.sc (.slice none 0 0))] [], none⟩,
        ⟨none, false, .store 2 (.env 4) (.loc 27), none⟩,
        ⟨none, false, .store 2 (.env 5) (.loc 28), none⟩,
        ⟨(some 6), true, .mv (.val (.tr (.sc (.bool false)))), none⟩]
@[simp] def r26_5 : List HOp := [⟨(some 30), false, .mv (.env 7), none⟩,
        ⟨(some 31), false, .mv (.env 8), none⟩,
        ⟨(some 32), false, .callf 43 [(.loc 30), (.loc 31)], none⟩,
        ⟨(some 33), false, .bin .other .lss (.loc 32) (.val (.tr (.sc (.int .i64 0)))), none⟩,
        ⟨(some 29), false, .mv (.loc 33), none⟩]
@[simp] def r26_6 : List HOp := [⟨(some 34), false, .mv (.env 7), none⟩,
        ⟨(some 10), true, .mv (.loc 34), none⟩]
@[simp] def r26_7 : List HOp := [⟨(some 36), false, .mv (.env 8), none⟩,
         ⟨(some 37), false, .len 1 (.loc 36), none⟩,
         ⟨(some 38), false, .bin .other .eql (.loc 37) (.val (.tr (.sc (.int .i64 1)))), none⟩,
         ⟨(some 35), false, .mv (.loc 38), none⟩]
@[simp] def r26_8 : List HOp := [⟨(some 39), false, .mv (.env 7), none⟩,
          ⟨(some 40), false, .callf 53 [(.loc 39)], none⟩,
          ⟨(some 9), true, .mv (.loc 40), none⟩]
@[simp] def r26_9 : List HOp := [⟨(some 41), false, .mv (.env 9), none⟩,
         ⟨(some 42), false, .mv (.env 8), none⟩,
         ⟨(some 43), false, .iaddr 1 (.loc 42) (.val (.tr (.sc (.int .i64 0)))), none⟩,
         ⟨(some 44), false, .load 1 false (.loc 43), none⟩,
         ⟨(some 45), false, .callf 54 [(.loc 41), (.loc 44)], none⟩,
         ⟨(some 46), false, .bslice false 1 1 [(.sc (.int .u32 0))] [(0, 1, (.loc 45))], none⟩,
         ⟨(some 10), true, .mv (.loc 46), none⟩]
@[simp] def r26_10 : List HOp := [⟨(some 18), false, .mv (.env 7), none⟩,
         ⟨(some 19), false, .mv (.env 8), none⟩,
         ⟨(some 20), false, .callf 55 [(.loc 18), (.loc 19)], none⟩,
         ⟨(some 17), false, .mv (.loc 20), none⟩,
         ⟨(some 21), false, .extract (.loc 17) 0, none⟩,
         ⟨(some 22), false, .extract (.loc 17) 1, none⟩,
         ⟨(some 9), true, .mv (.loc 21), none⟩,
         ⟨(some 10), true, .mv (.loc 22), none⟩]
@[simp] def r26_11 : List HOp := [⟨(some 47), false, .faddr 0 (.env 2), none⟩,
     ⟨(some 48), false, .ldt 1 false (.loc 47), none⟩,
     ⟨(some 49), false, .faddr 0 (.env 3), none⟩,
     ⟨(some 50), false, .ldt 1 false (.loc 49), none⟩,
     ⟨(some 51), false, .bin .bool .neq (.loc 48) (.loc 50), none⟩,
     ⟨(some 52), false, .mv (.env 9), none⟩,
     ⟨(some 53), false, .callf 41 [(.loc 51), (.loc 52)], none⟩,
     ⟨(some 54), false, .faddr 0 (.env 2), none⟩,
     ⟨(some 55), false, .ldt 1 false (.loc 54), none⟩,
     ⟨(some 56), false, .mv (.env 10), none⟩,
     ⟨(some 57), false, .callf 41 [(.loc 55), (.loc 56)], none⟩,
     ⟨none, false, .store 2 (.env 4) (.loc 53), none⟩,
     ⟨none, false, .store 2 (.env 5) (.loc 57), none⟩,
     ⟨(some 6), true, .mv (.val (.tr (.sc (.bool true)))), none⟩]
@[simp] def k26_4 : HCode := .seq (.region r26_4 none) .ret
@[simp] def k26_9 : HCode := .seq (.region r26_8 none) (.region r26_9 none)
@[simp] def k26_8 : HCode := .cond (.loc 35) k26_9 (.region r26_10 none)
@[simp] def k26_7 : HCode := .seq (.region r26_7 none) k26_8
@[simp] def k26_6 : HCode := .cond (.loc 29) (.region r26_6 none) k26_7
@[simp] def k26_5 : HCode := .seq (.region r26_5 none) k26_6
@[simp] def k26_3 : HCode := .cond (.loc 23) k26_4 k26_5
def k26_10 : HCode := .seq (.region r26_11 (some [ ( 0, [ 2 ] ) , ( 0, [ 47 ] ) , ( 0, [ 3 ] ) , ( 0, [ 49 ] ) , ( 0, [ 48, 50 ] ) , ( 0, [ 9 ] ) , ( 2, [ 51, 52 ] ) , ( 0, [ 2 ] ) , ( 0, [ 54 ] ) , ( 0, [ 10 ] ) , ( 2, [ 55, 56 ] ) , ( 2, [ 4, 53 ] ) , ( 2, [ 5, 57 ] ) , ( 0, [ ] ) ])) .ret
@[simp] def k26_2 : HCode := .seq (.block 0 (.seq (.region r26_3 none) k26_3)) k26_10
@[simp] def k26_1 : HCode := .seq (.region r26_2 none) k26_2
@[simp] def k26_0 : HCode := .seq (.region r26_1 (some [ ( 0, [ 2 ] ) , ( 0, [ 11 ] ) , ( 2, [ 12 ] ) , ( 0, [ 3 ] ) , ( 0, [ 14 ] ) , ( 2, [ 15 ] ) , ( 0, [ 13 ] ) , ( 0, [ 16 ] ) ])) k26_1
@[simp] def fn26 : HFn := { nargs := 2, results := [.cell 4 2 true, .cell 5 2 true, .tmp 6], mode := .iso, code := (.seq (.region r26_0 none) k26_0) }
theorem c26 : cFn Try.prog (Hs 26) .iso 26 = some fn26 := by kernel_rfl
/- sterling/bigint.order -/
@[simp] def r43_0 : List HOp := [⟨(some 4), true, .mv (.val (.tr (.sc (.int .i64 0)))), none⟩]
@[simp] def r43_1 : List HOp := [⟨(some 6), false, .mv (.env 0), none⟩,
     ⟨(some 7), false, .callf 48 [(.loc 6)], none⟩,
     ⟨(some 8), false, .mv (.env 1), none⟩,
     ⟨(some 9), false, .callf 48 [(.loc 8)], none⟩,
     ⟨(some 0), true, .mv (.loc 7), none⟩,
     ⟨(some 1), true, .mv (.loc 9), none⟩]
@[simp] def r43_2 : List HOp := [⟨(some 10), false, .mv (.env 0), none⟩,
      ⟨(some 11), false, .len 1 (.loc 10), none⟩,
      ⟨(some 12), false, .mv (.env 1), none⟩,
      ⟨(some 13), false, .len 1 (.loc 12), none⟩,
      ⟨(some 14), false, .bin .other .neq (.loc 11) (.loc 13), none⟩]
@[simp] def r43_3 : List HOp := [⟨(some 15), false, .mv (.env 0), none⟩,
        ⟨(some 16), false, .len 1 (.loc 15), none⟩,
        ⟨(some 17), false, .mv (.env 1), none⟩,
        ⟨(some 18), false, .len 1 (.loc 17), none⟩,
        ⟨(some 19), false, .bin .other .lss (.loc 16) (.loc 18), none⟩]
@[simp] def r43_4 : List HOp := [⟨(some 4), true, .mv (.val (.tr (.sc (.int .i64 (-1))))), none⟩]
@[simp] def r43_5 : List HOp := [⟨(some 4), true, .mv (.val (.tr (.sc (.int .i64 1)))), none⟩]
@[simp] def r43_6 : List HOp := [⟨(some 20), false, .mv (.env 0), none⟩,
      ⟨(some 21), false, .len 1 (.loc 20), none⟩,
      ⟨(some 22), false, .bin .other .sub (.loc 21) (.val (.tr (.sc (.int .i64 1)))), none⟩,
      ⟨(some 5), true, .mv (.loc 22), none⟩]
@[simp] def r43_7 : List HOp := [⟨(some 23), false, .mv (.env 5), none⟩,
         ⟨(some 24), false, .bin .other .geq (.loc 23) (.val (.tr (.sc (.int .i64 0)))), none⟩]
@[simp] def r43_8 : List HOp := [⟨(some 27), false, .mv (.env 0), none⟩,
          ⟨(some 28), false, .mv (.env 5), none⟩,
          ⟨(some 29), false, .iaddr 1 (.loc 27) (.loc 28), none⟩,
          ⟨(some 30), false, .load 1 false (.loc 29), none⟩,
          ⟨(some 31), false, .mv (.env 1), none⟩,
          ⟨(some 32), false, .mv (.env 5), none⟩,
          ⟨(some 33), false, .iaddr 1 (.loc 31) (.loc 32), none⟩,
          ⟨(some 34), false, .load 1 false (.loc 33), none⟩,
          ⟨(some 35), false, .bin .other .neq (.loc 30) (.loc 34), none⟩]
@[simp] def r43_9 : List HOp := [⟨(some 36), false, .mv (.env 0), none⟩,
            ⟨(some 37), false, .mv (.env 5), none⟩,
            ⟨(some 38), false, .iaddr 1 (.loc 36) (.loc 37), none⟩,
            ⟨(some 39), false, .load 1 false (.loc 38), none⟩,
            ⟨(some 40), false, .mv (.env 1), none⟩,
            ⟨(some 41), false, .mv (.env 5), none⟩,
            ⟨(some 42), false, .iaddr 1 (.loc 40) (.loc 41), none⟩,
            ⟨(some 43), false, .load 1 false (.loc 42), none⟩,
            ⟨(some 44), false, .bin .other .lss (.loc 39) (.loc 43), none⟩]
@[simp] def r43_10 : List HOp := [⟨(some 4), true, .mv (.val (.tr (.sc (.int .i64 (-1))))), none⟩]
@[simp] def r43_11 : List HOp := [⟨(some 4), true, .mv (.val (.tr (.sc (.int .i64 1)))), none⟩]
@[simp] def r43_12 : List HOp := [⟨(some 25), false, .mv (.env 5), none⟩,
       ⟨(some 26), false, .bin .other .sub (.loc 25) (.val (.tr (.sc (.int .i64 1)))), none⟩,
       ⟨(some 5), true, .mv (.loc 26), none⟩]
@[simp] def r43_13 : List HOp := [⟨(some 4), true, .mv (.val (.tr (.sc (.int .i64 0)))), none⟩]
@[simp] def k43_5 : HCode := .seq (.region r43_4 none) .ret
@[simp] def k43_4 : HCode := .cond (.loc 19) k43_5 .skip
def k43_6 : HCode := .seq (.region r43_5 none) .ret
@[simp] def k43_3 : HCode := .seq (.seq (.region r43_3 none) k43_4) k43_6
@[simp] def k43_2 : HCode := .cond (.loc 14) k43_3 .skip
@[simp] def k43_10 : HCode := .cond (.loc 24) .skip (.exit 0)
@[simp] def k43_15 : HCode := .seq (.region r43_10 none) .ret
@[simp] def k43_14 : HCode := .cond (.loc 44) k43_15 .skip
def k43_16 : HCode := .seq (.region r43_11 none) .ret
@[simp] def k43_13 : HCode := .seq (.seq (.region r43_9 (some [ ( 0, [ 0 ] ) , ( 0, [ 5 ] ) , ( 1, [ 36, 37 ] ) , ( 1, [ 38 ] ) , ( 0, [ 1 ] ) , ( 0, [ 5 ] ) , ( 1, [ 40, 41 ] ) , ( 1, [ 42 ] ) , ( 0, [ 39, 43 ] ) ])) k43_14) k43_16
@[simp] def k43_12 : HCode := .cond (.loc 35) k43_13 .skip
def k43_17 : HCode := .region r43_12 none
def k43_11 : HCode := .seq (.block 1 (.seq (.region r43_8 (some [ ( 0, [ 0 ] ) , ( 0, [ 5 ] ) , ( 1, [ 27, 28 ] ) , ( 1, [ 29 ] ) , ( 0, [ 1 ] ) , ( 0, [ 5 ] ) , ( 1, [ 31, 32 ] ) , ( 1, [ 33 ] ) , ( 0, [ 30, 34 ] ) ])) k43_12)) k43_17
def k43_9 : HCode := .seq (.seq (.region r43_7 none) k43_10) k43_11
@[simp] def k43_8 : HCode := .block 0 (.loop k43_9)
def k43_18 : HCode := .seq (.region r43_13 none) .ret
def k43_7 : HCode := .seq (.seq (.region r43_6 none) k43_8) k43_18
@[simp] def k43_1 : HCode := .seq (.seq (.region r43_2 none) k43_2) k43_7
@[simp] def k43_0 : HCode := .seq (.region r43_1 none) k43_1
@[simp] def fn43 : HFn := { nargs := 2, results := [.tmp 4], mode := .iso, code := (.seq (.region r43_0 none) k43_0) }
theorem c43 : cFn Try.prog (Hs 43) .iso 43 = some fn43 := by kernel_rfl
/- sterling/bigint.shrink -/
@[simp] def r54_0 : List HOp := [⟨(some 4), true, .mv (.val (.tr (.sc (.int .u32 0)))), none⟩]
@[simp] def r54_1 : List HOp := [⟨(some 5), true, .mv (.val (.tr (.sc (.int .u64 0)))), none⟩]
@[simp] def r54_2 : List HOp := [⟨(some 7), false, .mv (.env 0), none⟩,
      ⟨(some 8), false, .len 1 (.loc 7), none⟩,
      ⟨(some 9), false, .bin .other .sub (.loc 8) (.val (.tr (.sc (.int .i64 1)))), none⟩,
      ⟨(some 6), true, .mv (.loc 9), none⟩]
@[simp] def r54_3 : List HOp := [⟨(some 10), false, .mv (.env 6), none⟩,
         ⟨(some 11), false, .bin .other .geq (.loc 10) (.val (.tr (.sc (.int .i64 0)))), none⟩]
@[simp] def r54_4 : List HOp := [⟨(some 14), false, .mv (.env 5), none⟩,
          ⟨(some 15), false, .bin .other .shl (.loc 14) (.val (.tr (.sc (.int .u64 32)))), none⟩,
          ⟨(some 16), false, .mv (.env 0), none⟩,
          ⟨(some 17), false, .mv (.env 6), none⟩,
          ⟨(some 18), false, .iaddr 1 (.loc 16) (.loc 17), none⟩,
          ⟨(some 19), false, .load 1 false (.loc 18), none⟩,
          ⟨(some 20), false, .conv (.toInt .u64) (.loc 19), none⟩,
          ⟨(some 21), false, .bin .other .or (.loc 15) (.loc 20), none⟩,
          ⟨(some 5), true, .mv (.loc 21), none⟩]
@[simp] def r54_5 : List HOp := [⟨(some 22), false, .mv (.env 0), none⟩,
          ⟨(some 23), false, .mv (.env 6), none⟩,
          ⟨(some 24), false, .mv (.env 5), none⟩,
          ⟨(some 25), false, .mv (.env 1), none⟩,
          ⟨(some 26), false, .conv (.toInt .u64) (.loc 25), none⟩,
          ⟨(some 27), false, .bin .other .quo (.loc 24) (.loc 26), none⟩,
          ⟨(some 28), false, .conv (.toInt .u32) (.loc 27), none⟩,
          ⟨(some 29), false, .iaddr 1 (.loc 22) (.loc 23), none⟩,
          ⟨none, false, .store 1 (.loc 29) (.loc 28), none⟩]
@[simp] def r54_6 : List HOp := [⟨(some 30), false, .mv (.env 5), none⟩,
         ⟨(some 31), false, .mv (.env 1), none⟩,
         ⟨(some 32), false, .conv (.toInt .u64) (.loc 31), none⟩,
         ⟨(some 33), false, .bin .other .rem (.loc 30) (.loc 32), none⟩,
         ⟨(some 5), true, .mv (.loc 33), none⟩]
@[simp] def r54_7 : List HOp := [⟨(some 12), false, .mv (.env 6), none⟩,
       ⟨(some 13), false, .bin .other .sub (.loc 12) (.val (.tr (.sc (.int .i64 1)))), none⟩,
       ⟨(some 6), true, .mv (.loc 13), none⟩]
@[simp] def r54_8 : List HOp := [⟨(some 34), false, .mv (.env 5), none⟩,
     ⟨(some 35), false, .conv (.toInt .u32) (.loc 34), none⟩,
     ⟨(some 4), true, .mv (.loc 35), none⟩]
@[simp] def k54_4 : HCode := .cond (.loc 11) .skip (.exit 0)
@[simp] def k54_6 : HCode := .seq (.region r54_5 none) (.region r54_6 none)
def k54_5 : HCode := .seq (.block 1 (.seq (.region r54_4 none) k54_6)) (.region r54_7 none)
def k54_3 : HCode := .seq (.seq (.region r54_3 none) k54_4) k54_5
@[simp] def k54_2 : HCode := .block 0 (.loop k54_3)
def k54_7 : HCode := .seq (.region r54_8 none) .ret
@[simp] def k54_1 : HCode := .seq (.seq (.region r54_2 none) k54_2) k54_7
@[simp] def k54_0 : HCode := .seq (.region r54_1 none) k54_1
@[simp] def fn54 : HFn := { nargs := 2, results := [.tmp 4], mode := .shared, code := (.seq (.region r54_0 none) k54_0) }
theorem c54 : cFn Try.prog (Hs 54) .shared 54 = some fn54 := by kernel_rfl
/- sterling/bigint.divide -/
@[simp] def r55_0 : List HOp := [⟨(some 4), true, .mv (.val (.tr (.sc (.slice none 0 0)))), none⟩,
     ⟨(some 5), true, .mv (.val (.tr (.sc (.slice none 0 0)))), none⟩]
@[simp] def r55_1 : List HOp := [⟨(some 18), false, .mv (.env 1), none⟩,
     ⟨(some 19), false, .mv (.env 1), none⟩,
     ⟨(some 20), false, .len 1 (.loc 19), none⟩,
     ⟨(some 21), false, .bin .other .sub (.loc 20) (.val (.tr (.sc (.int .i64 1)))), none⟩,
     ⟨(some 22), false, .iaddr 1 (.loc 18) (.loc 21), none⟩,
     ⟨(some 23), false, .load 1 false (.loc 22), none⟩,
     ⟨(some 24), false, .callf 65 [(.loc 23)], none⟩,
     ⟨(some 6), true, .mv (.loc 24), none⟩]
@[simp] def r55_2 : List HOp := [⟨(some 25), false, .mv (.env 0), none⟩,
     ⟨(some 26), false, .mv (.env 6), none⟩,
     ⟨(some 27), false, .callf 66 [(.loc 25), (.loc 26)], none⟩,
     ⟨(some 28), false, .mv (.env 1), none⟩,
     ⟨(some 29), false, .mv (.env 6), none⟩,
     ⟨(some 30), false, .callf 66 [(.loc 28), (.loc 29)], none⟩,
     ⟨(some 31), false, .callf 48 [(.loc 30)], none⟩,
     ⟨(some 7), true, .mv (.loc 27), none⟩,
     ⟨(some 8), true, .mv (.loc 31), none⟩]
@[simp] def r55_3 : List HOp := [⟨(some 32), false, .mv (.env 8), none⟩,
     ⟨(some 33), false, .len 1 (.loc 32), none⟩,
     ⟨(some 9), true, .mv (.loc 33), none⟩]
@[simp] def r55_4 : List HOp := [⟨(some 34), false, .mv (.env 7), none⟩,
     ⟨(some 35), false, .len 1 (.loc 34), none⟩,
     ⟨(some 36), false, .mv (.env 9), none⟩,
     ⟨(some 37), false, .bin .other .sub (.loc 35) (.loc 36), none⟩,
     ⟨(some 38), false, .mkslice [(.sc (.int .u32 0))] 4 (.loc 37) (.loc 37), none⟩,
     ⟨(some 10), true, .mv (.loc 38), none⟩]
@[simp] def r55_5 : List HOp := [⟨(some 39), false, .mv (.env 10), none⟩,
      ⟨(some 40), false, .len 1 (.loc 39), none⟩,
      ⟨(some 41), false, .bin .other .sub (.loc 40) (.val (.tr (.sc (.int .i64 1)))), none⟩,
      ⟨(some 11), true, .mv (.loc 41), none⟩]
@[simp] def r55_6 : List HOp := [⟨(some 42), false, .mv (.env 11), none⟩,
         ⟨(some 43), false, .bin .other .geq (.loc 42) (.val (.tr (.sc (.int .i64 0)))), none⟩]
@[simp] def r55_7 : List HOp := [⟨(some 46), false, .mv (.env 7), none⟩,
          ⟨(some 47), false, .mv (.env 11), none⟩,
          ⟨(some 48), false, .mv (.env 9), none⟩,
          ⟨(some 49), false, .bin .other .add (.loc 47) (.loc 48), none⟩,
          ⟨(some 50), false, .iaddr 1 (.loc 46) (.loc 49), none⟩,
          ⟨(some 51), false, .load 1 false (.loc 50), none⟩,
          ⟨(some 52), false, .conv (.toInt .u64) (.loc 51), none⟩,
          ⟨(some 53), false, .bin .other .shl (.loc 52) (.val (.tr (.sc (.int .u64 32)))), none⟩,
          ⟨(some 54), false, .mv (.env 7), none⟩,
          ⟨(some 55), false, .mv (.env 11), none⟩,
          ⟨(some 56), false, .mv (.env 9), none⟩,
          ⟨(some 57), false, .bin .other .add (.loc 55) (.loc 56), none⟩,
          ⟨(some 58), false, .bin .other .sub (.loc 57) (.val (.tr (.sc (.int .i64 1)))), none⟩,
          ⟨(some 59), false, .iaddr 1 (.loc 54) (.loc 58), none⟩,
          ⟨(some 60), false, .load 1 false (.loc 59), none⟩,
          ⟨(some 61), false, .conv (.toInt .u64) (.loc 60), none⟩,
          ⟨(some 62), false, .bin .other .or (.loc 53) (.loc 61), none⟩,
          ⟨(some 12), true, .mv (.loc 62), none⟩]
@[simp] def r55_8 : List HOp := [⟨(some 63), false, .mv (.env 12), none⟩,
          ⟨(some 64), false, .mv (.env 8), none⟩,
          ⟨(some 65), false, .mv (.env 9), none⟩,
          ⟨(some 66), false, .bin .other .sub (.loc 65) (.val (.tr (.sc (.int .i64 1)))), none⟩,
          ⟨(some 67), false, .iaddr 1 (.loc 64) (.loc 66), none⟩,
          ⟨(some 68), false, .load 1 false (.loc 67), none⟩,
          ⟨(some 69), false, .conv (.toInt .u64) (.loc 68), none⟩,
          ⟨(some 70), false, .bin .other .quo (.loc 63) (.loc 69), none⟩,
          ⟨(some 71), false, .minmax false (.loc 70) [(.val (.tr (.sc (.int .u64 4294967295))))], none⟩,
          ⟨(some 13), true, .mv (.loc 71), none⟩]
@[simp] def r55_9 : List HOp := [⟨(some 72), false, .mv (.env 7), none⟩,
          ⟨(some 73), false, .mv (.env 11), none⟩,
          ⟨(some 74), false, .mv (.env 11), none⟩,
          ⟨(some 75), false, .mv (.env 9), none⟩,
          ⟨(some 76), false, .bin .other .add (.loc 74) (.loc 75), none⟩,
          ⟨(some 77), false, .bin .other .add (.loc 76) (.val (.tr (.sc (.int .i64 1)))), none⟩,
          ⟨(some 78), false, .slice 1 (.loc 72) (some (.loc 73)) (some (.loc 77)) none, none⟩,
          ⟨(some 14), true, .mv (.loc 78), none⟩]
@[simp] def r55_10 : List HOp := [⟨(some 79), false, .mv (.env 14), none⟩,
           ⟨(some 80), false, .mv (.env 8), none⟩,
           ⟨(some 81), false, .mv (.env 13), none⟩,
           ⟨(some 82), false, .callf 67 [(.loc 79), (.loc 80), (.loc 81)], none⟩,
           ⟨(some 15), true, .mv (.loc 82), none⟩]
@[simp] def r55_11 : List HOp := [⟨(some 83), false, .mv (.env 15), none⟩]
@[simp] def r55_12 : List HOp := [⟨(some 88), false, .mv (.env 13), none⟩,
              ⟨(some 89), false, .bin .other .sub (.loc 88) (.val (.tr (.sc (.int .u64 1)))), none⟩,
              ⟨(some 13), true, .mv (.loc 89), none⟩]
@[simp] def r55_13 : List HOp := [⟨(some 84), false, .mv (.env 14), none⟩,
            ⟨(some 85), false, .mv (.env 8), none⟩,
            ⟨(some 86), false, .callf 68 [(.loc 84), (.loc 85)], none⟩,
            ⟨(some 87), false, .un .not (.loc 86), none⟩,
            ⟨(some 15), true, .mv (.loc 87), none⟩]
@[simp] def r55_14 : List HOp := [⟨(some 90), false, .mv (.env 10), none⟩,
         ⟨(some 91), false, .mv (.env 11), none⟩,
         ⟨(some 92), false, .mv (.env 13), none⟩,
         ⟨(some 93), false, .conv (.toInt .u32) (.loc 92), none⟩,
         ⟨(some 94), false, .iaddr 1 (.loc 90) (.loc 91), none⟩,
         ⟨none, false, .store 1 (.loc 94) (.loc 93), none⟩]
@[simp] def r55_15 : List HOp := [⟨(some 44), false, .mv (.env 11), none⟩,
       ⟨(some 45), false, .bin .other .sub (.loc 44) (.val (.tr (.sc (.int .i64 1)))), none⟩,
       ⟨(some 11), true, .mv (.loc 45), none⟩]
@[simp] def r55_16 : List HOp := [⟨(some 95), false, .mv (.env 9), none⟩,
     ⟨(some 96), false, .mkslice [(.sc (.int .u32 0))] 4 (.loc 95) (.loc 95), none⟩,
     ⟨(some 16), true, .mv (.loc 96), none⟩]
@[simp] def r55_17 : List HOp := [⟨(some 97), true, .mv (.env 9), none⟩,
      ⟨(some 98), true, .mv (.val (.tr (.sc (.int .i64 0)))), none⟩]
@[simp] def r55_18 : List HOp := [⟨(some 99), false, .bin .other .lss (.env 98) (.env 97), none⟩]
@[simp] def r55_19 : List HOp := [⟨(some 100), false, .mv (.env 98), none⟩,
          ⟨(some 17), true, .mv (.loc 100), none⟩]
@[simp] def r55_20 : List HOp := [⟨(some 101), false, .mv (.env 16), none⟩,
         ⟨(some 102), false, .mv (.env 17), none⟩,
         ⟨(some 103), false, .mv (.env 7), none⟩,
         ⟨(some 104), false, .mv (.env 17), none⟩,
         ⟨(some 105), false, .bin .other .add (.loc 104) (.val (.tr (.sc (.int .i64 1)))), none⟩,
         ⟨(some 106), false, .iaddr 1 (.loc 103) (.loc 105), none⟩,
         ⟨(some 107), false, .load 1 false (.loc 106), none⟩,
         ⟨(some 108), false, .conv (.toInt .u64) (.loc 107), none⟩,
         ⟨(some 109), false, .bin .other .shl (.loc 108) (.val (.tr (.sc (.int .u64 32)))), none⟩,
         ⟨(some 110), false, .mv (.env 7), none⟩,
         ⟨(some 111), false, .mv (.env 17), none⟩,
         ⟨(some 112), false, .iaddr 1 (.loc 110) (.loc 111), none⟩,
         ⟨(some 113), false, .load 1 false (.loc 112), none⟩,
         ⟨(some 114), false, .conv (.toInt .u64) (.loc 113), none⟩,
         ⟨(some 115), false, .bin .other .or (.loc 109) (.loc 114), none⟩,
         ⟨(some 116), false, .mv (.env 6), none⟩,
         ⟨(some 117), false, .bin .other .shr (.loc 115) (.loc 116), none⟩,
         ⟨(some 118), false, .conv (.toInt .u32) (.loc 117), none⟩,
         ⟨(some 119), false, .iaddr 1 (.loc 101) (.loc 102), none⟩,
         ⟨none, false, .store 1 (.loc 119) (.loc 118), none⟩]
@[simp] def r55_21 : List HOp := [⟨(some 120), false, .bin .other .add (.env 98) (.val (.tr (.sc (.int .i64 1)))), none⟩,
       ⟨(some 98), true, .mv (.loc 120), none⟩]
@[simp] def r55_22 : List HOp := [⟨(some 121), false, .mv (.env 10), none⟩,
     ⟨(some 122), false, .mv (.env 16), none⟩,
     ⟨(some 4), true, .mv (.loc 121), none⟩,
     ⟨(some 5), true, .mv (.loc 122), none⟩]
@[simp] def k55_7 : HCode := .cond (.loc 43) .skip (.exit 0)
@[simp] def k55_14 : HCode := .cond (.loc 83) .skip (.exit 2)
def k55_15 : HCode := .seq (.block 3 (.region r55_12 none)) (.region r55_13 none)
def k55_13 : HCode := .seq (.seq (.region r55_11 none) k55_14) k55_15
@[simp] def k55_12 : HCode := .block 2 (.loop k55_13)
def k55_16 : HCode := .region r55_14 none
@[simp] def k55_11 : HCode := .seq (.seq (.region r55_10 none) k55_12) k55_16
@[simp] def k55_10 : HCode := .seq (.region r55_9 none) k55_11
@[simp] def k55_9 : HCode := .seq (.region r55_8 none) k55_10
def k55_17 : HCode := .region r55_15 none
def k55_8 : HCode := .seq (.block 1 (.seq (.region r55_7 (some [ ( 0, [ 7 ] ) , ( 0, [ 11 ] ) , ( 0, [ 9 ] ) , ( 0, [ 47, 48 ] ) , ( 1, [ 46, 49 ] ) , ( 1, [ 50 ] ) , ( 0, [ 51 ] ) , ( 0, [ 52 ] ) , ( 0, [ 7 ] ) , ( 0, [ 11 ] ) , ( 0, [ 9 ] ) , ( 0, [ 55, 56 ] ) , ( 0, [ 57 ] ) , ( 1, [ 54, 58 ] ) , ( 1, [ 59 ] ) , ( 0, [ 60 ] ) , ( 0, [ 53, 61 ] ) , ( 0, [ 62 ] ) ])) k55_9)) k55_17
def k55_6 : HCode := .seq (.seq (.region r55_6 none) k55_7) k55_8
@[simp] def k55_5 : HCode := .block 0 (.loop k55_6)
def k55_23 : HCode := .seq (.block 5 (.seq (.region r55_19 none) (.region r55_20 (some [ ( 0, [ 16 ] ) , ( 0, [ 17 ] ) , ( 0, [ 7 ] ) , ( 0, [ 17 ] ) , ( 0, [ 104 ] ) , ( 1, [ 103, 105 ] ) , ( 1, [ 106 ] ) , ( 0, [ 107 ] ) , ( 0, [ 108 ] ) , ( 0, [ 7 ] ) , ( 0, [ 17 ] ) , ( 1, [ 110, 111 ] ) , ( 1, [ 112 ] ) , ( 0, [ 113 ] ) , ( 0, [ 109, 114 ] ) , ( 0, [ 6 ] ) , ( 0, [ 115, 116 ] ) , ( 0, [ 117 ] ) , ( 2, [ 101, 102 ] ) , ( 2, [ 119, 118 ] ) ])))) (.region r55_21 none)
@[simp] def k55_22 : HCode := .seq (.cond (.loc 99) .skip (.exit 4)) k55_23
def k55_21 : HCode := .seq (.region r55_18 none) k55_22
@[simp] def k55_20 : HCode := .block 4 (.loop k55_21)
def k55_24 : HCode := .seq (.region r55_22 none) .ret
@[simp] def k55_19 : HCode := .seq (.seq (.region r55_17 none) k55_20) k55_24
def k55_18 : HCode := .seq (.region r55_16 none) k55_19
@[simp] def k55_4 : HCode := .seq (.seq (.region r55_5 none) k55_5) k55_18
@[simp] def k55_3 : HCode := .seq (.region r55_4 none) k55_4
@[simp] def k55_2 : HCode := .seq (.region r55_3 none) k55_3
@[simp] def k55_1 : HCode := .seq (.region r55_2 none) k55_2
@[simp] def k55_0 : HCode := .seq (.region r55_1 none) k55_1
@[simp] def fn55 : HFn := { nargs := 2, results := [.tmp 4, .tmp 5], mode := .iso, code := (.seq (.region r55_0 none) k55_0) }
theorem c55 : cFn Try.prog (Hs 55) .iso 55 = some fn55 := by kernel_rfl
/- math/bits.LeadingZeros32 -/
@[simp] def r65_0 : List HOp := [⟨(some 2), true, .mv (.val (.tr (.sc (.int .i64 0)))), none⟩]
@[simp] def r65_1 : List HOp := [⟨(some 3), false, .mv (.env 0), none⟩,
     ⟨(some 4), false, .callf 51 [(.loc 3)], none⟩,
     ⟨(some 5), false, .bin .other .sub (.val (.tr (.sc (.int .i64 32)))) (.loc 4), none⟩,
     ⟨(some 2), true, .mv (.loc 5), none⟩]
@[simp] def k65_0 : HCode := .seq (.region r65_1 none) .ret
@[simp] def fn65 : HFn := { nargs := 1, results := [.tmp 2], mode := .iso, code := (.seq (.region r65_0 none) k65_0) }
theorem c65 : cFn Try.prog (Hs 65) .iso 65 = some fn65 := by kernel_rfl
/- math/bits.Len32 -/
@[simp] def r51_0 : List HOp := [⟨(some 2), true, .mv (.val (.tr (.sc (.int .i64 0)))), none⟩]
@[simp] def r51_1 : List HOp := [⟨(some 3), false, .mv (.env 0), none⟩,
      ⟨(some 4), false, .bin .other .geq (.loc 3) (.val (.tr (.sc (.int .u32 65536)))), none⟩]
@[simp] def r51_2 : List HOp := [⟨(some 5), false, .mv (.env 0), none⟩,
       ⟨(some 6), false, .bin .other .shr (.loc 5) (.val (.tr (.sc (.int .u64 16)))), none⟩,
       ⟨(some 0), true, .mv (.loc 6), none⟩]
@[simp] def r51_3 : List HOp := [⟨(some 2), true, .mv (.val (.tr (.sc (.int .i64 16)))), none⟩]
@[simp] def r51_4 : List HOp := [⟨(some 7), false, .mv (.env 0), none⟩,
      ⟨(some 8), false, .bin .other .geq (.loc 7) (.val (.tr (.sc (.int .u32 256)))), none⟩]
@[simp] def r51_5 : List HOp := [⟨(some 9), false, .mv (.env 0), none⟩,
       ⟨(some 10), false, .bin .other .shr (.loc 9) (.val (.tr (.sc (.int .u64 8)))), none⟩,
       ⟨(some 0), true, .mv (.loc 10), none⟩]
@[simp] def r51_6 : List HOp := [⟨(some 11), false, .mv (.env 2), none⟩,
      ⟨(some 12), false, .bin .other .add (.loc 11) (.val (.tr (.sc (.int .i64 8)))), none⟩,
      ⟨(some 2), true, .mv (.loc 12), none⟩]
@[simp] def r51_7 : List HOp := [⟨(some 13), false, .mv (.env 2), none⟩,
     ⟨(some 14), false, .mv (.env 0), none⟩,
     ⟨(some 15), false, .conv (.toInt .u8) (.loc 14), none⟩,
     ⟨(some 16), false, .istr (.val (.tr (.sc (.string ⟨⟨[0, 1, 2, 2, 3, 3, 3, 3, 4, 4, 4, 4, 4, 4, 4, 4, 5, 5, 5, 5, 5, 5, 5, 5, 5, 5, 5, 5, 5, 5, 5, 5, 6, 6, 6, 6, 6, 6, 6, 6, 6, 6, 6, 6, 6, 6, 6, 6, 6, 6, 6, 6, 6, 6, 6, 6, 6, 6, 6, 6, 6, 6, 6, 6, 7, 7, 7, 7, 7, 7, 7, 7, 7, 7, 7, 7, 7, 7, 7, 7, 7, 7, 7, 7, 7, 7, 7, 7, 7, 7, 7, 7, 7, 7, 7, 7, 7, 7, 7, 7, 7, 7, 7, 7, 7, 7, 7, 7, 7, 7, 7, 7, 7, 7, 7, 7, 7, 7, 7, 7, 7, 7, 7, 7, 7, 7, 7, 7, 8, 8, 8, 8, 8, 8, 8, 8, 8, 8, 8, 8, 8, 8, 8, 8, 8, 8, 8, 8, 8, 8, 8, 8, 8, 8, 8, 8, 8, 8, 8, 8, 8, 8, 8, 8, 8, 8, 8, 8, 8, 8, 8, 8, 8, 8, 8, 8, 8, 8, 8, 8, 8, 8, 8, 8, 8, 8, 8, 8, 8, 8, 8, 8, 8, 8, 8, 8, 8, 8, 8, 8, 8, 8, 8, 8, 8, 8, 8, 8, 8, 8, 8, 8, 8, 8, 8, 8, 8, 8, 8, 8, 8, 8, 8, 8, 8, 8, 8, 8, 8, 8, 8, 8, 8, 8, 8, 8, 8, 8, 8, 8, 8, 8, 8, 8, 8, 8, 8, 8, 8, 8, 8, 8, 8, 8, 8, 8]⟩⟩)))) (.loc 15), none⟩,
     ⟨(some 17), false, .conv (.toInt .i64) (.loc 16), none⟩,
     ⟨(some 18), false, .bin .other .add (.loc 13) (.loc 17), none⟩,
     ⟨(some 2), true, .mv (.loc 18), none⟩]
@[simp] def k51_2 : HCode := .seq (.region r51_2 none) (.region r51_3 none)
@[simp] def k51_1 : HCode := .cond (.loc 4) k51_2 .skip
@[simp] def k51_5 : HCode := .seq (.region r51_5 none) (.region r51_6 none)
@[simp] def k51_4 : HCode := .cond (.loc 8) k51_5 .skip
def k51_6 : HCode := .seq (.region r51_7 none) .ret
def k51_3 : HCode := .seq (.seq (.region r51_4 none) k51_4) k51_6
@[simp] def k51_0 : HCode := .seq (.seq (.region r51_1 none) k51_1) k51_3
@[simp] def fn51 : HFn := { nargs := 1, results := [.tmp 2], mode := .iso, code := (.seq (.region r51_0 none) k51_0) }
theorem c51 : cFn Try.prog (Hs 51) .iso 51 = some fn51 := by kernel_rfl
/- sterling/bigint.shifted -/
@[simp] def r66_0 : List HOp := [⟨(some 4), true, .mv (.val (.tr (.sc (.slice none 0 0)))), none⟩]
@[simp] def r66_1 : List HOp := [⟨(some 8), false, .mv (.env 0), none⟩,
     ⟨(some 9), false, .len 1 (.loc 8), none⟩,
     ⟨(some 10), false, .bin .other .add (.loc 9) (.val (.tr (.sc (.int .i64 1)))), none⟩,
     ⟨(some 11), false, .mkslice [(.sc (.int .u32 0))] 4 (.loc 10) (.loc 10), none⟩,
     ⟨(some 5), true, .mv (.loc 11), none⟩]
@[simp] def r66_2 : List HOp := [⟨(some 12), true, .mv (.env 0), none⟩,
      ⟨(some 13), true, .len 1 (.env 12), none⟩,
      ⟨(some 14), true, .mv (.val (.tr (.sc (.int .i64 0)))), none⟩]
@[simp] def r66_3 : List HOp := [⟨(some 15), false, .bin .other .lss (.env 14) (.env 13), none⟩]
@[simp] def r66_4 : List HOp := [⟨(some 16), false, .mv (.env 14), none⟩,
          ⟨(some 17), false, .iaddr 1 (.env 12) (.env 14), none⟩,
          ⟨(some 18), false, .load 1 false (.loc 17), none⟩,
          ⟨(some 6), true, .mv (.loc 16), none⟩,
          ⟨(some 7), true, .mv (.loc 18), none⟩]
@[simp] def r66_5 : List HOp := [⟨(some 19), false, .mv (.env 5), none⟩,
          ⟨(some 20), false, .mv (.env 6), none⟩,
          ⟨(some 21), false, .iaddr 1 (.loc 19) (.loc 20), none⟩,
          ⟨(some 22), false, .load 1 false (.loc 21), none⟩,
          ⟨(some 23), false, .mv (.env 7), none⟩,
          ⟨(some 24), false, .mv (.env 1), none⟩,
          ⟨(some 25), false, .bin .other .shl (.loc 23) (.loc 24), none⟩,
          ⟨(some 26), false, .bin .other .or (.loc 22) (.loc 25), none⟩,
          ⟨(some 27), false, .iaddr 1 (.loc 19) (.loc 20), none⟩,
          ⟨none, false, .store 1 (.loc 27) (.loc 26), none⟩]
@[simp] def r66_6 : List HOp := [⟨(some 28), false, .mv (.env 5), none⟩,
         ⟨(some 29), false, .mv (.env 6), none⟩,
         ⟨(some 30), false, .bin .other .add (.loc 29) (.val (.tr (.sc (.int .i64 1)))), none⟩,
         ⟨(some 31), false, .mv (.env 7), none⟩,
         ⟨(some 32), false, .conv (.toInt .u64) (.loc 31), none⟩,
         ⟨(some 33), false, .mv (.env 1), none⟩,
         ⟨(some 34), false, .bin .other .shl (.loc 32) (.loc 33), none⟩,
         ⟨(some 35), false, .bin .other .shr (.loc 34) (.val (.tr (.sc (.int .u64 32)))), none⟩,
         ⟨(some 36), false, .conv (.toInt .u32) (.loc 35), none⟩,
         ⟨(some 37), false, .iaddr 1 (.loc 28) (.loc 30), none⟩,
         ⟨none, false, .store 1 (.loc 37) (.loc 36), none⟩]
@[simp] def r66_7 : List HOp := [⟨(some 38), false, .bin .other .add (.env 14) (.val (.tr (.sc (.int .i64 1)))), none⟩,
       ⟨(some 14), true, .mv (.loc 38), none⟩]
@[simp] def r66_8 : List HOp := [⟨(some 39), false, .mv (.env 5), none⟩,
     ⟨(some 4), true, .mv (.loc 39), none⟩]
@[simp] def k66_6 : HCode := .seq (.region r66_5 (some [ ( 0, [ 5 ] ) , ( 0, [ 6 ] ) , ( 2, [ 19, 20 ] ) , ( 2, [ 21 ] ) , ( 0, [ 7 ] ) , ( 0, [ 1 ] ) , ( 0, [ 23, 24 ] ) , ( 0, [ 22, 25 ] ) , ( 2, [ 19, 20 ] ) , ( 2, [ 27, 26 ] ) ])) (.region r66_6 none)
def k66_5 : HCode := .seq (.block 1 (.seq (.region r66_4 none) k66_6)) (.region r66_7 none)
@[simp] def k66_4 : HCode := .seq (.cond (.loc 15) .skip (.exit 0)) k66_5
def k66_3 : HCode := .seq (.region r66_3 none) k66_4
@[simp] def k66_2 : HCode := .block 0 (.loop k66_3)
def k66_7 : HCode := .seq (.region r66_8 none) .ret
@[simp] def k66_1 : HCode := .seq (.seq (.region r66_2 none) k66_2) k66_7
@[simp] def k66_0 : HCode := .seq (.region r66_1 none) k66_1
@[simp] def fn66 : HFn := { nargs := 2, results := [.tmp 4], mode := .shared, code := (.seq (.region r66_0 none) k66_0) }
theorem c66 : cFn Try.prog (Hs 66) .shared 66 = some fn66 := by kernel_rfl
/- sterling/bigint.takes -/
@[simp] def r67_0 : List HOp := [⟨(some 6), true, .mv (.val (.tr (.sc (.bool false)))), none⟩]
@[simp] def r67_1 : List HOp := [⟨(some 7), true, .mv (.val (.tr (.sc (.int .u64 0)))), none⟩,
     ⟨(some 8), true, .mv (.val (.tr (.sc (.int .i64 0)))), none⟩]
@[simp] def r67_2 : List HOp := [⟨(some 10), false, .mv (.env 0), none⟩,
      ⟨(some 11), true, .len 1 (.loc 10), none⟩,
      ⟨(some 12), true, .mv (.val (.tr (.sc (.int .i64 0)))), none⟩]
@[simp] def r67_3 : List HOp := [⟨(some 13), false, .bin .other .lss (.env 12) (.env 11), none⟩]
@[simp] def r67_4 : List HOp := [⟨(some 14), false, .mv (.env 12), none⟩,
          ⟨(some 9), true, .mv (.loc 14), none⟩]
@[simp] def r67_5 : List HOp := [⟨(some 15), false, .mv (.env 9), none⟩,
           ⟨(some 16), false, .mv (.env 1), none⟩,
           ⟨(some 17), false, .len 1 (.loc 16), none⟩,
           ⟨(some 18), false, .bin .other .lss (.loc 15) (.loc 17), none⟩]
@[simp] def r67_6 : List HOp := [⟨(some 19), false, .mv (.env 7), none⟩,
           ⟨(some 20), false, .mv (.env 2), none⟩,
           ⟨(some 21), false, .mv (.env 1), none⟩,
           ⟨(some 22), false, .mv (.env 9), none⟩,
           ⟨(some 23), false, .iaddr 1 (.loc 21) (.loc 22), none⟩,
           ⟨(some 24), false, .load 1 false (.loc 23), none⟩,
           ⟨(some 25), false, .conv (.toInt .u64) (.loc 24), none⟩,
           ⟨(some 26), false, .bin .other .mul (.loc 20) (.loc 25), none⟩,
           ⟨(some 27), false, .bin .other .add (.loc 19) (.loc 26), none⟩,
           ⟨(some 7), true, .mv (.loc 27), none⟩]
@[simp] def r67_7 : List HOp := [⟨(some 28), false, .mv (.env 8), none⟩,
          ⟨(some 29), false, .mv (.env 0), none⟩,
          ⟨(some 30), false, .mv (.env 9), none⟩,
          ⟨(some 31), false, .iaddr 1 (.loc 29) (.loc 30), none⟩,
          ⟨(some 32), false, .load 1 false (.loc 31), none⟩,
          ⟨(some 33), false, .conv (.toInt .i64) (.loc 32), none⟩,
          ⟨(some 34), false, .mv (.env 7), none⟩,
          ⟨(some 35), false, .conv (.toInt .u32) (.loc 34), none⟩,
          ⟨(some 36), false, .conv (.toInt .i64) (.loc 35), none⟩,
          ⟨(some 37), false, .bin .other .sub (.loc 33) (.loc 36), none⟩,
          ⟨(some 38), false, .bin .other .add (.loc 28) (.loc 37), none⟩,
          ⟨(some 8), true, .mv (.loc 38), none⟩]
@[simp] def r67_8 : List HOp := [⟨(some 39), false, .mv (.env 0), none⟩,
          ⟨(some 40), false, .mv (.env 9), none⟩,
          ⟨(some 41), false, .mv (.env 8), none⟩,
          ⟨(some 42), false, .conv (.toInt .u32) (.loc 41), none⟩,
          ⟨(some 43), false, .iaddr 1 (.loc 39) (.loc 40), none⟩,
          ⟨none, false, .store 1 (.loc 43) (.loc 42), none⟩]
@[simp] def r67_9 : List HOp := [⟨(some 44), false, .mv (.env 8), none⟩,
          ⟨(some 45), false, .bin .other .shr (.loc 44) (.val (.tr (.sc (.int .u64 32)))), none⟩,
          ⟨(some 8), true, .mv (.loc 45), none⟩]
@[simp] def r67_10 : List HOp := [⟨(some 46), false, .mv (.env 7), none⟩,
         ⟨(some 47), false, .bin .other .shr (.loc 46) (.val (.tr (.sc (.int .u64 32)))), none⟩,
         ⟨(some 7), true, .mv (.loc 47), none⟩]
@[simp] def r67_11 : List HOp := [⟨(some 48), false, .bin .other .add (.env 12) (.val (.tr (.sc (.int .i64 1)))), none⟩,
       ⟨(some 12), true, .mv (.loc 48), none⟩]
@[simp] def r67_12 : List HOp := [⟨(some 49), false, .mv (.env 8), none⟩,
     ⟨(some 50), false, .bin .other .lss (.loc 49) (.val (.tr (.sc (.int .i64 0)))), none⟩,
     ⟨(some 6), true, .mv (.loc 50), none⟩]
@[simp] def k67_7 : HCode := .cond (.loc 18) (.region r67_6 none) .skip
@[simp] def k67_10 : HCode := .seq (.region r67_9 none) (.region r67_10 none)
@[simp] def k67_9 : HCode := .seq (.region r67_8 none) k67_10
def k67_8 : HCode := .seq (.region r67_7 none) k67_9
@[simp] def k67_6 : HCode := .seq (.seq (.region r67_5 none) k67_7) k67_8
def k67_11 : HCode := .region r67_11 none
def k67_5 : HCode := .seq (.block 1 (.seq (.region r67_4 none) k67_6)) k67_11
@[simp] def k67_4 : HCode := .seq (.cond (.loc 13) .skip (.exit 0)) k67_5
def k67_3 : HCode := .seq (.region r67_3 none) k67_4
@[simp] def k67_2 : HCode := .block 0 (.loop k67_3)
def k67_12 : HCode := .seq (.region r67_12 none) .ret
@[simp] def k67_1 : HCode := .seq (.seq (.region r67_2 none) k67_2) k67_12
@[simp] def k67_0 : HCode := .seq (.region r67_1 none) k67_1
@[simp] def fn67 : HFn := { nargs := 3, results := [.tmp 6], mode := .shared, code := (.seq (.region r67_0 none) k67_0) }
theorem c67 : cFn Try.prog (Hs 67) .shared 67 = some fn67 := by kernel_rfl
/- sterling/bigint.gives -/
@[simp] def r68_0 : List HOp := [⟨(some 4), true, .mv (.val (.tr (.sc (.bool false)))), none⟩]
@[simp] def r68_1 : List HOp := [⟨(some 5), true, .mv (.val (.tr (.sc (.int .u64 0)))), none⟩]
@[simp] def r68_2 : List HOp := [⟨(some 7), false, .mv (.env 0), none⟩,
      ⟨(some 8), true, .len 1 (.loc 7), none⟩,
      ⟨(some 9), true, .mv (.val (.tr (.sc (.int .i64 0)))), none⟩]
@[simp] def r68_3 : List HOp := [⟨(some 10), false, .bin .other .lss (.env 9) (.env 8), none⟩]
@[simp] def r68_4 : List HOp := [⟨(some 11), false, .mv (.env 9), none⟩,
          ⟨(some 6), true, .mv (.loc 11), none⟩]
@[simp] def r68_5 : List HOp := [⟨(some 12), false, .mv (.env 5), none⟩,
          ⟨(some 13), false, .mv (.env 0), none⟩,
          ⟨(some 14), false, .mv (.env 6), none⟩,
          ⟨(some 15), false, .iaddr 1 (.loc 13) (.loc 14), none⟩,
          ⟨(some 16), false, .load 1 false (.loc 15), none⟩,
          ⟨(some 17), false, .conv (.toInt .u64) (.loc 16), none⟩,
          ⟨(some 18), false, .bin .other .add (.loc 12) (.loc 17), none⟩,
          ⟨(some 5), true, .mv (.loc 18), none⟩]
@[simp] def r68_6 : List HOp := [⟨(some 19), false, .mv (.env 6), none⟩,
           ⟨(some 20), false, .mv (.env 1), none⟩,
           ⟨(some 21), false, .len 1 (.loc 20), none⟩,
           ⟨(some 22), false, .bin .other .lss (.loc 19) (.loc 21), none⟩]
@[simp] def r68_7 : List HOp := [⟨(some 23), false, .mv (.env 5), none⟩,
           ⟨(some 24), false, .mv (.env 1), none⟩,
           ⟨(some 25), false, .mv (.env 6), none⟩,
           ⟨(some 26), false, .iaddr 1 (.loc 24) (.loc 25), none⟩,
           ⟨(some 27), false, .load 1 false (.loc 26), none⟩,
           ⟨(some 28), false, .conv (.toInt .u64) (.loc 27), none⟩,
           ⟨(some 29), false, .bin .other .add (.loc 23) (.loc 28), none⟩,
           ⟨(some 5), true, .mv (.loc 29), none⟩]
@[simp] def r68_8 : List HOp := [⟨(some 30), false, .mv (.env 0), none⟩,
          ⟨(some 31), false, .mv (.env 6), none⟩,
          ⟨(some 32), false, .mv (.env 5), none⟩,
          ⟨(some 33), false, .conv (.toInt .u32) (.loc 32), none⟩,
          ⟨(some 34), false, .iaddr 1 (.loc 30) (.loc 31), none⟩,
          ⟨none, false, .store 1 (.loc 34) (.loc 33), none⟩]
@[simp] def r68_9 : List HOp := [⟨(some 35), false, .mv (.env 5), none⟩,
         ⟨(some 36), false, .bin .other .shr (.loc 35) (.val (.tr (.sc (.int .u64 32)))), none⟩,
         ⟨(some 5), true, .mv (.loc 36), none⟩]
@[simp] def r68_10 : List HOp := [⟨(some 37), false, .bin .other .add (.env 9) (.val (.tr (.sc (.int .i64 1)))), none⟩,
       ⟨(some 9), true, .mv (.loc 37), none⟩]
@[simp] def r68_11 : List HOp := [⟨(some 38), false, .mv (.env 5), none⟩,
     ⟨(some 39), false, .bin .other .gtr (.loc 38) (.val (.tr (.sc (.int .u64 0)))), none⟩,
     ⟨(some 4), true, .mv (.loc 39), none⟩]
@[simp] def k68_8 : HCode := .cond (.loc 22) (.region r68_7 none) .skip
def k68_9 : HCode := .seq (.region r68_8 none) (.region r68_9 none)
@[simp] def k68_7 : HCode := .seq (.seq (.region r68_6 none) k68_8) k68_9
@[simp] def k68_6 : HCode := .seq (.region r68_5 none) k68_7
def k68_10 : HCode := .region r68_10 none
def k68_5 : HCode := .seq (.block 1 (.seq (.region r68_4 none) k68_6)) k68_10
@[simp] def k68_4 : HCode := .seq (.cond (.loc 10) .skip (.exit 0)) k68_5
def k68_3 : HCode := .seq (.region r68_3 none) k68_4
@[simp] def k68_2 : HCode := .block 0 (.loop k68_3)
def k68_11 : HCode := .seq (.region r68_11 none) .ret
@[simp] def k68_1 : HCode := .seq (.seq (.region r68_2 none) k68_2) k68_11
@[simp] def k68_0 : HCode := .seq (.region r68_1 none) k68_1
@[simp] def fn68 : HFn := { nargs := 2, results := [.tmp 4], mode := .shared, code := (.seq (.region r68_0 none) k68_0) }
theorem c68 : cFn Try.prog (Hs 68) .shared 68 = some fn68 := by kernel_rfl
/- sterling/bigint.Bitwise -/
@[simp] def r28_0 : List HOp := [⟨(some 4), true, .box true (.env 1), none⟩,
     ⟨(some 5), true, .box true (.env 2), none⟩,
     ⟨(some 6), true, .alloc [(.sc (.bool false)), (.sc (.slice none 0 0))], none⟩,
     ⟨(some 7), true, .mv (.val (.tr (.sc (.bool false)))), none⟩]
@[simp] def r28_1 : List HOp := [⟨(some 12), false, .faddr 1 (.env 4), none⟩,
     ⟨(some 13), false, .load 1 false (.loc 12), none⟩,
     ⟨(some 14), false, .len 1 (.loc 13), none⟩,
     ⟨(some 15), false, .faddr 1 (.env 5), none⟩,
     ⟨(some 16), false, .load 1 false (.loc 15), none⟩,
     ⟨(some 17), false, .len 1 (.loc 16), none⟩,
     ⟨(some 18), false, .minmax true (.loc 14) [(.loc 17)], none⟩,
     ⟨(some 19), false, .bin .other .add (.loc 18) (.val (.tr (.sc (.int .i64 1)))), none⟩,
     ⟨(some 8), true, .mv (.loc 19), none⟩]
@[simp] def r28_2 : List HOp := [⟨(some 20), false, .ldt 2 true (.env 4), none⟩,
     ⟨(some 21), false, .mv (.env 8), none⟩,
     ⟨(some 22), false, .callf 57 [(.loc 20), (.loc 21)], none⟩,
     ⟨(some 23), false, .ldt 2 true (.env 5), none⟩,
     ⟨(some 24), false, .mv (.env 8), none⟩,
     ⟨(some 25), false, .callf 57 [(.loc 23), (.loc 24)], none⟩,
     ⟨(some 9), true, .mv (.loc 22), none⟩,
     ⟨(some 10), true, .mv (.loc 25), none⟩]
@[simp] def r28_3 : List HOp := [⟨(some 26), false, .mv (.env 9), none⟩,
      ⟨(some 27), true, .len 1 (.loc 26), none⟩,
      ⟨(some 28), true, .mv (.val (.tr (.sc (.int .i64 0)))), none⟩]
@[simp] def r28_4 : List HOp := [⟨(some 29), false, .bin .other .lss (.env 28) (.env 27), none⟩]
@[simp] def r28_5 : List HOp := [⟨(some 30), false, .mv (.env 28), none⟩,
          ⟨(some 11), true, .mv (.loc 30), none⟩]
@[simp] def r28_6 : List HOp := [⟨(some 31), true, .mv (.env 0), none⟩]
@[simp] def r28_7 : List HOp := [⟨(some 34), false, .bin .other .eql (.env 31) (.val (.tr (.sc (.string ⟨⟨[38]⟩⟩)))), none⟩,
           ⟨(some 33), false, .mv (.loc 34), none⟩]
@[simp] def r28_8 : List HOp := [⟨(some 35), false, .mv (.env 9), none⟩,
           ⟨(some 36), false, .mv (.env 11), none⟩,
           ⟨(some 37), false, .iaddr 1 (.loc 35) (.loc 36), none⟩,
           ⟨(some 38), false, .load 1 false (.loc 37), none⟩,
           ⟨(some 39), false, .mv (.env 10), none⟩,
           ⟨(some 40), false, .mv (.env 11), none⟩,
           ⟨(some 41), false, .iaddr 1 (.loc 39) (.loc 40), none⟩,
           ⟨(some 42), false, .load 1 false (.loc 41), none⟩,
           ⟨(some 43), false, .bin .other .and (.loc 38) (.loc 42), none⟩,
           ⟨(some 44), false, .iaddr 1 (.loc 35) (.loc 36), none⟩,
           ⟨none, false, .store 1 (.loc 44) (.loc 43), none⟩]
@[simp] def r28_9 : List HOp := [⟨(some 46), false, .bin .other .eql (.env 31) (.val (.tr (.sc (.string ⟨⟨[124]⟩⟩)))), none⟩,
            ⟨(some 45), false, .mv (.loc 46), none⟩]
@[simp] def r28_10 : List HOp := [⟨(some 47), false, .mv (.env 9), none⟩,
            ⟨(some 48), false, .mv (.env 11), none⟩,
            ⟨(some 49), false, .iaddr 1 (.loc 47) (.loc 48), none⟩,
            ⟨(some 50), false, .load 1 false (.loc 49), none⟩,
            ⟨(some 51), false, .mv (.env 10), none⟩,
            ⟨(some 52), false, .mv (.env 11), none⟩,
            ⟨(some 53), false, .iaddr 1 (.loc 51) (.loc 52), none⟩,
            ⟨(some 54), false, .load 1 false (.loc 53), none⟩,
            ⟨(some 55), false, .bin .other .or (.loc 50) (.loc 54), none⟩,
            ⟨(some 56), false, .iaddr 1 (.loc 47) (.loc 48), none⟩,
            ⟨none, false, .store 1 (.loc 56) (.loc 55), none⟩]
@[simp] def r28_11 : List HOp := [⟨(some 58), false, .bin .other .eql (.env 31) (.val (.tr (.sc (.string ⟨⟨[94]⟩⟩)))), none⟩,
             ⟨(some 57), false, .mv (.loc 58), none⟩]
@[simp] def r28_12 : List HOp := [⟨(some 59), false, .mv (.env 9), none⟩,
             ⟨(some 60), false, .mv (.env 11), none⟩,
             ⟨(some 61), false, .iaddr 1 (.loc 59) (.loc 60), none⟩,
             ⟨(some 62), false, .load 1 false (.loc 61), none⟩,
             ⟨(some 63), false, .mv (.env 10), none⟩,
             ⟨(some 64), false, .mv (.env 11), none⟩,
             ⟨(some 65), false, .iaddr 1 (.loc 63) (.loc 64), none⟩,
             ⟨(some 66), false, .load 1 false (.loc 65), none⟩,
             ⟨(some 67), false, .bin .other .xor (.loc 62) (.loc 66), none⟩,
             ⟨(some 68), false, .iaddr 1 (.loc 59) (.loc 60), none⟩,
             ⟨none, false, .store 1 (.loc 68) (.loc 67), none⟩]
@[simp] def r28_13 : List HOp := [⟨(some 70), false, .bin .other .eql (.env 31) (.val (.tr (.sc (.string ⟨⟨[38, 94]⟩⟩)))), none⟩,
              ⟨(some 69), false, .mv (.loc 70), none⟩]
@[simp] def r28_14 : List HOp := [⟨(some 71), false, .mv (.env 9), none⟩,
              ⟨(some 72), false, .mv (.env 11), none⟩,
              ⟨(some 73), false, .iaddr 1 (.loc 71) (.loc 72), none⟩,
              ⟨(some 74), false, .load 1 false (.loc 73), none⟩,
              ⟨(some 75), false, .mv (.env 10), none⟩,
              ⟨(some 76), false, .mv (.env 11), none⟩,
              ⟨(some 77), false, .iaddr 1 (.loc 75) (.loc 76), none⟩,
              ⟨(some 78), false, .load 1 false (.loc 77), none⟩,
              ⟨(some 79), false, .bin .other .andNot (.loc 74) (.loc 78), none⟩,
              ⟨(some 80), false, .iaddr 1 (.loc 71) (.loc 72), none⟩,
              ⟨none, false, .store 1 (.loc 80) (.loc 79), none⟩]
@[simp] def r28_15 : List HOp := [⟨(some 32), false, .build [(.sc (.bool false)), (.sc (.slice none 0 0))] [], none⟩,
               ⟨none, false, .store 2 (.env 6) (.loc 32), none⟩,
               ⟨(some 7), true, .mv (.val (.tr (.sc (.bool false)))), none⟩]
@[simp] def r28_16 : List HOp := [⟨(some 81), false, .bin .other .add (.env 28) (.val (.tr (.sc (.int .i64 1)))), none⟩,
       ⟨(some 28), true, .mv (.loc 81), none⟩]
@[simp] def r28_17 : List HOp := [⟨(some 82), false, .mv (.env 9), none⟩,
      ⟨(some 83), false, .mv (.env 8), none⟩,
      ⟨(some 84), false, .bin .other .sub (.loc 83) (.val (.tr (.sc (.int .i64 1)))), none⟩,
      ⟨(some 85), false, .iaddr 1 (.loc 82) (.loc 84), none⟩,
      ⟨(some 86), false, .load 1 false (.loc 85), none⟩,
      ⟨(some 87), false, .bin .other .shr (.loc 86) (.val (.tr (.sc (.int .u64 31)))), none⟩,
      ⟨(some 88), false, .bin .other .eql (.loc 87) (.val (.tr (.sc (.int .u32 0)))), none⟩]
@[simp] def r28_18 : List HOp := [⟨(some 89), false, .mv (.env 9), none⟩,
       ⟨(some 90), false, .callf 41 [(.val (.tr (.sc (.bool false)))), (.loc 89)], none⟩,
       ⟨none, false, .store 2 (.env 6) (.loc 90), none⟩,
       ⟨(some 7), true, .mv (.val (.tr (.sc (.bool true)))), none⟩]
@[simp] def r28_19 : List HOp := [⟨(some 91), false, .mv (.env 9), none⟩,
     ⟨(some 92), false, .build [(.sc (.bool false)), (.sc (.slice none 0 0))] [(0, 1, (.val (.tr (.sc (.bool true))))), (1, 1, (.loc 91))], none⟩,
     ⟨(some 93), false, .mv (.env 8), none⟩,
     ⟨(some 94), false, .callf 57 [(.loc 92), (.loc 93)], none⟩,
     ⟨(some 95), false, .callf 41 [(.val (.tr (.sc (.bool true)))), (.loc 94)], none⟩,
     ⟨none, false, .store 2 (.env 6) (.loc 95), none⟩,
     ⟨(some 7), true, .mv (.val (.tr (.sc (.bool true)))), none⟩]
@[simp] def k28_16 : HCode := .seq (.region r28_15 none) .ret
@[simp] def k28_15 : HCode := .cond (.loc 69) (.region r28_14 (some [ ( 0, [ 9 ] ) , ( 0, [ 11 ] ) , ( 1, [ 71, 72 ] ) , ( 1, [ 73 ] ) , ( 0, [ 10 ] ) , ( 0, [ 11 ] ) , ( 1, [ 75, 76 ] ) , ( 1, [ 77 ] ) , ( 0, [ 74, 78 ] ) , ( 2, [ 71, 72 ] ) , ( 2, [ 80, 79 ] ) ])) k28_16
@[simp] def k28_14 : HCode := .seq (.region r28_13 none) k28_15
@[simp] def k28_13 : HCode := .cond (.loc 57) (.region r28_12 (some [ ( 0, [ 9 ] ) , ( 0, [ 11 ] ) , ( 1, [ 59, 60 ] ) , ( 1, [ 61 ] ) , ( 0, [ 10 ] ) , ( 0, [ 11 ] ) , ( 1, [ 63, 64 ] ) , ( 1, [ 65 ] ) , ( 0, [ 62, 66 ] ) , ( 2, [ 59, 60 ] ) , ( 2, [ 68, 67 ] ) ])) k28_14
@[simp] def k28_12 : HCode := .seq (.region r28_11 none) k28_13
@[simp] def k28_11 : HCode := .cond (.loc 45) (.region r28_10 (some [ ( 0, [ 9 ] ) , ( 0, [ 11 ] ) , ( 1, [ 47, 48 ] ) , ( 1, [ 49 ] ) , ( 0, [ 10 ] ) , ( 0, [ 11 ] ) , ( 1, [ 51, 52 ] ) , ( 1, [ 53 ] ) , ( 0, [ 50, 54 ] ) , ( 2, [ 47, 48 ] ) , ( 2, [ 56, 55 ] ) ])) k28_12
@[simp] def k28_10 : HCode := .seq (.region r28_9 none) k28_11
@[simp] def k28_9 : HCode := .cond (.loc 33) (.region r28_8 (some [ ( 0, [ 9 ] ) , ( 0, [ 11 ] ) , ( 1, [ 35, 36 ] ) , ( 1, [ 37 ] ) , ( 0, [ 10 ] ) , ( 0, [ 11 ] ) , ( 1, [ 39, 40 ] ) , ( 1, [ 41 ] ) , ( 0, [ 38, 42 ] ) , ( 2, [ 35, 36 ] ) , ( 2, [ 44, 43 ] ) ])) k28_10
@[simp] def k28_8 : HCode := .block 2 (.seq (.region r28_7 none) k28_9)
@[simp] def k28_7 : HCode := .seq (.region r28_6 none) k28_8
def k28_17 : HCode := .region r28_16 none
def k28_6 : HCode := .seq (.block 1 (.seq (.region r28_5 none) k28_7)) k28_17
@[simp] def k28_5 : HCode := .seq (.cond (.loc 29) .skip (.exit 0)) k28_6
def k28_4 : HCode := .seq (.region r28_4 none) k28_5
@[simp] def k28_3 : HCode := .block 0 (.loop k28_4)
@[simp] def k28_20 : HCode := .seq (.region r28_18 none) .ret
@[simp] def k28_19 : HCode := .cond (.loc 88) k28_20 .skip
def k28_21 : HCode := .seq (.region r28_19 none) .ret
def k28_18 : HCode := .seq (.seq (.region r28_17 none) k28_19) k28_21
@[simp] def k28_2 : HCode := .seq (.seq (.region r28_3 none) k28_3) k28_18
@[simp] def k28_1 : HCode := .seq (.region r28_2 (some [ ( 0, [ 4 ] ) , ( 0, [ 8 ] ) , ( 2, [ 20, 21 ] ) , ( 0, [ 5 ] ) , ( 0, [ 8 ] ) , ( 2, [ 23, 24 ] ) , ( 0, [ 22 ] ) , ( 0, [ 25 ] ) ])) k28_2
@[simp] def k28_0 : HCode := .seq (.region r28_1 none) k28_1
@[simp] def fn28 : HFn := { nargs := 3, results := [.cell 6 2 true, .tmp 7], mode := .iso, code := (.seq (.region r28_0 none) k28_0) }
theorem c28 : cFn Try.prog (Hs 28) .iso 28 = some fn28 := by kernel_rfl
/- sterling/bigint.digits -/
@[simp] def r57_0 : List HOp := [⟨(some 2), true, .box true (.env 0), none⟩,
     ⟨(some 4), true, .mv (.val (.tr (.sc (.slice none 0 0)))), none⟩]
@[simp] def r57_1 : List HOp := [⟨(some 9), false, .mv (.env 1), none⟩,
     ⟨(some 10), false, .mkslice [(.sc (.int .u32 0))] 4 (.loc 9) (.loc 9), none⟩,
     ⟨(some 5), true, .mv (.loc 10), none⟩]
@[simp] def r57_2 : List HOp := [⟨(some 11), false, .mv (.env 5), none⟩,
     ⟨(some 12), false, .faddr 1 (.env 2), none⟩,
     ⟨(some 13), false, .load 1 false (.loc 12), none⟩,
     ⟨(some 14), false, .callf 48 [(.loc 13)], none⟩,
     ⟨(some 15), false, .copy 1 (.loc 11) (.loc 14), none⟩]
@[simp] def r57_3 : List HOp := [⟨(some 16), false, .load 2 true (.env 2), none⟩,
      ⟨(some 17), false, .callf 50 [(.loc 16)], none⟩,
      ⟨(some 18), false, .un .not (.loc 17), none⟩]
@[simp] def r57_4 : List HOp := [⟨(some 19), false, .mv (.env 5), none⟩,
       ⟨(some 4), true, .mv (.loc 19), none⟩]
@[simp] def r57_5 : List HOp := [⟨(some 6), true, .mv (.val (.tr (.sc (.int .u64 1)))), none⟩]
@[simp] def r57_6 : List HOp := [⟨(some 20), true, .mv (.env 5), none⟩,
      ⟨(some 21), true, .len 1 (.env 20), none⟩,
      ⟨(some 22), true, .mv (.val (.tr (.sc (.int .i64 0)))), none⟩]
@[simp] def r57_7 : List HOp := [⟨(some 23), false, .bin .other .lss (.env 22) (.env 21), none⟩]
@[simp] def r57_8 : List HOp := [⟨(some 24), false, .mv (.env 22), none⟩,
          ⟨(some 25), false, .iaddr 1 (.env 20) (.env 22), none⟩,
          ⟨(some 26), false, .load 1 false (.loc 25), none⟩,
          ⟨(some 7), true, .mv (.loc 24), none⟩,
          ⟨(some 8), true, .mv (.loc 26), none⟩]
@[simp] def r57_9 : List HOp := [⟨(some 27), false, .mv (.env 6), none⟩,
          ⟨(some 28), false, .mv (.env 8), none⟩,
          ⟨(some 29), false, .un .xor (.loc 28), none⟩,
          ⟨(some 30), false, .conv (.toInt .u64) (.loc 29), none⟩,
          ⟨(some 31), false, .bin .other .add (.loc 27) (.loc 30), none⟩,
          ⟨(some 6), true, .mv (.loc 31), none⟩]
@[simp] def r57_10 : List HOp := [⟨(some 32), false, .mv (.env 5), none⟩,
          ⟨(some 33), false, .mv (.env 7), none⟩,
          ⟨(some 34), false, .mv (.env 6), none⟩,
          ⟨(some 35), false, .conv (.toInt .u32) (.loc 34), none⟩,
          ⟨(some 36), false, .iaddr 1 (.loc 32) (.loc 33), none⟩,
          ⟨none, false, .store 1 (.loc 36) (.loc 35), none⟩]
@[simp] def r57_11 : List HOp := [⟨(some 37), false, .mv (.env 6), none⟩,
         ⟨(some 38), false, .bin .other .shr (.loc 37) (.val (.tr (.sc (.int .u64 32)))), none⟩,
         ⟨(some 6), true, .mv (.loc 38), none⟩]
@[simp] def r57_12 : List HOp := [⟨(some 39), false, .bin .other .add (.env 22) (.val (.tr (.sc (.int .i64 1)))), none⟩,
       ⟨(some 22), true, .mv (.loc 39), none⟩]
@[simp] def r57_13 : List HOp := [⟨(some 40), false, .mv (.env 5), none⟩,
     ⟨(some 4), true, .mv (.loc 40), none⟩]
@[simp] def k57_4 : HCode := .seq (.region r57_4 none) .ret
@[simp] def k57_3 : HCode := .cond (.loc 18) k57_4 .skip
@[simp] def k57_12 : HCode := .seq (.region r57_10 none) (.region r57_11 none)
@[simp] def k57_11 : HCode := .seq (.region r57_9 none) k57_12
def k57_10 : HCode := .seq (.block 1 (.seq (.region r57_8 none) k57_11)) (.region r57_12 none)
@[simp] def k57_9 : HCode := .seq (.cond (.loc 23) .skip (.exit 0)) k57_10
def k57_8 : HCode := .seq (.region r57_7 none) k57_9
@[simp] def k57_7 : HCode := .block 0 (.loop k57_8)
def k57_13 : HCode := .seq (.region r57_13 none) .ret
@[simp] def k57_6 : HCode := .seq (.seq (.region r57_6 none) k57_7) k57_13
def k57_5 : HCode := .seq (.region r57_5 none) k57_6
@[simp] def k57_2 : HCode := .seq (.seq (.region r57_3 none) k57_3) k57_5
@[simp] def k57_1 : HCode := .seq (.region r57_2 none) k57_2
@[simp] def k57_0 : HCode := .seq (.region r57_1 none) k57_1
@[simp] def fn57 : HFn := { nargs := 2, results := [.tmp 4], mode := .shared, code := (.seq (.region r57_0 none) k57_0) }
theorem c57 : cFn Try.prog (Hs 57) .shared 57 = some fn57 := by kernel_rfl
/- sterling/bigint.below -/
@[simp] def r50_0 : List HOp := [⟨(some 1), true, .box true (.env 0), none⟩,
     ⟨(some 2), true, .mv (.val (.tr (.sc (.bool false)))), none⟩]
@[simp] def r50_1 : List HOp := [⟨(some 3), false, .faddr 0 (.env 1), none⟩,
     ⟨(some 4), false, .load 1 false (.loc 3), none⟩,
     ⟨(some 5), false, .mv (.loc 4), none⟩,
     ⟨(some 6), false, .faddr 1 (.env 1), some ((.loc 5), true)⟩,
     ⟨(some 7), false, .load 1 false (.loc 6), some ((.loc 5), true)⟩,
     ⟨(some 8), false, .callf 48 [(.loc 7)], some ((.loc 5), true)⟩,
     ⟨(some 9), false, .len 1 (.loc 8), some ((.loc 5), true)⟩,
     ⟨(some 10), false, .bin .other .gtr (.loc 9) (.val (.tr (.sc (.int .i64 0)))), some ((.loc 5), true)⟩,
     ⟨(some 11), false, .pick (.loc 5) (.loc 10) (.val (.tr (.sc (.bool false)))), none⟩,
     ⟨(some 2), true, .mv (.loc 11), none⟩]
@[simp] def k50_0 : HCode := .seq (.region r50_1 none) .ret
@[simp] def fn50 : HFn := { nargs := 1, results := [.tmp 2], mode := .iso, code := (.seq (.region r50_0 none) k50_0) }
theorem c50 : cFn Try.prog (Hs 50) .iso 50 = some fn50 := by kernel_rfl
/- sterling/bigint.Text -/
@[simp] def r33_0 : List HOp := [⟨(some 1), true, .box true (.env 0), none⟩,
     ⟨(some 2), true, .mv (.val (.tr (.sc (.string ⟨⟨[]⟩⟩)))), none⟩]
@[simp] def r33_1 : List HOp := [⟨(some 7), false, .faddr 1 (.env 1), none⟩,
     ⟨(some 8), false, .load 1 false (.loc 7), none⟩,
     ⟨(some 9), false, .callf 48 [(.loc 8)], none⟩,
     ⟨(some 10), false, .callf 53 [(.loc 9)], none⟩,
     ⟨(some 3), true, .mv (.loc 10), none⟩]
@[simp] def r33_2 : List HOp := [⟨(some 11), false, .mv (.env 3), none⟩,
      ⟨(some 12), false, .len 1 (.loc 11), none⟩,
      ⟨(some 13), false, .bin .other .eql (.loc 12) (.val (.tr (.sc (.int .i64 0)))), none⟩]
@[simp] def r33_3 : List HOp := [⟨(some 2), true, .mv (.val (.tr (.sc (.string ⟨⟨[48]⟩⟩)))), none⟩]
@[simp] def r33_4 : List HOp := [⟨(some 4), true, .mv (.val (.tr (.sc (.slice none 0 0)))), none⟩]
@[simp] def r33_5 : List HOp := [⟨(some 14), false, .mv (.env 3), none⟩,
         ⟨(some 15), false, .len 1 (.loc 14), none⟩,
         ⟨(some 16), false, .bin .other .gtr (.loc 15) (.val (.tr (.sc (.int .i64 0)))), none⟩]
@[simp] def r33_6 : List HOp := [⟨(some 17), false, .mv (.env 3), none⟩,
         ⟨(some 18), false, .callf 54 [(.loc 17), (.val (.tr (.sc (.int .u32 1000000000))))], none⟩,
         ⟨(some 5), true, .mv (.loc 18), none⟩]
@[simp] def r33_7 : List HOp := [⟨(some 19), false, .mv (.env 3), none⟩,
         ⟨(some 20), false, .callf 48 [(.loc 19)], none⟩,
         ⟨(some 3), true, .mv (.loc 20), none⟩]
@[simp] def r33_8 : List HOp := [⟨(some 6), true, .mv (.val (.tr (.sc (.int .i64 0)))), none⟩]
@[simp] def r33_9 : List HOp := [⟨(some 21), false, .mv (.env 6), none⟩,
            ⟨(some 22), false, .bin .other .lss (.loc 21) (.val (.tr (.sc (.int .i64 9)))), none⟩,
            ⟨(some 23), false, .mv (.loc 22), none⟩,
            ⟨(some 24), false, .mv (.env 3), some ((.loc 23), true)⟩,
            ⟨(some 25), false, .len 1 (.loc 24), some ((.loc 23), true)⟩,
            ⟨(some 26), false, .bin .other .gtr (.loc 25) (.val (.tr (.sc (.int .i64 0)))), some ((.loc 23), true)⟩,
            ⟨(some 27), false, .mv (.loc 26), some ((.loc 23), true)⟩,
            ⟨(some 28), false, .mv (.env 5), some ((.loc 27), false)⟩,
            ⟨(some 29), false, .bin .other .gtr (.loc 28) (.val (.tr (.sc (.int .u32 0)))), some ((.loc 27), false)⟩,
            ⟨(some 30), false, .pick (.loc 27) (.val (.tr (.sc (.bool true)))) (.loc 29), some ((.loc 23), true)⟩,
            ⟨(some 31), false, .pick (.loc 23) (.loc 30) (.val (.tr (.sc (.bool false)))), none⟩]
@[simp] def r33_10 : List HOp := [⟨(some 34), false, .mv (.env 4), none⟩,
             ⟨(some 35), false, .mv (.env 5), none⟩,
             ⟨(some 36), false, .bin .other .rem (.loc 35) (.val (.tr (.sc (.int .u32 10)))), none⟩,
             ⟨(some 37), false, .bin .other .add (.val (.tr (.sc (.int .u32 48)))) (.loc 36), none⟩,
             ⟨(some 38), false, .conv (.toInt .u8) (.loc 37), none⟩,
             ⟨(some 39), false, .bslice false 1 1 [(.sc (.int .u8 0))] [(0, 1, (.loc 38))], none⟩,
             ⟨(some 40), false, .append 1 1 (.loc 34) (.loc 39), none⟩,
             ⟨(some 4), true, .mv (.loc 40), none⟩]
@[simp] def r33_11 : List HOp := [⟨(some 41), false, .mv (.env 5), none⟩,
            ⟨(some 42), false, .bin .other .quo (.loc 41) (.val (.tr (.sc (.int .u32 10)))), none⟩,
            ⟨(some 5), true, .mv (.loc 42), none⟩]
@[simp] def r33_12 : List HOp := [⟨(some 32), false, .mv (.env 6), none⟩,
          ⟨(some 33), false, .bin .other .add (.loc 32) (.val (.tr (.sc (.int .i64 1)))), none⟩,
          ⟨(some 6), true, .mv (.loc 33), none⟩]
@[simp] def r33_13 : List HOp := [⟨(some 43), false, .faddr 0 (.env 1), none⟩,
      ⟨(some 44), false, .load 1 false (.loc 43), none⟩]
@[simp] def r33_14 : List HOp := [⟨(some 45), false, .mv (.env 4), none⟩,
      ⟨(some 46), false, .bslice false 1 1 [(.sc (.int .u8 0))] [(0, 1, (.val (.tr (.sc (.int .u8 45)))))], none⟩,
      ⟨(some 47), false, .append 1 1 (.loc 45) (.loc 46), none⟩,
      ⟨(some 4), true, .mv (.loc 47), none⟩]
@[simp] def r33_15 : List HOp := [⟨(some 48), false, .mv (.env 4), none⟩,
     ⟨(some 49), false, .callf 60 [(.loc 48)], none⟩]
@[simp] def r33_16 : List HOp := [⟨(some 50), false, .mv (.env 4), none⟩,
     ⟨(some 51), false, .conv .bytesStr (.loc 50), none⟩,
     ⟨(some 2), true, .mv (.loc 51), none⟩]
@[simp] def k33_3 : HCode := .seq (.region r33_3 none) .ret
@[simp] def k33_2 : HCode := .cond (.loc 13) k33_3 .skip
@[simp] def k33_7 : HCode := .cond (.loc 16) .skip (.exit 0)
@[simp] def k33_13 : HCode := .cond (.loc 31) .skip (.exit 2)
def k33_14 : HCode := .seq (.block 3 (.seq (.region r33_10 none) (.region r33_11 none))) (.region r33_12 none)
def k33_12 : HCode := .seq (.seq (.region r33_9 none) k33_13) k33_14
@[simp] def k33_11 : HCode := .block 2 (.loop k33_12)
@[simp] def k33_10 : HCode := .seq (.region r33_8 none) k33_11
@[simp] def k33_9 : HCode := .seq (.region r33_7 none) k33_10
def k33_8 : HCode := .block 1 (.seq (.region r33_6 none) k33_9)
def k33_6 : HCode := .seq (.seq (.region r33_5 none) k33_7) k33_8
@[simp] def k33_16 : HCode := .cond (.loc 44) (.region r33_14 none) .skip
@[simp] def k33_18 : HCode := .seq (.region r33_16 none) .ret
def k33_17 : HCode := .seq (.region r33_15 none) k33_18
def k33_15 : HCode := .seq (.seq (.region r33_13 none) k33_16) k33_17
@[simp] def k33_5 : HCode := .seq (.block 0 (.loop k33_6)) k33_15
def k33_4 : HCode := .seq (.region r33_4 none) k33_5
@[simp] def k33_1 : HCode := .seq (.seq (.region r33_2 none) k33_2) k33_4
@[simp] def k33_0 : HCode := .seq (.region r33_1 none) k33_1
@[simp] def fn33 : HFn := { nargs := 1, results := [.tmp 2], mode := .iso, code := (.seq (.region r33_0 none) k33_0) }
theorem c33 : cFn Try.prog (Hs 33) .iso 33 = some fn33 := by kernel_rfl
/- slices.Reverse[[]byte,byte] -/
@[simp] def r60_0 : List HOp := [⟨(some 4), false, .mv (.env 0), none⟩,
     ⟨(some 5), false, .len 1 (.loc 4), none⟩,
     ⟨(some 6), false, .bin .other .sub (.loc 5) (.val (.tr (.sc (.int .i64 1)))), none⟩,
     ⟨(some 2), true, .mv (.val (.tr (.sc (.int .i64 0)))), none⟩,
     ⟨(some 3), true, .mv (.loc 6), none⟩]
@[simp] def r60_1 : List HOp := [⟨(some 7), false, .mv (.env 2), none⟩,
        ⟨(some 8), false, .mv (.env 3), none⟩,
        ⟨(some 9), false, .bin .other .lss (.loc 7) (.loc 8), none⟩]
@[simp] def r60_2 : List HOp := [⟨(some 14), false, .mv (.env 0), none⟩,
        ⟨(some 15), false, .mv (.env 2), none⟩,
        ⟨(some 16), false, .mv (.env 0), none⟩,
        ⟨(some 17), false, .mv (.env 3), none⟩,
        ⟨(some 18), false, .mv (.env 0), none⟩,
        ⟨(some 19), false, .mv (.env 3), none⟩,
        ⟨(some 20), false, .iaddr 1 (.loc 18) (.loc 19), none⟩,
        ⟨(some 21), false, .load 1 false (.loc 20), none⟩,
        ⟨(some 22), false, .mv (.env 0), none⟩,
        ⟨(some 23), false, .mv (.env 2), none⟩,
        ⟨(some 24), false, .iaddr 1 (.loc 22) (.loc 23), none⟩,
        ⟨(some 25), false, .load 1 false (.loc 24), none⟩,
        ⟨(some 26), false, .iaddr 1 (.loc 14) (.loc 15), none⟩,
        ⟨none, false, .store 1 (.loc 26) (.loc 21), none⟩,
        ⟨(some 27), false, .iaddr 1 (.loc 16) (.loc 17), none⟩,
        ⟨none, false, .store 1 (.loc 27) (.loc 25), none⟩]
@[simp] def r60_3 : List HOp := [⟨(some 10), false, .mv (.env 2), none⟩,
      ⟨(some 11), false, .bin .other .add (.loc 10) (.val (.tr (.sc (.int .i64 1)))), none⟩,
      ⟨(some 12), false, .mv (.env 3), none⟩,
      ⟨(some 13), false, .bin .other .sub (.loc 12) (.val (.tr (.sc (.int .i64 1)))), none⟩,
      ⟨(some 2), true, .mv (.loc 11), none⟩,
      ⟨(some 3), true, .mv (.loc 13), none⟩]
@[simp] def k60_2 : HCode := .cond (.loc 9) .skip (.exit 0)
def k60_3 : HCode := .seq (.block 1 (.region r60_2 (some [ ( 0, [ 0 ] ) , ( 0, [ 2 ] ) , ( 0, [ 0 ] ) , ( 0, [ 3 ] ) , ( 0, [ 0 ] ) , ( 0, [ 3 ] ) , ( 1, [ 18, 19 ] ) , ( 1, [ 20 ] ) , ( 0, [ 0 ] ) , ( 0, [ 2 ] ) , ( 1, [ 22, 23 ] ) , ( 1, [ 24 ] ) , ( 2, [ 14, 15 ] ) , ( 2, [ 26, 21 ] ) , ( 2, [ 16, 17 ] ) , ( 2, [ 27, 25 ] ) ]))) (.region r60_3 none)
def k60_1 : HCode := .seq (.seq (.region r60_1 none) k60_2) k60_3
@[simp] def k60_0 : HCode := .block 0 (.loop k60_1)
@[simp] def fn60 : HFn := { nargs := 1, results := [], mode := .shared, code := (.seq (.region r60_0 none) k60_0) }
theorem c60 : cFn Try.prog (Hs 60) .shared 60 = some fn60 := by kernel_rfl
/- sterling/bigint.Mul -/
@[simp] def r18_0 : List HOp := [⟨(some 2), true, .box true (.env 0), none⟩,
     ⟨(some 3), true, .box true (.env 1), none⟩,
     ⟨(some 4), true, .alloc [(.sc (.bool false)), (.sc (.slice none 0 0))], none⟩]
@[simp] def r18_1 : List HOp := [⟨(some 13), false, .faddr 1 (.env 2), none⟩,
     ⟨(some 14), false, .ldt 1 false (.loc 13), none⟩,
     ⟨(some 15), false, .callf 48 [(.loc 14)], none⟩,
     ⟨(some 16), false, .faddr 1 (.env 3), none⟩,
     ⟨(some 17), false, .ldt 1 false (.loc 16), none⟩,
     ⟨(some 18), false, .callf 48 [(.loc 17)], none⟩,
     ⟨(some 5), true, .mv (.loc 15), none⟩,
     ⟨(some 6), true, .mv (.loc 18), none⟩]
@[simp] def r18_2 : List HOp := [⟨(some 19), false, .mv (.env 5), none⟩,
     ⟨(some 20), false, .len 1 (.loc 19), none⟩,
     ⟨(some 21), false, .mv (.env 6), none⟩,
     ⟨(some 22), false, .len 1 (.loc 21), none⟩,
     ⟨(some 23), false, .bin .other .add (.loc 20) (.loc 22), none⟩,
     ⟨(some 24), false, .mkslice [(.sc (.int .u32 0))] 4 (.loc 23) (.loc 23), none⟩,
     ⟨(some 7), true, .mv (.loc 24), none⟩]
@[simp] def r18_3 : List HOp := [⟨(some 25), true, .mv (.env 5), none⟩,
      ⟨(some 26), true, .len 1 (.env 25), none⟩,
      ⟨(some 27), true, .mv (.val (.tr (.sc (.int .i64 0)))), none⟩]
@[simp] def r18_4 : List HOp := [⟨(some 28), false, .bin .other .lss (.env 27) (.env 26), none⟩]
@[simp] def r18_5 : List HOp := [⟨(some 29), false, .mv (.env 27), none⟩,
          ⟨(some 30), false, .iaddr 1 (.env 25) (.env 27), none⟩,
          ⟨(some 31), false, .load 1 false (.loc 30), none⟩,
          ⟨(some 8), true, .mv (.loc 29), none⟩,
          ⟨(some 9), true, .mv (.loc 31), none⟩]
@[simp] def r18_6 : List HOp := [⟨(some 10), true, .mv (.val (.tr (.sc (.int .u64 0)))), none⟩]
@[simp] def r18_7 : List HOp := [⟨(some 32), true, .mv (.env 6), none⟩,
           ⟨(some 33), true, .len 1 (.env 32), none⟩,
           ⟨(some 34), true, .mv (.val (.tr (.sc (.int .i64 0)))), none⟩]
@[simp] def r18_8 : List HOp := [⟨(some 35), false, .bin .other .lss (.env 34) (.env 33), none⟩]
@[simp] def r18_9 : List HOp := [⟨(some 36), false, .mv (.env 34), none⟩,
               ⟨(some 37), false, .iaddr 1 (.env 32) (.env 34), none⟩,
               ⟨(some 38), false, .load 1 false (.loc 37), none⟩,
               ⟨(some 11), true, .mv (.loc 36), none⟩,
               ⟨(some 12), true, .mv (.loc 38), none⟩]
@[simp] def r18_10 : List HOp := [⟨(some 39), false, .mv (.env 10), none⟩,
               ⟨(some 40), false, .mv (.env 9), none⟩,
               ⟨(some 41), false, .conv (.toInt .u64) (.loc 40), none⟩,
               ⟨(some 42), false, .mv (.env 12), none⟩,
               ⟨(some 43), false, .conv (.toInt .u64) (.loc 42), none⟩,
               ⟨(some 44), false, .bin .other .mul (.loc 41) (.loc 43), none⟩,
               ⟨(some 45), false, .mv (.env 7), none⟩,
               ⟨(some 46), false, .mv (.env 8), none⟩,
               ⟨(some 47), false, .mv (.env 11), none⟩,
               ⟨(some 48), false, .bin .other .add (.loc 46) (.loc 47), none⟩,
               ⟨(some 49), false, .iaddr 1 (.loc 45) (.loc 48), none⟩,
               ⟨(some 50), false, .load 1 false (.loc 49), none⟩,
               ⟨(some 51), false, .conv (.toInt .u64) (.loc 50), none⟩,
               ⟨(some 52), false, .bin .other .add (.loc 44) (.loc 51), none⟩,
               ⟨(some 53), false, .bin .other .add (.loc 39) (.loc 52), none⟩,
               ⟨(some 10), true, .mv (.loc 53), none⟩]
@[simp] def r18_11 : List HOp := [⟨(some 54), false, .mv (.env 7), none⟩,
               ⟨(some 55), false, .mv (.env 8), none⟩,
               ⟨(some 56), false, .mv (.env 11), none⟩,
               ⟨(some 57), false, .bin .other .add (.loc 55) (.loc 56), none⟩,
               ⟨(some 58), false, .mv (.env 10), none⟩,
               ⟨(some 59), false, .conv (.toInt .u32) (.loc 58), none⟩,
               ⟨(some 60), false, .iaddr 1 (.loc 54) (.loc 57), none⟩,
               ⟨none, false, .store 1 (.loc 60) (.loc 59), none⟩]
@[simp] def r18_12 : List HOp := [⟨(some 61), false, .mv (.env 10), none⟩,
              ⟨(some 62), false, .bin .other .shr (.loc 61) (.val (.tr (.sc (.int .u64 32)))), none⟩,
              ⟨(some 10), true, .mv (.loc 62), none⟩]
@[simp] def r18_13 : List HOp := [⟨(some 63), false, .bin .other .add (.env 34) (.val (.tr (.sc (.int .i64 1)))), none⟩,
            ⟨(some 34), true, .mv (.loc 63), none⟩]
@[simp] def r18_14 : List HOp := [⟨(some 64), false, .mv (.env 7), none⟩,
         ⟨(some 65), false, .mv (.env 8), none⟩,
         ⟨(some 66), false, .mv (.env 6), none⟩,
         ⟨(some 67), false, .len 1 (.loc 66), none⟩,
         ⟨(some 68), false, .bin .other .add (.loc 65) (.loc 67), none⟩,
         ⟨(some 69), false, .mv (.env 10), none⟩,
         ⟨(some 70), false, .conv (.toInt .u32) (.loc 69), none⟩,
         ⟨(some 71), false, .iaddr 1 (.loc 64) (.loc 68), none⟩,
         ⟨none, false, .store 1 (.loc 71) (.loc 70), none⟩]
@[simp] def r18_15 : List HOp := [⟨(some 72), false, .bin .other .add (.env 27) (.val (.tr (.sc (.int .i64 1)))), none⟩,
       ⟨(some 27), true, .mv (.loc 72), none⟩]
@[simp] def r18_16 : List HOp := [⟨(some 73), false, .faddr 0 (.env 2), none⟩,
     ⟨(some 74), false, .load 1 false (.loc 73), none⟩,
     ⟨(some 75), false, .faddr 0 (.env 3), none⟩,
     ⟨(some 76), false, .load 1 false (.loc 75), none⟩,
     ⟨(some 77), false, .bin .bool .neq (.loc 74) (.loc 76), none⟩,
     ⟨(some 78), false, .mv (.env 7), none⟩,
     ⟨(some 79), false, .callf 41 [(.loc 77), (.loc 78)], none⟩,
     ⟨none, false, .store 2 (.env 4) (.loc 79), none⟩]
@[simp] def k18_14 : HCode := .seq (.region r18_11 none) (.region r18_12 none)
@[simp] def k18_13 : HCode := .seq (.region r18_10 none) k18_14
def k18_12 : HCode := .seq (.block 3 (.seq (.region r18_9 none) k18_13)) (.region r18_13 none)
@[simp] def k18_11 : HCode := .seq (.cond (.loc 35) .skip (.exit 2)) k18_12
def k18_10 : HCode := .seq (.region r18_8 none) k18_11
@[simp] def k18_9 : HCode := .block 2 (.loop k18_10)
def k18_15 : HCode := .region r18_14 none
@[simp] def k18_8 : HCode := .seq (.seq (.region r18_7 none) k18_9) k18_15
@[simp] def k18_7 : HCode := .seq (.region r18_6 none) k18_8
def k18_16 : HCode := .region r18_15 none
def k18_6 : HCode := .seq (.block 1 (.seq (.region r18_5 none) k18_7)) k18_16
@[simp] def k18_5 : HCode := .seq (.cond (.loc 28) .skip (.exit 0)) k18_6
def k18_4 : HCode := .seq (.region r18_4 none) k18_5
@[simp] def k18_3 : HCode := .block 0 (.loop k18_4)
def k18_17 : HCode := .seq (.region r18_16 none) .ret
@[simp] def k18_2 : HCode := .seq (.seq (.region r18_3 none) k18_3) k18_17
@[simp] def k18_1 : HCode := .seq (.region r18_2 none) k18_2
@[simp] def k18_0 : HCode := .seq (.region r18_1 (some [ ( 0, [ 2 ] ) , ( 0, [ 13 ] ) , ( 2, [ 14 ] ) , ( 0, [ 3 ] ) , ( 0, [ 16 ] ) , ( 2, [ 17 ] ) , ( 0, [ 15 ] ) , ( 0, [ 18 ] ) ])) k18_1
@[simp] def fn18 : HFn := { nargs := 2, results := [.cell 4 2 true], mode := .iso, code := (.seq (.region r18_0 none) k18_0) }
theorem c18 : cFn Try.prog (Hs 18) .iso 18 = some fn18 := by kernel_rfl
/- sterling/bigint.Add -/
@[simp] def r14_0 : List HOp := [⟨(some 2), true, .box true (.env 0), none⟩,
     ⟨(some 3), true, .box true (.env 1), none⟩,
     ⟨(some 4), true, .alloc [(.sc (.bool false)), (.sc (.slice none 0 0))], none⟩]
@[simp] def r14_1 : List HOp := [⟨(some 6), false, .faddr 0 (.env 2), none⟩,
       ⟨(some 7), false, .load 1 false (.loc 6), none⟩,
       ⟨(some 8), false, .faddr 0 (.env 3), none⟩,
       ⟨(some 9), false, .load 1 false (.loc 8), none⟩,
       ⟨(some 10), false, .bin .bool .eql (.loc 7) (.loc 9), none⟩,
       ⟨(some 5), false, .mv (.loc 10), none⟩]
@[simp] def r14_2 : List HOp := [⟨(some 11), false, .faddr 0 (.env 2), none⟩,
        ⟨(some 12), false, .ldt 1 false (.loc 11), none⟩,
        ⟨(some 13), false, .faddr 1 (.env 2), none⟩,
        ⟨(some 14), false, .ldt 1 false (.loc 13), none⟩,
        ⟨(some 15), false, .faddr 1 (.env 3), none⟩,
        ⟨(some 16), false, .ldt 1 false (.loc 15), none⟩,
        ⟨(some 17), false, .callf 42 [(.loc 14), (.loc 16)], none⟩,
        ⟨(some 18), false, .callf 41 [(.loc 12), (.loc 17)], none⟩,
        ⟨none, false, .store 2 (.env 4) (.loc 18), none⟩]
@[simp] def r14_3 : List HOp := [⟨(some 20), false, .faddr 1 (.env 2), none⟩,
        ⟨(some 21), false, .load 1 false (.loc 20), none⟩,
        ⟨(some 22), false, .faddr 1 (.env 3), none⟩,
        ⟨(some 23), false, .load 1 false (.loc 22), none⟩,
        ⟨(some 24), false, .callf 43 [(.loc 21), (.loc 23)], none⟩,
        ⟨(some 25), false, .bin .other .geq (.loc 24) (.val (.tr (.sc (.int .i64 0)))), none⟩,
        ⟨(some 19), false, .mv (.loc 25), none⟩]
@[simp] def r14_4 : List HOp := [⟨(some 26), false, .faddr 0 (.env 2), none⟩,
         ⟨(some 27), false, .ldt 1 false (.loc 26), none⟩,
         ⟨(some 28), false, .faddr 1 (.env 2), none⟩,
         ⟨(some 29), false, .ldt 1 false (.loc 28), none⟩,
         ⟨(some 30), false, .faddr 1 (.env 3), none⟩,
         ⟨(some 31), false, .ldt 1 false (.loc 30), none⟩,
         ⟨(some 32), false, .callf 44 [(.loc 29), (.loc 31)], none⟩,
         ⟨(some 33), false, .callf 41 [(.loc 27), (.loc 32)], none⟩,
         ⟨none, false, .store 2 (.env 4) (.loc 33), none⟩]
@[simp] def r14_5 : List HOp := [⟨(some 34), false, .faddr 0 (.env 3), none⟩,
     ⟨(some 35), false, .ldt 1 false (.loc 34), none⟩,
     ⟨(some 36), false, .faddr 1 (.env 3), none⟩,
     ⟨(some 37), false, .ldt 1 false (.loc 36), none⟩,
     ⟨(some 38), false, .faddr 1 (.env 2), none⟩,
     ⟨(some 39), false, .ldt 1 false (.loc 38), none⟩,
     ⟨(some 40), false, .callf 44 [(.loc 37), (.loc 39)], none⟩,
     ⟨(some 41), false, .callf 41 [(.loc 35), (.loc 40)], none⟩,
     ⟨none, false, .store 2 (.env 4) (.loc 41), none⟩]
@[simp] def k14_2 : HCode := .seq (.region r14_2 (some [ ( 0, [ 2 ] ) , ( 0, [ 11 ] ) , ( 0, [ 2 ] ) , ( 0, [ 13 ] ) , ( 0, [ 3 ] ) , ( 0, [ 15 ] ) , ( 2, [ 14, 16 ] ) , ( 2, [ 12, 17 ] ) , ( 2, [ 4, 18 ] ) ])) .ret
@[simp] def k14_5 : HCode := .seq (.region r14_4 (some [ ( 0, [ 2 ] ) , ( 0, [ 26 ] ) , ( 0, [ 2 ] ) , ( 0, [ 28 ] ) , ( 0, [ 3 ] ) , ( 0, [ 30 ] ) , ( 2, [ 29, 31 ] ) , ( 2, [ 27, 32 ] ) , ( 2, [ 4, 33 ] ) ])) .ret
@[simp] def k14_4 : HCode := .cond (.loc 19) k14_5 .skip
@[simp] def k14_3 : HCode := .seq (.region r14_3 none) k14_4
@[simp] def k14_1 : HCode := .cond (.loc 5) k14_2 k14_3
def k14_6 : HCode := .seq (.region r14_5 (some [ ( 0, [ 3 ] ) , ( 0, [ 34 ] ) , ( 0, [ 3 ] ) , ( 0, [ 36 ] ) , ( 0, [ 2 ] ) , ( 0, [ 38 ] ) , ( 2, [ 37, 39 ] ) , ( 2, [ 35, 40 ] ) , ( 2, [ 4, 41 ] ) ])) .ret
@[simp] def k14_0 : HCode := .seq (.block 0 (.seq (.region r14_1 none) k14_1)) k14_6
@[simp] def fn14 : HFn := { nargs := 2, results := [.cell 4 2 true], mode := .iso, code := (.seq (.region r14_0 none) k14_0) }
theorem c14 : cFn Try.prog (Hs 14) .iso 14 = some fn14 := by kernel_rfl
/- sterling/bigint.plus -/
@[simp] def r42_0 : List HOp := [⟨(some 4), true, .mv (.val (.tr (.sc (.slice none 0 0)))), none⟩]
@[simp] def r42_1 : List HOp := [⟨(some 9), false, .mv (.env 0), none⟩,
      ⟨(some 10), false, .len 1 (.loc 9), none⟩,
      ⟨(some 11), false, .mv (.env 1), none⟩,
      ⟨(some 12), false, .len 1 (.loc 11), none⟩,
      ⟨(some 13), false, .bin .other .lss (.loc 10) (.loc 12), none⟩]
@[simp] def r42_2 : List HOp := [⟨(some 14), false, .mv (.env 1), none⟩,
      ⟨(some 15), false, .mv (.env 0), none⟩,
      ⟨(some 0), true, .mv (.loc 14), none⟩,
      ⟨(some 1), true, .mv (.loc 15), none⟩]
@[simp] def r42_3 : List HOp := [⟨(some 16), false, .mv (.env 0), none⟩,
     ⟨(some 17), false, .len 1 (.loc 16), none⟩,
     ⟨(some 18), false, .bin .other .add (.loc 17) (.val (.tr (.sc (.int .i64 1)))), none⟩,
     ⟨(some 19), false, .mkslice [(.sc (.int .u32 0))] 4 (.loc 18) (.loc 18), none⟩,
     ⟨(some 5), true, .mv (.loc 19), none⟩]
@[simp] def r42_4 : List HOp := [⟨(some 6), true, .mv (.val (.tr (.sc (.int .u64 0)))), none⟩]
@[simp] def r42_5 : List HOp := [⟨(some 20), true, .mv (.env 0), none⟩,
      ⟨(some 21), true, .len 1 (.env 20), none⟩,
      ⟨(some 22), true, .mv (.val (.tr (.sc (.int .i64 0)))), none⟩]
@[simp] def r42_6 : List HOp := [⟨(some 23), false, .bin .other .lss (.env 22) (.env 21), none⟩]
@[simp] def r42_7 : List HOp := [⟨(some 24), false, .mv (.env 22), none⟩,
          ⟨(some 25), false, .iaddr 1 (.env 20) (.env 22), none⟩,
          ⟨(some 26), false, .load 1 false (.loc 25), none⟩,
          ⟨(some 7), true, .mv (.loc 24), none⟩,
          ⟨(some 8), true, .mv (.loc 26), none⟩]
@[simp] def r42_8 : List HOp := [⟨(some 27), false, .mv (.env 6), none⟩,
          ⟨(some 28), false, .mv (.env 8), none⟩,
          ⟨(some 29), false, .conv (.toInt .u64) (.loc 28), none⟩,
          ⟨(some 30), false, .bin .other .add (.loc 27) (.loc 29), none⟩,
          ⟨(some 6), true, .mv (.loc 30), none⟩]
@[simp] def r42_9 : List HOp := [⟨(some 31), false, .mv (.env 7), none⟩,
           ⟨(some 32), false, .mv (.env 1), none⟩,
           ⟨(some 33), false, .len 1 (.loc 32), none⟩,
           ⟨(some 34), false, .bin .other .lss (.loc 31) (.loc 33), none⟩]
@[simp] def r42_10 : List HOp := [⟨(some 35), false, .mv (.env 6), none⟩,
           ⟨(some 36), false, .mv (.env 1), none⟩,
           ⟨(some 37), false, .mv (.env 7), none⟩,
           ⟨(some 38), false, .iaddr 1 (.loc 36) (.loc 37), none⟩,
           ⟨(some 39), false, .load 1 false (.loc 38), none⟩,
           ⟨(some 40), false, .conv (.toInt .u64) (.loc 39), none⟩,
           ⟨(some 41), false, .bin .other .add (.loc 35) (.loc 40), none⟩,
           ⟨(some 6), true, .mv (.loc 41), none⟩]
@[simp] def r42_11 : List HOp := [⟨(some 42), false, .mv (.env 5), none⟩,
          ⟨(some 43), false, .mv (.env 7), none⟩,
          ⟨(some 44), false, .mv (.env 6), none⟩,
          ⟨(some 45), false, .conv (.toInt .u32) (.loc 44), none⟩,
          ⟨(some 46), false, .iaddr 1 (.loc 42) (.loc 43), none⟩,
          ⟨none, false, .store 1 (.loc 46) (.loc 45), none⟩]
@[simp] def r42_12 : List HOp := [⟨(some 47), false, .mv (.env 6), none⟩,
         ⟨(some 48), false, .bin .other .shr (.loc 47) (.val (.tr (.sc (.int .u64 32)))), none⟩,
         ⟨(some 6), true, .mv (.loc 48), none⟩]
@[simp] def r42_13 : List HOp := [⟨(some 49), false, .bin .other .add (.env 22) (.val (.tr (.sc (.int .i64 1)))), none⟩,
       ⟨(some 22), true, .mv (.loc 49), none⟩]
@[simp] def r42_14 : List HOp := [⟨(some 50), false, .mv (.env 5), none⟩,
     ⟨(some 51), false, .mv (.env 0), none⟩,
     ⟨(some 52), false, .len 1 (.loc 51), none⟩,
     ⟨(some 53), false, .mv (.env 6), none⟩,
     ⟨(some 54), false, .conv (.toInt .u32) (.loc 53), none⟩,
     ⟨(some 55), false, .iaddr 1 (.loc 50) (.loc 52), none⟩,
     ⟨none, false, .store 1 (.loc 55) (.loc 54), none⟩]
@[simp] def r42_15 : List HOp := [⟨(some 56), false, .mv (.env 5), none⟩,
     ⟨(some 4), true, .mv (.loc 56), none⟩]
@[simp] def k42_1 : HCode := .cond (.loc 13) (.region r42_2 none) .skip
@[simp] def k42_11 : HCode := .cond (.loc 34) (.region r42_10 none) .skip
def k42_12 : HCode := .seq (.region r42_11 none) (.region r42_12 none)
@[simp] def k42_10 : HCode := .seq (.seq (.region r42_9 none) k42_11) k42_12
@[simp] def k42_9 : HCode := .seq (.region r42_8 none) k42_10
def k42_13 : HCode := .region r42_13 none
def k42_8 : HCode := .seq (.block 1 (.seq (.region r42_7 none) k42_9)) k42_13
@[simp] def k42_7 : HCode := .seq (.cond (.loc 23) .skip (.exit 0)) k42_8
def k42_6 : HCode := .seq (.region r42_6 none) k42_7
@[simp] def k42_5 : HCode := .block 0 (.loop k42_6)
@[simp] def k42_15 : HCode := .seq (.region r42_15 none) .ret
def k42_14 : HCode := .seq (.region r42_14 none) k42_15
@[simp] def k42_4 : HCode := .seq (.seq (.region r42_5 none) k42_5) k42_14
@[simp] def k42_3 : HCode := .seq (.region r42_4 none) k42_4
def k42_2 : HCode := .seq (.region r42_3 none) k42_3
@[simp] def k42_0 : HCode := .seq (.seq (.region r42_1 none) k42_1) k42_2
@[simp] def fn42 : HFn := { nargs := 2, results := [.tmp 4], mode := .iso, code := (.seq (.region r42_0 none) k42_0) }
theorem c42 : cFn Try.prog (Hs 42) .iso 42 = some fn42 := by kernel_rfl
/- sterling/bigint.minus -/
@[simp] def r44_0 : List HOp := [⟨(some 4), true, .mv (.val (.tr (.sc (.slice none 0 0)))), none⟩]
@[simp] def r44_1 : List HOp := [⟨(some 9), false, .mv (.env 0), none⟩,
     ⟨(some 10), false, .callf 48 [(.loc 9)], none⟩,
     ⟨(some 11), false, .mv (.env 1), none⟩,
     ⟨(some 12), false, .callf 48 [(.loc 11)], none⟩,
     ⟨(some 0), true, .mv (.loc 10), none⟩,
     ⟨(some 1), true, .mv (.loc 12), none⟩]
@[simp] def r44_2 : List HOp := [⟨(some 13), false, .mv (.env 0), none⟩,
     ⟨(some 14), false, .len 1 (.loc 13), none⟩,
     ⟨(some 15), false, .mkslice [(.sc (.int .u32 0))] 4 (.loc 14) (.loc 14), none⟩,
     ⟨(some 5), true, .mv (.loc 15), none⟩]
@[simp] def r44_3 : List HOp := [⟨(some 6), true, .mv (.val (.tr (.sc (.int .i64 0)))), none⟩]
@[simp] def r44_4 : List HOp := [⟨(some 16), true, .mv (.env 0), none⟩,
      ⟨(some 17), true, .len 1 (.env 16), none⟩,
      ⟨(some 18), true, .mv (.val (.tr (.sc (.int .i64 0)))), none⟩]
@[simp] def r44_5 : List HOp := [⟨(some 19), false, .bin .other .lss (.env 18) (.env 17), none⟩]
@[simp] def r44_6 : List HOp := [⟨(some 20), false, .mv (.env 18), none⟩,
          ⟨(some 21), false, .iaddr 1 (.env 16) (.env 18), none⟩,
          ⟨(some 22), false, .load 1 false (.loc 21), none⟩,
          ⟨(some 7), true, .mv (.loc 20), none⟩,
          ⟨(some 8), true, .mv (.loc 22), none⟩]
@[simp] def r44_7 : List HOp := [⟨(some 23), false, .mv (.env 6), none⟩,
          ⟨(some 24), false, .mv (.env 8), none⟩,
          ⟨(some 25), false, .conv (.toInt .i64) (.loc 24), none⟩,
          ⟨(some 26), false, .bin .other .add (.loc 23) (.loc 25), none⟩,
          ⟨(some 6), true, .mv (.loc 26), none⟩]
@[simp] def r44_8 : List HOp := [⟨(some 27), false, .mv (.env 7), none⟩,
           ⟨(some 28), false, .mv (.env 1), none⟩,
           ⟨(some 29), false, .len 1 (.loc 28), none⟩,
           ⟨(some 30), false, .bin .other .lss (.loc 27) (.loc 29), none⟩]
@[simp] def r44_9 : List HOp := [⟨(some 31), false, .mv (.env 6), none⟩,
           ⟨(some 32), false, .mv (.env 1), none⟩,
           ⟨(some 33), false, .mv (.env 7), none⟩,
           ⟨(some 34), false, .iaddr 1 (.loc 32) (.loc 33), none⟩,
           ⟨(some 35), false, .load 1 false (.loc 34), none⟩,
           ⟨(some 36), false, .conv (.toInt .i64) (.loc 35), none⟩,
           ⟨(some 37), false, .bin .other .sub (.loc 31) (.loc 36), none⟩,
           ⟨(some 6), true, .mv (.loc 37), none⟩]
@[simp] def r44_10 : List HOp := [⟨(some 38), false, .mv (.env 5), none⟩,
          ⟨(some 39), false, .mv (.env 7), none⟩,
          ⟨(some 40), false, .mv (.env 6), none⟩,
          ⟨(some 41), false, .conv (.toInt .u32) (.loc 40), none⟩,
          ⟨(some 42), false, .iaddr 1 (.loc 38) (.loc 39), none⟩,
          ⟨none, false, .store 1 (.loc 42) (.loc 41), none⟩]
@[simp] def r44_11 : List HOp := [⟨(some 43), false, .mv (.env 6), none⟩,
         ⟨(some 44), false, .bin .other .shr (.loc 43) (.val (.tr (.sc (.int .u64 32)))), none⟩,
         ⟨(some 6), true, .mv (.loc 44), none⟩]
@[simp] def r44_12 : List HOp := [⟨(some 45), false, .bin .other .add (.env 18) (.val (.tr (.sc (.int .i64 1)))), none⟩,
       ⟨(some 18), true, .mv (.loc 45), none⟩]
@[simp] def r44_13 : List HOp := [⟨(some 46), false, .mv (.env 5), none⟩,
     ⟨(some 4), true, .mv (.loc 46), none⟩]
@[simp] def k44_10 : HCode := .cond (.loc 30) (.region r44_9 none) .skip
def k44_11 : HCode := .seq (.region r44_10 none) (.region r44_11 none)
@[simp] def k44_9 : HCode := .seq (.seq (.region r44_8 none) k44_10) k44_11
@[simp] def k44_8 : HCode := .seq (.region r44_7 none) k44_9
def k44_12 : HCode := .region r44_12 none
def k44_7 : HCode := .seq (.block 1 (.seq (.region r44_6 none) k44_8)) k44_12
@[simp] def k44_6 : HCode := .seq (.cond (.loc 19) .skip (.exit 0)) k44_7
def k44_5 : HCode := .seq (.region r44_5 none) k44_6
@[simp] def k44_4 : HCode := .block 0 (.loop k44_5)
def k44_13 : HCode := .seq (.region r44_13 none) .ret
@[simp] def k44_3 : HCode := .seq (.seq (.region r44_4 none) k44_4) k44_13
@[simp] def k44_2 : HCode := .seq (.region r44_3 none) k44_3
@[simp] def k44_1 : HCode := .seq (.region r44_2 none) k44_2
@[simp] def k44_0 : HCode := .seq (.region r44_1 none) k44_1
@[simp] def fn44 : HFn := { nargs := 2, results := [.tmp 4], mode := .iso, code := (.seq (.region r44_0 none) k44_0) }
theorem c44 : cFn Try.prog (Hs 44) .iso 44 = some fn44 := by kernel_rfl
/- sterling/bigint.Cmp -/
@[simp] def r22_0 : List HOp := [⟨(some 2), true, .box true (.env 0), none⟩,
     ⟨(some 3), true, .box true (.env 1), none⟩,
     ⟨(some 4), true, .mv (.val (.tr (.sc (.int .i64 0)))), none⟩]
@[simp] def r22_1 : List HOp := [⟨(some 6), false, .load 2 true (.env 2), none⟩,
       ⟨(some 7), false, .callf 50 [(.loc 6)], none⟩,
       ⟨(some 8), false, .mv (.loc 7), none⟩,
       ⟨(some 9), false, .load 2 true (.env 3), some ((.loc 8), true)⟩,
       ⟨(some 10), false, .callf 50 [(.loc 9)], some ((.loc 8), true)⟩,
       ⟨(some 11), false, .pick (.loc 8) (.loc 10) (.val (.tr (.sc (.bool false)))), none⟩,
       ⟨(some 5), false, .mv (.loc 11), none⟩]
@[simp] def r22_2 : List HOp := [⟨(some 12), false, .faddr 1 (.env 3), none⟩,
        ⟨(some 13), false, .load 1 false (.loc 12), none⟩,
        ⟨(some 14), false, .faddr 1 (.env 2), none⟩,
        ⟨(some 15), false, .load 1 false (.loc 14), none⟩,
        ⟨(some 16), false, .callf 43 [(.loc 13), (.loc 15)], none⟩,
        ⟨(some 4), true, .mv (.loc 16), none⟩]
@[simp] def r22_3 : List HOp := [⟨(some 18), false, .load 2 true (.env 2), none⟩,
        ⟨(some 19), false, .callf 50 [(.loc 18)], none⟩,
        ⟨(some 17), false, .mv (.loc 19), none⟩]
@[simp] def r22_4 : List HOp := [⟨(some 4), true, .mv (.val (.tr (.sc (.int .i64 (-1))))), none⟩]
@[simp] def r22_5 : List HOp := [⟨(some 21), false, .load 2 true (.env 3), none⟩,
         ⟨(some 22), false, .callf 50 [(.loc 21)], none⟩,
         ⟨(some 20), false, .mv (.loc 22), none⟩]
@[simp] def r22_6 : List HOp := [⟨(some 4), true, .mv (.val (.tr (.sc (.int .i64 1)))), none⟩]
@[simp] def r22_7 : List HOp := [⟨(some 23), false, .faddr 1 (.env 2), none⟩,
     ⟨(some 24), false, .load 1 false (.loc 23), none⟩,
     ⟨(some 25), false, .faddr 1 (.env 3), none⟩,
     ⟨(some 26), false, .load 1 false (.loc 25), none⟩,
     ⟨(some 27), false, .callf 43 [(.loc 24), (.loc 26)], none⟩,
     ⟨(some 4), true, .mv (.loc 27), none⟩]
@[simp] def k22_2 : HCode := .seq (.region r22_2 none) .ret
@[simp] def k22_5 : HCode := .seq (.region r22_4 none) .ret
@[simp] def k22_8 : HCode := .seq (.region r22_6 none) .ret
@[simp] def k22_7 : HCode := .cond (.loc 20) k22_8 .skip
@[simp] def k22_6 : HCode := .seq (.region r22_5 none) k22_7
@[simp] def k22_4 : HCode := .cond (.loc 17) k22_5 k22_6
@[simp] def k22_3 : HCode := .seq (.region r22_3 none) k22_4
@[simp] def k22_1 : HCode := .cond (.loc 5) k22_2 k22_3
def k22_9 : HCode := .seq (.region r22_7 none) .ret
@[simp] def k22_0 : HCode := .seq (.block 0 (.seq (.region r22_1 none) k22_1)) k22_9
@[simp] def fn22 : HFn := { nargs := 2, results := [.tmp 4], mode := .iso, code := (.seq (.region r22_0 none) k22_0) }
theorem c22 : cFn Try.prog (Hs 22) .iso 22 = some fn22 := by kernel_rfl
/- sterling/bigint.Bits -/
@[simp] def r24_0 : List HOp := [⟨(some 1), true, .box true (.env 0), none⟩,
     ⟨(some 2), true, .mv (.val (.tr (.sc (.int .i64 0)))), none⟩]
@[simp] def r24_1 : List HOp := [⟨(some 4), false, .faddr 1 (.env 1), none⟩,
     ⟨(some 5), false, .load 1 false (.loc 4), none⟩,
     ⟨(some 6), false, .callf 48 [(.loc 5)], none⟩,
     ⟨(some 3), true, .mv (.loc 6), none⟩]
@[simp] def r24_2 : List HOp := [⟨(some 7), false, .mv (.env 3), none⟩,
      ⟨(some 8), false, .len 1 (.loc 7), none⟩,
      ⟨(some 9), false, .bin .other .eql (.loc 8) (.val (.tr (.sc (.int .i64 0)))), none⟩]
@[simp] def r24_3 : List HOp := [⟨(some 2), true, .mv (.val (.tr (.sc (.int .i64 0)))), none⟩]
@[simp] def r24_4 : List HOp := [⟨(some 10), false, .mv (.env 3), none⟩,
     ⟨(some 11), false, .len 1 (.loc 10), none⟩,
     ⟨(some 12), false, .bin .other .sub (.loc 11) (.val (.tr (.sc (.int .i64 1)))), none⟩,
     ⟨(some 13), false, .bin .other .mul (.val (.tr (.sc (.int .i64 32)))) (.loc 12), none⟩,
     ⟨(some 14), false, .mv (.env 3), none⟩,
     ⟨(some 15), false, .mv (.env 3), none⟩,
     ⟨(some 16), false, .len 1 (.loc 15), none⟩,
     ⟨(some 17), false, .bin .other .sub (.loc 16) (.val (.tr (.sc (.int .i64 1)))), none⟩,
     ⟨(some 18), false, .iaddr 1 (.loc 14) (.loc 17), none⟩,
     ⟨(some 19), false, .load 1 false (.loc 18), none⟩,
     ⟨(some 20), false, .callf 51 [(.loc 19)], none⟩,
     ⟨(some 21), false, .bin .other .add (.loc 13) (.loc 20), none⟩,
     ⟨(some 2), true, .mv (.loc 21), none⟩]
@[simp] def k24_3 : HCode := .seq (.region r24_3 none) .ret
@[simp] def k24_2 : HCode := .cond (.loc 9) k24_3 .skip
def k24_4 : HCode := .seq (.region r24_4 none) .ret
@[simp] def k24_1 : HCode := .seq (.seq (.region r24_2 none) k24_2) k24_4
@[simp] def k24_0 : HCode := .seq (.region r24_1 none) k24_1
@[simp] def fn24 : HFn := { nargs := 1, results := [.tmp 2], mode := .iso, code := (.seq (.region r24_0 none) k24_0) }
theorem c24 : cFn Try.prog (Hs 24) .iso 24 = some fn24 := by kernel_rfl
/- sterling/bigint.Sub -/
@[simp] def r16_0 : List HOp := [⟨(some 2), true, .box true (.env 0), none⟩,
     ⟨(some 3), true, .box true (.env 1), none⟩,
     ⟨(some 4), true, .alloc [(.sc (.bool false)), (.sc (.slice none 0 0))], none⟩]
@[simp] def r16_1 : List HOp := [⟨(some 5), false, .load 2 true (.env 2), none⟩,
     ⟨(some 6), false, .faddr 0 (.env 3), none⟩,
     ⟨(some 7), false, .load 1 false (.loc 6), none⟩,
     ⟨(some 8), false, .un .not (.loc 7), none⟩,
     ⟨(some 9), false, .faddr 1 (.env 3), none⟩,
     ⟨(some 10), false, .load 1 false (.loc 9), none⟩,
     ⟨(some 11), false, .build [(.sc (.bool false)), (.sc (.slice none 0 0))] [(0, 1, (.loc 8)), (1, 1, (.loc 10))], none⟩,
     ⟨(some 12), false, .callf 14 [(.loc 5), (.loc 11)], none⟩,
     ⟨none, false, .store 2 (.env 4) (.loc 12), none⟩]
@[simp] def k16_0 : HCode := .seq (.region r16_1 none) .ret
@[simp] def fn16 : HFn := { nargs := 2, results := [.cell 4 2 true], mode := .iso, code := (.seq (.region r16_0 none) k16_0) }
theorem c16 : cFn Try.prog (Hs 16) .iso 16 = some fn16 := by kernel_rfl
/- sterling/bigint.Neg -/
@[simp] def r20_0 : List HOp := [⟨(some 1), true, .box true (.env 0), none⟩,
     ⟨(some 2), true, .alloc [(.sc (.bool false)), (.sc (.slice none 0 0))], none⟩]
@[simp] def r20_1 : List HOp := [⟨(some 3), false, .faddr 0 (.env 1), none⟩,
     ⟨(some 4), false, .load 1 false (.loc 3), none⟩,
     ⟨(some 5), false, .un .not (.loc 4), none⟩,
     ⟨(some 6), false, .faddr 1 (.env 1), none⟩,
     ⟨(some 7), false, .load 1 false (.loc 6), none⟩,
     ⟨(some 8), false, .callf 41 [(.loc 5), (.loc 7)], none⟩,
     ⟨none, false, .store 2 (.env 2) (.loc 8), none⟩]
@[simp] def k20_0 : HCode := .seq (.region r20_1 none) .ret
@[simp] def fn20 : HFn := { nargs := 1, results := [.cell 2 2 true], mode := .iso, code := (.seq (.region r20_0 none) k20_0) }
theorem c20 : cFn Try.prog (Hs 20) .iso 20 = some fn20 := by kernel_rfl
/- sterling/sterlinglaw1.Cut -/
@[simp] def r11_0 : List HOp := [⟨(some 2), true, .box false (.env 0), none⟩,
     ⟨(some 4), true, .alloc [(.sc (.bool false)), (.sc (.slice none 0 0))], none⟩]
@[simp] def r11_1 : List HOp := [⟨(some 5), false, .faddr 1 (.env 2), none⟩,
      ⟨(some 6), false, .load 1 false (.loc 5), none⟩,
      ⟨(some 7), false, .len 1 (.loc 6), none⟩,
      ⟨(some 8), false, .mv (.env 1), none⟩,
      ⟨(some 9), false, .bin .other .gtr (.loc 7) (.loc 8), none⟩]
@[simp] def r11_2 : List HOp := [⟨(some 10), false, .faddr 1 (.env 2), none⟩,
      ⟨(some 11), false, .load 1 false (.loc 10), none⟩,
      ⟨(some 12), false, .mv (.env 1), none⟩,
      ⟨(some 13), false, .slice 1 (.loc 11) none (some (.loc 12)) none, none⟩,
      ⟨(some 14), false, .faddr 1 (.env 2), none⟩,
      ⟨none, false, .store 1 (.loc 14) (.loc 13), none⟩]
@[simp] def r11_3 : List HOp := [⟨(some 15), false, .load 2 true (.env 2), none⟩,
     ⟨none, false, .store 2 (.env 4) (.loc 15), none⟩]
@[simp] def k11_1 : HCode := .cond (.loc 9) (.region r11_2 none) .skip
def k11_2 : HCode := .seq (.region r11_3 none) .ret
@[simp] def k11_0 : HCode := .seq (.seq (.region r11_1 none) k11_1) k11_2
@[simp] def fn11 : HFn := { nargs := 2, results := [.cell 4 2 true], mode := .iso, code := (.seq (.region r11_0 none) k11_0) }
theorem c11 : cFn Try.prog (Hs 11) .iso 11 = some fn11 := by kernel_rfl
/- sterling/sterlingref1.From -/
@[simp] def r12_0 : List HOp := [⟨(some 1), true, .box true (.env 0), none⟩,
     ⟨(some 2), true, .alloc [(.sc (.bool false)), (.sc (.slice none 0 0))], none⟩]
@[simp] def r12_1 : List HOp := [⟨(some 3), true, .mv (.val (.tr (.sc (.slice none 0 0)))), none⟩]
@[simp] def r12_2 : List HOp := [⟨(some 4), true, .mv (.val (.tr (.sc (.int .i64 0)))), none⟩]
@[simp] def r12_3 : List HOp := [⟨(some 5), false, .mv (.env 4), none⟩,
         ⟨(some 6), false, .faddr 1 (.env 1), none⟩,
         ⟨(some 7), false, .load 1 false (.loc 6), none⟩,
         ⟨(some 8), false, .len 1 (.loc 7), none⟩,
         ⟨(some 9), false, .bin .other .lss (.loc 5) (.loc 8), none⟩]
@[simp] def r12_4 : List HOp := [⟨(some 12), false, .mv (.env 3), none⟩,
         ⟨(some 13), false, .faddr 1 (.env 1), none⟩,
         ⟨(some 14), false, .ldt 1 false (.loc 13), none⟩,
         ⟨(some 15), false, .mv (.env 4), none⟩,
         ⟨(some 16), false, .iaddr 1 (.loc 14) (.loc 15), none⟩,
         ⟨(some 17), false, .load 1 false (.loc 16), none⟩,
         ⟨(some 18), false, .conv (.toInt .i64) (.loc 17), none⟩,
         ⟨(some 19), false, .bin .other .rem (.loc 18) (.val (.tr (.sc (.int .i64 65536)))), none⟩,
         ⟨(some 20), false, .faddr 1 (.env 1), none⟩,
         ⟨(some 21), false, .ldt 1 false (.loc 20), none⟩,
         ⟨(some 22), false, .mv (.env 4), none⟩,
         ⟨(some 23), false, .iaddr 1 (.loc 21) (.loc 22), none⟩,
         ⟨(some 24), false, .load 1 false (.loc 23), none⟩,
         ⟨(some 25), false, .conv (.toInt .i64) (.loc 24), none⟩,
         ⟨(some 26), false, .bin .other .quo (.loc 25) (.val (.tr (.sc (.int .i64 65536)))), none⟩,
         ⟨(some 27), false, .bslice false 2 1 [(.sc (.int .i64 0))] [(0, 1, (.loc 19)), (1, 1, (.loc 26))], none⟩,
         ⟨(some 28), false, .append 1 8 (.loc 12) (.loc 27), none⟩,
         ⟨(some 3), true, .mv (.loc 28), none⟩]
@[simp] def r12_5 : List HOp := [⟨(some 10), false, .mv (.env 4), none⟩,
       ⟨(some 11), false, .bin .other .add (.loc 10) (.val (.tr (.sc (.int .i64 1)))), none⟩,
       ⟨(some 4), true, .mv (.loc 11), none⟩]
@[simp] def r12_6 : List HOp := [⟨(some 29), false, .mv (.env 3), none⟩,
     ⟨(some 30), false, .callf 39 [(.loc 29)], none⟩,
     ⟨(some 3), true, .mv (.loc 30), none⟩]
@[simp] def r12_7 : List HOp := [⟨(some 31), false, .faddr 0 (.env 1), none⟩,
     ⟨(some 32), false, .load 1 false (.loc 31), none⟩,
     ⟨(some 33), false, .mv (.loc 32), none⟩,
     ⟨(some 34), false, .mv (.env 3), some ((.loc 33), true)⟩,
     ⟨(some 35), false, .len 1 (.loc 34), some ((.loc 33), true)⟩,
     ⟨(some 36), false, .bin .other .gtr (.loc 35) (.val (.tr (.sc (.int .i64 0)))), some ((.loc 33), true)⟩,
     ⟨(some 37), false, .pick (.loc 33) (.loc 36) (.val (.tr (.sc (.bool false)))), none⟩,
     ⟨(some 38), false, .mv (.env 3), none⟩,
     ⟨(some 39), false, .build [(.sc (.bool false)), (.sc (.slice none 0 0))] [(0, 1, (.loc 37)), (1, 1, (.loc 38))], none⟩,
     ⟨none, false, .store 2 (.env 2) (.loc 39), none⟩]
@[simp] def k12_4 : HCode := .cond (.loc 9) .skip (.exit 0)
def k12_5 : HCode := .seq (.block 1 (.region r12_4 (some [ ( 0, [ 3 ] ) , ( 0, [ 1 ] ) , ( 0, [ 13 ] ) , ( 0, [ 4 ] ) , ( 1, [ 14, 15 ] ) , ( 1, [ 16 ] ) , ( 0, [ 17 ] ) , ( 0, [ 18 ] ) , ( 0, [ 1 ] ) , ( 0, [ 20 ] ) , ( 0, [ 4 ] ) , ( 1, [ 21, 22 ] ) , ( 1, [ 23 ] ) , ( 0, [ 24 ] ) , ( 0, [ 25 ] ) , ( 2, [ 19, 26 ] ) , ( 2, [ 12, 27 ] ) , ( 0, [ 28 ] ) ]))) (.region r12_5 none)
def k12_3 : HCode := .seq (.seq (.region r12_3 none) k12_4) k12_5
@[simp] def k12_2 : HCode := .block 0 (.loop k12_3)
@[simp] def k12_7 : HCode := .seq (.region r12_7 none) .ret
def k12_6 : HCode := .seq (.region r12_6 none) k12_7
@[simp] def k12_1 : HCode := .seq (.seq (.region r12_2 none) k12_2) k12_6
@[simp] def k12_0 : HCode := .seq (.region r12_1 none) k12_1
@[simp] def fn12 : HFn := { nargs := 1, results := [.cell 2 2 true], mode := .iso, code := (.seq (.region r12_0 none) k12_0) }
theorem c12 : cFn Try.prog (Hs 12) .iso 12 = some fn12 := by kernel_rfl
/- sterling/sterlingref1.trim -/
@[simp] def r39_0 : List HOp := [⟨(some 2), true, .mv (.val (.tr (.sc (.slice none 0 0)))), none⟩]
@[simp] def r39_1 : List HOp := [⟨(some 4), false, .mv (.env 0), none⟩,
     ⟨(some 5), false, .len 1 (.loc 4), none⟩,
     ⟨(some 3), true, .mv (.loc 5), none⟩]
@[simp] def r39_2 : List HOp := [⟨(some 6), false, .mv (.env 3), none⟩,
         ⟨(some 7), false, .bin .other .gtr (.loc 6) (.val (.tr (.sc (.int .i64 0)))), none⟩,
         ⟨(some 8), false, .mv (.loc 7), none⟩,
         ⟨(some 9), false, .mv (.env 0), some ((.loc 8), true)⟩,
         ⟨(some 10), false, .mv (.env 3), some ((.loc 8), true)⟩,
         ⟨(some 11), false, .bin .other .sub (.loc 10) (.val (.tr (.sc (.int .i64 1)))), some ((.loc 8), true)⟩,
         ⟨(some 12), false, .iaddr 1 (.loc 9) (.loc 11), some ((.loc 8), true)⟩,
         ⟨(some 13), false, .load 1 false (.loc 12), some ((.loc 8), true)⟩,
         ⟨(some 14), false, .bin .other .eql (.loc 13) (.val (.tr (.sc (.int .i64 0)))), some ((.loc 8), true)⟩,
         ⟨(some 15), false, .pick (.loc 8) (.loc 14) (.val (.tr (.sc (.bool false)))), none⟩]
@[simp] def r39_3 : List HOp := [⟨(some 16), false, .mv (.env 3), none⟩,
        ⟨(some 17), false, .bin .other .sub (.loc 16) (.val (.tr (.sc (.int .i64 1)))), none⟩,
        ⟨(some 3), true, .mv (.loc 17), none⟩]
@[simp] def r39_4 : List HOp := [⟨(some 18), false, .mv (.env 0), none⟩,
     ⟨(some 19), false, .mv (.env 3), none⟩,
     ⟨(some 20), false, .mv (.env 3), none⟩,
     ⟨(some 21), false, .slice 1 (.loc 18) none (some (.loc 19)) (some (.loc 20)), none⟩,
     ⟨(some 2), true, .mv (.loc 21), none⟩]
@[simp] def k39_3 : HCode := .cond (.loc 15) .skip (.exit 0)
def k39_4 : HCode := .block 1 (.region r39_3 none)
def k39_2 : HCode := .seq (.seq (.region r39_2 none) k39_3) k39_4
def k39_5 : HCode := .seq (.region r39_4 none) .ret
@[simp] def k39_1 : HCode := .seq (.block 0 (.loop k39_2)) k39_5
@[simp] def k39_0 : HCode := .seq (.region r39_1 none) k39_1
@[simp] def fn39 : HFn := { nargs := 1, results := [.tmp 2], mode := .iso, code := (.seq (.region r39_0 none) k39_0) }
theorem c39 : cFn Try.prog (Hs 39) .iso 39 = some fn39 := by kernel_rfl
/- sterling/sterlingref1.Add -/
@[simp] def r15_0 : List HOp := [⟨(some 2), true, .box true (.env 0), none⟩,
     ⟨(some 3), true, .box true (.env 1), none⟩,
     ⟨(some 4), true, .alloc [(.sc (.bool false)), (.sc (.slice none 0 0))], none⟩]
@[simp] def r15_1 : List HOp := [⟨(some 5), false, .faddr 0 (.env 2), none⟩,
      ⟨(some 6), false, .load 1 false (.loc 5), none⟩,
      ⟨(some 7), false, .faddr 0 (.env 3), none⟩,
      ⟨(some 8), false, .load 1 false (.loc 7), none⟩,
      ⟨(some 9), false, .bin .bool .eql (.loc 6) (.loc 8), none⟩]
@[simp] def r15_2 : List HOp := [⟨(some 10), false, .faddr 0 (.env 2), none⟩,
       ⟨(some 11), false, .ldt 1 false (.loc 10), none⟩,
       ⟨(some 12), false, .faddr 1 (.env 2), none⟩,
       ⟨(some 13), false, .ldt 1 false (.loc 12), none⟩,
       ⟨(some 14), false, .faddr 1 (.env 3), none⟩,
       ⟨(some 15), false, .ldt 1 false (.loc 14), none⟩,
       ⟨(some 16), false, .callf 45 [(.loc 13), (.loc 15)], none⟩,
       ⟨(some 17), false, .build [(.sc (.bool false)), (.sc (.slice none 0 0))] [(0, 1, (.loc 11)), (1, 1, (.loc 16))], none⟩,
       ⟨none, false, .store 2 (.env 4) (.loc 17), none⟩]
@[simp] def r15_3 : List HOp := [⟨(some 18), false, .faddr 1 (.env 2), none⟩,
      ⟨(some 19), false, .load 1 false (.loc 18), none⟩,
      ⟨(some 20), false, .faddr 1 (.env 3), none⟩,
      ⟨(some 21), false, .load 1 false (.loc 20), none⟩,
      ⟨(some 22), true, .callf 46 [(.loc 19), (.loc 21)], none⟩]
@[simp] def r15_4 : List HOp := [⟨(some 24), false, .bin .other .eql (.env 22) (.val (.tr (.sc (.int .i64 0)))), none⟩,
       ⟨(some 23), false, .mv (.loc 24), none⟩]
@[simp] def r15_5 : List HOp := [⟨(some 25), false, .build [(.sc (.bool false)), (.sc (.slice none 0 0))] [], none⟩,
        ⟨none, false, .store 2 (.env 4) (.loc 25), none⟩]
@[simp] def r15_6 : List HOp := [⟨(some 27), false, .bin .other .eql (.env 22) (.val (.tr (.sc (.int .i64 1)))), none⟩,
        ⟨(some 26), false, .mv (.loc 27), none⟩]
@[simp] def r15_7 : List HOp := [⟨(some 28), false, .faddr 0 (.env 2), none⟩,
         ⟨(some 29), false, .ldt 1 false (.loc 28), none⟩,
         ⟨(some 30), false, .faddr 1 (.env 2), none⟩,
         ⟨(some 31), false, .ldt 1 false (.loc 30), none⟩,
         ⟨(some 32), false, .faddr 1 (.env 3), none⟩,
         ⟨(some 33), false, .ldt 1 false (.loc 32), none⟩,
         ⟨(some 34), false, .callf 47 [(.loc 31), (.loc 33)], none⟩,
         ⟨(some 35), false, .build [(.sc (.bool false)), (.sc (.slice none 0 0))] [(0, 1, (.loc 29)), (1, 1, (.loc 34))], none⟩,
         ⟨none, false, .store 2 (.env 4) (.loc 35), none⟩]
@[simp] def r15_8 : List HOp := [⟨(some 36), false, .faddr 0 (.env 3), none⟩,
     ⟨(some 37), false, .ldt 1 false (.loc 36), none⟩,
     ⟨(some 38), false, .faddr 1 (.env 3), none⟩,
     ⟨(some 39), false, .ldt 1 false (.loc 38), none⟩,
     ⟨(some 40), false, .faddr 1 (.env 2), none⟩,
     ⟨(some 41), false, .ldt 1 false (.loc 40), none⟩,
     ⟨(some 42), false, .callf 47 [(.loc 39), (.loc 41)], none⟩,
     ⟨(some 43), false, .build [(.sc (.bool false)), (.sc (.slice none 0 0))] [(0, 1, (.loc 37)), (1, 1, (.loc 42))], none⟩,
     ⟨none, false, .store 2 (.env 4) (.loc 43), none⟩]
@[simp] def k15_2 : HCode := .seq (.region r15_2 (some [ ( 0, [ 2 ] ) , ( 0, [ 10 ] ) , ( 0, [ 2 ] ) , ( 0, [ 12 ] ) , ( 0, [ 3 ] ) , ( 0, [ 14 ] ) , ( 2, [ 13, 15 ] ) , ( 0, [ 11, 16 ] ) , ( 2, [ 4, 17 ] ) ])) .ret
@[simp] def k15_1 : HCode := .cond (.loc 9) k15_2 .skip
@[simp] def k15_6 : HCode := .seq (.region r15_5 none) .ret
@[simp] def k15_9 : HCode := .seq (.region r15_7 (some [ ( 0, [ 2 ] ) , ( 0, [ 28 ] ) , ( 0, [ 2 ] ) , ( 0, [ 30 ] ) , ( 0, [ 3 ] ) , ( 0, [ 32 ] ) , ( 2, [ 31, 33 ] ) , ( 0, [ 29, 34 ] ) , ( 2, [ 4, 35 ] ) ])) .ret
@[simp] def k15_8 : HCode := .cond (.loc 26) k15_9 .skip
@[simp] def k15_7 : HCode := .seq (.region r15_6 none) k15_8
@[simp] def k15_5 : HCode := .cond (.loc 23) k15_6 k15_7
@[simp] def k15_4 : HCode := .block 0 (.seq (.region r15_4 none) k15_5)
def k15_10 : HCode := .seq (.region r15_8 (some [ ( 0, [ 3 ] ) , ( 0, [ 36 ] ) , ( 0, [ 3 ] ) , ( 0, [ 38 ] ) , ( 0, [ 2 ] ) , ( 0, [ 40 ] ) , ( 2, [ 39, 41 ] ) , ( 0, [ 37, 42 ] ) , ( 2, [ 4, 43 ] ) ])) .ret
def k15_3 : HCode := .seq (.seq (.region r15_3 none) k15_4) k15_10
@[simp] def k15_0 : HCode := .seq (.seq (.region r15_1 none) k15_1) k15_3
@[simp] def fn15 : HFn := { nargs := 2, results := [.cell 4 2 true], mode := .iso, code := (.seq (.region r15_0 none) k15_0) }
theorem c15 : cFn Try.prog (Hs 15) .iso 15 = some fn15 := by kernel_rfl
/- sterling/sterlingref1.add -/
@[simp] def r45_0 : List HOp := [⟨(some 4), true, .mv (.val (.tr (.sc (.slice none 0 0)))), none⟩]
@[simp] def r45_1 : List HOp := [⟨(some 9), false, .mv (.env 0), none⟩,
     ⟨(some 10), false, .len 1 (.loc 9), none⟩,
     ⟨(some 5), true, .mv (.loc 10), none⟩]
@[simp] def r45_2 : List HOp := [⟨(some 11), false, .mv (.env 1), none⟩,
      ⟨(some 12), false, .len 1 (.loc 11), none⟩,
      ⟨(some 13), false, .mv (.env 5), none⟩,
      ⟨(some 14), false, .bin .other .gtr (.loc 12) (.loc 13), none⟩]
@[simp] def r45_3 : List HOp := [⟨(some 15), false, .mv (.env 1), none⟩,
      ⟨(some 16), false, .len 1 (.loc 15), none⟩,
      ⟨(some 5), true, .mv (.loc 16), none⟩]
@[simp] def r45_4 : List HOp := [⟨(some 17), false, .mv (.env 5), none⟩,
     ⟨(some 18), false, .bin .other .add (.loc 17) (.val (.tr (.sc (.int .i64 1)))), none⟩,
     ⟨(some 19), false, .mkslice [(.sc (.int .i64 0))] 8 (.loc 18) (.loc 18), none⟩,
     ⟨(some 6), true, .mv (.loc 19), none⟩]
@[simp] def r45_5 : List HOp := [⟨(some 7), true, .mv (.val (.tr (.sc (.int .i64 0)))), none⟩]
@[simp] def r45_6 : List HOp := [⟨(some 8), true, .mv (.val (.tr (.sc (.int .i64 0)))), none⟩]
@[simp] def r45_7 : List HOp := [⟨(some 20), false, .mv (.env 8), none⟩,
         ⟨(some 21), false, .mv (.env 5), none⟩,
         ⟨(some 22), false, .bin .other .leq (.loc 20) (.loc 21), none⟩]
@[simp] def r45_8 : List HOp := [⟨(some 25), false, .mv (.env 8), none⟩,
           ⟨(some 26), false, .mv (.env 0), none⟩,
           ⟨(some 27), false, .len 1 (.loc 26), none⟩,
           ⟨(some 28), false, .bin .other .lss (.loc 25) (.loc 27), none⟩]
@[simp] def r45_9 : List HOp := [⟨(some 29), false, .mv (.env 7), none⟩,
           ⟨(some 30), false, .mv (.env 0), none⟩,
           ⟨(some 31), false, .mv (.env 8), none⟩,
           ⟨(some 32), false, .iaddr 1 (.loc 30) (.loc 31), none⟩,
           ⟨(some 33), false, .load 1 false (.loc 32), none⟩,
           ⟨(some 34), false, .bin .other .add (.loc 29) (.loc 33), none⟩,
           ⟨(some 7), true, .mv (.loc 34), none⟩]
@[simp] def r45_10 : List HOp := [⟨(some 35), false, .mv (.env 8), none⟩,
           ⟨(some 36), false, .mv (.env 1), none⟩,
           ⟨(some 37), false, .len 1 (.loc 36), none⟩,
           ⟨(some 38), false, .bin .other .lss (.loc 35) (.loc 37), none⟩]
@[simp] def r45_11 : List HOp := [⟨(some 39), false, .mv (.env 7), none⟩,
           ⟨(some 40), false, .mv (.env 1), none⟩,
           ⟨(some 41), false, .mv (.env 8), none⟩,
           ⟨(some 42), false, .iaddr 1 (.loc 40) (.loc 41), none⟩,
           ⟨(some 43), false, .load 1 false (.loc 42), none⟩,
           ⟨(some 44), false, .bin .other .add (.loc 39) (.loc 43), none⟩,
           ⟨(some 7), true, .mv (.loc 44), none⟩]
@[simp] def r45_12 : List HOp := [⟨(some 45), false, .mv (.env 6), none⟩,
          ⟨(some 46), false, .mv (.env 8), none⟩,
          ⟨(some 47), false, .mv (.env 7), none⟩,
          ⟨(some 48), false, .bin .other .rem (.loc 47) (.val (.tr (.sc (.int .i64 65536)))), none⟩,
          ⟨(some 49), false, .iaddr 1 (.loc 45) (.loc 46), none⟩,
          ⟨none, false, .store 1 (.loc 49) (.loc 48), none⟩]
@[simp] def r45_13 : List HOp := [⟨(some 50), false, .mv (.env 7), none⟩,
         ⟨(some 51), false, .bin .other .quo (.loc 50) (.val (.tr (.sc (.int .i64 65536)))), none⟩,
         ⟨(some 7), true, .mv (.loc 51), none⟩]
@[simp] def r45_14 : List HOp := [⟨(some 23), false, .mv (.env 8), none⟩,
       ⟨(some 24), false, .bin .other .add (.loc 23) (.val (.tr (.sc (.int .i64 1)))), none⟩,
       ⟨(some 8), true, .mv (.loc 24), none⟩]
@[simp] def r45_15 : List HOp := [⟨(some 52), false, .mv (.env 6), none⟩,
     ⟨(some 53), false, .callf 39 [(.loc 52)], none⟩,
     ⟨(some 4), true, .mv (.loc 53), none⟩]
@[simp] def k45_2 : HCode := .cond (.loc 14) (.region r45_3 none) .skip
@[simp] def k45_8 : HCode := .cond (.loc 22) .skip (.exit 0)
@[simp] def k45_10 : HCode := .cond (.loc 28) (.region r45_9 none) .skip
@[simp] def k45_12 : HCode := .cond (.loc 38) (.region r45_11 none) .skip
def k45_13 : HCode := .seq (.region r45_12 none) (.region r45_13 none)
def k45_11 : HCode := .seq (.seq (.region r45_10 none) k45_12) k45_13
def k45_14 : HCode := .region r45_14 none
def k45_9 : HCode := .seq (.block 1 (.seq (.seq (.region r45_8 none) k45_10) k45_11)) k45_14
def k45_7 : HCode := .seq (.seq (.region r45_7 none) k45_8) k45_9
@[simp] def k45_6 : HCode := .block 0 (.loop k45_7)
def k45_15 : HCode := .seq (.region r45_15 none) .ret
@[simp] def k45_5 : HCode := .seq (.seq (.region r45_6 none) k45_6) k45_15
@[simp] def k45_4 : HCode := .seq (.region r45_5 none) k45_5
def k45_3 : HCode := .seq (.region r45_4 none) k45_4
@[simp] def k45_1 : HCode := .seq (.seq (.region r45_2 none) k45_2) k45_3
@[simp] def k45_0 : HCode := .seq (.region r45_1 none) k45_1
@[simp] def fn45 : HFn := { nargs := 2, results := [.tmp 4], mode := .iso, code := (.seq (.region r45_0 none) k45_0) }
theorem c45 : cFn Try.prog (Hs 45) .iso 45 = some fn45 := by kernel_rfl
/- sterling/sterlingref1.cmp -/
@[simp] def r46_0 : List HOp := [⟨(some 4), true, .mv (.val (.tr (.sc (.int .i64 0)))), none⟩]
@[simp] def r46_1 : List HOp := [⟨(some 6), false, .mv (.env 0), none⟩,
      ⟨(some 7), false, .len 1 (.loc 6), none⟩,
      ⟨(some 8), false, .mv (.env 1), none⟩,
      ⟨(some 9), false, .len 1 (.loc 8), none⟩,
      ⟨(some 10), false, .bin .other .neq (.loc 7) (.loc 9), none⟩]
@[simp] def r46_2 : List HOp := [⟨(some 11), false, .mv (.env 0), none⟩,
        ⟨(some 12), false, .len 1 (.loc 11), none⟩,
        ⟨(some 13), false, .mv (.env 1), none⟩,
        ⟨(some 14), false, .len 1 (.loc 13), none⟩,
        ⟨(some 15), false, .bin .other .lss (.loc 12) (.loc 14), none⟩]
@[simp] def r46_3 : List HOp := [⟨(some 4), true, .mv (.val (.tr (.sc (.int .i64 (-1))))), none⟩]
@[simp] def r46_4 : List HOp := [⟨(some 4), true, .mv (.val (.tr (.sc (.int .i64 1)))), none⟩]
@[simp] def r46_5 : List HOp := [⟨(some 16), false, .mv (.env 0), none⟩,
      ⟨(some 17), false, .len 1 (.loc 16), none⟩,
      ⟨(some 18), false, .bin .other .sub (.loc 17) (.val (.tr (.sc (.int .i64 1)))), none⟩,
      ⟨(some 5), true, .mv (.loc 18), none⟩]
@[simp] def r46_6 : List HOp := [⟨(some 19), false, .mv (.env 5), none⟩,
         ⟨(some 20), false, .bin .other .geq (.loc 19) (.val (.tr (.sc (.int .i64 0)))), none⟩]
@[simp] def r46_7 : List HOp := [⟨(some 23), false, .mv (.env 0), none⟩,
           ⟨(some 24), false, .mv (.env 5), none⟩,
           ⟨(some 25), false, .iaddr 1 (.loc 23) (.loc 24), none⟩,
           ⟨(some 26), false, .load 1 false (.loc 25), none⟩,
           ⟨(some 27), false, .mv (.env 1), none⟩,
           ⟨(some 28), false, .mv (.env 5), none⟩,
           ⟨(some 29), false, .iaddr 1 (.loc 27) (.loc 28), none⟩,
           ⟨(some 30), false, .load 1 false (.loc 29), none⟩,
           ⟨(some 31), false, .bin .other .lss (.loc 26) (.loc 30), none⟩]
@[simp] def r46_8 : List HOp := [⟨(some 4), true, .mv (.val (.tr (.sc (.int .i64 (-1))))), none⟩]
@[simp] def r46_9 : List HOp := [⟨(some 32), false, .mv (.env 0), none⟩,
          ⟨(some 33), false, .mv (.env 5), none⟩,
          ⟨(some 34), false, .iaddr 1 (.loc 32) (.loc 33), none⟩,
          ⟨(some 35), false, .load 1 false (.loc 34), none⟩,
          ⟨(some 36), false, .mv (.env 1), none⟩,
          ⟨(some 37), false, .mv (.env 5), none⟩,
          ⟨(some 38), false, .iaddr 1 (.loc 36) (.loc 37), none⟩,
          ⟨(some 39), false, .load 1 false (.loc 38), none⟩,
          ⟨(some 40), false, .bin .other .gtr (.loc 35) (.loc 39), none⟩]
@[simp] def r46_10 : List HOp := [⟨(some 4), true, .mv (.val (.tr (.sc (.int .i64 1)))), none⟩]
@[simp] def r46_11 : List HOp := [⟨(some 21), false, .mv (.env 5), none⟩,
       ⟨(some 22), false, .bin .other .sub (.loc 21) (.val (.tr (.sc (.int .i64 1)))), none⟩,
       ⟨(some 5), true, .mv (.loc 22), none⟩]
@[simp] def r46_12 : List HOp := [⟨(some 4), true, .mv (.val (.tr (.sc (.int .i64 0)))), none⟩]
@[simp] def k46_4 : HCode := .seq (.region r46_3 none) .ret
@[simp] def k46_3 : HCode := .cond (.loc 15) k46_4 .skip
def k46_5 : HCode := .seq (.region r46_4 none) .ret
@[simp] def k46_2 : HCode := .seq (.seq (.region r46_2 none) k46_3) k46_5
@[simp] def k46_1 : HCode := .cond (.loc 10) k46_2 .skip
@[simp] def k46_9 : HCode := .cond (.loc 20) .skip (.exit 0)
@[simp] def k46_12 : HCode := .seq (.region r46_8 none) .ret
@[simp] def k46_11 : HCode := .cond (.loc 31) k46_12 .skip
@[simp] def k46_15 : HCode := .seq (.region r46_10 none) .ret
@[simp] def k46_14 : HCode := .cond (.loc 40) k46_15 .skip
def k46_13 : HCode := .seq (.region r46_9 (some [ ( 0, [ 0 ] ) , ( 0, [ 5 ] ) , ( 1, [ 32, 33 ] ) , ( 1, [ 34 ] ) , ( 0, [ 1 ] ) , ( 0, [ 5 ] ) , ( 1, [ 36, 37 ] ) , ( 1, [ 38 ] ) , ( 0, [ 35, 39 ] ) ])) k46_14
def k46_16 : HCode := .region r46_11 none
def k46_10 : HCode := .seq (.block 1 (.seq (.seq (.region r46_7 (some [ ( 0, [ 0 ] ) , ( 0, [ 5 ] ) , ( 1, [ 23, 24 ] ) , ( 1, [ 25 ] ) , ( 0, [ 1 ] ) , ( 0, [ 5 ] ) , ( 1, [ 27, 28 ] ) , ( 1, [ 29 ] ) , ( 0, [ 26, 30 ] ) ])) k46_11) k46_13)) k46_16
def k46_8 : HCode := .seq (.seq (.region r46_6 none) k46_9) k46_10
@[simp] def k46_7 : HCode := .block 0 (.loop k46_8)
def k46_17 : HCode := .seq (.region r46_12 none) .ret
def k46_6 : HCode := .seq (.seq (.region r46_5 none) k46_7) k46_17
@[simp] def k46_0 : HCode := .seq (.seq (.region r46_1 none) k46_1) k46_6
@[simp] def fn46 : HFn := { nargs := 2, results := [.tmp 4], mode := .iso, code := (.seq (.region r46_0 none) k46_0) }
theorem c46 : cFn Try.prog (Hs 46) .iso 46 = some fn46 := by kernel_rfl
/- sterling/sterlingref1.sub -/
@[simp] def r47_0 : List HOp := [⟨(some 4), true, .mv (.val (.tr (.sc (.slice none 0 0)))), none⟩]
@[simp] def r47_1 : List HOp := [⟨(some 9), false, .mv (.env 0), none⟩,
     ⟨(some 10), false, .len 1 (.loc 9), none⟩,
     ⟨(some 11), false, .mkslice [(.sc (.int .i64 0))] 8 (.loc 10) (.loc 10), none⟩,
     ⟨(some 5), true, .mv (.loc 11), none⟩]
@[simp] def r47_2 : List HOp := [⟨(some 6), true, .mv (.val (.tr (.sc (.int .i64 0)))), none⟩]
@[simp] def r47_3 : List HOp := [⟨(some 7), true, .mv (.val (.tr (.sc (.int .i64 0)))), none⟩]
@[simp] def r47_4 : List HOp := [⟨(some 12), false, .mv (.env 7), none⟩,
         ⟨(some 13), false, .mv (.env 0), none⟩,
         ⟨(some 14), false, .len 1 (.loc 13), none⟩,
         ⟨(some 15), false, .bin .other .lss (.loc 12) (.loc 14), none⟩]
@[simp] def r47_5 : List HOp := [⟨(some 18), false, .mv (.env 0), none⟩,
          ⟨(some 19), false, .mv (.env 7), none⟩,
          ⟨(some 20), false, .iaddr 1 (.loc 18) (.loc 19), none⟩,
          ⟨(some 21), false, .load 1 false (.loc 20), none⟩,
          ⟨(some 22), false, .mv (.env 6), none⟩,
          ⟨(some 23), false, .bin .other .sub (.loc 21) (.loc 22), none⟩,
          ⟨(some 8), true, .mv (.loc 23), none⟩]
@[simp] def r47_6 : List HOp := [⟨(some 24), false, .mv (.env 7), none⟩,
           ⟨(some 25), false, .mv (.env 1), none⟩,
           ⟨(some 26), false, .len 1 (.loc 25), none⟩,
           ⟨(some 27), false, .bin .other .lss (.loc 24) (.loc 26), none⟩]
@[simp] def r47_7 : List HOp := [⟨(some 28), false, .mv (.env 8), none⟩,
           ⟨(some 29), false, .mv (.env 1), none⟩,
           ⟨(some 30), false, .mv (.env 7), none⟩,
           ⟨(some 31), false, .iaddr 1 (.loc 29) (.loc 30), none⟩,
           ⟨(some 32), false, .load 1 false (.loc 31), none⟩,
           ⟨(some 33), false, .bin .other .sub (.loc 28) (.loc 32), none⟩,
           ⟨(some 8), true, .mv (.loc 33), none⟩]
@[simp] def r47_8 : List HOp := [⟨(some 6), true, .mv (.val (.tr (.sc (.int .i64 0)))), none⟩]
@[simp] def r47_9 : List HOp := [⟨(some 34), false, .mv (.env 8), none⟩,
           ⟨(some 35), false, .bin .other .lss (.loc 34) (.val (.tr (.sc (.int .i64 0)))), none⟩]
@[simp] def r47_10 : List HOp := [⟨(some 36), false, .mv (.env 8), none⟩,
            ⟨(some 37), false, .bin .other .add (.loc 36) (.val (.tr (.sc (.int .i64 65536)))), none⟩,
            ⟨(some 8), true, .mv (.loc 37), none⟩]
@[simp] def r47_11 : List HOp := [⟨(some 6), true, .mv (.val (.tr (.sc (.int .i64 1)))), none⟩]
@[simp] def r47_12 : List HOp := [⟨(some 38), false, .mv (.env 5), none⟩,
         ⟨(some 39), false, .mv (.env 7), none⟩,
         ⟨(some 40), false, .mv (.env 8), none⟩,
         ⟨(some 41), false, .iaddr 1 (.loc 38) (.loc 39), none⟩,
         ⟨none, false, .store 1 (.loc 41) (.loc 40), none⟩]
@[simp] def r47_13 : List HOp := [⟨(some 16), false, .mv (.env 7), none⟩,
       ⟨(some 17), false, .bin .other .add (.loc 16) (.val (.tr (.sc (.int .i64 1)))), none⟩,
       ⟨(some 7), true, .mv (.loc 17), none⟩]
@[simp] def r47_14 : List HOp := [⟨(some 42), false, .mv (.env 5), none⟩,
     ⟨(some 43), false, .callf 39 [(.loc 42)], none⟩,
     ⟨(some 4), true, .mv (.loc 43), none⟩]
@[simp] def k47_5 : HCode := .cond (.loc 15) .skip (.exit 0)
@[simp] def k47_8 : HCode := .cond (.loc 27) (.region r47_7 none) .skip
@[simp] def k47_12 : HCode := .seq (.region r47_10 none) (.region r47_11 none)
@[simp] def k47_11 : HCode := .cond (.loc 35) k47_12 .skip
def k47_13 : HCode := .region r47_12 none
@[simp] def k47_10 : HCode := .seq (.seq (.region r47_9 none) k47_11) k47_13
def k47_9 : HCode := .seq (.region r47_8 none) k47_10
@[simp] def k47_7 : HCode := .seq (.seq (.region r47_6 none) k47_8) k47_9
def k47_14 : HCode := .region r47_13 none
def k47_6 : HCode := .seq (.block 1 (.seq (.region r47_5 none) k47_7)) k47_14
def k47_4 : HCode := .seq (.seq (.region r47_4 none) k47_5) k47_6
@[simp] def k47_3 : HCode := .block 0 (.loop k47_4)
def k47_15 : HCode := .seq (.region r47_14 none) .ret
@[simp] def k47_2 : HCode := .seq (.seq (.region r47_3 none) k47_3) k47_15
@[simp] def k47_1 : HCode := .seq (.region r47_2 none) k47_2
@[simp] def k47_0 : HCode := .seq (.region r47_1 none) k47_1
@[simp] def fn47 : HFn := { nargs := 2, results := [.tmp 4], mode := .iso, code := (.seq (.region r47_0 none) k47_0) }
theorem c47 : cFn Try.prog (Hs 47) .iso 47 = some fn47 := by kernel_rfl
/- sterling/sterlingref1.Is -/
@[simp] def r13_0 : List HOp := [⟨(some 2), true, .box true (.env 0), none⟩,
     ⟨(some 3), true, .box true (.env 1), none⟩,
     ⟨(some 4), true, .mv (.val (.tr (.sc (.bool false)))), none⟩]
@[simp] def r13_1 : List HOp := [⟨(some 7), false, .load 2 true (.env 3), none⟩,
     ⟨(some 8), false, .callf 40 [(.loc 7)], none⟩,
     ⟨(some 5), true, .alloc [(.sc (.bool false)), (.sc (.slice none 0 0))], none⟩,
     ⟨none, false, .store 2 (.env 5) (.loc 8), none⟩]
@[simp] def r13_2 : List HOp := [⟨(some 9), false, .faddr 0 (.env 2), none⟩,
      ⟨(some 10), false, .load 1 false (.loc 9), none⟩,
      ⟨(some 11), false, .faddr 0 (.env 5), none⟩,
      ⟨(some 12), false, .load 1 false (.loc 11), none⟩,
      ⟨(some 13), false, .bin .bool .neq (.loc 10) (.loc 12), none⟩,
      ⟨(some 14), false, .mv (.loc 13), none⟩,
      ⟨(some 15), false, .faddr 1 (.env 2), some ((.loc 14), false)⟩,
      ⟨(some 16), false, .load 1 false (.loc 15), some ((.loc 14), false)⟩,
      ⟨(some 17), false, .len 1 (.loc 16), some ((.loc 14), false)⟩,
      ⟨(some 18), false, .faddr 1 (.env 5), some ((.loc 14), false)⟩,
      ⟨(some 19), false, .load 1 false (.loc 18), some ((.loc 14), false)⟩,
      ⟨(some 20), false, .len 1 (.loc 19), some ((.loc 14), false)⟩,
      ⟨(some 21), false, .bin .other .neq (.loc 17) (.loc 20), some ((.loc 14), false)⟩,
      ⟨(some 22), false, .pick (.loc 14) (.val (.tr (.sc (.bool true)))) (.loc 21), none⟩]
@[simp] def r13_3 : List HOp := [⟨(some 4), true, .mv (.val (.tr (.sc (.bool false)))), none⟩]
@[simp] def r13_4 : List HOp := [⟨(some 6), true, .mv (.val (.tr (.sc (.int .i64 0)))), none⟩]
@[simp] def r13_5 : List HOp := [⟨(some 23), false, .mv (.env 6), none⟩,
         ⟨(some 24), false, .faddr 1 (.env 2), none⟩,
         ⟨(some 25), false, .load 1 false (.loc 24), none⟩,
         ⟨(some 26), false, .len 1 (.loc 25), none⟩,
         ⟨(some 27), false, .bin .other .lss (.loc 23) (.loc 26), none⟩]
@[simp] def r13_6 : List HOp := [⟨(some 30), false, .faddr 1 (.env 2), none⟩,
          ⟨(some 31), false, .ldt 1 false (.loc 30), none⟩,
          ⟨(some 32), false, .mv (.env 6), none⟩,
          ⟨(some 33), false, .iaddr 1 (.loc 31) (.loc 32), none⟩,
          ⟨(some 34), false, .load 1 false (.loc 33), none⟩,
          ⟨(some 35), false, .faddr 1 (.env 5), none⟩,
          ⟨(some 36), false, .load 1 false (.loc 35), none⟩,
          ⟨(some 37), false, .mv (.env 6), none⟩,
          ⟨(some 38), false, .iaddr 1 (.loc 36) (.loc 37), none⟩,
          ⟨(some 39), false, .load 1 false (.loc 38), none⟩,
          ⟨(some 40), false, .bin .other .neq (.loc 34) (.loc 39), none⟩]
@[simp] def r13_7 : List HOp := [⟨(some 4), true, .mv (.val (.tr (.sc (.bool false)))), none⟩]
@[simp] def r13_8 : List HOp := [⟨(some 28), false, .mv (.env 6), none⟩,
       ⟨(some 29), false, .bin .other .add (.loc 28) (.val (.tr (.sc (.int .i64 1)))), none⟩,
       ⟨(some 6), true, .mv (.loc 29), none⟩]
@[simp] def r13_9 : List HOp := [⟨(some 4), true, .mv (.val (.tr (.sc (.bool true)))), none⟩]
@[simp] def k13_3 : HCode := .seq (.region r13_3 none) .ret
@[simp] def k13_2 : HCode := .cond (.loc 22) k13_3 .skip
@[simp] def k13_7 : HCode := .cond (.loc 27) .skip (.exit 0)
@[simp] def k13_10 : HCode := .seq (.region r13_7 none) .ret
@[simp] def k13_9 : HCode := .cond (.loc 40) k13_10 .skip
def k13_11 : HCode := .region r13_8 none
def k13_8 : HCode := .seq (.block 1 (.seq (.region r13_6 (some [ ( 0, [ 2 ] ) , ( 0, [ 30 ] ) , ( 0, [ 6 ] ) , ( 1, [ 31, 32 ] ) , ( 1, [ 33 ] ) , ( 0, [ 5 ] ) , ( 1, [ 35 ] ) , ( 0, [ 6 ] ) , ( 1, [ 36, 37 ] ) , ( 1, [ 38 ] ) , ( 0, [ 34, 39 ] ) ])) k13_9)) k13_11
def k13_6 : HCode := .seq (.seq (.region r13_5 none) k13_7) k13_8
@[simp] def k13_5 : HCode := .block 0 (.loop k13_6)
def k13_12 : HCode := .seq (.region r13_9 none) .ret
def k13_4 : HCode := .seq (.seq (.region r13_4 none) k13_5) k13_12
@[simp] def k13_1 : HCode := .seq (.seq (.region r13_2 none) k13_2) k13_4
@[simp] def k13_0 : HCode := .seq (.region r13_1 none) k13_1
@[simp] def fn13 : HFn := { nargs := 2, results := [.tmp 4], mode := .iso, code := (.seq (.region r13_0 none) k13_0) }
theorem c13 : cFn Try.prog (Hs 13) .iso 13 = some fn13 := by kernel_rfl
/- sterling/sterlingref1.To -/
@[simp] def r40_0 : List HOp := [⟨(some 1), true, .box true (.env 0), none⟩,
     ⟨(some 2), true, .alloc [(.sc (.bool false)), (.sc (.slice none 0 0))], none⟩]
@[simp] def r40_1 : List HOp := [⟨(some 3), true, .mv (.val (.tr (.sc (.slice none 0 0)))), none⟩]
@[simp] def r40_2 : List HOp := [⟨(some 4), true, .mv (.val (.tr (.sc (.int .i64 0)))), none⟩]
@[simp] def r40_3 : List HOp := [⟨(some 6), false, .mv (.env 4), none⟩,
         ⟨(some 7), false, .faddr 1 (.env 1), none⟩,
         ⟨(some 8), false, .load 1 false (.loc 7), none⟩,
         ⟨(some 9), false, .len 1 (.loc 8), none⟩,
         ⟨(some 10), false, .bin .other .lss (.loc 6) (.loc 9), none⟩]
@[simp] def r40_4 : List HOp := [⟨(some 13), false, .faddr 1 (.env 1), none⟩,
          ⟨(some 14), false, .load 1 false (.loc 13), none⟩,
          ⟨(some 15), false, .mv (.env 4), none⟩,
          ⟨(some 16), false, .iaddr 1 (.loc 14) (.loc 15), none⟩,
          ⟨(some 17), false, .load 1 false (.loc 16), none⟩,
          ⟨(some 5), true, .mv (.loc 17), none⟩]
@[simp] def r40_5 : List HOp := [⟨(some 18), false, .mv (.env 4), none⟩,
           ⟨(some 19), false, .bin .other .add (.loc 18) (.val (.tr (.sc (.int .i64 1)))), none⟩,
           ⟨(some 20), false, .faddr 1 (.env 1), none⟩,
           ⟨(some 21), false, .load 1 false (.loc 20), none⟩,
           ⟨(some 22), false, .len 1 (.loc 21), none⟩,
           ⟨(some 23), false, .bin .other .lss (.loc 19) (.loc 22), none⟩]
@[simp] def r40_6 : List HOp := [⟨(some 24), false, .mv (.env 5), none⟩,
           ⟨(some 25), false, .faddr 1 (.env 1), none⟩,
           ⟨(some 26), false, .load 1 false (.loc 25), none⟩,
           ⟨(some 27), false, .mv (.env 4), none⟩,
           ⟨(some 28), false, .bin .other .add (.loc 27) (.val (.tr (.sc (.int .i64 1)))), none⟩,
           ⟨(some 29), false, .iaddr 1 (.loc 26) (.loc 28), none⟩,
           ⟨(some 30), false, .load 1 false (.loc 29), none⟩,
           ⟨(some 31), false, .bin .other .mul (.val (.tr (.sc (.int .i64 65536)))) (.loc 30), none⟩,
           ⟨(some 32), false, .bin .other .add (.loc 24) (.loc 31), none⟩,
           ⟨(some 5), true, .mv (.loc 32), none⟩]
@[simp] def r40_7 : List HOp := [⟨(some 33), false, .mv (.env 3), none⟩,
         ⟨(some 34), false, .mv (.env 5), none⟩,
         ⟨(some 35), false, .conv (.toInt .u32) (.loc 34), none⟩,
         ⟨(some 36), false, .bslice false 1 1 [(.sc (.int .u32 0))] [(0, 1, (.loc 35))], none⟩,
         ⟨(some 37), false, .append 1 4 (.loc 33) (.loc 36), none⟩,
         ⟨(some 3), true, .mv (.loc 37), none⟩]
@[simp] def r40_8 : List HOp := [⟨(some 11), false, .mv (.env 4), none⟩,
       ⟨(some 12), false, .bin .other .add (.loc 11) (.val (.tr (.sc (.int .i64 2)))), none⟩,
       ⟨(some 4), true, .mv (.loc 12), none⟩]
@[simp] def r40_9 : List HOp := [⟨(some 38), false, .faddr 0 (.env 1), none⟩,
     ⟨(some 39), false, .load 1 false (.loc 38), none⟩,
     ⟨(some 40), false, .mv (.loc 39), none⟩,
     ⟨(some 41), false, .faddr 1 (.env 1), some ((.loc 40), true)⟩,
     ⟨(some 42), false, .load 1 false (.loc 41), some ((.loc 40), true)⟩,
     ⟨(some 43), false, .len 1 (.loc 42), some ((.loc 40), true)⟩,
     ⟨(some 44), false, .bin .other .gtr (.loc 43) (.val (.tr (.sc (.int .i64 0)))), some ((.loc 40), true)⟩,
     ⟨(some 45), false, .pick (.loc 40) (.loc 44) (.val (.tr (.sc (.bool false)))), none⟩,
     ⟨(some 46), false, .mv (.env 3), none⟩,
     ⟨(some 47), false, .build [(.sc (.bool false)), (.sc (.slice none 0 0))] [(0, 1, (.loc 45)), (1, 1, (.loc 46))], none⟩,
     ⟨none, false, .store 2 (.env 2) (.loc 47), none⟩]
@[simp] def k40_4 : HCode := .cond (.loc 10) .skip (.exit 0)
@[simp] def k40_7 : HCode := .cond (.loc 23) (.region r40_6 none) .skip
def k40_8 : HCode := .region r40_7 none
@[simp] def k40_6 : HCode := .seq (.seq (.region r40_5 none) k40_7) k40_8
def k40_9 : HCode := .region r40_8 none
def k40_5 : HCode := .seq (.block 1 (.seq (.region r40_4 none) k40_6)) k40_9
def k40_3 : HCode := .seq (.seq (.region r40_3 none) k40_4) k40_5
@[simp] def k40_2 : HCode := .block 0 (.loop k40_3)
def k40_10 : HCode := .seq (.region r40_9 none) .ret
@[simp] def k40_1 : HCode := .seq (.seq (.region r40_2 none) k40_2) k40_10
@[simp] def k40_0 : HCode := .seq (.region r40_1 none) k40_1
@[simp] def fn40 : HFn := { nargs := 1, results := [.cell 2 2 true], mode := .iso, code := (.seq (.region r40_0 none) k40_0) }
theorem c40 : cFn Try.prog (Hs 40) .iso 40 = some fn40 := by kernel_rfl
end Go.Proofs.Ytjacddclpcelmaa.AM.Bi
