/- The functions that IntRing reaches, each checked against the translation, part one. -/
import Derived.Test.YtjacddclpcelmaaAm3
import Derived.Test.YtjacddclpcelmaaProg
import Derived.KernelRfl
set_option maxRecDepth 1000000
set_option linter.unusedVariables false
set_option linter.unusedSimpArgs false
namespace Go.Proofs.Ytjacddclpcelmaa.AM.Br
open Go.Proofs
/-- What was chosen for each function. -/
def Hq (f : Nat) : List Nat := if Nat.beq f 6 then [26] else []
def Hb (f : Nat) : List Nat := if Nat.beq f 26 then [2, 3] else if Nat.beq f 28 then [4, 5] else if Nat.beq f 57 then [2] else if Nat.beq f 50 then [1] else if Nat.beq f 33 then [1] else if Nat.beq f 18 then [2, 3] else if Nat.beq f 14 then [2, 3] else if Nat.beq f 22 then [2, 3] else if Nat.beq f 24 then [1] else if Nat.beq f 16 then [2, 3] else if Nat.beq f 20 then [1] else []
def Hl (f : Nat) : List Nat := if Nat.beq f 26 then [12, 15, 48, 50, 55] else if Nat.beq f 28 then [20, 23] else if Nat.beq f 18 then [14, 17] else if Nat.beq f 14 then [12, 14, 16, 27, 29, 31, 35, 37, 39] else []
def Hs (f : Nat) : Hints := { own := fun _ => !memN f [6, 10, 34, 61, 62, 41, 48, 53, 30, 26, 43, 54, 55, 65, 51, 66, 67, 68, 28, 57, 50, 33, 60, 18, 14, 42, 44, 22, 24, 16, 20, 11], qa := fun d => memN d (Hq f), tu := fun _ => true, bt := fun d => memN d (Hb f), ld := fun d => memN d (Hl f) }
/-- Functions by what they answer: how many arguments, which. -/
def Te (f : Nat) : Option (Nat × Nat) :=  none
/- sterling/sterlinglaw1.IntRing -/
@[simp] def r6_0 : List HOp := [⟨(some 4), true, .box false (.env 0), none⟩,
     ⟨(some 5), true, .box false (.env 1), none⟩,
     ⟨(some 6), true, .box false (.env 2), none⟩,
     ⟨(some 8), true, .mv (.val (.tr (.sc (.bool false)))), none⟩]
@[simp] def r6_1 : List HOp := [⟨(some 15), false, .callf 10 [], none⟩,
     ⟨(some 9), true, .mv (.loc 15), none⟩]
@[simp] def r6_2 : List HOp := [⟨(some 16), false, .load 2 true (.env 4), none⟩,
     ⟨(some 17), false, .callf 11 [(.loc 16), (.val (.tr (.sc (.int .i64 10))))], none⟩,
     ⟨(some 18), false, .load 2 true (.env 5), none⟩,
     ⟨(some 19), false, .callf 11 [(.loc 18), (.val (.tr (.sc (.int .i64 10))))], none⟩,
     ⟨(some 20), false, .load 2 true (.env 6), none⟩,
     ⟨(some 21), false, .callf 11 [(.loc 20), (.val (.tr (.sc (.int .i64 10))))], none⟩,
     ⟨none, false, .store 2 (.env 4) (.loc 17), none⟩,
     ⟨none, false, .store 2 (.env 5) (.loc 19), none⟩,
     ⟨none, false, .store 2 (.env 6) (.loc 21), none⟩]
@[simp] def r6_3 : List HOp := [⟨(some 22), false, .faddr 0 (.env 4), none⟩,
     ⟨(some 23), false, .load 1 false (.loc 22), none⟩,
     ⟨(some 24), false, .faddr 1 (.env 4), none⟩,
     ⟨(some 25), false, .load 1 false (.loc 24), none⟩,
     ⟨(some 26), false, .qappend 1 4 (.val (.tr (.sc (.slice none 0 0)))) (.loc 25), none⟩,
     ⟨(some 27), false, .build [(.sc (.bool false)), (.sc (.slice none 0 0))] [(0, 1, (.loc 23)), (1, 1, (.loc 26))], none⟩,
     ⟨(some 10), true, .alloc [(.sc (.bool false)), (.sc (.slice none 0 0))], none⟩,
     ⟨none, false, .store 2 (.env 10) (.loc 27), none⟩]
@[simp] def r6_4 : List HOp := [⟨(some 11), true, .mv (.val (.tr (.sc (.int .i64 0)))), none⟩]
@[simp] def r6_5 : List HOp := [⟨(some 28), false, .mv (.env 11), none⟩,
         ⟨(some 29), false, .mv (.env 3), none⟩,
         ⟨(some 30), false, .bin .other .lss (.loc 28) (.loc 29), none⟩,
         ⟨(some 31), false, .mv (.loc 30), none⟩,
         ⟨(some 32), false, .mv (.env 11), some ((.loc 31), true)⟩,
         ⟨(some 33), false, .bin .other .lss (.loc 32) (.val (.tr (.sc (.int .i64 4)))), some ((.loc 31), true)⟩,
         ⟨(some 34), false, .pick (.loc 31) (.loc 33) (.val (.tr (.sc (.bool false)))), none⟩]
@[simp] def r6_6 : List HOp := [⟨(some 37), false, .faddr 1 (.env 10), none⟩,
         ⟨(some 38), false, .load 1 false (.loc 37), none⟩,
         ⟨(some 39), false, .bslice false 1 1 [(.sc (.int .u32 0))] [(0, 1, (.val (.tr (.sc (.int .u32 0)))))], none⟩,
         ⟨(some 40), false, .append 1 4 (.loc 38) (.loc 39), none⟩,
         ⟨(some 41), false, .faddr 1 (.env 10), none⟩,
         ⟨none, false, .store 1 (.loc 41) (.loc 40), none⟩]
@[simp] def r6_7 : List HOp := [⟨(some 35), false, .mv (.env 11), none⟩,
       ⟨(some 36), false, .bin .other .add (.loc 35) (.val (.tr (.sc (.int .i64 1)))), none⟩,
       ⟨(some 11), true, .mv (.loc 36), none⟩]
@[simp] def r6_8 : List HOp := [⟨(some 42), false, .load 2 true (.env 10), none⟩,
     ⟨(some 43), false, .load 2 true (.env 5), none⟩,
     ⟨(some 44), false, .load 2 true (.env 6), none⟩,
     ⟨(some 45), false, .callf 14 [(.loc 43), (.loc 44)], none⟩,
     ⟨(some 46), false, .callf 18 [(.loc 42), (.loc 45)], none⟩,
     ⟨(some 12), true, .alloc [(.sc (.bool false)), (.sc (.slice none 0 0))], none⟩,
     ⟨none, false, .store 2 (.env 12) (.loc 46), none⟩]
@[simp] def r6_9 : List HOp := [⟨(some 47), false, .load 2 true (.env 4), none⟩,
     ⟨(some 48), false, .load 2 true (.env 5), none⟩,
     ⟨(some 49), false, .callf 18 [(.loc 47), (.loc 48)], none⟩,
     ⟨(some 50), false, .load 2 true (.env 4), none⟩,
     ⟨(some 51), false, .load 2 true (.env 6), none⟩,
     ⟨(some 52), false, .callf 18 [(.loc 50), (.loc 51)], none⟩,
     ⟨(some 53), false, .callf 14 [(.loc 49), (.loc 52)], none⟩,
     ⟨(some 13), true, .alloc [(.sc (.bool false)), (.sc (.slice none 0 0))], none⟩,
     ⟨none, false, .store 2 (.env 13) (.loc 53), none⟩]
@[simp] def r6_10 : List HOp := [⟨(some 54), false, .load 2 true (.env 10), none⟩,
     ⟨(some 55), false, .load 2 true (.env 4), none⟩,
     ⟨(some 56), false, .callf 16 [(.loc 54), (.loc 55)], none⟩,
     ⟨(some 14), true, .alloc [(.sc (.bool false)), (.sc (.slice none 0 0))], none⟩,
     ⟨none, false, .store 2 (.env 14) (.loc 56), none⟩]
@[simp] def r6_11 : List HOp := [⟨(some 57), false, .mv (.env 9), none⟩,
     ⟨(some 58), false, .mv (.loc 57), none⟩,
     ⟨(some 59), false, .load 2 true (.env 12), some ((.loc 58), true)⟩,
     ⟨(some 60), false, .load 2 true (.env 13), some ((.loc 58), true)⟩,
     ⟨(some 61), false, .callf 22 [(.loc 59), (.loc 60)], some ((.loc 58), true)⟩,
     ⟨(some 62), false, .bin .other .eql (.loc 61) (.val (.tr (.sc (.int .i64 0)))), some ((.loc 58), true)⟩,
     ⟨(some 63), false, .pick (.loc 58) (.loc 62) (.val (.tr (.sc (.bool false)))), none⟩,
     ⟨(some 64), false, .mv (.loc 63), none⟩,
     ⟨(some 65), false, .load 2 true (.env 4), some ((.loc 64), true)⟩,
     ⟨(some 66), false, .load 2 true (.env 10), some ((.loc 64), true)⟩,
     ⟨(some 67), false, .callf 22 [(.loc 65), (.loc 66)], some ((.loc 64), true)⟩,
     ⟨(some 68), false, .bin .other .eql (.loc 67) (.val (.tr (.sc (.int .i64 0)))), some ((.loc 64), true)⟩,
     ⟨(some 69), false, .pick (.loc 64) (.loc 68) (.val (.tr (.sc (.bool false)))), none⟩,
     ⟨(some 70), false, .mv (.loc 69), none⟩,
     ⟨(some 71), false, .faddr 1 (.env 14), some ((.loc 70), true)⟩,
     ⟨(some 72), false, .load 1 false (.loc 71), some ((.loc 70), true)⟩,
     ⟨(some 73), false, .len 1 (.loc 72), some ((.loc 70), true)⟩,
     ⟨(some 74), false, .bin .other .eql (.loc 73) (.val (.tr (.sc (.int .i64 0)))), some ((.loc 70), true)⟩,
     ⟨(some 75), false, .pick (.loc 70) (.loc 74) (.val (.tr (.sc (.bool false)))), none⟩,
     ⟨(some 76), false, .mv (.loc 75), none⟩,
     ⟨(some 77), false, .faddr 0 (.env 14), some ((.loc 76), true)⟩,
     ⟨(some 78), false, .load 1 false (.loc 77), some ((.loc 76), true)⟩,
     ⟨(some 79), false, .un .not (.loc 78), some ((.loc 76), true)⟩,
     ⟨(some 80), false, .pick (.loc 76) (.loc 79) (.val (.tr (.sc (.bool false)))), none⟩,
     ⟨(some 8), true, .mv (.loc 80), none⟩]
@[simp] def k6_6 : HCode := .cond (.loc 34) .skip (.exit 0)
def k6_7 : HCode := .seq (.block 1 (.region r6_6 none)) (.region r6_7 none)
def k6_5 : HCode := .seq (.seq (.region r6_5 none) k6_6) k6_7
@[simp] def k6_4 : HCode := .block 0 (.loop k6_5)
@[simp] def k6_11 : HCode := .seq (.region r6_11 none) .ret
@[simp] def k6_10 : HCode := .seq (.region r6_10 none) k6_11
@[simp] def k6_9 : HCode := .seq (.region r6_9 (some [ ( 1, [ 4 ] ) , ( 1, [ 5 ] ) , ( 1, [ 47, 48 ] ) , ( 1, [ 4 ] ) , ( 1, [ 6 ] ) , ( 1, [ 50, 51 ] ) , ( 1, [ 49, 52 ] ) , ( 1, [ ] ) , ( 2, [ 13, 53 ] ) ])) k6_10
def k6_8 : HCode := .seq (.region r6_8 (some [ ( 1, [ 10 ] ) , ( 1, [ 5 ] ) , ( 1, [ 6 ] ) , ( 1, [ 43, 44 ] ) , ( 1, [ 42, 45 ] ) , ( 1, [ ] ) , ( 2, [ 12, 46 ] ) ])) k6_9
@[simp] def k6_3 : HCode := .seq (.seq (.region r6_4 none) k6_4) k6_8
@[simp] def k6_2 : HCode := .seq (.region r6_3 (some [ ( 0, [ 4 ] ) , ( 1, [ 22 ] ) , ( 0, [ 4 ] ) , ( 1, [ 24 ] ) , ( 1, [ 25 ] ) , ( 0, [ 23, 26 ] ) , ( 1, [ ] ) , ( 2, [ 10, 27 ] ) ])) k6_3
@[simp] def k6_1 : HCode := .seq (.region r6_2 (some [ ( 1, [ 4 ] ) , ( 1, [ 16 ] ) , ( 1, [ 5 ] ) , ( 1, [ 18 ] ) , ( 1, [ 6 ] ) , ( 2, [ 20 ] ) , ( 2, [ 4, 17 ] ) , ( 2, [ 5, 19 ] ) , ( 2, [ 6, 21 ] ) ])) k6_2
@[simp] def k6_0 : HCode := .seq (.region r6_1 none) k6_1
@[simp] def fn6 : HFn := { nargs := 4, results := [.tmp 8], mode := .shared, code := (.seq (.region r6_0 none) k6_0) }
theorem c6 : cFn Try.prog (Hs 6) .shared 6 = some fn6 := by kernel_rfl
/- sterling/sterlinglaw1.begun -/
@[simp] def r10_0 : List HOp := [⟨(some 0), true, .mv (.val (.tr (.sc (.bool false)))), none⟩]
@[simp] def r10_1 : List HOp := [⟨(some 9), false, .callf 34 [(.val (.tr (.sc (.string ⟨⟨[49, 50, 51, 52, 53, 54, 55, 56, 57, 48, 49, 50, 51, 52, 53, 54, 55, 56, 57, 48]⟩⟩)))), (.val (.tr (.sc (.int .i64 10))))], none⟩,
     ⟨(some 8), false, .mv (.loc 9), none⟩,
     ⟨(some 10), false, .extract (.loc 8) 0, none⟩,
     ⟨(some 11), false, .extract (.loc 8) 1, none⟩,
     ⟨(some 1), true, .alloc [(.sc (.bool false)), (.sc (.slice none 0 0))], none⟩,
     ⟨none, false, .store 2 (.env 1) (.loc 10), none⟩,
     ⟨(some 2), true, .mv (.loc 11), none⟩]
@[simp] def r10_2 : List HOp := [⟨(some 13), false, .load 2 true (.env 1), none⟩,
     ⟨(some 14), false, .callf 30 [(.val (.tr (.sc (.int .i64 (-7)))))], none⟩,
     ⟨(some 15), false, .callf 26 [(.loc 13), (.loc 14)], none⟩,
     ⟨(some 12), false, .mv (.loc 15), none⟩,
     ⟨(some 16), false, .extract (.loc 12) 0, none⟩,
     ⟨(some 17), false, .extract (.loc 12) 1, none⟩,
     ⟨(some 18), false, .extract (.loc 12) 2, none⟩,
     ⟨(some 3), true, .alloc [(.sc (.bool false)), (.sc (.slice none 0 0))], none⟩,
     ⟨(some 4), true, .alloc [(.sc (.bool false)), (.sc (.slice none 0 0))], none⟩,
     ⟨none, false, .store 2 (.env 3) (.loc 16), none⟩,
     ⟨none, false, .store 2 (.env 4) (.loc 17), none⟩,
     ⟨(some 5), true, .mv (.loc 18), none⟩]
@[simp] def r10_3 : List HOp := [⟨(some 20), false, .callf 30 [(.val (.tr (.sc (.int .i64 (-2)))))], none⟩,
     ⟨(some 21), false, .callf 30 [(.val (.tr (.sc (.int .i64 7))))], none⟩,
     ⟨(some 22), false, .callf 28 [(.val (.tr (.sc (.string ⟨⟨[38]⟩⟩)))), (.loc 20), (.loc 21)], none⟩,
     ⟨(some 19), false, .mv (.loc 22), none⟩,
     ⟨(some 23), false, .extract (.loc 19) 0, none⟩,
     ⟨(some 24), false, .extract (.loc 19) 1, none⟩,
     ⟨(some 6), true, .alloc [(.sc (.bool false)), (.sc (.slice none 0 0))], none⟩,
     ⟨none, false, .store 2 (.env 6) (.loc 23), none⟩,
     ⟨(some 7), true, .mv (.loc 24), none⟩]
@[simp] def r10_4 : List HOp := [⟨(some 25), false, .mv (.env 2), none⟩,
     ⟨(some 26), false, .mv (.loc 25), none⟩,
     ⟨(some 27), false, .load 2 true (.env 1), some ((.loc 26), true)⟩,
     ⟨(some 28), false, .callf 33 [(.loc 27)], some ((.loc 26), true)⟩,
     ⟨(some 29), false, .bin .other .eql (.loc 28) (.val (.tr (.sc (.string ⟨⟨[49, 50, 51, 52, 53, 54, 55, 56, 57, 48, 49, 50, 51, 52, 53, 54, 55, 56, 57, 48]⟩⟩)))), some ((.loc 26), true)⟩,
     ⟨(some 30), false, .pick (.loc 26) (.loc 29) (.val (.tr (.sc (.bool false)))), none⟩,
     ⟨(some 31), false, .mv (.loc 30), none⟩,
     ⟨(some 32), false, .mv (.env 5), some ((.loc 31), true)⟩,
     ⟨(some 33), false, .pick (.loc 31) (.loc 32) (.val (.tr (.sc (.bool false)))), none⟩,
     ⟨(some 34), false, .mv (.loc 33), none⟩,
     ⟨(some 35), false, .load 2 true (.env 3), some ((.loc 34), true)⟩,
     ⟨(some 36), false, .callf 30 [(.val (.tr (.sc (.int .i64 (-7)))))], some ((.loc 34), true)⟩,
     ⟨(some 37), false, .callf 18 [(.loc 35), (.loc 36)], some ((.loc 34), true)⟩,
     ⟨(some 38), false, .load 2 true (.env 4), some ((.loc 34), true)⟩,
     ⟨(some 39), false, .callf 14 [(.loc 37), (.loc 38)], some ((.loc 34), true)⟩,
     ⟨(some 40), false, .load 2 true (.env 1), some ((.loc 34), true)⟩,
     ⟨(some 41), false, .callf 22 [(.loc 39), (.loc 40)], some ((.loc 34), true)⟩,
     ⟨(some 42), false, .bin .other .eql (.loc 41) (.val (.tr (.sc (.int .i64 0)))), some ((.loc 34), true)⟩,
     ⟨(some 43), false, .pick (.loc 34) (.loc 42) (.val (.tr (.sc (.bool false)))), none⟩,
     ⟨(some 44), false, .mv (.loc 43), none⟩,
     ⟨(some 45), false, .mv (.env 7), some ((.loc 44), true)⟩,
     ⟨(some 46), false, .pick (.loc 44) (.loc 45) (.val (.tr (.sc (.bool false)))), none⟩,
     ⟨(some 47), false, .mv (.loc 46), none⟩,
     ⟨(some 48), false, .load 2 true (.env 6), some ((.loc 47), true)⟩,
     ⟨(some 49), false, .callf 33 [(.loc 48)], some ((.loc 47), true)⟩,
     ⟨(some 50), false, .bin .other .eql (.loc 49) (.val (.tr (.sc (.string ⟨⟨[54]⟩⟩)))), some ((.loc 47), true)⟩,
     ⟨(some 51), false, .pick (.loc 47) (.loc 50) (.val (.tr (.sc (.bool false)))), none⟩,
     ⟨(some 52), false, .mv (.loc 51), none⟩,
     ⟨(some 53), false, .callf 30 [(.val (.tr (.sc (.int .i64 8))))], some ((.loc 52), true)⟩,
     ⟨(some 54), false, .callf 24 [(.loc 53)], some ((.loc 52), true)⟩,
     ⟨(some 55), false, .bin .other .eql (.loc 54) (.val (.tr (.sc (.int .i64 4)))), some ((.loc 52), true)⟩,
     ⟨(some 56), false, .pick (.loc 52) (.loc 55) (.val (.tr (.sc (.bool false)))), none⟩,
     ⟨(some 57), false, .mv (.loc 56), none⟩,
     ⟨(some 58), false, .load 2 true (.env 4), some ((.loc 57), true)⟩,
     ⟨(some 59), false, .load 2 true (.env 4), some ((.loc 57), true)⟩,
     ⟨(some 60), false, .callf 16 [(.loc 58), (.loc 59)], some ((.loc 57), true)⟩,
     ⟨(some 61), false, .callf 20 [(.loc 60)], some ((.loc 57), true)⟩,
     ⟨(some 62), false, .callf 33 [(.loc 61)], some ((.loc 57), true)⟩,
     ⟨(some 63), false, .bin .other .eql (.loc 62) (.val (.tr (.sc (.string ⟨⟨[48]⟩⟩)))), some ((.loc 57), true)⟩,
     ⟨(some 64), false, .pick (.loc 57) (.loc 63) (.val (.tr (.sc (.bool false)))), none⟩,
     ⟨(some 0), true, .mv (.loc 64), none⟩]
@[simp] def k10_3 : HCode := .seq (.region r10_4 (some [ ( 0, [ 2 ] ) , ( 0, [ 25 ] ) , ( 2, [ 1, 26 ] ) , ( 2, [ 27, 26 ] ) , ( 0, [ 28, 26 ] ) , ( 0, [ 26, 29 ] ) , ( 0, [ 30 ] ) , ( 0, [ 5, 31 ] ) , ( 0, [ 31, 32 ] ) , ( 0, [ 33 ] ) , ( 1, [ 3, 34 ] ) , ( 1, [ 34 ] ) , ( 1, [ 35, 36, 34 ] ) , ( 1, [ 4, 34 ] ) , ( 1, [ 37, 38, 34 ] ) , ( 1, [ 1, 34 ] ) , ( 2, [ 39, 40, 34 ] ) , ( 0, [ 41, 34 ] ) , ( 0, [ 34, 42 ] ) , ( 0, [ 43 ] ) , ( 0, [ 7, 44 ] ) , ( 0, [ 44, 45 ] ) , ( 0, [ 46 ] ) , ( 2, [ 6, 47 ] ) , ( 2, [ 48, 47 ] ) , ( 0, [ 49, 47 ] ) , ( 0, [ 47, 50 ] ) , ( 0, [ 51 ] ) , ( 2, [ 52 ] ) , ( 2, [ 53, 52 ] ) , ( 0, [ 54, 52 ] ) , ( 0, [ 52, 55 ] ) , ( 0, [ 56 ] ) , ( 1, [ 4, 57 ] ) , ( 1, [ 4, 57 ] ) , ( 2, [ 58, 59, 57 ] ) , ( 2, [ 60, 57 ] ) , ( 2, [ 61, 57 ] ) , ( 0, [ 62, 57 ] ) , ( 0, [ 57, 63 ] ) , ( 0, [ 64 ] ) ])) .ret
@[simp] def k10_2 : HCode := .seq (.region r10_3 none) k10_3
@[simp] def k10_1 : HCode := .seq (.region r10_2 (some [ ( 1, [ 1 ] ) , ( 1, [ ] ) , ( 1, [ 13, 14 ] ) , ( 0, [ 15 ] ) , ( 0, [ 12 ] ) , ( 0, [ 12 ] ) , ( 0, [ 12 ] ) , ( 1, [ ] ) , ( 1, [ ] ) , ( 2, [ 3, 16 ] ) , ( 2, [ 4, 17 ] ) , ( 0, [ 18 ] ) ])) k10_2
@[simp] def k10_0 : HCode := .seq (.region r10_1 none) k10_1
@[simp] def fn10 : HFn := { nargs := 0, results := [.tmp 0], mode := .iso, code := (.seq (.region r10_0 none) k10_0) }
theorem c10 : cFn Try.prog (Hs 10) .iso 10 = some fn10 := by kernel_rfl
/- sterling/bigint.Parse -/
@[simp] def r34_0 : List HOp := [⟨(some 4), true, .alloc [(.sc (.bool false)), (.sc (.slice none 0 0))], none⟩,
     ⟨(some 5), true, .mv (.val (.tr (.sc (.bool false)))), none⟩]
@[simp] def r34_1 : List HOp := [⟨(some 9), false, .mv (.env 0), none⟩,
      ⟨(some 10), false, .bin .other .eql (.loc 9) (.val (.tr (.sc (.string ⟨⟨[]⟩⟩)))), none⟩,
      ⟨(some 11), false, .mv (.loc 10), none⟩,
      ⟨(some 12), false, .mv (.env 1), some ((.loc 11), false)⟩,
      ⟨(some 13), false, .bin .other .neq (.loc 12) (.val (.tr (.sc (.int .i64 2)))), some ((.loc 11), false)⟩,
      ⟨(some 14), false, .mv (.loc 13), some ((.loc 11), false)⟩,
      ⟨(some 15), false, .mv (.env 1), some ((.loc 14), true)⟩,
      ⟨(some 16), false, .bin .other .neq (.loc 15) (.val (.tr (.sc (.int .i64 8)))), some ((.loc 14), true)⟩,
      ⟨(some 17), false, .pick (.loc 14) (.loc 16) (.val (.tr (.sc (.bool false)))), some ((.loc 11), false)⟩,
      ⟨(some 18), false, .mv (.loc 17), some ((.loc 11), false)⟩,
      ⟨(some 19), false, .mv (.env 1), some ((.loc 18), true)⟩,
      ⟨(some 20), false, .bin .other .neq (.loc 19) (.val (.tr (.sc (.int .i64 10)))), some ((.loc 18), true)⟩,
      ⟨(some 21), false, .pick (.loc 18) (.loc 20) (.val (.tr (.sc (.bool false)))), some ((.loc 11), false)⟩,
      ⟨(some 22), false, .mv (.loc 21), some ((.loc 11), false)⟩,
      ⟨(some 23), false, .mv (.env 1), some ((.loc 22), true)⟩,
      ⟨(some 24), false, .bin .other .neq (.loc 23) (.val (.tr (.sc (.int .i64 16)))), some ((.loc 22), true)⟩,
      ⟨(some 25), false, .pick (.loc 22) (.loc 24) (.val (.tr (.sc (.bool false)))), some ((.loc 11), false)⟩,
      ⟨(some 26), false, .pick (.loc 11) (.val (.tr (.sc (.bool true)))) (.loc 25), none⟩]
@[simp] def r34_2 : List HOp := [⟨(some 27), false, .build [(.sc (.bool false)), (.sc (.slice none 0 0))] [], none⟩,
       ⟨none, false, .store 2 (.env 4) (.loc 27), none⟩,
       ⟨(some 5), true, .mv (.val (.tr (.sc (.bool false)))), none⟩]
@[simp] def r34_3 : List HOp := [⟨(some 6), true, .mv (.val (.tr (.sc (.slice none 0 0)))), none⟩]
@[simp] def r34_4 : List HOp := [⟨(some 28), false, .mv (.env 0), none⟩,
      ⟨(some 29), true, .len 0 (.loc 28), none⟩,
      ⟨(some 30), true, .mv (.val (.tr (.sc (.int .i64 0)))), none⟩]
@[simp] def r34_5 : List HOp := [⟨(some 31), false, .bin .other .lss (.env 30) (.env 29), none⟩]
@[simp] def r34_6 : List HOp := [⟨(some 32), false, .mv (.env 30), none⟩,
          ⟨(some 7), true, .mv (.loc 32), none⟩]
@[simp] def r34_7 : List HOp := [⟨(some 33), false, .mv (.env 0), none⟩,
          ⟨(some 34), false, .mv (.env 7), none⟩,
          ⟨(some 35), false, .istr (.loc 33) (.loc 34), none⟩,
          ⟨(some 36), false, .callf 61 [(.loc 35)], none⟩,
          ⟨(some 8), true, .mv (.loc 36), none⟩]
@[simp] def r34_8 : List HOp := [⟨(some 37), false, .mv (.env 8), none⟩,
           ⟨(some 38), false, .mv (.env 1), none⟩,
           ⟨(some 39), false, .bin .other .geq (.loc 37) (.loc 38), none⟩]
@[simp] def r34_9 : List HOp := [⟨(some 40), false, .build [(.sc (.bool false)), (.sc (.slice none 0 0))] [], none⟩,
            ⟨none, false, .store 2 (.env 4) (.loc 40), none⟩,
            ⟨(some 5), true, .mv (.val (.tr (.sc (.bool false)))), none⟩]
@[simp] def r34_10 : List HOp := [⟨(some 41), false, .mv (.env 6), none⟩,
         ⟨(some 42), false, .mv (.env 1), none⟩,
         ⟨(some 43), false, .conv (.toInt .u32) (.loc 42), none⟩,
         ⟨(some 44), false, .mv (.env 8), none⟩,
         ⟨(some 45), false, .conv (.toInt .u32) (.loc 44), none⟩,
         ⟨(some 46), false, .callf 62 [(.loc 41), (.loc 43), (.loc 45)], none⟩,
         ⟨(some 6), true, .mv (.loc 46), none⟩]
@[simp] def r34_11 : List HOp := [⟨(some 47), false, .bin .other .add (.env 30) (.val (.tr (.sc (.int .i64 1)))), none⟩,
       ⟨(some 30), true, .mv (.loc 47), none⟩]
@[simp] def r34_12 : List HOp := [⟨(some 48), false, .mv (.env 6), none⟩,
     ⟨(some 49), false, .callf 41 [(.val (.tr (.sc (.bool false)))), (.loc 48)], none⟩,
     ⟨none, false, .store 2 (.env 4) (.loc 49), none⟩,
     ⟨(some 5), true, .mv (.val (.tr (.sc (.bool true)))), none⟩]
@[simp] def k34_2 : HCode := .seq (.region r34_2 none) .ret
@[simp] def k34_1 : HCode := .cond (.loc 26) k34_2 .skip
@[simp] def k34_12 : HCode := .seq (.region r34_9 none) .ret
@[simp] def k34_11 : HCode := .cond (.loc 39) k34_12 .skip
def k34_13 : HCode := .region r34_10 none
@[simp] def k34_10 : HCode := .seq (.seq (.region r34_8 none) k34_11) k34_13
@[simp] def k34_9 : HCode := .seq (.region r34_7 none) k34_10
def k34_14 : HCode := .region r34_11 none
def k34_8 : HCode := .seq (.block 1 (.seq (.region r34_6 none) k34_9)) k34_14
@[simp] def k34_7 : HCode := .seq (.cond (.loc 31) .skip (.exit 0)) k34_8
def k34_6 : HCode := .seq (.region r34_5 none) k34_7
@[simp] def k34_5 : HCode := .block 0 (.loop k34_6)
def k34_15 : HCode := .seq (.region r34_12 none) .ret
@[simp] def k34_4 : HCode := .seq (.seq (.region r34_4 none) k34_5) k34_15
def k34_3 : HCode := .seq (.region r34_3 none) k34_4
@[simp] def k34_0 : HCode := .seq (.seq (.region r34_1 none) k34_1) k34_3
@[simp] def fn34 : HFn := { nargs := 2, results := [.cell 4 2 true, .tmp 5], mode := .iso, code := (.seq (.region r34_0 none) k34_0) }
theorem c34 : cFn Try.prog (Hs 34) .iso 34 = some fn34 := by kernel_rfl
/- sterling/bigint.digit -/
@[simp] def r61_0 : List HOp := [⟨(some 2), true, .mv (.val (.tr (.sc (.int .i64 0)))), none⟩]
@[simp] def r61_1 : List HOp := [⟨(some 4), false, .mv (.env 0), none⟩,
       ⟨(some 5), false, .bin .other .geq (.loc 4) (.val (.tr (.sc (.int .u8 48)))), none⟩,
       ⟨(some 6), false, .mv (.loc 5), none⟩,
       ⟨(some 7), false, .mv (.env 0), some ((.loc 6), true)⟩,
       ⟨(some 8), false, .bin .other .leq (.loc 7) (.val (.tr (.sc (.int .u8 57)))), some ((.loc 6), true)⟩,
       ⟨(some 9), false, .pick (.loc 6) (.loc 8) (.val (.tr (.sc (.bool false)))), none⟩,
       ⟨(some 3), false, .mv (.loc 9), none⟩]
@[simp] def r61_2 : List HOp := [⟨(some 10), false, .mv (.env 0), none⟩,
        ⟨(some 11), false, .bin .other .sub (.loc 10) (.val (.tr (.sc (.int .u8 48)))), none⟩,
        ⟨(some 12), false, .conv (.toInt .i64) (.loc 11), none⟩,
        ⟨(some 2), true, .mv (.loc 12), none⟩]
@[simp] def r61_3 : List HOp := [⟨(some 14), false, .mv (.env 0), none⟩,
        ⟨(some 15), false, .bin .other .geq (.loc 14) (.val (.tr (.sc (.int .u8 97)))), none⟩,
        ⟨(some 16), false, .mv (.loc 15), none⟩,
        ⟨(some 17), false, .mv (.env 0), some ((.loc 16), true)⟩,
        ⟨(some 18), false, .bin .other .leq (.loc 17) (.val (.tr (.sc (.int .u8 102)))), some ((.loc 16), true)⟩,
        ⟨(some 19), false, .pick (.loc 16) (.loc 18) (.val (.tr (.sc (.bool false)))), none⟩,
        ⟨(some 13), false, .mv (.loc 19), none⟩]
@[simp] def r61_4 : List HOp := [⟨(some 20), false, .mv (.env 0), none⟩,
         ⟨(some 21), false, .bin .other .sub (.loc 20) (.val (.tr (.sc (.int .u8 97)))), none⟩,
         ⟨(some 22), false, .conv (.toInt .i64) (.loc 21), none⟩,
         ⟨(some 23), false, .bin .other .add (.loc 22) (.val (.tr (.sc (.int .i64 10)))), none⟩,
         ⟨(some 2), true, .mv (.loc 23), none⟩]
@[simp] def r61_5 : List HOp := [⟨(some 25), false, .mv (.env 0), none⟩,
         ⟨(some 26), false, .bin .other .geq (.loc 25) (.val (.tr (.sc (.int .u8 65)))), none⟩,
         ⟨(some 27), false, .mv (.loc 26), none⟩,
         ⟨(some 28), false, .mv (.env 0), some ((.loc 27), true)⟩,
         ⟨(some 29), false, .bin .other .leq (.loc 28) (.val (.tr (.sc (.int .u8 70)))), some ((.loc 27), true)⟩,
         ⟨(some 30), false, .pick (.loc 27) (.loc 29) (.val (.tr (.sc (.bool false)))), none⟩,
         ⟨(some 24), false, .mv (.loc 30), none⟩]
@[simp] def r61_6 : List HOp := [⟨(some 31), false, .mv (.env 0), none⟩,
          ⟨(some 32), false, .bin .other .sub (.loc 31) (.val (.tr (.sc (.int .u8 65)))), none⟩,
          ⟨(some 33), false, .conv (.toInt .i64) (.loc 32), none⟩,
          ⟨(some 34), false, .bin .other .add (.loc 33) (.val (.tr (.sc (.int .i64 10)))), none⟩,
          ⟨(some 2), true, .mv (.loc 34), none⟩]
@[simp] def r61_7 : List HOp := [⟨(some 2), true, .mv (.val (.tr (.sc (.int .i64 99)))), none⟩]
@[simp] def k61_2 : HCode := .seq (.region r61_2 none) .ret
@[simp] def k61_5 : HCode := .seq (.region r61_4 none) .ret
@[simp] def k61_8 : HCode := .seq (.region r61_6 none) .ret
@[simp] def k61_7 : HCode := .cond (.loc 24) k61_8 .skip
@[simp] def k61_6 : HCode := .seq (.region r61_5 none) k61_7
@[simp] def k61_4 : HCode := .cond (.loc 13) k61_5 k61_6
@[simp] def k61_3 : HCode := .seq (.region r61_3 none) k61_4
@[simp] def k61_1 : HCode := .cond (.loc 3) k61_2 k61_3
def k61_9 : HCode := .seq (.region r61_7 none) .ret
@[simp] def k61_0 : HCode := .seq (.block 0 (.seq (.region r61_1 none) k61_1)) k61_9
@[simp] def fn61 : HFn := { nargs := 1, results := [.tmp 2], mode := .iso, code := (.seq (.region r61_0 none) k61_0) }
theorem c61 : cFn Try.prog (Hs 61) .iso 61 = some fn61 := by kernel_rfl
/- sterling/bigint.grow -/
@[simp] def r62_0 : List HOp := [⟨(some 6), true, .mv (.val (.tr (.sc (.slice none 0 0)))), none⟩]
@[simp] def r62_1 : List HOp := [⟨(some 10), false, .mv (.env 2), none⟩,
     ⟨(some 11), false, .conv (.toInt .u64) (.loc 10), none⟩,
     ⟨(some 7), true, .mv (.loc 11), none⟩]
@[simp] def r62_2 : List HOp := [⟨(some 12), true, .mv (.env 0), none⟩,
      ⟨(some 13), true, .len 1 (.env 12), none⟩,
      ⟨(some 14), true, .mv (.val (.tr (.sc (.int .i64 0)))), none⟩]
@[simp] def r62_3 : List HOp := [⟨(some 15), false, .bin .other .lss (.env 14) (.env 13), none⟩]
@[simp] def r62_4 : List HOp := [⟨(some 16), false, .mv (.env 14), none⟩,
          ⟨(some 17), false, .iaddr 1 (.env 12) (.env 14), none⟩,
          ⟨(some 18), false, .load 1 false (.loc 17), none⟩,
          ⟨(some 8), true, .mv (.loc 16), none⟩,
          ⟨(some 9), true, .mv (.loc 18), none⟩]
@[simp] def r62_5 : List HOp := [⟨(some 19), false, .mv (.env 7), none⟩,
          ⟨(some 20), false, .mv (.env 9), none⟩,
          ⟨(some 21), false, .conv (.toInt .u64) (.loc 20), none⟩,
          ⟨(some 22), false, .mv (.env 1), none⟩,
          ⟨(some 23), false, .conv (.toInt .u64) (.loc 22), none⟩,
          ⟨(some 24), false, .bin .other .mul (.loc 21) (.loc 23), none⟩,
          ⟨(some 25), false, .bin .other .add (.loc 19) (.loc 24), none⟩,
          ⟨(some 7), true, .mv (.loc 25), none⟩]
@[simp] def r62_6 : List HOp := [⟨(some 26), false, .mv (.env 0), none⟩,
          ⟨(some 27), false, .mv (.env 8), none⟩,
          ⟨(some 28), false, .mv (.env 7), none⟩,
          ⟨(some 29), false, .conv (.toInt .u32) (.loc 28), none⟩,
          ⟨(some 30), false, .iaddr 1 (.loc 26) (.loc 27), none⟩,
          ⟨none, false, .store 1 (.loc 30) (.loc 29), none⟩]
@[simp] def r62_7 : List HOp := [⟨(some 31), false, .mv (.env 7), none⟩,
         ⟨(some 32), false, .bin .other .shr (.loc 31) (.val (.tr (.sc (.int .u64 32)))), none⟩,
         ⟨(some 7), true, .mv (.loc 32), none⟩]
@[simp] def r62_8 : List HOp := [⟨(some 33), false, .bin .other .add (.env 14) (.val (.tr (.sc (.int .i64 1)))), none⟩,
       ⟨(some 14), true, .mv (.loc 33), none⟩]
@[simp] def r62_9 : List HOp := [⟨(some 34), false, .mv (.env 7), none⟩,
      ⟨(some 35), false, .bin .other .gtr (.loc 34) (.val (.tr (.sc (.int .u64 0)))), none⟩]
@[simp] def r62_10 : List HOp := [⟨(some 36), false, .mv (.env 0), none⟩,
      ⟨(some 37), false, .mv (.env 7), none⟩,
      ⟨(some 38), false, .conv (.toInt .u32) (.loc 37), none⟩,
      ⟨(some 39), false, .bslice false 1 1 [(.sc (.int .u32 0))] [(0, 1, (.loc 38))], none⟩,
      ⟨(some 40), false, .append 1 4 (.loc 36) (.loc 39), none⟩,
      ⟨(some 0), true, .mv (.loc 40), none⟩]
@[simp] def r62_11 : List HOp := [⟨(some 41), false, .mv (.env 0), none⟩,
     ⟨(some 6), true, .mv (.loc 41), none⟩]
@[simp] def k62_7 : HCode := .seq (.region r62_6 none) (.region r62_7 none)
@[simp] def k62_6 : HCode := .seq (.region r62_5 none) k62_7
def k62_5 : HCode := .seq (.block 1 (.seq (.region r62_4 none) k62_6)) (.region r62_8 none)
@[simp] def k62_4 : HCode := .seq (.cond (.loc 15) .skip (.exit 0)) k62_5
def k62_3 : HCode := .seq (.region r62_3 none) k62_4
@[simp] def k62_2 : HCode := .block 0 (.loop k62_3)
@[simp] def k62_9 : HCode := .cond (.loc 35) (.region r62_10 none) .skip
def k62_10 : HCode := .seq (.region r62_11 none) .ret
def k62_8 : HCode := .seq (.seq (.region r62_9 none) k62_9) k62_10
@[simp] def k62_1 : HCode := .seq (.seq (.region r62_2 none) k62_2) k62_8
@[simp] def k62_0 : HCode := .seq (.region r62_1 none) k62_1
@[simp] def fn62 : HFn := { nargs := 3, results := [.tmp 6], mode := .shared, code := (.seq (.region r62_0 none) k62_0) }
theorem c62 : cFn Try.prog (Hs 62) .shared 62 = some fn62 := by kernel_rfl
/- sterling/bigint.made -/
@[simp] def r41_0 : List HOp := [⟨(some 4), true, .alloc [(.sc (.bool false)), (.sc (.slice none 0 0))], none⟩]
@[simp] def r41_1 : List HOp := [⟨(some 5), false, .mv (.env 1), none⟩,
     ⟨(some 6), false, .callf 48 [(.loc 5)], none⟩,
     ⟨(some 7), false, .callf 53 [(.loc 6)], none⟩,
     ⟨(some 1), true, .mv (.loc 7), none⟩]
@[simp] def r41_2 : List HOp := [⟨(some 8), false, .mv (.env 1), none⟩,
      ⟨(some 9), false, .len 1 (.loc 8), none⟩,
      ⟨(some 10), false, .bin .other .eql (.loc 9) (.val (.tr (.sc (.int .i64 0)))), none⟩]
@[simp] def r41_3 : List HOp := [⟨(some 11), false, .build [(.sc (.bool false)), (.sc (.slice none 0 0))] [], none⟩,
       ⟨none, false, .store 2 (.env 4) (.loc 11), none⟩]
@[simp] def r41_4 : List HOp := [⟨(some 12), false, .mv (.env 0), none⟩,
     ⟨(some 13), false, .mv (.env 1), none⟩,
     ⟨(some 14), false, .build [(.sc (.bool false)), (.sc (.slice none 0 0))] [(0, 1, (.loc 12)), (1, 1, (.loc 13))], none⟩,
     ⟨none, false, .store 2 (.env 4) (.loc 14), none⟩]
@[simp] def k41_3 : HCode := .seq (.region r41_3 none) .ret
@[simp] def k41_2 : HCode := .cond (.loc 10) k41_3 .skip
def k41_4 : HCode := .seq (.region r41_4 none) .ret
@[simp] def k41_1 : HCode := .seq (.seq (.region r41_2 none) k41_2) k41_4
@[simp] def k41_0 : HCode := .seq (.region r41_1 none) k41_1
@[simp] def fn41 : HFn := { nargs := 2, results := [.cell 4 2 true], mode := .shared, code := (.seq (.region r41_0 none) k41_0) }
theorem c41 : cFn Try.prog (Hs 41) .shared 41 = some fn41 := by kernel_rfl
/- sterling/bigint.norm -/
@[simp] def r48_0 : List HOp := [⟨(some 2), true, .mv (.val (.tr (.sc (.slice none 0 0)))), none⟩]
@[simp] def r48_1 : List HOp := [⟨(some 4), false, .mv (.env 0), none⟩,
     ⟨(some 5), false, .len 1 (.loc 4), none⟩,
     ⟨(some 3), true, .mv (.loc 5), none⟩]
@[simp] def r48_2 : List HOp := [⟨(some 6), false, .mv (.env 3), none⟩,
         ⟨(some 7), false, .bin .other .gtr (.loc 6) (.val (.tr (.sc (.int .i64 0)))), none⟩,
         ⟨(some 8), false, .mv (.loc 7), none⟩,
         ⟨(some 9), false, .mv (.env 0), some ((.loc 8), true)⟩,
         ⟨(some 10), false, .mv (.env 3), some ((.loc 8), true)⟩,
         ⟨(some 11), false, .bin .other .sub (.loc 10) (.val (.tr (.sc (.int .i64 1)))), some ((.loc 8), true)⟩,
         ⟨(some 12), false, .iaddr 1 (.loc 9) (.loc 11), some ((.loc 8), true)⟩,
         ⟨(some 13), false, .load 1 false (.loc 12), some ((.loc 8), true)⟩,
         ⟨(some 14), false, .bin .other .eql (.loc 13) (.val (.tr (.sc (.int .u32 0)))), some ((.loc 8), true)⟩,
         ⟨(some 15), false, .pick (.loc 8) (.loc 14) (.val (.tr (.sc (.bool false)))), none⟩]
@[simp] def r48_3 : List HOp := [⟨(some 16), false, .mv (.env 3), none⟩,
        ⟨(some 17), false, .bin .other .sub (.loc 16) (.val (.tr (.sc (.int .i64 1)))), none⟩,
        ⟨(some 3), true, .mv (.loc 17), none⟩]
@[simp] def r48_4 : List HOp := [⟨(some 18), false, .mv (.env 0), none⟩,
     ⟨(some 19), false, .mv (.env 3), none⟩,
     ⟨(some 20), false, .slice 1 (.loc 18) none (some (.loc 19)) none, none⟩,
     ⟨(some 2), true, .mv (.loc 20), none⟩]
@[simp] def k48_3 : HCode := .cond (.loc 15) .skip (.exit 0)
def k48_4 : HCode := .block 1 (.region r48_3 none)
def k48_2 : HCode := .seq (.seq (.region r48_2 none) k48_3) k48_4
def k48_5 : HCode := .seq (.region r48_4 none) .ret
@[simp] def k48_1 : HCode := .seq (.block 0 (.loop k48_2)) k48_5
@[simp] def k48_0 : HCode := .seq (.region r48_1 none) k48_1
@[simp] def fn48 : HFn := { nargs := 1, results := [.tmp 2], mode := .shared, code := (.seq (.region r48_0 none) k48_0) }
theorem c48 : cFn Try.prog (Hs 48) .shared 48 = some fn48 := by kernel_rfl
/- slices.Clone[[]uint32,uint32] -/
@[simp] def r53_0 : List HOp := [⟨(some 2), true, .mv (.val (.tr (.sc (.slice none 0 0)))), none⟩]
@[simp] def r53_1 : List HOp := [⟨(some 3), false, .mv (.env 0), none⟩,
      ⟨(some 4), false, .bin .slice .eql (.loc 3) (.val (.tr (.sc (.slice none 0 0)))), none⟩]
@[simp] def r53_2 : List HOp := [⟨(some 2), true, .mv (.val (.tr (.sc (.slice none 0 0)))), none⟩]
@[simp] def r53_3 : List HOp := [⟨(some 5), false, .bslice false 0 1 [(.sc (.int .u32 0))] [], none⟩,
     ⟨(some 6), false, .mv (.env 0), none⟩,
     ⟨(some 7), false, .append 1 4 (.loc 5) (.loc 6), none⟩,
     ⟨(some 2), true, .mv (.loc 7), none⟩]
@[simp] def k53_2 : HCode := .seq (.region r53_2 none) .ret
@[simp] def k53_1 : HCode := .cond (.loc 4) k53_2 .skip
def k53_3 : HCode := .seq (.region r53_3 none) .ret
@[simp] def k53_0 : HCode := .seq (.seq (.region r53_1 none) k53_1) k53_3
@[simp] def fn53 : HFn := { nargs := 1, results := [.tmp 2], mode := .shared, code := (.seq (.region r53_0 none) k53_0) }
theorem c53 : cFn Try.prog (Hs 53) .shared 53 = some fn53 := by kernel_rfl
/- sterling/bigint.Of -/
@[simp] def r30_0 : List HOp := [⟨(some 2), true, .alloc [(.sc (.bool false)), (.sc (.slice none 0 0))], none⟩]
@[simp] def r30_1 : List HOp := [⟨(some 4), false, .mv (.env 0), none⟩,
     ⟨(some 5), false, .conv (.toInt .u64) (.loc 4), none⟩,
     ⟨(some 3), true, .mv (.loc 5), none⟩]
@[simp] def r30_2 : List HOp := [⟨(some 6), false, .mv (.env 0), none⟩,
      ⟨(some 7), false, .bin .other .lss (.loc 6) (.val (.tr (.sc (.int .i64 0)))), none⟩]
@[simp] def r30_3 : List HOp := [⟨(some 8), false, .mv (.env 3), none⟩,
      ⟨(some 9), false, .un .neg (.loc 8), none⟩,
      ⟨(some 3), true, .mv (.loc 9), none⟩]
@[simp] def r30_4 : List HOp := [⟨(some 10), false, .mv (.env 0), none⟩,
     ⟨(some 11), false, .bin .other .lss (.loc 10) (.val (.tr (.sc (.int .i64 0)))), none⟩,
     ⟨(some 12), false, .mv (.env 3), none⟩,
     ⟨(some 13), false, .conv (.toInt .u32) (.loc 12), none⟩,
     ⟨(some 14), false, .mv (.env 3), none⟩,
     ⟨(some 15), false, .bin .other .shr (.loc 14) (.val (.tr (.sc (.int .u64 32)))), none⟩,
     ⟨(some 16), false, .conv (.toInt .u32) (.loc 15), none⟩,
     ⟨(some 17), false, .bslice false 2 1 [(.sc (.int .u32 0))] [(0, 1, (.loc 13)), (1, 1, (.loc 16))], none⟩,
     ⟨(some 18), false, .callf 41 [(.loc 11), (.loc 17)], none⟩,
     ⟨none, false, .store 2 (.env 2) (.loc 18), none⟩]
@[simp] def k30_2 : HCode := .cond (.loc 7) (.region r30_3 none) .skip
def k30_3 : HCode := .seq (.region r30_4 none) .ret
@[simp] def k30_1 : HCode := .seq (.seq (.region r30_2 none) k30_2) k30_3
@[simp] def k30_0 : HCode := .seq (.region r30_1 none) k30_1
@[simp] def fn30 : HFn := { nargs := 1, results := [.cell 2 2 true], mode := .iso, code := (.seq (.region r30_0 none) k30_0) }
theorem c30 : cFn Try.prog (Hs 30) .iso 30 = some fn30 := by kernel_rfl
/- sterling/bigint.Quo -/
@[simp] def r26_0 : List HOp := [⟨(some 2), true, .box true (.env 0), none⟩,
     ⟨(some 3), true, .box true (.env 1), none⟩,
     ⟨(some 4), true, .alloc [(.sc (.bool false)), (.sc (.slice none 0 0))], none⟩,
     ⟨(some 5), true, .alloc [(.sc (.bool false)), (.sc (.slice none 0 0))], none⟩,
     ⟨(some 6), true, .mv (.val (.tr (.sc (.bool false)))), none⟩]
@[simp] def r26_1 : List HOp := [⟨(some 11), false, .faddr 1 (.env 2), none⟩,
     ⟨(some 12), false, .ldt 1 false (.loc 11), none⟩,
     ⟨(some 13), false, .callf 48 [(.loc 12)], none⟩,
     ⟨(some 14), false, .faddr 1 (.env 3), none⟩,
     ⟨(some 15), false, .ldt 1 false (.loc 14), none⟩,
     ⟨(some 16), false, .callf 48 [(.loc 15)], none⟩,
     ⟨(some 7), true, .mv (.loc 13), none⟩,
     ⟨(some 8), true, .mv (.loc 16), none⟩]
@[simp] def r26_2 : List HOp := [⟨(some 9), true, .mv (.val (.tr (.sc (.slice none 0 0)))), none⟩,
     ⟨(some 10), true, .mv (.val (.tr (.sc (.slice none 0 0)))), none⟩]
@[simp] def r26_3 : List HOp := [⟨(some 24), false, .mv (.env 8), none⟩,
       ⟨(some 25), false, .len 1 (.loc 24), none⟩,
       ⟨(some 26), false, .bin .other .eql (.loc 25) (.val (.tr (.sc (.int .i64 0)))), none⟩,
       ⟨(some 23), false, .mv (.loc 26), none⟩]
@[simp] def r26_4 : List HOp := [⟨(some 27), false, .build [(.sc (.bool false)), (.sc (.slice none 0 0))] [], none⟩,
        ⟨(some 28), false, .build [(.sc (.bool false)), (.sc (.slice none 0 0))] [], none⟩,
        ⟨none, false, .store 2 (.env 4) (.loc 27), none⟩,
        ⟨none, false, .store 2 (.env 5) (.loc 28), none⟩,
        ⟨(some 6), true, .mv (.val (.tr (.sc (.bool false)))), none⟩]
@[simp] def r26_5 : List HOp := [⟨(some 30), false, .mv (.env 7), none⟩,
        ⟨(some 31), false, .mv (.env 8), none⟩,
        ⟨(some 32), false, .callf 43 [(.loc 30), (.loc 31)], none⟩,
        ⟨(some 33), false, .bin .other .lss (.loc 32) (.val (.tr (.sc (.int .i64 0)))), none⟩,
        ⟨(some 29), false, .mv (.loc 33), none⟩]
@[simp] def r26_6 : List HOp := [⟨(some 34), false, .mv (.env 7), none⟩,
        ⟨(some 10), true, .mv (.loc 34), none⟩]
@[simp] def r26_7 : List HOp := [⟨(some 36), false, .mv (.env 8), none⟩,
         ⟨(some 37), false, .len 1 (.loc 36), none⟩,
         ⟨(some 38), false, .bin .other .eql (.loc 37) (.val (.tr (.sc (.int .i64 1)))), none⟩,
         ⟨(some 35), false, .mv (.loc 38), none⟩]
@[simp] def r26_8 : List HOp := [⟨(some 39), false, .mv (.env 7), none⟩,
          ⟨(some 40), false, .callf 53 [(.loc 39)], none⟩,
          ⟨(some 9), true, .mv (.loc 40), none⟩]
@[simp] def r26_9 : List HOp := [⟨(some 41), false, .mv (.env 9), none⟩,
         ⟨(some 42), false, .mv (.env 8), none⟩,
         ⟨(some 43), false, .iaddr 1 (.loc 42) (.val (.tr (.sc (.int .i64 0)))), none⟩,
         ⟨(some 44), false, .load 1 false (.loc 43), none⟩,
         ⟨(some 45), false, .callf 54 [(.loc 41), (.loc 44)], none⟩,
         ⟨(some 46), false, .bslice false 1 1 [(.sc (.int .u32 0))] [(0, 1, (.loc 45))], none⟩,
         ⟨(some 10), true, .mv (.loc 46), none⟩]
@[simp] def r26_10 : List HOp := [⟨(some 18), false, .mv (.env 7), none⟩,
         ⟨(some 19), false, .mv (.env 8), none⟩,
         ⟨(some 20), false, .callf 55 [(.loc 18), (.loc 19)], none⟩,
         ⟨(some 17), false, .mv (.loc 20), none⟩,
         ⟨(some 21), false, .extract (.loc 17) 0, none⟩,
         ⟨(some 22), false, .extract (.loc 17) 1, none⟩,
         ⟨(some 9), true, .mv (.loc 21), none⟩,
         ⟨(some 10), true, .mv (.loc 22), none⟩]
@[simp] def r26_11 : List HOp := [⟨(some 47), false, .faddr 0 (.env 2), none⟩,
     ⟨(some 48), false, .ldt 1 false (.loc 47), none⟩,
     ⟨(some 49), false, .faddr 0 (.env 3), none⟩,
     ⟨(some 50), false, .ldt 1 false (.loc 49), none⟩,
     ⟨(some 51), false, .bin .bool .neq (.loc 48) (.loc 50), none⟩,
     ⟨(some 52), false, .mv (.env 9), none⟩,
     ⟨(some 53), false, .callf 41 [(.loc 51), (.loc 52)], none⟩,
     ⟨(some 54), false, .faddr 0 (.env 2), none⟩,
     ⟨(some 55), false, .ldt 1 false (.loc 54), none⟩,
     ⟨(some 56), false, .mv (.env 10), none⟩,
     ⟨(some 57), false, .callf 41 [(.loc 55), (.loc 56)], none⟩,
     ⟨none, false, .store 2 (.env 4) (.loc 53), none⟩,
     ⟨none, false, .store 2 (.env 5) (.loc 57), none⟩,
     ⟨(some 6), true, .mv (.val (.tr (.sc (.bool true)))), none⟩]
@[simp] def k26_4 : HCode := .seq (.region r26_4 none) .ret
@[simp] def k26_9 : HCode := .seq (.region r26_8 none) (.region r26_9 none)
@[simp] def k26_8 : HCode := .cond (.loc 35) k26_9 (.region r26_10 none)
@[simp] def k26_7 : HCode := .seq (.region r26_7 none) k26_8
@[simp] def k26_6 : HCode := .cond (.loc 29) (.region r26_6 none) k26_7
@[simp] def k26_5 : HCode := .seq (.region r26_5 none) k26_6
@[simp] def k26_3 : HCode := .cond (.loc 23) k26_4 k26_5
def k26_10 : HCode := .seq (.region r26_11 (some [ ( 0, [ 2 ] ) , ( 0, [ 47 ] ) , ( 0, [ 3 ] ) , ( 0, [ 49 ] ) , ( 0, [ 48, 50 ] ) , ( 0, [ 9 ] ) , ( 2, [ 51, 52 ] ) , ( 0, [ 2 ] ) , ( 0, [ 54 ] ) , ( 0, [ 10 ] ) , ( 2, [ 55, 56 ] ) , ( 2, [ 4, 53 ] ) , ( 2, [ 5, 57 ] ) , ( 0, [ ] ) ])) .ret
@[simp] def k26_2 : HCode := .seq (.block 0 (.seq (.region r26_3 none) k26_3)) k26_10
@[simp] def k26_1 : HCode := .seq (.region r26_2 none) k26_2
@[simp] def k26_0 : HCode := .seq (.region r26_1 (some [ ( 0, [ 2 ] ) , ( 0, [ 11 ] ) , ( 2, [ 12 ] ) , ( 0, [ 3 ] ) , ( 0, [ 14 ] ) , ( 2, [ 15 ] ) , ( 0, [ 13 ] ) , ( 0, [ 16 ] ) ])) k26_1
@[simp] def fn26 : HFn := { nargs := 2, results := [.cell 4 2 true, .cell 5 2 true, .tmp 6], mode := .iso, code := (.seq (.region r26_0 none) k26_0) }
theorem c26 : cFn Try.prog (Hs 26) .iso 26 = some fn26 := by kernel_rfl
/- sterling/bigint.order -/
@[simp] def r43_0 : List HOp := [⟨(some 4), true, .mv (.val (.tr (.sc (.int .i64 0)))), none⟩]
@[simp] def r43_1 : List HOp := [⟨(some 6), false, .mv (.env 0), none⟩,
     ⟨(some 7), false, .callf 48 [(.loc 6)], none⟩,
     ⟨(some 8), false, .mv (.env 1), none⟩,
     ⟨(some 9), false, .callf 48 [(.loc 8)], none⟩,
     ⟨(some 0), true, .mv (.loc 7), none⟩,
     ⟨(some 1), true, .mv (.loc 9), none⟩]
@[simp] def r43_2 : List HOp := [⟨(some 10), false, .mv (.env 0), none⟩,
      ⟨(some 11), false, .len 1 (.loc 10), none⟩,
      ⟨(some 12), false, .mv (.env 1), none⟩,
      ⟨(some 13), false, .len 1 (.loc 12), none⟩,
      ⟨(some 14), false, .bin .other .neq (.loc 11) (.loc 13), none⟩]
@[simp] def r43_3 : List HOp := [⟨(some 15), false, .mv (.env 0), none⟩,
        ⟨(some 16), false, .len 1 (.loc 15), none⟩,
        ⟨(some 17), false, .mv (.env 1), none⟩,
        ⟨(some 18), false, .len 1 (.loc 17), none⟩,
        ⟨(some 19), false, .bin .other .lss (.loc 16) (.loc 18), none⟩]
@[simp] def r43_4 : List HOp := [⟨(some 4), true, .mv (.val (.tr (.sc (.int .i64 (-1))))), none⟩]
@[simp] def r43_5 : List HOp := [⟨(some 4), true, .mv (.val (.tr (.sc (.int .i64 1)))), none⟩]
@[simp] def r43_6 : List HOp := [⟨(some 20), false, .mv (.env 0), none⟩,
      ⟨(some 21), false, .len 1 (.loc 20), none⟩,
      ⟨(some 22), false, .bin .other .sub (.loc 21) (.val (.tr (.sc (.int .i64 1)))), none⟩,
      ⟨(some 5), true, .mv (.loc 22), none⟩]
@[simp] def r43_7 : List HOp := [⟨(some 23), false, .mv (.env 5), none⟩,
         ⟨(some 24), false, .bin .other .geq (.loc 23) (.val (.tr (.sc (.int .i64 0)))), none⟩]
@[simp] def r43_8 : List HOp := [⟨(some 27), false, .mv (.env 0), none⟩,
          ⟨(some 28), false, .mv (.env 5), none⟩,
          ⟨(some 29), false, .iaddr 1 (.loc 27) (.loc 28), none⟩,
          ⟨(some 30), false, .load 1 false (.loc 29), none⟩,
          ⟨(some 31), false, .mv (.env 1), none⟩,
          ⟨(some 32), false, .mv (.env 5), none⟩,
          ⟨(some 33), false, .iaddr 1 (.loc 31) (.loc 32), none⟩,
          ⟨(some 34), false, .load 1 false (.loc 33), none⟩,
          ⟨(some 35), false, .bin .other .neq (.loc 30) (.loc 34), none⟩]
@[simp] def r43_9 : List HOp := [⟨(some 36), false, .mv (.env 0), none⟩,
            ⟨(some 37), false, .mv (.env 5), none⟩,
            ⟨(some 38), false, .iaddr 1 (.loc 36) (.loc 37), none⟩,
            ⟨(some 39), false, .load 1 false (.loc 38), none⟩,
            ⟨(some 40), false, .mv (.env 1), none⟩,
            ⟨(some 41), false, .mv (.env 5), none⟩,
            ⟨(some 42), false, .iaddr 1 (.loc 40) (.loc 41), none⟩,
            ⟨(some 43), false, .load 1 false (.loc 42), none⟩,
            ⟨(some 44), false, .bin .other .lss (.loc 39) (.loc 43), none⟩]
@[simp] def r43_10 : List HOp := [⟨(some 4), true, .mv (.val (.tr (.sc (.int .i64 (-1))))), none⟩]
@[simp] def r43_11 : List HOp := [⟨(some 4), true, .mv (.val (.tr (.sc (.int .i64 1)))), none⟩]
@[simp] def r43_12 : List HOp := [⟨(some 25), false, .mv (.env 5), none⟩,
       ⟨(some 26), false, .bin .other .sub (.loc 25) (.val (.tr (.sc (.int .i64 1)))), none⟩,
       ⟨(some 5), true, .mv (.loc 26), none⟩]
@[simp] def r43_13 : List HOp := [⟨(some 4), true, .mv (.val (.tr (.sc (.int .i64 0)))), none⟩]
@[simp] def k43_5 : HCode := .seq (.region r43_4 none) .ret
@[simp] def k43_4 : HCode := .cond (.loc 19) k43_5 .skip
def k43_6 : HCode := .seq (.region r43_5 none) .ret
@[simp] def k43_3 : HCode := .seq (.seq (.region r43_3 none) k43_4) k43_6
@[simp] def k43_2 : HCode := .cond (.loc 14) k43_3 .skip
@[simp] def k43_10 : HCode := .cond (.loc 24) .skip (.exit 0)
@[simp] def k43_15 : HCode := .seq (.region r43_10 none) .ret
@[simp] def k43_14 : HCode := .cond (.loc 44) k43_15 .skip
def k43_16 : HCode := .seq (.region r43_11 none) .ret
@[simp] def k43_13 : HCode := .seq (.seq (.region r43_9 (some [ ( 0, [ 0 ] ) , ( 0, [ 5 ] ) , ( 1, [ 36, 37 ] ) , ( 1, [ 38 ] ) , ( 0, [ 1 ] ) , ( 0, [ 5 ] ) , ( 1, [ 40, 41 ] ) , ( 1, [ 42 ] ) , ( 0, [ 39, 43 ] ) ])) k43_14) k43_16
@[simp] def k43_12 : HCode := .cond (.loc 35) k43_13 .skip
def k43_17 : HCode := .region r43_12 none
def k43_11 : HCode := .seq (.block 1 (.seq (.region r43_8 (some [ ( 0, [ 0 ] ) , ( 0, [ 5 ] ) , ( 1, [ 27, 28 ] ) , ( 1, [ 29 ] ) , ( 0, [ 1 ] ) , ( 0, [ 5 ] ) , ( 1, [ 31, 32 ] ) , ( 1, [ 33 ] ) , ( 0, [ 30, 34 ] ) ])) k43_12)) k43_17
def k43_9 : HCode := .seq (.seq (.region r43_7 none) k43_10) k43_11
@[simp] def k43_8 : HCode := .block 0 (.loop k43_9)
def k43_18 : HCode := .seq (.region r43_13 none) .ret
def k43_7 : HCode := .seq (.seq (.region r43_6 none) k43_8) k43_18
@[simp] def k43_1 : HCode := .seq (.seq (.region r43_2 none) k43_2) k43_7
@[simp] def k43_0 : HCode := .seq (.region r43_1 none) k43_1
@[simp] def fn43 : HFn := { nargs := 2, results := [.tmp 4], mode := .iso, code := (.seq (.region r43_0 none) k43_0) }
theorem c43 : cFn Try.prog (Hs 43) .iso 43 = some fn43 := by kernel_rfl
/- sterling/bigint.shrink -/
@[simp] def r54_0 : List HOp := [⟨(some 4), true, .mv (.val (.tr (.sc (.int .u32 0)))), none⟩]
@[simp] def r54_1 : List HOp := [⟨(some 5), true, .mv (.val (.tr (.sc (.int .u64 0)))), none⟩]
@[simp] def r54_2 : List HOp := [⟨(some 7), false, .mv (.env 0), none⟩,
      ⟨(some 8), false, .len 1 (.loc 7), none⟩,
      ⟨(some 9), false, .bin .other .sub (.loc 8) (.val (.tr (.sc (.int .i64 1)))), none⟩,
      ⟨(some 6), true, .mv (.loc 9), none⟩]
@[simp] def r54_3 : List HOp := [⟨(some 10), false, .mv (.env 6), none⟩,
         ⟨(some 11), false, .bin .other .geq (.loc 10) (.val (.tr (.sc (.int .i64 0)))), none⟩]
@[simp] def r54_4 : List HOp := [⟨(some 14), false, .mv (.env 5), none⟩,
          ⟨(some 15), false, .bin .other .shl (.loc 14) (.val (.tr (.sc (.int .u64 32)))), none⟩,
          ⟨(some 16), false, .mv (.env 0), none⟩,
          ⟨(some 17), false, .mv (.env 6), none⟩,
          ⟨(some 18), false, .iaddr 1 (.loc 16) (.loc 17), none⟩,
          ⟨(some 19), false, .load 1 false (.loc 18), none⟩,
          ⟨(some 20), false, .conv (.toInt .u64) (.loc 19), none⟩,
          ⟨(some 21), false, .bin .other .or (.loc 15) (.loc 20), none⟩,
          ⟨(some 5), true, .mv (.loc 21), none⟩]
@[simp] def r54_5 : List HOp := [⟨(some 22), false, .mv (.env 0), none⟩,
          ⟨(some 23), false, .mv (.env 6), none⟩,
          ⟨(some 24), false, .mv (.env 5), none⟩,
          ⟨(some 25), false, .mv (.env 1), none⟩,
          ⟨(some 26), false, .conv (.toInt .u64) (.loc 25), none⟩,
          ⟨(some 27), false, .bin .other .quo (.loc 24) (.loc 26), none⟩,
          ⟨(some 28), false, .conv (.toInt .u32) (.loc 27), none⟩,
          ⟨(some 29), false, .iaddr 1 (.loc 22) (.loc 23), none⟩,
          ⟨none, false, .store 1 (.loc 29) (.loc 28), none⟩]
@[simp] def r54_6 : List HOp := [⟨(some 30), false, .mv (.env 5), none⟩,
         ⟨(some 31), false, .mv (.env 1), none⟩,
         ⟨(some 32), false, .conv (.toInt .u64) (.loc 31), none⟩,
         ⟨(some 33), false, .bin .other .rem (.loc 30) (.loc 32), none⟩,
         ⟨(some 5), true, .mv (.loc 33), none⟩]
@[simp] def r54_7 : List HOp := [⟨(some 12), false, .mv (.env 6), none⟩,
       ⟨(some 13), false, .bin .other .sub (.loc 12) (.val (.tr (.sc (.int .i64 1)))), none⟩,
       ⟨(some 6), true, .mv (.loc 13), none⟩]
@[simp] def r54_8 : List HOp := [⟨(some 34), false, .mv (.env 5), none⟩,
     ⟨(some 35), false, .conv (.toInt .u32) (.loc 34), none⟩,
     ⟨(some 4), true, .mv (.loc 35), none⟩]
@[simp] def k54_4 : HCode := .cond (.loc 11) .skip (.exit 0)
@[simp] def k54_6 : HCode := .seq (.region r54_5 none) (.region r54_6 none)
def k54_5 : HCode := .seq (.block 1 (.seq (.region r54_4 none) k54_6)) (.region r54_7 none)
def k54_3 : HCode := .seq (.seq (.region r54_3 none) k54_4) k54_5
@[simp] def k54_2 : HCode := .block 0 (.loop k54_3)
def k54_7 : HCode := .seq (.region r54_8 none) .ret
@[simp] def k54_1 : HCode := .seq (.seq (.region r54_2 none) k54_2) k54_7
@[simp] def k54_0 : HCode := .seq (.region r54_1 none) k54_1
@[simp] def fn54 : HFn := { nargs := 2, results := [.tmp 4], mode := .shared, code := (.seq (.region r54_0 none) k54_0) }
theorem c54 : cFn Try.prog (Hs 54) .shared 54 = some fn54 := by kernel_rfl
/- sterling/bigint.divide -/
@[simp] def r55_0 : List HOp := [⟨(some 4), true, .mv (.val (.tr (.sc (.slice none 0 0)))), none⟩,
     ⟨(some 5), true, .mv (.val (.tr (.sc (.slice none 0 0)))), none⟩]
@[simp] def r55_1 : List HOp := [⟨(some 18), false, .mv (.env 1), none⟩,
     ⟨(some 19), false, .mv (.env 1), none⟩,
     ⟨(some 20), false, .len 1 (.loc 19), none⟩,
     ⟨(some 21), false, .bin .other .sub (.loc 20) (.val (.tr (.sc (.int .i64 1)))), none⟩,
     ⟨(some 22), false, .iaddr 1 (.loc 18) (.loc 21), none⟩,
     ⟨(some 23), false, .load 1 false (.loc 22), none⟩,
     ⟨(some 24), false, .callf 65 [(.loc 23)], none⟩,
     ⟨(some 6), true, .mv (.loc 24), none⟩]
@[simp] def r55_2 : List HOp := [⟨(some 25), false, .mv (.env 0), none⟩,
     ⟨(some 26), false, .mv (.env 6), none⟩,
     ⟨(some 27), false, .callf 66 [(.loc 25), (.loc 26)], none⟩,
     ⟨(some 28), false, .mv (.env 1), none⟩,
     ⟨(some 29), false, .mv (.env 6), none⟩,
     ⟨(some 30), false, .callf 66 [(.loc 28), (.loc 29)], none⟩,
     ⟨(some 31), false, .callf 48 [(.loc 30)], none⟩,
     ⟨(some 7), true, .mv (.loc 27), none⟩,
     ⟨(some 8), true, .mv (.loc 31), none⟩]
@[simp] def r55_3 : List HOp := [⟨(some 32), false, .mv (.env 8), none⟩,
     ⟨(some 33), false, .len 1 (.loc 32), none⟩,
     ⟨(some 9), true, .mv (.loc 33), none⟩]
@[simp] def r55_4 : List HOp := [⟨(some 34), false, .mv (.env 7), none⟩,
     ⟨(some 35), false, .len 1 (.loc 34), none⟩,
     ⟨(some 36), false, .mv (.env 9), none⟩,
     ⟨(some 37), false, .bin .other .sub (.loc 35) (.loc 36), none⟩,
     ⟨(some 38), false, .mkslice [(.sc (.int .u32 0))] 4 (.loc 37) (.loc 37), none⟩,
     ⟨(some 10), true, .mv (.loc 38), none⟩]
@[simp] def r55_5 : List HOp := [⟨(some 39), false, .mv (.env 10), none⟩,
      ⟨(some 40), false, .len 1 (.loc 39), none⟩,
      ⟨(some 41), false, .bin .other .sub (.loc 40) (.val (.tr (.sc (.int .i64 1)))), none⟩,
      ⟨(some 11), true, .mv (.loc 41), none⟩]
@[simp] def r55_6 : List HOp := [⟨(some 42), false, .mv (.env 11), none⟩,
         ⟨(some 43), false, .bin .other .geq (.loc 42) (.val (.tr (.sc (.int .i64 0)))), none⟩]
@[simp] def r55_7 : List HOp := [⟨(some 46), false, .mv (.env 7), none⟩,
          ⟨(some 47), false, .mv (.env 11), none⟩,
          ⟨(some 48), false, .mv (.env 9), none⟩,
          ⟨(some 49), false, .bin .other .add (.loc 47) (.loc 48), none⟩,
          ⟨(some 50), false, .iaddr 1 (.loc 46) (.loc 49), none⟩,
          ⟨(some 51), false, .load 1 false (.loc 50), none⟩,
          ⟨(some 52), false, .conv (.toInt .u64) (.loc 51), none⟩,
          ⟨(some 53), false, .bin .other .shl (.loc 52) (.val (.tr (.sc (.int .u64 32)))), none⟩,
          ⟨(some 54), false, .mv (.env 7), none⟩,
          ⟨(some 55), false, .mv (.env 11), none⟩,
          ⟨(some 56), false, .mv (.env 9), none⟩,
          ⟨(some 57), false, .bin .other .add (.loc 55) (.loc 56), none⟩,
          ⟨(some 58), false, .bin .other .sub (.loc 57) (.val (.tr (.sc (.int .i64 1)))), none⟩,
          ⟨(some 59), false, .iaddr 1 (.loc 54) (.loc 58), none⟩,
          ⟨(some 60), false, .load 1 false (.loc 59), none⟩,
          ⟨(some 61), false, .conv (.toInt .u64) (.loc 60), none⟩,
          ⟨(some 62), false, .bin .other .or (.loc 53) (.loc 61), none⟩,
          ⟨(some 12), true, .mv (.loc 62), none⟩]
@[simp] def r55_8 : List HOp := [⟨(some 63), false, .mv (.env 12), none⟩,
          ⟨(some 64), false, .mv (.env 8), none⟩,
          ⟨(some 65), false, .mv (.env 9), none⟩,
          ⟨(some 66), false, .bin .other .sub (.loc 65) (.val (.tr (.sc (.int .i64 1)))), none⟩,
          ⟨(some 67), false, .iaddr 1 (.loc 64) (.loc 66), none⟩,
          ⟨(some 68), false, .load 1 false (.loc 67), none⟩,
          ⟨(some 69), false, .conv (.toInt .u64) (.loc 68), none⟩,
          ⟨(some 70), false, .bin .other .quo (.loc 63) (.loc 69), none⟩,
          ⟨(some 71), false, .minmax false (.loc 70) [(.val (.tr (.sc (.int .u64 4294967295))))], none⟩,
          ⟨(some 13), true, .mv (.loc 71), none⟩]
@[simp] def r55_9 : List HOp := [⟨(some 72), false, .mv (.env 7), none⟩,
          ⟨(some 73), false, .mv (.env 11), none⟩,
          ⟨(some 74), false, .mv (.env 11), none⟩,
          ⟨(some 75), false, .mv (.env 9), none⟩,
          ⟨(some 76), false, .bin .other .add (.loc 74) (.loc 75), none⟩,
          ⟨(some 77), false, .bin .other .add (.loc 76) (.val (.tr (.sc (.int .i64 1)))), none⟩,
          ⟨(some 78), false, .slice 1 (.loc 72) (some (.loc 73)) (some (.loc 77)) none, none⟩,
          ⟨(some 14), true, .mv (.loc 78), none⟩]
@[simp] def r55_10 : List HOp := [⟨(some 79), false, .mv (.env 14), none⟩,
           ⟨(some 80), false, .mv (.env 8), none⟩,
           ⟨(some 81), false, .mv (.env 13), none⟩,
           ⟨(some 82), false, .callf 67 [(.loc 79), (.loc 80), (.loc 81)], none⟩,
           ⟨(some 15), true, .mv (.loc 82), none⟩]
@[simp] def r55_11 : List HOp := [⟨(some 83), false, .mv (.env 15), none⟩]
@[simp] def r55_12 : List HOp := [⟨(some 88), false, .mv (.env 13), none⟩,
              ⟨(some 89), false, .bin .other .sub (.loc 88) (.val (.tr (.sc (.int .u64 1)))), none⟩,
              ⟨(some 13), true, .mv (.loc 89), none⟩]
@[simp] def r55_13 : List HOp := [⟨(some 84), false, .mv (.env 14), none⟩,
            ⟨(some 85), false, .mv (.env 8), none⟩,
            ⟨(some 86), false, .callf 68 [(.loc 84), (.loc 85)], none⟩,
            ⟨(some 87), false, .un .not (.loc 86), none⟩,
            ⟨(some 15), true, .mv (.loc 87), none⟩]
@[simp] def r55_14 : List HOp := [⟨(some 90), false, .mv (.env 10), none⟩,
         ⟨(some 91), false, .mv (.env 11), none⟩,
         ⟨(some 92), false, .mv (.env 13), none⟩,
         ⟨(some 93), false, .conv (.toInt .u32) (.loc 92), none⟩,
         ⟨(some 94), false, .iaddr 1 (.loc 90) (.loc 91), none⟩,
         ⟨none, false, .store 1 (.loc 94) (.loc 93), none⟩]
@[simp] def r55_15 : List HOp := [⟨(some 44), false, .mv (.env 11), none⟩,
       ⟨(some 45), false, .bin .other .sub (.loc 44) (.val (.tr (.sc (.int .i64 1)))), none⟩,
       ⟨(some 11), true, .mv (.loc 45), none⟩]
@[simp] def r55_16 : List HOp := [⟨(some 95), false, .mv (.env 9), none⟩,
     ⟨(some 96), false, .mkslice [(.sc (.int .u32 0))] 4 (.loc 95) (.loc 95), none⟩,
     ⟨(some 16), true, .mv (.loc 96), none⟩]
@[simp] def r55_17 : List HOp := [⟨(some 97), true, .mv (.env 9), none⟩,
      ⟨(some 98), true, .mv (.val (.tr (.sc (.int .i64 0)))), none⟩]
@[simp] def r55_18 : List HOp := [⟨(some 99), false, .bin .other .lss (.env 98) (.env 97), none⟩]
@[simp] def r55_19 : List HOp := [⟨(some 100), false, .mv (.env 98), none⟩,
          ⟨(some 17), true, .mv (.loc 100), none⟩]
@[simp] def r55_20 : List HOp := [⟨(some 101), false, .mv (.env 16), none⟩,
         ⟨(some 102), false, .mv (.env 17), none⟩,
         ⟨(some 103), false, .mv (.env 7), none⟩,
         ⟨(some 104), false, .mv (.env 17), none⟩,
         ⟨(some 105), false, .bin .other .add (.loc 104) (.val (.tr (.sc (.int .i64 1)))), none⟩,
         ⟨(some 106), false, .iaddr 1 (.loc 103) (.loc 105), none⟩,
         ⟨(some 107), false, .load 1 false (.loc 106), none⟩,
         ⟨(some 108), false, .conv (.toInt .u64) (.loc 107), none⟩,
         ⟨(some 109), false, .bin .other .shl (.loc 108) (.val (.tr (.sc (.int .u64 32)))), none⟩,
         ⟨(some 110), false, .mv (.env 7), none⟩,
         ⟨(some 111), false, .mv (.env 17), none⟩,
         ⟨(some 112), false, .iaddr 1 (.loc 110) (.loc 111), none⟩,
         ⟨(some 113), false, .load 1 false (.loc 112), none⟩,
         ⟨(some 114), false, .conv (.toInt .u64) (.loc 113), none⟩,
         ⟨(some 115), false, .bin .other .or (.loc 109) (.loc 114), none⟩,
         ⟨(some 116), false, .mv (.env 6), none⟩,
         ⟨(some 117), false, .bin .other .shr (.loc 115) (.loc 116), none⟩,
         ⟨(some 118), false, .conv (.toInt .u32) (.loc 117), none⟩,
         ⟨(some 119), false, .iaddr 1 (.loc 101) (.loc 102), none⟩,
         ⟨none, false, .store 1 (.loc 119) (.loc 118), none⟩]
@[simp] def r55_21 : List HOp := [⟨(some 120), false, .bin .other .add (.env 98) (.val (.tr (.sc (.int .i64 1)))), none⟩,
       ⟨(some 98), true, .mv (.loc 120), none⟩]
@[simp] def r55_22 : List HOp := [⟨(some 121), false, .mv (.env 10), none⟩,
     ⟨(some 122), false, .mv (.env 16), none⟩,
     ⟨(some 4), true, .mv (.loc 121), none⟩,
     ⟨(some 5), true, .mv (.loc 122), none⟩]
@[simp] def k55_7 : HCode := .cond (.loc 43) .skip (.exit 0)
@[simp] def k55_14 : HCode := .cond (.loc 83) .skip (.exit 2)
def k55_15 : HCode := .seq (.block 3 (.region r55_12 none)) (.region r55_13 none)
def k55_13 : HCode := .seq (.seq (.region r55_11 none) k55_14) k55_15
@[simp] def k55_12 : HCode := .block 2 (.loop k55_13)
def k55_16 : HCode := .region r55_14 none
@[simp] def k55_11 : HCode := .seq (.seq (.region r55_10 none) k55_12) k55_16
@[simp] def k55_10 : HCode := .seq (.region r55_9 none) k55_11
@[simp] def k55_9 : HCode := .seq (.region r55_8 none) k55_10
def k55_17 : HCode := .region r55_15 none
def k55_8 : HCode := .seq (.block 1 (.seq (.region r55_7 (some [ ( 0, [ 7 ] ) , ( 0, [ 11 ] ) , ( 0, [ 9 ] ) , ( 0, [ 47, 48 ] ) , ( 1, [ 46, 49 ] ) , ( 1, [ 50 ] ) , ( 0, [ 51 ] ) , ( 0, [ 52 ] ) , ( 0, [ 7 ] ) , ( 0, [ 11 ] ) , ( 0, [ 9 ] ) , ( 0, [ 55, 56 ] ) , ( 0, [ 57 ] ) , ( 1, [ 54, 58 ] ) , ( 1, [ 59 ] ) , ( 0, [ 60 ] ) , ( 0, [ 53, 61 ] ) , ( 0, [ 62 ] ) ])) k55_9)) k55_17
def k55_6 : HCode := .seq (.seq (.region r55_6 none) k55_7) k55_8
@[simp] def k55_5 : HCode := .block 0 (.loop k55_6)
def k55_23 : HCode := .seq (.block 5 (.seq (.region r55_19 none) (.region r55_20 (some [ ( 0, [ 16 ] ) , ( 0, [ 17 ] ) , ( 0, [ 7 ] ) , ( 0, [ 17 ] ) , ( 0, [ 104 ] ) , ( 1, [ 103, 105 ] ) , ( 1, [ 106 ] ) , ( 0, [ 107 ] ) , ( 0, [ 108 ] ) , ( 0, [ 7 ] ) , ( 0, [ 17 ] ) , ( 1, [ 110, 111 ] ) , ( 1, [ 112 ] ) , ( 0, [ 113 ] ) , ( 0, [ 109, 114 ] ) , ( 0, [ 6 ] ) , ( 0, [ 115, 116 ] ) , ( 0, [ 117 ] ) , ( 2, [ 101, 102 ] ) , ( 2, [ 119, 118 ] ) ])))) (.region r55_21 none)
@[simp] def k55_22 : HCode := .seq (.cond (.loc 99) .skip (.exit 4)) k55_23
def k55_21 : HCode := .seq (.region r55_18 none) k55_22
@[simp] def k55_20 : HCode := .block 4 (.loop k55_21)
def k55_24 : HCode := .seq (.region r55_22 none) .ret
@[simp] def k55_19 : HCode := .seq (.seq (.region r55_17 none) k55_20) k55_24
def k55_18 : HCode := .seq (.region r55_16 none) k55_19
@[simp] def k55_4 : HCode := .seq (.seq (.region r55_5 none) k55_5) k55_18
@[simp] def k55_3 : HCode := .seq (.region r55_4 none) k55_4
@[simp] def k55_2 : HCode := .seq (.region r55_3 none) k55_3
@[simp] def k55_1 : HCode := .seq (.region r55_2 none) k55_2
@[simp] def k55_0 : HCode := .seq (.region r55_1 none) k55_1
@[simp] def fn55 : HFn := { nargs := 2, results := [.tmp 4, .tmp 5], mode := .iso, code := (.seq (.region r55_0 none) k55_0) }
theorem c55 : cFn Try.prog (Hs 55) .iso 55 = some fn55 := by kernel_rfl
/- math/bits.LeadingZeros32 -/
@[simp] def r65_0 : List HOp := [⟨(some 2), true, .mv (.val (.tr (.sc (.int .i64 0)))), none⟩]
@[simp] def r65_1 : List HOp := [⟨(some 3), false, .mv (.env 0), none⟩,
     ⟨(some 4), false, .callf 51 [(.loc 3)], none⟩,
     ⟨(some 5), false, .bin .other .sub (.val (.tr (.sc (.int .i64 32)))) (.loc 4), none⟩,
     ⟨(some 2), true, .mv (.loc 5), none⟩]
@[simp] def k65_0 : HCode := .seq (.region r65_1 none) .ret
@[simp] def fn65 : HFn := { nargs := 1, results := [.tmp 2], mode := .iso, code := (.seq (.region r65_0 none) k65_0) }
theorem c65 : cFn Try.prog (Hs 65) .iso 65 = some fn65 := by kernel_rfl
/- math/bits.Len32 -/
@[simp] def r51_0 : List HOp := [⟨(some 2), true, .mv (.val (.tr (.sc (.int .i64 0)))), none⟩]
@[simp] def r51_1 : List HOp := [⟨(some 3), false, .mv (.env 0), none⟩,
      ⟨(some 4), false, .bin .other .geq (.loc 3) (.val (.tr (.sc (.int .u32 65536)))), none⟩]
@[simp] def r51_2 : List HOp := [⟨(some 5), false, .mv (.env 0), none⟩,
       ⟨(some 6), false, .bin .other .shr (.loc 5) (.val (.tr (.sc (.int .u64 16)))), none⟩,
       ⟨(some 0), true, .mv (.loc 6), none⟩]
@[simp] def r51_3 : List HOp := [⟨(some 2), true, .mv (.val (.tr (.sc (.int .i64 16)))), none⟩]
@[simp] def r51_4 : List HOp := [⟨(some 7), false, .mv (.env 0), none⟩,
      ⟨(some 8), false, .bin .other .geq (.loc 7) (.val (.tr (.sc (.int .u32 256)))), none⟩]
@[simp] def r51_5 : List HOp := [⟨(some 9), false, .mv (.env 0), none⟩,
       ⟨(some 10), false, .bin .other .shr (.loc 9) (.val (.tr (.sc (.int .u64 8)))), none⟩,
       ⟨(some 0), true, .mv (.loc 10), none⟩]
@[simp] def r51_6 : List HOp := [⟨(some 11), false, .mv (.env 2), none⟩,
      ⟨(some 12), false, .bin .other .add (.loc 11) (.val (.tr (.sc (.int .i64 8)))), none⟩,
      ⟨(some 2), true, .mv (.loc 12), none⟩]
@[simp] def r51_7 : List HOp := [⟨(some 13), false, .mv (.env 2), none⟩,
     ⟨(some 14), false, .mv (.env 0), none⟩,
     ⟨(some 15), false, .conv (.toInt .u8) (.loc 14), none⟩,
     ⟨(some 16), false, .istr (.val (.tr (.sc (.string ⟨⟨[0, 1, 2, 2, 3, 3, 3, 3, 4, 4, 4, 4, 4, 4, 4, 4, 5, 5, 5, 5, 5, 5, 5, 5, 5, 5, 5, 5, 5, 5, 5, 5, 6, 6, 6, 6, 6, 6, 6, 6, 6, 6, 6, 6, 6, 6, 6, 6, 6, 6, 6, 6, 6, 6, 6, 6, 6, 6, 6, 6, 6, 6, 6, 6, 7, 7, 7, 7, 7, 7, 7, 7, 7, 7, 7, 7, 7, 7, 7, 7, 7, 7, 7, 7, 7, 7, 7, 7, 7, 7, 7, 7, 7, 7, 7, 7, 7, 7, 7, 7, 7, 7, 7, 7, 7, 7, 7, 7, 7, 7, 7, 7, 7, 7, 7, 7, 7, 7, 7, 7, 7, 7, 7, 7, 7, 7, 7, 7, 8, 8, 8, 8, 8, 8, 8, 8, 8, 8, 8, 8, 8, 8, 8, 8, 8, 8, 8, 8, 8, 8, 8, 8, 8, 8, 8, 8, 8, 8, 8, 8, 8, 8, 8, 8, 8, 8, 8, 8, 8, 8, 8, 8, 8, 8, 8, 8, 8, 8, 8, 8, 8, 8, 8, 8, 8, 8, 8, 8, 8, 8, 8, 8, 8, 8, 8, 8, 8, 8, 8, 8, 8, 8, 8, 8, 8, 8, 8, 8, 8, 8, 8, 8, 8, 8, 8, 8, 8, 8, 8, 8, 8, 8, 8, 8, 8, 8, 8, 8, 8, 8, 8, 8, 8, 8, 8, 8, 8, 8, 8, 8, 8, 8, 8, 8, 8, 8, 8, 8, 8, 8, 8, 8, 8, 8, 8, 8]⟩⟩)))) (.loc 15), none⟩,
     ⟨(some 17), false, .conv (.toInt .i64) (.loc 16), none⟩,
     ⟨(some 18), false, .bin .other .add (.loc 13) (.loc 17), none⟩,
     ⟨(some 2), true, .mv (.loc 18), none⟩]
@[simp] def k51_2 : HCode := .seq (.region r51_2 none) (.region r51_3 none)
@[simp] def k51_1 : HCode := .cond (.loc 4) k51_2 .skip
@[simp] def k51_5 : HCode := .seq (.region r51_5 none) (.region r51_6 none)
@[simp] def k51_4 : HCode := .cond (.loc 8) k51_5 .skip
def k51_6 : HCode := .seq (.region r51_7 none) .ret
def k51_3 : HCode := .seq (.seq (.region r51_4 none) k51_4) k51_6
@[simp] def k51_0 : HCode := .seq (.seq (.region r51_1 none) k51_1) k51_3
@[simp] def fn51 : HFn := { nargs := 1, results := [.tmp 2], mode := .iso, code := (.seq (.region r51_0 none) k51_0) }
theorem c51 : cFn Try.prog (Hs 51) .iso 51 = some fn51 := by kernel_rfl
/- sterling/bigint.shifted -/
@[simp] def r66_0 : List HOp := [⟨(some 4), true, .mv (.val (.tr (.sc (.slice none 0 0)))), none⟩]
@[simp] def r66_1 : List HOp := [⟨(some 8), false, .mv (.env 0), none⟩,
     ⟨(some 9), false, .len 1 (.loc 8), none⟩,
     ⟨(some 10), false, .bin .other .add (.loc 9) (.val (.tr (.sc (.int .i64 1)))), none⟩,
     ⟨(some 11), false, .mkslice [(.sc (.int .u32 0))] 4 (.loc 10) (.loc 10), none⟩,
     ⟨(some 5), true, .mv (.loc 11), none⟩]
@[simp] def r66_2 : List HOp := [⟨(some 12), true, .mv (.env 0), none⟩,
      ⟨(some 13), true, .len 1 (.env 12), none⟩,
      ⟨(some 14), true, .mv (.val (.tr (.sc (.int .i64 0)))), none⟩]
@[simp] def r66_3 : List HOp := [⟨(some 15), false, .bin .other .lss (.env 14) (.env 13), none⟩]
@[simp] def r66_4 : List HOp := [⟨(some 16), false, .mv (.env 14), none⟩,
          ⟨(some 17), false, .iaddr 1 (.env 12) (.env 14), none⟩,
          ⟨(some 18), false, .load 1 false (.loc 17), none⟩,
          ⟨(some 6), true, .mv (.loc 16), none⟩,
          ⟨(some 7), true, .mv (.loc 18), none⟩]
@[simp] def r66_5 : List HOp := [⟨(some 19), false, .mv (.env 5), none⟩,
          ⟨(some 20), false, .mv (.env 6), none⟩,
          ⟨(some 21), false, .iaddr 1 (.loc 19) (.loc 20), none⟩,
          ⟨(some 22), false, .load 1 false (.loc 21), none⟩,
          ⟨(some 23), false, .mv (.env 7), none⟩,
          ⟨(some 24), false, .mv (.env 1), none⟩,
          ⟨(some 25), false, .bin .other .shl (.loc 23) (.loc 24), none⟩,
          ⟨(some 26), false, .bin .other .or (.loc 22) (.loc 25), none⟩,
          ⟨(some 27), false, .iaddr 1 (.loc 19) (.loc 20), none⟩,
          ⟨none, false, .store 1 (.loc 27) (.loc 26), none⟩]
@[simp] def r66_6 : List HOp := [⟨(some 28), false, .mv (.env 5), none⟩,
         ⟨(some 29), false, .mv (.env 6), none⟩,
         ⟨(some 30), false, .bin .other .add (.loc 29) (.val (.tr (.sc (.int .i64 1)))), none⟩,
         ⟨(some 31), false, .mv (.env 7), none⟩,
         ⟨(some 32), false, .conv (.toInt .u64) (.loc 31), none⟩,
         ⟨(some 33), false, .mv (.env 1), none⟩,
         ⟨(some 34), false, .bin .other .shl (.loc 32) (.loc 33), none⟩,
         ⟨(some 35), false, .bin .other .shr (.loc 34) (.val (.tr (.sc (.int .u64 32)))), none⟩,
         ⟨(some 36), false, .conv (.toInt .u32) (.loc 35), none⟩,
         ⟨(some 37), false, .iaddr 1 (.loc 28) (.loc 30), none⟩,
         ⟨none, false, .store 1 (.loc 37) (.loc 36), none⟩]
@[simp] def r66_7 : List HOp := [⟨(some 38), false, .bin .other .add (.env 14) (.val (.tr (.sc (.int .i64 1)))), none⟩,
       ⟨(some 14), true, .mv (.loc 38), none⟩]
@[simp] def r66_8 : List HOp := [⟨(some 39), false, .mv (.env 5), none⟩,
     ⟨(some 4), true, .mv (.loc 39), none⟩]
@[simp] def k66_6 : HCode := .seq (.region r66_5 (some [ ( 0, [ 5 ] ) , ( 0, [ 6 ] ) , ( 2, [ 19, 20 ] ) , ( 2, [ 21 ] ) , ( 0, [ 7 ] ) , ( 0, [ 1 ] ) , ( 0, [ 23, 24 ] ) , ( 0, [ 22, 25 ] ) , ( 2, [ 19, 20 ] ) , ( 2, [ 27, 26 ] ) ])) (.region r66_6 none)
def k66_5 : HCode := .seq (.block 1 (.seq (.region r66_4 none) k66_6)) (.region r66_7 none)
@[simp] def k66_4 : HCode := .seq (.cond (.loc 15) .skip (.exit 0)) k66_5
def k66_3 : HCode := .seq (.region r66_3 none) k66_4
@[simp] def k66_2 : HCode := .block 0 (.loop k66_3)
def k66_7 : HCode := .seq (.region r66_8 none) .ret
@[simp] def k66_1 : HCode := .seq (.seq (.region r66_2 none) k66_2) k66_7
@[simp] def k66_0 : HCode := .seq (.region r66_1 none) k66_1
@[simp] def fn66 : HFn := { nargs := 2, results := [.tmp 4], mode := .shared, code := (.seq (.region r66_0 none) k66_0) }
theorem c66 : cFn Try.prog (Hs 66) .shared 66 = some fn66 := by kernel_rfl
/- sterling/bigint.takes -/
@[simp] def r67_0 : List HOp := [⟨(some 6), true, .mv (.val (.tr (.sc (.bool false)))), none⟩]
@[simp] def r67_1 : List HOp := [⟨(some 7), true, .mv (.val (.tr (.sc (.int .u64 0)))), none⟩,
     ⟨(some 8), true, .mv (.val (.tr (.sc (.int .i64 0)))), none⟩]
@[simp] def r67_2 : List HOp := [⟨(some 10), false, .mv (.env 0), none⟩,
      ⟨(some 11), true, .len 1 (.loc 10), none⟩,
      ⟨(some 12), true, .mv (.val (.tr (.sc (.int .i64 0)))), none⟩]
@[simp] def r67_3 : List HOp := [⟨(some 13), false, .bin .other .lss (.env 12) (.env 11), none⟩]
@[simp] def r67_4 : List HOp := [⟨(some 14), false, .mv (.env 12), none⟩,
          ⟨(some 9), true, .mv (.loc 14), none⟩]
@[simp] def r67_5 : List HOp := [⟨(some 15), false, .mv (.env 9), none⟩,
           ⟨(some 16), false, .mv (.env 1), none⟩,
           ⟨(some 17), false, .len 1 (.loc 16), none⟩,
           ⟨(some 18), false, .bin .other .lss (.loc 15) (.loc 17), none⟩]
@[simp] def r67_6 : List HOp := [⟨(some 19), false, .mv (.env 7), none⟩,
           ⟨(some 20), false, .mv (.env 2), none⟩,
           ⟨(some 21), false, .mv (.env 1), none⟩,
           ⟨(some 22), false, .mv (.env 9), none⟩,
           ⟨(some 23), false, .iaddr 1 (.loc 21) (.loc 22), none⟩,
           ⟨(some 24), false, .load 1 false (.loc 23), none⟩,
           ⟨(some 25), false, .conv (.toInt .u64) (.loc 24), none⟩,
           ⟨(some 26), false, .bin .other .mul (.loc 20) (.loc 25), none⟩,
           ⟨(some 27), false, .bin .other .add (.loc 19) (.loc 26), none⟩,
           ⟨(some 7), true, .mv (.loc 27), none⟩]
@[simp] def r67_7 : List HOp := [⟨(some 28), false, .mv (.env 8), none⟩,
          ⟨(some 29), false, .mv (.env 0), none⟩,
          ⟨(some 30), false, .mv (.env 9), none⟩,
          ⟨(some 31), false, .iaddr 1 (.loc 29) (.loc 30), none⟩,
          ⟨(some 32), false, .load 1 false (.loc 31), none⟩,
          ⟨(some 33), false, .conv (.toInt .i64) (.loc 32), none⟩,
          ⟨(some 34), false, .mv (.env 7), none⟩,
          ⟨(some 35), false, .conv (.toInt .u32) (.loc 34), none⟩,
          ⟨(some 36), false, .conv (.toInt .i64) (.loc 35), none⟩,
          ⟨(some 37), false, .bin .other .sub (.loc 33) (.loc 36), none⟩,
          ⟨(some 38), false, .bin .other .add (.loc 28) (.loc 37), none⟩,
          ⟨(some 8), true, .mv (.loc 38), none⟩]
@[simp] def r67_8 : List HOp := [⟨(some 39), false, .mv (.env 0), none⟩,
          ⟨(some 40), false, .mv (.env 9), none⟩,
          ⟨(some 41), false, .mv (.env 8), none⟩,
          ⟨(some 42), false, .conv (.toInt .u32) (.loc 41), none⟩,
          ⟨(some 43), false, .iaddr 1 (.loc 39) (.loc 40), none⟩,
          ⟨none, false, .store 1 (.loc 43) (.loc 42), none⟩]
@[simp] def r67_9 : List HOp := [⟨(some 44), false, .mv (.env 8), none⟩,
          ⟨(some 45), false, .bin .other .shr (.loc 44) (.val (.tr (.sc (.int .u64 32)))), none⟩,
          ⟨(some 8), true, .mv (.loc 45), none⟩]
@[simp] def r67_10 : List HOp := [⟨(some 46), false, .mv (.env 7), none⟩,
         ⟨(some 47), false, .bin .other .shr (.loc 46) (.val (.tr (.sc (.int .u64 32)))), none⟩,
         ⟨(some 7), true, .mv (.loc 47), none⟩]
@[simp] def r67_11 : List HOp := [⟨(some 48), false, .bin .other .add (.env 12) (.val (.tr (.sc (.int .i64 1)))), none⟩,
       ⟨(some 12), true, .mv (.loc 48), none⟩]
@[simp] def r67_12 : List HOp := [⟨(some 49), false, .mv (.env 8), none⟩,
     ⟨(some 50), false, .bin .other .lss (.loc 49) (.val (.tr (.sc (.int .i64 0)))), none⟩,
     ⟨(some 6), true, .mv (.loc 50), none⟩]
@[simp] def k67_7 : HCode := .cond (.loc 18) (.region r67_6 none) .skip
@[simp] def k67_10 : HCode := .seq (.region r67_9 none) (.region r67_10 none)
@[simp] def k67_9 : HCode := .seq (.region r67_8 none) k67_10
def k67_8 : HCode := .seq (.region r67_7 none) k67_9
@[simp] def k67_6 : HCode := .seq (.seq (.region r67_5 none) k67_7) k67_8
def k67_11 : HCode := .region r67_11 none
def k67_5 : HCode := .seq (.block 1 (.seq (.region r67_4 none) k67_6)) k67_11
@[simp] def k67_4 : HCode := .seq (.cond (.loc 13) .skip (.exit 0)) k67_5
def k67_3 : HCode := .seq (.region r67_3 none) k67_4
@[simp] def k67_2 : HCode := .block 0 (.loop k67_3)
def k67_12 : HCode := .seq (.region r67_12 none) .ret
@[simp] def k67_1 : HCode := .seq (.seq (.region r67_2 none) k67_2) k67_12
@[simp] def k67_0 : HCode := .seq (.region r67_1 none) k67_1
@[simp] def fn67 : HFn := { nargs := 3, results := [.tmp 6], mode := .shared, code := (.seq (.region r67_0 none) k67_0) }
theorem c67 : cFn Try.prog (Hs 67) .shared 67 = some fn67 := by kernel_rfl
end Go.Proofs.Ytjacddclpcelmaa.AM.Br
