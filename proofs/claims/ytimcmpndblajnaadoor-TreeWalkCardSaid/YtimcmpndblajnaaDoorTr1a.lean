/- The functions that TreeWalk reaches, each checked against the translation, part one. -/
import Derived.Test.YtimcmpndblajnaaDoorAm3
import Derived.Test.YtimcmpndblajnaaDoorProg
import Derived.KernelRfl
set_option maxRecDepth 1000000
set_option linter.unusedVariables false
set_option linter.unusedSimpArgs false
namespace Go.Proofs.YtimcmpndblajnaaDoor.AM.Tr
open Go.Proofs
/-- What was chosen for each function. -/
def Hq (f : Nat) : List Nat :=  []
def Hb (f : Nat) : List Nat := if Nat.beq f 16 then [6] else if Nat.beq f 8 then [2] else if Nat.beq f 19 then [4] else if Nat.beq f 11 then [1] else if Nat.beq f 13 then [1] else if Nat.beq f 15 then [2, 3] else if Nat.beq f 17 then [1] else if Nat.beq f 25 then [2] else if Nat.beq f 26 then [1] else if Nat.beq f 28 then [2] else if Nat.beq f 21 then [1] else if Nat.beq f 29 then [1] else if Nat.beq f 31 then [4] else if Nat.beq f 33 then [2] else if Nat.beq f 22 then [1] else if Nat.beq f 32 then [1] else if Nat.beq f 23 then [1] else if Nat.beq f 35 then [3] else if Nat.beq f 6 then [1] else if Nat.beq f 18 then [3] else if Nat.beq f 7 then [4] else if Nat.beq f 12 then [1] else if Nat.beq f 9 then [9] else if Nat.beq f 10 then [2, 3] else if Nat.beq f 14 then [1] else []
def Hl (f : Nat) : List Nat := if Nat.beq f 15 then [34, 39] else if Nat.beq f 21 then [7, 12, 30, 35, 57, 58, 85, 87] else if Nat.beq f 29 then [3, 9] else if Nat.beq f 22 then [14, 16, 19, 25, 27, 30, 36, 38, 43, 59, 61, 65, 70, 77, 79, 85, 90, 93, 99, 103] else if Nat.beq f 23 then [12, 15, 20, 24, 37, 40, 44, 48, 52, 55, 63, 66, 73, 78, 84, 87, 90, 104, 109, 116, 118] else if Nat.beq f 18 then [41] else if Nat.beq f 7 then [19, 49] else if Nat.beq f 9 then [35] else if Nat.beq f 10 then [35, 40] else []
def Ho (f d : Nat) : Bool :=  false
def Hs (f : Nat) : Hints := { own := fun d => Ho f d, qa := fun d => memN d (Hq f), tu := fun _ => true, bt := fun d => memN d (Hb f), ld := fun d => memN d (Hl f) }
/-- Functions by what they answer: how many arguments, which. -/
def Te (f : Nat) : Option (Nat × Nat) :=  none
/- sterling/sterlinglaw6.TreeWalk -/
@[simp] def r3_0 : List HOp := [⟨(some 2), true, .box false (.env 0), none⟩,
     ⟨(some 3), true, .box false (.env 1), none⟩,
     ⟨(some 4), true, .mv (.val (.tr (.sc (.bool false)))), none⟩]
@[simp] def r3_1 : List HOp := [⟨(some 10), false, .callf 5 [], none⟩,
     ⟨(some 5), true, .mv (.loc 10), none⟩]
@[simp] def r3_2 : List HOp := [⟨(some 11), false, .load 4 true (.env 2), none⟩,
     ⟨(some 12), false, .callf 6 [(.loc 11)], none⟩,
     ⟨none, false, .store 4 (.env 2) (.loc 12), none⟩]
@[simp] def r3_3 : List HOp := [⟨(some 13), false, .load 1 false (.env 3), none⟩,
      ⟨(some 14), false, .len 1 (.loc 13), none⟩,
      ⟨(some 15), false, .bin .other .gtr (.loc 14) (.val (.tr (.sc (.int .i64 6)))), none⟩]
@[simp] def r3_4 : List HOp := [⟨(some 16), false, .load 1 false (.env 3), none⟩,
      ⟨(some 17), false, .slice 1 (.loc 16) none (some (.val (.tr (.sc (.int .i64 6))))) none, none⟩,
      ⟨none, false, .store 1 (.env 3) (.loc 17), none⟩]
@[simp] def r3_5 : List HOp := [⟨(some 6), true, .alloc [(.sc (.int .i64 0))], none⟩,
     ⟨none, false, .store 1 (.env 6) (.val (.tr (.sc (.int .i64 0)))), none⟩]
@[simp] def r3_6 : List HOp := [⟨(some 18), false, .load 4 true (.env 2), none⟩,
     ⟨(some 19), false, .load 1 false (.env 3), none⟩,
     ⟨(some 20), false, .callf 7 [(.loc 18), (.val (.tr (.sc (.int .i64 0)))), (.env 6), (.loc 19)], none⟩,
     ⟨(some 7), true, .alloc [(.sc (.slice none 0 0))], none⟩,
     ⟨none, false, .store 1 (.env 7) (.loc 20), none⟩]
@[simp] def r3_7 : List HOp := [⟨(some 8), true, .alloc [(.sc (.int .i64 0))], none⟩,
     ⟨none, false, .store 1 (.env 8) (.val (.tr (.sc (.int .i64 0)))), none⟩]
@[simp] def r3_8 : List HOp := [⟨(some 9), true, .alloc [(.sc (.bool false))], none⟩,
     ⟨none, false, .store 1 (.env 9) (.val (.tr (.sc (.bool true)))), none⟩]
@[simp] def r3_9 : List HOp := [⟨(some 21), false, .load 4 true (.env 2), none⟩,
     ⟨(some 22), false, .mkfn (.func 9) [] [(.env 8), (.env 7), (.env 9), (.env 3)], none⟩,
     ⟨(some 23), false, .callf 8 [(.loc 21), (.loc 22)], none⟩]
@[simp] def r3_10 : List HOp := [⟨(some 24), false, .load 4 true (.env 2), none⟩,
     ⟨(some 25), false, .callf 8 [(.loc 24), (.val (.tr (.sc .nilFunc)))], none⟩]
@[simp] def r3_11 : List HOp := [⟨(some 26), false, .mv (.env 5), none⟩,
     ⟨(some 27), false, .mv (.loc 26), none⟩,
     ⟨(some 28), false, .load 1 false (.env 9), some ((.loc 27), true)⟩,
     ⟨(some 29), false, .pick (.loc 27) (.loc 28) (.val (.tr (.sc (.bool false)))), none⟩,
     ⟨(some 30), false, .mv (.loc 29), none⟩,
     ⟨(some 31), false, .load 1 false (.env 8), some ((.loc 30), true)⟩,
     ⟨(some 32), false, .load 1 false (.env 7), some ((.loc 30), true)⟩,
     ⟨(some 33), false, .len 1 (.loc 32), some ((.loc 30), true)⟩,
     ⟨(some 34), false, .bin .other .eql (.loc 31) (.loc 33), some ((.loc 30), true)⟩,
     ⟨(some 35), false, .pick (.loc 30) (.loc 34) (.val (.tr (.sc (.bool false)))), none⟩,
     ⟨(some 36), false, .mv (.loc 35), none⟩,
     ⟨(some 37), false, .load 4 true (.env 2), some ((.loc 36), true)⟩,
     ⟨(some 38), false, .callf 11 [(.loc 37)], some ((.loc 36), true)⟩,
     ⟨(some 39), false, .load 4 true (.env 2), some ((.loc 36), true)⟩,
     ⟨(some 40), false, .callf 12 [(.loc 39)], some ((.loc 36), true)⟩,
     ⟨(some 41), false, .bin .other .eql (.loc 38) (.loc 40), some ((.loc 36), true)⟩,
     ⟨(some 42), false, .pick (.loc 36) (.loc 41) (.val (.tr (.sc (.bool false)))), none⟩,
     ⟨(some 43), false, .mv (.loc 42), none⟩,
     ⟨(some 44), false, .load 4 true (.env 2), some ((.loc 43), true)⟩,
     ⟨(some 45), false, .callf 13 [(.loc 44)], some ((.loc 43), true)⟩,
     ⟨(some 46), false, .load 4 true (.env 2), some ((.loc 43), true)⟩,
     ⟨(some 47), false, .callf 14 [(.loc 46)], some ((.loc 43), true)⟩,
     ⟨(some 48), false, .bin .other .eql (.loc 45) (.loc 47), some ((.loc 43), true)⟩,
     ⟨(some 49), false, .pick (.loc 43) (.loc 48) (.val (.tr (.sc (.bool false)))), none⟩,
     ⟨(some 4), true, .mv (.loc 49), none⟩]
@[simp] def k3_3 : HCode := .cond (.loc 15) (.region r3_4 none) .skip
@[simp] def k3_10 : HCode := .seq (.region r3_11 (some [ ( 0, [ 5 ] ) , ( 0, [ 26 ] ) , ( 2, [ 9, 27 ] ) , ( 0, [ 27, 28 ] ) , ( 0, [ 29 ] ) , ( 1, [ 8, 30 ] ) , ( 1, [ 7, 30 ] ) , ( 0, [ 32, 30 ] ) , ( 0, [ 31, 33, 30 ] ) , ( 0, [ 30, 34 ] ) , ( 0, [ 35 ] ) , ( 1, [ 2, 36 ] ) , ( 1, [ 37, 36 ] ) , ( 1, [ 2, 36 ] ) , ( 2, [ 39, 36 ] ) , ( 0, [ 38, 40, 36 ] ) , ( 0, [ 36, 41 ] ) , ( 0, [ 42 ] ) , ( 1, [ 2, 43 ] ) , ( 1, [ 44, 43 ] ) , ( 1, [ 2, 43 ] ) , ( 2, [ 46, 43 ] ) , ( 0, [ 45, 47, 43 ] ) , ( 0, [ 43, 48 ] ) , ( 0, [ 49 ] ) ])) .ret
@[simp] def k3_9 : HCode := .seq (.region r3_10 none) k3_10
@[simp] def k3_8 : HCode := .seq (.region r3_9 none) k3_9
@[simp] def k3_7 : HCode := .seq (.region r3_8 none) k3_8
@[simp] def k3_6 : HCode := .seq (.region r3_7 none) k3_7
@[simp] def k3_5 : HCode := .seq (.region r3_6 none) k3_6
def k3_4 : HCode := .seq (.region r3_5 none) k3_5
@[simp] def k3_2 : HCode := .seq (.seq (.region r3_3 none) k3_3) k3_4
@[simp] def k3_1 : HCode := .seq (.region r3_2 none) k3_2
@[simp] def k3_0 : HCode := .seq (.region r3_1 none) k3_1
@[simp] def fn3 : HFn := { nargs := 2, results := [.tmp 4], mode := .shared, code := (.seq (.region r3_0 none) k3_0) }
theorem c3 : cFn Tryd.prog (Hs 3) .shared 3 = some fn3 := by kernel_rfl
/- sterling/sterlinglaw6.begun -/
@[simp] def r5_0 : List HOp := [⟨(some 0), true, .mv (.val (.tr (.sc (.bool false)))), none⟩]
@[simp] def r5_1 : List HOp := [⟨(some 3), false, .build [(.sc (.int .i64 0)), (.sc (.int .i64 0)), (.sc (.string ⟨⟨[]⟩⟩)), (.sc (.slice none 0 0))] [(0, 1, (.val (.tr (.sc (.int .i64 1))))), (2, 1, (.val (.tr (.sc (.string ⟨⟨[97]⟩⟩)))))], none⟩,
     ⟨(some 4), false, .build [(.sc (.int .i64 0)), (.sc (.int .i64 0)), (.sc (.string ⟨⟨[]⟩⟩)), (.sc (.slice none 0 0))] [(0, 1, (.val (.tr (.sc (.int .i64 8))))), (2, 1, (.val (.tr (.sc (.string ⟨⟨[49]⟩⟩)))))], none⟩,
     ⟨(some 5), false, .bslice false 2 4 [(.sc (.int .i64 0)), (.sc (.int .i64 0)), (.sc (.string ⟨⟨[]⟩⟩)), (.sc (.slice none 0 0))] [(0, 4, (.loc 3)), (4, 4, (.loc 4))], none⟩,
     ⟨(some 6), false, .build [(.sc (.int .i64 0)), (.sc (.int .i64 0)), (.sc (.string ⟨⟨[]⟩⟩)), (.sc (.slice none 0 0))] [(0, 1, (.val (.tr (.sc (.int .i64 6))))), (2, 1, (.val (.tr (.sc (.string ⟨⟨[43]⟩⟩))))), (3, 1, (.loc 5))], none⟩,
     ⟨(some 1), true, .alloc [(.sc (.int .i64 0)), (.sc (.int .i64 0)), (.sc (.string ⟨⟨[]⟩⟩)), (.sc (.slice none 0 0))], none⟩,
     ⟨none, false, .store 4 (.env 1) (.loc 6), none⟩]
@[simp] def r5_2 : List HOp := [⟨(some 2), true, .alloc [(.sc (.int .i64 0))], none⟩,
     ⟨none, false, .store 1 (.env 2) (.val (.tr (.sc (.int .i64 0)))), none⟩]
@[simp] def r5_3 : List HOp := [⟨(some 7), false, .load 4 true (.env 1), none⟩,
     ⟨(some 8), false, .mkfn (.func 16) [] [(.env 2)], none⟩,
     ⟨(some 9), false, .callf 8 [(.loc 7), (.loc 8)], none⟩]
@[simp] def r5_4 : List HOp := [⟨(some 10), false, .load 1 false (.env 2), none⟩,
     ⟨(some 11), false, .bin .other .eql (.loc 10) (.val (.tr (.sc (.int .i64 32)))), none⟩,
     ⟨(some 12), false, .mv (.loc 11), none⟩,
     ⟨(some 13), false, .load 4 true (.env 1), some ((.loc 12), true)⟩,
     ⟨(some 14), false, .callf 11 [(.loc 13)], some ((.loc 12), true)⟩,
     ⟨(some 15), false, .bin .other .eql (.loc 14) (.val (.tr (.sc (.int .i64 3)))), some ((.loc 12), true)⟩,
     ⟨(some 16), false, .pick (.loc 12) (.loc 15) (.val (.tr (.sc (.bool false)))), none⟩,
     ⟨(some 17), false, .mv (.loc 16), none⟩,
     ⟨(some 18), false, .load 4 true (.env 1), some ((.loc 17), true)⟩,
     ⟨(some 19), false, .callf 13 [(.loc 18)], some ((.loc 17), true)⟩,
     ⟨(some 20), false, .bin .other .eql (.loc 19) (.val (.tr (.sc (.int .i64 2)))), some ((.loc 17), true)⟩,
     ⟨(some 21), false, .pick (.loc 17) (.loc 20) (.val (.tr (.sc (.bool false)))), none⟩,
     ⟨(some 22), false, .mv (.loc 21), none⟩,
     ⟨(some 23), false, .load 4 true (.env 1), some ((.loc 22), true)⟩,
     ⟨(some 24), false, .load 4 true (.env 1), some ((.loc 22), true)⟩,
     ⟨(some 25), false, .callf 15 [(.loc 23), (.loc 24)], some ((.loc 22), true)⟩,
     ⟨(some 26), false, .pick (.loc 22) (.loc 25) (.val (.tr (.sc (.bool false)))), none⟩,
     ⟨(some 27), false, .mv (.loc 26), none⟩,
     ⟨(some 28), false, .load 4 true (.env 1), some ((.loc 27), true)⟩,
     ⟨(some 29), false, .callf 17 [(.loc 28)], some ((.loc 27), true)⟩,
     ⟨(some 30), false, .len 0 (.loc 29), some ((.loc 27), true)⟩,
     ⟨(some 31), false, .bin .other .geq (.loc 30) (.val (.tr (.sc (.int .i64 3)))), some ((.loc 27), true)⟩,
     ⟨(some 32), false, .pick (.loc 27) (.loc 31) (.val (.tr (.sc (.bool false)))), none⟩,
     ⟨(some 0), true, .mv (.loc 32), none⟩]
@[simp] def k5_3 : HCode := .seq (.region r5_4 none) .ret
@[simp] def k5_2 : HCode := .seq (.region r5_3 none) k5_3
@[simp] def k5_1 : HCode := .seq (.region r5_2 none) k5_2
@[simp] def k5_0 : HCode := .seq (.region r5_1 none) k5_1
@[simp] def fn5 : HFn := { nargs := 0, results := [.tmp 0], mode := .iso, code := (.seq (.region r5_0 none) k5_0) }
theorem c5 : cFn Tryd.prog (Hs 5) .iso 5 = some fn5 := by kernel_rfl
/- sterling/sterlinglaw6.begun$1 -/
@[simp] def r16_0 : List HOp := [⟨(some 6), false, .box true (.env 2), none⟩,
     ⟨(some 7), true, .mv (.val (.tr (.sc (.bool false)))), none⟩]
@[simp] def r16_1 : List HOp := [⟨(some 8), false, .load 1 false (.env 3), none⟩,
     ⟨(some 9), false, .mv (.env 0), none⟩,
     ⟨(some 10), false, .bin .other .mul (.val (.tr (.sc (.int .i64 10)))) (.loc 9), none⟩,
     ⟨(some 11), false, .mv (.env 1), none⟩,
     ⟨(some 12), false, .bin .other .add (.loc 10) (.loc 11), none⟩,
     ⟨(some 13), false, .bin .other .add (.loc 8) (.loc 12), none⟩,
     ⟨none, false, .store 1 (.env 3) (.loc 13), none⟩]
@[simp] def r16_2 : List HOp := [⟨(some 7), true, .mv (.val (.tr (.sc (.bool true)))), none⟩]
@[simp] def k16_1 : HCode := .seq (.region r16_2 none) .ret
@[simp] def k16_0 : HCode := .seq (.region r16_1 none) k16_1
@[simp] def fn16 : HFn := { nargs := 4, results := [.tmp 7], mode := .shared, code := (.seq (.region r16_0 none) k16_0) }
theorem c16 : cFn Tryd.prog (Hs 16) .shared 16 = some fn16 := by kernel_rfl
/- sterling/syntax.Walk -/
@[simp] def r8_0 : List HOp := [⟨(some 2), true, .box true (.env 0), none⟩]
@[simp] def r8_1 : List HOp := [⟨(some 4), false, .mv (.env 1), none⟩,
     ⟨(some 5), false, .bin .func .neq (.loc 4) (.val (.tr (.sc .nilFunc))), none⟩]
@[simp] def r8_2 : List HOp := [⟨(some 6), false, .load 4 true (.env 2), none⟩,
     ⟨(some 7), false, .mv (.env 1), none⟩,
     ⟨(some 8), false, .callf 19 [(.loc 6), (.val (.tr (.sc (.int .i64 0)))), (.val (.tr (.sc (.int .i64 0)))), (.loc 7)], none⟩]
@[simp] def k8_1 : HCode := .cond (.loc 5) (.region r8_2 none) .skip
@[simp] def k8_0 : HCode := .seq (.region r8_1 none) k8_1
@[simp] def fn8 : HFn := { nargs := 2, results := [], mode := .shared, code := (.seq (.region r8_0 none) k8_0) }
theorem c8 : cFn Tryd.prog (Hs 8) .shared 8 = some fn8 := by kernel_rfl
/- sterling/syntax.walk -/
@[simp] def r19_0 : List HOp := [⟨(some 4), true, .box true (.env 0), none⟩,
     ⟨(some 8), true, .mv (.val (.tr (.sc (.int .i64 0)))), none⟩]
@[simp] def r19_1 : List HOp := [⟨(some 11), false, .mv (.env 3), none⟩,
      ⟨(some 12), false, .mv (.env 1), none⟩,
      ⟨(some 13), false, .mv (.env 2), none⟩,
      ⟨(some 14), false, .load 4 true (.env 4), none⟩,
      ⟨(some 15), false, .callv (.loc 11) [(.loc 12), (.loc 13), (.loc 14)], none⟩,
      ⟨(some 16), false, .un .not (.loc 15), none⟩]
@[simp] def r19_2 : List HOp := [⟨(some 17), false, .mv (.env 1), none⟩,
       ⟨(some 18), false, .load 4 true (.env 4), none⟩,
       ⟨(some 19), false, .callf 11 [(.loc 18)], none⟩,
       ⟨(some 20), false, .bin .other .add (.loc 17) (.loc 19), none⟩,
       ⟨(some 8), true, .mv (.loc 20), none⟩]
@[simp] def r19_3 : List HOp := [⟨(some 21), false, .mv (.env 1), none⟩,
     ⟨(some 22), false, .bin .other .add (.loc 21) (.val (.tr (.sc (.int .i64 1)))), none⟩,
     ⟨(some 1), true, .mv (.loc 22), none⟩]
@[simp] def r19_4 : List HOp := [⟨(some 23), false, .faddr 3 (.env 4), none⟩,
      ⟨(some 24), true, .load 1 false (.loc 23), none⟩,
      ⟨(some 25), true, .len 1 (.env 24), none⟩,
      ⟨(some 26), true, .mv (.val (.tr (.sc (.int .i64 0)))), none⟩]
@[simp] def r19_5 : List HOp := [⟨(some 27), false, .bin .other .lss (.env 26) (.env 25), none⟩]
@[simp] def r19_6 : List HOp := [⟨(some 28), false, .iaddr 4 (.env 24) (.env 26), none⟩,
          ⟨(some 29), false, .load 4 true (.loc 28), none⟩,
          ⟨(some 10), true, .alloc [(.sc (.int .i64 0)), (.sc (.int .i64 0)), (.sc (.string ⟨⟨[]⟩⟩)), (.sc (.slice none 0 0))], none⟩,
          ⟨none, false, .store 4 (.env 10) (.loc 29), none⟩]
@[simp] def r19_7 : List HOp := [⟨(some 30), false, .load 4 true (.env 10), none⟩,
         ⟨(some 31), false, .mv (.env 1), none⟩,
         ⟨(some 32), false, .mv (.env 2), none⟩,
         ⟨(some 33), false, .bin .other .add (.loc 32) (.val (.tr (.sc (.int .i64 1)))), none⟩,
         ⟨(some 34), false, .mv (.env 3), none⟩,
         ⟨(some 35), false, .callf 19 [(.loc 30), (.loc 31), (.loc 33), (.loc 34)], none⟩,
         ⟨(some 1), true, .mv (.loc 35), none⟩]
@[simp] def r19_8 : List HOp := [⟨(some 36), false, .bin .other .add (.env 26) (.val (.tr (.sc (.int .i64 1)))), none⟩,
       ⟨(some 26), true, .mv (.loc 36), none⟩]
@[simp] def r19_9 : List HOp := [⟨(some 37), false, .mv (.env 1), none⟩,
     ⟨(some 8), true, .mv (.loc 37), none⟩]
@[simp] def k19_2 : HCode := .seq (.region r19_2 none) .ret
@[simp] def k19_1 : HCode := .cond (.loc 16) k19_2 .skip
def k19_8 : HCode := .seq (.block 1 (.seq (.region r19_6 none) (.region r19_7 none))) (.region r19_8 none)
@[simp] def k19_7 : HCode := .seq (.cond (.loc 27) .skip (.exit 0)) k19_8
def k19_6 : HCode := .seq (.region r19_5 none) k19_7
@[simp] def k19_5 : HCode := .block 0 (.loop k19_6)
def k19_9 : HCode := .seq (.region r19_9 none) .ret
@[simp] def k19_4 : HCode := .seq (.seq (.region r19_4 none) k19_5) k19_9
def k19_3 : HCode := .seq (.region r19_3 none) k19_4
@[simp] def k19_0 : HCode := .seq (.seq (.region r19_1 none) k19_1) k19_3
@[simp] def fn19 : HFn := { nargs := 4, results := [.tmp 8], mode := .shared, code := (.seq (.region r19_0 none) k19_0) }
theorem c19 : cFn Tryd.prog (Hs 19) .shared 19 = some fn19 := by kernel_rfl
/- sterling/syntax.Count -/
@[simp] def r11_0 : List HOp := [⟨(some 1), true, .box true (.env 0), none⟩,
     ⟨(some 2), true, .mv (.val (.tr (.sc (.int .i64 0)))), none⟩]
@[simp] def r11_1 : List HOp := [⟨(some 3), true, .mv (.val (.tr (.sc (.int .i64 1)))), none⟩]
@[simp] def r11_2 : List HOp := [⟨(some 6), false, .faddr 3 (.env 1), none⟩,
      ⟨(some 7), true, .load 1 false (.loc 6), none⟩,
      ⟨(some 8), true, .len 1 (.env 7), none⟩,
      ⟨(some 9), true, .mv (.val (.tr (.sc (.int .i64 0)))), none⟩]
@[simp] def r11_3 : List HOp := [⟨(some 10), false, .bin .other .lss (.env 9) (.env 8), none⟩]
@[simp] def r11_4 : List HOp := [⟨(some 11), false, .iaddr 4 (.env 7) (.env 9), none⟩,
          ⟨(some 12), false, .load 4 true (.loc 11), none⟩,
          ⟨(some 5), true, .alloc [(.sc (.int .i64 0)), (.sc (.int .i64 0)), (.sc (.string ⟨⟨[]⟩⟩)), (.sc (.slice none 0 0))], none⟩,
          ⟨none, false, .store 4 (.env 5) (.loc 12), none⟩]
@[simp] def r11_5 : List HOp := [⟨(some 13), false, .mv (.env 3), none⟩,
         ⟨(some 14), false, .load 4 true (.env 5), none⟩,
         ⟨(some 15), false, .callf 11 [(.loc 14)], none⟩,
         ⟨(some 16), false, .bin .other .add (.loc 13) (.loc 15), none⟩,
         ⟨(some 3), true, .mv (.loc 16), none⟩]
@[simp] def r11_6 : List HOp := [⟨(some 17), false, .bin .other .add (.env 9) (.val (.tr (.sc (.int .i64 1)))), none⟩,
       ⟨(some 9), true, .mv (.loc 17), none⟩]
@[simp] def r11_7 : List HOp := [⟨(some 18), false, .mv (.env 3), none⟩,
     ⟨(some 2), true, .mv (.loc 18), none⟩]
def k11_5 : HCode := .seq (.block 1 (.seq (.region r11_4 none) (.region r11_5 none))) (.region r11_6 none)
@[simp] def k11_4 : HCode := .seq (.cond (.loc 10) .skip (.exit 0)) k11_5
def k11_3 : HCode := .seq (.region r11_3 none) k11_4
@[simp] def k11_2 : HCode := .block 0 (.loop k11_3)
def k11_6 : HCode := .seq (.region r11_7 none) .ret
@[simp] def k11_1 : HCode := .seq (.seq (.region r11_2 none) k11_2) k11_6
@[simp] def k11_0 : HCode := .seq (.region r11_1 none) k11_1
@[simp] def fn11 : HFn := { nargs := 1, results := [.tmp 2], mode := .iso, code := (.seq (.region r11_0 none) k11_0) }
theorem c11 : cFn Tryd.prog (Hs 11) .iso 11 = some fn11 := by kernel_rfl
/- sterling/syntax.Depth -/
@[simp] def r13_0 : List HOp := [⟨(some 1), true, .box true (.env 0), none⟩,
     ⟨(some 2), true, .mv (.val (.tr (.sc (.int .i64 0)))), none⟩]
@[simp] def r13_1 : List HOp := [⟨(some 3), true, .mv (.val (.tr (.sc (.int .i64 0)))), none⟩]
@[simp] def r13_2 : List HOp := [⟨(some 6), false, .faddr 3 (.env 1), none⟩,
      ⟨(some 7), true, .load 1 false (.loc 6), none⟩,
      ⟨(some 8), true, .len 1 (.env 7), none⟩,
      ⟨(some 9), true, .mv (.val (.tr (.sc (.int .i64 0)))), none⟩]
@[simp] def r13_3 : List HOp := [⟨(some 10), false, .bin .other .lss (.env 9) (.env 8), none⟩]
@[simp] def r13_4 : List HOp := [⟨(some 11), false, .iaddr 4 (.env 7) (.env 9), none⟩,
          ⟨(some 12), false, .load 4 true (.loc 11), none⟩,
          ⟨(some 5), true, .alloc [(.sc (.int .i64 0)), (.sc (.int .i64 0)), (.sc (.string ⟨⟨[]⟩⟩)), (.sc (.slice none 0 0))], none⟩,
          ⟨none, false, .store 4 (.env 5) (.loc 12), none⟩]
@[simp] def r13_5 : List HOp := [⟨(some 13), false, .mv (.env 3), none⟩,
         ⟨(some 14), false, .load 4 true (.env 5), none⟩,
         ⟨(some 15), false, .callf 13 [(.loc 14)], none⟩,
         ⟨(some 16), false, .minmax true (.loc 13) [(.loc 15)], none⟩,
         ⟨(some 3), true, .mv (.loc 16), none⟩]
@[simp] def r13_6 : List HOp := [⟨(some 17), false, .bin .other .add (.env 9) (.val (.tr (.sc (.int .i64 1)))), none⟩,
       ⟨(some 9), true, .mv (.loc 17), none⟩]
@[simp] def r13_7 : List HOp := [⟨(some 18), false, .mv (.env 3), none⟩,
     ⟨(some 19), false, .bin .other .add (.loc 18) (.val (.tr (.sc (.int .i64 1)))), none⟩,
     ⟨(some 2), true, .mv (.loc 19), none⟩]
def k13_5 : HCode := .seq (.block 1 (.seq (.region r13_4 none) (.region r13_5 none))) (.region r13_6 none)
@[simp] def k13_4 : HCode := .seq (.cond (.loc 10) .skip (.exit 0)) k13_5
def k13_3 : HCode := .seq (.region r13_3 none) k13_4
@[simp] def k13_2 : HCode := .block 0 (.loop k13_3)
def k13_6 : HCode := .seq (.region r13_7 none) .ret
@[simp] def k13_1 : HCode := .seq (.seq (.region r13_2 none) k13_2) k13_6
@[simp] def k13_0 : HCode := .seq (.region r13_1 none) k13_1
@[simp] def fn13 : HFn := { nargs := 1, results := [.tmp 2], mode := .iso, code := (.seq (.region r13_0 none) k13_0) }
theorem c13 : cFn Tryd.prog (Hs 13) .iso 13 = some fn13 := by kernel_rfl
/- sterling/syntax.Eq -/
@[simp] def r15_0 : List HOp := [⟨(some 2), true, .box true (.env 0), none⟩,
     ⟨(some 3), true, .box true (.env 1), none⟩,
     ⟨(some 4), true, .mv (.val (.tr (.sc (.bool false)))), none⟩]
@[simp] def r15_1 : List HOp := [⟨(some 6), false, .faddr 0 (.env 2), none⟩,
      ⟨(some 7), false, .load 1 false (.loc 6), none⟩,
      ⟨(some 8), false, .faddr 0 (.env 3), none⟩,
      ⟨(some 9), false, .load 1 false (.loc 8), none⟩,
      ⟨(some 10), false, .bin .other .neq (.loc 7) (.loc 9), none⟩,
      ⟨(some 11), false, .mv (.loc 10), none⟩,
      ⟨(some 12), false, .faddr 2 (.env 2), some ((.loc 11), false)⟩,
      ⟨(some 13), false, .load 1 false (.loc 12), some ((.loc 11), false)⟩,
      ⟨(some 14), false, .faddr 2 (.env 3), some ((.loc 11), false)⟩,
      ⟨(some 15), false, .load 1 false (.loc 14), some ((.loc 11), false)⟩,
      ⟨(some 16), false, .bin .other .neq (.loc 13) (.loc 15), some ((.loc 11), false)⟩,
      ⟨(some 17), false, .pick (.loc 11) (.val (.tr (.sc (.bool true)))) (.loc 16), none⟩,
      ⟨(some 18), false, .mv (.loc 17), none⟩,
      ⟨(some 19), false, .faddr 3 (.env 2), some ((.loc 18), false)⟩,
      ⟨(some 20), false, .load 1 false (.loc 19), some ((.loc 18), false)⟩,
      ⟨(some 21), false, .len 1 (.loc 20), some ((.loc 18), false)⟩,
      ⟨(some 22), false, .faddr 3 (.env 3), some ((.loc 18), false)⟩,
      ⟨(some 23), false, .load 1 false (.loc 22), some ((.loc 18), false)⟩,
      ⟨(some 24), false, .len 1 (.loc 23), some ((.loc 18), false)⟩,
      ⟨(some 25), false, .bin .other .neq (.loc 21) (.loc 24), some ((.loc 18), false)⟩,
      ⟨(some 26), false, .pick (.loc 18) (.val (.tr (.sc (.bool true)))) (.loc 25), none⟩]
@[simp] def r15_2 : List HOp := [⟨(some 4), true, .mv (.val (.tr (.sc (.bool false)))), none⟩]
@[simp] def r15_3 : List HOp := [⟨(some 27), false, .faddr 3 (.env 2), none⟩,
      ⟨(some 28), false, .load 1 false (.loc 27), none⟩,
      ⟨(some 29), true, .len 1 (.loc 28), none⟩,
      ⟨(some 30), true, .mv (.val (.tr (.sc (.int .i64 0)))), none⟩]
@[simp] def r15_4 : List HOp := [⟨(some 31), false, .bin .other .lss (.env 30) (.env 29), none⟩]
@[simp] def r15_5 : List HOp := [⟨(some 32), false, .mv (.env 30), none⟩,
          ⟨(some 5), true, .mv (.loc 32), none⟩]
@[simp] def r15_6 : List HOp := [⟨(some 33), false, .faddr 3 (.env 2), none⟩,
          ⟨(some 34), false, .ldt 1 false (.loc 33), none⟩,
          ⟨(some 35), false, .mv (.env 5), none⟩,
          ⟨(some 36), false, .iaddr 4 (.loc 34) (.loc 35), none⟩,
          ⟨(some 37), false, .load 4 true (.loc 36), none⟩,
          ⟨(some 38), false, .faddr 3 (.env 3), none⟩,
          ⟨(some 39), false, .ldt 1 false (.loc 38), none⟩,
          ⟨(some 40), false, .mv (.env 5), none⟩,
          ⟨(some 41), false, .iaddr 4 (.loc 39) (.loc 40), none⟩,
          ⟨(some 42), false, .load 4 true (.loc 41), none⟩,
          ⟨(some 43), false, .callf 15 [(.loc 37), (.loc 42)], none⟩,
          ⟨(some 44), false, .un .not (.loc 43), none⟩]
@[simp] def r15_7 : List HOp := [⟨(some 4), true, .mv (.val (.tr (.sc (.bool false)))), none⟩]
@[simp] def r15_8 : List HOp := [⟨(some 45), false, .bin .other .add (.env 30) (.val (.tr (.sc (.int .i64 1)))), none⟩,
       ⟨(some 30), true, .mv (.loc 45), none⟩]
@[simp] def r15_9 : List HOp := [⟨(some 4), true, .mv (.val (.tr (.sc (.bool true)))), none⟩]
@[simp] def k15_2 : HCode := .seq (.region r15_2 none) .ret
@[simp] def k15_1 : HCode := .cond (.loc 26) k15_2 .skip
@[simp] def k15_10 : HCode := .seq (.region r15_7 none) .ret
@[simp] def k15_9 : HCode := .cond (.loc 44) k15_10 .skip
@[simp] def k15_8 : HCode := .seq (.region r15_6 (some [ ( 0, [ 2 ] ) , ( 0, [ 33 ] ) , ( 0, [ 5 ] ) , ( 1, [ 34, 35 ] ) , ( 1, [ 36 ] ) , ( 0, [ 3 ] ) , ( 0, [ 38 ] ) , ( 0, [ 5 ] ) , ( 1, [ 39, 40 ] ) , ( 1, [ 41 ] ) , ( 2, [ 37, 42 ] ) , ( 0, [ 43 ] ) ])) k15_9
def k15_11 : HCode := .region r15_8 none
def k15_7 : HCode := .seq (.block 1 (.seq (.region r15_5 none) k15_8)) k15_11
@[simp] def k15_6 : HCode := .seq (.cond (.loc 31) .skip (.exit 0)) k15_7
def k15_5 : HCode := .seq (.region r15_4 none) k15_6
@[simp] def k15_4 : HCode := .block 0 (.loop k15_5)
def k15_12 : HCode := .seq (.region r15_9 none) .ret
def k15_3 : HCode := .seq (.seq (.region r15_3 none) k15_4) k15_12
@[simp] def k15_0 : HCode := .seq (.seq (.region r15_1 none) k15_1) k15_3
@[simp] def fn15 : HFn := { nargs := 2, results := [.tmp 4], mode := .iso, code := (.seq (.region r15_0 none) k15_0) }
theorem c15 : cFn Tryd.prog (Hs 15) .iso 15 = some fn15 := by kernel_rfl
/- sterling/syntax.Print -/
@[simp] def r17_0 : List HOp := [⟨(some 1), true, .box true (.env 0), none⟩,
     ⟨(some 2), true, .mv (.val (.tr (.sc (.string ⟨⟨[]⟩⟩)))), none⟩]
@[simp] def r17_1 : List HOp := [⟨(some 4), false, .faddr 0 (.env 1), none⟩,
       ⟨(some 5), false, .load 1 false (.loc 4), none⟩,
       ⟨(some 6), false, .bin .other .leq (.loc 5) (.val (.tr (.sc (.int .i64 14)))), none⟩,
       ⟨(some 3), false, .mv (.loc 6), none⟩]
@[simp] def r17_2 : List HOp := [⟨(some 7), false, .load 4 true (.env 1), none⟩,
        ⟨(some 8), false, .callf 20 [(.loc 7)], none⟩,
        ⟨(some 2), true, .mv (.loc 8), none⟩]
@[simp] def r17_3 : List HOp := [⟨(some 10), false, .faddr 0 (.env 1), none⟩,
        ⟨(some 11), false, .load 1 false (.loc 10), none⟩,
        ⟨(some 12), false, .bin .other .leq (.loc 11) (.val (.tr (.sc (.int .i64 27)))), none⟩,
        ⟨(some 9), false, .mv (.loc 12), none⟩]
@[simp] def r17_4 : List HOp := [⟨(some 13), false, .load 4 true (.env 1), none⟩,
         ⟨(some 14), false, .callf 21 [(.loc 13)], none⟩,
         ⟨(some 2), true, .mv (.loc 14), none⟩]
@[simp] def r17_5 : List HOp := [⟨(some 16), false, .faddr 0 (.env 1), none⟩,
         ⟨(some 17), false, .load 1 false (.loc 16), none⟩,
         ⟨(some 18), false, .bin .other .leq (.loc 17) (.val (.tr (.sc (.int .i64 36)))), none⟩,
         ⟨(some 19), false, .mv (.loc 18), none⟩,
         ⟨(some 20), false, .faddr 0 (.env 1), some ((.loc 19), false)⟩,
         ⟨(some 21), false, .load 1 false (.loc 20), some ((.loc 19), false)⟩,
         ⟨(some 22), false, .bin .other .eql (.loc 21) (.val (.tr (.sc (.int .i64 43)))), some ((.loc 19), false)⟩,
         ⟨(some 23), false, .pick (.loc 19) (.val (.tr (.sc (.bool true)))) (.loc 22), none⟩,
         ⟨(some 24), false, .mv (.loc 23), none⟩,
         ⟨(some 25), false, .faddr 0 (.env 1), some ((.loc 24), false)⟩,
         ⟨(some 26), false, .load 1 false (.loc 25), some ((.loc 24), false)⟩,
         ⟨(some 27), false, .bin .other .eql (.loc 26) (.val (.tr (.sc (.int .i64 44)))), some ((.loc 24), false)⟩,
         ⟨(some 28), false, .pick (.loc 24) (.val (.tr (.sc (.bool true)))) (.loc 27), none⟩,
         ⟨(some 29), false, .mv (.loc 28), none⟩,
         ⟨(some 30), false, .faddr 0 (.env 1), some ((.loc 29), false)⟩,
         ⟨(some 31), false, .load 1 false (.loc 30), some ((.loc 29), false)⟩,
         ⟨(some 32), false, .bin .other .eql (.loc 31) (.val (.tr (.sc (.int .i64 45)))), some ((.loc 29), false)⟩,
         ⟨(some 33), false, .pick (.loc 29) (.val (.tr (.sc (.bool true)))) (.loc 32), none⟩,
         ⟨(some 34), false, .mv (.loc 33), none⟩,
         ⟨(some 35), false, .faddr 0 (.env 1), some ((.loc 34), false)⟩,
         ⟨(some 36), false, .load 1 false (.loc 35), some ((.loc 34), false)⟩,
         ⟨(some 37), false, .bin .other .eql (.loc 36) (.val (.tr (.sc (.int .i64 47)))), some ((.loc 34), false)⟩,
         ⟨(some 38), false, .pick (.loc 34) (.val (.tr (.sc (.bool true)))) (.loc 37), none⟩,
         ⟨(some 15), false, .mv (.loc 38), none⟩]
@[simp] def r17_6 : List HOp := [⟨(some 39), false, .load 4 true (.env 1), none⟩,
          ⟨(some 40), false, .callf 22 [(.loc 39)], none⟩,
          ⟨(some 2), true, .mv (.loc 40), none⟩]
@[simp] def r17_7 : List HOp := [⟨(some 41), false, .load 4 true (.env 1), none⟩,
     ⟨(some 42), false, .callf 23 [(.loc 41)], none⟩,
     ⟨(some 2), true, .mv (.loc 42), none⟩]
@[simp] def k17_2 : HCode := .seq (.region r17_2 none) .ret
@[simp] def k17_5 : HCode := .seq (.region r17_4 none) .ret
@[simp] def k17_8 : HCode := .seq (.region r17_6 none) .ret
@[simp] def k17_7 : HCode := .cond (.loc 15) k17_8 .skip
@[simp] def k17_6 : HCode := .seq (.region r17_5 none) k17_7
@[simp] def k17_4 : HCode := .cond (.loc 9) k17_5 k17_6
@[simp] def k17_3 : HCode := .seq (.region r17_3 none) k17_4
@[simp] def k17_1 : HCode := .cond (.loc 3) k17_2 k17_3
def k17_9 : HCode := .seq (.region r17_7 none) .ret
@[simp] def k17_0 : HCode := .seq (.block 0 (.seq (.region r17_1 none) k17_1)) k17_9
@[simp] def fn17 : HFn := { nargs := 1, results := [.tmp 2], mode := .iso, code := (.seq (.region r17_0 none) k17_0) }
theorem c17 : cFn Tryd.prog (Hs 17) .iso 17 = some fn17 := by kernel_rfl
/- sterling/syntax.expr -/
@[simp] def r20_0 : List HOp := [⟨(some 1), true, .box false (.env 0), none⟩,
     ⟨(some 2), true, .mv (.val (.tr (.sc (.string ⟨⟨[]⟩⟩)))), none⟩]
@[simp] def r20_1 : List HOp := [⟨(some 5), false, .mkfn (.func 24) [] [(.env 1)], none⟩,
     ⟨(some 3), true, .mv (.loc 5), none⟩]
@[simp] def r20_2 : List HOp := [⟨(some 6), false, .faddr 0 (.env 1), none⟩,
      ⟨(some 7), true, .load 1 false (.loc 6), none⟩]
@[simp] def r20_3 : List HOp := [⟨(some 9), false, .bin .other .eql (.env 7) (.val (.tr (.sc (.int .i64 1)))), none⟩,
        ⟨(some 8), true, .mv (.loc 9), none⟩]
@[simp] def r20_4 : List HOp := [⟨(some 10), false, .bin .other .eql (.env 7) (.val (.tr (.sc (.int .i64 8)))), none⟩,
         ⟨(some 8), true, .mv (.loc 10), none⟩]
@[simp] def r20_5 : List HOp := [⟨(some 11), false, .bin .other .eql (.env 7) (.val (.tr (.sc (.int .i64 9)))), none⟩,
          ⟨(some 8), true, .mv (.loc 11), none⟩]
@[simp] def r20_6 : List HOp := [⟨(some 12), false, .bin .other .eql (.env 7) (.val (.tr (.sc (.int .i64 10)))), none⟩,
          ⟨(some 8), true, .mv (.loc 12), none⟩]
@[simp] def r20_7 : List HOp := [⟨(some 13), false, .faddr 2 (.env 1), none⟩,
        ⟨(some 14), false, .load 1 false (.loc 13), none⟩,
        ⟨(some 2), true, .mv (.loc 14), none⟩]
@[simp] def r20_8 : List HOp := [⟨(some 16), false, .bin .other .eql (.env 7) (.val (.tr (.sc (.int .i64 2)))), none⟩,
        ⟨(some 15), false, .mv (.loc 16), none⟩]
@[simp] def r20_9 : List HOp := [⟨(some 17), false, .load 4 true (.env 1), none⟩,
         ⟨(some 18), false, .callf 25 [(.loc 17), (.val (.tr (.sc (.int .i64 0))))], none⟩,
         ⟨(some 19), false, .callf 26 [(.loc 18)], none⟩,
         ⟨(some 20), false, .bin .other .add (.loc 19) (.val (.tr (.sc (.string ⟨⟨[46]⟩⟩)))), none⟩,
         ⟨(some 21), false, .faddr 2 (.env 1), none⟩,
         ⟨(some 22), false, .load 1 false (.loc 21), none⟩,
         ⟨(some 23), false, .bin .other .add (.loc 20) (.loc 22), none⟩,
         ⟨(some 2), true, .mv (.loc 23), none⟩]
@[simp] def r20_10 : List HOp := [⟨(some 25), false, .bin .other .eql (.env 7) (.val (.tr (.sc (.int .i64 3)))), none⟩,
         ⟨(some 24), false, .mv (.loc 25), none⟩]
@[simp] def r20_11 : List HOp := [⟨(some 26), false, .mv (.env 3), none⟩,
          ⟨(some 27), false, .callv (.loc 26) [], none⟩,
          ⟨(some 28), false, .bin .other .add (.loc 27) (.val (.tr (.sc (.string ⟨⟨[91]⟩⟩)))), none⟩,
          ⟨(some 29), false, .load 4 true (.env 1), none⟩,
          ⟨(some 30), false, .callf 28 [(.loc 29), (.val (.tr (.sc (.int .i64 1))))], none⟩,
          ⟨(some 31), false, .callf 27 [(.loc 30), (.val (.tr (.sc (.string ⟨⟨[44, 32]⟩⟩))))], none⟩,
          ⟨(some 32), false, .bin .other .add (.loc 28) (.loc 31), none⟩,
          ⟨(some 33), false, .bin .other .add (.loc 32) (.val (.tr (.sc (.string ⟨⟨[93]⟩⟩)))), none⟩,
          ⟨(some 2), true, .mv (.loc 33), none⟩]
@[simp] def r20_12 : List HOp := [⟨(some 35), false, .bin .other .eql (.env 7) (.val (.tr (.sc (.int .i64 4)))), none⟩,
          ⟨(some 34), false, .mv (.loc 35), none⟩]
@[simp] def r20_13 : List HOp := [⟨(some 4), true, .mv (.val (.tr (.sc (.string ⟨⟨[]⟩⟩)))), none⟩]
@[simp] def r20_14 : List HOp := [⟨(some 36), false, .faddr 2 (.env 1), none⟩,
            ⟨(some 37), false, .load 1 false (.loc 36), none⟩,
            ⟨(some 38), false, .bin .other .neq (.loc 37) (.val (.tr (.sc (.string ⟨⟨[]⟩⟩)))), none⟩]
@[simp] def r20_15 : List HOp := [⟨(some 4), true, .mv (.val (.tr (.sc (.string ⟨⟨[32, 46, 46, 46]⟩⟩)))), none⟩]
@[simp] def r20_16 : List HOp := [⟨(some 39), false, .mv (.env 3), none⟩,
           ⟨(some 40), false, .callv (.loc 39) [], none⟩,
           ⟨(some 41), false, .bin .other .add (.loc 40) (.val (.tr (.sc (.string ⟨⟨[40]⟩⟩)))), none⟩,
           ⟨(some 42), false, .load 4 true (.env 1), none⟩,
           ⟨(some 43), false, .callf 28 [(.loc 42), (.val (.tr (.sc (.int .i64 1))))], none⟩,
           ⟨(some 44), false, .callf 27 [(.loc 43), (.val (.tr (.sc (.string ⟨⟨[44, 32]⟩⟩))))], none⟩,
           ⟨(some 45), false, .bin .other .add (.loc 41) (.loc 44), none⟩,
           ⟨(some 46), false, .mv (.env 4), none⟩,
           ⟨(some 47), false, .bin .other .add (.loc 45) (.loc 46), none⟩,
           ⟨(some 48), false, .bin .other .add (.loc 47) (.val (.tr (.sc (.string ⟨⟨[41]⟩⟩)))), none⟩,
           ⟨(some 2), true, .mv (.loc 48), none⟩]
@[simp] def r20_17 : List HOp := [⟨(some 50), false, .bin .other .eql (.env 7) (.val (.tr (.sc (.int .i64 5)))), none⟩,
           ⟨(some 49), false, .mv (.loc 50), none⟩]
@[simp] def r20_18 : List HOp := [⟨(some 51), false, .faddr 2 (.env 1), none⟩,
            ⟨(some 52), false, .load 1 false (.loc 51), none⟩,
            ⟨(some 53), false, .bin .other .add (.loc 52) (.val (.tr (.sc (.string ⟨⟨[32]⟩⟩)))), none⟩,
            ⟨(some 54), false, .mv (.env 3), none⟩,
            ⟨(some 55), false, .callv (.loc 54) [], none⟩,
            ⟨(some 56), false, .bin .other .add (.loc 53) (.loc 55), none⟩,
            ⟨(some 2), true, .mv (.loc 56), none⟩]
@[simp] def r20_19 : List HOp := [⟨(some 58), false, .bin .other .eql (.env 7) (.val (.tr (.sc (.int .i64 6)))), none⟩,
            ⟨(some 57), false, .mv (.loc 58), none⟩]
@[simp] def r20_20 : List HOp := [⟨(some 59), false, .mv (.env 3), none⟩,
             ⟨(some 60), false, .callv (.loc 59) [], none⟩,
             ⟨(some 61), false, .bin .other .add (.loc 60) (.val (.tr (.sc (.string ⟨⟨[32]⟩⟩)))), none⟩,
             ⟨(some 62), false, .faddr 2 (.env 1), none⟩,
             ⟨(some 63), false, .load 1 false (.loc 62), none⟩,
             ⟨(some 64), false, .bin .other .add (.loc 61) (.loc 63), none⟩,
             ⟨(some 65), false, .bin .other .add (.loc 64) (.val (.tr (.sc (.string ⟨⟨[32]⟩⟩)))), none⟩,
             ⟨(some 66), false, .load 4 true (.env 1), none⟩,
             ⟨(some 67), false, .callf 25 [(.loc 66), (.val (.tr (.sc (.int .i64 1))))], none⟩,
             ⟨(some 68), false, .callf 17 [(.loc 67)], none⟩,
             ⟨(some 69), false, .bin .other .add (.loc 65) (.loc 68), none⟩,
             ⟨(some 2), true, .mv (.loc 69), none⟩]
@[simp] def r20_21 : List HOp := [⟨(some 71), false, .bin .other .eql (.env 7) (.val (.tr (.sc (.int .i64 7)))), none⟩,
             ⟨(some 70), false, .mv (.loc 71), none⟩]
@[simp] def r20_22 : List HOp := [⟨(some 72), false, .mv (.env 3), none⟩,
              ⟨(some 73), false, .callv (.loc 72) [], none⟩,
              ⟨(some 74), false, .bin .other .add (.val (.tr (.sc (.string ⟨⟨[40]⟩⟩)))) (.loc 73), none⟩,
              ⟨(some 75), false, .bin .other .add (.loc 74) (.val (.tr (.sc (.string ⟨⟨[41]⟩⟩)))), none⟩,
              ⟨(some 2), true, .mv (.loc 75), none⟩]
@[simp] def r20_23 : List HOp := [⟨(some 77), false, .bin .other .eql (.env 7) (.val (.tr (.sc (.int .i64 11)))), none⟩,
              ⟨(some 76), false, .mv (.loc 77), none⟩]
@[simp] def r20_24 : List HOp := [⟨(some 78), false, .mv (.env 3), none⟩,
               ⟨(some 79), false, .callv (.loc 78) [], none⟩,
               ⟨(some 80), false, .bin .other .add (.loc 79) (.val (.tr (.sc (.string ⟨⟨[123]⟩⟩)))), none⟩,
               ⟨(some 81), false, .load 4 true (.env 1), none⟩,
               ⟨(some 82), false, .callf 28 [(.loc 81), (.val (.tr (.sc (.int .i64 1))))], none⟩,
               ⟨(some 83), false, .callf 27 [(.loc 82), (.val (.tr (.sc (.string ⟨⟨[44, 32]⟩⟩))))], none⟩,
               ⟨(some 84), false, .bin .other .add (.loc 80) (.loc 83), none⟩,
               ⟨(some 85), false, .bin .other .add (.loc 84) (.val (.tr (.sc (.string ⟨⟨[125]⟩⟩)))), none⟩,
               ⟨(some 2), true, .mv (.loc 85), none⟩]
@[simp] def r20_25 : List HOp := [⟨(some 87), false, .bin .other .eql (.env 7) (.val (.tr (.sc (.int .i64 12)))), none⟩,
               ⟨(some 86), false, .mv (.loc 87), none⟩]
@[simp] def r20_26 : List HOp := [⟨(some 88), false, .mv (.env 3), none⟩,
                ⟨(some 89), false, .callv (.loc 88) [], none⟩,
                ⟨(some 90), false, .bin .other .add (.loc 89) (.val (.tr (.sc (.string ⟨⟨[58, 32]⟩⟩)))), none⟩,
                ⟨(some 91), false, .load 4 true (.env 1), none⟩,
                ⟨(some 92), false, .callf 25 [(.loc 91), (.val (.tr (.sc (.int .i64 1))))], none⟩,
                ⟨(some 93), false, .callf 17 [(.loc 92)], none⟩,
                ⟨(some 94), false, .bin .other .add (.loc 90) (.loc 93), none⟩,
                ⟨(some 2), true, .mv (.loc 94), none⟩]
@[simp] def r20_27 : List HOp := [⟨(some 96), false, .bin .other .eql (.env 7) (.val (.tr (.sc (.int .i64 13)))), none⟩,
                ⟨(some 95), false, .mv (.loc 96), none⟩]
@[simp] def r20_28 : List HOp := [⟨(some 97), false, .mv (.env 3), none⟩,
                 ⟨(some 98), false, .callv (.loc 97) [], none⟩,
                 ⟨(some 99), false, .bin .other .add (.loc 98) (.val (.tr (.sc (.string ⟨⟨[32]⟩⟩)))), none⟩,
                 ⟨(some 100), false, .load 4 true (.env 1), none⟩,
                 ⟨(some 101), false, .callf 25 [(.loc 100), (.val (.tr (.sc (.int .i64 1))))], none⟩,
                 ⟨(some 102), false, .callf 17 [(.loc 101)], none⟩,
                 ⟨(some 103), false, .bin .other .add (.loc 99) (.loc 102), none⟩,
                 ⟨(some 2), true, .mv (.loc 103), none⟩]
@[simp] def r20_29 : List HOp := [⟨(some 105), false, .bin .other .eql (.env 7) (.val (.tr (.sc (.int .i64 14)))), none⟩,
                 ⟨(some 104), false, .mv (.loc 105), none⟩]
@[simp] def r20_30 : List HOp := [⟨(some 106), false, .load 4 true (.env 1), none⟩,
                  ⟨(some 107), false, .callf 25 [(.loc 106), (.val (.tr (.sc (.int .i64 0))))], none⟩,
                  ⟨(some 108), false, .callf 26 [(.loc 107)], none⟩,
                  ⟨(some 109), false, .bin .other .add (.loc 108) (.val (.tr (.sc (.string ⟨⟨[46, 40]⟩⟩)))), none⟩,
                  ⟨(some 110), false, .load 4 true (.env 1), none⟩,
                  ⟨(some 111), false, .callf 25 [(.loc 110), (.val (.tr (.sc (.int .i64 1))))], none⟩,
                  ⟨(some 112), false, .callf 17 [(.loc 111)], none⟩,
                  ⟨(some 113), false, .bin .other .add (.loc 109) (.loc 112), none⟩,
                  ⟨(some 114), false, .bin .other .add (.loc 113) (.val (.tr (.sc (.string ⟨⟨[41]⟩⟩)))), none⟩,
                  ⟨(some 2), true, .mv (.loc 114), none⟩]
@[simp] def r20_31 : List HOp := [⟨(some 2), true, .mv (.val (.tr (.sc (.string ⟨⟨[]⟩⟩)))), none⟩]
@[simp] def k20_7 : HCode := .cond (.env 8) .skip (.region r20_6 none)
@[simp] def k20_6 : HCode := .seq (.region r20_5 none) k20_7
@[simp] def k20_5 : HCode := .cond (.env 8) .skip k20_6
@[simp] def k20_4 : HCode := .seq (.region r20_4 none) k20_5
@[simp] def k20_3 : HCode := .cond (.env 8) .skip k20_4
@[simp] def k20_9 : HCode := .seq (.region r20_7 none) .ret
@[simp] def k20_12 : HCode := .seq (.region r20_9 (some [ ( 1, [ 1 ] ) , ( 1, [ 17 ] ) , ( 1, [ 18 ] ) , ( 0, [ 19 ] ) , ( 0, [ 1 ] ) , ( 1, [ 21 ] ) , ( 0, [ 20, 22 ] ) , ( 0, [ 23 ] ) ])) .ret
@[simp] def k20_15 : HCode := .seq (.region r20_11 (some [ ( 0, [ 3 ] ) , ( 1, [ 26 ] ) , ( 0, [ 27 ] ) , ( 1, [ 1 ] ) , ( 2, [ 29 ] ) , ( 2, [ 30 ] ) , ( 0, [ 28, 31 ] ) , ( 0, [ 32 ] ) , ( 0, [ 33 ] ) ])) .ret
@[simp] def k20_20 : HCode := .cond (.loc 38) (.region r20_15 none) .skip
def k20_21 : HCode := .seq (.region r20_16 (some [ ( 0, [ 3 ] ) , ( 1, [ 39 ] ) , ( 0, [ 40 ] ) , ( 1, [ 1 ] ) , ( 2, [ 42 ] ) , ( 2, [ 43 ] ) , ( 0, [ 41, 44 ] ) , ( 0, [ 4 ] ) , ( 0, [ 45, 46 ] ) , ( 0, [ 47 ] ) , ( 0, [ 48 ] ) ])) .ret
@[simp] def k20_19 : HCode := .seq (.seq (.region r20_14 none) k20_20) k20_21
@[simp] def k20_18 : HCode := .seq (.region r20_13 none) k20_19
@[simp] def k20_24 : HCode := .seq (.region r20_18 (some [ ( 0, [ 1 ] ) , ( 10, [ 51 ] ) , ( 0, [ 52 ] ) , ( 0, [ 3 ] ) , ( 2, [ 54 ] ) , ( 0, [ 53, 55 ] ) , ( 0, [ 56 ] ) ])) .ret
@[simp] def k20_27 : HCode := .seq (.region r20_20 (some [ ( 0, [ 3 ] ) , ( 1, [ 59 ] ) , ( 0, [ 60 ] ) , ( 0, [ 1 ] ) , ( 15, [ 62 ] ) , ( 0, [ 61, 63 ] ) , ( 0, [ 64 ] ) , ( 1, [ 1 ] ) , ( 2, [ 66 ] ) , ( 2, [ 67 ] ) , ( 0, [ 65, 68 ] ) , ( 0, [ 69 ] ) ])) .ret
@[simp] def k20_30 : HCode := .seq (.region r20_22 none) .ret
@[simp] def k20_33 : HCode := .seq (.region r20_24 (some [ ( 0, [ 3 ] ) , ( 1, [ 78 ] ) , ( 0, [ 79 ] ) , ( 1, [ 1 ] ) , ( 2, [ 81 ] ) , ( 2, [ 82 ] ) , ( 0, [ 80, 83 ] ) , ( 0, [ 84 ] ) , ( 0, [ 85 ] ) ])) .ret
@[simp] def k20_36 : HCode := .seq (.region r20_26 (some [ ( 0, [ 3 ] ) , ( 1, [ 88 ] ) , ( 0, [ 89 ] ) , ( 1, [ 1 ] ) , ( 2, [ 91 ] ) , ( 2, [ 92 ] ) , ( 0, [ 90, 93 ] ) , ( 0, [ 94 ] ) ])) .ret
@[simp] def k20_39 : HCode := .seq (.region r20_28 (some [ ( 0, [ 3 ] ) , ( 1, [ 97 ] ) , ( 0, [ 98 ] ) , ( 1, [ 1 ] ) , ( 2, [ 100 ] ) , ( 2, [ 101 ] ) , ( 0, [ 99, 102 ] ) , ( 0, [ 103 ] ) ])) .ret
@[simp] def k20_42 : HCode := .seq (.region r20_30 (some [ ( 1, [ 1 ] ) , ( 1, [ 106 ] ) , ( 1, [ 107 ] ) , ( 0, [ 108 ] ) , ( 1, [ 1 ] ) , ( 2, [ 110 ] ) , ( 2, [ 111 ] ) , ( 0, [ 109, 112 ] ) , ( 0, [ 113 ] ) , ( 0, [ 114 ] ) ])) .ret
@[simp] def k20_41 : HCode := .cond (.loc 104) k20_42 .skip
@[simp] def k20_40 : HCode := .seq (.region r20_29 none) k20_41
@[simp] def k20_38 : HCode := .cond (.loc 95) k20_39 k20_40
@[simp] def k20_37 : HCode := .seq (.region r20_27 none) k20_38
@[simp] def k20_35 : HCode := .cond (.loc 86) k20_36 k20_37
@[simp] def k20_34 : HCode := .seq (.region r20_25 none) k20_35
@[simp] def k20_32 : HCode := .cond (.loc 76) k20_33 k20_34
@[simp] def k20_31 : HCode := .seq (.region r20_23 none) k20_32
@[simp] def k20_29 : HCode := .cond (.loc 70) k20_30 k20_31
@[simp] def k20_28 : HCode := .seq (.region r20_21 none) k20_29
@[simp] def k20_26 : HCode := .cond (.loc 57) k20_27 k20_28
@[simp] def k20_25 : HCode := .seq (.region r20_19 none) k20_26
@[simp] def k20_23 : HCode := .cond (.loc 49) k20_24 k20_25
@[simp] def k20_22 : HCode := .seq (.region r20_17 none) k20_23
@[simp] def k20_17 : HCode := .cond (.loc 34) k20_18 k20_22
@[simp] def k20_16 : HCode := .seq (.region r20_12 none) k20_17
@[simp] def k20_14 : HCode := .cond (.loc 24) k20_15 k20_16
@[simp] def k20_13 : HCode := .seq (.region r20_10 none) k20_14
@[simp] def k20_11 : HCode := .cond (.loc 15) k20_12 k20_13
@[simp] def k20_10 : HCode := .seq (.region r20_8 none) k20_11
def k20_8 : HCode := .cond (.env 8) k20_9 k20_10
@[simp] def k20_2 : HCode := .block 0 (.seq (.seq (.region r20_3 none) k20_3) k20_8)
def k20_43 : HCode := .seq (.region r20_31 none) .ret
@[simp] def k20_1 : HCode := .seq (.seq (.region r20_2 none) k20_2) k20_43
@[simp] def k20_0 : HCode := .seq (.region r20_1 none) k20_1
@[simp] def fn20 : HFn := { nargs := 1, results := [.tmp 2], mode := .iso, code := (.seq (.region r20_0 none) k20_0) }
theorem c20 : cFn Tryd.prog (Hs 20) .iso 20 = some fn20 := by kernel_rfl
/- sterling/syntax.expr$1 -/
@[simp] def r24_0 : List HOp := [⟨(some 1), true, .mv (.val (.tr (.sc (.string ⟨⟨[]⟩⟩)))), none⟩]
@[simp] def r24_1 : List HOp := [⟨(some 2), false, .load 4 true (.env 0), none⟩,
     ⟨(some 3), false, .callf 25 [(.loc 2), (.val (.tr (.sc (.int .i64 0))))], none⟩,
     ⟨(some 4), false, .callf 17 [(.loc 3)], none⟩,
     ⟨(some 1), true, .mv (.loc 4), none⟩]
@[simp] def k24_0 : HCode := .seq (.region r24_1 none) .ret
@[simp] def fn24 : HFn := { nargs := 1, results := [.tmp 1], mode := .iso, code := (.seq (.region r24_0 none) k24_0) }
theorem c24 : cFn Tryd.prog (Hs 24) .iso 24 = some fn24 := by kernel_rfl
/- sterling/syntax.kid -/
@[simp] def r25_0 : List HOp := [⟨(some 2), true, .box true (.env 0), none⟩,
     ⟨(some 4), true, .alloc [(.sc (.int .i64 0)), (.sc (.int .i64 0)), (.sc (.string ⟨⟨[]⟩⟩)), (.sc (.slice none 0 0))], none⟩]
@[simp] def r25_1 : List HOp := [⟨(some 5), false, .mv (.env 1), none⟩,
      ⟨(some 6), false, .bin .other .lss (.loc 5) (.val (.tr (.sc (.int .i64 0)))), none⟩,
      ⟨(some 7), false, .mv (.loc 6), none⟩,
      ⟨(some 8), false, .mv (.env 1), some ((.loc 7), false)⟩,
      ⟨(some 9), false, .faddr 3 (.env 2), some ((.loc 7), false)⟩,
      ⟨(some 10), false, .load 1 false (.loc 9), some ((.loc 7), false)⟩,
      ⟨(some 11), false, .len 1 (.loc 10), some ((.loc 7), false)⟩,
      ⟨(some 12), false, .bin .other .geq (.loc 8) (.loc 11), some ((.loc 7), false)⟩,
      ⟨(some 13), false, .pick (.loc 7) (.val (.tr (.sc (.bool true)))) (.loc 12), none⟩]
@[simp] def r25_2 : List HOp := [⟨(some 14), false, .build [(.sc (.int .i64 0)), (.sc (.int .i64 0)), (.sc (.string ⟨⟨[]⟩⟩)), (.sc (.slice none 0 0))] [], none⟩,
       ⟨none, false, .store 4 (.env 4) (.loc 14), none⟩]
@[simp] def r25_3 : List HOp := [⟨(some 15), false, .faddr 3 (.env 2), none⟩,
     ⟨(some 16), false, .load 1 false (.loc 15), none⟩,
     ⟨(some 17), false, .mv (.env 1), none⟩,
     ⟨(some 18), false, .iaddr 4 (.loc 16) (.loc 17), none⟩,
     ⟨(some 19), false, .load 4 true (.loc 18), none⟩,
     ⟨none, false, .store 4 (.env 4) (.loc 19), none⟩]
@[simp] def k25_2 : HCode := .seq (.region r25_2 none) .ret
@[simp] def k25_1 : HCode := .cond (.loc 13) k25_2 .skip
def k25_3 : HCode := .seq (.region r25_3 none) .ret
@[simp] def k25_0 : HCode := .seq (.seq (.region r25_1 none) k25_1) k25_3
@[simp] def fn25 : HFn := { nargs := 2, results := [.cell 4 4 true], mode := .iso, code := (.seq (.region r25_0 none) k25_0) }
theorem c25 : cFn Tryd.prog (Hs 25) .iso 25 = some fn25 := by kernel_rfl
/- sterling/syntax.spot -/
@[simp] def r26_0 : List HOp := [⟨(some 1), true, .box true (.env 0), none⟩,
     ⟨(some 2), true, .mv (.val (.tr (.sc (.string ⟨⟨[]⟩⟩)))), none⟩]
@[simp] def r26_1 : List HOp := [⟨(some 3), false, .faddr 0 (.env 1), none⟩,
      ⟨(some 4), false, .load 1 false (.loc 3), none⟩,
      ⟨(some 5), false, .bin .other .eql (.loc 4) (.val (.tr (.sc (.int .i64 8)))), none⟩,
      ⟨(some 6), false, .mv (.loc 5), none⟩,
      ⟨(some 7), false, .faddr 0 (.env 1), some ((.loc 6), false)⟩,
      ⟨(some 8), false, .load 1 false (.loc 7), some ((.loc 6), false)⟩,
      ⟨(some 9), false, .bin .other .eql (.loc 8) (.val (.tr (.sc (.int .i64 9)))), some ((.loc 6), false)⟩,
      ⟨(some 10), false, .pick (.loc 6) (.val (.tr (.sc (.bool true)))) (.loc 9), none⟩]
@[simp] def r26_2 : List HOp := [⟨(some 11), false, .load 4 true (.env 1), none⟩,
       ⟨(some 12), false, .callf 17 [(.loc 11)], none⟩,
       ⟨(some 13), false, .bin .other .add (.loc 12) (.val (.tr (.sc (.string ⟨⟨[32]⟩⟩)))), none⟩,
       ⟨(some 2), true, .mv (.loc 13), none⟩]
@[simp] def r26_3 : List HOp := [⟨(some 14), false, .load 4 true (.env 1), none⟩,
     ⟨(some 15), false, .callf 17 [(.loc 14)], none⟩,
     ⟨(some 2), true, .mv (.loc 15), none⟩]
@[simp] def k26_2 : HCode := .seq (.region r26_2 none) .ret
@[simp] def k26_1 : HCode := .cond (.loc 10) k26_2 .skip
def k26_3 : HCode := .seq (.region r26_3 none) .ret
@[simp] def k26_0 : HCode := .seq (.seq (.region r26_1 none) k26_1) k26_3
@[simp] def fn26 : HFn := { nargs := 1, results := [.tmp 2], mode := .iso, code := (.seq (.region r26_0 none) k26_0) }
theorem c26 : cFn Tryd.prog (Hs 26) .iso 26 = some fn26 := by kernel_rfl
/- sterling/syntax.rest -/
@[simp] def r28_0 : List HOp := [⟨(some 2), true, .box true (.env 0), none⟩,
     ⟨(some 4), true, .mv (.val (.tr (.sc (.slice none 0 0)))), none⟩]
@[simp] def r28_1 : List HOp := [⟨(some 5), false, .faddr 3 (.env 2), none⟩,
     ⟨(some 6), false, .load 1 false (.loc 5), none⟩,
     ⟨(some 7), false, .mv (.env 1), none⟩,
     ⟨(some 8), false, .faddr 3 (.env 2), none⟩,
     ⟨(some 9), false, .load 1 false (.loc 8), none⟩,
     ⟨(some 10), false, .len 1 (.loc 9), none⟩,
     ⟨(some 11), false, .minmax false (.loc 7) [(.loc 10)], none⟩,
     ⟨(some 12), false, .slice 4 (.loc 6) (some (.loc 11)) none none, none⟩,
     ⟨(some 4), true, .mv (.loc 12), none⟩]
@[simp] def k28_0 : HCode := .seq (.region r28_1 none) .ret
@[simp] def fn28 : HFn := { nargs := 2, results := [.tmp 4], mode := .iso, code := (.seq (.region r28_0 none) k28_0) }
theorem c28 : cFn Tryd.prog (Hs 28) .iso 28 = some fn28 := by kernel_rfl
/- sterling/syntax.list -/
@[simp] def r27_0 : List HOp := [⟨(some 4), true, .mv (.val (.tr (.sc (.string ⟨⟨[]⟩⟩)))), none⟩]
@[simp] def r27_1 : List HOp := [⟨(some 5), true, .mv (.val (.tr (.sc (.slice none 0 0)))), none⟩]
@[simp] def r27_2 : List HOp := [⟨(some 8), true, .mv (.env 0), none⟩,
      ⟨(some 9), true, .len 1 (.env 8), none⟩,
      ⟨(some 10), true, .mv (.val (.tr (.sc (.int .i64 0)))), none⟩]
@[simp] def r27_3 : List HOp := [⟨(some 11), false, .bin .other .lss (.env 10) (.env 9), none⟩]
@[simp] def r27_4 : List HOp := [⟨(some 12), false, .iaddr 4 (.env 8) (.env 10), none⟩,
          ⟨(some 13), false, .load 4 true (.loc 12), none⟩,
          ⟨(some 7), true, .alloc [(.sc (.int .i64 0)), (.sc (.int .i64 0)), (.sc (.string ⟨⟨[]⟩⟩)), (.sc (.slice none 0 0))], none⟩,
          ⟨none, false, .store 4 (.env 7) (.loc 13), none⟩]
@[simp] def r27_5 : List HOp := [⟨(some 14), false, .mv (.env 5), none⟩,
         ⟨(some 15), false, .load 4 true (.env 7), none⟩,
         ⟨(some 16), false, .callf 17 [(.loc 15)], none⟩,
         ⟨(some 17), false, .bslice false 1 1 [(.sc (.string ⟨⟨[]⟩⟩))] [(0, 1, (.loc 16))], none⟩,
         ⟨(some 18), false, .append 1 16 (.loc 14) (.loc 17), none⟩,
         ⟨(some 5), true, .mv (.loc 18), none⟩]
@[simp] def r27_6 : List HOp := [⟨(some 19), false, .bin .other .add (.env 10) (.val (.tr (.sc (.int .i64 1)))), none⟩,
       ⟨(some 10), true, .mv (.loc 19), none⟩]
@[simp] def r27_7 : List HOp := [⟨(some 20), false, .mv (.env 5), none⟩,
     ⟨(some 21), false, .mv (.env 1), none⟩,
     ⟨(some 22), false, .callf 37 [(.loc 20), (.loc 21)], none⟩,
     ⟨(some 4), true, .mv (.loc 22), none⟩]
def k27_5 : HCode := .seq (.block 1 (.seq (.region r27_4 none) (.region r27_5 none))) (.region r27_6 none)
@[simp] def k27_4 : HCode := .seq (.cond (.loc 11) .skip (.exit 0)) k27_5
def k27_3 : HCode := .seq (.region r27_3 none) k27_4
@[simp] def k27_2 : HCode := .block 0 (.loop k27_3)
def k27_6 : HCode := .seq (.region r27_7 none) .ret
@[simp] def k27_1 : HCode := .seq (.seq (.region r27_2 none) k27_2) k27_6
@[simp] def k27_0 : HCode := .seq (.region r27_1 none) k27_1
@[simp] def fn27 : HFn := { nargs := 2, results := [.tmp 4], mode := .iso, code := (.seq (.region r27_0 none) k27_0) }
theorem c27 : cFn Tryd.prog (Hs 27) .iso 27 = some fn27 := by kernel_rfl
/- (*strings.Builder).grow -/
@[simp] def r49_0 : List HOp := [⟨(some 5), false, .mv (.env 0), none⟩,
     ⟨(some 6), false, .nilchk (.loc 5), none⟩,
     ⟨(some 7), false, .faddr 1 (.loc 6), none⟩,
     ⟨(some 8), false, .load 1 false (.loc 7), none⟩,
     ⟨(some 9), false, .cap (.loc 8), none⟩,
     ⟨(some 10), false, .bin .other .mul (.val (.tr (.sc (.int .i64 2)))) (.loc 9), none⟩,
     ⟨(some 11), false, .mv (.env 1), none⟩,
     ⟨(some 12), false, .bin .other .add (.loc 10) (.loc 11), none⟩,
     ⟨(some 13), false, .callf 54 [(.loc 12)], none⟩,
     ⟨(some 14), false, .mv (.env 0), none⟩,
     ⟨(some 15), false, .nilchk (.loc 14), none⟩,
     ⟨(some 16), false, .faddr 1 (.loc 15), none⟩,
     ⟨(some 17), false, .load 1 false (.loc 16), none⟩,
     ⟨(some 18), false, .len 1 (.loc 17), none⟩,
     ⟨(some 19), false, .slice 1 (.loc 13) none (some (.loc 18)) none, none⟩,
     ⟨(some 4), true, .mv (.loc 19), none⟩]
@[simp] def r49_1 : List HOp := [⟨(some 20), false, .mv (.env 4), none⟩,
     ⟨(some 21), false, .mv (.env 0), none⟩,
     ⟨(some 22), false, .nilchk (.loc 21), none⟩,
     ⟨(some 23), false, .faddr 1 (.loc 22), none⟩,
     ⟨(some 24), false, .load 1 false (.loc 23), none⟩,
     ⟨(some 25), false, .copy 1 (.loc 20) (.loc 24), none⟩]
@[simp] def r49_2 : List HOp := [⟨(some 26), false, .mv (.env 0), none⟩,
    ⟨(some 27), false, .mv (.env 4), none⟩,
    ⟨(some 28), false, .nilchk (.loc 26), none⟩,
    ⟨(some 29), false, .faddr 1 (.loc 28), none⟩,
    ⟨none, false, .store 1 (.loc 29) (.loc 27), none⟩]
@[simp] def k49_0 : HCode := .seq (.region r49_1 none) (.region r49_2 none)
@[simp] def fn49 : HFn := { nargs := 2, results := [], mode := .shared, code := (.seq (.region r49_0 (some [ ( 0, [ 0 ] ) , ( 0, [ 5 ] ) , ( 0, [ 6 ] ) , ( 1, [ 7 ] ) , ( 1, [ 8 ] ) , ( 0, [ 9 ] ) , ( 0, [ 1 ] ) , ( 0, [ 10, 11 ] ) , ( 1, [ 12 ] ) , ( 0, [ 0 ] ) , ( 0, [ 14 ] ) , ( 0, [ 15 ] ) , ( 1, [ 16 ] ) , ( 0, [ 17 ] ) , ( 2, [ 13, 18 ] ) , ( 0, [ 19 ] ) ])) k49_0) }
theorem c49 : cFn Tryd.prog (Hs 49) .shared 49 = some fn49 := by kernel_rfl
/- (*strings.Builder).WriteString -/
@[simp] def r43_0 : List HOp := [⟨(some 4), true, .mv (.val (.tr (.sc (.int .i64 0)))), none⟩,
     ⟨(some 5), true, .mv (.val (.tr (.sc .nilIface))), none⟩]
@[simp] def r43_1 : List HOp := [⟨(some 6), false, .mv (.env 0), none⟩,
     ⟨(some 7), false, .callf 48 [(.loc 6)], none⟩]
@[simp] def r43_2 : List HOp := [⟨(some 8), false, .mv (.env 0), none⟩,
     ⟨(some 9), false, .mv (.env 0), none⟩,
     ⟨(some 10), false, .nilchk (.loc 9), none⟩,
     ⟨(some 11), false, .faddr 1 (.loc 10), none⟩,
     ⟨(some 12), false, .load 1 false (.loc 11), none⟩,
     ⟨(some 13), false, .mv (.env 1), none⟩,
     ⟨(some 14), false, .append 1 1 (.loc 12) (.loc 13), none⟩,
     ⟨(some 15), false, .nilchk (.loc 8), none⟩,
     ⟨(some 16), false, .faddr 1 (.loc 15), none⟩,
     ⟨none, false, .store 1 (.loc 16) (.loc 14), none⟩]
@[simp] def r43_3 : List HOp := [⟨(some 17), false, .mv (.env 1), none⟩,
     ⟨(some 18), false, .len 0 (.loc 17), none⟩,
     ⟨(some 4), true, .mv (.loc 18), none⟩,
     ⟨(some 5), true, .mv (.val (.tr (.sc .nilIface))), none⟩]
@[simp] def k43_2 : HCode := .seq (.region r43_3 none) .ret
@[simp] def k43_1 : HCode := .seq (.region r43_2 none) k43_2
@[simp] def k43_0 : HCode := .seq (.region r43_1 none) k43_1
@[simp] def fn43 : HFn := { nargs := 2, results := [.tmp 4, .tmp 5], mode := .shared, code := (.seq (.region r43_0 none) k43_0) }
theorem c43 : cFn Tryd.prog (Hs 43) .shared 43 = some fn43 := by kernel_rfl
/- sterling/syntax.typ -/
@[simp] def r21_0 : List HOp := [⟨(some 1), true, .box true (.env 0), none⟩,
     ⟨(some 2), true, .mv (.val (.tr (.sc (.string ⟨⟨[]⟩⟩)))), none⟩]
@[simp] def r21_1 : List HOp := [⟨(some 3), false, .faddr 0 (.env 1), none⟩,
      ⟨(some 4), true, .load 1 false (.loc 3), none⟩]
@[simp] def r21_2 : List HOp := [⟨(some 6), false, .bin .other .eql (.env 4) (.val (.tr (.sc (.int .i64 15)))), none⟩,
       ⟨(some 5), false, .mv (.loc 6), none⟩]
@[simp] def r21_3 : List HOp := [⟨(some 7), false, .ldt 4 true (.env 1), none⟩,
        ⟨(some 8), false, .callf 25 [(.loc 7), (.val (.tr (.sc (.int .i64 0))))], none⟩,
        ⟨(some 9), false, .callf 17 [(.loc 8)], none⟩,
        ⟨(some 10), false, .bin .other .add (.val (.tr (.sc (.string ⟨⟨[91]⟩⟩)))) (.loc 9), none⟩,
        ⟨(some 11), false, .bin .other .add (.loc 10) (.val (.tr (.sc (.string ⟨⟨[93]⟩⟩)))), none⟩,
        ⟨(some 12), false, .ldt 4 true (.env 1), none⟩,
        ⟨(some 13), false, .callf 25 [(.loc 12), (.val (.tr (.sc (.int .i64 1))))], none⟩,
        ⟨(some 14), false, .callf 17 [(.loc 13)], none⟩,
        ⟨(some 15), false, .bin .other .add (.loc 11) (.loc 14), none⟩,
        ⟨(some 2), true, .mv (.loc 15), none⟩]
@[simp] def r21_4 : List HOp := [⟨(some 17), false, .bin .other .eql (.env 4) (.val (.tr (.sc (.int .i64 16)))), none⟩,
        ⟨(some 16), false, .mv (.loc 17), none⟩]
@[simp] def r21_5 : List HOp := [⟨(some 18), false, .load 4 true (.env 1), none⟩,
         ⟨(some 19), false, .callf 25 [(.loc 18), (.val (.tr (.sc (.int .i64 0))))], none⟩,
         ⟨(some 20), false, .callf 17 [(.loc 19)], none⟩,
         ⟨(some 21), false, .bin .other .add (.val (.tr (.sc (.string ⟨⟨[91, 93]⟩⟩)))) (.loc 20), none⟩,
         ⟨(some 2), true, .mv (.loc 21), none⟩]
@[simp] def r21_6 : List HOp := [⟨(some 23), false, .bin .other .eql (.env 4) (.val (.tr (.sc (.int .i64 17)))), none⟩,
         ⟨(some 22), false, .mv (.loc 23), none⟩]
@[simp] def r21_7 : List HOp := [⟨(some 24), false, .load 4 true (.env 1), none⟩,
          ⟨(some 25), false, .callf 25 [(.loc 24), (.val (.tr (.sc (.int .i64 0))))], none⟩,
          ⟨(some 26), false, .callf 17 [(.loc 25)], none⟩,
          ⟨(some 27), false, .bin .other .add (.val (.tr (.sc (.string ⟨⟨[42, 32]⟩⟩)))) (.loc 26), none⟩,
          ⟨(some 2), true, .mv (.loc 27), none⟩]
@[simp] def r21_8 : List HOp := [⟨(some 29), false, .bin .other .eql (.env 4) (.val (.tr (.sc (.int .i64 18)))), none⟩,
          ⟨(some 28), false, .mv (.loc 29), none⟩]
@[simp] def r21_9 : List HOp := [⟨(some 30), false, .ldt 4 true (.env 1), none⟩,
           ⟨(some 31), false, .callf 25 [(.loc 30), (.val (.tr (.sc (.int .i64 0))))], none⟩,
           ⟨(some 32), false, .callf 17 [(.loc 31)], none⟩,
           ⟨(some 33), false, .bin .other .add (.val (.tr (.sc (.string ⟨⟨[109, 97, 112, 91]⟩⟩)))) (.loc 32), none⟩,
           ⟨(some 34), false, .bin .other .add (.loc 33) (.val (.tr (.sc (.string ⟨⟨[93]⟩⟩)))), none⟩,
           ⟨(some 35), false, .ldt 4 true (.env 1), none⟩,
           ⟨(some 36), false, .callf 25 [(.loc 35), (.val (.tr (.sc (.int .i64 1))))], none⟩,
           ⟨(some 37), false, .callf 17 [(.loc 36)], none⟩,
           ⟨(some 38), false, .bin .other .add (.loc 34) (.loc 37), none⟩,
           ⟨(some 2), true, .mv (.loc 38), none⟩]
@[simp] def r21_10 : List HOp := [⟨(some 40), false, .bin .other .eql (.env 4) (.val (.tr (.sc (.int .i64 19)))), none⟩,
           ⟨(some 39), false, .mv (.loc 40), none⟩]
@[simp] def r21_11 : List HOp := [⟨(some 41), false, .load 4 true (.env 1), none⟩,
            ⟨(some 42), false, .callf 29 [(.loc 41)], none⟩,
            ⟨(some 43), false, .bin .other .add (.val (.tr (.sc (.string ⟨⟨[102, 117, 110, 99]⟩⟩)))) (.loc 42), none⟩,
            ⟨(some 2), true, .mv (.loc 43), none⟩]
@[simp] def r21_12 : List HOp := [⟨(some 45), false, .bin .other .eql (.env 4) (.val (.tr (.sc (.int .i64 20)))), none⟩,
            ⟨(some 44), false, .mv (.loc 45), none⟩]
@[simp] def r21_13 : List HOp := [⟨(some 46), false, .faddr 3 (.env 1), none⟩,
             ⟨(some 47), false, .load 1 false (.loc 46), none⟩,
             ⟨(some 48), false, .callf 30 [(.val (.tr (.sc (.string ⟨⟨[115, 116, 114, 117, 99, 116, 32]⟩⟩)))), (.loc 47)], none⟩,
             ⟨(some 2), true, .mv (.loc 48), none⟩]
@[simp] def r21_14 : List HOp := [⟨(some 50), false, .bin .other .eql (.env 4) (.val (.tr (.sc (.int .i64 22)))), none⟩,
             ⟨(some 49), false, .mv (.loc 50), none⟩]
@[simp] def r21_15 : List HOp := [⟨(some 51), false, .faddr 3 (.env 1), none⟩,
              ⟨(some 52), false, .load 1 false (.loc 51), none⟩,
              ⟨(some 53), false, .callf 30 [(.val (.tr (.sc (.string ⟨⟨[105, 110, 116, 101, 114, 102, 97, 99, 101, 32]⟩⟩)))), (.loc 52)], none⟩,
              ⟨(some 2), true, .mv (.loc 53), none⟩]
@[simp] def r21_16 : List HOp := [⟨(some 55), false, .bin .other .eql (.env 4) (.val (.tr (.sc (.int .i64 23)))), none⟩,
              ⟨(some 54), false, .mv (.loc 55), none⟩]
@[simp] def r21_17 : List HOp := [⟨(some 56), false, .faddr 2 (.env 1), none⟩,
               ⟨(some 57), false, .ldt 1 false (.loc 56), none⟩,
               ⟨(some 58), false, .ldt 4 true (.env 1), none⟩,
               ⟨(some 59), false, .callf 25 [(.loc 58), (.val (.tr (.sc (.int .i64 0))))], none⟩,
               ⟨(some 60), false, .callf 29 [(.loc 59)], none⟩,
               ⟨(some 61), false, .bin .other .add (.loc 57) (.loc 60), none⟩,
               ⟨(some 2), true, .mv (.loc 61), none⟩]
@[simp] def r21_18 : List HOp := [⟨(some 63), false, .bin .other .eql (.env 4) (.val (.tr (.sc (.int .i64 24)))), none⟩,
               ⟨(some 62), false, .mv (.loc 63), none⟩]
@[simp] def r21_19 : List HOp := [⟨(some 64), false, .faddr 3 (.env 1), none⟩,
                ⟨(some 65), false, .load 1 false (.loc 64), none⟩,
                ⟨(some 66), false, .callf 27 [(.loc 65), (.val (.tr (.sc (.string ⟨⟨[32, 124, 32]⟩⟩))))], none⟩,
                ⟨(some 2), true, .mv (.loc 66), none⟩]
@[simp] def r21_20 : List HOp := [⟨(some 68), false, .bin .other .eql (.env 4) (.val (.tr (.sc (.int .i64 25)))), none⟩,
                ⟨(some 67), false, .mv (.loc 68), none⟩]
@[simp] def r21_21 : List HOp := [⟨(some 69), false, .load 4 true (.env 1), none⟩,
                 ⟨(some 70), false, .callf 25 [(.loc 69), (.val (.tr (.sc (.int .i64 0))))], none⟩,
                 ⟨(some 71), false, .callf 17 [(.loc 70)], none⟩,
                 ⟨(some 72), false, .bin .other .add (.val (.tr (.sc (.string ⟨⟨[126]⟩⟩)))) (.loc 71), none⟩,
                 ⟨(some 2), true, .mv (.loc 72), none⟩]
@[simp] def r21_22 : List HOp := [⟨(some 74), false, .bin .other .eql (.env 4) (.val (.tr (.sc (.int .i64 26)))), none⟩,
                 ⟨(some 73), false, .mv (.loc 74), none⟩]
@[simp] def r21_23 : List HOp := [⟨(some 75), false, .faddr 3 (.env 1), none⟩,
                  ⟨(some 76), false, .load 1 false (.loc 75), none⟩,
                  ⟨(some 77), false, .callf 27 [(.loc 76), (.val (.tr (.sc (.string ⟨⟨[44, 32]⟩⟩))))], none⟩,
                  ⟨(some 2), true, .mv (.loc 77), none⟩]
@[simp] def r21_24 : List HOp := [⟨(some 78), false, .faddr 2 (.env 1), none⟩,
      ⟨(some 79), false, .load 1 false (.loc 78), none⟩,
      ⟨(some 80), false, .bin .other .eql (.loc 79) (.val (.tr (.sc (.string ⟨⟨[]⟩⟩)))), none⟩]
@[simp] def r21_25 : List HOp := [⟨(some 81), false, .load 4 true (.env 1), none⟩,
       ⟨(some 82), false, .callf 25 [(.loc 81), (.val (.tr (.sc (.int .i64 0))))], none⟩,
       ⟨(some 83), false, .callf 17 [(.loc 82)], none⟩,
       ⟨(some 2), true, .mv (.loc 83), none⟩]
@[simp] def r21_26 : List HOp := [⟨(some 84), false, .faddr 2 (.env 1), none⟩,
     ⟨(some 85), false, .ldt 1 false (.loc 84), none⟩,
     ⟨(some 86), false, .bin .other .add (.loc 85) (.val (.tr (.sc (.string ⟨⟨[32]⟩⟩)))), none⟩,
     ⟨(some 87), false, .ldt 4 true (.env 1), none⟩,
     ⟨(some 88), false, .callf 25 [(.loc 87), (.val (.tr (.sc (.int .i64 0))))], none⟩,
     ⟨(some 89), false, .callf 17 [(.loc 88)], none⟩,
     ⟨(some 90), false, .bin .other .add (.loc 86) (.loc 89), none⟩,
     ⟨(some 2), true, .mv (.loc 90), none⟩]
@[simp] def k21_3 : HCode := .seq (.region r21_3 (some [ ( 0, [ 1 ] ) , ( 2, [ 7 ] ) , ( 2, [ 8 ] ) , ( 0, [ 9 ] ) , ( 0, [ 10 ] ) , ( 0, [ 1 ] ) , ( 2, [ 12 ] ) , ( 2, [ 13 ] ) , ( 0, [ 11, 14 ] ) , ( 0, [ 15 ] ) ])) .ret
@[simp] def k21_6 : HCode := .seq (.region r21_5 none) .ret
@[simp] def k21_9 : HCode := .seq (.region r21_7 none) .ret
@[simp] def k21_12 : HCode := .seq (.region r21_9 (some [ ( 0, [ 1 ] ) , ( 2, [ 30 ] ) , ( 2, [ 31 ] ) , ( 0, [ 32 ] ) , ( 0, [ 33 ] ) , ( 0, [ 1 ] ) , ( 2, [ 35 ] ) , ( 2, [ 36 ] ) , ( 0, [ 34, 37 ] ) , ( 0, [ 38 ] ) ])) .ret
@[simp] def k21_15 : HCode := .seq (.region r21_11 none) .ret
@[simp] def k21_18 : HCode := .seq (.region r21_13 none) .ret
@[simp] def k21_21 : HCode := .seq (.region r21_15 none) .ret
@[simp] def k21_24 : HCode := .seq (.region r21_17 (some [ ( 0, [ 1 ] ) , ( 0, [ 56 ] ) , ( 0, [ 1 ] ) , ( 2, [ 58 ] ) , ( 2, [ 59 ] ) , ( 0, [ 57, 60 ] ) , ( 0, [ 61 ] ) ])) .ret
@[simp] def k21_27 : HCode := .seq (.region r21_19 none) .ret
@[simp] def k21_30 : HCode := .seq (.region r21_21 none) .ret
@[simp] def k21_33 : HCode := .seq (.region r21_23 none) .ret
@[simp] def k21_32 : HCode := .cond (.loc 73) k21_33 .skip
@[simp] def k21_31 : HCode := .seq (.region r21_22 none) k21_32
@[simp] def k21_29 : HCode := .cond (.loc 67) k21_30 k21_31
@[simp] def k21_28 : HCode := .seq (.region r21_20 none) k21_29
@[simp] def k21_26 : HCode := .cond (.loc 62) k21_27 k21_28
@[simp] def k21_25 : HCode := .seq (.region r21_18 none) k21_26
@[simp] def k21_23 : HCode := .cond (.loc 54) k21_24 k21_25
@[simp] def k21_22 : HCode := .seq (.region r21_16 none) k21_23
@[simp] def k21_20 : HCode := .cond (.loc 49) k21_21 k21_22
@[simp] def k21_19 : HCode := .seq (.region r21_14 none) k21_20
@[simp] def k21_17 : HCode := .cond (.loc 44) k21_18 k21_19
@[simp] def k21_16 : HCode := .seq (.region r21_12 none) k21_17
@[simp] def k21_14 : HCode := .cond (.loc 39) k21_15 k21_16
@[simp] def k21_13 : HCode := .seq (.region r21_10 none) k21_14
@[simp] def k21_11 : HCode := .cond (.loc 28) k21_12 k21_13
@[simp] def k21_10 : HCode := .seq (.region r21_8 none) k21_11
@[simp] def k21_8 : HCode := .cond (.loc 22) k21_9 k21_10
@[simp] def k21_7 : HCode := .seq (.region r21_6 none) k21_8
@[simp] def k21_5 : HCode := .cond (.loc 16) k21_6 k21_7
@[simp] def k21_4 : HCode := .seq (.region r21_4 none) k21_5
@[simp] def k21_2 : HCode := .cond (.loc 5) k21_3 k21_4
@[simp] def k21_1 : HCode := .block 0 (.seq (.region r21_2 none) k21_2)
@[simp] def k21_36 : HCode := .seq (.region r21_25 none) .ret
@[simp] def k21_35 : HCode := .cond (.loc 80) k21_36 .skip
def k21_37 : HCode := .seq (.region r21_26 (some [ ( 0, [ 1 ] ) , ( 0, [ 84 ] ) , ( 0, [ 85 ] ) , ( 0, [ 1 ] ) , ( 2, [ 87 ] ) , ( 2, [ 88 ] ) , ( 0, [ 86, 89 ] ) , ( 0, [ 90 ] ) ])) .ret
def k21_34 : HCode := .seq (.seq (.region r21_24 none) k21_35) k21_37
@[simp] def k21_0 : HCode := .seq (.seq (.region r21_1 none) k21_1) k21_34
@[simp] def fn21 : HFn := { nargs := 1, results := [.tmp 2], mode := .iso, code := (.seq (.region r21_0 none) k21_0) }
theorem c21 : cFn Tryd.prog (Hs 21) .iso 21 = some fn21 := by kernel_rfl
/- sterling/syntax.sig -/
@[simp] def r29_0 : List HOp := [⟨(some 1), true, .box true (.env 0), none⟩,
     ⟨(some 2), true, .mv (.val (.tr (.sc (.string ⟨⟨[]⟩⟩)))), none⟩]
@[simp] def r29_1 : List HOp := [⟨(some 3), false, .ldt 4 true (.env 1), none⟩,
     ⟨(some 4), false, .callf 25 [(.loc 3), (.val (.tr (.sc (.int .i64 0))))], none⟩,
     ⟨(some 5), false, .field 3 1 false (.loc 4), none⟩,
     ⟨(some 6), false, .callf 27 [(.loc 5), (.val (.tr (.sc (.string ⟨⟨[44, 32]⟩⟩))))], none⟩,
     ⟨(some 7), false, .bin .other .add (.val (.tr (.sc (.string ⟨⟨[40]⟩⟩)))) (.loc 6), none⟩,
     ⟨(some 8), false, .bin .other .add (.loc 7) (.val (.tr (.sc (.string ⟨⟨[41]⟩⟩)))), none⟩,
     ⟨(some 9), false, .ldt 4 true (.env 1), none⟩,
     ⟨(some 10), false, .callf 31 [(.val (.tr (.sc (.string ⟨⟨[32]⟩⟩)))), (.loc 9), (.val (.tr (.sc (.int .i64 1))))], none⟩,
     ⟨(some 11), false, .bin .other .add (.loc 8) (.loc 10), none⟩,
     ⟨(some 2), true, .mv (.loc 11), none⟩]
@[simp] def k29_0 : HCode := .seq (.region r29_1 (some [ ( 0, [ 1 ] ) , ( 2, [ 3 ] ) , ( 0, [ 4 ] ) , ( 2, [ 5 ] ) , ( 0, [ 6 ] ) , ( 0, [ 7 ] ) , ( 0, [ 1 ] ) , ( 2, [ 9 ] ) , ( 0, [ 8, 10 ] ) , ( 0, [ 11 ] ) ])) .ret
@[simp] def fn29 : HFn := { nargs := 1, results := [.tmp 2], mode := .iso, code := (.seq (.region r29_0 none) k29_0) }
theorem c29 : cFn Tryd.prog (Hs 29) .iso 29 = some fn29 := by kernel_rfl
/- sterling/syntax.behind -/
@[simp] def r31_0 : List HOp := [⟨(some 4), true, .box true (.env 1), none⟩,
     ⟨(some 6), true, .mv (.val (.tr (.sc (.string ⟨⟨[]⟩⟩)))), none⟩]
@[simp] def r31_1 : List HOp := [⟨(some 7), false, .load 4 true (.env 4), none⟩,
      ⟨(some 8), false, .mv (.env 2), none⟩,
      ⟨(some 9), false, .callf 33 [(.loc 7), (.loc 8)], none⟩,
      ⟨(some 10), false, .un .not (.loc 9), none⟩]
@[simp] def r31_2 : List HOp := [⟨(some 6), true, .mv (.val (.tr (.sc (.string ⟨⟨[]⟩⟩)))), none⟩]
@[simp] def r31_3 : List HOp := [⟨(some 11), false, .mv (.env 0), none⟩,
     ⟨(some 12), false, .load 4 true (.env 4), none⟩,
     ⟨(some 13), false, .mv (.env 2), none⟩,
     ⟨(some 14), false, .callf 25 [(.loc 12), (.loc 13)], none⟩,
     ⟨(some 15), false, .callf 17 [(.loc 14)], none⟩,
     ⟨(some 16), false, .bin .other .add (.loc 11) (.loc 15), none⟩,
     ⟨(some 6), true, .mv (.loc 16), none⟩]
@[simp] def k31_2 : HCode := .seq (.region r31_2 none) .ret
@[simp] def k31_1 : HCode := .cond (.loc 10) k31_2 .skip
def k31_3 : HCode := .seq (.region r31_3 none) .ret
@[simp] def k31_0 : HCode := .seq (.seq (.region r31_1 none) k31_1) k31_3
@[simp] def fn31 : HFn := { nargs := 3, results := [.tmp 6], mode := .iso, code := (.seq (.region r31_0 none) k31_0) }
theorem c31 : cFn Tryd.prog (Hs 31) .iso 31 = some fn31 := by kernel_rfl
/- sterling/syntax.is -/
@[simp] def r33_0 : List HOp := [⟨(some 2), true, .box true (.env 0), none⟩,
     ⟨(some 4), true, .mv (.val (.tr (.sc (.bool false)))), none⟩]
@[simp] def r33_1 : List HOp := [⟨(some 5), false, .load 4 true (.env 2), none⟩,
     ⟨(some 6), false, .mv (.env 1), none⟩,
     ⟨(some 7), false, .callf 25 [(.loc 5), (.loc 6)], none⟩,
     ⟨(some 8), false, .field 0 1 false (.loc 7), none⟩,
     ⟨(some 9), false, .bin .other .neq (.loc 8) (.val (.tr (.sc (.int .i64 0)))), none⟩,
     ⟨(some 4), true, .mv (.loc 9), none⟩]
@[simp] def k33_0 : HCode := .seq (.region r33_1 none) .ret
@[simp] def fn33 : HFn := { nargs := 2, results := [.tmp 4], mode := .iso, code := (.seq (.region r33_0 none) k33_0) }
theorem c33 : cFn Tryd.prog (Hs 33) .iso 33 = some fn33 := by kernel_rfl
/- sterling/syntax.between -/
@[simp] def r30_0 : List HOp := [⟨(some 4), true, .mv (.val (.tr (.sc (.string ⟨⟨[]⟩⟩)))), none⟩]
@[simp] def r30_1 : List HOp := [⟨(some 5), false, .mv (.env 0), none⟩,
     ⟨(some 6), false, .bin .other .add (.loc 5) (.val (.tr (.sc (.string ⟨⟨[123, 32]⟩⟩)))), none⟩,
     ⟨(some 7), false, .mv (.env 1), none⟩,
     ⟨(some 8), false, .callf 27 [(.loc 7), (.val (.tr (.sc (.string ⟨⟨[59, 32]⟩⟩))))], none⟩,
     ⟨(some 9), false, .bin .other .add (.loc 6) (.loc 8), none⟩,
     ⟨(some 10), false, .bin .other .add (.loc 9) (.val (.tr (.sc (.string ⟨⟨[32, 125]⟩⟩)))), none⟩,
     ⟨(some 4), true, .mv (.loc 10), none⟩]
@[simp] def k30_0 : HCode := .seq (.region r30_1 none) .ret
@[simp] def fn30 : HFn := { nargs := 2, results := [.tmp 4], mode := .iso, code := (.seq (.region r30_0 none) k30_0) }
theorem c30 : cFn Tryd.prog (Hs 30) .iso 30 = some fn30 := by kernel_rfl
/- sterling/syntax.simple -/
@[simp] def r22_0 : List HOp := [⟨(some 1), true, .box true (.env 0), none⟩,
     ⟨(some 2), true, .mv (.val (.tr (.sc (.string ⟨⟨[]⟩⟩)))), none⟩]
@[simp] def r22_1 : List HOp := [⟨(some 4), false, .faddr 0 (.env 1), none⟩,
      ⟨(some 5), true, .load 1 false (.loc 4), none⟩]
@[simp] def r22_2 : List HOp := [⟨(some 7), false, .bin .other .eql (.env 5) (.val (.tr (.sc (.int .i64 28)))), none⟩,
       ⟨(some 6), false, .mv (.loc 7), none⟩]
@[simp] def r22_3 : List HOp := [⟨(some 8), false, .faddr 3 (.env 1), none⟩,
        ⟨(some 9), false, .load 1 false (.loc 8), none⟩,
        ⟨(some 10), false, .callf 30 [(.val (.tr (.sc (.string ⟨⟨[]⟩⟩)))), (.loc 9)], none⟩,
        ⟨(some 2), true, .mv (.loc 10), none⟩]
@[simp] def r22_4 : List HOp := [⟨(some 12), false, .bin .other .eql (.env 5) (.val (.tr (.sc (.int .i64 29)))), none⟩,
        ⟨(some 11), false, .mv (.loc 12), none⟩]
@[simp] def r22_5 : List HOp := [⟨(some 13), false, .faddr 2 (.env 1), none⟩,
         ⟨(some 14), false, .ldt 1 false (.loc 13), none⟩,
         ⟨(some 15), false, .bin .other .add (.val (.tr (.sc (.string ⟨⟨[118, 97, 114, 32]⟩⟩)))) (.loc 14), none⟩,
         ⟨(some 16), false, .ldt 4 true (.env 1), none⟩,
         ⟨(some 17), false, .callf 31 [(.val (.tr (.sc (.string ⟨⟨[32]⟩⟩)))), (.loc 16), (.val (.tr (.sc (.int .i64 0))))], none⟩,
         ⟨(some 18), false, .bin .other .add (.loc 15) (.loc 17), none⟩,
         ⟨(some 19), false, .ldt 4 true (.env 1), none⟩,
         ⟨(some 20), false, .callf 31 [(.val (.tr (.sc (.string ⟨⟨[32, 61, 32]⟩⟩)))), (.loc 19), (.val (.tr (.sc (.int .i64 1))))], none⟩,
         ⟨(some 21), false, .bin .other .add (.loc 18) (.loc 20), none⟩,
         ⟨(some 2), true, .mv (.loc 21), none⟩]
@[simp] def r22_6 : List HOp := [⟨(some 23), false, .bin .other .eql (.env 5) (.val (.tr (.sc (.int .i64 30)))), none⟩,
         ⟨(some 22), false, .mv (.loc 23), none⟩]
@[simp] def r22_7 : List HOp := [⟨(some 24), false, .faddr 2 (.env 1), none⟩,
          ⟨(some 25), false, .ldt 1 false (.loc 24), none⟩,
          ⟨(some 26), false, .bin .other .add (.val (.tr (.sc (.string ⟨⟨[99, 111, 110, 115, 116, 32]⟩⟩)))) (.loc 25), none⟩,
          ⟨(some 27), false, .ldt 4 true (.env 1), none⟩,
          ⟨(some 28), false, .callf 31 [(.val (.tr (.sc (.string ⟨⟨[32]⟩⟩)))), (.loc 27), (.val (.tr (.sc (.int .i64 0))))], none⟩,
          ⟨(some 29), false, .bin .other .add (.loc 26) (.loc 28), none⟩,
          ⟨(some 30), false, .ldt 4 true (.env 1), none⟩,
          ⟨(some 31), false, .callf 31 [(.val (.tr (.sc (.string ⟨⟨[32, 61, 32]⟩⟩)))), (.loc 30), (.val (.tr (.sc (.int .i64 1))))], none⟩,
          ⟨(some 32), false, .bin .other .add (.loc 29) (.loc 31), none⟩,
          ⟨(some 2), true, .mv (.loc 32), none⟩]
@[simp] def r22_8 : List HOp := [⟨(some 34), false, .bin .other .eql (.env 5) (.val (.tr (.sc (.int .i64 31)))), none⟩,
          ⟨(some 33), false, .mv (.loc 34), none⟩]
@[simp] def r22_9 : List HOp := [⟨(some 35), false, .faddr 2 (.env 1), none⟩,
           ⟨(some 36), false, .ldt 1 false (.loc 35), none⟩,
           ⟨(some 37), false, .bin .other .add (.val (.tr (.sc (.string ⟨⟨[116, 121, 112, 101, 32]⟩⟩)))) (.loc 36), none⟩,
           ⟨(some 38), false, .ldt 4 true (.env 1), none⟩,
           ⟨(some 39), false, .callf 25 [(.loc 38), (.val (.tr (.sc (.int .i64 0))))], none⟩,
           ⟨(some 40), false, .callf 32 [(.loc 39)], none⟩,
           ⟨(some 41), false, .bin .other .add (.loc 37) (.loc 40), none⟩,
           ⟨(some 42), false, .bin .other .add (.loc 41) (.val (.tr (.sc (.string ⟨⟨[32]⟩⟩)))), none⟩,
           ⟨(some 43), false, .ldt 4 true (.env 1), none⟩,
           ⟨(some 44), false, .callf 25 [(.loc 43), (.val (.tr (.sc (.int .i64 1))))], none⟩,
           ⟨(some 45), false, .callf 17 [(.loc 44)], none⟩,
           ⟨(some 46), false, .bin .other .add (.loc 42) (.loc 45), none⟩,
           ⟨(some 2), true, .mv (.loc 46), none⟩]
@[simp] def r22_10 : List HOp := [⟨(some 48), false, .bin .other .eql (.env 5) (.val (.tr (.sc (.int .i64 32)))), none⟩,
           ⟨(some 47), false, .mv (.loc 48), none⟩]
@[simp] def r22_11 : List HOp := [⟨(some 3), true, .mv (.val (.tr (.sc (.string ⟨⟨[]⟩⟩)))), none⟩]
@[simp] def r22_12 : List HOp := [⟨(some 49), false, .load 4 true (.env 1), none⟩,
             ⟨(some 50), false, .callf 33 [(.loc 49), (.val (.tr (.sc (.int .i64 0))))], none⟩]
@[simp] def r22_13 : List HOp := [⟨(some 51), false, .load 4 true (.env 1), none⟩,
             ⟨(some 52), false, .callf 25 [(.loc 51), (.val (.tr (.sc (.int .i64 0))))], none⟩,
             ⟨(some 53), false, .callf 17 [(.loc 52)], none⟩,
             ⟨(some 54), false, .bin .other .add (.val (.tr (.sc (.string ⟨⟨[40]⟩⟩)))) (.loc 53), none⟩,
             ⟨(some 55), false, .bin .other .add (.loc 54) (.val (.tr (.sc (.string ⟨⟨[41, 32]⟩⟩)))), none⟩,
             ⟨(some 3), true, .mv (.loc 55), none⟩]
@[simp] def r22_14 : List HOp := [⟨(some 56), false, .mv (.env 3), none⟩,
            ⟨(some 57), false, .bin .other .add (.val (.tr (.sc (.string ⟨⟨[102, 117, 110, 99, 32]⟩⟩)))) (.loc 56), none⟩,
            ⟨(some 58), false, .faddr 2 (.env 1), none⟩,
            ⟨(some 59), false, .ldt 1 false (.loc 58), none⟩,
            ⟨(some 60), false, .bin .other .add (.loc 57) (.loc 59), none⟩,
            ⟨(some 61), false, .ldt 4 true (.env 1), none⟩,
            ⟨(some 62), false, .callf 25 [(.loc 61), (.val (.tr (.sc (.int .i64 1))))], none⟩,
            ⟨(some 63), false, .callf 32 [(.loc 62)], none⟩,
            ⟨(some 64), false, .bin .other .add (.loc 60) (.loc 63), none⟩,
            ⟨(some 65), false, .ldt 4 true (.env 1), none⟩,
            ⟨(some 66), false, .callf 25 [(.loc 65), (.val (.tr (.sc (.int .i64 2))))], none⟩,
            ⟨(some 67), false, .callf 29 [(.loc 66)], none⟩,
            ⟨(some 68), false, .bin .other .add (.loc 64) (.loc 67), none⟩,
            ⟨(some 69), false, .bin .other .add (.loc 68) (.val (.tr (.sc (.string ⟨⟨[32]⟩⟩)))), none⟩,
            ⟨(some 70), false, .ldt 4 true (.env 1), none⟩,
            ⟨(some 71), false, .callf 25 [(.loc 70), (.val (.tr (.sc (.int .i64 3))))], none⟩,
            ⟨(some 72), false, .callf 17 [(.loc 71)], none⟩,
            ⟨(some 73), false, .bin .other .add (.loc 69) (.loc 72), none⟩,
            ⟨(some 2), true, .mv (.loc 73), none⟩]
@[simp] def r22_15 : List HOp := [⟨(some 75), false, .bin .other .eql (.env 5) (.val (.tr (.sc (.int .i64 33)))), none⟩,
            ⟨(some 74), false, .mv (.loc 75), none⟩]
@[simp] def r22_16 : List HOp := [⟨(some 76), false, .faddr 2 (.env 1), none⟩,
             ⟨(some 77), false, .ldt 1 false (.loc 76), none⟩,
             ⟨(some 78), false, .bin .other .add (.loc 77) (.val (.tr (.sc (.string ⟨⟨[32, 58, 61, 32]⟩⟩)))), none⟩,
             ⟨(some 79), false, .ldt 4 true (.env 1), none⟩,
             ⟨(some 80), false, .callf 25 [(.loc 79), (.val (.tr (.sc (.int .i64 0))))], none⟩,
             ⟨(some 81), false, .callf 17 [(.loc 80)], none⟩,
             ⟨(some 82), false, .bin .other .add (.loc 78) (.loc 81), none⟩,
             ⟨(some 2), true, .mv (.loc 82), none⟩]
@[simp] def r22_17 : List HOp := [⟨(some 84), false, .bin .other .eql (.env 5) (.val (.tr (.sc (.int .i64 34)))), none⟩,
             ⟨(some 83), false, .mv (.loc 84), none⟩]
@[simp] def r22_18 : List HOp := [⟨(some 85), false, .ldt 4 true (.env 1), none⟩,
              ⟨(some 86), false, .callf 25 [(.loc 85), (.val (.tr (.sc (.int .i64 0))))], none⟩,
              ⟨(some 87), false, .callf 17 [(.loc 86)], none⟩,
              ⟨(some 88), false, .bin .other .add (.loc 87) (.val (.tr (.sc (.string ⟨⟨[32]⟩⟩)))), none⟩,
              ⟨(some 89), false, .faddr 2 (.env 1), none⟩,
              ⟨(some 90), false, .ldt 1 false (.loc 89), none⟩,
              ⟨(some 91), false, .bin .other .add (.loc 88) (.loc 90), none⟩,
              ⟨(some 92), false, .bin .other .add (.loc 91) (.val (.tr (.sc (.string ⟨⟨[32]⟩⟩)))), none⟩,
              ⟨(some 93), false, .ldt 4 true (.env 1), none⟩,
              ⟨(some 94), false, .callf 25 [(.loc 93), (.val (.tr (.sc (.int .i64 1))))], none⟩,
              ⟨(some 95), false, .callf 17 [(.loc 94)], none⟩,
              ⟨(some 96), false, .bin .other .add (.loc 92) (.loc 95), none⟩,
              ⟨(some 2), true, .mv (.loc 96), none⟩]
@[simp] def r22_19 : List HOp := [⟨(some 98), false, .bin .other .eql (.env 5) (.val (.tr (.sc (.int .i64 35)))), none⟩,
              ⟨(some 97), false, .mv (.loc 98), none⟩]
@[simp] def r22_20 : List HOp := [⟨(some 99), false, .ldt 4 true (.env 1), none⟩,
               ⟨(some 100), false, .callf 25 [(.loc 99), (.val (.tr (.sc (.int .i64 0))))], none⟩,
               ⟨(some 101), false, .callf 17 [(.loc 100)], none⟩,
               ⟨(some 102), false, .faddr 2 (.env 1), none⟩,
               ⟨(some 103), false, .ldt 1 false (.loc 102), none⟩,
               ⟨(some 104), false, .bin .other .add (.loc 101) (.loc 103), none⟩,
               ⟨(some 2), true, .mv (.loc 104), none⟩]
@[simp] def r22_21 : List HOp := [⟨(some 106), false, .bin .other .eql (.env 5) (.val (.tr (.sc (.int .i64 43)))), none⟩,
               ⟨(some 105), false, .mv (.loc 106), none⟩]
@[simp] def r22_22 : List HOp := [⟨(some 107), false, .load 4 true (.env 1), none⟩,
                ⟨(some 108), false, .callf 31 [(.val (.tr (.sc (.string ⟨⟨[32]⟩⟩)))), (.loc 107), (.val (.tr (.sc (.int .i64 0))))], none⟩,
                ⟨(some 109), false, .bin .other .add (.val (.tr (.sc (.string ⟨⟨[114, 101, 116, 117, 114, 110]⟩⟩)))) (.loc 108), none⟩,
                ⟨(some 2), true, .mv (.loc 109), none⟩]
@[simp] def r22_23 : List HOp := [⟨(some 111), false, .bin .other .eql (.env 5) (.val (.tr (.sc (.int .i64 44)))), none⟩,
                ⟨(some 110), false, .mv (.loc 111), none⟩]
@[simp] def r22_24 : List HOp := [⟨(some 112), false, .faddr 2 (.env 1), none⟩,
                 ⟨(some 113), false, .load 1 false (.loc 112), none⟩,
                 ⟨(some 114), false, .bin .other .add (.val (.tr (.sc (.string ⟨⟨[98, 114, 101, 97, 107, 32]⟩⟩)))) (.loc 113), none⟩,
                 ⟨(some 115), false, .callf 34 [(.loc 114), (.val (.tr (.sc (.string ⟨⟨[32]⟩⟩))))], none⟩,
                 ⟨(some 2), true, .mv (.loc 115), none⟩]
@[simp] def r22_25 : List HOp := [⟨(some 117), false, .bin .other .eql (.env 5) (.val (.tr (.sc (.int .i64 45)))), none⟩,
                 ⟨(some 116), false, .mv (.loc 117), none⟩]
@[simp] def r22_26 : List HOp := [⟨(some 118), false, .faddr 2 (.env 1), none⟩,
                  ⟨(some 119), false, .load 1 false (.loc 118), none⟩,
                  ⟨(some 120), false, .bin .other .add (.val (.tr (.sc (.string ⟨⟨[99, 111, 110, 116, 105, 110, 117, 101, 32]⟩⟩)))) (.loc 119), none⟩,
                  ⟨(some 121), false, .callf 34 [(.loc 120), (.val (.tr (.sc (.string ⟨⟨[32]⟩⟩))))], none⟩,
                  ⟨(some 2), true, .mv (.loc 121), none⟩]
@[simp] def r22_27 : List HOp := [⟨(some 123), false, .bin .other .eql (.env 5) (.val (.tr (.sc (.int .i64 47)))), none⟩,
                  ⟨(some 122), false, .mv (.loc 123), none⟩]
@[simp] def r22_28 : List HOp := [⟨(some 124), false, .load 4 true (.env 1), none⟩,
                   ⟨(some 125), false, .callf 25 [(.loc 124), (.val (.tr (.sc (.int .i64 0))))], none⟩,
                   ⟨(some 126), false, .callf 17 [(.loc 125)], none⟩,
                   ⟨(some 127), false, .bin .other .add (.val (.tr (.sc (.string ⟨⟨[100, 101, 102, 101, 114, 32]⟩⟩)))) (.loc 126), none⟩,
                   ⟨(some 2), true, .mv (.loc 127), none⟩]
@[simp] def r22_29 : List HOp := [⟨(some 128), false, .load 4 true (.env 1), none⟩,
     ⟨(some 129), false, .callf 25 [(.loc 128), (.val (.tr (.sc (.int .i64 0))))], none⟩,
     ⟨(some 130), false, .callf 17 [(.loc 129)], none⟩,
     ⟨(some 2), true, .mv (.loc 130), none⟩]
@[simp] def k22_3 : HCode := .seq (.region r22_3 none) .ret
@[simp] def k22_6 : HCode := .seq (.region r22_5 (some [ ( 0, [ 1 ] ) , ( 0, [ 13 ] ) , ( 0, [ 14 ] ) , ( 0, [ 1 ] ) , ( 2, [ 16 ] ) , ( 0, [ 15, 17 ] ) , ( 0, [ 1 ] ) , ( 2, [ 19 ] ) , ( 0, [ 18, 20 ] ) , ( 0, [ 21 ] ) ])) .ret
@[simp] def k22_9 : HCode := .seq (.region r22_7 (some [ ( 0, [ 1 ] ) , ( 0, [ 24 ] ) , ( 0, [ 25 ] ) , ( 0, [ 1 ] ) , ( 2, [ 27 ] ) , ( 0, [ 26, 28 ] ) , ( 0, [ 1 ] ) , ( 2, [ 30 ] ) , ( 0, [ 29, 31 ] ) , ( 0, [ 32 ] ) ])) .ret
@[simp] def k22_12 : HCode := .seq (.region r22_9 (some [ ( 0, [ 1 ] ) , ( 0, [ 35 ] ) , ( 0, [ 36 ] ) , ( 0, [ 1 ] ) , ( 2, [ 38 ] ) , ( 2, [ 39 ] ) , ( 0, [ 37, 40 ] ) , ( 0, [ 41 ] ) , ( 0, [ 1 ] ) , ( 2, [ 43 ] ) , ( 2, [ 44 ] ) , ( 0, [ 42, 45 ] ) , ( 0, [ 46 ] ) ])) .ret
@[simp] def k22_17 : HCode := .cond (.loc 50) (.region r22_13 none) .skip
def k22_18 : HCode := .seq (.region r22_14 (some [ ( 0, [ 3 ] ) , ( 0, [ 56 ] ) , ( 0, [ 1 ] ) , ( 0, [ 58 ] ) , ( 0, [ 57, 59 ] ) , ( 0, [ 1 ] ) , ( 2, [ 61 ] ) , ( 2, [ 62 ] ) , ( 0, [ 60, 63 ] ) , ( 0, [ 1 ] ) , ( 2, [ 65 ] ) , ( 2, [ 66 ] ) , ( 0, [ 64, 67 ] ) , ( 0, [ 68 ] ) , ( 0, [ 1 ] ) , ( 2, [ 70 ] ) , ( 2, [ 71 ] ) , ( 0, [ 69, 72 ] ) , ( 0, [ 73 ] ) ])) .ret
@[simp] def k22_16 : HCode := .seq (.seq (.region r22_12 none) k22_17) k22_18
@[simp] def k22_15 : HCode := .seq (.region r22_11 none) k22_16
@[simp] def k22_21 : HCode := .seq (.region r22_16 (some [ ( 0, [ 1 ] ) , ( 0, [ 76 ] ) , ( 0, [ 77 ] ) , ( 0, [ 1 ] ) , ( 2, [ 79 ] ) , ( 2, [ 80 ] ) , ( 0, [ 78, 81 ] ) , ( 0, [ 82 ] ) ])) .ret
@[simp] def k22_24 : HCode := .seq (.region r22_18 (some [ ( 0, [ 1 ] ) , ( 2, [ 85 ] ) , ( 2, [ 86 ] ) , ( 0, [ 87 ] ) , ( 0, [ 1 ] ) , ( 0, [ 89 ] ) , ( 0, [ 88, 90 ] ) , ( 0, [ 91 ] ) , ( 0, [ 1 ] ) , ( 2, [ 93 ] ) , ( 2, [ 94 ] ) , ( 0, [ 92, 95 ] ) , ( 0, [ 96 ] ) ])) .ret
@[simp] def k22_27 : HCode := .seq (.region r22_20 (some [ ( 0, [ 1 ] ) , ( 2, [ 99 ] ) , ( 2, [ 100 ] ) , ( 0, [ 1 ] ) , ( 0, [ 102 ] ) , ( 0, [ 101, 103 ] ) , ( 0, [ 104 ] ) ])) .ret
@[simp] def k22_30 : HCode := .seq (.region r22_22 none) .ret
@[simp] def k22_33 : HCode := .seq (.region r22_24 none) .ret
@[simp] def k22_36 : HCode := .seq (.region r22_26 none) .ret
@[simp] def k22_39 : HCode := .seq (.region r22_28 none) .ret
@[simp] def k22_38 : HCode := .cond (.loc 122) k22_39 .skip
@[simp] def k22_37 : HCode := .seq (.region r22_27 none) k22_38
@[simp] def k22_35 : HCode := .cond (.loc 116) k22_36 k22_37
@[simp] def k22_34 : HCode := .seq (.region r22_25 none) k22_35
@[simp] def k22_32 : HCode := .cond (.loc 110) k22_33 k22_34
@[simp] def k22_31 : HCode := .seq (.region r22_23 none) k22_32
@[simp] def k22_29 : HCode := .cond (.loc 105) k22_30 k22_31
@[simp] def k22_28 : HCode := .seq (.region r22_21 none) k22_29
@[simp] def k22_26 : HCode := .cond (.loc 97) k22_27 k22_28
@[simp] def k22_25 : HCode := .seq (.region r22_19 none) k22_26
@[simp] def k22_23 : HCode := .cond (.loc 83) k22_24 k22_25
@[simp] def k22_22 : HCode := .seq (.region r22_17 none) k22_23
@[simp] def k22_20 : HCode := .cond (.loc 74) k22_21 k22_22
@[simp] def k22_19 : HCode := .seq (.region r22_15 none) k22_20
@[simp] def k22_14 : HCode := .cond (.loc 47) k22_15 k22_19
@[simp] def k22_13 : HCode := .seq (.region r22_10 none) k22_14
@[simp] def k22_11 : HCode := .cond (.loc 33) k22_12 k22_13
@[simp] def k22_10 : HCode := .seq (.region r22_8 none) k22_11
@[simp] def k22_8 : HCode := .cond (.loc 22) k22_9 k22_10
@[simp] def k22_7 : HCode := .seq (.region r22_6 none) k22_8
@[simp] def k22_5 : HCode := .cond (.loc 11) k22_6 k22_7
@[simp] def k22_4 : HCode := .seq (.region r22_4 none) k22_5
@[simp] def k22_2 : HCode := .cond (.loc 6) k22_3 k22_4
@[simp] def k22_1 : HCode := .block 0 (.seq (.region r22_2 none) k22_2)
def k22_40 : HCode := .seq (.region r22_29 none) .ret
@[simp] def k22_0 : HCode := .seq (.seq (.region r22_1 none) k22_1) k22_40
@[simp] def fn22 : HFn := { nargs := 1, results := [.tmp 2], mode := .iso, code := (.seq (.region r22_0 none) k22_0) }
theorem c22 : cFn Tryd.prog (Hs 22) .iso 22 = some fn22 := by kernel_rfl
/- sterling/syntax.generic -/
@[simp] def r32_0 : List HOp := [⟨(some 1), true, .box true (.env 0), none⟩,
     ⟨(some 2), true, .mv (.val (.tr (.sc (.string ⟨⟨[]⟩⟩)))), none⟩]
@[simp] def r32_1 : List HOp := [⟨(some 3), false, .faddr 3 (.env 1), none⟩,
      ⟨(some 4), false, .load 1 false (.loc 3), none⟩,
      ⟨(some 5), false, .len 1 (.loc 4), none⟩,
      ⟨(some 6), false, .bin .other .eql (.loc 5) (.val (.tr (.sc (.int .i64 0)))), none⟩]
@[simp] def r32_2 : List HOp := [⟨(some 2), true, .mv (.val (.tr (.sc (.string ⟨⟨[]⟩⟩)))), none⟩]
@[simp] def r32_3 : List HOp := [⟨(some 7), false, .faddr 3 (.env 1), none⟩,
     ⟨(some 8), false, .load 1 false (.loc 7), none⟩,
     ⟨(some 9), false, .callf 27 [(.loc 8), (.val (.tr (.sc (.string ⟨⟨[44, 32]⟩⟩))))], none⟩,
     ⟨(some 10), false, .bin .other .add (.val (.tr (.sc (.string ⟨⟨[91]⟩⟩)))) (.loc 9), none⟩,
     ⟨(some 11), false, .bin .other .add (.loc 10) (.val (.tr (.sc (.string ⟨⟨[93]⟩⟩)))), none⟩,
     ⟨(some 2), true, .mv (.loc 11), none⟩]
@[simp] def k32_2 : HCode := .seq (.region r32_2 none) .ret
@[simp] def k32_1 : HCode := .cond (.loc 6) k32_2 .skip
def k32_3 : HCode := .seq (.region r32_3 none) .ret
@[simp] def k32_0 : HCode := .seq (.seq (.region r32_1 none) k32_1) k32_3
@[simp] def fn32 : HFn := { nargs := 1, results := [.tmp 2], mode := .iso, code := (.seq (.region r32_0 none) k32_0) }
theorem c32 : cFn Tryd.prog (Hs 32) .iso 32 = some fn32 := by kernel_rfl
/- strings.TrimRight -/
@[simp] def r34_0 : List HOp := [⟨(some 4), true, .mv (.val (.tr (.sc (.string ⟨⟨[]⟩⟩)))), none⟩]
@[simp] def r34_1 : List HOp := [⟨(some 7), false, .mv (.env 0), none⟩,
      ⟨(some 8), false, .bin .other .eql (.loc 7) (.val (.tr (.sc (.string ⟨⟨[]⟩⟩)))), none⟩,
      ⟨(some 9), false, .mv (.loc 8), none⟩,
      ⟨(some 10), false, .mv (.env 1), some ((.loc 9), false)⟩,
      ⟨(some 11), false, .bin .other .eql (.loc 10) (.val (.tr (.sc (.string ⟨⟨[]⟩⟩)))), some ((.loc 9), false)⟩,
      ⟨(some 12), false, .pick (.loc 9) (.val (.tr (.sc (.bool true)))) (.loc 11), none⟩]
@[simp] def r34_2 : List HOp := [⟨(some 13), false, .mv (.env 0), none⟩,
       ⟨(some 4), true, .mv (.loc 13), none⟩]
@[simp] def r34_3 : List HOp := [⟨(some 14), false, .mv (.env 1), none⟩,
      ⟨(some 15), false, .len 0 (.loc 14), none⟩,
      ⟨(some 16), false, .bin .other .eql (.loc 15) (.val (.tr (.sc (.int .i64 1)))), none⟩,
      ⟨(some 17), false, .mv (.loc 16), none⟩,
      ⟨(some 18), false, .mv (.env 1), some ((.loc 17), true)⟩,
      ⟨(some 19), false, .istr (.loc 18) (.val (.tr (.sc (.int .i64 0)))), some ((.loc 17), true)⟩,
      ⟨(some 20), false, .bin .other .lss (.loc 19) (.val (.tr (.sc (.int .u8 128)))), some ((.loc 17), true)⟩,
      ⟨(some 21), false, .pick (.loc 17) (.loc 20) (.val (.tr (.sc (.bool false)))), none⟩]
@[simp] def r34_4 : List HOp := [⟨(some 22), false, .mv (.env 0), none⟩,
       ⟨(some 23), false, .mv (.env 1), none⟩,
       ⟨(some 24), false, .istr (.loc 23) (.val (.tr (.sc (.int .i64 0)))), none⟩,
       ⟨(some 25), false, .callf 38 [(.loc 22), (.loc 24)], none⟩,
       ⟨(some 4), true, .mv (.loc 25), none⟩]
@[simp] def r34_5 : List HOp := [⟨(some 27), false, .mv (.env 1), none⟩,
      ⟨(some 28), false, .callf 39 [(.loc 27)], none⟩,
      ⟨(some 26), false, .mv (.loc 28), none⟩,
      ⟨(some 29), false, .extract (.loc 26) 0, none⟩,
      ⟨(some 30), false, .extract (.loc 26) 1, none⟩,
      ⟨(some 5), true, .alloc [(.sc (.bool false)), (.sc (.bool false)), (.sc (.bool false)), (.sc (.bool false)), (.sc (.bool false)), (.sc (.bool false)), (.sc (.bool false)), (.sc (.bool false)), (.sc (.bool false)), (.sc (.bool false)), (.sc (.bool false)), (.sc (.bool false)), (.sc (.bool false)), (.sc (.bool false)), (.sc (.bool false)), (.sc (.bool false)), (.sc (.bool false)), (.sc (.bool false)), (.sc (.bool false)), (.sc (.bool false)), (.sc (.bool false)), (.sc (.bool false)), (.sc (.bool false)), (.sc (.bool false)), (.sc (.bool false)), (.sc (.bool false)), (.sc (.bool false)), (.sc (.bool false)), (.sc (.bool false)), (.sc (.bool false)), (.sc (.bool false)), (.sc (.bool false)), (.sc (.bool false)), (.sc (.bool false)), (.sc (.bool false)), (.sc (.bool false)), (.sc (.bool false)), (.sc (.bool false)), (.sc (.bool false)), (.sc (.bool false)), (.sc (.bool false)), (.sc (.bool false)), (.sc (.bool false)), (.sc (.bool false)), (.sc (.bool false)), (.sc (.bool false)), (.sc (.bool false)), (.sc (.bool false)), (.sc (.bool false)), (.sc (.bool false)), (.sc (.bool false)), (.sc (.bool false)), (.sc (.bool false)), (.sc (.bool false)), (.sc (.bool false)), (.sc (.bool false)), (.sc (.bool false)), (.sc (.bool false)), (.sc (.bool false)), (.sc (.bool false)), (.sc (.bool false)), (.sc (.bool false)), (.sc (.bool false)), (.sc (.bool false)), (.sc (.bool false)), (.sc (.bool false)), (.sc (.bool false)), (.sc (.bool false)), (.sc (.bool false)), (.sc (.bool false)), (.sc (.bool false)), (.sc (.bool false)), (.sc (.bool false)), (.sc (.bool false)), (.sc (.bool false)), (.sc (.bool false)), (.sc (.bool false)), (.sc (.bool false)), (.sc (.bool false)), (.sc (.bool false)), (.sc (.bool false)), (.sc (.bool false)), (.sc (.bool false)), (.sc (.bool false)), (.sc (.bool false)), (.sc (.bool false)), (.sc (.bool false)), (.sc (.bool false)), (.sc (.bool false)), (.sc (.bool false)), (.sc (.bool false)), (.sc (.bool false)), (.sc (.bool false)), (.sc (.bool false)), (.sc (.bool false)), (.sc (.bool false)), (.sc (.bool false)), (.sc (.bool false)), (.sc (.bool false)), (.sc (.bool false)), (.sc (.bool false)), (.sc (.bool false)), (.sc (.bool false)), (.sc (.bool false)), (.sc (.bool false)), (.sc (.bool false)), (.sc (.bool false)), (.sc (.bool false)), (.sc (.bool false)), (.sc (.bool false)), (.sc (.bool false)), (.sc (.bool false)), (.sc (.bool false)), (.sc (.bool false)), (.sc (.bool false)), (.sc (.bool false)), (.sc (.bool false)), (.sc (.bool false)), (.sc (.bool false)), (.sc (.bool false)), (.sc (.bool false)), (.sc (.bool false)), (.sc (.bool false)), (.sc (.bool false)), (.sc (.bool false)), (.sc (.bool false)), (.sc (.bool false)), (.sc (.bool false)), (.sc (.bool false)), (.sc (.bool false)), (.sc (.bool false)), (.sc (.bool false)), (.sc (.bool false)), (.sc (.bool false)), (.sc (.bool false)), (.sc (.bool false)), (.sc (.bool false)), (.sc (.bool false)), (.sc (.bool false)), (.sc (.bool false)), (.sc (.bool false)), (.sc (.bool false)), (.sc (.bool false)), (.sc (.bool false)), (.sc (.bool false)), (.sc (.bool false)), (.sc (.bool false)), (.sc (.bool false)), (.sc (.bool false)), (.sc (.bool false)), (.sc (.bool false)), (.sc (.bool false)), (.sc (.bool false)), (.sc (.bool false)), (.sc (.bool false)), (.sc (.bool false)), (.sc (.bool false)), (.sc (.bool false)), (.sc (.bool false)), (.sc (.bool false)), (.sc (.bool false)), (.sc (.bool false)), (.sc (.bool false)), (.sc (.bool false)), (.sc (.bool false)), (.sc (.bool false)), (.sc (.bool false)), (.sc (.bool false)), (.sc (.bool false)), (.sc (.bool false)), (.sc (.bool false)), (.sc (.bool false)), (.sc (.bool false)), (.sc (.bool false)), (.sc (.bool false)), (.sc (.bool false)), (.sc (.bool false)), (.sc (.bool false)), (.sc (.bool false)), (.sc (.bool false)), (.sc (.bool false)), (.sc (.bool false)), (.sc (.bool false)), (.sc (.bool false)), (.sc (.bool false)), (.sc (.bool false)), (.sc (.bool false)), (.sc (.bool false)), (.sc (.bool false)), (.sc (.bool false)), (.sc (.bool false)), (.sc (.bool false)), (.sc (.bool false)), (.sc (.bool false)), (.sc (.bool false)), (.sc (.bool false)), (.sc (.bool false)), (.sc (.bool false)), (.sc (.bool false)), (.sc (.bool false)), (.sc (.bool false)), (.sc (.bool false)), (.sc (.bool false)), (.sc (.bool false)), (.sc (.bool false)), (.sc (.bool false)), (.sc (.bool false)), (.sc (.bool false)), (.sc (.bool false)), (.sc (.bool false)), (.sc (.bool false)), (.sc (.bool false)), (.sc (.bool false)), (.sc (.bool false)), (.sc (.bool false)), (.sc (.bool false)), (.sc (.bool false)), (.sc (.bool false)), (.sc (.bool false)), (.sc (.bool false)), (.sc (.bool false)), (.sc (.bool false)), (.sc (.bool false)), (.sc (.bool false)), (.sc (.bool false)), (.sc (.bool false)), (.sc (.bool false)), (.sc (.bool false)), (.sc (.bool false)), (.sc (.bool false)), (.sc (.bool false)), (.sc (.bool false)), (.sc (.bool false)), (.sc (.bool false)), (.sc (.bool false)), (.sc (.bool false)), (.sc (.bool false)), (.sc (.bool false)), (.sc (.bool false)), (.sc (.bool false)), (.sc (.bool false)), (.sc (.bool false)), (.sc (.bool false)), (.sc (.bool false)), (.sc (.bool false)), (.sc (.bool false)), (.sc (.bool false)), (.sc (.bool false)), (.sc (.bool false)), (.sc (.bool false)), (.sc (.bool false)), (.sc (.bool false)), (.sc (.bool false)), (.sc (.bool false)), (.sc (.bool false)), (.sc (.bool false))], none⟩,
      ⟨none, false, .store 256 (.env 5) (.loc 29), none⟩,
      ⟨(some 6), true, .mv (.loc 30), none⟩]
@[simp] def r34_6 : List HOp := [⟨(some 31), false, .mv (.env 6), none⟩]
@[simp] def r34_7 : List HOp := [⟨(some 32), false, .mv (.env 0), none⟩,
       ⟨(some 33), false, .callf 40 [(.loc 32), (.env 5)], none⟩,
       ⟨(some 4), true, .mv (.loc 33), none⟩]
@[simp] def r34_8 : List HOp := [⟨(some 34), false, .mv (.env 0), none⟩,
     ⟨(some 35), false, .mv (.env 1), none⟩,
     ⟨(some 36), false, .callf 41 [(.loc 34), (.loc 35)], none⟩,
     ⟨(some 4), true, .mv (.loc 36), none⟩]
@[simp] def k34_2 : HCode := .seq (.region r34_2 none) .ret
@[simp] def k34_1 : HCode := .cond (.loc 12) k34_2 .skip
@[simp] def k34_5 : HCode := .seq (.region r34_4 none) .ret
@[simp] def k34_4 : HCode := .cond (.loc 21) k34_5 .skip
@[simp] def k34_9 : HCode := .seq (.region r34_7 none) .ret
@[simp] def k34_8 : HCode := .cond (.loc 31) k34_9 .skip
@[simp] def k34_7 : HCode := .seq (.region r34_6 none) k34_8
def k34_10 : HCode := .seq (.region r34_8 none) .ret
def k34_6 : HCode := .seq (.seq (.region r34_5 none) k34_7) k34_10
def k34_3 : HCode := .seq (.seq (.region r34_3 none) k34_4) k34_6
@[simp] def k34_0 : HCode := .seq (.seq (.region r34_1 none) k34_1) k34_3
@[simp] def fn34 : HFn := { nargs := 2, results := [.tmp 4], mode := .iso, code := (.seq (.region r34_0 none) k34_0) }
theorem c34 : cFn Tryd.prog (Hs 34) .iso 34 = some fn34 := by kernel_rfl
end Go.Proofs.YtimcmpndblajnaaDoor.AM.Tr
