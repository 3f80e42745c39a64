/- The functions that ImportsOrder reaches, each checked against the translation, part one. -/
import Derived.Test.YtknoiiacnfbkaaaAm3
import Derived.Test.YtknoiiacnfbkaaaProg
import Derived.KernelRfl
set_option maxRecDepth 1000000
set_option linter.unusedVariables false
set_option linter.unusedSimpArgs false
namespace Go.Proofs.Ytknoiiacnfbkaaa.AM.Io
open Go.Proofs
/-- What was chosen for each function. -/
def Hq (f : Nat) : List Nat :=  []
def Hb (f : Nat) : List Nat :=  []
def Hl (f : Nat) : List Nat :=  []
def Ho (f d : Nat) : Bool := if Nat.beq f 14 then memN d [13] else if Nat.beq f 15 then memN d [23] else false
def Hs (f : Nat) : Hints := { own := fun d => Ho f d, qa := fun d => memN d (Hq f), tu := fun _ => true, bt := fun d => memN d (Hb f), ld := fun d => memN d (Hl f) }
/-- Functions by what they answer: how many arguments, which. -/
def Te (f : Nat) : Option (Nat × Nat) := if Nat.beq f 16 then some (1, 9) else if Nat.beq f 26 then some (1, 8) else none
/- sterling/sterlinglaw19.ImportsOrder -/
@[simp] def r3_0 : List HOp := [⟨(some 4), true, .mv (.val (.tr (.sc (.bool false)))), none⟩]
@[simp] def r3_1 : List HOp := [⟨(some 13), false, .callf 6 [], none⟩,
     ⟨(some 5), true, .mv (.loc 13), none⟩]
@[simp] def r3_2 : List HOp := [⟨(some 14), false, .mv (.env 0), none⟩,
      ⟨(some 15), false, .len 1 (.loc 14), none⟩,
      ⟨(some 16), false, .bin .other .gtr (.loc 15) (.val (.tr (.sc (.int .i64 12)))), none⟩]
@[simp] def r3_3 : List HOp := [⟨(some 17), false, .mv (.env 0), none⟩,
      ⟨(some 18), false, .slice 1 (.loc 17) none (some (.val (.tr (.sc (.int .i64 12))))) none, none⟩,
      ⟨(some 0), true, .mv (.loc 18), none⟩]
@[simp] def r3_4 : List HOp := [⟨(some 6), true, .mv (.val (.tr (.sc (.slice none 0 0)))), none⟩]
@[simp] def r3_5 : List HOp := [⟨(some 7), true, .mv (.val (.tr (.sc (.int .i64 0)))), none⟩]
@[simp] def r3_6 : List HOp := [⟨(some 19), false, .mv (.env 7), none⟩,
         ⟨(some 20), false, .mv (.env 1), none⟩,
         ⟨(some 21), false, .len 1 (.loc 20), none⟩,
         ⟨(some 22), false, .bin .other .lss (.loc 19) (.loc 21), none⟩,
         ⟨(some 23), false, .mv (.loc 22), none⟩,
         ⟨(some 24), false, .mv (.env 7), some ((.loc 23), true)⟩,
         ⟨(some 25), false, .bin .other .lss (.loc 24) (.val (.tr (.sc (.int .i64 14)))), some ((.loc 23), true)⟩,
         ⟨(some 26), false, .pick (.loc 23) (.loc 25) (.val (.tr (.sc (.bool false)))), none⟩]
@[simp] def r3_7 : List HOp := [⟨(some 29), false, .mv (.env 1), none⟩,
          ⟨(some 30), false, .mv (.env 7), none⟩,
          ⟨(some 31), false, .iaddr 1 (.loc 29) (.loc 30), none⟩,
          ⟨(some 32), false, .load 1 false (.loc 31), none⟩,
          ⟨(some 8), true, .mv (.loc 32), none⟩]
@[simp] def r3_8 : List HOp := [⟨(some 33), false, .mv (.env 8), none⟩,
           ⟨(some 34), false, .len 1 (.loc 33), none⟩,
           ⟨(some 35), false, .bin .other .gtr (.loc 34) (.val (.tr (.sc (.int .i64 8)))), none⟩]
@[simp] def r3_9 : List HOp := [⟨(some 36), false, .mv (.env 8), none⟩,
           ⟨(some 37), false, .slice 1 (.loc 36) none (some (.val (.tr (.sc (.int .i64 8))))) none, none⟩,
           ⟨(some 8), true, .mv (.loc 37), none⟩]
@[simp] def r3_10 : List HOp := [⟨(some 38), false, .mv (.env 6), none⟩,
         ⟨(some 39), false, .mv (.env 8), none⟩,
         ⟨(some 40), false, .bslice false 1 1 [(.sc (.slice none 0 0))] [(0, 1, (.loc 39))], none⟩,
         ⟨(some 41), false, .append 1 24 (.loc 38) (.loc 40), none⟩,
         ⟨(some 6), true, .mv (.loc 41), none⟩]
@[simp] def r3_11 : List HOp := [⟨(some 27), false, .mv (.env 7), none⟩,
       ⟨(some 28), false, .bin .other .add (.loc 27) (.val (.tr (.sc (.int .i64 1)))), none⟩,
       ⟨(some 7), true, .mv (.loc 28), none⟩]
@[simp] def r3_12 : List HOp := [⟨(some 43), false, .mv (.env 0), none⟩,
     ⟨(some 44), false, .mv (.env 6), none⟩,
     ⟨(some 45), false, .callf 7 [(.loc 43), (.loc 44)], none⟩,
     ⟨(some 42), false, .mv (.loc 45), none⟩,
     ⟨(some 46), false, .extract (.loc 42) 0, none⟩,
     ⟨(some 47), false, .extract (.loc 42) 1, none⟩,
     ⟨(some 9), true, .mv (.loc 46), none⟩,
     ⟨(some 10), true, .mv (.loc 47), none⟩]
@[simp] def r3_13 : List HOp := [⟨(some 49), false, .mv (.env 0), none⟩,
     ⟨(some 50), false, .mv (.env 6), none⟩,
     ⟨(some 51), false, .callf 8 [(.loc 49), (.loc 50)], none⟩,
     ⟨(some 48), false, .mv (.loc 51), none⟩,
     ⟨(some 52), false, .extract (.loc 48) 0, none⟩,
     ⟨(some 53), false, .extract (.loc 48) 1, none⟩,
     ⟨(some 11), true, .mv (.loc 52), none⟩,
     ⟨(some 12), true, .mv (.loc 53), none⟩]
@[simp] def r3_14 : List HOp := [⟨(some 54), false, .mv (.env 5), none⟩,
     ⟨(some 55), false, .mv (.loc 54), none⟩,
     ⟨(some 56), false, .mv (.env 9), some ((.loc 55), true)⟩,
     ⟨(some 57), false, .mv (.env 11), some ((.loc 55), true)⟩,
     ⟨(some 58), false, .callf 9 [(.loc 56), (.loc 57)], some ((.loc 55), true)⟩,
     ⟨(some 59), false, .pick (.loc 55) (.loc 58) (.val (.tr (.sc (.bool false)))), none⟩,
     ⟨(some 60), false, .mv (.loc 59), none⟩,
     ⟨(some 61), false, .mv (.env 10), some ((.loc 60), true)⟩,
     ⟨(some 62), false, .mv (.env 12), some ((.loc 60), true)⟩,
     ⟨(some 63), false, .callf 9 [(.loc 61), (.loc 62)], some ((.loc 60), true)⟩,
     ⟨(some 64), false, .pick (.loc 60) (.loc 63) (.val (.tr (.sc (.bool false)))), none⟩,
     ⟨(some 4), true, .mv (.loc 64), none⟩]
@[simp] def k3_2 : HCode := .cond (.loc 16) (.region r3_3 none) .skip
@[simp] def k3_7 : HCode := .cond (.loc 26) .skip (.exit 0)
@[simp] def k3_10 : HCode := .cond (.loc 35) (.region r3_9 none) .skip
def k3_11 : HCode := .region r3_10 none
@[simp] def k3_9 : HCode := .seq (.seq (.region r3_8 none) k3_10) k3_11
def k3_12 : HCode := .region r3_11 none
def k3_8 : HCode := .seq (.block 1 (.seq (.region r3_7 none) k3_9)) k3_12
def k3_6 : HCode := .seq (.seq (.region r3_6 none) k3_7) k3_8
@[simp] def k3_5 : HCode := .block 0 (.loop k3_6)
@[simp] def k3_15 : HCode := .seq (.region r3_14 none) .ret
@[simp] def k3_14 : HCode := .seq (.region r3_13 none) k3_15
def k3_13 : HCode := .seq (.region r3_12 none) k3_14
@[simp] def k3_4 : HCode := .seq (.seq (.region r3_5 none) k3_5) k3_13
def k3_3 : HCode := .seq (.region r3_4 none) k3_4
@[simp] def k3_1 : HCode := .seq (.seq (.region r3_2 none) k3_2) k3_3
@[simp] def k3_0 : HCode := .seq (.region r3_1 none) k3_1
@[simp] def fn3 : HFn := { nargs := 2, results := [.tmp 4], mode := .shared, code := (.seq (.region r3_0 none) k3_0) }
theorem c3 : cFn Try.prog (Hs 3) .shared 3 = some fn3 := by kernel_rfl
/- sterling/sterlinglaw19.begun -/
@[simp] def r6_0 : List HOp := [⟨(some 0), true, .mv (.val (.tr (.sc (.bool false)))), none⟩]
@[simp] def r6_1 : List HOp := [⟨(some 4), false, .bslice false 3 1 [(.sc (.string ⟨⟨[]⟩⟩))] [(0, 1, (.val (.tr (.sc (.string ⟨⟨[120]⟩⟩))))), (1, 1, (.val (.tr (.sc (.string ⟨⟨[121]⟩⟩))))), (2, 1, (.val (.tr (.sc (.string ⟨⟨[122]⟩⟩)))))], none⟩,
     ⟨(some 5), false, .bslice false 1 1 [(.sc (.string ⟨⟨[]⟩⟩))] [(0, 1, (.val (.tr (.sc (.string ⟨⟨[121]⟩⟩)))))], none⟩,
     ⟨(some 6), false, .bslice false 1 1 [(.sc (.string ⟨⟨[]⟩⟩))] [(0, 1, (.val (.tr (.sc (.string ⟨⟨[122]⟩⟩)))))], none⟩,
     ⟨(some 7), false, .bslice false 3 1 [(.sc (.slice none 0 0))] [(0, 1, (.loc 5)), (1, 1, (.val (.tr (.sc (.slice none 0 0))))), (2, 1, (.loc 6))], none⟩,
     ⟨(some 8), false, .callf 7 [(.loc 4), (.loc 7)], none⟩,
     ⟨(some 3), false, .mv (.loc 8), none⟩,
     ⟨(some 9), false, .extract (.loc 3) 0, none⟩,
     ⟨(some 10), false, .extract (.loc 3) 1, none⟩,
     ⟨(some 1), true, .mv (.loc 9), none⟩,
     ⟨(some 2), true, .mv (.loc 10), none⟩]
@[simp] def r6_2 : List HOp := [⟨(some 11), false, .mv (.env 1), none⟩,
     ⟨(some 12), false, .len 1 (.loc 11), none⟩,
     ⟨(some 13), false, .bin .other .eql (.loc 12) (.val (.tr (.sc (.int .i64 2)))), none⟩,
     ⟨(some 14), false, .mv (.loc 13), none⟩,
     ⟨(some 15), false, .mv (.env 1), some ((.loc 14), true)⟩,
     ⟨(some 16), false, .iaddr 1 (.loc 15) (.val (.tr (.sc (.int .i64 0)))), some ((.loc 14), true)⟩,
     ⟨(some 17), false, .load 1 false (.loc 16), some ((.loc 14), true)⟩,
     ⟨(some 18), false, .bin .other .eql (.loc 17) (.val (.tr (.sc (.string ⟨⟨[121]⟩⟩)))), some ((.loc 14), true)⟩,
     ⟨(some 19), false, .pick (.loc 14) (.loc 18) (.val (.tr (.sc (.bool false)))), none⟩,
     ⟨(some 20), false, .mv (.loc 19), none⟩,
     ⟨(some 21), false, .mv (.env 1), some ((.loc 20), true)⟩,
     ⟨(some 22), false, .iaddr 1 (.loc 21) (.val (.tr (.sc (.int .i64 1)))), some ((.loc 20), true)⟩,
     ⟨(some 23), false, .load 1 false (.loc 22), some ((.loc 20), true)⟩,
     ⟨(some 24), false, .bin .other .eql (.loc 23) (.val (.tr (.sc (.string ⟨⟨[120]⟩⟩)))), some ((.loc 20), true)⟩,
     ⟨(some 25), false, .pick (.loc 20) (.loc 24) (.val (.tr (.sc (.bool false)))), none⟩,
     ⟨(some 26), false, .mv (.loc 25), none⟩,
     ⟨(some 27), false, .mv (.env 2), some ((.loc 26), true)⟩,
     ⟨(some 28), false, .len 1 (.loc 27), some ((.loc 26), true)⟩,
     ⟨(some 29), false, .bin .other .eql (.loc 28) (.val (.tr (.sc (.int .i64 1)))), some ((.loc 26), true)⟩,
     ⟨(some 30), false, .pick (.loc 26) (.loc 29) (.val (.tr (.sc (.bool false)))), none⟩,
     ⟨(some 31), false, .mv (.loc 30), none⟩,
     ⟨(some 32), false, .mv (.env 2), some ((.loc 31), true)⟩,
     ⟨(some 33), false, .iaddr 1 (.loc 32) (.val (.tr (.sc (.int .i64 0)))), some ((.loc 31), true)⟩,
     ⟨(some 34), false, .load 1 false (.loc 33), some ((.loc 31), true)⟩,
     ⟨(some 35), false, .bin .other .eql (.loc 34) (.val (.tr (.sc (.string ⟨⟨[122]⟩⟩)))), some ((.loc 31), true)⟩,
     ⟨(some 36), false, .pick (.loc 31) (.loc 35) (.val (.tr (.sc (.bool false)))), none⟩,
     ⟨(some 0), true, .mv (.loc 36), none⟩]
@[simp] def k6_1 : HCode := .seq (.region r6_2 none) .ret
@[simp] def k6_0 : HCode := .seq (.region r6_1 none) k6_1
@[simp] def fn6 : HFn := { nargs := 0, results := [.tmp 0], mode := .iso, code := (.seq (.region r6_0 none) k6_0) }
theorem c6 : cFn Try.prog (Hs 6) .iso 6 = some fn6 := by kernel_rfl
/- sterling/imports.Order -/
@[simp] def r7_0 : List HOp := [⟨(some 3), true, .box false (.env 1), none⟩,
     ⟨(some 4), true, .mv (.val (.tr (.sc (.slice none 0 0)))), none⟩,
     ⟨(some 5), true, .mv (.val (.tr (.sc (.slice none 0 0)))), none⟩]
@[simp] def r7_1 : List HOp := [⟨(some 16), false, .mkmap, none⟩,
     ⟨(some 6), true, .alloc [(.sc (.map none))], none⟩,
     ⟨none, false, .store 1 (.env 6) (.loc 16), none⟩]
@[simp] def r7_2 : List HOp := [⟨(some 7), true, .mv (.val (.tr (.sc (.slice none 0 0)))), none⟩]
@[simp] def r7_3 : List HOp := [⟨(some 17), true, .mv (.env 0), none⟩,
      ⟨(some 18), true, .len 1 (.env 17), none⟩,
      ⟨(some 19), true, .mv (.val (.tr (.sc (.int .i64 0)))), none⟩]
@[simp] def r7_4 : List HOp := [⟨(some 20), false, .bin .other .lss (.env 19) (.env 18), none⟩]
@[simp] def r7_5 : List HOp := [⟨(some 21), false, .mv (.env 19), none⟩,
          ⟨(some 22), false, .iaddr 1 (.env 17) (.env 19), none⟩,
          ⟨(some 23), false, .load 1 false (.loc 22), none⟩,
          ⟨(some 8), true, .mv (.loc 21), none⟩,
          ⟨(some 9), true, .mv (.loc 23), none⟩]
@[simp] def r7_6 : List HOp := [⟨(some 25), false, .load 1 false (.env 6), none⟩,
          ⟨(some 26), false, .mv (.env 9), none⟩,
          ⟨(some 27), false, .lookup .string (.sc (.int .i64 0)) true (.loc 25) (.loc 26), none⟩,
          ⟨(some 24), false, .mv (.loc 27), none⟩,
          ⟨(some 28), false, .extract (.loc 24) 0, none⟩,
          ⟨(some 29), false, .extract (.loc 24) 1, none⟩,
          ⟨(some 10), false, .mv (.loc 28), none⟩,
          ⟨(some 11), true, .mv (.loc 29), none⟩]
@[simp] def r7_7 : List HOp := [⟨(some 30), false, .mv (.env 11), none⟩,
          ⟨(some 31), false, .un .not (.loc 30), none⟩]
@[simp] def r7_8 : List HOp := [⟨(some 32), false, .load 1 false (.env 6), none⟩,
           ⟨(some 33), false, .mv (.env 9), none⟩,
           ⟨(some 34), false, .mv (.env 8), none⟩,
           ⟨none, false, .mupd .string (.loc 32) (.loc 33) (.loc 34), none⟩]
@[simp] def r7_9 : List HOp := [⟨(some 35), false, .mv (.env 7), none⟩,
          ⟨(some 36), false, .mv (.env 9), none⟩,
          ⟨(some 37), false, .bslice false 1 1 [(.sc (.string ⟨⟨[]⟩⟩))] [(0, 1, (.loc 36))], none⟩,
          ⟨(some 38), false, .append 1 16 (.loc 35) (.loc 37), none⟩,
          ⟨(some 7), true, .mv (.loc 38), none⟩]
@[simp] def r7_10 : List HOp := [⟨(some 39), false, .bin .other .add (.env 19) (.val (.tr (.sc (.int .i64 1)))), none⟩,
       ⟨(some 19), true, .mv (.loc 39), none⟩]
@[simp] def r7_11 : List HOp := [⟨(some 40), false, .mv (.env 7), none⟩,
     ⟨(some 41), false, .callf 16 [(.loc 40)], none⟩]
@[simp] def r7_12 : List HOp := [⟨(some 42), false, .mkmap, none⟩,
     ⟨(some 12), true, .alloc [(.sc (.map none))], none⟩,
     ⟨none, false, .store 1 (.env 12) (.loc 42), none⟩]
@[simp] def r7_13 : List HOp := [⟨(some 43), false, .mkfn (.func 17) [] [(.env 6), (.env 3), (.env 12)], none⟩,
     ⟨(some 13), true, .mv (.loc 43), none⟩]
@[simp] def r7_14 : List HOp := [⟨(some 14), true, .mv (.val (.tr (.sc (.slice none 0 0)))), none⟩]
@[simp] def r7_15 : List HOp := [⟨(some 44), false, .mv (.env 7), none⟩,
        ⟨(some 45), false, .mv (.env 13), none⟩,
        ⟨(some 46), false, .callf 20 [(.loc 44), (.loc 45)], none⟩,
        ⟨(some 15), true, .mv (.loc 46), none⟩]
@[simp] def r7_16 : List HOp := [⟨(some 47), false, .mv (.env 15), none⟩,
         ⟨(some 48), false, .bin .other .lss (.loc 47) (.val (.tr (.sc (.int .i64 0)))), none⟩]
@[simp] def r7_17 : List HOp := [⟨(some 49), false, .mv (.env 14), none⟩,
          ⟨(some 50), false, .mv (.env 7), none⟩,
          ⟨(some 4), true, .mv (.loc 49), none⟩,
          ⟨(some 5), true, .mv (.loc 50), none⟩]
@[simp] def r7_18 : List HOp := [⟨(some 51), false, .load 1 false (.env 12), none⟩,
        ⟨(some 52), false, .mv (.env 7), none⟩,
        ⟨(some 53), false, .mv (.env 15), none⟩,
        ⟨(some 54), false, .iaddr 1 (.loc 52) (.loc 53), none⟩,
        ⟨(some 55), false, .load 1 false (.loc 54), none⟩,
        ⟨none, false, .mupd .string (.loc 51) (.loc 55) (.val (.tr (.sc (.int .i64 1)))), none⟩]
@[simp] def r7_19 : List HOp := [⟨(some 56), false, .mv (.env 14), none⟩,
        ⟨(some 57), false, .mv (.env 7), none⟩,
        ⟨(some 58), false, .mv (.env 15), none⟩,
        ⟨(some 59), false, .iaddr 1 (.loc 57) (.loc 58), none⟩,
        ⟨(some 60), false, .load 1 false (.loc 59), none⟩,
        ⟨(some 61), false, .bslice false 1 1 [(.sc (.string ⟨⟨[]⟩⟩))] [(0, 1, (.loc 60))], none⟩,
        ⟨(some 62), false, .append 1 16 (.loc 56) (.loc 61), none⟩,
        ⟨(some 14), true, .mv (.loc 62), none⟩]
@[simp] def r7_20 : List HOp := [⟨(some 63), false, .mv (.env 7), none⟩,
       ⟨(some 64), false, .mv (.env 15), none⟩,
       ⟨(some 65), false, .mv (.env 15), none⟩,
       ⟨(some 66), false, .bin .other .add (.loc 65) (.val (.tr (.sc (.int .i64 1)))), none⟩,
       ⟨(some 67), false, .callf 21 [(.loc 63), (.loc 64), (.loc 66)], none⟩,
       ⟨(some 7), true, .mv (.loc 67), none⟩]
@[simp] def k7_10 : HCode := .seq (.region r7_8 none) (.region r7_9 none)
@[simp] def k7_9 : HCode := .cond (.loc 31) k7_10 .skip
@[simp] def k7_8 : HCode := .seq (.region r7_7 none) k7_9
@[simp] def k7_7 : HCode := .seq (.region r7_6 none) k7_8
def k7_11 : HCode := .region r7_10 none
def k7_6 : HCode := .seq (.block 1 (.seq (.region r7_5 none) k7_7)) k7_11
@[simp] def k7_5 : HCode := .seq (.cond (.loc 20) .skip (.exit 0)) k7_6
def k7_4 : HCode := .seq (.region r7_4 none) k7_5
@[simp] def k7_3 : HCode := .block 0 (.loop k7_4)
@[simp] def k7_20 : HCode := .seq (.region r7_17 none) .ret
@[simp] def k7_19 : HCode := .cond (.loc 48) k7_20 .skip
@[simp] def k7_22 : HCode := .seq (.region r7_19 none) (.region r7_20 none)
def k7_21 : HCode := .seq (.region r7_18 (some [ ( 1, [ 12 ] ) , ( 0, [ 7 ] ) , ( 0, [ 15 ] ) , ( 1, [ 52, 53 ] ) , ( 1, [ 54 ] ) , ( 2, [ 51, 55 ] ) ])) k7_22
@[simp] def k7_18 : HCode := .seq (.seq (.region r7_16 none) k7_19) k7_21
def k7_17 : HCode := .block 3 (.seq (.region r7_15 none) k7_18)
@[simp] def k7_16 : HCode := .block 2 (.loop k7_17)
@[simp] def k7_15 : HCode := .seq (.region r7_14 none) k7_16
@[simp] def k7_14 : HCode := .seq (.region r7_13 none) k7_15
@[simp] def k7_13 : HCode := .seq (.region r7_12 none) k7_14
def k7_12 : HCode := .seq (.region r7_11 none) k7_13
@[simp] def k7_2 : HCode := .seq (.seq (.region r7_3 none) k7_3) k7_12
@[simp] def k7_1 : HCode := .seq (.region r7_2 none) k7_2
@[simp] def k7_0 : HCode := .seq (.region r7_1 none) k7_1
@[simp] def fn7 : HFn := { nargs := 2, results := [.tmp 4, .tmp 5], mode := .iso, code := (.seq (.region r7_0 none) k7_0) }
theorem c7 : cFn Try.prog (Hs 7) .iso 7 = some fn7 := by kernel_rfl
/- sterling/imports.Order$1 -/
@[simp] def r17_0 : List HOp := [⟨(some 5), true, .mv (.val (.tr (.sc (.bool false)))), none⟩]
@[simp] def r17_1 : List HOp := [⟨(some 7), false, .load 1 false (.env 1), none⟩,
      ⟨(some 8), false, .mv (.env 0), none⟩,
      ⟨(some 9), false, .lookup .string (.sc (.int .i64 0)) false (.loc 7) (.loc 8), none⟩,
      ⟨(some 6), true, .mv (.loc 9), none⟩]
@[simp] def r17_2 : List HOp := [⟨(some 10), false, .mv (.env 6), none⟩,
      ⟨(some 11), false, .load 1 false (.env 2), none⟩,
      ⟨(some 12), false, .len 1 (.loc 11), none⟩,
      ⟨(some 13), false, .bin .other .lss (.loc 10) (.loc 12), none⟩]
@[simp] def r17_3 : List HOp := [⟨(some 14), false, .load 1 false (.env 2), none⟩,
       ⟨(some 15), false, .mv (.env 6), none⟩,
       ⟨(some 16), false, .iaddr 1 (.loc 14) (.loc 15), none⟩,
       ⟨(some 17), false, .load 1 false (.loc 16), none⟩,
       ⟨(some 18), false, .mkfn (.func 19) [] [(.env 3)], none⟩,
       ⟨(some 19), false, .callf 18 [(.loc 17), (.loc 18)], none⟩,
       ⟨(some 20), false, .un .not (.loc 19), none⟩,
       ⟨(some 5), true, .mv (.loc 20), none⟩]
@[simp] def r17_4 : List HOp := [⟨(some 5), true, .mv (.val (.tr (.sc (.bool true)))), none⟩]
@[simp] def k17_3 : HCode := .seq (.region r17_3 none) .ret
@[simp] def k17_2 : HCode := .cond (.loc 13) k17_3 .skip
@[simp] def k17_1 : HCode := .seq (.region r17_2 none) k17_2
def k17_4 : HCode := .seq (.region r17_4 none) .ret
@[simp] def k17_0 : HCode := .seq (.seq (.region r17_1 none) k17_1) k17_4
@[simp] def fn17 : HFn := { nargs := 4, results := [.tmp 5], mode := .shared, code := (.seq (.region r17_0 none) k17_0) }
theorem c17 : cFn Try.prog (Hs 17) .shared 17 = some fn17 := by kernel_rfl
/- sterling/imports.Order$1$1 -/
@[simp] def r19_0 : List HOp := [⟨(some 3), true, .mv (.val (.tr (.sc (.bool false)))), none⟩]
@[simp] def r19_1 : List HOp := [⟨(some 4), false, .load 1 false (.env 1), none⟩,
     ⟨(some 5), false, .mv (.env 0), none⟩,
     ⟨(some 6), false, .lookup .string (.sc (.int .i64 0)) false (.loc 4) (.loc 5), none⟩,
     ⟨(some 7), false, .bin .other .eql (.loc 6) (.val (.tr (.sc (.int .i64 0)))), none⟩,
     ⟨(some 3), true, .mv (.loc 7), none⟩]
@[simp] def k19_0 : HCode := .seq (.region r19_1 none) .ret
@[simp] def fn19 : HFn := { nargs := 2, results := [.tmp 3], mode := .shared, code := (.seq (.region r19_0 none) k19_0) }
theorem c19 : cFn Try.prog (Hs 19) .shared 19 = some fn19 := by kernel_rfl
/- slices.ContainsFunc[[]string,string] -/
@[simp] def r18_0 : List HOp := [⟨(some 4), true, .mv (.val (.tr (.sc (.bool false)))), none⟩]
@[simp] def r18_1 : List HOp := [⟨(some 5), false, .mv (.env 0), none⟩,
     ⟨(some 6), false, .mv (.env 1), none⟩,
     ⟨(some 7), false, .callf 20 [(.loc 5), (.loc 6)], none⟩,
     ⟨(some 8), false, .bin .other .geq (.loc 7) (.val (.tr (.sc (.int .i64 0)))), none⟩,
     ⟨(some 4), true, .mv (.loc 8), none⟩]
@[simp] def k18_0 : HCode := .seq (.region r18_1 none) .ret
@[simp] def fn18 : HFn := { nargs := 2, results := [.tmp 4], mode := .shared, code := (.seq (.region r18_0 none) k18_0) }
theorem c18 : cFn Try.prog (Hs 18) .shared 18 = some fn18 := by kernel_rfl
/- slices.IndexFunc[[]string,string] -/
@[simp] def r20_0 : List HOp := [⟨(some 4), true, .mv (.val (.tr (.sc (.int .i64 0)))), none⟩]
@[simp] def r20_1 : List HOp := [⟨(some 6), false, .mv (.env 0), none⟩,
      ⟨(some 7), true, .len 1 (.loc 6), none⟩,
      ⟨(some 8), true, .mv (.val (.tr (.sc (.int .i64 0)))), none⟩]
@[simp] def r20_2 : List HOp := [⟨(some 9), false, .bin .other .lss (.env 8) (.env 7), none⟩]
@[simp] def r20_3 : List HOp := [⟨(some 10), false, .mv (.env 8), none⟩,
          ⟨(some 5), true, .mv (.loc 10), none⟩]
@[simp] def r20_4 : List HOp := [⟨(some 11), false, .mv (.env 1), none⟩,
          ⟨(some 12), false, .mv (.env 0), none⟩,
          ⟨(some 13), false, .mv (.env 5), none⟩,
          ⟨(some 14), false, .iaddr 1 (.loc 12) (.loc 13), none⟩,
          ⟨(some 15), false, .load 1 false (.loc 14), none⟩,
          ⟨(some 16), false, .callv (.loc 11) [(.loc 15)], none⟩]
@[simp] def r20_5 : List HOp := [⟨(some 17), false, .mv (.env 5), none⟩,
           ⟨(some 4), true, .mv (.loc 17), none⟩]
@[simp] def r20_6 : List HOp := [⟨(some 18), false, .bin .other .add (.env 8) (.val (.tr (.sc (.int .i64 1)))), none⟩,
       ⟨(some 8), true, .mv (.loc 18), none⟩]
@[simp] def r20_7 : List HOp := [⟨(some 4), true, .mv (.val (.tr (.sc (.int .i64 (-1))))), none⟩]
@[simp] def k20_7 : HCode := .seq (.region r20_5 none) .ret
@[simp] def k20_6 : HCode := .cond (.loc 16) k20_7 .skip
@[simp] def k20_5 : HCode := .seq (.region r20_4 none) k20_6
def k20_8 : HCode := .region r20_6 none
def k20_4 : HCode := .seq (.block 1 (.seq (.region r20_3 none) k20_5)) k20_8
@[simp] def k20_3 : HCode := .seq (.cond (.loc 9) .skip (.exit 0)) k20_4
def k20_2 : HCode := .seq (.region r20_2 none) k20_3
@[simp] def k20_1 : HCode := .block 0 (.loop k20_2)
def k20_9 : HCode := .seq (.region r20_7 none) .ret
@[simp] def k20_0 : HCode := .seq (.seq (.region r20_1 none) k20_1) k20_9
@[simp] def fn20 : HFn := { nargs := 2, results := [.tmp 4], mode := .shared, code := (.seq (.region r20_0 none) k20_0) }
theorem c20 : cFn Try.prog (Hs 20) .shared 20 = some fn20 := by kernel_rfl
/- slices.Delete[[]string,string] -/
@[simp] def r21_0 : List HOp := [⟨(some 6), true, .mv (.val (.tr (.sc (.slice none 0 0)))), none⟩]
@[simp] def r21_1 : List HOp := [⟨(some 8), false, .mv (.env 0), none⟩,
     ⟨(some 9), false, .mv (.env 1), none⟩,
     ⟨(some 10), false, .mv (.env 2), none⟩,
     ⟨(some 11), false, .mv (.env 0), none⟩,
     ⟨(some 12), false, .len 1 (.loc 11), none⟩,
     ⟨(some 13), false, .slice 1 (.loc 8) (some (.loc 9)) (some (.loc 10)) (some (.loc 12)), none⟩]
@[simp] def r21_2 : List HOp := [⟨(some 14), false, .mv (.env 1), none⟩,
      ⟨(some 15), false, .mv (.env 2), none⟩,
      ⟨(some 16), false, .bin .other .eql (.loc 14) (.loc 15), none⟩]
@[simp] def r21_3 : List HOp := [⟨(some 17), false, .mv (.env 0), none⟩,
       ⟨(some 6), true, .mv (.loc 17), none⟩]
@[simp] def r21_4 : List HOp := [⟨(some 18), false, .mv (.env 0), none⟩,
     ⟨(some 19), false, .len 1 (.loc 18), none⟩,
     ⟨(some 7), true, .mv (.loc 19), none⟩]
@[simp] def r21_5 : List HOp := [⟨(some 20), false, .mv (.env 0), none⟩,
     ⟨(some 21), false, .mv (.env 1), none⟩,
     ⟨(some 22), false, .slice 1 (.loc 20) none (some (.loc 21)) none, none⟩,
     ⟨(some 23), false, .mv (.env 0), none⟩,
     ⟨(some 24), false, .mv (.env 2), none⟩,
     ⟨(some 25), false, .slice 1 (.loc 23) (some (.loc 24)) none none, none⟩,
     ⟨(some 26), false, .append 1 16 (.loc 22) (.loc 25), none⟩,
     ⟨(some 0), true, .mv (.loc 26), none⟩]
@[simp] def r21_6 : List HOp := [⟨(some 27), false, .mv (.env 0), none⟩,
     ⟨(some 28), false, .mv (.env 0), none⟩,
     ⟨(some 29), false, .len 1 (.loc 28), none⟩,
     ⟨(some 30), false, .mv (.env 7), none⟩,
     ⟨(some 31), false, .slice 1 (.loc 27) (some (.loc 29)) (some (.loc 30)) none, none⟩,
     ⟨none, false, .clear [(.sc (.string ⟨⟨[]⟩⟩))] (.loc 31), none⟩]
@[simp] def r21_7 : List HOp := [⟨(some 32), false, .mv (.env 0), none⟩,
     ⟨(some 6), true, .mv (.loc 32), none⟩]
@[simp] def k21_3 : HCode := .seq (.region r21_3 none) .ret
@[simp] def k21_2 : HCode := .cond (.loc 16) k21_3 .skip
@[simp] def k21_7 : HCode := .seq (.region r21_7 none) .ret
@[simp] def k21_6 : HCode := .seq (.region r21_6 none) k21_7
@[simp] def k21_5 : HCode := .seq (.region r21_5 (some [ ( 0, [ 0 ] ) , ( 0, [ 1 ] ) , ( 1, [ 20, 21 ] ) , ( 0, [ 0 ] ) , ( 0, [ 2 ] ) , ( 1, [ 23, 24 ] ) , ( 2, [ 22, 25 ] ) , ( 0, [ 26 ] ) ])) k21_6
def k21_4 : HCode := .seq (.region r21_4 none) k21_5
@[simp] def k21_1 : HCode := .seq (.seq (.region r21_2 none) k21_2) k21_4
@[simp] def k21_0 : HCode := .seq (.region r21_1 none) k21_1
@[simp] def fn21 : HFn := { nargs := 3, results := [.tmp 6], mode := .shared, code := (.seq (.region r21_0 none) k21_0) }
theorem c21 : cFn Try.prog (Hs 21) .shared 21 = some fn21 := by kernel_rfl
/- sterling/sterlingref19.Imports -/
@[simp] def r8_0 : List HOp := [⟨(some 4), true, .mv (.val (.tr (.sc (.slice none 0 0)))), none⟩,
     ⟨(some 5), true, .mv (.val (.tr (.sc (.slice none 0 0)))), none⟩]
@[simp] def r8_1 : List HOp := [⟨(some 6), true, .mv (.val (.tr (.sc (.slice none 0 0)))), none⟩]
@[simp] def r8_2 : List HOp := [⟨(some 7), true, .mv (.val (.tr (.sc (.slice none 0 0)))), none⟩]
@[simp] def r8_3 : List HOp := [⟨(some 8), true, .mv (.val (.tr (.sc (.int .i64 0)))), none⟩]
@[simp] def r8_4 : List HOp := [⟨(some 20), false, .mv (.env 8), none⟩,
         ⟨(some 21), false, .mv (.env 0), none⟩,
         ⟨(some 22), false, .len 1 (.loc 21), none⟩,
         ⟨(some 23), false, .bin .other .lss (.loc 20) (.loc 22), none⟩]
@[simp] def r8_5 : List HOp := [⟨(some 26), false, .mv (.env 6), none⟩,
           ⟨(some 27), false, .mv (.env 0), none⟩,
           ⟨(some 28), false, .mv (.env 8), none⟩,
           ⟨(some 29), false, .iaddr 1 (.loc 27) (.loc 28), none⟩,
           ⟨(some 30), false, .load 1 false (.loc 29), none⟩,
           ⟨(some 31), false, .callf 22 [(.loc 26), (.loc 30)], none⟩,
           ⟨(some 32), false, .bin .other .geq (.loc 31) (.val (.tr (.sc (.int .i64 0)))), none⟩]
@[simp] def r8_6 : List HOp := [⟨(some 33), false, .mv (.env 6), none⟩,
          ⟨(some 34), false, .mv (.env 0), none⟩,
          ⟨(some 35), false, .mv (.env 8), none⟩,
          ⟨(some 36), false, .iaddr 1 (.loc 34) (.loc 35), none⟩,
          ⟨(some 37), false, .load 1 false (.loc 36), none⟩,
          ⟨(some 38), false, .bslice false 1 1 [(.sc (.string ⟨⟨[]⟩⟩))] [(0, 1, (.loc 37))], none⟩,
          ⟨(some 39), false, .append 1 16 (.loc 33) (.loc 38), none⟩,
          ⟨(some 6), true, .mv (.loc 39), none⟩]
@[simp] def r8_7 : List HOp := [⟨(some 9), true, .mv (.val (.tr (.sc (.slice none 0 0)))), none⟩]
@[simp] def r8_8 : List HOp := [⟨(some 40), false, .mv (.env 8), none⟩,
           ⟨(some 41), false, .mv (.env 1), none⟩,
           ⟨(some 42), false, .len 1 (.loc 41), none⟩,
           ⟨(some 43), false, .bin .other .lss (.loc 40) (.loc 42), none⟩]
@[simp] def r8_9 : List HOp := [⟨(some 44), false, .mv (.env 1), none⟩,
           ⟨(some 45), false, .mv (.env 8), none⟩,
           ⟨(some 46), false, .iaddr 1 (.loc 44) (.loc 45), none⟩,
           ⟨(some 47), false, .load 1 false (.loc 46), none⟩,
           ⟨(some 9), true, .mv (.loc 47), none⟩]
@[simp] def r8_10 : List HOp := [⟨(some 48), false, .mv (.env 7), none⟩,
         ⟨(some 49), false, .mv (.env 9), none⟩,
         ⟨(some 50), false, .bslice false 1 1 [(.sc (.slice none 0 0))] [(0, 1, (.loc 49))], none⟩,
         ⟨(some 51), false, .append 1 24 (.loc 48) (.loc 50), none⟩,
         ⟨(some 7), true, .mv (.loc 51), none⟩]
@[simp] def r8_11 : List HOp := [⟨(some 24), false, .mv (.env 8), none⟩,
       ⟨(some 25), false, .bin .other .add (.loc 24) (.val (.tr (.sc (.int .i64 1)))), none⟩,
       ⟨(some 8), true, .mv (.loc 25), none⟩]
@[simp] def r8_12 : List HOp := [⟨(some 10), true, .mv (.val (.tr (.sc (.slice none 0 0)))), none⟩]
@[simp] def r8_13 : List HOp := [⟨(some 11), true, .mv (.val (.tr (.sc (.int .i64 (-1))))), none⟩]
@[simp] def r8_14 : List HOp := [⟨(some 12), true, .mv (.val (.tr (.sc (.int .i64 0)))), none⟩]
@[simp] def r8_15 : List HOp := [⟨(some 52), false, .mv (.env 12), none⟩,
             ⟨(some 53), false, .mv (.env 6), none⟩,
             ⟨(some 54), false, .len 1 (.loc 53), none⟩,
             ⟨(some 55), false, .bin .other .lss (.loc 52) (.loc 54), none⟩]
@[simp] def r8_16 : List HOp := [⟨(some 58), false, .mv (.env 10), none⟩,
               ⟨(some 59), false, .mv (.env 6), none⟩,
               ⟨(some 60), false, .mv (.env 12), none⟩,
               ⟨(some 61), false, .iaddr 1 (.loc 59) (.loc 60), none⟩,
               ⟨(some 62), false, .load 1 false (.loc 61), none⟩,
               ⟨(some 63), false, .callf 22 [(.loc 58), (.loc 62)], none⟩,
               ⟨(some 64), false, .bin .other .geq (.loc 63) (.val (.tr (.sc (.int .i64 0)))), none⟩]
@[simp] def r8_17 : List HOp := [⟨(some 13), true, .mv (.val (.tr (.sc (.bool true)))), none⟩]
@[simp] def r8_18 : List HOp := [⟨(some 14), true, .mv (.val (.tr (.sc (.int .i64 0)))), none⟩]
@[simp] def r8_19 : List HOp := [⟨(some 65), false, .mv (.env 14), none⟩,
                  ⟨(some 66), false, .mv (.env 7), none⟩,
                  ⟨(some 67), false, .mv (.env 12), none⟩,
                  ⟨(some 68), false, .iaddr 1 (.loc 66) (.loc 67), none⟩,
                  ⟨(some 69), false, .load 1 false (.loc 68), none⟩,
                  ⟨(some 70), false, .len 1 (.loc 69), none⟩,
                  ⟨(some 71), false, .bin .other .lss (.loc 65) (.loc 70), none⟩,
                  ⟨(some 72), false, .mv (.loc 71), none⟩,
                  ⟨(some 73), false, .mv (.env 13), some ((.loc 72), true)⟩,
                  ⟨(some 74), false, .pick (.loc 72) (.loc 73) (.val (.tr (.sc (.bool false)))), none⟩]
@[simp] def r8_20 : List HOp := [⟨(some 77), false, .mv (.env 10), none⟩,
                  ⟨(some 78), false, .mv (.env 7), none⟩,
                  ⟨(some 79), false, .mv (.env 12), none⟩,
                  ⟨(some 80), false, .iaddr 1 (.loc 78) (.loc 79), none⟩,
                  ⟨(some 81), false, .load 1 false (.loc 80), none⟩,
                  ⟨(some 82), false, .mv (.env 14), none⟩,
                  ⟨(some 83), false, .iaddr 1 (.loc 81) (.loc 82), none⟩,
                  ⟨(some 84), false, .load 1 false (.loc 83), none⟩,
                  ⟨(some 85), false, .callf 22 [(.loc 77), (.loc 84)], none⟩,
                  ⟨(some 86), false, .bin .other .geq (.loc 85) (.val (.tr (.sc (.int .i64 0)))), none⟩,
                  ⟨(some 13), true, .mv (.loc 86), none⟩]
@[simp] def r8_21 : List HOp := [⟨(some 75), false, .mv (.env 14), none⟩,
                ⟨(some 76), false, .bin .other .add (.loc 75) (.val (.tr (.sc (.int .i64 1)))), none⟩,
                ⟨(some 14), true, .mv (.loc 76), none⟩]
@[simp] def r8_22 : List HOp := [⟨(some 87), false, .mv (.env 13), none⟩,
              ⟨(some 88), false, .mv (.loc 87), none⟩,
              ⟨(some 89), false, .mv (.env 11), some ((.loc 88), true)⟩,
              ⟨(some 90), false, .bin .other .lss (.loc 89) (.val (.tr (.sc (.int .i64 0)))), some ((.loc 88), true)⟩,
              ⟨(some 91), false, .mv (.loc 90), some ((.loc 88), true)⟩,
              ⟨(some 92), false, .mv (.env 6), some ((.loc 91), false)⟩,
              ⟨(some 93), false, .mv (.env 12), some ((.loc 91), false)⟩,
              ⟨(some 94), false, .iaddr 1 (.loc 92) (.loc 93), some ((.loc 91), false)⟩,
              ⟨(some 95), false, .load 1 false (.loc 94), some ((.loc 91), false)⟩,
              ⟨(some 96), false, .mv (.env 6), some ((.loc 91), false)⟩,
              ⟨(some 97), false, .mv (.env 11), some ((.loc 91), false)⟩,
              ⟨(some 98), false, .iaddr 1 (.loc 96) (.loc 97), some ((.loc 91), false)⟩,
              ⟨(some 99), false, .load 1 false (.loc 98), some ((.loc 91), false)⟩,
              ⟨(some 100), false, .bin .other .lss (.loc 95) (.loc 99), some ((.loc 91), false)⟩,
              ⟨(some 101), false, .pick (.loc 91) (.val (.tr (.sc (.bool true)))) (.loc 100), some ((.loc 88), true)⟩,
              ⟨(some 102), false, .pick (.loc 88) (.loc 101) (.val (.tr (.sc (.bool false)))), none⟩]
@[simp] def r8_23 : List HOp := [⟨(some 103), false, .mv (.env 12), none⟩,
              ⟨(some 11), true, .mv (.loc 103), none⟩]
@[simp] def r8_24 : List HOp := [⟨(some 56), false, .mv (.env 12), none⟩,
           ⟨(some 57), false, .bin .other .add (.loc 56) (.val (.tr (.sc (.int .i64 1)))), none⟩,
           ⟨(some 12), true, .mv (.loc 57), none⟩]
@[simp] def r8_25 : List HOp := [⟨(some 104), false, .mv (.env 11), none⟩,
          ⟨(some 105), false, .bin .other .lss (.loc 104) (.val (.tr (.sc (.int .i64 0)))), none⟩]
@[simp] def r8_26 : List HOp := [⟨(some 106), false, .mv (.env 10), none⟩,
        ⟨(some 107), false, .mv (.env 6), none⟩,
        ⟨(some 108), false, .mv (.env 11), none⟩,
        ⟨(some 109), false, .iaddr 1 (.loc 107) (.loc 108), none⟩,
        ⟨(some 110), false, .load 1 false (.loc 109), none⟩,
        ⟨(some 111), false, .bslice false 1 1 [(.sc (.string ⟨⟨[]⟩⟩))] [(0, 1, (.loc 110))], none⟩,
        ⟨(some 112), false, .append 1 16 (.loc 106) (.loc 111), none⟩,
        ⟨(some 10), true, .mv (.loc 112), none⟩]
@[simp] def r8_27 : List HOp := [⟨(some 15), true, .mv (.val (.tr (.sc (.slice none 0 0)))), none⟩]
@[simp] def r8_28 : List HOp := [⟨(some 16), true, .mv (.val (.tr (.sc (.int .i64 0)))), none⟩]
@[simp] def r8_29 : List HOp := [⟨(some 113), false, .mv (.env 16), none⟩,
         ⟨(some 114), false, .mv (.env 6), none⟩,
         ⟨(some 115), false, .len 1 (.loc 114), none⟩,
         ⟨(some 116), false, .bin .other .lss (.loc 113) (.loc 115), none⟩]
@[simp] def r8_30 : List HOp := [⟨(some 119), false, .mv (.env 10), none⟩,
          ⟨(some 120), false, .mv (.env 6), none⟩,
          ⟨(some 121), false, .mv (.env 16), none⟩,
          ⟨(some 122), false, .iaddr 1 (.loc 120) (.loc 121), none⟩,
          ⟨(some 123), false, .load 1 false (.loc 122), none⟩,
          ⟨(some 124), false, .callf 22 [(.loc 119), (.loc 123)], none⟩,
          ⟨(some 125), false, .bin .other .lss (.loc 124) (.val (.tr (.sc (.int .i64 0)))), none⟩]
@[simp] def r8_31 : List HOp := [⟨(some 126), false, .mv (.env 15), none⟩,
           ⟨(some 127), false, .mv (.env 6), none⟩,
           ⟨(some 128), false, .mv (.env 16), none⟩,
           ⟨(some 129), false, .iaddr 1 (.loc 127) (.loc 128), none⟩,
           ⟨(some 130), false, .load 1 false (.loc 129), none⟩,
           ⟨(some 131), false, .bslice false 1 1 [(.sc (.string ⟨⟨[]⟩⟩))] [(0, 1, (.loc 130))], none⟩,
           ⟨(some 132), false, .append 1 16 (.loc 126) (.loc 131), none⟩,
           ⟨(some 15), true, .mv (.loc 132), none⟩]
@[simp] def r8_32 : List HOp := [⟨(some 133), false, .mv (.env 15), none⟩,
           ⟨(some 134), false, .len 1 (.loc 133), none⟩,
           ⟨(some 135), false, .bin .other .sub (.loc 134) (.val (.tr (.sc (.int .i64 1)))), none⟩,
           ⟨(some 17), true, .mv (.loc 135), none⟩]
@[simp] def r8_33 : List HOp := [⟨(some 136), false, .mv (.env 17), none⟩,
              ⟨(some 137), false, .bin .other .gtr (.loc 136) (.val (.tr (.sc (.int .i64 0)))), none⟩,
              ⟨(some 138), false, .mv (.loc 137), none⟩,
              ⟨(some 139), false, .mv (.env 15), some ((.loc 138), true)⟩,
              ⟨(some 140), false, .mv (.env 17), some ((.loc 138), true)⟩,
              ⟨(some 141), false, .iaddr 1 (.loc 139) (.loc 140), some ((.loc 138), true)⟩,
              ⟨(some 142), false, .load 1 false (.loc 141), some ((.loc 138), true)⟩,
              ⟨(some 143), false, .mv (.env 15), some ((.loc 138), true)⟩,
              ⟨(some 144), false, .mv (.env 17), some ((.loc 138), true)⟩,
              ⟨(some 145), false, .bin .other .sub (.loc 144) (.val (.tr (.sc (.int .i64 1)))), some ((.loc 138), true)⟩,
              ⟨(some 146), false, .iaddr 1 (.loc 143) (.loc 145), some ((.loc 138), true)⟩,
              ⟨(some 147), false, .load 1 false (.loc 146), some ((.loc 138), true)⟩,
              ⟨(some 148), false, .bin .other .lss (.loc 142) (.loc 147), some ((.loc 138), true)⟩,
              ⟨(some 149), false, .pick (.loc 138) (.loc 148) (.val (.tr (.sc (.bool false)))), none⟩]
@[simp] def r8_34 : List HOp := [⟨(some 152), false, .mv (.env 15), none⟩,
               ⟨(some 153), false, .mv (.env 17), none⟩,
               ⟨(some 154), false, .bin .other .sub (.loc 153) (.val (.tr (.sc (.int .i64 1)))), none⟩,
               ⟨(some 155), false, .iaddr 1 (.loc 152) (.loc 154), none⟩,
               ⟨(some 156), false, .load 1 false (.loc 155), none⟩,
               ⟨(some 157), false, .mv (.env 15), none⟩,
               ⟨(some 158), false, .mv (.env 17), none⟩,
               ⟨(some 159), false, .iaddr 1 (.loc 157) (.loc 158), none⟩,
               ⟨(some 160), false, .load 1 false (.loc 159), none⟩,
               ⟨(some 18), true, .mv (.loc 156), none⟩,
               ⟨(some 19), true, .mv (.loc 160), none⟩]
@[simp] def r8_35 : List HOp := [⟨(some 161), false, .mv (.env 15), none⟩,
               ⟨(some 162), false, .mv (.env 17), none⟩,
               ⟨(some 163), false, .bin .other .sub (.loc 162) (.val (.tr (.sc (.int .i64 1)))), none⟩,
               ⟨(some 164), false, .mv (.env 19), none⟩,
               ⟨(some 165), false, .iaddr 1 (.loc 161) (.loc 163), none⟩,
               ⟨none, false, .store 1 (.loc 165) (.loc 164), none⟩]
@[simp] def r8_36 : List HOp := [⟨(some 166), false, .mv (.env 15), none⟩,
              ⟨(some 167), false, .mv (.env 17), none⟩,
              ⟨(some 168), false, .mv (.env 18), none⟩,
              ⟨(some 169), false, .iaddr 1 (.loc 166) (.loc 167), none⟩,
              ⟨none, false, .store 1 (.loc 169) (.loc 168), none⟩]
@[simp] def r8_37 : List HOp := [⟨(some 150), false, .mv (.env 17), none⟩,
            ⟨(some 151), false, .bin .other .sub (.loc 150) (.val (.tr (.sc (.int .i64 1)))), none⟩,
            ⟨(some 17), true, .mv (.loc 151), none⟩]
@[simp] def r8_38 : List HOp := [⟨(some 117), false, .mv (.env 16), none⟩,
       ⟨(some 118), false, .bin .other .add (.loc 117) (.val (.tr (.sc (.int .i64 1)))), none⟩,
       ⟨(some 16), true, .mv (.loc 118), none⟩]
@[simp] def r8_39 : List HOp := [⟨(some 170), false, .mv (.env 10), none⟩,
     ⟨(some 171), false, .mv (.env 15), none⟩,
     ⟨(some 4), true, .mv (.loc 170), none⟩,
     ⟨(some 5), true, .mv (.loc 171), none⟩]
@[simp] def k8_5 : HCode := .cond (.loc 23) .skip (.exit 0)
@[simp] def k8_7 : HCode := .cond (.loc 32) (.exit 1) .skip
@[simp] def k8_11 : HCode := .cond (.loc 43) (.region r8_9 none) .skip
def k8_12 : HCode := .region r8_10 none
@[simp] def k8_10 : HCode := .seq (.seq (.region r8_8 none) k8_11) k8_12
@[simp] def k8_9 : HCode := .seq (.region r8_7 none) k8_10
def k8_8 : HCode := .seq (.region r8_6 none) k8_9
def k8_13 : HCode := .region r8_11 none
def k8_6 : HCode := .seq (.block 1 (.seq (.seq (.region r8_5 none) k8_7) k8_8)) k8_13
def k8_4 : HCode := .seq (.seq (.region r8_4 none) k8_5) k8_6
@[simp] def k8_3 : HCode := .block 0 (.loop k8_4)
@[simp] def k8_20 : HCode := .cond (.loc 55) .skip (.exit 4)
@[simp] def k8_22 : HCode := .cond (.loc 64) (.exit 5) .skip
@[simp] def k8_27 : HCode := .cond (.loc 74) .skip (.exit 6)
def k8_28 : HCode := .seq (.block 7 (.region r8_20 none)) (.region r8_21 none)
def k8_26 : HCode := .seq (.seq (.region r8_19 none) k8_27) k8_28
@[simp] def k8_25 : HCode := .block 6 (.loop k8_26)
@[simp] def k8_30 : HCode := .cond (.loc 102) (.region r8_23 none) .skip
def k8_29 : HCode := .seq (.region r8_22 (some [ ( 0, [ 13 ] ) , ( 0, [ 87 ] ) , ( 0, [ 11, 88 ] ) , ( 0, [ 89, 88 ] ) , ( 0, [ 90, 88 ] ) , ( 0, [ 6, 91 ] ) , ( 0, [ 12, 91 ] ) , ( 1, [ 92, 93, 91 ] ) , ( 1, [ 94, 91 ] ) , ( 0, [ 6, 91 ] ) , ( 0, [ 11, 91 ] ) , ( 1, [ 96, 97, 91 ] ) , ( 1, [ 98, 91 ] ) , ( 0, [ 95, 99, 91 ] ) , ( 0, [ 91, 100, 88 ] ) , ( 0, [ 88, 101 ] ) ])) k8_30
@[simp] def k8_24 : HCode := .seq (.seq (.region r8_18 none) k8_25) k8_29
def k8_23 : HCode := .seq (.region r8_17 none) k8_24
def k8_31 : HCode := .region r8_24 none
def k8_21 : HCode := .seq (.block 5 (.seq (.seq (.region r8_16 none) k8_22) k8_23)) k8_31
def k8_19 : HCode := .seq (.seq (.region r8_15 none) k8_20) k8_21
@[simp] def k8_18 : HCode := .block 4 (.loop k8_19)
@[simp] def k8_33 : HCode := .cond (.loc 105) (.exit 2) .skip
def k8_34 : HCode := .region r8_26 none
def k8_32 : HCode := .seq (.seq (.region r8_25 none) k8_33) k8_34
@[simp] def k8_17 : HCode := .seq (.seq (.region r8_14 none) k8_18) k8_32
def k8_16 : HCode := .block 3 (.seq (.region r8_13 none) k8_17)
@[simp] def k8_39 : HCode := .cond (.loc 116) .skip (.exit 8)
@[simp] def k8_46 : HCode := .cond (.loc 149) .skip (.exit 10)
@[simp] def k8_48 : HCode := .seq (.region r8_35 none) (.region r8_36 none)
def k8_47 : HCode := .seq (.block 11 (.seq (.region r8_34 (some [ ( 0, [ 15 ] ) , ( 0, [ 17 ] ) , ( 0, [ 153 ] ) , ( 1, [ 152, 154 ] ) , ( 1, [ 155 ] ) , ( 0, [ 15 ] ) , ( 0, [ 17 ] ) , ( 1, [ 157, 158 ] ) , ( 1, [ 159 ] ) , ( 0, [ 156 ] ) , ( 0, [ 160 ] ) ])) k8_48)) (.region r8_37 none)
def k8_45 : HCode := .seq (.seq (.region r8_33 (some [ ( 0, [ 17 ] ) , ( 0, [ 136 ] ) , ( 0, [ 137 ] ) , ( 0, [ 15, 138 ] ) , ( 0, [ 17, 138 ] ) , ( 1, [ 139, 140, 138 ] ) , ( 1, [ 141, 138 ] ) , ( 0, [ 15, 138 ] ) , ( 0, [ 17, 138 ] ) , ( 0, [ 144, 138 ] ) , ( 1, [ 143, 145, 138 ] ) , ( 1, [ 146, 138 ] ) , ( 0, [ 142, 147, 138 ] ) , ( 0, [ 138, 148 ] ) ])) k8_46) k8_47
@[simp] def k8_44 : HCode := .block 10 (.loop k8_45)
@[simp] def k8_43 : HCode := .seq (.region r8_32 none) k8_44
@[simp] def k8_42 : HCode := .seq (.region r8_31 none) k8_43
@[simp] def k8_41 : HCode := .cond (.loc 125) k8_42 .skip
def k8_49 : HCode := .region r8_38 none
def k8_40 : HCode := .seq (.block 9 (.seq (.region r8_30 none) k8_41)) k8_49
def k8_38 : HCode := .seq (.seq (.region r8_29 none) k8_39) k8_40
@[simp] def k8_37 : HCode := .block 8 (.loop k8_38)
def k8_50 : HCode := .seq (.region r8_39 none) .ret
@[simp] def k8_36 : HCode := .seq (.seq (.region r8_28 none) k8_37) k8_50
def k8_35 : HCode := .seq (.region r8_27 none) k8_36
@[simp] def k8_15 : HCode := .seq (.block 2 (.loop k8_16)) k8_35
def k8_14 : HCode := .seq (.region r8_12 none) k8_15
@[simp] def k8_2 : HCode := .seq (.seq (.region r8_3 none) k8_3) k8_14
@[simp] def k8_1 : HCode := .seq (.region r8_2 none) k8_2
@[simp] def k8_0 : HCode := .seq (.region r8_1 none) k8_1
@[simp] def fn8 : HFn := { nargs := 2, results := [.tmp 4, .tmp 5], mode := .iso, code := (.seq (.region r8_0 none) k8_0) }
theorem c8 : cFn Try.prog (Hs 8) .iso 8 = some fn8 := by kernel_rfl
/- sterling/sterlingref19.among -/
@[simp] def r22_0 : List HOp := [⟨(some 4), true, .mv (.val (.tr (.sc (.int .i64 0)))), none⟩]
@[simp] def r22_1 : List HOp := [⟨(some 5), true, .mv (.val (.tr (.sc (.int .i64 0)))), none⟩]
@[simp] def r22_2 : List HOp := [⟨(some 6), false, .mv (.env 5), none⟩,
         ⟨(some 7), false, .mv (.env 0), none⟩,
         ⟨(some 8), false, .len 1 (.loc 7), none⟩,
         ⟨(some 9), false, .bin .other .lss (.loc 6) (.loc 8), none⟩]
@[simp] def r22_3 : List HOp := [⟨(some 12), false, .mv (.env 0), none⟩,
          ⟨(some 13), false, .mv (.env 5), none⟩,
          ⟨(some 14), false, .iaddr 1 (.loc 12) (.loc 13), none⟩,
          ⟨(some 15), false, .load 1 false (.loc 14), none⟩,
          ⟨(some 16), false, .mv (.env 1), none⟩,
          ⟨(some 17), false, .bin .other .eql (.loc 15) (.loc 16), none⟩]
@[simp] def r22_4 : List HOp := [⟨(some 18), false, .mv (.env 5), none⟩,
           ⟨(some 4), true, .mv (.loc 18), none⟩]
@[simp] def r22_5 : List HOp := [⟨(some 10), false, .mv (.env 5), none⟩,
       ⟨(some 11), false, .bin .other .add (.loc 10) (.val (.tr (.sc (.int .i64 1)))), none⟩,
       ⟨(some 5), true, .mv (.loc 11), none⟩]
@[simp] def r22_6 : List HOp := [⟨(some 4), true, .mv (.val (.tr (.sc (.int .i64 (-1))))), none⟩]
@[simp] def k22_3 : HCode := .cond (.loc 9) .skip (.exit 0)
@[simp] def k22_6 : HCode := .seq (.region r22_4 none) .ret
@[simp] def k22_5 : HCode := .cond (.loc 17) k22_6 .skip
def k22_7 : HCode := .region r22_5 none
def k22_4 : HCode := .seq (.block 1 (.seq (.region r22_3 none) k22_5)) k22_7
def k22_2 : HCode := .seq (.seq (.region r22_2 none) k22_3) k22_4
@[simp] def k22_1 : HCode := .block 0 (.loop k22_2)
def k22_8 : HCode := .seq (.region r22_6 none) .ret
@[simp] def k22_0 : HCode := .seq (.seq (.region r22_1 none) k22_1) k22_8
@[simp] def fn22 : HFn := { nargs := 2, results := [.tmp 4], mode := .iso, code := (.seq (.region r22_0 none) k22_0) }
theorem c22 : cFn Try.prog (Hs 22) .iso 22 = some fn22 := by kernel_rfl
/- sterling/sterlinglaw19.lists -/
@[simp] def r9_0 : List HOp := [⟨(some 4), true, .mv (.val (.tr (.sc (.bool false)))), none⟩]
@[simp] def r9_1 : List HOp := [⟨(some 6), false, .mv (.env 0), none⟩,
      ⟨(some 7), false, .len 1 (.loc 6), none⟩,
      ⟨(some 8), false, .mv (.env 1), none⟩,
      ⟨(some 9), false, .len 1 (.loc 8), none⟩,
      ⟨(some 10), false, .bin .other .neq (.loc 7) (.loc 9), none⟩]
@[simp] def r9_2 : List HOp := [⟨(some 4), true, .mv (.val (.tr (.sc (.bool false)))), none⟩]
@[simp] def r9_3 : List HOp := [⟨(some 5), true, .mv (.val (.tr (.sc (.int .i64 0)))), none⟩]
@[simp] def r9_4 : List HOp := [⟨(some 11), false, .mv (.env 5), none⟩,
         ⟨(some 12), false, .mv (.env 0), none⟩,
         ⟨(some 13), false, .len 1 (.loc 12), none⟩,
         ⟨(some 14), false, .bin .other .lss (.loc 11) (.loc 13), none⟩]
@[simp] def r9_5 : List HOp := [⟨(some 17), false, .mv (.env 0), none⟩,
          ⟨(some 18), false, .mv (.env 5), none⟩,
          ⟨(some 19), false, .iaddr 1 (.loc 17) (.loc 18), none⟩,
          ⟨(some 20), false, .load 1 false (.loc 19), none⟩,
          ⟨(some 21), false, .mv (.env 1), none⟩,
          ⟨(some 22), false, .mv (.env 5), none⟩,
          ⟨(some 23), false, .iaddr 1 (.loc 21) (.loc 22), none⟩,
          ⟨(some 24), false, .load 1 false (.loc 23), none⟩,
          ⟨(some 25), false, .bin .other .neq (.loc 20) (.loc 24), none⟩]
@[simp] def r9_6 : List HOp := [⟨(some 4), true, .mv (.val (.tr (.sc (.bool false)))), none⟩]
@[simp] def r9_7 : List HOp := [⟨(some 15), false, .mv (.env 5), none⟩,
       ⟨(some 16), false, .bin .other .add (.loc 15) (.val (.tr (.sc (.int .i64 1)))), none⟩,
       ⟨(some 5), true, .mv (.loc 16), none⟩]
@[simp] def r9_8 : List HOp := [⟨(some 4), true, .mv (.val (.tr (.sc (.bool true)))), none⟩]
@[simp] def k9_2 : HCode := .seq (.region r9_2 none) .ret
@[simp] def k9_1 : HCode := .cond (.loc 10) k9_2 .skip
@[simp] def k9_6 : HCode := .cond (.loc 14) .skip (.exit 0)
@[simp] def k9_9 : HCode := .seq (.region r9_6 none) .ret
@[simp] def k9_8 : HCode := .cond (.loc 25) k9_9 .skip
def k9_10 : HCode := .region r9_7 none
def k9_7 : HCode := .seq (.block 1 (.seq (.region r9_5 (some [ ( 0, [ 0 ] ) , ( 0, [ 5 ] ) , ( 1, [ 17, 18 ] ) , ( 1, [ 19 ] ) , ( 0, [ 1 ] ) , ( 0, [ 5 ] ) , ( 1, [ 21, 22 ] ) , ( 1, [ 23 ] ) , ( 0, [ 20, 24 ] ) ])) k9_8)) k9_10
def k9_5 : HCode := .seq (.seq (.region r9_4 none) k9_6) k9_7
@[simp] def k9_4 : HCode := .block 0 (.loop k9_5)
def k9_11 : HCode := .seq (.region r9_8 none) .ret
def k9_3 : HCode := .seq (.seq (.region r9_3 none) k9_4) k9_11
@[simp] def k9_0 : HCode := .seq (.seq (.region r9_1 none) k9_1) k9_3
@[simp] def fn9 : HFn := { nargs := 2, results := [.tmp 4], mode := .iso, code := (.seq (.region r9_0 none) k9_0) }
theorem c9 : cFn Try.prog (Hs 9) .iso 9 = some fn9 := by kernel_rfl
/- sterling/sterlinglaw20.InitOrder -/
@[simp] def r4_0 : List HOp := [⟨(some 4), true, .mv (.val (.tr (.sc (.bool false)))), none⟩]
@[simp] def r4_1 : List HOp := [⟨(some 12), false, .callf 10 [], none⟩,
     ⟨(some 5), true, .mv (.loc 12), none⟩]
@[simp] def r4_2 : List HOp := [⟨(some 13), false, .mv (.env 0), none⟩,
      ⟨(some 14), false, .len 1 (.loc 13), none⟩,
      ⟨(some 15), false, .bin .other .gtr (.loc 14) (.val (.tr (.sc (.int .i64 16)))), none⟩]
@[simp] def r4_3 : List HOp := [⟨(some 16), false, .mv (.env 0), none⟩,
      ⟨(some 17), false, .slice 1 (.loc 16) none (some (.val (.tr (.sc (.int .i64 16))))) none, none⟩,
      ⟨(some 0), true, .mv (.loc 17), none⟩]
@[simp] def r4_4 : List HOp := [⟨(some 18), false, .mv (.env 1), none⟩,
     ⟨(some 19), false, .callf 11 [(.loc 18), (.val (.tr (.sc (.int .i64 20))))], none⟩,
     ⟨(some 6), true, .mv (.loc 19), none⟩]
@[simp] def r4_5 : List HOp := [⟨(some 21), false, .mv (.env 0), none⟩,
     ⟨(some 22), false, .mv (.env 6), none⟩,
     ⟨(some 23), false, .callf 12 [(.loc 21), (.loc 22)], none⟩,
     ⟨(some 20), false, .mv (.loc 23), none⟩,
     ⟨(some 24), false, .extract (.loc 20) 0, none⟩,
     ⟨(some 25), false, .extract (.loc 20) 1, none⟩,
     ⟨(some 7), true, .mv (.loc 24), none⟩,
     ⟨(some 8), true, .mv (.loc 25), none⟩]
@[simp] def r4_6 : List HOp := [⟨(some 27), false, .mv (.env 0), none⟩,
     ⟨(some 28), false, .mv (.env 6), none⟩,
     ⟨(some 29), false, .callf 13 [(.loc 27), (.loc 28)], none⟩,
     ⟨(some 26), false, .mv (.loc 29), none⟩,
     ⟨(some 30), false, .extract (.loc 26) 0, none⟩,
     ⟨(some 31), false, .extract (.loc 26) 1, none⟩,
     ⟨(some 9), true, .mv (.loc 30), none⟩,
     ⟨(some 10), true, .mv (.loc 31), none⟩]
@[simp] def r4_7 : List HOp := [⟨(some 32), false, .mv (.env 8), none⟩,
      ⟨(some 33), false, .mv (.env 10), none⟩,
      ⟨(some 34), false, .bin .bool .neq (.loc 32) (.loc 33), none⟩,
      ⟨(some 35), false, .mv (.loc 34), none⟩,
      ⟨(some 36), false, .mv (.env 7), some ((.loc 35), false)⟩,
      ⟨(some 37), false, .len 1 (.loc 36), some ((.loc 35), false)⟩,
      ⟨(some 38), false, .mv (.env 9), some ((.loc 35), false)⟩,
      ⟨(some 39), false, .len 1 (.loc 38), some ((.loc 35), false)⟩,
      ⟨(some 40), false, .bin .other .neq (.loc 37) (.loc 39), some ((.loc 35), false)⟩,
      ⟨(some 41), false, .pick (.loc 35) (.val (.tr (.sc (.bool true)))) (.loc 40), none⟩]
@[simp] def r4_8 : List HOp := [⟨(some 4), true, .mv (.val (.tr (.sc (.bool false)))), none⟩]
@[simp] def r4_9 : List HOp := [⟨(some 11), true, .mv (.val (.tr (.sc (.int .i64 0)))), none⟩]
@[simp] def r4_10 : List HOp := [⟨(some 42), false, .mv (.env 11), none⟩,
         ⟨(some 43), false, .mv (.env 7), none⟩,
         ⟨(some 44), false, .len 1 (.loc 43), none⟩,
         ⟨(some 45), false, .bin .other .lss (.loc 42) (.loc 44), none⟩]
@[simp] def r4_11 : List HOp := [⟨(some 48), false, .mv (.env 7), none⟩,
          ⟨(some 49), false, .mv (.env 11), none⟩,
          ⟨(some 50), false, .iaddr 1 (.loc 48) (.loc 49), none⟩,
          ⟨(some 51), false, .load 1 false (.loc 50), none⟩,
          ⟨(some 52), false, .mv (.env 9), none⟩,
          ⟨(some 53), false, .mv (.env 11), none⟩,
          ⟨(some 54), false, .iaddr 1 (.loc 52) (.loc 53), none⟩,
          ⟨(some 55), false, .load 1 false (.loc 54), none⟩,
          ⟨(some 56), false, .bin .other .neq (.loc 51) (.loc 55), none⟩]
@[simp] def r4_12 : List HOp := [⟨(some 4), true, .mv (.val (.tr (.sc (.bool false)))), none⟩]
@[simp] def r4_13 : List HOp := [⟨(some 46), false, .mv (.env 11), none⟩,
       ⟨(some 47), false, .bin .other .add (.loc 46) (.val (.tr (.sc (.int .i64 1)))), none⟩,
       ⟨(some 11), true, .mv (.loc 47), none⟩]
@[simp] def r4_14 : List HOp := [⟨(some 57), false, .mv (.env 5), none⟩,
     ⟨(some 4), true, .mv (.loc 57), none⟩]
@[simp] def k4_2 : HCode := .cond (.loc 15) (.region r4_3 none) .skip
@[simp] def k4_8 : HCode := .seq (.region r4_8 none) .ret
@[simp] def k4_7 : HCode := .cond (.loc 41) k4_8 .skip
@[simp] def k4_12 : HCode := .cond (.loc 45) .skip (.exit 0)
@[simp] def k4_15 : HCode := .seq (.region r4_12 none) .ret
@[simp] def k4_14 : HCode := .cond (.loc 56) k4_15 .skip
def k4_16 : HCode := .region r4_13 none
def k4_13 : HCode := .seq (.block 1 (.seq (.region r4_11 (some [ ( 0, [ 7 ] ) , ( 0, [ 11 ] ) , ( 1, [ 48, 49 ] ) , ( 1, [ 50 ] ) , ( 0, [ 9 ] ) , ( 0, [ 11 ] ) , ( 1, [ 52, 53 ] ) , ( 1, [ 54 ] ) , ( 0, [ 51, 55 ] ) ])) k4_14)) k4_16
def k4_11 : HCode := .seq (.seq (.region r4_10 none) k4_12) k4_13
@[simp] def k4_10 : HCode := .block 0 (.loop k4_11)
def k4_17 : HCode := .seq (.region r4_14 none) .ret
def k4_9 : HCode := .seq (.seq (.region r4_9 none) k4_10) k4_17
@[simp] def k4_6 : HCode := .seq (.seq (.region r4_7 none) k4_7) k4_9
@[simp] def k4_5 : HCode := .seq (.region r4_6 none) k4_6
@[simp] def k4_4 : HCode := .seq (.region r4_5 none) k4_5
def k4_3 : HCode := .seq (.region r4_4 none) k4_4
@[simp] def k4_1 : HCode := .seq (.seq (.region r4_2 none) k4_2) k4_3
@[simp] def k4_0 : HCode := .seq (.region r4_1 none) k4_1
@[simp] def fn4 : HFn := { nargs := 2, results := [.tmp 4], mode := .shared, code := (.seq (.region r4_0 none) k4_0) }
theorem c4 : cFn Try.prog (Hs 4) .shared 4 = some fn4 := by kernel_rfl
/- sterling/sterlinglaw20.begun -/
@[simp] def r10_0 : List HOp := [⟨(some 0), true, .mv (.val (.tr (.sc (.bool false)))), none⟩]
@[simp] def r10_1 : List HOp := [⟨(some 5), false, .bslice false 3 1 [(.sc (.bool false))] [(0, 1, (.val (.tr (.sc (.bool true))))), (1, 1, (.val (.tr (.sc (.bool false))))), (2, 1, (.val (.tr (.sc (.bool true)))))], none⟩,
     ⟨(some 6), false, .bslice false 1 1 [(.sc (.int .i64 0))] [(0, 1, (.val (.tr (.sc (.int .i64 1)))))], none⟩,
     ⟨(some 7), false, .bslice false 1 1 [(.sc (.int .i64 0))] [(0, 1, (.val (.tr (.sc (.int .i64 2)))))], none⟩,
     ⟨(some 8), false, .bslice false 3 1 [(.sc (.slice none 0 0))] [(0, 1, (.loc 6)), (1, 1, (.loc 7)), (2, 1, (.val (.tr (.sc (.slice none 0 0)))))], none⟩,
     ⟨(some 9), false, .callf 12 [(.loc 5), (.loc 8)], none⟩,
     ⟨(some 4), false, .mv (.loc 9), none⟩,
     ⟨(some 10), false, .extract (.loc 4) 0, none⟩,
     ⟨(some 11), false, .extract (.loc 4) 1, none⟩,
     ⟨(some 1), true, .mv (.loc 10), none⟩,
     ⟨(some 2), true, .mv (.loc 11), none⟩]
@[simp] def r10_2 : List HOp := [⟨(some 12), false, .bslice false 1 1 [(.sc (.int .i64 0))] [(0, 1, (.val (.tr (.sc (.int .i64 1)))))], none⟩,
     ⟨(some 13), false, .bslice false 1 1 [(.sc (.int .i64 0))] [(0, 1, (.val (.tr (.sc (.int .i64 2)))))], none⟩,
     ⟨(some 14), false, .bslice false 3 1 [(.sc (.slice none 0 0))] [(0, 1, (.loc 12)), (1, 1, (.loc 13)), (2, 1, (.val (.tr (.sc (.slice none 0 0)))))], none⟩,
     ⟨(some 15), false, .callf 14 [(.loc 14), (.val (.tr (.sc (.int .i64 0))))], none⟩,
     ⟨(some 3), true, .mv (.loc 15), none⟩]
@[simp] def r10_3 : List HOp := [⟨(some 16), false, .mv (.env 2), none⟩,
     ⟨(some 17), false, .mv (.loc 16), none⟩,
     ⟨(some 18), false, .mv (.env 1), some ((.loc 17), true)⟩,
     ⟨(some 19), false, .len 1 (.loc 18), some ((.loc 17), true)⟩,
     ⟨(some 20), false, .bin .other .eql (.loc 19) (.val (.tr (.sc (.int .i64 2)))), some ((.loc 17), true)⟩,
     ⟨(some 21), false, .pick (.loc 17) (.loc 20) (.val (.tr (.sc (.bool false)))), none⟩,
     ⟨(some 22), false, .mv (.loc 21), none⟩,
     ⟨(some 23), false, .mv (.env 1), some ((.loc 22), true)⟩,
     ⟨(some 24), false, .iaddr 1 (.loc 23) (.val (.tr (.sc (.int .i64 0)))), some ((.loc 22), true)⟩,
     ⟨(some 25), false, .load 1 false (.loc 24), some ((.loc 22), true)⟩,
     ⟨(some 26), false, .bin .other .eql (.loc 25) (.val (.tr (.sc (.int .i64 2)))), some ((.loc 22), true)⟩,
     ⟨(some 27), false, .pick (.loc 22) (.loc 26) (.val (.tr (.sc (.bool false)))), none⟩,
     ⟨(some 28), false, .mv (.loc 27), none⟩,
     ⟨(some 29), false, .mv (.env 1), some ((.loc 28), true)⟩,
     ⟨(some 30), false, .iaddr 1 (.loc 29) (.val (.tr (.sc (.int .i64 1)))), some ((.loc 28), true)⟩,
     ⟨(some 31), false, .load 1 false (.loc 30), some ((.loc 28), true)⟩,
     ⟨(some 32), false, .bin .other .eql (.loc 31) (.val (.tr (.sc (.int .i64 0)))), some ((.loc 28), true)⟩,
     ⟨(some 33), false, .pick (.loc 28) (.loc 32) (.val (.tr (.sc (.bool false)))), none⟩,
     ⟨(some 34), false, .mv (.loc 33), none⟩,
     ⟨(some 35), false, .mv (.env 3), some ((.loc 34), true)⟩,
     ⟨(some 36), false, .len 1 (.loc 35), some ((.loc 34), true)⟩,
     ⟨(some 37), false, .bin .other .eql (.loc 36) (.val (.tr (.sc (.int .i64 2)))), some ((.loc 34), true)⟩,
     ⟨(some 38), false, .pick (.loc 34) (.loc 37) (.val (.tr (.sc (.bool false)))), none⟩,
     ⟨(some 0), true, .mv (.loc 38), none⟩]
@[simp] def k10_2 : HCode := .seq (.region r10_3 none) .ret
@[simp] def k10_1 : HCode := .seq (.region r10_2 none) k10_2
@[simp] def k10_0 : HCode := .seq (.region r10_1 none) k10_1
@[simp] def fn10 : HFn := { nargs := 0, results := [.tmp 0], mode := .iso, code := (.seq (.region r10_0 none) k10_0) }
theorem c10 : cFn Try.prog (Hs 10) .iso 10 = some fn10 := by kernel_rfl
/- sterling/initorder.Order -/
@[simp] def r12_0 : List HOp := [⟨(some 2), true, .box false (.env 0), none⟩,
     ⟨(some 4), true, .mv (.val (.tr (.sc (.slice none 0 0)))), none⟩,
     ⟨(some 5), true, .mv (.val (.tr (.sc (.bool false)))), none⟩]
@[simp] def r12_1 : List HOp := [⟨(some 6), true, .mv (.val (.tr (.sc (.slice none 0 0)))), none⟩]
@[simp] def r12_2 : List HOp := [⟨(some 17), false, .load 1 false (.env 2), none⟩,
      ⟨(some 18), true, .len 1 (.loc 17), none⟩,
      ⟨(some 19), true, .mv (.val (.tr (.sc (.int .i64 0)))), none⟩]
@[simp] def r12_3 : List HOp := [⟨(some 20), false, .bin .other .lss (.env 19) (.env 18), none⟩]
@[simp] def r12_4 : List HOp := [⟨(some 21), false, .mv (.env 19), none⟩,
          ⟨(some 7), true, .mv (.loc 21), none⟩]
@[simp] def r12_5 : List HOp := [⟨(some 8), true, .mv (.val (.tr (.sc (.slice none 0 0)))), none⟩]
@[simp] def r12_6 : List HOp := [⟨(some 22), false, .mv (.env 7), none⟩,
           ⟨(some 23), false, .mv (.env 1), none⟩,
           ⟨(some 24), false, .len 1 (.loc 23), none⟩,
           ⟨(some 25), false, .bin .other .lss (.loc 22) (.loc 24), none⟩]
@[simp] def r12_7 : List HOp := [⟨(some 26), false, .mv (.env 1), none⟩,
            ⟨(some 27), false, .mv (.env 7), none⟩,
            ⟨(some 28), false, .iaddr 1 (.loc 26) (.loc 27), none⟩,
            ⟨(some 29), true, .load 1 false (.loc 28), none⟩,
            ⟨(some 30), true, .len 1 (.env 29), none⟩,
            ⟨(some 31), true, .mv (.val (.tr (.sc (.int .i64 0)))), none⟩]
@[simp] def r12_8 : List HOp := [⟨(some 32), false, .bin .other .lss (.env 31) (.env 30), none⟩]
@[simp] def r12_9 : List HOp := [⟨(some 33), false, .iaddr 1 (.env 29) (.env 31), none⟩,
                ⟨(some 34), false, .load 1 false (.loc 33), none⟩,
                ⟨(some 10), true, .mv (.loc 34), none⟩]
@[simp] def r12_10 : List HOp := [⟨(some 35), false, .mv (.env 10), none⟩,
                ⟨(some 36), false, .bin .other .geq (.loc 35) (.val (.tr (.sc (.int .i64 0)))), none⟩,
                ⟨(some 37), false, .mv (.loc 36), none⟩,
                ⟨(some 38), false, .mv (.env 10), some ((.loc 37), true)⟩,
                ⟨(some 39), false, .load 1 false (.env 2), some ((.loc 37), true)⟩,
                ⟨(some 40), false, .len 1 (.loc 39), some ((.loc 37), true)⟩,
                ⟨(some 41), false, .bin .other .lss (.loc 38) (.loc 40), some ((.loc 37), true)⟩,
                ⟨(some 42), false, .pick (.loc 37) (.loc 41) (.val (.tr (.sc (.bool false)))), none⟩]
@[simp] def r12_11 : List HOp := [⟨(some 43), false, .mv (.env 8), none⟩,
                ⟨(some 44), false, .mv (.env 10), none⟩,
                ⟨(some 45), false, .bslice false 1 1 [(.sc (.int .i64 0))] [(0, 1, (.loc 44))], none⟩,
                ⟨(some 46), false, .append 1 8 (.loc 43) (.loc 45), none⟩,
                ⟨(some 8), true, .mv (.loc 46), none⟩]
@[simp] def r12_12 : List HOp := [⟨(some 47), false, .bin .other .add (.env 31) (.val (.tr (.sc (.int .i64 1)))), none⟩,
             ⟨(some 31), true, .mv (.loc 47), none⟩]
@[simp] def r12_13 : List HOp := [⟨(some 48), false, .mv (.env 6), none⟩,
         ⟨(some 49), false, .mv (.env 8), none⟩,
         ⟨(some 50), false, .bslice false 1 1 [(.sc (.slice none 0 0))] [(0, 1, (.loc 49))], none⟩,
         ⟨(some 51), false, .append 1 24 (.loc 48) (.loc 50), none⟩,
         ⟨(some 6), true, .mv (.loc 51), none⟩]
@[simp] def r12_14 : List HOp := [⟨(some 52), false, .bin .other .add (.env 19) (.val (.tr (.sc (.int .i64 1)))), none⟩,
       ⟨(some 19), true, .mv (.loc 52), none⟩]
@[simp] def r12_15 : List HOp := [⟨(some 11), true, .mv (.val (.tr (.sc (.slice none 0 0)))), none⟩]
@[simp] def r12_16 : List HOp := [⟨(some 53), false, .load 1 false (.env 2), none⟩,
      ⟨(some 54), true, .len 1 (.loc 53), none⟩,
      ⟨(some 55), true, .mv (.val (.tr (.sc (.int .i64 0)))), none⟩]
@[simp] def r12_17 : List HOp := [⟨(some 56), false, .bin .other .lss (.env 55) (.env 54), none⟩]
@[simp] def r12_18 : List HOp := [⟨(some 57), false, .mv (.env 55), none⟩,
          ⟨(some 12), true, .mv (.loc 57), none⟩]
@[simp] def r12_19 : List HOp := [⟨(some 58), false, .mv (.env 11), none⟩,
          ⟨(some 59), false, .mv (.env 6), none⟩,
          ⟨(some 60), false, .mv (.env 12), none⟩,
          ⟨(some 61), false, .callf 14 [(.loc 59), (.loc 60)], none⟩,
          ⟨(some 62), false, .bslice false 1 1 [(.sc (.slice none 0 0))] [(0, 1, (.loc 61))], none⟩,
          ⟨(some 63), false, .append 1 24 (.loc 58) (.loc 62), none⟩,
          ⟨(some 11), true, .mv (.loc 63), none⟩]
@[simp] def r12_20 : List HOp := [⟨(some 64), false, .load 1 false (.env 2), none⟩,
          ⟨(some 65), false, .mv (.env 12), none⟩,
          ⟨(some 66), false, .iaddr 1 (.loc 64) (.loc 65), none⟩,
          ⟨(some 67), false, .load 1 false (.loc 66), none⟩,
          ⟨(some 68), false, .mv (.loc 67), none⟩,
          ⟨(some 69), false, .mv (.env 11), some ((.loc 68), true)⟩,
          ⟨(some 70), false, .mv (.env 12), some ((.loc 68), true)⟩,
          ⟨(some 71), false, .iaddr 1 (.loc 69) (.loc 70), some ((.loc 68), true)⟩,
          ⟨(some 72), false, .load 1 false (.loc 71), some ((.loc 68), true)⟩,
          ⟨(some 73), false, .mv (.env 12), some ((.loc 68), true)⟩,
          ⟨(some 74), false, .callf 23 [(.loc 72), (.loc 73)], some ((.loc 68), true)⟩,
          ⟨(some 75), false, .pick (.loc 68) (.loc 74) (.val (.tr (.sc (.bool false)))), none⟩]
@[simp] def r12_21 : List HOp := [⟨(some 4), true, .mv (.val (.tr (.sc (.slice none 0 0)))), none⟩,
           ⟨(some 5), true, .mv (.val (.tr (.sc (.bool false)))), none⟩]
@[simp] def r12_22 : List HOp := [⟨(some 76), false, .bin .other .add (.env 55) (.val (.tr (.sc (.int .i64 1)))), none⟩,
       ⟨(some 55), true, .mv (.loc 76), none⟩]
@[simp] def r12_23 : List HOp := [⟨(some 77), false, .load 1 false (.env 2), none⟩,
     ⟨(some 78), false, .len 1 (.loc 77), none⟩,
     ⟨(some 79), false, .mkslice [(.sc (.bool false))] 1 (.loc 78) (.loc 78), none⟩,
     ⟨(some 13), true, .alloc [(.sc (.slice none 0 0))], none⟩,
     ⟨none, false, .store 1 (.env 13) (.loc 79), none⟩]
@[simp] def r12_24 : List HOp := [⟨(some 14), true, .mv (.val (.tr (.sc (.slice none 0 0)))), none⟩]
@[simp] def r12_25 : List HOp := [⟨(some 15), true, .mv (.val (.tr (.sc (.int .i64 (-1))))), none⟩]
@[simp] def r12_26 : List HOp := [⟨(some 80), false, .load 1 false (.env 2), none⟩,
         ⟨(some 81), false, .len 1 (.loc 80), none⟩,
         ⟨(some 82), false, .bin .other .sub (.loc 81) (.val (.tr (.sc (.int .i64 1)))), none⟩,
         ⟨(some 16), true, .mv (.loc 82), none⟩]
@[simp] def r12_27 : List HOp := [⟨(some 83), false, .mv (.env 16), none⟩,
            ⟨(some 84), false, .bin .other .geq (.loc 83) (.val (.tr (.sc (.int .i64 0)))), none⟩]
@[simp] def r12_28 : List HOp := [⟨(some 87), false, .load 1 false (.env 2), none⟩,
             ⟨(some 88), false, .mv (.env 16), none⟩,
             ⟨(some 89), false, .iaddr 1 (.loc 87) (.loc 88), none⟩,
             ⟨(some 90), false, .load 1 false (.loc 89), none⟩,
             ⟨(some 91), false, .mv (.loc 90), none⟩,
             ⟨(some 92), false, .load 1 false (.env 13), some ((.loc 91), true)⟩,
             ⟨(some 93), false, .mv (.env 16), some ((.loc 91), true)⟩,
             ⟨(some 94), false, .iaddr 1 (.loc 92) (.loc 93), some ((.loc 91), true)⟩,
             ⟨(some 95), false, .load 1 false (.loc 94), some ((.loc 91), true)⟩,
             ⟨(some 96), false, .un .not (.loc 95), some ((.loc 91), true)⟩,
             ⟨(some 97), false, .pick (.loc 91) (.loc 96) (.val (.tr (.sc (.bool false)))), none⟩,
             ⟨(some 98), false, .mv (.loc 97), none⟩,
             ⟨(some 99), false, .mv (.env 11), some ((.loc 98), true)⟩,
             ⟨(some 100), false, .mv (.env 16), some ((.loc 98), true)⟩,
             ⟨(some 101), false, .iaddr 1 (.loc 99) (.loc 100), some ((.loc 98), true)⟩,
             ⟨(some 102), false, .load 1 false (.loc 101), some ((.loc 98), true)⟩,
             ⟨(some 103), false, .mkfn (.func 25) [] [(.env 2), (.env 13)], some ((.loc 98), true)⟩,
             ⟨(some 104), false, .callf 24 [(.loc 102), (.loc 103)], some ((.loc 98), true)⟩,
             ⟨(some 105), false, .un .not (.loc 104), some ((.loc 98), true)⟩,
             ⟨(some 106), false, .pick (.loc 98) (.loc 105) (.val (.tr (.sc (.bool false)))), none⟩]
@[simp] def r12_29 : List HOp := [⟨(some 107), false, .mv (.env 16), none⟩,
             ⟨(some 15), true, .mv (.loc 107), none⟩]
@[simp] def r12_30 : List HOp := [⟨(some 85), false, .mv (.env 16), none⟩,
          ⟨(some 86), false, .bin .other .sub (.loc 85) (.val (.tr (.sc (.int .i64 1)))), none⟩,
          ⟨(some 16), true, .mv (.loc 86), none⟩]
@[simp] def r12_31 : List HOp := [⟨(some 108), false, .mv (.env 15), none⟩,
         ⟨(some 109), false, .bin .other .lss (.loc 108) (.val (.tr (.sc (.int .i64 0)))), none⟩]
@[simp] def r12_32 : List HOp := [⟨(some 110), false, .mv (.env 14), none⟩,
          ⟨(some 4), true, .mv (.loc 110), none⟩,
          ⟨(some 5), true, .mv (.val (.tr (.sc (.bool true)))), none⟩]
@[simp] def r12_33 : List HOp := [⟨(some 111), false, .load 1 false (.env 13), none⟩,
        ⟨(some 112), false, .mv (.env 15), none⟩,
        ⟨(some 113), false, .iaddr 1 (.loc 111) (.loc 112), none⟩,
        ⟨none, false, .store 1 (.loc 113) (.val (.tr (.sc (.bool true)))), none⟩]
@[simp] def r12_34 : List HOp := [⟨(some 114), false, .mv (.env 14), none⟩,
       ⟨(some 115), false, .mv (.env 15), none⟩,
       ⟨(some 116), false, .bslice false 1 1 [(.sc (.int .i64 0))] [(0, 1, (.loc 115))], none⟩,
       ⟨(some 117), false, .append 1 8 (.loc 114) (.loc 116), none⟩,
       ⟨(some 14), true, .mv (.loc 117), none⟩]
@[simp] def k12_15 : HCode := .cond (.loc 42) (.region r12_11 none) .skip
@[simp] def k12_14 : HCode := .seq (.region r12_10 none) k12_15
def k12_16 : HCode := .region r12_12 none
def k12_13 : HCode := .seq (.block 3 (.seq (.region r12_9 none) k12_14)) k12_16
@[simp] def k12_12 : HCode := .seq (.cond (.loc 32) .skip (.exit 2)) k12_13
def k12_11 : HCode := .seq (.region r12_8 none) k12_12
@[simp] def k12_10 : HCode := .block 2 (.loop k12_11)
@[simp] def k12_9 : HCode := .seq (.region r12_7 none) k12_10
@[simp] def k12_8 : HCode := .cond (.loc 25) k12_9 .skip
def k12_17 : HCode := .region r12_13 none
@[simp] def k12_7 : HCode := .seq (.seq (.region r12_6 none) k12_8) k12_17
@[simp] def k12_6 : HCode := .seq (.region r12_5 none) k12_7
def k12_18 : HCode := .region r12_14 none
def k12_5 : HCode := .seq (.block 1 (.seq (.region r12_4 none) k12_6)) k12_18
@[simp] def k12_4 : HCode := .seq (.cond (.loc 20) .skip (.exit 0)) k12_5
def k12_3 : HCode := .seq (.region r12_3 none) k12_4
@[simp] def k12_2 : HCode := .block 0 (.loop k12_3)
@[simp] def k12_28 : HCode := .seq (.region r12_21 none) .ret
@[simp] def k12_27 : HCode := .cond (.loc 75) k12_28 .skip
@[simp] def k12_26 : HCode := .seq (.region r12_20 none) k12_27
@[simp] def k12_25 : HCode := .seq (.region r12_19 none) k12_26
def k12_29 : HCode := .region r12_22 none
def k12_24 : HCode := .seq (.block 5 (.seq (.region r12_18 none) k12_25)) k12_29
@[simp] def k12_23 : HCode := .seq (.cond (.loc 56) .skip (.exit 4)) k12_24
def k12_22 : HCode := .seq (.region r12_17 none) k12_23
@[simp] def k12_21 : HCode := .block 4 (.loop k12_22)
@[simp] def k12_37 : HCode := .cond (.loc 84) .skip (.exit 8)
@[simp] def k12_39 : HCode := .cond (.loc 106) (.region r12_29 none) .skip
def k12_40 : HCode := .region r12_30 none
def k12_38 : HCode := .seq (.block 9 (.seq (.region r12_28 none) k12_39)) k12_40
def k12_36 : HCode := .seq (.seq (.region r12_27 none) k12_37) k12_38
@[simp] def k12_35 : HCode := .block 8 (.loop k12_36)
@[simp] def k12_43 : HCode := .seq (.region r12_32 none) .ret
@[simp] def k12_42 : HCode := .cond (.loc 109) k12_43 .skip
def k12_44 : HCode := .seq (.region r12_33 none) (.region r12_34 none)
def k12_41 : HCode := .seq (.seq (.region r12_31 none) k12_42) k12_44
@[simp] def k12_34 : HCode := .seq (.seq (.region r12_26 none) k12_35) k12_41
def k12_33 : HCode := .block 7 (.seq (.region r12_25 none) k12_34)
@[simp] def k12_32 : HCode := .block 6 (.loop k12_33)
@[simp] def k12_31 : HCode := .seq (.region r12_24 none) k12_32
def k12_30 : HCode := .seq (.region r12_23 none) k12_31
@[simp] def k12_20 : HCode := .seq (.seq (.region r12_16 none) k12_21) k12_30
def k12_19 : HCode := .seq (.region r12_15 none) k12_20
@[simp] def k12_1 : HCode := .seq (.seq (.region r12_2 none) k12_2) k12_19
@[simp] def k12_0 : HCode := .seq (.region r12_1 none) k12_1
@[simp] def fn12 : HFn := { nargs := 2, results := [.tmp 4, .tmp 5], mode := .iso, code := (.seq (.region r12_0 none) k12_0) }
theorem c12 : cFn Try.prog (Hs 12) .iso 12 = some fn12 := by kernel_rfl
end Go.Proofs.Ytknoiiacnfbkaaa.AM.Io
