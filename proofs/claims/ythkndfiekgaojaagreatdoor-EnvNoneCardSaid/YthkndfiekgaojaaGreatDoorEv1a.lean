/- The functions that EnvNone reaches, each checked against the translation, part one. -/
import Derived.Test.YthkndfiekgaojaaGreatDoorAm4
import Derived.Test.YthkndfiekgaojaaGreatDoorProg
import Derived.KernelRfl
set_option maxRecDepth 1000000
set_option linter.unusedVariables false
set_option linter.unusedSimpArgs false
namespace Go.Proofs.YthkndfiekgaojaaGreatDoor.AM.Ev
open Go.Proofs
/-- What was chosen for each function. -/
def Hq (f : Nat) : List Nat :=  []
def Hb (f : Nat) : List Nat :=  []
def Hl (f : Nat) : List Nat :=  []
def Ho (f d : Nat) : Bool :=  false
def Hs (f : Nat) : Hints := { own := fun d => Ho f d, qa := fun d => memN d (Hq f), tu := fun _ => true, bt := fun d => memN d (Hb f), ld := fun d => memN d (Hl f) }
/-- Functions by what they answer: how many arguments, which. -/
def Te (f : Nat) : Option (Nat × Nat) := if Nat.beq f 25 then some (2, 0) else if Nat.beq f 76 then some (2, 2) else if Nat.beq f 77 then some (2, 3) else if Nat.beq f 42 then some (1, 1) else if Nat.beq f 21 then some (1, 9) else if Nat.beq f 10 then some (1, 14) else none
/- sterling/sterlinglaw13.EnvNone -/
@[simp] def r3_0 : List HOp := [⟨(some 0), true, .mv (.val (.tr (.sc (.bool false)))), none⟩]
@[simp] def r3_1 : List HOp := [⟨(some 1), true, .mv (.val (.tr (.sc (.pointer none)))), none⟩]
@[simp] def r3_2 : List HOp := [⟨(some 11), false, .mv (.env 1), none⟩,
     ⟨(some 12), false, .callf 5 [(.loc 11), (.val (.tr (.sc (.string ⟨⟨[101, 114, 114, 111, 114]⟩⟩))))], none⟩,
     ⟨(some 10), false, .mv (.loc 12), none⟩,
     ⟨(some 13), false, .extract (.loc 10) 0, none⟩,
     ⟨(some 14), false, .extract (.loc 10) 1, none⟩,
     ⟨(some 2), true, .alloc [(.sc (.string ⟨⟨[]⟩⟩)), (.sc (.slice none 0 0)), (.sc (.int .i64 0)), (.sc (.string ⟨⟨[]⟩⟩)), (.sc (.int .i64 0)), (.sc (.slice none 0 0)), (.sc (.slice none 0 0)), (.sc (.slice none 0 0)), (.sc (.slice none 0 0)), (.sc (.slice none 0 0))], none⟩,
     ⟨none, false, .store 10 (.env 2) (.loc 13), none⟩,
     ⟨(some 3), true, .mv (.loc 14), none⟩]
@[simp] def r3_3 : List HOp := [⟨(some 16), false, .mv (.env 1), none⟩,
     ⟨(some 17), false, .callf 5 [(.loc 16), (.val (.tr (.sc (.string ⟨⟨[112, 46, 88]⟩⟩))))], none⟩,
     ⟨(some 15), false, .mv (.loc 17), none⟩,
     ⟨(some 18), false, .extract (.loc 15) 0, none⟩,
     ⟨(some 19), false, .extract (.loc 15) 1, none⟩,
     ⟨(some 4), false, .alloc [(.sc (.string ⟨⟨[]⟩⟩)), (.sc (.slice none 0 0)), (.sc (.int .i64 0)), (.sc (.string ⟨⟨[]⟩⟩)), (.sc (.int .i64 0)), (.sc (.slice none 0 0)), (.sc (.slice none 0 0)), (.sc (.slice none 0 0)), (.sc (.slice none 0 0)), (.sc (.slice none 0 0))], none⟩,
     ⟨none, false, .store 10 (.loc 4) (.loc 18), none⟩,
     ⟨(some 5), true, .mv (.loc 19), none⟩]
@[simp] def r3_4 : List HOp := [⟨(some 21), false, .mv (.env 1), none⟩,
     ⟨(some 22), false, .callf 7 [(.val (.tr (.sc (.string ⟨⟨[101, 114, 114, 111, 114]⟩⟩)))), (.val (.tr (.sc (.slice none 0 0))))], none⟩,
     ⟨(some 23), false, .callf 6 [(.loc 21), (.loc 22)], none⟩,
     ⟨(some 20), false, .mv (.loc 23), none⟩,
     ⟨(some 24), false, .extract (.loc 20) 0, none⟩,
     ⟨(some 25), false, .extract (.loc 20) 1, none⟩,
     ⟨(some 6), true, .alloc [(.sc (.int .i64 0)), (.sc (.string ⟨⟨[]⟩⟩)), (.sc (.int .i64 0)), (.sc (.slice none 0 0)), (.sc (.slice none 0 0)), (.sc (.slice none 0 0)), (.sc (.slice none 0 0))], none⟩,
     ⟨none, false, .store 7 (.env 6) (.loc 24), none⟩,
     ⟨(some 7), true, .mv (.loc 25), none⟩]
@[simp] def r3_5 : List HOp := [⟨(some 27), false, .mv (.env 1), none⟩,
     ⟨(some 28), false, .callf 8 [(.loc 27), (.val (.tr (.sc (.string ⟨⟨[120]⟩⟩))))], none⟩,
     ⟨(some 26), false, .mv (.loc 28), none⟩,
     ⟨(some 29), false, .extract (.loc 26) 0, none⟩,
     ⟨(some 30), false, .extract (.loc 26) 1, none⟩,
     ⟨(some 8), false, .alloc [(.sc (.int .i64 0)), (.sc (.string ⟨⟨[]⟩⟩)), (.sc (.int .i64 0)), (.sc (.slice none 0 0)), (.sc (.slice none 0 0)), (.sc (.slice none 0 0)), (.sc (.slice none 0 0))], none⟩,
     ⟨none, false, .store 7 (.loc 8) (.loc 29), none⟩,
     ⟨(some 9), true, .mv (.loc 30), none⟩]
@[simp] def r3_6 : List HOp := [⟨(some 31), false, .callf 9 [], none⟩,
     ⟨(some 32), false, .mv (.loc 31), none⟩,
     ⟨(some 33), false, .mv (.env 3), some ((.loc 32), true)⟩,
     ⟨(some 34), false, .pick (.loc 32) (.loc 33) (.val (.tr (.sc (.bool false)))), none⟩,
     ⟨(some 35), false, .mv (.loc 34), none⟩,
     ⟨(some 36), false, .faddr 2 (.env 2), some ((.loc 35), true)⟩,
     ⟨(some 37), false, .faddr 4 (.loc 36), some ((.loc 35), true)⟩,
     ⟨(some 38), false, .load 1 false (.loc 37), some ((.loc 35), true)⟩,
     ⟨(some 39), false, .len 1 (.loc 38), some ((.loc 35), true)⟩,
     ⟨(some 40), false, .bin .other .eql (.loc 39) (.val (.tr (.sc (.int .i64 1)))), some ((.loc 35), true)⟩,
     ⟨(some 41), false, .pick (.loc 35) (.loc 40) (.val (.tr (.sc (.bool false)))), none⟩,
     ⟨(some 42), false, .mv (.loc 41), none⟩,
     ⟨(some 43), false, .mv (.env 5), some ((.loc 42), true)⟩,
     ⟨(some 44), false, .un .not (.loc 43), some ((.loc 42), true)⟩,
     ⟨(some 45), false, .pick (.loc 42) (.loc 44) (.val (.tr (.sc (.bool false)))), none⟩,
     ⟨(some 46), false, .mv (.loc 45), none⟩,
     ⟨(some 47), false, .mv (.env 7), some ((.loc 46), true)⟩,
     ⟨(some 48), false, .pick (.loc 46) (.loc 47) (.val (.tr (.sc (.bool false)))), none⟩,
     ⟨(some 49), false, .mv (.loc 48), none⟩,
     ⟨(some 50), false, .faddr 0 (.env 6), some ((.loc 49), true)⟩,
     ⟨(some 51), false, .load 1 false (.loc 50), some ((.loc 49), true)⟩,
     ⟨(some 52), false, .bin .other .eql (.loc 51) (.val (.tr (.sc (.int .i64 10)))), some ((.loc 49), true)⟩,
     ⟨(some 53), false, .pick (.loc 49) (.loc 52) (.val (.tr (.sc (.bool false)))), none⟩,
     ⟨(some 54), false, .mv (.loc 53), none⟩,
     ⟨(some 55), false, .mv (.env 9), some ((.loc 54), true)⟩,
     ⟨(some 56), false, .un .not (.loc 55), some ((.loc 54), true)⟩,
     ⟨(some 57), false, .pick (.loc 54) (.loc 56) (.val (.tr (.sc (.bool false)))), none⟩,
     ⟨(some 58), false, .mv (.loc 57), none⟩,
     ⟨(some 59), false, .mv (.env 1), some ((.loc 58), true)⟩,
     ⟨(some 60), false, .callf 10 [(.loc 59)], some ((.loc 58), true)⟩,
     ⟨(some 61), false, .len 1 (.loc 60), some ((.loc 58), true)⟩,
     ⟨(some 62), false, .bin .other .eql (.loc 61) (.val (.tr (.sc (.int .i64 2)))), some ((.loc 58), true)⟩,
     ⟨(some 63), false, .pick (.loc 58) (.loc 62) (.val (.tr (.sc (.bool false)))), none⟩,
     ⟨(some 64), false, .mv (.loc 63), none⟩,
     ⟨(some 65), false, .mv (.env 1), some ((.loc 64), true)⟩,
     ⟨(some 66), false, .callf 12 [(.val (.tr (.sc (.string ⟨⟨[105, 110, 116]⟩⟩))))], some ((.loc 64), true)⟩,
     ⟨(some 67), false, .callf 11 [(.loc 65), (.loc 66)], some ((.loc 64), true)⟩,
     ⟨(some 68), false, .pick (.loc 64) (.loc 67) (.val (.tr (.sc (.bool false)))), none⟩,
     ⟨(some 0), true, .mv (.loc 68), none⟩]
@[simp] def k3_5 : HCode := .seq (.region r3_6 none) .ret
@[simp] def k3_4 : HCode := .seq (.region r3_5 none) k3_5
@[simp] def k3_3 : HCode := .seq (.region r3_4 none) k3_4
@[simp] def k3_2 : HCode := .seq (.region r3_3 none) k3_3
@[simp] def k3_1 : HCode := .seq (.region r3_2 none) k3_2
@[simp] def k3_0 : HCode := .seq (.region r3_1 none) k3_1
@[simp] def fn3 : HFn := { nargs := 0, results := [.tmp 0], mode := .shared, code := (.seq (.region r3_0 none) k3_0) }
theorem c3 : cFn Tryz.prog (Hs 3) .shared 3 = some fn3 := by kernel_rfl
/- (*sterling/env.Env).Decl -/
@[simp] def r5_0 : List HOp := [⟨(some 4), true, .alloc [(.sc (.string ⟨⟨[]⟩⟩)), (.sc (.slice none 0 0)), (.sc (.int .i64 0)), (.sc (.string ⟨⟨[]⟩⟩)), (.sc (.int .i64 0)), (.sc (.slice none 0 0)), (.sc (.slice none 0 0)), (.sc (.slice none 0 0)), (.sc (.slice none 0 0)), (.sc (.slice none 0 0))], none⟩,
     ⟨(some 5), true, .mv (.val (.tr (.sc (.bool false)))), none⟩]
@[simp] def r5_1 : List HOp := [⟨(some 9), false, .mv (.env 0), none⟩,
     ⟨(some 10), false, .mv (.env 1), none⟩,
     ⟨(some 11), false, .callf 14 [(.loc 9), (.loc 10)], none⟩,
     ⟨(some 8), false, .mv (.loc 11), none⟩,
     ⟨(some 12), false, .extract (.loc 8) 0, none⟩,
     ⟨(some 13), false, .extract (.loc 8) 1, none⟩,
     ⟨(some 6), true, .alloc [(.sc (.string ⟨⟨[]⟩⟩)), (.sc (.slice none 0 0)), (.sc (.int .i64 0)), (.sc (.string ⟨⟨[]⟩⟩)), (.sc (.int .i64 0)), (.sc (.slice none 0 0)), (.sc (.slice none 0 0)), (.sc (.slice none 0 0)), (.sc (.slice none 0 0)), (.sc (.slice none 0 0))], none⟩,
     ⟨none, false, .store 10 (.env 6) (.loc 12), none⟩,
     ⟨(some 7), true, .mv (.loc 13), none⟩]
@[simp] def r5_2 : List HOp := [⟨(some 14), false, .load 10 true (.env 6), none⟩,
     ⟨(some 15), false, .callf 15 [(.loc 14)], none⟩,
     ⟨(some 16), false, .mv (.env 7), none⟩,
     ⟨none, false, .store 10 (.env 4) (.loc 15), none⟩,
     ⟨(some 5), true, .mv (.loc 16), none⟩]
@[simp] def k5_1 : HCode := .seq (.region r5_2 none) .ret
@[simp] def k5_0 : HCode := .seq (.region r5_1 none) k5_1
@[simp] def fn5 : HFn := { nargs := 2, results := [.cell 4 10 true, .tmp 5], mode := .shared, code := (.seq (.region r5_0 none) k5_0) }
theorem c5 : cFn Tryz.prog (Hs 5) .shared 5 = some fn5 := by kernel_rfl
/- (*sterling/env.Env).find -/
@[simp] def r14_0 : List HOp := [⟨(some 4), true, .alloc [(.sc (.string ⟨⟨[]⟩⟩)), (.sc (.slice none 0 0)), (.sc (.int .i64 0)), (.sc (.string ⟨⟨[]⟩⟩)), (.sc (.int .i64 0)), (.sc (.slice none 0 0)), (.sc (.slice none 0 0)), (.sc (.slice none 0 0)), (.sc (.slice none 0 0)), (.sc (.slice none 0 0))], none⟩,
     ⟨(some 5), true, .mv (.val (.tr (.sc (.bool false)))), none⟩]
@[simp] def r14_1 : List HOp := [⟨(some 11), false, .mv (.env 1), none⟩,
      ⟨(some 12), false, .callf 30 [(.loc 11)], none⟩,
      ⟨(some 10), false, .mv (.loc 12), none⟩,
      ⟨(some 13), false, .extract (.loc 10) 0, none⟩,
      ⟨(some 14), false, .extract (.loc 10) 1, none⟩,
      ⟨(some 6), true, .alloc [(.sc (.string ⟨⟨[]⟩⟩)), (.sc (.slice none 0 0)), (.sc (.int .i64 0)), (.sc (.string ⟨⟨[]⟩⟩)), (.sc (.int .i64 0)), (.sc (.slice none 0 0)), (.sc (.slice none 0 0)), (.sc (.slice none 0 0)), (.sc (.slice none 0 0)), (.sc (.slice none 0 0))], none⟩,
      ⟨none, false, .store 10 (.env 6) (.loc 13), none⟩,
      ⟨(some 7), true, .mv (.loc 14), none⟩]
@[simp] def r14_2 : List HOp := [⟨(some 15), false, .mv (.env 7), none⟩]
@[simp] def r14_3 : List HOp := [⟨(some 16), false, .load 10 true (.env 6), none⟩,
       ⟨none, false, .store 10 (.env 4) (.loc 16), none⟩,
       ⟨(some 5), true, .mv (.val (.tr (.sc (.bool true)))), none⟩]
@[simp] def r14_4 : List HOp := [⟨(some 17), false, .mv (.env 0), none⟩,
      ⟨(some 18), false, .bin .pointer .eql (.loc 17) (.val (.tr (.sc (.pointer none)))), none⟩]
@[simp] def r14_5 : List HOp := [⟨(some 19), false, .build [(.sc (.string ⟨⟨[]⟩⟩)), (.sc (.slice none 0 0)), (.sc (.int .i64 0)), (.sc (.string ⟨⟨[]⟩⟩)), (.sc (.int .i64 0)), (.sc (.slice none 0 0)), (.sc (.slice none 0 0)), (.sc (.slice none 0 0)), (.sc (.slice none 0 0)), (.sc (.slice none 0 0))] [], none⟩,
       ⟨none, false, .store 10 (.env 4) (.loc 19), none⟩,
       ⟨(some 5), true, .mv (.val (.tr (.sc (.bool false)))), none⟩]
@[simp] def r14_6 : List HOp := [⟨(some 21), false, .mv (.env 0), none⟩,
     ⟨(some 22), false, .nilchk (.loc 21), none⟩,
     ⟨(some 23), false, .faddr 0 (.loc 22), none⟩,
     ⟨(some 24), false, .load 1 false (.loc 23), none⟩,
     ⟨(some 25), false, .mv (.env 1), none⟩,
     ⟨(some 26), false, .lookup .string (.agg [(.sc (.string ⟨⟨[]⟩⟩)), (.sc (.slice none 0 0)), (.sc (.int .i64 0)), (.sc (.string ⟨⟨[]⟩⟩)), (.sc (.int .i64 0)), (.sc (.slice none 0 0)), (.sc (.slice none 0 0)), (.sc (.slice none 0 0)), (.sc (.slice none 0 0)), (.sc (.slice none 0 0))]) true (.loc 24) (.loc 25), none⟩,
     ⟨(some 20), false, .mv (.loc 26), none⟩,
     ⟨(some 27), false, .extract (.loc 20) 0, none⟩,
     ⟨(some 28), false, .extract (.loc 20) 1, none⟩,
     ⟨(some 8), true, .alloc [(.sc (.string ⟨⟨[]⟩⟩)), (.sc (.slice none 0 0)), (.sc (.int .i64 0)), (.sc (.string ⟨⟨[]⟩⟩)), (.sc (.int .i64 0)), (.sc (.slice none 0 0)), (.sc (.slice none 0 0)), (.sc (.slice none 0 0)), (.sc (.slice none 0 0)), (.sc (.slice none 0 0))], none⟩,
     ⟨none, false, .store 10 (.env 8) (.loc 27), none⟩,
     ⟨(some 9), true, .mv (.loc 28), none⟩]
@[simp] def r14_7 : List HOp := [⟨(some 29), false, .load 10 true (.env 8), none⟩,
     ⟨(some 30), false, .mv (.env 9), none⟩,
     ⟨none, false, .store 10 (.env 4) (.loc 29), none⟩,
     ⟨(some 5), true, .mv (.loc 30), none⟩]
@[simp] def k14_3 : HCode := .seq (.region r14_3 none) .ret
@[simp] def k14_2 : HCode := .cond (.loc 15) k14_3 .skip
@[simp] def k14_1 : HCode := .seq (.region r14_2 none) k14_2
@[simp] def k14_6 : HCode := .seq (.region r14_5 none) .ret
@[simp] def k14_5 : HCode := .cond (.loc 18) k14_6 .skip
@[simp] def k14_8 : HCode := .seq (.region r14_7 none) .ret
def k14_7 : HCode := .seq (.region r14_6 none) k14_8
def k14_4 : HCode := .seq (.seq (.region r14_4 none) k14_5) k14_7
@[simp] def k14_0 : HCode := .seq (.seq (.region r14_1 none) k14_1) k14_4
@[simp] def fn14 : HFn := { nargs := 2, results := [.cell 4 10 true, .tmp 5], mode := .shared, code := (.seq (.region r14_0 none) k14_0) }
theorem c14 : cFn Tryz.prog (Hs 14) .shared 14 = some fn14 := by kernel_rfl
/- sterling/env.predeclared -/
@[simp] def r30_0 : List HOp := [⟨(some 2), true, .alloc [(.sc (.string ⟨⟨[]⟩⟩)), (.sc (.slice none 0 0)), (.sc (.int .i64 0)), (.sc (.string ⟨⟨[]⟩⟩)), (.sc (.int .i64 0)), (.sc (.slice none 0 0)), (.sc (.slice none 0 0)), (.sc (.slice none 0 0)), (.sc (.slice none 0 0)), (.sc (.slice none 0 0))], none⟩,
     ⟨(some 3), true, .mv (.val (.tr (.sc (.bool false)))), none⟩]
@[simp] def r30_1 : List HOp := [⟨(some 5), true, .mv (.env 0), none⟩]
@[simp] def r30_2 : List HOp := [⟨(some 7), false, .bin .other .eql (.env 5) (.val (.tr (.sc (.string ⟨⟨[101, 114, 114, 111, 114]⟩⟩)))), none⟩,
       ⟨(some 6), false, .mv (.loc 7), none⟩]
@[simp] def r30_3 : List HOp := [⟨(some 8), false, .callf 49 [(.val (.tr (.sc (.string ⟨⟨[115, 116, 114, 105, 110, 103]⟩⟩))))], none⟩,
        ⟨(some 9), false, .callf 48 [(.val (.tr (.sc (.slice none 0 0)))), (.loc 8)], none⟩,
        ⟨(some 4), true, .alloc [(.sc (.int .i64 0)), (.sc (.string ⟨⟨[]⟩⟩)), (.sc (.int .i64 0)), (.sc (.slice none 0 0)), (.sc (.slice none 0 0)), (.sc (.slice none 0 0)), (.sc (.slice none 0 0))], none⟩,
        ⟨none, false, .store 7 (.env 4) (.loc 9), none⟩]
@[simp] def r30_4 : List HOp := [⟨(some 10), false, .mv (.env 0), none⟩,
        ⟨(some 11), false, .bslice false 1 1 [(.sc (.string ⟨⟨[]⟩⟩))] [(0, 1, (.val (.tr (.sc (.string ⟨⟨[69, 114, 114, 111, 114]⟩⟩)))))], none⟩,
        ⟨(some 12), false, .load 7 true (.env 4), none⟩,
        ⟨(some 13), false, .bslice false 1 7 [(.sc (.int .i64 0)), (.sc (.string ⟨⟨[]⟩⟩)), (.sc (.int .i64 0)), (.sc (.slice none 0 0)), (.sc (.slice none 0 0)), (.sc (.slice none 0 0)), (.sc (.slice none 0 0))] [(0, 7, (.loc 12))], none⟩,
        ⟨(some 14), false, .build [(.sc (.int .i64 0)), (.sc (.string ⟨⟨[]⟩⟩)), (.sc (.int .i64 0)), (.sc (.slice none 0 0)), (.sc (.slice none 0 0)), (.sc (.slice none 0 0)), (.sc (.slice none 0 0))] [(0, 1, (.val (.tr (.sc (.int .i64 10))))), (4, 1, (.loc 11)), (3, 1, (.loc 13))], none⟩,
        ⟨(some 15), false, .build [(.sc (.string ⟨⟨[]⟩⟩)), (.sc (.slice none 0 0)), (.sc (.int .i64 0)), (.sc (.string ⟨⟨[]⟩⟩)), (.sc (.int .i64 0)), (.sc (.slice none 0 0)), (.sc (.slice none 0 0)), (.sc (.slice none 0 0)), (.sc (.slice none 0 0)), (.sc (.slice none 0 0))] [(0, 1, (.loc 10)), (2, 7, (.loc 14))], none⟩,
        ⟨none, false, .store 10 (.env 2) (.loc 15), none⟩,
        ⟨(some 3), true, .mv (.val (.tr (.sc (.bool true)))), none⟩]
@[simp] def r30_5 : List HOp := [⟨(some 17), false, .bin .other .eql (.env 5) (.val (.tr (.sc (.string ⟨⟨[99, 111, 109, 112, 97, 114, 97, 98, 108, 101]⟩⟩)))), none⟩,
        ⟨(some 16), false, .mv (.loc 17), none⟩]
@[simp] def r30_6 : List HOp := [⟨(some 18), false, .mv (.env 0), none⟩,
         ⟨(some 19), false, .build [(.sc (.int .i64 0)), (.sc (.string ⟨⟨[]⟩⟩)), (.sc (.int .i64 0)), (.sc (.slice none 0 0)), (.sc (.slice none 0 0)), (.sc (.slice none 0 0)), (.sc (.slice none 0 0))] [(0, 1, (.val (.tr (.sc (.int .i64 10)))))], none⟩,
         ⟨(some 20), false, .build [(.sc (.string ⟨⟨[]⟩⟩)), (.sc (.slice none 0 0)), (.sc (.int .i64 0)), (.sc (.string ⟨⟨[]⟩⟩)), (.sc (.int .i64 0)), (.sc (.slice none 0 0)), (.sc (.slice none 0 0)), (.sc (.slice none 0 0)), (.sc (.slice none 0 0)), (.sc (.slice none 0 0))] [(0, 1, (.loc 18)), (2, 7, (.loc 19))], none⟩,
         ⟨none, false, .store 10 (.env 2) (.loc 20), none⟩,
         ⟨(some 3), true, .mv (.val (.tr (.sc (.bool true)))), none⟩]
@[simp] def r30_7 : List HOp := [⟨(some 21), false, .build [(.sc (.string ⟨⟨[]⟩⟩)), (.sc (.slice none 0 0)), (.sc (.int .i64 0)), (.sc (.string ⟨⟨[]⟩⟩)), (.sc (.int .i64 0)), (.sc (.slice none 0 0)), (.sc (.slice none 0 0)), (.sc (.slice none 0 0)), (.sc (.slice none 0 0)), (.sc (.slice none 0 0))] [], none⟩,
     ⟨none, false, .store 10 (.env 2) (.loc 21), none⟩,
     ⟨(some 3), true, .mv (.val (.tr (.sc (.bool false)))), none⟩]
@[simp] def k30_4 : HCode := .seq (.region r30_4 none) .ret
@[simp] def k30_3 : HCode := .seq (.region r30_3 none) k30_4
@[simp] def k30_7 : HCode := .seq (.region r30_6 none) .ret
@[simp] def k30_6 : HCode := .cond (.loc 16) k30_7 .skip
@[simp] def k30_5 : HCode := .seq (.region r30_5 none) k30_6
@[simp] def k30_2 : HCode := .cond (.loc 6) k30_3 k30_5
@[simp] def k30_1 : HCode := .block 0 (.seq (.region r30_2 none) k30_2)
def k30_8 : HCode := .seq (.region r30_7 none) .ret
@[simp] def k30_0 : HCode := .seq (.seq (.region r30_1 none) k30_1) k30_8
@[simp] def fn30 : HFn := { nargs := 1, results := [.cell 2 10 true, .tmp 3], mode := .iso, code := (.seq (.region r30_0 none) k30_0) }
theorem c30 : cFn Tryz.prog (Hs 30) .iso 30 = some fn30 := by kernel_rfl
/- sterling/types.Basic -/
@[simp] def r49_0 : List HOp := [⟨(some 2), true, .alloc [(.sc (.int .i64 0)), (.sc (.string ⟨⟨[]⟩⟩)), (.sc (.int .i64 0)), (.sc (.slice none 0 0)), (.sc (.slice none 0 0)), (.sc (.slice none 0 0)), (.sc (.slice none 0 0))], none⟩]
@[simp] def r49_1 : List HOp := [⟨(some 3), false, .mv (.env 0), none⟩,
      ⟨(some 4), false, .callf 32 [(.val (.tr (.sc (.string ⟨⟨[32, 98, 111, 111, 108, 32, 115, 116, 114, 105, 110, 103, 32, 105, 110, 116, 32, 105, 110, 116, 56, 32, 117, 105, 110, 116, 56, 32, 117, 105, 110, 116, 32, 102, 108, 111, 97, 116, 51, 50, 32, 102, 108, 111, 97, 116, 54, 52, 32]⟩⟩)))), (.loc 3)], none⟩,
      ⟨(some 5), false, .un .not (.loc 4), none⟩]
@[simp] def r49_2 : List HOp := [⟨(some 6), false, .build [(.sc (.int .i64 0)), (.sc (.string ⟨⟨[]⟩⟩)), (.sc (.int .i64 0)), (.sc (.slice none 0 0)), (.sc (.slice none 0 0)), (.sc (.slice none 0 0)), (.sc (.slice none 0 0))] [], none⟩,
       ⟨none, false, .store 7 (.env 2) (.loc 6), none⟩]
@[simp] def r49_3 : List HOp := [⟨(some 7), false, .mv (.env 0), none⟩,
     ⟨(some 8), false, .build [(.sc (.int .i64 0)), (.sc (.string ⟨⟨[]⟩⟩)), (.sc (.int .i64 0)), (.sc (.slice none 0 0)), (.sc (.slice none 0 0)), (.sc (.slice none 0 0)), (.sc (.slice none 0 0))] [(0, 1, (.val (.tr (.sc (.int .i64 1))))), (1, 1, (.loc 7))], none⟩,
     ⟨none, false, .store 7 (.env 2) (.loc 8), none⟩]
@[simp] def k49_2 : HCode := .seq (.region r49_2 none) .ret
@[simp] def k49_1 : HCode := .cond (.loc 5) k49_2 .skip
def k49_3 : HCode := .seq (.region r49_3 none) .ret
@[simp] def k49_0 : HCode := .seq (.seq (.region r49_1 none) k49_1) k49_3
@[simp] def fn49 : HFn := { nargs := 1, results := [.cell 2 7 true], mode := .iso, code := (.seq (.region r49_0 none) k49_0) }
theorem c49 : cFn Tryz.prog (Hs 49) .iso 49 = some fn49 := by kernel_rfl
/- sterling/types.among -/
@[simp] def r32_0 : List HOp := [⟨(some 4), true, .mv (.val (.tr (.sc (.bool false)))), none⟩]
@[simp] def r32_1 : List HOp := [⟨(some 5), false, .mv (.env 1), none⟩,
     ⟨(some 6), false, .bin .other .neq (.loc 5) (.val (.tr (.sc (.string ⟨⟨[]⟩⟩)))), none⟩,
     ⟨(some 7), false, .mv (.loc 6), none⟩,
     ⟨(some 8), false, .mv (.env 1), some ((.loc 7), true)⟩,
     ⟨(some 9), false, .callf 25 [(.loc 8), (.val (.tr (.sc (.string ⟨⟨[32]⟩⟩))))], some ((.loc 7), true)⟩,
     ⟨(some 10), false, .un .not (.loc 9), some ((.loc 7), true)⟩,
     ⟨(some 11), false, .pick (.loc 7) (.loc 10) (.val (.tr (.sc (.bool false)))), none⟩,
     ⟨(some 12), false, .mv (.loc 11), none⟩,
     ⟨(some 13), false, .mv (.env 0), some ((.loc 12), true)⟩,
     ⟨(some 14), false, .mv (.env 1), some ((.loc 12), true)⟩,
     ⟨(some 15), false, .bin .other .add (.val (.tr (.sc (.string ⟨⟨[32]⟩⟩)))) (.loc 14), some ((.loc 12), true)⟩,
     ⟨(some 16), false, .bin .other .add (.loc 15) (.val (.tr (.sc (.string ⟨⟨[32]⟩⟩)))), some ((.loc 12), true)⟩,
     ⟨(some 17), false, .callf 25 [(.loc 13), (.loc 16)], some ((.loc 12), true)⟩,
     ⟨(some 18), false, .pick (.loc 12) (.loc 17) (.val (.tr (.sc (.bool false)))), none⟩,
     ⟨(some 4), true, .mv (.loc 18), none⟩]
@[simp] def k32_0 : HCode := .seq (.region r32_1 none) .ret
@[simp] def fn32 : HFn := { nargs := 2, results := [.tmp 4], mode := .iso, code := (.seq (.region r32_0 none) k32_0) }
theorem c32 : cFn Tryz.prog (Hs 32) .iso 32 = some fn32 := by kernel_rfl
/- sterling/types.Func -/
@[simp] def r48_0 : List HOp := [⟨(some 3), true, .box false (.env 1), none⟩,
     ⟨(some 4), true, .alloc [(.sc (.int .i64 0)), (.sc (.string ⟨⟨[]⟩⟩)), (.sc (.int .i64 0)), (.sc (.slice none 0 0)), (.sc (.slice none 0 0)), (.sc (.slice none 0 0)), (.sc (.slice none 0 0))], none⟩]
@[simp] def r48_1 : List HOp := [⟨(some 5), false, .faddr 0 (.env 3), none⟩,
      ⟨(some 6), false, .load 1 false (.loc 5), none⟩,
      ⟨(some 7), false, .bin .other .eql (.loc 6) (.val (.tr (.sc (.int .i64 0)))), none⟩]
@[simp] def r48_2 : List HOp := [⟨(some 8), false, .build [(.sc (.int .i64 0)), (.sc (.string ⟨⟨[]⟩⟩)), (.sc (.int .i64 0)), (.sc (.slice none 0 0)), (.sc (.slice none 0 0)), (.sc (.slice none 0 0)), (.sc (.slice none 0 0))] [(0, 1, (.val (.tr (.sc (.int .i64 13)))))], none⟩,
      ⟨none, false, .store 7 (.env 3) (.loc 8), none⟩]
@[simp] def r48_3 : List HOp := [⟨(some 9), false, .mv (.env 0), none⟩,
     ⟨(some 10), false, .len 1 (.loc 9), none⟩,
     ⟨(some 11), false, .mv (.env 0), none⟩,
     ⟨(some 12), false, .mv (.env 0), none⟩,
     ⟨(some 13), false, .len 1 (.loc 12), none⟩,
     ⟨(some 14), false, .mv (.env 0), none⟩,
     ⟨(some 15), false, .len 1 (.loc 14), none⟩,
     ⟨(some 16), false, .slice 7 (.loc 11) none (some (.loc 13)) (some (.loc 15)), none⟩,
     ⟨(some 17), false, .load 7 true (.env 3), none⟩,
     ⟨(some 18), false, .bslice false 1 7 [(.sc (.int .i64 0)), (.sc (.string ⟨⟨[]⟩⟩)), (.sc (.int .i64 0)), (.sc (.slice none 0 0)), (.sc (.slice none 0 0)), (.sc (.slice none 0 0)), (.sc (.slice none 0 0))] [(0, 7, (.loc 17))], none⟩,
     ⟨(some 19), false, .append 7 128 (.loc 16) (.loc 18), none⟩,
     ⟨(some 20), false, .callf 75 [(.loc 19)], none⟩,
     ⟨(some 21), false, .build [(.sc (.int .i64 0)), (.sc (.string ⟨⟨[]⟩⟩)), (.sc (.int .i64 0)), (.sc (.slice none 0 0)), (.sc (.slice none 0 0)), (.sc (.slice none 0 0)), (.sc (.slice none 0 0))] [(0, 1, (.val (.tr (.sc (.int .i64 8))))), (2, 1, (.loc 10)), (3, 1, (.loc 20))], none⟩,
     ⟨none, false, .store 7 (.env 4) (.loc 21), none⟩]
@[simp] def k48_1 : HCode := .cond (.loc 7) (.region r48_2 none) .skip
def k48_2 : HCode := .seq (.region r48_3 (some [ ( 0, [ 0 ] ) , ( 0, [ 9 ] ) , ( 0, [ 0 ] ) , ( 0, [ 0 ] ) , ( 0, [ 12 ] ) , ( 0, [ 0 ] ) , ( 0, [ 14 ] ) , ( 13, [ 11, 13, 15 ] ) , ( 1, [ 3 ] ) , ( 2, [ 17 ] ) , ( 2, [ 16, 18 ] ) , ( 2, [ 19 ] ) , ( 0, [ 10, 20 ] ) , ( 2, [ 4, 21 ] ) ])) .ret
@[simp] def k48_0 : HCode := .seq (.seq (.region r48_1 none) k48_1) k48_2
@[simp] def fn48 : HFn := { nargs := 2, results := [.cell 4 7 true], mode := .iso, code := (.seq (.region r48_0 none) k48_0) }
theorem c48 : cFn Tryz.prog (Hs 48) .iso 48 = some fn48 := by kernel_rfl
/- sterling/types.cloned -/
@[simp] def r75_0 : List HOp := [⟨(some 2), true, .mv (.val (.tr (.sc (.slice none 0 0)))), none⟩]
@[simp] def r75_1 : List HOp := [⟨(some 3), true, .mv (.val (.tr (.sc (.slice none 0 0)))), none⟩]
@[simp] def r75_2 : List HOp := [⟨(some 6), true, .mv (.env 0), none⟩,
      ⟨(some 7), true, .len 1 (.env 6), none⟩,
      ⟨(some 8), true, .mv (.val (.tr (.sc (.int .i64 0)))), none⟩]
@[simp] def r75_3 : List HOp := [⟨(some 9), false, .bin .other .lss (.env 8) (.env 7), none⟩]
@[simp] def r75_4 : List HOp := [⟨(some 10), false, .iaddr 7 (.env 6) (.env 8), none⟩,
          ⟨(some 11), false, .load 7 true (.loc 10), none⟩,
          ⟨(some 5), true, .alloc [(.sc (.int .i64 0)), (.sc (.string ⟨⟨[]⟩⟩)), (.sc (.int .i64 0)), (.sc (.slice none 0 0)), (.sc (.slice none 0 0)), (.sc (.slice none 0 0)), (.sc (.slice none 0 0))], none⟩,
          ⟨none, false, .store 7 (.env 5) (.loc 11), none⟩]
@[simp] def r75_5 : List HOp := [⟨(some 12), false, .mv (.env 3), none⟩,
         ⟨(some 13), false, .load 7 true (.env 5), none⟩,
         ⟨(some 14), false, .callf 19 [(.loc 13)], none⟩,
         ⟨(some 15), false, .bslice false 1 7 [(.sc (.int .i64 0)), (.sc (.string ⟨⟨[]⟩⟩)), (.sc (.int .i64 0)), (.sc (.slice none 0 0)), (.sc (.slice none 0 0)), (.sc (.slice none 0 0)), (.sc (.slice none 0 0))] [(0, 7, (.loc 14))], none⟩,
         ⟨(some 16), false, .append 7 128 (.loc 12) (.loc 15), none⟩,
         ⟨(some 3), true, .mv (.loc 16), none⟩]
@[simp] def r75_6 : List HOp := [⟨(some 17), false, .bin .other .add (.env 8) (.val (.tr (.sc (.int .i64 1)))), none⟩,
       ⟨(some 8), true, .mv (.loc 17), none⟩]
@[simp] def r75_7 : List HOp := [⟨(some 18), false, .mv (.env 3), none⟩,
     ⟨(some 2), true, .mv (.loc 18), none⟩]
def k75_5 : HCode := .seq (.block 1 (.seq (.region r75_4 none) (.region r75_5 none))) (.region r75_6 none)
@[simp] def k75_4 : HCode := .seq (.cond (.loc 9) .skip (.exit 0)) k75_5
def k75_3 : HCode := .seq (.region r75_3 none) k75_4
@[simp] def k75_2 : HCode := .block 0 (.loop k75_3)
def k75_6 : HCode := .seq (.region r75_7 none) .ret
@[simp] def k75_1 : HCode := .seq (.seq (.region r75_2 none) k75_2) k75_6
@[simp] def k75_0 : HCode := .seq (.region r75_1 none) k75_1
@[simp] def fn75 : HFn := { nargs := 1, results := [.tmp 2], mode := .shared, code := (.seq (.region r75_0 none) k75_0) }
theorem c75 : cFn Tryz.prog (Hs 75) .shared 75 = some fn75 := by kernel_rfl
/- sterling/types.Clone -/
@[simp] def r19_0 : List HOp := [⟨(some 1), true, .box false (.env 0), none⟩,
     ⟨(some 2), true, .alloc [(.sc (.int .i64 0)), (.sc (.string ⟨⟨[]⟩⟩)), (.sc (.int .i64 0)), (.sc (.slice none 0 0)), (.sc (.slice none 0 0)), (.sc (.slice none 0 0)), (.sc (.slice none 0 0))], none⟩]
@[simp] def r19_1 : List HOp := [⟨(some 3), true, .alloc [(.sc (.int .i64 0))], none⟩,
     ⟨none, false, .store 1 (.env 3) (.val (.tr (.sc (.int .i64 4096)))), none⟩]
@[simp] def r19_2 : List HOp := [⟨(some 4), false, .load 7 true (.env 1), none⟩,
      ⟨(some 5), false, .callf 33 [(.loc 4), (.env 3)], none⟩,
      ⟨(some 6), false, .un .not (.loc 5), none⟩]
@[simp] def r19_3 : List HOp := [⟨(some 7), false, .load 7 true (.env 1), none⟩,
       ⟨none, false, .store 7 (.env 2) (.loc 7), none⟩]
@[simp] def r19_4 : List HOp := [⟨(some 8), false, .load 7 true (.env 1), none⟩,
     ⟨(some 9), false, .callf 36 [(.loc 8)], none⟩,
     ⟨none, false, .store 7 (.env 2) (.loc 9), none⟩]
@[simp] def k19_3 : HCode := .seq (.region r19_3 none) .ret
@[simp] def k19_2 : HCode := .cond (.loc 6) k19_3 .skip
def k19_4 : HCode := .seq (.region r19_4 none) .ret
@[simp] def k19_1 : HCode := .seq (.seq (.region r19_2 none) k19_2) k19_4
@[simp] def k19_0 : HCode := .seq (.region r19_1 none) k19_1
@[simp] def fn19 : HFn := { nargs := 1, results := [.cell 2 7 true], mode := .shared, code := (.seq (.region r19_0 none) k19_0) }
theorem c19 : cFn Tryz.prog (Hs 19) .shared 19 = some fn19 := by kernel_rfl
/- sterling/types.counts -/
@[simp] def r33_0 : List HOp := [⟨(some 2), true, .box false (.env 0), none⟩,
     ⟨(some 4), true, .mv (.val (.tr (.sc (.bool false)))), none⟩]
@[simp] def r33_1 : List HOp := [⟨(some 11), false, .mv (.env 1), none⟩,
      ⟨(some 12), false, .nilchk (.loc 11), none⟩,
      ⟨(some 13), false, .load 1 false (.loc 12), none⟩,
      ⟨(some 14), false, .bin .other .sub (.loc 13) (.val (.tr (.sc (.int .i64 1)))), none⟩,
      ⟨(some 15), false, .nilchk (.loc 11), none⟩,
      ⟨none, false, .store 1 (.loc 15) (.loc 14), none⟩]
@[simp] def r33_2 : List HOp := [⟨(some 16), false, .mv (.env 1), none⟩,
      ⟨(some 17), false, .nilchk (.loc 16), none⟩,
      ⟨(some 18), false, .load 1 false (.loc 17), none⟩,
      ⟨(some 19), false, .bin .other .lss (.loc 18) (.val (.tr (.sc (.int .i64 0)))), none⟩]
@[simp] def r33_3 : List HOp := [⟨(some 4), true, .mv (.val (.tr (.sc (.bool false)))), none⟩]
@[simp] def r33_4 : List HOp := [⟨(some 20), false, .faddr 3 (.env 2), none⟩,
      ⟨(some 21), true, .load 1 false (.loc 20), none⟩,
      ⟨(some 22), true, .len 1 (.env 21), none⟩,
      ⟨(some 23), true, .mv (.val (.tr (.sc (.int .i64 0)))), none⟩]
@[simp] def r33_5 : List HOp := [⟨(some 24), false, .bin .other .lss (.env 23) (.env 22), none⟩]
@[simp] def r33_6 : List HOp := [⟨(some 25), false, .iaddr 7 (.env 21) (.env 23), none⟩,
          ⟨(some 26), false, .load 7 true (.loc 25), none⟩,
          ⟨(some 6), true, .alloc [(.sc (.int .i64 0)), (.sc (.string ⟨⟨[]⟩⟩)), (.sc (.int .i64 0)), (.sc (.slice none 0 0)), (.sc (.slice none 0 0)), (.sc (.slice none 0 0)), (.sc (.slice none 0 0))], none⟩,
          ⟨none, false, .store 7 (.env 6) (.loc 26), none⟩]
@[simp] def r33_7 : List HOp := [⟨(some 27), false, .load 7 true (.env 6), none⟩,
          ⟨(some 28), false, .mv (.env 1), none⟩,
          ⟨(some 29), false, .callf 33 [(.loc 27), (.loc 28)], none⟩,
          ⟨(some 30), false, .un .not (.loc 29), none⟩]
@[simp] def r33_8 : List HOp := [⟨(some 4), true, .mv (.val (.tr (.sc (.bool false)))), none⟩]
@[simp] def r33_9 : List HOp := [⟨(some 31), false, .bin .other .add (.env 23) (.val (.tr (.sc (.int .i64 1)))), none⟩,
       ⟨(some 23), true, .mv (.loc 31), none⟩]
@[simp] def r33_10 : List HOp := [⟨(some 32), false, .faddr 6 (.env 2), none⟩,
      ⟨(some 33), true, .load 1 false (.loc 32), none⟩,
      ⟨(some 34), true, .len 1 (.env 33), none⟩,
      ⟨(some 35), true, .mv (.val (.tr (.sc (.int .i64 0)))), none⟩]
@[simp] def r33_11 : List HOp := [⟨(some 36), false, .bin .other .lss (.env 35) (.env 34), none⟩]
@[simp] def r33_12 : List HOp := [⟨(some 37), false, .iaddr 1 (.env 33) (.env 35), none⟩,
          ⟨(some 38), false, .load 1 false (.loc 37), none⟩,
          ⟨(some 8), true, .mv (.loc 38), none⟩]
@[simp] def r33_13 : List HOp := [⟨(some 39), true, .mv (.env 8), none⟩,
          ⟨(some 40), true, .len 1 (.env 39), none⟩,
          ⟨(some 41), true, .mv (.val (.tr (.sc (.int .i64 0)))), none⟩]
@[simp] def r33_14 : List HOp := [⟨(some 42), false, .bin .other .lss (.env 41) (.env 40), none⟩]
@[simp] def r33_15 : List HOp := [⟨(some 43), false, .iaddr 8 (.env 39) (.env 41), none⟩,
              ⟨(some 44), false, .load 8 true (.loc 43), none⟩,
              ⟨(some 10), true, .alloc [(.sc (.bool false)), (.sc (.int .i64 0)), (.sc (.string ⟨⟨[]⟩⟩)), (.sc (.int .i64 0)), (.sc (.slice none 0 0)), (.sc (.slice none 0 0)), (.sc (.slice none 0 0)), (.sc (.slice none 0 0))], none⟩,
              ⟨none, false, .store 8 (.env 10) (.loc 44), none⟩]
@[simp] def r33_16 : List HOp := [⟨(some 45), false, .faddr 1 (.env 10), none⟩,
              ⟨(some 46), false, .load 7 true (.loc 45), none⟩,
              ⟨(some 47), false, .mv (.env 1), none⟩,
              ⟨(some 48), false, .callf 33 [(.loc 46), (.loc 47)], none⟩,
              ⟨(some 49), false, .un .not (.loc 48), none⟩]
@[simp] def r33_17 : List HOp := [⟨(some 4), true, .mv (.val (.tr (.sc (.bool false)))), none⟩]
@[simp] def r33_18 : List HOp := [⟨(some 50), false, .bin .other .add (.env 41) (.val (.tr (.sc (.int .i64 1)))), none⟩,
           ⟨(some 41), true, .mv (.loc 50), none⟩]
@[simp] def r33_19 : List HOp := [⟨(some 51), false, .bin .other .add (.env 35) (.val (.tr (.sc (.int .i64 1)))), none⟩,
       ⟨(some 35), true, .mv (.loc 51), none⟩]
@[simp] def r33_20 : List HOp := [⟨(some 4), true, .mv (.val (.tr (.sc (.bool true)))), none⟩]
@[simp] def k33_3 : HCode := .seq (.region r33_3 none) .ret
@[simp] def k33_2 : HCode := .cond (.loc 19) k33_3 .skip
@[simp] def k33_1 : HCode := .seq (.region r33_2 none) k33_2
@[simp] def k33_11 : HCode := .seq (.region r33_8 none) .ret
@[simp] def k33_10 : HCode := .cond (.loc 30) k33_11 .skip
@[simp] def k33_9 : HCode := .seq (.region r33_7 none) k33_10
def k33_12 : HCode := .region r33_9 none
def k33_8 : HCode := .seq (.block 1 (.seq (.region r33_6 none) k33_9)) k33_12
@[simp] def k33_7 : HCode := .seq (.cond (.loc 24) .skip (.exit 0)) k33_8
def k33_6 : HCode := .seq (.region r33_5 none) k33_7
@[simp] def k33_5 : HCode := .block 0 (.loop k33_6)
@[simp] def k33_25 : HCode := .seq (.region r33_17 none) .ret
@[simp] def k33_24 : HCode := .cond (.loc 49) k33_25 .skip
@[simp] def k33_23 : HCode := .seq (.region r33_16 none) k33_24
def k33_26 : HCode := .region r33_18 none
def k33_22 : HCode := .seq (.block 5 (.seq (.region r33_15 none) k33_23)) k33_26
@[simp] def k33_21 : HCode := .seq (.cond (.loc 42) .skip (.exit 4)) k33_22
def k33_20 : HCode := .seq (.region r33_14 none) k33_21
@[simp] def k33_19 : HCode := .block 4 (.loop k33_20)
@[simp] def k33_18 : HCode := .seq (.region r33_13 none) k33_19
def k33_27 : HCode := .region r33_19 none
def k33_17 : HCode := .seq (.block 3 (.seq (.region r33_12 none) k33_18)) k33_27
@[simp] def k33_16 : HCode := .seq (.cond (.loc 36) .skip (.exit 2)) k33_17
def k33_15 : HCode := .seq (.region r33_11 none) k33_16
@[simp] def k33_14 : HCode := .block 2 (.loop k33_15)
def k33_28 : HCode := .seq (.region r33_20 none) .ret
def k33_13 : HCode := .seq (.seq (.region r33_10 none) k33_14) k33_28
def k33_4 : HCode := .seq (.seq (.region r33_4 none) k33_5) k33_13
@[simp] def k33_0 : HCode := .seq (.seq (.region r33_1 none) k33_1) k33_4
@[simp] def fn33 : HFn := { nargs := 2, results := [.tmp 4], mode := .shared, code := (.seq (.region r33_0 none) k33_0) }
theorem c33 : cFn Tryz.prog (Hs 33) .shared 33 = some fn33 := by kernel_rfl
/- sterling/types.clone -/
@[simp] def r36_0 : List HOp := [⟨(some 1), true, .box false (.env 0), none⟩,
     ⟨(some 2), true, .alloc [(.sc (.int .i64 0)), (.sc (.string ⟨⟨[]⟩⟩)), (.sc (.int .i64 0)), (.sc (.slice none 0 0)), (.sc (.slice none 0 0)), (.sc (.slice none 0 0)), (.sc (.slice none 0 0))], none⟩]
@[simp] def r36_1 : List HOp := [⟨(some 3), true, .mv (.val (.tr (.sc (.slice none 0 0)))), none⟩]
@[simp] def r36_2 : List HOp := [⟨(some 12), false, .faddr 3 (.env 1), none⟩,
      ⟨(some 13), true, .load 1 false (.loc 12), none⟩,
      ⟨(some 14), true, .len 1 (.env 13), none⟩,
      ⟨(some 15), true, .mv (.val (.tr (.sc (.int .i64 0)))), none⟩]
@[simp] def r36_3 : List HOp := [⟨(some 16), false, .bin .other .lss (.env 15) (.env 14), none⟩]
@[simp] def r36_4 : List HOp := [⟨(some 17), false, .iaddr 7 (.env 13) (.env 15), none⟩,
          ⟨(some 18), false, .load 7 true (.loc 17), none⟩,
          ⟨(some 5), true, .alloc [(.sc (.int .i64 0)), (.sc (.string ⟨⟨[]⟩⟩)), (.sc (.int .i64 0)), (.sc (.slice none 0 0)), (.sc (.slice none 0 0)), (.sc (.slice none 0 0)), (.sc (.slice none 0 0))], none⟩,
          ⟨none, false, .store 7 (.env 5) (.loc 18), none⟩]
@[simp] def r36_5 : List HOp := [⟨(some 19), false, .mv (.env 3), none⟩,
         ⟨(some 20), false, .load 7 true (.env 5), none⟩,
         ⟨(some 21), false, .callf 36 [(.loc 20)], none⟩,
         ⟨(some 22), false, .bslice false 1 7 [(.sc (.int .i64 0)), (.sc (.string ⟨⟨[]⟩⟩)), (.sc (.int .i64 0)), (.sc (.slice none 0 0)), (.sc (.slice none 0 0)), (.sc (.slice none 0 0)), (.sc (.slice none 0 0))] [(0, 7, (.loc 21))], none⟩,
         ⟨(some 23), false, .append 7 128 (.loc 19) (.loc 22), none⟩,
         ⟨(some 3), true, .mv (.loc 23), none⟩]
@[simp] def r36_6 : List HOp := [⟨(some 24), false, .bin .other .add (.env 15) (.val (.tr (.sc (.int .i64 1)))), none⟩,
       ⟨(some 15), true, .mv (.loc 24), none⟩]
@[simp] def r36_7 : List HOp := [⟨(some 25), false, .mv (.env 3), none⟩,
     ⟨(some 26), false, .faddr 3 (.env 1), none⟩,
     ⟨none, false, .store 1 (.loc 26) (.loc 25), none⟩]
@[simp] def r36_8 : List HOp := [⟨(some 27), false, .faddr 4 (.env 1), none⟩,
     ⟨(some 28), false, .load 1 false (.loc 27), none⟩,
     ⟨(some 29), false, .callf 58 [(.loc 28)], none⟩,
     ⟨(some 30), false, .faddr 4 (.env 1), none⟩,
     ⟨none, false, .store 1 (.loc 30) (.loc 29), none⟩]
@[simp] def r36_9 : List HOp := [⟨(some 31), false, .faddr 5 (.env 1), none⟩,
     ⟨(some 32), false, .load 1 false (.loc 31), none⟩,
     ⟨(some 33), false, .callf 59 [(.loc 32)], none⟩,
     ⟨(some 34), false, .faddr 5 (.env 1), none⟩,
     ⟨none, false, .store 1 (.loc 34) (.loc 33), none⟩]
@[simp] def r36_10 : List HOp := [⟨(some 6), true, .mv (.val (.tr (.sc (.slice none 0 0)))), none⟩]
@[simp] def r36_11 : List HOp := [⟨(some 35), false, .faddr 6 (.env 1), none⟩,
      ⟨(some 36), true, .load 1 false (.loc 35), none⟩,
      ⟨(some 37), true, .len 1 (.env 36), none⟩,
      ⟨(some 38), true, .mv (.val (.tr (.sc (.int .i64 0)))), none⟩]
@[simp] def r36_12 : List HOp := [⟨(some 39), false, .bin .other .lss (.env 38) (.env 37), none⟩]
@[simp] def r36_13 : List HOp := [⟨(some 40), false, .iaddr 1 (.env 36) (.env 38), none⟩,
          ⟨(some 41), false, .load 1 false (.loc 40), none⟩,
          ⟨(some 8), true, .mv (.loc 41), none⟩]
@[simp] def r36_14 : List HOp := [⟨(some 9), true, .mv (.val (.tr (.sc (.slice none 0 0)))), none⟩]
@[simp] def r36_15 : List HOp := [⟨(some 42), true, .mv (.env 8), none⟩,
           ⟨(some 43), true, .len 1 (.env 42), none⟩,
           ⟨(some 44), true, .mv (.val (.tr (.sc (.int .i64 0)))), none⟩]
@[simp] def r36_16 : List HOp := [⟨(some 45), false, .bin .other .lss (.env 44) (.env 43), none⟩]
@[simp] def r36_17 : List HOp := [⟨(some 46), false, .iaddr 8 (.env 42) (.env 44), none⟩,
               ⟨(some 47), false, .load 8 true (.loc 46), none⟩,
               ⟨(some 11), true, .alloc [(.sc (.bool false)), (.sc (.int .i64 0)), (.sc (.string ⟨⟨[]⟩⟩)), (.sc (.int .i64 0)), (.sc (.slice none 0 0)), (.sc (.slice none 0 0)), (.sc (.slice none 0 0)), (.sc (.slice none 0 0))], none⟩,
               ⟨none, false, .store 8 (.env 11) (.loc 47), none⟩]
@[simp] def r36_18 : List HOp := [⟨(some 48), false, .mv (.env 9), none⟩,
              ⟨(some 49), false, .faddr 0 (.env 11), none⟩,
              ⟨(some 50), false, .load 1 false (.loc 49), none⟩,
              ⟨(some 51), false, .faddr 1 (.env 11), none⟩,
              ⟨(some 52), false, .load 7 true (.loc 51), none⟩,
              ⟨(some 53), false, .callf 36 [(.loc 52)], none⟩,
              ⟨(some 54), false, .build [(.sc (.bool false)), (.sc (.int .i64 0)), (.sc (.string ⟨⟨[]⟩⟩)), (.sc (.int .i64 0)), (.sc (.slice none 0 0)), (.sc (.slice none 0 0)), (.sc (.slice none 0 0)), (.sc (.slice none 0 0))] [(0, 1, (.loc 50)), (1, 7, (.loc 53))], none⟩,
              ⟨(some 55), false, .bslice false 1 8 [(.sc (.bool false)), (.sc (.int .i64 0)), (.sc (.string ⟨⟨[]⟩⟩)), (.sc (.int .i64 0)), (.sc (.slice none 0 0)), (.sc (.slice none 0 0)), (.sc (.slice none 0 0)), (.sc (.slice none 0 0))] [(0, 8, (.loc 54))], none⟩,
              ⟨(some 56), false, .append 8 136 (.loc 48) (.loc 55), none⟩,
              ⟨(some 9), true, .mv (.loc 56), none⟩]
@[simp] def r36_19 : List HOp := [⟨(some 57), false, .bin .other .add (.env 44) (.val (.tr (.sc (.int .i64 1)))), none⟩,
            ⟨(some 44), true, .mv (.loc 57), none⟩]
@[simp] def r36_20 : List HOp := [⟨(some 58), false, .mv (.env 6), none⟩,
         ⟨(some 59), false, .mv (.env 9), none⟩,
         ⟨(some 60), false, .bslice false 1 1 [(.sc (.slice none 0 0))] [(0, 1, (.loc 59))], none⟩,
         ⟨(some 61), false, .append 1 24 (.loc 58) (.loc 60), none⟩,
         ⟨(some 6), true, .mv (.loc 61), none⟩]
@[simp] def r36_21 : List HOp := [⟨(some 62), false, .bin .other .add (.env 38) (.val (.tr (.sc (.int .i64 1)))), none⟩,
       ⟨(some 38), true, .mv (.loc 62), none⟩]
@[simp] def r36_22 : List HOp := [⟨(some 63), false, .mv (.env 6), none⟩,
     ⟨(some 64), false, .faddr 6 (.env 1), none⟩,
     ⟨none, false, .store 1 (.loc 64) (.loc 63), none⟩]
@[simp] def r36_23 : List HOp := [⟨(some 65), false, .load 7 true (.env 1), none⟩,
     ⟨none, false, .store 7 (.env 2) (.loc 65), none⟩]
def k36_5 : HCode := .seq (.block 1 (.seq (.region r36_4 none) (.region r36_5 none))) (.region r36_6 none)
@[simp] def k36_4 : HCode := .seq (.cond (.loc 16) .skip (.exit 0)) k36_5
def k36_3 : HCode := .seq (.region r36_3 none) k36_4
@[simp] def k36_2 : HCode := .block 0 (.loop k36_3)
def k36_20 : HCode := .seq (.block 5 (.seq (.region r36_17 none) (.region r36_18 (some [ ( 0, [ 9 ] ) , ( 0, [ 11 ] ) , ( 10, [ 49 ] ) , ( 0, [ 11 ] ) , ( 1, [ 51 ] ) , ( 2, [ 52 ] ) , ( 0, [ 50, 53 ] ) , ( 2, [ 54 ] ) , ( 2, [ 48, 55 ] ) , ( 0, [ 56 ] ) ])))) (.region r36_19 none)
@[simp] def k36_19 : HCode := .seq (.cond (.loc 45) .skip (.exit 4)) k36_20
def k36_18 : HCode := .seq (.region r36_16 none) k36_19
@[simp] def k36_17 : HCode := .block 4 (.loop k36_18)
def k36_21 : HCode := .region r36_20 none
@[simp] def k36_16 : HCode := .seq (.seq (.region r36_15 none) k36_17) k36_21
@[simp] def k36_15 : HCode := .seq (.region r36_14 none) k36_16
def k36_22 : HCode := .region r36_21 none
def k36_14 : HCode := .seq (.block 3 (.seq (.region r36_13 none) k36_15)) k36_22
@[simp] def k36_13 : HCode := .seq (.cond (.loc 39) .skip (.exit 2)) k36_14
def k36_12 : HCode := .seq (.region r36_12 none) k36_13
@[simp] def k36_11 : HCode := .block 2 (.loop k36_12)
@[simp] def k36_24 : HCode := .seq (.region r36_23 none) .ret
def k36_23 : HCode := .seq (.region r36_22 none) k36_24
@[simp] def k36_10 : HCode := .seq (.seq (.region r36_11 none) k36_11) k36_23
@[simp] def k36_9 : HCode := .seq (.region r36_10 none) k36_10
@[simp] def k36_8 : HCode := .seq (.region r36_9 none) k36_9
@[simp] def k36_7 : HCode := .seq (.region r36_8 none) k36_8
def k36_6 : HCode := .seq (.region r36_7 none) k36_7
@[simp] def k36_1 : HCode := .seq (.seq (.region r36_2 none) k36_2) k36_6
@[simp] def k36_0 : HCode := .seq (.region r36_1 none) k36_1
@[simp] def fn36 : HFn := { nargs := 1, results := [.cell 2 7 true], mode := .shared, code := (.seq (.region r36_0 none) k36_0) }
theorem c36 : cFn Tryz.prog (Hs 36) .shared 36 = some fn36 := by kernel_rfl
/- slices.Clone[[]string,string] -/
@[simp] def r58_0 : List HOp := [⟨(some 2), true, .mv (.val (.tr (.sc (.slice none 0 0)))), none⟩]
@[simp] def r58_1 : List HOp := [⟨(some 3), false, .mv (.env 0), none⟩,
      ⟨(some 4), false, .bin .slice .eql (.loc 3) (.val (.tr (.sc (.slice none 0 0)))), none⟩]
@[simp] def r58_2 : List HOp := [⟨(some 2), true, .mv (.val (.tr (.sc (.slice none 0 0)))), none⟩]
@[simp] def r58_3 : List HOp := [⟨(some 5), false, .bslice false 0 1 [(.sc (.string ⟨⟨[]⟩⟩))] [], none⟩,
     ⟨(some 6), false, .mv (.env 0), none⟩,
     ⟨(some 7), false, .append 1 16 (.loc 5) (.loc 6), none⟩,
     ⟨(some 2), true, .mv (.loc 7), none⟩]
@[simp] def k58_2 : HCode := .seq (.region r58_2 none) .ret
@[simp] def k58_1 : HCode := .cond (.loc 4) k58_2 .skip
def k58_3 : HCode := .seq (.region r58_3 none) .ret
@[simp] def k58_0 : HCode := .seq (.seq (.region r58_1 none) k58_1) k58_3
@[simp] def fn58 : HFn := { nargs := 1, results := [.tmp 2], mode := .shared, code := (.seq (.region r58_0 none) k58_0) }
theorem c58 : cFn Tryz.prog (Hs 58) .shared 58 = some fn58 := by kernel_rfl
/- slices.Clone[[]bool,bool] -/
@[simp] def r59_0 : List HOp := [⟨(some 2), true, .mv (.val (.tr (.sc (.slice none 0 0)))), none⟩]
@[simp] def r59_1 : List HOp := [⟨(some 3), false, .mv (.env 0), none⟩,
      ⟨(some 4), false, .bin .slice .eql (.loc 3) (.val (.tr (.sc (.slice none 0 0)))), none⟩]
@[simp] def r59_2 : List HOp := [⟨(some 2), true, .mv (.val (.tr (.sc (.slice none 0 0)))), none⟩]
@[simp] def r59_3 : List HOp := [⟨(some 5), false, .bslice false 0 1 [(.sc (.bool false))] [], none⟩,
     ⟨(some 6), false, .mv (.env 0), none⟩,
     ⟨(some 7), false, .append 1 1 (.loc 5) (.loc 6), none⟩,
     ⟨(some 2), true, .mv (.loc 7), none⟩]
@[simp] def k59_2 : HCode := .seq (.region r59_2 none) .ret
@[simp] def k59_1 : HCode := .cond (.loc 4) k59_2 .skip
def k59_3 : HCode := .seq (.region r59_3 none) .ret
@[simp] def k59_0 : HCode := .seq (.seq (.region r59_1 none) k59_1) k59_3
@[simp] def fn59 : HFn := { nargs := 1, results := [.tmp 2], mode := .shared, code := (.seq (.region r59_0 none) k59_0) }
theorem c59 : cFn Tryz.prog (Hs 59) .shared 59 = some fn59 := by kernel_rfl
/- sterling/env.clone -/
@[simp] def r15_0 : List HOp := [⟨(some 1), true, .box false (.env 0), none⟩,
     ⟨(some 2), true, .alloc [(.sc (.string ⟨⟨[]⟩⟩)), (.sc (.slice none 0 0)), (.sc (.int .i64 0)), (.sc (.string ⟨⟨[]⟩⟩)), (.sc (.int .i64 0)), (.sc (.slice none 0 0)), (.sc (.slice none 0 0)), (.sc (.slice none 0 0)), (.sc (.slice none 0 0)), (.sc (.slice none 0 0))], none⟩]
@[simp] def r15_1 : List HOp := [⟨(some 8), false, .faddr 0 (.env 1), none⟩,
     ⟨(some 9), false, .load 1 false (.loc 8), none⟩,
     ⟨(some 10), false, .faddr 2 (.env 1), none⟩,
     ⟨(some 11), false, .load 7 true (.loc 10), none⟩,
     ⟨(some 12), false, .callf 19 [(.loc 11)], none⟩,
     ⟨(some 13), false, .build [(.sc (.string ⟨⟨[]⟩⟩)), (.sc (.slice none 0 0)), (.sc (.int .i64 0)), (.sc (.string ⟨⟨[]⟩⟩)), (.sc (.int .i64 0)), (.sc (.slice none 0 0)), (.sc (.slice none 0 0)), (.sc (.slice none 0 0)), (.sc (.slice none 0 0)), (.sc (.slice none 0 0))] [(0, 1, (.loc 9)), (2, 7, (.loc 12))], none⟩,
     ⟨(some 3), true, .alloc [(.sc (.string ⟨⟨[]⟩⟩)), (.sc (.slice none 0 0)), (.sc (.int .i64 0)), (.sc (.string ⟨⟨[]⟩⟩)), (.sc (.int .i64 0)), (.sc (.slice none 0 0)), (.sc (.slice none 0 0)), (.sc (.slice none 0 0)), (.sc (.slice none 0 0)), (.sc (.slice none 0 0))], none⟩,
     ⟨none, false, .store 10 (.env 3) (.loc 13), none⟩]
@[simp] def r15_2 : List HOp := [⟨(some 14), false, .faddr 1 (.env 1), none⟩,
      ⟨(some 15), true, .load 1 false (.loc 14), none⟩,
      ⟨(some 16), true, .len 1 (.env 15), none⟩,
      ⟨(some 17), true, .mv (.val (.tr (.sc (.int .i64 0)))), none⟩]
@[simp] def r15_3 : List HOp := [⟨(some 18), false, .bin .other .lss (.env 17) (.env 16), none⟩]
@[simp] def r15_4 : List HOp := [⟨(some 19), false, .iaddr 7 (.env 15) (.env 17), none⟩,
          ⟨(some 20), false, .load 7 true (.loc 19), none⟩,
          ⟨(some 5), true, .alloc [(.sc (.int .i64 0)), (.sc (.string ⟨⟨[]⟩⟩)), (.sc (.int .i64 0)), (.sc (.slice none 0 0)), (.sc (.slice none 0 0)), (.sc (.slice none 0 0)), (.sc (.slice none 0 0))], none⟩,
          ⟨none, false, .store 7 (.env 5) (.loc 20), none⟩]
@[simp] def r15_5 : List HOp := [⟨(some 21), false, .faddr 1 (.env 3), none⟩,
         ⟨(some 22), false, .load 1 false (.loc 21), none⟩,
         ⟨(some 23), false, .load 7 true (.env 5), none⟩,
         ⟨(some 24), false, .callf 19 [(.loc 23)], none⟩,
         ⟨(some 25), false, .bslice false 1 7 [(.sc (.int .i64 0)), (.sc (.string ⟨⟨[]⟩⟩)), (.sc (.int .i64 0)), (.sc (.slice none 0 0)), (.sc (.slice none 0 0)), (.sc (.slice none 0 0)), (.sc (.slice none 0 0))] [(0, 7, (.loc 24))], none⟩,
         ⟨(some 26), false, .append 7 128 (.loc 22) (.loc 25), none⟩,
         ⟨(some 27), false, .faddr 1 (.env 3), none⟩,
         ⟨none, false, .store 1 (.loc 27) (.loc 26), none⟩]
@[simp] def r15_6 : List HOp := [⟨(some 28), false, .bin .other .add (.env 17) (.val (.tr (.sc (.int .i64 1)))), none⟩,
       ⟨(some 17), true, .mv (.loc 28), none⟩]
@[simp] def r15_7 : List HOp := [⟨(some 29), false, .faddr 9 (.env 1), none⟩,
      ⟨(some 30), true, .load 1 false (.loc 29), none⟩,
      ⟨(some 31), true, .len 1 (.env 30), none⟩,
      ⟨(some 32), true, .mv (.val (.tr (.sc (.int .i64 0)))), none⟩]
@[simp] def r15_8 : List HOp := [⟨(some 33), false, .bin .other .lss (.env 32) (.env 31), none⟩]
@[simp] def r15_9 : List HOp := [⟨(some 34), false, .iaddr 9 (.env 30) (.env 32), none⟩,
          ⟨(some 35), false, .load 9 true (.loc 34), none⟩,
          ⟨(some 7), true, .alloc [(.sc (.string ⟨⟨[]⟩⟩)), (.sc (.bool false)), (.sc (.int .i64 0)), (.sc (.string ⟨⟨[]⟩⟩)), (.sc (.int .i64 0)), (.sc (.slice none 0 0)), (.sc (.slice none 0 0)), (.sc (.slice none 0 0)), (.sc (.slice none 0 0))], none⟩,
          ⟨none, false, .store 9 (.env 7) (.loc 35), none⟩]
@[simp] def r15_10 : List HOp := [⟨(some 36), false, .faddr 9 (.env 3), none⟩,
         ⟨(some 37), false, .load 1 false (.loc 36), none⟩,
         ⟨(some 38), false, .faddr 0 (.env 7), none⟩,
         ⟨(some 39), false, .load 1 false (.loc 38), none⟩,
         ⟨(some 40), false, .faddr 1 (.env 7), none⟩,
         ⟨(some 41), false, .load 1 false (.loc 40), none⟩,
         ⟨(some 42), false, .faddr 2 (.env 7), none⟩,
         ⟨(some 43), false, .load 7 true (.loc 42), none⟩,
         ⟨(some 44), false, .callf 19 [(.loc 43)], none⟩,
         ⟨(some 45), false, .build [(.sc (.string ⟨⟨[]⟩⟩)), (.sc (.bool false)), (.sc (.int .i64 0)), (.sc (.string ⟨⟨[]⟩⟩)), (.sc (.int .i64 0)), (.sc (.slice none 0 0)), (.sc (.slice none 0 0)), (.sc (.slice none 0 0)), (.sc (.slice none 0 0))] [(0, 1, (.loc 39)), (1, 1, (.loc 41)), (2, 7, (.loc 44))], none⟩,
         ⟨(some 46), false, .bslice false 1 9 [(.sc (.string ⟨⟨[]⟩⟩)), (.sc (.bool false)), (.sc (.int .i64 0)), (.sc (.string ⟨⟨[]⟩⟩)), (.sc (.int .i64 0)), (.sc (.slice none 0 0)), (.sc (.slice none 0 0)), (.sc (.slice none 0 0)), (.sc (.slice none 0 0))] [(0, 9, (.loc 45))], none⟩,
         ⟨(some 47), false, .append 9 152 (.loc 37) (.loc 46), none⟩,
         ⟨(some 48), false, .faddr 9 (.env 3), none⟩,
         ⟨none, false, .store 1 (.loc 48) (.loc 47), none⟩]
@[simp] def r15_11 : List HOp := [⟨(some 49), false, .bin .other .add (.env 32) (.val (.tr (.sc (.int .i64 1)))), none⟩,
       ⟨(some 32), true, .mv (.loc 49), none⟩]
@[simp] def r15_12 : List HOp := [⟨(some 50), false, .load 10 true (.env 3), none⟩,
     ⟨none, false, .store 10 (.env 2) (.loc 50), none⟩]
def k15_5 : HCode := .seq (.block 1 (.seq (.region r15_4 none) (.region r15_5 (some [ ( 0, [ 3 ] ) , ( 8, [ 21 ] ) , ( 1, [ 5 ] ) , ( 2, [ 23 ] ) , ( 2, [ 24 ] ) , ( 2, [ 22, 25 ] ) , ( 0, [ 3 ] ) , ( 2, [ 27, 26 ] ) ])))) (.region r15_6 none)
@[simp] def k15_4 : HCode := .seq (.cond (.loc 18) .skip (.exit 0)) k15_5
def k15_3 : HCode := .seq (.region r15_3 none) k15_4
@[simp] def k15_2 : HCode := .block 0 (.loop k15_3)
def k15_10 : HCode := .seq (.block 3 (.seq (.region r15_9 none) (.region r15_10 (some [ ( 0, [ 3 ] ) , ( 14, [ 36 ] ) , ( 0, [ 7 ] ) , ( 13, [ 38 ] ) , ( 0, [ 7 ] ) , ( 13, [ 40 ] ) , ( 0, [ 7 ] ) , ( 1, [ 42 ] ) , ( 2, [ 43 ] ) , ( 0, [ 39, 41, 44 ] ) , ( 2, [ 45 ] ) , ( 2, [ 37, 46 ] ) , ( 0, [ 3 ] ) , ( 2, [ 48, 47 ] ) ])))) (.region r15_11 none)
@[simp] def k15_9 : HCode := .seq (.cond (.loc 33) .skip (.exit 2)) k15_10
def k15_8 : HCode := .seq (.region r15_8 none) k15_9
@[simp] def k15_7 : HCode := .block 2 (.loop k15_8)
def k15_11 : HCode := .seq (.region r15_12 none) .ret
def k15_6 : HCode := .seq (.seq (.region r15_7 none) k15_7) k15_11
@[simp] def k15_1 : HCode := .seq (.seq (.region r15_2 none) k15_2) k15_6
@[simp] def k15_0 : HCode := .seq (.region r15_1 (some [ ( 0, [ 1 ] ) , ( 1, [ 8 ] ) , ( 0, [ 1 ] ) , ( 1, [ 10 ] ) , ( 1, [ 11 ] ) , ( 0, [ 9, 12 ] ) , ( 1, [ ] ) , ( 2, [ 3, 13 ] ) ])) k15_1
@[simp] def fn15 : HFn := { nargs := 1, results := [.cell 2 10 true], mode := .shared, code := (.seq (.region r15_0 none) k15_0) }
theorem c15 : cFn Tryz.prog (Hs 15) .shared 15 = some fn15 := by kernel_rfl
/- sterling/sterlingref11.N -/
@[simp] def r7_0 : List HOp := [⟨(some 4), true, .alloc [(.sc (.int .i64 0)), (.sc (.string ⟨⟨[]⟩⟩)), (.sc (.int .i64 0)), (.sc (.slice none 0 0)), (.sc (.slice none 0 0)), (.sc (.slice none 0 0)), (.sc (.slice none 0 0))], none⟩]
@[simp] def r7_1 : List HOp := [⟨(some 5), false, .mv (.env 0), none⟩,
     ⟨(some 6), false, .mv (.env 1), none⟩,
     ⟨(some 7), false, .build [(.sc (.int .i64 0)), (.sc (.string ⟨⟨[]⟩⟩)), (.sc (.int .i64 0)), (.sc (.slice none 0 0)), (.sc (.slice none 0 0)), (.sc (.slice none 0 0)), (.sc (.slice none 0 0))] [(0, 1, (.val (.tr (.sc (.int .i64 2))))), (1, 1, (.loc 5)), (3, 1, (.loc 6))], none⟩,
     ⟨none, false, .store 7 (.env 4) (.loc 7), none⟩]
@[simp] def k7_0 : HCode := .seq (.region r7_1 none) .ret
@[simp] def fn7 : HFn := { nargs := 2, results := [.cell 4 7 true], mode := .iso, code := (.seq (.region r7_0 none) k7_0) }
theorem c7 : cFn Tryz.prog (Hs 7) .iso 7 = some fn7 := by kernel_rfl
/- (*sterling/env.Env).Under -/
@[simp] def r6_0 : List HOp := [⟨(some 3), true, .box false (.env 1), none⟩,
     ⟨(some 4), true, .alloc [(.sc (.int .i64 0)), (.sc (.string ⟨⟨[]⟩⟩)), (.sc (.int .i64 0)), (.sc (.slice none 0 0)), (.sc (.slice none 0 0)), (.sc (.slice none 0 0)), (.sc (.slice none 0 0))], none⟩,
     ⟨(some 5), true, .mv (.val (.tr (.sc (.bool false)))), none⟩]
@[simp] def r6_1 : List HOp := [⟨(some 9), false, .load 7 true (.env 3), none⟩,
      ⟨(some 10), false, .callf 16 [(.loc 9)], none⟩,
      ⟨(some 11), false, .un .not (.loc 10), none⟩,
      ⟨(some 12), false, .mv (.loc 11), none⟩,
      ⟨(some 13), false, .mv (.env 0), some ((.loc 12), false)⟩,
      ⟨(some 14), false, .load 7 true (.env 3), some ((.loc 12), false)⟩,
      ⟨(some 15), false, .callf 17 [(.loc 13), (.loc 14)], some ((.loc 12), false)⟩,
      ⟨(some 16), false, .un .not (.loc 15), some ((.loc 12), false)⟩,
      ⟨(some 17), false, .pick (.loc 12) (.val (.tr (.sc (.bool true)))) (.loc 16), none⟩]
@[simp] def r6_2 : List HOp := [⟨(some 18), false, .build [(.sc (.int .i64 0)), (.sc (.string ⟨⟨[]⟩⟩)), (.sc (.int .i64 0)), (.sc (.slice none 0 0)), (.sc (.slice none 0 0)), (.sc (.slice none 0 0)), (.sc (.slice none 0 0))] [], none⟩,
       ⟨none, false, .store 7 (.env 4) (.loc 18), none⟩,
       ⟨(some 5), true, .mv (.val (.tr (.sc (.bool false)))), none⟩]
@[simp] def r6_3 : List HOp := [⟨(some 19), false, .mkmap, none⟩,
     ⟨(some 6), true, .mv (.loc 19), none⟩]
@[simp] def r6_4 : List HOp := [⟨(some 20), false, .faddr 0 (.env 3), none⟩,
         ⟨(some 21), false, .load 1 false (.loc 20), none⟩,
         ⟨(some 22), false, .bin .other .eql (.loc 21) (.val (.tr (.sc (.int .i64 2)))), none⟩]
@[simp] def r6_5 : List HOp := [⟨(some 23), false, .mv (.env 6), none⟩,
          ⟨(some 24), false, .faddr 1 (.env 3), none⟩,
          ⟨(some 25), false, .load 1 false (.loc 24), none⟩,
          ⟨(some 26), false, .lookup .string (.sc (.int .i64 0)) false (.loc 23) (.loc 25), none⟩,
          ⟨(some 27), false, .bin .other .add (.loc 26) (.val (.tr (.sc (.int .i64 1)))), none⟩,
          ⟨none, false, .mupd .string (.loc 23) (.loc 25) (.loc 27), none⟩]
@[simp] def r6_6 : List HOp := [⟨(some 28), false, .mv (.env 6), none⟩,
          ⟨(some 29), false, .faddr 1 (.env 3), none⟩,
          ⟨(some 30), false, .load 1 false (.loc 29), none⟩,
          ⟨(some 31), false, .lookup .string (.sc (.int .i64 0)) false (.loc 28) (.loc 30), none⟩,
          ⟨(some 32), false, .bin .other .gtr (.loc 31) (.val (.tr (.sc (.int .i64 1)))), none⟩]
@[simp] def r6_7 : List HOp := [⟨(some 33), false, .build [(.sc (.int .i64 0)), (.sc (.string ⟨⟨[]⟩⟩)), (.sc (.int .i64 0)), (.sc (.slice none 0 0)), (.sc (.slice none 0 0)), (.sc (.slice none 0 0)), (.sc (.slice none 0 0))] [], none⟩,
           ⟨none, false, .store 7 (.env 4) (.loc 33), none⟩,
           ⟨(some 5), true, .mv (.val (.tr (.sc (.bool false)))), none⟩]
@[simp] def r6_8 : List HOp := [⟨(some 35), false, .mv (.env 0), none⟩,
         ⟨(some 36), false, .faddr 1 (.env 3), none⟩,
         ⟨(some 37), false, .load 1 false (.loc 36), none⟩,
         ⟨(some 38), false, .callf 14 [(.loc 35), (.loc 37)], none⟩,
         ⟨(some 34), false, .mv (.loc 38), none⟩,
         ⟨(some 39), false, .extract (.loc 34) 0, none⟩,
         ⟨(some 40), false, .extract (.loc 34) 1, none⟩,
         ⟨(some 7), true, .alloc [(.sc (.string ⟨⟨[]⟩⟩)), (.sc (.slice none 0 0)), (.sc (.int .i64 0)), (.sc (.string ⟨⟨[]⟩⟩)), (.sc (.int .i64 0)), (.sc (.slice none 0 0)), (.sc (.slice none 0 0)), (.sc (.slice none 0 0)), (.sc (.slice none 0 0)), (.sc (.slice none 0 0))], none⟩,
         ⟨none, false, .store 10 (.env 7) (.loc 39), none⟩,
         ⟨(some 8), false, .mv (.loc 40), none⟩]
@[simp] def r6_9 : List HOp := [⟨(some 41), false, .mv (.env 0), none⟩,
         ⟨(some 42), false, .faddr 2 (.env 7), none⟩,
         ⟨(some 43), false, .load 7 true (.loc 42), none⟩,
         ⟨(some 44), false, .load 7 true (.env 3), none⟩,
         ⟨(some 45), false, .callf 18 [(.loc 41), (.loc 43), (.loc 44)], none⟩,
         ⟨none, false, .store 7 (.env 3) (.loc 45), none⟩]
@[simp] def r6_10 : List HOp := [⟨(some 46), false, .load 7 true (.env 3), none⟩,
         ⟨(some 47), false, .callf 16 [(.loc 46)], none⟩,
         ⟨(some 48), false, .un .not (.loc 47), none⟩]
@[simp] def r6_11 : List HOp := [⟨(some 49), false, .build [(.sc (.int .i64 0)), (.sc (.string ⟨⟨[]⟩⟩)), (.sc (.int .i64 0)), (.sc (.slice none 0 0)), (.sc (.slice none 0 0)), (.sc (.slice none 0 0)), (.sc (.slice none 0 0))] [], none⟩,
          ⟨none, false, .store 7 (.env 4) (.loc 49), none⟩,
          ⟨(some 5), true, .mv (.val (.tr (.sc (.bool false)))), none⟩]
@[simp] def r6_12 : List HOp := [⟨(some 50), false, .load 7 true (.env 3), none⟩,
     ⟨(some 51), false, .callf 19 [(.loc 50)], none⟩,
     ⟨none, false, .store 7 (.env 4) (.loc 51), none⟩,
     ⟨(some 5), true, .mv (.val (.tr (.sc (.bool true)))), none⟩]
@[simp] def k6_2 : HCode := .seq (.region r6_2 none) .ret
@[simp] def k6_1 : HCode := .cond (.loc 17) k6_2 .skip
@[simp] def k6_6 : HCode := .cond (.loc 22) .skip (.exit 0)
@[simp] def k6_10 : HCode := .seq (.region r6_7 none) .ret
@[simp] def k6_9 : HCode := .cond (.loc 32) k6_10 .skip
@[simp] def k6_8 : HCode := .seq (.region r6_6 none) k6_9
@[simp] def k6_15 : HCode := .seq (.region r6_11 none) .ret
@[simp] def k6_14 : HCode := .cond (.loc 48) k6_15 .skip
@[simp] def k6_13 : HCode := .seq (.region r6_10 none) k6_14
@[simp] def k6_12 : HCode := .seq (.region r6_9 none) k6_13
def k6_11 : HCode := .seq (.region r6_8 none) k6_12
def k6_7 : HCode := .block 1 (.seq (.seq (.region r6_5 none) k6_8) k6_11)
def k6_5 : HCode := .seq (.seq (.region r6_4 none) k6_6) k6_7
def k6_16 : HCode := .seq (.region r6_12 none) .ret
@[simp] def k6_4 : HCode := .seq (.block 0 (.loop k6_5)) k6_16
def k6_3 : HCode := .seq (.region r6_3 none) k6_4
@[simp] def k6_0 : HCode := .seq (.seq (.region r6_1 none) k6_1) k6_3
@[simp] def fn6 : HFn := { nargs := 2, results := [.cell 4 7 true, .tmp 5], mode := .shared, code := (.seq (.region r6_0 none) k6_0) }
theorem c6 : cFn Tryz.prog (Hs 6) .shared 6 = some fn6 := by kernel_rfl
/- sterling/types.May -/
@[simp] def r16_0 : List HOp := [⟨(some 1), true, .box false (.env 0), none⟩,
     ⟨(some 2), true, .mv (.val (.tr (.sc (.bool false)))), none⟩]
@[simp] def r16_1 : List HOp := [⟨(some 4), false, .faddr 0 (.env 1), none⟩,
      ⟨(some 5), true, .load 1 false (.loc 4), none⟩]
@[simp] def r16_2 : List HOp := [⟨(some 7), false, .bin .other .eql (.env 5) (.val (.tr (.sc (.int .i64 11)))), none⟩,
        ⟨(some 6), true, .mv (.loc 7), none⟩]
@[simp] def r16_3 : List HOp := [⟨(some 8), false, .bin .other .eql (.env 5) (.val (.tr (.sc (.int .i64 13)))), none⟩,
        ⟨(some 6), true, .mv (.loc 8), none⟩]
@[simp] def r16_4 : List HOp := [⟨(some 9), false, .load 7 true (.env 1), none⟩,
        ⟨(some 10), false, .callf 31 [(.loc 9), (.val (.tr (.sc (.bool false)))), (.val (.tr (.sc (.bool false)))), (.val (.tr (.sc (.bool false)))), (.val (.tr (.sc (.bool false)))), (.val (.tr (.sc (.bool false))))], none⟩,
        ⟨(some 2), true, .mv (.loc 10), none⟩]
@[simp] def r16_5 : List HOp := [⟨(some 12), false, .bin .other .eql (.env 5) (.val (.tr (.sc (.int .i64 12)))), none⟩,
        ⟨(some 11), false, .mv (.loc 12), none⟩]
@[simp] def r16_6 : List HOp := [⟨(some 13), false, .faddr 1 (.env 1), none⟩,
         ⟨(some 14), false, .load 1 false (.loc 13), none⟩,
         ⟨(some 15), false, .callf 32 [(.val (.tr (.sc (.string ⟨⟨[32, 98, 111, 111, 108, 32, 115, 116, 114, 105, 110, 103, 32, 105, 110, 116, 32, 102, 108, 111, 97, 116, 32]⟩⟩)))), (.loc 14)], none⟩,
         ⟨(some 16), false, .mv (.loc 15), none⟩,
         ⟨(some 17), false, .load 7 true (.env 1), some ((.loc 16), true)⟩,
         ⟨(some 18), false, .callf 31 [(.loc 17), (.val (.tr (.sc (.bool true)))), (.val (.tr (.sc (.bool false)))), (.val (.tr (.sc (.bool false)))), (.val (.tr (.sc (.bool false)))), (.val (.tr (.sc (.bool false))))], some ((.loc 16), true)⟩,
         ⟨(some 19), false, .pick (.loc 16) (.loc 18) (.val (.tr (.sc (.bool false)))), none⟩,
         ⟨(some 2), true, .mv (.loc 19), none⟩]
@[simp] def r16_7 : List HOp := [⟨(some 3), true, .alloc [(.sc (.int .i64 0))], none⟩,
     ⟨none, false, .store 1 (.env 3) (.val (.tr (.sc (.int .i64 4096)))), none⟩]
@[simp] def r16_8 : List HOp := [⟨(some 20), false, .load 7 true (.env 1), none⟩,
     ⟨(some 21), false, .callf 33 [(.loc 20), (.env 3)], none⟩,
     ⟨(some 22), false, .mv (.loc 21), none⟩,
     ⟨(some 23), false, .load 7 true (.env 1), some ((.loc 22), true)⟩,
     ⟨(some 24), false, .callf 34 [(.loc 23), (.val (.tr (.sc (.int .i64 1))))], some ((.loc 22), true)⟩,
     ⟨(some 25), false, .pick (.loc 22) (.loc 24) (.val (.tr (.sc (.bool false)))), none⟩,
     ⟨(some 2), true, .mv (.loc 25), none⟩]
@[simp] def k16_2 : HCode := .cond (.env 6) .skip (.region r16_3 none)
@[simp] def k16_4 : HCode := .seq (.region r16_4 none) .ret
@[simp] def k16_7 : HCode := .seq (.region r16_6 none) .ret
@[simp] def k16_6 : HCode := .cond (.loc 11) k16_7 .skip
@[simp] def k16_5 : HCode := .seq (.region r16_5 none) k16_6
def k16_3 : HCode := .cond (.env 6) k16_4 k16_5
@[simp] def k16_1 : HCode := .block 0 (.seq (.seq (.region r16_2 none) k16_2) k16_3)
@[simp] def k16_9 : HCode := .seq (.region r16_8 none) .ret
def k16_8 : HCode := .seq (.region r16_7 none) k16_9
@[simp] def k16_0 : HCode := .seq (.seq (.region r16_1 none) k16_1) k16_8
@[simp] def fn16 : HFn := { nargs := 1, results := [.tmp 2], mode := .iso, code := (.seq (.region r16_0 none) k16_0) }
theorem c16 : cFn Tryz.prog (Hs 16) .iso 16 = some fn16 := by kernel_rfl
/- sterling/types.bare -/
@[simp] def r31_0 : List HOp := [⟨(some 6), true, .box false (.env 0), none⟩,
     ⟨(some 12), true, .mv (.val (.tr (.sc (.bool false)))), none⟩]
@[simp] def r31_1 : List HOp := [⟨(some 13), false, .mv (.env 1), none⟩,
     ⟨(some 14), false, .mv (.loc 13), none⟩,
     ⟨(some 15), false, .faddr 1 (.env 6), some ((.loc 14), false)⟩,
     ⟨(some 16), false, .load 1 false (.loc 15), some ((.loc 14), false)⟩,
     ⟨(some 17), false, .bin .other .eql (.loc 16) (.val (.tr (.sc (.string ⟨⟨[]⟩⟩)))), some ((.loc 14), false)⟩,
     ⟨(some 18), false, .pick (.loc 14) (.val (.tr (.sc (.bool true)))) (.loc 17), none⟩,
     ⟨(some 19), false, .mv (.loc 18), none⟩,
     ⟨(some 20), false, .mv (.env 2), some ((.loc 19), true)⟩,
     ⟨(some 21), false, .mv (.loc 20), some ((.loc 19), true)⟩,
     ⟨(some 22), false, .faddr 2 (.env 6), some ((.loc 21), false)⟩,
     ⟨(some 23), false, .load 1 false (.loc 22), some ((.loc 21), false)⟩,
     ⟨(some 24), false, .bin .other .eql (.loc 23) (.val (.tr (.sc (.int .i64 0)))), some ((.loc 21), false)⟩,
     ⟨(some 25), false, .pick (.loc 21) (.val (.tr (.sc (.bool true)))) (.loc 24), some ((.loc 19), true)⟩,
     ⟨(some 26), false, .pick (.loc 19) (.loc 25) (.val (.tr (.sc (.bool false)))), none⟩,
     ⟨(some 27), false, .mv (.loc 26), none⟩,
     ⟨(some 28), false, .mv (.env 3), some ((.loc 27), true)⟩,
     ⟨(some 29), false, .mv (.loc 28), some ((.loc 27), true)⟩,
     ⟨(some 30), false, .faddr 3 (.env 6), some ((.loc 29), false)⟩,
     ⟨(some 31), false, .load 1 false (.loc 30), some ((.loc 29), false)⟩,
     ⟨(some 32), false, .len 1 (.loc 31), some ((.loc 29), false)⟩,
     ⟨(some 33), false, .bin .other .eql (.loc 32) (.val (.tr (.sc (.int .i64 0)))), some ((.loc 29), false)⟩,
     ⟨(some 34), false, .pick (.loc 29) (.val (.tr (.sc (.bool true)))) (.loc 33), some ((.loc 27), true)⟩,
     ⟨(some 35), false, .pick (.loc 27) (.loc 34) (.val (.tr (.sc (.bool false)))), none⟩,
     ⟨(some 36), false, .mv (.loc 35), none⟩,
     ⟨(some 37), false, .mv (.env 4), some ((.loc 36), true)⟩,
     ⟨(some 38), false, .mv (.loc 37), some ((.loc 36), true)⟩,
     ⟨(some 39), false, .faddr 4 (.env 6), some ((.loc 38), false)⟩,
     ⟨(some 40), false, .load 1 false (.loc 39), some ((.loc 38), false)⟩,
     ⟨(some 41), false, .len 1 (.loc 40), some ((.loc 38), false)⟩,
     ⟨(some 42), false, .bin .other .eql (.loc 41) (.val (.tr (.sc (.int .i64 0)))), some ((.loc 38), false)⟩,
     ⟨(some 43), false, .pick (.loc 38) (.val (.tr (.sc (.bool true)))) (.loc 42), some ((.loc 36), true)⟩,
     ⟨(some 44), false, .pick (.loc 36) (.loc 43) (.val (.tr (.sc (.bool false)))), none⟩,
     ⟨(some 45), false, .mv (.loc 44), none⟩,
     ⟨(some 46), false, .mv (.env 5), some ((.loc 45), true)⟩,
     ⟨(some 47), false, .mv (.loc 46), some ((.loc 45), true)⟩,
     ⟨(some 48), false, .faddr 6 (.env 6), some ((.loc 47), false)⟩,
     ⟨(some 49), false, .load 1 false (.loc 48), some ((.loc 47), false)⟩,
     ⟨(some 50), false, .len 1 (.loc 49), some ((.loc 47), false)⟩,
     ⟨(some 51), false, .bin .other .eql (.loc 50) (.val (.tr (.sc (.int .i64 0)))), some ((.loc 47), false)⟩,
     ⟨(some 52), false, .pick (.loc 47) (.val (.tr (.sc (.bool true)))) (.loc 51), some ((.loc 45), true)⟩,
     ⟨(some 53), false, .pick (.loc 45) (.loc 52) (.val (.tr (.sc (.bool false)))), none⟩,
     ⟨(some 54), false, .mv (.loc 53), none⟩,
     ⟨(some 55), false, .faddr 0 (.env 6), some ((.loc 54), true)⟩,
     ⟨(some 56), false, .load 1 false (.loc 55), some ((.loc 54), true)⟩,
     ⟨(some 57), false, .bin .other .eql (.loc 56) (.val (.tr (.sc (.int .i64 9)))), some ((.loc 54), true)⟩,
     ⟨(some 58), false, .mv (.loc 57), some ((.loc 54), true)⟩,
     ⟨(some 59), false, .faddr 5 (.env 6), some ((.loc 58), false)⟩,
     ⟨(some 60), false, .load 1 false (.loc 59), some ((.loc 58), false)⟩,
     ⟨(some 61), false, .len 1 (.loc 60), some ((.loc 58), false)⟩,
     ⟨(some 62), false, .bin .other .eql (.loc 61) (.val (.tr (.sc (.int .i64 0)))), some ((.loc 58), false)⟩,
     ⟨(some 63), false, .pick (.loc 58) (.val (.tr (.sc (.bool true)))) (.loc 62), some ((.loc 54), true)⟩,
     ⟨(some 64), false, .pick (.loc 54) (.loc 63) (.val (.tr (.sc (.bool false)))), none⟩,
     ⟨(some 12), true, .mv (.loc 64), none⟩]
@[simp] def k31_0 : HCode := .seq (.region r31_1 none) .ret
@[simp] def fn31 : HFn := { nargs := 6, results := [.tmp 12], mode := .iso, code := (.seq (.region r31_0 none) k31_0) }
theorem c31 : cFn Tryz.prog (Hs 31) .iso 31 = some fn31 := by kernel_rfl
/- sterling/types.may -/
@[simp] def r34_0 : List HOp := [⟨(some 2), true, .box false (.env 0), none⟩,
     ⟨(some 3), true, .box false (.env 1), none⟩,
     ⟨(some 4), true, .mv (.val (.tr (.sc (.bool false)))), none⟩]
@[simp] def r34_1 : List HOp := [⟨(some 6), false, .load 1 false (.env 3), none⟩,
      ⟨(some 7), false, .bin .other .gtr (.loc 6) (.val (.tr (.sc (.int .i64 200)))), none⟩]
@[simp] def r34_2 : List HOp := [⟨(some 4), true, .mv (.val (.tr (.sc (.bool false)))), none⟩]
@[simp] def r34_3 : List HOp := [⟨(some 8), false, .mkfn (.func 50) [] [(.env 2), (.env 3)], none⟩,
     ⟨(some 5), true, .mv (.loc 8), none⟩]
@[simp] def r34_4 : List HOp := [⟨(some 9), false, .faddr 0 (.env 2), none⟩,
      ⟨(some 10), true, .load 1 false (.loc 9), none⟩]
@[simp] def r34_5 : List HOp := [⟨(some 12), false, .bin .other .eql (.env 10) (.val (.tr (.sc (.int .i64 1)))), none⟩,
       ⟨(some 11), false, .mv (.loc 12), none⟩]
@[simp] def r34_6 : List HOp := [⟨(some 13), false, .faddr 1 (.env 2), none⟩,
        ⟨(some 14), false, .load 1 false (.loc 13), none⟩,
        ⟨(some 15), false, .callf 32 [(.val (.tr (.sc (.string ⟨⟨[32, 98, 111, 111, 108, 32, 115, 116, 114, 105, 110, 103, 32, 105, 110, 116, 32, 105, 110, 116, 56, 32, 117, 105, 110, 116, 56, 32, 117, 105, 110, 116, 32, 102, 108, 111, 97, 116, 51, 50, 32, 102, 108, 111, 97, 116, 54, 52, 32]⟩⟩)))), (.loc 14)], none⟩,
        ⟨(some 16), false, .mv (.loc 15), none⟩,
        ⟨(some 17), false, .load 7 true (.env 2), some ((.loc 16), true)⟩,
        ⟨(some 18), false, .callf 31 [(.loc 17), (.val (.tr (.sc (.bool true)))), (.val (.tr (.sc (.bool false)))), (.val (.tr (.sc (.bool false)))), (.val (.tr (.sc (.bool false)))), (.val (.tr (.sc (.bool false))))], some ((.loc 16), true)⟩,
        ⟨(some 19), false, .pick (.loc 16) (.loc 18) (.val (.tr (.sc (.bool false)))), none⟩,
        ⟨(some 4), true, .mv (.loc 19), none⟩]
@[simp] def r34_7 : List HOp := [⟨(some 21), false, .bin .other .eql (.env 10) (.val (.tr (.sc (.int .i64 2)))), none⟩,
        ⟨(some 20), false, .mv (.loc 21), none⟩]
@[simp] def r34_8 : List HOp := [⟨(some 22), false, .faddr 1 (.env 2), none⟩,
         ⟨(some 23), false, .load 1 false (.loc 22), none⟩,
         ⟨(some 24), false, .callf 52 [(.loc 23)], none⟩,
         ⟨(some 25), false, .mv (.loc 24), none⟩,
         ⟨(some 26), false, .load 7 true (.env 2), some ((.loc 25), true)⟩,
         ⟨(some 27), false, .callf 31 [(.loc 26), (.val (.tr (.sc (.bool true)))), (.val (.tr (.sc (.bool false)))), (.val (.tr (.sc (.bool true)))), (.val (.tr (.sc (.bool false)))), (.val (.tr (.sc (.bool false))))], some ((.loc 25), true)⟩,
         ⟨(some 28), false, .pick (.loc 25) (.loc 27) (.val (.tr (.sc (.bool false)))), none⟩,
         ⟨(some 29), false, .mv (.loc 28), none⟩,
         ⟨(some 30), false, .faddr 3 (.env 2), some ((.loc 29), true)⟩,
         ⟨(some 31), false, .load 1 false (.loc 30), some ((.loc 29), true)⟩,
         ⟨(some 32), false, .load 1 false (.env 3), some ((.loc 29), true)⟩,
         ⟨(some 33), false, .bin .other .add (.loc 32) (.val (.tr (.sc (.int .i64 1)))), some ((.loc 29), true)⟩,
         ⟨(some 34), false, .callf 51 [(.loc 31), (.loc 33)], some ((.loc 29), true)⟩,
         ⟨(some 35), false, .pick (.loc 29) (.loc 34) (.val (.tr (.sc (.bool false)))), none⟩,
         ⟨(some 4), true, .mv (.loc 35), none⟩]
@[simp] def r34_9 : List HOp := [⟨(some 37), false, .bin .other .eql (.env 10) (.val (.tr (.sc (.int .i64 3)))), none⟩,
         ⟨(some 36), false, .mv (.loc 37), none⟩]
@[simp] def r34_10 : List HOp := [⟨(some 38), false, .faddr 1 (.env 2), none⟩,
          ⟨(some 39), false, .load 1 false (.loc 38), none⟩,
          ⟨(some 40), false, .bin .other .neq (.loc 39) (.val (.tr (.sc (.string ⟨⟨[]⟩⟩)))), none⟩,
          ⟨(some 41), false, .mv (.loc 40), none⟩,
          ⟨(some 42), false, .load 7 true (.env 2), some ((.loc 41), true)⟩,
          ⟨(some 43), false, .callf 31 [(.loc 42), (.val (.tr (.sc (.bool true)))), (.val (.tr (.sc (.bool false)))), (.val (.tr (.sc (.bool false)))), (.val (.tr (.sc (.bool false)))), (.val (.tr (.sc (.bool false))))], some ((.loc 41), true)⟩,
          ⟨(some 44), false, .pick (.loc 41) (.loc 43) (.val (.tr (.sc (.bool false)))), none⟩,
          ⟨(some 4), true, .mv (.loc 44), none⟩]
@[simp] def r34_11 : List HOp := [⟨(some 46), false, .bin .other .eql (.env 10) (.val (.tr (.sc (.int .i64 4)))), none⟩,
          ⟨(some 45), false, .mv (.loc 46), none⟩]
@[simp] def r34_12 : List HOp := [⟨(some 47), false, .faddr 2 (.env 2), none⟩,
           ⟨(some 48), false, .load 1 false (.loc 47), none⟩,
           ⟨(some 49), false, .bin .other .geq (.loc 48) (.val (.tr (.sc (.int .i64 0)))), none⟩,
           ⟨(some 50), false, .mv (.loc 49), none⟩,
           ⟨(some 51), false, .faddr 2 (.env 2), some ((.loc 50), true)⟩,
           ⟨(some 52), false, .load 1 false (.loc 51), some ((.loc 50), true)⟩,
           ⟨(some 53), false, .bin .other .leq (.loc 52) (.val (.tr (.sc (.int .i64 1048576)))), some ((.loc 50), true)⟩,
           ⟨(some 54), false, .pick (.loc 50) (.loc 53) (.val (.tr (.sc (.bool false)))), none⟩,
           ⟨(some 55), false, .mv (.loc 54), none⟩,
           ⟨(some 56), false, .load 7 true (.env 2), some ((.loc 55), true)⟩,
           ⟨(some 57), false, .callf 31 [(.loc 56), (.val (.tr (.sc (.bool false)))), (.val (.tr (.sc (.bool true)))), (.val (.tr (.sc (.bool true)))), (.val (.tr (.sc (.bool false)))), (.val (.tr (.sc (.bool false))))], some ((.loc 55), true)⟩,
           ⟨(some 58), false, .pick (.loc 55) (.loc 57) (.val (.tr (.sc (.bool false)))), none⟩,
           ⟨(some 59), false, .mv (.loc 58), none⟩,
           ⟨(some 60), false, .mv (.env 5), some ((.loc 59), true)⟩,
           ⟨(some 61), false, .callv (.loc 60) [(.val (.tr (.sc (.int .i64 1))))], some ((.loc 59), true)⟩,
           ⟨(some 62), false, .pick (.loc 59) (.loc 61) (.val (.tr (.sc (.bool false)))), none⟩,
           ⟨(some 4), true, .mv (.loc 62), none⟩]
@[simp] def r34_13 : List HOp := [⟨(some 64), false, .bin .other .eql (.env 10) (.val (.tr (.sc (.int .i64 5)))), none⟩,
            ⟨(some 63), true, .mv (.loc 64), none⟩]
@[simp] def r34_14 : List HOp := [⟨(some 65), false, .bin .other .eql (.env 10) (.val (.tr (.sc (.int .i64 6)))), none⟩,
            ⟨(some 63), true, .mv (.loc 65), none⟩]
@[simp] def r34_15 : List HOp := [⟨(some 66), false, .load 7 true (.env 2), none⟩,
            ⟨(some 67), false, .callf 31 [(.loc 66), (.val (.tr (.sc (.bool false)))), (.val (.tr (.sc (.bool false)))), (.val (.tr (.sc (.bool true)))), (.val (.tr (.sc (.bool false)))), (.val (.tr (.sc (.bool false))))], none⟩,
            ⟨(some 68), false, .mv (.loc 67), none⟩,
            ⟨(some 69), false, .mv (.env 5), some ((.loc 68), true)⟩,
            ⟨(some 70), false, .callv (.loc 69) [(.val (.tr (.sc (.int .i64 1))))], some ((.loc 68), true)⟩,
            ⟨(some 71), false, .pick (.loc 68) (.loc 70) (.val (.tr (.sc (.bool false)))), none⟩,
            ⟨(some 4), true, .mv (.loc 71), none⟩]
@[simp] def r34_16 : List HOp := [⟨(some 73), false, .bin .other .eql (.env 10) (.val (.tr (.sc (.int .i64 7)))), none⟩,
            ⟨(some 72), false, .mv (.loc 73), none⟩]
@[simp] def r34_17 : List HOp := [⟨(some 74), false, .load 7 true (.env 2), none⟩,
             ⟨(some 75), false, .callf 31 [(.loc 74), (.val (.tr (.sc (.bool false)))), (.val (.tr (.sc (.bool false)))), (.val (.tr (.sc (.bool true)))), (.val (.tr (.sc (.bool false)))), (.val (.tr (.sc (.bool false))))], none⟩,
             ⟨(some 76), false, .mv (.loc 75), none⟩,
             ⟨(some 77), false, .mv (.env 5), some ((.loc 76), true)⟩,
             ⟨(some 78), false, .callv (.loc 77) [(.val (.tr (.sc (.int .i64 2))))], some ((.loc 76), true)⟩,
             ⟨(some 79), false, .pick (.loc 76) (.loc 78) (.val (.tr (.sc (.bool false)))), none⟩,
             ⟨(some 4), true, .mv (.loc 79), none⟩]
@[simp] def r34_18 : List HOp := [⟨(some 81), false, .bin .other .eql (.env 10) (.val (.tr (.sc (.int .i64 8)))), none⟩,
             ⟨(some 80), false, .mv (.loc 81), none⟩]
@[simp] def r34_19 : List HOp := [⟨(some 82), false, .load 7 true (.env 2), none⟩,
              ⟨(some 83), false, .load 1 false (.env 3), none⟩,
              ⟨(some 84), false, .bin .other .add (.loc 83) (.val (.tr (.sc (.int .i64 1)))), none⟩,
              ⟨(some 85), false, .callf 53 [(.loc 82), (.loc 84)], none⟩,
              ⟨(some 4), true, .mv (.loc 85), none⟩]
@[simp] def r34_20 : List HOp := [⟨(some 87), false, .bin .other .eql (.env 10) (.val (.tr (.sc (.int .i64 9)))), none⟩,
              ⟨(some 86), false, .mv (.loc 87), none⟩]
@[simp] def r34_21 : List HOp := [⟨(some 88), false, .load 7 true (.env 2), none⟩,
               ⟨(some 89), false, .load 1 false (.env 3), none⟩,
               ⟨(some 90), false, .bin .other .add (.loc 89) (.val (.tr (.sc (.int .i64 1)))), none⟩,
               ⟨(some 91), false, .callf 54 [(.loc 88), (.loc 90)], none⟩,
               ⟨(some 4), true, .mv (.loc 91), none⟩]
@[simp] def r34_22 : List HOp := [⟨(some 93), false, .bin .other .eql (.env 10) (.val (.tr (.sc (.int .i64 10)))), none⟩,
               ⟨(some 92), false, .mv (.loc 93), none⟩]
@[simp] def r34_23 : List HOp := [⟨(some 94), false, .load 7 true (.env 2), none⟩,
                ⟨(some 95), false, .load 1 false (.env 3), none⟩,
                ⟨(some 96), false, .bin .other .add (.loc 95) (.val (.tr (.sc (.int .i64 1)))), none⟩,
                ⟨(some 97), false, .callf 55 [(.loc 94), (.loc 96)], none⟩,
                ⟨(some 4), true, .mv (.loc 97), none⟩]
@[simp] def r34_24 : List HOp := [⟨(some 4), true, .mv (.val (.tr (.sc (.bool false)))), none⟩]
@[simp] def k34_2 : HCode := .seq (.region r34_2 none) .ret
@[simp] def k34_1 : HCode := .cond (.loc 7) k34_2 .skip
@[simp] def k34_7 : HCode := .seq (.region r34_6 none) .ret
@[simp] def k34_10 : HCode := .seq (.region r34_8 none) .ret
@[simp] def k34_13 : HCode := .seq (.region r34_10 none) .ret
@[simp] def k34_16 : HCode := .seq (.region r34_12 none) .ret
@[simp] def k34_18 : HCode := .cond (.env 63) .skip (.region r34_14 none)
@[simp] def k34_20 : HCode := .seq (.region r34_15 none) .ret
@[simp] def k34_23 : HCode := .seq (.region r34_17 none) .ret
@[simp] def k34_26 : HCode := .seq (.region r34_19 none) .ret
@[simp] def k34_29 : HCode := .seq (.region r34_21 none) .ret
@[simp] def k34_32 : HCode := .seq (.region r34_23 none) .ret
@[simp] def k34_31 : HCode := .cond (.loc 92) k34_32 .skip
@[simp] def k34_30 : HCode := .seq (.region r34_22 none) k34_31
@[simp] def k34_28 : HCode := .cond (.loc 86) k34_29 k34_30
@[simp] def k34_27 : HCode := .seq (.region r34_20 none) k34_28
@[simp] def k34_25 : HCode := .cond (.loc 80) k34_26 k34_27
@[simp] def k34_24 : HCode := .seq (.region r34_18 none) k34_25
@[simp] def k34_22 : HCode := .cond (.loc 72) k34_23 k34_24
@[simp] def k34_21 : HCode := .seq (.region r34_16 none) k34_22
def k34_19 : HCode := .cond (.env 63) k34_20 k34_21
@[simp] def k34_17 : HCode := .seq (.seq (.region r34_13 none) k34_18) k34_19
@[simp] def k34_15 : HCode := .cond (.loc 45) k34_16 k34_17
@[simp] def k34_14 : HCode := .seq (.region r34_11 none) k34_15
@[simp] def k34_12 : HCode := .cond (.loc 36) k34_13 k34_14
@[simp] def k34_11 : HCode := .seq (.region r34_9 none) k34_12
@[simp] def k34_9 : HCode := .cond (.loc 20) k34_10 k34_11
@[simp] def k34_8 : HCode := .seq (.region r34_7 none) k34_9
@[simp] def k34_6 : HCode := .cond (.loc 11) k34_7 k34_8
@[simp] def k34_5 : HCode := .block 0 (.seq (.region r34_5 none) k34_6)
def k34_33 : HCode := .seq (.region r34_24 none) .ret
@[simp] def k34_4 : HCode := .seq (.seq (.region r34_4 none) k34_5) k34_33
def k34_3 : HCode := .seq (.region r34_3 none) k34_4
@[simp] def k34_0 : HCode := .seq (.seq (.region r34_1 none) k34_1) k34_3
@[simp] def fn34 : HFn := { nargs := 2, results := [.tmp 4], mode := .iso, code := (.seq (.region r34_0 none) k34_0) }
theorem c34 : cFn Tryz.prog (Hs 34) .iso 34 = some fn34 := by kernel_rfl
/- sterling/types.may$1 -/
@[simp] def r50_0 : List HOp := [⟨(some 4), true, .mv (.val (.tr (.sc (.bool false)))), none⟩]
@[simp] def r50_1 : List HOp := [⟨(some 5), false, .faddr 3 (.env 1), none⟩,
     ⟨(some 6), false, .load 1 false (.loc 5), none⟩,
     ⟨(some 7), false, .len 1 (.loc 6), none⟩,
     ⟨(some 8), false, .mv (.env 0), none⟩,
     ⟨(some 9), false, .bin .other .eql (.loc 7) (.loc 8), none⟩,
     ⟨(some 10), false, .mv (.loc 9), none⟩,
     ⟨(some 11), false, .faddr 3 (.env 1), some ((.loc 10), true)⟩,
     ⟨(some 12), false, .load 1 false (.loc 11), some ((.loc 10), true)⟩,
     ⟨(some 13), false, .load 1 false (.env 2), some ((.loc 10), true)⟩,
     ⟨(some 14), false, .bin .other .add (.loc 13) (.val (.tr (.sc (.int .i64 1)))), some ((.loc 10), true)⟩,
     ⟨(some 15), false, .callf 51 [(.loc 12), (.loc 14)], some ((.loc 10), true)⟩,
     ⟨(some 16), false, .pick (.loc 10) (.loc 15) (.val (.tr (.sc (.bool false)))), none⟩,
     ⟨(some 4), true, .mv (.loc 16), none⟩]
@[simp] def k50_0 : HCode := .seq (.region r50_1 none) .ret
@[simp] def fn50 : HFn := { nargs := 3, results := [.tmp 4], mode := .shared, code := (.seq (.region r50_0 none) k50_0) }
theorem c50 : cFn Tryz.prog (Hs 50) .shared 50 = some fn50 := by kernel_rfl
/- sterling/types.all -/
@[simp] def r51_0 : List HOp := [⟨(some 4), true, .mv (.val (.tr (.sc (.bool false)))), none⟩]
@[simp] def r51_1 : List HOp := [⟨(some 7), true, .mv (.env 0), none⟩,
      ⟨(some 8), true, .len 1 (.env 7), none⟩,
      ⟨(some 9), true, .mv (.val (.tr (.sc (.int .i64 0)))), none⟩]
@[simp] def r51_2 : List HOp := [⟨(some 10), false, .bin .other .lss (.env 9) (.env 8), none⟩]
@[simp] def r51_3 : List HOp := [⟨(some 11), false, .iaddr 7 (.env 7) (.env 9), none⟩,
          ⟨(some 12), false, .load 7 true (.loc 11), none⟩,
          ⟨(some 6), true, .alloc [(.sc (.int .i64 0)), (.sc (.string ⟨⟨[]⟩⟩)), (.sc (.int .i64 0)), (.sc (.slice none 0 0)), (.sc (.slice none 0 0)), (.sc (.slice none 0 0)), (.sc (.slice none 0 0))], none⟩,
          ⟨none, false, .store 7 (.env 6) (.loc 12), none⟩]
@[simp] def r51_4 : List HOp := [⟨(some 13), false, .load 7 true (.env 6), none⟩,
          ⟨(some 14), false, .mv (.env 1), none⟩,
          ⟨(some 15), false, .callf 34 [(.loc 13), (.loc 14)], none⟩,
          ⟨(some 16), false, .un .not (.loc 15), none⟩]
@[simp] def r51_5 : List HOp := [⟨(some 4), true, .mv (.val (.tr (.sc (.bool false)))), none⟩]
@[simp] def r51_6 : List HOp := [⟨(some 17), false, .bin .other .add (.env 9) (.val (.tr (.sc (.int .i64 1)))), none⟩,
       ⟨(some 9), true, .mv (.loc 17), none⟩]
@[simp] def r51_7 : List HOp := [⟨(some 4), true, .mv (.val (.tr (.sc (.bool true)))), none⟩]
@[simp] def k51_7 : HCode := .seq (.region r51_5 none) .ret
@[simp] def k51_6 : HCode := .cond (.loc 16) k51_7 .skip
@[simp] def k51_5 : HCode := .seq (.region r51_4 none) k51_6
def k51_8 : HCode := .region r51_6 none
def k51_4 : HCode := .seq (.block 1 (.seq (.region r51_3 none) k51_5)) k51_8
@[simp] def k51_3 : HCode := .seq (.cond (.loc 10) .skip (.exit 0)) k51_4
def k51_2 : HCode := .seq (.region r51_2 none) k51_3
@[simp] def k51_1 : HCode := .block 0 (.loop k51_2)
def k51_9 : HCode := .seq (.region r51_7 none) .ret
@[simp] def k51_0 : HCode := .seq (.seq (.region r51_1 none) k51_1) k51_9
@[simp] def fn51 : HFn := { nargs := 2, results := [.tmp 4], mode := .iso, code := (.seq (.region r51_0 none) k51_0) }
theorem c51 : cFn Tryz.prog (Hs 51) .iso 51 = some fn51 := by kernel_rfl
/- sterling/types.declared -/
@[simp] def r52_0 : List HOp := [⟨(some 2), true, .mv (.val (.tr (.sc (.bool false)))), none⟩]
@[simp] def r52_1 : List HOp := [⟨(some 7), false, .mv (.env 0), none⟩,
      ⟨(some 8), false, .bin .other .eql (.loc 7) (.val (.tr (.sc (.string ⟨⟨[101, 114, 114, 111, 114]⟩⟩)))), none⟩,
      ⟨(some 9), false, .mv (.loc 8), none⟩,
      ⟨(some 10), false, .mv (.env 0), some ((.loc 9), false)⟩,
      ⟨(some 11), false, .bin .other .eql (.loc 10) (.val (.tr (.sc (.string ⟨⟨[99, 111, 109, 112, 97, 114, 97, 98, 108, 101]⟩⟩)))), some ((.loc 9), false)⟩,
      ⟨(some 12), false, .pick (.loc 9) (.val (.tr (.sc (.bool true)))) (.loc 11), none⟩]
@[simp] def r52_2 : List HOp := [⟨(some 2), true, .mv (.val (.tr (.sc (.bool true)))), none⟩]
@[simp] def r52_3 : List HOp := [⟨(some 13), false, .mv (.env 0), none⟩,
     ⟨(some 14), false, .callf 76 [(.loc 13), (.val (.tr (.sc (.int .u8 46))))], none⟩,
     ⟨(some 3), true, .mv (.loc 14), none⟩]
@[simp] def r52_4 : List HOp := [⟨(some 15), false, .mv (.env 3), none⟩,
      ⟨(some 16), false, .bin .other .lss (.loc 15) (.val (.tr (.sc (.int .i64 0)))), none⟩,
      ⟨(some 17), false, .mv (.loc 16), none⟩,
      ⟨(some 18), false, .mv (.env 0), some ((.loc 17), false)⟩,
      ⟨(some 19), false, .mv (.env 3), some ((.loc 17), false)⟩,
      ⟨(some 20), false, .bin .other .add (.loc 19) (.val (.tr (.sc (.int .i64 1)))), some ((.loc 17), false)⟩,
      ⟨(some 21), false, .slicestr (.loc 18) (some (.loc 20)) none, some ((.loc 17), false)⟩,
      ⟨(some 22), false, .callf 41 [(.loc 21)], some ((.loc 17), false)⟩,
      ⟨(some 23), false, .un .not (.loc 22), some ((.loc 17), false)⟩,
      ⟨(some 24), false, .pick (.loc 17) (.val (.tr (.sc (.bool true)))) (.loc 23), none⟩]
@[simp] def r52_5 : List HOp := [⟨(some 2), true, .mv (.val (.tr (.sc (.bool false)))), none⟩]
@[simp] def r52_6 : List HOp := [⟨(some 26), false, .mv (.env 0), none⟩,
     ⟨(some 27), false, .mv (.env 3), none⟩,
     ⟨(some 28), false, .slicestr (.loc 26) none (some (.loc 27)), none⟩,
     ⟨(some 29), false, .callf 77 [(.loc 28), (.val (.tr (.sc (.string ⟨⟨[126]⟩⟩))))], none⟩,
     ⟨(some 25), false, .mv (.loc 29), none⟩,
     ⟨(some 30), false, .extract (.loc 25) 0, none⟩,
     ⟨(some 31), false, .extract (.loc 25) 1, none⟩,
     ⟨(some 32), false, .extract (.loc 25) 2, none⟩,
     ⟨(some 4), true, .mv (.loc 30), none⟩,
     ⟨(some 5), true, .mv (.loc 31), none⟩,
     ⟨(some 6), true, .mv (.loc 32), none⟩]
@[simp] def r52_7 : List HOp := [⟨(some 33), false, .mv (.env 4), none⟩,
     ⟨(some 34), false, .callf 78 [(.loc 33)], none⟩,
     ⟨(some 35), false, .mv (.loc 34), none⟩,
     ⟨(some 36), false, .mv (.env 6), some ((.loc 35), true)⟩,
     ⟨(some 37), false, .un .not (.loc 36), some ((.loc 35), true)⟩,
     ⟨(some 38), false, .mv (.loc 37), some ((.loc 35), true)⟩,
     ⟨(some 39), false, .mv (.env 5), some ((.loc 38), false)⟩,
     ⟨(some 40), false, .callf 79 [(.loc 39)], some ((.loc 38), false)⟩,
     ⟨(some 41), false, .pick (.loc 38) (.val (.tr (.sc (.bool true)))) (.loc 40), some ((.loc 35), true)⟩,
     ⟨(some 42), false, .pick (.loc 35) (.loc 41) (.val (.tr (.sc (.bool false)))), none⟩,
     ⟨(some 2), true, .mv (.loc 42), none⟩]
@[simp] def k52_2 : HCode := .seq (.region r52_2 none) .ret
@[simp] def k52_1 : HCode := .cond (.loc 12) k52_2 .skip
@[simp] def k52_6 : HCode := .seq (.region r52_5 none) .ret
@[simp] def k52_5 : HCode := .cond (.loc 24) k52_6 .skip
@[simp] def k52_8 : HCode := .seq (.region r52_7 none) .ret
def k52_7 : HCode := .seq (.region r52_6 none) k52_8
@[simp] def k52_4 : HCode := .seq (.seq (.region r52_4 none) k52_5) k52_7
def k52_3 : HCode := .seq (.region r52_3 none) k52_4
@[simp] def k52_0 : HCode := .seq (.seq (.region r52_1 none) k52_1) k52_3
@[simp] def fn52 : HFn := { nargs := 1, results := [.tmp 2], mode := .iso, code := (.seq (.region r52_0 none) k52_0) }
theorem c52 : cFn Tryz.prog (Hs 52) .iso 52 = some fn52 := by kernel_rfl
/- sterling/types.Word -/
@[simp] def r41_0 : List HOp := [⟨(some 2), true, .mv (.val (.tr (.sc (.bool false)))), none⟩]
@[simp] def r41_1 : List HOp := [⟨(some 4), false, .mv (.env 0), none⟩,
      ⟨(some 5), true, .len 0 (.loc 4), none⟩,
      ⟨(some 6), true, .mv (.val (.tr (.sc (.int .i64 0)))), none⟩]
@[simp] def r41_2 : List HOp := [⟨(some 7), false, .bin .other .lss (.env 6) (.env 5), none⟩]
@[simp] def r41_3 : List HOp := [⟨(some 8), false, .mv (.env 6), none⟩,
          ⟨(some 3), true, .mv (.loc 8), none⟩]
@[simp] def r41_4 : List HOp := [⟨(some 9), false, .mv (.env 0), none⟩,
          ⟨(some 10), false, .mv (.env 3), none⟩,
          ⟨(some 11), false, .istr (.loc 9) (.loc 10), none⟩,
          ⟨(some 12), false, .callf 72 [(.loc 11)], none⟩,
          ⟨(some 13), false, .un .not (.loc 12), none⟩,
          ⟨(some 14), false, .mv (.loc 13), none⟩,
          ⟨(some 15), false, .mv (.env 3), some ((.loc 14), true)⟩,
          ⟨(some 16), false, .bin .other .eql (.loc 15) (.val (.tr (.sc (.int .i64 0)))), some ((.loc 14), true)⟩,
          ⟨(some 17), false, .mv (.loc 16), some ((.loc 14), true)⟩,
          ⟨(some 18), false, .mv (.env 0), some ((.loc 17), false)⟩,
          ⟨(some 19), false, .mv (.env 3), some ((.loc 17), false)⟩,
          ⟨(some 20), false, .istr (.loc 18) (.loc 19), some ((.loc 17), false)⟩,
          ⟨(some 21), false, .bin .other .lss (.loc 20) (.val (.tr (.sc (.int .u8 48)))), some ((.loc 17), false)⟩,
          ⟨(some 22), false, .pick (.loc 17) (.val (.tr (.sc (.bool true)))) (.loc 21), some ((.loc 14), true)⟩,
          ⟨(some 23), false, .mv (.loc 22), some ((.loc 14), true)⟩,
          ⟨(some 24), false, .mv (.env 0), some ((.loc 23), false)⟩,
          ⟨(some 25), false, .mv (.env 3), some ((.loc 23), false)⟩,
          ⟨(some 26), false, .istr (.loc 24) (.loc 25), some ((.loc 23), false)⟩,
          ⟨(some 27), false, .bin .other .gtr (.loc 26) (.val (.tr (.sc (.int .u8 57)))), some ((.loc 23), false)⟩,
          ⟨(some 28), false, .pick (.loc 23) (.val (.tr (.sc (.bool true)))) (.loc 27), some ((.loc 14), true)⟩,
          ⟨(some 29), false, .pick (.loc 14) (.loc 28) (.val (.tr (.sc (.bool false)))), none⟩]
@[simp] def r41_5 : List HOp := [⟨(some 2), true, .mv (.val (.tr (.sc (.bool false)))), none⟩]
@[simp] def r41_6 : List HOp := [⟨(some 30), false, .bin .other .add (.env 6) (.val (.tr (.sc (.int .i64 1)))), none⟩,
       ⟨(some 6), true, .mv (.loc 30), none⟩]
@[simp] def r41_7 : List HOp := [⟨(some 31), false, .mv (.env 0), none⟩,
     ⟨(some 32), false, .bin .other .neq (.loc 31) (.val (.tr (.sc (.string ⟨⟨[]⟩⟩)))), none⟩,
     ⟨(some 2), true, .mv (.loc 32), none⟩]
@[simp] def k41_7 : HCode := .seq (.region r41_5 none) .ret
@[simp] def k41_6 : HCode := .cond (.loc 29) k41_7 .skip
@[simp] def k41_5 : HCode := .seq (.region r41_4 none) k41_6
def k41_8 : HCode := .region r41_6 none
def k41_4 : HCode := .seq (.block 1 (.seq (.region r41_3 none) k41_5)) k41_8
@[simp] def k41_3 : HCode := .seq (.cond (.loc 7) .skip (.exit 0)) k41_4
def k41_2 : HCode := .seq (.region r41_2 none) k41_3
@[simp] def k41_1 : HCode := .block 0 (.loop k41_2)
def k41_9 : HCode := .seq (.region r41_7 none) .ret
@[simp] def k41_0 : HCode := .seq (.seq (.region r41_1 none) k41_1) k41_9
@[simp] def fn41 : HFn := { nargs := 1, results := [.tmp 2], mode := .iso, code := (.seq (.region r41_0 none) k41_0) }
theorem c41 : cFn Tryz.prog (Hs 41) .iso 41 = some fn41 := by kernel_rfl
/- sterling/types.letter -/
@[simp] def r72_0 : List HOp := [⟨(some 2), true, .mv (.val (.tr (.sc (.bool false)))), none⟩]
@[simp] def r72_1 : List HOp := [⟨(some 3), false, .mv (.env 0), none⟩,
     ⟨(some 4), false, .bin .other .or (.loc 3) (.val (.tr (.sc (.int .u8 32)))), none⟩,
     ⟨(some 5), false, .bin .other .geq (.loc 4) (.val (.tr (.sc (.int .u8 97)))), none⟩,
     ⟨(some 6), false, .mv (.loc 5), none⟩,
     ⟨(some 7), false, .mv (.env 0), some ((.loc 6), true)⟩,
     ⟨(some 8), false, .bin .other .or (.loc 7) (.val (.tr (.sc (.int .u8 32)))), some ((.loc 6), true)⟩,
     ⟨(some 9), false, .bin .other .leq (.loc 8) (.val (.tr (.sc (.int .u8 122)))), some ((.loc 6), true)⟩,
     ⟨(some 10), false, .pick (.loc 6) (.loc 9) (.val (.tr (.sc (.bool false)))), none⟩,
     ⟨(some 11), false, .mv (.loc 10), none⟩,
     ⟨(some 12), false, .mv (.env 0), some ((.loc 11), false)⟩,
     ⟨(some 13), false, .bin .other .eql (.loc 12) (.val (.tr (.sc (.int .u8 95)))), some ((.loc 11), false)⟩,
     ⟨(some 14), false, .pick (.loc 11) (.val (.tr (.sc (.bool true)))) (.loc 13), none⟩,
     ⟨(some 2), true, .mv (.loc 14), none⟩]
@[simp] def k72_0 : HCode := .seq (.region r72_1 none) .ret
@[simp] def fn72 : HFn := { nargs := 1, results := [.tmp 2], mode := .iso, code := (.seq (.region r72_0 none) k72_0) }
theorem c72 : cFn Tryz.prog (Hs 72) .iso 72 = some fn72 := by kernel_rfl
/- sterling/types.path -/
@[simp] def r78_0 : List HOp := [⟨(some 2), true, .mv (.val (.tr (.sc (.bool false)))), none⟩]
@[simp] def r78_1 : List HOp := [⟨(some 5), false, .mv (.env 0), none⟩,
      ⟨(some 6), false, .bin .other .eql (.loc 5) (.val (.tr (.sc (.string ⟨⟨[]⟩⟩)))), none⟩,
      ⟨(some 7), false, .mv (.loc 6), none⟩,
      ⟨(some 8), false, .mv (.env 0), some ((.loc 7), false)⟩,
      ⟨(some 9), false, .len 0 (.loc 8), some ((.loc 7), false)⟩,
      ⟨(some 10), false, .bin .other .gtr (.loc 9) (.val (.tr (.sc (.int .i64 100)))), some ((.loc 7), false)⟩,
      ⟨(some 11), false, .pick (.loc 7) (.val (.tr (.sc (.bool true)))) (.loc 10), none⟩,
      ⟨(some 12), false, .mv (.loc 11), none⟩,
      ⟨(some 13), false, .mv (.env 0), some ((.loc 12), false)⟩,
      ⟨(some 14), false, .istr (.loc 13) (.val (.tr (.sc (.int .i64 0)))), some ((.loc 12), false)⟩,
      ⟨(some 15), false, .bin .other .eql (.loc 14) (.val (.tr (.sc (.int .u8 47)))), some ((.loc 12), false)⟩,
      ⟨(some 16), false, .pick (.loc 12) (.val (.tr (.sc (.bool true)))) (.loc 15), none⟩,
      ⟨(some 17), false, .mv (.loc 16), none⟩,
      ⟨(some 18), false, .mv (.env 0), some ((.loc 17), false)⟩,
      ⟨(some 19), false, .mv (.env 0), some ((.loc 17), false)⟩,
      ⟨(some 20), false, .len 0 (.loc 19), some ((.loc 17), false)⟩,
      ⟨(some 21), false, .bin .other .sub (.loc 20) (.val (.tr (.sc (.int .i64 1)))), some ((.loc 17), false)⟩,
      ⟨(some 22), false, .istr (.loc 18) (.loc 21), some ((.loc 17), false)⟩,
      ⟨(some 23), false, .bin .other .eql (.loc 22) (.val (.tr (.sc (.int .u8 47)))), some ((.loc 17), false)⟩,
      ⟨(some 24), false, .pick (.loc 17) (.val (.tr (.sc (.bool true)))) (.loc 23), none⟩]
@[simp] def r78_2 : List HOp := [⟨(some 2), true, .mv (.val (.tr (.sc (.bool false)))), none⟩]
@[simp] def r78_3 : List HOp := [⟨(some 25), false, .mv (.env 0), none⟩,
      ⟨(some 26), true, .len 0 (.loc 25), none⟩,
      ⟨(some 27), true, .mv (.val (.tr (.sc (.int .i64 0)))), none⟩]
@[simp] def r78_4 : List HOp := [⟨(some 28), false, .bin .other .lss (.env 27) (.env 26), none⟩]
@[simp] def r78_5 : List HOp := [⟨(some 29), false, .mv (.env 27), none⟩,
          ⟨(some 3), true, .mv (.loc 29), none⟩]
@[simp] def r78_6 : List HOp := [⟨(some 30), false, .mv (.env 0), none⟩,
          ⟨(some 31), false, .mv (.env 3), none⟩,
          ⟨(some 32), false, .istr (.loc 30) (.loc 31), none⟩,
          ⟨(some 4), true, .mv (.loc 32), none⟩]
@[simp] def r78_7 : List HOp := [⟨(some 33), false, .mv (.env 4), none⟩,
          ⟨(some 34), false, .callf 72 [(.loc 33)], none⟩,
          ⟨(some 35), false, .un .not (.loc 34), none⟩,
          ⟨(some 36), false, .mv (.loc 35), none⟩,
          ⟨(some 37), false, .mv (.env 4), some ((.loc 36), true)⟩,
          ⟨(some 38), false, .bin .other .lss (.loc 37) (.val (.tr (.sc (.int .u8 48)))), some ((.loc 36), true)⟩,
          ⟨(some 39), false, .mv (.loc 38), some ((.loc 36), true)⟩,
          ⟨(some 40), false, .mv (.env 4), some ((.loc 39), false)⟩,
          ⟨(some 41), false, .bin .other .gtr (.loc 40) (.val (.tr (.sc (.int .u8 57)))), some ((.loc 39), false)⟩,
          ⟨(some 42), false, .pick (.loc 39) (.val (.tr (.sc (.bool true)))) (.loc 41), some ((.loc 36), true)⟩,
          ⟨(some 43), false, .pick (.loc 36) (.loc 42) (.val (.tr (.sc (.bool false)))), none⟩,
          ⟨(some 44), false, .mv (.loc 43), none⟩,
          ⟨(some 45), false, .mv (.env 4), some ((.loc 44), true)⟩,
          ⟨(some 46), false, .bin .other .neq (.loc 45) (.val (.tr (.sc (.int .u8 47)))), some ((.loc 44), true)⟩,
          ⟨(some 47), false, .pick (.loc 44) (.loc 46) (.val (.tr (.sc (.bool false)))), none⟩,
          ⟨(some 48), false, .mv (.loc 47), none⟩,
          ⟨(some 49), false, .mv (.env 4), some ((.loc 48), true)⟩,
          ⟨(some 50), false, .bin .other .neq (.loc 49) (.val (.tr (.sc (.int .u8 46)))), some ((.loc 48), true)⟩,
          ⟨(some 51), false, .pick (.loc 48) (.loc 50) (.val (.tr (.sc (.bool false)))), none⟩,
          ⟨(some 52), false, .mv (.loc 51), none⟩,
          ⟨(some 53), false, .mv (.env 4), some ((.loc 52), true)⟩,
          ⟨(some 54), false, .bin .other .neq (.loc 53) (.val (.tr (.sc (.int .u8 45)))), some ((.loc 52), true)⟩,
          ⟨(some 55), false, .pick (.loc 52) (.loc 54) (.val (.tr (.sc (.bool false)))), none⟩]
@[simp] def r78_8 : List HOp := [⟨(some 2), true, .mv (.val (.tr (.sc (.bool false)))), none⟩]
@[simp] def r78_9 : List HOp := [⟨(some 56), false, .bin .other .add (.env 27) (.val (.tr (.sc (.int .i64 1)))), none⟩,
       ⟨(some 27), true, .mv (.loc 56), none⟩]
@[simp] def r78_10 : List HOp := [⟨(some 2), true, .mv (.val (.tr (.sc (.bool true)))), none⟩]
@[simp] def k78_2 : HCode := .seq (.region r78_2 none) .ret
@[simp] def k78_1 : HCode := .cond (.loc 24) k78_2 .skip
@[simp] def k78_11 : HCode := .seq (.region r78_8 none) .ret
@[simp] def k78_10 : HCode := .cond (.loc 55) k78_11 .skip
@[simp] def k78_9 : HCode := .seq (.region r78_7 none) k78_10
@[simp] def k78_8 : HCode := .seq (.region r78_6 none) k78_9
def k78_12 : HCode := .region r78_9 none
def k78_7 : HCode := .seq (.block 1 (.seq (.region r78_5 none) k78_8)) k78_12
@[simp] def k78_6 : HCode := .seq (.cond (.loc 28) .skip (.exit 0)) k78_7
def k78_5 : HCode := .seq (.region r78_4 none) k78_6
@[simp] def k78_4 : HCode := .block 0 (.loop k78_5)
def k78_13 : HCode := .seq (.region r78_10 none) .ret
def k78_3 : HCode := .seq (.seq (.region r78_3 none) k78_4) k78_13
@[simp] def k78_0 : HCode := .seq (.seq (.region r78_1 none) k78_1) k78_3
@[simp] def fn78 : HFn := { nargs := 1, results := [.tmp 2], mode := .iso, code := (.seq (.region r78_0 none) k78_0) }
theorem c78 : cFn Tryz.prog (Hs 78) .iso 78 = some fn78 := by kernel_rfl
/- sterling/types.number -/
@[simp] def r79_0 : List HOp := [⟨(some 2), true, .mv (.val (.tr (.sc (.bool false)))), none⟩]
@[simp] def r79_1 : List HOp := [⟨(some 4), false, .mv (.env 0), none⟩,
      ⟨(some 5), true, .len 0 (.loc 4), none⟩,
      ⟨(some 6), true, .mv (.val (.tr (.sc (.int .i64 0)))), none⟩]
@[simp] def r79_2 : List HOp := [⟨(some 7), false, .bin .other .lss (.env 6) (.env 5), none⟩]
@[simp] def r79_3 : List HOp := [⟨(some 8), false, .mv (.env 6), none⟩,
          ⟨(some 3), true, .mv (.loc 8), none⟩]
@[simp] def r79_4 : List HOp := [⟨(some 9), false, .mv (.env 0), none⟩,
          ⟨(some 10), false, .mv (.env 3), none⟩,
          ⟨(some 11), false, .istr (.loc 9) (.loc 10), none⟩,
          ⟨(some 12), false, .bin .other .lss (.loc 11) (.val (.tr (.sc (.int .u8 48)))), none⟩,
          ⟨(some 13), false, .mv (.loc 12), none⟩,
          ⟨(some 14), false, .mv (.env 0), some ((.loc 13), false)⟩,
          ⟨(some 15), false, .mv (.env 3), some ((.loc 13), false)⟩,
          ⟨(some 16), false, .istr (.loc 14) (.loc 15), some ((.loc 13), false)⟩,
          ⟨(some 17), false, .bin .other .gtr (.loc 16) (.val (.tr (.sc (.int .u8 57)))), some ((.loc 13), false)⟩,
          ⟨(some 18), false, .pick (.loc 13) (.val (.tr (.sc (.bool true)))) (.loc 17), none⟩]
@[simp] def r79_5 : List HOp := [⟨(some 2), true, .mv (.val (.tr (.sc (.bool false)))), none⟩]
@[simp] def r79_6 : List HOp := [⟨(some 19), false, .bin .other .add (.env 6) (.val (.tr (.sc (.int .i64 1)))), none⟩,
       ⟨(some 6), true, .mv (.loc 19), none⟩]
@[simp] def r79_7 : List HOp := [⟨(some 20), false, .mv (.env 0), none⟩,
     ⟨(some 21), false, .bin .other .neq (.loc 20) (.val (.tr (.sc (.string ⟨⟨[]⟩⟩)))), none⟩,
     ⟨(some 22), false, .mv (.loc 21), none⟩,
     ⟨(some 23), false, .mv (.env 0), some ((.loc 22), true)⟩,
     ⟨(some 24), false, .bin .other .eql (.loc 23) (.val (.tr (.sc (.string ⟨⟨[48]⟩⟩)))), some ((.loc 22), true)⟩,
     ⟨(some 25), false, .mv (.loc 24), some ((.loc 22), true)⟩,
     ⟨(some 26), false, .mv (.env 0), some ((.loc 25), false)⟩,
     ⟨(some 27), false, .istr (.loc 26) (.val (.tr (.sc (.int .i64 0)))), some ((.loc 25), false)⟩,
     ⟨(some 28), false, .bin .other .neq (.loc 27) (.val (.tr (.sc (.int .u8 48)))), some ((.loc 25), false)⟩,
     ⟨(some 29), false, .pick (.loc 25) (.val (.tr (.sc (.bool true)))) (.loc 28), some ((.loc 22), true)⟩,
     ⟨(some 30), false, .pick (.loc 22) (.loc 29) (.val (.tr (.sc (.bool false)))), none⟩,
     ⟨(some 2), true, .mv (.loc 30), none⟩]
@[simp] def k79_7 : HCode := .seq (.region r79_5 none) .ret
@[simp] def k79_6 : HCode := .cond (.loc 18) k79_7 .skip
@[simp] def k79_5 : HCode := .seq (.region r79_4 none) k79_6
def k79_8 : HCode := .region r79_6 none
def k79_4 : HCode := .seq (.block 1 (.seq (.region r79_3 none) k79_5)) k79_8
@[simp] def k79_3 : HCode := .seq (.cond (.loc 7) .skip (.exit 0)) k79_4
def k79_2 : HCode := .seq (.region r79_2 none) k79_3
@[simp] def k79_1 : HCode := .block 0 (.loop k79_2)
def k79_9 : HCode := .seq (.region r79_7 none) .ret
@[simp] def k79_0 : HCode := .seq (.seq (.region r79_1 none) k79_1) k79_9
@[simp] def fn79 : HFn := { nargs := 1, results := [.tmp 2], mode := .iso, code := (.seq (.region r79_0 none) k79_0) }
theorem c79 : cFn Tryz.prog (Hs 79) .iso 79 = some fn79 := by kernel_rfl
/- sterling/types.function -/
@[simp] def r53_0 : List HOp := [⟨(some 2), true, .box false (.env 0), none⟩,
     ⟨(some 4), true, .mv (.val (.tr (.sc (.bool false)))), none⟩]
@[simp] def r53_1 : List HOp := [⟨(some 7), false, .faddr 2 (.env 2), none⟩,
      ⟨(some 8), false, .load 1 false (.loc 7), none⟩,
      ⟨(some 9), false, .bin .other .lss (.loc 8) (.val (.tr (.sc (.int .i64 0)))), none⟩,
      ⟨(some 10), false, .mv (.loc 9), none⟩,
      ⟨(some 11), false, .faddr 3 (.env 2), some ((.loc 10), false)⟩,
      ⟨(some 12), false, .load 1 false (.loc 11), some ((.loc 10), false)⟩,
      ⟨(some 13), false, .len 1 (.loc 12), some ((.loc 10), false)⟩,
      ⟨(some 14), false, .faddr 2 (.env 2), some ((.loc 10), false)⟩,
      ⟨(some 15), false, .load 1 false (.loc 14), some ((.loc 10), false)⟩,
      ⟨(some 16), false, .bin .other .add (.loc 15) (.val (.tr (.sc (.int .i64 1)))), some ((.loc 10), false)⟩,
      ⟨(some 17), false, .bin .other .neq (.loc 13) (.loc 16), some ((.loc 10), false)⟩,
      ⟨(some 18), false, .pick (.loc 10) (.val (.tr (.sc (.bool true)))) (.loc 17), none⟩,
      ⟨(some 19), false, .mv (.loc 18), none⟩,
      ⟨(some 20), false, .load 7 true (.env 2), some ((.loc 19), false)⟩,
      ⟨(some 21), false, .callf 31 [(.loc 20), (.val (.tr (.sc (.bool false)))), (.val (.tr (.sc (.bool true)))), (.val (.tr (.sc (.bool true)))), (.val (.tr (.sc (.bool false)))), (.val (.tr (.sc (.bool false))))], some ((.loc 19), false)⟩,
      ⟨(some 22), false, .un .not (.loc 21), some ((.loc 19), false)⟩,
      ⟨(some 23), false, .pick (.loc 19) (.val (.tr (.sc (.bool true)))) (.loc 22), none⟩]
@[simp] def r53_2 : List HOp := [⟨(some 4), true, .mv (.val (.tr (.sc (.bool false)))), none⟩]
@[simp] def r53_3 : List HOp := [⟨(some 24), false, .faddr 3 (.env 2), none⟩,
     ⟨(some 25), false, .load 1 false (.loc 24), none⟩,
     ⟨(some 26), false, .faddr 2 (.env 2), none⟩,
     ⟨(some 27), false, .load 1 false (.loc 26), none⟩,
     ⟨(some 28), false, .iaddr 7 (.loc 25) (.loc 27), none⟩,
     ⟨(some 29), false, .load 7 true (.loc 28), none⟩,
     ⟨(some 5), true, .alloc [(.sc (.int .i64 0)), (.sc (.string ⟨⟨[]⟩⟩)), (.sc (.int .i64 0)), (.sc (.slice none 0 0)), (.sc (.slice none 0 0)), (.sc (.slice none 0 0)), (.sc (.slice none 0 0))], none⟩,
     ⟨none, false, .store 7 (.env 5) (.loc 29), none⟩]
@[simp] def r53_4 : List HOp := [⟨(some 30), false, .faddr 0 (.env 5), none⟩,
     ⟨(some 31), false, .load 1 false (.loc 30), none⟩,
     ⟨(some 32), false, .bin .other .eql (.loc 31) (.val (.tr (.sc (.int .i64 13)))), none⟩,
     ⟨(some 33), false, .mv (.loc 32), none⟩,
     ⟨(some 34), false, .load 7 true (.env 5), some ((.loc 33), true)⟩,
     ⟨(some 35), false, .callf 31 [(.loc 34), (.val (.tr (.sc (.bool false)))), (.val (.tr (.sc (.bool false)))), (.val (.tr (.sc (.bool false)))), (.val (.tr (.sc (.bool false)))), (.val (.tr (.sc (.bool false))))], some ((.loc 33), true)⟩,
     ⟨(some 36), false, .pick (.loc 33) (.loc 35) (.val (.tr (.sc (.bool false)))), none⟩,
     ⟨(some 37), false, .mv (.loc 36), none⟩,
     ⟨(some 38), false, .mv (.env 1), some ((.loc 37), true)⟩,
     ⟨(some 39), false, .bin .other .leq (.loc 38) (.val (.tr (.sc (.int .i64 200)))), some ((.loc 37), true)⟩,
     ⟨(some 40), false, .pick (.loc 37) (.loc 39) (.val (.tr (.sc (.bool false)))), none⟩,
     ⟨(some 6), true, .mv (.loc 40), none⟩]
@[simp] def r53_5 : List HOp := [⟨(some 41), false, .faddr 3 (.env 2), none⟩,
     ⟨(some 42), false, .load 1 false (.loc 41), none⟩,
     ⟨(some 43), false, .faddr 2 (.env 2), none⟩,
     ⟨(some 44), false, .load 1 false (.loc 43), none⟩,
     ⟨(some 45), false, .slice 7 (.loc 42) none (some (.loc 44)) none, none⟩,
     ⟨(some 46), false, .mv (.env 1), none⟩,
     ⟨(some 47), false, .callf 51 [(.loc 45), (.loc 46)], none⟩,
     ⟨(some 48), false, .mv (.loc 47), none⟩,
     ⟨(some 49), false, .mv (.env 6), some ((.loc 48), true)⟩,
     ⟨(some 50), false, .mv (.loc 49), some ((.loc 48), true)⟩,
     ⟨(some 51), false, .load 7 true (.env 5), some ((.loc 50), false)⟩,
     ⟨(some 52), false, .mv (.env 1), some ((.loc 50), false)⟩,
     ⟨(some 53), false, .callf 34 [(.loc 51), (.loc 52)], some ((.loc 50), false)⟩,
     ⟨(some 54), false, .pick (.loc 50) (.val (.tr (.sc (.bool true)))) (.loc 53), some ((.loc 48), true)⟩,
     ⟨(some 55), false, .pick (.loc 48) (.loc 54) (.val (.tr (.sc (.bool false)))), none⟩,
     ⟨(some 4), true, .mv (.loc 55), none⟩]
@[simp] def k53_2 : HCode := .seq (.region r53_2 none) .ret
@[simp] def k53_1 : HCode := .cond (.loc 23) k53_2 .skip
@[simp] def k53_5 : HCode := .seq (.region r53_5 none) .ret
@[simp] def k53_4 : HCode := .seq (.region r53_4 none) k53_5
def k53_3 : HCode := .seq (.region r53_3 none) k53_4
@[simp] def k53_0 : HCode := .seq (.seq (.region r53_1 none) k53_1) k53_3
@[simp] def fn53 : HFn := { nargs := 2, results := [.tmp 4], mode := .iso, code := (.seq (.region r53_0 none) k53_0) }
theorem c53 : cFn Tryz.prog (Hs 53) .iso 53 = some fn53 := by kernel_rfl
/- sterling/types.fields -/
@[simp] def r54_0 : List HOp := [⟨(some 2), true, .box false (.env 0), none⟩,
     ⟨(some 4), true, .mv (.val (.tr (.sc (.bool false)))), none⟩]
@[simp] def r54_1 : List HOp := [⟨(some 9), false, .load 7 true (.env 2), none⟩,
      ⟨(some 10), false, .callf 31 [(.loc 9), (.val (.tr (.sc (.bool false)))), (.val (.tr (.sc (.bool false)))), (.val (.tr (.sc (.bool true)))), (.val (.tr (.sc (.bool true)))), (.val (.tr (.sc (.bool false))))], none⟩,
      ⟨(some 11), false, .un .not (.loc 10), none⟩,
      ⟨(some 12), false, .mv (.loc 11), none⟩,
      ⟨(some 13), false, .faddr 4 (.env 2), some ((.loc 12), false)⟩,
      ⟨(some 14), false, .load 1 false (.loc 13), some ((.loc 12), false)⟩,
      ⟨(some 15), false, .len 1 (.loc 14), some ((.loc 12), false)⟩,
      ⟨(some 16), false, .faddr 3 (.env 2), some ((.loc 12), false)⟩,
      ⟨(some 17), false, .load 1 false (.loc 16), some ((.loc 12), false)⟩,
      ⟨(some 18), false, .len 1 (.loc 17), some ((.loc 12), false)⟩,
      ⟨(some 19), false, .bin .other .neq (.loc 15) (.loc 18), some ((.loc 12), false)⟩,
      ⟨(some 20), false, .pick (.loc 12) (.val (.tr (.sc (.bool true)))) (.loc 19), none⟩,
      ⟨(some 21), false, .mv (.loc 20), none⟩,
      ⟨(some 22), false, .faddr 5 (.env 2), some ((.loc 21), false)⟩,
      ⟨(some 23), false, .load 1 false (.loc 22), some ((.loc 21), false)⟩,
      ⟨(some 24), false, .len 1 (.loc 23), some ((.loc 21), false)⟩,
      ⟨(some 25), false, .faddr 3 (.env 2), some ((.loc 21), false)⟩,
      ⟨(some 26), false, .load 1 false (.loc 25), some ((.loc 21), false)⟩,
      ⟨(some 27), false, .len 1 (.loc 26), some ((.loc 21), false)⟩,
      ⟨(some 28), false, .bin .other .neq (.loc 24) (.loc 27), some ((.loc 21), false)⟩,
      ⟨(some 29), false, .pick (.loc 21) (.val (.tr (.sc (.bool true)))) (.loc 28), none⟩]
@[simp] def r54_2 : List HOp := [⟨(some 4), true, .mv (.val (.tr (.sc (.bool false)))), none⟩]
@[simp] def r54_3 : List HOp := [⟨(some 30), false, .mkmap, none⟩,
     ⟨(some 5), true, .mv (.loc 30), none⟩]
@[simp] def r54_4 : List HOp := [⟨(some 31), false, .faddr 4 (.env 2), none⟩,
      ⟨(some 32), true, .load 1 false (.loc 31), none⟩,
      ⟨(some 33), true, .len 1 (.env 32), none⟩,
      ⟨(some 34), true, .mv (.val (.tr (.sc (.int .i64 0)))), none⟩]
@[simp] def r54_5 : List HOp := [⟨(some 35), false, .bin .other .lss (.env 34) (.env 33), none⟩]
@[simp] def r54_6 : List HOp := [⟨(some 36), false, .mv (.env 34), none⟩,
          ⟨(some 37), false, .iaddr 1 (.env 32) (.env 34), none⟩,
          ⟨(some 38), false, .load 1 false (.loc 37), none⟩,
          ⟨(some 6), true, .mv (.loc 36), none⟩,
          ⟨(some 7), true, .mv (.loc 38), none⟩]
@[simp] def r54_7 : List HOp := [⟨(some 39), false, .mv (.env 5), none⟩,
           ⟨(some 40), false, .mv (.env 7), none⟩,
           ⟨(some 41), false, .lookup .string (.sc (.int .i64 0)) false (.loc 39) (.loc 40), none⟩,
           ⟨(some 42), false, .bin .other .add (.loc 41) (.val (.tr (.sc (.int .i64 1)))), none⟩,
           ⟨none, false, .mupd .string (.loc 39) (.loc 40) (.loc 42), none⟩]
@[simp] def r54_8 : List HOp := [⟨(some 43), false, .mv (.env 7), none⟩,
           ⟨(some 44), false, .callf 41 [(.loc 43)], none⟩,
           ⟨(some 45), false, .un .not (.loc 44), none⟩,
           ⟨(some 46), false, .mv (.loc 45), none⟩,
           ⟨(some 47), false, .mv (.env 5), some ((.loc 46), false)⟩,
           ⟨(some 48), false, .mv (.env 7), some ((.loc 46), false)⟩,
           ⟨(some 49), false, .lookup .string (.sc (.int .i64 0)) false (.loc 47) (.loc 48), some ((.loc 46), false)⟩,
           ⟨(some 50), false, .bin .other .gtr (.loc 49) (.val (.tr (.sc (.int .i64 1)))), some ((.loc 46), false)⟩,
           ⟨(some 51), false, .mv (.loc 50), some ((.loc 46), false)⟩,
           ⟨(some 52), false, .mv (.env 7), some ((.loc 51), true)⟩,
           ⟨(some 53), false, .bin .other .neq (.loc 52) (.val (.tr (.sc (.string ⟨⟨[95]⟩⟩)))), some ((.loc 51), true)⟩,
           ⟨(some 54), false, .pick (.loc 51) (.loc 53) (.val (.tr (.sc (.bool false)))), some ((.loc 46), false)⟩,
           ⟨(some 55), false, .pick (.loc 46) (.val (.tr (.sc (.bool true)))) (.loc 54), none⟩]
@[simp] def r54_9 : List HOp := [⟨(some 4), true, .mv (.val (.tr (.sc (.bool false)))), none⟩]
@[simp] def r54_10 : List HOp := [⟨(some 56), false, .faddr 3 (.env 2), none⟩,
          ⟨(some 57), false, .load 1 false (.loc 56), none⟩,
          ⟨(some 58), false, .mv (.env 6), none⟩,
          ⟨(some 59), false, .iaddr 7 (.loc 57) (.loc 58), none⟩,
          ⟨(some 60), false, .load 7 true (.loc 59), none⟩,
          ⟨(some 8), true, .alloc [(.sc (.int .i64 0)), (.sc (.string ⟨⟨[]⟩⟩)), (.sc (.int .i64 0)), (.sc (.slice none 0 0)), (.sc (.slice none 0 0)), (.sc (.slice none 0 0)), (.sc (.slice none 0 0))], none⟩,
          ⟨none, false, .store 7 (.env 8) (.loc 60), none⟩]
@[simp] def r54_11 : List HOp := [⟨(some 61), false, .faddr 0 (.env 8), none⟩,
           ⟨(some 62), false, .load 1 false (.loc 61), none⟩,
           ⟨(some 63), false, .bin .other .eql (.loc 62) (.val (.tr (.sc (.int .i64 6)))), none⟩,
           ⟨(some 64), false, .mv (.loc 63), none⟩,
           ⟨(some 65), false, .faddr 3 (.env 8), some ((.loc 64), true)⟩,
           ⟨(some 66), false, .load 1 false (.loc 65), some ((.loc 64), true)⟩,
           ⟨(some 67), false, .len 1 (.loc 66), some ((.loc 64), true)⟩,
           ⟨(some 68), false, .bin .other .eql (.loc 67) (.val (.tr (.sc (.int .i64 1)))), some ((.loc 64), true)⟩,
           ⟨(some 69), false, .pick (.loc 64) (.loc 68) (.val (.tr (.sc (.bool false)))), none⟩]
@[simp] def r54_12 : List HOp := [⟨(some 70), false, .faddr 3 (.env 8), none⟩,
           ⟨(some 71), false, .load 1 false (.loc 70), none⟩,
           ⟨(some 72), false, .iaddr 7 (.loc 71) (.val (.tr (.sc (.int .i64 0)))), none⟩,
           ⟨(some 73), false, .load 7 true (.loc 72), none⟩,
           ⟨none, false, .store 7 (.env 8) (.loc 73), none⟩]
@[simp] def r54_13 : List HOp := [⟨(some 74), false, .faddr 5 (.env 2), none⟩,
          ⟨(some 75), false, .load 1 false (.loc 74), none⟩,
          ⟨(some 76), false, .mv (.env 6), none⟩,
          ⟨(some 77), false, .iaddr 1 (.loc 75) (.loc 76), none⟩,
          ⟨(some 78), false, .load 1 false (.loc 77), none⟩,
          ⟨(some 79), false, .mv (.loc 78), none⟩,
          ⟨(some 80), false, .faddr 0 (.env 8), some ((.loc 79), true)⟩,
          ⟨(some 81), false, .load 1 false (.loc 80), some ((.loc 79), true)⟩,
          ⟨(some 82), false, .bin .other .neq (.loc 81) (.val (.tr (.sc (.int .i64 2)))), some ((.loc 79), true)⟩,
          ⟨(some 83), false, .mv (.loc 82), some ((.loc 79), true)⟩,
          ⟨(some 84), false, .faddr 1 (.env 8), some ((.loc 83), false)⟩,
          ⟨(some 85), false, .load 1 false (.loc 84), some ((.loc 83), false)⟩,
          ⟨(some 86), false, .callf 80 [(.loc 85)], some ((.loc 83), false)⟩,
          ⟨(some 87), false, .mv (.env 7), some ((.loc 83), false)⟩,
          ⟨(some 88), false, .bin .other .neq (.loc 86) (.loc 87), some ((.loc 83), false)⟩,
          ⟨(some 89), false, .pick (.loc 83) (.val (.tr (.sc (.bool true)))) (.loc 88), some ((.loc 79), true)⟩,
          ⟨(some 90), false, .pick (.loc 79) (.loc 89) (.val (.tr (.sc (.bool false)))), none⟩]
@[simp] def r54_14 : List HOp := [⟨(some 4), true, .mv (.val (.tr (.sc (.bool false)))), none⟩]
@[simp] def r54_15 : List HOp := [⟨(some 91), false, .bin .other .add (.env 34) (.val (.tr (.sc (.int .i64 1)))), none⟩,
       ⟨(some 34), true, .mv (.loc 91), none⟩]
@[simp] def r54_16 : List HOp := [⟨(some 92), false, .faddr 3 (.env 2), none⟩,
     ⟨(some 93), false, .load 1 false (.loc 92), none⟩,
     ⟨(some 94), false, .mv (.env 1), none⟩,
     ⟨(some 95), false, .callf 51 [(.loc 93), (.loc 94)], none⟩,
     ⟨(some 4), true, .mv (.loc 95), none⟩]
@[simp] def k54_2 : HCode := .seq (.region r54_2 none) .ret
@[simp] def k54_1 : HCode := .cond (.loc 29) k54_2 .skip
@[simp] def k54_12 : HCode := .seq (.region r54_9 none) .ret
@[simp] def k54_11 : HCode := .cond (.loc 55) k54_12 .skip
@[simp] def k54_10 : HCode := .seq (.region r54_8 none) k54_11
@[simp] def k54_15 : HCode := .cond (.loc 69) (.region r54_12 none) .skip
@[simp] def k54_18 : HCode := .seq (.region r54_14 none) .ret
@[simp] def k54_17 : HCode := .cond (.loc 90) k54_18 .skip
def k54_16 : HCode := .seq (.region r54_13 none) k54_17
@[simp] def k54_14 : HCode := .seq (.seq (.region r54_11 none) k54_15) k54_16
def k54_13 : HCode := .seq (.region r54_10 none) k54_14
@[simp] def k54_9 : HCode := .seq (.seq (.region r54_7 none) k54_10) k54_13
def k54_19 : HCode := .region r54_15 none
def k54_8 : HCode := .seq (.block 1 (.seq (.region r54_6 none) k54_9)) k54_19
@[simp] def k54_7 : HCode := .seq (.cond (.loc 35) .skip (.exit 0)) k54_8
def k54_6 : HCode := .seq (.region r54_5 none) k54_7
@[simp] def k54_5 : HCode := .block 0 (.loop k54_6)
def k54_20 : HCode := .seq (.region r54_16 none) .ret
@[simp] def k54_4 : HCode := .seq (.seq (.region r54_4 none) k54_5) k54_20
def k54_3 : HCode := .seq (.region r54_3 none) k54_4
@[simp] def k54_0 : HCode := .seq (.seq (.region r54_1 none) k54_1) k54_3
@[simp] def fn54 : HFn := { nargs := 2, results := [.tmp 4], mode := .iso, code := (.seq (.region r54_0 none) k54_0) }
theorem c54 : cFn Tryz.prog (Hs 54) .iso 54 = some fn54 := by kernel_rfl
/- sterling/types.Last -/
@[simp] def r80_0 : List HOp := [⟨(some 2), true, .mv (.val (.tr (.sc (.string ⟨⟨[]⟩⟩)))), none⟩]
@[simp] def r80_1 : List HOp := [⟨(some 3), false, .mv (.env 0), none⟩,
     ⟨(some 4), false, .mv (.env 0), none⟩,
     ⟨(some 5), false, .callf 76 [(.loc 4), (.val (.tr (.sc (.int .u8 46))))], none⟩,
     ⟨(some 6), false, .bin .other .add (.loc 5) (.val (.tr (.sc (.int .i64 1)))), none⟩,
     ⟨(some 7), false, .slicestr (.loc 3) (some (.loc 6)) none, none⟩,
     ⟨(some 2), true, .mv (.loc 7), none⟩]
@[simp] def k80_0 : HCode := .seq (.region r80_1 none) .ret
@[simp] def fn80 : HFn := { nargs := 1, results := [.tmp 2], mode := .iso, code := (.seq (.region r80_0 none) k80_0) }
theorem c80 : cFn Tryz.prog (Hs 80) .iso 80 = some fn80 := by kernel_rfl
/- sterling/types.members -/
@[simp] def r55_0 : List HOp := [⟨(some 2), true, .box false (.env 0), none⟩,
     ⟨(some 4), true, .mv (.val (.tr (.sc (.bool false)))), none⟩]
@[simp] def r55_1 : List HOp := [⟨(some 11), false, .load 7 true (.env 2), none⟩,
      ⟨(some 12), false, .callf 31 [(.loc 11), (.val (.tr (.sc (.bool false)))), (.val (.tr (.sc (.bool false)))), (.val (.tr (.sc (.bool true)))), (.val (.tr (.sc (.bool true)))), (.val (.tr (.sc (.bool true))))], none⟩,
      ⟨(some 13), false, .un .not (.loc 12), none⟩,
      ⟨(some 14), false, .mv (.loc 13), none⟩,
      ⟨(some 15), false, .faddr 4 (.env 2), some ((.loc 14), false)⟩,
      ⟨(some 16), false, .load 1 false (.loc 15), some ((.loc 14), false)⟩,
      ⟨(some 17), false, .len 1 (.loc 16), some ((.loc 14), false)⟩,
      ⟨(some 18), false, .faddr 3 (.env 2), some ((.loc 14), false)⟩,
      ⟨(some 19), false, .load 1 false (.loc 18), some ((.loc 14), false)⟩,
      ⟨(some 20), false, .len 1 (.loc 19), some ((.loc 14), false)⟩,
      ⟨(some 21), false, .bin .other .neq (.loc 17) (.loc 20), some ((.loc 14), false)⟩,
      ⟨(some 22), false, .pick (.loc 14) (.val (.tr (.sc (.bool true)))) (.loc 21), none⟩]
@[simp] def r55_2 : List HOp := [⟨(some 4), true, .mv (.val (.tr (.sc (.bool false)))), none⟩]
@[simp] def r55_3 : List HOp := [⟨(some 23), false, .faddr 4 (.env 2), none⟩,
      ⟨(some 24), true, .load 1 false (.loc 23), none⟩,
      ⟨(some 25), true, .len 1 (.env 24), none⟩,
      ⟨(some 26), true, .mv (.val (.tr (.sc (.int .i64 0)))), none⟩]
@[simp] def r55_4 : List HOp := [⟨(some 27), false, .bin .other .lss (.env 26) (.env 25), none⟩]
@[simp] def r55_5 : List HOp := [⟨(some 28), false, .mv (.env 26), none⟩,
          ⟨(some 29), false, .iaddr 1 (.env 24) (.env 26), none⟩,
          ⟨(some 30), false, .load 1 false (.loc 29), none⟩,
          ⟨(some 5), true, .mv (.loc 28), none⟩,
          ⟨(some 6), true, .mv (.loc 30), none⟩]
@[simp] def r55_6 : List HOp := [⟨(some 31), false, .mv (.env 6), none⟩,
          ⟨(some 32), false, .callf 41 [(.loc 31)], none⟩,
          ⟨(some 33), false, .un .not (.loc 32), none⟩,
          ⟨(some 34), false, .mv (.loc 33), none⟩,
          ⟨(some 35), false, .mv (.env 6), some ((.loc 34), false)⟩,
          ⟨(some 36), false, .bin .other .eql (.loc 35) (.val (.tr (.sc (.string ⟨⟨[95]⟩⟩)))), some ((.loc 34), false)⟩,
          ⟨(some 37), false, .pick (.loc 34) (.val (.tr (.sc (.bool true)))) (.loc 36), none⟩,
          ⟨(some 38), false, .mv (.loc 37), none⟩,
          ⟨(some 39), false, .mv (.env 6), some ((.loc 38), false)⟩,
          ⟨(some 40), false, .bin .other .eql (.loc 39) (.val (.tr (.sc (.string ⟨⟨[102, 117, 110, 99]⟩⟩)))), some ((.loc 38), false)⟩,
          ⟨(some 41), false, .pick (.loc 38) (.val (.tr (.sc (.bool true)))) (.loc 40), none⟩,
          ⟨(some 42), false, .mv (.loc 41), none⟩,
          ⟨(some 43), false, .mv (.env 5), some ((.loc 42), false)⟩,
          ⟨(some 44), false, .bin .other .gtr (.loc 43) (.val (.tr (.sc (.int .i64 0)))), some ((.loc 42), false)⟩,
          ⟨(some 45), false, .mv (.loc 44), some ((.loc 42), false)⟩,
          ⟨(some 46), false, .mv (.env 6), some ((.loc 45), true)⟩,
          ⟨(some 47), false, .faddr 4 (.env 2), some ((.loc 45), true)⟩,
          ⟨(some 48), false, .load 1 false (.loc 47), some ((.loc 45), true)⟩,
          ⟨(some 49), false, .mv (.env 5), some ((.loc 45), true)⟩,
          ⟨(some 50), false, .bin .other .sub (.loc 49) (.val (.tr (.sc (.int .i64 1)))), some ((.loc 45), true)⟩,
          ⟨(some 51), false, .iaddr 1 (.loc 48) (.loc 50), some ((.loc 45), true)⟩,
          ⟨(some 52), false, .load 1 false (.loc 51), some ((.loc 45), true)⟩,
          ⟨(some 53), false, .bin .other .leq (.loc 46) (.loc 52), some ((.loc 45), true)⟩,
          ⟨(some 54), false, .pick (.loc 45) (.loc 53) (.val (.tr (.sc (.bool false)))), some ((.loc 42), false)⟩,
          ⟨(some 55), false, .pick (.loc 42) (.val (.tr (.sc (.bool true)))) (.loc 54), none⟩,
          ⟨(some 56), false, .mv (.loc 55), none⟩,
          ⟨(some 57), false, .faddr 3 (.env 2), some ((.loc 56), false)⟩,
          ⟨(some 58), false, .load 1 false (.loc 57), some ((.loc 56), false)⟩,
          ⟨(some 59), false, .mv (.env 5), some ((.loc 56), false)⟩,
          ⟨(some 60), false, .iaddr 7 (.loc 58) (.loc 59), some ((.loc 56), false)⟩,
          ⟨(some 61), false, .faddr 0 (.loc 60), some ((.loc 56), false)⟩,
          ⟨(some 62), false, .load 1 false (.loc 61), some ((.loc 56), false)⟩,
          ⟨(some 63), false, .bin .other .neq (.loc 62) (.val (.tr (.sc (.int .i64 8)))), some ((.loc 56), false)⟩,
          ⟨(some 64), false, .pick (.loc 56) (.val (.tr (.sc (.bool true)))) (.loc 63), none⟩]
@[simp] def r55_7 : List HOp := [⟨(some 4), true, .mv (.val (.tr (.sc (.bool false)))), none⟩]
@[simp] def r55_8 : List HOp := [⟨(some 65), false, .bin .other .add (.env 26) (.val (.tr (.sc (.int .i64 1)))), none⟩,
       ⟨(some 26), true, .mv (.loc 65), none⟩]
@[simp] def r55_9 : List HOp := [⟨(some 66), false, .faddr 6 (.env 2), none⟩,
      ⟨(some 67), true, .load 1 false (.loc 66), none⟩,
      ⟨(some 68), true, .len 1 (.env 67), none⟩,
      ⟨(some 69), true, .mv (.val (.tr (.sc (.int .i64 0)))), none⟩]
@[simp] def r55_10 : List HOp := [⟨(some 70), false, .bin .other .lss (.env 69) (.env 68), none⟩]
@[simp] def r55_11 : List HOp := [⟨(some 71), false, .iaddr 1 (.env 67) (.env 69), none⟩,
          ⟨(some 72), false, .load 1 false (.loc 71), none⟩,
          ⟨(some 8), true, .mv (.loc 72), none⟩]
@[simp] def r55_12 : List HOp := [⟨(some 73), true, .mv (.env 8), none⟩,
           ⟨(some 74), true, .len 1 (.env 73), none⟩,
           ⟨(some 75), true, .mv (.val (.tr (.sc (.int .i64 0)))), none⟩]
@[simp] def r55_13 : List HOp := [⟨(some 76), false, .bin .other .lss (.env 75) (.env 74), none⟩]
@[simp] def r55_14 : List HOp := [⟨(some 77), false, .iaddr 8 (.env 73) (.env 75), none⟩,
               ⟨(some 78), false, .load 8 true (.loc 77), none⟩,
               ⟨(some 10), true, .alloc [(.sc (.bool false)), (.sc (.int .i64 0)), (.sc (.string ⟨⟨[]⟩⟩)), (.sc (.int .i64 0)), (.sc (.slice none 0 0)), (.sc (.slice none 0 0)), (.sc (.slice none 0 0)), (.sc (.slice none 0 0))], none⟩,
               ⟨none, false, .store 8 (.env 10) (.loc 78), none⟩]
@[simp] def r55_15 : List HOp := [⟨(some 79), false, .faddr 1 (.env 10), none⟩,
               ⟨(some 80), false, .load 7 true (.loc 79), none⟩,
               ⟨(some 81), false, .mv (.env 1), none⟩,
               ⟨(some 82), false, .callf 34 [(.loc 80), (.loc 81)], none⟩,
               ⟨(some 83), false, .un .not (.loc 82), none⟩]
@[simp] def r55_16 : List HOp := [⟨(some 4), true, .mv (.val (.tr (.sc (.bool false)))), none⟩]
@[simp] def r55_17 : List HOp := [⟨(some 84), false, .bin .other .add (.env 75) (.val (.tr (.sc (.int .i64 1)))), none⟩,
            ⟨(some 75), true, .mv (.loc 84), none⟩]
@[simp] def r55_18 : List HOp := [⟨(some 85), false, .mv (.env 8), none⟩,
          ⟨(some 86), false, .len 1 (.loc 85), none⟩,
          ⟨(some 87), false, .bin .other .eql (.loc 86) (.val (.tr (.sc (.int .i64 0)))), none⟩]
@[simp] def r55_19 : List HOp := [⟨(some 4), true, .mv (.val (.tr (.sc (.bool false)))), none⟩]
@[simp] def r55_20 : List HOp := [⟨(some 88), false, .bin .other .add (.env 69) (.val (.tr (.sc (.int .i64 1)))), none⟩,
       ⟨(some 69), true, .mv (.loc 88), none⟩]
@[simp] def r55_21 : List HOp := [⟨(some 89), false, .faddr 3 (.env 2), none⟩,
     ⟨(some 90), false, .load 1 false (.loc 89), none⟩,
     ⟨(some 91), false, .mv (.env 1), none⟩,
     ⟨(some 92), false, .callf 51 [(.loc 90), (.loc 91)], none⟩,
     ⟨(some 4), true, .mv (.loc 92), none⟩]
@[simp] def k55_2 : HCode := .seq (.region r55_2 none) .ret
@[simp] def k55_1 : HCode := .cond (.loc 22) k55_2 .skip
@[simp] def k55_10 : HCode := .seq (.region r55_7 none) .ret
@[simp] def k55_9 : HCode := .cond (.loc 64) k55_10 .skip
@[simp] def k55_8 : HCode := .seq (.region r55_6 none) k55_9
def k55_11 : HCode := .region r55_8 none
def k55_7 : HCode := .seq (.block 1 (.seq (.region r55_5 none) k55_8)) k55_11
@[simp] def k55_6 : HCode := .seq (.cond (.loc 27) .skip (.exit 0)) k55_7
def k55_5 : HCode := .seq (.region r55_4 none) k55_6
@[simp] def k55_4 : HCode := .block 0 (.loop k55_5)
@[simp] def k55_24 : HCode := .seq (.region r55_16 none) .ret
@[simp] def k55_23 : HCode := .cond (.loc 83) k55_24 .skip
@[simp] def k55_22 : HCode := .seq (.region r55_15 none) k55_23
def k55_25 : HCode := .region r55_17 none
def k55_21 : HCode := .seq (.block 5 (.seq (.region r55_14 none) k55_22)) k55_25
@[simp] def k55_20 : HCode := .seq (.cond (.loc 76) .skip (.exit 4)) k55_21
def k55_19 : HCode := .seq (.region r55_13 none) k55_20
@[simp] def k55_18 : HCode := .block 4 (.loop k55_19)
@[simp] def k55_28 : HCode := .seq (.region r55_19 none) .ret
@[simp] def k55_27 : HCode := .cond (.loc 87) k55_28 .skip
def k55_26 : HCode := .seq (.region r55_18 none) k55_27
@[simp] def k55_17 : HCode := .seq (.seq (.region r55_12 none) k55_18) k55_26
def k55_29 : HCode := .region r55_20 none
def k55_16 : HCode := .seq (.block 3 (.seq (.region r55_11 none) k55_17)) k55_29
@[simp] def k55_15 : HCode := .seq (.cond (.loc 70) .skip (.exit 2)) k55_16
def k55_14 : HCode := .seq (.region r55_10 none) k55_15
@[simp] def k55_13 : HCode := .block 2 (.loop k55_14)
def k55_30 : HCode := .seq (.region r55_21 none) .ret
def k55_12 : HCode := .seq (.seq (.region r55_9 none) k55_13) k55_30
def k55_3 : HCode := .seq (.seq (.region r55_3 none) k55_4) k55_12
@[simp] def k55_0 : HCode := .seq (.seq (.region r55_1 none) k55_1) k55_3
@[simp] def fn55 : HFn := { nargs := 2, results := [.tmp 4], mode := .iso, code := (.seq (.region r55_0 none) k55_0) }
theorem c55 : cFn Tryz.prog (Hs 55) .iso 55 = some fn55 := by kernel_rfl
/- (*sterling/env.Env).known -/
@[simp] def r17_0 : List HOp := [⟨(some 3), true, .box false (.env 1), none⟩,
     ⟨(some 4), true, .mv (.val (.tr (.sc (.bool false)))), none⟩]
@[simp] def r17_1 : List HOp := [⟨(some 13), false, .faddr 0 (.env 3), none⟩,
      ⟨(some 14), false, .load 1 false (.loc 13), none⟩,
      ⟨(some 15), false, .bin .other .eql (.loc 14) (.val (.tr (.sc (.int .i64 2)))), none⟩]
@[simp] def r17_2 : List HOp := [⟨(some 17), false, .mv (.env 0), none⟩,
       ⟨(some 18), false, .faddr 1 (.env 3), none⟩,
       ⟨(some 19), false, .load 1 false (.loc 18), none⟩,
       ⟨(some 20), false, .callf 14 [(.loc 17), (.loc 19)], none⟩,
       ⟨(some 16), false, .mv (.loc 20), none⟩,
       ⟨(some 21), false, .extract (.loc 16) 0, none⟩,
       ⟨(some 22), false, .extract (.loc 16) 1, none⟩,
       ⟨(some 5), true, .alloc [(.sc (.string ⟨⟨[]⟩⟩)), (.sc (.slice none 0 0)), (.sc (.int .i64 0)), (.sc (.string ⟨⟨[]⟩⟩)), (.sc (.int .i64 0)), (.sc (.slice none 0 0)), (.sc (.slice none 0 0)), (.sc (.slice none 0 0)), (.sc (.slice none 0 0)), (.sc (.slice none 0 0))], none⟩,
       ⟨none, false, .store 10 (.env 5) (.loc 21), none⟩,
       ⟨(some 6), true, .mv (.loc 22), none⟩]
@[simp] def r17_3 : List HOp := [⟨(some 23), false, .mv (.env 6), none⟩,
       ⟨(some 24), false, .un .not (.loc 23), none⟩,
       ⟨(some 25), false, .mv (.loc 24), none⟩,
       ⟨(some 26), false, .faddr 1 (.env 5), some ((.loc 25), false)⟩,
       ⟨(some 27), false, .load 1 false (.loc 26), some ((.loc 25), false)⟩,
       ⟨(some 28), false, .len 1 (.loc 27), some ((.loc 25), false)⟩,
       ⟨(some 29), false, .faddr 3 (.env 3), some ((.loc 25), false)⟩,
       ⟨(some 30), false, .load 1 false (.loc 29), some ((.loc 25), false)⟩,
       ⟨(some 31), false, .len 1 (.loc 30), some ((.loc 25), false)⟩,
       ⟨(some 32), false, .bin .other .neq (.loc 28) (.loc 31), some ((.loc 25), false)⟩,
       ⟨(some 33), false, .pick (.loc 25) (.val (.tr (.sc (.bool true)))) (.loc 32), none⟩]
@[simp] def r17_4 : List HOp := [⟨(some 4), true, .mv (.val (.tr (.sc (.bool false)))), none⟩]
@[simp] def r17_5 : List HOp := [⟨(some 34), false, .faddr 3 (.env 3), none⟩,
      ⟨(some 35), true, .load 1 false (.loc 34), none⟩,
      ⟨(some 36), true, .len 1 (.env 35), none⟩,
      ⟨(some 37), true, .mv (.val (.tr (.sc (.int .i64 0)))), none⟩]
@[simp] def r17_6 : List HOp := [⟨(some 38), false, .bin .other .lss (.env 37) (.env 36), none⟩]
@[simp] def r17_7 : List HOp := [⟨(some 39), false, .iaddr 7 (.env 35) (.env 37), none⟩,
          ⟨(some 40), false, .load 7 true (.loc 39), none⟩,
          ⟨(some 8), true, .alloc [(.sc (.int .i64 0)), (.sc (.string ⟨⟨[]⟩⟩)), (.sc (.int .i64 0)), (.sc (.slice none 0 0)), (.sc (.slice none 0 0)), (.sc (.slice none 0 0)), (.sc (.slice none 0 0))], none⟩,
          ⟨none, false, .store 7 (.env 8) (.loc 40), none⟩]
@[simp] def r17_8 : List HOp := [⟨(some 41), false, .mv (.env 0), none⟩,
          ⟨(some 42), false, .load 7 true (.env 8), none⟩,
          ⟨(some 43), false, .callf 17 [(.loc 41), (.loc 42)], none⟩,
          ⟨(some 44), false, .un .not (.loc 43), none⟩]
@[simp] def r17_9 : List HOp := [⟨(some 4), true, .mv (.val (.tr (.sc (.bool false)))), none⟩]
@[simp] def r17_10 : List HOp := [⟨(some 45), false, .bin .other .add (.env 37) (.val (.tr (.sc (.int .i64 1)))), none⟩,
       ⟨(some 37), true, .mv (.loc 45), none⟩]
@[simp] def r17_11 : List HOp := [⟨(some 46), false, .faddr 6 (.env 3), none⟩,
      ⟨(some 47), true, .load 1 false (.loc 46), none⟩,
      ⟨(some 48), true, .len 1 (.env 47), none⟩,
      ⟨(some 49), true, .mv (.val (.tr (.sc (.int .i64 0)))), none⟩]
@[simp] def r17_12 : List HOp := [⟨(some 50), false, .bin .other .lss (.env 49) (.env 48), none⟩]
@[simp] def r17_13 : List HOp := [⟨(some 51), false, .iaddr 1 (.env 47) (.env 49), none⟩,
          ⟨(some 52), false, .load 1 false (.loc 51), none⟩,
          ⟨(some 10), true, .mv (.loc 52), none⟩]
@[simp] def r17_14 : List HOp := [⟨(some 53), true, .mv (.env 10), none⟩,
          ⟨(some 54), true, .len 1 (.env 53), none⟩,
          ⟨(some 55), true, .mv (.val (.tr (.sc (.int .i64 0)))), none⟩]
@[simp] def r17_15 : List HOp := [⟨(some 56), false, .bin .other .lss (.env 55) (.env 54), none⟩]
@[simp] def r17_16 : List HOp := [⟨(some 57), false, .iaddr 8 (.env 53) (.env 55), none⟩,
              ⟨(some 58), false, .load 8 true (.loc 57), none⟩,
              ⟨(some 12), true, .alloc [(.sc (.bool false)), (.sc (.int .i64 0)), (.sc (.string ⟨⟨[]⟩⟩)), (.sc (.int .i64 0)), (.sc (.slice none 0 0)), (.sc (.slice none 0 0)), (.sc (.slice none 0 0)), (.sc (.slice none 0 0))], none⟩,
              ⟨none, false, .store 8 (.env 12) (.loc 58), none⟩]
@[simp] def r17_17 : List HOp := [⟨(some 59), false, .mv (.env 0), none⟩,
              ⟨(some 60), false, .faddr 1 (.env 12), none⟩,
              ⟨(some 61), false, .load 7 true (.loc 60), none⟩,
              ⟨(some 62), false, .callf 17 [(.loc 59), (.loc 61)], none⟩,
              ⟨(some 63), false, .un .not (.loc 62), none⟩]
@[simp] def r17_18 : List HOp := [⟨(some 4), true, .mv (.val (.tr (.sc (.bool false)))), none⟩]
@[simp] def r17_19 : List HOp := [⟨(some 64), false, .bin .other .add (.env 55) (.val (.tr (.sc (.int .i64 1)))), none⟩,
           ⟨(some 55), true, .mv (.loc 64), none⟩]
@[simp] def r17_20 : List HOp := [⟨(some 65), false, .bin .other .add (.env 49) (.val (.tr (.sc (.int .i64 1)))), none⟩,
       ⟨(some 49), true, .mv (.loc 65), none⟩]
@[simp] def r17_21 : List HOp := [⟨(some 4), true, .mv (.val (.tr (.sc (.bool true)))), none⟩]
@[simp] def k17_5 : HCode := .seq (.region r17_4 none) .ret
@[simp] def k17_4 : HCode := .cond (.loc 33) k17_5 .skip
@[simp] def k17_3 : HCode := .seq (.region r17_3 none) k17_4
@[simp] def k17_2 : HCode := .seq (.region r17_2 none) k17_3
@[simp] def k17_1 : HCode := .cond (.loc 15) k17_2 .skip
@[simp] def k17_13 : HCode := .seq (.region r17_9 none) .ret
@[simp] def k17_12 : HCode := .cond (.loc 44) k17_13 .skip
@[simp] def k17_11 : HCode := .seq (.region r17_8 none) k17_12
def k17_14 : HCode := .region r17_10 none
def k17_10 : HCode := .seq (.block 1 (.seq (.region r17_7 none) k17_11)) k17_14
@[simp] def k17_9 : HCode := .seq (.cond (.loc 38) .skip (.exit 0)) k17_10
def k17_8 : HCode := .seq (.region r17_6 none) k17_9
@[simp] def k17_7 : HCode := .block 0 (.loop k17_8)
@[simp] def k17_27 : HCode := .seq (.region r17_18 none) .ret
@[simp] def k17_26 : HCode := .cond (.loc 63) k17_27 .skip
@[simp] def k17_25 : HCode := .seq (.region r17_17 none) k17_26
def k17_28 : HCode := .region r17_19 none
def k17_24 : HCode := .seq (.block 5 (.seq (.region r17_16 none) k17_25)) k17_28
@[simp] def k17_23 : HCode := .seq (.cond (.loc 56) .skip (.exit 4)) k17_24
def k17_22 : HCode := .seq (.region r17_15 none) k17_23
@[simp] def k17_21 : HCode := .block 4 (.loop k17_22)
@[simp] def k17_20 : HCode := .seq (.region r17_14 none) k17_21
def k17_29 : HCode := .region r17_20 none
def k17_19 : HCode := .seq (.block 3 (.seq (.region r17_13 none) k17_20)) k17_29
@[simp] def k17_18 : HCode := .seq (.cond (.loc 50) .skip (.exit 2)) k17_19
def k17_17 : HCode := .seq (.region r17_12 none) k17_18
@[simp] def k17_16 : HCode := .block 2 (.loop k17_17)
def k17_30 : HCode := .seq (.region r17_21 none) .ret
def k17_15 : HCode := .seq (.seq (.region r17_11 none) k17_16) k17_30
def k17_6 : HCode := .seq (.seq (.region r17_5 none) k17_7) k17_15
@[simp] def k17_0 : HCode := .seq (.seq (.region r17_1 none) k17_1) k17_6
@[simp] def fn17 : HFn := { nargs := 2, results := [.tmp 4], mode := .shared, code := (.seq (.region r17_0 none) k17_0) }
theorem c17 : cFn Tryz.prog (Hs 17) .shared 17 = some fn17 := by kernel_rfl
end Go.Proofs.YthkndfiekgaojaaGreatDoor.AM.Ev
