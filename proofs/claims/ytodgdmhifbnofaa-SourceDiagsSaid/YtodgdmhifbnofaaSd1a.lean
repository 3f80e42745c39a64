/- The functions that the places reaches, each checked against the translation, part one. -/
import Derived.Test.YtodgdmhifbnofaaAm4
import Derived.Test.YtodgdmhifbnofaaProg
import Derived.KernelRfl
set_option maxRecDepth 1000000
set_option linter.unusedVariables false
set_option linter.unusedSimpArgs false
namespace Go.Proofs.Ytodgdmhifbnofaa.AM.Sd
open Go.Proofs
abbrev ol (k : Nat) (x : HK) : HOp := ⟨some k, false, x, none⟩
abbrev oe (k : Nat) (x : HK) : HOp := ⟨some k, true, x, none⟩
abbrev ou (x : HK) : HOp := ⟨none, false, x, none⟩
abbrev og (k : Nat) (x : HK) (c : Nat) (b : Bool) : HOp := ⟨some k, false, x, some (.loc c, b)⟩
abbrev vI (z : Int) : HO := .val (.tr (.sc (.int .i64 z)))
abbrev vB (b : Bool) : HO := .val (.tr (.sc (.bool b)))
def Hq (f : Nat) : List Nat :=  []
def Hb (f : Nat) : List Nat := if Nat.beq f 19 then [2, 3] else if Nat.beq f 8 then [2, 3] else []
def Hl (f : Nat) : List Nat := if Nat.beq f 19 then [6, 8, 11, 13, 16, 18] else []
def Ho (f d : Nat) : Bool :=  false
def Hs (f : Nat) : Hints := { own := fun d => Ho f d, qa := fun d => memN d (Hq f), tu := fun _ => true, bt := fun d => memN d (Hb f), ld := fun d => memN d (Hl f) }
def Te (f : Nat) : Option (Nat × Nat) := if Nat.beq f 5 then some (0, 18) else if Nat.beq f 18 then some (2, 59) else if Nat.beq f 14 then some (2, 4) else none
@[simp] def r4_0 : List HOp := [oe 2 (.mv (vB false))]
@[simp] def r4_1 : List HOp := [ol 13 (.callf 5 []),oe 3 (.mv (.loc 13))]
@[simp] def r4_2 : List HOp := [ol 14 (.mv (.env 0)),ol 15 (.len 1 (.loc 14)),ol 16 (.bin .other .gtr (.loc 15) (vI 30))]
@[simp] def r4_3 : List HOp := [ol 17 (.mv (.env 0)),ol 18 (.slice 3 (.loc 17) none (some (vI 30)) none),oe 0 (.mv (.loc 18))]
@[simp] def r4_4 : List HOp := [ol 19 (.mv (.env 0)),ol 20 (.callf 7 [(.loc 19)]),oe 4 (.mv (.loc 20))]
@[simp] def r4_5 : List HOp := [oe 5 (.mv (.val (.tr (.fn (.func 8) [] []))))]
@[simp] def r4_6 : List HOp := [oe 6 (.mv (vI 1))]
@[simp] def r4_7 : List HOp := [ol 21 (.mv (.env 6)),ol 22 (.mv (.env 4)),ol 23 (.len 1 (.loc 22)),ol 24 (.bin .other .lss (.loc 21) (.loc 23))]
@[simp] def r4_8 : List HOp := [ol 27 (.mv (.env 5)),ol 28 (.mv (.env 4)),ol 29 (.mv (.env 6)),ol 30 (.bin .other .sub (.loc 29) (vI 1)),ol 31 (.iaddr 3 (.loc 28) (.loc 30)),ol 32 (.load 3 true (.loc 31)),ol 33 (.mv (.env 4)),ol 34 (.mv (.env 6)),ol 35 (.iaddr 3 (.loc 33) (.loc 34)),ol 36 (.load 3 true (.loc 35)),ol 37 (.callv (.loc 27) [(.loc 32), (.loc 36)]),ol 38 (.un .not (.loc 37))]
@[simp] def r4_9 : List HOp := [oe 2 (.mv (vB false))]
@[simp] def r4_10 : List HOp := [ol 25 (.mv (.env 6)),ol 26 (.bin .other .add (.loc 25) (vI 1)),oe 6 (.mv (.loc 26))]
@[simp] def r4_11 : List HOp := [oe 7 (.mv (vI 0))]
@[simp] def r4_12 : List HOp := [ol 39 (.mv (.env 7)),ol 40 (.mv (.env 0)),ol 41 (.len 1 (.loc 40)),ol 42 (.bin .other .lss (.loc 39) (.loc 41))]
@[simp] def r4_13 : List HOp := [oe 8 (.mv (vB false))]
@[simp] def r4_14 : List HOp := [oe 9 (.mv (vI 0))]
@[simp] def r4_15 : List HOp := [ol 45 (.mv (.env 9)),ol 46 (.mv (.env 4)),ol 47 (.len 1 (.loc 46)),ol 48 (.bin .other .lss (.loc 45) (.loc 47))]
@[simp] def r4_16 : List HOp := [ol 51 (.mv (.env 8)),ol 52 (.mv (.loc 51)),og 53 (.mv (.env 5)) 52 false,og 54 (.mv (.env 0)) 52 false,og 55 (.mv (.env 7)) 52 false,og 56 (.iaddr 3 (.loc 54) (.loc 55)) 52 false,og 57 (.load 3 true (.loc 56)) 52 false,og 58 (.mv (.env 4)) 52 false,og 59 (.mv (.env 9)) 52 false,og 60 (.iaddr 3 (.loc 58) (.loc 59)) 52 false,og 61 (.load 3 true (.loc 60)) 52 false,og 62 (.callv (.loc 53) [(.loc 57), (.loc 61)]) 52 false,og 63 (.un .not (.loc 62)) 52 false,og 64 (.mv (.loc 63)) 52 false,og 65 (.mv (.env 5)) 64 true,og 66 (.mv (.env 4)) 64 true,og 67 (.mv (.env 9)) 64 true,og 68 (.iaddr 3 (.loc 66) (.loc 67)) 64 true,og 69 (.load 3 true (.loc 68)) 64 true,og 70 (.mv (.env 0)) 64 true,og 71 (.mv (.env 7)) 64 true,og 72 (.iaddr 3 (.loc 70) (.loc 71)) 64 true,og 73 (.load 3 true (.loc 72)) 64 true,og 74 (.callv (.loc 65) [(.loc 69), (.loc 73)]) 64 true,og 75 (.un .not (.loc 74)) 64 true,og 76 (.pick (.loc 64) (.loc 75) (vB false)) 52 false,ol 77 (.pick (.loc 52) (vB true) (.loc 76)),oe 8 (.mv (.loc 77))]
@[simp] def r4_17 : List HOp := [ol 49 (.mv (.env 9)),ol 50 (.bin .other .add (.loc 49) (vI 1)),oe 9 (.mv (.loc 50))]
@[simp] def r4_18 : List HOp := [ol 78 (.mv (.env 8)),ol 79 (.un .not (.loc 78))]
@[simp] def r4_19 : List HOp := [oe 2 (.mv (vB false))]
@[simp] def r4_20 : List HOp := [ol 43 (.mv (.env 7)),ol 44 (.bin .other .add (.loc 43) (vI 1)),oe 7 (.mv (.loc 44))]
@[simp] def r4_21 : List HOp := [oe 10 (.mv (vI 0))]
@[simp] def r4_22 : List HOp := [ol 80 (.mv (.env 10)),ol 81 (.mv (.env 4)),ol 82 (.len 1 (.loc 81)),ol 83 (.bin .other .lss (.loc 80) (.loc 82))]
@[simp] def r4_23 : List HOp := [oe 11 (.mv (vB false))]
@[simp] def r4_24 : List HOp := [oe 12 (.mv (vI 0))]
@[simp] def r4_25 : List HOp := [ol 86 (.mv (.env 12)),ol 87 (.mv (.env 0)),ol 88 (.len 1 (.loc 87)),ol 89 (.bin .other .lss (.loc 86) (.loc 88))]
@[simp] def r4_26 : List HOp := [ol 92 (.mv (.env 11)),ol 93 (.mv (.loc 92)),og 94 (.mv (.env 5)) 93 false,og 95 (.mv (.env 0)) 93 false,og 96 (.mv (.env 12)) 93 false,og 97 (.iaddr 3 (.loc 95) (.loc 96)) 93 false,og 98 (.load 3 true (.loc 97)) 93 false,og 99 (.mv (.env 4)) 93 false,og 100 (.mv (.env 10)) 93 false,og 101 (.iaddr 3 (.loc 99) (.loc 100)) 93 false,og 102 (.load 3 true (.loc 101)) 93 false,og 103 (.callv (.loc 94) [(.loc 98), (.loc 102)]) 93 false,og 104 (.un .not (.loc 103)) 93 false,og 105 (.mv (.loc 104)) 93 false,og 106 (.mv (.env 5)) 105 true,og 107 (.mv (.env 4)) 105 true,og 108 (.mv (.env 10)) 105 true,og 109 (.iaddr 3 (.loc 107) (.loc 108)) 105 true,og 110 (.load 3 true (.loc 109)) 105 true,og 111 (.mv (.env 0)) 105 true,og 112 (.mv (.env 12)) 105 true,og 113 (.iaddr 3 (.loc 111) (.loc 112)) 105 true,og 114 (.load 3 true (.loc 113)) 105 true,og 115 (.callv (.loc 106) [(.loc 110), (.loc 114)]) 105 true,og 116 (.un .not (.loc 115)) 105 true,og 117 (.pick (.loc 105) (.loc 116) (vB false)) 93 false,ol 118 (.pick (.loc 93) (vB true) (.loc 117)),oe 11 (.mv (.loc 118))]
@[simp] def r4_27 : List HOp := [ol 90 (.mv (.env 12)),ol 91 (.bin .other .add (.loc 90) (vI 1)),oe 12 (.mv (.loc 91))]
@[simp] def r4_28 : List HOp := [ol 119 (.mv (.env 11)),ol 120 (.un .not (.loc 119))]
@[simp] def r4_29 : List HOp := [oe 2 (.mv (vB false))]
@[simp] def r4_30 : List HOp := [ol 84 (.mv (.env 10)),ol 85 (.bin .other .add (.loc 84) (vI 1)),oe 10 (.mv (.loc 85))]
@[simp] def r4_31 : List HOp := [ol 121 (.mv (.env 3)),oe 2 (.mv (.loc 121))]
@[simp] def k4_2 : HCode := .cond (.loc 16) (.region r4_3 none) .skip
@[simp] def k4_8 : HCode := .cond (.loc 24) .skip (.exit 0)
@[simp] def k4_11 : HCode := .seq (.region r4_9 none) .ret
@[simp] def k4_10 : HCode := .cond (.loc 38) k4_11 .skip
def k4_12 : HCode := .region r4_10 none
def k4_9 : HCode := .seq (.block 1 (.seq (.region r4_8 (some [ ( 0, [ 5 ] ) , ( 0, [ 4 ] ) , ( 0, [ 6 ] ) , ( 0, [ 29 ] ) , ( 1, [ 28, 30 ] ) , ( 1, [ 31 ] ) , ( 0, [ 4 ] ) , ( 0, [ 6 ] ) , ( 1, [ 33, 34 ] ) , ( 1, [ 35 ] ) , ( 2, [ 27, 32, 36 ] ) , ( 0, [ 37 ] ) ])) k4_10)) k4_12
def k4_7 : HCode := .seq (.seq (.region r4_7 none) k4_8) k4_9
@[simp] def k4_6 : HCode := .block 0 (.loop k4_7)
@[simp] def k4_16 : HCode := .cond (.loc 42) .skip (.exit 2)
@[simp] def k4_21 : HCode := .cond (.loc 48) .skip (.exit 4)
def k4_22 : HCode := .seq (.block 5 (.region r4_16 (some [ ( 0, [ 8 ] ) , ( 0, [ 51 ] ) , ( 0, [ 5, 52 ] ) , ( 0, [ 0, 52 ] ) , ( 0, [ 7, 52 ] ) , ( 1, [ 54, 55, 52 ] ) , ( 1, [ 56, 52 ] ) , ( 0, [ 4, 52 ] ) , ( 0, [ 9, 52 ] ) , ( 1, [ 58, 59, 52 ] ) , ( 1, [ 60, 52 ] ) , ( 2, [ 53, 57, 61, 52 ] ) , ( 0, [ 62, 52 ] ) , ( 0, [ 63, 52 ] ) , ( 0, [ 5, 64 ] ) , ( 0, [ 4, 64 ] ) , ( 0, [ 9, 64 ] ) , ( 1, [ 66, 67, 64 ] ) , ( 1, [ 68, 64 ] ) , ( 0, [ 0, 64 ] ) , ( 0, [ 7, 64 ] ) , ( 1, [ 70, 71, 64 ] ) , ( 1, [ 72, 64 ] ) , ( 2, [ 65, 69, 73, 64 ] ) , ( 0, [ 74, 64 ] ) , ( 0, [ 64, 75, 52 ] ) , ( 0, [ 52, 76 ] ) , ( 0, [ 77 ] ) ]))) (.region r4_17 none)
def k4_20 : HCode := .seq (.seq (.region r4_15 none) k4_21) k4_22
@[simp] def k4_19 : HCode := .block 4 (.loop k4_20)
@[simp] def k4_25 : HCode := .seq (.region r4_19 none) .ret
@[simp] def k4_24 : HCode := .cond (.loc 79) k4_25 .skip
def k4_23 : HCode := .seq (.region r4_18 none) k4_24
@[simp] def k4_18 : HCode := .seq (.seq (.region r4_14 none) k4_19) k4_23
def k4_26 : HCode := .region r4_20 none
def k4_17 : HCode := .seq (.block 3 (.seq (.region r4_13 none) k4_18)) k4_26
def k4_15 : HCode := .seq (.seq (.region r4_12 none) k4_16) k4_17
@[simp] def k4_14 : HCode := .block 2 (.loop k4_15)
@[simp] def k4_30 : HCode := .cond (.loc 83) .skip (.exit 6)
@[simp] def k4_35 : HCode := .cond (.loc 89) .skip (.exit 8)
def k4_36 : HCode := .seq (.block 9 (.region r4_26 (some [ ( 0, [ 11 ] ) , ( 0, [ 92 ] ) , ( 0, [ 5, 93 ] ) , ( 0, [ 0, 93 ] ) , ( 0, [ 12, 93 ] ) , ( 1, [ 95, 96, 93 ] ) , ( 1, [ 97, 93 ] ) , ( 0, [ 4, 93 ] ) , ( 0, [ 10, 93 ] ) , ( 1, [ 99, 100, 93 ] ) , ( 1, [ 101, 93 ] ) , ( 2, [ 94, 98, 102, 93 ] ) , ( 0, [ 103, 93 ] ) , ( 0, [ 104, 93 ] ) , ( 0, [ 5, 105 ] ) , ( 0, [ 4, 105 ] ) , ( 0, [ 10, 105 ] ) , ( 1, [ 107, 108, 105 ] ) , ( 1, [ 109, 105 ] ) , ( 0, [ 0, 105 ] ) , ( 0, [ 12, 105 ] ) , ( 1, [ 111, 112, 105 ] ) , ( 1, [ 113, 105 ] ) , ( 2, [ 106, 110, 114, 105 ] ) , ( 0, [ 115, 105 ] ) , ( 0, [ 105, 116, 93 ] ) , ( 0, [ 93, 117 ] ) , ( 0, [ 118 ] ) ]))) (.region r4_27 none)
def k4_34 : HCode := .seq (.seq (.region r4_25 none) k4_35) k4_36
@[simp] def k4_33 : HCode := .block 8 (.loop k4_34)
@[simp] def k4_39 : HCode := .seq (.region r4_29 none) .ret
@[simp] def k4_38 : HCode := .cond (.loc 120) k4_39 .skip
def k4_37 : HCode := .seq (.region r4_28 none) k4_38
@[simp] def k4_32 : HCode := .seq (.seq (.region r4_24 none) k4_33) k4_37
def k4_40 : HCode := .region r4_30 none
def k4_31 : HCode := .seq (.block 7 (.seq (.region r4_23 none) k4_32)) k4_40
def k4_29 : HCode := .seq (.seq (.region r4_22 none) k4_30) k4_31
@[simp] def k4_28 : HCode := .block 6 (.loop k4_29)
def k4_41 : HCode := .seq (.region r4_31 none) .ret
def k4_27 : HCode := .seq (.seq (.region r4_21 none) k4_28) k4_41
def k4_13 : HCode := .seq (.seq (.region r4_11 none) k4_14) k4_27
@[simp] def k4_5 : HCode := .seq (.seq (.region r4_6 none) k4_6) k4_13
@[simp] def k4_4 : HCode := .seq (.region r4_5 none) k4_5
def k4_3 : HCode := .seq (.region r4_4 none) k4_4
@[simp] def k4_1 : HCode := .seq (.seq (.region r4_2 none) k4_2) k4_3
@[simp] def k4_0 : HCode := .seq (.region r4_1 none) k4_1
@[simp] def fn4 : HFn := { nargs := 1, results := [.tmp 2], mode := .shared, code := (.seq (.region r4_0 none) k4_0) }
theorem c4 : cFn Try.prog (Hs 4) .shared 4 = some fn4 := by kernel_rfl
@[simp] def r7_0 : List HOp := [oe 2 (.mv (.val (.tr (.sc (.slice none 0 0)))))]
@[simp] def r7_1 : List HOp := [ol 4 (.mv (.env 0)),ol 5 (.callf 17 [(.loc 4)]),oe 3 (.mv (.loc 5))]
@[simp] def r7_2 : List HOp := [ol 6 (.mv (.env 3)),ol 7 (.callf 18 [(.loc 6), (.val (.tr (.fn (.func 19) [] [])))])]
@[simp] def r7_3 : List HOp := [ol 8 (.mv (.env 3)),ol 9 (.callf 21 [(.loc 8)]),ol 10 (.callf 20 [(.loc 9)]),oe 2 (.mv (.loc 10))]
@[simp] def k7_2 : HCode := .seq (.region r7_3 none) .ret
@[simp] def k7_1 : HCode := .seq (.region r7_2 none) k7_2
@[simp] def k7_0 : HCode := .seq (.region r7_1 none) k7_1
@[simp] def fn7 : HFn := { nargs := 1, results := [.tmp 2], mode := .iso, code := (.seq (.region r7_0 none) k7_0) }
theorem c7 : cFn Try.prog (Hs 7) .iso 7 = some fn7 := by kernel_rfl
@[simp] def r17_0 : List HOp := [oe 2 (.mv (.val (.tr (.sc (.slice none 0 0)))))]
@[simp] def r17_1 : List HOp := [ol 3 (.mv (.env 0)),ol 4 (.bin .slice .eql (.loc 3) (.val (.tr (.sc (.slice none 0 0)))))]
@[simp] def r17_2 : List HOp := [oe 2 (.mv (.val (.tr (.sc (.slice none 0 0)))))]
@[simp] def r17_3 : List HOp := [ol 5 (.bslice false 0 3 [(.sc (.string ⟨⟨[]⟩⟩)), (.sc (.string ⟨⟨[]⟩⟩)), (.sc (.int .i64 0))] []),ol 6 (.mv (.env 0)),ol 7 (.append 3 40 (.loc 5) (.loc 6)),oe 2 (.mv (.loc 7))]
@[simp] def k17_2 : HCode := .seq (.region r17_2 none) .ret
@[simp] def k17_1 : HCode := .cond (.loc 4) k17_2 .skip
def k17_3 : HCode := .seq (.region r17_3 none) .ret
@[simp] def k17_0 : HCode := .seq (.seq (.region r17_1 none) k17_1) k17_3
@[simp] def fn17 : HFn := { nargs := 1, results := [.tmp 2], mode := .shared, code := (.seq (.region r17_0 none) k17_0) }
theorem c17 : cFn Try.prog (Hs 17) .shared 17 = some fn17 := by kernel_rfl
@[simp] def r19_0 : List HOp := [oe 2 (.box true (.env 0)),oe 3 (.box true (.env 1)),oe 4 (.mv (vI 0))]
@[simp] def r19_1 : List HOp := [ol 5 (.faddr 0 (.env 2)),ol 6 (.ldt 1 false (.loc 5)),ol 7 (.faddr 0 (.env 3)),ol 8 (.ldt 1 false (.loc 7)),ol 9 (.callf 14 [(.loc 6), (.loc 8)]),ol 10 (.faddr 1 (.env 2)),ol 11 (.ldt 1 false (.loc 10)),ol 12 (.faddr 1 (.env 3)),ol 13 (.ldt 1 false (.loc 12)),ol 14 (.callf 14 [(.loc 11), (.loc 13)]),ol 15 (.faddr 2 (.env 2)),ol 16 (.ldt 1 false (.loc 15)),ol 17 (.faddr 2 (.env 3)),ol 18 (.ldt 1 false (.loc 17)),ol 19 (.callf 31 [(.loc 16), (.loc 18)]),ol 20 (.bslice false 3 1 [(.sc (.int .i64 0))] [(0, 1, (.loc 9)), (1, 1, (.loc 14)), (2, 1, (.loc 19))]),ol 21 (.callf 30 [(.loc 20)]),oe 4 (.mv (.loc 21))]
@[simp] def k19_0 : HCode := .seq (.region r19_1 (some [ ( 0, [ 2 ] ) , ( 0, [ 5 ] ) , ( 0, [ 3 ] ) , ( 0, [ 7 ] ) , ( 2, [ 6, 8 ] ) , ( 0, [ 2 ] ) , ( 0, [ 10 ] ) , ( 0, [ 3 ] ) , ( 0, [ 12 ] ) , ( 2, [ 11, 13 ] ) , ( 0, [ 2 ] ) , ( 0, [ 15 ] ) , ( 0, [ 3 ] ) , ( 0, [ 17 ] ) , ( 2, [ 16, 18 ] ) , ( 0, [ 9, 14, 19 ] ) , ( 2, [ 20 ] ) , ( 0, [ 21 ] ) ])) .ret
@[simp] def fn19 : HFn := { nargs := 2, results := [.tmp 4], mode := .shared, code := (.seq (.region r19_0 none) k19_0) }
theorem c19 : cFn Try.prog (Hs 19) .shared 19 = some fn19 := by kernel_rfl
@[simp] def r31_0 : List HOp := [oe 4 (.mv (vI 0))]
@[simp] def r31_1 : List HOp := [ol 7 (.mv (.env 0)),ol 8 (.callf 52 [(.loc 7)]),oe 5 (.mv (.loc 8))]
@[simp] def r31_2 : List HOp := [ol 9 (.mv (.env 1)),ol 10 (.callf 52 [(.loc 9)]),oe 6 (.mv (.loc 10))]
@[simp] def r31_3 : List HOp := [ol 11 (.mv (.env 5))]
@[simp] def r31_4 : List HOp := [ol 12 (.mv (.env 6))]
@[simp] def r31_5 : List HOp := [oe 4 (.mv (vI 0))]
@[simp] def r31_6 : List HOp := [oe 4 (.mv (vI (-1)))]
@[simp] def r31_7 : List HOp := [ol 13 (.mv (.env 6))]
@[simp] def r31_8 : List HOp := [oe 4 (.mv (vI 1))]
@[simp] def r31_9 : List HOp := [ol 14 (.mv (.env 0)),ol 15 (.mv (.env 1)),ol 16 (.bin .other .lss (.loc 14) (.loc 15))]
@[simp] def r31_10 : List HOp := [oe 4 (.mv (vI (-1)))]
@[simp] def r31_11 : List HOp := [ol 17 (.mv (.env 0)),ol 18 (.mv (.env 1)),ol 19 (.bin .other .gtr (.loc 17) (.loc 18))]
@[simp] def r31_12 : List HOp := [oe 4 (.mv (vI 1))]
@[simp] def r31_13 : List HOp := [oe 4 (.mv (vI 0))]
@[simp] def k31_6 : HCode := .seq (.region r31_5 none) .ret
@[simp] def k31_5 : HCode := .cond (.loc 12) k31_6 .skip
def k31_7 : HCode := .seq (.region r31_6 none) .ret
@[simp] def k31_4 : HCode := .seq (.seq (.region r31_4 none) k31_5) k31_7
@[simp] def k31_3 : HCode := .cond (.loc 11) k31_4 .skip
@[simp] def k31_10 : HCode := .seq (.region r31_8 none) .ret
@[simp] def k31_9 : HCode := .cond (.loc 13) k31_10 .skip
@[simp] def k31_13 : HCode := .seq (.region r31_10 none) .ret
@[simp] def k31_12 : HCode := .cond (.loc 16) k31_13 .skip
@[simp] def k31_16 : HCode := .seq (.region r31_12 none) .ret
@[simp] def k31_15 : HCode := .cond (.loc 19) k31_16 .skip
def k31_17 : HCode := .seq (.region r31_13 none) .ret
def k31_14 : HCode := .seq (.seq (.region r31_11 none) k31_15) k31_17
def k31_11 : HCode := .seq (.seq (.region r31_9 none) k31_12) k31_14
def k31_8 : HCode := .seq (.seq (.region r31_7 none) k31_9) k31_11
@[simp] def k31_2 : HCode := .seq (.seq (.region r31_3 none) k31_3) k31_8
@[simp] def k31_1 : HCode := .seq (.region r31_2 none) k31_2
@[simp] def k31_0 : HCode := .seq (.region r31_1 none) k31_1
@[simp] def fn31 : HFn := { nargs := 2, results := [.tmp 4], mode := .shared, code := (.seq (.region r31_0 none) k31_0) }
theorem c31 : cFn Try.prog (Hs 31) .shared 31 = some fn31 := by kernel_rfl
end Go.Proofs.Ytodgdmhifbnofaa.AM.Sd
