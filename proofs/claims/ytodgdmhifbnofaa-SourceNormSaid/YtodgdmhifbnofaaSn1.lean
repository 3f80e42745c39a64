/- The functions that the packages reaches, each checked against the translation, part two; the table of them. -/
import Derived.Test.YtodgdmhifbnofaaSn1a
set_option maxRecDepth 1000000
set_option linter.unusedVariables false
set_option linter.unusedSimpArgs false
namespace Go.Proofs.Ytodgdmhifbnofaa.AM.Sn
open Go.Proofs
@[simp] def r60_0 : List HOp := [ol 12 (.mv (.env 2)),ol 13 (.mv (.env 1)),ol 14 (.bin .other .sub (.loc 12) (.loc 13)),oe 10 (.mv (.loc 14))]
@[simp] def r60_1 : List HOp := [ol 15 (.mv (.env 3)),ol 16 (.mv (.env 2)),ol 17 (.bin .other .sub (.loc 15) (.loc 16)),oe 11 (.mv (.loc 17))]
@[simp] def r60_2 : List HOp := [ol 18 (.mv (.env 10)),ol 19 (.mv (.env 11)),ol 20 (.bin .other .neq (.loc 18) (.loc 19))]
@[simp] def r60_3 : List HOp := [ol 21 (.mv (.env 10)),ol 22 (.mv (.env 11)),ol 23 (.bin .other .gtr (.loc 21) (.loc 22))]
@[simp] def r60_4 : List HOp := [ol 24 (.mv (.env 0)),ol 25 (.mv (.env 2)),ol 26 (.mv (.env 10)),ol 27 (.bin .other .sub (.loc 25) (.loc 26)),ol 28 (.mv (.env 2)),ol 29 (.mv (.env 11)),ol 30 (.mv (.env 4)),ol 31 (.callf 72 [(.loc 24), (.loc 27), (.loc 28), (.loc 29), (.loc 30)])]
@[simp] def r60_5 : List HOp := [ol 32 (.mv (.env 10)),ol 33 (.mv (.env 11)),ol 34 (.bin .other .sub (.loc 32) (.loc 33)),oe 10 (.mv (.loc 34))]
@[simp] def r60_6 : List HOp := [ol 35 (.mv (.env 0)),ol 36 (.mv (.env 2)),ol 37 (.mv (.env 10)),ol 38 (.bin .other .sub (.loc 36) (.loc 37)),ol 39 (.mv (.env 2)),ol 40 (.mv (.env 11)),ol 41 (.bin .other .add (.loc 39) (.loc 40)),ol 42 (.mv (.env 10)),ol 43 (.bin .other .sub (.loc 41) (.loc 42)),ol 44 (.mv (.env 10)),ol 45 (.mv (.env 4)),ol 46 (.callf 72 [(.loc 35), (.loc 38), (.loc 43), (.loc 44), (.loc 45)])]
@[simp] def r60_7 : List HOp := [ol 47 (.mv (.env 11)),ol 48 (.mv (.env 10)),ol 49 (.bin .other .sub (.loc 47) (.loc 48)),oe 11 (.mv (.loc 49))]
@[simp] def r60_8 : List HOp := [ol 50 (.mv (.env 0)),ol 51 (.mv (.env 2)),ol 52 (.mv (.env 10)),ol 53 (.bin .other .sub (.loc 51) (.loc 52)),ol 54 (.mv (.env 2)),ol 55 (.mv (.env 10)),ol 56 (.mv (.env 4)),ol 57 (.callf 72 [(.loc 50), (.loc 53), (.loc 54), (.loc 55), (.loc 56)])]
@[simp] def k60_3 : HCode := .cond (.loc 20) .skip (.exit 0)
@[simp] def k60_6 : HCode := .seq (.region r60_4 none) (.region r60_5 none)
@[simp] def k60_7 : HCode := .seq (.region r60_6 none) (.region r60_7 none)
@[simp] def k60_5 : HCode := .cond (.loc 23) k60_6 k60_7
def k60_4 : HCode := .block 1 (.seq (.region r60_3 none) k60_5)
def k60_2 : HCode := .seq (.seq (.region r60_2 none) k60_3) k60_4
def k60_8 : HCode := .region r60_8 none
@[simp] def k60_1 : HCode := .seq (.block 0 (.loop k60_2)) k60_8
@[simp] def k60_0 : HCode := .seq (.region r60_1 none) k60_1
@[simp] def fn60 : HFn := { nargs := 5, results := [], mode := .shared, code := (.seq (.region r60_0 none) k60_0) }
theorem c60 : cFn Try.prog (Hs 60) .shared 60 = some fn60 := by kernel_rfl
@[simp] def r72_0 : List HOp := [oe 10 (.mv (vI 0))]
@[simp] def r72_1 : List HOp := [ol 11 (.mv (.env 10)),ol 12 (.mv (.env 3)),ol 13 (.bin .other .lss (.loc 11) (.loc 12))]
@[simp] def r72_2 : List HOp := [ol 16 (.mv (.env 0)),ol 17 (.mv (.env 1)),ol 18 (.mv (.env 10)),ol 19 (.bin .other .add (.loc 17) (.loc 18)),ol 20 (.mv (.env 0)),ol 21 (.mv (.env 2)),ol 22 (.mv (.env 10)),ol 23 (.bin .other .add (.loc 21) (.loc 22)),ol 24 (.mv (.env 0)),ol 25 (.mv (.env 2)),ol 26 (.mv (.env 10)),ol 27 (.bin .other .add (.loc 25) (.loc 26)),ol 28 (.iaddr 2 (.loc 24) (.loc 27)),ol 29 (.load 2 true (.loc 28)),ol 30 (.mv (.env 0)),ol 31 (.mv (.env 1)),ol 32 (.mv (.env 10)),ol 33 (.bin .other .add (.loc 31) (.loc 32)),ol 34 (.iaddr 2 (.loc 30) (.loc 33)),ol 35 (.load 2 true (.loc 34)),ol 36 (.iaddr 2 (.loc 16) (.loc 19)),ou (.store 2 (.loc 36) (.loc 29)),ol 37 (.iaddr 2 (.loc 20) (.loc 23)),ou (.store 2 (.loc 37) (.loc 35))]
@[simp] def r72_3 : List HOp := [ol 14 (.mv (.env 10)),ol 15 (.bin .other .add (.loc 14) (vI 1)),oe 10 (.mv (.loc 15))]
@[simp] def k72_2 : HCode := .cond (.loc 13) .skip (.exit 0)
def k72_3 : HCode := .seq (.block 1 (.region r72_2 (some [ ( 0, [ 0 ] ) , ( 0, [ 1 ] ) , ( 0, [ 10 ] ) , ( 0, [ 17, 18 ] ) , ( 0, [ 0 ] ) , ( 0, [ 2 ] ) , ( 0, [ 10 ] ) , ( 0, [ 21, 22 ] ) , ( 0, [ 0 ] ) , ( 0, [ 2 ] ) , ( 0, [ 10 ] ) , ( 0, [ 25, 26 ] ) , ( 1, [ 24, 27 ] ) , ( 1, [ 28 ] ) , ( 0, [ 0 ] ) , ( 0, [ 1 ] ) , ( 0, [ 10 ] ) , ( 0, [ 31, 32 ] ) , ( 1, [ 30, 33 ] ) , ( 1, [ 34 ] ) , ( 2, [ 16, 19 ] ) , ( 2, [ 36, 29 ] ) , ( 2, [ 20, 23 ] ) , ( 2, [ 37, 35 ] ) ]))) (.region r72_3 none)
def k72_1 : HCode := .seq (.seq (.region r72_1 none) k72_2) k72_3
@[simp] def k72_0 : HCode := .block 0 (.loop k72_1)
@[simp] def fn72 : HFn := { nargs := 5, results := [], mode := .shared, code := (.seq (.region r72_0 none) k72_0) }
theorem c72 : cFn Try.prog (Hs 72) .shared 72 = some fn72 := by kernel_rfl
@[simp] def r13_0 : List HOp := [oe 2 (.box true (.env 0)),oe 3 (.box true (.env 1)),oe 4 (.mv (vI 0))]
@[simp] def r13_1 : List HOp := [ol 5 (.faddr 0 (.env 2)),ol 6 (.load 1 false (.loc 5)),ol 7 (.faddr 0 (.env 3)),ol 8 (.load 1 false (.loc 7)),ol 9 (.callf 14 [(.loc 6), (.loc 8)]),oe 4 (.mv (.loc 9))]
@[simp] def k13_0 : HCode := .seq (.region r13_1 none) .ret
@[simp] def fn13 : HFn := { nargs := 2, results := [.tmp 4], mode := .iso, code := (.seq (.region r13_0 none) k13_0) }
theorem c13 : cFn Try.prog (Hs 13) .iso 13 = some fn13 := by kernel_rfl
@[simp] def r15_0 : List HOp := [ol 4 (.mv (.env 0)),ol 5 (.mv (.env 0)),ol 6 (.len 1 (.loc 5)),ol 7 (.mv (.env 1)),ol 8 (.callf 27 [(.loc 4), (.loc 6), (.loc 7)])]
@[simp] def fn15 : HFn := { nargs := 2, results := [], mode := .shared, code := (.region r15_0 none) }
theorem c15 : cFn Try.prog (Hs 15) .shared 15 = some fn15 := by kernel_rfl
@[simp] def r27_0 : List HOp := [oe 6 (.mv (vI 20))]
@[simp] def r27_1 : List HOp := [ol 10 (.mv (.env 6)),oe 7 (.mv (vI 0)),oe 8 (.mv (.loc 10))]
@[simp] def r27_2 : List HOp := [ol 11 (.mv (.env 8)),ol 12 (.mv (.env 1)),ol 13 (.bin .other .leq (.loc 11) (.loc 12))]
@[simp] def r27_3 : List HOp := [ol 14 (.mv (.env 0)),ol 15 (.mv (.env 7)),ol 16 (.mv (.env 8)),ol 17 (.mv (.env 2)),ol 18 (.callf 40 [(.loc 14), (.loc 15), (.loc 16), (.loc 17)])]
@[simp] def r27_4 : List HOp := [ol 19 (.mv (.env 8)),oe 7 (.mv (.loc 19))]
@[simp] def r27_5 : List HOp := [ol 20 (.mv (.env 8)),ol 21 (.mv (.env 6)),ol 22 (.bin .other .add (.loc 20) (.loc 21)),oe 8 (.mv (.loc 22))]
@[simp] def r27_6 : List HOp := [ol 23 (.mv (.env 0)),ol 24 (.mv (.env 7)),ol 25 (.mv (.env 1)),ol 26 (.mv (.env 2)),ol 27 (.callf 40 [(.loc 23), (.loc 24), (.loc 25), (.loc 26)])]
@[simp] def r27_7 : List HOp := [ol 28 (.mv (.env 6)),ol 29 (.mv (.env 1)),ol 30 (.bin .other .lss (.loc 28) (.loc 29))]
@[simp] def r27_8 : List HOp := [ol 31 (.mv (.env 6)),ol 32 (.bin .other .mul (vI 2) (.loc 31)),oe 7 (.mv (vI 0)),oe 8 (.mv (.loc 32))]
@[simp] def r27_9 : List HOp := [ol 33 (.mv (.env 8)),ol 34 (.mv (.env 1)),ol 35 (.bin .other .leq (.loc 33) (.loc 34))]
@[simp] def r27_10 : List HOp := [ol 36 (.mv (.env 0)),ol 37 (.mv (.env 7)),ol 38 (.mv (.env 7)),ol 39 (.mv (.env 6)),ol 40 (.bin .other .add (.loc 38) (.loc 39)),ol 41 (.mv (.env 8)),ol 42 (.mv (.env 2)),ol 43 (.callf 41 [(.loc 36), (.loc 37), (.loc 40), (.loc 41), (.loc 42)])]
@[simp] def r27_11 : List HOp := [ol 44 (.mv (.env 8)),oe 7 (.mv (.loc 44))]
@[simp] def r27_12 : List HOp := [ol 45 (.mv (.env 8)),ol 46 (.mv (.env 6)),ol 47 (.bin .other .mul (vI 2) (.loc 46)),ol 48 (.bin .other .add (.loc 45) (.loc 47)),oe 8 (.mv (.loc 48))]
@[simp] def r27_13 : List HOp := [ol 49 (.mv (.env 7)),ol 50 (.mv (.env 6)),ol 51 (.bin .other .add (.loc 49) (.loc 50)),oe 9 (.mv (.loc 51))]
@[simp] def r27_14 : List HOp := [ol 52 (.mv (.env 9)),ol 53 (.mv (.env 1)),ol 54 (.bin .other .lss (.loc 52) (.loc 53))]
@[simp] def r27_15 : List HOp := [ol 55 (.mv (.env 0)),ol 56 (.mv (.env 7)),ol 57 (.mv (.env 9)),ol 58 (.mv (.env 1)),ol 59 (.mv (.env 2)),ol 60 (.callf 41 [(.loc 55), (.loc 56), (.loc 57), (.loc 58), (.loc 59)])]
@[simp] def r27_16 : List HOp := [ol 61 (.mv (.env 6)),ol 62 (.bin .other .mul (.loc 61) (vI 2)),oe 6 (.mv (.loc 62))]
@[simp] def k27_3 : HCode := .cond (.loc 13) .skip (.exit 0)
@[simp] def k27_5 : HCode := .seq (.region r27_4 none) (.region r27_5 none)
def k27_4 : HCode := .block 1 (.seq (.region r27_3 none) k27_5)
def k27_2 : HCode := .seq (.seq (.region r27_2 none) k27_3) k27_4
@[simp] def k27_9 : HCode := .cond (.loc 30) .skip (.exit 2)
@[simp] def k27_13 : HCode := .cond (.loc 35) .skip (.exit 4)
@[simp] def k27_15 : HCode := .seq (.region r27_11 none) (.region r27_12 none)
def k27_14 : HCode := .block 5 (.seq (.region r27_10 none) k27_15)
def k27_12 : HCode := .seq (.seq (.region r27_9 none) k27_13) k27_14
@[simp] def k27_18 : HCode := .cond (.loc 54) (.region r27_15 none) .skip
@[simp] def k27_17 : HCode := .seq (.region r27_14 none) k27_18
def k27_19 : HCode := .region r27_16 none
def k27_16 : HCode := .seq (.seq (.region r27_13 none) k27_17) k27_19
@[simp] def k27_11 : HCode := .seq (.block 4 (.loop k27_12)) k27_16
def k27_10 : HCode := .block 3 (.seq (.region r27_8 none) k27_11)
def k27_8 : HCode := .seq (.seq (.region r27_7 none) k27_9) k27_10
@[simp] def k27_7 : HCode := .block 2 (.loop k27_8)
def k27_6 : HCode := .seq (.region r27_6 none) k27_7
@[simp] def k27_1 : HCode := .seq (.block 0 (.loop k27_2)) k27_6
@[simp] def k27_0 : HCode := .seq (.region r27_1 none) k27_1
@[simp] def fn27 : HFn := { nargs := 3, results := [], mode := .shared, code := (.seq (.region r27_0 none) k27_0) }
theorem c27 : cFn Try.prog (Hs 27) .shared 27 = some fn27 := by kernel_rfl
@[simp] def r40_0 : List HOp := [ol 10 (.mv (.env 1)),ol 11 (.bin .other .add (.loc 10) (vI 1)),oe 8 (.mv (.loc 11))]
@[simp] def r40_1 : List HOp := [ol 12 (.mv (.env 8)),ol 13 (.mv (.env 2)),ol 14 (.bin .other .lss (.loc 12) (.loc 13))]
@[simp] def r40_2 : List HOp := [ol 17 (.mv (.env 8)),oe 9 (.mv (.loc 17))]
@[simp] def r40_3 : List HOp := [ol 18 (.mv (.env 9)),ol 19 (.mv (.env 1)),ol 20 (.bin .other .gtr (.loc 18) (.loc 19)),ol 21 (.mv (.loc 20)),og 22 (.mv (.env 3)) 21 true,og 23 (.mv (.env 0)) 21 true,og 24 (.mv (.env 9)) 21 true,og 25 (.iaddr 2 (.loc 23) (.loc 24)) 21 true,og 26 (.load 2 true (.loc 25)) 21 true,og 27 (.mv (.env 0)) 21 true,og 28 (.mv (.env 9)) 21 true,og 29 (.bin .other .sub (.loc 28) (vI 1)) 21 true,og 30 (.iaddr 2 (.loc 27) (.loc 29)) 21 true,og 31 (.load 2 true (.loc 30)) 21 true,og 32 (.callv (.loc 22) [(.loc 26), (.loc 31)]) 21 true,og 33 (.bin .other .lss (.loc 32) (vI 0)) 21 true,ol 34 (.pick (.loc 21) (.loc 33) (vB false))]
@[simp] def r40_4 : List HOp := [ol 37 (.mv (.env 0)),ol 38 (.mv (.env 9)),ol 39 (.mv (.env 0)),ol 40 (.mv (.env 9)),ol 41 (.bin .other .sub (.loc 40) (vI 1)),ol 42 (.mv (.env 0)),ol 43 (.mv (.env 9)),ol 44 (.bin .other .sub (.loc 43) (vI 1)),ol 45 (.iaddr 2 (.loc 42) (.loc 44)),ol 46 (.load 2 true (.loc 45)),ol 47 (.mv (.env 0)),ol 48 (.mv (.env 9)),ol 49 (.iaddr 2 (.loc 47) (.loc 48)),ol 50 (.load 2 true (.loc 49)),ol 51 (.iaddr 2 (.loc 37) (.loc 38)),ou (.store 2 (.loc 51) (.loc 46)),ol 52 (.iaddr 2 (.loc 39) (.loc 41)),ou (.store 2 (.loc 52) (.loc 50))]
@[simp] def r40_5 : List HOp := [ol 35 (.mv (.env 9)),ol 36 (.bin .other .sub (.loc 35) (vI 1)),oe 9 (.mv (.loc 36))]
@[simp] def r40_6 : List HOp := [ol 15 (.mv (.env 8)),ol 16 (.bin .other .add (.loc 15) (vI 1)),oe 8 (.mv (.loc 16))]
@[simp] def k40_2 : HCode := .cond (.loc 14) .skip (.exit 0)
@[simp] def k40_6 : HCode := .cond (.loc 34) .skip (.exit 2)
def k40_7 : HCode := .seq (.block 3 (.region r40_4 (some [ ( 0, [ 0 ] ) , ( 0, [ 9 ] ) , ( 0, [ 0 ] ) , ( 0, [ 9 ] ) , ( 0, [ 40 ] ) , ( 0, [ 0 ] ) , ( 0, [ 9 ] ) , ( 0, [ 43 ] ) , ( 1, [ 42, 44 ] ) , ( 1, [ 45 ] ) , ( 0, [ 0 ] ) , ( 0, [ 9 ] ) , ( 1, [ 47, 48 ] ) , ( 1, [ 49 ] ) , ( 2, [ 37, 38 ] ) , ( 2, [ 51, 46 ] ) , ( 2, [ 39, 41 ] ) , ( 2, [ 52, 50 ] ) ]))) (.region r40_5 none)
def k40_5 : HCode := .seq (.seq (.region r40_3 (some [ ( 0, [ 9 ] ) , ( 0, [ 1 ] ) , ( 0, [ 18, 19 ] ) , ( 0, [ 20 ] ) , ( 0, [ 3, 21 ] ) , ( 0, [ 0, 21 ] ) , ( 0, [ 9, 21 ] ) , ( 1, [ 23, 24, 21 ] ) , ( 1, [ 25, 21 ] ) , ( 0, [ 0, 21 ] ) , ( 0, [ 9, 21 ] ) , ( 0, [ 28, 21 ] ) , ( 1, [ 27, 29, 21 ] ) , ( 1, [ 30, 21 ] ) , ( 2, [ 22, 26, 31, 21 ] ) , ( 0, [ 32, 21 ] ) , ( 0, [ 21, 33 ] ) ])) k40_6) k40_7
@[simp] def k40_4 : HCode := .block 2 (.loop k40_5)
def k40_8 : HCode := .region r40_6 none
def k40_3 : HCode := .seq (.block 1 (.seq (.region r40_2 none) k40_4)) k40_8
def k40_1 : HCode := .seq (.seq (.region r40_1 none) k40_2) k40_3
@[simp] def k40_0 : HCode := .block 0 (.loop k40_1)
@[simp] def fn40 : HFn := { nargs := 4, results := [], mode := .shared, code := (.seq (.region r40_0 none) k40_0) }
theorem c40 : cFn Try.prog (Hs 40) .shared 40 = some fn40 := by kernel_rfl
@[simp] def r41_0 : List HOp := [ol 25 (.mv (.env 2)),ol 26 (.mv (.env 1)),ol 27 (.bin .other .sub (.loc 25) (.loc 26)),ol 28 (.bin .other .eql (.loc 27) (vI 1))]
@[simp] def r41_1 : List HOp := [ol 29 (.mv (.env 2)),oe 10 (.mv (.loc 29))]
@[simp] def r41_2 : List HOp := [ol 30 (.mv (.env 3)),oe 11 (.mv (.loc 30))]
@[simp] def r41_3 : List HOp := [ol 31 (.mv (.env 10)),ol 32 (.mv (.env 11)),ol 33 (.bin .other .lss (.loc 31) (.loc 32))]
@[simp] def r41_4 : List HOp := [ol 34 (.mv (.env 10)),ol 35 (.mv (.env 11)),ol 36 (.bin .other .add (.loc 34) (.loc 35)),ol 37 (.conv (.toInt .u64) (.loc 36)),ol 38 (.bin .other .shr (.loc 37) (.val (.tr (.sc (.int .u64 1))))),ol 39 (.conv (.toInt .i64) (.loc 38)),oe 12 (.mv (.loc 39))]
@[simp] def r41_5 : List HOp := [ol 40 (.mv (.env 4)),ol 41 (.mv (.env 0)),ol 42 (.mv (.env 12)),ol 43 (.iaddr 2 (.loc 41) (.loc 42)),ol 44 (.load 2 true (.loc 43)),ol 45 (.mv (.env 0)),ol 46 (.mv (.env 1)),ol 47 (.iaddr 2 (.loc 45) (.loc 46)),ol 48 (.load 2 true (.loc 47)),ol 49 (.callv (.loc 40) [(.loc 44), (.loc 48)]),ol 50 (.bin .other .lss (.loc 49) (vI 0))]
@[simp] def r41_6 : List HOp := [ol 51 (.mv (.env 12)),ol 52 (.bin .other .add (.loc 51) (vI 1)),oe 10 (.mv (.loc 52))]
@[simp] def r41_7 : List HOp := [ol 53 (.mv (.env 12)),oe 11 (.mv (.loc 53))]
@[simp] def r41_8 : List HOp := [ol 54 (.mv (.env 1)),oe 13 (.mv (.loc 54))]
@[simp] def r41_9 : List HOp := [ol 55 (.mv (.env 13)),ol 56 (.mv (.env 10)),ol 57 (.bin .other .sub (.loc 56) (vI 1)),ol 58 (.bin .other .lss (.loc 55) (.loc 57))]
@[simp] def r41_10 : List HOp := [ol 61 (.mv (.env 0)),ol 62 (.mv (.env 13)),ol 63 (.mv (.env 0)),ol 64 (.mv (.env 13)),ol 65 (.bin .other .add (.loc 64) (vI 1)),ol 66 (.mv (.env 0)),ol 67 (.mv (.env 13)),ol 68 (.bin .other .add (.loc 67) (vI 1)),ol 69 (.iaddr 2 (.loc 66) (.loc 68)),ol 70 (.load 2 true (.loc 69)),ol 71 (.mv (.env 0)),ol 72 (.mv (.env 13)),ol 73 (.iaddr 2 (.loc 71) (.loc 72)),ol 74 (.load 2 true (.loc 73)),ol 75 (.iaddr 2 (.loc 61) (.loc 62)),ou (.store 2 (.loc 75) (.loc 70)),ol 76 (.iaddr 2 (.loc 63) (.loc 65)),ou (.store 2 (.loc 76) (.loc 74))]
@[simp] def r41_11 : List HOp := [ol 59 (.mv (.env 13)),ol 60 (.bin .other .add (.loc 59) (vI 1)),oe 13 (.mv (.loc 60))]
@[simp] def r41_12 : List HOp := [ol 77 (.mv (.env 3)),ol 78 (.mv (.env 2)),ol 79 (.bin .other .sub (.loc 77) (.loc 78)),ol 80 (.bin .other .eql (.loc 79) (vI 1))]
@[simp] def r41_13 : List HOp := [ol 81 (.mv (.env 1)),oe 14 (.mv (.loc 81))]
@[simp] def r41_14 : List HOp := [ol 82 (.mv (.env 2)),oe 15 (.mv (.loc 82))]
@[simp] def r41_15 : List HOp := [ol 83 (.mv (.env 14)),ol 84 (.mv (.env 15)),ol 85 (.bin .other .lss (.loc 83) (.loc 84))]
@[simp] def r41_16 : List HOp := [ol 86 (.mv (.env 14)),ol 87 (.mv (.env 15)),ol 88 (.bin .other .add (.loc 86) (.loc 87)),ol 89 (.conv (.toInt .u64) (.loc 88)),ol 90 (.bin .other .shr (.loc 89) (.val (.tr (.sc (.int .u64 1))))),ol 91 (.conv (.toInt .i64) (.loc 90)),oe 16 (.mv (.loc 91))]
@[simp] def r41_17 : List HOp := [ol 92 (.mv (.env 4)),ol 93 (.mv (.env 0)),ol 94 (.mv (.env 2)),ol 95 (.iaddr 2 (.loc 93) (.loc 94)),ol 96 (.load 2 true (.loc 95)),ol 97 (.mv (.env 0)),ol 98 (.mv (.env 16)),ol 99 (.iaddr 2 (.loc 97) (.loc 98)),ol 100 (.load 2 true (.loc 99)),ol 101 (.callv (.loc 92) [(.loc 96), (.loc 100)]),ol 102 (.bin .other .lss (.loc 101) (vI 0)),ol 103 (.un .not (.loc 102))]
@[simp] def r41_18 : List HOp := [ol 104 (.mv (.env 16)),ol 105 (.bin .other .add (.loc 104) (vI 1)),oe 14 (.mv (.loc 105))]
@[simp] def r41_19 : List HOp := [ol 106 (.mv (.env 16)),oe 15 (.mv (.loc 106))]
@[simp] def r41_20 : List HOp := [ol 107 (.mv (.env 2)),oe 17 (.mv (.loc 107))]
@[simp] def r41_21 : List HOp := [ol 108 (.mv (.env 17)),ol 109 (.mv (.env 14)),ol 110 (.bin .other .gtr (.loc 108) (.loc 109))]
@[simp] def r41_22 : List HOp := [ol 113 (.mv (.env 0)),ol 114 (.mv (.env 17)),ol 115 (.mv (.env 0)),ol 116 (.mv (.env 17)),ol 117 (.bin .other .sub (.loc 116) (vI 1)),ol 118 (.mv (.env 0)),ol 119 (.mv (.env 17)),ol 120 (.bin .other .sub (.loc 119) (vI 1)),ol 121 (.iaddr 2 (.loc 118) (.loc 120)),ol 122 (.load 2 true (.loc 121)),ol 123 (.mv (.env 0)),ol 124 (.mv (.env 17)),ol 125 (.iaddr 2 (.loc 123) (.loc 124)),ol 126 (.load 2 true (.loc 125)),ol 127 (.iaddr 2 (.loc 113) (.loc 114)),ou (.store 2 (.loc 127) (.loc 122)),ol 128 (.iaddr 2 (.loc 115) (.loc 117)),ou (.store 2 (.loc 128) (.loc 126))]
@[simp] def r41_23 : List HOp := [ol 111 (.mv (.env 17)),ol 112 (.bin .other .sub (.loc 111) (vI 1)),oe 17 (.mv (.loc 112))]
@[simp] def r41_24 : List HOp := [ol 129 (.mv (.env 1)),ol 130 (.mv (.env 3)),ol 131 (.bin .other .add (.loc 129) (.loc 130)),ol 132 (.conv (.toInt .u64) (.loc 131)),ol 133 (.bin .other .shr (.loc 132) (.val (.tr (.sc (.int .u64 1))))),ol 134 (.conv (.toInt .i64) (.loc 133)),oe 18 (.mv (.loc 134))]
@[simp] def r41_25 : List HOp := [ol 135 (.mv (.env 18)),ol 136 (.mv (.env 2)),ol 137 (.bin .other .add (.loc 135) (.loc 136)),oe 19 (.mv (.loc 137))]
@[simp] def r41_26 : List HOp := [oe 20 (.mv (vI 0)),oe 21 (.mv (vI 0))]
@[simp] def r41_27 : List HOp := [ol 138 (.mv (.env 2)),ol 139 (.mv (.env 18)),ol 140 (.bin .other .gtr (.loc 138) (.loc 139))]
@[simp] def r41_28 : List HOp := [ol 141 (.mv (.env 19)),ol 142 (.mv (.env 3)),ol 143 (.bin .other .sub (.loc 141) (.loc 142)),oe 20 (.mv (.loc 143))]
@[simp] def r41_29 : List HOp := [ol 144 (.mv (.env 18)),oe 21 (.mv (.loc 144))]
@[simp] def r41_30 : List HOp := [ol 145 (.mv (.env 1)),oe 20 (.mv (.loc 145))]
@[simp] def r41_31 : List HOp := [ol 146 (.mv (.env 2)),oe 21 (.mv (.loc 146))]
@[simp] def r41_32 : List HOp := [ol 147 (.mv (.env 19)),ol 148 (.bin .other .sub (.loc 147) (vI 1)),oe 22 (.mv (.loc 148))]
@[simp] def r41_33 : List HOp := [ol 149 (.mv (.env 20)),ol 150 (.mv (.env 21)),ol 151 (.bin .other .lss (.loc 149) (.loc 150))]
@[simp] def r41_34 : List HOp := [ol 152 (.mv (.env 20)),ol 153 (.mv (.env 21)),ol 154 (.bin .other .add (.loc 152) (.loc 153)),ol 155 (.conv (.toInt .u64) (.loc 154)),ol 156 (.bin .other .shr (.loc 155) (.val (.tr (.sc (.int .u64 1))))),ol 157 (.conv (.toInt .i64) (.loc 156)),oe 23 (.mv (.loc 157))]
@[simp] def r41_35 : List HOp := [ol 158 (.mv (.env 4)),ol 159 (.mv (.env 0)),ol 160 (.mv (.env 22)),ol 161 (.mv (.env 23)),ol 162 (.bin .other .sub (.loc 160) (.loc 161)),ol 163 (.iaddr 2 (.loc 159) (.loc 162)),ol 164 (.load 2 true (.loc 163)),ol 165 (.mv (.env 0)),ol 166 (.mv (.env 23)),ol 167 (.iaddr 2 (.loc 165) (.loc 166)),ol 168 (.load 2 true (.loc 167)),ol 169 (.callv (.loc 158) [(.loc 164), (.loc 168)]),ol 170 (.bin .other .lss (.loc 169) (vI 0)),ol 171 (.un .not (.loc 170))]
@[simp] def r41_36 : List HOp := [ol 172 (.mv (.env 23)),ol 173 (.bin .other .add (.loc 172) (vI 1)),oe 20 (.mv (.loc 173))]
@[simp] def r41_37 : List HOp := [ol 174 (.mv (.env 23)),oe 21 (.mv (.loc 174))]
@[simp] def r41_38 : List HOp := [ol 175 (.mv (.env 19)),ol 176 (.mv (.env 20)),ol 177 (.bin .other .sub (.loc 175) (.loc 176)),oe 24 (.mv (.loc 177))]
@[simp] def r41_39 : List HOp := [ol 178 (.mv (.env 20)),ol 179 (.mv (.env 2)),ol 180 (.bin .other .lss (.loc 178) (.loc 179)),ol 181 (.mv (.loc 180)),og 182 (.mv (.env 2)) 181 true,og 183 (.mv (.env 24)) 181 true,og 184 (.bin .other .lss (.loc 182) (.loc 183)) 181 true,ol 185 (.pick (.loc 181) (.loc 184) (vB false))]
@[simp] def r41_40 : List HOp := [ol 186 (.mv (.env 0)),ol 187 (.mv (.env 20)),ol 188 (.mv (.env 2)),ol 189 (.mv (.env 24)),ol 190 (.mv (.env 4)),ol 191 (.callf 61 [(.loc 186), (.loc 187), (.loc 188), (.loc 189), (.loc 190)])]
@[simp] def r41_41 : List HOp := [ol 192 (.mv (.env 1)),ol 193 (.mv (.env 20)),ol 194 (.bin .other .lss (.loc 192) (.loc 193)),ol 195 (.mv (.loc 194)),og 196 (.mv (.env 20)) 195 true,og 197 (.mv (.env 18)) 195 true,og 198 (.bin .other .lss (.loc 196) (.loc 197)) 195 true,ol 199 (.pick (.loc 195) (.loc 198) (vB false))]
@[simp] def r41_42 : List HOp := [ol 200 (.mv (.env 0)),ol 201 (.mv (.env 1)),ol 202 (.mv (.env 20)),ol 203 (.mv (.env 18)),ol 204 (.mv (.env 4)),ol 205 (.callf 41 [(.loc 200), (.loc 201), (.loc 202), (.loc 203), (.loc 204)])]
@[simp] def r41_43 : List HOp := [ol 206 (.mv (.env 18)),ol 207 (.mv (.env 24)),ol 208 (.bin .other .lss (.loc 206) (.loc 207)),ol 209 (.mv (.loc 208)),og 210 (.mv (.env 24)) 209 true,og 211 (.mv (.env 3)) 209 true,og 212 (.bin .other .lss (.loc 210) (.loc 211)) 209 true,ol 213 (.pick (.loc 209) (.loc 212) (vB false))]
@[simp] def r41_44 : List HOp := [ol 214 (.mv (.env 0)),ol 215 (.mv (.env 18)),ol 216 (.mv (.env 24)),ol 217 (.mv (.env 3)),ol 218 (.mv (.env 4)),ol 219 (.callf 41 [(.loc 214), (.loc 215), (.loc 216), (.loc 217), (.loc 218)])]
@[simp] def k41_5 : HCode := .cond (.loc 33) .skip (.exit 0)
@[simp] def k41_8 : HCode := .cond (.loc 50) (.region r41_6 none) (.region r41_7 none)
@[simp] def k41_7 : HCode := .seq (.region r41_5 (some [ ( 0, [ 4 ] ) , ( 0, [ 0 ] ) , ( 0, [ 12 ] ) , ( 1, [ 41, 42 ] ) , ( 1, [ 43 ] ) , ( 0, [ 0 ] ) , ( 0, [ 1 ] ) , ( 1, [ 45, 46 ] ) , ( 1, [ 47 ] ) , ( 2, [ 40, 44, 48 ] ) , ( 0, [ 49 ] ) ])) k41_8
def k41_6 : HCode := .block 1 (.seq (.region r41_4 none) k41_7)
def k41_4 : HCode := .seq (.seq (.region r41_3 none) k41_5) k41_6
@[simp] def k41_12 : HCode := .cond (.loc 58) .skip (.exit 2)
def k41_13 : HCode := .seq (.block 3 (.region r41_10 (some [ ( 0, [ 0 ] ) , ( 0, [ 13 ] ) , ( 0, [ 0 ] ) , ( 0, [ 13 ] ) , ( 0, [ 64 ] ) , ( 0, [ 0 ] ) , ( 0, [ 13 ] ) , ( 0, [ 67 ] ) , ( 1, [ 66, 68 ] ) , ( 1, [ 69 ] ) , ( 0, [ 0 ] ) , ( 0, [ 13 ] ) , ( 1, [ 71, 72 ] ) , ( 1, [ 73 ] ) , ( 2, [ 61, 62 ] ) , ( 2, [ 75, 70 ] ) , ( 2, [ 63, 65 ] ) , ( 2, [ 76, 74 ] ) ]))) (.region r41_11 none)
def k41_11 : HCode := .seq (.seq (.region r41_9 none) k41_12) k41_13
@[simp] def k41_10 : HCode := .block 2 (.loop k41_11)
def k41_9 : HCode := .seq (.seq (.region r41_8 none) k41_10) .ret
@[simp] def k41_3 : HCode := .seq (.block 0 (.loop k41_4)) k41_9
@[simp] def k41_2 : HCode := .seq (.region r41_2 none) k41_3
@[simp] def k41_1 : HCode := .seq (.region r41_1 none) k41_2
@[simp] def k41_0 : HCode := .cond (.loc 28) k41_1 .skip
@[simp] def k41_20 : HCode := .cond (.loc 85) .skip (.exit 4)
@[simp] def k41_23 : HCode := .cond (.loc 103) (.region r41_18 none) (.region r41_19 none)
@[simp] def k41_22 : HCode := .seq (.region r41_17 (some [ ( 0, [ 4 ] ) , ( 0, [ 0 ] ) , ( 0, [ 2 ] ) , ( 1, [ 93, 94 ] ) , ( 1, [ 95 ] ) , ( 0, [ 0 ] ) , ( 0, [ 16 ] ) , ( 1, [ 97, 98 ] ) , ( 1, [ 99 ] ) , ( 2, [ 92, 96, 100 ] ) , ( 0, [ 101 ] ) , ( 0, [ 102 ] ) ])) k41_23
def k41_21 : HCode := .block 5 (.seq (.region r41_16 none) k41_22)
def k41_19 : HCode := .seq (.seq (.region r41_15 none) k41_20) k41_21
@[simp] def k41_27 : HCode := .cond (.loc 110) .skip (.exit 6)
def k41_28 : HCode := .seq (.block 7 (.region r41_22 (some [ ( 0, [ 0 ] ) , ( 0, [ 17 ] ) , ( 0, [ 0 ] ) , ( 0, [ 17 ] ) , ( 0, [ 116 ] ) , ( 0, [ 0 ] ) , ( 0, [ 17 ] ) , ( 0, [ 119 ] ) , ( 1, [ 118, 120 ] ) , ( 1, [ 121 ] ) , ( 0, [ 0 ] ) , ( 0, [ 17 ] ) , ( 1, [ 123, 124 ] ) , ( 1, [ 125 ] ) , ( 2, [ 113, 114 ] ) , ( 2, [ 127, 122 ] ) , ( 2, [ 115, 117 ] ) , ( 2, [ 128, 126 ] ) ]))) (.region r41_23 none)
def k41_26 : HCode := .seq (.seq (.region r41_21 none) k41_27) k41_28
@[simp] def k41_25 : HCode := .block 6 (.loop k41_26)
def k41_24 : HCode := .seq (.seq (.region r41_20 none) k41_25) .ret
@[simp] def k41_18 : HCode := .seq (.block 4 (.loop k41_19)) k41_24
@[simp] def k41_17 : HCode := .seq (.region r41_14 none) k41_18
@[simp] def k41_16 : HCode := .seq (.region r41_13 none) k41_17
@[simp] def k41_15 : HCode := .cond (.loc 80) k41_16 .skip
@[simp] def k41_34 : HCode := .seq (.region r41_28 none) (.region r41_29 none)
@[simp] def k41_35 : HCode := .seq (.region r41_30 none) (.region r41_31 none)
@[simp] def k41_33 : HCode := .cond (.loc 140) k41_34 k41_35
@[simp] def k41_39 : HCode := .cond (.loc 151) .skip (.exit 8)
@[simp] def k41_42 : HCode := .cond (.loc 171) (.region r41_36 none) (.region r41_37 none)
@[simp] def k41_41 : HCode := .seq (.region r41_35 (some [ ( 0, [ 4 ] ) , ( 0, [ 0 ] ) , ( 0, [ 22 ] ) , ( 0, [ 23 ] ) , ( 0, [ 160, 161 ] ) , ( 1, [ 159, 162 ] ) , ( 1, [ 163 ] ) , ( 0, [ 0 ] ) , ( 0, [ 23 ] ) , ( 1, [ 165, 166 ] ) , ( 1, [ 167 ] ) , ( 2, [ 158, 164, 168 ] ) , ( 0, [ 169 ] ) , ( 0, [ 170 ] ) ])) k41_42
def k41_40 : HCode := .block 9 (.seq (.region r41_34 none) k41_41)
def k41_38 : HCode := .seq (.seq (.region r41_33 none) k41_39) k41_40
@[simp] def k41_45 : HCode := .cond (.loc 185) (.region r41_40 none) .skip
@[simp] def k41_47 : HCode := .cond (.loc 199) (.region r41_42 none) .skip
@[simp] def k41_49 : HCode := .cond (.loc 213) (.region r41_44 none) .skip
def k41_48 : HCode := .seq (.region r41_43 none) k41_49
def k41_46 : HCode := .seq (.seq (.region r41_41 none) k41_47) k41_48
@[simp] def k41_44 : HCode := .seq (.seq (.region r41_39 none) k41_45) k41_46
def k41_43 : HCode := .seq (.region r41_38 none) k41_44
@[simp] def k41_37 : HCode := .seq (.block 8 (.loop k41_38)) k41_43
def k41_36 : HCode := .seq (.region r41_32 none) k41_37
@[simp] def k41_32 : HCode := .seq (.seq (.region r41_27 none) k41_33) k41_36
@[simp] def k41_31 : HCode := .seq (.region r41_26 none) k41_32
@[simp] def k41_30 : HCode := .seq (.region r41_25 none) k41_31
def k41_29 : HCode := .seq (.region r41_24 none) k41_30
def k41_14 : HCode := .seq (.seq (.region r41_12 none) k41_15) k41_29
@[simp] def fn41 : HFn := { nargs := 5, results := [], mode := .shared, code := (.seq (.seq (.region r41_0 none) k41_0) k41_14) }
theorem c41 : cFn Try.prog (Hs 41) .shared 41 = some fn41 := by kernel_rfl
@[simp] def r61_0 : List HOp := [ol 12 (.mv (.env 2)),ol 13 (.mv (.env 1)),ol 14 (.bin .other .sub (.loc 12) (.loc 13)),oe 10 (.mv (.loc 14))]
@[simp] def r61_1 : List HOp := [ol 15 (.mv (.env 3)),ol 16 (.mv (.env 2)),ol 17 (.bin .other .sub (.loc 15) (.loc 16)),oe 11 (.mv (.loc 17))]
@[simp] def r61_2 : List HOp := [ol 18 (.mv (.env 10)),ol 19 (.mv (.env 11)),ol 20 (.bin .other .neq (.loc 18) (.loc 19))]
@[simp] def r61_3 : List HOp := [ol 21 (.mv (.env 10)),ol 22 (.mv (.env 11)),ol 23 (.bin .other .gtr (.loc 21) (.loc 22))]
@[simp] def r61_4 : List HOp := [ol 24 (.mv (.env 0)),ol 25 (.mv (.env 2)),ol 26 (.mv (.env 10)),ol 27 (.bin .other .sub (.loc 25) (.loc 26)),ol 28 (.mv (.env 2)),ol 29 (.mv (.env 11)),ol 30 (.mv (.env 4)),ol 31 (.callf 73 [(.loc 24), (.loc 27), (.loc 28), (.loc 29), (.loc 30)])]
@[simp] def r61_5 : List HOp := [ol 32 (.mv (.env 10)),ol 33 (.mv (.env 11)),ol 34 (.bin .other .sub (.loc 32) (.loc 33)),oe 10 (.mv (.loc 34))]
@[simp] def r61_6 : List HOp := [ol 35 (.mv (.env 0)),ol 36 (.mv (.env 2)),ol 37 (.mv (.env 10)),ol 38 (.bin .other .sub (.loc 36) (.loc 37)),ol 39 (.mv (.env 2)),ol 40 (.mv (.env 11)),ol 41 (.bin .other .add (.loc 39) (.loc 40)),ol 42 (.mv (.env 10)),ol 43 (.bin .other .sub (.loc 41) (.loc 42)),ol 44 (.mv (.env 10)),ol 45 (.mv (.env 4)),ol 46 (.callf 73 [(.loc 35), (.loc 38), (.loc 43), (.loc 44), (.loc 45)])]
@[simp] def r61_7 : List HOp := [ol 47 (.mv (.env 11)),ol 48 (.mv (.env 10)),ol 49 (.bin .other .sub (.loc 47) (.loc 48)),oe 11 (.mv (.loc 49))]
@[simp] def r61_8 : List HOp := [ol 50 (.mv (.env 0)),ol 51 (.mv (.env 2)),ol 52 (.mv (.env 10)),ol 53 (.bin .other .sub (.loc 51) (.loc 52)),ol 54 (.mv (.env 2)),ol 55 (.mv (.env 10)),ol 56 (.mv (.env 4)),ol 57 (.callf 73 [(.loc 50), (.loc 53), (.loc 54), (.loc 55), (.loc 56)])]
@[simp] def k61_3 : HCode := .cond (.loc 20) .skip (.exit 0)
@[simp] def k61_6 : HCode := .seq (.region r61_4 none) (.region r61_5 none)
@[simp] def k61_7 : HCode := .seq (.region r61_6 none) (.region r61_7 none)
@[simp] def k61_5 : HCode := .cond (.loc 23) k61_6 k61_7
def k61_4 : HCode := .block 1 (.seq (.region r61_3 none) k61_5)
def k61_2 : HCode := .seq (.seq (.region r61_2 none) k61_3) k61_4
def k61_8 : HCode := .region r61_8 none
@[simp] def k61_1 : HCode := .seq (.block 0 (.loop k61_2)) k61_8
@[simp] def k61_0 : HCode := .seq (.region r61_1 none) k61_1
@[simp] def fn61 : HFn := { nargs := 5, results := [], mode := .shared, code := (.seq (.region r61_0 none) k61_0) }
theorem c61 : cFn Try.prog (Hs 61) .shared 61 = some fn61 := by kernel_rfl
@[simp] def r73_0 : List HOp := [oe 10 (.mv (vI 0))]
@[simp] def r73_1 : List HOp := [ol 11 (.mv (.env 10)),ol 12 (.mv (.env 3)),ol 13 (.bin .other .lss (.loc 11) (.loc 12))]
@[simp] def r73_2 : List HOp := [ol 16 (.mv (.env 0)),ol 17 (.mv (.env 1)),ol 18 (.mv (.env 10)),ol 19 (.bin .other .add (.loc 17) (.loc 18)),ol 20 (.mv (.env 0)),ol 21 (.mv (.env 2)),ol 22 (.mv (.env 10)),ol 23 (.bin .other .add (.loc 21) (.loc 22)),ol 24 (.mv (.env 0)),ol 25 (.mv (.env 2)),ol 26 (.mv (.env 10)),ol 27 (.bin .other .add (.loc 25) (.loc 26)),ol 28 (.iaddr 2 (.loc 24) (.loc 27)),ol 29 (.load 2 true (.loc 28)),ol 30 (.mv (.env 0)),ol 31 (.mv (.env 1)),ol 32 (.mv (.env 10)),ol 33 (.bin .other .add (.loc 31) (.loc 32)),ol 34 (.iaddr 2 (.loc 30) (.loc 33)),ol 35 (.load 2 true (.loc 34)),ol 36 (.iaddr 2 (.loc 16) (.loc 19)),ou (.store 2 (.loc 36) (.loc 29)),ol 37 (.iaddr 2 (.loc 20) (.loc 23)),ou (.store 2 (.loc 37) (.loc 35))]
@[simp] def r73_3 : List HOp := [ol 14 (.mv (.env 10)),ol 15 (.bin .other .add (.loc 14) (vI 1)),oe 10 (.mv (.loc 15))]
@[simp] def k73_2 : HCode := .cond (.loc 13) .skip (.exit 0)
def k73_3 : HCode := .seq (.block 1 (.region r73_2 (some [ ( 0, [ 0 ] ) , ( 0, [ 1 ] ) , ( 0, [ 10 ] ) , ( 0, [ 17, 18 ] ) , ( 0, [ 0 ] ) , ( 0, [ 2 ] ) , ( 0, [ 10 ] ) , ( 0, [ 21, 22 ] ) , ( 0, [ 0 ] ) , ( 0, [ 2 ] ) , ( 0, [ 10 ] ) , ( 0, [ 25, 26 ] ) , ( 1, [ 24, 27 ] ) , ( 1, [ 28 ] ) , ( 0, [ 0 ] ) , ( 0, [ 1 ] ) , ( 0, [ 10 ] ) , ( 0, [ 31, 32 ] ) , ( 1, [ 30, 33 ] ) , ( 1, [ 34 ] ) , ( 2, [ 16, 19 ] ) , ( 2, [ 36, 29 ] ) , ( 2, [ 20, 23 ] ) , ( 2, [ 37, 35 ] ) ]))) (.region r73_3 none)
def k73_1 : HCode := .seq (.seq (.region r73_1 none) k73_2) k73_3
@[simp] def k73_0 : HCode := .block 0 (.loop k73_1)
@[simp] def fn73 : HFn := { nargs := 5, results := [], mode := .shared, code := (.seq (.region r73_0 none) k73_0) }
theorem c73 : cFn Try.prog (Hs 73) .shared 73 = some fn73 := by kernel_rfl
@[simp] def r16_0 : List HOp := [oe 2 (.box true (.env 0)),oe 3 (.box true (.env 1)),oe 4 (.mv (vI 0))]
@[simp] def r16_1 : List HOp := [ol 5 (.faddr 0 (.env 2)),ol 6 (.load 1 false (.loc 5)),ol 7 (.faddr 0 (.env 3)),ol 8 (.load 1 false (.loc 7)),ol 9 (.callf 14 [(.loc 6), (.loc 8)]),oe 4 (.mv (.loc 9))]
@[simp] def k16_0 : HCode := .seq (.region r16_1 none) .ret
@[simp] def fn16 : HFn := { nargs := 2, results := [.tmp 4], mode := .shared, code := (.seq (.region r16_0 none) k16_0) }
theorem c16 : cFn Try.prog (Hs 16) .shared 16 = some fn16 := by kernel_rfl
def fn5 : HFn := { nargs := 0, code := .bad, results := [], mode := .ext 18 }
def fn11 : HFn := { nargs := 1, code := .bad, results := [], mode := .ext 19 }
def fn14 : HFn := { nargs := 2, code := .bad, results := [], mode := .ext 4 }
noncomputable def T : FTab := fun f => (bif2 (Nat.ble f 16) (bif2 (Nat.ble f 11) (bif2 (Nat.ble f 5) (bif2 (Nat.ble f 3) (bif2 (Nat.beq f 3) (some fn3) none) (bif2 (Nat.beq f 5) (some fn5) none)) (bif2 (Nat.ble f 6) (bif2 (Nat.beq f 6) (some fn6) none) (bif2 (Nat.beq f 11) (some fn11) none))) (bif2 (Nat.ble f 13) (bif2 (Nat.ble f 12) (bif2 (Nat.beq f 12) (some fn12) none) (bif2 (Nat.beq f 13) (some fn13) none)) (bif2 (Nat.ble f 14) (bif2 (Nat.beq f 14) (some fn14) none) (bif2 (Nat.ble f 15) (bif2 (Nat.beq f 15) (some fn15) none) (bif2 (Nat.beq f 16) (some fn16) none))))) (bif2 (Nat.ble f 40) (bif2 (Nat.ble f 27) (bif2 (Nat.ble f 25) (bif2 (Nat.beq f 25) (some fn25) none) (bif2 (Nat.beq f 27) (some fn27) none)) (bif2 (Nat.ble f 37) (bif2 (Nat.beq f 37) (some fn37) none) (bif2 (Nat.ble f 38) (bif2 (Nat.beq f 38) (some fn38) none) (bif2 (Nat.beq f 40) (some fn40) none)))) (bif2 (Nat.ble f 60) (bif2 (Nat.ble f 41) (bif2 (Nat.beq f 41) (some fn41) none) (bif2 (Nat.beq f 60) (some fn60) none)) (bif2 (Nat.ble f 61) (bif2 (Nat.beq f 61) (some fn61) none) (bif2 (Nat.ble f 72) (bif2 (Nat.beq f 72) (some fn72) none) (bif2 (Nat.beq f 73) (some fn73) none))))))
theorem T3 : T 3 = some fn3 := rfl
theorem T5 : T 5 = some fn5 := rfl
theorem T6 : T 6 = some fn6 := rfl
theorem T11 : T 11 = some fn11 := rfl
theorem T12 : T 12 = some fn12 := rfl
theorem T13 : T 13 = some fn13 := rfl
theorem T14 : T 14 = some fn14 := rfl
theorem T15 : T 15 = some fn15 := rfl
theorem T16 : T 16 = some fn16 := rfl
theorem T25 : T 25 = some fn25 := rfl
theorem T27 : T 27 = some fn27 := rfl
theorem T37 : T 37 = some fn37 := rfl
theorem T38 : T 38 = some fn38 := rfl
theorem T40 : T 40 = some fn40 := rfl
theorem T60 : T 60 = some fn60 := rfl
theorem T72 : T 72 = some fn72 := rfl
theorem tabOk {Gd : Ground} (hg : GroundOk Gd) (he : ∀ f n k, Te f = some (n, k) → ExtOk Gd Try.prog f k) : TabOk Gd Try.prog T := by
  refine ⟨hg, fun f hfn h => ?_⟩
  unfold T at h
  rcases bif2_or h with ⟨_, h⟩ | ⟨_, h⟩
  · rcases bif2_or h with ⟨_, h⟩ | ⟨_, h⟩
    · rcases bif2_or h with ⟨_, h⟩ | ⟨_, h⟩
      · rcases bif2_or h with ⟨_, h⟩ | ⟨_, h⟩
        · obtain ⟨hb, h⟩ := bif2_some h
          cases h
          rw [Nat.eq_of_beq_eq_true hb]
          exact .inl ⟨fun k hk => (by cases hk), Hs 3, c3⟩
        · obtain ⟨hb, h⟩ := bif2_some h
          cases h
          rw [Nat.eq_of_beq_eq_true hb]
          exact .inr ⟨18, rfl, he 5 _ _ rfl⟩
      · rcases bif2_or h with ⟨_, h⟩ | ⟨_, h⟩
        · obtain ⟨hb, h⟩ := bif2_some h
          cases h
          rw [Nat.eq_of_beq_eq_true hb]
          exact .inl ⟨fun k hk => (by cases hk), Hs 6, c6⟩
        · obtain ⟨hb, h⟩ := bif2_some h
          cases h
          rw [Nat.eq_of_beq_eq_true hb]
          exact .inr ⟨19, rfl, he 11 _ _ rfl⟩
    · rcases bif2_or h with ⟨_, h⟩ | ⟨_, h⟩
      · rcases bif2_or h with ⟨_, h⟩ | ⟨_, h⟩
        · obtain ⟨hb, h⟩ := bif2_some h
          cases h
          rw [Nat.eq_of_beq_eq_true hb]
          exact .inl ⟨fun k hk => (by cases hk), Hs 12, c12⟩
        · obtain ⟨hb, h⟩ := bif2_some h
          cases h
          rw [Nat.eq_of_beq_eq_true hb]
          exact .inl ⟨fun k hk => (by cases hk), Hs 13, c13⟩
      · rcases bif2_or h with ⟨_, h⟩ | ⟨_, h⟩
        · obtain ⟨hb, h⟩ := bif2_some h
          cases h
          rw [Nat.eq_of_beq_eq_true hb]
          exact .inr ⟨4, rfl, he 14 _ _ rfl⟩
        · rcases bif2_or h with ⟨_, h⟩ | ⟨_, h⟩
          · obtain ⟨hb, h⟩ := bif2_some h
            cases h
            rw [Nat.eq_of_beq_eq_true hb]
            exact .inl ⟨fun k hk => (by cases hk), Hs 15, c15⟩
          · obtain ⟨hb, h⟩ := bif2_some h
            cases h
            rw [Nat.eq_of_beq_eq_true hb]
            exact .inl ⟨fun k hk => (by cases hk), Hs 16, c16⟩
  · rcases bif2_or h with ⟨_, h⟩ | ⟨_, h⟩
    · rcases bif2_or h with ⟨_, h⟩ | ⟨_, h⟩
      · rcases bif2_or h with ⟨_, h⟩ | ⟨_, h⟩
        · obtain ⟨hb, h⟩ := bif2_some h
          cases h
          rw [Nat.eq_of_beq_eq_true hb]
          exact .inl ⟨fun k hk => (by cases hk), Hs 25, c25⟩
        · obtain ⟨hb, h⟩ := bif2_some h
          cases h
          rw [Nat.eq_of_beq_eq_true hb]
          exact .inl ⟨fun k hk => (by cases hk), Hs 27, c27⟩
      · rcases bif2_or h with ⟨_, h⟩ | ⟨_, h⟩
        · obtain ⟨hb, h⟩ := bif2_some h
          cases h
          rw [Nat.eq_of_beq_eq_true hb]
          exact .inl ⟨fun k hk => (by cases hk), Hs 37, c37⟩
        · rcases bif2_or h with ⟨_, h⟩ | ⟨_, h⟩
          · obtain ⟨hb, h⟩ := bif2_some h
            cases h
            rw [Nat.eq_of_beq_eq_true hb]
            exact .inl ⟨fun k hk => (by cases hk), Hs 38, c38⟩
          · obtain ⟨hb, h⟩ := bif2_some h
            cases h
            rw [Nat.eq_of_beq_eq_true hb]
            exact .inl ⟨fun k hk => (by cases hk), Hs 40, c40⟩
    · rcases bif2_or h with ⟨_, h⟩ | ⟨_, h⟩
      · rcases bif2_or h with ⟨_, h⟩ | ⟨_, h⟩
        · obtain ⟨hb, h⟩ := bif2_some h
          cases h
          rw [Nat.eq_of_beq_eq_true hb]
          exact .inl ⟨fun k hk => (by cases hk), Hs 41, c41⟩
        · obtain ⟨hb, h⟩ := bif2_some h
          cases h
          rw [Nat.eq_of_beq_eq_true hb]
          exact .inl ⟨fun k hk => (by cases hk), Hs 60, c60⟩
      · rcases bif2_or h with ⟨_, h⟩ | ⟨_, h⟩
        · obtain ⟨hb, h⟩ := bif2_some h
          cases h
          rw [Nat.eq_of_beq_eq_true hb]
          exact .inl ⟨fun k hk => (by cases hk), Hs 61, c61⟩
        · rcases bif2_or h with ⟨_, h⟩ | ⟨_, h⟩
          · obtain ⟨hb, h⟩ := bif2_some h
            cases h
            rw [Nat.eq_of_beq_eq_true hb]
            exact .inl ⟨fun k hk => (by cases hk), Hs 72, c72⟩
          · obtain ⟨hb, h⟩ := bif2_some h
            cases h
            rw [Nat.eq_of_beq_eq_true hb]
            exact .inl ⟨fun k hk => (by cases hk), Hs 73, c73⟩
end Go.Proofs.Ytodgdmhifbnofaa.AM.Sn
