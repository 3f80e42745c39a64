/- The functions that the reader reaches, each checked against the translation, part one. -/
import Derived.Test.YtolhjhjlfgfifaaGreatDoorAm5
import Derived.Test.YtolhjhjlfgfifaaGreatDoorProg
import Derived.KernelRfl
set_option maxRecDepth 1000000
set_option linter.unusedVariables false
set_option linter.unusedSimpArgs false
namespace Go.Proofs.YtolhjhjlfgfifaaGreatDoor.AM.Rd
open Go.Proofs
abbrev ol (k : Nat) (x : HK) : HOp := ⟨some k, false, x, none⟩
abbrev oe (k : Nat) (x : HK) : HOp := ⟨some k, true, x, none⟩
abbrev ou (x : HK) : HOp := ⟨none, false, x, none⟩
abbrev og (k : Nat) (x : HK) (c : Nat) (b : Bool) : HOp := ⟨some k, false, x, some (.loc c, b)⟩
abbrev vI (z : Int) : HO := .val (.tr (.sc (.int .i64 z)))
abbrev vU (z : Int) : HO := .val (.tr (.sc (.int .u8 z)))
abbrev vB (b : Bool) : HO := .val (.tr (.sc (.bool b)))
abbrev vS (l : List UInt8) : HO := .val (.tr (.sc (.string ⟨⟨l⟩⟩)))
def Hq (f : Nat) : List Nat :=  []
def Hb (f : Nat) : List Nat :=  []
def Hl (f : Nat) : List Nat :=  []
def Ho (f d : Nat) : Bool := if Nat.beq f 68 then true else false
def Hs (f : Nat) : Hints := { own := fun d => Ho f d, qa := fun d => memN d (Hq f), tu := fun _ => true, bt := fun d => memN d (Hb f), ld := fun d => memN d (Hl f) }
def Te (f : Nat) : Option (Nat × Nat) := if Nat.beq f 6 then some (0, 18) else if Nat.beq f 105 then some (2, 11) else if Nat.beq f 106 then some (2, 12) else if Nat.beq f 115 then some (2, 0) else if Nat.beq f 157 then some (2, 16) else if Nat.beq f 113 then some (1, 15) else if Nat.beq f 114 then some (1, 10) else none
@[simp] def r4_0 : List HOp := [oe 4 (.mv (vB false))]
@[simp] def r4_1 : List HOp := [ol 14 (.callf 6 []),oe 5 (.mv (.loc 14))]
@[simp] def r4_2 : List HOp := [ol 15 (.mv (.env 0)),ol 16 (.callf 10 [(.loc 15), (vI 300)]),oe 0 (.mv (.loc 16))]
@[simp] def r4_3 : List HOp := [ol 18 (.mv (.env 0)),ol 19 (.callf 11 [(.loc 18)]),ol 17 (.mv (.loc 19)),ol 20 (.extract (.loc 17) 0),ol 21 (.extract (.loc 17) 1),oe 6 (.mv (.loc 20)),oe 7 (.mv (.loc 21))]
@[simp] def r4_4 : List HOp := [ol 23 (.mv (.env 0)),ol 24 (.callf 12 [(.loc 23)]),ol 22 (.mv (.loc 24)),ol 25 (.extract (.loc 22) 0),ol 26 (.extract (.loc 22) 1),oe 8 (.mv (.loc 25)),oe 9 (.mv (.loc 26))]
@[simp] def r4_5 : List HOp := [ol 27 (.mv (.env 7)),ol 28 (.mv (.env 9)),ol 29 (.bin .bool .neq (.loc 27) (.loc 28)),ol 30 (.mv (.loc 29)),og 31 (.mv (.env 7)) 30 false,og 32 (.mv (.env 6)) 30 false,og 33 (.bin .pointer .neq (.loc 32) (.val (.tr (.sc (.pointer none))))) 30 false,og 34 (.bin .bool .neq (.loc 31) (.loc 33)) 30 false,ol 35 (.pick (.loc 30) (vB true) (.loc 34))]
@[simp] def r4_6 : List HOp := [oe 4 (.mv (vB false))]
@[simp] def r4_7 : List HOp := [oe 10 (.mv (vI 0))]
@[simp] def r4_8 : List HOp := [ol 36 (.mv (.env 10)),ol 37 (.mv (.env 1)),ol 38 (.bin .other .lss (.loc 36) (.loc 37)),ol 39 (.mv (.loc 38)),og 40 (.mv (.env 10)) 39 true,og 41 (.bin .other .lss (.loc 40) (vI 100)) 39 true,ol 42 (.pick (.loc 39) (.loc 41) (vB false)),ol 43 (.mv (.loc 42)),og 44 (.mv (.env 7)) 43 true,ol 45 (.pick (.loc 43) (.loc 44) (vB false))]
@[simp] def r4_9 : List HOp := [ol 48 (.mv (.env 10)),oe 11 (.mv (.loc 48))]
@[simp] def r4_10 : List HOp := [ol 49 (.mv (.env 11)),ol 50 (.mv (.env 8)),ol 51 (.len 1 (.loc 50)),ol 52 (.bin .other .geq (.loc 49) (.loc 51))]
@[simp] def r4_11 : List HOp := [ol 53 (.mv (.env 8)),ol 54 (.len 1 (.loc 53)),ol 55 (.bin .other .sub (.loc 54) (vI 1)),oe 11 (.mv (.loc 55))]
@[simp] def r4_12 : List HOp := [ol 56 (.mv (.env 6)),ol 57 (.callf 13 [(.loc 56)]),ol 58 (.mv (.env 6)),ol 59 (.callf 14 [(.loc 58)]),oe 12 (.alloc [(.sc (.int .i64 0)), (.sc (.string ⟨⟨[]⟩⟩)), (.sc (.int .i64 0))]),oe 13 (.alloc [(.sc (.int .i64 0)), (.sc (.string ⟨⟨[]⟩⟩)), (.sc (.int .i64 0))]),ou (.store 3 (.env 12) (.loc 57)),ou (.store 3 (.env 13) (.loc 59))]
@[simp] def r4_13 : List HOp := [ol 60 (.faddr 0 (.env 12)),ol 61 (.load 1 false (.loc 60)),ol 62 (.mv (.env 8)),ol 63 (.mv (.env 11)),ol 64 (.iaddr 3 (.loc 62) (.loc 63)),ol 65 (.faddr 0 (.loc 64)),ol 66 (.load 1 false (.loc 65)),ol 67 (.bin .other .neq (.loc 61) (.loc 66)),ol 68 (.mv (.loc 67)),og 69 (.faddr 1 (.env 12)) 68 false,og 70 (.load 1 false (.loc 69)) 68 false,og 71 (.mv (.env 8)) 68 false,og 72 (.mv (.env 11)) 68 false,og 73 (.iaddr 3 (.loc 71) (.loc 72)) 68 false,og 74 (.faddr 1 (.loc 73)) 68 false,og 75 (.load 1 false (.loc 74)) 68 false,og 76 (.bin .other .neq (.loc 70) (.loc 75)) 68 false,ol 77 (.pick (.loc 68) (vB true) (.loc 76)),ol 78 (.mv (.loc 77)),og 79 (.faddr 2 (.env 12)) 78 false,og 80 (.load 1 false (.loc 79)) 78 false,og 81 (.mv (.env 8)) 78 false,og 82 (.mv (.env 11)) 78 false,og 83 (.iaddr 3 (.loc 81) (.loc 82)) 78 false,og 84 (.faddr 2 (.loc 83)) 78 false,og 85 (.load 1 false (.loc 84)) 78 false,og 86 (.bin .other .neq (.loc 80) (.loc 85)) 78 false,ol 87 (.pick (.loc 78) (vB true) (.loc 86)),ol 88 (.mv (.loc 87)),og 89 (.faddr 0 (.env 13)) 88 false,og 90 (.load 1 false (.loc 89)) 88 false,og 91 (.faddr 0 (.env 12)) 88 false,og 92 (.load 1 false (.loc 91)) 88 false,og 93 (.bin .other .neq (.loc 90) (.loc 92)) 88 false,ol 94 (.pick (.loc 88) (vB true) (.loc 93)),ol 95 (.mv (.loc 94)),og 96 (.faddr 1 (.env 13)) 95 false,og 97 (.load 1 false (.loc 96)) 95 false,og 98 (.faddr 1 (.env 12)) 95 false,og 99 (.load 1 false (.loc 98)) 95 false,og 100 (.bin .other .neq (.loc 97) (.loc 99)) 95 false,ol 101 (.pick (.loc 95) (vB true) (.loc 100)),ol 102 (.mv (.loc 101)),og 103 (.faddr 2 (.env 13)) 102 false,og 104 (.load 1 false (.loc 103)) 102 false,og 105 (.faddr 2 (.env 12)) 102 false,og 106 (.load 1 false (.loc 105)) 102 false,og 107 (.bin .other .neq (.loc 104) (.loc 106)) 102 false,ol 108 (.pick (.loc 102) (vB true) (.loc 107))]
@[simp] def r4_14 : List HOp := [oe 4 (.mv (vB false))]
@[simp] def r4_15 : List HOp := [ol 46 (.mv (.env 10)),ol 47 (.bin .other .add (.loc 46) (vI 1)),oe 10 (.mv (.loc 47))]
@[simp] def r4_16 : List HOp := [ol 109 (.mv (.env 5)),oe 4 (.mv (.loc 109))]
@[simp] def k4_6 : HCode := .seq (.region r4_6 none) .ret
@[simp] def k4_5 : HCode := .cond (.loc 35) k4_6 .skip
@[simp] def k4_10 : HCode := .cond (.loc 45) .skip (.exit 0)
@[simp] def k4_13 : HCode := .cond (.loc 52) (.region r4_11 none) .skip
@[simp] def k4_17 : HCode := .seq (.region r4_14 none) .ret
@[simp] def k4_16 : HCode := .cond (.loc 108) k4_17 .skip
@[simp] def k4_15 : HCode := .seq (.region r4_13 (some [ ( 0, [ 12 ] ) , ( 1, [ 60 ] ) , ( 0, [ 8 ] ) , ( 0, [ 11 ] ) , ( 1, [ 62, 63 ] ) , ( 0, [ 64 ] ) , ( 1, [ 65 ] ) , ( 0, [ 61, 66 ] ) , ( 0, [ 67 ] ) , ( 0, [ 12, 68 ] ) , ( 1, [ 69, 68 ] ) , ( 0, [ 8, 68 ] ) , ( 0, [ 11, 68 ] ) , ( 1, [ 71, 72, 68 ] ) , ( 0, [ 73, 68 ] ) , ( 1, [ 74, 68 ] ) , ( 0, [ 70, 75, 68 ] ) , ( 0, [ 68, 76 ] ) , ( 0, [ 77 ] ) , ( 0, [ 12, 78 ] ) , ( 1, [ 79, 78 ] ) , ( 0, [ 8, 78 ] ) , ( 0, [ 11, 78 ] ) , ( 1, [ 81, 82, 78 ] ) , ( 0, [ 83, 78 ] ) , ( 1, [ 84, 78 ] ) , ( 0, [ 80, 85, 78 ] ) , ( 0, [ 78, 86 ] ) , ( 0, [ 87 ] ) , ( 0, [ 13, 88 ] ) , ( 1, [ 89, 88 ] ) , ( 0, [ 12, 88 ] ) , ( 1, [ 91, 88 ] ) , ( 0, [ 90, 92, 88 ] ) , ( 0, [ 88, 93 ] ) , ( 0, [ 94 ] ) , ( 0, [ 13, 95 ] ) , ( 1, [ 96, 95 ] ) , ( 0, [ 12, 95 ] ) , ( 1, [ 98, 95 ] ) , ( 0, [ 97, 99, 95 ] ) , ( 0, [ 95, 100 ] ) , ( 0, [ 101 ] ) , ( 0, [ 13, 102 ] ) , ( 1, [ 103, 102 ] ) , ( 0, [ 12, 102 ] ) , ( 1, [ 105, 102 ] ) , ( 0, [ 104, 106, 102 ] ) , ( 0, [ 102, 107 ] ) ])) k4_16
def k4_14 : HCode := .seq (.region r4_12 none) k4_15
@[simp] def k4_12 : HCode := .seq (.seq (.region r4_10 none) k4_13) k4_14
def k4_18 : HCode := .region r4_15 none
def k4_11 : HCode := .seq (.block 1 (.seq (.region r4_9 none) k4_12)) k4_18
def k4_9 : HCode := .seq (.seq (.region r4_8 none) k4_10) k4_11
@[simp] def k4_8 : HCode := .block 0 (.loop k4_9)
def k4_19 : HCode := .seq (.region r4_16 none) .ret
def k4_7 : HCode := .seq (.seq (.region r4_7 none) k4_8) k4_19
@[simp] def k4_4 : HCode := .seq (.seq (.region r4_5 none) k4_5) k4_7
@[simp] def k4_3 : HCode := .seq (.region r4_4 none) k4_4
@[simp] def k4_2 : HCode := .seq (.region r4_3 none) k4_3
@[simp] def k4_1 : HCode := .seq (.region r4_2 none) k4_2
@[simp] def k4_0 : HCode := .seq (.region r4_1 none) k4_1
@[simp] def fn4 : HFn := { nargs := 2, results := [.tmp 4], mode := .shared, code := (.seq (.region r4_0 none) k4_0) }
theorem c4 : cFn Tryz.prog (Hs 4) .shared 4 = some fn4 := by kernel_rfl
@[simp] def r10_0 : List HOp := [oe 4 (.mv (.val (.tr (.sc (.slice none 0 0)))))]
@[simp] def r10_1 : List HOp := [ol 5 (.mv (.env 0)),ol 6 (.len 1 (.loc 5)),ol 7 (.mv (.env 1)),ol 8 (.bin .other .gtr (.loc 6) (.loc 7))]
@[simp] def r10_2 : List HOp := [ol 9 (.mv (.env 0)),ol 10 (.mv (.env 1)),ol 11 (.slice 1 (.loc 9) none (some (.loc 10)) none),oe 4 (.mv (.loc 11))]
@[simp] def r10_3 : List HOp := [ol 12 (.mv (.env 0)),oe 4 (.mv (.loc 12))]
@[simp] def k10_2 : HCode := .seq (.region r10_2 none) .ret
@[simp] def k10_1 : HCode := .cond (.loc 8) k10_2 .skip
def k10_3 : HCode := .seq (.region r10_3 none) .ret
@[simp] def k10_0 : HCode := .seq (.seq (.region r10_1 none) k10_1) k10_3
@[simp] def fn10 : HFn := { nargs := 2, results := [.tmp 4], mode := .iso, code := (.seq (.region r10_0 none) k10_0) }
theorem c10 : cFn Tryz.prog (Hs 10) .iso 10 = some fn10 := by kernel_rfl
@[simp] def r11_0 : List HOp := [oe 2 (.mv (.val (.tr (.sc (.pointer none))))),oe 3 (.mv (vB false))]
@[simp] def r11_1 : List HOp := [ol 8 (.mv (.env 0)),ol 9 (.callf 22 [(.loc 8)]),ol 7 (.mv (.loc 9)),ol 10 (.extract (.loc 7) 0),ol 11 (.extract (.loc 7) 1),ol 12 (.extract (.loc 7) 2),oe 4 (.mv (.loc 10)),ol 5 (.mv (.loc 11)),oe 6 (.mv (.loc 12))]
@[simp] def r11_2 : List HOp := [ol 13 (.mv (.env 6)),ol 14 (.un .not (.loc 13))]
@[simp] def r11_3 : List HOp := [oe 2 (.mv (.val (.tr (.sc (.pointer none))))),oe 3 (.mv (vB false))]
@[simp] def r11_4 : List HOp := [ol 15 (.mv (.env 4)),ol 16 (.mkmap),ol 17 (.build [(.sc (.slice none 0 0)), (.sc (.int .i64 0)), (.sc (.int .i64 0)), (.sc .nilFunc), (.sc (.map none))] [(0, 1, (.loc 15)), (4, 1, (.loc 16))]),ol 18 (.box false (.loc 17)),oe 2 (.mv (.loc 18)),oe 3 (.mv (vB true))]
@[simp] def k11_3 : HCode := .seq (.region r11_3 none) .ret
@[simp] def k11_2 : HCode := .cond (.loc 14) k11_3 .skip
def k11_4 : HCode := .seq (.region r11_4 none) .ret
@[simp] def k11_1 : HCode := .seq (.seq (.region r11_2 none) k11_2) k11_4
@[simp] def k11_0 : HCode := .seq (.region r11_1 none) k11_1
@[simp] def fn11 : HFn := { nargs := 1, results := [.tmp 2, .tmp 3], mode := .shared, code := (.seq (.region r11_0 none) k11_0) }
theorem c11 : cFn Tryz.prog (Hs 11) .shared 11 = some fn11 := by kernel_rfl
@[simp] def r22_0 : List HOp := [oe 2 (.mv (.val (.tr (.sc (.slice none 0 0))))),oe 3 (.mv (vI 0)),oe 4 (.mv (vB false))]
@[simp] def r22_1 : List HOp := [ol 7 (.mv (.env 0)),ol 8 (.build [(.sc (.slice none 0 0)), (.sc (.int .i64 0)), (.sc (.bool false)), (.sc (.slice none 0 0))] [(0, 1, (.loc 7))]),ol 9 (.box false (.loc 8)),oe 5 (.mv (.loc 9))]
@[simp] def r22_2 : List HOp := [ol 10 (.mv (.env 5)),ol 11 (.nilchk (.loc 10)),ol 12 (.faddr 1 (.loc 11)),ol 13 (.load 1 false (.loc 12)),ol 14 (.mv (.env 0)),ol 15 (.len 1 (.loc 14)),ol 16 (.bin .other .lss (.loc 13) (.loc 15))]
@[simp] def r22_3 : List HOp := [ol 17 (.mv (.env 5)),ol 18 (.nilchk (.loc 17)),ol 19 (.faddr 1 (.loc 18)),ol 20 (.load 1 false (.loc 19)),oe 6 (.mv (.loc 20))]
@[simp] def r22_4 : List HOp := [ol 21 (.mv (.env 5)),ol 22 (.callf 40 [(.loc 21)]),ol 23 (.un .not (.loc 22))]
@[simp] def r22_5 : List HOp := [ol 24 (.mv (.env 6)),oe 2 (.mv (.val (.tr (.sc (.slice none 0 0))))),oe 3 (.mv (.loc 24)),oe 4 (.mv (vB false))]
@[simp] def r22_6 : List HOp := [ol 25 (.mv (.env 5)),ol 26 (.mv (.env 0)),ol 27 (.len 1 (.loc 26)),ol 28 (.callf 41 [(.loc 25), (.loc 27)])]
@[simp] def r22_7 : List HOp := [ol 29 (.mv (.env 5)),ol 30 (.mv (.env 0)),ol 31 (.len 1 (.loc 30)),ol 32 (.callf 42 [(.loc 29), (vI 0), (.loc 31)])]
@[simp] def r22_8 : List HOp := [ol 33 (.mv (.env 5)),ol 34 (.nilchk (.loc 33)),ol 35 (.faddr 3 (.loc 34)),ol 36 (.load 1 false (.loc 35)),oe 2 (.mv (.loc 36)),oe 3 (.mv (vI 0)),oe 4 (.mv (vB true))]
@[simp] def k22_3 : HCode := .cond (.loc 16) .skip (.exit 0)
@[simp] def k22_7 : HCode := .seq (.region r22_5 none) .ret
@[simp] def k22_6 : HCode := .cond (.loc 23) k22_7 .skip
@[simp] def k22_5 : HCode := .seq (.region r22_4 none) k22_6
def k22_4 : HCode := .block 1 (.seq (.region r22_3 none) k22_5)
def k22_2 : HCode := .seq (.seq (.region r22_2 none) k22_3) k22_4
@[simp] def k22_10 : HCode := .seq (.region r22_8 none) .ret
@[simp] def k22_9 : HCode := .seq (.region r22_7 none) k22_10
def k22_8 : HCode := .seq (.region r22_6 none) k22_9
@[simp] def k22_1 : HCode := .seq (.block 0 (.loop k22_2)) k22_8
@[simp] def k22_0 : HCode := .seq (.region r22_1 none) k22_1
@[simp] def fn22 : HFn := { nargs := 1, results := [.tmp 2, .tmp 3, .tmp 4], mode := .iso, code := (.seq (.region r22_0 none) k22_0) }
theorem c22 : cFn Tryz.prog (Hs 22) .iso 22 = some fn22 := by kernel_rfl
@[simp] def r40_0 : List HOp := [oe 2 (.mv (vB false))]
@[simp] def r40_1 : List HOp := [ol 5 (.mv (.env 0)),ol 6 (.nilchk (.loc 5)),ol 7 (.faddr 0 (.loc 6)),ol 8 (.load 1 false (.loc 7)),ol 9 (.mv (.env 0)),ol 10 (.nilchk (.loc 9)),ol 11 (.faddr 1 (.loc 10)),ol 12 (.load 1 false (.loc 11)),ol 13 (.iaddr 1 (.loc 8) (.loc 12)),ol 14 (.load 1 false (.loc 13)),oe 3 (.mv (.loc 14))]
@[simp] def r40_2 : List HOp := [ol 15 (.mv (.env 0)),ol 16 (.nilchk (.loc 15)),ol 17 (.faddr 1 (.loc 16)),ol 18 (.load 1 false (.loc 17)),oe 4 (.mv (.loc 18))]
@[simp] def r40_3 : List HOp := [ol 22 (.mv (.env 3)),ol 23 (.bin .other .eql (.loc 22) (vU 10)),ol 21 (.mv (.loc 23))]
@[simp] def r40_4 : List HOp := [ol 24 (.mv (.env 0)),ol 25 (.mv (.env 0)),ol 26 (.nilchk (.loc 25)),ol 27 (.faddr 1 (.loc 26)),ol 28 (.load 1 false (.loc 27)),ol 29 (.callf 41 [(.loc 24), (.loc 28)])]
@[simp] def r40_5 : List HOp := [ol 30 (.mv (.env 0)),ol 31 (.nilchk (.loc 30)),ol 32 (.faddr 1 (.loc 31)),ol 33 (.load 1 false (.loc 32)),ol 34 (.bin .other .add (.loc 33) (vI 1)),ol 35 (.nilchk (.loc 30)),ol 36 (.faddr 1 (.loc 35)),ou (.store 1 (.loc 36) (.loc 34))]
@[simp] def r40_6 : List HOp := [ol 38 (.mv (.env 3)),ol 39 (.bin .other .eql (.loc 38) (vU 32)),ol 40 (.mv (.loc 39)),og 41 (.mv (.env 3)) 40 false,og 42 (.bin .other .eql (.loc 41) (vU 9)) 40 false,ol 43 (.pick (.loc 40) (vB true) (.loc 42)),ol 44 (.mv (.loc 43)),og 45 (.mv (.env 3)) 44 false,og 46 (.bin .other .eql (.loc 45) (vU 13)) 44 false,ol 47 (.pick (.loc 44) (vB true) (.loc 46)),ol 37 (.mv (.loc 47))]
@[simp] def r40_7 : List HOp := [ol 48 (.mv (.env 0)),ol 49 (.nilchk (.loc 48)),ol 50 (.faddr 1 (.loc 49)),ol 51 (.load 1 false (.loc 50)),ol 52 (.bin .other .add (.loc 51) (vI 1)),ol 53 (.nilchk (.loc 48)),ol 54 (.faddr 1 (.loc 53)),ou (.store 1 (.loc 54) (.loc 52))]
@[simp] def r40_8 : List HOp := [ol 56 (.mv (.env 0)),ol 57 (.callf 67 [(.loc 56), (vS [47, 47])]),ol 58 (.mv (.loc 57)),og 59 (.mv (.env 0)) 58 false,og 60 (.callf 67 [(.loc 59), (vS [47, 42])]) 58 false,ol 61 (.pick (.loc 58) (vB true) (.loc 60)),ol 55 (.mv (.loc 61))]
@[simp] def r40_9 : List HOp := [ol 62 (.mv (.env 0)),ol 63 (.callf 68 [(.loc 62)]),oe 2 (.mv (.loc 63))]
@[simp] def r40_10 : List HOp := [ol 65 (.mv (.env 3)),ol 66 (.callf 69 [(.loc 65)]),ol 64 (.mv (.loc 66))]
@[simp] def r40_11 : List HOp := [ol 67 (.mv (.env 0)),ol 68 (.callf 70 [(.loc 67)])]
@[simp] def r40_12 : List HOp := [ol 70 (.mv (.env 3)),ol 71 (.callf 71 [(.loc 70)]),ol 72 (.mv (.loc 71)),og 73 (.mv (.env 3)) 72 false,og 74 (.bin .other .eql (.loc 73) (vU 46)) 72 false,og 75 (.mv (.loc 74)) 72 false,og 76 (.mv (.env 0)) 75 true,og 77 (.callf 72 [(.loc 76), (vI 1)]) 75 true,og 78 (.callf 71 [(.loc 77)]) 75 true,og 79 (.pick (.loc 75) (.loc 78) (vB false)) 72 false,ol 80 (.pick (.loc 72) (vB true) (.loc 79)),ol 69 (.mv (.loc 80))]
@[simp] def r40_13 : List HOp := [ol 81 (.mv (.env 0)),ol 82 (.nilchk (.loc 81)),ol 83 (.faddr 2 (.loc 82)),ou (.store 1 (.loc 83) (vB true))]
@[simp] def r40_14 : List HOp := [ol 84 (.mv (.env 0)),ol 85 (.callf 73 [(.loc 84)]),oe 2 (.mv (.loc 85))]
@[simp] def r40_15 : List HOp := [ol 87 (.mv (.env 3)),ol 88 (.bin .other .eql (.loc 87) (vU 34)),ol 89 (.mv (.loc 88)),og 90 (.mv (.env 3)) 89 false,og 91 (.bin .other .eql (.loc 90) (vU 96)) 89 false,ol 92 (.pick (.loc 89) (vB true) (.loc 91)),ol 86 (.mv (.loc 92))]
@[simp] def r40_16 : List HOp := [ol 93 (.mv (.env 0)),ol 94 (.nilchk (.loc 93)),ol 95 (.faddr 2 (.loc 94)),ou (.store 1 (.loc 95) (vB true))]
@[simp] def r40_17 : List HOp := [ol 96 (.mv (.env 0)),ol 97 (.callf 74 [(.loc 96)]),ol 98 (.un .not (.loc 97))]
@[simp] def r40_18 : List HOp := [oe 2 (.mv (vB false))]
@[simp] def r40_19 : List HOp := [ol 99 (.mv (.env 0)),ol 100 (.mv (.env 4)),ol 101 (.callf 42 [(.loc 99), (vI 4), (.loc 100)])]
@[simp] def r40_20 : List HOp := [ol 103 (.mv (.env 3)),ol 104 (.bin .other .eql (.loc 103) (vU 59)),ol 102 (.mv (.loc 104))]
@[simp] def r40_21 : List HOp := [ol 105 (.mv (.env 0)),ol 106 (.nilchk (.loc 105)),ol 107 (.faddr 1 (.loc 106)),ol 108 (.load 1 false (.loc 107)),ol 109 (.bin .other .add (.loc 108) (vI 1)),ol 110 (.nilchk (.loc 105)),ol 111 (.faddr 1 (.loc 110)),ou (.store 1 (.loc 111) (.loc 109))]
@[simp] def r40_22 : List HOp := [ol 112 (.mv (.env 0)),ol 113 (.mv (.env 4)),ol 114 (.callf 42 [(.loc 112), (vI 7), (.loc 113)])]
@[simp] def r40_23 : List HOp := [ol 115 (.mv (.env 0)),ol 116 (.nilchk (.loc 115)),ol 117 (.faddr 2 (.loc 116)),ou (.store 1 (.loc 117) (vB false))]
@[simp] def r40_24 : List HOp := [ol 19 (.mv (.env 0)),ol 20 (.callf 75 [(.loc 19)]),oe 2 (.mv (.loc 20))]
@[simp] def r40_25 : List HOp := [oe 2 (.mv (vB true))]
@[simp] def k40_4 : HCode := .seq (.region r40_4 none) (.region r40_5 none)
@[simp] def k40_9 : HCode := .seq (.region r40_9 none) .ret
@[simp] def k40_15 : HCode := .seq (.region r40_14 none) .ret
@[simp] def k40_14 : HCode := .seq (.region r40_13 none) k40_15
@[simp] def k40_21 : HCode := .seq (.region r40_18 none) .ret
@[simp] def k40_20 : HCode := .cond (.loc 98) k40_21 .skip
def k40_22 : HCode := .region r40_19 none
@[simp] def k40_19 : HCode := .seq (.seq (.region r40_17 none) k40_20) k40_22
@[simp] def k40_18 : HCode := .seq (.region r40_16 none) k40_19
@[simp] def k40_26 : HCode := .seq (.region r40_22 none) (.region r40_23 none)
@[simp] def k40_25 : HCode := .seq (.region r40_21 none) k40_26
@[simp] def k40_27 : HCode := .seq (.region r40_24 none) .ret
@[simp] def k40_24 : HCode := .cond (.loc 102) k40_25 k40_27
@[simp] def k40_23 : HCode := .seq (.region r40_20 none) k40_24
@[simp] def k40_17 : HCode := .cond (.loc 86) k40_18 k40_23
@[simp] def k40_16 : HCode := .seq (.region r40_15 none) k40_17
@[simp] def k40_13 : HCode := .cond (.loc 69) k40_14 k40_16
@[simp] def k40_12 : HCode := .seq (.region r40_12 none) k40_13
@[simp] def k40_11 : HCode := .cond (.loc 64) (.region r40_11 none) k40_12
@[simp] def k40_10 : HCode := .seq (.region r40_10 none) k40_11
@[simp] def k40_8 : HCode := .cond (.loc 55) k40_9 k40_10
@[simp] def k40_7 : HCode := .seq (.region r40_8 none) k40_8
@[simp] def k40_6 : HCode := .cond (.loc 37) (.region r40_7 none) k40_7
@[simp] def k40_5 : HCode := .seq (.region r40_6 none) k40_6
@[simp] def k40_3 : HCode := .cond (.loc 21) k40_4 k40_5
def k40_28 : HCode := .seq (.region r40_25 none) .ret
@[simp] def k40_2 : HCode := .seq (.block 0 (.seq (.region r40_3 none) k40_3)) k40_28
@[simp] def k40_1 : HCode := .seq (.region r40_2 none) k40_2
@[simp] def k40_0 : HCode := .seq (.region r40_1 (some [ ( 0, [ 0 ] ) , ( 0, [ 5 ] ) , ( 0, [ 6 ] ) , ( 1, [ 7 ] ) , ( 0, [ 0 ] ) , ( 0, [ 9 ] ) , ( 0, [ 10 ] ) , ( 1, [ 11 ] ) , ( 2, [ 8, 12 ] ) , ( 2, [ 13 ] ) , ( 0, [ 14 ] ) ])) k40_1
@[simp] def fn40 : HFn := { nargs := 1, results := [.tmp 2], mode := .shared, code := (.seq (.region r40_0 none) k40_0) }
theorem c40 : cFn Tryz.prog (Hs 40) .shared 40 = some fn40 := by kernel_rfl
@[simp] def r41_0 : List HOp := [ol 4 (.mv (.env 0)),ol 5 (.nilchk (.loc 4)),ol 6 (.faddr 2 (.loc 5)),ol 7 (.load 1 false (.loc 6))]
@[simp] def r41_1 : List HOp := [ol 8 (.mv (.env 0)),ol 9 (.mv (.env 0)),ol 10 (.nilchk (.loc 9)),ol 11 (.faddr 3 (.loc 10)),ol 12 (.load 1 false (.loc 11)),ol 13 (.mv (.env 1)),ol 14 (.build [(.sc (.int .i64 0)), (.sc (.string ⟨⟨[]⟩⟩)), (.sc (.int .i64 0))] [(0, 1, (vI 7)), (1, 1, (vS [10])), (2, 1, (.loc 13))]),ol 15 (.bslice false 1 3 [(.sc (.int .i64 0)), (.sc (.string ⟨⟨[]⟩⟩)), (.sc (.int .i64 0))] [(0, 3, (.loc 14))]),ol 16 (.append 3 32 (.loc 12) (.loc 15)),ol 17 (.nilchk (.loc 8)),ol 18 (.faddr 3 (.loc 17)),ou (.store 1 (.loc 18) (.loc 16))]
@[simp] def r41_2 : List HOp := [ol 19 (.mv (.env 0)),ol 20 (.nilchk (.loc 19)),ol 21 (.faddr 2 (.loc 20)),ou (.store 1 (.loc 21) (vB false))]
@[simp] def k41_0 : HCode := .cond (.loc 7) (.region r41_1 none) .skip
def k41_1 : HCode := .region r41_2 none
@[simp] def fn41 : HFn := { nargs := 2, results := [], mode := .shared, code := (.seq (.seq (.region r41_0 none) k41_0) k41_1) }
theorem c41 : cFn Tryz.prog (Hs 41) .shared 41 = some fn41 := by kernel_rfl
@[simp] def r67_0 : List HOp := [oe 4 (.mv (vB false))]
@[simp] def r67_1 : List HOp := [ol 5 (.mv (.env 0)),ol 6 (.nilchk (.loc 5)),ol 7 (.faddr 0 (.loc 6)),ol 8 (.load 1 false (.loc 7)),ol 9 (.mv (.env 0)),ol 10 (.nilchk (.loc 9)),ol 11 (.faddr 1 (.loc 10)),ol 12 (.load 1 false (.loc 11)),ol 13 (.mv (.env 0)),ol 14 (.nilchk (.loc 13)),ol 15 (.faddr 0 (.loc 14)),ol 16 (.load 1 false (.loc 15)),ol 17 (.len 1 (.loc 16)),ol 18 (.mv (.env 0)),ol 19 (.nilchk (.loc 18)),ol 20 (.faddr 1 (.loc 19)),ol 21 (.load 1 false (.loc 20)),ol 22 (.mv (.env 1)),ol 23 (.len 0 (.loc 22)),ol 24 (.bin .other .add (.loc 21) (.loc 23)),ol 25 (.minmax false (.loc 17) [(.loc 24)]),ol 26 (.slice 1 (.loc 8) (some (.loc 12)) (some (.loc 25)) none),ol 27 (.conv .bytesStr (.loc 26)),ol 28 (.mv (.env 1)),ol 29 (.bin .other .eql (.loc 27) (.loc 28)),oe 4 (.mv (.loc 29))]
@[simp] def k67_0 : HCode := .seq (.region r67_1 (some [ ( 0, [ 0 ] ) , ( 0, [ 5 ] ) , ( 0, [ 6 ] ) , ( 1, [ 7 ] ) , ( 0, [ 0 ] ) , ( 0, [ 9 ] ) , ( 0, [ 10 ] ) , ( 1, [ 11 ] ) , ( 0, [ 0 ] ) , ( 0, [ 13 ] ) , ( 0, [ 14 ] ) , ( 1, [ 15 ] ) , ( 0, [ 16 ] ) , ( 0, [ 0 ] ) , ( 0, [ 18 ] ) , ( 0, [ 19 ] ) , ( 1, [ 20 ] ) , ( 0, [ 1 ] ) , ( 0, [ 22 ] ) , ( 0, [ 21, 23 ] ) , ( 0, [ 17, 24 ] ) , ( 2, [ 8, 12, 25 ] ) , ( 2, [ 26 ] ) , ( 0, [ 1 ] ) , ( 0, [ 27, 28 ] ) , ( 0, [ 29 ] ) ])) .ret
@[simp] def fn67 : HFn := { nargs := 2, results := [.tmp 4], mode := .shared, code := (.seq (.region r67_0 none) k67_0) }
theorem c67 : cFn Tryz.prog (Hs 67) .shared 67 = some fn67 := by kernel_rfl
@[simp] def r68_0 : List HOp := [oe 2 (.mv (vB false))]
@[simp] def r68_1 : List HOp := [ol 5 (.mv (.env 0)),ol 6 (.nilchk (.loc 5)),ol 7 (.faddr 1 (.loc 6)),ol 8 (.load 1 false (.loc 7)),oe 3 (.mv (.loc 8))]
@[simp] def r68_2 : List HOp := [ol 9 (.mv (.env 0)),ol 10 (.callf 67 [(.loc 9), (vS [47, 47])])]
@[simp] def r68_3 : List HOp := [ol 11 (.mv (.env 0)),ol 12 (.nilchk (.loc 11)),ol 13 (.faddr 1 (.loc 12)),ol 14 (.load 1 false (.loc 13)),ol 15 (.mv (.env 0)),ol 16 (.nilchk (.loc 15)),ol 17 (.faddr 0 (.loc 16)),ol 18 (.load 1 false (.loc 17)),ol 19 (.len 1 (.loc 18)),ol 20 (.bin .other .lss (.loc 14) (.loc 19)),ol 21 (.mv (.loc 20)),og 22 (.mv (.env 0)) 21 true,og 23 (.nilchk (.loc 22)) 21 true,og 24 (.faddr 0 (.loc 23)) 21 true,og 25 (.load 1 false (.loc 24)) 21 true,og 26 (.mv (.env 0)) 21 true,og 27 (.nilchk (.loc 26)) 21 true,og 28 (.faddr 1 (.loc 27)) 21 true,og 29 (.load 1 false (.loc 28)) 21 true,og 30 (.iaddr 1 (.loc 25) (.loc 29)) 21 true,og 31 (.load 1 false (.loc 30)) 21 true,og 32 (.bin .other .neq (.loc 31) (vU 10)) 21 true,ol 33 (.pick (.loc 21) (.loc 32) (vB false))]
@[simp] def r68_4 : List HOp := [ol 34 (.mv (.env 0)),ol 35 (.nilchk (.loc 34)),ol 36 (.faddr 1 (.loc 35)),ol 37 (.load 1 false (.loc 36)),ol 38 (.bin .other .add (.loc 37) (vI 1)),ol 39 (.nilchk (.loc 34)),ol 40 (.faddr 1 (.loc 39)),ou (.store 1 (.loc 40) (.loc 38))]
@[simp] def r68_5 : List HOp := [oe 2 (.mv (vB true))]
@[simp] def r68_6 : List HOp := [ol 41 (.mv (.env 0)),ol 42 (.nilchk (.loc 41)),ol 43 (.faddr 0 (.loc 42)),ol 44 (.load 1 false (.loc 43)),ol 45 (.mv (.env 0)),ol 46 (.nilchk (.loc 45)),ol 47 (.faddr 1 (.loc 46)),ol 48 (.load 1 false (.loc 47)),ol 49 (.bin .other .add (.loc 48) (vI 2)),ol 50 (.slice 1 (.loc 44) (some (.loc 49)) none none),ol 51 (.bslice true 2 1 [(.sc (.int .u8 0))] [(0, 1, (vU 42)), (1, 1, (vU 47))]),ol 52 (.conv .same (.loc 51)),ol 53 (.callf 105 [(.loc 50), (.loc 52)]),oe 4 (.mv (.loc 53))]
@[simp] def r68_7 : List HOp := [ol 54 (.mv (.env 4)),ol 55 (.bin .other .lss (.loc 54) (vI 0))]
@[simp] def r68_8 : List HOp := [oe 2 (.mv (vB false))]
@[simp] def r68_9 : List HOp := [ol 56 (.mv (.env 0)),ol 57 (.nilchk (.loc 56)),ol 58 (.faddr 1 (.loc 57)),ol 59 (.load 1 false (.loc 58)),ol 60 (.mv (.env 4)),ol 61 (.bin .other .add (.loc 60) (vI 4)),ol 62 (.bin .other .add (.loc 59) (.loc 61)),ol 63 (.nilchk (.loc 56)),ol 64 (.faddr 1 (.loc 63)),ou (.store 1 (.loc 64) (.loc 62))]
@[simp] def r68_10 : List HOp := [ol 65 (.mv (.env 0)),ol 66 (.nilchk (.loc 65)),ol 67 (.faddr 0 (.loc 66)),ol 68 (.load 1 false (.loc 67)),ol 69 (.mv (.env 3)),ol 70 (.mv (.env 0)),ol 71 (.nilchk (.loc 70)),ol 72 (.faddr 1 (.loc 71)),ol 73 (.load 1 false (.loc 72)),ol 74 (.slice 1 (.loc 68) (some (.loc 69)) (some (.loc 73)) none),ol 75 (.callf 106 [(.loc 74), (vU 10)]),ol 76 (.bin .other .geq (.loc 75) (vI 0))]
@[simp] def r68_11 : List HOp := [ol 77 (.mv (.env 0)),ol 78 (.mv (.env 3)),ol 79 (.callf 41 [(.loc 77), (.loc 78)])]
@[simp] def r68_12 : List HOp := [oe 2 (.mv (vB true))]
@[simp] def k68_5 : HCode := .cond (.loc 33) .skip (.exit 0)
def k68_6 : HCode := .block 1 (.region r68_4 none)
def k68_4 : HCode := .seq (.seq (.region r68_3 (some [ ( 0, [ 0 ] ) , ( 0, [ 11 ] ) , ( 0, [ 12 ] ) , ( 1, [ 13 ] ) , ( 0, [ 0 ] ) , ( 0, [ 15 ] ) , ( 0, [ 16 ] ) , ( 1, [ 17 ] ) , ( 0, [ 18 ] ) , ( 0, [ 14, 19 ] ) , ( 0, [ 20 ] ) , ( 0, [ 0, 21 ] ) , ( 0, [ 22, 21 ] ) , ( 0, [ 23, 21 ] ) , ( 1, [ 24, 21 ] ) , ( 0, [ 0, 21 ] ) , ( 0, [ 26, 21 ] ) , ( 0, [ 27, 21 ] ) , ( 1, [ 28, 21 ] ) , ( 2, [ 25, 29, 21 ] ) , ( 2, [ 30, 21 ] ) , ( 0, [ 31, 21 ] ) , ( 0, [ 21, 32 ] ) ])) k68_5) k68_6
def k68_7 : HCode := .seq (.region r68_5 none) .ret
@[simp] def k68_3 : HCode := .seq (.block 0 (.loop k68_4)) k68_7
@[simp] def k68_2 : HCode := .cond (.loc 10) k68_3 .skip
@[simp] def k68_11 : HCode := .seq (.region r68_8 none) .ret
@[simp] def k68_10 : HCode := .cond (.loc 55) k68_11 .skip
@[simp] def k68_14 : HCode := .cond (.loc 76) (.region r68_11 none) .skip
def k68_15 : HCode := .seq (.region r68_12 none) .ret
@[simp] def k68_13 : HCode := .seq (.seq (.region r68_10 (some [ ( 0, [ 0 ] ) , ( 0, [ 65 ] ) , ( 0, [ 66 ] ) , ( 1, [ 67 ] ) , ( 0, [ 3 ] ) , ( 0, [ 0 ] ) , ( 0, [ 70 ] ) , ( 0, [ 71 ] ) , ( 1, [ 72 ] ) , ( 2, [ 68, 69, 73 ] ) , ( 2, [ 74 ] ) , ( 0, [ 75 ] ) ])) k68_14) k68_15
def k68_12 : HCode := .seq (.region r68_9 none) k68_13
@[simp] def k68_9 : HCode := .seq (.seq (.region r68_7 none) k68_10) k68_12
def k68_8 : HCode := .seq (.region r68_6 (some [ ( 0, [ 0 ] ) , ( 0, [ 41 ] ) , ( 0, [ 42 ] ) , ( 15, [ 43 ] ) , ( 0, [ 0 ] ) , ( 0, [ 45 ] ) , ( 0, [ 46 ] ) , ( 15, [ 47 ] ) , ( 0, [ 48 ] ) , ( 15, [ 44, 49 ] ) , ( 2, [ ] ) , ( 2, [ 51 ] ) , ( 2, [ 50, 52 ] ) , ( 0, [ 53 ] ) ])) k68_9
@[simp] def k68_1 : HCode := .seq (.seq (.region r68_2 none) k68_2) k68_8
@[simp] def k68_0 : HCode := .seq (.region r68_1 none) k68_1
@[simp] def fn68 : HFn := { nargs := 1, results := [.tmp 2], mode := .shared, code := (.seq (.region r68_0 none) k68_0) }
theorem c68 : cFn Tryz.prog (Hs 68) .shared 68 = some fn68 := by kernel_rfl
@[simp] def r69_0 : List HOp := [oe 2 (.mv (vB false))]
@[simp] def r69_1 : List HOp := [ol 3 (.mv (.env 0)),ol 4 (.bin .other .or (.loc 3) (vU 32)),ol 5 (.bin .other .geq (.loc 4) (vU 97)),ol 6 (.mv (.loc 5)),og 7 (.mv (.env 0)) 6 true,og 8 (.bin .other .or (.loc 7) (vU 32)) 6 true,og 9 (.bin .other .leq (.loc 8) (vU 122)) 6 true,ol 10 (.pick (.loc 6) (.loc 9) (vB false)),ol 11 (.mv (.loc 10)),og 12 (.mv (.env 0)) 11 false,og 13 (.bin .other .eql (.loc 12) (vU 95)) 11 false,ol 14 (.pick (.loc 11) (vB true) (.loc 13)),oe 2 (.mv (.loc 14))]
@[simp] def k69_0 : HCode := .seq (.region r69_1 none) .ret
@[simp] def fn69 : HFn := { nargs := 1, results := [.tmp 2], mode := .iso, code := (.seq (.region r69_0 none) k69_0) }
theorem c69 : cFn Tryz.prog (Hs 69) .iso 69 = some fn69 := by kernel_rfl
@[simp] def r70_0 : List HOp := [ol 5 (.mv (.env 0)),ol 6 (.nilchk (.loc 5)),ol 7 (.faddr 1 (.loc 6)),ol 8 (.load 1 false (.loc 7)),oe 2 (.mv (.loc 8))]
@[simp] def r70_1 : List HOp := [ol 9 (.mv (.env 0)),ol 10 (.callf 107 [(.loc 9), (.val (.tr (.fn (.func 108) [] [])))])]
@[simp] def r70_2 : List HOp := [ol 11 (.mv (.env 0)),ol 12 (.nilchk (.loc 11)),ol 13 (.faddr 0 (.loc 12)),ol 14 (.load 1 false (.loc 13)),ol 15 (.mv (.env 2)),ol 16 (.mv (.env 0)),ol 17 (.nilchk (.loc 16)),ol 18 (.faddr 1 (.loc 17)),ol 19 (.load 1 false (.loc 18)),ol 20 (.slice 1 (.loc 14) (some (.loc 15)) (some (.loc 19)) none),ol 21 (.conv .bytesStr (.loc 20)),oe 3 (.mv (.loc 21))]
@[simp] def r70_3 : List HOp := [oe 4 (.mv (vI 1))]
@[simp] def r70_4 : List HOp := [ol 22 (.mv (.env 0)),ol 23 (.nilchk (.loc 22)),ol 24 (.faddr 2 (.loc 23)),ou (.store 1 (.loc 24) (vB true))]
@[simp] def r70_5 : List HOp := [ol 25 (.mv (.env 3)),ol 26 (.callf 109 [(.loc 25)])]
@[simp] def r70_6 : List HOp := [oe 4 (.mv (vI 6))]
@[simp] def r70_7 : List HOp := [ol 27 (.mv (.env 0)),ol 28 (.mv (.env 3)),ol 29 (.bin .other .eql (.loc 28) (vS [98, 114, 101, 97, 107])),ol 30 (.mv (.loc 29)),og 31 (.mv (.env 3)) 30 false,og 32 (.bin .other .eql (.loc 31) (vS [99, 111, 110, 116, 105, 110, 117, 101])) 30 false,ol 33 (.pick (.loc 30) (vB true) (.loc 32)),ol 34 (.mv (.loc 33)),og 35 (.mv (.env 3)) 34 false,og 36 (.bin .other .eql (.loc 35) (vS [114, 101, 116, 117, 114, 110])) 34 false,ol 37 (.pick (.loc 34) (vB true) (.loc 36)),ol 38 (.nilchk (.loc 27)),ol 39 (.faddr 2 (.loc 38)),ou (.store 1 (.loc 39) (.loc 37))]
@[simp] def r70_8 : List HOp := [ol 40 (.mv (.env 0)),ol 41 (.mv (.env 4)),ol 42 (.mv (.env 2)),ol 43 (.callf 42 [(.loc 40), (.loc 41), (.loc 42)])]
@[simp] def k70_6 : HCode := .seq (.region r70_6 none) (.region r70_7 none)
@[simp] def k70_5 : HCode := .cond (.loc 26) k70_6 .skip
def k70_7 : HCode := .region r70_8 none
@[simp] def k70_4 : HCode := .seq (.seq (.region r70_5 none) k70_5) k70_7
@[simp] def k70_3 : HCode := .seq (.region r70_4 none) k70_4
@[simp] def k70_2 : HCode := .seq (.region r70_3 none) k70_3
@[simp] def k70_1 : HCode := .seq (.region r70_2 (some [ ( 0, [ 0 ] ) , ( 0, [ 11 ] ) , ( 0, [ 12 ] ) , ( 1, [ 13 ] ) , ( 0, [ 2 ] ) , ( 0, [ 0 ] ) , ( 0, [ 16 ] ) , ( 0, [ 17 ] ) , ( 1, [ 18 ] ) , ( 2, [ 14, 15, 19 ] ) , ( 2, [ 20 ] ) , ( 0, [ 21 ] ) ])) k70_2
@[simp] def k70_0 : HCode := .seq (.region r70_1 none) k70_1
@[simp] def fn70 : HFn := { nargs := 1, results := [], mode := .shared, code := (.seq (.region r70_0 none) k70_0) }
theorem c70 : cFn Tryz.prog (Hs 70) .shared 70 = some fn70 := by kernel_rfl
@[simp] def r107_0 : List HOp := [oe 4 (.mv (vI 0))]
@[simp] def r107_1 : List HOp := [ol 6 (.mv (.env 0)),ol 7 (.nilchk (.loc 6)),ol 8 (.faddr 1 (.loc 7)),ol 9 (.load 1 false (.loc 8)),oe 5 (.mv (.loc 9))]
@[simp] def r107_2 : List HOp := [ol 10 (.mv (.env 0)),ol 11 (.nilchk (.loc 10)),ol 12 (.faddr 1 (.loc 11)),ol 13 (.load 1 false (.loc 12)),ol 14 (.mv (.env 0)),ol 15 (.nilchk (.loc 14)),ol 16 (.faddr 0 (.loc 15)),ol 17 (.load 1 false (.loc 16)),ol 18 (.len 1 (.loc 17)),ol 19 (.bin .other .lss (.loc 13) (.loc 18)),ol 20 (.mv (.loc 19)),og 21 (.mv (.env 1)) 20 true,og 22 (.mv (.env 0)) 20 true,og 23 (.nilchk (.loc 22)) 20 true,og 24 (.faddr 0 (.loc 23)) 20 true,og 25 (.load 1 false (.loc 24)) 20 true,og 26 (.mv (.env 0)) 20 true,og 27 (.nilchk (.loc 26)) 20 true,og 28 (.faddr 1 (.loc 27)) 20 true,og 29 (.load 1 false (.loc 28)) 20 true,og 30 (.iaddr 1 (.loc 25) (.loc 29)) 20 true,og 31 (.load 1 false (.loc 30)) 20 true,og 32 (.callv (.loc 21) [(.loc 31)]) 20 true,ol 33 (.pick (.loc 20) (.loc 32) (vB false))]
@[simp] def r107_3 : List HOp := [ol 34 (.mv (.env 0)),ol 35 (.nilchk (.loc 34)),ol 36 (.faddr 1 (.loc 35)),ol 37 (.load 1 false (.loc 36)),ol 38 (.bin .other .add (.loc 37) (vI 1)),ol 39 (.nilchk (.loc 34)),ol 40 (.faddr 1 (.loc 39)),ou (.store 1 (.loc 40) (.loc 38))]
@[simp] def r107_4 : List HOp := [ol 41 (.mv (.env 0)),ol 42 (.nilchk (.loc 41)),ol 43 (.faddr 1 (.loc 42)),ol 44 (.load 1 false (.loc 43)),ol 45 (.mv (.env 5)),ol 46 (.bin .other .sub (.loc 44) (.loc 45)),oe 4 (.mv (.loc 46))]
@[simp] def k107_3 : HCode := .cond (.loc 33) .skip (.exit 0)
def k107_4 : HCode := .block 1 (.region r107_3 none)
def k107_2 : HCode := .seq (.seq (.region r107_2 (some [ ( 0, [ 0 ] ) , ( 0, [ 10 ] ) , ( 0, [ 11 ] ) , ( 1, [ 12 ] ) , ( 0, [ 0 ] ) , ( 0, [ 14 ] ) , ( 0, [ 15 ] ) , ( 1, [ 16 ] ) , ( 0, [ 17 ] ) , ( 0, [ 13, 18 ] ) , ( 0, [ 19 ] ) , ( 0, [ 1, 20 ] ) , ( 0, [ 0, 20 ] ) , ( 0, [ 22, 20 ] ) , ( 0, [ 23, 20 ] ) , ( 1, [ 24, 20 ] ) , ( 0, [ 0, 20 ] ) , ( 0, [ 26, 20 ] ) , ( 0, [ 27, 20 ] ) , ( 1, [ 28, 20 ] ) , ( 2, [ 25, 29, 20 ] ) , ( 2, [ 30, 20 ] ) , ( 2, [ 21, 31, 20 ] ) , ( 0, [ 20, 32 ] ) ])) k107_3) k107_4
def k107_5 : HCode := .seq (.region r107_4 none) .ret
@[simp] def k107_1 : HCode := .seq (.block 0 (.loop k107_2)) k107_5
@[simp] def k107_0 : HCode := .seq (.region r107_1 none) k107_1
@[simp] def fn107 : HFn := { nargs := 2, results := [.tmp 4], mode := .shared, code := (.seq (.region r107_0 none) k107_0) }
theorem c107 : cFn Tryz.prog (Hs 107) .shared 107 = some fn107 := by kernel_rfl
@[simp] def r108_0 : List HOp := [oe 2 (.mv (vB false))]
@[simp] def r108_1 : List HOp := [ol 3 (.mv (.env 0)),ol 4 (.callf 69 [(.loc 3)]),ol 5 (.mv (.loc 4)),og 6 (.mv (.env 0)) 5 false,og 7 (.callf 71 [(.loc 6)]) 5 false,ol 8 (.pick (.loc 5) (vB true) (.loc 7)),oe 2 (.mv (.loc 8))]
@[simp] def k108_0 : HCode := .seq (.region r108_1 none) .ret
@[simp] def fn108 : HFn := { nargs := 1, results := [.tmp 2], mode := .shared, code := (.seq (.region r108_0 none) k108_0) }
theorem c108 : cFn Tryz.prog (Hs 108) .shared 108 = some fn108 := by kernel_rfl
@[simp] def r71_0 : List HOp := [oe 2 (.mv (vB false))]
@[simp] def r71_1 : List HOp := [ol 3 (.mv (.env 0)),ol 4 (.bin .other .geq (.loc 3) (vU 48)),ol 5 (.mv (.loc 4)),og 6 (.mv (.env 0)) 5 true,og 7 (.bin .other .leq (.loc 6) (vU 57)) 5 true,ol 8 (.pick (.loc 5) (.loc 7) (vB false)),oe 2 (.mv (.loc 8))]
@[simp] def k71_0 : HCode := .seq (.region r71_1 none) .ret
@[simp] def fn71 : HFn := { nargs := 1, results := [.tmp 2], mode := .iso, code := (.seq (.region r71_0 none) k71_0) }
theorem c71 : cFn Tryz.prog (Hs 71) .iso 71 = some fn71 := by kernel_rfl
@[simp] def r109_0 : List HOp := [oe 2 (.mv (vB false))]
@[simp] def r109_1 : List HOp := [ol 3 (.mv (.env 0)),ol 4 (.bin .other .neq (.loc 3) (vS [])),ol 5 (.mv (.loc 4)),og 6 (.mv (.env 0)) 5 true,og 7 (.callf 115 [(.loc 6), (vS [32])]) 5 true,og 8 (.un .not (.loc 7)) 5 true,ol 9 (.pick (.loc 5) (.loc 8) (vB false)),ol 10 (.mv (.loc 9)),og 11 (.mv (.env 0)) 10 true,og 12 (.bin .other .add (vS [32]) (.loc 11)) 10 true,og 13 (.bin .other .add (.loc 12) (vS [32])) 10 true,og 14 (.callf 115 [(vS [32, 98, 114, 101, 97, 107, 32, 99, 97, 115, 101, 32, 99, 104, 97, 110, 32, 99, 111, 110, 115, 116, 32, 99, 111, 110, 116, 105, 110, 117, 101, 32, 100, 101, 102, 97, 117, 108, 116, 32, 100, 101, 102, 101, 114, 32, 101, 108, 115, 101, 32, 102, 97, 108, 108, 116, 104, 114, 111, 117, 103, 104, 32, 102, 111, 114, 32, 102, 117, 110, 99, 32, 103, 111, 32, 103, 111, 116, 111, 32, 105, 102, 32, 105, 109, 112, 111, 114, 116, 32, 105, 110, 116, 101, 114, 102, 97, 99, 101, 32, 109, 97, 112, 32, 112, 97, 99, 107, 97, 103, 101, 32, 114, 97, 110, 103, 101, 32, 114, 101, 116, 117, 114, 110, 32, 115, 101, 108, 101, 99, 116, 32, 115, 116, 114, 117, 99, 116, 32, 115, 119, 105, 116, 99, 104, 32, 116, 121, 112, 101, 32, 118, 97, 114, 32]), (.loc 13)]) 10 true,ol 15 (.pick (.loc 10) (.loc 14) (vB false)),oe 2 (.mv (.loc 15))]
@[simp] def k109_0 : HCode := .seq (.region r109_1 none) .ret
@[simp] def fn109 : HFn := { nargs := 1, results := [.tmp 2], mode := .shared, code := (.seq (.region r109_0 none) k109_0) }
theorem c109 : cFn Tryz.prog (Hs 109) .shared 109 = some fn109 := by kernel_rfl
@[simp] def r42_0 : List HOp := [ol 6 (.mv (.env 0)),ol 7 (.mv (.env 0)),ol 8 (.nilchk (.loc 7)),ol 9 (.faddr 3 (.loc 8)),ol 10 (.load 1 false (.loc 9)),ol 11 (.mv (.env 1)),ol 12 (.mv (.env 0)),ol 13 (.nilchk (.loc 12)),ol 14 (.faddr 0 (.loc 13)),ol 15 (.load 1 false (.loc 14)),ol 16 (.mv (.env 2)),ol 17 (.mv (.env 0)),ol 18 (.nilchk (.loc 17)),ol 19 (.faddr 1 (.loc 18)),ol 20 (.load 1 false (.loc 19)),ol 21 (.slice 1 (.loc 15) (some (.loc 16)) (some (.loc 20)) none),ol 22 (.conv .bytesStr (.loc 21)),ol 23 (.mv (.env 2)),ol 24 (.build [(.sc (.int .i64 0)), (.sc (.string ⟨⟨[]⟩⟩)), (.sc (.int .i64 0))] [(0, 1, (.loc 11)), (1, 1, (.loc 22)), (2, 1, (.loc 23))]),ol 25 (.bslice false 1 3 [(.sc (.int .i64 0)), (.sc (.string ⟨⟨[]⟩⟩)), (.sc (.int .i64 0))] [(0, 3, (.loc 24))]),ol 26 (.append 3 32 (.loc 10) (.loc 25)),ol 27 (.nilchk (.loc 6)),ol 28 (.faddr 3 (.loc 27)),ou (.store 1 (.loc 28) (.loc 26))]
@[simp] def fn42 : HFn := { nargs := 3, results := [], mode := .shared, code := (.region r42_0 (some [ ( 0, [ 0 ] ) , ( 0, [ 0 ] ) , ( 0, [ 7 ] ) , ( 0, [ 8 ] ) , ( 23, [ 9 ] ) , ( 0, [ 1 ] ) , ( 0, [ 0 ] ) , ( 0, [ 12 ] ) , ( 0, [ 13 ] ) , ( 1, [ 14 ] ) , ( 0, [ 2 ] ) , ( 0, [ 0 ] ) , ( 0, [ 17 ] ) , ( 0, [ 18 ] ) , ( 1, [ 19 ] ) , ( 1, [ 15, 16, 20 ] ) , ( 2, [ 21 ] ) , ( 0, [ 2 ] ) , ( 0, [ 11, 22, 23 ] ) , ( 0, [ 24 ] ) , ( 2, [ 10, 25 ] ) , ( 0, [ 6 ] ) , ( 0, [ 27 ] ) , ( 2, [ 28, 26 ] ) ])) }
theorem c42 : cFn Tryz.prog (Hs 42) .shared 42 = some fn42 := by kernel_rfl
@[simp] def r72_0 : List HOp := [oe 4 (.mv (vU 0))]
@[simp] def r72_1 : List HOp := [ol 5 (.mv (.env 0)),ol 6 (.nilchk (.loc 5)),ol 7 (.faddr 1 (.loc 6)),ol 8 (.load 1 false (.loc 7)),ol 9 (.mv (.env 1)),ol 10 (.bin .other .add (.loc 8) (.loc 9)),ol 11 (.mv (.env 0)),ol 12 (.nilchk (.loc 11)),ol 13 (.faddr 0 (.loc 12)),ol 14 (.load 1 false (.loc 13)),ol 15 (.len 1 (.loc 14)),ol 16 (.bin .other .geq (.loc 10) (.loc 15))]
@[simp] def r72_2 : List HOp := [oe 4 (.mv (vU 0))]
@[simp] def r72_3 : List HOp := [ol 17 (.mv (.env 0)),ol 18 (.nilchk (.loc 17)),ol 19 (.faddr 0 (.loc 18)),ol 20 (.load 1 false (.loc 19)),ol 21 (.mv (.env 0)),ol 22 (.nilchk (.loc 21)),ol 23 (.faddr 1 (.loc 22)),ol 24 (.load 1 false (.loc 23)),ol 25 (.mv (.env 1)),ol 26 (.bin .other .add (.loc 24) (.loc 25)),ol 27 (.iaddr 1 (.loc 20) (.loc 26)),ol 28 (.load 1 false (.loc 27)),oe 4 (.mv (.loc 28))]
@[simp] def k72_2 : HCode := .seq (.region r72_2 none) .ret
@[simp] def k72_1 : HCode := .cond (.loc 16) k72_2 .skip
def k72_3 : HCode := .seq (.region r72_3 (some [ ( 0, [ 0 ] ) , ( 0, [ 17 ] ) , ( 0, [ 18 ] ) , ( 1, [ 19 ] ) , ( 0, [ 0 ] ) , ( 0, [ 21 ] ) , ( 0, [ 22 ] ) , ( 1, [ 23 ] ) , ( 0, [ 1 ] ) , ( 0, [ 24, 25 ] ) , ( 2, [ 20, 26 ] ) , ( 2, [ 27 ] ) , ( 0, [ 28 ] ) ])) .ret
@[simp] def k72_0 : HCode := .seq (.seq (.region r72_1 (some [ ( 0, [ 0 ] ) , ( 0, [ 5 ] ) , ( 0, [ 6 ] ) , ( 1, [ 7 ] ) , ( 0, [ 1 ] ) , ( 0, [ 8, 9 ] ) , ( 0, [ 0 ] ) , ( 0, [ 11 ] ) , ( 0, [ 12 ] ) , ( 1, [ 13 ] ) , ( 0, [ 14 ] ) , ( 0, [ 10, 15 ] ) ])) k72_1) k72_3
@[simp] def fn72 : HFn := { nargs := 2, results := [.tmp 4], mode := .shared, code := (.seq (.region r72_0 none) k72_0) }
theorem c72 : cFn Tryz.prog (Hs 72) .shared 72 = some fn72 := by kernel_rfl
@[simp] def r73_0 : List HOp := [oe 2 (.mv (vB false))]
@[simp] def r73_1 : List HOp := [ol 9 (.mv (.env 0)),ol 10 (.nilchk (.loc 9)),ol 11 (.faddr 1 (.loc 10)),ol 12 (.load 1 false (.loc 11)),oe 3 (.mv (.loc 12))]
@[simp] def r73_2 : List HOp := [ol 13 (.mv (.env 0)),ol 14 (.mkfn (.func 110) [(.loc 13)] []),oe 4 (.mv (.loc 14))]
@[simp] def r73_3 : List HOp := [ol 15 (.mv (.env 0)),ol 16 (.callf 72 [(.loc 15), (vI 1)]),ol 17 (.bin .other .or (.loc 16) (vU 32)),oe 5 (.mv (.loc 17))]
@[simp] def r73_4 : List HOp := [ol 18 (.mv (.env 0)),ol 19 (.nilchk (.loc 18)),ol 20 (.faddr 0 (.loc 19)),ol 21 (.load 1 false (.loc 20)),ol 22 (.mv (.env 0)),ol 23 (.nilchk (.loc 22)),ol 24 (.faddr 1 (.loc 23)),ol 25 (.load 1 false (.loc 24)),ol 26 (.iaddr 1 (.loc 21) (.loc 25)),ol 27 (.load 1 false (.loc 26)),ol 28 (.bin .other .eql (.loc 27) (vU 48)),ol 29 (.mv (.loc 28)),og 30 (.mv (.env 5)) 29 true,og 31 (.bin .other .eql (.loc 30) (vU 120)) 29 true,og 32 (.mv (.loc 31)) 29 true,og 33 (.mv (.env 5)) 32 false,og 34 (.bin .other .eql (.loc 33) (vU 111)) 32 false,og 35 (.pick (.loc 32) (vB true) (.loc 34)) 29 true,og 36 (.mv (.loc 35)) 29 true,og 37 (.mv (.env 5)) 36 false,og 38 (.bin .other .eql (.loc 37) (vU 98)) 36 false,og 39 (.pick (.loc 36) (vB true) (.loc 38)) 29 true,ol 40 (.pick (.loc 29) (.loc 39) (vB false))]
@[simp] def r73_5 : List HOp := [ol 41 (.mv (.env 0)),ol 42 (.mkfn (.func 111) [(.loc 41)] []),oe 4 (.mv (.loc 42))]
@[simp] def r73_6 : List HOp := [ol 44 (.mv (.env 4)),ol 45 (.callv (.loc 44) []),ol 43 (.mv (.loc 45)),ol 46 (.extract (.loc 43) 0),ol 47 (.extract (.loc 43) 1),oe 6 (.mv (.loc 46)),oe 7 (.mv (.loc 47))]
@[simp] def r73_7 : List HOp := [ol 48 (.mv (.env 0)),ol 49 (.callf 72 [(.loc 48), (vI 0)]),oe 8 (.mv (.loc 49))]
@[simp] def r73_8 : List HOp := [ol 50 (.mv (.env 7)),ol 51 (.un .not (.loc 50)),ol 52 (.mv (.loc 51)),og 53 (.mv (.env 8)) 52 false,og 54 (.callf 69 [(.loc 53)]) 52 false,ol 55 (.pick (.loc 52) (vB true) (.loc 54)),ol 56 (.mv (.loc 55)),og 57 (.mv (.env 8)) 56 false,og 58 (.callf 71 [(.loc 57)]) 56 false,ol 59 (.pick (.loc 56) (vB true) (.loc 58)),ol 60 (.mv (.loc 59)),og 61 (.mv (.env 8)) 60 false,og 62 (.bin .other .eql (.loc 61) (vU 46)) 60 false,ol 63 (.pick (.loc 60) (vB true) (.loc 62))]
@[simp] def r73_9 : List HOp := [oe 2 (.mv (vB false))]
@[simp] def r73_10 : List HOp := [ol 64 (.mv (.env 0)),ol 65 (.mv (.env 6)),ol 66 (.mv (.env 3)),ol 67 (.callf 42 [(.loc 64), (.loc 65), (.loc 66)])]
@[simp] def r73_11 : List HOp := [oe 2 (.mv (vB true))]
@[simp] def k73_4 : HCode := .cond (.loc 40) (.region r73_5 none) .skip
@[simp] def k73_3 : HCode := .seq (.region r73_4 (some [ ( 0, [ 0 ] ) , ( 0, [ 18 ] ) , ( 0, [ 19 ] ) , ( 1, [ 20 ] ) , ( 0, [ 0 ] ) , ( 0, [ 22 ] ) , ( 0, [ 23 ] ) , ( 1, [ 24 ] ) , ( 2, [ 21, 25 ] ) , ( 2, [ 26 ] ) , ( 0, [ 27 ] ) , ( 0, [ 28 ] ) , ( 0, [ 5, 29 ] ) , ( 0, [ 30, 29 ] ) , ( 0, [ 31, 29 ] ) , ( 0, [ 5, 32 ] ) , ( 0, [ 33, 32 ] ) , ( 0, [ 32, 34, 29 ] ) , ( 0, [ 35, 29 ] ) , ( 0, [ 5, 36 ] ) , ( 0, [ 37, 36 ] ) , ( 0, [ 36, 38, 29 ] ) , ( 0, [ 29, 39 ] ) ])) k73_4
@[simp] def k73_9 : HCode := .seq (.region r73_9 none) .ret
@[simp] def k73_8 : HCode := .cond (.loc 63) k73_9 .skip
@[simp] def k73_7 : HCode := .seq (.region r73_8 none) k73_8
@[simp] def k73_11 : HCode := .seq (.region r73_11 none) .ret
def k73_10 : HCode := .seq (.region r73_10 none) k73_11
@[simp] def k73_6 : HCode := .seq (.seq (.region r73_7 none) k73_7) k73_10
def k73_5 : HCode := .seq (.region r73_6 none) k73_6
@[simp] def k73_2 : HCode := .seq (.seq (.region r73_3 none) k73_3) k73_5
@[simp] def k73_1 : HCode := .seq (.region r73_2 none) k73_2
@[simp] def k73_0 : HCode := .seq (.region r73_1 none) k73_1
@[simp] def fn73 : HFn := { nargs := 1, results := [.tmp 2], mode := .shared, code := (.seq (.region r73_0 none) k73_0) }
theorem c73 : cFn Tryz.prog (Hs 73) .shared 73 = some fn73 := by kernel_rfl
@[simp] def r110_0 : List HOp := [oe 2 (.mv (vI 0)),oe 3 (.mv (vB false))]
@[simp] def r110_1 : List HOp := [ol 10 (.mv (.env 0)),ol 11 (.nilchk (.loc 10)),ol 12 (.faddr 1 (.loc 11)),ol 13 (.load 1 false (.loc 12)),oe 4 (.mv (.loc 13))]
@[simp] def r110_2 : List HOp := [ol 14 (.mv (.env 0)),ol 15 (.callf 107 [(.loc 14), (.val (.tr (.fn (.func 71) [] [])))]),oe 5 (.mv (.loc 15))]
@[simp] def r110_3 : List HOp := [ol 16 (.mv (.env 5)),ol 17 (.bin .other .eql (.loc 16) (vI 1)),ol 18 (.mv (.loc 17)),og 19 (.mv (.env 0)) 18 false,og 20 (.nilchk (.loc 19)) 18 false,og 21 (.faddr 0 (.loc 20)) 18 false,og 22 (.load 1 false (.loc 21)) 18 false,og 23 (.mv (.env 4)) 18 false,og 24 (.iaddr 1 (.loc 22) (.loc 23)) 18 false,og 25 (.load 1 false (.loc 24)) 18 false,og 26 (.bin .other .neq (.loc 25) (vU 48)) 18 false,ol 27 (.pick (.loc 18) (vB true) (.loc 26)),oe 6 (.mv (.loc 27))]
@[simp] def r110_4 : List HOp := [ol 28 (.mv (.env 0)),ol 29 (.callf 72 [(.loc 28), (vI 0)]),ol 30 (.bin .other .eql (.loc 29) (vU 46)),oe 7 (.mv (.loc 30))]
@[simp] def r110_5 : List HOp := [ol 31 (.mv (.env 7))]
@[simp] def r110_6 : List HOp := [ol 32 (.mv (.env 0)),ol 33 (.nilchk (.loc 32)),ol 34 (.faddr 1 (.loc 33)),ol 35 (.load 1 false (.loc 34)),ol 36 (.bin .other .add (.loc 35) (vI 1)),ol 37 (.nilchk (.loc 32)),ol 38 (.faddr 1 (.loc 37)),ou (.store 1 (.loc 38) (.loc 36))]
@[simp] def r110_7 : List HOp := [ol 39 (.mv (.env 5)),ol 40 (.mv (.env 0)),ol 41 (.callf 107 [(.loc 40), (.val (.tr (.fn (.func 71) [] [])))]),ol 42 (.bin .other .add (.loc 39) (.loc 41)),oe 5 (.mv (.loc 42))]
@[simp] def r110_8 : List HOp := [ol 44 (.mv (.env 0)),ol 45 (.callf 136 [(.loc 44), (vU 101)]),ol 43 (.mv (.loc 45)),ol 46 (.extract (.loc 43) 0),ol 47 (.extract (.loc 43) 1),oe 8 (.mv (.loc 46)),oe 9 (.mv (.loc 47))]
@[simp] def r110_9 : List HOp := [ol 48 (.mv (.env 7)),ol 49 (.mv (.loc 48)),og 50 (.mv (.env 8)) 49 false,ol 51 (.pick (.loc 49) (vB true) (.loc 50))]
@[simp] def r110_10 : List HOp := [ol 52 (.mv (.env 9)),ol 53 (.mv (.loc 52)),og 54 (.mv (.env 5)) 53 true,og 55 (.bin .other .gtr (.loc 54) (vI 0)) 53 true,ol 56 (.pick (.loc 53) (.loc 55) (vB false)),oe 2 (.mv (vI 3)),oe 3 (.mv (.loc 56))]
@[simp] def r110_11 : List HOp := [ol 57 (.mv (.env 6)),oe 2 (.mv (vI 2)),oe 3 (.mv (.loc 57))]
@[simp] def k110_6 : HCode := .seq (.region r110_6 none) (.region r110_7 none)
@[simp] def k110_5 : HCode := .cond (.loc 31) k110_6 .skip
@[simp] def k110_10 : HCode := .seq (.region r110_10 none) .ret
@[simp] def k110_9 : HCode := .cond (.loc 51) k110_10 .skip
def k110_11 : HCode := .seq (.region r110_11 none) .ret
@[simp] def k110_8 : HCode := .seq (.seq (.region r110_9 none) k110_9) k110_11
def k110_7 : HCode := .seq (.region r110_8 none) k110_8
@[simp] def k110_4 : HCode := .seq (.seq (.region r110_5 none) k110_5) k110_7
@[simp] def k110_3 : HCode := .seq (.region r110_4 none) k110_4
@[simp] def k110_2 : HCode := .seq (.region r110_3 none) k110_3
@[simp] def k110_1 : HCode := .seq (.region r110_2 none) k110_2
@[simp] def k110_0 : HCode := .seq (.region r110_1 none) k110_1
@[simp] def fn110 : HFn := { nargs := 1, results := [.tmp 2, .tmp 3], mode := .shared, code := (.seq (.region r110_0 none) k110_0) }
theorem c110 : cFn Tryz.prog (Hs 110) .shared 110 = some fn110 := by kernel_rfl
@[simp] def r136_0 : List HOp := [oe 4 (.mv (vB false)),oe 5 (.mv (vB false))]
@[simp] def r136_1 : List HOp := [ol 10 (.mv (.env 0)),ol 11 (.callf 72 [(.loc 10), (vI 0)]),ol 12 (.bin .other .or (.loc 11) (vU 32)),ol 13 (.mv (.env 1)),ol 14 (.bin .other .neq (.loc 12) (.loc 13))]
@[simp] def r136_2 : List HOp := [oe 4 (.mv (vB false)),oe 5 (.mv (vB true))]
@[simp] def r136_3 : List HOp := [ol 15 (.mv (.env 0)),ol 16 (.nilchk (.loc 15)),ol 17 (.faddr 1 (.loc 16)),ol 18 (.load 1 false (.loc 17)),ol 19 (.bin .other .add (.loc 18) (vI 1)),ol 20 (.nilchk (.loc 15)),ol 21 (.faddr 1 (.loc 20)),ou (.store 1 (.loc 21) (.loc 19))]
@[simp] def r136_4 : List HOp := [ol 22 (.mv (.env 0)),ol 23 (.callf 72 [(.loc 22), (vI 0)]),oe 6 (.mv (.loc 23))]
@[simp] def r136_5 : List HOp := [ol 24 (.mv (.env 6)),ol 25 (.bin .other .eql (.loc 24) (vU 43)),ol 26 (.mv (.loc 25)),og 27 (.mv (.env 6)) 26 false,og 28 (.bin .other .eql (.loc 27) (vU 45)) 26 false,ol 29 (.pick (.loc 26) (vB true) (.loc 28))]
@[simp] def r136_6 : List HOp := [ol 30 (.mv (.env 0)),ol 31 (.nilchk (.loc 30)),ol 32 (.faddr 1 (.loc 31)),ol 33 (.load 1 false (.loc 32)),ol 34 (.bin .other .add (.loc 33) (vI 1)),ol 35 (.nilchk (.loc 30)),ol 36 (.faddr 1 (.loc 35)),ou (.store 1 (.loc 36) (.loc 34))]
@[simp] def r136_7 : List HOp := [ol 37 (.mv (.env 0)),ol 38 (.nilchk (.loc 37)),ol 39 (.faddr 1 (.loc 38)),ol 40 (.load 1 false (.loc 39)),oe 7 (.mv (.loc 40))]
@[simp] def r136_8 : List HOp := [ol 41 (.mv (.env 0)),ol 42 (.callf 107 [(.loc 41), (.val (.tr (.fn (.func 71) [] [])))]),oe 8 (.mv (.loc 42))]
@[simp] def r136_9 : List HOp := [ol 43 (.mv (.env 0)),ol 44 (.nilchk (.loc 43)),ol 45 (.faddr 0 (.loc 44)),ol 46 (.load 1 false (.loc 45)),ol 47 (.mv (.env 7)),ol 48 (.mv (.env 0)),ol 49 (.nilchk (.loc 48)),ol 50 (.faddr 1 (.loc 49)),ol 51 (.load 1 false (.loc 50)),ol 52 (.slice 1 (.loc 46) (some (.loc 47)) (some (.loc 51)) none),ol 53 (.conv .bytesStr (.loc 52)),ol 54 (.callf 157 [(.loc 53), (vS [48])]),oe 9 (.mv (.loc 54))]
@[simp] def r136_10 : List HOp := [ol 55 (.mv (.env 8)),ol 56 (.bin .other .gtr (.loc 55) (vI 0)),ol 57 (.mv (.loc 56)),og 58 (.mv (.env 9)) 57 true,og 59 (.len 0 (.loc 58)) 57 true,og 60 (.bin .other .leq (.loc 59) (vI 3)) 57 true,ol 61 (.pick (.loc 57) (.loc 60) (vB false)),oe 4 (.mv (vB true)),oe 5 (.mv (.loc 61))]
@[simp] def k136_2 : HCode := .seq (.region r136_2 none) .ret
@[simp] def k136_1 : HCode := .cond (.loc 14) k136_2 .skip
@[simp] def k136_6 : HCode := .cond (.loc 29) (.region r136_6 none) .skip
@[simp] def k136_5 : HCode := .seq (.region r136_5 none) k136_6
@[simp] def k136_10 : HCode := .seq (.region r136_10 none) .ret
@[simp] def k136_9 : HCode := .seq (.region r136_9 (some [ ( 0, [ 0 ] ) , ( 0, [ 43 ] ) , ( 0, [ 44 ] ) , ( 1, [ 45 ] ) , ( 0, [ 7 ] ) , ( 0, [ 0 ] ) , ( 0, [ 48 ] ) , ( 0, [ 49 ] ) , ( 1, [ 50 ] ) , ( 2, [ 46, 47, 51 ] ) , ( 2, [ 52 ] ) , ( 2, [ 53 ] ) , ( 0, [ 54 ] ) ])) k136_10
@[simp] def k136_8 : HCode := .seq (.region r136_8 none) k136_9
def k136_7 : HCode := .seq (.region r136_7 none) k136_8
@[simp] def k136_4 : HCode := .seq (.seq (.region r136_4 none) k136_5) k136_7
def k136_3 : HCode := .seq (.region r136_3 none) k136_4
@[simp] def k136_0 : HCode := .seq (.seq (.region r136_1 none) k136_1) k136_3
@[simp] def fn136 : HFn := { nargs := 2, results := [.tmp 4, .tmp 5], mode := .shared, code := (.seq (.region r136_0 none) k136_0) }
theorem c136 : cFn Tryz.prog (Hs 136) .shared 136 = some fn136 := by kernel_rfl
@[simp] def r111_0 : List HOp := [oe 2 (.mv (vI 0)),oe 3 (.mv (vB false))]
@[simp] def r111_1 : List HOp := [ol 9 (.mv (.env 0)),ol 10 (.callf 72 [(.loc 9), (vI 1)]),ol 11 (.bin .other .or (.loc 10) (vU 32)),oe 4 (.mv (.loc 11))]
@[simp] def r111_2 : List HOp := [ol 12 (.mv (.env 0)),ol 13 (.nilchk (.loc 12)),ol 14 (.faddr 1 (.loc 13)),ol 15 (.load 1 false (.loc 14)),ol 16 (.bin .other .add (.loc 15) (vI 2)),ol 17 (.nilchk (.loc 12)),ol 18 (.faddr 1 (.loc 17)),ou (.store 1 (.loc 18) (.loc 16))]
@[simp] def r111_3 : List HOp := [oe 19 (.mv (.env 4))]
@[simp] def r111_4 : List HOp := [ol 21 (.bin .other .eql (.env 19) (vU 111)),ol 20 (.mv (.loc 21))]
@[simp] def r111_5 : List HOp := [ol 22 (.mv (.env 0)),ol 23 (.callf 107 [(.loc 22), (.val (.tr (.fn (.func 137) [] [])))]),ol 24 (.bin .other .gtr (.loc 23) (vI 0)),oe 2 (.mv (vI 2)),oe 3 (.mv (.loc 24))]
@[simp] def r111_6 : List HOp := [ol 26 (.bin .other .eql (.env 19) (vU 98)),ol 25 (.mv (.loc 26))]
@[simp] def r111_7 : List HOp := [ol 27 (.mv (.env 0)),ol 28 (.callf 107 [(.loc 27), (.val (.tr (.fn (.func 138) [] [])))]),ol 29 (.bin .other .gtr (.loc 28) (vI 0)),oe 2 (.mv (vI 2)),oe 3 (.mv (.loc 29))]
@[simp] def r111_8 : List HOp := [ol 30 (.mv (.env 0)),ol 31 (.callf 107 [(.loc 30), (.val (.tr (.fn (.func 139) [] [])))]),oe 5 (.mv (.loc 31)),oe 6 (.mv (vB false))]
@[simp] def r111_9 : List HOp := [ol 32 (.mv (.env 0)),ol 33 (.callf 72 [(.loc 32), (vI 0)]),ol 34 (.bin .other .eql (.loc 33) (vU 46))]
@[simp] def r111_10 : List HOp := [ol 35 (.mv (.env 0)),ol 36 (.nilchk (.loc 35)),ol 37 (.faddr 1 (.loc 36)),ol 38 (.load 1 false (.loc 37)),ol 39 (.bin .other .add (.loc 38) (vI 1)),ol 40 (.nilchk (.loc 35)),ol 41 (.faddr 1 (.loc 40)),ou (.store 1 (.loc 41) (.loc 39))]
@[simp] def r111_11 : List HOp := [oe 6 (.mv (vB true))]
@[simp] def r111_12 : List HOp := [ol 42 (.mv (.env 5)),ol 43 (.mv (.env 0)),ol 44 (.callf 107 [(.loc 43), (.val (.tr (.fn (.func 139) [] [])))]),ol 45 (.bin .other .add (.loc 42) (.loc 44)),oe 5 (.mv (.loc 45))]
@[simp] def r111_13 : List HOp := [ol 47 (.mv (.env 0)),ol 48 (.callf 136 [(.loc 47), (vU 112)]),ol 46 (.mv (.loc 48)),ol 49 (.extract (.loc 46) 0),ol 50 (.extract (.loc 46) 1),oe 7 (.mv (.loc 49)),oe 8 (.mv (.loc 50))]
@[simp] def r111_14 : List HOp := [ol 51 (.mv (.env 7))]
@[simp] def r111_15 : List HOp := [ol 52 (.mv (.env 8)),ol 53 (.mv (.loc 52)),og 54 (.mv (.env 5)) 53 true,og 55 (.bin .other .gtr (.loc 54) (vI 0)) 53 true,ol 56 (.pick (.loc 53) (.loc 55) (vB false)),oe 2 (.mv (vI 3)),oe 3 (.mv (.loc 56))]
@[simp] def r111_16 : List HOp := [ol 57 (.mv (.env 5)),ol 58 (.bin .other .gtr (.loc 57) (vI 0)),ol 59 (.mv (.loc 58)),og 60 (.mv (.env 6)) 59 true,og 61 (.un .not (.loc 60)) 59 true,ol 62 (.pick (.loc 59) (.loc 61) (vB false)),oe 2 (.mv (vI 2)),oe 3 (.mv (.loc 62))]
@[simp] def k111_5 : HCode := .seq (.region r111_5 none) .ret
@[simp] def k111_8 : HCode := .seq (.region r111_7 none) .ret
@[simp] def k111_7 : HCode := .cond (.loc 25) k111_8 .skip
@[simp] def k111_6 : HCode := .seq (.region r111_6 none) k111_7
@[simp] def k111_4 : HCode := .cond (.loc 20) k111_5 k111_6
@[simp] def k111_3 : HCode := .block 0 (.seq (.region r111_4 none) k111_4)
@[simp] def k111_13 : HCode := .seq (.region r111_11 none) (.region r111_12 none)
@[simp] def k111_12 : HCode := .seq (.region r111_10 none) k111_13
@[simp] def k111_11 : HCode := .cond (.loc 34) k111_12 .skip
@[simp] def k111_17 : HCode := .seq (.region r111_15 none) .ret
@[simp] def k111_16 : HCode := .cond (.loc 51) k111_17 .skip
def k111_18 : HCode := .seq (.region r111_16 none) .ret
@[simp] def k111_15 : HCode := .seq (.seq (.region r111_14 none) k111_16) k111_18
def k111_14 : HCode := .seq (.region r111_13 none) k111_15
@[simp] def k111_10 : HCode := .seq (.seq (.region r111_9 none) k111_11) k111_14
def k111_9 : HCode := .seq (.region r111_8 none) k111_10
@[simp] def k111_2 : HCode := .seq (.seq (.region r111_3 none) k111_3) k111_9
@[simp] def k111_1 : HCode := .seq (.region r111_2 none) k111_2
@[simp] def k111_0 : HCode := .seq (.region r111_1 none) k111_1
@[simp] def fn111 : HFn := { nargs := 1, results := [.tmp 2, .tmp 3], mode := .shared, code := (.seq (.region r111_0 none) k111_0) }
theorem c111 : cFn Tryz.prog (Hs 111) .shared 111 = some fn111 := by kernel_rfl
@[simp] def r137_0 : List HOp := [oe 2 (.mv (vB false))]
@[simp] def r137_1 : List HOp := [ol 3 (.mv (.env 0)),ol 4 (.bin .other .geq (.loc 3) (vU 48)),ol 5 (.mv (.loc 4)),og 6 (.mv (.env 0)) 5 true,og 7 (.bin .other .leq (.loc 6) (vU 55)) 5 true,ol 8 (.pick (.loc 5) (.loc 7) (vB false)),oe 2 (.mv (.loc 8))]
@[simp] def k137_0 : HCode := .seq (.region r137_1 none) .ret
@[simp] def fn137 : HFn := { nargs := 1, results := [.tmp 2], mode := .iso, code := (.seq (.region r137_0 none) k137_0) }
theorem c137 : cFn Tryz.prog (Hs 137) .iso 137 = some fn137 := by kernel_rfl
@[simp] def r138_0 : List HOp := [oe 2 (.mv (vB false))]
@[simp] def r138_1 : List HOp := [ol 3 (.mv (.env 0)),ol 4 (.bin .other .eql (.loc 3) (vU 48)),ol 5 (.mv (.loc 4)),og 6 (.mv (.env 0)) 5 false,og 7 (.bin .other .eql (.loc 6) (vU 49)) 5 false,ol 8 (.pick (.loc 5) (vB true) (.loc 7)),oe 2 (.mv (.loc 8))]
@[simp] def k138_0 : HCode := .seq (.region r138_1 none) .ret
@[simp] def fn138 : HFn := { nargs := 1, results := [.tmp 2], mode := .iso, code := (.seq (.region r138_0 none) k138_0) }
theorem c138 : cFn Tryz.prog (Hs 138) .iso 138 = some fn138 := by kernel_rfl
@[simp] def r139_0 : List HOp := [oe 2 (.mv (vB false))]
@[simp] def r139_1 : List HOp := [ol 3 (.mv (.env 0)),ol 4 (.callf 71 [(.loc 3)]),ol 5 (.mv (.loc 4)),og 6 (.mv (.env 0)) 5 false,og 7 (.bin .other .or (.loc 6) (vU 32)) 5 false,og 8 (.bin .other .geq (.loc 7) (vU 97)) 5 false,og 9 (.mv (.loc 8)) 5 false,og 10 (.mv (.env 0)) 9 true,og 11 (.bin .other .or (.loc 10) (vU 32)) 9 true,og 12 (.bin .other .leq (.loc 11) (vU 102)) 9 true,og 13 (.pick (.loc 9) (.loc 12) (vB false)) 5 false,ol 14 (.pick (.loc 5) (vB true) (.loc 13)),oe 2 (.mv (.loc 14))]
@[simp] def k139_0 : HCode := .seq (.region r139_1 none) .ret
@[simp] def fn139 : HFn := { nargs := 1, results := [.tmp 2], mode := .iso, code := (.seq (.region r139_0 none) k139_0) }
theorem c139 : cFn Tryz.prog (Hs 139) .iso 139 = some fn139 := by kernel_rfl
@[simp] def r74_0 : List HOp := [oe 2 (.mv (vB false))]
@[simp] def r74_1 : List HOp := [ol 7 (.mv (.env 0)),ol 8 (.nilchk (.loc 7)),ol 9 (.faddr 0 (.loc 8)),ol 10 (.load 1 false (.loc 9)),ol 11 (.mv (.env 0)),ol 12 (.nilchk (.loc 11)),ol 13 (.faddr 1 (.loc 12)),ol 14 (.load 1 false (.loc 13)),ol 15 (.iaddr 1 (.loc 10) (.loc 14)),ol 16 (.load 1 false (.loc 15)),oe 3 (.mv (.loc 16))]
@[simp] def r74_2 : List HOp := [ol 17 (.mv (.env 0)),ol 18 (.nilchk (.loc 17)),ol 19 (.faddr 1 (.loc 18)),ol 20 (.load 1 false (.loc 19)),ol 21 (.bin .other .add (.loc 20) (vI 1)),ol 22 (.nilchk (.loc 17)),ol 23 (.faddr 1 (.loc 22)),ou (.store 1 (.loc 23) (.loc 21))]
@[simp] def r74_3 : List HOp := [ol 24 (.mv (.env 0)),ol 25 (.nilchk (.loc 24)),ol 26 (.faddr 1 (.loc 25)),ol 27 (.load 1 false (.loc 26)),ol 28 (.mv (.env 0)),ol 29 (.nilchk (.loc 28)),ol 30 (.faddr 0 (.loc 29)),ol 31 (.load 1 false (.loc 30)),ol 32 (.len 1 (.loc 31)),ol 33 (.bin .other .lss (.loc 27) (.loc 32))]
@[simp] def r74_4 : List HOp := [ol 34 (.mv (.env 0)),ol 35 (.nilchk (.loc 34)),ol 36 (.faddr 0 (.loc 35)),ol 37 (.load 1 false (.loc 36)),ol 38 (.mv (.env 0)),ol 39 (.nilchk (.loc 38)),ol 40 (.faddr 1 (.loc 39)),ol 41 (.load 1 false (.loc 40)),ol 42 (.iaddr 1 (.loc 37) (.loc 41)),ol 43 (.load 1 false (.loc 42)),oe 4 (.mv (.loc 43))]
@[simp] def r74_5 : List HOp := [ol 72 (.mv (.env 4)),ol 73 (.mv (.env 3)),ol 74 (.bin .other .eql (.loc 72) (.loc 73)),ol 71 (.mv (.loc 74))]
@[simp] def r74_6 : List HOp := [ol 75 (.mv (.env 0)),ol 76 (.nilchk (.loc 75)),ol 77 (.faddr 1 (.loc 76)),ol 78 (.load 1 false (.loc 77)),ol 79 (.bin .other .add (.loc 78) (vI 1)),ol 80 (.nilchk (.loc 75)),ol 81 (.faddr 1 (.loc 80)),ou (.store 1 (.loc 81) (.loc 79))]
@[simp] def r74_7 : List HOp := [oe 2 (.mv (vB true))]
@[simp] def r74_8 : List HOp := [ol 83 (.mv (.env 4)),ol 84 (.bin .other .eql (.loc 83) (vU 10)),ol 85 (.mv (.loc 84)),og 86 (.mv (.env 3)) 85 true,og 87 (.bin .other .eql (.loc 86) (vU 34)) 85 true,ol 88 (.pick (.loc 85) (.loc 87) (vB false)),ol 82 (.mv (.loc 88))]
@[simp] def r74_9 : List HOp := [oe 2 (.mv (vB false))]
@[simp] def r74_10 : List HOp := [ol 90 (.mv (.env 4)),ol 91 (.bin .other .eql (.loc 90) (vU 92)),ol 92 (.mv (.loc 91)),og 93 (.mv (.env 3)) 92 true,og 94 (.bin .other .eql (.loc 93) (vU 34)) 92 true,ol 95 (.pick (.loc 92) (.loc 94) (vB false)),ol 89 (.mv (.loc 95))]
@[simp] def r74_11 : List HOp := [ol 96 (.mv (.env 0)),ol 97 (.nilchk (.loc 96)),ol 98 (.faddr 1 (.loc 97)),ol 99 (.load 1 false (.loc 98)),ol 100 (.bin .other .add (.loc 99) (vI 1)),ol 101 (.nilchk (.loc 96)),ol 102 (.faddr 1 (.loc 101)),ou (.store 1 (.loc 102) (.loc 100))]
@[simp] def r74_12 : List HOp := [ol 103 (.mv (.env 0)),ol 104 (.callf 112 [(.loc 103)]),ol 105 (.un .not (.loc 104))]
@[simp] def r74_13 : List HOp := [oe 2 (.mv (vB false))]
@[simp] def r74_14 : List HOp := [ol 45 (.mv (.env 0)),ol 46 (.nilchk (.loc 45)),ol 47 (.faddr 0 (.loc 46)),ol 48 (.load 1 false (.loc 47)),ol 49 (.mv (.env 0)),ol 50 (.nilchk (.loc 49)),ol 51 (.faddr 1 (.loc 50)),ol 52 (.load 1 false (.loc 51)),ol 53 (.slice 1 (.loc 48) (some (.loc 52)) none none),ol 54 (.callf 113 [(.loc 53)]),ol 44 (.mv (.loc 54)),ol 55 (.extract (.loc 44) 0),ol 56 (.extract (.loc 44) 1),oe 5 (.mv (.loc 55)),oe 6 (.mv (.loc 56))]
@[simp] def r74_15 : List HOp := [ol 57 (.mv (.env 5)),ol 58 (.bin .other .eql (.loc 57) (.val (.tr (.sc (.int .i32 65533))))),ol 59 (.mv (.loc 58)),og 60 (.mv (.env 6)) 59 true,og 61 (.bin .other .lss (.loc 60) (vI 3)) 59 true,ol 62 (.pick (.loc 59) (.loc 61) (vB false))]
@[simp] def r74_16 : List HOp := [oe 2 (.mv (vB false))]
@[simp] def r74_17 : List HOp := [ol 63 (.mv (.env 0)),ol 64 (.nilchk (.loc 63)),ol 65 (.faddr 1 (.loc 64)),ol 66 (.load 1 false (.loc 65)),ol 67 (.mv (.env 6)),ol 68 (.bin .other .add (.loc 66) (.loc 67)),ol 69 (.nilchk (.loc 63)),ol 70 (.faddr 1 (.loc 69)),ou (.store 1 (.loc 70) (.loc 68))]
@[simp] def r74_18 : List HOp := [oe 2 (.mv (vB false))]
@[simp] def k74_4 : HCode := .cond (.loc 33) .skip (.exit 0)
@[simp] def k74_9 : HCode := .seq (.region r74_7 none) .ret
@[simp] def k74_8 : HCode := .seq (.region r74_6 none) k74_9
@[simp] def k74_12 : HCode := .seq (.region r74_9 none) .ret
@[simp] def k74_18 : HCode := .seq (.region r74_13 none) .ret
@[simp] def k74_17 : HCode := .cond (.loc 105) k74_18 .skip
@[simp] def k74_16 : HCode := .seq (.region r74_12 none) k74_17
@[simp] def k74_15 : HCode := .seq (.region r74_11 none) k74_16
@[simp] def k74_22 : HCode := .seq (.region r74_16 none) .ret
@[simp] def k74_21 : HCode := .cond (.loc 62) k74_22 .skip
def k74_23 : HCode := .region r74_17 none
@[simp] def k74_20 : HCode := .seq (.seq (.region r74_15 none) k74_21) k74_23
@[simp] def k74_19 : HCode := .seq (.region r74_14 (some [ ( 0, [ 0 ] ) , ( 0, [ 45 ] ) , ( 0, [ 46 ] ) , ( 1, [ 47 ] ) , ( 0, [ 0 ] ) , ( 0, [ 49 ] ) , ( 0, [ 50 ] ) , ( 1, [ 51 ] ) , ( 2, [ 48, 52 ] ) , ( 2, [ 53 ] ) , ( 0, [ 54 ] ) , ( 0, [ 44 ] ) , ( 0, [ 44 ] ) , ( 0, [ 55 ] ) , ( 0, [ 56 ] ) ])) k74_20
@[simp] def k74_14 : HCode := .cond (.loc 89) k74_15 k74_19
@[simp] def k74_13 : HCode := .seq (.region r74_10 none) k74_14
@[simp] def k74_11 : HCode := .cond (.loc 82) k74_12 k74_13
@[simp] def k74_10 : HCode := .seq (.region r74_8 none) k74_11
@[simp] def k74_7 : HCode := .cond (.loc 71) k74_8 k74_10
@[simp] def k74_6 : HCode := .block 2 (.seq (.region r74_5 none) k74_7)
def k74_5 : HCode := .block 1 (.seq (.region r74_4 (some [ ( 0, [ 0 ] ) , ( 0, [ 34 ] ) , ( 0, [ 35 ] ) , ( 1, [ 36 ] ) , ( 0, [ 0 ] ) , ( 0, [ 38 ] ) , ( 0, [ 39 ] ) , ( 1, [ 40 ] ) , ( 2, [ 37, 41 ] ) , ( 2, [ 42 ] ) , ( 0, [ 43 ] ) ])) k74_6)
def k74_3 : HCode := .seq (.seq (.region r74_3 (some [ ( 0, [ 0 ] ) , ( 0, [ 24 ] ) , ( 0, [ 25 ] ) , ( 1, [ 26 ] ) , ( 0, [ 0 ] ) , ( 0, [ 28 ] ) , ( 0, [ 29 ] ) , ( 1, [ 30 ] ) , ( 0, [ 31 ] ) , ( 0, [ 27, 32 ] ) ])) k74_4) k74_5
def k74_24 : HCode := .seq (.region r74_18 none) .ret
@[simp] def k74_2 : HCode := .seq (.block 0 (.loop k74_3)) k74_24
@[simp] def k74_1 : HCode := .seq (.region r74_2 none) k74_2
@[simp] def k74_0 : HCode := .seq (.region r74_1 (some [ ( 0, [ 0 ] ) , ( 0, [ 7 ] ) , ( 0, [ 8 ] ) , ( 1, [ 9 ] ) , ( 0, [ 0 ] ) , ( 0, [ 11 ] ) , ( 0, [ 12 ] ) , ( 1, [ 13 ] ) , ( 2, [ 10, 14 ] ) , ( 2, [ 15 ] ) , ( 0, [ 16 ] ) ])) k74_1
@[simp] def fn74 : HFn := { nargs := 1, results := [.tmp 2], mode := .shared, code := (.seq (.region r74_0 none) k74_0) }
theorem c74 : cFn Tryz.prog (Hs 74) .shared 74 = some fn74 := by kernel_rfl
@[simp] def r112_0 : List HOp := [oe 2 (.mv (vB false))]
@[simp] def r112_1 : List HOp := [oe 3 (.mv (vI 0))]
@[simp] def r112_2 : List HOp := [ol 5 (.mv (.env 0)),oe 6 (.callf 72 [(.loc 5), (vI 0)])]
@[simp] def r112_3 : List HOp := [ol 8 (.bin .other .eql (.env 6) (vU 92)),oe 7 (.mv (.loc 8))]
@[simp] def r112_4 : List HOp := [ol 9 (.bin .other .eql (.env 6) (vU 34)),oe 7 (.mv (.loc 9))]
@[simp] def r112_5 : List HOp := [ol 10 (.bin .other .eql (.env 6) (vU 110)),oe 7 (.mv (.loc 10))]
@[simp] def r112_6 : List HOp := [ol 11 (.bin .other .eql (.env 6) (vU 116)),oe 7 (.mv (.loc 11))]
@[simp] def r112_7 : List HOp := [ol 13 (.bin .other .eql (.env 6) (vU 120)),ol 12 (.mv (.loc 13))]
@[simp] def r112_8 : List HOp := [oe 3 (.mv (vI 2))]
@[simp] def r112_9 : List HOp := [ol 15 (.bin .other .eql (.env 6) (vU 117)),ol 14 (.mv (.loc 15))]
@[simp] def r112_10 : List HOp := [oe 3 (.mv (vI 4))]
@[simp] def r112_11 : List HOp := [oe 2 (.mv (vB false))]
@[simp] def r112_12 : List HOp := [ol 16 (.mv (.env 0)),ol 17 (.nilchk (.loc 16)),ol 18 (.faddr 1 (.loc 17)),ol 19 (.load 1 false (.loc 18)),ol 20 (.bin .other .add (.loc 19) (vI 1)),ol 21 (.nilchk (.loc 16)),ol 22 (.faddr 1 (.loc 21)),ou (.store 1 (.loc 22) (.loc 20))]
@[simp] def r112_13 : List HOp := [oe 23 (.mv (.env 3)),oe 24 (.mv (vI 0))]
@[simp] def r112_14 : List HOp := [ol 25 (.bin .other .lss (.env 24) (.env 23))]
@[simp] def r112_15 : List HOp := [ol 26 (.mv (.env 24)),oe 4 (.mv (.loc 26))]
@[simp] def r112_16 : List HOp := [ol 27 (.mv (.env 0)),ol 28 (.mv (.env 4)),ol 29 (.callf 72 [(.loc 27), (.loc 28)]),ol 30 (.callf 139 [(.loc 29)]),ol 31 (.un .not (.loc 30))]
@[simp] def r112_17 : List HOp := [oe 2 (.mv (vB false))]
@[simp] def r112_18 : List HOp := [ol 32 (.bin .other .add (.env 24) (vI 1)),oe 24 (.mv (.loc 32))]
@[simp] def r112_19 : List HOp := [ol 33 (.mv (.env 3)),ol 34 (.bin .other .eql (.loc 33) (vI 4)),ol 35 (.mv (.loc 34)),og 36 (.mv (.env 0)) 35 true,og 37 (.callf 72 [(.loc 36), (vI 0)]) 35 true,og 38 (.bin .other .or (.loc 37) (vU 32)) 35 true,og 39 (.bin .other .eql (.loc 38) (vU 100)) 35 true,ol 40 (.pick (.loc 35) (.loc 39) (vB false)),ol 41 (.mv (.loc 40)),og 42 (.mv (.env 0)) 41 true,og 43 (.callf 72 [(.loc 42), (vI 1)]) 41 true,og 44 (.bin .other .geq (.loc 43) (vU 56)) 41 true,ol 45 (.pick (.loc 41) (.loc 44) (vB false))]
@[simp] def r112_20 : List HOp := [oe 2 (.mv (vB false))]
@[simp] def r112_21 : List HOp := [ol 46 (.mv (.env 0)),ol 47 (.nilchk (.loc 46)),ol 48 (.faddr 1 (.loc 47)),ol 49 (.load 1 false (.loc 48)),ol 50 (.mv (.env 3)),ol 51 (.bin .other .add (.loc 49) (.loc 50)),ol 52 (.nilchk (.loc 46)),ol 53 (.faddr 1 (.loc 52)),ou (.store 1 (.loc 53) (.loc 51))]
@[simp] def r112_22 : List HOp := [oe 2 (.mv (vB true))]
@[simp] def k112_7 : HCode := .cond (.env 7) .skip (.region r112_6 none)
@[simp] def k112_6 : HCode := .seq (.region r112_5 none) k112_7
@[simp] def k112_5 : HCode := .cond (.env 7) .skip k112_6
@[simp] def k112_4 : HCode := .seq (.region r112_4 none) k112_5
@[simp] def k112_3 : HCode := .cond (.env 7) .skip k112_4
@[simp] def k112_13 : HCode := .seq (.region r112_11 none) .ret
@[simp] def k112_12 : HCode := .cond (.loc 14) (.region r112_10 none) k112_13
@[simp] def k112_11 : HCode := .seq (.region r112_9 none) k112_12
@[simp] def k112_10 : HCode := .cond (.loc 12) (.region r112_8 none) k112_11
@[simp] def k112_9 : HCode := .seq (.region r112_7 none) k112_10
def k112_8 : HCode := .cond (.env 7) .skip k112_9
@[simp] def k112_2 : HCode := .block 0 (.seq (.seq (.region r112_3 none) k112_3) k112_8)
@[simp] def k112_22 : HCode := .seq (.region r112_17 none) .ret
@[simp] def k112_21 : HCode := .cond (.loc 31) k112_22 .skip
@[simp] def k112_20 : HCode := .seq (.region r112_16 none) k112_21
def k112_23 : HCode := .region r112_18 none
def k112_19 : HCode := .seq (.block 2 (.seq (.region r112_15 none) k112_20)) k112_23
@[simp] def k112_18 : HCode := .seq (.cond (.loc 25) .skip (.exit 1)) k112_19
def k112_17 : HCode := .seq (.region r112_14 none) k112_18
@[simp] def k112_16 : HCode := .block 1 (.loop k112_17)
@[simp] def k112_26 : HCode := .seq (.region r112_20 none) .ret
@[simp] def k112_25 : HCode := .cond (.loc 45) k112_26 .skip
@[simp] def k112_28 : HCode := .seq (.region r112_22 none) .ret
def k112_27 : HCode := .seq (.region r112_21 none) k112_28
def k112_24 : HCode := .seq (.seq (.region r112_19 none) k112_25) k112_27
@[simp] def k112_15 : HCode := .seq (.seq (.region r112_13 none) k112_16) k112_24
def k112_14 : HCode := .seq (.region r112_12 none) k112_15
@[simp] def k112_1 : HCode := .seq (.seq (.region r112_2 none) k112_2) k112_14
@[simp] def k112_0 : HCode := .seq (.region r112_1 none) k112_1
@[simp] def fn112 : HFn := { nargs := 1, results := [.tmp 2], mode := .shared, code := (.seq (.region r112_0 none) k112_0) }
theorem c112 : cFn Tryz.prog (Hs 112) .shared 112 = some fn112 := by kernel_rfl
@[simp] def r75_0 : List HOp := [oe 2 (.mv (vB false))]
@[simp] def r75_1 : List HOp := [oe 6 (.callf 114 [(vS [38, 94, 61, 32, 38, 38, 32, 38, 94, 32, 38, 61, 32, 124, 124, 32, 124, 61, 32, 61, 61, 32, 33, 61, 32, 60, 61, 32, 62, 61, 32, 43, 61, 32, 45, 61, 32, 42, 61, 32, 47, 61, 32, 37, 61, 32, 94, 61, 32, 58, 61, 32, 43, 43, 32, 45, 45, 32, 43, 32, 45, 32, 42, 32, 47, 32, 37, 32, 38, 32, 124, 32, 94, 32, 60, 32, 62, 32, 33, 32, 40, 32, 41, 32, 91, 32, 93, 32, 123, 32, 125, 32, 44, 32, 46, 32, 61, 32, 126, 32, 58])]),oe 7 (.len 1 (.env 6)),oe 8 (.mv (vI 0))]
@[simp] def r75_2 : List HOp := [ol 9 (.bin .other .lss (.env 8) (.env 7))]
@[simp] def r75_3 : List HOp := [ol 10 (.iaddr 1 (.env 6) (.env 8)),ol 11 (.load 1 false (.loc 10)),oe 4 (.mv (.loc 11))]
@[simp] def r75_4 : List HOp := [ol 12 (.mv (.env 0)),ol 13 (.mv (.env 4)),ol 14 (.callf 67 [(.loc 12), (.loc 13)])]
@[simp] def r75_5 : List HOp := [ol 15 (.mv (.env 0)),ol 16 (.nilchk (.loc 15)),ol 17 (.faddr 1 (.loc 16)),ol 18 (.load 1 false (.loc 17)),oe 5 (.mv (.loc 18))]
@[simp] def r75_6 : List HOp := [ol 19 (.mv (.env 0)),ol 20 (.nilchk (.loc 19)),ol 21 (.faddr 1 (.loc 20)),ol 22 (.load 1 false (.loc 21)),ol 23 (.mv (.env 4)),ol 24 (.len 0 (.loc 23)),ol 25 (.bin .other .add (.loc 22) (.loc 24)),ol 26 (.nilchk (.loc 19)),ol 27 (.faddr 1 (.loc 26)),ou (.store 1 (.loc 27) (.loc 25))]
@[simp] def r75_7 : List HOp := [ol 28 (.mv (.env 0)),ol 29 (.mv (.env 5)),ol 30 (.callf 42 [(.loc 28), (vI 5), (.loc 29)])]
@[simp] def r75_8 : List HOp := [ol 31 (.mv (.env 0)),ol 32 (.mv (.env 4)),ol 33 (.bin .other .add (vS [32]) (.loc 32)),ol 34 (.bin .other .add (.loc 33) (vS [32])),ol 35 (.callf 115 [(vS [32, 43, 43, 32, 45, 45, 32, 41, 32, 93, 32, 125, 32]), (.loc 34)]),ol 36 (.nilchk (.loc 31)),ol 37 (.faddr 2 (.loc 36)),ou (.store 1 (.loc 37) (.loc 35))]
@[simp] def r75_9 : List HOp := [oe 2 (.mv (vB true))]
@[simp] def r75_10 : List HOp := [ol 38 (.bin .other .add (.env 8) (vI 1)),oe 8 (.mv (.loc 38))]
@[simp] def r75_11 : List HOp := [oe 2 (.mv (vB false))]
@[simp] def k75_11 : HCode := .seq (.region r75_9 none) .ret
@[simp] def k75_10 : HCode := .seq (.region r75_8 none) k75_11
@[simp] def k75_9 : HCode := .seq (.region r75_7 none) k75_10
@[simp] def k75_8 : HCode := .seq (.region r75_6 none) k75_9
@[simp] def k75_7 : HCode := .seq (.region r75_5 none) k75_8
@[simp] def k75_6 : HCode := .cond (.loc 14) k75_7 .skip
@[simp] def k75_5 : HCode := .seq (.region r75_4 none) k75_6
def k75_12 : HCode := .region r75_10 none
def k75_4 : HCode := .seq (.block 1 (.seq (.region r75_3 none) k75_5)) k75_12
@[simp] def k75_3 : HCode := .seq (.cond (.loc 9) .skip (.exit 0)) k75_4
def k75_2 : HCode := .seq (.region r75_2 none) k75_3
@[simp] def k75_1 : HCode := .block 0 (.loop k75_2)
def k75_13 : HCode := .seq (.region r75_11 none) .ret
@[simp] def k75_0 : HCode := .seq (.seq (.region r75_1 none) k75_1) k75_13
@[simp] def fn75 : HFn := { nargs := 1, results := [.tmp 2], mode := .shared, code := (.seq (.region r75_0 none) k75_0) }
theorem c75 : cFn Tryz.prog (Hs 75) .shared 75 = some fn75 := by kernel_rfl
@[simp] def r12_0 : List HOp := [oe 2 (.mv (.val (.tr (.sc (.slice none 0 0))))),oe 3 (.mv (vB false))]
@[simp] def r12_1 : List HOp := [ol 8 (.mv (.env 0)),ol 9 (.callf 23 [(.loc 8)]),ol 7 (.mv (.loc 9)),ol 10 (.extract (.loc 7) 0),ol 11 (.extract (.loc 7) 1),ol 12 (.extract (.loc 7) 2),oe 4 (.mv (.loc 10)),ol 5 (.mv (.loc 11)),oe 6 (.mv (.loc 12))]
@[simp] def r12_2 : List HOp := [ol 13 (.mv (.env 4)),ol 14 (.mv (.env 6)),oe 2 (.mv (.loc 13)),oe 3 (.mv (.loc 14))]
@[simp] def k12_1 : HCode := .seq (.region r12_2 none) .ret
@[simp] def k12_0 : HCode := .seq (.region r12_1 none) k12_1
@[simp] def fn12 : HFn := { nargs := 1, results := [.tmp 2, .tmp 3], mode := .shared, code := (.seq (.region r12_0 none) k12_0) }
theorem c12 : cFn Tryz.prog (Hs 12) .shared 12 = some fn12 := by kernel_rfl
@[simp] def r23_0 : List HOp := [oe 2 (.mv (.val (.tr (.sc (.slice none 0 0))))),oe 3 (.mv (vI 0)),oe 4 (.mv (vB false))]
@[simp] def r23_1 : List HOp := [oe 5 (.mv (.val (.tr (.sc (.slice none 0 0)))))]
@[simp] def r23_2 : List HOp := [oe 6 (.mv (vI 0))]
@[simp] def r23_3 : List HOp := [ol 11 (.mv (.env 6)),ol 12 (.mv (.env 0)),ol 13 (.len 1 (.loc 12)),ol 14 (.bin .other .lss (.loc 11) (.loc 13))]
@[simp] def r23_4 : List HOp := [ol 15 (.mv (.env 0)),ol 16 (.mv (.env 6)),ol 17 (.iaddr 1 (.loc 15) (.loc 16)),ol 18 (.load 1 false (.loc 17)),oe 7 (.mv (.loc 18))]
@[simp] def r23_5 : List HOp := [ol 19 (.mv (.env 7)),ol 20 (.bin .other .eql (.loc 19) (vU 10)),oe 8 (.mv (.loc 20))]
@[simp] def r23_6 : List HOp := [oe 9 (.mv (vI 1))]
@[simp] def r23_7 : List HOp := [oe 10 (.mv (vI 0))]
@[simp] def r23_8 : List HOp := [ol 25 (.mv (.env 7)),ol 26 (.bin .other .eql (.loc 25) (vU 32)),ol 27 (.mv (.loc 26)),og 28 (.mv (.env 7)) 27 false,og 29 (.bin .other .eql (.loc 28) (vU 9)) 27 false,ol 30 (.pick (.loc 27) (vB true) (.loc 29)),ol 31 (.mv (.loc 30)),og 32 (.mv (.env 7)) 31 false,og 33 (.bin .other .eql (.loc 32) (vU 13)) 31 false,ol 34 (.pick (.loc 31) (vB true) (.loc 33)),ol 35 (.mv (.loc 34)),og 36 (.mv (.env 8)) 35 false,ol 37 (.pick (.loc 35) (vB true) (.loc 36)),ol 24 (.mv (.loc 37))]
@[simp] def r23_9 : List HOp := [ol 39 (.mv (.env 7)),ol 40 (.bin .other .eql (.loc 39) (vU 47)),ol 41 (.mv (.loc 40)),og 42 (.mv (.env 0)) 41 true,og 43 (.mv (.env 6)) 41 true,og 44 (.bin .other .add (.loc 43) (vI 1)) 41 true,og 45 (.callf 43 [(.loc 42), (.loc 44)]) 41 true,og 46 (.bin .other .eql (.loc 45) (vU 47)) 41 true,og 47 (.mv (.loc 46)) 41 true,og 48 (.mv (.env 0)) 47 false,og 49 (.mv (.env 6)) 47 false,og 50 (.bin .other .add (.loc 49) (vI 1)) 47 false,og 51 (.callf 43 [(.loc 48), (.loc 50)]) 47 false,og 52 (.bin .other .eql (.loc 51) (vU 42)) 47 false,og 53 (.pick (.loc 47) (vB true) (.loc 52)) 41 true,ol 54 (.pick (.loc 41) (.loc 53) (vB false)),ol 38 (.mv (.loc 54))]
@[simp] def r23_10 : List HOp := [ol 56 (.mv (.env 0)),ol 57 (.mv (.env 6)),ol 58 (.callf 44 [(.loc 56), (.loc 57)]),ol 55 (.mv (.loc 58)),ol 59 (.extract (.loc 55) 0),ol 60 (.extract (.loc 55) 1),oe 9 (.mv (.loc 59)),oe 8 (.mv (.loc 60))]
@[simp] def r23_11 : List HOp := [ol 62 (.mv (.env 7)),ol 63 (.callf 45 [(.loc 62)]),ol 61 (.mv (.loc 63))]
@[simp] def r23_12 : List HOp := [ol 64 (.mv (.env 0)),ol 65 (.mv (.env 6)),ol 66 (.mv (.env 9)),ol 67 (.bin .other .add (.loc 65) (.loc 66)),ol 68 (.callf 43 [(.loc 64), (.loc 67)]),ol 69 (.callf 45 [(.loc 68)]),ol 70 (.mv (.loc 69)),og 71 (.mv (.env 0)) 70 false,og 72 (.mv (.env 6)) 70 false,og 73 (.mv (.env 9)) 70 false,og 74 (.bin .other .add (.loc 72) (.loc 73)) 70 false,og 75 (.callf 43 [(.loc 71), (.loc 74)]) 70 false,og 76 (.callf 46 [(.loc 75)]) 70 false,ol 77 (.pick (.loc 70) (vB true) (.loc 76))]
@[simp] def r23_13 : List HOp := [ol 78 (.mv (.env 9)),ol 79 (.bin .other .add (.loc 78) (vI 1)),oe 9 (.mv (.loc 79))]
@[simp] def r23_14 : List HOp := [oe 10 (.mv (vI 1))]
@[simp] def r23_15 : List HOp := [ol 80 (.mv (.env 0)),ol 81 (.mv (.env 6)),ol 82 (.mv (.env 6)),ol 83 (.mv (.env 9)),ol 84 (.bin .other .add (.loc 82) (.loc 83)),ol 85 (.slice 1 (.loc 80) (some (.loc 81)) (some (.loc 84)) none),ol 86 (.conv .bytesStr (.loc 85)),ol 87 (.callf 47 [(.loc 86)])]
@[simp] def r23_16 : List HOp := [oe 10 (.mv (vI 6))]
@[simp] def r23_17 : List HOp := [ol 89 (.mv (.env 7)),ol 90 (.callf 46 [(.loc 89)]),ol 91 (.mv (.loc 90)),og 92 (.mv (.env 7)) 91 false,og 93 (.bin .other .eql (.loc 92) (vU 46)) 91 false,og 94 (.mv (.loc 93)) 91 false,og 95 (.mv (.env 0)) 94 true,og 96 (.mv (.env 6)) 94 true,og 97 (.bin .other .add (.loc 96) (vI 1)) 94 true,og 98 (.callf 43 [(.loc 95), (.loc 97)]) 94 true,og 99 (.callf 46 [(.loc 98)]) 94 true,og 100 (.pick (.loc 94) (.loc 99) (vB false)) 91 false,ol 101 (.pick (.loc 91) (vB true) (.loc 100)),ol 88 (.mv (.loc 101))]
@[simp] def r23_18 : List HOp := [ol 103 (.mv (.env 0)),ol 104 (.mv (.env 6)),ol 105 (.callf 48 [(.loc 103), (.loc 104)]),ol 102 (.mv (.loc 105)),ol 106 (.extract (.loc 102) 0),ol 107 (.extract (.loc 102) 1),oe 10 (.mv (.loc 106)),oe 9 (.mv (.loc 107))]
@[simp] def r23_19 : List HOp := [ol 109 (.mv (.env 7)),ol 110 (.bin .other .eql (.loc 109) (vU 34)),ol 111 (.mv (.loc 110)),og 112 (.mv (.env 7)) 111 false,og 113 (.bin .other .eql (.loc 112) (vU 96)) 111 false,ol 114 (.pick (.loc 111) (vB true) (.loc 113)),ol 108 (.mv (.loc 114))]
@[simp] def r23_20 : List HOp := [ol 116 (.mv (.env 0)),ol 117 (.mv (.env 6)),ol 118 (.callf 49 [(.loc 116), (.loc 117)]),ol 115 (.mv (.loc 118)),ol 119 (.extract (.loc 115) 0),ol 120 (.extract (.loc 115) 1),oe 9 (.mv (.loc 119))]
@[simp] def r23_21 : List HOp := [oe 10 (.mv (vI 4))]
@[simp] def r23_22 : List HOp := [ol 122 (.mv (.env 7)),ol 123 (.bin .other .eql (.loc 122) (vU 59)),ol 121 (.mv (.loc 123))]
@[simp] def r23_23 : List HOp := [oe 10 (.mv (vI 7))]
@[simp] def r23_24 : List HOp := [ol 21 (.mv (.env 0)),ol 22 (.mv (.env 6)),ol 23 (.callf 50 [(.loc 21), (.loc 22)]),oe 9 (.mv (.loc 23))]
@[simp] def r23_25 : List HOp := [oe 10 (.mv (vI 5))]
@[simp] def r23_26 : List HOp := [ol 124 (.mv (.env 9)),ol 125 (.bin .other .eql (.loc 124) (vI 0))]
@[simp] def r23_27 : List HOp := [ol 126 (.mv (.env 6)),oe 2 (.mv (.val (.tr (.sc (.slice none 0 0))))),oe 3 (.mv (.loc 126)),oe 4 (.mv (vB false))]
@[simp] def r23_28 : List HOp := [ol 127 (.mv (.env 8)),ol 128 (.mv (.loc 127)),og 129 (.mv (.env 5)) 128 true,og 130 (.callf 51 [(.loc 129)]) 128 true,ol 131 (.pick (.loc 128) (.loc 130) (vB false))]
@[simp] def r23_29 : List HOp := [ol 132 (.mv (.env 5)),ol 133 (.mv (.env 6)),ol 134 (.build [(.sc (.int .i64 0)), (.sc (.string ⟨⟨[]⟩⟩)), (.sc (.int .i64 0))] [(0, 1, (vI 7)), (1, 1, (vS [10])), (2, 1, (.loc 133))]),ol 135 (.bslice false 1 3 [(.sc (.int .i64 0)), (.sc (.string ⟨⟨[]⟩⟩)), (.sc (.int .i64 0))] [(0, 3, (.loc 134))]),ol 136 (.append 3 32 (.loc 132) (.loc 135)),oe 5 (.mv (.loc 136))]
@[simp] def r23_30 : List HOp := [ol 137 (.mv (.env 10)),ol 138 (.bin .other .neq (.loc 137) (vI 0))]
@[simp] def r23_31 : List HOp := [ol 139 (.mv (.env 5)),ol 140 (.mv (.env 10)),ol 141 (.mv (.env 0)),ol 142 (.mv (.env 6)),ol 143 (.mv (.env 6)),ol 144 (.mv (.env 9)),ol 145 (.bin .other .add (.loc 143) (.loc 144)),ol 146 (.slice 1 (.loc 141) (some (.loc 142)) (some (.loc 145)) none),ol 147 (.conv .bytesStr (.loc 146)),ol 148 (.mv (.env 6)),ol 149 (.build [(.sc (.int .i64 0)), (.sc (.string ⟨⟨[]⟩⟩)), (.sc (.int .i64 0))] [(0, 1, (.loc 140)), (1, 1, (.loc 147)), (2, 1, (.loc 148))]),ol 150 (.bslice false 1 3 [(.sc (.int .i64 0)), (.sc (.string ⟨⟨[]⟩⟩)), (.sc (.int .i64 0))] [(0, 3, (.loc 149))]),ol 151 (.append 3 32 (.loc 139) (.loc 150)),oe 5 (.mv (.loc 151))]
@[simp] def r23_32 : List HOp := [ol 152 (.mv (.env 6)),ol 153 (.mv (.env 9)),ol 154 (.bin .other .add (.loc 152) (.loc 153)),oe 6 (.mv (.loc 154))]
@[simp] def r23_33 : List HOp := [ol 155 (.mv (.env 5)),ol 156 (.callf 51 [(.loc 155)])]
@[simp] def r23_34 : List HOp := [ol 157 (.mv (.env 5)),ol 158 (.mv (.env 0)),ol 159 (.len 1 (.loc 158)),ol 160 (.build [(.sc (.int .i64 0)), (.sc (.string ⟨⟨[]⟩⟩)), (.sc (.int .i64 0))] [(0, 1, (vI 7)), (1, 1, (vS [10])), (2, 1, (.loc 159))]),ol 161 (.bslice false 1 3 [(.sc (.int .i64 0)), (.sc (.string ⟨⟨[]⟩⟩)), (.sc (.int .i64 0))] [(0, 3, (.loc 160))]),ol 162 (.append 3 32 (.loc 157) (.loc 161)),oe 5 (.mv (.loc 162))]
@[simp] def r23_35 : List HOp := [ol 163 (.mv (.env 5)),ol 164 (.mv (.env 0)),ol 165 (.len 1 (.loc 164)),ol 166 (.build [(.sc (.int .i64 0)), (.sc (.string ⟨⟨[]⟩⟩)), (.sc (.int .i64 0))] [(0, 1, (vI 0)), (2, 1, (.loc 165))]),ol 167 (.bslice false 1 3 [(.sc (.int .i64 0)), (.sc (.string ⟨⟨[]⟩⟩)), (.sc (.int .i64 0))] [(0, 3, (.loc 166))]),ol 168 (.append 3 32 (.loc 163) (.loc 167)),oe 2 (.mv (.loc 168)),oe 3 (.mv (vI 0)),oe 4 (.mv (vB true))]
@[simp] def k23_4 : HCode := .cond (.loc 14) .skip (.exit 0)
@[simp] def k23_17 : HCode := .cond (.loc 77) .skip (.exit 3)
def k23_18 : HCode := .block 4 (.region r23_13 none)
def k23_16 : HCode := .seq (.seq (.region r23_12 none) k23_17) k23_18
@[simp] def k23_21 : HCode := .cond (.loc 87) (.region r23_16 none) .skip
@[simp] def k23_20 : HCode := .seq (.region r23_15 none) k23_21
def k23_19 : HCode := .seq (.region r23_14 none) k23_20
@[simp] def k23_15 : HCode := .seq (.block 3 (.loop k23_16)) k23_19
@[simp] def k23_26 : HCode := .seq (.region r23_20 none) (.region r23_21 none)
@[simp] def k23_29 : HCode := .seq (.region r23_24 none) (.region r23_25 none)
@[simp] def k23_28 : HCode := .cond (.loc 121) (.region r23_23 none) k23_29
@[simp] def k23_27 : HCode := .seq (.region r23_22 none) k23_28
@[simp] def k23_25 : HCode := .cond (.loc 108) k23_26 k23_27
@[simp] def k23_24 : HCode := .seq (.region r23_19 none) k23_25
@[simp] def k23_23 : HCode := .cond (.loc 88) (.region r23_18 none) k23_24
@[simp] def k23_22 : HCode := .seq (.region r23_17 none) k23_23
@[simp] def k23_14 : HCode := .cond (.loc 61) k23_15 k23_22
@[simp] def k23_13 : HCode := .seq (.region r23_11 none) k23_14
@[simp] def k23_12 : HCode := .cond (.loc 38) (.region r23_10 none) k23_13
@[simp] def k23_11 : HCode := .seq (.region r23_9 none) k23_12
@[simp] def k23_10 : HCode := .cond (.loc 24) .skip k23_11
@[simp] def k23_32 : HCode := .seq (.region r23_27 none) .ret
@[simp] def k23_31 : HCode := .cond (.loc 125) k23_32 .skip
@[simp] def k23_34 : HCode := .cond (.loc 131) (.region r23_29 none) .skip
@[simp] def k23_36 : HCode := .cond (.loc 138) (.region r23_31 none) .skip
def k23_37 : HCode := .region r23_32 none
def k23_35 : HCode := .seq (.seq (.region r23_30 none) k23_36) k23_37
def k23_33 : HCode := .seq (.seq (.region r23_28 none) k23_34) k23_35
def k23_30 : HCode := .seq (.seq (.region r23_26 none) k23_31) k23_33
@[simp] def k23_9 : HCode := .seq (.block 2 (.seq (.region r23_8 none) k23_10)) k23_30
@[simp] def k23_8 : HCode := .seq (.region r23_7 none) k23_9
@[simp] def k23_7 : HCode := .seq (.region r23_6 none) k23_8
@[simp] def k23_6 : HCode := .seq (.region r23_5 none) k23_7
def k23_5 : HCode := .block 1 (.seq (.region r23_4 none) k23_6)
def k23_3 : HCode := .seq (.seq (.region r23_3 none) k23_4) k23_5
@[simp] def k23_2 : HCode := .block 0 (.loop k23_3)
@[simp] def k23_39 : HCode := .cond (.loc 156) (.region r23_34 none) .skip
def k23_40 : HCode := .seq (.region r23_35 none) .ret
def k23_38 : HCode := .seq (.seq (.region r23_33 none) k23_39) k23_40
@[simp] def k23_1 : HCode := .seq (.seq (.region r23_2 none) k23_2) k23_38
@[simp] def k23_0 : HCode := .seq (.region r23_1 none) k23_1
@[simp] def fn23 : HFn := { nargs := 1, results := [.tmp 2, .tmp 3, .tmp 4], mode := .iso, code := (.seq (.region r23_0 none) k23_0) }
theorem c23 : cFn Tryz.prog (Hs 23) .iso 23 = some fn23 := by kernel_rfl
end Go.Proofs.YtolhjhjlfgfifaaGreatDoor.AM.Rd
