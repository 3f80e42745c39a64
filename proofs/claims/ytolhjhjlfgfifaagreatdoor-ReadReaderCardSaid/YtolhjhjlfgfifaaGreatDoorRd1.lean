/- The functions that the reader reaches, each checked against the translation, part two; the table of them. -/
import Derived.Test.YtolhjhjlfgfifaaGreatDoorRd1a
set_option maxRecDepth 1000000
set_option linter.unusedVariables false
set_option linter.unusedSimpArgs false
namespace Go.Proofs.YtolhjhjlfgfifaaGreatDoor.AM.Rd
open Go.Proofs
@[simp] def r43_0 : List HOp := [oe 4 (.mv (vU 0))]
@[simp] def r43_1 : List HOp := [ol 5 (.mv (.env 1)),ol 6 (.mv (.env 0)),ol 7 (.len 1 (.loc 6)),ol 8 (.bin .other .lss (.loc 5) (.loc 7))]
@[simp] def r43_2 : List HOp := [ol 9 (.mv (.env 0)),ol 10 (.mv (.env 1)),ol 11 (.iaddr 1 (.loc 9) (.loc 10)),ol 12 (.load 1 false (.loc 11)),oe 4 (.mv (.loc 12))]
@[simp] def r43_3 : List HOp := [oe 4 (.mv (vU 0))]
@[simp] def k43_2 : HCode := .seq (.region r43_2 none) .ret
@[simp] def k43_1 : HCode := .cond (.loc 8) k43_2 .skip
def k43_3 : HCode := .seq (.region r43_3 none) .ret
@[simp] def k43_0 : HCode := .seq (.seq (.region r43_1 none) k43_1) k43_3
@[simp] def fn43 : HFn := { nargs := 2, results := [.tmp 4], mode := .iso, code := (.seq (.region r43_0 none) k43_0) }
theorem c43 : cFn Tryz.prog (Hs 43) .iso 43 = some fn43 := by kernel_rfl
@[simp] def r44_0 : List HOp := [oe 4 (.mv (vI 0)),oe 5 (.mv (vB false))]
@[simp] def r44_1 : List HOp := [ol 9 (.mv (.env 0)),ol 10 (.mv (.env 1)),ol 11 (.bin .other .add (.loc 10) (vI 1)),ol 12 (.iaddr 1 (.loc 9) (.loc 11)),ol 13 (.load 1 false (.loc 12)),ol 14 (.bin .other .eql (.loc 13) (vU 47))]
@[simp] def r44_2 : List HOp := [ol 15 (.mv (.env 1)),oe 6 (.mv (.loc 15))]
@[simp] def r44_3 : List HOp := [ol 16 (.mv (.env 6)),ol 17 (.mv (.env 0)),ol 18 (.len 1 (.loc 17)),ol 19 (.bin .other .lss (.loc 16) (.loc 18)),ol 20 (.mv (.loc 19)),og 21 (.mv (.env 0)) 20 true,og 22 (.mv (.env 6)) 20 true,og 23 (.iaddr 1 (.loc 21) (.loc 22)) 20 true,og 24 (.load 1 false (.loc 23)) 20 true,og 25 (.bin .other .neq (.loc 24) (vU 10)) 20 true,ol 26 (.pick (.loc 20) (.loc 25) (vB false))]
@[simp] def r44_4 : List HOp := [ol 27 (.mv (.env 6)),ol 28 (.bin .other .add (.loc 27) (vI 1)),oe 6 (.mv (.loc 28))]
@[simp] def r44_5 : List HOp := [ol 29 (.mv (.env 6)),ol 30 (.mv (.env 1)),ol 31 (.bin .other .sub (.loc 29) (.loc 30)),oe 4 (.mv (.loc 31)),oe 5 (.mv (vB false))]
@[simp] def r44_6 : List HOp := [oe 7 (.mv (vB false))]
@[simp] def r44_7 : List HOp := [ol 32 (.mv (.env 1)),ol 33 (.bin .other .add (.loc 32) (vI 2)),oe 8 (.mv (.loc 33))]
@[simp] def r44_8 : List HOp := [ol 34 (.mv (.env 8)),ol 35 (.bin .other .add (.loc 34) (vI 1)),ol 36 (.mv (.env 0)),ol 37 (.len 1 (.loc 36)),ol 38 (.bin .other .lss (.loc 35) (.loc 37))]
@[simp] def r44_9 : List HOp := [ol 41 (.mv (.env 0)),ol 42 (.mv (.env 8)),ol 43 (.iaddr 1 (.loc 41) (.loc 42)),ol 44 (.load 1 false (.loc 43)),ol 45 (.bin .other .eql (.loc 44) (vU 42)),ol 46 (.mv (.loc 45)),og 47 (.mv (.env 0)) 46 true,og 48 (.mv (.env 8)) 46 true,og 49 (.bin .other .add (.loc 48) (vI 1)) 46 true,og 50 (.iaddr 1 (.loc 47) (.loc 49)) 46 true,og 51 (.load 1 false (.loc 50)) 46 true,og 52 (.bin .other .eql (.loc 51) (vU 47)) 46 true,ol 53 (.pick (.loc 46) (.loc 52) (vB false))]
@[simp] def r44_10 : List HOp := [ol 54 (.mv (.env 8)),ol 55 (.bin .other .add (.loc 54) (vI 2)),ol 56 (.mv (.env 1)),ol 57 (.bin .other .sub (.loc 55) (.loc 56)),ol 58 (.mv (.env 7)),oe 4 (.mv (.loc 57)),oe 5 (.mv (.loc 58))]
@[simp] def r44_11 : List HOp := [ol 59 (.mv (.env 7)),ol 60 (.mv (.loc 59)),og 61 (.mv (.env 0)) 60 false,og 62 (.mv (.env 8)) 60 false,og 63 (.iaddr 1 (.loc 61) (.loc 62)) 60 false,og 64 (.load 1 false (.loc 63)) 60 false,og 65 (.bin .other .eql (.loc 64) (vU 10)) 60 false,ol 66 (.pick (.loc 60) (vB true) (.loc 65)),oe 7 (.mv (.loc 66))]
@[simp] def r44_12 : List HOp := [ol 39 (.mv (.env 8)),ol 40 (.bin .other .add (.loc 39) (vI 1)),oe 8 (.mv (.loc 40))]
@[simp] def r44_13 : List HOp := [oe 4 (.mv (vI 0)),oe 5 (.mv (vB false))]
@[simp] def k44_5 : HCode := .cond (.loc 26) .skip (.exit 0)
def k44_6 : HCode := .block 1 (.region r44_4 none)
def k44_4 : HCode := .seq (.seq (.region r44_3 none) k44_5) k44_6
def k44_7 : HCode := .seq (.region r44_5 none) .ret
@[simp] def k44_3 : HCode := .seq (.block 0 (.loop k44_4)) k44_7
@[simp] def k44_2 : HCode := .seq (.region r44_2 none) k44_3
@[simp] def k44_1 : HCode := .cond (.loc 14) k44_2 .skip
@[simp] def k44_12 : HCode := .cond (.loc 38) .skip (.exit 2)
@[simp] def k44_15 : HCode := .seq (.region r44_10 none) .ret
@[simp] def k44_14 : HCode := .cond (.loc 53) k44_15 .skip
def k44_16 : HCode := .region r44_11 none
def k44_17 : HCode := .region r44_12 none
def k44_13 : HCode := .seq (.block 3 (.seq (.seq (.region r44_9 none) k44_14) k44_16)) k44_17
def k44_11 : HCode := .seq (.seq (.region r44_8 none) k44_12) k44_13
@[simp] def k44_10 : HCode := .block 2 (.loop k44_11)
def k44_18 : HCode := .seq (.region r44_13 none) .ret
@[simp] def k44_9 : HCode := .seq (.seq (.region r44_7 none) k44_10) k44_18
def k44_8 : HCode := .seq (.region r44_6 none) k44_9
@[simp] def k44_0 : HCode := .seq (.seq (.region r44_1 none) k44_1) k44_8
@[simp] def fn44 : HFn := { nargs := 2, results := [.tmp 4, .tmp 5], mode := .iso, code := (.seq (.region r44_0 none) k44_0) }
theorem c44 : cFn Tryz.prog (Hs 44) .iso 44 = some fn44 := by kernel_rfl
@[simp] def r45_0 : List HOp := [oe 2 (.mv (vB false))]
@[simp] def r45_1 : List HOp := [ol 3 (.mv (.env 0)),ol 4 (.bin .other .geq (.loc 3) (vU 97)),ol 5 (.mv (.loc 4)),og 6 (.mv (.env 0)) 5 true,og 7 (.bin .other .leq (.loc 6) (vU 122)) 5 true,ol 8 (.pick (.loc 5) (.loc 7) (vB false)),ol 9 (.mv (.loc 8)),og 10 (.mv (.env 0)) 9 false,og 11 (.bin .other .geq (.loc 10) (vU 65)) 9 false,og 12 (.mv (.loc 11)) 9 false,og 13 (.mv (.env 0)) 12 true,og 14 (.bin .other .leq (.loc 13) (vU 90)) 12 true,og 15 (.pick (.loc 12) (.loc 14) (vB false)) 9 false,ol 16 (.pick (.loc 9) (vB true) (.loc 15)),ol 17 (.mv (.loc 16)),og 18 (.mv (.env 0)) 17 false,og 19 (.bin .other .eql (.loc 18) (vU 95)) 17 false,ol 20 (.pick (.loc 17) (vB true) (.loc 19)),oe 2 (.mv (.loc 20))]
@[simp] def k45_0 : HCode := .seq (.region r45_1 none) .ret
@[simp] def fn45 : HFn := { nargs := 1, results := [.tmp 2], mode := .iso, code := (.seq (.region r45_0 none) k45_0) }
theorem c45 : cFn Tryz.prog (Hs 45) .iso 45 = some fn45 := by kernel_rfl
@[simp] def r46_0 : List HOp := [oe 2 (.mv (vB false))]
@[simp] def r46_1 : List HOp := [ol 3 (.mv (.env 0)),ol 4 (.bin .other .geq (.loc 3) (vU 48)),ol 5 (.mv (.loc 4)),og 6 (.mv (.env 0)) 5 true,og 7 (.bin .other .leq (.loc 6) (vU 57)) 5 true,ol 8 (.pick (.loc 5) (.loc 7) (vB false)),oe 2 (.mv (.loc 8))]
@[simp] def k46_0 : HCode := .seq (.region r46_1 none) .ret
@[simp] def fn46 : HFn := { nargs := 1, results := [.tmp 2], mode := .iso, code := (.seq (.region r46_0 none) k46_0) }
theorem c46 : cFn Tryz.prog (Hs 46) .iso 46 = some fn46 := by kernel_rfl
@[simp] def r47_0 : List HOp := [oe 2 (.mv (vB false))]
@[simp] def r47_1 : List HOp := [ol 5 (.bslice false 25 1 [(.sc (.string ⟨⟨[]⟩⟩))] [(0, 1, (vS [98, 114, 101, 97, 107])), (1, 1, (vS [99, 97, 115, 101])), (2, 1, (vS [99, 104, 97, 110])), (3, 1, (vS [99, 111, 110, 115, 116])), (4, 1, (vS [99, 111, 110, 116, 105, 110, 117, 101])), (5, 1, (vS [100, 101, 102, 97, 117, 108, 116])), (6, 1, (vS [100, 101, 102, 101, 114])), (7, 1, (vS [101, 108, 115, 101])), (8, 1, (vS [102, 97, 108, 108, 116, 104, 114, 111, 117, 103, 104])), (9, 1, (vS [102, 111, 114])), (10, 1, (vS [102, 117, 110, 99])), (11, 1, (vS [103, 111])), (12, 1, (vS [103, 111, 116, 111])), (13, 1, (vS [105, 102])), (14, 1, (vS [105, 109, 112, 111, 114, 116])), (15, 1, (vS [105, 110, 116, 101, 114, 102, 97, 99, 101])), (16, 1, (vS [109, 97, 112])), (17, 1, (vS [112, 97, 99, 107, 97, 103, 101])), (18, 1, (vS [114, 97, 110, 103, 101])), (19, 1, (vS [114, 101, 116, 117, 114, 110])), (20, 1, (vS [115, 101, 108, 101, 99, 116])), (21, 1, (vS [115, 116, 114, 117, 99, 116])), (22, 1, (vS [115, 119, 105, 116, 99, 104])), (23, 1, (vS [116, 121, 112, 101])), (24, 1, (vS [118, 97, 114]))]),oe 3 (.mv (.loc 5))]
@[simp] def r47_2 : List HOp := [oe 4 (.mv (vI 0))]
@[simp] def r47_3 : List HOp := [ol 6 (.mv (.env 4)),ol 7 (.mv (.env 3)),ol 8 (.len 1 (.loc 7)),ol 9 (.bin .other .lss (.loc 6) (.loc 8))]
@[simp] def r47_4 : List HOp := [ol 12 (.mv (.env 3)),ol 13 (.mv (.env 4)),ol 14 (.iaddr 1 (.loc 12) (.loc 13)),ol 15 (.load 1 false (.loc 14)),ol 16 (.mv (.env 0)),ol 17 (.bin .other .eql (.loc 15) (.loc 16))]
@[simp] def r47_5 : List HOp := [oe 2 (.mv (vB true))]
@[simp] def r47_6 : List HOp := [ol 10 (.mv (.env 4)),ol 11 (.bin .other .add (.loc 10) (vI 1)),oe 4 (.mv (.loc 11))]
@[simp] def r47_7 : List HOp := [oe 2 (.mv (vB false))]
@[simp] def k47_4 : HCode := .cond (.loc 9) .skip (.exit 0)
@[simp] def k47_7 : HCode := .seq (.region r47_5 none) .ret
@[simp] def k47_6 : HCode := .cond (.loc 17) k47_7 .skip
def k47_8 : HCode := .region r47_6 none
def k47_5 : HCode := .seq (.block 1 (.seq (.region r47_4 none) k47_6)) k47_8
def k47_3 : HCode := .seq (.seq (.region r47_3 none) k47_4) k47_5
@[simp] def k47_2 : HCode := .block 0 (.loop k47_3)
def k47_9 : HCode := .seq (.region r47_7 none) .ret
@[simp] def k47_1 : HCode := .seq (.seq (.region r47_2 none) k47_2) k47_9
@[simp] def k47_0 : HCode := .seq (.region r47_1 none) k47_1
@[simp] def fn47 : HFn := { nargs := 1, results := [.tmp 2], mode := .iso, code := (.seq (.region r47_0 none) k47_0) }
theorem c47 : cFn Tryz.prog (Hs 47) .iso 47 = some fn47 := by kernel_rfl
@[simp] def r48_0 : List HOp := [oe 4 (.mv (vI 0)),oe 5 (.mv (vI 0))]
@[simp] def r48_1 : List HOp := [ol 16 (.mv (.env 1)),oe 6 (.mv (vI 2)),oe 7 (.mv (.loc 16))]
@[simp] def r48_2 : List HOp := [ol 17 (.mv (.env 0)),ol 18 (.mv (.env 1)),ol 19 (.bin .other .add (.loc 18) (vI 1)),ol 20 (.callf 43 [(.loc 17), (.loc 19)]),oe 8 (.mv (.loc 20))]
@[simp] def r48_3 : List HOp := [ol 62 (.mv (.env 0)),ol 63 (.mv (.env 1)),ol 64 (.iaddr 1 (.loc 62) (.loc 63)),ol 65 (.load 1 false (.loc 64)),ol 66 (.bin .other .eql (.loc 65) (vU 48)),ol 67 (.mv (.loc 66)),og 68 (.mv (.env 8)) 67 true,og 69 (.bin .other .eql (.loc 68) (vU 120)) 67 true,og 70 (.mv (.loc 69)) 67 true,og 71 (.mv (.env 8)) 70 false,og 72 (.bin .other .eql (.loc 71) (vU 88)) 70 false,og 73 (.pick (.loc 70) (vB true) (.loc 72)) 67 true,ol 74 (.pick (.loc 67) (.loc 73) (vB false)),ol 61 (.mv (.loc 74))]
@[simp] def r48_4 : List HOp := [ol 75 (.mv (.env 0)),ol 76 (.mv (.env 1)),ol 77 (.bin .other .add (.loc 76) (vI 2)),ol 78 (.callf 76 [(.loc 75), (.loc 77), (vI 16)]),oe 9 (.mv (.loc 78))]
@[simp] def r48_5 : List HOp := [ol 79 (.mv (.env 1)),ol 80 (.bin .other .add (.loc 79) (vI 2)),ol 81 (.mv (.env 9)),ol 82 (.bin .other .add (.loc 80) (.loc 81)),oe 7 (.mv (.loc 82))]
@[simp] def r48_6 : List HOp := [ol 83 (.mv (.env 0)),ol 84 (.mv (.env 7)),ol 85 (.callf 43 [(.loc 83), (.loc 84)]),ol 86 (.bin .other .eql (.loc 85) (vU 46))]
@[simp] def r48_7 : List HOp := [ol 87 (.mv (.env 0)),ol 88 (.mv (.env 7)),ol 89 (.bin .other .add (.loc 88) (vI 1)),ol 90 (.callf 76 [(.loc 87), (.loc 89), (vI 16)]),oe 10 (.mv (.loc 90))]
@[simp] def r48_8 : List HOp := [ol 91 (.mv (.env 9)),ol 92 (.mv (.env 10)),ol 93 (.bin .other .add (.loc 91) (.loc 92)),oe 9 (.mv (.loc 93))]
@[simp] def r48_9 : List HOp := [ol 94 (.mv (.env 7)),ol 95 (.mv (.env 10)),ol 96 (.bin .other .add (vI 1) (.loc 95)),ol 97 (.bin .other .add (.loc 94) (.loc 96)),oe 7 (.mv (.loc 97))]
@[simp] def r48_10 : List HOp := [oe 6 (.mv (vI 3))]
@[simp] def r48_11 : List HOp := [ol 98 (.mv (.env 0)),ol 99 (.mv (.env 7)),ol 100 (.callf 77 [(.loc 98), (.loc 99), (vU 112), (vU 80)]),oe 11 (.mv (.loc 100))]
@[simp] def r48_12 : List HOp := [ol 101 (.mv (.env 9)),ol 102 (.bin .other .eql (.loc 101) (vI 0)),ol 103 (.mv (.loc 102)),og 104 (.mv (.env 11)) 103 false,og 105 (.bin .other .lss (.loc 104) (vI 0)) 103 false,ol 106 (.pick (.loc 103) (vB true) (.loc 105)),ol 107 (.mv (.loc 106)),og 108 (.mv (.env 11)) 107 false,og 109 (.bin .other .eql (.loc 108) (vI 0)) 107 false,og 110 (.mv (.loc 109)) 107 false,og 111 (.mv (.env 6)) 110 true,og 112 (.bin .other .eql (.loc 111) (vI 3)) 110 true,og 113 (.pick (.loc 110) (.loc 112) (vB false)) 107 false,ol 114 (.pick (.loc 107) (vB true) (.loc 113))]
@[simp] def r48_13 : List HOp := [oe 4 (.mv (vI 0)),oe 5 (.mv (vI 0))]
@[simp] def r48_14 : List HOp := [ol 115 (.mv (.env 11)),ol 116 (.bin .other .gtr (.loc 115) (vI 0))]
@[simp] def r48_15 : List HOp := [oe 6 (.mv (vI 3))]
@[simp] def r48_16 : List HOp := [ol 117 (.mv (.env 7)),ol 118 (.mv (.env 11)),ol 119 (.bin .other .add (.loc 117) (.loc 118)),oe 7 (.mv (.loc 119))]
@[simp] def r48_17 : List HOp := [ol 121 (.mv (.env 0)),ol 122 (.mv (.env 1)),ol 123 (.iaddr 1 (.loc 121) (.loc 122)),ol 124 (.load 1 false (.loc 123)),ol 125 (.bin .other .eql (.loc 124) (vU 48)),ol 126 (.mv (.loc 125)),og 127 (.mv (.env 8)) 126 true,og 128 (.bin .other .eql (.loc 127) (vU 111)) 126 true,og 129 (.mv (.loc 128)) 126 true,og 130 (.mv (.env 8)) 129 false,og 131 (.bin .other .eql (.loc 130) (vU 79)) 129 false,og 132 (.pick (.loc 129) (vB true) (.loc 131)) 126 true,og 133 (.mv (.loc 132)) 126 true,og 134 (.mv (.env 8)) 133 false,og 135 (.bin .other .eql (.loc 134) (vU 98)) 133 false,og 136 (.pick (.loc 133) (vB true) (.loc 135)) 126 true,og 137 (.mv (.loc 136)) 126 true,og 138 (.mv (.env 8)) 137 false,og 139 (.bin .other .eql (.loc 138) (vU 66)) 137 false,og 140 (.pick (.loc 137) (vB true) (.loc 139)) 126 true,ol 141 (.pick (.loc 126) (.loc 140) (vB false)),ol 120 (.mv (.loc 141))]
@[simp] def r48_18 : List HOp := [oe 12 (.mv (vI 8))]
@[simp] def r48_19 : List HOp := [ol 142 (.mv (.env 8)),ol 143 (.bin .other .eql (.loc 142) (vU 98)),ol 144 (.mv (.loc 143)),og 145 (.mv (.env 8)) 144 false,og 146 (.bin .other .eql (.loc 145) (vU 66)) 144 false,ol 147 (.pick (.loc 144) (vB true) (.loc 146))]
@[simp] def r48_20 : List HOp := [oe 12 (.mv (vI 2))]
@[simp] def r48_21 : List HOp := [ol 148 (.mv (.env 0)),ol 149 (.mv (.env 1)),ol 150 (.bin .other .add (.loc 149) (vI 2)),ol 151 (.mv (.env 12)),ol 152 (.callf 76 [(.loc 148), (.loc 150), (.loc 151)]),oe 13 (.mv (.loc 152))]
@[simp] def r48_22 : List HOp := [ol 153 (.mv (.env 13)),ol 154 (.bin .other .eql (.loc 153) (vI 0))]
@[simp] def r48_23 : List HOp := [oe 4 (.mv (vI 0)),oe 5 (.mv (vI 0))]
@[simp] def r48_24 : List HOp := [ol 155 (.mv (.env 1)),ol 156 (.bin .other .add (.loc 155) (vI 2)),ol 157 (.mv (.env 13)),ol 158 (.bin .other .add (.loc 156) (.loc 157)),oe 7 (.mv (.loc 158))]
@[simp] def r48_25 : List HOp := [ol 21 (.mv (.env 0)),ol 22 (.mv (.env 1)),ol 23 (.callf 76 [(.loc 21), (.loc 22), (vI 10)]),oe 14 (.mv (.loc 23))]
@[simp] def r48_26 : List HOp := [ol 24 (.mv (.env 1)),ol 25 (.mv (.env 14)),ol 26 (.bin .other .add (.loc 24) (.loc 25)),oe 7 (.mv (.loc 26))]
@[simp] def r48_27 : List HOp := [ol 27 (.mv (.env 0)),ol 28 (.mv (.env 7)),ol 29 (.callf 43 [(.loc 27), (.loc 28)]),ol 30 (.bin .other .eql (.loc 29) (vU 46))]
@[simp] def r48_28 : List HOp := [oe 6 (.mv (vI 3))]
@[simp] def r48_29 : List HOp := [ol 31 (.mv (.env 7)),ol 32 (.mv (.env 0)),ol 33 (.mv (.env 7)),ol 34 (.bin .other .add (.loc 33) (vI 1)),ol 35 (.callf 76 [(.loc 32), (.loc 34), (vI 10)]),ol 36 (.bin .other .add (vI 1) (.loc 35)),ol 37 (.bin .other .add (.loc 31) (.loc 36)),oe 7 (.mv (.loc 37))]
@[simp] def r48_30 : List HOp := [ol 38 (.mv (.env 0)),ol 39 (.mv (.env 7)),ol 40 (.callf 77 [(.loc 38), (.loc 39), (vU 101), (vU 69)]),oe 15 (.mv (.loc 40))]
@[simp] def r48_31 : List HOp := [ol 41 (.mv (.env 15)),ol 42 (.bin .other .lss (.loc 41) (vI 0))]
@[simp] def r48_32 : List HOp := [oe 4 (.mv (vI 0)),oe 5 (.mv (vI 0))]
@[simp] def r48_33 : List HOp := [ol 43 (.mv (.env 15)),ol 44 (.bin .other .gtr (.loc 43) (vI 0))]
@[simp] def r48_34 : List HOp := [oe 6 (.mv (vI 3))]
@[simp] def r48_35 : List HOp := [ol 45 (.mv (.env 7)),ol 46 (.mv (.env 15)),ol 47 (.bin .other .add (.loc 45) (.loc 46)),oe 7 (.mv (.loc 47))]
@[simp] def r48_36 : List HOp := [ol 48 (.mv (.env 6)),ol 49 (.bin .other .eql (.loc 48) (vI 2)),ol 50 (.mv (.loc 49)),og 51 (.mv (.env 14)) 50 true,og 52 (.bin .other .gtr (.loc 51) (vI 1)) 50 true,ol 53 (.pick (.loc 50) (.loc 52) (vB false)),ol 54 (.mv (.loc 53)),og 55 (.mv (.env 0)) 54 true,og 56 (.mv (.env 1)) 54 true,og 57 (.iaddr 1 (.loc 55) (.loc 56)) 54 true,og 58 (.load 1 false (.loc 57)) 54 true,og 59 (.bin .other .eql (.loc 58) (vU 48)) 54 true,ol 60 (.pick (.loc 54) (.loc 59) (vB false))]
@[simp] def r48_37 : List HOp := [oe 4 (.mv (vI 0)),oe 5 (.mv (vI 0))]
@[simp] def r48_38 : List HOp := [ol 159 (.mv (.env 0)),ol 160 (.mv (.env 7)),ol 161 (.callf 43 [(.loc 159), (.loc 160)]),ol 162 (.callf 45 [(.loc 161)]),ol 163 (.mv (.loc 162)),og 164 (.mv (.env 0)) 163 false,og 165 (.mv (.env 7)) 163 false,og 166 (.callf 43 [(.loc 164), (.loc 165)]) 163 false,og 167 (.callf 46 [(.loc 166)]) 163 false,ol 168 (.pick (.loc 163) (vB true) (.loc 167)),ol 169 (.mv (.loc 168)),og 170 (.mv (.env 0)) 169 false,og 171 (.mv (.env 7)) 169 false,og 172 (.callf 43 [(.loc 170), (.loc 171)]) 169 false,og 173 (.bin .other .eql (.loc 172) (vU 46)) 169 false,ol 174 (.pick (.loc 169) (vB true) (.loc 173))]
@[simp] def r48_39 : List HOp := [oe 4 (.mv (vI 0)),oe 5 (.mv (vI 0))]
@[simp] def r48_40 : List HOp := [ol 175 (.mv (.env 6)),ol 176 (.mv (.env 7)),ol 177 (.mv (.env 1)),ol 178 (.bin .other .sub (.loc 176) (.loc 177)),oe 4 (.mv (.loc 175)),oe 5 (.mv (.loc 178))]
@[simp] def k48_10 : HCode := .seq (.region r48_9 none) (.region r48_10 none)
@[simp] def k48_9 : HCode := .seq (.region r48_8 none) k48_10
@[simp] def k48_8 : HCode := .seq (.region r48_7 none) k48_9
@[simp] def k48_7 : HCode := .cond (.loc 86) k48_8 .skip
@[simp] def k48_14 : HCode := .seq (.region r48_13 none) .ret
@[simp] def k48_13 : HCode := .cond (.loc 114) k48_14 .skip
@[simp] def k48_16 : HCode := .cond (.loc 116) (.region r48_15 none) .skip
def k48_17 : HCode := .region r48_16 none
def k48_15 : HCode := .seq (.seq (.region r48_14 none) k48_16) k48_17
@[simp] def k48_12 : HCode := .seq (.seq (.region r48_12 none) k48_13) k48_15
def k48_11 : HCode := .seq (.region r48_11 none) k48_12
@[simp] def k48_6 : HCode := .seq (.seq (.region r48_6 none) k48_7) k48_11
@[simp] def k48_5 : HCode := .seq (.region r48_5 none) k48_6
@[simp] def k48_4 : HCode := .seq (.region r48_4 none) k48_5
@[simp] def k48_22 : HCode := .cond (.loc 147) (.region r48_20 none) .skip
@[simp] def k48_26 : HCode := .seq (.region r48_23 none) .ret
@[simp] def k48_25 : HCode := .cond (.loc 154) k48_26 .skip
def k48_27 : HCode := .region r48_24 none
@[simp] def k48_24 : HCode := .seq (.seq (.region r48_22 none) k48_25) k48_27
def k48_23 : HCode := .seq (.region r48_21 none) k48_24
@[simp] def k48_21 : HCode := .seq (.seq (.region r48_19 none) k48_22) k48_23
@[simp] def k48_20 : HCode := .seq (.region r48_18 none) k48_21
@[simp] def k48_32 : HCode := .seq (.region r48_28 none) (.region r48_29 none)
@[simp] def k48_31 : HCode := .cond (.loc 30) k48_32 .skip
@[simp] def k48_36 : HCode := .seq (.region r48_32 none) .ret
@[simp] def k48_35 : HCode := .cond (.loc 42) k48_36 .skip
@[simp] def k48_38 : HCode := .cond (.loc 44) (.region r48_34 none) .skip
@[simp] def k48_42 : HCode := .seq (.region r48_37 none) .ret
@[simp] def k48_41 : HCode := .cond (.loc 60) k48_42 .skip
@[simp] def k48_40 : HCode := .seq (.region r48_36 none) k48_41
def k48_39 : HCode := .seq (.region r48_35 none) k48_40
def k48_37 : HCode := .seq (.seq (.region r48_33 none) k48_38) k48_39
@[simp] def k48_34 : HCode := .seq (.seq (.region r48_31 none) k48_35) k48_37
def k48_33 : HCode := .seq (.region r48_30 none) k48_34
@[simp] def k48_30 : HCode := .seq (.seq (.region r48_27 none) k48_31) k48_33
@[simp] def k48_29 : HCode := .seq (.region r48_26 none) k48_30
@[simp] def k48_28 : HCode := .seq (.region r48_25 none) k48_29
@[simp] def k48_19 : HCode := .cond (.loc 120) k48_20 k48_28
@[simp] def k48_18 : HCode := .seq (.region r48_17 none) k48_19
@[simp] def k48_3 : HCode := .cond (.loc 61) k48_4 k48_18
@[simp] def k48_45 : HCode := .seq (.region r48_39 none) .ret
@[simp] def k48_44 : HCode := .cond (.loc 174) k48_45 .skip
def k48_46 : HCode := .seq (.region r48_40 none) .ret
def k48_43 : HCode := .seq (.seq (.region r48_38 none) k48_44) k48_46
@[simp] def k48_2 : HCode := .seq (.block 0 (.seq (.region r48_3 none) k48_3)) k48_43
@[simp] def k48_1 : HCode := .seq (.region r48_2 none) k48_2
@[simp] def k48_0 : HCode := .seq (.region r48_1 none) k48_1
@[simp] def fn48 : HFn := { nargs := 2, results := [.tmp 4, .tmp 5], mode := .iso, code := (.seq (.region r48_0 none) k48_0) }
theorem c48 : cFn Tryz.prog (Hs 48) .iso 48 = some fn48 := by kernel_rfl
@[simp] def r76_0 : List HOp := [oe 6 (.mv (vI 0))]
@[simp] def r76_1 : List HOp := [oe 7 (.mv (vI 0))]
@[simp] def r76_2 : List HOp := [ol 9 (.mv (.env 1)),ol 10 (.mv (.env 7)),ol 11 (.bin .other .add (.loc 9) (.loc 10)),ol 12 (.mv (.env 0)),ol 13 (.len 1 (.loc 12)),ol 14 (.bin .other .lss (.loc 11) (.loc 13))]
@[simp] def r76_3 : List HOp := [ol 15 (.mv (.env 0)),ol 16 (.mv (.env 1)),ol 17 (.mv (.env 7)),ol 18 (.bin .other .add (.loc 16) (.loc 17)),ol 19 (.iaddr 1 (.loc 15) (.loc 18)),ol 20 (.load 1 false (.loc 19)),ol 21 (.callf 78 [(.loc 20)]),oe 8 (.mv (.loc 21))]
@[simp] def r76_4 : List HOp := [ol 22 (.mv (.env 8)),ol 23 (.bin .other .lss (.loc 22) (vI 0)),ol 24 (.mv (.loc 23)),og 25 (.mv (.env 8)) 24 false,og 26 (.mv (.env 2)) 24 false,og 27 (.bin .other .geq (.loc 25) (.loc 26)) 24 false,ol 28 (.pick (.loc 24) (vB true) (.loc 27))]
@[simp] def r76_5 : List HOp := [ol 29 (.mv (.env 7)),ol 30 (.bin .other .add (.loc 29) (vI 1)),oe 7 (.mv (.loc 30))]
@[simp] def r76_6 : List HOp := [ol 31 (.mv (.env 7)),oe 6 (.mv (.loc 31))]
@[simp] def k76_3 : HCode := .cond (.loc 14) .skip (.exit 0)
@[simp] def k76_6 : HCode := .cond (.loc 28) (.exit 0) .skip
def k76_7 : HCode := .region r76_5 none
@[simp] def k76_5 : HCode := .seq (.seq (.region r76_4 none) k76_6) k76_7
def k76_4 : HCode := .block 1 (.seq (.region r76_3 none) k76_5)
def k76_2 : HCode := .seq (.seq (.region r76_2 none) k76_3) k76_4
def k76_8 : HCode := .seq (.region r76_6 none) .ret
@[simp] def k76_1 : HCode := .seq (.block 0 (.loop k76_2)) k76_8
@[simp] def k76_0 : HCode := .seq (.region r76_1 none) k76_1
@[simp] def fn76 : HFn := { nargs := 3, results := [.tmp 6], mode := .iso, code := (.seq (.region r76_0 none) k76_0) }
theorem c76 : cFn Tryz.prog (Hs 76) .iso 76 = some fn76 := by kernel_rfl
@[simp] def r78_0 : List HOp := [oe 2 (.mv (vI 0))]
@[simp] def r78_1 : List HOp := [ol 4 (.mv (.env 0)),ol 5 (.bin .other .geq (.loc 4) (vU 48)),ol 6 (.mv (.loc 5)),og 7 (.mv (.env 0)) 6 true,og 8 (.bin .other .leq (.loc 7) (vU 57)) 6 true,ol 9 (.pick (.loc 6) (.loc 8) (vB false)),ol 3 (.mv (.loc 9))]
@[simp] def r78_2 : List HOp := [ol 10 (.mv (.env 0)),ol 11 (.bin .other .sub (.loc 10) (vU 48)),ol 12 (.conv (.toInt .i64) (.loc 11)),oe 2 (.mv (.loc 12))]
@[simp] def r78_3 : List HOp := [ol 14 (.mv (.env 0)),ol 15 (.bin .other .geq (.loc 14) (vU 97)),ol 16 (.mv (.loc 15)),og 17 (.mv (.env 0)) 16 true,og 18 (.bin .other .leq (.loc 17) (vU 102)) 16 true,ol 19 (.pick (.loc 16) (.loc 18) (vB false)),ol 13 (.mv (.loc 19))]
@[simp] def r78_4 : List HOp := [ol 20 (.mv (.env 0)),ol 21 (.bin .other .sub (.loc 20) (vU 97)),ol 22 (.conv (.toInt .i64) (.loc 21)),ol 23 (.bin .other .add (.loc 22) (vI 10)),oe 2 (.mv (.loc 23))]
@[simp] def r78_5 : List HOp := [ol 25 (.mv (.env 0)),ol 26 (.bin .other .geq (.loc 25) (vU 65)),ol 27 (.mv (.loc 26)),og 28 (.mv (.env 0)) 27 true,og 29 (.bin .other .leq (.loc 28) (vU 70)) 27 true,ol 30 (.pick (.loc 27) (.loc 29) (vB false)),ol 24 (.mv (.loc 30))]
@[simp] def r78_6 : List HOp := [ol 31 (.mv (.env 0)),ol 32 (.bin .other .sub (.loc 31) (vU 65)),ol 33 (.conv (.toInt .i64) (.loc 32)),ol 34 (.bin .other .add (.loc 33) (vI 10)),oe 2 (.mv (.loc 34))]
@[simp] def r78_7 : List HOp := [oe 2 (.mv (vI (-1)))]
@[simp] def k78_2 : HCode := .seq (.region r78_2 none) .ret
@[simp] def k78_5 : HCode := .seq (.region r78_4 none) .ret
@[simp] def k78_8 : HCode := .seq (.region r78_6 none) .ret
@[simp] def k78_7 : HCode := .cond (.loc 24) k78_8 .skip
@[simp] def k78_6 : HCode := .seq (.region r78_5 none) k78_7
@[simp] def k78_4 : HCode := .cond (.loc 13) k78_5 k78_6
@[simp] def k78_3 : HCode := .seq (.region r78_3 none) k78_4
@[simp] def k78_1 : HCode := .cond (.loc 3) k78_2 k78_3
def k78_9 : HCode := .seq (.region r78_7 none) .ret
@[simp] def k78_0 : HCode := .seq (.block 0 (.seq (.region r78_1 none) k78_1)) k78_9
@[simp] def fn78 : HFn := { nargs := 1, results := [.tmp 2], mode := .iso, code := (.seq (.region r78_0 none) k78_0) }
theorem c78 : cFn Tryz.prog (Hs 78) .iso 78 = some fn78 := by kernel_rfl
@[simp] def r77_0 : List HOp := [oe 8 (.mv (vI 0))]
@[simp] def r77_1 : List HOp := [ol 13 (.mv (.env 0)),ol 14 (.mv (.env 1)),ol 15 (.callf 43 [(.loc 13), (.loc 14)]),ol 16 (.mv (.env 2)),ol 17 (.bin .other .neq (.loc 15) (.loc 16)),ol 18 (.mv (.loc 17)),og 19 (.mv (.env 0)) 18 true,og 20 (.mv (.env 1)) 18 true,og 21 (.callf 43 [(.loc 19), (.loc 20)]) 18 true,og 22 (.mv (.env 3)) 18 true,og 23 (.bin .other .neq (.loc 21) (.loc 22)) 18 true,ol 24 (.pick (.loc 18) (.loc 23) (vB false))]
@[simp] def r77_2 : List HOp := [oe 8 (.mv (vI 0))]
@[simp] def r77_3 : List HOp := [ol 25 (.mv (.env 1)),ol 26 (.bin .other .add (.loc 25) (vI 1)),oe 9 (.mv (.loc 26))]
@[simp] def r77_4 : List HOp := [ol 27 (.mv (.env 0)),ol 28 (.mv (.env 9)),ol 29 (.callf 43 [(.loc 27), (.loc 28)]),ol 30 (.bin .other .eql (.loc 29) (vU 43)),ol 31 (.mv (.loc 30)),og 32 (.mv (.env 0)) 31 false,og 33 (.mv (.env 9)) 31 false,og 34 (.callf 43 [(.loc 32), (.loc 33)]) 31 false,og 35 (.bin .other .eql (.loc 34) (vU 45)) 31 false,ol 36 (.pick (.loc 31) (vB true) (.loc 35))]
@[simp] def r77_5 : List HOp := [ol 37 (.mv (.env 9)),ol 38 (.bin .other .add (.loc 37) (vI 1)),oe 9 (.mv (.loc 38))]
@[simp] def r77_6 : List HOp := [ol 39 (.mv (.env 0)),ol 40 (.mv (.env 9)),ol 41 (.callf 76 [(.loc 39), (.loc 40), (vI 10)]),oe 10 (.mv (.loc 41))]
@[simp] def r77_7 : List HOp := [ol 42 (.mv (.env 10)),ol 43 (.bin .other .eql (.loc 42) (vI 0))]
@[simp] def r77_8 : List HOp := [oe 8 (.mv (vI (-1)))]
@[simp] def r77_9 : List HOp := [oe 11 (.mv (vI 0))]
@[simp] def r77_10 : List HOp := [ol 44 (.mv (.env 9)),oe 12 (.mv (.loc 44))]
@[simp] def r77_11 : List HOp := [ol 45 (.mv (.env 12)),ol 46 (.mv (.env 9)),ol 47 (.mv (.env 10)),ol 48 (.bin .other .add (.loc 46) (.loc 47)),ol 49 (.bin .other .lss (.loc 45) (.loc 48))]
@[simp] def r77_12 : List HOp := [ol 52 (.mv (.env 11)),ol 53 (.bin .other .mul (vI 10) (.loc 52)),ol 54 (.mv (.env 0)),ol 55 (.mv (.env 12)),ol 56 (.iaddr 1 (.loc 54) (.loc 55)),ol 57 (.load 1 false (.loc 56)),ol 58 (.bin .other .sub (.loc 57) (vU 48)),ol 59 (.conv (.toInt .i64) (.loc 58)),ol 60 (.bin .other .add (.loc 53) (.loc 59)),oe 11 (.mv (.loc 60))]
@[simp] def r77_13 : List HOp := [ol 61 (.mv (.env 11)),ol 62 (.bin .other .gtr (.loc 61) (vI 999))]
@[simp] def r77_14 : List HOp := [oe 8 (.mv (vI (-1)))]
@[simp] def r77_15 : List HOp := [ol 50 (.mv (.env 12)),ol 51 (.bin .other .add (.loc 50) (vI 1)),oe 12 (.mv (.loc 51))]
@[simp] def r77_16 : List HOp := [ol 63 (.mv (.env 9)),ol 64 (.mv (.env 10)),ol 65 (.bin .other .add (.loc 63) (.loc 64)),ol 66 (.mv (.env 1)),ol 67 (.bin .other .sub (.loc 65) (.loc 66)),oe 8 (.mv (.loc 67))]
@[simp] def k77_2 : HCode := .seq (.region r77_2 none) .ret
@[simp] def k77_1 : HCode := .cond (.loc 24) k77_2 .skip
@[simp] def k77_5 : HCode := .cond (.loc 36) (.region r77_5 none) .skip
@[simp] def k77_9 : HCode := .seq (.region r77_8 none) .ret
@[simp] def k77_8 : HCode := .cond (.loc 43) k77_9 .skip
@[simp] def k77_14 : HCode := .cond (.loc 49) .skip (.exit 0)
@[simp] def k77_18 : HCode := .seq (.region r77_14 none) .ret
@[simp] def k77_17 : HCode := .cond (.loc 62) k77_18 .skip
@[simp] def k77_16 : HCode := .seq (.region r77_13 none) k77_17
def k77_19 : HCode := .region r77_15 none
def k77_15 : HCode := .seq (.block 1 (.seq (.region r77_12 none) k77_16)) k77_19
def k77_13 : HCode := .seq (.seq (.region r77_11 none) k77_14) k77_15
@[simp] def k77_12 : HCode := .block 0 (.loop k77_13)
def k77_20 : HCode := .seq (.region r77_16 none) .ret
@[simp] def k77_11 : HCode := .seq (.seq (.region r77_10 none) k77_12) k77_20
def k77_10 : HCode := .seq (.region r77_9 none) k77_11
@[simp] def k77_7 : HCode := .seq (.seq (.region r77_7 none) k77_8) k77_10
def k77_6 : HCode := .seq (.region r77_6 none) k77_7
@[simp] def k77_4 : HCode := .seq (.seq (.region r77_4 none) k77_5) k77_6
def k77_3 : HCode := .seq (.region r77_3 none) k77_4
@[simp] def k77_0 : HCode := .seq (.seq (.region r77_1 none) k77_1) k77_3
@[simp] def fn77 : HFn := { nargs := 4, results := [.tmp 8], mode := .iso, code := (.seq (.region r77_0 none) k77_0) }
theorem c77 : cFn Tryz.prog (Hs 77) .iso 77 = some fn77 := by kernel_rfl
@[simp] def r49_0 : List HOp := [oe 4 (.mv (vI 0)),oe 5 (.mv (.val (.tr (.sc (.slice none 0 0)))))]
@[simp] def r49_1 : List HOp := [oe 6 (.mv (.val (.tr (.sc (.slice none 0 0)))))]
@[simp] def r49_2 : List HOp := [ol 14 (.mv (.env 0)),ol 15 (.mv (.env 1)),ol 16 (.iaddr 1 (.loc 14) (.loc 15)),ol 17 (.load 1 false (.loc 16)),oe 7 (.mv (.loc 17))]
@[simp] def r49_3 : List HOp := [ol 18 (.mv (.env 1)),ol 19 (.bin .other .add (.loc 18) (vI 1)),oe 8 (.mv (.loc 19))]
@[simp] def r49_4 : List HOp := [ol 20 (.mv (.env 8)),ol 21 (.mv (.env 0)),ol 22 (.len 1 (.loc 21)),ol 23 (.bin .other .lss (.loc 20) (.loc 22))]
@[simp] def r49_5 : List HOp := [ol 24 (.mv (.env 0)),ol 25 (.mv (.env 8)),ol 26 (.iaddr 1 (.loc 24) (.loc 25)),ol 27 (.load 1 false (.loc 26)),oe 9 (.mv (.loc 27))]
@[simp] def r49_6 : List HOp := [ol 28 (.mv (.env 9)),ol 29 (.mv (.env 7)),ol 30 (.bin .other .eql (.loc 28) (.loc 29))]
@[simp] def r49_7 : List HOp := [ol 31 (.mv (.env 8)),ol 32 (.bin .other .add (.loc 31) (vI 1)),ol 33 (.mv (.env 1)),ol 34 (.bin .other .sub (.loc 32) (.loc 33)),ol 35 (.mv (.env 6)),oe 4 (.mv (.loc 34)),oe 5 (.mv (.loc 35))]
@[simp] def r49_8 : List HOp := [ol 36 (.mv (.env 7)),ol 37 (.bin .other .eql (.loc 36) (vU 34)),ol 38 (.mv (.loc 37)),og 39 (.mv (.env 9)) 38 true,og 40 (.bin .other .eql (.loc 39) (vU 10)) 38 true,ol 41 (.pick (.loc 38) (.loc 40) (vB false))]
@[simp] def r49_9 : List HOp := [oe 4 (.mv (vI 0)),oe 5 (.mv (.val (.tr (.sc (.slice none 0 0)))))]
@[simp] def r49_10 : List HOp := [ol 42 (.mv (.env 7)),ol 43 (.bin .other .eql (.loc 42) (vU 34)),ol 44 (.mv (.loc 43)),og 45 (.mv (.env 9)) 44 true,og 46 (.bin .other .eql (.loc 45) (vU 92)) 44 true,ol 47 (.pick (.loc 44) (.loc 46) (vB false))]
@[simp] def r49_11 : List HOp := [ol 48 (.mv (.env 0)),ol 49 (.mv (.env 8)),ol 50 (.bin .other .add (.loc 49) (vI 1)),oe 51 (.callf 43 [(.loc 48), (.loc 50)])]
@[simp] def r49_12 : List HOp := [ol 53 (.bin .other .eql (.env 51) (vU 92)),oe 52 (.mv (.loc 53))]
@[simp] def r49_13 : List HOp := [ol 54 (.bin .other .eql (.env 51) (vU 34)),oe 52 (.mv (.loc 54))]
@[simp] def r49_14 : List HOp := [ol 55 (.mv (.env 6)),ol 56 (.mv (.env 0)),ol 57 (.mv (.env 8)),ol 58 (.bin .other .add (.loc 57) (vI 1)),ol 59 (.iaddr 1 (.loc 56) (.loc 58)),ol 60 (.load 1 false (.loc 59)),ol 61 (.bslice false 1 1 [(.sc (.int .u8 0))] [(0, 1, (.loc 60))]),ol 62 (.append 1 1 (.loc 55) (.loc 61)),oe 6 (.mv (.loc 62))]
@[simp] def r49_15 : List HOp := [ol 63 (.mv (.env 8)),ol 64 (.bin .other .add (.loc 63) (vI 2)),oe 8 (.mv (.loc 64))]
@[simp] def r49_16 : List HOp := [ol 66 (.bin .other .eql (.env 51) (vU 110)),ol 65 (.mv (.loc 66))]
@[simp] def r49_17 : List HOp := [ol 67 (.mv (.env 6)),ol 68 (.bslice false 1 1 [(.sc (.int .u8 0))] [(0, 1, (vU 10))]),ol 69 (.append 1 1 (.loc 67) (.loc 68)),oe 6 (.mv (.loc 69))]
@[simp] def r49_18 : List HOp := [ol 70 (.mv (.env 8)),ol 71 (.bin .other .add (.loc 70) (vI 2)),oe 8 (.mv (.loc 71))]
@[simp] def r49_19 : List HOp := [ol 73 (.bin .other .eql (.env 51) (vU 116)),ol 72 (.mv (.loc 73))]
@[simp] def r49_20 : List HOp := [ol 74 (.mv (.env 6)),ol 75 (.bslice false 1 1 [(.sc (.int .u8 0))] [(0, 1, (vU 9))]),ol 76 (.append 1 1 (.loc 74) (.loc 75)),oe 6 (.mv (.loc 76))]
@[simp] def r49_21 : List HOp := [ol 77 (.mv (.env 8)),ol 78 (.bin .other .add (.loc 77) (vI 2)),oe 8 (.mv (.loc 78))]
@[simp] def r49_22 : List HOp := [ol 80 (.bin .other .eql (.env 51) (vU 120)),oe 79 (.mv (.loc 80))]
@[simp] def r49_23 : List HOp := [ol 81 (.bin .other .eql (.env 51) (vU 117)),oe 79 (.mv (.loc 81))]
@[simp] def r49_24 : List HOp := [oe 10 (.mv (vI 2))]
@[simp] def r49_25 : List HOp := [ol 82 (.mv (.env 0)),ol 83 (.mv (.env 8)),ol 84 (.bin .other .add (.loc 83) (vI 1)),ol 85 (.iaddr 1 (.loc 82) (.loc 84)),ol 86 (.load 1 false (.loc 85)),ol 87 (.bin .other .eql (.loc 86) (vU 117))]
@[simp] def r49_26 : List HOp := [oe 10 (.mv (vI 4))]
@[simp] def r49_27 : List HOp := [ol 88 (.mv (.env 0)),ol 89 (.mv (.env 8)),ol 90 (.bin .other .add (.loc 89) (vI 2)),ol 91 (.callf 76 [(.loc 88), (.loc 90), (vI 16)]),ol 92 (.mv (.env 10)),ol 93 (.bin .other .lss (.loc 91) (.loc 92))]
@[simp] def r49_28 : List HOp := [oe 4 (.mv (vI 0)),oe 5 (.mv (.val (.tr (.sc (.slice none 0 0)))))]
@[simp] def r49_29 : List HOp := [oe 11 (.mv (vI 0))]
@[simp] def r49_30 : List HOp := [oe 12 (.mv (vI 0))]
@[simp] def r49_31 : List HOp := [ol 94 (.mv (.env 12)),ol 95 (.mv (.env 10)),ol 96 (.bin .other .lss (.loc 94) (.loc 95))]
@[simp] def r49_32 : List HOp := [ol 99 (.mv (.env 11)),ol 100 (.bin .other .mul (vI 16) (.loc 99)),ol 101 (.mv (.env 0)),ol 102 (.mv (.env 8)),ol 103 (.bin .other .add (.loc 102) (vI 2)),ol 104 (.mv (.env 12)),ol 105 (.bin .other .add (.loc 103) (.loc 104)),ol 106 (.iaddr 1 (.loc 101) (.loc 105)),ol 107 (.load 1 false (.loc 106)),ol 108 (.callf 78 [(.loc 107)]),ol 109 (.bin .other .add (.loc 100) (.loc 108)),oe 11 (.mv (.loc 109))]
@[simp] def r49_33 : List HOp := [ol 97 (.mv (.env 12)),ol 98 (.bin .other .add (.loc 97) (vI 1)),oe 12 (.mv (.loc 98))]
@[simp] def r49_34 : List HOp := [ol 110 (.mv (.env 10)),ol 111 (.bin .other .eql (.loc 110) (vI 2))]
@[simp] def r49_35 : List HOp := [ol 112 (.mv (.env 6)),ol 113 (.mv (.env 11)),ol 114 (.conv (.toInt .u8) (.loc 113)),ol 115 (.bslice false 1 1 [(.sc (.int .u8 0))] [(0, 1, (.loc 114))]),ol 116 (.append 1 1 (.loc 112) (.loc 115)),oe 6 (.mv (.loc 116))]
@[simp] def r49_36 : List HOp := [ol 117 (.mv (.env 11)),ol 118 (.bin .other .geq (.loc 117) (vI 55296)),ol 119 (.mv (.loc 118)),og 120 (.mv (.env 11)) 119 true,og 121 (.bin .other .lss (.loc 120) (vI 57344)) 119 true,ol 122 (.pick (.loc 119) (.loc 121) (vB false))]
@[simp] def r49_37 : List HOp := [oe 4 (.mv (vI 0)),oe 5 (.mv (.val (.tr (.sc (.slice none 0 0)))))]
@[simp] def r49_38 : List HOp := [ol 123 (.mv (.env 6)),ol 124 (.mv (.env 11)),ol 125 (.callf 79 [(.loc 124)]),ol 126 (.append 1 1 (.loc 123) (.loc 125)),oe 6 (.mv (.loc 126))]
@[simp] def r49_39 : List HOp := [ol 127 (.mv (.env 8)),ol 128 (.mv (.env 10)),ol 129 (.bin .other .add (vI 2) (.loc 128)),ol 130 (.bin .other .add (.loc 127) (.loc 129)),oe 8 (.mv (.loc 130))]
@[simp] def r49_40 : List HOp := [oe 4 (.mv (vI 0)),oe 5 (.mv (.val (.tr (.sc (.slice none 0 0)))))]
@[simp] def r49_41 : List HOp := [ol 131 (.mv (.env 0)),ol 132 (.mv (.env 8)),ol 133 (.callf 80 [(.loc 131), (.loc 132)]),oe 13 (.mv (.loc 133))]
@[simp] def r49_42 : List HOp := [ol 134 (.mv (.env 13)),ol 135 (.bin .other .eql (.loc 134) (vI 0))]
@[simp] def r49_43 : List HOp := [oe 4 (.mv (vI 0)),oe 5 (.mv (.val (.tr (.sc (.slice none 0 0)))))]
@[simp] def r49_44 : List HOp := [ol 136 (.mv (.env 7)),ol 137 (.bin .other .neq (.loc 136) (vU 96)),ol 138 (.mv (.loc 137)),og 139 (.mv (.env 9)) 138 false,og 140 (.bin .other .neq (.loc 139) (vU 13)) 138 false,ol 141 (.pick (.loc 138) (vB true) (.loc 140))]
@[simp] def r49_45 : List HOp := [ol 142 (.mv (.env 6)),ol 143 (.mv (.env 0)),ol 144 (.mv (.env 8)),ol 145 (.mv (.env 8)),ol 146 (.mv (.env 13)),ol 147 (.bin .other .add (.loc 145) (.loc 146)),ol 148 (.slice 1 (.loc 143) (some (.loc 144)) (some (.loc 147)) none),ol 149 (.append 1 1 (.loc 142) (.loc 148)),oe 6 (.mv (.loc 149))]
@[simp] def r49_46 : List HOp := [ol 150 (.mv (.env 8)),ol 151 (.mv (.env 13)),ol 152 (.bin .other .add (.loc 150) (.loc 151)),oe 8 (.mv (.loc 152))]
@[simp] def r49_47 : List HOp := [oe 4 (.mv (vI 0)),oe 5 (.mv (.val (.tr (.sc (.slice none 0 0)))))]
@[simp] def k49_5 : HCode := .cond (.loc 23) .skip (.exit 0)
@[simp] def k49_9 : HCode := .seq (.region r49_7 none) .ret
@[simp] def k49_8 : HCode := .cond (.loc 30) k49_9 .skip
@[simp] def k49_12 : HCode := .seq (.region r49_9 none) .ret
@[simp] def k49_11 : HCode := .cond (.loc 41) k49_12 .skip
@[simp] def k49_17 : HCode := .cond (.env 52) .skip (.region r49_13 none)
@[simp] def k49_19 : HCode := .seq (.region r49_14 none) (.region r49_15 none)
@[simp] def k49_22 : HCode := .seq (.region r49_17 none) (.region r49_18 none)
@[simp] def k49_25 : HCode := .seq (.region r49_20 none) (.region r49_21 none)
@[simp] def k49_27 : HCode := .cond (.env 79) .skip (.region r49_23 none)
@[simp] def k49_31 : HCode := .cond (.loc 87) (.region r49_26 none) .skip
@[simp] def k49_34 : HCode := .seq (.region r49_28 none) .ret
@[simp] def k49_33 : HCode := .cond (.loc 93) k49_34 .skip
@[simp] def k49_39 : HCode := .cond (.loc 96) .skip (.exit 3)
def k49_40 : HCode := .seq (.block 4 (.region r49_32 none)) (.region r49_33 none)
def k49_38 : HCode := .seq (.seq (.region r49_31 none) k49_39) k49_40
@[simp] def k49_37 : HCode := .block 3 (.loop k49_38)
@[simp] def k49_45 : HCode := .seq (.region r49_37 none) .ret
@[simp] def k49_44 : HCode := .cond (.loc 122) k49_45 (.region r49_38 none)
@[simp] def k49_43 : HCode := .seq (.region r49_36 none) k49_44
@[simp] def k49_42 : HCode := .cond (.loc 111) (.region r49_35 none) k49_43
def k49_46 : HCode := .region r49_39 none
def k49_41 : HCode := .seq (.seq (.region r49_34 none) k49_42) k49_46
@[simp] def k49_36 : HCode := .seq (.seq (.region r49_30 none) k49_37) k49_41
def k49_35 : HCode := .seq (.region r49_29 none) k49_36
def k49_32 : HCode := .seq (.seq (.region r49_27 none) k49_33) k49_35
@[simp] def k49_30 : HCode := .seq (.seq (.region r49_25 none) k49_31) k49_32
@[simp] def k49_29 : HCode := .seq (.region r49_24 none) k49_30
@[simp] def k49_47 : HCode := .seq (.region r49_40 none) .ret
def k49_28 : HCode := .cond (.env 79) k49_29 k49_47
@[simp] def k49_26 : HCode := .seq (.seq (.region r49_22 none) k49_27) k49_28
@[simp] def k49_24 : HCode := .cond (.loc 72) k49_25 k49_26
@[simp] def k49_23 : HCode := .seq (.region r49_19 none) k49_24
@[simp] def k49_21 : HCode := .cond (.loc 65) k49_22 k49_23
@[simp] def k49_20 : HCode := .seq (.region r49_16 none) k49_21
def k49_18 : HCode := .cond (.env 52) k49_19 k49_20
@[simp] def k49_16 : HCode := .block 2 (.seq (.seq (.region r49_12 none) k49_17) k49_18)
@[simp] def k49_15 : HCode := .seq (.seq (.region r49_11 none) k49_16) (.exit 1)
@[simp] def k49_14 : HCode := .cond (.loc 47) k49_15 .skip
@[simp] def k49_51 : HCode := .seq (.region r49_43 none) .ret
@[simp] def k49_50 : HCode := .cond (.loc 135) k49_51 .skip
@[simp] def k49_53 : HCode := .cond (.loc 141) (.region r49_45 none) .skip
def k49_54 : HCode := .region r49_46 none
def k49_52 : HCode := .seq (.seq (.region r49_44 none) k49_53) k49_54
@[simp] def k49_49 : HCode := .seq (.seq (.region r49_42 none) k49_50) k49_52
def k49_48 : HCode := .seq (.region r49_41 none) k49_49
def k49_13 : HCode := .seq (.seq (.region r49_10 none) k49_14) k49_48
def k49_10 : HCode := .seq (.seq (.region r49_8 none) k49_11) k49_13
@[simp] def k49_7 : HCode := .seq (.seq (.region r49_6 none) k49_8) k49_10
def k49_6 : HCode := .block 1 (.seq (.region r49_5 none) k49_7)
def k49_4 : HCode := .seq (.seq (.region r49_4 none) k49_5) k49_6
@[simp] def k49_3 : HCode := .block 0 (.loop k49_4)
def k49_55 : HCode := .seq (.region r49_47 none) .ret
@[simp] def k49_2 : HCode := .seq (.seq (.region r49_3 none) k49_3) k49_55
@[simp] def k49_1 : HCode := .seq (.region r49_2 none) k49_2
@[simp] def k49_0 : HCode := .seq (.region r49_1 none) k49_1
@[simp] def fn49 : HFn := { nargs := 2, results := [.tmp 4, .tmp 5], mode := .iso, code := (.seq (.region r49_0 none) k49_0) }
theorem c49 : cFn Tryz.prog (Hs 49) .iso 49 = some fn49 := by kernel_rfl
@[simp] def r79_0 : List HOp := [oe 2 (.mv (.val (.tr (.sc (.slice none 0 0)))))]
@[simp] def r79_1 : List HOp := [ol 4 (.mv (.env 0)),ol 5 (.bin .other .lss (.loc 4) (vI 128)),ol 3 (.mv (.loc 5))]
@[simp] def r79_2 : List HOp := [ol 6 (.mv (.env 0)),ol 7 (.conv (.toInt .u8) (.loc 6)),ol 8 (.bslice false 1 1 [(.sc (.int .u8 0))] [(0, 1, (.loc 7))]),oe 2 (.mv (.loc 8))]
@[simp] def r79_3 : List HOp := [ol 10 (.mv (.env 0)),ol 11 (.bin .other .lss (.loc 10) (vI 2048)),ol 9 (.mv (.loc 11))]
@[simp] def r79_4 : List HOp := [ol 12 (.mv (.env 0)),ol 13 (.bin .other .quo (.loc 12) (vI 64)),ol 14 (.bin .other .add (vI 192) (.loc 13)),ol 15 (.conv (.toInt .u8) (.loc 14)),ol 16 (.mv (.env 0)),ol 17 (.bin .other .rem (.loc 16) (vI 64)),ol 18 (.bin .other .add (vI 128) (.loc 17)),ol 19 (.conv (.toInt .u8) (.loc 18)),ol 20 (.bslice false 2 1 [(.sc (.int .u8 0))] [(0, 1, (.loc 15)), (1, 1, (.loc 19))]),oe 2 (.mv (.loc 20))]
@[simp] def r79_5 : List HOp := [ol 21 (.mv (.env 0)),ol 22 (.bin .other .quo (.loc 21) (vI 4096)),ol 23 (.bin .other .add (vI 224) (.loc 22)),ol 24 (.conv (.toInt .u8) (.loc 23)),ol 25 (.mv (.env 0)),ol 26 (.bin .other .quo (.loc 25) (vI 64)),ol 27 (.bin .other .rem (.loc 26) (vI 64)),ol 28 (.bin .other .add (vI 128) (.loc 27)),ol 29 (.conv (.toInt .u8) (.loc 28)),ol 30 (.mv (.env 0)),ol 31 (.bin .other .rem (.loc 30) (vI 64)),ol 32 (.bin .other .add (vI 128) (.loc 31)),ol 33 (.conv (.toInt .u8) (.loc 32)),ol 34 (.bslice false 3 1 [(.sc (.int .u8 0))] [(0, 1, (.loc 24)), (1, 1, (.loc 29)), (2, 1, (.loc 33))]),oe 2 (.mv (.loc 34))]
@[simp] def k79_2 : HCode := .seq (.region r79_2 none) .ret
@[simp] def k79_5 : HCode := .seq (.region r79_4 none) .ret
@[simp] def k79_4 : HCode := .cond (.loc 9) k79_5 .skip
@[simp] def k79_3 : HCode := .seq (.region r79_3 none) k79_4
@[simp] def k79_1 : HCode := .cond (.loc 3) k79_2 k79_3
def k79_6 : HCode := .seq (.region r79_5 none) .ret
@[simp] def k79_0 : HCode := .seq (.block 0 (.seq (.region r79_1 none) k79_1)) k79_6
@[simp] def fn79 : HFn := { nargs := 1, results := [.tmp 2], mode := .iso, code := (.seq (.region r79_0 none) k79_0) }
theorem c79 : cFn Tryz.prog (Hs 79) .iso 79 = some fn79 := by kernel_rfl
@[simp] def r80_0 : List HOp := [oe 4 (.mv (vI 0))]
@[simp] def r80_1 : List HOp := [ol 10 (.mv (.env 0)),ol 11 (.mv (.env 1)),ol 12 (.iaddr 1 (.loc 10) (.loc 11)),ol 13 (.load 1 false (.loc 12)),oe 5 (.mv (.loc 13))]
@[simp] def r80_2 : List HOp := [oe 6 (.mv (vI 0)),oe 7 (.mv (vI 0)),oe 8 (.mv (vI 0))]
@[simp] def r80_3 : List HOp := [ol 15 (.mv (.env 5)),ol 16 (.bin .other .lss (.loc 15) (vU 128)),ol 14 (.mv (.loc 16))]
@[simp] def r80_4 : List HOp := [oe 4 (.mv (vI 1))]
@[simp] def r80_5 : List HOp := [ol 18 (.mv (.env 5)),ol 19 (.bin .other .geq (.loc 18) (vU 194)),ol 20 (.mv (.loc 19)),og 21 (.mv (.env 5)) 20 true,og 22 (.bin .other .lss (.loc 21) (vU 224)) 20 true,ol 23 (.pick (.loc 20) (.loc 22) (vB false)),ol 17 (.mv (.loc 23))]
@[simp] def r80_6 : List HOp := [ol 24 (.mv (.env 5)),ol 25 (.bin .other .rem (.loc 24) (vU 32)),ol 26 (.conv (.toInt .i64) (.loc 25)),oe 6 (.mv (vI 2)),oe 7 (.mv (.loc 26)),oe 8 (.mv (vI 128))]
@[simp] def r80_7 : List HOp := [ol 28 (.mv (.env 5)),ol 29 (.bin .other .geq (.loc 28) (vU 224)),ol 30 (.mv (.loc 29)),og 31 (.mv (.env 5)) 30 true,og 32 (.bin .other .lss (.loc 31) (vU 240)) 30 true,ol 33 (.pick (.loc 30) (.loc 32) (vB false)),ol 27 (.mv (.loc 33))]
@[simp] def r80_8 : List HOp := [ol 34 (.mv (.env 5)),ol 35 (.bin .other .rem (.loc 34) (vU 16)),ol 36 (.conv (.toInt .i64) (.loc 35)),oe 6 (.mv (vI 3)),oe 7 (.mv (.loc 36)),oe 8 (.mv (vI 2048))]
@[simp] def r80_9 : List HOp := [ol 38 (.mv (.env 5)),ol 39 (.bin .other .geq (.loc 38) (vU 240)),ol 40 (.mv (.loc 39)),og 41 (.mv (.env 5)) 40 true,og 42 (.bin .other .lss (.loc 41) (vU 245)) 40 true,ol 43 (.pick (.loc 40) (.loc 42) (vB false)),ol 37 (.mv (.loc 43))]
@[simp] def r80_10 : List HOp := [ol 44 (.mv (.env 5)),ol 45 (.bin .other .rem (.loc 44) (vU 8)),ol 46 (.conv (.toInt .i64) (.loc 45)),oe 6 (.mv (vI 4)),oe 7 (.mv (.loc 46)),oe 8 (.mv (vI 65536))]
@[simp] def r80_11 : List HOp := [oe 4 (.mv (vI 0))]
@[simp] def r80_12 : List HOp := [ol 47 (.mv (.env 1)),ol 48 (.mv (.env 6)),ol 49 (.bin .other .add (.loc 47) (.loc 48)),ol 50 (.mv (.env 0)),ol 51 (.len 1 (.loc 50)),ol 52 (.bin .other .gtr (.loc 49) (.loc 51))]
@[simp] def r80_13 : List HOp := [oe 4 (.mv (vI 0))]
@[simp] def r80_14 : List HOp := [oe 9 (.mv (vI 1))]
@[simp] def r80_15 : List HOp := [ol 53 (.mv (.env 9)),ol 54 (.mv (.env 6)),ol 55 (.bin .other .lss (.loc 53) (.loc 54))]
@[simp] def r80_16 : List HOp := [ol 58 (.mv (.env 0)),ol 59 (.mv (.env 1)),ol 60 (.mv (.env 9)),ol 61 (.bin .other .add (.loc 59) (.loc 60)),ol 62 (.iaddr 1 (.loc 58) (.loc 61)),ol 63 (.load 1 false (.loc 62)),ol 64 (.bin .other .quo (.loc 63) (vU 64)),ol 65 (.bin .other .neq (.loc 64) (vU 2))]
@[simp] def r80_17 : List HOp := [oe 4 (.mv (vI 0))]
@[simp] def r80_18 : List HOp := [ol 66 (.mv (.env 7)),ol 67 (.bin .other .mul (.loc 66) (vI 64)),ol 68 (.mv (.env 0)),ol 69 (.mv (.env 1)),ol 70 (.mv (.env 9)),ol 71 (.bin .other .add (.loc 69) (.loc 70)),ol 72 (.iaddr 1 (.loc 68) (.loc 71)),ol 73 (.load 1 false (.loc 72)),ol 74 (.bin .other .rem (.loc 73) (vU 64)),ol 75 (.conv (.toInt .i64) (.loc 74)),ol 76 (.bin .other .add (.loc 67) (.loc 75)),oe 7 (.mv (.loc 76))]
@[simp] def r80_19 : List HOp := [ol 56 (.mv (.env 9)),ol 57 (.bin .other .add (.loc 56) (vI 1)),oe 9 (.mv (.loc 57))]
@[simp] def r80_20 : List HOp := [ol 77 (.mv (.env 7)),ol 78 (.mv (.env 8)),ol 79 (.bin .other .lss (.loc 77) (.loc 78)),ol 80 (.mv (.loc 79)),og 81 (.mv (.env 7)) 80 false,og 82 (.bin .other .gtr (.loc 81) (vI 1114111)) 80 false,ol 83 (.pick (.loc 80) (vB true) (.loc 82)),ol 84 (.mv (.loc 83)),og 85 (.mv (.env 7)) 84 false,og 86 (.bin .other .geq (.loc 85) (vI 55296)) 84 false,og 87 (.mv (.loc 86)) 84 false,og 88 (.mv (.env 7)) 87 true,og 89 (.bin .other .lss (.loc 88) (vI 57344)) 87 true,og 90 (.pick (.loc 87) (.loc 89) (vB false)) 84 false,ol 91 (.pick (.loc 84) (vB true) (.loc 90))]
@[simp] def r80_21 : List HOp := [oe 4 (.mv (vI 0))]
@[simp] def r80_22 : List HOp := [ol 92 (.mv (.env 6)),oe 4 (.mv (.loc 92))]
@[simp] def k80_4 : HCode := .seq (.region r80_4 none) .ret
@[simp] def k80_11 : HCode := .seq (.region r80_11 none) .ret
@[simp] def k80_10 : HCode := .cond (.loc 37) (.region r80_10 none) k80_11
@[simp] def k80_9 : HCode := .seq (.region r80_9 none) k80_10
@[simp] def k80_8 : HCode := .cond (.loc 27) (.region r80_8 none) k80_9
@[simp] def k80_7 : HCode := .seq (.region r80_7 none) k80_8
@[simp] def k80_6 : HCode := .cond (.loc 17) (.region r80_6 none) k80_7
@[simp] def k80_5 : HCode := .seq (.region r80_5 none) k80_6
@[simp] def k80_3 : HCode := .cond (.loc 14) k80_4 k80_5
@[simp] def k80_14 : HCode := .seq (.region r80_13 none) .ret
@[simp] def k80_13 : HCode := .cond (.loc 52) k80_14 .skip
@[simp] def k80_18 : HCode := .cond (.loc 55) .skip (.exit 1)
@[simp] def k80_21 : HCode := .seq (.region r80_17 none) .ret
@[simp] def k80_20 : HCode := .cond (.loc 65) k80_21 .skip
def k80_22 : HCode := .region r80_18 none
def k80_23 : HCode := .region r80_19 none
def k80_19 : HCode := .seq (.block 2 (.seq (.seq (.region r80_16 none) k80_20) k80_22)) k80_23
def k80_17 : HCode := .seq (.seq (.region r80_15 none) k80_18) k80_19
@[simp] def k80_16 : HCode := .block 1 (.loop k80_17)
@[simp] def k80_26 : HCode := .seq (.region r80_21 none) .ret
@[simp] def k80_25 : HCode := .cond (.loc 91) k80_26 .skip
def k80_27 : HCode := .seq (.region r80_22 none) .ret
def k80_24 : HCode := .seq (.seq (.region r80_20 none) k80_25) k80_27
def k80_15 : HCode := .seq (.seq (.region r80_14 none) k80_16) k80_24
def k80_12 : HCode := .seq (.seq (.region r80_12 none) k80_13) k80_15
@[simp] def k80_2 : HCode := .seq (.block 0 (.seq (.region r80_3 none) k80_3)) k80_12
@[simp] def k80_1 : HCode := .seq (.region r80_2 none) k80_2
@[simp] def k80_0 : HCode := .seq (.region r80_1 none) k80_1
@[simp] def fn80 : HFn := { nargs := 2, results := [.tmp 4], mode := .iso, code := (.seq (.region r80_0 none) k80_0) }
theorem c80 : cFn Tryz.prog (Hs 80) .iso 80 = some fn80 := by kernel_rfl
@[simp] def r50_0 : List HOp := [oe 4 (.mv (vI 0))]
@[simp] def r50_1 : List HOp := [ol 7 (.bslice false 41 1 [(.sc (.string ⟨⟨[]⟩⟩))] [(0, 1, (vS [38, 94, 61])), (1, 1, (vS [38, 94])), (2, 1, (vS [38, 38])), (3, 1, (vS [38, 61])), (4, 1, (vS [43, 61])), (5, 1, (vS [45, 61])), (6, 1, (vS [42, 61])), (7, 1, (vS [47, 61])), (8, 1, (vS [37, 61])), (9, 1, (vS [124, 61])), (10, 1, (vS [94, 61])), (11, 1, (vS [124, 124])), (12, 1, (vS [61, 61])), (13, 1, (vS [33, 61])), (14, 1, (vS [60, 61])), (15, 1, (vS [62, 61])), (16, 1, (vS [58, 61])), (17, 1, (vS [43, 43])), (18, 1, (vS [45, 45])), (19, 1, (vS [43])), (20, 1, (vS [45])), (21, 1, (vS [42])), (22, 1, (vS [47])), (23, 1, (vS [37])), (24, 1, (vS [38])), (25, 1, (vS [124])), (26, 1, (vS [94])), (27, 1, (vS [60])), (28, 1, (vS [62])), (29, 1, (vS [33])), (30, 1, (vS [40])), (31, 1, (vS [41])), (32, 1, (vS [91])), (33, 1, (vS [93])), (34, 1, (vS [123])), (35, 1, (vS [125])), (36, 1, (vS [44])), (37, 1, (vS [46])), (38, 1, (vS [61])), (39, 1, (vS [126])), (40, 1, (vS [58]))]),oe 5 (.mv (.loc 7))]
@[simp] def r50_2 : List HOp := [oe 6 (.mv (vI 0))]
@[simp] def r50_3 : List HOp := [ol 8 (.mv (.env 6)),ol 9 (.mv (.env 5)),ol 10 (.len 1 (.loc 9)),ol 11 (.bin .other .lss (.loc 8) (.loc 10))]
@[simp] def r50_4 : List HOp := [ol 14 (.mv (.env 0)),ol 15 (.len 1 (.loc 14)),ol 16 (.mv (.env 1)),ol 17 (.bin .other .sub (.loc 15) (.loc 16)),ol 18 (.mv (.env 5)),ol 19 (.mv (.env 6)),ol 20 (.iaddr 1 (.loc 18) (.loc 19)),ol 21 (.load 1 false (.loc 20)),ol 22 (.len 0 (.loc 21)),ol 23 (.bin .other .geq (.loc 17) (.loc 22)),ol 24 (.mv (.loc 23)),og 25 (.mv (.env 0)) 24 true,og 26 (.mv (.env 1)) 24 true,og 27 (.mv (.env 1)) 24 true,og 28 (.mv (.env 5)) 24 true,og 29 (.mv (.env 6)) 24 true,og 30 (.iaddr 1 (.loc 28) (.loc 29)) 24 true,og 31 (.load 1 false (.loc 30)) 24 true,og 32 (.len 0 (.loc 31)) 24 true,og 33 (.bin .other .add (.loc 27) (.loc 32)) 24 true,og 34 (.slice 1 (.loc 25) (some (.loc 26)) (some (.loc 33)) none) 24 true,og 35 (.conv .bytesStr (.loc 34)) 24 true,og 36 (.mv (.env 5)) 24 true,og 37 (.mv (.env 6)) 24 true,og 38 (.iaddr 1 (.loc 36) (.loc 37)) 24 true,og 39 (.load 1 false (.loc 38)) 24 true,og 40 (.bin .other .eql (.loc 35) (.loc 39)) 24 true,ol 41 (.pick (.loc 24) (.loc 40) (vB false))]
@[simp] def r50_5 : List HOp := [ol 42 (.mv (.env 5)),ol 43 (.mv (.env 6)),ol 44 (.iaddr 1 (.loc 42) (.loc 43)),ol 45 (.load 1 false (.loc 44)),ol 46 (.len 0 (.loc 45)),oe 4 (.mv (.loc 46))]
@[simp] def r50_6 : List HOp := [ol 12 (.mv (.env 6)),ol 13 (.bin .other .add (.loc 12) (vI 1)),oe 6 (.mv (.loc 13))]
@[simp] def r50_7 : List HOp := [oe 4 (.mv (vI 0))]
@[simp] def k50_4 : HCode := .cond (.loc 11) .skip (.exit 0)
@[simp] def k50_7 : HCode := .seq (.region r50_5 none) .ret
@[simp] def k50_6 : HCode := .cond (.loc 41) k50_7 .skip
def k50_8 : HCode := .region r50_6 none
def k50_5 : HCode := .seq (.block 1 (.seq (.region r50_4 (some [ ( 0, [ 0 ] ) , ( 0, [ 14 ] ) , ( 0, [ 1 ] ) , ( 0, [ 15, 16 ] ) , ( 0, [ 5 ] ) , ( 0, [ 6 ] ) , ( 2, [ 18, 19 ] ) , ( 2, [ 20 ] ) , ( 0, [ 21 ] ) , ( 0, [ 17, 22 ] ) , ( 0, [ 23 ] ) , ( 0, [ 0, 24 ] ) , ( 0, [ 1, 24 ] ) , ( 0, [ 1, 24 ] ) , ( 0, [ 5, 24 ] ) , ( 0, [ 6, 24 ] ) , ( 1, [ 28, 29, 24 ] ) , ( 1, [ 30, 24 ] ) , ( 0, [ 31, 24 ] ) , ( 0, [ 27, 32, 24 ] ) , ( 1, [ 25, 26, 33, 24 ] ) , ( 1, [ 34, 24 ] ) , ( 0, [ 5, 24 ] ) , ( 0, [ 6, 24 ] ) , ( 1, [ 36, 37, 24 ] ) , ( 1, [ 38, 24 ] ) , ( 0, [ 35, 39, 24 ] ) , ( 0, [ 24, 40 ] ) ])) k50_6)) k50_8
def k50_3 : HCode := .seq (.seq (.region r50_3 none) k50_4) k50_5
@[simp] def k50_2 : HCode := .block 0 (.loop k50_3)
def k50_9 : HCode := .seq (.region r50_7 none) .ret
@[simp] def k50_1 : HCode := .seq (.seq (.region r50_2 none) k50_2) k50_9
@[simp] def k50_0 : HCode := .seq (.region r50_1 none) k50_1
@[simp] def fn50 : HFn := { nargs := 2, results := [.tmp 4], mode := .iso, code := (.seq (.region r50_0 none) k50_0) }
theorem c50 : cFn Tryz.prog (Hs 50) .iso 50 = some fn50 := by kernel_rfl
@[simp] def r51_0 : List HOp := [oe 2 (.mv (vB false))]
@[simp] def r51_1 : List HOp := [ol 4 (.mv (.env 0)),ol 5 (.len 1 (.loc 4)),ol 6 (.bin .other .eql (.loc 5) (vI 0))]
@[simp] def r51_2 : List HOp := [oe 2 (.mv (vB false))]
@[simp] def r51_3 : List HOp := [ol 7 (.mv (.env 0)),ol 8 (.mv (.env 0)),ol 9 (.len 1 (.loc 8)),ol 10 (.bin .other .sub (.loc 9) (vI 1)),ol 11 (.iaddr 3 (.loc 7) (.loc 10)),ol 12 (.load 3 true (.loc 11)),oe 3 (.alloc [(.sc (.int .i64 0)), (.sc (.string ⟨⟨[]⟩⟩)), (.sc (.int .i64 0))]),ou (.store 3 (.env 3) (.loc 12))]
@[simp] def r51_4 : List HOp := [ol 13 (.faddr 0 (.env 3)),oe 14 (.load 1 false (.loc 13))]
@[simp] def r51_5 : List HOp := [ol 16 (.bin .other .eql (.env 14) (vI 1)),oe 15 (.mv (.loc 16))]
@[simp] def r51_6 : List HOp := [ol 17 (.bin .other .eql (.env 14) (vI 2)),oe 15 (.mv (.loc 17))]
@[simp] def r51_7 : List HOp := [ol 18 (.bin .other .eql (.env 14) (vI 3)),oe 15 (.mv (.loc 18))]
@[simp] def r51_8 : List HOp := [ol 19 (.bin .other .eql (.env 14) (vI 4)),oe 15 (.mv (.loc 19))]
@[simp] def r51_9 : List HOp := [oe 2 (.mv (vB true))]
@[simp] def r51_10 : List HOp := [ol 21 (.bin .other .eql (.env 14) (vI 6)),ol 20 (.mv (.loc 21))]
@[simp] def r51_11 : List HOp := [ol 22 (.faddr 1 (.env 3)),ol 23 (.load 1 false (.loc 22)),ol 24 (.bin .other .eql (.loc 23) (vS [98, 114, 101, 97, 107])),ol 25 (.mv (.loc 24)),og 26 (.faddr 1 (.env 3)) 25 false,og 27 (.load 1 false (.loc 26)) 25 false,og 28 (.bin .other .eql (.loc 27) (vS [99, 111, 110, 116, 105, 110, 117, 101])) 25 false,ol 29 (.pick (.loc 25) (vB true) (.loc 28)),ol 30 (.mv (.loc 29)),og 31 (.faddr 1 (.env 3)) 30 false,og 32 (.load 1 false (.loc 31)) 30 false,og 33 (.bin .other .eql (.loc 32) (vS [114, 101, 116, 117, 114, 110])) 30 false,ol 34 (.pick (.loc 30) (vB true) (.loc 33)),oe 2 (.mv (.loc 34))]
@[simp] def r51_12 : List HOp := [ol 36 (.bin .other .eql (.env 14) (vI 5)),ol 35 (.mv (.loc 36))]
@[simp] def r51_13 : List HOp := [ol 37 (.faddr 1 (.env 3)),ol 38 (.load 1 false (.loc 37)),ol 39 (.bin .other .eql (.loc 38) (vS [43, 43])),ol 40 (.mv (.loc 39)),og 41 (.faddr 1 (.env 3)) 40 false,og 42 (.load 1 false (.loc 41)) 40 false,og 43 (.bin .other .eql (.loc 42) (vS [45, 45])) 40 false,ol 44 (.pick (.loc 40) (vB true) (.loc 43)),ol 45 (.mv (.loc 44)),og 46 (.faddr 1 (.env 3)) 45 false,og 47 (.load 1 false (.loc 46)) 45 false,og 48 (.bin .other .eql (.loc 47) (vS [41])) 45 false,ol 49 (.pick (.loc 45) (vB true) (.loc 48)),ol 50 (.mv (.loc 49)),og 51 (.faddr 1 (.env 3)) 50 false,og 52 (.load 1 false (.loc 51)) 50 false,og 53 (.bin .other .eql (.loc 52) (vS [93])) 50 false,ol 54 (.pick (.loc 50) (vB true) (.loc 53)),ol 55 (.mv (.loc 54)),og 56 (.faddr 1 (.env 3)) 55 false,og 57 (.load 1 false (.loc 56)) 55 false,og 58 (.bin .other .eql (.loc 57) (vS [125])) 55 false,ol 59 (.pick (.loc 55) (vB true) (.loc 58)),oe 2 (.mv (.loc 59))]
@[simp] def r51_14 : List HOp := [oe 2 (.mv (vB false))]
@[simp] def k51_2 : HCode := .seq (.region r51_2 none) .ret
@[simp] def k51_1 : HCode := .cond (.loc 6) k51_2 .skip
@[simp] def k51_10 : HCode := .cond (.env 15) .skip (.region r51_8 none)
@[simp] def k51_9 : HCode := .seq (.region r51_7 none) k51_10
@[simp] def k51_8 : HCode := .cond (.env 15) .skip k51_9
@[simp] def k51_7 : HCode := .seq (.region r51_6 none) k51_8
@[simp] def k51_6 : HCode := .cond (.env 15) .skip k51_7
@[simp] def k51_12 : HCode := .seq (.region r51_9 none) .ret
@[simp] def k51_15 : HCode := .seq (.region r51_11 none) .ret
@[simp] def k51_18 : HCode := .seq (.region r51_13 none) .ret
@[simp] def k51_17 : HCode := .cond (.loc 35) k51_18 .skip
@[simp] def k51_16 : HCode := .seq (.region r51_12 none) k51_17
@[simp] def k51_14 : HCode := .cond (.loc 20) k51_15 k51_16
@[simp] def k51_13 : HCode := .seq (.region r51_10 none) k51_14
def k51_11 : HCode := .cond (.env 15) k51_12 k51_13
@[simp] def k51_5 : HCode := .block 0 (.seq (.seq (.region r51_5 none) k51_6) k51_11)
def k51_19 : HCode := .seq (.region r51_14 none) .ret
@[simp] def k51_4 : HCode := .seq (.seq (.region r51_4 none) k51_5) k51_19
def k51_3 : HCode := .seq (.region r51_3 none) k51_4
@[simp] def k51_0 : HCode := .seq (.seq (.region r51_1 none) k51_1) k51_3
@[simp] def fn51 : HFn := { nargs := 1, results := [.tmp 2], mode := .iso, code := (.seq (.region r51_0 none) k51_0) }
theorem c51 : cFn Tryz.prog (Hs 51) .iso 51 = some fn51 := by kernel_rfl
@[simp] def r13_0 : List HOp := [oe 2 (.alloc [(.sc (.int .i64 0)), (.sc (.string ⟨⟨[]⟩⟩)), (.sc (.int .i64 0))])]
@[simp] def r13_1 : List HOp := [ol 3 (.mv (.env 0)),ol 4 (.callf 24 [(.loc 3), (vI 0)]),ou (.store 3 (.env 2) (.loc 4))]
@[simp] def k13_0 : HCode := .seq (.region r13_1 none) .ret
@[simp] def fn13 : HFn := { nargs := 1, results := [.cell 2 3 true], mode := .shared, code := (.seq (.region r13_0 none) k13_0) }
theorem c13 : cFn Tryz.prog (Hs 13) .shared 13 = some fn13 := by kernel_rfl
@[simp] def r24_0 : List HOp := [oe 4 (.alloc [(.sc (.int .i64 0)), (.sc (.string ⟨⟨[]⟩⟩)), (.sc (.int .i64 0))])]
@[simp] def r24_1 : List HOp := [ol 5 (.mv (.env 0)),ol 6 (.nilchk (.loc 5)),ol 7 (.faddr 0 (.loc 6)),ol 8 (.load 1 false (.loc 7)),ol 9 (.mv (.env 0)),ol 10 (.nilchk (.loc 9)),ol 11 (.faddr 1 (.loc 10)),ol 12 (.load 1 false (.loc 11)),ol 13 (.mv (.env 1)),ol 14 (.bin .other .add (.loc 12) (.loc 13)),ol 15 (.mv (.env 0)),ol 16 (.nilchk (.loc 15)),ol 17 (.faddr 0 (.loc 16)),ol 18 (.load 1 false (.loc 17)),ol 19 (.len 1 (.loc 18)),ol 20 (.bin .other .sub (.loc 19) (vI 1)),ol 21 (.minmax false (.loc 14) [(.loc 20)]),ol 22 (.iaddr 3 (.loc 8) (.loc 21)),ol 23 (.load 3 true (.loc 22)),ou (.store 3 (.env 4) (.loc 23))]
@[simp] def k24_0 : HCode := .seq (.region r24_1 (some [ ( 0, [ 0 ] ) , ( 0, [ 5 ] ) , ( 0, [ 6 ] ) , ( 1, [ 7 ] ) , ( 0, [ 0 ] ) , ( 0, [ 9 ] ) , ( 0, [ 10 ] ) , ( 1, [ 11 ] ) , ( 0, [ 1 ] ) , ( 0, [ 12, 13 ] ) , ( 0, [ 0 ] ) , ( 0, [ 15 ] ) , ( 0, [ 16 ] ) , ( 1, [ 17 ] ) , ( 0, [ 18 ] ) , ( 0, [ 19 ] ) , ( 0, [ 14, 20 ] ) , ( 2, [ 8, 21 ] ) , ( 2, [ 22 ] ) , ( 2, [ 4, 23 ] ) ])) .ret
@[simp] def fn24 : HFn := { nargs := 2, results := [.cell 4 3 true], mode := .shared, code := (.seq (.region r24_0 none) k24_0) }
theorem c24 : cFn Tryz.prog (Hs 24) .shared 24 = some fn24 := by kernel_rfl
@[simp] def r14_0 : List HOp := [oe 2 (.alloc [(.sc (.int .i64 0)), (.sc (.string ⟨⟨[]⟩⟩)), (.sc (.int .i64 0))])]
@[simp] def r14_1 : List HOp := [ol 4 (.mv (.env 0)),ol 5 (.callf 13 [(.loc 4)]),oe 3 (.alloc [(.sc (.int .i64 0)), (.sc (.string ⟨⟨[]⟩⟩)), (.sc (.int .i64 0))]),ou (.store 3 (.env 3) (.loc 5))]
@[simp] def r14_2 : List HOp := [ol 6 (.mv (.env 0)),ol 7 (.mv (.env 0)),ol 8 (.nilchk (.loc 7)),ol 9 (.faddr 1 (.loc 8)),ol 10 (.load 1 false (.loc 9)),ol 11 (.bin .other .add (.loc 10) (vI 1)),ol 12 (.mv (.env 0)),ol 13 (.nilchk (.loc 12)),ol 14 (.faddr 0 (.loc 13)),ol 15 (.load 1 false (.loc 14)),ol 16 (.len 1 (.loc 15)),ol 17 (.bin .other .sub (.loc 16) (vI 1)),ol 18 (.minmax false (.loc 11) [(.loc 17)]),ol 19 (.nilchk (.loc 6)),ol 20 (.faddr 1 (.loc 19)),ou (.store 1 (.loc 20) (.loc 18))]
@[simp] def r14_3 : List HOp := [ol 21 (.load 3 true (.env 3)),ou (.store 3 (.env 2) (.loc 21))]
@[simp] def k14_2 : HCode := .seq (.region r14_3 none) .ret
@[simp] def k14_1 : HCode := .seq (.region r14_2 (some [ ( 0, [ 0 ] ) , ( 0, [ 0 ] ) , ( 0, [ 7 ] ) , ( 0, [ 8 ] ) , ( 1, [ 9 ] ) , ( 0, [ 10 ] ) , ( 0, [ 0 ] ) , ( 0, [ 12 ] ) , ( 0, [ 13 ] ) , ( 1, [ 14 ] ) , ( 0, [ 15 ] ) , ( 0, [ 16 ] ) , ( 0, [ 11, 17 ] ) , ( 0, [ 6 ] ) , ( 0, [ 19 ] ) , ( 2, [ 20, 18 ] ) ])) k14_2
@[simp] def k14_0 : HCode := .seq (.region r14_1 none) k14_1
@[simp] def fn14 : HFn := { nargs := 1, results := [.cell 2 3 true], mode := .shared, code := (.seq (.region r14_0 none) k14_0) }
theorem c14 : cFn Tryz.prog (Hs 14) .shared 14 = some fn14 := by kernel_rfl
def fn6 : HFn := { nargs := 0, code := .bad, results := [], mode := .ext 18 }
def fn105 : HFn := { nargs := 2, code := .bad, results := [], mode := .ext 11 }
def fn106 : HFn := { nargs := 2, code := .bad, results := [], mode := .ext 12 }
def fn115 : HFn := { nargs := 2, code := .bad, results := [], mode := .ext 0 }
def fn157 : HFn := { nargs := 2, code := .bad, results := [], mode := .ext 16 }
def fn113 : HFn := { nargs := 1, code := .bad, results := [], mode := .ext 15 }
def fn114 : HFn := { nargs := 1, code := .bad, results := [], mode := .ext 10 }
noncomputable def T : FTab := fun f => (bif2 (Nat.ble f 70) (bif2 (Nat.ble f 42) (bif2 (Nat.ble f 13) (bif2 (Nat.ble f 10) (bif2 (Nat.ble f 4) (bif2 (Nat.beq f 4) (some fn4) none) (bif2 (Nat.ble f 6) (bif2 (Nat.beq f 6) (some fn6) none) (bif2 (Nat.beq f 10) (some fn10) none))) (bif2 (Nat.ble f 11) (bif2 (Nat.beq f 11) (some fn11) none) (bif2 (Nat.ble f 12) (bif2 (Nat.beq f 12) (some fn12) none) (bif2 (Nat.beq f 13) (some fn13) none)))) (bif2 (Nat.ble f 23) (bif2 (Nat.ble f 14) (bif2 (Nat.beq f 14) (some fn14) none) (bif2 (Nat.ble f 22) (bif2 (Nat.beq f 22) (some fn22) none) (bif2 (Nat.beq f 23) (some fn23) none))) (bif2 (Nat.ble f 40) (bif2 (Nat.ble f 24) (bif2 (Nat.beq f 24) (some fn24) none) (bif2 (Nat.beq f 40) (some fn40) none)) (bif2 (Nat.ble f 41) (bif2 (Nat.beq f 41) (some fn41) none) (bif2 (Nat.beq f 42) (some fn42) none))))) (bif2 (Nat.ble f 48) (bif2 (Nat.ble f 45) (bif2 (Nat.ble f 43) (bif2 (Nat.beq f 43) (some fn43) none) (bif2 (Nat.ble f 44) (bif2 (Nat.beq f 44) (some fn44) none) (bif2 (Nat.beq f 45) (some fn45) none))) (bif2 (Nat.ble f 46) (bif2 (Nat.beq f 46) (some fn46) none) (bif2 (Nat.ble f 47) (bif2 (Nat.beq f 47) (some fn47) none) (bif2 (Nat.beq f 48) (some fn48) none)))) (bif2 (Nat.ble f 51) (bif2 (Nat.ble f 49) (bif2 (Nat.beq f 49) (some fn49) none) (bif2 (Nat.ble f 50) (bif2 (Nat.beq f 50) (some fn50) none) (bif2 (Nat.beq f 51) (some fn51) none))) (bif2 (Nat.ble f 68) (bif2 (Nat.ble f 67) (bif2 (Nat.beq f 67) (some fn67) none) (bif2 (Nat.beq f 68) (some fn68) none)) (bif2 (Nat.ble f 69) (bif2 (Nat.beq f 69) (some fn69) none) (bif2 (Nat.beq f 70) (some fn70) none)))))) (bif2 (Nat.ble f 107) (bif2 (Nat.ble f 76) (bif2 (Nat.ble f 73) (bif2 (Nat.ble f 71) (bif2 (Nat.beq f 71) (some fn71) none) (bif2 (Nat.ble f 72) (bif2 (Nat.beq f 72) (some fn72) none) (bif2 (Nat.beq f 73) (some fn73) none))) (bif2 (Nat.ble f 74) (bif2 (Nat.beq f 74) (some fn74) none) (bif2 (Nat.ble f 75) (bif2 (Nat.beq f 75) (some fn75) none) (bif2 (Nat.beq f 76) (some fn76) none)))) (bif2 (Nat.ble f 79) (bif2 (Nat.ble f 77) (bif2 (Nat.beq f 77) (some fn77) none) (bif2 (Nat.ble f 78) (bif2 (Nat.beq f 78) (some fn78) none) (bif2 (Nat.beq f 79) (some fn79) none))) (bif2 (Nat.ble f 105) (bif2 (Nat.ble f 80) (bif2 (Nat.beq f 80) (some fn80) none) (bif2 (Nat.beq f 105) (some fn105) none)) (bif2 (Nat.ble f 106) (bif2 (Nat.beq f 106) (some fn106) none) (bif2 (Nat.beq f 107) (some fn107) none))))) (bif2 (Nat.ble f 113) (bif2 (Nat.ble f 110) (bif2 (Nat.ble f 108) (bif2 (Nat.beq f 108) (some fn108) none) (bif2 (Nat.ble f 109) (bif2 (Nat.beq f 109) (some fn109) none) (bif2 (Nat.beq f 110) (some fn110) none))) (bif2 (Nat.ble f 111) (bif2 (Nat.beq f 111) (some fn111) none) (bif2 (Nat.ble f 112) (bif2 (Nat.beq f 112) (some fn112) none) (bif2 (Nat.beq f 113) (some fn113) none)))) (bif2 (Nat.ble f 136) (bif2 (Nat.ble f 114) (bif2 (Nat.beq f 114) (some fn114) none) (bif2 (Nat.ble f 115) (bif2 (Nat.beq f 115) (some fn115) none) (bif2 (Nat.beq f 136) (some fn136) none))) (bif2 (Nat.ble f 138) (bif2 (Nat.ble f 137) (bif2 (Nat.beq f 137) (some fn137) none) (bif2 (Nat.beq f 138) (some fn138) none)) (bif2 (Nat.ble f 139) (bif2 (Nat.beq f 139) (some fn139) none) (bif2 (Nat.beq f 157) (some fn157) none)))))))
theorem T4 : T 4 = some fn4 := rfl
theorem T6 : T 6 = some fn6 := rfl
theorem T10 : T 10 = some fn10 := rfl
theorem T11 : T 11 = some fn11 := rfl
theorem T12 : T 12 = some fn12 := rfl
theorem T13 : T 13 = some fn13 := rfl
theorem T14 : T 14 = some fn14 := rfl
theorem T22 : T 22 = some fn22 := rfl
theorem T23 : T 23 = some fn23 := rfl
theorem T24 : T 24 = some fn24 := rfl
theorem T40 : T 40 = some fn40 := rfl
theorem T41 : T 41 = some fn41 := rfl
theorem T42 : T 42 = some fn42 := rfl
theorem T43 : T 43 = some fn43 := rfl
theorem T44 : T 44 = some fn44 := rfl
theorem T45 : T 45 = some fn45 := rfl
theorem T46 : T 46 = some fn46 := rfl
theorem T47 : T 47 = some fn47 := rfl
theorem T48 : T 48 = some fn48 := rfl
theorem T49 : T 49 = some fn49 := rfl
theorem T50 : T 50 = some fn50 := rfl
theorem T51 : T 51 = some fn51 := rfl
theorem T67 : T 67 = some fn67 := rfl
theorem T68 : T 68 = some fn68 := rfl
theorem T69 : T 69 = some fn69 := rfl
theorem T70 : T 70 = some fn70 := rfl
theorem T71 : T 71 = some fn71 := rfl
theorem T72 : T 72 = some fn72 := rfl
theorem T73 : T 73 = some fn73 := rfl
theorem T74 : T 74 = some fn74 := rfl
theorem T75 : T 75 = some fn75 := rfl
theorem T76 : T 76 = some fn76 := rfl
theorem T77 : T 77 = some fn77 := rfl
theorem T78 : T 78 = some fn78 := rfl
theorem T79 : T 79 = some fn79 := rfl
theorem T80 : T 80 = some fn80 := rfl
theorem T105 : T 105 = some fn105 := rfl
theorem T106 : T 106 = some fn106 := rfl
theorem T107 : T 107 = some fn107 := rfl
theorem T108 : T 108 = some fn108 := rfl
theorem T109 : T 109 = some fn109 := rfl
theorem T110 : T 110 = some fn110 := rfl
theorem T111 : T 111 = some fn111 := rfl
theorem T112 : T 112 = some fn112 := rfl
theorem T113 : T 113 = some fn113 := rfl
theorem T114 : T 114 = some fn114 := rfl
theorem T115 : T 115 = some fn115 := rfl
theorem T136 : T 136 = some fn136 := rfl
theorem T137 : T 137 = some fn137 := rfl
theorem T138 : T 138 = some fn138 := rfl
theorem T139 : T 139 = some fn139 := rfl
theorem T157 : T 157 = some fn157 := rfl
theorem tabOk {Gd : Ground} (hg : GroundOk Gd) (he : ∀ f n k, Te f = some (n, k) → ExtOk Gd Tryz.prog f k) : TabOk Gd Tryz.prog T := by
  refine ⟨hg, fun f hfn h => ?_⟩
  unfold T at h
  rcases bif2_or h with ⟨_, h⟩ | ⟨_, h⟩
  · rcases bif2_or h with ⟨_, h⟩ | ⟨_, h⟩
    · rcases bif2_or h with ⟨_, h⟩ | ⟨_, h⟩
      · rcases bif2_or h with ⟨_, h⟩ | ⟨_, h⟩
        · rcases bif2_or h with ⟨_, h⟩ | ⟨_, h⟩
          · obtain ⟨hb, h⟩ := bif2_some h
            cases h
            rw [Nat.eq_of_beq_eq_true hb]
            exact .inl ⟨fun k hk => (by cases hk), Hs 4, c4⟩
          · rcases bif2_or h with ⟨_, h⟩ | ⟨_, h⟩
            · obtain ⟨hb, h⟩ := bif2_some h
              cases h
              rw [Nat.eq_of_beq_eq_true hb]
              exact .inr ⟨18, rfl, he 6 _ _ rfl⟩
            · obtain ⟨hb, h⟩ := bif2_some h
              cases h
              rw [Nat.eq_of_beq_eq_true hb]
              exact .inl ⟨fun k hk => (by cases hk), Hs 10, c10⟩
        · rcases bif2_or h with ⟨_, h⟩ | ⟨_, h⟩
          · obtain ⟨hb, h⟩ := bif2_some h
            cases h
            rw [Nat.eq_of_beq_eq_true hb]
            exact .inl ⟨fun k hk => (by cases hk), Hs 11, c11⟩
          · rcases bif2_or h with ⟨_, h⟩ | ⟨_, h⟩
            · obtain ⟨hb, h⟩ := bif2_some h
              cases h
              rw [Nat.eq_of_beq_eq_true hb]
              exact .inl ⟨fun k hk => (by cases hk), Hs 12, c12⟩
            · obtain ⟨hb, h⟩ := bif2_some h
              cases h
              rw [Nat.eq_of_beq_eq_true hb]
              exact .inl ⟨fun k hk => (by cases hk), Hs 13, c13⟩
      · rcases bif2_or h with ⟨_, h⟩ | ⟨_, h⟩
        · rcases bif2_or h with ⟨_, h⟩ | ⟨_, h⟩
          · obtain ⟨hb, h⟩ := bif2_some h
            cases h
            rw [Nat.eq_of_beq_eq_true hb]
            exact .inl ⟨fun k hk => (by cases hk), Hs 14, c14⟩
          · rcases bif2_or h with ⟨_, h⟩ | ⟨_, h⟩
            · obtain ⟨hb, h⟩ := bif2_some h
              cases h
              rw [Nat.eq_of_beq_eq_true hb]
              exact .inl ⟨fun k hk => (by cases hk), Hs 22, c22⟩
            · obtain ⟨hb, h⟩ := bif2_some h
              cases h
              rw [Nat.eq_of_beq_eq_true hb]
              exact .inl ⟨fun k hk => (by cases hk), Hs 23, c23⟩
        · rcases bif2_or h with ⟨_, h⟩ | ⟨_, h⟩
          · rcases bif2_or h with ⟨_, h⟩ | ⟨_, h⟩
            · obtain ⟨hb, h⟩ := bif2_some h
              cases h
              rw [Nat.eq_of_beq_eq_true hb]
              exact .inl ⟨fun k hk => (by cases hk), Hs 24, c24⟩
            · obtain ⟨hb, h⟩ := bif2_some h
              cases h
              rw [Nat.eq_of_beq_eq_true hb]
              exact .inl ⟨fun k hk => (by cases hk), Hs 40, c40⟩
          · rcases bif2_or h with ⟨_, h⟩ | ⟨_, h⟩
            · obtain ⟨hb, h⟩ := bif2_some h
              cases h
              rw [Nat.eq_of_beq_eq_true hb]
              exact .inl ⟨fun k hk => (by cases hk), Hs 41, c41⟩
            · obtain ⟨hb, h⟩ := bif2_some h
              cases h
              rw [Nat.eq_of_beq_eq_true hb]
              exact .inl ⟨fun k hk => (by cases hk), Hs 42, c42⟩
    · rcases bif2_or h with ⟨_, h⟩ | ⟨_, h⟩
      · rcases bif2_or h with ⟨_, h⟩ | ⟨_, h⟩
        · rcases bif2_or h with ⟨_, h⟩ | ⟨_, h⟩
          · obtain ⟨hb, h⟩ := bif2_some h
            cases h
            rw [Nat.eq_of_beq_eq_true hb]
            exact .inl ⟨fun k hk => (by cases hk), Hs 43, c43⟩
          · rcases bif2_or h with ⟨_, h⟩ | ⟨_, h⟩
            · obtain ⟨hb, h⟩ := bif2_some h
              cases h
              rw [Nat.eq_of_beq_eq_true hb]
              exact .inl ⟨fun k hk => (by cases hk), Hs 44, c44⟩
            · obtain ⟨hb, h⟩ := bif2_some h
              cases h
              rw [Nat.eq_of_beq_eq_true hb]
              exact .inl ⟨fun k hk => (by cases hk), Hs 45, c45⟩
        · rcases bif2_or h with ⟨_, h⟩ | ⟨_, h⟩
          · obtain ⟨hb, h⟩ := bif2_some h
            cases h
            rw [Nat.eq_of_beq_eq_true hb]
            exact .inl ⟨fun k hk => (by cases hk), Hs 46, c46⟩
          · rcases bif2_or h with ⟨_, h⟩ | ⟨_, h⟩
            · obtain ⟨hb, h⟩ := bif2_some h
              cases h
              rw [Nat.eq_of_beq_eq_true hb]
              exact .inl ⟨fun k hk => (by cases hk), Hs 47, c47⟩
            · obtain ⟨hb, h⟩ := bif2_some h
              cases h
              rw [Nat.eq_of_beq_eq_true hb]
              exact .inl ⟨fun k hk => (by cases hk), Hs 48, c48⟩
      · rcases bif2_or h with ⟨_, h⟩ | ⟨_, h⟩
        · rcases bif2_or h with ⟨_, h⟩ | ⟨_, h⟩
          · obtain ⟨hb, h⟩ := bif2_some h
            cases h
            rw [Nat.eq_of_beq_eq_true hb]
            exact .inl ⟨fun k hk => (by cases hk), Hs 49, c49⟩
          · rcases bif2_or h with ⟨_, h⟩ | ⟨_, h⟩
            · obtain ⟨hb, h⟩ := bif2_some h
              cases h
              rw [Nat.eq_of_beq_eq_true hb]
              exact .inl ⟨fun k hk => (by cases hk), Hs 50, c50⟩
            · obtain ⟨hb, h⟩ := bif2_some h
              cases h
              rw [Nat.eq_of_beq_eq_true hb]
              exact .inl ⟨fun k hk => (by cases hk), Hs 51, c51⟩
        · rcases bif2_or h with ⟨_, h⟩ | ⟨_, h⟩
          · rcases bif2_or h with ⟨_, h⟩ | ⟨_, h⟩
            · obtain ⟨hb, h⟩ := bif2_some h
              cases h
              rw [Nat.eq_of_beq_eq_true hb]
              exact .inl ⟨fun k hk => (by cases hk), Hs 67, c67⟩
            · obtain ⟨hb, h⟩ := bif2_some h
              cases h
              rw [Nat.eq_of_beq_eq_true hb]
              exact .inl ⟨fun k hk => (by cases hk), Hs 68, c68⟩
          · rcases bif2_or h with ⟨_, h⟩ | ⟨_, h⟩
            · obtain ⟨hb, h⟩ := bif2_some h
              cases h
              rw [Nat.eq_of_beq_eq_true hb]
              exact .inl ⟨fun k hk => (by cases hk), Hs 69, c69⟩
            · obtain ⟨hb, h⟩ := bif2_some h
              cases h
              rw [Nat.eq_of_beq_eq_true hb]
              exact .inl ⟨fun k hk => (by cases hk), Hs 70, c70⟩
  · rcases bif2_or h with ⟨_, h⟩ | ⟨_, h⟩
    · rcases bif2_or h with ⟨_, h⟩ | ⟨_, h⟩
      · rcases bif2_or h with ⟨_, h⟩ | ⟨_, h⟩
        · rcases bif2_or h with ⟨_, h⟩ | ⟨_, h⟩
          · obtain ⟨hb, h⟩ := bif2_some h
            cases h
            rw [Nat.eq_of_beq_eq_true hb]
            exact .inl ⟨fun k hk => (by cases hk), Hs 71, c71⟩
          · rcases bif2_or h with ⟨_, h⟩ | ⟨_, h⟩
            · obtain ⟨hb, h⟩ := bif2_some h
              cases h
              rw [Nat.eq_of_beq_eq_true hb]
              exact .inl ⟨fun k hk => (by cases hk), Hs 72, c72⟩
            · obtain ⟨hb, h⟩ := bif2_some h
              cases h
              rw [Nat.eq_of_beq_eq_true hb]
              exact .inl ⟨fun k hk => (by cases hk), Hs 73, c73⟩
        · rcases bif2_or h with ⟨_, h⟩ | ⟨_, h⟩
          · obtain ⟨hb, h⟩ := bif2_some h
            cases h
            rw [Nat.eq_of_beq_eq_true hb]
            exact .inl ⟨fun k hk => (by cases hk), Hs 74, c74⟩
          · rcases bif2_or h with ⟨_, h⟩ | ⟨_, h⟩
            · obtain ⟨hb, h⟩ := bif2_some h
              cases h
              rw [Nat.eq_of_beq_eq_true hb]
              exact .inl ⟨fun k hk => (by cases hk), Hs 75, c75⟩
            · obtain ⟨hb, h⟩ := bif2_some h
              cases h
              rw [Nat.eq_of_beq_eq_true hb]
              exact .inl ⟨fun k hk => (by cases hk), Hs 76, c76⟩
      · rcases bif2_or h with ⟨_, h⟩ | ⟨_, h⟩
        · rcases bif2_or h with ⟨_, h⟩ | ⟨_, h⟩
          · obtain ⟨hb, h⟩ := bif2_some h
            cases h
            rw [Nat.eq_of_beq_eq_true hb]
            exact .inl ⟨fun k hk => (by cases hk), Hs 77, c77⟩
          · rcases bif2_or h with ⟨_, h⟩ | ⟨_, h⟩
            · obtain ⟨hb, h⟩ := bif2_some h
              cases h
              rw [Nat.eq_of_beq_eq_true hb]
              exact .inl ⟨fun k hk => (by cases hk), Hs 78, c78⟩
            · obtain ⟨hb, h⟩ := bif2_some h
              cases h
              rw [Nat.eq_of_beq_eq_true hb]
              exact .inl ⟨fun k hk => (by cases hk), Hs 79, c79⟩
        · rcases bif2_or h with ⟨_, h⟩ | ⟨_, h⟩
          · rcases bif2_or h with ⟨_, h⟩ | ⟨_, h⟩
            · obtain ⟨hb, h⟩ := bif2_some h
              cases h
              rw [Nat.eq_of_beq_eq_true hb]
              exact .inl ⟨fun k hk => (by cases hk), Hs 80, c80⟩
            · obtain ⟨hb, h⟩ := bif2_some h
              cases h
              rw [Nat.eq_of_beq_eq_true hb]
              exact .inr ⟨11, rfl, he 105 _ _ rfl⟩
          · rcases bif2_or h with ⟨_, h⟩ | ⟨_, h⟩
            · obtain ⟨hb, h⟩ := bif2_some h
              cases h
              rw [Nat.eq_of_beq_eq_true hb]
              exact .inr ⟨12, rfl, he 106 _ _ rfl⟩
            · obtain ⟨hb, h⟩ := bif2_some h
              cases h
              rw [Nat.eq_of_beq_eq_true hb]
              exact .inl ⟨fun k hk => (by cases hk), Hs 107, c107⟩
    · rcases bif2_or h with ⟨_, h⟩ | ⟨_, h⟩
      · rcases bif2_or h with ⟨_, h⟩ | ⟨_, h⟩
        · rcases bif2_or h with ⟨_, h⟩ | ⟨_, h⟩
          · obtain ⟨hb, h⟩ := bif2_some h
            cases h
            rw [Nat.eq_of_beq_eq_true hb]
            exact .inl ⟨fun k hk => (by cases hk), Hs 108, c108⟩
          · rcases bif2_or h with ⟨_, h⟩ | ⟨_, h⟩
            · obtain ⟨hb, h⟩ := bif2_some h
              cases h
              rw [Nat.eq_of_beq_eq_true hb]
              exact .inl ⟨fun k hk => (by cases hk), Hs 109, c109⟩
            · obtain ⟨hb, h⟩ := bif2_some h
              cases h
              rw [Nat.eq_of_beq_eq_true hb]
              exact .inl ⟨fun k hk => (by cases hk), Hs 110, c110⟩
        · rcases bif2_or h with ⟨_, h⟩ | ⟨_, h⟩
          · obtain ⟨hb, h⟩ := bif2_some h
            cases h
            rw [Nat.eq_of_beq_eq_true hb]
            exact .inl ⟨fun k hk => (by cases hk), Hs 111, c111⟩
          · rcases bif2_or h with ⟨_, h⟩ | ⟨_, h⟩
            · obtain ⟨hb, h⟩ := bif2_some h
              cases h
              rw [Nat.eq_of_beq_eq_true hb]
              exact .inl ⟨fun k hk => (by cases hk), Hs 112, c112⟩
            · obtain ⟨hb, h⟩ := bif2_some h
              cases h
              rw [Nat.eq_of_beq_eq_true hb]
              exact .inr ⟨15, rfl, he 113 _ _ rfl⟩
      · rcases bif2_or h with ⟨_, h⟩ | ⟨_, h⟩
        · rcases bif2_or h with ⟨_, h⟩ | ⟨_, h⟩
          · obtain ⟨hb, h⟩ := bif2_some h
            cases h
            rw [Nat.eq_of_beq_eq_true hb]
            exact .inr ⟨10, rfl, he 114 _ _ rfl⟩
          · rcases bif2_or h with ⟨_, h⟩ | ⟨_, h⟩
            · obtain ⟨hb, h⟩ := bif2_some h
              cases h
              rw [Nat.eq_of_beq_eq_true hb]
              exact .inr ⟨0, rfl, he 115 _ _ rfl⟩
            · obtain ⟨hb, h⟩ := bif2_some h
              cases h
              rw [Nat.eq_of_beq_eq_true hb]
              exact .inl ⟨fun k hk => (by cases hk), Hs 136, c136⟩
        · rcases bif2_or h with ⟨_, h⟩ | ⟨_, h⟩
          · rcases bif2_or h with ⟨_, h⟩ | ⟨_, h⟩
            · obtain ⟨hb, h⟩ := bif2_some h
              cases h
              rw [Nat.eq_of_beq_eq_true hb]
              exact .inl ⟨fun k hk => (by cases hk), Hs 137, c137⟩
            · obtain ⟨hb, h⟩ := bif2_some h
              cases h
              rw [Nat.eq_of_beq_eq_true hb]
              exact .inl ⟨fun k hk => (by cases hk), Hs 138, c138⟩
          · rcases bif2_or h with ⟨_, h⟩ | ⟨_, h⟩
            · obtain ⟨hb, h⟩ := bif2_some h
              cases h
              rw [Nat.eq_of_beq_eq_true hb]
              exact .inl ⟨fun k hk => (by cases hk), Hs 139, c139⟩
            · obtain ⟨hb, h⟩ := bif2_some h
              cases h
              rw [Nat.eq_of_beq_eq_true hb]
              exact .inr ⟨16, rfl, he 157 _ _ rfl⟩
end Go.Proofs.YtolhjhjlfgfifaaGreatDoor.AM.Rd
