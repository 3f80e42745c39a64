/- The functions that the places reaches, each checked against the translation, part two; the table of them. -/
import Derived.Test.YtodgdmhifbnofaaSd1a
set_option maxRecDepth 1000000
set_option linter.unusedVariables false
set_option linter.unusedSimpArgs false
namespace Go.Proofs.Ytodgdmhifbnofaa.AM.Sd
open Go.Proofs
@[simp] def r52_0 : List HOp := [oe 2 (.mv (vB false))]
@[simp] def r52_1 : List HOp := [ol 3 (.mv (.env 0)),ol 4 (.mv (.env 0)),ol 5 (.bin .other .neq (.loc 3) (.loc 4)),oe 2 (.mv (.loc 5))]
@[simp] def k52_0 : HCode := .seq (.region r52_1 none) .ret
@[simp] def fn52 : HFn := { nargs := 1, results := [.tmp 2], mode := .shared, code := (.seq (.region r52_0 none) k52_0) }
theorem c52 : cFn Try.prog (Hs 52) .shared 52 = some fn52 := by kernel_rfl
@[simp] def r30_0 : List HOp := [oe 2 (.mv (vI 0))]
@[simp] def r30_1 : List HOp := [oe 3 (.mv (vI 0))]
@[simp] def r30_2 : List HOp := [oe 6 (.mv (.env 0)),oe 7 (.len 1 (.env 6)),oe 8 (.mv (vI 0))]
@[simp] def r30_3 : List HOp := [ol 9 (.bin .other .lss (.env 8) (.env 7))]
@[simp] def r30_4 : List HOp := [ol 10 (.iaddr 1 (.env 6) (.env 8)),ol 11 (.load 1 false (.loc 10)),oe 5 (.mv (.loc 11))]
@[simp] def r30_5 : List HOp := [ol 12 (.mv (.env 5)),ol 13 (.mv (.env 3)),ol 14 (.bin .other .neq (.loc 12) (.loc 13))]
@[simp] def r30_6 : List HOp := [ol 15 (.mv (.env 5)),oe 2 (.mv (.loc 15))]
@[simp] def r30_7 : List HOp := [ol 16 (.bin .other .add (.env 8) (vI 1)),oe 8 (.mv (.loc 16))]
@[simp] def r30_8 : List HOp := [ol 17 (.mv (.env 3)),oe 2 (.mv (.loc 17))]
@[simp] def k30_8 : HCode := .seq (.region r30_6 none) .ret
@[simp] def k30_7 : HCode := .cond (.loc 14) k30_8 .skip
@[simp] def k30_6 : HCode := .seq (.region r30_5 none) k30_7
def k30_9 : HCode := .region r30_7 none
def k30_5 : HCode := .seq (.block 1 (.seq (.region r30_4 none) k30_6)) k30_9
@[simp] def k30_4 : HCode := .seq (.cond (.loc 9) .skip (.exit 0)) k30_5
def k30_3 : HCode := .seq (.region r30_3 none) k30_4
@[simp] def k30_2 : HCode := .block 0 (.loop k30_3)
def k30_10 : HCode := .seq (.region r30_8 none) .ret
@[simp] def k30_1 : HCode := .seq (.seq (.region r30_2 none) k30_2) k30_10
@[simp] def k30_0 : HCode := .seq (.region r30_1 none) k30_1
@[simp] def fn30 : HFn := { nargs := 1, results := [.tmp 2], mode := .shared, code := (.seq (.region r30_0 none) k30_0) }
theorem c30 : cFn Try.prog (Hs 30) .shared 30 = some fn30 := by kernel_rfl
@[simp] def r21_0 : List HOp := [oe 2 (.mv (.val (.tr (.sc (.slice none 0 0)))))]
@[simp] def r21_1 : List HOp := [ol 6 (.mv (.env 0)),ol 7 (.len 1 (.loc 6)),ol 8 (.bin .other .lss (.loc 7) (vI 2))]
@[simp] def r21_2 : List HOp := [ol 9 (.mv (.env 0)),oe 2 (.mv (.loc 9))]
@[simp] def r21_3 : List HOp := [oe 3 (.mv (vI 1))]
@[simp] def r21_4 : List HOp := [ol 10 (.mv (.env 3)),ol 11 (.mv (.env 0)),ol 12 (.len 1 (.loc 11)),ol 13 (.bin .other .lss (.loc 10) (.loc 12))]
@[simp] def r21_5 : List HOp := [ol 16 (.mv (.env 0)),ol 17 (.mv (.env 3)),ol 18 (.iaddr 3 (.loc 16) (.loc 17)),ol 19 (.load 3 true (.loc 18)),ol 20 (.mv (.env 0)),ol 21 (.mv (.env 3)),ol 22 (.bin .other .sub (.loc 21) (vI 1)),ol 23 (.iaddr 3 (.loc 20) (.loc 22)),ol 24 (.load 3 true (.loc 23)),ol 25 (.eqs false [(0, 1), (1, 1), (2, 0)] (.loc 19) (.loc 24))]
@[simp] def r21_6 : List HOp := [ol 26 (.mv (.env 0)),ol 27 (.mv (.env 3)),ol 28 (.slice 3 (.loc 26) (some (.loc 27)) none none),oe 4 (.mv (.loc 28))]
@[simp] def r21_7 : List HOp := [oe 5 (.mv (vI 1))]
@[simp] def r21_8 : List HOp := [ol 29 (.mv (.env 5)),ol 30 (.mv (.env 4)),ol 31 (.len 1 (.loc 30)),ol 32 (.bin .other .lss (.loc 29) (.loc 31))]
@[simp] def r21_9 : List HOp := [ol 35 (.mv (.env 4)),ol 36 (.mv (.env 5)),ol 37 (.iaddr 3 (.loc 35) (.loc 36)),ol 38 (.load 3 true (.loc 37)),ol 39 (.mv (.env 4)),ol 40 (.mv (.env 5)),ol 41 (.bin .other .sub (.loc 40) (vI 1)),ol 42 (.iaddr 3 (.loc 39) (.loc 41)),ol 43 (.load 3 true (.loc 42)),ol 44 (.eqs true [(0, 1), (1, 1), (2, 0)] (.loc 38) (.loc 43))]
@[simp] def r21_10 : List HOp := [ol 45 (.mv (.env 0)),ol 46 (.mv (.env 3)),ol 47 (.mv (.env 4)),ol 48 (.mv (.env 5)),ol 49 (.iaddr 3 (.loc 47) (.loc 48)),ol 50 (.load 3 true (.loc 49)),ol 51 (.iaddr 3 (.loc 45) (.loc 46)),ou (.store 3 (.loc 51) (.loc 50))]
@[simp] def r21_11 : List HOp := [ol 52 (.mv (.env 3)),ol 53 (.bin .other .add (.loc 52) (vI 1)),oe 3 (.mv (.loc 53))]
@[simp] def r21_12 : List HOp := [ol 33 (.mv (.env 5)),ol 34 (.bin .other .add (.loc 33) (vI 1)),oe 5 (.mv (.loc 34))]
@[simp] def r21_13 : List HOp := [ol 54 (.mv (.env 0)),ol 55 (.mv (.env 3)),ol 56 (.slice 3 (.loc 54) (some (.loc 55)) none none),ou (.clear [(.sc (.string ⟨⟨[]⟩⟩)), (.sc (.string ⟨⟨[]⟩⟩)), (.sc (.int .i64 0))] (.loc 56))]
@[simp] def r21_14 : List HOp := [ol 57 (.mv (.env 0)),ol 58 (.mv (.env 3)),ol 59 (.slice 3 (.loc 57) none (some (.loc 58)) none),oe 2 (.mv (.loc 59))]
@[simp] def r21_15 : List HOp := [ol 14 (.mv (.env 3)),ol 15 (.bin .other .add (.loc 14) (vI 1)),oe 3 (.mv (.loc 15))]
@[simp] def r21_16 : List HOp := [ol 60 (.mv (.env 0)),oe 2 (.mv (.loc 60))]
@[simp] def k21_2 : HCode := .seq (.region r21_2 none) .ret
@[simp] def k21_1 : HCode := .cond (.loc 8) k21_2 .skip
@[simp] def k21_6 : HCode := .cond (.loc 13) .skip (.exit 0)
@[simp] def k21_13 : HCode := .cond (.loc 32) .skip (.exit 2)
@[simp] def k21_16 : HCode := .seq (.region r21_10 none) (.region r21_11 none)
@[simp] def k21_15 : HCode := .cond (.loc 44) k21_16 .skip
def k21_17 : HCode := .region r21_12 none
def k21_14 : HCode := .seq (.block 3 (.seq (.region r21_9 (some [ ( 0, [ 4 ] ) , ( 0, [ 5 ] ) , ( 1, [ 35, 36 ] ) , ( 1, [ 37 ] ) , ( 0, [ 4 ] ) , ( 0, [ 5 ] ) , ( 0, [ 40 ] ) , ( 1, [ 39, 41 ] ) , ( 1, [ 42 ] ) , ( 0, [ 38, 43 ] ) ])) k21_15)) k21_17
def k21_12 : HCode := .seq (.seq (.region r21_8 none) k21_13) k21_14
@[simp] def k21_11 : HCode := .block 2 (.loop k21_12)
@[simp] def k21_19 : HCode := .seq (.region r21_14 none) .ret
def k21_18 : HCode := .seq (.region r21_13 none) k21_19
@[simp] def k21_10 : HCode := .seq (.seq (.region r21_7 none) k21_11) k21_18
@[simp] def k21_9 : HCode := .seq (.region r21_6 none) k21_10
@[simp] def k21_8 : HCode := .cond (.loc 25) k21_9 .skip
def k21_20 : HCode := .region r21_15 none
def k21_7 : HCode := .seq (.block 1 (.seq (.region r21_5 (some [ ( 0, [ 0 ] ) , ( 0, [ 3 ] ) , ( 1, [ 16, 17 ] ) , ( 1, [ 18 ] ) , ( 0, [ 0 ] ) , ( 0, [ 3 ] ) , ( 0, [ 21 ] ) , ( 1, [ 20, 22 ] ) , ( 1, [ 23 ] ) , ( 0, [ 19, 24 ] ) ])) k21_8)) k21_20
def k21_5 : HCode := .seq (.seq (.region r21_4 none) k21_6) k21_7
@[simp] def k21_4 : HCode := .block 0 (.loop k21_5)
def k21_21 : HCode := .seq (.region r21_16 none) .ret
def k21_3 : HCode := .seq (.seq (.region r21_3 none) k21_4) k21_21
@[simp] def k21_0 : HCode := .seq (.seq (.region r21_1 none) k21_1) k21_3
@[simp] def fn21 : HFn := { nargs := 1, results := [.tmp 2], mode := .shared, code := (.seq (.region r21_0 none) k21_0) }
theorem c21 : cFn Try.prog (Hs 21) .shared 21 = some fn21 := by kernel_rfl
@[simp] def r20_0 : List HOp := [oe 2 (.mv (.val (.tr (.sc (.slice none 0 0)))))]
@[simp] def r20_1 : List HOp := [ol 3 (.mv (.env 0)),ol 4 (.mv (.env 0)),ol 5 (.len 1 (.loc 4)),ol 6 (.mv (.env 0)),ol 7 (.len 1 (.loc 6)),ol 8 (.slice 3 (.loc 3) none (some (.loc 5)) (some (.loc 7))),oe 2 (.mv (.loc 8))]
@[simp] def k20_0 : HCode := .seq (.region r20_1 none) .ret
@[simp] def fn20 : HFn := { nargs := 1, results := [.tmp 2], mode := .shared, code := (.seq (.region r20_0 none) k20_0) }
theorem c20 : cFn Try.prog (Hs 20) .shared 20 = some fn20 := by kernel_rfl
@[simp] def r8_0 : List HOp := [oe 2 (.box true (.env 0)),oe 3 (.box true (.env 1)),oe 4 (.mv (vB false))]
@[simp] def r8_1 : List HOp := [ol 5 (.faddr 0 (.env 2)),ol 6 (.load 1 false (.loc 5)),ol 7 (.faddr 0 (.env 3)),ol 8 (.load 1 false (.loc 7)),ol 9 (.bin .other .lss (.loc 6) (.loc 8)),ol 10 (.mv (.loc 9)),og 11 (.faddr 0 (.env 2)) 10 false,og 12 (.load 1 false (.loc 11)) 10 false,og 13 (.faddr 0 (.env 3)) 10 false,og 14 (.load 1 false (.loc 13)) 10 false,og 15 (.bin .other .eql (.loc 12) (.loc 14)) 10 false,og 16 (.mv (.loc 15)) 10 false,og 17 (.faddr 1 (.env 2)) 16 true,og 18 (.load 1 false (.loc 17)) 16 true,og 19 (.faddr 1 (.env 3)) 16 true,og 20 (.load 1 false (.loc 19)) 16 true,og 21 (.bin .other .lss (.loc 18) (.loc 20)) 16 true,og 22 (.mv (.loc 21)) 16 true,og 23 (.faddr 1 (.env 2)) 22 false,og 24 (.load 1 false (.loc 23)) 22 false,og 25 (.faddr 1 (.env 3)) 22 false,og 26 (.load 1 false (.loc 25)) 22 false,og 27 (.bin .other .eql (.loc 24) (.loc 26)) 22 false,og 28 (.mv (.loc 27)) 22 false,og 29 (.faddr 2 (.env 2)) 28 true,og 30 (.load 1 false (.loc 29)) 28 true,og 31 (.faddr 2 (.env 3)) 28 true,og 32 (.load 1 false (.loc 31)) 28 true,og 33 (.bin .other .lss (.loc 30) (.loc 32)) 28 true,og 34 (.pick (.loc 28) (.loc 33) (vB false)) 22 false,og 35 (.pick (.loc 22) (vB true) (.loc 34)) 16 true,og 36 (.pick (.loc 16) (.loc 35) (vB false)) 10 false,ol 37 (.pick (.loc 10) (vB true) (.loc 36)),oe 4 (.mv (.loc 37))]
@[simp] def k8_0 : HCode := .seq (.region r8_1 none) .ret
@[simp] def fn8 : HFn := { nargs := 2, results := [.tmp 4], mode := .iso, code := (.seq (.region r8_0 none) k8_0) }
theorem c8 : cFn Try.prog (Hs 8) .iso 8 = some fn8 := by kernel_rfl
def fn5 : HFn := { nargs := 0, code := .bad, results := [], mode := .ext 18 }
def fn18 : HFn := { nargs := 2, code := .bad, results := [], mode := .ext 59 }
def fn14 : HFn := { nargs := 2, code := .bad, results := [], mode := .ext 4 }
noncomputable def T : FTab := fun f => (bif2 (Nat.ble f 17) (bif2 (Nat.ble f 7) (bif2 (Nat.ble f 4) (bif2 (Nat.beq f 4) (some fn4) none) (bif2 (Nat.ble f 5) (bif2 (Nat.beq f 5) (some fn5) none) (bif2 (Nat.beq f 7) (some fn7) none))) (bif2 (Nat.ble f 8) (bif2 (Nat.beq f 8) (some fn8) none) (bif2 (Nat.ble f 14) (bif2 (Nat.beq f 14) (some fn14) none) (bif2 (Nat.beq f 17) (some fn17) none)))) (bif2 (Nat.ble f 20) (bif2 (Nat.ble f 18) (bif2 (Nat.beq f 18) (some fn18) none) (bif2 (Nat.ble f 19) (bif2 (Nat.beq f 19) (some fn19) none) (bif2 (Nat.beq f 20) (some fn20) none))) (bif2 (Nat.ble f 30) (bif2 (Nat.ble f 21) (bif2 (Nat.beq f 21) (some fn21) none) (bif2 (Nat.beq f 30) (some fn30) none)) (bif2 (Nat.ble f 31) (bif2 (Nat.beq f 31) (some fn31) none) (bif2 (Nat.beq f 52) (some fn52) none)))))
theorem T4 : T 4 = some fn4 := rfl
theorem T5 : T 5 = some fn5 := rfl
theorem T7 : T 7 = some fn7 := rfl
theorem T8 : T 8 = some fn8 := rfl
theorem T17 : T 17 = some fn17 := rfl
theorem T18 : T 18 = some fn18 := rfl
theorem T20 : T 20 = some fn20 := rfl
theorem T21 : T 21 = some fn21 := rfl
theorem tabOk {Gd : Ground} (hg : GroundOk Gd) (he : ∀ f n k, Te f = some (n, k) → ExtOk Gd Try.prog f k) : TabOk Gd Try.prog T := by
  refine ⟨hg, fun f hfn h => ?_⟩
  unfold T at h
  rcases bif2_or h with ⟨_, h⟩ | ⟨_, h⟩
  · rcases bif2_or h with ⟨_, h⟩ | ⟨_, h⟩
    · rcases bif2_or h with ⟨_, h⟩ | ⟨_, h⟩
      · obtain ⟨hb, h⟩ := bif2_some h
        cases h
        rw [Nat.eq_of_beq_eq_true hb]
        exact .inl ⟨fun k hk => (by cases hk), Hs 4, c4⟩
      · rcases bif2_or h with ⟨_, h⟩ | ⟨_, h⟩
        · obtain ⟨hb, h⟩ := bif2_some h
          cases h
          rw [Nat.eq_of_beq_eq_true hb]
          exact .inr ⟨18, rfl, he 5 _ _ rfl⟩
        · obtain ⟨hb, h⟩ := bif2_some h
          cases h
          rw [Nat.eq_of_beq_eq_true hb]
          exact .inl ⟨fun k hk => (by cases hk), Hs 7, c7⟩
    · rcases bif2_or h with ⟨_, h⟩ | ⟨_, h⟩
      · obtain ⟨hb, h⟩ := bif2_some h
        cases h
        rw [Nat.eq_of_beq_eq_true hb]
        exact .inl ⟨fun k hk => (by cases hk), Hs 8, c8⟩
      · rcases bif2_or h with ⟨_, h⟩ | ⟨_, h⟩
        · obtain ⟨hb, h⟩ := bif2_some h
          cases h
          rw [Nat.eq_of_beq_eq_true hb]
          exact .inr ⟨4, rfl, he 14 _ _ rfl⟩
        · obtain ⟨hb, h⟩ := bif2_some h
          cases h
          rw [Nat.eq_of_beq_eq_true hb]
          exact .inl ⟨fun k hk => (by cases hk), Hs 17, c17⟩
  · rcases bif2_or h with ⟨_, h⟩ | ⟨_, h⟩
    · rcases bif2_or h with ⟨_, h⟩ | ⟨_, h⟩
      · obtain ⟨hb, h⟩ := bif2_some h
        cases h
        rw [Nat.eq_of_beq_eq_true hb]
        exact .inr ⟨59, rfl, he 18 _ _ rfl⟩
      · rcases bif2_or h with ⟨_, h⟩ | ⟨_, h⟩
        · obtain ⟨hb, h⟩ := bif2_some h
          cases h
          rw [Nat.eq_of_beq_eq_true hb]
          exact .inl ⟨fun k hk => (by cases hk), Hs 19, c19⟩
        · obtain ⟨hb, h⟩ := bif2_some h
          cases h
          rw [Nat.eq_of_beq_eq_true hb]
          exact .inl ⟨fun k hk => (by cases hk), Hs 20, c20⟩
    · rcases bif2_or h with ⟨_, h⟩ | ⟨_, h⟩
      · rcases bif2_or h with ⟨_, h⟩ | ⟨_, h⟩
        · obtain ⟨hb, h⟩ := bif2_some h
          cases h
          rw [Nat.eq_of_beq_eq_true hb]
          exact .inl ⟨fun k hk => (by cases hk), Hs 21, c21⟩
        · obtain ⟨hb, h⟩ := bif2_some h
          cases h
          rw [Nat.eq_of_beq_eq_true hb]
          exact .inl ⟨fun k hk => (by cases hk), Hs 30, c30⟩
      · rcases bif2_or h with ⟨_, h⟩ | ⟨_, h⟩
        · obtain ⟨hb, h⟩ := bif2_some h
          cases h
          rw [Nat.eq_of_beq_eq_true hb]
          exact .inl ⟨fun k hk => (by cases hk), Hs 31, c31⟩
        · obtain ⟨hb, h⟩ := bif2_some h
          cases h
          rw [Nat.eq_of_beq_eq_true hb]
          exact .inl ⟨fun k hk => (by cases hk), Hs 52, c52⟩
end Go.Proofs.Ytodgdmhifbnofaa.AM.Sd
