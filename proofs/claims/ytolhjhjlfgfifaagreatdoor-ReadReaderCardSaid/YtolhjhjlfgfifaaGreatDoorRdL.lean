/- the reader: part L. -/
import Derived.Test.YtolhjhjlfgfifaaGreatDoorAm5
import Derived.Test.YtolhjhjlfgfifaaGreatDoorAm5
import Derived.Test.YtolhjhjlfgfifaaGreatDoorProg
import Derived.KernelRfl
set_option maxRecDepth 1000000
set_option linter.unusedVariables false
namespace Go.Proofs.YtolhjhjlfgfifaaGreatDoor.AM.Rd0
open Go.Proofs
def Hq (f : Nat) : List Nat :=  []
def Hb (f : Nat) : List Nat := if Nat.beq f 28 then [1] else if Nat.beq f 161 then [1] else if Nat.beq f 147 then [3] else if Nat.beq f 148 then [2] else if Nat.beq f 163 then [1] else if Nat.beq f 94 then [1] else []
def Hl (f : Nat) : List Nat :=  []
def Ho (f d : Nat) : Bool := if Nat.beq f 6 then true else if Nat.beq f 68 then true else if Nat.beq f 54 then memN d [40] else if Nat.beq f 124 then memN d [78] else if Nat.beq f 52 then memN d [63, 89] else if Nat.beq f 147 then memN d [16] else false
def Hp (f i : Nat) : List Nat := if Nat.beq f 124 && Nat.beq i 11 then [0, 2, 3, 1, 4, 5] else if Nat.beq f 82 && Nat.beq i 4 then [0, 2, 3, 1, 4, 5] else []
def Hs (f : Nat) : Hints := { own := fun d => Ho f d, qa := fun d => memN d (Hq f), tu := fun _ => true, bt := fun d => memN d (Hb f), ld := fun d => memN d (Hl f), pm := fun i => Hp f i }
def Te (f : Nat) : Option (Nat × Nat) := if Nat.beq f 105 then some (2, 11) else if Nat.beq f 106 then some (2, 12) else if Nat.beq f 115 then some (2, 0) else if Nat.beq f 157 then some (2, 16) else if Nat.beq f 113 then some (1, 15) else if Nat.beq f 114 then some (1, 10) else if Nat.beq f 53 then some (4, 104) else none
def fn105 : HFn := { nargs := 2, code := .bad, results := [], mode := .ext 11 }
def fn106 : HFn := { nargs := 2, code := .bad, results := [], mode := .ext 12 }
def fn115 : HFn := { nargs := 2, code := .bad, results := [], mode := .ext 0 }
def fn157 : HFn := { nargs := 2, code := .bad, results := [], mode := .ext 16 }
def fn113 : HFn := { nargs := 1, code := .bad, results := [], mode := .ext 15 }
def fn114 : HFn := { nargs := 1, code := .bad, results := [], mode := .ext 10 }
def fn53 : HFn := { nargs := 4, code := .bad, results := [], mode := .ext 104 }
noncomputable def T : FTab := fun f => (bif2 (Nat.ble f 89) (bif2 (Nat.ble f 42) (bif2 (Nat.ble f 22) (bif2 (Nat.ble f 14) (bif2 (Nat.ble f 7) (bif2 (Nat.ble f 6) (bif2 (Nat.beq f 6) (cFn Tryz.prog (Hs 6) .iso 6) none) (bif2 (Nat.beq f 7) (cFn Tryz.prog (Hs 7) .shared 7) none)) (bif2 (Nat.ble f 11) (bif2 (Nat.beq f 11) (cFn Tryz.prog (Hs 11) .shared 11) none) (bif2 (Nat.ble f 13) (bif2 (Nat.beq f 13) (cFn Tryz.prog (Hs 13) .shared 13) none) (bif2 (Nat.beq f 14) (cFn Tryz.prog (Hs 14) .shared 14) none)))) (bif2 (Nat.ble f 18) (bif2 (Nat.ble f 17) (bif2 (Nat.beq f 17) (cFn Tryz.prog (Hs 17) .shared 17) none) (bif2 (Nat.beq f 18) (cFn Tryz.prog (Hs 18) .shared 18) none)) (bif2 (Nat.ble f 19) (bif2 (Nat.beq f 19) (cFn Tryz.prog (Hs 19) .shared 19) none) (bif2 (Nat.ble f 20) (bif2 (Nat.beq f 20) (cFn Tryz.prog (Hs 20) .shared 20) none) (bif2 (Nat.beq f 22) (cFn Tryz.prog (Hs 22) .iso 22) none))))) (bif2 (Nat.ble f 29) (bif2 (Nat.ble f 26) (bif2 (Nat.ble f 24) (bif2 (Nat.beq f 24) (cFn Tryz.prog (Hs 24) .shared 24) none) (bif2 (Nat.beq f 26) (cFn Tryz.prog (Hs 26) .shared 26) none)) (bif2 (Nat.ble f 27) (bif2 (Nat.beq f 27) (cFn Tryz.prog (Hs 27) .shared 27) none) (bif2 (Nat.ble f 28) (bif2 (Nat.beq f 28) (cFn Tryz.prog (Hs 28) .shared 28) none) (bif2 (Nat.beq f 29) (cFn Tryz.prog (Hs 29) .shared 29) none)))) (bif2 (Nat.ble f 31) (bif2 (Nat.ble f 30) (bif2 (Nat.beq f 30) (cFn Tryz.prog (Hs 30) .shared 30) none) (bif2 (Nat.beq f 31) (cFn Tryz.prog (Hs 31) .shared 31) none)) (bif2 (Nat.ble f 40) (bif2 (Nat.beq f 40) (cFn Tryz.prog (Hs 40) .shared 40) none) (bif2 (Nat.ble f 41) (bif2 (Nat.beq f 41) (cFn Tryz.prog (Hs 41) .shared 41) none) (bif2 (Nat.beq f 42) (cFn Tryz.prog (Hs 42) .shared 42) none)))))) (bif2 (Nat.ble f 73) (bif2 (Nat.ble f 68) (bif2 (Nat.ble f 53) (bif2 (Nat.ble f 52) (bif2 (Nat.beq f 52) (cFn Tryz.prog (Hs 52) .shared 52) none) (bif2 (Nat.beq f 53) (some fn53) none)) (bif2 (Nat.ble f 54) (bif2 (Nat.beq f 54) (cFn Tryz.prog (Hs 54) .shared 54) none) (bif2 (Nat.ble f 67) (bif2 (Nat.beq f 67) (cFn Tryz.prog (Hs 67) .shared 67) none) (bif2 (Nat.beq f 68) (cFn Tryz.prog (Hs 68) .shared 68) none)))) (bif2 (Nat.ble f 70) (bif2 (Nat.ble f 69) (bif2 (Nat.beq f 69) (cFn Tryz.prog (Hs 69) .iso 69) none) (bif2 (Nat.beq f 70) (cFn Tryz.prog (Hs 70) .shared 70) none)) (bif2 (Nat.ble f 71) (bif2 (Nat.beq f 71) (cFn Tryz.prog (Hs 71) .iso 71) none) (bif2 (Nat.ble f 72) (bif2 (Nat.beq f 72) (cFn Tryz.prog (Hs 72) .shared 72) none) (bif2 (Nat.beq f 73) (cFn Tryz.prog (Hs 73) .shared 73) none))))) (bif2 (Nat.ble f 83) (bif2 (Nat.ble f 75) (bif2 (Nat.ble f 74) (bif2 (Nat.beq f 74) (cFn Tryz.prog (Hs 74) .shared 74) none) (bif2 (Nat.beq f 75) (cFn Tryz.prog (Hs 75) .shared 75) none)) (bif2 (Nat.ble f 81) (bif2 (Nat.beq f 81) (cFn Tryz.prog (Hs 81) .shared 81) none) (bif2 (Nat.ble f 82) (bif2 (Nat.beq f 82) (cFn Tryz.prog (Hs 82) .shared 82) none) (bif2 (Nat.beq f 83) (cFn Tryz.prog (Hs 83) .shared 83) none)))) (bif2 (Nat.ble f 86) (bif2 (Nat.ble f 84) (bif2 (Nat.beq f 84) (cFn Tryz.prog (Hs 84) .shared 84) none) (bif2 (Nat.ble f 85) (bif2 (Nat.beq f 85) (cFn Tryz.prog (Hs 85) .shared 85) none) (bif2 (Nat.beq f 86) (cFn Tryz.prog (Hs 86) .shared 86) none))) (bif2 (Nat.ble f 87) (bif2 (Nat.beq f 87) (cFn Tryz.prog (Hs 87) .shared 87) none) (bif2 (Nat.ble f 88) (bif2 (Nat.beq f 88) (cFn Tryz.prog (Hs 88) .shared 88) none) (bif2 (Nat.beq f 89) (cFn Tryz.prog (Hs 89) .shared 89) none))))))) (bif2 (Nat.ble f 119) (bif2 (Nat.ble f 109) (bif2 (Nat.ble f 94) (bif2 (Nat.ble f 91) (bif2 (Nat.ble f 90) (bif2 (Nat.beq f 90) (cFn Tryz.prog (Hs 90) .shared 90) none) (bif2 (Nat.beq f 91) (cFn Tryz.prog (Hs 91) .shared 91) none)) (bif2 (Nat.ble f 92) (bif2 (Nat.beq f 92) (cFn Tryz.prog (Hs 92) .shared 92) none) (bif2 (Nat.ble f 93) (bif2 (Nat.beq f 93) (cFn Tryz.prog (Hs 93) .shared 93) none) (bif2 (Nat.beq f 94) (cFn Tryz.prog (Hs 94) .shared 94) none)))) (bif2 (Nat.ble f 106) (bif2 (Nat.ble f 105) (bif2 (Nat.beq f 105) (some fn105) none) (bif2 (Nat.beq f 106) (some fn106) none)) (bif2 (Nat.ble f 107) (bif2 (Nat.beq f 107) (cFn Tryz.prog (Hs 107) .shared 107) none) (bif2 (Nat.ble f 108) (bif2 (Nat.beq f 108) (cFn Tryz.prog (Hs 108) .shared 108) none) (bif2 (Nat.beq f 109) (cFn Tryz.prog (Hs 109) .shared 109) none))))) (bif2 (Nat.ble f 114) (bif2 (Nat.ble f 111) (bif2 (Nat.ble f 110) (bif2 (Nat.beq f 110) (cFn Tryz.prog (Hs 110) .shared 110) none) (bif2 (Nat.beq f 111) (cFn Tryz.prog (Hs 111) .shared 111) none)) (bif2 (Nat.ble f 112) (bif2 (Nat.beq f 112) (cFn Tryz.prog (Hs 112) .shared 112) none) (bif2 (Nat.ble f 113) (bif2 (Nat.beq f 113) (some fn113) none) (bif2 (Nat.beq f 114) (some fn114) none)))) (bif2 (Nat.ble f 116) (bif2 (Nat.ble f 115) (bif2 (Nat.beq f 115) (some fn115) none) (bif2 (Nat.beq f 116) (cFn Tryz.prog (Hs 116) .shared 116) none)) (bif2 (Nat.ble f 117) (bif2 (Nat.beq f 117) (cFn Tryz.prog (Hs 117) .shared 117) none) (bif2 (Nat.ble f 118) (bif2 (Nat.beq f 118) (cFn Tryz.prog (Hs 118) .shared 118) none) (bif2 (Nat.beq f 119) (cFn Tryz.prog (Hs 119) .shared 119) none)))))) (bif2 (Nat.ble f 144) (bif2 (Nat.ble f 124) (bif2 (Nat.ble f 121) (bif2 (Nat.ble f 120) (bif2 (Nat.beq f 120) (cFn Tryz.prog (Hs 120) .shared 120) none) (bif2 (Nat.beq f 121) (cFn Tryz.prog (Hs 121) .shared 121) none)) (bif2 (Nat.ble f 122) (bif2 (Nat.beq f 122) (cFn Tryz.prog (Hs 122) .shared 122) none) (bif2 (Nat.ble f 123) (bif2 (Nat.beq f 123) (cFn Tryz.prog (Hs 123) .shared 123) none) (bif2 (Nat.beq f 124) (cFn Tryz.prog (Hs 124) .shared 124) none)))) (bif2 (Nat.ble f 137) (bif2 (Nat.ble f 136) (bif2 (Nat.beq f 136) (cFn Tryz.prog (Hs 136) .shared 136) none) (bif2 (Nat.beq f 137) (cFn Tryz.prog (Hs 137) .iso 137) none)) (bif2 (Nat.ble f 138) (bif2 (Nat.beq f 138) (cFn Tryz.prog (Hs 138) .iso 138) none) (bif2 (Nat.ble f 139) (bif2 (Nat.beq f 139) (cFn Tryz.prog (Hs 139) .iso 139) none) (bif2 (Nat.beq f 144) (cFn Tryz.prog (Hs 144) .shared 144) none))))) (bif2 (Nat.ble f 149) (bif2 (Nat.ble f 146) (bif2 (Nat.ble f 145) (bif2 (Nat.beq f 145) (cFn Tryz.prog (Hs 145) .shared 145) none) (bif2 (Nat.beq f 146) (cFn Tryz.prog (Hs 146) .shared 146) none)) (bif2 (Nat.ble f 147) (bif2 (Nat.beq f 147) (cFn Tryz.prog (Hs 147) .shared 147) none) (bif2 (Nat.ble f 148) (bif2 (Nat.beq f 148) (cFn Tryz.prog (Hs 148) .shared 148) none) (bif2 (Nat.beq f 149) (cFn Tryz.prog (Hs 149) .shared 149) none)))) (bif2 (Nat.ble f 161) (bif2 (Nat.ble f 157) (bif2 (Nat.beq f 157) (some fn157) none) (bif2 (Nat.ble f 160) (bif2 (Nat.beq f 160) (cFn Tryz.prog (Hs 160) .shared 160) none) (bif2 (Nat.beq f 161) (cFn Tryz.prog (Hs 161) .shared 161) none))) (bif2 (Nat.ble f 162) (bif2 (Nat.beq f 162) (cFn Tryz.prog (Hs 162) .shared 162) none) (bif2 (Nat.ble f 163) (bif2 (Nat.beq f 163) (cFn Tryz.prog (Hs 163) .shared 163) none) (bif2 (Nat.beq f 175) (cFn Tryz.prog (Hs 175) .shared 175) none))))))))
theorem cFn_mode {P : Program} {H : Hints} {m : Mode} {f : FuncId} {h : HFn} (e : cFn P H m f = some h) : h.mode = m := by
  unfold cFn at e
  split at e
  · cases e
  · split at e
    · split at e
      · cases e
      · split at e <;> (cases e; rfl)
    · cases e
theorem inl_of {P : Program} {H : Hints} {m : Mode} {f : FuncId} {h : HFn} (hm : ∀ k, m ≠ .ext k) (e : cFn P H m f = some h) : (∀ k, h.mode ≠ .ext k) ∧ ∃ H, cFn P H h.mode f = some h := by
  have := cFn_mode e
  rw [this]
  exact ⟨hm, H, e⟩
theorem tabOk {Gd : Ground} (hg : GroundOk Gd) (he : ∀ f n k, Te f = some (n, k) → ExtOk Gd Tryz.prog f k) : TabOk Gd Tryz.prog T := by
  refine ⟨hg, fun f hfn h => ?_⟩
  unfold T at h
  rcases bif2_or h with ⟨_, h⟩ | ⟨_, h⟩
  · rcases bif2_or h with ⟨_, h⟩ | ⟨_, h⟩
    · rcases bif2_or h with ⟨_, h⟩ | ⟨_, h⟩
      · rcases bif2_or h with ⟨_, h⟩ | ⟨_, h⟩
        · rcases bif2_or h with ⟨_, h⟩ | ⟨_, h⟩
          · rcases bif2_or h with ⟨_, h⟩ | ⟨_, h⟩
            · obtain ⟨hb, h⟩ := bif2_some h
              rw [Nat.eq_of_beq_eq_true hb]
              exact .inl (inl_of (fun k hk => by cases hk) h)
            · obtain ⟨hb, h⟩ := bif2_some h
              rw [Nat.eq_of_beq_eq_true hb]
              exact .inl (inl_of (fun k hk => by cases hk) h)
          · rcases bif2_or h with ⟨_, h⟩ | ⟨_, h⟩
            · obtain ⟨hb, h⟩ := bif2_some h
              rw [Nat.eq_of_beq_eq_true hb]
              exact .inl (inl_of (fun k hk => by cases hk) h)
            · rcases bif2_or h with ⟨_, h⟩ | ⟨_, h⟩
              · obtain ⟨hb, h⟩ := bif2_some h
                rw [Nat.eq_of_beq_eq_true hb]
                exact .inl (inl_of (fun k hk => by cases hk) h)
              · obtain ⟨hb, h⟩ := bif2_some h
                rw [Nat.eq_of_beq_eq_true hb]
                exact .inl (inl_of (fun k hk => by cases hk) h)
        · rcases bif2_or h with ⟨_, h⟩ | ⟨_, h⟩
          · rcases bif2_or h with ⟨_, h⟩ | ⟨_, h⟩
            · obtain ⟨hb, h⟩ := bif2_some h
              rw [Nat.eq_of_beq_eq_true hb]
              exact .inl (inl_of (fun k hk => by cases hk) h)
            · obtain ⟨hb, h⟩ := bif2_some h
              rw [Nat.eq_of_beq_eq_true hb]
              exact .inl (inl_of (fun k hk => by cases hk) h)
          · rcases bif2_or h with ⟨_, h⟩ | ⟨_, h⟩
            · obtain ⟨hb, h⟩ := bif2_some h
              rw [Nat.eq_of_beq_eq_true hb]
              exact .inl (inl_of (fun k hk => by cases hk) h)
            · rcases bif2_or h with ⟨_, h⟩ | ⟨_, h⟩
              · obtain ⟨hb, h⟩ := bif2_some h
                rw [Nat.eq_of_beq_eq_true hb]
                exact .inl (inl_of (fun k hk => by cases hk) h)
              · obtain ⟨hb, h⟩ := bif2_some h
                rw [Nat.eq_of_beq_eq_true hb]
                exact .inl (inl_of (fun k hk => by cases hk) h)
      · rcases bif2_or h with ⟨_, h⟩ | ⟨_, h⟩
        · rcases bif2_or h with ⟨_, h⟩ | ⟨_, h⟩
          · rcases bif2_or h with ⟨_, h⟩ | ⟨_, h⟩
            · obtain ⟨hb, h⟩ := bif2_some h
              rw [Nat.eq_of_beq_eq_true hb]
              exact .inl (inl_of (fun k hk => by cases hk) h)
            · obtain ⟨hb, h⟩ := bif2_some h
              rw [Nat.eq_of_beq_eq_true hb]
              exact .inl (inl_of (fun k hk => by cases hk) h)
          · rcases bif2_or h with ⟨_, h⟩ | ⟨_, h⟩
            · obtain ⟨hb, h⟩ := bif2_some h
              rw [Nat.eq_of_beq_eq_true hb]
              exact .inl (inl_of (fun k hk => by cases hk) h)
            · rcases bif2_or h with ⟨_, h⟩ | ⟨_, h⟩
              · obtain ⟨hb, h⟩ := bif2_some h
                rw [Nat.eq_of_beq_eq_true hb]
                exact .inl (inl_of (fun k hk => by cases hk) h)
              · obtain ⟨hb, h⟩ := bif2_some h
                rw [Nat.eq_of_beq_eq_true hb]
                exact .inl (inl_of (fun k hk => by cases hk) h)
        · rcases bif2_or h with ⟨_, h⟩ | ⟨_, h⟩
          · rcases bif2_or h with ⟨_, h⟩ | ⟨_, h⟩
            · obtain ⟨hb, h⟩ := bif2_some h
              rw [Nat.eq_of_beq_eq_true hb]
              exact .inl (inl_of (fun k hk => by cases hk) h)
            · obtain ⟨hb, h⟩ := bif2_some h
              rw [Nat.eq_of_beq_eq_true hb]
              exact .inl (inl_of (fun k hk => by cases hk) h)
          · rcases bif2_or h with ⟨_, h⟩ | ⟨_, h⟩
            · obtain ⟨hb, h⟩ := bif2_some h
              rw [Nat.eq_of_beq_eq_true hb]
              exact .inl (inl_of (fun k hk => by cases hk) h)
            · rcases bif2_or h with ⟨_, h⟩ | ⟨_, h⟩
              · obtain ⟨hb, h⟩ := bif2_some h
                rw [Nat.eq_of_beq_eq_true hb]
                exact .inl (inl_of (fun k hk => by cases hk) h)
              · obtain ⟨hb, h⟩ := bif2_some h
                rw [Nat.eq_of_beq_eq_true hb]
                exact .inl (inl_of (fun k hk => by cases hk) h)
    · rcases bif2_or h with ⟨_, h⟩ | ⟨_, h⟩
      · rcases bif2_or h with ⟨_, h⟩ | ⟨_, h⟩
        · rcases bif2_or h with ⟨_, h⟩ | ⟨_, h⟩
          · rcases bif2_or h with ⟨_, h⟩ | ⟨_, h⟩
            · obtain ⟨hb, h⟩ := bif2_some h
              rw [Nat.eq_of_beq_eq_true hb]
              exact .inl (inl_of (fun k hk => by cases hk) h)
            · obtain ⟨hb, h⟩ := bif2_some h
              rw [Nat.eq_of_beq_eq_true hb]
              cases h
              exact .inr ⟨104, rfl, he 53 _ _ rfl⟩
          · rcases bif2_or h with ⟨_, h⟩ | ⟨_, h⟩
            · obtain ⟨hb, h⟩ := bif2_some h
              rw [Nat.eq_of_beq_eq_true hb]
              exact .inl (inl_of (fun k hk => by cases hk) h)
            · rcases bif2_or h with ⟨_, h⟩ | ⟨_, h⟩
              · obtain ⟨hb, h⟩ := bif2_some h
                rw [Nat.eq_of_beq_eq_true hb]
                exact .inl (inl_of (fun k hk => by cases hk) h)
              · obtain ⟨hb, h⟩ := bif2_some h
                rw [Nat.eq_of_beq_eq_true hb]
                exact .inl (inl_of (fun k hk => by cases hk) h)
        · rcases bif2_or h with ⟨_, h⟩ | ⟨_, h⟩
          · rcases bif2_or h with ⟨_, h⟩ | ⟨_, h⟩
            · obtain ⟨hb, h⟩ := bif2_some h
              rw [Nat.eq_of_beq_eq_true hb]
              exact .inl (inl_of (fun k hk => by cases hk) h)
            · obtain ⟨hb, h⟩ := bif2_some h
              rw [Nat.eq_of_beq_eq_true hb]
              exact .inl (inl_of (fun k hk => by cases hk) h)
          · rcases bif2_or h with ⟨_, h⟩ | ⟨_, h⟩
            · obtain ⟨hb, h⟩ := bif2_some h
              rw [Nat.eq_of_beq_eq_true hb]
              exact .inl (inl_of (fun k hk => by cases hk) h)
            · rcases bif2_or h with ⟨_, h⟩ | ⟨_, h⟩
              · obtain ⟨hb, h⟩ := bif2_some h
                rw [Nat.eq_of_beq_eq_true hb]
                exact .inl (inl_of (fun k hk => by cases hk) h)
              · obtain ⟨hb, h⟩ := bif2_some h
                rw [Nat.eq_of_beq_eq_true hb]
                exact .inl (inl_of (fun k hk => by cases hk) h)
      · rcases bif2_or h with ⟨_, h⟩ | ⟨_, h⟩
        · rcases bif2_or h with ⟨_, h⟩ | ⟨_, h⟩
          · rcases bif2_or h with ⟨_, h⟩ | ⟨_, h⟩
            · obtain ⟨hb, h⟩ := bif2_some h
              rw [Nat.eq_of_beq_eq_true hb]
              exact .inl (inl_of (fun k hk => by cases hk) h)
            · obtain ⟨hb, h⟩ := bif2_some h
              rw [Nat.eq_of_beq_eq_true hb]
              exact .inl (inl_of (fun k hk => by cases hk) h)
          · rcases bif2_or h with ⟨_, h⟩ | ⟨_, h⟩
            · obtain ⟨hb, h⟩ := bif2_some h
              rw [Nat.eq_of_beq_eq_true hb]
              exact .inl (inl_of (fun k hk => by cases hk) h)
            · rcases bif2_or h with ⟨_, h⟩ | ⟨_, h⟩
              · obtain ⟨hb, h⟩ := bif2_some h
                rw [Nat.eq_of_beq_eq_true hb]
                exact .inl (inl_of (fun k hk => by cases hk) h)
              · obtain ⟨hb, h⟩ := bif2_some h
                rw [Nat.eq_of_beq_eq_true hb]
                exact .inl (inl_of (fun k hk => by cases hk) h)
        · rcases bif2_or h with ⟨_, h⟩ | ⟨_, h⟩
          · rcases bif2_or h with ⟨_, h⟩ | ⟨_, h⟩
            · obtain ⟨hb, h⟩ := bif2_some h
              rw [Nat.eq_of_beq_eq_true hb]
              exact .inl (inl_of (fun k hk => by cases hk) h)
            · rcases bif2_or h with ⟨_, h⟩ | ⟨_, h⟩
              · obtain ⟨hb, h⟩ := bif2_some h
                rw [Nat.eq_of_beq_eq_true hb]
                exact .inl (inl_of (fun k hk => by cases hk) h)
              · obtain ⟨hb, h⟩ := bif2_some h
                rw [Nat.eq_of_beq_eq_true hb]
                exact .inl (inl_of (fun k hk => by cases hk) h)
          · rcases bif2_or h with ⟨_, h⟩ | ⟨_, h⟩
            · obtain ⟨hb, h⟩ := bif2_some h
              rw [Nat.eq_of_beq_eq_true hb]
              exact .inl (inl_of (fun k hk => by cases hk) h)
            · rcases bif2_or h with ⟨_, h⟩ | ⟨_, h⟩
              · obtain ⟨hb, h⟩ := bif2_some h
                rw [Nat.eq_of_beq_eq_true hb]
                exact .inl (inl_of (fun k hk => by cases hk) h)
              · obtain ⟨hb, h⟩ := bif2_some h
                rw [Nat.eq_of_beq_eq_true hb]
                exact .inl (inl_of (fun k hk => by cases hk) h)
  · rcases bif2_or h with ⟨_, h⟩ | ⟨_, h⟩
    · rcases bif2_or h with ⟨_, h⟩ | ⟨_, h⟩
      · rcases bif2_or h with ⟨_, h⟩ | ⟨_, h⟩
        · rcases bif2_or h with ⟨_, h⟩ | ⟨_, h⟩
          · rcases bif2_or h with ⟨_, h⟩ | ⟨_, h⟩
            · obtain ⟨hb, h⟩ := bif2_some h
              rw [Nat.eq_of_beq_eq_true hb]
              exact .inl (inl_of (fun k hk => by cases hk) h)
            · obtain ⟨hb, h⟩ := bif2_some h
              rw [Nat.eq_of_beq_eq_true hb]
              exact .inl (inl_of (fun k hk => by cases hk) h)
          · rcases bif2_or h with ⟨_, h⟩ | ⟨_, h⟩
            · obtain ⟨hb, h⟩ := bif2_some h
              rw [Nat.eq_of_beq_eq_true hb]
              exact .inl (inl_of (fun k hk => by cases hk) h)
            · rcases bif2_or h with ⟨_, h⟩ | ⟨_, h⟩
              · obtain ⟨hb, h⟩ := bif2_some h
                rw [Nat.eq_of_beq_eq_true hb]
                exact .inl (inl_of (fun k hk => by cases hk) h)
              · obtain ⟨hb, h⟩ := bif2_some h
                rw [Nat.eq_of_beq_eq_true hb]
                exact .inl (inl_of (fun k hk => by cases hk) h)
        · rcases bif2_or h with ⟨_, h⟩ | ⟨_, h⟩
          · rcases bif2_or h with ⟨_, h⟩ | ⟨_, h⟩
            · obtain ⟨hb, h⟩ := bif2_some h
              rw [Nat.eq_of_beq_eq_true hb]
              cases h
              exact .inr ⟨11, rfl, he 105 _ _ rfl⟩
            · obtain ⟨hb, h⟩ := bif2_some h
              rw [Nat.eq_of_beq_eq_true hb]
              cases h
              exact .inr ⟨12, rfl, he 106 _ _ rfl⟩
          · rcases bif2_or h with ⟨_, h⟩ | ⟨_, h⟩
            · obtain ⟨hb, h⟩ := bif2_some h
              rw [Nat.eq_of_beq_eq_true hb]
              exact .inl (inl_of (fun k hk => by cases hk) h)
            · rcases bif2_or h with ⟨_, h⟩ | ⟨_, h⟩
              · obtain ⟨hb, h⟩ := bif2_some h
                rw [Nat.eq_of_beq_eq_true hb]
                exact .inl (inl_of (fun k hk => by cases hk) h)
              · obtain ⟨hb, h⟩ := bif2_some h
                rw [Nat.eq_of_beq_eq_true hb]
                exact .inl (inl_of (fun k hk => by cases hk) h)
      · rcases bif2_or h with ⟨_, h⟩ | ⟨_, h⟩
        · rcases bif2_or h with ⟨_, h⟩ | ⟨_, h⟩
          · rcases bif2_or h with ⟨_, h⟩ | ⟨_, h⟩
            · obtain ⟨hb, h⟩ := bif2_some h
              rw [Nat.eq_of_beq_eq_true hb]
              exact .inl (inl_of (fun k hk => by cases hk) h)
            · obtain ⟨hb, h⟩ := bif2_some h
              rw [Nat.eq_of_beq_eq_true hb]
              exact .inl (inl_of (fun k hk => by cases hk) h)
          · rcases bif2_or h with ⟨_, h⟩ | ⟨_, h⟩
            · obtain ⟨hb, h⟩ := bif2_some h
              rw [Nat.eq_of_beq_eq_true hb]
              exact .inl (inl_of (fun k hk => by cases hk) h)
            · rcases bif2_or h with ⟨_, h⟩ | ⟨_, h⟩
              · obtain ⟨hb, h⟩ := bif2_some h
                rw [Nat.eq_of_beq_eq_true hb]
                cases h
                exact .inr ⟨15, rfl, he 113 _ _ rfl⟩
              · obtain ⟨hb, h⟩ := bif2_some h
                rw [Nat.eq_of_beq_eq_true hb]
                cases h
                exact .inr ⟨10, rfl, he 114 _ _ rfl⟩
        · rcases bif2_or h with ⟨_, h⟩ | ⟨_, h⟩
          · rcases bif2_or h with ⟨_, h⟩ | ⟨_, h⟩
            · obtain ⟨hb, h⟩ := bif2_some h
              rw [Nat.eq_of_beq_eq_true hb]
              cases h
              exact .inr ⟨0, rfl, he 115 _ _ rfl⟩
            · obtain ⟨hb, h⟩ := bif2_some h
              rw [Nat.eq_of_beq_eq_true hb]
              exact .inl (inl_of (fun k hk => by cases hk) h)
          · rcases bif2_or h with ⟨_, h⟩ | ⟨_, h⟩
            · obtain ⟨hb, h⟩ := bif2_some h
              rw [Nat.eq_of_beq_eq_true hb]
              exact .inl (inl_of (fun k hk => by cases hk) h)
            · rcases bif2_or h with ⟨_, h⟩ | ⟨_, h⟩
              · obtain ⟨hb, h⟩ := bif2_some h
                rw [Nat.eq_of_beq_eq_true hb]
                exact .inl (inl_of (fun k hk => by cases hk) h)
              · obtain ⟨hb, h⟩ := bif2_some h
                rw [Nat.eq_of_beq_eq_true hb]
                exact .inl (inl_of (fun k hk => by cases hk) h)
    · rcases bif2_or h with ⟨_, h⟩ | ⟨_, h⟩
      · rcases bif2_or h with ⟨_, h⟩ | ⟨_, h⟩
        · rcases bif2_or h with ⟨_, h⟩ | ⟨_, h⟩
          · rcases bif2_or h with ⟨_, h⟩ | ⟨_, h⟩
            · obtain ⟨hb, h⟩ := bif2_some h
              rw [Nat.eq_of_beq_eq_true hb]
              exact .inl (inl_of (fun k hk => by cases hk) h)
            · obtain ⟨hb, h⟩ := bif2_some h
              rw [Nat.eq_of_beq_eq_true hb]
              exact .inl (inl_of (fun k hk => by cases hk) h)
          · rcases bif2_or h with ⟨_, h⟩ | ⟨_, h⟩
            · obtain ⟨hb, h⟩ := bif2_some h
              rw [Nat.eq_of_beq_eq_true hb]
              exact .inl (inl_of (fun k hk => by cases hk) h)
            · rcases bif2_or h with ⟨_, h⟩ | ⟨_, h⟩
              · obtain ⟨hb, h⟩ := bif2_some h
                rw [Nat.eq_of_beq_eq_true hb]
                exact .inl (inl_of (fun k hk => by cases hk) h)
              · obtain ⟨hb, h⟩ := bif2_some h
                rw [Nat.eq_of_beq_eq_true hb]
                exact .inl (inl_of (fun k hk => by cases hk) h)
        · rcases bif2_or h with ⟨_, h⟩ | ⟨_, h⟩
          · rcases bif2_or h with ⟨_, h⟩ | ⟨_, h⟩
            · obtain ⟨hb, h⟩ := bif2_some h
              rw [Nat.eq_of_beq_eq_true hb]
              exact .inl (inl_of (fun k hk => by cases hk) h)
            · obtain ⟨hb, h⟩ := bif2_some h
              rw [Nat.eq_of_beq_eq_true hb]
              exact .inl (inl_of (fun k hk => by cases hk) h)
          · rcases bif2_or h with ⟨_, h⟩ | ⟨_, h⟩
            · obtain ⟨hb, h⟩ := bif2_some h
              rw [Nat.eq_of_beq_eq_true hb]
              exact .inl (inl_of (fun k hk => by cases hk) h)
            · rcases bif2_or h with ⟨_, h⟩ | ⟨_, h⟩
              · obtain ⟨hb, h⟩ := bif2_some h
                rw [Nat.eq_of_beq_eq_true hb]
                exact .inl (inl_of (fun k hk => by cases hk) h)
              · obtain ⟨hb, h⟩ := bif2_some h
                rw [Nat.eq_of_beq_eq_true hb]
                exact .inl (inl_of (fun k hk => by cases hk) h)
      · rcases bif2_or h with ⟨_, h⟩ | ⟨_, h⟩
        · rcases bif2_or h with ⟨_, h⟩ | ⟨_, h⟩
          · rcases bif2_or h with ⟨_, h⟩ | ⟨_, h⟩
            · obtain ⟨hb, h⟩ := bif2_some h
              rw [Nat.eq_of_beq_eq_true hb]
              exact .inl (inl_of (fun k hk => by cases hk) h)
            · obtain ⟨hb, h⟩ := bif2_some h
              rw [Nat.eq_of_beq_eq_true hb]
              exact .inl (inl_of (fun k hk => by cases hk) h)
          · rcases bif2_or h with ⟨_, h⟩ | ⟨_, h⟩
            · obtain ⟨hb, h⟩ := bif2_some h
              rw [Nat.eq_of_beq_eq_true hb]
              exact .inl (inl_of (fun k hk => by cases hk) h)
            · rcases bif2_or h with ⟨_, h⟩ | ⟨_, h⟩
              · obtain ⟨hb, h⟩ := bif2_some h
                rw [Nat.eq_of_beq_eq_true hb]
                exact .inl (inl_of (fun k hk => by cases hk) h)
              · obtain ⟨hb, h⟩ := bif2_some h
                rw [Nat.eq_of_beq_eq_true hb]
                exact .inl (inl_of (fun k hk => by cases hk) h)
        · rcases bif2_or h with ⟨_, h⟩ | ⟨_, h⟩
          · rcases bif2_or h with ⟨_, h⟩ | ⟨_, h⟩
            · obtain ⟨hb, h⟩ := bif2_some h
              rw [Nat.eq_of_beq_eq_true hb]
              cases h
              exact .inr ⟨16, rfl, he 157 _ _ rfl⟩
            · rcases bif2_or h with ⟨_, h⟩ | ⟨_, h⟩
              · obtain ⟨hb, h⟩ := bif2_some h
                rw [Nat.eq_of_beq_eq_true hb]
                exact .inl (inl_of (fun k hk => by cases hk) h)
              · obtain ⟨hb, h⟩ := bif2_some h
                rw [Nat.eq_of_beq_eq_true hb]
                exact .inl (inl_of (fun k hk => by cases hk) h)
          · rcases bif2_or h with ⟨_, h⟩ | ⟨_, h⟩
            · obtain ⟨hb, h⟩ := bif2_some h
              rw [Nat.eq_of_beq_eq_true hb]
              exact .inl (inl_of (fun k hk => by cases hk) h)
            · rcases bif2_or h with ⟨_, h⟩ | ⟨_, h⟩
              · obtain ⟨hb, h⟩ := bif2_some h
                rw [Nat.eq_of_beq_eq_true hb]
                exact .inl (inl_of (fun k hk => by cases hk) h)
              · obtain ⟨hb, h⟩ := bif2_some h
                rw [Nat.eq_of_beq_eq_true hb]
                exact .inl (inl_of (fun k hk => by cases hk) h)
noncomputable def DG : DfG := fun g => bif2 (Nat.beq g 53) 6 (bif2 (Nat.beq g 117) 1 (bif2 (Nat.beq g 175) 1 (0)))
theorem shared_of {f : FuncId} {P : Program} {H : Hints} (ht : T f = cFn P H .shared f) (h : (T f).map (fun a => a.dfr.isNone) = some true) : ∃ gn, T f = some gn ∧ gn.mode = .shared ∧ gn.dfr = none := by
  cases hf : T f with
  | none => rw [hf] at h; cases h
  | some a =>
    rw [hf] at h
    refine ⟨a, rfl, cFn_mode (ht.symm.trans hf), ?_⟩
    simpa using h
noncomputable def TG : TabG := tgOf DG 7 T
theorem dgOk : DfGOk T DG := by
  intro g
  by_cases h53 : g = 53
  · subst h53
    have e : DG 53 = 6 := rfl
    rw [e]
    refine ⟨fun h => by omega, fun n h => ?_⟩
    obtain rfl : n = 4 := by omega
    exact ⟨fn53, rfl, rfl, rfl⟩
  by_cases h117 : g = 117
  · subst h117
    have e : DG 117 = 1 := rfl
    rw [e]
    exact ⟨fun _ => shared_of (show T 117 = cFn Tryz.prog (Hs 117) .shared 117 from rfl) (by kernel_rfl), fun n h => by omega⟩
  by_cases h175 : g = 175
  · subst h175
    have e : DG 175 = 1 := rfl
    rw [e]
    exact ⟨fun _ => shared_of (show T 175 = cFn Tryz.prog (Hs 175) .shared 175 from rfl) (by kernel_rfl), fun n h => by omega⟩
  have e : DG g = 0 := by
    unfold DG
    rw [show Nat.beq g 53 = false from by rw [Bool.eq_false_iff]; exact fun hh => h53 (Nat.eq_of_beq_eq_true hh)]
    rw [show Nat.beq g 117 = false from by rw [Bool.eq_false_iff]; exact fun hh => h117 (Nat.eq_of_beq_eq_true hh)]
    rw [show Nat.beq g 175 = false from by rw [Bool.eq_false_iff]; exact fun hh => h175 (Nat.eq_of_beq_eq_true hh)]
    rfl
  rw [e]
  exact ⟨fun h => by omega, fun n h => by omega⟩
def isTrueG : R → Bool
  | some (.tr (.sc (.bool true)), _) => true
  | _ => false
theorem isTrueG_iff {r : R} (h : isTrueG r = true) : ∃ s, r = some (bool true, s) := by
  unfold isTrueG at h
  split at h
  · exact ⟨_, rfl⟩
  · cases h
theorem runs {n f : Nat} (h : isTrueG (callG TG n f [] FS.nil) = true) : ∃ σ, Cl T f [] [] (bool true) σ := by
  obtain ⟨s, hs⟩ := isTrueG_iff h
  obtain ⟨m, σ, h1, _⟩ := callG_isoX dgOk tgOf_ok n _ _ _ _ _ _ hs SRel.nil
  exact ⟨σ, m, h1⟩
end Go.Proofs.YtolhjhjlfgfifaaGreatDoor.AM.Rd0
