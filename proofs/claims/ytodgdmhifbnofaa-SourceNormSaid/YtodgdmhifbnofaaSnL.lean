/- the packages: part L. -/
import Derived.Test.YtodgdmhifbnofaaAm4
import Derived.Test.YtodgdmhifbnofaaProg
import Derived.KernelRfl
set_option maxRecDepth 1000000
set_option linter.unusedVariables false
namespace Go.Proofs.Ytodgdmhifbnofaa.AM.Sb
open Go.Proofs
def Hq (f : Nat) : List Nat :=  []
def Hb (f : Nat) : List Nat := if Nat.beq f 6 then [1] else if Nat.beq f 13 then [2, 3] else if Nat.beq f 16 then [2, 3] else if Nat.beq f 19 then [2, 3] else []
def Hl (f : Nat) : List Nat := if Nat.beq f 19 then [6, 8, 11, 13, 16, 18] else []
def Ho (f d : Nat) : Bool := if Nat.beq f 5 then true else if Nat.beq f 6 then memN d [69] else false
def Hs (f : Nat) : Hints := { own := fun d => Ho f d, qa := fun d => memN d (Hq f), tu := fun _ => true, bt := fun d => memN d (Hb f), ld := fun d => memN d (Hl f) }
def Te (f : Nat) : Option (Nat × Nat) := if Nat.beq f 14 then some (2, 4) else if Nat.beq f 33 then some (2, 5) else if Nat.beq f 24 then some (2, 0) else none
def fn14 : HFn := { nargs := 2, code := .bad, results := [], mode := .ext 4 }
def fn33 : HFn := { nargs := 2, code := .bad, results := [], mode := .ext 5 }
def fn24 : HFn := { nargs := 2, code := .bad, results := [], mode := .ext 0 }
noncomputable def T : FTab := fun f => (bif2 (Nat.ble f 32) (bif2 (Nat.ble f 18) (bif2 (Nat.ble f 11) (bif2 (Nat.ble f 7) (bif2 (Nat.ble f 5) (bif2 (Nat.beq f 5) (cFn Try.prog (Hs 5) .shared 5) none) (bif2 (Nat.ble f 6) (bif2 (Nat.beq f 6) (cFn Try.prog (Hs 6) .shared 6) none) (bif2 (Nat.beq f 7) (cFn Try.prog (Hs 7) .shared 7) none))) (bif2 (Nat.ble f 9) (bif2 (Nat.beq f 9) (cFn Try.prog (Hs 9) .shared 9) none) (bif2 (Nat.ble f 10) (bif2 (Nat.beq f 10) (cFn Try.prog (Hs 10) .shared 10) none) (bif2 (Nat.beq f 11) (cFn Try.prog (Hs 11) .shared 11) none)))) (bif2 (Nat.ble f 14) (bif2 (Nat.ble f 12) (bif2 (Nat.beq f 12) (cFn Try.prog (Hs 12) .shared 12) none) (bif2 (Nat.ble f 13) (bif2 (Nat.beq f 13) (cFn Try.prog (Hs 13) .shared 13) none) (bif2 (Nat.beq f 14) (some fn14) none))) (bif2 (Nat.ble f 16) (bif2 (Nat.ble f 15) (bif2 (Nat.beq f 15) (cFn Try.prog (Hs 15) .shared 15) none) (bif2 (Nat.beq f 16) (cFn Try.prog (Hs 16) .shared 16) none)) (bif2 (Nat.ble f 17) (bif2 (Nat.beq f 17) (cFn Try.prog (Hs 17) .shared 17) none) (bif2 (Nat.beq f 18) (cFn Try.prog (Hs 18) .shared 18) none))))) (bif2 (Nat.ble f 24) (bif2 (Nat.ble f 21) (bif2 (Nat.ble f 19) (bif2 (Nat.beq f 19) (cFn Try.prog (Hs 19) .shared 19) none) (bif2 (Nat.ble f 20) (bif2 (Nat.beq f 20) (cFn Try.prog (Hs 20) .shared 20) none) (bif2 (Nat.beq f 21) (cFn Try.prog (Hs 21) .shared 21) none))) (bif2 (Nat.ble f 22) (bif2 (Nat.beq f 22) (cFn Try.prog (Hs 22) .shared 22) none) (bif2 (Nat.ble f 23) (bif2 (Nat.beq f 23) (cFn Try.prog (Hs 23) .shared 23) none) (bif2 (Nat.beq f 24) (some fn24) none)))) (bif2 (Nat.ble f 28) (bif2 (Nat.ble f 25) (bif2 (Nat.beq f 25) (cFn Try.prog (Hs 25) .shared 25) none) (bif2 (Nat.ble f 27) (bif2 (Nat.beq f 27) (cFn Try.prog (Hs 27) .shared 27) none) (bif2 (Nat.beq f 28) (cFn Try.prog (Hs 28) .shared 28) none))) (bif2 (Nat.ble f 30) (bif2 (Nat.ble f 29) (bif2 (Nat.beq f 29) (cFn Try.prog (Hs 29) .shared 29) none) (bif2 (Nat.beq f 30) (cFn Try.prog (Hs 30) .shared 30) none)) (bif2 (Nat.ble f 31) (bif2 (Nat.beq f 31) (cFn Try.prog (Hs 31) .shared 31) none) (bif2 (Nat.beq f 32) (cFn Try.prog (Hs 32) .shared 32) none)))))) (bif2 (Nat.ble f 48) (bif2 (Nat.ble f 41) (bif2 (Nat.ble f 37) (bif2 (Nat.ble f 33) (bif2 (Nat.beq f 33) (some fn33) none) (bif2 (Nat.ble f 35) (bif2 (Nat.beq f 35) (cFn Try.prog (Hs 35) .shared 35) none) (bif2 (Nat.beq f 37) (cFn Try.prog (Hs 37) .shared 37) none))) (bif2 (Nat.ble f 38) (bif2 (Nat.beq f 38) (cFn Try.prog (Hs 38) .shared 38) none) (bif2 (Nat.ble f 40) (bif2 (Nat.beq f 40) (cFn Try.prog (Hs 40) .shared 40) none) (bif2 (Nat.beq f 41) (cFn Try.prog (Hs 41) .shared 41) none)))) (bif2 (Nat.ble f 44) (bif2 (Nat.ble f 42) (bif2 (Nat.beq f 42) (cFn Try.prog (Hs 42) .shared 42) none) (bif2 (Nat.ble f 43) (bif2 (Nat.beq f 43) (cFn Try.prog (Hs 43) .shared 43) none) (bif2 (Nat.beq f 44) (cFn Try.prog (Hs 44) .shared 44) none))) (bif2 (Nat.ble f 46) (bif2 (Nat.ble f 45) (bif2 (Nat.beq f 45) (cFn Try.prog (Hs 45) .shared 45) none) (bif2 (Nat.beq f 46) (cFn Try.prog (Hs 46) .shared 46) none)) (bif2 (Nat.ble f 47) (bif2 (Nat.beq f 47) (cFn Try.prog (Hs 47) .shared 47) none) (bif2 (Nat.beq f 48) (cFn Try.prog (Hs 48) .shared 48) none))))) (bif2 (Nat.ble f 62) (bif2 (Nat.ble f 51) (bif2 (Nat.ble f 49) (bif2 (Nat.beq f 49) (cFn Try.prog (Hs 49) .shared 49) none) (bif2 (Nat.ble f 50) (bif2 (Nat.beq f 50) (cFn Try.prog (Hs 50) .shared 50) none) (bif2 (Nat.beq f 51) (cFn Try.prog (Hs 51) .shared 51) none))) (bif2 (Nat.ble f 60) (bif2 (Nat.ble f 52) (bif2 (Nat.beq f 52) (cFn Try.prog (Hs 52) .shared 52) none) (bif2 (Nat.beq f 60) (cFn Try.prog (Hs 60) .shared 60) none)) (bif2 (Nat.ble f 61) (bif2 (Nat.beq f 61) (cFn Try.prog (Hs 61) .shared 61) none) (bif2 (Nat.beq f 62) (cFn Try.prog (Hs 62) .shared 62) none)))) (bif2 (Nat.ble f 65) (bif2 (Nat.ble f 63) (bif2 (Nat.beq f 63) (cFn Try.prog (Hs 63) .shared 63) none) (bif2 (Nat.ble f 64) (bif2 (Nat.beq f 64) (cFn Try.prog (Hs 64) .shared 64) none) (bif2 (Nat.beq f 65) (cFn Try.prog (Hs 65) .shared 65) none))) (bif2 (Nat.ble f 72) (bif2 (Nat.ble f 66) (bif2 (Nat.beq f 66) (cFn Try.prog (Hs 66) .shared 66) none) (bif2 (Nat.beq f 72) (cFn Try.prog (Hs 72) .shared 72) none)) (bif2 (Nat.ble f 73) (bif2 (Nat.beq f 73) (cFn Try.prog (Hs 73) .shared 73) none) (bif2 (Nat.beq f 74) (cFn Try.prog (Hs 74) .shared 74) none)))))))
theorem cFn_mode {P : Program} {H : Hints} {m : Mode} {f : FuncId} {h : HFn} (e : cFn P H m f = some h) : h.mode = m := by
  unfold cFn at e
  split at e
  · cases e
  · split at e
    · split at e
      · cases e
      · split at e <;> (cases e; rfl)
    · cases e
theorem inl_of {P : Program} {H : Hints} {m : Mode} {f : FuncId} {h : HFn} (hm : ∀ k, m ≠ .ext k) (e : cFn P H m f = some h) : (∀ k, h.mode ≠ .ext k) ∧ ∃ H, cFn P H h.mode f = some h := by
  have := cFn_mode e
  rw [this]
  exact ⟨hm, H, e⟩
theorem tabOk {Gd : Ground} (hg : GroundOk Gd) (he : ∀ f n k, Te f = some (n, k) → ExtOk Gd Try.prog f k) : TabOk Gd Try.prog T := by
  refine ⟨hg, fun f hfn h => ?_⟩
  unfold T at h
  rcases bif2_or h with ⟨_, h⟩ | ⟨_, h⟩
  · rcases bif2_or h with ⟨_, h⟩ | ⟨_, h⟩
    · rcases bif2_or h with ⟨_, h⟩ | ⟨_, h⟩
      · rcases bif2_or h with ⟨_, h⟩ | ⟨_, h⟩
        · rcases bif2_or h with ⟨_, h⟩ | ⟨_, h⟩
          · obtain ⟨hb, h⟩ := bif2_some h
            rw [Nat.eq_of_beq_eq_true hb]
            exact .inl (inl_of (fun k hk => by cases hk) h)
          · rcases bif2_or h with ⟨_, h⟩ | ⟨_, h⟩
            · obtain ⟨hb, h⟩ := bif2_some h
              rw [Nat.eq_of_beq_eq_true hb]
              exact .inl (inl_of (fun k hk => by cases hk) h)
            · obtain ⟨hb, h⟩ := bif2_some h
              rw [Nat.eq_of_beq_eq_true hb]
              exact .inl (inl_of (fun k hk => by cases hk) h)
        · rcases bif2_or h with ⟨_, h⟩ | ⟨_, h⟩
          · obtain ⟨hb, h⟩ := bif2_some h
            rw [Nat.eq_of_beq_eq_true hb]
            exact .inl (inl_of (fun k hk => by cases hk) h)
          · rcases bif2_or h with ⟨_, h⟩ | ⟨_, h⟩
            · obtain ⟨hb, h⟩ := bif2_some h
              rw [Nat.eq_of_beq_eq_true hb]
              exact .inl (inl_of (fun k hk => by cases hk) h)
            · obtain ⟨hb, h⟩ := bif2_some h
              rw [Nat.eq_of_beq_eq_true hb]
              exact .inl (inl_of (fun k hk => by cases hk) h)
      · rcases bif2_or h with ⟨_, h⟩ | ⟨_, h⟩
        · rcases bif2_or h with ⟨_, h⟩ | ⟨_, h⟩
          · obtain ⟨hb, h⟩ := bif2_some h
            rw [Nat.eq_of_beq_eq_true hb]
            exact .inl (inl_of (fun k hk => by cases hk) h)
          · rcases bif2_or h with ⟨_, h⟩ | ⟨_, h⟩
            · obtain ⟨hb, h⟩ := bif2_some h
              rw [Nat.eq_of_beq_eq_true hb]
              exact .inl (inl_of (fun k hk => by cases hk) h)
            · obtain ⟨hb, h⟩ := bif2_some h
              rw [Nat.eq_of_beq_eq_true hb]
              cases h
              exact .inr ⟨4, rfl, he 14 _ _ rfl⟩
        · rcases bif2_or h with ⟨_, h⟩ | ⟨_, h⟩
          · rcases bif2_or h with ⟨_, h⟩ | ⟨_, h⟩
            · obtain ⟨hb, h⟩ := bif2_some h
              rw [Nat.eq_of_beq_eq_true hb]
              exact .inl (inl_of (fun k hk => by cases hk) h)
            · obtain ⟨hb, h⟩ := bif2_some h
              rw [Nat.eq_of_beq_eq_true hb]
              exact .inl (inl_of (fun k hk => by cases hk) h)
          · rcases bif2_or h with ⟨_, h⟩ | ⟨_, h⟩
            · obtain ⟨hb, h⟩ := bif2_some h
              rw [Nat.eq_of_beq_eq_true hb]
              exact .inl (inl_of (fun k hk => by cases hk) h)
            · obtain ⟨hb, h⟩ := bif2_some h
              rw [Nat.eq_of_beq_eq_true hb]
              exact .inl (inl_of (fun k hk => by cases hk) h)
    · rcases bif2_or h with ⟨_, h⟩ | ⟨_, h⟩
      · rcases bif2_or h with ⟨_, h⟩ | ⟨_, h⟩
        · rcases bif2_or h with ⟨_, h⟩ | ⟨_, h⟩
          · obtain ⟨hb, h⟩ := bif2_some h
            rw [Nat.eq_of_beq_eq_true hb]
            exact .inl (inl_of (fun k hk => by cases hk) h)
          · rcases bif2_or h with ⟨_, h⟩ | ⟨_, h⟩
            · obtain ⟨hb, h⟩ := bif2_some h
              rw [Nat.eq_of_beq_eq_true hb]
              exact .inl (inl_of (fun k hk => by cases hk) h)
            · obtain ⟨hb, h⟩ := bif2_some h
              rw [Nat.eq_of_beq_eq_true hb]
              exact .inl (inl_of (fun k hk => by cases hk) h)
        · rcases bif2_or h with ⟨_, h⟩ | ⟨_, h⟩
          · obtain ⟨hb, h⟩ := bif2_some h
            rw [Nat.eq_of_beq_eq_true hb]
            exact .inl (inl_of (fun k hk => by cases hk) h)
          · rcases bif2_or h with ⟨_, h⟩ | ⟨_, h⟩
            · obtain ⟨hb, h⟩ := bif2_some h
              rw [Nat.eq_of_beq_eq_true hb]
              exact .inl (inl_of (fun k hk => by cases hk) h)
            · obtain ⟨hb, h⟩ := bif2_some h
              rw [Nat.eq_of_beq_eq_true hb]
              cases h
              exact .inr ⟨0, rfl, he 24 _ _ rfl⟩
      · rcases bif2_or h with ⟨_, h⟩ | ⟨_, h⟩
        · rcases bif2_or h with ⟨_, h⟩ | ⟨_, h⟩
          · obtain ⟨hb, h⟩ := bif2_some h
            rw [Nat.eq_of_beq_eq_true hb]
            exact .inl (inl_of (fun k hk => by cases hk) h)
          · rcases bif2_or h with ⟨_, h⟩ | ⟨_, h⟩
            · obtain ⟨hb, h⟩ := bif2_some h
              rw [Nat.eq_of_beq_eq_true hb]
              exact .inl (inl_of (fun k hk => by cases hk) h)
            · obtain ⟨hb, h⟩ := bif2_some h
              rw [Nat.eq_of_beq_eq_true hb]
              exact .inl (inl_of (fun k hk => by cases hk) h)
        · rcases bif2_or h with ⟨_, h⟩ | ⟨_, h⟩
          · rcases bif2_or h with ⟨_, h⟩ | ⟨_, h⟩
            · obtain ⟨hb, h⟩ := bif2_some h
              rw [Nat.eq_of_beq_eq_true hb]
              exact .inl (inl_of (fun k hk => by cases hk) h)
            · obtain ⟨hb, h⟩ := bif2_some h
              rw [Nat.eq_of_beq_eq_true hb]
              exact .inl (inl_of (fun k hk => by cases hk) h)
          · rcases bif2_or h with ⟨_, h⟩ | ⟨_, h⟩
            · obtain ⟨hb, h⟩ := bif2_some h
              rw [Nat.eq_of_beq_eq_true hb]
              exact .inl (inl_of (fun k hk => by cases hk) h)
            · obtain ⟨hb, h⟩ := bif2_some h
              rw [Nat.eq_of_beq_eq_true hb]
              exact .inl (inl_of (fun k hk => by cases hk) h)
  · rcases bif2_or h with ⟨_, h⟩ | ⟨_, h⟩
    · rcases bif2_or h with ⟨_, h⟩ | ⟨_, h⟩
      · rcases bif2_or h with ⟨_, h⟩ | ⟨_, h⟩
        · rcases bif2_or h with ⟨_, h⟩ | ⟨_, h⟩
          · obtain ⟨hb, h⟩ := bif2_some h
            rw [Nat.eq_of_beq_eq_true hb]
            cases h
            exact .inr ⟨5, rfl, he 33 _ _ rfl⟩
          · rcases bif2_or h with ⟨_, h⟩ | ⟨_, h⟩
            · obtain ⟨hb, h⟩ := bif2_some h
              rw [Nat.eq_of_beq_eq_true hb]
              exact .inl (inl_of (fun k hk => by cases hk) h)
            · obtain ⟨hb, h⟩ := bif2_some h
              rw [Nat.eq_of_beq_eq_true hb]
              exact .inl (inl_of (fun k hk => by cases hk) h)
        · rcases bif2_or h with ⟨_, h⟩ | ⟨_, h⟩
          · obtain ⟨hb, h⟩ := bif2_some h
            rw [Nat.eq_of_beq_eq_true hb]
            exact .inl (inl_of (fun k hk => by cases hk) h)
          · rcases bif2_or h with ⟨_, h⟩ | ⟨_, h⟩
            · obtain ⟨hb, h⟩ := bif2_some h
              rw [Nat.eq_of_beq_eq_true hb]
              exact .inl (inl_of (fun k hk => by cases hk) h)
            · obtain ⟨hb, h⟩ := bif2_some h
              rw [Nat.eq_of_beq_eq_true hb]
              exact .inl (inl_of (fun k hk => by cases hk) h)
      · rcases bif2_or h with ⟨_, h⟩ | ⟨_, h⟩
        · rcases bif2_or h with ⟨_, h⟩ | ⟨_, h⟩
          · obtain ⟨hb, h⟩ := bif2_some h
            rw [Nat.eq_of_beq_eq_true hb]
            exact .inl (inl_of (fun k hk => by cases hk) h)
          · rcases bif2_or h with ⟨_, h⟩ | ⟨_, h⟩
            · obtain ⟨hb, h⟩ := bif2_some h
              rw [Nat.eq_of_beq_eq_true hb]
              exact .inl (inl_of (fun k hk => by cases hk) h)
            · obtain ⟨hb, h⟩ := bif2_some h
              rw [Nat.eq_of_beq_eq_true hb]
              exact .inl (inl_of (fun k hk => by cases hk) h)
        · rcases bif2_or h with ⟨_, h⟩ | ⟨_, h⟩
          · rcases bif2_or h with ⟨_, h⟩ | ⟨_, h⟩
            · obtain ⟨hb, h⟩ := bif2_some h
              rw [Nat.eq_of_beq_eq_true hb]
              exact .inl (inl_of (fun k hk => by cases hk) h)
            · obtain ⟨hb, h⟩ := bif2_some h
              rw [Nat.eq_of_beq_eq_true hb]
              exact .inl (inl_of (fun k hk => by cases hk) h)
          · rcases bif2_or h with ⟨_, h⟩ | ⟨_, h⟩
            · obtain ⟨hb, h⟩ := bif2_some h
              rw [Nat.eq_of_beq_eq_true hb]
              exact .inl (inl_of (fun k hk => by cases hk) h)
            · obtain ⟨hb, h⟩ := bif2_some h
              rw [Nat.eq_of_beq_eq_true hb]
              exact .inl (inl_of (fun k hk => by cases hk) h)
    · rcases bif2_or h with ⟨_, h⟩ | ⟨_, h⟩
      · rcases bif2_or h with ⟨_, h⟩ | ⟨_, h⟩
        · rcases bif2_or h with ⟨_, h⟩ | ⟨_, h⟩
          · obtain ⟨hb, h⟩ := bif2_some h
            rw [Nat.eq_of_beq_eq_true hb]
            exact .inl (inl_of (fun k hk => by cases hk) h)
          · rcases bif2_or h with ⟨_, h⟩ | ⟨_, h⟩
            · obtain ⟨hb, h⟩ := bif2_some h
              rw [Nat.eq_of_beq_eq_true hb]
              exact .inl (inl_of (fun k hk => by cases hk) h)
            · obtain ⟨hb, h⟩ := bif2_some h
              rw [Nat.eq_of_beq_eq_true hb]
              exact .inl (inl_of (fun k hk => by cases hk) h)
        · rcases bif2_or h with ⟨_, h⟩ | ⟨_, h⟩
          · rcases bif2_or h with ⟨_, h⟩ | ⟨_, h⟩
            · obtain ⟨hb, h⟩ := bif2_some h
              rw [Nat.eq_of_beq_eq_true hb]
              exact .inl (inl_of (fun k hk => by cases hk) h)
            · obtain ⟨hb, h⟩ := bif2_some h
              rw [Nat.eq_of_beq_eq_true hb]
              exact .inl (inl_of (fun k hk => by cases hk) h)
          · rcases bif2_or h with ⟨_, h⟩ | ⟨_, h⟩
            · obtain ⟨hb, h⟩ := bif2_some h
              rw [Nat.eq_of_beq_eq_true hb]
              exact .inl (inl_of (fun k hk => by cases hk) h)
            · obtain ⟨hb, h⟩ := bif2_some h
              rw [Nat.eq_of_beq_eq_true hb]
              exact .inl (inl_of (fun k hk => by cases hk) h)
      · rcases bif2_or h with ⟨_, h⟩ | ⟨_, h⟩
        · rcases bif2_or h with ⟨_, h⟩ | ⟨_, h⟩
          · obtain ⟨hb, h⟩ := bif2_some h
            rw [Nat.eq_of_beq_eq_true hb]
            exact .inl (inl_of (fun k hk => by cases hk) h)
          · rcases bif2_or h with ⟨_, h⟩ | ⟨_, h⟩
            · obtain ⟨hb, h⟩ := bif2_some h
              rw [Nat.eq_of_beq_eq_true hb]
              exact .inl (inl_of (fun k hk => by cases hk) h)
            · obtain ⟨hb, h⟩ := bif2_some h
              rw [Nat.eq_of_beq_eq_true hb]
              exact .inl (inl_of (fun k hk => by cases hk) h)
        · rcases bif2_or h with ⟨_, h⟩ | ⟨_, h⟩
          · rcases bif2_or h with ⟨_, h⟩ | ⟨_, h⟩
            · obtain ⟨hb, h⟩ := bif2_some h
              rw [Nat.eq_of_beq_eq_true hb]
              exact .inl (inl_of (fun k hk => by cases hk) h)
            · obtain ⟨hb, h⟩ := bif2_some h
              rw [Nat.eq_of_beq_eq_true hb]
              exact .inl (inl_of (fun k hk => by cases hk) h)
          · rcases bif2_or h with ⟨_, h⟩ | ⟨_, h⟩
            · obtain ⟨hb, h⟩ := bif2_some h
              rw [Nat.eq_of_beq_eq_true hb]
              exact .inl (inl_of (fun k hk => by cases hk) h)
            · obtain ⟨hb, h⟩ := bif2_some h
              rw [Nat.eq_of_beq_eq_true hb]
              exact .inl (inl_of (fun k hk => by cases hk) h)
end Go.Proofs.Ytodgdmhifbnofaa.AM.Sb
