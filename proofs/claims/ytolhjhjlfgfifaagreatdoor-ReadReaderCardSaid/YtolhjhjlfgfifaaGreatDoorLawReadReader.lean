/- The tied card of ReadReader. -/
import Derived.Test.YtolhjhjlfgfifaaGreatDoorRd60
import Derived.Test.YtolhjhjlfgfifaaGreatDoorTie
import Derived.Test.YtolhjhjlfgfifaaGreatDoorCards
import Derived.SevenTiedAt
namespace Go.Proofs.YtolhjhjlfgfifaaGreatDoor
open Go
set_option linter.unusedVariables false
theorem readReaderCard_holds : Rows.ReadReaderCardSaid :=
  Claim7.holds_tied_plain_at .later [] [.data, .listed, .data, .pinned] true (true, "4a6cf7e747364afc44b7ab9a7c8d0cc4f519c8f83a334b97465b9d46f59f618f") true
    readReader.proved (fun _ h => by cases h) (by kernel_rfl) (fun _ h => by cases h) readReader_row_tie rfl ⟨rfl, rfl⟩ (by kernel_rfl) rfl
    (fun f fn hf hfn => by
      obtain rfl : f = 4 := Option.some.inj ((show Tryz.prog.funcNamed "sterling/sterlinglaw7.ReadReader" = some 4 by kernel_rfl).symm.trans hf) |>.symm
      obtain rfl : fn = Tryz.f4 := (Option.some.inj (Tryz.func4.symm.trans hfn)).symm
      exact ⟨by kernel_rfl, fun j t ht => by
        rw [Tryz.params4] at ht
        have h3 : t = 24 ∨ t = 3 := by
          rcases j with _ | _ | j
          · simp at ht; exact .inl ht.symm
          · simp at ht; exact .inr (ht.symm)
          · simp at ht
        rcases h3 with rfl | rfl
        · exact (show Tryz.prog.wantsStandIn 24 = false by kernel_rfl)
        · exact (show Tryz.prog.wantsStandIn 3 = false by kernel_rfl)⟩)
    (by kernel_rfl)
#print axioms readReaderCard_holds
end Go.Proofs.YtolhjhjlfgfifaaGreatDoor
