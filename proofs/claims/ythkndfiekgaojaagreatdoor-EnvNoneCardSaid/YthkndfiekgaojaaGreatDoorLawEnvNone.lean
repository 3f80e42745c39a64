/- The tied card of EnvNone. -/
import Derived.Test.YthkndfiekgaojaaGreatDoorEv20
import Derived.Test.YthkndfiekgaojaaGreatDoorTie
import Derived.Test.YthkndfiekgaojaaGreatDoorCards
import Derived.SevenTiedAt
namespace Go.Proofs.YthkndfiekgaojaaGreatDoor
open Go
set_option linter.unusedVariables false
theorem envNoneCard_holds : Rows.EnvNoneCardSaid :=
  Claim7.holds_tied_plain_at .later [] [.data, .data, .data] true (true, "aab1cc3f40e88b7eb0e616622ff269c3f9262be90697a99f4786a8cbed9d471f") false
    envNone.proved (fun _ h => by cases h) (by kernel_rfl) (fun _ h => by cases h) envNone_row_tie rfl ⟨rfl, rfl⟩ (by kernel_rfl) rfl
    (fun f fn hf hfn => by
      obtain rfl : f = 3 := Option.some.inj ((show Tryz.prog.funcNamed "sterling/sterlinglaw13.EnvNone" = some 3 by kernel_rfl).symm.trans hf) |>.symm
      obtain rfl : fn = Tryz.f3 := (Option.some.inj (Tryz.func3.symm.trans hfn)).symm
      exact ⟨by kernel_rfl, fun j t ht => by
        rw [Tryz.params3] at ht
        simp at ht⟩)
    (by kernel_rfl)
#print axioms envNoneCard_holds
end Go.Proofs.YthkndfiekgaojaaGreatDoor
