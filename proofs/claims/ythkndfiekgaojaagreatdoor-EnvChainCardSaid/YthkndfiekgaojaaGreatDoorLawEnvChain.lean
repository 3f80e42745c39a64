/- The tied card of EnvChain. -/
import Derived.Test.YthkndfiekgaojaaGreatDoorEv30
import Derived.Test.YthkndfiekgaojaaGreatDoorTie
import Derived.Test.YthkndfiekgaojaaGreatDoorCards
import Derived.SevenTiedAt
namespace Go.Proofs.YthkndfiekgaojaaGreatDoor
open Go
set_option linter.unusedVariables false
theorem envChainCard_holds : Rows.EnvChainCardSaid :=
  Claim7.holds_tied_plain_at .later [] [.data, .data, .data] true (true, "aab1cc3f40e88b7eb0e616622ff269c3f9262be90697a99f4786a8cbed9d471f") false
    envChain.proved (fun _ h => by cases h) (by kernel_rfl) (fun _ h => by cases h) envChain_row_tie rfl ⟨rfl, rfl⟩ (by kernel_rfl) rfl
    (fun f fn hf hfn => by
      obtain rfl : f = 4 := Option.some.inj ((show Tryz.prog.funcNamed "sterling/sterlinglaw13.EnvChain" = some 4 by kernel_rfl).symm.trans hf) |>.symm
      obtain rfl : fn = Tryz.f4 := (Option.some.inj (Tryz.func4.symm.trans hfn)).symm
      exact ⟨by kernel_rfl, fun j t ht => by
        rw [Tryz.params4] at ht
        have h3 : t = 3 ∨ t = 4 := by
          rcases j with _ | _ | j
          · simp at ht; exact .inl ht.symm
          · simp at ht; exact .inr (ht.symm)
          · simp at ht
        rcases h3 with rfl | rfl
        · exact (show Tryz.prog.wantsStandIn 3 = false by kernel_rfl)
        · exact (show Tryz.prog.wantsStandIn 4 = false by kernel_rfl)⟩)
    (by kernel_rfl)
#print axioms envChainCard_holds
end Go.Proofs.YthkndfiekgaojaaGreatDoor
