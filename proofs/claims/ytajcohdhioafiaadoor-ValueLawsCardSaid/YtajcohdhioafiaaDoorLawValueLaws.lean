/- The tied card of ValueLaws. -/
import Derived.Test.YtajcohdhioafiaaDoorVl20
import Derived.Test.YtajcohdhioafiaaDoorTie
import Derived.Test.YtajcohdhioafiaaDoorCards
import Derived.SevenTiedAt
namespace Go.Proofs.YtajcohdhioafiaaDoor
open Go
set_option linter.unusedVariables false
theorem valueLawsCard_holds : Rows.ValueLawsCardSaid :=
  Claim7.holds_tied_plain_at .later [] [.data, .data, .data] true (true, "cb6534786bbc47a9faf716e053a62bbe9f2d10076eb0c5ca4e19c1f96e220f81") false
    valueLaws.proved (fun _ h => by cases h) (by kernel_rfl) (fun _ h => by cases h) valueLaws_row_tie rfl ⟨rfl, rfl⟩ (by kernel_rfl) rfl
    (fun f fn hf hfn => by
      obtain rfl : f = 4 := Option.some.inj ((show Tryd.prog.funcNamed "sterling/sterlinglaw25.ValueLaws" = some 4 by kernel_rfl).symm.trans hf) |>.symm
      obtain rfl : fn = Tryd.f4 := (Option.some.inj (Tryd.func4.symm.trans hfn)).symm
      exact ⟨by kernel_rfl, fun j t ht => by
        rw [Tryd.params4] at ht
        have h3 : t = 9 ∨ t = 2 := by
          rcases j with _ | _ | _ | j
          · simp at ht; exact .inl ht.symm
          · simp at ht; exact .inr ht.symm
          · simp at ht; exact .inr ht.symm
          · simp at ht
        rcases h3 with rfl | rfl
        · exact (show Tryd.prog.wantsStandIn 9 = false by kernel_rfl)
        · exact (show Tryd.prog.wantsStandIn 2 = false by kernel_rfl)⟩)
    (by kernel_rfl)
#print axioms valueLawsCard_holds
end Go.Proofs.YtajcohdhioafiaaDoor
