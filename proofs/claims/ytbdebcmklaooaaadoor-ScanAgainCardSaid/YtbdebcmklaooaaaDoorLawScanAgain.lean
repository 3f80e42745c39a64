/- The tied card of ScanAgain. -/
import Derived.Test.YtbdebcmklaooaaaDoorSa64
import Derived.Test.YtbdebcmklaooaaaDoorTie
import Derived.Test.YtbdebcmklaooaaaDoorCards
import Derived.SevenTiedAt
namespace Go.Proofs.YtbdebcmklaooaaaDoor
open Go
set_option linter.unusedVariables false
theorem scanAgainCard_holds : Rows.ScanAgainCardSaid :=
  Claim7.holds_tied_plain_at .later [] [.data, .listed, .data, .pinned] true (true, "5a24279398ab35a0e267f4f341677e9cd0239c731905654561badb66ef028941") false
    scanAgain.proved (fun _ h => by cases h) (by kernel_rfl) (fun _ h => by cases h) scanAgain_row_tie rfl ⟨rfl, rfl⟩ (by kernel_rfl) rfl
    (fun f fn hf hfn => by
      obtain rfl : f = 4 := Option.some.inj ((show Tryd.prog.funcNamed "sterling/sterlinglaw5.ScanAgain" = some 4 by kernel_rfl).symm.trans hf) |>.symm
      obtain rfl : fn = Tryd.f4 := (Option.some.inj (Tryd.func4.symm.trans hfn)).symm
      exact ⟨by kernel_rfl, fun j t ht => by
        rw [Tryd.params4] at ht
        have h3 : t = 22 := by
          rcases j with _ | j
          · simp at ht; exact ht.symm
          · simp at ht
        rcases h3 with rfl
        · exact (show Tryd.prog.wantsStandIn 22 = false by kernel_rfl)⟩)
    (by kernel_rfl)
#print axioms scanAgainCard_holds
end Go.Proofs.YtbdebcmklaooaaaDoor
