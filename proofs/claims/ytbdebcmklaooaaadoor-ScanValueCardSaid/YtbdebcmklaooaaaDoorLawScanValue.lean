/- The tied card of ScanValue. -/
import Derived.Test.YtbdebcmklaooaaaDoorSa60
import Derived.Test.YtbdebcmklaooaaaDoorTie
import Derived.Test.YtbdebcmklaooaaaDoorCards
import Derived.SevenTiedAt
namespace Go.Proofs.YtbdebcmklaooaaaDoor
open Go
set_option linter.unusedVariables false
theorem scanValueCard_holds : Rows.ScanValueCardSaid :=
  Claim7.holds_tied_plain_at .later [] [.data, .listed, .data, .pinned] true (true, "5a24279398ab35a0e267f4f341677e9cd0239c731905654561badb66ef028941") false
    scanValue.proved (fun _ h => by cases h) (by kernel_rfl) (fun _ h => by cases h) scanValue_row_tie rfl ⟨rfl, rfl⟩ (by kernel_rfl) rfl
    (fun f fn hf hfn => by
      obtain rfl : f = 5 := Option.some.inj ((show Tryd.prog.funcNamed "sterling/sterlinglaw5.ScanValue" = some 5 by kernel_rfl).symm.trans hf) |>.symm
      obtain rfl : fn = Tryd.f5 := (Option.some.inj (Tryd.func5.symm.trans hfn)).symm
      exact ⟨by kernel_rfl, fun j t ht => by
        rw [Tryd.params5] at ht
        have h3 : t = 9 := by
          rcases j with _ | j
          · simp at ht; exact ht.symm
          · simp at ht
        rcases h3 with rfl
        · exact (show Tryd.prog.wantsStandIn 9 = false by kernel_rfl)⟩)
    (by kernel_rfl)
#print axioms scanValueCard_holds
end Go.Proofs.YtbdebcmklaooaaaDoor
