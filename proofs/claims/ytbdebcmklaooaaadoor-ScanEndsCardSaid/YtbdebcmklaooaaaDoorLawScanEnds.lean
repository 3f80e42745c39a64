/- The tied card of ScanEnds. -/
import Derived.Test.YtbdebcmklaooaaaDoorSc20
import Derived.Test.YtbdebcmklaooaaaDoorTie
import Derived.Test.YtbdebcmklaooaaaDoorCards
import Derived.SevenTiedAt
namespace Go.Proofs.YtbdebcmklaooaaaDoor
open Go
set_option linter.unusedVariables false
theorem scanEndsCard_holds : Rows.ScanEndsCardSaid :=
  Claim7.holds_tied_plain_at .later [] [.data, .listed, .data, .pinned] true (true, "5a24279398ab35a0e267f4f341677e9cd0239c731905654561badb66ef028941") false
    scanEnds.proved (fun _ h => by cases h) (by kernel_rfl) (fun _ h => by cases h) scanEnds_row_tie rfl ⟨rfl, rfl⟩ (by kernel_rfl) rfl
    (fun f fn hf hfn => by
      obtain rfl : f = 6 := Option.some.inj ((show Tryd.prog.funcNamed "sterling/sterlinglaw5.ScanEnds" = some 6 by kernel_rfl).symm.trans hf) |>.symm
      obtain rfl : fn = Tryd.f6 := (Option.some.inj (Tryd.func6.symm.trans hfn)).symm
      exact ⟨by kernel_rfl, fun j t ht => by
        rw [Tryd.params6] at ht
        have h3 : t = 3 ∨ t = 4 := by
          rcases j with _ | _ | j
          · simp at ht; exact .inl ht.symm
          · simp at ht; exact .inr ht.symm
          · simp at ht
        rcases h3 with rfl | rfl
        · exact (show Tryd.prog.wantsStandIn 3 = false by kernel_rfl)
        · exact (show Tryd.prog.wantsStandIn 4 = false by kernel_rfl)⟩)
    (by kernel_rfl)
#print axioms scanEndsCard_holds
end Go.Proofs.YtbdebcmklaooaaaDoor
