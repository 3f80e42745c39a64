/- The tied card of TreeWalk. -/
import Derived.Test.YtimcmpndblajnaaDoorTr30
import Derived.Test.YtimcmpndblajnaaDoorTie
import Derived.Test.YtimcmpndblajnaaDoorCards
import Derived.SevenTiedAt
namespace Go.Proofs.YtimcmpndblajnaaDoor
open Go
set_option linter.unusedVariables false
theorem treeWalkCard_holds : Rows.TreeWalkCardSaid :=
  Claim7.holds_tied_plain_at .later [] [.data, .pinned] true (true, "330b32044deb785e5aa3048c8e0f182e9205f1baa2c6e07a716fae38d3dc5735") false
    treeWalk.proved (fun _ h => by cases h) (by kernel_rfl) (fun _ h => by cases h) treeWalk_row_tie rfl ⟨rfl, rfl⟩ (by kernel_rfl) rfl
    (fun f fn hf hfn => by
      obtain rfl : f = 3 := Option.some.inj ((show Tryd.prog.funcNamed "sterling/sterlinglaw6.TreeWalk" = some 3 by kernel_rfl).symm.trans hf) |>.symm
      obtain rfl : fn = Tryd.f3 := (Option.some.inj (Tryd.func3.symm.trans hfn)).symm
      exact ⟨by kernel_rfl, fun j t ht => by
        rw [Tryd.params3] at ht
        have h3 : t = 24 ∨ t = 25 := by
          rcases j with _ | _ | j
          · exact .inl (by simpa using ht.symm)
          · exact .inr (by simpa using ht.symm)
          · simp at ht
        rcases h3 with rfl | rfl
        · exact (show Tryd.prog.wantsStandIn 24 = false by kernel_rfl)
        · exact (show Tryd.prog.wantsStandIn 25 = false by kernel_rfl)⟩)
    (by kernel_rfl)
#print axioms treeWalkCard_holds
end Go.Proofs.YtimcmpndblajnaaDoor
