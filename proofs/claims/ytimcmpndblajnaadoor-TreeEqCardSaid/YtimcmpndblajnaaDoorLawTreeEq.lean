/- The tied card of TreeEq. -/
import Derived.Test.YtimcmpndblajnaaDoorTr20
import Derived.Test.YtimcmpndblajnaaDoorTie
import Derived.Test.YtimcmpndblajnaaDoorCards
import Derived.SevenTiedAt
namespace Go.Proofs.YtimcmpndblajnaaDoor
open Go
set_option linter.unusedVariables false
theorem treeEqCard_holds : Rows.TreeEqCardSaid :=
  Claim7.holds_tied_plain_at .later [] [.data, .pinned] true (true, "330b32044deb785e5aa3048c8e0f182e9205f1baa2c6e07a716fae38d3dc5735") false
    treeEq.proved (fun _ h => by cases h) (by kernel_rfl) (fun _ h => by cases h) treeEq_row_tie rfl ⟨rfl, rfl⟩ (by kernel_rfl) rfl
    (fun f fn hf hfn => by
      obtain rfl : f = 4 := Option.some.inj ((show Tryd.prog.funcNamed "sterling/sterlinglaw6.TreeEq" = some 4 by kernel_rfl).symm.trans hf) |>.symm
      obtain rfl : fn = Tryd.f4 := (Option.some.inj (Tryd.func4.symm.trans hfn)).symm
      exact ⟨by kernel_rfl, fun j t ht => by
        rw [Tryd.params4] at ht
        have h3 : t = 24 := by
          rcases j with _ | _ | j
          · simpa using ht.symm
          · simpa using ht.symm
          · simp at ht
        subst h3
        exact (show Tryd.prog.wantsStandIn 24 = false by kernel_rfl)⟩)
    (by kernel_rfl)
#print axioms treeEqCard_holds
end Go.Proofs.YtimcmpndblajnaaDoor
