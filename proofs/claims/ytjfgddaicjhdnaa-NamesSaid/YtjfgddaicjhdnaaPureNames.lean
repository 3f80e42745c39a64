/-
The law of the names of a number takes no argument: its printed form is one
closed computation, and the kernel carries it out.
-/
import Derived.Test.YtjfgddaicjhdnaaPNamesx1
namespace Go.Proofs.Ytjfgddaicjhdnaa.Pure
open Go.RowKit Go.Proofs.Ytjfgddaicjhdnaa.PNames Go.Proofs.YtjfgddaicjhdnaaW.PrintWords Go.Proofs.YtjfgddaicjhdnaaW.PrintLast

/-- YOURS: ∃ k, sterlinglaw0_Names.f k  = some true
What it reaches (each with k first where it has rounds; `.mono`: more rounds tell the same; `.l0`, ..: its loops, with `.mono_l`): sterlinglaw0_Names.f -/
theorem Names : sterlinglaw0_Names.Pure := by
  exact ⟨200, by decide +kernel⟩

end Go.Proofs.Ytjfgddaicjhdnaa.Pure
