/- the reader: part B. -/
import Derived.Test.YtolhjhjlfgfifaaGreatDoorRdL
set_option maxRecDepth 1000000
namespace Go.Proofs.YtolhjhjlfgfifaaGreatDoor.AM.Rd0
open Go.Proofs
theorem begun_run : isTrueG (callG TG 400 6 [] FS.nil) = true := by decide +kernel
theorem begun : ∃ m, isT (callA T m 6 [] []) = true := by
  obtain ⟨σ, m, h⟩ := runs begun_run
  exact ⟨m, by rw [h]; rfl⟩
end Go.Proofs.YtolhjhjlfgfifaaGreatDoor.AM.Rd0
