/- EnvChain: part 3. -/
import Derived.Test.YthkndfiekgaojaaGreatDoorEv2
import Derived.Test.YthkndfiekgaojaaGreatDoorAm4
set_option maxRecDepth 1000000
set_option linter.unusedVariables false
set_option linter.unusedSimpArgs false
namespace Go.Proofs.YthkndfiekgaojaaGreatDoor.AM.Ev
open Go.Proofs
theorem envNone_run : isTrueG (callG TG 400 3 [] FS.nil) = true := by decide +kernel
theorem runG {n f : Nat} {vs : List V} (h : isTrueG (callG TG n f vs FS.nil) = true) : ∃ v σ', callL T f vs [] = some (v, σ') ∧ v = .tr (.sc (.bool true)) := by
  obtain ⟨s, hs⟩ := isTrueG_iff h
  obtain ⟨m, σ, h1, _⟩ := callG_iso fastOk n _ _ _ _ _ _ hs SRel.nil
  exact ⟨_, σ, callL_some.2 ⟨m, h1⟩, rfl⟩
theorem law_envNone : ∃ v σ', callL T 3 [] [] = some (v, σ') ∧ v = .tr (.sc (.bool true)) := runG envNone_run
end Go.Proofs.YthkndfiekgaojaaGreatDoor.AM.Ev
