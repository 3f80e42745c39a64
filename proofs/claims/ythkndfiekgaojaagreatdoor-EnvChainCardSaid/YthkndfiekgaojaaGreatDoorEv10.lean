/- EnvChain: part 10. -/
import Derived.Test.YthkndfiekgaojaaGreatDoorEv3
import Derived.Test.YthkndfiekgaojaaGreatDoorEv4
import Derived.Test.YthkndfiekgaojaaGreatDoorEv5
import Derived.Test.YthkndfiekgaojaaGreatDoorEv6
import Derived.Test.YthkndfiekgaojaaGreatDoorEv7
import Derived.Test.YthkndfiekgaojaaGreatDoorEv8
import Derived.Test.YthkndfiekgaojaaGreatDoorEv9
import Derived.Test.YthkndfiekgaojaaGreatDoorAm4
set_option maxRecDepth 1000000
set_option linter.unusedVariables false
set_option linter.unusedSimpArgs false
namespace Go.Proofs.YthkndfiekgaojaaGreatDoor.AM.Ev
open Go.Proofs
theorem begun_run : isTrueG (callG TG 2000 9 [] FS.nil) = true := by decide +kernel
theorem law_in : ∀ (k : Nat) (r : Bool), 1 ≤ k → k ≤ 26 → ∃ v σ', callL T 4 [.tr (.sc (.int .i64 (k : Int))), .tr (.sc (.bool r))] [] = some (v, σ') ∧ v = .tr (.sc (.bool true))
  | 0, _, h, _ => absurd h (by omega)
  | 1, r, _, _ => by cases r; exact runG run1f; exact runG run1t
  | 2, r, _, _ => by cases r; exact runG run2f; exact runG run2t
  | 3, r, _, _ => by cases r; exact runG run3f; exact runG run3t
  | 4, r, _, _ => by cases r; exact runG run4f; exact runG run4t
  | 5, r, _, _ => by cases r; exact runG run5f; exact runG run5t
  | 6, r, _, _ => by cases r; exact runG run6f; exact runG run6t
  | 7, r, _, _ => by cases r; exact runG run7f; exact runG run7t
  | 8, r, _, _ => by cases r; exact runG run8f; exact runG run8t
  | 9, r, _, _ => by cases r; exact runG run9f; exact runG run9t
  | 10, r, _, _ => by cases r; exact runG run10f; exact runG run10t
  | 11, r, _, _ => by cases r; exact runG run11f; exact runG run11t
  | 12, r, _, _ => by cases r; exact runG run12f; exact runG run12t
  | 13, r, _, _ => by cases r; exact runG run13f; exact runG run13t
  | 14, r, _, _ => by cases r; exact runG run14f; exact runG run14t
  | 15, r, _, _ => by cases r; exact runG run15f; exact runG run15t
  | 16, r, _, _ => by cases r; exact runG run16f; exact runG run16t
  | 17, r, _, _ => by cases r; exact runG run17f; exact runG run17t
  | 18, r, _, _ => by cases r; exact runG run18f; exact runG run18t
  | 19, r, _, _ => by cases r; exact runG run19f; exact runG run19t
  | 20, r, _, _ => by cases r; exact runG run20f; exact runG run20t
  | 21, r, _, _ => by cases r; exact runG run21f; exact runG run21t
  | 22, r, _, _ => by cases r; exact runG run22f; exact runG run22t
  | 23, r, _, _ => by cases r; exact runG run23f; exact runG run23t
  | 24, r, _, _ => by cases r; exact runG run24f; exact runG run24t
  | 25, r, _, _ => by cases r; exact runG run25f; exact runG run25t
  | 26, r, _, _ => by cases r; exact runG run26f; exact runG run26t
  | k + 27, _, _, h => absurd h (by omega)
theorem law_envChain (n : Int) (r : Bool) : ∃ v σ', callL T 4 [.tr (.sc (.int .i64 n)), .tr (.sc (.bool r))] [] = some (v, σ') ∧ v = .tr (.sc (.bool true)) := by
  by_cases h1 : n < 1
  · refine call_shared T4 rfl rfl ?_
    obtain ⟨_, σ1, hb, rfl⟩ := runG begun_run
    simp [hb, h1]
  · by_cases h2 : 26 < n
    · refine call_shared T4 rfl rfl ?_
      obtain ⟨_, σ1, hb, rfl⟩ := runG begun_run
      simp [hb, h1, h2]
    · obtain ⟨k, rfl⟩ : ∃ k : Nat, n = k := ⟨n.toNat, by omega⟩
      exact law_in k r (by omega) (by omega)
end Go.Proofs.YthkndfiekgaojaaGreatDoor.AM.Ev
