/- ScanEnds: part 8. -/
import Derived.Test.YtbdebcmklaooaaaDoorSc3
import Derived.Test.YtbdebcmklaooaaaDoorSc4
import Derived.Test.YtbdebcmklaooaaaDoorSc5
import Derived.Test.YtbdebcmklaooaaaDoorSc6
import Derived.Test.YtbdebcmklaooaaaDoorSc7
set_option maxRecDepth 1000000
namespace Go.Proofs.YtbdebcmklaooaaaDoor.AM.Sc
theorem runs_all : ∀ k, k < 28 → ∀ c, okAt k c = true
  | 0, _, c => by cases c; exact run0f; exact run0t
  | 1, _, c => by cases c; exact run1f; exact run1t
  | 2, _, c => by cases c; exact run2f; exact run2t
  | 3, _, c => by cases c; exact run3f; exact run3t
  | 4, _, c => by cases c; exact run4f; exact run4t
  | 5, _, c => by cases c; exact run5f; exact run5t
  | 6, _, c => by cases c; exact run6f; exact run6t
  | 7, _, c => by cases c; exact run7f; exact run7t
  | 8, _, c => by cases c; exact run8f; exact run8t
  | 9, _, c => by cases c; exact run9f; exact run9t
  | 10, _, c => by cases c; exact run10f; exact run10t
  | 11, _, c => by cases c; exact run11f; exact run11t
  | 12, _, c => by cases c; exact run12f; exact run12t
  | 13, _, c => by cases c; exact run13f; exact run13t
  | 14, _, c => by cases c; exact run14f; exact run14t
  | 15, _, c => by cases c; exact run15f; exact run15t
  | 16, _, c => by cases c; exact run16f; exact run16t
  | 17, _, c => by cases c; exact run17f; exact run17t
  | 18, _, c => by cases c; exact run18f; exact run18t
  | 19, _, c => by cases c; exact run19f; exact run19t
  | 20, _, c => by cases c; exact run20f; exact run20t
  | 21, _, c => by cases c; exact run21f; exact run21t
  | 22, _, c => by cases c; exact run22f; exact run22t
  | 23, _, c => by cases c; exact run23f; exact run23t
  | 24, _, c => by cases c; exact run24f; exact run24t
  | 25, _, c => by cases c; exact run25f; exact run25t
  | 26, _, c => by cases c; exact run26f; exact run26t
  | 27, _, c => by cases c; exact run27f; exact run27t
  | k + 28, h, _ => absurd h (by omega)
/-- ScanEnds answers true whatever number is given. -/
theorem law_scanEnds (k : Int) (c : Bool) : ∃ v σ', callL T 6 [.tr (.sc (.int .i64 k)), .tr (.sc (.bool c))] [] = some (v, σ') ∧ v = .tr (.sc (.bool true)) := law_ends runs_all k c
end Go.Proofs.YtbdebcmklaooaaaDoor.AM.Sc
