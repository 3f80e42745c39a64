/- ScanEnds: part 7. -/
import Derived.Test.YtbdebcmklaooaaaDoorSc2
set_option maxRecDepth 1000000
namespace Go.Proofs.YtbdebcmklaooaaaDoor.AM.Sc
theorem run21f : okAt 21 false = true := by decide +kernel
theorem run21t : okAt 21 true = true := by decide +kernel
theorem run22f : okAt 22 false = true := by decide +kernel
theorem run22t : okAt 22 true = true := by decide +kernel
theorem run23f : okAt 23 false = true := by decide +kernel
theorem run23t : okAt 23 true = true := by decide +kernel
theorem run24f : okAt 24 false = true := by decide +kernel
theorem run24t : okAt 24 true = true := by decide +kernel
theorem run25f : okAt 25 false = true := by decide +kernel
theorem run25t : okAt 25 true = true := by decide +kernel
theorem run26f : okAt 26 false = true := by decide +kernel
theorem run26t : okAt 26 true = true := by decide +kernel
theorem run27f : okAt 27 false = true := by decide +kernel
theorem run27t : okAt 27 true = true := by decide +kernel
end Go.Proofs.YtbdebcmklaooaaaDoor.AM.Sc
