/- ScanEnds: part 5. -/
import Derived.Test.YtbdebcmklaooaaaDoorSc2
set_option maxRecDepth 1000000
namespace Go.Proofs.YtbdebcmklaooaaaDoor.AM.Sc
theorem run7f : okAt 7 false = true := by decide +kernel
theorem run7t : okAt 7 true = true := by decide +kernel
theorem run8f : okAt 8 false = true := by decide +kernel
theorem run8t : okAt 8 true = true := by decide +kernel
theorem run9f : okAt 9 false = true := by decide +kernel
theorem run9t : okAt 9 true = true := by decide +kernel
theorem run10f : okAt 10 false = true := by decide +kernel
theorem run10t : okAt 10 true = true := by decide +kernel
theorem run11f : okAt 11 false = true := by decide +kernel
theorem run11t : okAt 11 true = true := by decide +kernel
theorem run12f : okAt 12 false = true := by decide +kernel
theorem run12t : okAt 12 true = true := by decide +kernel
theorem run13f : okAt 13 false = true := by decide +kernel
theorem run13t : okAt 13 true = true := by decide +kernel
end Go.Proofs.YtbdebcmklaooaaaDoor.AM.Sc
