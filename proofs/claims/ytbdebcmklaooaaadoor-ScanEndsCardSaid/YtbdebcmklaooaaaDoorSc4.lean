/- ScanEnds: part 4. -/
import Derived.Test.YtbdebcmklaooaaaDoorSc2
set_option maxRecDepth 1000000
namespace Go.Proofs.YtbdebcmklaooaaaDoor.AM.Sc
theorem run0f : okAt 0 false = true := by decide +kernel
theorem run0t : okAt 0 true = true := by decide +kernel
theorem run1f : okAt 1 false = true := by decide +kernel
theorem run1t : okAt 1 true = true := by decide +kernel
theorem run2f : okAt 2 false = true := by decide +kernel
theorem run2t : okAt 2 true = true := by decide +kernel
theorem run3f : okAt 3 false = true := by decide +kernel
theorem run3t : okAt 3 true = true := by decide +kernel
theorem run4f : okAt 4 false = true := by decide +kernel
theorem run4t : okAt 4 true = true := by decide +kernel
theorem run5f : okAt 5 false = true := by decide +kernel
theorem run5t : okAt 5 true = true := by decide +kernel
theorem run6f : okAt 6 false = true := by decide +kernel
theorem run6t : okAt 6 true = true := by decide +kernel
end Go.Proofs.YtbdebcmklaooaaaDoor.AM.Sc
