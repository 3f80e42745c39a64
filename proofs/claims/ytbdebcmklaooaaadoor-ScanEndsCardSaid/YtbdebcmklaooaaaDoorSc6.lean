/- ScanEnds: part 6. -/
import Derived.Test.YtbdebcmklaooaaaDoorSc2
set_option maxRecDepth 1000000
namespace Go.Proofs.YtbdebcmklaooaaaDoor.AM.Sc
theorem run14f : okAt 14 false = true := by decide +kernel
theorem run14t : okAt 14 true = true := by decide +kernel
theorem run15f : okAt 15 false = true := by decide +kernel
theorem run15t : okAt 15 true = true := by decide +kernel
theorem run16f : okAt 16 false = true := by decide +kernel
theorem run16t : okAt 16 true = true := by decide +kernel
theorem run17f : okAt 17 false = true := by decide +kernel
theorem run17t : okAt 17 true = true := by decide +kernel
theorem run18f : okAt 18 false = true := by decide +kernel
theorem run18t : okAt 18 true = true := by decide +kernel
theorem run19f : okAt 19 false = true := by decide +kernel
theorem run19t : okAt 19 true = true := by decide +kernel
theorem run20f : okAt 20 false = true := by decide +kernel
theorem run20t : okAt 20 true = true := by decide +kernel
end Go.Proofs.YtbdebcmklaooaaaDoor.AM.Sc
