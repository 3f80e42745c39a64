/- Some of the inputs in bounds. -/
import Derived.Test.YtndcdolcmkmgbaaIcb2
set_option maxRecDepth 1000000
namespace Go.Proofs.Ytndcdolcmkmgbaa.AM.Xb
theorem ok14 : okAll 14 = true := by decide +kernel
theorem ok15 : okAll 15 = true := by decide +kernel
end Go.Proofs.Ytndcdolcmkmgbaa.AM.Xb
