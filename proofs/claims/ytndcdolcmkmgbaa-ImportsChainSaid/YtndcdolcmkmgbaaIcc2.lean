/- Some of the inputs in bounds. -/
import Derived.Test.YtndcdolcmkmgbaaIcb2
set_option maxRecDepth 1000000
namespace Go.Proofs.Ytndcdolcmkmgbaa.AM.Xb
theorem ok11 : okAll 11 = true := by decide +kernel
theorem ok12 : okAll 12 = true := by decide +kernel
theorem ok13 : okAll 13 = true := by decide +kernel
end Go.Proofs.Ytndcdolcmkmgbaa.AM.Xb
