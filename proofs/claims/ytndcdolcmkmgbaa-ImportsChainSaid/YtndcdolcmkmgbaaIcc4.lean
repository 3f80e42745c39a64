/- Some of the inputs in bounds. -/
import Derived.Test.YtndcdolcmkmgbaaIcb2
set_option maxRecDepth 1000000
namespace Go.Proofs.Ytndcdolcmkmgbaa.AM.Xb
theorem ok16 : okAll 16 = true := by decide +kernel
theorem ok17 : okAll 17 = true := by decide +kernel
end Go.Proofs.Ytndcdolcmkmgbaa.AM.Xb
