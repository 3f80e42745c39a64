/- Some of the inputs in bounds. -/
import Derived.Test.YtndcdolcmkmgbaaIcb2
set_option maxRecDepth 1000000
namespace Go.Proofs.Ytndcdolcmkmgbaa.AM.Xb
theorem ok18 : okAll 18 = true := by decide +kernel
end Go.Proofs.Ytndcdolcmkmgbaa.AM.Xb
