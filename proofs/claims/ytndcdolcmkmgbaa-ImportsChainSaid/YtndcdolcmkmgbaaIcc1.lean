/- Some of the inputs in bounds. -/
import Derived.Test.YtndcdolcmkmgbaaIcb2
set_option maxRecDepth 1000000
namespace Go.Proofs.Ytndcdolcmkmgbaa.AM.Xb
theorem ok1 : okAll 1 = true := by decide +kernel
theorem ok2 : okAll 2 = true := by decide +kernel
theorem ok3 : okAll 3 = true := by decide +kernel
theorem ok4 : okAll 4 = true := by decide +kernel
theorem ok5 : okAll 5 = true := by decide +kernel
theorem ok6 : okAll 6 = true := by decide +kernel
theorem ok7 : okAll 7 = true := by decide +kernel
theorem ok8 : okAll 8 = true := by decide +kernel
theorem ok9 : okAll 9 = true := by decide +kernel
theorem ok10 : okAll 10 = true := by decide +kernel
end Go.Proofs.Ytndcdolcmkmgbaa.AM.Xb
