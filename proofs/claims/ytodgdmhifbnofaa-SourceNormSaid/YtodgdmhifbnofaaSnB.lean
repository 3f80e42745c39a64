/- the packages: part B. -/
import Derived.Test.YtodgdmhifbnofaaSnL
set_option maxRecDepth 1000000
namespace Go.Proofs.Ytodgdmhifbnofaa.AM.Sb
open Go.Proofs
theorem begun_run : isT (callA T 400 5 [] []) = true := by decide +kernel
end Go.Proofs.Ytodgdmhifbnofaa.AM.Sb
