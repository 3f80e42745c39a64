/- ImportsChain at an input that is in bounds. -/
import Derived.Test.YtndcdolcmkmgbaaIcb1
set_option maxRecDepth 1000000
namespace Go.Proofs.Ytndcdolcmkmgbaa.AM.Xb
def isTrueG : R → Bool
  | some (.tr (.sc (.bool true)), _) => true
  | _ => false
noncomputable def okAt (n b : Int) : Bool := isTrueG (callG TG 60 4 [int .i64 n, int .i64 b] FS.nil)
noncomputable def okAll (n : Nat) : Bool := (List.range (n + 1)).all fun k => okAt n ((k : Int) - 1)
theorem begunG : isTrueG (callG TG 60 7 [] FS.nil) = true := by decide +kernel
end Go.Proofs.Ytndcdolcmkmgbaa.AM.Xb
