/- EnvChain: part 7. -/
import Derived.Test.YthkndfiekgaojaaGreatDoorEv2
set_option maxRecDepth 1000000
namespace Go.Proofs.YthkndfiekgaojaaGreatDoor.AM.Ev
theorem run4f : isTrueG (callG TG 2000 4 [.tr (.sc (.int .i64 4)), .tr (.sc (.bool false))] FS.nil) = true := by decide +kernel
theorem run4t : isTrueG (callG TG 2000 4 [.tr (.sc (.int .i64 4)), .tr (.sc (.bool true))] FS.nil) = true := by decide +kernel
theorem run10f : isTrueG (callG TG 2000 4 [.tr (.sc (.int .i64 10)), .tr (.sc (.bool false))] FS.nil) = true := by decide +kernel
theorem run10t : isTrueG (callG TG 2000 4 [.tr (.sc (.int .i64 10)), .tr (.sc (.bool true))] FS.nil) = true := by decide +kernel
theorem run16f : isTrueG (callG TG 2000 4 [.tr (.sc (.int .i64 16)), .tr (.sc (.bool false))] FS.nil) = true := by decide +kernel
theorem run16t : isTrueG (callG TG 2000 4 [.tr (.sc (.int .i64 16)), .tr (.sc (.bool true))] FS.nil) = true := by decide +kernel
theorem run22f : isTrueG (callG TG 2000 4 [.tr (.sc (.int .i64 22)), .tr (.sc (.bool false))] FS.nil) = true := by decide +kernel
theorem run22t : isTrueG (callG TG 2000 4 [.tr (.sc (.int .i64 22)), .tr (.sc (.bool true))] FS.nil) = true := by decide +kernel
end Go.Proofs.YthkndfiekgaojaaGreatDoor.AM.Ev
