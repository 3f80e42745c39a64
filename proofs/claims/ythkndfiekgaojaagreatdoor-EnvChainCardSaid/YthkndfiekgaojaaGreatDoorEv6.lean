/- EnvChain: part 6. -/
import Derived.Test.YthkndfiekgaojaaGreatDoorEv2
set_option maxRecDepth 1000000
namespace Go.Proofs.YthkndfiekgaojaaGreatDoor.AM.Ev
theorem run3f : isTrueG (callG TG 2000 4 [.tr (.sc (.int .i64 3)), .tr (.sc (.bool false))] FS.nil) = true := by decide +kernel
theorem run3t : isTrueG (callG TG 2000 4 [.tr (.sc (.int .i64 3)), .tr (.sc (.bool true))] FS.nil) = true := by decide +kernel
theorem run9f : isTrueG (callG TG 2000 4 [.tr (.sc (.int .i64 9)), .tr (.sc (.bool false))] FS.nil) = true := by decide +kernel
theorem run9t : isTrueG (callG TG 2000 4 [.tr (.sc (.int .i64 9)), .tr (.sc (.bool true))] FS.nil) = true := by decide +kernel
theorem run15f : isTrueG (callG TG 2000 4 [.tr (.sc (.int .i64 15)), .tr (.sc (.bool false))] FS.nil) = true := by decide +kernel
theorem run15t : isTrueG (callG TG 2000 4 [.tr (.sc (.int .i64 15)), .tr (.sc (.bool true))] FS.nil) = true := by decide +kernel
theorem run21f : isTrueG (callG TG 2000 4 [.tr (.sc (.int .i64 21)), .tr (.sc (.bool false))] FS.nil) = true := by decide +kernel
theorem run21t : isTrueG (callG TG 2000 4 [.tr (.sc (.int .i64 21)), .tr (.sc (.bool true))] FS.nil) = true := by decide +kernel
end Go.Proofs.YthkndfiekgaojaaGreatDoor.AM.Ev
