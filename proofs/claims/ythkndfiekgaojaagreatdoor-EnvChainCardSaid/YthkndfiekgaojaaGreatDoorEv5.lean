/- EnvChain: part 5. -/
import Derived.Test.YthkndfiekgaojaaGreatDoorEv2
set_option maxRecDepth 1000000
namespace Go.Proofs.YthkndfiekgaojaaGreatDoor.AM.Ev
theorem run2f : isTrueG (callG TG 2000 4 [.tr (.sc (.int .i64 2)), .tr (.sc (.bool false))] FS.nil) = true := by decide +kernel
theorem run2t : isTrueG (callG TG 2000 4 [.tr (.sc (.int .i64 2)), .tr (.sc (.bool true))] FS.nil) = true := by decide +kernel
theorem run8f : isTrueG (callG TG 2000 4 [.tr (.sc (.int .i64 8)), .tr (.sc (.bool false))] FS.nil) = true := by decide +kernel
theorem run8t : isTrueG (callG TG 2000 4 [.tr (.sc (.int .i64 8)), .tr (.sc (.bool true))] FS.nil) = true := by decide +kernel
theorem run14f : isTrueG (callG TG 2000 4 [.tr (.sc (.int .i64 14)), .tr (.sc (.bool false))] FS.nil) = true := by decide +kernel
theorem run14t : isTrueG (callG TG 2000 4 [.tr (.sc (.int .i64 14)), .tr (.sc (.bool true))] FS.nil) = true := by decide +kernel
theorem run20f : isTrueG (callG TG 2000 4 [.tr (.sc (.int .i64 20)), .tr (.sc (.bool false))] FS.nil) = true := by decide +kernel
theorem run20t : isTrueG (callG TG 2000 4 [.tr (.sc (.int .i64 20)), .tr (.sc (.bool true))] FS.nil) = true := by decide +kernel
theorem run26f : isTrueG (callG TG 2000 4 [.tr (.sc (.int .i64 26)), .tr (.sc (.bool false))] FS.nil) = true := by decide +kernel
theorem run26t : isTrueG (callG TG 2000 4 [.tr (.sc (.int .i64 26)), .tr (.sc (.bool true))] FS.nil) = true := by decide +kernel
end Go.Proofs.YthkndfiekgaojaaGreatDoor.AM.Ev
