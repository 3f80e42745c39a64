/- EnvChain: part 8. -/
import Derived.Test.YthkndfiekgaojaaGreatDoorEv2
set_option maxRecDepth 1000000
namespace Go.Proofs.YthkndfiekgaojaaGreatDoor.AM.Ev
theorem run5f : isTrueG (callG TG 2000 4 [.tr (.sc (.int .i64 5)), .tr (.sc (.bool false))] FS.nil) = true := by decide +kernel
theorem run5t : isTrueG (callG TG 2000 4 [.tr (.sc (.int .i64 5)), .tr (.sc (.bool true))] FS.nil) = true := by decide +kernel
theorem run11f : isTrueG (callG TG 2000 4 [.tr (.sc (.int .i64 11)), .tr (.sc (.bool false))] FS.nil) = true := by decide +kernel
theorem run11t : isTrueG (callG TG 2000 4 [.tr (.sc (.int .i64 11)), .tr (.sc (.bool true))] FS.nil) = true := by decide +kernel
theorem run17f : isTrueG (callG TG 2000 4 [.tr (.sc (.int .i64 17)), .tr (.sc (.bool false))] FS.nil) = true := by decide +kernel
theorem run17t : isTrueG (callG TG 2000 4 [.tr (.sc (.int .i64 17)), .tr (.sc (.bool true))] FS.nil) = true := by decide +kernel
theorem run23f : isTrueG (callG TG 2000 4 [.tr (.sc (.int .i64 23)), .tr (.sc (.bool false))] FS.nil) = true := by decide +kernel
theorem run23t : isTrueG (callG TG 2000 4 [.tr (.sc (.int .i64 23)), .tr (.sc (.bool true))] FS.nil) = true := by decide +kernel
end Go.Proofs.YthkndfiekgaojaaGreatDoor.AM.Ev
