/- EnvChain: part 4. -/
import Derived.Test.YthkndfiekgaojaaGreatDoorEv2
set_option maxRecDepth 1000000
namespace Go.Proofs.YthkndfiekgaojaaGreatDoor.AM.Ev
theorem run1f : isTrueG (callG TG 2000 4 [.tr (.sc (.int .i64 1)), .tr (.sc (.bool false))] FS.nil) = true := by decide +kernel
theorem run1t : isTrueG (callG TG 2000 4 [.tr (.sc (.int .i64 1)), .tr (.sc (.bool true))] FS.nil) = true := by decide +kernel
theorem run7f : isTrueG (callG TG 2000 4 [.tr (.sc (.int .i64 7)), .tr (.sc (.bool false))] FS.nil) = true := by decide +kernel
theorem run7t : isTrueG (callG TG 2000 4 [.tr (.sc (.int .i64 7)), .tr (.sc (.bool true))] FS.nil) = true := by decide +kernel
theorem run13f : isTrueG (callG TG 2000 4 [.tr (.sc (.int .i64 13)), .tr (.sc (.bool false))] FS.nil) = true := by decide +kernel
theorem run13t : isTrueG (callG TG 2000 4 [.tr (.sc (.int .i64 13)), .tr (.sc (.bool true))] FS.nil) = true := by decide +kernel
theorem run19f : isTrueG (callG TG 2000 4 [.tr (.sc (.int .i64 19)), .tr (.sc (.bool false))] FS.nil) = true := by decide +kernel
theorem run19t : isTrueG (callG TG 2000 4 [.tr (.sc (.int .i64 19)), .tr (.sc (.bool true))] FS.nil) = true := by decide +kernel
theorem run25f : isTrueG (callG TG 2000 4 [.tr (.sc (.int .i64 25)), .tr (.sc (.bool false))] FS.nil) = true := by decide +kernel
theorem run25t : isTrueG (callG TG 2000 4 [.tr (.sc (.int .i64 25)), .tr (.sc (.bool true))] FS.nil) = true := by decide +kernel
end Go.Proofs.YthkndfiekgaojaaGreatDoor.AM.Ev
