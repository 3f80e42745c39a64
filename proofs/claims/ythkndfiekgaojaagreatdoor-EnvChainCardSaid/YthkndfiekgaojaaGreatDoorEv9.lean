/- EnvChain: part 9. -/
import Derived.Test.YthkndfiekgaojaaGreatDoorEv2
set_option maxRecDepth 1000000
namespace Go.Proofs.YthkndfiekgaojaaGreatDoor.AM.Ev
theorem run6f : isTrueG (callG TG 2000 4 [.tr (.sc (.int .i64 6)), .tr (.sc (.bool false))] FS.nil) = true := by decide +kernel
theorem run6t : isTrueG (callG TG 2000 4 [.tr (.sc (.int .i64 6)), .tr (.sc (.bool true))] FS.nil) = true := by decide +kernel
theorem run12f : isTrueG (callG TG 2000 4 [.tr (.sc (.int .i64 12)), .tr (.sc (.bool false))] FS.nil) = true := by decide +kernel
theorem run12t : isTrueG (callG TG 2000 4 [.tr (.sc (.int .i64 12)), .tr (.sc (.bool true))] FS.nil) = true := by decide +kernel
theorem run18f : isTrueG (callG TG 2000 4 [.tr (.sc (.int .i64 18)), .tr (.sc (.bool false))] FS.nil) = true := by decide +kernel
theorem run18t : isTrueG (callG TG 2000 4 [.tr (.sc (.int .i64 18)), .tr (.sc (.bool true))] FS.nil) = true := by decide +kernel
theorem run24f : isTrueG (callG TG 2000 4 [.tr (.sc (.int .i64 24)), .tr (.sc (.bool false))] FS.nil) = true := by decide +kernel
theorem run24t : isTrueG (callG TG 2000 4 [.tr (.sc (.int .i64 24)), .tr (.sc (.bool true))] FS.nil) = true := by decide +kernel
end Go.Proofs.YthkndfiekgaojaaGreatDoor.AM.Ev
