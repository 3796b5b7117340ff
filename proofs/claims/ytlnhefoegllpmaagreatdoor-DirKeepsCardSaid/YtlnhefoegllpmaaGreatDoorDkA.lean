/- Runs of DirKeeps where the number is none of 1 to 20. -/
import Derived.Test.YtlnhefoegllpmaaGreatDoorDk0
namespace Go.SK
set_option maxRecDepth 1000000
theorem keeps_neg (m : Nat) : runK PP sd kp 100000 3 [.int .i64 (.negSucc m)] .e 0 (fun v _ _ => isTrue v) = .good := by kernel_rfl
theorem keeps_0 : runK PP sd kp 100000 3 [.int .i64 (.ofNat 0)] .e 0 (fun v _ _ => isTrue v) = .good := by kernel_rfl
theorem keeps_big (m : Nat) : runK PP sd kp 100000 3 [.int .i64 (.ofNat (m + 21))] .e 0 (fun v _ _ => isTrue v) = .good := by kernel_rfl
end Go.SK
