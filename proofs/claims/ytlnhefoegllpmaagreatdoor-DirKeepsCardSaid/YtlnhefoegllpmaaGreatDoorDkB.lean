/- Runs of DirKeeps with the numbers 1, 2, 3, 4, 5. -/
import Derived.Test.YtlnhefoegllpmaaGreatDoorDk0
namespace Go.SK
set_option maxRecDepth 1000000
theorem keeps_1 : runK PP sd kp 100000 3 [.int .i64 (.ofNat 1)] .e 0 (fun v _ _ => isTrue v) = .good := by kernel_rfl
theorem keeps_2 : runK PP sd kp 100000 3 [.int .i64 (.ofNat 2)] .e 0 (fun v _ _ => isTrue v) = .good := by kernel_rfl
theorem keeps_3 : runK PP sd kp 100000 3 [.int .i64 (.ofNat 3)] .e 0 (fun v _ _ => isTrue v) = .good := by kernel_rfl
theorem keeps_4 : runK PP sd kp 100000 3 [.int .i64 (.ofNat 4)] .e 0 (fun v _ _ => isTrue v) = .good := by kernel_rfl
theorem keeps_5 : runK PP sd kp 100000 3 [.int .i64 (.ofNat 5)] .e 0 (fun v _ _ => isTrue v) = .good := by kernel_rfl
end Go.SK
