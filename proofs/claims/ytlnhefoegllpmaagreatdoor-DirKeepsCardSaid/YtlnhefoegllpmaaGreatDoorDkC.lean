/- Runs of DirKeeps with the numbers 6, 7, 8. -/
import Derived.Test.YtlnhefoegllpmaaGreatDoorDk0
namespace Go.SK
set_option maxRecDepth 1000000
theorem keeps_6 : runK PP sd kp 100000 3 [.int .i64 (.ofNat 6)] .e 0 (fun v _ _ => isTrue v) = .good := by kernel_rfl
theorem keeps_7 : runK PP sd kp 100000 3 [.int .i64 (.ofNat 7)] .e 0 (fun v _ _ => isTrue v) = .good := by kernel_rfl
theorem keeps_8 : runK PP sd kp 100000 3 [.int .i64 (.ofNat 8)] .e 0 (fun v _ _ => isTrue v) = .good := by kernel_rfl
end Go.SK
