/- Runs of DirKeeps with the numbers 9, 10. -/
import Derived.Test.YtlnhefoegllpmaaGreatDoorDk0
namespace Go.SK
set_option maxRecDepth 1000000
theorem keeps_9 : runK PP sd kp 100000 3 [.int .i64 (.ofNat 9)] .e 0 (fun v _ _ => isTrue v) = .good := by kernel_rfl
theorem keeps_10 : runK PP sd kp 100000 3 [.int .i64 (.ofNat 10)] .e 0 (fun v _ _ => isTrue v) = .good := by kernel_rfl
end Go.SK
