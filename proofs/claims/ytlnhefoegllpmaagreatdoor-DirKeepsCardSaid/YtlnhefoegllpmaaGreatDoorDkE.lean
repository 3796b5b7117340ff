/- Runs of DirKeeps with the numbers 11, 12. -/
import Derived.Test.YtlnhefoegllpmaaGreatDoorDk0
namespace Go.SK
set_option maxRecDepth 1000000
theorem keeps_11 : runK PP sd kp 100000 3 [.int .i64 (.ofNat 11)] .e 0 (fun v _ _ => isTrue v) = .good := by kernel_rfl
theorem keeps_12 : runK PP sd kp 100000 3 [.int .i64 (.ofNat 12)] .e 0 (fun v _ _ => isTrue v) = .good := by kernel_rfl
end Go.SK
