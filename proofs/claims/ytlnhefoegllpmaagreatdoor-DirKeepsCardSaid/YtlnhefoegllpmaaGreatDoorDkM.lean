/- Runs of DirKeeps with the number 20. -/
import Derived.Test.YtlnhefoegllpmaaGreatDoorDk0
namespace Go.SK
set_option maxRecDepth 1000000
theorem keeps_20 : runK PP sd kp 100000 3 [.int .i64 (.ofNat 20)] .e 0 (fun v _ _ => isTrue v) = .good := by kernel_rfl
end Go.SK
