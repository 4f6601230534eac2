/-
  'AuditTimes': AM sees it through (part 4).
-/
import Derived.Test.YtejjhikbdchjaaaGreatAuditTimesRun
namespace Go.Proofs.YtejjhikbdchjaaaGreat.auditTimes
set_option maxRecDepth 100000
theorem s2212_t : run [2, 2, 1, 2] true = true := by kernel_rfl
theorem s2121_t : run [2, 1, 2, 1] true = true := by kernel_rfl
theorem s0222_t : run [0, 2, 2, 2] true = true := by kernel_rfl
theorem s2012_t : run [2, 0, 1, 2] true = true := by kernel_rfl
theorem s1022_t : run [1, 0, 2, 2] true = true := by kernel_rfl
theorem s122_t : run [1, 2, 2] true = true := by kernel_rfl
theorem s1210_t : run [1, 2, 1, 0] true = true := by kernel_rfl
theorem s1012_t : run [1, 0, 1, 2] true = true := by kernel_rfl
theorem s0022_t : run [0, 0, 2, 2] true = true := by kernel_rfl
theorem s022_t : run [0, 2, 2] true = true := by kernel_rfl
theorem s1110_t : run [1, 1, 1, 0] true = true := by kernel_rfl
theorem s0201_t : run [0, 2, 0, 1] true = true := by kernel_rfl
theorem s210_t : run [2, 1, 0] true = true := by kernel_rfl
theorem s102_t : run [1, 0, 2] true = true := by kernel_rfl
theorem s1100_t : run [1, 1, 0, 0] true = true := by kernel_rfl
theorem s0020_t : run [0, 0, 2, 0] true = true := by kernel_rfl
theorem s020_t : run [0, 2, 0] true = true := by kernel_rfl
theorem s1000_t : run [1, 0, 0, 0] true = true := by kernel_rfl
theorem s100_t : run [1, 0, 0] true = true := by kernel_rfl
theorem s01_t : run [0, 1] true = true := by kernel_rfl
end Go.Proofs.YtejjhikbdchjaaaGreat.auditTimes
