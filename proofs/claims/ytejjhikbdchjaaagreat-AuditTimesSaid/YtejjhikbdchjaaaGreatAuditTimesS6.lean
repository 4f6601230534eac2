/-
  'AuditTimes': AM sees it through (part 6).
-/
import Derived.Test.YtejjhikbdchjaaaGreatAuditTimesRun
namespace Go.Proofs.YtejjhikbdchjaaaGreat.auditTimes
set_option maxRecDepth 100000
theorem s2122_t : run [2, 1, 2, 2] true = true := by kernel_rfl
theorem s2112_t : run [2, 1, 1, 2] true = true := by kernel_rfl
theorem s222_t : run [2, 2, 2] true = true := by kernel_rfl
theorem s2102_t : run [2, 1, 0, 2] true = true := by kernel_rfl
theorem s1121_t : run [1, 1, 2, 1] true = true := by kernel_rfl
theorem s221_t : run [2, 2, 1] true = true := by kernel_rfl
theorem s2011_t : run [2, 0, 1, 1] true = true := by kernel_rfl
theorem s1102_t : run [1, 1, 0, 2] true = true := by kernel_rfl
theorem s0121_t : run [0, 1, 2, 1] true = true := by kernel_rfl
theorem s121_t : run [1, 2, 1] true = true := by kernel_rfl
theorem s2001_t : run [2, 0, 0, 1] true = true := by kernel_rfl
theorem s1002_t : run [1, 0, 0, 2] true = true := by kernel_rfl
theorem s0021_t : run [0, 0, 2, 1] true = true := by kernel_rfl
theorem s021_t : run [0, 2, 1] true = true := by kernel_rfl
theorem s1010_t : run [1, 0, 1, 0] true = true := by kernel_rfl
theorem s0011_t : run [0, 0, 1, 1] true = true := by kernel_rfl
theorem s011_t : run [0, 1, 1] true = true := by kernel_rfl
theorem s0100_t : run [0, 1, 0, 0] true = true := by kernel_rfl
theorem s010_t : run [0, 1, 0] true = true := by kernel_rfl
theorem s1_t : run [1] true = true := by kernel_rfl
end Go.Proofs.YtejjhikbdchjaaaGreat.auditTimes
