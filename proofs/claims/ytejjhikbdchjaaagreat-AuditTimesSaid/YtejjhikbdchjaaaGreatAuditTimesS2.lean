/-
  'AuditTimes': AM sees it through (part 2).
-/
import Derived.Test.YtejjhikbdchjaaaGreatAuditTimesRun
namespace Go.Proofs.YtejjhikbdchjaaaGreat.auditTimes
set_option maxRecDepth 100000
theorem s2221_t : run [2, 2, 2, 1] true = true := by kernel_rfl
theorem s2202_t : run [2, 2, 0, 2] true = true := by kernel_rfl
theorem s1122_t : run [1, 1, 2, 2] true = true := by kernel_rfl
theorem s2021_t : run [2, 0, 2, 1] true = true := by kernel_rfl
theorem s1112_t : run [1, 1, 1, 2] true = true := by kernel_rfl
theorem s212_t : run [2, 1, 2] true = true := by kernel_rfl
theorem s2002_t : run [2, 0, 0, 2] true = true := by kernel_rfl
theorem s1021_t : run [1, 0, 2, 1] true = true := by kernel_rfl
theorem s0112_t : run [0, 1, 1, 2] true = true := by kernel_rfl
theorem s112_t : run [1, 1, 2] true = true := by kernel_rfl
theorem s1200_t : run [1, 2, 0, 0] true = true := by kernel_rfl
theorem s0210_t : run [0, 2, 1, 0] true = true := by kernel_rfl
theorem s0012_t : run [0, 0, 1, 2] true = true := by kernel_rfl
theorem s012_t : run [0, 1, 2] true = true := by kernel_rfl
theorem s1001_t : run [1, 0, 0, 1] true = true := by kernel_rfl
theorem s0002_t : run [0, 0, 0, 2] true = true := by kernel_rfl
theorem s002_t : run [0, 0, 2] true = true := by kernel_rfl
theorem s0010_t : run [0, 0, 1, 0] true = true := by kernel_rfl
theorem s10_t : run [1, 0] true = true := by kernel_rfl
theorem s0000_t : run [0, 0, 0, 0] true = true := by kernel_rfl
end Go.Proofs.YtejjhikbdchjaaaGreat.auditTimes
