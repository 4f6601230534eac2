/-
  'AuditTimes': AM sees it through (part 3).
-/
import Derived.Test.YtejjhikbdchjaaaGreatAuditTimesRun
namespace Go.Proofs.YtejjhikbdchjaaaGreat.auditTimes
set_option maxRecDepth 100000
theorem s2221_f : run [2, 2, 2, 1] false = true := by kernel_rfl
theorem s2202_f : run [2, 2, 0, 2] false = true := by kernel_rfl
theorem s1122_f : run [1, 1, 2, 2] false = true := by kernel_rfl
theorem s2021_f : run [2, 0, 2, 1] false = true := by kernel_rfl
theorem s1112_f : run [1, 1, 1, 2] false = true := by kernel_rfl
theorem s212_f : run [2, 1, 2] false = true := by kernel_rfl
theorem s2002_f : run [2, 0, 0, 2] false = true := by kernel_rfl
theorem s1021_f : run [1, 0, 2, 1] false = true := by kernel_rfl
theorem s0112_f : run [0, 1, 1, 2] false = true := by kernel_rfl
theorem s112_f : run [1, 1, 2] false = true := by kernel_rfl
theorem s1200_f : run [1, 2, 0, 0] false = true := by kernel_rfl
theorem s0210_f : run [0, 2, 1, 0] false = true := by kernel_rfl
theorem s0012_f : run [0, 0, 1, 2] false = true := by kernel_rfl
theorem s012_f : run [0, 1, 2] false = true := by kernel_rfl
theorem s1001_f : run [1, 0, 0, 1] false = true := by kernel_rfl
theorem s0002_f : run [0, 0, 0, 2] false = true := by kernel_rfl
theorem s002_f : run [0, 0, 2] false = true := by kernel_rfl
theorem s0010_f : run [0, 0, 1, 0] false = true := by kernel_rfl
theorem s10_f : run [1, 0] false = true := by kernel_rfl
theorem s0000_f : run [0, 0, 0, 0] false = true := by kernel_rfl
end Go.Proofs.YtejjhikbdchjaaaGreat.auditTimes
