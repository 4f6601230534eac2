/-
  'AuditTimes': AM sees it through (part 7).
-/
import Derived.Test.YtejjhikbdchjaaaGreatAuditTimesRun
namespace Go.Proofs.YtejjhikbdchjaaaGreat.auditTimes
set_option maxRecDepth 100000
theorem s2122_f : run [2, 1, 2, 2] false = true := by kernel_rfl
theorem s2112_f : run [2, 1, 1, 2] false = true := by kernel_rfl
theorem s222_f : run [2, 2, 2] false = true := by kernel_rfl
theorem s2102_f : run [2, 1, 0, 2] false = true := by kernel_rfl
theorem s1121_f : run [1, 1, 2, 1] false = true := by kernel_rfl
theorem s221_f : run [2, 2, 1] false = true := by kernel_rfl
theorem s2011_f : run [2, 0, 1, 1] false = true := by kernel_rfl
theorem s1102_f : run [1, 1, 0, 2] false = true := by kernel_rfl
theorem s0121_f : run [0, 1, 2, 1] false = true := by kernel_rfl
theorem s121_f : run [1, 2, 1] false = true := by kernel_rfl
theorem s2001_f : run [2, 0, 0, 1] false = true := by kernel_rfl
theorem s1002_f : run [1, 0, 0, 2] false = true := by kernel_rfl
theorem s0021_f : run [0, 0, 2, 1] false = true := by kernel_rfl
theorem s021_f : run [0, 2, 1] false = true := by kernel_rfl
theorem s1010_f : run [1, 0, 1, 0] false = true := by kernel_rfl
theorem s0011_f : run [0, 0, 1, 1] false = true := by kernel_rfl
theorem s011_f : run [0, 1, 1] false = true := by kernel_rfl
theorem s0100_f : run [0, 1, 0, 0] false = true := by kernel_rfl
theorem s010_f : run [0, 1, 0] false = true := by kernel_rfl
theorem s1_f : run [1] false = true := by kernel_rfl
end Go.Proofs.YtejjhikbdchjaaaGreat.auditTimes
