/-
  'AuditTimes': AM sees it through (part 5).
-/
import Derived.Test.YtejjhikbdchjaaaGreatAuditTimesRun
namespace Go.Proofs.YtejjhikbdchjaaaGreat.auditTimes
set_option maxRecDepth 100000
theorem s2212_f : run [2, 2, 1, 2] false = true := by kernel_rfl
theorem s2121_f : run [2, 1, 2, 1] false = true := by kernel_rfl
theorem s0222_f : run [0, 2, 2, 2] false = true := by kernel_rfl
theorem s2012_f : run [2, 0, 1, 2] false = true := by kernel_rfl
theorem s1022_f : run [1, 0, 2, 2] false = true := by kernel_rfl
theorem s122_f : run [1, 2, 2] false = true := by kernel_rfl
theorem s1210_f : run [1, 2, 1, 0] false = true := by kernel_rfl
theorem s1012_f : run [1, 0, 1, 2] false = true := by kernel_rfl
theorem s0022_f : run [0, 0, 2, 2] false = true := by kernel_rfl
theorem s022_f : run [0, 2, 2] false = true := by kernel_rfl
theorem s1110_f : run [1, 1, 1, 0] false = true := by kernel_rfl
theorem s0201_f : run [0, 2, 0, 1] false = true := by kernel_rfl
theorem s210_f : run [2, 1, 0] false = true := by kernel_rfl
theorem s102_f : run [1, 0, 2] false = true := by kernel_rfl
theorem s1100_f : run [1, 1, 0, 0] false = true := by kernel_rfl
theorem s0020_f : run [0, 0, 2, 0] false = true := by kernel_rfl
theorem s020_f : run [0, 2, 0] false = true := by kernel_rfl
theorem s1000_f : run [1, 0, 0, 0] false = true := by kernel_rfl
theorem s100_f : run [1, 0, 0] false = true := by kernel_rfl
theorem s01_f : run [0, 1] false = true := by kernel_rfl
end Go.Proofs.YtejjhikbdchjaaaGreat.auditTimes
