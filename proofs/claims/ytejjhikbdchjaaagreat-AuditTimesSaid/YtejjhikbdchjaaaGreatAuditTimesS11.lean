/-
  'AuditTimes': AM sees it through (part 11).
-/
import Derived.Test.YtejjhikbdchjaaaGreatAuditTimesRun
namespace Go.Proofs.YtejjhikbdchjaaaGreat.auditTimes
set_option maxRecDepth 100000
theorem s2220_f : run [2, 2, 2, 0] false = true := by kernel_rfl
theorem s2211_f : run [2, 2, 1, 1] false = true := by kernel_rfl
theorem s1212_f : run [1, 2, 1, 2] false = true := by kernel_rfl
theorem s2120_f : run [2, 1, 2, 0] false = true := by kernel_rfl
theorem s1211_f : run [1, 2, 1, 1] false = true := by kernel_rfl
theorem s0212_f : run [0, 2, 1, 2] false = true := by kernel_rfl
theorem s2110_f : run [2, 1, 1, 0] false = true := by kernel_rfl
theorem s1201_f : run [1, 2, 0, 1] false = true := by kernel_rfl
theorem s0220_f : run [0, 2, 2, 0] false = true := by kernel_rfl
theorem s220_f : run [2, 2, 0] false = true := by kernel_rfl
theorem s22_f : run [2, 2] false = true := by kernel_rfl
theorem s1020_f : run [1, 0, 2, 0] false = true := by kernel_rfl
theorem s0111_f : run [0, 1, 1, 1] false = true := by kernel_rfl
theorem s120_f : run [1, 2, 0] false = true := by kernel_rfl
theorem s12_f : run [1, 2] false = true := by kernel_rfl
theorem s0101_f : run [0, 1, 0, 1] false = true := by kernel_rfl
theorem s101_f : run [1, 0, 1] false = true := by kernel_rfl
theorem s02_f : run [0, 2] false = true := by kernel_rfl
theorem s001_f : run [0, 0, 1] false = true := by kernel_rfl
theorem s0_f : run [0] false = true := by kernel_rfl
theorem s_f : run [] false = true := by kernel_rfl
end Go.Proofs.YtejjhikbdchjaaaGreat.auditTimes
