/-
  'AuditTimes': AM sees it through (part 10).
-/
import Derived.Test.YtejjhikbdchjaaaGreatAuditTimesRun
namespace Go.Proofs.YtejjhikbdchjaaaGreat.auditTimes
set_option maxRecDepth 100000
theorem s2220_t : run [2, 2, 2, 0] true = true := by kernel_rfl
theorem s2211_t : run [2, 2, 1, 1] true = true := by kernel_rfl
theorem s1212_t : run [1, 2, 1, 2] true = true := by kernel_rfl
theorem s2120_t : run [2, 1, 2, 0] true = true := by kernel_rfl
theorem s1211_t : run [1, 2, 1, 1] true = true := by kernel_rfl
theorem s0212_t : run [0, 2, 1, 2] true = true := by kernel_rfl
theorem s2110_t : run [2, 1, 1, 0] true = true := by kernel_rfl
theorem s1201_t : run [1, 2, 0, 1] true = true := by kernel_rfl
theorem s0220_t : run [0, 2, 2, 0] true = true := by kernel_rfl
theorem s220_t : run [2, 2, 0] true = true := by kernel_rfl
theorem s22_t : run [2, 2] true = true := by kernel_rfl
theorem s1020_t : run [1, 0, 2, 0] true = true := by kernel_rfl
theorem s0111_t : run [0, 1, 1, 1] true = true := by kernel_rfl
theorem s120_t : run [1, 2, 0] true = true := by kernel_rfl
theorem s12_t : run [1, 2] true = true := by kernel_rfl
theorem s0101_t : run [0, 1, 0, 1] true = true := by kernel_rfl
theorem s101_t : run [1, 0, 1] true = true := by kernel_rfl
theorem s02_t : run [0, 2] true = true := by kernel_rfl
theorem s001_t : run [0, 0, 1] true = true := by kernel_rfl
theorem s0_t : run [0] true = true := by kernel_rfl
theorem s_t : run [] true = true := by kernel_rfl
end Go.Proofs.YtejjhikbdchjaaaGreat.auditTimes
