/-
  'AuditTimes': AM sees it through (part 8).
-/
import Derived.Test.YtejjhikbdchjaaaGreatAuditTimesRun
namespace Go.Proofs.YtejjhikbdchjaaaGreat.auditTimes
set_option maxRecDepth 100000
theorem s1222_t : run [1, 2, 2, 2] true = true := by kernel_rfl
theorem s2022_t : run [2, 0, 2, 2] true = true := by kernel_rfl
theorem s2210_t : run [2, 2, 1, 0] true = true := by kernel_rfl
theorem s2111_t : run [2, 1, 1, 1] true = true := by kernel_rfl
theorem s1202_t : run [1, 2, 0, 2] true = true := by kernel_rfl
theorem s0122_t : run [0, 1, 2, 2] true = true := by kernel_rfl
theorem s2101_t : run [2, 1, 0, 1] true = true := by kernel_rfl
theorem s1120_t : run [1, 1, 2, 0] true = true := by kernel_rfl
theorem s0211_t : run [0, 2, 1, 1] true = true := by kernel_rfl
theorem s211_t : run [2, 1, 1] true = true := by kernel_rfl
theorem s2100_t : run [2, 1, 0, 0] true = true := by kernel_rfl
theorem s1101_t : run [1, 1, 0, 1] true = true := by kernel_rfl
theorem s0120_t : run [0, 1, 2, 0] true = true := by kernel_rfl
theorem s201_t : run [2, 0, 1] true = true := by kernel_rfl
theorem s21_t : run [2, 1] true = true := by kernel_rfl
theorem s0200_t : run [0, 2, 0, 0] true = true := by kernel_rfl
theorem s200_t : run [2, 0, 0] true = true := by kernel_rfl
theorem s20_t : run [2, 0] true = true := by kernel_rfl
theorem s0001_t : run [0, 0, 0, 1] true = true := by kernel_rfl
theorem s00_t : run [0, 0] true = true := by kernel_rfl
end Go.Proofs.YtejjhikbdchjaaaGreat.auditTimes
