/-
  'AuditTimes': AM sees it through (part 9).
-/
import Derived.Test.YtejjhikbdchjaaaGreatAuditTimesRun
namespace Go.Proofs.YtejjhikbdchjaaaGreat.auditTimes
set_option maxRecDepth 100000
theorem s1222_f : run [1, 2, 2, 2] false = true := by kernel_rfl
theorem s2022_f : run [2, 0, 2, 2] false = true := by kernel_rfl
theorem s2210_f : run [2, 2, 1, 0] false = true := by kernel_rfl
theorem s2111_f : run [2, 1, 1, 1] false = true := by kernel_rfl
theorem s1202_f : run [1, 2, 0, 2] false = true := by kernel_rfl
theorem s0122_f : run [0, 1, 2, 2] false = true := by kernel_rfl
theorem s2101_f : run [2, 1, 0, 1] false = true := by kernel_rfl
theorem s1120_f : run [1, 1, 2, 0] false = true := by kernel_rfl
theorem s0211_f : run [0, 2, 1, 1] false = true := by kernel_rfl
theorem s211_f : run [2, 1, 1] false = true := by kernel_rfl
theorem s2100_f : run [2, 1, 0, 0] false = true := by kernel_rfl
theorem s1101_f : run [1, 1, 0, 1] false = true := by kernel_rfl
theorem s0120_f : run [0, 1, 2, 0] false = true := by kernel_rfl
theorem s201_f : run [2, 0, 1] false = true := by kernel_rfl
theorem s21_f : run [2, 1] false = true := by kernel_rfl
theorem s0200_f : run [0, 2, 0, 0] false = true := by kernel_rfl
theorem s200_f : run [2, 0, 0] false = true := by kernel_rfl
theorem s20_f : run [2, 0] false = true := by kernel_rfl
theorem s0001_f : run [0, 0, 0, 1] false = true := by kernel_rfl
theorem s00_f : run [0, 0] false = true := by kernel_rfl
end Go.Proofs.YtejjhikbdchjaaaGreat.auditTimes
