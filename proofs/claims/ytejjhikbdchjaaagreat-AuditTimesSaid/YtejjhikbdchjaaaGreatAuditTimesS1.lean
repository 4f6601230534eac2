/-
  'AuditTimes': AM sees it through (part 1).
-/
import Derived.Test.YtejjhikbdchjaaaGreatAuditTimesRun
namespace Go.Proofs.YtejjhikbdchjaaaGreat.auditTimes
set_option maxRecDepth 100000
theorem s2222_f : run [2, 2, 2, 2] false = true := by kernel_rfl
theorem s1221_f : run [1, 2, 2, 1] false = true := by kernel_rfl
theorem s2201_f : run [2, 2, 0, 1] false = true := by kernel_rfl
theorem s1220_f : run [1, 2, 2, 0] false = true := by kernel_rfl
theorem s0221_f : run [0, 2, 2, 1] false = true := by kernel_rfl
theorem s2200_f : run [2, 2, 0, 0] false = true := by kernel_rfl
theorem s2020_f : run [2, 0, 2, 0] false = true := by kernel_rfl
theorem s1111_f : run [1, 1, 1, 1] false = true := by kernel_rfl
theorem s0202_f : run [0, 2, 0, 2] false = true := by kernel_rfl
theorem s202_f : run [2, 0, 2] false = true := by kernel_rfl
theorem s2010_f : run [2, 0, 1, 0] false = true := by kernel_rfl
theorem s1011_f : run [1, 0, 1, 1] false = true := by kernel_rfl
theorem s0102_f : run [0, 1, 0, 2] false = true := by kernel_rfl
theorem s111_f : run [1, 1, 1] false = true := by kernel_rfl
theorem s2000_f : run [2, 0, 0, 0] false = true := by kernel_rfl
theorem s0110_f : run [0, 1, 1, 0] false = true := by kernel_rfl
theorem s110_f : run [1, 1, 0] false = true := by kernel_rfl
theorem s11_f : run [1, 1] false = true := by kernel_rfl
theorem s2_f : run [2] false = true := by kernel_rfl
theorem s000_f : run [0, 0, 0] false = true := by kernel_rfl
end Go.Proofs.YtejjhikbdchjaaaGreat.auditTimes
