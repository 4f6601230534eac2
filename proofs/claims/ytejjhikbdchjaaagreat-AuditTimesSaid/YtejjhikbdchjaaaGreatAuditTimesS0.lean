/-
  'AuditTimes': AM sees it through (part 0).
-/
import Derived.Test.YtejjhikbdchjaaaGreatAuditTimesRun
namespace Go.Proofs.YtejjhikbdchjaaaGreat.auditTimes
set_option maxRecDepth 100000
theorem s2222_t : run [2, 2, 2, 2] true = true := by kernel_rfl
theorem s1221_t : run [1, 2, 2, 1] true = true := by kernel_rfl
theorem s2201_t : run [2, 2, 0, 1] true = true := by kernel_rfl
theorem s1220_t : run [1, 2, 2, 0] true = true := by kernel_rfl
theorem s0221_t : run [0, 2, 2, 1] true = true := by kernel_rfl
theorem s2200_t : run [2, 2, 0, 0] true = true := by kernel_rfl
theorem s2020_t : run [2, 0, 2, 0] true = true := by kernel_rfl
theorem s1111_t : run [1, 1, 1, 1] true = true := by kernel_rfl
theorem s0202_t : run [0, 2, 0, 2] true = true := by kernel_rfl
theorem s202_t : run [2, 0, 2] true = true := by kernel_rfl
theorem s2010_t : run [2, 0, 1, 0] true = true := by kernel_rfl
theorem s1011_t : run [1, 0, 1, 1] true = true := by kernel_rfl
theorem s0102_t : run [0, 1, 0, 2] true = true := by kernel_rfl
theorem s111_t : run [1, 1, 1] true = true := by kernel_rfl
theorem s2000_t : run [2, 0, 0, 0] true = true := by kernel_rfl
theorem s0110_t : run [0, 1, 1, 0] true = true := by kernel_rfl
theorem s110_t : run [1, 1, 0] true = true := by kernel_rfl
theorem s11_t : run [1, 1] true = true := by kernel_rfl
theorem s2_t : run [2] true = true := by kernel_rfl
theorem s000_t : run [0, 0, 0] true = true := by kernel_rfl
end Go.Proofs.YtejjhikbdchjaaaGreat.auditTimes
