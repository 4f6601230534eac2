/-
  'AuditTimes': the row's closed facts, one by one (in one declaration they outgrow the kernel's lid).
-/
import Derived.Test.YtejjhikbdchjaaaGreatRows
import Derived.Test.YtejjhikbdchjaaaGreatSeatFacts
import Derived.WalkKit
import Derived.ProofKit
import Derived.OpenShut
namespace Go.Proofs.YtejjhikbdchjaaaGreat.auditTimes
set_option maxRecDepth 100000
theorem k1 : Rows.auditTimesRow.wf (OpenSpec.ofChange Rows.auditTimesSpec) = true := by kernel_rfl
theorem k4 : (Rows.auditTimesRow.inPlace == Tryz.prog.inPlace 10) = true := by kernel_rfl
theorem k5 : (Rows.auditTimesRow.unfollowed == Tryz.prog.unfollowed 10) = true := by kernel_rfl
theorem k6 : (Rows.auditTimesRow.recurses == Tryz.prog.recurses 10) = true := by kernel_rfl
theorem k7 : (Rows.auditTimesRow.named == Tryz.prog.varsNamed 10) = true := by kernel_rfl
theorem k8 : (Rows.auditTimesRow.plainKeys == Tryz.prog.plainKeys) = true := by kernel_rfl
theorem k9 : Tryz.prog.stopsHeard = true := by kernel_rfl
theorem k10 : Tryz.prog.mayEnter = true := by kernel_rfl
theorem k11 : (Rows.auditTimesRow.lifted == Tryz.prog.liftsFinal) = true := by kernel_rfl
theorem k12 : (Tryz.prog.make == some Rows.auditTimesRow.make) = true := by kernel_rfl
theorem closed : joinedFacts Tryz.prog 10 Tryz.f10 Rows.auditTimesSpec Rows.auditTimesRow = true := by
  unfold joinedFacts
  rw [k1, laidOut, mapsRows, k4, k5, k6, k7, k8, k9, k10, k11, k12]
  kernel_rfl
theorem inst : Tryz.f10.isInstance Tryz.prog Rows.auditTimesRow.origin Rows.auditTimesRow.targs := of_decide_eq_true (by kernel_rfl)
theorem named : Tryz.prog.funcNamed Rows.auditTimesRow.func = some 10 := by kernel_rfl
theorem wrapper : Tryz.f10.isWrapper Tryz.prog Rows.auditTimesRow.wrapper Rows.auditTimesRow.mainSum := by
  unfold Func.isWrapper
  first | (rw [if_pos (by decide +kernel)]; kernel_rfl) | (rw [if_neg (by decide +kernel)]; exact ⟨rfl, rfl⟩)
end Go.Proofs.YtejjhikbdchjaaaGreat.auditTimes
