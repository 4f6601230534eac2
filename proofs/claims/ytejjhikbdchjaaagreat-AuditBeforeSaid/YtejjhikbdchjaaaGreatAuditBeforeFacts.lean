/-
  'AuditBefore': the row's closed facts, one by one (in one declaration they outgrow the kernel's lid).
-/
import Derived.Test.YtejjhikbdchjaaaGreatRows
import Derived.Test.YtejjhikbdchjaaaGreatSeatFacts
import Derived.WalkKit
import Derived.ProofKit
import Derived.OpenShut
namespace Go.Proofs.YtejjhikbdchjaaaGreat.auditBefore
set_option maxRecDepth 100000
theorem k1 : Rows.auditBeforeRow.wf (OpenSpec.ofChange Rows.auditBeforeSpec) = true := by kernel_rfl
theorem k4 : (Rows.auditBeforeRow.inPlace == Tryz.prog.inPlace 8) = true := by kernel_rfl
theorem k5 : (Rows.auditBeforeRow.unfollowed == Tryz.prog.unfollowed 8) = true := by kernel_rfl
theorem k6 : (Rows.auditBeforeRow.recurses == Tryz.prog.recurses 8) = true := by kernel_rfl
theorem k7 : (Rows.auditBeforeRow.named == Tryz.prog.varsNamed 8) = true := by kernel_rfl
theorem k8 : (Rows.auditBeforeRow.plainKeys == Tryz.prog.plainKeys) = true := by kernel_rfl
theorem k9 : Tryz.prog.stopsHeard = true := by kernel_rfl
theorem k10 : Tryz.prog.mayEnter = true := by kernel_rfl
theorem k11 : (Rows.auditBeforeRow.lifted == Tryz.prog.liftsFinal) = true := by kernel_rfl
theorem k12 : (Tryz.prog.make == some Rows.auditBeforeRow.make) = true := by kernel_rfl
theorem closed : joinedFacts Tryz.prog 8 Tryz.f8 Rows.auditBeforeSpec Rows.auditBeforeRow = true := by
  unfold joinedFacts
  rw [k1, laidOut, mapsRows, k4, k5, k6, k7, k8, k9, k10, k11, k12]
  kernel_rfl
theorem inst : Tryz.f8.isInstance Tryz.prog Rows.auditBeforeRow.origin Rows.auditBeforeRow.targs := of_decide_eq_true (by kernel_rfl)
theorem named : Tryz.prog.funcNamed Rows.auditBeforeRow.func = some 8 := by kernel_rfl
theorem wrapper : Tryz.f8.isWrapper Tryz.prog Rows.auditBeforeRow.wrapper Rows.auditBeforeRow.mainSum := by
  unfold Func.isWrapper
  first | (rw [if_pos (by decide +kernel)]; kernel_rfl) | (rw [if_neg (by decide +kernel)]; exact ⟨rfl, rfl⟩)
end Go.Proofs.YtejjhikbdchjaaaGreat.auditBefore
