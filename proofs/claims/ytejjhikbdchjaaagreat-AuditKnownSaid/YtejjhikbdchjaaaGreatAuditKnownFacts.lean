/-
  'AuditKnown': the row's closed facts, one by one (in one declaration they outgrow the kernel's lid).
-/
import Derived.Test.YtejjhikbdchjaaaGreatRows
import Derived.WalkKit
import Derived.ProofKit
import Derived.OpenShut
namespace Go.Proofs.YtejjhikbdchjaaaGreat.auditKnown
set_option maxRecDepth 100000
theorem k1 : Rows.auditKnownRow.wf (OpenSpec.ofChange Rows.auditKnownSpec) = true := by kernel_rfl
theorem k2 : laidOutB Tryz.prog = true := by kernel_rfl
theorem k3 : mapsRowed Tryz.prog = true := by kernel_rfl
theorem k4 : (Rows.auditKnownRow.inPlace == Tryz.prog.inPlace 9) = true := by kernel_rfl
theorem k5 : (Rows.auditKnownRow.unfollowed == Tryz.prog.unfollowed 9) = true := by kernel_rfl
theorem k6 : (Rows.auditKnownRow.recurses == Tryz.prog.recurses 9) = true := by kernel_rfl
theorem k7 : (Rows.auditKnownRow.named == Tryz.prog.varsNamed 9) = true := by kernel_rfl
theorem k8 : (Rows.auditKnownRow.plainKeys == Tryz.prog.plainKeys) = true := by kernel_rfl
theorem k9 : Tryz.prog.stopsHeard = true := by kernel_rfl
theorem k10 : Tryz.prog.mayEnter = true := by kernel_rfl
theorem k11 : (Rows.auditKnownRow.lifted == Tryz.prog.liftsFinal) = true := by kernel_rfl
theorem k12 : (Tryz.prog.make == some Rows.auditKnownRow.make) = true := by kernel_rfl
theorem closed : joinedFacts Tryz.prog 9 Tryz.f9 Rows.auditKnownSpec Rows.auditKnownRow = true := by
  unfold joinedFacts
  rw [k1, k2, k3, k4, k5, k6, k7, k8, k9, k10, k11, k12]
  kernel_rfl
theorem inst : Tryz.f9.isInstance Tryz.prog Rows.auditKnownRow.origin Rows.auditKnownRow.targs := of_decide_eq_true (by kernel_rfl)
theorem named : Tryz.prog.funcNamed Rows.auditKnownRow.func = some 9 := by kernel_rfl
theorem wrapper : Tryz.f9.isWrapper Tryz.prog Rows.auditKnownRow.wrapper Rows.auditKnownRow.mainSum := by
  unfold Func.isWrapper
  first | (rw [if_pos (by decide +kernel)]; kernel_rfl) | (rw [if_neg (by decide +kernel)]; exact ⟨rfl, rfl⟩)
end Go.Proofs.YtejjhikbdchjaaaGreat.auditKnown
