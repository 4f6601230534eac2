/-
  'DeskKnown': the row's closed facts, one by one (in one declaration they outgrow the kernel's lid).
-/
import Derived.Test.YtejjhikbdchjaaaGreatRows
import Derived.WalkKit
import Derived.ProofKit
import Derived.OpenShut
namespace Go.Proofs.YtejjhikbdchjaaaGreat.deskKnown
set_option maxRecDepth 100000
theorem k1 : Rows.deskKnownRow.wf (OpenSpec.ofChange Rows.deskKnownSpec) = true := by kernel_rfl
theorem k2 : laidOutB Tryz.prog = true := by kernel_rfl
theorem k3 : mapsRowed Tryz.prog = true := by kernel_rfl
theorem k4 : (Rows.deskKnownRow.inPlace == Tryz.prog.inPlace 3) = true := by kernel_rfl
theorem k5 : (Rows.deskKnownRow.unfollowed == Tryz.prog.unfollowed 3) = true := by kernel_rfl
theorem k6 : (Rows.deskKnownRow.recurses == Tryz.prog.recurses 3) = true := by kernel_rfl
theorem k7 : (Rows.deskKnownRow.named == Tryz.prog.varsNamed 3) = true := by kernel_rfl
theorem k8 : (Rows.deskKnownRow.plainKeys == Tryz.prog.plainKeys) = true := by kernel_rfl
theorem k9 : Tryz.prog.stopsHeard = true := by kernel_rfl
theorem k10 : Tryz.prog.mayEnter = true := by kernel_rfl
theorem k11 : (Rows.deskKnownRow.lifted == Tryz.prog.liftsFinal) = true := by kernel_rfl
theorem k12 : (Tryz.prog.make == some Rows.deskKnownRow.make) = true := by kernel_rfl
theorem closed : joinedFacts Tryz.prog 3 Tryz.f3 Rows.deskKnownSpec Rows.deskKnownRow = true := by
  unfold joinedFacts
  rw [k1, k2, k3, k4, k5, k6, k7, k8, k9, k10, k11, k12]
  kernel_rfl
theorem inst : Tryz.f3.isInstance Tryz.prog Rows.deskKnownRow.origin Rows.deskKnownRow.targs := of_decide_eq_true (by kernel_rfl)
theorem named : Tryz.prog.funcNamed Rows.deskKnownRow.func = some 3 := by kernel_rfl
theorem wrapper : Tryz.f3.isWrapper Tryz.prog Rows.deskKnownRow.wrapper Rows.deskKnownRow.mainSum := by
  unfold Func.isWrapper
  first | (rw [if_pos (by decide +kernel)]; kernel_rfl) | (rw [if_neg (by decide +kernel)]; exact ⟨rfl, rfl⟩)
end Go.Proofs.YtejjhikbdchjaaaGreat.deskKnown
