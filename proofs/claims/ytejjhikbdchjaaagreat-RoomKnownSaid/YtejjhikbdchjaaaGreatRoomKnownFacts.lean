/-
  'RoomKnown': the row's closed facts, one by one (in one declaration they outgrow the kernel's lid).
-/
import Derived.Test.YtejjhikbdchjaaaGreatRows
import Derived.WalkKit
import Derived.ProofKit
import Derived.OpenShut
namespace Go.Proofs.YtejjhikbdchjaaaGreat.roomKnown
set_option maxRecDepth 100000
theorem k1 : Rows.roomKnownRow.wf (OpenSpec.ofChange Rows.roomKnownSpec) = true := by kernel_rfl
theorem k2 : laidOutB Tryz.prog = true := by kernel_rfl
theorem k3 : mapsRowed Tryz.prog = true := by kernel_rfl
theorem k4 : (Rows.roomKnownRow.inPlace == Tryz.prog.inPlace 11) = true := by kernel_rfl
theorem k5 : (Rows.roomKnownRow.unfollowed == Tryz.prog.unfollowed 11) = true := by kernel_rfl
theorem k6 : (Rows.roomKnownRow.recurses == Tryz.prog.recurses 11) = true := by kernel_rfl
theorem k7 : (Rows.roomKnownRow.named == Tryz.prog.varsNamed 11) = true := by kernel_rfl
theorem k8 : (Rows.roomKnownRow.plainKeys == Tryz.prog.plainKeys) = true := by kernel_rfl
theorem k9 : Tryz.prog.stopsHeard = true := by kernel_rfl
theorem k10 : Tryz.prog.mayEnter = true := by kernel_rfl
theorem k11 : (Rows.roomKnownRow.lifted == Tryz.prog.liftsFinal) = true := by kernel_rfl
theorem k12 : (Tryz.prog.make == some Rows.roomKnownRow.make) = true := by kernel_rfl
theorem closed : joinedFacts Tryz.prog 11 Tryz.f11 Rows.roomKnownSpec Rows.roomKnownRow = true := by
  unfold joinedFacts
  rw [k1, k2, k3, k4, k5, k6, k7, k8, k9, k10, k11, k12]
  kernel_rfl
theorem inst : Tryz.f11.isInstance Tryz.prog Rows.roomKnownRow.origin Rows.roomKnownRow.targs := of_decide_eq_true (by kernel_rfl)
theorem named : Tryz.prog.funcNamed Rows.roomKnownRow.func = some 11 := by kernel_rfl
theorem wrapper : Tryz.f11.isWrapper Tryz.prog Rows.roomKnownRow.wrapper Rows.roomKnownRow.mainSum := by
  unfold Func.isWrapper
  first | (rw [if_pos (by decide +kernel)]; kernel_rfl) | (rw [if_neg (by decide +kernel)]; exact ⟨rfl, rfl⟩)
end Go.Proofs.YtejjhikbdchjaaaGreat.roomKnown
