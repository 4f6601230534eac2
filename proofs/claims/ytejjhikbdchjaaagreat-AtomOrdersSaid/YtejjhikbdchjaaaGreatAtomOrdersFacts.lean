/-
  'AtomOrders': the row's closed facts, one by one (in one declaration they outgrow the kernel's lid).
-/
import Derived.Test.YtejjhikbdchjaaaGreatRows
import Derived.Test.YtejjhikbdchjaaaGreatSeatFacts
import Derived.WalkKit
import Derived.ProofKit
import Derived.OpenShut
namespace Go.Proofs.YtejjhikbdchjaaaGreat.atomOrders
set_option maxRecDepth 100000
theorem k1 : Rows.atomOrdersRow.wf (OpenSpec.ofChange Rows.atomOrdersSpec) = true := by kernel_rfl
theorem k4 : (Rows.atomOrdersRow.inPlace == Tryz.prog.inPlace 5) = true := by kernel_rfl
theorem k5 : (Rows.atomOrdersRow.unfollowed == Tryz.prog.unfollowed 5) = true := by kernel_rfl
theorem k6 : (Rows.atomOrdersRow.recurses == Tryz.prog.recurses 5) = true := by kernel_rfl
theorem k7 : (Rows.atomOrdersRow.named == Tryz.prog.varsNamed 5) = true := by kernel_rfl
theorem k8 : (Rows.atomOrdersRow.plainKeys == Tryz.prog.plainKeys) = true := by kernel_rfl
theorem k9 : Tryz.prog.stopsHeard = true := by kernel_rfl
theorem k10 : Tryz.prog.mayEnter = true := by kernel_rfl
theorem k11 : (Rows.atomOrdersRow.lifted == Tryz.prog.liftsFinal) = true := by kernel_rfl
theorem k12 : (Tryz.prog.make == some Rows.atomOrdersRow.make) = true := by kernel_rfl
theorem closed : joinedFacts Tryz.prog 5 Tryz.f5 Rows.atomOrdersSpec Rows.atomOrdersRow = true := by
  unfold joinedFacts
  rw [k1, laidOut, mapsRows, k4, k5, k6, k7, k8, k9, k10, k11, k12]
  kernel_rfl
theorem inst : Tryz.f5.isInstance Tryz.prog Rows.atomOrdersRow.origin Rows.atomOrdersRow.targs := of_decide_eq_true (by kernel_rfl)
theorem named : Tryz.prog.funcNamed Rows.atomOrdersRow.func = some 5 := by kernel_rfl
theorem wrapper : Tryz.f5.isWrapper Tryz.prog Rows.atomOrdersRow.wrapper Rows.atomOrdersRow.mainSum := by
  unfold Func.isWrapper
  first | (rw [if_pos (by decide +kernel)]; kernel_rfl) | (rw [if_neg (by decide +kernel)]; exact ⟨rfl, rfl⟩)
end Go.Proofs.YtejjhikbdchjaaaGreat.atomOrders
