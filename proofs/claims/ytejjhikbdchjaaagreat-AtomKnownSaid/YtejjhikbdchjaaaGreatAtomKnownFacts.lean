/-
  'AtomKnown': the row's closed facts, one by one (in one declaration they outgrow the kernel's lid).
-/
import Derived.Test.YtejjhikbdchjaaaGreatRows
import Derived.WalkKit
import Derived.ProofKit
import Derived.OpenShut
namespace Go.Proofs.YtejjhikbdchjaaaGreat.atomKnown
set_option maxRecDepth 100000
theorem k1 : Rows.atomKnownRow.wf (OpenSpec.ofChange Rows.atomKnownSpec) = true := by kernel_rfl
theorem k2 : laidOutB Tryz.prog = true := by kernel_rfl
theorem k3 : mapsRowed Tryz.prog = true := by kernel_rfl
theorem k4 : (Rows.atomKnownRow.inPlace == Tryz.prog.inPlace 6) = true := by kernel_rfl
theorem k5 : (Rows.atomKnownRow.unfollowed == Tryz.prog.unfollowed 6) = true := by kernel_rfl
theorem k6 : (Rows.atomKnownRow.recurses == Tryz.prog.recurses 6) = true := by kernel_rfl
theorem k7 : (Rows.atomKnownRow.named == Tryz.prog.varsNamed 6) = true := by kernel_rfl
theorem k8 : (Rows.atomKnownRow.plainKeys == Tryz.prog.plainKeys) = true := by kernel_rfl
theorem k9 : Tryz.prog.stopsHeard = true := by kernel_rfl
theorem k10 : Tryz.prog.mayEnter = true := by kernel_rfl
theorem k11 : (Rows.atomKnownRow.lifted == Tryz.prog.liftsFinal) = true := by kernel_rfl
theorem k12 : (Tryz.prog.make == some Rows.atomKnownRow.make) = true := by kernel_rfl
theorem closed : joinedFacts Tryz.prog 6 Tryz.f6 Rows.atomKnownSpec Rows.atomKnownRow = true := by
  unfold joinedFacts
  rw [k1, k2, k3, k4, k5, k6, k7, k8, k9, k10, k11, k12]
  kernel_rfl
theorem inst : Tryz.f6.isInstance Tryz.prog Rows.atomKnownRow.origin Rows.atomKnownRow.targs := of_decide_eq_true (by kernel_rfl)
theorem named : Tryz.prog.funcNamed Rows.atomKnownRow.func = some 6 := by kernel_rfl
theorem wrapper : Tryz.f6.isWrapper Tryz.prog Rows.atomKnownRow.wrapper Rows.atomKnownRow.mainSum := by
  unfold Func.isWrapper
  first | (rw [if_pos (by decide +kernel)]; kernel_rfl) | (rw [if_neg (by decide +kernel)]; exact ⟨rfl, rfl⟩)
end Go.Proofs.YtejjhikbdchjaaaGreat.atomKnown
