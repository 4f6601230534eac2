/-
  What the laws ask first ('awake'): AM sees each come to true.
-/
import Derived.Test.YtejjhikbdchjaaaGreatAmOver
namespace Go.Proofs.YtejjhikbdchjaaaGreat
open Go.Am
set_option maxRecDepth 100000
theorem awake14 : isTrueB (callV env 100 14 [] .lf 0) = true := by kernel_rfl
theorem awake26 : isTrueB (callV env 100 26 [] .lf 0) = true := by kernel_rfl
theorem awake34 : isTrueB (callV env 100 34 [] .lf 0) = true := by kernel_rfl
theorem awake41 : isTrueB (callV env 100 41 [] .lf 0) = true := by kernel_rfl
theorem awakes : ∀ f, f ∈ [14, 26, 34, 41] → ∃ d, isTrueB (callV env d f [] .lf 0) = true := by
  intro f hf
  simp only [List.mem_cons, List.not_mem_nil, or_false] at hf
  rcases hf with rfl | rfl | rfl | rfl
  · exact ⟨100, awake14⟩
  · exact ⟨100, awake26⟩
  · exact ⟨100, awake34⟩
  · exact ⟨100, awake41⟩
end Go.Proofs.YtejjhikbdchjaaaGreat
