/-
  AM sees 'DeskKnown' through.
-/
import Derived.Test.YtejjhikbdchjaaaGreatAwake
namespace Go.Proofs.YtejjhikbdchjaaaGreat.deskKnown
set_option maxRecDepth 100000
theorem seen : isTrue (Go.Am.callX env (trueOv [14, 26, 34, 41]) 100 3 [] .lf 0) = true := by kernel_rfl
end Go.Proofs.YtejjhikbdchjaaaGreat.deskKnown
