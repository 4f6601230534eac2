/-
  AM sees 'AtomKnown' through.
-/
import Derived.Test.YtejjhikbdchjaaaGreatAmClosed
namespace Go.Proofs.YtejjhikbdchjaaaGreat.atomKnown
set_option maxRecDepth 100000
theorem seen : isTrue (Go.Am.callV env 100 6 [] .lf 0) = true := by kernel_rfl
end Go.Proofs.YtejjhikbdchjaaaGreat.atomKnown
