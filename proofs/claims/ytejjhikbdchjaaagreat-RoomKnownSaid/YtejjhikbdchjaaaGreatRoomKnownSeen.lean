/-
  AM sees 'RoomKnown' through.
-/
import Derived.Test.YtejjhikbdchjaaaGreatAmClosed
namespace Go.Proofs.YtejjhikbdchjaaaGreat.roomKnown
set_option maxRecDepth 100000
theorem seen : isTrue (Go.Am.callV env 100 11 [] .lf 0) = true := by kernel_rfl
end Go.Proofs.YtejjhikbdchjaaaGreat.roomKnown
