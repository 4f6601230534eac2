/-
  AM sees 'AuditKnown' through.
-/
import Derived.Test.YtejjhikbdchjaaaGreatAmClosed
namespace Go.Proofs.YtejjhikbdchjaaaGreat.auditKnown
set_option maxRecDepth 100000
theorem seen : isTrue (Go.Am.callV env 100 9 [] .lf 0) = true := by kernel_rfl
end Go.Proofs.YtejjhikbdchjaaaGreat.auditKnown
