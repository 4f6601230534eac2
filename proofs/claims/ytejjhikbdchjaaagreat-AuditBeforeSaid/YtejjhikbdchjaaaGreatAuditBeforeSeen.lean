/-
  'AuditBefore': AM sees it through, whatever the three tests on the numbers come to.
-/
import Derived.Test.YtejjhikbdchjaaaGreatAwake
import Derived.Test.YtejjhikbdchjaaaGreatAmLaw
namespace Go.Proofs.YtejjhikbdchjaaaGreat.auditBefore
open Go.Am
set_option maxRecDepth 100000

def bsym (p q r : Bool) : BinOp → AV → AV → Option AV
  | .lss, .sym .i64 3, .sym .i64 6 => some (.bool p)
  | .eql, .sym .i64 0, .sym .i64 4 => some (.bool q)
  | .lss, .sym .i64 1, .sym .i64 5 => some (.bool r)
  | _, _, _ => none
abbrev inp : List AV := [.agg [.sym .i64 0, .sym .i64 1, .sym .i64 2, .sym .i64 3], .agg [.sym .i64 4, .sym .i64 5, .sym .i64 6, .sym .i64 7]]

theorem seen (p q r : Bool) : isTrue (callX (envS (bsym p q r) noCnv) (trueOv [14, 26, 34, 41]) 100 8 inp .lf 0) = true := by
  cases p <;> cases q <;> cases r <;> kernel_rfl
end Go.Proofs.YtejjhikbdchjaaaGreat.auditBefore
