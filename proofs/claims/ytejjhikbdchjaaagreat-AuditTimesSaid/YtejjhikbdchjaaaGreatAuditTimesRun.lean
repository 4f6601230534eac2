/-
  'AuditTimes': what AM is to see; a byte has a name alone, of which its remainder by three is known.
-/
import Derived.Test.YtejjhikbdchjaaaGreatAwake
import Derived.Test.YtejjhikbdchjaaaGreatAmLaw
namespace Go.Proofs.YtejjhikbdchjaaaGreat.auditTimes
open Go.Am
set_option maxRecDepth 100000

def remO : Option Nat → Option AV
  | none => none
  | some r => some (.int .u8 (.ofNat r))
def rsym (l : List Nat) : BinOp → AV → AV → Option AV
  | .rem, .sym .u8 i, .int .u8 (.ofNat 3) => remO (nth i l)
  | _, _, _ => none
def syms : Nat → Nat → List AV
  | _, 0 => []
  | i, n + 1 => .sym .u8 i :: syms (i + 1) n
def mem (n : Nat) : Heap := .nd .lf (some (.ro (syms 0 n))) .lf
noncomputable def run (l : List Nat) (apart : Bool) : Bool :=
  isTrue (callX (envS (rsym l) noCnv) (trueOv [14, 26, 34, 41]) 100 10 [.slice 0 0 l.length l.length false 1, .bool apart] (mem l.length) 1)
end Go.Proofs.YtejjhikbdchjaaaGreat.auditTimes
