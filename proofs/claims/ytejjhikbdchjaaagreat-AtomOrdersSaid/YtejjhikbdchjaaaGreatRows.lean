/-
  No cell of these rows narrows 'for every input' (looked for: loops, veiled, ifaces, maps, wideKeys, modest, calm, conditions, laid).
  DERIVED. THE GIVEN ROWS OF THIS SEAT. 11 by the template 'for every input the law returns true; each argument reads behind the call as it read before'; 0 by the template 'total and deterministic' (their statements: YtejjhikbdchjaaaGreatTotals.lean).
  GIVEN WITH THE SEED: the statements are not yours to turn. If you find one false, say at which input.
  Laid BY PROGRAM, IN A SANDBOX (cutbox-rows.mjs): the forced cells as the released guide's own fill.sh prints them over the translation 4cb2cd64e06c94f7… (all of the seat's roots in one cut). By AI agents, Wed Nov 11 2026. No macro, syntax, notation, axiom, sorry.
-/
import Derived.Test.YtejjhikbdchjaaaGreatChecked
import GoSem.Claim
import GoSem.ClaimJoined
import GoSem.ClaimMapViews
import Derived.JoinedTies
import Derived.KernelRfl
namespace Go.Proofs.YtejjhikbdchjaaaGreat
/- THE CELL 'sum', in the pinned program and in every row, IS THE sha256 OF THE DUMP (.gsa) THAT YtejjhikbdchjaaaGreatProg.lean LOADS. Nothing in Lean hashes anything: it is a label: what it is worth is what the hold of that sum in a sandbox is worth. -/
noncomputable def Tryz.pinned : Pinned := { name := "ytejjhikbdchjaaagreat", sum := "4cb2cd64e06c94f7cb8898677d5d6097cad4167895c9fc917d8a556bdab4c8d9", checked := Tryz.checked }
namespace Rows
def none {H : Type} : Left H := { results := [], args := [] }

/-- 'backstitchlaw20.DeskKnown': WHATEVER THE INPUT: true; the input reads as it did. -/
def deskKnownSpec : ChangeSpec := { name := "deskKnown", fn := fun _ => fun
  | [] => { results := [.lit (.bool true)], args := [] }
  | _ => none }
def deskKnownRow : OpenClaim := { program := "ytejjhikbdchjaaagreat", sum := "4cb2cd64e06c94f7cb8898677d5d6097cad4167895c9fc917d8a556bdab4c8d9", func := "backstitch/backstitchlaw20.DeskKnown", spec := "deskKnown", inPlace := ["gosem.stop:backstitch/op.product", "gosem.stop:backstitch/op.reshaped", "gosem.stop:backstitch/op.alone", "gosem.stop:backstitch/kernel.One", "gosem.stop:backstitch/op.constant", "gosem.stop:backstitch/matrix.Mul", "gosem.stop:backstitch/matrix.Sum", "gosem.stop:backstitch/kernel.Spread", "gosem.stop:backstitch/kernel.Reshape", "gosem.stop:(backstitch/hook.deed).scale", "gosem.stop:backstitch/tensor.Map", "gosem.stop:(backstitch/hook.deed).clip", "gosem.stop:(backstitch/hook.deed).zero", "gosem.stop:backstitch/tensor.Finite", "gosem.stop:(*backstitch/rule.step).sub", "gosem.stop:(*backstitch/rule.step).div", "gosem.stop:(*backstitch/rule.step).neg1", "gosem.stop:(*backstitch/rule.step).exp", "gosem.stop:(*backstitch/rule.step).log", "gosem.stop:(*backstitch/rule.step).relu", "gosem.stop:(*backstitch/rule.step).matmul", "gosem.stop:(*backstitch/rule.step).sum", "gosem.stop:(*backstitch/rule.step).pass", "gosem.stop:(*backstitch/rule.step).reshape", "gosem.stop:(*backstitch/rule.step).none", "gosem.stop:(*backstitch/back.Walk).Inner", "gosem.stop:(*backstitch/back.Walk).Called", "math.Float64bits"], unfollowed := true, recurses := true, plainKeys := false, apart := false }
def DeskKnownSaid : Prop := deskKnownRow.holds Tryz.pinned (OpenSpec.ofChange deskKnownSpec)

/-- ITS FALSE NEIGHBOUR: 'it returns false'. Refute it at one input. -/
def deskKnownWrong : ChangeSpec := { name := "deskKnown", fn := fun _ => fun
  | [] => { results := [.lit (.bool false)], args := [] }
  | _ => none }
def DeskKnownWrongFalsely : Prop := deskKnownRow.holds Tryz.pinned (OpenSpec.ofChange deskKnownWrong)

/-- 'backstitchlaw20.DeskGraphs': WHATEVER THE INPUT: true; the input reads as it did. -/
def deskGraphsSpec : ChangeSpec := { name := "deskGraphs", fn := fun _ => fun
  | [d1, d2] => { results := [.lit (.bool true)], args := [d1, d2] }
  | _ => none }
def deskGraphsRow : OpenClaim := { program := "ytejjhikbdchjaaagreat", sum := "4cb2cd64e06c94f7cb8898677d5d6097cad4167895c9fc917d8a556bdab4c8d9", func := "backstitch/backstitchlaw20.DeskGraphs", spec := "deskGraphs", inPlace := ["gosem.stop:backstitch/op.product", "gosem.stop:backstitch/op.reshaped", "gosem.stop:backstitch/op.alone", "gosem.stop:backstitch/kernel.One", "gosem.stop:backstitch/op.constant", "gosem.stop:backstitch/matrix.Mul", "gosem.stop:backstitch/matrix.Sum", "gosem.stop:backstitch/kernel.Spread", "gosem.stop:backstitch/kernel.Reshape", "gosem.stop:(backstitch/hook.deed).scale", "gosem.stop:backstitch/tensor.Map", "gosem.stop:(backstitch/hook.deed).clip", "gosem.stop:(backstitch/hook.deed).zero", "gosem.stop:backstitch/tensor.Finite", "gosem.stop:(*backstitch/rule.step).sub", "gosem.stop:(*backstitch/rule.step).div", "gosem.stop:(*backstitch/rule.step).neg1", "gosem.stop:(*backstitch/rule.step).exp", "gosem.stop:(*backstitch/rule.step).log", "gosem.stop:(*backstitch/rule.step).relu", "gosem.stop:(*backstitch/rule.step).matmul", "gosem.stop:(*backstitch/rule.step).sum", "gosem.stop:(*backstitch/rule.step).pass", "gosem.stop:(*backstitch/rule.step).reshape", "gosem.stop:(*backstitch/rule.step).none", "gosem.stop:(*backstitch/back.Walk).Inner", "gosem.stop:(*backstitch/back.Walk).Called", "gosem.stop:(*backstitch/backstitchref19.Shelf).Set", "gosem.stop:(*backstitch/backstitchref19.Desk).forward", "gosem.stop:(*backstitch/backstitchref19.Desk).backward", "gosem.stop:(*backstitch/backstitchref19.Shelf).in", "gosem.stop:(*backstitch/backstitchref19.Shelf).Zero", "math.Float64bits"], unfollowed := true, recurses := true, plainKeys := false, apart := false }
def DeskGraphsSaid : Prop := deskGraphsRow.holds Tryz.pinned (OpenSpec.ofChange deskGraphsSpec)

/-- ITS FALSE NEIGHBOUR: 'it returns false'. Refute it at one input. -/
def deskGraphsWrong : ChangeSpec := { name := "deskGraphs", fn := fun _ => fun
  | [d1, d2] => { results := [.lit (.bool false)], args := [d1, d2] }
  | _ => none }
def DeskGraphsWrongFalsely : Prop := deskGraphsRow.holds Tryz.pinned (OpenSpec.ofChange deskGraphsWrong)

/-- 'backstitchlaw22.AtomOrders': WHATEVER THE INPUT: true; the input reads as it did. -/
def atomOrdersSpec : ChangeSpec := { name := "atomOrders", fn := fun _ => fun
  | [d] => { results := [.lit (.bool true)], args := [d] }
  | _ => none }
def atomOrdersRow : OpenClaim := { program := "ytejjhikbdchjaaagreat", sum := "4cb2cd64e06c94f7cb8898677d5d6097cad4167895c9fc917d8a556bdab4c8d9", func := "backstitch/backstitchlaw22.AtomOrders", spec := "atomOrders", inPlace := ["gosem.stop:backstitch/op.product", "gosem.stop:backstitch/op.reshaped", "gosem.stop:backstitch/op.alone", "gosem.stop:backstitch/kernel.One", "gosem.stop:backstitch/op.constant", "gosem.stop:backstitch/matrix.Mul", "gosem.stop:backstitch/matrix.Sum", "gosem.stop:backstitch/kernel.Spread", "gosem.stop:backstitch/kernel.Reshape", "gosem.stop:(backstitch/hook.deed).scale", "gosem.stop:backstitch/tensor.Map", "gosem.stop:(backstitch/hook.deed).clip", "gosem.stop:(backstitch/hook.deed).zero", "gosem.stop:backstitch/tensor.Finite", "gosem.stop:(*backstitch/rule.step).sub", "gosem.stop:(*backstitch/rule.step).div", "gosem.stop:(*backstitch/rule.step).neg1", "gosem.stop:(*backstitch/rule.step).exp", "gosem.stop:(*backstitch/rule.step).log", "gosem.stop:(*backstitch/rule.step).relu", "gosem.stop:(*backstitch/rule.step).matmul", "gosem.stop:(*backstitch/rule.step).sum", "gosem.stop:(*backstitch/rule.step).pass", "gosem.stop:(*backstitch/rule.step).reshape", "gosem.stop:(*backstitch/rule.step).none", "gosem.stop:(*backstitch/back.Walk).Inner", "gosem.stop:(*backstitch/back.Walk).Called", "math.Float64bits"], unfollowed := true, recurses := true, plainKeys := false, apart := false }
def AtomOrdersSaid : Prop := atomOrdersRow.holds Tryz.pinned (OpenSpec.ofChange atomOrdersSpec)

/-- ITS FALSE NEIGHBOUR: 'it returns false'. Refute it at one input. -/
def atomOrdersWrong : ChangeSpec := { name := "atomOrders", fn := fun _ => fun
  | [d] => { results := [.lit (.bool false)], args := [d] }
  | _ => none }
def AtomOrdersWrongFalsely : Prop := atomOrdersRow.holds Tryz.pinned (OpenSpec.ofChange atomOrdersWrong)

/-- 'backstitchlaw22.AtomKnown': WHATEVER THE INPUT: true; the input reads as it did. -/
def atomKnownSpec : ChangeSpec := { name := "atomKnown", fn := fun _ => fun
  | [] => { results := [.lit (.bool true)], args := [] }
  | _ => none }
def atomKnownRow : OpenClaim := { program := "ytejjhikbdchjaaagreat", sum := "4cb2cd64e06c94f7cb8898677d5d6097cad4167895c9fc917d8a556bdab4c8d9", func := "backstitch/backstitchlaw22.AtomKnown", spec := "atomKnown", inPlace := ["gosem.stop:backstitch/op.product", "gosem.stop:backstitch/op.reshaped", "gosem.stop:backstitch/op.alone", "gosem.stop:backstitch/kernel.One", "gosem.stop:backstitch/op.constant", "gosem.stop:backstitch/matrix.Mul", "gosem.stop:backstitch/matrix.Sum", "gosem.stop:backstitch/kernel.Spread", "gosem.stop:backstitch/kernel.Reshape", "gosem.stop:(backstitch/hook.deed).scale", "gosem.stop:backstitch/tensor.Map", "gosem.stop:(backstitch/hook.deed).clip", "gosem.stop:(backstitch/hook.deed).zero", "gosem.stop:backstitch/tensor.Finite", "gosem.stop:(*backstitch/rule.step).sub", "gosem.stop:(*backstitch/rule.step).div", "gosem.stop:(*backstitch/rule.step).neg1", "gosem.stop:(*backstitch/rule.step).exp", "gosem.stop:(*backstitch/rule.step).log", "gosem.stop:(*backstitch/rule.step).relu", "gosem.stop:(*backstitch/rule.step).matmul", "gosem.stop:(*backstitch/rule.step).sum", "gosem.stop:(*backstitch/rule.step).pass", "gosem.stop:(*backstitch/rule.step).reshape", "gosem.stop:(*backstitch/rule.step).none", "gosem.stop:(*backstitch/back.Walk).Inner", "gosem.stop:(*backstitch/back.Walk).Called", "math.Float64bits"], unfollowed := true, recurses := true, plainKeys := false, apart := false }
def AtomKnownSaid : Prop := atomKnownRow.holds Tryz.pinned (OpenSpec.ofChange atomKnownSpec)

/-- ITS FALSE NEIGHBOUR: 'it returns false'. Refute it at one input. -/
def atomKnownWrong : ChangeSpec := { name := "atomKnown", fn := fun _ => fun
  | [] => { results := [.lit (.bool false)], args := [] }
  | _ => none }
def AtomKnownWrongFalsely : Prop := atomKnownRow.holds Tryz.pinned (OpenSpec.ofChange atomKnownWrong)

/-- 'backstitchlaw22.AtomApart': WHATEVER THE INPUT: true; the input reads as it did. -/
def atomApartSpec : ChangeSpec := { name := "atomApart", fn := fun _ => fun
  | [d1, d2, d3] => { results := [.lit (.bool true)], args := [d1, d2, d3] }
  | _ => none }
def atomApartRow : OpenClaim := { program := "ytejjhikbdchjaaagreat", sum := "4cb2cd64e06c94f7cb8898677d5d6097cad4167895c9fc917d8a556bdab4c8d9", func := "backstitch/backstitchlaw22.AtomApart", spec := "atomApart", inPlace := ["gosem.stop:backstitch/op.product", "gosem.stop:backstitch/op.reshaped", "gosem.stop:backstitch/op.alone", "gosem.stop:backstitch/kernel.One", "gosem.stop:backstitch/op.constant", "gosem.stop:backstitch/matrix.Mul", "gosem.stop:backstitch/matrix.Sum", "gosem.stop:backstitch/kernel.Spread", "gosem.stop:backstitch/kernel.Reshape", "gosem.stop:(backstitch/hook.deed).scale", "gosem.stop:backstitch/tensor.Map", "gosem.stop:(backstitch/hook.deed).clip", "gosem.stop:(backstitch/hook.deed).zero", "gosem.stop:backstitch/tensor.Finite", "gosem.stop:(*backstitch/rule.step).sub", "gosem.stop:(*backstitch/rule.step).div", "gosem.stop:(*backstitch/rule.step).neg1", "gosem.stop:(*backstitch/rule.step).exp", "gosem.stop:(*backstitch/rule.step).log", "gosem.stop:(*backstitch/rule.step).relu", "gosem.stop:(*backstitch/rule.step).matmul", "gosem.stop:(*backstitch/rule.step).sum", "gosem.stop:(*backstitch/rule.step).pass", "gosem.stop:(*backstitch/rule.step).reshape", "gosem.stop:(*backstitch/rule.step).none", "gosem.stop:(*backstitch/back.Walk).Inner", "gosem.stop:(*backstitch/back.Walk).Called", "math.Float64bits", "gosem.stop:backstitch/backstitchlaw20.Small"], unfollowed := true, recurses := true, plainKeys := false, apart := false }
def AtomApartSaid : Prop := atomApartRow.holds Tryz.pinned (OpenSpec.ofChange atomApartSpec)

/-- ITS FALSE NEIGHBOUR: 'it returns false'. Refute it at one input. -/
def atomApartWrong : ChangeSpec := { name := "atomApart", fn := fun _ => fun
  | [d1, d2, d3] => { results := [.lit (.bool false)], args := [d1, d2, d3] }
  | _ => none }
def AtomApartWrongFalsely : Prop := atomApartRow.holds Tryz.pinned (OpenSpec.ofChange atomApartWrong)

/-- 'backstitchlaw23.AuditBefore': WHATEVER THE INPUT: true; the input reads as it did. -/
def auditBeforeSpec : ChangeSpec := { name := "auditBefore", fn := fun _ => fun
  | [d1, d2] => { results := [.lit (.bool true)], args := [d1, d2] }
  | _ => none }
def auditBeforeRow : OpenClaim := { program := "ytejjhikbdchjaaagreat", sum := "4cb2cd64e06c94f7cb8898677d5d6097cad4167895c9fc917d8a556bdab4c8d9", func := "backstitch/backstitchlaw23.AuditBefore", spec := "auditBefore", inPlace := ["gosem.stop:backstitch/op.product", "gosem.stop:backstitch/op.reshaped", "gosem.stop:backstitch/op.alone", "gosem.stop:backstitch/kernel.One", "gosem.stop:backstitch/op.constant", "gosem.stop:backstitch/matrix.Mul", "gosem.stop:backstitch/matrix.Sum", "gosem.stop:backstitch/kernel.Spread", "gosem.stop:backstitch/kernel.Reshape", "gosem.stop:(backstitch/hook.deed).scale", "gosem.stop:backstitch/tensor.Map", "gosem.stop:(backstitch/hook.deed).clip", "gosem.stop:(backstitch/hook.deed).zero", "gosem.stop:backstitch/tensor.Finite", "gosem.stop:(*backstitch/rule.step).sub", "gosem.stop:(*backstitch/rule.step).div", "gosem.stop:(*backstitch/rule.step).neg1", "gosem.stop:(*backstitch/rule.step).exp", "gosem.stop:(*backstitch/rule.step).log", "gosem.stop:(*backstitch/rule.step).relu", "gosem.stop:(*backstitch/rule.step).matmul", "gosem.stop:(*backstitch/rule.step).sum", "gosem.stop:(*backstitch/rule.step).pass", "gosem.stop:(*backstitch/rule.step).reshape", "gosem.stop:(*backstitch/rule.step).none", "gosem.stop:(*backstitch/back.Walk).Inner", "gosem.stop:(*backstitch/back.Walk).Called", "math.Float64bits"], unfollowed := true, recurses := true, plainKeys := false, apart := false }
def AuditBeforeSaid : Prop := auditBeforeRow.holds Tryz.pinned (OpenSpec.ofChange auditBeforeSpec)

/-- ITS FALSE NEIGHBOUR: 'it returns false'. Refute it at one input. -/
def auditBeforeWrong : ChangeSpec := { name := "auditBefore", fn := fun _ => fun
  | [d1, d2] => { results := [.lit (.bool false)], args := [d1, d2] }
  | _ => none }
def AuditBeforeWrongFalsely : Prop := auditBeforeRow.holds Tryz.pinned (OpenSpec.ofChange auditBeforeWrong)

/-- 'backstitchlaw23.AuditKnown': WHATEVER THE INPUT: true; the input reads as it did. -/
def auditKnownSpec : ChangeSpec := { name := "auditKnown", fn := fun _ => fun
  | [] => { results := [.lit (.bool true)], args := [] }
  | _ => none }
def auditKnownRow : OpenClaim := { program := "ytejjhikbdchjaaagreat", sum := "4cb2cd64e06c94f7cb8898677d5d6097cad4167895c9fc917d8a556bdab4c8d9", func := "backstitch/backstitchlaw23.AuditKnown", spec := "auditKnown", inPlace := ["gosem.stop:backstitch/op.product", "gosem.stop:backstitch/op.reshaped", "gosem.stop:backstitch/op.alone", "gosem.stop:backstitch/kernel.One", "gosem.stop:backstitch/op.constant", "gosem.stop:backstitch/matrix.Mul", "gosem.stop:backstitch/matrix.Sum", "gosem.stop:backstitch/kernel.Spread", "gosem.stop:backstitch/kernel.Reshape", "gosem.stop:(backstitch/hook.deed).scale", "gosem.stop:backstitch/tensor.Map", "gosem.stop:(backstitch/hook.deed).clip", "gosem.stop:(backstitch/hook.deed).zero", "gosem.stop:backstitch/tensor.Finite", "gosem.stop:(*backstitch/rule.step).sub", "gosem.stop:(*backstitch/rule.step).div", "gosem.stop:(*backstitch/rule.step).neg1", "gosem.stop:(*backstitch/rule.step).exp", "gosem.stop:(*backstitch/rule.step).log", "gosem.stop:(*backstitch/rule.step).relu", "gosem.stop:(*backstitch/rule.step).matmul", "gosem.stop:(*backstitch/rule.step).sum", "gosem.stop:(*backstitch/rule.step).pass", "gosem.stop:(*backstitch/rule.step).reshape", "gosem.stop:(*backstitch/rule.step).none", "gosem.stop:(*backstitch/back.Walk).Inner", "gosem.stop:(*backstitch/back.Walk).Called", "math.Float64bits"], unfollowed := true, recurses := true, plainKeys := false, apart := false }
def AuditKnownSaid : Prop := auditKnownRow.holds Tryz.pinned (OpenSpec.ofChange auditKnownSpec)

/-- ITS FALSE NEIGHBOUR: 'it returns false'. Refute it at one input. -/
def auditKnownWrong : ChangeSpec := { name := "auditKnown", fn := fun _ => fun
  | [] => { results := [.lit (.bool false)], args := [] }
  | _ => none }
def AuditKnownWrongFalsely : Prop := auditKnownRow.holds Tryz.pinned (OpenSpec.ofChange auditKnownWrong)

/-- 'backstitchlaw23.AuditTimes': WHATEVER THE INPUT: true; the input reads as it did. -/
def auditTimesSpec : ChangeSpec := { name := "auditTimes", fn := fun _ => fun
  | [d1, d2] => { results := [.lit (.bool true)], args := [d1, d2] }
  | _ => none }
def auditTimesRow : OpenClaim := { program := "ytejjhikbdchjaaagreat", sum := "4cb2cd64e06c94f7cb8898677d5d6097cad4167895c9fc917d8a556bdab4c8d9", func := "backstitch/backstitchlaw23.AuditTimes", spec := "auditTimes", inPlace := ["gosem.stop:backstitch/op.product", "gosem.stop:backstitch/op.reshaped", "gosem.stop:backstitch/op.alone", "gosem.stop:backstitch/kernel.One", "gosem.stop:backstitch/op.constant", "gosem.stop:backstitch/matrix.Mul", "gosem.stop:backstitch/matrix.Sum", "gosem.stop:backstitch/kernel.Spread", "gosem.stop:backstitch/kernel.Reshape", "gosem.stop:(backstitch/hook.deed).scale", "gosem.stop:backstitch/tensor.Map", "gosem.stop:(backstitch/hook.deed).clip", "gosem.stop:(backstitch/hook.deed).zero", "gosem.stop:backstitch/tensor.Finite", "gosem.stop:(*backstitch/rule.step).sub", "gosem.stop:(*backstitch/rule.step).div", "gosem.stop:(*backstitch/rule.step).neg1", "gosem.stop:(*backstitch/rule.step).exp", "gosem.stop:(*backstitch/rule.step).log", "gosem.stop:(*backstitch/rule.step).relu", "gosem.stop:(*backstitch/rule.step).matmul", "gosem.stop:(*backstitch/rule.step).sum", "gosem.stop:(*backstitch/rule.step).pass", "gosem.stop:(*backstitch/rule.step).reshape", "gosem.stop:(*backstitch/rule.step).none", "gosem.stop:(*backstitch/back.Walk).Inner", "gosem.stop:(*backstitch/back.Walk).Called", "math.Float64bits"], unfollowed := true, recurses := true, plainKeys := false, apart := false }
def AuditTimesSaid : Prop := auditTimesRow.holds Tryz.pinned (OpenSpec.ofChange auditTimesSpec)

/-- ITS FALSE NEIGHBOUR: 'it returns false'. Refute it at one input. -/
def auditTimesWrong : ChangeSpec := { name := "auditTimes", fn := fun _ => fun
  | [d1, d2] => { results := [.lit (.bool false)], args := [d1, d2] }
  | _ => none }
def AuditTimesWrongFalsely : Prop := auditTimesRow.holds Tryz.pinned (OpenSpec.ofChange auditTimesWrong)

/-- 'backstitchlaw21.RoomKnown': WHATEVER THE INPUT: true; the input reads as it did. -/
def roomKnownSpec : ChangeSpec := { name := "roomKnown", fn := fun _ => fun
  | [] => { results := [.lit (.bool true)], args := [] }
  | _ => none }
def roomKnownRow : OpenClaim := { program := "ytejjhikbdchjaaagreat", sum := "4cb2cd64e06c94f7cb8898677d5d6097cad4167895c9fc917d8a556bdab4c8d9", func := "backstitch/backstitchlaw21.RoomKnown", spec := "roomKnown", inPlace := ["gosem.stop:backstitch/op.product", "gosem.stop:backstitch/op.reshaped", "gosem.stop:backstitch/op.alone", "gosem.stop:backstitch/kernel.One", "gosem.stop:backstitch/op.constant", "gosem.stop:backstitch/matrix.Mul", "gosem.stop:backstitch/matrix.Sum", "gosem.stop:backstitch/kernel.Spread", "gosem.stop:backstitch/kernel.Reshape", "gosem.stop:(backstitch/hook.deed).scale", "gosem.stop:backstitch/tensor.Map", "gosem.stop:(backstitch/hook.deed).clip", "gosem.stop:(backstitch/hook.deed).zero", "gosem.stop:backstitch/tensor.Finite", "gosem.stop:(*backstitch/crew.frame).fail", "gosem.stop:(*backstitch/back.Walk).Called", "gosem.stop:(*backstitch/back.Walk).Inner", "gosem.stop:(*backstitch/rule.step).sub", "gosem.stop:(*backstitch/rule.step).div", "gosem.stop:(*backstitch/rule.step).neg1", "gosem.stop:(*backstitch/rule.step).exp", "gosem.stop:(*backstitch/rule.step).log", "gosem.stop:(*backstitch/rule.step).relu", "gosem.stop:(*backstitch/rule.step).matmul", "gosem.stop:(*backstitch/rule.step).sum", "gosem.stop:(*backstitch/rule.step).pass", "gosem.stop:(*backstitch/rule.step).reshape", "gosem.stop:(*backstitch/rule.step).none", "math.Float64bits"], unfollowed := true, recurses := true, plainKeys := false, apart := false }
def RoomKnownSaid : Prop := roomKnownRow.holds Tryz.pinned (OpenSpec.ofChange roomKnownSpec)

/-- ITS FALSE NEIGHBOUR: 'it returns false'. Refute it at one input. -/
def roomKnownWrong : ChangeSpec := { name := "roomKnown", fn := fun _ => fun
  | [] => { results := [.lit (.bool false)], args := [] }
  | _ => none }
def RoomKnownWrongFalsely : Prop := roomKnownRow.holds Tryz.pinned (OpenSpec.ofChange roomKnownWrong)

/-- 'backstitchlaw21.RoomSums': WHATEVER THE INPUT: true; the input reads as it did. -/
def roomSumsSpec : ChangeSpec := { name := "roomSums", fn := fun _ => fun
  | [d1, d2, d3] => { results := [.lit (.bool true)], args := [d1, d2, d3] }
  | _ => none }
def roomSumsRow : OpenClaim := { program := "ytejjhikbdchjaaagreat", sum := "4cb2cd64e06c94f7cb8898677d5d6097cad4167895c9fc917d8a556bdab4c8d9", func := "backstitch/backstitchlaw21.RoomSums", spec := "roomSums", inPlace := ["gosem.stop:backstitch/op.product", "gosem.stop:backstitch/op.reshaped", "gosem.stop:backstitch/op.alone", "gosem.stop:backstitch/kernel.One", "gosem.stop:backstitch/op.constant", "gosem.stop:backstitch/matrix.Mul", "gosem.stop:backstitch/matrix.Sum", "gosem.stop:backstitch/kernel.Spread", "gosem.stop:backstitch/kernel.Reshape", "gosem.stop:(backstitch/hook.deed).scale", "gosem.stop:backstitch/tensor.Map", "gosem.stop:(backstitch/hook.deed).clip", "gosem.stop:(backstitch/hook.deed).zero", "gosem.stop:backstitch/tensor.Finite", "gosem.stop:(*backstitch/crew.frame).fail", "gosem.stop:(*backstitch/back.Walk).Called", "gosem.stop:(*backstitch/back.Walk).Inner", "gosem.stop:(*backstitch/rule.step).sub", "gosem.stop:(*backstitch/rule.step).div", "gosem.stop:(*backstitch/rule.step).neg1", "gosem.stop:(*backstitch/rule.step).exp", "gosem.stop:(*backstitch/rule.step).log", "gosem.stop:(*backstitch/rule.step).relu", "gosem.stop:(*backstitch/rule.step).matmul", "gosem.stop:(*backstitch/rule.step).sum", "gosem.stop:(*backstitch/rule.step).pass", "gosem.stop:(*backstitch/rule.step).reshape", "gosem.stop:(*backstitch/rule.step).none", "math.Float64bits"], unfollowed := true, recurses := true, plainKeys := false, apart := false }
def RoomSumsSaid : Prop := roomSumsRow.holds Tryz.pinned (OpenSpec.ofChange roomSumsSpec)

/-- ITS FALSE NEIGHBOUR: 'it returns false'. Refute it at one input. -/
def roomSumsWrong : ChangeSpec := { name := "roomSums", fn := fun _ => fun
  | [d1, d2, d3] => { results := [.lit (.bool false)], args := [d1, d2, d3] }
  | _ => none }
def RoomSumsWrongFalsely : Prop := roomSumsRow.holds Tryz.pinned (OpenSpec.ofChange roomSumsWrong)

/-- 'backstitchlaw21.RoomApart': WHATEVER THE INPUT: true; the input reads as it did. -/
def roomApartSpec : ChangeSpec := { name := "roomApart", fn := fun _ => fun
  | [d1, d2, d3] => { results := [.lit (.bool true)], args := [d1, d2, d3] }
  | _ => none }
def roomApartRow : OpenClaim := { program := "ytejjhikbdchjaaagreat", sum := "4cb2cd64e06c94f7cb8898677d5d6097cad4167895c9fc917d8a556bdab4c8d9", func := "backstitch/backstitchlaw21.RoomApart", spec := "roomApart", inPlace := ["gosem.stop:backstitch/op.product", "gosem.stop:backstitch/op.reshaped", "gosem.stop:backstitch/op.alone", "gosem.stop:backstitch/kernel.One", "gosem.stop:backstitch/op.constant", "gosem.stop:backstitch/matrix.Mul", "gosem.stop:backstitch/matrix.Sum", "gosem.stop:backstitch/kernel.Spread", "gosem.stop:backstitch/kernel.Reshape", "gosem.stop:(backstitch/hook.deed).scale", "gosem.stop:backstitch/tensor.Map", "gosem.stop:(backstitch/hook.deed).clip", "gosem.stop:(backstitch/hook.deed).zero", "gosem.stop:backstitch/tensor.Finite", "gosem.stop:(*backstitch/crew.frame).fail", "gosem.stop:(*backstitch/back.Walk).Called", "gosem.stop:(*backstitch/back.Walk).Inner", "gosem.stop:(*backstitch/rule.step).sub", "gosem.stop:(*backstitch/rule.step).div", "gosem.stop:(*backstitch/rule.step).neg1", "gosem.stop:(*backstitch/rule.step).exp", "gosem.stop:(*backstitch/rule.step).log", "gosem.stop:(*backstitch/rule.step).relu", "gosem.stop:(*backstitch/rule.step).matmul", "gosem.stop:(*backstitch/rule.step).sum", "gosem.stop:(*backstitch/rule.step).pass", "gosem.stop:(*backstitch/rule.step).reshape", "gosem.stop:(*backstitch/rule.step).none", "math.Float64bits"], unfollowed := true, recurses := true, plainKeys := false, apart := false }
def RoomApartSaid : Prop := roomApartRow.holds Tryz.pinned (OpenSpec.ofChange roomApartSpec)

/-- ITS FALSE NEIGHBOUR: 'it returns false'. Refute it at one input. -/
def roomApartWrong : ChangeSpec := { name := "roomApart", fn := fun _ => fun
  | [d1, d2, d3] => { results := [.lit (.bool false)], args := [d1, d2, d3] }
  | _ => none }
def RoomApartWrongFalsely : Prop := roomApartRow.holds Tryz.pinned (OpenSpec.ofChange roomApartWrong)

/- THE SECOND FORM. 'bulk': how many values and letters a reading holds, each counted each time it is reached (what is shared counts as often as it is met; a slice's spare places count too). A statement '..UptoSaid' is the law's where the arguments, and the package variables that the reading takes, are together of bulk at most 1048576: NARROWER than '..Said'. Prove '..Said' where nothing that the law and all that it calls make is longer than what came in: it says more and counts as full. Else prove '..UptoSaid'. A law counts once. -/
mutual
def uptoBulk {H : Type} : DataW H → Nat
  | .lit (.string bytes) => bytes.length + 1
  | .lit _ => 1
  | .nil => 1
  | .ptr d => uptoBulk d + 1
  | .slice elems spare => uptoBulkAll elems + uptoBulkAll spare + 1
  | .agg parts => uptoBulkAll parts + 1
  | .iface _ d => uptoBulk d + 1
  | .map entries => uptoBulkEntries entries + 1
  | .held _ => 1
def uptoBulkAll {H : Type} : List (DataW H) → Nat
  | [] => 0
  | d :: r => uptoBulk d + uptoBulkAll r
def uptoBulkEntries {H : Type} : List (Lit × DataW H) → Nat
  | [] => 0
  | x :: r => uptoBulkEntry x + uptoBulkEntries r
def uptoBulkEntry {H : Type} : Lit × DataW H → Nat
  | (.string bytes, d) => bytes.length + uptoBulk d + 1
  | (_, d) => uptoBulk d + 1
 end
def uptoSmall : (H : Type) → List (DataW H) → Bool := fun _ ds => decide (uptoBulkAll ds ≤ 1048576)
def OpenSpec.upto (s : _root_.Go.ChangeSpec) : _root_.Go.OpenSpec := { _root_.Go.OpenSpec.ofChange s with cond := some uptoSmall }

/-- 'backstitchlaw20.DeskKnown', WHERE WHAT IT READS IS OF BULK AT MOST 1048576: true; the input reads as it did. -/
def deskKnownUptoRow : OpenClaim := { program := "ytejjhikbdchjaaagreat", sum := "4cb2cd64e06c94f7cb8898677d5d6097cad4167895c9fc917d8a556bdab4c8d9", func := "backstitch/backstitchlaw20.DeskKnown", spec := "deskKnown", inPlace := ["gosem.stop:backstitch/op.product", "gosem.stop:backstitch/op.reshaped", "gosem.stop:backstitch/op.alone", "gosem.stop:backstitch/kernel.One", "gosem.stop:backstitch/op.constant", "gosem.stop:backstitch/matrix.Mul", "gosem.stop:backstitch/matrix.Sum", "gosem.stop:backstitch/kernel.Spread", "gosem.stop:backstitch/kernel.Reshape", "gosem.stop:(backstitch/hook.deed).scale", "gosem.stop:backstitch/tensor.Map", "gosem.stop:(backstitch/hook.deed).clip", "gosem.stop:(backstitch/hook.deed).zero", "gosem.stop:backstitch/tensor.Finite", "gosem.stop:(*backstitch/rule.step).sub", "gosem.stop:(*backstitch/rule.step).div", "gosem.stop:(*backstitch/rule.step).neg1", "gosem.stop:(*backstitch/rule.step).exp", "gosem.stop:(*backstitch/rule.step).log", "gosem.stop:(*backstitch/rule.step).relu", "gosem.stop:(*backstitch/rule.step).matmul", "gosem.stop:(*backstitch/rule.step).sum", "gosem.stop:(*backstitch/rule.step).pass", "gosem.stop:(*backstitch/rule.step).reshape", "gosem.stop:(*backstitch/rule.step).none", "gosem.stop:(*backstitch/back.Walk).Inner", "gosem.stop:(*backstitch/back.Walk).Called", "math.Float64bits"], unfollowed := true, recurses := true, plainKeys := false, apart := false, narrowed := true }
def DeskKnownUptoSaid : Prop := deskKnownUptoRow.holds Tryz.pinned (OpenSpec.upto deskKnownSpec)

/-- 'backstitchlaw20.DeskGraphs', WHERE WHAT IT READS IS OF BULK AT MOST 1048576: true; the input reads as it did. -/
def deskGraphsUptoRow : OpenClaim := { program := "ytejjhikbdchjaaagreat", sum := "4cb2cd64e06c94f7cb8898677d5d6097cad4167895c9fc917d8a556bdab4c8d9", func := "backstitch/backstitchlaw20.DeskGraphs", spec := "deskGraphs", inPlace := ["gosem.stop:backstitch/op.product", "gosem.stop:backstitch/op.reshaped", "gosem.stop:backstitch/op.alone", "gosem.stop:backstitch/kernel.One", "gosem.stop:backstitch/op.constant", "gosem.stop:backstitch/matrix.Mul", "gosem.stop:backstitch/matrix.Sum", "gosem.stop:backstitch/kernel.Spread", "gosem.stop:backstitch/kernel.Reshape", "gosem.stop:(backstitch/hook.deed).scale", "gosem.stop:backstitch/tensor.Map", "gosem.stop:(backstitch/hook.deed).clip", "gosem.stop:(backstitch/hook.deed).zero", "gosem.stop:backstitch/tensor.Finite", "gosem.stop:(*backstitch/rule.step).sub", "gosem.stop:(*backstitch/rule.step).div", "gosem.stop:(*backstitch/rule.step).neg1", "gosem.stop:(*backstitch/rule.step).exp", "gosem.stop:(*backstitch/rule.step).log", "gosem.stop:(*backstitch/rule.step).relu", "gosem.stop:(*backstitch/rule.step).matmul", "gosem.stop:(*backstitch/rule.step).sum", "gosem.stop:(*backstitch/rule.step).pass", "gosem.stop:(*backstitch/rule.step).reshape", "gosem.stop:(*backstitch/rule.step).none", "gosem.stop:(*backstitch/back.Walk).Inner", "gosem.stop:(*backstitch/back.Walk).Called", "gosem.stop:(*backstitch/backstitchref19.Shelf).Set", "gosem.stop:(*backstitch/backstitchref19.Desk).forward", "gosem.stop:(*backstitch/backstitchref19.Desk).backward", "gosem.stop:(*backstitch/backstitchref19.Shelf).in", "gosem.stop:(*backstitch/backstitchref19.Shelf).Zero", "math.Float64bits"], unfollowed := true, recurses := true, plainKeys := false, apart := false, narrowed := true }
def DeskGraphsUptoSaid : Prop := deskGraphsUptoRow.holds Tryz.pinned (OpenSpec.upto deskGraphsSpec)

/-- 'backstitchlaw22.AtomOrders', WHERE WHAT IT READS IS OF BULK AT MOST 1048576: true; the input reads as it did. -/
def atomOrdersUptoRow : OpenClaim := { program := "ytejjhikbdchjaaagreat", sum := "4cb2cd64e06c94f7cb8898677d5d6097cad4167895c9fc917d8a556bdab4c8d9", func := "backstitch/backstitchlaw22.AtomOrders", spec := "atomOrders", inPlace := ["gosem.stop:backstitch/op.product", "gosem.stop:backstitch/op.reshaped", "gosem.stop:backstitch/op.alone", "gosem.stop:backstitch/kernel.One", "gosem.stop:backstitch/op.constant", "gosem.stop:backstitch/matrix.Mul", "gosem.stop:backstitch/matrix.Sum", "gosem.stop:backstitch/kernel.Spread", "gosem.stop:backstitch/kernel.Reshape", "gosem.stop:(backstitch/hook.deed).scale", "gosem.stop:backstitch/tensor.Map", "gosem.stop:(backstitch/hook.deed).clip", "gosem.stop:(backstitch/hook.deed).zero", "gosem.stop:backstitch/tensor.Finite", "gosem.stop:(*backstitch/rule.step).sub", "gosem.stop:(*backstitch/rule.step).div", "gosem.stop:(*backstitch/rule.step).neg1", "gosem.stop:(*backstitch/rule.step).exp", "gosem.stop:(*backstitch/rule.step).log", "gosem.stop:(*backstitch/rule.step).relu", "gosem.stop:(*backstitch/rule.step).matmul", "gosem.stop:(*backstitch/rule.step).sum", "gosem.stop:(*backstitch/rule.step).pass", "gosem.stop:(*backstitch/rule.step).reshape", "gosem.stop:(*backstitch/rule.step).none", "gosem.stop:(*backstitch/back.Walk).Inner", "gosem.stop:(*backstitch/back.Walk).Called", "math.Float64bits"], unfollowed := true, recurses := true, plainKeys := false, apart := false, narrowed := true }
def AtomOrdersUptoSaid : Prop := atomOrdersUptoRow.holds Tryz.pinned (OpenSpec.upto atomOrdersSpec)

/-- 'backstitchlaw22.AtomKnown', WHERE WHAT IT READS IS OF BULK AT MOST 1048576: true; the input reads as it did. -/
def atomKnownUptoRow : OpenClaim := { program := "ytejjhikbdchjaaagreat", sum := "4cb2cd64e06c94f7cb8898677d5d6097cad4167895c9fc917d8a556bdab4c8d9", func := "backstitch/backstitchlaw22.AtomKnown", spec := "atomKnown", inPlace := ["gosem.stop:backstitch/op.product", "gosem.stop:backstitch/op.reshaped", "gosem.stop:backstitch/op.alone", "gosem.stop:backstitch/kernel.One", "gosem.stop:backstitch/op.constant", "gosem.stop:backstitch/matrix.Mul", "gosem.stop:backstitch/matrix.Sum", "gosem.stop:backstitch/kernel.Spread", "gosem.stop:backstitch/kernel.Reshape", "gosem.stop:(backstitch/hook.deed).scale", "gosem.stop:backstitch/tensor.Map", "gosem.stop:(backstitch/hook.deed).clip", "gosem.stop:(backstitch/hook.deed).zero", "gosem.stop:backstitch/tensor.Finite", "gosem.stop:(*backstitch/rule.step).sub", "gosem.stop:(*backstitch/rule.step).div", "gosem.stop:(*backstitch/rule.step).neg1", "gosem.stop:(*backstitch/rule.step).exp", "gosem.stop:(*backstitch/rule.step).log", "gosem.stop:(*backstitch/rule.step).relu", "gosem.stop:(*backstitch/rule.step).matmul", "gosem.stop:(*backstitch/rule.step).sum", "gosem.stop:(*backstitch/rule.step).pass", "gosem.stop:(*backstitch/rule.step).reshape", "gosem.stop:(*backstitch/rule.step).none", "gosem.stop:(*backstitch/back.Walk).Inner", "gosem.stop:(*backstitch/back.Walk).Called", "math.Float64bits"], unfollowed := true, recurses := true, plainKeys := false, apart := false, narrowed := true }
def AtomKnownUptoSaid : Prop := atomKnownUptoRow.holds Tryz.pinned (OpenSpec.upto atomKnownSpec)

/-- 'backstitchlaw22.AtomApart', WHERE WHAT IT READS IS OF BULK AT MOST 1048576: true; the input reads as it did. -/
def atomApartUptoRow : OpenClaim := { program := "ytejjhikbdchjaaagreat", sum := "4cb2cd64e06c94f7cb8898677d5d6097cad4167895c9fc917d8a556bdab4c8d9", func := "backstitch/backstitchlaw22.AtomApart", spec := "atomApart", inPlace := ["gosem.stop:backstitch/op.product", "gosem.stop:backstitch/op.reshaped", "gosem.stop:backstitch/op.alone", "gosem.stop:backstitch/kernel.One", "gosem.stop:backstitch/op.constant", "gosem.stop:backstitch/matrix.Mul", "gosem.stop:backstitch/matrix.Sum", "gosem.stop:backstitch/kernel.Spread", "gosem.stop:backstitch/kernel.Reshape", "gosem.stop:(backstitch/hook.deed).scale", "gosem.stop:backstitch/tensor.Map", "gosem.stop:(backstitch/hook.deed).clip", "gosem.stop:(backstitch/hook.deed).zero", "gosem.stop:backstitch/tensor.Finite", "gosem.stop:(*backstitch/rule.step).sub", "gosem.stop:(*backstitch/rule.step).div", "gosem.stop:(*backstitch/rule.step).neg1", "gosem.stop:(*backstitch/rule.step).exp", "gosem.stop:(*backstitch/rule.step).log", "gosem.stop:(*backstitch/rule.step).relu", "gosem.stop:(*backstitch/rule.step).matmul", "gosem.stop:(*backstitch/rule.step).sum", "gosem.stop:(*backstitch/rule.step).pass", "gosem.stop:(*backstitch/rule.step).reshape", "gosem.stop:(*backstitch/rule.step).none", "gosem.stop:(*backstitch/back.Walk).Inner", "gosem.stop:(*backstitch/back.Walk).Called", "math.Float64bits", "gosem.stop:backstitch/backstitchlaw20.Small"], unfollowed := true, recurses := true, plainKeys := false, apart := false, narrowed := true }
def AtomApartUptoSaid : Prop := atomApartUptoRow.holds Tryz.pinned (OpenSpec.upto atomApartSpec)

/-- 'backstitchlaw23.AuditBefore', WHERE WHAT IT READS IS OF BULK AT MOST 1048576: true; the input reads as it did. -/
def auditBeforeUptoRow : OpenClaim := { program := "ytejjhikbdchjaaagreat", sum := "4cb2cd64e06c94f7cb8898677d5d6097cad4167895c9fc917d8a556bdab4c8d9", func := "backstitch/backstitchlaw23.AuditBefore", spec := "auditBefore", inPlace := ["gosem.stop:backstitch/op.product", "gosem.stop:backstitch/op.reshaped", "gosem.stop:backstitch/op.alone", "gosem.stop:backstitch/kernel.One", "gosem.stop:backstitch/op.constant", "gosem.stop:backstitch/matrix.Mul", "gosem.stop:backstitch/matrix.Sum", "gosem.stop:backstitch/kernel.Spread", "gosem.stop:backstitch/kernel.Reshape", "gosem.stop:(backstitch/hook.deed).scale", "gosem.stop:backstitch/tensor.Map", "gosem.stop:(backstitch/hook.deed).clip", "gosem.stop:(backstitch/hook.deed).zero", "gosem.stop:backstitch/tensor.Finite", "gosem.stop:(*backstitch/rule.step).sub", "gosem.stop:(*backstitch/rule.step).div", "gosem.stop:(*backstitch/rule.step).neg1", "gosem.stop:(*backstitch/rule.step).exp", "gosem.stop:(*backstitch/rule.step).log", "gosem.stop:(*backstitch/rule.step).relu", "gosem.stop:(*backstitch/rule.step).matmul", "gosem.stop:(*backstitch/rule.step).sum", "gosem.stop:(*backstitch/rule.step).pass", "gosem.stop:(*backstitch/rule.step).reshape", "gosem.stop:(*backstitch/rule.step).none", "gosem.stop:(*backstitch/back.Walk).Inner", "gosem.stop:(*backstitch/back.Walk).Called", "math.Float64bits"], unfollowed := true, recurses := true, plainKeys := false, apart := false, narrowed := true }
def AuditBeforeUptoSaid : Prop := auditBeforeUptoRow.holds Tryz.pinned (OpenSpec.upto auditBeforeSpec)

/-- 'backstitchlaw23.AuditKnown', WHERE WHAT IT READS IS OF BULK AT MOST 1048576: true; the input reads as it did. -/
def auditKnownUptoRow : OpenClaim := { program := "ytejjhikbdchjaaagreat", sum := "4cb2cd64e06c94f7cb8898677d5d6097cad4167895c9fc917d8a556bdab4c8d9", func := "backstitch/backstitchlaw23.AuditKnown", spec := "auditKnown", inPlace := ["gosem.stop:backstitch/op.product", "gosem.stop:backstitch/op.reshaped", "gosem.stop:backstitch/op.alone", "gosem.stop:backstitch/kernel.One", "gosem.stop:backstitch/op.constant", "gosem.stop:backstitch/matrix.Mul", "gosem.stop:backstitch/matrix.Sum", "gosem.stop:backstitch/kernel.Spread", "gosem.stop:backstitch/kernel.Reshape", "gosem.stop:(backstitch/hook.deed).scale", "gosem.stop:backstitch/tensor.Map", "gosem.stop:(backstitch/hook.deed).clip", "gosem.stop:(backstitch/hook.deed).zero", "gosem.stop:backstitch/tensor.Finite", "gosem.stop:(*backstitch/rule.step).sub", "gosem.stop:(*backstitch/rule.step).div", "gosem.stop:(*backstitch/rule.step).neg1", "gosem.stop:(*backstitch/rule.step).exp", "gosem.stop:(*backstitch/rule.step).log", "gosem.stop:(*backstitch/rule.step).relu", "gosem.stop:(*backstitch/rule.step).matmul", "gosem.stop:(*backstitch/rule.step).sum", "gosem.stop:(*backstitch/rule.step).pass", "gosem.stop:(*backstitch/rule.step).reshape", "gosem.stop:(*backstitch/rule.step).none", "gosem.stop:(*backstitch/back.Walk).Inner", "gosem.stop:(*backstitch/back.Walk).Called", "math.Float64bits"], unfollowed := true, recurses := true, plainKeys := false, apart := false, narrowed := true }
def AuditKnownUptoSaid : Prop := auditKnownUptoRow.holds Tryz.pinned (OpenSpec.upto auditKnownSpec)

/-- 'backstitchlaw23.AuditTimes', WHERE WHAT IT READS IS OF BULK AT MOST 1048576: true; the input reads as it did. -/
def auditTimesUptoRow : OpenClaim := { program := "ytejjhikbdchjaaagreat", sum := "4cb2cd64e06c94f7cb8898677d5d6097cad4167895c9fc917d8a556bdab4c8d9", func := "backstitch/backstitchlaw23.AuditTimes", spec := "auditTimes", inPlace := ["gosem.stop:backstitch/op.product", "gosem.stop:backstitch/op.reshaped", "gosem.stop:backstitch/op.alone", "gosem.stop:backstitch/kernel.One", "gosem.stop:backstitch/op.constant", "gosem.stop:backstitch/matrix.Mul", "gosem.stop:backstitch/matrix.Sum", "gosem.stop:backstitch/kernel.Spread", "gosem.stop:backstitch/kernel.Reshape", "gosem.stop:(backstitch/hook.deed).scale", "gosem.stop:backstitch/tensor.Map", "gosem.stop:(backstitch/hook.deed).clip", "gosem.stop:(backstitch/hook.deed).zero", "gosem.stop:backstitch/tensor.Finite", "gosem.stop:(*backstitch/rule.step).sub", "gosem.stop:(*backstitch/rule.step).div", "gosem.stop:(*backstitch/rule.step).neg1", "gosem.stop:(*backstitch/rule.step).exp", "gosem.stop:(*backstitch/rule.step).log", "gosem.stop:(*backstitch/rule.step).relu", "gosem.stop:(*backstitch/rule.step).matmul", "gosem.stop:(*backstitch/rule.step).sum", "gosem.stop:(*backstitch/rule.step).pass", "gosem.stop:(*backstitch/rule.step).reshape", "gosem.stop:(*backstitch/rule.step).none", "gosem.stop:(*backstitch/back.Walk).Inner", "gosem.stop:(*backstitch/back.Walk).Called", "math.Float64bits"], unfollowed := true, recurses := true, plainKeys := false, apart := false, narrowed := true }
def AuditTimesUptoSaid : Prop := auditTimesUptoRow.holds Tryz.pinned (OpenSpec.upto auditTimesSpec)

/-- 'backstitchlaw21.RoomKnown', WHERE WHAT IT READS IS OF BULK AT MOST 1048576: true; the input reads as it did. -/
def roomKnownUptoRow : OpenClaim := { program := "ytejjhikbdchjaaagreat", sum := "4cb2cd64e06c94f7cb8898677d5d6097cad4167895c9fc917d8a556bdab4c8d9", func := "backstitch/backstitchlaw21.RoomKnown", spec := "roomKnown", inPlace := ["gosem.stop:backstitch/op.product", "gosem.stop:backstitch/op.reshaped", "gosem.stop:backstitch/op.alone", "gosem.stop:backstitch/kernel.One", "gosem.stop:backstitch/op.constant", "gosem.stop:backstitch/matrix.Mul", "gosem.stop:backstitch/matrix.Sum", "gosem.stop:backstitch/kernel.Spread", "gosem.stop:backstitch/kernel.Reshape", "gosem.stop:(backstitch/hook.deed).scale", "gosem.stop:backstitch/tensor.Map", "gosem.stop:(backstitch/hook.deed).clip", "gosem.stop:(backstitch/hook.deed).zero", "gosem.stop:backstitch/tensor.Finite", "gosem.stop:(*backstitch/crew.frame).fail", "gosem.stop:(*backstitch/back.Walk).Called", "gosem.stop:(*backstitch/back.Walk).Inner", "gosem.stop:(*backstitch/rule.step).sub", "gosem.stop:(*backstitch/rule.step).div", "gosem.stop:(*backstitch/rule.step).neg1", "gosem.stop:(*backstitch/rule.step).exp", "gosem.stop:(*backstitch/rule.step).log", "gosem.stop:(*backstitch/rule.step).relu", "gosem.stop:(*backstitch/rule.step).matmul", "gosem.stop:(*backstitch/rule.step).sum", "gosem.stop:(*backstitch/rule.step).pass", "gosem.stop:(*backstitch/rule.step).reshape", "gosem.stop:(*backstitch/rule.step).none", "math.Float64bits"], unfollowed := true, recurses := true, plainKeys := false, apart := false, narrowed := true }
def RoomKnownUptoSaid : Prop := roomKnownUptoRow.holds Tryz.pinned (OpenSpec.upto roomKnownSpec)

/-- 'backstitchlaw21.RoomSums', WHERE WHAT IT READS IS OF BULK AT MOST 1048576: true; the input reads as it did. -/
def roomSumsUptoRow : OpenClaim := { program := "ytejjhikbdchjaaagreat", sum := "4cb2cd64e06c94f7cb8898677d5d6097cad4167895c9fc917d8a556bdab4c8d9", func := "backstitch/backstitchlaw21.RoomSums", spec := "roomSums", inPlace := ["gosem.stop:backstitch/op.product", "gosem.stop:backstitch/op.reshaped", "gosem.stop:backstitch/op.alone", "gosem.stop:backstitch/kernel.One", "gosem.stop:backstitch/op.constant", "gosem.stop:backstitch/matrix.Mul", "gosem.stop:backstitch/matrix.Sum", "gosem.stop:backstitch/kernel.Spread", "gosem.stop:backstitch/kernel.Reshape", "gosem.stop:(backstitch/hook.deed).scale", "gosem.stop:backstitch/tensor.Map", "gosem.stop:(backstitch/hook.deed).clip", "gosem.stop:(backstitch/hook.deed).zero", "gosem.stop:backstitch/tensor.Finite", "gosem.stop:(*backstitch/crew.frame).fail", "gosem.stop:(*backstitch/back.Walk).Called", "gosem.stop:(*backstitch/back.Walk).Inner", "gosem.stop:(*backstitch/rule.step).sub", "gosem.stop:(*backstitch/rule.step).div", "gosem.stop:(*backstitch/rule.step).neg1", "gosem.stop:(*backstitch/rule.step).exp", "gosem.stop:(*backstitch/rule.step).log", "gosem.stop:(*backstitch/rule.step).relu", "gosem.stop:(*backstitch/rule.step).matmul", "gosem.stop:(*backstitch/rule.step).sum", "gosem.stop:(*backstitch/rule.step).pass", "gosem.stop:(*backstitch/rule.step).reshape", "gosem.stop:(*backstitch/rule.step).none", "math.Float64bits"], unfollowed := true, recurses := true, plainKeys := false, apart := false, narrowed := true }
def RoomSumsUptoSaid : Prop := roomSumsUptoRow.holds Tryz.pinned (OpenSpec.upto roomSumsSpec)

/-- 'backstitchlaw21.RoomApart', WHERE WHAT IT READS IS OF BULK AT MOST 1048576: true; the input reads as it did. -/
def roomApartUptoRow : OpenClaim := { program := "ytejjhikbdchjaaagreat", sum := "4cb2cd64e06c94f7cb8898677d5d6097cad4167895c9fc917d8a556bdab4c8d9", func := "backstitch/backstitchlaw21.RoomApart", spec := "roomApart", inPlace := ["gosem.stop:backstitch/op.product", "gosem.stop:backstitch/op.reshaped", "gosem.stop:backstitch/op.alone", "gosem.stop:backstitch/kernel.One", "gosem.stop:backstitch/op.constant", "gosem.stop:backstitch/matrix.Mul", "gosem.stop:backstitch/matrix.Sum", "gosem.stop:backstitch/kernel.Spread", "gosem.stop:backstitch/kernel.Reshape", "gosem.stop:(backstitch/hook.deed).scale", "gosem.stop:backstitch/tensor.Map", "gosem.stop:(backstitch/hook.deed).clip", "gosem.stop:(backstitch/hook.deed).zero", "gosem.stop:backstitch/tensor.Finite", "gosem.stop:(*backstitch/crew.frame).fail", "gosem.stop:(*backstitch/back.Walk).Called", "gosem.stop:(*backstitch/back.Walk).Inner", "gosem.stop:(*backstitch/rule.step).sub", "gosem.stop:(*backstitch/rule.step).div", "gosem.stop:(*backstitch/rule.step).neg1", "gosem.stop:(*backstitch/rule.step).exp", "gosem.stop:(*backstitch/rule.step).log", "gosem.stop:(*backstitch/rule.step).relu", "gosem.stop:(*backstitch/rule.step).matmul", "gosem.stop:(*backstitch/rule.step).sum", "gosem.stop:(*backstitch/rule.step).pass", "gosem.stop:(*backstitch/rule.step).reshape", "gosem.stop:(*backstitch/rule.step).none", "math.Float64bits"], unfollowed := true, recurses := true, plainKeys := false, apart := false, narrowed := true }
def RoomApartUptoSaid : Prop := roomApartUptoRow.holds Tryz.pinned (OpenSpec.upto roomApartSpec)

end Rows
end Go.Proofs.YtejjhikbdchjaaaGreat
