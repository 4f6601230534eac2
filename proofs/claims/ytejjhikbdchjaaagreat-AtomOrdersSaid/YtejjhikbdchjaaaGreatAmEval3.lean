/-
  AM: a machine of its own for Go code as the model elaborates it: one order, names for blocks, no tape. This text: values, memory, operations, calls.
  (Each function looks at one thing and hands on: so that the kernel copies little.)
-/
import GoSem.Step
noncomputable section
namespace Go.Am

/-- A table by numbers. -/
inductive Tr (α : Type) where
  | lf
  | nd (l : Tr α) (v : Option α) (r : Tr α)

section
variable {α R : Type}
def Tr.get (t : Tr α) : Nat → Option α :=
  Tr.rec (motive := fun _ => Nat → Option α) (fun _ => none)
    (fun _ v _ gl gr k => Nat.rec (motive := fun _ => Option α) v
      (fun m _ => Nat.rec (motive := fun _ => Nat → Option α) gl (fun _ _ => gr) (Nat.land m 1) (Nat.shiftRight m 1)) k) t
/-- Put (or take away: 'none'), of so many levels at most, and go on. -/
def Tr.putK (bad : R) (d : Nat) : Tr α → Nat → Option α → (Tr α → R) → R :=
  Nat.rec (motive := fun _ => Tr α → Nat → Option α → (Tr α → R) → R) (fun _ _ _ _ => bad)
    (fun _ ih t k x K => Tr.rec (motive := fun _ => R)
      (Nat.rec (motive := fun _ => R) (K (.nd .lf x .lf))
        (fun m _ => Nat.rec (motive := fun _ => R) (ih .lf (Nat.shiftRight m 1) x fun l => K (.nd l none .lf)) (fun _ _ => ih .lf (Nat.shiftRight m 1) x fun r => K (.nd .lf none r)) (Nat.land m 1)) k)
      (fun l v r _ _ => Nat.rec (motive := fun _ => R) (K (.nd l x r))
        (fun m _ => Nat.rec (motive := fun _ => R) (ih l (Nat.shiftRight m 1) x fun l' => K (.nd l' v r)) (fun _ _ => ih r (Nat.shiftRight m 1) x fun r' => K (.nd l v r')) (Nat.land m 1)) k) t) d
def Tr.put (d : Nat) (t : Tr α) (k : Nat) (x : Option α) : Option (Tr α) := Tr.putK none d t k x some
/-- A table of a list's items, by their places. -/
def Tr.ofList (l : List α) : Nat → Tr α → Tr α :=
  List.rec (motive := fun _ => Nat → Tr α → Tr α) (fun _ t => t) (fun x _ ih i t => Tr.putK t 40 t i (some x) fun t' => ih (i + 1) t') l
end

abbrev depth : Nat := 40

/-- Values: addresses are a block's name and a place in it; of a slice its capacity is at least 'cap' ('ex': just that), an element has 'es' cells; 'opq': nothing is known; 'sym', 'fsym': a whole number, a float that has a name alone. -/
inductive AV where
  | bool (b : Bool)
  | int (k : IntKind) (n : Int)
  | flt (bits : Nat)
  | str (s : ByteArray)
  | nilp
  | ptr (b o : Nat)
  | nils
  | slice (b o len cap : Nat) (ex : Bool) (es : Nat)
  | nilm
  | map (b : Nat)
  | nilf
  | func (f : FuncId) (first captured : List AV)
  | nili
  | iface (t : TypeId) (v : AV)
  | agg (cs : List AV)
  | tup (vs : List AV)
  | opq (i : Nat)
  | sym (k : IntKind) (i : Nat)
  | fsym (i : Nat)
  deriving Inhabited

def AV.cells : AV → List AV
  | .agg cs => cs
  | .opq _ => []
  | v => [v]

/-- A constant's value. -/
def ofV : Nat → Value → AV
  | 0, _ => .opq 0
  | d + 1, v => match v with
    | .bool b => .bool b
    | .int k n => .int k n
    | .float .f64 b => .flt b
    | .string s => .str s
    | .pointer none => .nilp
    | .slice none 0 0 => .nils
    | .map none => .nilm
    | .nilFunc => .nilf
    | .nilIface => .nili
    | .agg cs => .agg (cs.toList.map (ofV d))
    | .tuple cs => .tup (cs.toList.map (ofV d))
    | _ => .opq 0

/-- Memory: rows of cells, maps; rows that are only read. -/
inductive AO where
  | cells (l : List AV)
  | map (l : List (AV × AV))
  | ro (l : List AV)
  deriving Inhabited

abbrev Heap := Tr AO
abbrev Tmps := Tr AV

/-- The program as it is asked. -/
structure Env where
  types : Tr TypeInfo
  funcs : Tr Func
  bits : FuncId            -- math.Float64bits
  eqs : List TypeId        -- structs of two whole numbers that may be compared
  keys : List TypeId       -- pairs of whole numbers that are keys of maps
  sym : BinOp → AV → AV → Option AV      -- what is known of numbers that have a name alone
  cnv : TypeId → TypeId → AV → Option AV

def info (E : Env) (t : TypeId) : Option TypeInfo := E.types.get t
def descOf : Option TypeInfo → Option TypeDesc
  | none => none
  | some i => some i.desc
def und2 (E : Env) : TypeDesc → Option TypeDesc
  | .named _ u => descOf (info E u)
  | d => some d
def und1 : Option TypeInfo → Env → Option TypeDesc
  | none, _ => none
  | some i, E => und2 E i.desc
def und (E : Env) (t : TypeId) : Option TypeDesc := und1 (info E t) E
def isAgg1 : Option TypeDesc → Option Bool
  | none => none
  | some (.struct _) => some true
  | some (.array _ _) => some true
  | some _ => some false
def isAgg (E : Env) (t : TypeId) : Option Bool := isAgg1 (und E t)
def zero2 : Option Value → Option AV
  | none => none
  | some v => some (ofV 4 v)
def zero1 : Option TypeInfo → Option AV
  | none => none
  | some i => zero2 i.zero
def zeroOf (E : Env) (t : TypeId) : Option AV := zero1 (info E t)
def size1 : Option TypeInfo → Option Nat
  | none => none
  | some i => some i.size
def sizeT (E : Env) (t : TypeId) : Option Nat := size1 (info E t)

section
variable {α : Type}
def consO : α → Option (List α) → Option (List α)
  | _, none => none
  | x, some l => some (x :: l)
/-- So many of a list from its begin; 'none': it is too short. -/
def takeN : Nat → List α → Option (List α)
  | 0, _ => some []
  | _ + 1, [] => none
  | n + 1, x :: l => consO x (takeN n l)
def dropN : Nat → List α → Option (List α)
  | 0, l => some l
  | _ + 1, [] => none
  | n + 1, _ :: l => dropN n l
def nth : Nat → List α → Option α
  | _, [] => none
  | 0, x :: _ => some x
  | n + 1, _ :: l => nth n l
/-- A list with others put over its begin; 'none': they stand out. -/
def over0 : List α → List α → Option (List α)
  | l, [] => some l
  | [], _ :: _ => none
  | _ :: l, v :: vs => consO v (over0 l vs)
/-- .. from a place on. -/
def over : Nat → List α → List α → Option (List α)
  | 0, l, vs => over0 l vs
  | _ + 1, [], _ => none
  | n + 1, x :: l, vs => consO x (over n l vs)
def app : List α → List α → Option (List α)
  | [], b => some b
  | x :: a, b => consO x (app a b)
def appO : List α → Option (List α) → Option (List α)
  | _, none => none
  | z, some r => app z r
def reps : Nat → List α → Option (List α)
  | 0, _ => some []
  | n + 1, z => appO z (reps n z)
end

/-- From a place on so many. -/
def sub1 : Option (List AV) → Nat → Option (List AV)
  | none, _ => none
  | some l, n => takeN n l
def subL (l : List AV) (o n : Nat) : Option (List AV) := sub1 (dropN o l) n
def aggO : Option (List AV) → Option AV
  | none => none
  | some l => some (.agg l)

/-- A value of a type out of a row of cells. -/
def part2 : Option Nat → List AV → Nat → Option AV
  | none, _, _ => none
  | some s, l, o => aggO (subL l o s)
def part1 : Option Bool → Env → TypeId → List AV → Nat → Option AV
  | none, _, _, _, _ => none
  | some false, _, _, l, o => nth o l
  | some true, E, t, l, o => part2 (sizeT E t) l o
def partOf (E : Env) (t : TypeId) (l : List AV) (o : Nat) : Option AV := part1 (isAgg E t) E t l o

def load1 : Option AO → Env → TypeId → Nat → Option AV
  | some (.cells l), E, t, o => partOf E t l o
  | some (.ro l), E, t, o => partOf E t l o
  | _, _, _, _ => none
def loadAt (E : Env) (H : Heap) (t : TypeId) (b o : Nat) : Option AV := load1 (H.get b) E t o

def bnot : Bool → Bool
  | true => false
  | false => true
def band : Bool → Bool → Bool
  | true, b => b
  | false, _ => false
def bor : Bool → Bool → Bool
  | true, _ => true
  | false, b => b
def setRow : Option (List AV) → Heap → Nat → Option Heap
  | none, _, _ => none
  | some l, H, b => Tr.put depth H b (some (.cells l))
/-- A value of one cell. -/
def plain : AV → Bool
  | .agg _ => false
  | .tup _ => false
  | .opq _ => false
  | _ => true
def plainL : List AV → Bool
  | [] => true
  | v :: l => band (plain v) (plainL l)
def poke2 : Bool → Heap → Nat → Nat → List AV → List AV → Option Heap
  | true, H, b, o, vs, l => setRow (over o l vs) H b
  | false, _, _, _, _, _ => none
/-- Cells put over a block's from a place on. -/
def poke1 : Option AO → Heap → Nat → Nat → List AV → Option Heap
  | some (.cells l), H, b, o, vs => poke2 (plainL vs) H b o vs l
  | _, _, _, _, _ => none
def poke (H : Heap) (b o : Nat) (vs : List AV) : Option Heap := poke1 (H.get b) H b o vs

def lenIs : Nat → List AV → Bool
  | 0, [] => true
  | n + 1, _ :: l => lenIs n l
  | _, _ => false
def store2 : Bool → Heap → Nat → Nat → List AV → Option Heap
  | true, H, b, o, vs => poke H b o vs
  | false, _, _, _, _ => none
def store1 : Option Nat → Heap → Nat → Nat → List AV → Option Heap
  | some (s + 1), H, b, o, vs => store2 (lenIs (s + 1) vs) H b o vs
  | _, _, _, _, _ => none
def storeAt (E : Env) (H : Heap) (t : TypeId) (b o : Nat) (v : AV) : Option Heap := store1 (sizeT E t) H b o v.cells

def evO (x : Operand) : Tmps → AV :=
  Operand.rec (motive := fun _ => Tmps → AV)
    (fun t T => Option.rec (motive := fun _ => AV) (.opq 0) (fun v => v) (T.get t))
    (fun v _ => ofV 4 v) (fun _ _ => .opq 0) (fun f _ => .func f [] []) x
def evL : List Operand → Tmps → List AV
  | [], _ => []
  | x :: l, T => evO x T :: evL l T

/-- What an operation comes to. -/
inductive OR where
  | fail
  | val (v : AV)
  | mem (v : AV) (H : Heap) (n : Nat)
  | enter (f : FuncId) (args : List AV)
  | dfr (f : FuncId) (args : List AV)

def valO : Option AV → OR
  | none => .fail
  | some v => .val v
def memO : Option Heap → AV → Nat → OR
  | none, _, _ => .fail
  | some H, v, n => .mem v H n

def wrap1 : Bool → IntKind → Nat → Int
  | true, _, m => .ofNat m
  | false, k, m => k.wrap (.ofNat m)
def wrapF : Int → IntKind → Int
  | .ofNat m, k => wrap1 (Nat.ble m 127) k m
  | .negSucc m, k => k.wrap (.negSucc m)
def ibeq : Int → Int → Bool
  | .ofNat a, .ofNat b => Nat.beq a b
  | .negSucc a, .negSucc b => Nat.beq a b
  | _, _ => false
def iblt : Int → Int → Bool
  | .ofNat a, .ofNat b => Nat.blt a b
  | .negSucc a, .negSucc b => Nat.blt b a
  | .negSucc _, .ofNat _ => true
  | .ofNat _, .negSucc _ => false
def kno : IntKind → Nat
  | .i8 => 0 | .i16 => 1 | .i32 => 2 | .i64 => 3 | .u8 => 4 | .u16 => 5 | .u32 => 6 | .u64 => 7
def kbeq (a b : IntKind) : Bool := Nat.beq (kno a) (kno b)

/-- A number is reckoned ahead of going on. -/
def natS {β : Type} (n : Nat) : (Nat → β) → β :=
  Nat.rec (motive := fun _ => (Nat → β) → β) (fun f => f 0) (fun m _ f => f (Nat.succ m)) n
def vintP (k : IntKind) (m : Nat) : OR := .val (.int k (.ofNat m))
def vintN (k : IntKind) (m : Nat) : OR := .val (.int k (.negSucc m))
def vint1 : Int → IntKind → OR
  | .ofNat m, k => natS m (vintP k)
  | .negSucc m, k => natS m (vintN k)
def vint (k : IntKind) (r : Int) : OR := vint1 (wrapF r k) k
def vbool : Bool → OR
  | true => .val (.bool true)
  | false => .val (.bool false)

def divOk : Int → OR → OR
  | .ofNat 0, _ => .fail
  | .ofNat (_ + 1), r => r
  | .negSucc _, r => r
def shlN : Int → IntKind → Int → OR
  | .ofNat m, k, a => vint k (Int.mul a (.ofNat (Nat.pow 2 (Nat.min m k.bits))))
  | .negSucc _, _, _ => .fail
def shrN : Int → IntKind → Int → OR
  | .ofNat m, k, a => vint1 (Int.fdiv a (.ofNat (Nat.pow 2 (Nat.min m k.bits)))) k
  | .negSucc _, _, _ => .fail
def bitN (op : Nat → Nat → Nat) : Int → Int → IntKind → OR
  | .ofNat a, .ofNat b, k => vint k (.ofNat (op (Nat.mod a (Nat.pow 2 k.bits)) (Nat.mod b (Nat.pow 2 k.bits))))
  | _, _, _ => .fail
def intOp : BinOp → IntKind → Int → Int → OR
  | .add, k, a, b => vint k (Int.add a b)
  | .sub, k, a, b => vint k (Int.sub a b)
  | .mul, k, a, b => vint k (Int.mul a b)
  | .quo, k, a, b => divOk b (vint k (Int.tdiv a b))
  | .rem, k, a, b => divOk b (vint1 (Int.tmod a b) k)
  | .eql, _, a, b => vbool (ibeq a b)
  | .neq, _, a, b => vbool (bnot (ibeq a b))
  | .lss, _, a, b => vbool (iblt a b)
  | .leq, _, a, b => vbool (bnot (iblt b a))
  | .gtr, _, a, b => vbool (iblt b a)
  | .geq, _, a, b => vbool (bnot (iblt a b))
  | .and, k, a, b => bitN Nat.land a b k
  | .or, k, a, b => bitN Nat.lor a b k
  | .xor, k, a, b => bitN Nat.xor a b k
  | _, _, _, _ => .fail
def fltV (m : Nat) : OR := .val (.flt m)
def fltR : Option Nat → OR
  | none => .fail
  | some v => natS v fltV
def ordIs (w : Ordering) : Option Ordering → Bool
  | none => false
  | some o => match o, w with
    | .lt, .lt | .eq, .eq | .gt, .gt => true
    | _, _ => false
def fltOp : BinOp → Nat → Nat → OR
  | .add, a, b => fltR (Ieee.double.add a b)
  | .sub, a, b => fltR (Ieee.double.sub a b)
  | .mul, a, b => fltR (Ieee.double.mul a b)
  | .quo, a, b => fltR (Ieee.double.div a b)
  | .eql, a, b => vbool (ordIs .eq (Ieee.double.order a b))
  | .neq, a, b => vbool (bnot (ordIs .eq (Ieee.double.order a b)))
  | .lss, a, b => vbool (ordIs .lt (Ieee.double.order a b))
  | .gtr, a, b => vbool (ordIs .gt (Ieee.double.order a b))
  | .leq, a, b => vbool (bor (ordIs .lt (Ieee.double.order a b)) (ordIs .eq (Ieee.double.order a b)))
  | .geq, a, b => vbool (bor (ordIs .gt (Ieee.double.order a b)) (ordIs .eq (Ieee.double.order a b)))
  | _, _, _ => .fail

/-- Are two pairs of whole numbers the same? -/
def pairEq : List AV → List AV → Option Bool
  | [.int .i64 a, .int .i64 b], [.int .i64 c, .int .i64 d] => some (band (ibeq a c) (ibeq b d))
  | _, _ => none
def memb (t : TypeId) : List TypeId → Bool
  | [] => false
  | u :: l => bor (Nat.beq t u) (memb t l)
def aggEq : Bool → List AV → List AV → Option Bool
  | true, a, b => pairEq a b
  | false, _, _ => none
/-- 'x == y' of what is no number. -/
def eqV : Option TypeDesc → AV → AV → Env → TypeId → Option Bool
  | some .bool, .bool true, .bool b, _, _ => some b
  | some .bool, .bool false, .bool b, _, _ => some (bnot b)
  | some (.pointer _), .nilp, .nilp, _, _ => some true
  | some (.pointer _), .nilp, .ptr _ _, _, _ => some false
  | some (.pointer _), .ptr _ _, .nilp, _, _ => some false
  | some (.slice _), .nils, .nils, _, _ => some true
  | some (.slice _), .nils, .slice _ _ _ _ _ _, _, _ => some false
  | some (.slice _), .slice _ _ _ _ _ _, .nils, _, _ => some false
  | some (.func _ _ _), .nilf, .nilf, _, _ => some true
  | some (.func _ _ _), .nilf, .func _ _ _, _, _ => some false
  | some (.func _ _ _), .func _ _ _, .nilf, _, _ => some false
  | some (.struct _), .agg a, .agg b, E, t => aggEq (memb t E.eqs) a b
  | _, _, _, _, _ => none
def eqR : Option Bool → OR
  | none => .fail
  | some b => vbool b
def neqR : Option Bool → OR
  | none => .fail
  | some b => vbool (bnot b)
def othOp : BinOp → AV → AV → Env → TypeId → OR
  | .eql, x, y, E, t => eqR (eqV (und E t) x y E t)
  | .neq, x, y, E, t => neqR (eqV (und E t) x y E t)
  | _, _, _, _, _ => .fail
def intOp2 : Bool → BinOp → IntKind → Int → Int → OR
  | true, op, k, a, b => intOp op k a b
  | false, _, _, _, _ => .fail
def intOp1 : BinOp → IntKind → IntKind → Int → Int → OR
  | .shl, k, _, a, b => shlN b k a
  | .shr, k, _, a, b => shrN b k a
  | op, k, k', a, b => intOp2 (kbeq k k') op k a b
def symO : Option AV → OR
  | none => .fail
  | some v => .val v
def isSym : AV → Bool
  | .sym _ _ => true
  | .fsym _ => true
  | _ => false
def symOp : Bool → BinOp → AV → AV → Env → TypeId → OR
  | true, op, x, y, E, _ => symO (E.sym op x y)
  | false, op, x, y, E, t => othOp op x y E t
def binOpV : AV → AV → BinOp → Env → TypeId → OR
  | .int k a, .int k' b, op, _, _ => intOp1 op k k' a b
  | .flt a, .flt b, op, _, _ => fltOp op a b
  | x, y, op, E, t => symOp (bor (isSym x) (isSym y)) op x y E t

def unOpV : UnOp → AV → OR
  | .not, .bool b => vbool (bnot b)
  | .neg, .int k n => vint k (Int.sub (.ofNat 0) n)
  | _, _ => .fail

def conv1 : Option TypeDesc → Option TypeDesc → AV → OR
  | some _, some (.int k), .int _ n => vint k n
  | some _, some (.float .f64), .int _ n => natS (FloatKind.nearest .f64 n) fltV
  | _, _, _ => .fail
def conv0 : Bool → Env → TypeId → TypeId → AV → OR
  | true, E, src, dst, x => symO (E.cnv src dst x)
  | false, E, src, dst, x => conv1 (und E src) (und E dst) x
def convV (E : Env) (src dst : TypeId) (x : AV) : OR := conv0 (isSym x) E src dst x

/-- Parts put into a row of cells. -/
def place2 : Bool → Option (Nat × Nat) → List AV → List AV → Option (List AV)
  | true, some (o, _), cs, vs => over o cs vs
  | _, _, _, _ => none
def place1 : Option (Nat × Nat) → List AV → List AV → Option (List AV)
  | some (o, s + 1), cs, vs => place2 (lenIs (s + 1) vs) (some (o, s)) cs vs
  | _, _, _ => none
def putParts (place : Nat → Option (Nat × Nat)) : List (Nat × AV) → Option (List AV) → Option (List AV)
  | _, none => none
  | [], some cs => some cs
  | (i, v) :: r, some cs => putParts place r (place1 (place i) cs v.cells)

def offSize : Option Nat → Nat → Option (Nat × Nat)
  | none, _ => none
  | some s, o => some (o, s)
def placeF1 : Option Field → Env → Option (Nat × Nat)
  | none, _ => none
  | some f, E => offSize (sizeT E f.type) f.offset
def placeF (E : Env) (fs : List Field) (i : Nat) : Option (Nat × Nat) := placeF1 (nth i fs) E
def placeA (s i : Nat) : Option (Nat × Nat) := some (Nat.mul i s, s)

def evP : List (Nat × Operand) → Tmps → List (Nat × AV)
  | [], _ => []
  | (i, x) :: l, T => (i, evO x T) :: evP l T

def cellsN : List AV → Option (List AV)
  | [] => none
  | x :: l => some (x :: l)
def cellsO : Option AV → Option (List AV)
  | none => none
  | some v => cellsN v.cells
def zc2 : Bool → List AV → Option (List AV)
  | true, l => some l
  | false, _ => none
def zc1 : Nat → List AV → Option (List AV)
  | 0, _ => none
  | s + 1, l => zc2 (lenIs (s + 1) l) l
/-- The cells of a zero value, so many as the type has (not none). -/
def zcO : Option AV → Nat → Option (List AV)
  | none, _ => none
  | some v, s => zc1 s v.cells
def zc (E : Env) (e : TypeId) (s : Nat) : Option (List AV) := zcO (zeroOf E e) s
def build2 : Option Nat → Env → Option (List AV) → List (Nat × AV) → OR
  | none, _, _, _ => .fail
  | some s, _, z, ps => valO (aggO (putParts (placeA s) ps z))
def build1 : Option TypeDesc → Env → Option (List AV) → List (Nat × AV) → OR
  | some (.struct fs), E, z, ps => valO (aggO (putParts (placeF E fs.toList) ps z))
  | some (.array _ e), E, z, ps => build2 (sizeT E e) E z ps
  | _, _, _, _ => .fail
def buildV (E : Env) (t : TypeId) (ps : List (Nat × AV)) : OR := build1 (und E t) E (cellsO (zeroOf E t)) ps

/-- A new block. -/
def freshR (v : Nat → AV) (H : Heap) (n : Nat) : OR := .mem (v n) H (n + 1)
def fresh1 : Option Heap → Nat → (Nat → AV) → OR
  | none, _, _ => .fail
  | some H, n, v => natS n (freshR v H)
def fresh (H : Heap) (n : Nat) (o : AO) (v : Nat → AV) : OR := fresh1 (Tr.put depth H n (some o)) n v
def freshO : Option (List AV) → Heap → Nat → (Nat → AV) → OR
  | none, _, _, _ => .fail
  | some l, H, n, v => fresh H n (.cells l) v
def vPtr (b : Nat) : AV := .ptr b 0
def vMap (b : Nat) : AV := .map b
def vSl (l c : Nat) (ex : Bool) (es b : Nat) : AV := .slice b 0 l c ex es

def repsO : Nat → Option (List AV) → Option (List AV)
  | _, none => none
  | k, some z => reps k z
def bsl3 : Bool → Env → Heap → Nat → TypeId → Nat → Nat → List (Nat × AV) → OR
  | false, _, _, _, _, _, _, _ => .fail
  | true, E, H, n, e, s, len, ps => freshO (putParts (placeA s) ps (repsO len (zc E e s))) H n (vSl len len true s)
def bsl2 : Option Nat → Env → Heap → Nat → TypeId → Nat → List (Nat × AV) → OR
  | none, _, _, _, _, _, _ => .fail
  | some s, E, H, n, e, len, ps => bsl3 (Nat.ble (Nat.mul len s) 16777216) E H n e s len ps
def bsl1 : Option TypeDesc → Env → Heap → Nat → Nat → List (Nat × AV) → OR
  | some (.slice e), E, H, n, len, ps => bsl2 (sizeT E e) E H n e len ps
  | _, _, _, _, _, _ => .fail
def buildSliceV (E : Env) (H : Heap) (n : Nat) (t : TypeId) (len : Nat) (ps : List (Nat × AV)) : OR := bsl1 (und E t) E H n len ps

def msl3 : Bool → Env → Heap → Nat → TypeId → Nat → Nat → Nat → OR
  | false, _, _, _, _, _, _, _ => .fail
  | true, E, H, n, e, s, l, c => freshO (repsO c (zc E e s)) H n (vSl l c true s)
def msl2 : Option TypeInfo → Env → Heap → Nat → TypeId → Nat → Nat → OR
  | none, _, _, _, _, _, _ => .fail
  | some j, E, H, n, e, l, c => msl3 (band (Nat.ble l c) (band (Nat.ble c 1048576) (Nat.ble (Nat.mul j.bytes c) 1048576))) E H n e j.size l c
def msl1 : Option TypeDesc → AV → AV → Env → Heap → Nat → OR
  | some (.slice e), .int _ (.ofNat l), .int _ (.ofNat c), E, H, n => natS l fun l => natS c fun c => msl2 (info E e) E H n e l c
  | _, _, _, _, _, _ => .fail
def makeSliceV (E : Env) (H : Heap) (n : Nat) (t : TypeId) (l c : AV) : OR := msl1 (und E t) l c E H n

def ptrV (b p : Nat) : OR := .val (.ptr b p)
def faddr3 : Option Nat → Nat → Nat → OR
  | some (_ + 1), b, p => natS p (ptrV b)
  | _, _, _ => .fail
def faddr2 : Option Field → Env → Nat → Nat → OR
  | none, _, _, _ => .fail
  | some f, E, b, o => faddr3 (sizeT E f.type) b (Nat.add o f.offset)
def faddr1 : Option TypeDesc → AV → Env → Nat → OR
  | some (.struct fs), .ptr b o, E, f => faddr2 (nth f fs.toList) E b o
  | _, _, _, _ => .fail
def fieldAddrV (E : Env) (t : TypeId) (x : AV) (f : Nat) : OR := faddr1 (und E t) x E f

def iaddr3 : Option Nat → Nat → Nat → Nat → OR
  | none, _, _, _ => .fail
  | some s, b, o, i => natS (Nat.add o (Nat.mul i s)) (ptrV b)
def iaddr2 : Bool → Env → TypeId → Nat → Nat → Nat → OR
  | false, _, _, _, _, _ => .fail
  | true, E, e, b, o, i => iaddr3 (sizeT E e) b o i
def iaddr1 : Option TypeDesc → AV → AV → Env → OR
  | some (.slice e), .slice b o len _ _ _, .int _ (.ofNat i), E => iaddr2 (Nat.blt i len) E e b o i
  | some (.array len e), .ptr b o, .int _ (.ofNat i), E => iaddr2 (Nat.blt i len) E e b o i
  | _, _, _, _ => .fail
def indexAddrV (E : Env) (t : TypeId) (x i : AV) : OR := iaddr1 (und E t) x i E

def u8V (m : Nat) : OR := .val (.int .u8 (.ofNat m))
def byteV : Option UInt8 → OR
  | none => .fail
  | some b => natS b.toNat u8V
def idx3 : Option Nat → Env → TypeId → List AV → Nat → OR
  | none, _, _, _, _ => .fail
  | some s, E, e, cs, i => valO (partOf E e cs (Nat.mul i s))
def idx2 : Bool → Env → TypeId → List AV → Nat → OR
  | false, _, _, _, _ => .fail
  | true, E, e, cs, i => idx3 (sizeT E e) E e cs i
def idx1 : Option TypeDesc → AV → AV → Env → OR
  | some .string, .str s, .int _ (.ofNat i), _ => byteV (nth i s.data.toList)
  | some (.array len e), .agg cs, .int _ (.ofNat i), E => idx2 (Nat.blt i len) E e cs i
  | _, _, _, _ => .fail
def indexV (E : Env) (t : TypeId) (x i : AV) : OR := idx1 (und E t) x i E

def fld2 : Option Field → Env → List AV → OR
  | none, _, _ => .fail
  | some f, E, cs => valO (partOf E f.type cs f.offset)
def fld1 : Option TypeDesc → AV → Env → Nat → OR
  | some (.struct fs), .agg cs, E, f => fld2 (nth f fs.toList) E cs
  | _, _, _, _ => .fail
def fieldV (E : Env) (t : TypeId) (x : AV) (f : Nat) : OR := fld1 (und E t) x E f

/-- Is this key that one? (whole numbers, pairs of these) -/
def ikeyEq : Bool → Int → Int → Option Bool
  | true, a, b => some (ibeq a b)
  | false, _, _ => none
def keyEq : AV → AV → Option Bool
  | .int k a, .int k' b => ikeyEq (kbeq k k') a b
  | .agg a, .agg b => pairEq a b
  | _, _ => none
def isPair : List AV → Bool
  | [.int .i64 _, .int .i64 _] => true
  | _ => false
/-- May this be a key of that type? -/
def keyOk : Option TypeDesc → Bool → AV → Bool
  | some (.int _), _, .int _ _ => true
  | some (.array _ _), true, .agg l => isPair l
  | _, _, _ => false
def findGo : Option Bool → AV → Option (Option AV) → Option (Option AV)
  | none, _, _ => none
  | some true, v, _ => some (some v)
  | some false, _, r => r
def findK (k : AV) : List (AV × AV) → Option (Option AV)
  | [] => some none
  | (x, v) :: l => findGo (keyEq k x) v (findK k l)
def setGo : Option Bool → AV → AV → AV → AV → List (AV × AV) → Option (List (AV × AV)) → Option (List (AV × AV))
  | none, _, _, _, _, _, _ => none
  | some true, k, v, _, _, l, _ => some ((k, v) :: l)
  | some false, _, _, x, u, _, r => consO (x, u) r
def setK (k v : AV) : List (AV × AV) → Option (List (AV × AV))
  | [] => some [(k, v)]
  | (x, u) :: l => setGo (keyEq k x) k v x u l (setK k v l)

def okTup : Bool → AV → Bool → OR
  | true, v, b => .val (.tup [v, .bool b])
  | false, v, _ => .val v
def look4 : Option AV → Bool → OR
  | none, _ => .fail
  | some z, ok => okTup ok z false
def look3 : Option (Option AV) → Env → TypeId → Bool → OR
  | none, _, _, _ => .fail
  | some (some v), _, _, ok => okTup ok v true
  | some none, E, e, ok => look4 (zeroOf E e) ok
def look2 : Bool → Option AO → Env → TypeId → AV → Bool → OR
  | true, some (.map l), E, e, k, ok => look3 (findK k l) E e ok
  | _, _, _, _, _, _ => .fail
def look1 : Option TypeDesc → AV → Env → Heap → AV → Bool → OR
  | some (.map kt e), .map b, E, H, k, ok => look2 (keyOk (und E kt) (memb kt E.keys) k) (H.get b) E e k ok
  | _, _, _, _, _, _ => .fail
def lookupV (E : Env) (H : Heap) (t : TypeId) (m k : AV) (ok : Bool) : OR := look1 (und E t) m E H k ok

def mup3 : Option (List (AV × AV)) → Heap → Nat → Nat → OR
  | none, _, _, _ => .fail
  | some l, H, n, b => memO (Tr.put depth H b (some (.map l))) (.tup []) n
def mup2 : Bool → Option AO → Heap → Nat → Nat → AV → AV → OR
  | true, some (.map l), H, n, b, k, v => mup3 (setK k v l) H n b
  | _, _, _, _, _, _, _ => .fail
def mup1 : Option TypeDesc → AV → Env → Heap → Nat → AV → AV → OR
  | some (.map kt _), .map b, E, H, n, k, v => mup2 (keyOk (und E kt) (memb kt E.keys) k) (H.get b) H n b k v
  | _, _, _, _, _, _, _ => .fail
def mapUpdateV (E : Env) (H : Heap) (n : Nat) (t : TypeId) (m k v : AV) : OR := mup1 (und E t) m E H n k v

/-- A bound of a slice expression. -/
def bound : Option AV → Nat → Option Nat
  | none, d => some d
  | some (.int _ (.ofNat i)), _ => some i
  | _, _ => none
def boundH : Option AV → Option AV → Nat → Option Nat
  | some _, none, _ => none
  | some _, some v, d => bound (some v) d
  | none, hi, d => bound hi d
def slV (b : Nat) (ex : Bool) (es p q c : Nat) : OR := .val (.slice b p q c ex es)
def slVal (b p q c : Nat) (ex : Bool) (es : Nat) : OR := natS p fun p => natS q fun q => natS c fun c => slV b ex es p q c
def sl6 : Option Heap → Nat → Nat → OR
  | none, _, _ => .fail
  | some H, n, s => fresh H n (.cells []) (vSl 0 0 false s)
def sl5 : Option AO → Heap → Nat → Nat → Nat → OR
  | some (.cells _), H, n, b, s => sl6 (Tr.put depth H b none) n s
  | _, _, _, _, _ => .fail
def sl4 : Bool → Bool → Heap → Nat → Nat → Nat → Nat → Nat → Nat → Nat → OR
  | true, true, _, _, b, o, s, _, _, _ => .val (.slice b o 0 0 true s)
  | true, false, _, _, b, o, s, l, h, m => slVal b (Nat.add o (Nat.mul l s)) (Nat.sub h l) (Nat.sub m l) true s
  | false, true, H, n, b, _, s, _, _, _ => sl5 (H.get b) H n b s
  | false, false, _, _, b, o, s, l, h, m => slVal b (Nat.add o (Nat.mul l s)) (Nat.sub h l) (Nat.sub m l) false s
def sl3 : Bool → Bool → Heap → Nat → Nat → Nat → Nat → Nat → Nat → Nat → OR
  | false, _, _, _, _, _, _, _, _, _ => .fail
  | true, ex, H, n, b, o, s, l, h, m => sl4 ex (Nat.beq m l) H n b o s l h m
def orB : Option AV → Bool → Bool
  | none, ex => ex
  | some _, _ => true
def sl2 : Option Nat → Option Nat → Option Nat → Option Nat → Nat → Bool → Heap → Nat → Nat → Nat → Nat → OR
  | some s, some l, some h, some m, es, ex, H, n, b, o, cap => sl3 (band (Nat.beq s es) (band (Nat.ble l h) (band (Nat.ble h m) (Nat.ble m cap)))) ex H n b o s l h m
  | _, _, _, _, _, _, _, _, _, _, _ => .fail
def slNil : Option Nat → Option Nat → Option Nat → Option Nat → OR
  | some _, some 0, some 0, some 0 => .val .nils
  | _, _, _, _ => .fail
def sl1 : Option TypeDesc → AV → Env → Heap → Nat → Option AV → Option AV → Option AV → OR
  | some (.slice e), .slice b o len cap ex es, E, H, n, lo, hi, mx => sl2 (sizeT E e) (bound lo 0) (boundH mx hi len) (bound mx cap) es (orB mx ex) H n b o cap
  | some (.slice e), .nils, E, _, _, lo, hi, mx => slNil (sizeT E e) (bound lo 0) (boundH mx hi 0) (bound mx 0)
  | _, _, _, _, _, _, _, _ => .fail
def sliceV (E : Env) (H : Heap) (n : Nat) (t : TypeId) (x : AV) (lo hi mx : Option AV) : OR := sl1 (und E t) x E H n lo hi mx

/-- The cells of a slice. -/
def row1 : Option AO → Nat → Nat → Option (List AV)
  | some (.cells l), o, n => subL l o n
  | some (.ro l), o, n => subL l o n
  | _, _, _ => none
def rowOf (H : Heap) (es : Nat) : AV → Option (List AV)
  | .nils => some []
  | .slice _ _ 0 _ _ _ => some []
  | .slice b o (len + 1) _ _ _ => row1 (H.get b) o (Nat.mul (len + 1) es)
  | _ => none
def lenV : AV → Option Nat
  | .nils => some 0
  | .slice _ _ l _ _ _ => some l
  | _ => none

def apIn2 (b o cap : Nat) (ex : Bool) (es : Nat) (H : Heap) (n q : Nat) : OR := .mem (.slice b o q cap ex es) H n
def apIn1 : Option Heap → Nat → Nat → Nat → Nat → Nat → Bool → Nat → OR
  | none, _, _, _, _, _, _, _ => .fail
  | some H, n, b, o, q, cap, ex, es => natS q (apIn2 b o cap ex es H n)
/-- Within what there is room for. -/
def apIn : Nat → Heap → Nat → Nat → Nat → Nat → Nat → Nat → Bool → List AV → OR
  | 0, H, n, b, o, es, len, cap, ex, _ => .mem (.slice b o len cap ex es) H n
  | xl + 1, H, n, b, o, es, len, cap, ex, xs => apIn1 (poke H b (Nat.add o (Nat.mul len es)) xs) n b o (Nat.add len (xl + 1)) cap ex es
/-- Into a new row; what was there is no longer looked at, unless it is known that there was no room. -/
def apNew3 : Option Heap → Nat → Nat → Nat → Option (List AV) → OR
  | none, _, _, _, _ => .fail
  | some H, n, es, q, all => natS q fun q => freshO all H n (vSl q q false es)
def lenAt : Option AO → Nat → Bool
  | some (.cells l), m => lenIs m l
  | _, _ => false
def apNew2 : Bool → Heap → Nat → Nat → Nat → Nat → Option (List AV) → OR
  | true, H, n, b, es, q, all => apNew3 (Tr.put depth H b none) n es q all
  | false, _, _, _, _, _, _ => .fail
def apNew1 : Bool → Heap → Nat → Nat → Nat → Nat → Nat → Nat → List AV → Option (List AV) → OR
  | true, H, n, _, _, es, _, q, _, all => apNew3 (some H) n es q all
  | false, H, n, b, o, es, len, q, xs, all => apNew2 (band (plainL xs) (lenAt (H.get b) (Nat.add o (Nat.mul len es)))) H n b es q all
def appOO : Option (List AV) → List AV → Option (List AV)
  | none, _ => none
  | some a, b => app a b
def apNew : Bool → Heap → Nat → Nat → Nat → Nat → Nat → Nat → Bool → List AV → Nat → OR
  | false, _, _, _, _, _, _, _, _, _, _ => .fail
  | true, H, n, b, o, es, len, cap, ex, xs, xl => apNew1 ex H n b o es len (Nat.add len xl) xs (appOO (rowOf H es (.slice b o len cap ex es)) xs)
def apSl : Bool → Heap → Nat → Nat → Nat → Nat → Nat → Nat → Bool → List AV → Nat → Nat → OR
  | true, H, n, b, o, es, len, cap, ex, xs, xl, _ => apIn xl H n b o es len cap ex xs
  | false, H, n, b, o, es, len, cap, ex, xs, xl, by_ => apNew (band (Nat.ble (Nat.add len xl) 1048576) (Nat.ble (Nat.mul (Nat.add len xl) by_) 1048576)) H n b o es len cap ex xs xl
def apNil1 : Bool → Heap → Nat → Nat → Nat → List AV → OR
  | false, _, _, _, _, _ => .fail
  | true, H, n, es, q, xs => fresh H n (.cells xs) (vSl q q false es)
def apNil : Nat → Heap → Nat → Nat → Nat → List AV → OR
  | 0, H, n, _, _, _ => .mem .nils H n
  | xl + 1, H, n, es, by_, xs => apNil1 (band (Nat.ble (xl + 1) 1048576) (Nat.ble (Nat.mul (xl + 1) by_) 1048576)) H n es (xl + 1) xs
def apEs : Bool → AV → Option Nat → Option (List AV) → Heap → Nat → Nat → Nat → OR
  | true, .slice b o len cap ex es, some xl, some xs, H, n, _, by_ => apSl (Nat.ble (Nat.add len xl) cap) H n b o es len cap ex xs xl by_
  | _, _, _, _, _, _, _, _ => .fail
def ap3 : AV → Option Nat → Option (List AV) → Heap → Nat → Nat → Nat → OR
  | .nils, some xl, some xs, H, n, es, by_ => apNil xl H n es by_ xs
  | .slice b o len cap ex es', xl, xs, H, n, es, by_ => apEs (Nat.beq es es') (.slice b o len cap ex es') xl xs H n es by_
  | _, _, _, _, _, _, _ => .fail
def ap2 : Nat → Nat → Heap → Nat → AV → AV → OR
  | 0, _, _, _, _, _ => .fail
  | es + 1, by_, H, n, s, x => ap3 s (lenV x) (rowOf H (es + 1) x) H n (es + 1) by_
def ap1 : Option TypeInfo → Heap → Nat → AV → AV → OR
  | none, _, _, _, _ => .fail
  | some j, H, n, s, x => ap2 j.size j.bytes H n s x
/-- What is added is no row of 'n noughts' (a form of its own). -/
def notInt : Option TypeDesc → Bool
  | some (.slice _) => true
  | _ => false
def ap0 : Option TypeDesc → Bool → Env → Heap → Nat → AV → AV → OR
  | some (.slice e), true, E, H, n, s, x => ap1 (info E e) H n s x
  | _, _, _, _, _, _, _ => .fail
def appendV (E : Env) (H : Heap) (n : Nat) (t u : TypeId) (s x : AV) : OR := ap0 (und E t) (notInt (und E u)) E H n s x

def cp4 : Option (List AV) → Heap → Nat → Nat → Nat → Nat → OR
  | none, _, _, _, _, _ => .fail
  | some xs, H, n, b, o, m => memO (poke H b o xs) (.int .i64 (.ofNat m)) n
def cp3 : Nat → AV → AV → Heap → Nat → Nat → OR
  | 0, _, _, H, n, _ => .mem (.int .i64 (.ofNat 0)) H n
  | m + 1, .slice b o _ _ _ _, .slice sb so _ _ _ _, H, n, es => cp4 (rowOf H es (.slice sb so (m + 1) 0 false es)) H n b o (m + 1)
  | _, _, _, _, _, _ => .fail
def cp2 : Option Nat → Option Nat → AV → AV → Heap → Nat → Nat → OR
  | some dl, some sl, d, s, H, n, es => cp3 (Nat.min sl dl) d s H n es
  | _, _, _, _, _, _, _ => .fail
def cp1 : Option Nat → AV → AV → Heap → Nat → OR
  | none, _, _, _, _ => .fail
  | some es, d, s, H, n => cp2 (lenV d) (lenV s) d s H n es
def cp0 : Option TypeDesc → Env → Heap → Nat → AV → AV → OR
  | some (.slice e), E, H, n, d, s => cp1 (sizeT E e) d s H n
  | _, _, _, _, _, _ => .fail
def copyV (E : Env) (H : Heap) (n : Nat) (t : TypeId) (d s : AV) : OR := cp0 (und E t) E H n d s

def i64V (m : Nat) : OR := .val (.int .i64 (.ofNat m))
def lenM : Option AO → OR
  | some (.map l) => natS l.length i64V
  | _ => .fail
def len1 : Option TypeDesc → AV → Heap → OR
  | some (.slice _), .nils, _ => i64V 0
  | some (.slice _), .slice _ _ l _ _ _, _ => natS l i64V
  | some (.map _ _), .map r, H => lenM (H.get r)
  | some .string, .str s, _ => natS s.size i64V
  | some (.array l _), _, _ => natS l i64V
  | _, _, _ => .fail
def pickI : Bool → IntKind → Int → Int → OR
  | true, k, _, b => .val (.int k b)
  | false, k, a, _ => .val (.int k a)
def min1 : Bool → Bool → IntKind → Int → Int → OR
  | true, c, k, a, b => pickI c k a b
  | false, _, _, _, _ => .fail
def builtinV : Builtin → List TypeId → List AV → Env → Heap → Nat → OR
  | .len, t :: _, [x], E, H, _ => len1 (und E t) x H
  | .append, t :: u :: _, [s, x], E, H, n => appendV E H n t u s x
  | .copy, t :: _, [d, s], E, H, n => copyV E H n t d s
  | .max, _, [.int k a, .int k' b], _, _, _ => min1 (kbeq k k') (iblt a b) k a b
  | .min, _, [.int k a, .int k' b], _, _, _ => min1 (kbeq k k') (iblt b a) k a b
  | _, _, _, _, _, _ => .fail

def bitsV : List AV → OR
  | [.flt b] => .val (.int .u64 (.ofNat b))
  | _ => .fail
def enter1 : Bool → FuncId → List AV → OR
  | true, _, args => bitsV args
  | false, f, args => .enter f args
def enterV (E : Env) (f : FuncId) (args : List AV) : OR := enter1 (Nat.beq f E.bits) f args

def fnArgs2 : Option (List AV) → FuncId → Option (FuncId × List AV)
  | none, _ => none
  | some l, f => some (f, l)
def fnArgs : AV → List AV → Option (FuncId × List AV)
  | .func f first cap, args => fnArgs2 (appO first (app args cap)) f
  | _, _ => none
def resolveV : Callee → List Operand → Tmps → Option (FuncId × List AV)
  | .value f, args, T => fnArgs (evO f T) (evL args T)
  | _, _, _ => none
def enterO : Option (FuncId × List AV) → Env → OR
  | none, _ => .fail
  | some (f, args), E => enterV E f args
def dfrO : Option (FuncId × List AV) → OR
  | none => .fail
  | some (f, args) => .dfr f args
/- A method of an interface value: its function, and what it is called on. -/
def recv3 : Option AV → FuncId → Option (FuncId × AV)
  | none, _ => none
  | some w, f => some (f, w)
def recv2 : Option TypeDesc → Bool → AV → FuncId → Env → Heap → Option (FuncId × AV)
  | some (.pointer _), true, v, f, _, _ => some (f, v)
  | some (.pointer e), false, .ptr b o, f, E, H => recv3 (loadAt E H e b o) f
  | _, _, _, _, _, _ => none
def recv1 : Option (FuncId × Bool) → Option TypeDesc → AV → Env → Heap → Option (FuncId × AV)
  | none, _, _, _, _ => none
  | some (f, p), d, v, E, H => recv2 d p v f E H
def recv0 : List FieldStep → Option (FuncId × Bool) → Option TypeDesc → AV → Env → Heap → Option (FuncId × AV)
  | [], g, d, v, E, H => recv1 g d v E H
  | _ :: _, _, _, _, _, _ => none
def meth2 : Option Method → Option TypeDesc → AV → Env → Heap → Option (FuncId × AV)
  | none, _, _, _, _ => none
  | some m, d, v, E, H => recv0 m.path.toList m.func d v E H
def meth1 : Option TypeInfo → String → Option TypeDesc → AV → Env → Heap → Option (FuncId × AV)
  | none, _, _, _, _, _ => none
  | some i, name, d, v, E, H => meth2 (i.methods.toList.find? fun m => m.name == name) d v E H
def methV (E : Env) (H : Heap) (t : TypeId) (v : AV) (name : String) : Option (FuncId × AV) := meth1 (info E t) name (und E t) v E H
def invO : Option (FuncId × AV) → List AV → OR
  | none, _ => .fail
  | some (f, w), l => .enter f (w :: l)
def invV : AV → String → List AV → Env → Heap → OR
  | .iface t v, name, l, E, H => invO (methV E H t v name) l
  | _, _, _, _, _ => .fail
def callOp : Callee → Array Operand → Array TypeId → Env → Tmps → Heap → Nat → OR
  | .builtin b, args, ts, E, T, H, n => builtinV b ts.toList (evL args.toList T) E H n
  | .value f, args, _, E, T, _, _ => enterO (resolveV (.value f) args.toList T) E
  | .invoke r name, args, _, E, T, H, _ => invV (evO r T) name (evL args.toList T) E H

def pickV : AV → AV → AV → OR
  | .bool true, a, _ => .val a
  | .bool false, _, b => .val b
  | _, _, _ => .fail
def allocV : Option AV → Heap → Nat → OR
  | some z, H, n => fresh H n (.cells z.cells) vPtr
  | none, _, _ => .fail
def boxV (v : AV) (H : Heap) (n : Nat) : OR := fresh H n (.cells v.cells) vPtr
def loadV : AV → Env → Heap → TypeId → OR
  | .ptr b o, E, H, t => valO (loadAt E H t b o)
  | _, _, _, _ => .fail
def storeV : AV → Env → Heap → Nat → TypeId → AV → OR
  | .ptr b o, E, H, n, t, v => memO (storeAt E H t b o v) (.tup []) n
  | _, _, _, _, _, _ => .fail
def nilV : AV → OR
  | .ptr b o => .val (.ptr b o)
  | .func f a b => .val (.func f a b)
  | .iface t v => .val (.iface t v)
  | _ => .fail
def mkIface : Option TypeDesc → TypeId → AV → OR
  | some (.interface _), _, _ => .fail
  | none, _, _ => .fail
  | some _, t, v => .val (.iface t v)
def mkFunc : Fn → List Operand → List Operand → Tmps → OR
  | .func f, first, cap, T => .val (.func f (evL first T) (evL cap T))
  | _, _, _, _ => .fail
def mkMap : Option Operand → Heap → Nat → OR
  | none, H, n => fresh H n (.map []) vMap
  | some _, _, _ => .fail
def asrt2 : Bool → AV → Bool → OR
  | true, v, ok => okTup ok v true
  | false, _, _ => .fail
def asrt1 : Option TypeDesc → AV → TypeId → Bool → OR
  | some (.interface _), _, _, _ => .fail
  | none, _, _, _ => .fail
  | some _, .iface t v, a, ok => asrt2 (Nat.beq t a) v ok
  | _, _, _, _ => .fail
def extrV : AV → Nat → OR
  | .tup vs, i => valO (nth i vs)
  | _, _ => .fail
def evOO : Option Operand → Tmps → Option AV
  | none, _ => none
  | some x, T => some (evO x T)

abbrev OpF := Env → Tmps → Heap → Nat → OR
def noOp : OpF := fun _ _ _ _ => .fail
/-- An operation. -/
def opV (o : Op) : OpF :=
  Op.rec (motive := fun _ => OpF)
    (fun x _ T _ _ => .val (evO x T))
    (fun x _ T _ _ => .val (evO x T))
    (fun c a b _ T _ _ => pickV (evO c T) (evO a T) (evO b T))
    (fun t E _ H n => allocV (zeroOf E t) H n)
    (fun _ x _ T H n => boxV (evO x T) H n)
    (fun t ps E T _ _ => buildV E t (evP ps.toList T))
    (fun t len ps E T H n => buildSliceV E H n t len (evP ps.toList T))
    (fun _ _ _ _ => noOp)
    (fun t a E T H _ => loadV (evO a T) E H t)
    (fun t a v E T H n => storeV (evO a T) E H n t (evO v T))
    (fun _ => noOp)
    (fun _ => noOp)
    (fun x _ T _ _ => nilV (evO x T))
    (fun op t x y _ E T _ _ => binOpV (evO x T) (evO y T) op E t)
    (fun op _ x _ T _ _ => unOpV op (evO x T))
    (fun c d x E T _ _ => convV E c d (evO x T))
    (fun _ _ => noOp)
    (fun t x E T _ _ => mkIface (und E t) t (evO x T))
    (fun fn first cap _ T _ _ => mkFunc fn first.toList cap.toList T)
    (fun _ r _ _ H n => mkMap r H n)
    (fun _ _ => noOp)
    (fun t l c E T H n => makeSliceV E H n t (evO l T) (evO c T))
    (fun t x lo hi mx E T H n => sliceV E H n t (evO x T) (evOO lo T) (evOO hi T) (evOO mx T))
    (fun t x f E T _ _ => fieldAddrV E t (evO x T) f)
    (fun t x f E T _ _ => fieldV E t (evO x T) f)
    (fun t x i E T _ _ => indexAddrV E t (evO x T) (evO i T))
    (fun t x i E T _ _ => indexV E t (evO x T) (evO i T))
    (fun t m k ok E T H _ => lookupV E H t (evO m T) (evO k T) ok)
    (fun t m k v E T H n => mapUpdateV E H n t (evO m T) (evO k T) (evO v T))
    (fun _ _ _ => noOp)
    (fun _ _ _ _ => noOp)
    (fun _ _ => noOp)
    (fun _ _ => noOp)
    (fun _ => noOp)
    (fun x _ a ok E T _ _ => asrt1 (und E a) (evO x T) a ok)
    (fun t i _ T _ _ => extrV (evO t T) i)
    (fun c E T H n => callOp c.callee c.args c.argTypes E T H n)
    (fun _ => noOp)
    (fun c _ T _ _ => dfrO (resolveV c.callee c.args.toList T))
    (fun _ => noOp)
    (fun _ _ => noOp)
    (fun _ _ _ => noOp)
    (fun _ _ => noOp)
    o

abbrev Dfr := List (FuncId × List AV)

/-- How code ends: 0 normal, 1 a return, k + 2 out of block k. -/
inductive CR where
  | fail
  | out (e : Nat) (T : Tmps) (D : Dfr) (H : Heap) (n : Nat)

/-- How a call ends ('bare': it has put nothing off). -/
inductive FR where
  | fail
  | ret (v : AV) (bare : Bool) (H : Heap) (n : Nat)

abbrev CallF := FuncId → List AV → Heap → Nat → FR
/-- What code runs by. -/
structure Ctx where
  E : Env
  call : CallF
  nt : Nat

abbrev Kont := Tmps → Dfr → Heap → Nat → CR

def putD (d : Option Tmp) : Nat → Tmps → AV → Kont → Dfr → Heap → Nat → CR :=
  Option.rec (motive := fun _ => Nat → Tmps → AV → Kont → Dfr → Heap → Nat → CR)
    (fun _ T _ K D H n => K T D H n)
    (fun t nt T v K D H n => Bool.rec (motive := fun _ => CR) .fail (Tr.putK .fail depth T t (some v) fun T' => K T' D H n) (Nat.blt t nt)) d

/-- Is an operation asked for? (a guard looks at what an operation ahead of it, by its place, has written) -/
def wanted3 : Option AV → Bool → Option Bool
  | some (.bool true), w => some w
  | some (.bool false), w => some (bnot w)
  | some (.tup _), _ => some false
  | _, _ => none
def wanted2 : Option Oper → Tmps → Bool → Option Bool
  | some ⟨some t, _, _, _, _, _⟩, T, w => wanted3 (T.get t) w
  | _, _, _ => none
def wantedV : Option (Nat × Bool) → List Oper → Tmps → Option Bool
  | none, _, _ => some true
  | some (j, w), ops, T => wanted2 (nth j ops) T w

def opCall : FR → Option Tmp → Nat → Tmps → Kont → Dfr → CR
  | .fail, _, _, _, _, _ => .fail
  | .ret v _ H n, d, nt, T, K, D => putD d nt T v K D H n
def opRes (r : OR) : Option Tmp → Ctx → Tmps → Kont → Dfr → Heap → Nat → CR :=
  OR.rec (motive := fun _ => Option Tmp → Ctx → Tmps → Kont → Dfr → Heap → Nat → CR)
    (fun _ _ _ _ _ _ _ => .fail)
    (fun v d C T K D H n => putD d C.nt T v K D H n)
    (fun v H n d C T K D _ _ => putD d C.nt T v K D H n)
    (fun f args d C T K D H n => opCall (C.call f args H n) d C.nt T K D)
    (fun f args d C T K D H n => putD d C.nt T (.tup []) K ((f, args) :: D) H n) r
def opGo : Option Bool → Op → Option Tmp → Ctx → Tmps → Kont → Dfr → Heap → Nat → CR
  | some false, _, d, C, T, K, D, H, n => putD d C.nt T (.tup []) K D H n
  | some true, o, d, C, T, K, D, H, n => opRes (opV o C.E T H n) d C T K D H n
  | none, _, _, _, _, _, _, _, _ => .fail
def operV (o : Oper) : List Oper → Ctx → Kont → Kont :=
  Oper.rec (motive := fun _ => List Oper → Ctx → Kont → Kont)
    (fun d o _ _ _ g => Option.rec (motive := fun _ => List Oper → Ctx → Kont → Kont)
      (fun _ C K T D H n => opRes (opV o C.E T H n) d C T K D H n)
      (fun jw all C K T D H n => opGo (wantedV (some jw) all T) o d C T K D H n) g) o

def outN : Kont := fun T D H n => .out 0 T D H n
/-- Operations, one after another, as the text has them. -/
def opsV (l : List Oper) : List Oper → Ctx → Kont :=
  List.rec (motive := fun _ => List Oper → Ctx → Kont) (fun _ _ => outN) (fun o _ ih all C => operV o all C (ih all C)) l

/- A REGION THAT LEAVES ITS ORDER OPEN: done as the text has it; what makes the order idle is looked at. -/

/-- Kinds: 0 neither reads nor writes, 1 reads, 2 makes memory, 3 writes or calls, 4 not taken. -/
def kindB : Builtin → Nat
  | .len => 1
  | .max => 0
  | .min => 0
  | .append => 3
  | .copy => 3
  | _ => 4
def kindC : Callee → Nat
  | .builtin b => kindB b
  | .value _ => 3
  | .invoke _ _ => 3
def kindOf : Op → Nat
  | .move _ => 0 | .assign _ => 0 | .pick _ _ _ => 0 | .build _ _ => 0 | .nilCheck _ => 0 | .binOp _ _ _ _ _ => 0 | .unOp _ _ _ => 0
  | .convert _ _ _ => 0 | .makeInterface _ _ => 0 | .makeFunc _ _ _ => 0 | .slice _ _ _ _ _ => 0 | .fieldAddr _ _ _ => 0 | .field _ _ _ => 0
  | .indexAddr _ _ _ => 0 | .index _ _ _ => 0 | .typeAssert _ _ _ _ => 0 | .extract _ _ => 0
  | .load _ _ => 1 | .lookup _ _ _ _ => 1
  | .alloc _ => 2 | .box _ _ => 2 | .buildSlice _ _ _ => 2 | .makeMap _ _ => 2 | .makeSlice _ _ _ => 2
  | .store _ _ _ => 3 | .mapUpdate _ _ _ _ => 3
  | .call c => kindC c.callee
  | _ => 4

/-- Whoever stands ahead of an operation, as a number's bits ('acc': of those ahead, by their places). -/
def ancE (acc : List Nat) : List Edge → Nat
  | [] => 0
  | e :: l => match Region.binds .any e with
    | true => Nat.lor (Nat.lor (Nat.pow 2 e.on) (match nth e.on acc with | some m => m | none => 0)) (ancE acc l)
    | false => ancE acc l
def ancs : List Oper → List Nat → List Nat
  | [], acc => acc
  | o :: l, acc => ancs l (acc ++ [ancE acc o.after.toList])
def hasB (m i : Nat) : Bool := Nat.testBit m i

structure Item where
  o : Oper
  kind : Nat
  lo : Nat     -- how many of those that write stand ahead of it
  hi : Nat     -- behind how many of them it may still come

/-- Of those that write (by their places): how many are among these bits. -/
def countIn (m : Nat) : List Nat → Nat
  | [] => 0
  | i :: l => match hasB m i with
    | true => countIn m l + 1
    | false => countIn m l
/-- How many of them do not have it ahead. -/
def countNot (an : List Nat) (k : Nat) : List Nat → Nat
  | [] => 0
  | i :: l => match nth i an with
    | some m => (match hasB m k with | true => countNot an k l | false => countNot an k l + 1)
    | none => countNot an k l

def tmpsIn : List Operand → List Nat
  | [] => []
  | .tmp t :: l => t :: tmpsIn l
  | _ :: l => tmpsIn l
def kinds : List Oper → List Nat
  | [] => []
  | o :: l => kindOf o.op :: kinds l
/-- The places of those of a kind. -/
def placesOf (k : Nat) : Nat → List Nat → List Nat
  | _, [] => []
  | i, x :: l => match Nat.beq x k with
    | true => i :: placesOf k (i + 1) l
    | false => placesOf k (i + 1) l

/-- Two are ordered. -/
def ordd (an : List Nat) (i k : Nat) : Bool :=
  match nth i an, nth k an with
  | some a, some b => bor (hasB b i) (hasB a k)
  | _, _ => false
/-- Whoever writes slot t (other than k) is ordered against k; so in all slots. -/
def dstOk (an : List Nat) (k t : Nat) : Nat → List Oper → Bool
  | _, [] => true
  | i, o :: l => band (match o.dst with
    | none => true
    | some d => match Nat.beq d t with
      | false => true
      | true => bor (Nat.beq i k) (ordd an i k)) (dstOk an k t (i + 1) l)
def useOk (an : List Nat) (all : List Oper) (k : Nat) : List Nat → Bool
  | [] => true
  | t :: l => band (dstOk an k t 0 all) (useOk an all k l)
/-- No two write one slot. -/
def dstNew (t : Nat) : List Oper → Bool
  | [] => true
  | o :: l => band (match o.dst with | none => true | some d => bnot (Nat.beq d t)) (dstNew t l)
def dstsOk : List Oper → Bool
  | [] => true
  | o :: l => band (match o.dst with | none => true | some d => dstNew d l) (dstsOk l)
/-- Edges point back. -/
def backE (k : Nat) : List Edge → Bool
  | [] => true
  | e :: l => band (match Region.binds .any e with | true => Nat.blt e.on k | false => true) (backE k l)
/-- A guard's operation stands ahead. -/
def guardOk (an : List Nat) (k : Nat) : Option (Nat × Bool) → Bool
  | none => true
  | some (j, _) => match nth k an with
    | some m => hasB m j
    | none => false
def opersOk (an : List Nat) (all : List Oper) : Nat → List Oper → Bool
  | _, [] => true
  | k, o :: l => band (band (backE k o.after.toList) (band (guardOk an k o.guard) (band (useOk an all k (tmpsIn o.op.operands.toList)) (Nat.blt (kindOf o.op) 4)))) (opersOk an all (k + 1) l)
/-- Each of these stands ahead of k. -/
def allIn (m : Nat) : List Nat → Bool
  | [] => true
  | i :: l => band (hasB m i) (allIn m l)
/-- Of these those below k. -/
def belowK (k : Nat) : List Nat → List Nat
  | [] => []
  | i :: l => match Nat.blt i k with
    | true => i :: belowK k l
    | false => belowK k l
/-- Whoever writes has all of those ahead of it that write or make memory and stand ahead in the text. -/
def writersOk (an ws as : List Nat) : List Nat → Bool
  | [] => true
  | k :: l => band (match nth k an with
    | some m => band (allIn m (belowK k ws)) (allIn m (belowK k as))
    | none => false) (writersOk an ws as l)
def itemsOf (an ws : List Nat) : Nat → List Oper → List Item
  | _, [] => []
  | k, o :: l => ⟨o, kindOf o.op, (match nth k an with | some m => countIn m ws | none => 0), countNot an k ws⟩ :: itemsOf an ws (k + 1) l
def planOk (ops : List Oper) : Bool :=
  band (dstsOk ops) (band (opersOk (ancs ops []) ops 0 ops) (writersOk (ancs ops []) (placesOf 3 0 (kinds ops)) (placesOf 2 0 (kinds ops)) (placesOf 3 0 (kinds ops))))
def plan1 : Bool → List Oper → Option (List Item)
  | true, ops => some (itemsOf (ancs ops []) (placesOf 3 0 (kinds ops)) 0 ops)
  | false, _ => none
def plan (ops : List Oper) : Option (List Item) := plan1 (planOk ops) ops

mutual
/-- Surely the same. -/
def avEq : AV → AV → Bool
  | .bool a, .bool b => match a, b with | true, true => true | false, false => true | _, _ => false
  | .int k a, .int k' b => band (kbeq k k') (ibeq a b)
  | .flt a, .flt b => Nat.beq a b
  | .nilp, .nilp => true
  | .ptr b o, .ptr b' o' => band (Nat.beq b b') (Nat.beq o o')
  | .nils, .nils => true
  | .slice b o l c x s, .slice b' o' l' c' x' s' => band (Nat.beq b b') (band (Nat.beq o o') (band (Nat.beq l l') (band (Nat.beq c c') (band (match x, x' with | true, true => true | false, false => true | _, _ => false) (Nat.beq s s')))))
  | .nilm, .nilm => true
  | .map b, .map b' => Nat.beq b b'
  | .nilf, .nilf => true
  | .func f a c, .func f' a' c' => band (Nat.beq f f') (band (avEqs a a') (avEqs c c'))
  | .nili, .nili => true
  | .iface t v, .iface t' v' => band (Nat.beq t t') (avEq v v')
  | .agg l, .agg l' => avEqs l l'
  | .tup l, .tup l' => avEqs l l'
  | .sym k i, .sym k' j => band (kbeq k k') (Nat.beq i j)
  | .fsym i, .fsym j => Nat.beq i j
  | _, _ => false
def avEqs : List AV → List AV → Bool
  | [], [] => true
  | a :: l, b :: r => band (avEq a b) (avEqs l r)
  | _, _ => false
end
def orIs (v : AV) : OR → Bool
  | .val u => avEq u v
  | _ => false

/-- A reading that must come to the same at later memories. -/
structure Pend where
  o : Op
  T : Tmps
  v : AV
  hi : Nat

/-- At the memory behind the s-th that writes all that is pending reads the same. -/
def pendOk (E : Env) (H : Heap) (s : Nat) : List Pend → Bool
  | [] => true
  | p :: l => band (match Nat.ble s p.hi with | true => orIs p.v (opV p.o E p.T H 0) | false => true) (pendOk E H s l)
/-- .. at those memories that were, the last first: as many as are asked. -/
def pastOk (E : Env) (o : Op) (T : Tmps) (v : AV) : Nat → List Heap → Bool
  | 0, _ => true
  | _ + 1, [] => false
  | k + 1, H :: l => band (orIs v (opV o E T H 0)) (pastOk E o T v k l)

/-- What a region on its way has: the memory behind the last that wrote, those ahead of it (the last first), how many wrote, what is pending. -/
structure DS where
  Hm : Heap
  old : List Heap
  s : Nat
  pend : List Pend

abbrev DKont := DS → Kont
def wrote2 : Bool → DS → DKont → Kont
  | true, S, K, T, D, H, n => K S T D H n
  | false, _, _, _, _, _, _ => .fail
/-- Behind one that writes. -/
def wrote (E : Env) (H : Heap) (S : DS) (K : DKont) : Kont :=
  wrote2 (pendOk E H (S.s + 1) S.pend) ⟨H, S.Hm :: S.old, S.s + 1, S.pend⟩ K
def dCall : FR → Item → Ctx → DS → DKont → Tmps → Dfr → CR
  | .ret v _ H n, it, C, S, K, T, D => putD it.o.dst C.nt T v (wrote C.E H S K) D H n
  | .fail, _, _, _, _, _, _ => .fail
def dWrite : OR → Item → Ctx → DS → DKont → Kont
  | .mem v H n, it, C, S, K, T, D, _, _ => putD it.o.dst C.nt T v (wrote C.E H S K) D H n
  | .enter f args, it, C, S, K, T, D, H, n => dCall (C.call f args H n) it C S K T D
  | _, _, _, _, _, _, _, _, _ => .fail
def dMk2 : Option Heap → AV → Item → Ctx → DS → DKont → Tmps → Dfr → Nat → CR
  | some H, v, it, C, S, K, T, D, n => putD it.o.dst C.nt T v (K S) D H n
  | none, _, _, _, _, _, _, _, _ => .fail
def dMk1 : Bool → Option AO → AV → Item → Ctx → DS → DKont → Tmps → Dfr → Heap → Nat → Nat → CR
  | true, some o, v, it, C, S, K, T, D, H, n, n1 => dMk2 (Tr.put depth H n (some o)) v it C S K T D n1
  | _, _, _, _, _, _, _, _, _, _, _, _ => .fail
/-- What is made (alone) is put into memory. -/
def dMake : OR → Item → Ctx → DS → DKont → Kont
  | .mem v H0 n1, it, C, S, K, T, D, H, n => dMk1 (Nat.beq n1 (Nat.succ n)) (H0.get n) v it C S K T D H n n1
  | _, _, _, _, _, _, _, _, _ => .fail
def pendAdd : Bool → Op → Tmps → AV → Nat → DS → DS
  | true, _, _, _, _, S => S
  | false, o, T, v, hi, S => ⟨S.Hm, S.old, S.s, ⟨o, T, v, hi⟩ :: S.pend⟩
def dRead2 : Bool → AV → Item → Ctx → DS → DKont → Kont
  | true, v, it, C, S, K, T, D, H, n => putD it.o.dst C.nt T v (K (pendAdd (Nat.ble it.hi S.s) it.o.op T v it.hi S)) D H n
  | false, _, _, _, _, _, _, _, _, _ => .fail
def dRead : OR → Item → Ctx → DS → DKont → Kont
  | .val v, it, C, S, K, T, D, H, n => dRead2 (pastOk C.E it.o.op T v (Nat.sub S.s it.lo) S.old) v it C S K T D H n
  | _, _, _, _, _, _, _, _, _ => .fail
def dPure : OR → Item → Ctx → DS → DKont → Kont
  | .val v, it, C, S, K, T, D, H, n => putD it.o.dst C.nt T v (K S) D H n
  | _, _, _, _, _, _, _, _, _ => .fail
def dGo : Nat → Item → Ctx → DS → DKont → Kont
  | 0, it, C, S, K, T, D, H, n => dPure (opV it.o.op C.E T .lf 0) it C S K T D H n
  | 1, it, C, S, K, T, D, H, n => dRead (opV it.o.op C.E T S.Hm 0) it C S K T D H n
  | 2, it, C, S, K, T, D, H, n => dMake (opV it.o.op C.E T .lf n) it C S K T D H n
  | 3, it, C, S, K, T, D, H, n => dWrite (opV it.o.op C.E T H n) it C S K T D H n
  | _, _, _, _, _, _, _, _, _ => .fail
/-- One that writes and isn't asked for counts as one that has written nothing. -/
def dSkip : Bool → Ctx → DS → DKont → Heap → Kont
  | true, C, S, K, H => wrote C.E H S K
  | false, _, S, K, _ => K S
def dWant : Option Bool → Item → Ctx → DS → DKont → Kont
  | none, _, _, _, _, _, _, _, _ => .fail
  | some true, it, C, S, K, T, D, H, n => dGo it.kind it C S K T D H n
  | some false, it, C, S, K, T, D, H, n => putD it.o.dst C.nt T (.tup []) (dSkip (Nat.beq it.kind 3) C S K H) D H n
def itemsV (l : List Item) : List Oper → Ctx → DS → Kont :=
  List.rec (motive := fun _ => List Oper → Ctx → DS → Kont) (fun _ _ _ => outN)
    (fun it _ ih all C S T D H n => dWant (wantedV it.o.guard all T) it C S (ih all C) T D H n) l
def drawV1 : Option (List Item) → List Oper → Ctx → Kont
  | none, _, _, _, _, _, _ => .fail
  | some its, all, C, T, D, H, n => itemsV its all C ⟨H, [], 0, []⟩ T D H n
def drawV (ops : List Oper) (C : Ctx) : Kont := drawV1 (plan ops) ops C
def regionV : Bool → List Oper → Ctx → Kont
  | true, ops, C => drawV ops C
  | false, ops, C => opsV ops ops C

/-- On, where the end was normal. -/
def thenV (r : CR) : Kont → CR :=
  CR.rec (motive := fun _ => Kont → CR) (fun _ => .fail)
    (fun e T D H n K => Nat.rec (motive := fun _ => CR) (K T D H n) (fun e _ => .out (Nat.succ e) T D H n) e) r

/-- Rounds. -/
def roundsV (k : Nat) : Kont → Kont :=
  Nat.rec (motive := fun _ => Kont → Kont) (fun _ _ _ _ _ => .fail) (fun _ ih body T D H n => thenV (body T D H n) (ih body)) k

def blk1 : Bool → Nat → Kont
  | true, _, T, D, H, n => .out 0 T D H n
  | false, e, T, D, H, n => .out (e + 2) T D H n
def blkV : CR → Nat → CR
  | .fail, _ => .fail
  | .out 0 T D H n, _ => .out 0 T D H n
  | .out 1 T D H n, _ => .out 1 T D H n
  | .out (e + 2) T D H n, id => blk1 (Nat.beq e id) e T D H n
def condV : AV → Kont → Kont → Kont
  | .bool true, a, _, T, D, H, n => a T D H n
  | .bool false, _, b, T, D, H, n => b T D H n
  | _, _, _, _, _, _, _ => .fail

abbrev rounds : Nat := 1073741824
def codeV (c : Code) : Ctx → Kont :=
  Code.rec (motive := fun _ => Ctx → Kont)
    (fun _ => outN)
    (fun _ ops draw C => regionV draw ops.toList C)
    (fun _ _ a b C T D H n => thenV (a C T D H n) (b C))
    (fun x _ _ a b C T D H n => condV (evO x T) (a C) (b C) T D H n)
    (fun id _ a C T D H n => blkV (a C T D H n) id)
    (fun _ a C => roundsV rounds (a C))
    (fun _ _ _ _ _ _ _ _ _ _ _ => .fail)
    (fun id _ T D H n => .out (id + 2) T D H n)
    (fun _ _ _ _ _ _ _ => .fail)
    (fun _ _ _ _ _ _ => .fail)
    (fun _ _ _ _ _ _ => .fail)
    (fun _ T D H n => .out 1 T D H n)
    (fun _ _ _ _ _ _ => .fail)
    c

/-- Results. -/
def res2 : Option AV → Env → Heap → TypeId → Option AV
  | some (.ptr b o), E, H, t => loadAt E H t b o
  | _, _, _, _ => none
def resV : ResultVar → Env → Tmps → Heap → Option AV
  | .tmp t, _, T, _ => T.get t
  | .cell a t, E, T, H => res2 (T.get a) E H t
def consR : Option AV → Option (List AV) → Option (List AV)
  | some v, r => consO v r
  | none, _ => none
def ressV : List ResultVar → Env → Tmps → Heap → Option (List AV)
  | [], _, _, _ => some []
  | r :: l, E, T, H => consR (resV r E T H) (ressV l E T H)

def putL : List AV → Nat → Option Tmps → Option Tmps
  | [], _, T => T
  | _ :: _, _, none => none
  | v :: l, i, some T => putL l (i + 1) (Tr.put depth T i (some v))

def memR : FR → (Heap → Nat → Option (Heap × Nat)) → Option (Heap × Nat)
  | .fail, _ => none
  | .ret _ true H n, K => K H n
  | .ret _ false _ _, _ => none
def dfrsV (call : CallF) : Dfr → Heap → Nat → Option (Heap × Nat)
  | [], H, n => some (H, n)
  | (f, args) :: l, H, n => memR (call f args H n) (dfrsV call l)

def bareD : Dfr → Bool
  | [] => true
  | _ :: _ => false
def ret1 : Option (List AV) → Bool → Heap → Nat → FR
  | none, _, _, _ => .fail
  | some [v], d, H, n => .ret v d H n
  | some vs, d, H, n => .ret (.tup vs) d H n
def end1 : Option (Heap × Nat) → Bool → Env → List ResultVar → Tmps → FR
  | none, _, _, _, _ => .fail
  | some (H, n), d, E, rs, T => ret1 (ressV rs E T H) d H n
def endV : CR → Ctx → List ResultVar → FR
  | .out 0 T D H n, C, rs => end1 (dfrsV C.call D H n) (bareD D) C.E rs T
  | .out 1 T D H n, C, rs => end1 (dfrsV C.call D H n) (bareD D) C.E rs T
  | _, _, _ => .fail

def body3 : Option Tmps → Code → Ctx → List ResultVar → Heap → Nat → FR
  | none, _, _, _, _, _ => .fail
  | some T, c, C, rs, H, n => endV (codeV c C T [] H n) C rs
def body2 : Bool → Code → Ctx → List ResultVar → List AV → Heap → Nat → FR
  | false, _, _, _, _, _, _ => .fail
  | true, c, C, rs, args, H, n => body3 (putL args 0 (some .lf)) c C rs H n
def fits : List AV → Nat → Bool
  | [], _ => true
  | _ :: _, 0 => false
  | _ :: l, n + 1 => fits l n
def body1 : Option Code → Nat → List ResultVar → Env → CallF → List AV → Heap → Nat → FR
  | none, _, _, _, _, _, _, _ => .fail
  | some c, nt, rs, E, call, args, H, n => body2 (fits args nt) c ⟨E, call, nt⟩ rs args H n
def call1 : Option Func → Env → CallF → List AV → Heap → Nat → FR
  | none, _, _, _, _, _ => .fail
  | some fn, E, call, args, H, n => body1 fn.body fn.ntmps fn.results.toList E call args H n
/-- What is known of a call beforehand comes first. -/
def ovr : Option FR → FR → FR
  | some r, _ => r
  | none, x => x
abbrev Over := FuncId → List AV → Heap → Nat → Option FR
/-- A call; at most so deep. -/
def callX (E : Env) (ov : Over) (d : Nat) : CallF :=
  Nat.rec (motive := fun _ => CallF) (fun _ _ _ _ => .fail) (fun _ ih f args H n => ovr (ov f args H n) (call1 (E.funcs.get f) E ih args H n)) d
def noOver : Over := fun _ _ _ _ => none
abbrev callV (E : Env) (d : Nat) : CallF := callX E noOver d
end Go.Am
end
