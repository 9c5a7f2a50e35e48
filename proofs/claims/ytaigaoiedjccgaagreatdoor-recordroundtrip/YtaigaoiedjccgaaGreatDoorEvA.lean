/-
  A part of the evaluator by names: that what it answers is what the machine does. For every program and every world in which the given facts hold.
-/
import GoSem.Step
import GoSem.Core.Region
import Derived.Laws.Sem
import Derived.Laws.World
import GoSem.Dispatch
import Derived.Calls
set_option linter.unusedVariables false
set_option linter.unusedSimpArgs false

/-! An abstract, deterministic evaluator of the model's code: values. -/
namespace Go.Ev

/-- A trie keyed by numbers. -/
inductive Tr (α : Type) where
  | leaf
  | node (l : Tr α) (v : Option α) (r : Tr α)

namespace Tr
variable {α : Type}
def get : Tr α → Nat → Option α
  | .leaf, _ => none
  | .node l v r, n =>
    match Nat.beq n 0 with
    | true => v
    | false => match Nat.beq (Nat.mod n 2) 1 with
      | true => l.get (Nat.div n 2)
      | false => r.get (Nat.sub (Nat.div n 2) 1)
/-- One path. -/
def one : Nat → Nat → α → Tr α
  | 0, _, v => .node .leaf (some v) .leaf
  | f + 1, n, v =>
    match Nat.beq n 0 with
    | true => .node .leaf (some v) .leaf
    | false => match Nat.beq (Nat.mod n 2) 1 with
      | true => .node (one f (Nat.div n 2) v) none .leaf
      | false => .node .leaf none (one f (Nat.sub (Nat.div n 2) 1) v)
def set : Tr α → Nat → α → Tr α
  | .leaf, n, x => one n n x
  | .node l v r, n, x =>
    match Nat.beq n 0 with
    | true => .node l (some x) r
    | false => match Nat.beq (Nat.mod n 2) 1 with
      | true => .node (l.set (Nat.div n 2) x) v r
      | false => .node l v (r.set (Nat.sub (Nat.div n 2) 1) x)
end Tr

/-- Abstract values: an address leads into a block of the world in which the run began ('o..'), or into an object that the run has made ('n..'). -/
inductive AV where
  | bool (b : Bool)
  | int (k : IntKind) (n : Int)
  | str (s : List UInt8)
  | optr (b o : Nat)
  | nptr (i o : Nat)
  | oslc (b o l c : Nat)
  | nslc (i o l : Nat) (c : Option Nat)
  | nemp (i b o : Nat)
  | nmap (i : Nat)
  | func (f : Fn) (first cap : List AV)
  | yield (i : Nat)
  | ifc (t : TypeId) (v : AV)
  | agg (l : List AV)
  | tup (l : List AV)
  | raw (v : Value)
  deriving Inhabited

/-- A value that is one cell, as it stands in the text. -/
def AV.ofScalar : Value → AV
  | .bool b => .bool b
  | .int k n => .int k n
  | .string s => .str s.data.toList
  | v => .raw v

/-- A constant of the text. -/
def AV.ofValue : Value → AV
  | .bool b => .bool b
  | .int k n => .int k n
  | .string s => .str s.data.toList
  | .agg cs => .agg (cs.toList.map AV.ofScalar)
  | .tuple cs => .tup (cs.toList.map AV.ofScalar)
  | v => .raw v

def AV.undef : AV := .tup []

def AV.cells : AV → List AV
  | .agg l => l
  | .raw (.agg cs) => cs.toList.map AV.ofScalar
  | v => [v]

/-- What the run needs to know of a type. -/
structure TI where
  d : TypeDesc
  size : Nat
  bytes : Nat
  zero : List AV
  zv : AV
  agg : Bool

def TypeDesc.isAgg : TypeDesc → Bool
  | .struct _ => true
  | .array _ _ => true
  | _ => false

def tiOf (P : Program) (t : TypeId) : Option TI :=
  match P.info? t with
  | none => none
  | some i => match P.underlying t with
    | none => none
    | some d => match i.zero with
      | none => none
      | some z => some { d, size := i.size, bytes := i.bytes, zero := z.cells.toList.map AV.ofScalar, zv := AV.ofValue z, agg := TypeDesc.isAgg d }

/-- Abstract objects. A row: its cells · the group of rows that may share memory · its age in the group · does it share? · has it been appended to? · so many cells may be frozen · its element type · is it the whole of its block? · may a bound be frozen behind its end? -/
inductive AObj where
  | row (c : List AV) (g gen : Nat) (sh ext : Bool) (frz : Nat) (e : TypeId) (wh sg : Bool)
  | map (es : List (AV × AV × Nat)) (clock : Nat)
  | siter (s : List UInt8) (pos : Nat)
  | miter (m : Option Nat) (since : Nat) (seen : List Nat) (stepped : Nat)
  | loop (st : LoopState) (pend : Option Code) (fn : FuncId) (tm : Tr AV) (nt : Nat) (params : Array Tmp) (assign body : Code) (defers : Nat)
  | dfr (open_ : Bool)

/-- The objects that the run has made: their number; the first 'ro' may only be read. -/
structure AH where
  n : Nat
  ro : Nat
  o : Tr AObj
  g : Tr Nat

def AH.gen (H : AH) (g : Nat) : Nat :=
  match H.g.get g with
  | none => 0
  | some x => x

/-- The cells of a row that still is what it was. -/
def AH.live (H : AH) (g gen : Nat) (sh : Bool) : Bool :=
  match sh with
  | false => true
  | true => Nat.beq (H.gen g) gen

def AH.cells (H : AH) (i : Nat) : Option (List AV) :=
  match H.o.get i with
  | some (.row c g gen sh _ _ _ _ _) => match H.live g gen sh with
    | true => some c
    | false => none
  | _ => none

/-- The cells of such a row, and its element type. -/
def AH.row (H : AH) (i : Nat) : Option (List AV × TypeId) :=
  match H.o.get i with
  | some (.row c g gen sh _ _ e _ _) => match H.live g gen sh with
    | true => some (c, e)
    | false => none
  | _ => none

/-- The cells of such a row whose room is not known, and its element type. -/
def AH.rowG (H : AH) (i : Nat) : Option (List AV × TypeId) :=
  match H.o.get i with
  | some (.row c g gen sh _ _ e false _) => match H.live g gen sh with
    | true => some (c, e)
    | false => none
  | _ => none

def AH.new (H : AH) (o : AObj) : AH := { n := H.n + 1, ro := H.ro, o := H.o.set H.n o, g := H.g }
def AH.setObj (H : AH) (i : Nat) (o : AObj) : AH := { n := H.n, ro := H.ro, o := H.o.set i o, g := H.g }

/-- The same, of an object that the run may write. -/
def AH.setO (H : AH) (i : Nat) (o : AObj) : Option AH :=
  match Nat.ble H.ro i with
  | true => some (H.setObj i o)
  | false => none

/-- 'n' elements from place 'k' on. -/
def slice {α : Type} (l : List α) (k n : Nat) : Option (List α) :=
  match Nat.ble (k + n) l.length with
  | true => some ((l.drop k).take n)
  | false => none

/-- The list with 'vs' laid over it from place 'k' on. -/
def over {α : Type} : List α → Nat → List α → List α
  | l, 0, vs => vs ++ l.drop vs.length
  | [], _ + 1, _ => []
  | x :: l, k + 1, vs => x :: over l k vs

/-- Writing cells into a row; if it shares, all others of its group are given up. -/
def AH.put (H : AH) (i k : Nat) (vs : List AV) : Option AH :=
  match H.o.get i with
  | some (.row c g gen sh ext frz e wh sg) => match H.live g gen sh with
    | false => none
    | true => match Nat.ble (k + vs.length) c.length with
      | false => none
      | true => match Nat.ble frz k && Nat.ble H.ro i with
        | false => none
        | true => match sh with
          | false => some (H.setObj i (.row (over c k vs) g gen sh ext frz e wh sg))
          | true => some { n := H.n, ro := H.ro, o := H.o.set i (.row (over c k vs) g (gen + 1) true false frz e wh sg), g := H.g.set g (gen + 1) }
  | _ => none

end Go.Ev

namespace Go.Ev

structure Ctx where
  P : Program
  /-- the cells of the blocks that were there -/
  old : Nat → Nat → Option AV
  /-- functions without a body that only compute -/
  ext : FuncId → List AV → Option AV

def AV.isCell : AV → Bool
  | .agg _ => false
  | .tup _ => false
  | .raw (.agg _) => false
  | .raw (.tuple _) => false
  | _ => true

/-- Does a whole number stay as it is? (Else the model's own word.) -/
def wrapF (k : IntKind) (n : Int) : Int :=
  match k, n with
  | .i64, .ofNat m => match Nat.ble m 9223372036854775807 with
    | true => .ofNat m
    | false => IntKind.i64.wrap (.ofNat m)
  | .i64, .negSucc m => match Nat.ble m 9223372036854775807 with
    | true => .negSucc m
    | false => IntKind.i64.wrap (.negSucc m)
  | .u8, .ofNat m => .ofNat (Nat.mod m 256)
  | .u64, .ofNat m => .ofNat (Nat.mod m 18446744073709551616)
  | k, n => k.wrap n

def intCmpF (op : BinOp) (x y : Int) : Option Bool :=
  match op with
  | .eql => some (x == y)
  | .neq => some (x != y)
  | .lss => some (decide (x < y))
  | .leq => some (decide (x ≤ y))
  | .gtr => some (decide (y < x))
  | .geq => some (decide (y ≤ x))
  | _ => none

def intOpF (op : BinOp) (k : IntKind) (x y : Int) : Option AV :=
  match op with
  | .add => some (.int k (wrapF k (x + y)))
  | .sub => some (.int k (wrapF k (x - y)))
  | .mul => some (.int k (wrapF k (x * y)))
  | .quo => if y = 0 then none else some (.int k (wrapF k (x.tdiv y)))
  | .rem => if y = 0 then none else some (.int k (x.tmod y))
  | .and => some (.int k (k.wrap (BitVec.ofInt k.bits x &&& BitVec.ofInt k.bits y).toNat))
  | .or => some (.int k (k.wrap (BitVec.ofInt k.bits x ||| BitVec.ofInt k.bits y).toNat))
  | .xor => some (.int k (k.wrap (BitVec.ofInt k.bits x ^^^ BitVec.ofInt k.bits y).toNat))
  | .andNot => some (.int k (k.wrap (BitVec.ofInt k.bits x &&& ~~~BitVec.ofInt k.bits y).toNat))
  | op => (intCmpF op x y).map .bool

def shiftF (op : BinOp) (k : IntKind) (x y : Int) : Option AV :=
  if y < 0 then none else
  let n := min y.toNat k.bits
  match op with
  | .shl => some (.int k (wrapF k (x * (2 ^ n : Nat))))
  | .shr => some (.int k (x.fdiv (2 ^ n : Nat)))
  | _ => none

def strOpF (op : BinOp) (x y : List UInt8) : Option AV :=
  match op with
  | .add => match Nat.ble (x.length + y.length) 1000000000 with
    | true => some (.str (x ++ y))
    | false => none
  | .eql => some (.bool (x == y))
  | .neq => some (.bool (!(x == y)))
  | .lss => some (.bool (Op.bytesLess x y))
  | .leq => some (.bool (Op.bytesLess x y || x == y))
  | .gtr => some (.bool !(Op.bytesLess x y || x == y))
  | .geq => some (.bool !(Op.bytesLess x y))
  | _ => none

/-- Two plain values compared. -/
def eqKey : AV → AV → Option Bool
  | .bool a, .bool b => some (a == b)
  | .int k a, .int k' b => if k = k' then some (a == b) else none
  | .str a, .str b => some (a == b)
  | _, _ => none

def isNilPtr : AV → Bool
  | .raw (.pointer none) => true
  | _ => false
def isPtr : AV → Bool
  | .nptr _ _ => true
  | .optr _ _ => true
  | _ => false
def isNilSlice : AV → Bool
  | .raw (.slice none _ _) => true
  | _ => false
def isSlice : AV → Bool
  | .nslc _ _ _ _ => true
  | .nemp _ _ _ => true
  | .oslc _ _ _ _ => true
  | _ => false
def isNilMap : AV → Bool
  | .raw (.map none) => true
  | _ => false
def isMap : AV → Bool
  | .nmap _ => true
  | _ => false
def isNilFunc : AV → Bool
  | .raw .nilFunc => true
  | _ => false
def isFunc : AV → Bool
  | .func _ _ _ => true
  | .yield _ => true
  | _ => false
def isNilIface : AV → Bool
  | .raw .nilIface => true
  | _ => false
def isIface : AV → Bool
  | .ifc _ _ => true
  | _ => false

/-- A comparison where one of the two may be nil. -/
def eqNil (nil real : AV → Bool) (x y : AV) : Option Bool :=
  match nil x with
  | true => match nil y with
    | true => some true
    | false => match real y with
      | true => some false
      | false => none
  | false => match real x && nil y with
    | true => some false
    | false => none

/-- Two values of a type compared, other than numbers, strings, aggregates. -/
def eqTy (P : Program) (t : TypeId) (x y : AV) : Option Bool :=
  match P.underlying t with
  | some .bool => match x, y with
    | .bool a, .bool b => some (a == b)
    | _, _ => none
  | some (.pointer e) => match x, y with
    | .nptr i a, .nptr j b => match Nat.beq i j, tiOf P e with
      | true, some ti => match Nat.beq ti.size 0 with
        | true => none
        | false => some (Nat.beq a b)
      | _, _ => none
    | x, y => eqNil isNilPtr isPtr x y
  | some (.slice _) => eqNil isNilSlice isSlice x y
  | some (.map _ _) => eqNil isNilMap isMap x y
  | some (.func _ _ _) => eqNil isNilFunc isFunc x y
  | some (.interface _) => match isNilIface x && isNilIface y with
    | true => none
    | false => eqNil isNilIface isIface x y
  | _ => none

/-- Two cells of a plain type compared. -/
def eqPlain (d : Option TypeDesc) (x y : AV) : Option Bool :=
  match d, x, y with
  | some .bool, .bool a, .bool b => some (a == b)
  | some (.int _), .int k a, .int k' b => if k = k' then some (a == b) else none
  | some .string, .str a, .str b => some (a == b)
  | _, _, _ => none

/-- The fields of two structs, one by one; each is one plain cell. -/
def eqFields (P : Program) : List Field → Nat → List AV → List AV → Option Bool
  | [], _, _, _ => some true
  | f :: fs, n, x :: xs, y :: ys => match f.name ≠ "_" && Nat.beq f.offset n with
    | false => none
    | true => match eqPlain (P.underlying f.type) x y with
      | some true => eqFields P fs (n + 1) xs ys
      | some false => some false
      | none => none
  | _, _, _, _ => none

def eqElems (d : Option TypeDesc) : Nat → List AV → List AV → Option Bool
  | 0, _, _ => some true
  | n + 1, x :: xs, y :: ys => match eqPlain d x y with
    | some true => eqElems d n xs ys
    | some false => some false
    | none => none
  | _, _, _ => none

def eqAgg (P : Program) (t : TypeId) (a b : List AV) : Option Bool :=
  match P.eqGuardType P.depth t with
  | true => none
  | false => match P.underlying t with
    | some (.struct fs) => match P.stoodInHeld t with
      | true => none
      | false => eqFields P fs.toList 0 a b
    | some (.array n e) => match tiOf P e with
      | none => none
      | some ti => match Nat.beq ti.size 1 with
        | true => eqElems (P.underlying e) n a b
        | false => none
    | _ => none

def Operand.isConst : Operand → Bool
  | .const _ => true
  | _ => false

def binF (C : Ctx) (op : BinOp) (t : TypeId) (cx cy : Bool) (x y : AV) : Option AV :=
  match x, y with
  | .int k a, .int k' b => match op with
    | .shl => shiftF .shl k a b
    | .shr => shiftF .shr k a b
    | op => if k = k' then intOpF op k a b else none
  | .str a, .str b => strOpF op a b
  | .agg a, .agg b => match op with
    | .eql => (eqAgg C.P t a b).map .bool
    | .neq => (eqAgg C.P t a b).map fun r => .bool !r
    | _ => none
  | .raw .nilIface, .raw .nilIface => match C.P.underlying t, cx || cy with
    | some (.interface _), true => match op with
      | .eql => some (.bool true)
      | .neq => some (.bool false)
      | _ => none
    | _, _ => none
  | x, y => match op with
    | .eql => (eqTy C.P t x y).map .bool
    | .neq => (eqTy C.P t x y).map fun r => .bool !r
    | _ => none

def unF (op : UnOp) (x : AV) : Option AV :=
  match op, x with
  | .not, .bool b => some (.bool !b)
  | .neg, .int k n => some (.int k (wrapF k (0 - n)))
  | .xor, .int k n => some (.int k (k.wrap (BitVec.ofInt k.bits (if k.signed then -1 else k.max) ^^^ BitVec.ofInt k.bits n).toNat))
  | _, _ => none

/-- 'n' cells at an address. -/
def readN (C : Ctx) (H : AH) (a : AV) (k n : Nat) : Option (List AV) :=
  match a with
  | .nptr i o => match H.cells i with
    | some c => slice c (o + k) n
    | none => none
  | .optr b o => (List.range' (o + k) n).mapM fun j => C.old b j
  | _ => none

def read1 (C : Ctx) (H : AH) (a : AV) : Option AV :=
  match a with
  | .nptr i o => match H.cells i with
    | some c => c[o]?
    | none => none
  | .optr b o => C.old b o
  | _ => none

def loadF (C : Ctx) (H : AH) (t : TypeId) (a : AV) : Option AV :=
  match tiOf C.P t with
  | none => none
  | some ti => match ti.agg with
    | true => (readN C H a 0 ti.size).map .agg
    | false => read1 C H a

def storeF (C : Ctx) (H : AH) (t : TypeId) (a v : AV) : Option AH :=
  match tiOf C.P t with
  | none => none
  | some ti => match a with
    | .nptr i o => match Nat.beq v.cells.length ti.size && v.cells.all AV.isCell with
      | true => H.put i o v.cells
      | false => none
    | _ => none

def newRow (H : AH) (c : List AV) (e : TypeId) : AH := H.new (.row c H.n 0 false false 0 e true false)

def offAddr (a : AV) (k : Nat) : Option AV :=
  match a with
  | .nptr i o => some (.nptr i (o + k))
  | .optr b o => some (.optr b (o + k))
  | _ => none

def fieldOf (C : Ctx) (s : TypeId) (f : Nat) : Option Field :=
  match C.P.underlying s with
  | some (.struct fs) => fs[f]?
  | _ => none

def fieldAddrF (C : Ctx) (s : TypeId) (a : AV) (f : Nat) : Option AV :=
  match fieldOf C s f with
  | none => none
  | some fd => match tiOf C.P fd.type with
    | none => none
    | some ti => match Nat.beq ti.size 0 with
      | true => none
      | false => offAddr a fd.offset

def fieldF (C : Ctx) (s : TypeId) (x : AV) (f : Nat) : Option AV :=
  match x, fieldOf C s f with
  | .agg l, some fd => match tiOf C.P fd.type with
    | none => none
    | some ti => match ti.agg with
      | true => (slice l fd.offset ti.size).map .agg
      | false => l[fd.offset]?
  | _, _ => none

def natOf : AV → Option Nat
  | .int _ (.ofNat n) => some n
  | _ => none

def elemInfo (C : Ctx) (t : TypeId) : Option TI :=
  match C.P.underlying t with
  | some (.slice e) => tiOf C.P e
  | some (.array _ e) => tiOf C.P e
  | _ => none

def indexAddrF (C : Ctx) (t : TypeId) (x ix : AV) : Option AV :=
  match natOf ix with
  | none => none
  | some i => match C.P.underlying t with
    | some (.array len e) => match tiOf C.P e with
      | some ti => match Nat.blt i len with
        | true => offAddr x (i * ti.size)
        | false => none
      | none => none
    | some (.slice e) => match tiOf C.P e with
      | some ti => match x with
        | .nslc j o l _ => match Nat.blt i l with
          | true => some (.nptr j (o + i * ti.size))
          | false => none
        | .oslc b o l _ => match Nat.blt i l with
          | true => some (.optr b (o + i * ti.size))
          | false => none
        | _ => none
      | none => none
    | _ => none

def indexF (C : Ctx) (t : TypeId) (x ix : AV) : Option AV :=
  match natOf ix with
  | none => none
  | some i => match C.P.underlying t, x with
    | some .string, .str s => match s[i]? with
      | some b => some (.int .u8 b.toNat)
      | none => none
    | some (.array len e), .agg l => match Nat.blt i len with
      | false => none
      | true => match tiOf C.P e with
        | none => none
        | some ti => match ti.agg with
          | true => (slice l (i * ti.size) ti.size).map .agg
          | false => l[i * ti.size]?
    | _, _ => none

def boundF (x : Option AV) (d : Nat) : Option Nat :=
  match x with
  | none => some d
  | some v => natOf v

/-- The bounds of a slice expression: (low, high, max); 'kc': so much room is known. -/
def boundsF (len kc : Nat) (lo hi mx : Option AV) : Option (Nat × Nat × Nat) :=
  match mx with
  | none => match boundF hi len, boundF lo 0 with
    | some h, some l => match Nat.ble l h && Nat.ble h kc with
      | true => some (l, h, kc)
      | false => none
    | _, _ => none
  | some mv => match hi with
    | none => none
    | some hv => match natOf mv, natOf hv, boundF lo 0 with
      | some m, some h, some l => match Nat.ble l h && Nat.ble h m && Nat.ble m kc with
        | true => some (l, h, m)
        | false => none
      | _, _, _ => none

def sliceF (C : Ctx) (H : AH) (t : TypeId) (x : AV) (lo hi mx : Option AV) : Option AV :=
  match C.P.underlying t with
  | some .string => match x, mx with
    | .str s, none => match boundsF s.length s.length lo hi none with
      | some (l, h, _) => some (.str ((s.drop l).take (h - l)))
      | none => none
    | _, _ => none
  | some (.array n e) => match x, tiOf C.P e with
    | .nptr i o, some ti => match boundsF n n lo hi mx with
      | some (l, h, m) => some (.nslc i (if m = l then o else o + l * ti.size) (h - l) (some (m - l)))
      | none => none
    | _, _ => none
  | some (.slice e) => match tiOf C.P e with
    | none => none
    | some ti => match Nat.beq ti.size 0 with
      | true => none
      | false => match x with
        | .raw (.slice none 0 0) => match boundsF 0 0 lo hi mx with
          | some _ => some x
          | none => none
        | .oslc b o len cap => match boundsF len cap lo hi mx with
          | some (l, h, m) => some (.oslc b (if m = l then o else o + l * ti.size) (h - l) (m - l))
          | none => none
        | .nslc i o len (some cap) => match boundsF len cap lo hi mx with
          | some (l, h, m) => some (.nslc i (if m = l then o else o + l * ti.size) (h - l) (some (m - l)))
          | none => none
        | .nslc i o len none => match H.rowG i with
          | none => none
          | some (c, e') => match Nat.beq e e' && Nat.ble o c.length with
            | false => none
            | true => match boundsF len (Nat.div (c.length - o) ti.size) lo hi mx with
              | none => none
              | some (l, h, m) => match mx with
                | some _ => some (.nslc i (if m = l then o else o + l * ti.size) (h - l) (some (m - l)))
                | none => match Nat.blt (o + l * ti.size) c.length with
                  | true => some (.nslc i (o + l * ti.size) (h - l) none)
                  | false => some (.nemp i o (o + l * ti.size))
        | .nemp i b o => match mx with
          | none => match boundsF 0 0 lo hi none with
            | some _ => some x
            | none => none
          | some _ => none
        | _ => none
  | _ => none

def lenF (C : Ctx) (H : AH) (t : TypeId) (x : AV) : Option Nat :=
  match C.P.underlying t, x with
  | some .string, .str s => some s.length
  | some (.array n _), _ => some n
  | some (.slice _), .raw (.slice none 0 0) => some 0
  | some (.slice _), .oslc _ _ l _ => some l
  | some (.slice _), .nslc _ _ l _ => some l
  | some (.slice _), .nemp _ _ _ => some 0
  | some (.map _ _), .raw (.map none) => some 0
  | some (.map _ _), .nmap i => match H.o.get i with
    | some (.map es _) => some es.length
    | _ => none
  | _, _ => none

/-- The cells of the first 'n' elements of a slice, or of a string's bytes. -/
def elemsF (C : Ctx) (H : AH) (sz n : Nat) (x : AV) : Option (List AV) :=
  match x with
  | .raw (.slice none 0 0) => some []
  | .nemp _ _ _ => some []
  | .oslc b o l _ => match Nat.ble n l with
    | true => readN C H (.optr b o) 0 (n * sz)
    | false => none
  | .nslc i o l _ => match Nat.ble n l with
    | true => readN C H (.nptr i o) 0 (n * sz)
    | false => none
  | .str s => match Nat.beq sz 1 with
    | true => some ((s.take n).map fun b => .int .u8 b.toNat)
    | false => none
  | _ => none

def srcLen : AV → Option Nat
  | .raw (.slice none 0 0) => some 0
  | .nemp _ _ _ => some 0
  | .oslc _ _ l _ => some l
  | .nslc _ _ l _ => some l
  | .str s => some s.length
  | _ => none

/-- A grown array: its room is not known. -/
def growF (H : AH) (ti : TI) (e : TypeId) (need : Nat) (old new : List AV) : Option (AV × AH) :=
  match Nat.ble ((3 * need + 4096) * ti.bytes) 100000000000000 && Nat.beq ti.zero.length ti.size with
  | true => some (.nslc H.n 0 need none, H.new (.row (old ++ new) H.n 0 false false 0 e false false))
  | false => none

/-- An append behind the last known cell of a row whose room is not known: into the room, or into a new array. -/
def behindF (H : AH) (ti : TI) (e : TypeId) (i o l n : Nat) (new : List AV) : Option (AV × AH) :=
  match Nat.ble ((3 * (l + n) + 4096) * ti.bytes) 100000000000000 with
  | false => none
  | true => match H.o.get i with
    | some (.row c g gen sh ext frz e' wh sg) => match H.live g gen sh && Nat.beq e e' && !wh with
      | false => none
      | true => match Nat.beq (o + l * ti.size) c.length with
        | false => match Nat.ble (o + (l + n) * ti.size) c.length with
          | true => (H.put i (o + l * ti.size) new).map fun H' => (.nslc i o (l + n) none, H')
          | false => none
        | true => match Nat.ble H.ro i && Nat.ble frz c.length && Nat.beq (Nat.mod o ti.size) 0 && Nat.beq ti.zero.length ti.size with
          | false => none
          | true => match ext with
            | false =>
              let H1 : AH := { n := H.n, ro := H.ro, o := H.o.set i (.row c g (H.gen g) true true frz e' wh sg), g := H.g }
              some (.nslc H.n 0 (l + n) none, H1.new (.row (c.drop o ++ new) g (H.gen g) true false (frz - o) e' false sg))
            | true =>
              let H1 : AH := { n := H.n, ro := H.ro, o := H.o.set i (.row c g (H.gen g + 1) true true frz e' wh sg), g := H.g.set g (H.gen g + 1) }
              some (.nslc H.n 0 (l + n) none, H1.new (.row (c.drop o ++ new) g (H.gen g + 1) true false (frz - o) e' false sg))
    | _ => none

def appendF (C : Ctx) (H : AH) (t : TypeId) (s x : AV) : Option (AV × AH) :=
  match C.P.underlying t with
  | some (.slice e) => match tiOf C.P e with
    | none => none
    | some ti => match Nat.beq ti.size 0 || Nat.beq ti.bytes 0 with
      | true => none
      | false => match srcLen x with
        | none => none
        | some n => match elemsF C H ti.size n x with
          | none => none
          | some new => match Nat.beq n 0 with
            | true => match s with
              | .raw (.slice none 0 0) => some (s, H)
              | .oslc _ _ l c => match Nat.ble l c with
                | true => some (s, H)
                | false => none
              | .nslc _ _ l (some c) => match Nat.ble l c with
                | true => some (s, H)
                | false => none
              | .nslc i o l none => match H.rowG i with
                | some (c, e') => match Nat.beq e e' && Nat.ble (o + l * ti.size) c.length with
                  | true => some (s, H)
                  | false => none
                | none => none
              | .nemp _ _ _ => some (s, H)
              | _ => none
            | false => match new.all AV.isCell with
              | false => none
              | true => match s with
                | .raw (.slice none 0 0) => growF H ti e n [] new
                | .oslc b o l c => match Nat.ble (l + n) c with
                  | true => none
                  | false => match readN C H (.optr b o) 0 (l * ti.size) with
                    | some old => growF H ti e (l + n) old new
                    | none => none
                | .nslc i o l (some c) => match Nat.ble (l + n) c with
                  | true => (H.put i (o + l * ti.size) new).map fun H' => (.nslc i o (l + n) (some c), H')
                  | false => match readN C H (.nptr i o) 0 (l * ti.size) with
                    | some old => growF H ti e (l + n) old new
                    | none => none
                | .nslc i o l none => behindF H ti e i o l n new
                | .nemp i _ o => behindF H ti e i o 0 n new
                | _ => none
  | _ => none

def copyF (C : Ctx) (H : AH) (t : TypeId) (d x : AV) : Option (Nat × AH) :=
  match C.P.underlying t with
  | some (.slice e) => match tiOf C.P e with
    | none => none
    | some ti => match srcLen x with
      | none => none
      | some m => match d with
        | .raw (.slice none 0 0) => some (0, H)
        | .nemp _ _ _ => some (0, H)
        | .nslc i o l _ =>
          match elemsF C H ti.size (Nat.min m l) x with
          | none => none
          | some new => match new.all AV.isCell with
            | false => none
            | true => (H.put i o new).map fun H' => (Nat.min m l, H')
        | _ => none
  | _ => none

def zerosF (ti : TI) : Nat → List AV
  | 0 => []
  | n + 1 => ti.zero ++ zerosF ti n

def makeSliceF (C : Ctx) (H : AH) (t : TypeId) (l c : AV) : Option (AV × AH) :=
  match C.P.underlying t with
  | some (.slice e) => match tiOf C.P e, natOf l, natOf c with
    | some ti, some l, some c => match Nat.ble l c && Nat.ble (c * ti.bytes) 100000000000000 && Nat.ble c 100000000000000 && Nat.beq ti.zero.length ti.size && !Nat.beq ti.size 0 with
      | true => some (.nslc H.n 0 l (some c), newRow H (zerosF ti c) e)
      | false => none
    | _, _, _ => none
  | _ => none

/-- Parts laid over the cells of a zero value. -/
def fillF (place : Nat → Option (Nat × Nat)) (cells : List AV) : List (Nat × AV) → Option (List AV)
  | [] => some cells
  | (i, v) :: rest => match place i with
    | none => none
    | some (off, size) => match Nat.beq v.cells.length size && Nat.ble (off + v.cells.length) cells.length with
      | false => none
      | true => fillF place (over cells off v.cells) rest

def placesF (C : Ctx) : List Field → Option (List (Nat × Nat))
  | [] => some []
  | f :: fs => match tiOf C.P f.type with
    | none => none
    | some ti => match placesF C fs with
      | none => none
      | some l => some ((f.offset, ti.size) :: l)

def buildF (C : Ctx) (t : TypeId) (parts : List (Nat × AV)) : Option AV :=
  match tiOf C.P t with
  | none => none
  | some ti => match ti.d with
    | .struct fs => match placesF C fs.toList with
      | none => none
      | some ps => (fillF (fun i => ps[i]?) ti.zero parts).map .agg
    | .array _ e => match tiOf C.P e with
      | none => none
      | some te => (fillF (fun i => some (i * te.size, te.size)) ti.zero parts).map .agg
    | _ => none

def buildSliceF (C : Ctx) (H : AH) (t : TypeId) (len : Nat) (parts : List (Nat × AV)) : Option (AV × AH) :=
  match C.P.underlying t with
  | some (.slice e) => match tiOf C.P e with
    | none => none
    | some te => match Nat.ble (len * te.size) 1000000 && Nat.beq te.zero.length te.size && !Nat.beq te.size 0 with
      | false => none
      | true => match fillF (fun i => some (i * te.size, te.size)) (zerosF te len) parts with
        | none => none
        | some cells => some (.nslc H.n 0 len (some len), newRow H cells e)
  | _ => none

def byteOf' : AV → Option UInt8
  | .int .u8 (.ofNat n) => some (UInt8.ofNat n)
  | _ => none

/-- A string's bytes in a new array: its room is not known. -/
def strRow (i : Nat) (s : List UInt8) : AV :=
  match s with
  | [] => .nemp i 0 0
  | _ => .nslc i 0 s.length none

def convertF (C : Ctx) (H : AH) (src dst : TypeId) (x : AV) : Option (AV × AH) :=
  match C.P.underlying src, C.P.underlying dst with
  | some (.pointer t), some .unsafePointer => match x, tiOf C.P t with
    | .nptr i o, some ti => match H.cells i with
      | some c => match Nat.blt o c.length && !Nat.beq ti.size 0 with
        | true => some (x, H)
        | false => none
      | none => none
    | _, _ => none
  | some .unsafePointer, some (.pointer u) => match x, tiOf C.P u with
    | .nptr i o, some ti => match H.o.get i with
      | some (.row c g gen sh _ _ e true _) => match H.live g gen sh && !Nat.beq ti.size 0 && liesAt C.P C.P.depth e (c.length / C.P.cellsOf e) o u 1 with
        | true => some (x, H)
        | false => none
      | _ => none
    | _, _ => none
  | some _, some (.int k) => match x with
    | .int _ n => some (.int k (wrapF k n), H)
    | _ => none
  | some sd, some .string => match x with
    | .str s => some (.str s, H)
    | x => match sd with
      | .slice e => match C.P.underlying e with
        | some (.int .u8) => match srcLen x with
          | none => none
          | some n => match elemsF C H 1 n x with
            | none => none
            | some l => match l.mapM byteOf' with
              | some s => some (.str s, H)
              | none => none
        | _ => none
      | _ => none
  | some .string, some (.slice e) => match x, C.P.underlying e, tiOf C.P e with
    | .str s, some (.int .u8), some ti => match Nat.beq ti.size 1 with
      | true => some (strRow H.n s, H.new (.row (s.map fun b => .int .u8 b.toNat) H.n 0 false false 0 e false true))
      | false => none
    | _, _, _ => none
  | _, _ => none

/-- Finding a key that is a number, a string or a bool. -/
def findA (k : AV) : List (AV × AV × Nat) → Nat → Option (Option (Nat × AV))
  | [], _ => some none
  | (k', v, _) :: es, i => match eqKey k k' with
    | some true => some (some (i, v))
    | some false => findA k es (i + 1)
    | none => none

def plainKey (C : Ctx) (t : TypeId) (k : AV) : Bool :=
  match C.P.underlying t, k with
  | some (.int j), .int k _ => j == k
  | some .string, .str _ => true
  | some .bool, .bool _ => true
  | _, _ => false

def lookupF (C : Ctx) (H : AH) (t : TypeId) (x k : AV) (ok : Bool) : Option AV :=
  match C.P.underlying t with
  | some (.map kt et) => match plainKey C kt k with
    | false => none
    | true => match (match x with
        | .raw (.map none) => some []
        | .nmap i => match H.o.get i with
          | some (.map es _) => some es
          | _ => none
        | _ => none : Option (List (AV × AV × Nat))) with
      | none => none
      | some es => match findA k es 0 with
        | none => none
        | some (some (_, v)) => some (match ok with | true => .tup [v, .bool true] | false => v)
        | some none => match tiOf C.P et with
          | none => none
          | some ti => some (match ok with | true => .tup [ti.zv, .bool false] | false => ti.zv)
  | _ => none

def setNth {α : Type} : List α → Nat → (α → α) → List α
  | [], _, _ => []
  | x :: l, 0, f => f x :: l
  | x :: l, n + 1, f => x :: setNth l n f

def mapUpdateF (C : Ctx) (H : AH) (t : TypeId) (x k v : AV) : Option AH :=
  match C.P.underlying t with
  | some (.map kt _) => match plainKey C kt k, x with
    | true, .nmap i => match H.o.get i with
      | some (.map es clock) => match findA k es 0 with
        | none => none
        | some (some (j, _)) => H.setO i (.map (setNth es j fun e => (k, v, e.2.2)) clock)
        | some none => H.setO i (.map (es ++ [(k, v, clock)]) (clock + 1))
      | _ => none
    | _, _ => none
  | _ => none

def assertF (C : Ctx) (x : AV) (want : TypeId) (ok : Bool) : Option AV :=
  match tiOf C.P want with
  | none => none
  | some ti => match ti.d with
    | .interface _ => none
    | _ => match x with
      | .raw .nilIface => match ok with
        | true => some (.tup [ti.zv, .bool false])
        | false => none
      | .ifc t v => match Nat.beq t want, ok with
        | true, true => some (.tup [v, .bool true])
        | true, false => some v
        | false, true => some (.tup [ti.zv, .bool false])
        | false, false => none
      | _ => none

def arrayAtF (C : Ctx) (arr : TypeId) (x : AV) : Option AV :=
  match C.P.underlying arr, x with
  | some (.array n _), .nslc i o l _ => match Nat.ble n l with
    | true => some (.nptr i o)
    | false => none
  | some (.array n _), .oslc b o l _ => match Nat.ble n l with
    | true => some (.optr b o)
    | false => none
  | _, _ => none

/-- The function behind a method of an interface value, where it is one with a pointer receiver and no path. -/
def methodF (C : Ctx) (t : TypeId) (name : String) : Option FuncId :=
  match C.P.info? t with
  | none => none
  | some i => match i.methods.find? (·.name == name) with
    | none => none
    | some m => match m.path.isEmpty, m.func, C.P.underlying t with
      | true, some (f, true), some (.pointer _) => some f
      | _, _, _ => none

def nilCheckF (C : Ctx) (x : AV) : Option AV :=
  match x with
  | .nptr _ _ => some x
  | .optr _ _ => some x
  | .yield _ => some x
  | .ifc _ _ => some x
  | .func (.func _) _ _ => some x
  | .func (.method name) (.ifc t _ :: _) _ => match methodF C t name with
    | some _ => some x
    | none => none
  | _ => none

end Go.Ev

namespace Go.Ev

inductive AC where
  | fn (f : FuncId)
  | yield (i : Nat)

inductive AD where
  | call (f : FuncId) (args : List AV)
  | coll (i : Nat)

inductive ARet where
  | ret (v : AV)
  | pan (v : AV)

inductive OR where
  | val (v : AV) (H : AH)
  | skip (H : AH)
  | call (c : AC) (args : List AV) (H : AH)
  | defer (d : AD) (H : AH)
  | pan (v : AV) (H : AH)

def ev (tm : Tr AV) : Operand → AV
  | .tmp t => match tm.get t with
    | some v => v
    | none => .undef
  | .const v => AV.ofValue v
  | .global g => .optr g 0
  | .func f => .func (.func f) [] []

abbrev OpF := Ctx → Tr AV → AH → Option OR

def val (H : AH) (v : Option AV) : Option OR :=
  match v with
  | some v => some (.val v H)
  | none => none

def valH (r : Option (AV × AH)) : Option OR :=
  match r with
  | some (v, H) => some (.val v H)
  | none => none

def opMove (x : Operand) : OpF := fun _ tm H => some (.val (ev tm x) H)
def opPick (c a b : Operand) : OpF := fun _ tm H => match ev tm c with
  | .bool true => some (.val (ev tm a) H)
  | .bool false => some (.val (ev tm b) H)
  | _ => none
def zeroOf (C : Ctx) (t : TypeId) : Option (List AV) :=
  match tiOf C.P t with
  | some ti => some ti.zero
  | none => none
def opAlloc (e : TypeId) : OpF := fun C _ H => match zeroOf C e with
  | some z => some (.val (.nptr H.n 0) (newRow H z e))
  | none => none
def opBox (e : TypeId) (v : Operand) : OpF := fun _ tm H => some (.val (.nptr H.n 0) (newRow H (ev tm v).cells e))
def partsF (tm : Tr AV) (ps : Array (Nat × Operand)) : List (Nat × AV) := ps.toList.map fun p => (p.1, ev tm p.2)
def opBuild (t : TypeId) (ps : Array (Nat × Operand)) : OpF := fun C tm H => val H (buildF C t (partsF tm ps))
def opBuildSlice (t : TypeId) (n : Nat) (ps : Array (Nat × Operand)) : OpF := fun C tm H => valH (buildSliceF C H t n (partsF tm ps))
def opLoad (t : TypeId) (a : Operand) : OpF := fun C tm H => val H (loadF C H t (ev tm a))
def opStore (t : TypeId) (a v : Operand) : OpF := fun C tm H => match storeF C H t (ev tm a) (ev tm v) with
  | some H' => some (.skip H')
  | none => none
def opNilCheck (x : Operand) : OpF := fun C tm H => val H (nilCheckF C (ev tm x))
def opBin (op : BinOp) (t : TypeId) (x y : Operand) : OpF := fun C tm H => val H (binF C op t (Operand.isConst x) (Operand.isConst y) (ev tm x) (ev tm y))
def opUn (op : UnOp) (x : Operand) : OpF := fun _ tm H => val H (unF op (ev tm x))
def opConvert (s d : TypeId) (x : Operand) : OpF := fun C tm H => valH (convertF C H s d (ev tm x))
def opMakeInterface (t : TypeId) (x : Operand) : OpF := fun C tm H => match C.P.underlying t with
  | some (.interface _) => none
  | some _ => some (.val (.ifc t (ev tm x)) H)
  | none => none
def opMakeFunc (f : Fn) (first cap : Array Operand) : OpF := fun _ tm H => match f with
  | .yield _ => none
  | f => some (.val (.func f (first.toList.map (ev tm)) (cap.toList.map (ev tm))) H)
def opMakeMap (_ : TypeId) (r : Option Operand) : OpF := fun _ _ H => match r with
  | none => some (.val (.nmap H.n) (H.new (.map [] 0)))
  | some _ => none
def opMakeSlice (t : TypeId) (l c : Operand) : OpF := fun C tm H => valH (makeSliceF C H t (ev tm l) (ev tm c))
def opSlice (t : TypeId) (x : Operand) (l h m : Option Operand) : OpF := fun C tm H => val H (sliceF C H t (ev tm x) (l.map (ev tm)) (h.map (ev tm)) (m.map (ev tm)))
def opFieldAddr (t : TypeId) (x : Operand) (f : Nat) : OpF := fun C tm H => val H (fieldAddrF C t (ev tm x) f)
def opField (t : TypeId) (x : Operand) (f : Nat) : OpF := fun C tm H => val H (fieldF C t (ev tm x) f)
def opIndexAddr (t : TypeId) (x i : Operand) : OpF := fun C tm H => val H (indexAddrF C t (ev tm x) (ev tm i))
def opIndex (t : TypeId) (x i : Operand) : OpF := fun C tm H => val H (indexF C t (ev tm x) (ev tm i))
def opLookup (t : TypeId) (x i : Operand) (ok : Bool) : OpF := fun C tm H => val H (lookupF C H t (ev tm x) (ev tm i) ok)
def opMapUpdate (t : TypeId) (m k v : Operand) : OpF := fun C tm H => match mapUpdateF C H t (ev tm m) (ev tm k) (ev tm v) with
  | some H' => some (.skip H')
  | none => none
def opTypeAssert (x : Operand) (a : TypeId) (ok : Bool) : OpF := fun C tm H => val H (assertF C (ev tm x) a ok)
def opExtract (t : Operand) (i : Nat) : OpF := fun _ tm H => match ev tm t with
  | .tup l => val H l[i]?
  | _ => none
def opPanic (x : Operand) : OpF := fun _ tm H => match ev tm x with
  | .ifc t v => some (.pan (.ifc t v) H)
  | _ => none

/-- A call of a function by its number: with a body, or one that only computes. -/
def callFn (C : Ctx) (f : FuncId) (args : List AV) (H : AH) : Option OR :=
  match C.P.funcs[f]? with
  | none => none
  | some fn => match fn.body with
    | some _ => some (.call (.fn f) args H)
    | none => val H (C.ext f args)

def callVal (C : Ctx) (f : AV) (args : List AV) (H : AH) : Option OR :=
  match f with
  | .func (.func g) first cap => callFn C g (first ++ args ++ cap) H
  | .func (.method name) (.ifc t v :: first) _ => match methodF C t name with
    | some g => callFn C g (v :: first ++ args) H
    | none => none
  | .yield i => some (.call (.yield i) args H)
  | _ => none

def opInvoke (r : Operand) (name : String) (args : Array Operand) : OpF := fun C tm H => match ev tm r with
  | .ifc t v => match methodF C t name with
    | some g => callFn C g (v :: args.toList.map (ev tm)) H
    | none => none
  | _ => none

def min2 : AV → AV → Option AV
  | .int k a, .int _ b => some (.int k (if b < a then b else a))
  | _, _ => none
def max2 : AV → AV → Option AV
  | .int k a, .int _ b => some (.int k (if a < b then b else a))
  | _, _ => none

/-- What is appended is no number. -/
def noNum (C : Ctx) : List TypeId → Bool
  | [] => true
  | u :: _ => match C.P.underlying u with
    | some (.int _) => false
    | some _ => true
    | none => false

def opBuiltin (b : Builtin) (ts : Array TypeId) (xs : Array Operand) : OpF := fun C tm H =>
  match b, ts.toList, xs.toList with
  | .len, [t], [x] => match lenF C H t (ev tm x) with
    | some n => some (.val (.int .i64 n) H)
    | none => none
  | .append, t :: us, [s, x] => match noNum C us with
    | true => valH (appendF C H t (ev tm s) (ev tm x))
    | false => none
  | .copy, t :: _, [d, x] => match copyF C H t (ev tm d) (ev tm x) with
    | some (n, H') => some (.val (.int .i64 n) H')
    | none => none
  | .min, _, [x, y] => val H (min2 (ev tm x) (ev tm y))
  | .max, _, [x, y] => val H (max2 (ev tm x) (ev tm y))
  | .cap, [t], [x] => match C.P.underlying t, ev tm x with
    | some (.slice _), .oslc _ _ _ c => some (.val (.int .i64 c) H)
    | some (.slice _), .nslc _ _ _ (some c) => some (.val (.int .i64 c) H)
    | _, _ => none
  | .clear, [t], [x] => match C.P.underlying t with
    | some (.slice e) => match tiOf C.P e, ev tm x with
      | some ti, .nslc i o l _ => match ti.zero.all AV.isCell with
        | true => match H.put i o (zerosF ti l) with
          | some H' => some (.val (.tup []) H')
          | none => none
        | false => none
      | _, _ => none
    | _ => none
  | .unsafeSliceData, _, [x] => match ev tm x with
    | .raw (.slice none 0 0) => some (.val (.raw (.pointer none)) H)
    | .nslc i o _ (some c) => match Nat.beq c 0 with
      | false => some (.val (.nptr i o) H)
      | true => none
    | .nslc i o _ none => match H.rowG i with
      | some (c, _) => match Nat.blt o c.length with
        | true => some (.val (.nptr i o) H)
        | false => none
      | none => none
    | _ => none
  | .unsafeString, t :: _, [p, n] => match ev tm p, natOf (ev tm n) with
    | .raw (.pointer none), some 0 => some (.val (.str []) H)
    | .nptr i o, some (n + 1) => match H.o.get i, C.P.underlying t with
      | some (.row c g gen sh ext frz e wh false), some (.pointer u) => match H.live g gen sh && Nat.beq u e && Nat.beq (C.P.cellsOf e) 1 && Nat.ble H.ro i && Nat.ble (n + 1) 1000000000, slice c o (n + 1) with
        | true, some l => match l.mapM byteOf' with
          | some s => match sh with
            | false => some (.val (.str s) (H.setObj i (.row c g gen sh ext (max frz (o + (n + 1))) e wh false)))
            | true => some (.val (.str s) { n := H.n, ro := H.ro, o := H.o.set i (.row c g (gen + 1) true false (max frz (o + (n + 1))) e wh false), g := H.g.set g (gen + 1) })
          | none => none
        | _, _ => none
      | _, _ => none
    | _, _ => none
  | _, _, _ => none

def opCall (c : Call) : OpF := fun C tm H => match c.callee with
  | .value f => callVal C (ev tm f) (c.args.toList.map (ev tm)) H
  | .invoke r name => opInvoke r name c.args C tm H
  | .builtin b => opBuiltin b c.argTypes c.args C tm H

def opDefer (c : Call) : OpF := fun C tm H => match c.callee with
  | .value f => match ev tm f with
    | .func (.func g) first cap => match C.P.funcs[g]? with
      | some fn => match fn.body with
        | some _ => some (.defer (.call g (first ++ c.args.toList.map (ev tm) ++ cap)) H)
        | none => none
      | none => none
    | _ => none
  | _ => none

def opRange (t : TypeId) (x : Operand) : OpF := fun C tm H => match C.P.underlying t, ev tm x with
  | some .string, .str s => some (.val (.nptr H.n 0) (H.new (.siter s 0)))
  | some (.map _ _), .raw (.map none) => some (.val (.nptr H.n 0) (H.new (.miter none 0 [] 0)))
  | some (.map _ _), .nmap i => match H.o.get i with
    | some (.map _ clock) => some (.val (.nptr H.n 0) (H.new (.miter (some i) clock [] clock)))
    | _ => none
  | _, _ => none
/-- The next entry of a map, where there is but one way to go on. -/
def opNext (x : Operand) (str : Bool) : OpF := fun _ tm H => match ev tm x, str with
  | .nptr r 0, false => match H.o.get r with
    | some (.miter none _ _ _) => some (.val (.tup [.bool false]) H)
    | some (.miter (some m) since seen last) => match H.o.get m with
      | some (.map es clock) => match es.filter (fun e => !seen.contains e.2.2) with
        | [] => match seen.isEmpty || es.isEmpty || es.any (fun e => Nat.blt e.2.2 last) with
          | true => some (.val (.tup [.bool false]) H)
          | false => none
        | [e] => match Nat.blt e.2.2 since && (seen.isEmpty || es.any (fun e => Nat.blt e.2.2 last)) with
          | true => match H.setO r (.miter (some m) since (seen ++ [e.2.2]) clock) with
            | some H' => some (.val (.tup [.bool true, e.1, e.2.1]) H')
            | none => none
          | false => none
        | _ => none
      | _ => none
    | _ => none
  | _, _ => none
def opArrayAt (a : TypeId) (x : Operand) : OpF := fun C tm H => val H (arrayAtF C a (ev tm x))
def opNone : OpF := fun _ _ _ => none

/-- One operation. -/
def evOp : Op → OpF
  | .move x => opMove x
  | .assign x => opMove x
  | .pick c a b => opPick c a b
  | .alloc e => opAlloc e
  | .box e v => opBox e v
  | .build t ps => opBuild t ps
  | .buildSlice t n ps => opBuildSlice t n ps
  | .insert t m k v => opMapUpdate t m k v
  | .load t a => opLoad t a
  | .store t a v => opStore t a v
  | .ready _ => opNone
  | .waits _ => opNone
  | .nilCheck x => opNilCheck x
  | .binOp op t x y _ => opBin op t x y
  | .unOp op _ x => opUn op x
  | .convert s d x => opConvert s d x
  | .sliceToArrayPointer a x => opArrayAt a x
  | .makeInterface t x => opMakeInterface t x
  | .makeFunc f a b => opMakeFunc f a b
  | .makeMap t r => opMakeMap t r
  | .makeChan _ _ => opNone
  | .makeSlice t l c => opMakeSlice t l c
  | .slice t x l h m => opSlice t x l h m
  | .fieldAddr t x f => opFieldAddr t x f
  | .field t x f => opField t x f
  | .indexAddr t x i => opIndexAddr t x i
  | .index t x i => opIndex t x i
  | .lookup t x i ok => opLookup t x i ok
  | .mapUpdate t m k v => opMapUpdate t m k v
  | .mapEntry _ _ _ => opNone
  | .entryStore _ _ _ _ => opNone
  | .range t x => opRange t x
  | .next x str => opNext x str
  | .entry _ => opNone
  | .typeAssert x _ a ok => opTypeAssert x a ok
  | .extract t i => opExtract t i
  | .call c => opCall c
  | .go _ => opNone
  | .defer c => opDefer c
  | .panic x => opPanic x
  | .send _ _ => opNone
  | .recv _ _ _ => opNone
  | .select _ _ => opNone

/-- What an operation is in a region that draws its order: it computes (0) · makes memory (1) · reads (2) · acts (3). -/
def convClass (P : Program) (s d : TypeId) : Nat :=
  match P.underlying s, P.underlying d with
  | some .string, some (.slice _) => 1
  | some (.slice _), some .string => 2
  | some (.int _), some (.int _) => 0
  | some .string, some .string => 0
  | _, _ => 3

def opClass (P : Program) : Op → Nat
  | .move _ => 0
  | .assign _ => 0
  | .pick _ _ _ => 0
  | .alloc _ => 1
  | .box _ _ => 1
  | .build _ _ => 0
  | .buildSlice _ _ _ => 1
  | .insert _ _ _ _ => 3
  | .load _ _ => 2
  | .store _ _ _ => 3
  | .nilCheck _ => 0
  | .binOp _ _ _ _ _ => 0
  | .unOp _ _ _ => 0
  | .convert s d _ => convClass P s d
  | .sliceToArrayPointer _ _ => 0
  | .makeInterface _ _ => 0
  | .makeFunc _ _ _ => 0
  | .makeMap _ _ => 1
  | .makeSlice _ _ _ => 1
  | .slice _ _ _ _ _ => 2
  | .fieldAddr _ _ _ => 0
  | .field _ _ _ => 0
  | .indexAddr _ _ _ => 0
  | .index _ _ _ => 0
  | .lookup _ _ _ _ => 2
  | .typeAssert _ _ _ _ => 0
  | .extract _ _ => 0
  | .call c => match c.callee with
    | .builtin .len => 2
    | .builtin .min => 0
    | .builtin .max => 0
    | .builtin .cap => 0
    | .builtin .unsafeSliceData => 2
    | _ => 3
  | _ => 3

structure St where
  tm : Tr AV
  H : AH
  df : List AD

inductive AE where
  | norm
  | exit (id : Nat)
  | goto (l : Nat)
  | ret
  | pan (v : AV)

def wantedF (ops : Array Oper) (tm : Tr AV) (o : Oper) : Bool :=
  match o.guard with
  | none => true
  | some (j, want) => match ops[j]? with
    | none => false
    | some p => match p.dst with
      | none => false
      | some d => match tm.get d with
        | some (.bool b) => b == want
        | some (.raw (.bool b)) => b == want
        | _ => false

def putF (nt : Nat) (tm : Tr AV) (d : Option Tmp) (v : AV) : Option (Tr AV) :=
  match d with
  | none => some tm
  | some d => match Nat.blt d nt with
    | true => some (tm.set d v)
    | false => none

abbrev CallF := AC → List AV → AH → Option (ARet × AH)

/-- Operations one after the other. -/
def evOps (call : CallF) (C : Ctx) (rd : Bool) (nt : Nat) (ops : Array Oper) : List Oper → St → Option (AE × St)
  | [], s => some (.norm, s)
  | o :: rest, s => match wantedF ops s.tm o with
    | false => match putF nt s.tm o.dst .undef with
      | none => none
      | some tm => evOps call C rd nt ops rest { s with tm }
    | true => match evOp o.op C s.tm s.H with
      | none => none
      | some (.val v H) => match putF nt s.tm o.dst v with
        | none => none
        | some tm => evOps call C rd nt ops rest { tm, H, df := s.df }
      | some (.skip H) => match putF nt s.tm o.dst .undef with
        | none => none
        | some tm => evOps call C rd nt ops rest { tm, H, df := s.df }
      | some (.defer d H) => match rd with
        | true => none
        | false => match putF nt s.tm o.dst .undef with
          | none => none
          | some tm => evOps call C rd nt ops rest { tm, H, df := d :: s.df }
      | some (.pan v H) => some (.pan v, { tm := s.tm, H, df := s.df })
      | some (.call c args H) => match call c args H with
        | none => none
        | some (.pan v, H) => some (.pan v, { tm := s.tm, H, df := s.df })
        | some (.ret v, H) => match putF nt s.tm o.dst v with
          | none => none
          | some tm => evOps call C rd nt ops rest { tm, H, df := s.df }

/-! ### A region that draws its order -/

/-- The order in which the run takes the operations: all that can go ahead of the next one that acts. Each acting operation comes with those that read and that may come behind it as well. -/
structure PStep where
  i : Nat
  again : List Nat

/-- For each operation (a set as a number): those that come before it, whatever the order. -/
def befs : List Oper → List Nat → List Nat
  | [], acc => acc
  | o :: os, acc => befs os (acc ++ [o.after.toList.foldl (fun s e => match Region.binds .any e with
    | true => s ||| 2 ^ e.on ||| acc.getD e.on 0
    | false => s) 0])

def subset (a b : Nat) : Bool := Nat.beq (a &&& b) a

/-- Each edge that binds leads to an earlier operation. -/
def edgesDown : List Oper → Nat → Bool
  | [], _ => true
  | o :: os, n => (o.after.toList.all fun e => !Region.binds .any e || Nat.blt e.on n) && edgesDown os (n + 1)

def slotOf : Operand → List Tmp
  | .tmp t => [t]
  | _ => []

/-- The slots that an operation reads: its operands, and its condition. -/
def readsOf (ops : Array Oper) (o : Oper) : List Tmp :=
  (match o.guard with
    | none => []
    | some (j, _) => match ops[j]? with
      | some p => p.dst.toList
      | none => []) ++ o.op.operands.toList.flatMap slotOf

/-- Whoever names a slot that another one writes comes before or behind it, whatever the order. 'W': who has written a slot; 'U': who has named it. -/
def slotsOk (ops : Array Oper) : List Oper → Nat → List Nat → Tr Nat → Tr Nat → Bool
  | [], _, _, _, _ => true
  | o :: os, j, bs, W, U => match bs with
    | [] => false
    | b :: bs =>
      ((readsOf ops o).all fun t => match W.get t with | some m => subset m b | none => true) &&
      (match o.dst with
        | none => true
        | some t => match U.get t with | some m => subset m b | none => true) &&
      slotsOk ops os (j + 1) bs
        (match o.dst with
          | none => W
          | some t => W.set t (2 ^ j ||| match W.get t with | some m => m | none => 0))
        (((readsOf ops o) ++ o.dst.toList).foldl (fun U t => U.set t (2 ^ j ||| match U.get t with | some m => m | none => 0)) U)

def classAt (P : Program) (ops : Array Oper) (i : Nat) : Nat := match ops[i]? with
  | some o => opClass P o.op
  | none => 3

/-- 'd': what is done; 'reads': what has been read. -/
def planF (P : Program) (ops : Array Oper) (b : List Nat) : Nat → Nat → List Nat → Option (List PStep)
  | 0, d, _ => match Nat.beq d (2 ^ ops.size - 1) with
    | true => some []
    | false => none
  | f + 1, d, reads => match Nat.beq d (2 ^ ops.size - 1) with
    | true => some []
    | false =>
      let rs := (List.range ops.size).filter fun i => !Nat.testBit d i && subset (b.getD i 0) d
      match rs.find? fun i => Nat.blt (classAt P ops i) 3 with
      | some i => match planF P ops b f (d ||| 2 ^ i) (match Nat.beq (classAt P ops i) 2 with | true => i :: reads | false => reads) with
        | some l => some ({ i, again := [] } :: l)
        | none => none
      | none => match rs with
        | [i] => match planF P ops b f (d ||| 2 ^ i) reads with
          | some l => some ({ i, again := reads.filter fun p => !Nat.testBit (b.getD i 0) p } :: l)
          | none => none
        | _ => none

/-- The plan holds what is asked of it: 'd': what is done; 'reads': what has been read. -/
def planOk (P : Program) (ops : Array Oper) (b : List Nat) : List PStep → Nat → List Nat → Bool
  | [], d, _ => Nat.beq d (2 ^ ops.size - 1)
  | p :: l, d, reads => !Nat.testBit d p.i && Nat.blt p.i ops.size && subset (b.getD p.i 0) d &&
    (match Nat.blt (classAt P ops p.i) 3 with
      | true => true
      | false => ((List.range ops.size).all fun j => Nat.testBit d j || Nat.beq j p.i || Nat.testBit (b.getD j 0) p.i) &&
          (reads.all fun r => Nat.testBit (b.getD p.i 0) r || p.again.contains r)) &&
    planOk P ops b l (d ||| 2 ^ p.i) (match Nat.beq (classAt P ops p.i) 2 with | true => p.i :: reads | false => reads)

def plan (P : Program) (ops : Array Oper) : Option (List PStep) :=
  let b := befs ops.toList []
  match edgesDown ops.toList 0 && slotsOk ops ops.toList 0 b .leaf .leaf with
  | true => match planF P ops b ops.size 0 [] with
    | some l => match planOk P ops b l 0 [] with
      | true => some l
      | false => none
    | none => none
  | false => none

/-- Surely the same (a test for what operations read). -/
def AV.same : AV → AV → Bool
  | .bool a, .bool b => a == b
  | .int k a, .int k' b => k == k' && a == b
  | .str a, .str b => a == b
  | .optr a b, .optr a' b' => Nat.beq a a' && Nat.beq b b'
  | .nptr a b, .nptr a' b' => Nat.beq a a' && Nat.beq b b'
  | .oslc a b c d, .oslc a' b' c' d' => Nat.beq a a' && Nat.beq b b' && Nat.beq c c' && Nat.beq d d'
  | .nslc a b c d, .nslc a' b' c' d' => Nat.beq a a' && Nat.beq b b' && Nat.beq c c' && d == d'
  | .nemp a b c, .nemp a' b' c' => Nat.beq a a' && Nat.beq b b' && Nat.beq c c'
  | .nmap a, .nmap b => Nat.beq a b
  | .yield a, .yield b => Nat.beq a b
  | .func f [] [], .func g [] [] => f == g
  | .raw .nilFunc, .raw .nilFunc => true
  | .raw .nilIface, .raw .nilIface => true
  | .raw (.pointer none), .raw (.pointer none) => true
  | .raw (.slice none 0 0), .raw (.slice none 0 0) => true
  | .raw (.map none), .raw (.map none) => true
  | _, _ => false
def AV.sames : List AV → List AV → Bool
  | [], [] => true
  | a :: l, b :: m => a.same b && AV.sames l m
  | _, _ => false
def AV.sameA : AV → AV → Bool
  | .agg a, .agg b => AV.sames a b
  | .tup a, .tup b => AV.sames a b
  | .func f a b, .func g c d => f == g && AV.sames a c && AV.sames b d
  | a, b => a.same b

/-- Does what was read still read so? -/
def stillF (C : Ctx) (ops : Array Oper) (H : AH) : List Nat → List (Nat × Tr AV × AV) → Bool
  | _, [] => true
  | again, (p, tm, v) :: l => (!again.contains p || (match ops[p]? with
    | some o => match evOp o.op C tm H with
      | some (.val v' _) => AV.sameA v v'
      | _ => false
    | none => false)) && stillF C ops H again l

/-- What makes memory finds its number free. -/
def freshF (P : Program) (o : Op) (H : AH) : Bool :=
  match Nat.beq (opClass P o) 1 with
  | true => (H.o.get H.n).isNone
  | false => true

def evPlan (call : CallF) (C : Ctx) (nt : Nat) (ops : Array Oper) : List PStep → List (Nat × Tr AV × AV) → St → Option (AE × St)
  | [], _, s => some (.norm, s)
  | p :: rest, rd, s => match ops[p.i]? with
    | none => none
    | some o => match wantedF ops s.tm o with
      | false => match putF nt s.tm o.dst .undef with
        | none => none
        | some tm => evPlan call C nt ops rest rd { s with tm }
      | true => match evOp o.op C s.tm s.H with
        | none => none
        | some (.val v H) => match stillF C ops H p.again rd && freshF C.P o.op s.H with
          | false => none
          | true => match putF nt s.tm o.dst v with
            | none => none
            | some tm => evPlan call C nt ops rest (match Nat.beq (opClass C.P o.op) 2 with | true => (p.i, s.tm, v) :: rd | false => rd) { tm, H, df := s.df }
        | some (.skip H) => match stillF C ops H p.again rd with
          | false => none
          | true => match putF nt s.tm o.dst .undef with
            | none => none
            | some tm => evPlan call C nt ops rest rd { tm, H, df := s.df }
        | some (.defer _ _) => none
        | some (.pan _ _) => none
        | some (.call c args H) => match call c args H with
          | none => none
          | some (.pan _, _) => none
          | some (.ret v, H) => match stillF C ops H p.again rd with
            | false => none
            | true => match putF nt s.tm o.dst v with
              | none => none
              | some tm => evPlan call C nt ops rest rd { tm, H, df := s.df }

def evDraw (call : CallF) (C : Ctx) (nt : Nat) (ops : Array Oper) (s : St) : Option (AE × St) :=
  match plan C.P ops with
  | none => none
  | some l => evPlan call C nt ops l [] s

def loopF (step : St → Option (AE × St)) : Nat → St → Option (AE × St)
  | 0, _ => none
  | m + 1, s => match step s with
    | some (.norm, s') => loopF step m s'
    | r => r

def jumpF (s : St) : Option Code → Option (AE × St)
  | none => some (.norm, s)
  | some .ret => some (.ret, s)
  | some (.exit id) => some (.exit id, s)
  | some (.goto l) => some (.goto l, s)
  | _ => none

def enterF (ro : Option Nat) (H : AH) (df : List AD) : Option (Nat × List AD × AH) :=
  match ro with
  | none => some (H.n, .coll H.n :: df, H.new (.dfr true))
  | some l => match H.o.get l with
    | some (.loop _ _ _ _ _ _ _ _ d) => some (d, df, H)
    | _ => none

def rangeF (call : CallF) (C : Ctx) (ro : Option Nat) (fn : FuncId) (nt : Nat) (f : Operand) (ps : Array Tmp) (assign body : Code) (s : St) : Option (AE × St) :=
  match enterF ro s.H s.df with
  | none => none
  | some (d, df, H) =>
    let l := H.n
    match callVal C (ev s.tm f) [.yield l] (H.new (.loop .ready none fn s.tm nt ps assign body d)) with
    | some (.call (.fn g) args H) => match call (.fn g) args H with
      | some (.ret _, H) => match H.o.get l with
        | some (.loop st pend fn' tm' nt' ps' a' b' d') => match st with
          | .busy => none
          | _ => match H.setO l (.loop .exhausted pend fn' tm' nt' ps' a' b' d') with
            | some H => jumpF { tm := s.tm, H, df } pend
            | none => none
        | _ => none
      | _ => none
    | _ => none

def evCode (call : CallF) (C : Ctx) (m : Nat) (ro : Option Nat) (fn : FuncId) (nt : Nat) : Code → St → Option (AE × St)
  | .skip, s => some (.norm, s)
  | .region _ ops draw, s => match draw with
    | false => evOps call C ro.isSome nt ops ops.toList s
    | true => evDraw call C nt ops s
  | .seq a b, s => match evCode call C m ro fn nt a s with
    | some (.norm, s') => evCode call C m ro fn nt b s'
    | r => r
  | .cond c a b, s => match ev s.tm c with
    | .bool true => evCode call C m ro fn nt a s
    | .bool false => evCode call C m ro fn nt b s
    | _ => none
  | .block id b, s => match evCode call C m ro fn nt b s with
    | some (.exit j, s') => match Nat.beq j id with
      | true => some (.norm, s')
      | false => some (.exit j, s')
    | r => r
  | .loop b, s => loopF (evCode call C m ro fn nt b) m s
  | .rangeFunc f ps a b, s => rangeF call C ro fn nt f ps a b s
  | .exit id, s => some (.exit id, s)
  | .scope b, s => match evCode call C m ro fn nt b s with
    | some (.goto _, _) => none
    | r => r
  | .label _, s => some (.norm, s)
  | .goto l, s => some (.goto l, s)
  | .ret, s => some (.ret, s)
  | .refuse _, _ => none

def argTm : List AV → Nat → Tr AV → Tr AV
  | [], _, tm => tm
  | a :: l, i, tm => argTm l (i + 1) (tm.set i a)

def resultF (C : Ctx) (tm : Tr AV) (H : AH) : ResultVar → Option AV
  | .tmp t => some (ev tm (.tmp t))
  | .cell a t => loadF C H t (ev tm (.tmp a))

def resultsF (C : Ctx) (fn : Func) (tm : Tr AV) (H : AH) : Option AV :=
  match fn.results.toList.mapM (resultF C tm H) with
  | none => none
  | some [v] => some v
  | some l => some (.tup l)

/-- A deferred function that calls nothing, and may recover: operations, and what it finds. -/
def evOpsS (C : Ctx) (nt : Nat) (ops : Array Oper) : List Oper → Tr AV → AH → Option AV → Option (Tr AV × AH × Option AV)
  | [], tm, H, p => some (tm, H, p)
  | o :: rest, tm, H, p => match wantedF ops tm o with
    | false => match putF nt tm o.dst .undef with
      | none => none
      | some tm => evOpsS C nt ops rest tm H p
    | true =>
      match (match o.op with | .call { callee := .builtin .recover, .. } => true | _ => false : Bool) with
      | true => match putF nt tm o.dst (match p with | some v => v | none => .raw .nilIface) with
        | none => none
        | some tm => evOpsS C nt ops rest tm H none
      | false => match evOp o.op C tm H with
        | some (.val v H) => match putF nt tm o.dst v with
          | none => none
          | some tm => evOpsS C nt ops rest tm H p
        | some (.skip H) => match putF nt tm o.dst .undef with
          | none => none
          | some tm => evOpsS C nt ops rest tm H p
        | _ => none

/-- 'true': its end was left by return. -/
def evCodeS (C : Ctx) (nt : Nat) : Code → Tr AV → AH → Option AV → Option (AE × Tr AV × AH × Option AV)
  | .skip, tm, H, p => some (.norm, tm, H, p)
  | .region _ ops draw, tm, H, p => match draw with
    | true => none
    | false => match evOpsS C nt ops ops.toList tm H p with
      | some (tm, H, p) => some (.norm, tm, H, p)
      | none => none
  | .seq a b, tm, H, p => match evCodeS C nt a tm H p with
    | some (.norm, tm, H, p) => evCodeS C nt b tm H p
    | r => r
  | .cond c a b, tm, H, p => match ev tm c with
    | .bool true => evCodeS C nt a tm H p
    | .bool false => evCodeS C nt b tm H p
    | _ => none
  | .block id b, tm, H, p => match evCodeS C nt b tm H p with
    | some (.exit j, r) => match Nat.beq j id with
      | true => some (.norm, r)
      | false => some (.exit j, r)
    | r => r
  | .exit id, tm, H, p => some (.exit id, tm, H, p)
  | .ret, tm, H, p => some (.ret, tm, H, p)
  | _, _, _, _ => none

/-- The deferred calls of a frame on its way out; 'p': what it panics with. -/
def leaveF (C : Ctx) (fn : Func) (tm : Tr AV) : List AD → Option AV → AH → Option (ARet × AH)
  | [], none, H => match resultsF C fn tm H with
    | some v => some (.ret v, H)
    | none => none
  | [], some p, H => some (.pan p, H)
  | .coll i :: df, p, H => match H.o.get i with
    | some (.dfr true) => match H.setO i (.dfr false) with
      | some H => leaveF C fn tm df p H
      | none => none
    | _ => none
  | .call g args :: df, p, H => match C.P.funcs[g]? with
    | none => none
    | some gn => match gn.body with
      | none => none
      | some c => match evCodeS C (args.length + (gn.ntmps - args.length)) c (argTm args 0 .leaf) H p with
        | some (.norm, tm', H, p) => match resultsF C gn tm' H with
          | some _ => leaveF C fn tm df p H
          | none => none
        | some (.ret, tm', H, p) => match resultsF C gn tm' H with
          | some _ => leaveF C fn tm df p H
          | none => none
        | _ => none

def evFn (call : CallF) (C : Ctx) (m : Nat) (f : FuncId) (args : List AV) (H : AH) : Option (ARet × AH) :=
  match C.P.funcs[f]? with
  | none => none
  | some fn => match fn.body with
    | none => none
    | some c => match evCode call C m none f (args.length + (fn.ntmps - args.length)) c { tm := argTm args 0 .leaf, H, df := [] } with
      | some (.norm, s) => leaveF C fn s.tm s.df none s.H
      | some (.ret, s) => leaveF C fn s.tm s.df none s.H
      | some (.pan v, s) => leaveF C fn s.tm s.df (some v) s.H
      | _ => none

def zipTm : List Tmp → List AV → Tr AV → Tr AV
  | t :: ts, v :: vs, tm => zipTm ts vs (tm.set t v)
  | _, _, tm => tm

def endF (i : Nat) (st : LoopState) (jump : Option Code) (H : AH) : Option (ARet × AH) :=
  match H.o.get i with
  | some (.loop _ _ fn tm nt ps a b d) => match H.setO i (.loop st jump fn tm nt ps a b d) with
    | some H => some (.ret (.bool jump.isNone), H)
    | none => none
  | _ => none

def evYield (call : CallF) (C : Ctx) (m : Nat) (i : Nat) (args : List AV) (H : AH) : Option (ARet × AH) :=
  match H.o.get i with
  | some (.loop _ _ fn tm nt ps assign body _) => match Nat.beq args.length ps.size && ps.toList.all (Nat.blt · nt) with
    | false => none
    | true => match evCode call C m (some i) fn nt assign { tm := zipTm ps.toList args tm, H, df := [] } with
      | some (.norm, s) => match s.df, s.H.o.get i with
        | [], some (.loop .ready pend fn' tm' nt' ps' a' b' d') => match s.H.setO i (.loop .busy pend fn' tm' nt' ps' a' b' d') with
          | none => none
          | some H => match evCode call C m (some i) fn nt body { tm := s.tm, H, df := [] } with
            | some (e, s) => match s.df with
              | [] => match e with
                | .norm => endF i .ready none s.H
                | .ret => endF i .done (some .ret) s.H
                | .exit id => endF i .done (some (.exit id)) s.H
                | _ => none
              | _ => none
            | none => none
        | _, _ => none
      | _ => none
  | _ => none

/-- Calls within calls, to a depth; 'm': the rounds of a loop. -/
def evCall (C : Ctx) (m : Nat) : Nat → CallF
  | 0, _, _, _ => none
  | n + 1, .fn f, args, H => evFn (evCall C m n) C m f args H
  | n + 1, .yield i, args, H => evYield (evCall C m n) C m i args H

end Go.Ev

/-! What an abstract value, an abstract heap stand for. -/
namespace Go.Ev

structure Base where
  blk : Nat
  off : Nat
  ecap : Nat
  esz : Nat
  deriving Inhabited

/-- Where the run's objects lie in the world (none: nowhere yet). -/
abbrev Rho := Nat → Option Base

def Rho.b (ρ : Rho) (i : Nat) : Base := (ρ i).getD default

mutual
def AV.conc (ρ : Rho) : AV → Value
  | .bool b => .bool b
  | .int k n => .int k n
  | .str s => .string ⟨s.toArray⟩
  | .optr b o => .pointer (some ⟨b, o, none⟩)
  | .nptr i o => .pointer (some ⟨(ρ.b i).blk, (ρ.b i).off + o, none⟩)
  | .oslc b o l c => .slice (some ⟨b, o, none⟩) l c
  | .nslc i o l c => .slice (some ⟨(ρ.b i).blk, (ρ.b i).off + o, none⟩) l (c.getD ((ρ.b i).ecap - o / (ρ.b i).esz))
  | .nemp i b o => .slice (some ⟨(ρ.b i).blk, (ρ.b i).off + (if (ρ.b i).ecap - o / (ρ.b i).esz = 0 then b else o), none⟩) 0 ((ρ.b i).ecap - o / (ρ.b i).esz)
  | .nmap i => .map (some (ρ.b i).blk)
  | .func f a b => .func f (AV.concs ρ a).toArray (AV.concs ρ b).toArray
  | .yield i => .func (.yield (ρ.b i).blk) #[] #[]
  | .ifc t v => .iface t (v.conc ρ)
  | .agg l => .agg (AV.concs ρ l).toArray
  | .tup l => .tuple (AV.concs ρ l).toArray
  | .raw v => v
def AV.concs (ρ : Rho) : List AV → List Value
  | [] => []
  | v :: l => v.conc ρ :: AV.concs ρ l
end

mutual
/-- All that the value leads to lies somewhere. -/
def AV.Ok (ρ : Rho) : AV → Prop
  | .nptr i _ => ρ i ≠ none
  | .nslc i _ _ _ => ρ i ≠ none
  | .nemp i _ _ => ρ i ≠ none
  | .nmap i => ρ i ≠ none
  | .yield i => ρ i ≠ none
  | .func _ a b => AV.Oks ρ a ∧ AV.Oks ρ b
  | .ifc _ v => v.Ok ρ
  | .agg l => AV.Oks ρ l
  | .tup l => AV.Oks ρ l
  | _ => True
def AV.Oks (ρ : Rho) : List AV → Prop
  | [] => True
  | v :: l => v.Ok ρ ∧ AV.Oks ρ l
end

theorem concs_eq (ρ : Rho) (l : List AV) : AV.concs ρ l = l.map (AV.conc ρ) := by
  induction l with
  | nil => simp [AV.concs]
  | cons v l ih => simp [AV.concs, ih]

theorem oks_iff (ρ : Rho) (l : List AV) : AV.Oks ρ l ↔ ∀ v ∈ l, v.Ok ρ := by
  induction l with
  | nil => simp [AV.Oks]
  | cons v l ih => simp [AV.Oks, ih]

/-- More lies somewhere; what lay lies where it lay. -/
def Rho.le (ρ ρ' : Rho) : Prop := ∀ i, ρ i ≠ none → ρ' i = ρ i

theorem Rho.le_refl (ρ : Rho) : ρ.le ρ := fun _ _ => rfl
theorem Rho.le_trans {a b c : Rho} (h : a.le b) (k : b.le c) : a.le c := fun i hi => (k i (by rw [h i hi]; exact hi)).trans (h i hi)

theorem Rho.le_b {ρ ρ' : Rho} (h : ρ.le ρ') {i : Nat} (hi : ρ i ≠ none) : ρ'.b i = ρ.b i := by simp [Rho.b, h i hi]

mutual
theorem conc_le {ρ ρ' : Rho} (h : ρ.le ρ') : (v : AV) → v.Ok ρ → v.conc ρ' = v.conc ρ ∧ v.Ok ρ'
  | .bool _, _ | .int _ _, _ | .str _, _ | .optr _ _, _ | .oslc _ _ _ _, _ | .raw _, _ => by simp [AV.conc, AV.Ok]
  | .nptr i o, k => by simp only [AV.Ok] at k; simp [AV.conc, AV.Ok, Rho.le_b h k, h i k, k]
  | .nslc i o l c, k => by simp only [AV.Ok] at k; simp [AV.conc, AV.Ok, Rho.le_b h k, h i k, k]
  | .nemp i b o, k => by simp only [AV.Ok] at k; simp [AV.conc, AV.Ok, Rho.le_b h k, h i k, k]
  | .nmap i, k => by simp only [AV.Ok] at k; simp [AV.conc, AV.Ok, Rho.le_b h k, h i k, k]
  | .yield i, k => by simp only [AV.Ok] at k; simp [AV.conc, AV.Ok, Rho.le_b h k, h i k, k]
  | .func f a b, k => by
    simp only [AV.Ok] at k
    have ha := concs_le h a k.1
    have hb := concs_le h b k.2
    simp [AV.conc, AV.Ok, ha.1, ha.2, hb.1, hb.2]
  | .ifc t v, k => by
    simp only [AV.Ok] at k
    have hv := conc_le h v k
    simp [AV.conc, AV.Ok, hv.1, hv.2]
  | .agg l, k => by
    simp only [AV.Ok] at k
    have hl := concs_le h l k
    simp [AV.conc, AV.Ok, hl.1, hl.2]
  | .tup l, k => by
    simp only [AV.Ok] at k
    have hl := concs_le h l k
    simp [AV.conc, AV.Ok, hl.1, hl.2]
theorem concs_le {ρ ρ' : Rho} (h : ρ.le ρ') : (l : List AV) → AV.Oks ρ l → AV.concs ρ' l = AV.concs ρ l ∧ AV.Oks ρ' l
  | [], _ => by simp [AV.concs, AV.Oks]
  | v :: l, k => by
    simp only [AV.Oks] at k
    have hv := conc_le h v k.1
    have hl := concs_le h l k.2
    simp [AV.concs, AV.Oks, hv.1, hv.2, hl.1, hl.2]
end

/-- A value that leads to nothing that the run has made. -/
def AV.Old (v : AV) : Prop := ∀ ρ : Rho, v.Ok ρ ∧ v.conc ρ = v.conc fun _ => none

/-! ### The trie -/
section
variable {α : Type}
theorem Tr.get_one : ∀ (f n m : Nat) (x : α), n ≤ f → (Tr.one f n x).get m = if m = n then some x else none
  | 0, n, m, x, h => by
    have : n = 0 := by omega
    subst this
    cases m with
    | zero => simp [Tr.one, Tr.get]
    | succ m =>
      simp only [Tr.one, Tr.get]
      have : Nat.beq (m + 1) 0 = false := rfl
      rw [this]
      cases Nat.beq (Nat.mod (m + 1) 2) 1 <;> simp [Tr.get]
  | f + 1, n, m, x, h => by
    cases n with
    | zero =>
      have h0 : Nat.beq 0 0 = true := rfl
      simp only [Tr.one, h0]
      cases m with
      | zero => simp [Tr.get]
      | succ m =>
        have : Nat.beq (m + 1) 0 = false := rfl
        simp only [Tr.get, this]
        cases Nat.beq (Nat.mod (m + 1) 2) 1 <;> simp [Tr.get]
    | succ n =>
      have h1 : Nat.beq (n + 1) 0 = false := rfl
      simp only [Tr.one, h1]
      by_cases hn : (n + 1) % 2 = 1
      · have hn' : Nat.beq (Nat.mod (n + 1) 2) 1 = true := by show Nat.beq ((n + 1) % 2) 1 = true; rw [hn]; rfl
        simp only [hn']
        cases m with
        | zero => simp [Tr.get]
        | succ m =>
          have : Nat.beq (m + 1) 0 = false := rfl
          simp only [Tr.get, this]
          by_cases hm : (m + 1) % 2 = 1
          · have hm' : Nat.beq (Nat.mod (m + 1) 2) 1 = true := by show Nat.beq ((m + 1) % 2) 1 = true; rw [hm]; rfl
            simp only [hm']
            rw [Tr.get_one f (Nat.div (n + 1) 2) (Nat.div (m + 1) 2) x (by show (n + 1) / 2 ≤ f; omega)]
            show (if (m + 1) / 2 = (n + 1) / 2 then some x else none) = _
            by_cases e : m = n
            · subst e; simp
            · rw [if_neg (by omega), if_neg (by omega)]
          · have hm' : Nat.beq (Nat.mod (m + 1) 2) 1 = false := by
              show Nat.beq ((m + 1) % 2) 1 = false
              have : (m + 1) % 2 = 0 := by omega
              rw [this]; rfl
            simp only [hm', Tr.get]
            rw [if_neg (by omega)]
      · have hn0 : (n + 1) % 2 = 0 := by omega
        have hn' : Nat.beq (Nat.mod (n + 1) 2) 1 = false := by show Nat.beq ((n + 1) % 2) 1 = false; rw [hn0]; rfl
        simp only [hn']
        cases m with
        | zero => simp [Tr.get]
        | succ m =>
          have : Nat.beq (m + 1) 0 = false := rfl
          simp only [Tr.get, this]
          by_cases hm : (m + 1) % 2 = 1
          · have hm' : Nat.beq (Nat.mod (m + 1) 2) 1 = true := by show Nat.beq ((m + 1) % 2) 1 = true; rw [hm]; rfl
            simp only [hm', Tr.get]
            rw [if_neg (by omega)]
          · have hm0 : (m + 1) % 2 = 0 := by omega
            have hm' : Nat.beq (Nat.mod (m + 1) 2) 1 = false := by show Nat.beq ((m + 1) % 2) 1 = false; rw [hm0]; rfl
            simp only [hm']
            rw [Tr.get_one f (Nat.sub (Nat.div (n + 1) 2) 1) (Nat.sub (Nat.div (m + 1) 2) 1) x (by show (n + 1) / 2 - 1 ≤ f; omega)]
            show (if (m + 1) / 2 - 1 = (n + 1) / 2 - 1 then some x else none) = _
            by_cases e : m = n
            · subst e; simp
            · rw [if_neg (by omega), if_neg (by omega)]

theorem Tr.get_set : ∀ (t : Tr α) (n m : Nat) (x : α), (t.set n x).get m = if m = n then some x else t.get m
  | .leaf, n, m, x => by simp only [Tr.set, Tr.get_one n n m x (Nat.le_refl _), Tr.get]
  | .node l v r, n, m, x => by
    cases n with
    | zero =>
      have h0 : Nat.beq 0 0 = true := rfl
      simp only [Tr.set, h0]
      cases m with
      | zero => simp [Tr.get]
      | succ m =>
        have : Nat.beq (m + 1) 0 = false := rfl
        simp only [Tr.get, this]
        simp
    | succ n =>
      have h1 : Nat.beq (n + 1) 0 = false := rfl
      simp only [Tr.set, h1]
      by_cases hn : (n + 1) % 2 = 1
      · have hn' : Nat.beq (Nat.mod (n + 1) 2) 1 = true := by show Nat.beq ((n + 1) % 2) 1 = true; rw [hn]; rfl
        simp only [hn']
        cases m with
        | zero => simp [Tr.get]
        | succ m =>
          have : Nat.beq (m + 1) 0 = false := rfl
          simp only [Tr.get, this]
          by_cases hm : (m + 1) % 2 = 1
          · have hm' : Nat.beq (Nat.mod (m + 1) 2) 1 = true := by show Nat.beq ((m + 1) % 2) 1 = true; rw [hm]; rfl
            simp only [hm']
            rw [Tr.get_set l]
            show (if (m + 1) / 2 = (n + 1) / 2 then some x else _) = _
            by_cases e : m = n
            · subst e; simp
            · rw [if_neg (by omega), if_neg (by omega)]
          · have hm0 : (m + 1) % 2 = 0 := by omega
            have hm' : Nat.beq (Nat.mod (m + 1) 2) 1 = false := by show Nat.beq ((m + 1) % 2) 1 = false; rw [hm0]; rfl
            simp only [hm']
            rw [if_neg (by omega)]
      · have hn0 : (n + 1) % 2 = 0 := by omega
        have hn' : Nat.beq (Nat.mod (n + 1) 2) 1 = false := by show Nat.beq ((n + 1) % 2) 1 = false; rw [hn0]; rfl
        simp only [hn']
        cases m with
        | zero => simp [Tr.get]
        | succ m =>
          have : Nat.beq (m + 1) 0 = false := rfl
          simp only [Tr.get, this]
          by_cases hm : (m + 1) % 2 = 1
          · have hm' : Nat.beq (Nat.mod (m + 1) 2) 1 = true := by show Nat.beq ((m + 1) % 2) 1 = true; rw [hm]; rfl
            simp only [hm']
            rw [if_neg (by omega)]
          · have hm0 : (m + 1) % 2 = 0 := by omega
            have hm' : Nat.beq (Nat.mod (m + 1) 2) 1 = false := by show Nat.beq ((m + 1) % 2) 1 = false; rw [hm0]; rfl
            simp only [hm']
            rw [Tr.get_set r]
            show (if (m + 1) / 2 - 1 = (n + 1) / 2 - 1 then some x else _) = _
            by_cases e : m = n
            · subst e; simp
            · rw [if_neg (by omega), if_neg (by omega)]
end

/-! ### The frame, the heap -/

def slot (tm : Tr AV) (t : Nat) : AV :=
  match tm.get t with
  | some v => v
  | none => .undef

/-- A frame's temporaries. -/
structure TmOk (ρ : Rho) (nt : Nat) (tm : Tr AV) (tmps : Array Value) : Prop where
  size : tmps.size = nt
  get : ∀ t, t < nt → tmps[t]? = some ((slot tm t).conc ρ) ∧ (slot tm t).Ok ρ
  out : ∀ t, nt ≤ t → tm.get t = none

/-- What a row of cells, seen from 'β' on, holds. -/
structure RowOk (C : Ctx) (ρ : Rho) (β : Base) (c : List AV) (frz : Nat) (e : TypeId) (wh sg : Bool) (w : World) : Prop where
  row : ∃ cs fr, w.heap[β.blk]? = some (.cells cs e fr) ∧ β.off + c.length ≤ cs.size ∧ (∀ j (h : j < c.length), cs[β.off + j]? = some (c[j].conc ρ)) ∧
    (wh = true → β.off = 0 ∧ cs.size = c.length) ∧ (wh = false → cs.size = β.off + β.ecap * β.esz) ∧
    (∀ j, frz ≤ j → β.off + j < cs.size → ¬ (fr.1 ≤ β.off + j ∧ β.off + j < fr.2)) ∧
    (sg = false → fr.1 = fr.2 ∨ fr.2 ≤ β.off + frz)
  ok : ∀ x ∈ c, x.Ok ρ
  esz : β.esz = C.P.cellsOf e

def entryC (ρ : Rho) (e : AV × AV × Nat) : MapEntry := { key := e.1.conc ρ, val := e.2.1.conc ρ, born := e.2.2 }

/-- What an object of the run is in the world. -/
def ObjOk (C : Ctx) (ρ : Rho) (H : AH) (β : Base) (w : World) : AObj → Prop
  | .row c g gen sh _ frz e wh sg => H.live g gen sh = true → RowOk C ρ β c frz e wh sg w
  | .map es clock => w.heap[β.blk]? = some (.map (es.map (entryC ρ)).toArray clock) ∧ ∀ e ∈ es, e.1.Ok ρ ∧ e.2.1.Ok ρ
  | .siter s pos => w.heap[β.blk]? = some (.stringIter ⟨s.toArray⟩ pos)
  | .miter m since seen stepped => w.heap[β.blk]? = some (.mapIter (m.map fun i => (ρ.b i).blk) since seen.toArray stepped) ∧ (∀ i, m = some i → ρ i ≠ none) ∧ β.off = 0
  | .loop st pend fn tm nt params assign body d => ∃ tmps fn', w.heap[β.blk]? = some (.loop { state := st, pending := pend, fn := fn', tmps, params, assign, body, defers := (ρ.b d).blk }) ∧
      TmOk ρ nt tm tmps ∧ ρ d ≠ none
  | .dfr open_ => w.heap[β.blk]? = some (.deferred (if open_ then some [] else none))

/-- Two rows that share memory openly. -/
def Shares (H : AH) (i j : Nat) : Prop :=
  ∃ c g gen ext frz e wh sg c' gen' ext' frz' e' wh' sg', H.o.get i = some (.row c g gen true ext frz e wh sg) ∧ H.o.get j = some (.row c' g gen' true ext' frz' e' wh' sg')

/-- The heap of the run, in the world. 'N': what lay below this block was there. -/
structure Rel (C : Ctx) (N : Nat) (ρ : Rho) (H : AH) (w : World) : Prop where
  lt : ∀ i β, ρ i = some β → i < H.n ∧ N ≤ β.blk ∧ β.blk < w.heap.size
  obj : ∀ i β, ρ i = some β → ∃ o, H.o.get i = some o ∧ ObjOk C ρ H β w o
  sep : ∀ i j βi βj, ρ i = some βi → ρ j = some βj → i ≠ j → βi.blk = βj.blk → Shares H i j
  tip : ∀ i j βi βj c g gen frz e wh sg c' gen' ext' frz' e' wh' sg', ρ i = some βi → ρ j = some βj → i ≠ j → βi.blk = βj.blk →
    H.o.get i = some (.row c g gen true false frz e wh sg) → H.o.get j = some (.row c' g gen' true ext' frz' e' wh' sg') → H.gen g = gen → H.gen g = gen' →
    ext' = true ∧ βj.off + c'.length ≤ βi.off + c.length
  age : ∀ i β c g gen ext frz e wh sg, ρ i = some β → H.o.get i = some (.row c g gen true ext frz e wh sg) → gen ≤ H.gen g
  old : ∀ b o v, C.old b o = some v → w.cell? ⟨b, o, none⟩ = some (v.conc ρ) ∧ b < N ∧ v.Old
  base : N ≤ w.heap.size

/-- Old blocks, and those that the run may only read, are as they were. -/
def Keeps (ρ : Rho) (ro : Nat) (w w' : World) : Prop :=
  w.heap.size ≤ w'.heap.size ∧ ∀ b, b < w.heap.size → (∀ i β, ρ i = some β → β.blk = b → i < ro) → w'.heap[b]? = w.heap[b]?

end Go.Ev

/-! The heap of the run under the world's steps. -/
namespace Go.Ev

theorem RowOk.world {C : Ctx} {ρ : Rho} {β : Base} {c : List AV} {frz : Nat} {e : TypeId} {wh sg : Bool} {w w' : World} (h : RowOk C ρ β c frz e wh sg w)
    (k : w'.heap[β.blk]? = w.heap[β.blk]?) : RowOk C ρ β c frz e wh sg w' := by
  obtain ⟨⟨cs, fr, h1, h2⟩, ok, esz⟩ := h
  exact ⟨⟨cs, fr, k.trans h1, h2⟩, ok, esz⟩

theorem ObjOk.world {C : Ctx} {ρ : Rho} {H : AH} {β : Base} {w w' : World} {o : AObj} (h : ObjOk C ρ H β w o) (k : w'.heap[β.blk]? = w.heap[β.blk]?) : ObjOk C ρ H β w' o := by
  cases o with
  | row c g gen sh ext frz e wh sg => exact fun hl => (h hl).world k
  | map es clock => exact ⟨k.trans h.1, h.2⟩
  | siter s pos => exact k.trans h
  | miter m since seen stepped => exact ⟨k.trans h.1, h.2⟩
  | loop st pend fn tm nt params assign body d =>
    obtain ⟨tmps, f, h1, h2⟩ := h
    exact ⟨tmps, f, k.trans h1, h2⟩
  | dfr b => exact k.trans h

theorem TmOk.le {ρ ρ' : Rho} {nt : Nat} {tm : Tr AV} {tmps : Array Value} (h : TmOk ρ nt tm tmps) (l : ρ.le ρ') : TmOk ρ' nt tm tmps :=
  ⟨h.size, fun t ht => by obtain ⟨a, b⟩ := h.get t ht; have := conc_le l _ b; exact ⟨by rw [this.1]; exact a, this.2⟩, h.out⟩

theorem RowOk.le {C : Ctx} {ρ ρ' : Rho} {β : Base} {c : List AV} {frz : Nat} {e : TypeId} {wh sg : Bool} {w : World} (h : RowOk C ρ β c frz e wh sg w) (l : ρ.le ρ') :
    RowOk C ρ' β c frz e wh sg w := by
  obtain ⟨⟨cs, fr, h1, h2, h3, h4⟩, ok, esz⟩ := h
  exact ⟨⟨cs, fr, h1, h2, fun j hj => by rw [(conc_le l _ (ok _ (List.getElem_mem hj))).1]; exact h3 j hj, h4⟩, fun x hx => (conc_le l _ (ok x hx)).2, esz⟩

theorem ObjOk.le {C : Ctx} {ρ ρ' : Rho} {H : AH} {β : Base} {w : World} {o : AObj} (h : ObjOk C ρ H β w o) (l : ρ.le ρ') : ObjOk C ρ' H β w o := by
  cases o with
  | row c g gen sh ext frz e wh sg => exact fun hl => (h hl).le l
  | map es clock =>
    refine ⟨h.1.trans ?_, fun e he => ⟨(conc_le l _ (h.2 e he).1).2, (conc_le l _ (h.2 e he).2).2⟩⟩
    have : es.map (entryC ρ') = es.map (entryC ρ) := List.map_congr_left fun e he => by
      simp [entryC, (conc_le l _ (h.2 e he).1).1, (conc_le l _ (h.2 e he).2).1]
    rw [this]
  | siter s pos => exact h
  | miter m since seen stepped =>
    refine ⟨h.1.trans ?_, fun i hi => by rw [l i (h.2.1 i hi)]; exact h.2.1 i hi, h.2.2⟩
    cases m with
    | none => rfl
    | some i => simp [Rho.le_b l (h.2.1 i rfl)]
  | loop st pend fn tm nt params assign body d =>
    obtain ⟨tmps, f, h1, h2, h3⟩ := h
    exact ⟨tmps, f, by rw [Rho.le_b l h3]; exact h1, h2.le l, by rw [l d h3]; exact h3⟩
  | dfr b => exact h

/-- 'ObjOk' asks the heap alone for the ages. -/
theorem ObjOk.ages {C : Ctx} {ρ : Rho} {H H' : AH} {β : Base} {w : World} {o : AObj} (h : ObjOk C ρ H β w o) (k : H'.g = H.g) : ObjOk C ρ H' β w o := by
  cases o with
  | row c g gen sh ext frz e wh sg =>
    intro hl
    apply h
    simpa [AH.live, AH.gen, k] using hl
  | map es clock => exact h
  | siter s pos => exact h
  | miter m since seen stepped => exact h
  | loop st pend fn tm nt params assign body d => exact h
  | dfr b => exact h

theorem cell?_world {w w' : World} {b o : Nat} (k : w'.heap[b]? = w.heap[b]?) : w'.cell? ⟨b, o, none⟩ = w.cell? ⟨b, o, none⟩ := by simp [World.cell?, k]

/-- The world goes on, and all that is mapped lies as it lay. -/
theorem Rel.world {C : Ctx} {N : Nat} {ρ : Rho} {H : AH} {w w' : World} (h : Rel C N ρ H w) (hs : w.heap.size ≤ w'.heap.size)
    (hk : ∀ b, b < w.heap.size → w'.heap[b]? = w.heap[b]?) : Rel C N ρ H w' where
  lt := fun i β hi => by obtain ⟨a, b, c⟩ := h.lt i β hi; exact ⟨a, b, by omega⟩
  obj := fun i β hi => by
    obtain ⟨o, ho, hob⟩ := h.obj i β hi
    exact ⟨o, ho, hob.world (hk _ (h.lt i β hi).2.2)⟩
  sep := h.sep
  tip := h.tip
  age := h.age
  old := fun b o v hv => by
    obtain ⟨a, b', c⟩ := h.old b o v hv
    exact ⟨by rw [cell?_world (hk b (by have := h.base; omega))]; exact a, b', c⟩
  base := by have := h.base; omega

theorem alloc_lt {w : World} {o : Obj} {b : Nat} (h : b < w.heap.size) : (w.alloc o).heap[b]? = w.heap[b]? := by
  show (w.heap.push o)[b]? = _
  rw [Array.getElem?_push, if_neg (by omega)]

theorem alloc_new {w : World} {o : Obj} : (w.alloc o).heap[w.heap.size]? = some o := by
  show (w.heap.push o)[_]? = _
  simp

theorem Rel.drew {C : Ctx} {N : Nat} {ρ : Rho} {H : AH} {w : World} (h : Rel C N ρ H w) : Rel C N ρ H w.drew := h.world (Nat.le_refl _) fun _ _ => rfl

theorem Rel.none_n {C : Ctx} {N : Nat} {ρ : Rho} {H : AH} {w : World} (h : Rel C N ρ H w) : ρ H.n = none := by
  cases hb : ρ H.n with
  | none => rfl
  | some β => have := (h.lt _ _ hb).1; omega

/-- The run makes an object that lies nowhere yet. -/
theorem Rel.pend {C : Ctx} {N : Nat} {ρ : Rho} {H : AH} {w : World} (h : Rel C N ρ H w) (o : AObj) : Rel C N ρ (H.new o) w where
  lt := fun i β hi => by obtain ⟨a, b, c⟩ := h.lt i β hi; exact ⟨by simp [AH.new]; omega, b, c⟩
  obj := fun i β hi => by
    obtain ⟨x, hx, hob⟩ := h.obj i β hi
    have := (h.lt i β hi).1
    exact ⟨x, by simp only [AH.new, Tr.get_set]; rw [if_neg (by omega)]; exact hx, hob.ages rfl⟩
  sep := fun i j βi βj hi hj hn hb => by
    obtain ⟨c, g, gen, ext, frz, e, wh, sg, c', gen', ext', frz', e', wh', sg', h1, h2⟩ := h.sep i j βi βj hi hj hn hb
    have a := (h.lt i _ hi).1
    have b := (h.lt j _ hj).1
    exact ⟨c, g, gen, ext, frz, e, wh, sg, c', gen', ext', frz', e', wh', sg', by simp only [AH.new, Tr.get_set]; rw [if_neg (by omega)]; exact h1,
      by simp only [AH.new, Tr.get_set]; rw [if_neg (by omega)]; exact h2⟩
  tip := fun i j βi βj c g gen frz e wh sg c' gen' ext' frz' e' wh' sg' hi hj hn hb h1 h2 h3 h4 => by
    have a := (h.lt i _ hi).1
    have b := (h.lt j _ hj).1
    simp only [AH.new, Tr.get_set] at h1 h2
    rw [if_neg (by omega)] at h1 h2
    exact h.tip i j βi βj c g gen frz e wh sg c' gen' ext' frz' e' wh' sg' hi hj hn hb h1 h2 h3 h4
  age := fun i β c g gen ext frz e wh sg hi h1 => by
    have a := (h.lt i _ hi).1
    simp only [AH.new, Tr.get_set] at h1
    rw [if_neg (by omega)] at h1
    exact h.age i β c g gen ext frz e wh sg hi h1
  old := h.old
  base := h.base

def Rho.put (ρ : Rho) (i : Nat) (β : Base) : Rho := fun j => if j = i then some β else ρ j

theorem Rho.le_put {ρ : Rho} {i : Nat} {β : Base} (h : ρ i = none) : ρ.le (ρ.put i β) := fun j hj => by
  simp only [Rho.put]
  rw [if_neg]
  rintro rfl
  exact hj h

theorem Rho.put_b {ρ : Rho} {i : Nat} {β : Base} : (ρ.put i β).b i = β := by simp [Rho.put, Rho.b]
theorem Rho.put_same {ρ : Rho} {i : Nat} {β : Base} : ρ.put i β i = some β := by simp [Rho.put]

/-- An object that lay nowhere is laid into a new block. -/
theorem Rel.map {C : Ctx} {N : Nat} {ρ : Rho} {H : AH} {w : World} (h : Rel C N ρ H w) {i : Nat} {o : AObj} {ob : Obj} {β : Base} (hi : ρ i = none) (hn : i < H.n) (ho : H.o.get i = some o)
    (hb : β.blk = w.heap.size)
    (hage : ∀ c g gen ext frz e wh sg, o = .row c g gen true ext frz e wh sg → gen ≤ H.gen g) (hok : ObjOk C (ρ.put i β) H β (w.alloc ob) o) : Rel C N (ρ.put i β) H (w.alloc ob) where
  lt := fun j γ hj => by
    simp only [Rho.put] at hj
    split at hj
    · cases hj
      exact ⟨by omega, by have := h.base; omega, by simp; omega⟩
    · obtain ⟨a, b, c⟩ := h.lt j γ hj
      exact ⟨a, b, by simp; omega⟩
  obj := fun j γ hj => by
    simp only [Rho.put] at hj
    split at hj
    · cases hj
      rename_i e
      subst e
      exact ⟨o, ho, hok⟩
    · obtain ⟨x, hx, hob⟩ := h.obj j γ hj
      have hlt := (h.lt j γ hj).2.2
      exact ⟨x, hx, (hob.le (Rho.le_put hi)).world (alloc_lt hlt)⟩
  sep := fun j k βj βk hj hk hne hbb => by
    simp only [Rho.put] at hj hk
    split at hj <;> split at hk
    · omega
    · cases hj
      have := (h.lt k βk hk).2.2
      omega
    · cases hk
      have := (h.lt j βj hj).2.2
      omega
    · exact h.sep j k βj βk hj hk hne hbb
  tip := fun j k βj βk c g gen frz e wh sg c' gen' ext' frz' e' wh' sg' hj hk hne hbb h1 h2 h3 h4 => by
    simp only [Rho.put] at hj hk
    split at hj <;> split at hk
    · omega
    · cases hj
      have := (h.lt k βk hk).2.2
      omega
    · cases hk
      have := (h.lt j βj hj).2.2
      omega
    · exact h.tip j k βj βk c g gen frz e wh sg c' gen' ext' frz' e' wh' sg' hj hk hne hbb h1 h2 h3 h4
  age := fun j γ c g gen ext frz e wh sg hj h1 => by
    simp only [Rho.put] at hj
    split at hj
    · rename_i he
      subst he
      rw [ho] at h1
      exact hage _ _ _ _ _ _ _ _ (Option.some.inj h1)
    · exact h.age j γ c g gen ext frz e wh sg hj h1
  old := fun b k v hv => by
    obtain ⟨a, b', c⟩ := h.old b k v hv
    have hlt := h.base
    refine ⟨?_, b', c⟩
    rw [cell?_world (alloc_lt (by omega)), a, (c ρ).2, (c (ρ.put i β)).2]
  base := by have := h.base; simp; omega

/-! ### Loads and stores of rows -/

theorem add_none (b o n : Nat) : (Addr.mk b o none).add n = ⟨b, o + n, none⟩ := by
  unfold Addr.add
  split
  · next h => subst h; rfl
  · rfl

theorem run_loadCellsFrom {P : Program} {w : World} {b o : Nat} : ∀ (n i : Nat) (acc : Array Value) (l : List Value), l.length = n →
    (∀ j (h : j < l.length), w.cell? ⟨b, o + (i + j), none⟩ = some l[j]) →
    (loadCellsFrom ⟨b, o, none⟩ i n acc).run P w = .ok (acc ++ l.toArray) w
  | 0, i, acc, l, hl, _ => by
    have : l = [] := List.length_eq_zero_iff.1 hl
    subst this
    simp [loadCellsFrom]
  | n + 1, i, acc, l, hl, hc => by
    cases l with
    | nil => simp at hl
    | cons x l =>
      simp only [List.length_cons, Nat.add_right_cancel_iff] at hl
      have h0 := hc 0 (by simp)
      simp only [Nat.add_zero, List.getElem_cons_zero] at h0
      simp only [loadCellsFrom, Sem.run_bind, add_none, run_load, h0, Result.andThen_ok]
      rw [run_loadCellsFrom n (i + 1) (acc.push x) l hl fun j hj => by
        have := hc (j + 1) (by simp; omega)
        simp only [List.getElem_cons_succ] at this
        rw [← this]
        congr 2
        omega]
      simp

theorem run_loadCells {P : Program} {w : World} {b o n : Nat} (l : List Value) (hl : l.length = n) (hc : ∀ j (h : j < l.length), w.cell? ⟨b, o + j, none⟩ = some l[j]) :
    (loadCells ⟨b, o, none⟩ n).run P w = .ok l.toArray w := by
  unfold loadCells
  rw [run_loadCellsFrom n 0 #[] l hl fun j hj => by simpa using hc j hj]
  simp

def wput (w : World) (b : Nat) (o : Obj) : World := { w with heap := w.heap.setIfInBounds b o }

theorem setCell_cells {w : World} {b o : Nat} {cs : Array Value} {e : TypeId} {fr : Nat × Nat} {v : Value} (h : w.heap[b]? = some (.cells cs e fr)) :
    w.setCell ⟨b, o, none⟩ v = wput w b (.cells (cs.setIfInBounds o v) e fr) := by
  unfold World.setCell wput
  congr 1
  apply Array.ext_getElem?
  intro j
  simp only [Array.getElem?_modify, Array.getElem?_setIfInBounds]
  have hb : b < w.heap.size := (Array.getElem?_eq_some_iff.1 h).1
  by_cases hj : b = j
  · subst hj
    have he := (Array.getElem?_eq_some_iff.1 h).2
    simp [hb, he]
  · simp [hj]

theorem putObj_get {w : World} {b c : Nat} {o : Obj} : (wput w b o).heap[c]? = if b = c ∧ b < w.heap.size then some o else w.heap[c]? := by
  simp only [wput, Array.getElem?_setIfInBounds]
  by_cases h : b = c
  · subst h
    simp only [true_and, if_true]
    by_cases hb : b < w.heap.size
    · simp [hb]
    · simp [hb]
  · simp [h]
theorem putObj_size {w : World} {b : Nat} {o : Obj} : (wput w b o).heap.size = w.heap.size := by simp [wput]

def Value.cellLike : Value → Prop
  | .agg _ => False
  | .tuple _ => False
  | _ => True

theorem run_store {P : Program} {w : World} {b o : Nat} {cs : Array Value} {e : TypeId} {fr : Nat × Nat} {v : Value} (h : w.heap[b]? = some (.cells cs e fr)) (ho : o < cs.size)
    (hf : ¬ (fr.1 ≤ o ∧ o < fr.2)) (hv : Value.cellLike v) : (store ⟨b, o, none⟩ v).run P w = .ok () (wput w b (.cells (cs.setIfInBounds o v) e fr)) := by
  have hc : w.cell? ⟨b, o, none⟩ = some cs[o] := by simp [World.cell?, h, ho]
  have hfr : w.frozen? ⟨b, o, none⟩ = false := by
    obtain ⟨lo, hi⟩ := fr
    simp only [World.frozen?, h]
    simp only [not_and] at hf
    cases hd : decide (lo ≤ o) with
    | false => simp
    | true =>
      have := hf (of_decide_eq_true hd)
      simp [this]
  rw [← setCell_cells h]
  cases v <;> simp_all [store, Sem.run, Value.cellLike]

/-- 'vs' laid over an array from 'o' on. -/
def laid (cs : Array Value) : Nat → List Value → Array Value
  | _, [] => cs
  | o, v :: vs => laid (cs.setIfInBounds o v) (o + 1) vs

theorem laid_size : ∀ (vs : List Value) (cs : Array Value) (o : Nat), (laid cs o vs).size = cs.size
  | [], _, _ => rfl
  | v :: vs, cs, o => by simp [laid, laid_size vs]

theorem laid_get : ∀ (vs : List Value) (cs : Array Value) (o j : Nat), o + vs.length ≤ cs.size → (laid cs o vs)[j]? = if o ≤ j ∧ j < o + vs.length then vs[j - o]? else cs[j]?
  | [], cs, o, j, _ => by
    simp only [laid, List.length_nil, Nat.add_zero]
    rw [if_neg (by omega)]
  | v :: vs, cs, o, j, h => by
    simp only [List.length_cons] at h
    rw [laid, laid_get vs _ _ j (by simp; omega)]
    by_cases h1 : o + 1 ≤ j ∧ j < o + 1 + vs.length
    · rw [if_pos h1, if_pos (by simp; omega)]
      have : j - o = (j - (o + 1)) + 1 := by omega
      rw [this]
      simp
    · rw [if_neg h1]
      by_cases h2 : j = o
      · subst h2
        rw [if_pos (by simp)]
        have : j < cs.size := by omega
        simp [this]
      · rw [if_neg (by simp only [List.length_cons]; omega)]
        rw [Array.getElem?_setIfInBounds]
        rw [if_neg (by omega)]

theorem putObj_putObj {w : World} {b : Nat} {o o' : Obj} : wput (wput w b o) b o' = wput w b o' := by simp [wput]

theorem run_storeCells {P : Program} {b o : Nat} {e : TypeId} {fr : Nat × Nat} : ∀ (vs : List Value) (i : Nat) (w : World) (cs : Array Value), w.heap[b]? = some (.cells cs e fr) → o + i + vs.length ≤ cs.size →
    (∀ j, o + i ≤ j → j < o + i + vs.length → ¬ (fr.1 ≤ j ∧ j < fr.2)) → (∀ v ∈ vs, Value.cellLike v) →
    (storeCells ⟨b, o, none⟩ vs i).run P w = .ok () (wput w b (.cells (laid cs (o + i) vs) e fr))
  | [], i, w, cs, h, _, _, _ => by
    have : wput w b (.cells cs e fr) = w := by
      unfold wput
      have hb := (Array.getElem?_eq_some_iff.1 h)
      obtain ⟨hb, he⟩ := hb
      congr 1
      apply Array.ext_getElem?
      intro j
      rw [Array.getElem?_setIfInBounds]
      by_cases hj : b = j
      · subst hj; simp [hb, he]
      · simp [hj]
    simp [storeCells, laid, this]
  | v :: vs, i, w, cs, h, hl, hf, hv => by
    simp only [List.length_cons] at hl hf
    simp only [storeCells, Sem.run_bind, add_none]
    rw [run_store h (by omega) (hf _ (by omega) (by omega)) (hv v (by simp))]
    have hb := (Array.getElem?_eq_some_iff.1 h).1
    simp only [Result.andThen_ok]
    rw [run_storeCells (e := e) (fr := fr) vs (i + 1) _ (cs.setIfInBounds (o + i) v) (by rw [putObj_get]; simp [hb]) (by simp; omega) (fun j h1 h2 => hf j (by omega) (by omega)) (fun x hx => hv x (by simp [hx]))]
    rw [putObj_putObj]
    rfl


theorem isCell_conc {ρ : Rho} {v : AV} (h : v.isCell = true) : Value.cellLike (v.conc ρ) := by
  cases v with
  | raw v => cases v <;> simp_all [AV.isCell, AV.conc, Value.cellLike]
  | _ => simp_all [AV.isCell, AV.conc, Value.cellLike]

theorem over_length {α : Type} : ∀ (l : List α) (k : Nat) (vs : List α), k + vs.length ≤ l.length → (over l k vs).length = l.length
  | l, 0, vs, h => by simp [over]; omega
  | [], k + 1, vs, h => by simp at h
  | x :: l, k + 1, vs, h => by
    simp only [List.length_cons] at h
    simp [over, over_length l k vs (by omega)]

theorem over_get {α : Type} : ∀ (l : List α) (k : Nat) (vs : List α) (j : Nat), k + vs.length ≤ l.length → (over l k vs)[j]? = if k ≤ j ∧ j < k + vs.length then vs[j - k]? else l[j]?
  | l, 0, vs, j, h => by
    simp only [over, Nat.zero_add, Nat.sub_zero, Nat.zero_le, true_and, List.getElem?_append]
    split
    · rfl
    · rw [List.getElem?_drop]
      congr 1
      omega
  | [], k + 1, vs, j, h => by simp at h
  | x :: l, k + 1, vs, j, h => by
    simp only [List.length_cons] at h
    cases j with
    | zero => simp [over]
    | succ j =>
      simp only [over, List.getElem?_cons_succ]
      rw [over_get l k vs j (by omega)]
      by_cases hc : k ≤ j ∧ j < k + vs.length
      · rw [if_pos hc, if_pos (by omega)]
        congr 1
        omega
      · rw [if_neg hc, if_neg (by omega)]

theorem over_mem {α : Type} : ∀ (l : List α) (k : Nat) (vs : List α) (x : α), x ∈ over l k vs → x ∈ l ∨ x ∈ vs
  | l, 0, vs, x, h => by
    simp only [over, List.mem_append] at h
    rcases h with h | h
    · exact .inr h
    · exact .inl (List.mem_of_mem_drop h)
  | [], k + 1, vs, x, h => by simp [over] at h
  | y :: l, k + 1, vs, x, h => by
    simp only [over, List.mem_cons] at h
    rcases h with h | h
    · exact .inl (by simp [h])
    · rcases over_mem l k vs x h with h | h
      · exact .inl (by simp [h])
      · exact .inr h

/-- A row's cells written. -/
theorem Rel.put {P : Program} {C : Ctx} {N : Nat} {ρ : Rho} {H H' : AH} {w : World} (h : Rel C N ρ H w) {i k : Nat} {vs : List AV} {β : Base} (hp : H.put i k vs = some H') (hi : ρ i = some β)
    (hvs : ∀ v ∈ vs, v.Ok ρ) (hcell : ∀ v ∈ vs, v.isCell = true) :
    ∃ w', (w'.os = w.os ∧ w'.output = w.output) ∧ (storeCells ⟨β.blk, β.off + k, none⟩ (vs.map (AV.conc ρ))).run P w = .ok () w' ∧ Rel C N ρ H' w' ∧ H'.n = H.n ∧ H'.ro = H.ro ∧ H.ro ≤ i ∧ w'.heap.size = w.heap.size ∧
      ∀ b, b ≠ β.blk → w'.heap[b]? = w.heap[b]? := by
  obtain ⟨o, ho, hob⟩ := h.obj i β hi
  unfold AH.put at hp
  rw [ho] at hp
  cases o with
  | row c g gen sh ext frz e wh sg =>
    simp only at hp
    cases hl : H.live g gen sh with
    | false => rw [hl] at hp; cases hp
    | true =>
      rw [hl] at hp
      simp only at hp
      cases h1 : Nat.ble (k + vs.length) c.length with
      | false => rw [h1] at hp; cases hp
      | true =>
        rw [h1] at hp
        simp only at hp
        cases h2 : Nat.ble frz k && Nat.ble H.ro i with
        | false => rw [h2] at hp; cases hp
        | true =>
          rw [h2] at hp
          simp only at hp
          have h1' : k + vs.length ≤ c.length := Nat.le_of_ble_eq_true h1
          simp only [Bool.and_eq_true] at h2
          have h2' : frz ≤ k := Nat.le_of_ble_eq_true h2.1
          have hro : H.ro ≤ i := Nat.le_of_ble_eq_true h2.2
          obtain ⟨⟨cs, fr, hb, hsz, hcs, hwh, hwf, hfz, hsg⟩, hok, hesz⟩ := hob hl
          have hbl : β.blk < w.heap.size := (h.lt i β hi).2.2
          refine ⟨wput w β.blk (.cells (laid cs (β.off + k) (vs.map (AV.conc ρ))) e fr), ⟨rfl, rfl⟩, ?_, ?_⟩
          · have := run_storeCells (P := P) (b := β.blk) (o := β.off + k) (e := e) (fr := fr) (vs.map (AV.conc ρ)) 0 w cs hb (by simp; omega)
              (fun j h1 h2 => by
                simp only [Nat.add_zero, List.length_map] at h1 h2
                have := hfz (j - β.off) (by omega) (by omega)
                have e : β.off + (j - β.off) = j := by omega
                rw [e] at this
                exact this)
              (fun v hv => by
                obtain ⟨x, hx, rfl⟩ := List.mem_map.1 hv
                exact isCell_conc (hcell x hx))
            simpa using this
          · -- the row as it is now
            have hrow : RowOk C ρ β (over c k vs) frz e wh sg (wput w β.blk (.cells (laid cs (β.off + k) (vs.map (AV.conc ρ))) e fr)) := by
              refine ⟨⟨laid cs (β.off + k) (vs.map (AV.conc ρ)), fr, by rw [putObj_get]; simp [hbl], by rw [over_length _ _ _ h1', laid_size]; exact hsz, ?_, ?_, ?_, ?_, hsg⟩, ?_, hesz⟩
              · intro j hj
                rw [over_length _ _ _ h1'] at hj
                have hgo := over_get c k vs j h1'
                rw [laid_get _ _ _ _ (by simp; omega)]
                have e1 : (over c k vs)[j]? = some (over c k vs)[j] := List.getElem?_eq_getElem (by rw [over_length _ _ _ h1']; exact hj)
                by_cases hc : k ≤ j ∧ j < k + vs.length
                · rw [if_pos (by simp; omega)]
                  rw [if_pos hc] at hgo
                  rw [e1] at hgo
                  have : β.off + j - (β.off + k) = j - k := by omega
                  rw [this, List.getElem?_map, ← hgo]
                  rfl
                · rw [if_neg (by simp; omega)]
                  rw [if_neg hc, e1, List.getElem?_eq_getElem hj] at hgo
                  rw [Option.some.inj hgo]
                  exact hcs j hj
              · intro hw
                rw [laid_size, over_length _ _ _ h1']
                exact hwh hw
              · intro hw
                rw [laid_size]
                exact hwf hw
              · intro j h1 h2
                rw [laid_size] at h2
                exact hfz j h1 h2
              · intro x hx
                rcases over_mem _ _ _ _ hx with hx | hx
                · exact hok x hx
                · exact hvs x hx
            have hoth : ∀ b, b ≠ β.blk → (wput w β.blk (.cells (laid cs (β.off + k) (vs.map (AV.conc ρ))) e fr)).heap[b]? = w.heap[b]? := by
              intro b hb'
              rw [putObj_get, if_neg]
              rintro ⟨rfl, _⟩
              exact hb' rfl
            have hold : ∀ b o v, C.old b o = some v → (wput w β.blk (.cells (laid cs (β.off + k) (vs.map (AV.conc ρ))) e fr)).cell? ⟨b, o, none⟩ = some (v.conc ρ) ∧ b < N ∧ v.Old := by
              intro b o v hv
              obtain ⟨a, b', c⟩ := h.old b o v hv
              have := (h.lt i β hi).2.1
              exact ⟨by rw [cell?_world (hoth b (by omega))]; exact a, b', c⟩
            cases sh with
            | false =>
              cases hp
              have hget : ∀ j, (H.setObj i (.row (over c k vs) g gen false ext frz e wh sg)).o.get j = if j = i then some (.row (over c k vs) g gen false ext frz e wh sg) else H.o.get j := fun j => by
                simp only [AH.setObj, Tr.get_set]
              refine ⟨⟨fun j γ hj => ?_, fun j γ hj => ?_, fun j l βj βl hj hlj hn hbb => ?_, fun j l βj βl c1 g1 gen1 frz1 e1 wh1 sg1 c2 gen2 ext2 frz2 e2 wh2 sg2 hj hlj hn hbb r1 r2 => ?_, fun j γ c1 g1 gen1 ext1 frz1 e1 wh1 sg1 hj r1 => ?_, hold, by rw [putObj_size]; exact h.base⟩,
                rfl, rfl, hro, putObj_size, hoth⟩
              · have := h.lt j γ hj
                rw [putObj_size]
                exact this
              · obtain ⟨x, hx, hxo⟩ := h.obj j γ hj
                by_cases e' : j = i
                · subst e'
                  rw [hi] at hj
                  cases hj
                  exact ⟨.row (over c k vs) g gen false ext frz e wh sg, by rw [hget, if_pos rfl], fun _ => hrow⟩
                · refine ⟨x, by rw [hget, if_neg e']; exact hx, (hxo.world (hoth _ ?_)).ages rfl⟩
                  intro hbb
                  obtain ⟨c1, g1, gen1, ext1, frz1, e1, wh1, sg1, c2, gen2, ext2, frz2, e2, wh2, sg2, r1, r2⟩ := h.sep j i γ β hj hi e' hbb
                  rw [ho] at r2
                  cases r2
              · obtain ⟨c1, g1, gen1, ext1, frz1, e1, wh1, sg1, c2, gen2, ext2, frz2, e2, wh2, sg2, r1, r2⟩ := h.sep j l βj βl hj hlj hn hbb
                refine ⟨c1, g1, gen1, ext1, frz1, e1, wh1, sg1, c2, gen2, ext2, frz2, e2, wh2, sg2, ?_, ?_⟩
                · rw [hget, if_neg]
                  · exact r1
                  · rintro rfl
                    rw [ho] at r1
                    cases r1
                · rw [hget, if_neg]
                  · exact r2
                  · rintro rfl
                    rw [ho] at r2
                    cases r2
              · rw [hget] at r1 r2
                split at r1
                · cases r1
                · split at r2
                  · cases r2
                  · exact h.tip j l βj βl c1 g1 gen1 frz1 e1 wh1 sg1 c2 gen2 ext2 frz2 e2 wh2 sg2 hj hlj hn hbb r1 r2
              · rw [hget] at r1
                split at r1
                · cases r1
                · exact h.age j γ c1 g1 gen1 ext1 frz1 e1 wh1 sg1 hj r1
            | true =>
              have hgen : H.gen g = gen := by simpa [AH.live] using hl
              cases hp
              generalize hH : (AH.mk H.n H.ro (H.o.set i (.row (over c k vs) g (gen + 1) true false frz e wh sg)) (H.g.set g (gen + 1))) = H2
              have hget : ∀ j, H2.o.get j = if j = i then some (.row (over c k vs) g (gen + 1) true false frz e wh sg) else H.o.get j := fun j => by
                rw [← hH]
                simp only [Tr.get_set]
              have hg2 : ∀ x, H2.gen x = if x = g then gen + 1 else H.gen x := fun x => by
                rw [← hH]
                simp only [AH.gen, Tr.get_set]
                by_cases hx : x = g
                · simp [hx]
                · simp [hx]
              refine ⟨⟨fun j γ hj => ?_, fun j γ hj => ?_, fun j l βj βl hj hlj hn hbb => ?_, fun j l βj βl c1 g1 gen1 frz1 e1 wh1 sg1 c2 gen2 ext2 frz2 e2 wh2 sg2 hj hlj hn hbb r1 r2 q1 q2 => ?_, fun j γ c1 g1 gen1 ext1 frz1 e1 wh1 sg1 hj r1 => ?_, hold, by rw [putObj_size]; exact h.base⟩,
                by rw [← hH], by rw [← hH], hro, putObj_size, hoth⟩
              · have := h.lt j γ hj
                rw [putObj_size, ← hH]
                exact this
              · obtain ⟨x, hx, hxo⟩ := h.obj j γ hj
                by_cases e' : j = i
                · subst e'
                  rw [hi] at hj
                  cases hj
                  exact ⟨.row (over c k vs) g (gen + 1) true false frz e wh sg, by rw [hget, if_pos rfl], fun _ => hrow⟩
                · refine ⟨x, by rw [hget, if_neg e']; exact hx, ?_⟩
                  by_cases hbb : γ.blk = β.blk
                  · obtain ⟨c1, g1, gen1, ext1, frz1, e1, wh1, sg1, c2, gen2, ext2, frz2, e2, wh2, sg2, r1, r2⟩ := h.sep j i γ β hj hi e' hbb
                    rw [ho] at r2
                    cases r2
                    rw [hx] at r1
                    cases r1
                    intro hlive
                    have ha := h.age j γ _ _ _ _ _ _ _ _ hj hx
                    simp only [AH.live] at hlive
                    have := Nat.eq_of_beq_eq_true hlive
                    rw [hg2, if_pos rfl] at this
                    omega
                  · have hxw := hxo.world (hoth _ hbb)
                    cases x with
                    | row c1 g1 gen1 sh1 ext1 frz1 e1 wh1 sg1 =>
                      intro hlive
                      apply hxw
                      cases sh1 with
                      | false => rfl
                      | true =>
                        simp only [AH.live] at hlive ⊢
                        have hq := Nat.eq_of_beq_eq_true hlive
                        rw [hg2] at hq
                        by_cases hgg : g1 = g
                        · rw [if_pos hgg] at hq
                          have ha := h.age j γ _ _ _ _ _ _ _ _ hj hx
                          rw [hgg] at ha
                          omega
                        · rw [if_neg hgg] at hq
                          rw [hq]
                          exact Nat.beq_refl _
                    | map es clock => exact hxw
                    | siter s pos => exact hxw
                    | miter m since seen stepped => exact hxw
                    | loop st pend fn tm nt params assign body d => exact hxw
                    | dfr b => exact hxw
              · obtain ⟨c1, g1, gen1, ext1, frz1, e1, wh1, sg1, c2, gen2, ext2, frz2, e2, wh2, sg2, r1, r2⟩ := h.sep j l βj βl hj hlj hn hbb
                by_cases ej : j = i
                · subst ej
                  rw [ho] at r1
                  cases r1
                  exact ⟨_, _, _, _, _, _, _, _, _, _, _, _, _, _, _, by rw [hget, if_pos rfl], by rw [hget, if_neg (Ne.symm hn)]; exact r2⟩
                · by_cases el : l = i
                  · subst el
                    rw [ho] at r2
                    cases r2
                    exact ⟨_, _, _, _, _, _, _, _, _, _, _, _, _, _, _, by rw [hget, if_neg ej]; exact r1, by rw [hget, if_pos rfl]⟩
                  · exact ⟨_, _, _, _, _, _, _, _, _, _, _, _, _, _, _, by rw [hget, if_neg ej]; exact r1, by rw [hget, if_neg el]; exact r2⟩
              · rw [hget] at r1 r2
                rw [hg2] at q1 q2
                split at r1
                · rename_i ej
                  subst ej
                  cases r1
                  rw [if_neg (Ne.symm hn)] at r2
                  rw [if_pos rfl] at q2
                  have ha := h.age l βl _ _ _ _ _ _ _ _ hlj r2
                  omega
                · split at r2
                  · rename_i el
                    subst el
                    cases r2
                    rw [if_pos rfl] at q1
                    have ha := h.age j βj _ _ _ _ _ _ _ _ hj r1
                    omega
                  · by_cases hgg : g1 = g
                    · rw [if_pos hgg] at q1
                      have ha := h.age j βj _ _ _ _ _ _ _ _ hj r1
                      rw [hgg] at ha
                      omega
                    · rw [if_neg hgg] at q1 q2
                      exact h.tip j l βj βl c1 g1 gen1 frz1 e1 wh1 sg1 c2 gen2 ext2 frz2 e2 wh2 sg2 hj hlj hn hbb r1 r2 q1 q2
              · rw [hget] at r1
                rw [hg2]
                split at r1
                · cases r1
                  rw [if_pos rfl]
                  exact Nat.le_refl _
                · have ha := h.age j γ _ _ _ _ _ _ _ _ hj r1
                  split
                  · rename_i hgg
                    rw [hgg] at ha
                    omega
                  · exact ha
  | _ => cases hp

end Go.Ev

/-! Operations: what the evaluator says of one, the model does. -/
namespace Go.Ev

/-- One stretch of the run. -/
structure Steps' (C : Ctx) (N : Nat) (ρ : Rho) (H : AH) (w : World) (ρ' : Rho) (H' : AH) (w' : World) : Prop where
  le : ρ.le ρ'
  rel : Rel C N ρ' H' w'
  keeps : Keeps ρ H.ro w w'
  ro : H'.ro = H.ro
  n : H.n ≤ H'.n
  pend : ∀ i, i < H.n → ρ i = none → H'.o.get i = H.o.get i ∧ ρ' i = none
  blks : ∀ i β, ρ' i = some β → ρ i = none → w.heap.size ≤ β.blk ∨ ∃ j γ, H.ro ≤ j ∧ ρ j = some γ ∧ γ.blk = β.blk
  out : w'.os = w.os ∧ w'.output = w.output := by exact ⟨rfl, rfl⟩

theorem Keeps.refl (ρ : Rho) (ro : Nat) (w : World) : Keeps ρ ro w w := ⟨Nat.le_refl _, fun _ _ _ => rfl⟩

theorem Steps'.refl {C : Ctx} {N : Nat} {ρ : Rho} {H : AH} {w : World} (h : Rel C N ρ H w) : Steps' C N ρ H w ρ H w :=
  ⟨Rho.le_refl _, h, Keeps.refl _ _ _, rfl, Nat.le_refl _, fun _ _ h => ⟨rfl, h⟩, fun i β h1 h2 => (by rw [h2] at h1; cases h1), ⟨rfl, rfl⟩⟩

theorem Steps'.trans {C : Ctx} {N : Nat} {ρ ρ1 ρ2 : Rho} {H H1 H2 : AH} {w w1 w2 : World} (a : Steps' C N ρ H w ρ1 H1 w1) (b : Steps' C N ρ1 H1 w1 ρ2 H2 w2) :
    Steps' C N ρ H w ρ2 H2 w2 where
  le := Rho.le_trans a.le b.le
  rel := b.rel
  keeps := ⟨Nat.le_trans a.keeps.1 b.keeps.1, fun x hx hm => by
    rw [b.keeps.2 x (Nat.lt_of_lt_of_le hx a.keeps.1) ?_, a.keeps.2 x hx hm]
    intro i β hi hb
    rw [a.ro]
    cases hr : ρ i with
    | some γ =>
      have := a.le i (by rw [hr]; simp)
      rw [hi, hr] at this
      cases this
      exact hm i _ hr hb
    | none =>
      rcases a.blks i β hi hr with h | ⟨j, γ, h1, h2, h3⟩
      · omega
      · have := hm j γ h2 (h3.trans hb)
        omega⟩
  out := ⟨b.out.1.trans a.out.1, b.out.2.trans a.out.2⟩
  ro := b.ro.trans a.ro
  n := Nat.le_trans a.n b.n
  pend := fun i hi hr => by
    obtain ⟨p1, p2⟩ := a.pend i hi hr
    obtain ⟨q1, q2⟩ := b.pend i (Nat.lt_of_lt_of_le hi a.n) p2
    exact ⟨q1.trans p1, q2⟩
  blks := fun i β hi hr => by
    cases h1 : ρ1 i with
    | some γ =>
      have := b.le i (by rw [h1]; simp)
      rw [hi, h1] at this
      cases this
      exact a.blks i _ h1 hr
    | none =>
      rcases b.blks i β hi h1 with h | ⟨j, γ, g1, g2, g3⟩
      · exact .inl (Nat.le_trans a.keeps.1 h)
      · rw [a.ro] at g1
        cases h2 : ρ j with
        | some δ =>
          have := a.le j (by rw [h2]; simp)
          rw [g2, h2] at this
          cases this
          exact .inr ⟨j, _, g1, h2, g3⟩
        | none =>
          rcases a.blks j γ g2 h2 with h | ⟨k, δ, k1, k2, k3⟩
          · rw [g3] at h
            exact .inl h
          · exact .inr ⟨k, δ, k1, k2, k3.trans g3⟩

/-- A world that only has drawn, or made blocks that nobody names. -/
theorem Steps'.world {C : Ctx} {N : Nat} {ρ : Rho} {H : AH} {w w' : World} (h : Rel C N ρ H w) (hs : w.heap.size ≤ w'.heap.size) (hk : ∀ b, b < w.heap.size → w'.heap[b]? = w.heap[b]?) (hout : w'.os = w.os ∧ w'.output = w.output := by exact ⟨rfl, rfl⟩) :
    Steps' C N ρ H w ρ H w' :=
  ⟨Rho.le_refl _, h.world hs hk, ⟨hs, fun b hb _ => hk b hb⟩, rfl, Nat.le_refl _, fun _ _ h => ⟨rfl, h⟩, fun i β h1 h2 => (by rw [h2] at h1; cases h1), hout⟩

/-- An object made and laid at once. -/
theorem Steps'.alloc {C : Ctx} {N : Nat} {ρ : Rho} {H : AH} {w : World} (h : Rel C N ρ H w) {o : AObj} {ob : Obj} {β : Base} (hb : β.blk = w.heap.size)
    (hage : ∀ c g gen ext frz e wh sg, o = .row c g gen true ext frz e wh sg → gen ≤ H.gen g)
    (hok : ObjOk C (ρ.put H.n β) (H.new o) β (w.alloc ob) o) : Steps' C N ρ H w (ρ.put H.n β) (H.new o) (w.alloc ob) where
  le := Rho.le_put h.none_n
  rel := (h.pend o).map h.none_n (by simp [AH.new]) (by simp [AH.new, Tr.get_set]) hb hage hok
  keeps := ⟨by simp, fun b hb _ => alloc_lt hb⟩
  ro := rfl
  n := by simp [AH.new]
  pend := fun i hi hr => ⟨by simp only [AH.new, Tr.get_set]; rw [if_neg (by omega)], by simp only [Rho.put]; rw [if_neg (by omega)]; exact hr⟩
  blks := fun i γ hi hr => by
    simp only [Rho.put] at hi
    split at hi
    · cases hi
      exact .inl (by omega)
    · rw [hr] at hi
      cases hi

/-- Cells of a row written. -/
theorem Steps'.put {P : Program} {C : Ctx} {N : Nat} {ρ : Rho} {H H' : AH} {w : World} (h : Rel C N ρ H w) {i k : Nat} {vs : List AV} {β : Base} (hp : H.put i k vs = some H') (hi : ρ i = some β)
    (hvs : ∀ v ∈ vs, v.Ok ρ) (hcell : ∀ v ∈ vs, v.isCell = true) :
    ∃ w', (storeCells ⟨β.blk, β.off + k, none⟩ (vs.map (AV.conc ρ))).run P w = .ok () w' ∧ Steps' C N ρ H w ρ H' w' := by
  obtain ⟨w', h0, h1, h2, h3, h4, h5, h6, h7⟩ := h.put (P := P) hp hi hvs hcell
  refine ⟨w', h1, Rho.le_refl _, h2, ⟨by omega, fun b hb hm => h7 b ?_⟩, h4, by omega, fun j hj hr => ⟨?_, hr⟩, fun j γ h1 h2 => (by rw [h2] at h1; cases h1), h0⟩
  · rintro rfl
    have := hm i β hi rfl
    omega
  · -- 'put' turns the one object
    unfold AH.put at hp
    split at hp
    · split at hp
      · cases hp
      · split at hp
        · cases hp
        · split at hp
          · cases hp
          · split at hp
            · cases hp
              simp only [AH.setObj, Tr.get_set]
              rw [if_neg]
              rintro rfl
              rw [hi] at hr
              cases hr
            · cases hp
              simp only [Tr.get_set]
              rw [if_neg]
              rintro rfl
              rw [hi] at hr
              cases hr
    · cases hp

/-! ### Types -/

theorem ofScalar_conc (ρ : Rho) (v : Value) : (AV.ofScalar v).conc ρ = v := by
  cases v <;> simp [AV.ofScalar, AV.conc]
theorem ofScalar_ok (ρ : Rho) (v : Value) : (AV.ofScalar v).Ok ρ := by
  cases v <;> simp [AV.ofScalar, AV.Ok]
theorem ofScalars_conc (ρ : Rho) (l : List Value) : (l.map AV.ofScalar).map (AV.conc ρ) = l := by
  rw [List.map_map]
  conv => rhs; rw [← List.map_id l]
  apply List.map_congr_left
  intro v _
  exact ofScalar_conc ρ v
theorem ofValue_conc (ρ : Rho) (v : Value) : (AV.ofValue v).conc ρ = v := by
  cases v <;> simp [AV.ofValue, AV.conc, concs_eq, ofScalars_conc]
  all_goals
    apply Array.ext_getElem?
    intro i
    simp [ofScalar_conc, Function.comp_def]
theorem ofValue_ok (ρ : Rho) (v : Value) : (AV.ofValue v).Ok ρ := by
  cases v <;> simp [AV.ofValue, AV.Ok, oks_iff, ofScalar_ok]

structure TiOk (P : Program) (t : TypeId) (ti : TI) : Prop where
  under : P.underlying t = some ti.d
  info : ∃ i z, P.info? t = some i ∧ i.size = ti.size ∧ i.bytes = ti.bytes ∧ i.zero = some z ∧ ti.zero = z.cells.toList.map AV.ofScalar ∧ ti.zv = AV.ofValue z
  agg : ti.agg = TypeDesc.isAgg ti.d

theorem tiOf_ok {P : Program} {t : TypeId} {ti : TI} (h : tiOf P t = some ti) : TiOk P t ti := by
  unfold tiOf at h
  cases h1 : P.info? t with
  | none => rw [h1] at h; cases h
  | some i =>
    rw [h1] at h
    simp only at h
    cases h2 : P.underlying t with
    | none => rw [h2] at h; cases h
    | some d =>
      rw [h2] at h
      simp only at h
      cases h3 : i.zero with
      | none => rw [h3] at h; cases h
      | some z =>
        rw [h3] at h
        cases h
        exact ⟨h2, ⟨i, z, h1, rfl, rfl, h3, rfl, rfl⟩, rfl⟩

section
variable {P : Program} {w : World} {t : TypeId} {ti : TI}
theorem run_under {d : TypeDesc} (h : P.underlying t = some d) : (underlying t).run P w = .ok d w := by simp [underlying, h]
theorem TiOk.run_info (h : TiOk P t ti) : ∃ i, (typeInfo t).run P w = .ok i w ∧ i.size = ti.size ∧ i.bytes = ti.bytes := by
  obtain ⟨i, z, h1, h2, h3, _⟩ := h.info
  exact ⟨i, by simp [typeInfo, h1], h2, h3⟩
theorem TiOk.run_size (h : TiOk P t ti) : (sizeOf t).run P w = .ok ti.size w := by
  obtain ⟨i, h1, h2, _⟩ := h.run_info (w := w)
  simp [sizeOf, h1, h2]
theorem TiOk.run_agg (h : TiOk P t ti) : (isAgg t).run P w = .ok ti.agg w := by
  simp only [isAgg, Sem.run_bind, run_under h.under, Result.andThen_ok, h.agg]
  cases ti.d <;> rfl
theorem TiOk.run_zero (h : TiOk P t ti) : ∃ z, (zeroValue t).run P w = .ok z w ∧ (∀ ρ, z.cells = (ti.zero.map (AV.conc ρ)).toArray) ∧ (∀ ρ, ti.zv.conc ρ = z ∧ ti.zv.Ok ρ) ∧ ∀ ρ, ∀ x ∈ ti.zero, x.Ok ρ := by
  obtain ⟨i, z, h1, _, _, h4, h5, h6⟩ := h.info
  refine ⟨z, by simp [zeroValue, typeInfo, h1, h4], fun ρ => ?_, fun ρ => by rw [h6]; exact ⟨ofValue_conc ρ z, ofValue_ok ρ z⟩, fun ρ x hx => ?_⟩
  · rw [h5, ofScalars_conc]
  · rw [h5] at hx
    obtain ⟨v, _, rfl⟩ := List.mem_map.1 hx
    exact ofScalar_ok ρ v
theorem TiOk.cellsOf (h : TiOk P t ti) : P.cellsOf t = ti.size := by
  obtain ⟨i, z, h1, h2, _⟩ := h.info
  simp [Program.cellsOf, h1, h2]
end

/-! ### Operands -/

theorem undef_conc (ρ : Rho) : AV.undef.conc ρ = undef := by simp [AV.undef, AV.conc, AV.concs, undef]
theorem undef_ok (ρ : Rho) : AV.undef.Ok ρ := by simp [AV.undef, AV.Ok, AV.Oks]

theorem ev_ok {ρ : Rho} {nt : Nat} {tm : Tr AV} {a : Act} (h : TmOk ρ nt tm a.tmps) (x : Operand) : a.eval x = (ev tm x).conc ρ ∧ (ev tm x).Ok ρ := by
  cases x with
  | tmp t =>
    have e : ev tm (.tmp t) = slot tm t := rfl
    rw [e]
    by_cases ht : t < nt
    · obtain ⟨h1, h2⟩ := h.get t ht
      exact ⟨by simp [Act.eval, Array.getD_eq_getD_getElem?, h1], h2⟩
    · have h1 := h.out t (Nat.le_of_not_lt ht)
      have h2 : a.tmps[t]? = none := Array.getElem?_eq_none (by rw [h.size]; exact Nat.le_of_not_lt ht)
      simp [Act.eval, Array.getD_eq_getD_getElem?, h2, slot, h1, undef_conc, undef_ok]
  | const v => exact ⟨(ofValue_conc ρ v).symm, ofValue_ok ρ v⟩
  | global g => simp [Act.eval, ev, AV.conc, AV.Ok]
  | func f => simp [Act.eval, ev, AV.conc, AV.Ok, AV.concs, AV.Oks]

theorem evs_ok {ρ : Rho} {nt : Nat} {tm : Tr AV} {a : Act} (h : TmOk ρ nt tm a.tmps) (xs : Array Operand) :
    xs.map a.eval = ((xs.toList.map (ev tm)).map (AV.conc ρ)).toArray ∧ ∀ v ∈ xs.toList.map (ev tm), v.Ok ρ := by
  constructor
  · rw [List.map_map]
    apply Array.ext_getElem?
    intro i
    simp only [Array.getElem?_map, List.getElem?_toArray, List.getElem?_map, Array.getElem?_toList]
    cases xs[i]? with
    | none => rfl
    | some x => simp [(ev_ok h x).1]
  · intro v hv
    obtain ⟨x, _, rfl⟩ := List.mem_map.1 hv
    exact (ev_ok h x).2

theorem slot_set (tm : Tr AV) (t : Nat) (v : AV) (s : Nat) : slot (tm.set t v) s = if s = t then v else slot tm s := by
  simp only [slot, Tr.get_set]
  by_cases h : s = t <;> simp [h]

theorem putF_ok {ρ : Rho} {nt : Nat} {tm tm' : Tr AV} {a : Act} (h : TmOk ρ nt tm a.tmps) {d : Option Tmp} {v : AV} (hv : v.Ok ρ) (hp : putF nt tm d v = some tm') :
    TmOk ρ nt tm' (a.put d (v.conc ρ)).tmps ∧ (a.put d (v.conc ρ)).defers = a.defers := by
  cases d with
  | none => cases hp; exact ⟨h, rfl⟩
  | some d =>
    simp only [putF] at hp
    cases hd : Nat.blt d nt with
    | false => rw [hd] at hp; cases hp
    | true =>
      rw [hd] at hp
      cases hp
      have hd' : d < nt := by simpa [Nat.blt_eq] using hd
      refine ⟨⟨by simp [Act.put, h.size], fun t ht => ?_, fun t ht => ?_⟩, rfl⟩
      · simp only [Act.put, slot_set, Array.getElem?_setIfInBounds]
        by_cases e : d = t
        · subst e
          simp [h.size, ht, hv]
        · rw [if_neg e, if_neg (Ne.symm e)]
          exact h.get t ht
      · rw [Tr.get_set, if_neg (fun e => by subst e; exact absurd hd' (Nat.not_lt.2 ht))]
        exact h.out t ht

/-! ### The contract of an operation -/

def clos (ρ : Rho) (l : List AV) : Array Value := (l.map (AV.conc ρ)).toArray

/-- What the model does where the evaluator says 'r'. -/
def OpOk (C : Ctx) (N : Nat) (ρ : Rho) (H : AH) (w : World) (s : Sem Next) : OR → Prop
  | .val v H' => ∃ ρ' w', s.run C.P w = .ok (.value (v.conc ρ')) w' ∧ v.Ok ρ' ∧ Steps' C N ρ H w ρ' H' w'
  | .skip H' => ∃ ρ' w', s.run C.P w = .ok .skip w' ∧ Steps' C N ρ H w ρ' H' w'
  | .call (.fn f) args H' => s.run C.P w = .ok (.enter f (clos ρ args)) w ∧ (∀ v ∈ args, v.Ok ρ) ∧ H' = H
  | .call (.yield i) args H' => s.run C.P w = (Instr.yield (ρ.b i).blk (clos ρ args)).run C.P w ∧ ρ i ≠ none ∧ (∀ v ∈ args, v.Ok ρ) ∧ H' = H
  | .defer (.call g args) H' => (∃ as cs, s.run C.P w = .ok (.defer { target := .fn (.func g) cs, args := as }) w ∧ as ++ cs = clos ρ args) ∧ (∀ v ∈ args, v.Ok ρ) ∧ H' = H
  | .defer (.coll _) _ => False
  | .pan v H' => s.run C.P w = .halt (.panic (v.conc ρ)) w ∧ v.Ok ρ ∧ H' = H

/-- A value that only is computed. -/
theorem OpOk.pure {C : Ctx} {N : Nat} {ρ : Rho} {H : AH} {w : World} {s : Sem Next} {v : AV} (h : Rel C N ρ H w) (hr : s.run C.P w = .ok (.value (v.conc ρ)) w) (hv : v.Ok ρ) :
    OpOk C N ρ H w s (.val v H) := ⟨ρ, w, hr, hv, Steps'.refl h⟩

end Go.Ev
