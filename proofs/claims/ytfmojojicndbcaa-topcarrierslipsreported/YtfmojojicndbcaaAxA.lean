/-
  The abstract executor: values, codes and what a run of a code gives. Plain definitions; nothing is claimed here.
-/
import GoSem.Step
namespace Go.Ax

/-- What is known of a slice's capacity, and the right to append. -/
inductive Own where
  | nilS
  | any
  | full
  | tok (d g : Nat)

def Own.isNil : Own → Bool
  | .nilS => true
  | _ => false

/-- Values without addresses; slices are their elements. -/
inductive AV where
  | v (x : Value)
  | slice (o : Own) (es : Nat) (xs : List (List AV))
  | ptr (d b off : Nat)
  | eptr (cs : List AV) (off : Nat)
  | rsl (d b off es n cap : Nat)
  | fn (f : FuncId) (first caps : List AV)
  | yield (l : Nat)
  | iface (t : TypeId) (x : AV)
  | agg (cs : List AV)
  | tuple (vs : List AV)

abbrev AV.int (n : Int) : AV := .v (.int .i64 n)
abbrev AV.bool (b : Bool) : AV := .v (.bool b)
abbrev AV.undef : AV := .v Go.undef

def AV.cells : AV → List AV
  | .agg cs => cs
  | x => [x]

/-- One cell's value. -/
def AV.isCell : AV → Bool
  | .agg _ | .tuple _ => false
  | .v (.agg _) | .v (.tuple _) => false
  | _ => true

/-- What depends on no activation. -/
def AV.isClosed1 : AV → Bool
  | .v x => match x with | .agg _ | .tuple _ => false | _ => true
  | .eptr _ _ => true
  | .slice o _ _ => match o with | .nilS | .any | .full => true | _ => false
  | _ => false

def AV.isClosedV : AV → Bool
  | .agg cs => cs.all AV.isClosed1
  | x => x.isClosed1

def AV.isClosed : AV → Bool
  | .iface _ x => x.isClosedV
  | .fn _ first caps => first.all AV.isClosedV && caps.all AV.isClosed1
  | x => x.isClosed1

/-- The cell without its rights to append; none: it leads to an activation's own memory. -/
def AV.close : AV → Option AV
  | .slice (.tok _ _) es xs => some (.slice .any es xs)
  | x => if x.isClosed then some x else none

def closeAll : List AV → Option (List AV)
  | [] => some []
  | x :: r => match x.close, closeAll r with
    | some y, some s => some (y :: s)
    | _, _ => none

inductive AOpd where
  | tmp (t : Nat)
  | const (c : AV)

inductive SlKind where
  | str
  | sl (es : Nat)
  | arr (n es : Nat)

inductive PK where
  | int
  | bool
  | str

inductive EqKind where
  | bool
  | agg (ks : List PK)
  | ptr
  | iface
  | slice
  | func

inductive ConvKind where
  | int (k : IntKind)
  | same
  | bytes
  | text

inductive AOp where
  | move (x : AOpd)
  | pick (c a b : AOpd)
  | alloc (zs : List AV)
  | box (n : Nat) (x : AOpd)
  | build (zs : List AV) (parts : List (Nat × Nat × AOpd))
  | buildSlice (es : Nat) (rows : List (List AV)) (parts : List (Nat × AOpd))
  | load (agg : Bool) (n : Nat) (x : AOpd)
  | store (n : Nat) (x y : AOpd)
  | nilCheck (x : AOpd)
  | arith (op : BinOp) (x y : AOpd)
  | eqv (neg : Bool) (k : EqKind) (x y : AOpd)
  | un (op : UnOp) (x : AOpd)
  | conv (k : ConvKind) (x : AOpd)
  | mkIface (t : TypeId) (x : AOpd)
  | mkFn (f : FuncId) (first caps : List AOpd)
  | mkSlice (es : Nat) (zs : List AV) (len cap : AOpd)
  | slice (k : SlKind) (x : AOpd) (lo hi mx : Option AOpd)
  | fieldAddr (off : Nat) (x : AOpd)
  | indexAddr (arr : Option Nat) (es : Nat) (x i : AOpd)
  | indexStr (x i : AOpd)
  | index (n es : Nat) (agg : Bool) (x i : AOpd)
  | field (agg : Bool) (n off : Nat) (x : AOpd)
  | extract (i : Nat) (x : AOpd)
  | call (ro : Bool) (f : FuncId) (args : List AOpd)
  | callv (ro : Bool) (x : AOpd) (args : List AOpd)
  | append (es : Nat) (x y : AOpd)
  | len (str : Bool) (x : AOpd)
  | lenArr (n : Nat)
  | minmax (mx : Bool) (xs : List AOpd)

structure AOper where
  dst : Option Nat
  guard : Option (Nat × Bool)
  op : AOp

inductive AExit where
  | normal
  | exit (id : Nat)
  | ret

inductive ACode where
  | skip
  | region (drawn : Bool) (ops : List AOper)
  | seq (a b : ACode)
  | cond (c : AOpd) (a b : ACode)
  | block (id : Nat) (a : ACode)
  | loop (a : ACode)
  | rangeFunc (f : AOpd) (params : List Nat) (assign body : ACode)
  | exit (id : Nat)
  | ret

/-- An activation's memory: its boxes, and how far each slice that it may append to has grown. -/
structure Rec where
  boxes : List (List AV)
  toks : List (Option Nat)

structure ALoop where
  ready : Bool
  pend : Option AExit
  tmps : Nat → AV
  params : List Nat
  assign : ACode
  body : ACode

structure Sig where
  acts : List Rec
  loops : List ALoop
  ro : Nat
  lro : Nat

structure St where
  tmps : Nat → AV
  sig : Sig

inductive Target where
  | fn (f : FuncId)
  | yield (l : Nat)

abbrev CallF := Target → List AV → Sig → Option (AV × Sig)

inductive ARes where
  | tmp (t : Nat)
  | cell (agg : Bool) (n : Nat) (t : Nat)

inductive AFn where
  | code (np ntmps : Nat) (body : ACode) (results : List ARes) (own : Bool)
  | prim (F : List AV → Option AV)

/-! ### Memory -/

def Sig.push (s : Sig) (r : Rec) : Sig := { s with acts := s.acts ++ [r] }
def Sig.pop (s : Sig) : Sig := { s with acts := s.acts.dropLast }
/-- The present activation. -/
def Sig.cur (s : Sig) : Nat := s.acts.length - 1

def Sig.box (s : Sig) (d b : Nat) : Option (List AV) := (s.acts[d]?).bind (·.boxes[b]?)
def Sig.tok (s : Sig) (d g : Nat) : Option Nat := ((s.acts[d]?).bind (·.toks[g]?)).join
def Sig.ntok (s : Sig) (d : Nat) : Nat := match s.acts[d]? with | some r => r.toks.length | none => 0
def Sig.nbox (s : Sig) (d : Nat) : Nat := match s.acts[d]? with | some r => r.boxes.length | none => 0
def Sig.onRec (s : Sig) (d : Nat) (f : Rec → Rec) : Sig := { s with acts := s.acts.modify d f }
def Sig.setBox (s : Sig) (d b : Nat) (cs : List AV) : Sig := s.onRec d fun r => { r with boxes := r.boxes.set b cs }
def Sig.setTok (s : Sig) (d g : Nat) (n : Option Nat) : Sig := s.onRec d fun r => { r with toks := r.toks.set g n }
def Sig.addTok (s : Sig) (d n : Nat) : Sig := s.onRec d fun r => { r with toks := r.toks ++ [some n] }
def Sig.addBox (s : Sig) (d : Nat) (cs : List AV) : Sig := s.onRec d fun r => { r with boxes := r.boxes ++ [cs] }

/-- The row of cells that a pointer leads into, and where. -/
def Sig.row (m : Sig) : AV → Option (List AV × Nat)
  | .ptr d b off => (m.box d b).map fun cs => (cs, off)
  | .eptr cs off => some (cs, off)
  | _ => none

def part (agg : Bool) (n : Nat) (cs : List AV) (off : Nat) : Option AV :=
  if agg then (if off + n ≤ cs.length then some (.agg ((cs.drop off).take n)) else none) else cs[off]?

def Sig.load (m : Sig) (agg : Bool) (n : Nat) (x : AV) : Option AV :=
  (m.row x).bind fun (cs, off) => part agg n cs off

def setCells (cs : List AV) (off : Nat) : List AV → List AV
  | [] => cs
  | x :: r => setCells (cs.set off x) (off + 1) r

/-- May the value lie in a box of activation d (not the present one)? With what it becomes there. -/
def Sig.fit (m : Sig) (d : Nat) : AV → Option (AV × Sig)
  | .slice (.tok d' g) es xs =>
    if d' ≤ d then some (.slice (.tok d' g) es xs, m)
    else if d' = m.cur ∧ m.tok d' g = some xs.length then
      some (.slice (.tok d (m.ntok d)) es xs, (m.setTok d' g none).addTok d xs.length)
    else some (.slice .any es xs, m)
  | .ptr d' b off => if d' ≤ d then some (.ptr d' b off, m) else none
  | .rsl d' b off es n cap => if d' ≤ d then some (.rsl d' b off es n cap, m) else none
  | x => x.close.map (·, m)

def Sig.fitAll (m : Sig) (d : Nat) : List AV → Option (List AV × Sig)
  | [] => some ([], m)
  | x :: r => match m.fit d x with
    | none => none
    | some (y, m1) => match m1.fitAll d r with
      | none => none
      | some (s, m2) => some (y :: s, m2)

def Sig.store (m : Sig) (n : Nat) (x y : AV) : Option Sig :=
  match x with
  | .ptr d b off =>
    if m.ro ≤ d ∧ y.cells.length = n ∧ y.cells.all AV.isCell = true then
      match (if d = m.cur then some (y.cells, m) else m.fitAll d y.cells) with
      | none => none
      | some (cs, m1) => match m1.box d b with
        | none => none
        | some row => if off + n ≤ row.length then some (m1.setBox d b (setCells row off cs)) else none
    else none
  | _ => none

def Sig.newBox (m : Sig) (cs : List AV) : AV × Sig := (.ptr m.cur (m.nbox m.cur) 0, m.addBox m.cur cs)

/-! ### Operations on values -/

def intOp (op : BinOp) (k : IntKind) (x y : Int) : Option Value :=
  match op with
  | .add => some (.int k (k.wrap (x + y)))
  | .sub => some (.int k (k.wrap (x - y)))
  | .mul => some (.int k (k.wrap (x * y)))
  | .quo => if y = 0 then none else some (.int k (k.wrap (x.tdiv y)))
  | .rem => if y = 0 then none else some (.int k (x.tmod y))
  | .and => some (.int k (k.wrap (BitVec.ofInt k.bits x &&& BitVec.ofInt k.bits y).toNat))
  | .or => some (.int k (k.wrap (BitVec.ofInt k.bits x ||| BitVec.ofInt k.bits y).toNat))
  | .xor => some (.int k (k.wrap (BitVec.ofInt k.bits x ^^^ BitVec.ofInt k.bits y).toNat))
  | .andNot => some (.int k (k.wrap (BitVec.ofInt k.bits x &&& ~~~(BitVec.ofInt k.bits y)).toNat))
  | .eql => some (.bool (x == y))
  | .neq => some (.bool (x != y))
  | .lss => some (.bool (x < y))
  | .leq => some (.bool (x ≤ y))
  | .gtr => some (.bool (x > y))
  | .geq => some (.bool (x ≥ y))
  | _ => none

def shiftOp (op : BinOp) (k : IntKind) (x y : Int) : Option Value :=
  if y < 0 then none else
  match op with
  | .shl => some (.int k (k.wrap (x * 2 ^ min y.toNat k.bits)))
  | .shr => some (.int k (x.fdiv (2 ^ min y.toNat k.bits)))
  | _ => none

def strOp (op : BinOp) (x y : ByteArray) : Option Value :=
  match op with
  | .add => if ((x.size + y.size : Nat) : Int) > IntKind.i64.max then none else some (.string (x ++ y))
  | .eql => some (.bool (x.data.toList == y.data.toList))
  | .neq => some (.bool !(x.data.toList == y.data.toList))
  | .lss => some (.bool (Op.bytesLess x.data.toList y.data.toList))
  | .leq => some (.bool (Op.bytesLess x.data.toList y.data.toList || x.data.toList == y.data.toList))
  | .gtr => some (.bool !(Op.bytesLess x.data.toList y.data.toList || x.data.toList == y.data.toList))
  | .geq => some (.bool !(Op.bytesLess x.data.toList y.data.toList))
  | _ => none

def isShift : BinOp → Bool
  | .shl | .shr => true
  | _ => false

def arithOp (op : BinOp) : AV → AV → Option AV
  | .v (.int k a), .v (.int k' b) =>
    if isShift op then (shiftOp op k a b).map .v else if k = k' then (intOp op k a b).map .v else none
  | .v (.string a), .v (.string b) => (strOp op a b).map .v
  | _, _ => none

def eqPlain : PK → AV → AV → Option Bool
  | .int, .v (.int k a), .v (.int k' b) => if k = k' then some (a == b) else none
  | .bool, .v (.bool a), .v (.bool b) => some (a == b)
  | .str, .v (.string a), .v (.string b) => some (a.data.toList == b.data.toList)
  | _, _, _ => none

def eqCells : List PK → List AV → List AV → Option Bool
  | [], [], [] => some true
  | k :: ks, x :: r, y :: s => match eqPlain k x y with
    | some true => eqCells ks r s
    | some false => some false
    | none => none
  | _, _, _ => none

def isNilS : AV → Option Bool
  | .slice .nilS _ _ => some true
  | .slice _ _ _ => some false
  | .rsl .. => some false
  | _ => none

def isNilP : AV → Option Bool
  | .v (.pointer none) => some true
  | .ptr .. => some false
  | .eptr .. => some false
  | _ => none

def isNilI : AV → Option Bool
  | .v .nilIface => some true
  | .iface .. => some false
  | _ => none

def isNilF : AV → Option Bool
  | .v .nilFunc => some true
  | .fn .. => some false
  | .yield .. => some false
  | _ => none

/-- one of the two is nil -/
def eqNil (f : AV → Option Bool) (x y : AV) : Option Bool :=
  match f x, f y with
  | some true, some b => some b
  | some b, some true => some b
  | _, _ => none

def eqOp (k : EqKind) (x y : AV) : Option Bool :=
  match k with
  | .bool => match x, y with
    | .v (.bool a), .v (.bool b) => some (a == b)
    | _, _ => none
  | .agg ks => match x, y with
    | .agg a, .agg b => eqCells ks a b
    | _, _ => none
  | .ptr => eqNil isNilP x y
  | .iface => eqNil isNilI x y
  | .slice => eqNil isNilS x y
  | .func => eqNil isNilF x y

def unOp (op : UnOp) : AV → Option AV
  | .v (.bool b) => match op with | .not => some (.v (.bool !b)) | _ => none
  | .v (.int k n) => match op with | .neg => some (.v (.int k (k.wrap (0 - n)))) | _ => none
  | _ => none

def byteCells (s : ByteArray) : List (List AV) := s.data.toList.map fun b => [.v (.int .u8 b.toNat)]

def byteOf : List AV → Option UInt8
  | [.v (.int .u8 n)] => if 0 ≤ n ∧ n < 256 then some (UInt8.ofNat n.toNat) else none
  | _ => none

def bytesOf : List (List AV) → Option (List UInt8)
  | [] => some []
  | x :: r => match byteOf x, bytesOf r with
    | some b, some s => some (b :: s)
    | _, _ => none

def convOp (k : ConvKind) : AV → Option AV
  | .v (.int _ n) => match k with | .int k' => some (.v (.int k' (k'.wrap n))) | _ => none
  | .v (.string s) => match k with
    | .same => some (.v (.string s))
    | .bytes => some (.slice .any 1 (byteCells s))
    | _ => none
  | .slice _ _ xs => match k with
    | .text => (bytesOf xs).map fun l => .v (.string ⟨l.toArray⟩)
    | _ => none
  | _ => none

def asNat (x : AV) (most : Nat) : Option Nat :=
  match x with
  | .v (.int _ n) => if 0 ≤ n ∧ n ≤ most then some n.toNat else none
  | _ => none

/-- a row of cells cut into n elements of es cells -/
def chunks (es : Nat) : Nat → List AV → List (List AV)
  | 0, _ => []
  | n + 1, cs => cs.take es :: chunks es n (cs.drop es)

def sliceOwn (o : Own) (whole : Bool) : Own :=
  match o with
  | .nilS => .nilS
  | .tok d g => if whole then .tok d g else .any
  | .full => .any
  | _ => .any

/-- The bounds of a part. -/
def loOf (lo : Option AV) (h : Nat) : Option Nat :=
  match lo with
  | some l => asNat l h
  | none => some 0

def hiOf (hi : Option AV) (full : Bool) (m len : Nat) : Option Nat :=
  match hi with
  | some h => asNat h m
  | none => if full then none else some len

def mxOf (mx : Option AV) (cap : Nat) : Option Nat :=
  match mx with
  | some m => asNat m cap
  | none => some cap

def slOwn (o : Own) (full whole all : Bool) : Own :=
  if full then (if o.isNil then .nilS else if all then .full else .any) else sliceOwn o whole

def sliceOp (k : SlKind) (x : AV) (lo hi mx : Option AV) : Option AV :=
  match k, x with
  | .str, .v (.string s) =>
    if mx.isSome then none else
    (hiOf hi false s.size s.size).bind fun h => (loOf lo h).map fun l => .v (.string (s.extract l h))
  | .sl e0, .slice o es xs =>
    if o.isNil = true ∨ es = e0 then
      (mxOf mx xs.length).bind fun m => (hiOf hi mx.isSome m xs.length).bind fun h => (loOf lo h).map fun l =>
        .slice (slOwn o mx.isSome (l == 0 && h == xs.length) (h == m && 0 < m)) es ((xs.take h).drop l)
    else none
  | .sl e0, .rsl d b off es n cap =>
    if es = e0 then
      (mxOf mx cap).bind fun m => (hiOf hi mx.isSome m n).bind fun h => (loOf lo h).map fun l =>
        .rsl d b (if m = l then off else off + l * es) es (h - l) (m - l)
    else none
  | .arr n es, .ptr d b off =>
    if mx.isSome then none else
    (hiOf hi false n n).bind fun h => (loOf lo h).map fun l => .rsl d b (if n = l then off else off + l * es) es (h - l) (n - l)
  | .arr n es, .eptr cs off =>
    if mx.isSome then none else
    (hiOf hi false n n).bind fun h => (loOf lo h).bind fun l =>
      if off + n * es ≤ cs.length then some (.slice .any es (chunks es (h - l) (cs.drop (off + l * es)))) else none
  | _, _ => none

def idx (x : AV) (len : Nat) : Option Nat :=
  match x with
  | .v (.int _ n) => if 0 ≤ n ∧ n < len then some n.toNat else none
  | _ => none

def indexAddrOp (arr : Option Nat) (es : Nat) (x i : AV) : Option AV :=
  match arr, x with
  | none, .slice _ e1 xs => if e1 = es then (idx i xs.length).bind fun j => (xs[j]?).map fun r => .eptr r 0 else none
  | none, .rsl d b off e1 n _ => if e1 = es then (idx i n).map fun j => .ptr d b (off + j * es) else none
  | some n, .ptr d b off => (idx i n).map fun j => .ptr d b (off + j * es)
  | some n, .eptr cs off => (idx i n).map fun j => .eptr cs (off + j * es)
  | _, _ => none

def fillRow (cs : List AV) (off size : Nat) (x : AV) : Option (List AV) :=
  if x.cells.length = size ∧ off + size ≤ cs.length ∧ x.cells.all AV.isCell = true then some (setCells cs off x.cells) else none

def maxOp (mx : Bool) : AV → AV → Option AV
  | .v (.int k x), .v (.int k' y) => if k = k' then some (.v (.int k (if mx then (if y > x then y else x) else (if y < x then y else x)))) else none
  | _, _ => none

def maxFold (mx : Bool) (x : AV) : List AV → Option AV
  | [] => some x
  | y :: r => match maxOp mx x y with
    | some z => maxFold mx z r
    | none => none

/-- the most elements that an append may lead to -/
def most : Nat := 4294967296

def appendOp (m : Sig) (es : Nat) (x y : AV) : Option (AV × Sig) :=
  match x, y with
  | .slice o e1 xs, .slice _ e2 ys =>
    if ys.isEmpty then some (x, m) else
    if e2 = es ∧ (o.isNil = true ∨ e1 = es) ∧ xs.length + ys.length ≤ most then
      match o with
      | .nilS | .full => some (.slice (.tok m.cur (m.ntok m.cur)) es (xs ++ ys), m.addTok m.cur (xs.length + ys.length))
      | .tok d g => if m.ro ≤ d ∧ m.tok d g = some xs.length then some (.slice (.tok d g) es (xs ++ ys), m.setTok d g (some (xs.length + ys.length))) else none
      | _ => none
    else none
  | _, _ => none

def evalOpt (ρ : AOpd → AV) : Option AOpd → Option AV
  | none => none
  | some x => some (ρ x)

def doCall (call : CallF) (ro : Bool) (m : Sig) (t : Target) (args : List AV) : Option (AV × Sig) :=
  if ro then (call t args { m with ro := m.acts.length, lro := m.loops.length }).map fun p => (p.1, m)
  else call t args m

def buildRows (rows : List (List AV)) (ρ : AOpd → AV) : List (Nat × AOpd) → Option (List (List AV))
  | [] => some rows
  | (i, x) :: r => match rows[i]?, closeAll (ρ x).cells with
    | some row, some cs => if cs.length = row.length then buildRows (rows.set i cs) ρ r else none
    | _, _ => none

def buildCells (cs : List AV) (ρ : AOpd → AV) : List (Nat × Nat × AOpd) → Option (List AV)
  | [] => some cs
  | (off, size, x) :: r => match fillRow cs off size (ρ x) with
    | some cs' => buildCells cs' ρ r
    | none => none

def ptrAdd (off : Nat) : AV → Option AV
  | .ptr d b o => some (.ptr d b (o + off))
  | .eptr cs o => some (.eptr cs (o + off))
  | _ => none

def nilCheckOp : AV → Option AV
  | .ptr d b off => some (.ptr d b off)
  | .eptr cs off => some (.eptr cs off)
  | .fn f a b => some (.fn f a b)
  | .yield l => some (.yield l)
  | .iface t x => some (.iface t x)
  | _ => none

def indexStrOp : AV → AV → Option AV
  | .v (.string s), j => (idx j s.size).bind fun k => (s[k]?).map fun b => .v (.int .u8 b.toNat)
  | _, _ => none

def indexOp (n es : Nat) (agg : Bool) : AV → AV → Option AV
  | .agg cs, j => (idx j n).bind fun k => part agg es cs (k * es)
  | _, _ => none

def fieldOp (agg : Bool) (n off : Nat) : AV → Option AV
  | .agg cs => part agg n cs off
  | _ => none

def extractOp (i : Nat) : AV → Option AV
  | .tuple vs => vs[i]?
  | _ => none

def lenOp (str : Bool) : AV → Option AV
  | .slice _ _ xs => if str then none else some (AV.int xs.length)
  | .rsl _ _ _ _ n _ => if str then none else some (AV.int n)
  | .v (.string s) => if str then some (AV.int s.size) else none
  | _ => none

def pickOp (c a b : AV) : Option AV :=
  match c with
  | .v (.bool t) => some (if t then a else b)
  | _ => none

def ifaceOp (t : TypeId) (x : AV) : Option AV :=
  match x with
  | .agg cs => (closeAll cs).map fun cs' => .iface t (.agg cs')
  | x => if x.isClosed1 then some (.iface t x) else none

def boxOp (m : Sig) (n : Nat) (y : AV) : Option (AV × Sig) :=
  if y.cells.length = n ∧ y.cells.all AV.isCell = true then some (m.newBox y.cells) else none

def mkSliceOp (m : Sig) (es : Nat) (zs : List AV) (l c : AV) : Option (AV × Sig) :=
  (asNat c most).bind fun cn => (asNat l cn).map fun ln => (.rsl m.cur (m.nbox m.cur) 0 es ln cn, (m.newBox (List.replicate cn zs).flatten).2)

def minmaxOp (mx : Bool) : List AV → Option AV
  | x :: r => maxFold mx x r
  | [] => none

def callvOp (call : CallF) (ro : Bool) (m : Sig) (x : AV) (args : List AV) : Option (AV × Sig) :=
  match x with
  | .fn f first caps => doCall call ro m (.fn f) (first ++ args ++ caps)
  | .yield l => doCall call ro m (.yield l) args
  | _ => none

/-- What an operation gives: its value, and the memory behind it. -/
def opv (call : CallF) (ρ : AOpd → AV) (m : Sig) : AOp → Option (AV × Sig)
  | .move x => some (ρ x, m)
  | .pick c a b => (pickOp (ρ c) (ρ a) (ρ b)).map (·, m)
  | .alloc zs => some (m.newBox zs)
  | .box n x => boxOp m n (ρ x)
  | .build zs parts => (buildCells zs ρ parts).map fun cs => (.agg cs, m)
  | .buildSlice es rows parts => (buildRows rows ρ parts).map fun rs => (.slice .full es rs, m)
  | .load agg n x => (m.load agg n (ρ x)).map (·, m)
  | .store n x y => (m.store n (ρ x) (ρ y)).map (AV.undef, ·)
  | .nilCheck x => (nilCheckOp (ρ x)).map (·, m)
  | .arith op x y => (arithOp op (ρ x) (ρ y)).map (·, m)
  | .eqv neg k x y => (eqOp k (ρ x) (ρ y)).map fun t => (.v (.bool (if neg then !t else t)), m)
  | .un op x => (unOp op (ρ x)).map (·, m)
  | .conv k x => (convOp k (ρ x)).map (·, m)
  | .mkIface t x => (ifaceOp t (ρ x)).map (·, m)
  | .mkFn f first caps => if (first.map ρ).all AV.isClosedV then some (.fn f (first.map ρ) (caps.map ρ), m) else none
  | .mkSlice es zs len cap => mkSliceOp m es zs (ρ len) (ρ cap)
  | .slice k x lo hi mx => (sliceOp k (ρ x) (evalOpt ρ lo) (evalOpt ρ hi) (evalOpt ρ mx)).map (·, m)
  | .fieldAddr off x => (ptrAdd off (ρ x)).map (·, m)
  | .indexAddr arr es x i => (indexAddrOp arr es (ρ x) (ρ i)).map (·, m)
  | .indexStr x i => (indexStrOp (ρ x) (ρ i)).map (·, m)
  | .index n es agg x i => (indexOp n es agg (ρ x) (ρ i)).map (·, m)
  | .field agg n off x => (fieldOp agg n off (ρ x)).map (·, m)
  | .extract i x => (extractOp i (ρ x)).map (·, m)
  | .call ro f args => doCall call ro m (.fn f) (args.map ρ)
  | .callv ro x args => callvOp call ro m (ρ x) (args.map ρ)
  | .append es x y => appendOp m es (ρ x) (ρ y)
  | .len str x => (lenOp str (ρ x)).map (·, m)
  | .lenArr n => some (AV.int n, m)
  | .minmax mx xs => (minmaxOp mx (xs.map ρ)).map (·, m)

/-! ### Code -/

def evalT (ρ : Nat → AV) : AOpd → AV
  | .tmp t => ρ t
  | .const c => c

def put (t : Nat) (x : AV) (ρ : Nat → AV) : Nat → AV := fun u => if u = t then x else ρ u

def putT (ρ : Nat → AV) (dst : Option Nat) (x : AV) : Nat → AV :=
  match dst with
  | some t => put t x ρ
  | none => ρ

/-- Is the operation carried out? -/
def wantedV (b : Bool) : AV → Bool
  | .v (.bool c) => c == b
  | _ => false

def wantedT (ρ : Nat → AV) : Option (Nat × Bool) → Bool
  | none => true
  | some (t, b) => wantedV b (ρ t)

def ops (call : CallF) : List AOper → St → Option St
  | [], st => some st
  | o :: rest, st =>
    if wantedT st.tmps o.guard then
      match opv call (evalT st.tmps) st.sig o.op with
      | some (x, m) => ops call rest ⟨putT st.tmps o.dst x, m⟩
      | none => none
    else ops call rest ⟨putT st.tmps o.dst AV.undef, st.sig⟩

/-- A body carried out again and again. -/
def loopN (f : St → Option (AExit × St)) : Nat → St → Option (AExit × St)
  | 0, _ => none
  | n + 1, st => match f st with
    | some (.normal, st') => loopN f n st'
    | r => r

def setParams (ρ : Nat → AV) : List Nat → List AV → Nat → AV
  | p :: ps, x :: xs => setParams (put p x ρ) ps xs
  | _, _ => ρ

def argsT : List AV → Nat → AV
  | [], _ => AV.undef
  | x :: _, 0 => x
  | _ :: r, n + 1 => argsT r n

def enterLoop (s : Sig) (l : ALoop) : Sig := { s with loops := s.loops ++ [l] }

def leaveLoop (s : Sig) (l : Nat) : Option (Option AExit × Sig) :=
  if s.loops.length = l + 1 then
    match s.loops[l]? with
    | some lp => if lp.ready ∨ lp.pend.isSome then some (lp.pend, { s with loops := s.loops.take l }) else none
    | none => none
  else none

def exec (call : CallF) (lf : Nat) : ACode → St → Option (AExit × St)
  | .skip, st => some (.normal, st)
  | .region _ l, st => (ops call l st).map (AExit.normal, ·)
  | .seq a b, st => match exec call lf a st with
    | some (.normal, st') => exec call lf b st'
    | r => r
  | .cond c a b, st => match evalT st.tmps c with
    | .v (.bool t) => if t then exec call lf a st else exec call lf b st
    | _ => none
  | .block id a, st => match exec call lf a st with
    | some (.exit j, st') => if j = id then some (.normal, st') else some (.exit j, st')
    | r => r
  | .loop a, st => loopN (exec call lf a) lf st
  | .rangeFunc f ps as body, st =>
    match evalT st.tmps f with
    | .fn g first caps =>
      match call (.fn g) (first ++ .yield st.sig.loops.length :: caps) (enterLoop st.sig ⟨true, none, st.tmps, ps, as, body⟩) with
      | some (_, s) => match leaveLoop s st.sig.loops.length with
        | some (e, s1) => some (e.getD .normal, ⟨st.tmps, s1⟩)
        | none => none
      | none => none
    | _ => none
  | .exit id, st => some (.exit id, st)
  | .ret, st => some (.ret, st)

/-! ### Calls -/

def leaveCaps (m : Sig) : List AV → Option (List AV)
  | [] => some []
  | .ptr d b off :: r => if d = m.cur then
      match (m.box d b).bind closeAll, leaveCaps m r with
      | some cs, some s => some (.eptr cs off :: s)
      | _, _ => none
    else none
  | x :: r => if x.isClosed1 then (leaveCaps m r).map (x :: ·) else none

/-- A cell of a result, as the caller gets it. -/
def leaveCell (m : Sig) : AV → Option AV
  | .slice (.tok _ _) es xs => some (.slice .any es xs)
  | .ptr d b off => if d = m.cur then (m.box d b).bind fun cs => (closeAll cs).map fun cs' => .eptr cs' off else some (.ptr d b off)
  | .rsl d b off es n _ => if d = m.cur then (m.box d b).bind fun cs => if off + n * es ≤ cs.length then (closeAll cs).map fun cs' => .slice .any es (chunks es n (cs'.drop off)) else none else none
  | .fn f first caps => if first.all AV.isClosedV then (leaveCaps m caps).map (.fn f first ·) else none
  | x => x.close

def leaveCells (m : Sig) : List AV → Option (List AV)
  | [] => some []
  | x :: r => match leaveCell m x, leaveCells m r with
    | some y, some s => some (y :: s)
    | _, _ => none

def leaveVal (m : Sig) : AV → Option AV
  | .agg cs => (leaveCells m cs).map .agg
  | x => leaveCell m x

def resultRaw (st : St) : ARes → Option AV
  | .tmp t => some (st.tmps t)
  | .cell agg n t => st.sig.load agg n (st.tmps t)

def resultsOf (st : St) : List ARes → Option (List AV)
  | [] => some []
  | r :: rest => match (resultRaw st r).bind (leaveVal st.sig), resultsOf st rest with
    | some x, some s => some (x :: s)
    | _, _ => none

def packed : List AV → AV
  | [x] => x
  | l => .tuple l

def setLoop (s : Sig) (l : Nat) (f : ALoop → ALoop) : Sig := { s with loops := s.loops.modify l f }

def loopReady (s : Sig) (l : Nat) : Bool := match s.loops[l]? with | some p => p.ready | none => false

/-- The one result of a function that hands on the right to append. -/
def ownResult (m : Sig) : AV → Option (AV × Sig)
  | .slice (.tok d g) es xs =>
    if d = m.cur ∧ 1 ≤ d ∧ m.ro < d ∧ m.tok d g = some xs.length then
      some (.slice (.tok (d - 1) (m.ntok (d - 1))) es xs, m.pop.addTok (d - 1) xs.length)
    else some (.slice .any es xs, m.pop)
  | x => (leaveVal m x).map (·, m.pop)

/-- A function's end. -/
def finish (rs : List ARes) (own : Bool) (st : St) : Option (AV × Sig) :=
  if own then
    match rs with
    | [r] => (resultRaw st r).bind (ownResult st.sig)
    | _ => none
  else (resultsOf st rs).map fun l => (packed l, st.sig.pop)

def callStep (AP : FuncId → Option AFn) (call : CallF) (lf : Nat) : CallF := fun t args s =>
  match t with
  | .fn f => match AP f with
    | some (.code np _ body rs own) =>
      if args.length = np then
        match exec call lf body ⟨argsT args, s.push ⟨[], []⟩⟩ with
        | some (.normal, st) | some (.ret, st) => finish rs own st
        | _ => none
      else none
    | some (.prim F) => (closeAll args).bind fun as => (F as).map (·, s)
    | none => none
  | .yield l => match s.loops[l]? with
    | some lp =>
      if lp.ready = true ∧ s.lro ≤ l ∧ args.length = lp.params.length then
        match exec call lf lp.assign ⟨setParams lp.tmps lp.params args, s.push ⟨[], []⟩⟩ with
        | some (.normal, st) =>
          if loopReady st.sig l = true then
            match exec call lf lp.body ⟨st.tmps, setLoop st.sig l fun p => { p with ready := false }⟩ with
            | some (.normal, st') => some (AV.bool true, (setLoop st'.sig l fun p => { p with ready := true, pend := none }).pop)
            | some (e, st') => some (AV.bool false, (setLoop st'.sig l fun p => { p with ready := false, pend := some e }).pop)
            | none => none
          else none
        | _ => none
      else none
    | none => none

def callN (AP : FuncId → Option AFn) : Nat → CallF
  | 0 => fun _ _ _ => none
  | n + 1 => callStep AP (callN AP n) n

end Go.Ax
