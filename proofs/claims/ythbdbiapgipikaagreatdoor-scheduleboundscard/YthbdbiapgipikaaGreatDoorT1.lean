/-
  The abstract executor: values, codes and what a run of a code gives. Plain definitions; nothing is claimed here.
-/
import GoSem.Step
import Derived.RangeFuncLeaves
import Derived.RangeFuncRecord
import Derived.Below
import Derived.Laws.IdiomCopy
import Derived.Laws.Cells
namespace Go.Ax
inductive Own where
 | nilS
 | any
 | full
 | tok (d g : Nat)
def Own.isNil : Own → Bool
 | .nilS => true
 | _ => false
def Own.isFull : Own → Bool
 | .full => true
 | _ => false
inductive AV where
 | v (x : Value)
 | slice (o : Own) (es : Nat) (xs : List (List AV))
 | ptr (d b off : Nat)
 | eptr (cs : List AV) (off : Nat)
 | rsl (d b off es n cap : Nat)
 | fn (f : FuncId) (first caps : List AV)
 | yield (l : Nat)
 | iface (t : TypeId) (x : AV)
 | agg (cs : List AV)
 | tuple (vs : List AV)
abbrev AV.int (n : Int) : AV := .v (.int .i64 n)
abbrev AV.bool (b : Bool) : AV := .v (.bool b)
abbrev AV.undef : AV := .v Go.undef
def AV.cells : AV → List AV
 | .agg cs => cs
 | x => [x]
def AV.isCell : AV → Bool
 | .agg _ | .tuple _ => false
 | .v (.agg _) | .v (.tuple _) => false
 | _ => true
def AV.isClosed1 : AV → Bool
 | .v x => match x with | .agg _ | .tuple _ => false | _ => true
 | .eptr _ _ => true
 | .slice o _ _ => match o with | .nilS | .any | .full => true | _ => false
 | _ => false
def AV.isClosedV : AV → Bool
 | .agg cs => cs.all AV.isClosed1
 | x => x.isClosed1
def AV.isClosed : AV → Bool
 | .iface _ x => x.isClosedV
 | .fn _ first caps => first.all AV.isClosedV && caps.all AV.isClosed1
 | x => x.isClosed1
def AV.close : AV → Option AV
 | .slice (.tok _ _) es xs => some (.slice .any es xs)
 | x => if x.isClosed then some x else none
def closeAll : List AV → Option (List AV)
 | [] => some []
 | x :: r => match x.close, closeAll r with
  | some y, some s => some (y :: s)
  | _, _ => none
inductive AOpd where
 | tmp (t : Nat)
 | const (c : AV)
inductive SlKind where
 | str
 | sl (es : Nat)
 | arr (n es : Nat)
inductive PK where
 | int
 | bool
 | str
inductive EqKind where
 | bool
 | agg (ks : List PK)
 | ptr
 | iface
 | slice
 | func
inductive ConvKind where
 | int (k : IntKind)
 | same
 | bytes
 | text
inductive AOp where
 | move (x : AOpd)
 | pick (c a b : AOpd)
 | alloc (zs : List AV)
 | box (n : Nat) (x : AOpd)
 | build (zs : List AV) (parts : List (Nat × Nat × AOpd))
 | buildSlice (es : Nat) (rows : List (List AV)) (parts : List (Nat × AOpd))
 | load (agg : Bool) (n : Nat) (x : AOpd)
 | store (n : Nat) (x y : AOpd)
 | nilCheck (x : AOpd)
 | arith (op : BinOp) (x y : AOpd)
 | eqv (neg : Bool) (k : EqKind) (x y : AOpd)
 | un (op : UnOp) (x : AOpd)
 | conv (k : ConvKind) (x : AOpd)
 | mkIface (t : TypeId) (x : AOpd)
 | mkFn (f : FuncId) (first caps : List AOpd)
 | mkSlice (es : Nat) (zs : List AV) (len cap : AOpd)
 | slice (k : SlKind) (x : AOpd) (lo hi mx : Option AOpd)
 | fieldAddr (off : Nat) (x : AOpd)
 | indexAddr (arr : Option Nat) (es : Nat) (x i : AOpd)
 | indexStr (x i : AOpd)
 | index (n es : Nat) (agg : Bool) (x i : AOpd)
 | field (agg : Bool) (n off : Nat) (x : AOpd)
 | extract (i : Nat) (x : AOpd)
 | call (ro : Bool) (f : FuncId) (args : List AOpd)
 | callv (ro : Bool) (x : AOpd) (args : List AOpd)
 | callo (f : FuncId) (args : List AOpd)
 | fcall (ro : Bool) (zs : List AV) (f : FuncId) (args : List AOpd)
 | append (es : Nat) (x y : AOpd)
 | appendm (es : Nat) (x y : AOpd)
 | copy (x y : AOpd)
 | buildFz (es : Nat) (row : List AV) (t : Nat)
 | len (str : Bool) (x : AOpd)
 | lenArr (n : Nat)
 | minmax (mx : Bool) (xs : List AOpd)
 | reserve (n : Nat)
 | slot (back : Nat) (zs : List AV)
 | loadr (res : Nat) (agg : Bool) (n : Nat) (x : AOpd)
 | fill (back n : Nat) (x y : AOpd)
structure AOper where
 dst : Option Nat
 guard : Option (Nat × Bool)
 op : AOp
inductive AExit where
 | normal
 | exit (id : Nat)
 | ret
inductive ACode where
 | skip
 | region (drawn : Bool) (ops : List AOper)
 | seq (a b : ACode)
 | cond (c : AOpd) (a b : ACode)
 | block (id : Nat) (a : ACode)
 | loop (a : ACode)
 | rangeFunc (f : AOpd) (params : List Nat) (assign body : ACode)
 | exit (id : Nat)
 | ret
structure Rec where
 boxes : List (List AV)
 toks : List (Option Nat)
structure ALoop where
 ready : Bool
 pend : Option AExit
 tmps : Nat → AV
 params : List Nat
 assign : ACode
 body : ACode
structure Sig where
 acts : List Rec
 loops : List ALoop
 ro : Nat
 lro : Nat
structure St where
 tmps : Nat → AV
 sig : Sig
inductive Target where
 | fn (f : FuncId)
 | yield (l : Nat)
abbrev CallF := Target → List AV → Sig → Option (AV × Sig)
inductive ARes where
 | tmp (t : Nat)
 | cell (agg : Bool) (n : Nat) (t : Nat)
inductive AFn where
 | code (np ntmps : Nat) (body : ACode) (results : List ARes) (own : Bool)
 | prim (F : List AV → Option AV)
def Sig.push (s : Sig) (r : Rec) : Sig := { s with acts := s.acts ++ [r] }
def Sig.pop (s : Sig) : Sig := { s with acts := s.acts.dropLast }
def Sig.cur (s : Sig) : Nat := s.acts.length - 1
def Sig.box (s : Sig) (d b : Nat) : Option (List AV) := (s.acts[d]?).bind (·.boxes[b]?)
def Sig.tok (s : Sig) (d g : Nat) : Option Nat := ((s.acts[d]?).bind (·.toks[g]?)).join
def Sig.ntok (s : Sig) (d : Nat) : Nat := match s.acts[d]? with | some r => r.toks.length | none => 0
def Sig.noneTok (s : Sig) (d : Nat) : Bool := match s.acts[d]? with | some r => r.toks.any Option.isNone | none => false
def Sig.nbox (s : Sig) (d : Nat) : Nat := match s.acts[d]? with | some r => r.boxes.length | none => 0
def Sig.onRec (s : Sig) (d : Nat) (f : Rec → Rec) : Sig := { s with acts := s.acts.modify d f }
def Sig.setBox (s : Sig) (d b : Nat) (cs : List AV) : Sig := s.onRec d fun r => { r with boxes := r.boxes.set b cs }
def Sig.setTok (s : Sig) (d g : Nat) (n : Option Nat) : Sig := s.onRec d fun r => { r with toks := r.toks.set g n }
def Sig.addTok (s : Sig) (d n : Nat) : Sig := s.onRec d fun r => { r with toks := r.toks ++ [some n] }
def Sig.addBox (s : Sig) (d : Nat) (cs : List AV) : Sig := s.onRec d fun r => { r with boxes := r.boxes ++ [cs] }
def Sig.row (m : Sig) : AV → Option (List AV × Nat)
 | .ptr d b off => (m.box d b).map fun cs => (cs, off)
 | .eptr cs off => some (cs, off)
 | _ => none
def part (agg : Bool) (n : Nat) (cs : List AV) (off : Nat) : Option AV :=
 if agg then (if off + n ≤ cs.length then some (.agg ((cs.drop off).take n)) else none) else cs[off]?
def Sig.load (m : Sig) (agg : Bool) (n : Nat) (x : AV) : Option AV :=
 (m.row x).bind fun (cs, off) => part agg n cs off
def setCells (cs : List AV) (off : Nat) : List AV → List AV
 | [] => cs
 | x :: r => setCells (cs.set off x) (off + 1) r
def Sig.fit (m : Sig) (d : Nat) : AV → Option (AV × Sig)
 | .slice (.tok d' g) es xs =>
  if d' ≤ d then some (.slice (.tok d' g) es xs, m)
  else if d' = m.cur ∧ m.tok d' g = some xs.length then
   some (.slice (.tok d (m.ntok d)) es xs, (m.setTok d' g none).addTok d xs.length)
  else some (.slice .any es xs, m)
 | .ptr d' b off => if d' ≤ d then some (.ptr d' b off, m) else none
 | .rsl d' b off es n cap => if d' ≤ d then some (.rsl d' b off es n cap, m) else none
 | x => x.close.map (·, m)
def Sig.fitAll (m : Sig) (d : Nat) : List AV → Option (List AV × Sig)
 | [] => some ([], m)
 | x :: r => match m.fit d x with
  | none => none
  | some (y, m1) => match m1.fitAll d r with
   | none => none
   | some (s, m2) => some (y :: s, m2)
def Sig.store (m : Sig) (n : Nat) (x y : AV) : Option Sig :=
 match x with
 | .ptr d b off =>
  if m.ro ≤ d ∧ y.cells.length = n ∧ y.cells.all AV.isCell = true then
   match (if d = m.cur then some (y.cells, m) else m.fitAll d y.cells) with
   | none => none
   | some (cs, m1) => match m1.box d b with
    | none => none
    | some row => if off + n ≤ row.length then some (m1.setBox d b (setCells row off cs)) else none
  else none
 | _ => none
def Sig.newBox (m : Sig) (cs : List AV) : AV × Sig := (.ptr m.cur (m.nbox m.cur) 0, m.addBox m.cur cs)
def intOp (op : BinOp) (k : IntKind) (x y : Int) : Option Value :=
 match op with
 | .add => some (.int k (k.wrap (x + y)))
 | .sub => some (.int k (k.wrap (x - y)))
 | .mul => some (.int k (k.wrap (x * y)))
 | .quo => if y = 0 then none else some (.int k (k.wrap (x.tdiv y)))
 | .rem => if y = 0 then none else some (.int k (x.tmod y))
 | .and => some (.int k (k.wrap (BitVec.ofInt k.bits x &&& BitVec.ofInt k.bits y).toNat))
 | .or => some (.int k (k.wrap (BitVec.ofInt k.bits x ||| BitVec.ofInt k.bits y).toNat))
 | .xor => some (.int k (k.wrap (BitVec.ofInt k.bits x ^^^ BitVec.ofInt k.bits y).toNat))
 | .andNot => some (.int k (k.wrap (BitVec.ofInt k.bits x &&& ~~~(BitVec.ofInt k.bits y)).toNat))
 | .eql => some (.bool (x == y))
 | .neq => some (.bool (x != y))
 | .lss => some (.bool (x < y))
 | .leq => some (.bool (x ≤ y))
 | .gtr => some (.bool (x > y))
 | .geq => some (.bool (x ≥ y))
 | _ => none
def shiftOp (op : BinOp) (k : IntKind) (x y : Int) : Option Value :=
 if y < 0 then none else
 match op with
 | .shl => some (.int k (k.wrap (x * 2 ^ min y.toNat k.bits)))
 | .shr => some (.int k (x.fdiv (2 ^ min y.toNat k.bits)))
 | _ => none
def strOp (op : BinOp) (x y : ByteArray) : Option Value :=
 match op with
 | .add => if ((x.size + y.size : Nat) : Int) > IntKind.i64.max then none else some (.string (x ++ y))
 | .eql => some (.bool (x.data.toList == y.data.toList))
 | .neq => some (.bool !(x.data.toList == y.data.toList))
 | .lss => some (.bool (Op.bytesLess x.data.toList y.data.toList))
 | .leq => some (.bool (Op.bytesLess x.data.toList y.data.toList || x.data.toList == y.data.toList))
 | .gtr => some (.bool !(Op.bytesLess x.data.toList y.data.toList || x.data.toList == y.data.toList))
 | .geq => some (.bool !(Op.bytesLess x.data.toList y.data.toList))
 | _ => none
def isShift : BinOp → Bool
 | .shl | .shr => true
 | _ => false
def arithOp (op : BinOp) : AV → AV → Option AV
 | .v (.int k a), .v (.int k' b) =>
  if isShift op then (shiftOp op k a b).map .v else if k = k' then (intOp op k a b).map .v else none
 | .v (.string a), .v (.string b) => (strOp op a b).map .v
 | _, _ => none
def eqPlain : PK → AV → AV → Option Bool
 | .int, .v (.int k a), .v (.int k' b) => if k = k' then some (a == b) else none
 | .bool, .v (.bool a), .v (.bool b) => some (a == b)
 | .str, .v (.string a), .v (.string b) => some (a.data.toList == b.data.toList)
 | _, _, _ => none
def eqCells : List PK → List AV → List AV → Option Bool
 | [], [], [] => some true
 | k :: ks, x :: r, y :: s => match eqPlain k x y with
  | some true => eqCells ks r s
  | some false => some false
  | none => none
 | _, _, _ => none
def isNilS : AV → Option Bool
 | .slice .nilS _ _ => some true
 | .slice _ _ _ => some false
 | .rsl .. => some false
 | _ => none
def isNilP : AV → Option Bool
 | .v (.pointer none) => some true
 | .ptr .. => some false
 | .eptr .. => some false
 | _ => none
def isNilI : AV → Option Bool
 | .v .nilIface => some true
 | .iface .. => some false
 | _ => none
def isNilF : AV → Option Bool
 | .v .nilFunc => some true
 | .fn .. => some false
 | .yield .. => some false
 | _ => none
def eqNil (f : AV → Option Bool) (x y : AV) : Option Bool :=
 match f x, f y with
 | some true, some b => some b
 | some b, some true => some b
 | _, _ => none
def eqOp (k : EqKind) (x y : AV) : Option Bool :=
 match k with
 | .bool => match x, y with
  | .v (.bool a), .v (.bool b) => some (a == b)
  | _, _ => none
 | .agg ks => match x, y with
  | .agg a, .agg b => eqCells ks a b
  | _, _ => none
 | .ptr => eqNil isNilP x y
 | .iface => eqNil isNilI x y
 | .slice => eqNil isNilS x y
 | .func => eqNil isNilF x y
def unOp (op : UnOp) : AV → Option AV
 | .v (.bool b) => match op with | .not => some (.v (.bool !b)) | _ => none
 | .v (.int k n) => match op with | .neg => some (.v (.int k (k.wrap (0 - n)))) | _ => none
 | _ => none
def byteCells (s : ByteArray) : List (List AV) := s.data.toList.map fun b => [.v (.int .u8 b.toNat)]
def byteOf : List AV → Option UInt8
 | [.v (.int .u8 n)] => if 0 ≤ n ∧ n < 256 then some (UInt8.ofNat n.toNat) else none
 | _ => none
def bytesOf : List (List AV) → Option (List UInt8)
 | [] => some []
 | x :: r => match byteOf x, bytesOf r with
  | some b, some s => some (b :: s)
  | _, _ => none
def convOp (k : ConvKind) : AV → Option AV
 | .v (.int _ n) => match k with | .int k' => some (.v (.int k' (k'.wrap n))) | _ => none
 | .v (.string s) => match k with
  | .same => some (.v (.string s))
  | .bytes => some (.slice .any 1 (byteCells s))
  | _ => none
 | .slice _ _ xs => match k with
  | .text => (bytesOf xs).map fun l => .v (.string ⟨l.toArray⟩)
  | _ => none
 | _ => none
def asNat (x : AV) (most : Nat) : Option Nat :=
 match x with
 | .v (.int _ n) => if 0 ≤ n ∧ n ≤ most then some n.toNat else none
 | _ => none
def chunks (es : Nat) : Nat → List AV → List (List AV)
 | 0, _ => []
 | n + 1, cs => cs.take es :: chunks es n (cs.drop es)
def sliceOwn (o : Own) (whole : Bool) : Own :=
 match o with
 | .nilS => .nilS
 | .tok d g => if whole then .tok d g else .any
 | .full => .any
 | _ => .any
def loOf (lo : Option AV) (h : Nat) : Option Nat :=
 match lo with
 | some l => asNat l h
 | none => some 0
def hiOf (hi : Option AV) (full : Bool) (m len : Nat) : Option Nat :=
 match hi with
 | some h => asNat h m
 | none => if full then none else some len
def mxOf (mx : Option AV) (cap : Nat) : Option Nat :=
 match mx with
 | some m => asNat m cap
 | none => some cap
def slOwn (o : Own) (full whole all : Bool) : Own :=
 if full then (if o.isNil then .nilS else if all then .full else .any) else sliceOwn o whole
def sliceOp (k : SlKind) (x : AV) (lo hi mx : Option AV) : Option AV :=
 match k, x with
 | .str, .v (.string s) =>
  if mx.isSome then none else
  (hiOf hi false s.size s.size).bind fun h => (loOf lo h).map fun l => .v (.string (s.extract l h))
 | .sl e0, .slice o es xs =>
  if o.isNil = true ∨ es = e0 then
   (mxOf mx xs.length).bind fun m => (hiOf hi mx.isSome m xs.length).bind fun h => (loOf lo h).map fun l =>
    .slice (slOwn o mx.isSome (l == 0 && h == xs.length) (h == m && 0 < m)) es ((xs.take h).drop l)
  else none
 | .sl e0, .rsl d b off es n cap =>
  if es = e0 then
   (mxOf mx (max n cap)).bind fun m => (hiOf hi mx.isSome m n).bind fun h => (loOf lo h).map fun l =>
    .rsl d b (if m = l then off else off + l * es) es (h - l) (m - l)
  else none
 | .arr n es, .ptr d b off =>
  if mx.isSome then none else
  (hiOf hi false n n).bind fun h => (loOf lo h).map fun l => .rsl d b (if n = l then off else off + l * es) es (h - l) (n - l)
 | .arr n es, .eptr cs off =>
  if mx.isSome then none else
  (hiOf hi false n n).bind fun h => (loOf lo h).bind fun l =>
   if off + n * es ≤ cs.length then some (.slice .any es (chunks es (h - l) (cs.drop (off + l * es)))) else none
 | _, _ => none
def idx (x : AV) (len : Nat) : Option Nat :=
 match x with
 | .v (.int _ n) => if 0 ≤ n ∧ n < len then some n.toNat else none
 | _ => none
def indexAddrOp (arr : Option Nat) (es : Nat) (x i : AV) : Option AV :=
 match arr, x with
 | none, .slice _ e1 xs => if e1 = es then (idx i xs.length).bind fun j => (xs[j]?).map fun r => .eptr r 0 else none
 | none, .rsl d b off e1 n _ => if e1 = es then (idx i n).map fun j => .ptr d b (off + j * es) else none
 | some n, .ptr d b off => (idx i n).map fun j => .ptr d b (off + j * es)
 | some n, .eptr cs off => (idx i n).map fun j => .eptr cs (off + j * es)
 | _, _ => none
def fillRow (cs : List AV) (off size : Nat) (x : AV) : Option (List AV) :=
 if x.cells.length = size ∧ off + size ≤ cs.length ∧ x.cells.all AV.isCell = true then some (setCells cs off x.cells) else none
def maxOp (mx : Bool) : AV → AV → Option AV
 | .v (.int k x), .v (.int k' y) => if k = k' then some (.v (.int k (if mx then (if y > x then y else x) else (if y < x then y else x)))) else none
 | _, _ => none
def maxFold (mx : Bool) (x : AV) : List AV → Option AV
 | [] => some x
 | y :: r => match maxOp mx x y with
  | some z => maxFold mx z r
  | none => none
def most : Nat := 4294967296
def appendOp (m : Sig) (es : Nat) (x y : AV) : Option (AV × Sig) :=
 match x, y with
 | .slice o e1 xs, .slice _ e2 ys =>
  if ys.isEmpty then some (x, m) else
  if e2 = es ∧ (o.isNil = true ∨ e1 = es) ∧ xs.length + ys.length ≤ most then
   match o with
   | .nilS | .full => some (.slice (.tok m.cur (m.ntok m.cur)) es (xs ++ ys), m.addTok m.cur (xs.length + ys.length))
   | .tok d g => if m.ro ≤ d ∧ m.tok d g = some xs.length then some (.slice (.tok d g) es (xs ++ ys), m.setTok d g (some (xs.length + ys.length))) else none
   | _ => none
  else none
 | _, _ => none
def Sig.regrow (m : Sig) (b : Nat) (cs : List AV) : Sig := (m.onRec m.cur fun r => { r with boxes := r.boxes.set b [] ++ [cs], toks := r.toks ++ [none] })
def appendmOp (m : Sig) (es : Nat) (x y : AV) : Option (AV × Sig) :=
 match y with
 | .slice _ e2 ys =>
  if ys.isEmpty then (match x with | .slice .. | .rsl .. => some (x, m) | _ => none) else
  if e2 = es then
   match x with
   | .slice o e1 xs =>
    if (o.isNil = true ∨ (o.isFull = true ∧ e1 = es)) ∧ xs.length + ys.length ≤ most then
     some (.rsl m.cur (m.nbox m.cur) 0 es (xs.length + ys.length) 0, (m.newBox (xs.flatten ++ ys.flatten)).2)
    else none
   | .rsl d b off e1 n cap =>
    if d = m.cur ∧ off = 0 ∧ cap = 0 ∧ 0 < n ∧ e1 = es ∧ n + ys.length ≤ most then
     match m.box d b with
     | some cs => if cs.length = n * es then some (.rsl m.cur (m.nbox m.cur) 0 es (n + ys.length) 0, m.regrow b (cs ++ ys.flatten)) else none
     | none => none
    else none
   | _ => none
  else none
 | _ => none
def buildRows (rows : List (List AV)) (ρ : AOpd → AV) : List (Nat × AOpd) → Option (List (List AV))
 | [] => some rows
 | (i, x) :: r => match rows[i]?, closeAll (ρ x).cells with
  | some row, some cs => if cs.length = row.length then buildRows (rows.set i cs) ρ r else none
  | _, _ => none
def Sig.srcCells (m : Sig) : AV → Option (List AV)
 | .slice _ e xs => if e = 1 ∨ xs.isEmpty = true then some xs.flatten else none
 | .rsl d b off e n _ => if e = 1 then (m.box d b).bind fun cs => if off + n ≤ cs.length then some ((cs.drop off).take n) else none else none
 | _ => none
def copyOp (m : Sig) (x y : AV) : Option (AV × Sig) :=
 match x with
 | .slice _ _ [] => (m.srcCells y).map fun _ => (AV.int 0, m)
 | .rsl d b off e n _ => if e = 1 then (m.srcCells y).bind fun ys =>
   if (ys.take n).isEmpty then some (AV.int 0, m) else (m.store (ys.take n).length (.ptr d b off) (.agg (ys.take n))).map (AV.int (ys.take n).length, ·) else none
 | _ => none
def Sig.kill (m : Sig) (b : Nat) : Sig := m.onRec m.cur fun r => { r with boxes := r.boxes.set b [], toks := r.toks ++ [none] }
def freezeOp (m : Sig) : AV → Option (AV × Sig)
 | .rsl d b off es n _ => if d = m.cur then (m.box d b).bind fun cs => if cs.isEmpty = true then none else if off + n * es ≤ cs.length then (closeAll cs).map fun cs' => (.slice .any es (chunks es n (cs'.drop off)), m.kill b) else none else none
 | .slice o es xs => some (.slice o es xs, m)
 | _ => none
def buildFzOp (m : Sig) (es : Nat) (row : List AV) (x : AV) : Option (AV × Sig) :=
 (freezeOp m x).bind fun p => (buildRows [row] (fun _ => p.1) [(0, .const AV.undef)]).map fun rs => (.slice .full es rs, p.2)
def evalOpt (ρ : AOpd → AV) : Option AOpd → Option AV
 | none => none
 | some x => some (ρ x)
def doCall (call : CallF) (ro : Bool) (m : Sig) (t : Target) (args : List AV) : Option (AV × Sig) :=
 if ro then (call t args { m with ro := m.acts.length, lro := m.loops.length }).map fun p => (p.1, m)
 else call t args m
def buildCells (cs : List AV) (ρ : AOpd → AV) : List (Nat × Nat × AOpd) → Option (List AV)
 | [] => some cs
 | (off, size, x) :: r => match fillRow cs off size (ρ x) with
  | some cs' => buildCells cs' ρ r
  | none => none
def ptrAdd (off : Nat) : AV → Option AV
 | .ptr d b o => some (.ptr d b (o + off))
 | .eptr cs o => some (.eptr cs (o + off))
 | _ => none
def nilCheckOp : AV → Option AV
 | .ptr d b off => some (.ptr d b off)
 | .eptr cs off => some (.eptr cs off)
 | .fn f a b => some (.fn f a b)
 | .yield l => some (.yield l)
 | .iface t x => some (.iface t x)
 | _ => none
def indexStrOp : AV → AV → Option AV
 | .v (.string s), j => (idx j s.size).bind fun k => (s[k]?).map fun b => .v (.int .u8 b.toNat)
 | _, _ => none
def indexOp (n es : Nat) (agg : Bool) : AV → AV → Option AV
 | .agg cs, j => (idx j n).bind fun k => part agg es cs (k * es)
 | _, _ => none
def fieldOp (agg : Bool) (n off : Nat) : AV → Option AV
 | .agg cs => part agg n cs off
 | _ => none
def extractOp (i : Nat) : AV → Option AV
 | .tuple vs => vs[i]?
 | _ => none
def lenOp (str : Bool) : AV → Option AV
 | .slice _ _ xs => if str then none else some (AV.int xs.length)
 | .rsl _ _ _ _ n _ => if str then none else some (AV.int n)
 | .v (.string s) => if str then some (AV.int s.size) else none
 | _ => none
def pickOp (c a b : AV) : Option AV :=
 match c with
 | .v (.bool t) => some (if t then a else b)
 | _ => none
def ifaceOp (t : TypeId) (x : AV) : Option AV :=
 match x with
 | .agg cs => (closeAll cs).map fun cs' => .iface t (.agg cs')
 | x => if x.isClosed1 then some (.iface t x) else none
def boxOp (m : Sig) (n : Nat) (y : AV) : Option (AV × Sig) :=
 if y.cells.length = n ∧ y.cells.all AV.isCell = true ∧ 0 < n then some (m.newBox y.cells) else none
def mkSliceOp (m : Sig) (es : Nat) (zs : List AV) (l c : AV) : Option (AV × Sig) :=
 (asNat c most).bind fun cn => (asNat l cn).map fun ln => if (List.replicate cn zs).flatten.isEmpty then (.slice .full es [], m) else (.rsl m.cur (m.nbox m.cur) 0 es ln cn, (m.newBox (List.replicate cn zs).flatten).2)
def Sig.reserve (m : Sig) (n : Nat) : Sig := m.onRec m.cur fun r => { r with boxes := r.boxes ++ List.replicate n [] }
def slotOp (m : Sig) (back : Nat) (zs : List AV) : Option (AV × Sig) :=
 match m.box m.cur (m.nbox m.cur - back) with
 | some [] => if zs.isEmpty = true ∨ m.noneTok m.cur = true then none else some (.ptr m.cur (m.nbox m.cur - back) 0, m.setBox m.cur (m.nbox m.cur - back) zs)
 | _ => none
def loadrOp (m : Sig) (res : Nat) (agg : Bool) (n : Nat) (x : AV) : Option AV :=
 match x with
 | .ptr d b off => if d = m.cur ∧ m.nbox m.cur ≤ b + res then none else m.load agg n (.ptr d b off)
 | x => m.load agg n x
def fillOp (m : Sig) (back n : Nat) (x y : AV) : Option Sig :=
 match x with
 | .ptr d b off => if d = m.cur ∧ b = m.nbox m.cur - back ∧ 0 < back then m.store n (.ptr d b off) y else none
 | _ => none
def minmaxOp (mx : Bool) : List AV → Option AV
 | x :: r => maxFold mx x r
 | [] => none
def callvOp (call : CallF) (ro : Bool) (m : Sig) (x : AV) (args : List AV) : Option (AV × Sig) :=
 match x with
 | .fn f first caps => doCall call ro m (.fn f) (first ++ args ++ caps)
 | .yield l => doCall call ro m (.yield l) args
 | _ => none
def leaveCaps (m : Sig) : List AV → Option (List AV)
 | [] => some []
 | .ptr d b off :: r => if d = m.cur then
   match (m.box d b).bind closeAll, leaveCaps m r with
   | some cs, some s => some (.eptr cs off :: s)
   | _, _ => none
  else none
 | x :: r => if x.isClosed1 then (leaveCaps m r).map (x :: ·) else none
def leaveCell (m : Sig) : AV → Option AV
 | .slice (.tok _ _) es xs => some (.slice .any es xs)
 | .ptr d b off => if d = m.cur then (m.box d b).bind fun cs => (closeAll cs).map fun cs' => .eptr cs' off else some (.ptr d b off)
 | .rsl d b off es n _ => if d = m.cur then (m.box d b).bind fun cs => if off + n * es ≤ cs.length then (closeAll cs).map fun cs' => .slice .any es (chunks es n (cs'.drop off)) else none else none
 | .fn f first caps => if first.all AV.isClosedV then (leaveCaps m caps).map (.fn f first ·) else none
 | x => x.close
def leaveCells (m : Sig) : List AV → Option (List AV)
 | [] => some []
 | x :: r => match leaveCell m x, leaveCells m r with
  | some y, some s => some (y :: s)
  | _, _ => none
def leaveVal (m : Sig) : AV → Option AV
 | .agg cs => (leaveCells m cs).map .agg
 | x => leaveCell m x
def ownResult (m : Sig) : AV → Option (AV × Sig)
 | .slice (.tok d g) es xs =>
  if d = m.cur ∧ 1 ≤ d ∧ m.ro < d ∧ m.tok d g = some xs.length then
   some (.slice (.tok (d - 1) (m.ntok (d - 1))) es xs, m.pop.addTok (d - 1) xs.length)
  else some (.slice .any es xs, m.pop)
 | x => (leaveVal m x).map (·, m.pop)
def calloOp (call : CallF) (m : Sig) (f : FuncId) (args : List AV) : Option (AV × Sig) :=
 match call (.fn f) args { m.push ⟨[], []⟩ with ro := m.acts.length, lro := m.loops.length } with
 | some (.slice (.tok d g) es xs, s) =>
  if d = m.acts.length ∧ 1 ≤ m.acts.length ∧ m.ro < m.acts.length ∧ s.tok d g = some xs.length then some (.slice (.tok m.cur (m.ntok m.cur)) es xs, m.addTok m.cur xs.length)
  else some (.slice .any es xs, m)
 | some (x, s) => (leaveVal s x).map (·, m)
 | none => none
def Sig.setLast (m : Sig) (cs : List AV) : Sig := m.setBox m.cur (m.nbox m.cur - 1) cs
open Classical in
noncomputable def fcallOp (call : CallF) (ro : Bool) (m : Sig) (zs : List AV) (t : Target) (args : List AV) : Option (AV × Sig) :=
 match doCall call ro m t args with
 | some (v, m') => if doCall call ro (m.setLast []) t args = some (v, m'.setLast []) ∧ doCall call ro (m.setLast zs) t args = some (v, m'.setLast zs) ∧ m'.acts.length = m.acts.length ∧ m'.nbox m.cur = m.nbox m.cur ∧ m'.box m.cur (m.nbox m.cur - 1) = m.box m.cur (m.nbox m.cur - 1) ∧ (ro = true → m' = m) ∧ (m'.noneTok m.cur = false → m.noneTok m.cur = false) then some (v, m') else none
 | none => none
noncomputable def opv (call : CallF) (ρ : AOpd → AV) (m : Sig) : AOp → Option (AV × Sig)
 | .move x => some (ρ x, m)
 | .pick c a b => (pickOp (ρ c) (ρ a) (ρ b)).map (·, m)
 | .alloc zs => if zs.isEmpty then none else some (m.newBox zs)
 | .box n x => boxOp m n (ρ x)
 | .build zs parts => (buildCells zs ρ parts).map fun cs => (.agg cs, m)
 | .buildSlice es rows parts => (buildRows rows ρ parts).map fun rs => (.slice .full es rs, m)
 | .load agg n x => (m.load agg n (ρ x)).map (·, m)
 | .store n x y => (m.store n (ρ x) (ρ y)).map (AV.undef, ·)
 | .nilCheck x => (nilCheckOp (ρ x)).map (·, m)
 | .arith op x y => (arithOp op (ρ x) (ρ y)).map (·, m)
 | .eqv neg k x y => (eqOp k (ρ x) (ρ y)).map fun t => (.v (.bool (if neg then !t else t)), m)
 | .un op x => (unOp op (ρ x)).map (·, m)
 | .conv k x => (convOp k (ρ x)).map (·, m)
 | .mkIface t x => (ifaceOp t (ρ x)).map (·, m)
 | .mkFn f first caps => if (first.map ρ).all AV.isClosedV then some (.fn f (first.map ρ) (caps.map ρ), m) else none
 | .mkSlice es zs len cap => mkSliceOp m es zs (ρ len) (ρ cap)
 | .slice k x lo hi mx => (sliceOp k (ρ x) (evalOpt ρ lo) (evalOpt ρ hi) (evalOpt ρ mx)).map (·, m)
 | .fieldAddr off x => (ptrAdd off (ρ x)).map (·, m)
 | .indexAddr arr es x i => (indexAddrOp arr es (ρ x) (ρ i)).map (·, m)
 | .indexStr x i => (indexStrOp (ρ x) (ρ i)).map (·, m)
 | .index n es agg x i => (indexOp n es agg (ρ x) (ρ i)).map (·, m)
 | .field agg n off x => (fieldOp agg n off (ρ x)).map (·, m)
 | .extract i x => (extractOp i (ρ x)).map (·, m)
 | .call ro f args => doCall call ro m (.fn f) (args.map ρ)
 | .callv ro x args => callvOp call ro m (ρ x) (args.map ρ)
 | .callo f args => calloOp call m f (args.map ρ)
 | .fcall ro zs f args => fcallOp call ro m zs (.fn f) (args.map ρ)
 | .append es x y => appendOp m es (ρ x) (ρ y)
 | .appendm es x y => appendmOp m es (ρ x) (ρ y)
 | .copy x y => copyOp m (ρ x) (ρ y)
 | .buildFz es row t => buildFzOp m es row (ρ (.tmp t))
 | .len str x => (lenOp str (ρ x)).map (·, m)
 | .lenArr n => some (AV.int n, m)
 | .minmax mx xs => (minmaxOp mx (xs.map ρ)).map (·, m)
 | .reserve n => some (AV.undef, m.reserve n)
 | .slot back zs => slotOp m back zs
 | .loadr res agg n x => (loadrOp m res agg n (ρ x)).map (·, m)
 | .fill back n x y => (fillOp m back n (ρ x) (ρ y)).map (AV.undef, ·)
def evalT (ρ : Nat → AV) : AOpd → AV
 | .tmp t => ρ t
 | .const c => c
def put (t : Nat) (x : AV) (ρ : Nat → AV) : Nat → AV := fun u => if u = t then x else ρ u
def putT (ρ : Nat → AV) (dst : Option Nat) (x : AV) : Nat → AV :=
 match dst with
 | some t => put t x ρ
 | none => ρ
def wantedV (b : Bool) : AV → Bool
 | .v (.bool c) => c == b
 | _ => false
def wantedT (ρ : Nat → AV) : Option (Nat × Bool) → Bool
 | none => true
 | some (t, b) => wantedV b (ρ t)
noncomputable def ops (call : CallF) : List AOper → St → Option St
 | [], st => some st
 | o :: rest, st =>
  if wantedT st.tmps o.guard then
   match opv call (evalT st.tmps) st.sig o.op with
   | some (x, m) => ops call rest ⟨putT st.tmps o.dst x, m⟩
   | none => none
  else ops call rest ⟨putT st.tmps o.dst AV.undef, st.sig⟩
def loopN (f : St → Option (AExit × St)) : Nat → St → Option (AExit × St)
 | 0, _ => none
 | n + 1, st => match f st with
  | some (.normal, st') => loopN f n st'
  | r => r
def setParams (ρ : Nat → AV) : List Nat → List AV → Nat → AV
 | p :: ps, x :: xs => setParams (put p x ρ) ps xs
 | _, _ => ρ
def argsT : List AV → Nat → AV
 | [], _ => AV.undef
 | x :: _, 0 => x
 | _ :: r, n + 1 => argsT r n
def enterLoop (s : Sig) (l : ALoop) : Sig := { s with loops := s.loops ++ [l] }
def leaveLoop (s : Sig) (l : Nat) : Option (Option AExit × Sig) :=
 if s.loops.length = l + 1 then
  match s.loops[l]? with
  | some lp => if lp.ready ∨ lp.pend.isSome then some (lp.pend, { s with loops := s.loops.take l }) else none
  | none => none
 else none
noncomputable def exec (call : CallF) (lf : Nat) : ACode → St → Option (AExit × St)
 | .skip, st => some (.normal, st)
 | .region _ l, st => (ops call l st).map (AExit.normal, ·)
 | .seq a b, st => match exec call lf a st with
  | some (.normal, st') => exec call lf b st'
  | r => r
 | .cond c a b, st => match evalT st.tmps c with
  | .v (.bool t) => if t then exec call lf a st else exec call lf b st
  | _ => none
 | .block id a, st => match exec call lf a st with
  | some (.exit j, st') => if j = id then some (.normal, st') else some (.exit j, st')
  | r => r
 | .loop a, st => loopN (exec call lf a) lf st
 | .rangeFunc f ps as body, st =>
  match evalT st.tmps f with
  | .fn g first caps =>
   match call (.fn g) (first ++ .yield st.sig.loops.length :: caps) (enterLoop st.sig ⟨true, none, st.tmps, ps, as, body⟩) with
   | some (_, s) => match leaveLoop s st.sig.loops.length with
    | some (e, s1) => some (e.getD .normal, ⟨st.tmps, s1⟩)
    | none => none
   | none => none
  | _ => none
 | .exit id, st => some (.exit id, st)
 | .ret, st => some (.ret, st)
def resultRaw (st : St) : ARes → Option AV
 | .tmp t => some (st.tmps t)
 | .cell agg n t => st.sig.load agg n (st.tmps t)
def resultsOf (st : St) : List ARes → Option (List AV)
 | [] => some []
 | r :: rest => match (resultRaw st r).bind (leaveVal st.sig), resultsOf st rest with
  | some x, some s => some (x :: s)
  | _, _ => none
def packed : List AV → AV
 | [x] => x
 | l => .tuple l
def setLoop (s : Sig) (l : Nat) (f : ALoop → ALoop) : Sig := { s with loops := s.loops.modify l f }
def loopReady (s : Sig) (l : Nat) : Bool := match s.loops[l]? with | some p => p.ready | none => false
def finish (rs : List ARes) (own : Bool) (st : St) : Option (AV × Sig) :=
 if own then
  match rs with
  | [r] => (resultRaw st r).bind (ownResult st.sig)
  | _ => none
 else (resultsOf st rs).map fun l => (packed l, st.sig.pop)
noncomputable def callStep (AP : FuncId → Option AFn) (call : CallF) (lf : Nat) : CallF := fun t args s =>
 match t with
 | .fn f => match AP f with
  | some (.code np _ body rs own) =>
   if args.length = np then
    match exec call lf body ⟨argsT args, s.push ⟨[], []⟩⟩ with
    | some (.normal, st) | some (.ret, st) => finish rs own st
    | _ => none
   else none
  | some (.prim F) => (closeAll args).bind fun as => (F as).map (·, s)
  | none => none
 | .yield l => match s.loops[l]? with
  | some lp =>
   if lp.ready = true ∧ s.lro ≤ l ∧ args.length = lp.params.length then
    match exec call lf lp.assign ⟨setParams lp.tmps lp.params args, s.push ⟨[], []⟩⟩ with
    | some (.normal, st) =>
     if loopReady st.sig l = true then
      match exec call lf lp.body ⟨st.tmps, setLoop st.sig l fun p => { p with ready := false }⟩ with
      | some (.normal, st') => some (AV.bool true, (setLoop st'.sig l fun p => { p with ready := true, pend := none }).pop)
      | some (e, st') => some (AV.bool false, (setLoop st'.sig l fun p => { p with ready := false, pend := some e }).pop)
      | none => none
     else none
    | _ => none
   else none
  | none => none
noncomputable def callN (AP : FuncId → Option AFn) : Nat → CallF
 | 0 => fun _ _ _ => none
 | n + 1 => callStep AP (callN AP n) n
end Go.Ax

/-
  From the model's code to the abstract executor's: 'comp'. Plain definitions; nothing is claimed here.
-/
namespace Go.Ax
def mapO {α β : Type} (f : α → Option β) : List α → Option (List β)
 | [] => some []
 | x :: r => match f x, mapO f r with
  | some y, some s => some (y :: s)
  | _, _ => none
def ofCell : Value → Option AV
 | .bool b => some (.v (.bool b))
 | .int k n => some (.v (.int k n))
 | .string s => some (.v (.string s))
 | .pointer none => some (.v (.pointer none))
 | .slice none 0 0 => some (.slice .nilS 0 [])
 | .func (.func f) first caps => if first.size = 0 ∧ caps.size = 0 then some (.fn f [] []) else none
 | .nilFunc => some (.v .nilFunc)
 | .nilIface => some (.v .nilIface)
 | _ => none
def ofValue : Value → Option AV
 | .agg cs => (mapO ofCell cs.toList).map .agg
 | x => ofCell x
def compOpd : Operand → Option AOpd
 | .tmp t => some (.tmp t)
 | .const x => (ofValue x).map .const
 | .func f => some (.const (.fn f [] []))
 | .global _ => none
def compOpt : Option Operand → Option (Option AOpd)
 | none => some none
 | some x => (compOpd x).map some
def sizeP (P : Program) (t : TypeId) : Option Nat := (P.info? t).map (·.size)
def bytesP (P : Program) (t : TypeId) : Option Nat := (P.info? t).map (·.bytes)
def zeroP (P : Program) (t : TypeId) : Option (List AV) := ((P.info? t).bind (·.zero)).bind fun z => mapO ofCell z.cells.toList
def isAggP (P : Program) (t : TypeId) : Option Bool := (P.underlying t).map fun | .struct _ | .array _ _ => true | _ => false
def pkOf (P : Program) (t : TypeId) : Option PK :=
 match P.underlying t with
 | some (.int _) => some .int
 | some .bool => some .bool
 | some .string => some .str
 | _ => none
def compParts (P : Program) (place : Nat → Option (Nat × Nat)) : List (Nat × Operand) → Option (List (Nat × Nat × AOpd))
 | [] => some []
 | (i, x) :: r => match place i, compOpd x, compParts P place r with
  | some (off, size), some y, some s => some ((off, size, y) :: s)
  | _, _, _ => none
def compRows : List (Nat × Operand) → Option (List (Nat × AOpd))
 | [] => some []
 | (i, x) :: r => match compOpd x, compRows r with
  | some y, some s => some ((i, y) :: s)
  | _, _ => none
def isNilConst : Operand → Bool
 | .const .nilIface => true
 | _ => false
def eqNeg : BinOp → Option Bool
 | .eql => some false
 | .neq => some true
 | _ => none
def compEq (P : Program) (op : BinOp) (neg : Bool) (t : TypeId) (x y : Operand) (a b : AOpd) : Option AOp :=
 match P.underlying t with
 | some .bool => some (.eqv neg .bool a b)
 | some (.int _) | some .string => some (.arith op a b)
 | some (.struct fs) =>
  if P.stoodInHeld t = false ∧ P.eqGuardType P.depth t = false ∧ fs.toList.all (fun f => f.name != "_") = true ∧ fs.toList.map (·.offset) = List.range fs.size
  then (mapO (fun f : Field => pkOf P f.type) fs.toList).map fun ks => .eqv neg (.agg ks) a b else none
 | some (.pointer _) => some (.eqv neg .ptr a b)
 | some (.interface _) => if isNilConst x || isNilConst y then some (.eqv neg .iface a b) else none
 | some (.slice _) => some (.eqv neg .slice a b)
 | some (.func _ _ _) => some (.eqv neg .func a b)
 | _ => none
def compBin (P : Program) (op : BinOp) (t : TypeId) (x y : Operand) : Option AOp :=
 match compOpd x, compOpd y with
 | some a, some b => match eqNeg op with
  | some neg => compEq P op neg t x y a b
  | none => some (.arith op a b)
 | _, _ => none
def compConv (P : Program) (src dst : TypeId) (x : AOpd) : Option AOp :=
 match P.underlying src, P.underlying dst with
 | some (.int _), some (.int k) => some (.conv (.int k) x)
 | some .string, some .string => some (.conv .same x)
 | some .string, some (.slice e) => match P.underlying e with
  | some (.int .u8) => some (.conv .bytes x)
  | _ => none
 | some (.slice e), some .string => match P.underlying e with
  | some (.int .u8) => some (.conv .text x)
  | _ => none
 | _, _ => none
def compCall (P : Program) (ro own mu : Bool) (fr : Option (List AV)) (c : Call) : Option AOp :=
 match mapO compOpd c.args.toList with
 | none => none
 | some as =>
  match c.callee with
  | .value (.func f) => some (if ro && own then .callo f as else match fr with | some zs => .fcall ro zs f as | none => .call ro f as)
  | .value x => (compOpd x).map fun y => .callv ro y as
  | .invoke _ _ => none
  | .builtin b =>
   match b, as, c.argTypes.toList with
   | .append, [x, y], [t, u] => match P.underlying t, P.underlying u with
    | some (.slice e), some (.slice _) => match sizeP P e, bytesP P e, zeroP P e with
     | some s, some n, some z => if 0 < s ∧ 0 < n ∧ n ≤ 4096 ∧ z.length = s then some (if mu then .appendm s x y else .append s x y) else none
     | _, _, _ => none
    | _, _ => none
   | .len, [x], [t] => match P.underlying t with
    | some (.slice _) => some (.len false x)
    | some .string => some (.len true x)
    | some (.array n _) => some (.lenArr n)
    | _ => none
   | .copy, [x, y], [t, _] => match P.underlying t with
    | some (.slice e) => match sizeP P e with
     | some 1 => some (.copy x y)
     | _ => none
    | _ => none
   | .max, _, _ => some (.minmax true as)
   | .min, _, _ => some (.minmax false as)
   | _, _, _ => none
def oneSlice (P : Program) (mu : Bool) (e : TypeId) (len : Nat) : List (Nat × Operand) → Option Nat
 | [(i, .tmp t)] => match P.underlying e with
  | some (.slice _) => if mu = true ∧ len = 1 ∧ i = 0 then some t else none
  | _ => none
 | _ => none
structure Md where
 ro : Bool
 own : Bool
 slot : Option Nat
 res : Option Nat
 fill : Option Nat
 mu : Bool
 fr : Option (List AV)
def compOp (P : Program) (md : Md) : Op → Option AOp
 | .move x | .assign x => (compOpd x).map .move
 | .pick c a b => match compOpd c, compOpd a, compOpd b with
  | some c, some a, some b => some (.pick c a b)
  | _, _, _ => none
 | .alloc e => match md.slot with
  | none => (zeroP P e).map .alloc
  | some b => (zeroP P e).map (.slot b)
 | .box e x => match sizeP P e, compOpd x with
  | some n, some y => some (.box n y)
  | _, _ => none
 | .build t parts => match zeroP P t, P.underlying t with
  | some z, some (.struct fs) => if fs.toList.all (fun f => (sizeP P f.type).isSome) = true then (compParts P (fun i => match fs[i]? with
    | some f => (sizeP P f.type).map fun s => (f.offset, s)
    | none => none) parts.toList).map (.build z ·) else none
  | some z, some (.array _ e) => match sizeP P e with
   | some s => (compParts P (fun i => some (i * s, s)) parts.toList).map (.build z ·)
   | none => none
  | _, _ => none
 | .buildSlice t len parts => match P.underlying t with
  | some (.slice e) => match sizeP P e, zeroP P e, compRows parts.toList with
   | some s, some z, some ps => if len * s ≤ 2 ^ 24 ∧ z.length = s ∧ 0 < s then some (match oneSlice P md.mu e len parts.toList with | some t => .buildFz s z t | none => .buildSlice s (List.replicate len z) ps) else none
   | _, _, _ => none
  | _ => none
 | .load t x => match isAggP P t, sizeP P t, compOpd x with
  | some g, some n, some y => some (match md.res with | none => .load g n y | some r => .loadr r g n y)
  | _, _, _ => none
 | .store t x y => match sizeP P t, compOpd x, compOpd y with
  | some n, some a, some b => some (match md.fill with | none => .store n a b | some k => .fill k n a b)
  | _, _, _ => none
 | .nilCheck x => (compOpd x).map .nilCheck
 | .binOp op t x y _ => compBin P op t x y
 | .unOp op _ x => (compOpd x).map (.un op ·)
 | .convert src dst x => (compOpd x).bind (compConv P src dst ·)
 | .makeInterface t x => match P.underlying t with
  | some (.interface _) => none
  | some _ => (compOpd x).map (.mkIface t ·)
  | none => none
 | .makeFunc (.func f) first caps => match mapO compOpd first.toList, mapO compOpd caps.toList with
  | some a, some b => some (.mkFn f a b)
  | _, _ => none
 | .makeSlice t l c => match P.underlying t with
  | some (.slice e) => match sizeP P e, bytesP P e, zeroP P e, compOpd l, compOpd c with
   | some s, some n, some z, some a, some b => if 0 < s ∧ n ≤ 4096 ∧ z.length = s then some (.mkSlice s z a b) else none
   | _, _, _, _, _ => none
  | _ => none
 | .slice t x lo hi mx => match compOpd x, compOpt lo, compOpt hi, compOpt mx with
  | some a, some l, some h, some m => match P.underlying t with
   | some .string => some (.slice .str a l h m)
   | some (.slice e) => (sizeP P e).map fun s => .slice (.sl s) a l h m
   | some (.array n e) => (sizeP P e).map fun s => .slice (.arr n s) a l h m
   | _ => none
  | _, _, _, _ => none
 | .fieldAddr s x i => match P.underlying s, compOpd x with
  | some (.struct fs), some a => match fs[i]? with
   | some f => match sizeP P f.type with
    | some n => if 0 < n then some (.fieldAddr f.offset a) else none
    | none => none
   | none => none
  | _, _ => none
 | .field t x i => match P.underlying t, compOpd x with
  | some (.struct fs), some a => match fs[i]? with
   | some f => match isAggP P f.type, sizeP P f.type with
    | some g, some n => some (.field g n f.offset a)
    | _, _ => none
   | none => none
  | _, _ => none
 | .indexAddr t x i => match compOpd x, compOpd i with
  | some a, some j => match P.underlying t with
   | some (.array n e) => (sizeP P e).map fun s => .indexAddr (some n) s a j
   | some (.slice e) => (sizeP P e).map fun s => .indexAddr none s a j
   | _ => none
  | _, _ => none
 | .index t x i => match compOpd x, compOpd i with
  | some a, some j => match P.underlying t with
   | some (.array n e) => match isAggP P e, sizeP P e with
    | some g, some s => some (.index n s g a j)
    | _, _ => none
   | some .string => some (.indexStr a j)
   | _ => none
  | _, _ => none
 | .extract x i => (compOpd x).map (.extract i ·)
 | .call c => compCall P md.ro md.own md.mu md.fr c
 | .panic _ => some (.nilCheck (.const AV.undef))
 | _ => none
def predsFrom (acc : List Nat) : List Oper → Option (List Nat)
 | [] => some acc
 | o :: r =>
  let es := o.after.toList.filter (Region.binds .any)
  if es.all (fun e => decide (e.on < acc.length)) then
   predsFrom (acc ++ [es.foldl (fun m e => m ||| 1 <<< e.on ||| acc.getD e.on 0) 0]) r
  else none
def before (pre : List Nat) (i j : Nat) : Bool := (pre.getD j 0).testBit i
inductive OpClass where
 | pure
 | load
 | soft
 | fresh
 | slot (back : Nat)
 | loadr (res : Nat)
 | fill (back : Nat)
 | hard
 deriving DecidableEq
def classOf : AOp → OpClass
 | .load .. => .load
 | .append .. => .soft
 | .appendm .. => .hard
 | .call ro _ _ | .callv ro _ _ => if ro then .soft else .hard
 | .callo _ _ => .soft
 | .alloc _ | .box .. | .mkSlice .. => .fresh
 | .slot b _ => .slot b
 | .loadr r _ _ _ => .loadr r
 | .fill b _ _ _ => .fill b
 | .store .. | .reserve _ | .fcall .. | .copy .. | .buildFz .. => .hard
 | _ => .pure
def isLoadOp : Op → Bool
 | .load .. => true
 | _ => false
def readsOpd : AOpd → List Nat
 | .tmp t => [t]
 | .const _ => []
def readsOpt : Option AOpd → List Nat
 | some x => readsOpd x
 | none => []
def readsOp : AOp → List Nat
 | .move x | .box _ x | .load _ _ x | .loadr _ _ _ x | .nilCheck x | .un _ x | .conv _ x | .mkIface _ x | .fieldAddr _ x | .field _ _ _ x | .extract _ x | .len _ x => readsOpd x
 | .pick c a b => readsOpd c ++ readsOpd a ++ readsOpd b
 | .alloc _ | .lenArr _ | .reserve _ | .slot _ _ => []
 | .build _ ps => ps.flatMap fun p => readsOpd p.2.2
 | .buildSlice _ _ ps => ps.flatMap fun p => readsOpd p.2
 | .buildFz _ _ t => [t]
 | .copy x y | .store _ x y | .fill _ _ x y | .arith _ x y | .eqv _ _ x y | .mkSlice _ _ x y | .indexAddr _ _ x y | .indexStr x y | .index _ _ _ x y | .append _ x y | .appendm _ x y => readsOpd x ++ readsOpd y
 | .mkFn _ a b => a.flatMap readsOpd ++ b.flatMap readsOpd
 | .call _ _ xs | .callo _ xs | .fcall _ _ _ xs | .minmax _ xs => xs.flatMap readsOpd
 | .callv _ x xs => readsOpd x ++ xs.flatMap readsOpd
 | .slice _ x lo hi mx => readsOpd x ++ readsOpt lo ++ readsOpt hi ++ readsOpt mx
def readsOf (o : AOper) : List Nat := readsOp o.op ++ (match o.guard with | some (t, _) => [t] | none => [])
def pairsOk (f : Nat → AOper → Nat → AOper → Bool) (l : List AOper) : Bool :=
 l.zipIdx.all fun (x, i) => l.zipIdx.all fun (y, j) => i == j || f i x j y
def zInts : List AV → Option (List (IntKind × Int))
 | [] => some []
 | x :: r => match x with
  | .v (.int k n) => (zInts r).map ((k, n) :: ·)
  | _ => none
def sameZ (a b : List AV) : Bool := match zInts a, zInts b with
 | some p, some q => decide (p = q)
 | _, _ => false
def frameOk (x y : AOp) : Bool :=
 match x, y with
 | .fcall _ zs _ _, .slot b zs' => decide (b = 1) && sameZ zs zs'
 | .fcall ro _ _ _, .loadr .. => ro
 | _, _ => false
def drawOk (pre : List Nat) (l : List AOper) : Bool :=
  pairsOk (fun i x j y =>
    (match x.dst, y.dst with | some s, some t => s != t | _, _ => true) &&
    (match y.dst with | some t => !(readsOf x).contains t || before pre i j || before pre j i | none => true) &&
    (match classOf x.op, classOf y.op with
      | .pure, _ | _, .pure | .load, .load => true
      | .load, .soft | .soft, .load => true
      | .load, .fresh => before pre i j || before pre j i || decide (i < j)
      | .fresh, .load => before pre i j || before pre j i || decide (j < i)
      | .loadr _, .loadr _ | .slot _, .slot _ => true
      | .loadr r, .slot b | .slot b, .loadr r | .loadr r, .fill b | .fill b, .loadr r => before pre i j || before pre j i || decide (b ≤ r)
      | _, _ => before pre i j || before pre j i || (frameOk x.op y.op && decide (i < j)) || (frameOk y.op x.op && decide (j < i)))) l &&
  l.all fun x => match x.dst with | some t => !(readsOf x).contains t | none => true
def needsRo (pre : List Nat) (l : List Oper) (i : Nat) : Bool :=
 l.zipIdx.any fun (o, j) => isLoadOp o.op && !(before pre i j) && !(before pre j i)
def growsTmp (l : List Oper) (t : Nat) : Bool :=
 l.any fun o => match o.op with
  | .call c => (match c.callee with | .builtin .append => true | _ => false) && (match c.args.toList with | .tmp u :: _ => u == t | _ => false)
  | _ => false
def growsAt (l : List Oper) (i : Nat) : Bool := match (l[i]?).bind (·.dst) with
 | some t => growsTmp l t
 | none => false
def compGuard (l : List Oper) : Option (Nat × Bool) → Option (Option (Nat × Bool))
 | none => some none
 | some (j, b) => match (l[j]?).bind (·.dst) with
  | some t => some (some (t, b))
  | none => none
def compOpers (P : Program) (all : List Oper) (md : Nat → Md) : Nat → List Oper → Option (List AOper)
 | _, [] => some []
 | i, o :: r => match compGuard all o.guard, compOp P (md i) o.op, compOpers P all md (i + 1) r with
  | some g, some op, some s => some (⟨o.dst, g, op⟩ :: s)
  | _, _, _ => none
def isAllocOp : Op → Bool
 | .alloc _ => true
 | _ => false
def allocs : List Oper → Nat
 | [] => 0
 | o :: r => (if isAllocOp o.op then 1 else 0) + allocs r
def allocZ (P : Program) (l : List Oper) : Option (List AV) := l.findSome? fun o => match o.op with
 | .alloc e => zeroP P e
 | _ => none
def slotAt (l : List Oper) (i : Nat) : Option Nat := some (allocs (l.drop i))
def fillIn (p : Nat) : List Oper → Option Nat
 | [] => none
 | o :: r => match o.dst with
  | some t => if isAllocOp o.op && t == p then some (allocs (o :: r)) else fillIn p r
  | none => fillIn p r
def fillAt (l : List Oper) (i : Nat) : Option Nat :=
 match l[i]? with
 | some o => match o.op with
  | .store _ (.tmp p) _ => fillIn p l
  | _ => none
 | none => none
def compRegion (P : Program) (mu : Bool) (l : List Oper) (drawn : Bool) : Option (Nat × List AOper) :=
 if drawn then
  match predsFrom [] l with
  | none => none
  | some pre => match compOpers P l (fun i => ⟨needsRo pre l i, growsAt l i, none, none, none, mu, none⟩) 0 l with
   | some as => if drawOk pre as then some (0, as) else
    match compOpers P l (fun i => ⟨needsRo pre l i, growsAt l i, slotAt l i, some (allocs l), fillAt l i, mu, none⟩) 0 l with
    | some as' => if drawOk pre as' then some (allocs l, as') else
     if allocs l = 1 then
      match compOpers P l (fun i => ⟨needsRo pre l i, growsAt l i, slotAt l i, some (allocs l), fillAt l i, mu, allocZ P l⟩) 0 l with
      | some as2 => if drawOk pre as2 then some (1, as2) else none
      | none => none
     else none
    | none => none
   | none => none
 else (compOpers P l (fun _ => ⟨false, false, none, none, none, mu, none⟩) 0 l).map (0, ·)
def reserved (d : Bool) : Nat × List AOper → ACode
 | (0, as) => .region d as
 | (n + 1, as) => .seq (.region false [⟨none, none, .reserve (n + 1)⟩]) (.region d as)
def comp (P : Program) (mu : Bool) : Code → Option ACode
 | .skip => some .skip
 | .region _ l drawn => (compRegion P mu l.toList drawn).map (reserved drawn)
 | .seq a b => match comp P mu a, comp P mu b with
  | some x, some y => some (.seq x y)
  | _, _ => none
 | .cond c a b => match compOpd c, comp P mu a, comp P mu b with
  | some z, some x, some y => some (.cond z x y)
  | _, _, _ => none
 | .block id a => (comp P mu a).map (.block id ·)
 | .loop a => (comp P mu a).map .loop
 | .rangeFunc f ps a b => match compOpd f, comp P mu a, comp P mu b with
  | some z, some x, some y => some (.rangeFunc z ps.toList x y)
  | _, _, _ => none
 | .exit id => some (.exit id)
 | .ret => some .ret
 | _ => none
def resCell (P : Program) (t : Nat) (g : Option Bool) (n : Option Nat) : Option ARes :=
 let _ := P
 match g, n with
 | some g, some n => some (.cell g n t)
 | _, _ => none
def compRes (P : Program) : ResultVar → Option ARes
 | .tmp t => some (.tmp t)
 | .cell a t => resCell P a (isAggP P t) (sizeP P t)
def tmpsOk (n : Nat) : ACode → Bool
 | .region _ l => l.all fun o => match o.dst with | some t => decide (t < n) | none => true
 | .seq a b | .cond _ a b => tmpsOk n a && tmpsOk n b
 | .block _ a | .loop a => tmpsOk n a
 | .rangeFunc _ ps a b => ps.all (fun t => decide (t < n)) && tmpsOk n a && tmpsOk n b
 | _ => true
def compFn (P : Program) (own mu : Bool) (fn : Func) : Option AFn :=
 if fn.name == "runtime.NumGoroutine" then none else
 match fn.body with
 | none => none
 | some c => match comp P mu c, mapO (compRes P) fn.results.toList with
  | some b, some rs => if fn.params.size + fn.nfree ≤ fn.ntmps ∧ tmpsOk fn.ntmps b = true then some (.code (fn.params.size + fn.nfree) fn.ntmps b rs own) else none
  | _, _ => none
end Go.Ax

/-
  What the abstract executor's states say of a world: the relation, and how it is kept.
-/
namespace Go.Ax
open Go.RowKit
abbrev IMap := Nat → Nat → Option Value
def plain : Value → Bool
 | .bool _ | .int _ _ | .string _ | .pointer none | .nilFunc | .nilIface => true
 | _ => false
inductive RelC (I : IMap) : AV → Value → Prop
 | v {x : Value} (h : plain x = true) : RelC I (.v x) x
 | nilS {es : Nat} : RelC I (.slice .nilS es []) (.slice none 0 0)
 | slice {o : Own} {es : Nat} {xs : List (List AV)} {blk off cap : Nat} (f : Nat → Nat → Value)
   (ho : o = .any ∨ (o = .full ∧ cap = xs.length)) (hc : xs.length ≤ cap) (hes : ∀ r, r ∈ xs → r.length = es)
   (hcell : ∀ r, r ∈ xs → ∀ c, c ∈ r → c.isCell = true)
   (hI : ∀ i (hi : i < xs.length) j (_ : j < xs[i].length), I blk (off + i * es + j) = some (f i j))
   (hR : ∀ i (hi : i < xs.length) j (hj : j < xs[i].length), RelC I (xs[i][j]) (f i j)) :
   RelC I (.slice o es xs) (.slice (some ⟨blk, off, none⟩) xs.length cap)
 | empty {o : Own} {es : Nat} {a : Addr} (ho : o = .any ∨ o = .full) : RelC I (.slice o es []) (.slice (some a) 0 0)
 | eptr {cs : List AV} {off blk o0 : Nat} (f : Nat → Value) (hcell : ∀ c, c ∈ cs → c.isCell = true)
   (hI : ∀ i, i < cs.length → I blk (o0 + i) = some (f i))
   (hR : ∀ i (hi : i < cs.length), RelC I cs[i] (f i)) : RelC I (.eptr cs off) (.pointer (some ⟨blk, o0 + off, none⟩))
 | iface {t : TypeId} {x : AV} {y : Value} (h : RelC I x y) : RelC I (.iface t x) (.iface t y)
 | agg {cs : List AV} {arr : Array Value} (hl : arr.size = cs.length) (hcell : ∀ c, c ∈ cs → c.isCell = true)
   (hR : ∀ i (hi : i < cs.length), RelC I cs[i] (arr.getD i Go.undef)) : RelC I (.agg cs) (.agg arr)
 | fn {f : FuncId} {first caps : List AV} {a1 a2 : Array Value} (l1 : a1.size = first.length) (l2 : a2.size = caps.length)
   (r1 : ∀ i (hi : i < first.length), RelC I first[i] (a1.getD i Go.undef))
   (r2 : ∀ i (hi : i < caps.length), RelC I caps[i] (a2.getD i Go.undef)) : RelC I (.fn f first caps) (.func (.func f) a1 a2)
structure TokG where
 n : Option Nat
 blk : Nat
 cap : Nat
 es : Nat
structure GRec where
 bl : List (Option Nat)
 tk : List TokG
 nl : Nat
 marks : List Nat
 gs : Nat → Option Nat
inductive Owner where
 | box (d b : Nat)
 | tok (d g : Nat)
 | loop (l : Nat)
 | mark (d i : Nat)
structure Ghost where
 I : IMap
 acts : List GRec
 loops : List Nat
 own : Nat → Option Owner
inductive Rel (G : Ghost) (k nl : Nat) : AV → Value → Prop
 | cl {x : AV} {y : Value} (h : RelC G.I x y) : Rel G k nl x y
 | undef : Rel G k nl AV.undef Go.undef
 | tok {d g es : Nat} {xs : List (List AV)} {a : Addr} {cap : Nat} (T : TokG) (gr : GRec) (hd : d ≤ k) (hg : G.acts[d]? = some gr) (ht : gr.tk[g]? = some T)
   (hes : T.es = es) (hc : RelC G.I (.slice .any es xs) (.slice (some a) xs.length cap))
   (hn : ∀ n, T.n = some n → xs.length ≤ n ∧ (xs.length = n → a = ⟨T.blk, 0, none⟩ ∧ cap = T.cap)) :
   Rel G k nl (.slice (.tok d g) es xs) (.slice (some a) xs.length cap)
 | ptr {d b off blk : Nat} (gr : GRec) (hd : d ≤ k) (hg : G.acts[d]? = some gr) (hb : gr.bl[b]? = some (some blk)) :
   Rel G k nl (.ptr d b off) (.pointer (some ⟨blk, off, none⟩))
 | rsl {d b off es n cap rc blk o0 : Nat} (gr : GRec) (hd : d ≤ k) (hg : G.acts[d]? = some gr) (hb : gr.bl[b]? = some (some blk)) (hn : n ≤ rc) (hc : cap ≤ rc) (hw : cap = 0 → 0 < n → gr.gs b = some (rc * es)) (ho : 0 < n ∨ 0 < cap → o0 = off) :
   Rel G k nl (.rsl d b off es n cap) (.slice (some ⟨blk, o0, none⟩) n rc)
 | yield {l r : Nat} (hl : l < nl) (h : G.loops[l]? = some r) : Rel G k nl (.yield l) (.func (.yield r) #[] #[])
 | agg {cs : List AV} {arr : Array Value} (hl : arr.size = cs.length) (hcell : ∀ c, c ∈ cs → c.isCell = true)
   (hR : ∀ i (hi : i < cs.length), Rel G k nl cs[i] (arr.getD i Go.undef)) : Rel G k nl (.agg cs) (.agg arr)
 | tuple {vs : List AV} {arr : Array Value} (hl : arr.size = vs.length)
   (hR : ∀ i (hi : i < vs.length), Rel G k nl vs[i] (arr.getD i Go.undef)) : Rel G k nl (.tuple vs) (.tuple arr)
 | fn {f : FuncId} {first caps : List AV} {a1 a2 : Array Value} (l1 : a1.size = first.length) (l2 : a2.size = caps.length)
   (r1 : ∀ i (hi : i < first.length), RelC G.I first[i] (a1.getD i Go.undef))
   (r2 : ∀ i (hi : i < caps.length), Rel G k nl caps[i] (a2.getD i Go.undef)) : Rel G k nl (.fn f first caps) (.func (.func f) a1 a2)
def TokLe (T T' : TokG) : Prop := T'.es = T.es ∧ (T' = T ∨ T'.n = none ∨ ∃ n n', T.n = some n ∧ T'.n = some n' ∧ n < n')
theorem TokLe.refl (T : TokG) : TokLe T T := ⟨rfl, .inl rfl⟩
theorem TokLe.trans {T T' T'' : TokG} (h : TokLe T T') (h' : TokLe T' T'') : TokLe T T'' := by
 obtain ⟨e, h⟩ := h
 obtain ⟨e', h'⟩ := h'
 refine ⟨e'.trans e, ?_⟩
 rcases h' with rfl | h' | ⟨n, n', h1, h2, h3⟩
 ·exact h
 ·exact .inr (.inl h')
 ·rcases h with rfl | h | ⟨m, m', h4, h5, h6⟩
  ·exact .inr (.inr ⟨n, n', h1, h2, h3⟩)
  ·rw [h] at h1; cases h1
  ·rw [h5] at h1
   injection h1 with h1
   exact .inr (.inr ⟨m, n', h4, h2, by omega⟩)
structure RecLe (gr gr' : GRec) : Prop where
 bl : ∀ (b blk : Nat), gr.bl[b]? = some (some blk) → gr'.bl[b]? = some (some blk)
 tk : ∀ (g : Nat) (T : TokG), gr.tk[g]? = some T → ∃ T', gr'.tk[g]? = some T' ∧ TokLe T T'
 nl : gr'.nl = gr.nl
 gs : ∀ b n, gr.gs b = some n → gr'.gs b = some n
theorem RecLe.refl (gr : GRec) : RecLe gr gr := ⟨fun _ _ h => h, fun _ T h => ⟨T, h, .refl T⟩, rfl, fun _ _ h => h⟩
theorem RecLe.trans {a b c : GRec} (h : RecLe a b) (k : RecLe b c) : RecLe a c :=
 ⟨fun i x e => k.bl i x (h.bl i x e), fun g T e => let ⟨T', e', l'⟩ := h.tk g T e; let ⟨T'', e'', l''⟩ := k.tk g T' e'; ⟨T'', e'', l'.trans l''⟩, k.nl.trans h.nl, fun b n e => k.gs b n (h.gs b n e)⟩
structure GLe (k nl : Nat) (G G' : Ghost) : Prop where
 I : ∀ b i v, G.I b i = some v → G'.I b i = some v
 acts : ∀ (d : Nat) (gr : GRec), d ≤ k → G.acts[d]? = some gr → ∃ gr', G'.acts[d]? = some gr' ∧ RecLe gr gr' ∧ (d < k → gr'.marks = gr.marks)
 loops : ∀ (l r : Nat), l < nl → G.loops[l]? = some r → G'.loops[l]? = some r
theorem GLe.refl (k nl : Nat) (G : Ghost) : GLe k nl G G := ⟨fun _ _ _ h => h, fun _ gr _ h => ⟨gr, h, .refl gr, fun _ => rfl⟩, fun _ _ _ h => h⟩
theorem GLe.trans {k nl : Nat} {a b c : Ghost} (h : GLe k nl a b) (h' : GLe k nl b c) : GLe k nl a c :=
  ⟨fun i j v e => h'.I i j v (h.I i j v e), fun d gr hd e => let ⟨gr', e', l', m'⟩ := h.acts d gr hd e; let ⟨gr'', e'', l'', m''⟩ := h'.acts d gr' hd e'; ⟨gr'', e'', l'.trans l'', fun hlt => (m'' hlt).trans (m' hlt)⟩,
   fun l r hl e => h'.loops l r hl (h.loops l r hl e)⟩
theorem GLe.less {k nl k' nl' : Nat} {G G' : Ghost} (h : GLe k nl G G') (hk : k' ≤ k) (hl : nl' ≤ nl) : GLe k' nl' G G' :=
 ⟨h.I, fun d gr hd e => let ⟨gr', e', l', m'⟩ := h.acts d gr (by omega) e; ⟨gr', e', l', fun hlt => m' (by omega)⟩, fun l r hlt e => h.loops l r (by omega) e⟩
theorem RelC.mono {I I' : IMap} (hI : ∀ b i v, I b i = some v → I' b i = some v) {x : AV} {y : Value} (h : RelC I x y) : RelC I' x y := by
 induction h with
 | v h => exact .v h
 | nilS => exact .nilS
 | slice f ho hc hes hcell h1 _ ih => exact .slice f ho hc hes hcell (fun i hi j hj => hI _ _ _ (h1 i hi j hj)) ih
 | empty ho => exact .empty ho
 | eptr f hcell h1 _ ih => exact .eptr f hcell (fun i hi => hI _ _ _ (h1 i hi)) ih
 | iface _ ih => exact .iface ih
 | agg hl hcell _ ih => exact .agg hl hcell ih
 | fn l1 l2 _ _ ih1 ih2 => exact .fn l1 l2 ih1 ih2
theorem Rel.mono {G G' : Ghost} {k nl k' nl' : Nat} (h : GLe k nl G G') (hk : k ≤ k') (hl : nl ≤ nl') {x : AV} {y : Value} (r : Rel G k nl x y) : Rel G' k' nl' x y := by
 induction r with
 | cl hc => exact .cl (hc.mono h.I)
 | undef => exact .undef
 | tok T gr hd hg ht hes hc hn =>
  obtain ⟨gr', hg', hle, _⟩ := h.acts _ _ hd hg
  obtain ⟨T', ht', he, hT⟩ := hle.tk _ _ ht
  refine .tok T' gr' (by omega) hg' ht' (he.trans hes) (hc.mono h.I) (fun n hn' => ?_)
  rcases hT with rfl | hT | ⟨m, m', h1, h2, h3⟩
  ·exact hn n hn'
  ·rw [hT] at hn'; cases hn'
  ·rw [h2] at hn'
   injection hn' with hn'
   have := (hn m h1).1
   exact ⟨by omega, fun e => by omega⟩
 | ptr gr hd hg hb =>
  obtain ⟨gr', hg', hle, _⟩ := h.acts _ _ hd hg
  exact .ptr gr' (by omega) hg' (hle.bl _ _ hb)
 | rsl gr hd hg hb hn hc hw ho =>
  obtain ⟨gr', hg', hle, _⟩ := h.acts _ _ hd hg
  exact .rsl gr' (by omega) hg' (hle.bl _ _ hb) hn hc (fun e1 e2 => hle.gs _ _ (hw e1 e2)) ho
 | yield hlt he => exact .yield (by omega) (h.loops _ _ hlt he)
 | agg hl' hcell _ ih => exact .agg hl' hcell ih
 | tuple hl' _ ih => exact .tuple hl' ih
 | fn l1 l2 r1 _ ih => exact .fn l1 l2 (fun i hi => (r1 i hi).mono h.I) ih
def BoxRel (B0 : Nat) (G : Ghost) (d nl b : Nat) (g : Option Nat) (cs : List AV) (blk : Nat) (w : World) : Prop :=
 B0 ≤ blk ∧ (∃ x, G.own blk = some (.box d x) ∧ (cs ≠ [] → x = b)) ∧ (cs ≠ [] → ∀ i, G.I blk i = none) ∧
  ∃ arr ty, w.heap[blk]? = some (.cells arr ty) ∧ cs.length ≤ arr.size ∧ (cs ≠ [] → ∀ n, g = some n → arr.size = n) ∧ ∀ i (hi : i < cs.length), cs[i].isCell = true ∧ Rel G d nl cs[i] (arr.getD i Go.undef)
def TokRel (B0 : Nat) (G : Ghost) (d g : Nat) (n : Option Nat) (T : TokG) (w : World) : Prop :=
 T.n = n ∧ ∀ m, n = some m → B0 ≤ T.blk ∧ G.own T.blk = some (.tok d g) ∧ (∀ i, m * T.es ≤ i → G.I T.blk i = none) ∧
  m ≤ T.cap ∧ 0 < T.es ∧ ∃ arr ty, w.heap[T.blk]? = some (.cells arr ty) ∧ arr.size = T.cap * T.es
def MarkRel (B0 : Nat) (G : Ghost) (d i b : Nat) (w : World) : Prop :=
 B0 ≤ b ∧ G.own b = some (.mark d i) ∧ w.heap[b]? = some (.deferred (some []))
structure RecRel (B0 : Nat) (G : Ghost) (d : Nat) (r : Rec) (gr : GRec) (w : World) : Prop where
 blen : gr.bl.length = r.boxes.length
 tlen : gr.tk.length = r.toks.length
 box : ∀ (b : Nat) (cs : List AV) (blk : Nat), r.boxes[b]? = some cs → gr.bl[b]? = some (some blk) → BoxRel B0 G d gr.nl b (gr.gs b) cs blk w
 full : ∀ (b blk : Nat), gr.bl[b]? = some (some blk) → r.boxes[b]? = some [] → none ∈ r.toks
 tok : ∀ (g : Nat) (n : Option Nat) (T : TokG), r.toks[g]? = some n → gr.tk[g]? = some T → TokRel B0 G d g n T w
 mark : ∀ (i b : Nat), gr.marks[i]? = some b → MarkRel B0 G d i b w
 gsl : ∀ (b n : Nat), gr.gs b = some n → ∃ blk, gr.bl[b]? = some (some blk)
def exitCode : AExit → Option Code
 | .normal => none
 | .exit id => some (.exit id)
 | .ret => some .ret
def LoopObj (P : Program) (G : Ghost) (l : Nat) (lp : ALoop) (rc : Loop) : Prop :=
 (lp.ready = true → rc.state = .ready ∧ lp.pend = none) ∧
  (lp.ready = false → rc.state = (if lp.pend.isSome then .done else .busy)) ∧ rc.pending = lp.pend.bind exitCode ∧ lp.pend ≠ some .normal ∧
  rc.params.toList = lp.params ∧ (∃ mu, comp P mu rc.assign = some lp.assign ∧ comp P mu rc.body = some lp.body) ∧ tmpsOk rc.tmps.size lp.assign = true ∧ tmpsOk rc.tmps.size lp.body = true ∧
  (∀ p, p ∈ lp.params → p < rc.tmps.size) ∧
  ∃ k nl, k + 1 ≤ G.acts.length ∧ nl ≤ l ∧ (∀ d gr, G.acts[d]? = some gr → l < gr.nl → k < d) ∧ ∀ t, Rel G k nl (lp.tmps t) (rc.tmps.getD t Go.undef)
def LoopRel (P : Program) (B0 : Nat) (G : Ghost) (l : Nat) (lp : ALoop) (r : Nat) (w : World) : Prop :=
 B0 ≤ r ∧ G.own r = some (.loop l) ∧ ∃ rc : Loop, w.heap[r]? = some (.loop rc) ∧ LoopObj P G l lp rc
structure SRel (P : Program) (B0 : Nat) (w0 : World) (G : Ghost) (s : Sig) (w : World) : Prop where
 imm : ∀ (b i : Nat) (v : Value), G.I b i = some v → w.cell? ⟨b, i, none⟩ = some v
 len : G.acts.length = s.acts.length
 llen : G.loops.length = s.loops.length
 rec_ : ∀ (d : Nat) (r : Rec) (gr : GRec), s.acts[d]? = some r → G.acts[d]? = some gr → RecRel B0 G d r gr w
 loop : ∀ (l : Nat) (lp : ALoop) (r : Nat), s.loops[l]? = some lp → G.loops[l]? = some r → LoopRel P B0 G l lp r w
 nls : ∀ (d : Nat) (gr : GRec), G.acts[d]? = some gr → gr.nl ≤ s.loops.length
 nlm : ∀ (d d' : Nat) (gr gr' : GRec), d ≤ d' → G.acts[d]? = some gr → G.acts[d']? = some gr' → gr.nl ≤ gr'.nl
 below : Below B0 w0 w
 low : B0 ≤ w.heap.size
 ownlt : ∀ (b : Nat) (o : Owner), G.own b = some o → b < w.heap.size
section
variable {P : Program} {B0 : Nat} {w0 : World} {G G' : Ghost} {w w' : World}
theorem BoxRel.keep {d nl b blk : Nat} {g : Option Nat} {cs : List AV} (h : BoxRel B0 G d nl b g cs blk w) (hle : GLe d nl G G') (ho : ∀ x, G.own blk = some (.box d x) → G'.own blk = some (.box d x)) (hh : w'.heap[blk]? = w.heap[blk]?)
  (hI : ∀ i, G.I blk i = none → G'.I blk i = none) : BoxRel B0 G' d nl b g cs blk w' := by
 obtain ⟨h1, ⟨x, h2, h2'⟩, h3, arr, ty, h4, h5, h7, h6⟩ := h
 exact ⟨h1, ⟨x, ho x h2, h2'⟩, fun hn i => hI i (h3 hn i), arr, ty, hh.trans h4, h5, h7, fun i hi => ⟨(h6 i hi).1, (h6 i hi).2.mono hle (Nat.le_refl _) (Nat.le_refl _)⟩⟩
theorem BoxRel.kept {X : Owner → Prop} {d nl b blk : Nat} {g : Option Nat} {cs : List AV} (h : BoxRel B0 G d nl b g cs blk w) (hle : GLe d nl G G') (hk : ∀ b o, G.own b = some o → ¬ X o → G'.own b = some o ∧ w'.heap[b]? = w.heap[b]? ∧ ∀ i, G.I b i = none → G'.I b i = none)
  (hX : ∀ x, ¬ X (.box d x)) : BoxRel B0 G' d nl b g cs blk w' := by
 obtain ⟨x, h2, _⟩ := h.2.1
 obtain ⟨k1, k2, k3⟩ := hk _ _ h2 (hX x)
 exact h.keep hle (fun y e => by rw [h2] at e; injection e with e; rw [← e]; exact k1) k2 k3
theorem TokRel.keep {d g : Nat} {n : Option Nat} {T : TokG} (h : TokRel B0 G d g n T w) (ho : n.isSome → G'.own T.blk = some (.tok d g)) (hh : n.isSome → w'.heap[T.blk]? = w.heap[T.blk]?)
  (hI : n.isSome → ∀ i, G.I T.blk i = none → G'.I T.blk i = none) : TokRel B0 G' d g n T w' := by
 obtain ⟨h1, h2⟩ := h
 refine ⟨h1, fun m hm => ?_⟩
 have hs : n.isSome = true := by rw [hm]; rfl
 obtain ⟨a1, _, a3, a4, a5, arr, ty, a6, a7⟩ := h2 m hm
 exact ⟨a1, ho hs, fun i hi => hI hs i (a3 i hi), a4, a5, arr, ty, (hh hs).trans a6, a7⟩
theorem MarkRel.keep {d i b : Nat} (h : MarkRel B0 G d i b w) (ho : G'.own b = some (.mark d i)) (hh : w'.heap[b]? = w.heap[b]?) : MarkRel B0 G' d i b w' :=
 ⟨h.1, ho, hh.trans h.2.2⟩
theorem LoopObj.keep {l : Nat} {lp : ALoop} {rc : Loop} (h : LoopObj P G l lp rc) (hle : ∀ k nl, k + 1 ≤ G.acts.length → nl ≤ l → GLe k nl G G') (hlen : G.acts.length ≤ G'.acts.length) : LoopObj P G' l lp rc := by
 obtain ⟨a1, a2, a3, a4, a5, a6, a8, a9, a10, k, nl, a11, a12, a14, a13⟩ := h
 refine ⟨a1, a2, a3, a4, a5, a6, a8, a9, a10, k, nl, by omega, a12, fun d gr' hg hl => ?_, fun t => (a13 t).mono (hle k nl a11 a12) (Nat.le_refl _) (Nat.le_refl _)⟩
 by_cases hd : d < G.acts.length
 ·obtain ⟨gr'', e, hr, _⟩ := (hle d 0 hd (Nat.zero_le _)).acts d _ (Nat.le_refl _) (List.getElem?_eq_getElem hd)
  rw [hg] at e
  injection e with e
  exact a14 d _ (List.getElem?_eq_getElem hd) (by rw [← hr.nl, ← e]; exact hl)
 ·omega
theorem LoopRel.keep {l r : Nat} {lp : ALoop} (h : LoopRel P B0 G l lp r w) (hle : ∀ k nl, k + 1 ≤ G.acts.length → nl ≤ l → GLe k nl G G') (hlen : G.acts.length ≤ G'.acts.length)
  (ho : G'.own r = some (.loop l)) (hh : w'.heap[r]? = w.heap[r]?) : LoopRel P B0 G' l lp r w' := by
 obtain ⟨h1, _, rc, h3, h4⟩ := h
 exact ⟨h1, ho, rc, hh.trans h3, h4.keep hle hlen⟩
def KeepsOwn (X : Owner → Prop) (G : Ghost) (w : World) (G' : Ghost) (w' : World) : Prop :=
 ∀ b o, G.own b = some o → ¬ X o → G'.own b = some o ∧ w'.heap[b]? = w.heap[b]? ∧ ∀ i, G.I b i = none → G'.I b i = none
theorem RecRel.keep {X : Owner → Prop} {d : Nat} {r : Rec} {gr : GRec} (h : RecRel B0 G d r gr w) (hle : GLe d gr.nl G G') (hk : KeepsOwn X G w G' w')
  (hX : ∀ o, X o → (∀ b, o ≠ .box d b) ∧ (∀ g, o ≠ .tok d g) ∧ ∀ i, o ≠ .mark d i) : RecRel B0 G' d r gr w' := by
 refine ⟨h.blen, h.tlen, fun b cs blk h1 h2 => ?_, h.full, fun g n T h1 h2 => ?_, fun i b h1 => ?_, fun b n h1 => ?_⟩
 ·exact (h.box b cs blk h1 h2).kept hle hk (fun x hx => (hX _ hx).1 x rfl)
 ·have ht := h.tok g n T h1 h2
  have hs : ∀ (hn : n.isSome = true), G'.own T.blk = some (.tok d g) ∧ w'.heap[T.blk]? = w.heap[T.blk]? ∧ ∀ i, G.I T.blk i = none → G'.I T.blk i = none := fun hn => by
   obtain ⟨m, hm⟩ := Option.isSome_iff_exists.1 hn
   exact hk _ _ (ht.2 m hm).2.1 (fun hx => (hX _ hx).2.1 g rfl)
  exact ht.keep (fun hn => (hs hn).1) (fun hn => (hs hn).2.1) (fun hn => (hs hn).2.2)
 ·have hm := h.mark i b h1
  obtain ⟨k1, k2, _⟩ := hk _ _ hm.2.1 (fun hx => (hX _ hx).2.2 i rfl)
  exact hm.keep k1 k2
 ·exact h.gsl b n h1
theorem SRel.keep {s : Sig} (h : SRel P B0 w0 G s w) (hI : ∀ b i v, G.I b i = some v → G'.I b i = some v) (ha : G'.acts = G.acts) (hl : G'.loops = G.loops)
  (hk : KeepsOwn (fun _ => False) G w G' w') (him : ∀ b i v, G'.I b i = some v → w'.cell? ⟨b, i, none⟩ = some v) (hb : Below B0 w w')
  (hol : ∀ b o, G'.own b = some o → b < w'.heap.size) : SRel P B0 w0 G' s w' := by
 have hle : ∀ k nl, GLe k nl G G' := fun k nl => ⟨hI, fun d gr _ e => ⟨gr, by rw [ha]; exact e, .refl gr, fun _ => rfl⟩, fun l r _ e => by rw [hl]; exact e⟩
 refine ⟨him, by rw [ha]; exact h.len, by rw [hl]; exact h.llen, fun d r gr h1 h2 => ?_, fun l lp r h1 h2 => ?_, fun d gr h1 => h.nls d gr (by rw [← ha]; exact h1), by rw [ha]; exact h.nlm, h.below.trans hb, Nat.le_trans h.low hb.size, hol⟩
 ·rw [ha] at h2
  exact (h.rec_ d r gr h1 h2).keep (hle _ _) hk (fun o ho => ho.elim)
 ·rw [hl] at h2
  have hr := h.loop l lp r h1 h2
  obtain ⟨k1, k2, _⟩ := hk _ _ hr.2.1 (fun hx => hx)
  exact hr.keep (fun k nl _ _ => hle k nl) (by rw [ha]; exact Nat.le_refl _) k1 k2
theorem SRel.drew {s : Sig} (h : SRel P B0 w0 G s w) : SRel P B0 w0 G s w.drew :=
 h.keep (fun _ _ _ e => e) rfl rfl (fun _ _ e _ => ⟨e, rfl, fun _ h => h⟩) (fun b i v e => h.imm b i v e) ((Below.refl _ _).drew) h.ownlt
theorem SRel.I_lt {s : Sig} (h : SRel P B0 w0 G s w) {b i : Nat} {v : Value} (e : G.I b i = some v) : b < w.heap.size :=
 World.block_lt_of_cell? _ _ (h.imm b i v e)
theorem SRel.I_new {s : Sig} (h : SRel P B0 w0 G s w) (i : Nat) : G.I w.heap.size i = none := by
 cases e : G.I w.heap.size i with
 | none => rfl
 | some v => have := h.I_lt e; omega
def Ghost.addI (G : Ghost) (b : Nat) (arr : Array Value) : Ghost := { G with I := fun c i => if c = b then arr[i]? else G.I c i }
theorem Ghost.addI_le (G : Ghost) (b : Nat) (arr : Array Value) (hn : ∀ i, G.I b i = none) (k nl : Nat) : GLe k nl G (G.addI b arr) :=
 ⟨fun c i v e => by
  simp only [Ghost.addI]
  split
  ·rename_i hc; subst hc; rw [hn] at e; cases e
  ·exact e, fun d gr _ e => ⟨gr, e, .refl gr, fun _ => rfl⟩, fun _ _ _ e => e⟩
theorem SRel.allocI {s : Sig} (h : SRel P B0 w0 G s w) (arr : Array Value) (ty : TypeId) (fz : Nat × Nat) : SRel P B0 w0 (G.addI w.heap.size arr) s (w.alloc (.cells arr ty fz)) := by
 have hle := G.addI_le w.heap.size arr h.I_new 0 0
 refine h.keep hle.I rfl rfl (fun b o e _ => ⟨e, Below.heap_alloc _ _ _ (h.ownlt _ _ e), fun i hi => ?_⟩) (fun b i v e => ?_) ((Below.refl _ _).alloc h.low _) (fun b o e => ?_)
 ·simp only [Ghost.addI]
  rw [if_neg (by have := h.ownlt _ _ e; omega)]
  exact hi
 ·simp only [Ghost.addI] at e
  split at e
  ·rename_i hb
   subst hb
   have hn : (w.alloc (.cells arr ty fz)).heap[w.heap.size]? = some (.cells arr ty fz) := World.alloc_heap_new w _
   simp only [World.cell?, hn]
   exact e
  ·have := h.imm b i v e
   rw [World.cell?_alloc_old _ _ _ (by rename_i hb; exact hb)]
   exact this
 ·have := h.ownlt b o e
  simp; omega
end
end Go.Ax

/-
  Operations that only compute: what the abstract executor gives is what the model's run gives.
-/
namespace Go.Ax
open Go.RowKit
section
variable {P : Program} {B0 : Nat} {w0 : World} {G : Ghost} {k nl : Nat} {w : World}
theorem Rel.inv_v {x y : Value} (h : Rel G k nl (.v x) y) : y = x := by
 cases h with
 | cl h => cases h; rfl
 | undef => rfl
abbrev SliceC (I : IMap) (es : Nat) (xs : List (List AV)) (a : Addr) (cap : Nat) : Prop := RelC I (.slice .any es xs) (.slice (some a) xs.length cap)
theorem Rel.inv_slice {o : Own} {es : Nat} {xs : List (List AV)} {y : Value} (h : Rel G k nl (.slice o es xs) y) :
  (o = .nilS ∧ xs = [] ∧ y = .slice none 0 0) ∨ (o ≠ .nilS ∧ ∃ a cap, y = .slice (some a) xs.length cap ∧ (0 < cap → a.spot = none) ∧ xs.length ≤ cap ∧ SliceC G.I es xs a cap ∧ (o = .full → cap = xs.length)) := by
 cases h with
 | cl h =>
  cases h with
  | nilS => exact .inl ⟨rfl, rfl, rfl⟩
  | slice f ho hc hes hcell hI hR =>
   refine .inr ⟨by rcases ho with rfl | ⟨rfl, _⟩ <;> simp, _, _, rfl, fun _ => rfl, hc, .slice f (.inl rfl) hc hes hcell hI hR, ?_⟩
   rintro rfl
   rcases ho with h | ⟨_, h⟩
   ·cases h
   ·exact h
  | empty ho =>
   exact .inr ⟨by rcases ho with rfl | rfl <;> simp, _, _, rfl, fun h => absurd h (Nat.lt_irrefl _), Nat.le_refl _, .empty (.inl rfl), fun _ => rfl⟩
 | tok T gr hd hg ht hes hc hn =>
  refine .inr ⟨by simp, _, _, rfl, ?_, ?_, hc, by simp⟩
  ·cases hc with
   | slice => exact fun _ => rfl
   | empty => exact fun h => absurd h (Nat.lt_irrefl _)
  ·cases hc with
   | slice f ho hc => exact hc
   | empty => exact Nat.le_refl _
theorem Rel.inv_ptr {d b off : Nat} {y : Value} (h : Rel G k nl (.ptr d b off) y) :
  ∃ blk gr, y = .pointer (some ⟨blk, off, none⟩) ∧ d ≤ k ∧ G.acts[d]? = some gr ∧ gr.bl[b]? = some (some blk) := by
 cases h with
 | cl h => cases h
 | ptr gr hd hg hb => exact ⟨_, gr, rfl, hd, hg, hb⟩
theorem Rel.inv_rsl {d b off es n cap : Nat} {y : Value} (h : Rel G k nl (.rsl d b off es n cap) y) :
  ∃ blk gr rc o0, y = .slice (some ⟨blk, o0, none⟩) n rc ∧ d ≤ k ∧ G.acts[d]? = some gr ∧ gr.bl[b]? = some (some blk) ∧ n ≤ rc ∧ cap ≤ rc ∧ (cap = 0 → 0 < n → gr.gs b = some (rc * es)) ∧ (0 < n ∨ 0 < cap → o0 = off) := by
 cases h with
 | cl h => cases h
 | rsl gr hd hg hb hn hc hw ho => exact ⟨_, gr, _, _, rfl, hd, hg, hb, hn, hc, hw, ho⟩
theorem Rel.inv_eptr {cs : List AV} {off : Nat} {y : Value} (h : Rel G k nl (.eptr cs off) y) :
  ∃ (blk o0 : Nat) (f : Nat → Value), y = .pointer (some ⟨blk, o0 + off, none⟩) ∧ (∀ c, c ∈ cs → c.isCell = true) ∧ (∀ i, i < cs.length → G.I blk (o0 + i) = some (f i)) ∧ ∀ i (hi : i < cs.length), RelC G.I cs[i] (f i) := by
 cases h with
 | cl h => cases h with | eptr f hcell hI hR => exact ⟨_, _, f, rfl, hcell, hI, hR⟩
theorem Rel.inv_agg {cs : List AV} {y : Value} (h : Rel G k nl (.agg cs) y) :
  ∃ arr : Array Value, y = .agg arr ∧ arr.size = cs.length ∧ (∀ c, c ∈ cs → c.isCell = true) ∧ ∀ i (hi : i < cs.length), Rel G k nl cs[i] (arr.getD i Go.undef) := by
 cases h with
 | cl h => cases h with | agg hl hcell hR => exact ⟨_, rfl, hl, hcell, fun i hi => .cl (hR i hi)⟩
 | agg hl hcell hR => exact ⟨_, rfl, hl, hcell, hR⟩
theorem Rel.inv_tuple {vs : List AV} {y : Value} (h : Rel G k nl (.tuple vs) y) :
  ∃ arr : Array Value, y = .tuple arr ∧ arr.size = vs.length ∧ ∀ i (hi : i < vs.length), Rel G k nl vs[i] (arr.getD i Go.undef) := by
 cases h with
 | cl h => cases h
 | tuple hl hR => exact ⟨_, rfl, hl, hR⟩
theorem Rel.inv_fn {f : FuncId} {first caps : List AV} {y : Value} (h : Rel G k nl (.fn f first caps) y) :
  ∃ a1 a2 : Array Value, y = .func (.func f) a1 a2 ∧ a1.size = first.length ∧ a2.size = caps.length ∧ (∀ i (hi : i < first.length), RelC G.I first[i] (a1.getD i Go.undef)) ∧
   ∀ i (hi : i < caps.length), Rel G k nl caps[i] (a2.getD i Go.undef) := by
 cases h with
 | cl h => cases h with | fn l1 l2 r1 r2 => exact ⟨_, _, rfl, l1, l2, r1, fun i hi => .cl (r2 i hi)⟩
 | fn l1 l2 r1 r2 => exact ⟨_, _, rfl, l1, l2, r1, r2⟩
theorem Rel.inv_yield {l : Nat} {y : Value} (h : Rel G k nl (.yield l) y) : ∃ r, y = .func (.yield r) #[] #[] ∧ l < nl ∧ G.loops[l]? = some r := by
 cases h with
 | cl h => cases h
 | yield hl h => exact ⟨_, rfl, hl, h⟩
theorem Rel.inv_iface {t : TypeId} {x : AV} {y : Value} (h : Rel G k nl (.iface t x) y) : ∃ z, y = .iface t z ∧ RelC G.I x z := by
 cases h with
 | cl h => cases h with | iface h => exact ⟨_, rfl, h⟩
theorem RelC.one {I : IMap} {x : AV} {y : Value} (h : RelC I x y) (hc : x.isCell = true) : y.cells = #[y] := by
 cases h with
 | v h => cases y <;> first | rfl | simp [plain] at h
 | agg => cases hc
 | _ => rfl
theorem Rel.one {x : AV} {y : Value} (h : Rel G k nl x y) (hc : x.isCell = true) : y.cells = #[y] := by
 cases h with
 | cl h => exact h.one hc
 | undef => rfl
 | agg => cases hc
 | _ => rfl
theorem Rel.closed1 {x : AV} {y : Value} (h : Rel G k nl x y) (hc : x.isClosed1 = true) : RelC G.I x y := by
 cases h with
 | cl h => exact h
 | undef => cases hc
 | tok => cases hc
 | ptr => cases hc
 | rsl => cases hc
 | yield => cases hc
 | agg => cases hc
 | tuple => cases hc
 | fn => cases hc
theorem Rel.closedV {x : AV} {y : Value} (h : Rel G k nl x y) (hc : x.isClosedV = true) : RelC G.I x y := by
 cases x with
 | agg cs =>
  obtain ⟨arr, rfl, hl, hcell, hR⟩ := h.inv_agg
  refine .agg hl hcell (fun i hi => (hR i hi).closed1 ?_)
  exact List.all_eq_true.1 hc _ (List.getElem_mem hi)
 | _ => exact h.closed1 hc
theorem Rel.closed {x : AV} {y : Value} (h : Rel G k nl x y) (hc : x.isClosed = true) : RelC G.I x y := by
 cases x with
 | iface t x =>
  obtain ⟨z, rfl, hz⟩ := h.inv_iface
  exact .iface hz
 | fn f first caps =>
  obtain ⟨a1, a2, rfl, l1, l2, r1, r2⟩ := h.inv_fn
  simp only [AV.isClosed, Bool.and_eq_true] at hc
  exact .fn l1 l2 r1 (fun i hi => (r2 i hi).closed1 (List.all_eq_true.1 hc.2 _ (List.getElem_mem hi)))
 | _ => exact h.closed1 hc
theorem Rel.close {x z : AV} {y : Value} (h : Rel G k nl x y) (hc : x.close = some z) : RelC G.I z y := by
 by_cases hx : ∃ d g es xs, x = .slice (.tok d g) es xs
 ·obtain ⟨d, g, es, xs, rfl⟩ := hx
  simp only [AV.close] at hc
  injection hc with hc
  subst hc
  rcases h.inv_slice with ⟨h1, _⟩ | ⟨_, a, cap, rfl, _, _, h4, _⟩
  ·cases h1
  ·exact h4
 ·have : x.close = if x.isClosed then some x else none := by
   unfold AV.close
   split
   ·exact absurd ⟨_, _, _, _, rfl⟩ hx
   ·rfl
  rw [this] at hc
  split at hc
  ·injection hc with hc
   subst hc
   exact h.closed (by assumption)
  ·cases hc
theorem close_isCell {x z : AV} (h : x.close = some z) (hc : x.isCell = true) : z.isCell = true := by
 unfold AV.close at h
 split at h
 ·injection h with h; subst h; rfl
 ·split at h
  ·injection h with h; subst h; exact hc
  ·cases h
theorem closeAll_spec {cs ds : List AV} (h : closeAll cs = some ds) : ds.length = cs.length ∧ ∀ i (hi : i < cs.length) (hj : i < ds.length), cs[i].close = some ds[i] := by
 induction cs generalizing ds with
 | nil => simp only [closeAll] at h; injection h with h; subst h; exact ⟨rfl, fun i hi => absurd hi (Nat.not_lt_zero _)⟩
 | cons x r ih =>
  simp only [closeAll] at h
  split at h
  ·rename_i y s hy hs
   injection h with h
   subst h
   obtain ⟨h1, h2⟩ := ih hs
   refine ⟨by simp [h1], fun i hi hj => ?_⟩
   cases i with
   | zero => exact hy
   | succ i => exact h2 i (by simpa using hi) (by simpa using hj)
  ·cases h
theorem ofCell_rel {x : Value} {c : AV} {I : IMap} (h : ofCell x = some c) : RelC I c x ∧ c.isCell = true := by
 unfold ofCell at h
 split at h
 all_goals first
  | (injection h with h; subst h; exact ⟨.v rfl, rfl⟩)
  | (injection h with h; subst h; exact ⟨.nilS, rfl⟩)
  | skip
 ·split at h
  ·rename_i hz
   injection h with h
   subst h
   refine ⟨.fn (by simpa using hz.1) (by simpa using hz.2) (fun i hi => absurd hi (Nat.not_lt_zero _)) (fun i hi => absurd hi (Nat.not_lt_zero _)), rfl⟩
  ·cases h
 ·cases h
theorem mapO_spec {α β : Type} {f : α → Option β} {l : List α} {r : List β} (h : mapO f l = some r) : r.length = l.length ∧ ∀ i (hi : i < l.length) (hj : i < r.length), f l[i] = some r[i] := by
 induction l generalizing r with
 | nil => simp only [mapO] at h; injection h with h; subst h; exact ⟨rfl, fun i hi => absurd hi (Nat.not_lt_zero _)⟩
 | cons x s ih =>
  simp only [mapO] at h
  split at h
  ·rename_i y t hy ht
   injection h with h
   subst h
   obtain ⟨h1, h2⟩ := ih ht
   refine ⟨by simp [h1], fun i hi hj => ?_⟩
   cases i with
   | zero => exact hy
   | succ i => exact h2 i (by simpa using hi) (by simpa using hj)
  ·cases h
theorem cells_rel {I : IMap} {arr : Array Value} {cs : List AV} (h : mapO ofCell arr.toList = some cs) :
  arr.size = cs.length ∧ (∀ c, c ∈ cs → c.isCell = true) ∧ ∀ i (hi : i < cs.length), RelC I cs[i] (arr.getD i Go.undef) := by
 obtain ⟨h1, h2⟩ := mapO_spec h
 have hl : arr.size = cs.length := by simpa using h1.symm
 have hz : ∀ i (hi : i < cs.length), RelC I cs[i] (arr.getD i Go.undef) ∧ cs[i].isCell = true := fun i hi => by
  have := h2 i (by simpa using hl ▸ hi) hi
  have hr := ofCell_rel (I := I) this
  have he : arr.getD i Go.undef = arr.toList[i]'(by simpa using hl ▸ hi) := by simp [Array.getD, hl, hi]
  rw [he]
  exact hr
 refine ⟨hl, fun c hc => ?_, fun i hi => (hz i hi).1⟩
 obtain ⟨i, hi, rfl⟩ := List.getElem_of_mem hc
 exact (hz i hi).2
theorem ofValue_rel {x : Value} {c : AV} {I : IMap} (h : ofValue x = some c) : RelC I c x := by
 unfold ofValue at h
 split at h
 ·rename_i cs
  cases hm : mapO ofCell cs.toList with
  | none => rw [hm] at h; cases h
  | some l =>
   rw [hm] at h
   injection h with h
   subst h
   obtain ⟨h1, h2, h3⟩ := cells_rel (I := I) hm
   exact .agg h1 h2 h3
 ·exact (ofCell_rel h).1
def TmpsRel (G : Ghost) (k nl : Nat) (ρ : Nat → AV) (a : Act) : Prop := ∀ t, Rel G k nl (ρ t) (a.tmps.getD t Go.undef)
theorem opd_rel {x : Operand} {ax : AOpd} {ρ : Nat → AV} {a : Act} (hc : compOpd x = some ax) (hR : TmpsRel G k nl ρ a) : Rel G k nl (evalT ρ ax) (a.eval x) := by
 cases x with
 | tmp t => simp only [compOpd] at hc; injection hc with hc; subst hc; exact hR t
 | const c =>
  simp only [compOpd] at hc
  cases hv : ofValue c with
  | none => rw [hv] at hc; cases hc
  | some z =>
   rw [hv] at hc
   injection hc with hc
   subst hc
   exact .cl (ofValue_rel hv)
 | func f =>
  simp only [compOpd] at hc
  injection hc with hc
  subst hc
  exact .cl (.fn rfl rfl (fun i hi => absurd hi (Nat.not_lt_zero _)) (fun i hi => absurd hi (Nat.not_lt_zero _)))
 | global g => cases hc
end
end Go.Ax

/-
  Memory: loads, stores and new boxes.
-/
namespace Go.Ax
open Go.RowKit
section
variable {P : Program} {B0 : Nat} {w0 : World} {G : Ghost} {k nl : Nat} {w : World} {s : Sig}
def Row2 (R : AV → Value → Prop) (cs : List AV) (arr : Array Value) : Prop :=
 arr.size = cs.length ∧ ∀ i (hi : i < cs.length), R cs[i] (arr.getD i Go.undef)
theorem Row2.set {R : AV → Value → Prop} {cs : List AV} {arr : Array Value} (h : Row2 R cs arr) {x : AV} {v : Value} (hx : R x v) (o : Nat) : Row2 R (cs.set o x) (arr.setIfInBounds o v) := by
 refine ⟨by simp [h.1], fun i hi => ?_⟩
 have hi' : i < cs.length := by simpa using hi
 rw [List.getElem_set]
 by_cases ho : o = i
 ·subst ho
  rw [if_pos rfl]
  have : (arr.setIfInBounds o v).getD o Go.undef = v := by simp [Array.getD, h.1, hi']
  rw [this]
  exact hx
 ·rw [if_neg ho]
  have : (arr.setIfInBounds o v).getD i Go.undef = arr.getD i Go.undef := by
   simp [Array.getD, h.1, hi', ho]
  rw [this]
  exact h.2 i hi'
def setA (arr : Array Value) (o : Nat) : List Value → Array Value
 | [] => arr
 | v :: r => setA (arr.setIfInBounds o v) (o + 1) r
theorem setA_size (arr : Array Value) (o : Nat) (vs : List Value) : (setA arr o vs).size = arr.size := by
 induction vs generalizing arr o with
 | nil => rfl
 | cons v r ih => simp [setA, ih]
theorem Row2.setA {R : AV → Value → Prop} {xs : List AV} {vs : List Value} (hl : vs.length = xs.length) (hR : ∀ i (hi : i < xs.length) (hj : i < vs.length), R xs[i] vs[i]) :
  ∀ {cs : List AV} {arr : Array Value} (o : Nat), Row2 R cs arr → Row2 R (setCells cs o xs) (Ax.setA arr o vs) := by
 induction xs generalizing vs with
 | nil =>
  intro cs arr o h
  cases vs with
  | nil => exact h
  | cons v r => simp at hl
 | cons x xs ih =>
  intro cs arr o h
  cases vs with
  | nil => simp at hl
  | cons v r =>
   simp only [setCells, Ax.setA]
   exact ih (by simpa using hl) (fun i hi hj => hR (i + 1) (by simpa using hi) (by simpa using hj)) (o + 1) (h.set (hR 0 (by simp) (by simp)) o)
theorem Row2.mono {R R' : AV → Value → Prop} {cs : List AV} {arr : Array Value} (h : Row2 R cs arr) (hR : ∀ x v, R x v → R' x v) : Row2 R' cs arr := ⟨h.1, fun i hi => hR _ _ (h.2 i hi)⟩
def RowLe (R : AV → Value → Prop) (cs : List AV) (arr : Array Value) : Prop :=
 cs.length ≤ arr.size ∧ ∀ i (hi : i < cs.length), R cs[i] (arr.getD i Go.undef)
theorem RowLe.set {R : AV → Value → Prop} {cs : List AV} {arr : Array Value} (h : RowLe R cs arr) {x : AV} {v : Value} (hx : R x v) (o : Nat) : RowLe R (cs.set o x) (arr.setIfInBounds o v) := by
 refine ⟨by simpa using h.1, fun i hi => ?_⟩
 have hi' : i < cs.length := by simpa using hi
 have ha : i < arr.size := Nat.lt_of_lt_of_le hi' h.1
 rw [List.getElem_set]
 by_cases ho : o = i
 ·subst ho
  rw [if_pos rfl]
  have : (arr.setIfInBounds o v).getD o Go.undef = v := by simp [Array.getD, ha]
  rw [this]
  exact hx
 ·rw [if_neg ho]
  have : (arr.setIfInBounds o v).getD i Go.undef = arr.getD i Go.undef := by
   simp [Array.getD, ha, ho]
  rw [this]
  exact h.2 i hi'
theorem RowLe.setA {R : AV → Value → Prop} {xs : List AV} {vs : List Value} (hl : vs.length = xs.length) (hR : ∀ i (hi : i < xs.length) (hj : i < vs.length), R xs[i] vs[i]) :
  ∀ {cs : List AV} {arr : Array Value} (o : Nat), RowLe R cs arr → RowLe R (setCells cs o xs) (Ax.setA arr o vs) := by
 induction xs generalizing vs with
 | nil =>
  intro cs arr o h
  cases vs with
  | nil => exact h
  | cons v r => simp at hl
 | cons x xs ih =>
  intro cs arr o h
  cases vs with
  | nil => simp at hl
  | cons v r =>
   simp only [setCells, Ax.setA]
   exact ih (by simpa using hl) (fun i hi hj => hR (i + 1) (by simpa using hi) (by simpa using hj)) (o + 1) (h.set (hR 0 (by simp) (by simp)) o)
theorem RowLe.mono {R R' : AV → Value → Prop} {cs : List AV} {arr : Array Value} (h : RowLe R cs arr) (hR : ∀ x v, R x v → R' x v) : RowLe R' cs arr := ⟨h.1, fun i hi => hR _ _ (h.2 i hi)⟩
theorem Row2.le {R : AV → Value → Prop} {cs : List AV} {arr : Array Value} (h : Row2 R cs arr) : RowLe R cs arr := ⟨Nat.le_of_eq h.1.symm, h.2⟩
theorem setCells_length (cs : List AV) (o : Nat) (xs : List AV) : (setCells cs o xs).length = cs.length := by
 induction xs generalizing cs o with
 | nil => rfl
 | cons x r ih => simp [setCells, ih]
theorem setCells_mem {cs : List AV} {o : Nat} {xs : List AV} {c : AV} (h : c ∈ setCells cs o xs) : c ∈ cs ∨ c ∈ xs := by
 induction xs generalizing cs o with
 | nil => exact .inl h
 | cons x r ih =>
  rcases ih h with h | h
  ·rcases List.mem_or_eq_of_mem_set h with h | rfl
   ·exact .inl h
   ·exact .inr (by simp)
  ·exact .inr (by simp [h])
theorem heap_setCells {b : Nat} {ty : TypeId} : ∀ (vs : List Value) (o : Nat) (arr : Array Value) (w : World), w.heap[b]? = some (.cells arr ty) → (w.setCells b o vs).heap[b]? = some (.cells (setA arr o vs) ty)
 | [], _, _, _, h => h
 | v :: r, o, arr, w, h => by
  simp only [World.setCells, setA]
  refine heap_setCells r (o + 1) _ _ ?_
  simp [World.setCell, Array.getElem?_modify, h]
theorem heap_setCells_other {b c : Nat} (hc : c ≠ b) : ∀ (vs : List Value) (o : Nat) (w : World), (w.setCells b o vs).heap[c]? = w.heap[c]?
 | [], _, _ => rfl
 | v :: r, o, w => by
  simp only [World.setCells]
  rw [heap_setCells_other hc r (o + 1)]
  exact Below.heap_setCell _ _ _ _ hc
theorem size_setCells (b : Nat) : ∀ (vs : List Value) (o : Nat) (w : World), (w.setCells b o vs).heap.size = w.heap.size
 | [], _, _ => rfl
 | v :: r, o, w => by
  simp only [World.setCells]
  rw [size_setCells b r (o + 1)]
  simp [World.setCell]
theorem below_setCells {B b : Nat} (hb : B ≤ b) : ∀ (vs : List Value) (o : Nat) (w : World), Below B w (w.setCells b o vs)
 | [], _, w => Below.refl _ _
 | v :: r, o, w => by
  simp only [World.setCells]
  exact ((Below.refl B w).setCell (p := ⟨b, o, none⟩) hb v).trans (below_setCells hb r (o + 1) _)
theorem cell_of_heap {b i : Nat} {arr : Array Value} {ty : TypeId} {fz : Nat × Nat} (h : w.heap[b]? = some (.cells arr ty fz)) : w.cell? ⟨b, i, none⟩ = arr[i]? := by
 simp [World.cell?, h]
theorem frozen_of_heap {b i : Nat} {arr : Array Value} {ty : TypeId} (h : w.heap[b]? = some (.cells arr ty)) : w.frozen? ⟨b, i, none⟩ = false := by
 simp [World.frozen?, h]
theorem cells_congr {b c i : Nat} {w' : World} (h : w'.heap[b]? = w.heap[b]?) (hc : c = b) : w'.cell? ⟨c, i, none⟩ = w.cell? ⟨c, i, none⟩ := by
 subst hc
 simp [World.cell?, h]
structure At (P : Program) (B0 : Nat) (w0 : World) (G : Ghost) (k nl : Nat) (s : Sig) (w : World) : Prop where
 rel : SRel P B0 w0 G s w
 len : s.acts.length = k + 1
 cur : ∃ gr, G.acts[k]? = some gr ∧ gr.nl = nl
theorem At.cur_eq (h : At P B0 w0 G k nl s w) : s.cur = k := by simp [Sig.cur, h.len]
theorem At.nle (h : At P B0 w0 G k nl s w) : nl ≤ s.loops.length := by
 obtain ⟨gr, h1, rfl⟩ := h.cur
 exact h.rel.nls _ _ h1
theorem At.box (h : At P B0 w0 G k nl s w) {d b : Nat} {cs : List AV} {gr : GRec} {blk : Nat} (hd : d ≤ k) (hc : s.box d b = some cs) (hg : G.acts[d]? = some gr) (hb : gr.bl[b]? = some (some blk)) :
  ∃ r, s.acts[d]? = some r ∧ r.boxes[b]? = some cs ∧ BoxRel B0 G d gr.nl b (gr.gs b) cs blk w ∧
   ∃ arr ty, w.heap[blk]? = some (.cells arr ty) ∧ RowLe (Rel G k nl) cs arr ∧ ∀ c, c ∈ cs → c.isCell = true := by
 simp only [Sig.box] at hc
 cases hr : s.acts[d]? with
 | none => rw [hr] at hc; cases hc
 | some r =>
  rw [hr] at hc
  have hbx := (h.rel.rec_ d r gr hr hg).box b cs blk hc hb
  refine ⟨r, rfl, hc, hbx, ?_⟩
  obtain ⟨_, _, _, arr, ty, h4, h5, _, h6⟩ := hbx
  obtain ⟨gk, hgk, rfl⟩ := h.cur
  refine ⟨arr, ty, h4, ⟨h5, fun i hi => (h6 i hi).2.mono (GLe.refl _ _ _) hd (h.rel.nlm d k gr gk hd hg hgk)⟩, fun c hc' => ?_⟩
  obtain ⟨i, hi, rfl⟩ := List.getElem_of_mem hc'
  exact (h6 i hi).1
theorem addr_add (b o i : Nat) : (⟨b, o, none⟩ : Addr).add i = ⟨b, o + i, none⟩ := by
 unfold Addr.add
 split
 ·rename_i h; subst h; rfl
 ·rfl
theorem At.row (h : At P B0 w0 G k nl s w) {x : AV} {y : Value} {cs : List AV} {off : Nat} (hx : Rel G k nl x y) (hr : s.row x = some (cs, off)) :
  ∃ (blk o0 : Nat) (f : Nat → Value), y = .pointer (some ⟨blk, o0 + off, none⟩) ∧ (∀ c, c ∈ cs → c.isCell = true) ∧
   (∀ i, i < cs.length → w.cell? ⟨blk, o0 + i, none⟩ = some (f i)) ∧ ∀ i (hi : i < cs.length), Rel G k nl cs[i] (f i) := by
 cases x with
 | ptr d b off' =>
  simp only [Sig.row] at hr
  cases hc : s.box d b with
  | none => rw [hc] at hr; cases hr
  | some cs' =>
   rw [hc] at hr
   simp only [Option.map_some, Option.some.injEq, Prod.mk.injEq] at hr
   obtain ⟨rfl, rfl⟩ := hr
   obtain ⟨blk, gr, rfl, hd, hg, hb⟩ := hx.inv_ptr
   obtain ⟨r, _, _, _, arr, ty, h4, h5, h6⟩ := h.box hd hc hg hb
   refine ⟨blk, 0, fun i => arr.getD i Go.undef, by simp, h6, fun i hi => ?_, fun i hi => h5.2 i hi⟩
   rw [cell_of_heap h4]
   have := Nat.lt_of_lt_of_le hi h5.1
   simp [this, Array.getD]
 | eptr cs' off' =>
  simp only [Sig.row] at hr
  simp only [Option.some.injEq, Prod.mk.injEq] at hr
  obtain ⟨rfl, rfl⟩ := hr
  obtain ⟨blk, o0, f, rfl, h1, h2, h3⟩ := hx.inv_eptr
  exact ⟨blk, o0, f, rfl, h1, fun i hi => h.rel.imm _ _ _ (h2 i hi), fun i hi => .cl (h3 i hi)⟩
 | _ => cases hr
theorem part_rel {cs : List AV} {off n : Nat} {agg : Bool} {v : AV} {f : Nat → Value} (hp : part agg n cs off = some v) (hcell : ∀ c, c ∈ cs → c.isCell = true)
  (hR : ∀ i (hi : i < cs.length), Rel G k nl cs[i] (f i)) :
  (agg = true ∧ off + n ≤ cs.length ∧ Rel G k nl v (.agg ((List.range n).map fun j => f (off + j)).toArray)) ∨ (agg = false ∧ off < cs.length ∧ Rel G k nl v (f off)) := by
 unfold part at hp
 split at hp
 ·split at hp
  ·rename_i hag hle
   injection hp with hp
   subst hp
   refine .inl ⟨hag, hle, .agg (by simp; omega) (fun c hc => hcell c (List.mem_of_mem_drop (List.mem_of_mem_take hc))) (fun i hi => ?_)⟩
   have hi' : i < n := by simp at hi; omega
   have : ((List.range n).map fun j => f (off + j)).toArray.getD i Go.undef = f (off + i) := by simp [Array.getD, hi']
   rw [this]
   have he : ((cs.drop off).take n)[i] = cs[off + i]'(by omega) := by simp
   rw [he]
   exact hR _ _
  ·cases hp
 ·rename_i hag
  obtain ⟨h1, h2⟩ := List.getElem?_eq_some_iff.1 hp
  exact .inr ⟨by simpa using hag, h1, h2 ▸ hR off h1⟩
theorem isAgg_run {t : TypeId} {g : Bool} (h : isAggP P t = some g) (w : World) : (isAgg t).run P w = .ok g w := by
 unfold isAggP at h
 cases hu : P.underlying t with
 | none => rw [hu] at h; cases h
 | some d =>
  rw [hu] at h
  simp only [Option.map_some, Option.some.injEq] at h
  subst h
  unfold isAgg
  simp only [Sem.run_bind, run_underlying hu, Result.andThen_ok]
  cases d <;> simp [pure]
theorem sizeOf_run {t : TypeId} {n : Nat} (h : sizeP P t = some n) (w : World) : (sizeOf t).run P w = .ok n w := by
 unfold sizeP at h
 cases hi : P.info? t with
 | none => rw [hi] at h; cases h
 | some i =>
  rw [hi] at h
  simp only [Option.map_some, Option.some.injEq] at h
  subst h
  simp [sizeOf, typeInfo, hi]
theorem load_sound (h : At P B0 w0 G k nl s w) {x v : AV} {y : Value} {agg : Bool} {n : Nat} {t : TypeId} (hx : Rel G k nl x y) (hl : s.load agg n x = some v) (ha : isAggP P t = some agg) (hn : sizeP P t = some n) :
  ∃ v', (Instr.loadAt t y).run P w = .ok v' w ∧ Rel G k nl v v' := by
 unfold Sig.load at hl
 cases hr : s.row x with
 | none => rw [hr] at hl; cases hl
 | some p =>
  obtain ⟨cs, off⟩ := p
  rw [hr] at hl
  simp only [Option.bind_some] at hl
  obtain ⟨blk, o0, f, rfl, hcell, hc, hR⟩ := h.row hx hr
  have hadd : ∀ j, off + j < cs.length → w.cell? ((⟨blk, o0 + off, none⟩ : Addr).add j) = some (f (off + j)) := fun j hj => by
   rw [addr_add, Nat.add_assoc]; exact hc _ hj
  rcases part_rel hl hcell hR with ⟨rfl, hle, hv⟩ | ⟨rfl, hlt, hv⟩
  ·refine ⟨_, ?_, hv⟩
   have hlc := run_loadCells (P := P) w (⟨blk, o0 + off, none⟩ : Addr) n (fun j => f (off + j)) (fun j hj => hadd j (by omega))
   simp only [Instr.loadAt, Instr.sureAddr, loadVar, Sem.run_bind, Sem.run_pure, Result.andThen_ok, isAgg_run ha, sizeOf_run hn, if_true, hlc]
  ·refine ⟨_, ?_, hv⟩
   have := hadd 0 (by omega)
   rw [addr_add] at this
   simp only [Nat.add_zero] at this
   simp only [Instr.loadAt, Instr.sureAddr, loadVar, Sem.run_bind, Sem.run_pure, Result.andThen_ok, isAgg_run ha, Bool.false_eq_true, if_false]
   simp [run_load, this]
theorem modify_get {α : Type} (l : List α) (i j : Nat) (f : α → α) : (l.modify i f)[j]? = if i = j then (l[j]?).map f else l[j]? := by
 rw [List.getElem?_modify]
 split <;> simp_all
theorem SRel.setBox (h : SRel P B0 w0 G s w) {d b : Nat} {cs cs' : List AV} {r : Rec} {gr : GRec} {blk : Nat} {arr : Array Value} {ty : TypeId} {w' : World}
  (hr : s.acts[d]? = some r) (hg : G.acts[d]? = some gr) (hb : r.boxes[b]? = some cs) (hbl : gr.bl[b]? = some (some blk))
  (hne0 : cs ≠ []) (hne : cs' ≠ []) (hcell : ∀ c, c ∈ cs' → c.isCell = true) (hR : RowLe (Rel G d gr.nl) cs' arr) (hgs : ∀ n, gr.gs b = some n → arr.size = n) (hw : w'.heap[blk]? = some (.cells arr ty)) (hother : ∀ c, c ≠ blk → w'.heap[c]? = w.heap[c]?)
  (hbelow : Below B0 w w') (hsz : w'.heap.size = w.heap.size) : SRel P B0 w0 G (s.setBox d b cs') w' := by
 have hbx := (h.rec_ d r gr hr hg).box b cs blk hb hbl
 have hk : KeepsOwn (· = .box d b) G w G w' := fun c o ho hne => by
  refine ⟨ho, hother c (fun e => ?_), fun _ e => e⟩
  subst e
  obtain ⟨x, hx1, hx2⟩ := hbx.2.1
  rw [hx1, hx2 hne0] at ho
  injection ho with ho
  exact hne ho.symm
 refine ⟨fun c i v e => ?_, by simp only [Sig.setBox, Sig.onRec, List.length_modify]; exact h.len, h.llen, fun d' r' gr' h1 h2 => ?_, fun l lp r' h1 h2 => ?_, h.nls, h.nlm, h.below.trans hbelow, by rw [hsz]; exact h.low, fun c o ho => by rw [hsz]; exact h.ownlt c o ho⟩
 ·have hne : c ≠ blk := by
   rintro rfl
   rw [hbx.2.2.1 hne0] at e
   cases e
  rw [cells_congr (hother c hne) rfl]
  exact h.imm c i v e
 ·simp only [Sig.setBox, Sig.onRec, modify_get] at h1
  by_cases hd : d = d'
  ·subst hd
   rw [if_pos rfl, hr] at h1
   simp only [Option.map_some, Option.some.injEq] at h1
   rw [hg] at h2
   injection h2 with h2
   subst h1 h2
   have hrr := h.rec_ d r gr hr hg
   refine ⟨by simpa using hrr.blen, hrr.tlen, fun b' cs'' blk' e1 e2 => ?_, fun b' blk' e1 e2 => ?_, fun g n T e1 e2 => ?_, fun i b' e1 => ?_, hrr.gsl⟩
   ·simp only [List.getElem?_set] at e1
    by_cases hbb : b = b'
    ·subst hbb
     rw [hbl] at e2
     injection e2 with e2
     injection e2 with e2
     subst e2
     rw [if_pos rfl] at e1
     split at e1
     ·injection e1 with e1
      subst e1
      obtain ⟨x, hx1, hx2⟩ := hbx.2.1
      refine ⟨hbx.1, ⟨x, hx1, fun _ => hx2 hne0⟩, fun _ => hbx.2.2.1 hne0, arr, ty, hw, hR.1, fun _ => hgs, fun i hi => ⟨hcell _ (List.getElem_mem hi), hR.2 i hi⟩⟩
     ·cases e1
    ·rw [if_neg hbb] at e1
     have hb' := hrr.box b' cs'' blk' e1 e2
     obtain ⟨x, hx1, hx2⟩ := hb'.2.1
     by_cases hxb : x = b
     · -- a dead box, whose block is this one's
      subst hxb
      have hnil : cs'' = [] := by
       apply Classical.byContradiction
       intro hn
       exact hbb (hx2 hn)
      subst hnil
      have hkk : blk' = blk ∨ blk' ≠ blk := by omega
      obtain ⟨q1, q2, q3, arr0, ty0, q4, q5, q6, q7⟩ := hb'
      rcases hkk with rfl | hkk
      ·exact ⟨q1, q2, q3, arr, ty, hw, Nat.zero_le _, fun hn => absurd rfl hn, fun i hi => absurd hi (Nat.not_lt_zero _)⟩
      ·exact ⟨q1, q2, q3, arr0, ty0, (hother _ hkk).trans q4, q5, q6, q7⟩
     ·obtain ⟨k1, k2, k3⟩ := hk _ _ hx1 (fun e => by injection e with _ e; exact hxb e)
      exact hb'.keep (GLe.refl _ _ _) (fun y e => e) k2 k3
   ·simp only [List.getElem?_set] at e2
    by_cases hbb : b = b'
    ·subst hbb
     rw [if_pos rfl] at e2
     split at e2
     ·injection e2 with e2
      exact absurd e2 hne
     ·cases e2
    ·rw [if_neg hbb] at e2
     exact hrr.full b' blk' e1 e2
   ·have ht := hrr.tok g n T e1 e2
    have hs : ∀ (hn : n.isSome = true), G.own T.blk = some (.tok d g) ∧ w'.heap[T.blk]? = w.heap[T.blk]? ∧ ∀ i, G.I T.blk i = none → G.I T.blk i = none := fun hn => by
     obtain ⟨m, hm⟩ := Option.isSome_iff_exists.1 hn
     exact hk _ _ (ht.2 m hm).2.1 (fun e => by cases e)
    exact ht.keep (fun hn => (hs hn).1) (fun hn => (hs hn).2.1) (fun hn => (hs hn).2.2)
   ·have hm := hrr.mark i b' e1
    obtain ⟨k1, k2, _⟩ := hk _ _ hm.2.1 (fun e => by cases e)
    exact hm.keep k1 k2
  ·rw [if_neg hd] at h1
   exact (h.rec_ d' r' gr' h1 h2).keep (GLe.refl _ _ _) hk (fun o ho => by
    subst ho
    refine ⟨fun b' e => ?_, fun g e => ?_, fun i e => ?_⟩
    ·injection e with e
     exact hd e
    ·cases e
    ·cases e)
 ·have hr' := h.loop l lp r' h1 h2
  obtain ⟨k1, k2, _⟩ := hk _ _ hr'.2.1 (fun e => by cases e)
  exact hr'.keep (fun _ _ _ _ => GLe.refl _ _ _) (Nat.le_refl _) k1 k2
theorem Rel.cells {y : AV} {v : Value} (h : Rel G k nl y v) (hc : y.cells.all AV.isCell = true) : Row2 (Rel G k nl) y.cells v.cells := by
 by_cases hy : ∃ cs, y = .agg cs
 ·obtain ⟨cs, rfl⟩ := hy
  obtain ⟨arr, rfl, h1, _, h3⟩ := h.inv_agg
  exact ⟨h1, h3⟩
 ·have he : y.cells = [y] := by
   unfold AV.cells
   split
   ·exact absurd ⟨_, rfl⟩ hy
   ·rfl
  rw [he] at hc ⊢
  have hone : y.isCell = true := by simpa using hc
  rw [h.one hone]
  refine ⟨rfl, fun i hi => ?_⟩
  have : i = 0 := by simp at hi; omega
  subst this
  exact h
theorem oneCell_of_rel {x : AV} {v : Value} (h : Rel G k nl x v) (hc : x.isCell = true) : v.oneCell' = true := by
 have := h.one hc
 cases v with
 | agg cs =>
  exfalso
  cases h with
  | cl h => cases h with
   | v h => simp [plain] at h
   | agg => cases hc
  | agg => cases hc
 | tuple vs =>
  exfalso
  cases h with
  | cl h => cases h with
   | v h => simp [plain] at h
  | undef => cases hc
  | tuple => cases hc
 | _ => rfl
theorem store_run {b : Nat} {arr : Array Value} {ty : TypeId} {off n : Nat} {t : TypeId} {v : Value} (hw : w.heap[b]? = some (.cells arr ty)) (hn : sizeP P t = some n) (hs : v.cells.size = n) (hle : off + n ≤ arr.size)
  (h1 : ∀ u, u ∈ v.cells.toList → u.oneCell' = true) : (Instr.storeAt t (.pointer (some ⟨b, off, none⟩)) v).run P w = .ok () (w.setCells b off v.cells.toList) := by
 have hst := run_storeCells_cells (P := P) b off v.cells.toList 0 w (fun j hj => by
   have hj' : j < n := by simpa [hs] using hj
   rw [cell_of_heap hw]
   simp; omega) (fun j _ => frozen_of_heap hw) h1
 simp only [Instr.storeAt, Instr.sureAddr, storeVar, Sem.run_bind, Sem.run_pure, Result.andThen_ok, sizeOf_run hn]
 rw [if_neg (by simp [hs])]
 simpa using hst
end
end Go.Ax
