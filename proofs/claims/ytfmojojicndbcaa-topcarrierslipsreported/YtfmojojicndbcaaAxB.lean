/-
  From the model's code to the abstract executor's: 'comp'. Plain definitions; nothing is claimed here.
-/
import Derived.Test.YtfmojojicndbcaaAxA
namespace Go.Ax

def mapO {α β : Type} (f : α → Option β) : List α → Option (List β)
  | [] => some []
  | x :: r => match f x, mapO f r with
    | some y, some s => some (y :: s)
    | _, _ => none

/-- A constant's value, or a zero one. -/
def ofCell : Value → Option AV
  | .bool b => some (.v (.bool b))
  | .int k n => some (.v (.int k n))
  | .string s => some (.v (.string s))
  | .pointer none => some (.v (.pointer none))
  | .slice none 0 0 => some (.slice .nilS 0 [])
  | .func (.func f) first caps => if first.size = 0 ∧ caps.size = 0 then some (.fn f [] []) else none
  | .nilFunc => some (.v .nilFunc)
  | .nilIface => some (.v .nilIface)
  | _ => none

def ofValue : Value → Option AV
  | .agg cs => (mapO ofCell cs.toList).map .agg
  | x => ofCell x

def compOpd : Operand → Option AOpd
  | .tmp t => some (.tmp t)
  | .const x => (ofValue x).map .const
  | .func f => some (.const (.fn f [] []))
  | .global _ => none

def compOpt : Option Operand → Option (Option AOpd)
  | none => some none
  | some x => (compOpd x).map some

def sizeP (P : Program) (t : TypeId) : Option Nat := (P.info? t).map (·.size)
def bytesP (P : Program) (t : TypeId) : Option Nat := (P.info? t).map (·.bytes)
def zeroP (P : Program) (t : TypeId) : Option (List AV) := ((P.info? t).bind (·.zero)).bind fun z => mapO ofCell z.cells.toList
def isAggP (P : Program) (t : TypeId) : Option Bool := (P.underlying t).map fun | .struct _ | .array _ _ => true | _ => false

def pkOf (P : Program) (t : TypeId) : Option PK :=
  match P.underlying t with
  | some (.int _) => some .int
  | some .bool => some .bool
  | some .string => some .str
  | _ => none

def compParts (P : Program) (place : Nat → Option (Nat × Nat)) : List (Nat × Operand) → Option (List (Nat × Nat × AOpd))
  | [] => some []
  | (i, x) :: r => match place i, compOpd x, compParts P place r with
    | some (off, size), some y, some s => some ((off, size, y) :: s)
    | _, _, _ => none

def compRows : List (Nat × Operand) → Option (List (Nat × AOpd))
  | [] => some []
  | (i, x) :: r => match compOpd x, compRows r with
    | some y, some s => some ((i, y) :: s)
    | _, _ => none

def isNilConst : Operand → Bool
  | .const .nilIface => true
  | _ => false

def eqNeg : BinOp → Option Bool
  | .eql => some false
  | .neq => some true
  | _ => none

def compEq (P : Program) (op : BinOp) (neg : Bool) (t : TypeId) (x y : Operand) (a b : AOpd) : Option AOp :=
  match P.underlying t with
  | some .bool => some (.eqv neg .bool a b)
  | some (.int _) | some .string => some (.arith op a b)
  | some (.struct fs) =>
    if P.stoodInHeld t = false ∧ P.eqGuardType P.depth t = false ∧ fs.toList.all (fun f => f.name != "_") = true ∧ fs.toList.map (·.offset) = List.range fs.size
    then (mapO (fun f : Field => pkOf P f.type) fs.toList).map fun ks => .eqv neg (.agg ks) a b else none
  | some (.pointer _) => some (.eqv neg .ptr a b)
  | some (.interface _) => if isNilConst x || isNilConst y then some (.eqv neg .iface a b) else none
  | some (.slice _) => some (.eqv neg .slice a b)
  | some (.func _ _ _) => some (.eqv neg .func a b)
  | _ => none

def compBin (P : Program) (op : BinOp) (t : TypeId) (x y : Operand) : Option AOp :=
  match compOpd x, compOpd y with
  | some a, some b => match eqNeg op with
    | some neg => compEq P op neg t x y a b
    | none => some (.arith op a b)
  | _, _ => none

def compConv (P : Program) (src dst : TypeId) (x : AOpd) : Option AOp :=
  match P.underlying src, P.underlying dst with
  | some (.int _), some (.int k) => some (.conv (.int k) x)
  | some .string, some .string => some (.conv .same x)
  | some .string, some (.slice e) => match P.underlying e with
    | some (.int .u8) => some (.conv .bytes x)
    | _ => none
  | some (.slice e), some .string => match P.underlying e with
    | some (.int .u8) => some (.conv .text x)
    | _ => none
  | _, _ => none

def compCall (P : Program) (ro : Bool) (c : Call) : Option AOp :=
  match mapO compOpd c.args.toList with
  | none => none
  | some as =>
    match c.callee with
    | .value (.func f) => some (.call ro f as)
    | .value x => (compOpd x).map fun y => .callv ro y as
    | .invoke _ _ => none
    | .builtin b =>
      match b, as, c.argTypes.toList with
      | .append, [x, y], [t, u] => match P.underlying t, P.underlying u with
        | some (.slice e), some (.slice _) => match sizeP P e, bytesP P e, zeroP P e with
          | some s, some n, some z => if 0 < s ∧ 0 < n ∧ n ≤ 4096 ∧ z.length = s then some (.append s x y) else none
          | _, _, _ => none
        | _, _ => none
      | .len, [x], [t] => match P.underlying t with
        | some (.slice _) => some (.len false x)
        | some .string => some (.len true x)
        | some (.array n _) => some (.lenArr n)
        | _ => none
      | .max, _, _ => some (.minmax true as)
      | .min, _, _ => some (.minmax false as)
      | _, _, _ => none

def compOp (P : Program) (ro : Bool) : Op → Option AOp
  | .move x | .assign x => (compOpd x).map .move
  | .pick c a b => match compOpd c, compOpd a, compOpd b with
    | some c, some a, some b => some (.pick c a b)
    | _, _, _ => none
  | .alloc e => (zeroP P e).map .alloc
  | .box e x => match sizeP P e, compOpd x with
    | some n, some y => some (.box n y)
    | _, _ => none
  | .build t parts => match zeroP P t, P.underlying t with
    | some z, some (.struct fs) => if fs.toList.all (fun f => (sizeP P f.type).isSome) = true then (compParts P (fun i => match fs[i]? with
        | some f => (sizeP P f.type).map fun s => (f.offset, s)
        | none => none) parts.toList).map (.build z ·) else none
    | some z, some (.array _ e) => match sizeP P e with
      | some s => (compParts P (fun i => some (i * s, s)) parts.toList).map (.build z ·)
      | none => none
    | _, _ => none
  | .buildSlice t len parts => match P.underlying t with
    | some (.slice e) => match sizeP P e, zeroP P e, compRows parts.toList with
      | some s, some z, some ps => if len * s ≤ 2 ^ 24 ∧ z.length = s ∧ 0 < s then some (.buildSlice s (List.replicate len z) ps) else none
      | _, _, _ => none
    | _ => none
  | .load t x => match isAggP P t, sizeP P t, compOpd x with
    | some g, some n, some y => some (.load g n y)
    | _, _, _ => none
  | .store t x y => match sizeP P t, compOpd x, compOpd y with
    | some n, some a, some b => some (.store n a b)
    | _, _, _ => none
  | .nilCheck x => (compOpd x).map .nilCheck
  | .binOp op t x y _ => compBin P op t x y
  | .unOp op _ x => (compOpd x).map (.un op ·)
  | .convert src dst x => (compOpd x).bind (compConv P src dst ·)
  | .makeInterface t x => match P.underlying t with
    | some (.interface _) => none
    | some _ => (compOpd x).map (.mkIface t ·)
    | none => none
  | .makeFunc (.func f) first caps => match mapO compOpd first.toList, mapO compOpd caps.toList with
    | some a, some b => some (.mkFn f a b)
    | _, _ => none
  | .makeSlice t l c => match P.underlying t with
    | some (.slice e) => match sizeP P e, bytesP P e, zeroP P e, compOpd l, compOpd c with
      | some s, some n, some z, some a, some b => if 0 < s ∧ n ≤ 4096 ∧ z.length = s then some (.mkSlice s z a b) else none
      | _, _, _, _, _ => none
    | _ => none
  | .slice t x lo hi mx => match compOpd x, compOpt lo, compOpt hi, compOpt mx with
    | some a, some l, some h, some m => match P.underlying t with
      | some .string => some (.slice .str a l h m)
      | some (.slice e) => (sizeP P e).map fun s => .slice (.sl s) a l h m
      | some (.array n e) => (sizeP P e).map fun s => .slice (.arr n s) a l h m
      | _ => none
    | _, _, _, _ => none
  | .fieldAddr s x i => match P.underlying s, compOpd x with
    | some (.struct fs), some a => match fs[i]? with
      | some f => match sizeP P f.type with
        | some n => if 0 < n then some (.fieldAddr f.offset a) else none
        | none => none
      | none => none
    | _, _ => none
  | .field t x i => match P.underlying t, compOpd x with
    | some (.struct fs), some a => match fs[i]? with
      | some f => match isAggP P f.type, sizeP P f.type with
        | some g, some n => some (.field g n f.offset a)
        | _, _ => none
      | none => none
    | _, _ => none
  | .indexAddr t x i => match compOpd x, compOpd i with
    | some a, some j => match P.underlying t with
      | some (.array n e) => (sizeP P e).map fun s => .indexAddr (some n) s a j
      | some (.slice e) => (sizeP P e).map fun s => .indexAddr none s a j
      | _ => none
    | _, _ => none
  | .index t x i => match compOpd x, compOpd i with
    | some a, some j => match P.underlying t with
      | some (.array n e) => match isAggP P e, sizeP P e with
        | some g, some s => some (.index n s g a j)
        | _, _ => none
      | some .string => some (.indexStr a j)
      | _ => none
    | _, _ => none
  | .extract x i => (compOpd x).map (.extract i ·)
  | .call c => compCall P ro c
  | _ => none

/-! ### Regions whose order is drawn -/

/-- The operations that must come ahead of each one, as bits. -/
def predsFrom (acc : List Nat) : List Oper → Option (List Nat)
  | [] => some acc
  | o :: r =>
    let es := o.after.toList.filter (Region.binds .any)
    if es.all (fun e => decide (e.on < acc.length)) then
      predsFrom (acc ++ [es.foldl (fun m e => m ||| 1 <<< e.on ||| acc.getD e.on 0) 0]) r
    else none

def before (pre : List Nat) (i j : Nat) : Bool := (pre.getD j 0).testBit i

inductive OpClass where
  | pure
  | load
  | soft
  | fresh
  | hard
  deriving DecidableEq

def classOf : AOp → OpClass
  | .load .. => .load
  | .append .. => .soft
  | .call ro _ _ | .callv ro _ _ => if ro then .soft else .hard
  | .alloc _ | .box .. | .mkSlice .. => .fresh
  | .store .. => .hard
  | _ => .pure

def isCallOp : Op → Bool
  | .call c => match c.callee with | .builtin _ => false | _ => true
  | _ => false

def isLoadOp : Op → Bool
  | .load .. => true
  | _ => false

def readsOpd : AOpd → List Nat
  | .tmp t => [t]
  | .const _ => []
def readsOpt : Option AOpd → List Nat
  | some x => readsOpd x
  | none => []

/-- The temporaries that an operation reads. -/
def readsOp : AOp → List Nat
  | .move x | .box _ x | .load _ _ x | .nilCheck x | .un _ x | .conv _ x | .mkIface _ x | .fieldAddr _ x | .field _ _ _ x | .extract _ x | .len _ x => readsOpd x
  | .pick c a b => readsOpd c ++ readsOpd a ++ readsOpd b
  | .alloc _ | .lenArr _ => []
  | .build _ ps => ps.flatMap fun p => readsOpd p.2.2
  | .buildSlice _ _ ps => ps.flatMap fun p => readsOpd p.2
  | .store _ x y | .arith _ x y | .eqv _ _ x y | .mkSlice _ _ x y | .indexAddr _ _ x y | .indexStr x y | .index _ _ _ x y | .append _ x y => readsOpd x ++ readsOpd y
  | .mkFn _ a b => a.flatMap readsOpd ++ b.flatMap readsOpd
  | .call _ _ xs | .minmax _ xs => xs.flatMap readsOpd
  | .callv _ x xs => readsOpd x ++ xs.flatMap readsOpd
  | .slice _ x lo hi mx => readsOpd x ++ readsOpt lo ++ readsOpt hi ++ readsOpt mx

def readsOf (o : AOper) : List Nat := readsOp o.op ++ (match o.guard with | some (t, _) => [t] | none => [])

def pairsOk (f : Nat → AOper → Nat → AOper → Bool) (l : List AOper) : Bool :=
  l.zipIdx.all fun (x, i) => l.zipIdx.all fun (y, j) => i == j || f i x j y

/-- Whatever order is drawn, the operations give the same. -/
def drawOk (pre : List Nat) (l : List AOper) : Bool :=
  pairsOk (fun i x j y =>
    -- no two write one temporary
    (match x.dst, y.dst with | some s, some t => s != t | _, _ => true) &&
    -- what y writes and x reads is ordered
    (match y.dst with | some t => !(readsOf x).contains t || before pre i j || before pre j i | none => true) &&
    -- effects are ordered; a load comes ahead of each store
    (match classOf x.op, classOf y.op with
      | .pure, _ | _, .pure | .load, .load => true
      | .load, .soft | .soft, .load => true
      | .load, .fresh => before pre i j || before pre j i || decide (i < j)
      | .fresh, .load => before pre i j || before pre j i || decide (j < i)
      | _, _ => before pre i j || before pre j i)) l &&
  l.all fun x => match x.dst with | some t => !(readsOf x).contains t | none => true

/-- A call beside which a load stands unordered must leave all memory as it is. -/
def needsRo (pre : List Nat) (l : List Oper) (i : Nat) : Bool :=
  l.zipIdx.any fun (o, j) => isLoadOp o.op && !(before pre i j) && !(before pre j i)

def compGuard (l : List Oper) : Option (Nat × Bool) → Option (Option (Nat × Bool))
  | none => some none
  | some (j, b) => match (l[j]?).bind (·.dst) with
    | some t => some (some (t, b))
    | none => none

def compOpers (P : Program) (all : List Oper) (ro : Nat → Bool) : Nat → List Oper → Option (List AOper)
  | _, [] => some []
  | i, o :: r => match compGuard all o.guard, compOp P (ro i) o.op, compOpers P all ro (i + 1) r with
    | some g, some op, some s => some (⟨o.dst, g, op⟩ :: s)
    | _, _, _ => none

def compRegion (P : Program) (l : List Oper) (drawn : Bool) : Option (List AOper) :=
  if drawn then
    match predsFrom [] l with
    | none => none
    | some pre => match compOpers P l (fun i => needsRo pre l i) 0 l with
      | some as => if drawOk pre as then some as else none
      | none => none
  else compOpers P l (fun _ => false) 0 l

def comp (P : Program) : Code → Option ACode
  | .skip => some .skip
  | .region _ l drawn => (compRegion P l.toList drawn).map (.region drawn ·)
  | .seq a b => match comp P a, comp P b with
    | some x, some y => some (.seq x y)
    | _, _ => none
  | .cond c a b => match compOpd c, comp P a, comp P b with
    | some z, some x, some y => some (.cond z x y)
    | _, _, _ => none
  | .block id a => (comp P a).map (.block id ·)
  | .loop a => (comp P a).map .loop
  | .rangeFunc f ps a b => match compOpd f, comp P a, comp P b with
    | some z, some x, some y => some (.rangeFunc z ps.toList x y)
    | _, _, _ => none
  | .exit id => some (.exit id)
  | .ret => some .ret
  | _ => none

def resCell (P : Program) (t : Nat) (g : Option Bool) (n : Option Nat) : Option ARes :=
  let _ := P
  match g, n with
  | some g, some n => some (.cell g n t)
  | _, _ => none

def compRes (P : Program) : ResultVar → Option ARes
  | .tmp t => some (.tmp t)
  | .cell a t => resCell P a (isAggP P t) (sizeP P t)

/-- Every temporary that is written is one of n. -/
def tmpsOk (n : Nat) : ACode → Bool
  | .region _ l => l.all fun o => match o.dst with | some t => decide (t < n) | none => true
  | .seq a b | .cond _ a b => tmpsOk n a && tmpsOk n b
  | .block _ a | .loop a => tmpsOk n a
  | .rangeFunc _ ps a b => ps.all (fun t => decide (t < n)) && tmpsOk n a && tmpsOk n b
  | _ => true

/-- A function's own code. -/
def compFn (P : Program) (own : Bool) (fn : Func) : Option AFn :=
  if fn.name == "runtime.NumGoroutine" then none else
  match fn.body with
  | none => none
  | some c => match comp P c, mapO (compRes P) fn.results.toList with
    | some b, some rs => if fn.params.size + fn.nfree ≤ fn.ntmps ∧ tmpsOk fn.ntmps b = true then some (.code (fn.params.size + fn.nfree) fn.ntmps b rs own) else none
    | _, _ => none

end Go.Ax
