/-
  The abstract executor: values, codes and what a run of a code gives. Plain definitions; nothing is claimed here.
-/
import GoSem.Step
import Derived.RangeFuncLeaves
import Derived.RangeFuncRecord
import Derived.Below
import Derived.Laws.IdiomCopy
import Derived.Laws.Cells
set_option linter.unusedSimpArgs false
set_option linter.unusedVariables false
set_option maxRecDepth 100000
namespace Go.Ax
abbrev aj:= @if_pos
abbrev ak:= @if_neg
abbrev aI:= @Nat.le_refl
abbrev aV:= @Nat.zero_le
abbrev aZ:= @Option.map_eq_some_iff
abbrev bE:= @List.mem_of_getElem?
abbrev bI:= @List.getElem?_eq_some_iff
abbrev bS:= @decide_eq_true
abbrev bV:= @ne_eq
abbrev bX:= @decide_eq_false
abbrev cg:= @List.length_map
abbrev cD:= @List.mem_cons_of_mem
abbrev cG:= @List.length_append
abbrev cH:= @List.length_cons
abbrev cI:= @if_true
abbrev cN:= @List.mem_map
abbrev dq:= @List.getElem?_eq_getElem
abbrev dr:= @List.mem_cons
abbrev dE:= @Bool.and_eq_true
abbrev dG:= @List.getElem?_append_left
abbrev dH:= @Nat.not_lt_zero
abbrev dI:= @Option.bind_some
abbrev dJ:= @Option.map_some
abbrev dR:= @List.mem_append
abbrev dS:= @Option.bind_eq_some_iff
abbrev er:= @List.take_length
abbrev eu:= @if_false
abbrev ew:= @Bool.false_eq_true
abbrev ez:= @List.length_take
abbrev fc:= @List.any_eq_true
abbrev fe:= @List.drop_length
abbrev fB:= @decide_eq_true_eq
abbrev fH:= @List.map_append
abbrev fI:= @Option.some.injEq
abbrev fK:= @cond_true
abbrev fR:= @List.map_cons
abbrev fS:= @List.mem_singleton
abbrev fY:= @Int.cast_ofNat_Int
abbrev fZ:= @List.cons_append
abbrev gI:= @not_true
abbrev gK:= @List.append_assoc
abbrev gL:= @List.nil_append
abbrev gU:= @Nat.zero_add
abbrev gX:= @congrArg
abbrev ig:= @cond_false
abbrev iz:= @List.getElem_mem
abbrev iK:= @List.drop_zero
abbrev iL:= @List.getElem?_map
abbrev iM:= @Nat.add_mul
abbrev jh:= @List.all_eq_true
abbrev ji:= @List.mem_filter
abbrev jj:= @List.pairwise_append
abbrev jy:= @List.getElem?_append_right
abbrev jU:= @List.length_nil
abbrev j3:= @not_false_iff
abbrev ke:= @List.any_cons
abbrev kQ:= @Bool.true_and
abbrev kR:= @List.append_nil
abbrev lr:= @Bool.false_and
abbrev lu:= @List.getElem?_eq_none
abbrev l8:= @Bool.and_false
abbrev ma:= @List.foldl_cons
abbrev mb:= @Nat.pow_le_pow_right
abbrev mM:= @List.ext_getElem?
abbrev mN:= @Nat.le_trans
abbrev nq:= @Bool.false_or
abbrev nr:= @List.getElem_of_mem
abbrev ov:= @Bool.not_true
abbrev oB:= @List.mem_of_mem_take
abbrev oZ:= @List.getElem?_of_mem
abbrev pb:= @List.map_nil
abbrev pd:= @Nat.mul_le_mul_right
abbrev pT:= @Int.toNat_natCast
abbrev pU:= @List.length_drop
abbrev pV:= @List.length_singleton
abbrev pW:= @List.mem_range
abbrev pY:= @Nat.lt_of_lt_of_le
abbrev qM:= @List.any_eq_false
abbrev qN:= @List.filter_append
abbrev qO:= @List.flatten_cons
abbrev qP:= @List.getElem?_set
abbrev qQ:= @Ne.symm
abbrev rU:= @Int.le_refl
abbrev rV:= @List.eq_nil_of_length_eq_zero
abbrev rW:= @List.length_filter_le
abbrev rX:= @List.pairwise_cons
abbrev se:= @decide_false
abbrev th:= @Bool.not_false
abbrev tj:= @Classical.byContradiction
abbrev tm:= @List.all_cons
abbrev tn:= @List.any_append
abbrev tq:= @List.length_range
abbrev tt:= @List.length_set
abbrev tu:= @List.mem_append_left
abbrev tz:= @Nat.le_succ
abbrev tB:= @Option.isSome_iff_exists
abbrev tC:= @Option.isSome_none
abbrev tN:= @decide_eq_false_iff_not
abbrev tO:= @decide_true
abbrev tP:= @dif_pos
abbrev uI:= @Array.getElem?_eq_some_iff
abbrev uJ:= @Bool.or_false
abbrev uM:= @List.getElem?_set_ne
abbrev uN:= @Nat.mod_lt
abbrev uO:= @Option.getD_some
abbrev wE:= @Eq.symm
abbrev wG:= @List.getElem?_modify
abbrev wH:= @List.getElem?_set_self
abbrev wI:= @List.getElem?_take
abbrev wJ:= @List.getElem_append_left
abbrev wK:= @List.getElem_append_right
abbrev wL:= @List.getElem_cons_zero
abbrev wM:= @Nat.add_assoc
abbrev wN:= @Nat.lt_irrefl
abbrev wO:= @Nat.mul_one
abbrev wP:= @Nat.one_mul
abbrev wX:= @and_self
abbrev yo:= @Eq.trans
abbrev zT:= @or_false
abbrev Al:= @Bool.and_self
abbrev Am:= @Bool.and_true
abbrev An:= @Bool.or_eq_true
abbrev Ao:= @Bool.true_or
abbrev Ap:= @List.all_nil
abbrev Aq:= @List.getElem?_cons_zero
abbrev Ar:= @List.mem_cons_self
abbrev As:= @List.mem_replicate
abbrev Au:= @List.not_mem_nil
abbrev Av:= @List.pairwise_map
abbrev Aw:= @List.reverse_cons
abbrev Ay:= @List.set_append_right
abbrev AA:= @Nat.add_zero
abbrev AB:= @Nat.div_add_mod'
abbrev AE:= @Option.some.inj
abbrev AF:= @Prod.mk.injEq
abbrev Dz:= @Int.add_zero
abbrev DB:= @List.cons.injEq
abbrev DC:= @List.drop_of_length_le
abbrev DD:= @List.foldl_append
abbrev DE:= @List.getElem?_replicate
abbrev DF:= @List.length_reverse
abbrev DG:= @List.mem_flatten
abbrev DH:= @List.range_eq_range'
abbrev DI:= @List.range_succ
abbrev DJ:= @List.set_cons_zero
abbrev DK:= @List.size_toArray
abbrev DL:= @List.take_append_drop
abbrev DM:= @List.take_zero
abbrev DN:= @Nat.eq_zero_or_pos
abbrev DO:= @Nat.le_max_left
abbrev DP:= @Nat.mod_eq_of_lt
abbrev DQ:= @Nat.sub_self
abbrev DR:= @Nat.testBit_or
abbrev DW:= @and_true
abbrev IH:= @true_and
abbrev IP:= @Bool.eq_iff_iff
abbrev IQ:= @ByteArray.ext
abbrev IU:= @Int.mul_add
abbrev IV:= @List.any_map
abbrev IW:= @List.filter_nil
abbrev IX:= @List.flatMap_cons
abbrev IY:= @List.getElem?_cons_succ
abbrev IZ:= @List.getElem_cons_succ
abbrev I0:= @List.idxOf_lt_length_iff
abbrev I1:= @List.length_replicate
abbrev I3:= @List.map_eq_nil_iff
abbrev I4:= @List.map_map
abbrev I5:= @List.map_take
abbrev I6:= @List.mem_append_right
abbrev I7:= @List.mem_reverse
abbrev Ja:= @Nat.le_max_right
abbrev Jb:= @Nat.le_of_not_lt
abbrev K2:= @dif_neg
abbrev NA:= @Array.length_toList
abbrev NB:= @Bool.not_eq_true'
abbrev NF:= @List.ext_getElem
abbrev NG:= @List.filter_congr
abbrev NH:= @List.filter_cons
abbrev NI:= @List.getD_eq_getElem?_getD
abbrev NJ:= @List.getElem_cons_drop
abbrev NK:= @List.getLast?_eq_none_iff
abbrev NM:= @List.length_eraseIdx_of_lt
abbrev NN:= @List.length_modify
abbrev NO:= @List.length_pos_iff
abbrev NQ:= @List.map_singleton
abbrev NR:= @List.mem_of_getLast?
abbrev NS:= @List.mem_of_mem_drop
abbrev NT:= @List.pairwise_singleton
abbrev NU:= @List.range'_succ
abbrev NV:= @List.replicate_succ
abbrev NW:= @List.reverse_reverse
abbrev NX:= @List.set_cons_succ
abbrev NY:= @Nat.add_comm
abbrev NZ:= @Nat.div_eq_of_lt
abbrev N0:= @Nat.mul_comm
abbrev N1:= @Nat.pow_lt_pow_right
abbrev N2:= @Nat.sub_le_sub_right
abbrev N3:= @Nat.testBit_lt_two_pow
abbrev N4:= @Nat.testBit_two_pow
abbrev N5:= @Option.isSome_some
abbrev P3:= @beq_iff_eq
abbrev Qn:= @decide_not
abbrev S2:= @of_decide_eq_true
abbrev Uf:= @Bool.or_true
abbrev Ug:= @Function.comp_def
abbrev Uh:= @Int.fdiv_eq_ediv_of_nonneg
abbrev Ui:= @Int.mul_le_mul
abbrev Uj:= @Int.mul_le_mul_of_nonneg_right
abbrev Uk:= @Int.natCast_add
abbrev Un:= @List.Pairwise.filter
abbrev Uo:= @List.Pairwise.of_cons
abbrev Up:= @List.Perm.refl
abbrev Uq:= @List.any_nil
abbrev Ur:= @List.append_eq_nil_iff
abbrev Us:= @List.drop_succ_cons
abbrev Ut:= @List.filter_eq_nil_iff
abbrev Uu:= @List.filter_sublist
abbrev Uv:= @List.find?_cons
abbrev Uw:= @List.find?_eq_none
abbrev Ux:= @List.getElem?_drop
abbrev Uy:= @List.getElem?_range
abbrev Uz:= @List.getElem?_toArray
abbrev UA:= @List.getElem_idxOf
abbrev UB:= @List.getElem_set
abbrev UC:= @List.isEmpty_nil
abbrev UD:= @List.mapM_cons
abbrev UE:= @List.mem_of_mem_eraseIdx
abbrev UF:= @List.mem_or_eq_of_mem_set
abbrev UG:= @List.nodup_cons
abbrev UH:= @List.pairwise_iff_getElem
abbrev UI:= @List.replicate_succ'
abbrev UJ:= @List.take_succ_cons
abbrev UK:= @Nat.add_sub_cancel
abbrev UL:= @Nat.div_lt_iff_lt_mul
abbrev UM:= @Nat.le_of_eq
abbrev UN:= @Nat.le_of_lt
abbrev UO:= @Nat.lt_or_ge
abbrev UP:= @Nat.lt_trans
abbrev UQ:= @Nat.lt_trichotomy
abbrev UR:= @Nat.mul_le_mul_left
abbrev US:= @Nat.mul_pos
abbrev UT:= @Nat.pow_succ
abbrev UX:= @Option.map_map
abbrev WU:= @beq_eq_false_iff_ne
abbrev aeG:= @Array.getElem?_eq_getElem
abbrev aeH:= @Array.mapM_eq_mapM_toList
abbrev aeM:= @List.filter_cons_of_neg
abbrev aeN:= @List.filter_cons_of_pos
abbrev aeO:= @List.getElem_replicate
abbrev aeQ:= @List.getLast?_eq_getElem?
abbrev aeR:= @List.getLast?_eq_some_iff
abbrev aeS:= @List.length_eraseIdx_le
abbrev aeT:= @List.mem_of_find?_eq_some
abbrev aeU:= @List.pairwise_lt_range
abbrev aeW:= @List.rel_of_pairwise_cons
abbrev aeZ:= @Nat.testBit_eq_decide_div_mod_eq
abbrev ae0:= @Nat.testBit_two_pow_sub_one
abbrev ae1:= @Option.isNone_iff_eq_none
end Go.Ax
namespace Go.Ax
inductive Own where
 |aA
 |any
 |full
 |tok (d g:Nat)
def Own.isNil:Own→Bool
 |.aA=>true
 |_=>false
def Own.isFull:Own→Bool
 |.full=>true
 |_=>false
inductive AV where
 |v (x:Value)
 |slice (o:Own) (es:Nat) (xs:List (List AV))
 |ptr (d b off:Nat)
 |bd (cs:List AV) (off:Nat)
 |aN (d b off es n cap:Nat)
 |fn (f:FuncId) (first caps:List AV)
 |yield (l:Nat)
 |iface (t:TypeId) (x:AV)
 |agg (cs:List AV)
 |tuple (vs:List AV)
 |qF
abbrev AV.int (n:Int):AV:=.v (.int .i64 n)
abbrev AV.bool (b:Bool):AV:=.v (.bool b)
abbrev AV.undef:AV:=.v Go.undef
def AV.cells:AV→List AV
 |.agg cs=>cs
 |x=>[x]
def AV.bK:AV→Bool
 |.agg _|.tuple _=>false
 |.v (.agg _)|.v (.tuple _)=>false
 |_=>true
def AV.kI:AV→Bool
 |.v x=>match x with|.agg _|.tuple _=>false|_=>true
 |.bd _ _=>true
 |.qF=>true
 |.slice o _ _=>match o with|.aA|.any|.full=>true|_=>false
 |_=>false
def AV.vS:AV→Bool
 |.agg cs=>cs.all AV.kI
 |x=>x.kI
def AV.isClosed:AV→Bool
 |.iface _ x=>x.vS
 |.fn _ first caps=>first.all AV.vS&&caps.all AV.kI
 |x=>x.kI
def AV.close:AV→Option AV
 |.slice (.tok _ _) es xs=>some (.slice .any es xs)
 |x=>if x.isClosed then some x else none
def closeAll:List AV→Option (List AV)
 |[]=>some []
 |x::r=>match x.close,closeAll r with
  |some y,some s=>some (y::s)
  |_,_=>none
inductive aJ where
 |tmp (t:Nat)
 |const (c:AV)
inductive DS where
 |str
 |sl (es:Nat)
 |arr (n es:Nat)
inductive PK where
 |int
 |bool
 |str
inductive IT where
 |bool
 |agg (ks:List PK)
 |ptr
 |iface
 |slice
 |func
inductive IS where
 |int (k:IntKind)
 |same
 |bytes
 |text
inductive cm where
 |move (x:aJ)
 |pick (c a b:aJ)
 |alloc (zs:List AV)
 |box (n:Nat) (x:aJ)
 |build (zs:List AV) (parts:List (Nat×Nat×aJ))
 |buildSlice (es:Nat) (rows:List (List AV)) (parts:List (Nat×aJ))
 |load (agg:Bool) (n:Nat) (x:aJ)
 |store (n:Nat) (x y:aJ)
 |nilCheck (x:aJ)
 |arith (op:BinOp) (x y:aJ)
 |eqv (neg:Bool) (k:IT) (x y:aJ)
 |un (op:UnOp) (x:aJ)
 |conv(k:IS) (x:aJ)
 |C0 (t:TypeId) (x:aJ)
 |mC (f:FuncId) (first caps:List aJ)
 |mkSlice (es:Nat) (zs:List AV) (len cap:aJ)
 |zR (es:Nat) (zs:List AV) (len cap:aJ)
 |slice (k:DS) (x:aJ) (lo hi mx:Option aJ)
 |fieldAddr (off:Nat) (x:aJ)
 |indexAddr (arr:Option Nat) (es:Nat) (x i:aJ)
 |CS (x i:aJ)
 |index (n es:Nat) (agg:Bool) (x i:aJ)
 |field (agg:Bool) (n off:Nat) (x:aJ)
 |extract (i:Nat) (x:aJ)
 |call (ro:Bool) (f:FuncId) (args:List aJ)
 |gW (ro:Bool) (x:aJ) (args:List aJ)
 |tK (f:FuncId) (args:List aJ)
 |ve (f:FuncId) (args:List aJ)
 |xk (f:FuncId) (args:List aJ)
 |sg (ro:Bool) (zss:List (List AV)) (f:FuncId) (args:List aJ)
 |append (es:Nat) (x y:aJ)
 |qT (es:Nat) (x y:aJ)
 |wY (es:Nat) (x y:aJ)
 |copy (x y:aJ)
 |yO (es:Nat) (row:List AV) (t:Nat)
 |len (str:Bool) (x:aJ)
 |CW (n:Nat)
 |zQ (mx:Bool) (xs:List aJ)
 |l5 (n:Nat)
 |slot (back:Nat) (zs:List AV)
 |fW (res:Nat) (agg:Bool) (n:Nat) (x:aJ)
 |jM (agg:Bool) (n:Nat) (x:aJ)
 |fill (back n:Nat) (x y:aJ)
structure bt where
 dst:Option Nat
 guard:Option (Nat×Bool)
 op:cm
inductive c8 where
 |normal
 |exit (id:Nat)
 |ret
inductive au where
 |skip
 |region (drawn:Bool) (ops:List bt)
 |seq (a b:au)
 |cond (c:aJ) (a b:au)
 |block (id:Nat) (a:au)
 |loop (a:au)
 |rangeFunc (f:aJ) (params:List Nat) (assign body:au)
 |exit (id:Nat)
 |ret
structure Rec where
 boxes:List (List AV)
 toks:List (Option Nat)
structure da where
 ready:Bool
 eH:Option c8
 tmps:Nat→AV
 params:List Nat
 assign:au
 body:au
structure ae where
 ag:List Rec
 loops:List da
 ro:Nat
 cq:Nat
structure St where
 tmps:Nat→AV
 sig:ae
inductive Target where
 |fn (f:FuncId)
 |yield (l:Nat)
 |inl (f:FuncId)
 |nat (f:FuncId)
abbrev bj:=Target→List AV→ae→Option (AV×ae)
inductive iy where
 |tmp (t:Nat)
 |cell (agg:Bool) (n:Nat) (t:Nat)
inductive aE where
 |code (np ntmps:Nat) (body:au) (results:List iy) (own:Bool)
 |lg (F:List AV→Option AV)
 |nat (F:List AV→Option AV)
def ae.push (s:ae) (r:Rec):ae:={s with ag:=s.ag++[r]}
def ae.pop (s:ae):ae:={s with ag:=s.ag.dropLast}
def ae.cur (s:ae):Nat:=s.ag.length-1
def ae.box (s:ae) (d b:Nat):Option (List AV):=(s.ag[d]?).bind (·.boxes[b]?)
def ae.tok (s:ae) (d g:Nat):Option Nat:=((s.ag[d]?).bind (·.toks[g]?)).join
def ae.j4 (s:ae) (d:Nat):Nat:=match s.ag[d]? with|some r=>r.toks.length|none=>0
def ae.lZ (s:ae) (d:Nat):Bool:=match s.ag[d]? with|some r=>r.toks.any Option.isNone|none=>false
def ae.cE (s:ae) (d:Nat):Nat:=match s.ag[d]? with|some r=>r.boxes.length|none=>0
def ae.bG (s:ae) (d:Nat) (f:Rec→Rec):ae:={s with ag:=s.ag.modify d f}
def ae.dQ (s:ae) (d b:Nat) (cs:List AV):ae:=s.bG d fun r=>{r with boxes:=r.boxes.set b cs}
def ae.mH (s:ae) (d g:Nat) (n:Option Nat):ae:=s.bG d fun r=>{r with toks:=r.toks.set g n}
def ae.lB (s:ae) (d n:Nat):ae:=s.bG d fun r=>{r with toks:=r.toks++[some n]}
def ae.tF (s:ae) (d:Nat) (cs:List AV):ae:=s.bG d fun r=>{r with boxes:=r.boxes++[cs]}
def ae.row (m:ae):AV→Option (List AV×Nat)
 |.ptr d b off=>(m.box d b).map fun cs=>(cs,off)
 |.bd cs off=>some (cs,off)
 |_=>none
def part (agg:Bool) (n:Nat) (cs:List AV) (off:Nat):Option AV:=
 if agg then(if off+n≤cs.length then some (.agg ((cs.drop off).take n))else none)else cs[off]?
def ae.load (m:ae) (agg:Bool) (n:Nat) (x:AV):Option AV:=
 (m.row x).bind fun(cs,off)=>part agg n cs off
def setCells (cs:List AV) (off:Nat):List AV→List AV
 |[]=>cs
 |x::r=>setCells (cs.set off x) (off+1) r
def ae.fit (m:ae) (d:Nat):AV→Option (AV×ae)
 | .slice (.tok d' g) es xs =>
  if d'≤d then some (.slice (.tok d' g) es xs,m)
  else if d'=m.cur∧m.tok d' g=some xs.length then
   some (.slice (.tok d (m.j4 d)) es xs,(m.mH d' g none).lB d xs.length)
  else some (.slice .any es xs,m)
 |.ptr d' b off=>if d'≤d then some (.ptr d' b off,m)else none
 |.aN d' b off es n cap=>if d'≤d then some (.aN d' b off es n cap,m)else none
 |x=>x.close.map (·,m)
def ae.fitAll (m:ae) (d:Nat):List AV→Option (List AV×ae)
 |[]=>some ([],m)
 | x :: r => match m.fit d x with
  |none=>none
  |some (y,m1)=>match m1.fitAll d r with
   |none=>none
   |some (s,m2)=>some (y::s,m2)
def ae.store (m : ae) (n : Nat) (x y : AV) : Option ae :=
 match x with
 | .ptr d b off =>
  if m.ro≤d∧y.cells.length=n∧y.cells.all AV.bK=true then
   match(if d=m.cur then some (y.cells,m)else m.fitAll d y.cells)with
   |none=>none
   |some (cs,m1)=>match m1.box d b with
    |none=>none
    |some row=>if off+n≤row.length then some (m1.dQ d b (setCells row off cs))else none
  else none
 |_=>none
def ae.eG (m:ae) (cs:List AV):AV×ae:=(.ptr m.cur (m.cE m.cur) 0,m.tF m.cur cs)
def rH (op:BinOp) (k:IntKind) (x y:Int):Option Value:=
 match op with
 |.add=>some (.int k (k.wrap (x+y)))
 |.sub=>some (.int k (k.wrap (x-y)))
 |.mul=>some (.int k (k.wrap (x*y)))
 |.quo=>if y=0 then none else some (.int k (k.wrap (x.tdiv y)))
 |.rem=>if y=0 then none else some (.int k (x.tmod y))
 |.and=>some (.int k (k.wrap (BitVec.ofInt k.bits x&&&BitVec.ofInt k.bits y).toNat))
 |.or=>some (.int k (k.wrap (BitVec.ofInt k.bits x|||BitVec.ofInt k.bits y).toNat))
 |.xor=>some (.int k (k.wrap (BitVec.ofInt k.bits x^^^BitVec.ofInt k.bits y).toNat))
 |.andNot=>some (.int k (k.wrap (BitVec.ofInt k.bits x&&&~~~(BitVec.ofInt k.bits y)).toNat))
 |.eql=>some (.bool (x==y))
 |.neq=>some (.bool (x != y))
 |.lss=>some (.bool (x<y))
 |.leq=>some (.bool (x≤y))
 |.gtr=>some (.bool (x>y))
 |.geq=>some (.bool (x≥y))
 |_=>none
def rN (op:BinOp) (k:IntKind) (x y:Int):Option Value:=
 if y<0 then none else
 match op with
 |.shl=>some (.int k (k.wrap (x*2^min y.toNat k.bits)))
 |.shr=>some (.int k (x.fdiv (2^min y.toNat k.bits)))
 |_=>none
def s7 (op:BinOp) (x y:ByteArray):Option Value:=
 match op with
 |.add=>if((x.size+y.size:Nat):Int)>IntKind.i64.max then none else some (.string (x++y))
 |.eql=>some (.bool (x.data.toList==y.data.toList))
 |.neq=>some (.bool !(x.data.toList==y.data.toList))
 |.lss=>some (.bool (Op.bytesLess x.data.toList y.data.toList))
 |.leq=>some (.bool (Op.bytesLess x.data.toList y.data.toList||x.data.toList==y.data.toList))
 |.gtr=>some (.bool !(Op.bytesLess x.data.toList y.data.toList||x.data.toList==y.data.toList))
 |.geq=>some (.bool !(Op.bytesLess x.data.toList y.data.toList))
 |_=>none
def pI:BinOp→Bool
 |.shl|.shr=>true
 |_=>false
def cC (op:BinOp):AV→AV→Option AV
 |.v (.int k a),.v (.int k' b)=>
  if pI op then(rN op k a b).map .v else if k=k' then(rH op k a b).map .v else none
 |.v (.string a),.v (.string b)=>(s7 op a b).map .v
 |_,_=>none
def Qr:PK→AV→AV→Option Bool
 |.int,.v (.int k a),.v (.int k' b)=>if k=k' then some (a==b)else none
 |.bool,.v (.bool a),.v (.bool b)=>some (a==b)
 |.str,.v (.string a),.v (.string b)=>some (a.data.toList==b.data.toList)
 |_,_,_=>none
def GM:List PK→List AV→List AV→Option Bool
 |[],[],[]=>some true
 |k::ks,x::r,y::s=>match Qr k x y with
  |some true=>GM ks r s
  |some false=>some false
  |none=>none
 |_,_,_=>none
def Sn:AV→Option Bool
 |.slice .aA _ _=>some true
 |.slice _ _ _=>some false
 |.aN .. =>some false
 |_=>none
def Sk:AV→Option Bool
 |.v (.pointer none)=>some true
 |.ptr .. =>some false
 |.bd .. =>some false
 |_=>none
def Sj:AV→Option Bool
 |.v .nilIface=>some true
 |.iface .. =>some false
 |.qF=>some false
 |_=>none
def Si:AV→Option Bool
 |.v .nilFunc=>some true
 |.fn .. =>some false
 |.yield .. =>some false
 |_=>none
def yZ (f:AV→Option Bool) (x y:AV):Option Bool:=
 match f x,f y with
 |some true,some b=>some b
 |some b,some true=>some b
 |_,_=>none
def pg (k:IT) (x y:AV):Option Bool:=
 match k with
 |.bool=>match x,y with
  |.v (.bool a),.v (.bool b)=>some (a==b)
  |_,_=>none
 |.agg ks=>match x,y with
  |.agg a,.agg b=>GM ks a b
  |_,_=>none
 |.ptr=>yZ Sk x y
 |.iface=>yZ Sj x y
 |.slice=>yZ Sn x y
 |.func=>yZ Si x y
def unOp (op:UnOp):AV→Option AV
 |.v (.bool b)=>match op with|.not=>some (.v (.bool !b))|_=>none
 |.v (.int k n)=>match op with|.neg=>some (.v (.int k (k.wrap (0-n))))|_=>none
 |_=>none
def byteCells (s:ByteArray):List (List AV):=s.data.toList.map fun b=>[.v (.int .u8 b.toNat)]
def byteOf:List AV→Option UInt8
 |[.v (.int .u8 n)]=>if 0≤n∧n<256 then some (UInt8.ofNat n.toNat)else none
 |_=>none
def bytesOf:List (List AV)→Option (List UInt8)
 |[]=>some []
 |x::r=>match byteOf x,bytesOf r with
  |some b,some s=>some (b::s)
  |_,_=>none
def mQ (k:IS):AV→Option AV
 |.v (.int _ n)=>match k with|.int k'=>some (.v (.int k' (k'.wrap n)))|_=>none
 |.v (.string s)=>match k with
  |.same=>some (.v (.string s))
  |.bytes=>some (.slice .any 1 (byteCells s))
  |_=>none
 |.slice _ _ xs=>match k with
  |.text=>(bytesOf xs).map fun l=>.v (.string ⟨l.toArray⟩)
  |_=>none
 |_=>none
def asNat (x:AV) (dD:Nat):Option Nat:=
 match x with
 |.v (.int _ n)=>if 0≤n∧n≤dD then some n.toNat else none
 |_=>none
def chunks (es:Nat):Nat→List AV→List (List AV)
 |0,_=>[]
 |n+1,cs=>cs.take es::chunks es n (cs.drop es)
def Iy (o:Own) (whole:Bool):Own:=
 match o with
 |.aA=>.aA
 |.tok d g=>if whole then .tok d g else .any
 |.full=>.any
 |_=>.any
def iq (lo:Option AV) (h:Nat):Option Nat:=
 match lo with
 |some l=>asNat l h
 |none=>some 0
def iU (hi:Option AV) (full:Bool) (m len:Nat):Option Nat:=
 match hi with
 |some h=>asNat h m
 |none=>if full then none else some len
def qD (mx:Option AV) (cap:Nat):Option Nat:=
 match mx with
 |some m=>asNat m cap
 |none=>some cap
def wq (o:Own) (full whole all:Bool):Own:=
 if full then(if o.isNil then .aA else if all then .full else .any)else Iy o whole
def fQ (k : DS) (x : AV) (lo hi mx : Option AV) : Option AV :=
 match k,x with
 |.str,.v (.string s)=>
  if mx.isSome then none else
  (iU hi false s.size s.size).bind fun h=>(iq lo h).map fun l=>.v (.string (s.extract l h))
 | .sl e0, .slice o es xs =>
  if o.isNil=true∨es=e0 then
   (qD mx xs.length).bind fun m=>(iU hi mx.isSome m xs.length).bind fun h=>(iq lo h).map fun l=>
    .slice (wq o mx.isSome (l==0&&h==xs.length) (h==m&&0<m)) es ((xs.take h).drop l)
  else none
 | .sl e0, .aN d b off es n cap =>
  if es=e0 then
   (qD mx (max n cap)).bind fun m=>(iU hi mx.isSome m n).bind fun h=>(iq lo h).map fun l=>
    .aN d b (if m=l then off else off+l*es) es (h-l) (m-l)
  else none
 |.arr n es,.ptr d b off=>
  if mx.isSome then none else
  (iU hi false n n).bind fun h=>(iq lo h).map fun l=>.aN d b (if n=l then off else off+l*es) es (h-l) (n-l)
 | .arr n es, .bd cs off =>
  if mx.isSome then none else
  (iU hi false n n).bind fun h=>(iq lo h).bind fun l=>
   if off+n*es≤cs.length then some (.slice .any es (chunks es (h-l) (cs.drop (off+l*es))))else none
 |_,_=>none
def idx (x:AV) (len:Nat):Option Nat:=
 match x with
 |.v (.int _ n)=>if 0≤n∧n<len then some n.toNat else none
 |_=>none
def gR (arr:Option Nat) (es:Nat) (x i:AV):Option AV:=
 match arr,x with
 |none,.slice _ e1 xs=>if e1=es then(idx i xs.length).bind fun j=>(xs[j]?).map fun r=>.bd r 0 else none
 |none,.aN d b off e1 n _=>if e1=es then(idx i n).map fun j=>.ptr d b (off+j*es)else none
 |some n,.ptr d b off=>(idx i n).map fun j=>.ptr d b (off+j*es)
 |some n,.bd cs off=>(idx i n).map fun j=>.bd cs (off+j*es)
 |_,_=>none
def y6 (cs:List AV) (off size:Nat) (x:AV):Option (List AV):=
 if x.cells.length=size∧off+size≤cs.length∧x.cells.all AV.bK=true then some (setCells cs off x.cells)else none
def CZ (mx:Bool):AV→AV→Option AV
 |.v (.int k x),.v (.int k' y)=>if k=k' then some (.v (.int k (if mx then(if y>x then y else x)else(if y<x then y else x))))else none
 |_,_=>none
def yf (mx:Bool) (x:AV):List AV→Option AV
 |[]=>some x
 |y::r=>match CZ mx x y with
  |some z=>yf mx z r
  |none=>none
def dD:Nat:=4294967296
def et (m:ae) (es:Nat) (x y:AV):Option (AV×ae):=
 match x,y with
 | .slice o e1 xs, .slice _ e2 ys =>
  if ys.isEmpty then some (x,m)else
  if e2=es∧(o.isNil=true∨e1=es)∧xs.length+ys.length≤dD then
   match o with
   |.aA|.full=>some (.slice (.tok m.cur (m.j4 m.cur)) es (xs++ys),m.lB m.cur (xs.length+ys.length))
   |.tok d g=>if m.ro≤d∧m.tok d g=some xs.length then some (.slice (.tok d g) es (xs++ys),m.mH d g (some (xs.length+ys.length)))else none
   |_=>none
  else none
 |_,_=>none
def ae.sX (m:ae) (b:Nat) (cs:List AV):ae:=(m.bG m.cur fun r=>{r with boxes:=r.boxes.set b []++[cs],toks:=r.toks++[none]})
def mO (m : ae) (es : Nat) (x y : AV) : Option (AV × ae) :=
 match y with
 | .slice _ e2 ys =>
  if ys.isEmpty then(match x with|.slice .. |.aN .. =>some (x,m)|_=>none)else
  if e2 = es then
   match x with
   | .slice o e1 xs =>
    if(o.isNil=true∨(o.isFull=true∧e1=es))∧xs.length+ys.length≤dD then
     some (.aN m.cur (m.cE m.cur) 0 es (xs.length+ys.length) 0,(m.eG (xs.flatten++ys.flatten)).2)
    else none
   | .aN d b off e1 n cap =>
    if d=m.cur∧off=0∧cap=0∧0<n∧e1=es∧n+ys.length≤dD then
     match m.box d b with
     |some cs=>if cs.length=n*es then some (.aN m.cur (m.cE m.cur) 0 es (n+ys.length) 0,m.sX b (cs++ys.flatten))else none
     |none=>none
    else none
   |_=>none
  else none
 |_=>none
def yA (m:ae) (es:Nat) (x y:AV):Option (AV×ae):=
 match x,y with
 |.slice o e1 xs,.slice _ e2 ys=>
  if(xs.flatten++ys.flatten).isEmpty=true∧ys.isEmpty=false then none
  else if xs=[]∧o.isFull=true∧e1=es∧e2=es∧dD<ys.length∧ys.length*(8*es)≤140737488355328 then some (.aN m.cur (m.cE m.cur) 0 es ys.length 0,(m.eG ys.flatten).2)
  else mO m es x y
 |_,_=>none
def mP (rows:List (List AV)) (ρ:aJ→AV):List (Nat×aJ)→Option (List (List AV))
 |[]=>some rows
 |(i,x)::r=>match rows[i]?,closeAll (ρ x).cells with
  |some row,some cs=>if cs.length=row.length then mP (rows.set i cs) ρ r else none
  |_,_=>none
def ae.yk (m:ae):AV→Option (List AV)
 |.slice _ e xs=>if e=1∨xs.isEmpty=true then some xs.flatten else none
 |.aN d b off e n _=>if e=1 then(m.box d b).bind fun cs=>if off+n≤cs.length then some ((cs.drop off).take n)else none else none
 |_=>none
def tM (m:ae) (x y:AV):Option (AV×ae):=
 match x with
 |.slice _ _ []=>(m.yk y).map fun _=>(AV.int 0,m)
 | .aN d b off e n _ => if e = 1 then (m.yk y).bind fun ys =>
   if(ys.take n).isEmpty then some (AV.int 0,m)else(m.store (ys.take n).length (.ptr d b off) (.agg (ys.take n))).map (AV.int (ys.take n).length,·)else none
 |_=>none
def ae.kill (m:ae) (b:Nat):ae:=m.bG m.cur fun r=>{r with boxes:=r.boxes.set b [],toks:=r.toks++[none]}
def BV (m:ae):AV→Option (AV×ae)
 |.aN d b off es n _=>if d=m.cur then(m.box d b).bind fun cs=>if cs.isEmpty=true then none else if off+n*es≤cs.length then(closeAll cs).map fun cs'=>(.slice .any es (chunks es n (cs'.drop off)),m.kill b)else none else none
 |.slice o es xs=>some (.slice o es xs,m)
 |_=>none
def yP (m:ae) (es:Nat) (row:List AV) (x:AV):Option (AV×ae):=
 (BV m x).bind fun p=>(mP [row] (fun _=>p.1) [(0,.const AV.undef)]).map fun rs=>(.slice .full es rs,p.2)
def qY (ρ:aJ→AV):Option aJ→Option AV
 |none=>none
 |some x=>some (ρ x)
def eo (call:bj) (ro:Bool) (m:ae) (t:Target) (args:List AV):Option (AV×ae):=
 if ro then(call t args {m with ro:=m.ag.length,cq:=m.loops.length}).map fun p=>(p.1,m)
 else call t args m
def nz (cs:List AV) (ρ:aJ→AV):List (Nat×Nat×aJ)→Option (List AV)
 |[]=>some cs
 |(off,size,x)::r=>match y6 cs off size (ρ x)with
  |some cs'=>nz cs' ρ r
  |none=>none
def Df (off:Nat):AV→Option AV
 |.ptr d b o=>some (.ptr d b (o+off))
 |.bd cs o=>some (.bd cs (o+off))
 |_=>none
def zS:AV→Option AV
 |.ptr d b off=>some (.ptr d b off)
 |.bd cs off=>some (.bd cs off)
 |.fn f a b=>some (.fn f a b)
 |.yield l=>some (.yield l)
 |.iface t x=>some (.iface t x)
 |_=>none
def zJ:AV→AV→Option AV
 |.v (.string s),j=>(idx j s.size).bind fun k=>(s[k]?).map fun b=>.v (.int .u8 b.toNat)
 |_,_=>none
def HV (n es:Nat) (agg:Bool):AV→AV→Option AV
 |.agg cs,j=>(idx j n).bind fun k=>part agg es cs (k*es)
 |_,_=>none
def GS (agg:Bool) (n off:Nat):AV→Option AV
 |.agg cs=>part agg n cs off
 |_=>none
def y0 (i:Nat):AV→Option AV
 |.tuple vs=>vs[i]?
 |_=>none
def oR (str:Bool):AV→Option AV
 |.slice _ _ xs=>if str then none else some (AV.int xs.length)
 |.aN _ _ _ _ n _=>if str then none else some (AV.int n)
 |.v (.string s)=>if str then some (AV.int s.size)else none
 |_=>none
def Ii (c a b:AV):Option AV:=
 match c with
 |.v (.bool t)=>some (if t then a else b)
 |_=>none
def Mz (t:TypeId) (x:AV):Option AV:=
 match x with
 |.agg cs=>(closeAll cs).map fun cs'=>.iface t (.agg cs')
 |x=>if x.kI then some (.iface t x)else none
def yM (m:ae) (n:Nat) (y:AV):Option (AV×ae):=
 if y.cells.length=n∧y.cells.all AV.bK=true∧0<n then some (m.eG y.cells)else none
def yg (m:ae) (es:Nat) (zs:List AV) (l c:AV):Option (AV×ae):=
 (asNat c dD).bind fun cn=>(asNat l cn).map fun ln=>if(List.replicate cn zs).flatten.isEmpty then(.slice .full es [],m)else(.aN m.cur (m.cE m.cur) 0 es ln cn,(m.eG (List.replicate cn zs).flatten).2)
def yh (m:ae) (es:Nat) (zs:List AV) (l c:AV):Option (AV×ae):=
 (asNat c dD).bind fun cn=>(asNat l cn).bind fun ln=>if(List.replicate cn zs).flatten.isEmpty=true∨ln≠cn then none else some (.aN m.cur (m.cE m.cur) 0 es cn 0,(m.eG (List.replicate cn zs).flatten).2)
def ae.l5 (m:ae) (n:Nat):ae:=m.bG m.cur fun r=>{r with boxes:=r.boxes++List.replicate n []}
def mJ (m:ae) (back:Nat) (zs:List AV):Option (AV×ae):=
 match m.box m.cur (m.cE m.cur-back)with
 |some []=>if zs.isEmpty=true∨m.lZ m.cur=true then none else some (.ptr m.cur (m.cE m.cur-back) 0,m.dQ m.cur (m.cE m.cur-back) zs)
 |_=>none
def yd (m:ae) (res:Nat) (agg:Bool) (n:Nat) (x:AV):Option AV:=
 match x with
 |.ptr d b off=>if d=m.cur∧m.cE m.cur≤b+res then none else m.load agg n (.ptr d b off)
 |x=>m.load agg n x
def ae.yW (m:ae) (b:Nat):Bool:=match m.ag[m.cur]? with|some r=>(r.boxes.drop (b+1)).any List.isEmpty|none=>false
def zN (m:ae) (agg:Bool) (n:Nat) (x:AV):Option AV:=
 match x with
 |.ptr d b off=>if d=m.cur∧m.yW b=false then none else m.load agg n (.ptr d b off)
 |x=>m.load agg n x
def y5 (m:ae) (back n:Nat) (x y:AV):Option ae:=
 match x with
 |.ptr d b off=>if d=m.cur∧b=m.cE m.cur-back∧0<back then m.store n (.ptr d b off) y else none
 |_=>none
def rJ (mx:Bool):List AV→Option AV
 |x::r=>yf mx x r
 |[]=>none
def nB (call:bj) (ro:Bool) (m:ae) (x:AV) (args:List AV):Option (AV×ae):=
 match x with
 |.fn f first caps=>eo call ro m (.fn f) (first++args++caps)
 |.yield l=>eo call ro m (.yield l) args
 |_=>none
def mz (m:ae):List AV→Option (List AV)
 |[]=>some []
 | .ptr d b off :: r => if d = m.cur then
   match(m.box d b).bind closeAll,mz m r with
   |some cs,some s=>some (.bd cs off::s)
   |_,_=>none
  else none
 |x::r=>if x.kI then(mz m r).map (x::·)else none
def eR (m:ae):AV→Option AV
 |.slice (.tok _ _) es xs=>some (.slice .any es xs)
 |.ptr d b off=>if d=m.cur then(m.box d b).bind fun cs=>(closeAll cs).map fun cs'=>.bd cs' off else some (.ptr d b off)
 |.aN d b off es n _=>if d=m.cur then(m.box d b).bind fun cs=>if off+n*es≤cs.length then(closeAll cs).map fun cs'=>.slice .any es (chunks es n (cs'.drop off))else none else none
 |.fn f first caps=>if first.all AV.vS then(mz m caps).map (.fn f first ·)else none
 |x=>x.close
def nW (m:ae):List AV→Option (List AV)
 |[]=>some []
 |x::r=>match eR m x,nW m r with
  |some y,some s=>some (y::s)
  |_,_=>none
def dL (m:ae):AV→Option AV
 |.agg cs=>(nW m cs).map .agg
 |x=>eR m x
def nZ (m:ae):AV→Option (AV×ae)
 | .slice (.tok d g) es xs =>
  if d=m.cur∧1≤d∧m.ro<d∧m.tok d g=some xs.length then
   some (.slice (.tok (d-1) (m.j4 (d-1))) es xs,m.pop.lB (d-1) xs.length)
  else some (.slice .any es xs,m.pop)
 |x=>(dL m x).map (·,m.pop)
def nA (call:bj) (m:ae) (f:FuncId) (args:List AV):Option (AV×ae):=
 match call (.fn f) args {m.push ⟨[],[]⟩with ro:=m.ag.length,cq:=m.loops.length}with
 |some (.slice (.tok d g) es xs,s)=>
  if d=m.ag.length∧1≤m.ag.length∧m.ro<m.ag.length∧s.tok d g=some xs.length then some (.slice (.tok m.cur (m.j4 m.cur)) es xs,m.lB m.cur xs.length)
  else some (.slice .any es xs,m)
 |some (x,s)=>(dL s x).map (·,m)
 |none=>none
def ae.tail (m:ae) (r:Nat):List (List AV):=match m.ag[m.cur]? with
 |some q=>q.boxes.drop (q.boxes.length-r)
 |none=>[]
def ae.jd (m:ae) (r:Nat) (bx:List (List AV)):ae:=m.bG m.cur fun q=>{q with boxes:=q.boxes.take (q.boxes.length-r)++bx}
def qZ:List (List AV)→List (List (List AV))
 |[]=>[[]]
 |z::r=>(qZ r).map ([]::·)++(qZ r).map (z::·)
open Classical in
noncomputable def nD (call:bj) (ro:Bool) (m:ae) (zss:List (List AV)) (t:Target) (args:List AV):Option (AV×ae):=
 match eo call ro m t args with
 |some (v,m')=>if m.tail zss.length∈qZ zss∧(∀bx,bx∈qZ zss→eo call ro (m.jd zss.length bx) t args=some (v,m'.jd zss.length bx))∧m'.ag.length=m.ag.length∧m'.cE m.cur=m.cE m.cur∧m'.tail zss.length=m.tail zss.length∧(ro=true→m'=m)∧(m'.lZ m.cur=false→m.lZ m.cur=false)then some (v,m')else none
 |none=>none
noncomputable def aO (call:bj) (ρ:aJ→AV) (m:ae):cm→Option (AV×ae)
 |.move x=>some (ρ x,m)
 |.pick c a b=>(Ii (ρ c) (ρ a) (ρ b)).map (·,m)
 |.alloc zs=>if zs.isEmpty then none else some (m.eG zs)
 |.box n x=>yM m n (ρ x)
 |.build zs parts=>(nz zs ρ parts).map fun cs=>(.agg cs,m)
 |.buildSlice es rows parts=>(mP rows ρ parts).map fun rs=>(.slice .full es rs,m)
 |.load agg n x=>(m.load agg n (ρ x)).map (·,m)
 |.store n x y=>(m.store n (ρ x) (ρ y)).map (AV.undef,·)
 |.nilCheck x=>(zS (ρ x)).map (·,m)
 |.arith op x y=>(cC op (ρ x) (ρ y)).map (·,m)
 |.eqv neg k x y=>(pg k (ρ x) (ρ y)).map fun t=>(.v (.bool (if neg then !t else t)),m)
 |.un op x=>(unOp op (ρ x)).map (·,m)
 |.conv k x=>(mQ k (ρ x)).map (·,m)
 |.C0 t x=>(Mz t (ρ x)).map (·,m)
 |.mC f first caps=>if(first.map ρ).all AV.vS then some (.fn f (first.map ρ) (caps.map ρ),m)else none
 |.mkSlice es zs len cap=>yg m es zs (ρ len) (ρ cap)
 |.zR es zs len cap=>yh m es zs (ρ len) (ρ cap)
 |.slice k x lo hi mx=>(fQ k (ρ x) (qY ρ lo) (qY ρ hi) (qY ρ mx)).map (·,m)
 |.fieldAddr off x=>(Df off (ρ x)).map (·,m)
 |.indexAddr arr es x i=>(gR arr es (ρ x) (ρ i)).map (·,m)
 |.CS x i=>(zJ (ρ x) (ρ i)).map (·,m)
 |.index n es agg x i=>(HV n es agg (ρ x) (ρ i)).map (·,m)
 |.field agg n off x=>(GS agg n off (ρ x)).map (·,m)
 |.extract i x=>(y0 i (ρ x)).map (·,m)
 |.call ro f args=>eo call ro m (.fn f) (args.map ρ)
 |.gW ro x args=>nB call ro m (ρ x) (args.map ρ)
 |.tK f args=>nA call m f (args.map ρ)
 |.ve f args=>eo call false m (.inl f) (args.map ρ)
 |.xk f args=>eo call true m (.nat f) (args.map ρ)
 |.sg ro zss f args=>nD call ro m zss (.fn f) (args.map ρ)
 |.append es x y=>et m es (ρ x) (ρ y)
 |.qT es x y=>mO m es (ρ x) (ρ y)
 |.wY es x y=>yA m es (ρ x) (ρ y)
 |.copy x y=>tM m (ρ x) (ρ y)
 |.yO es row t=>yP m es row (ρ (.tmp t))
 |.len str x=>(oR str (ρ x)).map (·,m)
 |.CW n=>some (AV.int n,m)
 |.zQ mx xs=>(rJ mx (xs.map ρ)).map (·,m)
 |.l5 n=>some (AV.undef,m.l5 n)
 |.slot back zs=>mJ m back zs
 |.fW res agg n x=>(yd m res agg n (ρ x)).map (·,m)
 |.jM agg n x=>(zN m agg n (ρ x)).map (·,m)
 |.fill back n x y=>(y5 m back n (ρ x) (ρ y)).map (AV.undef,·)
def aD (ρ:Nat→AV):aJ→AV
 |.tmp t=>ρ t
 |.const c=>c
def put (t:Nat) (x:AV) (ρ:Nat→AV):Nat→AV:=fun u=>if u=t then x else ρ u
def kL (ρ:Nat→AV) (dst:Option Nat) (x:AV):Nat→AV:=
 match dst with
 |some t=>put t x ρ
 |none=>ρ
def Ds (b:Bool):AV→Bool
 |.v (.bool c)=>c==b
 |_=>false
def kO (ρ:Nat→AV):Option (Nat×Bool)→Bool
 |none=>true
 |some (t,b)=>Ds b (ρ t)
noncomputable def ops (call:bj):List bt→St→Option St
 |[],st=>some st
 | o :: rest, st =>
  if kO st.tmps o.guard then
   match aO call (aD st.tmps) st.sig o.op with
   |some (x,m)=>ops call rest ⟨kL st.tmps o.dst x,m⟩
   |none=>none
  else ops call rest ⟨kL st.tmps o.dst AV.undef,st.sig⟩
def lW (f:St→Option (c8×St)):Nat→St→Option (c8×St)
 |0,_=>none
 |n+1,st=>match f st with
  |some (.normal,aM)=>lW f n aM
  |r=>r
def uD (ρ:Nat→AV):List Nat→List AV→Nat→AV
 |p::ps,x::xs=>uD (put p x ρ) ps xs
 |_,_=>ρ
def jm:List AV→Nat→AV
 |[],_=>AV.undef
 |x::_,0=>x
 |_::r,n+1=>jm r n
def enterLoop (s:ae) (l:da):ae:={s with loops:=s.loops++[l]}
def ya (s:ae) (l:Nat):Option (Option c8×ae):=
 if s.loops.length=l+1 then
  match s.loops[l]? with
  |some lp=>if lp.ready∨lp.eH.isSome then some (lp.eH,{s with loops:=s.loops.take l})else none
  |none=>none
 else none
noncomputable def exec (call:bj) (lf:Nat):au→St→Option (c8×St)
 |.skip,st=>some (.normal,st)
 |.region _ l,st=>(ops call l st).map (c8.normal,·)
 |.seq a b,st=>match exec call lf a st with
  |some (.normal,aM)=>exec call lf b aM
  |r=>r
 |.cond c a b,st=>match aD st.tmps c with
  |.v (.bool t)=>if t then exec call lf a st else exec call lf b st
  |_=>none
 |.block id a,st=>match exec call lf a st with
  |some (.exit j,aM)=>if j=id then some (.normal,aM)else some (.exit j,aM)
  |r=>r
 |.loop a,st=>lW (exec call lf a) lf st
 | .rangeFunc f ps as body, st =>
  match aD st.tmps f with
  | .fn g first caps =>
   match call (.fn g) (first++.yield st.sig.loops.length::caps) (enterLoop st.sig ⟨true,none,st.tmps,ps,as,body⟩)with
   |some (_,s)=>match ya s st.sig.loops.length with
    |some (e,s1)=>some (e.getD .normal,⟨st.tmps,s1⟩)
    |none=>none
   |none=>none
  |_=>none
 |.exit id,st=>some (.exit id,st)
 |.ret,st=>some (.ret,st)
def uB (st:St):iy→Option AV
 |.tmp t=>some (st.tmps t)
 |.cell agg n t=>st.sig.load agg n (st.tmps t)
def sZ (st:St):List iy→Option (List AV)
 |[]=>some []
 |r::rest=>match(uB st r).bind (dL st.sig),sZ st rest with
  |some x,some s=>some (x::s)
  |_,_=>none
def yi (st:St):List iy→Option (List AV)
 |[]=>some []
 |r::rest=>match uB st r,yi st rest with
  |some x,some s=>some (x::s)
  |_,_=>none
def packed:List AV→AV
 |[x]=>x
 |l=>.tuple l
def ef (s:ae) (l:Nat) (f:da→da):ae:={s with loops:=s.loops.modify l f}
def CY (s:ae) (l:Nat):Bool:=match s.loops[l]? with|some p=>p.ready|none=>false
def finish (rs:List iy) (own:Bool) (st:St):Option (AV×ae):=
 if own then
  match rs with
  |[r]=>(uB st r).bind (nZ st.sig)
  |_=>none
 else(sZ st rs).map fun l=>(packed l,st.sig.pop)
noncomputable def iP (AP:FuncId→Option aE) (call:bj) (lf:Nat):bj:=fun t args s=>
 match t with
 | .fn f => match AP f with
  | some (.code np _ body rs own) =>
   if args.length=np then
    match exec call lf body ⟨jm args,s.push ⟨[],[]⟩⟩with
    |some (.normal,st)|some (.ret,st)=>finish rs own st
    |_=>none
   else none
  |some (.lg F)=>(closeAll args).bind fun as=>(F as).map (·,s)
  |_=>none
 | .inl f => match AP f with
  | some (.code np _ body rs _) =>
   if args.length=np∧s.ro<s.ag.length then
    match exec call lf body ⟨jm args,s⟩with
    |some (.normal,st)|some (.ret,st)=>(yi st rs).map fun l=>(packed l,st.sig)
    |_=>none
   else none
  |_=>none
 |.nat f=>match AP f with
  |some (.nat F)=>(closeAll args).bind fun as=>(F as).map (·,s)
  |_=>none
 | .yield l => match s.loops[l]? with
  | some lp =>
   if lp.ready = true ∧ s.cq ≤ l ∧ args.length = lp.params.length then
    match exec call lf lp.assign ⟨uD lp.tmps lp.params args,s.push ⟨[],[]⟩⟩with
    | some (.normal, st) =>
     if CY st.sig l=true then
      match exec call lf lp.body ⟨st.tmps,ef st.sig l fun p=>{p with ready:=false}⟩with
      |some (.normal,aM)=>some (AV.bool true,(ef aM.sig l fun p=>{p with ready:=true,eH:=none}).pop)
      |some (e,aM)=>some (AV.bool false,(ef aM.sig l fun p=>{p with ready:=false,eH:=some e}).pop)
      |none=>none
     else none
    |_=>none
   else none
  |none=>none
noncomputable def fw (AP:FuncId→Option aE):Nat→bj
 |0=>fun _ _ _=>none
 |n+1=>iP AP (fw AP n) n
end Go.Ax
/-
  From the model's code to the abstract executor's: 'comp'. Plain definitions; nothing is claimed here.
-/
namespace Go.Ax
def fE {α β:Type} (f:α→Option β):List α→Option (List β)
 |[]=>some []
 |x::r=>match f x,fE f r with
  |some y,some s=>some (y::s)
  |_,_=>none
def uv:Value→Option AV
 |.bool b=>some (.v (.bool b))
 |.int k n=>some (.v (.int k n))
 |.string s=>some (.v (.string s))
 |.pointer none=>some (.v (.pointer none))
 |.slice none 0 0=>some (.slice .aA 0 [])
 |.func (.func f) first caps=>if first.size=0∧caps.size=0 then some (.fn f [] [])else none
 |.nilFunc=>some (.v .nilFunc)
 |.nilIface=>some (.v .nilIface)
 |_=>none
def ofValue:Value→Option AV
 |.agg cs=>(fE uv cs.toList).map .agg
 |x=>uv x
def dT:Operand→Option aJ
 |.tmp t=>some (.tmp t)
 |.const x=>(ofValue x).map .const
 |.func f=>some (.const (.fn f [] []))
 |.global _=>none
def BJ:Option Operand→Option (Option aJ)
 |none=>some none
 |some x=>(dT x).map some
def de (P:Program) (t:TypeId):Option Nat:=(P.info? t).map (·.size)
def yQ (P:Program) (t:TypeId):Option Nat:=(P.info? t).map (·.bytes)
def fl (P:Program) (t:TypeId):Option (List AV):=((P.info? t).bind (·.zero)).bind fun z=>fE uv z.cells.toList
def vR (P:Program) (t:TypeId):Option Bool:=(P.underlying t).map fun|.struct _|.array _ _=>true|_=>false
def zZ (P:Program) (t:TypeId):Option PK:=
 match P.underlying t with
 |some (.int _)=>some .int
 |some .bool=>some .bool
 |some .string=>some .str
 |_=>none
def xm (P:Program) (place:Nat→Option (Nat×Nat)):List (Nat×Operand)→Option (List (Nat×Nat×aJ))
 |[]=>some []
 |(i,x)::r=>match place i,dT x,xm P place r with
  |some (off,size),some y,some s=>some ((off,size,y)::s)
  |_,_,_=>none
def BK:List (Nat×Operand)→Option (List (Nat×aJ))
 |[]=>some []
 |(i,x)::r=>match dT x,BK r with
  |some y,some s=>some ((i,y)::s)
  |_,_=>none
def HX:Operand→Bool
 |.const .nilIface=>true
 |_=>false
def GN:BinOp→Option Bool
 |.eql=>some false
 |.neq=>some true
 |_=>none
def GD (P:Program) (op:BinOp) (neg:Bool) (t:TypeId) (x y:Operand) (a b:aJ):Option cm:=
 match P.underlying t with
 |some .bool=>some (.eqv neg .bool a b)
 |some (.int _)|some .string=>some (.arith op a b)
 |some (.struct fs)=>
  if P.stoodInHeld t=false∧P.eqGuardType P.depth t=false∧fs.toList.all (fun f=>f.name != "_")=true∧fs.toList.map (·.offset)=List.range fs.size
  then(fE (fun f:Field=>zZ P f.type) fs.toList).map fun ks=>.eqv neg (.agg ks) a b else none
 |some (.pointer _)=>some (.eqv neg .ptr a b)
 |some (.interface _)=>if HX x||HX y then some (.eqv neg .iface a b)else none
 |some (.slice _)=>some (.eqv neg .slice a b)
 |some (.func _ _ _)=>some (.eqv neg .func a b)
 |_=>none
def Qf (P:Program) (op:BinOp) (t:TypeId) (x y:Operand):Option cm:=
 match dT x,dT y with
 |some a,some b=>match GN op with
  |some neg=>GD P op neg t x y a b
  |none=>some (.arith op a b)
 |_,_=>none
def GC (P:Program) (src dst:TypeId) (x:aJ):Option cm:=
 match P.underlying src,P.underlying dst with
 |some (.int _),some (.int k)=>some (.conv (.int k) x)
 |some .string,some .string=>some (.conv .same x)
 |some .string,some (.slice e)=>match P.underlying e with
  |some (.int .u8)=>some (.conv .bytes x)
  |_=>none
 |some (.slice e),some .string=>match P.underlying e with
  |some (.int .u8)=>some (.conv .text x)
  |_=>none
 |_,_=>none
structure Mu where
 grow:Bool
 flat:List FuncId
 nat:List FuncId
 fresh:Bool:=false
 low:Bool:=false
 only:List Nat:=[]
def BH (P : Program) (ro own : Bool) (mu : Mu) (fr : Option (List (List AV))) (c : Call) : Option cm :=
 match fE dT c.args.toList with
 |none=>none
 | some as =>
  match c.callee with
  |.value (.func f)=>some (if mu.nat.contains f then .xk f as else if mu.flat.contains f then .ve f as else if ro&&own then .tK f as else match fr with|some zs=>.sg ro zs f as|none=>.call ro f as)
  |.value x=>(dT x).map fun y=>.gW ro y as
  |.invoke _ _=>none
  | .builtin b =>
   match b,as,c.argTypes.toList with
   | .append, [x, y], [t, u] => match P.underlying t, P.underlying u with
    |some (.slice e),some (.slice _)=>match de P e,yQ P e,fl P e with
     |some s,some n,some z=>if 0<s∧0<n∧n≤4096∧z.length=s then some (if mu.grow then(if mu.fresh&&decide (n≤8*s)then .wY s x y else .qT s x y)else .append s x y)else none
     |_,_,_=>none
    |_,_=>none
   |.len,[x],[t]=>match P.underlying t with
    |some (.slice _)=>some (.len false x)
    |some .string=>some (.len true x)
    |some (.array n _)=>some (.CW n)
    |_=>none
   | .copy, [x, y], [t, _] => match P.underlying t with
    |some (.slice e)=>match de P e with
     |some 1=>some (.copy x y)
     |_=>none
    |_=>none
   |.max,_,_=>some (.zQ true as)
   |.min,_,_=>some (.zQ false as)
   |_,_,_=>none
def abN (P:Program) (mu:Bool) (e:TypeId) (len:Nat):List (Nat×Operand)→Option Nat
 |[(i,.tmp t)]=>match P.underlying e with
  |some (.slice _)=>if mu=true∧len=1∧i=0 then some t else none
  |_=>none
 |_=>none
structure Md where
 ro:Bool
 own:Bool
 slot:Option Nat
 res:Option Nat
 fill:Option Nat
 mu:Mu
 fr:Option (List (List AV))
def gN (P : Program) (md : Md) : Op → Option cm
 |.move x|.assign x=>(dT x).map .move
 |.pick c a b=>match dT c,dT a,dT b with
  |some c,some a,some b=>some (.pick c a b)
  |_,_,_=>none
 |.alloc e=>match md.slot with
  |none=>(fl P e).map .alloc
  |some b=>(fl P e).map (.slot b)
 |.box e x=>match de P e,dT x with
  |some n,some y=>some (.box n y)
  |_,_=>none
 | .build t parts => match fl P t, P.underlying t with
  | some z, some (.struct fs) => if fs.toList.all (fun f => (de P f.type).isSome) = true then (xm P (fun i => match fs[i]? with
    |some f=>(de P f.type).map fun s=>(f.offset,s)
    |none=>none) parts.toList).map (.build z ·)else none
  |some z,some (.array _ e)=>match de P e with
   |some s=>(xm P (fun i=>some (i*s,s)) parts.toList).map (.build z ·)
   |none=>none
  |_,_=>none
 | .buildSlice t len parts => match P.underlying t with
  |some (.slice e)=>match de P e,fl P e,BK parts.toList with
   |some s,some z,some ps=>if len*s≤2^24∧z.length=s∧0<s then some (match abN P md.mu.grow e len parts.toList with|some t=>.yO s z t|none=>.buildSlice s (List.replicate len z) ps)else none
   |_,_,_=>none
  |_=>none
 |.load t x=>match vR P t,de P t,dT x with
  |some g,some n,some y=>some (match md.res with|none=>if md.mu.low then .jM g n y else .load g n y|some r=>.fW r g n y)
  |_,_,_=>none
 |.store t x y=>match de P t,dT x,dT y with
  |some n,some a,some b=>some (match md.fill with|none=>.store n a b|some k=>.fill k n a b)
  |_,_,_=>none
 |.nilCheck x=>(dT x).map .nilCheck
 |.binOp op t x y _=>Qf P op t x y
 |.unOp op _ x=>(dT x).map (.un op ·)
 |.convert src dst x=>(dT x).bind (GC P src dst ·)
 |.makeInterface t x=>match P.underlying t with
  |some (.interface _)=>none
  |some _=>(dT x).map (.C0 t ·)
  |none=>none
 |.makeFunc (.func f) first caps=>match fE dT first.toList,fE dT caps.toList with
  |some a,some b=>some (.mC f a b)
  |_,_=>none
 | .makeSlice t l c => match P.underlying t with
  |some (.slice e)=>match de P e,yQ P e,fl P e,dT l,dT c with
   |some s,some n,some z,some a,some b=>if 0<s∧n≤4096∧z.length=s then some (if md.mu.grow&&!md.mu.only.isEmpty then .zR s z a b else .mkSlice s z a b)else none
   |_,_,_,_,_=>none
  |_=>none
 | .slice t x lo hi mx => match dT x, BJ lo, BJ hi, BJ mx with
  |some a,some l,some h,some m=>match P.underlying t with
   |some .string=>some (.slice .str a l h m)
   |some (.slice e)=>(de P e).map fun s=>.slice (.sl s) a l h m
   |some (.array n e)=>(de P e).map fun s=>.slice (.arr n s) a l h m
   |_=>none
  |_,_,_,_=>none
 | .fieldAddr s x i => match P.underlying s, dT x with
  | some (.struct fs), some a => match fs[i]? with
   |some f=>match de P f.type with
    |some n=>if 0<n then some (.fieldAddr f.offset a)else none
    |none=>none
   |none=>none
  |_,_=>none
 | .field t x i => match P.underlying t, dT x with
  | some (.struct fs), some a => match fs[i]? with
   |some f=>match vR P f.type,de P f.type with
    |some g,some n=>some (.field g n f.offset a)
    |_,_=>none
   |none=>none
  |_,_=>none
 | .indexAddr t x i => match dT x, dT i with
  |some a,some j=>match P.underlying t with
   |some (.array n e)=>(de P e).map fun s=>.indexAddr (some n) s a j
   |some (.slice e)=>(de P e).map fun s=>.indexAddr none s a j
   |_=>none
  |_,_=>none
 | .index t x i => match dT x, dT i with
  | some a, some j => match P.underlying t with
   |some (.array n e)=>match vR P e,de P e with
    |some g,some s=>some (.index n s g a j)
    |_,_=>none
   |some .string=>some (.CS a j)
   |_=>none
  |_,_=>none
 |.extract x i=>(dT x).map (.extract i ·)
 |.call c=>BH P md.ro md.own md.mu md.fr c
 |.panic _=>some (.nilCheck (.const AV.undef))
 |_=>none
def z8 (acc:List Nat):List Oper→Option (List Nat)
 |[]=>some acc
 | o :: r =>
  let es:=o.after.toList.filter (Region.binds .any)
  if es.all (fun e=>decide (e.on<acc.length))then
   z8 (acc++[es.foldl (fun m e=>m|||1<<<e.on|||acc.getD e.on 0) 0]) r
  else none
def before (pre:List Nat) (i j:Nat):Bool:=(pre.getD j 0).testBit i
inductive UW where
 |pure
 |load
 |soft
 |fresh
 |slot (back:Nat)
 |fW (res:Nat)
 |fill (back:Nat)
 |hard
 |jM
 deriving DecidableEq
def cV:cm→UW
 |.load .. =>.load
 |.append .. =>.soft
 |.qT .. =>.hard
 |.call ro _ _|.gW ro _ _=>if ro then .soft else .hard
 |.tK _ _|.xk _ _=>.soft
 |.alloc _|.box .. |.mkSlice .. |.wY .. =>.fresh
 |.slot b _=>.slot b
 |.fW r _ _ _=>.fW r
 |.jM .. =>.jM
 |.fill b _ _ _=>.fill b
 |.store .. |.l5 _|.ve .. |.sg .. |.copy .. |.yO .. |.zR .. =>.hard
 |_=>.pure
def aoB:Op→Bool
 |.load .. =>true
 |_=>false
def lh:aJ→List Nat
 |.tmp t=>[t]
 |.const _=>[]
def M5:Option aJ→List Nat
 |some x=>lh x
 |none=>[]
def M4:cm→List Nat
 |.move x|.box _ x|.load _ _ x|.fW _ _ _ x|.jM _ _ x|.nilCheck x|.un _ x|.conv _ x|.C0 _ x|.fieldAddr _ x|.field _ _ _ x|.extract _ x|.len _ x=>lh x
 |.pick c a b=>lh c++lh a++lh b
 |.alloc _|.CW _|.l5 _|.slot _ _=>[]
 |.build _ ps=>ps.flatMap fun p=>lh p.2.2
 |.buildSlice _ _ ps=>ps.flatMap fun p=>lh p.2
 |.yO _ _ t=>[t]
 |.copy x y|.store _ x y|.fill _ _ x y|.arith _ x y|.eqv _ _ x y|.mkSlice _ _ x y|.zR _ _ x y|.indexAddr _ _ x y|.CS x y|.index _ _ _ x y|.append _ x y|.qT _ x y|.wY _ x y=>lh x++lh y
 |.mC _ a b=>a.flatMap lh++b.flatMap lh
 |.call _ _ xs|.tK _ xs|.ve _ xs|.xk _ xs|.sg _ _ _ xs|.zQ _ xs=>xs.flatMap lh
 |.gW _ x xs=>lh x++xs.flatMap lh
 |.slice _ x lo hi mx=>lh x++M5 lo++M5 hi++M5 mx
def we (o:bt):List Nat:=M4 o.op++(match o.guard with|some (t,_)=>[t]|none=>[])
def acb (f:Nat→bt→Nat→bt→Bool) (l:List bt):Bool:=
 l.zipIdx.all fun(x,i)=>l.zipIdx.all fun(y,j)=>i==j||f i x j y
inductive ZK where
 |i (k:IntKind) (n:Int)
 |b (x:Bool)
 |p
 |s (e:Nat)
 deriving DecidableEq
def Ny:AV→Option ZK
 |.v (.int k n)=>some (.i k n)
 |.v (.bool x)=>some (.b x)
 |.v (.pointer none)=>some .p
 |.slice .aA e []=>some (.s e)
 |_=>none
def ym:List AV→Option (List ZK)
 |[]=>some []
 |x::r=>match Ny x,ym r with
  |some y,some s=>some (y::s)
  |_,_=>none
def TF (a b:List AV):Bool:=match ym a,ym b with
 |some p,some q=>decide (p=q)
 |_,_=>false
def BU (x y:cm):Bool:=
 match x,y with
 |.sg _ zss _ _,.slot b zs'=>decide (0<b∧b≤zss.length)&&(match zss[zss.length-b]? with|some z=>TF z zs'|none=>false)
 |.sg ro _ _ _,.fW .. =>ro
 |.fW ..,.sg ro _ _ _=>ro
 |_,_=>false
def tQ (pre : List Nat) (l : List bt) : Bool :=
  acb (fun i x j y =>
    (match x.dst,y.dst with|some s,some t=>s != t|_,_=>true)&&
    (match y.dst with|some t=>!(we x).contains t||before pre i j||before pre j i|none=>true)&&
    (match cV x.op,cV y.op with
      |.pure,_|_,.pure|.load,.load=>true
      |.load,.soft|.soft,.load|.jM,.jM|.jM,.fresh|.fresh,.jM=>true
      |.load,.fresh=>before pre i j||before pre j i||decide (i<j)
      |.fresh,.load=>before pre i j||before pre j i||decide (j<i)
      |.fW _,.fW _|.slot _,.slot _=>true
      |.fW r,.slot b|.slot b,.fW r|.fW r,.fill b|.fill b,.fW r=>before pre i j||before pre j i||decide (b≤r)
      |_,_=>before pre i j||before pre j i||(BU x.op y.op&&decide (i<j))||(BU y.op x.op&&decide (j<i)))) l&&
  l.all fun x=>match x.dst with|some t=>!(we x).contains t|none=>true
def MQ (pre:List Nat) (l:List Oper) (i:Nat):Bool:=
 l.zipIdx.any fun(o,j)=>aoB o.op&&!(before pre i j)&&!(before pre j i)
def akX (l:List Oper) (t:Nat):Bool:=
 l.any fun o=>match o.op with
  |.call c=>(match c.callee with|.builtin .append=>true|_=>false)&&(match c.args.toList with|.tmp u::_=>u==t|_=>false)
  |_=>false
def Lx (l:List Oper) (i:Nat):Bool:=match(l[i]?).bind (·.dst)with
 |some t=>akX l t
 |none=>false
def BI (l:List Oper):Option (Nat×Bool)→Option (Option (Nat×Bool))
 |none=>some none
 |some (j,b)=>match(l[j]?).bind (·.dst)with
  |some t=>some (some (t,b))
  |none=>none
def oE (P:Program) (all:List Oper) (md:Nat→Md):Nat→List Oper→Option (List bt)
 |_,[]=>some []
 |i,o::r=>match BI all o.guard,gN P (md i) o.op,oE P all md (i+1) r with
  |some g,some op,some s=>some (⟨o.dst,g,op⟩::s)
  |_,_,_=>none
def Sh:Op→Bool
 |.alloc _=>true
 |_=>false
def wW:List Oper→Nat
 |[]=>0
 |o::r=>(if Sh o.op then 1 else 0)+wW r
def afk (P:Program) (l:List Oper):Option (List (List AV)):=fE (fun o=>match o.op with
 |.alloc e=>fl P e
 |_=>none) (l.filter fun o=>Sh o.op)
def adv (l:List Oper) (i:Nat):Option Nat:=some (wW (l.drop i))
def QA (p:Nat):List Oper→Option Nat
 |[]=>none
 |o::r=>match o.dst with
  |some t=>if Sh o.op&&t==p then some (wW (o::r))else QA p r
  |none=>QA p r
def Yi (l:List Oper) (i:Nat):Option Nat:=
 match l[i]? with
 |some o=>match o.op with
  |.store _ (.tmp p) _=>QA p l
  |_=>none
 |none=>none
def ajU (l:List Oper) (i:Nat):Bool:=match l[i]? with
 | some o => (match o.op with
  |.call c=>(match c.args.toList with
   |.tmp u::_=>l.any fun q=>(match q.op with|.buildSlice .. =>true|_=>false)&&q.dst==some u
   |_=>false)
  |_=>false)
 |none=>false
def Mu.adq (mu:Mu) (l:List Oper) (i:Nat):Mu:=if mu.only.isEmpty then mu else{mu with grow:=mu.grow&&(match(l[i]?).bind (·.dst)with|some t=>mu.only.contains t|none=>false)}
def Mu.at (mu:Mu) (l:List Oper) (i:Nat):Mu:={mu.adq l i with fresh:=ajU l i}
def KV (P:Program) (mu:Mu) (pre:List Nat) (l:List Oper):Option (Nat×List bt):=
 match oE P l (fun i=>⟨MQ pre l i,Lx l i,none,none,none,{mu.at l i with low:=true},none⟩) 0 l with
 |some as=>if tQ pre as then some (1,as)else none
 |none=>none
def KX (P : Program) (mu : Mu) (l : List Oper) (drawn : Bool) : Option (Nat × List bt) :=
 if drawn then
  match z8 [] l with
  |none=>none
  | some pre => match oE P l (fun i => ⟨MQ pre l i, Lx l i, none, none, none, mu.at l i, none⟩) 0 l with
   | some as => if tQ pre as then some (0, as) else
    match oE P l (fun i=>⟨MQ pre l i,Lx l i,adv l i,some (wW l),Yi l i,mu.at l i,none⟩) 0 l with
    | some AL => if tQ pre AL then some (wW l, AL) else
     if 0<wW l then
      match oE P l (fun i=>⟨MQ pre l i,Lx l i,adv l i,some (wW l),Yi l i,mu.at l i,afk P l⟩) 0 l with
      |some Om=>if tQ pre Om then some (wW l,Om)else KV P mu pre l
      |none=>none
     else KV P mu pre l
    |none=>none
   |none=>none
 else(oE P l (fun i=>⟨false,false,none,none,none,mu.adq l i,none⟩) 0 l).map (0,·)
def Ty (d:Bool):Nat×List bt→au
 |(0,as)=>.region d as
 |(n+1,as)=>.seq (.region false [⟨none,none,.l5 (n+1)⟩]) (.region d as)
def comp (P:Program) (mu:Mu):Code→Option au
 |.skip=>some .skip
 |.region _ l drawn=>(KX P mu l.toList drawn).map (Ty drawn)
 |.seq a b=>match comp P mu a,comp P mu b with
  |some x,some y=>some (.seq x y)
  |_,_=>none
 |.cond c a b=>match dT c,comp P mu a,comp P mu b with
  |some z,some x,some y=>some (.cond z x y)
  |_,_,_=>none
 |.block id a=>(comp P mu a).map (.block id ·)
 |.loop a=>(comp P mu a).map .loop
 |.rangeFunc f ps a b=>match dT f,comp P mu a,comp P mu b with
  |some z,some x,some y=>some (.rangeFunc z ps.toList x y)
  |_,_,_=>none
 |.exit id=>some (.exit id)
 |.ret=>some .ret
 |_=>none
def acM (P:Program) (t:Nat) (g:Option Bool) (n:Option Nat):Option iy:=
 let _:=P
 match g,n with
 |some g,some n=>some (.cell g n t)
 |_,_=>none
def xn (P:Program):ResultVar→Option iy
 |.tmp t=>some (.tmp t)
 |.cell a t=>acM P a (vR P t) (de P t)
def j8 (n:Nat):au→Bool
 |.region _ l=>l.all fun o=>match o.dst with|some t=>decide (t<n)|none=>true
 |.seq a b|.cond _ a b=>j8 n a&&j8 n b
 |.block _ a|.loop a=>j8 n a
 |.rangeFunc _ ps a b=>ps.all (fun t=>decide (t<n))&&j8 n a&&j8 n b
 |_=>true
def aP (P:Program) (own:Bool) (mu:Mu) (fn:Func):Option aE:=
 if fn.name== "runtime.NumGoroutine" then none else
 match fn.body with
 |none=>none
 |some c=>match comp P mu c,fE (xn P) fn.results.toList with
  |some b,some rs=>if fn.params.size+fn.nfree≤fn.ntmps∧j8 fn.ntmps b=true then some (.code (fn.params.size+fn.nfree) fn.ntmps b rs own)else none
  |_,_=>none
end Go.Ax
/-
  What the abstract executor's states say of a world: the relation, and how it is kept.
-/
namespace Go.Ax
open Go.RowKit
abbrev fG:=Nat→Nat→Option Value
def plain:Value→Bool
 |.bool _|.int _ _|.string _|.pointer none|.nilFunc|.nilIface=>true
 |_=>false
inductive bN (I:fG):AV→Value→Prop
 |v {x:Value} (h:plain x=true):bN I (.v x) x
 |aA {es:Nat}:bN I (.slice .aA es []) (.slice none 0 0)
 | slice {o : Own} {es : Nat} {xs : List (List AV)} {blk off cap : Nat} (f : Nat → Nat → Value)
   (ho:o=.any∨(o=.full∧cap=xs.length)) (hc:xs.length≤cap) (eV:∀r,r∈xs→r.length=es)
   (bw:∀r,r∈xs→∀c,c∈r→c.bK=true)
   (hI:∀i (hi:i<xs.length) j (_:j<xs[i].length),I blk (off+i*es+j)=some (f i j))
   (hR:∀i (hi:i<xs.length) j (hj:j<xs[i].length),bN I (xs[i][j]) (f i j)):
   bN I (.slice o es xs) (.slice (some ⟨blk,off,none⟩) xs.length cap)
 |empty {o:Own} {es:Nat} {a:Addr} (ho:o=.any∨o=.full):bN I (.slice o es []) (.slice (some a) 0 0)
 | bd {cs : List AV} {off blk o0 : Nat} (f : Nat → Value) (bw : ∀ c, c ∈ cs → c.bK = true)
   (hI:∀i,i<cs.length→I blk (o0+i)=some (f i))
   (hR:∀i (hi:i<cs.length),bN I cs[i] (f i)):bN I (.bd cs off) (.pointer (some ⟨blk,o0+off,none⟩))
 |iface {t:TypeId} {x:AV} {y:Value} (h:bN I x y):bN I (.iface t x) (.iface t y)
 |qF {t:TypeId} {y:Value}:bN I .qF (.iface t y)
 | agg {cs : List AV} {arr : Array Value} (hl : arr.size = cs.length) (bw : ∀ c, c ∈ cs → c.bK = true)
   (hR:∀i (hi:i<cs.length),bN I cs[i] (arr.getD i Go.undef)):bN I (.agg cs) (.agg arr)
 | fn {f : FuncId} {first caps : List AV} {a1 a2 : Array Value} (l1 : a1.size = first.length) (l2 : a2.size = caps.length)
   (r1:∀i (hi:i<first.length),bN I first[i] (a1.getD i Go.undef))
   (r2:∀i (hi:i<caps.length),bN I caps[i] (a2.getD i Go.undef)):bN I (.fn f first caps) (.func (.func f) a1 a2)
structure lA where
 n:Option Nat
 blk:Nat
 cap:Nat
 es:Nat
structure dF where
 bl:List (Option Nat)
 tk:List lA
 nl:Nat
 marks:List Nat
 gs:Nat→Option Nat
inductive rY where
 |box (d b:Nat)
 |tok (d g:Nat)
 |loop (l:Nat)
 |mark (d i:Nat)
structure aH where
 I:fG
 ag:List dF
 loops:List Nat
 own:Nat→Option rY
inductive Rel (G:aH) (k nl:Nat):AV→Value→Prop
 |cl {x:AV} {y:Value} (h:bN G.I x y):Rel G k nl x y
 |undef:Rel G k nl AV.undef Go.undef
 | tok {d g es : Nat} {xs : List (List AV)} {a : Addr} {cap : Nat} (T : lA) (gr : dF) (hd : d ≤ k) (hg : G.ag[d]? = some gr) (ht : gr.tk[g]? = some T)
   (eV:T.es=es) (hc:bN G.I (.slice .any es xs) (.slice (some a) xs.length cap))
   (hn:∀n,T.n=some n→xs.length≤n∧(xs.length=n→a=⟨T.blk,0,none⟩∧cap=T.cap)):
   Rel G k nl (.slice (.tok d g) es xs) (.slice (some a) xs.length cap)
 | ptr {d b off blk : Nat} (gr : dF) (hd : d ≤ k) (hg : G.ag[d]? = some gr) (hb : gr.bl[b]? = some (some blk)) :
   Rel G k nl (.ptr d b off) (.pointer (some ⟨blk,off,none⟩))
 | aN {d b off es n cap rc blk o0 : Nat} (gr : dF) (hd : d ≤ k) (hg : G.ag[d]? = some gr) (hb : gr.bl[b]? = some (some blk)) (hn : n ≤ rc) (hc : cap ≤ rc) (hw : cap = 0 → 0 < n → gr.gs b = some (rc * es)) (ho : 0 < n ∨ 0 < cap → o0 = off) :
   Rel G k nl (.aN d b off es n cap) (.slice (some ⟨blk,o0,none⟩) n rc)
 | yield {l r : Nat} (hl : l < nl) (h : G.loops[l]? = some r) : Rel G k nl (.yield l) (.func (.yield r) #[] #[])
 | agg {cs : List AV} {arr : Array Value} (hl : arr.size = cs.length) (bw : ∀ c, c ∈ cs → c.bK = true)
   (hR:∀i (hi:i<cs.length),Rel G k nl cs[i] (arr.getD i Go.undef)):Rel G k nl (.agg cs) (.agg arr)
 | tuple {vs : List AV} {arr : Array Value} (hl : arr.size = vs.length)
   (hR:∀i (hi:i<vs.length),Rel G k nl vs[i] (arr.getD i Go.undef)):Rel G k nl (.tuple vs) (.tuple arr)
 | fn {f : FuncId} {first caps : List AV} {a1 a2 : Array Value} (l1 : a1.size = first.length) (l2 : a2.size = caps.length)
   (r1:∀i (hi:i<first.length),bN G.I first[i] (a1.getD i Go.undef))
   (r2:∀i (hi:i<caps.length),Rel G k nl caps[i] (a2.getD i Go.undef)):Rel G k nl (.fn f first caps) (.func (.func f) a1 a2)
def wS (T T':lA):Prop:=T'.es=T.es∧(T'=T∨T'.n=none∨∃n n',T.n=some n∧T'.n=some n'∧n<n')
theorem wS.refl (T:lA):wS T T:=⟨rfl,.inl rfl⟩
theorem wS.trans {T T' Jg:lA} (h:wS T T') (h':wS T' Jg):wS T Jg:=by
 obtain⟨e,h⟩:=h
 obtain⟨e',h'⟩:=h'
 refine⟨e'.trans e,?_⟩
 rcases h' with rfl|h'|⟨n,n',h1,h2,h3⟩
 ·exact h
 ·exact .inr (.inl h')
 ·rcases h with rfl|h|⟨m,m',h4,h5,h6⟩
  ·exact .inr (.inr ⟨n,n',h1,h2,h3⟩)
  ·rw[h]at h1;cases h1
  ·rw[h5]at h1
   injection h1 with h1
   exact .inr (.inr ⟨m,n',h4,h2,by omega⟩)
structure jz (gr bP:dF):Prop where
 bl:∀(b blk:Nat),gr.bl[b]? =some (some blk)→bP.bl[b]? =some (some blk)
 tk:∀(g:Nat) (T:lA),gr.tk[g]? =some T→∃T',bP.tk[g]? =some T'∧wS T T'
 nl:bP.nl=gr.nl
 gs:∀b n,gr.gs b=some n→bP.gs b=some n
theorem jz.refl (gr:dF):jz gr gr:=⟨fun _ _ h=>h,fun _ T h=>⟨T,h,.refl T⟩,rfl,fun _ _ h=>h⟩
theorem jz.trans {a b c:dF} (h:jz a b) (k:jz b c):jz a c:=
 ⟨fun i x e=>k.bl i x (h.bl i x e),fun g T e=>let⟨T',e',l'⟩:=h.tk g T e;let⟨Jg,Qo,SC⟩:=k.tk g T' e';⟨Jg,Qo,l'.trans SC⟩,k.nl.trans h.nl,fun b n e=>k.gs b n (h.gs b n e)⟩
structure bL (k nl:Nat) (G G':aH):Prop where
 I:∀b i v,G.I b i=some v→G'.I b i=some v
 ag:∀(d:Nat) (gr:dF),d≤k→G.ag[d]? =some gr→∃bP,G'.ag[d]? =some bP∧jz gr bP∧(d<k→bP.marks=gr.marks)
 loops:∀(l r:Nat),l<nl→G.loops[l]? =some r→G'.loops[l]? =some r
theorem bL.refl (k nl:Nat) (G:aH):bL k nl G G:=⟨fun _ _ _ h=>h,fun _ gr _ h=>⟨gr,h,.refl gr,fun _=>rfl⟩,fun _ _ _ h=>h⟩
theorem bL.trans {k nl:Nat} {a b c:aH} (h:bL k nl a b) (h':bL k nl b c):bL k nl a c:=
  ⟨fun i j v e=>h'.I i j v (h.I i j v e),fun d gr hd e=>let⟨bP,e',l',m'⟩:=h.ag d gr hd e;let⟨YP,Qo,SC,m''⟩:=h'.ag d bP hd e';⟨YP,Qo,l'.trans SC,fun aB=>(m'' aB).trans (m' aB)⟩,
   fun l r hl e=>h'.loops l r hl (h.loops l r hl e)⟩
theorem bL.less {k nl k' gH:Nat} {G G':aH} (h:bL k nl G G') (hk:k'≤k) (hl:gH≤nl):bL k' gH G G':=
 ⟨h.I,fun d gr hd e=>let⟨bP,e',l',m'⟩:=h.ag d gr (by omega) e;⟨bP,e',l',fun aB=>m' (by omega)⟩,fun l r aB e=>h.loops l r (by omega) e⟩
theorem bN.mono {I I':fG} (hI:∀b i v,I b i=some v→I' b i=some v) {x:AV} {y:Value} (h:bN I x y):bN I' x y:=by
 induction h with
 |v h=>exact .v h
 |aA=>exact .aA
 |slice f ho hc eV bw h1 _ ih=>exact .slice f ho hc eV bw (fun i hi j hj=>hI _ _ _ (h1 i hi j hj)) ih
 |empty ho=>exact .empty ho
 |bd f bw h1 _ ih=>exact .bd f bw (fun i hi=>hI _ _ _ (h1 i hi)) ih
 |iface _ ih=>exact .iface ih
 |qF=>exact .qF
 |agg hl bw _ ih=>exact .agg hl bw ih
 |fn l1 l2 _ _ ih1 eQ=>exact .fn l1 l2 ih1 eQ
theorem Rel.mono {G G':aH} {k nl k' gH:Nat} (h:bL k nl G G') (hk:k≤k') (hl:nl≤gH) {x:AV} {y:Value} (r:Rel G k nl x y):Rel G' k' gH x y:=by
 induction r with
 |cl hc=>exact .cl (hc.mono h.I)
 |undef=>exact .undef
 | tok T gr hd hg ht eV hc hn =>
  obtain⟨bP,eC,hle,_⟩:=h.ag _ _ hd hg
  obtain⟨T',RX,he,hT⟩:=hle.tk _ _ ht
  refine .tok T' bP (by omega) eC RX (he.trans eV) (hc.mono h.I) (fun n iV=>?_)
  rcases hT with rfl|hT|⟨m,m',h1,h2,h3⟩
  ·exact hn n iV
  ·rw[hT]at iV;cases iV
  ·rw[h2]at iV
   injection iV with iV
   have:=(hn m h1).1
   exact⟨by omega,fun e=>by omega⟩
 |ptr gr hd hg hb=>
  obtain⟨bP,eC,hle,_⟩:=h.ag _ _ hd hg
  exact .ptr bP (by omega) eC (hle.bl _ _ hb)
 |aN gr hd hg hb hn hc hw ho=>
  obtain⟨bP,eC,hle,_⟩:=h.ag _ _ hd hg
  exact .aN bP (by omega) eC (hle.bl _ _ hb) hn hc (fun e1 e2=>hle.gs _ _ (hw e1 e2)) ho
 |yield aB he=>exact .yield (by omega) (h.loops _ _ aB he)
 |agg nM bw _ ih=>exact .agg nM bw ih
 |tuple nM _ ih=>exact .tuple nM ih
 |fn l1 l2 r1 _ ih=>exact .fn l1 l2 (fun i hi=>(r1 i hi).mono h.I) ih
def rR (B0:Nat) (G:aH) (d nl b:Nat) (g:Option Nat) (cs:List AV) (blk:Nat) (w:World):Prop:=
 B0≤blk∧(∃x,G.own blk=some (.box d x)∧(cs≠[]→x=b))∧(cs≠[]→∀i,G.I blk i=none)∧
  ∃arr ty,w.heap[blk]? =some (.cells arr ty)∧cs.length≤arr.size∧(cs≠[]→∀n,g=some n→arr.size=n)∧∀i (hi:i<cs.length),cs[i].bK=true∧Rel G d nl cs[i] (arr.getD i Go.undef)
def AH (B0:Nat) (G:aH) (d g:Nat) (n:Option Nat) (T:lA) (w:World):Prop:=
 T.n=n∧∀m,n=some m→B0≤T.blk∧G.own T.blk=some (.tok d g)∧(∀i,m*T.es≤i→G.I T.blk i=none)∧
  m≤T.cap∧0<T.es∧∃arr ty,w.heap[T.blk]? =some (.cells arr ty)∧arr.size=T.cap*T.es
def I9 (B0:Nat) (G:aH) (d i b:Nat) (w:World):Prop:=
 B0≤b∧G.own b=some (.mark d i)∧w.heap[b]? =some (.deferred (some []))
structure wR (B0:Nat) (G:aH) (d:Nat) (r:Rec) (gr:dF) (w:World):Prop where
 gV:gr.bl.length=r.boxes.length
 jx:gr.tk.length=r.toks.length
 box:∀(b:Nat) (cs:List AV) (blk:Nat),r.boxes[b]? =some cs→gr.bl[b]? =some (some blk)→rR B0 G d gr.nl b (gr.gs b) cs blk w
 full:∀(b blk:Nat),gr.bl[b]? =some (some blk)→r.boxes[b]? =some []→none∈r.toks
 tok:∀(g:Nat) (n:Option Nat) (T:lA),r.toks[g]? =some n→gr.tk[g]? =some T→AH B0 G d g n T w
 mark:∀(i b:Nat),gr.marks[i]? =some b→I9 B0 G d i b w
 qi:∀(b n:Nat),gr.gs b=some n→∃blk,gr.bl[b]? =some (some blk)
def exitCode:c8→Option Code
 |.normal=>none
 |.exit id=>some (.exit id)
 |.ret=>some .ret
def pX (P:Program) (G:aH) (l:Nat) (lp:da) (rc:Loop):Prop:=
 (lp.ready=true→rc.state=.ready∧lp.eH=none)∧
  (lp.ready=false→rc.state=(if lp.eH.isSome then .done else .busy))∧rc.pending=lp.eH.bind exitCode∧lp.eH≠some .normal∧
  rc.params.toList=lp.params∧(∃mu,comp P mu rc.assign=some lp.assign∧comp P mu rc.body=some lp.body)∧j8 rc.tmps.size lp.assign=true∧j8 rc.tmps.size lp.body=true∧
  (∀p,p∈lp.params→p<rc.tmps.size)∧
  ∃k nl,k+1≤G.ag.length∧nl≤l∧(∀d gr,G.ag[d]? =some gr→l<gr.nl→k<d)∧∀t,Rel G k nl (lp.tmps t) (rc.tmps.getD t Go.undef)
def I8 (P:Program) (B0:Nat) (G:aH) (l:Nat) (lp:da) (r:Nat) (w:World):Prop:=
 B0≤r∧G.own r=some (.loop l)∧∃rc:Loop,w.heap[r]? =some (.loop rc)∧pX P G l lp rc
structure cQ (P:Program) (B0:Nat) (w0:World) (G:aH) (s:ae) (w:World):Prop where
 fM:∀(b i:Nat) (v:Value),G.I b i=some v→w.cell? ⟨b,i,none⟩=some v
 len:G.ag.length=s.ag.length
 jL:G.loops.length=s.loops.length
 dt:∀(d:Nat) (r:Rec) (gr:dF),s.ag[d]? =some r→G.ag[d]? =some gr→wR B0 G d r gr w
 loop:∀(l:Nat) (lp:da) (r:Nat),s.loops[l]? =some lp→G.loops[l]? =some r→I8 P B0 G l lp r w
 pN:∀(d:Nat) (gr:dF),G.ag[d]? =some gr→gr.nl≤s.loops.length
 rL:∀(d d':Nat) (gr bP:dF),d≤d'→G.ag[d]? =some gr→G.ag[d']? =some bP→gr.nl≤bP.nl
 below:Below B0 w0 w
 low:B0≤w.heap.size
 fq:∀(b:Nat) (o:rY),G.own b=some o→b<w.heap.size
section
variable{P:Program} {B0:Nat} {w0:World} {G G':aH} {w w':World}
theorem rR.dj {d nl b blk:Nat} {g:Option Nat} {cs:List AV} (h:rR B0 G d nl b g cs blk w) (hle:bL d nl G G') (ho:∀x,G.own blk=some (.box d x)→G'.own blk=some (.box d x)) (hh:w'.heap[blk]? =w.heap[blk]?)
  (hI:∀i,G.I blk i=none→G'.I blk i=none):rR B0 G' d nl b g cs blk w':=by
 obtain⟨h1,⟨x,h2,h2'⟩,h3,arr,ty,h4,h5,h7,h6⟩:=h
 exact⟨h1,⟨x,ho x h2,h2'⟩,fun hn i=>hI i (h3 hn i),arr,ty,hh.trans h4,h5,h7,fun i hi=>⟨(h6 i hi).1,(h6 i hi).2.mono hle (aI _) (aI _)⟩⟩
theorem rR.kept {X:rY→Prop} {d nl b blk:Nat} {g:Option Nat} {cs:List AV} (h:rR B0 G d nl b g cs blk w) (hle:bL d nl G G') (hk:∀b o,G.own b=some o→¬X o→G'.own b=some o∧w'.heap[b]? =w.heap[b]? ∧∀i,G.I b i=none→G'.I b i=none)
  (hX:∀x,¬X (.box d x)):rR B0 G' d nl b g cs blk w':=by
 obtain⟨x,h2,_⟩:=h.2.1
 obtain⟨k1,k2,k3⟩:=hk _ _ h2 (hX x)
 exact h.dj hle (fun y e=>by rw[h2]at e;injection e with e;rw[←e];exact k1) k2 k3
theorem AH.dj {d g:Nat} {n:Option Nat} {T:lA} (h:AH B0 G d g n T w) (ho:n.isSome→G'.own T.blk=some (.tok d g)) (hh:n.isSome→w'.heap[T.blk]? =w.heap[T.blk]?)
  (hI:n.isSome→∀i,G.I T.blk i=none→G'.I T.blk i=none):AH B0 G' d g n T w':=by
 obtain⟨h1,h2⟩:=h
 refine⟨h1,fun m hm=>?_⟩
 have hs:n.isSome=true:=by rw[hm];rfl
 obtain⟨a1,_,a3,a4,a5,arr,ty,a6,a7⟩:=h2 m hm
 exact⟨a1,ho hs,fun i hi=>hI hs i (a3 i hi),a4,a5,arr,ty,(hh hs).trans a6,a7⟩
theorem I9.dj {d i b:Nat} (h:I9 B0 G d i b w) (ho:G'.own b=some (.mark d i)) (hh:w'.heap[b]? =w.heap[b]?):I9 B0 G' d i b w':=
 ⟨h.1,ho,hh.trans h.2.2⟩
theorem pX.dj {l:Nat} {lp:da} {rc:Loop} (h:pX P G l lp rc) (hle:∀k nl,k+1≤G.ag.length→nl≤l→bL k nl G G') (hlen:G.ag.length≤G'.ag.length):pX P G' l lp rc:=by
 obtain⟨a1,a2,a3,a4,a5,a6,a8,a9,N9,k,nl,UZ,a12,Jh,Oa⟩:=h
 refine⟨a1,a2,a3,a4,a5,a6,a8,a9,N9,k,nl,by omega,a12,fun d bP hg hl=>?_,fun t=>(Oa t).mono (hle k nl UZ a12) (aI _) (aI _)⟩
 by_cases hd:d<G.ag.length
 ·obtain⟨YP,e,hr,_⟩:=(hle d 0 hd (aV _)).ag d _ (aI _) (dq hd)
  rw[hg]at e
  injection e with e
  exact Jh d _ (dq hd) (by rw[←hr.nl,←e];exact hl)
 ·omega
theorem I8.dj {l r:Nat} {lp:da} (h:I8 P B0 G l lp r w) (hle:∀k nl,k+1≤G.ag.length→nl≤l→bL k nl G G') (hlen:G.ag.length≤G'.ag.length)
  (ho:G'.own r=some (.loop l)) (hh:w'.heap[r]? =w.heap[r]?):I8 P B0 G' l lp r w':=by
 obtain⟨h1,_,rc,h3,h4⟩:=h
 exact⟨h1,ho,rc,hh.trans h3,h4.dj hle hlen⟩
def j9 (X:rY→Prop) (G:aH) (w:World) (G':aH) (w':World):Prop:=
 ∀b o,G.own b=some o→¬X o→G'.own b=some o∧w'.heap[b]? =w.heap[b]? ∧∀i,G.I b i=none→G'.I b i=none
theorem wR.dj {X:rY→Prop} {d:Nat} {r:Rec} {gr:dF} (h:wR B0 G d r gr w) (hle:bL d gr.nl G G') (hk:j9 X G w G' w')
  (hX:∀o,X o→(∀b,o≠.box d b)∧(∀g,o≠.tok d g)∧∀i,o≠.mark d i):wR B0 G' d r gr w':=by
 refine⟨h.gV,h.jx,fun b cs blk h1 h2=>?_,h.full,fun g n T h1 h2=>?_,fun i b h1=>?_,fun b n h1=>?_⟩
 ·exact(h.box b cs blk h1 h2).kept hle hk (fun x hx=>(hX _ hx).1 x rfl)
 ·have ht:=h.tok g n T h1 h2
  have hs:∀(hn:n.isSome=true),G'.own T.blk=some (.tok d g)∧w'.heap[T.blk]? =w.heap[T.blk]? ∧∀i,G.I T.blk i=none→G'.I T.blk i=none:=fun hn=>by
   obtain⟨m,hm⟩:=tB.1 hn
   exact hk _ _ (ht.2 m hm).2.1 (fun hx=>(hX _ hx).2.1 g rfl)
  exact ht.dj (fun hn=>(hs hn).1) (fun hn=>(hs hn).2.1) (fun hn=>(hs hn).2.2)
 ·have hm:=h.mark i b h1
  obtain⟨k1,k2,_⟩:=hk _ _ hm.2.1 (fun hx=>(hX _ hx).2.2 i rfl)
  exact hm.dj k1 k2
 ·exact h.qi b n h1
theorem cQ.dj {s:ae} (h:cQ P B0 w0 G s w) (hI:∀b i v,G.I b i=some v→G'.I b i=some v) (ha:G'.ag=G.ag) (hl:G'.loops=G.loops)
  (hk:j9 (fun _=>False) G w G' w') (ui:∀b i v,G'.I b i=some v→w'.cell? ⟨b,i,none⟩=some v) (hb:Below B0 w w')
  (zz:∀b o,G'.own b=some o→b<w'.heap.size):cQ P B0 w0 G' s w':=by
 have hle:∀k nl,bL k nl G G':=fun k nl=>⟨hI,fun d gr _ e=>⟨gr,by rw[ha];exact e,.refl gr,fun _=>rfl⟩,fun l r _ e=>by rw[hl];exact e⟩
 refine⟨ui,by rw[ha];exact h.len,by rw[hl];exact h.jL,fun d r gr h1 h2=>?_,fun l lp r h1 h2=>?_,fun d gr h1=>h.pN d gr (by rw[←ha];exact h1),by rw[ha];exact h.rL,h.below.trans hb,mN h.low hb.size,zz⟩
 ·rw[ha]at h2
  exact(h.dt d r gr h1 h2).dj (hle _ _) hk (fun o ho=>ho.elim)
 ·rw[hl]at h2
  have hr:=h.loop l lp r h1 h2
  obtain⟨k1,k2,_⟩:=hk _ _ hr.2.1 (fun hx=>hx)
  exact hr.dj (fun k nl _ _=>hle k nl) (by rw[ha];exact aI _) k1 k2
theorem cQ.drew {s:ae} (h:cQ P B0 w0 G s w):cQ P B0 w0 G s w.drew:=
 h.dj (fun _ _ _ e=>e) rfl rfl (fun _ _ e _=>⟨e,rfl,fun _ h=>h⟩) (fun b i v e=>h.fM b i v e) ((Below.refl _ _).drew) h.fq
theorem cQ.uL {s:ae} (h:cQ P B0 w0 G s w) {b i:Nat} {v:Value} (e:G.I b i=some v):b<w.heap.size:=
 World.block_lt_of_cell? _ _ (h.fM b i v e)
theorem cQ.wF {s:ae} (h:cQ P B0 w0 G s w) (i:Nat):G.I w.heap.size i=none:=by
 cases e:G.I w.heap.size i with
 |none=>rfl
 |some v=>have:=h.uL e;omega
def aH.wV (G:aH) (b:Nat) (arr:Array Value):aH:={G with I:=fun c i=>if c=b then arr[i]? else G.I c i}
theorem aH.DV (G:aH) (b:Nat) (arr:Array Value) (hn:∀i,G.I b i=none) (k nl:Nat):bL k nl G (G.wV b arr):=
 ⟨fun c i v e=>by
  simp only[aH.wV]
  split
  ·rename_i hc;subst hc;rw[hn]at e;cases e
  ·exact e,fun d gr _ e=>⟨gr,e,.refl gr,fun _=>rfl⟩,fun _ _ _ e=>e⟩
theorem cQ.Oe {s:ae} (h:cQ P B0 w0 G s w) (arr:Array Value) (ty:TypeId) (fz:Nat×Nat):cQ P B0 w0 (G.wV w.heap.size arr) s (w.alloc (.cells arr ty fz)):=by
 have hle:=G.DV w.heap.size arr h.wF 0 0
 refine h.dj hle.I rfl rfl (fun b o e _=>⟨e,Below.heap_alloc _ _ _ (h.fq _ _ e),fun i hi=>?_⟩) (fun b i v e=>?_) ((Below.refl _ _).alloc h.low _) (fun b o e=>?_)
 ·simp only[aH.wV]
  rw[ak (by have:=h.fq _ _ e;omega)]
  exact hi
 ·simp only[aH.wV]at e
  split at e
  ·rename_i hb
   subst hb
   have hn:(w.alloc (.cells arr ty fz)).heap[w.heap.size]? =some (.cells arr ty fz):=World.alloc_heap_new w _
   simp only[World.cell?,hn]
   exact e
  ·have:=h.fM b i v e
   rw[World.cell?_alloc_old _ _ _ (by rename_i hb;exact hb)]
   exact this
 ·have:=h.fq b o e
  simp;omega
end
end Go.Ax
/-
  Operations that only compute: what the abstract executor gives is what the model's run gives.
-/
namespace Go.Ax
open Go.RowKit
section
variable{P:Program} {B0:Nat} {w0:World} {G:aH} {k nl:Nat} {w:World}
theorem Rel.gp {x y:Value} (h:Rel G k nl (.v x) y):y=x:=by
 cases h with
 |cl h=>cases h;rfl
 |undef=>rfl
abbrev ga (I:fG) (es:Nat) (xs:List (List AV)) (a:Addr) (cap:Nat):Prop:=bN I (.slice .any es xs) (.slice (some a) xs.length cap)
theorem Rel.kH {o:Own} {es:Nat} {xs:List (List AV)} {y:Value} (h:Rel G k nl (.slice o es xs) y):
  (o=.aA∧xs=[]∧y=.slice none 0 0)∨(o≠.aA∧∃a cap,y=.slice (some a) xs.length cap∧(0<cap→a.spot=none)∧xs.length≤cap∧ga G.I es xs a cap∧(o=.full→cap=xs.length)):=by
 cases h with
 | cl h =>
  cases h with
  |aA=>exact .inl ⟨rfl,rfl,rfl⟩
  |slice f ho hc eV bw hI hR=>
   refine .inr ⟨by rcases ho with rfl|⟨rfl,_⟩<;>simp,_,_,rfl,fun _=>rfl,hc,.slice f (.inl rfl) hc eV bw hI hR,?_⟩
   rintro rfl
   rcases ho with h|⟨_,h⟩
   ·cases h
   ·exact h
  |empty ho=>
   exact .inr ⟨by rcases ho with rfl|rfl<;>simp,_,_,rfl,fun h=>absurd h (wN _),aI _,.empty (.inl rfl),fun _=>rfl⟩
 | tok T gr hd hg ht eV hc hn =>
  refine .inr ⟨by simp,_,_,rfl,?_,?_,hc,by simp⟩
  ·cases hc with
   |slice=>exact fun _=>rfl
   |empty=>exact fun h=>absurd h (wN _)
  ·cases hc with
   |slice f ho hc=>exact hc
   |empty=>exact aI _
theorem Rel.sQ {d b off:Nat} {y:Value} (h:Rel G k nl (.ptr d b off) y):
  ∃blk gr,y=.pointer (some ⟨blk,off,none⟩)∧d≤k∧G.ag[d]? =some gr∧gr.bl[b]? =some (some blk):=by
 cases h with
 |cl h=>cases h
 |ptr gr hd hg hb=>exact⟨_,gr,rfl,hd,hg,hb⟩
theorem Rel.sR {d b off es n cap:Nat} {y:Value} (h:Rel G k nl (.aN d b off es n cap) y):
  ∃blk gr rc o0,y=.slice (some ⟨blk,o0,none⟩) n rc∧d≤k∧G.ag[d]? =some gr∧gr.bl[b]? =some (some blk)∧n≤rc∧cap≤rc∧(cap=0→0<n→gr.gs b=some (rc*es))∧(0<n∨0<cap→o0=off):=by
 cases h with
 |cl h=>cases h
 |aN gr hd hg hb hn hc hw ho=>exact⟨_,gr,_,_,rfl,hd,hg,hb,hn,hc,hw,ho⟩
theorem Rel.zK {cs:List AV} {off:Nat} {y:Value} (h:Rel G k nl (.bd cs off) y):
  ∃(blk o0:Nat) (f:Nat→Value),y=.pointer (some ⟨blk,o0+off,none⟩)∧(∀c,c∈cs→c.bK=true)∧(∀i,i<cs.length→G.I blk (o0+i)=some (f i))∧∀i (hi:i<cs.length),bN G.I cs[i] (f i):=by
 cases h with
 |cl h=>cases h with|bd f bw hI hR=>exact⟨_,_,f,rfl,bw,hI,hR⟩
theorem Rel.x8 {cs:List AV} {y:Value} (h:Rel G k nl (.agg cs) y):
  ∃arr:Array Value,y=.agg arr∧arr.size=cs.length∧(∀c,c∈cs→c.bK=true)∧∀i (hi:i<cs.length),Rel G k nl cs[i] (arr.getD i Go.undef):=by
 cases h with
 |cl h=>cases h with|agg hl bw hR=>exact⟨_,rfl,hl,bw,fun i hi=>.cl (hR i hi)⟩
 |agg hl bw hR=>exact⟨_,rfl,hl,bw,hR⟩
theorem Rel.aoz {vs:List AV} {y:Value} (h:Rel G k nl (.tuple vs) y):
  ∃arr:Array Value,y=.tuple arr∧arr.size=vs.length∧∀i (hi:i<vs.length),Rel G k nl vs[i] (arr.getD i Go.undef):=by
 cases h with
 |cl h=>cases h
 |tuple hl hR=>exact⟨_,rfl,hl,hR⟩
theorem Rel.CT {f:FuncId} {first caps:List AV} {y:Value} (h:Rel G k nl (.fn f first caps) y):
  ∃a1 a2:Array Value,y=.func (.func f) a1 a2∧a1.size=first.length∧a2.size=caps.length∧(∀i (hi:i<first.length),bN G.I first[i] (a1.getD i Go.undef))∧
   ∀i (hi:i<caps.length),Rel G k nl caps[i] (a2.getD i Go.undef):=by
 cases h with
 |cl h=>cases h with|fn l1 l2 r1 r2=>exact⟨_,_,rfl,l1,l2,r1,fun i hi=>.cl (r2 i hi)⟩
 |fn l1 l2 r1 r2=>exact⟨_,_,rfl,l1,l2,r1,r2⟩
theorem Rel.Sg {l : Nat} {y : Value} (h : Rel G k nl (.yield l) y) : ∃ r, y = .func (.yield r) #[] #[] ∧ l < nl ∧ G.loops[l]? = some r := by
 cases h with
 |cl h=>cases h
 |yield hl h=>exact⟨_,rfl,hl,h⟩
theorem Rel.Sf {t:TypeId} {x:AV} {y:Value} (h:Rel G k nl (.iface t x) y):∃z,y=.iface t z∧bN G.I x z:=by
 cases h with
 |cl h=>cases h with|iface h=>exact⟨_,rfl,h⟩
theorem bN.one {I : fG} {x : AV} {y : Value} (h : bN I x y) (hc : x.bK = true) : y.cells = #[y] := by
 cases h with
 |v h=>cases y<;>first|rfl|simp[plain]at h
 |agg=>cases hc
 |_=>rfl
theorem Rel.one {x : AV} {y : Value} (h : Rel G k nl x y) (hc : x.bK = true) : y.cells = #[y] := by
 cases h with
 |cl h=>exact h.one hc
 |undef=>rfl
 |agg=>cases hc
 |_=>rfl
theorem Rel.BG {x:AV} {y:Value} (h:Rel G k nl x y) (hc:x.kI=true):bN G.I x y:=by
 cases h with
 |cl h=>exact h
 |undef=>cases hc
 |tok=>cases hc
 |ptr=>cases hc
 |aN=>cases hc
 |yield=>cases hc
 |agg=>cases hc
 |tuple=>cases hc
 |fn=>cases hc
theorem Rel.ahN {x:AV} {y:Value} (h:Rel G k nl x y) (hc:x.vS=true):bN G.I x y:=by
 cases x with
 |agg cs=>
  obtain⟨arr,rfl,hl,bw,hR⟩:=h.x8
  refine .agg hl bw (fun i hi=>(hR i hi).BG ?_)
  exact jh.1 hc _ (iz hi)
 |_=>exact h.BG hc
theorem Rel.closed {x:AV} {y:Value} (h:Rel G k nl x y) (hc:x.isClosed=true):bN G.I x y:=by
 cases x with
 |iface t x=>
  obtain⟨z,rfl,hz⟩:=h.Sf
  exact .iface hz
 |fn f first caps=>
  obtain⟨a1,a2,rfl,l1,l2,r1,r2⟩:=h.CT
  simp only[AV.isClosed,dE]at hc
  exact .fn l1 l2 r1 (fun i hi=>(r2 i hi).BG (jh.1 hc.2 _ (iz hi)))
 |_=>exact h.BG hc
theorem Rel.close {x z:AV} {y:Value} (h:Rel G k nl x y) (hc:x.close=some z):bN G.I z y:=by
 by_cases hx:∃d g es xs,x=.slice (.tok d g) es xs
 ·obtain⟨d,g,es,xs,rfl⟩:=hx
  simp only[AV.close]at hc
  injection hc with hc
  subst hc
  rcases h.kH with⟨h1,_⟩|⟨_,a,cap,rfl,_,_,h4,_⟩
  ·cases h1
  ·exact h4
 ·have:x.close=if x.isClosed then some x else none:=by
   unfold AV.close
   split
   ·exact absurd ⟨_,_,_,_,rfl⟩ hx
   ·rfl
  rw[this]at hc
  split at hc
  ·injection hc with hc
   subst hc
   exact h.closed (by assumption)
  ·cases hc
theorem Qd {x z:AV} (h:x.close=some z) (hc:x.bK=true):z.bK=true:=by
 unfold AV.close at h
 split at h
 ·injection h with h;subst h;rfl
 ·split at h
  ·injection h with h;subst h;exact hc
  ·cases h
theorem KU {cs ds:List AV} (h:closeAll cs=some ds):ds.length=cs.length∧∀i (hi:i<cs.length) (hj:i<ds.length),cs[i].close=some ds[i]:=by
 induction cs generalizing ds with
 |nil=>simp only[closeAll]at h;injection h with h;subst h;exact⟨rfl,fun i hi=>absurd hi (dH _)⟩
 | cons x r ih =>
  simp only[closeAll]at h
  split at h
  ·rename_i y s hy hs
   injection h with h
   subst h
   obtain⟨h1,h2⟩:=ih hs
   refine⟨by simp[h1],fun i hi hj=>?_⟩
   cases i with
   |zero=>exact hy
   |succ i=>exact h2 i (by simpa using hi) (by simpa using hj)
  ·cases h
theorem abI {x:Value} {c:AV} {I:fG} (h:uv x=some c):bN I c x∧c.bK=true:=by
 unfold uv at h
 split at h
 all_goals first
  |(injection h with h;subst h;exact⟨.v rfl,rfl⟩)
  |(injection h with h;subst h;exact⟨.aA,rfl⟩)
  |skip
 ·split at h
  ·rename_i hz
   injection h with h
   subst h
   refine⟨.fn (by simpa using hz.1) (by simpa using hz.2) (fun i hi=>absurd hi (dH _)) (fun i hi=>absurd hi (dH _)),rfl⟩
  ·cases h
 ·cases h
theorem ye {α β:Type} {f:α→Option β} {l:List α} {r:List β} (h:fE f l=some r):r.length=l.length∧∀i (hi:i<l.length) (hj:i<r.length),f l[i]=some r[i]:=by
 induction l generalizing r with
 |nil=>simp only[fE]at h;injection h with h;subst h;exact⟨rfl,fun i hi=>absurd hi (dH _)⟩
 | cons x s ih =>
  simp only[fE]at h
  split at h
  ·rename_i y t hy ht
   injection h with h
   subst h
   obtain⟨h1,h2⟩:=ih ht
   refine⟨by simp[h1],fun i hi hj=>?_⟩
   cases i with
   |zero=>exact hy
   |succ i=>exact h2 i (by simpa using hi) (by simpa using hj)
  ·cases h
theorem tL {I:fG} {arr:Array Value} {cs:List AV} (h:fE uv arr.toList=some cs):
  arr.size=cs.length∧(∀c,c∈cs→c.bK=true)∧∀i (hi:i<cs.length),bN I cs[i] (arr.getD i Go.undef):=by
 obtain⟨h1,h2⟩:=ye h
 have hl:arr.size=cs.length:=by simpa using h1.symm
 have hz:∀i (hi:i<cs.length),bN I cs[i] (arr.getD i Go.undef)∧cs[i].bK=true:=fun i hi=>by
  have:=h2 i (by simpa using hl ▸ hi) hi
  have hr:=abI (I:=I) this
  have he:arr.getD i Go.undef=arr.toList[i]'(by simpa using hl ▸ hi):=by simp[Array.getD,hl,hi]
  rw[he]
  exact hr
 refine⟨hl,fun c hc=>?_,fun i hi=>(hz i hi).1⟩
 obtain⟨i,hi,rfl⟩:=nr hc
 exact(hz i hi).2
theorem atL {x:Value} {c:AV} {I:fG} (h:ofValue x=some c):bN I c x:=by
 unfold ofValue at h
 split at h
 ·rename_i cs
  cases hm:fE uv cs.toList with
  |none=>rw[hm]at h;cases h
  |some l=>
   rw[hm]at h
   injection h with h
   subst h
   obtain⟨h1,h2,h3⟩:=tL (I:=I) hm
   exact .agg h1 h2 h3
 ·exact(abI h).1
def eM (G:aH) (k nl:Nat) (ρ:Nat→AV) (a:Act):Prop:=∀t,Rel G k nl (ρ t) (a.tmps.getD t Go.undef)
theorem dm {x:Operand} {ax:aJ} {ρ:Nat→AV} {a:Act} (hc:dT x=some ax) (hR:eM G k nl ρ a):Rel G k nl (aD ρ ax) (a.eval x):=by
 cases x with
 |tmp t=>simp only[dT]at hc;injection hc with hc;subst hc;exact hR t
 | const c =>
  simp only[dT]at hc
  cases hv:ofValue c with
  |none=>rw[hv]at hc;cases hc
  |some z=>
   rw[hv]at hc
   injection hc with hc
   subst hc
   exact .cl (atL hv)
 |func f=>
  simp only[dT]at hc
  injection hc with hc
  subst hc
  exact .cl (.fn rfl rfl (fun i hi=>absurd hi (dH _)) (fun i hi=>absurd hi (dH _)))
 |global g=>cases hc
end
end Go.Ax
/-
  Memory: loads, stores and new boxes.
-/
namespace Go.Ax
open Go.RowKit
section
variable{P:Program} {B0:Nat} {w0:World} {G:aH} {k nl:Nat} {w:World} {s:ae}
def jA (R:AV→Value→Prop) (cs:List AV) (arr:Array Value):Prop:=
 arr.size=cs.length∧∀i (hi:i<cs.length),R cs[i] (arr.getD i Go.undef)
theorem jA.set {R:AV→Value→Prop} {cs:List AV} {arr:Array Value} (h:jA R cs arr) {x:AV} {v:Value} (hx:R x v) (o:Nat):jA R (cs.set o x) (arr.setIfInBounds o v):=by
 refine⟨by simp[h.1],fun i hi=>?_⟩
 have br:i<cs.length:=by simpa using hi
 rw[UB]
 by_cases ho:o=i
 ·subst ho
  rw[aj rfl]
  have:(arr.setIfInBounds o v).getD o Go.undef=v:=by simp[Array.getD,h.1,br]
  rw[this]
  exact hx
 ·rw[ak ho]
  have:(arr.setIfInBounds o v).getD i Go.undef=arr.getD i Go.undef:=by
   simp[Array.getD,h.1,br,ho]
  rw[this]
  exact h.2 i br
def jw (arr:Array Value) (o:Nat):List Value→Array Value
 |[]=>arr
 |v::r=>jw (arr.setIfInBounds o v) (o+1) r
theorem It (arr:Array Value) (o:Nat) (vs:List Value):(jw arr o vs).size=arr.size:=by
 induction vs generalizing arr o with
 |nil=>rfl
 |cons v r ih=>simp[jw,ih]
theorem jA.jw {R:AV→Value→Prop} {xs:List AV} {vs:List Value} (hl:vs.length=xs.length) (hR:∀i (hi:i<xs.length) (hj:i<vs.length),R xs[i] vs[i]):
  ∀{cs:List AV} {arr:Array Value} (o:Nat),jA R cs arr→jA R (setCells cs o xs) (Ax.jw arr o vs):=by
 induction xs generalizing vs with
 |nil=>
  intro cs arr o h
  cases vs with
  |nil=>exact h
  |cons v r=>simp at hl
 | cons x xs ih =>
  intro cs arr o h
  cases vs with
  |nil=>simp at hl
  |cons v r=>
   simp only[setCells,Ax.jw]
   exact ih (by simpa using hl) (fun i hi hj=>hR (i+1) (by simpa using hi) (by simpa using hj)) (o+1) (h.set (hR 0 (by simp) (by simp)) o)
theorem jA.mono {R R':AV→Value→Prop} {cs:List AV} {arr:Array Value} (h:jA R cs arr) (hR:∀x v,R x v→R' x v):jA R' cs arr:=⟨h.1,fun i hi=>hR _ _ (h.2 i hi)⟩
def mc (R:AV→Value→Prop) (cs:List AV) (arr:Array Value):Prop:=
 cs.length≤arr.size∧∀i (hi:i<cs.length),R cs[i] (arr.getD i Go.undef)
theorem mc.set {R:AV→Value→Prop} {cs:List AV} {arr:Array Value} (h:mc R cs arr) {x:AV} {v:Value} (hx:R x v) (o:Nat):mc R (cs.set o x) (arr.setIfInBounds o v):=by
 refine⟨by simpa using h.1,fun i hi=>?_⟩
 have br:i<cs.length:=by simpa using hi
 have ha:i<arr.size:=pY br h.1
 rw[UB]
 by_cases ho:o=i
 ·subst ho
  rw[aj rfl]
  have:(arr.setIfInBounds o v).getD o Go.undef=v:=by simp[Array.getD,ha]
  rw[this]
  exact hx
 ·rw[ak ho]
  have:(arr.setIfInBounds o v).getD i Go.undef=arr.getD i Go.undef:=by
   simp[Array.getD,ha,ho]
  rw[this]
  exact h.2 i br
theorem mc.jw {R:AV→Value→Prop} {xs:List AV} {vs:List Value} (hl:vs.length=xs.length) (hR:∀i (hi:i<xs.length) (hj:i<vs.length),R xs[i] vs[i]):
  ∀{cs:List AV} {arr:Array Value} (o:Nat),mc R cs arr→mc R (setCells cs o xs) (Ax.jw arr o vs):=by
 induction xs generalizing vs with
 |nil=>
  intro cs arr o h
  cases vs with
  |nil=>exact h
  |cons v r=>simp at hl
 | cons x xs ih =>
  intro cs arr o h
  cases vs with
  |nil=>simp at hl
  |cons v r=>
   simp only[setCells,Ax.jw]
   exact ih (by simpa using hl) (fun i hi hj=>hR (i+1) (by simpa using hi) (by simpa using hj)) (o+1) (h.set (hR 0 (by simp) (by simp)) o)
theorem mc.mono {R R':AV→Value→Prop} {cs:List AV} {arr:Array Value} (h:mc R cs arr) (hR:∀x v,R x v→R' x v):mc R' cs arr:=⟨h.1,fun i hi=>hR _ _ (h.2 i hi)⟩
theorem jA.le {R:AV→Value→Prop} {cs:List AV} {arr:Array Value} (h:jA R cs arr):mc R cs arr:=⟨UM h.1.symm,h.2⟩
theorem axu (cs:List AV) (o:Nat) (xs:List AV):(setCells cs o xs).length=cs.length:=by
 induction xs generalizing cs o with
 |nil=>rfl
 |cons x r ih=>simp[setCells,ih]
theorem adb {cs:List AV} {o:Nat} {xs:List AV} {c:AV} (h:c∈setCells cs o xs):c∈cs∨c∈xs:=by
 induction xs generalizing cs o with
 |nil=>exact .inl h
 | cons x r ih =>
  rcases ih h with h|h
  ·rcases UF h with h|rfl
   ·exact .inl h
   ·exact .inr (by simp)
  ·exact .inr (by simp[h])
theorem LW {b:Nat} {ty:TypeId}:∀(vs:List Value) (o:Nat) (arr:Array Value) (w:World),w.heap[b]? =some (.cells arr ty)→(w.setCells b o vs).heap[b]? =some (.cells (jw arr o vs) ty)
 |[],_,_,_,h=>h
 |v::r,o,arr,w,h=>by
  simp only[World.setCells,jw]
  refine LW r (o+1) _ _ ?_
  simp[World.setCell,Array.getElem?_modify,h]
theorem LX {b c:Nat} (hc:c≠b):∀(vs:List Value) (o:Nat) (w:World),(w.setCells b o vs).heap[c]? =w.heap[c]?
 |[],_,_=>rfl
 |v::r,o,w=>by
  simp only[World.setCells]
  rw[LX hc r (o+1)]
  exact Below.heap_setCell _ _ _ _ hc
theorem Nb (b:Nat):∀(vs:List Value) (o:Nat) (w:World),(w.setCells b o vs).heap.size=w.heap.size
 |[],_,_=>rfl
 |v::r,o,w=>by
  simp only[World.setCells]
  rw[Nb b r (o+1)]
  simp[World.setCell]
theorem KH {B b:Nat} (hb:B≤b):∀(vs:List Value) (o:Nat) (w:World),Below B w (w.setCells b o vs)
 |[],_,w=>Below.refl _ _
 |v::r,o,w=>by
  simp only[World.setCells]
  exact((Below.refl B w).setCell (p:=⟨b,o,none⟩) hb v).trans (KH hb r (o+1) _)
theorem cell_of_heap {b i:Nat} {arr:Array Value} {ty:TypeId} {fz:Nat×Nat} (h:w.heap[b]? =some (.cells arr ty fz)):w.cell? ⟨b,i,none⟩=arr[i]? :=by
 simp[World.cell?,h]
theorem frozen_of_heap {b i:Nat} {arr:Array Value} {ty:TypeId} (h:w.heap[b]? =some (.cells arr ty)):w.frozen? ⟨b,i,none⟩=false:=by
 simp[World.frozen?,h]
theorem Gx {b c i:Nat} {w':World} (h:w'.heap[b]? =w.heap[b]?) (hc:c=b):w'.cell? ⟨c,i,none⟩=w.cell? ⟨c,i,none⟩:=by
 subst hc
 simp[World.cell?,h]
structure At (P:Program) (B0:Nat) (w0:World) (G:aH) (k nl:Nat) (s:ae) (w:World):Prop where
 rel:cQ P B0 w0 G s w
 len:s.ag.length=k+1
 cur:∃gr,G.ag[k]? =some gr∧gr.nl=nl
theorem At.iQ (h:At P B0 w0 G k nl s w):s.cur=k:=by simp[ae.cur,h.len]
theorem At.sW (h:At P B0 w0 G k nl s w):nl≤s.loops.length:=by
 obtain⟨gr,h1,rfl⟩:=h.cur
 exact h.rel.pN _ _ h1
theorem At.box (h:At P B0 w0 G k nl s w) {d b:Nat} {cs:List AV} {gr:dF} {blk:Nat} (hd:d≤k) (hc:s.box d b=some cs) (hg:G.ag[d]? =some gr) (hb:gr.bl[b]? =some (some blk)):
  ∃r,s.ag[d]? =some r∧r.boxes[b]? =some cs∧rR B0 G d gr.nl b (gr.gs b) cs blk w∧
   ∃arr ty,w.heap[blk]? =some (.cells arr ty)∧mc (Rel G k nl) cs arr∧∀c,c∈cs→c.bK=true:=by
 simp only[ae.box]at hc
 cases hr:s.ag[d]? with
 |none=>rw[hr]at hc;cases hc
 |some r=>
  rw[hr]at hc
  have dC:=(h.rel.dt d r gr hr hg).box b cs blk hc hb
  refine⟨r,rfl,hc,dC,?_⟩
  obtain⟨_,_,_,arr,ty,h4,h5,_,h6⟩:=dC
  obtain⟨gk,Rr,rfl⟩:=h.cur
  refine⟨arr,ty,h4,⟨h5,fun i hi=>(h6 i hi).2.mono (bL.refl _ _ _) hd (h.rel.rL d k gr gk hd hg Rr)⟩,fun c mm=>?_⟩
  obtain⟨i,hi,rfl⟩:=nr mm
  exact(h6 i hi).1
theorem addr_add (b o i:Nat):(⟨b,o,none⟩:Addr).add i=⟨b,o+i,none⟩:=by
 unfold Addr.add
 split
 ·rename_i h;subst h;rfl
 ·rfl
theorem At.row (h:At P B0 w0 G k nl s w) {x:AV} {y:Value} {cs:List AV} {off:Nat} (hx:Rel G k nl x y) (hr:s.row x=some (cs,off)):
  ∃(blk o0:Nat) (f:Nat→Value),y=.pointer (some ⟨blk,o0+off,none⟩)∧(∀c,c∈cs→c.bK=true)∧
   (∀i,i<cs.length→w.cell? ⟨blk,o0+i,none⟩=some (f i))∧∀i (hi:i<cs.length),Rel G k nl cs[i] (f i):=by
 cases x with
 | ptr d b abK =>
  simp only[ae.row]at hr
  cases hc:s.box d b with
  |none=>rw[hc]at hr;cases hr
  |some cs'=>
   rw[hc]at hr
   simp only[dJ,fI,AF]at hr
   obtain⟨rfl,rfl⟩:=hr
   obtain⟨blk,gr,rfl,hd,hg,hb⟩:=hx.sQ
   obtain⟨r,_,_,_,arr,ty,h4,h5,h6⟩:=h.box hd hc hg hb
   refine⟨blk,0,fun i=>arr.getD i Go.undef,by simp,h6,fun i hi=>?_,fun i hi=>h5.2 i hi⟩
   rw[cell_of_heap h4]
   have:=pY hi h5.1
   simp[this,Array.getD]
 |bd cs' abK=>
  simp only[ae.row]at hr
  simp only[fI,AF]at hr
  obtain⟨rfl,rfl⟩:=hr
  obtain⟨blk,o0,f,rfl,h1,h2,h3⟩:=hx.zK
  exact⟨blk,o0,f,rfl,h1,fun i hi=>h.rel.fM _ _ _ (h2 i hi),fun i hi=>.cl (h3 i hi)⟩
 |_=>cases hr
theorem Tf {cs:List AV} {off n:Nat} {agg:Bool} {v:AV} {f:Nat→Value} (hp:part agg n cs off=some v) (bw:∀c,c∈cs→c.bK=true)
  (hR:∀i (hi:i<cs.length),Rel G k nl cs[i] (f i)):
  (agg=true∧off+n≤cs.length∧Rel G k nl v (.agg ((List.range n).map fun j=>f (off+j)).toArray))∨(agg=false∧off<cs.length∧Rel G k nl v (f off)):=by
 unfold part at hp
 split at hp
 ·split at hp
  ·rename_i Cf hle
   injection hp with hp
   subst hp
   refine .inl ⟨Cf,hle,.agg (by simp;omega) (fun c hc=>bw c (NS (oB hc))) (fun i hi=>?_)⟩
   have br:i<n:=by simp at hi;omega
   have:((List.range n).map fun j=>f (off+j)).toArray.getD i Go.undef=f (off+i):=by simp[Array.getD,br]
   rw[this]
   have he:((cs.drop off).take n)[i]=cs[off+i]'(by omega):=by simp
   rw[he]
   exact hR _ _
  ·cases hp
 ·rename_i Cf
  obtain⟨h1,h2⟩:=bI.1 hp
  exact .inr ⟨by simpa using Cf,h1,h2 ▸ hR off h1⟩
theorem zL {t:TypeId} {g:Bool} (h:vR P t=some g) (w:World):(isAgg t).run P w=.ok g w:=by
 unfold vR at h
 cases hu:P.underlying t with
 |none=>rw[hu]at h;cases h
 |some d=>
  rw[hu]at h
  simp only[dJ,fI]at h
  subst h
  unfold isAgg
  simp only[Sem.run_bind,run_underlying hu,Result.andThen_ok]
  cases d<;>simp[pure]
theorem jR {t:TypeId} {n:Nat} (h:de P t=some n) (w:World):(sizeOf t).run P w=.ok n w:=by
 unfold de at h
 cases hi:P.info? t with
 |none=>rw[hi]at h;cases h
 |some i=>
  rw[hi]at h
  simp only[dJ,fI]at h
  subst h
  simp[sizeOf,typeInfo,hi]
theorem ML (h:At P B0 w0 G k nl s w) {x v:AV} {y:Value} {agg:Bool} {n:Nat} {t:TypeId} (hx:Rel G k nl x y) (hl:s.load agg n x=some v) (ha:vR P t=some agg) (hn:de P t=some n):
  ∃v',(Instr.loadAt t y).run P w=.ok v' w∧Rel G k nl v v':=by
 unfold ae.load at hl
 cases hr:s.row x with
 |none=>rw[hr]at hl;cases hl
 | some p =>
  obtain⟨cs,off⟩:=p
  rw[hr]at hl
  simp only[dI]at hl
  obtain⟨blk,o0,f,rfl,bw,hc,hR⟩:=h.row hx hr
  have Y4:∀j,off+j<cs.length→w.cell? ((⟨blk,o0+off,none⟩:Addr).add j)=some (f (off+j)):=fun j hj=>by
   rw[addr_add,wM];exact hc _ hj
  rcases Tf hl bw hR with⟨rfl,hle,hv⟩|⟨rfl,aB,hv⟩
  ·refine⟨_,?_,hv⟩
   have L4:=run_loadCells (P:=P) w (⟨blk,o0+off,none⟩:Addr) n (fun j=>f (off+j)) (fun j hj=>Y4 j (by omega))
   simp only[Instr.loadAt,Instr.sureAddr,loadVar,Sem.run_bind,Sem.run_pure,Result.andThen_ok,zL ha,jR hn,cI,L4]
  ·refine⟨_,?_,hv⟩
   have:=Y4 0 (by omega)
   rw[addr_add]at this
   simp only[AA]at this
   simp only[Instr.loadAt,Instr.sureAddr,loadVar,Sem.run_bind,Sem.run_pure,Result.andThen_ok,zL ha,ew,eu]
   simp[run_load,this]
theorem eE {α:Type} (l:List α) (i j:Nat) (f:α→α):(l.modify i f)[j]? =if i=j then(l[j]?).map f else l[j]? :=by
 rw[wG]
 split<;>simp_all
theorem cQ.dQ (h:cQ P B0 w0 G s w) {d b:Nat} {cs cs':List AV} {r:Rec} {gr:dF} {blk:Nat} {arr:Array Value} {ty:TypeId} {w':World}
  (hr:s.ag[d]? =some r) (hg:G.ag[d]? =some gr) (hb:r.boxes[b]? =some cs) (db:gr.bl[b]? =some (some blk))
  (xU:cs≠[]) (aF:cs'≠[]) (bw:∀c,c∈cs'→c.bK=true) (hR:mc (Rel G d gr.nl) cs' arr) (Rs:∀n,gr.gs b=some n→arr.size=n) (hw:w'.heap[blk]? =some (.cells arr ty)) (HD:∀c,c≠blk→w'.heap[c]? =w.heap[c]?)
  (Hf:Below B0 w w') (cj:w'.heap.size=w.heap.size):cQ P B0 w0 G (s.dQ d b cs') w':=by
 have dC:=(h.dt d r gr hr hg).box b cs blk hb db
 have hk:j9 (· =.box d b) G w G w':=fun c o ho aF=>by
  refine⟨ho,HD c (fun e=>?_),fun _ e=>e⟩
  subst e
  obtain⟨x,sN,nV⟩:=dC.2.1
  rw[sN,nV xU]at ho
  injection ho with ho
  exact aF ho.symm
 refine⟨fun c i v e=>?_,by simp only[ae.dQ,ae.bG,NN];exact h.len,h.jL,fun d' r' bP h1 h2=>?_,fun l lp r' h1 h2=>?_,h.pN,h.rL,h.below.trans Hf,by rw[cj];exact h.low,fun c o ho=>by rw[cj];exact h.fq c o ho⟩
 ·have aF:c≠blk:=by
   rintro rfl
   rw[dC.2.2.1 xU]at e
   cases e
  rw[Gx (HD c aF) rfl]
  exact h.fM c i v e
 ·simp only [ae.dQ, ae.bG, eE] at h1
  by_cases hd:d=d'
  ·subst hd
   rw[aj rfl,hr]at h1
   simp only[dJ,fI]at h1
   rw[hg]at h2
   injection h2 with h2
   subst h1 h2
   have aT:=h.dt d r gr hr hg
   refine⟨by simpa using aT.gV,aT.jx,fun b' XD iO e1 e2=>?_,fun b' iO e1 e2=>?_,fun g n T e1 e2=>?_,fun i b' e1=>?_,aT.qi⟩
   ·simp only[qP]at e1
    by_cases xN:b=b'
    ·subst xN
     rw[db]at e2
     injection e2 with e2
     injection e2 with e2
     subst e2
     rw[aj rfl]at e1
     split at e1
     ·injection e1 with e1
      subst e1
      obtain⟨x,sN,nV⟩:=dC.2.1
      refine⟨dC.1,⟨x,sN,fun _=>nV xU⟩,fun _=>dC.2.2.1 xU,arr,ty,hw,hR.1,fun _=>Rs,fun i hi=>⟨bw _ (iz hi),hR.2 i hi⟩⟩
     ·cases e1
    ·rw[ak xN]at e1
     have kq:=aT.box b' XD iO e1 e2
     obtain⟨x,sN,nV⟩:=kq.2.1
     by_cases vP:x=b
     · -- a dead box, whose block is this one's
      subst vP
      have HA:XD=[]:=by
       apply tj
       intro hn
       exact xN (nV hn)
      subst HA
      have Hu:iO=blk∨iO≠blk:=by omega
      obtain⟨q1,q2,q3,Jp,Nk,q4,q5,q6,q7⟩:=kq
      rcases Hu with rfl|Hu
      ·exact⟨q1,q2,q3,arr,ty,hw,aV _,fun hn=>absurd rfl hn,fun i hi=>absurd hi (dH _)⟩
      ·exact⟨q1,q2,q3,Jp,Nk,(HD _ Hu).trans q4,q5,q6,q7⟩
     ·obtain⟨k1,k2,k3⟩:=hk _ _ sN (fun e=>by injection e with _ e;exact vP e)
      exact kq.dj (bL.refl _ _ _) (fun y e=>e) k2 k3
   ·simp only[qP]at e2
    by_cases xN:b=b'
    ·subst xN
     rw[aj rfl]at e2
     split at e2
     ·injection e2 with e2
      exact absurd e2 aF
     ·cases e2
    ·rw[ak xN]at e2
     exact aT.full b' iO e1 e2
   ·have ht:=aT.tok g n T e1 e2
    have hs:∀(hn:n.isSome=true),G.own T.blk=some (.tok d g)∧w'.heap[T.blk]? =w.heap[T.blk]? ∧∀i,G.I T.blk i=none→G.I T.blk i=none:=fun hn=>by
     obtain⟨m,hm⟩:=tB.1 hn
     exact hk _ _ (ht.2 m hm).2.1 (fun e=>by cases e)
    exact ht.dj (fun hn=>(hs hn).1) (fun hn=>(hs hn).2.1) (fun hn=>(hs hn).2.2)
   ·have hm:=aT.mark i b' e1
    obtain⟨k1,k2,_⟩:=hk _ _ hm.2.1 (fun e=>by cases e)
    exact hm.dj k1 k2
  ·rw[ak hd]at h1
   exact(h.dt d' r' bP h1 h2).dj (bL.refl _ _ _) hk (fun o ho=>by
    subst ho
    refine⟨fun b' e=>?_,fun g e=>?_,fun i e=>?_⟩
    ·injection e with e
     exact hd e
    ·cases e
    ·cases e)
 ·have nQ:=h.loop l lp r' h1 h2
  obtain⟨k1,k2,_⟩:=hk _ _ nQ.2.1 (fun e=>by cases e)
  exact nQ.dj (fun _ _ _ _=>bL.refl _ _ _) (aI _) k1 k2
theorem Rel.cells {y:AV} {v:Value} (h:Rel G k nl y v) (hc:y.cells.all AV.bK=true):jA (Rel G k nl) y.cells v.cells:=by
 by_cases hy:∃cs,y=.agg cs
 ·obtain⟨cs,rfl⟩:=hy
  obtain⟨arr,rfl,h1,_,h3⟩:=h.x8
  exact⟨h1,h3⟩
 ·have he:y.cells=[y]:=by
   unfold AV.cells
   split
   ·exact absurd ⟨_,rfl⟩ hy
   ·rfl
  rw[he]at hc⊢
  have xW:y.bK=true:=by simpa using hc
  rw[h.one xW]
  refine⟨rfl,fun i hi=>?_⟩
  have:i=0:=by simp at hi;omega
  subst this
  exact h
theorem S5 {x:AV} {v:Value} (h:Rel G k nl x v) (hc:x.bK=true):v.oneCell'=true:=by
 have:=h.one hc
 cases v with
 | agg cs =>
  exfalso
  cases h with
  |cl h=>cases h with
   |v h=>simp[plain]at h
   |agg=>cases hc
  |agg=>cases hc
 | tuple vs =>
  exfalso
  cases h with
  |cl h=>cases h with
   |v h=>simp[plain]at h
  |undef=>cases hc
  |tuple=>cases hc
 |_=>rfl
theorem ax7 {b:Nat} {arr:Array Value} {ty:TypeId} {off n:Nat} {t:TypeId} {v:Value} (hw:w.heap[b]? =some (.cells arr ty)) (hn:de P t=some n) (hs:v.cells.size=n) (hle:off+n≤arr.size)
  (h1:∀u,u∈v.cells.toList→u.oneCell'=true):(Instr.storeAt t (.pointer (some ⟨b,off,none⟩)) v).run P w=.ok () (w.setCells b off v.cells.toList):=by
 have bu:=run_storeCells_cells (P:=P) b off v.cells.toList 0 w (fun j hj=>by
   have dx:j<n:=by simpa[hs]using hj
   rw[cell_of_heap hw]
   simp;omega) (fun j _=>frozen_of_heap hw) h1
 simp only[Instr.storeAt,Instr.sureAddr,storeVar,Sem.run_bind,Sem.run_pure,Result.andThen_ok,jR hn]
 rw[ak (by simp[hs])]
 simpa using bu
end
end Go.Ax
/-
  Memory: an activation's record is changed; new boxes; rights to append are made, moved and dropped.
-/
namespace Go.Ax
open Go.RowKit
section
variable{P:Program} {B0:Nat} {w0:World} {G G':aH} {k nl:Nat} {w w':World} {s:ae}
theorem cQ.bG (h:cQ P B0 w0 G s w) {d0:Nat} {r0:Rec} {iA:dF} (hr:s.ag[d0]? =some r0) (hg:G.ag[d0]? =some iA) (f:Rec→Rec) (gf:dF→dF) (X:rY→Prop)
  (hG:G'.ag=G.ag.modify d0 gf) (hL:G'.loops=G.loops) (hI:∀b i v,G.I b i=some v→G'.I b i=some v) (gE:jz iA (gf iA)) (hm0:(gf iA).marks=iA.marks)
  (hk:j9 X G w G' w') (hX:∀o,X o→(∃b,o=.box d0 b)∨∃g,o=.tok d0 g) (anF:wR B0 G' d0 (f r0) (gf iA) w')
  (ui:∀b i v,G'.I b i=some v→w'.cell? ⟨b,i,none⟩=some v) (hb:Below B0 w w') (zz:∀b o,G'.own b=some o→b<w'.heap.size):
  cQ P B0 w0 G' (s.bG d0 f) w'∧∀k nl,bL k nl G G':=by
 have hle:∀k nl,bL k nl G G':=fun k nl=>⟨hI,fun d gr _ e=>by
  rw[hG,eE]
  by_cases hd:d0=d
  ·subst hd
   rw[hg]at e
   injection e with e
   subst e
   exact⟨_,by rw[aj rfl,hg];rfl,gE,fun _=>hm0⟩
  ·exact⟨gr,by rw[ak hd];exact e,.refl gr,fun _=>rfl⟩,fun l r _ e=>by rw[hL];exact e⟩
 have Rb:∀(d:Nat) (bP:dF),G'.ag[d]? =some bP→∃gr:dF,G.ag[d]? =some gr∧bP.nl=gr.nl:=fun d bP e=>by
  rw[hG,eE]at e
  by_cases hd:d0=d
  ·subst hd
   rw[aj rfl,hg]at e
   simp only[dJ,fI]at e
   subst e
   exact⟨iA,hg,gE.nl⟩
  ·rw[ak hd]at e
   exact⟨bP,e,rfl⟩
 refine⟨⟨ui,by simp only[hG,ae.bG,NN];exact h.len,by rw[hL];exact h.jL,fun d r gr h1 h2=>?_,fun l lp r h1 h2=>?_,fun d gr e=>?_,fun d d' gr bP hd e e'=>?_,h.below.trans hb,mN h.low hb.size,zz⟩,hle⟩
 ·simp only[ae.bG,eE]at h1
  rw[hG,eE]at h2
  by_cases hd:d0=d
  ·subst hd
   rw[aj rfl,hr]at h1
   rw[aj rfl,hg]at h2
   simp only[dJ,fI]at h1 h2
   subst h1 h2
   exact anF
  ·rw[ak hd]at h1 h2
   refine(h.dt d r gr h1 h2).dj (hle _ _) hk (fun o ho=>?_)
   rcases hX o ho with⟨b,rfl⟩|⟨g,rfl⟩
   ·refine⟨fun b' e=>?_,fun g e=>?_,fun i e=>?_⟩
    ·injection e with e;exact hd e
    ·cases e
    ·cases e
   ·refine⟨fun b' e=>?_,fun g e=>?_,fun i e=>?_⟩
    ·cases e
    ·injection e with e;exact hd e
    ·cases e
 ·rw[hL]at h2
  have nQ:=h.loop l lp r h1 h2
  obtain⟨k1,k2,_⟩:=hk _ _ nQ.2.1 (fun hx=>by rcases hX _ hx with⟨b,e⟩|⟨g,e⟩<;>cases e)
  exact nQ.dj (fun k nl _ _=>hle k nl) (by rw[hG,NN];exact aI _) k1 k2
 ·obtain⟨akP,e0,e1⟩:=Rb d gr e
  rw[e1]
  exact h.pN d akP e0
 ·obtain⟨a,e0,e1⟩:=Rb d gr e
  obtain⟨b,e2,e3⟩:=Rb d' bP e'
  rw[e1,e3]
  exact h.rL d d' a b hd e0 e2
def ek (P:Program) (B0:Nat) (w0:World) (G:aH) (k nl:Nat) (s s':ae) (w':World) (x:AV) (x':Value):Prop:=
 ∃G',At P B0 w0 G' k nl s' w'∧bL (k+1) s.loops.length G G'∧s'.loops.length=s.loops.length∧Rel G' k nl x x'
theorem At.to {G':aH} {s':ae} (h:At P B0 w0 G k nl s w) (hr:cQ P B0 w0 G' s' w') (hle:bL k nl G G') (hl:s'.ag.length=s.ag.length):At P B0 w0 G' k nl s' w':=by
 obtain⟨gr,h1,h2⟩:=h.cur
 obtain⟨bP,h3,h4,_⟩:=hle.ag k gr (aI _) h1
 exact⟨hr,hl.trans h.len,bP,h3,h4.nl.trans h2⟩
theorem At.dt (h:At P B0 w0 G k nl s w) {d:Nat} (hd:d≤k):∃r gr,s.ag[d]? =some r∧G.ag[d]? =some gr:=by
 have h1:d<s.ag.length:=by rw[h.len];omega
 have h2:d<G.ag.length:=by rw[h.rel.len];exact h1
 exact⟨_,_,dq h1,dq h2⟩
theorem gi {α:Type} {l:List α} {b:Nat} {x y:α} (h:(l++[x])[b]? =some y):(b<l.length∧l[b]? =some y)∨(b=l.length∧y=x):=by
 rcases UO b l.length with hb|hb
 ·rw[dG hb]at h;exact .inl ⟨hb,h⟩
 ·rw[jy hb]at h
  have:b-l.length=0:=by
   have:=(bI.1 h).1
   simp at this;omega
  rw[this]at h
  simp at h
  exact .inr ⟨by omega,h.symm⟩
theorem qg {α:Type} {l:List α} {b:Nat} {x y:α} (h:l[b]? =some y):(l++[x])[b]? =some y:=by
 rw[dG (bI.1 h).1];exact h
theorem C2 (h:At P B0 w0 G k nl s w) {cs:List AV} {arr:Array Value} (ty:TypeId) (z:Option Nat) (hz:∀n,z=some n→arr.size=n) (aF:cs≠[]) (bw:∀c,c∈cs→c.bK=true) (hR:mc (Rel G k nl) cs arr):
  ek P B0 w0 G k nl s (s.eG cs).2 (w.alloc (.cells arr ty)) (s.eG cs).1 (.pointer (some ⟨w.heap.size,0,none⟩))∧
  ek P B0 w0 G k nl s (s.eG cs).2 (w.alloc (.cells arr ty)) (.aN s.cur (s.cE s.cur) 0 0 0 0) (.slice (some ⟨w.heap.size,0,none⟩) 0 0)∧
  ∀es n cap rc,n≤rc→cap≤rc→(cap=0→0<n→z=some (rc*es))→ek P B0 w0 G k nl s (s.eG cs).2 (w.alloc (.cells arr ty)) (.aN s.cur (s.cE s.cur) 0 es n cap) (.slice (some ⟨w.heap.size,0,none⟩) n rc):=by
 obtain⟨r,gr,hr,hg⟩:=h.dt (aI k)
 have kX:gr.nl=nl:=by obtain⟨g',e1,e2⟩:=h.cur;rw[hg]at e1;injection e1 with e1;rw[e1];exact e2
 have aT:=h.rel.dt k r gr hr hg
 let G':aH:={G with ag:=G.ag.modify k fun q=>{q with bl:=q.bl++[some w.heap.size],gs:=fun b=>if b=r.boxes.length then z else q.gs b},own:=fun b=>if b=w.heap.size then some (.box k r.boxes.length)else G.own b}
 have hk:j9 (fun _=>False) G w G' (w.alloc (.cells arr ty)):=fun b o e _=>by
  have aB:=h.rel.fq b o e
  exact⟨by simp only[G'];rw[ak (by omega)];exact e,Below.heap_alloc _ _ _ aB,fun _ e=>e⟩
 have gE:jz gr {gr with bl:=gr.bl++[some w.heap.size],gs:=fun b=>if b=r.boxes.length then z else gr.gs b}:=⟨fun b blk e=>qg e,fun g T e=>⟨T,e,.refl T⟩,rfl,fun b n e=>by
  obtain⟨blk,hb⟩:=aT.qi b n e
  have:=(bI.1 hb).1
  rw[aT.gV]at this
  simp only
  rw[ak (by omega)];exact e⟩
 have kD:(w.alloc (.cells arr ty)).heap[w.heap.size]? =some (.cells arr ty):=World.alloc_heap_new w _
 have hle:bL k nl G G':=⟨fun _ _ _ e=>e,fun d q _ e=>by
  simp only[G',eE]
  by_cases hd:k=d
  ·subst hd
   rw[hg]at e
   injection e with e
   subst e
   exact⟨_,by rw[aj rfl,hg];rfl,gE,fun _=>rfl⟩
  ·exact⟨q,by rw[ak hd];exact e,.refl q,fun _=>rfl⟩,fun _ _ _ e=>e⟩
 have iY:=h.rel.bG (G':=G') (w':=w.alloc (.cells arr ty)) hr hg (fun r=>{r with boxes:=r.boxes++[cs]}) (fun q=>{q with bl:=q.bl++[some w.heap.size],gs:=fun b=>if b=r.boxes.length then z else q.gs b}) (fun _=>False) rfl rfl (fun _ _ _ e=>e) gE rfl hk
  (fun o ho=>ho.elim) ?_ (fun b i v e=>?_) ((Below.refl _ _).alloc h.rel.low _) (fun b o e=>?_)
 ·obtain⟨hs,lQ⟩:=iY
  have oO:cQ P B0 w0 G' (s.eG cs).2 (w.alloc (.cells arr ty)):=by
   simp only[ae.eG,h.iQ,ae.tF]
   exact hs
  have hlen:(s.eG cs).2.ag.length=s.ag.length:=by simp[ae.eG,ae.tF,ae.bG]
  have eP:=h.to oO hle hlen
  have CB:s.cE s.cur=r.boxes.length:=by simp[ae.cE,h.iQ,hr]
  have hH:G'.ag[k]? =some {gr with bl:=gr.bl++[some w.heap.size],gs:=fun b=>if b=r.boxes.length then z else gr.gs b}:=by
   show(G.ag.modify k _)[k]? =_
   rw[eE,aj rfl,hg];rfl
  have Hq:({gr with bl:=gr.bl++[some w.heap.size],gs:=fun b=>if b=r.boxes.length then z else gr.gs b}:dF).bl[r.boxes.length]? =some (some w.heap.size):=by
   show(gr.bl++[some w.heap.size])[r.boxes.length]? =_
   rw[←aT.gV,jy (aI _)]
   simp
  have aU:(s.eG cs).2.loops.length=s.loops.length:=by simp[ae.eG,ae.tF,ae.bG]
  refine⟨⟨G',eP,lQ _ _,aU,?_⟩,⟨G',eP,lQ _ _,aU,?_⟩,fun es n cap rc hn hc hw=>⟨G',eP,lQ _ _,aU,?_⟩⟩
  ·simp only[ae.eG,h.iQ]
   rw[h.iQ]at CB
   rw[CB]
   exact .ptr _ (aI _) hH Hq
  ·rw[CB,h.iQ]
   exact .aN _ (aI _) hH Hq (aI _) (aI _) (fun _ h=>absurd h (wN _)) (fun _=>rfl)
  ·rw[CB,h.iQ]
   exact .aN _ (aI _) hH Hq hn hc (fun e1 e2=>by simp only;rw[aj trivial];exact hw e1 e2) (fun _=>rfl)
 ·refine⟨by simp[aT.gV],aT.jx,fun b cs' blk e1 e2=>?_,fun b blk e1 e2=>?_,fun g n T e1 e2=>?_,fun i b e1=>?_,fun b n e1=>?_⟩
  ·rcases gi e1 with⟨hb,e1⟩|⟨hb,rfl⟩
   ·have jB:gr.bl[b]? =some (some blk):=by
     rcases gi e2 with⟨_,e2⟩|⟨kq,_⟩
     ·exact e2
     ·rw[aT.gV]at kq;omega
    have dC:=(aT.box b cs' blk e1 jB).kept (by rw[kX];exact hle) hk (fun _ x=>x)
    show rR B0 G' k gr.nl b (if b=r.boxes.length then z else gr.gs b) cs' blk _
    rw[ak (by omega)];exact dC
   ·have:blk=w.heap.size:=by
     rcases gi e2 with⟨kq,_⟩|⟨_,e⟩
     ·rw[aT.gV]at kq;omega
     ·injection e
    subst this
    subst hb
    refine⟨h.rel.low,⟨_,by simp[G'],fun _=>rfl⟩,fun _=>h.rel.wF,arr,ty,kD,hR.1,fun _ n hn=>hz n (by simpa using hn),fun i hi=>⟨bw _ (iz hi),?_⟩⟩
    have:=(hR.2 i hi).mono hle (aI _) (aI _)
    show Rel G' k gr.nl _ _
    rw[kX]
    exact this
  ·rcases gi e2 with⟨hb,e2⟩|⟨hb,e2⟩
   ·have qX:gr.bl[b]? =some (some blk):=by
     rcases gi e1 with⟨_,e1⟩|⟨kq,_⟩
     ·exact e1
     ·rw[aT.gV]at kq;omega
    exact aT.full b blk qX e2
   ·exact absurd e2.symm aF
  ·have ht:=aT.tok g n T e1 e2
   have hs:∀(hn:n.isSome=true),G'.own T.blk=some (.tok k g)∧(w.alloc (.cells arr ty)).heap[T.blk]? =w.heap[T.blk]? ∧∀i,G.I T.blk i=none→G'.I T.blk i=none:=fun hn=>by
    obtain⟨m,hm⟩:=tB.1 hn
    exact hk _ _ (ht.2 m hm).2.1 (fun x=>x)
   exact ht.dj (fun hn=>(hs hn).1) (fun hn=>(hs hn).2.1) (fun hn=>(hs hn).2.2)
  ·have hm:=aT.mark i b e1
   obtain⟨k1,k2,_⟩:=hk _ _ hm.2.1 (fun x=>x)
   exact hm.dj k1 k2
  ·simp only at e1
   split at e1
   ·rename_i hb
    subst hb
    refine⟨w.heap.size,?_⟩
    rw[←aT.gV,jy (aI _)]
    simp
   ·obtain⟨blk,hb⟩:=aT.qi b n e1
    exact⟨blk,qg hb⟩
 ·have aB:=h.rel.uL e
  rw[World.cell?_alloc_lt _ _ _ (by exact aB)]
  exact h.rel.fM b i v e
 ·simp only[G']at e
  split at e
  ·rename_i hb;subst hb;simp
  ·have:=h.rel.fq b o e;simp;omega
theorem Lv {α:Type} {l:List α} {x:α} {n b:Nat} {y:α} (h:(l++List.replicate n x)[b]? =some y):l[b]? =some y∨(l.length≤b∧y=x):=by
 rcases UO b l.length with hb|hb
 ·rw[dG hb]at h;exact .inl h
 ·rw[jy hb]at h
  exact .inr ⟨hb,by rw[DE]at h;split at h;(injection h with h;exact h.symm);cases h⟩
theorem awE (h:At P B0 w0 G k nl s w) (n:Nat):ek P B0 w0 G k nl s (s.l5 n) w AV.undef Go.undef:=by
 obtain⟨r,gr,hr,hg⟩:=h.dt (aI k)
 have aT:=h.rel.dt k r gr hr hg
 let G':aH:={G with ag:=G.ag.modify k fun q=>{q with bl:=q.bl++List.replicate n none}}
 have hk:j9 (fun _=>False) G w G' w:=fun b o e _=>⟨e,rfl,fun _ e=>e⟩
 have gE:jz gr {gr with bl:=gr.bl++List.replicate n none}:=⟨fun b blk e=>by
  show(gr.bl++_)[b]? =_
  rw[dG (bI.1 e).1];exact e,fun g T e=>⟨T,e,.refl T⟩,rfl,fun _ _ e=>e⟩
 have hle:bL k gr.nl G G':=⟨fun _ _ _ e=>e,fun d q _ e=>by
  simp only[G',eE]
  by_cases hd:k=d
  ·subst hd
   rw[hg]at e
   injection e with e
   subst e
   exact⟨_,by rw[aj rfl,hg];rfl,gE,fun _=>rfl⟩
  ·exact⟨q,by rw[ak hd];exact e,.refl q,fun _=>rfl⟩,fun _ _ _ e=>e⟩
 have iY:=h.rel.bG (G':=G') (w':=w) hr hg (fun r=>{r with boxes:=r.boxes++List.replicate n []}) (fun q=>{q with bl:=q.bl++List.replicate n none}) (fun _=>False) rfl rfl (fun _ _ _ e=>e) gE rfl hk
  (fun o ho=>ho.elim) ?_ (fun b i v e=>h.rel.fM b i v e) (Below.refl _ _) (fun b o e=>h.rel.fq b o e)
 ·obtain⟨hs,lQ⟩:=iY
  have oO:cQ P B0 w0 G' (s.l5 n) w:=by
   simp only[ae.l5,h.iQ]
   exact hs
  exact⟨G',h.to oO (lQ _ _) (by simp[ae.l5,ae.bG]),lQ _ _,by simp[ae.l5,ae.bG],.undef⟩
 ·refine⟨by simp[aT.gV],aT.jx,fun b cs' blk e1 e2=>?_,fun b blk e1 e2=>?_,fun g n T e1 e2=>?_,fun i b e1=>?_,fun b n e1=>?_⟩
  ·have jB:gr.bl[b]? =some (some blk):=by
    rcases Lv e2 with e2|⟨_,e⟩
    ·exact e2
    ·cases e
   have qX:r.boxes[b]? =some cs':=by
    rcases Lv e1 with e1|⟨kq,_⟩
    ·exact e1
    ·have:=(bI.1 jB).1;rw[aT.gV]at this;omega
   exact(aT.box b cs' blk qX jB).kept hle hk (fun _ x=>x)
  ·have qX:gr.bl[b]? =some (some blk):=by
    rcases Lv e1 with e1|⟨_,e⟩
    ·exact e1
    ·cases e
   rcases Lv e2 with e2|⟨kq,_⟩
   ·exact aT.full b blk qX e2
   ·have:=(bI.1 qX).1;rw[aT.gV]at this;omega
  ·exact aT.tok g n T e1 e2
  ·exact aT.mark i b e1
  ·obtain⟨blk,hb⟩:=aT.qi b n e1
   refine⟨blk,?_⟩
   show(gr.bl++_)[b]? =_
   rw[dG (bI.1 hb).1];exact hb
theorem axT (h:At P B0 w0 G k nl s w) {zs:List AV} {arr:Array Value} (ty:TypeId) {back:Nat} {v:AV} {s':ae} (bw:∀c,c∈zs→c.bK=true) (hR:jA (Rel G k nl) zs arr)
  (hv:mJ s back zs=some (v,s')):ek P B0 w0 G k nl s s' (w.alloc (.cells arr ty)) v (.pointer (some ⟨w.heap.size,0,none⟩)):=by
 obtain⟨r,gr,hr,hg⟩:=h.dt (aI k)
 have kX:gr.nl=nl:=by obtain⟨g',e1,e2⟩:=h.cur;rw[hg]at e1;injection e1 with e1;rw[e1];exact e2
 have aT:=h.rel.dt k r gr hr hg
 unfold mJ at hv
 split at hv
 case h_2=>cases hv
 rename_i dC
 split at hv
 ·cases hv
 rename_i xU
 have am0:zs.isEmpty≠true:=fun e=>xU (.inl e)
 have sK:s.lZ s.cur=false:=by cases e:s.lZ s.cur with|true=>exact absurd (.inr e) xU|false=>rfl
 injection hv with hv
 injection hv with Mp R1
 subst Mp R1
 have aF:zs≠[]:=fun e=>am0 (by rw[e];rfl)
 rw[h.iQ]at dC sK⊢
 have uq:none∉r.toks:=by
  simp only[ae.lZ,hr]at sK
  intro hm
  have:=qM.1 sK none hm
  exact this rfl
 generalize s.cE k-back=b0 at*
 have gj:r.boxes[b0]? =some []:=by
  simpa[ae.box,hr]using dC
 have He:b0<r.boxes.length:=(bI.1 gj).1
 have Za:gr.bl[b0]? =some none:=by
  have hl:b0<gr.bl.length:=by rw[aT.gV];exact He
  rw[dq hl]
  cases e:gr.bl[b0]with
  |none=>rfl
  |some blk=>exact absurd (aT.full b0 blk (by rw[dq hl,e]) gj) uq
 let G':aH:={G with ag:=G.ag.modify k fun q=>{q with bl:=q.bl.set b0 (some w.heap.size)},own:=fun b=>if b=w.heap.size then some (.box k b0)else G.own b}
 have hk:j9 (fun _=>False) G w G' (w.alloc (.cells arr ty)):=fun b o e _=>by
  have aB:=h.rel.fq b o e
  exact⟨by simp only[G'];rw[ak (by omega)];exact e,Below.heap_alloc _ _ _ aB,fun _ e=>e⟩
 have sL:∀(b:Nat) (x:Option Nat),b≠b0→(gr.bl.set b0 (some w.heap.size))[b]? =some x→gr.bl[b]? =some x:=fun b x hb e=>by
  rw[uM (qQ hb)]at e;exact e
 have gE:jz gr {gr with bl:=gr.bl.set b0 (some w.heap.size)}:=⟨fun b blk e=>by
  show(gr.bl.set _ _)[b]? =_
  by_cases hb:b=b0
  ·subst hb;rw[Za]at e;cases e
  ·rw[uM (qQ hb)];exact e,fun g T e=>⟨T,e,.refl T⟩,rfl,fun _ _ e=>e⟩
 have kD:(w.alloc (.cells arr ty)).heap[w.heap.size]? =some (.cells arr ty):=World.alloc_heap_new w _
 have hle:bL k nl G G':=⟨fun _ _ _ e=>e,fun d q _ e=>by
  simp only[G',eE]
  by_cases hd:k=d
  ·subst hd
   rw[hg]at e
   injection e with e
   subst e
   exact⟨_,by rw[aj rfl,hg];rfl,gE,fun _=>rfl⟩
  ·exact⟨q,by rw[ak hd];exact e,.refl q,fun _=>rfl⟩,fun _ _ _ e=>e⟩
 have iY:=h.rel.bG (G':=G') (w':=w.alloc (.cells arr ty)) hr hg (fun r=>{r with boxes:=r.boxes.set b0 zs}) (fun q=>{q with bl:=q.bl.set b0 (some w.heap.size)}) (fun _=>False) rfl rfl (fun _ _ _ e=>e) gE rfl hk
  (fun o ho=>ho.elim) ?_ (fun b i v e=>?_) ((Below.refl _ _).alloc h.rel.low _) (fun b o e=>?_)
 ·obtain⟨hs,lQ⟩:=iY
  have eP:=h.to (s':=s.dQ k b0 zs) hs (lQ k nl) (by simp[ae.dQ,ae.bG])
  refine⟨G',eP,lQ _ _,by simp[ae.dQ,ae.bG],?_⟩
  have hH:G'.ag[k]? =some {gr with bl:=gr.bl.set b0 (some w.heap.size)}:=by
   show(G.ag.modify k _)[k]? =_
   rw[eE,aj rfl,hg];rfl
  refine .ptr _ (aI _) hH ?_
  show(gr.bl.set b0 (some w.heap.size))[b0]? =_
  rw[wH (by rw[aT.gV];exact He)]
 ·refine⟨by simp[aT.gV],aT.jx,fun b cs' blk e1 e2=>?_,fun b blk e1 e2=>?_,fun g n T e1 e2=>?_,fun i b e1=>?_,fun b n e1=>?_⟩
  ·by_cases hb:b=b0
   ·subst hb
    have jB:w.heap.size=blk:=by
     have e3:(gr.bl.set b (some w.heap.size))[b]? =some (some blk):=e2
     rw[wH (by rw[aT.gV];exact He)]at e3
     injection e3 with e3;injection e3
    subst jB
    have qX:zs=cs':=by
     have e3:(r.boxes.set b zs)[b]? =some cs':=e1
     rw[wH He]at e3
     injection e3
    subst qX
    refine⟨h.rel.low,⟨_,by simp[G'],fun _=>rfl⟩,fun _=>h.rel.wF,arr,ty,kD,UM hR.1.symm,fun _ n hn=>?_,fun i hi=>⟨bw _ (iz hi),?_⟩⟩
    ·obtain⟨blk,hb⟩:=aT.qi b n hn
     rw[Za]at hb;cases hb
    have:=(hR.2 i hi).mono hle (aI _) (aI _)
    show Rel G' k gr.nl _ _
    rw[kX]
    exact this
   ·have qX:r.boxes[b]? =some cs':=by
     have e3:(r.boxes.set b0 zs)[b]? =some cs':=e1
     rw[uM (qQ hb)]at e3;exact e3
    have dC:=aT.box b cs' blk qX (sL b _ hb e2)
    exact dC.kept (by rw[kX];exact hle) hk (fun _ x=>x)
  ·by_cases hb:b=b0
   ·subst hb
    have e3:(r.boxes.set b zs)[b]? =some []:=e2
    rw[wH He]at e3
    injection e3 with e3
    exact absurd e3 aF
   ·have e3:(r.boxes.set b0 zs)[b]? =some []:=e2
    rw[uM (qQ hb)]at e3
    exact aT.full b blk (sL b _ hb e1) e3
  ·have ht:=aT.tok g n T e1 e2
   have hs:∀(hn:n.isSome=true),G'.own T.blk=some (.tok k g)∧(w.alloc (.cells arr ty)).heap[T.blk]? =w.heap[T.blk]? ∧∀i,G.I T.blk i=none→G'.I T.blk i=none:=fun hn=>by
    obtain⟨m,hm⟩:=tB.1 hn
    exact hk _ _ (ht.2 m hm).2.1 (fun x=>x)
   exact ht.dj (fun hn=>(hs hn).1) (fun hn=>(hs hn).2.1) (fun hn=>(hs hn).2.2)
  ·have hm:=aT.mark i b e1
   obtain⟨k1,k2,_⟩:=hk _ _ hm.2.1 (fun x=>x)
   exact hm.dj k1 k2
  ·obtain⟨blk,hb⟩:=aT.qi b n e1
   exact⟨blk,gE.bl _ _ hb⟩
 ·have aB:=h.rel.uL e
  rw[World.cell?_alloc_lt _ _ _ (by exact aB)]
  exact h.rel.fM b i v e
 ·simp only[G']at e
  split at e
  ·rename_i hb;subst hb;simp
  ·have:=h.rel.fq b o e;simp;omega
end
end Go.Ax
