/-
  The abstract executor: values, codes and what a run of a code gives. Plain definitions; nothing is claimed here.
-/
import GoSem.Step
import Derived.RangeFuncLeaves
import Derived.RangeFuncRecord
import Derived.Below
import Derived.Laws.IdiomCopy
import Derived.Laws.Cells
set_option linter.unusedSimpArgs false
set_option linter.unusedVariables false
set_option maxRecDepth 100000
namespace Go.Ax
abbrev ak:= @if_pos
abbrev aq:= @if_neg
abbrev aH:= @Nat.le_refl
abbrev aP:= @Int.cast_ofNat_Int
abbrev aU:= @Option.map_eq_some_iff
abbrev aY:= @ne_eq
abbrev bd:= @List.getElem?_eq_some_iff
abbrev bg:= @Nat.zero_le
abbrev bB:= @if_true
abbrev bP:= @decide_eq_true
abbrev bQ:= @List.mem_of_getElem?
abbrev bS:= @decide_eq_false
abbrev bY:= @List.length_map
abbrev cj:= @List.length_append
abbrev cC:= @List.mem_map
abbrev cE:= @if_false
abbrev cM:= @List.getElem?_eq_getElem
abbrev cX:= @Option.bind_eq_some_iff
abbrev da:= @Nat.not_lt_zero
abbrev dB:= @Bool.and_eq_true
abbrev dC:= @List.getElem?_append_left
abbrev dD:= @List.mem_append
abbrev dK:= @Option.map_some
abbrev dO:= @List.length_cons
abbrev dY:= @decide_eq_true_eq
abbrev ef:= @Bool.false_eq_true
abbrev eA:= @not_true
abbrev eB:= @List.mem_cons
abbrev eI:= @List.getElem?_set_ne
abbrev eJ:= @List.mem_singleton
abbrev eK:= @Option.bind_some
abbrev eR:= @List.drop_length
abbrev eS:= @List.mem_filter
abbrev fl:= @Option.some.injEq
abbrev fB:= @Nat.zero_add
abbrev fK:= @List.any_eq_true
abbrev fV:= @List.length_take
abbrev fZ:= @cond_true
abbrev gu:= @List.getElem_mem
abbrev gv:= @Nat.add_mul
abbrev gD:= @List.getElem?_append_right
abbrev gW:= @List.append_assoc
abbrev hU:= @congrArg
abbrev ig:= @not_false_iff
abbrev iq:= @Bool.true_and
abbrev iy:= @cond_false
abbrev iK:= @List.length_nil
abbrev iL:= @List.map_append
abbrev iM:= @List.map_cons
abbrev jd:= @List.append_nil
abbrev je:= @List.getElem?_map
abbrev jf:= @List.mem_cons_of_mem
abbrev jg:= @List.take_length
abbrev jh:= @Nat.pow_le_pow_right
abbrev jw:= @List.all_eq_true
abbrev jL:= @Bool.false_and
abbrev jW:= @List.pairwise_append
abbrev kq:= @List.cons_append
abbrev kt:= @List.drop_zero
abbrev kL:= @Bool.not_true
abbrev kN:= @List.nil_append
abbrev kO:= @Nat.le_trans
abbrev kQ:= @Option.getD_some
abbrev mj:= @List.getElem?_set_self
abbrev mV:= @Bool.false_or
abbrev mW:= @Bool.not_false
abbrev mY:= @List.getElem?_of_mem
abbrev mZ:= @Nat.lt_of_lt_of_le
abbrev na:= @and_self
abbrev nI:= @Bool.and_false
abbrev nL:= @List.getElem?_eq_none
abbrev nM:= @List.getElem_of_mem
abbrev nN:= @List.length_filter_le
abbrev nO:= @List.map_nil
abbrev nP:= @List.mem_range
abbrev oz:= @List.any_cons
abbrev oA:= @List.filter_append
abbrev oB:= @Nat.mul_le_mul_right
abbrev oC:= @Option.isSome_iff_exists
abbrev oI:= @decide_not
abbrev oJ:= @decide_true
abbrev pD:= @List.ext_getElem?
abbrev pE:= @List.length_range
abbrev pF:= @List.mem_append_left
abbrev qh:= @Classical.byContradiction
abbrev qi:= @Ne.symm
abbrev qs:= @decide_false
abbrev ru:= @List.pairwise_map
abbrev rz:= @Nat.one_mul
abbrev rJ:= @decide_eq_false_iff_not
abbrev sQ:= @Bool.and_true
abbrev sR:= @Eq.symm
abbrev sU:= @List.eq_nil_of_length_eq_zero
abbrev sV:= @List.flatten_cons
abbrev sW:= @List.getElem?_set
abbrev sX:= @List.length_drop
abbrev sY:= @Nat.le_succ
abbrev sZ:= @Nat.mod_lt
abbrev s7:= @Option.isSome_none
abbrev uf:= @Array.getElem?_eq_some_iff
abbrev ug:= @Bool.or_eq_true
abbrev ui:= @Eq.trans
abbrev um:= @List.getElem_append_left
abbrev uo:= @List.getElem_append_right
abbrev uq:= @List.idxOf_lt_length_iff
abbrev ur:= @List.mem_flatten
abbrev uu:= @List.pairwise_cons
abbrev vI:= @Bool.eq_iff_iff
abbrev vK:= @List.all_cons
abbrev vL:= @List.any_append
abbrev vM:= @List.cons.injEq
abbrev vN:= @List.getElem?_modify
abbrev vO:= @List.map_map
abbrev vP:= @Nat.add_assoc
abbrev vQ:= @Nat.add_zero
abbrev vR:= @Nat.eq_zero_or_pos
abbrev xH:= @Bool.and_self
abbrev xI:= @Bool.not_eq_true'
abbrev xJ:= @Bool.true_or
abbrev xO:= @List.foldl_cons
abbrev xP:= @List.getElem?_take
abbrev xQ:= @List.getElem_cons_zero
abbrev xR:= @List.length_singleton
abbrev xS:= @List.mem_cons_self
abbrev xT:= @List.mem_of_mem_take
abbrev xU:= @List.size_toArray
abbrev xV:= @Nat.div_add_mod'
abbrev xW:= @Option.isSome_some
abbrev zC:= @or_false
abbrev zL:= @Int.le_refl
abbrev zM:= @List.any_eq_false
abbrev zN:= @List.drop_of_length_le
abbrev zO:= @List.length_set
abbrev zP:= @List.map_congr_left
abbrev zQ:= @List.not_mem_nil
abbrev zR:= @List.range_eq_range'
abbrev zS:= @List.set_set
abbrev zU:= @Nat.lt_irrefl
abbrev Cg:= @Bool.or_false
abbrev Ci:= @Int.toNat_natCast
abbrev Cj:= @List.Pairwise.filter
abbrev Ck:= @List.all_nil
abbrev Cl:= @List.getElem_idxOf
abbrev Cm:= @List.length_pos_iff
abbrev Cn:= @List.pairwise_iff_getElem
abbrev Co:= @List.range'_succ
abbrev Cp:= @List.range_succ
abbrev Cr:= @Nat.le_max_left
abbrev Cs:= @Nat.testBit_or
abbrev Cu:= @Prod.mk.injEq
abbrev Hm:= @List.any_map
abbrev Hn:= @List.filter_congr
abbrev Ho:= @List.filter_nil
abbrev Hp:= @List.find?_eq_none
abbrev Hq:= @List.flatMap_cons
abbrev Hr:= @List.getElem?_cons_zero
abbrev Hs:= @List.getElem?_range
abbrev Ht:= @List.getElem_cons_succ
abbrev Hu:= @List.isEmpty_nil
abbrev Hv:= @List.map_eq_nil_iff
abbrev Hw:= @List.mem_append_right
abbrev Hx:= @List.mem_of_mem_drop
abbrev Hy:= @List.mem_replicate
abbrev Hz:= @List.set_append_right
abbrev HA:= @List.set_cons_zero
abbrev HB:= @List.take_append_drop
abbrev HE:= @Nat.add_sub_cancel
abbrev HF:= @Nat.le_max_right
abbrev HG:= @Nat.mod_eq_of_lt
abbrev HH:= @Nat.mul_pos
abbrev HI:= @Nat.sub_self
abbrev HJ:= @Nat.testBit_lt_two_pow
abbrev Jj:= @dif_pos
abbrev KM:= @of_decide_eq_true
abbrev K9:= @true_and
abbrev Ll:= @Bool.or_eq_false_iff
abbrev Lm:= @ByteArray.ext
abbrev Lp:= @List.ext_getElem
abbrev Lq:= @List.filter_cons
abbrev Lr:= @List.filter_eq_self
abbrev Ls:= @List.filter_sublist
abbrev Lt:= @List.find?_cons
abbrev Lu:= @List.find?_some
abbrev Lv:= @List.foldl_append
abbrev Lw:= @List.getD_eq_getElem?_getD
abbrev Lx:= @List.getElem?_cons_succ
abbrev Ly:= @List.length_eraseIdx_of_lt
abbrev Lz:= @List.length_modify
abbrev LA:= @List.map_take
abbrev LB:= @List.pairwise_singleton
abbrev LC:= @List.take_zero
abbrev LD:= @Nat.add_comm
abbrev LF:= @Nat.div_eq_of_lt
abbrev LG:= @Nat.le_of_not_lt
abbrev LH:= @Nat.lt_succ_self
abbrev LI:= @Nat.lt_trichotomy
abbrev LJ:= @Nat.one_ne_zero
abbrev LK:= @Nat.pow_lt_pow_right
abbrev LL:= @Nat.sub_le_sub_right
abbrev LM:= @Nat.testBit_two_pow
abbrev LN:= @Option.map_map
abbrev Nq:= @beq_iff_eq
abbrev RV:= @Array.length_toList
abbrev RX:= @Function.comp_def
abbrev RZ:= @Int.mul_le_mul_of_nonneg_right
abbrev R2:= @List.Pairwise.of_cons
abbrev R3:= @List.append_eq_nil_iff
abbrev R4:= @List.drop_append_of_le_length
abbrev R5:= @List.drop_eq_nil_of_le
abbrev R6:= @List.drop_succ_cons
abbrev R7:= @List.eq_of_mem_replicate
abbrev R9:= @List.filter_eq_nil_iff
abbrev Sb:= @List.flatten_nil
abbrev Sd:= @List.getElem?_replicate
abbrev Se:= @List.getElem?_toArray
abbrev Sf:= @List.getElem_set
abbrev Sg:= @List.getLast?_eq_none_iff
abbrev Sh:= @List.mapM_cons
abbrev Si:= @List.mem_of_find?_eq_some
abbrev Sj:= @List.mem_of_getLast?
abbrev Sk:= @List.mem_of_mem_eraseIdx
abbrev Sm:= @List.mem_or_eq_of_mem_set
abbrev Sn:= @List.set_cons_succ
abbrev So:= @List.take_append_of_le_length
abbrev Sp:= @List.take_of_length_le
abbrev Sq:= @List.take_succ_cons
abbrev Sr:= @Nat.div_le_self
abbrev Ss:= @Nat.div_lt_iff_lt_mul
abbrev Sv:= @Nat.le_of_eq
abbrev Sw:= @Nat.le_of_lt
abbrev Sy:= @Nat.lt_or_ge
abbrev Sz:= @Nat.lt_or_gt_of_ne
abbrev SA:= @Nat.lt_trans
abbrev SB:= @Nat.mul_comm
abbrev SC:= @Nat.mul_one
abbrev SD:= @Nat.one_le_two_pow
abbrev SE:= @Nat.sub_zero
abbrev SF:= @Nat.testBit_two_pow_sub_one
abbrev Uo:= @beq_self_eq_true
abbrev abz:= @Array.getElem?_eq_getElem
abbrev abA:= @Array.mapM_eq_mapM_toList
abbrev abC:= @Int.fdiv_eq_ediv_of_nonneg
abbrev abD:= @List.filter_cons_of_neg
abbrev abE:= @List.filter_cons_of_pos
abbrev abF:= @List.getElem_replicate
abbrev abG:= @List.getLast?_eq_getElem?
abbrev abH:= @List.length_eq_zero_iff
abbrev abI:= @List.length_eraseIdx_le
abbrev abJ:= @List.pairwise_lt_range
abbrev abL:= @List.rel_of_pairwise_cons
abbrev abO:= @Nat.testBit_eq_decide_div_mod_eq
abbrev abQ:= @Option.isNone_iff_eq_none
end Go.Ax
namespace Go.Ax
inductive Own where
 |aA
 |any
 |full
 |tok (d g:Nat)
def Own.isNil:Own→Bool
 |.aA=>true
 |_=>false
def Own.isFull:Own→Bool
 |.full=>true
 |_=>false
inductive AV where
 |v (x:Value)
 |slice (o:Own) (es:Nat) (xs:List (List AV))
 |ptr (d b off:Nat)
 |bq (cs:List AV) (off:Nat)
 |aO (d b off es n cap:Nat)
 |fn (f:FuncId) (first caps:List AV)
 |yield (l:Nat)
 |iface (t:TypeId) (x:AV)
 |agg (cs:List AV)
 |tuple (vs:List AV)
 |zB
abbrev AV.int (n:Int):AV:=.v (.int .i64 n)
abbrev AV.bool (b:Bool):AV:=.v (.bool b)
abbrev AV.undef:AV:=.v Go.undef
def AV.cells:AV→List AV
 |.agg cs=>cs
 |x=>[x]
def AV.bt:AV→Bool
 |.agg _|.tuple _=>false
 |.v (.agg _)|.v (.tuple _)=>false
 |_=>true
def AV.iG:AV→Bool
 |.v x=>match x with|.agg _|.tuple _=>false|_=>true
 |.bq _ _=>true
 |.zB=>true
 |.slice o _ _=>match o with|.aA|.any|.full=>true|_=>false
 |_=>false
def AV.vm:AV→Bool
 |.agg cs=>cs.all AV.iG
 |x=>x.iG
def AV.isClosed:AV→Bool
 |.iface _ x=>x.vm
 |.fn _ first caps=>first.all AV.vm&&caps.all AV.iG
 |x=>x.iG
def AV.close:AV→Option AV
 |.slice (.tok _ _) es xs=>some (.slice .any es xs)
 |x=>if x.isClosed then some x else none
def closeAll:List AV→Option (List AV)
 |[]=>some []
 |x::r=>match x.close,closeAll r with
  |some y,some s=>some (y::s)
  |_,_=>none
inductive aF where
 |tmp (t:Nat)
 |const (c:AV)
inductive Cv where
 |str
 |sl (es:Nat)
 |arr (n es:Nat)
inductive PK where
 |int
 |bool
 |str
inductive Hj where
 |bool
 |agg (ks:List PK)
 |ptr
 |iface
 |slice
 |func
inductive Hi where
 |int (k:IntKind)
 |same
 |bytes
 |text
inductive bX where
 |move (x:aF)
 |pick (c a b:aF)
 |alloc (zs:List AV)
 |box (n:Nat) (x:aF)
 |build (zs:List AV) (parts:List (Nat×Nat×aF))
 |buildSlice (es:Nat) (rows:List (List AV)) (parts:List (Nat×aF))
 |load (agg:Bool) (n:Nat) (x:aF)
 |store (n:Nat) (x y:aF)
 |nilCheck (x:aF)
 |arith (op:BinOp) (x y:aF)
 |eqv (neg:Bool) (k:Hj) (x y:aF)
 |un (op:UnOp) (x:aF)
 |conv(k:Hi) (x:aF)
 |KE (t:TypeId) (x:aF)
 |om (f:FuncId) (first caps:List aF)
 |mkSlice (es:Nat) (zs:List AV) (len cap:aF)
 |BO (es:Nat) (zs:List AV) (len cap:aF)
 |slice (k:Cv) (x:aF) (lo hi mx:Option aF)
 |fieldAddr (off:Nat) (x:aF)
 |indexAddr (arr:Option Nat) (es:Nat) (x i:aF)
 |Gy (x i:aF)
 |index (n es:Nat) (agg:Bool) (x i:aF)
 |field (agg:Bool) (n off:Nat) (x:aF)
 |extract (i:Nat) (x:aF)
 |call (ro:Bool) (f:FuncId) (args:List aF)
 |jZ (ro:Bool) (x:aF) (args:List aF)
 |th (f:FuncId) (args:List aF)
 |wy (f:FuncId) (args:List aF)
 |wz (f:FuncId) (args:List aF)
 |rK (ro:Bool) (zss:List (List AV)) (f:FuncId) (args:List aF)
 |append (es:Nat) (x y:aF)
 |v7 (es:Nat) (x y:aF)
 |vZ (es:Nat) (x y:aF)
 |rC (es:Nat) (x y h:aF)
 |sM (es:Nat) (x:aF)
 |clear (zs:List AV) (x:aF)
 |tf (f:FuncId) (args:List aF)
 |qn (f:FuncId) (args:List aF) (ws:List (Bool×Nat×Nat))
 |copy (x y:aF)
 |yi (es:Nat) (row:List AV) (t:Nat)
 |len (str:Bool) (x:aF)
 |BG (n:Nat)
 |GI (mx:Bool) (xs:List aF)
 |lG (n:Nat)
 |slot (back:Nat) (zs:List AV)
 |fS (res:Nat) (agg:Bool) (n:Nat) (x:aF)
 |jH (agg:Bool) (n:Nat) (x:aF)
 |fill (back n:Nat) (x y:aF)
structure bz where
 dst:Option Nat
 guard:Option (Nat×Bool)
 op:bX
inductive cV where
 |normal
 |exit (id:Nat)
 |ret
inductive au where
 |skip
 |region (drawn:Bool) (ops:List bz)
 |seq (a b:au)
 |cond (c:aF) (a b:au)
 |block (id:Nat) (a:au)
 |loop (a:au)
 |rangeFunc (f:aF) (params:List Nat) (assign body:au)
 |exit (id:Nat)
 |ret
structure Rec where
 boxes:List (List AV)
 toks:List (Option Nat)
structure dx where
 ready:Bool
 eF:Option cV
 tmps:Nat→AV
 params:List Nat
 assign:au
 body:au
structure ae where
 ag:List Rec
 loops:List dx
 ro:Nat
 bo:Nat
structure St where
 tmps:Nat→AV
 sig:ae
inductive Target where
 |fn (f:FuncId)
 |yield (l:Nat)
 |inl (f:FuncId)
 |nat (f:FuncId)
abbrev aZ:=Target→List AV→ae→Option (AV×ae)
inductive il where
 |tmp (t:Nat)
 |cell (agg:Bool) (n:Nat) (t:Nat)
inductive aJ where
 |code (np ntmps:Nat) (body:au) (results:List il) (own:Bool)
 |re (F:List AV→Option AV)
 |nat (F:List AV→Option AV)
def ae.push (s:ae) (r:Rec):ae:={s with ag:=s.ag++[r]}
def ae.pop (s:ae):ae:={s with ag:=s.ag.dropLast}
def ae.cur (s:ae):Nat:=s.ag.length-1
def ae.box (s:ae) (d b:Nat):Option (List AV):=(s.ag[d]?).bind (·.boxes[b]?)
def ae.tok (s:ae) (d g:Nat):Option Nat:=((s.ag[d]?).bind (·.toks[g]?)).join
def ae.jI (s:ae) (d:Nat):Nat:=match s.ag[d]? with|some r=>r.toks.length|none=>0
def ae.lB (s:ae) (d:Nat):Bool:=match s.ag[d]? with|some r=>r.toks.any Option.isNone|none=>false
def ae.bL (s:ae) (d:Nat):Nat:=match s.ag[d]? with|some r=>r.boxes.length|none=>0
def ae.bp (s:ae) (d:Nat) (f:Rec→Rec):ae:={s with ag:=s.ag.modify d f}
def ae.dA (s:ae) (d b:Nat) (cs:List AV):ae:=s.bp d fun r=>{r with boxes:=r.boxes.set b cs}
def ae.mf (s:ae) (d g:Nat) (n:Option Nat):ae:=s.bp d fun r=>{r with toks:=r.toks.set g n}
def ae.kT (s:ae) (d n:Nat):ae:=s.bp d fun r=>{r with toks:=r.toks++[some n]}
def ae.jj (s:ae) (d:Nat) (cs:List AV):ae:=s.bp d fun r=>{r with boxes:=r.boxes++[cs]}
def ae.row (m:ae):AV→Option (List AV×Nat)
 |.ptr d b off=>(m.box d b).map fun cs=>(cs,off)
 |.bq cs off=>some (cs,off)
 |_=>none
def part (agg:Bool) (n:Nat) (cs:List AV) (off:Nat):Option AV:=
 if agg then(if off+n≤cs.length then some (.agg ((cs.drop off).take n))else none)else cs[off]?
def ae.load (m:ae) (agg:Bool) (n:Nat) (x:AV):Option AV:=
 (m.row x).bind fun(cs,off)=>part agg n cs off
def setCells (cs:List AV) (off:Nat):List AV→List AV
 |[]=>cs
 |x::r=>setCells (cs.set off x) (off+1) r
def ae.fit (m:ae) (d:Nat):AV→Option (AV×ae)
 | .slice (.tok d' g) es xs =>
  if d'≤d then some (.slice (.tok d' g) es xs,m)
  else if d'=m.cur∧m.tok d' g=some xs.length then
   some (.slice (.tok d (m.jI d)) es xs,(m.mf d' g none).kT d xs.length)
  else some (.slice .any es xs,m)
 |.ptr d' b off=>if d'≤d then some (.ptr d' b off,m)else none
 |.aO d' b off es n cap=>if d'≤d then some (.aO d' b off es n cap,m)else none
 |x=>x.close.map (·,m)
def ae.fitAll (m:ae) (d:Nat):List AV→Option (List AV×ae)
 |[]=>some ([],m)
 | x :: r => match m.fit d x with
  |none=>none
  |some (y,m1)=>match m1.fitAll d r with
   |none=>none
   |some (s,m2)=>some (y::s,m2)
def ae.store (m : ae) (n : Nat) (x y : AV) : Option ae :=
 match x with
 | .ptr d b off =>
  if m.ro≤d∧y.cells.length=n∧y.cells.all AV.bt=true then
   match(if d=m.cur then some (y.cells,m)else m.fitAll d y.cells)with
   |none=>none
   |some (cs,m1)=>match m1.box d b with
    |none=>none
    |some row=>if off+n≤row.length then some (m1.dA d b (setCells row off cs))else none
  else none
 |_=>none
def ae.dz (m:ae) (cs:List AV):AV×ae:=(.ptr m.cur (m.bL m.cur) 0,m.jj m.cur cs)
def sB (op:BinOp) (k:IntKind) (x y:Int):Option Value:=
 match op with
 |.add=>some (.int k (k.wrap (x+y)))
 |.sub=>some (.int k (k.wrap (x-y)))
 |.mul=>some (.int k (k.wrap (x*y)))
 |.quo=>if y=0 then none else some (.int k (k.wrap (x.tdiv y)))
 |.rem=>if y=0 then none else some (.int k (x.tmod y))
 |.and=>some (.int k (k.wrap (BitVec.ofInt k.bits x&&&BitVec.ofInt k.bits y).toNat))
 |.or=>some (.int k (k.wrap (BitVec.ofInt k.bits x|||BitVec.ofInt k.bits y).toNat))
 |.xor=>some (.int k (k.wrap (BitVec.ofInt k.bits x^^^BitVec.ofInt k.bits y).toNat))
 |.andNot=>some (.int k (k.wrap (BitVec.ofInt k.bits x&&&~~~(BitVec.ofInt k.bits y)).toNat))
 |.eql=>some (.bool (x==y))
 |.neq=>some (.bool (x != y))
 |.lss=>some (.bool (x<y))
 |.leq=>some (.bool (x≤y))
 |.gtr=>some (.bool (x>y))
 |.geq=>some (.bool (x≥y))
 |_=>none
def tY (op:BinOp) (k:IntKind) (x y:Int):Option Value:=
 if y<0 then none else
 match op with
 |.shl=>some (.int k (k.wrap (x*2^min y.toNat k.bits)))
 |.shr=>some (.int k (x.fdiv (2^min y.toNat k.bits)))
 |_=>none
def sO (op:BinOp) (x y:ByteArray):Option Value:=
 match op with
 |.add=>if((x.size+y.size:Nat):Int)>IntKind.i64.max then none else some (.string (x++y))
 |.eql=>some (.bool (x.data.toList==y.data.toList))
 |.neq=>some (.bool !(x.data.toList==y.data.toList))
 |.lss=>some (.bool (Op.bytesLess x.data.toList y.data.toList))
 |.leq=>some (.bool (Op.bytesLess x.data.toList y.data.toList||x.data.toList==y.data.toList))
 |.gtr=>some (.bool !(Op.bytesLess x.data.toList y.data.toList||x.data.toList==y.data.toList))
 |.geq=>some (.bool !(Op.bytesLess x.data.toList y.data.toList))
 |_=>none
def p6:BinOp→Bool
 |.shl|.shr=>true
 |_=>false
def dy (op:BinOp):AV→AV→Option AV
 |.v (.int k a),.v (.int k' b)=>
  if p6 op then(tY op k a b).map .v else if k=k' then(sB op k a b).map .v else none
 |.v (.string a),.v (.string b)=>(sO op a b).map .v
 |_,_=>none
def NU:PK→AV→AV→Option Bool
 |.int,.v (.int k a),.v (.int k' b)=>if k=k' then some (a==b)else none
 |.bool,.v (.bool a),.v (.bool b)=>some (a==b)
 |.str,.v (.string a),.v (.string b)=>some (a.data.toList==b.data.toList)
 |_,_,_=>none
def Fl:List PK→List AV→List AV→Option Bool
 |[],[],[]=>some true
 |k::ks,x::r,y::s=>match NU k x y with
  |some true=>Fl ks r s
  |some false=>some false
  |none=>none
 |_,_,_=>none
def P8:AV→Option Bool
 |.slice .aA _ _=>some true
 |.slice _ _ _=>some false
 |.aO .. =>some false
 |_=>none
def P7:AV→Option Bool
 |.v (.pointer none)=>some true
 |.ptr .. =>some false
 |.bq .. =>some false
 |_=>none
def P6:AV→Option Bool
 |.v .nilIface=>some true
 |.iface .. =>some false
 |.zB=>some false
 |_=>none
def P5:AV→Option Bool
 |.v .nilFunc=>some true
 |.fn .. =>some false
 |.yield .. =>some false
 |_=>none
def yA (f:AV→Option Bool) (x y:AV):Option Bool:=
 match f x,f y with
 |some true,some b=>some b
 |some b,some true=>some b
 |_,_=>none
def oK (k:Hj) (x y:AV):Option Bool:=
 match k with
 |.bool=>match x,y with
  |.v (.bool a),.v (.bool b)=>some (a==b)
  |_,_=>none
 |.agg ks=>match x,y with
  |.agg a,.agg b=>Fl ks a b
  |_,_=>none
 |.ptr=>yA P7 x y
 |.iface=>yA P6 x y
 |.slice=>yA P8 x y
 |.func=>yA P5 x y
def unOp (op:UnOp):AV→Option AV
 |.v (.bool b)=>match op with|.not=>some (.v (.bool !b))|_=>none
 |.v (.int k n)=>match op with|.neg=>some (.v (.int k (k.wrap (0-n))))|_=>none
 |_=>none
def byteCells (s:ByteArray):List (List AV):=s.data.toList.map fun b=>[.v (.int .u8 b.toNat)]
def byteOf:List AV→Option UInt8
 |[.v (.int .u8 n)]=>if 0≤n∧n<256 then some (UInt8.ofNat n.toNat)else none
 |_=>none
def bytesOf:List (List AV)→Option (List UInt8)
 |[]=>some []
 |x::r=>match byteOf x,bytesOf r with
  |some b,some s=>some (b::s)
  |_,_=>none
def mr (k:Hi):AV→Option AV
 |.v (.int _ n)=>match k with|.int k'=>some (.v (.int k' (k'.wrap n)))|_=>none
 |.v (.string s)=>match k with
  |.same=>some (.v (.string s))
  |.bytes=>some (.slice .any 1 (byteCells s))
  |_=>none
 |.slice _ _ xs=>match k with
  |.text=>(bytesOf xs).map fun l=>.v (.string ⟨l.toArray⟩)
  |_=>none
 |_=>none
def asNat (x:AV) (most:Nat):Option Nat:=
 match x with
 |.v (.int _ n)=>if 0≤n∧n≤most then some n.toNat else none
 |_=>none
def chunks (es:Nat):Nat→List AV→List (List AV)
 |0,_=>[]
 |n+1,cs=>cs.take es::chunks es n (cs.drop es)
def G6 (o:Own) (whole:Bool):Own:=
 match o with
 |.aA=>.aA
 |.tok d g=>if whole then .tok d g else .any
 |.full=>.any
 |_=>.any
def kf (lo:Option AV) (h:Nat):Option Nat:=
 match lo with
 |some l=>asNat l h
 |none=>some 0
def lj (hi:Option AV) (full:Bool) (m len:Nat):Option Nat:=
 match hi with
 |some h=>asNat h m
 |none=>if full then none else some len
def qX (mx:Option AV) (cap:Nat):Option Nat:=
 match mx with
 |some m=>asNat m cap
 |none=>some cap
def xD (o:Own) (full whole all:Bool):Own:=
 if full then(if o.isNil then .aA else if all then .full else .any)else G6 o whole
def iH (k : Cv) (x : AV) (lo hi mx : Option AV) : Option AV :=
 match k,x with
 |.str,.v (.string s)=>
  if mx.isSome then none else
  (lj hi false s.size s.size).bind fun h=>(kf lo h).map fun l=>.v (.string (s.extract l h))
 | .sl e0, .slice o es xs =>
  if o.isNil=true∨es=e0 then
   (qX mx xs.length).bind fun m=>(lj hi mx.isSome m xs.length).bind fun h=>(kf lo h).map fun l=>
    .slice (xD o mx.isSome (l==0&&h==xs.length) (h==m&&0<m)) es ((xs.take h).drop l)
  else none
 | .sl e0, .aO d b off es n cap =>
  if es=e0 then
   (qX mx (max n cap)).bind fun m=>(lj hi mx.isSome m n).bind fun h=>(kf lo h).map fun l=>
    .aO d b (if m=l then off else off+l*es) es (h-l) (m-l)
  else none
 |.arr n es,.ptr d b off=>
  if mx.isSome then none else
  (lj hi false n n).bind fun h=>(kf lo h).map fun l=>.aO d b (if n=l then off else off+l*es) es (h-l) (n-l)
 | .arr n es, .bq cs off =>
  if mx.isSome then none else
  (lj hi false n n).bind fun h=>(kf lo h).bind fun l=>
   if off+n*es≤cs.length then some (.slice .any es (chunks es (h-l) (cs.drop (off+l*es))))else none
 |_,_=>none
def idx (x:AV) (len:Nat):Option Nat:=
 match x with
 |.v (.int _ n)=>if 0≤n∧n<len then some n.toNat else none
 |_=>none
def kG (arr:Option Nat) (es:Nat) (x i:AV):Option AV:=
 match arr,x with
 |none,.slice _ e1 xs=>if e1=es then(idx i xs.length).bind fun j=>(xs[j]?).map fun r=>.bq r 0 else none
 |none,.aO d b off e1 n _=>if e1=es then(idx i n).map fun j=>.ptr d b (off+j*es)else none
 |some n,.ptr d b off=>(idx i n).map fun j=>.ptr d b (off+j*es)
 |some n,.bq cs off=>(idx i n).map fun j=>.bq cs (off+j*es)
 |_,_=>none
def AU (cs:List AV) (off size:Nat) (x:AV):Option (List AV):=
 if x.cells.length=size∧off+size≤cs.length∧x.cells.all AV.bt=true then some (setCells cs off x.cells)else none
def BK (mx:Bool):AV→AV→Option AV
 |.v (.int k x),.v (.int k' y)=>if k=k' then some (.v (.int k (if mx then(if y>x then y else x)else(if y<x then y else x))))else none
 |_,_=>none
def xt (mx:Bool) (x:AV):List AV→Option AV
 |[]=>some x
 |y::r=>match BK mx x y with
  |some z=>xt mx z r
  |none=>none
def most:Nat:=4294967296
def eD (m:ae) (es:Nat) (x y:AV):Option (AV×ae):=
 match x,y with
 | .slice o e1 xs, .slice _ e2 ys =>
  if ys.isEmpty then some (x,m)else
  if e2=es∧(o.isNil=true∨e1=es)∧xs.length+ys.length≤most then
   match o with
   |.aA|.full=>some (.slice (.tok m.cur (m.jI m.cur)) es (xs++ys),m.kT m.cur (xs.length+ys.length))
   |.tok d g=>if m.ro≤d∧m.tok d g=some xs.length then some (.slice (.tok d g) es (xs++ys),m.mf d g (some (xs.length+ys.length)))else none
   |_=>none
  else none
 |_,_=>none
def ae.K2 (m:ae) (b:Nat) (cs:List AV):ae:=(m.bp m.cur fun r=>{r with boxes:=r.boxes.set b []++[cs],toks:=r.toks++[none]})
def v8 (m : ae) (es : Nat) (x y : AV) : Option (AV × ae) :=
 match y with
 | .slice _ e2 ys =>
  if ys.isEmpty then(match x with|.slice .. |.aO .. =>some (x,m)|_=>none)else
  if e2 = es then
   match x with
   | .slice o e1 xs =>
    if(o.isNil=true∨(o.isFull=true∧e1=es))∧xs.length+ys.length≤most then
     some (.aO m.cur (m.bL m.cur) 0 es (xs.length+ys.length) 0,(m.dz (xs.flatten++ys.flatten)).2)
    else none
   | .aO d b off e1 n cap =>
    if d=m.cur∧off=0∧cap=0∧0<n∧e1=es∧n+ys.length≤most then
     match m.box d b with
     |some cs=>if cs.length=n*es then some (.aO m.cur (m.bL m.cur) 0 es (n+ys.length) 0,m.K2 b (cs++ys.flatten))else none
     |none=>none
    else none
   |_=>none
  else none
 |_=>none
def x6 (m:ae) (es:Nat) (x y:AV):Option (AV×ae):=
 match x,y with
 |.slice o e1 xs,.slice _ e2 ys=>
  if(xs.flatten++ys.flatten).isEmpty=true∧ys.isEmpty=false then none
  else if xs=[]∧o.isFull=true∧e1=es∧e2=es∧most<ys.length∧ys.length*(8*es)≤140737488355328 then some (.aO m.cur (m.bL m.cur) 0 es ys.length 0,(m.dz ys.flatten).2)
  else v8 m es x y
 |_,_=>none
def ae.sJ (m:ae) (d b:Nat) (cs:List AV):ae:=m.bp d fun r=>{r with boxes:=r.boxes.set b []++[cs],toks:=r.toks++[none]}
def ae.zJ (m:ae) (es:Nat):AV→Option (List AV×Nat)
 |.slice _ e2 ys=>if ys.isEmpty=true∨e2=es then some (ys.flatten,ys.length)else none
 |.aO d b off e2 n _=>if d=m.cur∧e2=es then(m.box d b).bind fun cs=>if off+n*es≤cs.length then some ((cs.drop off).take (n*es),n)else none else none
 |_=>none
def qk (m : ae) (es : Nat) (x y h : AV) : Option (AV × ae) :=
 match h with
 | .ptr d _ _ =>
  (m.zJ es y).bind fun p=>
  if p.2=0 then(match x with|.slice .. |.aO .. =>some (x,m)|_=>none)else
  if m.ro ≤ d ∧ d ≤ m.cur ∧ (d = m.cur ∨ p.1.all AV.iG = true) then
   match x with
   | .slice o e1 xs =>
    if xs.isEmpty=true∧(o.isNil=true∨(o.isFull=true∧e1=es))∧p.2≤most then
     some (.aO d (m.bL d) 0 es p.2 0,m.jj d p.1)
    else none
   | .aO d1 b off e1 n cap =>
    if d1=d∧off=0∧cap=0∧0<n∧e1=es∧n+p.2≤most then
     match m.box d b with
     |some cs=>if cs.length=n*es then some (.aO d (m.bL d) 0 es (n+p.2) 0,m.sJ d b (cs++p.1))else none
     |none=>none
    else none
   |_=>none
  else none
 |_=>none
def rf (m:ae) (es:Nat) (y:AV):Option (AV×ae):=
 if y.cells.length=es∧y.cells.all AV.bt=true∧0<es then some (.aO m.cur (m.bL m.cur) 0 es 1 1,(m.dz y.cells).2)else none
def wB (m:ae) (zs:List AV):AV→Option (AV×ae)
 |.slice _ _ xs=>if xs.isEmpty then some (.tuple [],m)else none
 |.aO d b off es n _=>if n=0 then some (.tuple [],m)else if es=zs.length then(m.store (n*es) (.ptr d b off) (.agg (List.replicate n zs).flatten)).map (.tuple [],·)else none
 |_=>none
def mo (rows:List (List AV)) (ρ:aF→AV):List (Nat×aF)→Option (List (List AV))
 |[]=>some rows
 |(i,x)::r=>match rows[i]?,closeAll (ρ x).cells with
  |some row,some cs=>if cs.length=row.length then mo (rows.set i cs) ρ r else none
  |_,_=>none
def ae.G8 (m:ae):AV→Option (List AV)
 |.slice _ e xs=>if e=1∨xs.isEmpty=true then some xs.flatten else none
 |.aO d b off e n _=>if e=1 then(m.box d b).bind fun cs=>if off+n≤cs.length then some ((cs.drop off).take n)else none else none
 |_=>none
def AK (m:ae) (x y:AV):Option (AV×ae):=
 match x with
 |.slice _ _ []=>(m.G8 y).map fun _=>(AV.int 0,m)
 | .aO d b off e n _ => if e = 1 then (m.G8 y).bind fun ys =>
   if(ys.take n).isEmpty then some (AV.int 0,m)else(m.store (ys.take n).length (.ptr d b off) (.agg (ys.take n))).map (AV.int (ys.take n).length,·)else none
 |_=>none
def ae.kill (m:ae) (b:Nat):ae:=m.bp m.cur fun r=>{r with boxes:=r.boxes.set b [],toks:=r.toks++[none]}
def AY (m:ae):AV→Option (AV×ae)
 |.aO d b off es n _=>if d=m.cur then(m.box d b).bind fun cs=>if cs.isEmpty=true then none else if off+n*es≤cs.length then(closeAll cs).map fun cs'=>(.slice .any es (chunks es n (cs'.drop off)),m.kill b)else none else none
 |.slice o es xs=>some (.slice o es xs,m)
 |_=>none
def yj (m:ae) (es:Nat) (row:List AV) (x:AV):Option (AV×ae):=
 (AY m x).bind fun p=>(mo [row] (fun _=>p.1) [(0,.const AV.undef)]).map fun rs=>(.slice .full es rs,p.2)
def qt (ρ:aF→AV):Option aF→Option AV
 |none=>none
 |some x=>some (ρ x)
def dF (call:aZ) (ro:Bool) (m:ae) (t:Target) (args:List AV):Option (AV×ae):=
 if ro then(call t args {m with ro:=m.ag.length,bo:=m.loops.length}).map fun p=>(p.1,m)
 else call t args m
open Classical in
noncomputable def oF (call:aZ) (m:ae) (t:Target) (args:List AV) (ws:List (Bool×Nat×AV)):Option (AV×ae):=
 match call t args m with
 |some (v,m')=>if∀q,q∈ws→m'.load q.1 q.2.1 q.2.2=m.load q.1 q.2.1 q.2.2 then some (v,m')else none
 |none=>none
def nb (cs:List AV) (ρ:aF→AV):List (Nat×Nat×aF)→Option (List AV)
 |[]=>some cs
 |(off,size,x)::r=>match AU cs off size (ρ x)with
  |some cs'=>nb cs' ρ r
  |none=>none
def BU (off:Nat):AV→Option AV
 |.ptr d b o=>some (.ptr d b (o+off))
 |.bq cs o=>some (.bq cs (o+off))
 |_=>none
def zz:AV→Option AV
 |.ptr d b off=>some (.ptr d b off)
 |.bq cs off=>some (.bq cs off)
 |.fn f a b=>some (.fn f a b)
 |.yield l=>some (.yield l)
 |.iface t x=>some (.iface t x)
 |_=>none
def BA:AV→AV→Option AV
 |.v (.string s),j=>(idx j s.size).bind fun k=>(s[k]?).map fun b=>.v (.int .u8 b.toNat)
 |_,_=>none
def Gx (n es:Nat) (agg:Bool):AV→AV→Option AV
 |.agg cs,j=>(idx j n).bind fun k=>part agg es cs (k*es)
 |_,_=>none
def Fq (agg:Bool) (n off:Nat):AV→Option AV
 |.agg cs=>part agg n cs off
 |_=>none
def yB (i:Nat):AV→Option AV
 |.tuple vs=>vs[i]?
 |_=>none
def mN (str:Bool):AV→Option AV
 |.slice _ _ xs=>if str then none else some (AV.int xs.length)
 |.aO _ _ _ _ n _=>if str then none else some (AV.int n)
 |.v (.string s)=>if str then some (AV.int s.size)else none
 |_=>none
def GO (c a b:AV):Option AV:=
 match c with
 |.v (.bool t)=>some (if t then a else b)
 |_=>none
def Kq (t:TypeId) (x:AV):Option AV:=
 match x with
 |.agg cs=>(closeAll cs).map fun cs'=>.iface t (.agg cs')
 |x=>if x.iG then some (.iface t x)else none
def yh (m:ae) (n:Nat) (y:AV):Option (AV×ae):=
 if y.cells.length=n∧y.cells.all AV.bt=true∧0<n then some (m.dz y.cells)else none
def BN (m:ae) (es:Nat) (zs:List AV) (l c:AV):Option (AV×ae):=
 (asNat c most).bind fun cn=>(asNat l cn).map fun ln=>if(List.replicate cn zs).flatten.isEmpty then(.slice .full es [],m)else(.aO m.cur (m.bL m.cur) 0 es ln cn,(m.dz (List.replicate cn zs).flatten).2)
def GJ (m:ae) (es:Nat) (zs:List AV) (l c:AV):Option (AV×ae):=
 (asNat c most).bind fun cn=>(asNat l cn).bind fun ln=>if(List.replicate cn zs).flatten.isEmpty=true∨ln≠cn then none else some (.aO m.cur (m.bL m.cur) 0 es cn 0,(m.dz (List.replicate cn zs).flatten).2)
def ae.lG (m:ae) (n:Nat):ae:=m.bp m.cur fun r=>{r with boxes:=r.boxes++List.replicate n []}
def mg (m:ae) (back:Nat) (zs:List AV):Option (AV×ae):=
 match m.box m.cur (m.bL m.cur-back)with
 |some []=>if zs.isEmpty=true∨m.lB m.cur=true then none else some (.ptr m.cur (m.bL m.cur-back) 0,m.dA m.cur (m.bL m.cur-back) zs)
 |_=>none
def xq (m:ae) (res:Nat) (agg:Bool) (n:Nat) (x:AV):Option AV:=
 match x with
 |.ptr d b off=>if d=m.cur∧m.bL m.cur≤b+res then none else m.load agg n (.ptr d b off)
 |x=>m.load agg n x
def ae.yx (m:ae) (b:Nat):Bool:=match m.ag[m.cur]? with|some r=>(r.boxes.drop (b+1)).any List.isEmpty|none=>false
def zr (m:ae) (agg:Bool) (n:Nat) (x:AV):Option AV:=
 match x with
 |.ptr d b off=>if d=m.cur∧m.yx b=false then none else m.load agg n (.ptr d b off)
 |x=>m.load agg n x
def yD (m:ae) (back n:Nat) (x y:AV):Option ae:=
 match x with
 |.ptr d b off=>if d=m.cur∧b=m.bL m.cur-back∧0<back then m.store n (.ptr d b off) y else none
 |_=>none
def sF (mx:Bool):List AV→Option AV
 |x::r=>xt mx x r
 |[]=>none
def lL (call:aZ) (ro:Bool) (m:ae) (x:AV) (args:List AV):Option (AV×ae):=
 match x with
 |.fn f first caps=>dF call ro m (.fn f) (first++args++caps)
 |.yield l=>dF call ro m (.yield l) args
 |_=>none
def l4 (m:ae):List AV→Option (List AV)
 |[]=>some []
 | .ptr d b off :: r => if d = m.cur then
   match(m.box d b).bind closeAll,l4 m r with
   |some cs,some s=>some (.bq cs off::s)
   |_,_=>none
  else none
 |x::r=>if x.iG then(l4 m r).map (x::·)else none
def nU (m:ae):AV→Option AV
 |.aO d b off es n _=>if d=m.cur then(m.box d b).bind fun cs=>if off+n*es≤cs.length then(closeAll cs).map fun cs'=>.slice .any es (chunks es n (cs'.drop off))else none else none
 |x=>x.close
def jN (m:ae):List AV→Option (List AV)
 |[]=>some []
 |x::r=>match nU m x,jN m r with
  |some y,some s=>some (y::s)
  |_,_=>none
def ez (m:ae):AV→Option AV
 |.slice (.tok _ _) es xs=>some (.slice .any es xs)
 |.ptr d b off=>if d=m.cur then(m.box d b).bind fun cs=>(closeAll cs).map fun cs'=>.bq cs' off else some (.ptr d b off)
 |.aO d b off es n cap=>if d=m.cur then(m.box d b).bind fun cs=>if off+n*es≤cs.length then((closeAll cs).or (jN m cs)).map fun cs'=>.slice .any es (chunks es n (cs'.drop off))else none else some (.aO d b off es n cap)
 |.fn f first caps=>if first.all AV.vm then(l4 m caps).map (.fn f first ·)else none
 |x=>x.close
def pk (m:ae):List AV→Option (List AV)
 |[]=>some []
 |x::r=>match ez m x,pk m r with
  |some y,some s=>some (y::s)
  |_,_=>none
def ed (m:ae):AV→Option AV
 |.agg cs=>(pk m cs).map .agg
 |x=>ez m x
def kg (m:ae):AV→Option (AV×ae)
 | .slice (.tok d g) es xs =>
  if d=m.cur∧1≤d∧m.ro<d∧m.tok d g=some xs.length then
   some (.slice (.tok (d-1) (m.jI (d-1))) es xs,m.pop.kT (d-1) xs.length)
  else some (.slice .any es xs,m.pop)
 | .aO d b off es n cap =>
  if d=m.cur∧1≤d∧m.ro<d∧off=0∧cap=0∧0<n then
   (m.box d b).bind fun cs=>if cs.isEmpty=false∧cs.length=n*es then(closeAll cs).map fun cs'=>(.aO (d-1) (m.bL (d-1)) 0 es n 0,m.pop.jj (d-1) cs')else none
  else(ed m (.aO d b off es n cap)).map (·,m.pop)
 |x=>(ed m x).map (·,m.pop)
def ng (call:aZ) (m:ae) (f:FuncId) (args:List AV):Option (AV×ae):=
 match call (.fn f) args {m.push ⟨[],[]⟩with ro:=m.ag.length,bo:=m.loops.length}with
 |some (.slice (.tok d g) es xs,s)=>
  if d=m.ag.length∧1≤m.ag.length∧m.ro<m.ag.length∧s.tok d g=some xs.length then some (.slice (.tok m.cur (m.jI m.cur)) es xs,m.kT m.cur xs.length)
  else some (.slice .any es xs,m)
 |some (.aO ..,_)=>none
 |some (x,s)=>(ed s x).map (·,m)
 |none=>none
def lK (call:aZ) (m:ae) (f:FuncId) (args:List AV):Option (AV×ae):=
 match call (.fn f) args {m.push ⟨[],[]⟩with ro:=m.ag.length,bo:=m.loops.length}with
 | some (.aO d b off es n cap, s) =>
  if d=m.ag.length∧1≤m.ag.length∧m.ro<m.ag.length∧off=0∧cap=0∧0<n then
   (s.box d b).bind fun cs=>if cs.isEmpty=false∧cs.length=n*es then(closeAll cs).map fun cs'=>(.aO m.cur (m.bL m.cur) 0 es n 0,(m.dz cs').2)else none
  else(ed s (.aO d b off es n cap)).map (·,m)
 |some (.slice (.tok _ _) _ _,_)=>none
 |some (x,s)=>(ed s x).map (·,m)
 |none=>none
def ae.tail (m:ae) (r:Nat):List (List AV):=match m.ag[m.cur]? with
 |some q=>q.boxes.drop (q.boxes.length-r)
 |none=>[]
def ae.iZ (m:ae) (r:Nat) (bx:List (List AV)):ae:=m.bp m.cur fun q=>{q with boxes:=q.boxes.take (q.boxes.length-r)++bx}
def qu:List (List AV)→List (List (List AV))
 |[]=>[[]]
 |z::r=>(qu r).map ([]::·)++(qu r).map (z::·)
open Classical in
noncomputable def nh (call:aZ) (ro:Bool) (m:ae) (zss:List (List AV)) (t:Target) (args:List AV):Option (AV×ae):=
 match dF call ro m t args with
 |some (v,m')=>if m.tail zss.length∈qu zss∧(∀bx,bx∈qu zss→dF call ro (m.iZ zss.length bx) t args=some (v,m'.iZ zss.length bx))∧m'.ag.length=m.ag.length∧m'.bL m.cur=m.bL m.cur∧m'.tail zss.length=m.tail zss.length∧(ro=true→m'=m)∧(m'.lB m.cur=false→m.lB m.cur=false)then some (v,m')else none
 |none=>none
noncomputable def aN (call:aZ) (ρ:aF→AV) (m:ae):bX→Option (AV×ae)
 |.move x=>some (ρ x,m)
 |.pick c a b=>(GO (ρ c) (ρ a) (ρ b)).map (·,m)
 |.alloc zs=>if zs.isEmpty then none else some (m.dz zs)
 |.box n x=>yh m n (ρ x)
 |.build zs parts=>(nb zs ρ parts).map fun cs=>(.agg cs,m)
 |.buildSlice es rows parts=>(mo rows ρ parts).map fun rs=>(.slice .full es rs,m)
 |.load agg n x=>(m.load agg n (ρ x)).map (·,m)
 |.store n x y=>(m.store n (ρ x) (ρ y)).map (AV.undef,·)
 |.nilCheck x=>(zz (ρ x)).map (·,m)
 |.arith op x y=>(dy op (ρ x) (ρ y)).map (·,m)
 |.eqv neg k x y=>(oK k (ρ x) (ρ y)).map fun t=>(.v (.bool (if neg then !t else t)),m)
 |.un op x=>(unOp op (ρ x)).map (·,m)
 |.conv k x=>(mr k (ρ x)).map (·,m)
 |.KE t x=>(Kq t (ρ x)).map (·,m)
 |.om f first caps=>if(first.map ρ).all AV.vm then some (.fn f (first.map ρ) (caps.map ρ),m)else none
 |.mkSlice es zs len cap=>BN m es zs (ρ len) (ρ cap)
 |.BO es zs len cap=>GJ m es zs (ρ len) (ρ cap)
 |.slice k x lo hi mx=>(iH k (ρ x) (qt ρ lo) (qt ρ hi) (qt ρ mx)).map (·,m)
 |.fieldAddr off x=>(BU off (ρ x)).map (·,m)
 |.indexAddr arr es x i=>(kG arr es (ρ x) (ρ i)).map (·,m)
 |.Gy x i=>(BA (ρ x) (ρ i)).map (·,m)
 |.index n es agg x i=>(Gx n es agg (ρ x) (ρ i)).map (·,m)
 |.field agg n off x=>(Fq agg n off (ρ x)).map (·,m)
 |.extract i x=>(yB i (ρ x)).map (·,m)
 |.call ro f args=>dF call ro m (.fn f) (args.map ρ)
 |.jZ ro x args=>lL call ro m (ρ x) (args.map ρ)
 |.th f args=>ng call m f (args.map ρ)
 |.wy f args=>dF call false m (.inl f) (args.map ρ)
 |.wz f args=>dF call true m (.nat f) (args.map ρ)
 |.rK ro zss f args=>nh call ro m zss (.fn f) (args.map ρ)
 |.append es x y=>eD m es (ρ x) (ρ y)
 |.v7 es x y=>v8 m es (ρ x) (ρ y)
 |.vZ es x y=>x6 m es (ρ x) (ρ y)
 |.rC es x y h=>qk m es (ρ x) (ρ y) (ρ h)
 |.sM es x=>rf m es (ρ x)
 |.clear zs x=>wB m zs (ρ x)
 |.tf f args=>lK call m f (args.map ρ)
 |.qn f args ws=>oF call m (.fn f) (args.map ρ) (ws.map fun q=>(q.1,q.2.1,ρ (.tmp q.2.2)))
 |.copy x y=>AK m (ρ x) (ρ y)
 |.yi es row t=>yj m es row (ρ (.tmp t))
 |.len str x=>(mN str (ρ x)).map (·,m)
 |.BG n=>some (AV.int n,m)
 |.GI mx xs=>(sF mx (xs.map ρ)).map (·,m)
 |.lG n=>some (AV.undef,m.lG n)
 |.slot back zs=>mg m back zs
 |.fS res agg n x=>(xq m res agg n (ρ x)).map (·,m)
 |.jH agg n x=>(zr m agg n (ρ x)).map (·,m)
 |.fill back n x y=>(yD m back n (ρ x) (ρ y)).map (AV.undef,·)
def aE (ρ:Nat→AV):aF→AV
 |.tmp t=>ρ t
 |.const c=>c
def put (t:Nat) (x:AV) (ρ:Nat→AV):Nat→AV:=fun u=>if u=t then x else ρ u
def ki (ρ:Nat→AV) (dst:Option Nat) (x:AV):Nat→AV:=
 match dst with
 |some t=>put t x ρ
 |none=>ρ
def Cd (b:Bool):AV→Bool
 |.v (.bool c)=>c==b
 |_=>false
def kj (ρ:Nat→AV):Option (Nat×Bool)→Bool
 |none=>true
 |some (t,b)=>Cd b (ρ t)
noncomputable def ops (call:aZ):List bz→St→Option St
 |[],st=>some st
 | o :: rest, st =>
  if kj st.tmps o.guard then
   match aN call (aE st.tmps) st.sig o.op with
   |some (x,m)=>ops call rest ⟨ki st.tmps o.dst x,m⟩
   |none=>none
  else ops call rest ⟨ki st.tmps o.dst AV.undef,st.sig⟩
def lA (f:St→Option (cV×St)):Nat→St→Option (cV×St)
 |0,_=>none
 |n+1,st=>match f st with
  |some (.normal,aQ)=>lA f n aQ
  |r=>r
def tX (ρ:Nat→AV):List Nat→List AV→Nat→AV
 |p::ps,x::xs=>tX (put p x ρ) ps xs
 |_,_=>ρ
def jy:List AV→Nat→AV
 |[],_=>AV.undef
 |x::_,0=>x
 |_::r,n+1=>jy r n
def enterLoop (s:ae) (l:dx):ae:={s with loops:=s.loops++[l]}
def xo (s:ae) (l:Nat):Option (Option cV×ae):=
 if s.loops.length=l+1 then
  match s.loops[l]? with
  |some lp=>if lp.ready∨lp.eF.isSome then some (lp.eF,{s with loops:=s.loops.take l})else none
  |none=>none
 else none
noncomputable def exec (call:aZ) (lf:Nat):au→St→Option (cV×St)
 |.skip,st=>some (.normal,st)
 |.region _ l,st=>(ops call l st).map (cV.normal,·)
 |.seq a b,st=>match exec call lf a st with
  |some (.normal,aQ)=>exec call lf b aQ
  |r=>r
 |.cond c a b,st=>match aE st.tmps c with
  |.v (.bool t)=>if t then exec call lf a st else exec call lf b st
  |_=>none
 |.block id a,st=>match exec call lf a st with
  |some (.exit j,aQ)=>if j=id then some (.normal,aQ)else some (.exit j,aQ)
  |r=>r
 |.loop a,st=>lA (exec call lf a) lf st
 | .rangeFunc f ps as body, st =>
  match aE st.tmps f with
  | .fn g first caps =>
   match call (.fn g) (first++.yield st.sig.loops.length::caps) (enterLoop st.sig ⟨true,none,st.tmps,ps,as,body⟩)with
   |some (_,s)=>match xo s st.sig.loops.length with
    |some (e,s1)=>some (e.getD .normal,⟨st.tmps,s1⟩)
    |none=>none
   |none=>none
  |_=>none
 |.exit id,st=>some (.exit id,st)
 |.ret,st=>some (.ret,st)
def sK (st:St):il→Option AV
 |.tmp t=>some (st.tmps t)
 |.cell agg n t=>st.sig.load agg n (st.tmps t)
def sL (st:St):List il→Option (List AV)
 |[]=>some []
 |r::rest=>match(sK st r).bind (ed st.sig),sL st rest with
  |some x,some s=>some (x::s)
  |_,_=>none
def tU (st:St):List il→Option (List AV)
 |[]=>some []
 |r::rest=>match sK st r,tU st rest with
  |some x,some s=>some (x::s)
  |_,_=>none
def packed:List AV→AV
 |[x]=>x
 |l=>.tuple l
def et (s:ae) (l:Nat) (f:dx→dx):ae:={s with loops:=s.loops.modify l f}
def BJ (s:ae) (l:Nat):Bool:=match s.loops[l]? with|some p=>p.ready|none=>false
def finish (rs:List il) (own:Bool) (st:St):Option (AV×ae):=
 if own then
  match rs with
  |[r]=>(sK st r).bind (kg st.sig)
  |_=>none
 else(sL st rs).map fun l=>(packed l,st.sig.pop)
noncomputable def iO (AP:FuncId→Option aJ) (call:aZ) (lf:Nat):aZ:=fun t args s=>
 match t with
 | .fn f => match AP f with
  | some (.code np _ body rs own) =>
   if args.length=np then
    match exec call lf body ⟨jy args,s.push ⟨[],[]⟩⟩with
    |some (.normal,st)|some (.ret,st)=>finish rs own st
    |_=>none
   else none
  |some (.re F)=>(closeAll args).bind fun as=>(F as).map (·,s)
  |_=>none
 | .inl f => match AP f with
  | some (.code np _ body rs _) =>
   if args.length=np∧s.ro<s.ag.length then
    match exec call lf body ⟨jy args,s⟩with
    |some (.normal,st)|some (.ret,st)=>(tU st rs).map fun l=>(packed l,st.sig)
    |_=>none
   else none
  |_=>none
 |.nat f=>match AP f with
  |some (.nat F)=>(closeAll args).bind fun as=>(F as).map (·,s)
  |_=>none
 | .yield l => match s.loops[l]? with
  | some lp =>
   if lp.ready = true ∧ s.bo ≤ l ∧ args.length = lp.params.length then
    match exec call lf lp.assign ⟨tX lp.tmps lp.params args,s.push ⟨[],[]⟩⟩with
    | some (.normal, st) =>
     if BJ st.sig l=true then
      match exec call lf lp.body ⟨st.tmps,et st.sig l fun p=>{p with ready:=false}⟩with
      |some (.normal,aQ)=>some (AV.bool true,(et aQ.sig l fun p=>{p with ready:=true,eF:=none}).pop)
      |some (e,aQ)=>some (AV.bool false,(et aQ.sig l fun p=>{p with ready:=false,eF:=some e}).pop)
      |none=>none
     else none
    |_=>none
   else none
  |none=>none
noncomputable def eT (AP:FuncId→Option aJ):Nat→aZ
 |0=>fun _ _ _=>none
 |n+1=>iO AP (eT AP n) n
end Go.Ax
/-
  From the model's code to the abstract executor's: 'comp'. Plain definitions; nothing is claimed here.
-/
namespace Go.Ax
def fu {α β:Type} (f:α→Option β):List α→Option (List β)
 |[]=>some []
 |x::r=>match f x,fu f r with
  |some y,some s=>some (y::s)
  |_,_=>none
def tN:Value→Option AV
 |.bool b=>some (.v (.bool b))
 |.int k n=>some (.v (.int k n))
 |.string s=>some (.v (.string s))
 |.pointer none=>some (.v (.pointer none))
 |.slice none 0 0=>some (.slice .aA 0 [])
 |.func (.func f) first caps=>if first.size=0∧caps.size=0 then some (.fn f [] [])else none
 |.nilFunc=>some (.v .nilFunc)
 |.nilIface=>some (.v .nilIface)
 |_=>none
def ofValue:Value→Option AV
 |.agg cs=>(fu tN cs.toList).map .agg
 |x=>tN x
def dt:Operand→Option aF
 |.tmp t=>some (.tmp t)
 |.const x=>(ofValue x).map .const
 |.func f=>some (.const (.fn f [] []))
 |.global _=>none
def AH:Option Operand→Option (Option aF)
 |none=>some none
 |some x=>(dt x).map some
def cK (P:Program) (t:TypeId):Option Nat:=(P.info? t).map (·.size)
def yk (P:Program) (t:TypeId):Option Nat:=(P.info? t).map (·.bytes)
def bV (P:Program) (t:TypeId):Option (List AV):=((P.info? t).bind (·.zero)).bind fun z=>fu tN z.cells.toList
def tM (P:Program) (t:TypeId):Option Bool:=(P.underlying t).map fun|.struct _|.array _ _=>true|_=>false
def zD (P:Program) (t:TypeId):Option PK:=
 match P.underlying t with
 |some (.int _)=>some .int
 |some .bool=>some .bool
 |some .string=>some .str
 |_=>none
def wD (P:Program) (place:Nat→Option (Nat×Nat)):List (Nat×Operand)→Option (List (Nat×Nat×aF))
 |[]=>some []
 |(i,x)::r=>match place i,dt x,wD P place r with
  |some (off,size),some y,some s=>some ((off,size,y)::s)
  |_,_,_=>none
def uH:List (Nat×Operand)→Option (List (Nat×aF))
 |[]=>some []
 |(i,x)::r=>match dt x,uH r with
  |some y,some s=>some ((i,y)::s)
  |_,_=>none
def GA:Operand→Bool
 |.const .nilIface=>true
 |_=>false
def Fm:BinOp→Option Bool
 |.eql=>some false
 |.neq=>some true
 |_=>none
def Fh (P:Program) (op:BinOp) (neg:Bool) (t:TypeId) (x y:Operand) (a b:aF):Option bX:=
 match P.underlying t with
 |some .bool=>some (.eqv neg .bool a b)
 |some (.int _)|some .string=>some (.arith op a b)
 |some (.struct fs)=>
  if P.stoodInHeld t=false∧P.eqGuardType P.depth t=false∧fs.toList.all (fun f=>f.name != "_")=true∧fs.toList.map (·.offset)=List.range fs.size
  then(fu (fun f:Field=>zD P f.type) fs.toList).map fun ks=>.eqv neg (.agg ks) a b else none
 |some (.pointer _)=>some (.eqv neg .ptr a b)
 |some (.interface _)=>if GA x||GA y then some (.eqv neg .iface a b)else none
 |some (.slice _)=>some (.eqv neg .slice a b)
 |some (.func _ _ _)=>some (.eqv neg .func a b)
 |_=>none
def NI (P:Program) (op:BinOp) (t:TypeId) (x y:Operand):Option bX:=
 match dt x,dt y with
 |some a,some b=>match Fm op with
  |some neg=>Fh P op neg t x y a b
  |none=>some (.arith op a b)
 |_,_=>none
def Fg (P:Program) (src dst:TypeId) (x:aF):Option bX:=
 match P.underlying src,P.underlying dst with
 |some (.int _),some (.int k)=>some (.conv (.int k) x)
 |some .string,some .string=>some (.conv .same x)
 |some .string,some (.slice e)=>match P.underlying e with
  |some (.int .u8)=>some (.conv .bytes x)
  |_=>none
 |some (.slice e),some .string=>match P.underlying e with
  |some (.int .u8)=>some (.conv .text x)
  |_=>none
 |_,_=>none
structure Mu where
 grow:Bool
 flat:List FuncId
 nat:List FuncId
 fresh:Bool:=false
 low:Bool:=false
 only:List Nat:=[]
 rows:Bool:=false
 boxed:List FuncId:=[]
 watch:List FuncId:=[]
 home:Option aF:=none
 ws:List (Bool×Nat×Nat):=[]
def AE (P : Program) (ro own : Bool) (mu : Mu) (fr : Option (List (List AV))) (c : Call) : Option bX :=
 match fu dt c.args.toList with
 |none=>none
 | some as =>
  match c.callee with
  |.value (.func f)=>some (if mu.nat.contains f then .wz f as else if mu.flat.contains f then .wy f as else if mu.boxed.contains f then .tf f as else if mu.watch.contains f then .qn f as mu.ws else if ro&&own then .th f as else match fr with|some zs=>.rK ro zs f as|none=>.call ro f as)
  |.value x=>(dt x).map fun y=>.jZ ro y as
  |.invoke _ _=>none
  | .builtin b =>
   match b,as,c.argTypes.toList with
   | .append, [x, y], [t, u] => match P.underlying t, P.underlying u with
    |some (.slice e),some (.slice _)=>match cK P e,yk P e,bV P e with
     |some s,some n,some z=>if 0<s∧0<n∧n≤4096∧z.length=s then some (match(if mu.rows then mu.home else none)with|some h=>.rC s x y h|none=>if mu.grow then(if mu.fresh&&decide (n≤8*s)then .vZ s x y else .v7 s x y)else .append s x y)else none
     |_,_,_=>none
    |_,_=>none
   |.len,[x],[t]=>match P.underlying t with
    |some (.slice _)=>some (.len false x)
    |some .string=>some (.len true x)
    |some (.array n _)=>some (.BG n)
    |_=>none
   | .copy, [x, y], [t, _] => match P.underlying t with
    |some (.slice e)=>match cK P e with
     |some 1=>some (.copy x y)
     |_=>none
    |_=>none
   | .clear, [x], [t] => match P.underlying t with
    |some (.slice e)=>match cK P e,bV P e with
     |some s,some z=>if 0<s∧z.length=s then some (.clear z x)else none
     |_,_=>none
    |_=>none
   |.max,_,_=>some (.GI true as)
   |.min,_,_=>some (.GI false as)
   |_,_,_=>none
def Zb (P:Program) (mu:Bool) (e:TypeId) (len:Nat):List (Nat×Operand)→Option Nat
 |[(i,.tmp t)]=>match P.underlying e with
  |some (.slice _)=>if mu=true∧len=1∧i=0 then some t else none
  |_=>none
 |_=>none
def Y9 (rows:Bool) (len:Nat):List (Nat×aF)→Option aF
 |[(i,x)]=>if rows=true∧len=1∧i=0 then some x else none
 |_=>none
structure Md where
 ro:Bool
 own:Bool
 slot:Option Nat
 res:Option Nat
 fill:Option Nat
 mu:Mu
 fr:Option (List (List AV))
def gH (P : Program) (md : Md) : Op → Option bX
 |.move x|.assign x=>(dt x).map .move
 |.pick c a b=>match dt c,dt a,dt b with
  |some c,some a,some b=>some (.pick c a b)
  |_,_,_=>none
 |.alloc e=>match md.slot with
  |none=>(bV P e).map .alloc
  |some b=>(bV P e).map (.slot b)
 |.box e x=>match cK P e,dt x with
  |some n,some y=>some (.box n y)
  |_,_=>none
 | .build t parts => match bV P t, P.underlying t with
  | some z, some (.struct fs) => if fs.toList.all (fun f => (cK P f.type).isSome) = true then (wD P (fun i => match fs[i]? with
    |some f=>(cK P f.type).map fun s=>(f.offset,s)
    |none=>none) parts.toList).map (.build z ·)else none
  |some z,some (.array _ e)=>match cK P e with
   |some s=>(wD P (fun i=>some (i*s,s)) parts.toList).map (.build z ·)
   |none=>none
  |_,_=>none
 | .buildSlice t len parts => match P.underlying t with
  |some (.slice e)=>match cK P e,bV P e,uH parts.toList with
   |some s,some z,some ps=>if len*s≤2^24∧z.length=s∧0<s then some (match Y9 md.mu.rows len ps with|some x=>.sM s x|none=>match Zb P md.mu.grow e len parts.toList with|some t=>.yi s z t|none=>.buildSlice s (List.replicate len z) ps)else none
   |_,_,_=>none
  |_=>none
 |.load t x=>match tM P t,cK P t,dt x with
  |some g,some n,some y=>some (match md.res with|none=>if md.mu.low then .jH g n y else .load g n y|some r=>.fS r g n y)
  |_,_,_=>none
 |.store t x y=>match cK P t,dt x,dt y with
  |some n,some a,some b=>some (match md.fill with|none=>.store n a b|some k=>.fill k n a b)
  |_,_,_=>none
 |.nilCheck x=>(dt x).map .nilCheck
 |.binOp op t x y _=>NI P op t x y
 |.unOp op _ x=>(dt x).map (.un op ·)
 |.convert src dst x=>(dt x).bind (Fg P src dst ·)
 |.makeInterface t x=>match P.underlying t with
  |some (.interface _)=>none
  |some _=>(dt x).map (.KE t ·)
  |none=>none
 |.makeFunc (.func f) first caps=>match fu dt first.toList,fu dt caps.toList with
  |some a,some b=>some (.om f a b)
  |_,_=>none
 | .makeSlice t l c => match P.underlying t with
  |some (.slice e)=>match cK P e,yk P e,bV P e,dt l,dt c with
   |some s,some n,some z,some a,some b=>if 0<s∧n≤4096∧z.length=s then some (if md.mu.grow&&!md.mu.only.isEmpty then .BO s z a b else .mkSlice s z a b)else none
   |_,_,_,_,_=>none
  |_=>none
 | .slice t x lo hi mx => match dt x, AH lo, AH hi, AH mx with
  |some a,some l,some h,some m=>match P.underlying t with
   |some .string=>some (.slice .str a l h m)
   |some (.slice e)=>(cK P e).map fun s=>.slice (.sl s) a l h m
   |some (.array n e)=>(cK P e).map fun s=>.slice (.arr n s) a l h m
   |_=>none
  |_,_,_,_=>none
 | .fieldAddr s x i => match P.underlying s, dt x with
  | some (.struct fs), some a => match fs[i]? with
   |some f=>match cK P f.type with
    |some n=>if 0<n then some (.fieldAddr f.offset a)else none
    |none=>none
   |none=>none
  |_,_=>none
 | .field t x i => match P.underlying t, dt x with
  | some (.struct fs), some a => match fs[i]? with
   |some f=>match tM P f.type,cK P f.type with
    |some g,some n=>some (.field g n f.offset a)
    |_,_=>none
   |none=>none
  |_,_=>none
 | .indexAddr t x i => match dt x, dt i with
  |some a,some j=>match P.underlying t with
   |some (.array n e)=>(cK P e).map fun s=>.indexAddr (some n) s a j
   |some (.slice e)=>(cK P e).map fun s=>.indexAddr none s a j
   |_=>none
  |_,_=>none
 | .index t x i => match dt x, dt i with
  | some a, some j => match P.underlying t with
   |some (.array n e)=>match tM P e,cK P e with
    |some g,some s=>some (.index n s g a j)
    |_,_=>none
   |some .string=>some (.Gy a j)
   |_=>none
  |_,_=>none
 |.extract x i=>(dt x).map (.extract i ·)
 |.call c=>AE P md.ro md.own md.mu md.fr c
 |.panic _=>some (.nilCheck (.const AV.undef))
 |_=>none
def zE (acc:List Nat):List Oper→Option (List Nat)
 |[]=>some acc
 | o :: r =>
  let es:=o.after.toList.filter (Region.binds .any)
  if es.all (fun e=>decide (e.on<acc.length))then
   zE (acc++[es.foldl (fun m e=>m|||1<<<e.on|||acc.getD e.on 0) 0]) r
  else none
def before (pre:List Nat) (i j:Nat):Bool:=(pre.getD j 0).testBit i
inductive SH where
 |pure
 |load
 |soft
 |fresh
 |slot (back:Nat)
 |fS (res:Nat)
 |fill (back:Nat)
 |hard
 |jH
 deriving DecidableEq
def cN:bX→SH
 |.load .. =>.load
 |.append .. =>.soft
 |.v7 .. =>.hard
 |.call ro _ _|.jZ ro _ _=>if ro then .soft else .hard
 |.th _ _|.wz _ _=>.soft
 |.alloc _|.box .. |.mkSlice .. |.vZ .. |.tf .. |.sM .. =>.fresh
 |.slot b _=>.slot b
 |.fS r _ _ _=>.fS r
 |.jH .. =>.jH
 |.fill b _ _ _=>.fill b
 |.store .. |.lG _|.wy .. |.qn .. |.rC .. |.clear .. |.rK .. |.copy .. |.yi .. |.BO .. =>.hard
 |_=>.pure
def akQ:Op→Bool
 |.load .. =>true
 |_=>false
def js:aF→List Nat
 |.tmp t=>[t]
 |.const _=>[]
def K1:Option aF→List Nat
 |some x=>js x
 |none=>[]
def K0:bX→List Nat
 |.move x|.box _ x|.sM _ x|.clear _ x|.load _ _ x|.fS _ _ _ x|.jH _ _ x|.nilCheck x|.un _ x|.conv _ x|.KE _ x|.fieldAddr _ x|.field _ _ _ x|.extract _ x|.len _ x=>js x
 |.pick c a b=>js c++js a++js b
 |.alloc _|.BG _|.lG _|.slot _ _=>[]
 |.build _ ps=>ps.flatMap fun p=>js p.2.2
 |.buildSlice _ _ ps=>ps.flatMap fun p=>js p.2
 |.yi _ _ t=>[t]
 |.copy x y|.store _ x y|.fill _ _ x y|.arith _ x y|.eqv _ _ x y|.mkSlice _ _ x y|.BO _ _ x y|.indexAddr _ _ x y|.Gy x y|.index _ _ _ x y|.append _ x y|.v7 _ x y|.vZ _ x y=>js x++js y
 |.om _ a b=>a.flatMap js++b.flatMap js
 |.rC _ x y h=>js x++js y++js h
 |.qn _ xs ws=>xs.flatMap js++ws.map fun q=>q.2.2
 |.call _ _ xs|.th _ xs|.tf _ xs|.wy _ xs|.wz _ xs|.rK _ _ _ xs|.GI _ xs=>xs.flatMap js
 |.jZ _ x xs=>js x++xs.flatMap js
 |.slice _ x lo hi mx=>js x++K1 lo++K1 hi++K1 mx
def vy (o:bz):List Nat:=K0 o.op++(match o.guard with|some (t,_)=>[t]|none=>[])
def Zy (f:Nat→bz→Nat→bz→Bool) (l:List bz):Bool:=
 l.zipIdx.all fun(x,i)=>l.zipIdx.all fun(y,j)=>i==j||f i x j y
inductive ZK where
 |i (k:IntKind) (n:Int)
 |b (x:Bool)
 |p
 |s (e:Nat)
 deriving DecidableEq
def Li:AV→Option ZK
 |.v (.int k n)=>some (.i k n)
 |.v (.bool x)=>some (.b x)
 |.v (.pointer none)=>some .p
 |.slice .aA e []=>some (.s e)
 |_=>none
def xF:List AV→Option (List ZK)
 |[]=>some []
 |x::r=>match Li x,xF r with
  |some y,some s=>some (y::s)
  |_,_=>none
def Ro (a b:List AV):Bool:=match xF a,xF b with
 |some p,some q=>decide (p=q)
 |_,_=>false
def AX (x y:bX):Bool:=
 match x,y with
 |.rK _ zss _ _,.slot b zs'=>decide (0<b∧b≤zss.length)&&(match zss[zss.length-b]? with|some z=>Ro z zs'|none=>false)
 |.rK ro _ _ _,.fS .. =>ro
 |.fS ..,.rK ro _ _ _=>ro
 |.qn _ _ ws,.load g n (.tmp t)=>ws.any fun q=>q.1==g&&q.2.1==n&&q.2.2==t
 |.load g n (.tmp t),.qn _ _ ws=>ws.any fun q=>q.1==g&&q.2.1==n&&q.2.2==t
 |_,_=>false
def tm (pre : List Nat) (l : List bz) : Bool :=
  Zy (fun i x j y =>
    (match x.dst,y.dst with|some s,some t=>s != t|_,_=>true)&&
    (match y.dst with|some t=>!(vy x).contains t||before pre i j||before pre j i|none=>true)&&
    (match cN x.op,cN y.op with
      |.pure,_|_,.pure|.load,.load=>true
      |.load,.soft|.soft,.load|.jH,.jH|.jH,.fresh|.fresh,.jH=>true
      |.load,.fresh=>before pre i j||before pre j i||decide (i<j)
      |.fresh,.load=>before pre i j||before pre j i||decide (j<i)
      |.fS _,.fS _|.slot _,.slot _=>true
      |.fS r,.slot b|.slot b,.fS r|.fS r,.fill b|.fill b,.fS r=>before pre i j||before pre j i||decide (b≤r)
      |_,_=>before pre i j||before pre j i||(AX x.op y.op&&decide (i<j))||(AX y.op x.op&&decide (j<i)))) l&&
  l.all fun x=>match x.dst with|some t=>!(vy x).contains t|none=>true
def KJ (pre:List Nat) (l:List Oper) (i:Nat):Bool:=
 l.zipIdx.any fun(o,j)=>akQ o.op&&!(before pre i j)&&!(before pre j i)
def aht (l:List Oper) (t:Nat):Bool:=
 l.any fun o=>match o.op with
  |.call c=>(match c.callee with|.builtin .append=>true|_=>false)&&(match c.args.toList with|.tmp u::_=>u==t|_=>false)
  |_=>false
def JB (l:List Oper) (i:Nat):Bool:=match(l[i]?).bind (·.dst)with
 |some t=>aht l t
 |none=>false
def AF (l:List Oper):Option (Nat×Bool)→Option (Option (Nat×Bool))
 |none=>some none
 |some (j,b)=>match(l[j]?).bind (·.dst)with
  |some t=>some (some (t,b))
  |none=>none
def nS (P:Program) (all:List Oper) (md:Nat→Md):Nat→List Oper→Option (List bz)
 |_,[]=>some []
 |i,o::r=>match AF all o.guard,gH P (md i) o.op,nS P all md (i+1) r with
  |some g,some op,some s=>some (⟨o.dst,g,op⟩::s)
  |_,_,_=>none
def P4:Op→Bool
 |.alloc _=>true
 |_=>false
def vW:List Oper→Nat
 |[]=>0
 |o::r=>(if P4 o.op then 1 else 0)+vW r
def ab8 (P:Program) (l:List Oper):Option (List (List AV)):=fu (fun o=>match o.op with
 |.alloc e=>bV P e
 |_=>none) (l.filter fun o=>P4 o.op)
def aaK (l:List Oper) (i:Nat):Option Nat:=some (vW (l.drop i))
def N1 (p:Nat):List Oper→Option Nat
 |[]=>none
 |o::r=>match o.dst with
  |some t=>if P4 o.op&&t==p then some (vW (o::r))else N1 p r
  |none=>N1 p r
def VW (l:List Oper) (i:Nat):Option Nat:=
 match l[i]? with
 |some o=>match o.op with
  |.store _ (.tmp p) _=>N1 p l
  |_=>none
 |none=>none
def agu (l:List Oper) (i:Nat):Bool:=match l[i]? with
 | some o => (match o.op with
  |.call c=>(match c.args.toList with
   |.tmp u::_=>l.any fun q=>(match q.op with|.buildSlice .. =>true|_=>false)&&q.dst==some u
   |_=>false)
  |_=>false)
 |none=>false
def Mu.aaF (mu:Mu) (l:List Oper) (i:Nat):Mu:=if mu.only.isEmpty then mu else{mu with grow:=mu.grow&&(match(l[i]?).bind (·.dst)with|some t=>mu.only.contains t|none=>false)}
def ajB (l : List Oper) (i : Nat) : Option aF := match l[i]? with
 | some o => (match o.op with
  | .call c => (match c.callee, c.args.toList with
   |.builtin .append,.tmp u::_=>(match l.find? (fun q=>q.dst==some u)with
    |some q=>(match q.op with|.load _ x=>dt x|_=>none)
    |none=>none)
   |_,_=>none)
  |_=>none)
 |none=>none
def aty (P:Program) (pre:List Nat) (l:List Oper) (i:Nat):List (Bool×Nat×Nat):=l.zipIdx.filterMap fun(o,j)=>match o.op with
 |.load t (.tmp u)=>if before pre i j||before pre j i then none else(match tM P t,cK P t with|some g,some n=>some (g,n,u)|_,_=>none)
 |_=>none
def Mu.Xs (mu:Mu) (l:List Oper) (i:Nat):Mu:=if mu.rows then{mu.aaF l i with home:=ajB l i}else mu.aaF l i
def Mu.at (P:Program) (pre:List Nat) (mu:Mu) (l:List Oper) (i:Nat):Mu:={mu.Xs l i with fresh:=agu l i,ws:=if mu.watch.isEmpty then[]else aty P pre l i}
def Je (P:Program) (mu:Mu) (pre:List Nat) (l:List Oper):Option (Nat×List bz):=
 match nS P l (fun i=>⟨KJ pre l i,JB l i,none,none,none,{Mu.at P pre mu l i with low:=true},none⟩) 0 l with
 |some as=>if tm pre as then some (1,as)else none
 |none=>none
def Jf (P : Program) (mu : Mu) (l : List Oper) (drawn : Bool) : Option (Nat × List bz) :=
 if drawn then
  match zE [] l with
  |none=>none
  | some pre => match nS P l (fun i => ⟨KJ pre l i, JB l i, none, none, none, Mu.at P pre mu l i, none⟩) 0 l with
   | some as => if tm pre as then some (0, as) else
    match nS P l (fun i=>⟨KJ pre l i,JB l i,aaK l i,some (vW l),VW l i,Mu.at P pre mu l i,none⟩) 0 l with
    | some zZ => if tm pre zZ then some (vW l, zZ) else
     if 0<vW l then
      match nS P l (fun i=>⟨KJ pre l i,JB l i,aaK l i,some (vW l),VW l i,Mu.at P pre mu l i,ab8 P l⟩) 0 l with
      |some L5=>if tm pre L5 then some (vW l,L5)else Je P mu pre l
      |none=>none
     else Je P mu pre l
    |none=>none
   |none=>none
 else(nS P l (fun i=>⟨false,false,none,none,none,mu.Xs l i,none⟩) 0 l).map (0,·)
def Q5 (d:Bool):Nat×List bz→au
 |(0,as)=>.region d as
 |(n+1,as)=>.seq (.region false [⟨none,none,.lG (n+1)⟩]) (.region d as)
def comp (P:Program) (mu:Mu):Code→Option au
 |.skip=>some .skip
 |.region _ l drawn=>(Jf P mu l.toList drawn).map (Q5 drawn)
 |.seq a b=>match comp P mu a,comp P mu b with
  |some x,some y=>some (.seq x y)
  |_,_=>none
 |.cond c a b=>match dt c,comp P mu a,comp P mu b with
  |some z,some x,some y=>some (.cond z x y)
  |_,_,_=>none
 |.block id a=>(comp P mu a).map (.block id ·)
 |.loop a=>(comp P mu a).map .loop
 |.rangeFunc f ps a b=>match dt f,comp P mu a,comp P mu b with
  |some z,some x,some y=>some (.rangeFunc z ps.toList x y)
  |_,_,_=>none
 |.exit id=>some (.exit id)
 |.ret=>some .ret
 |_=>none
def Z6 (P:Program) (t:Nat) (g:Option Bool) (n:Option Nat):Option il:=
 let _:=P
 match g,n with
 |some g,some n=>some (.cell g n t)
 |_,_=>none
def wE (P:Program):ResultVar→Option il
 |.tmp t=>some (.tmp t)
 |.cell a t=>Z6 P a (tM P t) (cK P t)
def jV (n:Nat):au→Bool
 |.region _ l=>l.all fun o=>match o.dst with|some t=>decide (t<n)|none=>true
 |.seq a b|.cond _ a b=>jV n a&&jV n b
 |.block _ a|.loop a=>jV n a
 |.rangeFunc _ ps a b=>ps.all (fun t=>decide (t<n))&&jV n a&&jV n b
 |_=>true
def aV (P:Program) (own:Bool) (mu:Mu) (fn:Func):Option aJ:=
 if fn.name== "runtime.NumGoroutine" then none else
 match fn.body with
 |none=>none
 |some c=>match comp P mu c,fu (wE P) fn.results.toList with
  |some b,some rs=>if fn.params.size+fn.nfree≤fn.ntmps∧jV fn.ntmps b=true then some (.code (fn.params.size+fn.nfree) fn.ntmps b rs own)else none
  |_,_=>none
end Go.Ax
/-
  What the abstract executor's states say of a world: the relation, and how it is kept.
-/
namespace Go.Ax
open Go.RowKit
abbrev fU:=Nat→Nat→Option Value
def plain:Value→Bool
 |.bool _|.int _ _|.string _|.pointer none|.nilFunc|.nilIface=>true
 |_=>false
inductive bJ (I:fU):AV→Value→Prop
 |v {x:Value} (h:plain x=true):bJ I (.v x) x
 |aA {es:Nat}:bJ I (.slice .aA es []) (.slice none 0 0)
 | slice {o : Own} {es : Nat} {xs : List (List AV)} {blk off cap : Nat} (f : Nat → Nat → Value)
   (ho:o=.any∨(o=.full∧cap=xs.length)) (hc:xs.length≤cap) (dQ:∀r,r∈xs→r.length=es)
   (br:∀r,r∈xs→∀c,c∈r→c.bt=true)
   (hI:∀i (hi:i<xs.length) j (_:j<xs[i].length),I blk (off+i*es+j)=some (f i j))
   (hR:∀i (hi:i<xs.length) j (hj:j<xs[i].length),bJ I (xs[i][j]) (f i j)):
   bJ I (.slice o es xs) (.slice (some ⟨blk,off,none⟩) xs.length cap)
 |empty {o:Own} {es:Nat} {a:Addr} (ho:o=.any∨o=.full):bJ I (.slice o es []) (.slice (some a) 0 0)
 | bq {cs : List AV} {off blk o0 : Nat} (f : Nat → Value) (br : ∀ c, c ∈ cs → c.bt = true)
   (hI:∀i,i<cs.length→I blk (o0+i)=some (f i))
   (hR:∀i (hi:i<cs.length),bJ I cs[i] (f i)):bJ I (.bq cs off) (.pointer (some ⟨blk,o0+off,none⟩))
 |iface {t:TypeId} {x:AV} {y:Value} (h:bJ I x y):bJ I (.iface t x) (.iface t y)
 |zB {t:TypeId} {y:Value}:bJ I .zB (.iface t y)
 | agg {cs : List AV} {arr : Array Value} (hl : arr.size = cs.length) (br : ∀ c, c ∈ cs → c.bt = true)
   (hR:∀i (hi:i<cs.length),bJ I cs[i] (arr.getD i Go.undef)):bJ I (.agg cs) (.agg arr)
 | fn {f : FuncId} {first caps : List AV} {a1 a2 : Array Value} (l1 : a1.size = first.length) (l2 : a2.size = caps.length)
   (r1:∀i (hi:i<first.length),bJ I first[i] (a1.getD i Go.undef))
   (r2:∀i (hi:i<caps.length),bJ I caps[i] (a2.getD i Go.undef)):bJ I (.fn f first caps) (.func (.func f) a1 a2)
structure kR where
 n:Option Nat
 blk:Nat
 cap:Nat
 es:Nat
structure cH where
 bl:List (Option Nat)
 tk:List kR
 nl:Nat
 marks:List Nat
 gs:Nat→Option Nat
inductive rA where
 |box (d b:Nat)
 |tok (d g:Nat)
 |loop (l:Nat)
 |mark (d i:Nat)
structure aG where
 I:fU
 ag:List cH
 loops:List Nat
 own:Nat→Option rA
inductive Rel (G:aG) (k nl:Nat):AV→Value→Prop
 |cl {x:AV} {y:Value} (h:bJ G.I x y):Rel G k nl x y
 |undef:Rel G k nl AV.undef Go.undef
 | tok {d g es : Nat} {xs : List (List AV)} {a : Addr} {cap : Nat} (T : kR) (gr : cH) (hd : d ≤ k) (hg : G.ag[d]? = some gr) (ht : gr.tk[g]? = some T)
   (dQ:T.es=es) (hc:bJ G.I (.slice .any es xs) (.slice (some a) xs.length cap))
   (hn:∀n,T.n=some n→xs.length≤n∧(xs.length=n→a=⟨T.blk,0,none⟩∧cap=T.cap)):
   Rel G k nl (.slice (.tok d g) es xs) (.slice (some a) xs.length cap)
 | ptr {d b off blk : Nat} (gr : cH) (hd : d ≤ k) (hg : G.ag[d]? = some gr) (hb : gr.bl[b]? = some (some blk)) :
   Rel G k nl (.ptr d b off) (.pointer (some ⟨blk,off,none⟩))
 | aO {d b off es n cap rc blk o0 : Nat} (gr : cH) (hd : d ≤ k) (hg : G.ag[d]? = some gr) (hb : gr.bl[b]? = some (some blk)) (hn : n ≤ rc) (hc : cap ≤ rc) (hw : cap = 0 → 0 < n → gr.gs b = some (rc * es)) (ho : 0 < n ∨ 0 < cap → o0 = off) :
   Rel G k nl (.aO d b off es n cap) (.slice (some ⟨blk,o0,none⟩) n rc)
 | yield {l r : Nat} (hl : l < nl) (h : G.loops[l]? = some r) : Rel G k nl (.yield l) (.func (.yield r) #[] #[])
 | agg {cs : List AV} {arr : Array Value} (hl : arr.size = cs.length) (br : ∀ c, c ∈ cs → c.bt = true)
   (hR:∀i (hi:i<cs.length),Rel G k nl cs[i] (arr.getD i Go.undef)):Rel G k nl (.agg cs) (.agg arr)
 | tuple {vs : List AV} {arr : Array Value} (hl : arr.size = vs.length)
   (hR:∀i (hi:i<vs.length),Rel G k nl vs[i] (arr.getD i Go.undef)):Rel G k nl (.tuple vs) (.tuple arr)
 | fn {f : FuncId} {first caps : List AV} {a1 a2 : Array Value} (l1 : a1.size = first.length) (l2 : a2.size = caps.length)
   (r1:∀i (hi:i<first.length),bJ G.I first[i] (a1.getD i Go.undef))
   (r2:∀i (hi:i<caps.length),Rel G k nl caps[i] (a2.getD i Go.undef)):Rel G k nl (.fn f first caps) (.func (.func f) a1 a2)
def vT (T T':kR):Prop:=T'.es=T.es∧(T'=T∨T'.n=none∨∃n n',T.n=some n∧T'.n=some n'∧n<n')
theorem vT.refl (T:kR):vT T T:=⟨rfl,.inl rfl⟩
theorem vT.trans {T T' HN:kR} (h:vT T T') (h':vT T' HN):vT T HN:=by
 obtain⟨e,h⟩:=h
 obtain⟨e',h'⟩:=h'
 refine⟨e'.trans e,?_⟩
 rcases h' with rfl|h'|⟨n,n',h1,h2,h3⟩
 ·exact h
 ·exact .inr (.inl h')
 ·rcases h with rfl|h|⟨m,m',h4,h5,h6⟩
  ·exact .inr (.inr ⟨n,n',h1,h2,h3⟩)
  ·rw[h]at h1;cases h1
  ·rw[h5]at h1
   injection h1 with h1
   exact .inr (.inr ⟨m,n',h4,h2,by omega⟩)
structure iN (gr bI:cH):Prop where
 bl:∀(b blk:Nat),gr.bl[b]? =some (some blk)→bI.bl[b]? =some (some blk)
 tk:∀(g:Nat) (T:kR),gr.tk[g]? =some T→∃T',bI.tk[g]? =some T'∧vT T T'
 nl:bI.nl=gr.nl
 gs:∀b n,gr.gs b=some n→bI.gs b=some n
theorem iN.refl (gr:cH):iN gr gr:=⟨fun _ _ h=>h,fun _ T h=>⟨T,h,.refl T⟩,rfl,fun _ _ h=>h⟩
theorem iN.trans {a b c:cH} (h:iN a b) (k:iN b c):iN a c:=
 ⟨fun i x e=>k.bl i x (h.bl i x e),fun g T e=>let⟨T',e',l'⟩:=h.tk g T e;let⟨HN,NS,Qe⟩:=k.tk g T' e';⟨HN,NS,l'.trans Qe⟩,k.nl.trans h.nl,fun b n e=>k.gs b n (h.gs b n e)⟩
structure bA (k nl:Nat) (G G':aG):Prop where
 I:∀b i v,G.I b i=some v→G'.I b i=some v
 ag:∀(d:Nat) (gr:cH),d≤k→G.ag[d]? =some gr→∃bI,G'.ag[d]? =some bI∧iN gr bI∧(d<k→bI.marks=gr.marks)
 loops:∀(l r:Nat),l<nl→G.loops[l]? =some r→G'.loops[l]? =some r
theorem bA.refl (k nl:Nat) (G:aG):bA k nl G G:=⟨fun _ _ _ h=>h,fun _ gr _ h=>⟨gr,h,.refl gr,fun _=>rfl⟩,fun _ _ _ h=>h⟩
theorem bA.trans {k nl:Nat} {a b c:aG} (h:bA k nl a b) (h':bA k nl b c):bA k nl a c:=
  ⟨fun i j v e=>h'.I i j v (h.I i j v e),fun d gr hd e=>let⟨bI,e',l',m'⟩:=h.ag d gr hd e;let⟨Wr,NS,Qe,m''⟩:=h'.ag d bI hd e';⟨Wr,NS,l'.trans Qe,fun aC=>(m'' aC).trans (m' aC)⟩,
   fun l r hl e=>h'.loops l r hl (h.loops l r hl e)⟩
theorem bA.less {k nl k' gB:Nat} {G G':aG} (h:bA k nl G G') (hk:k'≤k) (hl:gB≤nl):bA k' gB G G':=
 ⟨h.I,fun d gr hd e=>let⟨bI,e',l',m'⟩:=h.ag d gr (by omega) e;⟨bI,e',l',fun aC=>m' (by omega)⟩,fun l r aC e=>h.loops l r (by omega) e⟩
theorem bJ.mono {I I':fU} (hI:∀b i v,I b i=some v→I' b i=some v) {x:AV} {y:Value} (h:bJ I x y):bJ I' x y:=by
 induction h with
 |v h=>exact .v h
 |aA=>exact .aA
 |slice f ho hc dQ br h1 _ ih=>exact .slice f ho hc dQ br (fun i hi j hj=>hI _ _ _ (h1 i hi j hj)) ih
 |empty ho=>exact .empty ho
 |bq f br h1 _ ih=>exact .bq f br (fun i hi=>hI _ _ _ (h1 i hi)) ih
 |iface _ ih=>exact .iface ih
 |zB=>exact .zB
 |agg hl br _ ih=>exact .agg hl br ih
 |fn l1 l2 _ _ ih1 fI=>exact .fn l1 l2 ih1 fI
theorem Rel.mono {G G':aG} {k nl k' gB:Nat} (h:bA k nl G G') (hk:k≤k') (hl:nl≤gB) {x:AV} {y:Value} (r:Rel G k nl x y):Rel G' k' gB x y:=by
 induction r with
 |cl hc=>exact .cl (hc.mono h.I)
 |undef=>exact .undef
 | tok T gr hd hg ht dQ hc hn =>
  obtain⟨bI,bu,hle,_⟩:=h.ag _ _ hd hg
  obtain⟨T',PH,he,hT⟩:=hle.tk _ _ ht
  refine .tok T' bI (by omega) bu PH (he.trans dQ) (hc.mono h.I) (fun n iV=>?_)
  rcases hT with rfl|hT|⟨m,m',h1,h2,h3⟩
  ·exact hn n iV
  ·rw[hT]at iV;cases iV
  ·rw[h2]at iV
   injection iV with iV
   have:=(hn m h1).1
   exact⟨by omega,fun e=>by omega⟩
 |ptr gr hd hg hb=>
  obtain⟨bI,bu,hle,_⟩:=h.ag _ _ hd hg
  exact .ptr bI (by omega) bu (hle.bl _ _ hb)
 |aO gr hd hg hb hn hc hw ho=>
  obtain⟨bI,bu,hle,_⟩:=h.ag _ _ hd hg
  exact .aO bI (by omega) bu (hle.bl _ _ hb) hn hc (fun e1 e2=>hle.gs _ _ (hw e1 e2)) ho
 |yield aC he=>exact .yield (by omega) (h.loops _ _ aC he)
 |agg qH br _ ih=>exact .agg qH br ih
 |tuple qH _ ih=>exact .tuple qH ih
 |fn l1 l2 r1 _ ih=>exact .fn l1 l2 (fun i hi=>(r1 i hi).mono h.I) ih
def pC (B0:Nat) (G:aG) (d nl b:Nat) (g:Option Nat) (cs:List AV) (blk:Nat) (w:World):Prop:=
 B0≤blk∧(∃x,G.own blk=some (.box d x)∧(cs≠[]→x=b))∧(cs≠[]→∀i,G.I blk i=none)∧
  ∃arr ty,w.heap[blk]? =some (.cells arr ty)∧cs.length≤arr.size∧(cs≠[]→∀n,g=some n→arr.size=n)∧∀i (hi:i<cs.length),cs[i].bt=true∧Rel G d nl cs[i] (arr.getD i Go.undef)
def zX (B0:Nat) (G:aG) (d g:Nat) (n:Option Nat) (T:kR) (w:World):Prop:=
 T.n=n∧∀m,n=some m→B0≤T.blk∧G.own T.blk=some (.tok d g)∧(∀i,m*T.es≤i→G.I T.blk i=none)∧
  m≤T.cap∧0<T.es∧∃arr ty,w.heap[T.blk]? =some (.cells arr ty)∧arr.size=T.cap*T.es
def HD (B0:Nat) (G:aG) (d i b:Nat) (w:World):Prop:=
 B0≤b∧G.own b=some (.mark d i)∧w.heap[b]? =some (.deferred (some []))
structure vS (B0:Nat) (G:aG) (d:Nat) (r:Rec) (gr:cH) (w:World):Prop where
 dX:gr.bl.length=r.boxes.length
 iI:gr.tk.length=r.toks.length
 box:∀(b:Nat) (cs:List AV) (blk:Nat),r.boxes[b]? =some cs→gr.bl[b]? =some (some blk)→pC B0 G d gr.nl b (gr.gs b) cs blk w
 full:∀(b blk:Nat),gr.bl[b]? =some (some blk)→r.boxes[b]? =some []→none∈r.toks
 tok:∀(g:Nat) (n:Option Nat) (T:kR),r.toks[g]? =some n→gr.tk[g]? =some T→zX B0 G d g n T w
 mark:∀(i b:Nat),gr.marks[i]? =some b→HD B0 G d i b w
 mz:∀(b n:Nat),gr.gs b=some n→∃blk,gr.bl[b]? =some (some blk)
def exitCode:cV→Option Code
 |.normal=>none
 |.exit id=>some (.exit id)
 |.ret=>some .ret
def pG (P:Program) (G:aG) (l:Nat) (lp:dx) (rc:Loop):Prop:=
 (lp.ready=true→rc.state=.ready∧lp.eF=none)∧
  (lp.ready=false→rc.state=(if lp.eF.isSome then .done else .busy))∧rc.pending=lp.eF.bind exitCode∧lp.eF≠some .normal∧
  rc.params.toList=lp.params∧(∃mu,comp P mu rc.assign=some lp.assign∧comp P mu rc.body=some lp.body)∧jV rc.tmps.size lp.assign=true∧jV rc.tmps.size lp.body=true∧
  (∀p,p∈lp.params→p<rc.tmps.size)∧
  ∃k nl,k+1≤G.ag.length∧nl≤l∧(∀d gr,G.ag[d]? =some gr→l<gr.nl→k<d)∧∀t,Rel G k nl (lp.tmps t) (rc.tmps.getD t Go.undef)
def HC (P:Program) (B0:Nat) (G:aG) (l:Nat) (lp:dx) (r:Nat) (w:World):Prop:=
 B0≤r∧G.own r=some (.loop l)∧∃rc:Loop,w.heap[r]? =some (.loop rc)∧pG P G l lp rc
structure cu (P:Program) (B0:Nat) (w0:World) (G:aG) (s:ae) (w:World):Prop where
 fc:∀(b i:Nat) (v:Value),G.I b i=some v→w.cell? ⟨b,i,none⟩=some v
 len:G.ag.length=s.ag.length
 jG:G.loops.length=s.loops.length
 cI:∀(d:Nat) (r:Rec) (gr:cH),s.ag[d]? =some r→G.ag[d]? =some gr→vS B0 G d r gr w
 loop:∀(l:Nat) (lp:dx) (r:Nat),s.loops[l]? =some lp→G.loops[l]? =some r→HC P B0 G l lp r w
 pr:∀(d:Nat) (gr:cH),G.ag[d]? =some gr→gr.nl≤s.loops.length
 qZ:∀(d d':Nat) (gr bI:cH),d≤d'→G.ag[d]? =some gr→G.ag[d']? =some bI→gr.nl≤bI.nl
 below:Below B0 w0 w
 low:B0≤w.heap.size
 eM:∀(b:Nat) (o:rA),G.own b=some o→b<w.heap.size
section
variable{P:Program} {B0:Nat} {w0:World} {G G':aG} {w w':World}
theorem pC.cJ {d nl b blk:Nat} {g:Option Nat} {cs:List AV} (h:pC B0 G d nl b g cs blk w) (hle:bA d nl G G') (ho:∀x,G.own blk=some (.box d x)→G'.own blk=some (.box d x)) (hh:w'.heap[blk]? =w.heap[blk]?)
  (hI:∀i,G.I blk i=none→G'.I blk i=none):pC B0 G' d nl b g cs blk w':=by
 obtain⟨h1,⟨x,h2,h2'⟩,h3,arr,ty,h4,h5,h7,h6⟩:=h
 exact⟨h1,⟨x,ho x h2,h2'⟩,fun hn i=>hI i (h3 hn i),arr,ty,hh.trans h4,h5,h7,fun i hi=>⟨(h6 i hi).1,(h6 i hi).2.mono hle (aH _) (aH _)⟩⟩
theorem pC.kept {X:rA→Prop} {d nl b blk:Nat} {g:Option Nat} {cs:List AV} (h:pC B0 G d nl b g cs blk w) (hle:bA d nl G G') (hk:∀b o,G.own b=some o→¬X o→G'.own b=some o∧w'.heap[b]? =w.heap[b]? ∧∀i,G.I b i=none→G'.I b i=none)
  (hX:∀x,¬X (.box d x)):pC B0 G' d nl b g cs blk w':=by
 obtain⟨x,h2,_⟩:=h.2.1
 obtain⟨k1,k2,k3⟩:=hk _ _ h2 (hX x)
 exact h.cJ hle (fun y e=>by rw[h2]at e;injection e with e;rw[←e];exact k1) k2 k3
theorem zX.cJ {d g:Nat} {n:Option Nat} {T:kR} (h:zX B0 G d g n T w) (ho:n.isSome→G'.own T.blk=some (.tok d g)) (hh:n.isSome→w'.heap[T.blk]? =w.heap[T.blk]?)
  (hI:n.isSome→∀i,G.I T.blk i=none→G'.I T.blk i=none):zX B0 G' d g n T w':=by
 obtain⟨h1,h2⟩:=h
 refine⟨h1,fun m hm=>?_⟩
 have hs:n.isSome=true:=by rw[hm];rfl
 obtain⟨a1,_,a3,a4,a5,arr,ty,a6,a7⟩:=h2 m hm
 exact⟨a1,ho hs,fun i hi=>hI hs i (a3 i hi),a4,a5,arr,ty,(hh hs).trans a6,a7⟩
theorem HD.cJ {d i b:Nat} (h:HD B0 G d i b w) (ho:G'.own b=some (.mark d i)) (hh:w'.heap[b]? =w.heap[b]?):HD B0 G' d i b w':=
 ⟨h.1,ho,hh.trans h.2.2⟩
theorem pG.cJ {l:Nat} {lp:dx} {rc:Loop} (h:pG P G l lp rc) (hle:∀k nl,k+1≤G.ag.length→nl≤l→bA k nl G G') (hlen:G.ag.length≤G'.ag.length):pG P G' l lp rc:=by
 obtain⟨a1,a2,a3,a4,a5,a6,a8,a9,LS,k,nl,SM,a12,HO,LU⟩:=h
 refine⟨a1,a2,a3,a4,a5,a6,a8,a9,LS,k,nl,by omega,a12,fun d bI hg hl=>?_,fun t=>(LU t).mono (hle k nl SM a12) (aH _) (aH _)⟩
 by_cases hd:d<G.ag.length
 ·obtain⟨Wr,e,hr,_⟩:=(hle d 0 hd (bg _)).ag d _ (aH _) (cM hd)
  rw[hg]at e
  injection e with e
  exact HO d _ (cM hd) (by rw[←hr.nl,←e];exact hl)
 ·omega
theorem HC.cJ {l r:Nat} {lp:dx} (h:HC P B0 G l lp r w) (hle:∀k nl,k+1≤G.ag.length→nl≤l→bA k nl G G') (hlen:G.ag.length≤G'.ag.length)
  (ho:G'.own r=some (.loop l)) (hh:w'.heap[r]? =w.heap[r]?):HC P B0 G' l lp r w':=by
 obtain⟨h1,_,rc,h3,h4⟩:=h
 exact⟨h1,ho,rc,hh.trans h3,h4.cJ hle hlen⟩
def jv (X:rA→Prop) (G:aG) (w:World) (G':aG) (w':World):Prop:=
 ∀b o,G.own b=some o→¬X o→G'.own b=some o∧w'.heap[b]? =w.heap[b]? ∧∀i,G.I b i=none→G'.I b i=none
theorem vS.cJ {X:rA→Prop} {d:Nat} {r:Rec} {gr:cH} (h:vS B0 G d r gr w) (hle:bA d gr.nl G G') (hk:jv X G w G' w')
  (hX:∀o,X o→(∀b,o≠.box d b)∧(∀g,o≠.tok d g)∧∀i,o≠.mark d i):vS B0 G' d r gr w':=by
 refine⟨h.dX,h.iI,fun b cs blk h1 h2=>?_,h.full,fun g n T h1 h2=>?_,fun i b h1=>?_,fun b n h1=>?_⟩
 ·exact(h.box b cs blk h1 h2).kept hle hk (fun x hx=>(hX _ hx).1 x rfl)
 ·have ht:=h.tok g n T h1 h2
  have hs:∀(hn:n.isSome=true),G'.own T.blk=some (.tok d g)∧w'.heap[T.blk]? =w.heap[T.blk]? ∧∀i,G.I T.blk i=none→G'.I T.blk i=none:=fun hn=>by
   obtain⟨m,hm⟩:=oC.1 hn
   exact hk _ _ (ht.2 m hm).2.1 (fun hx=>(hX _ hx).2.1 g rfl)
  exact ht.cJ (fun hn=>(hs hn).1) (fun hn=>(hs hn).2.1) (fun hn=>(hs hn).2.2)
 ·have hm:=h.mark i b h1
  obtain⟨k1,k2,_⟩:=hk _ _ hm.2.1 (fun hx=>(hX _ hx).2.2 i rfl)
  exact hm.cJ k1 k2
 ·exact h.mz b n h1
theorem cu.cJ {s:ae} (h:cu P B0 w0 G s w) (hI:∀b i v,G.I b i=some v→G'.I b i=some v) (ha:G'.ag=G.ag) (hl:G'.loops=G.loops)
  (hk:jv (fun _=>False) G w G' w') (FW:∀b i v,G'.I b i=some v→w'.cell? ⟨b,i,none⟩=some v) (hb:Below B0 w w')
  (F9:∀b o,G'.own b=some o→b<w'.heap.size):cu P B0 w0 G' s w':=by
 have hle:∀k nl,bA k nl G G':=fun k nl=>⟨hI,fun d gr _ e=>⟨gr,by rw[ha];exact e,.refl gr,fun _=>rfl⟩,fun l r _ e=>by rw[hl];exact e⟩
 refine⟨FW,by rw[ha];exact h.len,by rw[hl];exact h.jG,fun d r gr h1 h2=>?_,fun l lp r h1 h2=>?_,fun d gr h1=>h.pr d gr (by rw[←ha];exact h1),by rw[ha];exact h.qZ,h.below.trans hb,kO h.low hb.size,F9⟩
 ·rw[ha]at h2
  exact(h.cI d r gr h1 h2).cJ (hle _ _) hk (fun o ho=>ho.elim)
 ·rw[hl]at h2
  have hr:=h.loop l lp r h1 h2
  obtain⟨k1,k2,_⟩:=hk _ _ hr.2.1 (fun hx=>hx)
  exact hr.cJ (fun k nl _ _=>hle k nl) (by rw[ha];exact aH _) k1 k2
theorem cu.drew {s:ae} (h:cu P B0 w0 G s w):cu P B0 w0 G s w.drew:=
 h.cJ (fun _ _ _ e=>e) rfl rfl (fun _ _ e _=>⟨e,rfl,fun _ h=>h⟩) (fun b i v e=>h.fc b i v e) ((Below.refl _ _).drew) h.eM
theorem cu.sS {s:ae} (h:cu P B0 w0 G s w) {b i:Nat} {v:Value} (e:G.I b i=some v):b<w.heap.size:=
 World.block_lt_of_cell? _ _ (h.fc b i v e)
theorem cu.uk {s:ae} (h:cu P B0 w0 G s w) (i:Nat):G.I w.heap.size i=none:=by
 cases e:G.I w.heap.size i with
 |none=>rfl
 |some v=>have:=h.sS e;omega
def aG.vU (G:aG) (b:Nat) (arr:Array Value):aG:={G with I:=fun c i=>if c=b then arr[i]? else G.I c i}
theorem aG.CF (G:aG) (b:Nat) (arr:Array Value) (hn:∀i,G.I b i=none) (k nl:Nat):bA k nl G (G.vU b arr):=
 ⟨fun c i v e=>by
  simp only[aG.vU]
  split
  ·rename_i hc;subst hc;rw[hn]at e;cases e
  ·exact e,fun d gr _ e=>⟨gr,e,.refl gr,fun _=>rfl⟩,fun _ _ _ e=>e⟩
theorem cu.LZ {s:ae} (h:cu P B0 w0 G s w) (arr:Array Value) (ty:TypeId) (fz:Nat×Nat):cu P B0 w0 (G.vU w.heap.size arr) s (w.alloc (.cells arr ty fz)):=by
 have hle:=G.CF w.heap.size arr h.uk 0 0
 refine h.cJ hle.I rfl rfl (fun b o e _=>⟨e,Below.heap_alloc _ _ _ (h.eM _ _ e),fun i hi=>?_⟩) (fun b i v e=>?_) ((Below.refl _ _).alloc h.low _) (fun b o e=>?_)
 ·simp only[aG.vU]
  rw[aq (by have:=h.eM _ _ e;omega)]
  exact hi
 ·simp only[aG.vU]at e
  split at e
  ·rename_i hb
   subst hb
   have hn:(w.alloc (.cells arr ty fz)).heap[w.heap.size]? =some (.cells arr ty fz):=World.alloc_heap_new w _
   simp only[World.cell?,hn]
   exact e
  ·have:=h.fc b i v e
   rw[World.cell?_alloc_old _ _ _ (by rename_i hb;exact hb)]
   exact this
 ·have:=h.eM b o e
  simp;omega
end
end Go.Ax
/-
  Operations that only compute: what the abstract executor gives is what the model's run gives.
-/
namespace Go.Ax
open Go.RowKit
section
variable{P:Program} {B0:Nat} {w0:World} {G:aG} {k nl:Nat} {w:World}
theorem Rel.gj {x y:Value} (h:Rel G k nl (.v x) y):y=x:=by
 cases h with
 |cl h=>cases h;rfl
 |undef=>rfl
abbrev fL (I:fU) (es:Nat) (xs:List (List AV)) (a:Addr) (cap:Nat):Prop:=bJ I (.slice .any es xs) (.slice (some a) xs.length cap)
theorem Rel.iF {o:Own} {es:Nat} {xs:List (List AV)} {y:Value} (h:Rel G k nl (.slice o es xs) y):
  (o=.aA∧xs=[]∧y=.slice none 0 0)∨(o≠.aA∧∃a cap,y=.slice (some a) xs.length cap∧(0<cap→a.spot=none)∧xs.length≤cap∧fL G.I es xs a cap∧(o=.full→cap=xs.length)):=by
 cases h with
 | cl h =>
  cases h with
  |aA=>exact .inl ⟨rfl,rfl,rfl⟩
  |slice f ho hc dQ br hI hR=>
   refine .inr ⟨by rcases ho with rfl|⟨rfl,_⟩<;>simp,_,_,rfl,fun _=>rfl,hc,.slice f (.inl rfl) hc dQ br hI hR,?_⟩
   rintro rfl
   rcases ho with h|⟨_,h⟩
   ·cases h
   ·exact h
  |empty ho=>
   exact .inr ⟨by rcases ho with rfl|rfl<;>simp,_,_,rfl,fun h=>absurd h (zU _),aH _,.empty (.inl rfl),fun _=>rfl⟩
 | tok T gr hd hg ht dQ hc hn =>
  refine .inr ⟨by simp,_,_,rfl,?_,?_,hc,by simp⟩
  ·cases hc with
   |slice=>exact fun _=>rfl
   |empty=>exact fun h=>absurd h (zU _)
  ·cases hc with
   |slice f ho hc=>exact hc
   |empty=>exact aH _
theorem Rel.sC {d b off:Nat} {y:Value} (h:Rel G k nl (.ptr d b off) y):
  ∃blk gr,y=.pointer (some ⟨blk,off,none⟩)∧d≤k∧G.ag[d]? =some gr∧gr.bl[b]? =some (some blk):=by
 cases h with
 |cl h=>cases h
 |ptr gr hd hg hb=>exact⟨_,gr,rfl,hd,hg,hb⟩
theorem Rel.l3 {d b off es n cap:Nat} {y:Value} (h:Rel G k nl (.aO d b off es n cap) y):
  ∃blk gr rc o0,y=.slice (some ⟨blk,o0,none⟩) n rc∧d≤k∧G.ag[d]? =some gr∧gr.bl[b]? =some (some blk)∧n≤rc∧cap≤rc∧(cap=0→0<n→gr.gs b=some (rc*es))∧(0<n∨0<cap→o0=off):=by
 cases h with
 |cl h=>cases h
 |aO gr hd hg hb hn hc hw ho=>exact⟨_,gr,_,_,rfl,hd,hg,hb,hn,hc,hw,ho⟩
theorem Rel.zp {cs:List AV} {off:Nat} {y:Value} (h:Rel G k nl (.bq cs off) y):
  ∃(blk o0:Nat) (f:Nat→Value),y=.pointer (some ⟨blk,o0+off,none⟩)∧(∀c,c∈cs→c.bt=true)∧(∀i,i<cs.length→G.I blk (o0+i)=some (f i))∧∀i (hi:i<cs.length),bJ G.I cs[i] (f i):=by
 cases h with
 |cl h=>cases h with|bq f br hI hR=>exact⟨_,_,f,rfl,br,hI,hR⟩
theorem Rel.xn {cs:List AV} {y:Value} (h:Rel G k nl (.agg cs) y):
  ∃arr:Array Value,y=.agg arr∧arr.size=cs.length∧(∀c,c∈cs→c.bt=true)∧∀i (hi:i<cs.length),Rel G k nl cs[i] (arr.getD i Go.undef):=by
 cases h with
 |cl h=>cases h with|agg hl br hR=>exact⟨_,rfl,hl,br,fun i hi=>.cl (hR i hi)⟩
 |agg hl br hR=>exact⟨_,rfl,hl,br,hR⟩
theorem Rel.akP {vs:List AV} {y:Value} (h:Rel G k nl (.tuple vs) y):
  ∃arr:Array Value,y=.tuple arr∧arr.size=vs.length∧∀i (hi:i<vs.length),Rel G k nl vs[i] (arr.getD i Go.undef):=by
 cases h with
 |cl h=>cases h
 |tuple hl hR=>exact⟨_,rfl,hl,hR⟩
theorem Rel.BB {f:FuncId} {first caps:List AV} {y:Value} (h:Rel G k nl (.fn f first caps) y):
  ∃a1 a2:Array Value,y=.func (.func f) a1 a2∧a1.size=first.length∧a2.size=caps.length∧(∀i (hi:i<first.length),bJ G.I first[i] (a1.getD i Go.undef))∧
   ∀i (hi:i<caps.length),Rel G k nl caps[i] (a2.getD i Go.undef):=by
 cases h with
 |cl h=>cases h with|fn l1 l2 r1 r2=>exact⟨_,_,rfl,l1,l2,r1,fun i hi=>.cl (r2 i hi)⟩
 |fn l1 l2 r1 r2=>exact⟨_,_,rfl,l1,l2,r1,r2⟩
theorem Rel.P3 {l : Nat} {y : Value} (h : Rel G k nl (.yield l) y) : ∃ r, y = .func (.yield r) #[] #[] ∧ l < nl ∧ G.loops[l]? = some r := by
 cases h with
 |cl h=>cases h
 |yield hl h=>exact⟨_,rfl,hl,h⟩
theorem Rel.P2 {t:TypeId} {x:AV} {y:Value} (h:Rel G k nl (.iface t x) y):∃z,y=.iface t z∧bJ G.I x z:=by
 cases h with
 |cl h=>cases h with|iface h=>exact⟨_,rfl,h⟩
theorem bJ.one {I : fU} {x : AV} {y : Value} (h : bJ I x y) (hc : x.bt = true) : y.cells = #[y] := by
 cases h with
 |v h=>cases y<;>first|rfl|simp[plain]at h
 |agg=>cases hc
 |_=>rfl
theorem Rel.one {x : AV} {y : Value} (h : Rel G k nl x y) (hc : x.bt = true) : y.cells = #[y] := by
 cases h with
 |cl h=>exact h.one hc
 |undef=>rfl
 |agg=>cases hc
 |_=>rfl
theorem Rel.yw {x:AV} {y:Value} (h:Rel G k nl x y) (hc:x.iG=true):bJ G.I x y:=by
 cases h with
 |cl h=>exact h
 |undef=>cases hc
 |tok=>cases hc
 |ptr=>cases hc
 |aO=>cases hc
 |yield=>cases hc
 |agg=>cases hc
 |tuple=>cases hc
 |fn=>cases hc
theorem Rel.aew {x:AV} {y:Value} (h:Rel G k nl x y) (hc:x.vm=true):bJ G.I x y:=by
 cases x with
 |agg cs=>
  obtain⟨arr,rfl,hl,br,hR⟩:=h.xn
  refine .agg hl br (fun i hi=>(hR i hi).yw ?_)
  exact jw.1 hc _ (gu hi)
 |_=>exact h.yw hc
theorem Rel.closed {x:AV} {y:Value} (h:Rel G k nl x y) (hc:x.isClosed=true):bJ G.I x y:=by
 cases x with
 |iface t x=>
  obtain⟨z,rfl,hz⟩:=h.P2
  exact .iface hz
 |fn f first caps=>
  obtain⟨a1,a2,rfl,l1,l2,r1,r2⟩:=h.BB
  simp only[AV.isClosed,dB]at hc
  exact .fn l1 l2 r1 (fun i hi=>(r2 i hi).yw (jw.1 hc.2 _ (gu hi)))
 |_=>exact h.yw hc
theorem Rel.close {x z:AV} {y:Value} (h:Rel G k nl x y) (hc:x.close=some z):bJ G.I z y:=by
 by_cases hx:∃d g es xs,x=.slice (.tok d g) es xs
 ·obtain⟨d,g,es,xs,rfl⟩:=hx
  simp only[AV.close]at hc
  injection hc with hc
  subst hc
  rcases h.iF with⟨h1,_⟩|⟨_,a,cap,rfl,_,_,h4,_⟩
  ·cases h1
  ·exact h4
 ·have:x.close=if x.isClosed then some x else none:=by
   unfold AV.close
   split
   ·exact absurd ⟨_,_,_,_,rfl⟩ hx
   ·rfl
  rw[this]at hc
  split at hc
  ·injection hc with hc
   subst hc
   exact h.closed (by assumption)
  ·cases hc
theorem NF {x z:AV} (h:x.close=some z) (hc:x.bt=true):z.bt=true:=by
 unfold AV.close at h
 split at h
 ·injection h with h;subst h;rfl
 ·split at h
  ·injection h with h;subst h;exact hc
  ·cases h
theorem Jb {cs ds:List AV} (h:closeAll cs=some ds):ds.length=cs.length∧∀i (hi:i<cs.length) (hj:i<ds.length),cs[i].close=some ds[i]:=by
 induction cs generalizing ds with
 |nil=>simp only[closeAll]at h;injection h with h;subst h;exact⟨rfl,fun i hi=>absurd hi (da _)⟩
 | cons x r ih =>
  simp only[closeAll]at h
  split at h
  ·rename_i y s hy hs
   injection h with h
   subst h
   obtain⟨h1,h2⟩:=ih hs
   refine⟨by simp[h1],fun i hi hj=>?_⟩
   cases i with
   |zero=>exact hy
   |succ i=>exact h2 i (by simpa using hi) (by simpa using hj)
  ·cases h
theorem Y6 {x:Value} {c:AV} {I:fU} (h:tN x=some c):bJ I c x∧c.bt=true:=by
 unfold tN at h
 split at h
 all_goals first
  |(injection h with h;subst h;exact⟨.v rfl,rfl⟩)
  |(injection h with h;subst h;exact⟨.aA,rfl⟩)
  |skip
 ·split at h
  ·rename_i hz
   injection h with h
   subst h
   refine⟨.fn (by simpa using hz.1) (by simpa using hz.2) (fun i hi=>absurd hi (da _)) (fun i hi=>absurd hi (da _)),rfl⟩
  ·cases h
 ·cases h
theorem vo {α β:Type} {f:α→Option β} {l:List α} {r:List β} (h:fu f l=some r):r.length=l.length∧∀i (hi:i<l.length) (hj:i<r.length),f l[i]=some r[i]:=by
 induction l generalizing r with
 |nil=>simp only[fu]at h;injection h with h;subst h;exact⟨rfl,fun i hi=>absurd hi (da _)⟩
 | cons x s ih =>
  simp only[fu]at h
  split at h
  ·rename_i y t hy ht
   injection h with h
   subst h
   obtain⟨h1,h2⟩:=ih ht
   refine⟨by simp[h1],fun i hi hj=>?_⟩
   cases i with
   |zero=>exact hy
   |succ i=>exact h2 i (by simpa using hi) (by simpa using hj)
  ·cases h
theorem rH {I:fU} {arr:Array Value} {cs:List AV} (h:fu tN arr.toList=some cs):
  arr.size=cs.length∧(∀c,c∈cs→c.bt=true)∧∀i (hi:i<cs.length),bJ I cs[i] (arr.getD i Go.undef):=by
 obtain⟨h1,h2⟩:=vo h
 have hl:arr.size=cs.length:=by simpa using h1.symm
 have hz:∀i (hi:i<cs.length),bJ I cs[i] (arr.getD i Go.undef)∧cs[i].bt=true:=fun i hi=>by
  have:=h2 i (by simpa using hl ▸ hi) hi
  have hr:=Y6 (I:=I) this
  have he:arr.getD i Go.undef=arr.toList[i]'(by simpa using hl ▸ hi):=by simp[Array.getD,hl,hi]
  rw[he]
  exact hr
 refine⟨hl,fun c hc=>?_,fun i hi=>(hz i hi).1⟩
 obtain⟨i,hi,rfl⟩:=nM hc
 exact(hz i hi).2
theorem ape {x:Value} {c:AV} {I:fU} (h:ofValue x=some c):bJ I c x:=by
 unfold ofValue at h
 split at h
 ·rename_i cs
  cases hm:fu tN cs.toList with
  |none=>rw[hm]at h;cases h
  |some l=>
   rw[hm]at h
   injection h with h
   subst h
   obtain⟨h1,h2,h3⟩:=rH (I:=I) hm
   exact .agg h1 h2 h3
 ·exact(Y6 h).1
def eu (G:aG) (k nl:Nat) (ρ:Nat→AV) (a:Act):Prop:=∀t,Rel G k nl (ρ t) (a.tmps.getD t Go.undef)
theorem cZ {x:Operand} {ax:aF} {ρ:Nat→AV} {a:Act} (hc:dt x=some ax) (hR:eu G k nl ρ a):Rel G k nl (aE ρ ax) (a.eval x):=by
 cases x with
 |tmp t=>simp only[dt]at hc;injection hc with hc;subst hc;exact hR t
 | const c =>
  simp only[dt]at hc
  cases hv:ofValue c with
  |none=>rw[hv]at hc;cases hc
  |some z=>
   rw[hv]at hc
   injection hc with hc
   subst hc
   exact .cl (ape hv)
 |func f=>
  simp only[dt]at hc
  injection hc with hc
  subst hc
  exact .cl (.fn rfl rfl (fun i hi=>absurd hi (da _)) (fun i hi=>absurd hi (da _)))
 |global g=>cases hc
end
end Go.Ax
/-
  Memory: loads, stores and new boxes.
-/
namespace Go.Ax
open Go.RowKit
section
variable{P:Program} {B0:Nat} {w0:World} {G:aG} {k nl:Nat} {w:World} {s:ae}
def ji (R:AV→Value→Prop) (cs:List AV) (arr:Array Value):Prop:=
 arr.size=cs.length∧∀i (hi:i<cs.length),R cs[i] (arr.getD i Go.undef)
theorem ji.set {R:AV→Value→Prop} {cs:List AV} {arr:Array Value} (h:ji R cs arr) {x:AV} {v:Value} (hx:R x v) (o:Nat):ji R (cs.set o x) (arr.setIfInBounds o v):=by
 refine⟨by simp[h.1],fun i hi=>?_⟩
 have bD:i<cs.length:=by simpa using hi
 rw[Sf]
 by_cases ho:o=i
 ·subst ho
  rw[ak rfl]
  have:(arr.setIfInBounds o v).getD o Go.undef=v:=by simp[Array.getD,h.1,bD]
  rw[this]
  exact hx
 ·rw[aq ho]
  have:(arr.setIfInBounds o v).getD i Go.undef=arr.getD i Go.undef:=by
   simp[Array.getD,h.1,bD,ho]
  rw[this]
  exact h.2 i bD
def iY (arr:Array Value) (o:Nat):List Value→Array Value
 |[]=>arr
 |v::r=>iY (arr.setIfInBounds o v) (o+1) r
theorem xA (arr:Array Value) (o:Nat) (vs:List Value):(iY arr o vs).size=arr.size:=by
 induction vs generalizing arr o with
 |nil=>rfl
 |cons v r ih=>simp[iY,ih]
theorem ji.iY {R:AV→Value→Prop} {xs:List AV} {vs:List Value} (hl:vs.length=xs.length) (hR:∀i (hi:i<xs.length) (hj:i<vs.length),R xs[i] vs[i]):
  ∀{cs:List AV} {arr:Array Value} (o:Nat),ji R cs arr→ji R (setCells cs o xs) (Ax.iY arr o vs):=by
 induction xs generalizing vs with
 |nil=>
  intro cs arr o h
  cases vs with
  |nil=>exact h
  |cons v r=>simp at hl
 | cons x xs ih =>
  intro cs arr o h
  cases vs with
  |nil=>simp at hl
  |cons v r=>
   simp only[setCells,Ax.iY]
   exact ih (by simpa using hl) (fun i hi hj=>hR (i+1) (by simpa using hi) (by simpa using hj)) (o+1) (h.set (hR 0 (by simp) (by simp)) o)
theorem ji.mono {R R':AV→Value→Prop} {cs:List AV} {arr:Array Value} (h:ji R cs arr) (hR:∀x v,R x v→R' x v):ji R' cs arr:=⟨h.1,fun i hi=>hR _ _ (h.2 i hi)⟩
def ku (R:AV→Value→Prop) (cs:List AV) (arr:Array Value):Prop:=
 cs.length≤arr.size∧∀i (hi:i<cs.length),R cs[i] (arr.getD i Go.undef)
theorem ku.set {R:AV→Value→Prop} {cs:List AV} {arr:Array Value} (h:ku R cs arr) {x:AV} {v:Value} (hx:R x v) (o:Nat):ku R (cs.set o x) (arr.setIfInBounds o v):=by
 refine⟨by simpa using h.1,fun i hi=>?_⟩
 have bD:i<cs.length:=by simpa using hi
 have ha:i<arr.size:=mZ bD h.1
 rw[Sf]
 by_cases ho:o=i
 ·subst ho
  rw[ak rfl]
  have:(arr.setIfInBounds o v).getD o Go.undef=v:=by simp[Array.getD,ha]
  rw[this]
  exact hx
 ·rw[aq ho]
  have:(arr.setIfInBounds o v).getD i Go.undef=arr.getD i Go.undef:=by
   simp[Array.getD,ha,ho]
  rw[this]
  exact h.2 i bD
theorem ku.iY {R:AV→Value→Prop} {xs:List AV} {vs:List Value} (hl:vs.length=xs.length) (hR:∀i (hi:i<xs.length) (hj:i<vs.length),R xs[i] vs[i]):
  ∀{cs:List AV} {arr:Array Value} (o:Nat),ku R cs arr→ku R (setCells cs o xs) (Ax.iY arr o vs):=by
 induction xs generalizing vs with
 |nil=>
  intro cs arr o h
  cases vs with
  |nil=>exact h
  |cons v r=>simp at hl
 | cons x xs ih =>
  intro cs arr o h
  cases vs with
  |nil=>simp at hl
  |cons v r=>
   simp only[setCells,Ax.iY]
   exact ih (by simpa using hl) (fun i hi hj=>hR (i+1) (by simpa using hi) (by simpa using hj)) (o+1) (h.set (hR 0 (by simp) (by simp)) o)
theorem ku.mono {R R':AV→Value→Prop} {cs:List AV} {arr:Array Value} (h:ku R cs arr) (hR:∀x v,R x v→R' x v):ku R' cs arr:=⟨h.1,fun i hi=>hR _ _ (h.2 i hi)⟩
theorem ji.le {R:AV→Value→Prop} {cs:List AV} {arr:Array Value} (h:ji R cs arr):ku R cs arr:=⟨Sv h.1.symm,h.2⟩
theorem asv (cs:List AV) (o:Nat) (xs:List AV):(setCells cs o xs).length=cs.length:=by
 induction xs generalizing cs o with
 |nil=>rfl
 |cons x r ih=>simp[setCells,ih]
theorem aat {cs:List AV} {o:Nat} {xs:List AV} {c:AV} (h:c∈setCells cs o xs):c∈cs∨c∈xs:=by
 induction xs generalizing cs o with
 |nil=>exact .inl h
 | cons x r ih =>
  rcases ih h with h|h
  ·rcases Sm h with h|rfl
   ·exact .inl h
   ·exact .inr (by simp)
  ·exact .inr (by simp[h])
theorem FO {b:Nat} {ty:TypeId}:∀(vs:List Value) (o:Nat) (arr:Array Value) (w:World),w.heap[b]? =some (.cells arr ty)→(w.setCells b o vs).heap[b]? =some (.cells (iY arr o vs) ty)
 |[],_,_,_,h=>h
 |v::r,o,arr,w,h=>by
  simp only[World.setCells,iY]
  refine FO r (o+1) _ _ ?_
  simp[World.setCell,Array.getElem?_modify,h]
theorem FP {b c:Nat} (hc:c≠b):∀(vs:List Value) (o:Nat) (w:World),(w.setCells b o vs).heap[c]? =w.heap[c]?
 |[],_,_=>rfl
 |v::r,o,w=>by
  simp only[World.setCells]
  rw[FP hc r (o+1)]
  exact Below.heap_setCell _ _ _ _ hc
theorem G5 (b:Nat):∀(vs:List Value) (o:Nat) (w:World),(w.setCells b o vs).heap.size=w.heap.size
 |[],_,_=>rfl
 |v::r,o,w=>by
  simp only[World.setCells]
  rw[G5 b r (o+1)]
  simp[World.setCell]
theorem DC {B b:Nat} (hb:B≤b):∀(vs:List Value) (o:Nat) (w:World),Below B w (w.setCells b o vs)
 |[],_,w=>Below.refl _ _
 |v::r,o,w=>by
  simp only[World.setCells]
  exact((Below.refl B w).setCell (p:=⟨b,o,none⟩) hb v).trans (DC hb r (o+1) _)
theorem cell_of_heap {b i:Nat} {arr:Array Value} {ty:TypeId} {fz:Nat×Nat} (h:w.heap[b]? =some (.cells arr ty fz)):w.cell? ⟨b,i,none⟩=arr[i]? :=by
 simp[World.cell?,h]
theorem frozen_of_heap {b i:Nat} {arr:Array Value} {ty:TypeId} (h:w.heap[b]? =some (.cells arr ty)):w.frozen? ⟨b,i,none⟩=false:=by
 simp[World.frozen?,h]
theorem E9 {b c i:Nat} {w':World} (h:w'.heap[b]? =w.heap[b]?) (hc:c=b):w'.cell? ⟨c,i,none⟩=w.cell? ⟨c,i,none⟩:=by
 subst hc
 simp[World.cell?,h]
structure At (P:Program) (B0:Nat) (w0:World) (G:aG) (k nl:Nat) (s:ae) (w:World):Prop where
 rel:cu P B0 w0 G s w
 len:s.ag.length=k+1
 cur:∃gr,G.ag[k]? =some gr∧gr.nl=nl
theorem At.gI (h:At P B0 w0 G k nl s w):s.cur=k:=by simp[ae.cur,h.len]
theorem At.sH (h:At P B0 w0 G k nl s w):nl≤s.loops.length:=by
 obtain⟨gr,h1,rfl⟩:=h.cur
 exact h.rel.pr _ _ h1
theorem At.box (h:At P B0 w0 G k nl s w) {d b:Nat} {cs:List AV} {gr:cH} {blk:Nat} (hd:d≤k) (hc:s.box d b=some cs) (hg:G.ag[d]? =some gr) (hb:gr.bl[b]? =some (some blk)):
  ∃r,s.ag[d]? =some r∧r.boxes[b]? =some cs∧pC B0 G d gr.nl b (gr.gs b) cs blk w∧
   ∃arr ty,w.heap[blk]? =some (.cells arr ty)∧ku (Rel G k nl) cs arr∧∀c,c∈cs→c.bt=true:=by
 simp only[ae.box]at hc
 cases hr:s.ag[d]? with
 |none=>rw[hr]at hc;cases hc
 |some r=>
  rw[hr]at hc
  have di:=(h.rel.cI d r gr hr hg).box b cs blk hc hb
  refine⟨r,rfl,hc,di,?_⟩
  obtain⟨_,_,_,arr,ty,h4,h5,_,h6⟩:=di
  obtain⟨gk,sc,rfl⟩:=h.cur
  refine⟨arr,ty,h4,⟨h5,fun i hi=>(h6 i hi).2.mono (bA.refl _ _ _) hd (h.rel.qZ d k gr gk hd hg sc)⟩,fun c oS=>?_⟩
  obtain⟨i,hi,rfl⟩:=nM oS
  exact(h6 i hi).1
theorem gY (b o i:Nat):(⟨b,o,none⟩:Addr).add i=⟨b,o+i,none⟩:=by
 unfold Addr.add
 split
 ·rename_i h;subst h;rfl
 ·rfl
theorem At.row (h:At P B0 w0 G k nl s w) {x:AV} {y:Value} {cs:List AV} {off:Nat} (hx:Rel G k nl x y) (hr:s.row x=some (cs,off)):
  ∃(blk o0:Nat) (f:Nat→Value),y=.pointer (some ⟨blk,o0+off,none⟩)∧(∀c,c∈cs→c.bt=true)∧
   (∀i,i<cs.length→w.cell? ⟨blk,o0+i,none⟩=some (f i))∧∀i (hi:i<cs.length),Rel G k nl cs[i] (f i):=by
 cases x with
 | ptr d b Qz =>
  simp only[ae.row]at hr
  cases hc:s.box d b with
  |none=>rw[hc]at hr;cases hr
  |some cs'=>
   rw[hc]at hr
   simp only[dK,fl,Cu]at hr
   obtain⟨rfl,rfl⟩:=hr
   obtain⟨blk,gr,rfl,hd,hg,hb⟩:=hx.sC
   obtain⟨r,_,_,_,arr,ty,h4,h5,h6⟩:=h.box hd hc hg hb
   refine⟨blk,0,fun i=>arr.getD i Go.undef,by simp,h6,fun i hi=>?_,fun i hi=>h5.2 i hi⟩
   rw[cell_of_heap h4]
   have:=mZ hi h5.1
   simp[this,Array.getD]
 |bq cs' Qz=>
  simp only[ae.row]at hr
  simp only[fl,Cu]at hr
  obtain⟨rfl,rfl⟩:=hr
  obtain⟨blk,o0,f,rfl,h1,h2,h3⟩:=hx.zp
  exact⟨blk,o0,f,rfl,h1,fun i hi=>h.rel.fc _ _ _ (h2 i hi),fun i hi=>.cl (h3 i hi)⟩
 |_=>cases hr
theorem QL {cs:List AV} {off n:Nat} {agg:Bool} {v:AV} {f:Nat→Value} (hp:part agg n cs off=some v) (br:∀c,c∈cs→c.bt=true)
  (hR:∀i (hi:i<cs.length),Rel G k nl cs[i] (f i)):
  (agg=true∧off+n≤cs.length∧Rel G k nl v (.agg ((List.range n).map fun j=>f (off+j)).toArray))∨(agg=false∧off<cs.length∧Rel G k nl v (f off)):=by
 unfold part at hp
 split at hp
 ·split at hp
  ·rename_i Bc hle
   injection hp with hp
   subst hp
   refine .inl ⟨Bc,hle,.agg (by simp;omega) (fun c hc=>br c (Hx (xT hc))) (fun i hi=>?_)⟩
   have bD:i<n:=by simp at hi;omega
   have:((List.range n).map fun j=>f (off+j)).toArray.getD i Go.undef=f (off+i):=by simp[Array.getD,bD]
   rw[this]
   have he:((cs.drop off).take n)[i]=cs[off+i]'(by omega):=by simp
   rw[he]
   exact hR _ _
  ·cases hp
 ·rename_i Bc
  obtain⟨h1,h2⟩:=bd.1 hp
  exact .inr ⟨by simpa using Bc,h1,h2 ▸ hR off h1⟩
theorem zq {t:TypeId} {g:Bool} (h:tM P t=some g) (w:World):(isAgg t).run P w=.ok g w:=by
 unfold tM at h
 cases hu:P.underlying t with
 |none=>rw[hu]at h;cases h
 |some d=>
  rw[hu]at h
  simp only[dK,fl]at h
  subst h
  unfold isAgg
  simp only[Sem.run_bind,run_underlying hu,Result.andThen_ok]
  cases d<;>simp[pure]
theorem jt {t:TypeId} {n:Nat} (h:cK P t=some n) (w:World):(sizeOf t).run P w=.ok n w:=by
 unfold cK at h
 cases hi:P.info? t with
 |none=>rw[hi]at h;cases h
 |some i=>
  rw[hi]at h
  simp only[dK,fl]at h
  subst h
  simp[sizeOf,typeInfo,hi]
theorem KC (h:At P B0 w0 G k nl s w) {x v:AV} {y:Value} {agg:Bool} {n:Nat} {t:TypeId} (hx:Rel G k nl x y) (hl:s.load agg n x=some v) (ha:tM P t=some agg) (hn:cK P t=some n):
  ∃v',(Instr.loadAt t y).run P w=.ok v' w∧Rel G k nl v v':=by
 unfold ae.load at hl
 cases hr:s.row x with
 |none=>rw[hr]at hl;cases hl
 | some p =>
  obtain⟨cs,off⟩:=p
  rw[hr]at hl
  simp only[eK]at hl
  obtain⟨blk,o0,f,rfl,br,hc,hR⟩:=h.row hx hr
  have WO:∀j,off+j<cs.length→w.cell? ((⟨blk,o0+off,none⟩:Addr).add j)=some (f (off+j)):=fun j hj=>by
   rw[gY,vP];exact hc _ hj
  rcases QL hl br hR with⟨rfl,hle,hv⟩|⟨rfl,aC,hv⟩
  ·refine⟨_,?_,hv⟩
   have O3:=run_loadCells (P:=P) w (⟨blk,o0+off,none⟩:Addr) n (fun j=>f (off+j)) (fun j hj=>WO j (by omega))
   simp only[Instr.loadAt,Instr.sureAddr,loadVar,Sem.run_bind,Sem.run_pure,Result.andThen_ok,zq ha,jt hn,bB,O3]
  ·refine⟨_,?_,hv⟩
   have:=WO 0 (by omega)
   rw[gY]at this
   simp only[vQ]at this
   simp only[Instr.loadAt,Instr.sureAddr,loadVar,Sem.run_bind,Sem.run_pure,Result.andThen_ok,zq ha,ef,cE]
   simp[run_load,this]
theorem dM {α:Type} (l:List α) (i j:Nat) (f:α→α):(l.modify i f)[j]? =if i=j then(l[j]?).map f else l[j]? :=by
 rw[vN]
 split<;>simp_all
theorem cu.dA (h:cu P B0 w0 G s w) {d b:Nat} {cs cs':List AV} {r:Rec} {gr:cH} {blk:Nat} {arr:Array Value} {ty:TypeId} {w':World}
  (hr:s.ag[d]? =some r) (hg:G.ag[d]? =some gr) (hb:r.boxes[b]? =some cs) (cw:gr.bl[b]? =some (some blk))
  (w6:cs≠[]) (aB:cs'≠[]) (br:∀c,c∈cs'→c.bt=true) (hR:ku (Rel G d gr.nl) cs' arr) (FT:∀n,gr.gs b=some n→arr.size=n) (hw:w'.heap[blk]? =some (.cells arr ty)) (Ga:∀c,c≠blk→w'.heap[c]? =w.heap[c]?)
  (yS:Below B0 w w') (bR:w'.heap.size=w.heap.size):cu P B0 w0 G (s.dA d b cs') w':=by
 have di:=(h.cI d r gr hr hg).box b cs blk hb cw
 have hk:jv (· =.box d b) G w G w':=fun c o ho aB=>by
  refine⟨ho,Ga c (fun e=>?_),fun _ e=>e⟩
  subst e
  obtain⟨x,vf,sw⟩:=di.2.1
  rw[vf,sw w6]at ho
  injection ho with ho
  exact aB ho.symm
 refine⟨fun c i v e=>?_,by simp only[ae.dA,ae.bp,Lz];exact h.len,h.jG,fun d' r' bI h1 h2=>?_,fun l lp r' h1 h2=>?_,h.pr,h.qZ,h.below.trans yS,by rw[bR];exact h.low,fun c o ho=>by rw[bR];exact h.eM c o ho⟩
 ·have aB:c≠blk:=by
   rintro rfl
   rw[di.2.2.1 w6]at e
   cases e
  rw[E9 (Ga c aB) rfl]
  exact h.fc c i v e
 ·simp only [ae.dA, ae.bp, dM] at h1
  by_cases hd:d=d'
  ·subst hd
   rw[ak rfl,hr]at h1
   simp only[dK,fl]at h1
   rw[hg]at h2
   injection h2 with h2
   subst h1 h2
   have aI:=h.cI d r gr hr hg
   refine⟨by simpa using aI.dX,aI.iI,fun b' Vh fM e1 e2=>?_,fun b' fM e1 e2=>?_,fun g n T e1 e2=>?_,fun i b' e1=>?_,aI.mz⟩
   ·simp only[sW]at e1
    by_cases rY:b=b'
    ·subst rY
     rw[cw]at e2
     injection e2 with e2
     injection e2 with e2
     subst e2
     rw[ak rfl]at e1
     split at e1
     ·injection e1 with e1
      subst e1
      obtain⟨x,vf,sw⟩:=di.2.1
      refine⟨di.1,⟨x,vf,fun _=>sw w6⟩,fun _=>di.2.2.1 w6,arr,ty,hw,hR.1,fun _=>FT,fun i hi=>⟨br _ (gu hi),hR.2 i hi⟩⟩
     ·cases e1
    ·rw[aq rY]at e1
     have fF:=aI.box b' Vh fM e1 e2
     obtain⟨x,vf,sw⟩:=fF.2.1
     by_cases sx:x=b
     · -- a dead box, whose block is this one's
      subst sx
      have w8:Vh=[]:=by
       apply qh
       intro hn
       exact rY (sw hn)
      subst w8
      have FZ:fM=blk∨fM≠blk:=by omega
      obtain⟨q1,q2,q3,HV,La,q4,q5,q6,q7⟩:=fF
      rcases FZ with rfl|FZ
      ·exact⟨q1,q2,q3,arr,ty,hw,bg _,fun hn=>absurd rfl hn,fun i hi=>absurd hi (da _)⟩
      ·exact⟨q1,q2,q3,HV,La,(Ga _ FZ).trans q4,q5,q6,q7⟩
     ·obtain⟨k1,k2,k3⟩:=hk _ _ vf (fun e=>by injection e with _ e;exact sx e)
      exact fF.cJ (bA.refl _ _ _) (fun y e=>e) k2 k3
   ·simp only[sW]at e2
    by_cases rY:b=b'
    ·subst rY
     rw[ak rfl]at e2
     split at e2
     ·injection e2 with e2
      exact absurd e2 aB
     ·cases e2
    ·rw[aq rY]at e2
     exact aI.full b' fM e1 e2
   ·have ht:=aI.tok g n T e1 e2
    have hs:∀(hn:n.isSome=true),G.own T.blk=some (.tok d g)∧w'.heap[T.blk]? =w.heap[T.blk]? ∧∀i,G.I T.blk i=none→G.I T.blk i=none:=fun hn=>by
     obtain⟨m,hm⟩:=oC.1 hn
     exact hk _ _ (ht.2 m hm).2.1 (fun e=>by cases e)
    exact ht.cJ (fun hn=>(hs hn).1) (fun hn=>(hs hn).2.1) (fun hn=>(hs hn).2.2)
   ·have hm:=aI.mark i b' e1
    obtain⟨k1,k2,_⟩:=hk _ _ hm.2.1 (fun e=>by cases e)
    exact hm.cJ k1 k2
  ·rw[aq hd]at h1
   exact(h.cI d' r' bI h1 h2).cJ (bA.refl _ _ _) hk (fun o ho=>by
    subst ho
    refine⟨fun b' e=>?_,fun g e=>?_,fun i e=>?_⟩
    ·injection e with e
     exact hd e
    ·cases e
    ·cases e)
 ·have nB:=h.loop l lp r' h1 h2
  obtain⟨k1,k2,_⟩:=hk _ _ nB.2.1 (fun e=>by cases e)
  exact nB.cJ (fun _ _ _ _=>bA.refl _ _ _) (aH _) k1 k2
theorem Rel.cells {y:AV} {v:Value} (h:Rel G k nl y v) (hc:y.cells.all AV.bt=true):ji (Rel G k nl) y.cells v.cells:=by
 by_cases hy:∃cs,y=.agg cs
 ·obtain⟨cs,rfl⟩:=hy
  obtain⟨arr,rfl,h1,_,h3⟩:=h.xn
  exact⟨h1,h3⟩
 ·have he:y.cells=[y]:=by
   unfold AV.cells
   split
   ·exact absurd ⟨_,rfl⟩ hy
   ·rfl
  rw[he]at hc⊢
  have Ph:y.bt=true:=by simpa using hc
  rw[h.one Ph]
  refine⟨rfl,fun i hi=>?_⟩
  have:i=0:=by simp at hi;omega
  subst this
  exact h
theorem KO {x:AV} {v:Value} (h:Rel G k nl x v) (hc:x.bt=true):v.oneCell'=true:=by
 have:=h.one hc
 cases v with
 | agg cs =>
  exfalso
  cases h with
  |cl h=>cases h with
   |v h=>simp[plain]at h
   |agg=>cases hc
  |agg=>cases hc
 | tuple vs =>
  exfalso
  cases h with
  |cl h=>cases h with
   |v h=>simp[plain]at h
  |undef=>cases hc
  |tuple=>cases hc
 |_=>rfl
theorem as4 {b:Nat} {arr:Array Value} {ty:TypeId} {off n:Nat} {t:TypeId} {v:Value} (hw:w.heap[b]? =some (.cells arr ty)) (hn:cK P t=some n) (hs:v.cells.size=n) (hle:off+n≤arr.size)
  (h1:∀u,u∈v.cells.toList→u.oneCell'=true):(Instr.storeAt t (.pointer (some ⟨b,off,none⟩)) v).run P w=.ok () (w.setCells b off v.cells.toList):=by
 have cp:=run_storeCells_cells (P:=P) b off v.cells.toList 0 w (fun j hj=>by
   have dH:j<n:=by simpa[hs]using hj
   rw[cell_of_heap hw]
   simp;omega) (fun j _=>frozen_of_heap hw) h1
 simp only[Instr.storeAt,Instr.sureAddr,storeVar,Sem.run_bind,Sem.run_pure,Result.andThen_ok,jt hn]
 rw[aq (by simp[hs])]
 simpa using cp
end
end Go.Ax
/-
  Memory: an activation's record is changed; new boxes; rights to append are made, moved and dropped.
-/
namespace Go.Ax
open Go.RowKit
section
variable{P:Program} {B0:Nat} {w0:World} {G G':aG} {k nl:Nat} {w w':World} {s:ae}
theorem cu.bp (h:cu P B0 w0 G s w) {d0:Nat} {r0:Rec} {iA:cH} (hr:s.ag[d0]? =some r0) (hg:G.ag[d0]? =some iA) (f:Rec→Rec) (gf:cH→cH) (X:rA→Prop)
  (hG:G'.ag=G.ag.modify d0 gf) (hL:G'.loops=G.loops) (hI:∀b i v,G.I b i=some v→G'.I b i=some v) (eZ:iN iA (gf iA)) (hm0:(gf iA).marks=iA.marks)
  (hk:jv X G w G' w') (hX:∀o,X o→(∃b,o=.box d0 b)∨∃g,o=.tok d0 g) (ajT:vS B0 G' d0 (f r0) (gf iA) w')
  (FW:∀b i v,G'.I b i=some v→w'.cell? ⟨b,i,none⟩=some v) (hb:Below B0 w w') (F9:∀b o,G'.own b=some o→b<w'.heap.size):
  cu P B0 w0 G' (s.bp d0 f) w'∧∀k nl,bA k nl G G':=by
 have hle:∀k nl,bA k nl G G':=fun k nl=>⟨hI,fun d gr _ e=>by
  rw[hG,dM]
  by_cases hd:d0=d
  ·subst hd
   rw[hg]at e
   injection e with e
   subst e
   exact⟨_,by rw[ak rfl,hg];rfl,eZ,fun _=>hm0⟩
  ·exact⟨gr,by rw[aq hd];exact e,.refl gr,fun _=>rfl⟩,fun l r _ e=>by rw[hL];exact e⟩
 have OC:∀(d:Nat) (bI:cH),G'.ag[d]? =some bI→∃gr:cH,G.ag[d]? =some gr∧bI.nl=gr.nl:=fun d bI e=>by
  rw[hG,dM]at e
  by_cases hd:d0=d
  ·subst hd
   rw[ak rfl,hg]at e
   simp only[dK,fl]at e
   subst e
   exact⟨iA,hg,eZ.nl⟩
  ·rw[aq hd]at e
   exact⟨bI,e,rfl⟩
 refine⟨⟨FW,by simp only[hG,ae.bp,Lz];exact h.len,by rw[hL];exact h.jG,fun d r gr h1 h2=>?_,fun l lp r h1 h2=>?_,fun d gr e=>?_,fun d d' gr bI hd e e'=>?_,h.below.trans hb,kO h.low hb.size,F9⟩,hle⟩
 ·simp only[ae.bp,dM]at h1
  rw[hG,dM]at h2
  by_cases hd:d0=d
  ·subst hd
   rw[ak rfl,hr]at h1
   rw[ak rfl,hg]at h2
   simp only[dK,fl]at h1 h2
   subst h1 h2
   exact ajT
  ·rw[aq hd]at h1 h2
   refine(h.cI d r gr h1 h2).cJ (hle _ _) hk (fun o ho=>?_)
   rcases hX o ho with⟨b,rfl⟩|⟨g,rfl⟩
   ·refine⟨fun b' e=>?_,fun g e=>?_,fun i e=>?_⟩
    ·injection e with e;exact hd e
    ·cases e
    ·cases e
   ·refine⟨fun b' e=>?_,fun g e=>?_,fun i e=>?_⟩
    ·cases e
    ·injection e with e;exact hd e
    ·cases e
 ·rw[hL]at h2
  have nB:=h.loop l lp r h1 h2
  obtain⟨k1,k2,_⟩:=hk _ _ nB.2.1 (fun hx=>by rcases hX _ hx with⟨b,e⟩|⟨g,e⟩<;>cases e)
  exact nB.cJ (fun k nl _ _=>hle k nl) (by rw[hG,Lz];exact aH _) k1 k2
 ·obtain⟨ahp,e0,e1⟩:=OC d gr e
  rw[e1]
  exact h.pr d ahp e0
 ·obtain⟨a,e0,e1⟩:=OC d gr e
  obtain⟨b,e2,e3⟩:=OC d' bI e'
  rw[e1,e3]
  exact h.qZ d d' a b hd e0 e2
def db (P:Program) (B0:Nat) (w0:World) (G:aG) (k nl:Nat) (s s':ae) (w':World) (x:AV) (x':Value):Prop:=
 ∃G',At P B0 w0 G' k nl s' w'∧bA (k+1) s.loops.length G G'∧s'.loops.length=s.loops.length∧Rel G' k nl x x'
theorem At.to {G':aG} {s':ae} (h:At P B0 w0 G k nl s w) (hr:cu P B0 w0 G' s' w') (hle:bA k nl G G') (hl:s'.ag.length=s.ag.length):At P B0 w0 G' k nl s' w':=by
 obtain⟨gr,h1,h2⟩:=h.cur
 obtain⟨bI,h3,h4,_⟩:=hle.ag k gr (aH _) h1
 exact⟨hr,hl.trans h.len,bI,h3,h4.nl.trans h2⟩
theorem At.cI (h:At P B0 w0 G k nl s w) {d:Nat} (hd:d≤k):∃r gr,s.ag[d]? =some r∧G.ag[d]? =some gr:=by
 have h1:d<s.ag.length:=by rw[h.len];omega
 have h2:d<G.ag.length:=by rw[h.rel.len];exact h1
 exact⟨_,_,cM h1,cM h2⟩
theorem ek {α:Type} {l:List α} {b:Nat} {x y:α} (h:(l++[x])[b]? =some y):(b<l.length∧l[b]? =some y)∨(b=l.length∧y=x):=by
 rcases Sy b l.length with hb|hb
 ·rw[dC hb]at h;exact .inl ⟨hb,h⟩
 ·rw[gD hb]at h
  have:b-l.length=0:=by
   have:=(bd.1 h).1
   simp at this;omega
  rw[this]at h
  simp at h
  exact .inr ⟨by omega,h.symm⟩
theorem my {α:Type} {l:List α} {b:Nat} {x y:α} (h:l[b]? =some y):(l++[x])[b]? =some y:=by
 rw[dC (bd.1 h).1];exact h
theorem zw (h:At P B0 w0 G k nl s w) {cs:List AV} {arr:Array Value} (ty:TypeId) (z:Option Nat) (hz:∀n,z=some n→arr.size=n) (aB:cs≠[]) (br:∀c,c∈cs→c.bt=true) (hR:ku (Rel G k nl) cs arr):
  db P B0 w0 G k nl s (s.dz cs).2 (w.alloc (.cells arr ty)) (s.dz cs).1 (.pointer (some ⟨w.heap.size,0,none⟩))∧
  db P B0 w0 G k nl s (s.dz cs).2 (w.alloc (.cells arr ty)) (.aO s.cur (s.bL s.cur) 0 0 0 0) (.slice (some ⟨w.heap.size,0,none⟩) 0 0)∧
  ∀es n cap rc,n≤rc→cap≤rc→(cap=0→0<n→z=some (rc*es))→db P B0 w0 G k nl s (s.dz cs).2 (w.alloc (.cells arr ty)) (.aO s.cur (s.bL s.cur) 0 es n cap) (.slice (some ⟨w.heap.size,0,none⟩) n rc):=by
 obtain⟨r,gr,hr,hg⟩:=h.cI (aH k)
 have ll:gr.nl=nl:=by obtain⟨g',e1,e2⟩:=h.cur;rw[hg]at e1;injection e1 with e1;rw[e1];exact e2
 have aI:=h.rel.cI k r gr hr hg
 let G':aG:={G with ag:=G.ag.modify k fun q=>{q with bl:=q.bl++[some w.heap.size],gs:=fun b=>if b=r.boxes.length then z else q.gs b},own:=fun b=>if b=w.heap.size then some (.box k r.boxes.length)else G.own b}
 have hk:jv (fun _=>False) G w G' (w.alloc (.cells arr ty)):=fun b o e _=>by
  have aC:=h.rel.eM b o e
  exact⟨by simp only[G'];rw[aq (by omega)];exact e,Below.heap_alloc _ _ _ aC,fun _ e=>e⟩
 have eZ:iN gr {gr with bl:=gr.bl++[some w.heap.size],gs:=fun b=>if b=r.boxes.length then z else gr.gs b}:=⟨fun b blk e=>my e,fun g T e=>⟨T,e,.refl T⟩,rfl,fun b n e=>by
  obtain⟨blk,hb⟩:=aI.mz b n e
  have:=(bd.1 hb).1
  rw[aI.dX]at this
  simp only
  rw[aq (by omega)];exact e⟩
 have gy:(w.alloc (.cells arr ty)).heap[w.heap.size]? =some (.cells arr ty):=World.alloc_heap_new w _
 have hle:bA k nl G G':=⟨fun _ _ _ e=>e,fun d q _ e=>by
  simp only[G',dM]
  by_cases hd:k=d
  ·subst hd
   rw[hg]at e
   injection e with e
   subst e
   exact⟨_,by rw[ak rfl,hg];rfl,eZ,fun _=>rfl⟩
  ·exact⟨q,by rw[aq hd];exact e,.refl q,fun _=>rfl⟩,fun _ _ _ e=>e⟩
 have fR:=h.rel.bp (G':=G') (w':=w.alloc (.cells arr ty)) hr hg (fun r=>{r with boxes:=r.boxes++[cs]}) (fun q=>{q with bl:=q.bl++[some w.heap.size],gs:=fun b=>if b=r.boxes.length then z else q.gs b}) (fun _=>False) rfl rfl (fun _ _ _ e=>e) eZ rfl hk
  (fun o ho=>ho.elim) ?_ (fun b i v e=>?_) ((Below.refl _ _).alloc h.rel.low _) (fun b o e=>?_)
 ·obtain⟨hs,jC⟩:=fR
  have mL:cu P B0 w0 G' (s.dz cs).2 (w.alloc (.cells arr ty)):=by
   simp only[ae.dz,h.gI,ae.jj]
   exact hs
  have hlen:(s.dz cs).2.ag.length=s.ag.length:=by simp[ae.dz,ae.jj,ae.bp]
  have iS:=h.to mL hle hlen
  have mJ:s.bL s.cur=r.boxes.length:=by simp[ae.bL,h.gI,hr]
  have gw:G'.ag[k]? =some {gr with bl:=gr.bl++[some w.heap.size],gs:=fun b=>if b=r.boxes.length then z else gr.gs b}:=by
   show(G.ag.modify k _)[k]? =_
   rw[dM,ak rfl,hg];rfl
  have yY:({gr with bl:=gr.bl++[some w.heap.size],gs:=fun b=>if b=r.boxes.length then z else gr.gs b}:cH).bl[r.boxes.length]? =some (some w.heap.size):=by
   show(gr.bl++[some w.heap.size])[r.boxes.length]? =_
   rw[←aI.dX,gD (aH _)]
   simp
  have aR:(s.dz cs).2.loops.length=s.loops.length:=by simp[ae.dz,ae.jj,ae.bp]
  refine⟨⟨G',iS,jC _ _,aR,?_⟩,⟨G',iS,jC _ _,aR,?_⟩,fun es n cap rc hn hc hw=>⟨G',iS,jC _ _,aR,?_⟩⟩
  ·simp only[ae.dz,h.gI]
   rw[h.gI]at mJ
   rw[mJ]
   exact .ptr _ (aH _) gw yY
  ·rw[mJ,h.gI]
   exact .aO _ (aH _) gw yY (aH _) (aH _) (fun _ h=>absurd h (zU _)) (fun _=>rfl)
  ·rw[mJ,h.gI]
   exact .aO _ (aH _) gw yY hn hc (fun e1 e2=>by simp only;rw[ak trivial];exact hw e1 e2) (fun _=>rfl)
 ·refine⟨by simp[aI.dX],aI.iI,fun b cs' blk e1 e2=>?_,fun b blk e1 e2=>?_,fun g n T e1 e2=>?_,fun i b e1=>?_,fun b n e1=>?_⟩
  ·rcases ek e1 with⟨hb,e1⟩|⟨hb,rfl⟩
   ·have iQ:gr.bl[b]? =some (some blk):=by
     rcases ek e2 with⟨_,e2⟩|⟨fF,_⟩
     ·exact e2
     ·rw[aI.dX]at fF;omega
    have di:=(aI.box b cs' blk e1 iQ).kept (by rw[ll];exact hle) hk (fun _ x=>x)
    show pC B0 G' k gr.nl b (if b=r.boxes.length then z else gr.gs b) cs' blk _
    rw[aq (by omega)];exact di
   ·have:blk=w.heap.size:=by
     rcases ek e2 with⟨fF,_⟩|⟨_,e⟩
     ·rw[aI.dX]at fF;omega
     ·injection e
    subst this
    subst hb
    refine⟨h.rel.low,⟨_,by simp[G'],fun _=>rfl⟩,fun _=>h.rel.uk,arr,ty,gy,hR.1,fun _ n hn=>hz n (by simpa using hn),fun i hi=>⟨br _ (gu hi),?_⟩⟩
    have:=(hR.2 i hi).mono hle (aH _) (aH _)
    show Rel G' k gr.nl _ _
    rw[ll]
    exact this
  ·rcases ek e2 with⟨hb,e2⟩|⟨hb,e2⟩
   ·have j4:gr.bl[b]? =some (some blk):=by
     rcases ek e1 with⟨_,e1⟩|⟨fF,_⟩
     ·exact e1
     ·rw[aI.dX]at fF;omega
    exact aI.full b blk j4 e2
   ·exact absurd e2.symm aB
  ·have ht:=aI.tok g n T e1 e2
   have hs:∀(hn:n.isSome=true),G'.own T.blk=some (.tok k g)∧(w.alloc (.cells arr ty)).heap[T.blk]? =w.heap[T.blk]? ∧∀i,G.I T.blk i=none→G'.I T.blk i=none:=fun hn=>by
    obtain⟨m,hm⟩:=oC.1 hn
    exact hk _ _ (ht.2 m hm).2.1 (fun x=>x)
   exact ht.cJ (fun hn=>(hs hn).1) (fun hn=>(hs hn).2.1) (fun hn=>(hs hn).2.2)
  ·have hm:=aI.mark i b e1
   obtain⟨k1,k2,_⟩:=hk _ _ hm.2.1 (fun x=>x)
   exact hm.cJ k1 k2
  ·simp only at e1
   split at e1
   ·rename_i hb
    subst hb
    refine⟨w.heap.size,?_⟩
    rw[←aI.dX,gD (aH _)]
    simp
   ·obtain⟨blk,hb⟩:=aI.mz b n e1
    exact⟨blk,my hb⟩
 ·have aC:=h.rel.sS e
  rw[World.cell?_alloc_lt _ _ _ (by exact aC)]
  exact h.rel.fc b i v e
 ·simp only[G']at e
  split at e
  ·rename_i hb;subst hb;simp
  ·have:=h.rel.eM b o e;simp;omega
theorem ao1 (h:At P B0 w0 G k nl s w) {d:Nat} {gr:cH} (hd:d≤k) (hg:G.ag[d]? =some gr) {cs:List AV} {arr:Array Value} (ty:TypeId) (z:Option Nat) (hz:∀n,z=some n→arr.size=n) (aB:cs≠[]) (br:∀c,c∈cs→c.bt=true) (hR:ku (Rel G d gr.nl) cs arr):
  ∀es n cap rc,n≤rc→cap≤rc→(cap=0→0<n→z=some (rc*es))→db P B0 w0 G k nl s (s.jj d cs) (w.alloc (.cells arr ty)) (.aO d (s.bL d) 0 es n cap) (.slice (some ⟨w.heap.size,0,none⟩) n rc):=by
 obtain⟨r,bI,hr,bu⟩:=h.cI hd
 rw[hg]at bu
 injection bu with bu
 subst bu
 have aI:=h.rel.cI d r gr hr hg
 let G':aG:={G with ag:=G.ag.modify d fun q=>{q with bl:=q.bl++[some w.heap.size],gs:=fun b=>if b=r.boxes.length then z else q.gs b},own:=fun b=>if b=w.heap.size then some (.box d r.boxes.length)else G.own b}
 have hk:jv (fun _=>False) G w G' (w.alloc (.cells arr ty)):=fun b o e _=>by
  have aC:=h.rel.eM b o e
  exact⟨by simp only[G'];rw[aq (by omega)];exact e,Below.heap_alloc _ _ _ aC,fun _ e=>e⟩
 have eZ:iN gr {gr with bl:=gr.bl++[some w.heap.size],gs:=fun b=>if b=r.boxes.length then z else gr.gs b}:=⟨fun b blk e=>my e,fun g T e=>⟨T,e,.refl T⟩,rfl,fun b n e=>by
  obtain⟨blk,hb⟩:=aI.mz b n e
  have:=(bd.1 hb).1
  rw[aI.dX]at this
  simp only
  rw[aq (by omega)];exact e⟩
 have gy:(w.alloc (.cells arr ty)).heap[w.heap.size]? =some (.cells arr ty):=World.alloc_heap_new w _
 have hle:bA d gr.nl G G':=⟨fun _ _ _ e=>e,fun d' q _ e=>by
  simp only[G',dM]
  by_cases hd:d=d'
  ·subst hd
   rw[hg]at e
   injection e with e
   subst e
   exact⟨_,by rw[ak rfl,hg];rfl,eZ,fun _=>rfl⟩
  ·exact⟨q,by rw[aq hd];exact e,.refl q,fun _=>rfl⟩,fun _ _ _ e=>e⟩
 have fR:=h.rel.bp (G':=G') (w':=w.alloc (.cells arr ty)) hr hg (fun r=>{r with boxes:=r.boxes++[cs]}) (fun q=>{q with bl:=q.bl++[some w.heap.size],gs:=fun b=>if b=r.boxes.length then z else q.gs b}) (fun _=>False) rfl rfl (fun _ _ _ e=>e) eZ rfl hk
  (fun o ho=>ho.elim) ?_ (fun b i v e=>?_) ((Below.refl _ _).alloc h.rel.low _) (fun b o e=>?_)
 ·obtain⟨hs,jC⟩:=fR
  have mL:cu P B0 w0 G' (s.jj d cs) (w.alloc (.cells arr ty)):=hs
  have hlen:(s.jj d cs).ag.length=s.ag.length:=by simp[ae.jj,ae.bp]
  have iS:=h.to mL (jC k nl) hlen
  have mJ:s.bL d=r.boxes.length:=by simp[ae.bL,hr]
  have gw:G'.ag[d]? =some {gr with bl:=gr.bl++[some w.heap.size],gs:=fun b=>if b=r.boxes.length then z else gr.gs b}:=by
   show(G.ag.modify d _)[d]? =_
   rw[dM,ak rfl,hg];rfl
  have yY:({gr with bl:=gr.bl++[some w.heap.size],gs:=fun b=>if b=r.boxes.length then z else gr.gs b}:cH).bl[r.boxes.length]? =some (some w.heap.size):=by
   show(gr.bl++[some w.heap.size])[r.boxes.length]? =_
   rw[←aI.dX,gD (aH _)]
   simp
  have aR:(s.jj d cs).loops.length=s.loops.length:=by simp[ae.jj,ae.bp]
  refine fun es n cap rc hn hc hw=>⟨G',iS,jC _ _,aR,?_⟩
  rw[mJ]
  exact .aO _ hd gw yY hn hc (fun e1 e2=>by simp only;rw[ak trivial];exact hw e1 e2) (fun _=>rfl)
 ·refine⟨by simp[aI.dX],aI.iI,fun b cs' blk e1 e2=>?_,fun b blk e1 e2=>?_,fun g n T e1 e2=>?_,fun i b e1=>?_,fun b n e1=>?_⟩
  ·rcases ek e1 with⟨hb,e1⟩|⟨hb,rfl⟩
   ·have iQ:gr.bl[b]? =some (some blk):=by
     rcases ek e2 with⟨_,e2⟩|⟨fF,_⟩
     ·exact e2
     ·rw[aI.dX]at fF;omega
    have di:=(aI.box b cs' blk e1 iQ).kept hle hk (fun _ x=>x)
    show pC B0 G' d gr.nl b (if b=r.boxes.length then z else gr.gs b) cs' blk _
    rw[aq (by omega)];exact di
   ·have:blk=w.heap.size:=by
     rcases ek e2 with⟨fF,_⟩|⟨_,e⟩
     ·rw[aI.dX]at fF;omega
     ·injection e
    subst this
    subst hb
    refine⟨h.rel.low,⟨_,by simp[G'],fun _=>rfl⟩,fun _=>h.rel.uk,arr,ty,gy,hR.1,fun _ n hn=>hz n (by simpa using hn),fun i hi=>⟨br _ (gu hi),?_⟩⟩
    have:=(hR.2 i hi).mono hle (aH _) (aH _)
    exact this
  ·rcases ek e2 with⟨hb,e2⟩|⟨hb,e2⟩
   ·have j4:gr.bl[b]? =some (some blk):=by
     rcases ek e1 with⟨_,e1⟩|⟨fF,_⟩
     ·exact e1
     ·rw[aI.dX]at fF;omega
    exact aI.full b blk j4 e2
   ·exact absurd e2.symm aB
  ·have ht:=aI.tok g n T e1 e2
   have hs:∀(hn:n.isSome=true),G'.own T.blk=some (.tok d g)∧(w.alloc (.cells arr ty)).heap[T.blk]? =w.heap[T.blk]? ∧∀i,G.I T.blk i=none→G'.I T.blk i=none:=fun hn=>by
    obtain⟨m,hm⟩:=oC.1 hn
    exact hk _ _ (ht.2 m hm).2.1 (fun x=>x)
   exact ht.cJ (fun hn=>(hs hn).1) (fun hn=>(hs hn).2.1) (fun hn=>(hs hn).2.2)
  ·have hm:=aI.mark i b e1
   obtain⟨k1,k2,_⟩:=hk _ _ hm.2.1 (fun x=>x)
   exact hm.cJ k1 k2
  ·simp only at e1
   split at e1
   ·rename_i hb
    subst hb
    refine⟨w.heap.size,?_⟩
    rw[←aI.dX,gD (aH _)]
    simp
   ·obtain⟨blk,hb⟩:=aI.mz b n e1
    exact⟨blk,my hb⟩
 ·have aC:=h.rel.sS e
  rw[World.cell?_alloc_lt _ _ _ (by exact aC)]
  exact h.rel.fc b i v e
 ·simp only[G']at e
  split at e
  ·rename_i hb;subst hb;simp
  ·have:=h.rel.eM b o e;simp;omega
theorem ab5 (h:cu P B0 w0 G s w) {d:Nat} {r:Rec} {gr:cH} {blk:Nat} {cs:List AV} {arr:Array Value} {ty:TypeId} {z:Option Nat} (hr:s.ag[d]? =some r) (hg:G.ag[d]? =some gr) (yX:G.own blk=none) (hI:∀i,G.I blk i=none)
  (hB:B0≤blk) (hw:w.heap[blk]? =some (.cells arr ty)) (aB:cs≠[]) (br:∀c,c∈cs→c.bt=true) (hle:cs.length≤arr.size) (hR:∀i (hi:i<cs.length),bJ G.I cs[i] (arr.getD i Go.undef)) (hz:∀n,z=some n→arr.size=n):
  ∃G',G'.ag=G.ag.modify d (fun q=>{q with bl:=q.bl++[some blk],gs:=fun b=>if b=r.boxes.length then z else q.gs b})∧G'.I=G.I∧cu P B0 w0 G' (s.jj d cs) w∧(∀k nl,bA k nl G G')∧
   ∃g2,G'.ag[d]? =some g2∧g2.bl[r.boxes.length]? =some (some blk)∧g2.gs r.boxes.length=z:=by
 have aI:=h.cI d r gr hr hg
 let gf:cH→cH:=fun q=>{q with bl:=q.bl++[some blk],gs:=fun b=>if b=r.boxes.length then z else q.gs b}
 let G':aG:={G with ag:=G.ag.modify d gf,own:=fun b=>if b=blk then some (.box d r.boxes.length)else G.own b}
 have hk:jv (fun _=>False) G w G' w:=fun b o e _=>by
  refine⟨?_,rfl,fun _ e=>e⟩
  simp only[G']
  rw[aq (by rintro rfl;rw[yX]at e;cases e)]
  exact e
 have eZ:iN gr (gf gr):=⟨fun b blk e=>my e,fun g T e=>⟨T,e,.refl T⟩,rfl,fun b n e=>by
  obtain⟨q,hb⟩:=aI.mz b n e
  have:=(bd.1 hb).1
  rw[aI.dX]at this
  simp only[gf]
  rw[aq (by omega)];exact e⟩
 have u0:bA d gr.nl G G':=⟨fun _ _ _ e=>e,fun d' q _ e=>by
  simp only[G',dM]
  by_cases hd:d=d'
  ·subst hd
   rw[hg]at e
   injection e with e
   subst e
   exact⟨_,by rw[ak rfl,hg];rfl,eZ,fun _=>rfl⟩
  ·exact⟨q,by rw[aq hd];exact e,.refl q,fun _=>rfl⟩,fun _ _ _ e=>e⟩
 have fR:=h.bp (G':=G') (w':=w) hr hg (fun r=>{r with boxes:=r.boxes++[cs]}) gf (fun _=>False) rfl rfl (fun _ _ _ e=>e) eZ rfl hk (fun o ho=>ho.elim) ?_ h.fc (Below.refl _ _) (fun b o e=>?_)
 ·refine⟨G',rfl,rfl,fR.1,fR.2,gf gr,?_,?_,?_⟩
  ·show(G.ag.modify d gf)[d]? =_
   rw[dM,ak rfl,hg];rfl
  ·show(gr.bl++[some blk])[r.boxes.length]? =_
   rw[←aI.dX,gD (aH _)]
   simp
  ·simp[gf]
 ·refine⟨by simp[gf,aI.dX],aI.iI,fun b cs' bk e1 e2=>?_,fun b bk e1 e2=>?_,fun g n T e1 e2=>?_,fun i b e1=>?_,fun b n e1=>?_⟩
  ·rcases ek e1 with⟨hb,e1⟩|⟨hb,rfl⟩
   ·have iQ:gr.bl[b]? =some (some bk):=by
     rcases ek e2 with⟨_,e2⟩|⟨fF,_⟩
     ·exact e2
     ·rw[aI.dX]at fF;omega
    have di:=(aI.box b cs' bk e1 iQ).kept u0 hk (fun _ x=>x)
    show pC B0 G' d gr.nl b (if b=r.boxes.length then z else gr.gs b) cs' bk _
    rw[aq (by omega)];exact di
   ·have:bk=blk:=by
     rcases ek e2 with⟨fF,_⟩|⟨_,e⟩
     ·rw[aI.dX]at fF;omega
     ·injection e
    subst this
    subst hb
    exact⟨hB,⟨_,by simp[G'],fun _=>rfl⟩,fun _=>hI,arr,ty,hw,hle,fun _ n hn=>hz n (by simpa[gf]using hn),fun i hi=>⟨br _ (gu hi),.cl (hR i hi)⟩⟩
  ·rcases ek e2 with⟨hb,e2⟩|⟨hb,e2⟩
   ·have j4:gr.bl[b]? =some (some bk):=by
     rcases ek e1 with⟨_,e1⟩|⟨fF,_⟩
     ·exact e1
     ·rw[aI.dX]at fF;omega
    exact aI.full b bk j4 e2
   ·exact absurd e2.symm aB
  ·have ht:=aI.tok g n T e1 e2
   have hs:∀(hn:n.isSome=true),G'.own T.blk=some (.tok d g)∧w.heap[T.blk]? =w.heap[T.blk]? ∧∀i,G.I T.blk i=none→G'.I T.blk i=none:=fun hn=>by
    obtain⟨m,hm⟩:=oC.1 hn
    exact hk _ _ (ht.2 m hm).2.1 (fun x=>x)
   exact ht.cJ (fun hn=>(hs hn).1) (fun hn=>(hs hn).2.1) (fun hn=>(hs hn).2.2)
  ·have hm:=aI.mark i b e1
   obtain⟨k1,k2,_⟩:=hk _ _ hm.2.1 (fun x=>x)
   exact hm.cJ k1 k2
  ·simp only[gf]at e1
   split at e1
   ·rename_i hb
    subst hb
    refine⟨blk,?_⟩
    show(gr.bl++[some blk])[r.boxes.length]? =_
    rw[←aI.dX,gD (aH _)]
    simp
   ·obtain⟨q,hb⟩:=aI.mz b n e1
    exact⟨q,my hb⟩
 ·simp only[G']at e
  split at e
  ·rename_i hb;subst hb;exact(uf.1 hw).1
  ·exact h.eM b o e
theorem Jz {α:Type} {l:List α} {x:α} {n b:Nat} {y:α} (h:(l++List.replicate n x)[b]? =some y):l[b]? =some y∨(l.length≤b∧y=x):=by
 rcases Sy b l.length with hb|hb
 ·rw[dC hb]at h;exact .inl h
 ·rw[gD hb]at h
  exact .inr ⟨hb,by rw[Sd]at h;split at h;(injection h with h;exact h.symm);cases h⟩
theorem arL (h:At P B0 w0 G k nl s w) (n:Nat):db P B0 w0 G k nl s (s.lG n) w AV.undef Go.undef:=by
 obtain⟨r,gr,hr,hg⟩:=h.cI (aH k)
 have aI:=h.rel.cI k r gr hr hg
 let G':aG:={G with ag:=G.ag.modify k fun q=>{q with bl:=q.bl++List.replicate n none}}
 have hk:jv (fun _=>False) G w G' w:=fun b o e _=>⟨e,rfl,fun _ e=>e⟩
 have eZ:iN gr {gr with bl:=gr.bl++List.replicate n none}:=⟨fun b blk e=>by
  show(gr.bl++_)[b]? =_
  rw[dC (bd.1 e).1];exact e,fun g T e=>⟨T,e,.refl T⟩,rfl,fun _ _ e=>e⟩
 have hle:bA k gr.nl G G':=⟨fun _ _ _ e=>e,fun d q _ e=>by
  simp only[G',dM]
  by_cases hd:k=d
  ·subst hd
   rw[hg]at e
   injection e with e
   subst e
   exact⟨_,by rw[ak rfl,hg];rfl,eZ,fun _=>rfl⟩
  ·exact⟨q,by rw[aq hd];exact e,.refl q,fun _=>rfl⟩,fun _ _ _ e=>e⟩
 have fR:=h.rel.bp (G':=G') (w':=w) hr hg (fun r=>{r with boxes:=r.boxes++List.replicate n []}) (fun q=>{q with bl:=q.bl++List.replicate n none}) (fun _=>False) rfl rfl (fun _ _ _ e=>e) eZ rfl hk
  (fun o ho=>ho.elim) ?_ (fun b i v e=>h.rel.fc b i v e) (Below.refl _ _) (fun b o e=>h.rel.eM b o e)
 ·obtain⟨hs,jC⟩:=fR
  have mL:cu P B0 w0 G' (s.lG n) w:=by
   simp only[ae.lG,h.gI]
   exact hs
  exact⟨G',h.to mL (jC _ _) (by simp[ae.lG,ae.bp]),jC _ _,by simp[ae.lG,ae.bp],.undef⟩
 ·refine⟨by simp[aI.dX],aI.iI,fun b cs' blk e1 e2=>?_,fun b blk e1 e2=>?_,fun g n T e1 e2=>?_,fun i b e1=>?_,fun b n e1=>?_⟩
  ·have iQ:gr.bl[b]? =some (some blk):=by
    rcases Jz e2 with e2|⟨_,e⟩
    ·exact e2
    ·cases e
   have j4:r.boxes[b]? =some cs':=by
    rcases Jz e1 with e1|⟨fF,_⟩
    ·exact e1
    ·have:=(bd.1 iQ).1;rw[aI.dX]at this;omega
   exact(aI.box b cs' blk j4 iQ).kept hle hk (fun _ x=>x)
  ·have j4:gr.bl[b]? =some (some blk):=by
    rcases Jz e1 with e1|⟨_,e⟩
    ·exact e1
    ·cases e
   rcases Jz e2 with e2|⟨fF,_⟩
   ·exact aI.full b blk j4 e2
   ·have:=(bd.1 j4).1;rw[aI.dX]at this;omega
  ·exact aI.tok g n T e1 e2
  ·exact aI.mark i b e1
  ·obtain⟨blk,hb⟩:=aI.mz b n e1
   refine⟨blk,?_⟩
   show(gr.bl++_)[b]? =_
   rw[dC (bd.1 hb).1];exact hb
theorem asR (h:At P B0 w0 G k nl s w) {zs:List AV} {arr:Array Value} (ty:TypeId) {back:Nat} {v:AV} {s':ae} (br:∀c,c∈zs→c.bt=true) (hR:ji (Rel G k nl) zs arr)
  (hv:mg s back zs=some (v,s')):db P B0 w0 G k nl s s' (w.alloc (.cells arr ty)) v (.pointer (some ⟨w.heap.size,0,none⟩)):=by
 obtain⟨r,gr,hr,hg⟩:=h.cI (aH k)
 have ll:gr.nl=nl:=by obtain⟨g',e1,e2⟩:=h.cur;rw[hg]at e1;injection e1 with e1;rw[e1];exact e2
 have aI:=h.rel.cI k r gr hr hg
 unfold mg at hv
 split at hv
 case h_2=>cases hv
 rename_i di
 split at hv
 ·cases hv
 rename_i w6
 have ajn:zs.isEmpty≠true:=fun e=>w6 (.inl e)
 have si:s.lB s.cur=false:=by cases e:s.lB s.cur with|true=>exact absurd (.inr e) w6|false=>rfl
 injection hv with hv
 injection hv with PO PQ
 subst PO PQ
 have aB:zs≠[]:=fun e=>ajn (by rw[e];rfl)
 rw[h.gI]at di si⊢
 have pZ:none∉r.toks:=by
  simp only[ae.lB,hr]at si
  intro hm
  have:=zM.1 si none hm
  exact this rfl
 generalize s.bL k-back=b0 at*
 have jz:r.boxes[b0]? =some []:=by
  simpa[ae.box,hr]using di
 have FF:b0<r.boxes.length:=(bd.1 jz).1
 have WT:gr.bl[b0]? =some none:=by
  have hl:b0<gr.bl.length:=by rw[aI.dX];exact FF
  rw[cM hl]
  cases e:gr.bl[b0]with
  |none=>rfl
  |some blk=>exact absurd (aI.full b0 blk (by rw[cM hl,e]) jz) pZ
 let G':aG:={G with ag:=G.ag.modify k fun q=>{q with bl:=q.bl.set b0 (some w.heap.size)},own:=fun b=>if b=w.heap.size then some (.box k b0)else G.own b}
 have hk:jv (fun _=>False) G w G' (w.alloc (.cells arr ty)):=fun b o e _=>by
  have aC:=h.rel.eM b o e
  exact⟨by simp only[G'];rw[aq (by omega)];exact e,Below.heap_alloc _ _ _ aC,fun _ e=>e⟩
 have su:∀(b:Nat) (x:Option Nat),b≠b0→(gr.bl.set b0 (some w.heap.size))[b]? =some x→gr.bl[b]? =some x:=fun b x hb e=>by
  rw[eI (qi hb)]at e;exact e
 have eZ:iN gr {gr with bl:=gr.bl.set b0 (some w.heap.size)}:=⟨fun b blk e=>by
  show(gr.bl.set _ _)[b]? =_
  by_cases hb:b=b0
  ·subst hb;rw[WT]at e;cases e
  ·rw[eI (qi hb)];exact e,fun g T e=>⟨T,e,.refl T⟩,rfl,fun _ _ e=>e⟩
 have gy:(w.alloc (.cells arr ty)).heap[w.heap.size]? =some (.cells arr ty):=World.alloc_heap_new w _
 have hle:bA k nl G G':=⟨fun _ _ _ e=>e,fun d q _ e=>by
  simp only[G',dM]
  by_cases hd:k=d
  ·subst hd
   rw[hg]at e
   injection e with e
   subst e
   exact⟨_,by rw[ak rfl,hg];rfl,eZ,fun _=>rfl⟩
  ·exact⟨q,by rw[aq hd];exact e,.refl q,fun _=>rfl⟩,fun _ _ _ e=>e⟩
 have fR:=h.rel.bp (G':=G') (w':=w.alloc (.cells arr ty)) hr hg (fun r=>{r with boxes:=r.boxes.set b0 zs}) (fun q=>{q with bl:=q.bl.set b0 (some w.heap.size)}) (fun _=>False) rfl rfl (fun _ _ _ e=>e) eZ rfl hk
  (fun o ho=>ho.elim) ?_ (fun b i v e=>?_) ((Below.refl _ _).alloc h.rel.low _) (fun b o e=>?_)
 ·obtain⟨hs,jC⟩:=fR
  have iS:=h.to (s':=s.dA k b0 zs) hs (jC k nl) (by simp[ae.dA,ae.bp])
  refine⟨G',iS,jC _ _,by simp[ae.dA,ae.bp],?_⟩
  have gw:G'.ag[k]? =some {gr with bl:=gr.bl.set b0 (some w.heap.size)}:=by
   show(G.ag.modify k _)[k]? =_
   rw[dM,ak rfl,hg];rfl
  refine .ptr _ (aH _) gw ?_
  show(gr.bl.set b0 (some w.heap.size))[b0]? =_
  rw[mj (by rw[aI.dX];exact FF)]
 ·refine⟨by simp[aI.dX],aI.iI,fun b cs' blk e1 e2=>?_,fun b blk e1 e2=>?_,fun g n T e1 e2=>?_,fun i b e1=>?_,fun b n e1=>?_⟩
  ·by_cases hb:b=b0
   ·subst hb
    have iQ:w.heap.size=blk:=by
     have e3:(gr.bl.set b (some w.heap.size))[b]? =some (some blk):=e2
     rw[mj (by rw[aI.dX];exact FF)]at e3
     injection e3 with e3;injection e3
    subst iQ
    have j4:zs=cs':=by
     have e3:(r.boxes.set b zs)[b]? =some cs':=e1
     rw[mj FF]at e3
     injection e3
    subst j4
    refine⟨h.rel.low,⟨_,by simp[G'],fun _=>rfl⟩,fun _=>h.rel.uk,arr,ty,gy,Sv hR.1.symm,fun _ n hn=>?_,fun i hi=>⟨br _ (gu hi),?_⟩⟩
    ·obtain⟨blk,hb⟩:=aI.mz b n hn
     rw[WT]at hb;cases hb
    have:=(hR.2 i hi).mono hle (aH _) (aH _)
    show Rel G' k gr.nl _ _
    rw[ll]
    exact this
   ·have j4:r.boxes[b]? =some cs':=by
     have e3:(r.boxes.set b0 zs)[b]? =some cs':=e1
     rw[eI (qi hb)]at e3;exact e3
    have di:=aI.box b cs' blk j4 (su b _ hb e2)
    exact di.kept (by rw[ll];exact hle) hk (fun _ x=>x)
  ·by_cases hb:b=b0
   ·subst hb
    have e3:(r.boxes.set b zs)[b]? =some []:=e2
    rw[mj FF]at e3
    injection e3 with e3
    exact absurd e3 aB
   ·have e3:(r.boxes.set b0 zs)[b]? =some []:=e2
    rw[eI (qi hb)]at e3
    exact aI.full b blk (su b _ hb e1) e3
  ·have ht:=aI.tok g n T e1 e2
   have hs:∀(hn:n.isSome=true),G'.own T.blk=some (.tok k g)∧(w.alloc (.cells arr ty)).heap[T.blk]? =w.heap[T.blk]? ∧∀i,G.I T.blk i=none→G'.I T.blk i=none:=fun hn=>by
    obtain⟨m,hm⟩:=oC.1 hn
    exact hk _ _ (ht.2 m hm).2.1 (fun x=>x)
   exact ht.cJ (fun hn=>(hs hn).1) (fun hn=>(hs hn).2.1) (fun hn=>(hs hn).2.2)
  ·have hm:=aI.mark i b e1
   obtain⟨k1,k2,_⟩:=hk _ _ hm.2.1 (fun x=>x)
   exact hm.cJ k1 k2
  ·obtain⟨blk,hb⟩:=aI.mz b n e1
   exact⟨blk,eZ.bl _ _ hb⟩
 ·have aC:=h.rel.sS e
  rw[World.cell?_alloc_lt _ _ _ (by exact aC)]
  exact h.rel.fc b i v e
 ·simp only[G']at e
  split at e
  ·rename_i hb;subst hb;simp
  ·have:=h.rel.eM b o e;simp;omega
end
end Go.Ax
