/-
  The abstract executor: values, codes and what a run of a code gives. Plain definitions; nothing is claimed here.
-/
import GoSem.Step
import Derived.RangeFuncLeaves
import Derived.RangeFuncRecord
import Derived.Below
import Derived.Laws.IdiomCopy
import Derived.Laws.Cells
set_option linter.unusedSimpArgs false
set_option linter.unusedVariables false
set_option maxRecDepth 100000
namespace Go.Ax
abbrev ak:= @if_pos
abbrev aq:= @if_neg
abbrev aH:= @Nat.le_refl
abbrev aT:= @Option.map_eq_some_iff
abbrev bd:= @List.getElem?_eq_some_iff
abbrev bn:= @ne_eq
abbrev bp:= @Nat.zero_le
abbrev bM:= @decide_eq_true
abbrev bP:= @if_true
abbrev bR:= @List.length_map
abbrev bU:= @List.mem_of_getElem?
abbrev bX:= @decide_eq_false
abbrev cu:= @List.length_append
abbrev cz:= @List.mem_map
abbrev cQ:= @Int.cast_ofNat_Int
abbrev cY:= @List.getElem?_eq_getElem
abbrev db:= @if_false
abbrev df:= @Nat.not_lt_zero
abbrev dj:= @Option.bind_eq_some_iff
abbrev dB:= @Bool.and_eq_true
abbrev dC:= @List.mem_append
abbrev dD:= @List.mem_singleton
abbrev dE:= @Option.map_some
abbrev dM:= @List.getElem?_append_left
abbrev dU:= @decide_eq_true_eq
abbrev eo:= @List.length_cons
abbrev er:= @List.mem_cons
abbrev et:= @Option.bind_some
abbrev ez:= @Bool.false_eq_true
abbrev eA:= @List.any_eq_true
abbrev eH:= @List.mem_filter
abbrev eP:= @List.getElem?_set_ne
abbrev eW:= @not_true
abbrev eZ:= @List.drop_length
abbrev fc:= @List.length_take
abbrev fe:= @Option.some.injEq
abbrev fH:= @cond_true
abbrev fN:= @Nat.zero_add
abbrev gp:= @List.pairwise_append
abbrev gG:= @List.getElem_mem
abbrev gH:= @Nat.add_mul
abbrev gN:= @List.append_assoc
abbrev gO:= @List.getElem?_append_right
abbrev gP:= @Nat.pow_le_pow_right
abbrev gR:= @cond_false
abbrev gS:= @congrArg
abbrev gX:= @List.getElem?_map
abbrev ia:= @Bool.true_and
abbrev ib:= @List.map_append
abbrev iC:= @not_false_iff
abbrev iG:= @List.append_nil
abbrev iH:= @List.map_cons
abbrev iI:= @List.mem_cons_of_mem
abbrev ja:= @List.length_nil
abbrev jb:= @List.take_length
abbrev j6:= @List.all_eq_true
abbrev kn:= @Bool.false_and
abbrev ko:= @List.drop_zero
abbrev kq:= @List.nil_append
abbrev kt:= @Nat.le_trans
abbrev kO:= @Option.getD_some
abbrev l4:= @Bool.false_or
abbrev l5:= @List.cons_append
abbrev l6:= @Nat.lt_of_lt_of_le
abbrev mL:= @List.getElem?_set_self
abbrev nq:= @Bool.and_false
abbrev nr:= @List.any_cons
abbrev ns:= @List.filter_append
abbrev nu:= @List.length_filter_le
abbrev nw:= @List.map_nil
abbrev nx:= @and_self
abbrev nY:= @Bool.not_false
abbrev nZ:= @Bool.not_true
abbrev n6:= @Classical.byContradiction
abbrev n8:= @List.getElem?_eq_none
abbrev n9:= @List.getElem?_of_mem
abbrev oe:= @List.getElem_of_mem
abbrev oh:= @List.mem_range
abbrev oj:= @Option.isSome_iff_exists
abbrev oP:= @List.mem_append_left
abbrev oQ:= @Nat.mul_le_mul_right
abbrev pO:= @List.ext_getElem?
abbrev pP:= @List.length_range
abbrev pR:= @Option.isSome_none
abbrev qD:= @Bool.and_true
abbrev qE:= @List.pairwise_map
abbrev qF:= @Ne.symm
abbrev qN:= @decide_true
abbrev rN:= @Eq.symm
abbrev rQ:= @Nat.one_mul
abbrev r5:= @decide_eq_false_iff_not
abbrev r7:= @decide_not
abbrev sY:= @Bool.not_eq_true'
abbrev sZ:= @Bool.or_eq_true
abbrev s7:= @List.any_append
abbrev s8:= @List.flatten_cons
abbrev s9:= @List.getElem?_set
abbrev tc:= @List.length_drop
abbrev td:= @List.mem_of_mem_take
abbrev tf:= @List.pairwise_cons
abbrev th:= @Nat.le_succ
abbrev tB:= @decide_false
abbrev uy:= @Array.getElem?_eq_some_iff
abbrev uz:= @Bool.eq_iff_iff
abbrev uD:= @List.any_eq_false
abbrev uE:= @List.eq_nil_of_length_eq_zero
abbrev uF:= @List.getElem_append_left
abbrev uG:= @List.getElem_append_right
abbrev uH:= @List.idxOf_lt_length_iff
abbrev uI:= @List.mem_flatten
abbrev uJ:= @List.pairwise_singleton
abbrev uK:= @Nat.mod_lt
abbrev vZ:= @List.all_cons
abbrev v7:= @List.cons.injEq
abbrev v8:= @List.foldl_cons
abbrev wa:= @List.getElem?_modify
abbrev wb:= @List.map_map
abbrev wc:= @Nat.add_assoc
abbrev we:= @Option.isSome_some
abbrev x6:= @Bool.and_self
abbrev x9:= @Eq.trans
abbrev yb:= @List.find?_eq_none
abbrev yc:= @List.getElem?_take
abbrev yd:= @List.getElem_cons_zero
abbrev ye:= @List.length_pos_iff
abbrev yf:= @List.length_singleton
abbrev yg:= @List.size_toArray
abbrev yh:= @Nat.div_add_mod'
abbrev yi:= @Nat.eq_zero_or_pos
abbrev yj:= @Nat.testBit_or
abbrev zV:= @of_decide_eq_true
abbrev zZ:= @or_false
abbrev Ag:= @Bool.or_false
abbrev Ah:= @Bool.true_or
abbrev Aj:= @Int.le_refl
abbrev Ak:= @List.Pairwise.filter
abbrev Al:= @List.drop_of_length_le
abbrev Am:= @List.filter_nil
abbrev An:= @List.find?_cons
abbrev Ao:= @List.length_set
abbrev Ap:= @List.map_congr_left
abbrev Aq:= @List.not_mem_nil
abbrev Ar:= @List.range_eq_range'
abbrev As:= @List.set_set
abbrev Av:= @Nat.add_zero
abbrev Aw:= @Nat.lt_irrefl
abbrev CL:= @Int.toNat_natCast
abbrev CM:= @List.all_nil
abbrev CN:= @List.any_map
abbrev CO:= @List.getElem_idxOf
abbrev CP:= @List.mem_cons_self
abbrev CQ:= @List.pairwise_iff_getElem
abbrev CR:= @List.range'_succ
abbrev CS:= @List.range_succ
abbrev CT:= @Nat.le_max_left
abbrev CU:= @Nat.pow_lt_pow_right
abbrev CV:= @Nat.testBit_two_pow
abbrev CW:= @Prod.mk.injEq
abbrev HE:= @List.filter_congr
abbrev HF:= @List.flatMap_cons
abbrev HG:= @List.foldl_append
abbrev HH:= @List.getElem?_cons_zero
abbrev HI:= @List.getElem?_range
abbrev HJ:= @List.getElem_cons_succ
abbrev HK:= @List.isEmpty_nil
abbrev HL:= @List.map_take
abbrev HM:= @List.mem_append_right
abbrev HN:= @List.mem_of_getLast?
abbrev HO:= @List.mem_of_mem_drop
abbrev HP:= @List.mem_replicate
abbrev HQ:= @List.set_append_right
abbrev HR:= @List.set_cons_zero
abbrev HS:= @List.take_append_drop
abbrev HV:= @Nat.add_sub_cancel
abbrev HW:= @Nat.le_max_right
abbrev HX:= @Nat.mod_eq_of_lt
abbrev HY:= @Nat.mul_pos
abbrev HZ:= @Nat.sub_self
abbrev H0:= @Nat.testBit_lt_two_pow
abbrev JI:= @dif_pos
abbrev Lf:= @or_true
abbrev LM:= @true_and
abbrev LZ:= @Bool.or_eq_false_iff
abbrev L0:= @ByteArray.ext
abbrev L4:= @List.append_eq_nil_iff
abbrev L5:= @List.ext_getElem
abbrev L6:= @List.filter_cons
abbrev L7:= @List.filter_eq_self
abbrev L8:= @List.find?_some
abbrev L9:= @List.getD_eq_getElem?_getD
abbrev Ma:= @List.getElem?_cons_succ
abbrev Mb:= @List.getLast?_eq_none_iff
abbrev Mc:= @List.length_eraseIdx_of_lt
abbrev Me:= @List.length_modify
abbrev Mf:= @List.map_eq_nil_iff
abbrev Mg:= @List.mem_of_find?_eq_some
abbrev Mh:= @List.take_succ_cons
abbrev Mi:= @List.take_zero
abbrev Mj:= @Nat.add_comm
abbrev Mk:= @Nat.div_eq_of_lt
abbrev Ml:= @Nat.eq_of_testBit_eq
abbrev Mm:= @Nat.le_of_not_lt
abbrev Mn:= @Nat.lt_succ_self
abbrev Mp:= @Nat.lt_trichotomy
abbrev Mq:= @Nat.one_le_two_pow
abbrev Mr:= @Nat.one_ne_zero
abbrev Ms:= @Nat.sub_le_sub_right
abbrev Mt:= @Nat.zero_testBit
abbrev Mv:= @Option.map_map
abbrev N8:= @beq_iff_eq
abbrev SX:= @Array.length_toList
abbrev SZ:= @Bool.not_eq_false'
abbrev S0:= @Function.comp_def
abbrev S2:= @Int.mul_le_mul_of_nonneg_right
abbrev S5:= @List.Pairwise.of_cons
abbrev S6:= @List.drop_append_of_le_length
abbrev S7:= @List.drop_eq_nil_of_le
abbrev S8:= @List.drop_succ_cons
abbrev S9:= @List.eq_of_mem_replicate
abbrev Ta:= @List.filter_cons_of_neg
abbrev Tb:= @List.filter_cons_of_pos
abbrev Tc:= @List.filter_eq_nil_iff
abbrev Td:= @List.filter_sublist
abbrev Te:= @List.flatten_nil
abbrev Tf:= @List.getElem?_replicate
abbrev Tg:= @List.getElem?_toArray
abbrev Ti:= @List.getElem_set
abbrev Tj:= @List.mapM_cons
abbrev Tk:= @List.mem_of_mem_eraseIdx
abbrev Tl:= @List.mem_or_eq_of_mem_set
abbrev Tm:= @List.set_cons_succ
abbrev Tn:= @List.singleton_append
abbrev To:= @List.take_append_of_le_length
abbrev Tp:= @List.take_of_length_le
abbrev Tq:= @Nat.div_lt_iff_lt_mul
abbrev Tr:= @Nat.le_of_eq
abbrev Ts:= @Nat.le_of_lt
abbrev Tt:= @Nat.lt_or_ge
abbrev Tv:= @Nat.lt_or_gt_of_ne
abbrev Tw:= @Nat.lt_trans
abbrev Tx:= @Nat.mul_comm
abbrev Ty:= @Nat.mul_one
abbrev Tz:= @Nat.sub_zero
abbrev TA:= @Nat.testBit_two_pow_sub_one
abbrev TD:= @Option.isNone_iff_eq_none
abbrev Vd:= @beq_self_eq_true
abbrev aci:= @Array.getElem?_eq_getElem
abbrev acj:= @Array.mapM_eq_mapM_toList
abbrev acm:= @Int.fdiv_eq_ediv_of_nonneg
abbrev acn:= @List.find?_eq_some_iff_append
abbrev aco:= @List.getElem?_take_of_lt
abbrev acp:= @List.getElem_replicate
abbrev acq:= @List.getLast?_eq_getElem?
abbrev acr:= @List.getLast?_eq_some_iff
abbrev acs:= @List.length_eraseIdx_le
abbrev acu:= @List.pairwise_lt_range
abbrev acw:= @List.rel_of_pairwise_cons
abbrev acx:= @Nat.lt_pow_two_of_testBit
abbrev acy:= @Nat.testBit_eq_decide_div_mod_eq
end Go.Ax
namespace Go.Ax
inductive Own where
 |aA
 |any
 |full
 |tok (d g:Nat)
def Own.isNil:Own→Bool
 |.aA=>true
 |_=>false
def Own.isFull:Own→Bool
 |.full=>true
 |_=>false
inductive AV where
 |v (x:Value)
 |slice (o:Own) (es:Nat) (xs:List (List AV))
 |ptr (d b off:Nat)
 |bg (cs:List AV) (off:Nat)
 |aO (d b off es n cap:Nat)
 |fn (f:FuncId) (first caps:List AV)
 |yield (l:Nat)
 |iface (t:TypeId) (x:AV)
 |agg (cs:List AV)
 |tuple (vs:List AV)
 |zY
abbrev AV.int (n:Int):AV:=.v (.int .i64 n)
abbrev AV.bool (b:Bool):AV:=.v (.bool b)
abbrev AV.undef:AV:=.v Go.undef
def AV.cells:AV→List AV
 |.agg cs=>cs
 |x=>[x]
def AV.bA:AV→Bool
 |.agg _|.tuple _=>false
 |.v (.agg _)|.v (.tuple _)=>false
 |_=>true
def AV.iU:AV→Bool
 |.v x=>match x with|.agg _|.tuple _=>false|_=>true
 |.bg _ _=>true
 |.zY=>true
 |.slice o _ _=>match o with|.aA|.any|.full=>true|_=>false
 |_=>false
def AV.vI:AV→Bool
 |.agg cs=>cs.all AV.iU
 |x=>x.iU
def AV.isClosed:AV→Bool
 |.iface _ x=>x.vI
 |.fn _ first caps=>first.all AV.vI&&caps.all AV.iU
 |x=>x.iU
def AV.close:AV→Option AV
 |.slice (.tok _ _) es xs=>some (.slice .any es xs)
 |x=>if x.isClosed then some x else none
def closeAll:List AV→Option (List AV)
 |[]=>some []
 |x::r=>match x.close,closeAll r with
  |some y,some s=>some (y::s)
  |_,_=>none
inductive aF where
 |tmp (t:Nat)
 |const (c:AV)
inductive CX where
 |str
 |sl (es:Nat)
 |arr (n es:Nat)
inductive PK where
 |int
 |bool
 |str
inductive HC where
 |bool
 |agg (ks:List PK)
 |ptr
 |iface
 |slice
 |func
inductive HB where
 |int (k:IntKind)
 |same
 |bytes
 |text
inductive ck where
 |move (x:aF)
 |pick (c a b:aF)
 |alloc (zs:List AV)
 |box (n:Nat) (x:aF)
 |build (zs:List AV) (parts:List (Nat×Nat×aF))
 |buildSlice (es:Nat) (rows:List (List AV)) (parts:List (Nat×aF))
 |load (agg:Bool) (n:Nat) (x:aF)
 |store (n:Nat) (x y:aF)
 |nilCheck (x:aF)
 |arith (op:BinOp) (x y:aF)
 |eqv (neg:Bool) (k:HC) (x y:aF)
 |un (op:UnOp) (x:aF)
 |conv(k:HB) (x:aF)
 |K5 (t:TypeId) (x:aF)
 |oL (f:FuncId) (first caps:List aF)
 |mkSlice (es:Nat) (zs:List AV) (len cap:aF)
 |Cm (es:Nat) (zs:List AV) (len cap:aF)
 |slice (k:CX) (x:aF) (lo hi mx:Option aF)
 |fieldAddr (off:Nat) (x:aF)
 |indexAddr (arr:Option Nat) (es:Nat) (x i:aF)
 |GS (x i:aF)
 |index (n es:Nat) (agg:Bool) (x i:aF)
 |field (agg:Bool) (n off:Nat) (x:aF)
 |extract (i:Nat) (x:aF)
 |call (ro:Bool) (f:FuncId) (args:List aF)
 |kB (ro:Bool) (x:aF) (args:List aF)
 |tz (f:FuncId) (args:List aF)
 |wQ (f:FuncId) (args:List aF)
 |wR (f:FuncId) (args:List aF)
 |r8 (ro:Bool) (zss:List (List AV)) (f:FuncId) (args:List aF)
 |append (es:Nat) (x y:aF)
 |wA (es:Nat) (x y:aF)
 |wz (es:Nat) (x y:aF)
 |rU (es:Nat) (x y h:aF)
 |sV (es:Nat) (x:aF)
 |clear (zs:List AV) (x:aF)
 |tu (f:FuncId) (args:List aF)
 |qK (f:FuncId) (args:List aF) (ws:List (Bool×Nat×Nat))
 |copy (x y:aF)
 |yE (es:Nat) (row:List AV) (t:Nat)
 |len (str:Bool) (x:aF)
 |Cf (n:Nat)
 |G8 (mx:Bool) (xs:List aF)
 |l3 (n:Nat)
 |slot (back:Nat) (zs:List AV)
 |gm (res:Nat) (agg:Bool) (n:Nat) (x:aF)
 |jY (agg:Bool) (n:Nat) (x:aF)
 |fill (back n:Nat) (x y:aF)
structure bC where
 dst:Option Nat
 guard:Option (Nat×Bool)
 op:ck
inductive cM where
 |normal
 |exit (id:Nat)
 |ret
inductive aw where
 |skip
 |region (drawn:Bool) (ops:List bC)
 |seq (a b:aw)
 |cond (c:aF) (a b:aw)
 |block (id:Nat) (a:aw)
 |loop (a:aw)
 |rangeFunc (f:aF) (params:List Nat) (assign body:aw)
 |exit (id:Nat)
 |ret
structure Rec where
 boxes:List (List AV)
 toks:List (Option Nat)
structure dq where
 ready:Bool
 eG:Option cM
 tmps:Nat→AV
 params:List Nat
 assign:aw
 body:aw
structure ae where
 ag:List Rec
 loops:List dq
 ro:Nat
 bt:Nat
structure St where
 tmps:Nat→AV
 sig:ae
inductive Target where
 |fn (f:FuncId)
 |yield (l:Nat)
 |inl (f:FuncId)
 |nat (f:FuncId)
abbrev aZ:=Target→List AV→ae→Option (AV×ae)
inductive iF where
 |tmp (t:Nat)
 |cell (agg:Bool) (n:Nat) (t:Nat)
inductive aJ where
 |code (np ntmps:Nat) (body:aw) (results:List iF) (own:Bool)
 |rG (F:List AV→Option AV)
 |nat (F:List AV→Option AV)
def ae.push (s:ae) (r:Rec):ae:={s with ag:=s.ag++[r]}
def ae.pop (s:ae):ae:={s with ag:=s.ag.dropLast}
def ae.cur (s:ae):Nat:=s.ag.length-1
def ae.box (s:ae) (d b:Nat):Option (List AV):=(s.ag[d]?).bind (·.boxes[b]?)
def ae.tok (s:ae) (d g:Nat):Option Nat:=((s.ag[d]?).bind (·.toks[g]?)).join
def ae.jZ (s:ae) (d:Nat):Nat:=match s.ag[d]? with|some r=>r.toks.length|none=>0
def ae.lS (s:ae) (d:Nat):Bool:=match s.ag[d]? with|some r=>r.toks.any Option.isNone|none=>false
def ae.bQ (s:ae) (d:Nat):Nat:=match s.ag[d]? with|some r=>r.boxes.length|none=>0
def ae.bu (s:ae) (d:Nat) (f:Rec→Rec):ae:={s with ag:=s.ag.modify d f}
def ae.dL (s:ae) (d b:Nat) (cs:List AV):ae:=s.bu d fun r=>{r with boxes:=r.boxes.set b cs}
def ae.mJ (s:ae) (d g:Nat) (n:Option Nat):ae:=s.bu d fun r=>{r with toks:=r.toks.set g n}
def ae.lA (s:ae) (d n:Nat):ae:=s.bu d fun r=>{r with toks:=r.toks++[some n]}
def ae.jw (s:ae) (d:Nat) (cs:List AV):ae:=s.bu d fun r=>{r with boxes:=r.boxes++[cs]}
def ae.row (m:ae):AV→Option (List AV×Nat)
 |.ptr d b off=>(m.box d b).map fun cs=>(cs,off)
 |.bg cs off=>some (cs,off)
 |_=>none
def part (agg:Bool) (n:Nat) (cs:List AV) (off:Nat):Option AV:=
 if agg then(if off+n≤cs.length then some (.agg ((cs.drop off).take n))else none)else cs[off]?
def ae.load (m:ae) (agg:Bool) (n:Nat) (x:AV):Option AV:=
 (m.row x).bind fun(cs,off)=>part agg n cs off
def setCells (cs:List AV) (off:Nat):List AV→List AV
 |[]=>cs
 |x::r=>setCells (cs.set off x) (off+1) r
def ae.fit (m:ae) (d:Nat):AV→Option (AV×ae)
 | .slice (.tok d' g) es xs =>
  if d'≤d then some (.slice (.tok d' g) es xs,m)
  else if d'=m.cur∧m.tok d' g=some xs.length then
   some (.slice (.tok d (m.jZ d)) es xs,(m.mJ d' g none).lA d xs.length)
  else some (.slice .any es xs,m)
 |.ptr d' b off=>if d'≤d then some (.ptr d' b off,m)else none
 |.aO d' b off es n cap=>if d'≤d then some (.aO d' b off es n cap,m)else none
 |x=>x.close.map (·,m)
def ae.fitAll (m:ae) (d:Nat):List AV→Option (List AV×ae)
 |[]=>some ([],m)
 | x :: r => match m.fit d x with
  |none=>none
  |some (y,m1)=>match m1.fitAll d r with
   |none=>none
   |some (s,m2)=>some (y::s,m2)
def ae.store (m : ae) (n : Nat) (x y : AV) : Option ae :=
 match x with
 | .ptr d b off =>
  if m.ro≤d∧y.cells.length=n∧y.cells.all AV.bA=true then
   match(if d=m.cur then some (y.cells,m)else m.fitAll d y.cells)with
   |none=>none
   |some (cs,m1)=>match m1.box d b with
    |none=>none
    |some row=>if off+n≤row.length then some (m1.dL d b (setCells row off cs))else none
  else none
 |_=>none
def ae.dK (m:ae) (cs:List AV):AV×ae:=(.ptr m.cur (m.bQ m.cur) 0,m.jw m.cur cs)
def sJ (op:BinOp) (k:IntKind) (x y:Int):Option Value:=
 match op with
 |.add=>some (.int k (k.wrap (x+y)))
 |.sub=>some (.int k (k.wrap (x-y)))
 |.mul=>some (.int k (k.wrap (x*y)))
 |.quo=>if y=0 then none else some (.int k (k.wrap (x.tdiv y)))
 |.rem=>if y=0 then none else some (.int k (x.tmod y))
 |.and=>some (.int k (k.wrap (BitVec.ofInt k.bits x&&&BitVec.ofInt k.bits y).toNat))
 |.or=>some (.int k (k.wrap (BitVec.ofInt k.bits x|||BitVec.ofInt k.bits y).toNat))
 |.xor=>some (.int k (k.wrap (BitVec.ofInt k.bits x^^^BitVec.ofInt k.bits y).toNat))
 |.andNot=>some (.int k (k.wrap (BitVec.ofInt k.bits x&&&~~~(BitVec.ofInt k.bits y)).toNat))
 |.eql=>some (.bool (x==y))
 |.neq=>some (.bool (x != y))
 |.lss=>some (.bool (x<y))
 |.leq=>some (.bool (x≤y))
 |.gtr=>some (.bool (x>y))
 |.geq=>some (.bool (x≥y))
 |_=>none
def uk (op:BinOp) (k:IntKind) (x y:Int):Option Value:=
 if y<0 then none else
 match op with
 |.shl=>some (.int k (k.wrap (x*2^min y.toNat k.bits)))
 |.shr=>some (.int k (x.fdiv (2^min y.toNat k.bits)))
 |_=>none
def sW (op:BinOp) (x y:ByteArray):Option Value:=
 match op with
 |.add=>if((x.size+y.size:Nat):Int)>IntKind.i64.max then none else some (.string (x++y))
 |.eql=>some (.bool (x.data.toList==y.data.toList))
 |.neq=>some (.bool !(x.data.toList==y.data.toList))
 |.lss=>some (.bool (Op.bytesLess x.data.toList y.data.toList))
 |.leq=>some (.bool (Op.bytesLess x.data.toList y.data.toList||x.data.toList==y.data.toList))
 |.gtr=>some (.bool !(Op.bytesLess x.data.toList y.data.toList||x.data.toList==y.data.toList))
 |.geq=>some (.bool !(Op.bytesLess x.data.toList y.data.toList))
 |_=>none
def qk:BinOp→Bool
 |.shl|.shr=>true
 |_=>false
def dR (op:BinOp):AV→AV→Option AV
 |.v (.int k a),.v (.int k' b)=>
  if qk op then(uk op k a b).map .v else if k=k' then(sJ op k a b).map .v else none
 |.v (.string a),.v (.string b)=>(sW op a b).map .v
 |_,_=>none
def OA:PK→AV→AV→Option Bool
 |.int,.v (.int k a),.v (.int k' b)=>if k=k' then some (a==b)else none
 |.bool,.v (.bool a),.v (.bool b)=>some (a==b)
 |.str,.v (.string a),.v (.string b)=>some (a.data.toList==b.data.toList)
 |_,_,_=>none
def FB:List PK→List AV→List AV→Option Bool
 |[],[],[]=>some true
 |k::ks,x::r,y::s=>match OA k x y with
  |some true=>FB ks r s
  |some false=>some false
  |none=>none
 |_,_,_=>none
def QZ:AV→Option Bool
 |.slice .aA _ _=>some true
 |.slice _ _ _=>some false
 |.aO .. =>some false
 |_=>none
def QY:AV→Option Bool
 |.v (.pointer none)=>some true
 |.ptr .. =>some false
 |.bg .. =>some false
 |_=>none
def QX:AV→Option Bool
 |.v .nilIface=>some true
 |.iface .. =>some false
 |.zY=>some false
 |_=>none
def QW:AV→Option Bool
 |.v .nilFunc=>some true
 |.fn .. =>some false
 |.yield .. =>some false
 |_=>none
def yS (f:AV→Option Bool) (x y:AV):Option Bool:=
 match f x,f y with
 |some true,some b=>some b
 |some b,some true=>some b
 |_,_=>none
def pX (k:HC) (x y:AV):Option Bool:=
 match k with
 |.bool=>match x,y with
  |.v (.bool a),.v (.bool b)=>some (a==b)
  |_,_=>none
 |.agg ks=>match x,y with
  |.agg a,.agg b=>FB ks a b
  |_,_=>none
 |.ptr=>yS QY x y
 |.iface=>yS QX x y
 |.slice=>yS QZ x y
 |.func=>yS QW x y
def unOp (op:UnOp):AV→Option AV
 |.v (.bool b)=>match op with|.not=>some (.v (.bool !b))|_=>none
 |.v (.int k n)=>match op with|.neg=>some (.v (.int k (k.wrap (0-n))))|_=>none
 |_=>none
def byteCells (s:ByteArray):List (List AV):=s.data.toList.map fun b=>[.v (.int .u8 b.toNat)]
def byteOf:List AV→Option UInt8
 |[.v (.int .u8 n)]=>if 0≤n∧n<256 then some (UInt8.ofNat n.toNat)else none
 |_=>none
def bytesOf:List (List AV)→Option (List UInt8)
 |[]=>some []
 |x::r=>match byteOf x,bytesOf r with
  |some b,some s=>some (b::s)
  |_,_=>none
def mP (k:HB):AV→Option AV
 |.v (.int _ n)=>match k with|.int k'=>some (.v (.int k' (k'.wrap n)))|_=>none
 |.v (.string s)=>match k with
  |.same=>some (.v (.string s))
  |.bytes=>some (.slice .any 1 (byteCells s))
  |_=>none
 |.slice _ _ xs=>match k with
  |.text=>(bytesOf xs).map fun l=>.v (.string ⟨l.toArray⟩)
  |_=>none
 |_=>none
def asNat (x:AV) (most:Nat):Option Nat:=
 match x with
 |.v (.int _ n)=>if 0≤n∧n≤most then some n.toNat else none
 |_=>none
def chunks (es:Nat):Nat→List AV→List (List AV)
 |0,_=>[]
 |n+1,cs=>cs.take es::chunks es n (cs.drop es)
def Cx (o:Own) (whole:Bool):Own:=
 match o with
 |.aA=>.aA
 |.tok d g=>if whole then .tok d g else .any
 |.full=>.any
 |_=>.any
def jG (lo:Option AV) (h:Nat):Option Nat:=
 match lo with
 |some l=>asNat l h
 |none=>some 0
def jS (hi:Option AV) (full:Bool) (m len:Nat):Option Nat:=
 match hi with
 |some h=>asNat h m
 |none=>if full then none else some len
def pG (mx:Option AV) (cap:Nat):Option Nat:=
 match mx with
 |some m=>asNat m cap
 |none=>some cap
def um (o:Own) (full whole all:Bool):Own:=
 if full then(if o.isNil then .aA else if all then .full else .any)else Cx o whole
def gD (k : CX) (x : AV) (lo hi mx : Option AV) : Option AV :=
 match k,x with
 |.str,.v (.string s)=>
  if mx.isSome then none else
  (jS hi false s.size s.size).bind fun h=>(jG lo h).map fun l=>.v (.string (s.extract l h))
 | .sl e0, .slice o es xs =>
  if o.isNil=true∨es=e0 then
   (pG mx xs.length).bind fun m=>(jS hi mx.isSome m xs.length).bind fun h=>(jG lo h).map fun l=>
    .slice (um o mx.isSome (l==0&&h==xs.length) (h==m&&0<m)) es ((xs.take h).drop l)
  else none
 | .sl e0, .aO d b off es n cap =>
  if es=e0 then
   (pG mx (max n cap)).bind fun m=>(jS hi mx.isSome m n).bind fun h=>(jG lo h).map fun l=>
    .aO d b (if m=l then off else off+l*es) es (h-l) (m-l)
  else none
 |.arr n es,.ptr d b off=>
  if mx.isSome then none else
  (jS hi false n n).bind fun h=>(jG lo h).map fun l=>.aO d b (if n=l then off else off+l*es) es (h-l) (n-l)
 | .arr n es, .bg cs off =>
  if mx.isSome then none else
  (jS hi false n n).bind fun h=>(jG lo h).bind fun l=>
   if off+n*es≤cs.length then some (.slice .any es (chunks es (h-l) (cs.drop (off+l*es))))else none
 |_,_=>none
def idx (x:AV) (len:Nat):Option Nat:=
 match x with
 |.v (.int _ n)=>if 0≤n∧n<len then some n.toNat else none
 |_=>none
def kH (arr:Option Nat) (es:Nat) (x i:AV):Option AV:=
 match arr,x with
 |none,.slice _ e1 xs=>if e1=es then(idx i xs.length).bind fun j=>(xs[j]?).map fun r=>.bg r 0 else none
 |none,.aO d b off e1 n _=>if e1=es then(idx i n).map fun j=>.ptr d b (off+j*es)else none
 |some n,.ptr d b off=>(idx i n).map fun j=>.ptr d b (off+j*es)
 |some n,.bg cs off=>(idx i n).map fun j=>.bg cs (off+j*es)
 |_,_=>none
def Bu (cs:List AV) (off size:Nat) (x:AV):Option (List AV):=
 if x.cells.length=size∧off+size≤cs.length∧x.cells.all AV.bA=true then some (setCells cs off x.cells)else none
def Ck (mx:Bool):AV→AV→Option AV
 |.v (.int k x),.v (.int k' y)=>if k=k' then some (.v (.int k (if mx then(if y>x then y else x)else(if y<x then y else x))))else none
 |_,_=>none
def xP (mx:Bool) (x:AV):List AV→Option AV
 |[]=>some x
 |y::r=>match Ck mx x y with
  |some z=>xP mx z r
  |none=>none
def most:Nat:=4294967296
def eI (m:ae) (es:Nat) (x y:AV):Option (AV×ae):=
 match x,y with
 | .slice o e1 xs, .slice _ e2 ys =>
  if ys.isEmpty then some (x,m)else
  if e2=es∧(o.isNil=true∨e1=es)∧xs.length+ys.length≤most then
   match o with
   |.aA|.full=>some (.slice (.tok m.cur (m.jZ m.cur)) es (xs++ys),m.lA m.cur (xs.length+ys.length))
   |.tok d g=>if m.ro≤d∧m.tok d g=some xs.length then some (.slice (.tok d g) es (xs++ys),m.mJ d g (some (xs.length+ys.length)))else none
   |_=>none
  else none
 |_,_=>none
def ae.Lt (m:ae) (b:Nat) (cs:List AV):ae:=(m.bu m.cur fun r=>{r with boxes:=r.boxes.set b []++[cs],toks:=r.toks++[none]})
def wB (m : ae) (es : Nat) (x y : AV) : Option (AV × ae) :=
 match y with
 | .slice _ e2 ys =>
  if ys.isEmpty then(match x with|.slice .. |.aO .. =>some (x,m)|_=>none)else
  if e2 = es then
   match x with
   | .slice o e1 xs =>
    if(o.isNil=true∨(o.isFull=true∧e1=es))∧xs.length+ys.length≤most then
     some (.aO m.cur (m.bQ m.cur) 0 es (xs.length+ys.length) 0,(m.dK (xs.flatten++ys.flatten)).2)
    else none
   | .aO d b off e1 n cap =>
    if d=m.cur∧off=0∧cap=0∧0<n∧e1=es∧n+ys.length≤most then
     match m.box d b with
     |some cs=>if cs.length=n*es then some (.aO m.cur (m.bQ m.cur) 0 es (n+ys.length) 0,m.Lt b (cs++ys.flatten))else none
     |none=>none
    else none
   |_=>none
  else none
 |_=>none
def yo (m:ae) (es:Nat) (x y:AV):Option (AV×ae):=
 match x,y with
 |.slice o e1 xs,.slice _ e2 ys=>
  if(xs.flatten++ys.flatten).isEmpty=true∧ys.isEmpty=false then none
  else if xs=[]∧o.isFull=true∧e1=es∧e2=es∧most<ys.length∧ys.length*(8*es)≤140737488355328 then some (.aO m.cur (m.bQ m.cur) 0 es ys.length 0,(m.dK ys.flatten).2)
  else wB m es x y
 |_,_=>none
def ae.sQ (m:ae) (d b:Nat) (cs:List AV):ae:=m.bu d fun r=>{r with boxes:=r.boxes.set b []++[cs],toks:=r.toks++[none]}
def ae.Af (m:ae) (es:Nat):AV→Option (List AV×Nat)
 |.slice _ e2 ys=>if ys.isEmpty=true∨e2=es then some (ys.flatten,ys.length)else none
 |.aO d b off e2 n _=>if d=m.cur∧e2=es then(m.box d b).bind fun cs=>if off+n*es≤cs.length then some ((cs.drop off).take (n*es),n)else none else none
 |_=>none
def qI (m : ae) (es : Nat) (x y h : AV) : Option (AV × ae) :=
 match h with
 | .ptr d _ _ =>
  (m.Af es y).bind fun p=>
  if p.2=0 then(match x with|.slice .. |.aO .. =>some (x,m)|_=>none)else
  if m.ro ≤ d ∧ d ≤ m.cur ∧ (d = m.cur ∨ p.1.all AV.iU = true) then
   match x with
   | .slice o e1 xs =>
    if xs.isEmpty=true∧(o.isNil=true∨(o.isFull=true∧e1=es))∧p.2≤most then
     some (.aO d (m.bQ d) 0 es p.2 0,m.jw d p.1)
    else none
   | .aO d1 b off e1 n cap =>
    if d1=d∧off=0∧cap=0∧0<n∧e1=es∧n+p.2≤most then
     match m.box d b with
     |some cs=>if cs.length=n*es then some (.aO d (m.bQ d) 0 es (n+p.2) 0,m.sQ d b (cs++p.1))else none
     |none=>none
    else none
   |_=>none
  else none
 |_=>none
def rH (m:ae) (es:Nat) (y:AV):Option (AV×ae):=
 if y.cells.length=es∧y.cells.all AV.bA=true∧0<es then some (.aO m.cur (m.bQ m.cur) 0 es 1 1,(m.dK y.cells).2)else none
def wT (m:ae) (zs:List AV):AV→Option (AV×ae)
 |.slice _ _ xs=>if xs.isEmpty then some (.tuple [],m)else none
 |.aO d b off es n _=>if n=0 then some (.tuple [],m)else if es=zs.length then(m.store (n*es) (.ptr d b off) (.agg (List.replicate n zs).flatten)).map (.tuple [],·)else none
 |_=>none
def mO (rows:List (List AV)) (ρ:aF→AV):List (Nat×aF)→Option (List (List AV))
 |[]=>some rows
 |(i,x)::r=>match rows[i]?,closeAll (ρ x).cells with
  |some row,some cs=>if cs.length=row.length then mO (rows.set i cs) ρ r else none
  |_,_=>none
def ae.Hr (m:ae):AV→Option (List AV)
 |.slice _ e xs=>if e=1∨xs.isEmpty=true then some xs.flatten else none
 |.aO d b off e n _=>if e=1 then(m.box d b).bind fun cs=>if off+n≤cs.length then some ((cs.drop off).take n)else none else none
 |_=>none
def Bo (m:ae) (x y:AV):Option (AV×ae):=
 match x with
 |.slice _ _ []=>(m.Hr y).map fun _=>(AV.int 0,m)
 | .aO d b off e n _ => if e = 1 then (m.Hr y).bind fun ys =>
   if(ys.take n).isEmpty then some (AV.int 0,m)else(m.store (ys.take n).length (.ptr d b off) (.agg (ys.take n))).map (AV.int (ys.take n).length,·)else none
 |_=>none
def ae.kill (m:ae) (b:Nat):ae:=m.bu m.cur fun r=>{r with boxes:=r.boxes.set b [],toks:=r.toks++[none]}
def Bx (m:ae):AV→Option (AV×ae)
 |.aO d b off es n _=>if d=m.cur then(m.box d b).bind fun cs=>if cs.isEmpty=true then none else if off+n*es≤cs.length then(closeAll cs).map fun cs'=>(.slice .any es (chunks es n (cs'.drop off)),m.kill b)else none else none
 |.slice o es xs=>some (.slice o es xs,m)
 |_=>none
def yF (m:ae) (es:Nat) (row:List AV) (x:AV):Option (AV×ae):=
 (Bx m x).bind fun p=>(mO [row] (fun _=>p.1) [(0,.const AV.undef)]).map fun rs=>(.slice .full es rs,p.2)
def qO (ρ:aF→AV):Option aF→Option AV
 |none=>none
 |some x=>some (ρ x)
def dN (call:aZ) (ro:Bool) (m:ae) (t:Target) (args:List AV):Option (AV×ae):=
 if ro then(call t args {m with ro:=m.ag.length,bt:=m.loops.length}).map fun p=>(p.1,m)
 else call t args m
open Classical in
noncomputable def oT (call:aZ) (m:ae) (t:Target) (args:List AV) (ws:List (Bool×Nat×AV)):Option (AV×ae):=
 match call t args m with
 |some (v,m')=>if∀q,q∈ws→m'.load q.1 q.2.1 q.2.2=m.load q.1 q.2.1 q.2.2 then some (v,m')else none
 |none=>none
def nz (cs:List AV) (ρ:aF→AV):List (Nat×Nat×aF)→Option (List AV)
 |[]=>some cs
 |(off,size,x)::r=>match Bu cs off size (ρ x)with
  |some cs'=>nz cs' ρ r
  |none=>none
def Cq (off:Nat):AV→Option AV
 |.ptr d b o=>some (.ptr d b (o+off))
 |.bg cs o=>some (.bg cs (o+off))
 |_=>none
def zU:AV→Option AV
 |.ptr d b off=>some (.ptr d b off)
 |.bg cs off=>some (.bg cs off)
 |.fn f a b=>some (.fn f a b)
 |.yield l=>some (.yield l)
 |.iface t x=>some (.iface t x)
 |_=>none
def Ca:AV→AV→Option AV
 |.v (.string s),j=>(idx j s.size).bind fun k=>(s[k]?).map fun b=>.v (.int .u8 b.toNat)
 |_,_=>none
def GR (n es:Nat) (agg:Bool):AV→AV→Option AV
 |.agg cs,j=>(idx j n).bind fun k=>part agg es cs (k*es)
 |_,_=>none
def FF (agg:Bool) (n off:Nat):AV→Option AV
 |.agg cs=>part agg n cs off
 |_=>none
def yT (i:Nat):AV→Option AV
 |.tuple vs=>vs[i]?
 |_=>none
def ld (str:Bool):AV→Option AV
 |.slice _ _ xs=>if str then none else some (AV.int xs.length)
 |.aO _ _ _ _ n _=>if str then none else some (AV.int n)
 |.v (.string s)=>if str then some (AV.int s.size)else none
 |_=>none
def He (c a b:AV):Option AV:=
 match c with
 |.v (.bool t)=>some (if t then a else b)
 |_=>none
def KP (t:TypeId) (x:AV):Option AV:=
 match x with
 |.agg cs=>(closeAll cs).map fun cs'=>.iface t (.agg cs')
 |x=>if x.iU then some (.iface t x)else none
def yD (m:ae) (n:Nat) (y:AV):Option (AV×ae):=
 if y.cells.length=n∧y.cells.all AV.bA=true∧0<n then some (m.dK y.cells)else none
def Cl (m:ae) (es:Nat) (zs:List AV) (l c:AV):Option (AV×ae):=
 (asNat c most).bind fun cn=>(asNat l cn).map fun ln=>if(List.replicate cn zs).flatten.isEmpty then(.slice .full es [],m)else(.aO m.cur (m.bQ m.cur) 0 es ln cn,(m.dK (List.replicate cn zs).flatten).2)
def G9 (m:ae) (es:Nat) (zs:List AV) (l c:AV):Option (AV×ae):=
 (asNat c most).bind fun cn=>(asNat l cn).bind fun ln=>if(List.replicate cn zs).flatten.isEmpty=true∨ln≠cn then none else some (.aO m.cur (m.bQ m.cur) 0 es cn 0,(m.dK (List.replicate cn zs).flatten).2)
def ae.l3 (m:ae) (n:Nat):ae:=m.bu m.cur fun r=>{r with boxes:=r.boxes++List.replicate n []}
def mK (m:ae) (back:Nat) (zs:List AV):Option (AV×ae):=
 match m.box m.cur (m.bQ m.cur-back)with
 |some []=>if zs.isEmpty=true∨m.lS m.cur=true then none else some (.ptr m.cur (m.bQ m.cur-back) 0,m.dL m.cur (m.bQ m.cur-back) zs)
 |_=>none
def xO (m:ae) (res:Nat) (agg:Bool) (n:Nat) (x:AV):Option AV:=
 match x with
 |.ptr d b off=>if d=m.cur∧m.bQ m.cur≤b+res then none else m.load agg n (.ptr d b off)
 |x=>m.load agg n x
def ae.yQ (m:ae) (b:Nat):Bool:=match m.ag[m.cur]? with|some r=>(r.boxes.drop (b+1)).any List.isEmpty|none=>false
def zM (m:ae) (agg:Bool) (n:Nat) (x:AV):Option AV:=
 match x with
 |.ptr d b off=>if d=m.cur∧m.yQ b=false then none else m.load agg n (.ptr d b off)
 |x=>m.load agg n x
def yV (m:ae) (back n:Nat) (x y:AV):Option ae:=
 match x with
 |.ptr d b off=>if d=m.cur∧b=m.bQ m.cur-back∧0<back then m.store n (.ptr d b off) y else none
 |_=>none
def sO (mx:Bool):List AV→Option AV
 |x::r=>xP mx x r
 |[]=>none
def mc (call:aZ) (ro:Bool) (m:ae) (x:AV) (args:List AV):Option (AV×ae):=
 match x with
 |.fn f first caps=>dN call ro m (.fn f) (first++args++caps)
 |.yield l=>dN call ro m (.yield l) args
 |_=>none
def mA (m:ae):List AV→Option (List AV)
 |[]=>some []
 | .ptr d b off :: r => if d = m.cur then
   match(m.box d b).bind closeAll,mA m r with
   |some cs,some s=>some (.bg cs off::s)
   |_,_=>none
  else none
 |x::r=>if x.iU then(mA m r).map (x::·)else none
def ou (m:ae):AV→Option AV
 |.aO d b off es n _=>if d=m.cur then(m.box d b).bind fun cs=>if off+n*es≤cs.length then(closeAll cs).map fun cs'=>.slice .any es (chunks es n (cs'.drop off))else none else none
 |x=>x.close
def j8 (m:ae):List AV→Option (List AV)
 |[]=>some []
 |x::r=>match ou m x,j8 m r with
  |some y,some s=>some (y::s)
  |_,_=>none
def eF (m:ae):AV→Option AV
 |.slice (.tok _ _) es xs=>some (.slice .any es xs)
 |.ptr d b off=>if d=m.cur then(m.box d b).bind fun cs=>(closeAll cs).map fun cs'=>.bg cs' off else some (.ptr d b off)
 |.aO d b off es n cap=>if d=m.cur then(m.box d b).bind fun cs=>if off+n*es≤cs.length then((closeAll cs).or (j8 m cs)).map fun cs'=>.slice .any es (chunks es n (cs'.drop off))else none else some (.aO d b off es n cap)
 |.fn f first caps=>if first.all AV.vI then(mA m caps).map (.fn f first ·)else none
 |x=>x.close
def pD (m:ae):List AV→Option (List AV)
 |[]=>some []
 |x::r=>match eF m x,pD m r with
  |some y,some s=>some (y::s)
  |_,_=>none
def ev (m:ae):AV→Option AV
 |.agg cs=>(pD m cs).map .agg
 |x=>eF m x
def kI (m:ae):AV→Option (AV×ae)
 | .slice (.tok d g) es xs =>
  if d=m.cur∧1≤d∧m.ro<d∧m.tok d g=some xs.length then
   some (.slice (.tok (d-1) (m.jZ (d-1))) es xs,m.pop.lA (d-1) xs.length)
  else some (.slice .any es xs,m.pop)
 | .aO d b off es n cap =>
  if d=m.cur∧1≤d∧m.ro<d∧off=0∧cap=0∧0<n then
   (m.box d b).bind fun cs=>if cs.isEmpty=false∧cs.length=n*es then(closeAll cs).map fun cs'=>(.aO (d-1) (m.bQ (d-1)) 0 es n 0,m.pop.jw (d-1) cs')else none
  else(ev m (.aO d b off es n cap)).map (·,m.pop)
 |x=>(ev m x).map (·,m.pop)
def nA (call:aZ) (m:ae) (f:FuncId) (args:List AV):Option (AV×ae):=
 match call (.fn f) args {m.push ⟨[],[]⟩with ro:=m.ag.length,bt:=m.loops.length}with
 |some (.slice (.tok d g) es xs,s)=>
  if d=m.ag.length∧1≤m.ag.length∧m.ro<m.ag.length∧s.tok d g=some xs.length then some (.slice (.tok m.cur (m.jZ m.cur)) es xs,m.lA m.cur xs.length)
  else some (.slice .any es xs,m)
 |some (.aO ..,_)=>none
 |some (x,s)=>(ev s x).map (·,m)
 |none=>none
def l9 (call:aZ) (m:ae) (f:FuncId) (args:List AV):Option (AV×ae):=
 match call (.fn f) args {m.push ⟨[],[]⟩with ro:=m.ag.length,bt:=m.loops.length}with
 | some (.aO d b off es n cap, s) =>
  if d=m.ag.length∧1≤m.ag.length∧m.ro<m.ag.length∧off=0∧cap=0∧0<n then
   (s.box d b).bind fun cs=>if cs.isEmpty=false∧cs.length=n*es then(closeAll cs).map fun cs'=>(.aO m.cur (m.bQ m.cur) 0 es n 0,(m.dK cs').2)else none
  else(ev s (.aO d b off es n cap)).map (·,m)
 |some (.slice (.tok _ _) _ _,_)=>none
 |some (x,s)=>(ev s x).map (·,m)
 |none=>none
def ae.tail (m:ae) (r:Nat):List (List AV):=match m.ag[m.cur]? with
 |some q=>q.boxes.drop (q.boxes.length-r)
 |none=>[]
def ae.jr (m:ae) (r:Nat) (bx:List (List AV)):ae:=m.bu m.cur fun q=>{q with boxes:=q.boxes.take (q.boxes.length-r)++bx}
def qP:List (List AV)→List (List (List AV))
 |[]=>[[]]
 |z::r=>(qP r).map ([]::·)++(qP r).map (z::·)
open Classical in
noncomputable def nB (call:aZ) (ro:Bool) (m:ae) (zss:List (List AV)) (t:Target) (args:List AV):Option (AV×ae):=
 match dN call ro m t args with
 |some (v,m')=>if m.tail zss.length∈qP zss∧(∀bx,bx∈qP zss→dN call ro (m.jr zss.length bx) t args=some (v,m'.jr zss.length bx))∧m'.ag.length=m.ag.length∧m'.bQ m.cur=m.bQ m.cur∧m'.tail zss.length=m.tail zss.length∧(ro=true→m'=m)∧(m'.lS m.cur=false→m.lS m.cur=false)then some (v,m')else none
 |none=>none
noncomputable def aN (call:aZ) (ρ:aF→AV) (m:ae):ck→Option (AV×ae)
 |.move x=>some (ρ x,m)
 |.pick c a b=>(He (ρ c) (ρ a) (ρ b)).map (·,m)
 |.alloc zs=>if zs.isEmpty then none else some (m.dK zs)
 |.box n x=>yD m n (ρ x)
 |.build zs parts=>(nz zs ρ parts).map fun cs=>(.agg cs,m)
 |.buildSlice es rows parts=>(mO rows ρ parts).map fun rs=>(.slice .full es rs,m)
 |.load agg n x=>(m.load agg n (ρ x)).map (·,m)
 |.store n x y=>(m.store n (ρ x) (ρ y)).map (AV.undef,·)
 |.nilCheck x=>(zU (ρ x)).map (·,m)
 |.arith op x y=>(dR op (ρ x) (ρ y)).map (·,m)
 |.eqv neg k x y=>(pX k (ρ x) (ρ y)).map fun t=>(.v (.bool (if neg then !t else t)),m)
 |.un op x=>(unOp op (ρ x)).map (·,m)
 |.conv k x=>(mP k (ρ x)).map (·,m)
 |.K5 t x=>(KP t (ρ x)).map (·,m)
 |.oL f first caps=>if(first.map ρ).all AV.vI then some (.fn f (first.map ρ) (caps.map ρ),m)else none
 |.mkSlice es zs len cap=>Cl m es zs (ρ len) (ρ cap)
 |.Cm es zs len cap=>G9 m es zs (ρ len) (ρ cap)
 |.slice k x lo hi mx=>(gD k (ρ x) (qO ρ lo) (qO ρ hi) (qO ρ mx)).map (·,m)
 |.fieldAddr off x=>(Cq off (ρ x)).map (·,m)
 |.indexAddr arr es x i=>(kH arr es (ρ x) (ρ i)).map (·,m)
 |.GS x i=>(Ca (ρ x) (ρ i)).map (·,m)
 |.index n es agg x i=>(GR n es agg (ρ x) (ρ i)).map (·,m)
 |.field agg n off x=>(FF agg n off (ρ x)).map (·,m)
 |.extract i x=>(yT i (ρ x)).map (·,m)
 |.call ro f args=>dN call ro m (.fn f) (args.map ρ)
 |.kB ro x args=>mc call ro m (ρ x) (args.map ρ)
 |.tz f args=>nA call m f (args.map ρ)
 |.wQ f args=>dN call false m (.inl f) (args.map ρ)
 |.wR f args=>dN call true m (.nat f) (args.map ρ)
 |.r8 ro zss f args=>nB call ro m zss (.fn f) (args.map ρ)
 |.append es x y=>eI m es (ρ x) (ρ y)
 |.wA es x y=>wB m es (ρ x) (ρ y)
 |.wz es x y=>yo m es (ρ x) (ρ y)
 |.rU es x y h=>qI m es (ρ x) (ρ y) (ρ h)
 |.sV es x=>rH m es (ρ x)
 |.clear zs x=>wT m zs (ρ x)
 |.tu f args=>l9 call m f (args.map ρ)
 |.qK f args ws=>oT call m (.fn f) (args.map ρ) (ws.map fun q=>(q.1,q.2.1,ρ (.tmp q.2.2)))
 |.copy x y=>Bo m (ρ x) (ρ y)
 |.yE es row t=>yF m es row (ρ (.tmp t))
 |.len str x=>(ld str (ρ x)).map (·,m)
 |.Cf n=>some (AV.int n,m)
 |.G8 mx xs=>(sO mx (xs.map ρ)).map (·,m)
 |.l3 n=>some (AV.undef,m.l3 n)
 |.slot back zs=>mK m back zs
 |.gm res agg n x=>(xO m res agg n (ρ x)).map (·,m)
 |.jY agg n x=>(zM m agg n (ρ x)).map (·,m)
 |.fill back n x y=>(yV m back n (ρ x) (ρ y)).map (AV.undef,·)
def aE (ρ:Nat→AV):aF→AV
 |.tmp t=>ρ t
 |.const c=>c
def put (t:Nat) (x:AV) (ρ:Nat→AV):Nat→AV:=fun u=>if u=t then x else ρ u
def kK (ρ:Nat→AV) (dst:Option Nat) (x:AV):Nat→AV:=
 match dst with
 |some t=>put t x ρ
 |none=>ρ
def CF (b:Bool):AV→Bool
 |.v (.bool c)=>c==b
 |_=>false
def kM (ρ:Nat→AV):Option (Nat×Bool)→Bool
 |none=>true
 |some (t,b)=>CF b (ρ t)
noncomputable def ops (call:aZ):List bC→St→Option St
 |[],st=>some st
 | o :: rest, st =>
  if kM st.tmps o.guard then
   match aN call (aE st.tmps) st.sig o.op with
   |some (x,m)=>ops call rest ⟨kK st.tmps o.dst x,m⟩
   |none=>none
  else ops call rest ⟨kK st.tmps o.dst AV.undef,st.sig⟩
def lR (f:St→Option (cM×St)):Nat→St→Option (cM×St)
 |0,_=>none
 |n+1,st=>match f st with
  |some (.normal,aQ)=>lR f n aQ
  |r=>r
def uj (ρ:Nat→AV):List Nat→List AV→Nat→AV
 |p::ps,x::xs=>uj (put p x ρ) ps xs
 |_,_=>ρ
def jQ:List AV→Nat→AV
 |[],_=>AV.undef
 |x::_,0=>x
 |_::r,n+1=>jQ r n
def enterLoop (s:ae) (l:dq):ae:={s with loops:=s.loops++[l]}
def xN (s:ae) (l:Nat):Option (Option cM×ae):=
 if s.loops.length=l+1 then
  match s.loops[l]? with
  |some lp=>if lp.ready∨lp.eG.isSome then some (lp.eG,{s with loops:=s.loops.take l})else none
  |none=>none
 else none
noncomputable def exec (call:aZ) (lf:Nat):aw→St→Option (cM×St)
 |.skip,st=>some (.normal,st)
 |.region _ l,st=>(ops call l st).map (cM.normal,·)
 |.seq a b,st=>match exec call lf a st with
  |some (.normal,aQ)=>exec call lf b aQ
  |r=>r
 |.cond c a b,st=>match aE st.tmps c with
  |.v (.bool t)=>if t then exec call lf a st else exec call lf b st
  |_=>none
 |.block id a,st=>match exec call lf a st with
  |some (.exit j,aQ)=>if j=id then some (.normal,aQ)else some (.exit j,aQ)
  |r=>r
 |.loop a,st=>lR (exec call lf a) lf st
 | .rangeFunc f ps as body, st =>
  match aE st.tmps f with
  | .fn g first caps =>
   match call (.fn g) (first++.yield st.sig.loops.length::caps) (enterLoop st.sig ⟨true,none,st.tmps,ps,as,body⟩)with
   |some (_,s)=>match xN s st.sig.loops.length with
    |some (e,s1)=>some (e.getD .normal,⟨st.tmps,s1⟩)
    |none=>none
   |none=>none
  |_=>none
 |.exit id,st=>some (.exit id,st)
 |.ret,st=>some (.ret,st)
def sS (st:St):iF→Option AV
 |.tmp t=>some (st.tmps t)
 |.cell agg n t=>st.sig.load agg n (st.tmps t)
def sU (st:St):List iF→Option (List AV)
 |[]=>some []
 |r::rest=>match(sS st r).bind (ev st.sig),sU st rest with
  |some x,some s=>some (x::s)
  |_,_=>none
def ug (st:St):List iF→Option (List AV)
 |[]=>some []
 |r::rest=>match sS st r,ug st rest with
  |some x,some s=>some (x::s)
  |_,_=>none
def packed:List AV→AV
 |[x]=>x
 |l=>.tuple l
def ek (s:ae) (l:Nat) (f:dq→dq):ae:={s with loops:=s.loops.modify l f}
def Ch (s:ae) (l:Nat):Bool:=match s.loops[l]? with|some p=>p.ready|none=>false
def finish (rs:List iF) (own:Bool) (st:St):Option (AV×ae):=
 if own then
  match rs with
  |[r]=>(sS st r).bind (kI st.sig)
  |_=>none
 else(sU st rs).map fun l=>(packed l,st.sig.pop)
noncomputable def jd (AP:FuncId→Option aJ) (call:aZ) (lf:Nat):aZ:=fun t args s=>
 match t with
 | .fn f => match AP f with
  | some (.code np _ body rs own) =>
   if args.length=np then
    match exec call lf body ⟨jQ args,s.push ⟨[],[]⟩⟩with
    |some (.normal,st)|some (.ret,st)=>finish rs own st
    |_=>none
   else none
  |some (.rG F)=>(closeAll args).bind fun as=>(F as).map (·,s)
  |_=>none
 | .inl f => match AP f with
  | some (.code np _ body rs _) =>
   if args.length=np∧s.ro<s.ag.length then
    match exec call lf body ⟨jQ args,s⟩with
    |some (.normal,st)|some (.ret,st)=>(ug st rs).map fun l=>(packed l,st.sig)
    |_=>none
   else none
  |_=>none
 |.nat f=>match AP f with
  |some (.nat F)=>(closeAll args).bind fun as=>(F as).map (·,s)
  |_=>none
 | .yield l => match s.loops[l]? with
  | some lp =>
   if lp.ready = true ∧ s.bt ≤ l ∧ args.length = lp.params.length then
    match exec call lf lp.assign ⟨uj lp.tmps lp.params args,s.push ⟨[],[]⟩⟩with
    | some (.normal, st) =>
     if Ch st.sig l=true then
      match exec call lf lp.body ⟨st.tmps,ek st.sig l fun p=>{p with ready:=false}⟩with
      |some (.normal,aQ)=>some (AV.bool true,(ek aQ.sig l fun p=>{p with ready:=true,eG:=none}).pop)
      |some (e,aQ)=>some (AV.bool false,(ek aQ.sig l fun p=>{p with ready:=false,eG:=some e}).pop)
      |none=>none
     else none
    |_=>none
   else none
  |none=>none
noncomputable def ff (AP:FuncId→Option aJ):Nat→aZ
 |0=>fun _ _ _=>none
 |n+1=>jd AP (ff AP n) n
end Go.Ax
/-
  From the model's code to the abstract executor's: 'comp'. Plain definitions; nothing is claimed here.
-/
namespace Go.Ax
def fK {α β:Type} (f:α→Option β):List α→Option (List β)
 |[]=>some []
 |x::r=>match f x,fK f r with
  |some y,some s=>some (y::s)
  |_,_=>none
def tZ:Value→Option AV
 |.bool b=>some (.v (.bool b))
 |.int k n=>some (.v (.int k n))
 |.string s=>some (.v (.string s))
 |.pointer none=>some (.v (.pointer none))
 |.slice none 0 0=>some (.slice .aA 0 [])
 |.func (.func f) first caps=>if first.size=0∧caps.size=0 then some (.fn f [] [])else none
 |.nilFunc=>some (.v .nilFunc)
 |.nilIface=>some (.v .nilIface)
 |_=>none
def ofValue:Value→Option AV
 |.agg cs=>(fK tZ cs.toList).map .agg
 |x=>tZ x
def dG:Operand→Option aF
 |.tmp t=>some (.tmp t)
 |.const x=>(ofValue x).map .const
 |.func f=>some (.const (.fn f [] []))
 |.global _=>none
def Bn:Option Operand→Option (Option aF)
 |none=>some none
 |some x=>(dG x).map some
def cV (P:Program) (t:TypeId):Option Nat:=(P.info? t).map (·.size)
def yG (P:Program) (t:TypeId):Option Nat:=(P.info? t).map (·.bytes)
def bY (P:Program) (t:TypeId):Option (List AV):=((P.info? t).bind (·.zero)).bind fun z=>fK tZ z.cells.toList
def tX (P:Program) (t:TypeId):Option Bool:=(P.underlying t).map fun|.struct _|.array _ _=>true|_=>false
def z6 (P:Program) (t:TypeId):Option PK:=
 match P.underlying t with
 |some (.int _)=>some .int
 |some .bool=>some .bool
 |some .string=>some .str
 |_=>none
def wV (P:Program) (place:Nat→Option (Nat×Nat)):List (Nat×Operand)→Option (List (Nat×Nat×aF))
 |[]=>some []
 |(i,x)::r=>match place i,dG x,wV P place r with
  |some (off,size),some y,some s=>some ((off,size,y)::s)
  |_,_,_=>none
def uY:List (Nat×Operand)→Option (List (Nat×aF))
 |[]=>some []
 |(i,x)::r=>match dG x,uY r with
  |some y,some s=>some ((i,y)::s)
  |_,_=>none
def GW:Operand→Bool
 |.const .nilIface=>true
 |_=>false
def FC:BinOp→Option Bool
 |.eql=>some false
 |.neq=>some true
 |_=>none
def Fz (P:Program) (op:BinOp) (neg:Bool) (t:TypeId) (x y:Operand) (a b:aF):Option ck:=
 match P.underlying t with
 |some .bool=>some (.eqv neg .bool a b)
 |some (.int _)|some .string=>some (.arith op a b)
 |some (.struct fs)=>
  if P.stoodInHeld t=false∧P.eqGuardType P.depth t=false∧fs.toList.all (fun f=>f.name != "_")=true∧fs.toList.map (·.offset)=List.range fs.size
  then(fK (fun f:Field=>z6 P f.type) fs.toList).map fun ks=>.eqv neg (.agg ks) a b else none
 |some (.pointer _)=>some (.eqv neg .ptr a b)
 |some (.interface _)=>if GW x||GW y then some (.eqv neg .iface a b)else none
 |some (.slice _)=>some (.eqv neg .slice a b)
 |some (.func _ _ _)=>some (.eqv neg .func a b)
 |_=>none
def Om (P:Program) (op:BinOp) (t:TypeId) (x y:Operand):Option ck:=
 match dG x,dG y with
 |some a,some b=>match FC op with
  |some neg=>Fz P op neg t x y a b
  |none=>some (.arith op a b)
 |_,_=>none
def Fy (P:Program) (src dst:TypeId) (x:aF):Option ck:=
 match P.underlying src,P.underlying dst with
 |some (.int _),some (.int k)=>some (.conv (.int k) x)
 |some .string,some .string=>some (.conv .same x)
 |some .string,some (.slice e)=>match P.underlying e with
  |some (.int .u8)=>some (.conv .bytes x)
  |_=>none
 |some (.slice e),some .string=>match P.underlying e with
  |some (.int .u8)=>some (.conv .text x)
  |_=>none
 |_,_=>none
structure Mu where
 grow:Bool
 flat:List FuncId
 nat:List FuncId
 fresh:Bool:=false
 low:Bool:=false
 only:List Nat:=[]
 rows:Bool:=false
 boxed:List FuncId:=[]
 watch:List FuncId:=[]
 home:Option aF:=none
 ws:List (Bool×Nat×Nat):=[]
def Bl (P : Program) (ro own : Bool) (mu : Mu) (fr : Option (List (List AV))) (c : Call) : Option ck :=
 match fK dG c.args.toList with
 |none=>none
 | some as =>
  match c.callee with
  |.value (.func f)=>some (if mu.nat.contains f then .wR f as else if mu.flat.contains f then .wQ f as else if mu.boxed.contains f then .tu f as else if mu.watch.contains f then .qK f as mu.ws else if ro&&own then .tz f as else match fr with|some zs=>.r8 ro zs f as|none=>.call ro f as)
  |.value x=>(dG x).map fun y=>.kB ro y as
  |.invoke _ _=>none
  | .builtin b =>
   match b,as,c.argTypes.toList with
   | .append, [x, y], [t, u] => match P.underlying t, P.underlying u with
    |some (.slice e),some (.slice _)=>match cV P e,yG P e,bY P e with
     |some s,some n,some z=>if 0<s∧0<n∧n≤4096∧z.length=s then some (match(if mu.rows then mu.home else none)with|some h=>.rU s x y h|none=>if mu.grow then(if mu.fresh&&decide (n≤8*s)then .wz s x y else .wA s x y)else .append s x y)else none
     |_,_,_=>none
    |_,_=>none
   |.len,[x],[t]=>match P.underlying t with
    |some (.slice _)=>some (.len false x)
    |some .string=>some (.len true x)
    |some (.array n _)=>some (.Cf n)
    |_=>none
   | .copy, [x, y], [t, _] => match P.underlying t with
    |some (.slice e)=>match cV P e with
     |some 1=>some (.copy x y)
     |_=>none
    |_=>none
   | .clear, [x], [t] => match P.underlying t with
    |some (.slice e)=>match cV P e,bY P e with
     |some s,some z=>if 0<s∧z.length=s then some (.clear z x)else none
     |_,_=>none
    |_=>none
   |.max,_,_=>some (.G8 true as)
   |.min,_,_=>some (.G8 false as)
   |_,_,_=>none
def Z5 (P:Program) (mu:Bool) (e:TypeId) (len:Nat):List (Nat×Operand)→Option Nat
 |[(i,.tmp t)]=>match P.underlying e with
  |some (.slice _)=>if mu=true∧len=1∧i=0 then some t else none
  |_=>none
 |_=>none
def Z4 (rows:Bool) (len:Nat):List (Nat×aF)→Option aF
 |[(i,x)]=>if rows=true∧len=1∧i=0 then some x else none
 |_=>none
structure Md where
 ro:Bool
 own:Bool
 slot:Option Nat
 res:Option Nat
 fill:Option Nat
 mu:Mu
 fr:Option (List (List AV))
def gQ (P : Program) (md : Md) : Op → Option ck
 |.move x|.assign x=>(dG x).map .move
 |.pick c a b=>match dG c,dG a,dG b with
  |some c,some a,some b=>some (.pick c a b)
  |_,_,_=>none
 |.alloc e=>match md.slot with
  |none=>(bY P e).map .alloc
  |some b=>(bY P e).map (.slot b)
 |.box e x=>match cV P e,dG x with
  |some n,some y=>some (.box n y)
  |_,_=>none
 | .build t parts => match bY P t, P.underlying t with
  | some z, some (.struct fs) => if fs.toList.all (fun f => (cV P f.type).isSome) = true then (wV P (fun i => match fs[i]? with
    |some f=>(cV P f.type).map fun s=>(f.offset,s)
    |none=>none) parts.toList).map (.build z ·)else none
  |some z,some (.array _ e)=>match cV P e with
   |some s=>(wV P (fun i=>some (i*s,s)) parts.toList).map (.build z ·)
   |none=>none
  |_,_=>none
 | .buildSlice t len parts => match P.underlying t with
  |some (.slice e)=>match cV P e,bY P e,uY parts.toList with
   |some s,some z,some ps=>if len*s≤2^24∧z.length=s∧0<s then some (match Z4 md.mu.rows len ps with|some x=>.sV s x|none=>match Z5 P md.mu.grow e len parts.toList with|some t=>.yE s z t|none=>.buildSlice s (List.replicate len z) ps)else none
   |_,_,_=>none
  |_=>none
 |.load t x=>match tX P t,cV P t,dG x with
  |some g,some n,some y=>some (match md.res with|none=>if md.mu.low then .jY g n y else .load g n y|some r=>.gm r g n y)
  |_,_,_=>none
 |.store t x y=>match cV P t,dG x,dG y with
  |some n,some a,some b=>some (match md.fill with|none=>.store n a b|some k=>.fill k n a b)
  |_,_,_=>none
 |.nilCheck x=>(dG x).map .nilCheck
 |.binOp op t x y _=>Om P op t x y
 |.unOp op _ x=>(dG x).map (.un op ·)
 |.convert src dst x=>(dG x).bind (Fy P src dst ·)
 |.makeInterface t x=>match P.underlying t with
  |some (.interface _)=>none
  |some _=>(dG x).map (.K5 t ·)
  |none=>none
 |.makeFunc (.func f) first caps=>match fK dG first.toList,fK dG caps.toList with
  |some a,some b=>some (.oL f a b)
  |_,_=>none
 | .makeSlice t l c => match P.underlying t with
  |some (.slice e)=>match cV P e,yG P e,bY P e,dG l,dG c with
   |some s,some n,some z,some a,some b=>if 0<s∧n≤4096∧z.length=s then some (if md.mu.grow&&!md.mu.only.isEmpty then .Cm s z a b else .mkSlice s z a b)else none
   |_,_,_,_,_=>none
  |_=>none
 | .slice t x lo hi mx => match dG x, Bn lo, Bn hi, Bn mx with
  |some a,some l,some h,some m=>match P.underlying t with
   |some .string=>some (.slice .str a l h m)
   |some (.slice e)=>(cV P e).map fun s=>.slice (.sl s) a l h m
   |some (.array n e)=>(cV P e).map fun s=>.slice (.arr n s) a l h m
   |_=>none
  |_,_,_,_=>none
 | .fieldAddr s x i => match P.underlying s, dG x with
  | some (.struct fs), some a => match fs[i]? with
   |some f=>match cV P f.type with
    |some n=>if 0<n then some (.fieldAddr f.offset a)else none
    |none=>none
   |none=>none
  |_,_=>none
 | .field t x i => match P.underlying t, dG x with
  | some (.struct fs), some a => match fs[i]? with
   |some f=>match tX P f.type,cV P f.type with
    |some g,some n=>some (.field g n f.offset a)
    |_,_=>none
   |none=>none
  |_,_=>none
 | .indexAddr t x i => match dG x, dG i with
  |some a,some j=>match P.underlying t with
   |some (.array n e)=>(cV P e).map fun s=>.indexAddr (some n) s a j
   |some (.slice e)=>(cV P e).map fun s=>.indexAddr none s a j
   |_=>none
  |_,_=>none
 | .index t x i => match dG x, dG i with
  | some a, some j => match P.underlying t with
   |some (.array n e)=>match tX P e,cV P e with
    |some g,some s=>some (.index n s g a j)
    |_,_=>none
   |some .string=>some (.GS a j)
   |_=>none
  |_,_=>none
 |.extract x i=>(dG x).map (.extract i ·)
 |.call c=>Bl P md.ro md.own md.mu md.fr c
 |.panic _=>some (.nilCheck (.const AV.undef))
 |_=>none
def z8 (acc:List Nat):List Oper→Option (List Nat)
 |[]=>some acc
 | o :: r =>
  let es:=o.after.toList.filter (Region.binds .any)
  if es.all (fun e=>decide (e.on<acc.length))then
   z8 (acc++[es.foldl (fun m e=>m|||1<<<e.on|||acc.getD e.on 0) 0]) r
  else none
def before (pre:List Nat) (i j:Nat):Bool:=(pre.getD j 0).testBit i
inductive TC where
 |pure
 |load
 |soft
 |fresh
 |slot (back:Nat)
 |gm (res:Nat)
 |fill (back:Nat)
 |hard
 |jY
 deriving DecidableEq
def cZ:ck→TC
 |.load .. =>.load
 |.append .. =>.soft
 |.wA .. =>.hard
 |.call ro _ _|.kB ro _ _=>if ro then .soft else .hard
 |.tz _ _|.wR _ _=>.soft
 |.alloc _|.box .. |.mkSlice .. |.wz .. |.tu .. |.sV .. =>.fresh
 |.slot b _=>.slot b
 |.gm r _ _ _=>.gm r
 |.jY .. =>.jY
 |.fill b _ _ _=>.fill b
 |.store .. |.l3 _|.wQ .. |.qK .. |.rU .. |.clear .. |.r8 .. |.copy .. |.yE .. |.Cm .. =>.hard
 |_=>.pure
def aln:Op→Bool
 |.load .. =>true
 |_=>false
def jK:aF→List Nat
 |.tmp t=>[t]
 |.const _=>[]
def Ls:Option aF→List Nat
 |some x=>jK x
 |none=>[]
def Lr:ck→List Nat
 |.move x|.box _ x|.sV _ x|.clear _ x|.load _ _ x|.gm _ _ _ x|.jY _ _ x|.nilCheck x|.un _ x|.conv _ x|.K5 _ x|.fieldAddr _ x|.field _ _ _ x|.extract _ x|.len _ x=>jK x
 |.pick c a b=>jK c++jK a++jK b
 |.alloc _|.Cf _|.l3 _|.slot _ _=>[]
 |.build _ ps=>ps.flatMap fun p=>jK p.2.2
 |.buildSlice _ _ ps=>ps.flatMap fun p=>jK p.2
 |.yE _ _ t=>[t]
 |.copy x y|.store _ x y|.fill _ _ x y|.arith _ x y|.eqv _ _ x y|.mkSlice _ _ x y|.Cm _ _ x y|.indexAddr _ _ x y|.GS x y|.index _ _ _ x y|.append _ x y|.wA _ x y|.wz _ x y=>jK x++jK y
 |.oL _ a b=>a.flatMap jK++b.flatMap jK
 |.rU _ x y h=>jK x++jK y++jK h
 |.qK _ xs ws=>xs.flatMap jK++ws.map fun q=>q.2.2
 |.call _ _ xs|.tz _ xs|.tu _ xs|.wQ _ xs|.wR _ xs|.r8 _ _ _ xs|.G8 _ xs=>xs.flatMap jK
 |.kB _ x xs=>jK x++xs.flatMap jK
 |.slice _ x lo hi mx=>jK x++Ls lo++Ls hi++Ls mx
def vR (o:bC):List Nat:=Lr o.op++(match o.guard with|some (t,_)=>[t]|none=>[])
def aau (f:Nat→bC→Nat→bC→Bool) (l:List bC):Bool:=
 l.zipIdx.all fun(x,i)=>l.zipIdx.all fun(y,j)=>i==j||f i x j y
inductive ZK where
 |i (k:IntKind) (n:Int)
 |b (x:Bool)
 |p
 |s (e:Nat)
 deriving DecidableEq
def LW:AV→Option ZK
 |.v (.int k n)=>some (.i k n)
 |.v (.bool x)=>some (.b x)
 |.v (.pointer none)=>some .p
 |.slice .aA e []=>some (.s e)
 |_=>none
def x4:List AV→Option (List ZK)
 |[]=>some []
 |x::r=>match LW x,x4 r with
  |some y,some s=>some (y::s)
  |_,_=>none
def Sm (a b:List AV):Bool:=match x4 a,x4 b with
 |some p,some q=>decide (p=q)
 |_,_=>false
def Bw (x y:ck):Bool:=
 match x,y with
 |.r8 _ zss _ _,.slot b zs'=>decide (0<b∧b≤zss.length)&&(match zss[zss.length-b]? with|some z=>Sm z zs'|none=>false)
 |.r8 ro _ _ _,.gm .. =>ro
 |.gm ..,.r8 ro _ _ _=>ro
 |.qK _ _ ws,.load g n (.tmp t)=>ws.any fun q=>q.1==g&&q.2.1==n&&q.2.2==t
 |.load g n (.tmp t),.qK _ _ ws=>ws.any fun q=>q.1==g&&q.2.1==n&&q.2.2==t
 |_,_=>false
def tC (pre : List Nat) (l : List bC) : Bool :=
  aau (fun i x j y =>
    (match x.dst,y.dst with|some s,some t=>s != t|_,_=>true)&&
    (match y.dst with|some t=>!(vR x).contains t||before pre i j||before pre j i|none=>true)&&
    (match cZ x.op,cZ y.op with
      |.pure,_|_,.pure|.load,.load=>true
      |.load,.soft|.soft,.load|.jY,.jY|.jY,.fresh|.fresh,.jY=>true
      |.load,.fresh=>before pre i j||before pre j i||decide (i<j)
      |.fresh,.load=>before pre i j||before pre j i||decide (j<i)
      |.gm _,.gm _|.slot _,.slot _=>true
      |.gm r,.slot b|.slot b,.gm r|.gm r,.fill b|.fill b,.gm r=>before pre i j||before pre j i||decide (b≤r)
      |_,_=>before pre i j||before pre j i||(Bw x.op y.op&&decide (i<j))||(Bw y.op x.op&&decide (j<i)))) l&&
  l.all fun x=>match x.dst with|some t=>!(vR x).contains t|none=>true
def K9 (pre:List Nat) (l:List Oper) (i:Nat):Bool:=
 l.zipIdx.any fun(o,j)=>aln o.op&&!(before pre i j)&&!(before pre j i)
def aic (l:List Oper) (t:Nat):Bool:=
 l.any fun o=>match o.op with
  |.call c=>(match c.callee with|.builtin .append=>true|_=>false)&&(match c.args.toList with|.tmp u::_=>u==t|_=>false)
  |_=>false
def J3 (l:List Oper) (i:Nat):Bool:=match(l[i]?).bind (·.dst)with
 |some t=>aic l t
 |none=>false
def Bm (l:List Oper):Option (Nat×Bool)→Option (Option (Nat×Bool))
 |none=>some none
 |some (j,b)=>match(l[j]?).bind (·.dst)with
  |some t=>some (some (t,b))
  |none=>none
def ot (P:Program) (all:List Oper) (md:Nat→Md):Nat→List Oper→Option (List bC)
 |_,[]=>some []
 |i,o::r=>match Bm all o.guard,gQ P (md i) o.op,ot P all md (i+1) r with
  |some g,some op,some s=>some (⟨o.dst,g,op⟩::s)
  |_,_,_=>none
def QV:Op→Bool
 |.alloc _=>true
 |_=>false
def wv:List Oper→Nat
 |[]=>0
 |o::r=>(if QV o.op then 1 else 0)+wv r
def acR (P:Program) (l:List Oper):Option (List (List AV)):=fK (fun o=>match o.op with
 |.alloc e=>bY P e
 |_=>none) (l.filter fun o=>QV o.op)
def abB (l:List Oper) (i:Nat):Option Nat:=some (wv (l.drop i))
def OJ (p:Nat):List Oper→Option Nat
 |[]=>none
 |o::r=>match o.dst with
  |some t=>if QV o.op&&t==p then some (wv (o::r))else OJ p r
  |none=>OJ p r
def WM (l:List Oper) (i:Nat):Option Nat:=
 match l[i]? with
 |some o=>match o.op with
  |.store _ (.tmp p) _=>OJ p l
  |_=>none
 |none=>none
def ahb (l:List Oper) (i:Nat):Bool:=match l[i]? with
 | some o => (match o.op with
  |.call c=>(match c.args.toList with
   |.tmp u::_=>l.any fun q=>(match q.op with|.buildSlice .. =>true|_=>false)&&q.dst==some u
   |_=>false)
  |_=>false)
 |none=>false
def Mu.abw (mu:Mu) (l:List Oper) (i:Nat):Mu:=if mu.only.isEmpty then mu else{mu with grow:=mu.grow&&(match(l[i]?).bind (·.dst)with|some t=>mu.only.contains t|none=>false)}
def aj4 (l : List Oper) (i : Nat) : Option aF := match l[i]? with
 | some o => (match o.op with
  | .call c => (match c.callee, c.args.toList with
   |.builtin .append,.tmp u::_=>(match l.find? (fun q=>q.dst==some u)with
    |some q=>(match q.op with|.load _ x=>dG x|_=>none)
    |none=>none)
   |_,_=>none)
  |_=>none)
 |none=>none
def auh (P:Program) (pre:List Nat) (l:List Oper) (i:Nat):List (Bool×Nat×Nat):=l.zipIdx.filterMap fun(o,j)=>match o.op with
 |.load t (.tmp u)=>if before pre i j||before pre j i then none else(match tX P t,cV P t with|some g,some n=>some (g,n,u)|_,_=>none)
 |_=>none
def Mu.Yh (mu:Mu) (l:List Oper) (i:Nat):Mu:=if mu.rows then{mu.abw l i with home:=aj4 l i}else mu.abw l i
def Mu.at (P:Program) (pre:List Nat) (mu:Mu) (l:List Oper) (i:Nat):Mu:={mu.Yh l i with fresh:=ahb l i,ws:=if mu.watch.isEmpty then[]else auh P pre l i}
def JC (P:Program) (mu:Mu) (pre:List Nat) (l:List Oper):Option (Nat×List bC):=
 match ot P l (fun i=>⟨K9 pre l i,J3 l i,none,none,none,{Mu.at P pre mu l i with low:=true},none⟩) 0 l with
 |some as=>if tC pre as then some (1,as)else none
 |none=>none
def JD (P : Program) (mu : Mu) (l : List Oper) (drawn : Bool) : Option (Nat × List bC) :=
 if drawn then
  match z8 [] l with
  |none=>none
  | some pre => match ot P l (fun i => ⟨K9 pre l i, J3 l i, none, none, none, Mu.at P pre mu l i, none⟩) 0 l with
   | some as => if tC pre as then some (0, as) else
    match ot P l (fun i=>⟨K9 pre l i,J3 l i,abB l i,some (wv l),WM l i,Mu.at P pre mu l i,none⟩) 0 l with
    | some AB => if tC pre AB then some (wv l, AB) else
     if 0<wv l then
      match ot P l (fun i=>⟨K9 pre l i,J3 l i,abB l i,some (wv l),WM l i,Mu.at P pre mu l i,acR P l⟩) 0 l with
      |some ML=>if tC pre ML then some (wv l,ML)else JC P mu pre l
      |none=>none
     else JC P mu pre l
    |none=>none
   |none=>none
 else(ot P l (fun i=>⟨false,false,none,none,none,mu.Yh l i,none⟩) 0 l).map (0,·)
def R2 (d:Bool):Nat×List bC→aw
 |(0,as)=>.region d as
 |(n+1,as)=>.seq (.region false [⟨none,none,.l3 (n+1)⟩]) (.region d as)
def comp (P:Program) (mu:Mu):Code→Option aw
 |.skip=>some .skip
 |.region _ l drawn=>(JD P mu l.toList drawn).map (R2 drawn)
 |.seq a b=>match comp P mu a,comp P mu b with
  |some x,some y=>some (.seq x y)
  |_,_=>none
 |.cond c a b=>match dG c,comp P mu a,comp P mu b with
  |some z,some x,some y=>some (.cond z x y)
  |_,_,_=>none
 |.block id a=>(comp P mu a).map (.block id ·)
 |.loop a=>(comp P mu a).map .loop
 |.rangeFunc f ps a b=>match dG f,comp P mu a,comp P mu b with
  |some z,some x,some y=>some (.rangeFunc z ps.toList x y)
  |_,_,_=>none
 |.exit id=>some (.exit id)
 |.ret=>some .ret
 |_=>none
def aa1 (P:Program) (t:Nat) (g:Option Bool) (n:Option Nat):Option iF:=
 let _:=P
 match g,n with
 |some g,some n=>some (.cell g n t)
 |_,_=>none
def wW (P:Program):ResultVar→Option iF
 |.tmp t=>some (.tmp t)
 |.cell a t=>aa1 P a (tX P t) (cV P t)
def kj (n:Nat):aw→Bool
 |.region _ l=>l.all fun o=>match o.dst with|some t=>decide (t<n)|none=>true
 |.seq a b|.cond _ a b=>kj n a&&kj n b
 |.block _ a|.loop a=>kj n a
 |.rangeFunc _ ps a b=>ps.all (fun t=>decide (t<n))&&kj n a&&kj n b
 |_=>true
def aW (P:Program) (own:Bool) (mu:Mu) (fn:Func):Option aJ:=
 if fn.name== "runtime.NumGoroutine" then none else
 match fn.body with
 |none=>none
 |some c=>match comp P mu c,fK (wW P) fn.results.toList with
  |some b,some rs=>if fn.params.size+fn.nfree≤fn.ntmps∧kj fn.ntmps b=true then some (.code (fn.params.size+fn.nfree) fn.ntmps b rs own)else none
  |_,_=>none
end Go.Ax
/-
  What the abstract executor's states say of a world: the relation, and how it is kept.
-/
namespace Go.Ax
open Go.RowKit
abbrev gn:=Nat→Nat→Option Value
def plain:Value→Bool
 |.bool _|.int _ _|.string _|.pointer none|.nilFunc|.nilIface=>true
 |_=>false
inductive bL (I:gn):AV→Value→Prop
 |v {x:Value} (h:plain x=true):bL I (.v x) x
 |aA {es:Nat}:bL I (.slice .aA es []) (.slice none 0 0)
 | slice {o : Own} {es : Nat} {xs : List (List AV)} {blk off cap : Nat} (f : Nat → Nat → Value)
   (ho:o=.any∨(o=.full∧cap=xs.length)) (hc:xs.length≤cap) (dY:∀r,r∈xs→r.length=es)
   (bz:∀r,r∈xs→∀c,c∈r→c.bA=true)
   (hI:∀i (hi:i<xs.length) j (_:j<xs[i].length),I blk (off+i*es+j)=some (f i j))
   (hR:∀i (hi:i<xs.length) j (hj:j<xs[i].length),bL I (xs[i][j]) (f i j)):
   bL I (.slice o es xs) (.slice (some ⟨blk,off,none⟩) xs.length cap)
 |empty {o:Own} {es:Nat} {a:Addr} (ho:o=.any∨o=.full):bL I (.slice o es []) (.slice (some a) 0 0)
 | bg {cs : List AV} {off blk o0 : Nat} (f : Nat → Value) (bz : ∀ c, c ∈ cs → c.bA = true)
   (hI:∀i,i<cs.length→I blk (o0+i)=some (f i))
   (hR:∀i (hi:i<cs.length),bL I cs[i] (f i)):bL I (.bg cs off) (.pointer (some ⟨blk,o0+off,none⟩))
 |iface {t:TypeId} {x:AV} {y:Value} (h:bL I x y):bL I (.iface t x) (.iface t y)
 |zY {t:TypeId} {y:Value}:bL I .zY (.iface t y)
 | agg {cs : List AV} {arr : Array Value} (hl : arr.size = cs.length) (bz : ∀ c, c ∈ cs → c.bA = true)
   (hR:∀i (hi:i<cs.length),bL I cs[i] (arr.getD i Go.undef)):bL I (.agg cs) (.agg arr)
 | fn {f : FuncId} {first caps : List AV} {a1 a2 : Array Value} (l1 : a1.size = first.length) (l2 : a2.size = caps.length)
   (r1:∀i (hi:i<first.length),bL I first[i] (a1.getD i Go.undef))
   (r2:∀i (hi:i<caps.length),bL I caps[i] (a2.getD i Go.undef)):bL I (.fn f first caps) (.func (.func f) a1 a2)
structure lu where
 n:Option Nat
 blk:Nat
 cap:Nat
 es:Nat
structure cN where
 bl:List (Option Nat)
 tk:List lu
 nl:Nat
 marks:List Nat
 gs:Nat→Option Nat
inductive rR where
 |box (d b:Nat)
 |tok (d g:Nat)
 |loop (l:Nat)
 |mark (d i:Nat)
structure aG where
 I:gn
 ag:List cN
 loops:List Nat
 own:Nat→Option rR
inductive Rel (G:aG) (k nl:Nat):AV→Value→Prop
 |cl {x:AV} {y:Value} (h:bL G.I x y):Rel G k nl x y
 |undef:Rel G k nl AV.undef Go.undef
 | tok {d g es : Nat} {xs : List (List AV)} {a : Addr} {cap : Nat} (T : lu) (gr : cN) (hd : d ≤ k) (hg : G.ag[d]? = some gr) (ht : gr.tk[g]? = some T)
   (dY:T.es=es) (hc:bL G.I (.slice .any es xs) (.slice (some a) xs.length cap))
   (hn:∀n,T.n=some n→xs.length≤n∧(xs.length=n→a=⟨T.blk,0,none⟩∧cap=T.cap)):
   Rel G k nl (.slice (.tok d g) es xs) (.slice (some a) xs.length cap)
 | ptr {d b off blk : Nat} (gr : cN) (hd : d ≤ k) (hg : G.ag[d]? = some gr) (hb : gr.bl[b]? = some (some blk)) :
   Rel G k nl (.ptr d b off) (.pointer (some ⟨blk,off,none⟩))
 | aO {d b off es n cap rc blk o0 : Nat} (gr : cN) (hd : d ≤ k) (hg : G.ag[d]? = some gr) (hb : gr.bl[b]? = some (some blk)) (hn : n ≤ rc) (hc : cap ≤ rc) (hw : cap = 0 → 0 < n → gr.gs b = some (rc * es)) (ho : 0 < n ∨ 0 < cap → o0 = off) :
   Rel G k nl (.aO d b off es n cap) (.slice (some ⟨blk,o0,none⟩) n rc)
 | yield {l r : Nat} (hl : l < nl) (h : G.loops[l]? = some r) : Rel G k nl (.yield l) (.func (.yield r) #[] #[])
 | agg {cs : List AV} {arr : Array Value} (hl : arr.size = cs.length) (bz : ∀ c, c ∈ cs → c.bA = true)
   (hR:∀i (hi:i<cs.length),Rel G k nl cs[i] (arr.getD i Go.undef)):Rel G k nl (.agg cs) (.agg arr)
 | tuple {vs : List AV} {arr : Array Value} (hl : arr.size = vs.length)
   (hR:∀i (hi:i<vs.length),Rel G k nl vs[i] (arr.getD i Go.undef)):Rel G k nl (.tuple vs) (.tuple arr)
 | fn {f : FuncId} {first caps : List AV} {a1 a2 : Array Value} (l1 : a1.size = first.length) (l2 : a2.size = caps.length)
   (r1:∀i (hi:i<first.length),bL G.I first[i] (a1.getD i Go.undef))
   (r2:∀i (hi:i<caps.length),Rel G k nl caps[i] (a2.getD i Go.undef)):Rel G k nl (.fn f first caps) (.func (.func f) a1 a2)
def wh (T T':lu):Prop:=T'.es=T.es∧(T'=T∨T'.n=none∨∃n n',T.n=some n∧T'.n=some n'∧n<n')
theorem wh.refl (T:lu):wh T T:=⟨rfl,.inl rfl⟩
theorem wh.trans {T T' H5:lu} (h:wh T T') (h':wh T' H5):wh T H5:=by
 obtain⟨e,h⟩:=h
 obtain⟨e',h'⟩:=h'
 refine⟨e'.trans e,?_⟩
 rcases h' with rfl|h'|⟨n,n',h1,h2,h3⟩
 ·exact h
 ·exact .inr (.inl h')
 ·rcases h with rfl|h|⟨m,m',h4,h5,h6⟩
  ·exact .inr (.inr ⟨n,n',h1,h2,h3⟩)
  ·rw[h]at h1;cases h1
  ·rw[h5]at h1
   injection h1 with h1
   exact .inr (.inr ⟨m,n',h4,h2,by omega⟩)
structure jc (gr bI:cN):Prop where
 bl:∀(b blk:Nat),gr.bl[b]? =some (some blk)→bI.bl[b]? =some (some blk)
 tk:∀(g:Nat) (T:lu),gr.tk[g]? =some T→∃T',bI.tk[g]? =some T'∧wh T T'
 nl:bI.nl=gr.nl
 gs:∀b n,gr.gs b=some n→bI.gs b=some n
theorem jc.refl (gr:cN):jc gr gr:=⟨fun _ _ h=>h,fun _ T h=>⟨T,h,.refl T⟩,rfl,fun _ _ h=>h⟩
theorem jc.trans {a b c:cN} (h:jc a b) (k:jc b c):jc a c:=
 ⟨fun i x e=>k.bl i x (h.bl i x e),fun g T e=>let⟨T',e',l'⟩:=h.tk g T e;let⟨H5,Ox,Q8⟩:=k.tk g T' e';⟨H5,Ox,l'.trans Q8⟩,k.nl.trans h.nl,fun b n e=>k.gs b n (h.gs b n e)⟩
structure bD (k nl:Nat) (G G':aG):Prop where
 I:∀b i v,G.I b i=some v→G'.I b i=some v
 ag:∀(d:Nat) (gr:cN),d≤k→G.ag[d]? =some gr→∃bI,G'.ag[d]? =some bI∧jc gr bI∧(d<k→bI.marks=gr.marks)
 loops:∀(l r:Nat),l<nl→G.loops[l]? =some r→G'.loops[l]? =some r
theorem bD.refl (k nl:Nat) (G:aG):bD k nl G G:=⟨fun _ _ _ h=>h,fun _ gr _ h=>⟨gr,h,.refl gr,fun _=>rfl⟩,fun _ _ _ h=>h⟩
theorem bD.trans {k nl:Nat} {a b c:aG} (h:bD k nl a b) (h':bD k nl b c):bD k nl a c:=
  ⟨fun i j v e=>h'.I i j v (h.I i j v e),fun d gr hd e=>let⟨bI,e',l',m'⟩:=h.ag d gr hd e;let⟨Xj,Ox,Q8,m''⟩:=h'.ag d bI hd e';⟨Xj,Ox,l'.trans Q8,fun aC=>(m'' aC).trans (m' aC)⟩,
   fun l r hl e=>h'.loops l r hl (h.loops l r hl e)⟩
theorem bD.less {k nl k' gL:Nat} {G G':aG} (h:bD k nl G G') (hk:k'≤k) (hl:gL≤nl):bD k' gL G G':=
 ⟨h.I,fun d gr hd e=>let⟨bI,e',l',m'⟩:=h.ag d gr (by omega) e;⟨bI,e',l',fun aC=>m' (by omega)⟩,fun l r aC e=>h.loops l r (by omega) e⟩
theorem bL.mono {I I':gn} (hI:∀b i v,I b i=some v→I' b i=some v) {x:AV} {y:Value} (h:bL I x y):bL I' x y:=by
 induction h with
 |v h=>exact .v h
 |aA=>exact .aA
 |slice f ho hc dY bz h1 _ ih=>exact .slice f ho hc dY bz (fun i hi j hj=>hI _ _ _ (h1 i hi j hj)) ih
 |empty ho=>exact .empty ho
 |bg f bz h1 _ ih=>exact .bg f bz (fun i hi=>hI _ _ _ (h1 i hi)) ih
 |iface _ ih=>exact .iface ih
 |zY=>exact .zY
 |agg hl bz _ ih=>exact .agg hl bz ih
 |fn l1 l2 _ _ ih1 fS=>exact .fn l1 l2 ih1 fS
theorem Rel.mono {G G':aG} {k nl k' gL:Nat} (h:bD k nl G G') (hk:k≤k') (hl:nl≤gL) {x:AV} {y:Value} (r:Rel G k nl x y):Rel G' k' gL x y:=by
 induction r with
 |cl hc=>exact .cl (hc.mono h.I)
 |undef=>exact .undef
 | tok T gr hd hg ht dY hc hn =>
  obtain⟨bI,bB,hle,_⟩:=h.ag _ _ hd hg
  obtain⟨T',QB,he,hT⟩:=hle.tk _ _ ht
  refine .tok T' bI (by omega) bB QB (he.trans dY) (hc.mono h.I) (fun n jl=>?_)
  rcases hT with rfl|hT|⟨m,m',h1,h2,h3⟩
  ·exact hn n jl
  ·rw[hT]at jl;cases jl
  ·rw[h2]at jl
   injection jl with jl
   have:=(hn m h1).1
   exact⟨by omega,fun e=>by omega⟩
 |ptr gr hd hg hb=>
  obtain⟨bI,bB,hle,_⟩:=h.ag _ _ hd hg
  exact .ptr bI (by omega) bB (hle.bl _ _ hb)
 |aO gr hd hg hb hn hc hw ho=>
  obtain⟨bI,bB,hle,_⟩:=h.ag _ _ hd hg
  exact .aO bI (by omega) bB (hle.bl _ _ hb) hn hc (fun e1 e2=>hle.gs _ _ (hw e1 e2)) ho
 |yield aC he=>exact .yield (by omega) (h.loops _ _ aC he)
 |agg re bz _ ih=>exact .agg re bz ih
 |tuple re _ ih=>exact .tuple re ih
 |fn l1 l2 r1 _ ih=>exact .fn l1 l2 (fun i hi=>(r1 i hi).mono h.I) ih
def pN (B0:Nat) (G:aG) (d nl b:Nat) (g:Option Nat) (cs:List AV) (blk:Nat) (w:World):Prop:=
 B0≤blk∧(∃x,G.own blk=some (.box d x)∧(cs≠[]→x=b))∧(cs≠[]→∀i,G.I blk i=none)∧
  ∃arr ty,w.heap[blk]? =some (.cells arr ty)∧cs.length≤arr.size∧(cs≠[]→∀n,g=some n→arr.size=n)∧∀i (hi:i<cs.length),cs[i].bA=true∧Rel G d nl cs[i] (arr.getD i Go.undef)
def Az (B0:Nat) (G:aG) (d g:Nat) (n:Option Nat) (T:lu) (w:World):Prop:=
 T.n=n∧∀m,n=some m→B0≤T.blk∧G.own T.blk=some (.tok d g)∧(∀i,m*T.es≤i→G.I T.blk i=none)∧
  m≤T.cap∧0<T.es∧∃arr ty,w.heap[T.blk]? =some (.cells arr ty)∧arr.size=T.cap*T.es
def HU (B0:Nat) (G:aG) (d i b:Nat) (w:World):Prop:=
 B0≤b∧G.own b=some (.mark d i)∧w.heap[b]? =some (.deferred (some []))
structure wg (B0:Nat) (G:aG) (d:Nat) (r:Rec) (gr:cN) (w:World):Prop where
 eu:gr.bl.length=r.boxes.length
 iZ:gr.tk.length=r.toks.length
 box:∀(b:Nat) (cs:List AV) (blk:Nat),r.boxes[b]? =some cs→gr.bl[b]? =some (some blk)→pN B0 G d gr.nl b (gr.gs b) cs blk w
 full:∀(b blk:Nat),gr.bl[b]? =some (some blk)→r.boxes[b]? =some []→none∈r.toks
 tok:∀(g:Nat) (n:Option Nat) (T:lu),r.toks[g]? =some n→gr.tk[g]? =some T→Az B0 G d g n T w
 mark:∀(i b:Nat),gr.marks[i]? =some b→HU B0 G d i b w
 mR:∀(b n:Nat),gr.gs b=some n→∃blk,gr.bl[b]? =some (some blk)
def exitCode:cM→Option Code
 |.normal=>none
 |.exit id=>some (.exit id)
 |.ret=>some .ret
def pQ (P:Program) (G:aG) (l:Nat) (lp:dq) (rc:Loop):Prop:=
 (lp.ready=true→rc.state=.ready∧lp.eG=none)∧
  (lp.ready=false→rc.state=(if lp.eG.isSome then .done else .busy))∧rc.pending=lp.eG.bind exitCode∧lp.eG≠some .normal∧
  rc.params.toList=lp.params∧(∃mu,comp P mu rc.assign=some lp.assign∧comp P mu rc.body=some lp.body)∧kj rc.tmps.size lp.assign=true∧kj rc.tmps.size lp.body=true∧
  (∀p,p∈lp.params→p<rc.tmps.size)∧
  ∃k nl,k+1≤G.ag.length∧nl≤l∧(∀d gr,G.ag[d]? =some gr→l<gr.nl→k<d)∧∀t,Rel G k nl (lp.tmps t) (rc.tmps.getD t Go.undef)
def HT (P:Program) (B0:Nat) (G:aG) (l:Nat) (lp:dq) (r:Nat) (w:World):Prop:=
 B0≤r∧G.own r=some (.loop l)∧∃rc:Loop,w.heap[r]? =some (.loop rc)∧pQ P G l lp rc
structure cE (P:Program) (B0:Nat) (w0:World) (G:aG) (s:ae) (w:World):Prop where
 ft:∀(b i:Nat) (v:Value),G.I b i=some v→w.cell? ⟨b,i,none⟩=some v
 len:G.ag.length=s.ag.length
 jX:G.loops.length=s.loops.length
 cT:∀(d:Nat) (r:Rec) (gr:cN),s.ag[d]? =some r→G.ag[d]? =some gr→wg B0 G d r gr w
 loop:∀(l:Nat) (lp:dq) (r:Nat),s.loops[l]? =some lp→G.loops[l]? =some r→HT P B0 G l lp r w
 pH:∀(d:Nat) (gr:cN),G.ag[d]? =some gr→gr.nl≤s.loops.length
 rE:∀(d d':Nat) (gr bI:cN),d≤d'→G.ag[d]? =some gr→G.ag[d']? =some bI→gr.nl≤bI.nl
 below:Below B0 w0 w
 low:B0≤w.heap.size
 eU:∀(b:Nat) (o:rR),G.own b=some o→b<w.heap.size
section
variable{P:Program} {B0:Nat} {w0:World} {G G':aG} {w w':World}
theorem pN.cU {d nl b blk:Nat} {g:Option Nat} {cs:List AV} (h:pN B0 G d nl b g cs blk w) (hle:bD d nl G G') (ho:∀x,G.own blk=some (.box d x)→G'.own blk=some (.box d x)) (hh:w'.heap[blk]? =w.heap[blk]?)
  (hI:∀i,G.I blk i=none→G'.I blk i=none):pN B0 G' d nl b g cs blk w':=by
 obtain⟨h1,⟨x,h2,h2'⟩,h3,arr,ty,h4,h5,h7,h6⟩:=h
 exact⟨h1,⟨x,ho x h2,h2'⟩,fun hn i=>hI i (h3 hn i),arr,ty,hh.trans h4,h5,h7,fun i hi=>⟨(h6 i hi).1,(h6 i hi).2.mono hle (aH _) (aH _)⟩⟩
theorem pN.kept {X:rR→Prop} {d nl b blk:Nat} {g:Option Nat} {cs:List AV} (h:pN B0 G d nl b g cs blk w) (hle:bD d nl G G') (hk:∀b o,G.own b=some o→¬X o→G'.own b=some o∧w'.heap[b]? =w.heap[b]? ∧∀i,G.I b i=none→G'.I b i=none)
  (hX:∀x,¬X (.box d x)):pN B0 G' d nl b g cs blk w':=by
 obtain⟨x,h2,_⟩:=h.2.1
 obtain⟨k1,k2,k3⟩:=hk _ _ h2 (hX x)
 exact h.cU hle (fun y e=>by rw[h2]at e;injection e with e;rw[←e];exact k1) k2 k3
theorem Az.cU {d g:Nat} {n:Option Nat} {T:lu} (h:Az B0 G d g n T w) (ho:n.isSome→G'.own T.blk=some (.tok d g)) (hh:n.isSome→w'.heap[T.blk]? =w.heap[T.blk]?)
  (hI:n.isSome→∀i,G.I T.blk i=none→G'.I T.blk i=none):Az B0 G' d g n T w':=by
 obtain⟨h1,h2⟩:=h
 refine⟨h1,fun m hm=>?_⟩
 have hs:n.isSome=true:=by rw[hm];rfl
 obtain⟨a1,_,a3,a4,a5,arr,ty,a6,a7⟩:=h2 m hm
 exact⟨a1,ho hs,fun i hi=>hI hs i (a3 i hi),a4,a5,arr,ty,(hh hs).trans a6,a7⟩
theorem HU.cU {d i b:Nat} (h:HU B0 G d i b w) (ho:G'.own b=some (.mark d i)) (hh:w'.heap[b]? =w.heap[b]?):HU B0 G' d i b w':=
 ⟨h.1,ho,hh.trans h.2.2⟩
theorem pQ.cU {l:Nat} {lp:dq} {rc:Loop} (h:pQ P G l lp rc) (hle:∀k nl,k+1≤G.ag.length→nl≤l→bD k nl G G') (hlen:G.ag.length≤G'.ag.length):pQ P G' l lp rc:=by
 obtain⟨a1,a2,a3,a4,a5,a6,a8,a9,MA,k,nl,TG,a12,H7,MB⟩:=h
 refine⟨a1,a2,a3,a4,a5,a6,a8,a9,MA,k,nl,by omega,a12,fun d bI hg hl=>?_,fun t=>(MB t).mono (hle k nl TG a12) (aH _) (aH _)⟩
 by_cases hd:d<G.ag.length
 ·obtain⟨Xj,e,hr,_⟩:=(hle d 0 hd (bp _)).ag d _ (aH _) (cY hd)
  rw[hg]at e
  injection e with e
  exact H7 d _ (cY hd) (by rw[←hr.nl,←e];exact hl)
 ·omega
theorem HT.cU {l r:Nat} {lp:dq} (h:HT P B0 G l lp r w) (hle:∀k nl,k+1≤G.ag.length→nl≤l→bD k nl G G') (hlen:G.ag.length≤G'.ag.length)
  (ho:G'.own r=some (.loop l)) (hh:w'.heap[r]? =w.heap[r]?):HT P B0 G' l lp r w':=by
 obtain⟨h1,_,rc,h3,h4⟩:=h
 exact⟨h1,ho,rc,hh.trans h3,h4.cU hle hlen⟩
def jN (X:rR→Prop) (G:aG) (w:World) (G':aG) (w':World):Prop:=
 ∀b o,G.own b=some o→¬X o→G'.own b=some o∧w'.heap[b]? =w.heap[b]? ∧∀i,G.I b i=none→G'.I b i=none
theorem wg.cU {X:rR→Prop} {d:Nat} {r:Rec} {gr:cN} (h:wg B0 G d r gr w) (hle:bD d gr.nl G G') (hk:jN X G w G' w')
  (hX:∀o,X o→(∀b,o≠.box d b)∧(∀g,o≠.tok d g)∧∀i,o≠.mark d i):wg B0 G' d r gr w':=by
 refine⟨h.eu,h.iZ,fun b cs blk h1 h2=>?_,h.full,fun g n T h1 h2=>?_,fun i b h1=>?_,fun b n h1=>?_⟩
 ·exact(h.box b cs blk h1 h2).kept hle hk (fun x hx=>(hX _ hx).1 x rfl)
 ·have ht:=h.tok g n T h1 h2
  have hs:∀(hn:n.isSome=true),G'.own T.blk=some (.tok d g)∧w'.heap[T.blk]? =w.heap[T.blk]? ∧∀i,G.I T.blk i=none→G'.I T.blk i=none:=fun hn=>by
   obtain⟨m,hm⟩:=oj.1 hn
   exact hk _ _ (ht.2 m hm).2.1 (fun hx=>(hX _ hx).2.1 g rfl)
  exact ht.cU (fun hn=>(hs hn).1) (fun hn=>(hs hn).2.1) (fun hn=>(hs hn).2.2)
 ·have hm:=h.mark i b h1
  obtain⟨k1,k2,_⟩:=hk _ _ hm.2.1 (fun hx=>(hX _ hx).2.2 i rfl)
  exact hm.cU k1 k2
 ·exact h.mR b n h1
theorem cE.cU {s:ae} (h:cE P B0 w0 G s w) (hI:∀b i v,G.I b i=some v→G'.I b i=some v) (ha:G'.ag=G.ag) (hl:G'.loops=G.loops)
  (hk:jN (fun _=>False) G w G' w') (Ge:∀b i v,G'.I b i=some v→w'.cell? ⟨b,i,none⟩=some v) (hb:Below B0 w w')
  (Gr:∀b o,G'.own b=some o→b<w'.heap.size):cE P B0 w0 G' s w':=by
 have hle:∀k nl,bD k nl G G':=fun k nl=>⟨hI,fun d gr _ e=>⟨gr,by rw[ha];exact e,.refl gr,fun _=>rfl⟩,fun l r _ e=>by rw[hl];exact e⟩
 refine⟨Ge,by rw[ha];exact h.len,by rw[hl];exact h.jX,fun d r gr h1 h2=>?_,fun l lp r h1 h2=>?_,fun d gr h1=>h.pH d gr (by rw[←ha];exact h1),by rw[ha];exact h.rE,h.below.trans hb,kt h.low hb.size,Gr⟩
 ·rw[ha]at h2
  exact(h.cT d r gr h1 h2).cU (hle _ _) hk (fun o ho=>ho.elim)
 ·rw[hl]at h2
  have hr:=h.loop l lp r h1 h2
  obtain⟨k1,k2,_⟩:=hk _ _ hr.2.1 (fun hx=>hx)
  exact hr.cU (fun k nl _ _=>hle k nl) (by rw[ha];exact aH _) k1 k2
theorem cE.drew {s:ae} (h:cE P B0 w0 G s w):cE P B0 w0 G s w.drew:=
 h.cU (fun _ _ _ e=>e) rfl rfl (fun _ _ e _=>⟨e,rfl,fun _ h=>h⟩) (fun b i v e=>h.ft b i v e) ((Below.refl _ _).drew) h.eU
theorem cE.s6 {s:ae} (h:cE P B0 w0 G s w) {b i:Nat} {v:Value} (e:G.I b i=some v):b<w.heap.size:=
 World.block_lt_of_cell? _ _ (h.ft b i v e)
theorem cE.uC {s:ae} (h:cE P B0 w0 G s w) (i:Nat):G.I w.heap.size i=none:=by
 cases e:G.I w.heap.size i with
 |none=>rfl
 |some v=>have:=h.s6 e;omega
def aG.wq (G:aG) (b:Nat) (arr:Array Value):aG:={G with I:=fun c i=>if c=b then arr[i]? else G.I c i}
theorem aG.C3 (G:aG) (b:Nat) (arr:Array Value) (hn:∀i,G.I b i=none) (k nl:Nat):bD k nl G (G.wq b arr):=
 ⟨fun c i v e=>by
  simp only[aG.wq]
  split
  ·rename_i hc;subst hc;rw[hn]at e;cases e
  ·exact e,fun d gr _ e=>⟨gr,e,.refl gr,fun _=>rfl⟩,fun _ _ _ e=>e⟩
theorem cE.MF {s:ae} (h:cE P B0 w0 G s w) (arr:Array Value) (ty:TypeId) (fz:Nat×Nat):cE P B0 w0 (G.wq w.heap.size arr) s (w.alloc (.cells arr ty fz)):=by
 have hle:=G.C3 w.heap.size arr h.uC 0 0
 refine h.cU hle.I rfl rfl (fun b o e _=>⟨e,Below.heap_alloc _ _ _ (h.eU _ _ e),fun i hi=>?_⟩) (fun b i v e=>?_) ((Below.refl _ _).alloc h.low _) (fun b o e=>?_)
 ·simp only[aG.wq]
  rw[aq (by have:=h.eU _ _ e;omega)]
  exact hi
 ·simp only[aG.wq]at e
  split at e
  ·rename_i hb
   subst hb
   have hn:(w.alloc (.cells arr ty fz)).heap[w.heap.size]? =some (.cells arr ty fz):=World.alloc_heap_new w _
   simp only[World.cell?,hn]
   exact e
  ·have:=h.ft b i v e
   rw[World.cell?_alloc_old _ _ _ (by rename_i hb;exact hb)]
   exact this
 ·have:=h.eU b o e
  simp;omega
end
end Go.Ax
/-
  Operations that only compute: what the abstract executor gives is what the model's run gives.
-/
namespace Go.Ax
open Go.RowKit
section
variable{P:Program} {B0:Nat} {w0:World} {G:aG} {k nl:Nat} {w:World}
theorem Rel.gB {x y:Value} (h:Rel G k nl (.v x) y):y=x:=by
 cases h with
 |cl h=>cases h;rfl
 |undef=>rfl
abbrev fV (I:gn) (es:Nat) (xs:List (List AV)) (a:Addr) (cap:Nat):Prop:=bL I (.slice .any es xs) (.slice (some a) xs.length cap)
theorem Rel.iT {o:Own} {es:Nat} {xs:List (List AV)} {y:Value} (h:Rel G k nl (.slice o es xs) y):
  (o=.aA∧xs=[]∧y=.slice none 0 0)∨(o≠.aA∧∃a cap,y=.slice (some a) xs.length cap∧(0<cap→a.spot=none)∧xs.length≤cap∧fV G.I es xs a cap∧(o=.full→cap=xs.length)):=by
 cases h with
 | cl h =>
  cases h with
  |aA=>exact .inl ⟨rfl,rfl,rfl⟩
  |slice f ho hc dY bz hI hR=>
   refine .inr ⟨by rcases ho with rfl|⟨rfl,_⟩<;>simp,_,_,rfl,fun _=>rfl,hc,.slice f (.inl rfl) hc dY bz hI hR,?_⟩
   rintro rfl
   rcases ho with h|⟨_,h⟩
   ·cases h
   ·exact h
  |empty ho=>
   exact .inr ⟨by rcases ho with rfl|rfl<;>simp,_,_,rfl,fun h=>absurd h (Aw _),aH _,.empty (.inl rfl),fun _=>rfl⟩
 | tok T gr hd hg ht dY hc hn =>
  refine .inr ⟨by simp,_,_,rfl,?_,?_,hc,by simp⟩
  ·cases hc with
   |slice=>exact fun _=>rfl
   |empty=>exact fun h=>absurd h (Aw _)
  ·cases hc with
   |slice f ho hc=>exact hc
   |empty=>exact aH _
theorem Rel.sK {d b off:Nat} {y:Value} (h:Rel G k nl (.ptr d b off) y):
  ∃blk gr,y=.pointer (some ⟨blk,off,none⟩)∧d≤k∧G.ag[d]? =some gr∧gr.bl[b]? =some (some blk):=by
 cases h with
 |cl h=>cases h
 |ptr gr hd hg hb=>exact⟨_,gr,rfl,hd,hg,hb⟩
theorem Rel.mz {d b off es n cap:Nat} {y:Value} (h:Rel G k nl (.aO d b off es n cap) y):
  ∃blk gr rc o0,y=.slice (some ⟨blk,o0,none⟩) n rc∧d≤k∧G.ag[d]? =some gr∧gr.bl[b]? =some (some blk)∧n≤rc∧cap≤rc∧(cap=0→0<n→gr.gs b=some (rc*es))∧(0<n∨0<cap→o0=off):=by
 cases h with
 |cl h=>cases h
 |aO gr hd hg hb hn hc hw ho=>exact⟨_,gr,_,_,rfl,hd,hg,hb,hn,hc,hw,ho⟩
theorem Rel.zJ {cs:List AV} {off:Nat} {y:Value} (h:Rel G k nl (.bg cs off) y):
  ∃(blk o0:Nat) (f:Nat→Value),y=.pointer (some ⟨blk,o0+off,none⟩)∧(∀c,c∈cs→c.bA=true)∧(∀i,i<cs.length→G.I blk (o0+i)=some (f i))∧∀i (hi:i<cs.length),bL G.I cs[i] (f i):=by
 cases h with
 |cl h=>cases h with|bg f bz hI hR=>exact⟨_,_,f,rfl,bz,hI,hR⟩
theorem Rel.xM {cs:List AV} {y:Value} (h:Rel G k nl (.agg cs) y):
  ∃arr:Array Value,y=.agg arr∧arr.size=cs.length∧(∀c,c∈cs→c.bA=true)∧∀i (hi:i<cs.length),Rel G k nl cs[i] (arr.getD i Go.undef):=by
 cases h with
 |cl h=>cases h with|agg hl bz hR=>exact⟨_,rfl,hl,bz,fun i hi=>.cl (hR i hi)⟩
 |agg hl bz hR=>exact⟨_,rfl,hl,bz,hR⟩
theorem Rel.alm {vs:List AV} {y:Value} (h:Rel G k nl (.tuple vs) y):
  ∃arr:Array Value,y=.tuple arr∧arr.size=vs.length∧∀i (hi:i<vs.length),Rel G k nl vs[i] (arr.getD i Go.undef):=by
 cases h with
 |cl h=>cases h
 |tuple hl hR=>exact⟨_,rfl,hl,hR⟩
theorem Rel.Cb {f:FuncId} {first caps:List AV} {y:Value} (h:Rel G k nl (.fn f first caps) y):
  ∃a1 a2:Array Value,y=.func (.func f) a1 a2∧a1.size=first.length∧a2.size=caps.length∧(∀i (hi:i<first.length),bL G.I first[i] (a1.getD i Go.undef))∧
   ∀i (hi:i<caps.length),Rel G k nl caps[i] (a2.getD i Go.undef):=by
 cases h with
 |cl h=>cases h with|fn l1 l2 r1 r2=>exact⟨_,_,rfl,l1,l2,r1,fun i hi=>.cl (r2 i hi)⟩
 |fn l1 l2 r1 r2=>exact⟨_,_,rfl,l1,l2,r1,r2⟩
theorem Rel.QU {l : Nat} {y : Value} (h : Rel G k nl (.yield l) y) : ∃ r, y = .func (.yield r) #[] #[] ∧ l < nl ∧ G.loops[l]? = some r := by
 cases h with
 |cl h=>cases h
 |yield hl h=>exact⟨_,rfl,hl,h⟩
theorem Rel.QT {t:TypeId} {x:AV} {y:Value} (h:Rel G k nl (.iface t x) y):∃z,y=.iface t z∧bL G.I x z:=by
 cases h with
 |cl h=>cases h with|iface h=>exact⟨_,rfl,h⟩
theorem bL.one {I : gn} {x : AV} {y : Value} (h : bL I x y) (hc : x.bA = true) : y.cells = #[y] := by
 cases h with
 |v h=>cases y<;>first|rfl|simp[plain]at h
 |agg=>cases hc
 |_=>rfl
theorem Rel.one {x : AV} {y : Value} (h : Rel G k nl x y) (hc : x.bA = true) : y.cells = #[y] := by
 cases h with
 |cl h=>exact h.one hc
 |undef=>rfl
 |agg=>cases hc
 |_=>rfl
theorem Rel.yO {x:AV} {y:Value} (h:Rel G k nl x y) (hc:x.iU=true):bL G.I x y:=by
 cases h with
 |cl h=>exact h
 |undef=>cases hc
 |tok=>cases hc
 |ptr=>cases hc
 |aO=>cases hc
 |yield=>cases hc
 |agg=>cases hc
 |tuple=>cases hc
 |fn=>cases hc
theorem Rel.aff {x:AV} {y:Value} (h:Rel G k nl x y) (hc:x.vI=true):bL G.I x y:=by
 cases x with
 |agg cs=>
  obtain⟨arr,rfl,hl,bz,hR⟩:=h.xM
  refine .agg hl bz (fun i hi=>(hR i hi).yO ?_)
  exact j6.1 hc _ (gG hi)
 |_=>exact h.yO hc
theorem Rel.closed {x:AV} {y:Value} (h:Rel G k nl x y) (hc:x.isClosed=true):bL G.I x y:=by
 cases x with
 |iface t x=>
  obtain⟨z,rfl,hz⟩:=h.QT
  exact .iface hz
 |fn f first caps=>
  obtain⟨a1,a2,rfl,l1,l2,r1,r2⟩:=h.Cb
  simp only[AV.isClosed,dB]at hc
  exact .fn l1 l2 r1 (fun i hi=>(r2 i hi).yO (j6.1 hc.2 _ (gG hi)))
 |_=>exact h.yO hc
theorem Rel.close {x z:AV} {y:Value} (h:Rel G k nl x y) (hc:x.close=some z):bL G.I z y:=by
 by_cases hx:∃d g es xs,x=.slice (.tok d g) es xs
 ·obtain⟨d,g,es,xs,rfl⟩:=hx
  simp only[AV.close]at hc
  injection hc with hc
  subst hc
  rcases h.iT with⟨h1,_⟩|⟨_,a,cap,rfl,_,_,h4,_⟩
  ·cases h1
  ·exact h4
 ·have:x.close=if x.isClosed then some x else none:=by
   unfold AV.close
   split
   ·exact absurd ⟨_,_,_,_,rfl⟩ hx
   ·rfl
  rw[this]at hc
  split at hc
  ·injection hc with hc
   subst hc
   exact h.closed (by assumption)
  ·cases hc
theorem Oi {x z:AV} (h:x.close=some z) (hc:x.bA=true):z.bA=true:=by
 unfold AV.close at h
 split at h
 ·injection h with h;subst h;rfl
 ·split at h
  ·injection h with h;subst h;exact hc
  ·cases h
theorem Jz {cs ds:List AV} (h:closeAll cs=some ds):ds.length=cs.length∧∀i (hi:i<cs.length) (hj:i<ds.length),cs[i].close=some ds[i]:=by
 induction cs generalizing ds with
 |nil=>simp only[closeAll]at h;injection h with h;subst h;exact⟨rfl,fun i hi=>absurd hi (df _)⟩
 | cons x r ih =>
  simp only[closeAll]at h
  split at h
  ·rename_i y s hy hs
   injection h with h
   subst h
   obtain⟨h1,h2⟩:=ih hs
   refine⟨by simp[h1],fun i hi hj=>?_⟩
   cases i with
   |zero=>exact hy
   |succ i=>exact h2 i (by simpa using hi) (by simpa using hj)
  ·cases h
theorem Z0 {x:Value} {c:AV} {I:gn} (h:tZ x=some c):bL I c x∧c.bA=true:=by
 unfold tZ at h
 split at h
 all_goals first
  |(injection h with h;subst h;exact⟨.v rfl,rfl⟩)
  |(injection h with h;subst h;exact⟨.aA,rfl⟩)
  |skip
 ·split at h
  ·rename_i hz
   injection h with h
   subst h
   refine⟨.fn (by simpa using hz.1) (by simpa using hz.2) (fun i hi=>absurd hi (df _)) (fun i hi=>absurd hi (df _)),rfl⟩
  ·cases h
 ·cases h
theorem vK {α β:Type} {f:α→Option β} {l:List α} {r:List β} (h:fK f l=some r):r.length=l.length∧∀i (hi:i<l.length) (hj:i<r.length),f l[i]=some r[i]:=by
 induction l generalizing r with
 |nil=>simp only[fK]at h;injection h with h;subst h;exact⟨rfl,fun i hi=>absurd hi (df _)⟩
 | cons x s ih =>
  simp only[fK]at h
  split at h
  ·rename_i y t hy ht
   injection h with h
   subst h
   obtain⟨h1,h2⟩:=ih ht
   refine⟨by simp[h1],fun i hi hj=>?_⟩
   cases i with
   |zero=>exact hy
   |succ i=>exact h2 i (by simpa using hi) (by simpa using hj)
  ·cases h
theorem rY {I:gn} {arr:Array Value} {cs:List AV} (h:fK tZ arr.toList=some cs):
  arr.size=cs.length∧(∀c,c∈cs→c.bA=true)∧∀i (hi:i<cs.length),bL I cs[i] (arr.getD i Go.undef):=by
 obtain⟨h1,h2⟩:=vK h
 have hl:arr.size=cs.length:=by simpa using h1.symm
 have hz:∀i (hi:i<cs.length),bL I cs[i] (arr.getD i Go.undef)∧cs[i].bA=true:=fun i hi=>by
  have:=h2 i (by simpa using hl ▸ hi) hi
  have hr:=Z0 (I:=I) this
  have he:arr.getD i Go.undef=arr.toList[i]'(by simpa using hl ▸ hi):=by simp[Array.getD,hl,hi]
  rw[he]
  exact hr
 refine⟨hl,fun c hc=>?_,fun i hi=>(hz i hi).1⟩
 obtain⟨i,hi,rfl⟩:=oe hc
 exact(hz i hi).2
theorem apT {x:Value} {c:AV} {I:gn} (h:ofValue x=some c):bL I c x:=by
 unfold ofValue at h
 split at h
 ·rename_i cs
  cases hm:fK tZ cs.toList with
  |none=>rw[hm]at h;cases h
  |some l=>
   rw[hm]at h
   injection h with h
   subst h
   obtain⟨h1,h2,h3⟩:=rY (I:=I) hm
   exact .agg h1 h2 h3
 ·exact(Z0 h).1
def eE (G:aG) (k nl:Nat) (ρ:Nat→AV) (a:Act):Prop:=∀t,Rel G k nl (ρ t) (a.tmps.getD t Go.undef)
theorem dp {x:Operand} {ax:aF} {ρ:Nat→AV} {a:Act} (hc:dG x=some ax) (hR:eE G k nl ρ a):Rel G k nl (aE ρ ax) (a.eval x):=by
 cases x with
 |tmp t=>simp only[dG]at hc;injection hc with hc;subst hc;exact hR t
 | const c =>
  simp only[dG]at hc
  cases hv:ofValue c with
  |none=>rw[hv]at hc;cases hc
  |some z=>
   rw[hv]at hc
   injection hc with hc
   subst hc
   exact .cl (apT hv)
 |func f=>
  simp only[dG]at hc
  injection hc with hc
  subst hc
  exact .cl (.fn rfl rfl (fun i hi=>absurd hi (df _)) (fun i hi=>absurd hi (df _)))
 |global g=>cases hc
end
end Go.Ax
/-
  Memory: loads, stores and new boxes.
-/
namespace Go.Ax
open Go.RowKit
section
variable{P:Program} {B0:Nat} {w0:World} {G:aG} {k nl:Nat} {w:World} {s:ae}
def jv (R:AV→Value→Prop) (cs:List AV) (arr:Array Value):Prop:=
 arr.size=cs.length∧∀i (hi:i<cs.length),R cs[i] (arr.getD i Go.undef)
theorem jv.set {R:AV→Value→Prop} {cs:List AV} {arr:Array Value} (h:jv R cs arr) {x:AV} {v:Value} (hx:R x v) (o:Nat):jv R (cs.set o x) (arr.setIfInBounds o v):=by
 refine⟨by simp[h.1],fun i hi=>?_⟩
 have bG:i<cs.length:=by simpa using hi
 rw[Ti]
 by_cases ho:o=i
 ·subst ho
  rw[ak rfl]
  have:(arr.setIfInBounds o v).getD o Go.undef=v:=by simp[Array.getD,h.1,bG]
  rw[this]
  exact hx
 ·rw[aq ho]
  have:(arr.setIfInBounds o v).getD i Go.undef=arr.getD i Go.undef:=by
   simp[Array.getD,h.1,bG,ho]
  rw[this]
  exact h.2 i bG
def jq (arr:Array Value) (o:Nat):List Value→Array Value
 |[]=>arr
 |v::r=>jq (arr.setIfInBounds o v) (o+1) r
theorem xV (arr:Array Value) (o:Nat) (vs:List Value):(jq arr o vs).size=arr.size:=by
 induction vs generalizing arr o with
 |nil=>rfl
 |cons v r ih=>simp[jq,ih]
theorem jv.jq {R:AV→Value→Prop} {xs:List AV} {vs:List Value} (hl:vs.length=xs.length) (hR:∀i (hi:i<xs.length) (hj:i<vs.length),R xs[i] vs[i]):
  ∀{cs:List AV} {arr:Array Value} (o:Nat),jv R cs arr→jv R (setCells cs o xs) (Ax.jq arr o vs):=by
 induction xs generalizing vs with
 |nil=>
  intro cs arr o h
  cases vs with
  |nil=>exact h
  |cons v r=>simp at hl
 | cons x xs ih =>
  intro cs arr o h
  cases vs with
  |nil=>simp at hl
  |cons v r=>
   simp only[setCells,Ax.jq]
   exact ih (by simpa using hl) (fun i hi hj=>hR (i+1) (by simpa using hi) (by simpa using hj)) (o+1) (h.set (hR 0 (by simp) (by simp)) o)
theorem jv.mono {R R':AV→Value→Prop} {cs:List AV} {arr:Array Value} (h:jv R cs arr) (hR:∀x v,R x v→R' x v):jv R' cs arr:=⟨h.1,fun i hi=>hR _ _ (h.2 i hi)⟩
def kQ (R:AV→Value→Prop) (cs:List AV) (arr:Array Value):Prop:=
 cs.length≤arr.size∧∀i (hi:i<cs.length),R cs[i] (arr.getD i Go.undef)
theorem kQ.set {R:AV→Value→Prop} {cs:List AV} {arr:Array Value} (h:kQ R cs arr) {x:AV} {v:Value} (hx:R x v) (o:Nat):kQ R (cs.set o x) (arr.setIfInBounds o v):=by
 refine⟨by simpa using h.1,fun i hi=>?_⟩
 have bG:i<cs.length:=by simpa using hi
 have ha:i<arr.size:=l6 bG h.1
 rw[Ti]
 by_cases ho:o=i
 ·subst ho
  rw[ak rfl]
  have:(arr.setIfInBounds o v).getD o Go.undef=v:=by simp[Array.getD,ha]
  rw[this]
  exact hx
 ·rw[aq ho]
  have:(arr.setIfInBounds o v).getD i Go.undef=arr.getD i Go.undef:=by
   simp[Array.getD,ha,ho]
  rw[this]
  exact h.2 i bG
theorem kQ.jq {R:AV→Value→Prop} {xs:List AV} {vs:List Value} (hl:vs.length=xs.length) (hR:∀i (hi:i<xs.length) (hj:i<vs.length),R xs[i] vs[i]):
  ∀{cs:List AV} {arr:Array Value} (o:Nat),kQ R cs arr→kQ R (setCells cs o xs) (Ax.jq arr o vs):=by
 induction xs generalizing vs with
 |nil=>
  intro cs arr o h
  cases vs with
  |nil=>exact h
  |cons v r=>simp at hl
 | cons x xs ih =>
  intro cs arr o h
  cases vs with
  |nil=>simp at hl
  |cons v r=>
   simp only[setCells,Ax.jq]
   exact ih (by simpa using hl) (fun i hi hj=>hR (i+1) (by simpa using hi) (by simpa using hj)) (o+1) (h.set (hR 0 (by simp) (by simp)) o)
theorem kQ.mono {R R':AV→Value→Prop} {cs:List AV} {arr:Array Value} (h:kQ R cs arr) (hR:∀x v,R x v→R' x v):kQ R' cs arr:=⟨h.1,fun i hi=>hR _ _ (h.2 i hi)⟩
theorem jv.le {R:AV→Value→Prop} {cs:List AV} {arr:Array Value} (h:jv R cs arr):kQ R cs arr:=⟨Tr h.1.symm,h.2⟩
theorem atd (cs:List AV) (o:Nat) (xs:List AV):(setCells cs o xs).length=cs.length:=by
 induction xs generalizing cs o with
 |nil=>rfl
 |cons x r ih=>simp[setCells,ih]
theorem abl {cs:List AV} {o:Nat} {xs:List AV} {c:AV} (h:c∈setCells cs o xs):c∈cs∨c∈xs:=by
 induction xs generalizing cs o with
 |nil=>exact .inl h
 | cons x r ih =>
  rcases ih h with h|h
  ·rcases Tl h with h|rfl
   ·exact .inl h
   ·exact .inr (by simp)
  ·exact .inr (by simp[h])
theorem F7 {b:Nat} {ty:TypeId}:∀(vs:List Value) (o:Nat) (arr:Array Value) (w:World),w.heap[b]? =some (.cells arr ty)→(w.setCells b o vs).heap[b]? =some (.cells (jq arr o vs) ty)
 |[],_,_,_,h=>h
 |v::r,o,arr,w,h=>by
  simp only[World.setCells,jq]
  refine F7 r (o+1) _ _ ?_
  simp[World.setCell,Array.getElem?_modify,h]
theorem F8 {b c:Nat} (hc:c≠b):∀(vs:List Value) (o:Nat) (w:World),(w.setCells b o vs).heap[c]? =w.heap[c]?
 |[],_,_=>rfl
 |v::r,o,w=>by
  simp only[World.setCells]
  rw[F8 hc r (o+1)]
  exact Below.heap_setCell _ _ _ _ hc
theorem Hp (b:Nat):∀(vs:List Value) (o:Nat) (w:World),(w.setCells b o vs).heap.size=w.heap.size
 |[],_,_=>rfl
 |v::r,o,w=>by
  simp only[World.setCells]
  rw[Hp b r (o+1)]
  simp[World.setCell]
theorem DU {B b:Nat} (hb:B≤b):∀(vs:List Value) (o:Nat) (w:World),Below B w (w.setCells b o vs)
 |[],_,w=>Below.refl _ _
 |v::r,o,w=>by
  simp only[World.setCells]
  exact((Below.refl B w).setCell (p:=⟨b,o,none⟩) hb v).trans (DU hb r (o+1) _)
theorem cell_of_heap {b i:Nat} {arr:Array Value} {ty:TypeId} {fz:Nat×Nat} (h:w.heap[b]? =some (.cells arr ty fz)):w.cell? ⟨b,i,none⟩=arr[i]? :=by
 simp[World.cell?,h]
theorem frozen_of_heap {b i:Nat} {arr:Array Value} {ty:TypeId} (h:w.heap[b]? =some (.cells arr ty)):w.frozen? ⟨b,i,none⟩=false:=by
 simp[World.frozen?,h]
theorem Fq {b c i:Nat} {w':World} (h:w'.heap[b]? =w.heap[b]?) (hc:c=b):w'.cell? ⟨c,i,none⟩=w.cell? ⟨c,i,none⟩:=by
 subst hc
 simp[World.cell?,h]
structure At (P:Program) (B0:Nat) (w0:World) (G:aG) (k nl:Nat) (s:ae) (w:World):Prop where
 rel:cE P B0 w0 G s w
 len:s.ag.length=k+1
 cur:∃gr,G.ag[k]? =some gr∧gr.nl=nl
theorem At.gU (h:At P B0 w0 G k nl s w):s.cur=k:=by simp[ae.cur,h.len]
theorem At.sP (h:At P B0 w0 G k nl s w):nl≤s.loops.length:=by
 obtain⟨gr,h1,rfl⟩:=h.cur
 exact h.rel.pH _ _ h1
theorem At.box (h:At P B0 w0 G k nl s w) {d b:Nat} {cs:List AV} {gr:cN} {blk:Nat} (hd:d≤k) (hc:s.box d b=some cs) (hg:G.ag[d]? =some gr) (hb:gr.bl[b]? =some (some blk)):
  ∃r,s.ag[d]? =some r∧r.boxes[b]? =some cs∧pN B0 G d gr.nl b (gr.gs b) cs blk w∧
   ∃arr ty,w.heap[blk]? =some (.cells arr ty)∧kQ (Rel G k nl) cs arr∧∀c,c∈cs→c.bA=true:=by
 simp only[ae.box]at hc
 cases hr:s.ag[d]? with
 |none=>rw[hr]at hc;cases hc
 |some r=>
  rw[hr]at hc
  have dw:=(h.rel.cT d r gr hr hg).box b cs blk hc hb
  refine⟨r,rfl,hc,dw,?_⟩
  obtain⟨_,_,_,arr,ty,h4,h5,_,h6⟩:=dw
  obtain⟨gk,PN,rfl⟩:=h.cur
  refine⟨arr,ty,h4,⟨h5,fun i hi=>(h6 i hi).2.mono (bD.refl _ _ _) hd (h.rel.rE d k gr gk hd hg PN)⟩,fun c pg=>?_⟩
  obtain⟨i,hi,rfl⟩:=oe pg
  exact(h6 i hi).1
theorem ig (b o i:Nat):(⟨b,o,none⟩:Addr).add i=⟨b,o+i,none⟩:=by
 unfold Addr.add
 split
 ·rename_i h;subst h;rfl
 ·rfl
theorem At.row (h:At P B0 w0 G k nl s w) {x:AV} {y:Value} {cs:List AV} {off:Nat} (hx:Rel G k nl x y) (hr:s.row x=some (cs,off)):
  ∃(blk o0:Nat) (f:Nat→Value),y=.pointer (some ⟨blk,o0+off,none⟩)∧(∀c,c∈cs→c.bA=true)∧
   (∀i,i<cs.length→w.cell? ⟨blk,o0+i,none⟩=some (f i))∧∀i (hi:i<cs.length),Rel G k nl cs[i] (f i):=by
 cases x with
 | ptr d b Rw =>
  simp only[ae.row]at hr
  cases hc:s.box d b with
  |none=>rw[hc]at hr;cases hr
  |some cs'=>
   rw[hc]at hr
   simp only[dE,fe,CW]at hr
   obtain⟨rfl,rfl⟩:=hr
   obtain⟨blk,gr,rfl,hd,hg,hb⟩:=hx.sK
   obtain⟨r,_,_,_,arr,ty,h4,h5,h6⟩:=h.box hd hc hg hb
   refine⟨blk,0,fun i=>arr.getD i Go.undef,by simp,h6,fun i hi=>?_,fun i hi=>h5.2 i hi⟩
   rw[cell_of_heap h4]
   have:=l6 hi h5.1
   simp[this,Array.getD]
 |bg cs' Rw=>
  simp only[ae.row]at hr
  simp only[fe,CW]at hr
  obtain⟨rfl,rfl⟩:=hr
  obtain⟨blk,o0,f,rfl,h1,h2,h3⟩:=hx.zJ
  exact⟨blk,o0,f,rfl,h1,fun i hi=>h.rel.ft _ _ _ (h2 i hi),fun i hi=>.cl (h3 i hi)⟩
 |_=>cases hr
theorem RM {cs:List AV} {off n:Nat} {agg:Bool} {v:AV} {f:Nat→Value} (hp:part agg n cs off=some v) (bz:∀c,c∈cs→c.bA=true)
  (hR:∀i (hi:i<cs.length),Rel G k nl cs[i] (f i)):
  (agg=true∧off+n≤cs.length∧Rel G k nl v (.agg ((List.range n).map fun j=>f (off+j)).toArray))∨(agg=false∧off<cs.length∧Rel G k nl v (f off)):=by
 unfold part at hp
 split at hp
 ·split at hp
  ·rename_i BL hle
   injection hp with hp
   subst hp
   refine .inl ⟨BL,hle,.agg (by simp;omega) (fun c hc=>bz c (HO (td hc))) (fun i hi=>?_)⟩
   have bG:i<n:=by simp at hi;omega
   have:((List.range n).map fun j=>f (off+j)).toArray.getD i Go.undef=f (off+i):=by simp[Array.getD,bG]
   rw[this]
   have he:((cs.drop off).take n)[i]=cs[off+i]'(by omega):=by simp
   rw[he]
   exact hR _ _
  ·cases hp
 ·rename_i BL
  obtain⟨h1,h2⟩:=bd.1 hp
  exact .inr ⟨by simpa using BL,h1,h2 ▸ hR off h1⟩
theorem zK {t:TypeId} {g:Bool} (h:tX P t=some g) (w:World):(isAgg t).run P w=.ok g w:=by
 unfold tX at h
 cases hu:P.underlying t with
 |none=>rw[hu]at h;cases h
 |some d=>
  rw[hu]at h
  simp only[dE,fe]at h
  subst h
  unfold isAgg
  simp only[Sem.run_bind,run_underlying hu,Result.andThen_ok]
  cases d<;>simp[pure]
theorem jL {t:TypeId} {n:Nat} (h:cV P t=some n) (w:World):(sizeOf t).run P w=.ok n w:=by
 unfold cV at h
 cases hi:P.info? t with
 |none=>rw[hi]at h;cases h
 |some i=>
  rw[hi]at h
  simp only[dE,fe]at h
  subst h
  simp[sizeOf,typeInfo,hi]
theorem K1 (h:At P B0 w0 G k nl s w) {x v:AV} {y:Value} {agg:Bool} {n:Nat} {t:TypeId} (hx:Rel G k nl x y) (hl:s.load agg n x=some v) (ha:tX P t=some agg) (hn:cV P t=some n):
  ∃v',(Instr.loadAt t y).run P w=.ok v' w∧Rel G k nl v v':=by
 unfold ae.load at hl
 cases hr:s.row x with
 |none=>rw[hr]at hl;cases hl
 | some p =>
  obtain⟨cs,off⟩:=p
  rw[hr]at hl
  simp only[et]at hl
  obtain⟨blk,o0,f,rfl,bz,hc,hR⟩:=h.row hx hr
  have XF:∀j,off+j<cs.length→w.cell? ((⟨blk,o0+off,none⟩:Addr).add j)=some (f (off+j)):=fun j hj=>by
   rw[ig,wc];exact hc _ hj
  rcases RM hl bz hR with⟨rfl,hle,hv⟩|⟨rfl,aC,hv⟩
  ·refine⟨_,?_,hv⟩
   have PV:=run_loadCells (P:=P) w (⟨blk,o0+off,none⟩:Addr) n (fun j=>f (off+j)) (fun j hj=>XF j (by omega))
   simp only[Instr.loadAt,Instr.sureAddr,loadVar,Sem.run_bind,Sem.run_pure,Result.andThen_ok,zK ha,jL hn,bP,PV]
  ·refine⟨_,?_,hv⟩
   have:=XF 0 (by omega)
   rw[ig]at this
   simp only[Av]at this
   simp only[Instr.loadAt,Instr.sureAddr,loadVar,Sem.run_bind,Sem.run_pure,Result.andThen_ok,zK ha,ez,db]
   simp[run_load,this]
theorem dT {α:Type} (l:List α) (i j:Nat) (f:α→α):(l.modify i f)[j]? =if i=j then(l[j]?).map f else l[j]? :=by
 rw[wa]
 split<;>simp_all
theorem cE.dL (h:cE P B0 w0 G s w) {d b:Nat} {cs cs':List AV} {r:Rec} {gr:cN} {blk:Nat} {arr:Array Value} {ty:TypeId} {w':World}
  (hr:s.ag[d]? =some r) (hg:G.ag[d]? =some gr) (hb:r.boxes[b]? =some cs) (cG:gr.bl[b]? =some (some blk))
  (xw:cs≠[]) (aD:cs'≠[]) (bz:∀c,c∈cs'→c.bA=true) (hR:kQ (Rel G d gr.nl) cs' arr) (Gb:∀n,gr.gs b=some n→arr.size=n) (hw:w'.heap[blk]? =some (.cells arr ty)) (Gs:∀c,c≠blk→w'.heap[c]? =w.heap[c]?)
  (zd:Below B0 w w') (bV:w'.heap.size=w.heap.size):cE P B0 w0 G (s.dL d b cs') w':=by
 have dw:=(h.cT d r gr hr hg).box b cs blk hb cG
 have hk:jN (· =.box d b) G w G w':=fun c o ho aD=>by
  refine⟨ho,Gs c (fun e=>?_),fun _ e=>e⟩
  subst e
  obtain⟨x,rn,sF⟩:=dw.2.1
  rw[rn,sF xw]at ho
  injection ho with ho
  exact aD ho.symm
 refine⟨fun c i v e=>?_,by simp only[ae.dL,ae.bu,Me];exact h.len,h.jX,fun d' r' bI h1 h2=>?_,fun l lp r' h1 h2=>?_,h.pH,h.rE,h.below.trans zd,by rw[bV];exact h.low,fun c o ho=>by rw[bV];exact h.eU c o ho⟩
 ·have aD:c≠blk:=by
   rintro rfl
   rw[dw.2.2.1 xw]at e
   cases e
  rw[Fq (Gs c aD) rfl]
  exact h.ft c i v e
 ·simp only [ae.dL, ae.bu, dT] at h1
  by_cases hd:d=d'
  ·subst hd
   rw[ak rfl,hr]at h1
   simp only[dE,fe]at h1
   rw[hg]at h2
   injection h2 with h2
   subst h1 h2
   have aI:=h.cT d r gr hr hg
   refine⟨by simpa using aI.eu,aI.iZ,fun b' V8 fW e1 e2=>?_,fun b' fW e1 e2=>?_,fun g n T e1 e2=>?_,fun i b' e1=>?_,aI.mR⟩
   ·simp only[s9]at e1
    by_cases xi:b=b'
    ·subst xi
     rw[cG]at e2
     injection e2 with e2
     injection e2 with e2
     subst e2
     rw[ak rfl]at e1
     split at e1
     ·injection e1 with e1
      subst e1
      obtain⟨x,rn,sF⟩:=dw.2.1
      refine⟨dw.1,⟨x,rn,fun _=>sF xw⟩,fun _=>dw.2.2.1 xw,arr,ty,hw,hR.1,fun _=>Gb,fun i hi=>⟨bz _ (gG hi),hR.2 i hi⟩⟩
     ·cases e1
    ·rw[aq xi]at e1
     have fk:=aI.box b' V8 fW e1 e2
     obtain⟨x,rn,sF⟩:=fk.2.1
     by_cases sG:x=b
     · -- a dead box, whose block is this one's
      subst sG
      have zp:V8=[]:=by
       apply n6
       intro hn
       exact xi (sF hn)
      subst zp
      have qg:fW=blk∨fW≠blk:=by omega
      obtain⟨q1,q2,q3,Ih,LN,q4,q5,q6,q7⟩:=fk
      rcases qg with rfl|qg
      ·exact⟨q1,q2,q3,arr,ty,hw,bp _,fun hn=>absurd rfl hn,fun i hi=>absurd hi (df _)⟩
      ·exact⟨q1,q2,q3,Ih,LN,(Gs _ qg).trans q4,q5,q6,q7⟩
     ·obtain⟨k1,k2,k3⟩:=hk _ _ rn (fun e=>by injection e with _ e;exact sG e)
      exact fk.cU (bD.refl _ _ _) (fun y e=>e) k2 k3
   ·simp only[s9]at e2
    by_cases xi:b=b'
    ·subst xi
     rw[ak rfl]at e2
     split at e2
     ·injection e2 with e2
      exact absurd e2 aD
     ·cases e2
    ·rw[aq xi]at e2
     exact aI.full b' fW e1 e2
   ·have ht:=aI.tok g n T e1 e2
    have hs:∀(hn:n.isSome=true),G.own T.blk=some (.tok d g)∧w'.heap[T.blk]? =w.heap[T.blk]? ∧∀i,G.I T.blk i=none→G.I T.blk i=none:=fun hn=>by
     obtain⟨m,hm⟩:=oj.1 hn
     exact hk _ _ (ht.2 m hm).2.1 (fun e=>by cases e)
    exact ht.cU (fun hn=>(hs hn).1) (fun hn=>(hs hn).2.1) (fun hn=>(hs hn).2.2)
   ·have hm:=aI.mark i b' e1
    obtain⟨k1,k2,_⟩:=hk _ _ hm.2.1 (fun e=>by cases e)
    exact hm.cU k1 k2
  ·rw[aq hd]at h1
   exact(h.cT d' r' bI h1 h2).cU (bD.refl _ _ _) hk (fun o ho=>by
    subst ho
    refine⟨fun b' e=>?_,fun g e=>?_,fun i e=>?_⟩
    ·injection e with e
     exact hd e
    ·cases e
    ·cases e)
 ·have nP:=h.loop l lp r' h1 h2
  obtain⟨k1,k2,_⟩:=hk _ _ nP.2.1 (fun e=>by cases e)
  exact nP.cU (fun _ _ _ _=>bD.refl _ _ _) (aH _) k1 k2
theorem Rel.cells {y:AV} {v:Value} (h:Rel G k nl y v) (hc:y.cells.all AV.bA=true):jv (Rel G k nl) y.cells v.cells:=by
 by_cases hy:∃cs,y=.agg cs
 ·obtain⟨cs,rfl⟩:=hy
  obtain⟨arr,rfl,h1,_,h3⟩:=h.xM
  exact⟨h1,h3⟩
 ·have he:y.cells=[y]:=by
   unfold AV.cells
   split
   ·exact absurd ⟨_,rfl⟩ hy
   ·rfl
  rw[he]at hc⊢
  have Qe:y.bA=true:=by simpa using hc
  rw[h.one Qe]
  refine⟨rfl,fun i hi=>?_⟩
  have:i=0:=by simp at hi;omega
  subst this
  exact h
theorem Ld {x:AV} {v:Value} (h:Rel G k nl x v) (hc:x.bA=true):v.oneCell'=true:=by
 have:=h.one hc
 cases v with
 | agg cs =>
  exfalso
  cases h with
  |cl h=>cases h with
   |v h=>simp[plain]at h
   |agg=>cases hc
  |agg=>cases hc
 | tuple vs =>
  exfalso
  cases h with
  |cl h=>cases h with
   |v h=>simp[plain]at h
  |undef=>cases hc
  |tuple=>cases hc
 |_=>rfl
theorem atH {b:Nat} {arr:Array Value} {ty:TypeId} {off n:Nat} {t:TypeId} {v:Value} (hw:w.heap[b]? =some (.cells arr ty)) (hn:cV P t=some n) (hs:v.cells.size=n) (hle:off+n≤arr.size)
  (h1:∀u,u∈v.cells.toList→u.oneCell'=true):(Instr.storeAt t (.pointer (some ⟨b,off,none⟩)) v).run P w=.ok () (w.setCells b off v.cells.toList):=by
 have cp:=run_storeCells_cells (P:=P) b off v.cells.toList 0 w (fun j hj=>by
   have dO:j<n:=by simpa[hs]using hj
   rw[cell_of_heap hw]
   simp;omega) (fun j _=>frozen_of_heap hw) h1
 simp only[Instr.storeAt,Instr.sureAddr,storeVar,Sem.run_bind,Sem.run_pure,Result.andThen_ok,jL hn]
 rw[aq (by simp[hs])]
 simpa using cp
end
end Go.Ax
/-
  Memory: an activation's record is changed; new boxes; rights to append are made, moved and dropped.
-/
namespace Go.Ax
open Go.RowKit
section
variable{P:Program} {B0:Nat} {w0:World} {G G':aG} {k nl:Nat} {w w':World} {s:ae}
theorem cE.bu (h:cE P B0 w0 G s w) {d0:Nat} {r0:Rec} {iN:cN} (hr:s.ag[d0]? =some r0) (hg:G.ag[d0]? =some iN) (f:Rec→Rec) (gf:cN→cN) (X:rR→Prop)
  (hG:G'.ag=G.ag.modify d0 gf) (hL:G'.loops=G.loops) (hI:∀b i v,G.I b i=some v→G'.I b i=some v) (fp:jc iN (gf iN)) (hm0:(gf iN).marks=iN.marks)
  (hk:jN X G w G' w') (hX:∀o,X o→(∃b,o=.box d0 b)∨∃g,o=.tok d0 g) (akn:wg B0 G' d0 (f r0) (gf iN) w')
  (Ge:∀b i v,G'.I b i=some v→w'.cell? ⟨b,i,none⟩=some v) (hb:Below B0 w w') (Gr:∀b o,G'.own b=some o→b<w'.heap.size):
  cE P B0 w0 G' (s.bu d0 f) w'∧∀k nl,bD k nl G G':=by
 have hle:∀k nl,bD k nl G G':=fun k nl=>⟨hI,fun d gr _ e=>by
  rw[hG,dT]
  by_cases hd:d0=d
  ·subst hd
   rw[hg]at e
   injection e with e
   subst e
   exact⟨_,by rw[ak rfl,hg];rfl,fp,fun _=>hm0⟩
  ·exact⟨gr,by rw[aq hd];exact e,.refl gr,fun _=>rfl⟩,fun l r _ e=>by rw[hL];exact e⟩
 have Pp:∀(d:Nat) (bI:cN),G'.ag[d]? =some bI→∃gr:cN,G.ag[d]? =some gr∧bI.nl=gr.nl:=fun d bI e=>by
  rw[hG,dT]at e
  by_cases hd:d0=d
  ·subst hd
   rw[ak rfl,hg]at e
   simp only[dE,fe]at e
   subst e
   exact⟨iN,hg,fp.nl⟩
  ·rw[aq hd]at e
   exact⟨bI,e,rfl⟩
 refine⟨⟨Ge,by simp only[hG,ae.bu,Me];exact h.len,by rw[hL];exact h.jX,fun d r gr h1 h2=>?_,fun l lp r h1 h2=>?_,fun d gr e=>?_,fun d d' gr bI hd e e'=>?_,h.below.trans hb,kt h.low hb.size,Gr⟩,hle⟩
 ·simp only[ae.bu,dT]at h1
  rw[hG,dT]at h2
  by_cases hd:d0=d
  ·subst hd
   rw[ak rfl,hr]at h1
   rw[ak rfl,hg]at h2
   simp only[dE,fe]at h1 h2
   subst h1 h2
   exact akn
  ·rw[aq hd]at h1 h2
   refine(h.cT d r gr h1 h2).cU (hle _ _) hk (fun o ho=>?_)
   rcases hX o ho with⟨b,rfl⟩|⟨g,rfl⟩
   ·refine⟨fun b' e=>?_,fun g e=>?_,fun i e=>?_⟩
    ·injection e with e;exact hd e
    ·cases e
    ·cases e
   ·refine⟨fun b' e=>?_,fun g e=>?_,fun i e=>?_⟩
    ·cases e
    ·injection e with e;exact hd e
    ·cases e
 ·rw[hL]at h2
  have nP:=h.loop l lp r h1 h2
  obtain⟨k1,k2,_⟩:=hk _ _ nP.2.1 (fun hx=>by rcases hX _ hx with⟨b,e⟩|⟨g,e⟩<;>cases e)
  exact nP.cU (fun k nl _ _=>hle k nl) (by rw[hG,Me];exact aH _) k1 k2
 ·obtain⟨ah8,e0,e1⟩:=Pp d gr e
  rw[e1]
  exact h.pH d ah8 e0
 ·obtain⟨a,e0,e1⟩:=Pp d gr e
  obtain⟨b,e2,e3⟩:=Pp d' bI e'
  rw[e1,e3]
  exact h.rE d d' a b hd e0 e2
def dr (P:Program) (B0:Nat) (w0:World) (G:aG) (k nl:Nat) (s s':ae) (w':World) (x:AV) (x':Value):Prop:=
 ∃G',At P B0 w0 G' k nl s' w'∧bD (k+1) s.loops.length G G'∧s'.loops.length=s.loops.length∧Rel G' k nl x x'
theorem At.to {G':aG} {s':ae} (h:At P B0 w0 G k nl s w) (hr:cE P B0 w0 G' s' w') (hle:bD k nl G G') (hl:s'.ag.length=s.ag.length):At P B0 w0 G' k nl s' w':=by
 obtain⟨gr,h1,h2⟩:=h.cur
 obtain⟨bI,h3,h4,_⟩:=hle.ag k gr (aH _) h1
 exact⟨hr,hl.trans h.len,bI,h3,h4.nl.trans h2⟩
theorem At.cT (h:At P B0 w0 G k nl s w) {d:Nat} (hd:d≤k):∃r gr,s.ag[d]? =some r∧G.ag[d]? =some gr:=by
 have h1:d<s.ag.length:=by rw[h.len];omega
 have h2:d<G.ag.length:=by rw[h.rel.len];exact h1
 exact⟨_,_,cY h1,cY h2⟩
theorem eC {α:Type} {l:List α} {b:Nat} {x y:α} (h:(l++[x])[b]? =some y):(b<l.length∧l[b]? =some y)∨(b=l.length∧y=x):=by
 rcases Tt b l.length with hb|hb
 ·rw[dM hb]at h;exact .inl ⟨hb,h⟩
 ·rw[gO hb]at h
  have:b-l.length=0:=by
   have:=(bd.1 h).1
   simp at this;omega
  rw[this]at h
  simp at h
  exact .inr ⟨by omega,h.symm⟩
theorem mQ {α:Type} {l:List α} {b:Nat} {x y:α} (h:l[b]? =some y):(l++[x])[b]? =some y:=by
 rw[dM (bd.1 h).1];exact h
theorem zT (h:At P B0 w0 G k nl s w) {cs:List AV} {arr:Array Value} (ty:TypeId) (z:Option Nat) (hz:∀n,z=some n→arr.size=n) (aD:cs≠[]) (bz:∀c,c∈cs→c.bA=true) (hR:kQ (Rel G k nl) cs arr):
  dr P B0 w0 G k nl s (s.dK cs).2 (w.alloc (.cells arr ty)) (s.dK cs).1 (.pointer (some ⟨w.heap.size,0,none⟩))∧
  dr P B0 w0 G k nl s (s.dK cs).2 (w.alloc (.cells arr ty)) (.aO s.cur (s.bQ s.cur) 0 0 0 0) (.slice (some ⟨w.heap.size,0,none⟩) 0 0)∧
  ∀es n cap rc,n≤rc→cap≤rc→(cap=0→0<n→z=some (rc*es))→dr P B0 w0 G k nl s (s.dK cs).2 (w.alloc (.cells arr ty)) (.aO s.cur (s.bQ s.cur) 0 es n cap) (.slice (some ⟨w.heap.size,0,none⟩) n rc):=by
 obtain⟨r,gr,hr,hg⟩:=h.cT (aH k)
 have lM:gr.nl=nl:=by obtain⟨g',e1,e2⟩:=h.cur;rw[hg]at e1;injection e1 with e1;rw[e1];exact e2
 have aI:=h.rel.cT k r gr hr hg
 let G':aG:={G with ag:=G.ag.modify k fun q=>{q with bl:=q.bl++[some w.heap.size],gs:=fun b=>if b=r.boxes.length then z else q.gs b},own:=fun b=>if b=w.heap.size then some (.box k r.boxes.length)else G.own b}
 have hk:jN (fun _=>False) G w G' (w.alloc (.cells arr ty)):=fun b o e _=>by
  have aC:=h.rel.eU b o e
  exact⟨by simp only[G'];rw[aq (by omega)];exact e,Below.heap_alloc _ _ _ aC,fun _ e=>e⟩
 have fp:jc gr {gr with bl:=gr.bl++[some w.heap.size],gs:=fun b=>if b=r.boxes.length then z else gr.gs b}:=⟨fun b blk e=>mQ e,fun g T e=>⟨T,e,.refl T⟩,rfl,fun b n e=>by
  obtain⟨blk,hb⟩:=aI.mR b n e
  have:=(bd.1 hb).1
  rw[aI.eu]at this
  simp only
  rw[aq (by omega)];exact e⟩
 have gK:(w.alloc (.cells arr ty)).heap[w.heap.size]? =some (.cells arr ty):=World.alloc_heap_new w _
 have hle:bD k nl G G':=⟨fun _ _ _ e=>e,fun d q _ e=>by
  simp only[G',dT]
  by_cases hd:k=d
  ·subst hd
   rw[hg]at e
   injection e with e
   subst e
   exact⟨_,by rw[ak rfl,hg];rfl,fp,fun _=>rfl⟩
  ·exact⟨q,by rw[aq hd];exact e,.refl q,fun _=>rfl⟩,fun _ _ _ e=>e⟩
 have gl:=h.rel.bu (G':=G') (w':=w.alloc (.cells arr ty)) hr hg (fun r=>{r with boxes:=r.boxes++[cs]}) (fun q=>{q with bl:=q.bl++[some w.heap.size],gs:=fun b=>if b=r.boxes.length then z else q.gs b}) (fun _=>False) rfl rfl (fun _ _ _ e=>e) fp rfl hk
  (fun o ho=>ho.elim) ?_ (fun b i v e=>?_) ((Below.refl _ _).alloc h.rel.low _) (fun b o e=>?_)
 ·obtain⟨hs,jT⟩:=gl
  have na:cE P B0 w0 G' (s.dK cs).2 (w.alloc (.cells arr ty)):=by
   simp only[ae.dK,h.gU,ae.jw]
   exact hs
  have hlen:(s.dK cs).2.ag.length=s.ag.length:=by simp[ae.dK,ae.jw,ae.bu]
  have jh:=h.to na hle hlen
  have oI:s.bQ s.cur=r.boxes.length:=by simp[ae.bQ,h.gU,hr]
  have gJ:G'.ag[k]? =some {gr with bl:=gr.bl++[some w.heap.size],gs:=fun b=>if b=r.boxes.length then z else gr.gs b}:=by
   show(G.ag.modify k _)[k]? =_
   rw[dT,ak rfl,hg];rfl
  have zi:({gr with bl:=gr.bl++[some w.heap.size],gs:=fun b=>if b=r.boxes.length then z else gr.gs b}:cN).bl[r.boxes.length]? =some (some w.heap.size):=by
   show(gr.bl++[some w.heap.size])[r.boxes.length]? =_
   rw[←aI.eu,gO (aH _)]
   simp
  have aR:(s.dK cs).2.loops.length=s.loops.length:=by simp[ae.dK,ae.jw,ae.bu]
  refine⟨⟨G',jh,jT _ _,aR,?_⟩,⟨G',jh,jT _ _,aR,?_⟩,fun es n cap rc hn hc hw=>⟨G',jh,jT _ _,aR,?_⟩⟩
  ·simp only[ae.dK,h.gU]
   rw[h.gU]at oI
   rw[oI]
   exact .ptr _ (aH _) gJ zi
  ·rw[oI,h.gU]
   exact .aO _ (aH _) gJ zi (aH _) (aH _) (fun _ h=>absurd h (Aw _)) (fun _=>rfl)
  ·rw[oI,h.gU]
   exact .aO _ (aH _) gJ zi hn hc (fun e1 e2=>by simp only;rw[ak trivial];exact hw e1 e2) (fun _=>rfl)
 ·refine⟨by simp[aI.eu],aI.iZ,fun b cs' blk e1 e2=>?_,fun b blk e1 e2=>?_,fun g n T e1 e2=>?_,fun i b e1=>?_,fun b n e1=>?_⟩
  ·rcases eC e1 with⟨hb,e1⟩|⟨hb,rfl⟩
   ·have jf:gr.bl[b]? =some (some blk):=by
     rcases eC e2 with⟨_,e2⟩|⟨fk,_⟩
     ·exact e2
     ·rw[aI.eu]at fk;omega
    have dw:=(aI.box b cs' blk e1 jf).kept (by rw[lM];exact hle) hk (fun _ x=>x)
    show pN B0 G' k gr.nl b (if b=r.boxes.length then z else gr.gs b) cs' blk _
    rw[aq (by omega)];exact dw
   ·have:blk=w.heap.size:=by
     rcases eC e2 with⟨fk,_⟩|⟨_,e⟩
     ·rw[aI.eu]at fk;omega
     ·injection e
    subst this
    subst hb
    refine⟨h.rel.low,⟨_,by simp[G'],fun _=>rfl⟩,fun _=>h.rel.uC,arr,ty,gK,hR.1,fun _ n hn=>hz n (by simpa using hn),fun i hi=>⟨bz _ (gG hi),?_⟩⟩
    have:=(hR.2 i hi).mono hle (aH _) (aH _)
    show Rel G' k gr.nl _ _
    rw[lM]
    exact this
  ·rcases eC e2 with⟨hb,e2⟩|⟨hb,e2⟩
   ·have kC:gr.bl[b]? =some (some blk):=by
     rcases eC e1 with⟨_,e1⟩|⟨fk,_⟩
     ·exact e1
     ·rw[aI.eu]at fk;omega
    exact aI.full b blk kC e2
   ·exact absurd e2.symm aD
  ·have ht:=aI.tok g n T e1 e2
   have hs:∀(hn:n.isSome=true),G'.own T.blk=some (.tok k g)∧(w.alloc (.cells arr ty)).heap[T.blk]? =w.heap[T.blk]? ∧∀i,G.I T.blk i=none→G'.I T.blk i=none:=fun hn=>by
    obtain⟨m,hm⟩:=oj.1 hn
    exact hk _ _ (ht.2 m hm).2.1 (fun x=>x)
   exact ht.cU (fun hn=>(hs hn).1) (fun hn=>(hs hn).2.1) (fun hn=>(hs hn).2.2)
  ·have hm:=aI.mark i b e1
   obtain⟨k1,k2,_⟩:=hk _ _ hm.2.1 (fun x=>x)
   exact hm.cU k1 k2
  ·simp only at e1
   split at e1
   ·rename_i hb
    subst hb
    refine⟨w.heap.size,?_⟩
    rw[←aI.eu,gO (aH _)]
    simp
   ·obtain⟨blk,hb⟩:=aI.mR b n e1
    exact⟨blk,mQ hb⟩
 ·have aC:=h.rel.s6 e
  rw[World.cell?_alloc_lt _ _ _ (by exact aC)]
  exact h.rel.ft b i v e
 ·simp only[G']at e
  split at e
  ·rename_i hb;subst hb;simp
  ·have:=h.rel.eU b o e;simp;omega
theorem apG (h:At P B0 w0 G k nl s w) {d:Nat} {gr:cN} (hd:d≤k) (hg:G.ag[d]? =some gr) {cs:List AV} {arr:Array Value} (ty:TypeId) (z:Option Nat) (hz:∀n,z=some n→arr.size=n) (aD:cs≠[]) (bz:∀c,c∈cs→c.bA=true) (hR:kQ (Rel G d gr.nl) cs arr):
  ∀es n cap rc,n≤rc→cap≤rc→(cap=0→0<n→z=some (rc*es))→dr P B0 w0 G k nl s (s.jw d cs) (w.alloc (.cells arr ty)) (.aO d (s.bQ d) 0 es n cap) (.slice (some ⟨w.heap.size,0,none⟩) n rc):=by
 obtain⟨r,bI,hr,bB⟩:=h.cT hd
 rw[hg]at bB
 injection bB with bB
 subst bB
 have aI:=h.rel.cT d r gr hr hg
 let G':aG:={G with ag:=G.ag.modify d fun q=>{q with bl:=q.bl++[some w.heap.size],gs:=fun b=>if b=r.boxes.length then z else q.gs b},own:=fun b=>if b=w.heap.size then some (.box d r.boxes.length)else G.own b}
 have hk:jN (fun _=>False) G w G' (w.alloc (.cells arr ty)):=fun b o e _=>by
  have aC:=h.rel.eU b o e
  exact⟨by simp only[G'];rw[aq (by omega)];exact e,Below.heap_alloc _ _ _ aC,fun _ e=>e⟩
 have fp:jc gr {gr with bl:=gr.bl++[some w.heap.size],gs:=fun b=>if b=r.boxes.length then z else gr.gs b}:=⟨fun b blk e=>mQ e,fun g T e=>⟨T,e,.refl T⟩,rfl,fun b n e=>by
  obtain⟨blk,hb⟩:=aI.mR b n e
  have:=(bd.1 hb).1
  rw[aI.eu]at this
  simp only
  rw[aq (by omega)];exact e⟩
 have gK:(w.alloc (.cells arr ty)).heap[w.heap.size]? =some (.cells arr ty):=World.alloc_heap_new w _
 have hle:bD d gr.nl G G':=⟨fun _ _ _ e=>e,fun d' q _ e=>by
  simp only[G',dT]
  by_cases hd:d=d'
  ·subst hd
   rw[hg]at e
   injection e with e
   subst e
   exact⟨_,by rw[ak rfl,hg];rfl,fp,fun _=>rfl⟩
  ·exact⟨q,by rw[aq hd];exact e,.refl q,fun _=>rfl⟩,fun _ _ _ e=>e⟩
 have gl:=h.rel.bu (G':=G') (w':=w.alloc (.cells arr ty)) hr hg (fun r=>{r with boxes:=r.boxes++[cs]}) (fun q=>{q with bl:=q.bl++[some w.heap.size],gs:=fun b=>if b=r.boxes.length then z else q.gs b}) (fun _=>False) rfl rfl (fun _ _ _ e=>e) fp rfl hk
  (fun o ho=>ho.elim) ?_ (fun b i v e=>?_) ((Below.refl _ _).alloc h.rel.low _) (fun b o e=>?_)
 ·obtain⟨hs,jT⟩:=gl
  have na:cE P B0 w0 G' (s.jw d cs) (w.alloc (.cells arr ty)):=hs
  have hlen:(s.jw d cs).ag.length=s.ag.length:=by simp[ae.jw,ae.bu]
  have jh:=h.to na (jT k nl) hlen
  have oI:s.bQ d=r.boxes.length:=by simp[ae.bQ,hr]
  have gJ:G'.ag[d]? =some {gr with bl:=gr.bl++[some w.heap.size],gs:=fun b=>if b=r.boxes.length then z else gr.gs b}:=by
   show(G.ag.modify d _)[d]? =_
   rw[dT,ak rfl,hg];rfl
  have zi:({gr with bl:=gr.bl++[some w.heap.size],gs:=fun b=>if b=r.boxes.length then z else gr.gs b}:cN).bl[r.boxes.length]? =some (some w.heap.size):=by
   show(gr.bl++[some w.heap.size])[r.boxes.length]? =_
   rw[←aI.eu,gO (aH _)]
   simp
  have aR:(s.jw d cs).loops.length=s.loops.length:=by simp[ae.jw,ae.bu]
  refine fun es n cap rc hn hc hw=>⟨G',jh,jT _ _,aR,?_⟩
  rw[oI]
  exact .aO _ hd gJ zi hn hc (fun e1 e2=>by simp only;rw[ak trivial];exact hw e1 e2) (fun _=>rfl)
 ·refine⟨by simp[aI.eu],aI.iZ,fun b cs' blk e1 e2=>?_,fun b blk e1 e2=>?_,fun g n T e1 e2=>?_,fun i b e1=>?_,fun b n e1=>?_⟩
  ·rcases eC e1 with⟨hb,e1⟩|⟨hb,rfl⟩
   ·have jf:gr.bl[b]? =some (some blk):=by
     rcases eC e2 with⟨_,e2⟩|⟨fk,_⟩
     ·exact e2
     ·rw[aI.eu]at fk;omega
    have dw:=(aI.box b cs' blk e1 jf).kept hle hk (fun _ x=>x)
    show pN B0 G' d gr.nl b (if b=r.boxes.length then z else gr.gs b) cs' blk _
    rw[aq (by omega)];exact dw
   ·have:blk=w.heap.size:=by
     rcases eC e2 with⟨fk,_⟩|⟨_,e⟩
     ·rw[aI.eu]at fk;omega
     ·injection e
    subst this
    subst hb
    refine⟨h.rel.low,⟨_,by simp[G'],fun _=>rfl⟩,fun _=>h.rel.uC,arr,ty,gK,hR.1,fun _ n hn=>hz n (by simpa using hn),fun i hi=>⟨bz _ (gG hi),?_⟩⟩
    have:=(hR.2 i hi).mono hle (aH _) (aH _)
    exact this
  ·rcases eC e2 with⟨hb,e2⟩|⟨hb,e2⟩
   ·have kC:gr.bl[b]? =some (some blk):=by
     rcases eC e1 with⟨_,e1⟩|⟨fk,_⟩
     ·exact e1
     ·rw[aI.eu]at fk;omega
    exact aI.full b blk kC e2
   ·exact absurd e2.symm aD
  ·have ht:=aI.tok g n T e1 e2
   have hs:∀(hn:n.isSome=true),G'.own T.blk=some (.tok d g)∧(w.alloc (.cells arr ty)).heap[T.blk]? =w.heap[T.blk]? ∧∀i,G.I T.blk i=none→G'.I T.blk i=none:=fun hn=>by
    obtain⟨m,hm⟩:=oj.1 hn
    exact hk _ _ (ht.2 m hm).2.1 (fun x=>x)
   exact ht.cU (fun hn=>(hs hn).1) (fun hn=>(hs hn).2.1) (fun hn=>(hs hn).2.2)
  ·have hm:=aI.mark i b e1
   obtain⟨k1,k2,_⟩:=hk _ _ hm.2.1 (fun x=>x)
   exact hm.cU k1 k2
  ·simp only at e1
   split at e1
   ·rename_i hb
    subst hb
    refine⟨w.heap.size,?_⟩
    rw[←aI.eu,gO (aH _)]
    simp
   ·obtain⟨blk,hb⟩:=aI.mR b n e1
    exact⟨blk,mQ hb⟩
 ·have aC:=h.rel.s6 e
  rw[World.cell?_alloc_lt _ _ _ (by exact aC)]
  exact h.rel.ft b i v e
 ·simp only[G']at e
  split at e
  ·rename_i hb;subst hb;simp
  ·have:=h.rel.eU b o e;simp;omega
theorem acO (h:cE P B0 w0 G s w) {d:Nat} {r:Rec} {gr:cN} {blk:Nat} {cs:List AV} {arr:Array Value} {ty:TypeId} {z:Option Nat} (hr:s.ag[d]? =some r) (hg:G.ag[d]? =some gr) (zh:G.own blk=none) (hI:∀i,G.I blk i=none)
  (hB:B0≤blk) (hw:w.heap[blk]? =some (.cells arr ty)) (aD:cs≠[]) (bz:∀c,c∈cs→c.bA=true) (hle:cs.length≤arr.size) (hR:∀i (hi:i<cs.length),bL G.I cs[i] (arr.getD i Go.undef)) (hz:∀n,z=some n→arr.size=n):
  ∃G',G'.ag=G.ag.modify d (fun q=>{q with bl:=q.bl++[some blk],gs:=fun b=>if b=r.boxes.length then z else q.gs b})∧G'.I=G.I∧cE P B0 w0 G' (s.jw d cs) w∧(∀k nl,bD k nl G G')∧
   ∃g2,G'.ag[d]? =some g2∧g2.bl[r.boxes.length]? =some (some blk)∧g2.gs r.boxes.length=z:=by
 have aI:=h.cT d r gr hr hg
 let gf:cN→cN:=fun q=>{q with bl:=q.bl++[some blk],gs:=fun b=>if b=r.boxes.length then z else q.gs b}
 let G':aG:={G with ag:=G.ag.modify d gf,own:=fun b=>if b=blk then some (.box d r.boxes.length)else G.own b}
 have hk:jN (fun _=>False) G w G' w:=fun b o e _=>by
  refine⟨?_,rfl,fun _ e=>e⟩
  simp only[G']
  rw[aq (by rintro rfl;rw[zh]at e;cases e)]
  exact e
 have fp:jc gr (gf gr):=⟨fun b blk e=>mQ e,fun g T e=>⟨T,e,.refl T⟩,rfl,fun b n e=>by
  obtain⟨q,hb⟩:=aI.mR b n e
  have:=(bd.1 hb).1
  rw[aI.eu]at this
  simp only[gf]
  rw[aq (by omega)];exact e⟩
 have vn:bD d gr.nl G G':=⟨fun _ _ _ e=>e,fun d' q _ e=>by
  simp only[G',dT]
  by_cases hd:d=d'
  ·subst hd
   rw[hg]at e
   injection e with e
   subst e
   exact⟨_,by rw[ak rfl,hg];rfl,fp,fun _=>rfl⟩
  ·exact⟨q,by rw[aq hd];exact e,.refl q,fun _=>rfl⟩,fun _ _ _ e=>e⟩
 have gl:=h.bu (G':=G') (w':=w) hr hg (fun r=>{r with boxes:=r.boxes++[cs]}) gf (fun _=>False) rfl rfl (fun _ _ _ e=>e) fp rfl hk (fun o ho=>ho.elim) ?_ h.ft (Below.refl _ _) (fun b o e=>?_)
 ·refine⟨G',rfl,rfl,gl.1,gl.2,gf gr,?_,?_,?_⟩
  ·show(G.ag.modify d gf)[d]? =_
   rw[dT,ak rfl,hg];rfl
  ·show(gr.bl++[some blk])[r.boxes.length]? =_
   rw[←aI.eu,gO (aH _)]
   simp
  ·simp[gf]
 ·refine⟨by simp[gf,aI.eu],aI.iZ,fun b cs' bk e1 e2=>?_,fun b bk e1 e2=>?_,fun g n T e1 e2=>?_,fun i b e1=>?_,fun b n e1=>?_⟩
  ·rcases eC e1 with⟨hb,e1⟩|⟨hb,rfl⟩
   ·have jf:gr.bl[b]? =some (some bk):=by
     rcases eC e2 with⟨_,e2⟩|⟨fk,_⟩
     ·exact e2
     ·rw[aI.eu]at fk;omega
    have dw:=(aI.box b cs' bk e1 jf).kept vn hk (fun _ x=>x)
    show pN B0 G' d gr.nl b (if b=r.boxes.length then z else gr.gs b) cs' bk _
    rw[aq (by omega)];exact dw
   ·have:bk=blk:=by
     rcases eC e2 with⟨fk,_⟩|⟨_,e⟩
     ·rw[aI.eu]at fk;omega
     ·injection e
    subst this
    subst hb
    exact⟨hB,⟨_,by simp[G'],fun _=>rfl⟩,fun _=>hI,arr,ty,hw,hle,fun _ n hn=>hz n (by simpa[gf]using hn),fun i hi=>⟨bz _ (gG hi),.cl (hR i hi)⟩⟩
  ·rcases eC e2 with⟨hb,e2⟩|⟨hb,e2⟩
   ·have kC:gr.bl[b]? =some (some bk):=by
     rcases eC e1 with⟨_,e1⟩|⟨fk,_⟩
     ·exact e1
     ·rw[aI.eu]at fk;omega
    exact aI.full b bk kC e2
   ·exact absurd e2.symm aD
  ·have ht:=aI.tok g n T e1 e2
   have hs:∀(hn:n.isSome=true),G'.own T.blk=some (.tok d g)∧w.heap[T.blk]? =w.heap[T.blk]? ∧∀i,G.I T.blk i=none→G'.I T.blk i=none:=fun hn=>by
    obtain⟨m,hm⟩:=oj.1 hn
    exact hk _ _ (ht.2 m hm).2.1 (fun x=>x)
   exact ht.cU (fun hn=>(hs hn).1) (fun hn=>(hs hn).2.1) (fun hn=>(hs hn).2.2)
  ·have hm:=aI.mark i b e1
   obtain⟨k1,k2,_⟩:=hk _ _ hm.2.1 (fun x=>x)
   exact hm.cU k1 k2
  ·simp only[gf]at e1
   split at e1
   ·rename_i hb
    subst hb
    refine⟨blk,?_⟩
    show(gr.bl++[some blk])[r.boxes.length]? =_
    rw[←aI.eu,gO (aH _)]
    simp
   ·obtain⟨q,hb⟩:=aI.mR b n e1
    exact⟨q,mQ hb⟩
 ·simp only[G']at e
  split at e
  ·rename_i hb;subst hb;exact(uy.1 hw).1
  ·exact h.eU b o e
theorem JZ {α:Type} {l:List α} {x:α} {n b:Nat} {y:α} (h:(l++List.replicate n x)[b]? =some y):l[b]? =some y∨(l.length≤b∧y=x):=by
 rcases Tt b l.length with hb|hb
 ·rw[dM hb]at h;exact .inl h
 ·rw[gO hb]at h
  exact .inr ⟨hb,by rw[Tf]at h;split at h;(injection h with h;exact h.symm);cases h⟩
theorem ast (h:At P B0 w0 G k nl s w) (n:Nat):dr P B0 w0 G k nl s (s.l3 n) w AV.undef Go.undef:=by
 obtain⟨r,gr,hr,hg⟩:=h.cT (aH k)
 have aI:=h.rel.cT k r gr hr hg
 let G':aG:={G with ag:=G.ag.modify k fun q=>{q with bl:=q.bl++List.replicate n none}}
 have hk:jN (fun _=>False) G w G' w:=fun b o e _=>⟨e,rfl,fun _ e=>e⟩
 have fp:jc gr {gr with bl:=gr.bl++List.replicate n none}:=⟨fun b blk e=>by
  show(gr.bl++_)[b]? =_
  rw[dM (bd.1 e).1];exact e,fun g T e=>⟨T,e,.refl T⟩,rfl,fun _ _ e=>e⟩
 have hle:bD k gr.nl G G':=⟨fun _ _ _ e=>e,fun d q _ e=>by
  simp only[G',dT]
  by_cases hd:k=d
  ·subst hd
   rw[hg]at e
   injection e with e
   subst e
   exact⟨_,by rw[ak rfl,hg];rfl,fp,fun _=>rfl⟩
  ·exact⟨q,by rw[aq hd];exact e,.refl q,fun _=>rfl⟩,fun _ _ _ e=>e⟩
 have gl:=h.rel.bu (G':=G') (w':=w) hr hg (fun r=>{r with boxes:=r.boxes++List.replicate n []}) (fun q=>{q with bl:=q.bl++List.replicate n none}) (fun _=>False) rfl rfl (fun _ _ _ e=>e) fp rfl hk
  (fun o ho=>ho.elim) ?_ (fun b i v e=>h.rel.ft b i v e) (Below.refl _ _) (fun b o e=>h.rel.eU b o e)
 ·obtain⟨hs,jT⟩:=gl
  have na:cE P B0 w0 G' (s.l3 n) w:=by
   simp only[ae.l3,h.gU]
   exact hs
  exact⟨G',h.to na (jT _ _) (by simp[ae.l3,ae.bu]),jT _ _,by simp[ae.l3,ae.bu],.undef⟩
 ·refine⟨by simp[aI.eu],aI.iZ,fun b cs' blk e1 e2=>?_,fun b blk e1 e2=>?_,fun g n T e1 e2=>?_,fun i b e1=>?_,fun b n e1=>?_⟩
  ·have jf:gr.bl[b]? =some (some blk):=by
    rcases JZ e2 with e2|⟨_,e⟩
    ·exact e2
    ·cases e
   have kC:r.boxes[b]? =some cs':=by
    rcases JZ e1 with e1|⟨fk,_⟩
    ·exact e1
    ·have:=(bd.1 jf).1;rw[aI.eu]at this;omega
   exact(aI.box b cs' blk kC jf).kept hle hk (fun _ x=>x)
  ·have kC:gr.bl[b]? =some (some blk):=by
    rcases JZ e1 with e1|⟨_,e⟩
    ·exact e1
    ·cases e
   rcases JZ e2 with e2|⟨fk,_⟩
   ·exact aI.full b blk kC e2
   ·have:=(bd.1 kC).1;rw[aI.eu]at this;omega
  ·exact aI.tok g n T e1 e2
  ·exact aI.mark i b e1
  ·obtain⟨blk,hb⟩:=aI.mR b n e1
   refine⟨blk,?_⟩
   show(gr.bl++_)[b]? =_
   rw[dM (bd.1 hb).1];exact hb
theorem atw (h:At P B0 w0 G k nl s w) {zs:List AV} {arr:Array Value} (ty:TypeId) {back:Nat} {v:AV} {s':ae} (bz:∀c,c∈zs→c.bA=true) (hR:jv (Rel G k nl) zs arr)
  (hv:mK s back zs=some (v,s')):dr P B0 w0 G k nl s s' (w.alloc (.cells arr ty)) v (.pointer (some ⟨w.heap.size,0,none⟩)):=by
 obtain⟨r,gr,hr,hg⟩:=h.cT (aH k)
 have lM:gr.nl=nl:=by obtain⟨g',e1,e2⟩:=h.cur;rw[hg]at e1;injection e1 with e1;rw[e1];exact e2
 have aI:=h.rel.cT k r gr hr hg
 unfold mK at hv
 split at hv
 case h_2=>cases hv
 rename_i dw
 split at hv
 ·cases hv
 rename_i xw
 have ajR:zs.isEmpty≠true:=fun e=>xw (.inl e)
 have sx:s.lS s.cur=false:=by cases e:s.lS s.cur with|true=>exact absurd (.inr e) xw|false=>rfl
 injection hv with hv
 injection hv with QH QI
 subst QH QI
 have aD:zs≠[]:=fun e=>ajR (by rw[e];rfl)
 rw[h.gU]at dw sx⊢
 have qj:none∉r.toks:=by
  simp only[ae.lS,hr]at sx
  intro hm
  have:=uD.1 sx none hm
  exact this rfl
 generalize s.bQ k-back=b0 at*
 have nI:r.boxes[b0]? =some []:=by
  simpa[ae.box,hr]using dw
 have FY:b0<r.boxes.length:=(bd.1 nI).1
 have XJ:gr.bl[b0]? =some none:=by
  have hl:b0<gr.bl.length:=by rw[aI.eu];exact FY
  rw[cY hl]
  cases e:gr.bl[b0]with
  |none=>rfl
  |some blk=>exact absurd (aI.full b0 blk (by rw[cY hl,e]) nI) qj
 let G':aG:={G with ag:=G.ag.modify k fun q=>{q with bl:=q.bl.set b0 (some w.heap.size)},own:=fun b=>if b=w.heap.size then some (.box k b0)else G.own b}
 have hk:jN (fun _=>False) G w G' (w.alloc (.cells arr ty)):=fun b o e _=>by
  have aC:=h.rel.eU b o e
  exact⟨by simp only[G'];rw[aq (by omega)];exact e,Below.heap_alloc _ _ _ aC,fun _ e=>e⟩
 have sD:∀(b:Nat) (x:Option Nat),b≠b0→(gr.bl.set b0 (some w.heap.size))[b]? =some x→gr.bl[b]? =some x:=fun b x hb e=>by
  rw[eP (qF hb)]at e;exact e
 have fp:jc gr {gr with bl:=gr.bl.set b0 (some w.heap.size)}:=⟨fun b blk e=>by
  show(gr.bl.set _ _)[b]? =_
  by_cases hb:b=b0
  ·subst hb;rw[XJ]at e;cases e
  ·rw[eP (qF hb)];exact e,fun g T e=>⟨T,e,.refl T⟩,rfl,fun _ _ e=>e⟩
 have gK:(w.alloc (.cells arr ty)).heap[w.heap.size]? =some (.cells arr ty):=World.alloc_heap_new w _
 have hle:bD k nl G G':=⟨fun _ _ _ e=>e,fun d q _ e=>by
  simp only[G',dT]
  by_cases hd:k=d
  ·subst hd
   rw[hg]at e
   injection e with e
   subst e
   exact⟨_,by rw[ak rfl,hg];rfl,fp,fun _=>rfl⟩
  ·exact⟨q,by rw[aq hd];exact e,.refl q,fun _=>rfl⟩,fun _ _ _ e=>e⟩
 have gl:=h.rel.bu (G':=G') (w':=w.alloc (.cells arr ty)) hr hg (fun r=>{r with boxes:=r.boxes.set b0 zs}) (fun q=>{q with bl:=q.bl.set b0 (some w.heap.size)}) (fun _=>False) rfl rfl (fun _ _ _ e=>e) fp rfl hk
  (fun o ho=>ho.elim) ?_ (fun b i v e=>?_) ((Below.refl _ _).alloc h.rel.low _) (fun b o e=>?_)
 ·obtain⟨hs,jT⟩:=gl
  have jh:=h.to (s':=s.dL k b0 zs) hs (jT k nl) (by simp[ae.dL,ae.bu])
  refine⟨G',jh,jT _ _,by simp[ae.dL,ae.bu],?_⟩
  have gJ:G'.ag[k]? =some {gr with bl:=gr.bl.set b0 (some w.heap.size)}:=by
   show(G.ag.modify k _)[k]? =_
   rw[dT,ak rfl,hg];rfl
  refine .ptr _ (aH _) gJ ?_
  show(gr.bl.set b0 (some w.heap.size))[b0]? =_
  rw[mL (by rw[aI.eu];exact FY)]
 ·refine⟨by simp[aI.eu],aI.iZ,fun b cs' blk e1 e2=>?_,fun b blk e1 e2=>?_,fun g n T e1 e2=>?_,fun i b e1=>?_,fun b n e1=>?_⟩
  ·by_cases hb:b=b0
   ·subst hb
    have jf:w.heap.size=blk:=by
     have e3:(gr.bl.set b (some w.heap.size))[b]? =some (some blk):=e2
     rw[mL (by rw[aI.eu];exact FY)]at e3
     injection e3 with e3;injection e3
    subst jf
    have kC:zs=cs':=by
     have e3:(r.boxes.set b zs)[b]? =some cs':=e1
     rw[mL FY]at e3
     injection e3
    subst kC
    refine⟨h.rel.low,⟨_,by simp[G'],fun _=>rfl⟩,fun _=>h.rel.uC,arr,ty,gK,Tr hR.1.symm,fun _ n hn=>?_,fun i hi=>⟨bz _ (gG hi),?_⟩⟩
    ·obtain⟨blk,hb⟩:=aI.mR b n hn
     rw[XJ]at hb;cases hb
    have:=(hR.2 i hi).mono hle (aH _) (aH _)
    show Rel G' k gr.nl _ _
    rw[lM]
    exact this
   ·have kC:r.boxes[b]? =some cs':=by
     have e3:(r.boxes.set b0 zs)[b]? =some cs':=e1
     rw[eP (qF hb)]at e3;exact e3
    have dw:=aI.box b cs' blk kC (sD b _ hb e2)
    exact dw.kept (by rw[lM];exact hle) hk (fun _ x=>x)
  ·by_cases hb:b=b0
   ·subst hb
    have e3:(r.boxes.set b zs)[b]? =some []:=e2
    rw[mL FY]at e3
    injection e3 with e3
    exact absurd e3 aD
   ·have e3:(r.boxes.set b0 zs)[b]? =some []:=e2
    rw[eP (qF hb)]at e3
    exact aI.full b blk (sD b _ hb e1) e3
  ·have ht:=aI.tok g n T e1 e2
   have hs:∀(hn:n.isSome=true),G'.own T.blk=some (.tok k g)∧(w.alloc (.cells arr ty)).heap[T.blk]? =w.heap[T.blk]? ∧∀i,G.I T.blk i=none→G'.I T.blk i=none:=fun hn=>by
    obtain⟨m,hm⟩:=oj.1 hn
    exact hk _ _ (ht.2 m hm).2.1 (fun x=>x)
   exact ht.cU (fun hn=>(hs hn).1) (fun hn=>(hs hn).2.1) (fun hn=>(hs hn).2.2)
  ·have hm:=aI.mark i b e1
   obtain⟨k1,k2,_⟩:=hk _ _ hm.2.1 (fun x=>x)
   exact hm.cU k1 k2
  ·obtain⟨blk,hb⟩:=aI.mR b n e1
   exact⟨blk,fp.bl _ _ hb⟩
 ·have aC:=h.rel.s6 e
  rw[World.cell?_alloc_lt _ _ _ (by exact aC)]
  exact h.rel.ft b i v e
 ·simp only[G']at e
  split at e
  ·rename_i hb;subst hb;simp
  ·have:=h.rel.eU b o e;simp;omega
end
end Go.Ax
