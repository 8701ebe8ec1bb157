/-
  The abstract executor: values, codes and what a run of a code gives. Plain definitions; nothing is claimed here.
-/
import GoSem.Step
import Derived.RangeFuncLeaves
import Derived.RangeFuncRecord
import Derived.Below
import Derived.Laws.IdiomCopy
import Derived.Laws.Cells
set_option linter.unusedSimpArgs false
set_option linter.unusedVariables false
set_option maxRecDepth 100000
namespace Go.Ax
abbrev ak:= @if_pos
abbrev aq:= @if_neg
abbrev aH:= @Nat.le_refl
abbrev aS:= @Option.map_eq_some_iff
abbrev aY:= @List.getElem?_eq_some_iff
abbrev bh:= @Nat.zero_le
abbrev bq:= @ne_eq
abbrev bE:= @List.length_map
abbrev bK:= @List.mem_of_getElem?
abbrev bS:= @decide_eq_true
abbrev bZ:= @if_true
abbrev ch:= @decide_eq_false
abbrev ck:= @List.length_append
abbrev cC:= @List.mem_map
abbrev cM:= @List.getElem?_eq_getElem
abbrev c9:= @List.mem_append
abbrev da:= @Option.bind_eq_some_iff
abbrev dk:= @Nat.not_lt_zero
abbrev dt:= @if_false
abbrev dx:= @decide_eq_true_eq
abbrev dB:= @List.getElem?_append_left
abbrev dI:= @Bool.and_eq_true
abbrev dJ:= @List.length_cons
abbrev dO:= @List.mem_singleton
abbrev dP:= @Option.map_some
abbrev eB:= @Bool.false_eq_true
abbrev eE:= @List.drop_length
abbrev eF:= @List.mem_cons
abbrev eK:= @List.getElem?_set_ne
abbrev eL:= @Option.bind_some
abbrev eP:= @List.mem_filter
abbrev fp:= @Int.cast_ofNat_Int
abbrev fq:= @List.length_take
abbrev ft:= @Nat.add_mul
abbrev fI:= @not_true
abbrev fK:= @Nat.zero_add
abbrev fL:= @Option.some.injEq
abbrev fS:= @List.any_eq_true
abbrev fT:= @List.map_append
abbrev fY:= @cond_true
abbrev gA:= @List.getElem_mem
abbrev gL:= @List.append_assoc
abbrev gM:= @List.getElem?_append_right
abbrev gN:= @List.getElem?_map
abbrev gO:= @List.map_cons
abbrev gP:= @List.mem_cons_of_mem
abbrev ig:= @List.take_length
abbrev iw:= @cond_false
abbrev iy:= @congrArg
abbrev iF:= @Bool.true_and
abbrev iG:= @List.append_nil
abbrev iY:= @List.length_nil
abbrev jq:= @Nat.pow_le_pow_right
abbrev jH:= @Bool.not_true
abbrev jJ:= @List.all_eq_true
abbrev jK:= @Nat.le_trans
abbrev jV:= @not_false_iff
abbrev jZ:= @Bool.false_and
abbrev kg:= @List.cons_append
abbrev kh:= @List.nil_append
abbrev ki:= @List.pairwise_append
abbrev kI:= @List.drop_zero
abbrev kZ:= @Option.getD_some
abbrev lR:= @List.length_filter_le
abbrev mE:= @List.getElem?_set_self
abbrev mF:= @Nat.mul_le_mul_right
abbrev ni:= @List.filter_append
abbrev nj:= @List.map_nil
abbrev nk:= @Nat.lt_of_lt_of_le
abbrev nr:= @and_self
abbrev nT:= @Bool.and_false
abbrev nU:= @Bool.false_or
abbrev nV:= @Bool.not_false
abbrev nZ:= @List.getElem?_eq_none
abbrev n5:= @List.getElem?_of_mem
abbrev n6:= @List.getElem_of_mem
abbrev n7:= @List.mem_append_left
abbrev oM:= @List.any_cons
abbrev oN:= @Nat.one_mul
abbrev oO:= @Option.isSome_iff_exists
abbrev pK:= @List.ext_getElem?
abbrev pL:= @List.length_range
abbrev pM:= @List.mem_range
abbrev pR:= @decide_true
abbrev qm:= @Classical.byContradiction
abbrev qn:= @Ne.symm
abbrev qv:= @decide_eq_false_iff_not
abbrev rr:= @Bool.eq_iff_iff
abbrev ru:= @Bool.or_eq_true
abbrev rB:= @Option.isSome_none
abbrev rP:= @decide_not
abbrev sQ:= @Bool.and_true
abbrev sR:= @Eq.symm
abbrev sU:= @List.flatten_cons
abbrev sV:= @List.foldl_cons
abbrev sW:= @List.getElem?_set
abbrev sX:= @List.length_drop
abbrev sY:= @Nat.le_succ
abbrev sZ:= @Nat.mod_lt
abbrev th:= @decide_false
abbrev tZ:= @Array.getElem?_eq_some_iff
abbrev ub:= @Eq.trans
abbrev uf:= @List.eq_nil_of_length_eq_zero
abbrev ug:= @List.getElem_append_left
abbrev uh:= @List.getElem_append_right
abbrev ui:= @List.idxOf_lt_length_iff
abbrev uj:= @List.mem_flatten
abbrev uk:= @List.pairwise_cons
abbrev um:= @List.pairwise_map
abbrev vE:= @Bool.not_eq_true'
abbrev vG:= @List.all_cons
abbrev vH:= @List.getElem?_modify
abbrev vI:= @List.mem_cons_self
abbrev vJ:= @List.mem_of_mem_take
abbrev vK:= @Nat.add_assoc
abbrev vL:= @Nat.add_zero
abbrev vM:= @Nat.eq_zero_or_pos
abbrev vO:= @Option.isSome_some
abbrev xK:= @Bool.and_self
abbrev xP:= @List.cons.injEq
abbrev xQ:= @List.drop_of_length_le
abbrev xR:= @List.getElem?_take
abbrev xS:= @List.getElem_cons_zero
abbrev xT:= @List.length_singleton
abbrev xU:= @List.map_map
abbrev xV:= @List.size_toArray
abbrev xW:= @Nat.div_add_mod'
abbrev zB:= @or_false
abbrev zI:= @Bool.true_or
abbrev zK:= @Int.le_refl
abbrev zL:= @List.any_append
abbrev zM:= @List.any_eq_false
abbrev zN:= @List.filter_nil
abbrev zO:= @List.length_set
abbrev zP:= @List.not_mem_nil
abbrev zQ:= @List.range_eq_range'
abbrev zR:= @List.range_succ
abbrev zS:= @List.set_set
abbrev zU:= @Nat.lt_irrefl
abbrev Cl:= @Bool.or_false
abbrev Cn:= @List.Pairwise.filter
abbrev Co:= @List.all_nil
abbrev Cp:= @List.flatMap_cons
abbrev Cq:= @List.getElem_idxOf
abbrev Cr:= @List.length_pos_iff
abbrev Cs:= @List.pairwise_iff_getElem
abbrev Ct:= @List.range'_succ
abbrev Cu:= @Nat.le_max_left
abbrev Cv:= @Nat.testBit_or
abbrev Cx:= @Prod.mk.injEq
abbrev Hf:= @Int.toNat_natCast
abbrev Hh:= @List.any_map
abbrev Hi:= @List.filter_congr
abbrev Hj:= @List.find?_eq_none
abbrev Hk:= @List.getElem?_cons_zero
abbrev Hl:= @List.getElem?_range
abbrev Hm:= @List.getElem_cons_succ
abbrev Hn:= @List.isEmpty_nil
abbrev Ho:= @List.map_congr_left
abbrev Hp:= @List.map_eq_nil_iff
abbrev Hq:= @List.mem_append_right
abbrev Hr:= @List.mem_of_mem_drop
abbrev Hs:= @List.mem_replicate
abbrev Ht:= @List.set_append_right
abbrev Hu:= @List.set_cons_zero
abbrev Hv:= @List.take_append_drop
abbrev Hy:= @Nat.add_sub_cancel
abbrev Hz:= @Nat.le_max_right
abbrev HA:= @Nat.mod_eq_of_lt
abbrev HB:= @Nat.mul_pos
abbrev HC:= @Nat.sub_self
abbrev HD:= @Nat.testBit_lt_two_pow
abbrev Jf:= @dif_pos
abbrev K7:= @true_and
abbrev Lh:= @Bool.or_eq_false_iff
abbrev Li:= @ByteArray.ext
abbrev Ll:= @List.append_eq_nil_iff
abbrev Lm:= @List.ext_getElem
abbrev Ln:= @List.filter_cons
abbrev Lo:= @List.filter_eq_self
abbrev Lp:= @List.filter_sublist
abbrev Lq:= @List.find?_some
abbrev Lr:= @List.foldl_append
abbrev Ls:= @List.getD_eq_getElem?_getD
abbrev Lt:= @List.getElem?_cons_succ
abbrev Lu:= @List.length_eraseIdx_of_lt
abbrev Lv:= @List.length_modify
abbrev Lw:= @List.map_take
abbrev Lx:= @List.pairwise_singleton
abbrev Ly:= @List.take_zero
abbrev Lz:= @Nat.add_comm
abbrev LA:= @Nat.div_eq_of_lt
abbrev LB:= @Nat.le_of_not_lt
abbrev LC:= @Nat.lt_succ_self
abbrev LD:= @Nat.lt_trichotomy
abbrev LF:= @Nat.one_ne_zero
abbrev LG:= @Nat.pow_lt_pow_right
abbrev LH:= @Nat.sub_le_sub_right
abbrev LI:= @Nat.testBit_two_pow
abbrev LJ:= @Option.map_map
abbrev LK:= @Option.map_none
abbrev Ns:= @beq_iff_eq
abbrev Qi:= @of_decide_eq_true
abbrev Rw:= @Array.length_toList
abbrev Ry:= @Function.comp_def
abbrev RA:= @Int.mul_le_mul_of_nonneg_right
abbrev RC:= @List.Pairwise.of_cons
abbrev RD:= @List.drop_append_of_le_length
abbrev RE:= @List.drop_eq_nil_of_le
abbrev RF:= @List.drop_succ_cons
abbrev RG:= @List.eq_of_mem_replicate
abbrev RH:= @List.filter_cons_of_neg
abbrev RI:= @List.filter_cons_of_pos
abbrev RJ:= @List.find?_cons
abbrev RM:= @List.flatten_nil
abbrev RN:= @List.getElem?_replicate
abbrev RO:= @List.getElem?_toArray
abbrev RP:= @List.getElem_set
abbrev RQ:= @List.getLast?_eq_none_iff
abbrev RR:= @List.mapM_cons
abbrev RS:= @List.mem_of_find?_eq_some
abbrev RT:= @List.mem_of_getLast?
abbrev RU:= @List.mem_of_mem_eraseIdx
abbrev RV:= @List.mem_or_eq_of_mem_set
abbrev RW:= @List.set_cons_succ
abbrev RX:= @List.singleton_append
abbrev RY:= @List.take_append_of_le_length
abbrev RZ:= @List.take_of_length_le
abbrev R1:= @List.take_succ_cons
abbrev R2:= @Nat.div_le_self
abbrev R3:= @Nat.div_lt_iff_lt_mul
abbrev R4:= @Nat.le_of_eq
abbrev R5:= @Nat.le_of_lt
abbrev R6:= @Nat.lt_or_ge
abbrev R7:= @Nat.lt_or_gt_of_ne
abbrev R8:= @Nat.lt_trans
abbrev R9:= @Nat.mul_comm
abbrev Sb:= @Nat.mul_one
abbrev Sd:= @Nat.one_le_two_pow
abbrev Se:= @Nat.sub_zero
abbrev Sf:= @Nat.testBit_two_pow_sub_one
abbrev abg:= @Array.getElem?_eq_getElem
abbrev abh:= @Array.mapM_eq_mapM_toList
abbrev abj:= @Int.fdiv_eq_ediv_of_nonneg
abbrev abl:= @List.filter_eq_nil_iff
abbrev abm:= @List.getElem_replicate
abbrev abn:= @List.getLast?_eq_getElem?
abbrev abo:= @List.length_eraseIdx_le
abbrev abp:= @List.pairwise_lt_range
abbrev abr:= @List.rel_of_pairwise_cons
abbrev abu:= @Nat.testBit_eq_decide_div_mod_eq
abbrev abw:= @Option.isNone_iff_eq_none
end Go.Ax
namespace Go.Ax
inductive Own where
 |aA
 |any
 |full
 |tok (d g:Nat)
def Own.isNil:Own→Bool
 |.aA=>true
 |_=>false
def Own.isFull:Own→Bool
 |.full=>true
 |_=>false
inductive AV where
 |v (x:Value)
 |slice (o:Own) (es:Nat) (xs:List (List AV))
 |ptr (d b off:Nat)
 |bo (cs:List AV) (off:Nat)
 |aN (d b off es n cap:Nat)
 |fn (f:FuncId) (first caps:List AV)
 |yield (l:Nat)
 |iface (t:TypeId) (x:AV)
 |agg (cs:List AV)
 |tuple (vs:List AV)
 |zA
abbrev AV.int (n:Int):AV:=.v (.int .i64 n)
abbrev AV.bool (b:Bool):AV:=.v (.bool b)
abbrev AV.undef:AV:=.v Go.undef
def AV.cells:AV→List AV
 |.agg cs=>cs
 |x=>[x]
def AV.bu:AV→Bool
 |.agg _|.tuple _=>false
 |.v (.agg _)|.v (.tuple _)=>false
 |_=>true
def AV.iT:AV→Bool
 |.v x=>match x with|.agg _|.tuple _=>false|_=>true
 |.bo _ _=>true
 |.zA=>true
 |.slice o _ _=>match o with|.aA|.any|.full=>true|_=>false
 |_=>false
def AV.vk:AV→Bool
 |.agg cs=>cs.all AV.iT
 |x=>x.iT
def AV.isClosed:AV→Bool
 |.iface _ x=>x.vk
 |.fn _ first caps=>first.all AV.vk&&caps.all AV.iT
 |x=>x.iT
def AV.close:AV→Option AV
 |.slice (.tok _ _) es xs=>some (.slice .any es xs)
 |x=>if x.isClosed then some x else none
def closeAll:List AV→Option (List AV)
 |[]=>some []
 |x::r=>match x.close,closeAll r with
  |some y,some s=>some (y::s)
  |_,_=>none
inductive aF where
 |tmp (t:Nat)
 |const (c:AV)
inductive Cy where
 |str
 |sl (es:Nat)
 |arr (n es:Nat)
inductive PK where
 |int
 |bool
 |str
inductive Hd where
 |bool
 |agg (ks:List PK)
 |ptr
 |iface
 |slice
 |func
inductive Hc where
 |int (k:IntKind)
 |same
 |bytes
 |text
inductive cj where
 |move (x:aF)
 |pick (c a b:aF)
 |alloc (zs:List AV)
 |box (n:Nat) (x:aF)
 |build (zs:List AV) (parts:List (Nat×Nat×aF))
 |buildSlice (es:Nat) (rows:List (List AV)) (parts:List (Nat×aF))
 |load (agg:Bool) (n:Nat) (x:aF)
 |store (n:Nat) (x y:aF)
 |nilCheck (x:aF)
 |arith (op:BinOp) (x y:aF)
 |eqv (neg:Bool) (k:Hd) (x y:aF)
 |un (op:UnOp) (x:aF)
 |conv(k:Hc) (x:aF)
 |KA (t:TypeId) (x:aF)
 |oG (f:FuncId) (first caps:List aF)
 |mkSlice (es:Nat) (zs:List AV) (len cap:aF)
 |BT (es:Nat) (zs:List AV) (len cap:aF)
 |slice (k:Cy) (x:aF) (lo hi mx:Option aF)
 |fieldAddr (off:Nat) (x:aF)
 |indexAddr (arr:Option Nat) (es:Nat) (x i:aF)
 |Gt (x i:aF)
 |index (n es:Nat) (agg:Bool) (x i:aF)
 |field (agg:Bool) (n off:Nat) (x:aF)
 |extract (i:Nat) (x:aF)
 |call (ro:Bool) (f:FuncId) (args:List aF)
 |ko (ro:Bool) (x:aF) (args:List aF)
 |rM (f:FuncId) (args:List aF)
 |wv (f:FuncId) (args:List aF)
 |wx (f:FuncId) (args:List aF)
 |rQ (ro:Bool) (zss:List (List AV)) (f:FuncId) (args:List aF)
 |append (es:Nat) (x y:aF)
 |vY (es:Nat) (x y:aF)
 |vX (es:Nat) (x y:aF)
 |rG (es:Nat) (x y h:aF)
 |sL (es:Nat) (x:aF)
 |clear (zs:List AV) (x:aF)
 |td (f:FuncId) (args:List aF)
 |qt (f:FuncId) (args:List aF) (ws:List (Bool×Nat×Nat))
 |copy (x y:aF)
 |yg (es:Nat) (row:List AV) (t:Nat)
 |len (str:Bool) (x:aF)
 |BM (n:Nat)
 |GB (mx:Bool) (xs:List aF)
 |lO (n:Nat)
 |slot (back:Nat) (zs:List AV)
 |gd (res:Nat) (agg:Bool) (n:Nat) (x:aF)
 |jU (agg:Bool) (n:Nat) (x:aF)
 |fill (back n:Nat) (x y:aF)
structure bA where
 dst:Option Nat
 guard:Option (Nat×Bool)
 op:cj
inductive c8 where
 |normal
 |exit (id:Nat)
 |ret
inductive au where
 |skip
 |region (drawn:Bool) (ops:List bA)
 |seq (a b:au)
 |cond (c:aF) (a b:au)
 |block (id:Nat) (a:au)
 |loop (a:au)
 |rangeFunc (f:aF) (params:List Nat) (assign body:au)
 |exit (id:Nat)
 |ret
structure Rec where
 boxes:List (List AV)
 toks:List (Option Nat)
structure dA where
 ready:Bool
 eI:Option c8
 tmps:Nat→AV
 params:List Nat
 assign:au
 body:au
structure ae where
 ag:List Rec
 loops:List dA
 ro:Nat
 bg:Nat
structure St where
 tmps:Nat→AV
 sig:ae
inductive Target where
 |fn (f:FuncId)
 |yield (l:Nat)
 |inl (f:FuncId)
 |nat (f:FuncId)
abbrev aW:=Target→List AV→ae→Option (AV×ae)
inductive iE where
 |tmp (t:Nat)
 |cell (agg:Bool) (n:Nat) (t:Nat)
inductive aI where
 |code (np ntmps:Nat) (body:au) (results:List iE) (own:Bool)
 |rh (F:List AV→Option AV)
 |nat (F:List AV→Option AV)
def ae.push (s:ae) (r:Rec):ae:={s with ag:=s.ag++[r]}
def ae.pop (s:ae):ae:={s with ag:=s.ag.dropLast}
def ae.cur (s:ae):Nat:=s.ag.length-1
def ae.box (s:ae) (d b:Nat):Option (List AV):=(s.ag[d]?).bind (·.boxes[b]?)
def ae.tok (s:ae) (d g:Nat):Option Nat:=((s.ag[d]?).bind (·.toks[g]?)).join
def ae.jW (s:ae) (d:Nat):Nat:=match s.ag[d]? with|some r=>r.toks.length|none=>0
def ae.lJ (s:ae) (d:Nat):Bool:=match s.ag[d]? with|some r=>r.toks.any Option.isNone|none=>false
def ae.bN (s:ae) (d:Nat):Nat:=match s.ag[d]? with|some r=>r.boxes.length|none=>0
def ae.br (s:ae) (d:Nat) (f:Rec→Rec):ae:={s with ag:=s.ag.modify d f}
def ae.dG (s:ae) (d b:Nat) (cs:List AV):ae:=s.br d fun r=>{r with boxes:=r.boxes.set b cs}
def ae.mz (s:ae) (d g:Nat) (n:Option Nat):ae:=s.br d fun r=>{r with toks:=r.toks.set g n}
def ae.lg (s:ae) (d n:Nat):ae:=s.br d fun r=>{r with toks:=r.toks++[some n]}
def ae.js (s:ae) (d:Nat) (cs:List AV):ae:=s.br d fun r=>{r with boxes:=r.boxes++[cs]}
def ae.row (m:ae):AV→Option (List AV×Nat)
 |.ptr d b off=>(m.box d b).map fun cs=>(cs,off)
 |.bo cs off=>some (cs,off)
 |_=>none
def part (agg:Bool) (n:Nat) (cs:List AV) (off:Nat):Option AV:=
 if agg then(if off+n≤cs.length then some (.agg ((cs.drop off).take n))else none)else cs[off]?
def ae.load (m:ae) (agg:Bool) (n:Nat) (x:AV):Option AV:=
 (m.row x).bind fun(cs,off)=>part agg n cs off
def setCells (cs:List AV) (off:Nat):List AV→List AV
 |[]=>cs
 |x::r=>setCells (cs.set off x) (off+1) r
def ae.fit (m:ae) (d:Nat):AV→Option (AV×ae)
 | .slice (.tok d' g) es xs =>
  if d'≤d then some (.slice (.tok d' g) es xs,m)
  else if d'=m.cur∧m.tok d' g=some xs.length then
   some (.slice (.tok d (m.jW d)) es xs,(m.mz d' g none).lg d xs.length)
  else some (.slice .any es xs,m)
 |.ptr d' b off=>if d'≤d then some (.ptr d' b off,m)else none
 |.aN d' b off es n cap=>if d'≤d then some (.aN d' b off es n cap,m)else none
 |x=>x.close.map (·,m)
def ae.fitAll (m:ae) (d:Nat):List AV→Option (List AV×ae)
 |[]=>some ([],m)
 | x :: r => match m.fit d x with
  |none=>none
  |some (y,m1)=>match m1.fitAll d r with
   |none=>none
   |some (s,m2)=>some (y::s,m2)
def ae.store (m : ae) (n : Nat) (x y : AV) : Option ae :=
 match x with
 | .ptr d b off =>
  if m.ro≤d∧y.cells.length=n∧y.cells.all AV.bu=true then
   match(if d=m.cur then some (y.cells,m)else m.fitAll d y.cells)with
   |none=>none
   |some (cs,m1)=>match m1.box d b with
    |none=>none
    |some row=>if off+n≤row.length then some (m1.dG d b (setCells row off cs))else none
  else none
 |_=>none
def ae.dF (m:ae) (cs:List AV):AV×ae:=(.ptr m.cur (m.bN m.cur) 0,m.js m.cur cs)
def sx (op:BinOp) (k:IntKind) (x y:Int):Option Value:=
 match op with
 |.add=>some (.int k (k.wrap (x+y)))
 |.sub=>some (.int k (k.wrap (x-y)))
 |.mul=>some (.int k (k.wrap (x*y)))
 |.quo=>if y=0 then none else some (.int k (k.wrap (x.tdiv y)))
 |.rem=>if y=0 then none else some (.int k (x.tmod y))
 |.and=>some (.int k (k.wrap (BitVec.ofInt k.bits x&&&BitVec.ofInt k.bits y).toNat))
 |.or=>some (.int k (k.wrap (BitVec.ofInt k.bits x|||BitVec.ofInt k.bits y).toNat))
 |.xor=>some (.int k (k.wrap (BitVec.ofInt k.bits x^^^BitVec.ofInt k.bits y).toNat))
 |.andNot=>some (.int k (k.wrap (BitVec.ofInt k.bits x&&&~~~(BitVec.ofInt k.bits y)).toNat))
 |.eql=>some (.bool (x==y))
 |.neq=>some (.bool (x != y))
 |.lss=>some (.bool (x<y))
 |.leq=>some (.bool (x≤y))
 |.gtr=>some (.bool (x>y))
 |.geq=>some (.bool (x≥y))
 |_=>none
def tU (op:BinOp) (k:IntKind) (x y:Int):Option Value:=
 if y<0 then none else
 match op with
 |.shl=>some (.int k (k.wrap (x*2^min y.toNat k.bits)))
 |.shr=>some (.int k (x.fdiv (2^min y.toNat k.bits)))
 |_=>none
def sN (op:BinOp) (x y:ByteArray):Option Value:=
 match op with
 |.add=>if((x.size+y.size:Nat):Int)>IntKind.i64.max then none else some (.string (x++y))
 |.eql=>some (.bool (x.data.toList==y.data.toList))
 |.neq=>some (.bool !(x.data.toList==y.data.toList))
 |.lss=>some (.bool (Op.bytesLess x.data.toList y.data.toList))
 |.leq=>some (.bool (Op.bytesLess x.data.toList y.data.toList||x.data.toList==y.data.toList))
 |.gtr=>some (.bool !(Op.bytesLess x.data.toList y.data.toList||x.data.toList==y.data.toList))
 |.geq=>some (.bool !(Op.bytesLess x.data.toList y.data.toList))
 |_=>none
def qe:BinOp→Bool
 |.shl|.shr=>true
 |_=>false
def dC (op:BinOp):AV→AV→Option AV
 |.v (.int k a),.v (.int k' b)=>
  if qe op then(tU op k a b).map .v else if k=k' then(sx op k a b).map .v else none
 |.v (.string a),.v (.string b)=>(sN op a b).map .v
 |_,_=>none
def NQ:PK→AV→AV→Option Bool
 |.int,.v (.int k a),.v (.int k' b)=>if k=k' then some (a==b)else none
 |.bool,.v (.bool a),.v (.bool b)=>some (a==b)
 |.str,.v (.string a),.v (.string b)=>some (a.data.toList==b.data.toList)
 |_,_,_=>none
def Fh:List PK→List AV→List AV→Option Bool
 |[],[],[]=>some true
 |k::ks,x::r,y::s=>match NQ k x y with
  |some true=>Fh ks r s
  |some false=>some false
  |none=>none
 |_,_,_=>none
def PU:AV→Option Bool
 |.slice .aA _ _=>some true
 |.slice _ _ _=>some false
 |.aN .. =>some false
 |_=>none
def PT:AV→Option Bool
 |.v (.pointer none)=>some true
 |.ptr .. =>some false
 |.bo .. =>some false
 |_=>none
def PS:AV→Option Bool
 |.v .nilIface=>some true
 |.iface .. =>some false
 |.zA=>some false
 |_=>none
def PR:AV→Option Bool
 |.v .nilFunc=>some true
 |.fn .. =>some false
 |.yield .. =>some false
 |_=>none
def yz (f:AV→Option Bool) (x y:AV):Option Bool:=
 match f x,f y with
 |some true,some b=>some b
 |some b,some true=>some b
 |_,_=>none
def pS (k:Hd) (x y:AV):Option Bool:=
 match k with
 |.bool=>match x,y with
  |.v (.bool a),.v (.bool b)=>some (a==b)
  |_,_=>none
 |.agg ks=>match x,y with
  |.agg a,.agg b=>Fh ks a b
  |_,_=>none
 |.ptr=>yz PT x y
 |.iface=>yz PS x y
 |.slice=>yz PU x y
 |.func=>yz PR x y
def unOp (op:UnOp):AV→Option AV
 |.v (.bool b)=>match op with|.not=>some (.v (.bool !b))|_=>none
 |.v (.int k n)=>match op with|.neg=>some (.v (.int k (k.wrap (0-n))))|_=>none
 |_=>none
def byteCells (s:ByteArray):List (List AV):=s.data.toList.map fun b=>[.v (.int .u8 b.toNat)]
def byteOf:List AV→Option UInt8
 |[.v (.int .u8 n)]=>if 0≤n∧n<256 then some (UInt8.ofNat n.toNat)else none
 |_=>none
def bytesOf:List (List AV)→Option (List UInt8)
 |[]=>some []
 |x::r=>match byteOf x,bytesOf r with
  |some b,some s=>some (b::s)
  |_,_=>none
def mM (k:Hc):AV→Option AV
 |.v (.int _ n)=>match k with|.int k'=>some (.v (.int k' (k'.wrap n)))|_=>none
 |.v (.string s)=>match k with
  |.same=>some (.v (.string s))
  |.bytes=>some (.slice .any 1 (byteCells s))
  |_=>none
 |.slice _ _ xs=>match k with
  |.text=>(bytesOf xs).map fun l=>.v (.string ⟨l.toArray⟩)
  |_=>none
 |_=>none
def asNat (x:AV) (di:Nat):Option Nat:=
 match x with
 |.v (.int _ n)=>if 0≤n∧n≤di then some n.toNat else none
 |_=>none
def chunks (es:Nat):Nat→List AV→List (List AV)
 |0,_=>[]
 |n+1,cs=>cs.take es::chunks es n (cs.drop es)
def GY (o:Own) (whole:Bool):Own:=
 match o with
 |.aA=>.aA
 |.tok d g=>if whole then .tok d g else .any
 |.full=>.any
 |_=>.any
def kC (lo:Option AV) (h:Nat):Option Nat:=
 match lo with
 |some l=>asNat l h
 |none=>some 0
def lB (hi:Option AV) (full:Bool) (m len:Nat):Option Nat:=
 match hi with
 |some h=>asNat h m
 |none=>if full then none else some len
def qY (mx:Option AV) (cap:Nat):Option Nat:=
 match mx with
 |some m=>asNat m cap
 |none=>some cap
def xE (o:Own) (full whole all:Bool):Own:=
 if full then(if o.isNil then .aA else if all then .full else .any)else GY o whole
def iU (k : Cy) (x : AV) (lo hi mx : Option AV) : Option AV :=
 match k,x with
 |.str,.v (.string s)=>
  if mx.isSome then none else
  (lB hi false s.size s.size).bind fun h=>(kC lo h).map fun l=>.v (.string (s.extract l h))
 | .sl e0, .slice o es xs =>
  if o.isNil=true∨es=e0 then
   (qY mx xs.length).bind fun m=>(lB hi mx.isSome m xs.length).bind fun h=>(kC lo h).map fun l=>
    .slice (xE o mx.isSome (l==0&&h==xs.length) (h==m&&0<m)) es ((xs.take h).drop l)
  else none
 | .sl e0, .aN d b off es n cap =>
  if es=e0 then
   (qY mx (max n cap)).bind fun m=>(lB hi mx.isSome m n).bind fun h=>(kC lo h).map fun l=>
    .aN d b (if m=l then off else off+l*es) es (h-l) (m-l)
  else none
 |.arr n es,.ptr d b off=>
  if mx.isSome then none else
  (lB hi false n n).bind fun h=>(kC lo h).map fun l=>.aN d b (if n=l then off else off+l*es) es (h-l) (n-l)
 | .arr n es, .bo cs off =>
  if mx.isSome then none else
  (lB hi false n n).bind fun h=>(kC lo h).bind fun l=>
   if off+n*es≤cs.length then some (.slice .any es (chunks es (h-l) (cs.drop (off+l*es))))else none
 |_,_=>none
def idx (x:AV) (len:Nat):Option Nat:=
 match x with
 |.v (.int _ n)=>if 0≤n∧n<len then some n.toNat else none
 |_=>none
def jS (arr:Option Nat) (es:Nat) (x i:AV):Option AV:=
 match arr,x with
 |none,.slice _ e1 xs=>if e1=es then(idx i xs.length).bind fun j=>(xs[j]?).map fun r=>.bo r 0 else none
 |none,.aN d b off e1 n _=>if e1=es then(idx i n).map fun j=>.ptr d b (off+j*es)else none
 |some n,.ptr d b off=>(idx i n).map fun j=>.ptr d b (off+j*es)
 |some n,.bo cs off=>(idx i n).map fun j=>.bo cs (off+j*es)
 |_,_=>none
def AU (cs:List AV) (off size:Nat) (x:AV):Option (List AV):=
 if x.cells.length=size∧off+size≤cs.length∧x.cells.all AV.bu=true then some (setCells cs off x.cells)else none
def BP (mx:Bool):AV→AV→Option AV
 |.v (.int k x),.v (.int k' y)=>if k=k' then some (.v (.int k (if mx then(if y>x then y else x)else(if y<x then y else x))))else none
 |_,_=>none
def xt (mx:Bool) (x:AV):List AV→Option AV
 |[]=>some x
 |y::r=>match BP mx x y with
  |some z=>xt mx z r
  |none=>none
def di:Nat:=4294967296
def ej (m:ae) (es:Nat) (x y:AV):Option (AV×ae):=
 match x,y with
 | .slice o e1 xs, .slice _ e2 ys =>
  if ys.isEmpty then some (x,m)else
  if e2=es∧(o.isNil=true∨e1=es)∧xs.length+ys.length≤di then
   match o with
   |.aA|.full=>some (.slice (.tok m.cur (m.jW m.cur)) es (xs++ys),m.lg m.cur (xs.length+ys.length))
   |.tok d g=>if m.ro≤d∧m.tok d g=some xs.length then some (.slice (.tok d g) es (xs++ys),m.mz d g (some (xs.length+ys.length)))else none
   |_=>none
  else none
 |_,_=>none
def ae.KX (m:ae) (b:Nat) (cs:List AV):ae:=(m.br m.cur fun r=>{r with boxes:=r.boxes.set b []++[cs],toks:=r.toks++[none]})
def vZ (m : ae) (es : Nat) (x y : AV) : Option (AV × ae) :=
 match y with
 | .slice _ e2 ys =>
  if ys.isEmpty then(match x with|.slice .. |.aN .. =>some (x,m)|_=>none)else
  if e2 = es then
   match x with
   | .slice o e1 xs =>
    if(o.isNil=true∨(o.isFull=true∧e1=es))∧xs.length+ys.length≤di then
     some (.aN m.cur (m.bN m.cur) 0 es (xs.length+ys.length) 0,(m.dF (xs.flatten++ys.flatten)).2)
    else none
   | .aN d b off e1 n cap =>
    if d=m.cur∧off=0∧cap=0∧0<n∧e1=es∧n+ys.length≤di then
     match m.box d b with
     |some cs=>if cs.length=n*es then some (.aN m.cur (m.bN m.cur) 0 es (n+ys.length) 0,m.KX b (cs++ys.flatten))else none
     |none=>none
    else none
   |_=>none
  else none
 |_=>none
def x4 (m:ae) (es:Nat) (x y:AV):Option (AV×ae):=
 match x,y with
 |.slice o e1 xs,.slice _ e2 ys=>
  if(xs.flatten++ys.flatten).isEmpty=true∧ys.isEmpty=false then none
  else if xs=[]∧o.isFull=true∧e1=es∧e2=es∧di<ys.length∧ys.length*(8*es)≤140737488355328 then some (.aN m.cur (m.bN m.cur) 0 es ys.length 0,(m.dF ys.flatten).2)
  else vZ m es x y
 |_,_=>none
def ae.sI (m:ae) (d b:Nat) (cs:List AV):ae:=m.br d fun r=>{r with boxes:=r.boxes.set b []++[cs],toks:=r.toks++[none]}
def ae.zH (m:ae) (es:Nat):AV→Option (List AV×Nat)
 |.slice _ e2 ys=>if ys.isEmpty=true∨e2=es then some (ys.flatten,ys.length)else none
 |.aN d b off e2 n _=>if d=m.cur∧e2=es then(m.box d b).bind fun cs=>if off+n*es≤cs.length then some ((cs.drop off).take (n*es),n)else none else none
 |_=>none
def qq (m : ae) (es : Nat) (x y h : AV) : Option (AV × ae) :=
 match h with
 | .ptr d _ _ =>
  (m.zH es y).bind fun p=>
  if p.2=0 then(match x with|.slice .. |.aN .. =>some (x,m)|_=>none)else
  if m.ro ≤ d ∧ d ≤ m.cur ∧ (d = m.cur ∨ p.1.all AV.iT = true) then
   match x with
   | .slice o e1 xs =>
    if xs.isEmpty=true∧(o.isNil=true∨(o.isFull=true∧e1=es))∧p.2≤di then
     some (.aN d (m.bN d) 0 es p.2 0,m.js d p.1)
    else none
   | .aN d1 b off e1 n cap =>
    if d1=d∧off=0∧cap=0∧0<n∧e1=es∧n+p.2≤di then
     match m.box d b with
     |some cs=>if cs.length=n*es then some (.aN d (m.bN d) 0 es (n+p.2) 0,m.sI d b (cs++p.1))else none
     |none=>none
    else none
   |_=>none
  else none
 |_=>none
def ri (m:ae) (es:Nat) (y:AV):Option (AV×ae):=
 if y.cells.length=es∧y.cells.all AV.bu=true∧0<es then some (.aN m.cur (m.bN m.cur) 0 es 1 1,(m.dF y.cells).2)else none
def wz (m:ae) (zs:List AV):AV→Option (AV×ae)
 |.slice _ _ xs=>if xs.isEmpty then some (.tuple [],m)else none
 |.aN d b off es n _=>if n=0 then some (.tuple [],m)else if es=zs.length then(m.store (n*es) (.ptr d b off) (.agg (List.replicate n zs).flatten)).map (.tuple [],·)else none
 |_=>none
def mL (rows:List (List AV)) (ρ:aF→AV):List (Nat×aF)→Option (List (List AV))
 |[]=>some rows
 |(i,x)::r=>match rows[i]?,closeAll (ρ x).cells with
  |some row,some cs=>if cs.length=row.length then mL (rows.set i cs) ρ r else none
  |_,_=>none
def ae.G0 (m:ae):AV→Option (List AV)
 |.slice _ e xs=>if e=1∨xs.isEmpty=true then some xs.flatten else none
 |.aN d b off e n _=>if e=1 then(m.box d b).bind fun cs=>if off+n≤cs.length then some ((cs.drop off).take n)else none else none
 |_=>none
def AN (m:ae) (x y:AV):Option (AV×ae):=
 match x with
 |.slice _ _ []=>(m.G0 y).map fun _=>(AV.int 0,m)
 | .aN d b off e n _ => if e = 1 then (m.G0 y).bind fun ys =>
   if(ys.take n).isEmpty then some (AV.int 0,m)else(m.store (ys.take n).length (.ptr d b off) (.agg (ys.take n))).map (AV.int (ys.take n).length,·)else none
 |_=>none
def ae.kill (m:ae) (b:Nat):ae:=m.br m.cur fun r=>{r with boxes:=r.boxes.set b [],toks:=r.toks++[none]}
def AY (m:ae):AV→Option (AV×ae)
 |.aN d b off es n _=>if d=m.cur then(m.box d b).bind fun cs=>if cs.isEmpty=true then none else if off+n*es≤cs.length then(closeAll cs).map fun cs'=>(.slice .any es (chunks es n (cs'.drop off)),m.kill b)else none else none
 |.slice o es xs=>some (.slice o es xs,m)
 |_=>none
def yh (m:ae) (es:Nat) (row:List AV) (x:AV):Option (AV×ae):=
 (AY m x).bind fun p=>(mL [row] (fun _=>p.1) [(0,.const AV.undef)]).map fun rs=>(.slice .full es rs,p.2)
def qw (ρ:aF→AV):Option aF→Option AV
 |none=>none
 |some x=>some (ρ x)
def dK (call:aW) (ro:Bool) (m:ae) (t:Target) (args:List AV):Option (AV×ae):=
 if ro then(call t args {m with ro:=m.ag.length,bg:=m.loops.length}).map fun p=>(p.1,m)
 else call t args m
open Classical in
noncomputable def oP (call:aW) (m:ae) (t:Target) (args:List AV) (ws:List (Bool×Nat×AV)):Option (AV×ae):=
 match call t args m with
 |some (v,m')=>if∀q,q∈ws→m'.load q.1 q.2.1 q.2.2=m.load q.1 q.2.1 q.2.2 then some (v,m')else none
 |none=>none
def ns (cs:List AV) (ρ:aF→AV):List (Nat×Nat×aF)→Option (List AV)
 |[]=>some cs
 |(off,size,x)::r=>match AU cs off size (ρ x)with
  |some cs'=>ns cs' ρ r
  |none=>none
def BY (off:Nat):AV→Option AV
 |.ptr d b o=>some (.ptr d b (o+off))
 |.bo cs o=>some (.bo cs (o+off))
 |_=>none
def zw:AV→Option AV
 |.ptr d b off=>some (.ptr d b off)
 |.bo cs off=>some (.bo cs off)
 |.fn f a b=>some (.fn f a b)
 |.yield l=>some (.yield l)
 |.iface t x=>some (.iface t x)
 |_=>none
def BF:AV→AV→Option AV
 |.v (.string s),j=>(idx j s.size).bind fun k=>(s[k]?).map fun b=>.v (.int .u8 b.toNat)
 |_,_=>none
def Gs (n es:Nat) (agg:Bool):AV→AV→Option AV
 |.agg cs,j=>(idx j n).bind fun k=>part agg es cs (k*es)
 |_,_=>none
def Fl (agg:Bool) (n off:Nat):AV→Option AV
 |.agg cs=>part agg n cs off
 |_=>none
def yA (i:Nat):AV→Option AV
 |.tuple vs=>vs[i]?
 |_=>none
def mm (str:Bool):AV→Option AV
 |.slice _ _ xs=>if str then none else some (AV.int xs.length)
 |.aN _ _ _ _ n _=>if str then none else some (AV.int n)
 |.v (.string s)=>if str then some (AV.int s.size)else none
 |_=>none
def GJ (c a b:AV):Option AV:=
 match c with
 |.v (.bool t)=>some (if t then a else b)
 |_=>none
def Km (t:TypeId) (x:AV):Option AV:=
 match x with
 |.agg cs=>(closeAll cs).map fun cs'=>.iface t (.agg cs')
 |x=>if x.iT then some (.iface t x)else none
def yf (m:ae) (n:Nat) (y:AV):Option (AV×ae):=
 if y.cells.length=n∧y.cells.all AV.bu=true∧0<n then some (m.dF y.cells)else none
def BS (m:ae) (es:Nat) (zs:List AV) (l c:AV):Option (AV×ae):=
 (asNat c di).bind fun cn=>(asNat l cn).map fun ln=>if(List.replicate cn zs).flatten.isEmpty then(.slice .full es [],m)else(.aN m.cur (m.bN m.cur) 0 es ln cn,(m.dF (List.replicate cn zs).flatten).2)
def GC (m:ae) (es:Nat) (zs:List AV) (l c:AV):Option (AV×ae):=
 (asNat c di).bind fun cn=>(asNat l cn).bind fun ln=>if(List.replicate cn zs).flatten.isEmpty=true∨ln≠cn then none else some (.aN m.cur (m.bN m.cur) 0 es cn 0,(m.dF (List.replicate cn zs).flatten).2)
def ae.lO (m:ae) (n:Nat):ae:=m.br m.cur fun r=>{r with boxes:=r.boxes++List.replicate n []}
def mA (m:ae) (back:Nat) (zs:List AV):Option (AV×ae):=
 match m.box m.cur (m.bN m.cur-back)with
 |some []=>if zs.isEmpty=true∨m.lJ m.cur=true then none else some (.ptr m.cur (m.bN m.cur-back) 0,m.dG m.cur (m.bN m.cur-back) zs)
 |_=>none
def xq (m:ae) (res:Nat) (agg:Bool) (n:Nat) (x:AV):Option AV:=
 match x with
 |.ptr d b off=>if d=m.cur∧m.bN m.cur≤b+res then none else m.load agg n (.ptr d b off)
 |x=>m.load agg n x
def ae.yw (m:ae) (b:Nat):Bool:=match m.ag[m.cur]? with|some r=>(r.boxes.drop (b+1)).any List.isEmpty|none=>false
def zq (m:ae) (agg:Bool) (n:Nat) (x:AV):Option AV:=
 match x with
 |.ptr d b off=>if d=m.cur∧m.yw b=false then none else m.load agg n (.ptr d b off)
 |x=>m.load agg n x
def yC (m:ae) (back n:Nat) (x y:AV):Option ae:=
 match x with
 |.ptr d b off=>if d=m.cur∧b=m.bN m.cur-back∧0<back then m.store n (.ptr d b off) y else none
 |_=>none
def sC (mx:Bool):List AV→Option AV
 |x::r=>xt mx x r
 |[]=>none
def lV (call:aW) (ro:Bool) (m:ae) (x:AV) (args:List AV):Option (AV×ae):=
 match x with
 |.fn f first caps=>dK call ro m (.fn f) (first++args++caps)
 |.yield l=>dK call ro m (.yield l) args
 |_=>none
def ml (m:ae):List AV→Option (List AV)
 |[]=>some []
 | .ptr d b off :: r => if d = m.cur then
   match(m.box d b).bind closeAll,ml m r with
   |some cs,some s=>some (.bo cs off::s)
   |_,_=>none
  else none
 |x::r=>if x.iT then(ml m r).map (x::·)else none
def oj (m:ae):AV→Option AV
 |.aN d b off es n _=>if d=m.cur then(m.box d b).bind fun cs=>if off+n*es≤cs.length then(closeAll cs).map fun cs'=>.slice .any es (chunks es n (cs'.drop off))else none else none
 |x=>x.close
def j6 (m:ae):List AV→Option (List AV)
 |[]=>some []
 |x::r=>match oj m x,j6 m r with
  |some y,some s=>some (y::s)
  |_,_=>none
def eD (m:ae):AV→Option AV
 |.slice (.tok _ _) es xs=>some (.slice .any es xs)
 |.ptr d b off=>if d=m.cur then(m.box d b).bind fun cs=>(closeAll cs).map fun cs'=>.bo cs' off else some (.ptr d b off)
 |.aN d b off es n cap=>if d=m.cur then(m.box d b).bind fun cs=>if off+n*es≤cs.length then((closeAll cs).or (j6 m cs)).map fun cs'=>.slice .any es (chunks es n (cs'.drop off))else none else some (.aN d b off es n cap)
 |.fn f first caps=>if first.all AV.vk then(ml m caps).map (.fn f first ·)else none
 |x=>x.close
def py (m:ae):List AV→Option (List AV)
 |[]=>some []
 |x::r=>match eD m x,py m r with
  |some y,some s=>some (y::s)
  |_,_=>none
def ed (m:ae):AV→Option AV
 |.agg cs=>(py m cs).map .agg
 |x=>eD m x
def kD (m:ae):AV→Option (AV×ae)
 | .slice (.tok d g) es xs =>
  if d=m.cur∧1≤d∧m.ro<d∧m.tok d g=some xs.length then
   some (.slice (.tok (d-1) (m.jW (d-1))) es xs,m.pop.lg (d-1) xs.length)
  else some (.slice .any es xs,m.pop)
 | .aN d b off es n cap =>
  if d=m.cur∧1≤d∧m.ro<d∧off=0∧cap=0∧0<n then
   (m.box d b).bind fun cs=>if cs.isEmpty=false∧cs.length=n*es then(closeAll cs).map fun cs'=>(.aN (d-1) (m.bN (d-1)) 0 es n 0,m.pop.js (d-1) cs')else none
  else(ed m (.aN d b off es n cap)).map (·,m.pop)
 |x=>(ed m x).map (·,m.pop)
def kL (call:aW) (m:ae) (f:FuncId) (args:List AV):Option (AV×ae):=
 match call (.fn f) args {m.push ⟨[],[]⟩with ro:=m.ag.length,bg:=m.loops.length}with
 |some (.slice (.tok d g) es xs,s)=>
  if d=m.ag.length∧1≤m.ag.length∧m.ro<m.ag.length∧s.tok d g=some xs.length then some (.slice (.tok m.cur (m.jW m.cur)) es xs,m.lg m.cur xs.length)
  else some (.slice .any es xs,m)
 |some (.aN ..,_)=>none
 |some (x,s)=>(ed s x).map (·,m)
 |none=>none
def lU (call:aW) (m:ae) (f:FuncId) (args:List AV):Option (AV×ae):=
 match call (.fn f) args {m.push ⟨[],[]⟩with ro:=m.ag.length,bg:=m.loops.length}with
 | some (.aN d b off es n cap, s) =>
  if d=m.ag.length∧1≤m.ag.length∧m.ro<m.ag.length∧off=0∧cap=0∧0<n then
   (s.box d b).bind fun cs=>if cs.isEmpty=false∧cs.length=n*es then(closeAll cs).map fun cs'=>(.aN m.cur (m.bN m.cur) 0 es n 0,(m.dF cs').2)else none
  else(ed s (.aN d b off es n cap)).map (·,m)
 |some (.slice (.tok _ _) _ _,_)=>none
 |some (x,s)=>(ed s x).map (·,m)
 |none=>none
def ae.tail (m:ae) (r:Nat):List (List AV):=match m.ag[m.cur]? with
 |some q=>q.boxes.drop (q.boxes.length-r)
 |none=>[]
def ae.jm (m:ae) (r:Nat) (bx:List (List AV)):ae:=m.br m.cur fun q=>{q with boxes:=q.boxes.take (q.boxes.length-r)++bx}
def qz:List (List AV)→List (List (List AV))
 |[]=>[[]]
 |z::r=>(qz r).map ([]::·)++(qz r).map (z::·)
open Classical in
noncomputable def nw (call:aW) (ro:Bool) (m:ae) (zss:List (List AV)) (t:Target) (args:List AV):Option (AV×ae):=
 match dK call ro m t args with
 |some (v,m')=>if m.tail zss.length∈qz zss∧(∀bx,bx∈qz zss→dK call ro (m.jm zss.length bx) t args=some (v,m'.jm zss.length bx))∧m'.ag.length=m.ag.length∧m'.bN m.cur=m.bN m.cur∧m'.tail zss.length=m.tail zss.length∧(ro=true→m'=m)∧(m'.lJ m.cur=false→m.lJ m.cur=false)then some (v,m')else none
 |none=>none
noncomputable def aM (call:aW) (ρ:aF→AV) (m:ae):cj→Option (AV×ae)
 |.move x=>some (ρ x,m)
 |.pick c a b=>(GJ (ρ c) (ρ a) (ρ b)).map (·,m)
 |.alloc zs=>if zs.isEmpty then none else some (m.dF zs)
 |.box n x=>yf m n (ρ x)
 |.build zs parts=>(ns zs ρ parts).map fun cs=>(.agg cs,m)
 |.buildSlice es rows parts=>(mL rows ρ parts).map fun rs=>(.slice .full es rs,m)
 |.load agg n x=>(m.load agg n (ρ x)).map (·,m)
 |.store n x y=>(m.store n (ρ x) (ρ y)).map (AV.undef,·)
 |.nilCheck x=>(zw (ρ x)).map (·,m)
 |.arith op x y=>(dC op (ρ x) (ρ y)).map (·,m)
 |.eqv neg k x y=>(pS k (ρ x) (ρ y)).map fun t=>(.v (.bool (if neg then !t else t)),m)
 |.un op x=>(unOp op (ρ x)).map (·,m)
 |.conv k x=>(mM k (ρ x)).map (·,m)
 |.KA t x=>(Km t (ρ x)).map (·,m)
 |.oG f first caps=>if(first.map ρ).all AV.vk then some (.fn f (first.map ρ) (caps.map ρ),m)else none
 |.mkSlice es zs len cap=>BS m es zs (ρ len) (ρ cap)
 |.BT es zs len cap=>GC m es zs (ρ len) (ρ cap)
 |.slice k x lo hi mx=>(iU k (ρ x) (qw ρ lo) (qw ρ hi) (qw ρ mx)).map (·,m)
 |.fieldAddr off x=>(BY off (ρ x)).map (·,m)
 |.indexAddr arr es x i=>(jS arr es (ρ x) (ρ i)).map (·,m)
 |.Gt x i=>(BF (ρ x) (ρ i)).map (·,m)
 |.index n es agg x i=>(Gs n es agg (ρ x) (ρ i)).map (·,m)
 |.field agg n off x=>(Fl agg n off (ρ x)).map (·,m)
 |.extract i x=>(yA i (ρ x)).map (·,m)
 |.call ro f args=>dK call ro m (.fn f) (args.map ρ)
 |.ko ro x args=>lV call ro m (ρ x) (args.map ρ)
 |.rM f args=>kL call m f (args.map ρ)
 |.wv f args=>dK call false m (.inl f) (args.map ρ)
 |.wx f args=>dK call true m (.nat f) (args.map ρ)
 |.rQ ro zss f args=>nw call ro m zss (.fn f) (args.map ρ)
 |.append es x y=>ej m es (ρ x) (ρ y)
 |.vY es x y=>vZ m es (ρ x) (ρ y)
 |.vX es x y=>x4 m es (ρ x) (ρ y)
 |.rG es x y h=>qq m es (ρ x) (ρ y) (ρ h)
 |.sL es x=>ri m es (ρ x)
 |.clear zs x=>wz m zs (ρ x)
 |.td f args=>lU call m f (args.map ρ)
 |.qt f args ws=>oP call m (.fn f) (args.map ρ) (ws.map fun q=>(q.1,q.2.1,ρ (.tmp q.2.2)))
 |.copy x y=>AN m (ρ x) (ρ y)
 |.yg es row t=>yh m es row (ρ (.tmp t))
 |.len str x=>(mm str (ρ x)).map (·,m)
 |.BM n=>some (AV.int n,m)
 |.GB mx xs=>(sC mx (xs.map ρ)).map (·,m)
 |.lO n=>some (AV.undef,m.lO n)
 |.slot back zs=>mA m back zs
 |.gd res agg n x=>(xq m res agg n (ρ x)).map (·,m)
 |.jU agg n x=>(zq m agg n (ρ x)).map (·,m)
 |.fill back n x y=>(yC m back n (ρ x) (ρ y)).map (AV.undef,·)
def aE (ρ:Nat→AV):aF→AV
 |.tmp t=>ρ t
 |.const c=>c
def put (t:Nat) (x:AV) (ρ:Nat→AV):Nat→AV:=fun u=>if u=t then x else ρ u
def kF (ρ:Nat→AV) (dst:Option Nat) (x:AV):Nat→AV:=
 match dst with
 |some t=>put t x ρ
 |none=>ρ
def Cj (b:Bool):AV→Bool
 |.v (.bool c)=>c==b
 |_=>false
def kG (ρ:Nat→AV):Option (Nat×Bool)→Bool
 |none=>true
 |some (t,b)=>Cj b (ρ t)
noncomputable def ops (call:aW):List bA→St→Option St
 |[],st=>some st
 | o :: rest, st =>
  if kG st.tmps o.guard then
   match aM call (aE st.tmps) st.sig o.op with
   |some (x,m)=>ops call rest ⟨kF st.tmps o.dst x,m⟩
   |none=>none
  else ops call rest ⟨kF st.tmps o.dst AV.undef,st.sig⟩
def lI (f:St→Option (c8×St)):Nat→St→Option (c8×St)
 |0,_=>none
 |n+1,st=>match f st with
  |some (.normal,aO)=>lI f n aO
  |r=>r
def tT (ρ:Nat→AV):List Nat→List AV→Nat→AV
 |p::ps,x::xs=>tT (put p x ρ) ps xs
 |_,_=>ρ
def jM:List AV→Nat→AV
 |[],_=>AV.undef
 |x::_,0=>x
 |_::r,n+1=>jM r n
def enterLoop (s:ae) (l:dA):ae:={s with loops:=s.loops++[l]}
def xn (s:ae) (l:Nat):Option (Option c8×ae):=
 if s.loops.length=l+1 then
  match s.loops[l]? with
  |some lp=>if lp.ready∨lp.eI.isSome then some (lp.eI,{s with loops:=s.loops.take l})else none
  |none=>none
 else none
noncomputable def exec (call:aW) (lf:Nat):au→St→Option (c8×St)
 |.skip,st=>some (.normal,st)
 |.region _ l,st=>(ops call l st).map (c8.normal,·)
 |.seq a b,st=>match exec call lf a st with
  |some (.normal,aO)=>exec call lf b aO
  |r=>r
 |.cond c a b,st=>match aE st.tmps c with
  |.v (.bool t)=>if t then exec call lf a st else exec call lf b st
  |_=>none
 |.block id a,st=>match exec call lf a st with
  |some (.exit j,aO)=>if j=id then some (.normal,aO)else some (.exit j,aO)
  |r=>r
 |.loop a,st=>lI (exec call lf a) lf st
 | .rangeFunc f ps as body, st =>
  match aE st.tmps f with
  | .fn g first caps =>
   match call (.fn g) (first++.yield st.sig.loops.length::caps) (enterLoop st.sig ⟨true,none,st.tmps,ps,as,body⟩)with
   |some (_,s)=>match xn s st.sig.loops.length with
    |some (e,s1)=>some (e.getD .normal,⟨st.tmps,s1⟩)
    |none=>none
   |none=>none
  |_=>none
 |.exit id,st=>some (.exit id,st)
 |.ret,st=>some (.ret,st)
def sJ (st:St):iE→Option AV
 |.tmp t=>some (st.tmps t)
 |.cell agg n t=>st.sig.load agg n (st.tmps t)
def sK (st:St):List iE→Option (List AV)
 |[]=>some []
 |r::rest=>match(sJ st r).bind (ed st.sig),sK st rest with
  |some x,some s=>some (x::s)
  |_,_=>none
def tQ (st:St):List iE→Option (List AV)
 |[]=>some []
 |r::rest=>match sJ st r,tQ st rest with
  |some x,some s=>some (x::s)
  |_,_=>none
def packed:List AV→AV
 |[x]=>x
 |l=>.tuple l
def eA (s:ae) (l:Nat) (f:dA→dA):ae:={s with loops:=s.loops.modify l f}
def BO (s:ae) (l:Nat):Bool:=match s.loops[l]? with|some p=>p.ready|none=>false
def finish (rs:List iE) (own:Bool) (st:St):Option (AV×ae):=
 if own then
  match rs with
  |[r]=>(sJ st r).bind (kD st.sig)
  |_=>none
 else(sK st rs).map fun l=>(packed l,st.sig.pop)
noncomputable def ja (AP:FuncId→Option aI) (call:aW) (lf:Nat):aW:=fun t args s=>
 match t with
 | .fn f => match AP f with
  | some (.code np _ body rs own) =>
   if args.length=np then
    match exec call lf body ⟨jM args,s.push ⟨[],[]⟩⟩with
    |some (.normal,st)|some (.ret,st)=>finish rs own st
    |_=>none
   else none
  |some (.rh F)=>(closeAll args).bind fun as=>(F as).map (·,s)
  |_=>none
 | .inl f => match AP f with
  | some (.code np _ body rs _) =>
   if args.length=np∧s.ro<s.ag.length then
    match exec call lf body ⟨jM args,s⟩with
    |some (.normal,st)|some (.ret,st)=>(tQ st rs).map fun l=>(packed l,st.sig)
    |_=>none
   else none
  |_=>none
 |.nat f=>match AP f with
  |some (.nat F)=>(closeAll args).bind fun as=>(F as).map (·,s)
  |_=>none
 | .yield l => match s.loops[l]? with
  | some lp =>
   if lp.ready = true ∧ s.bg ≤ l ∧ args.length = lp.params.length then
    match exec call lf lp.assign ⟨tT lp.tmps lp.params args,s.push ⟨[],[]⟩⟩with
    | some (.normal, st) =>
     if BO st.sig l=true then
      match exec call lf lp.body ⟨st.tmps,eA st.sig l fun p=>{p with ready:=false}⟩with
      |some (.normal,aO)=>some (AV.bool true,(eA aO.sig l fun p=>{p with ready:=true,eI:=none}).pop)
      |some (e,aO)=>some (AV.bool false,(eA aO.sig l fun p=>{p with ready:=false,eI:=some e}).pop)
      |none=>none
     else none
    |_=>none
   else none
  |none=>none
noncomputable def eV (AP:FuncId→Option aI):Nat→aW
 |0=>fun _ _ _=>none
 |n+1=>ja AP (eV AP n) n
end Go.Ax
/-
  From the model's code to the abstract executor's: 'comp'. Plain definitions; nothing is claimed here.
-/
namespace Go.Ax
def fH {α β:Type} (f:α→Option β):List α→Option (List β)
 |[]=>some []
 |x::r=>match f x,fH f r with
  |some y,some s=>some (y::s)
  |_,_=>none
def tJ:Value→Option AV
 |.bool b=>some (.v (.bool b))
 |.int k n=>some (.v (.int k n))
 |.string s=>some (.v (.string s))
 |.pointer none=>some (.v (.pointer none))
 |.slice none 0 0=>some (.slice .aA 0 [])
 |.func (.func f) first caps=>if first.size=0∧caps.size=0 then some (.fn f [] [])else none
 |.nilFunc=>some (.v .nilFunc)
 |.nilIface=>some (.v .nilIface)
 |_=>none
def ofValue:Value→Option AV
 |.agg cs=>(fH tJ cs.toList).map .agg
 |x=>tJ x
def dw:Operand→Option aF
 |.tmp t=>some (.tmp t)
 |.const x=>(ofValue x).map .const
 |.func f=>some (.const (.fn f [] []))
 |.global _=>none
def AJ:Option Operand→Option (Option aF)
 |none=>some none
 |some x=>(dw x).map some
def cK (P:Program) (t:TypeId):Option Nat:=(P.info? t).map (·.size)
def yi (P:Program) (t:TypeId):Option Nat:=(P.info? t).map (·.bytes)
def cZ (P:Program) (t:TypeId):Option (List AV):=((P.info? t).bind (·.zero)).bind fun z=>fH tJ z.cells.toList
def tI (P:Program) (t:TypeId):Option Bool:=(P.underlying t).map fun|.struct _|.array _ _=>true|_=>false
def zC (P:Program) (t:TypeId):Option PK:=
 match P.underlying t with
 |some (.int _)=>some .int
 |some .bool=>some .bool
 |some .string=>some .str
 |_=>none
def wB (P:Program) (place:Nat→Option (Nat×Nat)):List (Nat×Operand)→Option (List (Nat×Nat×aF))
 |[]=>some []
 |(i,x)::r=>match place i,dw x,wB P place r with
  |some (off,size),some y,some s=>some ((off,size,y)::s)
  |_,_,_=>none
def uD:List (Nat×Operand)→Option (List (Nat×aF))
 |[]=>some []
 |(i,x)::r=>match dw x,uD r with
  |some y,some s=>some ((i,y)::s)
  |_,_=>none
def Gv:Operand→Bool
 |.const .nilIface=>true
 |_=>false
def Fi:BinOp→Option Bool
 |.eql=>some false
 |.neq=>some true
 |_=>none
def Ff (P:Program) (op:BinOp) (neg:Bool) (t:TypeId) (x y:Operand) (a b:aF):Option cj:=
 match P.underlying t with
 |some .bool=>some (.eqv neg .bool a b)
 |some (.int _)|some .string=>some (.arith op a b)
 |some (.struct fs)=>
  if P.stoodInHeld t=false∧P.eqGuardType P.depth t=false∧fs.toList.all (fun f=>f.name != "_")=true∧fs.toList.map (·.offset)=List.range fs.size
  then(fH (fun f:Field=>zC P f.type) fs.toList).map fun ks=>.eqv neg (.agg ks) a b else none
 |some (.pointer _)=>some (.eqv neg .ptr a b)
 |some (.interface _)=>if Gv x||Gv y then some (.eqv neg .iface a b)else none
 |some (.slice _)=>some (.eqv neg .slice a b)
 |some (.func _ _ _)=>some (.eqv neg .func a b)
 |_=>none
def ND (P:Program) (op:BinOp) (t:TypeId) (x y:Operand):Option cj:=
 match dw x,dw y with
 |some a,some b=>match Fi op with
  |some neg=>Ff P op neg t x y a b
  |none=>some (.arith op a b)
 |_,_=>none
def Fe (P:Program) (src dst:TypeId) (x:aF):Option cj:=
 match P.underlying src,P.underlying dst with
 |some (.int _),some (.int k)=>some (.conv (.int k) x)
 |some .string,some .string=>some (.conv .same x)
 |some .string,some (.slice e)=>match P.underlying e with
  |some (.int .u8)=>some (.conv .bytes x)
  |_=>none
 |some (.slice e),some .string=>match P.underlying e with
  |some (.int .u8)=>some (.conv .text x)
  |_=>none
 |_,_=>none
structure Mu where
 grow:Bool
 flat:List FuncId
 nat:List FuncId
 fresh:Bool:=false
 low:Bool:=false
 only:List Nat:=[]
 rows:Bool:=false
 boxed:List FuncId:=[]
 watch:List FuncId:=[]
 home:Option aF:=none
 ws:List (Bool×Nat×Nat):=[]
def AH (P : Program) (ro own : Bool) (mu : Mu) (fr : Option (List (List AV))) (c : Call) : Option cj :=
 match fH dw c.args.toList with
 |none=>none
 | some as =>
  match c.callee with
  |.value (.func f)=>some (if mu.nat.contains f then .wx f as else if mu.flat.contains f then .wv f as else if mu.boxed.contains f then .td f as else if mu.watch.contains f then .qt f as mu.ws else if ro&&own then .rM f as else match fr with|some zs=>.rQ ro zs f as|none=>.call ro f as)
  |.value x=>(dw x).map fun y=>.ko ro y as
  |.invoke _ _=>none
  | .builtin b =>
   match b,as,c.argTypes.toList with
   | .append, [x, y], [t, u] => match P.underlying t, P.underlying u with
    |some (.slice e),some (.slice _)=>match cK P e,yi P e,cZ P e with
     |some s,some n,some z=>if 0<s∧0<n∧n≤4096∧z.length=s then some (match(if mu.rows then mu.home else none)with|some h=>.rG s x y h|none=>if mu.grow then(if mu.fresh&&decide (n≤8*s)then .vX s x y else .vY s x y)else .append s x y)else none
     |_,_,_=>none
    |_,_=>none
   |.len,[x],[t]=>match P.underlying t with
    |some (.slice _)=>some (.len false x)
    |some .string=>some (.len true x)
    |some (.array n _)=>some (.BM n)
    |_=>none
   | .copy, [x, y], [t, _] => match P.underlying t with
    |some (.slice e)=>match cK P e with
     |some 1=>some (.copy x y)
     |_=>none
    |_=>none
   | .clear, [x], [t] => match P.underlying t with
    |some (.slice e)=>match cK P e,cZ P e with
     |some s,some z=>if 0<s∧z.length=s then some (.clear z x)else none
     |_,_=>none
    |_=>none
   |.max,_,_=>some (.GB true as)
   |.min,_,_=>some (.GB false as)
   |_,_,_=>none
def YQ (P:Program) (mu:Bool) (e:TypeId) (len:Nat):List (Nat×Operand)→Option Nat
 |[(i,.tmp t)]=>match P.underlying e with
  |some (.slice _)=>if mu=true∧len=1∧i=0 then some t else none
  |_=>none
 |_=>none
def YP (rows:Bool) (len:Nat):List (Nat×aF)→Option aF
 |[(i,x)]=>if rows=true∧len=1∧i=0 then some x else none
 |_=>none
structure Md where
 ro:Bool
 own:Bool
 slot:Option Nat
 res:Option Nat
 fill:Option Nat
 mu:Mu
 fr:Option (List (List AV))
def gR (P : Program) (md : Md) : Op → Option cj
 |.move x|.assign x=>(dw x).map .move
 |.pick c a b=>match dw c,dw a,dw b with
  |some c,some a,some b=>some (.pick c a b)
  |_,_,_=>none
 |.alloc e=>match md.slot with
  |none=>(cZ P e).map .alloc
  |some b=>(cZ P e).map (.slot b)
 |.box e x=>match cK P e,dw x with
  |some n,some y=>some (.box n y)
  |_,_=>none
 | .build t parts => match cZ P t, P.underlying t with
  | some z, some (.struct fs) => if fs.toList.all (fun f => (cK P f.type).isSome) = true then (wB P (fun i => match fs[i]? with
    |some f=>(cK P f.type).map fun s=>(f.offset,s)
    |none=>none) parts.toList).map (.build z ·)else none
  |some z,some (.array _ e)=>match cK P e with
   |some s=>(wB P (fun i=>some (i*s,s)) parts.toList).map (.build z ·)
   |none=>none
  |_,_=>none
 | .buildSlice t len parts => match P.underlying t with
  |some (.slice e)=>match cK P e,cZ P e,uD parts.toList with
   |some s,some z,some ps=>if len*s≤2^24∧z.length=s∧0<s then some (match YP md.mu.rows len ps with|some x=>.sL s x|none=>match YQ P md.mu.grow e len parts.toList with|some t=>.yg s z t|none=>.buildSlice s (List.replicate len z) ps)else none
   |_,_,_=>none
  |_=>none
 |.load t x=>match tI P t,cK P t,dw x with
  |some g,some n,some y=>some (match md.res with|none=>if md.mu.low then .jU g n y else .load g n y|some r=>.gd r g n y)
  |_,_,_=>none
 |.store t x y=>match cK P t,dw x,dw y with
  |some n,some a,some b=>some (match md.fill with|none=>.store n a b|some k=>.fill k n a b)
  |_,_,_=>none
 |.nilCheck x=>(dw x).map .nilCheck
 |.binOp op t x y _=>ND P op t x y
 |.unOp op _ x=>(dw x).map (.un op ·)
 |.convert src dst x=>(dw x).bind (Fe P src dst ·)
 |.makeInterface t x=>match P.underlying t with
  |some (.interface _)=>none
  |some _=>(dw x).map (.KA t ·)
  |none=>none
 |.makeFunc (.func f) first caps=>match fH dw first.toList,fH dw caps.toList with
  |some a,some b=>some (.oG f a b)
  |_,_=>none
 | .makeSlice t l c => match P.underlying t with
  |some (.slice e)=>match cK P e,yi P e,cZ P e,dw l,dw c with
   |some s,some n,some z,some a,some b=>if 0<s∧n≤4096∧z.length=s then some (if md.mu.grow&&!md.mu.only.isEmpty then .BT s z a b else .mkSlice s z a b)else none
   |_,_,_,_,_=>none
  |_=>none
 | .slice t x lo hi mx => match dw x, AJ lo, AJ hi, AJ mx with
  |some a,some l,some h,some m=>match P.underlying t with
   |some .string=>some (.slice .str a l h m)
   |some (.slice e)=>(cK P e).map fun s=>.slice (.sl s) a l h m
   |some (.array n e)=>(cK P e).map fun s=>.slice (.arr n s) a l h m
   |_=>none
  |_,_,_,_=>none
 | .fieldAddr s x i => match P.underlying s, dw x with
  | some (.struct fs), some a => match fs[i]? with
   |some f=>match cK P f.type with
    |some n=>if 0<n then some (.fieldAddr f.offset a)else none
    |none=>none
   |none=>none
  |_,_=>none
 | .field t x i => match P.underlying t, dw x with
  | some (.struct fs), some a => match fs[i]? with
   |some f=>match tI P f.type,cK P f.type with
    |some g,some n=>some (.field g n f.offset a)
    |_,_=>none
   |none=>none
  |_,_=>none
 | .indexAddr t x i => match dw x, dw i with
  |some a,some j=>match P.underlying t with
   |some (.array n e)=>(cK P e).map fun s=>.indexAddr (some n) s a j
   |some (.slice e)=>(cK P e).map fun s=>.indexAddr none s a j
   |_=>none
  |_,_=>none
 | .index t x i => match dw x, dw i with
  | some a, some j => match P.underlying t with
   |some (.array n e)=>match tI P e,cK P e with
    |some g,some s=>some (.index n s g a j)
    |_,_=>none
   |some .string=>some (.Gt a j)
   |_=>none
  |_,_=>none
 |.extract x i=>(dw x).map (.extract i ·)
 |.call c=>AH P md.ro md.own md.mu md.fr c
 |.panic _=>some (.nilCheck (.const AV.undef))
 |_=>none
def zD (acc:List Nat):List Oper→Option (List Nat)
 |[]=>some acc
 | o :: r =>
  let es:=o.after.toList.filter (Region.binds .any)
  if es.all (fun e=>decide (e.on<acc.length))then
   zD (acc++[es.foldl (fun m e=>m|||1<<<e.on|||acc.getD e.on 0) 0]) r
  else none
def before (pre:List Nat) (i j:Nat):Bool:=(pre.getD j 0).testBit i
inductive Sh where
 |pure
 |load
 |soft
 |fresh
 |slot (back:Nat)
 |gd (res:Nat)
 |fill (back:Nat)
 |hard
 |jU
 deriving DecidableEq
def cN:cj→Sh
 |.load .. =>.load
 |.append .. =>.soft
 |.vY .. =>.hard
 |.call ro _ _|.ko ro _ _=>if ro then .soft else .hard
 |.rM _ _|.wx _ _=>.soft
 |.alloc _|.box .. |.mkSlice .. |.vX .. |.td .. |.sL .. =>.fresh
 |.slot b _=>.slot b
 |.gd r _ _ _=>.gd r
 |.jU .. =>.jU
 |.fill b _ _ _=>.fill b
 |.store .. |.lO _|.wv .. |.qt .. |.rG .. |.clear .. |.rQ .. |.copy .. |.yg .. |.BT .. =>.hard
 |_=>.pure
def akL:Op→Bool
 |.load .. =>true
 |_=>false
def jE:aF→List Nat
 |.tmp t=>[t]
 |.const _=>[]
def KV:Option aF→List Nat
 |some x=>jE x
 |none=>[]
def KU:cj→List Nat
 |.move x|.box _ x|.sL _ x|.clear _ x|.load _ _ x|.gd _ _ _ x|.jU _ _ x|.nilCheck x|.un _ x|.conv _ x|.KA _ x|.fieldAddr _ x|.field _ _ _ x|.extract _ x|.len _ x=>jE x
 |.pick c a b=>jE c++jE a++jE b
 |.alloc _|.BM _|.lO _|.slot _ _=>[]
 |.build _ ps=>ps.flatMap fun p=>jE p.2.2
 |.buildSlice _ _ ps=>ps.flatMap fun p=>jE p.2
 |.yg _ _ t=>[t]
 |.copy x y|.store _ x y|.fill _ _ x y|.arith _ x y|.eqv _ _ x y|.mkSlice _ _ x y|.BT _ _ x y|.indexAddr _ _ x y|.Gt x y|.index _ _ _ x y|.append _ x y|.vY _ x y|.vX _ x y=>jE x++jE y
 |.oG _ a b=>a.flatMap jE++b.flatMap jE
 |.rG _ x y h=>jE x++jE y++jE h
 |.qt _ xs ws=>xs.flatMap jE++ws.map fun q=>q.2.2
 |.call _ _ xs|.rM _ xs|.td _ xs|.wv _ xs|.wx _ xs|.rQ _ _ _ xs|.GB _ xs=>xs.flatMap jE
 |.ko _ x xs=>jE x++xs.flatMap jE
 |.slice _ x lo hi mx=>jE x++KV lo++KV hi++KV mx
def vu (o:bA):List Nat:=KU o.op++(match o.guard with|some (t,_)=>[t]|none=>[])
def Zg (f:Nat→bA→Nat→bA→Bool) (l:List bA):Bool:=
 l.zipIdx.all fun(x,i)=>l.zipIdx.all fun(y,j)=>i==j||f i x j y
inductive ZK where
 |i (k:IntKind) (n:Int)
 |b (x:Bool)
 |p
 |s (e:Nat)
 deriving DecidableEq
def Le:AV→Option ZK
 |.v (.int k n)=>some (.i k n)
 |.v (.bool x)=>some (.b x)
 |.v (.pointer none)=>some .p
 |.slice .aA e []=>some (.s e)
 |_=>none
def xI:List AV→Option (List ZK)
 |[]=>some []
 |x::r=>match Le x,xI r with
  |some y,some s=>some (y::s)
  |_,_=>none
def Q0 (a b:List AV):Bool:=match xI a,xI b with
 |some p,some q=>decide (p=q)
 |_,_=>false
def AX (x y:cj):Bool:=
 match x,y with
 |.rQ _ zss _ _,.slot b zs'=>decide (0<b∧b≤zss.length)&&(match zss[zss.length-b]? with|some z=>Q0 z zs'|none=>false)
 |.rQ ro _ _ _,.gd .. =>ro
 |.gd ..,.rQ ro _ _ _=>ro
 |.qt _ _ ws,.load g n (.tmp t)=>ws.any fun q=>q.1==g&&q.2.1==n&&q.2.2==t
 |.load g n (.tmp t),.qt _ _ ws=>ws.any fun q=>q.1==g&&q.2.1==n&&q.2.2==t
 |_,_=>false
def tj (pre : List Nat) (l : List bA) : Bool :=
  Zg (fun i x j y =>
    (match x.dst,y.dst with|some s,some t=>s != t|_,_=>true)&&
    (match y.dst with|some t=>!(vu x).contains t||before pre i j||before pre j i|none=>true)&&
    (match cN x.op,cN y.op with
      |.pure,_|_,.pure|.load,.load=>true
      |.load,.soft|.soft,.load|.jU,.jU|.jU,.fresh|.fresh,.jU=>true
      |.load,.fresh=>before pre i j||before pre j i||decide (i<j)
      |.fresh,.load=>before pre i j||before pre j i||decide (j<i)
      |.gd _,.gd _|.slot _,.slot _=>true
      |.gd r,.slot b|.slot b,.gd r|.gd r,.fill b|.fill b,.gd r=>before pre i j||before pre j i||decide (b≤r)
      |_,_=>before pre i j||before pre j i||(AX x.op y.op&&decide (i<j))||(AX y.op x.op&&decide (j<i)))) l&&
  l.all fun x=>match x.dst with|some t=>!(vu x).contains t|none=>true
def KF (pre:List Nat) (l:List Oper) (i:Nat):Bool:=
 l.zipIdx.any fun(o,j)=>akL o.op&&!(before pre i j)&&!(before pre j i)
def ahq (l:List Oper) (t:Nat):Bool:=
 l.any fun o=>match o.op with
  |.call c=>(match c.callee with|.builtin .append=>true|_=>false)&&(match c.args.toList with|.tmp u::_=>u==t|_=>false)
  |_=>false
def Jy (l:List Oper) (i:Nat):Bool:=match(l[i]?).bind (·.dst)with
 |some t=>ahq l t
 |none=>false
def AI (l:List Oper):Option (Nat×Bool)→Option (Option (Nat×Bool))
 |none=>some none
 |some (j,b)=>match(l[j]?).bind (·.dst)with
  |some t=>some (some (t,b))
  |none=>none
def oe (P:Program) (all:List Oper) (md:Nat→Md):Nat→List Oper→Option (List bA)
 |_,[]=>some []
 |i,o::r=>match AI all o.guard,gR P (md i) o.op,oe P all md (i+1) r with
  |some g,some op,some s=>some (⟨o.dst,g,op⟩::s)
  |_,_,_=>none
def PQ:Op→Bool
 |.alloc _=>true
 |_=>false
def vU:List Oper→Nat
 |[]=>0
 |o::r=>(if PQ o.op then 1 else 0)+vU r
def abN (P:Program) (l:List Oper):Option (List (List AV)):=fH (fun o=>match o.op with
 |.alloc e=>cZ P e
 |_=>none) (l.filter fun o=>PQ o.op)
def aat (l:List Oper) (i:Nat):Option Nat:=some (vU (l.drop i))
def NX (p:Nat):List Oper→Option Nat
 |[]=>none
 |o::r=>match o.dst with
  |some t=>if PQ o.op&&t==p then some (vU (o::r))else NX p r
  |none=>NX p r
def Vx (l:List Oper) (i:Nat):Option Nat:=
 match l[i]? with
 |some o=>match o.op with
  |.store _ (.tmp p) _=>NX p l
  |_=>none
 |none=>none
def agr (l:List Oper) (i:Nat):Bool:=match l[i]? with
 | some o => (match o.op with
  |.call c=>(match c.args.toList with
   |.tmp u::_=>l.any fun q=>(match q.op with|.buildSlice .. =>true|_=>false)&&q.dst==some u
   |_=>false)
  |_=>false)
 |none=>false
def Mu.aan (mu:Mu) (l:List Oper) (i:Nat):Mu:=if mu.only.isEmpty then mu else{mu with grow:=mu.grow&&(match(l[i]?).bind (·.dst)with|some t=>mu.only.contains t|none=>false)}
def aju (l : List Oper) (i : Nat) : Option aF := match l[i]? with
 | some o => (match o.op with
  | .call c => (match c.callee, c.args.toList with
   |.builtin .append,.tmp u::_=>(match l.find? (fun q=>q.dst==some u)with
    |some q=>(match q.op with|.load _ x=>dw x|_=>none)
    |none=>none)
   |_,_=>none)
  |_=>none)
 |none=>none
def atE (P:Program) (pre:List Nat) (l:List Oper) (i:Nat):List (Bool×Nat×Nat):=l.zipIdx.filterMap fun(o,j)=>match o.op with
 |.load t (.tmp u)=>if before pre i j||before pre j i then none else(match tI P t,cK P t with|some g,some n=>some (g,n,u)|_,_=>none)
 |_=>none
def Mu.W9 (mu:Mu) (l:List Oper) (i:Nat):Mu:=if mu.rows then{mu.aan l i with home:=aju l i}else mu.aan l i
def Mu.at (P:Program) (pre:List Nat) (mu:Mu) (l:List Oper) (i:Nat):Mu:={mu.W9 l i with fresh:=agr l i,ws:=if mu.watch.isEmpty then[]else atE P pre l i}
def Ja (P:Program) (mu:Mu) (pre:List Nat) (l:List Oper):Option (Nat×List bA):=
 match oe P l (fun i=>⟨KF pre l i,Jy l i,none,none,none,{Mu.at P pre mu l i with low:=true},none⟩) 0 l with
 |some as=>if tj pre as then some (1,as)else none
 |none=>none
def Jb (P : Program) (mu : Mu) (l : List Oper) (drawn : Bool) : Option (Nat × List bA) :=
 if drawn then
  match zD [] l with
  |none=>none
  | some pre => match oe P l (fun i => ⟨KF pre l i, Jy l i, none, none, none, Mu.at P pre mu l i, none⟩) 0 l with
   | some as => if tj pre as then some (0, as) else
    match oe P l (fun i=>⟨KF pre l i,Jy l i,aat l i,some (vU l),Vx l i,Mu.at P pre mu l i,none⟩) 0 l with
    | some z7 => if tj pre z7 then some (vU l, z7) else
     if 0<vU l then
      match oe P l (fun i=>⟨KF pre l i,Jy l i,aat l i,some (vU l),Vx l i,Mu.at P pre mu l i,abN P l⟩) 0 l with
      |some L0=>if tj pre L0 then some (vU l,L0)else Ja P mu pre l
      |none=>none
     else Ja P mu pre l
    |none=>none
   |none=>none
 else(oe P l (fun i=>⟨false,false,none,none,none,mu.W9 l i,none⟩) 0 l).map (0,·)
def QK (d:Bool):Nat×List bA→au
 |(0,as)=>.region d as
 |(n+1,as)=>.seq (.region false [⟨none,none,.lO (n+1)⟩]) (.region d as)
def comp (P:Program) (mu:Mu):Code→Option au
 |.skip=>some .skip
 |.region _ l drawn=>(Jb P mu l.toList drawn).map (QK drawn)
 |.seq a b=>match comp P mu a,comp P mu b with
  |some x,some y=>some (.seq x y)
  |_,_=>none
 |.cond c a b=>match dw c,comp P mu a,comp P mu b with
  |some z,some x,some y=>some (.cond z x y)
  |_,_,_=>none
 |.block id a=>(comp P mu a).map (.block id ·)
 |.loop a=>(comp P mu a).map .loop
 |.rangeFunc f ps a b=>match dw f,comp P mu a,comp P mu b with
  |some z,some x,some y=>some (.rangeFunc z ps.toList x y)
  |_,_,_=>none
 |.exit id=>some (.exit id)
 |.ret=>some .ret
 |_=>none
def ZN (P:Program) (t:Nat) (g:Option Bool) (n:Option Nat):Option iE:=
 let _:=P
 match g,n with
 |some g,some n=>some (.cell g n t)
 |_,_=>none
def wC (P:Program):ResultVar→Option iE
 |.tmp t=>some (.tmp t)
 |.cell a t=>ZN P a (tI P t) (cK P t)
def kf (n:Nat):au→Bool
 |.region _ l=>l.all fun o=>match o.dst with|some t=>decide (t<n)|none=>true
 |.seq a b|.cond _ a b=>kf n a&&kf n b
 |.block _ a|.loop a=>kf n a
 |.rangeFunc _ ps a b=>ps.all (fun t=>decide (t<n))&&kf n a&&kf n b
 |_=>true
def aT (P:Program) (own:Bool) (mu:Mu) (fn:Func):Option aI:=
 if fn.name== "runtime.NumGoroutine" then none else
 match fn.body with
 |none=>none
 |some c=>match comp P mu c,fH (wC P) fn.results.toList with
  |some b,some rs=>if fn.params.size+fn.nfree≤fn.ntmps∧kf fn.ntmps b=true then some (.code (fn.params.size+fn.nfree) fn.ntmps b rs own)else none
  |_,_=>none
end Go.Ax
/-
  What the abstract executor's states say of a world: the relation, and how it is kept.
-/
namespace Go.Ax
open Go.RowKit
abbrev gg:=Nat→Nat→Option Value
def plain:Value→Bool
 |.bool _|.int _ _|.string _|.pointer none|.nilFunc|.nilIface=>true
 |_=>false
inductive bL (I:gg):AV→Value→Prop
 |v {x:Value} (h:plain x=true):bL I (.v x) x
 |aA {es:Nat}:bL I (.slice .aA es []) (.slice none 0 0)
 | slice {o : Own} {es : Nat} {xs : List (List AV)} {blk off cap : Nat} (f : Nat → Nat → Value)
   (ho:o=.any∨(o=.full∧cap=xs.length)) (hc:xs.length≤cap) (dU:∀r,r∈xs→r.length=es)
   (bt:∀r,r∈xs→∀c,c∈r→c.bu=true)
   (hI:∀i (hi:i<xs.length) j (_:j<xs[i].length),I blk (off+i*es+j)=some (f i j))
   (hR:∀i (hi:i<xs.length) j (hj:j<xs[i].length),bL I (xs[i][j]) (f i j)):
   bL I (.slice o es xs) (.slice (some ⟨blk,off,none⟩) xs.length cap)
 |empty {o:Own} {es:Nat} {a:Addr} (ho:o=.any∨o=.full):bL I (.slice o es []) (.slice (some a) 0 0)
 | bo {cs : List AV} {off blk o0 : Nat} (f : Nat → Value) (bt : ∀ c, c ∈ cs → c.bu = true)
   (hI:∀i,i<cs.length→I blk (o0+i)=some (f i))
   (hR:∀i (hi:i<cs.length),bL I cs[i] (f i)):bL I (.bo cs off) (.pointer (some ⟨blk,o0+off,none⟩))
 |iface {t:TypeId} {x:AV} {y:Value} (h:bL I x y):bL I (.iface t x) (.iface t y)
 |zA {t:TypeId} {y:Value}:bL I .zA (.iface t y)
 | agg {cs : List AV} {arr : Array Value} (hl : arr.size = cs.length) (bt : ∀ c, c ∈ cs → c.bu = true)
   (hR:∀i (hi:i<cs.length),bL I cs[i] (arr.getD i Go.undef)):bL I (.agg cs) (.agg arr)
 | fn {f : FuncId} {first caps : List AV} {a1 a2 : Array Value} (l1 : a1.size = first.length) (l2 : a2.size = caps.length)
   (r1:∀i (hi:i<first.length),bL I first[i] (a1.getD i Go.undef))
   (r2:∀i (hi:i<caps.length),bL I caps[i] (a2.getD i Go.undef)):bL I (.fn f first caps) (.func (.func f) a1 a2)
structure ld where
 n:Option Nat
 blk:Nat
 cap:Nat
 es:Nat
structure cE where
 bl:List (Option Nat)
 tk:List ld
 nl:Nat
 marks:List Nat
 gs:Nat→Option Nat
inductive rC where
 |box (d b:Nat)
 |tok (d g:Nat)
 |loop (l:Nat)
 |mark (d i:Nat)
structure aG where
 I:gg
 ag:List cE
 loops:List Nat
 own:Nat→Option rC
inductive Rel (G:aG) (k nl:Nat):AV→Value→Prop
 |cl {x:AV} {y:Value} (h:bL G.I x y):Rel G k nl x y
 |undef:Rel G k nl AV.undef Go.undef
 | tok {d g es : Nat} {xs : List (List AV)} {a : Addr} {cap : Nat} (T : ld) (gr : cE) (hd : d ≤ k) (hg : G.ag[d]? = some gr) (ht : gr.tk[g]? = some T)
   (dU:T.es=es) (hc:bL G.I (.slice .any es xs) (.slice (some a) xs.length cap))
   (hn:∀n,T.n=some n→xs.length≤n∧(xs.length=n→a=⟨T.blk,0,none⟩∧cap=T.cap)):
   Rel G k nl (.slice (.tok d g) es xs) (.slice (some a) xs.length cap)
 | ptr {d b off blk : Nat} (gr : cE) (hd : d ≤ k) (hg : G.ag[d]? = some gr) (hb : gr.bl[b]? = some (some blk)) :
   Rel G k nl (.ptr d b off) (.pointer (some ⟨blk,off,none⟩))
 | aN {d b off es n cap rc blk o0 : Nat} (gr : cE) (hd : d ≤ k) (hg : G.ag[d]? = some gr) (hb : gr.bl[b]? = some (some blk)) (hn : n ≤ rc) (hc : cap ≤ rc) (hw : cap = 0 → 0 < n → gr.gs b = some (rc * es)) (ho : 0 < n ∨ 0 < cap → o0 = off) :
   Rel G k nl (.aN d b off es n cap) (.slice (some ⟨blk,o0,none⟩) n rc)
 | yield {l r : Nat} (hl : l < nl) (h : G.loops[l]? = some r) : Rel G k nl (.yield l) (.func (.yield r) #[] #[])
 | agg {cs : List AV} {arr : Array Value} (hl : arr.size = cs.length) (bt : ∀ c, c ∈ cs → c.bu = true)
   (hR:∀i (hi:i<cs.length),Rel G k nl cs[i] (arr.getD i Go.undef)):Rel G k nl (.agg cs) (.agg arr)
 | tuple {vs : List AV} {arr : Array Value} (hl : arr.size = vs.length)
   (hR:∀i (hi:i<vs.length),Rel G k nl vs[i] (arr.getD i Go.undef)):Rel G k nl (.tuple vs) (.tuple arr)
 | fn {f : FuncId} {first caps : List AV} {a1 a2 : Array Value} (l1 : a1.size = first.length) (l2 : a2.size = caps.length)
   (r1:∀i (hi:i<first.length),bL G.I first[i] (a1.getD i Go.undef))
   (r2:∀i (hi:i<caps.length),Rel G k nl caps[i] (a2.getD i Go.undef)):Rel G k nl (.fn f first caps) (.func (.func f) a1 a2)
def vQ (T T':ld):Prop:=T'.es=T.es∧(T'=T∨T'.n=none∨∃n n',T.n=some n∧T'.n=some n'∧n<n')
theorem vQ.refl (T:ld):vQ T T:=⟨rfl,.inl rfl⟩
theorem vQ.trans {T T' HG:ld} (h:vQ T T') (h':vQ T' HG):vQ T HG:=by
 obtain⟨e,h⟩:=h
 obtain⟨e',h'⟩:=h'
 refine⟨e'.trans e,?_⟩
 rcases h' with rfl|h'|⟨n,n',h1,h2,h3⟩
 ·exact h
 ·exact .inr (.inl h')
 ·rcases h with rfl|h|⟨m,m',h4,h5,h6⟩
  ·exact .inr (.inr ⟨n,n',h1,h2,h3⟩)
  ·rw[h]at h1;cases h1
  ·rw[h5]at h1
   injection h1 with h1
   exact .inr (.inr ⟨m,n',h4,h2,by omega⟩)
structure iZ (gr bI:cE):Prop where
 bl:∀(b blk:Nat),gr.bl[b]? =some (some blk)→bI.bl[b]? =some (some blk)
 tk:∀(g:Nat) (T:ld),gr.tk[g]? =some T→∃T',bI.tk[g]? =some T'∧vQ T T'
 nl:bI.nl=gr.nl
 gs:∀b n,gr.gs b=some n→bI.gs b=some n
theorem iZ.refl (gr:cE):iZ gr gr:=⟨fun _ _ h=>h,fun _ T h=>⟨T,h,.refl T⟩,rfl,fun _ _ h=>h⟩
theorem iZ.trans {a b c:cE} (h:iZ a b) (k:iZ b c):iZ a c:=
 ⟨fun i x e=>k.bl i x (h.bl i x e),fun g T e=>let⟨T',e',l'⟩:=h.tk g T e;let⟨HG,NN,P0⟩:=k.tk g T' e';⟨HG,NN,l'.trans P0⟩,k.nl.trans h.nl,fun b n e=>k.gs b n (h.gs b n e)⟩
structure bB (k nl:Nat) (G G':aG):Prop where
 I:∀b i v,G.I b i=some v→G'.I b i=some v
 ag:∀(d:Nat) (gr:cE),d≤k→G.ag[d]? =some gr→∃bI,G'.ag[d]? =some bI∧iZ gr bI∧(d<k→bI.marks=gr.marks)
 loops:∀(l r:Nat),l<nl→G.loops[l]? =some r→G'.loops[l]? =some r
theorem bB.refl (k nl:Nat) (G:aG):bB k nl G G:=⟨fun _ _ _ h=>h,fun _ gr _ h=>⟨gr,h,.refl gr,fun _=>rfl⟩,fun _ _ _ h=>h⟩
theorem bB.trans {k nl:Nat} {a b c:aG} (h:bB k nl a b) (h':bB k nl b c):bB k nl a c:=
  ⟨fun i j v e=>h'.I i j v (h.I i j v e),fun d gr hd e=>let⟨bI,e',l',m'⟩:=h.ag d gr hd e;let⟨V3,NN,P0,m''⟩:=h'.ag d bI hd e';⟨V3,NN,l'.trans P0,fun aC=>(m'' aC).trans (m' aC)⟩,
   fun l r hl e=>h'.loops l r hl (h.loops l r hl e)⟩
theorem bB.less {k nl k' gJ:Nat} {G G':aG} (h:bB k nl G G') (hk:k'≤k) (hl:gJ≤nl):bB k' gJ G G':=
 ⟨h.I,fun d gr hd e=>let⟨bI,e',l',m'⟩:=h.ag d gr (by omega) e;⟨bI,e',l',fun aC=>m' (by omega)⟩,fun l r aC e=>h.loops l r (by omega) e⟩
theorem bL.mono {I I':gg} (hI:∀b i v,I b i=some v→I' b i=some v) {x:AV} {y:Value} (h:bL I x y):bL I' x y:=by
 induction h with
 |v h=>exact .v h
 |aA=>exact .aA
 |slice f ho hc dU bt h1 _ ih=>exact .slice f ho hc dU bt (fun i hi j hj=>hI _ _ _ (h1 i hi j hj)) ih
 |empty ho=>exact .empty ho
 |bo f bt h1 _ ih=>exact .bo f bt (fun i hi=>hI _ _ _ (h1 i hi)) ih
 |iface _ ih=>exact .iface ih
 |zA=>exact .zA
 |agg hl bt _ ih=>exact .agg hl bt ih
 |fn l1 l2 _ _ ih1 fQ=>exact .fn l1 l2 ih1 fQ
theorem Rel.mono {G G':aG} {k nl k' gJ:Nat} (h:bB k nl G G') (hk:k≤k') (hl:nl≤gJ) {x:AV} {y:Value} (r:Rel G k nl x y):Rel G' k' gJ x y:=by
 induction r with
 |cl hc=>exact .cl (hc.mono h.I)
 |undef=>exact .undef
 | tok T gr hd hg ht dU hc hn =>
  obtain⟨bI,bz,hle,_⟩:=h.ag _ _ hd hg
  obtain⟨T',Pu,he,hT⟩:=hle.tk _ _ ht
  refine .tok T' bI (by omega) bz Pu (he.trans dU) (hc.mono h.I) (fun n jj=>?_)
  rcases hT with rfl|hT|⟨m,m',h1,h2,h3⟩
  ·exact hn n jj
  ·rw[hT]at jj;cases jj
  ·rw[h2]at jj
   injection jj with jj
   have:=(hn m h1).1
   exact⟨by omega,fun e=>by omega⟩
 |ptr gr hd hg hb=>
  obtain⟨bI,bz,hle,_⟩:=h.ag _ _ hd hg
  exact .ptr bI (by omega) bz (hle.bl _ _ hb)
 |aN gr hd hg hb hn hc hw ho=>
  obtain⟨bI,bz,hle,_⟩:=h.ag _ _ hd hg
  exact .aN bI (by omega) bz (hle.bl _ _ hb) hn hc (fun e1 e2=>hle.gs _ _ (hw e1 e2)) ho
 |yield aC he=>exact .yield (by omega) (h.loops _ _ aC he)
 |agg qJ bt _ ih=>exact .agg qJ bt ih
 |tuple qJ _ ih=>exact .tuple qJ ih
 |fn l1 l2 r1 _ ih=>exact .fn l1 l2 (fun i hi=>(r1 i hi).mono h.I) ih
def pJ (B0:Nat) (G:aG) (d nl b:Nat) (g:Option Nat) (cs:List AV) (blk:Nat) (w:World):Prop:=
 B0≤blk∧(∃x,G.own blk=some (.box d x)∧(cs≠[]→x=b))∧(cs≠[]→∀i,G.I blk i=none)∧
  ∃arr ty,w.heap[blk]? =some (.cells arr ty)∧cs.length≤arr.size∧(cs≠[]→∀n,g=some n→arr.size=n)∧∀i (hi:i<cs.length),cs[i].bu=true∧Rel G d nl cs[i] (arr.getD i Go.undef)
def zX (B0:Nat) (G:aG) (d g:Nat) (n:Option Nat) (T:ld) (w:World):Prop:=
 T.n=n∧∀m,n=some m→B0≤T.blk∧G.own T.blk=some (.tok d g)∧(∀i,m*T.es≤i→G.I T.blk i=none)∧
  m≤T.cap∧0<T.es∧∃arr ty,w.heap[T.blk]? =some (.cells arr ty)∧arr.size=T.cap*T.es
def Hx (B0:Nat) (G:aG) (d i b:Nat) (w:World):Prop:=
 B0≤b∧G.own b=some (.mark d i)∧w.heap[b]? =some (.deferred (some []))
structure vP (B0:Nat) (G:aG) (d:Nat) (r:Rec) (gr:cE) (w:World):Prop where
 ek:gr.bl.length=r.boxes.length
 iV:gr.tk.length=r.toks.length
 box:∀(b:Nat) (cs:List AV) (blk:Nat),r.boxes[b]? =some cs→gr.bl[b]? =some (some blk)→pJ B0 G d gr.nl b (gr.gs b) cs blk w
 full:∀(b blk:Nat),gr.bl[b]? =some (some blk)→r.boxes[b]? =some []→none∈r.toks
 tok:∀(g:Nat) (n:Option Nat) (T:ld),r.toks[g]? =some n→gr.tk[g]? =some T→zX B0 G d g n T w
 mark:∀(i b:Nat),gr.marks[i]? =some b→Hx B0 G d i b w
 mP:∀(b n:Nat),gr.gs b=some n→∃blk,gr.bl[b]? =some (some blk)
def exitCode:c8→Option Code
 |.normal=>none
 |.exit id=>some (.exit id)
 |.ret=>some .ret
def pN (P:Program) (G:aG) (l:Nat) (lp:dA) (rc:Loop):Prop:=
 (lp.ready=true→rc.state=.ready∧lp.eI=none)∧
  (lp.ready=false→rc.state=(if lp.eI.isSome then .done else .busy))∧rc.pending=lp.eI.bind exitCode∧lp.eI≠some .normal∧
  rc.params.toList=lp.params∧(∃mu,comp P mu rc.assign=some lp.assign∧comp P mu rc.body=some lp.body)∧kf rc.tmps.size lp.assign=true∧kf rc.tmps.size lp.body=true∧
  (∀p,p∈lp.params→p<rc.tmps.size)∧
  ∃k nl,k+1≤G.ag.length∧nl≤l∧(∀d gr,G.ag[d]? =some gr→l<gr.nl→k<d)∧∀t,Rel G k nl (lp.tmps t) (rc.tmps.getD t Go.undef)
def Hw (P:Program) (B0:Nat) (G:aG) (l:Nat) (lp:dA) (r:Nat) (w:World):Prop:=
 B0≤r∧G.own r=some (.loop l)∧∃rc:Loop,w.heap[r]? =some (.loop rc)∧pN P G l lp rc
structure cz (P:Program) (B0:Nat) (w0:World) (G:aG) (s:ae) (w:World):Prop where
 ff:∀(b i:Nat) (v:Value),G.I b i=some v→w.cell? ⟨b,i,none⟩=some v
 len:G.ag.length=s.ag.length
 jT:G.loops.length=s.loops.length
 cI:∀(d:Nat) (r:Rec) (gr:cE),s.ag[d]? =some r→G.ag[d]? =some gr→vP B0 G d r gr w
 loop:∀(l:Nat) (lp:dA) (r:Nat),s.loops[l]? =some lp→G.loops[l]? =some r→Hw P B0 G l lp r w
 pE:∀(d:Nat) (gr:cE),G.ag[d]? =some gr→gr.nl≤s.loops.length
 q9:∀(d d':Nat) (gr bI:cE),d≤d'→G.ag[d]? =some gr→G.ag[d']? =some bI→gr.nl≤bI.nl
 below:Below B0 w0 w
 low:B0≤w.heap.size
 eO:∀(b:Nat) (o:rC),G.own b=some o→b<w.heap.size
section
variable{P:Program} {B0:Nat} {w0:World} {G G':aG} {w w':World}
theorem pJ.cJ {d nl b blk:Nat} {g:Option Nat} {cs:List AV} (h:pJ B0 G d nl b g cs blk w) (hle:bB d nl G G') (ho:∀x,G.own blk=some (.box d x)→G'.own blk=some (.box d x)) (hh:w'.heap[blk]? =w.heap[blk]?)
  (hI:∀i,G.I blk i=none→G'.I blk i=none):pJ B0 G' d nl b g cs blk w':=by
 obtain⟨h1,⟨x,h2,h2'⟩,h3,arr,ty,h4,h5,h7,h6⟩:=h
 exact⟨h1,⟨x,ho x h2,h2'⟩,fun hn i=>hI i (h3 hn i),arr,ty,hh.trans h4,h5,h7,fun i hi=>⟨(h6 i hi).1,(h6 i hi).2.mono hle (aH _) (aH _)⟩⟩
theorem pJ.kept {X:rC→Prop} {d nl b blk:Nat} {g:Option Nat} {cs:List AV} (h:pJ B0 G d nl b g cs blk w) (hle:bB d nl G G') (hk:∀b o,G.own b=some o→¬X o→G'.own b=some o∧w'.heap[b]? =w.heap[b]? ∧∀i,G.I b i=none→G'.I b i=none)
  (hX:∀x,¬X (.box d x)):pJ B0 G' d nl b g cs blk w':=by
 obtain⟨x,h2,_⟩:=h.2.1
 obtain⟨k1,k2,k3⟩:=hk _ _ h2 (hX x)
 exact h.cJ hle (fun y e=>by rw[h2]at e;injection e with e;rw[←e];exact k1) k2 k3
theorem zX.cJ {d g:Nat} {n:Option Nat} {T:ld} (h:zX B0 G d g n T w) (ho:n.isSome→G'.own T.blk=some (.tok d g)) (hh:n.isSome→w'.heap[T.blk]? =w.heap[T.blk]?)
  (hI:n.isSome→∀i,G.I T.blk i=none→G'.I T.blk i=none):zX B0 G' d g n T w':=by
 obtain⟨h1,h2⟩:=h
 refine⟨h1,fun m hm=>?_⟩
 have hs:n.isSome=true:=by rw[hm];rfl
 obtain⟨a1,_,a3,a4,a5,arr,ty,a6,a7⟩:=h2 m hm
 exact⟨a1,ho hs,fun i hi=>hI hs i (a3 i hi),a4,a5,arr,ty,(hh hs).trans a6,a7⟩
theorem Hx.cJ {d i b:Nat} (h:Hx B0 G d i b w) (ho:G'.own b=some (.mark d i)) (hh:w'.heap[b]? =w.heap[b]?):Hx B0 G' d i b w':=
 ⟨h.1,ho,hh.trans h.2.2⟩
theorem pN.cJ {l:Nat} {lp:dA} {rc:Loop} (h:pN P G l lp rc) (hle:∀k nl,k+1≤G.ag.length→nl≤l→bB k nl G G') (hlen:G.ag.length≤G'.ag.length):pN P G' l lp rc:=by
 obtain⟨a1,a2,a3,a4,a5,a6,a8,a9,LP,k,nl,Sn,a12,HI,LQ⟩:=h
 refine⟨a1,a2,a3,a4,a5,a6,a8,a9,LP,k,nl,by omega,a12,fun d bI hg hl=>?_,fun t=>(LQ t).mono (hle k nl Sn a12) (aH _) (aH _)⟩
 by_cases hd:d<G.ag.length
 ·obtain⟨V3,e,hr,_⟩:=(hle d 0 hd (bh _)).ag d _ (aH _) (cM hd)
  rw[hg]at e
  injection e with e
  exact HI d _ (cM hd) (by rw[←hr.nl,←e];exact hl)
 ·omega
theorem Hw.cJ {l r:Nat} {lp:dA} (h:Hw P B0 G l lp r w) (hle:∀k nl,k+1≤G.ag.length→nl≤l→bB k nl G G') (hlen:G.ag.length≤G'.ag.length)
  (ho:G'.own r=some (.loop l)) (hh:w'.heap[r]? =w.heap[r]?):Hw P B0 G' l lp r w':=by
 obtain⟨h1,_,rc,h3,h4⟩:=h
 exact⟨h1,ho,rc,hh.trans h3,h4.cJ hle hlen⟩
def jI (X:rC→Prop) (G:aG) (w:World) (G':aG) (w':World):Prop:=
 ∀b o,G.own b=some o→¬X o→G'.own b=some o∧w'.heap[b]? =w.heap[b]? ∧∀i,G.I b i=none→G'.I b i=none
theorem vP.cJ {X:rC→Prop} {d:Nat} {r:Rec} {gr:cE} (h:vP B0 G d r gr w) (hle:bB d gr.nl G G') (hk:jI X G w G' w')
  (hX:∀o,X o→(∀b,o≠.box d b)∧(∀g,o≠.tok d g)∧∀i,o≠.mark d i):vP B0 G' d r gr w':=by
 refine⟨h.ek,h.iV,fun b cs blk h1 h2=>?_,h.full,fun g n T h1 h2=>?_,fun i b h1=>?_,fun b n h1=>?_⟩
 ·exact(h.box b cs blk h1 h2).kept hle hk (fun x hx=>(hX _ hx).1 x rfl)
 ·have ht:=h.tok g n T h1 h2
  have hs:∀(hn:n.isSome=true),G'.own T.blk=some (.tok d g)∧w'.heap[T.blk]? =w.heap[T.blk]? ∧∀i,G.I T.blk i=none→G'.I T.blk i=none:=fun hn=>by
   obtain⟨m,hm⟩:=oO.1 hn
   exact hk _ _ (ht.2 m hm).2.1 (fun hx=>(hX _ hx).2.1 g rfl)
  exact ht.cJ (fun hn=>(hs hn).1) (fun hn=>(hs hn).2.1) (fun hn=>(hs hn).2.2)
 ·have hm:=h.mark i b h1
  obtain⟨k1,k2,_⟩:=hk _ _ hm.2.1 (fun hx=>(hX _ hx).2.2 i rfl)
  exact hm.cJ k1 k2
 ·exact h.mP b n h1
theorem cz.cJ {s:ae} (h:cz P B0 w0 G s w) (hI:∀b i v,G.I b i=some v→G'.I b i=some v) (ha:G'.ag=G.ag) (hl:G'.loops=G.loops)
  (hk:jI (fun _=>False) G w G' w') (FR:∀b i v,G'.I b i=some v→w'.cell? ⟨b,i,none⟩=some v) (hb:Below B0 w w')
  (F6:∀b o,G'.own b=some o→b<w'.heap.size):cz P B0 w0 G' s w':=by
 have hle:∀k nl,bB k nl G G':=fun k nl=>⟨hI,fun d gr _ e=>⟨gr,by rw[ha];exact e,.refl gr,fun _=>rfl⟩,fun l r _ e=>by rw[hl];exact e⟩
 refine⟨FR,by rw[ha];exact h.len,by rw[hl];exact h.jT,fun d r gr h1 h2=>?_,fun l lp r h1 h2=>?_,fun d gr h1=>h.pE d gr (by rw[←ha];exact h1),by rw[ha];exact h.q9,h.below.trans hb,jK h.low hb.size,F6⟩
 ·rw[ha]at h2
  exact(h.cI d r gr h1 h2).cJ (hle _ _) hk (fun o ho=>ho.elim)
 ·rw[hl]at h2
  have hr:=h.loop l lp r h1 h2
  obtain⟨k1,k2,_⟩:=hk _ _ hr.2.1 (fun hx=>hx)
  exact hr.cJ (fun k nl _ _=>hle k nl) (by rw[ha];exact aH _) k1 k2
theorem cz.drew {s:ae} (h:cz P B0 w0 G s w):cz P B0 w0 G s w.drew:=
 h.cJ (fun _ _ _ e=>e) rfl rfl (fun _ _ e _=>⟨e,rfl,fun _ h=>h⟩) (fun b i v e=>h.ff b i v e) ((Below.refl _ _).drew) h.eO
theorem cz.sS {s:ae} (h:cz P B0 w0 G s w) {b i:Nat} {v:Value} (e:G.I b i=some v):b<w.heap.size:=
 World.block_lt_of_cell? _ _ (h.ff b i v e)
theorem cz.ud {s:ae} (h:cz P B0 w0 G s w) (i:Nat):G.I w.heap.size i=none:=by
 cases e:G.I w.heap.size i with
 |none=>rfl
 |some v=>have:=h.sS e;omega
def aG.vS (G:aG) (b:Nat) (arr:Array Value):aG:={G with I:=fun c i=>if c=b then arr[i]? else G.I c i}
theorem aG.CI (G:aG) (b:Nat) (arr:Array Value) (hn:∀i,G.I b i=none) (k nl:Nat):bB k nl G (G.vS b arr):=
 ⟨fun c i v e=>by
  simp only[aG.vS]
  split
  ·rename_i hc;subst hc;rw[hn]at e;cases e
  ·exact e,fun d gr _ e=>⟨gr,e,.refl gr,fun _=>rfl⟩,fun _ _ _ e=>e⟩
theorem cz.LV {s:ae} (h:cz P B0 w0 G s w) (arr:Array Value) (ty:TypeId) (fz:Nat×Nat):cz P B0 w0 (G.vS w.heap.size arr) s (w.alloc (.cells arr ty fz)):=by
 have hle:=G.CI w.heap.size arr h.ud 0 0
 refine h.cJ hle.I rfl rfl (fun b o e _=>⟨e,Below.heap_alloc _ _ _ (h.eO _ _ e),fun i hi=>?_⟩) (fun b i v e=>?_) ((Below.refl _ _).alloc h.low _) (fun b o e=>?_)
 ·simp only[aG.vS]
  rw[aq (by have:=h.eO _ _ e;omega)]
  exact hi
 ·simp only[aG.vS]at e
  split at e
  ·rename_i hb
   subst hb
   have hn:(w.alloc (.cells arr ty fz)).heap[w.heap.size]? =some (.cells arr ty fz):=World.alloc_heap_new w _
   simp only[World.cell?,hn]
   exact e
  ·have:=h.ff b i v e
   rw[World.cell?_alloc_old _ _ _ (by rename_i hb;exact hb)]
   exact this
 ·have:=h.eO b o e
  simp;omega
end
end Go.Ax
/-
  Operations that only compute: what the abstract executor gives is what the model's run gives.
-/
namespace Go.Ax
open Go.RowKit
section
variable{P:Program} {B0:Nat} {w0:World} {G:aG} {k nl:Nat} {w:World}
theorem Rel.gu {x y:Value} (h:Rel G k nl (.v x) y):y=x:=by
 cases h with
 |cl h=>cases h;rfl
 |undef=>rfl
abbrev fU (I:gg) (es:Nat) (xs:List (List AV)) (a:Addr) (cap:Nat):Prop:=bL I (.slice .any es xs) (.slice (some a) xs.length cap)
theorem Rel.iS {o:Own} {es:Nat} {xs:List (List AV)} {y:Value} (h:Rel G k nl (.slice o es xs) y):
  (o=.aA∧xs=[]∧y=.slice none 0 0)∨(o≠.aA∧∃a cap,y=.slice (some a) xs.length cap∧(0<cap→a.spot=none)∧xs.length≤cap∧fU G.I es xs a cap∧(o=.full→cap=xs.length)):=by
 cases h with
 | cl h =>
  cases h with
  |aA=>exact .inl ⟨rfl,rfl,rfl⟩
  |slice f ho hc dU bt hI hR=>
   refine .inr ⟨by rcases ho with rfl|⟨rfl,_⟩<;>simp,_,_,rfl,fun _=>rfl,hc,.slice f (.inl rfl) hc dU bt hI hR,?_⟩
   rintro rfl
   rcases ho with h|⟨_,h⟩
   ·cases h
   ·exact h
  |empty ho=>
   exact .inr ⟨by rcases ho with rfl|rfl<;>simp,_,_,rfl,fun h=>absurd h (zU _),aH _,.empty (.inl rfl),fun _=>rfl⟩
 | tok T gr hd hg ht dU hc hn =>
  refine .inr ⟨by simp,_,_,rfl,?_,?_,hc,by simp⟩
  ·cases hc with
   |slice=>exact fun _=>rfl
   |empty=>exact fun h=>absurd h (zU _)
  ·cases hc with
   |slice f ho hc=>exact hc
   |empty=>exact aH _
theorem Rel.sy {d b off:Nat} {y:Value} (h:Rel G k nl (.ptr d b off) y):
  ∃blk gr,y=.pointer (some ⟨blk,off,none⟩)∧d≤k∧G.ag[d]? =some gr∧gr.bl[b]? =some (some blk):=by
 cases h with
 |cl h=>cases h
 |ptr gr hd hg hb=>exact⟨_,gr,rfl,hd,hg,hb⟩
theorem Rel.mj {d b off es n cap:Nat} {y:Value} (h:Rel G k nl (.aN d b off es n cap) y):
  ∃blk gr rc o0,y=.slice (some ⟨blk,o0,none⟩) n rc∧d≤k∧G.ag[d]? =some gr∧gr.bl[b]? =some (some blk)∧n≤rc∧cap≤rc∧(cap=0→0<n→gr.gs b=some (rc*es))∧(0<n∨0<cap→o0=off):=by
 cases h with
 |cl h=>cases h
 |aN gr hd hg hb hn hc hw ho=>exact⟨_,gr,_,_,rfl,hd,hg,hb,hn,hc,hw,ho⟩
theorem Rel.zn {cs:List AV} {off:Nat} {y:Value} (h:Rel G k nl (.bo cs off) y):
  ∃(blk o0:Nat) (f:Nat→Value),y=.pointer (some ⟨blk,o0+off,none⟩)∧(∀c,c∈cs→c.bu=true)∧(∀i,i<cs.length→G.I blk (o0+i)=some (f i))∧∀i (hi:i<cs.length),bL G.I cs[i] (f i):=by
 cases h with
 |cl h=>cases h with|bo f bt hI hR=>exact⟨_,_,f,rfl,bt,hI,hR⟩
theorem Rel.xm {cs:List AV} {y:Value} (h:Rel G k nl (.agg cs) y):
  ∃arr:Array Value,y=.agg arr∧arr.size=cs.length∧(∀c,c∈cs→c.bu=true)∧∀i (hi:i<cs.length),Rel G k nl cs[i] (arr.getD i Go.undef):=by
 cases h with
 |cl h=>cases h with|agg hl bt hR=>exact⟨_,rfl,hl,bt,fun i hi=>.cl (hR i hi)⟩
 |agg hl bt hR=>exact⟨_,rfl,hl,bt,hR⟩
theorem Rel.akK {vs:List AV} {y:Value} (h:Rel G k nl (.tuple vs) y):
  ∃arr:Array Value,y=.tuple arr∧arr.size=vs.length∧∀i (hi:i<vs.length),Rel G k nl vs[i] (arr.getD i Go.undef):=by
 cases h with
 |cl h=>cases h
 |tuple hl hR=>exact⟨_,rfl,hl,hR⟩
theorem Rel.BG {f:FuncId} {first caps:List AV} {y:Value} (h:Rel G k nl (.fn f first caps) y):
  ∃a1 a2:Array Value,y=.func (.func f) a1 a2∧a1.size=first.length∧a2.size=caps.length∧(∀i (hi:i<first.length),bL G.I first[i] (a1.getD i Go.undef))∧
   ∀i (hi:i<caps.length),Rel G k nl caps[i] (a2.getD i Go.undef):=by
 cases h with
 |cl h=>cases h with|fn l1 l2 r1 r2=>exact⟨_,_,rfl,l1,l2,r1,fun i hi=>.cl (r2 i hi)⟩
 |fn l1 l2 r1 r2=>exact⟨_,_,rfl,l1,l2,r1,r2⟩
theorem Rel.PO {l : Nat} {y : Value} (h : Rel G k nl (.yield l) y) : ∃ r, y = .func (.yield r) #[] #[] ∧ l < nl ∧ G.loops[l]? = some r := by
 cases h with
 |cl h=>cases h
 |yield hl h=>exact⟨_,rfl,hl,h⟩
theorem Rel.PN {t:TypeId} {x:AV} {y:Value} (h:Rel G k nl (.iface t x) y):∃z,y=.iface t z∧bL G.I x z:=by
 cases h with
 |cl h=>cases h with|iface h=>exact⟨_,rfl,h⟩
theorem bL.one {I : gg} {x : AV} {y : Value} (h : bL I x y) (hc : x.bu = true) : y.cells = #[y] := by
 cases h with
 |v h=>cases y<;>first|rfl|simp[plain]at h
 |agg=>cases hc
 |_=>rfl
theorem Rel.one {x : AV} {y : Value} (h : Rel G k nl x y) (hc : x.bu = true) : y.cells = #[y] := by
 cases h with
 |cl h=>exact h.one hc
 |undef=>rfl
 |agg=>cases hc
 |_=>rfl
theorem Rel.yu {x:AV} {y:Value} (h:Rel G k nl x y) (hc:x.iT=true):bL G.I x y:=by
 cases h with
 |cl h=>exact h
 |undef=>cases hc
 |tok=>cases hc
 |ptr=>cases hc
 |aN=>cases hc
 |yield=>cases hc
 |agg=>cases hc
 |tuple=>cases hc
 |fn=>cases hc
theorem Rel.aem {x:AV} {y:Value} (h:Rel G k nl x y) (hc:x.vk=true):bL G.I x y:=by
 cases x with
 |agg cs=>
  obtain⟨arr,rfl,hl,bt,hR⟩:=h.xm
  refine .agg hl bt (fun i hi=>(hR i hi).yu ?_)
  exact jJ.1 hc _ (gA hi)
 |_=>exact h.yu hc
theorem Rel.closed {x:AV} {y:Value} (h:Rel G k nl x y) (hc:x.isClosed=true):bL G.I x y:=by
 cases x with
 |iface t x=>
  obtain⟨z,rfl,hz⟩:=h.PN
  exact .iface hz
 |fn f first caps=>
  obtain⟨a1,a2,rfl,l1,l2,r1,r2⟩:=h.BG
  simp only[AV.isClosed,dI]at hc
  exact .fn l1 l2 r1 (fun i hi=>(r2 i hi).yu (jJ.1 hc.2 _ (gA hi)))
 |_=>exact h.yu hc
theorem Rel.close {x z:AV} {y:Value} (h:Rel G k nl x y) (hc:x.close=some z):bL G.I z y:=by
 by_cases hx:∃d g es xs,x=.slice (.tok d g) es xs
 ·obtain⟨d,g,es,xs,rfl⟩:=hx
  simp only[AV.close]at hc
  injection hc with hc
  subst hc
  rcases h.iS with⟨h1,_⟩|⟨_,a,cap,rfl,_,_,h4,_⟩
  ·cases h1
  ·exact h4
 ·have:x.close=if x.isClosed then some x else none:=by
   unfold AV.close
   split
   ·exact absurd ⟨_,_,_,_,rfl⟩ hx
   ·rfl
  rw[this]at hc
  split at hc
  ·injection hc with hc
   subst hc
   exact h.closed (by assumption)
  ·cases hc
theorem Nz {x z:AV} (h:x.close=some z) (hc:x.bu=true):z.bu=true:=by
 unfold AV.close at h
 split at h
 ·injection h with h;subst h;rfl
 ·split at h
  ·injection h with h;subst h;exact hc
  ·cases h
theorem I6 {cs ds:List AV} (h:closeAll cs=some ds):ds.length=cs.length∧∀i (hi:i<cs.length) (hj:i<ds.length),cs[i].close=some ds[i]:=by
 induction cs generalizing ds with
 |nil=>simp only[closeAll]at h;injection h with h;subst h;exact⟨rfl,fun i hi=>absurd hi (dk _)⟩
 | cons x r ih =>
  simp only[closeAll]at h
  split at h
  ·rename_i y s hy hs
   injection h with h
   subst h
   obtain⟨h1,h2⟩:=ih hs
   refine⟨by simp[h1],fun i hi hj=>?_⟩
   cases i with
   |zero=>exact hy
   |succ i=>exact h2 i (by simpa using hi) (by simpa using hj)
  ·cases h
theorem YN {x:Value} {c:AV} {I:gg} (h:tJ x=some c):bL I c x∧c.bu=true:=by
 unfold tJ at h
 split at h
 all_goals first
  |(injection h with h;subst h;exact⟨.v rfl,rfl⟩)
  |(injection h with h;subst h;exact⟨.aA,rfl⟩)
  |skip
 ·split at h
  ·rename_i hz
   injection h with h
   subst h
   refine⟨.fn (by simpa using hz.1) (by simpa using hz.2) (fun i hi=>absurd hi (dk _)) (fun i hi=>absurd hi (dk _)),rfl⟩
  ·cases h
 ·cases h
theorem vm {α β:Type} {f:α→Option β} {l:List α} {r:List β} (h:fH f l=some r):r.length=l.length∧∀i (hi:i<l.length) (hj:i<r.length),f l[i]=some r[i]:=by
 induction l generalizing r with
 |nil=>simp only[fH]at h;injection h with h;subst h;exact⟨rfl,fun i hi=>absurd hi (dk _)⟩
 | cons x s ih =>
  simp only[fH]at h
  split at h
  ·rename_i y t hy ht
   injection h with h
   subst h
   obtain⟨h1,h2⟩:=ih ht
   refine⟨by simp[h1],fun i hi hj=>?_⟩
   cases i with
   |zero=>exact hy
   |succ i=>exact h2 i (by simpa using hi) (by simpa using hj)
  ·cases h
theorem rN {I:gg} {arr:Array Value} {cs:List AV} (h:fH tJ arr.toList=some cs):
  arr.size=cs.length∧(∀c,c∈cs→c.bu=true)∧∀i (hi:i<cs.length),bL I cs[i] (arr.getD i Go.undef):=by
 obtain⟨h1,h2⟩:=vm h
 have hl:arr.size=cs.length:=by simpa using h1.symm
 have hz:∀i (hi:i<cs.length),bL I cs[i] (arr.getD i Go.undef)∧cs[i].bu=true:=fun i hi=>by
  have:=h2 i (by simpa using hl ▸ hi) hi
  have hr:=YN (I:=I) this
  have he:arr.getD i Go.undef=arr.toList[i]'(by simpa using hl ▸ hi):=by simp[Array.getD,hl,hi]
  rw[he]
  exact hr
 refine⟨hl,fun c hc=>?_,fun i hi=>(hz i hi).1⟩
 obtain⟨i,hi,rfl⟩:=n6 hc
 exact(hz i hi).2
theorem apg {x:Value} {c:AV} {I:gg} (h:ofValue x=some c):bL I c x:=by
 unfold ofValue at h
 split at h
 ·rename_i cs
  cases hm:fH tJ cs.toList with
  |none=>rw[hm]at h;cases h
  |some l=>
   rw[hm]at h
   injection h with h
   subst h
   obtain⟨h1,h2,h3⟩:=rN (I:=I) hm
   exact .agg h1 h2 h3
 ·exact(YN h).1
def eC (G:aG) (k nl:Nat) (ρ:Nat→AV) (a:Act):Prop:=∀t,Rel G k nl (ρ t) (a.tmps.getD t Go.undef)
theorem dc {x:Operand} {ax:aF} {ρ:Nat→AV} {a:Act} (hc:dw x=some ax) (hR:eC G k nl ρ a):Rel G k nl (aE ρ ax) (a.eval x):=by
 cases x with
 |tmp t=>simp only[dw]at hc;injection hc with hc;subst hc;exact hR t
 | const c =>
  simp only[dw]at hc
  cases hv:ofValue c with
  |none=>rw[hv]at hc;cases hc
  |some z=>
   rw[hv]at hc
   injection hc with hc
   subst hc
   exact .cl (apg hv)
 |func f=>
  simp only[dw]at hc
  injection hc with hc
  subst hc
  exact .cl (.fn rfl rfl (fun i hi=>absurd hi (dk _)) (fun i hi=>absurd hi (dk _)))
 |global g=>cases hc
end
end Go.Ax
/-
  Memory: loads, stores and new boxes.
-/
namespace Go.Ax
open Go.RowKit
section
variable{P:Program} {B0:Nat} {w0:World} {G:aG} {k nl:Nat} {w:World} {s:ae}
def jr (R:AV→Value→Prop) (cs:List AV) (arr:Array Value):Prop:=
 arr.size=cs.length∧∀i (hi:i<cs.length),R cs[i] (arr.getD i Go.undef)
theorem jr.set {R:AV→Value→Prop} {cs:List AV} {arr:Array Value} (h:jr R cs arr) {x:AV} {v:Value} (hx:R x v) (o:Nat):jr R (cs.set o x) (arr.setIfInBounds o v):=by
 refine⟨by simp[h.1],fun i hi=>?_⟩
 have bD:i<cs.length:=by simpa using hi
 rw[RP]
 by_cases ho:o=i
 ·subst ho
  rw[ak rfl]
  have:(arr.setIfInBounds o v).getD o Go.undef=v:=by simp[Array.getD,h.1,bD]
  rw[this]
  exact hx
 ·rw[aq ho]
  have:(arr.setIfInBounds o v).getD i Go.undef=arr.getD i Go.undef:=by
   simp[Array.getD,h.1,bD,ho]
  rw[this]
  exact h.2 i bD
def jl (arr:Array Value) (o:Nat):List Value→Array Value
 |[]=>arr
 |v::r=>jl (arr.setIfInBounds o v) (o+1) r
theorem xC (arr:Array Value) (o:Nat) (vs:List Value):(jl arr o vs).size=arr.size:=by
 induction vs generalizing arr o with
 |nil=>rfl
 |cons v r ih=>simp[jl,ih]
theorem jr.jl {R:AV→Value→Prop} {xs:List AV} {vs:List Value} (hl:vs.length=xs.length) (hR:∀i (hi:i<xs.length) (hj:i<vs.length),R xs[i] vs[i]):
  ∀{cs:List AV} {arr:Array Value} (o:Nat),jr R cs arr→jr R (setCells cs o xs) (Ax.jl arr o vs):=by
 induction xs generalizing vs with
 |nil=>
  intro cs arr o h
  cases vs with
  |nil=>exact h
  |cons v r=>simp at hl
 | cons x xs ih =>
  intro cs arr o h
  cases vs with
  |nil=>simp at hl
  |cons v r=>
   simp only[setCells,Ax.jl]
   exact ih (by simpa using hl) (fun i hi hj=>hR (i+1) (by simpa using hi) (by simpa using hj)) (o+1) (h.set (hR 0 (by simp) (by simp)) o)
theorem jr.mono {R R':AV→Value→Prop} {cs:List AV} {arr:Array Value} (h:jr R cs arr) (hR:∀x v,R x v→R' x v):jr R' cs arr:=⟨h.1,fun i hi=>hR _ _ (h.2 i hi)⟩
def kJ (R:AV→Value→Prop) (cs:List AV) (arr:Array Value):Prop:=
 cs.length≤arr.size∧∀i (hi:i<cs.length),R cs[i] (arr.getD i Go.undef)
theorem kJ.set {R:AV→Value→Prop} {cs:List AV} {arr:Array Value} (h:kJ R cs arr) {x:AV} {v:Value} (hx:R x v) (o:Nat):kJ R (cs.set o x) (arr.setIfInBounds o v):=by
 refine⟨by simpa using h.1,fun i hi=>?_⟩
 have bD:i<cs.length:=by simpa using hi
 have ha:i<arr.size:=nk bD h.1
 rw[RP]
 by_cases ho:o=i
 ·subst ho
  rw[ak rfl]
  have:(arr.setIfInBounds o v).getD o Go.undef=v:=by simp[Array.getD,ha]
  rw[this]
  exact hx
 ·rw[aq ho]
  have:(arr.setIfInBounds o v).getD i Go.undef=arr.getD i Go.undef:=by
   simp[Array.getD,ha,ho]
  rw[this]
  exact h.2 i bD
theorem kJ.jl {R:AV→Value→Prop} {xs:List AV} {vs:List Value} (hl:vs.length=xs.length) (hR:∀i (hi:i<xs.length) (hj:i<vs.length),R xs[i] vs[i]):
  ∀{cs:List AV} {arr:Array Value} (o:Nat),kJ R cs arr→kJ R (setCells cs o xs) (Ax.jl arr o vs):=by
 induction xs generalizing vs with
 |nil=>
  intro cs arr o h
  cases vs with
  |nil=>exact h
  |cons v r=>simp at hl
 | cons x xs ih =>
  intro cs arr o h
  cases vs with
  |nil=>simp at hl
  |cons v r=>
   simp only[setCells,Ax.jl]
   exact ih (by simpa using hl) (fun i hi hj=>hR (i+1) (by simpa using hi) (by simpa using hj)) (o+1) (h.set (hR 0 (by simp) (by simp)) o)
theorem kJ.mono {R R':AV→Value→Prop} {cs:List AV} {arr:Array Value} (h:kJ R cs arr) (hR:∀x v,R x v→R' x v):kJ R' cs arr:=⟨h.1,fun i hi=>hR _ _ (h.2 i hi)⟩
theorem jr.le {R:AV→Value→Prop} {cs:List AV} {arr:Array Value} (h:jr R cs arr):kJ R cs arr:=⟨R4 h.1.symm,h.2⟩
theorem asE (cs:List AV) (o:Nat) (xs:List AV):(setCells cs o xs).length=cs.length:=by
 induction xs generalizing cs o with
 |nil=>rfl
 |cons x r ih=>simp[setCells,ih]
theorem aad {cs:List AV} {o:Nat} {xs:List AV} {c:AV} (h:c∈setCells cs o xs):c∈cs∨c∈xs:=by
 induction xs generalizing cs o with
 |nil=>exact .inl h
 | cons x r ih =>
  rcases ih h with h|h
  ·rcases RV h with h|rfl
   ·exact .inl h
   ·exact .inr (by simp)
  ·exact .inr (by simp[h])
theorem FL {b:Nat} {ty:TypeId}:∀(vs:List Value) (o:Nat) (arr:Array Value) (w:World),w.heap[b]? =some (.cells arr ty)→(w.setCells b o vs).heap[b]? =some (.cells (jl arr o vs) ty)
 |[],_,_,_,h=>h
 |v::r,o,arr,w,h=>by
  simp only[World.setCells,jl]
  refine FL r (o+1) _ _ ?_
  simp[World.setCell,Array.getElem?_modify,h]
theorem FM {b c:Nat} (hc:c≠b):∀(vs:List Value) (o:Nat) (w:World),(w.setCells b o vs).heap[c]? =w.heap[c]?
 |[],_,_=>rfl
 |v::r,o,w=>by
  simp only[World.setCells]
  rw[FM hc r (o+1)]
  exact Below.heap_setCell _ _ _ _ hc
theorem GW (b:Nat):∀(vs:List Value) (o:Nat) (w:World),(w.setCells b o vs).heap.size=w.heap.size
 |[],_,_=>rfl
 |v::r,o,w=>by
  simp only[World.setCells]
  rw[GW b r (o+1)]
  simp[World.setCell]
theorem Dx {B b:Nat} (hb:B≤b):∀(vs:List Value) (o:Nat) (w:World),Below B w (w.setCells b o vs)
 |[],_,w=>Below.refl _ _
 |v::r,o,w=>by
  simp only[World.setCells]
  exact((Below.refl B w).setCell (p:=⟨b,o,none⟩) hb v).trans (Dx hb r (o+1) _)
theorem cell_of_heap {b i:Nat} {arr:Array Value} {ty:TypeId} {fz:Nat×Nat} (h:w.heap[b]? =some (.cells arr ty fz)):w.cell? ⟨b,i,none⟩=arr[i]? :=by
 simp[World.cell?,h]
theorem frozen_of_heap {b i:Nat} {arr:Array Value} {ty:TypeId} (h:w.heap[b]? =some (.cells arr ty)):w.frozen? ⟨b,i,none⟩=false:=by
 simp[World.frozen?,h]
theorem E7 {b c i:Nat} {w':World} (h:w'.heap[b]? =w.heap[b]?) (hc:c=b):w'.cell? ⟨c,i,none⟩=w.cell? ⟨c,i,none⟩:=by
 subst hc
 simp[World.cell?,h]
structure At (P:Program) (B0:Nat) (w0:World) (G:aG) (k nl:Nat) (s:ae) (w:World):Prop where
 rel:cz P B0 w0 G s w
 len:s.ag.length=k+1
 cur:∃gr,G.ag[k]? =some gr∧gr.nl=nl
theorem At.gS (h:At P B0 w0 G k nl s w):s.cur=k:=by simp[ae.cur,h.len]
theorem At.sE (h:At P B0 w0 G k nl s w):nl≤s.loops.length:=by
 obtain⟨gr,h1,rfl⟩:=h.cur
 exact h.rel.pE _ _ h1
theorem At.box (h:At P B0 w0 G k nl s w) {d b:Nat} {cs:List AV} {gr:cE} {blk:Nat} (hd:d≤k) (hc:s.box d b=some cs) (hg:G.ag[d]? =some gr) (hb:gr.bl[b]? =some (some blk)):
  ∃r,s.ag[d]? =some r∧r.boxes[b]? =some cs∧pJ B0 G d gr.nl b (gr.gs b) cs blk w∧
   ∃arr ty,w.heap[blk]? =some (.cells arr ty)∧kJ (Rel G k nl) cs arr∧∀c,c∈cs→c.bu=true:=by
 simp only[ae.box]at hc
 cases hr:s.ag[d]? with
 |none=>rw[hr]at hc;cases hc
 |some r=>
  rw[hr]at hc
  have dp:=(h.rel.cI d r gr hr hg).box b cs blk hc hb
  refine⟨r,rfl,hc,dp,?_⟩
  obtain⟨_,_,_,arr,ty,h4,h5,_,h6⟩:=dp
  obtain⟨gk,sc,rfl⟩:=h.cur
  refine⟨arr,ty,h4,⟨h5,fun i hi=>(h6 i hi).2.mono (bB.refl _ _ _) hd (h.rel.q9 d k gr gk hd hg sc)⟩,fun c pd=>?_⟩
  obtain⟨i,hi,rfl⟩:=n6 pd
  exact(h6 i hi).1
theorem il (b o i:Nat):(⟨b,o,none⟩:Addr).add i=⟨b,o+i,none⟩:=by
 unfold Addr.add
 split
 ·rename_i h;subst h;rfl
 ·rfl
theorem At.row (h:At P B0 w0 G k nl s w) {x:AV} {y:Value} {cs:List AV} {off:Nat} (hx:Rel G k nl x y) (hr:s.row x=some (cs,off)):
  ∃(blk o0:Nat) (f:Nat→Value),y=.pointer (some ⟨blk,o0+off,none⟩)∧(∀c,c∈cs→c.bu=true)∧
   (∀i,i<cs.length→w.cell? ⟨blk,o0+i,none⟩=some (f i))∧∀i (hi:i<cs.length),Rel G k nl cs[i] (f i):=by
 cases x with
 | ptr d b Qk =>
  simp only[ae.row]at hr
  cases hc:s.box d b with
  |none=>rw[hc]at hr;cases hr
  |some cs'=>
   rw[hc]at hr
   simp only[dP,fL,Cx]at hr
   obtain⟨rfl,rfl⟩:=hr
   obtain⟨blk,gr,rfl,hd,hg,hb⟩:=hx.sy
   obtain⟨r,_,_,_,arr,ty,h4,h5,h6⟩:=h.box hd hc hg hb
   refine⟨blk,0,fun i=>arr.getD i Go.undef,by simp,h6,fun i hi=>?_,fun i hi=>h5.2 i hi⟩
   rw[cell_of_heap h4]
   have:=nk hi h5.1
   simp[this,Array.getD]
 |bo cs' Qk=>
  simp only[ae.row]at hr
  simp only[fL,Cx]at hr
  obtain⟨rfl,rfl⟩:=hr
  obtain⟨blk,o0,f,rfl,h1,h2,h3⟩:=hx.zn
  exact⟨blk,o0,f,rfl,h1,fun i hi=>h.rel.ff _ _ _ (h2 i hi),fun i hi=>.cl (h3 i hi)⟩
 |_=>cases hr
theorem Qv {cs:List AV} {off n:Nat} {agg:Bool} {v:AV} {f:Nat→Value} (hp:part agg n cs off=some v) (bt:∀c,c∈cs→c.bu=true)
  (hR:∀i (hi:i<cs.length),Rel G k nl cs[i] (f i)):
  (agg=true∧off+n≤cs.length∧Rel G k nl v (.agg ((List.range n).map fun j=>f (off+j)).toArray))∨(agg=false∧off<cs.length∧Rel G k nl v (f off)):=by
 unfold part at hp
 split at hp
 ·split at hp
  ·rename_i Bd hle
   injection hp with hp
   subst hp
   refine .inl ⟨Bd,hle,.agg (by simp;omega) (fun c hc=>bt c (Hr (vJ hc))) (fun i hi=>?_)⟩
   have bD:i<n:=by simp at hi;omega
   have:((List.range n).map fun j=>f (off+j)).toArray.getD i Go.undef=f (off+i):=by simp[Array.getD,bD]
   rw[this]
   have he:((cs.drop off).take n)[i]=cs[off+i]'(by omega):=by simp
   rw[he]
   exact hR _ _
  ·cases hp
 ·rename_i Bd
  obtain⟨h1,h2⟩:=aY.1 hp
  exact .inr ⟨by simpa using Bd,h1,h2 ▸ hR off h1⟩
theorem zo {t:TypeId} {g:Bool} (h:tI P t=some g) (w:World):(isAgg t).run P w=.ok g w:=by
 unfold tI at h
 cases hu:P.underlying t with
 |none=>rw[hu]at h;cases h
 |some d=>
  rw[hu]at h
  simp only[dP,fL]at h
  subst h
  unfold isAgg
  simp only[Sem.run_bind,run_underlying hu,Result.andThen_ok]
  cases d<;>simp[pure]
theorem jF {t:TypeId} {n:Nat} (h:cK P t=some n) (w:World):(sizeOf t).run P w=.ok n w:=by
 unfold cK at h
 cases hi:P.info? t with
 |none=>rw[hi]at h;cases h
 |some i=>
  rw[hi]at h
  simp only[dP,fL]at h
  subst h
  simp[sizeOf,typeInfo,hi]
theorem Ky (h:At P B0 w0 G k nl s w) {x v:AV} {y:Value} {agg:Bool} {n:Nat} {t:TypeId} (hx:Rel G k nl x y) (hl:s.load agg n x=some v) (ha:tI P t=some agg) (hn:cK P t=some n):
  ∃v',(Instr.loadAt t y).run P w=.ok v' w∧Rel G k nl v v':=by
 unfold ae.load at hl
 cases hr:s.row x with
 |none=>rw[hr]at hl;cases hl
 | some p =>
  obtain⟨cs,off⟩:=p
  rw[hr]at hl
  simp only[eL]at hl
  obtain⟨blk,o0,f,rfl,bt,hc,hR⟩:=h.row hx hr
  have Ws:∀j,off+j<cs.length→w.cell? ((⟨blk,o0+off,none⟩:Addr).add j)=some (f (off+j)):=fun j hj=>by
   rw[il,vK];exact hc _ hj
  rcases Qv hl bt hR with⟨rfl,hle,hv⟩|⟨rfl,aC,hv⟩
  ·refine⟨_,?_,hv⟩
   have OU:=run_loadCells (P:=P) w (⟨blk,o0+off,none⟩:Addr) n (fun j=>f (off+j)) (fun j hj=>Ws j (by omega))
   simp only[Instr.loadAt,Instr.sureAddr,loadVar,Sem.run_bind,Sem.run_pure,Result.andThen_ok,zo ha,jF hn,bZ,OU]
  ·refine⟨_,?_,hv⟩
   have:=Ws 0 (by omega)
   rw[il]at this
   simp only[vL]at this
   simp only[Instr.loadAt,Instr.sureAddr,loadVar,Sem.run_bind,Sem.run_pure,Result.andThen_ok,zo ha,eB,dt]
   simp[run_load,this]
theorem dQ {α:Type} (l:List α) (i j:Nat) (f:α→α):(l.modify i f)[j]? =if i=j then(l[j]?).map f else l[j]? :=by
 rw[vH]
 split<;>simp_all
theorem cz.dG (h:cz P B0 w0 G s w) {d b:Nat} {cs cs':List AV} {r:Rec} {gr:cE} {blk:Nat} {arr:Array Value} {ty:TypeId} {w':World}
  (hr:s.ag[d]? =some r) (hg:G.ag[d]? =some gr) (hb:r.boxes[b]? =some cs) (cu:gr.bl[b]? =some (some blk))
  (w7:cs≠[]) (aB:cs'≠[]) (bt:∀c,c∈cs'→c.bu=true) (hR:kJ (Rel G d gr.nl) cs' arr) (FO:∀n,gr.gs b=some n→arr.size=n) (hw:w'.heap[blk]? =some (.cells arr ty)) (F7:∀c,c≠blk→w'.heap[c]? =w.heap[c]?)
  (yO:Below B0 w w') (bP:w'.heap.size=w.heap.size):cz P B0 w0 G (s.dG d b cs') w':=by
 have dp:=(h.cI d r gr hr hg).box b cs blk hb cu
 have hk:jI (· =.box d b) G w G w':=fun c o ho aB=>by
  refine⟨ho,F7 c (fun e=>?_),fun _ e=>e⟩
  subst e
  obtain⟨x,vd,oE⟩:=dp.2.1
  rw[vd,oE w7]at ho
  injection ho with ho
  exact aB ho.symm
 refine⟨fun c i v e=>?_,by simp only[ae.dG,ae.br,Lv];exact h.len,h.jT,fun d' r' bI h1 h2=>?_,fun l lp r' h1 h2=>?_,h.pE,h.q9,h.below.trans yO,by rw[bP];exact h.low,fun c o ho=>by rw[bP];exact h.eO c o ho⟩
 ·have aB:c≠blk:=by
   rintro rfl
   rw[dp.2.2.1 w7]at e
   cases e
  rw[E7 (F7 c aB) rfl]
  exact h.ff c i v e
 ·simp only [ae.dG, ae.br, dQ] at h1
  by_cases hd:d=d'
  ·subst hd
   rw[ak rfl,hr]at h1
   simp only[dP,fL]at h1
   rw[hg]at h2
   injection h2 with h2
   subst h1 h2
   have aJ:=h.cI d r gr hr hg
   refine⟨by simpa using aJ.ek,aJ.iV,fun b' UW fV e1 e2=>?_,fun b' fV e1 e2=>?_,fun g n T e1 e2=>?_,fun i b' e1=>?_,aJ.mP⟩
   ·simp only[sW]at e1
    by_cases wP:b=b'
    ·subst wP
     rw[cu]at e2
     injection e2 with e2
     injection e2 with e2
     subst e2
     rw[ak rfl]at e1
     split at e1
     ·injection e1 with e1
      subst e1
      obtain⟨x,vd,oE⟩:=dp.2.1
      refine⟨dp.1,⟨x,vd,fun _=>oE w7⟩,fun _=>dp.2.2.1 w7,arr,ty,hw,hR.1,fun _=>FO,fun i hi=>⟨bt _ (gA hi),hR.2 i hi⟩⟩
     ·cases e1
    ·rw[aq wP]at e1
     have fO:=aJ.box b' UW fV e1 e2
     obtain⟨x,vd,oE⟩:=fO.2.1
     by_cases su:x=b
     · -- a dead box, whose block is this one's
      subst su
      have w8:UW=[]:=by
       apply qm
       intro hn
       exact wP (oE hn)
      subst w8
      have FU:fV=blk∨fV≠blk:=by omega
      obtain⟨q1,q2,q3,HP,K8,q4,q5,q6,q7⟩:=fO
      rcases FU with rfl|FU
      ·exact⟨q1,q2,q3,arr,ty,hw,bh _,fun hn=>absurd rfl hn,fun i hi=>absurd hi (dk _)⟩
      ·exact⟨q1,q2,q3,HP,K8,(F7 _ FU).trans q4,q5,q6,q7⟩
     ·obtain⟨k1,k2,k3⟩:=hk _ _ vd (fun e=>by injection e with _ e;exact su e)
      exact fO.cJ (bB.refl _ _ _) (fun y e=>e) k2 k3
   ·simp only[sW]at e2
    by_cases wP:b=b'
    ·subst wP
     rw[ak rfl]at e2
     split at e2
     ·injection e2 with e2
      exact absurd e2 aB
     ·cases e2
    ·rw[aq wP]at e2
     exact aJ.full b' fV e1 e2
   ·have ht:=aJ.tok g n T e1 e2
    have hs:∀(hn:n.isSome=true),G.own T.blk=some (.tok d g)∧w'.heap[T.blk]? =w.heap[T.blk]? ∧∀i,G.I T.blk i=none→G.I T.blk i=none:=fun hn=>by
     obtain⟨m,hm⟩:=oO.1 hn
     exact hk _ _ (ht.2 m hm).2.1 (fun e=>by cases e)
    exact ht.cJ (fun hn=>(hs hn).1) (fun hn=>(hs hn).2.1) (fun hn=>(hs hn).2.2)
   ·have hm:=aJ.mark i b' e1
    obtain⟨k1,k2,_⟩:=hk _ _ hm.2.1 (fun e=>by cases e)
    exact hm.cJ k1 k2
  ·rw[aq hd]at h1
   exact(h.cI d' r' bI h1 h2).cJ (bB.refl _ _ _) hk (fun o ho=>by
    subst ho
    refine⟨fun b' e=>?_,fun g e=>?_,fun i e=>?_⟩
    ·injection e with e
     exact hd e
    ·cases e
    ·cases e)
 ·have nN:=h.loop l lp r' h1 h2
  obtain⟨k1,k2,_⟩:=hk _ _ nN.2.1 (fun e=>by cases e)
  exact nN.cJ (fun _ _ _ _=>bB.refl _ _ _) (aH _) k1 k2
theorem Rel.cells {y:AV} {v:Value} (h:Rel G k nl y v) (hc:y.cells.all AV.bu=true):jr (Rel G k nl) y.cells v.cells:=by
 by_cases hy:∃cs,y=.agg cs
 ·obtain⟨cs,rfl⟩:=hy
  obtain⟨arr,rfl,h1,_,h3⟩:=h.xm
  exact⟨h1,h3⟩
 ·have he:y.cells=[y]:=by
   unfold AV.cells
   split
   ·exact absurd ⟨_,rfl⟩ hy
   ·rfl
  rw[he]at hc⊢
  have Pb:y.bu=true:=by simpa using hc
  rw[h.one Pb]
  refine⟨rfl,fun i hi=>?_⟩
  have:i=0:=by simp at hi;omega
  subst this
  exact h
theorem KJ {x:AV} {v:Value} (h:Rel G k nl x v) (hc:x.bu=true):v.oneCell'=true:=by
 have:=h.one hc
 cases v with
 | agg cs =>
  exfalso
  cases h with
  |cl h=>cases h with
   |v h=>simp[plain]at h
   |agg=>cases hc
  |agg=>cases hc
 | tuple vs =>
  exfalso
  cases h with
  |cl h=>cases h with
   |v h=>simp[plain]at h
  |undef=>cases hc
  |tuple=>cases hc
 |_=>rfl
theorem atd {b:Nat} {arr:Array Value} {ty:TypeId} {off n:Nat} {t:TypeId} {v:Value} (hw:w.heap[b]? =some (.cells arr ty)) (hn:cK P t=some n) (hs:v.cells.size=n) (hle:off+n≤arr.size)
  (h1:∀u,u∈v.cells.toList→u.oneCell'=true):(Instr.storeAt t (.pointer (some ⟨b,off,none⟩)) v).run P w=.ok () (w.setCells b off v.cells.toList):=by
 have bX:=run_storeCells_cells (P:=P) b off v.cells.toList 0 w (fun j hj=>by
   have dM:j<n:=by simpa[hs]using hj
   rw[cell_of_heap hw]
   simp;omega) (fun j _=>frozen_of_heap hw) h1
 simp only[Instr.storeAt,Instr.sureAddr,storeVar,Sem.run_bind,Sem.run_pure,Result.andThen_ok,jF hn]
 rw[aq (by simp[hs])]
 simpa using bX
end
end Go.Ax
/-
  Memory: an activation's record is changed; new boxes; rights to append are made, moved and dropped.
-/
namespace Go.Ax
open Go.RowKit
section
variable{P:Program} {B0:Nat} {w0:World} {G G':aG} {k nl:Nat} {w w':World} {s:ae}
theorem cz.br (h:cz P B0 w0 G s w) {d0:Nat} {r0:Rec} {iL:cE} (hr:s.ag[d0]? =some r0) (hg:G.ag[d0]? =some iL) (f:Rec→Rec) (gf:cE→cE) (X:rC→Prop)
  (hG:G'.ag=G.ag.modify d0 gf) (hL:G'.loops=G.loops) (hI:∀b i v,G.I b i=some v→G'.I b i=some v) (fc:iZ iL (gf iL)) (JY:(gf iL).marks=iL.marks)
  (hk:jI X G w G' w') (hX:∀o,X o→(∃b,o=.box d0 b)∨∃g,o=.tok d0 g) (ajL:vP B0 G' d0 (f r0) (gf iL) w')
  (FR:∀b i v,G'.I b i=some v→w'.cell? ⟨b,i,none⟩=some v) (hb:Below B0 w w') (F6:∀b o,G'.own b=some o→b<w'.heap.size):
  cz P B0 w0 G' (s.br d0 f) w'∧∀k nl,bB k nl G G':=by
 have hle:∀k nl,bB k nl G G':=fun k nl=>⟨hI,fun d gr _ e=>by
  rw[hG,dQ]
  by_cases hd:d0=d
  ·subst hd
   rw[hg]at e
   injection e with e
   subst e
   exact⟨_,by rw[ak rfl,hg];rfl,fc,fun _=>JY⟩
  ·exact⟨gr,by rw[aq hd];exact e,.refl gr,fun _=>rfl⟩,fun l r _ e=>by rw[hL];exact e⟩
 have Ow:∀(d:Nat) (bI:cE),G'.ag[d]? =some bI→∃gr:cE,G.ag[d]? =some gr∧bI.nl=gr.nl:=fun d bI e=>by
  rw[hG,dQ]at e
  by_cases hd:d0=d
  ·subst hd
   rw[ak rfl,hg]at e
   simp only[dP,fL]at e
   subst e
   exact⟨iL,hg,fc.nl⟩
  ·rw[aq hd]at e
   exact⟨bI,e,rfl⟩
 refine⟨⟨FR,by simp only[hG,ae.br,Lv];exact h.len,by rw[hL];exact h.jT,fun d r gr h1 h2=>?_,fun l lp r h1 h2=>?_,fun d gr e=>?_,fun d d' gr bI hd e e'=>?_,h.below.trans hb,jK h.low hb.size,F6⟩,hle⟩
 ·simp only[ae.br,dQ]at h1
  rw[hG,dQ]at h2
  by_cases hd:d0=d
  ·subst hd
   rw[ak rfl,hr]at h1
   rw[ak rfl,hg]at h2
   simp only[dP,fL]at h1 h2
   subst h1 h2
   exact ajL
  ·rw[aq hd]at h1 h2
   refine(h.cI d r gr h1 h2).cJ (hle _ _) hk (fun o ho=>?_)
   rcases hX o ho with⟨b,rfl⟩|⟨g,rfl⟩
   ·refine⟨fun b' e=>?_,fun g e=>?_,fun i e=>?_⟩
    ·injection e with e;exact hd e
    ·cases e
    ·cases e
   ·refine⟨fun b' e=>?_,fun g e=>?_,fun i e=>?_⟩
    ·cases e
    ·injection e with e;exact hd e
    ·cases e
 ·rw[hL]at h2
  have nN:=h.loop l lp r h1 h2
  obtain⟨k1,k2,_⟩:=hk _ _ nN.2.1 (fun hx=>by rcases hX _ hx with⟨b,e⟩|⟨g,e⟩<;>cases e)
  exact nN.cJ (fun k nl _ _=>hle k nl) (by rw[hG,Lv];exact aH _) k1 k2
 ·obtain⟨ahm,e0,e1⟩:=Ow d gr e
  rw[e1]
  exact h.pE d ahm e0
 ·obtain⟨a,e0,e1⟩:=Ow d gr e
  obtain⟨b,e2,e3⟩:=Ow d' bI e'
  rw[e1,e3]
  exact h.q9 d d' a b hd e0 e2
def df (P:Program) (B0:Nat) (w0:World) (G:aG) (k nl:Nat) (s s':ae) (w':World) (x:AV) (x':Value):Prop:=
 ∃G',At P B0 w0 G' k nl s' w'∧bB (k+1) s.loops.length G G'∧s'.loops.length=s.loops.length∧Rel G' k nl x x'
theorem At.to {G':aG} {s':ae} (h:At P B0 w0 G k nl s w) (hr:cz P B0 w0 G' s' w') (hle:bB k nl G G') (hl:s'.ag.length=s.ag.length):At P B0 w0 G' k nl s' w':=by
 obtain⟨gr,h1,h2⟩:=h.cur
 obtain⟨bI,h3,h4,_⟩:=hle.ag k gr (aH _) h1
 exact⟨hr,hl.trans h.len,bI,h3,h4.nl.trans h2⟩
theorem At.cI (h:At P B0 w0 G k nl s w) {d:Nat} (hd:d≤k):∃r gr,s.ag[d]? =some r∧G.ag[d]? =some gr:=by
 have h1:d<s.ag.length:=by rw[h.len];omega
 have h2:d<G.ag.length:=by rw[h.rel.len];exact h1
 exact⟨_,_,cM h1,cM h2⟩
theorem ev {α:Type} {l:List α} {b:Nat} {x y:α} (h:(l++[x])[b]? =some y):(b<l.length∧l[b]? =some y)∨(b=l.length∧y=x):=by
 rcases R6 b l.length with hb|hb
 ·rw[dB hb]at h;exact .inl ⟨hb,h⟩
 ·rw[gM hb]at h
  have:b-l.length=0:=by
   have:=(aY.1 h).1
   simp at this;omega
  rw[this]at h
  simp at h
  exact .inr ⟨by omega,h.symm⟩
theorem mO {α:Type} {l:List α} {b:Nat} {x y:α} (h:l[b]? =some y):(l++[x])[b]? =some y:=by
 rw[dB (aY.1 h).1];exact h
theorem zu (h:At P B0 w0 G k nl s w) {cs:List AV} {arr:Array Value} (ty:TypeId) (z:Option Nat) (hz:∀n,z=some n→arr.size=n) (aB:cs≠[]) (bt:∀c,c∈cs→c.bu=true) (hR:kJ (Rel G k nl) cs arr):
  df P B0 w0 G k nl s (s.dF cs).2 (w.alloc (.cells arr ty)) (s.dF cs).1 (.pointer (some ⟨w.heap.size,0,none⟩))∧
  df P B0 w0 G k nl s (s.dF cs).2 (w.alloc (.cells arr ty)) (.aN s.cur (s.bN s.cur) 0 0 0 0) (.slice (some ⟨w.heap.size,0,none⟩) 0 0)∧
  ∀es n cap rc,n≤rc→cap≤rc→(cap=0→0<n→z=some (rc*es))→df P B0 w0 G k nl s (s.dF cs).2 (w.alloc (.cells arr ty)) (.aN s.cur (s.bN s.cur) 0 es n cap) (.slice (some ⟨w.heap.size,0,none⟩) n rc):=by
 obtain⟨r,gr,hr,hg⟩:=h.cI (aH k)
 have lE:gr.nl=nl:=by obtain⟨g',e1,e2⟩:=h.cur;rw[hg]at e1;injection e1 with e1;rw[e1];exact e2
 have aJ:=h.rel.cI k r gr hr hg
 let G':aG:={G with ag:=G.ag.modify k fun q=>{q with bl:=q.bl++[some w.heap.size],gs:=fun b=>if b=r.boxes.length then z else q.gs b},own:=fun b=>if b=w.heap.size then some (.box k r.boxes.length)else G.own b}
 have hk:jI (fun _=>False) G w G' (w.alloc (.cells arr ty)):=fun b o e _=>by
  have aC:=h.rel.eO b o e
  exact⟨by simp only[G'];rw[aq (by omega)];exact e,Below.heap_alloc _ _ _ aC,fun _ e=>e⟩
 have fc:iZ gr {gr with bl:=gr.bl++[some w.heap.size],gs:=fun b=>if b=r.boxes.length then z else gr.gs b}:=⟨fun b blk e=>mO e,fun g T e=>⟨T,e,.refl T⟩,rfl,fun b n e=>by
  obtain⟨blk,hb⟩:=aJ.mP b n e
  have:=(aY.1 hb).1
  rw[aJ.ek]at this
  simp only
  rw[aq (by omega)];exact e⟩
 have gG:(w.alloc (.cells arr ty)).heap[w.heap.size]? =some (.cells arr ty):=World.alloc_heap_new w _
 have hle:bB k nl G G':=⟨fun _ _ _ e=>e,fun d q _ e=>by
  simp only[G',dQ]
  by_cases hd:k=d
  ·subst hd
   rw[hg]at e
   injection e with e
   subst e
   exact⟨_,by rw[ak rfl,hg];rfl,fc,fun _=>rfl⟩
  ·exact⟨q,by rw[aq hd];exact e,.refl q,fun _=>rfl⟩,fun _ _ _ e=>e⟩
 have fm:=h.rel.br (G':=G') (w':=w.alloc (.cells arr ty)) hr hg (fun r=>{r with boxes:=r.boxes++[cs]}) (fun q=>{q with bl:=q.bl++[some w.heap.size],gs:=fun b=>if b=r.boxes.length then z else q.gs b}) (fun _=>False) rfl rfl (fun _ _ _ e=>e) fc rfl hk
  (fun o ho=>ho.elim) ?_ (fun b i v e=>?_) ((Below.refl _ _).alloc h.rel.low _) (fun b o e=>?_)
 ·obtain⟨hs,jQ⟩:=fm
  have mU:cz P B0 w0 G' (s.dF cs).2 (w.alloc (.cells arr ty)):=by
   simp only[ae.dF,h.gS,ae.js]
   exact hs
  have hlen:(s.dF cs).2.ag.length=s.ag.length:=by simp[ae.dF,ae.js,ae.br]
  have jf:=h.to mU hle hlen
  have oA:s.bN s.cur=r.boxes.length:=by simp[ae.bN,h.gS,hr]
  have gE:G'.ag[k]? =some {gr with bl:=gr.bl++[some w.heap.size],gs:=fun b=>if b=r.boxes.length then z else gr.gs b}:=by
   show(G.ag.modify k _)[k]? =_
   rw[dQ,ak rfl,hg];rfl
  have yU:({gr with bl:=gr.bl++[some w.heap.size],gs:=fun b=>if b=r.boxes.length then z else gr.gs b}:cE).bl[r.boxes.length]? =some (some w.heap.size):=by
   show(gr.bl++[some w.heap.size])[r.boxes.length]? =_
   rw[←aJ.ek,gM (aH _)]
   simp
  have aQ:(s.dF cs).2.loops.length=s.loops.length:=by simp[ae.dF,ae.js,ae.br]
  refine⟨⟨G',jf,jQ _ _,aQ,?_⟩,⟨G',jf,jQ _ _,aQ,?_⟩,fun es n cap rc hn hc hw=>⟨G',jf,jQ _ _,aQ,?_⟩⟩
  ·simp only[ae.dF,h.gS]
   rw[h.gS]at oA
   rw[oA]
   exact .ptr _ (aH _) gE yU
  ·rw[oA,h.gS]
   exact .aN _ (aH _) gE yU (aH _) (aH _) (fun _ h=>absurd h (zU _)) (fun _=>rfl)
  ·rw[oA,h.gS]
   exact .aN _ (aH _) gE yU hn hc (fun e1 e2=>by simp only;rw[ak trivial];exact hw e1 e2) (fun _=>rfl)
 ·refine⟨by simp[aJ.ek],aJ.iV,fun b cs' blk e1 e2=>?_,fun b blk e1 e2=>?_,fun g n T e1 e2=>?_,fun i b e1=>?_,fun b n e1=>?_⟩
  ·rcases ev e1 with⟨hb,e1⟩|⟨hb,rfl⟩
   ·have jd:gr.bl[b]? =some (some blk):=by
     rcases ev e2 with⟨_,e2⟩|⟨fO,_⟩
     ·exact e2
     ·rw[aJ.ek]at fO;omega
    have dp:=(aJ.box b cs' blk e1 jd).kept (by rw[lE];exact hle) hk (fun _ x=>x)
    show pJ B0 G' k gr.nl b (if b=r.boxes.length then z else gr.gs b) cs' blk _
    rw[aq (by omega)];exact dp
   ·have:blk=w.heap.size:=by
     rcases ev e2 with⟨fO,_⟩|⟨_,e⟩
     ·rw[aJ.ek]at fO;omega
     ·injection e
    subst this
    subst hb
    refine⟨h.rel.low,⟨_,by simp[G'],fun _=>rfl⟩,fun _=>h.rel.ud,arr,ty,gG,hR.1,fun _ n hn=>hz n (by simpa using hn),fun i hi=>⟨bt _ (gA hi),?_⟩⟩
    have:=(hR.2 i hi).mono hle (aH _) (aH _)
    show Rel G' k gr.nl _ _
    rw[lE]
    exact this
  ·rcases ev e2 with⟨hb,e2⟩|⟨hb,e2⟩
   ·have nu:gr.bl[b]? =some (some blk):=by
     rcases ev e1 with⟨_,e1⟩|⟨fO,_⟩
     ·exact e1
     ·rw[aJ.ek]at fO;omega
    exact aJ.full b blk nu e2
   ·exact absurd e2.symm aB
  ·have ht:=aJ.tok g n T e1 e2
   have hs:∀(hn:n.isSome=true),G'.own T.blk=some (.tok k g)∧(w.alloc (.cells arr ty)).heap[T.blk]? =w.heap[T.blk]? ∧∀i,G.I T.blk i=none→G'.I T.blk i=none:=fun hn=>by
    obtain⟨m,hm⟩:=oO.1 hn
    exact hk _ _ (ht.2 m hm).2.1 (fun x=>x)
   exact ht.cJ (fun hn=>(hs hn).1) (fun hn=>(hs hn).2.1) (fun hn=>(hs hn).2.2)
  ·have hm:=aJ.mark i b e1
   obtain⟨k1,k2,_⟩:=hk _ _ hm.2.1 (fun x=>x)
   exact hm.cJ k1 k2
  ·simp only at e1
   split at e1
   ·rename_i hb
    subst hb
    refine⟨w.heap.size,?_⟩
    rw[←aJ.ek,gM (aH _)]
    simp
   ·obtain⟨blk,hb⟩:=aJ.mP b n e1
    exact⟨blk,mO hb⟩
 ·have aC:=h.rel.sS e
  rw[World.cell?_alloc_lt _ _ _ (by exact aC)]
  exact h.rel.ff b i v e
 ·simp only[G']at e
  split at e
  ·rename_i hb;subst hb;simp
  ·have:=h.rel.eO b o e;simp;omega
theorem ao3 (h:At P B0 w0 G k nl s w) {d:Nat} {gr:cE} (hd:d≤k) (hg:G.ag[d]? =some gr) {cs:List AV} {arr:Array Value} (ty:TypeId) (z:Option Nat) (hz:∀n,z=some n→arr.size=n) (aB:cs≠[]) (bt:∀c,c∈cs→c.bu=true) (hR:kJ (Rel G d gr.nl) cs arr):
  ∀es n cap rc,n≤rc→cap≤rc→(cap=0→0<n→z=some (rc*es))→df P B0 w0 G k nl s (s.js d cs) (w.alloc (.cells arr ty)) (.aN d (s.bN d) 0 es n cap) (.slice (some ⟨w.heap.size,0,none⟩) n rc):=by
 obtain⟨r,bI,hr,bz⟩:=h.cI hd
 rw[hg]at bz
 injection bz with bz
 subst bz
 have aJ:=h.rel.cI d r gr hr hg
 let G':aG:={G with ag:=G.ag.modify d fun q=>{q with bl:=q.bl++[some w.heap.size],gs:=fun b=>if b=r.boxes.length then z else q.gs b},own:=fun b=>if b=w.heap.size then some (.box d r.boxes.length)else G.own b}
 have hk:jI (fun _=>False) G w G' (w.alloc (.cells arr ty)):=fun b o e _=>by
  have aC:=h.rel.eO b o e
  exact⟨by simp only[G'];rw[aq (by omega)];exact e,Below.heap_alloc _ _ _ aC,fun _ e=>e⟩
 have fc:iZ gr {gr with bl:=gr.bl++[some w.heap.size],gs:=fun b=>if b=r.boxes.length then z else gr.gs b}:=⟨fun b blk e=>mO e,fun g T e=>⟨T,e,.refl T⟩,rfl,fun b n e=>by
  obtain⟨blk,hb⟩:=aJ.mP b n e
  have:=(aY.1 hb).1
  rw[aJ.ek]at this
  simp only
  rw[aq (by omega)];exact e⟩
 have gG:(w.alloc (.cells arr ty)).heap[w.heap.size]? =some (.cells arr ty):=World.alloc_heap_new w _
 have hle:bB d gr.nl G G':=⟨fun _ _ _ e=>e,fun d' q _ e=>by
  simp only[G',dQ]
  by_cases hd:d=d'
  ·subst hd
   rw[hg]at e
   injection e with e
   subst e
   exact⟨_,by rw[ak rfl,hg];rfl,fc,fun _=>rfl⟩
  ·exact⟨q,by rw[aq hd];exact e,.refl q,fun _=>rfl⟩,fun _ _ _ e=>e⟩
 have fm:=h.rel.br (G':=G') (w':=w.alloc (.cells arr ty)) hr hg (fun r=>{r with boxes:=r.boxes++[cs]}) (fun q=>{q with bl:=q.bl++[some w.heap.size],gs:=fun b=>if b=r.boxes.length then z else q.gs b}) (fun _=>False) rfl rfl (fun _ _ _ e=>e) fc rfl hk
  (fun o ho=>ho.elim) ?_ (fun b i v e=>?_) ((Below.refl _ _).alloc h.rel.low _) (fun b o e=>?_)
 ·obtain⟨hs,jQ⟩:=fm
  have mU:cz P B0 w0 G' (s.js d cs) (w.alloc (.cells arr ty)):=hs
  have hlen:(s.js d cs).ag.length=s.ag.length:=by simp[ae.js,ae.br]
  have jf:=h.to mU (jQ k nl) hlen
  have oA:s.bN d=r.boxes.length:=by simp[ae.bN,hr]
  have gE:G'.ag[d]? =some {gr with bl:=gr.bl++[some w.heap.size],gs:=fun b=>if b=r.boxes.length then z else gr.gs b}:=by
   show(G.ag.modify d _)[d]? =_
   rw[dQ,ak rfl,hg];rfl
  have yU:({gr with bl:=gr.bl++[some w.heap.size],gs:=fun b=>if b=r.boxes.length then z else gr.gs b}:cE).bl[r.boxes.length]? =some (some w.heap.size):=by
   show(gr.bl++[some w.heap.size])[r.boxes.length]? =_
   rw[←aJ.ek,gM (aH _)]
   simp
  have aQ:(s.js d cs).loops.length=s.loops.length:=by simp[ae.js,ae.br]
  refine fun es n cap rc hn hc hw=>⟨G',jf,jQ _ _,aQ,?_⟩
  rw[oA]
  exact .aN _ hd gE yU hn hc (fun e1 e2=>by simp only;rw[ak trivial];exact hw e1 e2) (fun _=>rfl)
 ·refine⟨by simp[aJ.ek],aJ.iV,fun b cs' blk e1 e2=>?_,fun b blk e1 e2=>?_,fun g n T e1 e2=>?_,fun i b e1=>?_,fun b n e1=>?_⟩
  ·rcases ev e1 with⟨hb,e1⟩|⟨hb,rfl⟩
   ·have jd:gr.bl[b]? =some (some blk):=by
     rcases ev e2 with⟨_,e2⟩|⟨fO,_⟩
     ·exact e2
     ·rw[aJ.ek]at fO;omega
    have dp:=(aJ.box b cs' blk e1 jd).kept hle hk (fun _ x=>x)
    show pJ B0 G' d gr.nl b (if b=r.boxes.length then z else gr.gs b) cs' blk _
    rw[aq (by omega)];exact dp
   ·have:blk=w.heap.size:=by
     rcases ev e2 with⟨fO,_⟩|⟨_,e⟩
     ·rw[aJ.ek]at fO;omega
     ·injection e
    subst this
    subst hb
    refine⟨h.rel.low,⟨_,by simp[G'],fun _=>rfl⟩,fun _=>h.rel.ud,arr,ty,gG,hR.1,fun _ n hn=>hz n (by simpa using hn),fun i hi=>⟨bt _ (gA hi),?_⟩⟩
    have:=(hR.2 i hi).mono hle (aH _) (aH _)
    exact this
  ·rcases ev e2 with⟨hb,e2⟩|⟨hb,e2⟩
   ·have nu:gr.bl[b]? =some (some blk):=by
     rcases ev e1 with⟨_,e1⟩|⟨fO,_⟩
     ·exact e1
     ·rw[aJ.ek]at fO;omega
    exact aJ.full b blk nu e2
   ·exact absurd e2.symm aB
  ·have ht:=aJ.tok g n T e1 e2
   have hs:∀(hn:n.isSome=true),G'.own T.blk=some (.tok d g)∧(w.alloc (.cells arr ty)).heap[T.blk]? =w.heap[T.blk]? ∧∀i,G.I T.blk i=none→G'.I T.blk i=none:=fun hn=>by
    obtain⟨m,hm⟩:=oO.1 hn
    exact hk _ _ (ht.2 m hm).2.1 (fun x=>x)
   exact ht.cJ (fun hn=>(hs hn).1) (fun hn=>(hs hn).2.1) (fun hn=>(hs hn).2.2)
  ·have hm:=aJ.mark i b e1
   obtain⟨k1,k2,_⟩:=hk _ _ hm.2.1 (fun x=>x)
   exact hm.cJ k1 k2
  ·simp only at e1
   split at e1
   ·rename_i hb
    subst hb
    refine⟨w.heap.size,?_⟩
    rw[←aJ.ek,gM (aH _)]
    simp
   ·obtain⟨blk,hb⟩:=aJ.mP b n e1
    exact⟨blk,mO hb⟩
 ·have aC:=h.rel.sS e
  rw[World.cell?_alloc_lt _ _ _ (by exact aC)]
  exact h.rel.ff b i v e
 ·simp only[G']at e
  split at e
  ·rename_i hb;subst hb;simp
  ·have:=h.rel.eO b o e;simp;omega
theorem abK (h:cz P B0 w0 G s w) {d:Nat} {r:Rec} {gr:cE} {blk:Nat} {cs:List AV} {arr:Array Value} {ty:TypeId} {z:Option Nat} (hr:s.ag[d]? =some r) (hg:G.ag[d]? =some gr) (yT:G.own blk=none) (hI:∀i,G.I blk i=none)
  (hB:B0≤blk) (hw:w.heap[blk]? =some (.cells arr ty)) (aB:cs≠[]) (bt:∀c,c∈cs→c.bu=true) (hle:cs.length≤arr.size) (hR:∀i (hi:i<cs.length),bL G.I cs[i] (arr.getD i Go.undef)) (hz:∀n,z=some n→arr.size=n):
  ∃G',G'.ag=G.ag.modify d (fun q=>{q with bl:=q.bl++[some blk],gs:=fun b=>if b=r.boxes.length then z else q.gs b})∧G'.I=G.I∧cz P B0 w0 G' (s.js d cs) w∧(∀k nl,bB k nl G G')∧
   ∃g2,G'.ag[d]? =some g2∧g2.bl[r.boxes.length]? =some (some blk)∧g2.gs r.boxes.length=z:=by
 have aJ:=h.cI d r gr hr hg
 let gf:cE→cE:=fun q=>{q with bl:=q.bl++[some blk],gs:=fun b=>if b=r.boxes.length then z else q.gs b}
 let G':aG:={G with ag:=G.ag.modify d gf,own:=fun b=>if b=blk then some (.box d r.boxes.length)else G.own b}
 have hk:jI (fun _=>False) G w G' w:=fun b o e _=>by
  refine⟨?_,rfl,fun _ e=>e⟩
  simp only[G']
  rw[aq (by rintro rfl;rw[yT]at e;cases e)]
  exact e
 have fc:iZ gr (gf gr):=⟨fun b blk e=>mO e,fun g T e=>⟨T,e,.refl T⟩,rfl,fun b n e=>by
  obtain⟨q,hb⟩:=aJ.mP b n e
  have:=(aY.1 hb).1
  rw[aJ.ek]at this
  simp only[gf]
  rw[aq (by omega)];exact e⟩
 have uY:bB d gr.nl G G':=⟨fun _ _ _ e=>e,fun d' q _ e=>by
  simp only[G',dQ]
  by_cases hd:d=d'
  ·subst hd
   rw[hg]at e
   injection e with e
   subst e
   exact⟨_,by rw[ak rfl,hg];rfl,fc,fun _=>rfl⟩
  ·exact⟨q,by rw[aq hd];exact e,.refl q,fun _=>rfl⟩,fun _ _ _ e=>e⟩
 have fm:=h.br (G':=G') (w':=w) hr hg (fun r=>{r with boxes:=r.boxes++[cs]}) gf (fun _=>False) rfl rfl (fun _ _ _ e=>e) fc rfl hk (fun o ho=>ho.elim) ?_ h.ff (Below.refl _ _) (fun b o e=>?_)
 ·refine⟨G',rfl,rfl,fm.1,fm.2,gf gr,?_,?_,?_⟩
  ·show(G.ag.modify d gf)[d]? =_
   rw[dQ,ak rfl,hg];rfl
  ·show(gr.bl++[some blk])[r.boxes.length]? =_
   rw[←aJ.ek,gM (aH _)]
   simp
  ·simp[gf]
 ·refine⟨by simp[gf,aJ.ek],aJ.iV,fun b cs' bk e1 e2=>?_,fun b bk e1 e2=>?_,fun g n T e1 e2=>?_,fun i b e1=>?_,fun b n e1=>?_⟩
  ·rcases ev e1 with⟨hb,e1⟩|⟨hb,rfl⟩
   ·have jd:gr.bl[b]? =some (some bk):=by
     rcases ev e2 with⟨_,e2⟩|⟨fO,_⟩
     ·exact e2
     ·rw[aJ.ek]at fO;omega
    have dp:=(aJ.box b cs' bk e1 jd).kept uY hk (fun _ x=>x)
    show pJ B0 G' d gr.nl b (if b=r.boxes.length then z else gr.gs b) cs' bk _
    rw[aq (by omega)];exact dp
   ·have:bk=blk:=by
     rcases ev e2 with⟨fO,_⟩|⟨_,e⟩
     ·rw[aJ.ek]at fO;omega
     ·injection e
    subst this
    subst hb
    exact⟨hB,⟨_,by simp[G'],fun _=>rfl⟩,fun _=>hI,arr,ty,hw,hle,fun _ n hn=>hz n (by simpa[gf]using hn),fun i hi=>⟨bt _ (gA hi),.cl (hR i hi)⟩⟩
  ·rcases ev e2 with⟨hb,e2⟩|⟨hb,e2⟩
   ·have nu:gr.bl[b]? =some (some bk):=by
     rcases ev e1 with⟨_,e1⟩|⟨fO,_⟩
     ·exact e1
     ·rw[aJ.ek]at fO;omega
    exact aJ.full b bk nu e2
   ·exact absurd e2.symm aB
  ·have ht:=aJ.tok g n T e1 e2
   have hs:∀(hn:n.isSome=true),G'.own T.blk=some (.tok d g)∧w.heap[T.blk]? =w.heap[T.blk]? ∧∀i,G.I T.blk i=none→G'.I T.blk i=none:=fun hn=>by
    obtain⟨m,hm⟩:=oO.1 hn
    exact hk _ _ (ht.2 m hm).2.1 (fun x=>x)
   exact ht.cJ (fun hn=>(hs hn).1) (fun hn=>(hs hn).2.1) (fun hn=>(hs hn).2.2)
  ·have hm:=aJ.mark i b e1
   obtain⟨k1,k2,_⟩:=hk _ _ hm.2.1 (fun x=>x)
   exact hm.cJ k1 k2
  ·simp only[gf]at e1
   split at e1
   ·rename_i hb
    subst hb
    refine⟨blk,?_⟩
    show(gr.bl++[some blk])[r.boxes.length]? =_
    rw[←aJ.ek,gM (aH _)]
    simp
   ·obtain⟨q,hb⟩:=aJ.mP b n e1
    exact⟨q,mO hb⟩
 ·simp only[G']at e
  split at e
  ·rename_i hb;subst hb;exact(tZ.1 hw).1
  ·exact h.eO b o e
theorem Jw {α:Type} {l:List α} {x:α} {n b:Nat} {y:α} (h:(l++List.replicate n x)[b]? =some y):l[b]? =some y∨(l.length≤b∧y=x):=by
 rcases R6 b l.length with hb|hb
 ·rw[dB hb]at h;exact .inl h
 ·rw[gM hb]at h
  exact .inr ⟨hb,by rw[RN]at h;split at h;(injection h with h;exact h.symm);cases h⟩
theorem arU (h:At P B0 w0 G k nl s w) (n:Nat):df P B0 w0 G k nl s (s.lO n) w AV.undef Go.undef:=by
 obtain⟨r,gr,hr,hg⟩:=h.cI (aH k)
 have aJ:=h.rel.cI k r gr hr hg
 let G':aG:={G with ag:=G.ag.modify k fun q=>{q with bl:=q.bl++List.replicate n none}}
 have hk:jI (fun _=>False) G w G' w:=fun b o e _=>⟨e,rfl,fun _ e=>e⟩
 have fc:iZ gr {gr with bl:=gr.bl++List.replicate n none}:=⟨fun b blk e=>by
  show(gr.bl++_)[b]? =_
  rw[dB (aY.1 e).1];exact e,fun g T e=>⟨T,e,.refl T⟩,rfl,fun _ _ e=>e⟩
 have hle:bB k gr.nl G G':=⟨fun _ _ _ e=>e,fun d q _ e=>by
  simp only[G',dQ]
  by_cases hd:k=d
  ·subst hd
   rw[hg]at e
   injection e with e
   subst e
   exact⟨_,by rw[ak rfl,hg];rfl,fc,fun _=>rfl⟩
  ·exact⟨q,by rw[aq hd];exact e,.refl q,fun _=>rfl⟩,fun _ _ _ e=>e⟩
 have fm:=h.rel.br (G':=G') (w':=w) hr hg (fun r=>{r with boxes:=r.boxes++List.replicate n []}) (fun q=>{q with bl:=q.bl++List.replicate n none}) (fun _=>False) rfl rfl (fun _ _ _ e=>e) fc rfl hk
  (fun o ho=>ho.elim) ?_ (fun b i v e=>h.rel.ff b i v e) (Below.refl _ _) (fun b o e=>h.rel.eO b o e)
 ·obtain⟨hs,jQ⟩:=fm
  have mU:cz P B0 w0 G' (s.lO n) w:=by
   simp only[ae.lO,h.gS]
   exact hs
  exact⟨G',h.to mU (jQ _ _) (by simp[ae.lO,ae.br]),jQ _ _,by simp[ae.lO,ae.br],.undef⟩
 ·refine⟨by simp[aJ.ek],aJ.iV,fun b cs' blk e1 e2=>?_,fun b blk e1 e2=>?_,fun g n T e1 e2=>?_,fun i b e1=>?_,fun b n e1=>?_⟩
  ·have jd:gr.bl[b]? =some (some blk):=by
    rcases Jw e2 with e2|⟨_,e⟩
    ·exact e2
    ·cases e
   have nu:r.boxes[b]? =some cs':=by
    rcases Jw e1 with e1|⟨fO,_⟩
    ·exact e1
    ·have:=(aY.1 jd).1;rw[aJ.ek]at this;omega
   exact(aJ.box b cs' blk nu jd).kept hle hk (fun _ x=>x)
  ·have nu:gr.bl[b]? =some (some blk):=by
    rcases Jw e1 with e1|⟨_,e⟩
    ·exact e1
    ·cases e
   rcases Jw e2 with e2|⟨fO,_⟩
   ·exact aJ.full b blk nu e2
   ·have:=(aY.1 nu).1;rw[aJ.ek]at this;omega
  ·exact aJ.tok g n T e1 e2
  ·exact aJ.mark i b e1
  ·obtain⟨blk,hb⟩:=aJ.mP b n e1
   refine⟨blk,?_⟩
   show(gr.bl++_)[b]? =_
   rw[dB (aY.1 hb).1];exact hb
theorem as0 (h:At P B0 w0 G k nl s w) {zs:List AV} {arr:Array Value} (ty:TypeId) {back:Nat} {v:AV} {s':ae} (bt:∀c,c∈zs→c.bu=true) (hR:jr (Rel G k nl) zs arr)
  (hv:mA s back zs=some (v,s')):df P B0 w0 G k nl s s' (w.alloc (.cells arr ty)) v (.pointer (some ⟨w.heap.size,0,none⟩)):=by
 obtain⟨r,gr,hr,hg⟩:=h.cI (aH k)
 have lE:gr.nl=nl:=by obtain⟨g',e1,e2⟩:=h.cur;rw[hg]at e1;injection e1 with e1;rw[e1];exact e2
 have aJ:=h.rel.cI k r gr hr hg
 unfold mA at hv
 split at hv
 case h_2=>cases hv
 rename_i dp
 split at hv
 ·cases hv
 rename_i w7
 have ajh:zs.isEmpty≠true:=fun e=>w7 (.inl e)
 have sh:s.lJ s.cur=false:=by cases e:s.lJ s.cur with|true=>exact absurd (.inr e) w7|false=>rfl
 injection hv with hv
 injection hv with Pz PA
 subst Pz PA
 have aB:zs≠[]:=fun e=>ajh (by rw[e];rfl)
 rw[h.gS]at dp sh⊢
 have qc:none∉r.toks:=by
  simp only[ae.lJ,hr]at sh
  intro hm
  have:=zM.1 sh none hm
  exact this rfl
 generalize s.bN k-back=b0 at*
 have jN:r.boxes[b0]? =some []:=by
  simpa[ae.box,hr]using dp
 have FB:b0<r.boxes.length:=(aY.1 jN).1
 have Wx:gr.bl[b0]? =some none:=by
  have hl:b0<gr.bl.length:=by rw[aJ.ek];exact FB
  rw[cM hl]
  cases e:gr.bl[b0]with
  |none=>rfl
  |some blk=>exact absurd (aJ.full b0 blk (by rw[cM hl,e]) jN) qc
 let G':aG:={G with ag:=G.ag.modify k fun q=>{q with bl:=q.bl.set b0 (some w.heap.size)},own:=fun b=>if b=w.heap.size then some (.box k b0)else G.own b}
 have hk:jI (fun _=>False) G w G' (w.alloc (.cells arr ty)):=fun b o e _=>by
  have aC:=h.rel.eO b o e
  exact⟨by simp only[G'];rw[aq (by omega)];exact e,Below.heap_alloc _ _ _ aC,fun _ e=>e⟩
 have sn:∀(b:Nat) (x:Option Nat),b≠b0→(gr.bl.set b0 (some w.heap.size))[b]? =some x→gr.bl[b]? =some x:=fun b x hb e=>by
  rw[eK (qn hb)]at e;exact e
 have fc:iZ gr {gr with bl:=gr.bl.set b0 (some w.heap.size)}:=⟨fun b blk e=>by
  show(gr.bl.set _ _)[b]? =_
  by_cases hb:b=b0
  ·subst hb;rw[Wx]at e;cases e
  ·rw[eK (qn hb)];exact e,fun g T e=>⟨T,e,.refl T⟩,rfl,fun _ _ e=>e⟩
 have gG:(w.alloc (.cells arr ty)).heap[w.heap.size]? =some (.cells arr ty):=World.alloc_heap_new w _
 have hle:bB k nl G G':=⟨fun _ _ _ e=>e,fun d q _ e=>by
  simp only[G',dQ]
  by_cases hd:k=d
  ·subst hd
   rw[hg]at e
   injection e with e
   subst e
   exact⟨_,by rw[ak rfl,hg];rfl,fc,fun _=>rfl⟩
  ·exact⟨q,by rw[aq hd];exact e,.refl q,fun _=>rfl⟩,fun _ _ _ e=>e⟩
 have fm:=h.rel.br (G':=G') (w':=w.alloc (.cells arr ty)) hr hg (fun r=>{r with boxes:=r.boxes.set b0 zs}) (fun q=>{q with bl:=q.bl.set b0 (some w.heap.size)}) (fun _=>False) rfl rfl (fun _ _ _ e=>e) fc rfl hk
  (fun o ho=>ho.elim) ?_ (fun b i v e=>?_) ((Below.refl _ _).alloc h.rel.low _) (fun b o e=>?_)
 ·obtain⟨hs,jQ⟩:=fm
  have jf:=h.to (s':=s.dG k b0 zs) hs (jQ k nl) (by simp[ae.dG,ae.br])
  refine⟨G',jf,jQ _ _,by simp[ae.dG,ae.br],?_⟩
  have gE:G'.ag[k]? =some {gr with bl:=gr.bl.set b0 (some w.heap.size)}:=by
   show(G.ag.modify k _)[k]? =_
   rw[dQ,ak rfl,hg];rfl
  refine .ptr _ (aH _) gE ?_
  show(gr.bl.set b0 (some w.heap.size))[b0]? =_
  rw[mE (by rw[aJ.ek];exact FB)]
 ·refine⟨by simp[aJ.ek],aJ.iV,fun b cs' blk e1 e2=>?_,fun b blk e1 e2=>?_,fun g n T e1 e2=>?_,fun i b e1=>?_,fun b n e1=>?_⟩
  ·by_cases hb:b=b0
   ·subst hb
    have jd:w.heap.size=blk:=by
     have e3:(gr.bl.set b (some w.heap.size))[b]? =some (some blk):=e2
     rw[mE (by rw[aJ.ek];exact FB)]at e3
     injection e3 with e3;injection e3
    subst jd
    have nu:zs=cs':=by
     have e3:(r.boxes.set b zs)[b]? =some cs':=e1
     rw[mE FB]at e3
     injection e3
    subst nu
    refine⟨h.rel.low,⟨_,by simp[G'],fun _=>rfl⟩,fun _=>h.rel.ud,arr,ty,gG,R4 hR.1.symm,fun _ n hn=>?_,fun i hi=>⟨bt _ (gA hi),?_⟩⟩
    ·obtain⟨blk,hb⟩:=aJ.mP b n hn
     rw[Wx]at hb;cases hb
    have:=(hR.2 i hi).mono hle (aH _) (aH _)
    show Rel G' k gr.nl _ _
    rw[lE]
    exact this
   ·have nu:r.boxes[b]? =some cs':=by
     have e3:(r.boxes.set b0 zs)[b]? =some cs':=e1
     rw[eK (qn hb)]at e3;exact e3
    have dp:=aJ.box b cs' blk nu (sn b _ hb e2)
    exact dp.kept (by rw[lE];exact hle) hk (fun _ x=>x)
  ·by_cases hb:b=b0
   ·subst hb
    have e3:(r.boxes.set b zs)[b]? =some []:=e2
    rw[mE FB]at e3
    injection e3 with e3
    exact absurd e3 aB
   ·have e3:(r.boxes.set b0 zs)[b]? =some []:=e2
    rw[eK (qn hb)]at e3
    exact aJ.full b blk (sn b _ hb e1) e3
  ·have ht:=aJ.tok g n T e1 e2
   have hs:∀(hn:n.isSome=true),G'.own T.blk=some (.tok k g)∧(w.alloc (.cells arr ty)).heap[T.blk]? =w.heap[T.blk]? ∧∀i,G.I T.blk i=none→G'.I T.blk i=none:=fun hn=>by
    obtain⟨m,hm⟩:=oO.1 hn
    exact hk _ _ (ht.2 m hm).2.1 (fun x=>x)
   exact ht.cJ (fun hn=>(hs hn).1) (fun hn=>(hs hn).2.1) (fun hn=>(hs hn).2.2)
  ·have hm:=aJ.mark i b e1
   obtain⟨k1,k2,_⟩:=hk _ _ hm.2.1 (fun x=>x)
   exact hm.cJ k1 k2
  ·obtain⟨blk,hb⟩:=aJ.mP b n e1
   exact⟨blk,fc.bl _ _ hb⟩
 ·have aC:=h.rel.sS e
  rw[World.cell?_alloc_lt _ _ _ (by exact aC)]
  exact h.rel.ff b i v e
 ·simp only[G']at e
  split at e
  ·rename_i hb;subst hb;simp
  ·have:=h.rel.eO b o e;simp;omega
end
end Go.Ax
