/-
  From the executor's answer to a law's row: the arguments opened and shut.
-/
import Derived.Test.YtjgbdhjcpcmajaaGreatDoorT5
import Derived.ProofKit
set_option linter.unusedSimpArgs false
set_option linter.unusedVariables false
set_option maxRecDepth 100000
namespace Go.Ax
open Go.ChangeShapes Go.WideShapes Go.ChangeAt Go.RowKit Sx
def rn (P:Program) (d:Nat) (t:TypeId) (x:AV):Prop:=
 match P.underlying t with
 |some (.struct _)|some (.array _ _)=>∃bO,x=.agg bO∧dW P d t bO
 |_=>dW P d t [x]
inductive Cf (P:Program) (d:Nat):List TypeId→List AV→Prop
 |nil:Cf P d [] []
 |cons {t:TypeId} {ts:List TypeId} {x:AV} {xs:List AV} (h:rn P d t x) (r:Cf P d ts xs):Cf P d (t::ts) (x::xs)
section
variable{H:Type} {enc:TypeId×Value→H} {P:Program} {w:World}
theorem aea {v:Value} {cs:Array Value} (h:v.cells=cs) (hn:∀c,v≠.agg c):cs.toList=[v]:=by
 subst h
 cases v<;>first|rfl|exact absurd rfl (hn _)
theorem ZZ {bO:List AV} {cs:Array Value} (h:RL w bO cs.toList):Reads w (.agg bO) (.agg cs):=
 .agg (by simpa using h.len.symm) (fun c hc=>by
  obtain⟨i,hi⟩:=mY hc
  have sf:=(bd.1 hi).1
  have hl:=h.len
  have aT:i<cs.toList.length:=by omega
  exact(h.get i c (cs.toList[i]) hi (cM aT)).2) (fun i hi=>by
  have hl:=h.len
  have aT:i<cs.toList.length:=by omega
  have:=(h.get i bO[i] (cs.toList[i]) (cM hi) (cM aT)).1
  have e:cs.getD i Go.undef=cs.toList[i]:=by
   have:i<cs.size:=by simpa using aT
   simp[Array.getD,this]
  rw[e];exact this)
theorem apr {d:Nat} {r:Reach} {b0:Nat} {t:TypeId} {v:Value} {x:DataW H} {ps:List MemPlace} (bE:mQ P d t=true) (kE:Value.okWide P w r b0 t v) (h:DataW.Trod enc P w 0 (fun _=>true) true t v x ps) (lW:∀n∈x.weights P t,n≤reachBytes):
  ∃a,Reads w a v∧rn P d t a:=by
 obtain⟨fuel,hf⟩:=h
 obtain⟨bO,h1,h2,h3⟩:=Zi d t fuel _ _ bE hf lW
 cases d with
 |zero=>simp[mQ]at bE
 | succ d =>
  unfold mQ at bE
  cases hu:P.underlying t with
  |none=>rw[hu]at bE;cases bE
  | some u =>
   rw[hu]at bE
   have key:(∀c,v≠.agg c)→(P.cellsOf t=1)→∃a,Reads w a v∧dW P (d+1) t [a]:=by
    intro hn h1c
    have hc:=aea (v:=v) rfl hn
    rw[hc]at h1
    have hl:=h1.len
    match bO,hl,h1,h3 with
    |[a],_,h1,h3=>exact⟨a,(h1.get 0 a v rfl rfl).1,h3⟩
   cases u with
   |bool=>
    obtain⟨a,k1,k2⟩:=key (fun c e=>by subst e;simp only[Value.okWide,hu]at kE;simp[Cell.okWide,Cell.ok,hu]at kE) (by simpa using bE)
    exact⟨a,k1,by simp only[rn,hu];exact k2⟩
   |int k=>
    obtain⟨a,k1,k2⟩:=key (fun c e=>by subst e;simp only[Value.okWide,hu]at kE;simp[Cell.okWide,Cell.ok,hu]at kE) (by simpa using bE)
    exact⟨a,k1,by simp only[rn,hu];exact k2⟩
   |string=>
    obtain⟨a,k1,k2⟩:=key (fun c e=>by subst e;simp only[Value.okWide,hu]at kE;simp[Cell.okWide,Cell.ok,hu]at kE) (by simpa using bE)
    exact⟨a,k1,by simp only[rn,hu];exact k2⟩
   |slice e=>
    obtain⟨a,k1,k2⟩:=key (fun c e=>by subst e;simp only[Value.okWide,hu]at kE;simp[Cell.okWide,Cell.ok,hu]at kE) (by simp only[dB,dY]at bE;exact bE.1.1)
    exact⟨a,k1,by simp only[rn,hu];exact k2⟩
   |struct fs=>
    simp only[Value.okWide,hu]at kE
    obtain⟨cs,rfl,_,_⟩:=kE
    exact⟨.agg bO,ZZ h1,by simp only[rn,hu];exact⟨bO,rfl,h3⟩⟩
   |array n e=>
    simp only[Value.okWide,hu]at kE
    obtain⟨cs,rfl,_,_⟩:=kE
    exact⟨.agg bO,ZZ h1,by simp only[rn,hu];exact⟨bO,rfl,h3⟩⟩
   |_=>cases bE
theorem Zf {d:Nat} {r:Reach} {b0:Nat}:∀{ts:List TypeId} {vs:List Value} {ds:List (DataW H)} {ps:List MemPlace},(∀t∈ts,mQ P d t=true)→(∀(j:Nat) t v,ts[j]? =some t→vs[j]? =some v→Value.okWide P w r b0 t v)→
  DataW.TrodAll enc P w 0 (fun _=>true) true ts vs ds ps→(∀n∈DataW.weightsEach P ts ds,n≤reachBytes)→∃as:List AV,Cf P d ts as∧as.length=vs.length∧∀(i:Nat) a v,as[i]? =some a→vs[i]? =some v→Reads w a v
 |[],[],[],_,_,_,_,_=>⟨[],.nil,rfl,fun i a v h=>by simp at h⟩
 | t :: ts, v :: vs, x :: ds, _, bE, kE, ⟨p, q, h1, h2, _⟩, lW => by
  obtain⟨a,k1,k2⟩:=apr (bE t (xS ..)) (kE 0 t v rfl rfl) h1 (fun n hn=>lW n (by simp only[DataW.weightsEach,dD];exact .inl hn))
  obtain⟨as,m1,m2,m3⟩:=Zf (fun t ht=>bE t (jf _ ht)) (fun j t v h1 h2=>kE (j+1) t v (by simpa using h1) (by simpa using h2)) h2 (fun n hn=>lW n (by simp only[DataW.weightsEach,dD];exact .inr hn))
  exact⟨a::as,.cons k2 m1,by simp[m2],fun i b u hb hu=>by
   cases i with
   |zero=>simp at hb hu;subst hb hu;exact k1
   |succ i=>simp at hb hu;exact m3 i b u hb hu⟩
theorem aa5 {sp:Nat→Bool} {held:Bool} {base:Nat}:∀{ts:List TypeId} {vs:List Value} {ds:List (DataW H)} {ps:List MemPlace},DataW.TrodAll enc P w base sp held ts vs ds ps→ds.length=ts.length
 |[],[],[],_,_=>rfl
 |t::ts,v::vs,x::ds,_,⟨p,q,h1,h2,_⟩=>by simp[aa5 h2]
theorem aaN (hl:laidOutB P=true) {W':World} (hb:Below w.heap.size w W') {sp:Nat→Bool}:∀{ts:List TypeId} {vs:List Value} {ds:List (DataW H)} {ps:List MemPlace},(∀t∈ts,P.readableRec t=true∧t<P.types.size)→
  DataW.TrodAll enc P w 0 (fun _=>true) true ts vs ds ps→(∀p∈ps,p.block<w.heap.size)→(∀p∈ps,sp p.block=true)→DataW.TrodAll enc P W' 0 sp true ts vs ds ps
 |[],[],[],_,_,h,_,_=>h
 | t :: ts, v :: vs, x :: ds, _, hT, ⟨p, q, h1, h2, e⟩, aC, qP => by
  subst e
  have ht:=hT t (xS ..)
  exact⟨p,q,WideElems.Trod_stays hl ht.1 ht.2 h1 (fun y hy=>hb.same (aC y (pF _ hy))) (fun y hy=>qP y (pF _ hy)),
   aaN hl hb (fun t ht=>hT t (jf _ ht)) h2 (fun y hy=>aC y (Hw _ hy)) (fun y hy=>qP y (Hw _ hy)),rfl⟩
theorem aqU {f:Func} {s:ChangeSpec} {apart fresh handsOn again:Bool} {W W':World} {args:Array Value} {v:Value} {ds gs:List (DataW H)} {before pa pv:List MemPlace}
  (hW:DataW.Whole enc P f.params.toList s.vars apart W args.toList ds gs before)
  (jF:∀(b:Nat) (sp:Nat→Bool) (hd:Bool),DataW.TrodAll enc P W' b sp hd f.resultTypes.toList (v.resultList f.resultTypes.size) (s.fn H (ds++gs)).results [])
  (pS:∀sp:Nat→Bool,(∀p∈before,sp p.block=true)→DataW.TrodAll enc P W' 0 sp true f.params.toList args.toList (s.fn H (ds++gs)).args pa)
  (XO:∀sp:Nat→Bool,(∀p∈before,sp p.block=true)→DataW.TrodVars enc P W' sp s.vars (s.fn H (ds++gs)).vars pv)
  (xd:before=pa++pv) (hb:Below W.heap.size W W')
  (bE:∀(j:Nat) (t:TypeId) (r:Value),f.resultTypes[j]? =some t→(v.resultList f.resultTypes.size)[j]? =some r→Value.okWide P W' .any 0 t r):
  s.post enc P f apart fresh handsOn again W args v W':=by
 have aC:∀p∈before,p.block<W.heap.size:=fun p hp=>hW.lt p hp
 have hold:∀p∈before,(fun b=>decide (b<W.heap.size)) p.block=true:=fun p hp=>by simpa using aC p hp
 refine⟨ds,gs,before,[],pa,pv,hW,jF _ _ _,pS _ hold,XO _ hold,World.keptBut_mono (fun p hp=>⟨hp,?_⟩) (hb.frame (· ∈before)),fun _=>?_⟩
 ·rw[xd,dD]at hp
  exact Or.inr hp
 ·obtain⟨_,_,_,_,_,hz,hn⟩:=hW
  refine⟨bE,_,_,([]++pa)++pv,⟨[]++pa,pv,trodAll_append (pS _ (fun _ _=>rfl)) (jF _ _ _),XO _ (fun _ _=>rfl),rfl,?_,?_⟩,?_⟩
  ·intro b off hp
   have bH:MemPlace.cell b off∈before:=by rw[xd];simpa using hp
   rw[hb.frozen (aC _ bH)]
   exact hz b off bH
  ·intro ha
   have:=hn ha
   rw[xd]at this
   simpa using this
  ·intro p hp _
   rw[xd]
   simpa using hp
def R1 (P:Program) (AP:FuncId→Option aJ) (f:FuncId) (d:Nat) (ts:List TypeId):Prop:=
 ∀(as:List AV) (s:ae),Ok s→Cf P d ts as→aw AP (.fn f) as s=some (.v (.bool true),s)
theorem anY {AP:FuncId→Option aJ} {K:World→Prop} (hp:s8 P AP K) (hK:∀w',Below w.heap.size w w'→K w') {f:FuncId} {d:Nat} {ts:List TypeId} (ai3:R1 P AP f d ts) {args:Array Value} {ds:List (DataW H)} {ps:List MemPlace} {r:Reach} {b0:Nat} (bE:∀t∈ts,mQ P d t=true)
  (kE:∀(j:Nat) t v,ts[j]? =some t→args.toList[j]? =some v→Value.okWide P w r b0 t v) (hA:DataW.TrodAll enc P w 0 (fun _=>true) true ts args.toList ds ps) (lW:(DataW.weightsEach P ts ds).all (· ≤reachBytes)=true):
  Calls P f args w fun e w'=>e=.returned (.bool true)∧Below w.heap.size w w':=by
 obtain⟨as,h1,h2,h3⟩:=Zf bE kE hA (fun n hn=>by simpa using jw.1 lW n hn)
 obtain⟨n,hn⟩:=rG.1 (ai3 as B8 ⟨aH _,aH _⟩ h1)
 refine ar7 hp hK (by simpa using h2.symm) (fun i hi=>?_) hn
 have bD:i<args.toList.length:=by omega
 have e:args.getD i Go.undef=args.toList[i]:=by
  have:i<args.size:=by simpa using bD
  simp[Array.getD,this]
 rw[e]
 exact h3 i as[i] args.toList[i] (cM hi) (cM bD)
end
end Go.Ax
/-
  What a shape says, type by type.
-/
namespace Go.Ax.Sx
section
variable{P:Program} {d:Nat} {t:TypeId} {bO:List AV}
theorem rj (hu:P.underlying t=some (.int .i64)) (h:dW P (d+1) t bO):∃x,bO=[I x]∧P1 x:=by
 simp only[dW,hu]at h
 obtain⟨x,rfl,hw⟩:=h
 refine⟨x,rfl,?_⟩
 simp only[Lit.wf,dB,dY]at hw
 have h1:IntKind.i64.min=-9223372036854775808:=by decide
 have h2:IntKind.i64.max=9223372036854775807:=by decide
 unfold P1;omega
theorem aaE (hu:P.underlying t=some .string) (h:dW P (d+1) t bO):∃x:ByteArray,bO=[.v (.string x)]∧x.size≤maxLen:=by
 simp only[dW,hu]at h;exact h
theorem asJ {fs:Array Field} (hu:P.underlying t=some (.struct fs)) (h:dW P (d+1) t bO):∃ps:List (List AV),bO=ps.flatten∧ps.length=fs.size∧∀(i:Nat) (f:Field) (p:List AV),fs[i]? =some f→ps[i]? =some p→dW P d f.type p:=by
 simp only[dW,hu]at h
 obtain⟨ps,h1,h2,h3⟩:=h
 exact⟨ps,h1,h2,fun i f p a b=>(h3 i f p a b).2⟩
theorem B7 {e:TypeId} (hu:P.underlying t=some (.slice e)) (h:dW P (d+1) t bO):∃o rows,bO=[.slice o (P.cellsOf e) rows]∧(o=.any∨(o=.aA∧rows=[]))∧rows.length≤maxLen∧∀r∈rows,dW P d e r:=by
 simp only[dW,hu]at h
 obtain⟨o,rows,h1,h2,h3,h4,_⟩:=h
 exact⟨o,rows,h1,h2,h3,fun r a=>(h4 r a).2⟩
theorem aad {α:Type} {q:List AV→α→Prop}:∀{rows:List (List AV)},(∀r∈rows,∃a,q r a)→∃l:List α,rows.length=l.length∧∀(i:Nat) r a,rows[i]? =some r→l[i]? =some a→q r a
 |[],_=>⟨[],rfl,fun i r a h=>by simp at h⟩
 | r :: rows, h => by
  obtain⟨a,ha⟩:=h r (xS ..)
  obtain⟨l,h1,h2⟩:=aad (rows:=rows) (fun r hr=>h r (jf _ hr))
  exact⟨a::l,by simp[h1],fun i r' a' h3 h4=>by
   cases i with
   |zero=>simp at h3 h4;subst h3 h4;exact ha
   |succ i=>simp at h3 h4;exact h2 i r' a' h3 h4⟩
theorem BZ {α:Type} {f:α→List AV} {g:α→Prop} {rows:List (List AV)} (h:∀r∈rows,∃a,r=f a∧g a):∃l:List α,rows=l.map f∧∀a∈l,g a:=by
 obtain⟨l,h1,h2⟩:=aad (q:=fun r a=>r=f a∧g a) h
 refine⟨l,?_,fun a ha=>?_⟩
 ·apply pD
  intro i
  by_cases hi:i<rows.length
  ·obtain⟨a,ha⟩:=get_some (l:=l) (k:=i) (by omega)
   rw[je,ha,cM hi]
   exact hU some (h2 i _ a (cM hi) ha).1
  ·rw[nL (by omega),nL (by simp;omega)]
 ·obtain⟨i,hi⟩:=mY ha
  have sf:=(bd.1 hi).1
  obtain⟨r,hr⟩:=get_some (l:=rows) (k:=i) (by omega)
  exact(h2 i r a hr hi).2
end
end Go.Ax.Sx
/-
  What is taken from the library's shelf.
-/
namespace Go.Ax.Sx.Sc
def Hg (n:Nat):List AV:=List.replicate n (.v (.bool false))
def fi (n:Nat):List UInt8:=if n<10 then[UInt8.ofNat (48+n)]else[UInt8.ofNat (48+n/10),UInt8.ofNat (48+n%10)]
def Kw:List AV→Option AV
 |[.v (.int .i64 n)]=>if 0≤n∧n<100 then some (.v (.string ⟨(fi n.toNat).toArray⟩))else none
 |_=>none
def tZ:List (List AV)→Option (List (List UInt8))
 |[]=>some []
 |[.v (.string s)]::r=>(tZ r).map (s.data.toList::·)
 |_=>none
def GC:List AV→Option AV
 |[.slice _ _ rows,.v (.string sep)]=>(tZ rows).bind fun l=>
  if l.length≤1000000∧(sep.data.toList.intercalate l).length≤1000000 then some (.v (.string ⟨(sep.data.toList.intercalate l).toArray⟩))else none
 |_=>none
def BQ:aJ:=.re Kw
def BR:aJ:=.re GC
end Go.Ax.Sx.Sc
/- The codes of the functions, as compFn gives them. -/
namespace Go.Ax.Sx.Sc
open Go.Ax
abbrev o1 (d:Nat) (x:bX):bz:=⟨some d,none,x⟩
abbrev t1 (n:Nat):aF:=.tmp n
abbrev m1 (d x:Nat):bz:=⟨some d,none,.move (.tmp x)⟩
abbrev lF (d n x:Nat):bz:=⟨some d,none,.load false n (.tmp x)⟩
abbrev lT (d n x:Nat):bz:=⟨some d,none,.load true n (.tmp x)⟩
abbrev fA (d n x:Nat):bz:=⟨some d,none,.fieldAddr n (.tmp x)⟩
abbrev gT (d g:Nat) (x:bX):bz:=⟨some d,some (g,true),x⟩
abbrev gF (d g:Nat) (x:bX):bz:=⟨some d,some (g,false),x⟩
abbrev i1 (n:Int):aF:=.const (.v (.int .i64 n))
abbrev rF (l:List bz):au:=.region false l
abbrev rT (l:List bz):au:=.region true l
abbrev sq (a b:au):au:=.seq a b
abbrev cn (n:Nat) (a b:au):au:=.cond (.tmp n) a b
abbrev bT:aF:=.const (.v (.bool true))
abbrev bF:aF:=.const (.v (.bool false))
abbrev mX (x:Nat):bX:=.move (.tmp x)
abbrev mI (n:Int):bX:=.move (.const (.v (.int .i64 n)))
abbrev mB (b:Bool):bX:=.move (.const (.v (.bool b)))
abbrev lX (n x:Nat):bX:=.load false n (.tmp x)
abbrev lY (n x:Nat):bX:=.load true n (.tmp x)
abbrev fX (n x:Nat):bX:=.fieldAddr n (.tmp x)
abbrev iX (n x y:Nat):bX:=.indexAddr none n (.tmp x) (.tmp y)
abbrev aX (o:BinOp) (x y:Nat):bX:=.arith o (.tmp x) (.tmp y)
abbrev aK (o:BinOp) (x:Nat) (n:Int):bX:=.arith o (.tmp x) (.const (.v (.int .i64 n)))
abbrev nX (x:Nat):bX:=.len false (.tmp x)
abbrev eX (n x:Nat):bX:=.extract n (.tmp x)
abbrev uX (x:Nat):bX:=.un .not (.tmp x)
abbrev pA (x y:Nat):bX:=.pick (.tmp x) (.tmp y) bF
abbrev pB (x y:Nat):bX:=.pick (.tmp x) bT (.tmp y)
abbrev cF (f:Nat) (l:List aF):bX:=.call false f l
abbrev sT (n x y:Nat):bz:=⟨none,none,.store n (.tmp x) (.tmp y)⟩

-- 3
def Ic:au:=(sq (rF [o1 6 (mB true)]) .ret)
def Mh:au:=(rF [m1 170 12,o1 171 (aK .add 170 1),m1 12 171])
def Mi:au:=(sq (rF [m1 193 13,o1 194 (uX 193)]) (cn 194 (sq (rF [o1 6 (mB false)]) .ret) .skip))
def CR:au:=(sq (sq (rF [m1 172 14,fA 173 2 3,lF 174 1 173,o1 175 (nX 174),o1 176 (aX .lss 172 175)]) (cn 176 .skip (.exit 2))) (sq (.block 3 (rT [m1 179 13,m1 180 179,
  gF 181 180 (fX 2 3),gF 182 180 (lX 1 181),gF 183 180 (mX 14),gF 184 180 (iX 7 182 183),gF 185 180 (fX 0 184),gF 186 180 (lX 1 185),gF 187 180 (mX 10),gF 188 180 (mX 12),gF 189 180 (iX 1 187
  188),gF 190 180 (lX 1 189),gF 191 180 (aX .eql 186 190),o1 192 (pB 180 191),m1 13 192])) (rF [m1 177 14,o1 178 (aK .add 177 1),m1 14 178])))
def CQ:au:=(sq (sq (rF [m1 166 12,m1 167 10,o1 168 (nX 167),o1 169 (aX .lss 166 168)]) (cn 169 .skip (.exit 0))) (sq (.block 1 (sq (rF [o1 13 (mB false)]) (sq (sq (rF [o1
  14 (mI 0)]) (.block 2 (.loop CR))) Mi))) Mh))
def qm:au:=(sq (rF [o1 3 (.box 3 (t1 0)),o1 4 (.box 2 (t1 1)),o1 6 (mB false)]) (sq (sq (rF [o1 15 (cF 4 []),o1 16 (uX 15)]) (cn 16 (sq (rF [o1 6 (mB false)]) .ret) .skip))
  (sq (sq (rF [lT 17 3 3,o1 18 (cF 5 [t1 17]),o1 19 (uX 18),m1 20 19,gF 21 20 (fX 0 4),gF 22 20 (lX 1 21),gF 23 20 (cF 6 [t1 22]),gF 24 20 (uX 23),o1 25 (pB 20 24),m1 26 25,gF 27 26 (fX 1
  4),gF 28 26 (lX 1 27),gF 29 26 (cF 6 [t1 28]),gF 30 26 (uX 29),o1 31 (pB 26 30),m1 32 31,gF 33 32 (lY 3 3),gF 34 32 (cF 7 [t1 33]),gF 35 32 (aK .neq 34 0),o1 36 (pB 32 35),m1 37 36,gF 38
  37 (lY 3 3),gF 39 37 (fX 0 4),gF 40 37 (lX 1 39),gF 41 37 (cF 8 [t1 38,t1 40]),gF 42 37 (aK .neq 41 0),o1 43 (pB 37 42),m1 44 43,gF 45 44 (lY 3 3),gF 46 44 (mX 2),gF 47 44 (.buildSlice 1
  [[.v (.int .i64 0)]] [(0,(t1 46))]),gF 48 44 (cF 9 [t1 45,t1 47]),gF 49 44 (aK .neq 48 0),o1 50 (pB 44 49)]) (cn 50 (sq (rF [o1 6 (mB true)]) .ret) .skip)) (sq (rT [lT 52 3 3,o1 53 (.call true
  11 [t1 52]),fA 54 0 4,lF 55 1 54,o1 56 (cF 12 [t1 55]),m1 57 2,o1 58 (cF 10 [t1 53,t1 56,t1 57]),m1 51 58,o1 59 (eX 0 51),o1 60 (eX 1 51),m1 7 59,m1 8 60]) (sq (rF [lT 61 3 3,fA 62 1 4,
  lF 63 1 62,o1 64 (cF 8 [t1 61,t1 63]),o1 65 (aK .eql 64 0),m1 66 65,gT 67 66 (fX 1 4),gT 68 66 (lX 1 67),gT 69 66 (mX 2),gT 70 66 (cF 13 [t1 68,t1 69]),gT 71 66 (aK .geq 70 0),o1 72 (pA
  66 71),m1 9 72]) (sq (sq (rF [m1 73 8,o1 74 (aK .neq 73 0)]) (cn 74 (sq (rF [m1 75 8,o1 76 (aK .eql 75 12),m1 77 76,gT 78 77 (mX 7),gT 79 77 (nX 78),gT 80 77 (aK .eql 79 0),o1 81 (pA 77 80),
  m1 82 81,gT 83 82 (mX 9),gT 84 82 (uX 83),o1 85 (pA 82 84),m1 86 85,gT 87 86 (fX 0 4),gT 88 86 (lX 1 87),gT 89 86 (mX 2),gT 90 86 (cF 13 [t1 88,t1 89]),gT 91 86 (aK .lss 90 0),o1 92 (pA
  86 91),m1 6 92]) .ret) .skip)) (sq (sq (rF [lT 93 3 3,m1 94 7,o1 95 (cF 8 [t1 93,t1 94]),o1 96 (aK .neq 95 0),m1 97 96,gF 98 97 (mX 7),gF 99 97 (mX 2),gF 100 97 (cF 13 [t1 98,t1 99]),gF
  101 97 (aK .lss 100 0),o1 102 (pB 97 101),m1 103 102,gF 104 103 (fX 0 4),gF 105 103 (lX 1 104),gF 106 103 (mX 2),gF 107 103 (cF 13 [t1 105,t1 106]),gF 108 103 (aK .geq 107 0),gF 109 103 (mX
  108),gT 110 109 (mX 7),gT 111 109 (fX 0 4),gT 112 109 (lX 1 111),gT 113 109 (cF 14 [t1 110,t1 112]),gT 114 109 (uX 113),gF 115 103 (pA 109 114),o1 116 (pB 103 115)]) (cn 116 (sq (rF [o1 6
  (mB false)]) .ret) .skip)) (sq (sq (rT [m1 117 9,m1 118 117,gT 119 118 (lY 3 3),gT 120 118 (fX 0 4),gT 121 118 (lX 1 120),gT 122 118 (fX 1 4),gT 123 118 (lX 1 122),gT 124 118 (.call true 15
  [t1 119,t1 121,t1 123]),gT 125 118 (lY 3 3),gT 126 118 (fX 0 4),gT 127 118 (lX 1 126),gT 128 118 (mX 7),gT 129 118 (cF 15 [t1 125,t1 127,t1 128]),gT 130 118 (aX .lss 124 129),o1 131 (pA
  118 130)]) (cn 131 (sq (rF [o1 6 (mB false)]) .ret) .skip)) (sq (rT [lT 133 3 3,o1 134 (.call true 11 [t1 133]),fA 135 0 4,lF 136 1 135,o1 137 (cF 12 [t1 136]),m1 138 7,o1 139 (cF 12 [t1
  138]),o1 140 (.build [.slice .aA 0 [],.slice .aA 0 []] [(0,(1,(t1 137))),(1,(1,(t1 139)))]),o1 141 (cF 16 [t1 134,t1 140]),m1 132 141,o1 142 (eX 0 132),o1 143 (eX 1 132),m1 10 142,
  m1 11 143]) (sq (sq (rF [m1 144 11,o1 145 (aK .neq 144 0),m1 146 145,gF 147 146 (mX 10),gF 148 146 (nX 147),gF 149 146 (lY 3 3),gF 150 146 (fX 0 4),gF 151 146 (lX 1 150),gF 152 146 (mX 7),
  gF 153 146 (cF 15 [t1 149,t1 151,t1 152]),gF 154 146 (aX .gtr 148 153),o1 155 (pB 146 154),m1 156 155,gF 157 156 (mX 10),gF 158 156 (nX 157),gF 159 156 (aK .eql 158 0),gF 160 156 (mX 7),gF
  161 156 (fX 0 4),gF 162 156 (lX 1 161),gF 163 156 (cF 14 [t1 160,t1 162]),gF 164 156 (.eqv true .bool (t1 159) (t1 163)),o1 165 (pB 156 164)]) (cn 165 (sq (rF [o1 6 (mB false)]) .ret) .skip))
  (sq (sq (rF [o1 12 (mI 0)]) (.block 0 (.loop CQ))) Ic)))))))))))
abbrev amL:List K:=[.blk 2,.c Mi,.blk 1,.c Mh,.lp CQ,.blk 0,.c Ic]
abbrev amK:List K:=[.blk 0,.c Ic]
abbrev VB:=aW [(.tmp 6)] false
def nR:aJ:=.code 3 195 qm [(.tmp 6)] false
-- 4
def Tq:au:=(sq (rF [o1 0 (mB false)]) (sq (rF [o1 7 (cF 18 []),o1 8 (cF 17 [t1 7]),m1 6 8,o1 9 (eX 0 6),o1 10 (eX 1 6),o1 11 (eX 2 6),m1 1 9,m1 2 10,m1 3 11]) (sq (rF [o1 13 (cF
  18 []), m1 14 1, o1 15 (cF 19 [t1 13, t1 14, .const (.v (.string ⟨#[109, 97, 114, 115]⟩))]), m1 12 15, o1 16 (eX 0 12), o1 17 (eX 1 12), o1 4 (.alloc [.v (.int .i64 0), .v (.int .i64 0)]), sT 2 4
  16,m1 5 17]) (sq (rT [m1 18 3,o1 19 (aK .eql 18 0),m1 20 19,gT 21 20 (mX 2),gT 22 20 (aK .eql 21 23),o1 23 (pA 20 22),m1 24 23,gT 25 24 (mX 1),gT 26 24 (cF 20 [t1 25]),gT 27 24 (.arith
  .eql (t1 26) (.const (.v (.string ⟨#[48, 64, 48, 43, 48, 32, 49, 64, 48, 43, 49, 32, 50, 64, 53, 43, 48, 43, 49]⟩)))), o1 28 (pA 24 27), m1 29 28, gT 30 29 (mX 5), gT 31 29 (aK .eql 30 0), o1 32 (pA
  29 31),m1 33 32,gT 34 33 (lY 2 4),gT 35 33 (.call true 21 [i1 1]),gT 36 33 (.eqv false (.agg [.int,.int]) (t1 34) (t1 35)),o1 37 (pA 33 36),m1 0 37]) .ret))))
abbrev aup:=aW [(.tmp 0)] false
def DT:aJ:=.code 0 38 Tq [(.tmp 0)] false
-- 5
def Ib:au:=(sq (rF [o1 1 (.box 3 (t1 0)),o1 2 (mB false)]) (sq (rF [lT 3 3 1,o1 4 (cF 22 [t1 3]),m1 5 4,gT 6 5 (lY 3 1),gT 7 5 (cF 7 [t1 6]),gT 8 5 (aK .neq 7 0),gT 9 5 (mX 8),gF
  10 9 (lY 3 1),gF 11 9 (cF 23 [t1 10,i1 2000]),gF 12 9 (aK .leq 11 2000),gT 13 5 (pB 9 12),o1 14 (pA 5 13),m1 2 14]) .ret))
abbrev aun:=aW [(.tmp 2)] false
def yo:aJ:=.code 1 15 Ib [(.tmp 2)] false
-- 6
def Mk:au:=(sq (rF [o1 2 (mB true)]) .ret)
def CS:au:=(sq (sq (rF [m1 7 3,m1 8 0,o1 9 (nX 8),o1 10 (aX .lss 7 9)]) (cn 10 .skip (.exit 0))) (sq (.block 1 (sq (rF [m1 13 0,m1 14 3,o1 15 (iX 3 13 14),fA 16 2 15,lF 17 1
  16,o1 18 (nX 17),o1 19 (aK .gtr 18 6)]) (cn 19 (sq (rF [o1 2 (mB false)]) .ret) .skip))) (rF [m1 11 3,o1 12 (aK .add 11 1),m1 3 12])))
def Mj:au:=(sq (rF [o1 2 (mB false)]) (sq (sq (rF [m1 4 0,o1 5 (nX 4),o1 6 (aK .gtr 5 14)]) (cn 6 (sq (rF [o1 2 (mB false)]) .ret) .skip)) (sq (sq (rF [o1 3 (mI 0)]) (.block 0 (.loop
  CS))) Mk)))
abbrev amM:List K:=[.blk 0,.c Mk]
abbrev afx:=aW [(.tmp 2)] false
def DU:aJ:=.code 1 20 Mj [(.tmp 2)] false
-- 7
def MA:au:=(sq (rF [o1 2 (mI 0)]) .ret)
def C3:au:=(sq (sq (rF [m1 15 4,fA 16 2 1,lF 17 1 16,o1 18 (nX 17),o1 19 (aX .lss 15 18)]) (cn 19 .skip (.exit 0))) (sq (.block 1 (sq (rF [fA 22 2 1,lF 23 1 22,m1 24 4,o1 25
  (iX 7 23 24), lT 26 7 25, o1 5 (.alloc [.v (.string ⟨#[]⟩), .v (.int .i64 0), .v (.int .i64 0), .v (.int .i64 0), .v (.int .i64 0), .slice .aA 0 [], .v (.int .i64 0)]), sT 7 5 26]) (sq (rF [fA 27
  1 5,fA 28 1 27,lF 29 1 28,fA 30 1 5,fA 31 0 30,lF 32 1 31,o1 33 (aX .sub 29 32),o1 34 (aK .add 33 1),fA 35 3 5,lF 36 1 35,o1 37 (aX .sub 34 36),o1 38 (aK .add 37 1),o1 39 (aK .gtr 38
  8)]) (cn 39 (sq (rF [o1 2 (mI 8)]) .ret) .skip)))) (rF [m1 20 4,o1 21 (aK .add 20 1),m1 4 21])))
def Ik:au:=(sq (rF [o1 1 (.box 3 (t1 0)),o1 2 (mI 0)]) (sq (sq (rF [lT 6 3 1,o1 7 (cF 24 [t1 6]),m1 3 7]) (sq (rF [m1 8 3,o1 9 (aK .neq 8 0)]) (cn 9 (sq (rF [m1 10 3,m1 2 10])
  .ret) .skip))) (sq (sq (rF [fA 11 2 1,lF 12 1 11,o1 13 (nX 12),o1 14 (aK .gtr 13 6)]) (cn 14 (sq (rF [o1 2 (mI 8)]) .ret) .skip)) (sq (sq (rF [o1 4 (mI 0)]) (.block 0 (.loop C3)))
  MA))))
abbrev am0:List K:=[.blk 0,.c MA]
abbrev afF:=aW [(.tmp 2)] false
def Ao:aJ:=.code 1 40 Ik [(.tmp 2)] false
-- 8
def Mv:au:=(sq (rF [o1 2 (.box 3 (t1 0)),o1 4 (mI 0)]) (sq (sq (rF [lT 8 3 2,o1 9 (cF 24 [t1 8]),m1 5 9]) (sq (rF [m1 10 5,o1 11 (aK .neq 10 0)]) (cn 11 (sq (rF [m1 12 5,m1 4 12])
  .ret) .skip))) (sq (rF [lT 14 3 2,m1 15 1,o1 16 (cF 25 [t1 14,t1 15]),m1 13 16,o1 17 (eX 0 13),o1 18 (eX 1 13),m1 6 17,m1 7 18]) (sq (rF [m1 19 7,m1 4 19]) .ret))))
abbrev auq:=aW [(.tmp 4)] false
def D2:aJ:=.code 2 20 Mv [(.tmp 4)] false
-- 9
def Mx:au:=(sq (rF [o1 4 (mI 0)]) .ret)
def x7:au:=(sq (sq (rF [m1 6 5,m1 7 1,o1 8 (nX 7),o1 9 (aX .lss 6 8)]) (cn 9 .skip (.exit 0))) (sq (.block 1 (sq (sq (rT [m1 12 1,m1 13 5,o1 14 (iX 1 12 13),lF 15 1 14,fA
  16 2 2,lF 17 1 16,o1 18 (nX 17),o1 19 (aK .sub 18 1),o1 20 (cF 26 [t1 15,i1 0,t1 19]),o1 21 (uX 20)]) (cn 21 (sq (rF [o1 4 (mI 6)]) .ret) .skip)) (sq (rT [m1 22 5,o1 23 (aK .gtr 22 0),m1 24
  23,gT 25 24 (mX 1),gT 26 24 (mX 5),gT 27 24 (iX 1 25 26),gT 28 24 (lX 1 27),gT 29 24 (mX 1),gT 30 24 (mX 5),gT 31 24 (aK .sub 30 1),gT 32 24 (iX 1 29 31),gT 33 24 (lX 1 32),gT 34 24 (aX
  .leq 28 33),o1 35 (pA 24 34)]) (cn 35 (sq (rF [o1 4 (mI 9)]) .ret) .skip)))) (rF [m1 10 5,o1 11 (aK .add 10 1),m1 5 11])))
def Ty:au:=(sq (rF [o1 2 (.box 3 (t1 0)),o1 4 (mI 0)]) (sq (sq (rF [o1 5 (mI 0)]) (.block 0 (.loop x7))) Mx))
abbrev amY:List K:=[.blk 0,.c Mx]
abbrev afD:=aW [(.tmp 4)] false
def D4:aJ:=.code 2 36 Ty [(.tmp 4)] false
-- 10
def Ix:au:=(sq (rF [o1 6 (.move (.const (.slice .aA 0 []))),o1 7 (mI 12)]) .ret)
def MP:au:=(rF [m1 51 11,o1 52 (aK .add 51 1),m1 11 52])
def Iy:au:=(sq (rF [lF 86 1 13,o1 87 (aK .geq 86 0)]) (cn 87 (sq (rF [lF 88 1 12,m1 6 88,o1 7 (mI 0)]) .ret) .skip))
def uA:au:=(.block 3 (sq (rF [lF 58 1 8,lF 59 1 4,m1 60 14,lF 61 1 5,o1 62 (cF 33 [t1 58,t1 59,t1 60,t1 61]),o1 63 (cF 34 [t1 62]),m1 57 63,o1 64 (eX 0 57),o1 65 (eX 1
  57),o1 66 (eX 2 57),m1 15 64,m1 16 65,m1 17 66]) (sq (rF [m1 67 17,m1 68 67,gT 69 68 (mX 16),gT 70 68 (lX 1 13),gT 71 68 (aX .gtr 69 70),gT 72 68 (mX 71),gF 73 72 (mX 16),gF 74 72 (lX 1
  13),gF 75 72 (aX .eql 73 74),gF 76 72 (mX 75),gT 77 76 (mX 15),gT 78 76 (lX 1 12),gT 79 76 (cF 35 [t1 77,t1 78,.const (.fn 36 [] [])]),gT 80 76 (aK .lss 79 0),gF 81 72 (pA 76 80),gT 82 68
  (pB 72 81),o1 83 (pA 68 82)]) (cn 83 (rF [m1 84 15,m1 85 16,sT 1 12 84,sT 1 13 85]) .skip))))
def Df:au:=(rF [m1 14 56])
def Dg:au:=(sq (sq (rF [m1 47 11,m1 48 10,o1 49 (nX 48),o1 50 (aX .leq 47 49)]) (cn 50 .skip (.exit 0))) (sq (.block 1 (sq (rF [o1 12 (.alloc [.slice .aA 0 []])]) (sq (rF [o1
  13 (.alloc [.v (.int .i64 0)]),⟨none,none,(.store 1 (t1 13) (i1 (-1)))⟩]) (sq (sq (rF [m1 53 10,m1 54 11,o1 55 (cF 32 [t1 53,t1 54])]) (.block 2 (.rangeFunc (t1 55) [56] Df
  uA))) Iy)))) MP))
def De:au:=(sq (rF [o1 3 (.box 3 (t1 0)),o1 4 (.box 1 (t1 1)),o1 5 (.box 1 (t1 2)),o1 6 (.move (.const (.slice .aA 0 []))),o1 7 (mI 0)]) (sq (rF [lT 19 3 3,o1 20 (cF 27 [t1
  19]),m1 18 20,o1 21 (eX 0 18),o1 22 (eX 1 18),o1 8 (.alloc [.v (.pointer none)]),sT 1 8 21,m1 9 22]) (sq (sq (rF [m1 23 9,o1 24 (aK .neq 23 0)]) (cn 24 (sq (rF [m1 25 9,o1 6 (.move (.const
  (.slice .aA 0 []))),m1 7 25]) .ret) .skip)) (sq (rF [lF 27 1 8,lF 28 1 4,o1 29 (cF 28 [t1 27,t1 28]),m1 26 29,o1 30 (eX 0 26),o1 31 (eX 1 26),m1 9 31]) (sq (sq (rF [m1 32 9,lF 33 1 8,lF
  34 1 5,o1 35 (cF 30 [t1 33,t1 34]),o1 36 (.buildSlice 1 [[.v (.int .i64 0)],[.v (.int .i64 0)]] [(0,(t1 32)),(1,(t1 35))]),o1 37 (cF 29 [t1 36]),m1 9 37]) (sq (rF [m1 38 9,o1 39 (aK .neq
  38 0)]) (cn 39 (sq (rF [m1 40 9,o1 6 (.move (.const (.slice .aA 0 []))),m1 7 40]) .ret) .skip))) (sq (rF [fA 41 2 3,lF 42 1 41,o1 43 (nX 42),o1 44 (.arith .shl (i1 1) (t1 43)),o1 45 (aK .sub
  44 1),o1 46 (cF 31 [t1 45]),m1 10 46]) (sq (sq (rF [o1 11 (mI 0)]) (.block 0 (.loop Dg))) Ix)))))))
abbrev Yg:List K:=[.blk 2,.c Iy,.blk 1,.c MP,.lp Dg,.blk 0,.c Ix]
abbrev ang:List K:=[.blk 0,.c Ix]
abbrev NW:=aW [(.tmp 6),(.tmp 7)] false
def yq:aJ:=.code 3 89 De [(.tmp 6),(.tmp 7)] false
-- 11
def Mr:au:=(sq (rF [lT 55 3 3,sT 3 2 55]) .ret)
def Ig:au:=(sq (sq (rF [m1 33 6,fA 34 2 1,lF 35 1 34,o1 36 (nX 35),o1 37 (aX .lss 33 36)]) (cn 37 .skip (.exit 2))) (sq (.block 3 (sq (rF [fA 40 2 1,lF 41 1 40,m1 42 6,o1 43
  (iX 7 41 42), lT 44 7 43, o1 7 (.alloc [.v (.string ⟨#[]⟩), .v (.int .i64 0), .v (.int .i64 0), .v (.int .i64 0), .v (.int .i64 0), .slice .aA 0 [], .v (.int .i64 0)]), sT 7 7 44]) (sq (rF [fA 45
  5 7, lF 46 1 45, o1 47 (cF 38 [t1 46]), fA 48 5 7, sT 1 48 47]) (rF [fA 49 2 3, lF 50 1 49, lT 51 7 7, o1 52 (.buildSlice 7 [[.v (.string ⟨#[]⟩), .v (.int .i64 0), .v (.int .i64 0), .v (.int .i64
  0),.v (.int .i64 0),.slice .aA 0 [],.v (.int .i64 0)]] [(0,(t1 51))]),o1 53 (.append 7 (t1 50) (t1 52)),fA 54 2 3,sT 1 54 53])))) (rF [m1 38 6,o1 39 (aK .add 38 1),m1 6 39])))
def Ms:au:=(sq (sq (rF [o1 6 (mI 0)]) (.block 2 (.loop Ig))) Mr)
def Ih:au:=(sq (sq (rF [m1 11 4,fA 12 1 1,lF 13 1 12,o1 14 (nX 13),o1 15 (aX .lss 11 14)]) (cn 15 .skip (.exit 0))) (sq (.block 1 (sq (rF [fA 18 1 1,lF 19 1 18,m1 20 4,o1 21
  (iX 3 19 20), lT 22 3 21, o1 5 (.alloc [.v (.string ⟨#[]⟩), .v (.int .i64 0), .slice .aA 0 []]), sT 3 5 22]) (sq (rF [fA 23 2 5, lF 24 1 23, o1 25 (cF 37 [t1 24]), fA 26 2 5, sT 1 26 25]) (rF [fA
  27 1 3, lF 28 1 27, lT 29 3 5, o1 30 (.buildSlice 3 [[.v (.string ⟨#[]⟩), .v (.int .i64 0), .slice .aA 0 []]] [(0, (t1 29))]), o1 31 (.append 3 (t1 28) (t1 30)), fA 32 1 3, sT 1 32 31])))) (rF [m1
  16 4,o1 17 (aK .add 16 1),m1 4 17])))
def Tv:au:=(sq (rF [o1 1 (.box 3 (t1 0)),o1 2 (.alloc [.v (.int .i64 0),.slice .aA 0 [],.slice .aA 0 []])]) (sq (rF [fA 8 0 1,lF 9 1 8,o1 10 (.build [.v (.int .i64 0),.slice
  .aA 0 [],.slice .aA 0 []] [(0,(1,(t1 9)))]),o1 3 (.alloc [.v (.int .i64 0),.slice .aA 0 [],.slice .aA 0 []]),sT 3 3 10]) (sq (sq (rF [o1 4 (mI 0)]) (.block 0 (.loop Ih)))
  Ms)))
abbrev amS:List K:=[.blk 2,.c Mr]
abbrev amT:List K:=[.blk 0,.c Ms]
abbrev VE:=aW [(.cell true 3 2)] false
def D0:aJ:=.code 1 56 Tv [(.cell true 3 2)] false
-- 12
def Ii:au:=(sq (rF [m1 31 3,m1 2 31]) .ret)
def CY:au:=(sq (sq (rF [m1 5 4,m1 6 0,o1 7 (nX 6),o1 8 (aX .lss 5 7)]) (cn 8 .skip (.exit 0))) (sq (.block 1 (rT [m1 11 3,m1 12 0,m1 13 4,o1 14 (iX 3 12 13),fA 15 0 14,lF 16 1
  15,m1 17 0,m1 18 4,o1 19 (iX 3 17 18),fA 20 1 19,lF 21 1 20,m1 22 0,m1 23 4,o1 24 (iX 3 22 23),fA 25 2 24,lF 26 1 25,o1 27 (.call true 38 [t1 26]),o1 28 (.build [.v (.int .i64 0),.v
  (.int .i64 0),.slice .aA 0 []] [(0,(1,(t1 16))),(1,(1,(t1 21))),(2,(1,(t1 27)))]),o1 29 (.buildSlice 3 [[.v (.int .i64 0),.v (.int .i64 0),.slice .aA 0 []]] [(0,(t1 28))]),o1 30
  (.append 3 (t1 11) (t1 29)),m1 3 30])) (rF [m1 9 4,o1 10 (aK .add 9 1),m1 4 10])))
def Tt:au:=(sq (rF [o1 2 (.move (.const (.slice .aA 0 [])))]) (sq (rF [o1 3 (.move (.const (.slice .aA 0 [])))]) (sq (sq (rF [o1 4 (mI 0)]) (.block 0 (.loop CY)))
  Ii)))
abbrev amU:List K:=[.blk 0,.c Ii]
abbrev afB:=aW [(.tmp 2)] true
def DZ:aJ:=.code 1 32 Tt [(.tmp 2)] true
-- 13
def Mt:au:=(sq (rF [o1 4 (mI (-1))]) .ret)
def CZ:au:=(sq (sq (rF [m1 6 5,m1 7 0,o1 8 (nX 7),o1 9 (aX .lss 6 8)]) (cn 9 .skip (.exit 0))) (sq (.block 1 (sq (rF [m1 12 0,m1 13 5,o1 14 (iX 3 12 13),fA 15 0 14,lF 16 1 15,
  m1 17 1,o1 18 (aX .eql 16 17)]) (cn 18 (sq (rF [m1 19 5,m1 4 19]) .ret) .skip))) (rF [m1 10 5,o1 11 (aK .add 10 1),m1 5 11])))
def Tw:au:=(sq (rF [o1 4 (mI 0)]) (sq (sq (rF [o1 5 (mI 0)]) (.block 0 (.loop CZ))) Mt))
abbrev amV:List K:=[.blk 0,.c Mt]
abbrev afC:=aW [(.tmp 4)] false
def D1:aJ:=.code 2 20 Tw [(.tmp 4)] false
-- 14
def Mz:au:=(sq (rF [o1 4 (mB true)]) .ret)
def C2:au:=(sq (sq (rF [m1 11 5,m1 12 0,o1 13 (nX 12),o1 14 (aX .lss 11 13)]) (cn 14 .skip (.exit 0))) (sq (.block 1 (sq (rT [m1 17 0,m1 18 5,o1 19 (iX 3 17 18),lT 20 3 19,m1 21
  1,m1 22 5,o1 23 (iX 3 21 22),lT 24 3 23,o1 25 (cF 39 [t1 20,t1 24]),o1 26 (aK .neq 25 0)]) (cn 26 (sq (rF [o1 4 (mB false)]) .ret) .skip))) (rF [m1 15 5,o1 16 (aK .add 15 1),m1 5 16])))
def My:au:=(sq (rF [o1 4 (mB false)]) (sq (sq (rF [m1 6 0,o1 7 (nX 6),m1 8 1,o1 9 (nX 8),o1 10 (aX .neq 7 9)]) (cn 10 (sq (rF [o1 4 (mB false)]) .ret) .skip)) (sq (sq (rF [o1 5 (mI
  0)]) (.block 0 (.loop C2))) Mz)))
abbrev amZ:List K:=[.blk 0,.c Mz]
abbrev afE:=aW [(.tmp 4)] false
def An:aJ:=.code 2 27 My [(.tmp 4)] false
-- 15
def Ml:au:=(sq (rF [m1 22 7,m1 6 22]) .ret)
def CT:au:=(sq (sq (rF [m1 9 8,fA 10 2 3,lF 11 1 10,o1 12 (nX 11),o1 13 (aX .lss 9 12)]) (cn 13 .skip (.exit 0))) (sq (.block 1 (sq (rF [m1 16 1,m1 17 2,m1 18 8,o1 19 (cF 40
  [t1 16,t1 17,t1 18])]) (cn 19 (rF [m1 20 7,o1 21 (aK .add 20 1),m1 7 21]) .skip))) (rF [m1 14 8,o1 15 (aK .add 14 1),m1 8 15])))
def Tr:au:=(sq (rF [o1 3 (.box 3 (t1 0)),o1 6 (mI 0)]) (sq (rF [o1 7 (mI 0)]) (sq (sq (rF [o1 8 (mI 0)]) (.block 0 (.loop CT))) Ml)))
abbrev amN:List K:=[.blk 0,.c Ml]
abbrev afy:=aW [(.tmp 6)] false
def DV:aJ:=.code 3 23 Tr [(.tmp 6)] false
-- 16
def MR:au:=(sq (rF [m1 59 9,m1 4 59,o1 5 (mI 0)]) .ret)
def Af : au := (sq (rF [o1 36 (aX .lss 35 34)]) (sq (cn 36 .skip (.exit 0)) (sq (.block 1 (sq (rF [m1 37 35, o1 38 (iX 7 33 35), lT 39 7 38, o1 11 (.alloc [.v (.string ⟨#[]⟩), .v (.int
  .i64 0),.v (.int .i64 0),.v (.int .i64 0),.v (.int .i64 0),.slice .aA 0 [],.v (.int .i64 0)]),m1 10 37,sT 7 11 39]) (sq (rF [fA 40 0 3,lF 41 1 40,fA 42 1 3,lF 43 1 42,m1 44 10,o1 45
  (cF 42 [t1 41,t1 43,t1 44]),m1 46 45,gT 47 46 (mX 9),gT 48 46 (fX 0 11),gT 49 46 (lX 1 48),gT 50 46 (cF 43 [t1 47,t1 49]),gT 51 46 (uX 50),o1 52 (pA 46 51)]) (cn 52 (rF [m1 53 9,fA 54 0
  11, lF 55 1 54, o1 56 (.buildSlice 1 [[.v (.string ⟨#[]⟩)]] [(0, (t1 55))]), o1 57 (.append 1 (t1 53) (t1 56)), m1 9 57]) .skip)))) (rF [o1 58 (aK .add 35 1), m1 35 58]))))
def IA:au:=(sq (rF [o1 2 (.box 3 (t1 0)),o1 3 (.box 2 (t1 1)),o1 4 (.move (.const (.slice .aA 0 []))),o1 5 (mI 0)]) (sq (rF [lT 13 3 2,fA 14 0 3,lF 15 1 14,o1 16 (cF 41 [t1 13,
  t1 15]),m1 12 16,o1 17 (eX 0 12),o1 18 (eX 1 12),o1 19 (eX 2 12),m1 6 17,m1 7 18,m1 8 19]) (sq (sq (rF [m1 20 8,o1 21 (aK .eql 20 0)]) (cn 21 (rF [m1 23 6,fA 24 1 3,lF 25 1 24,o1 26 (cF
  28 [t1 23,t1 25]),m1 22 26,o1 27 (eX 0 22),o1 28 (eX 1 22),m1 8 28]) .skip)) (sq (sq (rF [m1 29 8,o1 30 (aK .neq 29 0)]) (cn 30 (sq (rF [m1 31 8,o1 4 (.move (.const (.slice .aA 0 []))),m1
  5 31]) .ret) .skip)) (sq (rF [o1 9 (.move (.const (.slice .aA 0 [])))]) (sq (sq (rF [fA 32 2 2,lF 33 1 32,o1 34 (nX 33),o1 35 (mI 0)]) (.block 0 (.loop Af))) MR))))))
abbrev ani:List K:=[.blk 0,.c MR]
abbrev afJ:=aW [(.tmp 4),(.tmp 5)] false
def yr:aJ:=.code 2 60 IA [(.tmp 4),(.tmp 5)] false
-- 17
def MJ:au:=(sq (rF [o1 1 (.box 3 (t1 0)),o1 2 (.move (.const (.slice .aA 0 []))),o1 3 (mI 0),o1 4 (mI 0)]) (sq (rF [lT 11 3 1,o1 12 (cF 27 [t1 11]),m1 10 12,o1 13 (eX 0 10),o1 14
  (eX 1 10),m1 5 13,m1 6 14]) (sq (sq (rF [m1 15 6,o1 16 (aK .neq 15 0)]) (cn 16 (sq (rF [m1 17 6,o1 2 (.move (.const (.slice .aA 0 []))),o1 3 (mI 0),m1 4 17]) .ret) .skip)) (sq (rF [m1 19 5,
  o1 20 (cF 44 [t1 19]),o1 21 (cF 34 [t1 20]),m1 18 21,o1 22 (eX 0 18),o1 23 (eX 1 18),o1 24 (eX 2 18),m1 7 22,m1 8 23,m1 9 24]) (sq (rF [m1 25 7,m1 26 8,m1 2 25,m1 3 26,o1 4 (mI 0)])
  .ret)))))
abbrev auv:=aW [(.tmp 2),(.tmp 3),(.tmp 4)] false
def Ee:aJ:=.code 1 27 MJ [(.tmp 2),(.tmp 3),(.tmp 4)] false
-- 18
def Tp:au:=(sq (rF [o1 0 (.alloc [.v (.int .i64 0),.slice .aA 0 [],.slice .aA 0 []])]) (sq (rF [o1 1 (.build [.v (.int .i64 0),.v (.int .i64 0)] [(0,(1,(i1 4))),(1,(1,(i1
  4)))]), o1 2 (.buildSlice 2 [[.v (.int .i64 0), .v (.int .i64 0)]] [(0, (t1 1))]), o1 3 (.build [.v (.string ⟨#[]⟩), .v (.int .i64 0), .slice .aA 0 []] [(0, (1, (.const (.v (.string ⟨#[97]⟩))))),
  (1, (1, (i1 1))), (2, (1, (t1 2)))]), o1 4 (.build [.v (.string ⟨#[]⟩), .v (.int .i64 0), .slice .aA 0 []] [(0, (1, (.const (.v (.string ⟨#[98]⟩)))))]), o1 5 (.buildSlice 3 [[.v (.string ⟨#[]⟩),
  .v (.int .i64 0), .slice .aA 0 []], [.v (.string ⟨#[]⟩), .v (.int .i64 0), .slice .aA 0 []]] [(0, (t1 3)), (1, (t1 4))]), o1 6 (.build [.v (.int .i64 0), .v (.int .i64 0)] [(1, (1, (i1 5)))]),
  o1 7 (.buildSlice 1 [[.v (.int .i64 0)]] [(0, (i1 0))]), o1 8 (.build [.v (.string ⟨#[]⟩), .v (.int .i64 0), .v (.int .i64 0), .v (.int .i64 0), .v (.int .i64 0), .slice .aA 0 [], .v (.int .i64
  0)] [(0, (1, (.const (.v (.string ⟨#[109, 97, 114, 115]⟩))))), (1, (2, (t1 6))), (3, (1, (i1 3))), (4, (1, (i1 10))), (5, (1, (t1 7))), (6, (1, (i1 1)))]), o1 9 (.build [.v (.int .i64 0), .v (.int
  .i64 0)] [(1, (1, (i1 4)))]), o1 10 (.buildSlice 1 [[.v (.int .i64 0)], [.v (.int .i64 0)]] [(0, (i1 0)), (1, (i1 1))]), o1 11 (.build [.v (.string ⟨#[]⟩), .v (.int .i64 0), .v (.int .i64 0), .v
  (.int .i64 0), .v (.int .i64 0), .slice .aA 0 [], .v (.int .i64 0)] [(0, (1, (.const (.v (.string ⟨#[109, 111, 111, 110]⟩))))), (1, (2, (t1 9))), (3, (1, (i1 2))), (4, (1, (i1 7))), (5, (1, (t1
  10))),(6,(1,(i1 1)))]),o1 12 (.build [.v (.int .i64 0),.v (.int .i64 0)] [(1,(1,(i1 9)))]),o1 13 (.buildSlice 1 [[.v (.int .i64 0)],[.v (.int .i64 0)]] [(0,(i1 0)),(1,(i1 1))]),o1 14
  (.build [.v (.string ⟨#[]⟩), .v (.int .i64 0), .v (.int .i64 0), .v (.int .i64 0), .v (.int .i64 0), .slice .aA 0 [], .v (.int .i64 0)] [(0, (1, (.const (.v (.string ⟨#[109, 97, 114, 115]⟩))))),
  (1, (2, (t1 12))), (3, (1, (i1 4))), (4, (1, (i1 6))), (5, (1, (t1 13))), (6, (1, (i1 2)))]), o1 15 (.buildSlice 7 [[.v (.string ⟨#[]⟩), .v (.int .i64 0), .v (.int .i64 0), .v (.int .i64 0), .v
  (.int .i64 0), .slice .aA 0 [], .v (.int .i64 0)], [.v (.string ⟨#[]⟩), .v (.int .i64 0), .v (.int .i64 0), .v (.int .i64 0), .v (.int .i64 0), .slice .aA 0 [], .v (.int .i64 0)], [.v (.string
  ⟨#[]⟩), .v (.int .i64 0), .v (.int .i64 0), .v (.int .i64 0), .v (.int .i64 0), .slice .aA 0 [], .v (.int .i64 0)]] [(0, (t1 8)), (1, (t1 11)), (2, (t1 14))]), o1 16 (.build [.v (.int .i64 0),
  .slice .aA 0 [],.slice .aA 0 []] [(0,(1,(i1 10))),(1,(1,(t1 5))),(2,(1,(t1 15)))]),sT 3 0 16]) .ret))
abbrev auo:=aW [(.cell true 3 0)] false
def DS:aJ:=.code 0 17 Tp [(.cell true 3 0)] false
-- 19
def Iz:au:=(sq (sq (rF [m1 56 12,o1 57 (aK .eql 56 0)]) (cn 57 (sq (rF [o1 58 (.build [.v (.int .i64 0),.v (.int .i64 0)] []),sT 2 6 58,o1 7 (mI 6)]) .ret) .skip)) (sq (rF [m1
  59 11,m1 60 12,o1 61 (cF 46 [t1 59,t1 60]),sT 2 6 61,o1 7 (mI 0)]) .ret))
def ya : au := (sq (rF [o1 32 (aX .lss 31 30)]) (sq (cn 32 .skip (.exit 0)) (sq (.block 1 (sq (rF [m1 33 31, o1 34 (iX 7 29 31), lT 35 7 34, o1 14 (.alloc [.v (.string ⟨#[]⟩), .v (.int
  .i64 0),.v (.int .i64 0),.v (.int .i64 0),.v (.int .i64 0),.slice .aA 0 [],.v (.int .i64 0)]),m1 13 33,sT 7 14 35]) (sq (sq (rF [fA 36 0 14,lF 37 1 36,m1 38 2,o1 39 (aX .neq 37 38)]) (cn
  39 (.exit 1) .skip)) (sq (rF [m1 40 12,fA 41 3 14,lF 42 1 41,o1 43 (aX .add 40 42),m1 12 43]) (sq (rF [m1 45 1,m1 46 13,o1 47 (cF 45 [t1 45,t1 46]),m1 44 47,o1 48 (eX 0 44),o1 49 (eX 1
  44),o1 15 (.alloc [.v (.int .i64 0),.v (.int .i64 0),.slice .aA 0 []]),sT 3 15 48,m1 16 49]) (sq (rF [m1 50 16]) (cn 50 (rF [m1 51 11,fA 52 3 14,lF 53 1 52,o1 54 (aX .add 51 53),m1 11
  54]) .skip))))))) (rF [o1 55 (aK .add 31 1),m1 31 55]))))
def MQ:au:=(sq (rF [o1 3 (.box 3 (t1 0)),o1 6 (.alloc [.v (.int .i64 0),.v (.int .i64 0)]),o1 7 (mI 0)]) (sq (sq (rF [lT 18 3 3,m1 19 1,o1 20 (cF 41 [t1 18,t1 19]),m1 17 20,o1
  21 (eX 0 17),o1 22 (eX 1 17),o1 23 (eX 2 17),m1 8 21,m1 9 22,m1 10 23]) (sq (rF [m1 24 10,o1 25 (aK .neq 24 0)]) (cn 25 (sq (rF [o1 26 (.build [.v (.int .i64 0),.v (.int .i64 0)] []),m1 27
  10,sT 2 6 26,m1 7 27]) .ret) .skip))) (sq (rF [o1 11 (mI 0),o1 12 (mI 0)]) (sq (sq (rF [fA 28 2 3,lF 29 1 28,o1 30 (nX 29),o1 31 (mI 0)]) (.block 0 (.loop ya))) Iz))))
abbrev anh:List K:=[.blk 0,.c Iz]
abbrev afI:=aW [(.cell true 2 6),(.tmp 7)] false
def Eh:aJ:=.code 3 62 MQ [(.cell true 2 6),(.tmp 7)] false
-- 20
def Iw : au := (sq (rF [m1 41 3, o1 42 (cF 48 [t1 41, .const (.v (.string ⟨#[32]⟩))]), m1 2 42]) .ret)
def MN:au:=(rF [o1 40 (aK .add 11 1),m1 11 40])
def MO : au := (rF [m1 36 3, m1 37 6, o1 38 (.buildSlice 1 [[.v (.string ⟨#[]⟩)]] [(0, (t1 37))]), o1 39 (.append 1 (t1 36) (t1 38)), m1 3 39])
def Iu:au:=(sq (rF [o1 27 (aX .lss 26 25)]) (sq (cn 27 .skip (.exit 2)) (sq (.block 3 (sq (rF [o1 28 (iX 1 24 26),lF 29 1 28,m1 8 29]) (rF [m1 30 6,m1 31 8,o1 32 (cF 47 [t1
  31]), o1 33 (.arith .add (.const (.v (.string ⟨#[43]⟩))) (t1 32)), o1 34 (aX .add 30 33), m1 6 34]))) (rF [o1 35 (aK .add 26 1), m1 26 35]))))
def Dd:au:=(sq (rF [o1 12 (aX .lss 11 10)]) (sq (cn 12 .skip (.exit 0)) (sq (.block 1 (sq (rF [o1 13 (iX 3 9 11),lT 14 3 13,o1 5 (.alloc [.v (.int .i64 0),.v (.int .i64 0),
  .slice .aA 0 []]), sT 3 5 14]) (sq (rT [fA 15 0 5, lF 16 1 15, o1 17 (.call true 47 [t1 16]), o1 18 (.arith .add (t1 17) (.const (.v (.string ⟨#[64]⟩)))), fA 19 1 5, lF 20 1 19, o1 21 (cF 47 [t1
  20]),o1 22 (aX .add 18 21),m1 6 22]) (sq (sq (rF [fA 23 2 5,lF 24 1 23,o1 25 (nX 24),o1 26 (mI 0)]) (.block 2 (.loop Iu))) MO)))) MN)))
def TF : au := (sq (rF [o1 2 (.move (.const (.v (.string ⟨#[]⟩))))]) (sq (rF [o1 3 (.move (.const (.slice .aA 0 [])))]) (sq (sq (rF [m1 9 0, o1 10 (nX 9), o1 11 (mI 0)]) (.block 0
  (.loop Dd))) Iw)))
abbrev anf:List K:=[.blk 2,.c MO,.blk 1,.c MN,.lp Dd,.blk 0,.c Iw]
abbrev ane:List K:=[.blk 0,.c Iw]
abbrev VO:=aW [(.tmp 2)] false
def Eg:aJ:=.code 1 43 TF [(.tmp 2)] false
-- 21
def Ti:au:=(sq (rF [o1 2 (.alloc [.v (.int .i64 0),.v (.int .i64 0)])]) (sq (rF [m1 3 0,o1 4 (.build [.v (.int .i64 0),.v (.int .i64 0)] [(0,(1,(t1 3))),(1,(1,(i1 1)))]),sT 2 2
  4]) .ret))
abbrev auj:=aW [(.cell true 2 2)] false
def DJ:aJ:=.code 1 5 Ti [(.cell true 2 2)] false
-- 22
def Mf:au:=(sq (rF [o1 2 (mB true)]) .ret)
def Ad:au:=(sq (sq (rF [m1 40 4,fA 41 2 1,lF 42 1 41,o1 43 (nX 42),o1 44 (aX .lss 40 43)]) (cn 44 .skip (.exit 2))) (sq (.block 3 (sq (rF [fA 47 2 1,lF 48 1 47,m1 49 4,o1 50 (iX
  7 48 49),fA 51 0 50,lF 52 1 51,o1 53 (.len true (t1 52)),o1 54 (aK .gtr 53 20),m1 55 54,gF 56 55 (fX 2 1),gF 57 55 (lX 1 56),gF 58 55 (mX 4),gF 59 55 (iX 7 57 58),gF 60 55 (fX 5 59),gF 61
  55 (lX 1 60),gF 62 55 (nX 61),gF 63 55 (aK .gtr 62 6),o1 64 (pB 55 63)]) (cn 64 (sq (rF [o1 2 (mB false)]) .ret) .skip))) (rF [m1 45 4,o1 46 (aK .add 45 1),m1 4 46])))
def Mg:au:=(sq (sq (rF [o1 4 (mI 0)]) (.block 2 (.loop Ad))) Mf)
def Ae:au:=(sq (sq (rF [m1 15 3,fA 16 1 1,lF 17 1 16,o1 18 (nX 17),o1 19 (aX .lss 15 18)]) (cn 19 .skip (.exit 0))) (sq (.block 1 (sq (rF [fA 22 1 1,lF 23 1 22,m1 24 3,o1 25 (iX
  3 23 24),fA 26 0 25,lF 27 1 26,o1 28 (.len true (t1 27)),o1 29 (aK .gtr 28 20),m1 30 29,gF 31 30 (fX 1 1),gF 32 30 (lX 1 31),gF 33 30 (mX 3),gF 34 30 (iX 3 32 33),gF 35 30 (fX 2 34),gF 36
  30 (lX 1 35),gF 37 30 (nX 36),gF 38 30 (aK .gtr 37 8),o1 39 (pB 30 38)]) (cn 39 (sq (rF [o1 2 (mB false)]) .ret) .skip))) (rF [m1 20 3,o1 21 (aK .add 20 1),m1 3 21])))
def Ia:au:=(sq (rF [o1 1 (.box 3 (t1 0)),o1 2 (mB false)]) (sq (sq (rF [fA 5 1 1,lF 6 1 5,o1 7 (nX 6),o1 8 (aK .gtr 7 6),m1 9 8,gF 10 9 (fX 2 1),gF 11 9 (lX 1 10),gF 12 9 (nX 11),
  gF 13 9 (aK .gtr 12 14),o1 14 (pB 9 13)]) (cn 14 (sq (rF [o1 2 (mB false)]) .ret) .skip)) (sq (sq (rF [o1 3 (mI 0)]) (.block 0 (.loop Ae))) Mg)))
abbrev amI:List K:=[.blk 2,.c Mf]
abbrev amJ:List K:=[.blk 0,.c Mg]
abbrev VA:=aW [(.tmp 2)] false
def DR:aJ:=.code 1 65 Ia [(.tmp 2)] false
-- 23
def Il:au:=(sq (rF [m1 26 5,m1 4 26]) .ret)
def C4:au:=(sq (sq (rF [m1 7 6,fA 8 2 2,lF 9 1 8,o1 10 (nX 9),o1 11 (aX .lss 7 10),m1 12 11,gT 13 12 (mX 5),gT 14 12 (mX 1),gT 15 12 (aX .leq 13 14),o1 16 (pA 12 15)]) (cn 16
  .skip (.exit 0))) (sq (.block 1 (rF [m1 19 5,lT 20 3 2,m1 21 6,o1 22 (cF 49 [t1 20,t1 21]),o1 23 (nX 22),o1 24 (.arith .add (i1 1) (t1 23)),o1 25 (aX .mul 19 24),m1 5 25])) (rF [m1 17 6,o1
  18 (aK .add 17 1),m1 6 18])))
def TA:au:=(sq (rF [o1 2 (.box 3 (t1 0)),o1 4 (mI 0)]) (sq (rF [o1 5 (mI 1)]) (sq (sq (rF [o1 6 (mI 0)]) (.block 0 (.loop C4))) Il)))
abbrev am1:List K:=[.blk 0,.c Il]
abbrev afG:=aW [(.tmp 4)] false
def D6:aJ:=.code 2 27 TA [(.tmp 4)] false
-- 24
def Tz:au:=(sq (rF [o1 1 (.box 3 (t1 0)),o1 2 (mI 0)]) (sq (rF [lT 6 3 1,o1 7 (cF 50 [t1 6]),m1 5 7,o1 8 (eX 0 5),o1 9 (eX 1 5),o1 3 (.alloc [.v (.int .i64 0),.v (.int .i64
  0)]),sT 2 3 8,m1 4 9]) (sq (rF [m1 10 4,m1 2 10]) .ret)))
abbrev aur:=aW [(.tmp 2)] false
def D5:aJ:=.code 1 11 Tz [(.tmp 2)] false
-- 25
def Mm:au:=(sq (rF [o1 4 (mI 0),o1 5 (mI 0)]) .ret)
def CU:au:=(sq (sq (rF [m1 8 6,m1 9 1,o1 10 (nX 9),o1 11 (aX .lss 8 10)]) (cn 11 .skip (.exit 0))) (sq (.block 1 (sq (rF [lT 14 3 2,m1 15 1,m1 16 6,o1 17 (cF 51 [t1 14,t1
  15,t1 16]),m1 7 17]) (sq (rF [m1 18 7,o1 19 (aK .neq 18 0)]) (cn 19 (sq (rF [m1 20 6,m1 21 7,m1 4 20,m1 5 21]) .ret) .skip)))) (rF [m1 12 6,o1 13 (aK .add 12 1),m1 6 13])))
def Ts:au:=(sq (rF [o1 2 (.box 3 (t1 0)),o1 4 (mI 0),o1 5 (mI 0)]) (sq (sq (rF [o1 6 (mI 0)]) (.block 0 (.loop CU))) Mm))
abbrev amO:List K:=[.blk 0,.c Mm]
abbrev afz:=aW [(.tmp 4),(.tmp 5)] false
def DW:aJ:=.code 2 22 Ts [(.tmp 4),(.tmp 5)] false
-- 26
def Tj:au:=(sq (rF [o1 6 (mB false)]) (sq (rF [m1 7 1,m1 8 0,o1 9 (aX .leq 7 8),m1 10 9,gT 11 10 (mX 0),gT 12 10 (mX 2),gT 13 10 (aX .leq 11 12),o1 14 (pA 10 13),m1 6 14])
  .ret))
abbrev auk:=aW [(.tmp 6)] false
def DK:aJ:=.code 3 15 Tj [(.tmp 6)] false
-- 27
def MX:au:=(sq (rF [o1 1 (.box 3 (t1 0)),o1 2 (.move (.const (.v (.pointer none)))),o1 3 (mI 0)]) (sq (rF [lT 9 3 1,o1 10 (cF 52 [t1 9]),m1 8 10,o1 11 (eX 0 8),o1 12 (eX 1 8),
  m1 4 11,m1 5 12]) (sq (sq (rF [m1 13 5,o1 14 (aK .neq 13 0)]) (cn 14 (sq (rF [m1 15 5,o1 2 (.move (.const (.v (.pointer none)))),m1 3 15]) .ret) .skip)) (sq (rF [o1 6 (.move (.const (.fn 53 []
  [])))]) (sq (rF [fA 16 2 1,lF 17 1 16,o1 18 (nX 17),o1 19 (aK .leq 18 6),m1 20 19,gT 21 20 (fX 2 1),gT 22 20 (lX 1 21),gT 23 20 (mX 6),gT 24 20 (cF 54 [t1 22,t1 23]),gT 25 20 (uX 24),o1
  26 (pA 20 25),m1 7 26]) (sq (rF [m1 27 4,m1 28 7,o1 29 (cF 55 [t1 28,i1 8]),m1 2 27,m1 3 29]) .ret))))))
abbrev auD:=aW [(.tmp 2),(.tmp 3)] false
def Ar:aJ:=.code 1 30 MX [(.tmp 2),(.tmp 3)] false
-- 28
def Dr:au:=(sq (rF [o1 4 (mI 0),o1 5 (mI 0)]) .ret)
def Dq:au:=(sq (rF [o1 12 (aX .lss 11 10)]) (sq (cn 12 .skip (.exit 0)) (sq (.block 1 (sq (rF [m1 13 11,o1 14 (iX 3 9 11),lT 15 3 14,o1 7 (.alloc [.v (.int .i64 0),.v (.int .i64
  0),.slice .aA 0 []]),m1 6 13,sT 3 7 15]) (sq (rT [m1 16 0,lT 17 3 7,m1 18 1,m1 19 6,o1 20 (.slice (.sl 3) (t1 18) none (some (t1 19)) none),o1 21 (cF 56 [t1 16,t1 17,t1 20]),m1 8 21])
  (sq (rF [m1 22 8,o1 23 (aK .neq 22 0)]) (cn 23 (sq (rF [m1 24 6,m1 25 8,m1 4 24,m1 5 25]) .ret) .skip))))) (rF [o1 26 (aK .add 11 1),m1 11 26]))))
def TV:au:=(sq (rF [o1 4 (mI 0),o1 5 (mI 0)]) (sq (sq (rF [m1 9 1,o1 10 (nX 9),o1 11 (mI 0)]) (.block 0 (.loop Dq))) Dr))
abbrev ans:List K:=[.blk 0,.c Dr]
abbrev afP:=aW [(.tmp 4),(.tmp 5)] false
def ED:aJ:=.code 2 27 TV [(.tmp 4),(.tmp 5)] false
-- 29
def MT:au:=(sq (rF [o1 2 (mI 0)]) .ret)
def ID:au:=(sq (rF [o1 8 (aX .lss 7 6)]) (sq (cn 8 .skip (.exit 0)) (sq (.block 1 (sq (rF [o1 9 (iX 1 5 7),lF 10 1 9,m1 4 10]) (sq (rF [m1 11 4,o1 12 (aK .neq 11 0)]) (cn 12 (sq
  (rF [m1 13 4,m1 2 13]) .ret) .skip)))) (rF [o1 14 (aK .add 7 1),m1 7 14]))))
def TI:au:=(sq (rF [o1 2 (mI 0)]) (sq (sq (rF [m1 5 0,o1 6 (nX 5),o1 7 (mI 0)]) (.block 0 (.loop ID))) MT))
abbrev ank:List K:=[.blk 0,.c MT]
abbrev afL:=aW [(.tmp 2)] false
def El:aJ:=.code 1 15 TI [(.tmp 2)] false
-- 30
def T6:au:=(sq (rF [o1 4 (mI 0)]) (sq (rF [m1 5 1,m1 6 0,o1 7 (.nilCheck (t1 6)),fA 8 0 7,fA 9 2 8,lF 10 1 9,o1 11 (nX 10),o1 12 (aK .sub 11 1),o1 13 (cF 57 [t1 5,i1 0,t1
  12]),o1 14 (cF 55 [t1 13,i1 6]),m1 4 14]) .ret))
abbrev auT:=aW [(.tmp 4)] false
def EO:aJ:=.code 2 15 T6 [(.tmp 4)] false
-- 31
def Dm:au:=(sq (rF [m1 20 3,m1 2 20]) .ret)
def yb:au:=(sq (sq (rF [m1 5 0,m1 6 4,o1 7 (aX .shr 5 6),o1 8 (aK .gtr 7 0)]) (cn 8 .skip (.exit 0))) (sq (.block 1 (sq (rF [m1 11 0,m1 12 4,o1 13 (aX .shr 11 12),o1 14 (aK
  .and 13 1),o1 15 (aK .eql 14 1)]) (cn 15 (rF [m1 16 3,m1 17 4,o1 18 (.buildSlice 1 [[.v (.int .i64 0)]] [(0,(t1 17))]),o1 19 (.append 1 (t1 16) (t1 18)),m1 3 19]) .skip))) (rF [m1 9 4,o1 10
  (aK .add 9 1),m1 4 10])))
def TM:au:=(sq (rF [o1 2 (.move (.const (.slice .aA 0 [])))]) (sq (rF [o1 3 (.move (.const (.slice .aA 0 [])))]) (sq (sq (rF [o1 4 (mI 0)]) (.block 0 (.loop yb)))
  Dm)))
abbrev Yi:List K:=[.blk 0,.c Dm]
abbrev VR:=aW [(.tmp 2)] false
def Ep:aJ:=.code 1 21 TM [(.tmp 2)] false
-- 32
def TJ:au:=(sq (rF [o1 2 (.box 1 (t1 0)),o1 3 (.box 1 (t1 1)),o1 4 (.move (.const (.v .nilFunc)))]) (sq (rF [o1 5 (.om 58 [] [t1 3,t1 2]),m1 4 5]) .ret))
abbrev auA:=aW [(.tmp 4)] false
def Em:aJ:=.code 2 6 TJ [(.tmp 4)] false
-- 33
def M4:au:=(sq (rF [lT 76 2 9,sT 2 8 76]) .ret)
def mn:au:=(sq (rF [o1 21 (aX .lss 20 19)]) (sq (cn 21 .skip (.exit 0)) (sq (.block 1 (sq (rF [m1 22 20,m1 10 22]) (sq (rF [m1 24 1,m1 25 10,o1 26 (cF 45 [t1 24,t1 25]),m1 23
  26,o1 27 (eX 0 23),o1 28 (eX 1 23),o1 11 (.alloc [.v (.int .i64 0),.v (.int .i64 0),.slice .aA 0 []]),o1 12 (.alloc [.v (.bool false)]),sT 3 11 27,sT 1 12 28]) (sq (rF [o1 29 (.om 61 []
  [t1 12,t1 11]),m1 13 29]) (sq (rF [fA 30 1 9,lF 31 1 30,m1 32 10,o1 33 (iX 2 31 32),m1 14 33]) (.block 2 (sq (rF [m1 44 2,m1 45 10,o1 46 (cF 62 [t1 44,t1 45]),m1 43 46]) (cn 43 (rT [m1 47
  14,m1 48 14,m1 49 14,o1 50 (.nilCheck (t1 49)),fA 51 0 50,lF 52 1 51,m1 53 13,o1 54 (.qn 63 [t1 52,t1 53] [(false,(1,12))]),lF 55 1 12,m1 56 55,gT 57 56 (mX 10),gT 58 56 (mX 3),gT
  59 56 (aX .neq 57 58),o1 60 (pA 56 59),o1 61 (.nilCheck (t1 47)),fA 62 0 61,sT 1 62 54,o1 63 (.nilCheck (t1 48)),fA 64 1 63,sT 1 64 60]) (sq (rF [lF 66 1 12,m1 65 66]) (cn 65 (rF [m1 67 14,
  m1 68 14,lT 69 3 11,o1 70 (.sM 3 (t1 69)),o1 71 (.nilCheck (t1 67)),fA 72 0 71,sT 1 72 70,o1 73 (.nilCheck (t1 68)),fA 74 1 73,⟨none,none,(.store 1 (t1 74) bF)⟩]) (rF [m1 34 14,m1 35
  14,m1 36 10,m1 37 3,o1 38 (aX .neq 36 37),o1 39 (.nilCheck (t1 34)),fA 40 0 39,⟨none,none,(.store 1 (t1 40) (.const (.slice .aA 0 [])))⟩,o1 41 (.nilCheck (t1 35)),fA 42 1 41,sT 1 42
  38]))))))))))) (rF [o1 75 (aK .add 20 1),m1 20 75]))))
def TU:au:=(sq (rF [o1 8 (.alloc [.v (.pointer none),.slice .aA 0 []])]) (sq (rF [m1 15 0,o1 16 (.wy 44 [t1 15]),o1 9 (.alloc [.v (.pointer none),.slice .aA 0 []]),sT 2 9
  16]) (sq (sq (rF [fA 17 1 9,lF 18 1 17,o1 19 (nX 18),o1 20 (mI 0)]) (.block 0 (.loop mn))) M4)))
abbrev vn:List K:=[.blk 0,.c M4]
abbrev uL:=aW [(.cell true 2 8)] false
def EB:aJ:=.code 4 77 TU [(.cell true 2 8)] false
-- 34
def CO:au:=(sq (sq (rF [m1 61 5,m1 62 10,o1 63 (cF 62 [t1 61,t1 62])]) (cn 63 (sq (rF [m1 64 9,m1 65 6,m1 2 64,m1 3 65,o1 4 (mB true)]) .ret) .skip)) (sq (rF [lT 67 2 1,m1 68
  9,m1 69 10,m1 70 5,o1 71 (cF 67 [t1 67,t1 68,t1 69,t1 70]),m1 66 71,o1 72 (eX 0 66),o1 73 (eX 1 66),o1 13 (.alloc [.v (.int .i64 0),.v (.int .i64 0),.slice .aA 0 []]),sT 3 13 72,m1
  14 73]) (sq (sq (rF [m1 74 14,o1 75 (uX 74)]) (cn 75 (sq (rF [m1 76 9,m1 77 6,m1 2 76,m1 3 77,o1 4 (mB true)]) .ret) .skip)) (rF [m1 78 9,lT 79 3 13,o1 80 (.buildSlice 3 [[.v (.int .i64 0),
  .v (.int .i64 0),.slice .aA 0 []]] [(0,(t1 79))]),o1 81 (.append 3 (t1 78) (t1 80)),m1 9 81]))))
def z8:au:=(sq (rF [o1 52 (aX .lss 51 50)]) (sq (cn 52 .skip (.exit 4)) (sq (.block 5 (sq (rF [o1 53 (iX 3 49 51),lT 54 3 53,o1 12 (.alloc [.v (.int .i64 0),.v (.int .i64 0),.slice
  .aA 0 []]),sT 3 12 54]) (rF [m1 55 10,fA 56 0 12,lF 57 1 56,o1 58 (.arith .shl (i1 1) (t1 57)),o1 59 (aX .or 55 58),m1 10 59]))) (rF [o1 60 (aK .add 51 1),m1 51 60]))))
def HX:au:=(.block 3 (sq (rF [o1 10 (mI 0)]) (sq (sq (rF [m1 49 9,o1 50 (nX 49),o1 51 (mI 0)]) (.block 4 (.loop z8))) CO)))
def HY:au:=(sq (sq (rF [m1 47 6,o1 48 (aK .lss 47 0)]) (cn 48 (sq (rF [o1 2 (.move (.const (.slice .aA 0 []))),o1 3 (mI 0),o1 4 (mB false)]) .ret) .skip)) (sq (rF [o1 9 (.move
  (.const (.slice .aA 0 [])))]) (.block 2 (.loop HX))))
def ux:au:=(sq (rF [o1 20 (aX .lss 19 18)]) (sq (cn 20 .skip (.exit 0)) (sq (.block 1 (sq (rF [m1 21 19,m1 7 21]) (sq (rF [lT 22 2 1,m1 23 7,o1 24 (cF 64 [t1 22,t1 23]),m1 8 24])
  (sq (rF [m1 25 8,m1 26 6,o1 27 (aX .geq 25 26),m1 28 27,gT 29 28 (lY 2 1),gT 30 28 (mX 7),gT 31 28 (cF 65 [t1 29,t1 30]),o1 32 (pA 28 31),m1 33 32,gT 34 33 (lY 2 1),gT 35 33 (mX 7),gT 36
  33 (cF 66 [t1 34,.const (.slice .aA 0 []),t1 35]),o1 37 (pA 33 36)]) (cn 37 (sq (sq (rF [m1 38 8,m1 39 6,o1 40 (aX .gtr 38 39)]) (cn 40 (rF [m1 41 8,o1 5 (.move (.const (.slice .aA 0
  []))),m1 6 41]) .skip)) (rF [m1 42 5,m1 43 7,o1 44 (.buildSlice 1 [[.v (.int .i64 0)]] [(0,(t1 43))]),o1 45 (.append 1 (t1 42) (t1 44)),m1 5 45])) .skip))))) (rF [o1 46 (aK .add 19 1),m1 19
  46]))))
def Tk:au:=(sq (rF [o1 1 (.box 2 (t1 0)),o1 2 (.move (.const (.slice .aA 0 []))),o1 3 (mI 0),o1 4 (mB false)]) (sq (rF [o1 5 (.move (.const (.slice .aA 0 [])))]) (sq (rF [o1 6 (mI
  (-1))]) (sq (sq (rF [fA 15 1 1,lF 16 1 15,o1 17 (nX 16),o1 18 (.arith .shl (i1 1) (t1 17)),o1 19 (mI 0)]) (.block 0 (.loop ux))) HY))))
abbrev amA:List K:=[.blk 4,.c CO,.blk 3,.lp HX,.blk 2]
abbrev amz:List K:=[.blk 2]
abbrev amB:List K:=[.blk 0,.c HY]
abbrev NV:=aW [(.tmp 2),(.tmp 3),(.tmp 4)] false
def DL:aJ:=.code 1 82 Tk [(.tmp 2),(.tmp 3),(.tmp 4)] false
-- 35
def IL:au:=(sq (sq (rF [m1 34 0,o1 35 (nX 34),m1 36 1,o1 37 (nX 36),o1 38 (aX .lss 35 37)]) (cn 38 (sq (rF [o1 6 (mI (-1))]) .ret) .skip)) (sq (rF [o1 6 (mI
  0)]) .ret))
def yd:au:=(sq (rF [o1 14 (aX .lss 13 12)]) (sq (cn 14 .skip (.exit 0)) (sq (.block 1 (sq (rF [m1 15 13,o1 16 (iX 3 11 13),lT 17 3 16,o1 8 (.alloc [.v (.int .i64
  0),.v (.int .i64 0),.slice .aA 0 []]),m1 7 15,sT 3 8 17]) (sq (sq (rF [m1 18 7,m1 19 1,o1 20 (nX 19),o1 21 (aX .geq 18 20)]) (cn 21 (sq (rF [o1 6 (mI 1)]) .ret) .skip)) (sq (rF [m1 22 1,m1
  23 7,o1 24 (iX 3 22 23),lT 25 3 24,o1 9 (.alloc [.v (.int .i64 0),.v (.int .i64 0),.slice .aA 0 []]),sT 3 9 25]) (sq (rF [m1 26 2,lT 27 3 8,lT 28 3 9,o1 29 (.jZ false (t1 26) [t1 27,
  t1 28]),m1 10 29]) (sq (rF [m1 30 10,o1 31 (aK .neq 30 0)]) (cn 31 (sq (rF [m1 32 10,m1 6 32]) .ret) .skip))))))) (rF [o1 33 (aK .add 13 1),m1 13 33]))))
def T8:au:=(sq (rF [o1 6 (mI 0)]) (sq (sq (rF [m1 11 0,o1 12 (nX 11),o1 13 (mI 0)]) (.block 0 (.loop yd)))
  IL))
abbrev anA:List K:=[.blk 0,.c IL]
abbrev afT:=aW [(.tmp 6)] false
def ES:aJ:=.code 3 39 T8 [(.tmp 6)] false
-- 36
def IC:au:=(sq (rF [o1 2 (.box 3 (t1 0)),o1 3 (.box 3 (t1 1)),o1 4 (mI 0)]) (sq (sq (rF [fA 5 0 2,lF 6 1 5,fA 7 0 3,lF 8 1 7,o1 9 (aX .neq 6 8)]) (cn 9 (sq (rF [fA 10 0 2,lF 11
  1 10,fA 12 0 3,lF 13 1 12,o1 14 (aX .sub 11 13),m1 4 14]) .ret) .skip)) (sq (sq (rF [fA 15 1 2,lF 16 1 15,fA 17 1 3,lF 18 1 17,o1 19 (aX .neq 16 18)]) (cn 19 (sq (rF [fA 20 1 2,lF 21 1 20,
  fA 22 1 3,lF 23 1 22,o1 24 (aX .sub 21 23),m1 4 24]) .ret) .skip)) (sq (rF [fA 25 2 2,lF 26 1 25,fA 27 2 3,lF 28 1 27,o1 29 (cF 68 [t1 26,t1 28]),m1 4 29]) .ret))))
abbrev auz:=aW [(.tmp 4)] false
def yu:aJ:=.code 2 30 IC [(.tmp 4)] false
-- 37
def L9:au:=(sq (rF [o1 2 (.move (.const (.slice .aA 0 [])))]) (sq (rF [o1 3 (.buildSlice 2 [] []),m1 4 0,o1 5 (.append 2 (t1 3) (t1 4)),m1 2 5]) .ret))
abbrev aui:=aW [(.tmp 2)] false
def DG:aJ:=.code 1 6 L9 [(.tmp 2)] false
-- 38
def CL:au:=(sq (rF [o1 2 (.move (.const (.slice .aA 0 [])))]) (sq (rF [o1 3 (.buildSlice 1 [] []),m1 4 0,o1 5 (.append 1 (t1 3) (t1 4)),m1 2 5]) .ret))
abbrev auh:=aW [(.tmp 2)] true
def wu:aJ:=.code 1 6 CL [(.tmp 2)] true
-- 39
def Ip:au:=(sq (rF [o1 2 (.box 3 (t1 0)),o1 3 (.box 3 (t1 1)),o1 4 (mI 0)]) (sq (rF [fA 7 0 2,lF 8 1 7,fA 9 1 2,lF 10 1 9,o1 11 (.buildSlice 1 [[.v (.int .i64 0)],[.v (.int .i64
  0)]] [(0,(t1 8)),(1,(t1 10))]),fA 12 2 2,lF 13 1 12,o1 14 (.append 1 (t1 11) (t1 13)),m1 5 14]) (sq (rF [fA 15 0 3,lF 16 1 15,fA 17 1 3,lF 18 1 17,o1 19 (.buildSlice 1 [[.v (.int .i64
  0)],[.v (.int .i64 0)]] [(0,(t1 16)),(1,(t1 18))]),fA 20 2 3,lF 21 1 20,o1 22 (.append 1 (t1 19) (t1 21)),m1 6 22]) (sq (sq (rF [m1 23 5,m1 24 6,o1 25 (cF 69 [t1 23,t1 24])]) (cn 25 (sq
  (rF [o1 4 (mI (-1))]) .ret) .skip)) (sq (sq (rF [m1 26 6,m1 27 5,o1 28 (cF 69 [t1 26,t1 27])]) (cn 28 (sq (rF [o1 4 (mI 1)]) .ret) .skip)) (sq (rF [o1 4 (mI 0)]) .ret))))))
abbrev aut:=aW [(.tmp 4)] false
def D9:aJ:=.code 2 29 Ip [(.tmp 4)] false
-- 40
def C7:au:=(sq (rF [o1 6 (mB false)]) (sq (rF [m1 9 0,m1 10 2,o1 11 (cF 13 [t1 9,t1 10]),m1 12 1,m1 13 2,o1 14 (cF 13 [t1 12,t1 13]),m1 7 11,m1 8 14]) (sq (sq (rF [m1 15 7,o1
  16 (aK .lss 15 0),m1 17 16,gF 18 17 (mX 8),gF 19 17 (aK .lss 18 0),o1 20 (pB 17 19)]) (cn 20 (sq (rF [m1 21 7,o1 22 (aK .geq 21 0),m1 23 22,gF 24 23 (mX 8),gF 25 23 (aK .geq 24 0),o1 26 (pB
  23 25),m1 6 26]) .ret) .skip)) (sq (rT [m1 27 0,m1 28 7,o1 29 (iX 3 27 28),lT 30 3 29,m1 31 1,m1 32 8,o1 33 (iX 3 31 32),lT 34 3 33,o1 35 (cF 39 [t1 30,t1 34]),o1 36 (aK .neq 35 0),m1 6
  36]) .ret))))
abbrev aus:=aW [(.tmp 6)] false
def wv:aJ:=.code 3 37 C7 [(.tmp 6)] false
-- 41
def MW:au:=(sq (rF [o1 2 (.box 3 (t1 0)),o1 4 (.move (.const (.v (.pointer none)))),o1 5 (mI 0),o1 6 (mI 0)]) (sq (rF [lT 11 3 2,o1 12 (cF 52 [t1 11]),m1 10 12,o1 13 (eX 0 10),
  o1 14 (eX 1 10),m1 7 13,m1 8 14]) (sq (sq (rF [m1 15 8,o1 16 (aK .neq 15 0)]) (cn 16 (sq (rF [m1 17 8,o1 4 (.move (.const (.v (.pointer none)))),o1 5 (mI 0),m1 6 17]) .ret) .skip)) (sq (rF [m1
  19 7,m1 20 1,o1 21 (cF 28 [t1 19,t1 20]),m1 18 21,o1 22 (eX 0 18),o1 23 (eX 1 18),m1 9 22,m1 8 23]) (sq (rF [m1 24 7,m1 25 9,m1 26 8,m1 4 24,m1 5 25,m1 6 26]) .ret)))))
abbrev auC:=aW [(.tmp 4),(.tmp 5),(.tmp 6)] false
def Er:aJ:=.code 2 27 MW [(.tmp 4),(.tmp 5),(.tmp 6)] false
-- 42
def Dh:au:=(sq (rF [o1 6 (mB false)]) (sq (rF [m1 12 0,m1 13 2,o1 14 (cF 45 [t1 12,t1 13]),m1 11 14,o1 15 (eX 0 11),o1 16 (eX 1 11),o1 7 (.alloc [.v (.int .i64 0),.v (.int .i64
  0),.slice .aA 0 []]),sT 3 7 15,m1 8 16]) (sq (rF [m1 18 1,m1 19 2,o1 20 (cF 45 [t1 18,t1 19]),m1 17 20,o1 21 (eX 0 17),o1 22 (eX 1 17),o1 9 (.alloc [.v (.int .i64 0),.v (.int .i64 0),
  .slice .aA 0 []]),sT 3 9 21,m1 10 22]) (sq (rF [m1 23 8,m1 24 10,o1 25 (.eqv true .bool (t1 23) (t1 24)),m1 26 25,gF 27 26 (lY 3 7),gF 28 26 (lY 3 9),gF 29 26 (cF 36 [t1 27,t1 28]),gF 30
  26 (aK .neq 29 0),o1 31 (pB 26 30),m1 6 31]) .ret))))
abbrev auy:=aW [(.tmp 6)] false
def Ek:aJ:=.code 3 32 Dh [(.tmp 6)] false
-- 43
def Ug:au:=(sq (rF [o1 4 (mB false)]) (sq (rF [m1 5 0,m1 6 1,o1 7 (cF 70 [t1 5,t1 6]),o1 8 (aK .geq 7 0),m1 4 8]) .ret))
abbrev au2:=aW [(.tmp 4)] false
def E1:aJ:=.code 2 9 Ug [(.tmp 4)] false
-- 44
def IJ:au:=(sq (rF [lT 26 2 3,sT 2 2 26]) .ret)
def uB:au:=(sq (rF [o1 14 (aX .lss 13 12)]) (sq (cn 14 .skip (.exit 0)) (sq (.block 1 (sq (rF [m1 15 13,m1 4 15]) (rT [fA 16 1 3,lF 17 1 16,m1 18 0,m1 19 4,o1 20 (.tf 71 [t1
  18,.const (.slice .aA 0 []),t1 19]),o1 21 (.build [.slice .aA 0 [],.v (.bool false)] [(0,(1,(t1 20))),(1,(1,bT))]),o1 22 (.sM 2 (t1 21)),o1 23 (.rC 2 (t1 17) (t1 22) (t1
  16)),fA 24 1 3,sT 1 24 23]))) (rF [o1 25 (aK .add 13 1),m1 13 25]))))
def M9:au:=(sq (rF [o1 2 (.alloc [.v (.pointer none),.slice .aA 0 []])]) (sq (rF [m1 5 0,o1 6 (.build [.v (.pointer none),.slice .aA 0 []] [(0,(1,(t1 5)))]),o1 3 (.alloc [.v
  (.pointer none),.slice .aA 0 []]),sT 2 3 6]) (sq (sq (rF [m1 7 0,o1 8 (.nilCheck (t1 7)),fA 9 0 8,fA 10 2 9,lF 11 1 10,o1 12 (nX 11),o1 13 (mI 0)]) (.block 0 (.loop uB)))
  IJ)))
abbrev KA:List K:=[.blk 0,.c IJ]
abbrev afQ:=aW [(.cell true 2 2)] false
def Au:aJ:=.code 1 27 M9 [(.cell true 2 2)] false
-- 45
def MY:au:=(sq (rF [o1 3 (.box 1 (t1 1)),o1 4 (.alloc [.v (.int .i64 0),.v (.int .i64 0),.slice .aA 0 []]),o1 5 (mB false)]) (sq (rF [m1 7 0,o1 8 (.om 73 [] [t1 3]),o1 9 (cF
  72 [t1 7,t1 8]),m1 6 9]) (sq (sq (rF [m1 10 6,o1 11 (aK .lss 10 0)]) (cn 11 (sq (rF [o1 12 (.build [.v (.int .i64 0),.v (.int .i64 0),.slice .aA 0 []] []),sT 3 4 12,o1 5 (mB false)]) .ret)
  .skip)) (sq (rF [m1 13 0,m1 14 6,o1 15 (iX 3 13 14),lT 16 3 15,sT 3 4 16,o1 5 (mB true)]) .ret))))
abbrev auF:=aW [(.cell true 3 4),(.tmp 5)] false
def Et:aJ:=.code 2 17 MY [(.cell true 3 4),(.tmp 5)] false
-- 46
def M1:au:=(sq (rT [m1 18 0,m1 19 5,o1 20 (aX .quo 18 19),m1 21 1,m1 22 5,o1 23 (aX .quo 21 22),o1 24 (.build [.v (.int .i64 0),.v (.int .i64 0)] [(0,(1,(t1 20))),(1,(1,
  (t1 23)))]),sT 2 4 24]) .ret)
def IH:au:=(sq (sq (rF [m1 12 6,o1 13 (aK .neq 12 0)]) (cn 13 .skip (.exit 0))) (.block 1 (rT [m1 14 6,m1 15 5,m1 16 6,o1 17 (aX .rem 15 16),m1 5 14,m1 6 17])))
def M0:au:=(sq (rF [o1 4 (.alloc [.v (.int .i64 0),.v (.int .i64 0)])]) (sq (sq (rF [m1 7 1,o1 8 (aK .eql 7 0)]) (cn 8 (sq (rF [o1 9 (.build [.v (.int .i64 0),.v (.int .i64 0)] [(0,
  (1,(i1 0))),(1,(1,(i1 1)))]),sT 2 4 9]) .ret) .skip)) (sq (rF [m1 10 0,m1 11 1,m1 5 10,m1 6 11]) (sq (.block 0 (.loop IH)) M1))))
abbrev anr:List K:=[.blk 0,.c M1]
abbrev afO:=aW [(.cell true 2 4)] false
def Ew:aJ:=.code 2 25 M0 [(.cell true 2 4)] false
-- 49
def Ij:au:=(sq (rF [m1 56 7,m1 4 56]) .ret)
def Mw:au:=(rF [m1 33 8,o1 34 (aK .add 33 1),m1 8 34])
def C1:au:=(sq (sq (rF [m1 35 9,m1 36 6,o1 37 (nX 36),o1 38 (aX .lss 35 37)]) (cn 38 .skip (.exit 2))) (sq (.block 3 (sq (rF [m1 41 1,m1 42 8,m1 43 6,m1 44 9,o1 45 (iX 1 43
  44),lF 46 1 45,o1 47 (.build [.v (.int .i64 0),.v (.int .i64 0),.slice .aA 0 []] [(0,(1,(t1 41))),(1,(1,(t1 42))),(2,(1,(t1 46)))]),o1 10 (.alloc [.v (.int .i64 0),.v (.int .i64 0),
  .slice .aA 0 []]),sT 3 10 47]) (sq (rF [lT 48 3 2,lT 49 3 10,o1 50 (cF 79 [t1 48,t1 49]),o1 51 (uX 50)]) (cn 51 (rF [m1 52 7,lT 53 3 10,o1 54 (.buildSlice 3 [[.v (.int .i64 0),.v (.int
  .i64 0),.slice .aA 0 []]] [(0,(t1 53))]),o1 55 (.append 3 (t1 52) (t1 54)),m1 7 55]) .skip)))) (rF [m1 39 9,o1 40 (aK .add 39 1),m1 9 40])))
def C0:au:=(sq (sq (rF [m1 24 8,fA 25 1 5,fA 26 1 25,lF 27 1 26,fA 28 3 5,lF 29 1 28,o1 30 (aX .sub 27 29),o1 31 (aK .add 30 1),o1 32 (aX .leq 24 31)]) (cn 32 .skip (.exit
  0))) (sq (.block 1 (sq (rF [o1 9 (mI 0)]) (.block 2 (.loop C1)))) Mw))
def Tx:au:=(sq (rF [o1 2 (.box 3 (t1 0)),o1 4 (.move (.const (.slice .aA 0 [])))]) (sq (rF [fA 11 2 2,lF 12 1 11,m1 13 1,o1 14 (iX 7 12 13),lT 15 7 14,o1 5 (.alloc [.v
  (.string ⟨#[]⟩), .v (.int .i64 0), .v (.int .i64 0), .v (.int .i64 0), .v (.int .i64 0), .slice .aA 0 [], .v (.int .i64 0)]), sT 7 5 15]) (sq (rF [fA 16 5 5, lF 17 1 16, fA 18 6 5, lF 19 1 18, o1
  20 (cF 78 [t1 17,t1 19]),m1 6 20]) (sq (rF [o1 7 (.move (.const (.slice .aA 0 [])))]) (sq (sq (rF [fA 21 1 5,fA 22 0 21,lF 23 1 22,m1 8 23]) (.block 0 (.loop C0)))
  Ij)))))
abbrev amX:List K:=[.blk 2,.blk 1,.c Mw,.lp C0,.blk 0,.c Ij]
abbrev amW:List K:=[.blk 0,.c Ij]
abbrev VG:=aW [(.tmp 4)] false
def D3:aJ:=.code 2 57 Tx [(.tmp 4)] false
-- 50
def Mn:au:=(sq (rF [o1 58 (.build [.v (.int .i64 0),.v (.int .i64 0)] []),sT 2 2 58,o1 3 (mI 0)]) .ret)
def CW:au:=(sq (sq (rF [m1 39 6,fA 40 2 1,lF 41 1 40,o1 42 (nX 41),o1 43 (aX .lss 39 42)]) (cn 43 .skip (.exit 2))) (sq (.block 3 (sq (rT [lT 46 3 1,fA 47 2 1,lF 48 1 47,m1
  49 6,o1 50 (iX 7 48 49),lT 51 7 50,o1 52 (cF 81 [t1 46,t1 51]),m1 7 52]) (sq (rF [m1 53 7,o1 54 (aK .neq 53 0)]) (cn 54 (sq (rF [m1 55 6,o1 56 (.build [.v (.int .i64 0),.v (.int .i64 0)]
  [(0,(1,(i1 2))),(1,(1,(t1 55)))]),m1 57 7,sT 2 2 56,m1 3 57]) .ret) .skip)))) (rF [m1 44 6,o1 45 (aK .add 44 1),m1 6 45])))
def Mp:au:=(sq (sq (rF [o1 6 (mI 0)]) (.block 2 (.loop CW))) Mn)
def CX:au:=(sq (sq (rF [m1 24 4,fA 25 1 1,lF 26 1 25,o1 27 (nX 26),o1 28 (aX .lss 24 27)]) (cn 28 .skip (.exit 0))) (sq (.block 1 (sq (rF [lT 31 3 1,m1 32 4,o1 33 (cF 80 [t1
  31,t1 32]),m1 5 33]) (sq (rF [m1 34 5,o1 35 (aK .neq 34 0)]) (cn 35 (sq (rF [m1 36 4,o1 37 (.build [.v (.int .i64 0),.v (.int .i64 0)] [(0,(1,(i1 1))),(1,(1,(t1 36)))]),m1 38 5,sT 2 2
  37,m1 3 38]) .ret) .skip)))) (rF [m1 29 4,o1 30 (aK .add 29 1),m1 4 30])))
def CV:au:=(sq (rF [o1 1 (.box 3 (t1 0)),o1 2 (.alloc [.v (.int .i64 0),.v (.int .i64 0)]),o1 3 (mI 0)]) (sq (sq (rF [fA 8 0 1,lF 9 1 8,o1 10 (cF 26 [t1 9,i1 1,i1 200]),o1 11
  (uX 10)]) (cn 11 (sq (rF [o1 12 (.build [.v (.int .i64 0),.v (.int .i64 0)] []),sT 2 2 12,o1 3 (mI 2)]) .ret) .skip)) (sq (sq (rF [fA 13 1 1,lF 14 1 13,o1 15 (nX 14),o1 16 (aK .gtr 15 4),m1
  17 16,gF 18 17 (fX 2 1),gF 19 17 (lX 1 18),gF 20 17 (nX 19),gF 21 17 (aK .gtr 20 12),o1 22 (pB 17 21)]) (cn 22 (sq (rF [o1 23 (.build [.v (.int .i64 0),.v (.int .i64 0)] []),sT 2 2 23,o1 3
  (mI 8)]) .ret) .skip)) (sq (sq (rF [o1 4 (mI 0)]) (.block 0 (.loop CX))) Mp))))
abbrev amP:List K:=[.blk 2,.c Mn]
abbrev amQ:List K:=[.blk 0,.c Mp]
abbrev VD:=aW [(.cell true 2 2),(.tmp 3)] false
def DX:aJ:=.code 1 59 CV [(.cell true 2 2),(.tmp 3)] false
-- 51
def MG:au:=(sq (rF [o1 6 (mI 0)]) .ret)
def Da:au:=(sq (sq (rF [m1 97 10,m1 98 2,o1 99 (aX .lss 97 98)]) (cn 99 .skip (.exit 2))) (sq (.block 3 (sq (rT [lT 102 3 3,lT 103 3 7,m1 104 1,m1 105 10,o1 106 (iX 3 104
  105),lT 107 3 106,o1 108 (cF 83 [t1 102,t1 103,t1 107])]) (cn 108 (sq (rF [o1 6 (mI 13)]) .ret) .skip))) (rF [m1 100 10,o1 101 (aK .add 100 1),m1 10 101])))
def Iq:au:=(sq (sq (rF [lT 94 3 3,lT 95 3 7,o1 96 (cF 79 [t1 94,t1 95])]) (cn 96 (sq (rF [o1 6 (mI 21)]) .ret) .skip)) (sq (sq (rF [o1 10 (mI 0)]) (.block 2 (.loop
  Da))) MG))
def wb:au:=(sq (sq (rF [m1 62 9,fA 63 2 7,lF 64 1 63,o1 65 (nX 64),o1 66 (aX .lss 62 65)]) (cn 66 .skip (.exit 0))) (sq (.block 1 (sq (sq (rT [fA 69 5 8,lF 70 1 69,fA 71 2 7,
  lF 72 1 71,m1 73 9,o1 74 (iX 1 72 73),lF 75 1 74,o1 76 (cF 82 [t1 70,t1 75]),o1 77 (uX 76)]) (cn 77 (sq (rF [o1 6 (mI 6)]) .ret) .skip)) (sq (rT [m1 78 9,o1 79 (aK .gtr 78 0),m1 80 79,gT 81
  80 (fX 2 7),gT 82 80 (lX 1 81),gT 83 80 (mX 9),gT 84 80 (iX 1 82 83),gT 85 80 (lX 1 84),gT 86 80 (fX 2 7),gT 87 80 (lX 1 86),gT 88 80 (mX 9),gT 89 80 (aK .sub 88 1),gT 90 80 (iX 1 87 89),
  gT 91 80 (lX 1 90),gT 92 80 (aX .leq 85 91),o1 93 (pA 80 92)]) (cn 93 (sq (rF [o1 6 (mI 9)]) .ret) .skip)))) (rF [m1 67 9,o1 68 (aK .add 67 1),m1 9 68])))
def uz:au:=(sq (rF [o1 3 (.box 3 (t1 0)),o1 6 (mI 0)]) (sq (rF [m1 11 1,m1 12 2,o1 13 (iX 3 11 12),lT 14 3 13,o1 7 (.alloc [.v (.int .i64 0),.v (.int .i64 0),.slice .aA 0
  []]),sT 3 7 14]) (sq (sq (rF [fA 15 0 7,lF 16 1 15,fA 17 2 3,lF 18 1 17,o1 19 (nX 18),o1 20 (aK .sub 19 1),o1 21 (cF 26 [t1 16,i1 0,t1 20]),o1 22 (uX 21)]) (cn 22 (sq (rF [o1 6 (mI 6)])
  .ret) .skip)) (sq (sq (rT [m1 23 2,o1 24 (aK .gtr 23 0),m1 25 24,gT 26 25 (fX 0 7),gT 27 25 (lX 1 26),gT 28 25 (mX 1),gT 29 25 (mX 2),gT 30 25 (aK .sub 29 1),gT 31 25 (iX 3 28 30),gT 32 25
  (fX 0 31),gT 33 25 (lX 1 32),gT 34 25 (aX .leq 27 33),o1 35 (pA 25 34)]) (cn 35 (sq (rF [o1 6 (mI 9)]) .ret) .skip)) (sq (rF [fA 36 2 3,lF 37 1 36,fA 38 0 7,lF 39 1 38,o1 40 (iX 7 37 39),lT
  41 7 40, o1 8 (.alloc [.v (.string ⟨#[]⟩), .v (.int .i64 0), .v (.int .i64 0), .v (.int .i64 0), .v (.int .i64 0), .slice .aA 0 [], .v (.int .i64 0)]), sT 7 8 41]) (sq (sq (rF [fA 42 1 7, lF 43 1
  42,fA 44 1 8,fA 45 0 44,lF 46 1 45,fA 47 1 8,fA 48 1 47,lF 49 1 48,fA 50 3 8,lF 51 1 50,o1 52 (aX .sub 49 51),o1 53 (aK .add 52 1),o1 54 (cF 26 [t1 43,t1 46,t1 53]),o1 55 (uX 54)]) (cn
  55 (sq (rF [o1 6 (mI 2)]) .ret) .skip)) (sq (sq (rF [fA 56 2 7,lF 57 1 56,o1 58 (nX 57),fA 59 6 8,lF 60 1 59,o1 61 (aX .neq 58 60)]) (cn 61 (sq (rF [o1 6 (mI 10)]) .ret) .skip)) (sq (sq (rF [o1
  9 (mI 0)]) (.block 0 (.loop wb))) Iq))))))))
abbrev am7:List K:=[.blk 2,.c MG]
abbrev am8:List K:=[.blk 0,.c Iq]
abbrev VJ:=aW [(.tmp 6)] false
def Ea:aJ:=.code 3 109 uz [(.tmp 6)] false
-- 52
def Ah:au:=(sq (rF [m1 55 6,m1 2 55,o1 3 (mI 0)]) .ret)
def Dp:au:=(rF [o1 54 (aK .add 26 1),m1 26 54])
def IF:au:=(rF [o1 53 (aK .add 34 1),m1 34 53])
def IE:au:=(sq (sq (rF [m1 40 11,fA 41 1 10,lF 42 1 41,o1 43 (aX .leq 40 42)]) (cn 43 .skip (.exit 4))) (sq (.block 5 (rF [m1 46 6,m1 47 7,m1 48 11,o1 49 (.nilCheck (t1 46)),fA
  50 3 49,o1 51 (.indexAddr (some 4) 200 (t1 50) (t1 47)),o1 52 (.indexAddr (some 200) 1 (t1 51) (t1 48)),⟨none,none,(.store 1 (t1 52) bT)⟩])) (rF [m1 44 11,o1 45 (aK .add 44 1),m1 11 45])))
def Dn:au:=(sq (rF [o1 35 (aX .lss 34 33)]) (sq (cn 35 .skip (.exit 2)) (sq (.block 3 (sq (rF [o1 36 (iX 2 32 34),lT 37 2 36,o1 10 (.alloc [.v (.int .i64 0),.v (.int .i64 0)]),sT 2
  10 37]) (sq (rF [fA 38 0 10,lF 39 1 38,m1 11 39]) (.block 4 (.loop IE))))) IF)))
def Ag : au := (sq (rF [o1 27 (aX .lss 26 25)]) (sq (cn 27 .skip (.exit 0)) (sq (.block 1 (sq (rF [m1 28 26, o1 29 (iX 3 24 26), lT 30 3 29, o1 8 (.alloc [.v (.string ⟨#[]⟩), .v (.int .i64
  0),.slice .aA 0 []]),m1 7 28,sT 3 8 30]) (sq (rF [fA 31 2 8,lF 32 1 31,o1 33 (nX 32),o1 34 (mI 0)]) (.block 2 (.loop Dn))))) Dp)))
def MV:au:=(sq (rF [o1 1 (.box 3 (t1 0)),o1 2 (.move (.const (.v (.pointer none)))),o1 3 (mI 0)]) (sq (sq (rF [lT 13 3 1,o1 14 (cF 84 [t1 13]),m1 12 14,o1 15 (eX 0 12),o1 16 (eX 1
  12),o1 4 (.alloc [.v (.int .i64 0),.v (.int .i64 0)]),sT 2 4 15,m1 5 16]) (sq (rF [m1 17 5,o1 18 (aK .neq 17 0)]) (cn 18 (sq (rF [m1 19 5,o1 2 (.move (.const (.v (.pointer none)))),m1 3 19])
  .ret) .skip))) (sq (rF [lT 20 3 1,(o1 21 (.build ((.v (.int .i64 0))::(.slice .aA 0 [])::(.slice .aA 0 [])::Hg 800) [(0,(3,(t1 20)))])),o1 22 (.box 803 (t1 21)),m1 6 22]) (sq (sq
  (rF [fA 23 1 1,lF 24 1 23,o1 25 (nX 24),o1 26 (mI 0)]) (.block 0 (.loop Ag))) Ah))))
abbrev anp:List K:=[.blk 4,.blk 3,.c IF,.lp Dn,.blk 2,.blk 1,.c Dp,.lp Ag,.blk 0,.c Ah]
abbrev ano:List K:=[.blk 2,.blk 1,.c Dp,.lp Ag,.blk 0,.c Ah]
abbrev anm:List K:=[.blk 0,.c Ah]
abbrev NX:=aW [(.tmp 2),(.tmp 3)] false
def Aq:aJ:=.code 1 56 MV [(.tmp 2),(.tmp 3)] false
-- 53
def TN:au:=(sq (rF [o1 1 (.box 7 (t1 0)),o1 2 (mB false)]) (sq (rF [fA 3 1 1,fA 4 1 3,lF 5 1 4,fA 6 1 1,fA 7 0 6,lF 8 1 7,o1 9 (aX .sub 5 8),o1 10 (aK .add 9 2),fA 11 3 1,
  lF 12 1 11,o1 13 (aX .sub 10 12),o1 14 (aK .gtr 13 8),m1 2 14]) .ret))
abbrev auE:=aW [(.tmp 2)] false
def Es:aJ:=.code 1 15 TN [(.tmp 2)] false
-- 54
def Uc:au:=(sq (rF [o1 4 (mB false)]) (sq (rF [m1 5 0,m1 6 1,o1 7 (cF 85 [t1 5,t1 6]),o1 8 (aK .geq 7 0),m1 4 8]) .ret))
abbrev auY:=aW [(.tmp 4)] false
def EW:aJ:=.code 2 9 Uc [(.tmp 4)] false
-- 55
def TS:au:=(sq (rF [o1 4 (mI 0)]) (sq (sq (rF [m1 5 0]) (cn 5 (sq (rF [o1 4 (mI 0)]) .ret) .skip)) (sq (rF [m1 6 1,m1 4 6]) .ret)))
abbrev auJ:=aW [(.tmp 4)] false
def Ez:aJ:=.code 2 7 TS [(.tmp 4)] false
-- 56
def Dv:au:=(sq (rT [m1 109 12,o1 110 (uX 109),o1 111 (.call true 55 [t1 110,i1 21]),m1 112 0,lT 113 3 4,m1 114 2,o1 115 (cF 87 [t1 112,t1 113,t1 114]),o1 116 (uX 115),o1
  117 (cF 55 [t1 116,i1 13]),o1 118 (.buildSlice 1 [[.v (.int .i64 0)],[.v (.int .i64 0)]] [(0,(t1 111)),(1,(t1 117))]),o1 119 (cF 29 [t1 118]),m1 6 119]) .ret)
def we:au:=(sq (rF [o1 79 (aX .lss 78 77)]) (sq (cn 79 .skip (.exit 0)) (sq (.block 1 (sq (rF [o1 80 (iX 1 76 78),lF 81 1 80,m1 14 81]) (sq (sq (rF [fA 82 5 10,lF 83 1 82,m1 84
  14,o1 85 (cF 62 [t1 83,t1 84]),o1 86 (cF 55 [t1 85,i1 6]),m1 87 14,m1 88 7,o1 89 (aX .gtr 87 88),o1 90 (cF 55 [t1 89,i1 9]),o1 91 (.buildSlice 1 [[.v (.int .i64 0)],[.v (.int .i64 0)]]
  [(0,(t1 86)),(1,(t1 90))]),o1 92 (cF 29 [t1 91]),m1 15 92]) (sq (rF [m1 93 15,o1 94 (aK .neq 93 0)]) (cn 94 (sq (rF [m1 95 15,m1 6 95]) .ret) .skip))) (rF [m1 96 14,m1 97 12,m1 98 97,gF 99
  98 (mX 0),gF 100 98 (mX 14),gF 101 98 (fX 1 4),gF 102 98 (lX 1 101),gF 103 98 (fX 3 10),gF 104 98 (lX 1 103),gF 105 98 (cF 86 [t1 99,t1 100,t1 102,t1 104]),gF 106 98 (uX 105),o1 107 (pB
  98 106),m1 7 96,m1 12 107])))) (rF [o1 108 (aK .add 78 1),m1 78 108]))))
def yc:au:=(sq (rF [o1 4 (.box 3 (t1 1)),o1 6 (mI 0)]) (sq (rF [o1 7 (mI (-1))]) (sq (sq (rF [m1 16 2,o1 17 (nX 16),m1 8 17]) (sq (rF [m1 18 8,o1 19 (aK .gtr 18 0)]) (cn 19 (rF [m1
  20 2,m1 21 8,o1 22 (aK .sub 21 1),o1 23 (iX 3 20 22),fA 24 0 23,lF 25 1 24,m1 7 25]) .skip))) (sq (sq (rT [m1 26 0,fA 27 0 4,lF 28 1 27,o1 29 (.call true 30 [t1 26,t1 28]),fA 30 0 4,lF
  31 1 30,m1 32 7,o1 33 (aX .gtr 31 32),o1 34 (cF 55 [t1 33,i1 9]),o1 35 (.buildSlice 1 [[.v (.int .i64 0)],[.v (.int .i64 0)]] [(0,(t1 29)),(1,(t1 34))]),o1 36 (cF 29 [t1 35]),m1 9 36])
  (sq (rF [m1 37 9,o1 38 (aK .neq 37 0)]) (cn 38 (sq (rF [m1 39 9,m1 6 39]) .ret) .skip))) (sq (rT [m1 40 0,o1 41 (.nilCheck (t1 40)),fA 42 0 41,fA 43 2 42,lF 44 1 43,fA 45 0 4,lF 46 1 45,o1
  47 (iX 7 44 46), lT 48 7 47, o1 10 (.alloc [.v (.string ⟨#[]⟩), .v (.int .i64 0), .v (.int .i64 0), .v (.int .i64 0), .v (.int .i64 0), .slice .aA 0 [], .v (.int .i64 0)]), sT 7 10 48]) (sq (rT
  [fA 49 1 4,lF 50 1 49,fA 51 1 10,fA 52 0 51,lF 53 1 52,fA 54 1 10,fA 55 1 54,lF 56 1 55,o1 57 (aK .add 56 1),fA 58 3 10,lF 59 1 58,o1 60 (aX .sub 57 59),o1 61 (.call true 57 [t1 50,t1
  53,t1 60]),o1 62 (.call true 55 [t1 61,i1 2]),fA 63 2 4,lF 64 1 63,o1 65 (nX 64),fA 66 6 10,lF 67 1 66,o1 68 (aX .eql 65 67),o1 69 (cF 55 [t1 68,i1 10]),o1 70 (.buildSlice 1 [[.v (.int
  .i64 0)],[.v (.int .i64 0)]] [(0,(t1 62)),(1,(t1 69))]),o1 71 (cF 29 [t1 70]),m1 11 71]) (sq (sq (rF [m1 72 11,o1 73 (aK .neq 72 0)]) (cn 73 (sq (rF [m1 74 11,m1 6 74]) .ret) .skip)) (sq (rF
  [o1 7 (mI (-1))]) (sq (rF [o1 12 (mB false)]) (sq (sq (rF [fA 75 2 4,lF 76 1 75,o1 77 (nX 76),o1 78 (mI 0)]) (.block 0 (.loop we))) Dv))))))))))
abbrev Yj:List K:=[.blk 0,.c Dv]
abbrev VS:=aW [(.tmp 6)] false
def EK:aJ:=.code 3 120 yc [(.tmp 6)] false
-- 57
def TT:au:=(sq (rF [o1 6 (mB false)]) (sq (rF [m1 7 1,m1 8 0,o1 9 (aX .leq 7 8),m1 10 9,gT 11 10 (mX 0),gT 12 10 (mX 2),gT 13 10 (aX .leq 11 12),o1 14 (pA 10 13),m1 6 14])
  .ret))
abbrev auK:=aW [(.tmp 6)] false
def EA:aJ:=.code 3 15 TT [(.tmp 6)] false
-- 58
def TK:au:=(sq (rF [o1 3 (.box 1 (t1 0))]) (sq (rF [o1 4 (.alloc [.v .nilFunc])]) (sq (rF [o1 5 (.om 59 [] [t1 1,t1 3,t1 4]),sT 1 4 5]) (rF [lF 6 1 4,lF 7 1 2,o1 8 (.jZ
  false (t1 6) [.const (.slice .aA 0 []),t1 7])]))))
abbrev auB:=aW [] false
def En:aJ:=.code 3 9 TK [] false
-- 59
def Dk:au:=(sq (rF [o1 7 (mB true)]) .ret)
def Dj:au:=(sq (rF [o1 21 (aX .lss 20 19)]) (sq (cn 21 .skip (.exit 0)) (sq (.block 1 (sq (rF [m1 22 20,o1 23 (iX 1 18 20),lF 24 1 23,m1 8 22,m1 9 24]) (sq (rT [lF 25 1 4,m1
  26 0,m1 27 0,o1 28 (nX 27),m1 29 0,o1 30 (nX 29),o1 31 (.slice (.sl 1) (t1 26) none (some (t1 28)) (some (t1 30))),m1 32 9,o1 33 (.buildSlice 1 [[.v (.int .i64 0)]] [(0,(t1 32))]),o1 34
  (.append 1 (t1 31) (t1 33)),m1 35 1,m1 36 8,o1 37 (aK .add 36 1),o1 38 (.slice (.sl 1) (t1 35) (some (t1 37)) none none),o1 39 (.jZ false (t1 25) [t1 34,t1 38]),o1 40 (uX 39)]) (cn 40 (sq
  (rF [o1 7 (mB false)]) .ret) .skip)))) (rF [o1 41 (aK .add 20 1),m1 20 41]))))
def Di:au:=(sq (rF [o1 7 (mB false)]) (sq (sq (rF [m1 10 0,o1 11 (nX 10),lF 12 1 2,o1 13 (aX .eql 11 12)]) (cn 13 (sq (rT [lF 14 1 3,m1 15 0,o1 16 (.call true 60 [t1 15]),o1
  17 (.jZ false (t1 14) [t1 16]),m1 7 17]) .ret) .skip)) (sq (sq (rF [m1 18 1,o1 19 (nX 18),o1 20 (mI 0)]) (.block 0 (.loop Dj))) Dk)))
abbrev anl:List K:=[.blk 0,.c Dk]
abbrev afM:=aW [(.tmp 7)] false
def wx:aJ:=.code 5 42 Di [(.tmp 7)] false
-- 60
def Nc:au:=(sq (rF [o1 2 (.move (.const (.slice .aA 0 [])))]) (sq (sq (rF [m1 3 0,o1 4 (.eqv false .slice (t1 3) (.const (.slice .aA 0 [])))]) (cn 4 (sq (rF [o1 2 (.move (.const
  (.slice .aA 0 [])))]) .ret) .skip)) (sq (rF [o1 5 (.buildSlice 1 [] []),m1 6 0,o1 7 (.append 1 (t1 5) (t1 6)),m1 2 7]) .ret)))
abbrev auV:=aW [(.tmp 2)] true
def ER:aJ:=.code 1 8 Nc [(.tmp 2)] true
-- 61
def M3:au:=(sq (rF [o1 3 (.box 3 (t1 0)),o1 4 (mB false)]) (sq (rF [lF 5 1 1,m1 6 5,gT 7 6 (lY 3 3),gT 8 6 (lY 3 2),gT 9 6 (cF 36 [t1 7,t1 8]),gT 10 6 (aK .eql 9 0),o1 11
  (pA 6 10),m1 4 11]) .ret))
abbrev auL:=aW [(.tmp 4)] false
def EC:aJ:=.code 3 12 M3 [(.tmp 4)] false
-- 62
def Uf:au:=(sq (rF [o1 4 (mB false)]) (sq (rF [m1 5 0,m1 6 1,o1 7 (cF 88 [t1 5,t1 6]),o1 8 (aK .geq 7 0),m1 4 8]) .ret))
abbrev au1:=aW [(.tmp 4)] false
def EZ:aJ:=.code 2 9 Uf [(.tmp 4)] false
-- 63
def Nd:au:=(sq (rF [m1 36 0,m1 37 5,o1 38 (.slice (.sl 3) (t1 36) (some (t1 37)) none none),⟨none,none,(.clear [.v (.int .i64 0),.v (.int .i64 0),.slice .aA
  0 []] (t1 38))⟩]) (sq (rF [m1 39 0,m1 40 5,o1 41 (.slice (.sl 3) (t1 39) none (some (t1 40)) none),m1 4 41]) .ret))
def Dz:au:=(sq (sq (rF [m1 16 6,m1 17 0,o1 18 (nX 17),o1 19 (aX .lss 16 18)]) (cn 19 .skip (.exit 0))) (sq (.block 1 (sq (rF [m1 22 0,m1 23 6,o1 24 (iX 3 22
  23),lT 25 3 24,o1 7 (.alloc [.v (.int .i64 0),.v (.int .i64 0),.slice .aA 0 []]),sT 3 7 25]) (sq (rF [m1 26 1,lT 27 3 7,o1 28 (.jZ false (t1 26) [t1 27]),o1 29 (uX 28)]) (cn 29 (sq (rF
  [m1 30 0,m1 31 5,lT 32 3 7,o1 33 (iX 3 30 31),sT 3 33 32]) (rF [m1 34 5,o1 35 (aK .add 34 1),m1 5 35])) .skip)))) (rF [m1 20 6,o1 21 (aK .add 20 1),m1 6 21])))
def IP:au:=(sq (rF [o1 4 (.move (.const (.slice .aA 0 [])))]) (sq (rF [m1 8 0,m1 9 1,o1 10 (cF 72 [t1 8,t1 9]),m1 5 10]) (sq (sq (rF [m1 11 5,o1 12 (aK .eql 11
  (-1))]) (cn 12 (sq (rF [m1 13 0,m1 4 13]) .ret) .skip)) (sq (sq (rF [m1 14 5,o1 15 (aK .add 14 1),m1 6 15]) (.block 0 (.loop Dz))) Nd))))
abbrev anC:List K:=[.blk 0,.c Nd]
abbrev afV:=aW [(.tmp 4)] false
def yv:aJ:=.code 2 42 IP [(.tmp 4)] false
-- 64
def H8:au:=(sq (rF [m1 28 5,m1 4 28]) .ret)
def H7:au:=(sq (rF [o1 12 (aX .lss 11 10)]) (sq (cn 12 .skip (.exit 0)) (sq (.block 1 (sq (rF [o1 13 (iX 1 9 11),lF 14 1 13,m1 7 14]) (rF [m1 15 5,fA 16 0 2,lF 17 1 16,o1 18
  (.nilCheck (t1 17)),fA 19 0 18,fA 20 2 19,lF 21 1 20,m1 22 7,o1 23 (iX 7 21 22),fA 24 4 23,lF 25 1 24,o1 26 (aX .add 15 25),m1 5 26]))) (rF [o1 27 (aK .add 11 1),m1 11 27]))))
def Tn:au:=(sq (rF [o1 2 (.box 2 (t1 0)),o1 4 (mI 0)]) (sq (rF [o1 5 (mI 0)]) (sq (sq (rF [m1 8 1,o1 9 (cF 31 [t1 8]),o1 10 (nX 9),o1 11 (mI 0)]) (.block 0 (.loop H7)))
  H8)))
abbrev amH:List K:=[.blk 0,.c H8]
abbrev afw:=aW [(.tmp 4)] false
def DP:aJ:=.code 2 29 Tn [(.tmp 4)] false
-- 65
def H4:au:=(sq (rF [o1 4 (mB true)]) .ret)
def H3:au:=(sq (rF [o1 11 (aX .lss 10 9)]) (sq (cn 11 .skip (.exit 0)) (sq (.block 1 (sq (rF [m1 12 10,o1 13 (iX 2 8 10),lT 14 2 13,o1 6 (.alloc [.slice .aA 0 [],.v (.bool
  false)]),m1 5 12,sT 2 6 14]) (sq (rF [fA 15 1 6,lF 16 1 15,o1 17 (uX 16),m1 18 17,gT 19 18 (mX 1),gT 20 18 (mX 5),gT 21 18 (aX .shr 19 20),gT 22 18 (aK .and 21 1),gT 23 18 (aK .eql 22 0),
  o1 24 (pA 18 23)]) (cn 24 (sq (rF [o1 4 (mB false)]) .ret) .skip)))) (rF [o1 25 (aK .add 10 1),m1 10 25]))))
def Tm:au:=(sq (rF [o1 2 (.box 2 (t1 0)),o1 4 (mB false)]) (sq (sq (rF [fA 7 1 2,lF 8 1 7,o1 9 (nX 8),o1 10 (mI 0)]) (.block 0 (.loop H3))) H4))
abbrev amE:List K:=[.blk 0,.c H4]
abbrev afv:=aW [(.tmp 4)] false
def DN:aJ:=.code 2 26 Tm [(.tmp 4)] false
-- 66
def H0:au:=(sq (rF [fA 52 0 3,lF 53 1 52,m1 54 7,o1 55 (cF 90 [t1 53,t1 54]),m1 6 55]) .ret)
def H2:au:=(rF [o1 51 (aK .add 18 1),m1 18 51])
def Mc:au:=(rF [m1 47 7,m1 48 12,o1 49 (.buildSlice 1 [[.slice .aA 0 []]] [(0,(t1 48))]),o1 50 (.append 1 (t1 47) (t1 49)),m1 7 50])
def HZ:au:=(sq (rF [o1 38 (aX .lss 37 36)]) (sq (cn 38 .skip (.exit 2)) (sq (.block 3 (sq (rF [o1 39 (iX 3 35 37),lT 40 3 39,o1 14 (.alloc [.v (.int .i64 0),.v (.int .i64 0),.slice
  .aA 0 []]),sT 3 14 40]) (rF [fA 41 0 3,lF 42 1 41,m1 43 12,lT 44 3 14,o1 45 (cF 89 [t1 42,t1 43,t1 44]),m1 12 45]))) (rF [o1 46 (aK .add 37 1),m1 37 46]))))
def Aa:au:=(sq (rF [o1 19 (aX .lss 18 17)]) (sq (cn 19 .skip (.exit 0)) (sq (.block 1 (sq (rF [o1 20 (iX 1 16 18),lF 21 1 20,m1 9 21]) (sq (sq (rF [m1 23 1,m1 24 9,o1 25 (cF 45 [t1
  23,t1 24]),m1 22 25,o1 26 (eX 0 22),o1 27 (eX 1 22),o1 10 (.alloc [.v (.int .i64 0),.v (.int .i64 0),.slice .aA 0 []]),sT 3 10 26,m1 11 27]) (sq (rF [m1 28 11]) (cn 28 (.exit 1) .skip)))
  (sq (rF [fA 29 1 3,lF 30 1 29,m1 31 9,o1 32 (iX 2 30 31),fA 33 0 32,lF 34 1 33,m1 12 34]) (sq (sq (rF [m1 35 1,o1 36 (nX 35),o1 37 (mI 0)]) (.block 2 (.loop HZ))) Mc)))))
  H2)))
def Tl:au:=(sq (rF [o1 3 (.box 2 (t1 0)),o1 6 (mB false)]) (sq (rF [o1 7 (.move (.const (.slice .aA 0 [])))]) (sq (sq (rF [m1 15 2,o1 16 (cF 31 [t1 15]),o1 17 (nX 16),o1 18 (mI 0)])
  (.block 0 (.loop Aa))) H0)))
abbrev amD:List K:=[.blk 2,.c Mc,.blk 1,.c H2,.lp Aa,.blk 0,.c H0]
abbrev amC:List K:=[.blk 0,.c H0]
abbrev Vz:=aW [(.tmp 6)] false
def DM:aJ:=.code 3 56 Tl [(.tmp 6)] false
-- 67
def CP:au:=(sq (rF [o1 84 (.build [.v (.int .i64 0),.v (.int .i64 0),.slice .aA 0 []] []),sT 3 8 84,o1 9 (mB false)]) .ret)
def H5:au:=(rF [m1 35 12,o1 36 (aK .add 35 1),m1 12 36])
def H6:au:=(rF [o1 83 (aK .add 44 1),m1 44 83])
def Ac:au:=(sq (rF [o1 61 (aX .lss 60 59)]) (sq (cn 61 .skip (.exit 4)) (sq (.block 5 (sq (rF [o1 62 (iX 1 58 60),lF 63 1 62,m1 17 63]) (sq (rT [m1 64 17,m1 65 12,o1 66 (aK .add 65
  1),o1 67 (.arith .shl (i1 1) (t1 66)),o1 68 (aK .sub 67 1),o1 69 (aX .and 64 68),m1 70 2,m1 71 12,o1 72 (.arith .shl (i1 1) (t1 71)),o1 73 (aX .or 70 72),o1 74 (aX .eql 69 73),m1 75 74,gT
  76 75 (lY 2 4),gT 77 75 (mX 15),gT 78 75 (mX 17),gT 79 75 (cF 66 [t1 76,t1 77,t1 78]),o1 80 (pA 75 79)]) (cn 80 (sq (rF [lT 81 3 14,sT 3 8 81,o1 9 (mB true)]) .ret) .skip)))) (rF [o1 82 (aK
  .add 60 1),m1 60 82]))))
def Ab:au:=(sq (rF [o1 45 (aX .lss 44 43)]) (sq (cn 45 .skip (.exit 2)) (sq (.block 3 (sq (rF [o1 46 (iX 3 42 44),lT 47 3 46,o1 14 (.alloc [.v (.int .i64 0),.v (.int .i64 0),.slice
  .aA 0 []]),sT 3 14 47]) (sq (sq (rF [fA 48 0 4,lF 49 1 48,lT 50 3 14,m1 51 1,o1 52 (cF 87 [t1 49,t1 50,t1 51])]) (cn 52 (.exit 3) .skip)) (sq (rT [m1 53 1,o1 54 (.th 91 [t1 53]),lT 55
  3 14,o1 56 (.buildSlice 3 [[.v (.int .i64 0),.v (.int .i64 0),.slice .aA 0 []]] [(0,(t1 55))]),o1 57 (.append 3 (t1 54) (t1 56)),m1 15 57]) (sq (rF [m1 58 3,o1 59 (nX 58),o1 60 (mI 0)])
  (.block 4 (.loop Ac))))))) H6)))
def uy:au:=(sq (sq (rF [m1 30 12,fA 31 1 4,lF 32 1 31,o1 33 (nX 32),o1 34 (aX .lss 30 33)]) (cn 34 .skip (.exit 0))) (sq (.block 1 (sq (rF [fA 37 1 4,lF 38 1 37,m1 39 12,o1 40
  (iX 2 38 39),fA 41 0 40,lF 42 1 41,o1 43 (nX 42),o1 44 (mI 0)]) (.block 2 (.loop Ab)))) H5))
def Me:au:=(sq (rF [o1 4 (.box 2 (t1 0)),o1 8 (.alloc [.v (.int .i64 0),.v (.int .i64 0),.slice .aA 0 []]),o1 9 (mB false)]) (sq (rF [o1 10 (mI 0)]) (sq (sq (rF [m1 18 1,o1 19 (nX
  18),m1 11 19]) (sq (rF [m1 20 11,o1 21 (aK .gtr 20 0)]) (cn 21 (rF [m1 22 1,m1 23 11,o1 24 (aK .sub 23 1),o1 25 (iX 3 22 24),fA 26 0 25,lF 27 1 26,o1 28 (aK .add 27 1),m1 10 28]) .skip)))
  (sq (sq (rF [m1 29 10,m1 12 29]) (.block 0 (.loop uy))) CP))))
abbrev amG:List K:=[.blk 4,.blk 3,.c H6,.lp Ab,.blk 2,.blk 1,.c H5,.lp uy,.blk 0,.c CP]
abbrev amF:List K:=[.blk 2,.blk 1,.c H5,.lp uy,.blk 0,.c CP]
abbrev Qc:List K:=[.blk 0,.c CP]
abbrev Fo:=aW [(.cell true 3 8),(.tmp 9)] false
def DO:aJ:=.code 4 85 Me [(.cell true 3 8),(.tmp 9)] false
-- 68
def IM:au:=(sq (sq (rF [m1 31 0,o1 32 (nX 31),m1 33 1,o1 34 (nX 33),o1 35 (aX .lss 32 34)]) (cn 35 (sq (rF [o1 4 (mI (-1))]) .ret) .skip)) (sq (rF [o1 4 (mI 0)]) .ret))
def ye:au:=(sq (rF [o1 12 (aX .lss 11 10)]) (sq (cn 12 .skip (.exit 0)) (sq (.block 1 (sq (rF [m1 13 11,o1 14 (iX 1 9 11),lF 15 1 14,m1 5 13,m1 6 15]) (sq (sq (rF [m1 16 5,
  m1 17 1,o1 18 (nX 17),o1 19 (aX .geq 16 18)]) (cn 19 (sq (rF [o1 4 (mI 1)]) .ret) .skip)) (sq (rF [m1 20 1,m1 21 5,o1 22 (iX 1 20 21),lF 23 1 22,m1 7 23]) (sq (rF [m1 24 6,m1 25 7,o1 26 (cF
  92 [t1 24,t1 25]),m1 8 26]) (sq (rF [m1 27 8,o1 28 (aK .neq 27 0)]) (cn 28 (sq (rF [m1 29 8,m1 4 29]) .ret) .skip))))))) (rF [o1 30 (aK .add 11 1),m1 11 30]))))
def T9:au:=(sq (rF [o1 4 (mI 0)]) (sq (sq (rF [m1 9 0,o1 10 (nX 9),o1 11 (mI 0)]) (.block 0 (.loop ye))) IM))
abbrev anB:List K:=[.blk 0,.c IM]
abbrev afU:=aW [(.tmp 4)] false
def ET:aJ:=.code 2 36 T9 [(.tmp 4)] false
-- 69
def HW:au:=(sq (rF [m1 36 0,o1 37 (nX 36),m1 38 1,o1 39 (nX 38),o1 40 (aX .lss 37 39),m1 4 40]) .ret)
def z7:au:=(sq (sq (rF [m1 6 5,m1 7 0,o1 8 (nX 7),o1 9 (aX .lss 6 8),m1 10 9,gT 11 10 (mX 5),gT 12 10 (mX 1),gT 13 10 (nX 12),gT 14 10 (aX .lss 11 13),o1 15 (pA 10 14)]) (cn
  15 .skip (.exit 0))) (sq (.block 1 (sq (rT [m1 18 0,m1 19 5,o1 20 (iX 1 18 19),lF 21 1 20,m1 22 1,m1 23 5,o1 24 (iX 1 22 23),lF 25 1 24,o1 26 (aX .neq 21 25)]) (cn 26 (sq (rT [m1 27 0,m1 28
  5,o1 29 (iX 1 27 28),lF 30 1 29,m1 31 1,m1 32 5,o1 33 (iX 1 31 32),lF 34 1 33,o1 35 (aX .lss 30 34),m1 4 35]) .ret) .skip))) (rF [m1 16 5,o1 17 (aK .add 16 1),m1 5 17])))
def Te:au:=(sq (rF [o1 4 (mB false)]) (sq (sq (rF [o1 5 (mI 0)]) (.block 0 (.loop z7))) HW))
abbrev amx:List K:=[.blk 0,.c HW]
abbrev aft:=aW [(.tmp 4)] false
def DF:aJ:=.code 2 41 Te [(.tmp 4)] false
-- 70
def Nl:au:=(sq (rF [o1 4 (mI (-1))]) .ret)
def DA:au:=(sq (rF [o1 9 (aX .lss 8 7)]) (sq (cn 9 .skip (.exit 0)) (sq (.block 1 (sq (rF [m1 10 8,m1 5 10]) (sq (rF [m1 11 1,m1 12 0,m1 13 5,o1 14 (iX 1 12 13),lF 15 1
  14,o1 16 (aX .eql 11 15)]) (cn 16 (sq (rF [m1 17 5,m1 4 17]) .ret) .skip)))) (rF [o1 18 (aK .add 8 1),m1 8 18]))))
def Um:au:=(sq (rF [o1 4 (mI 0)]) (sq (sq (rF [m1 6 0,o1 7 (nX 6),o1 8 (mI 0)]) (.block 0 (.loop DA))) Nl))
abbrev anJ:List K:=[.blk 0,.c Nl]
abbrev af1:=aW [(.tmp 4)] false
def E7:aJ:=.code 2 19 Um [(.tmp 4)] false
-- 71
def IK:au:=(sq (rF [lF 22 1 7,m1 6 22]) .ret)
def uD:au:=(.block 1 (sq (rF [lF 13 1 3,lT 14 3 8,lF 15 1 4,o1 16 (cF 87 [t1 13,t1 14,t1 15]),o1 17 (uX 16)]) (cn 17 (rF [lF 18 1 7,lT 19 3 8,o1 20 (.sM 3 (t1 19)),
  o1 21 (.rC 3 (t1 18) (t1 20) (t1 7)),sT 1 7 21]) .skip)))
def uC:au:=(rF [o1 8 (.alloc [.v (.int .i64 0),.v (.int .i64 0),.slice .aA 0 []]),sT 3 8 12])
def T3:au:=(sq (rF [o1 3 (.box 1 (t1 0)),o1 4 (.box 1 (t1 1)),o1 6 (.move (.const (.slice .aA 0 [])))]) (sq (rF [o1 7 (.alloc [.slice .aA 0 []])]) (sq (sq (rF [lF 9 1 3,m1 10
  2,o1 11 (cF 93 [t1 9,t1 10])]) (.block 0 (.rangeFunc (t1 11) [12] uC uD))) IK)))
abbrev avH:List K:=[.blk 0,.c IK]
abbrev afR:=aW [(.tmp 6)] true
def EL:aJ:=.code 3 23 T3 [(.tmp 6)] true
-- 72
def IU:au:=(sq (rF [o1 4 (mI (-1))]) .ret)
def yf:au:=(sq (rF [o1 9 (aX .lss 8 7)]) (sq (cn 9 .skip (.exit 0)) (sq (.block 1 (sq (rF [m1 10 8,m1 5 10]) (sq (rF [m1 11 1,m1 12 0,m1 13 5,o1 14 (iX 3 12 13),
  lT 15 3 14,o1 16 (.jZ false (t1 11) [t1 15])]) (cn 16 (sq (rF [m1 17 5,m1 4 17]) .ret) .skip)))) (rF [o1 18 (aK .add 8 1),m1 8 18]))))
def Ng:au:=(sq (rF [o1 4 (mI 0)]) (sq (sq (rF [m1 6 0,o1 7 (nX 6),o1 8 (mI 0)]) (.block 0 (.loop yf))) IU))
abbrev Yk:List K:=[.blk 0,.c IU]
abbrev VT:=aW [(.tmp 4)] false
def Aw:aJ:=.code 2 19 Ng [(.tmp 4)] false
-- 73
def TO:au:=(sq (rF [o1 2 (.box 3 (t1 0)),o1 3 (mB false)]) (sq (rF [fA 4 0 2,lF 5 1 4,lF 6 1 1,o1 7 (aX .eql 5 6),m1 3 7]) .ret))
abbrev auG:=aW [(.tmp 3)] false
def Eu:aJ:=.code 2 8 TO [(.tmp 3)] false
-- 78
def Io:au:=(sq (rF [m1 46 5,m1 4 46]) .ret)
def ME:au:=(rF [m1 18 6,o1 19 (aK .add 18 1),m1 6 19])
def Im:au:=(sq (sq (rF [m1 27 8,m1 28 7,o1 29 (nX 28),o1 30 (aX .lss 27 29)]) (cn 30 .skip (.exit 2))) (sq (.block 3 (rT [m1 33 5,m1 34 0,m1 35 6,o1 36 (iX 1 34 35),lF 37 1
  36,o1 38 (.buildSlice 1 [[.v (.int .i64 0)]] [(0,(t1 37))]),m1 39 7,m1 40 8,o1 41 (iX 1 39 40),lF 42 1 41,o1 43 (.append 1 (t1 38) (t1 42)),o1 44 (.buildSlice 1 [[.slice .aA 0 []]] [(0,
  (t1 43))]),o1 45 (.append 1 (t1 33) (t1 44)),m1 5 45])) (rF [m1 31 8,o1 32 (aK .add 31 1),m1 8 32])))
def C8:au:=(sq (sq (rF [m1 12 6,m1 13 1,o1 14 (aX .add 12 13),m1 15 0,o1 16 (nX 15),o1 17 (aX .leq 14 16)]) (cn 17 .skip (.exit 0))) (sq (.block 1 (sq (rF [m1 20 0,m1 21 6,o1
  22 (aK .add 21 1),o1 23 (.slice (.sl 1) (t1 20) (some (t1 22)) none none),m1 24 1,o1 25 (aK .sub 24 1),o1 26 (cF 78 [t1 23,t1 25]),m1 7 26]) (sq (rF [o1 8 (mI 0)]) (.block 2 (.loop
  Im))))) ME))
def MD:au:=(sq (rF [o1 4 (.move (.const (.slice .aA 0 [])))]) (sq (sq (rF [m1 9 1,o1 10 (aK .eql 9 0)]) (cn 10 (sq (rF [o1 11 (.buildSlice 1 [[.slice .aA 0 []]] [(0,(.const
  (.slice .aA 0 [])))]),m1 4 11]) .ret) .skip)) (sq (rF [o1 5 (.move (.const (.slice .aA 0 [])))]) (sq (sq (rF [o1 6 (mI 0)]) (.block 0 (.loop C8))) Io))))
abbrev am5:List K:=[.blk 2,.blk 1,.c ME,.lp C8,.blk 0,.c Io]
abbrev am4:List K:=[.blk 0,.c Io]
abbrev VI:=aW [(.tmp 4)] false
def Ap:aJ:=.code 2 47 MD [(.tmp 4)] false
-- 79
def Ir:au:=(sq (rF [o1 4 (mB false)]) .ret)
def MI:au:=(rF [m1 12 5,o1 13 (aK .add 12 1),m1 5 13])
def Dc:au:=(sq (sq (rF [m1 14 6,fA 15 2 2,lF 16 1 15,fA 17 0 3,lF 18 1 17,o1 19 (iX 7 16 18),fA 20 3 19,lF 21 1 20,o1 22 (aX .lss 14 21)]) (cn 22 .skip (.exit 2))) (sq (.block
  3 (sq (rT [fA 25 1 2,lF 26 1 25,fA 27 2 3,lF 28 1 27,m1 29 5,o1 30 (iX 1 28 29),lF 31 1 30,o1 32 (iX 3 26 31),lT 33 3 32,fA 34 1 3,lF 35 1 34,m1 36 6,o1 37 (aX .add 35 36),o1 38 (cF 97
  [t1 33,t1 37])]) (cn 38 (sq (rF [o1 4 (mB true)]) .ret) .skip))) (rF [m1 23 6,o1 24 (aK .add 23 1),m1 6 24])))
def Db:au:=(sq (sq (rF [m1 7 5,fA 8 2 3,lF 9 1 8,o1 10 (nX 9),o1 11 (aX .lss 7 10)]) (cn 11 .skip (.exit 0))) (sq (.block 1 (sq (rF [o1 6 (mI 0)]) (.block 2 (.loop Dc))))
  MI))
def TC:au:=(sq (rF [o1 2 (.box 3 (t1 0)),o1 3 (.box 3 (t1 1)),o1 4 (mB false)]) (sq (sq (rF [o1 5 (mI 0)]) (.block 0 (.loop Db))) Ir))
abbrev ana:List K:=[.blk 2,.blk 1,.c MI,.lp Db,.blk 0,.c Ir]
abbrev am9:List K:=[.blk 0,.c Ir]
abbrev VM:=aW [(.tmp 4)] false
def Ec:aJ:=.code 2 39 TC [(.tmp 4)] false
-- 80
def MC:au:=(sq (rF [o1 4 (mI 0)]) .ret)
def C5:au:=(sq (sq (rF [m1 40 7,fA 41 2 5,lF 42 1 41,o1 43 (nX 42),o1 44 (aX .lss 40 43)]) (cn 44 .skip (.exit 2))) (sq (.block 3 (sq (rT [lT 47 3 2,fA 48 2 5,lF 49 1 48,
  m1 50 7,o1 51 (iX 2 49 50),lT 52 2 51,o1 53 (cF 99 [t1 47,t1 52]),m1 8 53]) (sq (rF [m1 54 8,o1 55 (aK .neq 54 0)]) (cn 55 (sq (rF [m1 56 8,m1 4 56]) .ret) .skip)))) (rF [m1 45 7,o1 46 (aK
  .add 45 1),m1 7 46])))
def C6:au:=(sq (sq (rF [fA 32 1 5,lF 33 1 32,o1 34 (cF 26 [t1 33,i1 0,i1 50]),o1 35 (uX 34)]) (cn 35 (sq (rF [o1 4 (mI 2)]) .ret) .skip)) (sq (sq (rF [fA 36 2 5,lF 37 1 36,
  o1 38 (nX 37),o1 39 (aK .gtr 38 6)]) (cn 39 (sq (rF [o1 4 (mI 8)]) .ret) .skip)) (sq (sq (rF [o1 7 (mI 0)]) (.block 2 (.loop C5))) MC)))
def x8:au:=(sq (sq (rF [m1 18 6,m1 19 1,o1 20 (aX .lss 18 19)]) (cn 20 .skip (.exit 0))) (sq (.block 1 (sq (rT [fA 23 1 2,lF 24 1 23,m1 25 6,o1 26 (iX 3 24 25),fA 27 0 26,
  lF 28 1 27,fA 29 0 5,lF 30 1 29,o1 31 (aX .eql 28 30)]) (cn 31 (sq (rF [o1 4 (mI 5)]) .ret) .skip))) (rF [m1 21 6,o1 22 (aK .add 21 1),m1 6 22])))
def MB : au := (sq (rF [o1 2 (.box 3 (t1 0)), o1 4 (mI 0)]) (sq (rF [fA 9 1 2, lF 10 1 9, m1 11 1, o1 12 (iX 3 10 11), lT 13 3 12, o1 5 (.alloc [.v (.string ⟨#[]⟩), .v (.int .i64 0),
  .slice .aA 0 []]),sT 3 5 13]) (sq (sq (rF [fA 14 0 5,lF 15 1 14,o1 16 (cF 98 [t1 15]),o1 17 (uX 16)]) (cn 17 (sq (rF [o1 4 (mI 4)]) .ret) .skip)) (sq (sq (rF [o1 6 (mI 0)]) (.block 0 (.loop
  x8))) C6))))
abbrev am2:List K:=[.blk 2,.c MC]
abbrev am3:List K:=[.blk 0,.c C6]
abbrev VH:=aW [(.tmp 4)] false
def D7:aJ:=.code 2 57 MB [(.tmp 4)] false
-- 81
def MH:au:=(sq (sq (rF [fA 74 6 3,lF 75 1 74,fA 76 5 3,lF 77 1 76,o1 78 (nX 77),o1 79 (cF 26 [t1 75,i1 1,t1 78]),o1 80 (uX 79)]) (cn 80 (sq (rF [o1 4 (mI 2)]) .ret)
  .skip)) (sq (rF [o1 4 (mI 0)]) .ret))
def wc:au:=(sq (sq (rF [m1 40 6,fA 41 5 3,lF 42 1 41,o1 43 (nX 42),o1 44 (aX .lss 40 43)]) (cn 44 .skip (.exit 0))) (sq (.block 1 (sq (sq (rT [fA 47 5 3,lF 48 1 47,m1 49 6,
  o1 50 (iX 1 48 49),lF 51 1 50,fA 52 1 2,lF 53 1 52,o1 54 (nX 53),o1 55 (aK .sub 54 1),o1 56 (cF 26 [t1 51,i1 0,t1 55]),o1 57 (uX 56)]) (cn 57 (sq (rF [o1 4 (mI 6)]) .ret) .skip)) (sq (rT
  [m1 58 6,o1 59 (aK .gtr 58 0),m1 60 59,gT 61 60 (fX 5 3),gT 62 60 (lX 1 61),gT 63 60 (mX 6),gT 64 60 (iX 1 62 63),gT 65 60 (lX 1 64),gT 66 60 (fX 5 3),gT 67 60 (lX 1 66),gT 68 60 (mX 6),
  gT 69 60 (aK .sub 68 1),gT 70 60 (iX 1 67 69),gT 71 60 (lX 1 70),gT 72 60 (aX .leq 65 71),o1 73 (pA 60 72)]) (cn 73 (sq (rF [o1 4 (mI 9)]) .ret) .skip)))) (rF [m1 45 6,o1 46 (aK .add 45 1),m1
  6 46])))
def x9:au:=(sq (rF [o1 2 (.box 3 (t1 0)),o1 3 (.box 7 (t1 1)),o1 4 (mI 0)]) (sq (sq (rF [fA 7 0 3,lF 8 1 7,o1 9 (cF 98 [t1 8]),o1 10 (uX 9)]) (cn 10 (sq (rF [o1 4 (mI 4)])
  .ret) .skip)) (sq (sq (rF [lT 11 3 2,fA 12 1 3,lT 13 2 12,o1 14 (cF 99 [t1 11,t1 13]),m1 5 14]) (sq (rF [m1 15 5,o1 16 (aK .neq 15 0)]) (cn 16 (sq (rF [m1 17 5,m1 4 17]) .ret) .skip))) (sq
  (sq (rF [fA 18 3 3,lF 19 1 18,fA 20 1 3,fA 21 1 20,lF 22 1 21,fA 23 1 3,fA 24 0 23,lF 25 1 24,o1 26 (aX .sub 22 25),o1 27 (aK .add 26 1),o1 28 (cF 26 [t1 19,i1 1,t1 27]),o1 29 (uX 28),
  m1 30 29,gF 31 30 (fX 4 3),gF 32 30 (lX 1 31),gF 33 30 (cF 26 [t1 32,i1 0,i1 100000]),gF 34 30 (uX 33),o1 35 (pB 30 34)]) (cn 35 (sq (rF [o1 4 (mI 2)]) .ret) .skip)) (sq (sq (rF [fA 36 5 3,
  lF 37 1 36,o1 38 (nX 37),o1 39 (aK .eql 38 0)]) (cn 39 (sq (rF [o1 4 (mI 10)]) .ret) .skip)) (sq (sq (rF [o1 6 (mI 0)]) (.block 0 (.loop wc))) MH))))))
abbrev Yf:List K:=[.blk 0,.c MH]
abbrev VK:=aW [(.tmp 4)] false
def Eb:aJ:=.code 2 81 x9 [(.tmp 4)] false
-- 82
def Ma:au:=(sq (rF [o1 4 (mB false)]) .ret)
def CM:au:=(sq (sq (rF [m1 6 5,m1 7 0,o1 8 (nX 7),o1 9 (aX .lss 6 8)]) (cn 9 .skip (.exit 0))) (sq (.block 1 (sq (rF [m1 12 0,m1 13 5,o1 14 (iX 1 12 13),lF 15 1 14,m1 16 1,o1 17
  (aX .eql 15 16)]) (cn 17 (sq (rF [o1 4 (mB true)]) .ret) .skip))) (rF [m1 10 5,o1 11 (aK .add 10 1),m1 5 11])))
def Tf:au:=(sq (rF [o1 4 (mB false)]) (sq (sq (rF [o1 5 (mI 0)]) (.block 0 (.loop CM))) Ma))
abbrev amy:List K:=[.blk 0,.c Ma]
abbrev afu:=aW [(.tmp 4)] false
def DH:aJ:=.code 2 18 Tf [(.tmp 4)] false
-- 83
def Mq:au:=(sq (rF [o1 6 (mB false)]) .ret)
def wa:au:=(sq (sq (rF [m1 43 10,fA 44 2 4,lF 45 1 44,o1 46 (nX 45),o1 47 (aX .lss 43 46)]) (cn 47 .skip (.exit 0))) (sq (.block 1 (sq (rT [fA 50 2 5,lF 51 1 50,fA 52 2 4,lF
  53 1 52,m1 54 10,o1 55 (iX 1 53 54),lF 56 1 55,o1 57 (cF 82 [t1 51,t1 56]),m1 58 57,gT 59 58 (mX 9),gT 60 58 (aK .lss 59 0),gT 61 58 (mX 60),gF 62 61 (fX 0 7),gF 63 61 (lX 1 62),gF 64 61
  (fX 0 8),gF 65 61 (lX 1 64),gF 66 61 (aX .neq 63 65),gF 67 61 (mX 66),gT 68 67 (mX 9),gT 69 67 (fX 1 3),gT 70 67 (lX 1 69),gT 71 67 (fX 2 4),gT 72 67 (lX 1 71),gT 73 67 (mX 10),gT 74 67
  (iX 1 72 73),gT 75 67 (lX 1 74),gT 76 67 (iX 3 70 75),gT 77 67 (fX 1 76),gT 78 67 (lX 1 77),gT 79 67 (aX .lss 68 78),gF 80 61 (pA 67 79),gT 81 58 (pB 61 80),o1 82 (pA 58 81)]) (cn 82 (sq (rF
  [o1 6 (mB true)]) .ret) .skip))) (rF [m1 48 10,o1 49 (aK .add 48 1),m1 10 49])))
def Ie:au:=(sq (rF [o1 3 (.box 3 (t1 0)),o1 4 (.box 3 (t1 1)),o1 5 (.box 3 (t1 2)),o1 6 (mB false)]) (sq (sq (rF [fA 11 0 4,lF 12 1 11,fA 13 0 5,lF 14 1 13,o1 15 (aX .eql 12
  14)]) (cn 15 (sq (rF [o1 6 (mB true)]) .ret) .skip)) (sq (sq (rF [fA 16 1 4,lF 17 1 16,fA 18 1 5,lF 19 1 18,o1 20 (aX .gtr 17 19)]) (cn 20 (rF [lT 21 3 5,lT 22 3 4,sT 3 4 21,sT 3 5 22])
  .skip)) (sq (sq (rF [⟨none,none,(.lG 2)⟩]) (rT [fA 23 2 3,o1 24 (.fS 2 false 1 (t1 23)),fA 25 0 4,o1 26 (.fS 2 false 1 (t1 25)),o1 27 (iX 7 24 26),o1 28 (.fS 2 true 7 (t1 27)),
  fA 29 2 3, o1 30 (.fS 2 false 1 (t1 29)), fA 31 0 5, o1 32 (.fS 2 false 1 (t1 31)), o1 33 (iX 7 30 32), o1 34 (.fS 2 true 7 (t1 33)), o1 7 (.slot 2 [.v (.string ⟨#[]⟩), .v (.int .i64 0), .v
  (.int .i64 0), .v (.int .i64 0), .v (.int .i64 0), .slice .aA 0 [], .v (.int .i64 0)]), o1 8 (.slot 1 [.v (.string ⟨#[]⟩), .v (.int .i64 0), .v (.int .i64 0), .v (.int .i64 0), .v (.int .i64 0),
  .slice .aA 0 [],.v (.int .i64 0)]),⟨none,none,(.fill 2 7 (t1 7) (t1 28))⟩,⟨none,none,(.fill 1 7 (t1 8) (t1 34))⟩])) (sq (rF [fA 35 1 5,lF 36 1 35,fA 37 1 4,lF 38 1 37,o1 39 (aX .sub 36
  38),fA 40 3 7,lF 41 1 40,o1 42 (aX .sub 39 41),m1 9 42]) (sq (sq (rF [o1 10 (mI 0)]) (.block 0 (.loop wa))) Mq))))))
abbrev amR:List K:=[.blk 0,.c Mq]
abbrev afA:=aW [(.tmp 6)] false
def DY:aJ:=.code 3 83 Ie [(.tmp 6)] false
-- 84
def ML:au:=(sq (rF [o1 65 (.build [.v (.int .i64 0),.v (.int .i64 0)] []),sT 2 2 65,o1 3 (mI 0)]) .ret)
def Is : au := (sq (rF [o1 52 (aX .lss 51 50)]) (sq (cn 52 .skip (.exit 2)) (sq (.block 3 (sq (rF [m1 53 51, o1 54 (iX 7 49 51), lT 55 7 54, o1 9 (.alloc [.v (.string ⟨#[]⟩), .v (.int
  .i64 0),.v (.int .i64 0),.v (.int .i64 0),.v (.int .i64 0),.slice .aA 0 [],.v (.int .i64 0)]),m1 8 53,sT 7 9 55]) (sq (rF [lT 56 3 1,lT 57 7 9,o1 58 (cF 101 [t1 56,t1 57]),m1 10 58])
  (sq (rF [m1 59 10,o1 60 (aK .neq 59 0)]) (cn 60 (sq (rF [m1 61 8,o1 62 (.build [.v (.int .i64 0),.v (.int .i64 0)] [(0,(1,(i1 2))),(1,(1,(t1 61)))]),m1 63 10,sT 2 2 62,m1 3 63]) .ret)
  .skip))))) (rF [o1 64 (aK .add 51 1),m1 51 64]))))
def MM:au:=(sq (sq (rF [fA 48 2 1,lF 49 1 48,o1 50 (nX 49),o1 51 (mI 0)]) (.block 2 (.loop Is))) ML)
def It:au:=(sq (rF [o1 37 (aX .lss 36 35)]) (sq (cn 37 .skip (.exit 0)) (sq (.block 1 (sq (rF [m1 38 36,m1 6 38]) (sq (rF [lT 39 3 1,m1 40 6,o1 41 (cF 100 [t1 39,t1 40]),m1 7
  41]) (sq (rF [m1 42 7,o1 43 (aK .neq 42 0)]) (cn 43 (sq (rF [m1 44 6,o1 45 (.build [.v (.int .i64 0),.v (.int .i64 0)] [(0,(1,(i1 1))),(1,(1,(t1 44)))]),m1 46 7,sT 2 2 45,m1 3 46]) .ret)
  .skip))))) (rF [o1 47 (aK .add 36 1),m1 36 47]))))
def TE:au:=(sq (rF [o1 1 (.box 3 (t1 0)),o1 2 (.alloc [.v (.int .i64 0),.v (.int .i64 0)]),o1 3 (mI 0)]) (sq (rF [fA 11 1 1,lF 12 1 11,o1 13 (nX 12),o1 14 (aK .leq 13 4),m1 15
  14,gT 16 15 (fX 2 1),gT 17 15 (lX 1 16),gT 18 15 (nX 17),gT 19 15 (aK .leq 18 12),o1 20 (pA 15 19),m1 4 20]) (sq (sq (rF [fA 21 0 1,lF 22 1 21,o1 23 (cF 57 [t1 22,i1 1,i1 200]),o1 24 (cF
  55 [t1 23,i1 2]),m1 25 4,o1 26 (cF 55 [t1 25,i1 8]),o1 27 (.buildSlice 1 [[.v (.int .i64 0)],[.v (.int .i64 0)]] [(0,(t1 24)),(1,(t1 26))]),o1 28 (cF 29 [t1 27]),m1 5 28]) (sq (rF [m1 29
  5,o1 30 (aK .neq 29 0)]) (cn 30 (sq (rF [o1 31 (.build [.v (.int .i64 0),.v (.int .i64 0)] []),m1 32 5,sT 2 2 31,m1 3 32]) .ret) .skip))) (sq (sq (rF [fA 33 1 1,lF 34 1 33,o1 35 (nX 34),o1
  36 (mI 0)]) (.block 0 (.loop It))) MM))))
abbrev anb:List K:=[.blk 2,.c ML]
abbrev anc:List K:=[.blk 0,.c MM]
abbrev VN:=aW [(.cell true 2 2),(.tmp 3)] false
def Ef:aJ:=.code 1 66 TE [(.cell true 2 2),(.tmp 3)] false
-- 85
def Nh:au:=(sq (rF [o1 4 (mI (-1))]) .ret)
def IV:au:=(sq (rF [o1 9 (aX .lss 8 7)]) (sq (cn 9 .skip (.exit 0)) (sq (.block 1 (sq (rF [m1 10 8,m1 5 10]) (sq (rF [m1 11 1,m1 12 0,m1 13 5,o1 14 (iX 7 12
  13),lT 15 7 14,o1 16 (.jZ false (t1 11) [t1 15])]) (cn 16 (sq (rF [m1 17 5,m1 4 17]) .ret) .skip)))) (rF [o1 18 (aK .add 8 1),m1 8 18]))))
def Ui:au:=(sq (rF [o1 4 (mI 0)]) (sq (sq (rF [m1 6 0,o1 7 (nX 6),o1 8 (mI 0)]) (.block 0 (.loop IV)))
  Nh))
abbrev anF:List K:=[.blk 0,.c Nh]
abbrev afX:=aW [(.tmp 4)] false
def E3:aJ:=.code 2 19 Ui [(.tmp 4)] false
-- 86
def T2:au:=(sq (rF [o1 8 (mB false)]) (sq (rF [m1 9 0,m1 10 1,o1 11 (.nilCheck (t1 9)),fA 12 3 11,o1 13 (.indexAddr (some 4) 200 (t1 12) (t1 10)),m1 14 2,m1 15 2,m1 16 3,o1 17
  (aX .add 15 16),o1 18 (.slice (.arr 200 1) (t1 13) (some (t1 14)) (some (t1 17)) none),o1 19 (cF 102 [t1 18,bT]),o1 20 (uX 19),m1 8 20]) .ret))
abbrev auR:=aW [(.tmp 8)] false
def EJ:aJ:=.code 4 21 T2 [(.tmp 8)] false
-- 87
def TY:au:=(sq (rF [o1 3 (.box 1 (t1 0)),o1 4 (.box 3 (t1 1)),o1 6 (mB false)]) (sq (rF [m1 7 2,o1 8 (.om 104 [] [t1 3,t1 4]),o1 9 (cF 103 [t1 7,t1 8]),m1 6 9]) .ret))
abbrev auO:=aW [(.tmp 6)] false
def EG:aJ:=.code 3 10 TY [(.tmp 6)] false
-- 88
def Nk:au:=(sq (rF [o1 4 (mI (-1))]) .ret)
def IY:au:=(sq (rF [o1 9 (aX .lss 8 7)]) (sq (cn 9 .skip (.exit 0)) (sq (.block 1 (sq (rF [m1 10 8,m1 5 10]) (sq (rF [m1 11 1,m1 12 0,m1 13 5,o1 14 (iX 1 12 13),lF 15 1 14,
  o1 16 (aX .eql 11 15)]) (cn 16 (sq (rF [m1 17 5,m1 4 17]) .ret) .skip)))) (rF [o1 18 (aK .add 8 1),m1 8 18]))))
def Ul:au:=(sq (rF [o1 4 (mI 0)]) (sq (sq (rF [m1 6 0,o1 7 (nX 6),o1 8 (mI 0)]) (.block 0 (.loop IY))) Nk))
abbrev anI:List K:=[.blk 0,.c Nk]
abbrev af0:=aW [(.tmp 4)] false
def E6:aJ:=.code 2 19 Ul [(.tmp 4)] false
-- 89
def Dy:au:=(sq (rF [m1 26 7,m1 6 26]) .ret)
def Dx:au:=(sq (rF [o1 13 (aX .lss 12 11)]) (sq (cn 13 .skip (.exit 0)) (sq (.block 1 (sq (rF [o1 14 (iX 3 10 12),lT 15 3 14,o1 9 (.alloc [.v (.int .i64 0),.v (.int .i64 0),
  .slice .aA 0 []]),sT 3 9 15]) (sq (rF [m1 16 0,lT 17 3 9,lT 18 3 5,o1 19 (cF 105 [t1 16,t1 17,t1 18]),o1 20 (uX 19)]) (cn 20 (rF [m1 21 7,lT 22 3 9,o1 23 (.buildSlice 3 [[.v (.int .i64
  0),.v (.int .i64 0),.slice .aA 0 []]] [(0,(t1 22))]),o1 24 (.append 3 (t1 21) (t1 23)),m1 7 24]) .skip)))) (rF [o1 25 (aK .add 12 1),m1 12 25]))))
def T7:au:=(sq (rF [o1 5 (.box 3 (t1 2)),o1 6 (.move (.const (.slice .aA 0 [])))]) (sq (rF [o1 7 (.move (.const (.slice .aA 0 [])))]) (sq (sq (rF [m1 10 1,o1 11 (nX 10),o1 12
  (mI 0)]) (.block 0 (.loop Dx))) Dy)))
abbrev anz:List K:=[.blk 0,.c Dy]
abbrev afS:=aW [(.tmp 6)] false
def EP:aJ:=.code 3 27 T7 [(.tmp 6)] false
-- 90
def II:au:=(sq (rF [o1 4 (mB false)]) .ret)
def M6:au:=(rF [o1 63 (aK .add 38 1),m1 38 63])
def M7:au:=(sq (rF [m1 60 0,m1 61 10,o1 62 (cF 90 [t1 60,t1 61])]) (cn 62 (sq (rF [o1 4 (mB true)]) .ret) .skip))
def Dt:au:=(sq (rF [o1 45 (aX .lss 44 43)]) (sq (cn 45 .skip (.exit 4)) (sq (.block 5 (sq (rF [m1 46 44,o1 47 (iX 1 42 44),lF 48 1 47,m1 11 46,m1 12 48]) (sq (rF [m1 49 11,m1 50 5,
  o1 51 (aX .neq 49 50)]) (cn 51 (rF [m1 52 10,m1 53 0,m1 54 12,lT 55 3 9,o1 56 (cF 89 [t1 53,t1 54,t1 55]),o1 57 (.buildSlice 1 [[.slice .aA 0 []]] [(0,(t1 56))]),o1 58 (.append 1 (t1 52)
  (t1 57)),m1 10 58]) .skip)))) (rF [o1 59 (aK .add 44 1),m1 44 59]))))
def Ds:au:=(sq (rF [o1 39 (aX .lss 38 37)]) (sq (cn 39 .skip (.exit 2)) (sq (.block 3 (sq (rF [o1 40 (iX 3 36 38),lT 41 3 40,o1 9 (.alloc [.v (.int .i64 0),.v (.int .i64 0),.slice
  .aA 0 []]),sT 3 9 41]) (sq (rF [o1 10 (.move (.const (.slice .aA 0 [])))]) (sq (sq (rF [m1 42 1,o1 43 (nX 42),o1 44 (mI 0)]) (.block 4 (.loop Dt))) M7)))) M6)))
def M8:au:=(sq (sq (rF [m1 33 1,m1 34 5,o1 35 (iX 1 33 34),lF 36 1 35,o1 37 (nX 36),o1 38 (mI 0)]) (.block 2 (.loop Ds))) II)
def Du:au:=(sq (rF [o1 19 (aX .lss 18 17)]) (sq (cn 19 .skip (.exit 0)) (sq (.block 1 (sq (rF [m1 20 18,o1 21 (iX 1 16 18),lF 22 1 21,m1 6 20,m1 7 22]) (sq (rF [m1 23 7,o1 24 (nX
  23),m1 25 1,m1 26 5,o1 27 (iX 1 25 26),lF 28 1 27,o1 29 (nX 28),o1 30 (aX .lss 24 29)]) (cn 30 (rF [m1 31 6,m1 5 31]) .skip)))) (rF [o1 32 (aK .add 18 1),m1 18 32]))))
def M5:au:=(sq (rF [o1 4 (mB false)]) (sq (sq (rF [m1 13 1,o1 14 (nX 13),o1 15 (aK .eql 14 0)]) (cn 15 (sq (rF [o1 4 (mB true)]) .ret) .skip)) (sq (rF [o1 5 (mI 0)]) (sq (sq (rF [m1 16
  1,o1 17 (nX 16),o1 18 (mI 0)]) (.block 0 (.loop Du))) M8))))
abbrev anu:List K:=[.blk 4,.c M7,.blk 3,.c M6,.lp Ds,.blk 2,.c II]
abbrev ant:List K:=[.blk 2,.c II]
abbrev anv:List K:=[.blk 0,.c M8]
abbrev NY:=aW [(.tmp 4)] false
def As:aJ:=.code 2 64 M5 [(.tmp 4)] false
-- 91
def Nb:au:=(sq (rF [o1 2 (.move (.const (.slice .aA 0 [])))]) (sq (sq (rF [m1 3 0,o1 4 (.eqv false .slice (t1 3) (.const (.slice .aA 0 [])))]) (cn 4 (sq (rF [o1 2
  (.move (.const (.slice .aA 0 [])))]) .ret) .skip)) (sq (rF [o1 5 (.buildSlice 3 [] []),m1 6 0,o1 7 (.append 3 (t1 5) (t1 6)),m1 2 7]) .ret)))
abbrev auU:=aW [(.tmp 2)] true
def Av:aJ:=.code 1 8 Nb [(.tmp 2)] true
-- 92
def H9:au:=(sq (rF [o1 4 (mI 0)]) (sq (rF [m1 7 0,o1 8 (cF 106 [t1 7]),m1 5 8]) (sq (rF [m1 9 1,o1 10 (cF 106 [t1 9]),m1 6 10]) (sq (sq (rF [m1 11 5]) (cn 11 (sq (sq (rF [m1
  12 6]) (cn 12 (sq (rF [o1 4 (mI 0)]) .ret) .skip)) (sq (rF [o1 4 (mI (-1))]) .ret)) .skip)) (sq (sq (rF [m1 13 6]) (cn 13 (sq (rF [o1 4 (mI 1)]) .ret) .skip)) (sq (sq (rF [m1 14 0,m1 15 1,o1 16
  (aX .lss 14 15)]) (cn 16 (sq (rF [o1 4 (mI (-1))]) .ret) .skip)) (sq (sq (rF [m1 17 0,m1 18 1,o1 19 (aX .gtr 17 18)]) (cn 19 (sq (rF [o1 4 (mI 1)]) .ret) .skip)) (sq (rF [o1 4 (mI 0)])
  .ret))))))))
abbrev aul:=aW [(.tmp 4)] false
def yn:aJ:=.code 2 20 H9 [(.tmp 4)] false
-- 93
def T4:au:=(sq (rF [o1 2 (.box 1 (t1 0)),o1 3 (.box 1 (t1 1)),o1 4 (.move (.const (.v .nilFunc)))]) (sq (rF [o1 5 (.om 107 [] [t1 2,t1 3]),m1 4 5]) .ret))
abbrev auS:=aW [(.tmp 4)] false
def EM:aJ:=.code 2 6 T4 [(.tmp 4)] false
-- 97
def MF:au:=(sq (rF [o1 4 (mB false)]) .ret)
def C9:au:=(sq (sq (rF [m1 6 5,fA 7 2 2,lF 8 1 7,o1 9 (nX 8),o1 10 (aX .lss 6 9)]) (cn 10 .skip (.exit 0))) (sq (.block 1 (sq (rT [m1 13 1,fA 14 2 2,lF 15 1 14,m1 16 5,o1 17
  (iX 2 15 16),fA 18 0 17,lF 19 1 18,fA 20 2 2,lF 21 1 20,m1 22 5,o1 23 (iX 2 21 22),fA 24 1 23,lF 25 1 24,o1 26 (cF 26 [t1 13,t1 19,t1 25])]) (cn 26 (sq (rF [o1 4 (mB true)]) .ret)
  .skip))) (rF [m1 11 5,o1 12 (aK .add 11 1),m1 5 12])))
def TB:au:=(sq (rF [o1 2 (.box 3 (t1 0)),o1 4 (mB false)]) (sq (sq (rF [o1 5 (mI 0)]) (.block 0 (.loop C9))) MF))
abbrev am6:List K:=[.blk 0,.c MF]
abbrev afH:=aW [(.tmp 4)] false
def D8:aJ:=.code 2 27 TB [(.tmp 4)] false
-- 98
def Mb:au:=(sq (rF [o1 2 (mB true)]) .ret)
def CN:au:=(sq (sq (rF [m1 14 3,m1 15 0,o1 16 (.len true (t1 15)),o1 17 (aX .lss 14 16)]) (cn 17 .skip (.exit 0))) (sq (.block 1 (sq (rF [m1 20 0,m1 21 3,o1 22 (.Gy (t1
  20) (t1 21)),m1 4 22]) (sq (rF [m1 23 4,o1 24 (.arith .geq (t1 23) (.const (.v (.int .u8 97)))),m1 25 24,gT 26 25 (mX 4),gT 27 25 (.arith .leq (t1 26) (.const (.v (.int .u8 122)))),o1 28 (pA
  25 27),m1 29 28,gF 30 29 (mX 4),gF 31 29 (.arith .geq (t1 30) (.const (.v (.int .u8 65)))),gF 32 29 (mX 31),gT 33 32 (mX 4),gT 34 32 (.arith .leq (t1 33) (.const (.v (.int .u8 90)))),gF 35 29
  (pA 32 34),o1 36 (pB 29 35),m1 5 36]) (sq (rF [m1 37 5,o1 38 (uX 37),m1 39 38,gT 40 39 (mX 3),gT 41 39 (aK .eql 40 0),gT 42 39 (mX 41),gF 43 42 (mX 4),gF 44 42 (.arith .neq (t1 43) (.const
  (.v (.int .u8 45)))),gF 45 42 (mX 44),gT 46 45 (mX 4),gT 47 45 (.arith .lss (t1 46) (.const (.v (.int .u8 48)))),gT 48 45 (mX 47),gF 49 48 (mX 4),gF 50 48 (.arith .gtr (t1 49) (.const (.v
  (.int .u8 57)))),gT 51 45 (pB 48 50),gF 52 42 (pA 45 51),gT 53 39 (pB 42 52),o1 54 (pA 39 53)]) (cn 54 (sq (rF [o1 2 (mB false)]) .ret) .skip))))) (rF [m1 18 3,o1 19 (aK .add 18 1),m1 3 19])))
def Tg:au:=(sq (rF [o1 2 (mB false)]) (sq (sq (rF [m1 6 0,o1 7 (.len true (t1 6)),o1 8 (aK .lss 7 1),m1 9 8,gF 10 9 (mX 0),gF 11 9 (.len true (t1 10)),gF 12 9 (aK .gtr 11 12),o1
  13 (pB 9 12)]) (cn 13 (sq (rF [o1 2 (mB false)]) .ret) .skip)) (sq (sq (rF [o1 3 (mI 0)]) (.block 0 (.loop CN))) Mb)))
abbrev Ye:List K:=[.blk 0,.c Mb]
abbrev Vy:=aW [(.tmp 2)] false
def DI:aJ:=.code 1 55 Tg [(.tmp 2)] false
-- 99
def TD:au:=(sq (rF [o1 2 (.box 3 (t1 0)),o1 3 (.box 2 (t1 1)),o1 4 (mI 0)]) (sq (sq (rF [fA 5 0 3,lF 6 1 5,fA 7 0 2,lF 8 1 7,o1 9 (aK .sub 8 1),o1 10 (cF 26 [t1 6,i1 0,t1
  9]),o1 11 (uX 10),m1 12 11,gF 13 12 (fX 1 3),gF 14 12 (lX 1 13),gF 15 12 (fX 0 2),gF 16 12 (lX 1 15),gF 17 12 (aK .sub 16 1),gF 18 12 (cF 26 [t1 14,i1 0,t1 17]),gF 19 12 (uX 18),o1 20
  (pB 12 19)]) (cn 20 (sq (rF [o1 4 (mI 2)]) .ret) .skip)) (sq (sq (rF [fA 21 0 3,lF 22 1 21,fA 23 1 3,lF 24 1 23,o1 25 (aX .gtr 22 24)]) (cn 25 (sq (rF [o1 4 (mI 9)]) .ret) .skip)) (sq (rF [o1 4
  (mI 0)]) .ret))))
abbrev auu:=aW [(.tmp 4)] false
def Ed:aJ:=.code 2 26 TD [(.tmp 4)] false
-- 100
def MS:au:=(sq (rF [m1 53 7,m1 4 53]) .ret)
def IB:au:=(sq (rF [o1 43 (aX .lss 42 41)]) (sq (cn 43 .skip (.exit 0)) (sq (.block 1 (sq (rF [o1 44 (iX 2 40 42),lT 45 2 44,o1 9 (.alloc [.v (.int .i64 0),.v (.int .i64 0)]),
  sT 2 9 45]) (rF [m1 46 7,lT 47 3 2,lT 48 2 9,o1 49 (cF 117 [t1 47,t1 48]),o1 50 (.buildSlice 1 [[.v (.int .i64 0)],[.v (.int .i64 0)]] [(0,(t1 46)),(1,(t1 49))]),o1 51 (cF 29 [t1 50]),m1
  7 51]))) (rF [o1 52 (aK .add 42 1),m1 42 52]))))
def TG : au := (sq (rF [o1 2 (.box 3 (t1 0)), o1 4 (mI 0)]) (sq (rF [fA 10 1 2, lF 11 1 10, m1 12 1, o1 13 (iX 3 11 12), lT 14 3 13, o1 5 (.alloc [.v (.string ⟨#[]⟩), .v (.int .i64 0),
  .slice .aA 0 []]),sT 3 5 14]) (sq (rF [fA 15 1 2,lF 16 1 15,m1 17 1,o1 18 (.slice (.sl 3) (t1 16) none (some (t1 17)) none),o1 19 (.om 115 [] [t1 5]),o1 20 (cF 114 [t1 18,t1 19]),m1 6
  20]) (sq (rT [fA 21 0 5,lF 22 1 21,o1 23 (.call true 116 [t1 22]),o1 24 (.call true 55 [t1 23,i1 4]),m1 25 6,o1 26 (uX 25),o1 27 (.call true 55 [t1 26,i1 5]),fA 28 1 5,lF 29 1 28,o1 30
  (.call true 57 [t1 29,i1 0,i1 50]),o1 31 (.call true 55 [t1 30,i1 2]),fA 32 2 5,lF 33 1 32,o1 34 (nX 33),o1 35 (aK .leq 34 6),o1 36 (cF 55 [t1 35,i1 8]),o1 37 (.buildSlice 1 [[.v (.int
  .i64 0)],[.v (.int .i64 0)],[.v (.int .i64 0)],[.v (.int .i64 0)]] [(0,(t1 24)),(1,(t1 27)),(2,(t1 31)),(3,(t1 36))]),o1 38 (cF 29 [t1 37]),m1 7 38]) (sq (sq (rF [fA 39 2 5,lF 40 1 39,
  o1 41 (nX 40),o1 42 (mI 0)]) (.block 0 (.loop IB))) MS)))))
abbrev anj:List K:=[.blk 0,.c MS]
abbrev afK:=aW [(.tmp 4)] false
def Ei:aJ:=.code 2 54 TG [(.tmp 4)] false
-- 101
def MZ:au:=(sq (rF [m1 71 5,fA 72 6 3,lF 73 1 72,fA 74 5 3,lF 75 1 74,o1 76 (nX 75),o1 77 (cF 57 [t1 73,i1 1,t1 76]),o1 78 (cF 55 [t1 77,i1 2]),o1 79 (.buildSlice 1
  [[.v (.int .i64 0)],[.v (.int .i64 0)]] [(0,(t1 71)),(1,(t1 78))]),o1 80 (cF 29 [t1 79]),m1 4 80]) .ret)
def IG:au:=(sq (rF [o1 52 (aX .lss 51 50)]) (sq (cn 52 .skip (.exit 0)) (sq (.block 1 (sq (rF [o1 53 (iX 1 49 51),lF 54 1 53,m1 9 54]) (sq (rF [m1 55 5,m1 56 9,fA 57 1 2,lF
  58 1 57,o1 59 (nX 58),o1 60 (aK .sub 59 1),o1 61 (cF 57 [t1 56,i1 0,t1 60]),o1 62 (cF 55 [t1 61,i1 6]),m1 63 9,m1 64 7,o1 65 (aX .gtr 63 64),o1 66 (cF 55 [t1 65,i1 9]),o1 67
  (.buildSlice 1 [[.v (.int .i64 0)],[.v (.int .i64 0)],[.v (.int .i64 0)]] [(0,(t1 55)),(1,(t1 62)),(2,(t1 66))]),o1 68 (cF 29 [t1 67]),m1 5 68]) (rF [m1 69 9,m1 7 69])))) (rF [o1 70 (aK
  .add 51 1),m1 51 70]))))
def TP:au:=(sq (rF [o1 2 (.box 3 (t1 0)),o1 3 (.box 7 (t1 1)),o1 4 (mI 0)]) (sq (rT [fA 10 0 3,lF 11 1 10,o1 12 (.call true 116 [t1 11]),o1 13 (.call true 55 [t1 12,i1 4]),lT
  14 3 2,fA 15 1 3,lT 16 2 15,o1 17 (cF 117 [t1 14,t1 16]),o1 18 (.buildSlice 1 [[.v (.int .i64 0)],[.v (.int .i64 0)]] [(0,(t1 13)),(1,(t1 17))]),o1 19 (cF 29 [t1 18]),m1 5 19]) (sq (sq
  (rF [m1 20 5,o1 21 (aK .neq 20 0)]) (cn 21 (sq (rF [m1 22 5,m1 4 22]) .ret) .skip)) (sq (rF [fA 23 3 3,lF 24 1 23,fA 25 1 3,fA 26 1 25,lF 27 1 26,fA 28 1 3,fA 29 0 28,lF 30 1 29,o1 31 (aX
  .sub 27 30),o1 32 (aK .add 31 1),o1 33 (cF 57 [t1 24,i1 1,t1 32]),m1 34 33,gT 35 34 (fX 4 3),gT 36 34 (lX 1 35),gT 37 34 (cF 57 [t1 36,i1 0,i1 100000]),o1 38 (pA 34 37),m1 6 38]) (sq (rT
  [m1 39 6,o1 40 (.call true 55 [t1 39,i1 2]),fA 41 5 3,lF 42 1 41,o1 43 (nX 42),o1 44 (aK .gtr 43 0),o1 45 (cF 55 [t1 44,i1 10]),o1 46 (.buildSlice 1 [[.v (.int .i64 0)],[.v (.int .i64 0)]]
  [(0,(t1 40)),(1,(t1 45))]),o1 47 (cF 29 [t1 46]),m1 5 47]) (sq (rF [o1 7 (mI (-1))]) (sq (sq (rF [fA 48 5 3,lF 49 1 48,o1 50 (nX 49),o1 51 (mI 0)]) (.block 0 (.loop IG)))
  MZ)))))))
abbrev anq:List K:=[.blk 0,.c MZ]
abbrev afN:=aW [(.tmp 4)] false
def Ev:aJ:=.code 2 81 TP [(.tmp 4)] false
-- 102
def Ue:au:=(sq (rF [o1 4 (mB false)]) (sq (rF [m1 5 0,m1 6 1,o1 7 (cF 118 [t1 5,t1 6]),o1 8 (aK .geq 7 0),m1 4 8]) .ret))
abbrev au0:=aW [(.tmp 4)] false
def EY:aJ:=.code 2 9 Ue [(.tmp 4)] false
-- 103
def Ub:au:=(sq (rF [o1 4 (mB false)]) (sq (rF [m1 5 0,m1 6 1,o1 7 (cF 72 [t1 5,t1 6]),o1 8 (aK .geq 7 0),m1 4 8]) .ret))
abbrev auX:=aW [(.tmp 4)] false
def EV:aJ:=.code 2 9 Ub [(.tmp 4)] false
-- 104
def T0:au:=(sq (rF [o1 3 (.box 3 (t1 0)),o1 4 (mB false)]) (sq (rF [lF 5 1 1,lT 6 3 3,lT 7 3 2,o1 8 (cF 105 [t1 5,t1 6,t1 7]),m1 4 8]) .ret))
abbrev auP:=aW [(.tmp 4)] false
def EH:aJ:=.code 3 9 T0 [(.tmp 4)] false
-- 105
def TW:au:=(sq (rF [o1 3 (.box 1 (t1 0)),o1 4 (.box 3 (t1 1)),o1 5 (.box 3 (t1 2)),o1 6 (mB false)]) (sq (sq (rF [fA 8 0 4,lF 9 1 8,fA 10 0 5,lF 11 1 10,o1 12 (aX .eql 9 11)])
  (cn 12 (sq (rF [o1 6 (mB true)]) .ret) .skip)) (sq (sq (rF [fA 13 1 5,lF 14 1 13,fA 15 1 4,lF 16 1 15,o1 17 (aX .lss 14 16)]) (cn 17 (rF [lT 18 3 5,lT 19 3 4,sT 3 4 18,sT 3 5 19]) .skip)) (sq
  (rT [lF 20 1 3,o1 21 (.nilCheck (t1 20)),fA 22 0 21,fA 23 2 22,lF 24 1 23,fA 25 0 4,lF 26 1 25,o1 27 (iX 7 24 26),fA 28 0 27,lF 29 1 28,lF 30 1 3,o1 31 (.nilCheck (t1 30)),fA 32 0 31,fA
  33 2 32,lF 34 1 33,fA 35 0 5,lF 36 1 35,o1 37 (iX 7 34 36),fA 38 0 37,lF 39 1 38,o1 40 (aX .eql 29 39),o1 7 (.alloc [.v (.bool false)]),sT 1 7 40]) (sq (rF [fA 41 2 4,lF 42 1 41,o1 43
  (.om 120 [] [t1 3,t1 7,t1 5,t1 4]),o1 44 (cF 119 [t1 42,t1 43]),m1 6 44]) .ret)))))
abbrev auM:=aW [(.tmp 6)] false
def EE:aJ:=.code 3 45 TW [(.tmp 6)] false
-- 106
def To:au:=(sq (rF [o1 2 (mB false)]) (sq (rF [m1 3 0,m1 4 0,o1 5 (aX .neq 3 4),m1 2 5]) .ret))
abbrev aum:=aW [(.tmp 2)] false
def DQ:aJ:=.code 1 6 To [(.tmp 2)] false
-- 107
def Ai:au:=(sq (sq (rF [lF 62 1 5]) (rF [o1 5 (.alloc [.v (.int .i64 0)]),sT 1 5 62])) (rF [lF 30 1 5,o1 31 (aK .add 30 1),sT 1 5 31]))
def jY:au:=(.block 5 (sq (rF [lF 55 1 3,lF 56 1 2,lF 57 1 5,m1 58 9,o1 59 (.build [.v (.int .i64 0),.v (.int .i64 0),.slice .aA 0 []] [(0,(1,(t1 56))),(1,(1,(t1
  57))),(2,(1,(t1 58)))]),o1 60 (.jZ false (t1 55) [t1 59]),o1 61 (uX 60)]) (cn 61 .ret .skip)))
def jX:au:=(rF [m1 9 54])
def Na:au:=(sq (rF [m1 50 6,fA 51 6 4,lF 52 1 51,o1 53 (cF 32 [t1 50,t1 52])]) (.block 4 (.rangeFunc (t1 53) [54] jX jY)))
def Dw:au:=(sq (rF [o1 36 (aX .lss 35 34)]) (sq (cn 36 .skip (.exit 2)) (sq (.block 3 (sq (rF [o1 37 (iX 1 33 35),lF 38 1 37,m1 8 38]) (sq (rF [lF 39 1 1,m1 40 8,lF 41 1 5,
  fA 42 3 4,lF 43 1 42,o1 44 (cF 86 [t1 39,t1 40,t1 41,t1 43])]) (cn 44 (rF [m1 45 6,m1 46 8,o1 47 (.buildSlice 1 [[.v (.int .i64 0)]] [(0,(t1 46))]),o1 48 (.append 1 (t1 45) (t1 47)),m1 6
  48]) .skip)))) (rF [o1 49 (aK .add 35 1),m1 35 49]))))
def wg:au:=(sq (sq (rF [lF 21 1 5,fA 22 3 4,lF 23 1 22,o1 24 (aX .add 21 23),o1 25 (aK .sub 24 1),fA 26 1 4,fA 27 1 26,lF 28 1 27,o1 29 (aX .leq 25 28)]) (cn 29 .skip
  (.exit 0))) (sq (.block 1 (sq (rF [o1 6 (.move (.const (.slice .aA 0 [])))]) (sq (sq (rF [fA 32 5 4,lF 33 1 32,o1 34 (nX 33),o1 35 (mI 0)]) (.block 2 (.loop Dw)))
  Na))) Ai))
def T5:au:=(sq (rF [o1 3 (.box 1 (t1 0))]) (sq (rT [lF 10 1 1,o1 11 (.nilCheck (t1 10)),fA 12 0 11,fA 13 2 12,lF 14 1 13,lF 15 1 2,o1 16 (iX 7 14 15),lT 17 7 16,o1 4 (.alloc
  [.v (.string ⟨#[]⟩), .v (.int .i64 0), .v (.int .i64 0), .v (.int .i64 0), .v (.int .i64 0), .slice .aA 0 [], .v (.int .i64 0)]), sT 7 4 17]) (sq (rF [fA 18 1 4, fA 19 0 18, lF 20 1 19, o1 5
  (.alloc [.v (.int .i64 0)]),sT 1 5 20]) (.block 0 (.loop wg)))))
abbrev avI:List K:=[.blk 4,.blk 1,.c Ai,.lp wg,.blk 0]
abbrev anx:List K:=[.blk 2,.c Na,.blk 1,.c Ai,.lp wg,.blk 0]
abbrev anw:List K:=[.blk 0]
abbrev Jo:=aW [] false
def EN:aJ:=.code 3 63 T5 [] false
-- 114
def Ua:au:=(sq (rF [o1 4 (mB false)]) (sq (rF [m1 5 0,m1 6 1,o1 7 (cF 127 [t1 5,t1 6]),o1 8 (aK .geq 7 0),m1 4 8]) .ret))
abbrev auW:=aW [(.tmp 4)] false
def EU:aJ:=.code 2 9 Ua [(.tmp 4)] false
-- 115
def TH:au:=(sq (rF [o1 2 (.box 3 (t1 0)),o1 3 (mB false)]) (sq (rF [fA 4 0 2,lF 5 1 4,fA 6 0 1,lF 7 1 6,o1 8 (aX .eql 5 7),m1 3 8]) .ret))
abbrev auw:=aW [(.tmp 3)] false
def Ej:aJ:=.code 2 9 TH [(.tmp 3)] false
-- 116
def MU : au := (sq (rF [m1 47 0, o1 48 (.arith .neq (t1 47) (.const (.v (.string ⟨#[]⟩)))), m1 49 48, gT 50 49 (mX 0), gT 51 49 (.len true (t1 50)), gT 52 49 (aK .leq 51 12), o1 53 (pA
  49 52),m1 2 53]) .ret)
def Dl:au:=(sq (rF [o1 10 (aX .lss 9 8)]) (sq (cn 10 .skip (.exit 0)) (sq (.block 1 (sq (rF [m1 11 9,o1 12 (iX 1 7 9),lF 13 1 12,m1 3 11,m1 4 13]) (sq (rF [m1 14 4,o1 15 (.arith
  .geq (t1 14) (.const (.v (.int .u8 97)))),m1 16 15,gT 17 16 (mX 4),gT 18 16 (.arith .leq (t1 17) (.const (.v (.int .u8 122)))),o1 19 (pA 16 18),m1 20 19,gF 21 20 (mX 4),gF 22 20 (.arith .geq
  (t1 21) (.const (.v (.int .u8 65)))),gF 23 20 (mX 22),gT 24 23 (mX 4),gT 25 23 (.arith .leq (t1 24) (.const (.v (.int .u8 90)))),gF 26 20 (pA 23 25),o1 27 (pB 20 26),m1 5 27]) (sq (rF [m1 28
  5,o1 29 (uX 28),m1 30 29,gT 31 30 (mX 3),gT 32 30 (aK .eql 31 0),gT 33 30 (mX 32),gF 34 33 (mX 4),gF 35 33 (.arith .neq (t1 34) (.const (.v (.int .u8 45)))),gF 36 33 (mX 35),gT 37 36 (mX
  4),gT 38 36 (.arith .lss (t1 37) (.const (.v (.int .u8 48)))),gT 39 36 (mX 38),gF 40 39 (mX 4),gF 41 39 (.arith .gtr (t1 40) (.const (.v (.int .u8 57)))),gT 42 36 (pB 39 41),gF 43 33 (pA 36
  42),gT 44 30 (pB 33 43),o1 45 (pA 30 44)]) (cn 45 (sq (rF [o1 2 (mB false)]) .ret) .skip))))) (rF [o1 46 (aK .add 9 1),m1 9 46]))))
def TL:au:=(sq (rF [o1 2 (mB false)]) (sq (sq (rF [m1 6 0,o1 7 (.conv .bytes (t1 6)),o1 8 (nX 7),o1 9 (mI 0)]) (.block 0 (.loop Dl))) MU))
abbrev Yh:List K:=[.blk 0,.c MU]
abbrev VQ:=aW [(.tmp 2)] false
def Eo:aJ:=.code 1 54 TL [(.tmp 2)] false
-- 117
def TQ:au:=(sq (rF [o1 2 (.box 3 (t1 0)),o1 3 (.box 2 (t1 1)),o1 4 (mI 0)]) (sq (rF [o1 6 (.om 128 [] [t1 2]),m1 5 6]) (sq (rT [m1 7 5,fA 8 0 3,lF 9 1 8,o1 10 (.jZ true (t1
  7) [t1 9]),m1 11 10,gT 12 11 (mX 5),gT 13 11 (fX 1 3),gT 14 11 (lX 1 13),gT 15 11 (.jZ true (t1 12) [t1 14]),o1 16 (pA 11 15),o1 17 (.call true 55 [t1 16,i1 2]),fA 18 0 3,lF 19 1 18,fA
  20 1 3,lF 21 1 20,o1 22 (aX .leq 19 21),o1 23 (cF 55 [t1 22,i1 9]),o1 24 (.buildSlice 1 [[.v (.int .i64 0)],[.v (.int .i64 0)]] [(0,(t1 17)),(1,(t1 23))]),o1 25 (cF 29 [t1 24]),m1 4 25])
  .ret)))
abbrev auH:=aW [(.tmp 4)] false
def Ex:aJ:=.code 2 26 TQ [(.tmp 4)] false
-- 118
def Nj:au:=(sq (rF [o1 4 (mI (-1))]) .ret)
def IX:au:=(sq (rF [o1 9 (aX .lss 8 7)]) (sq (cn 9 .skip (.exit 0)) (sq (.block 1 (sq (rF [m1 10 8,m1 5 10]) (sq (rF [m1 11 1,m1 12 0,m1 13 5,o1 14 (iX 1 12 13),lF 15 1 14,
  o1 16 (.eqv false .bool (t1 11) (t1 15))]) (cn 16 (sq (rF [m1 17 5,m1 4 17]) .ret) .skip)))) (rF [o1 18 (aK .add 8 1),m1 8 18]))))
def Uk:au:=(sq (rF [o1 4 (mI 0)]) (sq (sq (rF [m1 6 0,o1 7 (nX 6),o1 8 (mI 0)]) (.block 0 (.loop IX))) Nj))
abbrev anH:List K:=[.blk 0,.c Nj]
abbrev afZ:=aW [(.tmp 4)] false
def E5:aJ:=.code 2 19 Uk [(.tmp 4)] false
-- 119
def Ud:au:=(sq (rF [o1 4 (mB false)]) (sq (rF [m1 5 0,m1 6 1,o1 7 (cF 129 [t1 5,t1 6]),o1 8 (aK .geq 7 0),m1 4 8]) .ret))
abbrev auZ:=aW [(.tmp 4)] false
def EX:aJ:=.code 2 9 Ud [(.tmp 4)] false
-- 120
def TX:au:=(sq (rF [o1 6 (mB false)]) (sq (rF [lF 8 1 1,o1 9 (.nilCheck (t1 8)),fA 10 0 9,fA 11 1 10,lF 12 1 11,m1 13 0,o1 14 (iX 3 12 13),fA 15 1 14,lF 16 1 15,m1 7 16])
  (sq (sq (rF [lF 17 1 2]) (cn 17 (rF [o1 7 (mI 0)]) .skip)) (sq (rT [fA 18 2 3,lF 19 1 18,m1 20 0,o1 21 (cF 62 [t1 19,t1 20]),m1 22 21,gT 23 22 (fX 1 3),gT 24 22 (lX 1 23),gT 25 22 (lX 1 1),
  gT 26 22 (lY 3 4),gT 27 22 (.call true 121 [t1 25,t1 26]),gT 28 22 (aX .sub 24 27),gT 29 22 (mX 7),gT 30 22 (aX .lss 28 29),o1 31 (pA 22 30),m1 6 31]) .ret))))
abbrev auN:=aW [(.tmp 6)] false
def EF:aJ:=.code 5 32 TX [(.tmp 6)] false
-- 121
def T1:au:=(sq (rF [o1 3 (.box 3 (t1 1)),o1 4 (mI 0)]) (sq (rT [fA 5 1 3,lF 6 1 5,m1 7 0,o1 8 (.nilCheck (t1 7)),fA 9 0 8,fA 10 2 9,lF 11 1 10,fA 12 0 3,lF 13 1 12,o1 14 (iX 7 11
  13),fA 15 3 14,lF 16 1 15,o1 17 (aX .add 6 16),m1 4 17]) .ret))
abbrev auQ:=aW [(.tmp 4)] false
def EI:aJ:=.code 2 18 T1 [(.tmp 4)] false
-- 127
def Nf:au:=(sq (rF [o1 4 (mI (-1))]) .ret)
def IQ:au:=(sq (rF [o1 9 (aX .lss 8 7)]) (sq (cn 9 .skip (.exit 0)) (sq (.block 1 (sq (rF [m1 10 8,m1 5 10]) (sq (rF [m1 11 1,m1 12 0,m1 13 5,o1 14 (iX 3 12
  13),lT 15 3 14,o1 16 (.jZ false (t1 11) [t1 15])]) (cn 16 (sq (rF [m1 17 5,m1 4 17]) .ret) .skip)))) (rF [o1 18 (aK .add 8 1),m1 8 18]))))
def Uh:au:=(sq (rF [o1 4 (mI 0)]) (sq (sq (rF [m1 6 0,o1 7 (nX 6),o1 8 (mI 0)]) (.block 0 (.loop IQ)))
  Nf))
abbrev anD:List K:=[.blk 0,.c Nf]
abbrev afW:=aW [(.tmp 4)] false
def E2:aJ:=.code 2 19 Uh [(.tmp 4)] false
-- 128
def TR:au:=(sq (rF [o1 3 (mB false)]) (sq (rF [m1 4 0,fA 5 0 1,lF 6 1 5,o1 7 (aK .sub 6 1),o1 8 (cF 57 [t1 4,i1 0,t1 7]),m1 3 8]) .ret))
abbrev auI:=aW [(.tmp 3)] false
def Ey:aJ:=.code 2 9 TR [(.tmp 3)] false
-- 129
def Ni:au:=(sq (rF [o1 4 (mI (-1))]) .ret)
def IW:au:=(sq (rF [o1 9 (aX .lss 8 7)]) (sq (cn 9 .skip (.exit 0)) (sq (.block 1 (sq (rF [m1 10 8,m1 5 10]) (sq (rF [m1 11 1,m1 12 0,m1 13 5,o1 14 (iX 1 12 13),lF 15 1
  14,o1 16 (.jZ false (t1 11) [t1 15])]) (cn 16 (sq (rF [m1 17 5,m1 4 17]) .ret) .skip)))) (rF [o1 18 (aK .add 8 1),m1 8 18]))))
def Uj:au:=(sq (rF [o1 4 (mI 0)]) (sq (sq (rF [m1 6 0,o1 7 (nX 6),o1 8 (mI 0)]) (.block 0 (.loop IW))) Ni))
abbrev anG:List K:=[.blk 0,.c Ni]
abbrev afY:=aW [(.tmp 4)] false
def E4:aJ:=.code 2 19 Uj [(.tmp 4)] false

def B9:List (Option aJ):=[none,none,none,some nR,some DT,some yo,some DU,some Ao,some D2,some D4,some yq,
  some D0,some DZ,some D1,some An,some DV,some yr,some Ee,some DS,some Eh,some Eg,some DJ,some
  DR,some D6,some D5,some DW,some DK,some Ar,some ED,some El,some EO,some Ep,some Em,some
  EB,some DL,some ES,some yu,some DG,some wu,some D9,some wv,some Er,some Ek,
  some E1,some Au,some Et,some Ew,some BQ,some BR,some D3,some DX,some Ea,some Aq,some Es,some
  EW,some Ez,some EK,some EA,some En,some wx,some ER,some EC,some EZ,some
  yv,some DP,some DN,some DM,some DO,some ET,some DF,some E7,some EL,some
  Aw,some Eu,none,none,none,none,some Ap,some Ec,some D7,some Eb,some DH,some DY,some Ef,
  some E3,some EJ,some EG,some E6,some EP,some As,some Av,some yn,some EM,
  none,none,none,some D8,some DI,some Ed,some Ei,some Ev,some EY,some EV,some EH,
  some EE,some DQ,some EN,none,none,none,none,none,none,some EU,some Ej,some Eo,some Ex,
  some E5,some EX,some EF,some EI,none,none,none,none,none,some E2,some Ey,some E4]
def AP:FuncId→Option aJ:=fun f=>(B9[f]?).join

end Go.Ax.Sx.Sc
/-
  The data of schedules, and how they look to the executor.
-/
namespace Go.Ax.Sx.Sc
open Go.Ax
abbrev S (s:ByteArray):AV:=.v (.string s)
structure A where
 name:ByteArray
 ja:Int
 cl:Sl (Int×Int)
structure R where
 bw:ByteArray
 lo:Int
 hi:Int
 len:Int
 val:Int
 an:Sl Int
 need:Int
structure W where
 ow:Int
 as:Sl A
 rs:Sl R
structure P where
 req:Int
 start:Int
 an:Sl Int
abbrev aD (n:Int):List AV:=[I n]
abbrev gM (p:Int×Int):List AV:=[I p.1,I p.2]
abbrev me (s:ByteArray):List AV:=[S s]
abbrev bZ (a:A):List AV:=[S a.name,I a.ja,a.cl.v gM]
abbrev bU (r:R):List AV:=[S r.bw,I r.lo,I r.hi,I r.len,I r.val,r.an.v aD,I r.need]
abbrev aj (p:P):List AV:=[I p.req,I p.start,p.an.v aD]
abbrev c8 (w:W):List AV:=[I w.ow,w.as.v bZ,w.rs.v bU]
abbrev W.v (w:W):AV:=.agg (c8 w)
attribute [go_sem] Sl.v aD gM me bZ bU aj c8 W.v
structure W.Ok (w:W):Prop where
 as:w.as.ok 3
 cl:∀a∈w.as.l,a.cl.ok 2
 rs:w.rs.ok 7
 an:∀r∈w.rs.l,r.an.ok 1
structure W.kn (w:W):Prop where
 as:w.as.l.length≤6
 rs:w.rs.l.length≤14
 name:∀a∈w.as.l,a.name.size≤20
 cl:∀a∈w.as.l,a.cl.l.length≤8
 bw:∀r∈w.rs.l,r.bw.size≤20
 an:∀r∈w.rs.l,r.an.l.length≤6
def wi (n lo hi:Int):Bool:=decide (lo≤n)&&decide (n≤hi)
theorem iJ {n lo hi:Int}:wi n lo hi=true↔lo≤n∧n≤hi:=by simp[wi]
def du {α:Type} (p:α→Bool):List α→Int
 |[]=>-1
 |x::r=>if p x then 0 else if du p r<0 then-1 else du p r+1
theorem N4 {α:Type} (p:α→Bool) (l:List α):(l.any p=false∧du p l=-1)∨(l.any p=true∧∃(k:Nat) (x:α),l[k]? =some x∧p x=true∧du p l=(k:Int)∧∀(j:Nat) (y:α),j<k→l[j]? =some y→p y=false):=by
 induction l with
 |nil=>exact .inl ⟨rfl,rfl⟩
 | cons x r ih =>
  cases hx:p x with
  |true=>exact .inr ⟨by simp[hx],0,x,rfl,hx,by simp[du,hx],fun j y hj=>absurd hj (da _)⟩
  | false =>
   rcases ih with⟨h1,h2⟩|⟨h1,k,y,h2,h3,h4,h5⟩
   ·exact .inl ⟨by simp only[oz,hx,h1];rfl,by simp[du,hx,h2]⟩
   ·refine .inr ⟨by simp only[oz,h1,Bool.or_true],k+1,y,h2,h3,?_,fun j z hj hz=>?_⟩
    ·simp only[du,hx,h4,ef,cE]
     rw[aq (by omega)];simp
    ·cases j with
     |zero=>simp at hz;subst hz;exact hx
     |succ j=>exact h5 j z (by omega) hz
theorem yE {α:Type} {p:α→Bool} {l:List α}:decide (0≤du p l)=l.any p:=by
 rcases N4 p l with⟨h1,h2⟩|⟨h1,k,x,_,_,h4,_⟩
 ·rw[h1,h2];rfl
 ·rw[h1,h4];simp
def letter (c:UInt8):Bool:=(decide (97≤c.toNat)&&decide (c.toNat≤122))||(decide (65≤c.toNat)&&decide (c.toNat≤90))
def nameAt (k:Nat) (c:UInt8):Bool:=letter c||(!decide (k=0)&&(decide (c.toNat=45)||(decide (48≤c.toNat)&&decide (c.toNat≤57))))
def qY (k:Nat):List UInt8→Bool
 |[]=>true
 |c::r=>nameAt k c&&qY (k+1) r
def isName (s:ByteArray):Bool:=qY 0 s.data.toList&&decide (1≤s.size)&&decide (s.size≤12)
def jU (n lo hi:Int):Int:=if wi lo 0 (n-1)&&wi hi 0 (n-1)then(if lo≤hi then 0 else 9)else 2
def rI (n:Int):List (Int×Int)→Int
 |[]=>0
 |p::r=>if jU n p.1 p.2=0 then rI n r else jU n p.1 p.2
def kU (n:Int) (as:List A) (k:Nat) (a:A):Int:=
 if isName a.name then
  if(as.take k).any (fun b=>decide (b.name=a.name))then 5 else
  if wi a.ja 0 50 then
   if a.cl.l.length≤6 then rI n a.cl.l else 8
  else 2
 else 4
def kz (n:Int) (last:Int):List Int→Int
 |[]=>0
 |a::r=>if wi a 0 (n-1)then(if last<a then kz n a r else 9)else 6
def lE (n : Int) (m : Nat) (r : R) : Int :=
 if isName r.bw then
  if jU n r.lo r.hi=0 then
   if wi r.len 1 (r.hi-r.lo+1)&&wi r.val 0 100000 then
    if r.an.l=[]then 10 else
    if kz m (-1) r.an.l=0 then(if wi r.need 1 r.an.l.length then 0 else 2)else kz m (-1) r.an.l
   else 2
  else jU n r.lo r.hi
 else 4
def fO {α:Type} (f:Nat→α→Int) (k:Nat):List α→Option (Nat×Int)
 |[]=>none
 |x::r=>if f k x=0 then fO f (k+1) r else some (k,f k x)
def dp (w : W) : Int × Int × Int :=
 if wi w.ow 1 200 then
  if w.as.l.length≤4∧w.rs.l.length≤12 then
   match fO (kU w.ow w.as.l) 0 w.as.l with
   |some (k,e)=>(1,k,e)
   |none=>match fO (fun _ r=>lE w.ow w.as.l.length r) 0 w.rs.l with
    |some (k,e)=>(2,k,e)
    |none=>(0,0,0)
  else(0,0,8)
 else(0,0,2)
section
variable{s:ae}
theorem tn {α:Type} {p:α→Bool} {l:List α} {k:Nat} {a:α} (ha:l[k]? =some a) (dq:p a=true) (hp:∀j y,j<k→l[j]? =some y→p y=false):du p l=(k:Int):=by
 rcases N4 p l with⟨h1,_⟩|⟨_,j,x,h2,h3,h4,h5⟩
 ·have:=zM.1 h1 a (bQ ha)
  rw[dq]at this;exact absurd rfl this
 ·rw[h4]
  have:j=k:=by
   rcases LI j k with h|h|h
   ·have:=hp j x h h2;rw[h3]at this;cases this
   ·exact h
   ·have:=h5 k a h ha;rw[dq]at this;cases this
  rw[this]
theorem uM {α:Type} {p:α→Bool} {l:List α} (hp:∀j y,j<l.length→l[j]? =some y→p y=false):du p l=-1:=by
 rcases N4 p l with⟨_,h⟩|⟨_,j,x,h2,h3,_,_⟩
 ·exact h
 ·have:=hp j x (bd.1 h2).1 h2
  rw[h3]at this;cases this
theorem atW {l:List A} {o:Own} {e:Nat} {g:FuncId} {caps:List AV} {p:A→Bool} (he:l=[]∨e=3) (hl:(l.length:Int)<9223372036854775808)
  (hg:∀a∈l,∀r,aw AP (.fn g) (.agg (bZ a)::caps) (s.push r)=some (B (p a),s.push r)):aw AP (.fn 127) [.slice o e (l.map bZ),.fn g [] caps] s=some (I (du p l),s):=by
 have key:∀k ρ m,k≤l.length→(ρ 0=.slice o e (l.map bZ)∧ρ 1=.fn g [] caps∧ρ 7=I l.length∧ρ 8=I k∧(∀j y,j<k→l[j]? =some y→p y=false)∧m=s.push ⟨[],[]⟩)→go AP afW (.c (.loop IQ)::anD) ⟨ρ,m⟩=some (I (du p l),s):=by
  refine ck l.length _ _ ?_ ?_
  ·rintro k ρ m hk ⟨h0,h1,h7,h8,hp,rfl⟩ ih
   obtain⟨a,ha⟩:=get_some hk
   have he:e=3:=by rcases he with h|h;(rw[h]at ha;simp at ha);exact h
   subst he
   have hr:=cq (o:=o) (es:=3) (f:=bZ) ha
   simp only[go_sem,IQ,h0,h1,h7,h8,aS hk,hr,hg a (bQ ha),bK hk hl,simprocAttr]
   cases dq:p a with
   |true=>
    simp only[fZ]
    rw[tn ha dq hp]
   |false=>
    simp only[iy]
    refine ih _ _ ?_
    refine⟨h0,h1,h7,rfl,fun j y hj hy=>?_,rfl⟩
    by_cases e:j=k
    ·subst e;rw[ha]at hy;injection hy with hy;rw[←hy];exact dq
    ·exact hp j y (by omega) hy
  ·rintro ρ m ⟨h0,h1,h7,h8,hp,rfl⟩
   simp only[go_sem,IQ,Nf,h7,h8,bM,simprocAttr]
   rw[uM hp]
 rw[aL (show AP 127=some E2 from rfl) rfl]
 simp only[go_sem,Uh,simprocAttr]
 exact key 0 _ _ (bg _) ⟨rfl,rfl,rfl,rfl,fun j y hj=>absurd hj (da _),rfl⟩
theorem atN {l:List A} {o:Own} {e:Nat} {g:FuncId} {caps:List AV} {p:A→Bool} (he:l=[]∨e=3) (hl:(l.length:Int)<9223372036854775808)
  (hg:∀a∈l,∀r q,aw AP (.fn g) (.agg (bZ a)::caps) ((s.push r).push q)=some (B (p a),(s.push r).push q)):aw AP (.fn 114) [.slice o e (l.map bZ),.fn g [] caps] s=some (B (l.any p),s):=by
 have h:=atW (s:=s.push ⟨[],[]⟩) (o:=o) (caps:=caps) (g:=g) he hl (fun a ha r=>hg a ha _ r)
 rw[aL (show AP 114=some EU from rfl) rfl]
 simp only[go_sem,Ua,h,yE,simprocAttr]
theorem atX {l:List R} {o:Own} {e:Nat} {g:FuncId} {caps:List AV} {p:R→Bool} (he:l=[]∨e=7) (hl:(l.length:Int)<9223372036854775808)
  (hg:∀a∈l,∀r,aw AP (.fn g) (.agg (bU a)::caps) (s.push r)=some (B (p a),s.push r)):aw AP (.fn 85) [.slice o e (l.map bU),.fn g [] caps] s=some (I (du p l),s):=by
 have key:∀k ρ m,k≤l.length→(ρ 0=.slice o e (l.map bU)∧ρ 1=.fn g [] caps∧ρ 7=I l.length∧ρ 8=I k∧(∀j y,j<k→l[j]? =some y→p y=false)∧m=s.push ⟨[],[]⟩)→go AP afX (.c (.loop IV)::anF) ⟨ρ,m⟩=some (I (du p l),s):=by
  refine ck l.length _ _ ?_ ?_
  ·rintro k ρ m hk ⟨h0,h1,h7,h8,hp,rfl⟩ ih
   obtain⟨a,ha⟩:=get_some hk
   have he:e=7:=by rcases he with h|h;(rw[h]at ha;simp at ha);exact h
   subst he
   have hr:=cq (o:=o) (es:=7) (f:=bU) ha
   simp only[go_sem,IV,h0,h1,h7,h8,aS hk,hr,hg a (bQ ha),bK hk hl,simprocAttr]
   cases dq:p a with
   |true=>
    simp only[fZ]
    rw[tn ha dq hp]
   |false=>
    simp only[iy]
    refine ih _ _ ?_
    refine⟨h0,h1,h7,rfl,fun j y hj hy=>?_,rfl⟩
    by_cases e:j=k
    ·subst e;rw[ha]at hy;injection hy with hy;rw[←hy];exact dq
    ·exact hp j y (by omega) hy
  ·rintro ρ m ⟨h0,h1,h7,h8,hp,rfl⟩
   simp only[go_sem,IV,Nh,h7,h8,bM,simprocAttr]
   rw[uM hp]
 rw[aL (show AP 85=some E3 from rfl) rfl]
 simp only[go_sem,Ui,simprocAttr]
 exact key 0 _ _ (bg _) ⟨rfl,rfl,rfl,rfl,fun j y hj=>absurd hj (da _),rfl⟩
theorem atP {l:List R} {o:Own} {e:Nat} {g:FuncId} {caps:List AV} {p:R→Bool} (he:l=[]∨e=7) (hl:(l.length:Int)<9223372036854775808)
  (hg:∀a∈l,∀r q,aw AP (.fn g) (.agg (bU a)::caps) ((s.push r).push q)=some (B (p a),(s.push r).push q)):aw AP (.fn 54) [.slice o e (l.map bU),.fn g [] caps] s=some (B (l.any p),s):=by
 have h:=atX (s:=s.push ⟨[],[]⟩) (o:=o) (caps:=caps) (g:=g) he hl (fun a ha r=>hg a ha _ r)
 rw[aL (show AP 54=some EW from rfl) rfl]
 simp only[go_sem,Uc,h,yE,simprocAttr]
theorem RQ {l:List P} {o:Own} {e:Nat} {g:FuncId} {caps:List AV} {p:P→Bool} (he:l=[]∨e=3) (hl:(l.length:Int)<9223372036854775808)
  (hg:∀a∈l,∀r,aw AP (.fn g) (.agg (aj a)::caps) (s.push r)=some (B (p a),s.push r)):aw AP (.fn 72) [.slice o e (l.map aj),.fn g [] caps] s=some (I (du p l),s):=by
 have key:∀k ρ m,k≤l.length→(ρ 0=.slice o e (l.map aj)∧ρ 1=.fn g [] caps∧ρ 7=I l.length∧ρ 8=I k∧(∀j y,j<k→l[j]? =some y→p y=false)∧m=s.push ⟨[],[]⟩)→go AP VT (.c (.loop yf)::Yk) ⟨ρ,m⟩=some (I (du p l),s):=by
  refine ck l.length _ _ ?_ ?_
  ·rintro k ρ m hk ⟨h0,h1,h7,h8,hp,rfl⟩ ih
   obtain⟨a,ha⟩:=get_some hk
   have he:e=3:=by rcases he with h|h;(rw[h]at ha;simp at ha);exact h
   subst he
   have hr:=cq (o:=o) (es:=3) (f:=aj) ha
   simp only[go_sem,yf,h0,h1,h7,h8,aS hk,hr,hg a (bQ ha),bK hk hl,simprocAttr]
   cases dq:p a with
   |true=>
    simp only[fZ]
    rw[tn ha dq hp]
   |false=>
    simp only[iy]
    refine ih _ _ ?_
    refine⟨h0,h1,h7,rfl,fun j y hj hy=>?_,rfl⟩
    by_cases e:j=k
    ·subst e;rw[ha]at hy;injection hy with hy;rw[←hy];exact dq
    ·exact hp j y (by omega) hy
  ·rintro ρ m ⟨h0,h1,h7,h8,hp,rfl⟩
   simp only[go_sem,yf,IU,h7,h8,bM,simprocAttr]
   rw[uM hp]
 rw[aL (show AP 72=some Aw from rfl) rfl]
 simp only[go_sem,Ng,simprocAttr]
 exact key 0 _ _ (bg _) ⟨rfl,rfl,rfl,rfl,fun j y hj=>absurd hj (da _),rfl⟩
theorem atO {l:List P} {o:Own} {e:Nat} {g:FuncId} {caps:List AV} {p:P→Bool} (he:l=[]∨e=3) (hl:(l.length:Int)<9223372036854775808)
  (hg:∀a∈l,∀r q,aw AP (.fn g) (.agg (aj a)::caps) ((s.push r).push q)=some (B (p a),(s.push r).push q)):aw AP (.fn 103) [.slice o e (l.map aj),.fn g [] caps] s=some (B (l.any p),s):=by
 have h:=RQ (s:=s.push ⟨[],[]⟩) (o:=o) (caps:=caps) (g:=g) he hl (fun a ha r=>hg a ha _ r)
 rw[aL (show AP 103=some EV from rfl) rfl]
 simp only[go_sem,Ub,h,yE,simprocAttr]
theorem atZ {l:List Int} {o:Own} {e:Nat} {g:FuncId} {caps:List AV} {p:Int→Bool} (he:l=[]∨e=1) (hl:(l.length:Int)<9223372036854775808)
  (hg:∀a∈l,∀r,aw AP (.fn g) (I a::caps) (s.push r)=some (B (p a),s.push r)):aw AP (.fn 129) [.slice o e (l.map aD),.fn g [] caps] s=some (I (du p l),s):=by
 have key:∀k ρ m,k≤l.length→(ρ 0=.slice o e (l.map aD)∧ρ 1=.fn g [] caps∧ρ 7=I l.length∧ρ 8=I k∧(∀j y,j<k→l[j]? =some y→p y=false)∧m=s.push ⟨[],[]⟩)→go AP afY (.c (.loop IW)::anG) ⟨ρ,m⟩=some (I (du p l),s):=by
  refine ck l.length _ _ ?_ ?_
  ·rintro k ρ m hk ⟨h0,h1,h7,h8,hp,rfl⟩ ih
   obtain⟨a,ha⟩:=get_some hk
   have he:e=1:=by rcases he with h|h;(rw[h]at ha;simp at ha);exact h
   subst he
   have hr:=cq (o:=o) (es:=1) (f:=aD) ha
   simp only[go_sem,IW,h0,h1,h7,h8,aS hk,hr,hg a (bQ ha),bK hk hl,simprocAttr]
   cases dq:p a with
   |true=>
    simp only[fZ]
    rw[tn ha dq hp]
   |false=>
    simp only[iy]
    refine ih _ _ ?_
    refine⟨h0,h1,h7,rfl,fun j y hj hy=>?_,rfl⟩
    by_cases e:j=k
    ·subst e;rw[ha]at hy;injection hy with hy;rw[←hy];exact dq
    ·exact hp j y (by omega) hy
  ·rintro ρ m ⟨h0,h1,h7,h8,hp,rfl⟩
   simp only[go_sem,IW,Ni,h7,h8,bM,simprocAttr]
   rw[uM hp]
 rw[aL (show AP 129=some E4 from rfl) rfl]
 simp only[go_sem,Uj,simprocAttr]
 exact key 0 _ _ (bg _) ⟨rfl,rfl,rfl,rfl,fun j y hj=>absurd hj (da _),rfl⟩
theorem atQ {l:List Int} {o:Own} {e:Nat} {g:FuncId} {caps:List AV} {p:Int→Bool} (he:l=[]∨e=1) (hl:(l.length:Int)<9223372036854775808)
  (hg:∀a∈l,∀r q,aw AP (.fn g) (I a::caps) ((s.push r).push q)=some (B (p a),(s.push r).push q)):aw AP (.fn 119) [.slice o e (l.map aD),.fn g [] caps] s=some (B (l.any p),s):=by
 have h:=atZ (s:=s.push ⟨[],[]⟩) (o:=o) (caps:=caps) (g:=g) he hl (fun a ha r=>hg a ha _ r)
 rw[aL (show AP 119=some EX from rfl) rfl]
 simp only[go_sem,Ud,h,yE,simprocAttr]
theorem at1 {l:List Int} {x:Int} {o:Own} {e:Nat} (he:l=[]∨e=1) (hl:(l.length:Int)<9223372036854775808):aw AP (.fn 88) [.slice o e (l.map fun a=>[I a]),I x] s=some (I (du (fun a=>decide (x=a)) l),s):=by
 have key:∀k ρ m,k≤l.length→(ρ 0=.slice o e (l.map fun a=>[I a])∧ρ 1=I x∧ρ 7=I l.length∧ρ 8=I k∧(∀(j:Nat) (a:Int),j<k→l[j]? =some a→decide (x=a)=false)∧m=s.push ⟨[],[]⟩)→go AP af0 (.c (.loop IY)::anI) ⟨ρ,m⟩=some (I (du (fun a=>decide (x=a)) l),s):=by
  refine ck l.length _ _ ?_ ?_
  ·rintro k ρ m hk ⟨h0,h1,h7,h8,hp,rfl⟩ ih
   obtain⟨a,ha⟩:=get_some hk
   have he:e=1:=by rcases he with h|h;(rw[h]at ha;simp at ha);exact h
   subst he
   have hr:=cq (o:=o) (es:=1) (f:=fun a=>[I a]) ha
   simp only[go_sem,IY,h0,h1,h7,h8,aS hk,hr,bK hk hl,simprocAttr]
   cases dq:decide (x=a)with
   |true=>
    simp only[fZ]
    rw[tn (p:=fun a=>decide (x=a)) ha dq hp]
   |false=>
    simp only[iy]
    refine ih _ _ ?_
    refine⟨h0,h1,h7,rfl,fun j y hj hy=>?_,rfl⟩
    by_cases e:j=k
    ·subst e;rw[ha]at hy;injection hy with hy;rw[←hy];exact dq
    ·exact hp j y (by omega) hy
  ·rintro ρ m ⟨h0,h1,h7,h8,hp,rfl⟩
   simp only[go_sem,IY,Nk,h7,h8,bM,simprocAttr]
   rw[uM (p:=fun a=>decide (x=a)) hp]
 rw[aL (show AP 88=some E6 from rfl) rfl]
 simp only[go_sem,Ul,simprocAttr]
 exact key 0 _ _ (bg _) ⟨rfl,rfl,rfl,rfl,fun j y hj=>absurd hj (da _),rfl⟩
theorem Lj {l:List Int} {x:Int} {o:Own} {e:Nat} (he:l=[]∨e=1) (hl:(l.length:Int)<9223372036854775808):aw AP (.fn 62) [.slice o e (l.map fun a=>[I a]),I x] s=some (B (l.any fun a=>decide (x=a)),s):=by
 have h:=at1 (s:=s.push ⟨[],[]⟩) (o:=o) (x:=x) he hl
 rw[aL (show AP 62=some EZ from rfl) rfl]
 simp only[go_sem,Uf,h,yE,simprocAttr]
theorem at0 {l:List Bool} {x:Bool} {o:Own} {e:Nat} (he:l=[]∨e=1) (hl:(l.length:Int)<9223372036854775808):aw AP (.fn 118) [.slice o e (l.map fun a=>[B a]),B x] s=some (I (du (fun a=>(x==a)) l),s):=by
 have key:∀k ρ m,k≤l.length→(ρ 0=.slice o e (l.map fun a=>[B a])∧ρ 1=B x∧ρ 7=I l.length∧ρ 8=I k∧(∀(j:Nat) (a:Bool),j<k→l[j]? =some a→(x==a)=false)∧m=s.push ⟨[],[]⟩)→go AP afZ (.c (.loop IX)::anH) ⟨ρ,m⟩=some (I (du (fun a=>(x==a)) l),s):=by
  refine ck l.length _ _ ?_ ?_
  ·rintro k ρ m hk ⟨h0,h1,h7,h8,hp,rfl⟩ ih
   obtain⟨a,ha⟩:=get_some hk
   have he:e=1:=by rcases he with h|h;(rw[h]at ha;simp at ha);exact h
   subst he
   have hr:=cq (o:=o) (es:=1) (f:=fun a=>[B a]) ha
   simp only[go_sem,IX,h0,h1,h7,h8,aS hk,hr,ef,bK hk hl,simprocAttr]
   cases dq:(x==a)with
   |true=>
    simp only[fZ]
    rw[tn (p:=fun a=>(x==a)) ha dq hp]
   |false=>
    simp only[iy]
    refine ih _ _ ?_
    refine⟨h0,h1,h7,rfl,fun j y hj hy=>?_,rfl⟩
    by_cases e:j=k
    ·subst e;rw[ha]at hy;injection hy with hy;rw[←hy];exact dq
    ·exact hp j y (by omega) hy
  ·rintro ρ m ⟨h0,h1,h7,h8,hp,rfl⟩
   simp only[go_sem,IX,Nj,h7,h8,bM,simprocAttr]
   rw[uM (p:=fun a=>(x==a)) hp]
 rw[aL (show AP 118=some E5 from rfl) rfl]
 simp only[go_sem,Uk,simprocAttr]
 exact key 0 _ _ (bg _) ⟨rfl,rfl,rfl,rfl,fun j y hj=>absurd hj (da _),rfl⟩
theorem atS {l:List Bool} {x:Bool} {o:Own} {e:Nat} (he:l=[]∨e=1) (hl:(l.length:Int)<9223372036854775808):aw AP (.fn 102) [.slice o e (l.map fun a=>[B a]),B x] s=some (B (l.any fun a=>(x==a)),s):=by
 have h:=at0 (s:=s.push ⟨[],[]⟩) (o:=o) (x:=x) he hl
 rw[aL (show AP 102=some EY from rfl) rfl]
 simp only[go_sem,Ue,h,yE,simprocAttr]
end
end Go.Ax.Sx.Sc
