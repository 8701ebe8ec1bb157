/-
  From the executor's answer to a law's row: the arguments opened and shut.
-/
import Derived.Test.YtplkfafeoocmlaaGreatDoorT5
import Derived.ProofKit
set_option linter.unusedSimpArgs false
set_option linter.unusedVariables false
set_option maxRecDepth 100000
namespace Go.Ax
open Go.ChangeShapes Go.WideShapes Go.ChangeAt Go.RowKit Sx
def ux (P:Program) (d:Nat) (t:TypeId) (x:AV):Prop:=
 match P.underlying t with
 |some (.struct _)|some (.array _ _)=>∃ct,x=.agg ct∧eQ P d t ct
 |_=>eQ P d t [x]
inductive CI (P:Program) (d:Nat):List TypeId→List AV→Prop
 |nil:CI P d [] []
 |cons {t:TypeId} {ts:List TypeId} {x:AV} {xs:List AV} (h:ux P d t x) (r:CI P d ts xs):CI P d (t::ts) (x::xs)
section
variable{H:Type} {enc:TypeId×Value→H} {P:Program} {w:World}
theorem aeT {v:Value} {cs:Array Value} (h:v.cells=cs) (hn:∀c,v≠.agg c):cs.toList=[v]:=by
 subst h
 cases v<;>first|rfl|exact absurd rfl (hn _)
theorem aaW {ct:List AV} {cs:Array Value} (h:RL w ct cs.toList):Reads w (.agg ct) (.agg cs):=
 .agg (by simpa using h.len.symm) (fun c hc=>by
  obtain⟨i,hi⟩:=n9 hc
  have sv:=(bd.1 hi).1
  have hl:=h.len
  have aP:i<cs.toList.length:=by omega
  exact(h.get i c (cs.toList[i]) hi (cY aP)).2) (fun i hi=>by
  have hl:=h.len
  have aP:i<cs.toList.length:=by omega
  have:=(h.get i ct[i] (cs.toList[i]) (cY hi) (cY aP)).1
  have e:cs.getD i Go.undef=cs.toList[i]:=by
   have:i<cs.size:=by simpa using aP
   simp[Array.getD,this]
  rw[e];exact this)
theorem ap4 {d:Nat} {r:Reach} {b0:Nat} {t:TypeId} {v:Value} {x:DataW H} {ps:List MemPlace} (bH:nh P d t=true) (kY:Value.okWide P w r b0 t v) (h:DataW.Trod enc P w 0 (fun _=>true) true t v x ps) (mw:∀n∈x.weights P t,n≤reachBytes):
  ∃a,Reads w a v∧ux P d t a:=by
 obtain⟨fuel,hf⟩:=h
 obtain⟨ct,h1,h2,h3⟩:=aaf d t fuel _ _ bH hf mw
 cases d with
 |zero=>simp[nh]at bH
 | succ d =>
  unfold nh at bH
  cases hu:P.underlying t with
  |none=>rw[hu]at bH;cases bH
  | some u =>
   rw[hu]at bH
   have key:(∀c,v≠.agg c)→(P.cellsOf t=1)→∃a,Reads w a v∧eQ P (d+1) t [a]:=by
    intro hn h1c
    have hc:=aeT (v:=v) rfl hn
    rw[hc]at h1
    have hl:=h1.len
    match ct,hl,h1,h3 with
    |[a],_,h1,h3=>exact⟨a,(h1.get 0 a v rfl rfl).1,h3⟩
   cases u with
   |bool=>
    obtain⟨a,k1,k2⟩:=key (fun c e=>by subst e;simp only[Value.okWide,hu]at kY;simp[Cell.okWide,Cell.ok,hu]at kY) (by simpa using bH)
    exact⟨a,k1,by simp only[ux,hu];exact k2⟩
   |int k=>
    obtain⟨a,k1,k2⟩:=key (fun c e=>by subst e;simp only[Value.okWide,hu]at kY;simp[Cell.okWide,Cell.ok,hu]at kY) (by simpa using bH)
    exact⟨a,k1,by simp only[ux,hu];exact k2⟩
   |string=>
    obtain⟨a,k1,k2⟩:=key (fun c e=>by subst e;simp only[Value.okWide,hu]at kY;simp[Cell.okWide,Cell.ok,hu]at kY) (by simpa using bH)
    exact⟨a,k1,by simp only[ux,hu];exact k2⟩
   |slice e=>
    obtain⟨a,k1,k2⟩:=key (fun c e=>by subst e;simp only[Value.okWide,hu]at kY;simp[Cell.okWide,Cell.ok,hu]at kY) (by simp only[dB,dU]at bH;exact bH.1.1)
    exact⟨a,k1,by simp only[ux,hu];exact k2⟩
   |struct fs=>
    simp only[Value.okWide,hu]at kY
    obtain⟨cs,rfl,_,_⟩:=kY
    exact⟨.agg ct,aaW h1,by simp only[ux,hu];exact⟨ct,rfl,h3⟩⟩
   |array n e=>
    simp only[Value.okWide,hu]at kY
    obtain⟨cs,rfl,_,_⟩:=kY
    exact⟨.agg ct,aaW h1,by simp only[ux,hu];exact⟨ct,rfl,h3⟩⟩
   |_=>cases bH
theorem aac {d:Nat} {r:Reach} {b0:Nat}:∀{ts:List TypeId} {vs:List Value} {ds:List (DataW H)} {ps:List MemPlace},(∀t∈ts,nh P d t=true)→(∀(j:Nat) t v,ts[j]? =some t→vs[j]? =some v→Value.okWide P w r b0 t v)→
  DataW.TrodAll enc P w 0 (fun _=>true) true ts vs ds ps→(∀n∈DataW.weightsEach P ts ds,n≤reachBytes)→∃as:List AV,CI P d ts as∧as.length=vs.length∧∀(i:Nat) a v,as[i]? =some a→vs[i]? =some v→Reads w a v
 |[],[],[],_,_,_,_,_=>⟨[],.nil,rfl,fun i a v h=>by simp at h⟩
 | t :: ts, v :: vs, x :: ds, _, bH, kY, ⟨p, q, h1, h2, _⟩, mw => by
  obtain⟨a,k1,k2⟩:=ap4 (bH t (CP ..)) (kY 0 t v rfl rfl) h1 (fun n hn=>mw n (by simp only[DataW.weightsEach,dC];exact .inl hn))
  obtain⟨as,m1,m2,m3⟩:=aac (fun t ht=>bH t (iI _ ht)) (fun j t v h1 h2=>kY (j+1) t v (by simpa using h1) (by simpa using h2)) h2 (fun n hn=>mw n (by simp only[DataW.weightsEach,dC];exact .inr hn))
  exact⟨a::as,.cons k2 m1,by simp[m2],fun i b u hb hu=>by
   cases i with
   |zero=>simp at hb hu;subst hb hu;exact k1
   |succ i=>simp at hb hu;exact m3 i b u hb hu⟩
theorem abS {sp:Nat→Bool} {held:Bool} {base:Nat}:∀{ts:List TypeId} {vs:List Value} {ds:List (DataW H)} {ps:List MemPlace},DataW.TrodAll enc P w base sp held ts vs ds ps→ds.length=ts.length
 |[],[],[],_,_=>rfl
 |t::ts,v::vs,x::ds,_,⟨p,q,h1,h2,_⟩=>by simp[abS h2]
theorem abD (hl:laidOutB P=true) {W':World} (hb:Below w.heap.size w W') {sp:Nat→Bool}:∀{ts:List TypeId} {vs:List Value} {ds:List (DataW H)} {ps:List MemPlace},(∀t∈ts,P.readableRec t=true∧t<P.types.size)→
  DataW.TrodAll enc P w 0 (fun _=>true) true ts vs ds ps→(∀p∈ps,p.block<w.heap.size)→(∀p∈ps,sp p.block=true)→DataW.TrodAll enc P W' 0 sp true ts vs ds ps
 |[],[],[],_,_,h,_,_=>h
 | t :: ts, v :: vs, x :: ds, _, hT, ⟨p, q, h1, h2, e⟩, aC, rm => by
  subst e
  have ht:=hT t (CP ..)
  exact⟨p,q,WideElems.Trod_stays hl ht.1 ht.2 h1 (fun y hy=>hb.same (aC y (oP _ hy))) (fun y hy=>rm y (oP _ hy)),
   abD hl hb (fun t ht=>hT t (iI _ ht)) h2 (fun y hy=>aC y (HM _ hy)) (fun y hy=>rm y (HM _ hy)),rfl⟩
theorem arF {f:Func} {s:ChangeSpec} {apart fresh handsOn again:Bool} {W W':World} {args:Array Value} {v:Value} {ds gs:List (DataW H)} {before pa pv:List MemPlace}
  (hW:DataW.Whole enc P f.params.toList s.vars apart W args.toList ds gs before)
  (jW:∀(b:Nat) (sp:Nat→Bool) (hd:Bool),DataW.TrodAll enc P W' b sp hd f.resultTypes.toList (v.resultList f.resultTypes.size) (s.fn H (ds++gs)).results [])
  (qb:∀sp:Nat→Bool,(∀p∈before,sp p.block=true)→DataW.TrodAll enc P W' 0 sp true f.params.toList args.toList (s.fn H (ds++gs)).args pa)
  (YJ:∀sp:Nat→Bool,(∀p∈before,sp p.block=true)→DataW.TrodVars enc P W' sp s.vars (s.fn H (ds++gs)).vars pv)
  (xC:before=pa++pv) (hb:Below W.heap.size W W')
  (bH:∀(j:Nat) (t:TypeId) (r:Value),f.resultTypes[j]? =some t→(v.resultList f.resultTypes.size)[j]? =some r→Value.okWide P W' .any 0 t r):
  s.post enc P f apart fresh handsOn again W args v W':=by
 have aC:∀p∈before,p.block<W.heap.size:=fun p hp=>hW.lt p hp
 have hold:∀p∈before,(fun b=>decide (b<W.heap.size)) p.block=true:=fun p hp=>by simpa using aC p hp
 refine⟨ds,gs,before,[],pa,pv,hW,jW _ _ _,qb _ hold,YJ _ hold,World.keptBut_mono (fun p hp=>⟨hp,?_⟩) (hb.frame (· ∈before)),fun _=>?_⟩
 ·rw[xC,dC]at hp
  exact Or.inr hp
 ·obtain⟨_,_,_,_,_,hz,hn⟩:=hW
  refine⟨bH,_,_,([]++pa)++pv,⟨[]++pa,pv,trodAll_append (qb _ (fun _ _=>rfl)) (jW _ _ _),YJ _ (fun _ _=>rfl),rfl,?_,?_⟩,?_⟩
  ·intro b off hp
   have bh:MemPlace.cell b off∈before:=by rw[xC];simpa using hp
   rw[hb.frozen (aC _ bh)]
   exact hz b off bh
  ·intro ha
   have:=hn ha
   rw[xC]at this
   simpa using this
  ·intro p hp _
   rw[xC]
   simpa using hp
def S4 (P:Program) (AP:FuncId→Option aJ) (f:FuncId) (d:Nat) (ts:List TypeId):Prop:=
 ∀(as:List AV) (s:ae),Ok s→CI P d ts as→au AP (.fn f) as s=some (.v (.bool true),s)
theorem aow {AP:FuncId→Option aJ} {K:World→Prop} (hp:tm P AP K) (hK:∀w',Below w.heap.size w w'→K w') {f:FuncId} {d:Nat} {ts:List TypeId} (ajB:S4 P AP f d ts) {args:Array Value} {ds:List (DataW H)} {ps:List MemPlace} {r:Reach} {b0:Nat} (bH:∀t∈ts,nh P d t=true)
  (kY:∀(j:Nat) t v,ts[j]? =some t→args.toList[j]? =some v→Value.okWide P w r b0 t v) (hA:DataW.TrodAll enc P w 0 (fun _=>true) true ts args.toList ds ps) (mw:(DataW.weightsEach P ts ds).all (· ≤reachBytes)=true):
  Calls P f args w fun e w'=>e=.returned (.bool true)∧Below w.heap.size w w':=by
 obtain⟨as,h1,h2,h3⟩:=aac bH kY hA (fun n hn=>by simpa using j6.1 mw n hn)
 obtain⟨n,hn⟩:=rX.1 (ajB as Cy ⟨aH _,aH _⟩ h1)
 refine asP hp hK (by simpa using h2.symm) (fun i hi=>?_) hn
 have bG:i<args.toList.length:=by omega
 have e:args.getD i Go.undef=args.toList[i]:=by
  have:i<args.size:=by simpa using bG
  simp[Array.getD,this]
 rw[e]
 exact h3 i as[i] args.toList[i] (cY hi) (cY bG)
end
end Go.Ax
/-
  What a shape says, type by type.
-/
namespace Go.Ax.Sx
section
variable{P:Program} {d:Nat} {t:TypeId} {ct:List AV}
theorem xX (hu:P.underlying t=some (.int .i64)) (h:eQ P (d+1) t ct):∃x,ct=[I x]∧Y2 x:=by
 simp only[eQ,hu]at h
 obtain⟨x,rfl,hw⟩:=h
 refine⟨x,rfl,?_⟩
 simp only[Lit.wf,dB,dU]at hw
 have h1:IntKind.i64.min=-9223372036854775808:=by decide
 have h2:IntKind.i64.max=9223372036854775807:=by decide
 unfold Y2;omega
theorem abv (hu:P.underlying t=some .string) (h:eQ P (d+1) t ct):∃x:ByteArray,ct=[.v (.string x)]∧x.size≤maxLen:=by
 simp only[eQ,hu]at h;exact h
theorem ato {fs:Array Field} (hu:P.underlying t=some (.struct fs)) (h:eQ P (d+1) t ct):∃ps:List (List AV),ct=ps.flatten∧ps.length=fs.size∧∀(i:Nat) (f:Field) (p:List AV),fs[i]? =some f→ps[i]? =some p→eQ P d f.type p:=by
 simp only[eQ,hu]at h
 obtain⟨ps,h1,h2,h3⟩:=h
 exact⟨ps,h1,h2,fun i f p a b=>(h3 i f p a b).2⟩
theorem LG {e:TypeId} (hu:P.underlying t=some (.slice e)) (h:eQ P (d+1) t ct):∃o rows,ct=[.slice o (P.cellsOf e) rows]∧(o=.any∨(o=.aA∧rows=[]))∧rows.length≤maxLen∧∀r∈rows,eQ P d e r:=by
 simp only[eQ,hu]at h
 obtain⟨o,rows,h1,h2,h3,h4,_⟩:=h
 exact⟨o,rows,h1,h2,h3,fun r a=>(h4 r a).2⟩
theorem aa6 {α:Type} {q:List AV→α→Prop}:∀{rows:List (List AV)},(∀r∈rows,∃a,q r a)→∃l:List α,rows.length=l.length∧∀(i:Nat) r a,rows[i]? =some r→l[i]? =some a→q r a
 |[],_=>⟨[],rfl,fun i r a h=>by simp at h⟩
 | r :: rows, h => by
  obtain⟨a,ha⟩:=h r (CP ..)
  obtain⟨l,h1,h2⟩:=aa6 (rows:=rows) (fun r hr=>h r (iI _ hr))
  exact⟨a::l,by simp[h1],fun i r' a' h3 h4=>by
   cases i with
   |zero=>simp at h3 h4;subst h3 h4;exact ha
   |succ i=>simp at h3 h4;exact h2 i r' a' h3 h4⟩
theorem Lv {α:Type} {f:α→List AV} {g:α→Prop} {rows:List (List AV)} (h:∀r∈rows,∃a,r=f a∧g a):∃l:List α,rows=l.map f∧∀a∈l,g a:=by
 obtain⟨l,h1,h2⟩:=aa6 (q:=fun r a=>r=f a∧g a) h
 refine⟨l,?_,fun a ha=>?_⟩
 ·apply pO
  intro i
  by_cases hi:i<rows.length
  ·obtain⟨a,ha⟩:=get_some (l:=l) (k:=i) (by omega)
   rw[gX,ha,cY hi]
   exact gS some (h2 i _ a (cY hi) ha).1
  ·rw[n8 (by omega),n8 (by simp;omega)]
 ·obtain⟨i,hi⟩:=n9 ha
  have sv:=(bd.1 hi).1
  obtain⟨r,hr⟩:=get_some (l:=rows) (k:=i) (by omega)
  exact(h2 i r a hr hi).2
end
end Go.Ax.Sx
/-
  What is taken from the library's shelf.
-/
namespace Go.Ax.Sx.Sc
def Hz (n:Nat):List AV:=List.replicate n (.v (.bool false))
def fC (n:Nat):List UInt8:=if n<10 then[UInt8.ofNat (48+n)]else[UInt8.ofNat (48+n/10),UInt8.ofNat (48+n%10)]
def KU:List AV→Option AV
 |[.v (.int .i64 n)]=>if 0≤n∧n<100 then some (.v (.string ⟨(fC n.toNat).toArray⟩))else none
 |_=>none
def uq:List (List AV)→Option (List (List UInt8))
 |[]=>some []
 |[.v (.string s)]::r=>(uq r).map (s.data.toList::·)
 |_=>none
def G0:List AV→Option AV
 |[.slice _ _ rows,.v (.string sep)]=>(uq rows).bind fun l=>
  if l.length≤1000000∧(sep.data.toList.intercalate l).length≤1000000 then some (.v (.string ⟨(sep.data.toList.intercalate l).toArray⟩))else none
 |_=>none
def Co:aJ:=.rG KU
def Cp:aJ:=.rG G0
end Go.Ax.Sx.Sc
/- The codes of the functions, as compFn gives them. -/
namespace Go.Ax.Sx.Sc
open Go.Ax
abbrev o1 (d:Nat) (x:ck):bC:=⟨some d,none,x⟩
abbrev t1 (n:Nat):aF:=.tmp n
abbrev m1 (d x:Nat):bC:=⟨some d,none,.move (.tmp x)⟩
abbrev lF (d n x:Nat):bC:=⟨some d,none,.load false n (.tmp x)⟩
abbrev lT (d n x:Nat):bC:=⟨some d,none,.load true n (.tmp x)⟩
abbrev fA (d n x:Nat):bC:=⟨some d,none,.fieldAddr n (.tmp x)⟩
abbrev gT (d g:Nat) (x:ck):bC:=⟨some d,some (g,true),x⟩
abbrev gF (d g:Nat) (x:ck):bC:=⟨some d,some (g,false),x⟩
abbrev i1 (n:Int):aF:=.const (.v (.int .i64 n))
abbrev rF (l:List bC):aw:=.region false l
abbrev rT (l:List bC):aw:=.region true l
abbrev sq (a b:aw):aw:=.seq a b
abbrev cn (n:Nat) (a b:aw):aw:=.cond (.tmp n) a b
abbrev bT:aF:=.const (.v (.bool true))
abbrev bF:aF:=.const (.v (.bool false))
abbrev mX (x:Nat):ck:=.move (.tmp x)
abbrev mI (n:Int):ck:=.move (.const (.v (.int .i64 n)))
abbrev mB (b:Bool):ck:=.move (.const (.v (.bool b)))
abbrev lX (n x:Nat):ck:=.load false n (.tmp x)
abbrev lY (n x:Nat):ck:=.load true n (.tmp x)
abbrev fX (n x:Nat):ck:=.fieldAddr n (.tmp x)
abbrev iX (n x y:Nat):ck:=.indexAddr none n (.tmp x) (.tmp y)
abbrev aX (o:BinOp) (x y:Nat):ck:=.arith o (.tmp x) (.tmp y)
abbrev aK (o:BinOp) (x:Nat) (n:Int):ck:=.arith o (.tmp x) (.const (.v (.int .i64 n)))
abbrev nX (x:Nat):ck:=.len false (.tmp x)
abbrev eX (n x:Nat):ck:=.extract n (.tmp x)
abbrev uX (x:Nat):ck:=.un .not (.tmp x)
abbrev pA (x y:Nat):ck:=.pick (.tmp x) (.tmp y) bF
abbrev pB (x y:Nat):ck:=.pick (.tmp x) bT (.tmp y)
abbrev cF (f:Nat) (l:List aF):ck:=.call false f l
abbrev sT (n x y:Nat):bC:=⟨none,none,.store n (.tmp x) (.tmp y)⟩

-- 3
def I8:aw:=(sq (sq (rF [lT 186 3 1,m1 187 5,m1 188 3,o1 189 (cF 18 [t1 186,t1 187,t1 188]),o1 190 (nX 189),o1 191 (aK .gtr 190 0)]) (cn 191 (sq (rF [lT 192 3 1,m1
  193 5,m1 194 8,o1 195 (cF 19 [t1 192,t1 193,t1 194]),o1 196 (aK .eql 195 1),m1 2 196]) .ret) .skip)) (sq (rF [lT 197 3 1,m1 198 5,m1 199 8,o1 200 (cF 19 [t1 197,t1 198,t1 199]),o1 201
  (aK .gtr 200 1),m1 2 201]) .ret))
def yw:aw:=(sq (sq (rF [m1 144 16,m1 145 3,o1 146 (aX .lss 144 145)]) (cn 146 .skip (.exit 0))) (sq (.block 1 (sq (sq (rF [m1 149 14,fA 150 2 1,lF 151 1 150,m1 152
  16,o1 153 (iX 7 151 152),fA 154 0 153,lF 155 1 154,o1 156 (cF 16 [t1 149,t1 155])]) (cn 156 (.exit 1) .skip)) (sq (rF [m1 157 5,m1 158 16,o1 159 (cF 10 [t1 157,t1 158]),m1 160 8,m1 161 16,
  o1 162 (cF 10 [t1 160,t1 161]),m1 17 159,m1 18 162]) (sq (rT [m1 163 17,o1 164 (aK .lss 163 0),m1 165 18,o1 166 (aK .lss 165 0),o1 167 (.eqv true .bool (t1 164) (t1 166)),m1 168 167,gF 169
  168 (mX 17),gF 170 168 (aK .geq 169 0),gF 171 168 (mX 170),gT 172 171 (mX 5),gT 173 171 (mX 17),gT 174 171 (mX 17),gT 175 171 (aK .add 174 1),gT 176 171 (.slice (.sl 3) (t1 172) (some (t1
  173)) (some (t1 175)) none),gT 177 171 (mX 8),gT 178 171 (mX 18),gT 179 171 (mX 18),gT 180 171 (aK .add 179 1),gT 181 171 (.slice (.sl 3) (t1 177) (some (t1 178)) (some (t1 180)) none),gT 182
  171 (cF 17 [t1 176,t1 181]),gT 183 171 (uX 182),gF 184 168 (pA 171 183),o1 185 (pB 168 184)]) (cn 185 (sq (rF [o1 2 (mB false)]) .ret) .skip))))) (rF [m1 147 16,o1 148 (aK .add 147 1),m1 16
  148])))
def AX:aw:=(sq (rF [o1 1 (.box 3 (t1 0)),o1 2 (mB false)]) (sq (sq (rF [o1 19 (cF 4 []),o1 20 (uX 19)]) (cn 20 (sq (rF [o1 2 (mB false)]) .ret) .skip)) (sq (sq (rF [lT 21 3
  1,o1 22 (cF 5 [t1 21]),o1 23 (uX 22),m1 24 23,gF 25 24 (lY 3 1),gF 26 24 (cF 6 [t1 25]),gF 27 24 (aK .neq 26 0),o1 28 (pB 24 27),m1 29 28,gF 30 29 (fX 2 1),gF 31 29 (lX 1 30),gF 32 29 (nX
  31),gF 33 29 (aK .eql 32 0),o1 34 (pB 29 33)]) (cn 34 (sq (rF [o1 2 (mB true)]) .ret) .skip)) (sq (rF [fA 35 2 1,lF 36 1 35,o1 37 (nX 36),o1 38 (aK .sub 37 1),m1 3 38]) (sq (rF [lT 39 3 1,o1
  40 (cF 7 [t1 39]),o1 4 (.alloc [.v (.int .i64 0),.slice .aA 0 [],.slice .aA 0 []]),sT 3 4 40]) (sq (rF [fA 41 2 4,lF 42 1 41,m1 43 3,o1 44 (.slice (.sl 7) (t1 42) none (some (t1 43))
  none),fA 45 2 4,sT 1 45 44]) (sq (rF [lT 47 3 4,o1 48 (cF 8 [t1 47]),m1 46 48,o1 49 (eX 0 46),o1 50 (eX 1 46),o1 51 (eX 2 46),m1 5 49,m1 6 50,m1 7 51]) (sq (sq (rF [m1 52 7,o1 53 (aK .neq
  52 0),m1 54 53,gF 55 54 (lY 3 1),gF 56 54 (mX 5),gF 57 54 (cF 9 [t1 55,t1 56]),gF 58 54 (aK .neq 57 0),o1 59 (pB 54 58),m1 60 59,gF 61 60 (mX 5),gF 62 60 (mX 3),gF 63 60 (cF 10 [t1 61,t1
  62]),gF 64 60 (aK .geq 63 0),o1 65 (pB 60 64)]) (cn 65 (sq (rF [o1 2 (mB false)]) .ret) .skip)) (sq (rF [lT 67 3 1,o1 68 (cF 7 [t1 67]),m1 69 5,o1 70 (cF 12 [t1 69]),m1 71 3,o1 72 (cF 11 [t1
  68,t1 70,t1 71]),m1 66 72,o1 73 (eX 0 66),o1 74 (eX 1 66),m1 8 73,m1 9 74]) (sq (sq (rF [m1 75 9,o1 76 (aK .neq 75 0)]) (cn 76 (sq (rF [lT 78 3 1,o1 79 (cF 7 [t1 78]),m1 80 3,o1 81
  (.buildSlice 1 [[.v (.int .i64 0)]] [(0,(t1 80))]),o1 82 (cF 13 [t1 79,t1 81]),m1 77 82,o1 83 (eX 0 77),o1 84 (eX 1 77),m1 10 83,m1 11 84]) (sq (rF [lT 86 3 1,o1 87 (cF 7 [t1 86]),o1 88
  (cF 14 [t1 87]),m1 85 88,o1 89 (eX 0 85),o1 90 (eX 1 85),m1 12 89,m1 13 90]) (sq (rF [m1 91 9,o1 92 (aK .eql 91 12),m1 93 92,gT 94 93 (mX 11),gT 95 93 (aK .eql 94 0),o1 96 (pA 93 95),m1
  97 96,gT 98 97 (mX 10),gT 99 97 (uX 98),o1 100 (pA 97 99),m1 101 100,gT 102 101 (mX 13),gT 103 101 (aK .eql 102 0),o1 104 (pA 101 103),m1 105 104,gT 106 105 (mX 12),gT 107 105 (nX 106),gT
  108 105 (aK .eql 107 1),o1 109 (pA 105 108),m1 2 109]) .ret))) .skip)) (sq (sq (rF [lT 110 3 1,m1 111 8,o1 112 (cF 9 [t1 110,t1 111]),o1 113 (aK .neq 112 0),m1 114 113,gF 115 114 (mX 8),gF
  116 114 (mX 3),gF 117 114 (cF 10 [t1 115,t1 116]),gF 118 114 (aK .lss 117 0),o1 119 (pB 114 118)]) (cn 119 (sq (rF [o1 2 (mB false)]) .ret) .skip)) (sq (rF [lT 121 3 1,o1 122 (cF 7 [t1 121]),
  m1 123 5,o1 124 (cF 12 [t1 123]),m1 125 8,o1 126 (cF 12 [t1 125]),o1 127 (.build [.slice .aA 0 [],.slice .aA 0 []] [(0,(1,(t1 124))),(1,(1,(t1 126)))]),o1 128 (cF 15 [t1 122,t1
  127]),m1 120 128,o1 129 (eX 0 120),o1 130 (eX 1 120),m1 14 129,m1 15 130]) (sq (sq (rF [m1 131 15,o1 132 (aK .neq 131 0),m1 133 132,gF 134 133 (mX 14),gF 135 133 (fX 2 1),gF 136 133 (lX 1
  135),gF 137 133 (mX 3),gF 138 133 (iX 7 136 137),gF 139 133 (fX 0 138),gF 140 133 (lX 1 139),gF 141 133 (cF 16 [t1 134,t1 140]),gF 142 133 (uX 141),o1 143 (pB 133 142)]) (cn 143 (sq (rF [o1
  2 (mB false)]) .ret) .skip)) (sq (sq (rF [o1 16 (mI 0)]) (.block 0 (.loop yw))) I8))))))))))))))
abbrev an1:List K:=[.blk 0,.c I8]
abbrev agz:=aY [(.tmp 2)] false
def uV:aJ:=.code 1 202 AX [(.tmp 2)] false
-- 4
def UH:aw:=(sq (rF [o1 0 (mB false)]) (sq (rF [o1 5 (cF 20 []),o1 6 (cF 8 [t1 5]),m1 4 6,o1 7 (eX 0 4),o1 8 (eX 1 4),o1 9 (eX 2 4),m1 1 7,m1 2 8,m1 3 9]) (sq (rF [m1 10
  3,o1 11 (aK .eql 10 0),m1 12 11,gT 13 12 (mX 2),gT 14 12 (aK .eql 13 23),o1 15 (pA 12 14),m1 16 15,gT 17 16 (mX 1),gT 18 16 (cF 21 [t1 17]),gT 19 16 (.arith .eql (t1 18) (.const (.v
  (.string ⟨#[48, 64, 48, 43, 48, 32, 49, 64, 48, 43, 49, 32, 50, 64, 53, 43, 48, 43, 49]⟩)))), o1 20 (pA 16 19), m1 0 20]) .ret)))
abbrev avr:=aY [(.tmp 0)] false
def EP:aJ:=.code 0 21 UH [(.tmp 0)] false
-- 5
def Iw:aw:=(sq (rF [o1 1 (.box 3 (t1 0)),o1 2 (mB false)]) (sq (rF [lT 3 3 1,o1 4 (cF 22 [t1 3]),m1 5 4,gT 6 5 (lY 3 1),gT 7 5 (cF 6 [t1 6]),gT 8 5 (aK .neq 7 0),gT 9 5 (mX 8),gF
  10 9 (lY 3 1),gF 11 9 (cF 23 [t1 10,i1 2000]),gF 12 9 (aK .leq 11 2000),gT 13 5 (pB 9 12),o1 14 (pA 5 13),m1 2 14]) .ret))
abbrev au5:=aY [(.tmp 2)] false
def yJ:aJ:=.code 1 15 Iw [(.tmp 2)] false
-- 6
def Nc:aw:=(sq (rF [o1 2 (mI 0)]) .ret)
def Dn:aw:=(sq (sq (rF [m1 15 4,fA 16 2 1,lF 17 1 16,o1 18 (nX 17),o1 19 (aX .lss 15 18)]) (cn 19 .skip (.exit 0))) (sq (.block 1 (sq (rF [fA 22 2 1,lF 23 1 22,m1 24 4,o1 25
  (iX 7 23 24), lT 26 7 25, o1 5 (.alloc [.v (.string ⟨#[]⟩), .v (.int .i64 0), .v (.int .i64 0), .v (.int .i64 0), .v (.int .i64 0), .slice .aA 0 [], .v (.int .i64 0)]), sT 7 5 26]) (sq (rF [fA 27
  1 5,fA 28 1 27,lF 29 1 28,fA 30 1 5,fA 31 0 30,lF 32 1 31,o1 33 (aX .sub 29 32),o1 34 (aK .add 33 1),fA 35 3 5,lF 36 1 35,o1 37 (aX .sub 34 36),o1 38 (aK .add 37 1),o1 39 (aK .gtr 38
  8)]) (cn 39 (sq (rF [o1 2 (mI 8)]) .ret) .skip)))) (rF [m1 20 4,o1 21 (aK .add 20 1),m1 4 21])))
def IF:aw:=(sq (rF [o1 1 (.box 3 (t1 0)),o1 2 (mI 0)]) (sq (sq (rF [lT 6 3 1,o1 7 (cF 24 [t1 6]),m1 3 7]) (sq (rF [m1 8 3,o1 9 (aK .neq 8 0)]) (cn 9 (sq (rF [m1 10 3,m1 2 10])
  .ret) .skip))) (sq (sq (rF [fA 11 2 1,lF 12 1 11,o1 13 (nX 12),o1 14 (aK .gtr 13 6)]) (cn 14 (sq (rF [o1 2 (mI 8)]) .ret) .skip)) (sq (sq (rF [o1 4 (mI 0)]) (.block 0 (.loop Dn)))
  Nc))))
abbrev anz:List K:=[.blk 0,.c Nc]
abbrev agq:=aY [(.tmp 2)] false
def A7:aJ:=.code 1 40 IF [(.tmp 2)] false
-- 7
def M5:aw:=(sq (rF [lT 55 3 3,sT 3 2 55]) .ret)
def Iy:aw:=(sq (sq (rF [m1 33 6,fA 34 2 1,lF 35 1 34,o1 36 (nX 35),o1 37 (aX .lss 33 36)]) (cn 37 .skip (.exit 2))) (sq (.block 3 (sq (rF [fA 40 2 1,lF 41 1 40,m1 42 6,o1 43
  (iX 7 41 42), lT 44 7 43, o1 7 (.alloc [.v (.string ⟨#[]⟩), .v (.int .i64 0), .v (.int .i64 0), .v (.int .i64 0), .v (.int .i64 0), .slice .aA 0 [], .v (.int .i64 0)]), sT 7 7 44]) (sq (rF [fA 45
  5 7, lF 46 1 45, o1 47 (cF 26 [t1 46]), fA 48 5 7, sT 1 48 47]) (rF [fA 49 2 3, lF 50 1 49, lT 51 7 7, o1 52 (.buildSlice 7 [[.v (.string ⟨#[]⟩), .v (.int .i64 0), .v (.int .i64 0), .v (.int .i64
  0),.v (.int .i64 0),.slice .aA 0 [],.v (.int .i64 0)]] [(0,(t1 51))]),o1 53 (.append 7 (t1 50) (t1 52)),fA 54 2 3,sT 1 54 53])))) (rF [m1 38 6,o1 39 (aK .add 38 1),m1 6 39])))
def M6:aw:=(sq (sq (rF [o1 6 (mI 0)]) (.block 2 (.loop Iy))) M5)
def Iz:aw:=(sq (sq (rF [m1 11 4,fA 12 1 1,lF 13 1 12,o1 14 (nX 13),o1 15 (aX .lss 11 14)]) (cn 15 .skip (.exit 0))) (sq (.block 1 (sq (rF [fA 18 1 1,lF 19 1 18,m1 20 4,o1 21
  (iX 3 19 20), lT 22 3 21, o1 5 (.alloc [.v (.string ⟨#[]⟩), .v (.int .i64 0), .slice .aA 0 []]), sT 3 5 22]) (sq (rF [fA 23 2 5, lF 24 1 23, o1 25 (cF 25 [t1 24]), fA 26 2 5, sT 1 26 25]) (rF [fA
  27 1 3, lF 28 1 27, lT 29 3 5, o1 30 (.buildSlice 3 [[.v (.string ⟨#[]⟩), .v (.int .i64 0), .slice .aA 0 []]] [(0, (t1 29))]), o1 31 (.append 3 (t1 28) (t1 30)), fA 32 1 3, sT 1 32 31])))) (rF [m1
  16 4,o1 17 (aK .add 16 1),m1 4 17])))
def Ui:aw:=(sq (rF [o1 1 (.box 3 (t1 0)),o1 2 (.alloc [.v (.int .i64 0),.slice .aA 0 [],.slice .aA 0 []])]) (sq (rF [fA 8 0 1,lF 9 1 8,o1 10 (.build [.v (.int .i64 0),.slice
  .aA 0 [],.slice .aA 0 []] [(0,(1,(t1 9)))]),o1 3 (.alloc [.v (.int .i64 0),.slice .aA 0 [],.slice .aA 0 []]),sT 3 3 10]) (sq (sq (rF [o1 4 (mI 0)]) (.block 0 (.loop Iz)))
  M6)))
abbrev anp:List K:=[.blk 2,.c M5]
abbrev anq:List K:=[.blk 0,.c M6]
abbrev Wu:=aY [(.cell true 3 2)] false
def Eg:aJ:=.code 1 56 Ui [(.cell true 3 2)] false
-- 8
def Nn:aw:=(sq (rF [o1 1 (.box 3 (t1 0)),o1 2 (.move (.const (.slice .aA 0 []))),o1 3 (mI 0),o1 4 (mI 0)]) (sq (rF [lT 11 3 1,o1 12 (cF 27 [t1 11]),m1 10 12,o1 13 (eX 0 10),o1 14
  (eX 1 10),m1 5 13,m1 6 14]) (sq (sq (rF [m1 15 6,o1 16 (aK .neq 15 0)]) (cn 16 (sq (rF [m1 17 6,o1 2 (.move (.const (.slice .aA 0 []))),o1 3 (mI 0),m1 4 17]) .ret) .skip)) (sq (rF [m1 19 5,
  o1 20 (cF 28 [t1 19]),o1 21 (cF 29 [t1 20]),m1 18 21,o1 22 (eX 0 18),o1 23 (eX 1 18),o1 24 (eX 2 18),m1 7 22,m1 8 23,m1 9 24]) (sq (rF [m1 25 7,m1 26 8,m1 2 25,m1 3 26,o1 4 (mI 0)])
  .ret)))))
abbrev avc:=aY [(.tmp 2),(.tmp 3),(.tmp 4)] false
def Ev:aJ:=.code 1 27 Nn [(.tmp 2),(.tmp 3),(.tmp 4)] false
-- 9
def M8:aw:=(sq (rF [o1 2 (.box 3 (t1 0)),o1 4 (mI 0)]) (sq (sq (rF [lT 8 3 2,o1 9 (cF 24 [t1 8]),m1 5 9]) (sq (rF [m1 10 5,o1 11 (aK .neq 10 0)]) (cn 11 (sq (rF [m1 12 5,m1 4 12])
  .ret) .skip))) (sq (rF [lT 14 3 2,m1 15 1,o1 16 (cF 30 [t1 14,t1 15]),m1 13 16,o1 17 (eX 0 13),o1 18 (eX 1 13),m1 6 17,m1 7 18]) (sq (rF [m1 19 7,m1 4 19]) .ret))))
abbrev au7:=aY [(.tmp 4)] false
def Ej:aJ:=.code 2 20 M8 [(.tmp 4)] false
-- 10
def M7:aw:=(sq (rF [o1 4 (mI (-1))]) .ret)
def Di:aw:=(sq (sq (rF [m1 6 5,m1 7 0,o1 8 (nX 7),o1 9 (aX .lss 6 8)]) (cn 9 .skip (.exit 0))) (sq (.block 1 (sq (rF [m1 12 0,m1 13 5,o1 14 (iX 3 12 13),fA 15 0 14,lF 16 1 15,
  m1 17 1,o1 18 (aX .eql 16 17)]) (cn 18 (sq (rF [m1 19 5,m1 4 19]) .ret) .skip))) (rF [m1 10 5,o1 11 (aK .add 10 1),m1 5 11])))
def Uj:aw:=(sq (rF [o1 4 (mI 0)]) (sq (sq (rF [o1 5 (mI 0)]) (.block 0 (.loop Di))) M7))
abbrev ans:List K:=[.blk 0,.c M7]
abbrev ago:=aY [(.tmp 4)] false
def Eh:aJ:=.code 2 20 Uj [(.tmp 4)] false
-- 11
def IV:aw:=(sq (rF [o1 6 (.move (.const (.slice .aA 0 []))),o1 7 (mI 12)]) .ret)
def Nt:aw:=(rF [m1 51 11,o1 52 (aK .add 51 1),m1 11 52])
def IW:aw:=(sq (rF [lF 86 1 13,o1 87 (aK .geq 86 0)]) (cn 87 (sq (rF [lF 88 1 12,m1 6 88,o1 7 (mI 0)]) .ret) .skip))
def uP:aw:=(.block 3 (sq (rF [lF 58 1 8,lF 59 1 4,m1 60 14,lF 61 1 5,o1 62 (cF 36 [t1 58,t1 59,t1 60,t1 61]),o1 63 (cF 29 [t1 62]),m1 57 63,o1 64 (eX 0 57),o1 65 (eX 1
  57),o1 66 (eX 2 57),m1 15 64,m1 16 65,m1 17 66]) (sq (rF [m1 67 17,m1 68 67,gT 69 68 (mX 16),gT 70 68 (lX 1 13),gT 71 68 (aX .gtr 69 70),gT 72 68 (mX 71),gF 73 72 (mX 16),gF 74 72 (lX 1
  13),gF 75 72 (aX .eql 73 74),gF 76 72 (mX 75),gT 77 76 (mX 15),gT 78 76 (lX 1 12),gT 79 76 (cF 37 [t1 77,t1 78,.const (.fn 38 [] [])]),gT 80 76 (aK .lss 79 0),gF 81 72 (pA 76 80),gT 82 68
  (pB 72 81),o1 83 (pA 68 82)]) (cn 83 (rF [m1 84 15,m1 85 16,sT 1 12 84,sT 1 13 85]) .skip))))
def DA:aw:=(rF [m1 14 56])
def DB:aw:=(sq (sq (rF [m1 47 11,m1 48 10,o1 49 (nX 48),o1 50 (aX .leq 47 49)]) (cn 50 .skip (.exit 0))) (sq (.block 1 (sq (rF [o1 12 (.alloc [.slice .aA 0 []])]) (sq (rF [o1
  13 (.alloc [.v (.int .i64 0)]),⟨none,none,(.store 1 (t1 13) (i1 (-1)))⟩]) (sq (sq (rF [m1 53 10,m1 54 11,o1 55 (cF 35 [t1 53,t1 54])]) (.block 2 (.rangeFunc (t1 55) [56] DA
  uP))) IW)))) Nt))
def Dz:aw:=(sq (rF [o1 3 (.box 3 (t1 0)),o1 4 (.box 1 (t1 1)),o1 5 (.box 1 (t1 2)),o1 6 (.move (.const (.slice .aA 0 []))),o1 7 (mI 0)]) (sq (rF [lT 19 3 3,o1 20 (cF 27 [t1
  19]),m1 18 20,o1 21 (eX 0 18),o1 22 (eX 1 18),o1 8 (.alloc [.v (.pointer none)]),sT 1 8 21,m1 9 22]) (sq (sq (rF [m1 23 9,o1 24 (aK .neq 23 0)]) (cn 24 (sq (rF [m1 25 9,o1 6 (.move (.const
  (.slice .aA 0 []))),m1 7 25]) .ret) .skip)) (sq (rF [lF 27 1 8,lF 28 1 4,o1 29 (cF 31 [t1 27,t1 28]),m1 26 29,o1 30 (eX 0 26),o1 31 (eX 1 26),m1 9 31]) (sq (sq (rF [m1 32 9,lF 33 1 8,lF
  34 1 5,o1 35 (cF 33 [t1 33,t1 34]),o1 36 (.buildSlice 1 [[.v (.int .i64 0)],[.v (.int .i64 0)]] [(0,(t1 32)),(1,(t1 35))]),o1 37 (cF 32 [t1 36]),m1 9 37]) (sq (rF [m1 38 9,o1 39 (aK .neq
  38 0)]) (cn 39 (sq (rF [m1 40 9,o1 6 (.move (.const (.slice .aA 0 []))),m1 7 40]) .ret) .skip))) (sq (rF [fA 41 2 3,lF 42 1 41,o1 43 (nX 42),o1 44 (.arith .shl (i1 1) (t1 43)),o1 45 (aK .sub
  44 1),o1 46 (cF 34 [t1 45]),m1 10 46]) (sq (sq (rF [o1 11 (mI 0)]) (.block 0 (.loop DB))) IV)))))))
abbrev Y9:List K:=[.blk 2,.c IW,.blk 1,.c Nt,.lp DB,.blk 0,.c IV]
abbrev anP:List K:=[.blk 0,.c IV]
abbrev OC:=aY [(.tmp 6),(.tmp 7)] false
def yK:aJ:=.code 3 89 Dz [(.tmp 6),(.tmp 7)] false
-- 12
def IA:aw:=(sq (rF [m1 31 3,m1 2 31]) .ret)
def Dh:aw:=(sq (sq (rF [m1 5 4,m1 6 0,o1 7 (nX 6),o1 8 (aX .lss 5 7)]) (cn 8 .skip (.exit 0))) (sq (.block 1 (rT [m1 11 3,m1 12 0,m1 13 4,o1 14 (iX 3 12 13),fA 15 0 14,lF 16 1
  15,m1 17 0,m1 18 4,o1 19 (iX 3 17 18),fA 20 1 19,lF 21 1 20,m1 22 0,m1 23 4,o1 24 (iX 3 22 23),fA 25 2 24,lF 26 1 25,o1 27 (.call true 26 [t1 26]),o1 28 (.build [.v (.int .i64 0),.v
  (.int .i64 0),.slice .aA 0 []] [(0,(1,(t1 16))),(1,(1,(t1 21))),(2,(1,(t1 27)))]),o1 29 (.buildSlice 3 [[.v (.int .i64 0),.v (.int .i64 0),.slice .aA 0 []]] [(0,(t1 28))]),o1 30
  (.append 3 (t1 11) (t1 29)),m1 3 30])) (rF [m1 9 4,o1 10 (aK .add 9 1),m1 4 10])))
def Uh:aw:=(sq (rF [o1 2 (.move (.const (.slice .aA 0 [])))]) (sq (rF [o1 3 (.move (.const (.slice .aA 0 [])))]) (sq (sq (rF [o1 4 (mI 0)]) (.block 0 (.loop Dh)))
  IA)))
abbrev anr:List K:=[.blk 0,.c IA]
abbrev agn:=aY [(.tmp 2)] true
def Ef:aJ:=.code 1 32 Uh [(.tmp 2)] true
-- 13
def Ny:aw:=(sq (rF [m1 45 6,o1 46 (cF 28 [t1 45]),m1 47 8,o1 48 (cF 40 [t1 46,.const (.slice .aA 0 []),t1 47]),m1 4 48,o1 5 (mI 0)]) .ret)
def AU:aw:=(sq (rF [o1 24 (aX .lss 23 22)]) (sq (cn 24 .skip (.exit 0)) (sq (.block 1 (sq (rF [o1 25 (iX 1 21 23),lF 26 1 25,m1 11 26]) (sq (sq (rF [m1 27 6,m1 28 11,o1 29 (cF
  33 [t1 27,t1 28]),m1 30 11,m1 31 9,o1 32 (aX .gtr 30 31),o1 33 (cF 39 [t1 32,i1 9]),o1 34 (.buildSlice 1 [[.v (.int .i64 0)],[.v (.int .i64 0)]] [(0,(t1 29)),(1,(t1 33))]),o1 35 (cF 32
  [t1 34]),m1 12 35]) (sq (rF [m1 36 12,o1 37 (aK .neq 36 0)]) (cn 37 (sq (rF [m1 38 12,o1 4 (mB false),m1 5 38]) .ret) .skip))) (rF [m1 39 8,m1 40 11,o1 41 (.arith .shl (i1 1) (t1 40)),o1 42
  (aX .or 39 41),m1 43 11,m1 8 42,m1 9 43])))) (rF [o1 44 (aK .add 23 1),m1 23 44]))))
def Nx:aw:=(sq (rF [o1 2 (.box 3 (t1 0)),o1 4 (mB false),o1 5 (mI 0)]) (sq (rF [lT 14 3 2,o1 15 (cF 27 [t1 14]),m1 13 15,o1 16 (eX 0 13),o1 17 (eX 1 13),m1 6 16,m1 7 17]) (sq
  (sq (rF [m1 18 7,o1 19 (aK .neq 18 0)]) (cn 19 (sq (rF [m1 20 7,o1 4 (mB false),m1 5 20]) .ret) .skip)) (sq (rF [o1 8 (mI 0),o1 9 (mI (-1))]) (sq (sq (rF [m1 21 1,o1 22 (nX 21),o1 23 (mI 0)])
  (.block 0 (.loop AU))) Ny)))))
abbrev anT:List K:=[.blk 0,.c Ny]
abbrev agu:=aY [(.tmp 4),(.tmp 5)] false
def Ba:aJ:=.code 2 49 Nx [(.tmp 4),(.tmp 5)] false
-- 14
def IX:aw:=(sq (rF [⟨none,none,(.store 1 (t1 2) (.const (.slice .aA 0 [])))⟩,⟨none,none,(.store 1 (t1 3) (i1 12))⟩]) .ret)
def Nv:aw:=(rF [m1 33 8,o1 34 (aK .add 33 1),m1 8 34])
def IY:aw:=(sq (rF [lT 50 2 6,m1 51 10,o1 52 (cF 40 [t1 50,.const (.slice .aA 0 []),t1 51]),o1 53 (uX 52)]) (cn 53 (sq (rF [m1 54 9,sT 1 2 54,⟨none,none,(.store 1
  (t1 3) (i1 0))⟩]) .ret) .skip))
def DD:aw:=(sq (rF [o1 42 (aX .lss 41 40)]) (sq (cn 42 .skip (.exit 4)) (sq (.block 5 (sq (rF [o1 43 (iX 1 39 41),lF 44 1 43,m1 12 44]) (rF [m1 45 10,m1 46 12,o1 47
  (.arith .shl (i1 1) (t1 46)),o1 48 (aX .or 45 47),m1 10 48]))) (rF [o1 49 (aK .add 41 1),m1 41 49]))))
def wH:aw:=(.block 3 (sq (rF [o1 10 (mI 0)]) (sq (sq (rF [m1 39 9,o1 40 (nX 39),o1 41 (mI 0)]) (.block 4 (.loop DD))) IY)))
def wG:aw:=(rF [m1 9 38])
def DC:aw:=(sq (sq (rF [m1 29 8,m1 30 7,o1 31 (nX 30),o1 32 (aX .leq 29 31)]) (cn 32 .skip (.exit 0))) (sq (.block 1 (sq (rF [m1 35 7,m1 36 8,o1 37 (cF 35 [t1 35,t1
  36])]) (.block 2 (.rangeFunc (t1 37) [38] wG wH)))) Nv))
def Nu:aw:=(sq (rF [o1 1 (.box 3 (t1 0)),o1 2 (.alloc [.slice .aA 0 []]),o1 3 (.alloc [.v (.int .i64 0)])]) (sq (rF [lT 14 3 1,o1 15 (cF 27 [t1 14]),m1 13 15,o1 16 (eX 0
  13),o1 17 (eX 1 13),m1 4 16,m1 5 17]) (sq (sq (rF [m1 18 5,o1 19 (aK .neq 18 0)]) (cn 19 (sq (rF [m1 20 5,⟨none,none,(.store 1 (t1 2) (.const (.slice .aA 0 [])))⟩,sT 1 3 20]) .ret) .skip))
  (sq (rF [m1 21 4,o1 22 (cF 28 [t1 21]),o1 6 (.alloc [.v (.pointer none),.slice .aA 0 []]),sT 2 6 22]) (sq (rF [fA 23 2 1,lF 24 1 23,o1 25 (nX 24),o1 26 (.arith .shl (i1 1) (t1 25)),o1 27
  (aK .sub 26 1),o1 28 (cF 34 [t1 27]),m1 7 28]) (sq (sq (rF [o1 8 (mI 1)]) (.block 0 (.loop DC))) IX))))))
abbrev anR:List K:=[.blk 4,.c IY,.blk 3]
abbrev Za:List K:=[.blk 2,.blk 1,.c Nv,.lp DC,.blk 0,.c IX]
abbrev anQ:List K:=[.blk 0,.c IX]
abbrev OD:=aY [(.cell false 1 2),(.cell false 1 3)] false
def A9:aJ:=.code 1 55 Nu [(.cell false 1 2),(.cell false 1 3)] false
-- 15
def Nw:aw:=(sq (rF [m1 59 9,m1 4 59,o1 5 (mI 0)]) .ret)
def AQ : aw := (sq (rF [o1 36 (aX .lss 35 34)]) (sq (cn 36 .skip (.exit 0)) (sq (.block 1 (sq (rF [m1 37 35, o1 38 (iX 7 33 35), lT 39 7 38, o1 11 (.alloc [.v (.string ⟨#[]⟩), .v (.int
  .i64 0),.v (.int .i64 0),.v (.int .i64 0),.v (.int .i64 0),.slice .aA 0 [],.v (.int .i64 0)]),m1 10 37,sT 7 11 39]) (sq (rF [fA 40 0 3,lF 41 1 40,fA 42 1 3,lF 43 1 42,m1 44 10,o1 45
  (cF 42 [t1 41,t1 43,t1 44]),m1 46 45,gT 47 46 (mX 9),gT 48 46 (fX 0 11),gT 49 46 (lX 1 48),gT 50 46 (cF 43 [t1 47,t1 49]),gT 51 46 (uX 50),o1 52 (pA 46 51)]) (cn 52 (rF [m1 53 9,fA 54 0
  11, lF 55 1 54, o1 56 (.buildSlice 1 [[.v (.string ⟨#[]⟩)]] [(0, (t1 55))]), o1 57 (.append 1 (t1 53) (t1 56)), m1 9 57]) .skip)))) (rF [o1 58 (aK .add 35 1), m1 35 58]))))
def IZ:aw:=(sq (rF [o1 2 (.box 3 (t1 0)),o1 3 (.box 2 (t1 1)),o1 4 (.move (.const (.slice .aA 0 []))),o1 5 (mI 0)]) (sq (rF [lT 13 3 2,fA 14 0 3,lF 15 1 14,o1 16 (cF 41 [t1 13,
  t1 15]),m1 12 16,o1 17 (eX 0 12),o1 18 (eX 1 12),o1 19 (eX 2 12),m1 6 17,m1 7 18,m1 8 19]) (sq (sq (rF [m1 20 8,o1 21 (aK .eql 20 0)]) (cn 21 (rF [m1 23 6,fA 24 1 3,lF 25 1 24,o1 26 (cF
  31 [t1 23,t1 25]),m1 22 26,o1 27 (eX 0 22),o1 28 (eX 1 22),m1 8 28]) .skip)) (sq (sq (rF [m1 29 8,o1 30 (aK .neq 29 0)]) (cn 30 (sq (rF [m1 31 8,o1 4 (.move (.const (.slice .aA 0 []))),m1
  5 31]) .ret) .skip)) (sq (rF [o1 9 (.move (.const (.slice .aA 0 [])))]) (sq (sq (rF [fA 32 2 2,lF 33 1 32,o1 34 (nX 33),o1 35 (mI 0)]) (.block 0 (.loop AQ))) Nw))))))
abbrev anS:List K:=[.blk 0,.c Nw]
abbrev agt:=aY [(.tmp 4),(.tmp 5)] false
def yL:aJ:=.code 2 60 IZ [(.tmp 4),(.tmp 5)] false
-- 16
def MQ:aw:=(sq (rF [o1 4 (mB false)]) .ret)
def C7:aw:=(sq (sq (rF [m1 6 5,m1 7 0,o1 8 (nX 7),o1 9 (aX .lss 6 8)]) (cn 9 .skip (.exit 0))) (sq (.block 1 (sq (rF [m1 12 0,m1 13 5,o1 14 (iX 1 12 13),lF 15 1 14,m1 16 1,
  o1 17 (aX .eql 15 16)]) (cn 17 (sq (rF [o1 4 (mB true)]) .ret) .skip))) (rF [m1 10 5,o1 11 (aK .add 10 1),m1 5 11])))
def T6:aw:=(sq (rF [o1 4 (mB false)]) (sq (sq (rF [o1 5 (mI 0)]) (.block 0 (.loop C7))) MQ))
abbrev am5:List K:=[.blk 0,.c MQ]
abbrev agh:=aY [(.tmp 4)] false
def D0:aJ:=.code 2 18 T6 [(.tmp 4)] false
-- 17
def Nb:aw:=(sq (rF [o1 4 (mB true)]) .ret)
def Dm:aw:=(sq (sq (rF [m1 11 5,m1 12 0,o1 13 (nX 12),o1 14 (aX .lss 11 13)]) (cn 14 .skip (.exit 0))) (sq (.block 1 (sq (rT [m1 17 0,m1 18 5,o1 19 (iX 3 17 18),lT 20 3 19,m1 21
  1,m1 22 5,o1 23 (iX 3 21 22),lT 24 3 23,o1 25 (cF 44 [t1 20,t1 24]),o1 26 (aK .neq 25 0)]) (cn 26 (sq (rF [o1 4 (mB false)]) .ret) .skip))) (rF [m1 15 5,o1 16 (aK .add 15 1),m1 5 16])))
def Na:aw:=(sq (rF [o1 4 (mB false)]) (sq (sq (rF [m1 6 0,o1 7 (nX 6),m1 8 1,o1 9 (nX 8),o1 10 (aX .neq 7 9)]) (cn 10 (sq (rF [o1 4 (mB false)]) .ret) .skip)) (sq (sq (rF [o1 5 (mI
  0)]) (.block 0 (.loop Dm))) Nb)))
abbrev anx:List K:=[.blk 0,.c Nb]
abbrev agp:=aY [(.tmp 4)] false
def A6:aJ:=.code 2 27 Na [(.tmp 4)] false
-- 18
def IB:aw:=(sq (rF [m1 49 8,m1 6 49]) .ret)
def IC:aw:=(rF [m1 19 9,o1 20 (aK .add 19 1),m1 9 20])
def ID:aw:=(sq (rF [m1 41 10]) (cn 41 (rF [m1 42 8,m1 43 7,m1 44 9,o1 45 (iX 3 43 44),lT 46 3 45,o1 47 (.buildSlice 3 [[.v (.int .i64 0),.v (.int .i64 0),.slice .aA 0
  []]] [(0,(t1 46))]),o1 48 (.append 3 (t1 42) (t1 47)),m1 8 48]) .skip))
def AO:aw:=(sq (sq (rF [m1 21 11,m1 22 1,o1 23 (nX 22),o1 24 (aX .lss 21 23)]) (cn 24 .skip (.exit 2))) (sq (.block 3 (rT [m1 27 10,m1 28 27,gT 29 28 (lY 3 3),gT 30 28 (mX
  7),gT 31 28 (mX 9),gT 32 28 (iX 3 30 31),gT 33 28 (lY 3 32),gT 34 28 (mX 1),gT 35 28 (mX 11),gT 36 28 (iX 3 34 35),gT 37 28 (lY 3 36),gT 38 28 (cF 46 [t1 29,t1 33,t1 37]),gT 39 28 (uX
  38),o1 40 (pA 28 39),m1 10 40])) (rF [m1 25 11,o1 26 (aK .add 25 1),m1 11 26])))
def Dj:aw:=(sq (sq (rF [m1 15 9,m1 16 7,o1 17 (nX 16),o1 18 (aX .lss 15 17)]) (cn 18 .skip (.exit 0))) (sq (.block 1 (sq (rF [o1 10 (mB true)]) (sq (sq (rF [o1 11 (mI 0)])
  (.block 2 (.loop AO))) ID))) IC))
def Uk:aw:=(sq (rF [o1 3 (.box 3 (t1 0)),o1 6 (.move (.const (.slice .aA 0 [])))]) (sq (rF [lT 12 3 3,m1 13 2,o1 14 (cF 45 [t1 12,t1 13]),m1 7 14]) (sq (rF [o1 8 (.move
  (.const (.slice .aA 0 [])))]) (sq (sq (rF [o1 9 (mI 0)]) (.block 0 (.loop Dj))) IB))))
abbrev anu:List K:=[.blk 2,.c ID,.blk 1,.c IC,.lp Dj,.blk 0,.c IB]
abbrev ant:List K:=[.blk 0,.c IB]
abbrev Wv:=aY [(.tmp 6)] false
def Ei:aJ:=.code 3 50 Uk [(.tmp 6)] false
-- 19
def MZ:aw:=(sq (rF [m1 22 7,m1 6 22]) .ret)
def Dc:aw:=(sq (sq (rF [m1 9 8,fA 10 2 3,lF 11 1 10,o1 12 (nX 11),o1 13 (aX .lss 9 12)]) (cn 13 .skip (.exit 0))) (sq (.block 1 (sq (rF [m1 16 1,m1 17 2,m1 18 8,o1 19 (cF 47
  [t1 16,t1 17,t1 18])]) (cn 19 (rF [m1 20 7,o1 21 (aK .add 20 1),m1 7 21]) .skip))) (rF [m1 14 8,o1 15 (aK .add 14 1),m1 8 15])))
def Uf:aw:=(sq (rF [o1 3 (.box 3 (t1 0)),o1 6 (mI 0)]) (sq (rF [o1 7 (mI 0)]) (sq (sq (rF [o1 8 (mI 0)]) (.block 0 (.loop Dc))) MZ)))
abbrev anj:List K:=[.blk 0,.c MZ]
abbrev agk:=aY [(.tmp 6)] false
def Eb:aJ:=.code 3 23 Uf [(.tmp 6)] false
-- 20
def Ue:aw:=(sq (rF [o1 0 (.alloc [.v (.int .i64 0),.slice .aA 0 [],.slice .aA 0 []])]) (sq (rF [o1 1 (.build [.v (.int .i64 0),.v (.int .i64 0)] [(0,(1,(i1 4))),(1,(1,(i1
  4)))]), o1 2 (.buildSlice 2 [[.v (.int .i64 0), .v (.int .i64 0)]] [(0, (t1 1))]), o1 3 (.build [.v (.string ⟨#[]⟩), .v (.int .i64 0), .slice .aA 0 []] [(0, (1, (.const (.v (.string ⟨#[97]⟩))))),
  (1, (1, (i1 1))), (2, (1, (t1 2)))]), o1 4 (.build [.v (.string ⟨#[]⟩), .v (.int .i64 0), .slice .aA 0 []] [(0, (1, (.const (.v (.string ⟨#[98]⟩)))))]), o1 5 (.buildSlice 3 [[.v (.string ⟨#[]⟩),
  .v (.int .i64 0), .slice .aA 0 []], [.v (.string ⟨#[]⟩), .v (.int .i64 0), .slice .aA 0 []]] [(0, (t1 3)), (1, (t1 4))]), o1 6 (.build [.v (.int .i64 0), .v (.int .i64 0)] [(1, (1, (i1 5)))]),
  o1 7 (.buildSlice 1 [[.v (.int .i64 0)]] [(0, (i1 0))]), o1 8 (.build [.v (.string ⟨#[]⟩), .v (.int .i64 0), .v (.int .i64 0), .v (.int .i64 0), .v (.int .i64 0), .slice .aA 0 [], .v (.int .i64
  0)] [(0, (1, (.const (.v (.string ⟨#[109, 97, 114, 115]⟩))))), (1, (2, (t1 6))), (3, (1, (i1 3))), (4, (1, (i1 10))), (5, (1, (t1 7))), (6, (1, (i1 1)))]), o1 9 (.build [.v (.int .i64 0), .v (.int
  .i64 0)] [(1, (1, (i1 4)))]), o1 10 (.buildSlice 1 [[.v (.int .i64 0)], [.v (.int .i64 0)]] [(0, (i1 0)), (1, (i1 1))]), o1 11 (.build [.v (.string ⟨#[]⟩), .v (.int .i64 0), .v (.int .i64 0), .v
  (.int .i64 0), .v (.int .i64 0), .slice .aA 0 [], .v (.int .i64 0)] [(0, (1, (.const (.v (.string ⟨#[109, 111, 111, 110]⟩))))), (1, (2, (t1 9))), (3, (1, (i1 2))), (4, (1, (i1 7))), (5, (1, (t1
  10))),(6,(1,(i1 1)))]),o1 12 (.build [.v (.int .i64 0),.v (.int .i64 0)] [(1,(1,(i1 9)))]),o1 13 (.buildSlice 1 [[.v (.int .i64 0)],[.v (.int .i64 0)]] [(0,(i1 0)),(1,(i1 1))]),o1 14
  (.build [.v (.string ⟨#[]⟩), .v (.int .i64 0), .v (.int .i64 0), .v (.int .i64 0), .v (.int .i64 0), .slice .aA 0 [], .v (.int .i64 0)] [(0, (1, (.const (.v (.string ⟨#[109, 97, 114, 115]⟩))))),
  (1, (2, (t1 12))), (3, (1, (i1 4))), (4, (1, (i1 6))), (5, (1, (t1 13))), (6, (1, (i1 2)))]), o1 15 (.buildSlice 7 [[.v (.string ⟨#[]⟩), .v (.int .i64 0), .v (.int .i64 0), .v (.int .i64 0), .v
  (.int .i64 0), .slice .aA 0 [], .v (.int .i64 0)], [.v (.string ⟨#[]⟩), .v (.int .i64 0), .v (.int .i64 0), .v (.int .i64 0), .v (.int .i64 0), .slice .aA 0 [], .v (.int .i64 0)], [.v (.string
  ⟨#[]⟩), .v (.int .i64 0), .v (.int .i64 0), .v (.int .i64 0), .v (.int .i64 0), .slice .aA 0 [], .v (.int .i64 0)]] [(0, (t1 8)), (1, (t1 11)), (2, (t1 14))]), o1 16 (.build [.v (.int .i64 0),
  .slice .aA 0 [],.slice .aA 0 []] [(0,(1,(i1 10))),(1,(1,(t1 5))),(2,(1,(t1 15)))]),sT 3 0 16]) .ret))
abbrev au6:=aY [(.cell true 3 0)] false
def Ea:aJ:=.code 0 17 Ue [(.cell true 3 0)] false
-- 21
def IU : aw := (sq (rF [m1 41 3, o1 42 (cF 49 [t1 41, .const (.v (.string ⟨#[32]⟩))]), m1 2 42]) .ret)
def Nr:aw:=(rF [o1 40 (aK .add 11 1),m1 11 40])
def Ns : aw := (rF [m1 36 3, m1 37 6, o1 38 (.buildSlice 1 [[.v (.string ⟨#[]⟩)]] [(0, (t1 37))]), o1 39 (.append 1 (t1 36) (t1 38)), m1 3 39])
def IQ:aw:=(sq (rF [o1 27 (aX .lss 26 25)]) (sq (cn 27 .skip (.exit 2)) (sq (.block 3 (sq (rF [o1 28 (iX 1 24 26),lF 29 1 28,m1 8 29]) (rF [m1 30 6,m1 31 8,o1 32 (cF 48 [t1
  31]), o1 33 (.arith .add (.const (.v (.string ⟨#[43]⟩))) (t1 32)), o1 34 (aX .add 30 33), m1 6 34]))) (rF [o1 35 (aK .add 26 1), m1 26 35]))))
def Dy:aw:=(sq (rF [o1 12 (aX .lss 11 10)]) (sq (cn 12 .skip (.exit 0)) (sq (.block 1 (sq (rF [o1 13 (iX 3 9 11),lT 14 3 13,o1 5 (.alloc [.v (.int .i64 0),.v (.int .i64 0),
  .slice .aA 0 []]), sT 3 5 14]) (sq (rT [fA 15 0 5, lF 16 1 15, o1 17 (.call true 48 [t1 16]), o1 18 (.arith .add (t1 17) (.const (.v (.string ⟨#[64]⟩)))), fA 19 1 5, lF 20 1 19, o1 21 (cF 48 [t1
  20]),o1 22 (aX .add 18 21),m1 6 22]) (sq (sq (rF [fA 23 2 5,lF 24 1 23,o1 25 (nX 24),o1 26 (mI 0)]) (.block 2 (.loop IQ))) Ns)))) Nr)))
def Us : aw := (sq (rF [o1 2 (.move (.const (.v (.string ⟨#[]⟩))))]) (sq (rF [o1 3 (.move (.const (.slice .aA 0 [])))]) (sq (sq (rF [m1 9 0, o1 10 (nX 9), o1 11 (mI 0)]) (.block 0
  (.loop Dy))) IU)))
abbrev anO:List K:=[.blk 2,.c Ns,.blk 1,.c Nr,.lp Dy,.blk 0,.c IU]
abbrev anN:List K:=[.blk 0,.c IU]
abbrev WD:=aY [(.tmp 2)] false
def Ex:aJ:=.code 1 43 Us [(.tmp 2)] false
-- 22
def MX:aw:=(sq (rF [o1 2 (mB true)]) .ret)
def AL:aw:=(sq (sq (rF [m1 40 4,fA 41 2 1,lF 42 1 41,o1 43 (nX 42),o1 44 (aX .lss 40 43)]) (cn 44 .skip (.exit 2))) (sq (.block 3 (sq (rF [fA 47 2 1,lF 48 1 47,m1 49 4,o1 50 (iX
  7 48 49),fA 51 0 50,lF 52 1 51,o1 53 (.len true (t1 52)),o1 54 (aK .gtr 53 20),m1 55 54,gF 56 55 (fX 2 1),gF 57 55 (lX 1 56),gF 58 55 (mX 4),gF 59 55 (iX 7 57 58),gF 60 55 (fX 5 59),gF 61
  55 (lX 1 60),gF 62 55 (nX 61),gF 63 55 (aK .gtr 62 6),o1 64 (pB 55 63)]) (cn 64 (sq (rF [o1 2 (mB false)]) .ret) .skip))) (rF [m1 45 4,o1 46 (aK .add 45 1),m1 4 46])))
def MY:aw:=(sq (sq (rF [o1 4 (mI 0)]) (.block 2 (.loop AL))) MX)
def AN:aw:=(sq (sq (rF [m1 15 3,fA 16 1 1,lF 17 1 16,o1 18 (nX 17),o1 19 (aX .lss 15 18)]) (cn 19 .skip (.exit 0))) (sq (.block 1 (sq (rF [fA 22 1 1,lF 23 1 22,m1 24 3,o1 25 (iX
  3 23 24),fA 26 0 25,lF 27 1 26,o1 28 (.len true (t1 27)),o1 29 (aK .gtr 28 20),m1 30 29,gF 31 30 (fX 1 1),gF 32 30 (lX 1 31),gF 33 30 (mX 3),gF 34 30 (iX 3 32 33),gF 35 30 (fX 2 34),gF 36
  30 (lX 1 35),gF 37 30 (nX 36),gF 38 30 (aK .gtr 37 8),o1 39 (pB 30 38)]) (cn 39 (sq (rF [o1 2 (mB false)]) .ret) .skip))) (rF [m1 20 3,o1 21 (aK .add 20 1),m1 3 21])))
def Iu:aw:=(sq (rF [o1 1 (.box 3 (t1 0)),o1 2 (mB false)]) (sq (sq (rF [fA 5 1 1,lF 6 1 5,o1 7 (nX 6),o1 8 (aK .gtr 7 6),m1 9 8,gF 10 9 (fX 2 1),gF 11 9 (lX 1 10),gF 12 9 (nX 11),
  gF 13 9 (aK .gtr 12 14),o1 14 (pB 9 13)]) (cn 14 (sq (rF [o1 2 (mB false)]) .ret) .skip)) (sq (sq (rF [o1 3 (mI 0)]) (.block 0 (.loop AN))) MY)))
abbrev anh:List K:=[.blk 2,.c MX]
abbrev ani:List K:=[.blk 0,.c MY]
abbrev Ws:=aY [(.tmp 2)] false
def D9:aJ:=.code 1 65 Iu [(.tmp 2)] false
-- 23
def IG:aw:=(sq (rF [m1 26 5,m1 4 26]) .ret)
def Dp:aw:=(sq (sq (rF [m1 7 6,fA 8 2 2,lF 9 1 8,o1 10 (nX 9),o1 11 (aX .lss 7 10),m1 12 11,gT 13 12 (mX 5),gT 14 12 (mX 1),gT 15 12 (aX .leq 13 14),o1 16 (pA 12 15)]) (cn 16
  .skip (.exit 0))) (sq (.block 1 (rF [m1 19 5,lT 20 3 2,m1 21 6,o1 22 (cF 45 [t1 20,t1 21]),o1 23 (nX 22),o1 24 (.arith .add (i1 1) (t1 23)),o1 25 (aX .mul 19 24),m1 5 25])) (rF [m1 17 6,o1
  18 (aK .add 17 1),m1 6 18])))
def Un:aw:=(sq (rF [o1 2 (.box 3 (t1 0)),o1 4 (mI 0)]) (sq (rF [o1 5 (mI 1)]) (sq (sq (rF [o1 6 (mI 0)]) (.block 0 (.loop Dp))) IG)))
abbrev anA:List K:=[.blk 0,.c IG]
abbrev agr:=aY [(.tmp 4)] false
def Em:aJ:=.code 2 27 Un [(.tmp 4)] false
-- 24
def Um:aw:=(sq (rF [o1 1 (.box 3 (t1 0)),o1 2 (mI 0)]) (sq (rF [lT 6 3 1,o1 7 (cF 50 [t1 6]),m1 5 7,o1 8 (eX 0 5),o1 9 (eX 1 5),o1 3 (.alloc [.v (.int .i64 0),.v (.int .i64
  0)]),sT 2 3 8,m1 4 9]) (sq (rF [m1 10 4,m1 2 10]) .ret)))
abbrev au8:=aY [(.tmp 2)] false
def El:aJ:=.code 1 11 Um [(.tmp 2)] false
-- 25
def MP:aw:=(sq (rF [o1 2 (.move (.const (.slice .aA 0 [])))]) (sq (rF [o1 3 (.buildSlice 2 [] []),m1 4 0,o1 5 (.append 2 (t1 3) (t1 4)),m1 2 5]) .ret))
abbrev au1:=aY [(.tmp 2)] false
def DY:aJ:=.code 1 6 MP [(.tmp 2)] false
-- 26
def C6:aw:=(sq (rF [o1 2 (.move (.const (.slice .aA 0 [])))]) (sq (rF [o1 3 (.buildSlice 1 [] []),m1 4 0,o1 5 (.append 1 (t1 3) (t1 4)),m1 2 5]) .ret))
abbrev au0:=aY [(.tmp 2)] true
def wN:aJ:=.code 1 6 C6 [(.tmp 2)] true
-- 27
def NG:aw:=(sq (rF [o1 1 (.box 3 (t1 0)),o1 2 (.move (.const (.v (.pointer none)))),o1 3 (mI 0)]) (sq (rF [lT 9 3 1,o1 10 (cF 51 [t1 9]),m1 8 10,o1 11 (eX 0 8),o1 12 (eX 1 8),
  m1 4 11,m1 5 12]) (sq (sq (rF [m1 13 5,o1 14 (aK .neq 13 0)]) (cn 14 (sq (rF [m1 15 5,o1 2 (.move (.const (.v (.pointer none)))),m1 3 15]) .ret) .skip)) (sq (rF [o1 6 (.move (.const (.fn 52 []
  [])))]) (sq (rF [fA 16 2 1,lF 17 1 16,o1 18 (nX 17),o1 19 (aK .leq 18 6),m1 20 19,gT 21 20 (fX 2 1),gT 22 20 (lX 1 21),gT 23 20 (mX 6),gT 24 20 (cF 53 [t1 22,t1 23]),gT 25 20 (uX 24),o1
  26 (pA 20 25),m1 7 26]) (sq (rF [m1 27 4,m1 28 7,o1 29 (cF 39 [t1 28,i1 8]),m1 2 27,m1 3 29]) .ret))))))
abbrev avj:=aY [(.tmp 2),(.tmp 3)] false
def Bc:aJ:=.code 1 30 NG [(.tmp 2),(.tmp 3)] false
-- 28
def Ja:aw:=(sq (rF [lT 26 2 3,sT 2 2 26]) .ret)
def uQ:aw:=(sq (rF [o1 14 (aX .lss 13 12)]) (sq (cn 14 .skip (.exit 0)) (sq (.block 1 (sq (rF [m1 15 13,m1 4 15]) (rT [fA 16 1 3,lF 17 1 16,m1 18 0,m1 19 4,o1 20 (.tu 54 [t1
  18,.const (.slice .aA 0 []),t1 19]),o1 21 (.build [.slice .aA 0 [],.v (.bool false)] [(0,(1,(t1 20))),(1,(1,bT))]),o1 22 (.sV 2 (t1 21)),o1 23 (.rU 2 (t1 17) (t1 22) (t1
  16)),fA 24 1 3,sT 1 24 23]))) (rF [o1 25 (aK .add 13 1),m1 13 25]))))
def NT:aw:=(sq (rF [o1 2 (.alloc [.v (.pointer none),.slice .aA 0 []])]) (sq (rF [m1 5 0,o1 6 (.build [.v (.pointer none),.slice .aA 0 []] [(0,(1,(t1 5)))]),o1 3 (.alloc [.v
  (.pointer none),.slice .aA 0 []]),sT 2 3 6]) (sq (sq (rF [m1 7 0,o1 8 (.nilCheck (t1 7)),fA 9 0 8,fA 10 2 9,lF 11 1 10,o1 12 (nX 11),o1 13 (mI 0)]) (.block 0 (.loop uQ)))
  Ja)))
abbrev KY:List K:=[.blk 0,.c Ja]
abbrev agB:=aY [(.cell true 2 2)] false
def Be:aJ:=.code 1 27 NT [(.cell true 2 2)] false
-- 29
def Da:aw:=(sq (sq (rF [m1 61 5,m1 62 10,o1 63 (cF 57 [t1 61,t1 62])]) (cn 63 (sq (rF [m1 64 9,m1 65 6,m1 2 64,m1 3 65,o1 4 (mB true)]) .ret) .skip)) (sq (rF [lT 67 2 1,m1 68
  9,m1 69 10,m1 70 5,o1 71 (cF 58 [t1 67,t1 68,t1 69,t1 70]),m1 66 71,o1 72 (eX 0 66),o1 73 (eX 1 66),o1 13 (.alloc [.v (.int .i64 0),.v (.int .i64 0),.slice .aA 0 []]),sT 3 13 72,m1
  14 73]) (sq (sq (rF [m1 74 14,o1 75 (uX 74)]) (cn 75 (sq (rF [m1 76 9,m1 77 6,m1 2 76,m1 3 77,o1 4 (mB true)]) .ret) .skip)) (rF [m1 78 9,lT 79 3 13,o1 80 (.buildSlice 3 [[.v (.int .i64 0),
  .v (.int .i64 0),.slice .aA 0 []]] [(0,(t1 79))]),o1 81 (.append 3 (t1 78) (t1 80)),m1 9 81]))))
def AF:aw:=(sq (rF [o1 52 (aX .lss 51 50)]) (sq (cn 52 .skip (.exit 4)) (sq (.block 5 (sq (rF [o1 53 (iX 3 49 51),lT 54 3 53,o1 12 (.alloc [.v (.int .i64 0),.v (.int .i64 0),.slice
  .aA 0 []]),sT 3 12 54]) (rF [m1 55 10,fA 56 0 12,lF 57 1 56,o1 58 (.arith .shl (i1 1) (t1 57)),o1 59 (aX .or 55 58),m1 10 59]))) (rF [o1 60 (aK .add 51 1),m1 51 60]))))
def Ij:aw:=(.block 3 (sq (rF [o1 10 (mI 0)]) (sq (sq (rF [m1 49 9,o1 50 (nX 49),o1 51 (mI 0)]) (.block 4 (.loop AF))) Da)))
def Ik:aw:=(sq (sq (rF [m1 47 6,o1 48 (aK .lss 47 0)]) (cn 48 (sq (rF [o1 2 (.move (.const (.slice .aA 0 []))),o1 3 (mI 0),o1 4 (mB false)]) .ret) .skip)) (sq (rF [o1 9 (.move
  (.const (.slice .aA 0 [])))]) (.block 2 (.loop Ij))))
def uM:aw:=(sq (rF [o1 20 (aX .lss 19 18)]) (sq (cn 20 .skip (.exit 0)) (sq (.block 1 (sq (rF [m1 21 19,m1 7 21]) (sq (rF [lT 22 2 1,m1 23 7,o1 24 (cF 55 [t1 22,t1 23]),m1 8 24])
  (sq (rF [m1 25 8,m1 26 6,o1 27 (aX .geq 25 26),m1 28 27,gT 29 28 (lY 2 1),gT 30 28 (mX 7),gT 31 28 (cF 56 [t1 29,t1 30]),o1 32 (pA 28 31),m1 33 32,gT 34 33 (lY 2 1),gT 35 33 (mX 7),gT 36
  33 (cF 40 [t1 34,.const (.slice .aA 0 []),t1 35]),o1 37 (pA 33 36)]) (cn 37 (sq (sq (rF [m1 38 8,m1 39 6,o1 40 (aX .gtr 38 39)]) (cn 40 (rF [m1 41 8,o1 5 (.move (.const (.slice .aA 0
  []))),m1 6 41]) .skip)) (rF [m1 42 5,m1 43 7,o1 44 (.buildSlice 1 [[.v (.int .i64 0)]] [(0,(t1 43))]),o1 45 (.append 1 (t1 42) (t1 44)),m1 5 45])) .skip))))) (rF [o1 46 (aK .add 19 1),m1 19
  46]))))
def T9:aw:=(sq (rF [o1 1 (.box 2 (t1 0)),o1 2 (.move (.const (.slice .aA 0 []))),o1 3 (mI 0),o1 4 (mB false)]) (sq (rF [o1 5 (.move (.const (.slice .aA 0 [])))]) (sq (rF [o1 6 (mI
  (-1))]) (sq (sq (rF [fA 15 1 1,lF 16 1 15,o1 17 (nX 16),o1 18 (.arith .shl (i1 1) (t1 17)),o1 19 (mI 0)]) (.block 0 (.loop uM))) Ik))))
abbrev am8:List K:=[.blk 4,.c Da,.blk 3,.lp Ij,.blk 2]
abbrev am7:List K:=[.blk 2]
abbrev am9:List K:=[.blk 0,.c Ik]
abbrev OB:=aY [(.tmp 2),(.tmp 3),(.tmp 4)] false
def D3:aJ:=.code 1 82 T9 [(.tmp 2),(.tmp 3),(.tmp 4)] false
-- 30
def M0:aw:=(sq (rF [o1 4 (mI 0),o1 5 (mI 0)]) .ret)
def Dd:aw:=(sq (sq (rF [m1 8 6,m1 9 1,o1 10 (nX 9),o1 11 (aX .lss 8 10)]) (cn 11 .skip (.exit 0))) (sq (.block 1 (sq (rF [lT 14 3 2,m1 15 1,m1 16 6,o1 17 (cF 59 [t1 14,t1
  15,t1 16]),m1 7 17]) (sq (rF [m1 18 7,o1 19 (aK .neq 18 0)]) (cn 19 (sq (rF [m1 20 6,m1 21 7,m1 4 20,m1 5 21]) .ret) .skip)))) (rF [m1 12 6,o1 13 (aK .add 12 1),m1 6 13])))
def Ug:aw:=(sq (rF [o1 2 (.box 3 (t1 0)),o1 4 (mI 0),o1 5 (mI 0)]) (sq (sq (rF [o1 6 (mI 0)]) (.block 0 (.loop Dd))) M0))
abbrev ank:List K:=[.blk 0,.c M0]
abbrev agl:=aY [(.tmp 4),(.tmp 5)] false
def Ec:aJ:=.code 2 22 Ug [(.tmp 4),(.tmp 5)] false
-- 31
def NN:aw:=(sq (rF [o1 4 (mI 0),o1 5 (mI 0)]) .ret)
def DK:aw:=(sq (rF [o1 12 (aX .lss 11 10)]) (sq (cn 12 .skip (.exit 0)) (sq (.block 1 (sq (rF [m1 13 11,o1 14 (iX 3 9 11),lT 15 3 14,o1 7 (.alloc [.v (.int .i64 0),.v (.int .i64
  0),.slice .aA 0 []]),m1 6 13,sT 3 7 15]) (sq (rT [m1 16 0,lT 17 3 7,m1 18 1,m1 19 6,o1 20 (.slice (.sl 3) (t1 18) none (some (t1 19)) none),o1 21 (cF 60 [t1 16,t1 17,t1 20]),m1 8 21])
  (sq (rF [m1 22 8,o1 23 (aK .neq 22 0)]) (cn 23 (sq (rF [m1 24 6,m1 25 8,m1 4 24,m1 5 25]) .ret) .skip))))) (rF [o1 26 (aK .add 11 1),m1 11 26]))))
def UJ:aw:=(sq (rF [o1 4 (mI 0),o1 5 (mI 0)]) (sq (sq (rF [m1 9 1,o1 10 (nX 9),o1 11 (mI 0)]) (.block 0 (.loop DK))) NN))
abbrev an2:List K:=[.blk 0,.c NN]
abbrev agA:=aY [(.tmp 4),(.tmp 5)] false
def ET:aJ:=.code 2 27 UJ [(.tmp 4),(.tmp 5)] false
-- 32
def NA:aw:=(sq (rF [o1 2 (mI 0)]) .ret)
def I3:aw:=(sq (rF [o1 8 (aX .lss 7 6)]) (sq (cn 8 .skip (.exit 0)) (sq (.block 1 (sq (rF [o1 9 (iX 1 5 7),lF 10 1 9,m1 4 10]) (sq (rF [m1 11 4,o1 12 (aK .neq 11 0)]) (cn 12 (sq
  (rF [m1 13 4,m1 2 13]) .ret) .skip)))) (rF [o1 14 (aK .add 7 1),m1 7 14]))))
def Uv:aw:=(sq (rF [o1 2 (mI 0)]) (sq (sq (rF [m1 5 0,o1 6 (nX 5),o1 7 (mI 0)]) (.block 0 (.loop I3))) NA))
abbrev anV:List K:=[.blk 0,.c NA]
abbrev agw:=aY [(.tmp 2)] false
def EB:aJ:=.code 1 15 Uv [(.tmp 2)] false
-- 33
def UT:aw:=(sq (rF [o1 4 (mI 0)]) (sq (rF [m1 5 1,m1 6 0,o1 7 (.nilCheck (t1 6)),fA 8 0 7,fA 9 2 8,lF 10 1 9,o1 11 (nX 10),o1 12 (aK .sub 11 1),o1 13 (cF 61 [t1 5,i1 0,t1
  12]),o1 14 (cF 39 [t1 13,i1 6]),m1 4 14]) .ret))
abbrev avB:=aY [(.tmp 4)] false
def E5:aJ:=.code 2 15 UT [(.tmp 4)] false
-- 34
def NC:aw:=(sq (rF [m1 20 3,m1 2 20]) .ret)
def yv:aw:=(sq (sq (rF [m1 5 0,m1 6 4,o1 7 (aX .shr 5 6),o1 8 (aK .gtr 7 0)]) (cn 8 .skip (.exit 0))) (sq (.block 1 (sq (rF [m1 11 0,m1 12 4,o1 13 (aX .shr 11 12),o1 14 (aK
  .and 13 1),o1 15 (aK .eql 14 1)]) (cn 15 (rF [m1 16 3,m1 17 4,o1 18 (.buildSlice 1 [[.v (.int .i64 0)]] [(0,(t1 17))]),o1 19 (.append 1 (t1 16) (t1 18)),m1 3 19]) .skip))) (rF [m1 9 4,o1 10
  (aK .add 9 1),m1 4 10])))
def Uz:aw:=(sq (rF [o1 2 (.move (.const (.slice .aA 0 [])))]) (sq (rF [o1 3 (.move (.const (.slice .aA 0 [])))]) (sq (sq (rF [o1 4 (mI 0)]) (.block 0 (.loop yv)))
  NC)))
abbrev Zc:List K:=[.blk 0,.c NC]
abbrev WG:=aY [(.tmp 2)] false
def EF:aJ:=.code 1 21 Uz [(.tmp 2)] false
-- 35
def Uw:aw:=(sq (rF [o1 2 (.box 1 (t1 0)),o1 3 (.box 1 (t1 1)),o1 4 (.move (.const (.v .nilFunc)))]) (sq (rF [o1 5 (.oL 62 [] [t1 3,t1 2]),m1 4 5]) .ret))
abbrev avg:=aY [(.tmp 4)] false
def EC:aJ:=.code 2 6 Uw [(.tmp 4)] false
-- 36
def NM:aw:=(sq (rF [lT 76 2 9,sT 2 8 76]) .ret)
def mN:aw:=(sq (rF [o1 21 (aX .lss 20 19)]) (sq (cn 21 .skip (.exit 0)) (sq (.block 1 (sq (rF [m1 22 20,m1 10 22]) (sq (rF [m1 24 1,m1 25 10,o1 26 (cF 65 [t1 24,t1 25]),m1 23
  26,o1 27 (eX 0 23),o1 28 (eX 1 23),o1 11 (.alloc [.v (.int .i64 0),.v (.int .i64 0),.slice .aA 0 []]),o1 12 (.alloc [.v (.bool false)]),sT 3 11 27,sT 1 12 28]) (sq (rF [o1 29 (.oL 66 []
  [t1 12,t1 11]),m1 13 29]) (sq (rF [fA 30 1 9,lF 31 1 30,m1 32 10,o1 33 (iX 2 31 32),m1 14 33]) (.block 2 (sq (rF [m1 44 2,m1 45 10,o1 46 (cF 57 [t1 44,t1 45]),m1 43 46]) (cn 43 (rT [m1 47
  14,m1 48 14,m1 49 14,o1 50 (.nilCheck (t1 49)),fA 51 0 50,lF 52 1 51,m1 53 13,o1 54 (.qK 67 [t1 52,t1 53] [(false,(1,12))]),lF 55 1 12,m1 56 55,gT 57 56 (mX 10),gT 58 56 (mX 3),gT
  59 56 (aX .neq 57 58),o1 60 (pA 56 59),o1 61 (.nilCheck (t1 47)),fA 62 0 61,sT 1 62 54,o1 63 (.nilCheck (t1 48)),fA 64 1 63,sT 1 64 60]) (sq (rF [lF 66 1 12,m1 65 66]) (cn 65 (rF [m1 67 14,
  m1 68 14,lT 69 3 11,o1 70 (.sV 3 (t1 69)),o1 71 (.nilCheck (t1 67)),fA 72 0 71,sT 1 72 70,o1 73 (.nilCheck (t1 68)),fA 74 1 73,⟨none,none,(.store 1 (t1 74) bF)⟩]) (rF [m1 34 14,m1 35
  14,m1 36 10,m1 37 3,o1 38 (aX .neq 36 37),o1 39 (.nilCheck (t1 34)),fA 40 0 39,⟨none,none,(.store 1 (t1 40) (.const (.slice .aA 0 [])))⟩,o1 41 (.nilCheck (t1 35)),fA 42 1 41,sT 1 42
  38]))))))))))) (rF [o1 75 (aK .add 20 1),m1 20 75]))))
def UI:aw:=(sq (rF [o1 8 (.alloc [.v (.pointer none),.slice .aA 0 []])]) (sq (rF [m1 15 0,o1 16 (.wQ 28 [t1 15]),o1 9 (.alloc [.v (.pointer none),.slice .aA 0 []]),sT 2 9
  16]) (sq (sq (rF [fA 17 1 9,lF 18 1 17,o1 19 (nX 18),o1 20 (mI 0)]) (.block 0 (.loop mN))) NM)))
abbrev vJ:List K:=[.blk 0,.c NM]
abbrev u3:=aY [(.cell true 2 8)] false
def ER:aJ:=.code 4 77 UI [(.cell true 2 8)] false
-- 37
def Jc:aw:=(sq (sq (rF [m1 34 0,o1 35 (nX 34),m1 36 1,o1 37 (nX 36),o1 38 (aX .lss 35 37)]) (cn 38 (sq (rF [o1 6 (mI (-1))]) .ret) .skip)) (sq (rF [o1 6 (mI
  0)]) .ret))
def yz:aw:=(sq (rF [o1 14 (aX .lss 13 12)]) (sq (cn 14 .skip (.exit 0)) (sq (.block 1 (sq (rF [m1 15 13,o1 16 (iX 3 11 13),lT 17 3 16,o1 8 (.alloc [.v (.int .i64
  0),.v (.int .i64 0),.slice .aA 0 []]),m1 7 15,sT 3 8 17]) (sq (sq (rF [m1 18 7,m1 19 1,o1 20 (nX 19),o1 21 (aX .geq 18 20)]) (cn 21 (sq (rF [o1 6 (mI 1)]) .ret) .skip)) (sq (rF [m1 22 1,m1
  23 7,o1 24 (iX 3 22 23),lT 25 3 24,o1 9 (.alloc [.v (.int .i64 0),.v (.int .i64 0),.slice .aA 0 []]),sT 3 9 25]) (sq (rF [m1 26 2,lT 27 3 8,lT 28 3 9,o1 29 (.kB false (t1 26) [t1 27,
  t1 28]),m1 10 29]) (sq (rF [m1 30 10,o1 31 (aK .neq 30 0)]) (cn 31 (sq (rF [m1 32 10,m1 6 32]) .ret) .skip))))))) (rF [o1 33 (aK .add 13 1),m1 13 33]))))
def UW:aw:=(sq (rF [o1 6 (mI 0)]) (sq (sq (rF [m1 11 0,o1 12 (nX 11),o1 13 (mI 0)]) (.block 0 (.loop yz)))
  Jc))
abbrev an9:List K:=[.blk 0,.c Jc]
abbrev agE:=aY [(.tmp 6)] false
def E8:aJ:=.code 3 39 UW [(.tmp 6)] false
-- 38
def I1:aw:=(sq (rF [o1 2 (.box 3 (t1 0)),o1 3 (.box 3 (t1 1)),o1 4 (mI 0)]) (sq (sq (rF [fA 5 0 2,lF 6 1 5,fA 7 0 3,lF 8 1 7,o1 9 (aX .neq 6 8)]) (cn 9 (sq (rF [fA 10 0 2,lF 11
  1 10,fA 12 0 3,lF 13 1 12,o1 14 (aX .sub 11 13),m1 4 14]) .ret) .skip)) (sq (sq (rF [fA 15 1 2,lF 16 1 15,fA 17 1 3,lF 18 1 17,o1 19 (aX .neq 16 18)]) (cn 19 (sq (rF [fA 20 1 2,lF 21 1 20,
  fA 22 1 3,lF 23 1 22,o1 24 (aX .sub 21 23),m1 4 24]) .ret) .skip)) (sq (rF [fA 25 2 2,lF 26 1 25,fA 27 2 3,lF 28 1 27,o1 29 (cF 68 [t1 26,t1 28]),m1 4 29]) .ret))))
abbrev avf:=aY [(.tmp 4)] false
def yM:aJ:=.code 2 30 I1 [(.tmp 4)] false
-- 39
def UF:aw:=(sq (rF [o1 4 (mI 0)]) (sq (sq (rF [m1 5 0]) (cn 5 (sq (rF [o1 4 (mI 0)]) .ret) .skip)) (sq (rF [m1 6 1,m1 4 6]) .ret)))
abbrev avp:=aY [(.tmp 4)] false
def EN:aJ:=.code 2 7 UF [(.tmp 4)] false
-- 40
def Im:aw:=(sq (rF [fA 52 0 3,lF 53 1 52,m1 54 7,o1 55 (cF 70 [t1 53,t1 54]),m1 6 55]) .ret)
def Io:aw:=(rF [o1 51 (aK .add 18 1),m1 18 51])
def MT:aw:=(rF [m1 47 7,m1 48 12,o1 49 (.buildSlice 1 [[.slice .aA 0 []]] [(0,(t1 48))]),o1 50 (.append 1 (t1 47) (t1 49)),m1 7 50])
def Il:aw:=(sq (rF [o1 38 (aX .lss 37 36)]) (sq (cn 38 .skip (.exit 2)) (sq (.block 3 (sq (rF [o1 39 (iX 3 35 37),lT 40 3 39,o1 14 (.alloc [.v (.int .i64 0),.v (.int .i64 0),.slice
  .aA 0 []]),sT 3 14 40]) (rF [fA 41 0 3,lF 42 1 41,m1 43 12,lT 44 3 14,o1 45 (cF 69 [t1 42,t1 43,t1 44]),m1 12 45]))) (rF [o1 46 (aK .add 37 1),m1 37 46]))))
def AH:aw:=(sq (rF [o1 19 (aX .lss 18 17)]) (sq (cn 19 .skip (.exit 0)) (sq (.block 1 (sq (rF [o1 20 (iX 1 16 18),lF 21 1 20,m1 9 21]) (sq (sq (rF [m1 23 1,m1 24 9,o1 25 (cF 65 [t1
  23,t1 24]),m1 22 25,o1 26 (eX 0 22),o1 27 (eX 1 22),o1 10 (.alloc [.v (.int .i64 0),.v (.int .i64 0),.slice .aA 0 []]),sT 3 10 26,m1 11 27]) (sq (rF [m1 28 11]) (cn 28 (.exit 1) .skip)))
  (sq (rF [fA 29 1 3,lF 30 1 29,m1 31 9,o1 32 (iX 2 30 31),fA 33 0 32,lF 34 1 33,m1 12 34]) (sq (sq (rF [m1 35 1,o1 36 (nX 35),o1 37 (mI 0)]) (.block 2 (.loop Il))) MT)))))
  Io)))
def Ua:aw:=(sq (rF [o1 3 (.box 2 (t1 0)),o1 6 (mB false)]) (sq (rF [o1 7 (.move (.const (.slice .aA 0 [])))]) (sq (sq (rF [m1 15 2,o1 16 (cF 34 [t1 15]),o1 17 (nX 16),o1 18 (mI 0)])
  (.block 0 (.loop AH))) Im)))
abbrev anb:List K:=[.blk 2,.c MT,.blk 1,.c Io,.lp AH,.blk 0,.c Im]
abbrev ana:List K:=[.blk 0,.c Im]
abbrev Wr:=aY [(.tmp 6)] false
def D4:aJ:=.code 3 56 Ua [(.tmp 6)] false
-- 41
def NF:aw:=(sq (rF [o1 2 (.box 3 (t1 0)),o1 4 (.move (.const (.v (.pointer none)))),o1 5 (mI 0),o1 6 (mI 0)]) (sq (rF [lT 11 3 2,o1 12 (cF 51 [t1 11]),m1 10 12,o1 13 (eX 0 10),
  o1 14 (eX 1 10),m1 7 13,m1 8 14]) (sq (sq (rF [m1 15 8,o1 16 (aK .neq 15 0)]) (cn 16 (sq (rF [m1 17 8,o1 4 (.move (.const (.v (.pointer none)))),o1 5 (mI 0),m1 6 17]) .ret) .skip)) (sq (rF [m1
  19 7,m1 20 1,o1 21 (cF 31 [t1 19,t1 20]),m1 18 21,o1 22 (eX 0 18),o1 23 (eX 1 18),m1 9 22,m1 8 23]) (sq (rF [m1 24 7,m1 25 9,m1 26 8,m1 4 24,m1 5 25,m1 6 26]) .ret)))))
abbrev avi:=aY [(.tmp 4),(.tmp 5),(.tmp 6)] false
def EG:aJ:=.code 2 27 NF [(.tmp 4),(.tmp 5),(.tmp 6)] false
-- 42
def DE:aw:=(sq (rF [o1 6 (mB false)]) (sq (rF [m1 12 0,m1 13 2,o1 14 (cF 65 [t1 12,t1 13]),m1 11 14,o1 15 (eX 0 11),o1 16 (eX 1 11),o1 7 (.alloc [.v (.int .i64 0),.v (.int .i64
  0),.slice .aA 0 []]),sT 3 7 15,m1 8 16]) (sq (rF [m1 18 1,m1 19 2,o1 20 (cF 65 [t1 18,t1 19]),m1 17 20,o1 21 (eX 0 17),o1 22 (eX 1 17),o1 9 (.alloc [.v (.int .i64 0),.v (.int .i64 0),
  .slice .aA 0 []]),sT 3 9 21,m1 10 22]) (sq (rF [m1 23 8,m1 24 10,o1 25 (.eqv true .bool (t1 23) (t1 24)),m1 26 25,gF 27 26 (lY 3 7),gF 28 26 (lY 3 9),gF 29 26 (cF 38 [t1 27,t1 28]),gF 30
  26 (aK .neq 29 0),o1 31 (pB 26 30),m1 6 31]) .ret))))
abbrev ave:=aY [(.tmp 6)] false
def EA:aJ:=.code 3 32 DE [(.tmp 6)] false
-- 43
def U4:aw:=(sq (rF [o1 4 (mB false)]) (sq (rF [m1 5 0,m1 6 1,o1 7 (cF 71 [t1 5,t1 6]),o1 8 (aK .geq 7 0),m1 4 8]) .ret))
abbrev avK:=aY [(.tmp 4)] false
def Fh:aJ:=.code 2 9 U4 [(.tmp 4)] false
-- 44
def IJ:aw:=(sq (rF [o1 2 (.box 3 (t1 0)),o1 3 (.box 3 (t1 1)),o1 4 (mI 0)]) (sq (rF [fA 7 0 2,lF 8 1 7,fA 9 1 2,lF 10 1 9,o1 11 (.buildSlice 1 [[.v (.int .i64 0)],[.v (.int .i64
  0)]] [(0,(t1 8)),(1,(t1 10))]),fA 12 2 2,lF 13 1 12,o1 14 (.append 1 (t1 11) (t1 13)),m1 5 14]) (sq (rF [fA 15 0 3,lF 16 1 15,fA 17 1 3,lF 18 1 17,o1 19 (.buildSlice 1 [[.v (.int .i64
  0)],[.v (.int .i64 0)]] [(0,(t1 16)),(1,(t1 18))]),fA 20 2 3,lF 21 1 20,o1 22 (.append 1 (t1 19) (t1 21)),m1 6 22]) (sq (sq (rF [m1 23 5,m1 24 6,o1 25 (cF 72 [t1 23,t1 24])]) (cn 25 (sq
  (rF [o1 4 (mI (-1))]) .ret) .skip)) (sq (sq (rF [m1 26 6,m1 27 5,o1 28 (cF 72 [t1 26,t1 27])]) (cn 28 (sq (rF [o1 4 (mI 1)]) .ret) .skip)) (sq (rF [o1 4 (mI 0)]) .ret))))))
abbrev ava:=aY [(.tmp 4)] false
def Ep:aJ:=.code 2 29 IJ [(.tmp 4)] false
-- 45
def IE:aw:=(sq (rF [m1 56 7,m1 4 56]) .ret)
def M9:aw:=(rF [m1 33 8,o1 34 (aK .add 33 1),m1 8 34])
def Dl:aw:=(sq (sq (rF [m1 35 9,m1 36 6,o1 37 (nX 36),o1 38 (aX .lss 35 37)]) (cn 38 .skip (.exit 2))) (sq (.block 3 (sq (rF [m1 41 1,m1 42 8,m1 43 6,m1 44 9,o1 45 (iX 1 43
  44),lF 46 1 45,o1 47 (.build [.v (.int .i64 0),.v (.int .i64 0),.slice .aA 0 []] [(0,(1,(t1 41))),(1,(1,(t1 42))),(2,(1,(t1 46)))]),o1 10 (.alloc [.v (.int .i64 0),.v (.int .i64 0),
  .slice .aA 0 []]),sT 3 10 47]) (sq (rF [lT 48 3 2,lT 49 3 10,o1 50 (cF 74 [t1 48,t1 49]),o1 51 (uX 50)]) (cn 51 (rF [m1 52 7,lT 53 3 10,o1 54 (.buildSlice 3 [[.v (.int .i64 0),.v (.int
  .i64 0),.slice .aA 0 []]] [(0,(t1 53))]),o1 55 (.append 3 (t1 52) (t1 54)),m1 7 55]) .skip)))) (rF [m1 39 9,o1 40 (aK .add 39 1),m1 9 40])))
def Dk:aw:=(sq (sq (rF [m1 24 8,fA 25 1 5,fA 26 1 25,lF 27 1 26,fA 28 3 5,lF 29 1 28,o1 30 (aX .sub 27 29),o1 31 (aK .add 30 1),o1 32 (aX .leq 24 31)]) (cn 32 .skip (.exit
  0))) (sq (.block 1 (sq (rF [o1 9 (mI 0)]) (.block 2 (.loop Dl)))) M9))
def Ul:aw:=(sq (rF [o1 2 (.box 3 (t1 0)),o1 4 (.move (.const (.slice .aA 0 [])))]) (sq (rF [fA 11 2 2,lF 12 1 11,m1 13 1,o1 14 (iX 7 12 13),lT 15 7 14,o1 5 (.alloc [.v
  (.string ⟨#[]⟩), .v (.int .i64 0), .v (.int .i64 0), .v (.int .i64 0), .v (.int .i64 0), .slice .aA 0 [], .v (.int .i64 0)]), sT 7 5 15]) (sq (rF [fA 16 5 5, lF 17 1 16, fA 18 6 5, lF 19 1 18, o1
  20 (cF 73 [t1 17,t1 19]),m1 6 20]) (sq (rF [o1 7 (.move (.const (.slice .aA 0 [])))]) (sq (sq (rF [fA 21 1 5,fA 22 0 21,lF 23 1 22,m1 8 23]) (.block 0 (.loop Dk)))
  IE)))))
abbrev anw:List K:=[.blk 2,.blk 1,.c M9,.lp Dk,.blk 0,.c IE]
abbrev anv:List K:=[.blk 0,.c IE]
abbrev Ww:=aY [(.tmp 4)] false
def Ek:aJ:=.code 2 57 Ul [(.tmp 4)] false
-- 46
def M4:aw:=(sq (rF [o1 6 (mB false)]) .ret)
def wD:aw:=(sq (sq (rF [m1 43 10,fA 44 2 4,lF 45 1 44,o1 46 (nX 45),o1 47 (aX .lss 43 46)]) (cn 47 .skip (.exit 0))) (sq (.block 1 (sq (rT [fA 50 2 5,lF 51 1 50,fA 52 2 4,lF
  53 1 52,m1 54 10,o1 55 (iX 1 53 54),lF 56 1 55,o1 57 (cF 75 [t1 51,t1 56]),m1 58 57,gT 59 58 (mX 9),gT 60 58 (aK .lss 59 0),gT 61 58 (mX 60),gF 62 61 (fX 0 7),gF 63 61 (lX 1 62),gF 64 61
  (fX 0 8),gF 65 61 (lX 1 64),gF 66 61 (aX .neq 63 65),gF 67 61 (mX 66),gT 68 67 (mX 9),gT 69 67 (fX 1 3),gT 70 67 (lX 1 69),gT 71 67 (fX 2 4),gT 72 67 (lX 1 71),gT 73 67 (mX 10),gT 74 67
  (iX 1 72 73),gT 75 67 (lX 1 74),gT 76 67 (iX 3 70 75),gT 77 67 (fX 1 76),gT 78 67 (lX 1 77),gT 79 67 (aX .lss 68 78),gF 80 61 (pA 67 79),gT 81 58 (pB 61 80),o1 82 (pA 58 81)]) (cn 82 (sq (rF
  [o1 6 (mB true)]) .ret) .skip))) (rF [m1 48 10,o1 49 (aK .add 48 1),m1 10 49])))
def Ix:aw:=(sq (rF [o1 3 (.box 3 (t1 0)),o1 4 (.box 3 (t1 1)),o1 5 (.box 3 (t1 2)),o1 6 (mB false)]) (sq (sq (rF [fA 11 0 4,lF 12 1 11,fA 13 0 5,lF 14 1 13,o1 15 (aX .eql 12
  14)]) (cn 15 (sq (rF [o1 6 (mB true)]) .ret) .skip)) (sq (sq (rF [fA 16 1 4,lF 17 1 16,fA 18 1 5,lF 19 1 18,o1 20 (aX .gtr 17 19)]) (cn 20 (rF [lT 21 3 5,lT 22 3 4,sT 3 4 21,sT 3 5 22])
  .skip)) (sq (sq (rF [⟨none,none,(.l3 2)⟩]) (rT [fA 23 2 3,o1 24 (.gm 2 false 1 (t1 23)),fA 25 0 4,o1 26 (.gm 2 false 1 (t1 25)),o1 27 (iX 7 24 26),o1 28 (.gm 2 true 7 (t1 27)),
  fA 29 2 3, o1 30 (.gm 2 false 1 (t1 29)), fA 31 0 5, o1 32 (.gm 2 false 1 (t1 31)), o1 33 (iX 7 30 32), o1 34 (.gm 2 true 7 (t1 33)), o1 7 (.slot 2 [.v (.string ⟨#[]⟩), .v (.int .i64 0), .v
  (.int .i64 0), .v (.int .i64 0), .v (.int .i64 0), .slice .aA 0 [], .v (.int .i64 0)]), o1 8 (.slot 1 [.v (.string ⟨#[]⟩), .v (.int .i64 0), .v (.int .i64 0), .v (.int .i64 0), .v (.int .i64 0),
  .slice .aA 0 [],.v (.int .i64 0)]),⟨none,none,(.fill 2 7 (t1 7) (t1 28))⟩,⟨none,none,(.fill 1 7 (t1 8) (t1 34))⟩])) (sq (rF [fA 35 1 5,lF 36 1 35,fA 37 1 4,lF 38 1 37,o1 39 (aX .sub 36
  38),fA 40 3 7,lF 41 1 40,o1 42 (aX .sub 39 41),m1 9 42]) (sq (sq (rF [o1 10 (mI 0)]) (.block 0 (.loop wD))) M4))))))
abbrev ano:List K:=[.blk 0,.c M4]
abbrev agm:=aY [(.tmp 6)] false
def Ee:aJ:=.code 3 83 Ix [(.tmp 6)] false
-- 47
def Ds:aw:=(sq (rF [o1 6 (mB false)]) (sq (rF [m1 9 0,m1 10 2,o1 11 (cF 10 [t1 9,t1 10]),m1 12 1,m1 13 2,o1 14 (cF 10 [t1 12,t1 13]),m1 7 11,m1 8 14]) (sq (sq (rF [m1 15 7,o1
  16 (aK .lss 15 0),m1 17 16,gF 18 17 (mX 8),gF 19 17 (aK .lss 18 0),o1 20 (pB 17 19)]) (cn 20 (sq (rF [m1 21 7,o1 22 (aK .geq 21 0),m1 23 22,gF 24 23 (mX 8),gF 25 23 (aK .geq 24 0),o1 26 (pB
  23 25),m1 6 26]) .ret) .skip)) (sq (rT [m1 27 0,m1 28 7,o1 29 (iX 3 27 28),lT 30 3 29,m1 31 1,m1 32 8,o1 33 (iX 3 31 32),lT 34 3 33,o1 35 (cF 44 [t1 30,t1 34]),o1 36 (aK .neq 35 0),m1 6
  36]) .ret))))
abbrev au9:=aY [(.tmp 6)] false
def wO:aJ:=.code 3 37 Ds [(.tmp 6)] false
-- 50
def M1:aw:=(sq (rF [o1 58 (.build [.v (.int .i64 0),.v (.int .i64 0)] []),sT 2 2 58,o1 3 (mI 0)]) .ret)
def Df:aw:=(sq (sq (rF [m1 39 6,fA 40 2 1,lF 41 1 40,o1 42 (nX 41),o1 43 (aX .lss 39 42)]) (cn 43 .skip (.exit 2))) (sq (.block 3 (sq (rT [lT 46 3 1,fA 47 2 1,lF 48 1 47,m1
  49 6,o1 50 (iX 7 48 49),lT 51 7 50,o1 52 (cF 82 [t1 46,t1 51]),m1 7 52]) (sq (rF [m1 53 7,o1 54 (aK .neq 53 0)]) (cn 54 (sq (rF [m1 55 6,o1 56 (.build [.v (.int .i64 0),.v (.int .i64 0)]
  [(0,(1,(i1 2))),(1,(1,(t1 55)))]),m1 57 7,sT 2 2 56,m1 3 57]) .ret) .skip)))) (rF [m1 44 6,o1 45 (aK .add 44 1),m1 6 45])))
def M3:aw:=(sq (sq (rF [o1 6 (mI 0)]) (.block 2 (.loop Df))) M1)
def Dg:aw:=(sq (sq (rF [m1 24 4,fA 25 1 1,lF 26 1 25,o1 27 (nX 26),o1 28 (aX .lss 24 27)]) (cn 28 .skip (.exit 0))) (sq (.block 1 (sq (rF [lT 31 3 1,m1 32 4,o1 33 (cF 81 [t1
  31,t1 32]),m1 5 33]) (sq (rF [m1 34 5,o1 35 (aK .neq 34 0)]) (cn 35 (sq (rF [m1 36 4,o1 37 (.build [.v (.int .i64 0),.v (.int .i64 0)] [(0,(1,(i1 1))),(1,(1,(t1 36)))]),m1 38 5,sT 2 2
  37,m1 3 38]) .ret) .skip)))) (rF [m1 29 4,o1 30 (aK .add 29 1),m1 4 30])))
def De:aw:=(sq (rF [o1 1 (.box 3 (t1 0)),o1 2 (.alloc [.v (.int .i64 0),.v (.int .i64 0)]),o1 3 (mI 0)]) (sq (sq (rF [fA 8 0 1,lF 9 1 8,o1 10 (cF 80 [t1 9,i1 1,i1 200]),o1 11
  (uX 10)]) (cn 11 (sq (rF [o1 12 (.build [.v (.int .i64 0),.v (.int .i64 0)] []),sT 2 2 12,o1 3 (mI 2)]) .ret) .skip)) (sq (sq (rF [fA 13 1 1,lF 14 1 13,o1 15 (nX 14),o1 16 (aK .gtr 15 4),m1
  17 16,gF 18 17 (fX 2 1),gF 19 17 (lX 1 18),gF 20 17 (nX 19),gF 21 17 (aK .gtr 20 12),o1 22 (pB 17 21)]) (cn 22 (sq (rF [o1 23 (.build [.v (.int .i64 0),.v (.int .i64 0)] []),sT 2 2 23,o1 3
  (mI 8)]) .ret) .skip)) (sq (sq (rF [o1 4 (mI 0)]) (.block 0 (.loop Dg))) M3))))
abbrev anl:List K:=[.blk 2,.c M1]
abbrev anm:List K:=[.blk 0,.c M3]
abbrev Wt:=aY [(.cell true 2 2),(.tmp 3)] false
def Ed:aJ:=.code 1 59 De [(.cell true 2 2),(.tmp 3)] false
-- 51
def DJ:aw:=(sq (rF [m1 55 6,m1 2 55,o1 3 (mI 0)]) .ret)
def I6:aw:=(rF [o1 54 (aK .add 26 1),m1 26 54])
def NH:aw:=(rF [o1 53 (aK .add 34 1),m1 34 53])
def I5:aw:=(sq (sq (rF [m1 40 11,fA 41 1 10,lF 42 1 41,o1 43 (aX .leq 40 42)]) (cn 43 .skip (.exit 4))) (sq (.block 5 (rF [m1 46 6,m1 47 7,m1 48 11,o1 49 (.nilCheck (t1 46)),fA
  50 3 49,o1 51 (.indexAddr (some 4) 200 (t1 50) (t1 47)),o1 52 (.indexAddr (some 200) 1 (t1 51) (t1 48)),⟨none,none,(.store 1 (t1 52) bT)⟩])) (rF [m1 44 11,o1 45 (aK .add 44 1),m1 11 45])))
def DI:aw:=(sq (rF [o1 35 (aX .lss 34 33)]) (sq (cn 35 .skip (.exit 2)) (sq (.block 3 (sq (rF [o1 36 (iX 2 32 34),lT 37 2 36,o1 10 (.alloc [.v (.int .i64 0),.v (.int .i64 0)]),sT 2
  10 37]) (sq (rF [fA 38 0 10,lF 39 1 38,m1 11 39]) (.block 4 (.loop I5))))) NH)))
def AW : aw := (sq (rF [o1 27 (aX .lss 26 25)]) (sq (cn 27 .skip (.exit 0)) (sq (.block 1 (sq (rF [m1 28 26, o1 29 (iX 3 24 26), lT 30 3 29, o1 8 (.alloc [.v (.string ⟨#[]⟩), .v (.int .i64
  0),.slice .aA 0 []]),m1 7 28,sT 3 8 30]) (sq (rF [fA 31 2 8,lF 32 1 31,o1 33 (nX 32),o1 34 (mI 0)]) (.block 2 (.loop DI))))) I6)))
def ND:aw:=(sq (rF [o1 1 (.box 3 (t1 0)),o1 2 (.move (.const (.v (.pointer none)))),o1 3 (mI 0)]) (sq (sq (rF [lT 13 3 1,o1 14 (cF 83 [t1 13]),m1 12 14,o1 15 (eX 0 12),o1 16 (eX 1
  12),o1 4 (.alloc [.v (.int .i64 0),.v (.int .i64 0)]),sT 2 4 15,m1 5 16]) (sq (rF [m1 17 5,o1 18 (aK .neq 17 0)]) (cn 18 (sq (rF [m1 19 5,o1 2 (.move (.const (.v (.pointer none)))),m1 3 19])
  .ret) .skip))) (sq (rF [lT 20 3 1,(o1 21 (.build ((.v (.int .i64 0))::(.slice .aA 0 [])::(.slice .aA 0 [])::Hz 800) [(0,(3,(t1 20)))])),o1 22 (.box 803 (t1 21)),m1 6 22]) (sq (sq
  (rF [fA 23 1 1,lF 24 1 23,o1 25 (nX 24),o1 26 (mI 0)]) (.block 0 (.loop AW))) DJ))))
abbrev anZ:List K:=[.blk 4,.blk 3,.c NH,.lp DI,.blk 2,.blk 1,.c I6,.lp AW,.blk 0,.c DJ]
abbrev anY:List K:=[.blk 2,.blk 1,.c I6,.lp AW,.blk 0,.c DJ]
abbrev anX:List K:=[.blk 0,.c DJ]
abbrev OE:=aY [(.tmp 2),(.tmp 3)] false
def Bb:aJ:=.code 1 56 ND [(.tmp 2),(.tmp 3)] false
-- 52
def UA:aw:=(sq (rF [o1 1 (.box 7 (t1 0)),o1 2 (mB false)]) (sq (rF [fA 3 1 1,fA 4 1 3,lF 5 1 4,fA 6 1 1,fA 7 0 6,lF 8 1 7,o1 9 (aX .sub 5 8),o1 10 (aK .add 9 2),fA 11 3 1,
  lF 12 1 11,o1 13 (aX .sub 10 12),o1 14 (aK .gtr 13 8),m1 2 14]) .ret))
abbrev avk:=aY [(.tmp 2)] false
def EH:aJ:=.code 1 15 UA [(.tmp 2)] false
-- 53
def U0:aw:=(sq (rF [o1 4 (mB false)]) (sq (rF [m1 5 0,m1 6 1,o1 7 (cF 84 [t1 5,t1 6]),o1 8 (aK .geq 7 0),m1 4 8]) .ret))
abbrev avG:=aY [(.tmp 4)] false
def Fc:aJ:=.code 2 9 U0 [(.tmp 4)] false
-- 54
def Jb:aw:=(sq (rF [lF 22 1 7,m1 6 22]) .ret)
def uS:aw:=(.block 1 (sq (rF [lF 13 1 3,lT 14 3 8,lF 15 1 4,o1 16 (cF 86 [t1 13,t1 14,t1 15]),o1 17 (uX 16)]) (cn 17 (rF [lF 18 1 7,lT 19 3 8,o1 20 (.sV 3 (t1 19)),
  o1 21 (.rU 3 (t1 18) (t1 20) (t1 7)),sT 1 7 21]) .skip)))
def uR:aw:=(rF [o1 8 (.alloc [.v (.int .i64 0),.v (.int .i64 0),.slice .aA 0 []]),sT 3 8 12])
def UQ:aw:=(sq (rF [o1 3 (.box 1 (t1 0)),o1 4 (.box 1 (t1 1)),o1 6 (.move (.const (.slice .aA 0 [])))]) (sq (rF [o1 7 (.alloc [.slice .aA 0 []])]) (sq (sq (rF [lF 9 1 3,m1 10
  2,o1 11 (cF 85 [t1 9,t1 10])]) (.block 0 (.rangeFunc (t1 11) [12] uR uS))) Jb)))
abbrev awn:List K:=[.blk 0,.c Jb]
abbrev agC:=aY [(.tmp 6)] true
def E2:aJ:=.code 3 23 UQ [(.tmp 6)] true
-- 55
def MW:aw:=(sq (rF [m1 28 5,m1 4 28]) .ret)
def Is:aw:=(sq (rF [o1 12 (aX .lss 11 10)]) (sq (cn 12 .skip (.exit 0)) (sq (.block 1 (sq (rF [o1 13 (iX 1 9 11),lF 14 1 13,m1 7 14]) (rF [m1 15 5,fA 16 0 2,lF 17 1 16,o1 18
  (.nilCheck (t1 17)),fA 19 0 18,fA 20 2 19,lF 21 1 20,m1 22 7,o1 23 (iX 7 21 22),fA 24 4 23,lF 25 1 24,o1 26 (aX .add 15 25),m1 5 26]))) (rF [o1 27 (aK .add 11 1),m1 11 27]))))
def Uc:aw:=(sq (rF [o1 2 (.box 2 (t1 0)),o1 4 (mI 0)]) (sq (rF [o1 5 (mI 0)]) (sq (sq (rF [m1 8 1,o1 9 (cF 34 [t1 8]),o1 10 (nX 9),o1 11 (mI 0)]) (.block 0 (.loop Is)))
  MW)))
abbrev ang:List K:=[.blk 0,.c MW]
abbrev agj:=aY [(.tmp 4)] false
def D7:aJ:=.code 2 29 Uc [(.tmp 4)] false
-- 56
def MU:aw:=(sq (rF [o1 4 (mB true)]) .ret)
def Ip:aw:=(sq (rF [o1 11 (aX .lss 10 9)]) (sq (cn 11 .skip (.exit 0)) (sq (.block 1 (sq (rF [m1 12 10,o1 13 (iX 2 8 10),lT 14 2 13,o1 6 (.alloc [.slice .aA 0 [],.v (.bool
  false)]),m1 5 12,sT 2 6 14]) (sq (rF [fA 15 1 6,lF 16 1 15,o1 17 (uX 16),m1 18 17,gT 19 18 (mX 1),gT 20 18 (mX 5),gT 21 18 (aX .shr 19 20),gT 22 18 (aK .and 21 1),gT 23 18 (aK .eql 22 0),
  o1 24 (pA 18 23)]) (cn 24 (sq (rF [o1 4 (mB false)]) .ret) .skip)))) (rF [o1 25 (aK .add 10 1),m1 10 25]))))
def Ub:aw:=(sq (rF [o1 2 (.box 2 (t1 0)),o1 4 (mB false)]) (sq (sq (rF [fA 7 1 2,lF 8 1 7,o1 9 (nX 8),o1 10 (mI 0)]) (.block 0 (.loop Ip))) MU))
abbrev anc:List K:=[.blk 0,.c MU]
abbrev agi:=aY [(.tmp 4)] false
def D5:aJ:=.code 2 26 Ub [(.tmp 4)] false
-- 57
def U3:aw:=(sq (rF [o1 4 (mB false)]) (sq (rF [m1 5 0,m1 6 1,o1 7 (cF 87 [t1 5,t1 6]),o1 8 (aK .geq 7 0),m1 4 8]) .ret))
abbrev avJ:=aY [(.tmp 4)] false
def Fg:aJ:=.code 2 9 U3 [(.tmp 4)] false
-- 58
def Db:aw:=(sq (rF [o1 84 (.build [.v (.int .i64 0),.v (.int .i64 0),.slice .aA 0 []] []),sT 3 8 84,o1 9 (mB false)]) .ret)
def Iq:aw:=(rF [m1 35 12,o1 36 (aK .add 35 1),m1 12 36])
def Ir:aw:=(rF [o1 83 (aK .add 44 1),m1 44 83])
def AK:aw:=(sq (rF [o1 61 (aX .lss 60 59)]) (sq (cn 61 .skip (.exit 4)) (sq (.block 5 (sq (rF [o1 62 (iX 1 58 60),lF 63 1 62,m1 17 63]) (sq (rT [m1 64 17,m1 65 12,o1 66 (aK .add 65
  1),o1 67 (.arith .shl (i1 1) (t1 66)),o1 68 (aK .sub 67 1),o1 69 (aX .and 64 68),m1 70 2,m1 71 12,o1 72 (.arith .shl (i1 1) (t1 71)),o1 73 (aX .or 70 72),o1 74 (aX .eql 69 73),m1 75 74,gT
  76 75 (lY 2 4),gT 77 75 (mX 15),gT 78 75 (mX 17),gT 79 75 (cF 40 [t1 76,t1 77,t1 78]),o1 80 (pA 75 79)]) (cn 80 (sq (rF [lT 81 3 14,sT 3 8 81,o1 9 (mB true)]) .ret) .skip)))) (rF [o1 82 (aK
  .add 60 1),m1 60 82]))))
def AJ:aw:=(sq (rF [o1 45 (aX .lss 44 43)]) (sq (cn 45 .skip (.exit 2)) (sq (.block 3 (sq (rF [o1 46 (iX 3 42 44),lT 47 3 46,o1 14 (.alloc [.v (.int .i64 0),.v (.int .i64 0),.slice
  .aA 0 []]),sT 3 14 47]) (sq (sq (rF [fA 48 0 4,lF 49 1 48,lT 50 3 14,m1 51 1,o1 52 (cF 86 [t1 49,t1 50,t1 51])]) (cn 52 (.exit 3) .skip)) (sq (rT [m1 53 1,o1 54 (.tz 88 [t1 53]),lT 55
  3 14,o1 56 (.buildSlice 3 [[.v (.int .i64 0),.v (.int .i64 0),.slice .aA 0 []]] [(0,(t1 55))]),o1 57 (.append 3 (t1 54) (t1 56)),m1 15 57]) (sq (rF [m1 58 3,o1 59 (nX 58),o1 60 (mI 0)])
  (.block 4 (.loop AK))))))) Ir)))
def uN:aw:=(sq (sq (rF [m1 30 12,fA 31 1 4,lF 32 1 31,o1 33 (nX 32),o1 34 (aX .lss 30 33)]) (cn 34 .skip (.exit 0))) (sq (.block 1 (sq (rF [fA 37 1 4,lF 38 1 37,m1 39 12,o1 40
  (iX 2 38 39),fA 41 0 40,lF 42 1 41,o1 43 (nX 42),o1 44 (mI 0)]) (.block 2 (.loop AJ)))) Iq))
def MV:aw:=(sq (rF [o1 4 (.box 2 (t1 0)),o1 8 (.alloc [.v (.int .i64 0),.v (.int .i64 0),.slice .aA 0 []]),o1 9 (mB false)]) (sq (rF [o1 10 (mI 0)]) (sq (sq (rF [m1 18 1,o1 19 (nX
  18),m1 11 19]) (sq (rF [m1 20 11,o1 21 (aK .gtr 20 0)]) (cn 21 (rF [m1 22 1,m1 23 11,o1 24 (aK .sub 23 1),o1 25 (iX 3 22 24),fA 26 0 25,lF 27 1 26,o1 28 (aK .add 27 1),m1 10 28]) .skip)))
  (sq (sq (rF [m1 29 10,m1 12 29]) (.block 0 (.loop uN))) Db))))
abbrev anf:List K:=[.blk 4,.blk 3,.c Ir,.lp AJ,.blk 2,.blk 1,.c Iq,.lp uN,.blk 0,.c Db]
abbrev ane:List K:=[.blk 2,.blk 1,.c Iq,.lp uN,.blk 0,.c Db]
abbrev Q6:List K:=[.blk 0,.c Db]
abbrev FD:=aY [(.cell true 3 8),(.tmp 9)] false
def D6:aJ:=.code 4 85 MV [(.cell true 3 8),(.tmp 9)] false
-- 59
def Nj:aw:=(sq (rF [o1 6 (mI 0)]) .ret)
def Dv:aw:=(sq (sq (rF [m1 97 10,m1 98 2,o1 99 (aX .lss 97 98)]) (cn 99 .skip (.exit 2))) (sq (.block 3 (sq (rT [lT 102 3 3,lT 103 3 7,m1 104 1,m1 105 10,o1 106 (iX 3 104
  105),lT 107 3 106,o1 108 (cF 46 [t1 102,t1 103,t1 107])]) (cn 108 (sq (rF [o1 6 (mI 13)]) .ret) .skip))) (rF [m1 100 10,o1 101 (aK .add 100 1),m1 10 101])))
def IK:aw:=(sq (sq (rF [lT 94 3 3,lT 95 3 7,o1 96 (cF 74 [t1 94,t1 95])]) (cn 96 (sq (rF [o1 6 (mI 21)]) .ret) .skip)) (sq (sq (rF [o1 10 (mI 0)]) (.block 2 (.loop
  Dv))) Nj))
def wE:aw:=(sq (sq (rF [m1 62 9,fA 63 2 7,lF 64 1 63,o1 65 (nX 64),o1 66 (aX .lss 62 65)]) (cn 66 .skip (.exit 0))) (sq (.block 1 (sq (sq (rT [fA 69 5 8,lF 70 1 69,fA 71 2 7,
  lF 72 1 71,m1 73 9,o1 74 (iX 1 72 73),lF 75 1 74,o1 76 (cF 75 [t1 70,t1 75]),o1 77 (uX 76)]) (cn 77 (sq (rF [o1 6 (mI 6)]) .ret) .skip)) (sq (rT [m1 78 9,o1 79 (aK .gtr 78 0),m1 80 79,gT 81
  80 (fX 2 7),gT 82 80 (lX 1 81),gT 83 80 (mX 9),gT 84 80 (iX 1 82 83),gT 85 80 (lX 1 84),gT 86 80 (fX 2 7),gT 87 80 (lX 1 86),gT 88 80 (mX 9),gT 89 80 (aK .sub 88 1),gT 90 80 (iX 1 87 89),
  gT 91 80 (lX 1 90),gT 92 80 (aX .leq 85 91),o1 93 (pA 80 92)]) (cn 93 (sq (rF [o1 6 (mI 9)]) .ret) .skip)))) (rF [m1 67 9,o1 68 (aK .add 67 1),m1 9 68])))
def uO:aw:=(sq (rF [o1 3 (.box 3 (t1 0)),o1 6 (mI 0)]) (sq (rF [m1 11 1,m1 12 2,o1 13 (iX 3 11 12),lT 14 3 13,o1 7 (.alloc [.v (.int .i64 0),.v (.int .i64 0),.slice .aA 0
  []]),sT 3 7 14]) (sq (sq (rF [fA 15 0 7,lF 16 1 15,fA 17 2 3,lF 18 1 17,o1 19 (nX 18),o1 20 (aK .sub 19 1),o1 21 (cF 80 [t1 16,i1 0,t1 20]),o1 22 (uX 21)]) (cn 22 (sq (rF [o1 6 (mI 6)])
  .ret) .skip)) (sq (sq (rT [m1 23 2,o1 24 (aK .gtr 23 0),m1 25 24,gT 26 25 (fX 0 7),gT 27 25 (lX 1 26),gT 28 25 (mX 1),gT 29 25 (mX 2),gT 30 25 (aK .sub 29 1),gT 31 25 (iX 3 28 30),gT 32 25
  (fX 0 31),gT 33 25 (lX 1 32),gT 34 25 (aX .leq 27 33),o1 35 (pA 25 34)]) (cn 35 (sq (rF [o1 6 (mI 9)]) .ret) .skip)) (sq (rF [fA 36 2 3,lF 37 1 36,fA 38 0 7,lF 39 1 38,o1 40 (iX 7 37 39),lT
  41 7 40, o1 8 (.alloc [.v (.string ⟨#[]⟩), .v (.int .i64 0), .v (.int .i64 0), .v (.int .i64 0), .v (.int .i64 0), .slice .aA 0 [], .v (.int .i64 0)]), sT 7 8 41]) (sq (sq (rF [fA 42 1 7, lF 43 1
  42,fA 44 1 8,fA 45 0 44,lF 46 1 45,fA 47 1 8,fA 48 1 47,lF 49 1 48,fA 50 3 8,lF 51 1 50,o1 52 (aX .sub 49 51),o1 53 (aK .add 52 1),o1 54 (cF 80 [t1 43,t1 46,t1 53]),o1 55 (uX 54)]) (cn
  55 (sq (rF [o1 6 (mI 2)]) .ret) .skip)) (sq (sq (rF [fA 56 2 7,lF 57 1 56,o1 58 (nX 57),fA 59 6 8,lF 60 1 59,o1 61 (aX .neq 58 60)]) (cn 61 (sq (rF [o1 6 (mI 10)]) .ret) .skip)) (sq (sq (rF [o1
  9 (mI 0)]) (.block 0 (.loop wE))) IK))))))))
abbrev anH:List K:=[.blk 2,.c Nj]
abbrev anI:List K:=[.blk 0,.c IK]
abbrev Wz:=aY [(.tmp 6)] false
def Er:aJ:=.code 3 109 uO [(.tmp 6)] false
-- 60
def NU:aw:=(sq (rT [m1 109 12,o1 110 (uX 109),o1 111 (.call true 39 [t1 110,i1 21]),m1 112 0,lT 113 3 4,m1 114 2,o1 115 (cF 86 [t1 112,t1 113,t1 114]),o1 116 (uX 115),o1
  117 (cF 39 [t1 116,i1 13]),o1 118 (.buildSlice 1 [[.v (.int .i64 0)],[.v (.int .i64 0)]] [(0,(t1 111)),(1,(t1 117))]),o1 119 (cF 32 [t1 118]),m1 6 119]) .ret)
def wI:aw:=(sq (rF [o1 79 (aX .lss 78 77)]) (sq (cn 79 .skip (.exit 0)) (sq (.block 1 (sq (rF [o1 80 (iX 1 76 78),lF 81 1 80,m1 14 81]) (sq (sq (rF [fA 82 5 10,lF 83 1 82,m1 84
  14,o1 85 (cF 57 [t1 83,t1 84]),o1 86 (cF 39 [t1 85,i1 6]),m1 87 14,m1 88 7,o1 89 (aX .gtr 87 88),o1 90 (cF 39 [t1 89,i1 9]),o1 91 (.buildSlice 1 [[.v (.int .i64 0)],[.v (.int .i64 0)]]
  [(0,(t1 86)),(1,(t1 90))]),o1 92 (cF 32 [t1 91]),m1 15 92]) (sq (rF [m1 93 15,o1 94 (aK .neq 93 0)]) (cn 94 (sq (rF [m1 95 15,m1 6 95]) .ret) .skip))) (rF [m1 96 14,m1 97 12,m1 98 97,gF 99
  98 (mX 0),gF 100 98 (mX 14),gF 101 98 (fX 1 4),gF 102 98 (lX 1 101),gF 103 98 (fX 3 10),gF 104 98 (lX 1 103),gF 105 98 (cF 89 [t1 99,t1 100,t1 102,t1 104]),gF 106 98 (uX 105),o1 107 (pB
  98 106),m1 7 96,m1 12 107])))) (rF [o1 108 (aK .add 78 1),m1 78 108]))))
def yx:aw:=(sq (rF [o1 4 (.box 3 (t1 1)),o1 6 (mI 0)]) (sq (rF [o1 7 (mI (-1))]) (sq (sq (rF [m1 16 2,o1 17 (nX 16),m1 8 17]) (sq (rF [m1 18 8,o1 19 (aK .gtr 18 0)]) (cn 19 (rF [m1
  20 2,m1 21 8,o1 22 (aK .sub 21 1),o1 23 (iX 3 20 22),fA 24 0 23,lF 25 1 24,m1 7 25]) .skip))) (sq (sq (rT [m1 26 0,fA 27 0 4,lF 28 1 27,o1 29 (.call true 33 [t1 26,t1 28]),fA 30 0 4,lF
  31 1 30,m1 32 7,o1 33 (aX .gtr 31 32),o1 34 (cF 39 [t1 33,i1 9]),o1 35 (.buildSlice 1 [[.v (.int .i64 0)],[.v (.int .i64 0)]] [(0,(t1 29)),(1,(t1 34))]),o1 36 (cF 32 [t1 35]),m1 9 36])
  (sq (rF [m1 37 9,o1 38 (aK .neq 37 0)]) (cn 38 (sq (rF [m1 39 9,m1 6 39]) .ret) .skip))) (sq (rT [m1 40 0,o1 41 (.nilCheck (t1 40)),fA 42 0 41,fA 43 2 42,lF 44 1 43,fA 45 0 4,lF 46 1 45,o1
  47 (iX 7 44 46), lT 48 7 47, o1 10 (.alloc [.v (.string ⟨#[]⟩), .v (.int .i64 0), .v (.int .i64 0), .v (.int .i64 0), .v (.int .i64 0), .slice .aA 0 [], .v (.int .i64 0)]), sT 7 10 48]) (sq (rT
  [fA 49 1 4,lF 50 1 49,fA 51 1 10,fA 52 0 51,lF 53 1 52,fA 54 1 10,fA 55 1 54,lF 56 1 55,o1 57 (aK .add 56 1),fA 58 3 10,lF 59 1 58,o1 60 (aX .sub 57 59),o1 61 (.call true 61 [t1 50,t1
  53,t1 60]),o1 62 (.call true 39 [t1 61,i1 2]),fA 63 2 4,lF 64 1 63,o1 65 (nX 64),fA 66 6 10,lF 67 1 66,o1 68 (aX .eql 65 67),o1 69 (cF 39 [t1 68,i1 10]),o1 70 (.buildSlice 1 [[.v (.int
  .i64 0)],[.v (.int .i64 0)]] [(0,(t1 62)),(1,(t1 69))]),o1 71 (cF 32 [t1 70]),m1 11 71]) (sq (sq (rF [m1 72 11,o1 73 (aK .neq 72 0)]) (cn 73 (sq (rF [m1 74 11,m1 6 74]) .ret) .skip)) (sq (rF
  [o1 7 (mI (-1))]) (sq (rF [o1 12 (mB false)]) (sq (sq (rF [fA 75 2 4,lF 76 1 75,o1 77 (nX 76),o1 78 (mI 0)]) (.block 0 (.loop wI))) NU))))))))))
abbrev Zd:List K:=[.blk 0,.c NU]
abbrev WH:=aY [(.tmp 6)] false
def E1:aJ:=.code 3 120 yx [(.tmp 6)] false
-- 61
def UG:aw:=(sq (rF [o1 6 (mB false)]) (sq (rF [m1 7 1,m1 8 0,o1 9 (aX .leq 7 8),m1 10 9,gT 11 10 (mX 0),gT 12 10 (mX 2),gT 13 10 (aX .leq 11 12),o1 14 (pA 10 13),m1 6 14])
  .ret))
abbrev avq:=aY [(.tmp 6)] false
def EO:aJ:=.code 3 15 UG [(.tmp 6)] false
-- 62
def Ux:aw:=(sq (rF [o1 3 (.box 1 (t1 0))]) (sq (rF [o1 4 (.alloc [.v .nilFunc])]) (sq (rF [o1 5 (.oL 63 [] [t1 1,t1 3,t1 4]),sT 1 4 5]) (rF [lF 6 1 4,lF 7 1 2,o1 8 (.kB
  false (t1 6) [.const (.slice .aA 0 []),t1 7])]))))
abbrev avh:=aY [] false
def ED:aJ:=.code 3 9 Ux [] false
-- 63
def I4:aw:=(sq (rF [o1 7 (mB true)]) .ret)
def DG:aw:=(sq (rF [o1 21 (aX .lss 20 19)]) (sq (cn 21 .skip (.exit 0)) (sq (.block 1 (sq (rF [m1 22 20,o1 23 (iX 1 18 20),lF 24 1 23,m1 8 22,m1 9 24]) (sq (rT [lF 25 1 4,m1
  26 0,m1 27 0,o1 28 (nX 27),m1 29 0,o1 30 (nX 29),o1 31 (.slice (.sl 1) (t1 26) none (some (t1 28)) (some (t1 30))),m1 32 9,o1 33 (.buildSlice 1 [[.v (.int .i64 0)]] [(0,(t1 32))]),o1 34
  (.append 1 (t1 31) (t1 33)),m1 35 1,m1 36 8,o1 37 (aK .add 36 1),o1 38 (.slice (.sl 1) (t1 35) (some (t1 37)) none none),o1 39 (.kB false (t1 25) [t1 34,t1 38]),o1 40 (uX 39)]) (cn 40 (sq
  (rF [o1 7 (mB false)]) .ret) .skip)))) (rF [o1 41 (aK .add 20 1),m1 20 41]))))
def DF:aw:=(sq (rF [o1 7 (mB false)]) (sq (sq (rF [m1 10 0,o1 11 (nX 10),lF 12 1 2,o1 13 (aX .eql 11 12)]) (cn 13 (sq (rT [lF 14 1 3,m1 15 0,o1 16 (.call true 64 [t1 15]),o1
  17 (.kB false (t1 14) [t1 16]),m1 7 17]) .ret) .skip)) (sq (sq (rF [m1 18 1,o1 19 (nX 18),o1 20 (mI 0)]) (.block 0 (.loop DG))) I4)))
abbrev anW:List K:=[.blk 0,.c I4]
abbrev agx:=aY [(.tmp 7)] false
def wP:aJ:=.code 5 42 DF [(.tmp 7)] false
-- 64
def NY:aw:=(sq (rF [o1 2 (.move (.const (.slice .aA 0 [])))]) (sq (sq (rF [m1 3 0,o1 4 (.eqv false .slice (t1 3) (.const (.slice .aA 0 [])))]) (cn 4 (sq (rF [o1 2 (.move (.const
  (.slice .aA 0 [])))]) .ret) .skip)) (sq (rF [o1 5 (.buildSlice 1 [] []),m1 6 0,o1 7 (.append 1 (t1 5) (t1 6)),m1 2 7]) .ret)))
abbrev avD:=aY [(.tmp 2)] true
def E7:aJ:=.code 1 8 NY [(.tmp 2)] true
-- 65
def NI:aw:=(sq (rF [o1 3 (.box 1 (t1 1)),o1 4 (.alloc [.v (.int .i64 0),.v (.int .i64 0),.slice .aA 0 []]),o1 5 (mB false)]) (sq (rF [m1 7 0,o1 8 (.oL 91 [] [t1 3]),o1 9 (cF
  90 [t1 7,t1 8]),m1 6 9]) (sq (sq (rF [m1 10 6,o1 11 (aK .lss 10 0)]) (cn 11 (sq (rF [o1 12 (.build [.v (.int .i64 0),.v (.int .i64 0),.slice .aA 0 []] []),sT 3 4 12,o1 5 (mB false)]) .ret)
  .skip)) (sq (rF [m1 13 0,m1 14 6,o1 15 (iX 3 13 14),lT 16 3 15,sT 3 4 16,o1 5 (mB true)]) .ret))))
abbrev avl:=aY [(.cell true 3 4),(.tmp 5)] false
def EI:aJ:=.code 2 17 NI [(.cell true 3 4),(.tmp 5)] false
-- 66
def NK:aw:=(sq (rF [o1 3 (.box 3 (t1 0)),o1 4 (mB false)]) (sq (rF [lF 5 1 1,m1 6 5,gT 7 6 (lY 3 3),gT 8 6 (lY 3 2),gT 9 6 (cF 38 [t1 7,t1 8]),gT 10 6 (aK .eql 9 0),o1 11
  (pA 6 10),m1 4 11]) .ret))
abbrev avt:=aY [(.tmp 4)] false
def ES:aJ:=.code 3 12 NK [(.tmp 4)] false
-- 67
def NZ:aw:=(sq (rF [m1 36 0,m1 37 5,o1 38 (.slice (.sl 3) (t1 36) (some (t1 37)) none none),⟨none,none,(.clear [.v (.int .i64 0),.v (.int .i64 0),.slice .aA
  0 []] (t1 38))⟩]) (sq (rF [m1 39 0,m1 40 5,o1 41 (.slice (.sl 3) (t1 39) none (some (t1 40)) none),m1 4 41]) .ret))
def DQ:aw:=(sq (sq (rF [m1 16 6,m1 17 0,o1 18 (nX 17),o1 19 (aX .lss 16 18)]) (cn 19 .skip (.exit 0))) (sq (.block 1 (sq (rF [m1 22 0,m1 23 6,o1 24 (iX 3 22
  23),lT 25 3 24,o1 7 (.alloc [.v (.int .i64 0),.v (.int .i64 0),.slice .aA 0 []]),sT 3 7 25]) (sq (rF [m1 26 1,lT 27 3 7,o1 28 (.kB false (t1 26) [t1 27]),o1 29 (uX 28)]) (cn 29 (sq (rF
  [m1 30 0,m1 31 5,lT 32 3 7,o1 33 (iX 3 30 31),sT 3 33 32]) (rF [m1 34 5,o1 35 (aK .add 34 1),m1 5 35])) .skip)))) (rF [m1 20 6,o1 21 (aK .add 20 1),m1 6 21])))
def Je:aw:=(sq (rF [o1 4 (.move (.const (.slice .aA 0 [])))]) (sq (rF [m1 8 0,m1 9 1,o1 10 (cF 90 [t1 8,t1 9]),m1 5 10]) (sq (sq (rF [m1 11 5,o1 12 (aK .eql 11
  (-1))]) (cn 12 (sq (rF [m1 13 0,m1 4 13]) .ret) .skip)) (sq (sq (rF [m1 14 5,o1 15 (aK .add 14 1),m1 6 15]) (.block 0 (.loop DQ))) NZ))))
abbrev aob:List K:=[.blk 0,.c NZ]
abbrev agG:=aY [(.tmp 4)] false
def yN:aJ:=.code 2 42 Je [(.tmp 4)] false
-- 68
def Jd:aw:=(sq (sq (rF [m1 31 0,o1 32 (nX 31),m1 33 1,o1 34 (nX 33),o1 35 (aX .lss 32 34)]) (cn 35 (sq (rF [o1 4 (mI (-1))]) .ret) .skip)) (sq (rF [o1 4 (mI 0)]) .ret))
def yA:aw:=(sq (rF [o1 12 (aX .lss 11 10)]) (sq (cn 12 .skip (.exit 0)) (sq (.block 1 (sq (rF [m1 13 11,o1 14 (iX 1 9 11),lF 15 1 14,m1 5 13,m1 6 15]) (sq (sq (rF [m1 16 5,
  m1 17 1,o1 18 (nX 17),o1 19 (aX .geq 16 18)]) (cn 19 (sq (rF [o1 4 (mI 1)]) .ret) .skip)) (sq (rF [m1 20 1,m1 21 5,o1 22 (iX 1 20 21),lF 23 1 22,m1 7 23]) (sq (rF [m1 24 6,m1 25 7,o1 26 (cF
  92 [t1 24,t1 25]),m1 8 26]) (sq (rF [m1 27 8,o1 28 (aK .neq 27 0)]) (cn 28 (sq (rF [m1 29 8,m1 4 29]) .ret) .skip))))))) (rF [o1 30 (aK .add 11 1),m1 11 30]))))
def UX:aw:=(sq (rF [o1 4 (mI 0)]) (sq (sq (rF [m1 9 0,o1 10 (nX 9),o1 11 (mI 0)]) (.block 0 (.loop yA))) Jd))
abbrev aoa:List K:=[.blk 0,.c Jd]
abbrev agF:=aY [(.tmp 4)] false
def E9:aJ:=.code 2 36 UX [(.tmp 4)] false
-- 69
def NW:aw:=(sq (rF [m1 26 7,m1 6 26]) .ret)
def DP:aw:=(sq (rF [o1 13 (aX .lss 12 11)]) (sq (cn 13 .skip (.exit 0)) (sq (.block 1 (sq (rF [o1 14 (iX 3 10 12),lT 15 3 14,o1 9 (.alloc [.v (.int .i64 0),.v (.int .i64 0),
  .slice .aA 0 []]),sT 3 9 15]) (sq (rF [m1 16 0,lT 17 3 9,lT 18 3 5,o1 19 (cF 93 [t1 16,t1 17,t1 18]),o1 20 (uX 19)]) (cn 20 (rF [m1 21 7,lT 22 3 9,o1 23 (.buildSlice 3 [[.v (.int .i64 0),
  .v (.int .i64 0),.slice .aA 0 []]] [(0,(t1 22))]),o1 24 (.append 3 (t1 21) (t1 23)),m1 7 24]) .skip)))) (rF [o1 25 (aK .add 12 1),m1 12 25]))))
def UU:aw:=(sq (rF [o1 5 (.box 3 (t1 2)),o1 6 (.move (.const (.slice .aA 0 [])))]) (sq (rF [o1 7 (.move (.const (.slice .aA 0 [])))]) (sq (sq (rF [m1 10 1,o1 11 (nX 10),o1 12
  (mI 0)]) (.block 0 (.loop DP))) NW)))
abbrev an8:List K:=[.blk 0,.c NW]
abbrev agD:=aY [(.tmp 6)] false
def E6:aJ:=.code 3 27 UU [(.tmp 6)] false
-- 70
def I9:aw:=(sq (rF [o1 4 (mB false)]) .ret)
def NQ:aw:=(rF [o1 63 (aK .add 38 1),m1 38 63])
def NR:aw:=(sq (rF [m1 60 0,m1 61 10,o1 62 (cF 70 [t1 60,t1 61])]) (cn 62 (sq (rF [o1 4 (mB true)]) .ret) .skip))
def DM:aw:=(sq (rF [o1 45 (aX .lss 44 43)]) (sq (cn 45 .skip (.exit 4)) (sq (.block 5 (sq (rF [m1 46 44,o1 47 (iX 1 42 44),lF 48 1 47,m1 11 46,m1 12 48]) (sq (rF [m1 49 11,m1 50 5,
  o1 51 (aX .neq 49 50)]) (cn 51 (rF [m1 52 10,m1 53 0,m1 54 12,lT 55 3 9,o1 56 (cF 69 [t1 53,t1 54,t1 55]),o1 57 (.buildSlice 1 [[.slice .aA 0 []]] [(0,(t1 56))]),o1 58 (.append 1 (t1 52)
  (t1 57)),m1 10 58]) .skip)))) (rF [o1 59 (aK .add 44 1),m1 44 59]))))
def DL:aw:=(sq (rF [o1 39 (aX .lss 38 37)]) (sq (cn 39 .skip (.exit 2)) (sq (.block 3 (sq (rF [o1 40 (iX 3 36 38),lT 41 3 40,o1 9 (.alloc [.v (.int .i64 0),.v (.int .i64 0),.slice
  .aA 0 []]),sT 3 9 41]) (sq (rF [o1 10 (.move (.const (.slice .aA 0 [])))]) (sq (sq (rF [m1 42 1,o1 43 (nX 42),o1 44 (mI 0)]) (.block 4 (.loop DM))) NR)))) NQ)))
def NS:aw:=(sq (sq (rF [m1 33 1,m1 34 5,o1 35 (iX 1 33 34),lF 36 1 35,o1 37 (nX 36),o1 38 (mI 0)]) (.block 2 (.loop DL))) I9)
def DN:aw:=(sq (rF [o1 19 (aX .lss 18 17)]) (sq (cn 19 .skip (.exit 0)) (sq (.block 1 (sq (rF [m1 20 18,o1 21 (iX 1 16 18),lF 22 1 21,m1 6 20,m1 7 22]) (sq (rF [m1 23 7,o1 24 (nX
  23),m1 25 1,m1 26 5,o1 27 (iX 1 25 26),lF 28 1 27,o1 29 (nX 28),o1 30 (aX .lss 24 29)]) (cn 30 (rF [m1 31 6,m1 5 31]) .skip)))) (rF [o1 32 (aK .add 18 1),m1 18 32]))))
def NO:aw:=(sq (rF [o1 4 (mB false)]) (sq (sq (rF [m1 13 1,o1 14 (nX 13),o1 15 (aK .eql 14 0)]) (cn 15 (sq (rF [o1 4 (mB true)]) .ret) .skip)) (sq (rF [o1 5 (mI 0)]) (sq (sq (rF [m1 16
  1,o1 17 (nX 16),o1 18 (mI 0)]) (.block 0 (.loop DN))) NS))))
abbrev an4:List K:=[.blk 4,.c NR,.blk 3,.c NQ,.lp DL,.blk 2,.c I9]
abbrev an3:List K:=[.blk 2,.c I9]
abbrev an5:List K:=[.blk 0,.c NS]
abbrev OG:=aY [(.tmp 4)] false
def Bd:aJ:=.code 2 64 NO [(.tmp 4)] false
-- 71
def DS:aw:=(sq (rF [o1 4 (mI (-1))]) .ret)
def DR:aw:=(sq (rF [o1 9 (aX .lss 8 7)]) (sq (cn 9 .skip (.exit 0)) (sq (.block 1 (sq (rF [m1 10 8,m1 5 10]) (sq (rF [m1 11 1,m1 12 0,m1 13 5,o1 14 (iX 1 12 13),lF 15 1
  14,o1 16 (aX .eql 11 15)]) (cn 16 (sq (rF [m1 17 5,m1 4 17]) .ret) .skip)))) (rF [o1 18 (aK .add 8 1),m1 8 18]))))
def Va:aw:=(sq (rF [o1 4 (mI 0)]) (sq (sq (rF [m1 6 0,o1 7 (nX 6),o1 8 (mI 0)]) (.block 0 (.loop DR))) DS))
abbrev aoh:List K:=[.blk 0,.c DS]
abbrev agM:=aY [(.tmp 4)] false
def Fo:aJ:=.code 2 19 Va [(.tmp 4)] false
-- 72
def Ii:aw:=(sq (rF [m1 36 0,o1 37 (nX 36),m1 38 1,o1 39 (nX 38),o1 40 (aX .lss 37 39),m1 4 40]) .ret)
def AE:aw:=(sq (sq (rF [m1 6 5,m1 7 0,o1 8 (nX 7),o1 9 (aX .lss 6 8),m1 10 9,gT 11 10 (mX 5),gT 12 10 (mX 1),gT 13 10 (nX 12),gT 14 10 (aX .lss 11 13),o1 15 (pA 10 14)]) (cn
  15 .skip (.exit 0))) (sq (.block 1 (sq (rT [m1 18 0,m1 19 5,o1 20 (iX 1 18 19),lF 21 1 20,m1 22 1,m1 23 5,o1 24 (iX 1 22 23),lF 25 1 24,o1 26 (aX .neq 21 25)]) (cn 26 (sq (rT [m1 27 0,m1 28
  5,o1 29 (iX 1 27 28),lF 30 1 29,m1 31 1,m1 32 5,o1 33 (iX 1 31 32),lF 34 1 33,o1 35 (aX .lss 30 34),m1 4 35]) .ret) .skip))) (rF [m1 16 5,o1 17 (aK .add 16 1),m1 5 17])))
def T4:aw:=(sq (rF [o1 4 (mB false)]) (sq (sq (rF [o1 5 (mI 0)]) (.block 0 (.loop AE))) Ii))
abbrev am4:List K:=[.blk 0,.c Ii]
abbrev age:=aY [(.tmp 4)] false
def DX:aJ:=.code 2 41 T4 [(.tmp 4)] false
-- 73
def II:aw:=(sq (rF [m1 46 5,m1 4 46]) .ret)
def Nh:aw:=(rF [m1 18 6,o1 19 (aK .add 18 1),m1 6 19])
def IH:aw:=(sq (sq (rF [m1 27 8,m1 28 7,o1 29 (nX 28),o1 30 (aX .lss 27 29)]) (cn 30 .skip (.exit 2))) (sq (.block 3 (rT [m1 33 5,m1 34 0,m1 35 6,o1 36 (iX 1 34 35),lF 37 1
  36,o1 38 (.buildSlice 1 [[.v (.int .i64 0)]] [(0,(t1 37))]),m1 39 7,m1 40 8,o1 41 (iX 1 39 40),lF 42 1 41,o1 43 (.append 1 (t1 38) (t1 42)),o1 44 (.buildSlice 1 [[.slice .aA 0 []]] [(0,
  (t1 43))]),o1 45 (.append 1 (t1 33) (t1 44)),m1 5 45])) (rF [m1 31 8,o1 32 (aK .add 31 1),m1 8 32])))
def Dt:aw:=(sq (sq (rF [m1 12 6,m1 13 1,o1 14 (aX .add 12 13),m1 15 0,o1 16 (nX 15),o1 17 (aX .leq 14 16)]) (cn 17 .skip (.exit 0))) (sq (.block 1 (sq (rF [m1 20 0,m1 21 6,o1
  22 (aK .add 21 1),o1 23 (.slice (.sl 1) (t1 20) (some (t1 22)) none none),m1 24 1,o1 25 (aK .sub 24 1),o1 26 (cF 73 [t1 23,t1 25]),m1 7 26]) (sq (rF [o1 8 (mI 0)]) (.block 2 (.loop
  IH))))) Nh))
def Ng:aw:=(sq (rF [o1 4 (.move (.const (.slice .aA 0 [])))]) (sq (sq (rF [m1 9 1,o1 10 (aK .eql 9 0)]) (cn 10 (sq (rF [o1 11 (.buildSlice 1 [[.slice .aA 0 []]] [(0,(.const
  (.slice .aA 0 [])))]),m1 4 11]) .ret) .skip)) (sq (rF [o1 5 (.move (.const (.slice .aA 0 [])))]) (sq (sq (rF [o1 6 (mI 0)]) (.block 0 (.loop Dt))) II))))
abbrev anF:List K:=[.blk 2,.blk 1,.c Nh,.lp Dt,.blk 0,.c II]
abbrev anD:List K:=[.blk 0,.c II]
abbrev Wy:=aY [(.tmp 4)] false
def A8:aJ:=.code 2 47 Ng [(.tmp 4)] false
-- 74
def IL:aw:=(sq (rF [o1 4 (mB false)]) .ret)
def Nl:aw:=(rF [m1 12 5,o1 13 (aK .add 12 1),m1 5 13])
def Dx:aw:=(sq (sq (rF [m1 14 6,fA 15 2 2,lF 16 1 15,fA 17 0 3,lF 18 1 17,o1 19 (iX 7 16 18),fA 20 3 19,lF 21 1 20,o1 22 (aX .lss 14 21)]) (cn 22 .skip (.exit 2))) (sq (.block
  3 (sq (rT [fA 25 1 2,lF 26 1 25,fA 27 2 3,lF 28 1 27,m1 29 5,o1 30 (iX 1 28 29),lF 31 1 30,o1 32 (iX 3 26 31),lT 33 3 32,fA 34 1 3,lF 35 1 34,m1 36 6,o1 37 (aX .add 35 36),o1 38 (cF 94
  [t1 33,t1 37])]) (cn 38 (sq (rF [o1 4 (mB true)]) .ret) .skip))) (rF [m1 23 6,o1 24 (aK .add 23 1),m1 6 24])))
def Dw:aw:=(sq (sq (rF [m1 7 5,fA 8 2 3,lF 9 1 8,o1 10 (nX 9),o1 11 (aX .lss 7 10)]) (cn 11 .skip (.exit 0))) (sq (.block 1 (sq (rF [o1 6 (mI 0)]) (.block 2 (.loop Dx))))
  Nl))
def Up:aw:=(sq (rF [o1 2 (.box 3 (t1 0)),o1 3 (.box 3 (t1 1)),o1 4 (mB false)]) (sq (sq (rF [o1 5 (mI 0)]) (.block 0 (.loop Dw))) IL))
abbrev anK:List K:=[.blk 2,.blk 1,.c Nl,.lp Dw,.blk 0,.c IL]
abbrev anJ:List K:=[.blk 0,.c IL]
abbrev WB:=aY [(.tmp 4)] false
def Et:aJ:=.code 2 39 Up [(.tmp 4)] false
-- 75
def MR:aw:=(sq (rF [o1 4 (mB false)]) .ret)
def C8:aw:=(sq (sq (rF [m1 6 5,m1 7 0,o1 8 (nX 7),o1 9 (aX .lss 6 8)]) (cn 9 .skip (.exit 0))) (sq (.block 1 (sq (rF [m1 12 0,m1 13 5,o1 14 (iX 1 12 13),lF 15 1 14,m1 16 1,o1 17
  (aX .eql 15 16)]) (cn 17 (sq (rF [o1 4 (mB true)]) .ret) .skip))) (rF [m1 10 5,o1 11 (aK .add 10 1),m1 5 11])))
def T5:aw:=(sq (rF [o1 4 (mB false)]) (sq (sq (rF [o1 5 (mI 0)]) (.block 0 (.loop C8))) MR))
abbrev am6:List K:=[.blk 0,.c MR]
abbrev agf:=aY [(.tmp 4)] false
def DZ:aJ:=.code 2 18 T5 [(.tmp 4)] false
-- 80
def T8:aw:=(sq (rF [o1 6 (mB false)]) (sq (rF [m1 7 1,m1 8 0,o1 9 (aX .leq 7 8),m1 10 9,gT 11 10 (mX 0),gT 12 10 (mX 2),gT 13 10 (aX .leq 11 12),o1 14 (pA 10 13),m1 6 14])
  .ret))
abbrev au2:=aY [(.tmp 6)] false
def D2:aJ:=.code 3 15 T8 [(.tmp 6)] false
-- 81
def Nf:aw:=(sq (rF [o1 4 (mI 0)]) .ret)
def Dq:aw:=(sq (sq (rF [m1 40 7,fA 41 2 5,lF 42 1 41,o1 43 (nX 42),o1 44 (aX .lss 40 43)]) (cn 44 .skip (.exit 2))) (sq (.block 3 (sq (rT [lT 47 3 2,fA 48 2 5,lF 49 1 48,
  m1 50 7,o1 51 (iX 2 49 50),lT 52 2 51,o1 53 (cF 99 [t1 47,t1 52]),m1 8 53]) (sq (rF [m1 54 8,o1 55 (aK .neq 54 0)]) (cn 55 (sq (rF [m1 56 8,m1 4 56]) .ret) .skip)))) (rF [m1 45 7,o1 46 (aK
  .add 45 1),m1 7 46])))
def Dr:aw:=(sq (sq (rF [fA 32 1 5,lF 33 1 32,o1 34 (cF 80 [t1 33,i1 0,i1 50]),o1 35 (uX 34)]) (cn 35 (sq (rF [o1 4 (mI 2)]) .ret) .skip)) (sq (sq (rF [fA 36 2 5,lF 37 1 36,
  o1 38 (nX 37),o1 39 (aK .gtr 38 6)]) (cn 39 (sq (rF [o1 4 (mI 8)]) .ret) .skip)) (sq (sq (rF [o1 7 (mI 0)]) (.block 2 (.loop Dq))) Nf)))
def yr:aw:=(sq (sq (rF [m1 18 6,m1 19 1,o1 20 (aX .lss 18 19)]) (cn 20 .skip (.exit 0))) (sq (.block 1 (sq (rT [fA 23 1 2,lF 24 1 23,m1 25 6,o1 26 (iX 3 24 25),fA 27 0 26,
  lF 28 1 27,fA 29 0 5,lF 30 1 29,o1 31 (aX .eql 28 30)]) (cn 31 (sq (rF [o1 4 (mI 5)]) .ret) .skip))) (rF [m1 21 6,o1 22 (aK .add 21 1),m1 6 22])))
def Nd : aw := (sq (rF [o1 2 (.box 3 (t1 0)), o1 4 (mI 0)]) (sq (rF [fA 9 1 2, lF 10 1 9, m1 11 1, o1 12 (iX 3 10 11), lT 13 3 12, o1 5 (.alloc [.v (.string ⟨#[]⟩), .v (.int .i64 0),
  .slice .aA 0 []]),sT 3 5 13]) (sq (sq (rF [fA 14 0 5,lF 15 1 14,o1 16 (cF 98 [t1 15]),o1 17 (uX 16)]) (cn 17 (sq (rF [o1 4 (mI 4)]) .ret) .skip)) (sq (sq (rF [o1 6 (mI 0)]) (.block 0 (.loop
  yr))) Dr))))
abbrev anB:List K:=[.blk 2,.c Nf]
abbrev anC:List K:=[.blk 0,.c Dr]
abbrev Wx:=aY [(.tmp 4)] false
def En:aJ:=.code 2 57 Nd [(.tmp 4)] false
-- 82
def Nk:aw:=(sq (sq (rF [fA 74 6 3,lF 75 1 74,fA 76 5 3,lF 77 1 76,o1 78 (nX 77),o1 79 (cF 80 [t1 75,i1 1,t1 78]),o1 80 (uX 79)]) (cn 80 (sq (rF [o1 4 (mI 2)]) .ret)
  .skip)) (sq (rF [o1 4 (mI 0)]) .ret))
def wF:aw:=(sq (sq (rF [m1 40 6,fA 41 5 3,lF 42 1 41,o1 43 (nX 42),o1 44 (aX .lss 40 43)]) (cn 44 .skip (.exit 0))) (sq (.block 1 (sq (sq (rT [fA 47 5 3,lF 48 1 47,m1 49 6,
  o1 50 (iX 1 48 49),lF 51 1 50,fA 52 1 2,lF 53 1 52,o1 54 (nX 53),o1 55 (aK .sub 54 1),o1 56 (cF 80 [t1 51,i1 0,t1 55]),o1 57 (uX 56)]) (cn 57 (sq (rF [o1 4 (mI 6)]) .ret) .skip)) (sq (rT
  [m1 58 6,o1 59 (aK .gtr 58 0),m1 60 59,gT 61 60 (fX 5 3),gT 62 60 (lX 1 61),gT 63 60 (mX 6),gT 64 60 (iX 1 62 63),gT 65 60 (lX 1 64),gT 66 60 (fX 5 3),gT 67 60 (lX 1 66),gT 68 60 (mX 6),
  gT 69 60 (aK .sub 68 1),gT 70 60 (iX 1 67 69),gT 71 60 (lX 1 70),gT 72 60 (aX .leq 65 71),o1 73 (pA 60 72)]) (cn 73 (sq (rF [o1 4 (mI 9)]) .ret) .skip)))) (rF [m1 45 6,o1 46 (aK .add 45 1),m1
  6 46])))
def yu:aw:=(sq (rF [o1 2 (.box 3 (t1 0)),o1 3 (.box 7 (t1 1)),o1 4 (mI 0)]) (sq (sq (rF [fA 7 0 3,lF 8 1 7,o1 9 (cF 98 [t1 8]),o1 10 (uX 9)]) (cn 10 (sq (rF [o1 4 (mI 4)])
  .ret) .skip)) (sq (sq (rF [lT 11 3 2,fA 12 1 3,lT 13 2 12,o1 14 (cF 99 [t1 11,t1 13]),m1 5 14]) (sq (rF [m1 15 5,o1 16 (aK .neq 15 0)]) (cn 16 (sq (rF [m1 17 5,m1 4 17]) .ret) .skip))) (sq
  (sq (rF [fA 18 3 3,lF 19 1 18,fA 20 1 3,fA 21 1 20,lF 22 1 21,fA 23 1 3,fA 24 0 23,lF 25 1 24,o1 26 (aX .sub 22 25),o1 27 (aK .add 26 1),o1 28 (cF 80 [t1 19,i1 1,t1 27]),o1 29 (uX 28),
  m1 30 29,gF 31 30 (fX 4 3),gF 32 30 (lX 1 31),gF 33 30 (cF 80 [t1 32,i1 0,i1 100000]),gF 34 30 (uX 33),o1 35 (pB 30 34)]) (cn 35 (sq (rF [o1 4 (mI 2)]) .ret) .skip)) (sq (sq (rF [fA 36 5 3,
  lF 37 1 36,o1 38 (nX 37),o1 39 (aK .eql 38 0)]) (cn 39 (sq (rF [o1 4 (mI 10)]) .ret) .skip)) (sq (sq (rF [o1 6 (mI 0)]) (.block 0 (.loop wF))) Nk))))))
abbrev Y8:List K:=[.blk 0,.c Nk]
abbrev WA:=aY [(.tmp 4)] false
def Es:aJ:=.code 2 81 yu [(.tmp 4)] false
-- 83
def Np:aw:=(sq (rF [o1 65 (.build [.v (.int .i64 0),.v (.int .i64 0)] []),sT 2 2 65,o1 3 (mI 0)]) .ret)
def IM : aw := (sq (rF [o1 52 (aX .lss 51 50)]) (sq (cn 52 .skip (.exit 2)) (sq (.block 3 (sq (rF [m1 53 51, o1 54 (iX 7 49 51), lT 55 7 54, o1 9 (.alloc [.v (.string ⟨#[]⟩), .v (.int
  .i64 0),.v (.int .i64 0),.v (.int .i64 0),.v (.int .i64 0),.slice .aA 0 [],.v (.int .i64 0)]),m1 8 53,sT 7 9 55]) (sq (rF [lT 56 3 1,lT 57 7 9,o1 58 (cF 101 [t1 56,t1 57]),m1 10 58])
  (sq (rF [m1 59 10,o1 60 (aK .neq 59 0)]) (cn 60 (sq (rF [m1 61 8,o1 62 (.build [.v (.int .i64 0),.v (.int .i64 0)] [(0,(1,(i1 2))),(1,(1,(t1 61)))]),m1 63 10,sT 2 2 62,m1 3 63]) .ret)
  .skip))))) (rF [o1 64 (aK .add 51 1),m1 51 64]))))
def Nq:aw:=(sq (sq (rF [fA 48 2 1,lF 49 1 48,o1 50 (nX 49),o1 51 (mI 0)]) (.block 2 (.loop IM))) Np)
def IP:aw:=(sq (rF [o1 37 (aX .lss 36 35)]) (sq (cn 37 .skip (.exit 0)) (sq (.block 1 (sq (rF [m1 38 36,m1 6 38]) (sq (rF [lT 39 3 1,m1 40 6,o1 41 (cF 100 [t1 39,t1 40]),m1 7
  41]) (sq (rF [m1 42 7,o1 43 (aK .neq 42 0)]) (cn 43 (sq (rF [m1 44 6,o1 45 (.build [.v (.int .i64 0),.v (.int .i64 0)] [(0,(1,(i1 1))),(1,(1,(t1 44)))]),m1 46 7,sT 2 2 45,m1 3 46]) .ret)
  .skip))))) (rF [o1 47 (aK .add 36 1),m1 36 47]))))
def Ur:aw:=(sq (rF [o1 1 (.box 3 (t1 0)),o1 2 (.alloc [.v (.int .i64 0),.v (.int .i64 0)]),o1 3 (mI 0)]) (sq (rF [fA 11 1 1,lF 12 1 11,o1 13 (nX 12),o1 14 (aK .leq 13 4),m1 15
  14,gT 16 15 (fX 2 1),gT 17 15 (lX 1 16),gT 18 15 (nX 17),gT 19 15 (aK .leq 18 12),o1 20 (pA 15 19),m1 4 20]) (sq (sq (rF [fA 21 0 1,lF 22 1 21,o1 23 (cF 61 [t1 22,i1 1,i1 200]),o1 24 (cF
  39 [t1 23,i1 2]),m1 25 4,o1 26 (cF 39 [t1 25,i1 8]),o1 27 (.buildSlice 1 [[.v (.int .i64 0)],[.v (.int .i64 0)]] [(0,(t1 24)),(1,(t1 26))]),o1 28 (cF 32 [t1 27]),m1 5 28]) (sq (rF [m1 29
  5,o1 30 (aK .neq 29 0)]) (cn 30 (sq (rF [o1 31 (.build [.v (.int .i64 0),.v (.int .i64 0)] []),m1 32 5,sT 2 2 31,m1 3 32]) .ret) .skip))) (sq (sq (rF [fA 33 1 1,lF 34 1 33,o1 35 (nX 34),o1
  36 (mI 0)]) (.block 0 (.loop IP))) Nq))))
abbrev anL:List K:=[.blk 2,.c Np]
abbrev anM:List K:=[.blk 0,.c Nq]
abbrev WC:=aY [(.cell true 2 2),(.tmp 3)] false
def Ew:aJ:=.code 1 66 Ur [(.cell true 2 2),(.tmp 3)] false
-- 84
def N2:aw:=(sq (rF [o1 4 (mI (-1))]) .ret)
def Jh:aw:=(sq (rF [o1 9 (aX .lss 8 7)]) (sq (cn 9 .skip (.exit 0)) (sq (.block 1 (sq (rF [m1 10 8,m1 5 10]) (sq (rF [m1 11 1,m1 12 0,m1 13 5,o1 14 (iX 7 12
  13),lT 15 7 14,o1 16 (.kB false (t1 11) [t1 15])]) (cn 16 (sq (rF [m1 17 5,m1 4 17]) .ret) .skip)))) (rF [o1 18 (aK .add 8 1),m1 8 18]))))
def U6:aw:=(sq (rF [o1 4 (mI 0)]) (sq (sq (rF [m1 6 0,o1 7 (nX 6),o1 8 (mI 0)]) (.block 0 (.loop Jh)))
  N2))
abbrev aod:List K:=[.blk 0,.c N2]
abbrev agI:=aY [(.tmp 4)] false
def Fj:aJ:=.code 2 19 U6 [(.tmp 4)] false
-- 85
def UR:aw:=(sq (rF [o1 2 (.box 1 (t1 0)),o1 3 (.box 1 (t1 1)),o1 4 (.move (.const (.v .nilFunc)))]) (sq (rF [o1 5 (.oL 102 [] [t1 2,t1 3]),m1 4 5]) .ret))
abbrev avA:=aY [(.tmp 4)] false
def E3:aJ:=.code 2 6 UR [(.tmp 4)] false
-- 86
def UM:aw:=(sq (rF [o1 3 (.box 1 (t1 0)),o1 4 (.box 3 (t1 1)),o1 6 (mB false)]) (sq (rF [m1 7 2,o1 8 (.oL 104 [] [t1 3,t1 4]),o1 9 (cF 103 [t1 7,t1 8]),m1 6 9]) .ret))
abbrev avw:=aY [(.tmp 6)] false
def EW:aJ:=.code 3 10 UM [(.tmp 6)] false
-- 87
def N5:aw:=(sq (rF [o1 4 (mI (-1))]) .ret)
def Jk:aw:=(sq (rF [o1 9 (aX .lss 8 7)]) (sq (cn 9 .skip (.exit 0)) (sq (.block 1 (sq (rF [m1 10 8,m1 5 10]) (sq (rF [m1 11 1,m1 12 0,m1 13 5,o1 14 (iX 1 12 13),lF 15 1 14,
  o1 16 (aX .eql 11 15)]) (cn 16 (sq (rF [m1 17 5,m1 4 17]) .ret) .skip)))) (rF [o1 18 (aK .add 8 1),m1 8 18]))))
def U9:aw:=(sq (rF [o1 4 (mI 0)]) (sq (sq (rF [m1 6 0,o1 7 (nX 6),o1 8 (mI 0)]) (.block 0 (.loop Jk))) N5))
abbrev aog:List K:=[.blk 0,.c N5]
abbrev agL:=aY [(.tmp 4)] false
def Fm:aJ:=.code 2 19 U9 [(.tmp 4)] false
-- 88
def NX:aw:=(sq (rF [o1 2 (.move (.const (.slice .aA 0 [])))]) (sq (sq (rF [m1 3 0,o1 4 (.eqv false .slice (t1 3) (.const (.slice .aA 0 [])))]) (cn 4 (sq (rF [o1 2
  (.move (.const (.slice .aA 0 [])))]) .ret) .skip)) (sq (rF [o1 5 (.buildSlice 3 [] []),m1 6 0,o1 7 (.append 3 (t1 5) (t1 6)),m1 2 7]) .ret)))
abbrev avC:=aY [(.tmp 2)] true
def Bf:aJ:=.code 1 8 NX [(.tmp 2)] true
-- 89
def UP:aw:=(sq (rF [o1 8 (mB false)]) (sq (rF [m1 9 0,m1 10 1,o1 11 (.nilCheck (t1 9)),fA 12 3 11,o1 13 (.indexAddr (some 4) 200 (t1 12) (t1 10)),m1 14 2,m1 15 2,m1 16 3,o1 17
  (aX .add 15 16),o1 18 (.slice (.arr 200 1) (t1 13) (some (t1 14)) (some (t1 17)) none),o1 19 (cF 105 [t1 18,bT]),o1 20 (uX 19),m1 8 20]) .ret))
abbrev avz:=aY [(.tmp 8)] false
def EZ:aJ:=.code 4 21 UP [(.tmp 8)] false
-- 90
def Jg:aw:=(sq (rF [o1 4 (mI (-1))]) .ret)
def yB:aw:=(sq (rF [o1 9 (aX .lss 8 7)]) (sq (cn 9 .skip (.exit 0)) (sq (.block 1 (sq (rF [m1 10 8,m1 5 10]) (sq (rF [m1 11 1,m1 12 0,m1 13 5,o1 14 (iX 3 12 13),
  lT 15 3 14,o1 16 (.kB false (t1 11) [t1 15])]) (cn 16 (sq (rF [m1 17 5,m1 4 17]) .ret) .skip)))) (rF [o1 18 (aK .add 8 1),m1 8 18]))))
def N1:aw:=(sq (rF [o1 4 (mI 0)]) (sq (sq (rF [m1 6 0,o1 7 (nX 6),o1 8 (mI 0)]) (.block 0 (.loop yB))) Jg))
abbrev Ze:List K:=[.blk 0,.c Jg]
abbrev WI:=aY [(.tmp 4)] false
def Bg:aJ:=.code 2 19 N1 [(.tmp 4)] false
-- 91
def UB:aw:=(sq (rF [o1 2 (.box 3 (t1 0)),o1 3 (mB false)]) (sq (rF [fA 4 0 2,lF 5 1 4,lF 6 1 1,o1 7 (aX .eql 5 6),m1 3 7]) .ret))
abbrev avm:=aY [(.tmp 3)] false
def EJ:aJ:=.code 2 8 UB [(.tmp 3)] false
-- 92
def It:aw:=(sq (rF [o1 4 (mI 0)]) (sq (rF [m1 7 0,o1 8 (cF 106 [t1 7]),m1 5 8]) (sq (rF [m1 9 1,o1 10 (cF 106 [t1 9]),m1 6 10]) (sq (sq (rF [m1 11 5]) (cn 11 (sq (sq (rF [m1
  12 6]) (cn 12 (sq (rF [o1 4 (mI 0)]) .ret) .skip)) (sq (rF [o1 4 (mI (-1))]) .ret)) .skip)) (sq (sq (rF [m1 13 6]) (cn 13 (sq (rF [o1 4 (mI 1)]) .ret) .skip)) (sq (sq (rF [m1 14 0,m1 15 1,o1 16
  (aX .lss 14 15)]) (cn 16 (sq (rF [o1 4 (mI (-1))]) .ret) .skip)) (sq (sq (rF [m1 17 0,m1 18 1,o1 19 (aX .gtr 17 18)]) (cn 19 (sq (rF [o1 4 (mI 1)]) .ret) .skip)) (sq (rF [o1 4 (mI 0)])
  .ret))))))))
abbrev au3:=aY [(.tmp 4)] false
def yI:aJ:=.code 2 20 It [(.tmp 4)] false
-- 93
def UK:aw:=(sq (rF [o1 3 (.box 1 (t1 0)),o1 4 (.box 3 (t1 1)),o1 5 (.box 3 (t1 2)),o1 6 (mB false)]) (sq (sq (rF [fA 8 0 4,lF 9 1 8,fA 10 0 5,lF 11 1 10,o1 12 (aX .eql 9 11)])
  (cn 12 (sq (rF [o1 6 (mB true)]) .ret) .skip)) (sq (sq (rF [fA 13 1 5,lF 14 1 13,fA 15 1 4,lF 16 1 15,o1 17 (aX .lss 14 16)]) (cn 17 (rF [lT 18 3 5,lT 19 3 4,sT 3 4 18,sT 3 5 19]) .skip)) (sq
  (rT [lF 20 1 3,o1 21 (.nilCheck (t1 20)),fA 22 0 21,fA 23 2 22,lF 24 1 23,fA 25 0 4,lF 26 1 25,o1 27 (iX 7 24 26),fA 28 0 27,lF 29 1 28,lF 30 1 3,o1 31 (.nilCheck (t1 30)),fA 32 0 31,fA
  33 2 32,lF 34 1 33,fA 35 0 5,lF 36 1 35,o1 37 (iX 7 34 36),fA 38 0 37,lF 39 1 38,o1 40 (aX .eql 29 39),o1 7 (.alloc [.v (.bool false)]),sT 1 7 40]) (sq (rF [fA 41 2 4,lF 42 1 41,o1 43
  (.oL 108 [] [t1 3,t1 7,t1 5,t1 4]),o1 44 (cF 107 [t1 42,t1 43]),m1 6 44]) .ret)))))
abbrev avu:=aY [(.tmp 6)] false
def EU:aJ:=.code 3 45 UK [(.tmp 6)] false
-- 94
def Ni:aw:=(sq (rF [o1 4 (mB false)]) .ret)
def Du:aw:=(sq (sq (rF [m1 6 5,fA 7 2 2,lF 8 1 7,o1 9 (nX 8),o1 10 (aX .lss 6 9)]) (cn 10 .skip (.exit 0))) (sq (.block 1 (sq (rT [m1 13 1,fA 14 2 2,lF 15 1 14,m1 16 5,o1 17
  (iX 2 15 16),fA 18 0 17,lF 19 1 18,fA 20 2 2,lF 21 1 20,m1 22 5,o1 23 (iX 2 21 22),fA 24 1 23,lF 25 1 24,o1 26 (cF 80 [t1 13,t1 19,t1 25])]) (cn 26 (sq (rF [o1 4 (mB true)]) .ret)
  .skip))) (rF [m1 11 5,o1 12 (aK .add 11 1),m1 5 12])))
def Uo:aw:=(sq (rF [o1 2 (.box 3 (t1 0)),o1 4 (mB false)]) (sq (sq (rF [o1 5 (mI 0)]) (.block 0 (.loop Du))) Ni))
abbrev anG:List K:=[.blk 0,.c Ni]
abbrev ags:=aY [(.tmp 4)] false
def Eo:aJ:=.code 2 27 Uo [(.tmp 4)] false
-- 98
def MS:aw:=(sq (rF [o1 2 (mB true)]) .ret)
def C9:aw:=(sq (sq (rF [m1 14 3,m1 15 0,o1 16 (.len true (t1 15)),o1 17 (aX .lss 14 16)]) (cn 17 .skip (.exit 0))) (sq (.block 1 (sq (rF [m1 20 0,m1 21 3,o1 22 (.GS (t1
  20) (t1 21)),m1 4 22]) (sq (rF [m1 23 4,o1 24 (.arith .geq (t1 23) (.const (.v (.int .u8 97)))),m1 25 24,gT 26 25 (mX 4),gT 27 25 (.arith .leq (t1 26) (.const (.v (.int .u8 122)))),o1 28 (pA
  25 27),m1 29 28,gF 30 29 (mX 4),gF 31 29 (.arith .geq (t1 30) (.const (.v (.int .u8 65)))),gF 32 29 (mX 31),gT 33 32 (mX 4),gT 34 32 (.arith .leq (t1 33) (.const (.v (.int .u8 90)))),gF 35 29
  (pA 32 34),o1 36 (pB 29 35),m1 5 36]) (sq (rF [m1 37 5,o1 38 (uX 37),m1 39 38,gT 40 39 (mX 3),gT 41 39 (aK .eql 40 0),gT 42 39 (mX 41),gF 43 42 (mX 4),gF 44 42 (.arith .neq (t1 43) (.const
  (.v (.int .u8 45)))),gF 45 42 (mX 44),gT 46 45 (mX 4),gT 47 45 (.arith .lss (t1 46) (.const (.v (.int .u8 48)))),gT 48 45 (mX 47),gF 49 48 (mX 4),gF 50 48 (.arith .gtr (t1 49) (.const (.v
  (.int .u8 57)))),gT 51 45 (pB 48 50),gF 52 42 (pA 45 51),gT 53 39 (pB 42 52),o1 54 (pA 39 53)]) (cn 54 (sq (rF [o1 2 (mB false)]) .ret) .skip))))) (rF [m1 18 3,o1 19 (aK .add 18 1),m1 3 19])))
def T7:aw:=(sq (rF [o1 2 (mB false)]) (sq (sq (rF [m1 6 0,o1 7 (.len true (t1 6)),o1 8 (aK .lss 7 1),m1 9 8,gF 10 9 (mX 0),gF 11 9 (.len true (t1 10)),gF 12 9 (aK .gtr 11 12),o1
  13 (pB 9 12)]) (cn 13 (sq (rF [o1 2 (mB false)]) .ret) .skip)) (sq (sq (rF [o1 3 (mI 0)]) (.block 0 (.loop C9))) MS)))
abbrev Y7:List K:=[.blk 0,.c MS]
abbrev Wq:=aY [(.tmp 2)] false
def D1:aJ:=.code 1 55 T7 [(.tmp 2)] false
-- 99
def Uq:aw:=(sq (rF [o1 2 (.box 3 (t1 0)),o1 3 (.box 2 (t1 1)),o1 4 (mI 0)]) (sq (sq (rF [fA 5 0 3,lF 6 1 5,fA 7 0 2,lF 8 1 7,o1 9 (aK .sub 8 1),o1 10 (cF 80 [t1 6,i1 0,t1
  9]),o1 11 (uX 10),m1 12 11,gF 13 12 (fX 1 3),gF 14 12 (lX 1 13),gF 15 12 (fX 0 2),gF 16 12 (lX 1 15),gF 17 12 (aK .sub 16 1),gF 18 12 (cF 80 [t1 14,i1 0,t1 17]),gF 19 12 (uX 18),o1 20
  (pB 12 19)]) (cn 20 (sq (rF [o1 4 (mI 2)]) .ret) .skip)) (sq (sq (rF [fA 21 0 3,lF 22 1 21,fA 23 1 3,lF 24 1 23,o1 25 (aX .gtr 22 24)]) (cn 25 (sq (rF [o1 4 (mI 9)]) .ret) .skip)) (sq (rF [o1 4
  (mI 0)]) .ret))))
abbrev avb:=aY [(.tmp 4)] false
def Eu:aJ:=.code 2 26 Uq [(.tmp 4)] false
-- 100
def Nz:aw:=(sq (rF [m1 53 7,m1 4 53]) .ret)
def I0:aw:=(sq (rF [o1 43 (aX .lss 42 41)]) (sq (cn 43 .skip (.exit 0)) (sq (.block 1 (sq (rF [o1 44 (iX 2 40 42),lT 45 2 44,o1 9 (.alloc [.v (.int .i64 0),.v (.int .i64 0)]),
  sT 2 9 45]) (rF [m1 46 7,lT 47 3 2,lT 48 2 9,o1 49 (cF 119 [t1 47,t1 48]),o1 50 (.buildSlice 1 [[.v (.int .i64 0)],[.v (.int .i64 0)]] [(0,(t1 46)),(1,(t1 49))]),o1 51 (cF 32 [t1 50]),m1
  7 51]))) (rF [o1 52 (aK .add 42 1),m1 42 52]))))
def Ut : aw := (sq (rF [o1 2 (.box 3 (t1 0)), o1 4 (mI 0)]) (sq (rF [fA 10 1 2, lF 11 1 10, m1 12 1, o1 13 (iX 3 11 12), lT 14 3 13, o1 5 (.alloc [.v (.string ⟨#[]⟩), .v (.int .i64 0),
  .slice .aA 0 []]),sT 3 5 14]) (sq (rF [fA 15 1 2,lF 16 1 15,m1 17 1,o1 18 (.slice (.sl 3) (t1 16) none (some (t1 17)) none),o1 19 (.oL 117 [] [t1 5]),o1 20 (cF 116 [t1 18,t1 19]),m1 6
  20]) (sq (rT [fA 21 0 5,lF 22 1 21,o1 23 (.call true 118 [t1 22]),o1 24 (.call true 39 [t1 23,i1 4]),m1 25 6,o1 26 (uX 25),o1 27 (.call true 39 [t1 26,i1 5]),fA 28 1 5,lF 29 1 28,o1 30
  (.call true 61 [t1 29,i1 0,i1 50]),o1 31 (.call true 39 [t1 30,i1 2]),fA 32 2 5,lF 33 1 32,o1 34 (nX 33),o1 35 (aK .leq 34 6),o1 36 (cF 39 [t1 35,i1 8]),o1 37 (.buildSlice 1 [[.v (.int
  .i64 0)],[.v (.int .i64 0)],[.v (.int .i64 0)],[.v (.int .i64 0)]] [(0,(t1 24)),(1,(t1 27)),(2,(t1 31)),(3,(t1 36))]),o1 38 (cF 32 [t1 37]),m1 7 38]) (sq (sq (rF [fA 39 2 5,lF 40 1 39,
  o1 41 (nX 40),o1 42 (mI 0)]) (.block 0 (.loop I0))) Nz)))))
abbrev anU:List K:=[.blk 0,.c Nz]
abbrev agv:=aY [(.tmp 4)] false
def Ey:aJ:=.code 2 54 Ut [(.tmp 4)] false
-- 101
def NJ:aw:=(sq (rF [m1 71 5,fA 72 6 3,lF 73 1 72,fA 74 5 3,lF 75 1 74,o1 76 (nX 75),o1 77 (cF 61 [t1 73,i1 1,t1 76]),o1 78 (cF 39 [t1 77,i1 2]),o1 79 (.buildSlice 1
  [[.v (.int .i64 0)],[.v (.int .i64 0)]] [(0,(t1 71)),(1,(t1 78))]),o1 80 (cF 32 [t1 79]),m1 4 80]) .ret)
def I7:aw:=(sq (rF [o1 52 (aX .lss 51 50)]) (sq (cn 52 .skip (.exit 0)) (sq (.block 1 (sq (rF [o1 53 (iX 1 49 51),lF 54 1 53,m1 9 54]) (sq (rF [m1 55 5,m1 56 9,fA 57 1 2,lF
  58 1 57,o1 59 (nX 58),o1 60 (aK .sub 59 1),o1 61 (cF 61 [t1 56,i1 0,t1 60]),o1 62 (cF 39 [t1 61,i1 6]),m1 63 9,m1 64 7,o1 65 (aX .gtr 63 64),o1 66 (cF 39 [t1 65,i1 9]),o1 67
  (.buildSlice 1 [[.v (.int .i64 0)],[.v (.int .i64 0)],[.v (.int .i64 0)]] [(0,(t1 55)),(1,(t1 62)),(2,(t1 66))]),o1 68 (cF 32 [t1 67]),m1 5 68]) (rF [m1 69 9,m1 7 69])))) (rF [o1 70 (aK
  .add 51 1),m1 51 70]))))
def UC:aw:=(sq (rF [o1 2 (.box 3 (t1 0)),o1 3 (.box 7 (t1 1)),o1 4 (mI 0)]) (sq (rT [fA 10 0 3,lF 11 1 10,o1 12 (.call true 118 [t1 11]),o1 13 (.call true 39 [t1 12,i1 4]),lT
  14 3 2,fA 15 1 3,lT 16 2 15,o1 17 (cF 119 [t1 14,t1 16]),o1 18 (.buildSlice 1 [[.v (.int .i64 0)],[.v (.int .i64 0)]] [(0,(t1 13)),(1,(t1 17))]),o1 19 (cF 32 [t1 18]),m1 5 19]) (sq (sq
  (rF [m1 20 5,o1 21 (aK .neq 20 0)]) (cn 21 (sq (rF [m1 22 5,m1 4 22]) .ret) .skip)) (sq (rF [fA 23 3 3,lF 24 1 23,fA 25 1 3,fA 26 1 25,lF 27 1 26,fA 28 1 3,fA 29 0 28,lF 30 1 29,o1 31 (aX
  .sub 27 30),o1 32 (aK .add 31 1),o1 33 (cF 61 [t1 24,i1 1,t1 32]),m1 34 33,gT 35 34 (fX 4 3),gT 36 34 (lX 1 35),gT 37 34 (cF 61 [t1 36,i1 0,i1 100000]),o1 38 (pA 34 37),m1 6 38]) (sq (rT
  [m1 39 6,o1 40 (.call true 39 [t1 39,i1 2]),fA 41 5 3,lF 42 1 41,o1 43 (nX 42),o1 44 (aK .gtr 43 0),o1 45 (cF 39 [t1 44,i1 10]),o1 46 (.buildSlice 1 [[.v (.int .i64 0)],[.v (.int .i64 0)]]
  [(0,(t1 40)),(1,(t1 45))]),o1 47 (cF 32 [t1 46]),m1 5 47]) (sq (rF [o1 7 (mI (-1))]) (sq (sq (rF [fA 48 5 3,lF 49 1 48,o1 50 (nX 49),o1 51 (mI 0)]) (.block 0 (.loop I7)))
  NJ)))))))
abbrev an0:List K:=[.blk 0,.c NJ]
abbrev agy:=aY [(.tmp 4)] false
def EK:aJ:=.code 2 81 UC [(.tmp 4)] false
-- 102
def AY:aw:=(sq (sq (rF [lF 62 1 5]) (rF [o1 5 (.alloc [.v (.int .i64 0)]),sT 1 5 62])) (rF [lF 30 1 5,o1 31 (aK .add 30 1),sT 1 5 31]))
def kA:aw:=(.block 5 (sq (rF [lF 55 1 3,lF 56 1 2,lF 57 1 5,m1 58 9,o1 59 (.build [.v (.int .i64 0),.v (.int .i64 0),.slice .aA 0 []] [(0,(1,(t1 56))),(1,(1,(t1
  57))),(2,(1,(t1 58)))]),o1 60 (.kB false (t1 55) [t1 59]),o1 61 (uX 60)]) (cn 61 .ret .skip)))
def kz:aw:=(rF [m1 9 54])
def NV:aw:=(sq (rF [m1 50 6,fA 51 6 4,lF 52 1 51,o1 53 (cF 35 [t1 50,t1 52])]) (.block 4 (.rangeFunc (t1 53) [54] kz kA)))
def DO:aw:=(sq (rF [o1 36 (aX .lss 35 34)]) (sq (cn 36 .skip (.exit 2)) (sq (.block 3 (sq (rF [o1 37 (iX 1 33 35),lF 38 1 37,m1 8 38]) (sq (rF [lF 39 1 1,m1 40 8,lF 41 1 5,
  fA 42 3 4,lF 43 1 42,o1 44 (cF 89 [t1 39,t1 40,t1 41,t1 43])]) (cn 44 (rF [m1 45 6,m1 46 8,o1 47 (.buildSlice 1 [[.v (.int .i64 0)]] [(0,(t1 46))]),o1 48 (.append 1 (t1 45) (t1 47)),m1 6
  48]) .skip)))) (rF [o1 49 (aK .add 35 1),m1 35 49]))))
def wJ:aw:=(sq (sq (rF [lF 21 1 5,fA 22 3 4,lF 23 1 22,o1 24 (aX .add 21 23),o1 25 (aK .sub 24 1),fA 26 1 4,fA 27 1 26,lF 28 1 27,o1 29 (aX .leq 25 28)]) (cn 29 .skip
  (.exit 0))) (sq (.block 1 (sq (rF [o1 6 (.move (.const (.slice .aA 0 [])))]) (sq (sq (rF [fA 32 5 4,lF 33 1 32,o1 34 (nX 33),o1 35 (mI 0)]) (.block 2 (.loop DO)))
  NV))) AY))
def US:aw:=(sq (rF [o1 3 (.box 1 (t1 0))]) (sq (rT [lF 10 1 1,o1 11 (.nilCheck (t1 10)),fA 12 0 11,fA 13 2 12,lF 14 1 13,lF 15 1 2,o1 16 (iX 7 14 15),lT 17 7 16,o1 4 (.alloc
  [.v (.string ⟨#[]⟩), .v (.int .i64 0), .v (.int .i64 0), .v (.int .i64 0), .v (.int .i64 0), .slice .aA 0 [], .v (.int .i64 0)]), sT 7 4 17]) (sq (rF [fA 18 1 4, fA 19 0 18, lF 20 1 19, o1 5
  (.alloc [.v (.int .i64 0)]),sT 1 5 20]) (.block 0 (.loop wJ)))))
abbrev awo:List K:=[.blk 4,.blk 1,.c AY,.lp wJ,.blk 0]
abbrev an7:List K:=[.blk 2,.c NV,.blk 1,.c AY,.lp wJ,.blk 0]
abbrev an6:List K:=[.blk 0]
abbrev JN:=aY [] false
def E4:aJ:=.code 3 63 US [] false
-- 103
def UZ:aw:=(sq (rF [o1 4 (mB false)]) (sq (rF [m1 5 0,m1 6 1,o1 7 (cF 90 [t1 5,t1 6]),o1 8 (aK .geq 7 0),m1 4 8]) .ret))
abbrev avF:=aY [(.tmp 4)] false
def Fb:aJ:=.code 2 9 UZ [(.tmp 4)] false
-- 104
def UN:aw:=(sq (rF [o1 3 (.box 3 (t1 0)),o1 4 (mB false)]) (sq (rF [lF 5 1 1,lT 6 3 3,lT 7 3 2,o1 8 (cF 93 [t1 5,t1 6,t1 7]),m1 4 8]) .ret))
abbrev avx:=aY [(.tmp 4)] false
def EX:aJ:=.code 3 9 UN [(.tmp 4)] false
-- 105
def U2:aw:=(sq (rF [o1 4 (mB false)]) (sq (rF [m1 5 0,m1 6 1,o1 7 (cF 120 [t1 5,t1 6]),o1 8 (aK .geq 7 0),m1 4 8]) .ret))
abbrev avI:=aY [(.tmp 4)] false
def Ff:aJ:=.code 2 9 U2 [(.tmp 4)] false
-- 106
def Ud:aw:=(sq (rF [o1 2 (mB false)]) (sq (rF [m1 3 0,m1 4 0,o1 5 (aX .neq 3 4),m1 2 5]) .ret))
abbrev au4:=aY [(.tmp 2)] false
def D8:aJ:=.code 1 6 Ud [(.tmp 2)] false
-- 107
def U1:aw:=(sq (rF [o1 4 (mB false)]) (sq (rF [m1 5 0,m1 6 1,o1 7 (cF 121 [t1 5,t1 6]),o1 8 (aK .geq 7 0),m1 4 8]) .ret))
abbrev avH:=aY [(.tmp 4)] false
def Fe:aJ:=.code 2 9 U1 [(.tmp 4)] false
-- 108
def UL:aw:=(sq (rF [o1 6 (mB false)]) (sq (rF [lF 8 1 1,o1 9 (.nilCheck (t1 8)),fA 10 0 9,fA 11 1 10,lF 12 1 11,m1 13 0,o1 14 (iX 3 12 13),fA 15 1 14,lF 16 1 15,m1 7 16])
  (sq (sq (rF [lF 17 1 2]) (cn 17 (rF [o1 7 (mI 0)]) .skip)) (sq (rT [fA 18 2 3,lF 19 1 18,m1 20 0,o1 21 (cF 57 [t1 19,t1 20]),m1 22 21,gT 23 22 (fX 1 3),gT 24 22 (lX 1 23),gT 25 22 (lX 1 1),
  gT 26 22 (lY 3 4),gT 27 22 (.call true 109 [t1 25,t1 26]),gT 28 22 (aX .sub 24 27),gT 29 22 (mX 7),gT 30 22 (aX .lss 28 29),o1 31 (pA 22 30),m1 6 31]) .ret))))
abbrev avv:=aY [(.tmp 6)] false
def EV:aJ:=.code 5 32 UL [(.tmp 6)] false
-- 109
def UO:aw:=(sq (rF [o1 3 (.box 3 (t1 1)),o1 4 (mI 0)]) (sq (rT [fA 5 1 3,lF 6 1 5,m1 7 0,o1 8 (.nilCheck (t1 7)),fA 9 0 8,fA 10 2 9,lF 11 1 10,fA 12 0 3,lF 13 1 12,o1 14 (iX 7 11
  13),fA 15 3 14,lF 16 1 15,o1 17 (aX .add 6 16),m1 4 17]) .ret))
abbrev avy:=aY [(.tmp 4)] false
def EY:aJ:=.code 2 18 UO [(.tmp 4)] false
-- 116
def UY:aw:=(sq (rF [o1 4 (mB false)]) (sq (rF [m1 5 0,m1 6 1,o1 7 (cF 127 [t1 5,t1 6]),o1 8 (aK .geq 7 0),m1 4 8]) .ret))
abbrev avE:=aY [(.tmp 4)] false
def Fa:aJ:=.code 2 9 UY [(.tmp 4)] false
-- 117
def Uu:aw:=(sq (rF [o1 2 (.box 3 (t1 0)),o1 3 (mB false)]) (sq (rF [fA 4 0 2,lF 5 1 4,fA 6 0 1,lF 7 1 6,o1 8 (aX .eql 5 7),m1 3 8]) .ret))
abbrev avd:=aY [(.tmp 3)] false
def Ez:aJ:=.code 2 9 Uu [(.tmp 3)] false
-- 118
def NB : aw := (sq (rF [m1 47 0, o1 48 (.arith .neq (t1 47) (.const (.v (.string ⟨#[]⟩)))), m1 49 48, gT 50 49 (mX 0), gT 51 49 (.len true (t1 50)), gT 52 49 (aK .leq 51 12), o1 53 (pA
  49 52),m1 2 53]) .ret)
def DH:aw:=(sq (rF [o1 10 (aX .lss 9 8)]) (sq (cn 10 .skip (.exit 0)) (sq (.block 1 (sq (rF [m1 11 9,o1 12 (iX 1 7 9),lF 13 1 12,m1 3 11,m1 4 13]) (sq (rF [m1 14 4,o1 15 (.arith
  .geq (t1 14) (.const (.v (.int .u8 97)))),m1 16 15,gT 17 16 (mX 4),gT 18 16 (.arith .leq (t1 17) (.const (.v (.int .u8 122)))),o1 19 (pA 16 18),m1 20 19,gF 21 20 (mX 4),gF 22 20 (.arith .geq
  (t1 21) (.const (.v (.int .u8 65)))),gF 23 20 (mX 22),gT 24 23 (mX 4),gT 25 23 (.arith .leq (t1 24) (.const (.v (.int .u8 90)))),gF 26 20 (pA 23 25),o1 27 (pB 20 26),m1 5 27]) (sq (rF [m1 28
  5,o1 29 (uX 28),m1 30 29,gT 31 30 (mX 3),gT 32 30 (aK .eql 31 0),gT 33 30 (mX 32),gF 34 33 (mX 4),gF 35 33 (.arith .neq (t1 34) (.const (.v (.int .u8 45)))),gF 36 33 (mX 35),gT 37 36 (mX
  4),gT 38 36 (.arith .lss (t1 37) (.const (.v (.int .u8 48)))),gT 39 36 (mX 38),gF 40 39 (mX 4),gF 41 39 (.arith .gtr (t1 40) (.const (.v (.int .u8 57)))),gT 42 36 (pB 39 41),gF 43 33 (pA 36
  42),gT 44 30 (pB 33 43),o1 45 (pA 30 44)]) (cn 45 (sq (rF [o1 2 (mB false)]) .ret) .skip))))) (rF [o1 46 (aK .add 9 1),m1 9 46]))))
def Uy:aw:=(sq (rF [o1 2 (mB false)]) (sq (sq (rF [m1 6 0,o1 7 (.conv .bytes (t1 6)),o1 8 (nX 7),o1 9 (mI 0)]) (.block 0 (.loop DH))) NB))
abbrev Zb:List K:=[.blk 0,.c NB]
abbrev WE:=aY [(.tmp 2)] false
def EE:aJ:=.code 1 54 Uy [(.tmp 2)] false
-- 119
def UD:aw:=(sq (rF [o1 2 (.box 3 (t1 0)),o1 3 (.box 2 (t1 1)),o1 4 (mI 0)]) (sq (rF [o1 6 (.oL 128 [] [t1 2]),m1 5 6]) (sq (rT [m1 7 5,fA 8 0 3,lF 9 1 8,o1 10 (.kB true (t1
  7) [t1 9]),m1 11 10,gT 12 11 (mX 5),gT 13 11 (fX 1 3),gT 14 11 (lX 1 13),gT 15 11 (.kB true (t1 12) [t1 14]),o1 16 (pA 11 15),o1 17 (.call true 39 [t1 16,i1 2]),fA 18 0 3,lF 19 1 18,fA
  20 1 3,lF 21 1 20,o1 22 (aX .leq 19 21),o1 23 (cF 39 [t1 22,i1 9]),o1 24 (.buildSlice 1 [[.v (.int .i64 0)],[.v (.int .i64 0)]] [(0,(t1 17)),(1,(t1 23))]),o1 25 (cF 32 [t1 24]),m1 4 25])
  .ret)))
abbrev avn:=aY [(.tmp 4)] false
def EL:aJ:=.code 2 26 UD [(.tmp 4)] false
-- 120
def N4:aw:=(sq (rF [o1 4 (mI (-1))]) .ret)
def Jj:aw:=(sq (rF [o1 9 (aX .lss 8 7)]) (sq (cn 9 .skip (.exit 0)) (sq (.block 1 (sq (rF [m1 10 8,m1 5 10]) (sq (rF [m1 11 1,m1 12 0,m1 13 5,o1 14 (iX 1 12 13),lF 15 1 14,
  o1 16 (.eqv false .bool (t1 11) (t1 15))]) (cn 16 (sq (rF [m1 17 5,m1 4 17]) .ret) .skip)))) (rF [o1 18 (aK .add 8 1),m1 8 18]))))
def U8:aw:=(sq (rF [o1 4 (mI 0)]) (sq (sq (rF [m1 6 0,o1 7 (nX 6),o1 8 (mI 0)]) (.block 0 (.loop Jj))) N4))
abbrev aof:List K:=[.blk 0,.c N4]
abbrev agK:=aY [(.tmp 4)] false
def Fl:aJ:=.code 2 19 U8 [(.tmp 4)] false
-- 121
def N3:aw:=(sq (rF [o1 4 (mI (-1))]) .ret)
def Ji:aw:=(sq (rF [o1 9 (aX .lss 8 7)]) (sq (cn 9 .skip (.exit 0)) (sq (.block 1 (sq (rF [m1 10 8,m1 5 10]) (sq (rF [m1 11 1,m1 12 0,m1 13 5,o1 14 (iX 1 12 13),lF 15 1
  14,o1 16 (.kB false (t1 11) [t1 15])]) (cn 16 (sq (rF [m1 17 5,m1 4 17]) .ret) .skip)))) (rF [o1 18 (aK .add 8 1),m1 8 18]))))
def U7:aw:=(sq (rF [o1 4 (mI 0)]) (sq (sq (rF [m1 6 0,o1 7 (nX 6),o1 8 (mI 0)]) (.block 0 (.loop Ji))) N3))
abbrev aoe:List K:=[.blk 0,.c N3]
abbrev agJ:=aY [(.tmp 4)] false
def Fk:aJ:=.code 2 19 U7 [(.tmp 4)] false
-- 127
def N0:aw:=(sq (rF [o1 4 (mI (-1))]) .ret)
def Jf:aw:=(sq (rF [o1 9 (aX .lss 8 7)]) (sq (cn 9 .skip (.exit 0)) (sq (.block 1 (sq (rF [m1 10 8,m1 5 10]) (sq (rF [m1 11 1,m1 12 0,m1 13 5,o1 14 (iX 3 12
  13),lT 15 3 14,o1 16 (.kB false (t1 11) [t1 15])]) (cn 16 (sq (rF [m1 17 5,m1 4 17]) .ret) .skip)))) (rF [o1 18 (aK .add 8 1),m1 8 18]))))
def U5:aw:=(sq (rF [o1 4 (mI 0)]) (sq (sq (rF [m1 6 0,o1 7 (nX 6),o1 8 (mI 0)]) (.block 0 (.loop Jf)))
  N0))
abbrev aoc:List K:=[.blk 0,.c N0]
abbrev agH:=aY [(.tmp 4)] false
def Fi:aJ:=.code 2 19 U5 [(.tmp 4)] false
-- 128
def UE:aw:=(sq (rF [o1 3 (mB false)]) (sq (rF [m1 4 0,fA 5 0 1,lF 6 1 5,o1 7 (aK .sub 6 1),o1 8 (cF 61 [t1 4,i1 0,t1 7]),m1 3 8]) .ret))
abbrev avo:=aY [(.tmp 3)] false
def EM:aJ:=.code 2 9 UE [(.tmp 3)] false

def Cz:List (Option aJ):=[none,none,none,some uV,some EP,some yJ,some A7,some Eg,some Ev,some Ej,some
  Eh,some yK,some Ef,some Ba,some A9,some yL,some D0,some A6,some Ei,some Eb,some Ea,
  some Ex,some D9,some Em,some El,some DY,some wN,some Bc,some Be,some D3,some Ec,some ET,some
  EB,some E5,some EF,some EC,some ER,some E8,some yM,some EN,some D4,some EG,some
  EA,some Fh,some Ep,some Ek,some Ee,some wO,some Co,some Cp,some Ed,some Bb,some EH,some
  Fc,some E2,some D7,some D5,some Fg,some D6,some Er,some E1,some EO,some
  ED,some wP,some E7,some EI,some ES,some yN,some E9,some E6,some Bd,some
  Fo,some DX,some A8,some Et,some DZ,none,none,none,none,some D2,some En,some Es,some Ew,some
  Fj,some E3,some EW,some Fm,some Bf,some EZ,some Bg,some EJ,some
  yI,some EU,some Eo,none,none,none,some D1,some Eu,some Ey,some EK,some E4,some
  Fb,some EX,some Ff,some D8,some Fe,some EV,some EY,none,none,none,none,none,none,
  some Fa,some Ez,some EE,some EL,some Fl,some Fk,none,none,none,none,none,some
  Fi,some EM]
def AP:FuncId→Option aJ:=fun f=>(Cz[f]?).join

end Go.Ax.Sx.Sc
/-
  The data of schedules, and how they look to the executor.
-/
namespace Go.Ax.Sx.Sc
open Go.Ax
abbrev S (s:ByteArray):AV:=.v (.string s)
structure A where
 name:ByteArray
 js:Int
 cl:Sl (Int×Int)
structure R where
 bJ:ByteArray
 lo:Int
 hi:Int
 len:Int
 val:Int
 an:Sl Int
 need:Int
structure W where
 j5:Int
 as:Sl A
 rs:Sl R
structure P where
 req:Int
 start:Int
 an:Sl Int
abbrev aB (n:Int):List AV:=[I n]
abbrev gW (p:Int×Int):List AV:=[I p.1,I p.2]
abbrev mG (s:ByteArray):List AV:=[S s]
abbrev cj (a:A):List AV:=[S a.name,I a.js,a.cl.v gW]
abbrev bO (r:R):List AV:=[S r.bJ,I r.lo,I r.hi,I r.len,I r.val,r.an.v aB,I r.need]
abbrev aj (p:P):List AV:=[I p.req,I p.start,p.an.v aB]
abbrev cJ (w:W):List AV:=[I w.j5,w.as.v cj,w.rs.v bO]
abbrev W.v (w:W):AV:=.agg (cJ w)
attribute [go_sem] Sl.v aB gW mG cj bO aj cJ W.v
structure W.Ok (w:W):Prop where
 as:w.as.ok 3
 cl:∀a∈w.as.l,a.cl.ok 2
 rs:w.rs.ok 7
 an:∀r∈w.rs.l,r.an.ok 1
structure W.ju (w:W):Prop where
 as:w.as.l.length≤6
 rs:w.rs.l.length≤14
 name:∀a∈w.as.l,a.name.size≤20
 cl:∀a∈w.as.l,a.cl.l.length≤8
 bJ:∀r∈w.rs.l,r.bJ.size≤20
 an:∀r∈w.rs.l,r.an.l.length≤6
def wi (n lo hi:Int):Bool:=decide (lo≤n)&&decide (n≤hi)
theorem iE {n lo hi:Int}:wi n lo hi=true↔lo≤n∧n≤hi:=by simp[wi]
def dF {α:Type} (p:α→Bool):List α→Int
 |[]=>-1
 |x::r=>if p x then 0 else if dF p r<0 then-1 else dF p r+1
theorem OM {α:Type} (p:α→Bool) (l:List α):(l.any p=false∧dF p l=-1)∨(l.any p=true∧∃(k:Nat) (x:α),l[k]? =some x∧p x=true∧dF p l=(k:Int)∧∀(j:Nat) (y:α),j<k→l[j]? =some y→p y=false):=by
 induction l with
 |nil=>exact .inl ⟨rfl,rfl⟩
 | cons x r ih =>
  cases hx:p x with
  |true=>exact .inr ⟨by simp[hx],0,x,rfl,hx,by simp[dF,hx],fun j y hj=>absurd hj (df _)⟩
  | false =>
   rcases ih with⟨h1,h2⟩|⟨h1,k,y,h2,h3,h4,h5⟩
   ·exact .inl ⟨by simp only[nr,hx,h1];rfl,by simp[dF,hx,h2]⟩
   ·refine .inr ⟨by simp only[nr,h1,Bool.or_true],k+1,y,h2,h3,?_,fun j z hj hz=>?_⟩
    ·simp only[dF,hx,h4,ez,db]
     rw[aq (by omega)];simp
    ·cases j with
     |zero=>simp at hz;subst hz;exact hx
     |succ j=>exact h5 j z (by omega) hz
theorem yW {α:Type} {p:α→Bool} {l:List α}:decide (0≤dF p l)=l.any p:=by
 rcases OM p l with⟨h1,h2⟩|⟨h1,k,x,_,_,h4,_⟩
 ·rw[h1,h2];rfl
 ·rw[h1,h4];simp
def letter (c:UInt8):Bool:=(decide (97≤c.toNat)&&decide (c.toNat≤122))||(decide (65≤c.toNat)&&decide (c.toNat≤90))
def nameAt (k:Nat) (c:UInt8):Bool:=letter c||(!decide (k=0)&&(decide (c.toNat=45)||(decide (48≤c.toNat)&&decide (c.toNat≤57))))
def rD (k:Nat):List UInt8→Bool
 |[]=>true
 |c::r=>nameAt k c&&rD (k+1) r
def isName (s:ByteArray):Bool:=rD 0 s.data.toList&&decide (1≤s.size)&&decide (s.size≤12)
def ki (n lo hi:Int):Int:=if wi lo 0 (n-1)&&wi hi 0 (n-1)then(if lo≤hi then 0 else 9)else 2
def rZ (n:Int):List (Int×Int)→Int
 |[]=>0
 |p::r=>if ki n p.1 p.2=0 then rZ n r else ki n p.1 p.2
def ku (n:Int) (as:List A) (k:Nat) (a:A):Int:=
 if isName a.name then
  if(as.take k).any (fun b=>decide (b.name=a.name))then 5 else
  if wi a.js 0 50 then
   if a.cl.l.length≤6 then rZ n a.cl.l else 8
  else 2
 else 4
def kR (n:Int) (last:Int):List Int→Int
 |[]=>0
 |a::r=>if wi a 0 (n-1)then(if last<a then kR n a r else 9)else 6
def kL (n : Int) (m : Nat) (r : R) : Int :=
 if isName r.bJ then
  if ki n r.lo r.hi=0 then
   if wi r.len 1 (r.hi-r.lo+1)&&wi r.val 0 100000 then
    if r.an.l=[]then 10 else
    if kR m (-1) r.an.l=0 then(if wi r.need 1 r.an.l.length then 0 else 2)else kR m (-1) r.an.l
   else 2
  else ki n r.lo r.hi
 else 4
def eJ {α:Type} (f:Nat→α→Int) (k:Nat):List α→Option (Nat×Int)
 |[]=>none
 |x::r=>if f k x=0 then eJ f (k+1) r else some (k,f k x)
def de (w : W) : Int × Int × Int :=
 if wi w.j5 1 200 then
  if w.as.l.length≤4∧w.rs.l.length≤12 then
   match eJ (ku w.j5 w.as.l) 0 w.as.l with
   |some (k,e)=>(1,k,e)
   |none=>match eJ (fun _ r=>kL w.j5 w.as.l.length r) 0 w.rs.l with
    |some (k,e)=>(2,k,e)
    |none=>(0,0,0)
  else(0,0,8)
 else(0,0,2)
section
variable{s:ae}
theorem tE {α:Type} {p:α→Bool} {l:List α} {k:Nat} {a:α} (ha:l[k]? =some a) (eL:p a=true) (hp:∀j y,j<k→l[j]? =some y→p y=false):dF p l=(k:Int):=by
 rcases OM p l with⟨h1,_⟩|⟨_,j,x,h2,h3,h4,h5⟩
 ·have:=uD.1 h1 a (bU ha)
  rw[eL]at this;exact absurd rfl this
 ·rw[h4]
  have:j=k:=by
   rcases Mp j k with h|h|h
   ·have:=hp j x h h2;rw[h3]at this;cases this
   ·exact h
   ·have:=h5 k a h ha;rw[eL]at this;cases this
  rw[this]
theorem u4 {α:Type} {p:α→Bool} {l:List α} (hp:∀j y,j<l.length→l[j]? =some y→p y=false):dF p l=-1:=by
 rcases OM p l with⟨_,h⟩|⟨_,j,x,h2,h3,_,_⟩
 ·exact h
 ·have:=hp j x (bd.1 h2).1 h2
  rw[h3]at this;cases this
theorem auG {l:List A} {o:Own} {e:Nat} {g:FuncId} {caps:List AV} {p:A→Bool} (he:l=[]∨e=3) (hl:(l.length:Int)<9223372036854775808)
  (hg:∀a∈l,∀r,au AP (.fn g) (.agg (cj a)::caps) (s.push r)=some (B (p a),s.push r)):au AP (.fn 127) [.slice o e (l.map cj),.fn g [] caps] s=some (I (dF p l),s):=by
 have key:∀k ρ m,k≤l.length→(ρ 0=.slice o e (l.map cj)∧ρ 1=.fn g [] caps∧ρ 7=I l.length∧ρ 8=I k∧(∀j y,j<k→l[j]? =some y→p y=false)∧m=s.push ⟨[],[]⟩)→go AP agH (.c (.loop Jf)::aoc) ⟨ρ,m⟩=some (I (dF p l),s):=by
  refine cq l.length _ _ ?_ ?_
  ·rintro k ρ m hk ⟨h0,h1,h7,h8,hp,rfl⟩ ih
   obtain⟨a,ha⟩:=get_some hk
   have he:e=3:=by rcases he with h|h;(rw[h]at ha;simp at ha);exact h
   subst he
   have hr:=cD (o:=o) (es:=3) (f:=cj) ha
   simp only[go_sem,Jf,h0,h1,h7,h8,aS hk,hr,hg a (bU ha),bK hk hl,simprocAttr]
   cases eL:p a with
   |true=>
    simp only[fH]
    rw[tE ha eL hp]
   |false=>
    simp only[gR]
    refine ih _ _ ?_
    refine⟨h0,h1,h7,rfl,fun j y hj hy=>?_,rfl⟩
    by_cases e:j=k
    ·subst e;rw[ha]at hy;injection hy with hy;rw[←hy];exact eL
    ·exact hp j y (by omega) hy
  ·rintro ρ m ⟨h0,h1,h7,h8,hp,rfl⟩
   simp only[go_sem,Jf,N0,h7,h8,bN,simprocAttr]
   rw[u4 hp]
 rw[aM (show AP 127=some Fi from rfl) rfl]
 simp only[go_sem,U5,simprocAttr]
 exact key 0 _ _ (bp _) ⟨rfl,rfl,rfl,rfl,fun j y hj=>absurd hj (df _),rfl⟩
theorem auy {l:List A} {o:Own} {e:Nat} {g:FuncId} {caps:List AV} {p:A→Bool} (he:l=[]∨e=3) (hl:(l.length:Int)<9223372036854775808)
  (hg:∀a∈l,∀r q,au AP (.fn g) (.agg (cj a)::caps) ((s.push r).push q)=some (B (p a),(s.push r).push q)):au AP (.fn 116) [.slice o e (l.map cj),.fn g [] caps] s=some (B (l.any p),s):=by
 have h:=auG (s:=s.push ⟨[],[]⟩) (o:=o) (caps:=caps) (g:=g) he hl (fun a ha r=>hg a ha _ r)
 rw[aM (show AP 116=some Fa from rfl) rfl]
 simp only[go_sem,UY,h,yW,simprocAttr]
theorem auH {l:List R} {o:Own} {e:Nat} {g:FuncId} {caps:List AV} {p:R→Bool} (he:l=[]∨e=7) (hl:(l.length:Int)<9223372036854775808)
  (hg:∀a∈l,∀r,au AP (.fn g) (.agg (bO a)::caps) (s.push r)=some (B (p a),s.push r)):au AP (.fn 84) [.slice o e (l.map bO),.fn g [] caps] s=some (I (dF p l),s):=by
 have key:∀k ρ m,k≤l.length→(ρ 0=.slice o e (l.map bO)∧ρ 1=.fn g [] caps∧ρ 7=I l.length∧ρ 8=I k∧(∀j y,j<k→l[j]? =some y→p y=false)∧m=s.push ⟨[],[]⟩)→go AP agI (.c (.loop Jh)::aod) ⟨ρ,m⟩=some (I (dF p l),s):=by
  refine cq l.length _ _ ?_ ?_
  ·rintro k ρ m hk ⟨h0,h1,h7,h8,hp,rfl⟩ ih
   obtain⟨a,ha⟩:=get_some hk
   have he:e=7:=by rcases he with h|h;(rw[h]at ha;simp at ha);exact h
   subst he
   have hr:=cD (o:=o) (es:=7) (f:=bO) ha
   simp only[go_sem,Jh,h0,h1,h7,h8,aS hk,hr,hg a (bU ha),bK hk hl,simprocAttr]
   cases eL:p a with
   |true=>
    simp only[fH]
    rw[tE ha eL hp]
   |false=>
    simp only[gR]
    refine ih _ _ ?_
    refine⟨h0,h1,h7,rfl,fun j y hj hy=>?_,rfl⟩
    by_cases e:j=k
    ·subst e;rw[ha]at hy;injection hy with hy;rw[←hy];exact eL
    ·exact hp j y (by omega) hy
  ·rintro ρ m ⟨h0,h1,h7,h8,hp,rfl⟩
   simp only[go_sem,Jh,N2,h7,h8,bN,simprocAttr]
   rw[u4 hp]
 rw[aM (show AP 84=some Fj from rfl) rfl]
 simp only[go_sem,U6,simprocAttr]
 exact key 0 _ _ (bp _) ⟨rfl,rfl,rfl,rfl,fun j y hj=>absurd hj (df _),rfl⟩
theorem auA {l:List R} {o:Own} {e:Nat} {g:FuncId} {caps:List AV} {p:R→Bool} (he:l=[]∨e=7) (hl:(l.length:Int)<9223372036854775808)
  (hg:∀a∈l,∀r q,au AP (.fn g) (.agg (bO a)::caps) ((s.push r).push q)=some (B (p a),(s.push r).push q)):au AP (.fn 53) [.slice o e (l.map bO),.fn g [] caps] s=some (B (l.any p),s):=by
 have h:=auH (s:=s.push ⟨[],[]⟩) (o:=o) (caps:=caps) (g:=g) he hl (fun a ha r=>hg a ha _ r)
 rw[aM (show AP 53=some Fc from rfl) rfl]
 simp only[go_sem,U0,h,yW,simprocAttr]
theorem SR {l:List P} {o:Own} {e:Nat} {g:FuncId} {caps:List AV} {p:P→Bool} (he:l=[]∨e=3) (hl:(l.length:Int)<9223372036854775808)
  (hg:∀a∈l,∀r,au AP (.fn g) (.agg (aj a)::caps) (s.push r)=some (B (p a),s.push r)):au AP (.fn 90) [.slice o e (l.map aj),.fn g [] caps] s=some (I (dF p l),s):=by
 have key:∀k ρ m,k≤l.length→(ρ 0=.slice o e (l.map aj)∧ρ 1=.fn g [] caps∧ρ 7=I l.length∧ρ 8=I k∧(∀j y,j<k→l[j]? =some y→p y=false)∧m=s.push ⟨[],[]⟩)→go AP WI (.c (.loop yB)::Ze) ⟨ρ,m⟩=some (I (dF p l),s):=by
  refine cq l.length _ _ ?_ ?_
  ·rintro k ρ m hk ⟨h0,h1,h7,h8,hp,rfl⟩ ih
   obtain⟨a,ha⟩:=get_some hk
   have he:e=3:=by rcases he with h|h;(rw[h]at ha;simp at ha);exact h
   subst he
   have hr:=cD (o:=o) (es:=3) (f:=aj) ha
   simp only[go_sem,yB,h0,h1,h7,h8,aS hk,hr,hg a (bU ha),bK hk hl,simprocAttr]
   cases eL:p a with
   |true=>
    simp only[fH]
    rw[tE ha eL hp]
   |false=>
    simp only[gR]
    refine ih _ _ ?_
    refine⟨h0,h1,h7,rfl,fun j y hj hy=>?_,rfl⟩
    by_cases e:j=k
    ·subst e;rw[ha]at hy;injection hy with hy;rw[←hy];exact eL
    ·exact hp j y (by omega) hy
  ·rintro ρ m ⟨h0,h1,h7,h8,hp,rfl⟩
   simp only[go_sem,yB,Jg,h7,h8,bN,simprocAttr]
   rw[u4 hp]
 rw[aM (show AP 90=some Bg from rfl) rfl]
 simp only[go_sem,N1,simprocAttr]
 exact key 0 _ _ (bp _) ⟨rfl,rfl,rfl,rfl,fun j y hj=>absurd hj (df _),rfl⟩
theorem auz {l:List P} {o:Own} {e:Nat} {g:FuncId} {caps:List AV} {p:P→Bool} (he:l=[]∨e=3) (hl:(l.length:Int)<9223372036854775808)
  (hg:∀a∈l,∀r q,au AP (.fn g) (.agg (aj a)::caps) ((s.push r).push q)=some (B (p a),(s.push r).push q)):au AP (.fn 103) [.slice o e (l.map aj),.fn g [] caps] s=some (B (l.any p),s):=by
 have h:=SR (s:=s.push ⟨[],[]⟩) (o:=o) (caps:=caps) (g:=g) he hl (fun a ha r=>hg a ha _ r)
 rw[aM (show AP 103=some Fb from rfl) rfl]
 simp only[go_sem,UZ,h,yW,simprocAttr]
theorem auJ {l:List Int} {o:Own} {e:Nat} {g:FuncId} {caps:List AV} {p:Int→Bool} (he:l=[]∨e=1) (hl:(l.length:Int)<9223372036854775808)
  (hg:∀a∈l,∀r,au AP (.fn g) (I a::caps) (s.push r)=some (B (p a),s.push r)):au AP (.fn 121) [.slice o e (l.map aB),.fn g [] caps] s=some (I (dF p l),s):=by
 have key:∀k ρ m,k≤l.length→(ρ 0=.slice o e (l.map aB)∧ρ 1=.fn g [] caps∧ρ 7=I l.length∧ρ 8=I k∧(∀j y,j<k→l[j]? =some y→p y=false)∧m=s.push ⟨[],[]⟩)→go AP agJ (.c (.loop Ji)::aoe) ⟨ρ,m⟩=some (I (dF p l),s):=by
  refine cq l.length _ _ ?_ ?_
  ·rintro k ρ m hk ⟨h0,h1,h7,h8,hp,rfl⟩ ih
   obtain⟨a,ha⟩:=get_some hk
   have he:e=1:=by rcases he with h|h;(rw[h]at ha;simp at ha);exact h
   subst he
   have hr:=cD (o:=o) (es:=1) (f:=aB) ha
   simp only[go_sem,Ji,h0,h1,h7,h8,aS hk,hr,hg a (bU ha),bK hk hl,simprocAttr]
   cases eL:p a with
   |true=>
    simp only[fH]
    rw[tE ha eL hp]
   |false=>
    simp only[gR]
    refine ih _ _ ?_
    refine⟨h0,h1,h7,rfl,fun j y hj hy=>?_,rfl⟩
    by_cases e:j=k
    ·subst e;rw[ha]at hy;injection hy with hy;rw[←hy];exact eL
    ·exact hp j y (by omega) hy
  ·rintro ρ m ⟨h0,h1,h7,h8,hp,rfl⟩
   simp only[go_sem,Ji,N3,h7,h8,bN,simprocAttr]
   rw[u4 hp]
 rw[aM (show AP 121=some Fk from rfl) rfl]
 simp only[go_sem,U7,simprocAttr]
 exact key 0 _ _ (bp _) ⟨rfl,rfl,rfl,rfl,fun j y hj=>absurd hj (df _),rfl⟩
theorem auB {l:List Int} {o:Own} {e:Nat} {g:FuncId} {caps:List AV} {p:Int→Bool} (he:l=[]∨e=1) (hl:(l.length:Int)<9223372036854775808)
  (hg:∀a∈l,∀r q,au AP (.fn g) (I a::caps) ((s.push r).push q)=some (B (p a),(s.push r).push q)):au AP (.fn 107) [.slice o e (l.map aB),.fn g [] caps] s=some (B (l.any p),s):=by
 have h:=auJ (s:=s.push ⟨[],[]⟩) (o:=o) (caps:=caps) (g:=g) he hl (fun a ha r=>hg a ha _ r)
 rw[aM (show AP 107=some Fe from rfl) rfl]
 simp only[go_sem,U1,h,yW,simprocAttr]
theorem auL {l:List Int} {x:Int} {o:Own} {e:Nat} (he:l=[]∨e=1) (hl:(l.length:Int)<9223372036854775808):au AP (.fn 87) [.slice o e (l.map fun a=>[I a]),I x] s=some (I (dF (fun a=>decide (x=a)) l),s):=by
 have key:∀k ρ m,k≤l.length→(ρ 0=.slice o e (l.map fun a=>[I a])∧ρ 1=I x∧ρ 7=I l.length∧ρ 8=I k∧(∀(j:Nat) (a:Int),j<k→l[j]? =some a→decide (x=a)=false)∧m=s.push ⟨[],[]⟩)→go AP agL (.c (.loop Jk)::aog) ⟨ρ,m⟩=some (I (dF (fun a=>decide (x=a)) l),s):=by
  refine cq l.length _ _ ?_ ?_
  ·rintro k ρ m hk ⟨h0,h1,h7,h8,hp,rfl⟩ ih
   obtain⟨a,ha⟩:=get_some hk
   have he:e=1:=by rcases he with h|h;(rw[h]at ha;simp at ha);exact h
   subst he
   have hr:=cD (o:=o) (es:=1) (f:=fun a=>[I a]) ha
   simp only[go_sem,Jk,h0,h1,h7,h8,aS hk,hr,bK hk hl,simprocAttr]
   cases eL:decide (x=a)with
   |true=>
    simp only[fH]
    rw[tE (p:=fun a=>decide (x=a)) ha eL hp]
   |false=>
    simp only[gR]
    refine ih _ _ ?_
    refine⟨h0,h1,h7,rfl,fun j y hj hy=>?_,rfl⟩
    by_cases e:j=k
    ·subst e;rw[ha]at hy;injection hy with hy;rw[←hy];exact eL
    ·exact hp j y (by omega) hy
  ·rintro ρ m ⟨h0,h1,h7,h8,hp,rfl⟩
   simp only[go_sem,Jk,N5,h7,h8,bN,simprocAttr]
   rw[u4 (p:=fun a=>decide (x=a)) hp]
 rw[aM (show AP 87=some Fm from rfl) rfl]
 simp only[go_sem,U9,simprocAttr]
 exact key 0 _ _ (bp _) ⟨rfl,rfl,rfl,rfl,fun j y hj=>absurd hj (df _),rfl⟩
theorem LX {l:List Int} {x:Int} {o:Own} {e:Nat} (he:l=[]∨e=1) (hl:(l.length:Int)<9223372036854775808):au AP (.fn 57) [.slice o e (l.map fun a=>[I a]),I x] s=some (B (l.any fun a=>decide (x=a)),s):=by
 have h:=auL (s:=s.push ⟨[],[]⟩) (o:=o) (x:=x) he hl
 rw[aM (show AP 57=some Fg from rfl) rfl]
 simp only[go_sem,U3,h,yW,simprocAttr]
theorem auK {l:List Bool} {x:Bool} {o:Own} {e:Nat} (he:l=[]∨e=1) (hl:(l.length:Int)<9223372036854775808):au AP (.fn 120) [.slice o e (l.map fun a=>[B a]),B x] s=some (I (dF (fun a=>(x==a)) l),s):=by
 have key:∀k ρ m,k≤l.length→(ρ 0=.slice o e (l.map fun a=>[B a])∧ρ 1=B x∧ρ 7=I l.length∧ρ 8=I k∧(∀(j:Nat) (a:Bool),j<k→l[j]? =some a→(x==a)=false)∧m=s.push ⟨[],[]⟩)→go AP agK (.c (.loop Jj)::aof) ⟨ρ,m⟩=some (I (dF (fun a=>(x==a)) l),s):=by
  refine cq l.length _ _ ?_ ?_
  ·rintro k ρ m hk ⟨h0,h1,h7,h8,hp,rfl⟩ ih
   obtain⟨a,ha⟩:=get_some hk
   have he:e=1:=by rcases he with h|h;(rw[h]at ha;simp at ha);exact h
   subst he
   have hr:=cD (o:=o) (es:=1) (f:=fun a=>[B a]) ha
   simp only[go_sem,Jj,h0,h1,h7,h8,aS hk,hr,ez,bK hk hl,simprocAttr]
   cases eL:(x==a)with
   |true=>
    simp only[fH]
    rw[tE (p:=fun a=>(x==a)) ha eL hp]
   |false=>
    simp only[gR]
    refine ih _ _ ?_
    refine⟨h0,h1,h7,rfl,fun j y hj hy=>?_,rfl⟩
    by_cases e:j=k
    ·subst e;rw[ha]at hy;injection hy with hy;rw[←hy];exact eL
    ·exact hp j y (by omega) hy
  ·rintro ρ m ⟨h0,h1,h7,h8,hp,rfl⟩
   simp only[go_sem,Jj,N4,h7,h8,bN,simprocAttr]
   rw[u4 (p:=fun a=>(x==a)) hp]
 rw[aM (show AP 120=some Fl from rfl) rfl]
 simp only[go_sem,U8,simprocAttr]
 exact key 0 _ _ (bp _) ⟨rfl,rfl,rfl,rfl,fun j y hj=>absurd hj (df _),rfl⟩
theorem auC {l:List Bool} {x:Bool} {o:Own} {e:Nat} (he:l=[]∨e=1) (hl:(l.length:Int)<9223372036854775808):au AP (.fn 105) [.slice o e (l.map fun a=>[B a]),B x] s=some (B (l.any fun a=>(x==a)),s):=by
 have h:=auK (s:=s.push ⟨[],[]⟩) (o:=o) (x:=x) he hl
 rw[aM (show AP 105=some Ff from rfl) rfl]
 simp only[go_sem,U2,h,yW,simprocAttr]
end
end Go.Ax.Sx.Sc
