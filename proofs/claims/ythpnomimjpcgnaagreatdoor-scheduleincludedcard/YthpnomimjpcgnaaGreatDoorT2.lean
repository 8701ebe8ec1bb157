/-
  append: to a slice that is nil or full, and to one with the right to grow.
-/
import Derived.Test.YthpnomimjpcgnaaGreatDoorT1
import Derived.Laws.IdiomCopy
import Derived.Laws.StructEq
import Derived.Laws.IdiomStrings
import Derived.Laws.BytesString
import Derived.Laws.Slices
set_option linter.unusedSimpArgs false
set_option linter.unusedVariables false
set_option maxRecDepth 100000
namespace Go.Ax
open Go.RowKit
section
variable{P:Program} {B0:Nat} {w0:World} {G:aG} {k nl:Nat} {w:World} {s:ae}
theorem fU.flat {I:gg} {es:Nat} {xs:List (List AV)} {a:Addr} {cap:Nat} (h:fU I es xs a cap) (dU:0<es):
  (0<cap→a.spot=none)∧xs.length≤cap∧(∀r,r∈xs→r.length=es)∧(∀r,r∈xs→∀c,c∈r→c.bu=true)∧
  ∃g:Nat→Value,(∀c,c<xs.length*es→I a.block (a.off+c)=some (g c))∧∀i (hi:i<xs.length) j (hj:j<xs[i].length),bL I (xs[i][j]) (g (i*es+j)):=by
 cases h with
 |empty=>exact⟨fun h=>absurd h (zU _),aH _,by simp,by simp,fun _=>Go.undef,fun c hc=>by simp at hc,fun i hi=>absurd hi (dk _)⟩
 | slice f ho hc hlen bt hI hR =>
  refine⟨fun _=>rfl,hc,hlen,bt,fun c=>f (c/es) (c%es),fun c aC=>?_,fun i hi j hj=>?_⟩
  ·have h1:c/es<xs.length:=by rw[R3 dU];exact aC
   have h2:c%es<(xs[c/es]).length:=by rw[hlen _ (gA h1)];exact sZ _ dU
   have:=hI (c/es) h1 (c%es) h2
   rw[vK,xW]at this
   exact this
  ·have dM:j<es:=by rw[←hlen _ (gA hi)];exact hj
   have e1:(i*es+j)/es=i:=by rw[R9,Nat.mul_add_div dU,LA dM];omega
   have e2:(i*es+j)%es=j:=by rw[R9,Nat.mul_add_mod,HA dM]
   simp only[e1,e2]
   exact hR i hi j hj
theorem fU.mk {I:gg} {es:Nat} {xs:List (List AV)} {blk off cap:Nat} (g:Nat→Value) (hc:xs.length≤cap) (hlen:∀r,r∈xs→r.length=es) (bt:∀r,r∈xs→∀c,c∈r→c.bu=true)
  (hI:∀c,c<xs.length*es→I blk (off+c)=some (g c)) (hR:∀i (hi:i<xs.length) j (hj:j<xs[i].length),bL I (xs[i][j]) (g (i*es+j))):fU I es xs ⟨blk,off,none⟩ cap:=by
 refine .slice (fun i j=>g (i*es+j)) (.inl rfl) hc hlen bt (fun i hi j hj=>?_) hR
 rw[vK]
 refine hI _ ?_
 have dM:j<es:=by rw[←hlen _ (gA hi)];exact hj
 calc i*es+j<i*es+es:=by omega
  _=(i+1)*es:=by rw[ft,oN]
  _≤xs.length*es:=mF _ hi
def both (n:Nat) (f g:Nat→Value):Nat→Value:=fun c=>if c<n then f c else g (c-n)
theorem acX (n m:Nat) (f g:Nat→Value):(List.range n).map f++(List.range m).map g=(List.range (n+m)).map (both n f g):=by
 apply Lm
 ·simp
 ·intro i h1 h2
  simp only[ck,bE,pL]at h1
  by_cases hi:i<n
  ·rw[ug (by simpa using hi)]
   simp[both,hi]
  ·rw[uh (by simpa using hi)]
   simp[both,hi]
theorem akN {I:gg} {es:Nat} {xs ys:List (List AV)} {f g:Nat→Value} (hx:∀i (hi:i<xs.length) j (hj:j<xs[i].length),bL I (xs[i][j]) (f (i*es+j)))
  (hy:∀i (hi:i<ys.length) j (hj:j<ys[i].length),bL I (ys[i][j]) (g (i*es+j))) (lx:∀r,r∈xs→r.length=es) (i:Nat) (hi:i<(xs++ys).length) (j:Nat) (hj:j<(xs++ys)[i].length):
  bL I ((xs++ys)[i][j]) (both (xs.length*es) f g (i*es+j)):=by
 by_cases h:i<xs.length
 ·have e:(xs++ys)[i]=xs[i]:=ug h
  have dM:j<xs[i].length:=by rw[←e];exact hj
  have aC:i*es+j<xs.length*es:=by
   have:j<es:=by rw[←lx _ (gA h)];exact dM
   calc i*es+j<i*es+es:=by omega
    _=(i+1)*es:=by rw[ft,oN]
    _≤xs.length*es:=mF _ h
  have:=hx i h j dM
  simp only[both,aC,bZ,e]
  exact this
 ·have h':i-xs.length<ys.length:=by simp at hi;omega
  have e:(xs++ys)[i]=ys[i-xs.length]:=uh (by omega)
  have dM:j<ys[i-xs.length].length:=by rw[←e];exact hj
  have nH:¬i*es+j<xs.length*es:=by
   have:=mF es (LB h)
   omega
  have he:i*es+j-xs.length*es=(i-xs.length)*es+j:=by
   have:=mF es (LB h)
   rw[Nat.sub_mul];omega
  have:=hy _ h' j dM
  simp only[both,nH,dt,he,e]
  exact this
theorem V7 (need:Nat):∀(r c:Nat),c≤need+(need+768)/4→Builtin.growBy need r c≤need+(need+768)/4
 |0,c,h=>h
 |r+1,c,h=>by
  simp only[Builtin.growBy]
  split
  ·exact h
  ·exact V7 need r _ (by omega)
theorem ao7 (need Ql:Nat) (h:Ql<need):Builtin.nextslicecap need Ql≤2*need+1000:=by
 unfold Builtin.nextslicecap
 split
 ·omega
 ·split
  ·omega
  ·have:=V7 need 4 Ql (by omega)
   omega
structure ua (P:Program) (t e:TypeId) (es fW:Nat) (z:Value):Prop where
 slice:P.underlying t=some (.slice e)
 size:cK P e=some es
 bytes:yi P e=some fW
 zero:(P.info? e).bind (·.zero)=some z
 aub:z.cells.size=es
 pos:0<es
 ac3:0<fW
 ble:fW≤4096
theorem xJ {e:TypeId} {z:Value} (h:(P.info? e).bind (·.zero)=some z) (w:World):(zeroValue e).run P w=.ok z w:=by
 cases hi:P.info? e with
 |none=>rw[hi]at h;cases h
 |some i=>
  rw[hi]at h
  simp only[eL]at h
  simp[zeroValue,typeInfo,hi,h]
theorem Gu {e:TypeId} {b:Nat} (h:yi P e=some b):∃i,P.info? e=some i∧i.bytes=b:=by
 unfold yi at h
 cases hi:P.info? e with
 |none=>rw[hi]at h;cases h
 |some i=>
  rw[hi]at h
  simp only[dP,fL]at h
  exact⟨i,rfl,h⟩
theorem N1 {a:Addr} {n es len cap:Nat} {g:Nat→Value} (h:∀c,c<n*es→w.cell? (a.add c)=some (g c)):
  (Builtin.firstCells es n (.slice (some a) len cap)).run P w=.ok ((List.range (n*es)).map g).toArray w:=by
 simp only[Builtin.firstCells]
 exact run_loadCells w a (n*es) g h
theorem vW {t u e ty:TypeId} {es fW n cap:Nat} {z:Value} (hT:ua P t e es fW z) (hu:∃e',P.underlying u=some (.slice e')) (base b:Option Addr) (c:Nat) (hle:n≤cap):
  (Builtin.append_ #[t, u] ty #[.slice base n cap, .slice b 0 c]).run P w = .ok (.slice base n cap) w := by
 obtain⟨e',hu⟩:=hu
 obtain⟨i,hi,_⟩:=Gu hT.bytes
 have hs:i.size=es:=by have:=hT.size;unfold cK at this;rw[hi]at this;simpa using this
 have hf : ∀ b : Option Addr, (Builtin.firstCells es 0 (.slice b 0 c)).run P w = .ok #[] w := fun b => by
  cases b with
  |none=>simp[Builtin.firstCells]
  |some a=>simp[Builtin.firstCells,loadCells,loadCellsFrom]
 cases base with
 |none=>simp[Builtin.append_,run_underlying hT.slice,run_underlying hu,sizeOf,typeInfo,hi,hs,Builtin.lenOf,hle,hf]
 |some a=>simp[Builtin.append_,run_underlying hT.slice,run_underlying hu,sizeOf,typeInfo,hi,hs,Builtin.lenOf,hle,hf,storeCells]
theorem LY {t u e ty:TypeId} {es fW n m cap c blk:Nat} {z:Value} {a:Addr} {g:Nat→Value} {arr:Array Value} {tb:TypeId} (hT:ua P t e es fW z) (hu:∃e',P.underlying u=some (.slice e')) (hle:n+m≤cap)
  (hg:∀c,c<m*es→w.cell? (a.add c)=some (g c)) (hw:w.heap[blk]? =some (.cells arr tb)) (bP:(n+m)*es≤arr.size) (h1:∀c,c<m*es→(g c).oneCell'=true):
  (Builtin.append_ #[t, u] ty #[.slice (some ⟨blk, 0, none⟩) n cap, .slice (some a) m c]).run P w = .ok (.slice (some ⟨blk, 0, none⟩) (n + m) cap) (w.setCells blk (n * es) ((List.range (m * es)).map g)) := by
 obtain⟨e',hu⟩:=hu
 obtain⟨i,hi,_⟩:=Gu hT.bytes
 have hs:i.size=es:=by have:=hT.size;unfold cK at this;rw[hi]at this;simpa using this
 have OO:=N1 (P:=P) (len:=m) (cap:=c) hg
 have bX:=run_storeCells_cells (P:=P) blk (n*es) ((List.range (m*es)).map g) 0 w (fun j hj=>by
   rw[cell_of_heap hw]
   have dM:j<m*es:=by simpa using hj
   rw[ft]at bP
   simp;omega) (fun j _=>frozen_of_heap hw) (fun v hv=>by
   simp only[cC,pM]at hv
   obtain⟨c,hc,rfl⟩:=hv
   exact h1 c hc)
 rw[vL]at bX
 simp[Builtin.append_,run_underlying hT.slice,run_underlying hu,sizeOf,typeInfo,hi,hs,Builtin.lenOf,hle,OO,il,bX]
theorem ye {t e:TypeId} {es fW n cap:Nat} {z:Value} (hT:ua P t e es fW z) (lA:¬n≤cap) (oz:n≤di):Builtin.nextslicecap n cap*fW≤2^48:=by
 have avB:=ao7 n cap (by omega)
 unfold di at oz
 have h1:Builtin.nextslicecap n cap*fW≤(2*4294967296+1000)*4096:=Nat.mul_le_mul (by omega) hT.ble
 omega
theorem vV {t u e ty:TypeId} {es fW n m cap c:Nat} {z:Value} {base:Option Addr} {a:Addr} {f g:Nat→Value} (hT:ua P t e es fW z) (hu:∃e',P.underlying u=some (.slice e')) (lA:¬n+m≤cap) (oz:Builtin.nextslicecap (n+m) cap*fW≤2^48)
  (hf:∀b,base=some b→∀c,c<n*es→w.cell? (b.add c)=some (f c)) (j7:base=none→n=0) (hg:∀c,c<m*es→w.cell? (a.add c)=some (g c)):
  ∃ (newCap : Nat) (rest : List Value), n + m ≤ newCap ∧ rest.length = (newCap - (n + m)) * es ∧
   (Builtin.append_ #[t, u] ty #[.slice base n cap, .slice (some a) m c]).run P w =
    .ok (.slice (some ⟨w.heap.size,0,none⟩) (n+m) newCap) (w.drew.alloc (.cells ((List.range (n*es+m*es)).map (both (n*es) f g)++rest).toArray e)):=by
 obtain⟨e',hu⟩:=hu
 obtain⟨i,hi,uU⟩:=Gu hT.bytes
 have hs:i.size=es:=by have:=hT.size;unfold cK at this;rw[hi]at this;simpa using this
 have hz:i.zero=some z:=by have:=hT.zero;rw[hi]at this;simpa using this
 have avv:cap<n+m:=by omega
 have aif:¬Builtin.nextslicecap (n+m) cap*i.bytes>2^48:=by rw[uU];omega
 have jN:¬i.bytes=0:=by have:=hT.ac3;omega
 have OO:=N1 (P:=P) (w:=w.drew) (n:=m) (es:=es) (a:=a) (g:=g) (len:=m) (cap:=c) hg
 have hold:(Builtin.firstCells es n (.slice base n cap)).run P w.drew=.ok ((List.range (n*es)).map f).toArray w.drew:=by
  cases base with
  |none=>rw[j7 rfl];simp[Builtin.firstCells]
  |some b=>exact N1 (P:=P) (w:=w.drew) (hf b rfl)
 have fC:n+m≤(Question.appendCap (n+m) cap e).cut (w.tape w.drawn (Question.appendCap (n+m) cap e)):=by simp[Question.cut]
 generalize JZ:(Question.appendCap (n+m) cap e).cut (w.tape w.drawn (Question.appendCap (n+m) cap e))=newCap at fC
 refine⟨newCap,(Builtin.zeroCells z.cells (newCap-(n+m))).toList,fC,by simp[Builtin.zeroCells,hT.aub],?_⟩
 have Bl:(Question.appendCap (n+m) cap e).forced=false:=rfl
 simp only[Builtin.append_,RO,Hk,Lt,Sem.run_bind,Sem.run_pure,Result.andThen_ok,run_underlying hT.slice,run_underlying hu,jF hT.size,
  Builtin.lenOf,eB,lA,↓reduceIte]
 simp[typeInfo,hi,jN,aif,hold,OO,newRow,Bl,JZ,xJ hT.zero]
 rw[←acX]
 congr 2
 apply Array.ext'
 simp
theorem YK {l:List (Option Nat)} {g:Nat} {x:Option Nat} (h:none∈l) (hg:x=none∨∃n,l[g]? =some (some n)):none∈l.set g x:=by
 obtain⟨j,hj⟩:=n5 h
 have hl:=(aY.1 hj).1
 by_cases e:j=g
 ·subst e
  rcases hg with rfl|⟨n,hn⟩
  ·exact bK (i:=j) (by simp[hl])
  ·rw[hj]at hn;injection hn with hn;cases hn
 ·exact bK (i:=j) (by rw[eK (qn e)];exact hj)
theorem vP.tokens {G':aG} {w':World} {d g0:Nat} {r:Rec} {gr:cE} (aJ:vP B0 G d r gr w) (hle:bB d gr.nl G G') (hk:jI (· =.tok d g0) G w G' w') {toks':List (Option Nat)} {tk':List ld}
  (hl:tk'.length=toks'.length) (aC:none∈r.toks→none∈toks')
  (hg:∀(g:Nat) (n:Option Nat) (T:ld),toks'[g]? =some n→tk'[g]? =some T→(g≠g0∧r.toks[g]? =some n∧gr.tk[g]? =some T)∨(g=g0∧zX B0 G' d g n T w')):
  vP B0 G' d {r with toks:=toks'} {gr with tk:=tk'} w':=by
 refine⟨aJ.ek,hl,fun b cs blk e1 e2=>?_,fun b blk e1 e2=>aC (aJ.full b blk e1 e2),fun g n T e1 e2=>?_,fun i b e1=>?_,aJ.mP⟩
 ·exact(aJ.box b cs blk e1 e2).kept hle hk (fun _ e=>by cases e)
 ·rcases hg g n T e1 e2 with⟨aB,h1,h2⟩|⟨_,h⟩
  ·have ht:=aJ.tok g n T h1 h2
   have hs:∀(hn:n.isSome=true),G'.own T.blk=some (.tok d g)∧w'.heap[T.blk]? =w.heap[T.blk]? ∧∀i,G.I T.blk i=none→G'.I T.blk i=none:=fun hn=>by
    obtain⟨m,hm⟩:=oO.1 hn
    exact hk _ _ (ht.2 m hm).2.1 (fun e=>by injection e with _ e;exact aB e)
   exact ht.cJ (fun hn=>(hs hn).1) (fun hn=>(hs hn).2.1) (fun hn=>(hs hn).2.2)
  ·exact h
 ·have hm:=aJ.mark i b e1
  obtain⟨k1,k2,_⟩:=hk _ _ hm.2.1 (fun e=>by cases e)
  exact hm.cJ k1 k2
def aG.qo (G:aG) (b n:Nat) (f:Nat→Value):gg:=fun c i=>if c=b then(if i<n then some (f i)else none)else G.I c i
theorem Nu {xs ys:List (List AV)} {es:Nat} {I:gg} {f g:Nat→Value} {blk cap:Nat} (lx:∀r,r∈xs→r.length=es) (ly:∀r,r∈ys→r.length=es)
  (cx:∀r,r∈xs→∀c,c∈r→c.bu=true) (cy:∀r,r∈ys→∀c,c∈r→c.bu=true) (fC:xs.length+ys.length≤cap)
  (hI:∀c,c<(xs.length+ys.length)*es→I blk c=some (both (xs.length*es) f g c))
  (hx:∀i (hi:i<xs.length) j (hj:j<xs[i].length),bL I (xs[i][j]) (f (i*es+j))) (hy:∀i (hi:i<ys.length) j (hj:j<ys[i].length),bL I (ys[i][j]) (g (i*es+j))):
  fU I es (xs++ys) ⟨blk,0,none⟩ cap:=by
 refine fU.mk (both (xs.length*es) f g) (by simpa using fC) (fun r hr=>?_) (fun r hr=>?_) (fun c hc=>?_) (akN hx hy lx)
 ·rcases c9.1 hr with h|h
  ·exact lx r h
  ·exact ly r h
 ·rcases c9.1 hr with h|h
  ·exact cx r h
  ·exact cy r h
 ·rw[fK]
  exact hI c (by simpa using hc)
theorem SC (h : At P B0 w0 G k nl s w) {es n : Nat} {xs ys : List (List AV)} {f g : Nat → Value} {newCap : Nat} {rest : List Value} {e : TypeId} (dU : 0 < es) (hn : n = xs.length + ys.length)
    (lx:∀r,r∈xs→r.length=es) (ly:∀r,r∈ys→r.length=es) (cx:∀r,r∈xs→∀c,c∈r→c.bu=true) (cy:∀r,r∈ys→∀c,c∈r→c.bu=true)
    (hx:∀i (hi:i<xs.length) j (hj:j<xs[i].length),bL G.I (xs[i][j]) (f (i*es+j))) (hy:∀i (hi:i<ys.length) j (hj:j<ys[i].length),bL G.I (ys[i][j]) (g (i*es+j)))
    (fC:n≤newCap) (ia:rest.length=(newCap-n)*es):
    df P B0 w0 G k nl s (s.lg k n) (w.drew.alloc (.cells ((List.range (xs.length*es+ys.length*es)).map (both (xs.length*es) f g)++rest).toArray e))
      (.slice (.tok k (s.jW k)) es (xs++ys)) (.slice (some ⟨w.heap.size,0,none⟩) n newCap):=by
  obtain⟨r,gr,hr,hg⟩:=h.cI (aH k)
  have aJ:=h.rel.cI k r gr hr hg
  have sh:s.jW k=r.toks.length:=by simp[ae.jW,hr]
  have zf:xs.length*es+ys.length*es=n*es:=by rw[hn,ft]
  let T:ld:=⟨some n,w.heap.size,newCap,es⟩
  let G':aG:={G with I:=G.qo w.heap.size (n*es) (both (xs.length*es) f g),ag:=G.ag.modify k fun q=>{q with tk:=q.tk++[T]},own:=fun b=>if b=w.heap.size then some (.tok k r.toks.length)else G.own b}
  generalize wO:((List.range (xs.length*es+ys.length*es)).map (both (xs.length*es) f g)++rest).toArray=arr
  have rZ:arr.size=newCap*es:=by
    rw[←wO]
    simp only[xV,ck,bE,pL,ia,zf]
    rw[←ft]
    congr 1
    omega
  have dV:∀c,c<n*es→arr[c]? =some (both (xs.length*es) f g c):=fun c hc=>by
    rw[←wO,zf]
    simp only[RO]
    rw[dB (by simpa using hc)]
    simp[hc]
  let w':=w.drew.alloc (.cells arr e)
  have hI:∀b i v,G.I b i=some v→G'.I b i=some v:=fun b i v e=>by
    have:=h.rel.sS e
    simp only[G',aG.qo]
    rw[aq (by omega)]
    exact e
  have hk:jI (· =.tok k r.toks.length) G w G' w':=fun b o e _=>by
    have aC:=h.rel.eO b o e
    refine⟨by simp only[G'];rw[aq (by omega)];exact e,Below.heap_alloc w.drew _ _ aC,fun i e=>?_⟩
    simp only[G',aG.qo]
    rw[aq (by omega)]
    exact e
  have fc:iZ gr {gr with tk:=gr.tk++[T]}:=⟨fun b blk e=>e,fun g T e=>⟨T,mO e,.refl T⟩,rfl,fun _ _ e=>e⟩
  have gG:w'.heap[w.heap.size]? =some (.cells arr e):=World.alloc_heap_new w.drew _
  have uY:bB k gr.nl G G':=⟨hI,fun d q _ e=>by
    show∃bI,(G.ag.modify k _)[d]? =some bI∧_
    rw[dQ]
    by_cases hd:k=d
    · subst hd
      rw[hg]at e
      injection e with e
      subst e
      exact⟨_,by rw[ak rfl,hg];rfl,fc,fun _=>rfl⟩
    · exact⟨q,by rw[aq hd];exact e,.refl q,fun _=>rfl⟩,fun _ _ _ e=>e⟩
  have fm:=h.rel.br (G':=G') (w':=w') hr hg (fun r=>{r with toks:=r.toks++[some n]}) (fun q=>{q with tk:=q.tk++[T]}) (· =.tok k r.toks.length) rfl rfl hI fc rfl hk
    (fun o ho=>.inr ⟨_,ho⟩) ?_ (fun b i v e=>?_) (((Below.refl _ _).drew).alloc h.rel.low _) (fun b o e=>?_)
  · obtain ⟨mU, jQ⟩ := fm
    have hlen:(s.lg k n).ag.length=s.ag.length:=by simp[ae.lg,ae.br]
    obtain⟨gc,nG,wZ⟩:=h.cur
    rw[hg]at nG
    injection nG with nG
    subst nG
    have gE:G'.ag[k]? =some {gr with tk:=gr.tk++[T]}:=by
      show(G.ag.modify k _)[k]? =_
      rw[dQ,ak rfl,hg];rfl
    have lA:({gr with tk:=gr.tk++[T]}:cE).tk[r.toks.length]? =some T:=by
      show(gr.tk++[T])[r.toks.length]? =_
      rw[←aJ.iV,gM (aH _)]
      simp
    refine⟨G',h.to mU (jQ _ _) hlen,jQ _ _,by simp[ae.lg,ae.br],?_⟩
    rw[sh]
    have hc:fU G'.I es (xs++ys) ⟨w.heap.size,0,none⟩ newCap:=
      Nu lx ly cx cy (by omega) (fun c hc=>by
        simp only[G',aG.qo]
        rw[ak trivial,ak (by rw[hn];exact hc)]) (fun i hi j hj=>(hx i hi j hj).mono hI) (fun i hi j hj=>(hy i hi j hj).mono hI)
    have hl:(xs++ys).length=n:=by simp[hn]
    have:=Rel.tok (G:=G') (k:=k) (nl:=nl) (d:=k) (g:=r.toks.length) (es:=es) (xs:=xs++ys) (a:=⟨w.heap.size,0,none⟩) (cap:=newCap) T _ (aH _) gE lA rfl hc
      (fun m hm=>by
        simp only[T]at hm
        injection hm with hm
        subst hm
        exact⟨by omega,fun _=>⟨rfl,rfl⟩⟩)
    rw[hl]at this
    exact this
  · refine aJ.tokens (toks' := r.toks ++ [some n]) (tk' := gr.tk ++ [T]) uY hk (by simp [aJ.iV]) (n7 _) (fun g m T' e1 e2 => ?_)
    rcases ev e1 with⟨aC,e1⟩|⟨rfl,rfl⟩
    · refine .inl ⟨by omega, e1, ?_⟩
      rcases ev e2 with⟨_,e2⟩|⟨hb,_⟩
      · exact e2
      · rw[aJ.iV]at hb;omega
    · have : T' = T := by
        rcases ev e2 with⟨hb,_⟩|⟨_,e⟩
        · rw[aJ.iV]at hb;omega
        · exact e
      subst this
      refine .inr ⟨rfl,rfl,fun m hm=>?_⟩
      injection hm with hm
      subst hm
      refine⟨h.rel.low,by simp[G',T],fun i hi=>?_,fC,dU,arr,e,gG,rZ⟩
      simp only[G',aG.qo,T]at hi⊢
      rw[ak trivial,aq (by omega)]
  · simp only [G', aG.qo] at e
    split at e
    · rename_i hb
      subst hb
      split at e
      · rename_i hi
        injection e with e
        subst e
        rw[cell_of_heap gG]
        exact dV i hi
      · cases e
    · rename_i hb
      have:=h.rel.ff b i v e
      rw[E7 (w:=w) (Below.heap_alloc w.drew _ _ (h.rel.sS e)) rfl]
      exact this
  · simp only [G'] at e
    split at e
    · rename_i hb;subst hb;simp[w']
    · have:=h.rel.eO b o e;simp[w'];omega
theorem B8 {α:Type} {l:List α} {i j:Nat} {x y:α} (h:(l.set i x)[j]? =some y):(j≠i∧l[j]? =some y)∨(j=i∧y=x∧i<l.length):=by
 rw[sW]at h
 by_cases ez:i=j
 ·rw[ak ez]at h
  split at h
  ·injection h with h
   exact .inr ⟨ez.symm,h.symm,by assumption⟩
  ·cases h
 ·rw[aq ez]at h
  exact .inl ⟨fun e=>ez e.symm,h⟩
theorem GS {α:Type} {l:List α} {i:Nat} {x y:α} (h:l[i]? =some y):(l.set i x)[i]? =some x:=by
 rw[sW,ak rfl,ak (aY.1 h).1]
theorem aaG (h : At P B0 w0 G k nl s w) {d g n m : Nat} {r : Rec} {gr : cE} {T T' : ld} {w' : World} {I' : gg} {own' : Nat → Option rC} (hd : d ≤ k) (hr : s.ag[d]? = some r) (hg : G.ag[d]? = some gr)
    (jx:r.toks[g]? =some (some n)) (lA:gr.tk[g]? =some T) (Wn:T'.n=some m) (aC:n<m) (dU:T'.es=T.es)
    (hI:∀b i v,G.I b i=some v→I' b i=some v) (hk:∀b o,G.own b=some o→o≠.tok d g→own' b=some o∧w'.heap[b]? =w.heap[b]? ∧∀i,G.I b i=none→I' b i=none)
    (gG:zX B0 {G with I:=I',ag:=G.ag.modify d fun q=>{q with tk:=q.tk.set g T'},own:=own'} d g (some m) T' w')
    (FR:∀b i v,I' b i=some v→w'.cell? ⟨b,i,none⟩=some v) (hb:Below B0 w w') (F6:∀b o,own' b=some o→b<w'.heap.size)
    {es:Nat} {xs:List (List AV)} {a:Addr} {cap:Nat} (FN:T'.es=es) (hlen:xs.length=m) (hc:fU I' es xs a cap) (ha:a=⟨T'.blk,0,none⟩) (fC:cap=T'.cap):
    df P B0 w0 G k nl s (s.mz d g (some m)) w' (.slice (.tok d g) es xs) (.slice (some a) m cap):=by
  have aJ:=h.rel.cI d r gr hr hg
  have oY:T.n=some n:=(aJ.tok g (some n) T jx lA).1
  let G':aG:={G with I:=I',ag:=G.ag.modify d fun q=>{q with tk:=q.tk.set g T'},own:=own'}
  have aj1:vQ T T':=⟨dU,.inr (.inr ⟨n,m,oY,Wn,aC⟩)⟩
  have fc:iZ gr {gr with tk:=gr.tk.set g T'}:=⟨fun b blk e=>e,fun j U e=>by
    by_cases hj:j=g
    · subst hj
      rw[lA]at e
      injection e with e
      subst e
      exact⟨T',GS lA,aj1⟩
    · exact⟨U,by show(gr.tk.set g T')[j]? =_;rw[sW,aq (fun e=>hj e.symm)];exact e,.refl U⟩,rfl,fun _ _ e=>e⟩
  have u2:jI (· =.tok d g) G w G' w':=hk
  have uY:bB d gr.nl G G':=⟨hI,fun d' q _ e=>by
    show∃bI,(G.ag.modify d _)[d']? =some bI∧_
    rw[dQ]
    by_cases wU:d=d'
    · subst wU
      rw[hg]at e
      injection e with e
      subst e
      exact⟨_,by rw[ak rfl,hg];rfl,fc,fun _=>rfl⟩
    · exact⟨q,by rw[aq wU];exact e,.refl q,fun _=>rfl⟩,fun _ _ _ e=>e⟩
  have fm:=h.rel.br (G':=G') (w':=w') hr hg (fun r=>{r with toks:=r.toks.set g (some m)}) (fun q=>{q with tk:=q.tk.set g T'}) (· =.tok d g) rfl rfl hI fc rfl u2
    (fun o ho=>.inr ⟨_,ho⟩) ?_ FR hb F6
  · obtain ⟨mU, jQ⟩ := fm
    have ai0:(s.mz d g (some m)).ag.length=s.ag.length:=by simp[ae.mz,ae.br]
    have gE:G'.ag[d]? =some {gr with tk:=gr.tk.set g T'}:=by
      show(G.ag.modify d _)[d]? =_
      rw[dQ,ak rfl,hg];rfl
    refine⟨G',h.to mU (jQ _ _) ai0,jQ _ _,by simp[ae.mz,ae.br],?_⟩
    have:=Rel.tok (G:=G') (k:=k) (nl:=nl) (d:=d) (g:=g) (es:=es) (xs:=xs) (a:=a) (cap:=cap) T' _ hd gE (GS lA) FN hc
      (fun p hp=>by
        rw[Wn]at hp
        injection hp with hp
        subst hp
        exact⟨by omega,fun _=>⟨ha,fC⟩⟩)
    rw[hlen]at this
    exact this
  · refine aJ.tokens (toks' := r.toks.set g (some m)) (tk' := gr.tk.set g T') uY u2 (by simp [aJ.iV]) (fun hm => YK hm (.inr ⟨_, jx⟩)) (fun j p U e1 e2 => ?_)
    rcases B8 e1 with⟨aB,e1⟩|⟨rfl,rfl,_⟩
    · rcases B8 e2 with ⟨_, e2⟩ | ⟨hj, _⟩
      · exact .inl ⟨aB,e1,e2⟩
      · exact absurd hj aB
    · rcases B8 e2 with ⟨hj, _⟩ | ⟨_, rfl, _⟩
      · exact absurd rfl hj
      · exact .inr ⟨rfl,gG⟩
theorem abY (h:At P B0 w0 G k nl s w) {d g n es:Nat} {xs ys:List (List AV)} {fx fy:Nat→Value} {r:Rec} {gr:cE} {T:ld} (hd:d≤k) (hr:s.ag[d]? =some r) (hg:G.ag[d]? =some gr)
  (jx:r.toks[g]? =some (some xs.length)) (lA:gr.tk[g]? =some T) (Ba:T.es=es) (dU:0<es) (hn:n=xs.length+ys.length) (jk:0<ys.length) (lH:n≤T.cap)
  (lx:∀r,r∈xs→r.length=es) (ly:∀r,r∈ys→r.length=es) (cx:∀r,r∈xs→∀c,c∈r→c.bu=true) (cy:∀r,r∈ys→∀c,c∈r→c.bu=true)
  (xj:∀c,c<xs.length*es→G.I T.blk c=some (fx c))
  (hx:∀i (hi:i<xs.length) j (hj:j<xs[i].length),bL G.I (xs[i][j]) (fx (i*es+j))) (hy:∀i (hi:i<ys.length) j (hj:j<ys[i].length),bL G.I (ys[i][j]) (fy (i*es+j))):
  df P B0 w0 G k nl s (s.mz d g (some n)) (w.setCells T.blk (xs.length*es) ((List.range (ys.length*es)).map fy)) (.slice (.tok d g) es (xs++ys)) (.slice (some ⟨T.blk,0,none⟩) n T.cap):=by
 have aJ:=h.rel.cI d r gr hr hg
 have hTR:=aJ.tok g (some xs.length) T jx lA
 obtain⟨oY,rU⟩:=hTR
 obtain⟨t1,t2,t3,t4,t5,arr,ty,t6,t7⟩:=rU _ rfl
 rw[Ba]at t3 t7
 have zf:n*es=xs.length*es+ys.length*es:=by rw[hn,ft]
 let I':gg:=fun b i=>if b=T.blk∧xs.length*es≤i∧i<n*es then some (fy (i-xs.length*es))else G.I b i
 have hI:∀b i v,G.I b i=some v→I' b i=some v:=fun b i v e=>by
  simp only[I']
  split
  ·rename_i hc
   obtain⟨rfl,h1,_⟩:=hc
   rw[t3 i h1]at e
   cases e
  ·exact e
 have yO:Below B0 w (w.setCells T.blk (xs.length*es) ((List.range (ys.length*es)).map fy)):=Dx t1 _ _ _
 have aji:=FL ((List.range (ys.length*es)).map fy) (xs.length*es) arr w t6
 have F7:∀b,b≠T.blk→(w.setCells T.blk (xs.length*es) ((List.range (ys.length*es)).map fy)).heap[b]? =w.heap[b]? :=fun b hb=>FM hb _ _ _
 have avh:n*es≤arr.size:=by rw[t7];exact mF _ lH
 have aZ:=World.cell?_setCells_in T.blk ((List.range (ys.length*es)).map fy) (xs.length*es) w (fun j hj=>by
  rw[cell_of_heap t6]
  have dM:j<ys.length*es:=by simpa using hj
  simp;omega)
 refine aaG h (T:=T) (T':={T with n:=some n}) (I':=I') (own':=G.own) hd hr hg jx lA rfl (by omega) rfl hI (fun b o ho aB=>?_) ?_ (fun b i v e=>?_) yO (fun b o ho=>?_) Ba (by simp[hn]) ?_ rfl rfl
 ·have hb:b≠T.blk:=by
   rintro rfl
   rw[t2]at ho
   injection ho with ho
   exact aB ho.symm
  refine⟨ho,F7 b hb,fun i e=>?_⟩
  simp only[I']
  rw[aq (fun hc=>hb hc.1)]
  exact e
 ·refine⟨rfl,fun p hp=>?_⟩
  injection hp with hp
  subst hp
  refine⟨t1,t2,fun i hi=>?_,lH,t5,_,ty,aji,by rw[xC,t7,Ba]⟩
  simp only[Ba]at hi
  simp only[I']
  rw[aq (fun hc=>by omega)]
  exact t3 i (by omega)
 ·simp only[I']at e
  split at e
  ·rename_i hc
   obtain⟨rfl,h1,h2⟩:=hc
   injection e with e
   subst e
   have:=aZ (i-xs.length*es) (by simp;omega)
   rw[show xs.length*es+(i-xs.length*es)=i by omega]at this
   rw[this]
   simp
  ·rename_i hc
   have hv:=h.rel.ff b i v e
   rw[World.cell?_setCells_out]
   ·exact hv
   ·intro hb _
    have hb:b=T.blk:=hb
    subst hb
    simp only[bE,pL]
    rcases R6 i (xs.length*es)with h1|h1
    ·exact .inl h1
    ·exact .inr (by
      have:¬i<n*es:=fun h2=>hc ⟨rfl,h1,h2⟩
      show xs.length*es+ys.length*es≤i
      omega)
 ·rw[GW]
  exact h.rel.eO b o ho
 ·refine Nu (f:=fx) (g:=fy) lx ly cx cy (by omega) (fun c hc=>?_) (fun i hi j hj=>(hx i hi j hj).mono hI) (fun i hi j hj=>(hy i hi j hj).mono hI)
  rw[←hn]at hc
  simp only[I',both]
  by_cases aC:c<xs.length*es
  ·rw[aq (fun hh=>by omega),ak aC]
   exact xj c aC
  ·rw[ak ⟨trivial,by omega,hc⟩,aq aC]
theorem abX (h:At P B0 w0 G k nl s w) {d g n es:Nat} {xs ys:List (List AV)} {f fy:Nat→Value} {r:Rec} {gr:cE} {T:ld} {newCap:Nat} {rest:List Value} {e:TypeId} (hd:d≤k) (hr:s.ag[d]? =some r) (hg:G.ag[d]? =some gr)
  (jx:r.toks[g]? =some (some xs.length)) (lA:gr.tk[g]? =some T) (Ba:T.es=es) (dU:0<es) (hn:n=xs.length+ys.length) (jk:0<ys.length)
  (lx:∀r,r∈xs→r.length=es) (ly:∀r,r∈ys→r.length=es) (cx:∀r,r∈xs→∀c,c∈r→c.bu=true) (cy:∀r,r∈ys→∀c,c∈r→c.bu=true)
  (hx:∀i (hi:i<xs.length) j (hj:j<xs[i].length),bL G.I (xs[i][j]) (f (i*es+j))) (hy:∀i (hi:i<ys.length) j (hj:j<ys[i].length),bL G.I (ys[i][j]) (fy (i*es+j)))
  (fC:n≤newCap) (ia:rest.length=(newCap-n)*es):
  df P B0 w0 G k nl s (s.mz d g (some n)) (w.drew.alloc (.cells ((List.range (xs.length*es+ys.length*es)).map (both (xs.length*es) f fy)++rest).toArray e))
   (.slice (.tok d g) es (xs++ys)) (.slice (some ⟨w.heap.size,0,none⟩) n newCap):=by
 have aJ:=h.rel.cI d r gr hr hg
 obtain⟨oY,rU⟩:=aJ.tok g (some xs.length) T jx lA
 obtain⟨t1,t2,t3,t4,t5,_,_,t6,_⟩:=rU _ rfl
 have avd:T.blk<w.heap.size:=(tZ.1 t6).1
 have zf:xs.length*es+ys.length*es=n*es:=by rw[hn,ft]
 generalize wO:((List.range (xs.length*es+ys.length*es)).map (both (xs.length*es) f fy)++rest).toArray=arr
 have rZ:arr.size=newCap*es:=by
  rw[←wO]
  simp only[xV,ck,bE,pL,ia,zf]
  rw[←ft]
  congr 1
  omega
 have dV:∀c,c<n*es→arr[c]? =some (both (xs.length*es) f fy c):=fun c hc=>by
  rw[←wO,zf]
  simp only[RO]
  rw[dB (by simpa using hc)]
  simp[hc]
 have gG:(w.drew.alloc (.cells arr e)).heap[w.heap.size]? =some (.cells arr e):=World.alloc_heap_new w.drew _
 let I':gg:=G.qo w.heap.size (n*es) (both (xs.length*es) f fy)
 have hI:∀b i v,G.I b i=some v→I' b i=some v:=fun b i v e=>by
  have:=h.rel.sS e
  simp only[I',aG.qo]
  rw[aq (by omega)]
  exact e
 refine aaG h (T:=T) (T':=⟨some n,w.heap.size,newCap,es⟩) (I':=I') (own':=fun b=>if b=w.heap.size then some (.tok d g)else if b=T.blk then none else G.own b) hd hr hg jx lA rfl (by omega) Ba.symm hI
  (fun b o ho aB=>?_) ?_ (fun b i v e=>?_) (((Below.refl _ _).drew).alloc h.rel.low _) (fun b o ho=>?_) rfl (by simp[hn]) ?_ rfl rfl
 ·have aC:=h.rel.eO b o ho
  have hb:b≠T.blk:=by
   rintro rfl
   rw[t2]at ho
   injection ho with ho
   exact aB ho.symm
  refine⟨by rw[aq (by omega),aq hb];exact ho,Below.heap_alloc w.drew _ _ aC,fun i e=>?_⟩
  simp only[I',aG.qo]
  rw[aq (by omega)]
  exact e
 ·refine⟨rfl,fun p hp=>?_⟩
  injection hp with hp
  subst hp
  refine⟨h.rel.low,by simp,fun i hi=>?_,fC,dU,arr,e,gG,rZ⟩
  simp only[I',aG.qo]at hi⊢
  rw[ak trivial,aq (by omega)]
 ·simp only[I',aG.qo]at e
  split at e
  ·rename_i hb
   subst hb
   split at e
   ·rename_i hi
    injection e with e
    subst e
    rw[cell_of_heap gG]
    exact dV i hi
   ·cases e
  ·rename_i hb
   have:=h.rel.ff b i v e
   rw[E7 (w:=w) (Below.heap_alloc w.drew _ _ (h.rel.sS e)) rfl]
   exact this
 ·split at ho
  ·rename_i hb;subst hb;simp
  ·split at ho
   ·cases ho
   ·have:=h.rel.eO b o ho;simp;omega
 ·refine Nu (f:=f) (g:=fy) lx ly cx cy (by omega) (fun c hc=>?_) (fun i hi j hj=>(hx i hi j hj).mono hI) (fun i hi j hj=>(hy i hi j hj).mono hI)
  simp only[I',aG.qo]
  rw[ak trivial,ak (by rw[hn];exact hc)]
theorem vT {a:Addr} (h:a.spot=none):a=⟨a.block,a.off,none⟩:=by
 cases a
 cases h
 rfl
theorem abZ (h:At P B0 w0 G k nl s w) {t u e ty:TypeId} {es fW:Nat} {z:Value} (hT:ua P t e es fW z) (hu:∃e',P.underlying u=some (.slice e')) {a b v:AV} {x y:Value} {s':ae}
  (hx:Rel G k nl a x) (hy:Rel G k nl b y) (ha:ej s es a b=some (v,s')):
  ∃ x' w', (Builtin.append_ #[t, u] ty #[x, y]).run P w = .ok x' w' ∧ df P B0 w0 G k nl s s' w' v x' := by
 unfold ej at ha
 split at ha
 case h_2=>cases ha
 rename_i o e1 xs oy e2 ys
 split at ha
 ·rename_i kR
  have kR:ys=[]:=by simpa using kR
  subst kR
  injection ha with ha
  injection ha with h1 h2
  subst h1 h2
  have me:df P B0 w0 G k nl s s w (.slice o e1 xs) x:=⟨G,h,bB.refl _ _ _,rfl,hx⟩
  have oF:∃bb c,y=.slice bb 0 c:=by
   rcases hy.iS with⟨_,_,rfl⟩|⟨_,aa,c,rfl,_⟩
   ·exact⟨_,_,rfl⟩
   ·exact⟨_,_,rfl⟩
  obtain⟨bb,c,rfl⟩:=oF
  rcases hx.iS with⟨_,_,rfl⟩|⟨_,aa,cap,rfl,_,hle,_⟩
  ·exact⟨_,w,vW hT hu none bb c (aH _),me⟩
  ·exact⟨_,w,vW hT hu (some aa) bb c hle,me⟩
 ·rename_i kR
  split at ha
  case isFalse=>cases ha
  rename_i bn
  obtain⟨rfl,kN,oz⟩:=bn
  have jk:0<ys.length:=by
   cases ys with
   |nil=>simp at kR
   |cons=>simp
  rcases hy.iS with⟨_,hn,_⟩|⟨_,ay,cy,rfl,_,_,oF,_⟩
  ·rw[hn]at jk;simp at jk
  obtain⟨vg,wT,ly,oQ,fy,vf,pr⟩:=fU.flat oF hT.pos
  have uT:ay=⟨ay.block,ay.off,none⟩:=vT (vg (by omega))
  have jP:∀c,c<ys.length*e2→w.cell? (ay.add c)=some (fy c):=fun c hc=>by
   rw[uT,il];exact h.rel.ff _ _ _ (vf c hc)
  cases o with
  |any=>cases ha
  | aA =>
   injection ha with ha
   injection ha with h1 h2
   subst h1 h2
   rcases hx.iS with⟨_,rfl,rfl⟩|⟨aB,_⟩
   ·obtain⟨newCap,rest,fC,ia,db⟩:=vV (P:=P) (w:=w) (ty:=ty) (n:=0) (m:=ys.length) (cap:=0) (c:=cy) (base:=none) (a:=ay) (f:=fun _=>Go.undef) (g:=fy) hT hu (by omega)
     (ye hT (by omega) (by simpa using oz)) (fun _ e=>by cases e) (fun _=>rfl) jP
    refine⟨_,_,db,?_⟩
    have:=SC h (xs:=[]) (ys:=ys) (f:=fun _=>Go.undef) (g:=fy) (n:=ys.length) (newCap:=newCap) (rest:=rest) (e:=e) hT.pos (by simp) (by simp) ly (by simp) oQ (by simp) pr (by omega) (by simpa using ia)
    rw[h.gS]
    simpa using this
   ·exact absurd rfl aB
  | full =>
   injection ha with ha
   injection ha with h1 h2
   subst h1 h2
   rcases hx.iS with⟨aB,_⟩|⟨_,ax,cx,rfl,_,_,mh,wX⟩
   ·cases aB
   have pf:=wX rfl
   subst pf
   have:e1=e2:=by
    rcases kN with h|h
    ·cases h
    ·exact h
   subst this
   obtain⟨PD,_,lx,wy,fx,xj,xk⟩:=fU.flat mh hT.pos
   have Bg:∀c,c<xs.length*e1→ax=⟨ax.block,ax.off,none⟩:=fun c hc=>vT (PD (by
    rcases vM xs.length with h0|h0
    ·rw[h0]at hc;simp at hc
    ·exact h0))
   obtain⟨newCap,rest,fC,ia,db⟩:=vV (P:=P) (w:=w) (ty:=ty) (n:=xs.length) (m:=ys.length) (cap:=xs.length) (c:=cy) (base:=some ax) (a:=ay) (f:=fx) (g:=fy) hT hu (by omega)
    (ye hT (by omega) oz) (fun b e c hc=>by injection e with e;subst e;rw[Bg c hc,il];exact h.rel.ff _ _ _ (xj c hc)) (fun e=>by cases e) jP
   refine⟨_,_,db,?_⟩
   rw[h.gS]
   exact SC h hT.pos rfl lx ly wy oQ xk pr fC ia
  | tok d g =>
   simp only at ha
   split at ha
   case isFalse=>cases ha
   rename_i va
   injection ha with ha
   injection ha with h1 h2
   subst h1 h2
   have:e1=e2:=by
    rcases kN with h|h
    ·cases h
    ·exact h
   subst this
   cases hx with
   |cl hx=>cases hx with
    |slice f ho=>rcases ho with h|⟨h,_⟩<;>cases h
    |empty ho=>rcases ho with h|h<;>cases h
   |tok T gr hd hg ht dU mh hn=>
   rename_i ax cx
   obtain⟨r,bI,hr,bz⟩:=h.cI hd
   rw[hg]at bz
   injection bz with bz
   subst bz
   have aJ:=h.rel.cI d r gr hr hg
   have jx:r.toks[g]? =some (some xs.length):=by
    have:=va.2
    simp only[ae.tok,hr,eL]at this
    cases hq:r.toks[g]? with
    |none=>rw[hq]at this;cases this
    |some q=>rw[hq]at this;simp only[Option.join_some]at this;rw[this]
   obtain⟨oY,rU⟩:=aJ.tok g (some xs.length) T jx ht
   obtain⟨hle,heq⟩:=hn _ oY
   obtain⟨rfl,rfl⟩:=heq rfl
   obtain⟨_,_,lx,wy,fx,xj,xk⟩:=fU.flat mh hT.pos
   obtain⟨_,_,_,_,_,arr,tb,t6,t7⟩:=rU _ rfl
   by_cases lH:xs.length+ys.length≤T.cap
   ·refine⟨_,_,LY (P:=P) (ty:=ty) (n:=xs.length) (m:=ys.length) (c:=cy) (a:=ay) (g:=fy) hT hu lH jP t6 (by rw[t7,dU];exact mF _ lH) (fun c hc=>?_),?_⟩
    ·have h1:c/e1<ys.length:=by rw[R3 hT.pos];exact hc
     have h2:c%e1<(ys[c/e1]).length:=by rw[ly _ (gA h1)];exact sZ _ hT.pos
     have hr:=pr _ h1 _ h2
     rw[xW]at hr
     exact KJ (G:=G) (k:=k) (nl:=nl) (.cl hr) (oQ _ (gA h1) _ (gA h2))
    ·exact abY h hd hr hg jx ht dU hT.pos rfl jk lH lx ly wy oQ (fun c hc=>by have:=xj c hc;simpa using this) xk pr
   ·obtain⟨newCap,rest,fC,ia,db⟩:=vV (P:=P) (w:=w) (ty:=ty) (n:=xs.length) (m:=ys.length) (cap:=T.cap) (c:=cy) (base:=some ⟨T.blk,0,none⟩) (a:=ay) (f:=fx) (g:=fy) hT hu lH
     (ye hT (by omega) oz) (fun b e c hc=>by injection e with e;subst e;rw[il];exact h.rel.ff _ _ _ (xj c hc)) (fun e=>by cases e) jP
    refine⟨_,_,db,?_⟩
    exact abX h hd hr hg jx ht dU hT.pos rfl jk lx ly wy oQ xk pr fC ia
end
end Go.Ax
/-
  append to a slice whose elements may be written to: a box that takes another's place.
-/
namespace Go.Ax
open Go.RowKit
section
variable{P:Program} {B0:Nat} {w0:World} {G:aG} {k nl:Nat} {w:World} {s:ae}
theorem At.drew (h:At P B0 w0 G k nl s w):At P B0 w0 G k nl s w.drew:=⟨h.rel.drew,h.len,h.cur⟩
theorem yF {α:Type} {es:Nat} (h0:0<es):∀{ys:List (List α)},(∀r,r∈ys→r.length=es)→ys.flatten.length=ys.length*es∧∀c (hc:c<ys.flatten.length),∃(h1:c/es<ys.length) (h2:c%es<(ys[c/es]).length),ys.flatten[c]=ys[c/es][c%es]
 |[],_=>⟨by simp,fun c hc=>by simp at hc⟩
 | r :: ys, h => by
  have hr:=h r (by simp)
  obtain⟨e1,e2⟩:=yF h0 (ys:=ys) fun q hq=>h q (gP _ hq)
  refine⟨by rw[sU,ck,e1,hr,dJ,ft];omega,fun c hc=>?_⟩
  by_cases aC:c<es
  ·have d1:c/es=0:=LA aC
   have d2:c%es=c:=HA aC
   refine⟨by rw[d1];simp,by simp only[d1,d2,xS];omega,?_⟩
   simp only[d1,d2,xS,sU]
   rw[ug (by omega)]
  ·have nH:es≤c:=by omega
   have d1:c/es=(c-es)/es+1:=by rw[Nat.div_eq_sub_div h0 nH]
   have d2:c%es=(c-es)%es:=by rw[Nat.mod_eq_sub_mod nH]
   have pd:c-es<ys.flatten.length:=by
    rw[sU,ck,hr]at hc
    omega
   obtain⟨g1,g2,g3⟩:=e2 (c-es) pd
   refine⟨by rw[d1];simp;exact g1,by simp only[d1,d2,Hm];exact g2,?_⟩
   simp only[d1,d2,Hm,sU]
   rw[uh (by omega)]
   simp only[hr]
   exact g3
theorem QI (h:At P B0 w0 G k nl s w) {d b es n rc:Nat} {cs ds:List AV} {r:Rec} {gr:cE} {blk fV:Nat} {arr':Array Value} {Cg:TypeId} {w':World} (hd:d≤k) (hr:s.ag[d]? =some r) (hg:G.ag[d]? =some gr)
  (hb:r.boxes[b]? =some cs) (cu:gr.bl[b]? =some (some blk)) (dz:cs≠[]) (aB:ds≠[]) (bt:∀c,c∈ds→c.bu=true) (hR:kJ (Rel G d gr.nl) ds arr') (hw:w'.heap[fV]? =some (.cells arr' Cg))
  (hold:∀c,c<w.heap.size→c≠fV→w'.heap[c]? =w.heap[c]?) (gG:fV=blk∨fV=w.heap.size) (yO:Below B0 w w') (bP:w.heap.size≤w'.heap.size) (Pq:arr'.size=rc*es) (hn:n≤rc):
  df P B0 w0 G k nl s (s.sI d b ds) w' (.aN d (s.bN d) 0 es n 0) (.slice (some ⟨fV,0,none⟩) n rc):=by
 have aJ:=h.rel.cI d r gr hr hg
 have dp:=aJ.box b cs blk hb cu
 obtain⟨b1,⟨x0,b2,L4⟩,b3,HP,K8,b4,_⟩:=dp
 have oD:=L4 dz
 have b3:=b3 dz
 subst oD
 have avi:=h.rel.eO _ _ b2
 have OY:fV<w'.heap.size:=by
  rcases gG with e|e
  ·omega
  ·rw[e]
   apply qm
   intro hc
   rw[e]at hw
   have:=(tZ.1 hw).1
   omega
 have A8:∀i,G.I fV i=none:=by
  rcases gG with e|e
  ·rw[e];exact b3
  ·rw[e];exact h.rel.ud
 have hB:B0≤fV:=by
  rcases gG with e|e
  ·rw[e];exact b1
  ·rw[e];exact h.rel.low
 have JI:x0<r.boxes.length:=(aY.1 hb).1
 let T:ld:=⟨none,0,0,0⟩
 let gf:cE→cE:=fun q=>{q with bl:=q.bl++[some fV],tk:=q.tk++[T],gs:=fun j=>if j=r.boxes.length then some (rc*es)else q.gs j}
 let G':aG:={G with ag:=G.ag.modify d gf,own:=fun c=>if c=fV then some (.box d r.boxes.length)else G.own c}
 have hk:jI (· =.box d x0) G w G' w':=fun c o e aB=>by
  have aC:=h.rel.eO c o e
  have hc:c≠fV:=by
   rintro rfl
   rcases gG with e'|e'
   ·rw[e',b2]at e;injection e with e;exact aB e.symm
   ·omega
  exact⟨by simp only[G'];rw[aq hc];exact e,hold c aC hc,fun _ e=>e⟩
 have fc:iZ gr (gf gr):=⟨fun j q e=>mO e,fun g U e=>⟨U,mO e,.refl U⟩,rfl,fun j m e=>by
  obtain⟨q,hq⟩:=aJ.mP j m e
  have:=(aY.1 hq).1
  rw[aJ.ek]at this
  simp only[gf]
  rw[aq (by omega)];exact e⟩
 have hle:bB d gr.nl G G':=⟨fun _ _ _ e=>e,fun d' q _ e=>by
  simp only[G',dQ]
  by_cases hd:d=d'
  ·subst hd
   rw[hg]at e
   injection e with e
   subst e
   exact⟨_,by rw[ak rfl,hg];rfl,fc,fun _=>rfl⟩
  ·exact⟨q,by rw[aq hd];exact e,.refl q,fun _=>rfl⟩,fun _ _ _ e=>e⟩
 have fm:=h.rel.br (G':=G') (w':=w') hr hg (fun r=>{r with boxes:=r.boxes.set x0 []++[ds],toks:=r.toks++[none]}) gf (· =.box d x0) rfl rfl (fun _ _ _ e=>e) fc rfl hk
  (fun o ho=>.inl ⟨_,ho⟩) ?_ (fun c i v e=>?_) yO (fun c o e=>?_)
 ·obtain⟨hs,jQ⟩:=fm
  have mU:cz P B0 w0 G' (s.sI d x0 ds) w':=hs
  have hlen:(s.sI d x0 ds).ag.length=s.ag.length:=by simp[ae.sI,ae.br]
  have jf:=h.to mU (jQ k nl) hlen
  have oA:s.bN d=r.boxes.length:=by simp[ae.bN,hr]
  have gE:G'.ag[d]? =some (gf gr):=by
   show(G.ag.modify d _)[d]? =_
   rw[dQ,ak rfl,hg];rfl
  have yU:(gf gr).bl[r.boxes.length]? =some (some fV):=by
   show(gr.bl++[some fV])[r.boxes.length]? =_
   rw[←aJ.ek,gM (aH _)]
   simp
  refine⟨G',jf,jQ _ _,by simp[ae.sI,ae.br],?_⟩
  rw[oA]
  exact .aN _ hd gE yU hn (bh _) (fun _ _=>by simp only[gf];rw[ak trivial]) (fun _=>rfl)
 ·have sn:∀(j:Nat) (q:List AV),(r.boxes.set x0 []++[ds])[j]? =some q→(j=r.boxes.length∧q=ds)∨(j=x0∧q=[])∨(j≠x0∧j<r.boxes.length∧r.boxes[j]? =some q):=fun j q e=>by
   rcases ev e with⟨hj,e⟩|⟨hj,e⟩
   ·rw[zO]at hj
    rw[sW]at e
    by_cases u1:x0=j
    ·subst u1
     rw[ak rfl,ak hj]at e
     injection e with e
     exact .inr (.inl ⟨rfl,e.symm⟩)
    ·rw[aq u1]at e
     exact .inr (.inr ⟨fun e=>u1 e.symm,hj,e⟩)
   ·rw[zO]at hj
    exact .inl ⟨hj,e⟩
  have Wz:∀(j q:Nat),j<r.boxes.length→(gf gr).bl[j]? =some (some q)→gr.bl[j]? =some (some q):=fun j q hj e=>by
   rcases ev e with⟨_,e⟩|⟨dM,_⟩
   ·exact e
   ·rw[aJ.ek]at dM;omega
  have dead:∀(j q:Nat),gr.bl[j]? =some (some q)→j<r.boxes.length→pJ B0 G' d gr.nl j ((gf gr).gs j) [] q w':=fun j q e hj=>by
   obtain⟨q1,⟨x,q2,q2'⟩,q3,CM,K9,q4,_⟩:=aJ.box j _ q (cM hj) e
   by_cases za:q=fV
   ·subst za
    exact⟨q1,⟨r.boxes.length,by simp[G'],fun hn=>absurd rfl hn⟩,fun hn=>absurd rfl hn,arr',Cg,hw,bh _,fun hn=>absurd rfl hn,fun i hi=>absurd hi (dk _)⟩
   ·exact⟨q1,⟨x,by simp only[G'];rw[aq za];exact q2,fun hn=>absurd rfl hn⟩,fun hn=>absurd rfl hn,CM,K9,(hold q (h.rel.eO _ _ q2) za).trans q4,bh _,fun hn=>absurd rfl hn,fun i hi=>absurd hi (dk _)⟩
  refine⟨by simp[gf,aJ.ek],by simp[gf,aJ.iV],fun j q Am e1 e2=>?_,fun j q e1 e2=>by simp,fun g m U e1 e2=>?_,fun i c e1=>?_,fun j m e1=>?_⟩
  ·rcases sn j q e1 with⟨rfl,rfl⟩|⟨rfl,rfl⟩|⟨u1,hj,e1⟩
   ·have wP:Am=fV:=by
     rcases ev e2 with⟨dM,_⟩|⟨_,e⟩
     ·rw[aJ.ek]at dM;omega
     ·injection e
    subst wP
    refine⟨hB,⟨_,by simp[G'],fun _=>rfl⟩,fun _=>A8,arr',Cg,hw,hR.1,fun _ m hm=>?_,fun i hi=>⟨bt _ (gA hi),?_⟩⟩
    ·simp only[gf]at hm
     rw[ak trivial]at hm
     injection hm with hm
     rw[Pq,hm]
    ·exact(hR.2 i hi).mono hle (aH _) (aH _)
   ·exact dead _ _ (Wz _ _ JI e2) JI
   ·have jd:=Wz _ _ hj e2
    by_cases Gb:q=[]
    ·subst Gb;exact dead _ _ jd hj
    ·have Bn:=aJ.box j q Am e1 jd
     obtain⟨x,y1,y2⟩:=Bn.2.1
     obtain⟨k1,k2,k3⟩:=hk _ _ y1 (fun e=>by injection e with _ e;rw[y2 Gb]at e;exact u1 e)
     have:=Bn.cJ (G':=G') (w':=w') hle (fun z e=>by rw[y1]at e;injection e with e;rw[←e];exact k1) k2 k3
     show pJ B0 G' d gr.nl j (if j=r.boxes.length then some (rc*es)else gr.gs j) q Am w'
     rw[aq (by omega)];exact this
  ·rcases ev e1 with⟨aC,e1⟩|⟨nI,rfl⟩
   ·have jd:gr.tk[g]? =some U:=by
     rcases ev e2 with⟨_,e2⟩|⟨fO,_⟩
     ·exact e2
     ·rw[aJ.iV]at fO;omega
    have ht:=aJ.tok g m U e1 jd
    have hs:∀(hn:m.isSome=true),G'.own U.blk=some (.tok d g)∧w'.heap[U.blk]? =w.heap[U.blk]? ∧∀i,G.I U.blk i=none→G'.I U.blk i=none:=fun hn=>by
     obtain⟨q,hq⟩:=oO.1 hn
     exact hk _ _ (ht.2 q hq).2.1 (fun e=>by cases e)
    exact ht.cJ (fun hn=>(hs hn).1) (fun hn=>(hs hn).2.1) (fun hn=>(hs hn).2.2)
   ·have:U=T:=by
     rcases ev e2 with⟨fO,_⟩|⟨_,e⟩
     ·rw[aJ.iV]at fO;omega
     ·exact e
    subst this
    exact⟨rfl,fun q hq=>by cases hq⟩
  ·have hm:=aJ.mark i c e1
   obtain⟨k1,k2,_⟩:=hk _ _ hm.2.1 (fun e=>by cases e)
   exact hm.cJ k1 k2
  ·simp only[gf]at e1
   split at e1
   ·rename_i hj
    subst hj
    refine⟨fV,?_⟩
    show(gr.bl++[some fV])[r.boxes.length]? =_
    rw[←aJ.ek,gM (aH _)]
    simp
   ·obtain⟨q,hq⟩:=aJ.mP j m e1
    exact⟨q,mO hq⟩
 ·have hc:c≠fV:=by
   rintro rfl
   have:G.I c i=some v:=e
   rw[A8]at this;cases this
  rw[E7 (hold c (h.rel.sS e) hc) rfl]
  exact h.rel.ff c i v e
 ·simp only[G']at e
  split at e
  ·rename_i hb;subst hb;exact OY
  ·have:=h.rel.eO c o e;omega
theorem ZL (h:At P B0 w0 G k nl s w) {b es n rc:Nat} {cs ds:List AV} {r:Rec} {gr:cE} {blk fV:Nat} {arr':Array Value} {Cg:TypeId} {w':World} (hr:s.ag[k]? =some r) (hg:G.ag[k]? =some gr)
  (hb:r.boxes[b]? =some cs) (cu:gr.bl[b]? =some (some blk)) (dz:cs≠[]) (aB:ds≠[]) (bt:∀c,c∈ds→c.bu=true) (hR:kJ (Rel G k nl) ds arr') (hw:w'.heap[fV]? =some (.cells arr' Cg))
  (hold:∀c,c<w.heap.size→c≠fV→w'.heap[c]? =w.heap[c]?) (gG:fV=blk∨fV=w.heap.size) (yO:Below B0 w w') (bP:w.heap.size≤w'.heap.size) (Pq:arr'.size=rc*es) (hn:n≤rc):
  df P B0 w0 G k nl s (s.KX b ds) w' (.aN s.cur (s.bN s.cur) 0 es n 0) (.slice (some ⟨fV,0,none⟩) n rc):=by
 have lE:gr.nl=nl:=by obtain⟨g',e1,e2⟩:=h.cur;rw[hg]at e1;injection e1 with e1;rw[e1];exact e2
 have e:s.KX b ds=s.sI k b ds:=by simp only[ae.KX,ae.sI,h.gS]
 rw[e,h.gS]
 exact QI h (aH k) hr hg hb cu dz aB bt (by rw[lE];exact hR) hw hold gG yO bP Pq hn
theorem K0:∀(vs:List Value) (arr:Array Value) (o i:Nat),o+vs.length≤arr.size→(jl arr o vs).getD i Go.undef=if o≤i∧i<o+vs.length then vs.getD (i-o) Go.undef else arr.getD i Go.undef
 |[],arr,o,i,_=>by
  rw[aq (by simp only[iY];omega)];rfl
 | v :: r, arr, o, i, h => by
  have hl:(v::r).length=r.length+1:=rfl
  rw[hl]at h⊢
  simp only[jl]
  rw[K0 r (arr.setIfInBounds o v) (o+1) i (by simp;omega)]
  by_cases h1:i=o
  ·subst h1
   rw[aq (by omega),ak (by omega)]
   have:i<arr.size:=by omega
   simp[Array.getD,this]
  ·by_cases h2:o+1≤i∧i<o+1+r.length
   ·rw[ak h2,ak (by omega)]
    obtain⟨j,hj⟩:∃j,i-o=j+1:=⟨i-o-1,by omega⟩
    rw[hj,show i-(o+1)=j by omega];rfl
   ·rw[aq h2,aq (by omega)]
    by_cases h3:i<arr.size
    ·have h4:¬o=i:=fun e=>h1 e.symm
     simp[Array.getD,h3,h4]
    ·simp[Array.getD,h3]
theorem GO {cs ds:List AV} {f g:Nat→Value} {rest:List Value} {n m:Nat} {R:AV→Value→Prop} (hn:cs.length=n) (hm:ds.length=m) (hc:∀i (hi:i<cs.length),R cs[i] (f i)) (hd:∀i (hi:i<ds.length),R ds[i] (g i)):
  kJ R (cs++ds) ((List.range (n+m)).map (both n f g)++rest).toArray:=by
 refine⟨by simp;omega,fun i hi=>?_⟩
 rw[ck]at hi
 have dV:((List.range (n+m)).map (both n f g)++rest).toArray.getD i Go.undef=both n f g i:=by
  have h1:i<n+m:=by omega
  have h2:i<n+m+rest.length:=by omega
  simp only[Array.getD,xV,ck,bE,pL,h2,dite_true]
  simp[List.getElem_append,h1]
 rw[dV]
 unfold both
 by_cases hl:i<cs.length
 ·rw[ug hl,ak (by omega)];exact hc i hl
 ·rw[uh (by omega),aq (by omega)]
  subst hn
  exact hd (i-cs.length) (by omega)
theorem SD (h : At P B0 w0 G k nl s w) {t u e ty : TypeId} {es fW : Nat} {z : Value} (hT : ua P t e es fW z) (hu : ∃ e', P.underlying u = some (.slice e')) {a b v : AV} {x y : Value} {s' : ae}
    (hx:Rel G k nl a x) (hy:Rel G k nl b y) (ha:vZ s es a b=some (v,s')):
    ∃ x' w', (Builtin.append_ #[t, u] ty #[x, y]).run P w = .ok x' w' ∧ df P B0 w0 G k nl s s' w' v x' := by
  unfold vZ at ha
  split at ha
  case h_2=>cases ha
  rename_i oy e2 ys
  split at ha
  · rename_i kR
    have kR:ys=[]:=by simpa using kR
    subst kR
    have oF:∃bb c,y=.slice bb 0 c:=by
      rcases hy.iS with⟨_,_,rfl⟩|⟨_,aa,c,rfl,_⟩
      · exact⟨_,_,rfl⟩
      · exact⟨_,_,rfl⟩
    obtain⟨bb,c,rfl⟩:=oF
    split at ha
    · rename_i o e1 xs
      injection ha with ha
      injection ha with h1 h2
      subst h1 h2
      have me:df P B0 w0 G k nl s s w (.slice o e1 xs) x:=⟨G,h,bB.refl _ _ _,rfl,hx⟩
      rcases hx.iS with⟨_,_,rfl⟩|⟨_,aa,cap,rfl,_,hle,_⟩
      · exact⟨_,w,vW hT hu none bb c (aH _),me⟩
      · exact⟨_,w,vW hT hu (some aa) bb c hle,me⟩
    · rename_i d b off e1 n cap
      injection ha with ha
      injection ha with h1 h2
      subst h1 h2
      have me:df P B0 w0 G k nl s s w (.aN d b off e1 n cap) x:=⟨G,h,bB.refl _ _ _,rfl,hx⟩
      obtain⟨blk,gr,rc,o0,rfl,_,_,_,hn,_⟩:=hx.mj
      exact⟨_,w,vW hT hu (some _) bb c hn,me⟩
    · cases ha
  · rename_i kR
    split at ha
    case isFalse=>cases ha
    rename_i jv
    subst jv
    have jk:0<ys.length:=by
      cases ys with
      |nil=>simp at kR
      |cons=>simp
    rcases hy.iS with⟨_,hn,_⟩|⟨_,ay,cy,rfl,_,_,oF,_⟩
    · rw[hn]at jk;simp at jk
    obtain⟨vg,wT,ly,oQ,fy,vf,pr⟩:=fU.flat oF hT.pos
    have uT:ay=⟨ay.block,ay.off,none⟩:=vT (vg (by omega))
    have jP:∀c,c<ys.length*e2→w.cell? (ay.add c)=some (fy c):=fun c hc=>by
      rw[uT,il];exact h.rel.ff _ _ _ (vf c hc)
    obtain⟨qC,yD⟩:=yF hT.pos ly
    have Gl:∀c (hc:c<ys.flatten.length),bL G.I ys.flatten[c] (fy c):=fun c hc=>by
      obtain⟨g1,g2,g3⟩:=yD c hc
      rw[g3]
      have:=pr _ g1 _ g2
      rw[xW]at this
      exact this
    have XK:∀c,c∈ys.flatten→c.bu=true:=fun c hc=>by
      obtain⟨r,hr,jg⟩:=uj.1 hc
      exact oQ r hr c jg
    have Kj:ys.flatten≠[]:=fun e=>by
      have:=iy List.length e
      rw[qC]at this
      have h2:=HB jk hT.pos
      simp only[iY]at this
      omega
    split at ha
    · rename_i o e1 xs
      split at ha
      case isFalse=>cases ha
      rename_i bn
      obtain⟨bn,oz⟩:=bn
      injection ha with ha
      injection ha with h1 h2
      subst h1 h2
      have fin:∀(base:Option Addr) (cx:Nat) (f:Nat→Value),cx=xs.length→(∀r,r∈xs→r.length=e2)→(∀r,r∈xs→∀c,c∈r→c.bu=true)→(∀i (hi:i<xs.length) j (hj:j<xs[i].length),bL G.I (xs[i][j]) (f (i*e2+j)))→
          (∀b,base=some b→∀c,c<xs.length*e2→w.cell? (b.add c)=some (f c))→(base=none→xs.length=0)→
          ∃ x' w', (Builtin.append_ #[t, u] ty #[.slice base xs.length cx, .slice (some ay) ys.length cy]).run P w = .ok x' w' ∧ df P B0 w0 G k nl s (s.dF (xs.flatten ++ ys.flatten)).2 w' (.aN s.cur (s.bN s.cur) 0 e2 (xs.length + ys.length) 0) x' := by
        intro base cx f pf lx wy xk hf j7
        subst pf
        obtain⟨newCap,rest,fC,ia,db⟩:=vV (P:=P) (w:=w) (ty:=ty) (n:=xs.length) (m:=ys.length) (cap:=xs.length) (c:=cy) (base:=base) (a:=ay) (f:=f) (g:=fy) hT hu (by omega) (ye hT (by omega) oz) hf j7 jP
        refine⟨_,_,db,?_⟩
        obtain⟨gl1,gl2⟩:=yF hT.pos lx
        have akc:∀c (hc:c<xs.flatten.length),bL G.I xs.flatten[c] (f c):=fun c hc=>by
          obtain⟨g1,g2,g3⟩:=gl2 c hc
          rw[g3]
          have:=xk _ g1 _ g2
          rw[xW]at this
          exact this
        have cm:=GO (R:=Rel G k nl) (cs:=xs.flatten) (ds:=ys.flatten) (f:=f) (g:=fy) (rest:=rest) gl1 qC (fun i hi=>.cl (akc i hi)) (fun i hi=>.cl (Gl i hi))
        have bP:((List.range (xs.length*e2+ys.length*e2)).map (both (xs.length*e2) f fy)++rest).toArray.size=newCap*e2:=by
          simp only[xV,ck,bE,pL,ia]
          rw[←ft,←ft]
          congr 1;omega
        exact(zu h.drew e (some (newCap*e2)) (fun n hn=>by injection hn with hn;rw[bP,hn]) (fun e=>Kj (Ll.1 e).2) (fun c hc=>by
          rcases c9.1 hc with hc|hc
          · obtain ⟨r, hr, jg⟩ := uj.1 hc
            exact wy r hr c jg
          · exact XK c hc) cm).2.2 e2 (xs.length+ys.length) 0 newCap fC (bh _) (fun _ _=>rfl)
      rcases hx.iS with⟨_,rfl,rfl⟩|⟨w9,ax,cx,rfl,_,_,mh,wX⟩
      · exact fin none 0 (fun _=>Go.undef) rfl (by simp) (by simp) (fun i hi=>absurd hi (dk _)) (fun _ e=>by cases e) (fun _=>rfl)
      · rcases bn with hc | ⟨hc, he⟩
        · cases o <;> simp [Own.isNil] at hc
          exact absurd rfl w9
        · subst he
          have ho:o=.full:=by cases o<;>simp[Own.isFull]at hc⊢
          have pf:=wX ho
          obtain⟨PD,_,lx,wy,fx,xj,xk⟩:=fU.flat mh hT.pos
          have Bg:∀c,c<xs.length*e1→ax=⟨ax.block,ax.off,none⟩:=fun c hc=>vT (PD (by
            rcases vM xs.length with h0|h0
            · rw[h0]at hc;simp at hc
            · omega))
          exact fin (some ax) cx fx pf lx wy xk (fun b e c hc=>by injection e with e;subst e;rw[Bg c hc,il];exact h.rel.ff _ _ _ (xj c hc)) (fun e=>by cases e)
    · rename_i d b off e1 n cap
      split at ha
      case isFalse=>cases ha
      rename_i bn
      obtain⟨rfl,rfl,rfl,fE,rfl,oz⟩:=bn
      split at ha
      case h_2=>cases ha
      rename_i cs tA
      split at ha
      case isFalse=>cases ha
      rename_i aP
      injection ha with ha
      injection ha with h1 h2
      subst h1 h2
      rw[h.gS]at tA hx
      obtain⟨blk,gr,rc,o0,rfl,hd,hg,cu,F4,_,hw,ho⟩:=hx.mj
      have ho:=ho (.inl fE)
      subst ho
      have FO:=hw rfl fE
      obtain⟨r,hr,dp,JJ,arr,tb,nJ,cm,Pj⟩:=h.box hd tA hg cu
      have dz:cs≠[]:=fun e=>by
        rw[e]at aP
        have:=HB fE hT.pos
        simp only[iY]at aP
        omega
      obtain⟨_,_,Oj,CM,tb1,JU,_,Pt,_⟩:=JJ
      rw[nJ]at JU
      injection JU with JU
      injection JU with q1 q2
      subst q1 q2
      have rZ:=Pt dz _ FO
      have aB:cs++ys.flatten≠[]:=fun e=>Kj (Ll.1 e).2
      have FA:∀c,c∈cs++ys.flatten→c.bu=true:=fun c hc=>by
        rcases c9.1 hc with hc|hc
        · exact Pj c hc
        · exact XK c hc
      by_cases lH:n+ys.length≤rc
      · have hle : (n + ys.length) * e1 ≤ arr.size := by rw [rZ]; exact mF _ lH
        refine⟨_,_,LY (P:=P) (ty:=ty) (n:=n) (m:=ys.length) (c:=cy) (a:=ay) (g:=fy) hT hu lH jP nJ hle (fun c hc=>?_),?_⟩
        · have h1 : c / e1 < ys.length := by rw [R3 hT.pos]; exact hc
          have h2:c%e1<(ys[c/e1]).length:=by rw[ly _ (gA h1)];exact sZ _ hT.pos
          have hr:=pr _ h1 _ h2
          rw[xW]at hr
          exact KJ (G:=G) (k:=k) (nl:=nl) (.cl hr) (oQ _ (gA h1) _ (gA h2))
        · have hB := (h.rel.cI k r gr hr hg).box b cs blk dp cu
          refine ZL h hr hg dp cu dz aB FA (arr':=jl arr (n*e1) ((List.range (ys.length*e1)).map fy)) ?_ (FL _ _ _ _ nJ) (fun c _ hc=>FM hc _ _ _) (.inl rfl) (Dx hB.1 _ _ _) (by rw[GW];exact aH _) (by rw[xC];exact rZ) lH
          rw[ft]at hle
          refine⟨by rw[xC,ck,aP,qC];exact hle,fun i hi=>?_⟩
          rw[ck,aP,qC]at hi
          rw[K0 _ _ _ _ (by simpa using hle)]
          by_cases hl:i<cs.length
          · rw[ug hl,aq (by omega)];exact cm.2 i hl
          · rw [uh (by omega), ak (by simp; omega)]
            have se:i-n*e1<ys.length*e1:=by omega
            have:=Gl (i-cs.length) (by rw[qC];omega)
            have wY:((List.range (ys.length*e1)).map fy).getD (i-n*e1) Go.undef=fy (i-cs.length):=by
              rw[aP]
              simp[List.getD,se]
            rw[wY]
            exact .cl this
      · obtain ⟨newCap, rest, fC, ia, db⟩ := vV (P := P) (w := w) (ty := ty) (n := n) (m := ys.length) (cap := rc) (c := cy) (base := some ⟨blk, 0, none⟩) (a := ay) (f := fun c => arr.getD c Go.undef) (g := fy) hT hu lH
          (ye hT lH oz) (fun b e c hc => by
            injection e with e;subst e
            rw[il,cell_of_heap nJ,fK]
            have:c<arr.size:=by
              have:=cm.1
              rw[aP]at this;omega
            simp[Array.getD,this]) (fun e=>by cases e) jP
        refine⟨_,_,db,?_⟩
        have Pk:=GO (R:=Rel G k nl) (cs:=cs) (ds:=ys.flatten) (f:=fun c=>arr.getD c Go.undef) (g:=fy) (rest:=rest) aP qC cm.2 (fun i hi=>.cl (Gl i hi))
        have bP:((List.range (n*e1+ys.length*e1)).map (both (n*e1) (fun c=>arr.getD c Go.undef) fy)++rest).toArray.size=newCap*e1:=by
          simp only[xV,ck,bE,pL,ia]
          rw[←ft,←ft]
          congr 1;omega
        exact ZL h hr hg dp cu dz aB FA Pk (World.alloc_heap_new w.drew _) (fun c hc _=>Below.heap_alloc w.drew _ _ hc) (.inr rfl) (((Below.refl _ _).drew).alloc h.rel.low _) (by simp) bP fC
    · cases ha
theorem ab0 (h:At P B0 w0 G k nl s w) {t u e ty:TypeId} {es fW:Nat} {z:Value} (hT:ua P t e es fW z) (uU:fW≤8*es) (hu:∃e',P.underlying u=some (.slice e')) {a b v:AV} {x y:Value} {s':ae}
  (hx:Rel G k nl a x) (hy:Rel G k nl b y) (ha:x4 s es a b=some (v,s')):
  ∃ x' w', (Builtin.append_ #[t, u] ty #[x, y]).run P w = .ok x' w' ∧ df P B0 w0 G k nl s s' w' v x' := by
 unfold x4 at ha
 split at ha
 case h_2=>cases ha
 rename_i o e1 xs oy e2 ys
 split at ha
 ·cases ha
 rename_i w7
 split at ha
 case isFalse=>exact SD h hT hu hx hy ha
 rename_i bn
 obtain⟨rfl,hof,rfl,rfl,W3,WY⟩:=bn
 injection ha with ha
 injection ha with h1 h2
 subst h1 h2
 have ho:o=.full:=by cases o<;>simp[Own.isFull]at hof⊢
 subst ho
 have jk:0<ys.length:=by omega
 rcases hy.iS with⟨_,hn,_⟩|⟨_,ay,cy,rfl,_,_,oF,_⟩
 ·rw[hn]at jk;simp at jk
 obtain⟨vg,wT,ly,oQ,fy,vf,pr⟩:=fU.flat oF hT.pos
 have uT:ay=⟨ay.block,ay.off,none⟩:=vT (vg (by omega))
 have jP:∀c,c<ys.length*e2→w.cell? (ay.add c)=some (fy c):=fun c hc=>by
  rw[uT,il];exact h.rel.ff _ _ _ (vf c hc)
 obtain⟨qC,yD⟩:=yF hT.pos ly
 have Gl:∀c (hc:c<ys.flatten.length),bL G.I ys.flatten[c] (fy c):=fun c hc=>by
  obtain⟨g1,g2,g3⟩:=yD c hc
  rw[g3]
  have:=pr _ g1 _ g2
  rw[xW]at this
  exact this
 have Kj:ys.flatten≠[]:=fun e=>by
  have:=iy List.length e
  rw[qC]at this
  have h2:=HB jk hT.pos
  simp only[iY]at this
  omega
 rcases hx.iS with⟨w8,_,_⟩|⟨_,ax,cx,rfl,_,_,mh,wX⟩
 ·cases w8
 have pf:cx=0:=wX rfl
 subst pf
 obtain⟨newCap,rest,fC,ia,db⟩:=vV (P:=P) (w:=w) (ty:=ty) (n:=0) (m:=ys.length) (cap:=0) (c:=cy) (base:=some ax) (a:=ay) (f:=fun _=>Go.undef) (g:=fy) hT hu (by omega) (by
  have hn:Builtin.nextslicecap (0+ys.length) 0=ys.length:=by
   unfold Builtin.nextslicecap
   rw[ak (by omega)];omega
  rw[hn]
  exact jK (jK (Nat.mul_le_mul_left _ uU) WY) (by decide)) (fun b _ c hc=>by simp at hc) (fun e=>by cases e) jP
 rw[fK]at db fC ia
 refine⟨_,_,db,?_⟩
 have cm:=GO (R:=Rel G k nl) (cs:=[]) (ds:=ys.flatten) (n:=0) (f:=fun _=>Go.undef) (g:=fy) (rest:=rest) rfl qC (fun i hi=>by simp at hi) (fun i hi=>.cl (Gl i hi))
 rw[kh]at cm
 have bP:((List.range (0*e2+ys.length*e2)).map (both (0*e2) (fun _=>Go.undef) fy)++rest).toArray.size=newCap*e2:=by
  simp only[xV,ck,bE,pL,ia]
  rw[←ft,←ft]
  congr 1;omega
 exact(zu h.drew e (some (newCap*e2)) (fun n hn=>by injection hn with hn;rw[bP,hn]) Kj (fun c hc=>by
  obtain⟨r,hr,jg⟩:=uj.1 hc
  exact oQ r hr c jg) (by simpa using cm)).2.2 e2 ys.length 0 newCap fC (bh _) (fun _ _=>rfl)
theorem as6 (h : At P B0 w0 G k nl s w) {es : Nat} (h0 : 0 < es) {b : AV} {y : Value} {p : List AV × Nat} (hy : Rel G k nl b y) (hs : s.zH es b = some p) :
    (p.2=0∧∃bb c,y=.slice bb 0 c)∨(0<p.2∧∃(ay:Addr) (cy:Nat) (fy:Nat→Value),y=.slice (some ay) p.2 cy∧p.1.length=p.2*es∧(∀c,c<p.2*es→w.cell? (ay.add c)=some (fy c))∧(∀c,c∈p.1→c.bu=true)∧
      ∀c (hc:c<p.1.length),Rel G k nl p.1[c] (fy c)):=by
  unfold ae.zH at hs
  split at hs
  · rename_i o e2 ys
    split at hs
    case isFalse=>cases hs
    rename_i bn
    injection hs with hs
    subst hs
    rcases vM ys.length with hz|hz
    · refine .inl ⟨hz, ?_⟩
      rcases hy.iS with⟨_,_,rfl⟩|⟨_,aa,c,rfl,_⟩
      · exact⟨_,_,rfl⟩
      · exact⟨some aa,c,by rw[hz]⟩
    · have he : e2 = es := by
        rcases bn with hc|hc
        · have : ys = [] := by simpa using hc
          rw[this]at hz;simp at hz
        · exact hc
      subst he
      refine .inr ⟨hz,?_⟩
      rcases hy.iS with⟨_,hn,_⟩|⟨_,ay,cy,rfl,_,_,oF,_⟩
      · rw[hn]at hz;simp at hz
      obtain⟨vg,wT,ly,oQ,fy,vf,pr⟩:=fU.flat oF h0
      have uT:ay=⟨ay.block,ay.off,none⟩:=vT (vg (by omega))
      obtain⟨qC,yD⟩:=yF h0 ly
      refine⟨ay,cy,fy,rfl,qC,fun c hc=>by rw[uT,il];exact h.rel.ff _ _ _ (vf c hc),fun c hc=>?_,fun c hc=>?_⟩
      · obtain ⟨r, hr, jg⟩ := uj.1 hc
        exact oQ r hr c jg
      · obtain ⟨g1, g2, g3⟩ := yD c hc
        rw[g3]
        have:=pr _ g1 _ g2
        rw[xW]at this
        exact .cl this
  · rename_i d b off e2 n cap
    split at hs
    case isFalse=>cases hs
    rename_i bn
    obtain⟨hd,rfl⟩:=bn
    obtain⟨cs,tA,hs⟩:=da.1 hs
    split at hs
    case isFalse=>cases hs
    rename_i hle
    injection hs with hs
    subst hs
    obtain⟨blk,gr,rc,o0,rfl,eR,hg,cu,F4,_,_,ho⟩:=hy.mj
    rcases vM n with hn|hn
    · exact .inl ⟨hn,_,rc,by rw[hn]⟩
    · have ho := ho (.inl hn)
      subst ho
      refine .inr ⟨hn,?_⟩
      obtain⟨r,hr,dp,_,arr,tb,nJ,cm,aP⟩:=h.box eR tA hg cu
      have hlen:((cs.drop o0).take (n*e2)).length=n*e2:=by simp;omega
      refine⟨⟨blk,o0,none⟩,rc,fun c=>arr.getD (o0+c) Go.undef,rfl,hlen,fun c hc=>?_,fun c hc=>aP c (Hr (vJ hc)),fun c hc=>?_⟩
      · simp only at hc
        rw[il,cell_of_heap nJ]
        have:o0+c<arr.size:=by have:=cm.1;omega
        simp[Array.getD,this]
      · rw [hlen] at hc
        have he:((cs.drop o0).take (n*e2))[c]'(by rw[hlen];exact hc)=cs[o0+c]'(by omega):=by simp
        rw[he]
        exact cm.2 _ _
  · cases hs
theorem ab4 (h : At P B0 w0 G k nl s w) {t u e ty : TypeId} {es fW : Nat} {z : Value} (hT : ua P t e es fW z) (hu : ∃ e', P.underlying u = some (.slice e')) {a b c v : AV} {x y : Value} {s' : ae}
    (hx:Rel G k nl a x) (hy:Rel G k nl b y) (ha:qq s es a b c=some (v,s')):
    ∃ x' w', (Builtin.append_ #[t, u] ty #[x, y]).run P w = .ok x' w' ∧ df P B0 w0 G k nl s s' w' v x' := by
  unfold qq at ha
  split at ha
  case h_2=>cases ha
  rename_i d _ _
  obtain⟨p,hp,JF⟩:=da.1 ha
  clear ha
  have ha:=JF
  clear JF
  rcases as6 h hT.pos hy hp with⟨y7,bb,cc,rfl⟩|⟨y7,ay,cy,fy,rfl,y8,jP,Pd,tE⟩
  · rw [ak y7] at ha
    split at ha
    · rename_i o e1 xs
      injection ha with ha
      injection ha with h1 h2
      subst h1 h2
      have me:df P B0 w0 G k nl s s w (.slice o e1 xs) x:=⟨G,h,bB.refl _ _ _,rfl,hx⟩
      rcases hx.iS with⟨_,_,rfl⟩|⟨_,aa,cap,rfl,_,hle,_⟩
      · exact⟨_,w,vW hT hu none bb cc (aH _),me⟩
      · exact⟨_,w,vW hT hu (some aa) bb cc hle,me⟩
    · rename_i d' b' off e1 n cap
      injection ha with ha
      injection ha with h1 h2
      subst h1 h2
      have me:df P B0 w0 G k nl s s w (.aN d' b' off e1 n cap) x:=⟨G,h,bB.refl _ _ _,rfl,hx⟩
      obtain⟨blk,gr,rc,o0,rfl,_,_,_,hn,_⟩:=hx.mj
      exact⟨_,w,vW hT hu (some _) bb cc hn,me⟩
    · cases ha
  rw[aq (by omega)]at ha
  split at ha
  case isFalse=>cases ha
  rename_i bn
  obtain⟨_,eR,aP⟩:=bn
  rw[h.gS]at eR aP
  obtain⟨r,gr,hr,hg⟩:=h.cI eR
  have y9:=HB y7 hT.pos
  have Xf:p.1≠[]:=fun e=>by rw[e,iY]at y8;omega
  have Oo:∀i (hi:i<p.1.length),Rel G d gr.nl p.1[i] (fy i):=fun i hi=>by
    rcases aP with rfl|aP
    · obtain ⟨g', e1, e2⟩ := h.cur
      rw[hg]at e1
      injection e1 with e1
      rw[e1,e2]
      exact tE i hi
    · exact .cl ((tE i hi).yu (jJ.1 aP _ (gA hi)))
  split at ha
  · rename_i o e1 xs
    split at ha
    case isFalse=>cases ha
    rename_i bn
    obtain⟨qU,lG,oz⟩:=bn
    injection ha with ha
    injection ha with h1 h2
    subst h1 h2
    have Gk:xs=[]:=by simpa using qU
    subst Gk
    obtain⟨base,rfl⟩:∃base,x=.slice base 0 0:=by
      rcases hx.iS with⟨_,_,rfl⟩|⟨w9,ax,cx,rfl,_,_,mh,wX⟩
      · exact⟨none,rfl⟩
      · rcases lG with hc | ⟨hc, _⟩
        · cases o <;> simp [Own.isNil] at hc
          exact absurd rfl w9
        · have ho : o = .full := by cases o <;> simp [Own.isFull] at hc ⊢
          have:=wX ho
          subst this
          exact⟨some ax,rfl⟩
    obtain⟨newCap,rest,fC,ia,db⟩:=vV (P:=P) (w:=w) (ty:=ty) (n:=0) (m:=p.2) (cap:=0) (c:=cy) (base:=base) (a:=ay) (f:=fun _=>Go.undef) (g:=fy) hT hu (by omega) (ye hT (by omega) (by omega)) (fun b _ c hc=>by simp at hc) (fun _=>rfl) jP
    rw[fK]at db fC ia
    refine⟨_,_,db,?_⟩
    have cm:=GO (R:=Rel G d gr.nl) (cs:=[]) (ds:=p.1) (n:=0) (m:=p.2*es) (f:=fun _=>Go.undef) (g:=fy) (rest:=rest) rfl y8 (fun i hi=>by simp at hi) (fun i hi=>Oo i hi)
    rw[kh]at cm
    have bP:((List.range (0*es+p.2*es)).map (both (0*es) (fun _=>Go.undef) fy)++rest).toArray.size=newCap*es:=by
      simp only[xV,ck,bE,pL,ia]
      rw[←ft,←ft]
      congr 1;omega
    exact ao3 h.drew eR hg e (some (newCap*es)) (fun n hn=>by injection hn with hn;rw[bP,hn]) Xf Pd (by simpa using cm) es p.2 0 newCap fC (bh _) (fun _ _=>rfl)
  · rename_i d1 b' off e1 n cap
    split at ha
    case isFalse=>cases ha
    rename_i bn
    obtain⟨rfl,rfl,rfl,fE,rfl,oz⟩:=bn
    split at ha
    case h_2=>cases ha
    rename_i cs tA
    split at ha
    case isFalse=>cases ha
    rename_i tB
    injection ha with ha
    injection ha with h1 h2
    subst h1 h2
    obtain⟨blk,bI,rc,o0,rfl,hd,bz,cu,F4,_,hw,ho⟩:=hx.mj
    rw[hg]at bz
    injection bz with bz
    subst bz
    have ho:=ho (.inl fE)
    subst ho
    have FO:=hw rfl fE
    have dp:r.boxes[b']? =some cs:=by simpa[ae.box,hr]using tA
    have hB:=(h.rel.cI d1 r gr hr hg).box b' cs blk dp cu
    obtain⟨A7,_,Oj,arr,tb,nJ,ajR,Pt,Pm⟩:=hB
    have dz:cs≠[]:=fun e=>by
      rw[e]at tB
      have:=HB fE hT.pos
      simp only[iY]at tB
      omega
    have rZ:=Pt dz _ FO
    have aB:cs++p.1≠[]:=fun e=>Xf (Ll.1 e).2
    have FA:∀c,c∈cs++p.1→c.bu=true:=fun c hc=>by
      rcases c9.1 hc with hc|hc
      · obtain ⟨i, hi, rfl⟩ := n6 hc
        exact(Pm i hi).1
      · exact Pd c hc
    by_cases lH:n+p.2≤rc
    · have hle : (n + p.2) * e1 ≤ arr.size := by rw [rZ]; exact mF _ lH
      refine⟨_,_,LY (P:=P) (ty:=ty) (n:=n) (m:=p.2) (c:=cy) (a:=ay) (g:=fy) hT hu lH jP nJ hle (fun c hc=>KJ (tE c (by rw[y8];exact hc)) (Pd _ (gA _))),?_⟩
      refine QI h eR hr hg dp cu dz aB FA (arr':=jl arr (n*e1) ((List.range (p.2*e1)).map fy)) ?_ (FL _ _ _ _ nJ) (fun c _ hc=>FM hc _ _ _) (.inl rfl) (Dx A7 _ _ _) (by rw[GW];exact aH _) (by rw[xC];exact rZ) lH
      rw[ft]at hle
      refine⟨by rw[xC,ck,tB,y8];exact hle,fun i hi=>?_⟩
      rw[ck,tB,y8]at hi
      rw[K0 _ _ _ _ (by simpa using hle)]
      by_cases hl:i<cs.length
      · rw[ug hl,aq (by omega)];exact(Pm i hl).2
      · rw [uh (by omega), ak (by simp; omega)]
        have se:i-n*e1<p.2*e1:=by omega
        have:=Oo (i-cs.length) (by rw[y8];omega)
        have wY:((List.range (p.2*e1)).map fy).getD (i-n*e1) Go.undef=fy (i-cs.length):=by
          rw[tB]
          simp[List.getD,se]
        rw[wY]
        exact this
    · obtain ⟨newCap, rest, fC, ia, db⟩ := vV (P := P) (w := w) (ty := ty) (n := n) (m := p.2) (cap := rc) (c := cy) (base := some ⟨blk, 0, none⟩) (a := ay) (f := fun c => arr.getD c Go.undef) (g := fy) hT hu lH
        (ye hT lH oz) (fun b e c hc => by
          injection e with e;subst e
          rw[il,cell_of_heap nJ,fK]
          have:c<arr.size:=by
            have:=ajR
            rw[tB]at this;omega
          simp[Array.getD,this]) (fun e=>by cases e) jP
      refine⟨_,_,db,?_⟩
      have Pk:=GO (R:=Rel G d1 gr.nl) (cs:=cs) (ds:=p.1) (f:=fun c=>arr.getD c Go.undef) (g:=fy) (rest:=rest) tB y8 (fun i hi=>(Pm i hi).2) (fun i hi=>Oo i hi)
      have bP:((List.range (n*e1+p.2*e1)).map (both (n*e1) (fun c=>arr.getD c Go.undef) fy)++rest).toArray.size=newCap*e1:=by
        simp only[xV,ck,bE,pL,ia]
        rw[←ft,←ft]
        congr 1;omega
      exact QI h eR hr hg dp cu dz aB FA Pk (World.alloc_heap_new w.drew _) (fun c hc _=>Below.heap_alloc w.drew _ _ hc) (.inr rfl) (((Below.refl _ _).drew).alloc h.rel.low _) (by simp) bP fC
  · cases ha
end
end Go.Ax
/-
  Stores: what goes into an outer activation's box.
-/
namespace Go.Ax
open Go.RowKit
section
variable{P:Program} {B0:Nat} {w0:World} {G:aG} {k nl:Nat} {w:World} {s:ae}
theorem YL {s:ae} {d:Nat} {r:Rec} (h:s.ag[d]? =some r):s.jW d=r.toks.length:=by simp[ae.jW,h]
theorem aaF {s:ae} {d g n:Nat} (h:s.tok d g=some n):∃r,s.ag[d]? =some r∧r.toks[g]? =some (some n):=by
 unfold ae.tok at h
 cases hr:s.ag[d]? with
 |none=>rw[hr]at h;cases h
 |some r=>
  rw[hr]at h
  simp only[eL]at h
  cases hq:r.toks[g]? with
  |none=>rw[hq]at h;cases h
  |some q=>rw[hq]at h;simp only[Option.join_some]at h;subst h;exact⟨r,rfl,hq⟩
theorem aeR (h:cz P B0 w0 G s w) {d g n:Nat} {r:Rec} {gr:cE} {T:ld} (hr:s.ag[d]? =some r) (hg:G.ag[d]? =some gr) (jx:r.toks[g]? =some (some n)) (lA:gr.tk[g]? =some T):
  ∃G',G'.ag=G.ag.modify d (fun q=>{q with tk:=q.tk.set g {T with n:=none}})∧G'.I=G.I∧G'.own T.blk=none∧(∀b o,G'.own b=some o→G.own b=some o∧b≠T.blk)∧cz P B0 w0 G' (s.mz d g none) w∧∀k nl,bB k nl G G':=by
 have aJ:=h.cI d r gr hr hg
 obtain⟨oY,rU⟩:=aJ.tok g (some n) T jx lA
 obtain⟨t1,t2,t3,t4,t5,arr,ty,t6,t7⟩:=rU _ rfl
 let G':aG:={G with ag:=G.ag.modify d fun q=>{q with tk:=q.tk.set g {T with n:=none}},own:=fun b=>if b=T.blk then none else G.own b}
 have hk:jI (· =.tok d g) G w G' w:=fun b o ho aB=>by
  refine⟨?_,rfl,fun _ e=>e⟩
  simp only[G']
  rw[aq]
  ·exact ho
  ·rintro rfl
   rw[t2]at ho
   injection ho with ho
   exact aB ho.symm
 have fc:iZ gr {gr with tk:=gr.tk.set g {T with n:=none}}:=⟨fun b blk e=>e,fun j U e=>by
  by_cases hj:j=g
  ·subst hj
   rw[lA]at e
   injection e with e
   subst e
   exact⟨_,GS lA,rfl,.inr (.inl rfl)⟩
  ·exact⟨U,by show(gr.tk.set g _)[j]? =_;rw[sW,aq (fun e=>hj e.symm)];exact e,.refl U⟩,rfl,fun _ _ e=>e⟩
 have uY:bB d gr.nl G G':=⟨fun _ _ _ e=>e,fun d' q _ e=>by
  show∃bI,(G.ag.modify d _)[d']? =some bI∧_
  rw[dQ]
  by_cases wU:d=d'
  ·subst wU
   rw[hg]at e
   injection e with e
   subst e
   exact⟨_,by rw[ak rfl,hg];rfl,fc,fun _=>rfl⟩
  ·exact⟨q,by rw[aq wU];exact e,.refl q,fun _=>rfl⟩,fun _ _ _ e=>e⟩
 have fm:=h.br (G':=G') (w':=w) hr hg (fun r=>{r with toks:=r.toks.set g none}) (fun q=>{q with tk:=q.tk.set g {T with n:=none}}) (· =.tok d g) rfl rfl (fun _ _ _ e=>e) fc rfl hk
  (fun o ho=>.inr ⟨_,ho⟩) ?_ h.ff (Below.refl _ _) (fun b o e=>?_)
 ·refine⟨G',rfl,rfl,by simp[G'],fun b o e=>?_,fm.1,fm.2⟩
  simp only[G']at e
  split at e
  ·cases e
  ·exact⟨e,by assumption⟩
 ·refine aJ.tokens (toks':=r.toks.set g none) (tk':=gr.tk.set g {T with n:=none}) uY hk (by simp[aJ.iV]) (fun hm=>YK hm (.inl rfl)) (fun j p U e1 e2=>?_)
  rcases B8 e1 with⟨aB,e1⟩|⟨rfl,rfl,_⟩
  ·rcases B8 e2 with⟨_,e2⟩|⟨hj,_⟩
   ·exact .inl ⟨aB,e1,e2⟩
   ·exact absurd hj aB
  ·rcases B8 e2 with⟨hj,_⟩|⟨_,rfl,_⟩
   ·exact absurd rfl hj
   ·exact .inr ⟨rfl,rfl,fun m hm=>by cases hm⟩
 ·simp only[G']at e
  split at e
  ·cases e
  ·exact h.eO b o e
theorem So (h:cz P B0 w0 G s w) {d n:Nat} {r:Rec} {gr:cE} {T:ld} (hr:s.ag[d]? =some r) (hg:G.ag[d]? =some gr) (yT:G.own T.blk=none) (oY:T.n=some n)
  (hT:B0≤T.blk∧(∀i,n*T.es≤i→G.I T.blk i=none)∧n≤T.cap∧0<T.es∧∃arr ty,w.heap[T.blk]? =some (.cells arr ty)∧arr.size=T.cap*T.es):
  ∃G',G'.ag=G.ag.modify d (fun q=>{q with tk:=q.tk++[T]})∧G'.I=G.I∧cz P B0 w0 G' (s.lg d n) w∧∀k nl,bB k nl G G':=by
 have aJ:=h.cI d r gr hr hg
 obtain⟨t1,t3,t4,t5,arr,ty,t6,t7⟩:=hT
 let G':aG:={G with ag:=G.ag.modify d fun q=>{q with tk:=q.tk++[T]},own:=fun b=>if b=T.blk then some (.tok d r.toks.length)else G.own b}
 have hk:jI (· =.tok d r.toks.length) G w G' w:=fun b o ho _=>by
  refine⟨?_,rfl,fun _ e=>e⟩
  simp only[G']
  rw[aq]
  ·exact ho
  ·rintro rfl
   rw[yT]at ho
   cases ho
 have fc:iZ gr {gr with tk:=gr.tk++[T]}:=⟨fun b blk e=>e,fun g U e=>⟨U,mO e,.refl U⟩,rfl,fun _ _ e=>e⟩
 have uY:bB d gr.nl G G':=⟨fun _ _ _ e=>e,fun d' q _ e=>by
  show∃bI,(G.ag.modify d _)[d']? =some bI∧_
  rw[dQ]
  by_cases wU:d=d'
  ·subst wU
   rw[hg]at e
   injection e with e
   subst e
   exact⟨_,by rw[ak rfl,hg];rfl,fc,fun _=>rfl⟩
  ·exact⟨q,by rw[aq wU];exact e,.refl q,fun _=>rfl⟩,fun _ _ _ e=>e⟩
 have fm:=h.br (G':=G') (w':=w) hr hg (fun r=>{r with toks:=r.toks++[some n]}) (fun q=>{q with tk:=q.tk++[T]}) (· =.tok d r.toks.length) rfl rfl (fun _ _ _ e=>e) fc rfl hk
  (fun o ho=>.inr ⟨_,ho⟩) ?_ h.ff (Below.refl _ _) (fun b o e=>?_)
 ·exact⟨G',rfl,rfl,fm.1,fm.2⟩
 ·refine aJ.tokens (toks':=r.toks++[some n]) (tk':=gr.tk++[T]) uY hk (by simp[aJ.iV]) (n7 _) (fun g m U e1 e2=>?_)
  rcases ev e1 with⟨aC,e1⟩|⟨rfl,rfl⟩
  ·refine .inl ⟨by omega,e1,?_⟩
   rcases ev e2 with⟨_,e2⟩|⟨hb,_⟩
   ·exact e2
   ·rw[aJ.iV]at hb;omega
  ·have:U=T:=by
    rcases ev e2 with⟨hb,_⟩|⟨_,e⟩
    ·rw[aJ.iV]at hb;omega
    ·exact e
   subst this
   refine .inr ⟨rfl,oY,fun m hm=>?_⟩
   injection hm with hm
   subst hm
   exact⟨t1,by simp[G'],t3,t4,t5,arr,ty,t6,t7⟩
 ·simp only[G']at e
  split at e
  ·rename_i hb;subst hb;exact(tZ.1 t6).1
  ·exact h.eO b o e
theorem agj (h:At P B0 w0 G k nl s w) {d nd:Nat} {x x':AV} {v:Value} {s':ae} (eR:d<k) (hx:Rel G k nl x v) (hc:x.bu=true) (hf:s.fit d x=some (x',s')):
  ∃G',At P B0 w0 G' k nl s' w∧bB (k+1) s.loops.length G G'∧s'.loops=s.loops∧Rel G' d nd x' v∧x'.bu=true:=by
 have me:=bB.refl (k+1) s.loops.length G
 by_cases h1:∃d' g es xs,x=.slice (.tok d' g) es xs
 ·obtain⟨d',g,es,xs,rfl⟩:=h1
  simp only[ae.fit]at hf
  split at hf
  ·rename_i hle
   injection hf with hf
   injection hf with e1 e2
   subst e1 e2
   refine⟨G,h,me,rfl,?_,rfl⟩
   cases hx with
   |cl hx=>exact .cl hx
   |tok T gr hd hg ht dU hc hn=>exact .tok T gr hle hg ht dU hc hn
  ·rename_i hle
   split at hf
   ·rename_i gD
    obtain⟨WC,wS⟩:=gD
    injection hf with hf
    injection hf with e1 e2
    subst e1 e2
    rw[h.gS]at WC
    subst WC
    cases hx with
    |cl hx=>cases hx with
     |slice f ho=>rcases ho with h|⟨h,_⟩<;>cases h
     |empty ho=>rcases ho with h|h<;>cases h
    |tok T gr hd hg ht dU mh hn=>
    obtain⟨r,hr,jx⟩:=aaF wS
    have aJ:=h.rel.cI _ r gr hr hg
    obtain⟨oY,rU⟩:=aJ.tok g _ T jx ht
    obtain⟨t1,t2,t3,t4,t5,arr,ty,t6,t7⟩:=rU _ rfl
    obtain⟨_,heq⟩:=hn _ oY
    obtain⟨rfl,rfl⟩:=heq rfl
    obtain⟨G1,a1,a2,a3,_,a5,a6⟩:=aeR h.rel hr hg jx ht
    obtain⟨rd,yG,iR,wY⟩:=h.cI (R5 eR)
    have aB:d'≠d:=by omega
    have ajI:(s.mz d' g none).ag[d]? =some rd:=by
     simp only[ae.mz,ae.br,dQ]
     rw[aq aB];exact iR
    have WQ:G1.ag[d]? =some yG:=by
     rw[a1,dQ,aq aB];exact wY
    obtain⟨G2,b1,b2,b3,b4⟩:=So a5 (T:=T) ajI WQ a3 oY ⟨t1,by rw[a2];exact t3,t4,t5,arr,ty,t6,t7⟩
    have OV:bB (d'+1) s.loops.length G G2:=(a6 _ _).trans (b4 _ _)
    refine⟨G2,h.to b3 (OV.less (by omega) h.sE) (by simp[ae.lg,ae.mz,ae.br]),OV,rfl,?_,rfl⟩
    have gE:G2.ag[d]? =some {yG with tk:=yG.tk++[T]}:=by rw[b1,dQ,ak rfl,WQ];rfl
    have sh:s.jW d=yG.tk.length:=by rw[YL iR,(h.rel.cI d rd yG iR wY).iV]
    rw[sh]
    refine .tok T _ (aH _) gE (by show(yG.tk++[T])[yG.tk.length]? =_;rw[gM (aH _)];simp) dU (mh.mono OV.I) hn
   ·injection hf with hf
    injection hf with e1 e2
    subst e1 e2
    exact⟨G,h,me,rfl,.cl (hx.close (z:=.slice .any es xs) rfl),rfl⟩
 ·by_cases h2:∃d' b off,x=.ptr d' b off
  ·obtain⟨d',b,off,rfl⟩:=h2
   simp only[ae.fit]at hf
   split at hf
   ·rename_i hle
    injection hf with hf
    injection hf with e1 e2
    subst e1 e2
    obtain⟨blk,gr,rfl,_,hg,hb⟩:=hx.sy
    exact⟨G,h,me,rfl,.ptr gr hle hg hb,rfl⟩
   ·cases hf
  ·by_cases h3:∃d' b off es n cap,x=.aN d' b off es n cap
   ·obtain⟨d',b,off,es,n,cap,rfl⟩:=h3
    simp only[ae.fit]at hf
    split at hf
    ·rename_i hle
     injection hf with hf
     injection hf with e1 e2
     subst e1 e2
     obtain⟨blk,gr,rc,o0,rfl,_,hg,hb,hn,hc,hw,ho⟩:=hx.mj
     exact⟨G,h,me,rfl,.aN gr hle hg hb hn hc hw ho,rfl⟩
    ·cases hf
   ·have he:s.fit d x=x.close.map (·,s):=by
     unfold ae.fit
     split
     ·exact absurd ⟨_,_,_,_,rfl⟩ h1
     ·exact absurd ⟨_,_,_,rfl⟩ h2
     ·exact absurd ⟨_,_,_,_,_,_,rfl⟩ h3
     ·rfl
    rw[he]at hf
    cases aP:x.close with
    |none=>rw[aP]at hf;cases hf
    |some z=>
     rw[aP]at hf
     injection hf with hf
     injection hf with e1 e2
     subst e1 e2
     exact⟨G,h,me,rfl,.cl (hx.close aP),Nz aP hc⟩
theorem VD {d nd:Nat} (eR:d<k):∀{xs ys:List AV} {vs:List Value} {G:aG} {s s':ae},At P B0 w0 G k nl s w→(hl:vs.length=xs.length)→(∀i (hi:i<xs.length) (hj:i<vs.length),Rel G k nl xs[i] vs[i]∧xs[i].bu=true)→
  (y3:∀gr,G.ag[d]? =some gr→gr.nl=nd)→s.fitAll d xs=some (ys,s')→
  ∃G',At P B0 w0 G' k nl s' w∧bB (k+1) s.loops.length G G'∧s'.loops=s.loops∧ys.length=xs.length∧∀i (hi:i<ys.length) (hj:i<vs.length),Rel G' d nd ys[i] vs[i]∧ys[i].bu=true
 |[],ys,vs,G,s,s',h,hl,_,_,hf=>by
  simp only[ae.fitAll]at hf
  injection hf with hf
  injection hf with e1 e2
  subst e1 e2
  exact⟨G,h,bB.refl _ _ _,rfl,rfl,fun i hi=>absurd hi (dk _)⟩
 |x::xs,ys,[],G,s,s',h,hl,_,_,hf=>by simp at hl
 | x :: xs, ys, v :: vs, G, s, s', h, hl, hR, y3, hf => by
  simp only[ae.fitAll]at hf
  split at hf
  ·cases hf
  ·rename_i y s1 hy
   split at hf
   ·cases hf
   ·rename_i zs s2 hz
    injection hf with hf
    injection hf with e1 e2
    subst e1 e2
    have h0:=hR 0 (by simp) (by simp)
    obtain⟨G1,a1,a2,a3,a4,a5⟩:=agj (nd:=nd) h eR h0.1 h0.2 hy
    have ajb:nd≤s.loops.length:=by
     obtain⟨_,gr,_,hg⟩:=h.cI (R5 eR)
     rw[←y3 gr hg]
     exact h.rel.pE _ _ hg
    obtain⟨G2,b1,b2,b3,b4,b5⟩:=VD eR (nd:=nd) a1 (by simpa using hl) (fun i hi hj=>by
     have:=hR (i+1) (by simpa using hi) (by simpa using hj)
     exact⟨this.1.mono (a2.less (by omega) h.sE) (aH _) (aH _),this.2⟩) (fun gr hg=>by
     obtain⟨_,iL,_,sb⟩:=h.cI (R5 eR)
     obtain⟨bI,bz,hle,_⟩:=a2.ag d iL (by omega) sb
     rw[hg]at bz
     injection bz with bz
     subst bz
     exact hle.nl.trans (y3 _ sb)) hz
    rw[a3]at b2
    refine⟨G2,b1,a2.trans b2,b3.trans a3,by simp[b4],fun i hi hj=>?_⟩
    cases i with
    |zero=>exact⟨a4.mono (b2.less (by omega) ajb) (aH _) (aH _),a5⟩
    |succ i=>exact b5 i (by simpa using hi) (by simpa using hj)
theorem Rh (h:At P B0 w0 G k nl s w) {x y:AV} {px v:Value} {n:Nat} {s':ae} (hx:Rel G k nl x px) (hy:Rel G k nl y v) (hs:s.store n x y=some s'):
  ∃blk off arr ty,px=.pointer (some ⟨blk,off,none⟩)∧w.heap[blk]? =some (.cells arr ty)∧v.cells.size=n∧off+n≤arr.size∧(∀u,u∈v.cells.toList→u.oneCell'=true)∧df P B0 w0 G k nl s s' (w.setCells blk off v.cells.toList) AV.undef Go.undef:=by
 unfold ae.store at hs
 split at hs
 case h_2=>cases hs
 rename_i d b off
 split at hs
 case isFalse=>cases hs
 rename_i bn
 obtain⟨bf,hlen,dT⟩:=bn
 obtain⟨blk,gr,rfl,hd,hg,cu⟩:=hx.sy
 obtain⟨bP,r8⟩:=hy.cells dT
 have xg:v.cells.size=n:=bP.trans hlen
 have bt:∀c,c∈y.cells→c.bu=true:=fun c hc=>jJ.1 dT c hc
 have Pb:∀u,u∈v.cells.toList→u.oneCell'=true:=fun u hu=>by
  obtain⟨i,hi,rfl⟩:=n6 hu
  have bD:i<y.cells.length:=by rw[←bP];simpa using hi
  have:=r8 i bD
  have he:v.cells.getD i Go.undef=v.cells.toList[i]:=by
   have:i<v.cells.size:=by simpa using hi
   simp[Array.getD,this]
  rw[he]at this
  exact KJ this (bt _ (gA bD))
 split at hs
 ·cases hs
 rename_i cs m1 l8
 split at hs
 ·cases hs
 rename_i row cm
 split at hs
 case isFalse=>cases hs
 rename_i hle
 injection hs with hs
 subst hs
 obtain⟨_,avC⟩:∃nd,gr.nl=nd:=⟨_,rfl⟩
 have JW:∃G1 wL,At P B0 w0 G1 k nl m1 w∧bB (k+1) s.loops.length G G1∧m1.loops=s.loops∧cs.length=n∧G1.ag[d]? =some wL∧wL.bl[b]? =some (some blk)∧(∀i (hi:i<cs.length) (hj:i<v.cells.toList.length),Rel G1 d wL.nl cs[i] v.cells.toList[i])∧∀c,c∈cs→c.bu=true:=by
  have J5:∀i (hi:i<y.cells.length) (hj:i<v.cells.toList.length),Rel G k nl y.cells[i] v.cells.toList[i]∧y.cells[i].bu=true:=fun i hi hj=>by
   have:=r8 i hi
   have he:v.cells.getD i Go.undef=v.cells.toList[i]:=by
    have:i<v.cells.size:=by simpa using hj
    simp[Array.getD,this]
   rw[he]at this
   exact⟨this,bt _ (gA hi)⟩
  by_cases FI:d=s.cur
  ·rw[ak FI]at l8
   injection l8 with l8
   injection l8 with e1 e2
   subst e1 e2
   have eR:d=k:=by rw[h.gS]at FI;exact FI
   subst eR
   obtain⟨gc,nG,wZ⟩:=h.cur
   rw[hg]at nG
   injection nG with nG
   subst nG
   exact⟨G,gr,h,bB.refl _ _ _,rfl,hlen,hg,cu,fun i hi hj=>by rw[wZ];exact(J5 i hi hj).1,bt⟩
  ·rw[aq FI]at l8
   have eR:d<k:=by rw[h.gS]at FI;omega
   obtain⟨G1,a1,a2,a3,a4,a5⟩:=VD (nd:=gr.nl) (vs:=v.cells.toList) eR h (by simpa using bP) J5 (fun g e=>by rw[hg]at e;injection e with e;rw[e]) l8
   obtain⟨wL,JP,FX,_⟩:=a2.ag d gr (by omega) hg
   refine⟨G1,wL,a1,a2,a3,a4.trans hlen,JP,FX.bl _ _ cu,fun i hi hj=>?_,fun c hc=>?_⟩
   ·rw[FX.nl]
    exact(a5 i hi hj).1
   ·obtain⟨i,hi,rfl⟩:=n6 hc
    exact(a5 i hi (by simp[xg,←hlen,←a4,hi])).2
 obtain⟨G1,wL,Bf,FX,pk,aP,JP,Wy,hRs,dz⟩:=JW
 obtain⟨r,hr,dp,JJ,arr,ty,nJ,_,ajQ⟩:=Bf.box hd cm JP Wy
 obtain⟨bb1,bb2,bb3,arr',Cg,JT,wO,aiM,hold⟩:=JJ
 rw[nJ]at JT
 injection JT with JT
 injection JT with e1 e2
 subst e1 e2
 refine⟨blk,off,arr,ty,rfl,nJ,xg,jK hle wO,Pb,?_⟩
 have ahU:kJ (Rel G1 d wL.nl) row arr:=⟨wO,fun i hi=>(hold i hi).2⟩
 have ahV:kJ (Rel G1 d wL.nl) (setCells row off cs) (jl arr off v.cells.toList):=kJ.jl (by simp[xg,aP]) hRs off ahU
 by_cases Ka:row=[]
 · -- nothing is written to a dead box
  subst Ka
  have fE:n=0:=by simp at hle;omega
  have aiq:cs=[]:=uf (by rw[aP];exact fE)
  have hv0:v.cells.toList=[]:=uf (by rw[Rw,xg];exact fE)
  subst aiq
  rw[hv0]
  have Bv : m1.dG d b (setCells [] off []) = m1 := by
   simp only[ae.dG,ae.br,setCells]
   have:m1.ag.modify d (fun r=>{r with boxes:=r.boxes.set b []})=m1.ag:=by
    apply pK
    intro i
    rw[vH]
    by_cases hi:d=i
    ·subst hi
     rw[hr]
     have:r.boxes.set b []=r.boxes:=by
      apply pK
      intro j
      rw[sW]
      split
      ·rename_i hj
       subst hj
       rw[dp,ak (aY.1 dp).1]
      ·rfl
     show some (if d=d then(⟨r.boxes.set b [],r.toks⟩:Rec)else r)=some r
     rw[ak rfl,this]
    ·simp[hi]
   rw[this]
  rw[Bv]
  exact⟨G1,Bf,FX,by rw[pk],.undef⟩
 have aB:setCells row off cs≠[]:=by
  intro e
  have e2:=iy List.length e
  simp[asE]at e2
  exact Ka e2
 have Ps:=Bf.rel.dG (cs':=setCells row off cs) (w':=w.setCells blk off v.cells.toList) hr JP dp Wy Ka aB (fun c hc=>by
   rcases aad hc with h|h
   ·exact ajQ c h
   ·exact dz c h) ahV (fun m hm=>by rw[xC];exact aiM Ka m hm) (FL _ _ _ _ nJ) (fun c hc=>FM hc _ _ _) (Dx bb1 _ _ _) (GW _ _ _ _)
 refine⟨G1,Bf.to Ps (bB.refl _ _ _) (by simp[ae.dG,ae.br]),FX,by simp[ae.dG,ae.br,pk],.undef⟩
theorem ate (h:At P B0 w0 G k nl s w) {x y:AV} {px v:Value} {n:Nat} {t:TypeId} {s':ae} (hx:Rel G k nl x px) (hy:Rel G k nl y v) (hn:cK P t=some n) (hs:s.store n x y=some s'):
  ∃w',(Instr.storeAt t px v).run P w=.ok () w'∧df P B0 w0 G k nl s s' w' AV.undef Go.undef:=by
 obtain⟨blk,off,arr,ty,rfl,h1,h2,h3,h4,h5⟩:=Rh h hx hy hs
 exact⟨_,atd h1 hn h2 h3 h4,h5⟩
end
end Go.Ax
/-
  copy of plain cells, and a slice that is not written to any more.
-/
namespace Go.Ax
open Go.RowKit
section
variable{P:Program} {B0:Nat} {w0:World} {G:aG} {k nl:Nat} {w:World} {s:ae}
theorem agm {α:Type} {xs:List (List α)} (h:∀r,r∈xs→r.length=1):xs.flatten.length=xs.length:=by
 have:=(yF (es:=1) (by omega) h).1
 omega
theorem aau (h:At P B0 w0 G k nl s w) {b:AV} {y:Value} {ys:List AV} (hy:Rel G k nl b y) (hs:s.G0 b=some ys):
  ∃(ad:Option Addr) (cap:Nat) (f:Nat→Value),y=.slice ad ys.length cap∧(0<ys.length→∃a,ad=some a∧∀j,j<ys.length→w.cell? (a.add j)=some (f j))∧
   ∀i (hi:i<ys.length),Rel G k nl ys[i] (f i)∧ys[i].bu=true:=by
 cases b with
 | slice o e xs =>
  simp only[ae.G0]at hs
  split at hs
  case isFalse=>cases hs
  rename_i hc
  injection hs with hs
  subst hs
  by_cases qU:xs=[]
  ·subst qU
   rcases hy.iS with⟨_,_,rfl⟩|⟨_,aa,c,rfl,_⟩
   ·exact⟨none,0,fun _=>Go.undef,rfl,fun h=>absurd h (zU _),fun i hi=>absurd hi (dk _)⟩
   ·exact⟨some aa,c,fun _=>Go.undef,rfl,fun h=>absurd h (zU _),fun i hi=>absurd hi (dk _)⟩
  ·have he:e=1:=by
    rcases hc with hc|hc
    ·exact hc
    ·exact absurd (by simpa using hc) qU
   subst he
   have oD:0<xs.length:=Cr.2 qU
   rcases hy.iS with⟨_,hn,_⟩|⟨_,ay,cy,rfl,_,_,oF,_⟩
   ·exact absurd hn qU
   ·obtain⟨vg,wT,ly,oQ,fy,vf,pr⟩:=fU.flat oF (by omega)
    have uT:ay=⟨ay.block,ay.off,none⟩:=vT (vg (by omega))
    obtain⟨qC,yD⟩:=yF (es:=1) (by omega) ly
    have hl:=agm ly
    refine⟨some ay,cy,fy,by rw[hl],fun _=>⟨ay,rfl,fun j hj=>?_⟩,fun i hi=>⟨?_,?_⟩⟩
    ·rw[uT,il];exact h.rel.ff _ _ _ (vf j (by omega))
    ·obtain⟨g1,g2,g3⟩:=yD i hi
     rw[g3]
     have:=pr _ g1 _ g2
     rw[xW]at this
     exact .cl this
    ·obtain⟨r,hr,jg⟩:=uj.1 (gA hi)
     exact oQ r hr _ jg
 | aN d b off e n cap =>
  simp only[ae.G0]at hs
  split at hs
  case isFalse=>cases hs
  rename_i he
  subst he
  obtain⟨cs,tA,hs⟩:=da.1 hs
  split at hs
  case isFalse=>cases hs
  rename_i hle
  injection hs with hs
  subst hs
  obtain⟨blk,gr,rc,o0,rfl,hd,hg,cu,F4,_,hw,ho⟩:=hy.mj
  obtain⟨r,hr,dp,JJ,arr,tb,nJ,cm,Pj⟩:=h.box hd tA hg cu
  have hl:((cs.drop off).take n).length=n:=by simp;omega
  refine⟨_,rc,fun j=>arr.getD (off+j) Go.undef,by rw[hl],fun h0=>⟨_,rfl,fun j hj=>?_⟩,fun i hi=>?_⟩
  ·have:=ho (.inl (by omega))
   subst this
   rw[il,cell_of_heap nJ]
   have:o0+j<arr.size:=by have:=cm.1;omega
   simp[Array.getD,this]
  ·have he:((cs.drop off).take n)[i]=cs[off+i]'(by omega):=by simp
   rw[he]
   exact⟨cm.2 _ _,Pj _ (gA _)⟩
 |_=>cases hs
theorem aex (h:At P B0 w0 G k nl s w) {t u e ty:TypeId} (ht:P.underlying t=some (.slice e)) (hz:cK P e=some 1) {a b v:AV} {x y:Value} {s':ae}
  (hx:Rel G k nl a x) (hy:Rel G k nl b y) (hc:AN s a b=some (v,s')):
  ∃ x' w', (Builtin.copy_ #[t, u] ty #[x, y]).run P w = .ok x' w' ∧ df P B0 w0 G k nl s s' w' v x' := by
 unfold AN at hc
 split at hc
 ·rename_i o e1
  obtain⟨ys,h1,hc⟩:=aS.1 hc
  injection hc with e1 e2
  subst e1 e2
  obtain⟨ad,cap,f,rfl,_,_⟩:=aau h hy h1
  obtain⟨dd,c,rfl⟩:∃dd c,x=.slice dd 0 c:=by
   rcases hx.iS with⟨_,_,rfl⟩|⟨_,aa,c,rfl,_⟩
   ·exact⟨_,_,rfl⟩
   ·exact⟨_,_,rfl⟩
  exact⟨_,w,run_copy_none w t u ty e dd ad 0 c ys.length cap ht hz (by simp),G,h,bB.refl _ _ _,rfl,.cl (.v rfl)⟩
 ·rename_i d b off e1 n cap
  split at hc
  case isFalse=>cases hc
  rename_i he
  subst he
  obtain⟨ys,h1,hc⟩:=da.1 hc
  obtain⟨ad,Uq,f,rfl,bt,kR⟩:=aau h hy h1
  have XE:=hx
  obtain⟨blk,gr,rc,o0,rfl,hd,hg,cu,F4,_,hw,ho⟩:=hx.mj
  split at hc
  ·rename_i qH
   injection hc with hc
   injection hc with e1 e2
   subst e1 e2
   have nM:Nat.min ys.length n=0:=by
    have:(ys.take n).length=0:=by rw[List.isEmpty_iff.1 qH];rfl
    rw[fq]at this
    show min ys.length n=0
    omega
   exact⟨_,w,run_copy_none w t u ty e _ ad n rc ys.length Uq ht hz nM,G,h,bB.refl _ _ _,rfl,.cl (.v rfl)⟩
  ·rename_i qH
   obtain⟨q,bX,hc⟩:=aS.1 hc
   injection hc with e1 e2
   subst e1 e2
   have y9:0<(ys.take n).length:=by
    apply Cr.2
    intro e
    rw[e]at qH
    exact qH rfl
   have aC:(ys.take n).length=min n ys.length:=fq
   have fE:0<n:=by omega
   have:=ho (.inl fE)
   subst this
   have J6:Rel G k nl (.ptr d b o0) (.pointer (some ⟨blk,o0,none⟩)):=.ptr gr hd hg cu
   have hyv:Rel G k nl (.agg (ys.take n)) (.agg ((List.range (ys.take n).length).map f).toArray):=by
    refine .agg (by simp) (fun c hc=>?_) (fun i hi=>?_)
    ·obtain⟨i,hi,rfl⟩:=n6 hc
     have bD:i<ys.length:=by rw[aC]at hi;omega
     rw[List.getElem_take]
     exact(kR i bD).2
    ·have bD:i<ys.length:=by rw[aC]at hi;omega
     have:((List.range (ys.take n).length).map f).toArray.getD i Go.undef=f i:=by simp[Array.getD]at hi⊢;omega
     rw[this,List.getElem_take]
     exact(kR i bD).1
   obtain⟨fV,Qk,arr,tb,e1,h2,h3,h4,h5,h6⟩:=Rh h J6 hyv bX
   injection e1 with e1
   injection e1 with e1
   injection e1 with e1 e2
   subst e1 e2
   obtain⟨ay,rfl,aP⟩:=bt (by omega)
   have dz:(Value.agg ((List.range (ys.take n).length).map f).toArray).cells.toList=(List.range (ys.take n).length).map f:=rfl
   rw[dz]at h5 h6
   have hlen:((List.range (ys.take n).length).map f).length=(ys.take n).length:=by simp
   have db:=run_copy_cells (P:=P) w t u ty e blk o0 n rc ay ys.length Uq ((List.range (ys.take n).length).map f) ht hz (by rw[hlen,aC];exact Nat.min_comm _ _) (fun j v hj=>by
     have hU:j<(ys.take n).length:=by
      have:=(aY.1 hj).1
      rw[hlen]at this;exact this
     have e:((List.range (ys.take n).length).map f)[j]? =some (f j):=by rw[gN,Hl hU];rfl
     rw[e]at hj
     injection hj with hj
     subst hj
     exact aP j (by omega)) (fun j hj=>by
     rw[hlen]at hj
     rw[cell_of_heap h2]
     have:o0+j<arr.size:=by omega
     simp[this]) (fun j _=>frozen_of_heap h2) h5
   refine⟨_,_,db,?_⟩
   obtain⟨G',a1,a2,a3,_⟩:=h6
   rw[hlen]
   exact⟨G',a1,a2,a3,.cl (.v rfl)⟩
 ·cases hc
end
end Go.Ax
/-
  The other operations without a call.
-/
namespace Go.Ax
open Go.RowKit
section
variable{P:Program} {B0:Nat} {w0:World} {G:aG} {k nl:Nat} {w:World} {s:ae}
theorem df.same (h:At P B0 w0 G k nl s w) {x:AV} {v:Value} (hv:Rel G k nl x v):df P B0 w0 G k nl s s w x v:=⟨G,h,bB.refl _ _ _,rfl,hv⟩
theorem Rel.val (x:Value) (h:plain x=true):Rel G k nl (.v x) x:=.cl (.v h)
theorem akH {op : BinOp} {kd : IntKind} {x y : Int} {v : Value} (h : sx op kd x y = some v) (hs : qe op = false) (t : TypeId) :
    (binOp op t (.int kd x) (.int kd y)).run P w=.ok v w∧plain v=true:=by
  cases op<;>simp only[qe]at hs<;>first
    |(cases hs;done)
    | (simp only [sx] at h
       first
         |(injection h with h;subst h;exact⟨by simp[binOp,Op.intArith,Op.intBits,Op.intCmp],rfl⟩)
         | (split at h
            · cases h
            · rename_i hy
              injection h with h
              subst h
              exact⟨by simp[binOp,Op.intDiv,hy],rfl⟩)
         |cases h)
theorem asK {op:BinOp} {kx ky:IntKind} {x y:Int} {v:Value} (h:tU op kx x y=some v) (t:TypeId):
  (binOp op t (.int kx x) (.int ky y)).run P w=.ok v w∧plain v=true:=by
 unfold tU at h
 split at h
 ·cases h
 ·rename_i hy
  cases op<;>simp only at h<;>first
   |(cases h;done)
   |(injection h with h;subst h;exact⟨by simp[binOp,Op.shift,hy],rfl⟩)
theorem atf {op:BinOp} {x y:ByteArray} {v:Value} (h:sN op x y=some v) (t:TypeId):
    (binOp op t (.string x) (.string y)).run P w=.ok v w∧plain v=true:=by
  unfold sN at h
  simp only[←ByteArray.toList_eq]at h
  cases op<;>simp only at h<;>first
    |(injection h with h;subst h;exact⟨by simp[binOp,Op.stringOp],rfl⟩)
    | (split at h
       · cases h
       · rename_i hc
         injection h with h
         subst h
         exact⟨by simp only[binOp,Op.stringOp];rw[aq hc];rfl,rfl⟩)
    |cases h
theorem acs {op:BinOp} {a b v:AV} (h:dC op a b=some v):
  (∃kd x sA y,a=.v (.int kd x)∧b=.v (.int sA y)∧((qe op=true∧∃z,tU op kd x y=some z∧v=.v z)∨(qe op=false∧kd=sA∧∃z,sx op kd x y=some z∧v=.v z)))∨
  ∃x y z,a=.v (.string x)∧b=.v (.string y)∧sN op x y=some z∧v=.v z:=by
 unfold dC at h
 split at h
 ·rename_i kd x sA y
  refine .inl ⟨kd,x,sA,y,rfl,rfl,?_⟩
  by_cases hs:qe op=true
  ·rw[ak hs]at h
   cases hz:tU op kd x y with
   |none=>rw[hz]at h;cases h
   |some z=>rw[hz]at h;injection h with h;exact .inl ⟨hs,z,rfl,h.symm⟩
  ·rw[aq hs]at h
   by_cases hk:kd=sA
   ·rw[ak hk]at h
    cases hz:sx op kd x y with
    |none=>rw[hz]at h;cases h
    |some z=>rw[hz]at h;injection h with h;exact .inr ⟨by simpa using hs,hk,z,rfl,h.symm⟩
   ·rw[aq hk]at h;cases h
 ·rename_i x y
  cases hz:sN op x y with
  |none=>rw[hz]at h;cases h
  |some z=>rw[hz]at h;injection h with h;exact .inr ⟨x,y,z,rfl,rfl,hz,h.symm⟩
 ·cases h
theorem acu {op:BinOp} {a b v:AV} {x y:Value} (t:TypeId) (hx:Rel G k nl a x) (hy:Rel G k nl b y) (h:dC op a b=some v):
  ∃z,(binOp op t x y).run P w=.ok z w∧Rel G k nl v z∧x≠.nilIface∧∀cs,x≠.agg cs:=by
 have hc:=acs h
 clear h
 rcases hc with⟨kd,a,sA,b,rfl,rfl,hq⟩|⟨a,b,z,rfl,rfl,hz,rfl⟩
 ·obtain rfl:=hx.gu
  obtain rfl:=hy.gu
  rcases hq with⟨_,z,hz,rfl⟩|⟨hs,rfl,z,hz,rfl⟩
  ·obtain⟨h1,h2⟩:=asK (P:=P) (w:=w) (ky:=sA) hz t
   exact⟨z,h1,.val z h2,by simp,by simp⟩
  ·obtain⟨h1,h2⟩:=akH (P:=P) (w:=w) hz hs t
   exact⟨z,h1,.val z h2,by simp,by simp⟩
 ·obtain rfl:=hx.gu
  obtain rfl:=hy.gu
  obtain⟨h1,h2⟩:=atf (P:=P) (w:=w) hz t
  exact⟨z,h1,.val z h2,by simp,by simp⟩
theorem yx {op:BinOp} {t:TypeId} {x y:Operand} {a b:Value} (h1:a≠.nilIface) (h2:∀cs,a≠.agg cs):(eqGuard op t x y a b).run P w=.ok () w:=by
 unfold eqGuard
 cases op<;>simp<;>(cases a<;>simp_all)
theorem ae6 (t:TypeId) (neg:Bool) {x y:Value} {b:Bool} (h:(Op.equal t x y).run P w=.ok b w) (hx:(∀k n,x≠.int k n)∧(∀s,x≠.string s)∧(∀k n,x≠.float k n)∧(∀k m n,x≠.complex k m n)):
  (binOp (if neg then .neq else .eql) t x y).run P w=.ok (.bool (if neg then !b else b)) w:=by
 obtain⟨h1,h2,h3,h4⟩:=hx
 cases neg
 ·simp only[eB,dt]
  have:binOp .eql t x y=(do pure (.bool (←Op.equal t x y))):=by
   cases x<;>first|(exact absurd rfl (h1 _ _))|(exact absurd rfl (h2 _))|(exact absurd rfl (h3 _ _))|(exact absurd rfl (h4 _ _ _))|rfl
  rw[this]
  simp[h]
 ·simp only[bZ]
  have:binOp .neq t x y=(do pure (.bool (!(←Op.equal t x y)))):=by
   cases x<;>first|(exact absurd rfl (h1 _ _))|(exact absurd rfl (h2 _))|(exact absurd rfl (h3 _ _))|(exact absurd rfl (h4 _ _ _))|rfl
  rw[this]
  simp[h]
theorem U9 {kd:PK} {x y:AV} {a b:Value} {c:Bool} {t:TypeId} (hx:Rel G k nl x a) (hy:Rel G k nl y b) (h:NQ kd x y=some c) (ht:zC P t=some kd) (d:Nat):
  (Op.equalIn (d+1) t a b).run P w=.ok c w:=by
 unfold zC at ht
 unfold NQ at h
 split at h
 ·obtain rfl:=hx.gu
  obtain rfl:=hy.gu
  split at ht<;>first|(cases ht;done)|skip
  rename_i hu
  split at h
  ·rename_i FU
   subst FU
   injection h with h
   subst h
   exact run_equalIn_int w d t _ _ _ _ hu
  ·cases h
 ·obtain rfl:=hx.gu
  obtain rfl:=hy.gu
  split at ht<;>first|(cases ht;done)|skip
  rename_i hu
  injection h with h
  subst h
  exact run_equalIn_bool' w d t _ _ hu
 ·obtain rfl:=hx.gu
  obtain rfl:=hy.gu
  split at ht<;>first|(cases ht;done)|skip
  rename_i hu
  injection h with h
  rw[←ByteArray.toList_eq,←ByteArray.toList_eq]at h
  subst h
  exact run_equalIn_string w d t _ _ hu
 ·cases h
theorem KN {t:TypeId} {kd:PK} (h:zC P t=some kd) {cs:Array Value} {i:Nat} (hi:i<cs.size):(Go.part t cs i).run P w=.ok cs[i] w:=by
 have ha:(isAgg t).run P w=.ok false w:=by
  unfold zC at h
  split at h<;>first
   |(rename_i hu;simp[isAgg,run_underlying hu,pure])
   |cases h
 unfold Go.part
 simp only[Sem.run_bind,ha,Result.andThen_ok,eB,dt]
 simp[hi]
theorem U8 (d:Nat) {xs ys:Array Value}:∀(fs:List Field) (ks:List PK) (as bs:List AV) (o:Nat) (c:Bool),(∀f,f∈fs→f.name≠ "_")→fH (fun f:Field=>zC P f.type) fs=some ks→fs.map (·.offset)=List.range' o fs.length→
  xs.size=o+as.length→ys.size=o+bs.length→(∀i (hi:i<as.length),Rel G k nl as[i] (xs.getD (o+i) Go.undef))→(∀i (hi:i<bs.length),Rel G k nl bs[i] (ys.getD (o+i) Go.undef))→
  Fh ks as bs=some c→(Op.eqFields (d+1) xs ys fs).run P w=.ok c w
 | [], ks, as, bs, o, c, _, hk, _, _, _, _, _, h => by
  simp only[fH]at hk
  injection hk with hk
  subst hk
  cases as with
  |nil=>cases bs with
   |nil=>simp only[Fh]at h;injection h with h;subst h;rfl
   |cons=>cases h
  |cons=>cases h
 | f :: fs, ks, as, bs, o, c, hn, hk, ho, Gk, kR, XI, XM, h => by
  simp only[fH]at hk
  split at hk
  case h_2=>cases hk
  rename_i kd ks' Bo FV
  injection hk with hk
  subst hk
  cases as with
  |nil=>cases h
  | cons a as =>
   cases bs with
   |nil=>cases h
   | cons b bs =>
    simp only[gO,dJ,Ct,xP]at ho
    obtain⟨ho,po⟩:=ho
    simp only[dJ]at Gk kR
    have oD:=XI 0 (by simp)
    have jk:=XM 0 (by simp)
    simp only[vL,xS]at oD jk
    have bG:o<xs.size:=by omega
    have OQ:o<ys.size:=by omega
    have ex:xs.getD o Go.undef=xs[o]:=by simp[Array.getD,bG]
    have ey:ys.getD o Go.undef=ys[o]:=by simp[Array.getD,OQ]
    rw[ex]at oD
    rw[ey]at jk
    simp only[Fh]at h
    simp only[Op.eqFields]
    rw[ak (hn f (by simp)),ho]
    split at h
    ·rename_i he
     have db:=U9 (P:=P) (w:=w) oD jk he Bo d
     have ih:=U8 d (xs:=xs) (ys:=ys) fs ks' as bs (o+1) c (fun g hg=>hn g (by simp[hg])) FV po (by omega) (by omega)
      (fun i hi=>by have:=XI (i+1) (by simpa using hi);simpa[vK,Lz 1 i]using this)
      (fun i hi=>by have:=XM (i+1) (by simpa using hi);simpa[vK,Lz 1 i]using this) h
     simp[KN Bo bG,KN Bo OQ,db,ih]
    ·rename_i he
     injection h with h
     subst h
     have db:=U9 (P:=P) (w:=w) oD jk he Bo d
     simp[KN Bo bG,KN Bo OQ,db]
    ·cases h
end
end Go.Ax
/-
  The other operations without a call: each one's run.
-/
namespace Go.Ax
open Go.RowKit
section
variable{P:Program} {B0:Nat} {w0:World} {G:aG} {k nl:Nat} {w:World} {s:ae}
theorem ae3 {f:AV→Option Bool} {x y:AV} {c:Bool} (h:yz f x y=some c):(f x=some true∧f y=some c)∨(f y=some true∧f x=some c):=by
 unfold yz at h
 split at h
 ·rename_i b h1 h2
  injection h with h
  subst h
  exact .inl ⟨h1,h2⟩
 ·rename_i b _ h1 h2
  injection h with h
  subst h
  exact .inr ⟨h2,h1⟩
 ·cases h
theorem YJ {x:AV} {y:Value} {c:Bool} (h:Rel G k nl x y) (hc:PU x=some c):∃a n m,y=.slice a n m∧a.isNone=c:=by
 unfold PU at hc
 split at hc
 ·injection hc with hc
  subst hc
  rcases h.iS with⟨_,_,rfl⟩|⟨aB,_⟩
  ·exact⟨_,_,_,rfl,rfl⟩
  ·exact absurd rfl aB
 ·rename_i aB
  injection hc with hc
  subst hc
  rcases h.iS with⟨he,_,_⟩|⟨_,a,cap,rfl,_⟩
  ·exact(aB he).elim
  ·exact⟨_,_,_,rfl,rfl⟩
 ·injection hc with hc
  subst hc
  obtain⟨blk,gr,rc,o0,rfl,_⟩:=h.mj
  exact⟨_,_,_,rfl,rfl⟩
 ·cases hc
theorem YI {x:AV} {y:Value} {c:Bool} (h:Rel G k nl x y) (hc:PT x=some c):∃a:Option Addr,y=.pointer a∧a.isNone=c:=by
 unfold PT at hc
 split at hc
 ·injection hc with hc;subst hc;obtain rfl:=h.gu;exact⟨_,rfl,rfl⟩
 ·injection hc with hc;subst hc;obtain⟨blk,gr,rfl,_⟩:=h.sy;exact⟨_,rfl,rfl⟩
 ·injection hc with hc;subst hc;obtain⟨blk,o0,f,rfl,_⟩:=h.zn;exact⟨_,rfl,rfl⟩
 ·cases hc
theorem YH {x:AV} {y:Value} {c:Bool} (h:Rel G k nl x y) (hc:PS x=some c):(c=true∧y=.nilIface)∨(c=false∧∃t z,y=.iface t z):=by
 unfold PS at hc
 split at hc
 ·injection hc with hc;subst hc;obtain rfl:=h.gu;exact .inl ⟨rfl,rfl⟩
 ·injection hc with hc;subst hc;obtain⟨z,rfl,_⟩:=h.PN;exact .inr ⟨rfl,_,_,rfl⟩
 ·injection hc with hc;subst hc
  cases h with
  |cl h=>cases h with|zA=>exact .inr ⟨rfl,_,_,rfl⟩
 ·cases hc
theorem YG {x:AV} {y:Value} {c:Bool} (h:Rel G k nl x y) (hc:PR x=some c):(c=true∧y=.nilFunc)∨(c=false∧∃f a b,y=.func f a b):=by
 unfold PR at hc
 split at hc
 ·injection hc with hc;subst hc;obtain rfl:=h.gu;exact .inl ⟨rfl,rfl⟩
 ·injection hc with hc;subst hc;obtain⟨a,b,rfl,_⟩:=h.BG;exact .inr ⟨rfl,_,_,_,rfl⟩
 ·injection hc with hc;subst hc;obtain⟨r,rfl,_⟩:=h.PO;exact .inr ⟨rfl,_,_,_,rfl⟩
 ·cases hc
theorem uF {t:TypeId} {x y:Value} {b:Bool} (h:∀d,(Op.equalIn (d+1) t x y).run P w=.ok b w):(Op.equal t x y).run P w=.ok b w:=by
 unfold Op.equal Op.maxDepth
 exact h 9999
theorem ae8 {t e:TypeId} {a b:Option Addr} {n m n' m':Nat} (ht:P.underlying t=some (.slice e)) (h:a=none∨b=none):
  (Op.equal t (.slice a n m) (.slice b n' m')).run P w=.ok (a.isNone&&b.isNone) w:=by
 refine uF fun d=>?_
 rcases h with rfl|rfl
 ·simp[Op.equalIn,run_underlying ht]
 ·cases a<;>simp[Op.equalIn,run_underlying ht]
theorem ae7 {t e:TypeId} {a b:Option Addr} (ht:P.underlying t=some (.pointer e)) (h:a=none∨b=none):
  (Op.equal t (.pointer a) (.pointer b)).run P w=.ok (a.isNone&&b.isNone) w:=by
 refine uF fun d=>?_
 rcases h with rfl|rfl
 ·simp[Op.equalIn,run_underlying ht]
 ·cases a<;>simp[Op.equalIn,run_underlying ht]
theorem Ji {f:AV→Option Bool} {x y:AV} {c:Bool} (he:yz f x y=some c):∃p q,f x=some p∧f y=some q∧(p=true∨q=true)∧c=(p&&q):=by
 rcases ae3 he with⟨h1,h2⟩|⟨h1,h2⟩
 ·exact⟨_,_,h1,h2,.inl rfl,by simp⟩
 ·exact⟨_,_,h2,h1,.inr rfl,by simp⟩
theorem NO {op:BinOp} {neg:Bool} {t:TypeId} {x y:Operand} {u v:Value} (cp:Fi op=some neg) (hc:(Gv x||Gv y)=true) (hu:∀cs,u≠.agg cs):(eqGuard op t x y u v).run P w=.ok () w:=by
  unfold eqGuard
  cases op<;>first|(cases cp;done)|skip
  all_goals
    cases u <;> first
      |exact absurd rfl (hu _)
      |(cases v<;>first
          |rfl
          |(cases x<;>cases y<;>first
              |rfl
              |(simp[Gv]at hc;done)))
theorem ae9 {op:BinOp} {neg BU:Bool} {t:TypeId} {x y:Operand} {bx fW ax ay:aF} {kd:Hd} {ρ:Nat→AV} {a:Act} {c:Bool} (cp:Fi op=some neg) (rx:Rel G k nl (aE ρ bx) (a.eval x)) (ry:Rel G k nl (aE ρ fW) (a.eval y))
  (hm:Ff P op neg t x y bx fW=some (.eqv BU kd ax ay)) (he:pS kd (aE ρ ax) (aE ρ ay)=some c):
  (do eqGuard op t x y (a.eval x) (a.eval y);binOp op t (a.eval x) (a.eval y)).run P w=.ok (.bool (if BU then !c else c)) w:=by
 have ajw:op=(if neg=true then BinOp.neq else BinOp.eql):=by
  cases op<;>simp[Fi]at cp<;>subst cp<;>rfl
 have fin:∀{b:Bool},(eqGuard op t x y (a.eval x) (a.eval y)).run P w=.ok () w→(Op.equal t (a.eval x) (a.eval y)).run P w=.ok b w→
   ((∀k n,a.eval x≠.int k n)∧(∀s,a.eval x≠.string s)∧(∀k n,a.eval x≠.float k n)∧(∀k m n,a.eval x≠.complex k m n))→
   (do eqGuard op t x y (a.eval x) (a.eval y);binOp op t (a.eval x) (a.eval y)).run P w=.ok (.bool (if neg then !b else b)) w:=fun hg hq hn=>by
  have:=ae6 (P:=P) (w:=w) t neg hq hn
  rw[←ajw]at this
  simp[hg,this]
 unfold Ff at hm
 split at hm<;>first|(cases hm;done)|skip
 · -- bools
  rename_i hu
  injection hm with hm
  injection hm with e1 e2 e3 e4
  subst e1 e2 e3 e4
  simp only[pS]at he
  split at he
  ·rename_i p q h1 h2
   injection he with he
   subst he
   rw[h1]at rx
   rw[h2]at ry
   have ex:=rx.gu
   have ey:=ry.gu
   rw[ex,ey]at fin⊢
   exact fin (yx (by simp) (by simp)) (uF fun d=>run_equalIn_bool' w d t _ _ hu) ⟨by simp,by simp,by simp,by simp⟩
  ·cases he
 · -- structs
  rename_i fs hu
  split at hm
  case isFalse=>cases hm
  rename_i bn
  obtain⟨c1,c2,c3,c4⟩:=bn
  cases FV:fH (fun f:Field=>zC P f.type) fs.toList with
  |none=>rw[FV]at hm;cases hm
  | some ks =>
   rw[FV]at hm
   simp only[dP,fL]at hm
   injection hm with e1 e2 e3 e4
   subst e1 e2 e3 e4
   simp only[pS]at he
   split at he
   ·rename_i p q h1 h2
    rw[h1]at rx
    rw[h2]at ry
    obtain⟨xs,ex,lx,_,qx⟩:=rx.xm
    obtain⟨ys,ey,ly,_,qy⟩:=ry.xm
    rw[ex,ey]at fin⊢
    have Bl:P.fieldsOf t=fs:=by simp[Program.fieldsOf,hu]
    refine fin (run_eqGuard_agg w op t x y xs ys c2) ?_ ⟨by simp,by simp,by simp,by simp⟩
    unfold Op.equal Op.maxDepth
    rw[run_equalIn_struct w 9999 t xs ys (by rw[Bl];exact hu) c1,Bl]
    refine U8 9998 (xs:=xs) (ys:=ys) fs.toList ks p q 0 c (fun f hf=>?_) FV ?_ (by omega) (by omega) (fun i hi=>by simpa using qx i hi) (fun i hi=>by simpa using qy i hi) he
    ·have:=jJ.1 c3 f hf
     simpa using this
    ·rw[c4,zQ]
     simp
   ·cases he
 · -- pointers
  rename_i e hu
  injection hm with hm
  injection hm with e1 e2 e3 e4
  subst e1 e2 e3 e4
  simp only[pS]at he
  obtain⟨p,q,hp,hq,u6,rfl⟩:=Ji he
  obtain⟨u,ex,Py⟩:=YI rx hp
  obtain⟨v,ey,nO⟩:=YI ry hq
  rw[ex,ey]at fin⊢
  have:=ae7 (P:=P) (w:=w) (a:=u) (b:=v) hu (by rcases u6 with rfl|rfl<;>simp_all)
  rw[Py,nO]at this
  exact fin (yx (by simp) (by simp)) this ⟨by simp,by simp,by simp,by simp⟩
 · -- interfaces
  rename_i ms hu
  split at hm
  case isFalse=>cases hm
  rename_i OE
  injection hm with hm
  injection hm with e1 e2 e3 e4
  subst e1 e2 e3 e4
  simp only[pS]at he
  obtain⟨p,q,hp,hq,u6,rfl⟩:=Ji he
  rcases YH rx hp with⟨rfl,ex⟩|⟨rfl,tx,zx,ex⟩<;>rcases YH ry hq with⟨rfl,ey⟩|⟨rfl,ty,zy,ey⟩<;>rw[ex,ey]at fin⊢
  ·exact fin (NO cp OE (by simp)) (uF fun d=>by simp[Op.equalIn,run_underlying hu]) ⟨by simp,by simp,by simp,by simp⟩
  ·exact fin (NO cp OE (by simp)) (uF fun d=>by simp[Op.equalIn,run_underlying hu]) ⟨by simp,by simp,by simp,by simp⟩
  ·exact fin (NO cp OE (by simp)) (uF fun d=>by simp[Op.equalIn,run_underlying hu]) ⟨by simp,by simp,by simp,by simp⟩
  ·rcases u6 with h|h<;>cases h
 · -- slices
  rename_i e hu
  injection hm with hm
  injection hm with e1 e2 e3 e4
  subst e1 e2 e3 e4
  simp only[pS]at he
  obtain⟨p,q,hp,hq,u6,rfl⟩:=Ji he
  obtain⟨u,n,m,ex,Py⟩:=YJ rx hp
  obtain⟨v,n',m',ey,nO⟩:=YJ ry hq
  rw[ex,ey]at fin⊢
  have:=ae8 (P:=P) (w:=w) (a:=u) (b:=v) (n:=n) (m:=m) (n':=n') (m':=m') hu (by rcases u6 with rfl|rfl<;>simp_all)
  rw[Py,nO]at this
  exact fin (yx (by simp) (by simp)) this ⟨by simp,by simp,by simp,by simp⟩
 · -- functions
  rename_i hu
  injection hm with hm
  injection hm with e1 e2 e3 e4
  subst e1 e2 e3 e4
  simp only[pS]at he
  obtain⟨p,q,hp,hq,u6,rfl⟩:=Ji he
  rcases YG rx hp with⟨rfl,ex⟩|⟨rfl,fx,a1,a2,ex⟩<;>rcases YG ry hq with⟨rfl,ey⟩|⟨rfl,fy,b1,b2,ey⟩<;>rw[ex,ey]at fin⊢
  ·exact fin (yx (by simp) (by simp)) (uF fun d=>by simp[Op.equalIn,run_underlying hu]) ⟨by simp,by simp,by simp,by simp⟩
  ·exact fin (yx (by simp) (by simp)) (uF fun d=>by simp[Op.equalIn,run_underlying hu]) ⟨by simp,by simp,by simp,by simp⟩
  ·exact fin (yx (by simp) (by simp)) (uF fun d=>by simp[Op.equalIn,run_underlying hu]) ⟨by simp,by simp,by simp,by simp⟩
  ·rcases u6 with h|h<;>cases h
end
end Go.Ax
/-
  The other operations without a call: each one's run (2).
-/
namespace Go.Ax
open Go.RowKit
section
variable{P:Program} {B0:Nat} {w0:World} {G:aG} {k nl:Nat} {w:World} {s:ae}
theorem aqG {c a b v:AV} {x y z:Value} (hx:Rel G k nl c x) (hy:Rel G k nl a y) (hz:Rel G k nl b z) (h:GJ c a b=some v):
  ∃t:Bool,x=.bool t∧Rel G k nl v (if t then y else z):=by
 unfold GJ at h
 split at h
 ·rename_i t
  obtain rfl:=hx.gu
  injection h with h
  subst h
  refine⟨t,rfl,?_⟩
  cases t
  ·exact hz
  ·exact hy
 ·cases h
theorem atm {op:UnOp} {a v:AV} {x:Value} (hx:Rel G k nl a x) (h:unOp op a=some v):∃z,(Op.unary op x).run P w=.ok z w∧Rel G k nl v z:=by
 unfold unOp at h
 split at h
 ·obtain rfl:=hx.gu
  cases op<;>simp only at h<;>first
   |(injection h with h;subst h;exact⟨_,by simp[Op.unary],.val _ rfl⟩)
   |cases h
 ·obtain rfl:=hx.gu
  cases op<;>simp only at h<;>first
   |(injection h with h;subst h;exact⟨_,by simp[Op.unary,Op.intArith],.val _ rfl⟩)
   |cases h
 ·cases h
theorem ao8 {a v:AV} {x:Value} (hx:Rel G k nl a x) (h:zw a=some v):Rel G k nl v x∧(x≠.pointer none∧x≠.nilIface∧x≠.nilFunc∧∀nm f c,x≠.func (.method nm) f c):=by
 unfold zw at h
 split at h
 ·injection h with h;subst h;obtain⟨_,_,rfl,_⟩:=hx.sy;exact⟨hx,by simp,by simp,by simp,by simp⟩
 ·injection h with h;subst h;obtain⟨_,_,_,rfl,_⟩:=hx.zn;exact⟨hx,by simp,by simp,by simp,by simp⟩
 ·injection h with h;subst h;obtain⟨_,_,rfl,_⟩:=hx.BG;exact⟨hx,by simp,by simp,by simp,by simp⟩
 ·injection h with h;subst h;obtain⟨_,rfl,_⟩:=hx.PO;exact⟨hx,by simp,by simp,by simp,by simp⟩
 ·injection h with h;subst h;obtain⟨_,rfl,_⟩:=hx.PN;exact⟨hx,by simp,by simp,by simp,by simp⟩
 ·cases h
theorem Fc {cs ds:List AV} {arr:Array Value} (h:closeAll cs=some ds) (hl:cs.length≤arr.size) (bt:∀c,c∈cs→c.bu=true) (hR:∀i (hi:i<cs.length),Rel G k nl cs[i] (arr.getD i Go.undef)):
  ds.length=cs.length∧(∀c,c∈ds→c.bu=true)∧∀i (hi:i<ds.length),bL G.I ds[i] (arr.getD i Go.undef):=by
 let _:=hl
 obtain⟨h1,h2⟩:=I6 h
 refine⟨h1,fun c hc=>?_,fun i hi=>(hR i (by omega)).close (h2 i (by omega) hi)⟩
 obtain⟨i,hi,rfl⟩:=n6 hc
 exact Nz (h2 i (by omega) hi) (bt _ (gA _))
theorem akr {t:TypeId} {a v:AV} {x:Value} (hx:Rel G k nl a x) (h:Km t a=some v):Rel G k nl v (.iface t x):=by
 unfold Km at h
 split at h
 ·rename_i cs
  obtain⟨arr,rfl,hl,bt,hR⟩:=hx.xm
  cases hc:closeAll cs with
  |none=>rw[hc]at h;cases h
  |some ds=>
   rw[hc]at h
   injection h with h
   subst h
   obtain⟨h1,h2,h3⟩:=Fc hc (R4 hl.symm) bt hR
   exact .cl (.iface (.agg (by rw[hl,h1]) h2 h3))
 ·split at h
  ·injection h with h
   subst h
   exact .cl (.iface (hx.yu (by assumption)))
  ·cases h
theorem aoS {f:FuncId} {first caps:List Operand} {af ac:List aF} {ρ:Nat→AV} {a:Act} (hR:eC G k nl ρ a) (hf:fH dw first=some af) (hc:fH dw caps=some ac) (aP:(af.map (aE ρ)).all AV.vk=true):
  Rel G k nl (.fn f (af.map (aE ρ)) (ac.map (aE ρ))) (.func (.func f) (first.toArray.map a.eval) (caps.toArray.map a.eval)):=by
 obtain⟨l1,h1⟩:=vm hf
 obtain⟨l2,h2⟩:=vm hc
 refine .fn (by simp[l1]) (by simp[l2]) (fun i hi=>?_) (fun i hi=>?_)
 ·have bD:i<af.length:=by simpa using hi
  have FP:i<first.length:=by omega
  have:=dc (h1 i FP bD) hR
  have tB:(aE ρ af[i]).vk=true:=jJ.1 aP _ (List.mem_map_of_mem (gA bD))
  have e:(first.toArray.map a.eval).getD i Go.undef=a.eval first[i]:=by simp[Array.getD,FP]
  rw[e]
  simp only[List.getElem_map]
  exact this.aem tB
 ·have bD:i<ac.length:=by simpa using hi
  have FP:i<caps.length:=by omega
  have:=dc (h2 i FP bD) hR
  have e:(caps.toArray.map a.eval).getD i Go.undef=a.eval caps[i]:=by simp[Array.getD,FP]
  rw[e]
  simpa using this
theorem af4 {t:TypeId} {fs:Array Field} {f:Field} {i n:Nat} {g:Bool} {a v:AV} {x:Value} (ht:P.underlying t=some (.struct fs)) (hf:fs[i]? =some f) (hg:tI P f.type=some g) (hn:cK P f.type=some n) (hx:Rel G k nl a x)
  (h:Fl g n f.offset a=some v):∃z,(Instr.field t x i).run P w=.ok z w∧Rel G k nl v z:=by
 unfold Fl at h
 split at h
 ·rename_i cs
  obtain⟨arr,rfl,hl,bt,hR⟩:=hx.xm
  rcases Qv (f:=fun i=>arr.getD i Go.undef) h bt hR with⟨rfl,hle,hv⟩|⟨rfl,aC,hv⟩
  ·refine⟨_,?_,hv⟩
   simp only[Instr.field,Sem.run_bind,run_underlying ht,Result.andThen_ok,hf,asAgg,Sem.run_pure,Go.part,zo hg,bZ,jF hn]
   congr 2
   apply Array.ext
   ·simp;omega
   ·intro j h1 h2
    simp at h1 h2⊢
    have:f.offset+j<arr.size:=by omega
    simp[Array.getD,this]
  ·refine⟨_,?_,hv⟩
   have:f.offset<arr.size:=by omega
   simp only[Instr.field,Sem.run_bind,run_underlying ht,Result.andThen_ok,hf,asAgg,Sem.run_pure,Go.part,zo hg,eB,dt]
   simp[Array.getD,this]
 ·cases h
theorem afk {i:Nat} {a v:AV} {x:Value} (hx:Rel G k nl a x) (h:yA i a=some v):∃z,(Instr.extract x i).run P w=.ok z w∧Rel G k nl v z:=by
 unfold yA at h
 split at h
 ·rename_i vs
  obtain⟨arr,rfl,hl,hR⟩:=hx.akK
  obtain⟨h1,h2⟩:=aY.1 h
  have:=hR i h1
  rw[h2]at this
  refine⟨_,?_,this⟩
  have hi:i<arr.size:=by omega
  simp[Instr.extract,hi,Array.getD]
 ·cases h
theorem Yk {t:TypeId} {ty:TypeId} {str:Bool} {a v:AV} {x:Value} (ht:(str=false∧∃e,P.underlying t=some (.slice e))∨(str=true∧P.underlying t=some .string)) (hx:Rel G k nl a x) (h:mm str a=some v):
  ∃ z, (Builtin.len_ #[t] ty #[x]).run P w = .ok z w ∧ Rel G k nl v z := by
 unfold mm at h
 rcases ht with⟨rfl,e,ht⟩|⟨rfl,ht⟩
 ·split at h
  ·injection h with h
   subst h
   rcases hx.iS with⟨_,rfl,rfl⟩|⟨_,p,cap,rfl,_⟩
   ·exact⟨_,by simp[Builtin.len_,run_underlying ht,goInt],.val _ rfl⟩
   ·exact⟨_,by simp[Builtin.len_,run_underlying ht,goInt],.val _ rfl⟩
  ·injection h with h
   subst h
   obtain⟨blk,gr,rc,o0,rfl,_⟩:=hx.mj
   exact⟨_,by simp[Builtin.len_,run_underlying ht,goInt],.val _ rfl⟩
  ·cases h
  ·cases h
 ·split at h
  ·cases h
  ·cases h
  ·injection h with h
   subst h
   obtain rfl:=hx.gu
   exact⟨_,by simp[Builtin.len_,run_underlying ht,goInt],.val _ rfl⟩
  ·cases h
theorem tc {x:AV} {y:Value} {m n:Nat} (hx:Rel G k nl x y) (h:asNat x m=some n):∃kd z,y=.int kd z∧0≤z∧z≤m∧z.toNat=n:=by
 unfold asNat at h
 split at h
 ·obtain rfl:=hx.gu
  split at h
  ·rename_i hc
   injection h with h
   exact⟨_,_,rfl,hc.1,hc.2,h⟩
  ·cases h
 ·cases h
theorem L1 {x:AV} {m n:Nat} (h:asNat x m=some n):n≤m:=by
 unfold asNat at h
 split at h
 ·split at h
  ·injection h with h;omega
  ·cases h
 ·cases h
def j4 (G:aG) (k nl:Nat):Option AV→Option Value→Prop
 |none,none=>True
 |some x,some y=>Rel G k nl x y
 |_,_=>False
theorem acY {isSlice:Bool} {len cap:Nat} {lo hi:Option AV} {gW bD:Option Value} {h l:Nat} (dZ:j4 G k nl lo gW) (iA:j4 G k nl hi bD)
  (eh:lB hi false cap len=some h) (el:kC lo h=some l):
  (Instr.sliceBounds isSlice len cap gW bD none).run P w=.ok (l,h,cap) w:=by
 cases hi with
 | none =>
  cases bD with
  |some=>exact iA.elim
  | none =>
   simp only[lB,eB,dt,fL]at eh
   subst eh
   cases lo with
   | none =>
    cases gW with
    |some=>exact dZ.elim
    |none=>
     simp only[kC,fL]at el
     subst el
     simp[Instr.sliceBounds]
   | some x =>
    cases gW with
    |none=>exact dZ.elim
    |some y=>
     obtain⟨kd,z,rfl,z0,z1,rfl⟩:=tc dZ el
     simp[Instr.sliceBounds,run_sliceBound w kd z _ _ z0 z1]
 | some q =>
  cases bD with
  |none=>exact iA.elim
  | some p =>
   obtain⟨kd,z,rfl,z0,z1,rfl⟩:=tc iA eh
   cases lo with
   | none =>
    cases gW with
    |some=>exact dZ.elim
    |none=>
     simp only[kC,fL]at el
     subst el
     simp[Instr.sliceBounds,run_sliceBound w kd z _ _ z0 z1]
   | some x =>
    cases gW with
    |none=>exact dZ.elim
    |some y=>
     obtain⟨sA,z',rfl,Rq,Rr,rfl⟩:=tc dZ el
     simp[Instr.sliceBounds,run_sliceBound w kd z _ _ z0 z1,run_sliceBound w sA z' _ _ Rq Rr]
theorem acZ {isSlice:Bool} {len cap:Nat} {lo:Option AV} {hi mx:AV} {gW:Option Value} {bD jC:Value} {m h l:Nat} (dZ:j4 G k nl lo gW) (iA:Rel G k nl hi bD) (kB:Rel G k nl mx jC) (em:asNat mx cap=some m)
  (eh:asNat hi m=some h) (el:kC lo h=some l):
  (Instr.sliceBounds isSlice len cap gW (some bD) (some jC)).run P w=.ok (l,h,m) w:=by
 obtain⟨km,zm,rfl,zm0,zm1,rfl⟩:=tc kB em
 obtain⟨kd,z,rfl,z0,z1,rfl⟩:=tc iA eh
 cases lo with
 | none =>
  cases gW with
  |some=>exact dZ.elim
  |none=>
   simp only[kC,fL]at el
   subst el
   simp[Instr.sliceBounds,run_sliceBound w km zm _ _ zm0 zm1,run_sliceBound w kd z _ _ z0 z1]
 | some x =>
  cases gW with
  |none=>exact dZ.elim
  |some y=>
   obtain⟨sA,z',rfl,Rq,Rr,rfl⟩:=tc dZ el
   simp[Instr.sliceBounds,run_sliceBound w km zm _ _ zm0 zm1,run_sliceBound w kd z _ _ z0 z1,run_sliceBound w sA z' _ _ Rq Rr]
theorem fU.cut {I:gg} {es:Nat} {xs:List (List AV)} {a:Addr} {cap l h:Nat} (hx:fU I es xs a cap) (hl:l≤h) (hh:h≤xs.length) (m:Nat) (hm:h≤m) (hmc:m≤cap) (q:Addr) (hq:q=if m=l then a else a.add (l*es)):
  fU I es ((xs.take h).drop l) q (m-l):=by
 cases hx with
 |empty=>
  have h0:h=0:=by simpa using hh
  have l0:l=0:=by omega
  have m0:m=0:=by omega
  subst h0 l0 m0
  exact .empty (.inl rfl)
 | @slice _ _ _ blk off _ f ho hc dU bt hI hR =>
  have hlen:((xs.take h).drop l).length=h-l:=by simp;omega
  have dV:∀i (hi:i<((xs.take h).drop l).length),((xs.take h).drop l)[i]=xs[l+i]'(by omega):=fun i hi=>by simp
  have ji:∀r,r∈(xs.take h).drop l→r∈xs:=fun r hr=>vJ (Hr hr)
  have e2:q=⟨blk,(if m=l then off else off+l*es),none⟩:=by
   rw[hq]
   split
   ·rfl
   ·rw[il]
  rw[e2]
  refine bL.slice (fun i j=>f (l+i) j) (.inl rfl) (by omega) (fun r hr=>dU r (ji r hr)) (fun r hr=>bt r (ji r hr)) (fun i hi j hj=>?_) (fun i hi j hj=>?_)
  ·have aB:m≠l:=by omega
   have bD:l+i<xs.length:=by omega
   have dM:j<(xs[l+i]).length:=by simp only[dV i hi]at hj;exact hj
   rw[aq aB]
   have:=hI (l+i) bD j dM
   rw[ft]at this
   rw[←this]
   congr 1
   omega
  ·have bD:l+i<xs.length:=by omega
   have dM:j<(xs[l+i]).length:=by simp only[dV i hi]at hj;exact hj
   have:=hR (l+i) bD j dM
   simp only[dV i hi]
   exact this
end
end Go.Ax
/-
  The other operations without a call: slices, elements, structs and conversions.
-/
namespace Go.Ax
open Go.RowKit
section
variable{P:Program} {B0:Nat} {w0:World} {G:aG} {k nl:Nat} {w:World} {s:ae}
theorem SM {x:AV} {m m' n:Nat} (h:asNat x m=some n) (hm:m≤m'):asNat x m'=some n:=by
 unfold asNat at h⊢
 split at h
 ·split at h
  ·rename_i hc
   rw[ak ⟨hc.1,by omega⟩]
   exact h
  ·cases h
 ·cases h
theorem Fb (es:Nat):∀(n:Nat) (cs:List AV),n*es≤cs.length→(chunks es n cs).length=n∧(∀r,r∈chunks es n cs→r.length=es)∧(∀r,r∈chunks es n cs→∀c,c∈r→c∈cs)∧
  ∀i (hi:i<(chunks es n cs).length) j (hj:j<(chunks es n cs)[i].length),∃h:i*es+j<cs.length,(chunks es n cs)[i][j]=cs[i*es+j]
 |0,cs,_=>by simp[chunks]
 | n + 1, cs, h => by
  have hs:(n+1)*es=n*es+es:=by rw[ft,oN]
  obtain⟨a1,a2,a3,a4⟩:=Fb es n (cs.drop es) (by simp;omega)
  refine⟨by simp[chunks,a1],fun r hr=>?_,fun r hr c hc=>?_,fun i hi j hj=>?_⟩
  ·simp only[chunks,eF]at hr
   rcases hr with rfl|hr
   ·simp;omega
   ·exact a2 r hr
  ·simp only[chunks,eF]at hr
   rcases hr with rfl|hr
   ·exact vJ hc
   ·exact Hr (a3 r hr c hc)
  ·cases i with
   |zero=>
    simp only[chunks,xS,fq]at hj⊢
    exact⟨by omega,by simp⟩
   |succ i=>
    simp only[chunks,Hm,dJ]at hi hj⊢
    obtain⟨h1,h2⟩:=a4 i (by omega) j hj
    simp only[sX]at h1
    have e:(i+1)*es+j=es+(i*es+j):=by rw[ft,oN];omega
    refine⟨by omega,?_⟩
    rw[h2,List.getElem_drop]
    simp only[e]
theorem QO {I:gg} {cs:List AV} {es n cap blk o0 off:Nat} {f:Nat→Value} (bt:∀c,c∈cs→c.bu=true) (hI:∀i,i<cs.length→I blk (o0+i)=some (f i)) (hR:∀i (hi:i<cs.length),bL I cs[i] (f i))
  (hle:off+n*es≤cs.length) (hc:n≤cap):fU I es (chunks es n (cs.drop off)) ⟨blk,o0+off,none⟩ cap:=by
 obtain⟨a1,a2,a3,a4⟩:=Fb es n (cs.drop off) (by simp;omega)
 have:fU I es (chunks es n (cs.drop off)) ⟨blk,o0+off,none⟩ cap:=by
  refine bL.slice (fun i j=>f (off+(i*es+j))) (.inl rfl) (by omega) a2 (fun r hr c hc=>bt c (Hr (a3 r hr c hc))) (fun i hi j hj=>?_) (fun i hi j hj=>?_)
  ·obtain⟨h1,_⟩:=a4 i hi j hj
   simp only[sX]at h1
   have:=hI (off+(i*es+j)) (by omega)
   rw[←this]
   congr 1
   omega
  ·obtain⟨h1,h2⟩:=a4 i hi j hj
   rw[h2,List.getElem_drop]
   exact hR _ _
 exact this
theorem aaE {I:gg} {es:Nat} {xs:List (List AV)} {a:Addr} {n:Nat} (hn:xs.length=n) (h:bL I (.slice .any es xs) (.slice (some a) n n)):bL I (.slice .full es xs) (.slice (some a) n n):=by
 subst hn
 generalize hN:xs.length=N at h
 cases h with
 |slice f ho hc dU bt hI hR=>exact .slice f (.inr ⟨rfl,rfl⟩) hc dU bt hI hR
 |empty=>exact .empty (.inr rfl)
def aby (P:Program) (t:TypeId):Cy→Prop
 |.str=>P.underlying t=some .string
 |.sl es=>∃e,P.underlying t=some (.slice e)∧cK P e=some es
 |.arr n es=>∃e,P.underlying t=some (.array n e)∧cK P e=some es
theorem aoA {lo:Option AV} {h l:Nat} (e:kC lo h=some l):l≤h:=by
 cases lo with
 |none=>simp only[kC,fL]at e;omega
 |some y=>exact L1 e
theorem aoY {mx:Option AV} {cap m:Nat} (e:qY mx cap=some m):m≤cap:=by
 cases mx with
 |none=>simp only[qY,fL]at e;omega
 |some y=>exact L1 e
theorem An {isSlice:Bool} {len cap cap':Nat} {lo hi mx:Option AV} {gW bD jC:Option Value} {m h l:Nat} (dZ:j4 G k nl lo gW) (iA:j4 G k nl hi bD) (kB:j4 G k nl mx jC)
  (fC:len≤cap) (WB:cap≤cap') (em:qY mx cap=some m) (eh:lB hi mx.isSome m len=some h) (el:kC lo h=some l):
  l≤h∧h≤m∧m≤cap∧(Instr.sliceBounds isSlice len cap' gW bD jC).run P w=.ok (l,h,if mx.isSome then m else cap') w:=by
 have hm:=aoY em
 have hl:=aoA el
 have hh:h≤m:=by
  cases hi with
  |none=>
   cases mx with
   |none=>simp only[lB,qY,rB,eB,dt,fL]at eh em;omega
   |some=>simp[lB]at eh
  |some y=>exact L1 eh
 refine⟨hl,hh,hm,?_⟩
 cases mx with
 | none =>
  cases jC with
  |some=>exact kB.elim
  |none=>
   simp only[qY,fL]at em
   subst em
   simp only[rB,eB,dt]
   refine acY dZ iA ?_ el
   cases hi with
   |none=>exact eh
   |some y=>exact SM eh WB
 | some mv =>
  cases jC with
  |none=>exact kB.elim
  | some mv' =>
   cases hi with
   |none=>simp[lB]at eh
   | some hv =>
    cases bD with
    |none=>exact iA.elim
    |some nO=>
     simp only[vO,bZ]
     exact acZ dZ iA kB (SM em WB) eh el
theorem asX {t:TypeId} {q:ByteArray} {x:Value} {v:AV} {lo hi mx:Option AV} {gW bD jC:Option Value} (ht:P.underlying t=some .string)
  (hx:Rel G k nl (.v (.string q)) x) (dZ:j4 G k nl lo gW) (iA:j4 G k nl hi bD) (kB:j4 G k nl mx jC) (h:iU .str (.v (.string q)) lo hi mx=some v):
  ∃z,(Instr.sliceAt t x gW bD jC).run P w=.ok z w∧Rel G k nl v z:=by
 obtain rfl:=hx.gu
 simp only[iU]at h
 split at h
 ·cases h
 rename_i hs
 obtain⟨hh,eh,h⟩:=da.1 h
 obtain⟨l,el,rfl⟩:=aS.1 h
 have hn:mx=none:=by cases mx with|none=>rfl|some=>simp at hs
 subst hn
 obtain⟨h1,h2,h3,hb⟩:=An (P:=P) (w:=w) (isSlice:=false) (len:=q.size) (cap:=q.size) (cap':=q.size) dZ iA kB (aH _) (aH _) rfl eh el
 have jj:jC=none:=by cases jC with|none=>rfl|some=>exact kB.elim
 subst jj
 refine⟨_,?_,.val _ rfl⟩
 simp only[Instr.sliceAt,Sem.run_bind,run_underlying ht,Result.andThen_ok,Instr.slice,rB,eB,dt,Sem.run_pure]
 simp[hb]
theorem asW {t e:TypeId} {e0:Nat} {o:Own} {es:Nat} {xs:List (List AV)} {x:Value} {v:AV} {lo hi mx:Option AV} {gW bD jC:Option Value} (ht:P.underlying t=some (.slice e)) (bP:cK P e=some e0)
  (hx:Rel G k nl (.slice o es xs) x) (dZ:j4 G k nl lo gW) (iA:j4 G k nl hi bD) (kB:j4 G k nl mx jC) (h:iU (.sl e0) (.slice o es xs) lo hi mx=some v):
  ∃z,(Instr.sliceAt t x gW bD jC).run P w=.ok z w∧Rel G k nl v z:=by
 simp only[iU]at h
 split at h
 case isFalse=>cases h
 rename_i FN
 obtain⟨m,em,h⟩:=da.1 h
 obtain⟨hh,eh,h⟩:=da.1 h
 obtain⟨l,el,rfl⟩:=aS.1 h
 rcases hx.iS with⟨rfl,rfl,rfl⟩|⟨aB,p,cap,rfl,qT,fC,mh,wX⟩
 ·obtain⟨h1,h2,h3,hb⟩:=An (P:=P) (w:=w) (isSlice:=true) (len:=0) (cap:=0) (cap':=0) dZ iA kB (aH _) (aH _) em eh el
  have h0:hh=0:=by simp at h3;omega
  have l0:l=0:=by omega
  have m0:m=0:=by simp at h3;omega
  subst h0 l0 m0
  have hv:Rel G k nl (.slice .aA es []) (.slice none 0 0):=.cl .aA
  have lG:(.slice (xE .aA mx.isSome (0==0&&0==([]:List (List AV)).length) (0==0&&decide (0<0))) es (([].take 0).drop 0):AV)=.slice .aA es []:=by
   cases mx<;>simp[xE,GY,Own.isNil]
  refine⟨.slice none 0 0,?_,by rw[lG];exact hv⟩
  simp only[Instr.sliceAt,Sem.run_bind,run_underlying ht,Result.andThen_ok,Instr.slice,hb]
  cases mx<;>simp[jF bP]
 ·have heq:es=e0:=by
   rcases FN with h0|h0
   ·cases o<;>simp_all [Own.isNil]
   ·exact h0
  subst heq
  obtain⟨h1,h2,h3,hb⟩:=An (P:=P) (w:=w) (isSlice:=true) (len:=xs.length) (cap:=xs.length) (cap':=cap) dZ iA kB (aH _) fC em eh el
  have hlen:((xs.take hh).drop l).length=hh-l:=by simp;omega
  refine⟨.slice (some (if(if mx.isSome then m else cap)=l then p else p.add (l*es))) (hh-l) ((if mx.isSome then m else cap)-l),?_,?_⟩
  ·simp only[Instr.sliceAt,Sem.run_bind,run_underlying ht,Result.andThen_ok,Instr.slice,hb,jF bP,dP,Sem.run_pure]
   congr 2
   split<;>split<;>rfl
  ·generalize hM:(if mx.isSome then m else cap)=M
   have hMh:hh≤M:=by rw[←hM];split<;>omega
   have r9:bL G.I (.slice .any es ((xs.take hh).drop l)) (.slice (some (if M=l then p else p.add (l*es))) (hh-l) (M-l)):=by
    have:=fU.cut mh h1 (by omega) M hMh (by rw[←hM];split<;>omega) _ rfl
    unfold fU at this
    rwa [hlen]at this
   cases mx with
   | none =>
    simp only[rB,eB,dt]at hM
    subst hM
    simp only[xE,rB,eB,dt]
    by_cases hw:(l==0&&hh==xs.length)=true
    ·simp only[dI,Ns]at hw
     obtain⟨rfl,rfl⟩:=hw
     have e1:(xs.take xs.length).drop 0=xs:=by simp
     have e2:(if cap=0 then p else p.add (0*es))=p:=by
      split
      ·rfl
      ·rw[vT (qT (by omega)),il];simp
     rw[e1,e2]
     simp only[Se]
     cases o with
     |aA=>exact absurd rfl aB
     |any=>exact hx
     |full=>exact .cl mh
     |tok d g=>simpa[GY]using hx
    ·have ho:GY o (l==0&&hh==xs.length)=.any:=by
      cases o with
      |aA=>exact absurd rfl aB
      |any=>rfl
      |full=>rfl
      |tok d g=>simp only[GY];rw[aq hw]
     rw[ho]
     exact .cl r9
   | some mv =>
    simp only[vO,bZ]at hM
    subst hM
    have w8:o.isNil=false:=by cases o<;>simp_all [Own.isNil]
    simp only[xE,vO,bZ,w8,eB,dt]
    by_cases hw:(hh==m&&decide (0<m))=true
    ·rw[ak hw]
     simp only[dI,Ns]at hw
     obtain⟨rfl,_⟩:=hw
     exact .cl (aaE hlen r9)
    ·rw[aq hw]
     exact .cl r9
theorem asV {t e:TypeId} {e0 d b off es n cap:Nat} {x:Value} {v:AV} {lo hi mx:Option AV} {gW bD jC:Option Value} (ht:P.underlying t=some (.slice e)) (bP:cK P e=some e0)
  (hx:Rel G k nl (.aN d b off es n cap) x) (dZ:j4 G k nl lo gW) (iA:j4 G k nl hi bD) (kB:j4 G k nl mx jC) (h:iU (.sl e0) (.aN d b off es n cap) lo hi mx=some v):
  ∃z,(Instr.sliceAt t x gW bD jC).run P w=.ok z w∧Rel G k nl v z:=by
 simp only[iU]at h
 split at h
 case isFalse=>cases h
 rename_i FN
 subst FN
 obtain⟨m,em,h⟩:=da.1 h
 obtain⟨hh,eh,h⟩:=da.1 h
 obtain⟨l,el,rfl⟩:=aS.1 h
 obtain⟨blk,gr,rc,o0,rfl,hd,hg,cu,hn,hc,hw,ho⟩:=hx.mj
 obtain⟨h1,h2,h3,hb⟩:=An (P:=P) (w:=w) (isSlice:=true) (len:=n) (cap:=max n cap) (cap':=rc) dZ iA kB (Cu _ _) (Nat.max_le.2 ⟨hn,hc⟩) em eh el
 have O5:m≤if mx.isSome then m else rc:=by
  split
  ·exact aH _
  ·exact jK h3 (Nat.max_le.2 ⟨hn,hc⟩)
 generalize hM:(if mx.isSome then m else rc)=M at hb O5
 refine⟨.slice (some ⟨blk,if M=l then o0 else o0+l*es,none⟩) (hh-l) (M-l),?_,.aN gr hd hg cu (LH (jK h2 O5) l) (LH O5 l) (fun e1 e2=>by omega) (fun hp=>?_)⟩
 ·simp only[Instr.sliceAt,Sem.run_bind,run_underlying ht,Result.andThen_ok,Instr.slice,hb,jF bP,dP,Sem.run_pure,il]
  congr 2
  split<;>rfl
 ·have W0:l<m:=by omega
  have h0:o0=off:=ho (by omega)
  rw[aq (by omega),aq (by omega),h0]
theorem asU {t e:TypeId} {N es:Nat} {a v:AV} {x:Value} {lo hi mx:Option AV} {gW bD jC:Option Value} (ht:P.underlying t=some (.array N e)) (bP:cK P e=some es)
  (hx:Rel G k nl a x) (dZ:j4 G k nl lo gW) (iA:j4 G k nl hi bD) (kB:j4 G k nl mx jC) (h:iU (.arr N es) a lo hi mx=some v):
  ∃z,(Instr.sliceAt t x gW bD jC).run P w=.ok z w∧Rel G k nl v z:=by
 unfold iU at h
 split at h<;>try contradiction
 ·rename_i n0 es0 d b off hk
  injection hk with nK iP
  subst nK iP
  split at h
  ·cases h
  rename_i hs
  have hn:mx=none:=by cases mx with|none=>rfl|some=>simp at hs
  subst hn
  obtain⟨hh,eh,h⟩:=da.1 h
  obtain⟨l,el,rfl⟩:=aS.1 h
  obtain⟨blk,gr,rfl,hd,hg,cu⟩:=hx.sy
  obtain⟨h1,h2,h3,hb⟩:=An (P:=P) (w:=w) (isSlice:=false) (len:=N) (cap:=N) (cap':=N) dZ iA kB (aH _) (aH _) rfl eh el
  refine⟨_,?_,.aN gr hd hg cu (LH h2 l) (aH _) (fun e1 e2=>by omega) (fun _=>rfl)⟩
  simp only[Instr.sliceAt,Sem.run_bind,run_underlying ht,Result.andThen_ok,Instr.sureAddr,hb,jF bP,Sem.run_pure,il,rB,eB,dt]
  congr 3
  split<;>rfl
 ·rename_i n0 es0 cs off hk
  injection hk with nK iP
  subst nK iP
  split at h
  ·cases h
  rename_i hs
  have hn:mx=none:=by cases mx with|none=>rfl|some=>simp at hs
  subst hn
  obtain⟨hh,eh,h⟩:=da.1 h
  obtain⟨l,el,h⟩:=da.1 h
  split at h
  case isFalse=>cases h
  rename_i hle
  injection h with h
  subst h
  obtain⟨blk,o0,f,rfl,bt,hI,hR⟩:=hx.zn
  obtain⟨h1,h2,h3,hb⟩:=An (P:=P) (w:=w) (isSlice:=false) (len:=N) (cap:=N) (cap':=N) dZ iA kB (aH _) (aH _) rfl eh el
  have hmul:l*es+(hh-l)*es≤N*es:=by
   rw[←ft]
   exact mF _ (by omega)
  have cm:=QO (cap:=N-l) bt hI hR (es:=es) (n:=hh-l) (off:=off+l*es) (by omega) (LH h2 l)
  have hlen:=(Fb es (hh-l) (cs.drop (off+l*es)) (by simp;omega)).1
  refine⟨.slice (some (if N=l then⟨blk,o0+off,none⟩else⟨blk,o0+(off+l*es),none⟩)) (hh-l) (N-l),?_,?_⟩
  ·simp only[Instr.sliceAt,Sem.run_bind,run_underlying ht,Result.andThen_ok,Instr.sureAddr,hb,jF bP,Sem.run_pure,il,rB,eB,dt]
   congr 3
   split
   ·rfl
   ·congr 1;omega
  ·by_cases hN:N=l
   ·subst hN
    have h0:hh=N:=by omega
    subst h0
    simp only[HC,chunks,bZ]
    exact .cl (.slice (xs:=[]) (fun _ _=>Go.undef) (.inl rfl) (aH _) (fun r hr=>by cases hr) (fun r hr=>by cases hr) (fun i hi=>absurd hi (dk _)) (fun i hi=>absurd hi (dk _)))
   ·rw[aq hN]
    have:=Rel.cl (G:=G) (k:=k) (nl:=nl) cm
    unfold fU at cm
    rw[hlen]at cm
    exact .cl cm
theorem Rb {t:TypeId} {kd:Cy} {a v:AV} {x:Value} {lo hi mx:Option AV} {gW bD jC:Option Value} (ht:aby P t kd)
  (hx:Rel G k nl a x) (dZ:j4 G k nl lo gW) (iA:j4 G k nl hi bD) (kB:j4 G k nl mx jC) (h:iU kd a lo hi mx=some v):
  ∃z,(Instr.sliceAt t x gW bD jC).run P w=.ok z w∧Rel G k nl v z:=by
 cases kd with
 | str =>
  cases a with
  |v q=>
   cases q with
   |string q=>exact asX ht hx dZ iA kB h
   |_=>simp[iU]at h
  |_=>simp[iU]at h
 |sl e0=>
  obtain⟨e,ht,hs⟩:=ht
  cases a with
  |slice o es xs=>exact asW ht hs hx dZ iA kB h
  |aN d b off es n cap=>exact asV ht hs hx dZ iA kB h
  |_=>simp[iU]at h
 |arr n es=>
  obtain⟨e,ht,hs⟩:=ht
  exact asU ht hs hx dZ iA kB h
end
end Go.Ax
