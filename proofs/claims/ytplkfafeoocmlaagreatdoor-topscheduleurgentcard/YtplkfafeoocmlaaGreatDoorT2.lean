/-
  append: to a slice that is nil or full, and to one with the right to grow.
-/
import Derived.Test.YtplkfafeoocmlaaGreatDoorT1
import Derived.Laws.IdiomCopy
import Derived.Laws.StructEq
import Derived.Laws.IdiomStrings
import Derived.Laws.BytesString
import Derived.Laws.Slices
set_option linter.unusedSimpArgs false
set_option linter.unusedVariables false
set_option maxRecDepth 100000
namespace Go.Ax
open Go.RowKit
section
variable{P:Program} {B0:Nat} {w0:World} {G:aG} {k nl:Nat} {w:World} {s:ae}
theorem fV.flat {I:gn} {es:Nat} {xs:List (List AV)} {a:Addr} {cap:Nat} (h:fV I es xs a cap) (dY:0<es):
  (0<cap→a.spot=none)∧xs.length≤cap∧(∀r,r∈xs→r.length=es)∧(∀r,r∈xs→∀c,c∈r→c.bA=true)∧
  ∃g:Nat→Value,(∀c,c<xs.length*es→I a.block (a.off+c)=some (g c))∧∀i (hi:i<xs.length) j (hj:j<xs[i].length),bL I (xs[i][j]) (g (i*es+j)):=by
 cases h with
 |empty=>exact⟨fun h=>absurd h (Aw _),aH _,by simp,by simp,fun _=>Go.undef,fun c hc=>by simp at hc,fun i hi=>absurd hi (df _)⟩
 | slice f ho hc hlen bz hI hR =>
  refine⟨fun _=>rfl,hc,hlen,bz,fun c=>f (c/es) (c%es),fun c aC=>?_,fun i hi j hj=>?_⟩
  ·have h1:c/es<xs.length:=by rw[Tq dY];exact aC
   have h2:c%es<(xs[c/es]).length:=by rw[hlen _ (gG h1)];exact uK _ dY
   have:=hI (c/es) h1 (c%es) h2
   rw[wc,yh]at this
   exact this
  ·have dO:j<es:=by rw[←hlen _ (gG hi)];exact hj
   have e1:(i*es+j)/es=i:=by rw[Tx,Nat.mul_add_div dY,Mk dO];omega
   have e2:(i*es+j)%es=j:=by rw[Tx,Nat.mul_add_mod,HX dO]
   simp only[e1,e2]
   exact hR i hi j hj
theorem fV.mk {I:gn} {es:Nat} {xs:List (List AV)} {blk off cap:Nat} (g:Nat→Value) (hc:xs.length≤cap) (hlen:∀r,r∈xs→r.length=es) (bz:∀r,r∈xs→∀c,c∈r→c.bA=true)
  (hI:∀c,c<xs.length*es→I blk (off+c)=some (g c)) (hR:∀i (hi:i<xs.length) j (hj:j<xs[i].length),bL I (xs[i][j]) (g (i*es+j))):fV I es xs ⟨blk,off,none⟩ cap:=by
 refine .slice (fun i j=>g (i*es+j)) (.inl rfl) hc hlen bz (fun i hi j hj=>?_) hR
 rw[wc]
 refine hI _ ?_
 have dO:j<es:=by rw[←hlen _ (gG hi)];exact hj
 calc i*es+j<i*es+es:=by omega
  _=(i+1)*es:=by rw[gH,rQ]
  _≤xs.length*es:=oQ _ hi
def both (n:Nat) (f g:Nat→Value):Nat→Value:=fun c=>if c<n then f c else g (c-n)
theorem adZ (n m:Nat) (f g:Nat→Value):(List.range n).map f++(List.range m).map g=(List.range (n+m)).map (both n f g):=by
 apply L5
 ·simp
 ·intro i h1 h2
  simp only[cu,bR,pP]at h1
  by_cases hi:i<n
  ·rw[uF (by simpa using hi)]
   simp[both,hi]
  ·rw[uG (by simpa using hi)]
   simp[both,hi]
theorem alp {I:gn} {es:Nat} {xs ys:List (List AV)} {f g:Nat→Value} (hx:∀i (hi:i<xs.length) j (hj:j<xs[i].length),bL I (xs[i][j]) (f (i*es+j)))
  (hy:∀i (hi:i<ys.length) j (hj:j<ys[i].length),bL I (ys[i][j]) (g (i*es+j))) (lx:∀r,r∈xs→r.length=es) (i:Nat) (hi:i<(xs++ys).length) (j:Nat) (hj:j<(xs++ys)[i].length):
  bL I ((xs++ys)[i][j]) (both (xs.length*es) f g (i*es+j)):=by
 by_cases h:i<xs.length
 ·have e:(xs++ys)[i]=xs[i]:=uF h
  have dO:j<xs[i].length:=by rw[←e];exact hj
  have aC:i*es+j<xs.length*es:=by
   have:j<es:=by rw[←lx _ (gG h)];exact dO
   calc i*es+j<i*es+es:=by omega
    _=(i+1)*es:=by rw[gH,rQ]
    _≤xs.length*es:=oQ _ h
  have:=hx i h j dO
  simp only[both,aC,bP,e]
  exact this
 ·have h':i-xs.length<ys.length:=by simp at hi;omega
  have e:(xs++ys)[i]=ys[i-xs.length]:=uG (by omega)
  have dO:j<ys[i-xs.length].length:=by rw[←e];exact hj
  have nK:¬i*es+j<xs.length*es:=by
   have:=oQ es (Mm h)
   omega
  have he:i*es+j-xs.length*es=(i-xs.length)*es+j:=by
   have:=oQ es (Mm h)
   rw[Nat.sub_mul];omega
  have:=hy _ h' j dO
  simp only[both,nK,db,he,e]
  exact this
theorem Xl (need:Nat):∀(r c:Nat),c≤need+(need+768)/4→Builtin.growBy need r c≤need+(need+768)/4
 |0,c,h=>h
 |r+1,c,h=>by
  simp only[Builtin.growBy]
  split
  ·exact h
  ·exact Xl need r _ (by omega)
theorem apK (need Rx:Nat) (h:Rx<need):Builtin.nextslicecap need Rx≤2*need+1000:=by
 unfold Builtin.nextslicecap
 split
 ·omega
 ·split
  ·omega
  ·have:=Xl need 4 Rx (by omega)
   omega
structure uA (P:Program) (t e:TypeId) (es fY:Nat) (z:Value):Prop where
 slice:P.underlying t=some (.slice e)
 size:cV P e=some es
 bytes:yG P e=some fY
 zero:(P.info? e).bind (·.zero)=some z
 auP:z.cells.size=es
 pos:0<es
 ad5:0<fY
 ble:fY≤4096
theorem x5 {e:TypeId} {z:Value} (h:(P.info? e).bind (·.zero)=some z) (w:World):(zeroValue e).run P w=.ok z w:=by
 cases hi:P.info? e with
 |none=>rw[hi]at h;cases h
 |some i=>
  rw[hi]at h
  simp only[et]at h
  simp[zeroValue,typeInfo,hi,h]
theorem GU {e:TypeId} {b:Nat} (h:yG P e=some b):∃i,P.info? e=some i∧i.bytes=b:=by
 unfold yG at h
 cases hi:P.info? e with
 |none=>rw[hi]at h;cases h
 |some i=>
  rw[hi]at h
  simp only[dE,fe]at h
  exact⟨i,rfl,h⟩
theorem OO {a:Addr} {n es len cap:Nat} {g:Nat→Value} (h:∀c,c<n*es→w.cell? (a.add c)=some (g c)):
  (Builtin.firstCells es n (.slice (some a) len cap)).run P w=.ok ((List.range (n*es)).map g).toArray w:=by
 simp only[Builtin.firstCells]
 exact run_loadCells w a (n*es) g h
theorem wy {t u e ty:TypeId} {es fY n cap:Nat} {z:Value} (hT:uA P t e es fY z) (hu:∃e',P.underlying u=some (.slice e')) (base b:Option Addr) (c:Nat) (hle:n≤cap):
  (Builtin.append_ #[t, u] ty #[.slice base n cap, .slice b 0 c]).run P w = .ok (.slice base n cap) w := by
 obtain⟨e',hu⟩:=hu
 obtain⟨i,hi,_⟩:=GU hT.bytes
 have hs:i.size=es:=by have:=hT.size;unfold cV at this;rw[hi]at this;simpa using this
 have hf : ∀ b : Option Addr, (Builtin.firstCells es 0 (.slice b 0 c)).run P w = .ok #[] w := fun b => by
  cases b with
  |none=>simp[Builtin.firstCells]
  |some a=>simp[Builtin.firstCells,loadCells,loadCellsFrom]
 cases base with
 |none=>simp[Builtin.append_,run_underlying hT.slice,run_underlying hu,sizeOf,typeInfo,hi,hs,Builtin.lenOf,hle,hf]
 |some a=>simp[Builtin.append_,run_underlying hT.slice,run_underlying hu,sizeOf,typeInfo,hi,hs,Builtin.lenOf,hle,hf,storeCells]
theorem MI {t u e ty:TypeId} {es fY n m cap c blk:Nat} {z:Value} {a:Addr} {g:Nat→Value} {arr:Array Value} {tb:TypeId} (hT:uA P t e es fY z) (hu:∃e',P.underlying u=some (.slice e')) (hle:n+m≤cap)
  (hg:∀c,c<m*es→w.cell? (a.add c)=some (g c)) (hw:w.heap[blk]? =some (.cells arr tb)) (bV:(n+m)*es≤arr.size) (h1:∀c,c<m*es→(g c).oneCell'=true):
  (Builtin.append_ #[t, u] ty #[.slice (some ⟨blk, 0, none⟩) n cap, .slice (some a) m c]).run P w = .ok (.slice (some ⟨blk, 0, none⟩) (n + m) cap) (w.setCells blk (n * es) ((List.range (m * es)).map g)) := by
 obtain⟨e',hu⟩:=hu
 obtain⟨i,hi,_⟩:=GU hT.bytes
 have hs:i.size=es:=by have:=hT.size;unfold cV at this;rw[hi]at this;simpa using this
 have PJ:=OO (P:=P) (len:=m) (cap:=c) hg
 have cp:=run_storeCells_cells (P:=P) blk (n*es) ((List.range (m*es)).map g) 0 w (fun j hj=>by
   rw[cell_of_heap hw]
   have dO:j<m*es:=by simpa using hj
   rw[gH]at bV
   simp;omega) (fun j _=>frozen_of_heap hw) (fun v hv=>by
   simp only[cz,oh]at hv
   obtain⟨c,hc,rfl⟩:=hv
   exact h1 c hc)
 rw[Av]at cp
 simp[Builtin.append_,run_underlying hT.slice,run_underlying hu,sizeOf,typeInfo,hi,hs,Builtin.lenOf,hle,PJ,ig,cp]
theorem yC {t e:TypeId} {es fY n cap:Nat} {z:Value} (hT:uA P t e es fY z) (lK:¬n≤cap) (oH:n≤most):Builtin.nextslicecap n cap*fY≤2^48:=by
 have av8:=apK n cap (by omega)
 unfold most at oH
 have h1:Builtin.nextslicecap n cap*fY≤(2*4294967296+1000)*4096:=Nat.mul_le_mul (by omega) hT.ble
 omega
theorem wx {t u e ty:TypeId} {es fY n m cap c:Nat} {z:Value} {base:Option Addr} {a:Addr} {f g:Nat→Value} (hT:uA P t e es fY z) (hu:∃e',P.underlying u=some (.slice e')) (lK:¬n+m≤cap) (oH:Builtin.nextslicecap (n+m) cap*fY≤2^48)
  (hf:∀b,base=some b→∀c,c<n*es→w.cell? (b.add c)=some (f c)) (ke:base=none→n=0) (hg:∀c,c<m*es→w.cell? (a.add c)=some (g c)):
  ∃ (newCap : Nat) (rest : List Value), n + m ≤ newCap ∧ rest.length = (newCap - (n + m)) * es ∧
   (Builtin.append_ #[t, u] ty #[.slice base n cap, .slice (some a) m c]).run P w =
    .ok (.slice (some ⟨w.heap.size,0,none⟩) (n+m) newCap) (w.drew.alloc (.cells ((List.range (n*es+m*es)).map (both (n*es) f g)++rest).toArray e)):=by
 obtain⟨e',hu⟩:=hu
 obtain⟨i,hi,vj⟩:=GU hT.bytes
 have hs:i.size=es:=by have:=hT.size;unfold cV at this;rw[hi]at this;simpa using this
 have hz:i.zero=some z:=by have:=hT.zero;rw[hi]at this;simpa using this
 have av2:cap<n+m:=by omega
 have aiW:¬Builtin.nextslicecap (n+m) cap*i.bytes>2^48:=by rw[vj];omega
 have nI:¬i.bytes=0:=by have:=hT.ad5;omega
 have PJ:=OO (P:=P) (w:=w.drew) (n:=m) (es:=es) (a:=a) (g:=g) (len:=m) (cap:=c) hg
 have hold:(Builtin.firstCells es n (.slice base n cap)).run P w.drew=.ok ((List.range (n*es)).map f).toArray w.drew:=by
  cases base with
  |none=>rw[ke rfl];simp[Builtin.firstCells]
  |some b=>exact OO (P:=P) (w:=w.drew) (hf b rfl)
 have fI:n+m≤(Question.appendCap (n+m) cap e).cut (w.tape w.drawn (Question.appendCap (n+m) cap e)):=by simp[Question.cut]
 generalize Kx:(Question.appendCap (n+m) cap e).cut (w.tape w.drawn (Question.appendCap (n+m) cap e))=newCap at fI
 refine⟨newCap,(Builtin.zeroCells z.cells (newCap-(n+m))).toList,fI,by simp[Builtin.zeroCells,hT.auP],?_⟩
 have BQ:(Question.appendCap (n+m) cap e).forced=false:=rfl
 simp only[Builtin.append_,Tg,HH,Ma,Sem.run_bind,Sem.run_pure,Result.andThen_ok,run_underlying hT.slice,run_underlying hu,jL hT.size,
  Builtin.lenOf,ez,lK,↓reduceIte]
 simp[typeInfo,hi,nI,aiW,hold,PJ,newRow,BQ,Kx,x5 hT.zero]
 rw[←adZ]
 congr 2
 apply Array.ext'
 simp
theorem ZW {l:List (Option Nat)} {g:Nat} {x:Option Nat} (h:none∈l) (hg:x=none∨∃n,l[g]? =some (some n)):none∈l.set g x:=by
 obtain⟨j,hj⟩:=n9 h
 have hl:=(bd.1 hj).1
 by_cases e:j=g
 ·subst e
  rcases hg with rfl|⟨n,hn⟩
  ·exact bU (i:=j) (by simp[hl])
  ·rw[hj]at hn;injection hn with hn;cases hn
 ·exact bU (i:=j) (by rw[eP (qF e)];exact hj)
theorem wg.tokens {G':aG} {w':World} {d g0:Nat} {r:Rec} {gr:cN} (aI:wg B0 G d r gr w) (hle:bD d gr.nl G G') (hk:jN (· =.tok d g0) G w G' w') {toks':List (Option Nat)} {tk':List lu}
  (hl:tk'.length=toks'.length) (aC:none∈r.toks→none∈toks')
  (hg:∀(g:Nat) (n:Option Nat) (T:lu),toks'[g]? =some n→tk'[g]? =some T→(g≠g0∧r.toks[g]? =some n∧gr.tk[g]? =some T)∨(g=g0∧Az B0 G' d g n T w')):
  wg B0 G' d {r with toks:=toks'} {gr with tk:=tk'} w':=by
 refine⟨aI.eu,hl,fun b cs blk e1 e2=>?_,fun b blk e1 e2=>aC (aI.full b blk e1 e2),fun g n T e1 e2=>?_,fun i b e1=>?_,aI.mR⟩
 ·exact(aI.box b cs blk e1 e2).kept hle hk (fun _ e=>by cases e)
 ·rcases hg g n T e1 e2 with⟨aD,h1,h2⟩|⟨_,h⟩
  ·have ht:=aI.tok g n T h1 h2
   have hs:∀(hn:n.isSome=true),G'.own T.blk=some (.tok d g)∧w'.heap[T.blk]? =w.heap[T.blk]? ∧∀i,G.I T.blk i=none→G'.I T.blk i=none:=fun hn=>by
    obtain⟨m,hm⟩:=oj.1 hn
    exact hk _ _ (ht.2 m hm).2.1 (fun e=>by injection e with _ e;exact aD e)
   exact ht.cU (fun hn=>(hs hn).1) (fun hn=>(hs hn).2.1) (fun hn=>(hs hn).2.2)
  ·exact h
 ·have hm:=aI.mark i b e1
  obtain⟨k1,k2,_⟩:=hk _ _ hm.2.1 (fun e=>by cases e)
  exact hm.cU k1 k2
def aG.qH (G:aG) (b n:Nat) (f:Nat→Value):gn:=fun c i=>if c=b then(if i<n then some (f i)else none)else G.I c i
theorem N9 {xs ys:List (List AV)} {es:Nat} {I:gn} {f g:Nat→Value} {blk cap:Nat} (lx:∀r,r∈xs→r.length=es) (ly:∀r,r∈ys→r.length=es)
  (cx:∀r,r∈xs→∀c,c∈r→c.bA=true) (cy:∀r,r∈ys→∀c,c∈r→c.bA=true) (fI:xs.length+ys.length≤cap)
  (hI:∀c,c<(xs.length+ys.length)*es→I blk c=some (both (xs.length*es) f g c))
  (hx:∀i (hi:i<xs.length) j (hj:j<xs[i].length),bL I (xs[i][j]) (f (i*es+j))) (hy:∀i (hi:i<ys.length) j (hj:j<ys[i].length),bL I (ys[i][j]) (g (i*es+j))):
  fV I es (xs++ys) ⟨blk,0,none⟩ cap:=by
 refine fV.mk (both (xs.length*es) f g) (by simpa using fI) (fun r hr=>?_) (fun r hr=>?_) (fun c hc=>?_) (alp hx hy lx)
 ·rcases dC.1 hr with h|h
  ·exact lx r h
  ·exact ly r h
 ·rcases dC.1 hr with h|h
  ·exact cx r h
  ·exact cy r h
 ·rw[fN]
  exact hI c (by simpa using hc)
theorem TT (h : At P B0 w0 G k nl s w) {es n : Nat} {xs ys : List (List AV)} {f g : Nat → Value} {newCap : Nat} {rest : List Value} {e : TypeId} (dY : 0 < es) (hn : n = xs.length + ys.length)
    (lx:∀r,r∈xs→r.length=es) (ly:∀r,r∈ys→r.length=es) (cx:∀r,r∈xs→∀c,c∈r→c.bA=true) (cy:∀r,r∈ys→∀c,c∈r→c.bA=true)
    (hx:∀i (hi:i<xs.length) j (hj:j<xs[i].length),bL G.I (xs[i][j]) (f (i*es+j))) (hy:∀i (hi:i<ys.length) j (hj:j<ys[i].length),bL G.I (ys[i][j]) (g (i*es+j)))
    (fI:n≤newCap) (gA:rest.length=(newCap-n)*es):
    dr P B0 w0 G k nl s (s.lA k n) (w.drew.alloc (.cells ((List.range (xs.length*es+ys.length*es)).map (both (xs.length*es) f g)++rest).toArray e))
      (.slice (.tok k (s.jZ k)) es (xs++ys)) (.slice (some ⟨w.heap.size,0,none⟩) n newCap):=by
  obtain⟨r,gr,hr,hg⟩:=h.cT (aH k)
  have aI:=h.rel.cT k r gr hr hg
  have sx:s.jZ k=r.toks.length:=by simp[ae.jZ,hr]
  have B6:xs.length*es+ys.length*es=n*es:=by rw[hn,gH]
  let T:lu:=⟨some n,w.heap.size,newCap,es⟩
  let G':aG:={G with I:=G.qH w.heap.size (n*es) (both (xs.length*es) f g),ag:=G.ag.modify k fun q=>{q with tk:=q.tk++[T]},own:=fun b=>if b=w.heap.size then some (.tok k r.toks.length)else G.own b}
  generalize xh:((List.range (xs.length*es+ys.length*es)).map (both (xs.length*es) f g)++rest).toArray=arr
  have sf:arr.size=newCap*es:=by
    rw[←xh]
    simp only[yg,cu,bR,pP,gA,B6]
    rw[←gH]
    congr 1
    omega
  have dZ:∀c,c<n*es→arr[c]? =some (both (xs.length*es) f g c):=fun c hc=>by
    rw[←xh,B6]
    simp only[Tg]
    rw[dM (by simpa using hc)]
    simp[hc]
  let w':=w.drew.alloc (.cells arr e)
  have hI:∀b i v,G.I b i=some v→G'.I b i=some v:=fun b i v e=>by
    have:=h.rel.s6 e
    simp only[G',aG.qH]
    rw[aq (by omega)]
    exact e
  have hk:jN (· =.tok k r.toks.length) G w G' w':=fun b o e _=>by
    have aC:=h.rel.eU b o e
    refine⟨by simp only[G'];rw[aq (by omega)];exact e,Below.heap_alloc w.drew _ _ aC,fun i e=>?_⟩
    simp only[G',aG.qH]
    rw[aq (by omega)]
    exact e
  have fp:jc gr {gr with tk:=gr.tk++[T]}:=⟨fun b blk e=>e,fun g T e=>⟨T,mQ e,.refl T⟩,rfl,fun _ _ e=>e⟩
  have gK:w'.heap[w.heap.size]? =some (.cells arr e):=World.alloc_heap_new w.drew _
  have vn:bD k gr.nl G G':=⟨hI,fun d q _ e=>by
    show∃bI,(G.ag.modify k _)[d]? =some bI∧_
    rw[dT]
    by_cases hd:k=d
    · subst hd
      rw[hg]at e
      injection e with e
      subst e
      exact⟨_,by rw[ak rfl,hg];rfl,fp,fun _=>rfl⟩
    · exact⟨q,by rw[aq hd];exact e,.refl q,fun _=>rfl⟩,fun _ _ _ e=>e⟩
  have gl:=h.rel.bu (G':=G') (w':=w') hr hg (fun r=>{r with toks:=r.toks++[some n]}) (fun q=>{q with tk:=q.tk++[T]}) (· =.tok k r.toks.length) rfl rfl hI fp rfl hk
    (fun o ho=>.inr ⟨_,ho⟩) ?_ (fun b i v e=>?_) (((Below.refl _ _).drew).alloc h.rel.low _) (fun b o e=>?_)
  · obtain ⟨na, jT⟩ := gl
    have hlen:(s.lA k n).ag.length=s.ag.length:=by simp[ae.lA,ae.bu]
    obtain⟨gc,mn,xn⟩:=h.cur
    rw[hg]at mn
    injection mn with mn
    subst mn
    have gJ:G'.ag[k]? =some {gr with tk:=gr.tk++[T]}:=by
      show(G.ag.modify k _)[k]? =_
      rw[dT,ak rfl,hg];rfl
    have lK:({gr with tk:=gr.tk++[T]}:cN).tk[r.toks.length]? =some T:=by
      show(gr.tk++[T])[r.toks.length]? =_
      rw[←aI.iZ,gO (aH _)]
      simp
    refine⟨G',h.to na (jT _ _) hlen,jT _ _,by simp[ae.lA,ae.bu],?_⟩
    rw[sx]
    have hc:fV G'.I es (xs++ys) ⟨w.heap.size,0,none⟩ newCap:=
      N9 lx ly cx cy (by omega) (fun c hc=>by
        simp only[G',aG.qH]
        rw[ak trivial,ak (by rw[hn];exact hc)]) (fun i hi j hj=>(hx i hi j hj).mono hI) (fun i hi j hj=>(hy i hi j hj).mono hI)
    have hl:(xs++ys).length=n:=by simp[hn]
    have:=Rel.tok (G:=G') (k:=k) (nl:=nl) (d:=k) (g:=r.toks.length) (es:=es) (xs:=xs++ys) (a:=⟨w.heap.size,0,none⟩) (cap:=newCap) T _ (aH _) gJ lK rfl hc
      (fun m hm=>by
        simp only[T]at hm
        injection hm with hm
        subst hm
        exact⟨by omega,fun _=>⟨rfl,rfl⟩⟩)
    rw[hl]at this
    exact this
  · refine aI.tokens (toks' := r.toks ++ [some n]) (tk' := gr.tk ++ [T]) vn hk (by simp [aI.iZ]) (oP _) (fun g m T' e1 e2 => ?_)
    rcases eC e1 with⟨aC,e1⟩|⟨rfl,rfl⟩
    · refine .inl ⟨by omega, e1, ?_⟩
      rcases eC e2 with⟨_,e2⟩|⟨hb,_⟩
      · exact e2
      · rw[aI.iZ]at hb;omega
    · have : T' = T := by
        rcases eC e2 with⟨hb,_⟩|⟨_,e⟩
        · rw[aI.iZ]at hb;omega
        · exact e
      subst this
      refine .inr ⟨rfl,rfl,fun m hm=>?_⟩
      injection hm with hm
      subst hm
      refine⟨h.rel.low,by simp[G',T],fun i hi=>?_,fI,dY,arr,e,gK,sf⟩
      simp only[G',aG.qH,T]at hi⊢
      rw[ak trivial,aq (by omega)]
  · simp only [G', aG.qH] at e
    split at e
    · rename_i hb
      subst hb
      split at e
      · rename_i hi
        injection e with e
        subst e
        rw[cell_of_heap gK]
        exact dZ i hi
      · cases e
    · rename_i hb
      have:=h.rel.ft b i v e
      rw[Fq (w:=w) (Below.heap_alloc w.drew _ _ (h.rel.s6 e)) rfl]
      exact this
  · simp only [G'] at e
    split at e
    · rename_i hb;subst hb;simp[w']
    · have:=h.rel.eU b o e;simp[w'];omega
theorem Cw {α:Type} {l:List α} {i j:Nat} {x y:α} (h:(l.set i x)[j]? =some y):(j≠i∧l[j]? =some y)∨(j=i∧y=x∧i<l.length):=by
 rw[s9]at h
 by_cases eD:i=j
 ·rw[ak eD]at h
  split at h
  ·injection h with h
   exact .inr ⟨eD.symm,h.symm,by assumption⟩
  ·cases h
 ·rw[aq eD]at h
  exact .inl ⟨fun e=>eD e.symm,h⟩
theorem Hm {α:Type} {l:List α} {i:Nat} {x y:α} (h:l[i]? =some y):(l.set i x)[i]? =some x:=by
 rw[s9,ak rfl,ak (bd.1 h).1]
theorem abR (h : At P B0 w0 G k nl s w) {d g n m : Nat} {r : Rec} {gr : cN} {T T' : lu} {w' : World} {I' : gn} {own' : Nat → Option rR} (hd : d ≤ k) (hr : s.ag[d]? = some r) (hg : G.ag[d]? = some gr)
    (jB:r.toks[g]? =some (some n)) (lK:gr.tk[g]? =some T) (XB:T'.n=some m) (aC:n<m) (dY:T'.es=T.es)
    (hI:∀b i v,G.I b i=some v→I' b i=some v) (hk:∀b o,G.own b=some o→o≠.tok d g→own' b=some o∧w'.heap[b]? =w.heap[b]? ∧∀i,G.I b i=none→I' b i=none)
    (gK:Az B0 {G with I:=I',ag:=G.ag.modify d fun q=>{q with tk:=q.tk.set g T'},own:=own'} d g (some m) T' w')
    (Ge:∀b i v,I' b i=some v→w'.cell? ⟨b,i,none⟩=some v) (hb:Below B0 w w') (Gr:∀b o,own' b=some o→b<w'.heap.size)
    {es:Nat} {xs:List (List AV)} {a:Addr} {cap:Nat} (F9:T'.es=es) (hlen:xs.length=m) (hc:fV I' es xs a cap) (ha:a=⟨T'.blk,0,none⟩) (fI:cap=T'.cap):
    dr P B0 w0 G k nl s (s.mJ d g (some m)) w' (.slice (.tok d g) es xs) (.slice (some a) m cap):=by
  have aI:=h.rel.cT d r gr hr hg
  have pd:T.n=some n:=(aI.tok g (some n) T jB lK).1
  let G':aG:={G with I:=I',ag:=G.ag.modify d fun q=>{q with tk:=q.tk.set g T'},own:=own'}
  have akG:wh T T':=⟨dY,.inr (.inr ⟨n,m,pd,XB,aC⟩)⟩
  have fp:jc gr {gr with tk:=gr.tk.set g T'}:=⟨fun b blk e=>e,fun j U e=>by
    by_cases hj:j=g
    · subst hj
      rw[lK]at e
      injection e with e
      subst e
      exact⟨T',Hm lK,akG⟩
    · exact⟨U,by show(gr.tk.set g T')[j]? =_;rw[s9,aq (fun e=>hj e.symm)];exact e,.refl U⟩,rfl,fun _ _ e=>e⟩
  have vw:jN (· =.tok d g) G w G' w':=hk
  have vn:bD d gr.nl G G':=⟨hI,fun d' q _ e=>by
    show∃bI,(G.ag.modify d _)[d']? =some bI∧_
    rw[dT]
    by_cases xj:d=d'
    · subst xj
      rw[hg]at e
      injection e with e
      subst e
      exact⟨_,by rw[ak rfl,hg];rfl,fp,fun _=>rfl⟩
    · exact⟨q,by rw[aq xj];exact e,.refl q,fun _=>rfl⟩,fun _ _ _ e=>e⟩
  have gl:=h.rel.bu (G':=G') (w':=w') hr hg (fun r=>{r with toks:=r.toks.set g (some m)}) (fun q=>{q with tk:=q.tk.set g T'}) (· =.tok d g) rfl rfl hI fp rfl vw
    (fun o ho=>.inr ⟨_,ho⟩) ?_ Ge hb Gr
  · obtain ⟨na, jT⟩ := gl
    have ajC:(s.mJ d g (some m)).ag.length=s.ag.length:=by simp[ae.mJ,ae.bu]
    have gJ:G'.ag[d]? =some {gr with tk:=gr.tk.set g T'}:=by
      show(G.ag.modify d _)[d]? =_
      rw[dT,ak rfl,hg];rfl
    refine⟨G',h.to na (jT _ _) ajC,jT _ _,by simp[ae.mJ,ae.bu],?_⟩
    have:=Rel.tok (G:=G') (k:=k) (nl:=nl) (d:=d) (g:=g) (es:=es) (xs:=xs) (a:=a) (cap:=cap) T' _ hd gJ (Hm lK) F9 hc
      (fun p hp=>by
        rw[XB]at hp
        injection hp with hp
        subst hp
        exact⟨by omega,fun _=>⟨ha,fI⟩⟩)
    rw[hlen]at this
    exact this
  · refine aI.tokens (toks' := r.toks.set g (some m)) (tk' := gr.tk.set g T') vn vw (by simp [aI.iZ]) (fun hm => ZW hm (.inr ⟨_, jB⟩)) (fun j p U e1 e2 => ?_)
    rcases Cw e1 with⟨aD,e1⟩|⟨rfl,rfl,_⟩
    · rcases Cw e2 with ⟨_, e2⟩ | ⟨hj, _⟩
      · exact .inl ⟨aD,e1,e2⟩
      · exact absurd hj aD
    · rcases Cw e2 with ⟨hj, _⟩ | ⟨_, rfl, _⟩
      · exact absurd rfl hj
      · exact .inr ⟨rfl,gK⟩
theorem ac3 (h:At P B0 w0 G k nl s w) {d g n es:Nat} {xs ys:List (List AV)} {fx fy:Nat→Value} {r:Rec} {gr:cN} {T:lu} (hd:d≤k) (hr:s.ag[d]? =some r) (hg:G.ag[d]? =some gr)
  (jB:r.toks[g]? =some (some xs.length)) (lK:gr.tk[g]? =some T) (BK:T.es=es) (dY:0<es) (hn:n=xs.length+ys.length) (lP:0<ys.length) (lO:n≤T.cap)
  (lx:∀r,r∈xs→r.length=es) (ly:∀r,r∈ys→r.length=es) (cx:∀r,r∈xs→∀c,c∈r→c.bA=true) (cy:∀r,r∈ys→∀c,c∈r→c.bA=true)
  (xJ:∀c,c<xs.length*es→G.I T.blk c=some (fx c))
  (hx:∀i (hi:i<xs.length) j (hj:j<xs[i].length),bL G.I (xs[i][j]) (fx (i*es+j))) (hy:∀i (hi:i<ys.length) j (hj:j<ys[i].length),bL G.I (ys[i][j]) (fy (i*es+j))):
  dr P B0 w0 G k nl s (s.mJ d g (some n)) (w.setCells T.blk (xs.length*es) ((List.range (ys.length*es)).map fy)) (.slice (.tok d g) es (xs++ys)) (.slice (some ⟨T.blk,0,none⟩) n T.cap):=by
 have aI:=h.rel.cT d r gr hr hg
 have hTR:=aI.tok g (some xs.length) T jB lK
 obtain⟨pd,sb⟩:=hTR
 obtain⟨t1,t2,t3,t4,t5,arr,ty,t6,t7⟩:=sb _ rfl
 rw[BK]at t3 t7
 have B6:n*es=xs.length*es+ys.length*es:=by rw[hn,gH]
 let I':gn:=fun b i=>if b=T.blk∧xs.length*es≤i∧i<n*es then some (fy (i-xs.length*es))else G.I b i
 have hI:∀b i v,G.I b i=some v→I' b i=some v:=fun b i v e=>by
  simp only[I']
  split
  ·rename_i hc
   obtain⟨rfl,h1,_⟩:=hc
   rw[t3 i h1]at e
   cases e
  ·exact e
 have zd:Below B0 w (w.setCells T.blk (xs.length*es) ((List.range (ys.length*es)).map fy)):=DU t1 _ _ _
 have ajS:=F7 ((List.range (ys.length*es)).map fy) (xs.length*es) arr w t6
 have Gs:∀b,b≠T.blk→(w.setCells T.blk (xs.length*es) ((List.range (ys.length*es)).map fy)).heap[b]? =w.heap[b]? :=fun b hb=>F8 hb _ _ _
 have avS:n*es≤arr.size:=by rw[t7];exact oQ _ lO
 have bh:=World.cell?_setCells_in T.blk ((List.range (ys.length*es)).map fy) (xs.length*es) w (fun j hj=>by
  rw[cell_of_heap t6]
  have dO:j<ys.length*es:=by simpa using hj
  simp;omega)
 refine abR h (T:=T) (T':={T with n:=some n}) (I':=I') (own':=G.own) hd hr hg jB lK rfl (by omega) rfl hI (fun b o ho aD=>?_) ?_ (fun b i v e=>?_) zd (fun b o ho=>?_) BK (by simp[hn]) ?_ rfl rfl
 ·have hb:b≠T.blk:=by
   rintro rfl
   rw[t2]at ho
   injection ho with ho
   exact aD ho.symm
  refine⟨ho,Gs b hb,fun i e=>?_⟩
  simp only[I']
  rw[aq (fun hc=>hb hc.1)]
  exact e
 ·refine⟨rfl,fun p hp=>?_⟩
  injection hp with hp
  subst hp
  refine⟨t1,t2,fun i hi=>?_,lO,t5,_,ty,ajS,by rw[xV,t7,BK]⟩
  simp only[BK]at hi
  simp only[I']
  rw[aq (fun hc=>by omega)]
  exact t3 i (by omega)
 ·simp only[I']at e
  split at e
  ·rename_i hc
   obtain⟨rfl,h1,h2⟩:=hc
   injection e with e
   subst e
   have:=bh (i-xs.length*es) (by simp;omega)
   rw[show xs.length*es+(i-xs.length*es)=i by omega]at this
   rw[this]
   simp
  ·rename_i hc
   have hv:=h.rel.ft b i v e
   rw[World.cell?_setCells_out]
   ·exact hv
   ·intro hb _
    have hb:b=T.blk:=hb
    subst hb
    simp only[bR,pP]
    rcases Tt i (xs.length*es)with h1|h1
    ·exact .inl h1
    ·exact .inr (by
      have:¬i<n*es:=fun h2=>hc ⟨rfl,h1,h2⟩
      show xs.length*es+ys.length*es≤i
      omega)
 ·rw[Hp]
  exact h.rel.eU b o ho
 ·refine N9 (f:=fx) (g:=fy) lx ly cx cy (by omega) (fun c hc=>?_) (fun i hi j hj=>(hx i hi j hj).mono hI) (fun i hi j hj=>(hy i hi j hj).mono hI)
  rw[←hn]at hc
  simp only[I',both]
  by_cases aC:c<xs.length*es
  ·rw[aq (fun hh=>by omega),ak aC]
   exact xJ c aC
  ·rw[ak ⟨trivial,by omega,hc⟩,aq aC]
theorem ac2 (h:At P B0 w0 G k nl s w) {d g n es:Nat} {xs ys:List (List AV)} {f fy:Nat→Value} {r:Rec} {gr:cN} {T:lu} {newCap:Nat} {rest:List Value} {e:TypeId} (hd:d≤k) (hr:s.ag[d]? =some r) (hg:G.ag[d]? =some gr)
  (jB:r.toks[g]? =some (some xs.length)) (lK:gr.tk[g]? =some T) (BK:T.es=es) (dY:0<es) (hn:n=xs.length+ys.length) (lP:0<ys.length)
  (lx:∀r,r∈xs→r.length=es) (ly:∀r,r∈ys→r.length=es) (cx:∀r,r∈xs→∀c,c∈r→c.bA=true) (cy:∀r,r∈ys→∀c,c∈r→c.bA=true)
  (hx:∀i (hi:i<xs.length) j (hj:j<xs[i].length),bL G.I (xs[i][j]) (f (i*es+j))) (hy:∀i (hi:i<ys.length) j (hj:j<ys[i].length),bL G.I (ys[i][j]) (fy (i*es+j)))
  (fI:n≤newCap) (gA:rest.length=(newCap-n)*es):
  dr P B0 w0 G k nl s (s.mJ d g (some n)) (w.drew.alloc (.cells ((List.range (xs.length*es+ys.length*es)).map (both (xs.length*es) f fy)++rest).toArray e))
   (.slice (.tok d g) es (xs++ys)) (.slice (some ⟨w.heap.size,0,none⟩) n newCap):=by
 have aI:=h.rel.cT d r gr hr hg
 obtain⟨pd,sb⟩:=aI.tok g (some xs.length) T jB lK
 obtain⟨t1,t2,t3,t4,t5,_,_,t6,_⟩:=sb _ rfl
 have avO:T.blk<w.heap.size:=(uy.1 t6).1
 have B6:xs.length*es+ys.length*es=n*es:=by rw[hn,gH]
 generalize xh:((List.range (xs.length*es+ys.length*es)).map (both (xs.length*es) f fy)++rest).toArray=arr
 have sf:arr.size=newCap*es:=by
  rw[←xh]
  simp only[yg,cu,bR,pP,gA,B6]
  rw[←gH]
  congr 1
  omega
 have dZ:∀c,c<n*es→arr[c]? =some (both (xs.length*es) f fy c):=fun c hc=>by
  rw[←xh,B6]
  simp only[Tg]
  rw[dM (by simpa using hc)]
  simp[hc]
 have gK:(w.drew.alloc (.cells arr e)).heap[w.heap.size]? =some (.cells arr e):=World.alloc_heap_new w.drew _
 let I':gn:=G.qH w.heap.size (n*es) (both (xs.length*es) f fy)
 have hI:∀b i v,G.I b i=some v→I' b i=some v:=fun b i v e=>by
  have:=h.rel.s6 e
  simp only[I',aG.qH]
  rw[aq (by omega)]
  exact e
 refine abR h (T:=T) (T':=⟨some n,w.heap.size,newCap,es⟩) (I':=I') (own':=fun b=>if b=w.heap.size then some (.tok d g)else if b=T.blk then none else G.own b) hd hr hg jB lK rfl (by omega) BK.symm hI
  (fun b o ho aD=>?_) ?_ (fun b i v e=>?_) (((Below.refl _ _).drew).alloc h.rel.low _) (fun b o ho=>?_) rfl (by simp[hn]) ?_ rfl rfl
 ·have aC:=h.rel.eU b o ho
  have hb:b≠T.blk:=by
   rintro rfl
   rw[t2]at ho
   injection ho with ho
   exact aD ho.symm
  refine⟨by rw[aq (by omega),aq hb];exact ho,Below.heap_alloc w.drew _ _ aC,fun i e=>?_⟩
  simp only[I',aG.qH]
  rw[aq (by omega)]
  exact e
 ·refine⟨rfl,fun p hp=>?_⟩
  injection hp with hp
  subst hp
  refine⟨h.rel.low,by simp,fun i hi=>?_,fI,dY,arr,e,gK,sf⟩
  simp only[I',aG.qH]at hi⊢
  rw[ak trivial,aq (by omega)]
 ·simp only[I',aG.qH]at e
  split at e
  ·rename_i hb
   subst hb
   split at e
   ·rename_i hi
    injection e with e
    subst e
    rw[cell_of_heap gK]
    exact dZ i hi
   ·cases e
  ·rename_i hb
   have:=h.rel.ft b i v e
   rw[Fq (w:=w) (Below.heap_alloc w.drew _ _ (h.rel.s6 e)) rfl]
   exact this
 ·split at ho
  ·rename_i hb;subst hb;simp
  ·split at ho
   ·cases ho
   ·have:=h.rel.eU b o ho;simp;omega
 ·refine N9 (f:=f) (g:=fy) lx ly cx cy (by omega) (fun c hc=>?_) (fun i hi j hj=>(hx i hi j hj).mono hI) (fun i hi j hj=>(hy i hi j hj).mono hI)
  simp only[I',aG.qH]
  rw[ak trivial,ak (by rw[hn];exact hc)]
theorem wu {a:Addr} (h:a.spot=none):a=⟨a.block,a.off,none⟩:=by
 cases a
 cases h
 rfl
theorem ac4 (h:At P B0 w0 G k nl s w) {t u e ty:TypeId} {es fY:Nat} {z:Value} (hT:uA P t e es fY z) (hu:∃e',P.underlying u=some (.slice e')) {a b v:AV} {x y:Value} {s':ae}
  (hx:Rel G k nl a x) (hy:Rel G k nl b y) (ha:eI s es a b=some (v,s')):
  ∃ x' w', (Builtin.append_ #[t, u] ty #[x, y]).run P w = .ok x' w' ∧ dr P B0 w0 G k nl s s' w' v x' := by
 unfold eI at ha
 split at ha
 case h_2=>cases ha
 rename_i o e1 xs oy e2 ys
 split at ha
 ·rename_i kZ
  have kZ:ys=[]:=by simpa using kZ
  subst kZ
  injection ha with ha
  injection ha with h1 h2
  subst h1 h2
  have mr:dr P B0 w0 G k nl s s w (.slice o e1 xs) x:=⟨G,h,bD.refl _ _ _,rfl,hx⟩
  have oK:∃bb c,y=.slice bb 0 c:=by
   rcases hy.iT with⟨_,_,rfl⟩|⟨_,aa,c,rfl,_⟩
   ·exact⟨_,_,rfl⟩
   ·exact⟨_,_,rfl⟩
  obtain⟨bb,c,rfl⟩:=oK
  rcases hx.iT with⟨_,_,rfl⟩|⟨_,aa,cap,rfl,_,hle,_⟩
  ·exact⟨_,w,wy hT hu none bb c (aH _),mr⟩
  ·exact⟨_,w,wy hT hu (some aa) bb c hle,mr⟩
 ·rename_i kZ
  split at ha
  case isFalse=>cases ha
  rename_i br
  obtain⟨rfl,nJ,oH⟩:=br
  have lP:0<ys.length:=by
   cases ys with
   |nil=>simp at kZ
   |cons=>simp
  rcases hy.iT with⟨_,hn,_⟩|⟨_,ay,cy,rfl,_,_,oK,_⟩
  ·rw[hn]at lP;simp at lP
  obtain⟨vE,BN,ly,oU,fy,vD,py⟩:=fV.flat oK hT.pos
  have vi:ay=⟨ay.block,ay.off,none⟩:=wu (vE (by omega))
  have jR:∀c,c<ys.length*e2→w.cell? (ay.add c)=some (fy c):=fun c hc=>by
   rw[vi,ig];exact h.rel.ft _ _ _ (vD c hc)
  cases o with
  |any=>cases ha
  | aA =>
   injection ha with ha
   injection ha with h1 h2
   subst h1 h2
   rcases hx.iT with⟨_,rfl,rfl⟩|⟨aD,_⟩
   ·obtain⟨newCap,rest,fI,gA,dk⟩:=wx (P:=P) (w:=w) (ty:=ty) (n:=0) (m:=ys.length) (cap:=0) (c:=cy) (base:=none) (a:=ay) (f:=fun _=>Go.undef) (g:=fy) hT hu (by omega)
     (yC hT (by omega) (by simpa using oH)) (fun _ e=>by cases e) (fun _=>rfl) jR
    refine⟨_,_,dk,?_⟩
    have:=TT h (xs:=[]) (ys:=ys) (f:=fun _=>Go.undef) (g:=fy) (n:=ys.length) (newCap:=newCap) (rest:=rest) (e:=e) hT.pos (by simp) (by simp) ly (by simp) oU (by simp) py (by omega) (by simpa using gA)
    rw[h.gU]
    simpa using this
   ·exact absurd rfl aD
  | full =>
   injection ha with ha
   injection ha with h1 h2
   subst h1 h2
   rcases hx.iT with⟨aD,_⟩|⟨_,ax,cx,rfl,_,_,my,xl⟩
   ·cases aD
   have lG:=xl rfl
   subst lG
   have:e1=e2:=by
    rcases nJ with h|h
    ·cases h
    ·exact h
   subst this
   obtain⟨QM,_,lx,wS,fx,xJ,xK⟩:=fV.flat my hT.pos
   have Pm:∀c,c<xs.length*e1→ax=⟨ax.block,ax.off,none⟩:=fun c hc=>wu (QM (by
    rcases yi xs.length with h0|h0
    ·rw[h0]at hc;simp at hc
    ·exact h0))
   obtain⟨newCap,rest,fI,gA,dk⟩:=wx (P:=P) (w:=w) (ty:=ty) (n:=xs.length) (m:=ys.length) (cap:=xs.length) (c:=cy) (base:=some ax) (a:=ay) (f:=fx) (g:=fy) hT hu (by omega)
    (yC hT (by omega) oH) (fun b e c hc=>by injection e with e;subst e;rw[Pm c hc,ig];exact h.rel.ft _ _ _ (xJ c hc)) (fun e=>by cases e) jR
   refine⟨_,_,dk,?_⟩
   rw[h.gU]
   exact TT h hT.pos rfl lx ly wS oU xK py fI gA
  | tok d g =>
   simp only at ha
   split at ha
   case isFalse=>cases ha
   rename_i zC
   injection ha with ha
   injection ha with h1 h2
   subst h1 h2
   have:e1=e2:=by
    rcases nJ with h|h
    ·cases h
    ·exact h
   subst this
   cases hx with
   |cl hx=>cases hx with
    |slice f ho=>rcases ho with h|⟨h,_⟩<;>cases h
    |empty ho=>rcases ho with h|h<;>cases h
   |tok T gr hd hg ht dY my hn=>
   rename_i ax cx
   obtain⟨r,bI,hr,bB⟩:=h.cT hd
   rw[hg]at bB
   injection bB with bB
   subst bB
   have aI:=h.rel.cT d r gr hr hg
   have jB:r.toks[g]? =some (some xs.length):=by
    have:=zC.2
    simp only[ae.tok,hr,et]at this
    cases hq:r.toks[g]? with
    |none=>rw[hq]at this;cases this
    |some q=>rw[hq]at this;simp only[Option.join_some]at this;rw[this]
   obtain⟨pd,sb⟩:=aI.tok g (some xs.length) T jB ht
   obtain⟨hle,heq⟩:=hn _ pd
   obtain⟨rfl,rfl⟩:=heq rfl
   obtain⟨_,_,lx,wS,fx,xJ,xK⟩:=fV.flat my hT.pos
   obtain⟨_,_,_,_,_,arr,tb,t6,t7⟩:=sb _ rfl
   by_cases lO:xs.length+ys.length≤T.cap
   ·refine⟨_,_,MI (P:=P) (ty:=ty) (n:=xs.length) (m:=ys.length) (c:=cy) (a:=ay) (g:=fy) hT hu lO jR t6 (by rw[t7,dY];exact oQ _ lO) (fun c hc=>?_),?_⟩
    ·have h1:c/e1<ys.length:=by rw[Tq hT.pos];exact hc
     have h2:c%e1<(ys[c/e1]).length:=by rw[ly _ (gG h1)];exact uK _ hT.pos
     have hr:=py _ h1 _ h2
     rw[yh]at hr
     exact Ld (G:=G) (k:=k) (nl:=nl) (.cl hr) (oU _ (gG h1) _ (gG h2))
    ·exact ac3 h hd hr hg jB ht dY hT.pos rfl lP lO lx ly wS oU (fun c hc=>by have:=xJ c hc;simpa using this) xK py
   ·obtain⟨newCap,rest,fI,gA,dk⟩:=wx (P:=P) (w:=w) (ty:=ty) (n:=xs.length) (m:=ys.length) (cap:=T.cap) (c:=cy) (base:=some ⟨T.blk,0,none⟩) (a:=ay) (f:=fx) (g:=fy) hT hu lO
     (yC hT (by omega) oH) (fun b e c hc=>by injection e with e;subst e;rw[ig];exact h.rel.ft _ _ _ (xJ c hc)) (fun e=>by cases e) jR
    refine⟨_,_,dk,?_⟩
    exact ac2 h hd hr hg jB ht dY hT.pos rfl lP lx ly wS oU xK py fI gA
end
end Go.Ax
/-
  append to a slice whose elements may be written to: a box that takes another's place.
-/
namespace Go.Ax
open Go.RowKit
section
variable{P:Program} {B0:Nat} {w0:World} {G:aG} {k nl:Nat} {w:World} {s:ae}
theorem At.drew (h:At P B0 w0 G k nl s w):At P B0 w0 G k nl s w.drew:=⟨h.rel.drew,h.len,h.cur⟩
theorem yZ {α:Type} {es:Nat} (h0:0<es):∀{ys:List (List α)},(∀r,r∈ys→r.length=es)→ys.flatten.length=ys.length*es∧∀c (hc:c<ys.flatten.length),∃(h1:c/es<ys.length) (h2:c%es<(ys[c/es]).length),ys.flatten[c]=ys[c/es][c%es]
 |[],_=>⟨by simp,fun c hc=>by simp at hc⟩
 | r :: ys, h => by
  have hr:=h r (by simp)
  obtain⟨e1,e2⟩:=yZ h0 (ys:=ys) fun q hq=>h q (iI _ hq)
  refine⟨by rw[s8,cu,e1,hr,eo,gH];omega,fun c hc=>?_⟩
  by_cases aC:c<es
  ·have d1:c/es=0:=Mk aC
   have d2:c%es=c:=HX aC
   refine⟨by rw[d1];simp,by simp only[d1,d2,yd];omega,?_⟩
   simp only[d1,d2,yd,s8]
   rw[uF (by omega)]
  ·have nK:es≤c:=by omega
   have d1:c/es=(c-es)/es+1:=by rw[Nat.div_eq_sub_div h0 nK]
   have d2:c%es=(c-es)%es:=by rw[Nat.mod_eq_sub_mod nK]
   have pg:c-es<ys.flatten.length:=by
    rw[s8,cu,hr]at hc
    omega
   obtain⟨g1,g2,g3⟩:=e2 (c-es) pg
   refine⟨by rw[d1];simp;exact g1,by simp only[d1,d2,HJ];exact g2,?_⟩
   simp only[d1,d2,HJ,s8]
   rw[uG (by omega)]
   simp only[hr]
   exact g3
theorem RZ (h:At P B0 w0 G k nl s w) {d b es n rc:Nat} {cs ds:List AV} {r:Rec} {gr:cN} {blk fW:Nat} {arr':Array Value} {CD:TypeId} {w':World} (hd:d≤k) (hr:s.ag[d]? =some r) (hg:G.ag[d]? =some gr)
  (hb:r.boxes[b]? =some cs) (cG:gr.bl[b]? =some (some blk)) (dy:cs≠[]) (aD:ds≠[]) (bz:∀c,c∈ds→c.bA=true) (hR:kQ (Rel G d gr.nl) ds arr') (hw:w'.heap[fW]? =some (.cells arr' CD))
  (hold:∀c,c<w.heap.size→c≠fW→w'.heap[c]? =w.heap[c]?) (gK:fW=blk∨fW=w.heap.size) (zd:Below B0 w w') (bV:w.heap.size≤w'.heap.size) (Qx:arr'.size=rc*es) (hn:n≤rc):
  dr P B0 w0 G k nl s (s.sQ d b ds) w' (.aO d (s.bQ d) 0 es n 0) (.slice (some ⟨fW,0,none⟩) n rc):=by
 have aI:=h.rel.cT d r gr hr hg
 have dw:=aI.box b cs blk hb cG
 obtain⟨b1,⟨x0,b2,MO⟩,b3,Ih,LN,b4,_⟩:=dw
 have pw:=MO dy
 have b3:=b3 dy
 subst pw
 have avT:=h.rel.eU _ _ b2
 have PY:fW<w'.heap.size:=by
  rcases gK with e|e
  ·omega
  ·rw[e]
   apply n6
   intro hc
   rw[e]at hw
   have:=(uy.1 hw).1
   omega
 have BJ:∀i,G.I fW i=none:=by
  rcases gK with e|e
  ·rw[e];exact b3
  ·rw[e];exact h.rel.uC
 have hB:B0≤fW:=by
  rcases gK with e|e
  ·rw[e];exact b1
  ·rw[e];exact h.rel.low
 have Kf:x0<r.boxes.length:=(bd.1 hb).1
 let T:lu:=⟨none,0,0,0⟩
 let gf:cN→cN:=fun q=>{q with bl:=q.bl++[some fW],tk:=q.tk++[T],gs:=fun j=>if j=r.boxes.length then some (rc*es)else q.gs j}
 let G':aG:={G with ag:=G.ag.modify d gf,own:=fun c=>if c=fW then some (.box d r.boxes.length)else G.own c}
 have hk:jN (· =.box d x0) G w G' w':=fun c o e aD=>by
  have aC:=h.rel.eU c o e
  have hc:c≠fW:=by
   rintro rfl
   rcases gK with e'|e'
   ·rw[e',b2]at e;injection e with e;exact aD e.symm
   ·omega
  exact⟨by simp only[G'];rw[aq hc];exact e,hold c aC hc,fun _ e=>e⟩
 have fp:jc gr (gf gr):=⟨fun j q e=>mQ e,fun g U e=>⟨U,mQ e,.refl U⟩,rfl,fun j m e=>by
  obtain⟨q,hq⟩:=aI.mR j m e
  have:=(bd.1 hq).1
  rw[aI.eu]at this
  simp only[gf]
  rw[aq (by omega)];exact e⟩
 have hle:bD d gr.nl G G':=⟨fun _ _ _ e=>e,fun d' q _ e=>by
  simp only[G',dT]
  by_cases hd:d=d'
  ·subst hd
   rw[hg]at e
   injection e with e
   subst e
   exact⟨_,by rw[ak rfl,hg];rfl,fp,fun _=>rfl⟩
  ·exact⟨q,by rw[aq hd];exact e,.refl q,fun _=>rfl⟩,fun _ _ _ e=>e⟩
 have gl:=h.rel.bu (G':=G') (w':=w') hr hg (fun r=>{r with boxes:=r.boxes.set x0 []++[ds],toks:=r.toks++[none]}) gf (· =.box d x0) rfl rfl (fun _ _ _ e=>e) fp rfl hk
  (fun o ho=>.inl ⟨_,ho⟩) ?_ (fun c i v e=>?_) zd (fun c o e=>?_)
 ·obtain⟨hs,jT⟩:=gl
  have na:cE P B0 w0 G' (s.sQ d x0 ds) w':=hs
  have hlen:(s.sQ d x0 ds).ag.length=s.ag.length:=by simp[ae.sQ,ae.bu]
  have jh:=h.to na (jT k nl) hlen
  have oI:s.bQ d=r.boxes.length:=by simp[ae.bQ,hr]
  have gJ:G'.ag[d]? =some (gf gr):=by
   show(G.ag.modify d _)[d]? =_
   rw[dT,ak rfl,hg];rfl
  have zi:(gf gr).bl[r.boxes.length]? =some (some fW):=by
   show(gr.bl++[some fW])[r.boxes.length]? =_
   rw[←aI.eu,gO (aH _)]
   simp
  refine⟨G',jh,jT _ _,by simp[ae.sQ,ae.bu],?_⟩
  rw[oI]
  exact .aO _ hd gJ zi hn (bp _) (fun _ _=>by simp only[gf];rw[ak trivial]) (fun _=>rfl)
 ·have sD:∀(j:Nat) (q:List AV),(r.boxes.set x0 []++[ds])[j]? =some q→(j=r.boxes.length∧q=ds)∨(j=x0∧q=[])∨(j≠x0∧j<r.boxes.length∧r.boxes[j]? =some q):=fun j q e=>by
   rcases eC e with⟨hj,e⟩|⟨hj,e⟩
   ·rw[Ao]at hj
    rw[s9]at e
    by_cases vv:x0=j
    ·subst vv
     rw[ak rfl,ak hj]at e
     injection e with e
     exact .inr (.inl ⟨rfl,e.symm⟩)
    ·rw[aq vv]at e
     exact .inr (.inr ⟨fun e=>vv e.symm,hj,e⟩)
   ·rw[Ao]at hj
    exact .inl ⟨hj,e⟩
  have XL:∀(j q:Nat),j<r.boxes.length→(gf gr).bl[j]? =some (some q)→gr.bl[j]? =some (some q):=fun j q hj e=>by
   rcases eC e with⟨_,e⟩|⟨dO,_⟩
   ·exact e
   ·rw[aI.eu]at dO;omega
  have dead:∀(j q:Nat),gr.bl[j]? =some (some q)→j<r.boxes.length→pN B0 G' d gr.nl j ((gf gr).gs j) [] q w':=fun j q e hj=>by
   obtain⟨q1,⟨x,q2,q2'⟩,q3,C5,LO,q4,_⟩:=aI.box j _ q (cY hj) e
   by_cases zu:q=fW
   ·subst zu
    exact⟨q1,⟨r.boxes.length,by simp[G'],fun hn=>absurd rfl hn⟩,fun hn=>absurd rfl hn,arr',CD,hw,bp _,fun hn=>absurd rfl hn,fun i hi=>absurd hi (df _)⟩
   ·exact⟨q1,⟨x,by simp only[G'];rw[aq zu];exact q2,fun hn=>absurd rfl hn⟩,fun hn=>absurd rfl hn,C5,LO,(hold q (h.rel.eU _ _ q2) zu).trans q4,bp _,fun hn=>absurd rfl hn,fun i hi=>absurd hi (df _)⟩
  refine⟨by simp[gf,aI.eu],by simp[gf,aI.iZ],fun j q A1 e1 e2=>?_,fun j q e1 e2=>by simp,fun g m U e1 e2=>?_,fun i c e1=>?_,fun j m e1=>?_⟩
  ·rcases sD j q e1 with⟨rfl,rfl⟩|⟨rfl,rfl⟩|⟨vv,hj,e1⟩
   ·have xi:A1=fW:=by
     rcases eC e2 with⟨dO,_⟩|⟨_,e⟩
     ·rw[aI.eu]at dO;omega
     ·injection e
    subst xi
    refine⟨hB,⟨_,by simp[G'],fun _=>rfl⟩,fun _=>BJ,arr',CD,hw,hR.1,fun _ m hm=>?_,fun i hi=>⟨bz _ (gG hi),?_⟩⟩
    ·simp only[gf]at hm
     rw[ak trivial]at hm
     injection hm with hm
     rw[Qx,hm]
    ·exact(hR.2 i hi).mono hle (aH _) (aH _)
   ·exact dead _ _ (XL _ _ Kf e2) Kf
   ·have jf:=XL _ _ hj e2
    by_cases Gw:q=[]
    ·subst Gw;exact dead _ _ jf hj
    ·have BS:=aI.box j q A1 e1 jf
     obtain⟨x,y1,y2⟩:=BS.2.1
     obtain⟨k1,k2,k3⟩:=hk _ _ y1 (fun e=>by injection e with _ e;rw[y2 Gw]at e;exact vv e)
     have:=BS.cU (G':=G') (w':=w') hle (fun z e=>by rw[y1]at e;injection e with e;rw[←e];exact k1) k2 k3
     show pN B0 G' d gr.nl j (if j=r.boxes.length then some (rc*es)else gr.gs j) q A1 w'
     rw[aq (by omega)];exact this
  ·rcases eC e1 with⟨aC,e1⟩|⟨lJ,rfl⟩
   ·have jf:gr.tk[g]? =some U:=by
     rcases eC e2 with⟨_,e2⟩|⟨fk,_⟩
     ·exact e2
     ·rw[aI.iZ]at fk;omega
    have ht:=aI.tok g m U e1 jf
    have hs:∀(hn:m.isSome=true),G'.own U.blk=some (.tok d g)∧w'.heap[U.blk]? =w.heap[U.blk]? ∧∀i,G.I U.blk i=none→G'.I U.blk i=none:=fun hn=>by
     obtain⟨q,hq⟩:=oj.1 hn
     exact hk _ _ (ht.2 q hq).2.1 (fun e=>by cases e)
    exact ht.cU (fun hn=>(hs hn).1) (fun hn=>(hs hn).2.1) (fun hn=>(hs hn).2.2)
   ·have:U=T:=by
     rcases eC e2 with⟨fk,_⟩|⟨_,e⟩
     ·rw[aI.iZ]at fk;omega
     ·exact e
    subst this
    exact⟨rfl,fun q hq=>by cases hq⟩
  ·have hm:=aI.mark i c e1
   obtain⟨k1,k2,_⟩:=hk _ _ hm.2.1 (fun e=>by cases e)
   exact hm.cU k1 k2
  ·simp only[gf]at e1
   split at e1
   ·rename_i hj
    subst hj
    refine⟨fW,?_⟩
    show(gr.bl++[some fW])[r.boxes.length]? =_
    rw[←aI.eu,gO (aH _)]
    simp
   ·obtain⟨q,hq⟩:=aI.mR j m e1
    exact⟨q,mQ hq⟩
 ·have hc:c≠fW:=by
   rintro rfl
   have:G.I c i=some v:=e
   rw[BJ]at this;cases this
  rw[Fq (hold c (h.rel.s6 e) hc) rfl]
  exact h.rel.ft c i v e
 ·simp only[G']at e
  split at e
  ·rename_i hb;subst hb;exact PY
  ·have:=h.rel.eU c o e;omega
theorem aaZ (h:At P B0 w0 G k nl s w) {b es n rc:Nat} {cs ds:List AV} {r:Rec} {gr:cN} {blk fW:Nat} {arr':Array Value} {CD:TypeId} {w':World} (hr:s.ag[k]? =some r) (hg:G.ag[k]? =some gr)
  (hb:r.boxes[b]? =some cs) (cG:gr.bl[b]? =some (some blk)) (dy:cs≠[]) (aD:ds≠[]) (bz:∀c,c∈ds→c.bA=true) (hR:kQ (Rel G k nl) ds arr') (hw:w'.heap[fW]? =some (.cells arr' CD))
  (hold:∀c,c<w.heap.size→c≠fW→w'.heap[c]? =w.heap[c]?) (gK:fW=blk∨fW=w.heap.size) (zd:Below B0 w w') (bV:w.heap.size≤w'.heap.size) (Qx:arr'.size=rc*es) (hn:n≤rc):
  dr P B0 w0 G k nl s (s.Lt b ds) w' (.aO s.cur (s.bQ s.cur) 0 es n 0) (.slice (some ⟨fW,0,none⟩) n rc):=by
 have lM:gr.nl=nl:=by obtain⟨g',e1,e2⟩:=h.cur;rw[hg]at e1;injection e1 with e1;rw[e1];exact e2
 have e:s.Lt b ds=s.sQ k b ds:=by simp only[ae.Lt,ae.sQ,h.gU]
 rw[e,h.gU]
 exact RZ h (aH k) hr hg hb cG dy aD bz (by rw[lM];exact hR) hw hold gK zd bV Qx hn
theorem LC:∀(vs:List Value) (arr:Array Value) (o i:Nat),o+vs.length≤arr.size→(jq arr o vs).getD i Go.undef=if o≤i∧i<o+vs.length then vs.getD (i-o) Go.undef else arr.getD i Go.undef
 |[],arr,o,i,_=>by
  rw[aq (by simp only[ja];omega)];rfl
 | v :: r, arr, o, i, h => by
  have hl:(v::r).length=r.length+1:=rfl
  rw[hl]at h⊢
  simp only[jq]
  rw[LC r (arr.setIfInBounds o v) (o+1) i (by simp;omega)]
  by_cases h1:i=o
  ·subst h1
   rw[aq (by omega),ak (by omega)]
   have:i<arr.size:=by omega
   simp[Array.getD,this]
  ·by_cases h2:o+1≤i∧i<o+1+r.length
   ·rw[ak h2,ak (by omega)]
    obtain⟨j,hj⟩:∃j,i-o=j+1:=⟨i-o-1,by omega⟩
    rw[hj,show i-(o+1)=j by omega];rfl
   ·rw[aq h2,aq (by omega)]
    by_cases h3:i<arr.size
    ·have h4:¬o=i:=fun e=>h1 e.symm
     simp[Array.getD,h3,h4]
    ·simp[Array.getD,h3]
theorem Hj {cs ds:List AV} {f g:Nat→Value} {rest:List Value} {n m:Nat} {R:AV→Value→Prop} (hn:cs.length=n) (hm:ds.length=m) (hc:∀i (hi:i<cs.length),R cs[i] (f i)) (hd:∀i (hi:i<ds.length),R ds[i] (g i)):
  kQ R (cs++ds) ((List.range (n+m)).map (both n f g)++rest).toArray:=by
 refine⟨by simp;omega,fun i hi=>?_⟩
 rw[cu]at hi
 have dZ:((List.range (n+m)).map (both n f g)++rest).toArray.getD i Go.undef=both n f g i:=by
  have h1:i<n+m:=by omega
  have h2:i<n+m+rest.length:=by omega
  simp only[Array.getD,yg,cu,bR,pP,h2,dite_true]
  simp[List.getElem_append,h1]
 rw[dZ]
 unfold both
 by_cases hl:i<cs.length
 ·rw[uF hl,ak (by omega)];exact hc i hl
 ·rw[uG (by omega),aq (by omega)]
  subst hn
  exact hd (i-cs.length) (by omega)
theorem TU (h : At P B0 w0 G k nl s w) {t u e ty : TypeId} {es fY : Nat} {z : Value} (hT : uA P t e es fY z) (hu : ∃ e', P.underlying u = some (.slice e')) {a b v : AV} {x y : Value} {s' : ae}
    (hx:Rel G k nl a x) (hy:Rel G k nl b y) (ha:wB s es a b=some (v,s')):
    ∃ x' w', (Builtin.append_ #[t, u] ty #[x, y]).run P w = .ok x' w' ∧ dr P B0 w0 G k nl s s' w' v x' := by
  unfold wB at ha
  split at ha
  case h_2=>cases ha
  rename_i oy e2 ys
  split at ha
  · rename_i kZ
    have kZ:ys=[]:=by simpa using kZ
    subst kZ
    have oK:∃bb c,y=.slice bb 0 c:=by
      rcases hy.iT with⟨_,_,rfl⟩|⟨_,aa,c,rfl,_⟩
      · exact⟨_,_,rfl⟩
      · exact⟨_,_,rfl⟩
    obtain⟨bb,c,rfl⟩:=oK
    split at ha
    · rename_i o e1 xs
      injection ha with ha
      injection ha with h1 h2
      subst h1 h2
      have mr:dr P B0 w0 G k nl s s w (.slice o e1 xs) x:=⟨G,h,bD.refl _ _ _,rfl,hx⟩
      rcases hx.iT with⟨_,_,rfl⟩|⟨_,aa,cap,rfl,_,hle,_⟩
      · exact⟨_,w,wy hT hu none bb c (aH _),mr⟩
      · exact⟨_,w,wy hT hu (some aa) bb c hle,mr⟩
    · rename_i d b off e1 n cap
      injection ha with ha
      injection ha with h1 h2
      subst h1 h2
      have mr:dr P B0 w0 G k nl s s w (.aO d b off e1 n cap) x:=⟨G,h,bD.refl _ _ _,rfl,hx⟩
      obtain⟨blk,gr,rc,o0,rfl,_,_,_,hn,_⟩:=hx.mz
      exact⟨_,w,wy hT hu (some _) bb c hn,mr⟩
    · cases ha
  · rename_i kZ
    split at ha
    case isFalse=>cases ha
    rename_i kV
    subst kV
    have lP:0<ys.length:=by
      cases ys with
      |nil=>simp at kZ
      |cons=>simp
    rcases hy.iT with⟨_,hn,_⟩|⟨_,ay,cy,rfl,_,_,oK,_⟩
    · rw[hn]at lP;simp at lP
    obtain⟨vE,BN,ly,oU,fy,vD,py⟩:=fV.flat oK hT.pos
    have vi:ay=⟨ay.block,ay.off,none⟩:=wu (vE (by omega))
    have jR:∀c,c<ys.length*e2→w.cell? (ay.add c)=some (fy c):=fun c hc=>by
      rw[vi,ig];exact h.rel.ft _ _ _ (vD c hc)
    obtain⟨qR,yX⟩:=yZ hT.pos ly
    have GK:∀c (hc:c<ys.flatten.length),bL G.I ys.flatten[c] (fy c):=fun c hc=>by
      obtain⟨g1,g2,g3⟩:=yX c hc
      rw[g3]
      have:=py _ g1 _ g2
      rw[yh]at this
      exact this
    have YV:∀c,c∈ys.flatten→c.bA=true:=fun c hc=>by
      obtain⟨r,hr,iu⟩:=uI.1 hc
      exact oU r hr c iu
    have KM:ys.flatten≠[]:=fun e=>by
      have:=gS List.length e
      rw[qR]at this
      have h2:=HY lP hT.pos
      simp only[ja]at this
      omega
    split at ha
    · rename_i o e1 xs
      split at ha
      case isFalse=>cases ha
      rename_i br
      obtain⟨br,oH⟩:=br
      injection ha with ha
      injection ha with h1 h2
      subst h1 h2
      have fin:∀(base:Option Addr) (cx:Nat) (f:Nat→Value),cx=xs.length→(∀r,r∈xs→r.length=e2)→(∀r,r∈xs→∀c,c∈r→c.bA=true)→(∀i (hi:i<xs.length) j (hj:j<xs[i].length),bL G.I (xs[i][j]) (f (i*e2+j)))→
          (∀b,base=some b→∀c,c<xs.length*e2→w.cell? (b.add c)=some (f c))→(base=none→xs.length=0)→
          ∃ x' w', (Builtin.append_ #[t, u] ty #[.slice base xs.length cx, .slice (some ay) ys.length cy]).run P w = .ok x' w' ∧ dr P B0 w0 G k nl s (s.dK (xs.flatten ++ ys.flatten)).2 w' (.aO s.cur (s.bQ s.cur) 0 e2 (xs.length + ys.length) 0) x' := by
        intro base cx f lG lx wS xK hf ke
        subst lG
        obtain⟨newCap,rest,fI,gA,dk⟩:=wx (P:=P) (w:=w) (ty:=ty) (n:=xs.length) (m:=ys.length) (cap:=xs.length) (c:=cy) (base:=base) (a:=ay) (f:=f) (g:=fy) hT hu (by omega) (yC hT (by omega) oH) hf ke jR
        refine⟨_,_,dk,?_⟩
        obtain⟨gl1,gl2⟩:=yZ hT.pos lx
        have akO:∀c (hc:c<xs.flatten.length),bL G.I xs.flatten[c] (f c):=fun c hc=>by
          obtain⟨g1,g2,g3⟩:=gl2 c hc
          rw[g3]
          have:=xK _ g1 _ g2
          rw[yh]at this
          exact this
        have cm:=Hj (R:=Rel G k nl) (cs:=xs.flatten) (ds:=ys.flatten) (f:=f) (g:=fy) (rest:=rest) gl1 qR (fun i hi=>.cl (akO i hi)) (fun i hi=>.cl (GK i hi))
        have bV:((List.range (xs.length*e2+ys.length*e2)).map (both (xs.length*e2) f fy)++rest).toArray.size=newCap*e2:=by
          simp only[yg,cu,bR,pP,gA]
          rw[←gH,←gH]
          congr 1;omega
        exact(zT h.drew e (some (newCap*e2)) (fun n hn=>by injection hn with hn;rw[bV,hn]) (fun e=>KM (L4.1 e).2) (fun c hc=>by
          rcases dC.1 hc with hc|hc
          · obtain ⟨r, hr, iu⟩ := uI.1 hc
            exact wS r hr c iu
          · exact YV c hc) cm).2.2 e2 (xs.length+ys.length) 0 newCap fI (bp _) (fun _ _=>rfl)
      rcases hx.iT with⟨_,rfl,rfl⟩|⟨xA,ax,cx,rfl,_,_,my,xl⟩
      · exact fin none 0 (fun _=>Go.undef) rfl (by simp) (by simp) (fun i hi=>absurd hi (df _)) (fun _ e=>by cases e) (fun _=>rfl)
      · rcases br with hc | ⟨hc, he⟩
        · cases o <;> simp [Own.isNil] at hc
          exact absurd rfl xA
        · subst he
          have ho:o=.full:=by cases o<;>simp[Own.isFull]at hc⊢
          have lG:=xl ho
          obtain⟨QM,_,lx,wS,fx,xJ,xK⟩:=fV.flat my hT.pos
          have Pm:∀c,c<xs.length*e1→ax=⟨ax.block,ax.off,none⟩:=fun c hc=>wu (QM (by
            rcases yi xs.length with h0|h0
            · rw[h0]at hc;simp at hc
            · omega))
          exact fin (some ax) cx fx lG lx wS xK (fun b e c hc=>by injection e with e;subst e;rw[Pm c hc,ig];exact h.rel.ft _ _ _ (xJ c hc)) (fun e=>by cases e)
    · rename_i d b off e1 n cap
      split at ha
      case isFalse=>cases ha
      rename_i br
      obtain⟨rfl,rfl,rfl,fJ,rfl,oH⟩:=br
      split at ha
      case h_2=>cases ha
      rename_i cs tL
      split at ha
      case isFalse=>cases ha
      rename_i aP
      injection ha with ha
      injection ha with h1 h2
      subst h1 h2
      rw[h.gU]at tL hx
      obtain⟨blk,gr,rc,o0,rfl,hd,hg,cG,Gq,_,hw,ho⟩:=hx.mz
      have ho:=ho (.inl fJ)
      subst ho
      have Gb:=hw rfl fJ
      obtain⟨r,hr,dw,Kg,arr,tb,nL,cm,Qq⟩:=h.box hd tL hg cG
      have dy:cs≠[]:=fun e=>by
        rw[e]at aP
        have:=HY fJ hT.pos
        simp only[ja]at aP
        omega
      obtain⟨_,_,Pc,C5,tb1,Ks,_,QA,_⟩:=Kg
      rw[nL]at Ks
      injection Ks with Ks
      injection Ks with q1 q2
      subst q1 q2
      have sf:=QA dy _ Gb
      have aD:cs++ys.flatten≠[]:=fun e=>KM (L4.1 e).2
      have FV:∀c,c∈cs++ys.flatten→c.bA=true:=fun c hc=>by
        rcases dC.1 hc with hc|hc
        · exact Qq c hc
        · exact YV c hc
      by_cases lO:n+ys.length≤rc
      · have hle : (n + ys.length) * e1 ≤ arr.size := by rw [sf]; exact oQ _ lO
        refine⟨_,_,MI (P:=P) (ty:=ty) (n:=n) (m:=ys.length) (c:=cy) (a:=ay) (g:=fy) hT hu lO jR nL hle (fun c hc=>?_),?_⟩
        · have h1 : c / e1 < ys.length := by rw [Tq hT.pos]; exact hc
          have h2:c%e1<(ys[c/e1]).length:=by rw[ly _ (gG h1)];exact uK _ hT.pos
          have hr:=py _ h1 _ h2
          rw[yh]at hr
          exact Ld (G:=G) (k:=k) (nl:=nl) (.cl hr) (oU _ (gG h1) _ (gG h2))
        · have hB := (h.rel.cT k r gr hr hg).box b cs blk dw cG
          refine aaZ h hr hg dw cG dy aD FV (arr':=jq arr (n*e1) ((List.range (ys.length*e1)).map fy)) ?_ (F7 _ _ _ _ nL) (fun c _ hc=>F8 hc _ _ _) (.inl rfl) (DU hB.1 _ _ _) (by rw[Hp];exact aH _) (by rw[xV];exact sf) lO
          rw[gH]at hle
          refine⟨by rw[xV,cu,aP,qR];exact hle,fun i hi=>?_⟩
          rw[cu,aP,qR]at hi
          rw[LC _ _ _ _ (by simpa using hle)]
          by_cases hl:i<cs.length
          · rw[uF hl,aq (by omega)];exact cm.2 i hl
          · rw [uG (by omega), ak (by simp; omega)]
            have su:i-n*e1<ys.length*e1:=by omega
            have:=GK (i-cs.length) (by rw[qR];omega)
            have xm:((List.range (ys.length*e1)).map fy).getD (i-n*e1) Go.undef=fy (i-cs.length):=by
              rw[aP]
              simp[List.getD,su]
            rw[xm]
            exact .cl this
      · obtain ⟨newCap, rest, fI, gA, dk⟩ := wx (P := P) (w := w) (ty := ty) (n := n) (m := ys.length) (cap := rc) (c := cy) (base := some ⟨blk, 0, none⟩) (a := ay) (f := fun c => arr.getD c Go.undef) (g := fy) hT hu lO
          (yC hT lO oH) (fun b e c hc => by
            injection e with e;subst e
            rw[ig,cell_of_heap nL,fN]
            have:c<arr.size:=by
              have:=cm.1
              rw[aP]at this;omega
            simp[Array.getD,this]) (fun e=>by cases e) jR
        refine⟨_,_,dk,?_⟩
        have Qr:=Hj (R:=Rel G k nl) (cs:=cs) (ds:=ys.flatten) (f:=fun c=>arr.getD c Go.undef) (g:=fy) (rest:=rest) aP qR cm.2 (fun i hi=>.cl (GK i hi))
        have bV:((List.range (n*e1+ys.length*e1)).map (both (n*e1) (fun c=>arr.getD c Go.undef) fy)++rest).toArray.size=newCap*e1:=by
          simp only[yg,cu,bR,pP,gA]
          rw[←gH,←gH]
          congr 1;omega
        exact aaZ h hr hg dw cG dy aD FV Qr (World.alloc_heap_new w.drew _) (fun c hc _=>Below.heap_alloc w.drew _ _ hc) (.inr rfl) (((Below.refl _ _).drew).alloc h.rel.low _) (by simp) bV fI
    · cases ha
theorem ac5 (h:At P B0 w0 G k nl s w) {t u e ty:TypeId} {es fY:Nat} {z:Value} (hT:uA P t e es fY z) (vj:fY≤8*es) (hu:∃e',P.underlying u=some (.slice e')) {a b v:AV} {x y:Value} {s':ae}
  (hx:Rel G k nl a x) (hy:Rel G k nl b y) (ha:yo s es a b=some (v,s')):
  ∃ x' w', (Builtin.append_ #[t, u] ty #[x, y]).run P w = .ok x' w' ∧ dr P B0 w0 G k nl s s' w' v x' := by
 unfold yo at ha
 split at ha
 case h_2=>cases ha
 rename_i o e1 xs oy e2 ys
 split at ha
 ·cases ha
 rename_i xw
 split at ha
 case isFalse=>exact TU h hT hu hx hy ha
 rename_i br
 obtain⟨rfl,hof,rfl,rfl,Ye,X9⟩:=br
 injection ha with ha
 injection ha with h1 h2
 subst h1 h2
 have ho:o=.full:=by cases o<;>simp[Own.isFull]at hof⊢
 subst ho
 have lP:0<ys.length:=by omega
 rcases hy.iT with⟨_,hn,_⟩|⟨_,ay,cy,rfl,_,_,oK,_⟩
 ·rw[hn]at lP;simp at lP
 obtain⟨vE,BN,ly,oU,fy,vD,py⟩:=fV.flat oK hT.pos
 have vi:ay=⟨ay.block,ay.off,none⟩:=wu (vE (by omega))
 have jR:∀c,c<ys.length*e2→w.cell? (ay.add c)=some (fy c):=fun c hc=>by
  rw[vi,ig];exact h.rel.ft _ _ _ (vD c hc)
 obtain⟨qR,yX⟩:=yZ hT.pos ly
 have GK:∀c (hc:c<ys.flatten.length),bL G.I ys.flatten[c] (fy c):=fun c hc=>by
  obtain⟨g1,g2,g3⟩:=yX c hc
  rw[g3]
  have:=py _ g1 _ g2
  rw[yh]at this
  exact this
 have KM:ys.flatten≠[]:=fun e=>by
  have:=gS List.length e
  rw[qR]at this
  have h2:=HY lP hT.pos
  simp only[ja]at this
  omega
 rcases hx.iT with⟨zp,_,_⟩|⟨_,ax,cx,rfl,_,_,my,xl⟩
 ·cases zp
 have lG:cx=0:=xl rfl
 subst lG
 obtain⟨newCap,rest,fI,gA,dk⟩:=wx (P:=P) (w:=w) (ty:=ty) (n:=0) (m:=ys.length) (cap:=0) (c:=cy) (base:=some ax) (a:=ay) (f:=fun _=>Go.undef) (g:=fy) hT hu (by omega) (by
  have hn:Builtin.nextslicecap (0+ys.length) 0=ys.length:=by
   unfold Builtin.nextslicecap
   rw[ak (by omega)];omega
  rw[hn]
  exact kt (kt (Nat.mul_le_mul_left _ vj) X9) (by decide)) (fun b _ c hc=>by simp at hc) (fun e=>by cases e) jR
 rw[fN]at dk fI gA
 refine⟨_,_,dk,?_⟩
 have cm:=Hj (R:=Rel G k nl) (cs:=[]) (ds:=ys.flatten) (n:=0) (f:=fun _=>Go.undef) (g:=fy) (rest:=rest) rfl qR (fun i hi=>by simp at hi) (fun i hi=>.cl (GK i hi))
 rw[kq]at cm
 have bV:((List.range (0*e2+ys.length*e2)).map (both (0*e2) (fun _=>Go.undef) fy)++rest).toArray.size=newCap*e2:=by
  simp only[yg,cu,bR,pP,gA]
  rw[←gH,←gH]
  congr 1;omega
 exact(zT h.drew e (some (newCap*e2)) (fun n hn=>by injection hn with hn;rw[bV,hn]) KM (fun c hc=>by
  obtain⟨r,hr,iu⟩:=uI.1 hc
  exact oU r hr c iu) (by simpa using cm)).2.2 e2 ys.length 0 newCap fI (bp _) (fun _ _=>rfl)
theorem atA (h : At P B0 w0 G k nl s w) {es : Nat} (h0 : 0 < es) {b : AV} {y : Value} {p : List AV × Nat} (hy : Rel G k nl b y) (hs : s.Af es b = some p) :
    (p.2=0∧∃bb c,y=.slice bb 0 c)∨(0<p.2∧∃(ay:Addr) (cy:Nat) (fy:Nat→Value),y=.slice (some ay) p.2 cy∧p.1.length=p.2*es∧(∀c,c<p.2*es→w.cell? (ay.add c)=some (fy c))∧(∀c,c∈p.1→c.bA=true)∧
      ∀c (hc:c<p.1.length),Rel G k nl p.1[c] (fy c)):=by
  unfold ae.Af at hs
  split at hs
  · rename_i o e2 ys
    split at hs
    case isFalse=>cases hs
    rename_i br
    injection hs with hs
    subst hs
    rcases yi ys.length with hz|hz
    · refine .inl ⟨hz, ?_⟩
      rcases hy.iT with⟨_,_,rfl⟩|⟨_,aa,c,rfl,_⟩
      · exact⟨_,_,rfl⟩
      · exact⟨some aa,c,by rw[hz]⟩
    · have he : e2 = es := by
        rcases br with hc|hc
        · have : ys = [] := by simpa using hc
          rw[this]at hz;simp at hz
        · exact hc
      subst he
      refine .inr ⟨hz,?_⟩
      rcases hy.iT with⟨_,hn,_⟩|⟨_,ay,cy,rfl,_,_,oK,_⟩
      · rw[hn]at hz;simp at hz
      obtain⟨vE,BN,ly,oU,fy,vD,py⟩:=fV.flat oK h0
      have vi:ay=⟨ay.block,ay.off,none⟩:=wu (vE (by omega))
      obtain⟨qR,yX⟩:=yZ h0 ly
      refine⟨ay,cy,fy,rfl,qR,fun c hc=>by rw[vi,ig];exact h.rel.ft _ _ _ (vD c hc),fun c hc=>?_,fun c hc=>?_⟩
      · obtain ⟨r, hr, iu⟩ := uI.1 hc
        exact oU r hr c iu
      · obtain ⟨g1, g2, g3⟩ := yX c hc
        rw[g3]
        have:=py _ g1 _ g2
        rw[yh]at this
        exact .cl this
  · rename_i d b off e2 n cap
    split at hs
    case isFalse=>cases hs
    rename_i br
    obtain⟨hd,rfl⟩:=br
    obtain⟨cs,tL,hs⟩:=dj.1 hs
    split at hs
    case isFalse=>cases hs
    rename_i hle
    injection hs with hs
    subst hs
    obtain⟨blk,gr,rc,o0,rfl,eV,hg,cG,Gq,_,_,ho⟩:=hy.mz
    rcases yi n with hn|hn
    · exact .inl ⟨hn,_,rc,by rw[hn]⟩
    · have ho := ho (.inl hn)
      subst ho
      refine .inr ⟨hn,?_⟩
      obtain⟨r,hr,dw,_,arr,tb,nL,cm,aP⟩:=h.box eV tL hg cG
      have hlen:((cs.drop o0).take (n*e2)).length=n*e2:=by simp;omega
      refine⟨⟨blk,o0,none⟩,rc,fun c=>arr.getD (o0+c) Go.undef,rfl,hlen,fun c hc=>?_,fun c hc=>aP c (HO (td hc)),fun c hc=>?_⟩
      · simp only at hc
        rw[ig,cell_of_heap nL]
        have:o0+c<arr.size:=by have:=cm.1;omega
        simp[Array.getD,this]
      · rw [hlen] at hc
        have he:((cs.drop o0).take (n*e2))[c]'(by rw[hlen];exact hc)=cs[o0+c]'(by omega):=by simp
        rw[he]
        exact cm.2 _ _
  · cases hs
theorem ac7 (h : At P B0 w0 G k nl s w) {t u e ty : TypeId} {es fY : Nat} {z : Value} (hT : uA P t e es fY z) (hu : ∃ e', P.underlying u = some (.slice e')) {a b c v : AV} {x y : Value} {s' : ae}
    (hx:Rel G k nl a x) (hy:Rel G k nl b y) (ha:qI s es a b c=some (v,s')):
    ∃ x' w', (Builtin.append_ #[t, u] ty #[x, y]).run P w = .ok x' w' ∧ dr P B0 w0 G k nl s s' w' v x' := by
  unfold qI at ha
  split at ha
  case h_2=>cases ha
  rename_i d _ _
  obtain⟨p,hp,Kd⟩:=dj.1 ha
  clear ha
  have ha:=Kd
  clear Kd
  rcases atA h hT.pos hy hp with⟨zq,bb,cc,rfl⟩|⟨zq,ay,cy,fy,rfl,tT,jR,Qh,tR⟩
  · rw [ak zq] at ha
    split at ha
    · rename_i o e1 xs
      injection ha with ha
      injection ha with h1 h2
      subst h1 h2
      have mr:dr P B0 w0 G k nl s s w (.slice o e1 xs) x:=⟨G,h,bD.refl _ _ _,rfl,hx⟩
      rcases hx.iT with⟨_,_,rfl⟩|⟨_,aa,cap,rfl,_,hle,_⟩
      · exact⟨_,w,wy hT hu none bb cc (aH _),mr⟩
      · exact⟨_,w,wy hT hu (some aa) bb cc hle,mr⟩
    · rename_i d' b' off e1 n cap
      injection ha with ha
      injection ha with h1 h2
      subst h1 h2
      have mr:dr P B0 w0 G k nl s s w (.aO d' b' off e1 n cap) x:=⟨G,h,bD.refl _ _ _,rfl,hx⟩
      obtain⟨blk,gr,rc,o0,rfl,_,_,_,hn,_⟩:=hx.mz
      exact⟨_,w,wy hT hu (some _) bb cc hn,mr⟩
    · cases ha
  rw[aq (by omega)]at ha
  split at ha
  case isFalse=>cases ha
  rename_i br
  obtain⟨_,eV,aP⟩:=br
  rw[h.gU]at eV aP
  obtain⟨r,gr,hr,hg⟩:=h.cT eV
  have zt:=HY zq hT.pos
  have Yn:p.1≠[]:=fun e=>by rw[e,ja]at tT;omega
  have Pg:∀i (hi:i<p.1.length),Rel G d gr.nl p.1[i] (fy i):=fun i hi=>by
    rcases aP with rfl|aP
    · obtain ⟨g', e1, e2⟩ := h.cur
      rw[hg]at e1
      injection e1 with e1
      rw[e1,e2]
      exact tR i hi
    · exact .cl ((tR i hi).yO (j6.1 aP _ (gG hi)))
  split at ha
  · rename_i o e1 xs
    split at ha
    case isFalse=>cases ha
    rename_i br
    obtain⟨rp,jy,oH⟩:=br
    injection ha with ha
    injection ha with h1 h2
    subst h1 h2
    have GJ:xs=[]:=by simpa using rp
    subst GJ
    obtain⟨base,rfl⟩:∃base,x=.slice base 0 0:=by
      rcases hx.iT with⟨_,_,rfl⟩|⟨xA,ax,cx,rfl,_,_,my,xl⟩
      · exact⟨none,rfl⟩
      · rcases jy with hc | ⟨hc, _⟩
        · cases o <;> simp [Own.isNil] at hc
          exact absurd rfl xA
        · have ho : o = .full := by cases o <;> simp [Own.isFull] at hc ⊢
          have:=xl ho
          subst this
          exact⟨some ax,rfl⟩
    obtain⟨newCap,rest,fI,gA,dk⟩:=wx (P:=P) (w:=w) (ty:=ty) (n:=0) (m:=p.2) (cap:=0) (c:=cy) (base:=base) (a:=ay) (f:=fun _=>Go.undef) (g:=fy) hT hu (by omega) (yC hT (by omega) (by omega)) (fun b _ c hc=>by simp at hc) (fun _=>rfl) jR
    rw[fN]at dk fI gA
    refine⟨_,_,dk,?_⟩
    have cm:=Hj (R:=Rel G d gr.nl) (cs:=[]) (ds:=p.1) (n:=0) (m:=p.2*es) (f:=fun _=>Go.undef) (g:=fy) (rest:=rest) rfl tT (fun i hi=>by simp at hi) (fun i hi=>Pg i hi)
    rw[kq]at cm
    have bV:((List.range (0*es+p.2*es)).map (both (0*es) (fun _=>Go.undef) fy)++rest).toArray.size=newCap*es:=by
      simp only[yg,cu,bR,pP,gA]
      rw[←gH,←gH]
      congr 1;omega
    exact apG h.drew eV hg e (some (newCap*es)) (fun n hn=>by injection hn with hn;rw[bV,hn]) Yn Qh (by simpa using cm) es p.2 0 newCap fI (bp _) (fun _ _=>rfl)
  · rename_i d1 b' off e1 n cap
    split at ha
    case isFalse=>cases ha
    rename_i br
    obtain⟨rfl,rfl,rfl,fJ,rfl,oH⟩:=br
    split at ha
    case h_2=>cases ha
    rename_i cs tL
    split at ha
    case isFalse=>cases ha
    rename_i tN
    injection ha with ha
    injection ha with h1 h2
    subst h1 h2
    obtain⟨blk,bI,rc,o0,rfl,hd,bB,cG,Gq,_,hw,ho⟩:=hx.mz
    rw[hg]at bB
    injection bB with bB
    subst bB
    have ho:=ho (.inl fJ)
    subst ho
    have Gb:=hw rfl fJ
    have dw:r.boxes[b']? =some cs:=by simpa[ae.box,hr]using tL
    have hB:=(h.rel.cT d1 r gr hr hg).box b' cs blk dw cG
    obtain⟨BI,_,Pc,arr,tb,nL,akv,QA,Qs⟩:=hB
    have dy:cs≠[]:=fun e=>by
      rw[e]at tN
      have:=HY fJ hT.pos
      simp only[ja]at tN
      omega
    have sf:=QA dy _ Gb
    have aD:cs++p.1≠[]:=fun e=>Yn (L4.1 e).2
    have FV:∀c,c∈cs++p.1→c.bA=true:=fun c hc=>by
      rcases dC.1 hc with hc|hc
      · obtain ⟨i, hi, rfl⟩ := oe hc
        exact(Qs i hi).1
      · exact Qh c hc
    by_cases lO:n+p.2≤rc
    · have hle : (n + p.2) * e1 ≤ arr.size := by rw [sf]; exact oQ _ lO
      refine⟨_,_,MI (P:=P) (ty:=ty) (n:=n) (m:=p.2) (c:=cy) (a:=ay) (g:=fy) hT hu lO jR nL hle (fun c hc=>Ld (tR c (by rw[tT];exact hc)) (Qh _ (gG _))),?_⟩
      refine RZ h eV hr hg dw cG dy aD FV (arr':=jq arr (n*e1) ((List.range (p.2*e1)).map fy)) ?_ (F7 _ _ _ _ nL) (fun c _ hc=>F8 hc _ _ _) (.inl rfl) (DU BI _ _ _) (by rw[Hp];exact aH _) (by rw[xV];exact sf) lO
      rw[gH]at hle
      refine⟨by rw[xV,cu,tN,tT];exact hle,fun i hi=>?_⟩
      rw[cu,tN,tT]at hi
      rw[LC _ _ _ _ (by simpa using hle)]
      by_cases hl:i<cs.length
      · rw[uF hl,aq (by omega)];exact(Qs i hl).2
      · rw [uG (by omega), ak (by simp; omega)]
        have su:i-n*e1<p.2*e1:=by omega
        have:=Pg (i-cs.length) (by rw[tT];omega)
        have xm:((List.range (p.2*e1)).map fy).getD (i-n*e1) Go.undef=fy (i-cs.length):=by
          rw[tN]
          simp[List.getD,su]
        rw[xm]
        exact this
    · obtain ⟨newCap, rest, fI, gA, dk⟩ := wx (P := P) (w := w) (ty := ty) (n := n) (m := p.2) (cap := rc) (c := cy) (base := some ⟨blk, 0, none⟩) (a := ay) (f := fun c => arr.getD c Go.undef) (g := fy) hT hu lO
        (yC hT lO oH) (fun b e c hc => by
          injection e with e;subst e
          rw[ig,cell_of_heap nL,fN]
          have:c<arr.size:=by
            have:=akv
            rw[tN]at this;omega
          simp[Array.getD,this]) (fun e=>by cases e) jR
      refine⟨_,_,dk,?_⟩
      have Qr:=Hj (R:=Rel G d1 gr.nl) (cs:=cs) (ds:=p.1) (f:=fun c=>arr.getD c Go.undef) (g:=fy) (rest:=rest) tN tT (fun i hi=>(Qs i hi).2) (fun i hi=>Pg i hi)
      have bV:((List.range (n*e1+p.2*e1)).map (both (n*e1) (fun c=>arr.getD c Go.undef) fy)++rest).toArray.size=newCap*e1:=by
        simp only[yg,cu,bR,pP,gA]
        rw[←gH,←gH]
        congr 1;omega
      exact RZ h eV hr hg dw cG dy aD FV Qr (World.alloc_heap_new w.drew _) (fun c hc _=>Below.heap_alloc w.drew _ _ hc) (.inr rfl) (((Below.refl _ _).drew).alloc h.rel.low _) (by simp) bV fI
  · cases ha
end
end Go.Ax
/-
  Stores: what goes into an outer activation's box.
-/
namespace Go.Ax
open Go.RowKit
section
variable{P:Program} {B0:Nat} {w0:World} {G:aG} {k nl:Nat} {w:World} {s:ae}
theorem ZY {s:ae} {d:Nat} {r:Rec} (h:s.ag[d]? =some r):s.jZ d=r.toks.length:=by simp[ae.jZ,h]
theorem abQ {s:ae} {d g n:Nat} (h:s.tok d g=some n):∃r,s.ag[d]? =some r∧r.toks[g]? =some (some n):=by
 unfold ae.tok at h
 cases hr:s.ag[d]? with
 |none=>rw[hr]at h;cases h
 |some r=>
  rw[hr]at h
  simp only[et]at h
  cases hq:r.toks[g]? with
  |none=>rw[hq]at h;cases h
  |some q=>rw[hq]at h;simp only[Option.join_some]at h;subst h;exact⟨r,rfl,hq⟩
theorem afK (h:cE P B0 w0 G s w) {d g n:Nat} {r:Rec} {gr:cN} {T:lu} (hr:s.ag[d]? =some r) (hg:G.ag[d]? =some gr) (jB:r.toks[g]? =some (some n)) (lK:gr.tk[g]? =some T):
  ∃G',G'.ag=G.ag.modify d (fun q=>{q with tk:=q.tk.set g {T with n:=none}})∧G'.I=G.I∧G'.own T.blk=none∧(∀b o,G'.own b=some o→G.own b=some o∧b≠T.blk)∧cE P B0 w0 G' (s.mJ d g none) w∧∀k nl,bD k nl G G':=by
 have aI:=h.cT d r gr hr hg
 obtain⟨pd,sb⟩:=aI.tok g (some n) T jB lK
 obtain⟨t1,t2,t3,t4,t5,arr,ty,t6,t7⟩:=sb _ rfl
 let G':aG:={G with ag:=G.ag.modify d fun q=>{q with tk:=q.tk.set g {T with n:=none}},own:=fun b=>if b=T.blk then none else G.own b}
 have hk:jN (· =.tok d g) G w G' w:=fun b o ho aD=>by
  refine⟨?_,rfl,fun _ e=>e⟩
  simp only[G']
  rw[aq]
  ·exact ho
  ·rintro rfl
   rw[t2]at ho
   injection ho with ho
   exact aD ho.symm
 have fp:jc gr {gr with tk:=gr.tk.set g {T with n:=none}}:=⟨fun b blk e=>e,fun j U e=>by
  by_cases hj:j=g
  ·subst hj
   rw[lK]at e
   injection e with e
   subst e
   exact⟨_,Hm lK,rfl,.inr (.inl rfl)⟩
  ·exact⟨U,by show(gr.tk.set g _)[j]? =_;rw[s9,aq (fun e=>hj e.symm)];exact e,.refl U⟩,rfl,fun _ _ e=>e⟩
 have vn:bD d gr.nl G G':=⟨fun _ _ _ e=>e,fun d' q _ e=>by
  show∃bI,(G.ag.modify d _)[d']? =some bI∧_
  rw[dT]
  by_cases xj:d=d'
  ·subst xj
   rw[hg]at e
   injection e with e
   subst e
   exact⟨_,by rw[ak rfl,hg];rfl,fp,fun _=>rfl⟩
  ·exact⟨q,by rw[aq xj];exact e,.refl q,fun _=>rfl⟩,fun _ _ _ e=>e⟩
 have gl:=h.bu (G':=G') (w':=w) hr hg (fun r=>{r with toks:=r.toks.set g none}) (fun q=>{q with tk:=q.tk.set g {T with n:=none}}) (· =.tok d g) rfl rfl (fun _ _ _ e=>e) fp rfl hk
  (fun o ho=>.inr ⟨_,ho⟩) ?_ h.ft (Below.refl _ _) (fun b o e=>?_)
 ·refine⟨G',rfl,rfl,by simp[G'],fun b o e=>?_,gl.1,gl.2⟩
  simp only[G']at e
  split at e
  ·cases e
  ·exact⟨e,by assumption⟩
 ·refine aI.tokens (toks':=r.toks.set g none) (tk':=gr.tk.set g {T with n:=none}) vn hk (by simp[aI.iZ]) (fun hm=>ZW hm (.inl rfl)) (fun j p U e1 e2=>?_)
  rcases Cw e1 with⟨aD,e1⟩|⟨rfl,rfl,_⟩
  ·rcases Cw e2 with⟨_,e2⟩|⟨hj,_⟩
   ·exact .inl ⟨aD,e1,e2⟩
   ·exact absurd hj aD
  ·rcases Cw e2 with⟨hj,_⟩|⟨_,rfl,_⟩
   ·exact absurd rfl hj
   ·exact .inr ⟨rfl,rfl,fun m hm=>by cases hm⟩
 ·simp only[G']at e
  split at e
  ·cases e
  ·exact h.eU b o e
theorem TH (h:cE P B0 w0 G s w) {d n:Nat} {r:Rec} {gr:cN} {T:lu} (hr:s.ag[d]? =some r) (hg:G.ag[d]? =some gr) (zh:G.own T.blk=none) (pd:T.n=some n)
  (hT:B0≤T.blk∧(∀i,n*T.es≤i→G.I T.blk i=none)∧n≤T.cap∧0<T.es∧∃arr ty,w.heap[T.blk]? =some (.cells arr ty)∧arr.size=T.cap*T.es):
  ∃G',G'.ag=G.ag.modify d (fun q=>{q with tk:=q.tk++[T]})∧G'.I=G.I∧cE P B0 w0 G' (s.lA d n) w∧∀k nl,bD k nl G G':=by
 have aI:=h.cT d r gr hr hg
 obtain⟨t1,t3,t4,t5,arr,ty,t6,t7⟩:=hT
 let G':aG:={G with ag:=G.ag.modify d fun q=>{q with tk:=q.tk++[T]},own:=fun b=>if b=T.blk then some (.tok d r.toks.length)else G.own b}
 have hk:jN (· =.tok d r.toks.length) G w G' w:=fun b o ho _=>by
  refine⟨?_,rfl,fun _ e=>e⟩
  simp only[G']
  rw[aq]
  ·exact ho
  ·rintro rfl
   rw[zh]at ho
   cases ho
 have fp:jc gr {gr with tk:=gr.tk++[T]}:=⟨fun b blk e=>e,fun g U e=>⟨U,mQ e,.refl U⟩,rfl,fun _ _ e=>e⟩
 have vn:bD d gr.nl G G':=⟨fun _ _ _ e=>e,fun d' q _ e=>by
  show∃bI,(G.ag.modify d _)[d']? =some bI∧_
  rw[dT]
  by_cases xj:d=d'
  ·subst xj
   rw[hg]at e
   injection e with e
   subst e
   exact⟨_,by rw[ak rfl,hg];rfl,fp,fun _=>rfl⟩
  ·exact⟨q,by rw[aq xj];exact e,.refl q,fun _=>rfl⟩,fun _ _ _ e=>e⟩
 have gl:=h.bu (G':=G') (w':=w) hr hg (fun r=>{r with toks:=r.toks++[some n]}) (fun q=>{q with tk:=q.tk++[T]}) (· =.tok d r.toks.length) rfl rfl (fun _ _ _ e=>e) fp rfl hk
  (fun o ho=>.inr ⟨_,ho⟩) ?_ h.ft (Below.refl _ _) (fun b o e=>?_)
 ·exact⟨G',rfl,rfl,gl.1,gl.2⟩
 ·refine aI.tokens (toks':=r.toks++[some n]) (tk':=gr.tk++[T]) vn hk (by simp[aI.iZ]) (oP _) (fun g m U e1 e2=>?_)
  rcases eC e1 with⟨aC,e1⟩|⟨rfl,rfl⟩
  ·refine .inl ⟨by omega,e1,?_⟩
   rcases eC e2 with⟨_,e2⟩|⟨hb,_⟩
   ·exact e2
   ·rw[aI.iZ]at hb;omega
  ·have:U=T:=by
    rcases eC e2 with⟨hb,_⟩|⟨_,e⟩
    ·rw[aI.iZ]at hb;omega
    ·exact e
   subst this
   refine .inr ⟨rfl,pd,fun m hm=>?_⟩
   injection hm with hm
   subst hm
   exact⟨t1,by simp[G'],t3,t4,t5,arr,ty,t6,t7⟩
 ·simp only[G']at e
  split at e
  ·rename_i hb;subst hb;exact(uy.1 t6).1
  ·exact h.eU b o e
theorem ag6 (h:At P B0 w0 G k nl s w) {d nd:Nat} {x x':AV} {v:Value} {s':ae} (eV:d<k) (hx:Rel G k nl x v) (hc:x.bA=true) (hf:s.fit d x=some (x',s')):
  ∃G',At P B0 w0 G' k nl s' w∧bD (k+1) s.loops.length G G'∧s'.loops=s.loops∧Rel G' d nd x' v∧x'.bA=true:=by
 have mr:=bD.refl (k+1) s.loops.length G
 by_cases h1:∃d' g es xs,x=.slice (.tok d' g) es xs
 ·obtain⟨d',g,es,xs,rfl⟩:=h1
  simp only[ae.fit]at hf
  split at hf
  ·rename_i hle
   injection hf with hf
   injection hf with e1 e2
   subst e1 e2
   refine⟨G,h,mr,rfl,?_,rfl⟩
   cases hx with
   |cl hx=>exact .cl hx
   |tok T gr hd hg ht dY hc hn=>exact .tok T gr hle hg ht dY hc hn
  ·rename_i hle
   split at hf
   ·rename_i hY
    obtain⟨XO,qc⟩:=hY
    injection hf with hf
    injection hf with e1 e2
    subst e1 e2
    rw[h.gU]at XO
    subst XO
    cases hx with
    |cl hx=>cases hx with
     |slice f ho=>rcases ho with h|⟨h,_⟩<;>cases h
     |empty ho=>rcases ho with h|h<;>cases h
    |tok T gr hd hg ht dY my hn=>
    obtain⟨r,hr,jB⟩:=abQ qc
    have aI:=h.rel.cT _ r gr hr hg
    obtain⟨pd,sb⟩:=aI.tok g _ T jB ht
    obtain⟨t1,t2,t3,t4,t5,arr,ty,t6,t7⟩:=sb _ rfl
    obtain⟨_,heq⟩:=hn _ pd
    obtain⟨rfl,rfl⟩:=heq rfl
    obtain⟨G1,a1,a2,a3,_,a5,a6⟩:=afK h.rel hr hg jB ht
    obtain⟨rd,y3,iS,xm⟩:=h.cT (Ts eV)
    have aD:d'≠d:=by omega
    have akj:(s.mJ d' g none).ag[d]? =some rd:=by
     simp only[ae.mJ,ae.bu,dT]
     rw[aq aD];exact iS
    have XY:G1.ag[d]? =some y3:=by
     rw[a1,dT,aq aD];exact xm
    obtain⟨G2,b1,b2,b3,b4⟩:=TH a5 (T:=T) akj XY a3 pd ⟨t1,by rw[a2];exact t3,t4,t5,arr,ty,t6,t7⟩
    have PW:bD (d'+1) s.loops.length G G2:=(a6 _ _).trans (b4 _ _)
    refine⟨G2,h.to b3 (PW.less (by omega) h.sP) (by simp[ae.lA,ae.mJ,ae.bu]),PW,rfl,?_,rfl⟩
    have gJ:G2.ag[d]? =some {y3 with tk:=y3.tk++[T]}:=by rw[b1,dT,ak rfl,XY];rfl
    have sx:s.jZ d=y3.tk.length:=by rw[ZY iS,(h.rel.cT d rd y3 iS xm).iZ]
    rw[sx]
    refine .tok T _ (aH _) gJ (by show(y3.tk++[T])[y3.tk.length]? =_;rw[gO (aH _)];simp) dY (my.mono PW.I) hn
   ·injection hf with hf
    injection hf with e1 e2
    subst e1 e2
    exact⟨G,h,mr,rfl,.cl (hx.close (z:=.slice .any es xs) rfl),rfl⟩
 ·by_cases h2:∃d' b off,x=.ptr d' b off
  ·obtain⟨d',b,off,rfl⟩:=h2
   simp only[ae.fit]at hf
   split at hf
   ·rename_i hle
    injection hf with hf
    injection hf with e1 e2
    subst e1 e2
    obtain⟨blk,gr,rfl,_,hg,hb⟩:=hx.sK
    exact⟨G,h,mr,rfl,.ptr gr hle hg hb,rfl⟩
   ·cases hf
  ·by_cases h3:∃d' b off es n cap,x=.aO d' b off es n cap
   ·obtain⟨d',b,off,es,n,cap,rfl⟩:=h3
    simp only[ae.fit]at hf
    split at hf
    ·rename_i hle
     injection hf with hf
     injection hf with e1 e2
     subst e1 e2
     obtain⟨blk,gr,rc,o0,rfl,_,hg,hb,hn,hc,hw,ho⟩:=hx.mz
     exact⟨G,h,mr,rfl,.aO gr hle hg hb hn hc hw ho,rfl⟩
    ·cases hf
   ·have he:s.fit d x=x.close.map (·,s):=by
     unfold ae.fit
     split
     ·exact absurd ⟨_,_,_,_,rfl⟩ h1
     ·exact absurd ⟨_,_,_,rfl⟩ h2
     ·exact absurd ⟨_,_,_,_,_,_,rfl⟩ h3
     ·rfl
    rw[he]at hf
    cases aP:x.close with
    |none=>rw[aP]at hf;cases hf
    |some z=>
     rw[aP]at hf
     injection hf with hf
     injection hf with e1 e2
     subst e1 e2
     exact⟨G,h,mr,rfl,.cl (hx.close aP),Oi aP hc⟩
theorem WU {d nd:Nat} (eV:d<k):∀{xs ys:List AV} {vs:List Value} {G:aG} {s s':ae},At P B0 w0 G k nl s w→(hl:vs.length=xs.length)→(∀i (hi:i<xs.length) (hj:i<vs.length),Rel G k nl xs[i] vs[i]∧xs[i].bA=true)→
  (BX:∀gr,G.ag[d]? =some gr→gr.nl=nd)→s.fitAll d xs=some (ys,s')→
  ∃G',At P B0 w0 G' k nl s' w∧bD (k+1) s.loops.length G G'∧s'.loops=s.loops∧ys.length=xs.length∧∀i (hi:i<ys.length) (hj:i<vs.length),Rel G' d nd ys[i] vs[i]∧ys[i].bA=true
 |[],ys,vs,G,s,s',h,hl,_,_,hf=>by
  simp only[ae.fitAll]at hf
  injection hf with hf
  injection hf with e1 e2
  subst e1 e2
  exact⟨G,h,bD.refl _ _ _,rfl,rfl,fun i hi=>absurd hi (df _)⟩
 |x::xs,ys,[],G,s,s',h,hl,_,_,hf=>by simp at hl
 | x :: xs, ys, v :: vs, G, s, s', h, hl, hR, BX, hf => by
  simp only[ae.fitAll]at hf
  split at hf
  ·cases hf
  ·rename_i y s1 hy
   split at hf
   ·cases hf
   ·rename_i zs s2 hz
    injection hf with hf
    injection hf with e1 e2
    subst e1 e2
    have h0:=hR 0 (by simp) (by simp)
    obtain⟨G1,a1,a2,a3,a4,a5⟩:=ag6 (nd:=nd) h eV h0.1 h0.2 hy
    have ajM:nd≤s.loops.length:=by
     obtain⟨_,gr,_,hg⟩:=h.cT (Ts eV)
     rw[←BX gr hg]
     exact h.rel.pH _ _ hg
    obtain⟨G2,b1,b2,b3,b4,b5⟩:=WU eV (nd:=nd) a1 (by simpa using hl) (fun i hi hj=>by
     have:=hR (i+1) (by simpa using hi) (by simpa using hj)
     exact⟨this.1.mono (a2.less (by omega) h.sP) (aH _) (aH _),this.2⟩) (fun gr hg=>by
     obtain⟨_,iN,_,qf⟩:=h.cT (Ts eV)
     obtain⟨bI,bB,hle,_⟩:=a2.ag d iN (by omega) qf
     rw[hg]at bB
     injection bB with bB
     subst bB
     exact hle.nl.trans (BX _ qf)) hz
    rw[a3]at b2
    refine⟨G2,b1,a2.trans b2,b3.trans a3,by simp[b4],fun i hi hj=>?_⟩
    cases i with
    |zero=>exact⟨a4.mono (b2.less (by omega) ajM) (aH _) (aH _),a5⟩
    |succ i=>exact b5 i (by simpa using hi) (by simpa using hj)
theorem Sy (h:At P B0 w0 G k nl s w) {x y:AV} {px v:Value} {n:Nat} {s':ae} (hx:Rel G k nl x px) (hy:Rel G k nl y v) (hs:s.store n x y=some s'):
  ∃blk off arr ty,px=.pointer (some ⟨blk,off,none⟩)∧w.heap[blk]? =some (.cells arr ty)∧v.cells.size=n∧off+n≤arr.size∧(∀u,u∈v.cells.toList→u.oneCell'=true)∧dr P B0 w0 G k nl s s' (w.setCells blk off v.cells.toList) AV.undef Go.undef:=by
 unfold ae.store at hs
 split at hs
 case h_2=>cases hs
 rename_i d b off
 split at hs
 case isFalse=>cases hs
 rename_i br
 obtain⟨bq,hlen,fi⟩:=br
 obtain⟨blk,gr,rfl,hd,hg,cG⟩:=hx.sK
 obtain⟨bV,sj⟩:=hy.cells fi
 have xH:v.cells.size=n:=bV.trans hlen
 have bz:∀c,c∈y.cells→c.bA=true:=fun c hc=>j6.1 fi c hc
 have Qe:∀u,u∈v.cells.toList→u.oneCell'=true:=fun u hu=>by
  obtain⟨i,hi,rfl⟩:=oe hu
  have bG:i<y.cells.length:=by rw[←bV];simpa using hi
  have:=sj i bG
  have he:v.cells.getD i Go.undef=v.cells.toList[i]:=by
   have:i<v.cells.size:=by simpa using hi
   simp[Array.getD,this]
  rw[he]at this
  exact Ld this (bz _ (gG bG))
 split at hs
 ·cases hs
 rename_i cs m1 kW
 split at hs
 ·cases hs
 rename_i row cm
 split at hs
 case isFalse=>cases hs
 rename_i hle
 injection hs with hs
 subst hs
 obtain⟨_,av9⟩:∃nd,gr.nl=nd:=⟨_,rfl⟩
 have Ku:∃G1 xe,At P B0 w0 G1 k nl m1 w∧bD (k+1) s.loops.length G G1∧m1.loops=s.loops∧cs.length=n∧G1.ag[d]? =some xe∧xe.bl[b]? =some (some blk)∧(∀i (hi:i<cs.length) (hj:i<v.cells.toList.length),Rel G1 d xe.nl cs[i] v.cells.toList[i])∧∀c,c∈cs→c.bA=true:=by
  have KB:∀i (hi:i<y.cells.length) (hj:i<v.cells.toList.length),Rel G k nl y.cells[i] v.cells.toList[i]∧y.cells[i].bA=true:=fun i hi hj=>by
   have:=sj i hi
   have he:v.cells.getD i Go.undef=v.cells.toList[i]:=by
    have:i<v.cells.size:=by simpa using hj
    simp[Array.getD,this]
   rw[he]at this
   exact⟨this,bz _ (gG hi)⟩
  by_cases F4:d=s.cur
  ·rw[ak F4]at kW
   injection kW with kW
   injection kW with e1 e2
   subst e1 e2
   have eV:d=k:=by rw[h.gU]at F4;exact F4
   subst eV
   obtain⟨gc,mn,xn⟩:=h.cur
   rw[hg]at mn
   injection mn with mn
   subst mn
   exact⟨G,gr,h,bD.refl _ _ _,rfl,hlen,hg,cG,fun i hi hj=>by rw[xn];exact(KB i hi hj).1,bz⟩
  ·rw[aq F4]at kW
   have eV:d<k:=by rw[h.gU]at F4;omega
   obtain⟨G1,a1,a2,a3,a4,a5⟩:=WU (nd:=gr.nl) (vs:=v.cells.toList) eV h (by simpa using bV) KB (fun g e=>by rw[hg]at e;injection e with e;rw[e]) kW
   obtain⟨xe,BR,Gg,_⟩:=a2.ag d gr (by omega) hg
   refine⟨G1,xe,a1,a2,a3,a4.trans hlen,BR,Gg.bl _ _ cG,fun i hi hj=>?_,fun c hc=>?_⟩
   ·rw[Gg.nl]
    exact(a5 i hi hj).1
   ·obtain⟨i,hi,rfl⟩:=oe hc
    exact(a5 i hi (by simp[xH,←hlen,←a4,hi])).2
 obtain⟨G1,xe,BM,Gg,pk,aP,BR,XK,hRs,dy⟩:=Ku
 obtain⟨r,hr,dw,Kg,arr,ty,nL,_,aku⟩:=BM.box hd cm BR XK
 obtain⟨bb1,bb2,bb3,arr',CD,Kr,xh,ajr,hold⟩:=Kg
 rw[nL]at Kr
 injection Kr with Kr
 injection Kr with e1 e2
 subst e1 e2
 refine⟨blk,off,arr,ty,rfl,nL,xH,kt hle xh,Qe,?_⟩
 have aiA:kQ (Rel G1 d xe.nl) row arr:=⟨xh,fun i hi=>(hold i hi).2⟩
 have aiB:kQ (Rel G1 d xe.nl) (setCells row off cs) (jq arr off v.cells.toList):=kQ.jq (by simp[xH,aP]) hRs off aiA
 by_cases KG:row=[]
 · -- nothing is written to a dead box
  subst KG
  have fJ:n=0:=by simp at hle;omega
  have ai6:cs=[]:=uE (by rw[aP];exact fJ)
  have QG:v.cells.toList=[]:=uE (by rw[SX,xH];exact fJ)
  subst ai6
  rw[QG]
  have Qu : m1.dL d b (setCells [] off []) = m1 := by
   simp only[ae.dL,ae.bu,setCells]
   have:m1.ag.modify d (fun r=>{r with boxes:=r.boxes.set b []})=m1.ag:=by
    apply pO
    intro i
    rw[wa]
    by_cases hi:d=i
    ·subst hi
     rw[hr]
     have:r.boxes.set b []=r.boxes:=by
      apply pO
      intro j
      rw[s9]
      split
      ·rename_i hj
       subst hj
       rw[dw,ak (bd.1 dw).1]
      ·rfl
     show some (if d=d then(⟨r.boxes.set b [],r.toks⟩:Rec)else r)=some r
     rw[ak rfl,this]
    ·simp[hi]
   rw[this]
  rw[Qu]
  exact⟨G1,BM,Gg,by rw[pk],.undef⟩
 have aD:setCells row off cs≠[]:=by
  intro e
  have e2:=gS List.length e
  simp[atd]at e2
  exact KG e2
 have Qz:=BM.rel.dL (cs':=setCells row off cs) (w':=w.setCells blk off v.cells.toList) hr BR dw XK KG aD (fun c hc=>by
   rcases abl hc with h|h
   ·exact aku c h
   ·exact dy c h) aiB (fun m hm=>by rw[xV];exact ajr KG m hm) (F7 _ _ _ _ nL) (fun c hc=>F8 hc _ _ _) (DU bb1 _ _ _) (Hp _ _ _ _)
 refine⟨G1,BM.to Qz (bD.refl _ _ _) (by simp[ae.dL,ae.bu]),Gg,by simp[ae.dL,ae.bu,pk],.undef⟩
theorem atI (h:At P B0 w0 G k nl s w) {x y:AV} {px v:Value} {n:Nat} {t:TypeId} {s':ae} (hx:Rel G k nl x px) (hy:Rel G k nl y v) (hn:cV P t=some n) (hs:s.store n x y=some s'):
  ∃w',(Instr.storeAt t px v).run P w=.ok () w'∧dr P B0 w0 G k nl s s' w' AV.undef Go.undef:=by
 obtain⟨blk,off,arr,ty,rfl,h1,h2,h3,h4,h5⟩:=Sy h hx hy hs
 exact⟨_,atH h1 hn h2 h3 h4,h5⟩
end
end Go.Ax
/-
  copy of plain cells, and a slice that is not written to any more.
-/
namespace Go.Ax
open Go.RowKit
section
variable{P:Program} {B0:Nat} {w0:World} {G:aG} {k nl:Nat} {w:World} {s:ae}
theorem ag8 {α:Type} {xs:List (List α)} (h:∀r,r∈xs→r.length=1):xs.flatten.length=xs.length:=by
 have:=(yZ (es:=1) (by omega) h).1
 omega
theorem abC (h:At P B0 w0 G k nl s w) {b:AV} {y:Value} {ys:List AV} (hy:Rel G k nl b y) (hs:s.Hr b=some ys):
  ∃(ad:Option Addr) (cap:Nat) (f:Nat→Value),y=.slice ad ys.length cap∧(0<ys.length→∃a,ad=some a∧∀j,j<ys.length→w.cell? (a.add j)=some (f j))∧
   ∀i (hi:i<ys.length),Rel G k nl ys[i] (f i)∧ys[i].bA=true:=by
 cases b with
 | slice o e xs =>
  simp only[ae.Hr]at hs
  split at hs
  case isFalse=>cases hs
  rename_i hc
  injection hs with hs
  subst hs
  by_cases rp:xs=[]
  ·subst rp
   rcases hy.iT with⟨_,_,rfl⟩|⟨_,aa,c,rfl,_⟩
   ·exact⟨none,0,fun _=>Go.undef,rfl,fun h=>absurd h (Aw _),fun i hi=>absurd hi (df _)⟩
   ·exact⟨some aa,c,fun _=>Go.undef,rfl,fun h=>absurd h (Aw _),fun i hi=>absurd hi (df _)⟩
  ·have he:e=1:=by
    rcases hc with hc|hc
    ·exact hc
    ·exact absurd (by simpa using hc) rp
   subst he
   have pw:0<xs.length:=ye.2 rp
   rcases hy.iT with⟨_,hn,_⟩|⟨_,ay,cy,rfl,_,_,oK,_⟩
   ·exact absurd hn rp
   ·obtain⟨vE,BN,ly,oU,fy,vD,py⟩:=fV.flat oK (by omega)
    have vi:ay=⟨ay.block,ay.off,none⟩:=wu (vE (by omega))
    obtain⟨qR,yX⟩:=yZ (es:=1) (by omega) ly
    have hl:=ag8 ly
    refine⟨some ay,cy,fy,by rw[hl],fun _=>⟨ay,rfl,fun j hj=>?_⟩,fun i hi=>⟨?_,?_⟩⟩
    ·rw[vi,ig];exact h.rel.ft _ _ _ (vD j (by omega))
    ·obtain⟨g1,g2,g3⟩:=yX i hi
     rw[g3]
     have:=py _ g1 _ g2
     rw[yh]at this
     exact .cl this
    ·obtain⟨r,hr,iu⟩:=uI.1 (gG hi)
     exact oU r hr _ iu
 | aO d b off e n cap =>
  simp only[ae.Hr]at hs
  split at hs
  case isFalse=>cases hs
  rename_i he
  subst he
  obtain⟨cs,tL,hs⟩:=dj.1 hs
  split at hs
  case isFalse=>cases hs
  rename_i hle
  injection hs with hs
  subst hs
  obtain⟨blk,gr,rc,o0,rfl,hd,hg,cG,Gq,_,hw,ho⟩:=hy.mz
  obtain⟨r,hr,dw,Kg,arr,tb,nL,cm,Qq⟩:=h.box hd tL hg cG
  have hl:((cs.drop off).take n).length=n:=by simp;omega
  refine⟨_,rc,fun j=>arr.getD (off+j) Go.undef,by rw[hl],fun h0=>⟨_,rfl,fun j hj=>?_⟩,fun i hi=>?_⟩
  ·have:=ho (.inl (by omega))
   subst this
   rw[ig,cell_of_heap nL]
   have:o0+j<arr.size:=by have:=cm.1;omega
   simp[Array.getD,this]
  ·have he:((cs.drop off).take n)[i]=cs[off+i]'(by omega):=by simp
   rw[he]
   exact⟨cm.2 _ _,Qq _ (gG _)⟩
 |_=>cases hs
theorem afq (h:At P B0 w0 G k nl s w) {t u e ty:TypeId} (ht:P.underlying t=some (.slice e)) (hz:cV P e=some 1) {a b v:AV} {x y:Value} {s':ae}
  (hx:Rel G k nl a x) (hy:Rel G k nl b y) (hc:Bo s a b=some (v,s')):
  ∃ x' w', (Builtin.copy_ #[t, u] ty #[x, y]).run P w = .ok x' w' ∧ dr P B0 w0 G k nl s s' w' v x' := by
 unfold Bo at hc
 split at hc
 ·rename_i o e1
  obtain⟨ys,h1,hc⟩:=aT.1 hc
  injection hc with e1 e2
  subst e1 e2
  obtain⟨ad,cap,f,rfl,_,_⟩:=abC h hy h1
  obtain⟨dd,c,rfl⟩:∃dd c,x=.slice dd 0 c:=by
   rcases hx.iT with⟨_,_,rfl⟩|⟨_,aa,c,rfl,_⟩
   ·exact⟨_,_,rfl⟩
   ·exact⟨_,_,rfl⟩
  exact⟨_,w,run_copy_none w t u ty e dd ad 0 c ys.length cap ht hz (by simp),G,h,bD.refl _ _ _,rfl,.cl (.v rfl)⟩
 ·rename_i d b off e1 n cap
  split at hc
  case isFalse=>cases hc
  rename_i he
  subst he
  obtain⟨ys,h1,hc⟩:=dj.1 hc
  obtain⟨ad,Vt,f,rfl,bz,kZ⟩:=abC h hy h1
  have YP:=hx
  obtain⟨blk,gr,rc,o0,rfl,hd,hg,cG,Gq,_,hw,ho⟩:=hx.mz
  split at hc
  ·rename_i qZ
   injection hc with hc
   injection hc with e1 e2
   subst e1 e2
   have lL:Nat.min ys.length n=0:=by
    have:(ys.take n).length=0:=by rw[List.isEmpty_iff.1 qZ];rfl
    rw[fc]at this
    show min ys.length n=0
    omega
   exact⟨_,w,run_copy_none w t u ty e _ ad n rc ys.length Vt ht hz lL,G,h,bD.refl _ _ _,rfl,.cl (.v rfl)⟩
  ·rename_i qZ
   obtain⟨q,cp,hc⟩:=aT.1 hc
   injection hc with e1 e2
   subst e1 e2
   have zt:0<(ys.take n).length:=by
    apply ye.2
    intro e
    rw[e]at qZ
    exact qZ rfl
   have aC:(ys.take n).length=min n ys.length:=fc
   have fJ:0<n:=by omega
   have:=ho (.inl fJ)
   subst this
   have vz:Rel G k nl (.ptr d b o0) (.pointer (some ⟨blk,o0,none⟩)):=.ptr gr hd hg cG
   have hyv:Rel G k nl (.agg (ys.take n)) (.agg ((List.range (ys.take n).length).map f).toArray):=by
    refine .agg (by simp) (fun c hc=>?_) (fun i hi=>?_)
    ·obtain⟨i,hi,rfl⟩:=oe hc
     have bG:i<ys.length:=by rw[aC]at hi;omega
     rw[List.getElem_take]
     exact(kZ i bG).2
    ·have bG:i<ys.length:=by rw[aC]at hi;omega
     have:((List.range (ys.take n).length).map f).toArray.getD i Go.undef=f i:=by simp[Array.getD]at hi⊢;omega
     rw[this,List.getElem_take]
     exact(kZ i bG).1
   obtain⟨fW,Rw,arr,tb,e1,h2,h3,h4,h5,h6⟩:=Sy h vz hyv cp
   injection e1 with e1
   injection e1 with e1
   injection e1 with e1 e2
   subst e1 e2
   obtain⟨ay,rfl,aP⟩:=bz (by omega)
   have dy:(Value.agg ((List.range (ys.take n).length).map f).toArray).cells.toList=(List.range (ys.take n).length).map f:=rfl
   rw[dy]at h5 h6
   have hlen:((List.range (ys.take n).length).map f).length=(ys.take n).length:=by simp
   have dk:=run_copy_cells (P:=P) w t u ty e blk o0 n rc ay ys.length Vt ((List.range (ys.take n).length).map f) ht hz (by rw[hlen,aC];exact Nat.min_comm _ _) (fun j v hj=>by
     have hZ:j<(ys.take n).length:=by
      have:=(bd.1 hj).1
      rw[hlen]at this;exact this
     have e:((List.range (ys.take n).length).map f)[j]? =some (f j):=by rw[gX,HI hZ];rfl
     rw[e]at hj
     injection hj with hj
     subst hj
     exact aP j (by omega)) (fun j hj=>by
     rw[hlen]at hj
     rw[cell_of_heap h2]
     have:o0+j<arr.size:=by omega
     simp[this]) (fun j _=>frozen_of_heap h2) h5
   refine⟨_,_,dk,?_⟩
   obtain⟨G',a1,a2,a3,_⟩:=h6
   rw[hlen]
   exact⟨G',a1,a2,a3,.cl (.v rfl)⟩
 ·cases hc
end
end Go.Ax
/-
  The other operations without a call.
-/
namespace Go.Ax
open Go.RowKit
section
variable{P:Program} {B0:Nat} {w0:World} {G:aG} {k nl:Nat} {w:World} {s:ae}
theorem dr.same (h:At P B0 w0 G k nl s w) {x:AV} {v:Value} (hv:Rel G k nl x v):dr P B0 w0 G k nl s s w x v:=⟨G,h,bD.refl _ _ _,rfl,hv⟩
theorem Rel.val (x:Value) (h:plain x=true):Rel G k nl (.v x) x:=.cl (.v h)
theorem ali {op : BinOp} {kd : IntKind} {x y : Int} {v : Value} (h : sJ op kd x y = some v) (hs : qk op = false) (t : TypeId) :
    (binOp op t (.int kd x) (.int kd y)).run P w=.ok v w∧plain v=true:=by
  cases op<;>simp only[qk]at hs<;>first
    |(cases hs;done)
    | (simp only [sJ] at h
       first
         |(injection h with h;subst h;exact⟨by simp[binOp,Op.intArith,Op.intBits,Op.intCmp],rfl⟩)
         | (split at h
            · cases h
            · rename_i hy
              injection h with h
              subst h
              exact⟨by simp[binOp,Op.intDiv,hy],rfl⟩)
         |cases h)
theorem atj {op:BinOp} {kx ky:IntKind} {x y:Int} {v:Value} (h:uk op kx x y=some v) (t:TypeId):
  (binOp op t (.int kx x) (.int ky y)).run P w=.ok v w∧plain v=true:=by
 unfold uk at h
 split at h
 ·cases h
 ·rename_i hy
  cases op<;>simp only at h<;>first
   |(cases h;done)
   |(injection h with h;subst h;exact⟨by simp[binOp,Op.shift,hy],rfl⟩)
theorem atJ {op:BinOp} {x y:ByteArray} {v:Value} (h:sW op x y=some v) (t:TypeId):
    (binOp op t (.string x) (.string y)).run P w=.ok v w∧plain v=true:=by
  unfold sW at h
  simp only[←ByteArray.toList_eq]at h
  cases op<;>simp only at h<;>first
    |(injection h with h;subst h;exact⟨by simp[binOp,Op.stringOp],rfl⟩)
    | (split at h
       · cases h
       · rename_i hc
         injection h with h
         subst h
         exact⟨by simp only[binOp,Op.stringOp];rw[aq hc];rfl,rfl⟩)
    |cases h
theorem adx {op:BinOp} {a b v:AV} (h:dR op a b=some v):
  (∃kd x sL y,a=.v (.int kd x)∧b=.v (.int sL y)∧((qk op=true∧∃z,uk op kd x y=some z∧v=.v z)∨(qk op=false∧kd=sL∧∃z,sJ op kd x y=some z∧v=.v z)))∨
  ∃x y z,a=.v (.string x)∧b=.v (.string y)∧sW op x y=some z∧v=.v z:=by
 unfold dR at h
 split at h
 ·rename_i kd x sL y
  refine .inl ⟨kd,x,sL,y,rfl,rfl,?_⟩
  by_cases hs:qk op=true
  ·rw[ak hs]at h
   cases hz:uk op kd x y with
   |none=>rw[hz]at h;cases h
   |some z=>rw[hz]at h;injection h with h;exact .inl ⟨hs,z,rfl,h.symm⟩
  ·rw[aq hs]at h
   by_cases hk:kd=sL
   ·rw[ak hk]at h
    cases hz:sJ op kd x y with
    |none=>rw[hz]at h;cases h
    |some z=>rw[hz]at h;injection h with h;exact .inr ⟨by simpa using hs,hk,z,rfl,h.symm⟩
   ·rw[aq hk]at h;cases h
 ·rename_i x y
  cases hz:sW op x y with
  |none=>rw[hz]at h;cases h
  |some z=>rw[hz]at h;injection h with h;exact .inr ⟨x,y,z,rfl,rfl,hz,h.symm⟩
 ·cases h
theorem ady {op:BinOp} {a b v:AV} {x y:Value} (t:TypeId) (hx:Rel G k nl a x) (hy:Rel G k nl b y) (h:dR op a b=some v):
  ∃z,(binOp op t x y).run P w=.ok z w∧Rel G k nl v z∧x≠.nilIface∧∀cs,x≠.agg cs:=by
 have hc:=adx h
 clear h
 rcases hc with⟨kd,a,sL,b,rfl,rfl,hq⟩|⟨a,b,z,rfl,rfl,hz,rfl⟩
 ·obtain rfl:=hx.gB
  obtain rfl:=hy.gB
  rcases hq with⟨_,z,hz,rfl⟩|⟨hs,rfl,z,hz,rfl⟩
  ·obtain⟨h1,h2⟩:=atj (P:=P) (w:=w) (ky:=sL) hz t
   exact⟨z,h1,.val z h2,by simp,by simp⟩
  ·obtain⟨h1,h2⟩:=ali (P:=P) (w:=w) hz hs t
   exact⟨z,h1,.val z h2,by simp,by simp⟩
 ·obtain rfl:=hx.gB
  obtain rfl:=hy.gB
  obtain⟨h1,h2⟩:=atJ (P:=P) (w:=w) hz t
  exact⟨z,h1,.val z h2,by simp,by simp⟩
theorem yR {op:BinOp} {t:TypeId} {x y:Operand} {a b:Value} (h1:a≠.nilIface) (h2:∀cs,a≠.agg cs):(eqGuard op t x y a b).run P w=.ok () w:=by
 unfold eqGuard
 cases op<;>simp<;>(cases a<;>simp_all)
theorem afZ (t:TypeId) (neg:Bool) {x y:Value} {b:Bool} (h:(Op.equal t x y).run P w=.ok b w) (hx:(∀k n,x≠.int k n)∧(∀s,x≠.string s)∧(∀k n,x≠.float k n)∧(∀k m n,x≠.complex k m n)):
  (binOp (if neg then .neq else .eql) t x y).run P w=.ok (.bool (if neg then !b else b)) w:=by
 obtain⟨h1,h2,h3,h4⟩:=hx
 cases neg
 ·simp only[ez,db]
  have:binOp .eql t x y=(do pure (.bool (←Op.equal t x y))):=by
   cases x<;>first|(exact absurd rfl (h1 _ _))|(exact absurd rfl (h2 _))|(exact absurd rfl (h3 _ _))|(exact absurd rfl (h4 _ _ _))|rfl
  rw[this]
  simp[h]
 ·simp only[bP]
  have:binOp .neq t x y=(do pure (.bool (!(←Op.equal t x y)))):=by
   cases x<;>first|(exact absurd rfl (h1 _ _))|(exact absurd rfl (h2 _))|(exact absurd rfl (h3 _ _))|(exact absurd rfl (h4 _ _ _))|rfl
  rw[this]
  simp[h]
theorem Wm {kd:PK} {x y:AV} {a b:Value} {c:Bool} {t:TypeId} (hx:Rel G k nl x a) (hy:Rel G k nl y b) (h:OA kd x y=some c) (ht:z6 P t=some kd) (d:Nat):
  (Op.equalIn (d+1) t a b).run P w=.ok c w:=by
 unfold z6 at ht
 unfold OA at h
 split at h
 ·obtain rfl:=hx.gB
  obtain rfl:=hy.gB
  split at ht<;>first|(cases ht;done)|skip
  rename_i hu
  split at h
  ·rename_i qg
   subst qg
   injection h with h
   subst h
   exact run_equalIn_int w d t _ _ _ _ hu
  ·cases h
 ·obtain rfl:=hx.gB
  obtain rfl:=hy.gB
  split at ht<;>first|(cases ht;done)|skip
  rename_i hu
  injection h with h
  subst h
  exact run_equalIn_bool' w d t _ _ hu
 ·obtain rfl:=hx.gB
  obtain rfl:=hy.gB
  split at ht<;>first|(cases ht;done)|skip
  rename_i hu
  injection h with h
  rw[←ByteArray.toList_eq,←ByteArray.toList_eq]at h
  subst h
  exact run_equalIn_string w d t _ _ hu
 ·cases h
theorem Lj {t:TypeId} {kd:PK} (h:z6 P t=some kd) {cs:Array Value} {i:Nat} (hi:i<cs.size):(Go.part t cs i).run P w=.ok cs[i] w:=by
 have ha:(isAgg t).run P w=.ok false w:=by
  unfold z6 at h
  split at h<;>first
   |(rename_i hu;simp[isAgg,run_underlying hu,pure])
   |cases h
 unfold Go.part
 simp only[Sem.run_bind,ha,Result.andThen_ok,ez,db]
 simp[hi]
theorem Wl (d:Nat) {xs ys:Array Value}:∀(fs:List Field) (ks:List PK) (as bs:List AV) (o:Nat) (c:Bool),(∀f,f∈fs→f.name≠ "_")→fK (fun f:Field=>z6 P f.type) fs=some ks→fs.map (·.offset)=List.range' o fs.length→
  xs.size=o+as.length→ys.size=o+bs.length→(∀i (hi:i<as.length),Rel G k nl as[i] (xs.getD (o+i) Go.undef))→(∀i (hi:i<bs.length),Rel G k nl bs[i] (ys.getD (o+i) Go.undef))→
  FB ks as bs=some c→(Op.eqFields (d+1) xs ys fs).run P w=.ok c w
 | [], ks, as, bs, o, c, _, hk, _, _, _, _, _, h => by
  simp only[fK]at hk
  injection hk with hk
  subst hk
  cases as with
  |nil=>cases bs with
   |nil=>simp only[FB]at h;injection h with h;subst h;rfl
   |cons=>cases h
  |cons=>cases h
 | f :: fs, ks, as, bs, o, c, hn, hk, ho, GJ, kZ, zE, YZ, h => by
  simp only[fK]at hk
  split at hk
  case h_2=>cases hk
  rename_i kd ks' BT Gf
  injection hk with hk
  subst hk
  cases as with
  |nil=>cases h
  | cons a as =>
   cases bs with
   |nil=>cases h
   | cons b bs =>
    simp only[iH,eo,CR,v7]at ho
    obtain⟨ho,po⟩:=ho
    simp only[eo]at GJ kZ
    have pw:=zE 0 (by simp)
    have lP:=YZ 0 (by simp)
    simp only[Av,yd]at pw lP
    have cC:o<xs.size:=by omega
    have PR:o<ys.size:=by omega
    have ex:xs.getD o Go.undef=xs[o]:=by simp[Array.getD,cC]
    have ey:ys.getD o Go.undef=ys[o]:=by simp[Array.getD,PR]
    rw[ex]at pw
    rw[ey]at lP
    simp only[FB]at h
    simp only[Op.eqFields]
    rw[ak (hn f (by simp)),ho]
    split at h
    ·rename_i he
     have dk:=Wm (P:=P) (w:=w) pw lP he BT d
     have ih:=Wl d (xs:=xs) (ys:=ys) fs ks' as bs (o+1) c (fun g hg=>hn g (by simp[hg])) Gf po (by omega) (by omega)
      (fun i hi=>by have:=zE (i+1) (by simpa using hi);simpa[wc,Mj 1 i]using this)
      (fun i hi=>by have:=YZ (i+1) (by simpa using hi);simpa[wc,Mj 1 i]using this) h
     simp[Lj BT cC,Lj BT PR,dk,ih]
    ·rename_i he
     injection h with h
     subst h
     have dk:=Wm (P:=P) (w:=w) pw lP he BT d
     simp[Lj BT cC,Lj BT PR,dk]
    ·cases h
end
end Go.Ax
/-
  The other operations without a call: each one's run.
-/
namespace Go.Ax
open Go.RowKit
section
variable{P:Program} {B0:Nat} {w0:World} {G:aG} {k nl:Nat} {w:World} {s:ae}
theorem afW {f:AV→Option Bool} {x y:AV} {c:Bool} (h:yS f x y=some c):(f x=some true∧f y=some c)∨(f y=some true∧f x=some c):=by
 unfold yS at h
 split at h
 ·rename_i b h1 h2
  injection h with h
  subst h
  exact .inl ⟨h1,h2⟩
 ·rename_i b _ h1 h2
  injection h with h
  subst h
  exact .inr ⟨h2,h1⟩
 ·cases h
theorem ZV {x:AV} {y:Value} {c:Bool} (h:Rel G k nl x y) (hc:QZ x=some c):∃a n m,y=.slice a n m∧a.isNone=c:=by
 unfold QZ at hc
 split at hc
 ·injection hc with hc
  subst hc
  rcases h.iT with⟨_,_,rfl⟩|⟨aD,_⟩
  ·exact⟨_,_,_,rfl,rfl⟩
  ·exact absurd rfl aD
 ·rename_i aD
  injection hc with hc
  subst hc
  rcases h.iT with⟨he,_,_⟩|⟨_,a,cap,rfl,_⟩
  ·exact(aD he).elim
  ·exact⟨_,_,_,rfl,rfl⟩
 ·injection hc with hc
  subst hc
  obtain⟨blk,gr,rc,o0,rfl,_⟩:=h.mz
  exact⟨_,_,_,rfl,rfl⟩
 ·cases hc
theorem ZU {x:AV} {y:Value} {c:Bool} (h:Rel G k nl x y) (hc:QY x=some c):∃a:Option Addr,y=.pointer a∧a.isNone=c:=by
 unfold QY at hc
 split at hc
 ·injection hc with hc;subst hc;obtain rfl:=h.gB;exact⟨_,rfl,rfl⟩
 ·injection hc with hc;subst hc;obtain⟨blk,gr,rfl,_⟩:=h.sK;exact⟨_,rfl,rfl⟩
 ·injection hc with hc;subst hc;obtain⟨blk,o0,f,rfl,_⟩:=h.zJ;exact⟨_,rfl,rfl⟩
 ·cases hc
theorem ZT {x:AV} {y:Value} {c:Bool} (h:Rel G k nl x y) (hc:QX x=some c):(c=true∧y=.nilIface)∨(c=false∧∃t z,y=.iface t z):=by
 unfold QX at hc
 split at hc
 ·injection hc with hc;subst hc;obtain rfl:=h.gB;exact .inl ⟨rfl,rfl⟩
 ·injection hc with hc;subst hc;obtain⟨z,rfl,_⟩:=h.QT;exact .inr ⟨rfl,_,_,rfl⟩
 ·injection hc with hc;subst hc
  cases h with
  |cl h=>cases h with|zY=>exact .inr ⟨rfl,_,_,rfl⟩
 ·cases hc
theorem ZS {x:AV} {y:Value} {c:Bool} (h:Rel G k nl x y) (hc:QW x=some c):(c=true∧y=.nilFunc)∨(c=false∧∃f a b,y=.func f a b):=by
 unfold QW at hc
 split at hc
 ·injection hc with hc;subst hc;obtain rfl:=h.gB;exact .inl ⟨rfl,rfl⟩
 ·injection hc with hc;subst hc;obtain⟨a,b,rfl,_⟩:=h.Cb;exact .inr ⟨rfl,_,_,_,rfl⟩
 ·injection hc with hc;subst hc;obtain⟨r,rfl,_⟩:=h.QU;exact .inr ⟨rfl,_,_,_,rfl⟩
 ·cases hc
theorem u1 {t:TypeId} {x y:Value} {b:Bool} (h:∀d,(Op.equalIn (d+1) t x y).run P w=.ok b w):(Op.equal t x y).run P w=.ok b w:=by
 unfold Op.equal Op.maxDepth
 exact h 9999
theorem af1 {t e:TypeId} {a b:Option Addr} {n m n' m':Nat} (ht:P.underlying t=some (.slice e)) (h:a=none∨b=none):
  (Op.equal t (.slice a n m) (.slice b n' m')).run P w=.ok (a.isNone&&b.isNone) w:=by
 refine u1 fun d=>?_
 rcases h with rfl|rfl
 ·simp[Op.equalIn,run_underlying ht]
 ·cases a<;>simp[Op.equalIn,run_underlying ht]
theorem af0 {t e:TypeId} {a b:Option Addr} (ht:P.underlying t=some (.pointer e)) (h:a=none∨b=none):
  (Op.equal t (.pointer a) (.pointer b)).run P w=.ok (a.isNone&&b.isNone) w:=by
 refine u1 fun d=>?_
 rcases h with rfl|rfl
 ·simp[Op.equalIn,run_underlying ht]
 ·cases a<;>simp[Op.equalIn,run_underlying ht]
theorem JL {f:AV→Option Bool} {x y:AV} {c:Bool} (he:yS f x y=some c):∃p q,f x=some p∧f y=some q∧(p=true∨q=true)∧c=(p&&q):=by
 rcases afW he with⟨h1,h2⟩|⟨h1,h2⟩
 ·exact⟨_,_,h1,h2,.inl rfl,by simp⟩
 ·exact⟨_,_,h2,h1,.inr rfl,by simp⟩
theorem Oz {op:BinOp} {neg:Bool} {t:TypeId} {x y:Operand} {u v:Value} (cd:FC op=some neg) (hc:(GW x||GW y)=true) (hu:∀cs,u≠.agg cs):(eqGuard op t x y u v).run P w=.ok () w:=by
  unfold eqGuard
  cases op<;>first|(cases cd;done)|skip
  all_goals
    cases u <;> first
      |exact absurd rfl (hu _)
      |(cases v<;>first
          |rfl
          |(cases x<;>cases y<;>first
              |rfl
              |(simp[GW]at hc;done)))
theorem af2 {op:BinOp} {neg Cn:Bool} {t:TypeId} {x y:Operand} {bx fY ax ay:aF} {kd:HC} {ρ:Nat→AV} {a:Act} {c:Bool} (cd:FC op=some neg) (rx:Rel G k nl (aE ρ bx) (a.eval x)) (ry:Rel G k nl (aE ρ fY) (a.eval y))
  (hm:Fz P op neg t x y bx fY=some (.eqv Cn kd ax ay)) (he:pX kd (aE ρ ax) (aE ρ ay)=some c):
  (do eqGuard op t x y (a.eval x) (a.eval y);binOp op t (a.eval x) (a.eval y)).run P w=.ok (.bool (if Cn then !c else c)) w:=by
 have aj6:op=(if neg=true then BinOp.neq else BinOp.eql):=by
  cases op<;>simp[FC]at cd<;>subst cd<;>rfl
 have fin:∀{b:Bool},(eqGuard op t x y (a.eval x) (a.eval y)).run P w=.ok () w→(Op.equal t (a.eval x) (a.eval y)).run P w=.ok b w→
   ((∀k n,a.eval x≠.int k n)∧(∀s,a.eval x≠.string s)∧(∀k n,a.eval x≠.float k n)∧(∀k m n,a.eval x≠.complex k m n))→
   (do eqGuard op t x y (a.eval x) (a.eval y);binOp op t (a.eval x) (a.eval y)).run P w=.ok (.bool (if neg then !b else b)) w:=fun hg hq hn=>by
  have:=afZ (P:=P) (w:=w) t neg hq hn
  rw[←aj6]at this
  simp[hg,this]
 unfold Fz at hm
 split at hm<;>first|(cases hm;done)|skip
 · -- bools
  rename_i hu
  injection hm with hm
  injection hm with e1 e2 e3 e4
  subst e1 e2 e3 e4
  simp only[pX]at he
  split at he
  ·rename_i p q h1 h2
   injection he with he
   subst he
   rw[h1]at rx
   rw[h2]at ry
   have ex:=rx.gB
   have ey:=ry.gB
   rw[ex,ey]at fin⊢
   exact fin (yR (by simp) (by simp)) (u1 fun d=>run_equalIn_bool' w d t _ _ hu) ⟨by simp,by simp,by simp,by simp⟩
  ·cases he
 · -- structs
  rename_i fs hu
  split at hm
  case isFalse=>cases hm
  rename_i br
  obtain⟨c1,c2,c3,c4⟩:=br
  cases Gf:fK (fun f:Field=>z6 P f.type) fs.toList with
  |none=>rw[Gf]at hm;cases hm
  | some ks =>
   rw[Gf]at hm
   simp only[dE,fe]at hm
   injection hm with e1 e2 e3 e4
   subst e1 e2 e3 e4
   simp only[pX]at he
   split at he
   ·rename_i p q h1 h2
    rw[h1]at rx
    rw[h2]at ry
    obtain⟨xs,ex,lx,_,qx⟩:=rx.xM
    obtain⟨ys,ey,ly,_,qy⟩:=ry.xM
    rw[ex,ey]at fin⊢
    have BQ:P.fieldsOf t=fs:=by simp[Program.fieldsOf,hu]
    refine fin (run_eqGuard_agg w op t x y xs ys c2) ?_ ⟨by simp,by simp,by simp,by simp⟩
    unfold Op.equal Op.maxDepth
    rw[run_equalIn_struct w 9999 t xs ys (by rw[BQ];exact hu) c1,BQ]
    refine Wl 9998 (xs:=xs) (ys:=ys) fs.toList ks p q 0 c (fun f hf=>?_) Gf ?_ (by omega) (by omega) (fun i hi=>by simpa using qx i hi) (fun i hi=>by simpa using qy i hi) he
    ·have:=j6.1 c3 f hf
     simpa using this
    ·rw[c4,Ar]
     simp
   ·cases he
 · -- pointers
  rename_i e hu
  injection hm with hm
  injection hm with e1 e2 e3 e4
  subst e1 e2 e3 e4
  simp only[pX]at he
  obtain⟨p,q,hp,hq,pr,rfl⟩:=JL he
  obtain⟨u,ex,QE⟩:=ZU rx hp
  obtain⟨v,ey,nQ⟩:=ZU ry hq
  rw[ex,ey]at fin⊢
  have:=af0 (P:=P) (w:=w) (a:=u) (b:=v) hu (by rcases pr with rfl|rfl<;>simp_all)
  rw[QE,nQ]at this
  exact fin (yR (by simp) (by simp)) this ⟨by simp,by simp,by simp,by simp⟩
 · -- interfaces
  rename_i ms hu
  split at hm
  case isFalse=>cases hm
  rename_i PA
  injection hm with hm
  injection hm with e1 e2 e3 e4
  subst e1 e2 e3 e4
  simp only[pX]at he
  obtain⟨p,q,hp,hq,pr,rfl⟩:=JL he
  rcases ZT rx hp with⟨rfl,ex⟩|⟨rfl,tx,zx,ex⟩<;>rcases ZT ry hq with⟨rfl,ey⟩|⟨rfl,ty,zy,ey⟩<;>rw[ex,ey]at fin⊢
  ·exact fin (Oz cd PA (by simp)) (u1 fun d=>by simp[Op.equalIn,run_underlying hu]) ⟨by simp,by simp,by simp,by simp⟩
  ·exact fin (Oz cd PA (by simp)) (u1 fun d=>by simp[Op.equalIn,run_underlying hu]) ⟨by simp,by simp,by simp,by simp⟩
  ·exact fin (Oz cd PA (by simp)) (u1 fun d=>by simp[Op.equalIn,run_underlying hu]) ⟨by simp,by simp,by simp,by simp⟩
  ·rcases pr with h|h<;>cases h
 · -- slices
  rename_i e hu
  injection hm with hm
  injection hm with e1 e2 e3 e4
  subst e1 e2 e3 e4
  simp only[pX]at he
  obtain⟨p,q,hp,hq,pr,rfl⟩:=JL he
  obtain⟨u,n,m,ex,QE⟩:=ZV rx hp
  obtain⟨v,n',m',ey,nQ⟩:=ZV ry hq
  rw[ex,ey]at fin⊢
  have:=af1 (P:=P) (w:=w) (a:=u) (b:=v) (n:=n) (m:=m) (n':=n') (m':=m') hu (by rcases pr with rfl|rfl<;>simp_all)
  rw[QE,nQ]at this
  exact fin (yR (by simp) (by simp)) this ⟨by simp,by simp,by simp,by simp⟩
 · -- functions
  rename_i hu
  injection hm with hm
  injection hm with e1 e2 e3 e4
  subst e1 e2 e3 e4
  simp only[pX]at he
  obtain⟨p,q,hp,hq,pr,rfl⟩:=JL he
  rcases ZS rx hp with⟨rfl,ex⟩|⟨rfl,fx,a1,a2,ex⟩<;>rcases ZS ry hq with⟨rfl,ey⟩|⟨rfl,fy,b1,b2,ey⟩<;>rw[ex,ey]at fin⊢
  ·exact fin (yR (by simp) (by simp)) (u1 fun d=>by simp[Op.equalIn,run_underlying hu]) ⟨by simp,by simp,by simp,by simp⟩
  ·exact fin (yR (by simp) (by simp)) (u1 fun d=>by simp[Op.equalIn,run_underlying hu]) ⟨by simp,by simp,by simp,by simp⟩
  ·exact fin (yR (by simp) (by simp)) (u1 fun d=>by simp[Op.equalIn,run_underlying hu]) ⟨by simp,by simp,by simp,by simp⟩
  ·rcases pr with h|h<;>cases h
end
end Go.Ax
/-
  The other operations without a call: each one's run (2).
-/
namespace Go.Ax
open Go.RowKit
section
variable{P:Program} {B0:Nat} {w0:World} {G:aG} {k nl:Nat} {w:World} {s:ae}
theorem arl {c a b v:AV} {x y z:Value} (hx:Rel G k nl c x) (hy:Rel G k nl a y) (hz:Rel G k nl b z) (h:He c a b=some v):
  ∃t:Bool,x=.bool t∧Rel G k nl v (if t then y else z):=by
 unfold He at h
 split at h
 ·rename_i t
  obtain rfl:=hx.gB
  injection h with h
  subst h
  refine⟨t,rfl,?_⟩
  cases t
  ·exact hz
  ·exact hy
 ·cases h
theorem atV {op:UnOp} {a v:AV} {x:Value} (hx:Rel G k nl a x) (h:unOp op a=some v):∃z,(Op.unary op x).run P w=.ok z w∧Rel G k nl v z:=by
 unfold unOp at h
 split at h
 ·obtain rfl:=hx.gB
  cases op<;>simp only at h<;>first
   |(injection h with h;subst h;exact⟨_,by simp[Op.unary],.val _ rfl⟩)
   |cases h
 ·obtain rfl:=hx.gB
  cases op<;>simp only at h<;>first
   |(injection h with h;subst h;exact⟨_,by simp[Op.unary,Op.intArith],.val _ rfl⟩)
   |cases h
 ·cases h
theorem apL {a v:AV} {x:Value} (hx:Rel G k nl a x) (h:zU a=some v):Rel G k nl v x∧(x≠.pointer none∧x≠.nilIface∧x≠.nilFunc∧∀nm f c,x≠.func (.method nm) f c):=by
 unfold zU at h
 split at h
 ·injection h with h;subst h;obtain⟨_,_,rfl,_⟩:=hx.sK;exact⟨hx,by simp,by simp,by simp,by simp⟩
 ·injection h with h;subst h;obtain⟨_,_,_,rfl,_⟩:=hx.zJ;exact⟨hx,by simp,by simp,by simp,by simp⟩
 ·injection h with h;subst h;obtain⟨_,_,rfl,_⟩:=hx.Cb;exact⟨hx,by simp,by simp,by simp,by simp⟩
 ·injection h with h;subst h;obtain⟨_,rfl,_⟩:=hx.QU;exact⟨hx,by simp,by simp,by simp,by simp⟩
 ·injection h with h;subst h;obtain⟨_,rfl,_⟩:=hx.QT;exact⟨hx,by simp,by simp,by simp,by simp⟩
 ·cases h
theorem Fx {cs ds:List AV} {arr:Array Value} (h:closeAll cs=some ds) (hl:cs.length≤arr.size) (bz:∀c,c∈cs→c.bA=true) (hR:∀i (hi:i<cs.length),Rel G k nl cs[i] (arr.getD i Go.undef)):
  ds.length=cs.length∧(∀c,c∈ds→c.bA=true)∧∀i (hi:i<ds.length),bL G.I ds[i] (arr.getD i Go.undef):=by
 let _:=hl
 obtain⟨h1,h2⟩:=Jz h
 refine⟨h1,fun c hc=>?_,fun i hi=>(hR i (by omega)).close (h2 i (by omega) hi)⟩
 obtain⟨i,hi,rfl⟩:=oe hc
 exact Oi (h2 i (by omega) hi) (bz _ (gG _))
theorem ak3 {t:TypeId} {a v:AV} {x:Value} (hx:Rel G k nl a x) (h:KP t a=some v):Rel G k nl v (.iface t x):=by
 unfold KP at h
 split at h
 ·rename_i cs
  obtain⟨arr,rfl,hl,bz,hR⟩:=hx.xM
  cases hc:closeAll cs with
  |none=>rw[hc]at h;cases h
  |some ds=>
   rw[hc]at h
   injection h with h
   subst h
   obtain⟨h1,h2,h3⟩:=Fx hc (Tr hl.symm) bz hR
   exact .cl (.iface (.agg (by rw[hl,h1]) h2 h3))
 ·split at h
  ·injection h with h
   subst h
   exact .cl (.iface (hx.yO (by assumption)))
  ·cases h
theorem apv {f:FuncId} {first caps:List Operand} {af ac:List aF} {ρ:Nat→AV} {a:Act} (hR:eE G k nl ρ a) (hf:fK dG first=some af) (hc:fK dG caps=some ac) (aP:(af.map (aE ρ)).all AV.vI=true):
  Rel G k nl (.fn f (af.map (aE ρ)) (ac.map (aE ρ))) (.func (.func f) (first.toArray.map a.eval) (caps.toArray.map a.eval)):=by
 obtain⟨l1,h1⟩:=vK hf
 obtain⟨l2,h2⟩:=vK hc
 refine .fn (by simp[l1]) (by simp[l2]) (fun i hi=>?_) (fun i hi=>?_)
 ·have bG:i<af.length:=by simpa using hi
  have Gc:i<first.length:=by omega
  have:=dp (h1 i Gc bG) hR
  have tN:(aE ρ af[i]).vI=true:=j6.1 aP _ (List.mem_map_of_mem (gG bG))
  have e:(first.toArray.map a.eval).getD i Go.undef=a.eval first[i]:=by simp[Array.getD,Gc]
  rw[e]
  simp only[List.getElem_map]
  exact this.aff tN
 ·have bG:i<ac.length:=by simpa using hi
  have Gc:i<caps.length:=by omega
  have:=dp (h2 i Gc bG) hR
  have e:(caps.toArray.map a.eval).getD i Go.undef=a.eval caps[i]:=by simp[Array.getD,Gc]
  rw[e]
  simpa using this
theorem agU {t:TypeId} {fs:Array Field} {f:Field} {i n:Nat} {g:Bool} {a v:AV} {x:Value} (ht:P.underlying t=some (.struct fs)) (hf:fs[i]? =some f) (hg:tX P f.type=some g) (hn:cV P f.type=some n) (hx:Rel G k nl a x)
  (h:FF g n f.offset a=some v):∃z,(Instr.field t x i).run P w=.ok z w∧Rel G k nl v z:=by
 unfold FF at h
 split at h
 ·rename_i cs
  obtain⟨arr,rfl,hl,bz,hR⟩:=hx.xM
  rcases RM (f:=fun i=>arr.getD i Go.undef) h bz hR with⟨rfl,hle,hv⟩|⟨rfl,aC,hv⟩
  ·refine⟨_,?_,hv⟩
   simp only[Instr.field,Sem.run_bind,run_underlying ht,Result.andThen_ok,hf,asAgg,Sem.run_pure,Go.part,zK hg,bP,jL hn]
   congr 2
   apply Array.ext
   ·simp;omega
   ·intro j h1 h2
    simp at h1 h2⊢
    have:f.offset+j<arr.size:=by omega
    simp[Array.getD,this]
  ·refine⟨_,?_,hv⟩
   have:f.offset<arr.size:=by omega
   simp only[Instr.field,Sem.run_bind,run_underlying ht,Result.andThen_ok,hf,asAgg,Sem.run_pure,Go.part,zK hg,ez,db]
   simp[Array.getD,this]
 ·cases h
theorem agd {i:Nat} {a v:AV} {x:Value} (hx:Rel G k nl a x) (h:yT i a=some v):∃z,(Instr.extract x i).run P w=.ok z w∧Rel G k nl v z:=by
 unfold yT at h
 split at h
 ·rename_i vs
  obtain⟨arr,rfl,hl,hR⟩:=hx.alm
  obtain⟨h1,h2⟩:=bd.1 h
  have:=hR i h1
  rw[h2]at this
  refine⟨_,?_,this⟩
  have hi:i<arr.size:=by omega
  simp[Instr.extract,hi,Array.getD]
 ·cases h
theorem Zs {t:TypeId} {ty:TypeId} {str:Bool} {a v:AV} {x:Value} (ht:(str=false∧∃e,P.underlying t=some (.slice e))∨(str=true∧P.underlying t=some .string)) (hx:Rel G k nl a x) (h:ld str a=some v):
  ∃ z, (Builtin.len_ #[t] ty #[x]).run P w = .ok z w ∧ Rel G k nl v z := by
 unfold ld at h
 rcases ht with⟨rfl,e,ht⟩|⟨rfl,ht⟩
 ·split at h
  ·injection h with h
   subst h
   rcases hx.iT with⟨_,rfl,rfl⟩|⟨_,p,cap,rfl,_⟩
   ·exact⟨_,by simp[Builtin.len_,run_underlying ht,goInt],.val _ rfl⟩
   ·exact⟨_,by simp[Builtin.len_,run_underlying ht,goInt],.val _ rfl⟩
  ·injection h with h
   subst h
   obtain⟨blk,gr,rc,o0,rfl,_⟩:=hx.mz
   exact⟨_,by simp[Builtin.len_,run_underlying ht,goInt],.val _ rfl⟩
  ·cases h
  ·cases h
 ·split at h
  ·cases h
  ·cases h
  ·injection h with h
   subst h
   obtain rfl:=hx.gB
   exact⟨_,by simp[Builtin.len_,run_underlying ht,goInt],.val _ rfl⟩
  ·cases h
theorem tt {x:AV} {y:Value} {m n:Nat} (hx:Rel G k nl x y) (h:asNat x m=some n):∃kd z,y=.int kd z∧0≤z∧z≤m∧z.toNat=n:=by
 unfold asNat at h
 split at h
 ·obtain rfl:=hx.gB
  split at h
  ·rename_i hc
   injection h with h
   exact⟨_,_,rfl,hc.1,hc.2,h⟩
  ·cases h
 ·cases h
theorem MM {x:AV} {m n:Nat} (h:asNat x m=some n):n≤m:=by
 unfold asNat at h
 split at h
 ·split at h
  ·injection h with h;omega
  ·cases h
 ·cases h
def j7 (G:aG) (k nl:Nat):Option AV→Option Value→Prop
 |none,none=>True
 |some x,some y=>Rel G k nl x y
 |_,_=>False
theorem ad0 {isSlice:Bool} {len cap:Nat} {lo hi:Option AV} {gV bG:Option Value} {h l:Nat} (eT:j7 G k nl lo gV) (iO:j7 G k nl hi bG)
  (eh:jS hi false cap len=some h) (el:jG lo h=some l):
  (Instr.sliceBounds isSlice len cap gV bG none).run P w=.ok (l,h,cap) w:=by
 cases hi with
 | none =>
  cases bG with
  |some=>exact iO.elim
  | none =>
   simp only[jS,ez,db,fe]at eh
   subst eh
   cases lo with
   | none =>
    cases gV with
    |some=>exact eT.elim
    |none=>
     simp only[jG,fe]at el
     subst el
     simp[Instr.sliceBounds]
   | some x =>
    cases gV with
    |none=>exact eT.elim
    |some y=>
     obtain⟨kd,z,rfl,z0,z1,rfl⟩:=tt eT el
     simp[Instr.sliceBounds,run_sliceBound w kd z _ _ z0 z1]
 | some q =>
  cases bG with
  |none=>exact iO.elim
  | some p =>
   obtain⟨kd,z,rfl,z0,z1,rfl⟩:=tt iO eh
   cases lo with
   | none =>
    cases gV with
    |some=>exact eT.elim
    |none=>
     simp only[jG,fe]at el
     subst el
     simp[Instr.sliceBounds,run_sliceBound w kd z _ _ z0 z1]
   | some x =>
    cases gV with
    |none=>exact eT.elim
    |some y=>
     obtain⟨sL,z',rfl,SP,SQ,rfl⟩:=tt eT el
     simp[Instr.sliceBounds,run_sliceBound w kd z _ _ z0 z1,run_sliceBound w sL z' _ _ SP SQ]
theorem ad1 {isSlice:Bool} {len cap:Nat} {lo:Option AV} {hi mx:AV} {gV:Option Value} {bG jH:Value} {m h l:Nat} (eT:j7 G k nl lo gV) (iO:Rel G k nl hi bG) (kG:Rel G k nl mx jH) (em:asNat mx cap=some m)
  (eh:asNat hi m=some h) (el:jG lo h=some l):
  (Instr.sliceBounds isSlice len cap gV (some bG) (some jH)).run P w=.ok (l,h,m) w:=by
 obtain⟨km,zm,rfl,zm0,zm1,rfl⟩:=tt kG em
 obtain⟨kd,z,rfl,z0,z1,rfl⟩:=tt iO eh
 cases lo with
 | none =>
  cases gV with
  |some=>exact eT.elim
  |none=>
   simp only[jG,fe]at el
   subst el
   simp[Instr.sliceBounds,run_sliceBound w km zm _ _ zm0 zm1,run_sliceBound w kd z _ _ z0 z1]
 | some x =>
  cases gV with
  |none=>exact eT.elim
  |some y=>
   obtain⟨sL,z',rfl,SP,SQ,rfl⟩:=tt eT el
   simp[Instr.sliceBounds,run_sliceBound w km zm _ _ zm0 zm1,run_sliceBound w kd z _ _ z0 z1,run_sliceBound w sL z' _ _ SP SQ]
theorem fV.cut {I:gn} {es:Nat} {xs:List (List AV)} {a:Addr} {cap l h:Nat} (hx:fV I es xs a cap) (hl:l≤h) (hh:h≤xs.length) (m:Nat) (hm:h≤m) (P1:m≤cap) (q:Addr) (hq:q=if m=l then a else a.add (l*es)):
  fV I es ((xs.take h).drop l) q (m-l):=by
 cases hx with
 |empty=>
  have h0:h=0:=by simpa using hh
  have l0:l=0:=by omega
  have m0:m=0:=by omega
  subst h0 l0 m0
  exact .empty (.inl rfl)
 | @slice _ _ _ blk off _ f ho hc dY bz hI hR =>
  have hlen:((xs.take h).drop l).length=h-l:=by simp;omega
  have dZ:∀i (hi:i<((xs.take h).drop l).length),((xs.take h).drop l)[i]=xs[l+i]'(by omega):=fun i hi=>by simp
  have gg:∀r,r∈(xs.take h).drop l→r∈xs:=fun r hr=>td (HO hr)
  have e2:q=⟨blk,(if m=l then off else off+l*es),none⟩:=by
   rw[hq]
   split
   ·rfl
   ·rw[ig]
  rw[e2]
  refine bL.slice (fun i j=>f (l+i) j) (.inl rfl) (by omega) (fun r hr=>dY r (gg r hr)) (fun r hr=>bz r (gg r hr)) (fun i hi j hj=>?_) (fun i hi j hj=>?_)
  ·have aD:m≠l:=by omega
   have bG:l+i<xs.length:=by omega
   have dO:j<(xs[l+i]).length:=by simp only[dZ i hi]at hj;exact hj
   rw[aq aD]
   have:=hI (l+i) bG j dO
   rw[gH]at this
   rw[←this]
   congr 1
   omega
  ·have bG:l+i<xs.length:=by omega
   have dO:j<(xs[l+i]).length:=by simp only[dZ i hi]at hj;exact hj
   have:=hR (l+i) bG j dO
   simp only[dZ i hi]
   exact this
end
end Go.Ax
/-
  The other operations without a call: slices, elements, structs and conversions.
-/
namespace Go.Ax
open Go.RowKit
section
variable{P:Program} {B0:Nat} {w0:World} {G:aG} {k nl:Nat} {w:World} {s:ae}
theorem T0 {x:AV} {m m' n:Nat} (h:asNat x m=some n) (hm:m≤m'):asNat x m'=some n:=by
 unfold asNat at h⊢
 split at h
 ·split at h
  ·rename_i hc
   rw[ak ⟨hc.1,by omega⟩]
   exact h
  ·cases h
 ·cases h
theorem Fw (es:Nat):∀(n:Nat) (cs:List AV),n*es≤cs.length→(chunks es n cs).length=n∧(∀r,r∈chunks es n cs→r.length=es)∧(∀r,r∈chunks es n cs→∀c,c∈r→c∈cs)∧
  ∀i (hi:i<(chunks es n cs).length) j (hj:j<(chunks es n cs)[i].length),∃h:i*es+j<cs.length,(chunks es n cs)[i][j]=cs[i*es+j]
 |0,cs,_=>by simp[chunks]
 | n + 1, cs, h => by
  have hs:(n+1)*es=n*es+es:=by rw[gH,rQ]
  obtain⟨a1,a2,a3,a4⟩:=Fw es n (cs.drop es) (by simp;omega)
  refine⟨by simp[chunks,a1],fun r hr=>?_,fun r hr c hc=>?_,fun i hi j hj=>?_⟩
  ·simp only[chunks,er]at hr
   rcases hr with rfl|hr
   ·simp;omega
   ·exact a2 r hr
  ·simp only[chunks,er]at hr
   rcases hr with rfl|hr
   ·exact td hc
   ·exact HO (a3 r hr c hc)
  ·cases i with
   |zero=>
    simp only[chunks,yd,fc]at hj⊢
    exact⟨by omega,by simp⟩
   |succ i=>
    simp only[chunks,HJ,eo]at hi hj⊢
    obtain⟨h1,h2⟩:=a4 i (by omega) j hj
    simp only[tc]at h1
    have e:(i+1)*es+j=es+(i*es+j):=by rw[gH,rQ];omega
    refine⟨by omega,?_⟩
    rw[h2,List.getElem_drop]
    simp only[e]
theorem R7 {I:gn} {cs:List AV} {es n cap blk o0 off:Nat} {f:Nat→Value} (bz:∀c,c∈cs→c.bA=true) (hI:∀i,i<cs.length→I blk (o0+i)=some (f i)) (hR:∀i (hi:i<cs.length),bL I cs[i] (f i))
  (hle:off+n*es≤cs.length) (hc:n≤cap):fV I es (chunks es n (cs.drop off)) ⟨blk,o0+off,none⟩ cap:=by
 obtain⟨a1,a2,a3,a4⟩:=Fw es n (cs.drop off) (by simp;omega)
 have:fV I es (chunks es n (cs.drop off)) ⟨blk,o0+off,none⟩ cap:=by
  refine bL.slice (fun i j=>f (off+(i*es+j))) (.inl rfl) (by omega) a2 (fun r hr c hc=>bz c (HO (a3 r hr c hc))) (fun i hi j hj=>?_) (fun i hi j hj=>?_)
  ·obtain⟨h1,_⟩:=a4 i hi j hj
   simp only[tc]at h1
   have:=hI (off+(i*es+j)) (by omega)
   rw[←this]
   congr 1
   omega
  ·obtain⟨h1,h2⟩:=a4 i hi j hj
   rw[h2,List.getElem_drop]
   exact hR _ _
 exact this
theorem abP {I:gn} {es:Nat} {xs:List (List AV)} {a:Addr} {n:Nat} (hn:xs.length=n) (h:bL I (.slice .any es xs) (.slice (some a) n n)):bL I (.slice .full es xs) (.slice (some a) n n):=by
 subst hn
 generalize hN:xs.length=N at h
 cases h with
 |slice f ho hc dY bz hI hR=>exact .slice f (.inr ⟨rfl,rfl⟩) hc dY bz hI hR
 |empty=>exact .empty (.inr rfl)
def acB (P:Program) (t:TypeId):CX→Prop
 |.str=>P.underlying t=some .string
 |.sl es=>∃e,P.underlying t=some (.slice e)∧cV P e=some es
 |.arr n es=>∃e,P.underlying t=some (.array n e)∧cV P e=some es
theorem ao5 {lo:Option AV} {h l:Nat} (e:jG lo h=some l):l≤h:=by
 cases lo with
 |none=>simp only[jG,fe]at e;omega
 |some y=>exact MM e
theorem apB {mx:Option AV} {cap m:Nat} (e:pG mx cap=some m):m≤cap:=by
 cases mx with
 |none=>simp only[pG,fe]at e;omega
 |some y=>exact MM e
theorem A2 {isSlice:Bool} {len cap cap':Nat} {lo hi mx:Option AV} {gV bG jH:Option Value} {m h l:Nat} (eT:j7 G k nl lo gV) (iO:j7 G k nl hi bG) (kG:j7 G k nl mx jH)
  (fI:len≤cap) (XN:cap≤cap') (em:pG mx cap=some m) (eh:jS hi mx.isSome m len=some h) (el:jG lo h=some l):
  l≤h∧h≤m∧m≤cap∧(Instr.sliceBounds isSlice len cap' gV bG jH).run P w=.ok (l,h,if mx.isSome then m else cap') w:=by
 have hm:=apB em
 have hl:=ao5 el
 have hh:h≤m:=by
  cases hi with
  |none=>
   cases mx with
   |none=>simp only[jS,pG,pR,ez,db,fe]at eh em;omega
   |some=>simp[jS]at eh
  |some y=>exact MM eh
 refine⟨hl,hh,hm,?_⟩
 cases mx with
 | none =>
  cases jH with
  |some=>exact kG.elim
  |none=>
   simp only[pG,fe]at em
   subst em
   simp only[pR,ez,db]
   refine ad0 eT iO ?_ el
   cases hi with
   |none=>exact eh
   |some y=>exact T0 eh XN
 | some mv =>
  cases jH with
  |none=>exact kG.elim
  | some mv' =>
   cases hi with
   |none=>simp[jS]at eh
   | some hv =>
    cases bG with
    |none=>exact iO.elim
    |some nQ=>
     simp only[we,bP]
     exact ad1 eT iO kG (T0 em XN) eh el
theorem att {t:TypeId} {q:ByteArray} {x:Value} {v:AV} {lo hi mx:Option AV} {gV bG jH:Option Value} (ht:P.underlying t=some .string)
  (hx:Rel G k nl (.v (.string q)) x) (eT:j7 G k nl lo gV) (iO:j7 G k nl hi bG) (kG:j7 G k nl mx jH) (h:gD .str (.v (.string q)) lo hi mx=some v):
  ∃z,(Instr.sliceAt t x gV bG jH).run P w=.ok z w∧Rel G k nl v z:=by
 obtain rfl:=hx.gB
 simp only[gD]at h
 split at h
 ·cases h
 rename_i hs
 obtain⟨hh,eh,h⟩:=dj.1 h
 obtain⟨l,el,rfl⟩:=aT.1 h
 have hn:mx=none:=by cases mx with|none=>rfl|some=>simp at hs
 subst hn
 obtain⟨h1,h2,h3,hb⟩:=A2 (P:=P) (w:=w) (isSlice:=false) (len:=q.size) (cap:=q.size) (cap':=q.size) eT iO kG (aH _) (aH _) rfl eh el
 have jl:jH=none:=by cases jH with|none=>rfl|some=>exact kG.elim
 subst jl
 refine⟨_,?_,.val _ rfl⟩
 simp only[Instr.sliceAt,Sem.run_bind,run_underlying ht,Result.andThen_ok,Instr.slice,pR,ez,db,Sem.run_pure]
 simp[hb]
theorem ats {t e:TypeId} {e0:Nat} {o:Own} {es:Nat} {xs:List (List AV)} {x:Value} {v:AV} {lo hi mx:Option AV} {gV bG jH:Option Value} (ht:P.underlying t=some (.slice e)) (bV:cV P e=some e0)
  (hx:Rel G k nl (.slice o es xs) x) (eT:j7 G k nl lo gV) (iO:j7 G k nl hi bG) (kG:j7 G k nl mx jH) (h:gD (.sl e0) (.slice o es xs) lo hi mx=some v):
  ∃z,(Instr.sliceAt t x gV bG jH).run P w=.ok z w∧Rel G k nl v z:=by
 simp only[gD]at h
 split at h
 case isFalse=>cases h
 rename_i F9
 obtain⟨m,em,h⟩:=dj.1 h
 obtain⟨hh,eh,h⟩:=dj.1 h
 obtain⟨l,el,rfl⟩:=aT.1 h
 rcases hx.iT with⟨rfl,rfl,rfl⟩|⟨aD,p,cap,rfl,rm,fI,my,xl⟩
 ·obtain⟨h1,h2,h3,hb⟩:=A2 (P:=P) (w:=w) (isSlice:=true) (len:=0) (cap:=0) (cap':=0) eT iO kG (aH _) (aH _) em eh el
  have h0:hh=0:=by simp at h3;omega
  have l0:l=0:=by omega
  have m0:m=0:=by simp at h3;omega
  subst h0 l0 m0
  have hv:Rel G k nl (.slice .aA es []) (.slice none 0 0):=.cl .aA
  have jy:(.slice (um .aA mx.isSome (0==0&&0==([]:List (List AV)).length) (0==0&&decide (0<0))) es (([].take 0).drop 0):AV)=.slice .aA es []:=by
   cases mx<;>simp[um,Cx,Own.isNil]
  refine⟨.slice none 0 0,?_,by rw[jy];exact hv⟩
  simp only[Instr.sliceAt,Sem.run_bind,run_underlying ht,Result.andThen_ok,Instr.slice,hb]
  cases mx<;>simp[jL bV]
 ·have heq:es=e0:=by
   rcases F9 with h0|h0
   ·cases o<;>simp_all [Own.isNil]
   ·exact h0
  subst heq
  obtain⟨h1,h2,h3,hb⟩:=A2 (P:=P) (w:=w) (isSlice:=true) (len:=xs.length) (cap:=xs.length) (cap':=cap) eT iO kG (aH _) fI em eh el
  have hlen:((xs.take hh).drop l).length=hh-l:=by simp;omega
  refine⟨.slice (some (if(if mx.isSome then m else cap)=l then p else p.add (l*es))) (hh-l) ((if mx.isSome then m else cap)-l),?_,?_⟩
  ·simp only[Instr.sliceAt,Sem.run_bind,run_underlying ht,Result.andThen_ok,Instr.slice,hb,jL bV,dE,Sem.run_pure]
   congr 2
   split<;>split<;>rfl
  ·generalize hM:(if mx.isSome then m else cap)=M
   have hMh:hh≤M:=by rw[←hM];split<;>omega
   have ss:bL G.I (.slice .any es ((xs.take hh).drop l)) (.slice (some (if M=l then p else p.add (l*es))) (hh-l) (M-l)):=by
    have:=fV.cut my h1 (by omega) M hMh (by rw[←hM];split<;>omega) _ rfl
    unfold fV at this
    rwa [hlen]at this
   cases mx with
   | none =>
    simp only[pR,ez,db]at hM
    subst hM
    simp only[um,pR,ez,db]
    by_cases hw:(l==0&&hh==xs.length)=true
    ·simp only[dB,N8]at hw
     obtain⟨rfl,rfl⟩:=hw
     have e1:(xs.take xs.length).drop 0=xs:=by simp
     have e2:(if cap=0 then p else p.add (0*es))=p:=by
      split
      ·rfl
      ·rw[wu (rm (by omega)),ig];simp
     rw[e1,e2]
     simp only[Tz]
     cases o with
     |aA=>exact absurd rfl aD
     |any=>exact hx
     |full=>exact .cl my
     |tok d g=>simpa[Cx]using hx
    ·have ho:Cx o (l==0&&hh==xs.length)=.any:=by
      cases o with
      |aA=>exact absurd rfl aD
      |any=>rfl
      |full=>rfl
      |tok d g=>simp only[Cx];rw[aq hw]
     rw[ho]
     exact .cl ss
   | some mv =>
    simp only[we,bP]at hM
    subst hM
    have zp:o.isNil=false:=by cases o<;>simp_all [Own.isNil]
    simp only[um,we,bP,zp,ez,db]
    by_cases hw:(hh==m&&decide (0<m))=true
    ·rw[ak hw]
     simp only[dB,N8]at hw
     obtain⟨rfl,_⟩:=hw
     exact .cl (abP hlen ss)
    ·rw[aq hw]
     exact .cl ss
theorem atr {t e:TypeId} {e0 d b off es n cap:Nat} {x:Value} {v:AV} {lo hi mx:Option AV} {gV bG jH:Option Value} (ht:P.underlying t=some (.slice e)) (bV:cV P e=some e0)
  (hx:Rel G k nl (.aO d b off es n cap) x) (eT:j7 G k nl lo gV) (iO:j7 G k nl hi bG) (kG:j7 G k nl mx jH) (h:gD (.sl e0) (.aO d b off es n cap) lo hi mx=some v):
  ∃z,(Instr.sliceAt t x gV bG jH).run P w=.ok z w∧Rel G k nl v z:=by
 simp only[gD]at h
 split at h
 case isFalse=>cases h
 rename_i F9
 subst F9
 obtain⟨m,em,h⟩:=dj.1 h
 obtain⟨hh,eh,h⟩:=dj.1 h
 obtain⟨l,el,rfl⟩:=aT.1 h
 obtain⟨blk,gr,rc,o0,rfl,hd,hg,cG,hn,hc,hw,ho⟩:=hx.mz
 obtain⟨h1,h2,h3,hb⟩:=A2 (P:=P) (w:=w) (isSlice:=true) (len:=n) (cap:=max n cap) (cap':=rc) eT iO kG (CT _ _) (Nat.max_le.2 ⟨hn,hc⟩) em eh el
 have P4:m≤if mx.isSome then m else rc:=by
  split
  ·exact aH _
  ·exact kt h3 (Nat.max_le.2 ⟨hn,hc⟩)
 generalize hM:(if mx.isSome then m else rc)=M at hb P4
 refine⟨.slice (some ⟨blk,if M=l then o0 else o0+l*es,none⟩) (hh-l) (M-l),?_,.aO gr hd hg cG (Ms (kt h2 P4) l) (Ms P4 l) (fun e1 e2=>by omega) (fun hp=>?_)⟩
 ·simp only[Instr.sliceAt,Sem.run_bind,run_underlying ht,Result.andThen_ok,Instr.slice,hb,jL bV,dE,Sem.run_pure,ig]
  congr 2
  split<;>rfl
 ·have Yb:l<m:=by omega
  have h0:o0=off:=ho (by omega)
  rw[aq (by omega),aq (by omega),h0]
theorem atq {t e:TypeId} {N es:Nat} {a v:AV} {x:Value} {lo hi mx:Option AV} {gV bG jH:Option Value} (ht:P.underlying t=some (.array N e)) (bV:cV P e=some es)
  (hx:Rel G k nl a x) (eT:j7 G k nl lo gV) (iO:j7 G k nl hi bG) (kG:j7 G k nl mx jH) (h:gD (.arr N es) a lo hi mx=some v):
  ∃z,(Instr.sliceAt t x gV bG jH).run P w=.ok z w∧Rel G k nl v z:=by
 unfold gD at h
 split at h<;>try contradiction
 ·rename_i n0 es0 d b off hk
  injection hk with nM iP
  subst nM iP
  split at h
  ·cases h
  rename_i hs
  have hn:mx=none:=by cases mx with|none=>rfl|some=>simp at hs
  subst hn
  obtain⟨hh,eh,h⟩:=dj.1 h
  obtain⟨l,el,rfl⟩:=aT.1 h
  obtain⟨blk,gr,rfl,hd,hg,cG⟩:=hx.sK
  obtain⟨h1,h2,h3,hb⟩:=A2 (P:=P) (w:=w) (isSlice:=false) (len:=N) (cap:=N) (cap':=N) eT iO kG (aH _) (aH _) rfl eh el
  refine⟨_,?_,.aO gr hd hg cG (Ms h2 l) (aH _) (fun e1 e2=>by omega) (fun _=>rfl)⟩
  simp only[Instr.sliceAt,Sem.run_bind,run_underlying ht,Result.andThen_ok,Instr.sureAddr,hb,jL bV,Sem.run_pure,ig,pR,ez,db]
  congr 3
  split<;>rfl
 ·rename_i n0 es0 cs off hk
  injection hk with nM iP
  subst nM iP
  split at h
  ·cases h
  rename_i hs
  have hn:mx=none:=by cases mx with|none=>rfl|some=>simp at hs
  subst hn
  obtain⟨hh,eh,h⟩:=dj.1 h
  obtain⟨l,el,h⟩:=dj.1 h
  split at h
  case isFalse=>cases h
  rename_i hle
  injection h with h
  subst h
  obtain⟨blk,o0,f,rfl,bz,hI,hR⟩:=hx.zJ
  obtain⟨h1,h2,h3,hb⟩:=A2 (P:=P) (w:=w) (isSlice:=false) (len:=N) (cap:=N) (cap':=N) eT iO kG (aH _) (aH _) rfl eh el
  have hmul:l*es+(hh-l)*es≤N*es:=by
   rw[←gH]
   exact oQ _ (by omega)
  have cm:=R7 (cap:=N-l) bz hI hR (es:=es) (n:=hh-l) (off:=off+l*es) (by omega) (Ms h2 l)
  have hlen:=(Fw es (hh-l) (cs.drop (off+l*es)) (by simp;omega)).1
  refine⟨.slice (some (if N=l then⟨blk,o0+off,none⟩else⟨blk,o0+(off+l*es),none⟩)) (hh-l) (N-l),?_,?_⟩
  ·simp only[Instr.sliceAt,Sem.run_bind,run_underlying ht,Result.andThen_ok,Instr.sureAddr,hb,jL bV,Sem.run_pure,ig,pR,ez,db]
   congr 3
   split
   ·rfl
   ·congr 1;omega
  ·by_cases hN:N=l
   ·subst hN
    have h0:hh=N:=by omega
    subst h0
    simp only[HZ,chunks,bP]
    exact .cl (.slice (xs:=[]) (fun _ _=>Go.undef) (.inl rfl) (aH _) (fun r hr=>by cases hr) (fun r hr=>by cases hr) (fun i hi=>absurd hi (df _)) (fun i hi=>absurd hi (df _)))
   ·rw[aq hN]
    have:=Rel.cl (G:=G) (k:=k) (nl:=nl) cm
    unfold fV at cm
    rw[hlen]at cm
    exact .cl cm
theorem Sr {t:TypeId} {kd:CX} {a v:AV} {x:Value} {lo hi mx:Option AV} {gV bG jH:Option Value} (ht:acB P t kd)
  (hx:Rel G k nl a x) (eT:j7 G k nl lo gV) (iO:j7 G k nl hi bG) (kG:j7 G k nl mx jH) (h:gD kd a lo hi mx=some v):
  ∃z,(Instr.sliceAt t x gV bG jH).run P w=.ok z w∧Rel G k nl v z:=by
 cases kd with
 | str =>
  cases a with
  |v q=>
   cases q with
   |string q=>exact att ht hx eT iO kG h
   |_=>simp[gD]at h
  |_=>simp[gD]at h
 |sl e0=>
  obtain⟨e,ht,hs⟩:=ht
  cases a with
  |slice o es xs=>exact ats ht hs hx eT iO kG h
  |aO d b off es n cap=>exact atr ht hs hx eT iO kG h
  |_=>simp[gD]at h
 |arr n es=>
  obtain⟨e,ht,hs⟩:=ht
  exact atq ht hs hx eT iO kG h
end
end Go.Ax
