/-
  append: to a slice that is nil or full, and to one with the right to grow.
-/
import Derived.Test.YtjgbdhjcpcmajaaGreatDoorT1
import Derived.Laws.IdiomCopy
import Derived.Laws.StructEq
import Derived.Laws.IdiomStrings
import Derived.Laws.BytesString
import Derived.Laws.Slices
set_option linter.unusedSimpArgs false
set_option linter.unusedVariables false
set_option maxRecDepth 100000
namespace Go.Ax
open Go.RowKit
section
variable{P:Program} {B0:Nat} {w0:World} {G:aG} {k nl:Nat} {w:World} {s:ae}
theorem fL.flat {I:fU} {es:Nat} {xs:List (List AV)} {a:Addr} {cap:Nat} (h:fL I es xs a cap) (dQ:0<es):
  (0<cap→a.spot=none)∧xs.length≤cap∧(∀r,r∈xs→r.length=es)∧(∀r,r∈xs→∀c,c∈r→c.bt=true)∧
  ∃g:Nat→Value,(∀c,c<xs.length*es→I a.block (a.off+c)=some (g c))∧∀i (hi:i<xs.length) j (hj:j<xs[i].length),bJ I (xs[i][j]) (g (i*es+j)):=by
 cases h with
 |empty=>exact⟨fun h=>absurd h (zU _),aH _,by simp,by simp,fun _=>Go.undef,fun c hc=>by simp at hc,fun i hi=>absurd hi (da _)⟩
 | slice f ho hc hlen br hI hR =>
  refine⟨fun _=>rfl,hc,hlen,br,fun c=>f (c/es) (c%es),fun c aC=>?_,fun i hi j hj=>?_⟩
  ·have h1:c/es<xs.length:=by rw[Ss dQ];exact aC
   have h2:c%es<(xs[c/es]).length:=by rw[hlen _ (gu h1)];exact sZ _ dQ
   have:=hI (c/es) h1 (c%es) h2
   rw[vP,xV]at this
   exact this
  ·have dH:j<es:=by rw[←hlen _ (gu hi)];exact hj
   have e1:(i*es+j)/es=i:=by rw[SB,Nat.mul_add_div dQ,LF dH];omega
   have e2:(i*es+j)%es=j:=by rw[SB,Nat.mul_add_mod,HG dH]
   simp only[e1,e2]
   exact hR i hi j hj
theorem fL.mk {I:fU} {es:Nat} {xs:List (List AV)} {blk off cap:Nat} (g:Nat→Value) (hc:xs.length≤cap) (hlen:∀r,r∈xs→r.length=es) (br:∀r,r∈xs→∀c,c∈r→c.bt=true)
  (hI:∀c,c<xs.length*es→I blk (off+c)=some (g c)) (hR:∀i (hi:i<xs.length) j (hj:j<xs[i].length),bJ I (xs[i][j]) (g (i*es+j))):fL I es xs ⟨blk,off,none⟩ cap:=by
 refine .slice (fun i j=>g (i*es+j)) (.inl rfl) hc hlen br (fun i hi j hj=>?_) hR
 rw[vP]
 refine hI _ ?_
 have dH:j<es:=by rw[←hlen _ (gu hi)];exact hj
 calc i*es+j<i*es+es:=by omega
  _=(i+1)*es:=by rw[gv,rz]
  _≤xs.length*es:=oB _ hi
def both (n:Nat) (f g:Nat→Value):Nat→Value:=fun c=>if c<n then f c else g (c-n)
theorem adf (n m:Nat) (f g:Nat→Value):(List.range n).map f++(List.range m).map g=(List.range (n+m)).map (both n f g):=by
 apply Lp
 ·simp
 ·intro i h1 h2
  simp only[cj,bY,pE]at h1
  by_cases hi:i<n
  ·rw[um (by simpa using hi)]
   simp[both,hi]
  ·rw[uo (by simpa using hi)]
   simp[both,hi]
theorem akS {I:fU} {es:Nat} {xs ys:List (List AV)} {f g:Nat→Value} (hx:∀i (hi:i<xs.length) j (hj:j<xs[i].length),bJ I (xs[i][j]) (f (i*es+j)))
  (hy:∀i (hi:i<ys.length) j (hj:j<ys[i].length),bJ I (ys[i][j]) (g (i*es+j))) (lx:∀r,r∈xs→r.length=es) (i:Nat) (hi:i<(xs++ys).length) (j:Nat) (hj:j<(xs++ys)[i].length):
  bJ I ((xs++ys)[i][j]) (both (xs.length*es) f g (i*es+j)):=by
 by_cases h:i<xs.length
 ·have e:(xs++ys)[i]=xs[i]:=um h
  have dH:j<xs[i].length:=by rw[←e];exact hj
  have aC:i*es+j<xs.length*es:=by
   have:j<es:=by rw[←lx _ (gu h)];exact dH
   calc i*es+j<i*es+es:=by omega
    _=(i+1)*es:=by rw[gv,rz]
    _≤xs.length*es:=oB _ h
  have:=hx i h j dH
  simp only[both,aC,bB,e]
  exact this
 ·have h':i-xs.length<ys.length:=by simp at hi;omega
  have e:(xs++ys)[i]=ys[i-xs.length]:=uo (by omega)
  have dH:j<ys[i-xs.length].length:=by rw[←e];exact hj
  have nw:¬i*es+j<xs.length*es:=by
   have:=oB es (LG h)
   omega
  have he:i*es+j-xs.length*es=(i-xs.length)*es+j:=by
   have:=oB es (LG h)
   rw[Nat.sub_mul];omega
  have:=hy _ h' j dH
  simp only[both,nw,cE,he,e]
  exact this
theorem Wv (need:Nat):∀(r c:Nat),c≤need+(need+768)/4→Builtin.growBy need r c≤need+(need+768)/4
 |0,c,h=>h
 |r+1,c,h=>by
  simp only[Builtin.growBy]
  split
  ·exact h
  ·exact Wv need r _ (by omega)
theorem ao5 (need QA:Nat) (h:QA<need):Builtin.nextslicecap need QA≤2*need+1000:=by
 unfold Builtin.nextslicecap
 split
 ·omega
 ·split
  ·omega
  ·have:=Wv need 4 QA (by omega)
   omega
structure uh (P:Program) (t e:TypeId) (es fN:Nat) (z:Value):Prop where
 slice:P.underlying t=some (.slice e)
 size:cK P e=some es
 bytes:yk P e=some fN
 zero:(P.info? e).bind (·.zero)=some z
 at5:z.cells.size=es
 pos:0<es
 adl:0<fN
 ble:fN≤4096
theorem xG {e:TypeId} {z:Value} (h:(P.info? e).bind (·.zero)=some z) (w:World):(zeroValue e).run P w=.ok z w:=by
 cases hi:P.info? e with
 |none=>rw[hi]at h;cases h
 |some i=>
  rw[hi]at h
  simp only[eK]at h
  simp[zeroValue,typeInfo,hi,h]
theorem Gz {e:TypeId} {b:Nat} (h:yk P e=some b):∃i,P.info? e=some i∧i.bytes=b:=by
 unfold yk at h
 cases hi:P.info? e with
 |none=>rw[hi]at h;cases h
 |some i=>
  rw[hi]at h
  simp only[dK,fl]at h
  exact⟨i,rfl,h⟩
theorem N6 {a:Addr} {n es len cap:Nat} {g:Nat→Value} (h:∀c,c<n*es→w.cell? (a.add c)=some (g c)):
  (Builtin.firstCells es n (.slice (some a) len cap)).run P w=.ok ((List.range (n*es)).map g).toArray w:=by
 simp only[Builtin.firstCells]
 exact run_loadCells w a (n*es) g h
theorem vY {t u e ty:TypeId} {es fN n cap:Nat} {z:Value} (hT:uh P t e es fN z) (hu:∃e',P.underlying u=some (.slice e')) (base b:Option Addr) (c:Nat) (hle:n≤cap):
  (Builtin.append_ #[t, u] ty #[.slice base n cap, .slice b 0 c]).run P w = .ok (.slice base n cap) w := by
 obtain⟨e',hu⟩:=hu
 obtain⟨i,hi,_⟩:=Gz hT.bytes
 have hs:i.size=es:=by have:=hT.size;unfold cK at this;rw[hi]at this;simpa using this
 have hf : ∀ b : Option Addr, (Builtin.firstCells es 0 (.slice b 0 c)).run P w = .ok #[] w := fun b => by
  cases b with
  |none=>simp[Builtin.firstCells]
  |some a=>simp[Builtin.firstCells,loadCells,loadCellsFrom]
 cases base with
 |none=>simp[Builtin.append_,run_underlying hT.slice,run_underlying hu,sizeOf,typeInfo,hi,hs,Builtin.lenOf,hle,hf]
 |some a=>simp[Builtin.append_,run_underlying hT.slice,run_underlying hu,sizeOf,typeInfo,hi,hs,Builtin.lenOf,hle,hf,storeCells]
theorem L2 {t u e ty:TypeId} {es fN n m cap c blk:Nat} {z:Value} {a:Addr} {g:Nat→Value} {arr:Array Value} {tb:TypeId} (hT:uh P t e es fN z) (hu:∃e',P.underlying u=some (.slice e')) (hle:n+m≤cap)
  (hg:∀c,c<m*es→w.cell? (a.add c)=some (g c)) (hw:w.heap[blk]? =some (.cells arr tb)) (bR:(n+m)*es≤arr.size) (h1:∀c,c<m*es→(g c).oneCell'=true):
  (Builtin.append_ #[t, u] ty #[.slice (some ⟨blk, 0, none⟩) n cap, .slice (some a) m c]).run P w = .ok (.slice (some ⟨blk, 0, none⟩) (n + m) cap) (w.setCells blk (n * es) ((List.range (m * es)).map g)) := by
 obtain⟨e',hu⟩:=hu
 obtain⟨i,hi,_⟩:=Gz hT.bytes
 have hs:i.size=es:=by have:=hT.size;unfold cK at this;rw[hi]at this;simpa using this
 have OV:=N6 (P:=P) (len:=m) (cap:=c) hg
 have cp:=run_storeCells_cells (P:=P) blk (n*es) ((List.range (m*es)).map g) 0 w (fun j hj=>by
   rw[cell_of_heap hw]
   have dH:j<m*es:=by simpa using hj
   rw[gv]at bR
   simp;omega) (fun j _=>frozen_of_heap hw) (fun v hv=>by
   simp only[cC,nP]at hv
   obtain⟨c,hc,rfl⟩:=hv
   exact h1 c hc)
 rw[vQ]at cp
 simp[Builtin.append_,run_underlying hT.slice,run_underlying hu,sizeOf,typeInfo,hi,hs,Builtin.lenOf,hle,OV,gY,cp]
theorem yg {t e:TypeId} {es fN n cap:Nat} {z:Value} (hT:uh P t e es fN z) (lh:¬n≤cap) (oh:n≤most):Builtin.nextslicecap n cap*fN≤2^48:=by
 have avq:=ao5 n cap (by omega)
 unfold most at oh
 have h1:Builtin.nextslicecap n cap*fN≤(2*4294967296+1000)*4096:=Nat.mul_le_mul (by omega) hT.ble
 omega
theorem vX {t u e ty:TypeId} {es fN n m cap c:Nat} {z:Value} {base:Option Addr} {a:Addr} {f g:Nat→Value} (hT:uh P t e es fN z) (hu:∃e',P.underlying u=some (.slice e')) (lh:¬n+m≤cap) (oh:Builtin.nextslicecap (n+m) cap*fN≤2^48)
  (hf:∀b,base=some b→∀c,c<n*es→w.cell? (b.add c)=some (f c)) (jO:base=none→n=0) (hg:∀c,c<m*es→w.cell? (a.add c)=some (g c)):
  ∃ (newCap : Nat) (rest : List Value), n + m ≤ newCap ∧ rest.length = (newCap - (n + m)) * es ∧
   (Builtin.append_ #[t, u] ty #[.slice base n cap, .slice (some a) m c]).run P w =
    .ok (.slice (some ⟨w.heap.size,0,none⟩) (n+m) newCap) (w.drew.alloc (.cells ((List.range (n*es+m*es)).map (both (n*es) f g)++rest).toArray e)):=by
 obtain⟨e',hu⟩:=hu
 obtain⟨i,hi,uY⟩:=Gz hT.bytes
 have hs:i.size=es:=by have:=hT.size;unfold cK at this;rw[hi]at this;simpa using this
 have hz:i.zero=some z:=by have:=hT.zero;rw[hi]at this;simpa using this
 have avk:cap<n+m:=by omega
 have aii:¬Builtin.nextslicecap (n+m) cap*i.bytes>2^48:=by rw[uY];omega
 have jz:¬i.bytes=0:=by have:=hT.adl;omega
 have OV:=N6 (P:=P) (w:=w.drew) (n:=m) (es:=es) (a:=a) (g:=g) (len:=m) (cap:=c) hg
 have hold:(Builtin.firstCells es n (.slice base n cap)).run P w.drew=.ok ((List.range (n*es)).map f).toArray w.drew:=by
  cases base with
  |none=>rw[jO rfl];simp[Builtin.firstCells]
  |some b=>exact N6 (P:=P) (w:=w.drew) (hf b rfl)
 have fp:n+m≤(Question.appendCap (n+m) cap e).cut (w.tape w.drawn (Question.appendCap (n+m) cap e)):=by simp[Question.cut]
 generalize J4:(Question.appendCap (n+m) cap e).cut (w.tape w.drawn (Question.appendCap (n+m) cap e))=newCap at fp
 refine⟨newCap,(Builtin.zeroCells z.cells (newCap-(n+m))).toList,fp,by simp[Builtin.zeroCells,hT.at5],?_⟩
 have Bl:(Question.appendCap (n+m) cap e).forced=false:=rfl
 simp only[Builtin.append_,Se,Hr,Lx,Sem.run_bind,Sem.run_pure,Result.andThen_ok,run_underlying hT.slice,run_underlying hu,jt hT.size,
  Builtin.lenOf,ef,lh,↓reduceIte]
 simp[typeInfo,hi,jz,aii,hold,OV,newRow,Bl,J4,xG hT.zero]
 rw[←adf]
 congr 2
 apply Array.ext'
 simp
theorem Y3 {l:List (Option Nat)} {g:Nat} {x:Option Nat} (h:none∈l) (hg:x=none∨∃n,l[g]? =some (some n)):none∈l.set g x:=by
 obtain⟨j,hj⟩:=mY h
 have hl:=(bd.1 hj).1
 by_cases e:j=g
 ·subst e
  rcases hg with rfl|⟨n,hn⟩
  ·exact bQ (i:=j) (by simp[hl])
  ·rw[hj]at hn;injection hn with hn;cases hn
 ·exact bQ (i:=j) (by rw[eI (qi e)];exact hj)
theorem vS.tokens {G':aG} {w':World} {d g0:Nat} {r:Rec} {gr:cH} (aI:vS B0 G d r gr w) (hle:bA d gr.nl G G') (hk:jv (· =.tok d g0) G w G' w') {toks':List (Option Nat)} {tk':List kR}
  (hl:tk'.length=toks'.length) (aC:none∈r.toks→none∈toks')
  (hg:∀(g:Nat) (n:Option Nat) (T:kR),toks'[g]? =some n→tk'[g]? =some T→(g≠g0∧r.toks[g]? =some n∧gr.tk[g]? =some T)∨(g=g0∧zX B0 G' d g n T w')):
  vS B0 G' d {r with toks:=toks'} {gr with tk:=tk'} w':=by
 refine⟨aI.dX,hl,fun b cs blk e1 e2=>?_,fun b blk e1 e2=>aC (aI.full b blk e1 e2),fun g n T e1 e2=>?_,fun i b e1=>?_,aI.mz⟩
 ·exact(aI.box b cs blk e1 e2).kept hle hk (fun _ e=>by cases e)
 ·rcases hg g n T e1 e2 with⟨aB,h1,h2⟩|⟨_,h⟩
  ·have ht:=aI.tok g n T h1 h2
   have hs:∀(hn:n.isSome=true),G'.own T.blk=some (.tok d g)∧w'.heap[T.blk]? =w.heap[T.blk]? ∧∀i,G.I T.blk i=none→G'.I T.blk i=none:=fun hn=>by
    obtain⟨m,hm⟩:=oC.1 hn
    exact hk _ _ (ht.2 m hm).2.1 (fun e=>by injection e with _ e;exact aB e)
   exact ht.cJ (fun hn=>(hs hn).1) (fun hn=>(hs hn).2.1) (fun hn=>(hs hn).2.2)
  ·exact h
 ·have hm:=aI.mark i b e1
  obtain⟨k1,k2,_⟩:=hk _ _ hm.2.1 (fun e=>by cases e)
  exact hm.cJ k1 k2
def aG.qj (G:aG) (b n:Nat) (f:Nat→Value):fU:=fun c i=>if c=b then(if i<n then some (f i)else none)else G.I c i
theorem Nt {xs ys:List (List AV)} {es:Nat} {I:fU} {f g:Nat→Value} {blk cap:Nat} (lx:∀r,r∈xs→r.length=es) (ly:∀r,r∈ys→r.length=es)
  (cx:∀r,r∈xs→∀c,c∈r→c.bt=true) (cy:∀r,r∈ys→∀c,c∈r→c.bt=true) (fp:xs.length+ys.length≤cap)
  (hI:∀c,c<(xs.length+ys.length)*es→I blk c=some (both (xs.length*es) f g c))
  (hx:∀i (hi:i<xs.length) j (hj:j<xs[i].length),bJ I (xs[i][j]) (f (i*es+j))) (hy:∀i (hi:i<ys.length) j (hj:j<ys[i].length),bJ I (ys[i][j]) (g (i*es+j))):
  fL I es (xs++ys) ⟨blk,0,none⟩ cap:=by
 refine fL.mk (both (xs.length*es) f g) (by simpa using fp) (fun r hr=>?_) (fun r hr=>?_) (fun c hc=>?_) (akS hx hy lx)
 ·rcases dD.1 hr with h|h
  ·exact lx r h
  ·exact ly r h
 ·rcases dD.1 hr with h|h
  ·exact cx r h
  ·exact cy r h
 ·rw[fB]
  exact hI c (by simpa using hc)
theorem SZ (h : At P B0 w0 G k nl s w) {es n : Nat} {xs ys : List (List AV)} {f g : Nat → Value} {newCap : Nat} {rest : List Value} {e : TypeId} (dQ : 0 < es) (hn : n = xs.length + ys.length)
    (lx:∀r,r∈xs→r.length=es) (ly:∀r,r∈ys→r.length=es) (cx:∀r,r∈xs→∀c,c∈r→c.bt=true) (cy:∀r,r∈ys→∀c,c∈r→c.bt=true)
    (hx:∀i (hi:i<xs.length) j (hj:j<xs[i].length),bJ G.I (xs[i][j]) (f (i*es+j))) (hy:∀i (hi:i<ys.length) j (hj:j<ys[i].length),bJ G.I (ys[i][j]) (g (i*es+j)))
    (fp:n≤newCap) (gV:rest.length=(newCap-n)*es):
    db P B0 w0 G k nl s (s.kT k n) (w.drew.alloc (.cells ((List.range (xs.length*es+ys.length*es)).map (both (xs.length*es) f g)++rest).toArray e))
      (.slice (.tok k (s.jI k)) es (xs++ys)) (.slice (some ⟨w.heap.size,0,none⟩) n newCap):=by
  obtain⟨r,gr,hr,hg⟩:=h.cI (aH k)
  have aI:=h.rel.cI k r gr hr hg
  have si:s.jI k=r.toks.length:=by simp[ae.jI,hr]
  have Bu:xs.length*es+ys.length*es=n*es:=by rw[hn,gv]
  let T:kR:=⟨some n,w.heap.size,newCap,es⟩
  let G':aG:={G with I:=G.qj w.heap.size (n*es) (both (xs.length*es) f g),ag:=G.ag.modify k fun q=>{q with tk:=q.tk++[T]},own:=fun b=>if b=w.heap.size then some (.tok k r.toks.length)else G.own b}
  generalize wQ:((List.range (xs.length*es+ys.length*es)).map (both (xs.length*es) f g)++rest).toArray=arr
  have rV:arr.size=newCap*es:=by
    rw[←wQ]
    simp only[xU,cj,bY,pE,gV,Bu]
    rw[←gv]
    congr 1
    omega
  have dR:∀c,c<n*es→arr[c]? =some (both (xs.length*es) f g c):=fun c hc=>by
    rw[←wQ,Bu]
    simp only[Se]
    rw[dC (by simpa using hc)]
    simp[hc]
  let w':=w.drew.alloc (.cells arr e)
  have hI:∀b i v,G.I b i=some v→G'.I b i=some v:=fun b i v e=>by
    have:=h.rel.sS e
    simp only[G',aG.qj]
    rw[aq (by omega)]
    exact e
  have hk:jv (· =.tok k r.toks.length) G w G' w':=fun b o e _=>by
    have aC:=h.rel.eM b o e
    refine⟨by simp only[G'];rw[aq (by omega)];exact e,Below.heap_alloc w.drew _ _ aC,fun i e=>?_⟩
    simp only[G',aG.qj]
    rw[aq (by omega)]
    exact e
  have eZ:iN gr {gr with tk:=gr.tk++[T]}:=⟨fun b blk e=>e,fun g T e=>⟨T,my e,.refl T⟩,rfl,fun _ _ e=>e⟩
  have gy:w'.heap[w.heap.size]? =some (.cells arr e):=World.alloc_heap_new w.drew _
  have u0:bA k gr.nl G G':=⟨hI,fun d q _ e=>by
    show∃bI,(G.ag.modify k _)[d]? =some bI∧_
    rw[dM]
    by_cases hd:k=d
    · subst hd
      rw[hg]at e
      injection e with e
      subst e
      exact⟨_,by rw[ak rfl,hg];rfl,eZ,fun _=>rfl⟩
    · exact⟨q,by rw[aq hd];exact e,.refl q,fun _=>rfl⟩,fun _ _ _ e=>e⟩
  have fR:=h.rel.bp (G':=G') (w':=w') hr hg (fun r=>{r with toks:=r.toks++[some n]}) (fun q=>{q with tk:=q.tk++[T]}) (· =.tok k r.toks.length) rfl rfl hI eZ rfl hk
    (fun o ho=>.inr ⟨_,ho⟩) ?_ (fun b i v e=>?_) (((Below.refl _ _).drew).alloc h.rel.low _) (fun b o e=>?_)
  · obtain ⟨mL, jC⟩ := fR
    have hlen:(s.kT k n).ag.length=s.ag.length:=by simp[ae.kT,ae.bp]
    obtain⟨gc,nu,wW⟩:=h.cur
    rw[hg]at nu
    injection nu with nu
    subst nu
    have gw:G'.ag[k]? =some {gr with tk:=gr.tk++[T]}:=by
      show(G.ag.modify k _)[k]? =_
      rw[dM,ak rfl,hg];rfl
    have lh:({gr with tk:=gr.tk++[T]}:cH).tk[r.toks.length]? =some T:=by
      show(gr.tk++[T])[r.toks.length]? =_
      rw[←aI.iI,gD (aH _)]
      simp
    refine⟨G',h.to mL (jC _ _) hlen,jC _ _,by simp[ae.kT,ae.bp],?_⟩
    rw[si]
    have hc:fL G'.I es (xs++ys) ⟨w.heap.size,0,none⟩ newCap:=
      Nt lx ly cx cy (by omega) (fun c hc=>by
        simp only[G',aG.qj]
        rw[ak trivial,ak (by rw[hn];exact hc)]) (fun i hi j hj=>(hx i hi j hj).mono hI) (fun i hi j hj=>(hy i hi j hj).mono hI)
    have hl:(xs++ys).length=n:=by simp[hn]
    have:=Rel.tok (G:=G') (k:=k) (nl:=nl) (d:=k) (g:=r.toks.length) (es:=es) (xs:=xs++ys) (a:=⟨w.heap.size,0,none⟩) (cap:=newCap) T _ (aH _) gw lh rfl hc
      (fun m hm=>by
        simp only[T]at hm
        injection hm with hm
        subst hm
        exact⟨by omega,fun _=>⟨rfl,rfl⟩⟩)
    rw[hl]at this
    exact this
  · refine aI.tokens (toks' := r.toks ++ [some n]) (tk' := gr.tk ++ [T]) u0 hk (by simp [aI.iI]) (pF _) (fun g m T' e1 e2 => ?_)
    rcases ek e1 with⟨aC,e1⟩|⟨rfl,rfl⟩
    · refine .inl ⟨by omega, e1, ?_⟩
      rcases ek e2 with⟨_,e2⟩|⟨hb,_⟩
      · exact e2
      · rw[aI.iI]at hb;omega
    · have : T' = T := by
        rcases ek e2 with⟨hb,_⟩|⟨_,e⟩
        · rw[aI.iI]at hb;omega
        · exact e
      subst this
      refine .inr ⟨rfl,rfl,fun m hm=>?_⟩
      injection hm with hm
      subst hm
      refine⟨h.rel.low,by simp[G',T],fun i hi=>?_,fp,dQ,arr,e,gy,rV⟩
      simp only[G',aG.qj,T]at hi⊢
      rw[ak trivial,aq (by omega)]
  · simp only [G', aG.qj] at e
    split at e
    · rename_i hb
      subst hb
      split at e
      · rename_i hi
        injection e with e
        subst e
        rw[cell_of_heap gy]
        exact dR i hi
      · cases e
    · rename_i hb
      have:=h.rel.fc b i v e
      rw[E9 (w:=w) (Below.heap_alloc w.drew _ _ (h.rel.sS e)) rfl]
      exact this
  · simp only [G'] at e
    split at e
    · rename_i hb;subst hb;simp[w']
    · have:=h.rel.eM b o e;simp[w'];omega
theorem B4 {α:Type} {l:List α} {i j:Nat} {x y:α} (h:(l.set i x)[j]? =some y):(j≠i∧l[j]? =some y)∨(j=i∧y=x∧i<l.length):=by
 rw[sW]at h
 by_cases eo:i=j
 ·rw[ak eo]at h
  split at h
  ·injection h with h
   exact .inr ⟨eo.symm,h.symm,by assumption⟩
  ·cases h
 ·rw[aq eo]at h
  exact .inl ⟨fun e=>eo e.symm,h⟩
theorem GZ {α:Type} {l:List α} {i:Nat} {x y:α} (h:l[i]? =some y):(l.set i x)[i]? =some x:=by
 rw[sW,ak rfl,ak (bd.1 h).1]
theorem aa3 (h : At P B0 w0 G k nl s w) {d g n m : Nat} {r : Rec} {gr : cH} {T T' : kR} {w' : World} {I' : fU} {own' : Nat → Option rA} (hd : d ≤ k) (hr : s.ag[d]? = some r) (hg : G.ag[d]? = some gr)
    (jm:r.toks[g]? =some (some n)) (lh:gr.tk[g]? =some T) (WJ:T'.n=some m) (aC:n<m) (dQ:T'.es=T.es)
    (hI:∀b i v,G.I b i=some v→I' b i=some v) (hk:∀b o,G.own b=some o→o≠.tok d g→own' b=some o∧w'.heap[b]? =w.heap[b]? ∧∀i,G.I b i=none→I' b i=none)
    (gy:zX B0 {G with I:=I',ag:=G.ag.modify d fun q=>{q with tk:=q.tk.set g T'},own:=own'} d g (some m) T' w')
    (FW:∀b i v,I' b i=some v→w'.cell? ⟨b,i,none⟩=some v) (hb:Below B0 w w') (F9:∀b o,own' b=some o→b<w'.heap.size)
    {es:Nat} {xs:List (List AV)} {a:Addr} {cap:Nat} (FQ:T'.es=es) (hlen:xs.length=m) (hc:fL I' es xs a cap) (ha:a=⟨T'.blk,0,none⟩) (fp:cap=T'.cap):
    db P B0 w0 G k nl s (s.mf d g (some m)) w' (.slice (.tok d g) es xs) (.slice (some a) m cap):=by
  have aI:=h.rel.cI d r gr hr hg
  have oQ:T.n=some n:=(aI.tok g (some n) T jm lh).1
  let G':aG:={G with I:=I',ag:=G.ag.modify d fun q=>{q with tk:=q.tk.set g T'},own:=own'}
  have aj9:vT T T':=⟨dQ,.inr (.inr ⟨n,m,oQ,WJ,aC⟩)⟩
  have eZ:iN gr {gr with tk:=gr.tk.set g T'}:=⟨fun b blk e=>e,fun j U e=>by
    by_cases hj:j=g
    · subst hj
      rw[lh]at e
      injection e with e
      subst e
      exact⟨T',GZ lh,aj9⟩
    · exact⟨U,by show(gr.tk.set g T')[j]? =_;rw[sW,aq (fun e=>hj e.symm)];exact e,.refl U⟩,rfl,fun _ _ e=>e⟩
  have u5:jv (· =.tok d g) G w G' w':=hk
  have u0:bA d gr.nl G G':=⟨hI,fun d' q _ e=>by
    show∃bI,(G.ag.modify d _)[d']? =some bI∧_
    rw[dM]
    by_cases wS:d=d'
    · subst wS
      rw[hg]at e
      injection e with e
      subst e
      exact⟨_,by rw[ak rfl,hg];rfl,eZ,fun _=>rfl⟩
    · exact⟨q,by rw[aq wS];exact e,.refl q,fun _=>rfl⟩,fun _ _ _ e=>e⟩
  have fR:=h.rel.bp (G':=G') (w':=w') hr hg (fun r=>{r with toks:=r.toks.set g (some m)}) (fun q=>{q with tk:=q.tk.set g T'}) (· =.tok d g) rfl rfl hI eZ rfl u5
    (fun o ho=>.inr ⟨_,ho⟩) ?_ FW hb F9
  · obtain ⟨mL, jC⟩ := fR
    have ai4:(s.mf d g (some m)).ag.length=s.ag.length:=by simp[ae.mf,ae.bp]
    have gw:G'.ag[d]? =some {gr with tk:=gr.tk.set g T'}:=by
      show(G.ag.modify d _)[d]? =_
      rw[dM,ak rfl,hg];rfl
    refine⟨G',h.to mL (jC _ _) ai4,jC _ _,by simp[ae.mf,ae.bp],?_⟩
    have:=Rel.tok (G:=G') (k:=k) (nl:=nl) (d:=d) (g:=g) (es:=es) (xs:=xs) (a:=a) (cap:=cap) T' _ hd gw (GZ lh) FQ hc
      (fun p hp=>by
        rw[WJ]at hp
        injection hp with hp
        subst hp
        exact⟨by omega,fun _=>⟨ha,fp⟩⟩)
    rw[hlen]at this
    exact this
  · refine aI.tokens (toks' := r.toks.set g (some m)) (tk' := gr.tk.set g T') u0 u5 (by simp [aI.iI]) (fun hm => Y3 hm (.inr ⟨_, jm⟩)) (fun j p U e1 e2 => ?_)
    rcases B4 e1 with⟨aB,e1⟩|⟨rfl,rfl,_⟩
    · rcases B4 e2 with ⟨_, e2⟩ | ⟨hj, _⟩
      · exact .inl ⟨aB,e1,e2⟩
      · exact absurd hj aB
    · rcases B4 e2 with ⟨hj, _⟩ | ⟨_, rfl, _⟩
      · exact absurd rfl hj
      · exact .inr ⟨rfl,gy⟩
theorem ack (h:At P B0 w0 G k nl s w) {d g n es:Nat} {xs ys:List (List AV)} {fx fy:Nat→Value} {r:Rec} {gr:cH} {T:kR} (hd:d≤k) (hr:s.ag[d]? =some r) (hg:G.ag[d]? =some gr)
  (jm:r.toks[g]? =some (some xs.length)) (lh:gr.tk[g]? =some T) (Bb:T.es=es) (dQ:0<es) (hn:n=xs.length+ys.length) (jS:0<ys.length) (lu:n≤T.cap)
  (lx:∀r,r∈xs→r.length=es) (ly:∀r,r∈ys→r.length=es) (cx:∀r,r∈xs→∀c,c∈r→c.bt=true) (cy:∀r,r∈ys→∀c,c∈r→c.bt=true)
  (xk:∀c,c<xs.length*es→G.I T.blk c=some (fx c))
  (hx:∀i (hi:i<xs.length) j (hj:j<xs[i].length),bJ G.I (xs[i][j]) (fx (i*es+j))) (hy:∀i (hi:i<ys.length) j (hj:j<ys[i].length),bJ G.I (ys[i][j]) (fy (i*es+j))):
  db P B0 w0 G k nl s (s.mf d g (some n)) (w.setCells T.blk (xs.length*es) ((List.range (ys.length*es)).map fy)) (.slice (.tok d g) es (xs++ys)) (.slice (some ⟨T.blk,0,none⟩) n T.cap):=by
 have aI:=h.rel.cI d r gr hr hg
 have hTR:=aI.tok g (some xs.length) T jm lh
 obtain⟨oQ,rP⟩:=hTR
 obtain⟨t1,t2,t3,t4,t5,arr,ty,t6,t7⟩:=rP _ rfl
 rw[Bb]at t3 t7
 have Bu:n*es=xs.length*es+ys.length*es:=by rw[hn,gv]
 let I':fU:=fun b i=>if b=T.blk∧xs.length*es≤i∧i<n*es then some (fy (i-xs.length*es))else G.I b i
 have hI:∀b i v,G.I b i=some v→I' b i=some v:=fun b i v e=>by
  simp only[I']
  split
  ·rename_i hc
   obtain⟨rfl,h1,_⟩:=hc
   rw[t3 i h1]at e
   cases e
  ·exact e
 have yS:Below B0 w (w.setCells T.blk (xs.length*es) ((List.range (ys.length*es)).map fy)):=DC t1 _ _ _
 have ajo:=FO ((List.range (ys.length*es)).map fy) (xs.length*es) arr w t6
 have Ga:∀b,b≠T.blk→(w.setCells T.blk (xs.length*es) ((List.range (ys.length*es)).map fy)).heap[b]? =w.heap[b]? :=fun b hb=>FP hb _ _ _
 have ava:n*es≤arr.size:=by rw[t7];exact oB _ lu
 have bH:=World.cell?_setCells_in T.blk ((List.range (ys.length*es)).map fy) (xs.length*es) w (fun j hj=>by
  rw[cell_of_heap t6]
  have dH:j<ys.length*es:=by simpa using hj
  simp;omega)
 refine aa3 h (T:=T) (T':={T with n:=some n}) (I':=I') (own':=G.own) hd hr hg jm lh rfl (by omega) rfl hI (fun b o ho aB=>?_) ?_ (fun b i v e=>?_) yS (fun b o ho=>?_) Bb (by simp[hn]) ?_ rfl rfl
 ·have hb:b≠T.blk:=by
   rintro rfl
   rw[t2]at ho
   injection ho with ho
   exact aB ho.symm
  refine⟨ho,Ga b hb,fun i e=>?_⟩
  simp only[I']
  rw[aq (fun hc=>hb hc.1)]
  exact e
 ·refine⟨rfl,fun p hp=>?_⟩
  injection hp with hp
  subst hp
  refine⟨t1,t2,fun i hi=>?_,lu,t5,_,ty,ajo,by rw[xA,t7,Bb]⟩
  simp only[Bb]at hi
  simp only[I']
  rw[aq (fun hc=>by omega)]
  exact t3 i (by omega)
 ·simp only[I']at e
  split at e
  ·rename_i hc
   obtain⟨rfl,h1,h2⟩:=hc
   injection e with e
   subst e
   have:=bH (i-xs.length*es) (by simp;omega)
   rw[show xs.length*es+(i-xs.length*es)=i by omega]at this
   rw[this]
   simp
  ·rename_i hc
   have hv:=h.rel.fc b i v e
   rw[World.cell?_setCells_out]
   ·exact hv
   ·intro hb _
    have hb:b=T.blk:=hb
    subst hb
    simp only[bY,pE]
    rcases Sy i (xs.length*es)with h1|h1
    ·exact .inl h1
    ·exact .inr (by
      have:¬i<n*es:=fun h2=>hc ⟨rfl,h1,h2⟩
      show xs.length*es+ys.length*es≤i
      omega)
 ·rw[G5]
  exact h.rel.eM b o ho
 ·refine Nt (f:=fx) (g:=fy) lx ly cx cy (by omega) (fun c hc=>?_) (fun i hi j hj=>(hx i hi j hj).mono hI) (fun i hi j hj=>(hy i hi j hj).mono hI)
  rw[←hn]at hc
  simp only[I',both]
  by_cases aC:c<xs.length*es
  ·rw[aq (fun hh=>by omega),ak aC]
   exact xk c aC
  ·rw[ak ⟨trivial,by omega,hc⟩,aq aC]
theorem acj (h:At P B0 w0 G k nl s w) {d g n es:Nat} {xs ys:List (List AV)} {f fy:Nat→Value} {r:Rec} {gr:cH} {T:kR} {newCap:Nat} {rest:List Value} {e:TypeId} (hd:d≤k) (hr:s.ag[d]? =some r) (hg:G.ag[d]? =some gr)
  (jm:r.toks[g]? =some (some xs.length)) (lh:gr.tk[g]? =some T) (Bb:T.es=es) (dQ:0<es) (hn:n=xs.length+ys.length) (jS:0<ys.length)
  (lx:∀r,r∈xs→r.length=es) (ly:∀r,r∈ys→r.length=es) (cx:∀r,r∈xs→∀c,c∈r→c.bt=true) (cy:∀r,r∈ys→∀c,c∈r→c.bt=true)
  (hx:∀i (hi:i<xs.length) j (hj:j<xs[i].length),bJ G.I (xs[i][j]) (f (i*es+j))) (hy:∀i (hi:i<ys.length) j (hj:j<ys[i].length),bJ G.I (ys[i][j]) (fy (i*es+j)))
  (fp:n≤newCap) (gV:rest.length=(newCap-n)*es):
  db P B0 w0 G k nl s (s.mf d g (some n)) (w.drew.alloc (.cells ((List.range (xs.length*es+ys.length*es)).map (both (xs.length*es) f fy)++rest).toArray e))
   (.slice (.tok d g) es (xs++ys)) (.slice (some ⟨w.heap.size,0,none⟩) n newCap):=by
 have aI:=h.rel.cI d r gr hr hg
 obtain⟨oQ,rP⟩:=aI.tok g (some xs.length) T jm lh
 obtain⟨t1,t2,t3,t4,t5,_,_,t6,_⟩:=rP _ rfl
 have au7:T.blk<w.heap.size:=(uf.1 t6).1
 have Bu:xs.length*es+ys.length*es=n*es:=by rw[hn,gv]
 generalize wQ:((List.range (xs.length*es+ys.length*es)).map (both (xs.length*es) f fy)++rest).toArray=arr
 have rV:arr.size=newCap*es:=by
  rw[←wQ]
  simp only[xU,cj,bY,pE,gV,Bu]
  rw[←gv]
  congr 1
  omega
 have dR:∀c,c<n*es→arr[c]? =some (both (xs.length*es) f fy c):=fun c hc=>by
  rw[←wQ,Bu]
  simp only[Se]
  rw[dC (by simpa using hc)]
  simp[hc]
 have gy:(w.drew.alloc (.cells arr e)).heap[w.heap.size]? =some (.cells arr e):=World.alloc_heap_new w.drew _
 let I':fU:=G.qj w.heap.size (n*es) (both (xs.length*es) f fy)
 have hI:∀b i v,G.I b i=some v→I' b i=some v:=fun b i v e=>by
  have:=h.rel.sS e
  simp only[I',aG.qj]
  rw[aq (by omega)]
  exact e
 refine aa3 h (T:=T) (T':=⟨some n,w.heap.size,newCap,es⟩) (I':=I') (own':=fun b=>if b=w.heap.size then some (.tok d g)else if b=T.blk then none else G.own b) hd hr hg jm lh rfl (by omega) Bb.symm hI
  (fun b o ho aB=>?_) ?_ (fun b i v e=>?_) (((Below.refl _ _).drew).alloc h.rel.low _) (fun b o ho=>?_) rfl (by simp[hn]) ?_ rfl rfl
 ·have aC:=h.rel.eM b o ho
  have hb:b≠T.blk:=by
   rintro rfl
   rw[t2]at ho
   injection ho with ho
   exact aB ho.symm
  refine⟨by rw[aq (by omega),aq hb];exact ho,Below.heap_alloc w.drew _ _ aC,fun i e=>?_⟩
  simp only[I',aG.qj]
  rw[aq (by omega)]
  exact e
 ·refine⟨rfl,fun p hp=>?_⟩
  injection hp with hp
  subst hp
  refine⟨h.rel.low,by simp,fun i hi=>?_,fp,dQ,arr,e,gy,rV⟩
  simp only[I',aG.qj]at hi⊢
  rw[ak trivial,aq (by omega)]
 ·simp only[I',aG.qj]at e
  split at e
  ·rename_i hb
   subst hb
   split at e
   ·rename_i hi
    injection e with e
    subst e
    rw[cell_of_heap gy]
    exact dR i hi
   ·cases e
  ·rename_i hb
   have:=h.rel.fc b i v e
   rw[E9 (w:=w) (Below.heap_alloc w.drew _ _ (h.rel.sS e)) rfl]
   exact this
 ·split at ho
  ·rename_i hb;subst hb;simp
  ·split at ho
   ·cases ho
   ·have:=h.rel.eM b o ho;simp;omega
 ·refine Nt (f:=f) (g:=fy) lx ly cx cy (by omega) (fun c hc=>?_) (fun i hi j hj=>(hx i hi j hj).mono hI) (fun i hi j hj=>(hy i hi j hj).mono hI)
  simp only[I',aG.qj]
  rw[ak trivial,ak (by rw[hn];exact hc)]
theorem vV {a:Addr} (h:a.spot=none):a=⟨a.block,a.off,none⟩:=by
 cases a
 cases h
 rfl
theorem acm (h:At P B0 w0 G k nl s w) {t u e ty:TypeId} {es fN:Nat} {z:Value} (hT:uh P t e es fN z) (hu:∃e',P.underlying u=some (.slice e')) {a b v:AV} {x y:Value} {s':ae}
  (hx:Rel G k nl a x) (hy:Rel G k nl b y) (ha:eD s es a b=some (v,s')):
  ∃ x' w', (Builtin.append_ #[t, u] ty #[x, y]).run P w = .ok x' w' ∧ db P B0 w0 G k nl s s' w' v x' := by
 unfold eD at ha
 split at ha
 case h_2=>cases ha
 rename_i o e1 xs oy e2 ys
 split at ha
 ·rename_i kF
  have kF:ys=[]:=by simpa using kF
  subst kF
  injection ha with ha
  injection ha with h1 h2
  subst h1 h2
  have lV:db P B0 w0 G k nl s s w (.slice o e1 xs) x:=⟨G,h,bA.refl _ _ _,rfl,hx⟩
  have oj:∃bb c,y=.slice bb 0 c:=by
   rcases hy.iF with⟨_,_,rfl⟩|⟨_,aa,c,rfl,_⟩
   ·exact⟨_,_,rfl⟩
   ·exact⟨_,_,rfl⟩
  obtain⟨bb,c,rfl⟩:=oj
  rcases hx.iF with⟨_,_,rfl⟩|⟨_,aa,cap,rfl,_,hle,_⟩
  ·exact⟨_,w,vY hT hu none bb c (aH _),lV⟩
  ·exact⟨_,w,vY hT hu (some aa) bb c hle,lV⟩
 ·rename_i kF
  split at ha
  case isFalse=>cases ha
  rename_i bn
  obtain⟨rfl,ns,oh⟩:=bn
  have jS:0<ys.length:=by
   cases ys with
   |nil=>simp at kF
   |cons=>simp
  rcases hy.iF with⟨_,hn,_⟩|⟨_,ay,cy,rfl,_,_,oj,_⟩
  ·rw[hn]at jS;simp at jS
  obtain⟨vi,Bi,ly,oG,fy,vh,pg⟩:=fL.flat oj hT.pos
  have uW:ay=⟨ay.block,ay.off,none⟩:=vV (vi (by omega))
  have jB:∀c,c<ys.length*e2→w.cell? (ay.add c)=some (fy c):=fun c hc=>by
   rw[uW,gY];exact h.rel.fc _ _ _ (vh c hc)
  cases o with
  |any=>cases ha
  | aA =>
   injection ha with ha
   injection ha with h1 h2
   subst h1 h2
   rcases hx.iF with⟨_,rfl,rfl⟩|⟨aB,_⟩
   ·obtain⟨newCap,rest,fp,gV,cY⟩:=vX (P:=P) (w:=w) (ty:=ty) (n:=0) (m:=ys.length) (cap:=0) (c:=cy) (base:=none) (a:=ay) (f:=fun _=>Go.undef) (g:=fy) hT hu (by omega)
     (yg hT (by omega) (by simpa using oh)) (fun _ e=>by cases e) (fun _=>rfl) jB
    refine⟨_,_,cY,?_⟩
    have:=SZ h (xs:=[]) (ys:=ys) (f:=fun _=>Go.undef) (g:=fy) (n:=ys.length) (newCap:=newCap) (rest:=rest) (e:=e) hT.pos (by simp) (by simp) ly (by simp) oG (by simp) pg (by omega) (by simpa using gV)
    rw[h.gI]
    simpa using this
   ·exact absurd rfl aB
  | full =>
   injection ha with ha
   injection ha with h1 h2
   subst h1 h2
   rcases hx.iF with⟨aB,_⟩|⟨_,ax,cx,rfl,_,_,lZ,wU⟩
   ·cases aB
   have mG:=wU rfl
   subst mG
   have:e1=e2:=by
    rcases ns with h|h
    ·cases h
    ·exact h
   subst this
   obtain⟨PU,_,lx,wA,fx,xk,xl⟩:=fL.flat lZ hT.pos
   have Bg:∀c,c<xs.length*e1→ax=⟨ax.block,ax.off,none⟩:=fun c hc=>vV (PU (by
    rcases vR xs.length with h0|h0
    ·rw[h0]at hc;simp at hc
    ·exact h0))
   obtain⟨newCap,rest,fp,gV,cY⟩:=vX (P:=P) (w:=w) (ty:=ty) (n:=xs.length) (m:=ys.length) (cap:=xs.length) (c:=cy) (base:=some ax) (a:=ay) (f:=fx) (g:=fy) hT hu (by omega)
    (yg hT (by omega) oh) (fun b e c hc=>by injection e with e;subst e;rw[Bg c hc,gY];exact h.rel.fc _ _ _ (xk c hc)) (fun e=>by cases e) jB
   refine⟨_,_,cY,?_⟩
   rw[h.gI]
   exact SZ h hT.pos rfl lx ly wA oG xl pg fp gV
  | tok d g =>
   simp only at ha
   split at ha
   case isFalse=>cases ha
   rename_i zk
   injection ha with ha
   injection ha with h1 h2
   subst h1 h2
   have:e1=e2:=by
    rcases ns with h|h
    ·cases h
    ·exact h
   subst this
   cases hx with
   |cl hx=>cases hx with
    |slice f ho=>rcases ho with h|⟨h,_⟩<;>cases h
    |empty ho=>rcases ho with h|h<;>cases h
   |tok T gr hd hg ht dQ lZ hn=>
   rename_i ax cx
   obtain⟨r,bI,hr,bu⟩:=h.cI hd
   rw[hg]at bu
   injection bu with bu
   subst bu
   have aI:=h.rel.cI d r gr hr hg
   have jm:r.toks[g]? =some (some xs.length):=by
    have:=zk.2
    simp only[ae.tok,hr,eK]at this
    cases hq:r.toks[g]? with
    |none=>rw[hq]at this;cases this
    |some q=>rw[hq]at this;simp only[Option.join_some]at this;rw[this]
   obtain⟨oQ,rP⟩:=aI.tok g (some xs.length) T jm ht
   obtain⟨hle,heq⟩:=hn _ oQ
   obtain⟨rfl,rfl⟩:=heq rfl
   obtain⟨_,_,lx,wA,fx,xk,xl⟩:=fL.flat lZ hT.pos
   obtain⟨_,_,_,_,_,arr,tb,t6,t7⟩:=rP _ rfl
   by_cases lu:xs.length+ys.length≤T.cap
   ·refine⟨_,_,L2 (P:=P) (ty:=ty) (n:=xs.length) (m:=ys.length) (c:=cy) (a:=ay) (g:=fy) hT hu lu jB t6 (by rw[t7,dQ];exact oB _ lu) (fun c hc=>?_),?_⟩
    ·have h1:c/e1<ys.length:=by rw[Ss hT.pos];exact hc
     have h2:c%e1<(ys[c/e1]).length:=by rw[ly _ (gu h1)];exact sZ _ hT.pos
     have hr:=pg _ h1 _ h2
     rw[xV]at hr
     exact KO (G:=G) (k:=k) (nl:=nl) (.cl hr) (oG _ (gu h1) _ (gu h2))
    ·exact ack h hd hr hg jm ht dQ hT.pos rfl jS lu lx ly wA oG (fun c hc=>by have:=xk c hc;simpa using this) xl pg
   ·obtain⟨newCap,rest,fp,gV,cY⟩:=vX (P:=P) (w:=w) (ty:=ty) (n:=xs.length) (m:=ys.length) (cap:=T.cap) (c:=cy) (base:=some ⟨T.blk,0,none⟩) (a:=ay) (f:=fx) (g:=fy) hT hu lu
     (yg hT (by omega) oh) (fun b e c hc=>by injection e with e;subst e;rw[gY];exact h.rel.fc _ _ _ (xk c hc)) (fun e=>by cases e) jB
    refine⟨_,_,cY,?_⟩
    exact acj h hd hr hg jm ht dQ hT.pos rfl jS lx ly wA oG xl pg fp gV
end
end Go.Ax
/-
  append to a slice whose elements may be written to: a box that takes another's place.
-/
namespace Go.Ax
open Go.RowKit
section
variable{P:Program} {B0:Nat} {w0:World} {G:aG} {k nl:Nat} {w:World} {s:ae}
theorem At.drew (h:At P B0 w0 G k nl s w):At P B0 w0 G k nl s w.drew:=⟨h.rel.drew,h.len,h.cur⟩
theorem yH {α:Type} {es:Nat} (h0:0<es):∀{ys:List (List α)},(∀r,r∈ys→r.length=es)→ys.flatten.length=ys.length*es∧∀c (hc:c<ys.flatten.length),∃(h1:c/es<ys.length) (h2:c%es<(ys[c/es]).length),ys.flatten[c]=ys[c/es][c%es]
 |[],_=>⟨by simp,fun c hc=>by simp at hc⟩
 | r :: ys, h => by
  have hr:=h r (by simp)
  obtain⟨e1,e2⟩:=yH h0 (ys:=ys) fun q hq=>h q (jf _ hq)
  refine⟨by rw[sV,cj,e1,hr,dO,gv];omega,fun c hc=>?_⟩
  by_cases aC:c<es
  ·have d1:c/es=0:=LF aC
   have d2:c%es=c:=HG aC
   refine⟨by rw[d1];simp,by simp only[d1,d2,xQ];omega,?_⟩
   simp only[d1,d2,xQ,sV]
   rw[um (by omega)]
  ·have nw:es≤c:=by omega
   have d1:c/es=(c-es)/es+1:=by rw[Nat.div_eq_sub_div h0 nw]
   have d2:c%es=(c-es)%es:=by rw[Nat.mod_eq_sub_mod nw]
   have oS:c-es<ys.flatten.length:=by
    rw[sV,cj,hr]at hc
    omega
   obtain⟨g1,g2,g3⟩:=e2 (c-es) oS
   refine⟨by rw[d1];simp;exact g1,by simp only[d1,d2,Ht];exact g2,?_⟩
   simp only[d1,d2,Ht,sV]
   rw[uo (by omega)]
   simp only[hr]
   exact g3
theorem QZ (h:At P B0 w0 G k nl s w) {d b es n rc:Nat} {cs ds:List AV} {r:Rec} {gr:cH} {blk fM:Nat} {arr':Array Value} {Cc:TypeId} {w':World} (hd:d≤k) (hr:s.ag[d]? =some r) (hg:G.ag[d]? =some gr)
  (hb:r.boxes[b]? =some cs) (cw:gr.bl[b]? =some (some blk)) (dw:cs≠[]) (aB:ds≠[]) (br:∀c,c∈ds→c.bt=true) (hR:ku (Rel G d gr.nl) ds arr') (hw:w'.heap[fM]? =some (.cells arr' Cc))
  (hold:∀c,c<w.heap.size→c≠fM→w'.heap[c]? =w.heap[c]?) (gy:fM=blk∨fM=w.heap.size) (yS:Below B0 w w') (bR:w.heap.size≤w'.heap.size) (PD:arr'.size=rc*es) (hn:n≤rc):
  db P B0 w0 G k nl s (s.sJ d b ds) w' (.aO d (s.bL d) 0 es n 0) (.slice (some ⟨fM,0,none⟩) n rc):=by
 have aI:=h.rel.cI d r gr hr hg
 have di:=aI.box b cs blk hb cw
 obtain⟨b1,⟨x0,b2,L8⟩,b3,HV,La,b4,_⟩:=di
 have pf:=L8 dw
 have b3:=b3 dw
 subst pf
 have avb:=h.rel.eM _ _ b2
 have O6:fM<w'.heap.size:=by
  rcases gy with e|e
  ·omega
  ·rw[e]
   apply qh
   intro hc
   rw[e]at hw
   have:=(uf.1 hw).1
   omega
 have A9:∀i,G.I fM i=none:=by
  rcases gy with e|e
  ·rw[e];exact b3
  ·rw[e];exact h.rel.uk
 have hB:B0≤fM:=by
  rcases gy with e|e
  ·rw[e];exact b1
  ·rw[e];exact h.rel.low
 have JN:x0<r.boxes.length:=(bd.1 hb).1
 let T:kR:=⟨none,0,0,0⟩
 let gf:cH→cH:=fun q=>{q with bl:=q.bl++[some fM],tk:=q.tk++[T],gs:=fun j=>if j=r.boxes.length then some (rc*es)else q.gs j}
 let G':aG:={G with ag:=G.ag.modify d gf,own:=fun c=>if c=fM then some (.box d r.boxes.length)else G.own c}
 have hk:jv (· =.box d x0) G w G' w':=fun c o e aB=>by
  have aC:=h.rel.eM c o e
  have hc:c≠fM:=by
   rintro rfl
   rcases gy with e'|e'
   ·rw[e',b2]at e;injection e with e;exact aB e.symm
   ·omega
  exact⟨by simp only[G'];rw[aq hc];exact e,hold c aC hc,fun _ e=>e⟩
 have eZ:iN gr (gf gr):=⟨fun j q e=>my e,fun g U e=>⟨U,my e,.refl U⟩,rfl,fun j m e=>by
  obtain⟨q,hq⟩:=aI.mz j m e
  have:=(bd.1 hq).1
  rw[aI.dX]at this
  simp only[gf]
  rw[aq (by omega)];exact e⟩
 have hle:bA d gr.nl G G':=⟨fun _ _ _ e=>e,fun d' q _ e=>by
  simp only[G',dM]
  by_cases hd:d=d'
  ·subst hd
   rw[hg]at e
   injection e with e
   subst e
   exact⟨_,by rw[ak rfl,hg];rfl,eZ,fun _=>rfl⟩
  ·exact⟨q,by rw[aq hd];exact e,.refl q,fun _=>rfl⟩,fun _ _ _ e=>e⟩
 have fR:=h.rel.bp (G':=G') (w':=w') hr hg (fun r=>{r with boxes:=r.boxes.set x0 []++[ds],toks:=r.toks++[none]}) gf (· =.box d x0) rfl rfl (fun _ _ _ e=>e) eZ rfl hk
  (fun o ho=>.inl ⟨_,ho⟩) ?_ (fun c i v e=>?_) yS (fun c o e=>?_)
 ·obtain⟨hs,jC⟩:=fR
  have mL:cu P B0 w0 G' (s.sJ d x0 ds) w':=hs
  have hlen:(s.sJ d x0 ds).ag.length=s.ag.length:=by simp[ae.sJ,ae.bp]
  have iS:=h.to mL (jC k nl) hlen
  have mJ:s.bL d=r.boxes.length:=by simp[ae.bL,hr]
  have gw:G'.ag[d]? =some (gf gr):=by
   show(G.ag.modify d _)[d]? =_
   rw[dM,ak rfl,hg];rfl
  have yY:(gf gr).bl[r.boxes.length]? =some (some fM):=by
   show(gr.bl++[some fM])[r.boxes.length]? =_
   rw[←aI.dX,gD (aH _)]
   simp
  refine⟨G',iS,jC _ _,by simp[ae.sJ,ae.bp],?_⟩
  rw[mJ]
  exact .aO _ hd gw yY hn (bg _) (fun _ _=>by simp only[gf];rw[ak trivial]) (fun _=>rfl)
 ·have su:∀(j:Nat) (q:List AV),(r.boxes.set x0 []++[ds])[j]? =some q→(j=r.boxes.length∧q=ds)∨(j=x0∧q=[])∨(j≠x0∧j<r.boxes.length∧r.boxes[j]? =some q):=fun j q e=>by
   rcases ek e with⟨hj,e⟩|⟨hj,e⟩
   ·rw[zO]at hj
    rw[sW]at e
    by_cases u4:x0=j
    ·subst u4
     rw[ak rfl,ak hj]at e
     injection e with e
     exact .inr (.inl ⟨rfl,e.symm⟩)
    ·rw[aq u4]at e
     exact .inr (.inr ⟨fun e=>u4 e.symm,hj,e⟩)
   ·rw[zO]at hj
    exact .inl ⟨hj,e⟩
  have WV:∀(j q:Nat),j<r.boxes.length→(gf gr).bl[j]? =some (some q)→gr.bl[j]? =some (some q):=fun j q hj e=>by
   rcases ek e with⟨_,e⟩|⟨dH,_⟩
   ·exact e
   ·rw[aI.dX]at dH;omega
  have dead:∀(j q:Nat),gr.bl[j]? =some (some q)→j<r.boxes.length→pC B0 G' d gr.nl j ((gf gr).gs j) [] q w':=fun j q e hj=>by
   obtain⟨q1,⟨x,q2,q2'⟩,q3,CK,Lb,q4,_⟩:=aI.box j _ q (cM hj) e
   by_cases zf:q=fM
   ·subst zf
    exact⟨q1,⟨r.boxes.length,by simp[G'],fun hn=>absurd rfl hn⟩,fun hn=>absurd rfl hn,arr',Cc,hw,bg _,fun hn=>absurd rfl hn,fun i hi=>absurd hi (da _)⟩
   ·exact⟨q1,⟨x,by simp only[G'];rw[aq zf];exact q2,fun hn=>absurd rfl hn⟩,fun hn=>absurd rfl hn,CK,Lb,(hold q (h.rel.eM _ _ q2) zf).trans q4,bg _,fun hn=>absurd rfl hn,fun i hi=>absurd hi (da _)⟩
  refine⟨by simp[gf,aI.dX],by simp[gf,aI.iI],fun j q Ak e1 e2=>?_,fun j q e1 e2=>by simp,fun g m U e1 e2=>?_,fun i c e1=>?_,fun j m e1=>?_⟩
  ·rcases su j q e1 with⟨rfl,rfl⟩|⟨rfl,rfl⟩|⟨u4,hj,e1⟩
   ·have rY:Ak=fM:=by
     rcases ek e2 with⟨dH,_⟩|⟨_,e⟩
     ·rw[aI.dX]at dH;omega
     ·injection e
    subst rY
    refine⟨hB,⟨_,by simp[G'],fun _=>rfl⟩,fun _=>A9,arr',Cc,hw,hR.1,fun _ m hm=>?_,fun i hi=>⟨br _ (gu hi),?_⟩⟩
    ·simp only[gf]at hm
     rw[ak trivial]at hm
     injection hm with hm
     rw[PD,hm]
    ·exact(hR.2 i hi).mono hle (aH _) (aH _)
   ·exact dead _ _ (WV _ _ JN e2) JN
   ·have iQ:=WV _ _ hj e2
    by_cases Gh:q=[]
    ·subst Gh;exact dead _ _ iQ hj
    ·have Bm:=aI.box j q Ak e1 iQ
     obtain⟨x,y1,y2⟩:=Bm.2.1
     obtain⟨k1,k2,k3⟩:=hk _ _ y1 (fun e=>by injection e with _ e;rw[y2 Gh]at e;exact u4 e)
     have:=Bm.cJ (G':=G') (w':=w') hle (fun z e=>by rw[y1]at e;injection e with e;rw[←e];exact k1) k2 k3
     show pC B0 G' d gr.nl j (if j=r.boxes.length then some (rc*es)else gr.gs j) q Ak w'
     rw[aq (by omega)];exact this
  ·rcases ek e1 with⟨aC,e1⟩|⟨nx,rfl⟩
   ·have iQ:gr.tk[g]? =some U:=by
     rcases ek e2 with⟨_,e2⟩|⟨fF,_⟩
     ·exact e2
     ·rw[aI.iI]at fF;omega
    have ht:=aI.tok g m U e1 iQ
    have hs:∀(hn:m.isSome=true),G'.own U.blk=some (.tok d g)∧w'.heap[U.blk]? =w.heap[U.blk]? ∧∀i,G.I U.blk i=none→G'.I U.blk i=none:=fun hn=>by
     obtain⟨q,hq⟩:=oC.1 hn
     exact hk _ _ (ht.2 q hq).2.1 (fun e=>by cases e)
    exact ht.cJ (fun hn=>(hs hn).1) (fun hn=>(hs hn).2.1) (fun hn=>(hs hn).2.2)
   ·have:U=T:=by
     rcases ek e2 with⟨fF,_⟩|⟨_,e⟩
     ·rw[aI.iI]at fF;omega
     ·exact e
    subst this
    exact⟨rfl,fun q hq=>by cases hq⟩
  ·have hm:=aI.mark i c e1
   obtain⟨k1,k2,_⟩:=hk _ _ hm.2.1 (fun e=>by cases e)
   exact hm.cJ k1 k2
  ·simp only[gf]at e1
   split at e1
   ·rename_i hj
    subst hj
    refine⟨fM,?_⟩
    show(gr.bl++[some fM])[r.boxes.length]? =_
    rw[←aI.dX,gD (aH _)]
    simp
   ·obtain⟨q,hq⟩:=aI.mz j m e1
    exact⟨q,my hq⟩
 ·have hc:c≠fM:=by
   rintro rfl
   have:G.I c i=some v:=e
   rw[A9]at this;cases this
  rw[E9 (hold c (h.rel.sS e) hc) rfl]
  exact h.rel.fc c i v e
 ·simp only[G']at e
  split at e
  ·rename_i hb;subst hb;exact O6
  ·have:=h.rel.eM c o e;omega
theorem Z4 (h:At P B0 w0 G k nl s w) {b es n rc:Nat} {cs ds:List AV} {r:Rec} {gr:cH} {blk fM:Nat} {arr':Array Value} {Cc:TypeId} {w':World} (hr:s.ag[k]? =some r) (hg:G.ag[k]? =some gr)
  (hb:r.boxes[b]? =some cs) (cw:gr.bl[b]? =some (some blk)) (dw:cs≠[]) (aB:ds≠[]) (br:∀c,c∈ds→c.bt=true) (hR:ku (Rel G k nl) ds arr') (hw:w'.heap[fM]? =some (.cells arr' Cc))
  (hold:∀c,c<w.heap.size→c≠fM→w'.heap[c]? =w.heap[c]?) (gy:fM=blk∨fM=w.heap.size) (yS:Below B0 w w') (bR:w.heap.size≤w'.heap.size) (PD:arr'.size=rc*es) (hn:n≤rc):
  db P B0 w0 G k nl s (s.K2 b ds) w' (.aO s.cur (s.bL s.cur) 0 es n 0) (.slice (some ⟨fM,0,none⟩) n rc):=by
 have ll:gr.nl=nl:=by obtain⟨g',e1,e2⟩:=h.cur;rw[hg]at e1;injection e1 with e1;rw[e1];exact e2
 have e:s.K2 b ds=s.sJ k b ds:=by simp only[ae.K2,ae.sJ,h.gI]
 rw[e,h.gI]
 exact QZ h (aH k) hr hg hb cw dw aB br (by rw[ll];exact hR) hw hold gy yS bR PD hn
theorem K4:∀(vs:List Value) (arr:Array Value) (o i:Nat),o+vs.length≤arr.size→(iY arr o vs).getD i Go.undef=if o≤i∧i<o+vs.length then vs.getD (i-o) Go.undef else arr.getD i Go.undef
 |[],arr,o,i,_=>by
  rw[aq (by simp only[iK];omega)];rfl
 | v :: r, arr, o, i, h => by
  have hl:(v::r).length=r.length+1:=rfl
  rw[hl]at h⊢
  simp only[iY]
  rw[K4 r (arr.setIfInBounds o v) (o+1) i (by simp;omega)]
  by_cases h1:i=o
  ·subst h1
   rw[aq (by omega),ak (by omega)]
   have:i<arr.size:=by omega
   simp[Array.getD,this]
  ·by_cases h2:o+1≤i∧i<o+1+r.length
   ·rw[ak h2,ak (by omega)]
    obtain⟨j,hj⟩:∃j,i-o=j+1:=⟨i-o-1,by omega⟩
    rw[hj,show i-(o+1)=j by omega];rfl
   ·rw[aq h2,aq (by omega)]
    by_cases h3:i<arr.size
    ·have h4:¬o=i:=fun e=>h1 e.symm
     simp[Array.getD,h3,h4]
    ·simp[Array.getD,h3]
theorem GU {cs ds:List AV} {f g:Nat→Value} {rest:List Value} {n m:Nat} {R:AV→Value→Prop} (hn:cs.length=n) (hm:ds.length=m) (hc:∀i (hi:i<cs.length),R cs[i] (f i)) (hd:∀i (hi:i<ds.length),R ds[i] (g i)):
  ku R (cs++ds) ((List.range (n+m)).map (both n f g)++rest).toArray:=by
 refine⟨by simp;omega,fun i hi=>?_⟩
 rw[cj]at hi
 have dR:((List.range (n+m)).map (both n f g)++rest).toArray.getD i Go.undef=both n f g i:=by
  have h1:i<n+m:=by omega
  have h2:i<n+m+rest.length:=by omega
  simp only[Array.getD,xU,cj,bY,pE,h2,dite_true]
  simp[List.getElem_append,h1]
 rw[dR]
 unfold both
 by_cases hl:i<cs.length
 ·rw[um hl,ak (by omega)];exact hc i hl
 ·rw[uo (by omega),aq (by omega)]
  subst hn
  exact hd (i-cs.length) (by omega)
theorem S0 (h : At P B0 w0 G k nl s w) {t u e ty : TypeId} {es fN : Nat} {z : Value} (hT : uh P t e es fN z) (hu : ∃ e', P.underlying u = some (.slice e')) {a b v : AV} {x y : Value} {s' : ae}
    (hx:Rel G k nl a x) (hy:Rel G k nl b y) (ha:v8 s es a b=some (v,s')):
    ∃ x' w', (Builtin.append_ #[t, u] ty #[x, y]).run P w = .ok x' w' ∧ db P B0 w0 G k nl s s' w' v x' := by
  unfold v8 at ha
  split at ha
  case h_2=>cases ha
  rename_i oy e2 ys
  split at ha
  · rename_i kF
    have kF:ys=[]:=by simpa using kF
    subst kF
    have oj:∃bb c,y=.slice bb 0 c:=by
      rcases hy.iF with⟨_,_,rfl⟩|⟨_,aa,c,rfl,_⟩
      · exact⟨_,_,rfl⟩
      · exact⟨_,_,rfl⟩
    obtain⟨bb,c,rfl⟩:=oj
    split at ha
    · rename_i o e1 xs
      injection ha with ha
      injection ha with h1 h2
      subst h1 h2
      have lV:db P B0 w0 G k nl s s w (.slice o e1 xs) x:=⟨G,h,bA.refl _ _ _,rfl,hx⟩
      rcases hx.iF with⟨_,_,rfl⟩|⟨_,aa,cap,rfl,_,hle,_⟩
      · exact⟨_,w,vY hT hu none bb c (aH _),lV⟩
      · exact⟨_,w,vY hT hu (some aa) bb c hle,lV⟩
    · rename_i d b off e1 n cap
      injection ha with ha
      injection ha with h1 h2
      subst h1 h2
      have lV:db P B0 w0 G k nl s s w (.aO d b off e1 n cap) x:=⟨G,h,bA.refl _ _ _,rfl,hx⟩
      obtain⟨blk,gr,rc,o0,rfl,_,_,_,hn,_⟩:=hx.l3
      exact⟨_,w,vY hT hu (some _) bb c hn,lV⟩
    · cases ha
  · rename_i kF
    split at ha
    case isFalse=>cases ha
    rename_i kC
    subst kC
    have jS:0<ys.length:=by
      cases ys with
      |nil=>simp at kF
      |cons=>simp
    rcases hy.iF with⟨_,hn,_⟩|⟨_,ay,cy,rfl,_,_,oj,_⟩
    · rw[hn]at jS;simp at jS
    obtain⟨vi,Bi,ly,oG,fy,vh,pg⟩:=fL.flat oj hT.pos
    have uW:ay=⟨ay.block,ay.off,none⟩:=vV (vi (by omega))
    have jB:∀c,c<ys.length*e2→w.cell? (ay.add c)=some (fy c):=fun c hc=>by
      rw[uW,gY];exact h.rel.fc _ _ _ (vh c hc)
    obtain⟨qz,yF⟩:=yH hT.pos ly
    have Gr:∀c (hc:c<ys.flatten.length),bJ G.I ys.flatten[c] (fy c):=fun c hc=>by
      obtain⟨g1,g2,g3⟩:=yF c hc
      rw[g3]
      have:=pg _ g1 _ g2
      rw[xV]at this
      exact this
    have X1:∀c,c∈ys.flatten→c.bt=true:=fun c hc=>by
      obtain⟨r,hr,iT⟩:=ur.1 hc
      exact oG r hr c iT
    have Kn:ys.flatten≠[]:=fun e=>by
      have:=hU List.length e
      rw[qz]at this
      have h2:=HH jS hT.pos
      simp only[iK]at this
      omega
    split at ha
    · rename_i o e1 xs
      split at ha
      case isFalse=>cases ha
      rename_i bn
      obtain⟨bn,oh⟩:=bn
      injection ha with ha
      injection ha with h1 h2
      subst h1 h2
      have fin:∀(base:Option Addr) (cx:Nat) (f:Nat→Value),cx=xs.length→(∀r,r∈xs→r.length=e2)→(∀r,r∈xs→∀c,c∈r→c.bt=true)→(∀i (hi:i<xs.length) j (hj:j<xs[i].length),bJ G.I (xs[i][j]) (f (i*e2+j)))→
          (∀b,base=some b→∀c,c<xs.length*e2→w.cell? (b.add c)=some (f c))→(base=none→xs.length=0)→
          ∃ x' w', (Builtin.append_ #[t, u] ty #[.slice base xs.length cx, .slice (some ay) ys.length cy]).run P w = .ok x' w' ∧ db P B0 w0 G k nl s (s.dz (xs.flatten ++ ys.flatten)).2 w' (.aO s.cur (s.bL s.cur) 0 e2 (xs.length + ys.length) 0) x' := by
        intro base cx f mG lx wA xl hf jO
        subst mG
        obtain⟨newCap,rest,fp,gV,cY⟩:=vX (P:=P) (w:=w) (ty:=ty) (n:=xs.length) (m:=ys.length) (cap:=xs.length) (c:=cy) (base:=base) (a:=ay) (f:=f) (g:=fy) hT hu (by omega) (yg hT (by omega) oh) hf jO jB
        refine⟨_,_,cY,?_⟩
        obtain⟨gl1,gl2⟩:=yH hT.pos lx
        have aki:∀c (hc:c<xs.flatten.length),bJ G.I xs.flatten[c] (f c):=fun c hc=>by
          obtain⟨g1,g2,g3⟩:=gl2 c hc
          rw[g3]
          have:=xl _ g1 _ g2
          rw[xV]at this
          exact this
        have cg:=GU (R:=Rel G k nl) (cs:=xs.flatten) (ds:=ys.flatten) (f:=f) (g:=fy) (rest:=rest) gl1 qz (fun i hi=>.cl (aki i hi)) (fun i hi=>.cl (Gr i hi))
        have bR:((List.range (xs.length*e2+ys.length*e2)).map (both (xs.length*e2) f fy)++rest).toArray.size=newCap*e2:=by
          simp only[xU,cj,bY,pE,gV]
          rw[←gv,←gv]
          congr 1;omega
        exact(zw h.drew e (some (newCap*e2)) (fun n hn=>by injection hn with hn;rw[bR,hn]) (fun e=>Kn (R3.1 e).2) (fun c hc=>by
          rcases dD.1 hc with hc|hc
          · obtain ⟨r, hr, iT⟩ := ur.1 hc
            exact wA r hr c iT
          · exact X1 c hc) cg).2.2 e2 (xs.length+ys.length) 0 newCap fp (bg _) (fun _ _=>rfl)
      rcases hx.iF with⟨_,rfl,rfl⟩|⟨w9,ax,cx,rfl,_,_,lZ,wU⟩
      · exact fin none 0 (fun _=>Go.undef) rfl (by simp) (by simp) (fun i hi=>absurd hi (da _)) (fun _ e=>by cases e) (fun _=>rfl)
      · rcases bn with hc | ⟨hc, he⟩
        · cases o <;> simp [Own.isNil] at hc
          exact absurd rfl w9
        · subst he
          have ho:o=.full:=by cases o<;>simp[Own.isFull]at hc⊢
          have mG:=wU ho
          obtain⟨PU,_,lx,wA,fx,xk,xl⟩:=fL.flat lZ hT.pos
          have Bg:∀c,c<xs.length*e1→ax=⟨ax.block,ax.off,none⟩:=fun c hc=>vV (PU (by
            rcases vR xs.length with h0|h0
            · rw[h0]at hc;simp at hc
            · omega))
          exact fin (some ax) cx fx mG lx wA xl (fun b e c hc=>by injection e with e;subst e;rw[Bg c hc,gY];exact h.rel.fc _ _ _ (xk c hc)) (fun e=>by cases e)
    · rename_i d b off e1 n cap
      split at ha
      case isFalse=>cases ha
      rename_i bn
      obtain⟨rfl,rfl,rfl,fq,rfl,oh⟩:=bn
      split at ha
      case h_2=>cases ha
      rename_i cs tB
      split at ha
      case isFalse=>cases ha
      rename_i aT
      injection ha with ha
      injection ha with h1 h2
      subst h1 h2
      rw[h.gI]at tB hx
      obtain⟨blk,gr,rc,o0,rfl,hd,hg,cw,F8,_,hw,ho⟩:=hx.l3
      have ho:=ho (.inl fq)
      subst ho
      have FT:=hw rfl fq
      obtain⟨r,hr,di,JO,arr,tb,ny,cg,Pw⟩:=h.box hd tB hg cw
      have dw:cs≠[]:=fun e=>by
        rw[e]at aT
        have:=HH fq hT.pos
        simp only[iK]at aT
        omega
      obtain⟨_,_,Ot,CK,tb1,J0,_,PG,_⟩:=JO
      rw[ny]at J0
      injection J0 with J0
      injection J0 with q1 q2
      subst q1 q2
      have rV:=PG dw _ FT
      have aB:cs++ys.flatten≠[]:=fun e=>Kn (R3.1 e).2
      have FE:∀c,c∈cs++ys.flatten→c.bt=true:=fun c hc=>by
        rcases dD.1 hc with hc|hc
        · exact Pw c hc
        · exact X1 c hc
      by_cases lu:n+ys.length≤rc
      · have hle : (n + ys.length) * e1 ≤ arr.size := by rw [rV]; exact oB _ lu
        refine⟨_,_,L2 (P:=P) (ty:=ty) (n:=n) (m:=ys.length) (c:=cy) (a:=ay) (g:=fy) hT hu lu jB ny hle (fun c hc=>?_),?_⟩
        · have h1 : c / e1 < ys.length := by rw [Ss hT.pos]; exact hc
          have h2:c%e1<(ys[c/e1]).length:=by rw[ly _ (gu h1)];exact sZ _ hT.pos
          have hr:=pg _ h1 _ h2
          rw[xV]at hr
          exact KO (G:=G) (k:=k) (nl:=nl) (.cl hr) (oG _ (gu h1) _ (gu h2))
        · have hB := (h.rel.cI k r gr hr hg).box b cs blk di cw
          refine Z4 h hr hg di cw dw aB FE (arr':=iY arr (n*e1) ((List.range (ys.length*e1)).map fy)) ?_ (FO _ _ _ _ ny) (fun c _ hc=>FP hc _ _ _) (.inl rfl) (DC hB.1 _ _ _) (by rw[G5];exact aH _) (by rw[xA];exact rV) lu
          rw[gv]at hle
          refine⟨by rw[xA,cj,aT,qz];exact hle,fun i hi=>?_⟩
          rw[cj,aT,qz]at hi
          rw[K4 _ _ _ _ (by simpa using hle)]
          by_cases hl:i<cs.length
          · rw[um hl,aq (by omega)];exact cg.2 i hl
          · rw [uo (by omega), ak (by simp; omega)]
            have se:i-n*e1<ys.length*e1:=by omega
            have:=Gr (i-cs.length) (by rw[qz];omega)
            have wV:((List.range (ys.length*e1)).map fy).getD (i-n*e1) Go.undef=fy (i-cs.length):=by
              rw[aT]
              simp[List.getD,se]
            rw[wV]
            exact .cl this
      · obtain ⟨newCap, rest, fp, gV, cY⟩ := vX (P := P) (w := w) (ty := ty) (n := n) (m := ys.length) (cap := rc) (c := cy) (base := some ⟨blk, 0, none⟩) (a := ay) (f := fun c => arr.getD c Go.undef) (g := fy) hT hu lu
          (yg hT lu oh) (fun b e c hc => by
            injection e with e;subst e
            rw[gY,cell_of_heap ny,fB]
            have:c<arr.size:=by
              have:=cg.1
              rw[aT]at this;omega
            simp[Array.getD,this]) (fun e=>by cases e) jB
        refine⟨_,_,cY,?_⟩
        have Px:=GU (R:=Rel G k nl) (cs:=cs) (ds:=ys.flatten) (f:=fun c=>arr.getD c Go.undef) (g:=fy) (rest:=rest) aT qz cg.2 (fun i hi=>.cl (Gr i hi))
        have bR:((List.range (n*e1+ys.length*e1)).map (both (n*e1) (fun c=>arr.getD c Go.undef) fy)++rest).toArray.size=newCap*e1:=by
          simp only[xU,cj,bY,pE,gV]
          rw[←gv,←gv]
          congr 1;omega
        exact Z4 h hr hg di cw dw aB FE Px (World.alloc_heap_new w.drew _) (fun c hc _=>Below.heap_alloc w.drew _ _ hc) (.inr rfl) (((Below.refl _ _).drew).alloc h.rel.low _) (by simp) bR fp
    · cases ha
theorem acn (h:At P B0 w0 G k nl s w) {t u e ty:TypeId} {es fN:Nat} {z:Value} (hT:uh P t e es fN z) (uY:fN≤8*es) (hu:∃e',P.underlying u=some (.slice e')) {a b v:AV} {x y:Value} {s':ae}
  (hx:Rel G k nl a x) (hy:Rel G k nl b y) (ha:x6 s es a b=some (v,s')):
  ∃ x' w', (Builtin.append_ #[t, u] ty #[x, y]).run P w = .ok x' w' ∧ db P B0 w0 G k nl s s' w' v x' := by
 unfold x6 at ha
 split at ha
 case h_2=>cases ha
 rename_i o e1 xs oy e2 ys
 split at ha
 ·cases ha
 rename_i w6
 split at ha
 case isFalse=>exact S0 h hT hu hx hy ha
 rename_i bn
 obtain⟨rfl,hof,rfl,rfl,Xm,Xi⟩:=bn
 injection ha with ha
 injection ha with h1 h2
 subst h1 h2
 have ho:o=.full:=by cases o<;>simp[Own.isFull]at hof⊢
 subst ho
 have jS:0<ys.length:=by omega
 rcases hy.iF with⟨_,hn,_⟩|⟨_,ay,cy,rfl,_,_,oj,_⟩
 ·rw[hn]at jS;simp at jS
 obtain⟨vi,Bi,ly,oG,fy,vh,pg⟩:=fL.flat oj hT.pos
 have uW:ay=⟨ay.block,ay.off,none⟩:=vV (vi (by omega))
 have jB:∀c,c<ys.length*e2→w.cell? (ay.add c)=some (fy c):=fun c hc=>by
  rw[uW,gY];exact h.rel.fc _ _ _ (vh c hc)
 obtain⟨qz,yF⟩:=yH hT.pos ly
 have Gr:∀c (hc:c<ys.flatten.length),bJ G.I ys.flatten[c] (fy c):=fun c hc=>by
  obtain⟨g1,g2,g3⟩:=yF c hc
  rw[g3]
  have:=pg _ g1 _ g2
  rw[xV]at this
  exact this
 have Kn:ys.flatten≠[]:=fun e=>by
  have:=hU List.length e
  rw[qz]at this
  have h2:=HH jS hT.pos
  simp only[iK]at this
  omega
 rcases hx.iF with⟨w8,_,_⟩|⟨_,ax,cx,rfl,_,_,lZ,wU⟩
 ·cases w8
 have mG:cx=0:=wU rfl
 subst mG
 obtain⟨newCap,rest,fp,gV,cY⟩:=vX (P:=P) (w:=w) (ty:=ty) (n:=0) (m:=ys.length) (cap:=0) (c:=cy) (base:=some ax) (a:=ay) (f:=fun _=>Go.undef) (g:=fy) hT hu (by omega) (by
  have hn:Builtin.nextslicecap (0+ys.length) 0=ys.length:=by
   unfold Builtin.nextslicecap
   rw[ak (by omega)];omega
  rw[hn]
  exact kO (kO (Nat.mul_le_mul_left _ uY) Xi) (by decide)) (fun b _ c hc=>by simp at hc) (fun e=>by cases e) jB
 rw[fB]at cY fp gV
 refine⟨_,_,cY,?_⟩
 have cg:=GU (R:=Rel G k nl) (cs:=[]) (ds:=ys.flatten) (n:=0) (f:=fun _=>Go.undef) (g:=fy) (rest:=rest) rfl qz (fun i hi=>by simp at hi) (fun i hi=>.cl (Gr i hi))
 rw[kN]at cg
 have bR:((List.range (0*e2+ys.length*e2)).map (both (0*e2) (fun _=>Go.undef) fy)++rest).toArray.size=newCap*e2:=by
  simp only[xU,cj,bY,pE,gV]
  rw[←gv,←gv]
  congr 1;omega
 exact(zw h.drew e (some (newCap*e2)) (fun n hn=>by injection hn with hn;rw[bR,hn]) Kn (fun c hc=>by
  obtain⟨r,hr,iT⟩:=ur.1 hc
  exact oG r hr c iT) (by simpa using cg)).2.2 e2 ys.length 0 newCap fp (bg _) (fun _ _=>rfl)
theorem asV (h : At P B0 w0 G k nl s w) {es : Nat} (h0 : 0 < es) {b : AV} {y : Value} {p : List AV × Nat} (hy : Rel G k nl b y) (hs : s.zJ es b = some p) :
    (p.2=0∧∃bb c,y=.slice bb 0 c)∨(0<p.2∧∃(ay:Addr) (cy:Nat) (fy:Nat→Value),y=.slice (some ay) p.2 cy∧p.1.length=p.2*es∧(∀c,c<p.2*es→w.cell? (ay.add c)=some (fy c))∧(∀c,c∈p.1→c.bt=true)∧
      ∀c (hc:c<p.1.length),Rel G k nl p.1[c] (fy c)):=by
  unfold ae.zJ at hs
  split at hs
  · rename_i o e2 ys
    split at hs
    case isFalse=>cases hs
    rename_i bn
    injection hs with hs
    subst hs
    rcases vR ys.length with hz|hz
    · refine .inl ⟨hz, ?_⟩
      rcases hy.iF with⟨_,_,rfl⟩|⟨_,aa,c,rfl,_⟩
      · exact⟨_,_,rfl⟩
      · exact⟨some aa,c,by rw[hz]⟩
    · have he : e2 = es := by
        rcases bn with hc|hc
        · have : ys = [] := by simpa using hc
          rw[this]at hz;simp at hz
        · exact hc
      subst he
      refine .inr ⟨hz,?_⟩
      rcases hy.iF with⟨_,hn,_⟩|⟨_,ay,cy,rfl,_,_,oj,_⟩
      · rw[hn]at hz;simp at hz
      obtain⟨vi,Bi,ly,oG,fy,vh,pg⟩:=fL.flat oj h0
      have uW:ay=⟨ay.block,ay.off,none⟩:=vV (vi (by omega))
      obtain⟨qz,yF⟩:=yH h0 ly
      refine⟨ay,cy,fy,rfl,qz,fun c hc=>by rw[uW,gY];exact h.rel.fc _ _ _ (vh c hc),fun c hc=>?_,fun c hc=>?_⟩
      · obtain ⟨r, hr, iT⟩ := ur.1 hc
        exact oG r hr c iT
      · obtain ⟨g1, g2, g3⟩ := yF c hc
        rw[g3]
        have:=pg _ g1 _ g2
        rw[xV]at this
        exact .cl this
  · rename_i d b off e2 n cap
    split at hs
    case isFalse=>cases hs
    rename_i bn
    obtain⟨hd,rfl⟩:=bn
    obtain⟨cs,tB,hs⟩:=cX.1 hs
    split at hs
    case isFalse=>cases hs
    rename_i hle
    injection hs with hs
    subst hs
    obtain⟨blk,gr,rc,o0,rfl,eQ,hg,cw,F8,_,_,ho⟩:=hy.l3
    rcases vR n with hn|hn
    · exact .inl ⟨hn,_,rc,by rw[hn]⟩
    · have ho := ho (.inl hn)
      subst ho
      refine .inr ⟨hn,?_⟩
      obtain⟨r,hr,di,_,arr,tb,ny,cg,aT⟩:=h.box eQ tB hg cw
      have hlen:((cs.drop o0).take (n*e2)).length=n*e2:=by simp;omega
      refine⟨⟨blk,o0,none⟩,rc,fun c=>arr.getD (o0+c) Go.undef,rfl,hlen,fun c hc=>?_,fun c hc=>aT c (Hx (xT hc)),fun c hc=>?_⟩
      · simp only at hc
        rw[gY,cell_of_heap ny]
        have:o0+c<arr.size:=by have:=cg.1;omega
        simp[Array.getD,this]
      · rw [hlen] at hc
        have he:((cs.drop o0).take (n*e2))[c]'(by rw[hlen];exact hc)=cs[o0+c]'(by omega):=by simp
        rw[he]
        exact cg.2 _ _
  · cases hs
theorem acp (h : At P B0 w0 G k nl s w) {t u e ty : TypeId} {es fN : Nat} {z : Value} (hT : uh P t e es fN z) (hu : ∃ e', P.underlying u = some (.slice e')) {a b c v : AV} {x y : Value} {s' : ae}
    (hx:Rel G k nl a x) (hy:Rel G k nl b y) (ha:qk s es a b c=some (v,s')):
    ∃ x' w', (Builtin.append_ #[t, u] ty #[x, y]).run P w = .ok x' w' ∧ db P B0 w0 G k nl s s' w' v x' := by
  unfold qk at ha
  split at ha
  case h_2=>cases ha
  rename_i d _ _
  obtain⟨p,hp,JK⟩:=cX.1 ha
  clear ha
  have ha:=JK
  clear JK
  rcases asV h hT.pos hy hp with⟨y9,bb,cc,rfl⟩|⟨y9,ay,cy,fy,rfl,zd,jB,Pm,tG⟩
  · rw [ak y9] at ha
    split at ha
    · rename_i o e1 xs
      injection ha with ha
      injection ha with h1 h2
      subst h1 h2
      have lV:db P B0 w0 G k nl s s w (.slice o e1 xs) x:=⟨G,h,bA.refl _ _ _,rfl,hx⟩
      rcases hx.iF with⟨_,_,rfl⟩|⟨_,aa,cap,rfl,_,hle,_⟩
      · exact⟨_,w,vY hT hu none bb cc (aH _),lV⟩
      · exact⟨_,w,vY hT hu (some aa) bb cc hle,lV⟩
    · rename_i d' b' off e1 n cap
      injection ha with ha
      injection ha with h1 h2
      subst h1 h2
      have lV:db P B0 w0 G k nl s s w (.aO d' b' off e1 n cap) x:=⟨G,h,bA.refl _ _ _,rfl,hx⟩
      obtain⟨blk,gr,rc,o0,rfl,_,_,_,hn,_⟩:=hx.l3
      exact⟨_,w,vY hT hu (some _) bb cc hn,lV⟩
    · cases ha
  rw[aq (by omega)]at ha
  split at ha
  case isFalse=>cases ha
  rename_i bn
  obtain⟨_,eQ,aT⟩:=bn
  rw[h.gI]at eQ aT
  obtain⟨r,gr,hr,hg⟩:=h.cI eQ
  have ze:=HH y9 hT.pos
  have Xy:p.1≠[]:=fun e=>by rw[e,iK]at zd;omega
  have Ow:∀i (hi:i<p.1.length),Rel G d gr.nl p.1[i] (fy i):=fun i hi=>by
    rcases aT with rfl|aT
    · obtain ⟨g', e1, e2⟩ := h.cur
      rw[hg]at e1
      injection e1 with e1
      rw[e1,e2]
      exact tG i hi
    · exact .cl ((tG i hi).yw (jw.1 aT _ (gu hi)))
  split at ha
  · rename_i o e1 xs
    split at ha
    case isFalse=>cases ha
    rename_i bn
    obtain⟨qR,lr,oh⟩:=bn
    injection ha with ha
    injection ha with h1 h2
    subst h1 h2
    have Gq:xs=[]:=by simpa using qR
    subst Gq
    obtain⟨base,rfl⟩:∃base,x=.slice base 0 0:=by
      rcases hx.iF with⟨_,_,rfl⟩|⟨w9,ax,cx,rfl,_,_,lZ,wU⟩
      · exact⟨none,rfl⟩
      · rcases lr with hc | ⟨hc, _⟩
        · cases o <;> simp [Own.isNil] at hc
          exact absurd rfl w9
        · have ho : o = .full := by cases o <;> simp [Own.isFull] at hc ⊢
          have:=wU ho
          subst this
          exact⟨some ax,rfl⟩
    obtain⟨newCap,rest,fp,gV,cY⟩:=vX (P:=P) (w:=w) (ty:=ty) (n:=0) (m:=p.2) (cap:=0) (c:=cy) (base:=base) (a:=ay) (f:=fun _=>Go.undef) (g:=fy) hT hu (by omega) (yg hT (by omega) (by omega)) (fun b _ c hc=>by simp at hc) (fun _=>rfl) jB
    rw[fB]at cY fp gV
    refine⟨_,_,cY,?_⟩
    have cg:=GU (R:=Rel G d gr.nl) (cs:=[]) (ds:=p.1) (n:=0) (m:=p.2*es) (f:=fun _=>Go.undef) (g:=fy) (rest:=rest) rfl zd (fun i hi=>by simp at hi) (fun i hi=>Ow i hi)
    rw[kN]at cg
    have bR:((List.range (0*es+p.2*es)).map (both (0*es) (fun _=>Go.undef) fy)++rest).toArray.size=newCap*es:=by
      simp only[xU,cj,bY,pE,gV]
      rw[←gv,←gv]
      congr 1;omega
    exact ao1 h.drew eQ hg e (some (newCap*es)) (fun n hn=>by injection hn with hn;rw[bR,hn]) Xy Pm (by simpa using cg) es p.2 0 newCap fp (bg _) (fun _ _=>rfl)
  · rename_i d1 b' off e1 n cap
    split at ha
    case isFalse=>cases ha
    rename_i bn
    obtain⟨rfl,rfl,rfl,fq,rfl,oh⟩:=bn
    split at ha
    case h_2=>cases ha
    rename_i cs tB
    split at ha
    case isFalse=>cases ha
    rename_i tC
    injection ha with ha
    injection ha with h1 h2
    subst h1 h2
    obtain⟨blk,bI,rc,o0,rfl,hd,bu,cw,F8,_,hw,ho⟩:=hx.l3
    rw[hg]at bu
    injection bu with bu
    subst bu
    have ho:=ho (.inl fq)
    subst ho
    have FT:=hw rfl fq
    have di:r.boxes[b']? =some cs:=by simpa[ae.box,hr]using tB
    have hB:=(h.rel.cI d1 r gr hr hg).box b' cs blk di cw
    obtain⟨A8,_,Ot,arr,tb,ny,ajZ,PG,Py⟩:=hB
    have dw:cs≠[]:=fun e=>by
      rw[e]at tC
      have:=HH fq hT.pos
      simp only[iK]at tC
      omega
    have rV:=PG dw _ FT
    have aB:cs++p.1≠[]:=fun e=>Xy (R3.1 e).2
    have FE:∀c,c∈cs++p.1→c.bt=true:=fun c hc=>by
      rcases dD.1 hc with hc|hc
      · obtain ⟨i, hi, rfl⟩ := nM hc
        exact(Py i hi).1
      · exact Pm c hc
    by_cases lu:n+p.2≤rc
    · have hle : (n + p.2) * e1 ≤ arr.size := by rw [rV]; exact oB _ lu
      refine⟨_,_,L2 (P:=P) (ty:=ty) (n:=n) (m:=p.2) (c:=cy) (a:=ay) (g:=fy) hT hu lu jB ny hle (fun c hc=>KO (tG c (by rw[zd];exact hc)) (Pm _ (gu _))),?_⟩
      refine QZ h eQ hr hg di cw dw aB FE (arr':=iY arr (n*e1) ((List.range (p.2*e1)).map fy)) ?_ (FO _ _ _ _ ny) (fun c _ hc=>FP hc _ _ _) (.inl rfl) (DC A8 _ _ _) (by rw[G5];exact aH _) (by rw[xA];exact rV) lu
      rw[gv]at hle
      refine⟨by rw[xA,cj,tC,zd];exact hle,fun i hi=>?_⟩
      rw[cj,tC,zd]at hi
      rw[K4 _ _ _ _ (by simpa using hle)]
      by_cases hl:i<cs.length
      · rw[um hl,aq (by omega)];exact(Py i hl).2
      · rw [uo (by omega), ak (by simp; omega)]
        have se:i-n*e1<p.2*e1:=by omega
        have:=Ow (i-cs.length) (by rw[zd];omega)
        have wV:((List.range (p.2*e1)).map fy).getD (i-n*e1) Go.undef=fy (i-cs.length):=by
          rw[tC]
          simp[List.getD,se]
        rw[wV]
        exact this
    · obtain ⟨newCap, rest, fp, gV, cY⟩ := vX (P := P) (w := w) (ty := ty) (n := n) (m := p.2) (cap := rc) (c := cy) (base := some ⟨blk, 0, none⟩) (a := ay) (f := fun c => arr.getD c Go.undef) (g := fy) hT hu lu
        (yg hT lu oh) (fun b e c hc => by
          injection e with e;subst e
          rw[gY,cell_of_heap ny,fB]
          have:c<arr.size:=by
            have:=ajZ
            rw[tC]at this;omega
          simp[Array.getD,this]) (fun e=>by cases e) jB
      refine⟨_,_,cY,?_⟩
      have Px:=GU (R:=Rel G d1 gr.nl) (cs:=cs) (ds:=p.1) (f:=fun c=>arr.getD c Go.undef) (g:=fy) (rest:=rest) tC zd (fun i hi=>(Py i hi).2) (fun i hi=>Ow i hi)
      have bR:((List.range (n*e1+p.2*e1)).map (both (n*e1) (fun c=>arr.getD c Go.undef) fy)++rest).toArray.size=newCap*e1:=by
        simp only[xU,cj,bY,pE,gV]
        rw[←gv,←gv]
        congr 1;omega
      exact QZ h eQ hr hg di cw dw aB FE Px (World.alloc_heap_new w.drew _) (fun c hc _=>Below.heap_alloc w.drew _ _ hc) (.inr rfl) (((Below.refl _ _).drew).alloc h.rel.low _) (by simp) bR fp
  · cases ha
end
end Go.Ax
/-
  Stores: what goes into an outer activation's box.
-/
namespace Go.Ax
open Go.RowKit
section
variable{P:Program} {B0:Nat} {w0:World} {G:aG} {k nl:Nat} {w:World} {s:ae}
theorem Y4 {s:ae} {d:Nat} {r:Rec} (h:s.ag[d]? =some r):s.jI d=r.toks.length:=by simp[ae.jI,h]
theorem aa2 {s:ae} {d g n:Nat} (h:s.tok d g=some n):∃r,s.ag[d]? =some r∧r.toks[g]? =some (some n):=by
 unfold ae.tok at h
 cases hr:s.ag[d]? with
 |none=>rw[hr]at h;cases h
 |some r=>
  rw[hr]at h
  simp only[eK]at h
  cases hq:r.toks[g]? with
  |none=>rw[hq]at h;cases h
  |some q=>rw[hq]at h;simp only[Option.join_some]at h;subst h;exact⟨r,rfl,hq⟩
theorem aeZ (h:cu P B0 w0 G s w) {d g n:Nat} {r:Rec} {gr:cH} {T:kR} (hr:s.ag[d]? =some r) (hg:G.ag[d]? =some gr) (jm:r.toks[g]? =some (some n)) (lh:gr.tk[g]? =some T):
  ∃G',G'.ag=G.ag.modify d (fun q=>{q with tk:=q.tk.set g {T with n:=none}})∧G'.I=G.I∧G'.own T.blk=none∧(∀b o,G'.own b=some o→G.own b=some o∧b≠T.blk)∧cu P B0 w0 G' (s.mf d g none) w∧∀k nl,bA k nl G G':=by
 have aI:=h.cI d r gr hr hg
 obtain⟨oQ,rP⟩:=aI.tok g (some n) T jm lh
 obtain⟨t1,t2,t3,t4,t5,arr,ty,t6,t7⟩:=rP _ rfl
 let G':aG:={G with ag:=G.ag.modify d fun q=>{q with tk:=q.tk.set g {T with n:=none}},own:=fun b=>if b=T.blk then none else G.own b}
 have hk:jv (· =.tok d g) G w G' w:=fun b o ho aB=>by
  refine⟨?_,rfl,fun _ e=>e⟩
  simp only[G']
  rw[aq]
  ·exact ho
  ·rintro rfl
   rw[t2]at ho
   injection ho with ho
   exact aB ho.symm
 have eZ:iN gr {gr with tk:=gr.tk.set g {T with n:=none}}:=⟨fun b blk e=>e,fun j U e=>by
  by_cases hj:j=g
  ·subst hj
   rw[lh]at e
   injection e with e
   subst e
   exact⟨_,GZ lh,rfl,.inr (.inl rfl)⟩
  ·exact⟨U,by show(gr.tk.set g _)[j]? =_;rw[sW,aq (fun e=>hj e.symm)];exact e,.refl U⟩,rfl,fun _ _ e=>e⟩
 have u0:bA d gr.nl G G':=⟨fun _ _ _ e=>e,fun d' q _ e=>by
  show∃bI,(G.ag.modify d _)[d']? =some bI∧_
  rw[dM]
  by_cases wS:d=d'
  ·subst wS
   rw[hg]at e
   injection e with e
   subst e
   exact⟨_,by rw[ak rfl,hg];rfl,eZ,fun _=>rfl⟩
  ·exact⟨q,by rw[aq wS];exact e,.refl q,fun _=>rfl⟩,fun _ _ _ e=>e⟩
 have fR:=h.bp (G':=G') (w':=w) hr hg (fun r=>{r with toks:=r.toks.set g none}) (fun q=>{q with tk:=q.tk.set g {T with n:=none}}) (· =.tok d g) rfl rfl (fun _ _ _ e=>e) eZ rfl hk
  (fun o ho=>.inr ⟨_,ho⟩) ?_ h.fc (Below.refl _ _) (fun b o e=>?_)
 ·refine⟨G',rfl,rfl,by simp[G'],fun b o e=>?_,fR.1,fR.2⟩
  simp only[G']at e
  split at e
  ·cases e
  ·exact⟨e,by assumption⟩
 ·refine aI.tokens (toks':=r.toks.set g none) (tk':=gr.tk.set g {T with n:=none}) u0 hk (by simp[aI.iI]) (fun hm=>Y3 hm (.inl rfl)) (fun j p U e1 e2=>?_)
  rcases B4 e1 with⟨aB,e1⟩|⟨rfl,rfl,_⟩
  ·rcases B4 e2 with⟨_,e2⟩|⟨hj,_⟩
   ·exact .inl ⟨aB,e1,e2⟩
   ·exact absurd hj aB
  ·rcases B4 e2 with⟨hj,_⟩|⟨_,rfl,_⟩
   ·exact absurd rfl hj
   ·exact .inr ⟨rfl,rfl,fun m hm=>by cases hm⟩
 ·simp only[G']at e
  split at e
  ·cases e
  ·exact h.eM b o e
theorem SN (h:cu P B0 w0 G s w) {d n:Nat} {r:Rec} {gr:cH} {T:kR} (hr:s.ag[d]? =some r) (hg:G.ag[d]? =some gr) (yX:G.own T.blk=none) (oQ:T.n=some n)
  (hT:B0≤T.blk∧(∀i,n*T.es≤i→G.I T.blk i=none)∧n≤T.cap∧0<T.es∧∃arr ty,w.heap[T.blk]? =some (.cells arr ty)∧arr.size=T.cap*T.es):
  ∃G',G'.ag=G.ag.modify d (fun q=>{q with tk:=q.tk++[T]})∧G'.I=G.I∧cu P B0 w0 G' (s.kT d n) w∧∀k nl,bA k nl G G':=by
 have aI:=h.cI d r gr hr hg
 obtain⟨t1,t3,t4,t5,arr,ty,t6,t7⟩:=hT
 let G':aG:={G with ag:=G.ag.modify d fun q=>{q with tk:=q.tk++[T]},own:=fun b=>if b=T.blk then some (.tok d r.toks.length)else G.own b}
 have hk:jv (· =.tok d r.toks.length) G w G' w:=fun b o ho _=>by
  refine⟨?_,rfl,fun _ e=>e⟩
  simp only[G']
  rw[aq]
  ·exact ho
  ·rintro rfl
   rw[yX]at ho
   cases ho
 have eZ:iN gr {gr with tk:=gr.tk++[T]}:=⟨fun b blk e=>e,fun g U e=>⟨U,my e,.refl U⟩,rfl,fun _ _ e=>e⟩
 have u0:bA d gr.nl G G':=⟨fun _ _ _ e=>e,fun d' q _ e=>by
  show∃bI,(G.ag.modify d _)[d']? =some bI∧_
  rw[dM]
  by_cases wS:d=d'
  ·subst wS
   rw[hg]at e
   injection e with e
   subst e
   exact⟨_,by rw[ak rfl,hg];rfl,eZ,fun _=>rfl⟩
  ·exact⟨q,by rw[aq wS];exact e,.refl q,fun _=>rfl⟩,fun _ _ _ e=>e⟩
 have fR:=h.bp (G':=G') (w':=w) hr hg (fun r=>{r with toks:=r.toks++[some n]}) (fun q=>{q with tk:=q.tk++[T]}) (· =.tok d r.toks.length) rfl rfl (fun _ _ _ e=>e) eZ rfl hk
  (fun o ho=>.inr ⟨_,ho⟩) ?_ h.fc (Below.refl _ _) (fun b o e=>?_)
 ·exact⟨G',rfl,rfl,fR.1,fR.2⟩
 ·refine aI.tokens (toks':=r.toks++[some n]) (tk':=gr.tk++[T]) u0 hk (by simp[aI.iI]) (pF _) (fun g m U e1 e2=>?_)
  rcases ek e1 with⟨aC,e1⟩|⟨rfl,rfl⟩
  ·refine .inl ⟨by omega,e1,?_⟩
   rcases ek e2 with⟨_,e2⟩|⟨hb,_⟩
   ·exact e2
   ·rw[aI.iI]at hb;omega
  ·have:U=T:=by
    rcases ek e2 with⟨hb,_⟩|⟨_,e⟩
    ·rw[aI.iI]at hb;omega
    ·exact e
   subst this
   refine .inr ⟨rfl,oQ,fun m hm=>?_⟩
   injection hm with hm
   subst hm
   exact⟨t1,by simp[G'],t3,t4,t5,arr,ty,t6,t7⟩
 ·simp only[G']at e
  split at e
  ·rename_i hb;subst hb;exact(uf.1 t6).1
  ·exact h.eM b o e
theorem agm (h:At P B0 w0 G k nl s w) {d nd:Nat} {x x':AV} {v:Value} {s':ae} (eQ:d<k) (hx:Rel G k nl x v) (hc:x.bt=true) (hf:s.fit d x=some (x',s')):
  ∃G',At P B0 w0 G' k nl s' w∧bA (k+1) s.loops.length G G'∧s'.loops=s.loops∧Rel G' d nd x' v∧x'.bt=true:=by
 have lV:=bA.refl (k+1) s.loops.length G
 by_cases h1:∃d' g es xs,x=.slice (.tok d' g) es xs
 ·obtain⟨d',g,es,xs,rfl⟩:=h1
  simp only[ae.fit]at hf
  split at hf
  ·rename_i hle
   injection hf with hf
   injection hf with e1 e2
   subst e1 e2
   refine⟨G,h,lV,rfl,?_,rfl⟩
   cases hx with
   |cl hx=>exact .cl hx
   |tok T gr hd hg ht dQ hc hn=>exact .tok T gr hle hg ht dQ hc hn
  ·rename_i hle
   split at hf
   ·rename_i gQ
    obtain⟨WZ,pU⟩:=gQ
    injection hf with hf
    injection hf with e1 e2
    subst e1 e2
    rw[h.gI]at WZ
    subst WZ
    cases hx with
    |cl hx=>cases hx with
     |slice f ho=>rcases ho with h|⟨h,_⟩<;>cases h
     |empty ho=>rcases ho with h|h<;>cases h
    |tok T gr hd hg ht dQ lZ hn=>
    obtain⟨r,hr,jm⟩:=aa2 pU
    have aI:=h.rel.cI _ r gr hr hg
    obtain⟨oQ,rP⟩:=aI.tok g _ T jm ht
    obtain⟨t1,t2,t3,t4,t5,arr,ty,t6,t7⟩:=rP _ rfl
    obtain⟨_,heq⟩:=hn _ oQ
    obtain⟨rfl,rfl⟩:=heq rfl
    obtain⟨G1,a1,a2,a3,_,a5,a6⟩:=aeZ h.rel hr hg jm ht
    obtain⟨rd,yI,iE,wV⟩:=h.cI (Sw eQ)
    have aB:d'≠d:=by omega
    have ajQ:(s.mf d' g none).ag[d]? =some rd:=by
     simp only[ae.mf,ae.bp,dM]
     rw[aq aB];exact iE
    have Xa:G1.ag[d]? =some yI:=by
     rw[a1,dM,aq aB];exact wV
    obtain⟨G2,b1,b2,b3,b4⟩:=SN a5 (T:=T) ajQ Xa a3 oQ ⟨t1,by rw[a2];exact t3,t4,t5,arr,ty,t6,t7⟩
    have O4:bA (d'+1) s.loops.length G G2:=(a6 _ _).trans (b4 _ _)
    refine⟨G2,h.to b3 (O4.less (by omega) h.sH) (by simp[ae.kT,ae.mf,ae.bp]),O4,rfl,?_,rfl⟩
    have gw:G2.ag[d]? =some {yI with tk:=yI.tk++[T]}:=by rw[b1,dM,ak rfl,Xa];rfl
    have si:s.jI d=yI.tk.length:=by rw[Y4 iE,(h.rel.cI d rd yI iE wV).iI]
    rw[si]
    refine .tok T _ (aH _) gw (by show(yI.tk++[T])[yI.tk.length]? =_;rw[gD (aH _)];simp) dQ (lZ.mono O4.I) hn
   ·injection hf with hf
    injection hf with e1 e2
    subst e1 e2
    exact⟨G,h,lV,rfl,.cl (hx.close (z:=.slice .any es xs) rfl),rfl⟩
 ·by_cases h2:∃d' b off,x=.ptr d' b off
  ·obtain⟨d',b,off,rfl⟩:=h2
   simp only[ae.fit]at hf
   split at hf
   ·rename_i hle
    injection hf with hf
    injection hf with e1 e2
    subst e1 e2
    obtain⟨blk,gr,rfl,_,hg,hb⟩:=hx.sC
    exact⟨G,h,lV,rfl,.ptr gr hle hg hb,rfl⟩
   ·cases hf
  ·by_cases h3:∃d' b off es n cap,x=.aO d' b off es n cap
   ·obtain⟨d',b,off,es,n,cap,rfl⟩:=h3
    simp only[ae.fit]at hf
    split at hf
    ·rename_i hle
     injection hf with hf
     injection hf with e1 e2
     subst e1 e2
     obtain⟨blk,gr,rc,o0,rfl,_,hg,hb,hn,hc,hw,ho⟩:=hx.l3
     exact⟨G,h,lV,rfl,.aO gr hle hg hb hn hc hw ho,rfl⟩
    ·cases hf
   ·have he:s.fit d x=x.close.map (·,s):=by
     unfold ae.fit
     split
     ·exact absurd ⟨_,_,_,_,rfl⟩ h1
     ·exact absurd ⟨_,_,_,rfl⟩ h2
     ·exact absurd ⟨_,_,_,_,_,_,rfl⟩ h3
     ·rfl
    rw[he]at hf
    cases aT:x.close with
    |none=>rw[aT]at hf;cases hf
    |some z=>
     rw[aT]at hf
     injection hf with hf
     injection hf with e1 e2
     subst e1 e2
     exact⟨G,h,lV,rfl,.cl (hx.close aT),NF aT hc⟩
theorem V4 {d nd:Nat} (eQ:d<k):∀{xs ys:List AV} {vs:List Value} {G:aG} {s s':ae},At P B0 w0 G k nl s w→(hl:vs.length=xs.length)→(∀i (hi:i<xs.length) (hj:i<vs.length),Rel G k nl xs[i] vs[i]∧xs[i].bt=true)→
  (Br:∀gr,G.ag[d]? =some gr→gr.nl=nd)→s.fitAll d xs=some (ys,s')→
  ∃G',At P B0 w0 G' k nl s' w∧bA (k+1) s.loops.length G G'∧s'.loops=s.loops∧ys.length=xs.length∧∀i (hi:i<ys.length) (hj:i<vs.length),Rel G' d nd ys[i] vs[i]∧ys[i].bt=true
 |[],ys,vs,G,s,s',h,hl,_,_,hf=>by
  simp only[ae.fitAll]at hf
  injection hf with hf
  injection hf with e1 e2
  subst e1 e2
  exact⟨G,h,bA.refl _ _ _,rfl,rfl,fun i hi=>absurd hi (da _)⟩
 |x::xs,ys,[],G,s,s',h,hl,_,_,hf=>by simp at hl
 | x :: xs, ys, v :: vs, G, s, s', h, hl, hR, Br, hf => by
  simp only[ae.fitAll]at hf
  split at hf
  ·cases hf
  ·rename_i y s1 hy
   split at hf
   ·cases hf
   ·rename_i zs s2 hz
    injection hf with hf
    injection hf with e1 e2
    subst e1 e2
    have h0:=hR 0 (by simp) (by simp)
    obtain⟨G1,a1,a2,a3,a4,a5⟩:=agm (nd:=nd) h eQ h0.1 h0.2 hy
    have aje:nd≤s.loops.length:=by
     obtain⟨_,gr,_,hg⟩:=h.cI (Sw eQ)
     rw[←Br gr hg]
     exact h.rel.pr _ _ hg
    obtain⟨G2,b1,b2,b3,b4,b5⟩:=V4 eQ (nd:=nd) a1 (by simpa using hl) (fun i hi hj=>by
     have:=hR (i+1) (by simpa using hi) (by simpa using hj)
     exact⟨this.1.mono (a2.less (by omega) h.sH) (aH _) (aH _),this.2⟩) (fun gr hg=>by
     obtain⟨_,iA,_,uZ⟩:=h.cI (Sw eQ)
     obtain⟨bI,bu,hle,_⟩:=a2.ag d iA (by omega) uZ
     rw[hg]at bu
     injection bu with bu
     subst bu
     exact hle.nl.trans (Br _ uZ)) hz
    rw[a3]at b2
    refine⟨G2,b1,a2.trans b2,b3.trans a3,by simp[b4],fun i hi hj=>?_⟩
    cases i with
    |zero=>exact⟨a4.mono (b2.less (by omega) aje) (aH _) (aH _),a5⟩
    |succ i=>exact b5 i (by simpa using hi) (by simpa using hj)
theorem RA (h:At P B0 w0 G k nl s w) {x y:AV} {px v:Value} {n:Nat} {s':ae} (hx:Rel G k nl x px) (hy:Rel G k nl y v) (hs:s.store n x y=some s'):
  ∃blk off arr ty,px=.pointer (some ⟨blk,off,none⟩)∧w.heap[blk]? =some (.cells arr ty)∧v.cells.size=n∧off+n≤arr.size∧(∀u,u∈v.cells.toList→u.oneCell'=true)∧db P B0 w0 G k nl s s' (w.setCells blk off v.cells.toList) AV.undef Go.undef:=by
 unfold ae.store at hs
 split at hs
 case h_2=>cases hs
 rename_i d b off
 split at hs
 case isFalse=>cases hs
 rename_i bn
 obtain⟨bh,hlen,fm⟩:=bn
 obtain⟨blk,gr,rfl,hd,hg,cw⟩:=hx.sC
 obtain⟨bR,r5⟩:=hy.cells fm
 have xh:v.cells.size=n:=bR.trans hlen
 have br:∀c,c∈y.cells→c.bt=true:=fun c hc=>jw.1 fm c hc
 have Ph:∀u,u∈v.cells.toList→u.oneCell'=true:=fun u hu=>by
  obtain⟨i,hi,rfl⟩:=nM hu
  have bD:i<y.cells.length:=by rw[←bR];simpa using hi
  have:=r5 i bD
  have he:v.cells.getD i Go.undef=v.cells.toList[i]:=by
   have:i<v.cells.size:=by simpa using hi
   simp[Array.getD,this]
  rw[he]at this
  exact KO this (br _ (gu bD))
 split at hs
 ·cases hs
 rename_i cs m1 lS
 split at hs
 ·cases hs
 rename_i row cg
 split at hs
 case isFalse=>cases hs
 rename_i hle
 injection hs with hs
 subst hs
 obtain⟨_,avr⟩:∃nd,gr.nl=nd:=⟨_,rfl⟩
 have J2:∃G1 wO,At P B0 w0 G1 k nl m1 w∧bA (k+1) s.loops.length G G1∧m1.loops=s.loops∧cs.length=n∧G1.ag[d]? =some wO∧wO.bl[b]? =some (some blk)∧(∀i (hi:i<cs.length) (hj:i<v.cells.toList.length),Rel G1 d wO.nl cs[i] v.cells.toList[i])∧∀c,c∈cs→c.bt=true:=by
  have J9:∀i (hi:i<y.cells.length) (hj:i<v.cells.toList.length),Rel G k nl y.cells[i] v.cells.toList[i]∧y.cells[i].bt=true:=fun i hi hj=>by
   have:=r5 i hi
   have he:v.cells.getD i Go.undef=v.cells.toList[i]:=by
    have:i<v.cells.size:=by simpa using hj
    simp[Array.getD,this]
   rw[he]at this
   exact⟨this,br _ (gu hi)⟩
  by_cases FL:d=s.cur
  ·rw[ak FL]at lS
   injection lS with lS
   injection lS with e1 e2
   subst e1 e2
   have eQ:d=k:=by rw[h.gI]at FL;exact FL
   subst eQ
   obtain⟨gc,nu,wW⟩:=h.cur
   rw[hg]at nu
   injection nu with nu
   subst nu
   exact⟨G,gr,h,bA.refl _ _ _,rfl,hlen,hg,cw,fun i hi hj=>by rw[wW];exact(J9 i hi hj).1,br⟩
  ·rw[aq FL]at lS
   have eQ:d<k:=by rw[h.gI]at FL;omega
   obtain⟨G1,a1,a2,a3,a4,a5⟩:=V4 (nd:=gr.nl) (vs:=v.cells.toList) eQ h (by simpa using bR) J9 (fun g e=>by rw[hg]at e;injection e with e;rw[e]) lS
   obtain⟨wO,JV,F2,_⟩:=a2.ag d gr (by omega) hg
   refine⟨G1,wO,a1,a2,a3,a4.trans hlen,JV,F2.bl _ _ cw,fun i hi hj=>?_,fun c hc=>?_⟩
   ·rw[F2.nl]
    exact(a5 i hi hj).1
   ·obtain⟨i,hi,rfl⟩:=nM hc
    exact(a5 i hi (by simp[xh,←hlen,←a4,hi])).2
 obtain⟨G1,wO,Bf,F2,oW,aT,JV,WU,hRs,dw⟩:=J2
 obtain⟨r,hr,di,JO,arr,ty,ny,_,ajY⟩:=Bf.box hd cg JV WU
 obtain⟨bb1,bb2,bb3,arr',Cc,JZ,wQ,aiR,hold⟩:=JO
 rw[ny]at JZ
 injection JZ with JZ
 injection JZ with e1 e2
 subst e1 e2
 refine⟨blk,off,arr,ty,rfl,ny,xh,kO hle wQ,Ph,?_⟩
 have ahV:ku (Rel G1 d wO.nl) row arr:=⟨wQ,fun i hi=>(hold i hi).2⟩
 have ahW:ku (Rel G1 d wO.nl) (setCells row off cs) (iY arr off v.cells.toList):=ku.iY (by simp[xh,aT]) hRs off ahV
 by_cases Ke:row=[]
 · -- nothing is written to a dead box
  subst Ke
  have fq:n=0:=by simp at hle;omega
  have ais:cs=[]:=sU (by rw[aT];exact fq)
  have hv0:v.cells.toList=[]:=sU (by rw[RV,xh];exact fq)
  subst ais
  rw[hv0]
  have PA : m1.dA d b (setCells [] off []) = m1 := by
   simp only[ae.dA,ae.bp,setCells]
   have:m1.ag.modify d (fun r=>{r with boxes:=r.boxes.set b []})=m1.ag:=by
    apply pD
    intro i
    rw[vN]
    by_cases hi:d=i
    ·subst hi
     rw[hr]
     have:r.boxes.set b []=r.boxes:=by
      apply pD
      intro j
      rw[sW]
      split
      ·rename_i hj
       subst hj
       rw[di,ak (bd.1 di).1]
      ·rfl
     show some (if d=d then(⟨r.boxes.set b [],r.toks⟩:Rec)else r)=some r
     rw[ak rfl,this]
    ·simp[hi]
   rw[this]
  rw[PA]
  exact⟨G1,Bf,F2,by rw[oW],.undef⟩
 have aB:setCells row off cs≠[]:=by
  intro e
  have e2:=hU List.length e
  simp[asv]at e2
  exact Ke e2
 have PF:=Bf.rel.dA (cs':=setCells row off cs) (w':=w.setCells blk off v.cells.toList) hr JV di WU Ke aB (fun c hc=>by
   rcases aat hc with h|h
   ·exact ajY c h
   ·exact dw c h) ahW (fun m hm=>by rw[xA];exact aiR Ke m hm) (FO _ _ _ _ ny) (fun c hc=>FP hc _ _ _) (DC bb1 _ _ _) (G5 _ _ _ _)
 refine⟨G1,Bf.to PF (bA.refl _ _ _) (by simp[ae.dA,ae.bp]),F2,by simp[ae.dA,ae.bp,oW],.undef⟩
theorem as5 (h:At P B0 w0 G k nl s w) {x y:AV} {px v:Value} {n:Nat} {t:TypeId} {s':ae} (hx:Rel G k nl x px) (hy:Rel G k nl y v) (hn:cK P t=some n) (hs:s.store n x y=some s'):
  ∃w',(Instr.storeAt t px v).run P w=.ok () w'∧db P B0 w0 G k nl s s' w' AV.undef Go.undef:=by
 obtain⟨blk,off,arr,ty,rfl,h1,h2,h3,h4,h5⟩:=RA h hx hy hs
 exact⟨_,as4 h1 hn h2 h3 h4,h5⟩
end
end Go.Ax
/-
  copy of plain cells, and a slice that is not written to any more.
-/
namespace Go.Ax
open Go.RowKit
section
variable{P:Program} {B0:Nat} {w0:World} {G:aG} {k nl:Nat} {w:World} {s:ae}
theorem agp {α:Type} {xs:List (List α)} (h:∀r,r∈xs→r.length=1):xs.flatten.length=xs.length:=by
 have:=(yH (es:=1) (by omega) h).1
 omega
theorem aaL (h:At P B0 w0 G k nl s w) {b:AV} {y:Value} {ys:List AV} (hy:Rel G k nl b y) (hs:s.G8 b=some ys):
  ∃(ad:Option Addr) (cap:Nat) (f:Nat→Value),y=.slice ad ys.length cap∧(0<ys.length→∃a,ad=some a∧∀j,j<ys.length→w.cell? (a.add j)=some (f j))∧
   ∀i (hi:i<ys.length),Rel G k nl ys[i] (f i)∧ys[i].bt=true:=by
 cases b with
 | slice o e xs =>
  simp only[ae.G8]at hs
  split at hs
  case isFalse=>cases hs
  rename_i hc
  injection hs with hs
  subst hs
  by_cases qR:xs=[]
  ·subst qR
   rcases hy.iF with⟨_,_,rfl⟩|⟨_,aa,c,rfl,_⟩
   ·exact⟨none,0,fun _=>Go.undef,rfl,fun h=>absurd h (zU _),fun i hi=>absurd hi (da _)⟩
   ·exact⟨some aa,c,fun _=>Go.undef,rfl,fun h=>absurd h (zU _),fun i hi=>absurd hi (da _)⟩
  ·have he:e=1:=by
    rcases hc with hc|hc
    ·exact hc
    ·exact absurd (by simpa using hc) qR
   subst he
   have pf:0<xs.length:=Cm.2 qR
   rcases hy.iF with⟨_,hn,_⟩|⟨_,ay,cy,rfl,_,_,oj,_⟩
   ·exact absurd hn qR
   ·obtain⟨vi,Bi,ly,oG,fy,vh,pg⟩:=fL.flat oj (by omega)
    have uW:ay=⟨ay.block,ay.off,none⟩:=vV (vi (by omega))
    obtain⟨qz,yF⟩:=yH (es:=1) (by omega) ly
    have hl:=agp ly
    refine⟨some ay,cy,fy,by rw[hl],fun _=>⟨ay,rfl,fun j hj=>?_⟩,fun i hi=>⟨?_,?_⟩⟩
    ·rw[uW,gY];exact h.rel.fc _ _ _ (vh j (by omega))
    ·obtain⟨g1,g2,g3⟩:=yF i hi
     rw[g3]
     have:=pg _ g1 _ g2
     rw[xV]at this
     exact .cl this
    ·obtain⟨r,hr,iT⟩:=ur.1 (gu hi)
     exact oG r hr _ iT
 | aO d b off e n cap =>
  simp only[ae.G8]at hs
  split at hs
  case isFalse=>cases hs
  rename_i he
  subst he
  obtain⟨cs,tB,hs⟩:=cX.1 hs
  split at hs
  case isFalse=>cases hs
  rename_i hle
  injection hs with hs
  subst hs
  obtain⟨blk,gr,rc,o0,rfl,hd,hg,cw,F8,_,hw,ho⟩:=hy.l3
  obtain⟨r,hr,di,JO,arr,tb,ny,cg,Pw⟩:=h.box hd tB hg cw
  have hl:((cs.drop off).take n).length=n:=by simp;omega
  refine⟨_,rc,fun j=>arr.getD (off+j) Go.undef,by rw[hl],fun h0=>⟨_,rfl,fun j hj=>?_⟩,fun i hi=>?_⟩
  ·have:=ho (.inl (by omega))
   subst this
   rw[gY,cell_of_heap ny]
   have:o0+j<arr.size:=by have:=cg.1;omega
   simp[Array.getD,this]
  ·have he:((cs.drop off).take n)[i]=cs[off+i]'(by omega):=by simp
   rw[he]
   exact⟨cg.2 _ _,Pw _ (gu _)⟩
 |_=>cases hs
theorem aeF (h:At P B0 w0 G k nl s w) {t u e ty:TypeId} (ht:P.underlying t=some (.slice e)) (hz:cK P e=some 1) {a b v:AV} {x y:Value} {s':ae}
  (hx:Rel G k nl a x) (hy:Rel G k nl b y) (hc:AK s a b=some (v,s')):
  ∃ x' w', (Builtin.copy_ #[t, u] ty #[x, y]).run P w = .ok x' w' ∧ db P B0 w0 G k nl s s' w' v x' := by
 unfold AK at hc
 split at hc
 ·rename_i o e1
  obtain⟨ys,h1,hc⟩:=aU.1 hc
  injection hc with e1 e2
  subst e1 e2
  obtain⟨ad,cap,f,rfl,_,_⟩:=aaL h hy h1
  obtain⟨dd,c,rfl⟩:∃dd c,x=.slice dd 0 c:=by
   rcases hx.iF with⟨_,_,rfl⟩|⟨_,aa,c,rfl,_⟩
   ·exact⟨_,_,rfl⟩
   ·exact⟨_,_,rfl⟩
  exact⟨_,w,run_copy_none w t u ty e dd ad 0 c ys.length cap ht hz (by simp),G,h,bA.refl _ _ _,rfl,.cl (.v rfl)⟩
 ·rename_i d b off e1 n cap
  split at hc
  case isFalse=>cases hc
  rename_i he
  subst he
  obtain⟨ys,h1,hc⟩:=cX.1 hc
  obtain⟨ad,UI,f,rfl,br,kF⟩:=aaL h hy h1
  have XU:=hx
  obtain⟨blk,gr,rc,o0,rfl,hd,hg,cw,F8,_,hw,ho⟩:=hx.l3
  split at hc
  ·rename_i qF
   injection hc with hc
   injection hc with e1 e2
   subst e1 e2
   have qK:Nat.min ys.length n=0:=by
    have:(ys.take n).length=0:=by rw[List.isEmpty_iff.1 qF];rfl
    rw[fV]at this
    show min ys.length n=0
    omega
   exact⟨_,w,run_copy_none w t u ty e _ ad n rc ys.length UI ht hz qK,G,h,bA.refl _ _ _,rfl,.cl (.v rfl)⟩
  ·rename_i qF
   obtain⟨q,cp,hc⟩:=aU.1 hc
   injection hc with e1 e2
   subst e1 e2
   have ze:0<(ys.take n).length:=by
    apply Cm.2
    intro e
    rw[e]at qF
    exact qF rfl
   have aC:(ys.take n).length=min n ys.length:=fV
   have fq:0<n:=by omega
   have:=ho (.inl fq)
   subst this
   have Ka:Rel G k nl (.ptr d b o0) (.pointer (some ⟨blk,o0,none⟩)):=.ptr gr hd hg cw
   have hyv:Rel G k nl (.agg (ys.take n)) (.agg ((List.range (ys.take n).length).map f).toArray):=by
    refine .agg (by simp) (fun c hc=>?_) (fun i hi=>?_)
    ·obtain⟨i,hi,rfl⟩:=nM hc
     have bD:i<ys.length:=by rw[aC]at hi;omega
     rw[List.getElem_take]
     exact(kF i bD).2
    ·have bD:i<ys.length:=by rw[aC]at hi;omega
     have:((List.range (ys.take n).length).map f).toArray.getD i Go.undef=f i:=by simp[Array.getD]at hi⊢;omega
     rw[this,List.getElem_take]
     exact(kF i bD).1
   obtain⟨fM,Qz,arr,tb,e1,h2,h3,h4,h5,h6⟩:=RA h Ka hyv cp
   injection e1 with e1
   injection e1 with e1
   injection e1 with e1 e2
   subst e1 e2
   obtain⟨ay,rfl,aT⟩:=br (by omega)
   have dw:(Value.agg ((List.range (ys.take n).length).map f).toArray).cells.toList=(List.range (ys.take n).length).map f:=rfl
   rw[dw]at h5 h6
   have hlen:((List.range (ys.take n).length).map f).length=(ys.take n).length:=by simp
   have cY:=run_copy_cells (P:=P) w t u ty e blk o0 n rc ay ys.length UI ((List.range (ys.take n).length).map f) ht hz (by rw[hlen,aC];exact Nat.min_comm _ _) (fun j v hj=>by
     have gR:j<(ys.take n).length:=by
      have:=(bd.1 hj).1
      rw[hlen]at this;exact this
     have e:((List.range (ys.take n).length).map f)[j]? =some (f j):=by rw[je,Hs gR];rfl
     rw[e]at hj
     injection hj with hj
     subst hj
     exact aT j (by omega)) (fun j hj=>by
     rw[hlen]at hj
     rw[cell_of_heap h2]
     have:o0+j<arr.size:=by omega
     simp[this]) (fun j _=>frozen_of_heap h2) h5
   refine⟨_,_,cY,?_⟩
   obtain⟨G',a1,a2,a3,_⟩:=h6
   rw[hlen]
   exact⟨G',a1,a2,a3,.cl (.v rfl)⟩
 ·cases hc
end
end Go.Ax
/-
  The other operations without a call.
-/
namespace Go.Ax
open Go.RowKit
section
variable{P:Program} {B0:Nat} {w0:World} {G:aG} {k nl:Nat} {w:World} {s:ae}
theorem db.same (h:At P B0 w0 G k nl s w) {x:AV} {v:Value} (hv:Rel G k nl x v):db P B0 w0 G k nl s s w x v:=⟨G,h,bA.refl _ _ _,rfl,hv⟩
theorem Rel.val (x:Value) (h:plain x=true):Rel G k nl (.v x) x:=.cl (.v h)
theorem akM {op : BinOp} {kd : IntKind} {x y : Int} {v : Value} (h : sB op kd x y = some v) (hs : p6 op = false) (t : TypeId) :
    (binOp op t (.int kd x) (.int kd y)).run P w=.ok v w∧plain v=true:=by
  cases op<;>simp only[p6]at hs<;>first
    |(cases hs;done)
    | (simp only [sB] at h
       first
         |(injection h with h;subst h;exact⟨by simp[binOp,Op.intArith,Op.intBits,Op.intCmp],rfl⟩)
         | (split at h
            · cases h
            · rename_i hy
              injection h with h
              subst h
              exact⟨by simp[binOp,Op.intDiv,hy],rfl⟩)
         |cases h)
theorem asB {op:BinOp} {kx ky:IntKind} {x y:Int} {v:Value} (h:tY op kx x y=some v) (t:TypeId):
  (binOp op t (.int kx x) (.int ky y)).run P w=.ok v w∧plain v=true:=by
 unfold tY at h
 split at h
 ·cases h
 ·rename_i hy
  cases op<;>simp only at h<;>first
   |(cases h;done)
   |(injection h with h;subst h;exact⟨by simp[binOp,Op.shift,hy],rfl⟩)
theorem as6 {op:BinOp} {x y:ByteArray} {v:Value} (h:sO op x y=some v) (t:TypeId):
    (binOp op t (.string x) (.string y)).run P w=.ok v w∧plain v=true:=by
  unfold sO at h
  simp only[←ByteArray.toList_eq]at h
  cases op<;>simp only at h<;>first
    |(injection h with h;subst h;exact⟨by simp[binOp,Op.stringOp],rfl⟩)
    | (split at h
       · cases h
       · rename_i hc
         injection h with h
         subst h
         exact⟨by simp only[binOp,Op.stringOp];rw[aq hc];rfl,rfl⟩)
    |cases h
theorem acM {op:BinOp} {a b v:AV} (h:dy op a b=some v):
  (∃kd x sD y,a=.v (.int kd x)∧b=.v (.int sD y)∧((p6 op=true∧∃z,tY op kd x y=some z∧v=.v z)∨(p6 op=false∧kd=sD∧∃z,sB op kd x y=some z∧v=.v z)))∨
  ∃x y z,a=.v (.string x)∧b=.v (.string y)∧sO op x y=some z∧v=.v z:=by
 unfold dy at h
 split at h
 ·rename_i kd x sD y
  refine .inl ⟨kd,x,sD,y,rfl,rfl,?_⟩
  by_cases hs:p6 op=true
  ·rw[ak hs]at h
   cases hz:tY op kd x y with
   |none=>rw[hz]at h;cases h
   |some z=>rw[hz]at h;injection h with h;exact .inl ⟨hs,z,rfl,h.symm⟩
  ·rw[aq hs]at h
   by_cases hk:kd=sD
   ·rw[ak hk]at h
    cases hz:sB op kd x y with
    |none=>rw[hz]at h;cases h
    |some z=>rw[hz]at h;injection h with h;exact .inr ⟨by simpa using hs,hk,z,rfl,h.symm⟩
   ·rw[aq hk]at h;cases h
 ·rename_i x y
  cases hz:sO op x y with
  |none=>rw[hz]at h;cases h
  |some z=>rw[hz]at h;injection h with h;exact .inr ⟨x,y,z,rfl,rfl,hz,h.symm⟩
 ·cases h
theorem acN {op:BinOp} {a b v:AV} {x y:Value} (t:TypeId) (hx:Rel G k nl a x) (hy:Rel G k nl b y) (h:dy op a b=some v):
  ∃z,(binOp op t x y).run P w=.ok z w∧Rel G k nl v z∧x≠.nilIface∧∀cs,x≠.agg cs:=by
 have hc:=acM h
 clear h
 rcases hc with⟨kd,a,sD,b,rfl,rfl,hq⟩|⟨a,b,z,rfl,rfl,hz,rfl⟩
 ·obtain rfl:=hx.gj
  obtain rfl:=hy.gj
  rcases hq with⟨_,z,hz,rfl⟩|⟨hs,rfl,z,hz,rfl⟩
  ·obtain⟨h1,h2⟩:=asB (P:=P) (w:=w) (ky:=sD) hz t
   exact⟨z,h1,.val z h2,by simp,by simp⟩
  ·obtain⟨h1,h2⟩:=akM (P:=P) (w:=w) hz hs t
   exact⟨z,h1,.val z h2,by simp,by simp⟩
 ·obtain rfl:=hx.gj
  obtain rfl:=hy.gj
  obtain⟨h1,h2⟩:=as6 (P:=P) (w:=w) hz t
  exact⟨z,h1,.val z h2,by simp,by simp⟩
theorem yz {op:BinOp} {t:TypeId} {x y:Operand} {a b:Value} (h1:a≠.nilIface) (h2:∀cs,a≠.agg cs):(eqGuard op t x y a b).run P w=.ok () w:=by
 unfold eqGuard
 cases op<;>simp<;>(cases a<;>simp_all)
theorem afe (t:TypeId) (neg:Bool) {x y:Value} {b:Bool} (h:(Op.equal t x y).run P w=.ok b w) (hx:(∀k n,x≠.int k n)∧(∀s,x≠.string s)∧(∀k n,x≠.float k n)∧(∀k m n,x≠.complex k m n)):
  (binOp (if neg then .neq else .eql) t x y).run P w=.ok (.bool (if neg then !b else b)) w:=by
 obtain⟨h1,h2,h3,h4⟩:=hx
 cases neg
 ·simp only[ef,cE]
  have:binOp .eql t x y=(do pure (.bool (←Op.equal t x y))):=by
   cases x<;>first|(exact absurd rfl (h1 _ _))|(exact absurd rfl (h2 _))|(exact absurd rfl (h3 _ _))|(exact absurd rfl (h4 _ _ _))|rfl
  rw[this]
  simp[h]
 ·simp only[bB]
  have:binOp .neq t x y=(do pure (.bool (!(←Op.equal t x y)))):=by
   cases x<;>first|(exact absurd rfl (h1 _ _))|(exact absurd rfl (h2 _))|(exact absurd rfl (h3 _ _))|(exact absurd rfl (h4 _ _ _))|rfl
  rw[this]
  simp[h]
theorem Vu {kd:PK} {x y:AV} {a b:Value} {c:Bool} {t:TypeId} (hx:Rel G k nl x a) (hy:Rel G k nl y b) (h:NU kd x y=some c) (ht:zD P t=some kd) (d:Nat):
  (Op.equalIn (d+1) t a b).run P w=.ok c w:=by
 unfold zD at ht
 unfold NU at h
 split at h
 ·obtain rfl:=hx.gj
  obtain rfl:=hy.gj
  split at ht<;>first|(cases ht;done)|skip
  rename_i hu
  split at h
  ·rename_i FZ
   subst FZ
   injection h with h
   subst h
   exact run_equalIn_int w d t _ _ _ _ hu
  ·cases h
 ·obtain rfl:=hx.gj
  obtain rfl:=hy.gj
  split at ht<;>first|(cases ht;done)|skip
  rename_i hu
  injection h with h
  subst h
  exact run_equalIn_bool' w d t _ _ hu
 ·obtain rfl:=hx.gj
  obtain rfl:=hy.gj
  split at ht<;>first|(cases ht;done)|skip
  rename_i hu
  injection h with h
  rw[←ByteArray.toList_eq,←ByteArray.toList_eq]at h
  subst h
  exact run_equalIn_string w d t _ _ hu
 ·cases h
theorem KS {t:TypeId} {kd:PK} (h:zD P t=some kd) {cs:Array Value} {i:Nat} (hi:i<cs.size):(Go.part t cs i).run P w=.ok cs[i] w:=by
 have ha:(isAgg t).run P w=.ok false w:=by
  unfold zD at h
  split at h<;>first
   |(rename_i hu;simp[isAgg,run_underlying hu,pure])
   |cases h
 unfold Go.part
 simp only[Sem.run_bind,ha,Result.andThen_ok,ef,cE]
 simp[hi]
theorem Vt (d:Nat) {xs ys:Array Value}:∀(fs:List Field) (ks:List PK) (as bs:List AV) (o:Nat) (c:Bool),(∀f,f∈fs→f.name≠ "_")→fu (fun f:Field=>zD P f.type) fs=some ks→fs.map (·.offset)=List.range' o fs.length→
  xs.size=o+as.length→ys.size=o+bs.length→(∀i (hi:i<as.length),Rel G k nl as[i] (xs.getD (o+i) Go.undef))→(∀i (hi:i<bs.length),Rel G k nl bs[i] (ys.getD (o+i) Go.undef))→
  Fl ks as bs=some c→(Op.eqFields (d+1) xs ys fs).run P w=.ok c w
 | [], ks, as, bs, o, c, _, hk, _, _, _, _, _, h => by
  simp only[fu]at hk
  injection hk with hk
  subst hk
  cases as with
  |nil=>cases bs with
   |nil=>simp only[Fl]at h;injection h with h;subst h;rfl
   |cons=>cases h
  |cons=>cases h
 | f :: fs, ks, as, bs, o, c, hn, hk, ho, Gq, kF, XY, X4, h => by
  simp only[fu]at hk
  split at hk
  case h_2=>cases hk
  rename_i kd ks' Bn F0
  injection hk with hk
  subst hk
  cases as with
  |nil=>cases h
  | cons a as =>
   cases bs with
   |nil=>cases h
   | cons b bs =>
    simp only[iM,dO,Co,vM]at ho
    obtain⟨ho,oY⟩:=ho
    simp only[dO]at Gq kF
    have pf:=XY 0 (by simp)
    have jS:=X4 0 (by simp)
    simp only[vQ,xQ]at pf jS
    have cr:o<xs.size:=by omega
    have OY:o<ys.size:=by omega
    have ex:xs.getD o Go.undef=xs[o]:=by simp[Array.getD,cr]
    have ey:ys.getD o Go.undef=ys[o]:=by simp[Array.getD,OY]
    rw[ex]at pf
    rw[ey]at jS
    simp only[Fl]at h
    simp only[Op.eqFields]
    rw[ak (hn f (by simp)),ho]
    split at h
    ·rename_i he
     have cY:=Vu (P:=P) (w:=w) pf jS he Bn d
     have ih:=Vt d (xs:=xs) (ys:=ys) fs ks' as bs (o+1) c (fun g hg=>hn g (by simp[hg])) F0 oY (by omega) (by omega)
      (fun i hi=>by have:=XY (i+1) (by simpa using hi);simpa[vP,LD 1 i]using this)
      (fun i hi=>by have:=X4 (i+1) (by simpa using hi);simpa[vP,LD 1 i]using this) h
     simp[KS Bn cr,KS Bn OY,cY,ih]
    ·rename_i he
     injection h with h
     subst h
     have cY:=Vu (P:=P) (w:=w) pf jS he Bn d
     simp[KS Bn cr,KS Bn OY,cY]
    ·cases h
end
end Go.Ax
/-
  The other operations without a call: each one's run.
-/
namespace Go.Ax
open Go.RowKit
section
variable{P:Program} {B0:Nat} {w0:World} {G:aG} {k nl:Nat} {w:World} {s:ae}
theorem afb {f:AV→Option Bool} {x y:AV} {c:Bool} (h:yA f x y=some c):(f x=some true∧f y=some c)∨(f y=some true∧f x=some c):=by
 unfold yA at h
 split at h
 ·rename_i b h1 h2
  injection h with h
  subst h
  exact .inl ⟨h1,h2⟩
 ·rename_i b _ h1 h2
  injection h with h
  subst h
  exact .inr ⟨h2,h1⟩
 ·cases h
theorem Y2 {x:AV} {y:Value} {c:Bool} (h:Rel G k nl x y) (hc:P8 x=some c):∃a n m,y=.slice a n m∧a.isNone=c:=by
 unfold P8 at hc
 split at hc
 ·injection hc with hc
  subst hc
  rcases h.iF with⟨_,_,rfl⟩|⟨aB,_⟩
  ·exact⟨_,_,_,rfl,rfl⟩
  ·exact absurd rfl aB
 ·rename_i aB
  injection hc with hc
  subst hc
  rcases h.iF with⟨he,_,_⟩|⟨_,a,cap,rfl,_⟩
  ·exact(aB he).elim
  ·exact⟨_,_,_,rfl,rfl⟩
 ·injection hc with hc
  subst hc
  obtain⟨blk,gr,rc,o0,rfl,_⟩:=h.l3
  exact⟨_,_,_,rfl,rfl⟩
 ·cases hc
theorem Y1 {x:AV} {y:Value} {c:Bool} (h:Rel G k nl x y) (hc:P7 x=some c):∃a:Option Addr,y=.pointer a∧a.isNone=c:=by
 unfold P7 at hc
 split at hc
 ·injection hc with hc;subst hc;obtain rfl:=h.gj;exact⟨_,rfl,rfl⟩
 ·injection hc with hc;subst hc;obtain⟨blk,gr,rfl,_⟩:=h.sC;exact⟨_,rfl,rfl⟩
 ·injection hc with hc;subst hc;obtain⟨blk,o0,f,rfl,_⟩:=h.zp;exact⟨_,rfl,rfl⟩
 ·cases hc
theorem Y0 {x:AV} {y:Value} {c:Bool} (h:Rel G k nl x y) (hc:P6 x=some c):(c=true∧y=.nilIface)∨(c=false∧∃t z,y=.iface t z):=by
 unfold P6 at hc
 split at hc
 ·injection hc with hc;subst hc;obtain rfl:=h.gj;exact .inl ⟨rfl,rfl⟩
 ·injection hc with hc;subst hc;obtain⟨z,rfl,_⟩:=h.P2;exact .inr ⟨rfl,_,_,rfl⟩
 ·injection hc with hc;subst hc
  cases h with
  |cl h=>cases h with|zB=>exact .inr ⟨rfl,_,_,rfl⟩
 ·cases hc
theorem YZ {x:AV} {y:Value} {c:Bool} (h:Rel G k nl x y) (hc:P5 x=some c):(c=true∧y=.nilFunc)∨(c=false∧∃f a b,y=.func f a b):=by
 unfold P5 at hc
 split at hc
 ·injection hc with hc;subst hc;obtain rfl:=h.gj;exact .inl ⟨rfl,rfl⟩
 ·injection hc with hc;subst hc;obtain⟨a,b,rfl,_⟩:=h.BB;exact .inr ⟨rfl,_,_,_,rfl⟩
 ·injection hc with hc;subst hc;obtain⟨r,rfl,_⟩:=h.P3;exact .inr ⟨rfl,_,_,_,rfl⟩
 ·cases hc
theorem uJ {t:TypeId} {x y:Value} {b:Bool} (h:∀d,(Op.equalIn (d+1) t x y).run P w=.ok b w):(Op.equal t x y).run P w=.ok b w:=by
 unfold Op.equal Op.maxDepth
 exact h 9999
theorem afg {t e:TypeId} {a b:Option Addr} {n m n' m':Nat} (ht:P.underlying t=some (.slice e)) (h:a=none∨b=none):
  (Op.equal t (.slice a n m) (.slice b n' m')).run P w=.ok (a.isNone&&b.isNone) w:=by
 refine uJ fun d=>?_
 rcases h with rfl|rfl
 ·simp[Op.equalIn,run_underlying ht]
 ·cases a<;>simp[Op.equalIn,run_underlying ht]
theorem aff {t e:TypeId} {a b:Option Addr} (ht:P.underlying t=some (.pointer e)) (h:a=none∨b=none):
  (Op.equal t (.pointer a) (.pointer b)).run P w=.ok (a.isNone&&b.isNone) w:=by
 refine uJ fun d=>?_
 rcases h with rfl|rfl
 ·simp[Op.equalIn,run_underlying ht]
 ·cases a<;>simp[Op.equalIn,run_underlying ht]
theorem Jm {f:AV→Option Bool} {x y:AV} {c:Bool} (he:yA f x y=some c):∃p q,f x=some p∧f y=some q∧(p=true∨q=true)∧c=(p&&q):=by
 rcases afb he with⟨h1,h2⟩|⟨h1,h2⟩
 ·exact⟨_,_,h1,h2,.inl rfl,by simp⟩
 ·exact⟨_,_,h2,h1,.inr rfl,by simp⟩
theorem NT {op:BinOp} {neg:Bool} {t:TypeId} {x y:Operand} {u v:Value} (cd:Fm op=some neg) (hc:(GA x||GA y)=true) (hu:∀cs,u≠.agg cs):(eqGuard op t x y u v).run P w=.ok () w:=by
  unfold eqGuard
  cases op<;>first|(cases cd;done)|skip
  all_goals
    cases u <;> first
      |exact absurd rfl (hu _)
      |(cases v<;>first
          |rfl
          |(cases x<;>cases y<;>first
              |rfl
              |(simp[GA]at hc;done)))
theorem afh {op:BinOp} {neg BP:Bool} {t:TypeId} {x y:Operand} {bx fN ax ay:aF} {kd:Hj} {ρ:Nat→AV} {a:Act} {c:Bool} (cd:Fm op=some neg) (rx:Rel G k nl (aE ρ bx) (a.eval x)) (ry:Rel G k nl (aE ρ fN) (a.eval y))
  (hm:Fh P op neg t x y bx fN=some (.eqv BP kd ax ay)) (he:oK kd (aE ρ ax) (aE ρ ay)=some c):
  (do eqGuard op t x y (a.eval x) (a.eval y);binOp op t (a.eval x) (a.eval y)).run P w=.ok (.bool (if BP then !c else c)) w:=by
 have ajD:op=(if neg=true then BinOp.neq else BinOp.eql):=by
  cases op<;>simp[Fm]at cd<;>subst cd<;>rfl
 have fin:∀{b:Bool},(eqGuard op t x y (a.eval x) (a.eval y)).run P w=.ok () w→(Op.equal t (a.eval x) (a.eval y)).run P w=.ok b w→
   ((∀k n,a.eval x≠.int k n)∧(∀s,a.eval x≠.string s)∧(∀k n,a.eval x≠.float k n)∧(∀k m n,a.eval x≠.complex k m n))→
   (do eqGuard op t x y (a.eval x) (a.eval y);binOp op t (a.eval x) (a.eval y)).run P w=.ok (.bool (if neg then !b else b)) w:=fun hg hq hn=>by
  have:=afe (P:=P) (w:=w) t neg hq hn
  rw[←ajD]at this
  simp[hg,this]
 unfold Fh at hm
 split at hm<;>first|(cases hm;done)|skip
 · -- bools
  rename_i hu
  injection hm with hm
  injection hm with e1 e2 e3 e4
  subst e1 e2 e3 e4
  simp only[oK]at he
  split at he
  ·rename_i p q h1 h2
   injection he with he
   subst he
   rw[h1]at rx
   rw[h2]at ry
   have ex:=rx.gj
   have ey:=ry.gj
   rw[ex,ey]at fin⊢
   exact fin (yz (by simp) (by simp)) (uJ fun d=>run_equalIn_bool' w d t _ _ hu) ⟨by simp,by simp,by simp,by simp⟩
  ·cases he
 · -- structs
  rename_i fs hu
  split at hm
  case isFalse=>cases hm
  rename_i bn
  obtain⟨c1,c2,c3,c4⟩:=bn
  cases F0:fu (fun f:Field=>zD P f.type) fs.toList with
  |none=>rw[F0]at hm;cases hm
  | some ks =>
   rw[F0]at hm
   simp only[dK,fl]at hm
   injection hm with e1 e2 e3 e4
   subst e1 e2 e3 e4
   simp only[oK]at he
   split at he
   ·rename_i p q h1 h2
    rw[h1]at rx
    rw[h2]at ry
    obtain⟨xs,ex,lx,_,qx⟩:=rx.xn
    obtain⟨ys,ey,ly,_,qy⟩:=ry.xn
    rw[ex,ey]at fin⊢
    have Bl:P.fieldsOf t=fs:=by simp[Program.fieldsOf,hu]
    refine fin (run_eqGuard_agg w op t x y xs ys c2) ?_ ⟨by simp,by simp,by simp,by simp⟩
    unfold Op.equal Op.maxDepth
    rw[run_equalIn_struct w 9999 t xs ys (by rw[Bl];exact hu) c1,Bl]
    refine Vt 9998 (xs:=xs) (ys:=ys) fs.toList ks p q 0 c (fun f hf=>?_) F0 ?_ (by omega) (by omega) (fun i hi=>by simpa using qx i hi) (fun i hi=>by simpa using qy i hi) he
    ·have:=jw.1 c3 f hf
     simpa using this
    ·rw[c4,zR]
     simp
   ·cases he
 · -- pointers
  rename_i e hu
  injection hm with hm
  injection hm with e1 e2 e3 e4
  subst e1 e2 e3 e4
  simp only[oK]at he
  obtain⟨p,q,hp,hq,pd,rfl⟩:=Jm he
  obtain⟨u,ex,PN⟩:=Y1 rx hp
  obtain⟨v,ey,nC⟩:=Y1 ry hq
  rw[ex,ey]at fin⊢
  have:=aff (P:=P) (w:=w) (a:=u) (b:=v) hu (by rcases pd with rfl|rfl<;>simp_all)
  rw[PN,nC]at this
  exact fin (yz (by simp) (by simp)) this ⟨by simp,by simp,by simp,by simp⟩
 · -- interfaces
  rename_i ms hu
  split at hm
  case isFalse=>cases hm
  rename_i ON
  injection hm with hm
  injection hm with e1 e2 e3 e4
  subst e1 e2 e3 e4
  simp only[oK]at he
  obtain⟨p,q,hp,hq,pd,rfl⟩:=Jm he
  rcases Y0 rx hp with⟨rfl,ex⟩|⟨rfl,tx,zx,ex⟩<;>rcases Y0 ry hq with⟨rfl,ey⟩|⟨rfl,ty,zy,ey⟩<;>rw[ex,ey]at fin⊢
  ·exact fin (NT cd ON (by simp)) (uJ fun d=>by simp[Op.equalIn,run_underlying hu]) ⟨by simp,by simp,by simp,by simp⟩
  ·exact fin (NT cd ON (by simp)) (uJ fun d=>by simp[Op.equalIn,run_underlying hu]) ⟨by simp,by simp,by simp,by simp⟩
  ·exact fin (NT cd ON (by simp)) (uJ fun d=>by simp[Op.equalIn,run_underlying hu]) ⟨by simp,by simp,by simp,by simp⟩
  ·rcases pd with h|h<;>cases h
 · -- slices
  rename_i e hu
  injection hm with hm
  injection hm with e1 e2 e3 e4
  subst e1 e2 e3 e4
  simp only[oK]at he
  obtain⟨p,q,hp,hq,pd,rfl⟩:=Jm he
  obtain⟨u,n,m,ex,PN⟩:=Y2 rx hp
  obtain⟨v,n',m',ey,nC⟩:=Y2 ry hq
  rw[ex,ey]at fin⊢
  have:=afg (P:=P) (w:=w) (a:=u) (b:=v) (n:=n) (m:=m) (n':=n') (m':=m') hu (by rcases pd with rfl|rfl<;>simp_all)
  rw[PN,nC]at this
  exact fin (yz (by simp) (by simp)) this ⟨by simp,by simp,by simp,by simp⟩
 · -- functions
  rename_i hu
  injection hm with hm
  injection hm with e1 e2 e3 e4
  subst e1 e2 e3 e4
  simp only[oK]at he
  obtain⟨p,q,hp,hq,pd,rfl⟩:=Jm he
  rcases YZ rx hp with⟨rfl,ex⟩|⟨rfl,fx,a1,a2,ex⟩<;>rcases YZ ry hq with⟨rfl,ey⟩|⟨rfl,fy,b1,b2,ey⟩<;>rw[ex,ey]at fin⊢
  ·exact fin (yz (by simp) (by simp)) (uJ fun d=>by simp[Op.equalIn,run_underlying hu]) ⟨by simp,by simp,by simp,by simp⟩
  ·exact fin (yz (by simp) (by simp)) (uJ fun d=>by simp[Op.equalIn,run_underlying hu]) ⟨by simp,by simp,by simp,by simp⟩
  ·exact fin (yz (by simp) (by simp)) (uJ fun d=>by simp[Op.equalIn,run_underlying hu]) ⟨by simp,by simp,by simp,by simp⟩
  ·rcases pd with h|h<;>cases h
end
end Go.Ax
/-
  The other operations without a call: each one's run (2).
-/
namespace Go.Ax
open Go.RowKit
section
variable{P:Program} {B0:Nat} {w0:World} {G:aG} {k nl:Nat} {w:World} {s:ae}
theorem aqD {c a b v:AV} {x y z:Value} (hx:Rel G k nl c x) (hy:Rel G k nl a y) (hz:Rel G k nl b z) (h:GO c a b=some v):
  ∃t:Bool,x=.bool t∧Rel G k nl v (if t then y else z):=by
 unfold GO at h
 split at h
 ·rename_i t
  obtain rfl:=hx.gj
  injection h with h
  subst h
  refine⟨t,rfl,?_⟩
  cases t
  ·exact hz
  ·exact hy
 ·cases h
theorem atg {op:UnOp} {a v:AV} {x:Value} (hx:Rel G k nl a x) (h:unOp op a=some v):∃z,(Op.unary op x).run P w=.ok z w∧Rel G k nl v z:=by
 unfold unOp at h
 split at h
 ·obtain rfl:=hx.gj
  cases op<;>simp only at h<;>first
   |(injection h with h;subst h;exact⟨_,by simp[Op.unary],.val _ rfl⟩)
   |cases h
 ·obtain rfl:=hx.gj
  cases op<;>simp only at h<;>first
   |(injection h with h;subst h;exact⟨_,by simp[Op.unary,Op.intArith],.val _ rfl⟩)
   |cases h
 ·cases h
theorem ao6 {a v:AV} {x:Value} (hx:Rel G k nl a x) (h:zz a=some v):Rel G k nl v x∧(x≠.pointer none∧x≠.nilIface∧x≠.nilFunc∧∀nm f c,x≠.func (.method nm) f c):=by
 unfold zz at h
 split at h
 ·injection h with h;subst h;obtain⟨_,_,rfl,_⟩:=hx.sC;exact⟨hx,by simp,by simp,by simp,by simp⟩
 ·injection h with h;subst h;obtain⟨_,_,_,rfl,_⟩:=hx.zp;exact⟨hx,by simp,by simp,by simp,by simp⟩
 ·injection h with h;subst h;obtain⟨_,_,rfl,_⟩:=hx.BB;exact⟨hx,by simp,by simp,by simp,by simp⟩
 ·injection h with h;subst h;obtain⟨_,rfl,_⟩:=hx.P3;exact⟨hx,by simp,by simp,by simp,by simp⟩
 ·injection h with h;subst h;obtain⟨_,rfl,_⟩:=hx.P2;exact⟨hx,by simp,by simp,by simp,by simp⟩
 ·cases h
theorem Ff {cs ds:List AV} {arr:Array Value} (h:closeAll cs=some ds) (hl:cs.length≤arr.size) (br:∀c,c∈cs→c.bt=true) (hR:∀i (hi:i<cs.length),Rel G k nl cs[i] (arr.getD i Go.undef)):
  ds.length=cs.length∧(∀c,c∈ds→c.bt=true)∧∀i (hi:i<ds.length),bJ G.I ds[i] (arr.getD i Go.undef):=by
 let _:=hl
 obtain⟨h1,h2⟩:=Jb h
 refine⟨h1,fun c hc=>?_,fun i hi=>(hR i (by omega)).close (h2 i (by omega) hi)⟩
 obtain⟨i,hi,rfl⟩:=nM hc
 exact NF (h2 i (by omega) hi) (br _ (gu _))
theorem akx {t:TypeId} {a v:AV} {x:Value} (hx:Rel G k nl a x) (h:Kq t a=some v):Rel G k nl v (.iface t x):=by
 unfold Kq at h
 split at h
 ·rename_i cs
  obtain⟨arr,rfl,hl,br,hR⟩:=hx.xn
  cases hc:closeAll cs with
  |none=>rw[hc]at h;cases h
  |some ds=>
   rw[hc]at h
   injection h with h
   subst h
   obtain⟨h1,h2,h3⟩:=Ff hc (Sv hl.symm) br hR
   exact .cl (.iface (.agg (by rw[hl,h1]) h2 h3))
 ·split at h
  ·injection h with h
   subst h
   exact .cl (.iface (hx.yw (by assumption)))
  ·cases h
theorem aoQ {f:FuncId} {first caps:List Operand} {af ac:List aF} {ρ:Nat→AV} {a:Act} (hR:eu G k nl ρ a) (hf:fu dt first=some af) (hc:fu dt caps=some ac) (aT:(af.map (aE ρ)).all AV.vm=true):
  Rel G k nl (.fn f (af.map (aE ρ)) (ac.map (aE ρ))) (.func (.func f) (first.toArray.map a.eval) (caps.toArray.map a.eval)):=by
 obtain⟨l1,h1⟩:=vo hf
 obtain⟨l2,h2⟩:=vo hc
 refine .fn (by simp[l1]) (by simp[l2]) (fun i hi=>?_) (fun i hi=>?_)
 ·have bD:i<af.length:=by simpa using hi
  have FU:i<first.length:=by omega
  have:=cZ (h1 i FU bD) hR
  have tC:(aE ρ af[i]).vm=true:=jw.1 aT _ (List.mem_map_of_mem (gu bD))
  have e:(first.toArray.map a.eval).getD i Go.undef=a.eval first[i]:=by simp[Array.getD,FU]
  rw[e]
  simp only[List.getElem_map]
  exact this.aew tC
 ·have bD:i<ac.length:=by simpa using hi
  have FU:i<caps.length:=by omega
  have:=cZ (h2 i FU bD) hR
  have e:(caps.toArray.map a.eval).getD i Go.undef=a.eval caps[i]:=by simp[Array.getD,FU]
  rw[e]
  simpa using this
theorem af9 {t:TypeId} {fs:Array Field} {f:Field} {i n:Nat} {g:Bool} {a v:AV} {x:Value} (ht:P.underlying t=some (.struct fs)) (hf:fs[i]? =some f) (hg:tM P f.type=some g) (hn:cK P f.type=some n) (hx:Rel G k nl a x)
  (h:Fq g n f.offset a=some v):∃z,(Instr.field t x i).run P w=.ok z w∧Rel G k nl v z:=by
 unfold Fq at h
 split at h
 ·rename_i cs
  obtain⟨arr,rfl,hl,br,hR⟩:=hx.xn
  rcases QL (f:=fun i=>arr.getD i Go.undef) h br hR with⟨rfl,hle,hv⟩|⟨rfl,aC,hv⟩
  ·refine⟨_,?_,hv⟩
   simp only[Instr.field,Sem.run_bind,run_underlying ht,Result.andThen_ok,hf,asAgg,Sem.run_pure,Go.part,zq hg,bB,jt hn]
   congr 2
   apply Array.ext
   ·simp;omega
   ·intro j h1 h2
    simp at h1 h2⊢
    have:f.offset+j<arr.size:=by omega
    simp[Array.getD,this]
  ·refine⟨_,?_,hv⟩
   have:f.offset<arr.size:=by omega
   simp only[Instr.field,Sem.run_bind,run_underlying ht,Result.andThen_ok,hf,asAgg,Sem.run_pure,Go.part,zq hg,ef,cE]
   simp[Array.getD,this]
 ·cases h
theorem afs {i:Nat} {a v:AV} {x:Value} (hx:Rel G k nl a x) (h:yB i a=some v):∃z,(Instr.extract x i).run P w=.ok z w∧Rel G k nl v z:=by
 unfold yB at h
 split at h
 ·rename_i vs
  obtain⟨arr,rfl,hl,hR⟩:=hx.akP
  obtain⟨h1,h2⟩:=bd.1 h
  have:=hR i h1
  rw[h2]at this
  refine⟨_,?_,this⟩
  have hi:i<arr.size:=by omega
  simp[Instr.extract,hi,Array.getD]
 ·cases h
theorem YD {t:TypeId} {ty:TypeId} {str:Bool} {a v:AV} {x:Value} (ht:(str=false∧∃e,P.underlying t=some (.slice e))∨(str=true∧P.underlying t=some .string)) (hx:Rel G k nl a x) (h:mN str a=some v):
  ∃ z, (Builtin.len_ #[t] ty #[x]).run P w = .ok z w ∧ Rel G k nl v z := by
 unfold mN at h
 rcases ht with⟨rfl,e,ht⟩|⟨rfl,ht⟩
 ·split at h
  ·injection h with h
   subst h
   rcases hx.iF with⟨_,rfl,rfl⟩|⟨_,p,cap,rfl,_⟩
   ·exact⟨_,by simp[Builtin.len_,run_underlying ht,goInt],.val _ rfl⟩
   ·exact⟨_,by simp[Builtin.len_,run_underlying ht,goInt],.val _ rfl⟩
  ·injection h with h
   subst h
   obtain⟨blk,gr,rc,o0,rfl,_⟩:=hx.l3
   exact⟨_,by simp[Builtin.len_,run_underlying ht,goInt],.val _ rfl⟩
  ·cases h
  ·cases h
 ·split at h
  ·cases h
  ·cases h
  ·injection h with h
   subst h
   obtain rfl:=hx.gj
   exact⟨_,by simp[Builtin.len_,run_underlying ht,goInt],.val _ rfl⟩
  ·cases h
theorem td {x:AV} {y:Value} {m n:Nat} (hx:Rel G k nl x y) (h:asNat x m=some n):∃kd z,y=.int kd z∧0≤z∧z≤m∧z.toNat=n:=by
 unfold asNat at h
 split at h
 ·obtain rfl:=hx.gj
  split at h
  ·rename_i hc
   injection h with h
   exact⟨_,_,rfl,hc.1,hc.2,h⟩
  ·cases h
 ·cases h
theorem L6 {x:AV} {m n:Nat} (h:asNat x m=some n):n≤m:=by
 unfold asNat at h
 split at h
 ·split at h
  ·injection h with h;omega
  ·cases h
 ·cases h
def jM (G:aG) (k nl:Nat):Option AV→Option Value→Prop
 |none,none=>True
 |some x,some y=>Rel G k nl x y
 |_,_=>False
theorem adg {isSlice:Bool} {len cap:Nat} {lo hi:Option AV} {gL bD:Option Value} {h l:Nat} (ew:jM G k nl lo gL) (ia:jM G k nl hi bD)
  (eh:lj hi false cap len=some h) (el:kf lo h=some l):
  (Instr.sliceBounds isSlice len cap gL bD none).run P w=.ok (l,h,cap) w:=by
 cases hi with
 | none =>
  cases bD with
  |some=>exact ia.elim
  | none =>
   simp only[lj,ef,cE,fl]at eh
   subst eh
   cases lo with
   | none =>
    cases gL with
    |some=>exact ew.elim
    |none=>
     simp only[kf,fl]at el
     subst el
     simp[Instr.sliceBounds]
   | some x =>
    cases gL with
    |none=>exact ew.elim
    |some y=>
     obtain⟨kd,z,rfl,z0,z1,rfl⟩:=td ew el
     simp[Instr.sliceBounds,run_sliceBound w kd z _ _ z0 z1]
 | some q =>
  cases bD with
  |none=>exact ia.elim
  | some p =>
   obtain⟨kd,z,rfl,z0,z1,rfl⟩:=td ia eh
   cases lo with
   | none =>
    cases gL with
    |some=>exact ew.elim
    |none=>
     simp only[kf,fl]at el
     subst el
     simp[Instr.sliceBounds,run_sliceBound w kd z _ _ z0 z1]
   | some x =>
    cases gL with
    |none=>exact ew.elim
    |some y=>
     obtain⟨sD,z',rfl,RO,RP,rfl⟩:=td ew el
     simp[Instr.sliceBounds,run_sliceBound w kd z _ _ z0 z1,run_sliceBound w sD z' _ _ RO RP]
theorem adh {isSlice:Bool} {len cap:Nat} {lo:Option AV} {hi mx:AV} {gL:Option Value} {bD jq:Value} {m h l:Nat} (ew:jM G k nl lo gL) (ia:Rel G k nl hi bD) (j8:Rel G k nl mx jq) (em:asNat mx cap=some m)
  (eh:asNat hi m=some h) (el:kf lo h=some l):
  (Instr.sliceBounds isSlice len cap gL (some bD) (some jq)).run P w=.ok (l,h,m) w:=by
 obtain⟨km,zm,rfl,zm0,zm1,rfl⟩:=td j8 em
 obtain⟨kd,z,rfl,z0,z1,rfl⟩:=td ia eh
 cases lo with
 | none =>
  cases gL with
  |some=>exact ew.elim
  |none=>
   simp only[kf,fl]at el
   subst el
   simp[Instr.sliceBounds,run_sliceBound w km zm _ _ zm0 zm1,run_sliceBound w kd z _ _ z0 z1]
 | some x =>
  cases gL with
  |none=>exact ew.elim
  |some y=>
   obtain⟨sD,z',rfl,RO,RP,rfl⟩:=td ew el
   simp[Instr.sliceBounds,run_sliceBound w km zm _ _ zm0 zm1,run_sliceBound w kd z _ _ z0 z1,run_sliceBound w sD z' _ _ RO RP]
theorem fL.cut {I:fU} {es:Nat} {xs:List (List AV)} {a:Addr} {cap l h:Nat} (hx:fL I es xs a cap) (hl:l≤h) (hh:h≤xs.length) (m:Nat) (hm:h≤m) (hmc:m≤cap) (q:Addr) (hq:q=if m=l then a else a.add (l*es)):
  fL I es ((xs.take h).drop l) q (m-l):=by
 cases hx with
 |empty=>
  have h0:h=0:=by simpa using hh
  have l0:l=0:=by omega
  have m0:m=0:=by omega
  subst h0 l0 m0
  exact .empty (.inl rfl)
 | @slice _ _ _ blk off _ f ho hc dQ br hI hR =>
  have hlen:((xs.take h).drop l).length=h-l:=by simp;omega
  have dR:∀i (hi:i<((xs.take h).drop l).length),((xs.take h).drop l)[i]=xs[l+i]'(by omega):=fun i hi=>by simp
  have iU:∀r,r∈(xs.take h).drop l→r∈xs:=fun r hr=>xT (Hx hr)
  have e2:q=⟨blk,(if m=l then off else off+l*es),none⟩:=by
   rw[hq]
   split
   ·rfl
   ·rw[gY]
  rw[e2]
  refine bJ.slice (fun i j=>f (l+i) j) (.inl rfl) (by omega) (fun r hr=>dQ r (iU r hr)) (fun r hr=>br r (iU r hr)) (fun i hi j hj=>?_) (fun i hi j hj=>?_)
  ·have aB:m≠l:=by omega
   have bD:l+i<xs.length:=by omega
   have dH:j<(xs[l+i]).length:=by simp only[dR i hi]at hj;exact hj
   rw[aq aB]
   have:=hI (l+i) bD j dH
   rw[gv]at this
   rw[←this]
   congr 1
   omega
  ·have bD:l+i<xs.length:=by omega
   have dH:j<(xs[l+i]).length:=by simp only[dR i hi]at hj;exact hj
   have:=hR (l+i) bD j dH
   simp only[dR i hi]
   exact this
end
end Go.Ax
/-
  The other operations without a call: slices, elements, structs and conversions.
-/
namespace Go.Ax
open Go.RowKit
section
variable{P:Program} {B0:Nat} {w0:World} {G:aG} {k nl:Nat} {w:World} {s:ae}
theorem S9 {x:AV} {m m' n:Nat} (h:asNat x m=some n) (hm:m≤m'):asNat x m'=some n:=by
 unfold asNat at h⊢
 split at h
 ·split at h
  ·rename_i hc
   rw[ak ⟨hc.1,by omega⟩]
   exact h
  ·cases h
 ·cases h
theorem Fe (es:Nat):∀(n:Nat) (cs:List AV),n*es≤cs.length→(chunks es n cs).length=n∧(∀r,r∈chunks es n cs→r.length=es)∧(∀r,r∈chunks es n cs→∀c,c∈r→c∈cs)∧
  ∀i (hi:i<(chunks es n cs).length) j (hj:j<(chunks es n cs)[i].length),∃h:i*es+j<cs.length,(chunks es n cs)[i][j]=cs[i*es+j]
 |0,cs,_=>by simp[chunks]
 | n + 1, cs, h => by
  have hs:(n+1)*es=n*es+es:=by rw[gv,rz]
  obtain⟨a1,a2,a3,a4⟩:=Fe es n (cs.drop es) (by simp;omega)
  refine⟨by simp[chunks,a1],fun r hr=>?_,fun r hr c hc=>?_,fun i hi j hj=>?_⟩
  ·simp only[chunks,eB]at hr
   rcases hr with rfl|hr
   ·simp;omega
   ·exact a2 r hr
  ·simp only[chunks,eB]at hr
   rcases hr with rfl|hr
   ·exact xT hc
   ·exact Hx (a3 r hr c hc)
  ·cases i with
   |zero=>
    simp only[chunks,xQ,fV]at hj⊢
    exact⟨by omega,by simp⟩
   |succ i=>
    simp only[chunks,Ht,dO]at hi hj⊢
    obtain⟨h1,h2⟩:=a4 i (by omega) j hj
    simp only[sX]at h1
    have e:(i+1)*es+j=es+(i*es+j):=by rw[gv,rz];omega
    refine⟨by omega,?_⟩
    rw[h2,List.getElem_drop]
    simp only[e]
theorem Ra {I:fU} {cs:List AV} {es n cap blk o0 off:Nat} {f:Nat→Value} (br:∀c,c∈cs→c.bt=true) (hI:∀i,i<cs.length→I blk (o0+i)=some (f i)) (hR:∀i (hi:i<cs.length),bJ I cs[i] (f i))
  (hle:off+n*es≤cs.length) (hc:n≤cap):fL I es (chunks es n (cs.drop off)) ⟨blk,o0+off,none⟩ cap:=by
 obtain⟨a1,a2,a3,a4⟩:=Fe es n (cs.drop off) (by simp;omega)
 have:fL I es (chunks es n (cs.drop off)) ⟨blk,o0+off,none⟩ cap:=by
  refine bJ.slice (fun i j=>f (off+(i*es+j))) (.inl rfl) (by omega) a2 (fun r hr c hc=>br c (Hx (a3 r hr c hc))) (fun i hi j hj=>?_) (fun i hi j hj=>?_)
  ·obtain⟨h1,_⟩:=a4 i hi j hj
   simp only[sX]at h1
   have:=hI (off+(i*es+j)) (by omega)
   rw[←this]
   congr 1
   omega
  ·obtain⟨h1,h2⟩:=a4 i hi j hj
   rw[h2,List.getElem_drop]
   exact hR _ _
 exact this
theorem aa1 {I:fU} {es:Nat} {xs:List (List AV)} {a:Addr} {n:Nat} (hn:xs.length=n) (h:bJ I (.slice .any es xs) (.slice (some a) n n)):bJ I (.slice .full es xs) (.slice (some a) n n):=by
 subst hn
 generalize hN:xs.length=N at h
 cases h with
 |slice f ho hc dQ br hI hR=>exact .slice f (.inr ⟨rfl,rfl⟩) hc dQ br hI hR
 |empty=>exact .empty (.inr rfl)
def abS (P:Program) (t:TypeId):Cv→Prop
 |.str=>P.underlying t=some .string
 |.sl es=>∃e,P.underlying t=some (.slice e)∧cK P e=some es
 |.arr n es=>∃e,P.underlying t=some (.array n e)∧cK P e=some es
theorem aoy {lo:Option AV} {h l:Nat} (e:kf lo h=some l):l≤h:=by
 cases lo with
 |none=>simp only[kf,fl]at e;omega
 |some y=>exact L6 e
theorem aoW {mx:Option AV} {cap m:Nat} (e:qX mx cap=some m):m≤cap:=by
 cases mx with
 |none=>simp only[qX,fl]at e;omega
 |some y=>exact L6 e
theorem Al {isSlice:Bool} {len cap cap':Nat} {lo hi mx:Option AV} {gL bD jq:Option Value} {m h l:Nat} (ew:jM G k nl lo gL) (ia:jM G k nl hi bD) (j8:jM G k nl mx jq)
  (fp:len≤cap) (WX:cap≤cap') (em:qX mx cap=some m) (eh:lj hi mx.isSome m len=some h) (el:kf lo h=some l):
  l≤h∧h≤m∧m≤cap∧(Instr.sliceBounds isSlice len cap' gL bD jq).run P w=.ok (l,h,if mx.isSome then m else cap') w:=by
 have hm:=aoW em
 have hl:=aoy el
 have hh:h≤m:=by
  cases hi with
  |none=>
   cases mx with
   |none=>simp only[lj,qX,s7,ef,cE,fl]at eh em;omega
   |some=>simp[lj]at eh
  |some y=>exact L6 eh
 refine⟨hl,hh,hm,?_⟩
 cases mx with
 | none =>
  cases jq with
  |some=>exact j8.elim
  |none=>
   simp only[qX,fl]at em
   subst em
   simp only[s7,ef,cE]
   refine adg ew ia ?_ el
   cases hi with
   |none=>exact eh
   |some y=>exact S9 eh WX
 | some mv =>
  cases jq with
  |none=>exact j8.elim
  | some mv' =>
   cases hi with
   |none=>simp[lj]at eh
   | some hv =>
    cases bD with
    |none=>exact ia.elim
    |some nC=>
     simp only[xW,bB]
     exact adh ew ia j8 (S9 em WX) eh el
theorem asO {t:TypeId} {q:ByteArray} {x:Value} {v:AV} {lo hi mx:Option AV} {gL bD jq:Option Value} (ht:P.underlying t=some .string)
  (hx:Rel G k nl (.v (.string q)) x) (ew:jM G k nl lo gL) (ia:jM G k nl hi bD) (j8:jM G k nl mx jq) (h:iH .str (.v (.string q)) lo hi mx=some v):
  ∃z,(Instr.sliceAt t x gL bD jq).run P w=.ok z w∧Rel G k nl v z:=by
 obtain rfl:=hx.gj
 simp only[iH]at h
 split at h
 ·cases h
 rename_i hs
 obtain⟨hh,eh,h⟩:=cX.1 h
 obtain⟨l,el,rfl⟩:=aU.1 h
 have hn:mx=none:=by cases mx with|none=>rfl|some=>simp at hs
 subst hn
 obtain⟨h1,h2,h3,hb⟩:=Al (P:=P) (w:=w) (isSlice:=false) (len:=q.size) (cap:=q.size) (cap':=q.size) ew ia j8 (aH _) (aH _) rfl eh el
 have iV:jq=none:=by cases jq with|none=>rfl|some=>exact j8.elim
 subst iV
 refine⟨_,?_,.val _ rfl⟩
 simp only[Instr.sliceAt,Sem.run_bind,run_underlying ht,Result.andThen_ok,Instr.slice,s7,ef,cE,Sem.run_pure]
 simp[hb]
theorem asN {t e:TypeId} {e0:Nat} {o:Own} {es:Nat} {xs:List (List AV)} {x:Value} {v:AV} {lo hi mx:Option AV} {gL bD jq:Option Value} (ht:P.underlying t=some (.slice e)) (bR:cK P e=some e0)
  (hx:Rel G k nl (.slice o es xs) x) (ew:jM G k nl lo gL) (ia:jM G k nl hi bD) (j8:jM G k nl mx jq) (h:iH (.sl e0) (.slice o es xs) lo hi mx=some v):
  ∃z,(Instr.sliceAt t x gL bD jq).run P w=.ok z w∧Rel G k nl v z:=by
 simp only[iH]at h
 split at h
 case isFalse=>cases h
 rename_i FQ
 obtain⟨m,em,h⟩:=cX.1 h
 obtain⟨hh,eh,h⟩:=cX.1 h
 obtain⟨l,el,rfl⟩:=aU.1 h
 rcases hx.iF with⟨rfl,rfl,rfl⟩|⟨aB,p,cap,rfl,qP,fp,lZ,wU⟩
 ·obtain⟨h1,h2,h3,hb⟩:=Al (P:=P) (w:=w) (isSlice:=true) (len:=0) (cap:=0) (cap':=0) ew ia j8 (aH _) (aH _) em eh el
  have h0:hh=0:=by simp at h3;omega
  have l0:l=0:=by omega
  have m0:m=0:=by simp at h3;omega
  subst h0 l0 m0
  have hv:Rel G k nl (.slice .aA es []) (.slice none 0 0):=.cl .aA
  have lr:(.slice (xD .aA mx.isSome (0==0&&0==([]:List (List AV)).length) (0==0&&decide (0<0))) es (([].take 0).drop 0):AV)=.slice .aA es []:=by
   cases mx<;>simp[xD,G6,Own.isNil]
  refine⟨.slice none 0 0,?_,by rw[lr];exact hv⟩
  simp only[Instr.sliceAt,Sem.run_bind,run_underlying ht,Result.andThen_ok,Instr.slice,hb]
  cases mx<;>simp[jt bR]
 ·have heq:es=e0:=by
   rcases FQ with h0|h0
   ·cases o<;>simp_all [Own.isNil]
   ·exact h0
  subst heq
  obtain⟨h1,h2,h3,hb⟩:=Al (P:=P) (w:=w) (isSlice:=true) (len:=xs.length) (cap:=xs.length) (cap':=cap) ew ia j8 (aH _) fp em eh el
  have hlen:((xs.take hh).drop l).length=hh-l:=by simp;omega
  refine⟨.slice (some (if(if mx.isSome then m else cap)=l then p else p.add (l*es))) (hh-l) ((if mx.isSome then m else cap)-l),?_,?_⟩
  ·simp only[Instr.sliceAt,Sem.run_bind,run_underlying ht,Result.andThen_ok,Instr.slice,hb,jt bR,dK,Sem.run_pure]
   congr 2
   split<;>split<;>rfl
  ·generalize hM:(if mx.isSome then m else cap)=M
   have hMh:hh≤M:=by rw[←hM];split<;>omega
   have r9:bJ G.I (.slice .any es ((xs.take hh).drop l)) (.slice (some (if M=l then p else p.add (l*es))) (hh-l) (M-l)):=by
    have:=fL.cut lZ h1 (by omega) M hMh (by rw[←hM];split<;>omega) _ rfl
    unfold fL at this
    rwa [hlen]at this
   cases mx with
   | none =>
    simp only[s7,ef,cE]at hM
    subst hM
    simp only[xD,s7,ef,cE]
    by_cases hw:(l==0&&hh==xs.length)=true
    ·simp only[dB,Nq]at hw
     obtain⟨rfl,rfl⟩:=hw
     have e1:(xs.take xs.length).drop 0=xs:=by simp
     have e2:(if cap=0 then p else p.add (0*es))=p:=by
      split
      ·rfl
      ·rw[vV (qP (by omega)),gY];simp
     rw[e1,e2]
     simp only[SE]
     cases o with
     |aA=>exact absurd rfl aB
     |any=>exact hx
     |full=>exact .cl lZ
     |tok d g=>simpa[G6]using hx
    ·have ho:G6 o (l==0&&hh==xs.length)=.any:=by
      cases o with
      |aA=>exact absurd rfl aB
      |any=>rfl
      |full=>rfl
      |tok d g=>simp only[G6];rw[aq hw]
     rw[ho]
     exact .cl r9
   | some mv =>
    simp only[xW,bB]at hM
    subst hM
    have w8:o.isNil=false:=by cases o<;>simp_all [Own.isNil]
    simp only[xD,xW,bB,w8,ef,cE]
    by_cases hw:(hh==m&&decide (0<m))=true
    ·rw[ak hw]
     simp only[dB,Nq]at hw
     obtain⟨rfl,_⟩:=hw
     exact .cl (aa1 hlen r9)
    ·rw[aq hw]
     exact .cl r9
theorem asM {t e:TypeId} {e0 d b off es n cap:Nat} {x:Value} {v:AV} {lo hi mx:Option AV} {gL bD jq:Option Value} (ht:P.underlying t=some (.slice e)) (bR:cK P e=some e0)
  (hx:Rel G k nl (.aO d b off es n cap) x) (ew:jM G k nl lo gL) (ia:jM G k nl hi bD) (j8:jM G k nl mx jq) (h:iH (.sl e0) (.aO d b off es n cap) lo hi mx=some v):
  ∃z,(Instr.sliceAt t x gL bD jq).run P w=.ok z w∧Rel G k nl v z:=by
 simp only[iH]at h
 split at h
 case isFalse=>cases h
 rename_i FQ
 subst FQ
 obtain⟨m,em,h⟩:=cX.1 h
 obtain⟨hh,eh,h⟩:=cX.1 h
 obtain⟨l,el,rfl⟩:=aU.1 h
 obtain⟨blk,gr,rc,o0,rfl,hd,hg,cw,hn,hc,hw,ho⟩:=hx.l3
 obtain⟨h1,h2,h3,hb⟩:=Al (P:=P) (w:=w) (isSlice:=true) (len:=n) (cap:=max n cap) (cap':=rc) ew ia j8 (Cr _ _) (Nat.max_le.2 ⟨hn,hc⟩) em eh el
 have Pa:m≤if mx.isSome then m else rc:=by
  split
  ·exact aH _
  ·exact kO h3 (Nat.max_le.2 ⟨hn,hc⟩)
 generalize hM:(if mx.isSome then m else rc)=M at hb Pa
 refine⟨.slice (some ⟨blk,if M=l then o0 else o0+l*es,none⟩) (hh-l) (M-l),?_,.aO gr hd hg cw (LL (kO h2 Pa) l) (LL Pa l) (fun e1 e2=>by omega) (fun hp=>?_)⟩
 ·simp only[Instr.sliceAt,Sem.run_bind,run_underlying ht,Result.andThen_ok,Instr.slice,hb,jt bR,dK,Sem.run_pure,gY]
  congr 2
  split<;>rfl
 ·have Xk:l<m:=by omega
  have h0:o0=off:=ho (by omega)
  rw[aq (by omega),aq (by omega),h0]
theorem asL {t e:TypeId} {N es:Nat} {a v:AV} {x:Value} {lo hi mx:Option AV} {gL bD jq:Option Value} (ht:P.underlying t=some (.array N e)) (bR:cK P e=some es)
  (hx:Rel G k nl a x) (ew:jM G k nl lo gL) (ia:jM G k nl hi bD) (j8:jM G k nl mx jq) (h:iH (.arr N es) a lo hi mx=some v):
  ∃z,(Instr.sliceAt t x gL bD jq).run P w=.ok z w∧Rel G k nl v z:=by
 unfold iH at h
 split at h<;>try contradiction
 ·rename_i n0 es0 d b off hk
  injection hk with nz iC
  subst nz iC
  split at h
  ·cases h
  rename_i hs
  have hn:mx=none:=by cases mx with|none=>rfl|some=>simp at hs
  subst hn
  obtain⟨hh,eh,h⟩:=cX.1 h
  obtain⟨l,el,rfl⟩:=aU.1 h
  obtain⟨blk,gr,rfl,hd,hg,cw⟩:=hx.sC
  obtain⟨h1,h2,h3,hb⟩:=Al (P:=P) (w:=w) (isSlice:=false) (len:=N) (cap:=N) (cap':=N) ew ia j8 (aH _) (aH _) rfl eh el
  refine⟨_,?_,.aO gr hd hg cw (LL h2 l) (aH _) (fun e1 e2=>by omega) (fun _=>rfl)⟩
  simp only[Instr.sliceAt,Sem.run_bind,run_underlying ht,Result.andThen_ok,Instr.sureAddr,hb,jt bR,Sem.run_pure,gY,s7,ef,cE]
  congr 3
  split<;>rfl
 ·rename_i n0 es0 cs off hk
  injection hk with nz iC
  subst nz iC
  split at h
  ·cases h
  rename_i hs
  have hn:mx=none:=by cases mx with|none=>rfl|some=>simp at hs
  subst hn
  obtain⟨hh,eh,h⟩:=cX.1 h
  obtain⟨l,el,h⟩:=cX.1 h
  split at h
  case isFalse=>cases h
  rename_i hle
  injection h with h
  subst h
  obtain⟨blk,o0,f,rfl,br,hI,hR⟩:=hx.zp
  obtain⟨h1,h2,h3,hb⟩:=Al (P:=P) (w:=w) (isSlice:=false) (len:=N) (cap:=N) (cap':=N) ew ia j8 (aH _) (aH _) rfl eh el
  have hmul:l*es+(hh-l)*es≤N*es:=by
   rw[←gv]
   exact oB _ (by omega)
  have cg:=Ra (cap:=N-l) br hI hR (es:=es) (n:=hh-l) (off:=off+l*es) (by omega) (LL h2 l)
  have hlen:=(Fe es (hh-l) (cs.drop (off+l*es)) (by simp;omega)).1
  refine⟨.slice (some (if N=l then⟨blk,o0+off,none⟩else⟨blk,o0+(off+l*es),none⟩)) (hh-l) (N-l),?_,?_⟩
  ·simp only[Instr.sliceAt,Sem.run_bind,run_underlying ht,Result.andThen_ok,Instr.sureAddr,hb,jt bR,Sem.run_pure,gY,s7,ef,cE]
   congr 3
   split
   ·rfl
   ·congr 1;omega
  ·by_cases hN:N=l
   ·subst hN
    have h0:hh=N:=by omega
    subst h0
    simp only[HI,chunks,bB]
    exact .cl (.slice (xs:=[]) (fun _ _=>Go.undef) (.inl rfl) (aH _) (fun r hr=>by cases hr) (fun r hr=>by cases hr) (fun i hi=>absurd hi (da _)) (fun i hi=>absurd hi (da _)))
   ·rw[aq hN]
    have:=Rel.cl (G:=G) (k:=k) (nl:=nl) cg
    unfold fL at cg
    rw[hlen]at cg
    exact .cl cg
theorem Ru {t:TypeId} {kd:Cv} {a v:AV} {x:Value} {lo hi mx:Option AV} {gL bD jq:Option Value} (ht:abS P t kd)
  (hx:Rel G k nl a x) (ew:jM G k nl lo gL) (ia:jM G k nl hi bD) (j8:jM G k nl mx jq) (h:iH kd a lo hi mx=some v):
  ∃z,(Instr.sliceAt t x gL bD jq).run P w=.ok z w∧Rel G k nl v z:=by
 cases kd with
 | str =>
  cases a with
  |v q=>
   cases q with
   |string q=>exact asO ht hx ew ia j8 h
   |_=>simp[iH]at h
  |_=>simp[iH]at h
 |sl e0=>
  obtain⟨e,ht,hs⟩:=ht
  cases a with
  |slice o es xs=>exact asN ht hs hx ew ia j8 h
  |aO d b off es n cap=>exact asM ht hs hx ew ia j8 h
  |_=>simp[iH]at h
 |arr n es=>
  obtain⟨e,ht,hs⟩:=ht
  exact asL ht hs hx ew ia j8 h
end
end Go.Ax
