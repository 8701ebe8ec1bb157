/-
  append: to a slice that is nil or full, and to one with the right to grow.
-/
import Derived.Test.YtjgbdhjcpcmajaaGreatDoorT1
import Derived.Laws.IdiomCopy
import Derived.Laws.StructEq
import Derived.Laws.IdiomStrings
import Derived.Laws.BytesString
import Derived.Laws.Slices
set_option linter.unusedSimpArgs false
set_option linter.unusedVariables false
set_option maxRecDepth 100000
namespace Go.Ax
open Go.RowKit
section
variable{P:Program} {B0:Nat} {w0:World} {G:aG} {k nl:Nat} {w:World} {s:ae}
theorem fM.flat {I:fV} {es:Nat} {xs:List (List AV)} {a:Addr} {cap:Nat} (h:fM I es xs a cap) (dR:0<es):
  (0<cap→a.spot=none)∧xs.length≤cap∧(∀r,r∈xs→r.length=es)∧(∀r,r∈xs→∀c,c∈r→c.bt=true)∧
  ∃g:Nat→Value,(∀c,c<xs.length*es→I a.block (a.off+c)=some (g c))∧∀i (hi:i<xs.length) j (hj:j<xs[i].length),bJ I (xs[i][j]) (g (i*es+j)):=by
 cases h with
 |empty=>exact⟨fun h=>absurd h (zU _),aH _,by simp,by simp,fun _=>Go.undef,fun c hc=>by simp at hc,fun i hi=>absurd hi (da _)⟩
 | slice f ho hc hlen br hI hR =>
  refine⟨fun _=>rfl,hc,hlen,br,fun c=>f (c/es) (c%es),fun c aC=>?_,fun i hi j hj=>?_⟩
  ·have h1:c/es<xs.length:=by rw[Sj dR];exact aC
   have h2:c%es<(xs[c/es]).length:=by rw[hlen _ (gv h1)];exact sZ _ dR
   have:=hI (c/es) h1 (c%es) h2
   rw[vP,xV]at this
   exact this
  ·have dH:j<es:=by rw[←hlen _ (gv hi)];exact hj
   have e1:(i*es+j)/es=i:=by rw[Sq,Nat.mul_add_div dR,Lx dH];omega
   have e2:(i*es+j)%es=j:=by rw[Sq,Nat.mul_add_mod,HC dH]
   simp only[e1,e2]
   exact hR i hi j hj
theorem fM.mk {I:fV} {es:Nat} {xs:List (List AV)} {blk off cap:Nat} (g:Nat→Value) (hc:xs.length≤cap) (hlen:∀r,r∈xs→r.length=es) (br:∀r,r∈xs→∀c,c∈r→c.bt=true)
  (hI:∀c,c<xs.length*es→I blk (off+c)=some (g c)) (hR:∀i (hi:i<xs.length) j (hj:j<xs[i].length),bJ I (xs[i][j]) (g (i*es+j))):fM I es xs ⟨blk,off,none⟩ cap:=by
 refine .slice (fun i j=>g (i*es+j)) (.inl rfl) hc hlen br (fun i hi j hj=>?_) hR
 rw[vP]
 refine hI _ ?_
 have dH:j<es:=by rw[←hlen _ (gv hi)];exact hj
 calc i*es+j<i*es+es:=by omega
  _=(i+1)*es:=by rw[gw,rA]
  _≤xs.length*es:=oC _ hi
def both (n:Nat) (f g:Nat→Value):Nat→Value:=fun c=>if c<n then f c else g (c-n)
theorem ac5 (n m:Nat) (f g:Nat→Value):(List.range n).map f++(List.range m).map g=(List.range (n+m)).map (both n f g):=by
 apply Li
 ·simp
 ·intro i h1 h2
  simp only[cj,bY,pF]at h1
  by_cases hi:i<n
  ·rw[um (by simpa using hi)]
   simp[both,hi]
  ·rw[uo (by simpa using hi)]
   simp[both,hi]
theorem akK {I:fV} {es:Nat} {xs ys:List (List AV)} {f g:Nat→Value} (hx:∀i (hi:i<xs.length) j (hj:j<xs[i].length),bJ I (xs[i][j]) (f (i*es+j)))
  (hy:∀i (hi:i<ys.length) j (hj:j<ys[i].length),bJ I (ys[i][j]) (g (i*es+j))) (lx:∀r,r∈xs→r.length=es) (i:Nat) (hi:i<(xs++ys).length) (j:Nat) (hj:j<(xs++ys)[i].length):
  bJ I ((xs++ys)[i][j]) (both (xs.length*es) f g (i*es+j)):=by
 by_cases h:i<xs.length
 ·have e:(xs++ys)[i]=xs[i]:=um h
  have dH:j<xs[i].length:=by rw[←e];exact hj
  have aC:i*es+j<xs.length*es:=by
   have:j<es:=by rw[←lx _ (gv h)];exact dH
   calc i*es+j<i*es+es:=by omega
    _=(i+1)*es:=by rw[gw,rA]
    _≤xs.length*es:=oC _ h
  have:=hx i h j dH
  simp only[both,aC,bB,e]
  exact this
 ·have h':i-xs.length<ys.length:=by simp at hi;omega
  have e:(xs++ys)[i]=ys[i-xs.length]:=uo (by omega)
  have dH:j<ys[i-xs.length].length:=by rw[←e];exact hj
  have nx:¬i*es+j<xs.length*es:=by
   have:=oC es (Ly h)
   omega
  have he:i*es+j-xs.length*es=(i-xs.length)*es+j:=by
   have:=oC es (Ly h)
   rw[Nat.sub_mul];omega
  have:=hy _ h' j dH
  simp only[both,nx,cE,he,e]
  exact this
theorem Wn (need:Nat):∀(r c:Nat),c≤need+(need+768)/4→Builtin.growBy need r c≤need+(need+768)/4
 |0,c,h=>h
 |r+1,c,h=>by
  simp only[Builtin.growBy]
  split
  ·exact h
  ·exact Wn need r _ (by omega)
theorem aoX (need Qs:Nat) (h:Qs<need):Builtin.nextslicecap need Qs≤2*need+1000:=by
 unfold Builtin.nextslicecap
 split
 ·omega
 ·split
  ·omega
  ·have:=Wn need 4 Qs (by omega)
   omega
structure uh (P:Program) (t e:TypeId) (es fO:Nat) (z:Value):Prop where
 slice:P.underlying t=some (.slice e)
 size:cK P e=some es
 bytes:yk P e=some fO
 zero:(P.info? e).bind (·.zero)=some z
 atX:z.cells.size=es
 pos:0<es
 adb:0<fO
 ble:fO≤4096
theorem xG {e:TypeId} {z:Value} (h:(P.info? e).bind (·.zero)=some z) (w:World):(zeroValue e).run P w=.ok z w:=by
 cases hi:P.info? e with
 |none=>rw[hi]at h;cases h
 |some i=>
  rw[hi]at h
  simp only[eL]at h
  simp[zeroValue,typeInfo,hi,h]
theorem Gv {e:TypeId} {b:Nat} (h:yk P e=some b):∃i,P.info? e=some i∧i.bytes=b:=by
 unfold yk at h
 cases hi:P.info? e with
 |none=>rw[hi]at h;cases h
 |some i=>
  rw[hi]at h
  simp only[dK,fm]at h
  exact⟨i,rfl,h⟩
theorem NZ {a:Addr} {n es len cap:Nat} {g:Nat→Value} (h:∀c,c<n*es→w.cell? (a.add c)=some (g c)):
  (Builtin.firstCells es n (.slice (some a) len cap)).run P w=.ok ((List.range (n*es)).map g).toArray w:=by
 simp only[Builtin.firstCells]
 exact run_loadCells w a (n*es) g h
theorem vY {t u e ty:TypeId} {es fO n cap:Nat} {z:Value} (hT:uh P t e es fO z) (hu:∃e',P.underlying u=some (.slice e')) (base b:Option Addr) (c:Nat) (hle:n≤cap):
  (Builtin.append_ #[t, u] ty #[.slice base n cap, .slice b 0 c]).run P w = .ok (.slice base n cap) w := by
 obtain⟨e',hu⟩:=hu
 obtain⟨i,hi,_⟩:=Gv hT.bytes
 have hs:i.size=es:=by have:=hT.size;unfold cK at this;rw[hi]at this;simpa using this
 have hf : ∀ b : Option Addr, (Builtin.firstCells es 0 (.slice b 0 c)).run P w = .ok #[] w := fun b => by
  cases b with
  |none=>simp[Builtin.firstCells]
  |some a=>simp[Builtin.firstCells,loadCells,loadCellsFrom]
 cases base with
 |none=>simp[Builtin.append_,run_underlying hT.slice,run_underlying hu,sizeOf,typeInfo,hi,hs,Builtin.lenOf,hle,hf]
 |some a=>simp[Builtin.append_,run_underlying hT.slice,run_underlying hu,sizeOf,typeInfo,hi,hs,Builtin.lenOf,hle,hf,storeCells]
theorem LW {t u e ty:TypeId} {es fO n m cap c blk:Nat} {z:Value} {a:Addr} {g:Nat→Value} {arr:Array Value} {tb:TypeId} (hT:uh P t e es fO z) (hu:∃e',P.underlying u=some (.slice e')) (hle:n+m≤cap)
  (hg:∀c,c<m*es→w.cell? (a.add c)=some (g c)) (hw:w.heap[blk]? =some (.cells arr tb)) (bR:(n+m)*es≤arr.size) (h1:∀c,c<m*es→(g c).oneCell'=true):
  (Builtin.append_ #[t, u] ty #[.slice (some ⟨blk, 0, none⟩) n cap, .slice (some a) m c]).run P w = .ok (.slice (some ⟨blk, 0, none⟩) (n + m) cap) (w.setCells blk (n * es) ((List.range (m * es)).map g)) := by
 obtain⟨e',hu⟩:=hu
 obtain⟨i,hi,_⟩:=Gv hT.bytes
 have hs:i.size=es:=by have:=hT.size;unfold cK at this;rw[hi]at this;simpa using this
 have ON:=NZ (P:=P) (len:=m) (cap:=c) hg
 have cp:=run_storeCells_cells (P:=P) blk (n*es) ((List.range (m*es)).map g) 0 w (fun j hj=>by
   rw[cell_of_heap hw]
   have dH:j<m*es:=by simpa using hj
   rw[gw]at bR
   simp;omega) (fun j _=>frozen_of_heap hw) (fun v hv=>by
   simp only[cC,nQ]at hv
   obtain⟨c,hc,rfl⟩:=hv
   exact h1 c hc)
 rw[vQ]at cp
 simp[Builtin.append_,run_underlying hT.slice,run_underlying hu,sizeOf,typeInfo,hi,hs,Builtin.lenOf,hle,ON,gZ,cp]
theorem yg {t e:TypeId} {es fO n cap:Nat} {z:Value} (hT:uh P t e es fO z) (lj:¬n≤cap) (oj:n≤dN):Builtin.nextslicecap n cap*fO≤2^48:=by
 have avm:=aoX n cap (by omega)
 unfold dN at oj
 have h1:Builtin.nextslicecap n cap*fO≤(2*4294967296+1000)*4096:=Nat.mul_le_mul (by omega) hT.ble
 omega
theorem vX {t u e ty:TypeId} {es fO n m cap c:Nat} {z:Value} {base:Option Addr} {a:Addr} {f g:Nat→Value} (hT:uh P t e es fO z) (hu:∃e',P.underlying u=some (.slice e')) (lj:¬n+m≤cap) (oj:Builtin.nextslicecap (n+m) cap*fO≤2^48)
  (hf:∀b,base=some b→∀c,c<n*es→w.cell? (b.add c)=some (f c)) (jP:base=none→n=0) (hg:∀c,c<m*es→w.cell? (a.add c)=some (g c)):
  ∃ (newCap : Nat) (rest : List Value), n + m ≤ newCap ∧ rest.length = (newCap - (n + m)) * es ∧
   (Builtin.append_ #[t, u] ty #[.slice base n cap, .slice (some a) m c]).run P w =
    .ok (.slice (some ⟨w.heap.size,0,none⟩) (n+m) newCap) (w.drew.alloc (.cells ((List.range (n*es+m*es)).map (both (n*es) f g)++rest).toArray e)):=by
 obtain⟨e',hu⟩:=hu
 obtain⟨i,hi,uY⟩:=Gv hT.bytes
 have hs:i.size=es:=by have:=hT.size;unfold cK at this;rw[hi]at this;simpa using this
 have hz:i.zero=some z:=by have:=hT.zero;rw[hi]at this;simpa using this
 have avg:cap<n+m:=by omega
 have ah9:¬Builtin.nextslicecap (n+m) cap*i.bytes>2^48:=by rw[uY];omega
 have jA:¬i.bytes=0:=by have:=hT.adb;omega
 have ON:=NZ (P:=P) (w:=w.drew) (n:=m) (es:=es) (a:=a) (g:=g) (len:=m) (cap:=c) hg
 have hold:(Builtin.firstCells es n (.slice base n cap)).run P w.drew=.ok ((List.range (n*es)).map f).toArray w.drew:=by
  cases base with
  |none=>rw[jP rfl];simp[Builtin.firstCells]
  |some b=>exact NZ (P:=P) (w:=w.drew) (hf b rfl)
 have fq:n+m≤(Question.appendCap (n+m) cap e).cut (w.tape w.drawn (Question.appendCap (n+m) cap e)):=by simp[Question.cut]
 generalize JX:(Question.appendCap (n+m) cap e).cut (w.tape w.drawn (Question.appendCap (n+m) cap e))=newCap at fq
 refine⟨newCap,(Builtin.zeroCells z.cells (newCap-(n+m))).toList,fq,by simp[Builtin.zeroCells,hT.atX],?_⟩
 have Bi:(Question.appendCap (n+m) cap e).forced=false:=rfl
 simp only[Builtin.append_,R4,Hn,Lq,Sem.run_bind,Sem.run_pure,Result.andThen_ok,run_underlying hT.slice,run_underlying hu,ju hT.size,
  Builtin.lenOf,ej,lj,↓reduceIte]
 simp[typeInfo,hi,jA,ah9,hold,ON,newRow,Bi,JX,xG hT.zero]
 rw[←ac5]
 congr 2
 apply Array.ext'
 simp
theorem YV {l:List (Option Nat)} {g:Nat} {x:Option Nat} (h:none∈l) (hg:x=none∨∃n,l[g]? =some (some n)):none∈l.set g x:=by
 obtain⟨j,hj⟩:=mZ h
 have hl:=(bd.1 hj).1
 by_cases e:j=g
 ·subst e
  rcases hg with rfl|⟨n,hn⟩
  ·exact bQ (i:=j) (by simp[hl])
  ·rw[hj]at hn;injection hn with hn;cases hn
 ·exact bQ (i:=j) (by rw[eJ (qj e)];exact hj)
theorem vS.tokens {G':aG} {w':World} {d g0:Nat} {r:Rec} {gr:cH} (aI:vS B0 G d r gr w) (hle:bA d gr.nl G G') (hk:jw (· =.tok d g0) G w G' w') {toks':List (Option Nat)} {tk':List kS}
  (hl:tk'.length=toks'.length) (aC:none∈r.toks→none∈toks')
  (hg:∀(g:Nat) (n:Option Nat) (T:kS),toks'[g]? =some n→tk'[g]? =some T→(g≠g0∧r.toks[g]? =some n∧gr.tk[g]? =some T)∨(g=g0∧zX B0 G' d g n T w')):
  vS B0 G' d {r with toks:=toks'} {gr with tk:=tk'} w':=by
 refine⟨aI.dY,hl,fun b cs blk e1 e2=>?_,fun b blk e1 e2=>aC (aI.full b blk e1 e2),fun g n T e1 e2=>?_,fun i b e1=>?_,aI.mA⟩
 ·exact(aI.box b cs blk e1 e2).kept hle hk (fun _ e=>by cases e)
 ·rcases hg g n T e1 e2 with⟨aB,h1,h2⟩|⟨_,h⟩
  ·have ht:=aI.tok g n T h1 h2
   have hs:∀(hn:n.isSome=true),G'.own T.blk=some (.tok d g)∧w'.heap[T.blk]? =w.heap[T.blk]? ∧∀i,G.I T.blk i=none→G'.I T.blk i=none:=fun hn=>by
    obtain⟨m,hm⟩:=oD.1 hn
    exact hk _ _ (ht.2 m hm).2.1 (fun e=>by injection e with _ e;exact aB e)
   exact ht.cJ (fun hn=>(hs hn).1) (fun hn=>(hs hn).2.1) (fun hn=>(hs hn).2.2)
  ·exact h
 ·have hm:=aI.mark i b e1
  obtain⟨k1,k2,_⟩:=hk _ _ hm.2.1 (fun e=>by cases e)
  exact hm.cJ k1 k2
def aG.qk (G:aG) (b n:Nat) (f:Nat→Value):fV:=fun c i=>if c=b then(if i<n then some (f i)else none)else G.I c i
theorem Nl {xs ys:List (List AV)} {es:Nat} {I:fV} {f g:Nat→Value} {blk cap:Nat} (lx:∀r,r∈xs→r.length=es) (ly:∀r,r∈ys→r.length=es)
  (cx:∀r,r∈xs→∀c,c∈r→c.bt=true) (cy:∀r,r∈ys→∀c,c∈r→c.bt=true) (fq:xs.length+ys.length≤cap)
  (hI:∀c,c<(xs.length+ys.length)*es→I blk c=some (both (xs.length*es) f g c))
  (hx:∀i (hi:i<xs.length) j (hj:j<xs[i].length),bJ I (xs[i][j]) (f (i*es+j))) (hy:∀i (hi:i<ys.length) j (hj:j<ys[i].length),bJ I (ys[i][j]) (g (i*es+j))):
  fM I es (xs++ys) ⟨blk,0,none⟩ cap:=by
 refine fM.mk (both (xs.length*es) f g) (by simpa using fq) (fun r hr=>?_) (fun r hr=>?_) (fun c hc=>?_) (akK hx hy lx)
 ·rcases dD.1 hr with h|h
  ·exact lx r h
  ·exact ly r h
 ·rcases dD.1 hr with h|h
  ·exact cx r h
  ·exact cy r h
 ·rw[fC]
  exact hI c (by simpa using hc)
theorem SQ (h : At P B0 w0 G k nl s w) {es n : Nat} {xs ys : List (List AV)} {f g : Nat → Value} {newCap : Nat} {rest : List Value} {e : TypeId} (dR : 0 < es) (hn : n = xs.length + ys.length)
    (lx:∀r,r∈xs→r.length=es) (ly:∀r,r∈ys→r.length=es) (cx:∀r,r∈xs→∀c,c∈r→c.bt=true) (cy:∀r,r∈ys→∀c,c∈r→c.bt=true)
    (hx:∀i (hi:i<xs.length) j (hj:j<xs[i].length),bJ G.I (xs[i][j]) (f (i*es+j))) (hy:∀i (hi:i<ys.length) j (hj:j<ys[i].length),bJ G.I (ys[i][j]) (g (i*es+j)))
    (fq:n≤newCap) (gW:rest.length=(newCap-n)*es):
    db P B0 w0 G k nl s (s.kU k n) (w.drew.alloc (.cells ((List.range (xs.length*es+ys.length*es)).map (both (xs.length*es) f g)++rest).toArray e))
      (.slice (.tok k (s.jJ k)) es (xs++ys)) (.slice (some ⟨w.heap.size,0,none⟩) n newCap):=by
  obtain⟨r,gr,hr,hg⟩:=h.cI (aH k)
  have aI:=h.rel.cI k r gr hr hg
  have si:s.jJ k=r.toks.length:=by simp[ae.jJ,hr]
  have Br:xs.length*es+ys.length*es=n*es:=by rw[hn,gw]
  let T:kS:=⟨some n,w.heap.size,newCap,es⟩
  let G':aG:={G with I:=G.qk w.heap.size (n*es) (both (xs.length*es) f g),ag:=G.ag.modify k fun q=>{q with tk:=q.tk++[T]},own:=fun b=>if b=w.heap.size then some (.tok k r.toks.length)else G.own b}
  generalize wQ:((List.range (xs.length*es+ys.length*es)).map (both (xs.length*es) f g)++rest).toArray=arr
  have rW:arr.size=newCap*es:=by
    rw[←wQ]
    simp only[xU,cj,bY,pF,gW,Br]
    rw[←gw]
    congr 1
    omega
  have dS:∀c,c<n*es→arr[c]? =some (both (xs.length*es) f g c):=fun c hc=>by
    rw[←wQ,Br]
    simp only[R4]
    rw[dC (by simpa using hc)]
    simp[hc]
  let w':=w.drew.alloc (.cells arr e)
  have hI:∀b i v,G.I b i=some v→G'.I b i=some v:=fun b i v e=>by
    have:=h.rel.sS e
    simp only[G',aG.qk]
    rw[aq (by omega)]
    exact e
  have hk:jw (· =.tok k r.toks.length) G w G' w':=fun b o e _=>by
    have aC:=h.rel.eN b o e
    refine⟨by simp only[G'];rw[aq (by omega)];exact e,Below.heap_alloc w.drew _ _ aC,fun i e=>?_⟩
    simp only[G',aG.qk]
    rw[aq (by omega)]
    exact e
  have fc:iO gr {gr with tk:=gr.tk++[T]}:=⟨fun b blk e=>e,fun g T e=>⟨T,mz e,.refl T⟩,rfl,fun _ _ e=>e⟩
  have gA:w'.heap[w.heap.size]? =some (.cells arr e):=World.alloc_heap_new w.drew _
  have u0:bA k gr.nl G G':=⟨hI,fun d q _ e=>by
    show∃bI,(G.ag.modify k _)[d]? =some bI∧_
    rw[dM]
    by_cases hd:k=d
    · subst hd
      rw[hg]at e
      injection e with e
      subst e
      exact⟨_,by rw[ak rfl,hg];rfl,fc,fun _=>rfl⟩
    · exact⟨q,by rw[aq hd];exact e,.refl q,fun _=>rfl⟩,fun _ _ _ e=>e⟩
  have fS:=h.rel.bp (G':=G') (w':=w') hr hg (fun r=>{r with toks:=r.toks++[some n]}) (fun q=>{q with tk:=q.tk++[T]}) (· =.tok k r.toks.length) rfl rfl hI fc rfl hk
    (fun o ho=>.inr ⟨_,ho⟩) ?_ (fun b i v e=>?_) (((Below.refl _ _).drew).alloc h.rel.low _) (fun b o e=>?_)
  · obtain ⟨mM, jD⟩ := fS
    have hlen:(s.kU k n).ag.length=s.ag.length:=by simp[ae.kU,ae.bp]
    obtain⟨gc,nw,wW⟩:=h.cur
    rw[hg]at nw
    injection nw with nw
    subst nw
    have gy:G'.ag[k]? =some {gr with tk:=gr.tk++[T]}:=by
      show(G.ag.modify k _)[k]? =_
      rw[dM,ak rfl,hg];rfl
    have lj:({gr with tk:=gr.tk++[T]}:cH).tk[r.toks.length]? =some T:=by
      show(gr.tk++[T])[r.toks.length]? =_
      rw[←aI.iJ,gE (aH _)]
      simp
    refine⟨G',h.to mM (jD _ _) hlen,jD _ _,by simp[ae.kU,ae.bp],?_⟩
    rw[si]
    have hc:fM G'.I es (xs++ys) ⟨w.heap.size,0,none⟩ newCap:=
      Nl lx ly cx cy (by omega) (fun c hc=>by
        simp only[G',aG.qk]
        rw[ak trivial,ak (by rw[hn];exact hc)]) (fun i hi j hj=>(hx i hi j hj).mono hI) (fun i hi j hj=>(hy i hi j hj).mono hI)
    have hl:(xs++ys).length=n:=by simp[hn]
    have:=Rel.tok (G:=G') (k:=k) (nl:=nl) (d:=k) (g:=r.toks.length) (es:=es) (xs:=xs++ys) (a:=⟨w.heap.size,0,none⟩) (cap:=newCap) T _ (aH _) gy lj rfl hc
      (fun m hm=>by
        simp only[T]at hm
        injection hm with hm
        subst hm
        exact⟨by omega,fun _=>⟨rfl,rfl⟩⟩)
    rw[hl]at this
    exact this
  · refine aI.tokens (toks' := r.toks ++ [some n]) (tk' := gr.tk ++ [T]) u0 hk (by simp [aI.iJ]) (pG _) (fun g m T' e1 e2 => ?_)
    rcases eo e1 with⟨aC,e1⟩|⟨rfl,rfl⟩
    · refine .inl ⟨by omega, e1, ?_⟩
      rcases eo e2 with⟨_,e2⟩|⟨hb,_⟩
      · exact e2
      · rw[aI.iJ]at hb;omega
    · have : T' = T := by
        rcases eo e2 with⟨hb,_⟩|⟨_,e⟩
        · rw[aI.iJ]at hb;omega
        · exact e
      subst this
      refine .inr ⟨rfl,rfl,fun m hm=>?_⟩
      injection hm with hm
      subst hm
      refine⟨h.rel.low,by simp[G',T],fun i hi=>?_,fq,dR,arr,e,gA,rW⟩
      simp only[G',aG.qk,T]at hi⊢
      rw[ak trivial,aq (by omega)]
  · simp only [G', aG.qk] at e
    split at e
    · rename_i hb
      subst hb
      split at e
      · rename_i hi
        injection e with e
        subst e
        rw[cell_of_heap gA]
        exact dS i hi
      · cases e
    · rename_i hb
      have:=h.rel.fe b i v e
      rw[E5 (w:=w) (Below.heap_alloc w.drew _ _ (h.rel.sS e)) rfl]
      exact this
  · simp only [G'] at e
    split at e
    · rename_i hb;subst hb;simp[w']
    · have:=h.rel.eN b o e;simp[w'];omega
theorem BX {α:Type} {l:List α} {i j:Nat} {x y:α} (h:(l.set i x)[j]? =some y):(j≠i∧l[j]? =some y)∨(j=i∧y=x∧i<l.length):=by
 rw[sW]at h
 by_cases er:i=j
 ·rw[ak er]at h
  split at h
  ·injection h with h
   exact .inr ⟨er.symm,h.symm,by assumption⟩
  ·cases h
 ·rw[aq er]at h
  exact .inl ⟨fun e=>er e.symm,h⟩
theorem GU {α:Type} {l:List α} {i:Nat} {x y:α} (h:l[i]? =some y):(l.set i x)[i]? =some x:=by
 rw[sW,ak rfl,ak (bd.1 h).1]
theorem aaU (h : At P B0 w0 G k nl s w) {d g n m : Nat} {r : Rec} {gr : cH} {T T' : kS} {w' : World} {I' : fV} {own' : Nat → Option rB} (hd : d ≤ k) (hr : s.ag[d]? = some r) (hg : G.ag[d]? = some gr)
    (jn:r.toks[g]? =some (some n)) (lj:gr.tk[g]? =some T) (WA:T'.n=some m) (aC:n<m) (dR:T'.es=T.es)
    (hI:∀b i v,G.I b i=some v→I' b i=some v) (hk:∀b o,G.own b=some o→o≠.tok d g→own' b=some o∧w'.heap[b]? =w.heap[b]? ∧∀i,G.I b i=none→I' b i=none)
    (gA:zX B0 {G with I:=I',ag:=G.ag.modify d fun q=>{q with tk:=q.tk.set g T'},own:=own'} d g (some m) T' w')
    (FR:∀b i v,I' b i=some v→w'.cell? ⟨b,i,none⟩=some v) (hb:Below B0 w w') (F5:∀b o,own' b=some o→b<w'.heap.size)
    {es:Nat} {xs:List (List AV)} {a:Addr} {cap:Nat} (FM:T'.es=es) (hlen:xs.length=m) (hc:fM I' es xs a cap) (ha:a=⟨T'.blk,0,none⟩) (fq:cap=T'.cap):
    db P B0 w0 G k nl s (s.mg d g (some m)) w' (.slice (.tok d g) es xs) (.slice (some a) m cap):=by
  have aI:=h.rel.cI d r gr hr hg
  have oR:T.n=some n:=(aI.tok g (some n) T jn lj).1
  let G':aG:={G with I:=I',ag:=G.ag.modify d fun q=>{q with tk:=q.tk.set g T'},own:=own'}
  have aj1:vT T T':=⟨dR,.inr (.inr ⟨n,m,oR,WA,aC⟩)⟩
  have fc:iO gr {gr with tk:=gr.tk.set g T'}:=⟨fun b blk e=>e,fun j U e=>by
    by_cases hj:j=g
    · subst hj
      rw[lj]at e
      injection e with e
      subst e
      exact⟨T',GU lj,aj1⟩
    · exact⟨U,by show(gr.tk.set g T')[j]? =_;rw[sW,aq (fun e=>hj e.symm)];exact e,.refl U⟩,rfl,fun _ _ e=>e⟩
  have u5:jw (· =.tok d g) G w G' w':=hk
  have u0:bA d gr.nl G G':=⟨hI,fun d' q _ e=>by
    show∃bI,(G.ag.modify d _)[d']? =some bI∧_
    rw[dM]
    by_cases wS:d=d'
    · subst wS
      rw[hg]at e
      injection e with e
      subst e
      exact⟨_,by rw[ak rfl,hg];rfl,fc,fun _=>rfl⟩
    · exact⟨q,by rw[aq wS];exact e,.refl q,fun _=>rfl⟩,fun _ _ _ e=>e⟩
  have fS:=h.rel.bp (G':=G') (w':=w') hr hg (fun r=>{r with toks:=r.toks.set g (some m)}) (fun q=>{q with tk:=q.tk.set g T'}) (· =.tok d g) rfl rfl hI fc rfl u5
    (fun o ho=>.inr ⟨_,ho⟩) ?_ FR hb F5
  · obtain ⟨mM, jD⟩ := fS
    have aiW:(s.mg d g (some m)).ag.length=s.ag.length:=by simp[ae.mg,ae.bp]
    have gy:G'.ag[d]? =some {gr with tk:=gr.tk.set g T'}:=by
      show(G.ag.modify d _)[d]? =_
      rw[dM,ak rfl,hg];rfl
    refine⟨G',h.to mM (jD _ _) aiW,jD _ _,by simp[ae.mg,ae.bp],?_⟩
    have:=Rel.tok (G:=G') (k:=k) (nl:=nl) (d:=d) (g:=g) (es:=es) (xs:=xs) (a:=a) (cap:=cap) T' _ hd gy (GU lj) FM hc
      (fun p hp=>by
        rw[WA]at hp
        injection hp with hp
        subst hp
        exact⟨by omega,fun _=>⟨ha,fq⟩⟩)
    rw[hlen]at this
    exact this
  · refine aI.tokens (toks' := r.toks.set g (some m)) (tk' := gr.tk.set g T') u0 u5 (by simp [aI.iJ]) (fun hm => YV hm (.inr ⟨_, jn⟩)) (fun j p U e1 e2 => ?_)
    rcases BX e1 with⟨aB,e1⟩|⟨rfl,rfl,_⟩
    · rcases BX e2 with ⟨_, e2⟩ | ⟨hj, _⟩
      · exact .inl ⟨aB,e1,e2⟩
      · exact absurd hj aB
    · rcases BX e2 with ⟨hj, _⟩ | ⟨_, rfl, _⟩
      · exact absurd rfl hj
      · exact .inr ⟨rfl,gA⟩
theorem acb (h:At P B0 w0 G k nl s w) {d g n es:Nat} {xs ys:List (List AV)} {fx fy:Nat→Value} {r:Rec} {gr:cH} {T:kS} (hd:d≤k) (hr:s.ag[d]? =some r) (hg:G.ag[d]? =some gr)
  (jn:r.toks[g]? =some (some xs.length)) (lj:gr.tk[g]? =some T) (A8:T.es=es) (dR:0<es) (hn:n=xs.length+ys.length) (jT:0<ys.length) (lA:n≤T.cap)
  (lx:∀r,r∈xs→r.length=es) (ly:∀r,r∈ys→r.length=es) (cx:∀r,r∈xs→∀c,c∈r→c.bt=true) (cy:∀r,r∈ys→∀c,c∈r→c.bt=true)
  (xk:∀c,c<xs.length*es→G.I T.blk c=some (fx c))
  (hx:∀i (hi:i<xs.length) j (hj:j<xs[i].length),bJ G.I (xs[i][j]) (fx (i*es+j))) (hy:∀i (hi:i<ys.length) j (hj:j<ys[i].length),bJ G.I (ys[i][j]) (fy (i*es+j))):
  db P B0 w0 G k nl s (s.mg d g (some n)) (w.setCells T.blk (xs.length*es) ((List.range (ys.length*es)).map fy)) (.slice (.tok d g) es (xs++ys)) (.slice (some ⟨T.blk,0,none⟩) n T.cap):=by
 have aI:=h.rel.cI d r gr hr hg
 have hTR:=aI.tok g (some xs.length) T jn lj
 obtain⟨oR,rQ⟩:=hTR
 obtain⟨t1,t2,t3,t4,t5,arr,ty,t6,t7⟩:=rQ _ rfl
 rw[A8]at t3 t7
 have Br:n*es=xs.length*es+ys.length*es:=by rw[hn,gw]
 let I':fV:=fun b i=>if b=T.blk∧xs.length*es≤i∧i<n*es then some (fy (i-xs.length*es))else G.I b i
 have hI:∀b i v,G.I b i=some v→I' b i=some v:=fun b i v e=>by
  simp only[I']
  split
  ·rename_i hc
   obtain⟨rfl,h1,_⟩:=hc
   rw[t3 i h1]at e
   cases e
  ·exact e
 have yS:Below B0 w (w.setCells T.blk (xs.length*es) ((List.range (ys.length*es)).map fy)):=Dy t1 _ _ _
 have ajg:=FK ((List.range (ys.length*es)).map fy) (xs.length*es) arr w t6
 have F6:∀b,b≠T.blk→(w.setCells T.blk (xs.length*es) ((List.range (ys.length*es)).map fy)).heap[b]? =w.heap[b]? :=fun b hb=>FL hb _ _ _
 have au6:n*es≤arr.size:=by rw[t7];exact oC _ lA
 have bH:=World.cell?_setCells_in T.blk ((List.range (ys.length*es)).map fy) (xs.length*es) w (fun j hj=>by
  rw[cell_of_heap t6]
  have dH:j<ys.length*es:=by simpa using hj
  simp;omega)
 refine aaU h (T:=T) (T':={T with n:=some n}) (I':=I') (own':=G.own) hd hr hg jn lj rfl (by omega) rfl hI (fun b o ho aB=>?_) ?_ (fun b i v e=>?_) yS (fun b o ho=>?_) A8 (by simp[hn]) ?_ rfl rfl
 ·have hb:b≠T.blk:=by
   rintro rfl
   rw[t2]at ho
   injection ho with ho
   exact aB ho.symm
  refine⟨ho,F6 b hb,fun i e=>?_⟩
  simp only[I']
  rw[aq (fun hc=>hb hc.1)]
  exact e
 ·refine⟨rfl,fun p hp=>?_⟩
  injection hp with hp
  subst hp
  refine⟨t1,t2,fun i hi=>?_,lA,t5,_,ty,ajg,by rw[xA,t7,A8]⟩
  simp only[A8]at hi
  simp only[I']
  rw[aq (fun hc=>by omega)]
  exact t3 i (by omega)
 ·simp only[I']at e
  split at e
  ·rename_i hc
   obtain⟨rfl,h1,h2⟩:=hc
   injection e with e
   subst e
   have:=bH (i-xs.length*es) (by simp;omega)
   rw[show xs.length*es+(i-xs.length*es)=i by omega]at this
   rw[this]
   simp
  ·rename_i hc
   have hv:=h.rel.fe b i v e
   rw[World.cell?_setCells_out]
   ·exact hv
   ·intro hb _
    have hb:b=T.blk:=hb
    subst hb
    simp only[bY,pF]
    rcases Sn i (xs.length*es)with h1|h1
    ·exact .inl h1
    ·exact .inr (by
      have:¬i<n*es:=fun h2=>hc ⟨rfl,h1,h2⟩
      show xs.length*es+ys.length*es≤i
      omega)
 ·rw[GY]
  exact h.rel.eN b o ho
 ·refine Nl (f:=fx) (g:=fy) lx ly cx cy (by omega) (fun c hc=>?_) (fun i hi j hj=>(hx i hi j hj).mono hI) (fun i hi j hj=>(hy i hi j hj).mono hI)
  rw[←hn]at hc
  simp only[I',both]
  by_cases aC:c<xs.length*es
  ·rw[aq (fun hh=>by omega),ak aC]
   exact xk c aC
  ·rw[ak ⟨trivial,by omega,hc⟩,aq aC]
theorem aca (h:At P B0 w0 G k nl s w) {d g n es:Nat} {xs ys:List (List AV)} {f fy:Nat→Value} {r:Rec} {gr:cH} {T:kS} {newCap:Nat} {rest:List Value} {e:TypeId} (hd:d≤k) (hr:s.ag[d]? =some r) (hg:G.ag[d]? =some gr)
  (jn:r.toks[g]? =some (some xs.length)) (lj:gr.tk[g]? =some T) (A8:T.es=es) (dR:0<es) (hn:n=xs.length+ys.length) (jT:0<ys.length)
  (lx:∀r,r∈xs→r.length=es) (ly:∀r,r∈ys→r.length=es) (cx:∀r,r∈xs→∀c,c∈r→c.bt=true) (cy:∀r,r∈ys→∀c,c∈r→c.bt=true)
  (hx:∀i (hi:i<xs.length) j (hj:j<xs[i].length),bJ G.I (xs[i][j]) (f (i*es+j))) (hy:∀i (hi:i<ys.length) j (hj:j<ys[i].length),bJ G.I (ys[i][j]) (fy (i*es+j)))
  (fq:n≤newCap) (gW:rest.length=(newCap-n)*es):
  db P B0 w0 G k nl s (s.mg d g (some n)) (w.drew.alloc (.cells ((List.range (xs.length*es+ys.length*es)).map (both (xs.length*es) f fy)++rest).toArray e))
   (.slice (.tok d g) es (xs++ys)) (.slice (some ⟨w.heap.size,0,none⟩) n newCap):=by
 have aI:=h.rel.cI d r gr hr hg
 obtain⟨oR,rQ⟩:=aI.tok g (some xs.length) T jn lj
 obtain⟨t1,t2,t3,t4,t5,_,_,t6,_⟩:=rQ _ rfl
 have au3:T.blk<w.heap.size:=(uf.1 t6).1
 have Br:xs.length*es+ys.length*es=n*es:=by rw[hn,gw]
 generalize wQ:((List.range (xs.length*es+ys.length*es)).map (both (xs.length*es) f fy)++rest).toArray=arr
 have rW:arr.size=newCap*es:=by
  rw[←wQ]
  simp only[xU,cj,bY,pF,gW,Br]
  rw[←gw]
  congr 1
  omega
 have dS:∀c,c<n*es→arr[c]? =some (both (xs.length*es) f fy c):=fun c hc=>by
  rw[←wQ,Br]
  simp only[R4]
  rw[dC (by simpa using hc)]
  simp[hc]
 have gA:(w.drew.alloc (.cells arr e)).heap[w.heap.size]? =some (.cells arr e):=World.alloc_heap_new w.drew _
 let I':fV:=G.qk w.heap.size (n*es) (both (xs.length*es) f fy)
 have hI:∀b i v,G.I b i=some v→I' b i=some v:=fun b i v e=>by
  have:=h.rel.sS e
  simp only[I',aG.qk]
  rw[aq (by omega)]
  exact e
 refine aaU h (T:=T) (T':=⟨some n,w.heap.size,newCap,es⟩) (I':=I') (own':=fun b=>if b=w.heap.size then some (.tok d g)else if b=T.blk then none else G.own b) hd hr hg jn lj rfl (by omega) A8.symm hI
  (fun b o ho aB=>?_) ?_ (fun b i v e=>?_) (((Below.refl _ _).drew).alloc h.rel.low _) (fun b o ho=>?_) rfl (by simp[hn]) ?_ rfl rfl
 ·have aC:=h.rel.eN b o ho
  have hb:b≠T.blk:=by
   rintro rfl
   rw[t2]at ho
   injection ho with ho
   exact aB ho.symm
  refine⟨by rw[aq (by omega),aq hb];exact ho,Below.heap_alloc w.drew _ _ aC,fun i e=>?_⟩
  simp only[I',aG.qk]
  rw[aq (by omega)]
  exact e
 ·refine⟨rfl,fun p hp=>?_⟩
  injection hp with hp
  subst hp
  refine⟨h.rel.low,by simp,fun i hi=>?_,fq,dR,arr,e,gA,rW⟩
  simp only[I',aG.qk]at hi⊢
  rw[ak trivial,aq (by omega)]
 ·simp only[I',aG.qk]at e
  split at e
  ·rename_i hb
   subst hb
   split at e
   ·rename_i hi
    injection e with e
    subst e
    rw[cell_of_heap gA]
    exact dS i hi
   ·cases e
  ·rename_i hb
   have:=h.rel.fe b i v e
   rw[E5 (w:=w) (Below.heap_alloc w.drew _ _ (h.rel.sS e)) rfl]
   exact this
 ·split at ho
  ·rename_i hb;subst hb;simp
  ·split at ho
   ·cases ho
   ·have:=h.rel.eN b o ho;simp;omega
 ·refine Nl (f:=f) (g:=fy) lx ly cx cy (by omega) (fun c hc=>?_) (fun i hi j hj=>(hx i hi j hj).mono hI) (fun i hi j hj=>(hy i hi j hj).mono hI)
  simp only[I',aG.qk]
  rw[ak trivial,ak (by rw[hn];exact hc)]
theorem vV {a:Addr} (h:a.spot=none):a=⟨a.block,a.off,none⟩:=by
 cases a
 cases h
 rfl
theorem acd (h:At P B0 w0 G k nl s w) {t u e ty:TypeId} {es fO:Nat} {z:Value} (hT:uh P t e es fO z) (hu:∃e',P.underlying u=some (.slice e')) {a b v:AV} {x y:Value} {s':ae}
  (hx:Rel G k nl a x) (hy:Rel G k nl b y) (ha:eE s es a b=some (v,s')):
  ∃ x' w', (Builtin.append_ #[t, u] ty #[x, y]).run P w = .ok x' w' ∧ db P B0 w0 G k nl s s' w' v x' := by
 unfold eE at ha
 split at ha
 case h_2=>cases ha
 rename_i o e1 xs oy e2 ys
 split at ha
 ·rename_i kG
  have kG:ys=[]:=by simpa using kG
  subst kG
  injection ha with ha
  injection ha with h1 h2
  subst h1 h2
  have lW:db P B0 w0 G k nl s s w (.slice o e1 xs) x:=⟨G,h,bA.refl _ _ _,rfl,hx⟩
  have om:∃bb c,y=.slice bb 0 c:=by
   rcases hy.iG with⟨_,_,rfl⟩|⟨_,aa,c,rfl,_⟩
   ·exact⟨_,_,rfl⟩
   ·exact⟨_,_,rfl⟩
  obtain⟨bb,c,rfl⟩:=om
  rcases hx.iG with⟨_,_,rfl⟩|⟨_,aa,cap,rfl,_,hle,_⟩
  ·exact⟨_,w,vY hT hu none bb c (aH _),lW⟩
  ·exact⟨_,w,vY hT hu (some aa) bb c hle,lW⟩
 ·rename_i kG
  split at ha
  case isFalse=>cases ha
  rename_i bn
  obtain⟨rfl,nu,oj⟩:=bn
  have jT:0<ys.length:=by
   cases ys with
   |nil=>simp at kG
   |cons=>simp
  rcases hy.iG with⟨_,hn,_⟩|⟨_,ay,cy,rfl,_,_,om,_⟩
  ·rw[hn]at jT;simp at jT
  obtain⟨vi,Bf,ly,oH,fy,vh,ph⟩:=fM.flat om hT.pos
  have uW:ay=⟨ay.block,ay.off,none⟩:=vV (vi (by omega))
  have jC:∀c,c<ys.length*e2→w.cell? (ay.add c)=some (fy c):=fun c hc=>by
   rw[uW,gZ];exact h.rel.fe _ _ _ (vh c hc)
  cases o with
  |any=>cases ha
  | aA =>
   injection ha with ha
   injection ha with h1 h2
   subst h1 h2
   rcases hx.iG with⟨_,rfl,rfl⟩|⟨aB,_⟩
   ·obtain⟨newCap,rest,fq,gW,cY⟩:=vX (P:=P) (w:=w) (ty:=ty) (n:=0) (m:=ys.length) (cap:=0) (c:=cy) (base:=none) (a:=ay) (f:=fun _=>Go.undef) (g:=fy) hT hu (by omega)
     (yg hT (by omega) (by simpa using oj)) (fun _ e=>by cases e) (fun _=>rfl) jC
    refine⟨_,_,cY,?_⟩
    have:=SQ h (xs:=[]) (ys:=ys) (f:=fun _=>Go.undef) (g:=fy) (n:=ys.length) (newCap:=newCap) (rest:=rest) (e:=e) hT.pos (by simp) (by simp) ly (by simp) oH (by simp) ph (by omega) (by simpa using gW)
    rw[h.gJ]
    simpa using this
   ·exact absurd rfl aB
  | full =>
   injection ha with ha
   injection ha with h1 h2
   subst h1 h2
   rcases hx.iG with⟨aB,_⟩|⟨_,ax,cx,rfl,_,_,l3,wU⟩
   ·cases aB
   have mH:=wU rfl
   subst mH
   have:e1=e2:=by
    rcases nu with h|h
    ·cases h
    ·exact h
   subst this
   obtain⟨PJ,_,lx,wA,fx,xk,xl⟩:=fM.flat l3 hT.pos
   have Bd:∀c,c<xs.length*e1→ax=⟨ax.block,ax.off,none⟩:=fun c hc=>vV (PJ (by
    rcases vR xs.length with h0|h0
    ·rw[h0]at hc;simp at hc
    ·exact h0))
   obtain⟨newCap,rest,fq,gW,cY⟩:=vX (P:=P) (w:=w) (ty:=ty) (n:=xs.length) (m:=ys.length) (cap:=xs.length) (c:=cy) (base:=some ax) (a:=ay) (f:=fx) (g:=fy) hT hu (by omega)
    (yg hT (by omega) oj) (fun b e c hc=>by injection e with e;subst e;rw[Bd c hc,gZ];exact h.rel.fe _ _ _ (xk c hc)) (fun e=>by cases e) jC
   refine⟨_,_,cY,?_⟩
   rw[h.gJ]
   exact SQ h hT.pos rfl lx ly wA oH xl ph fq gW
  | tok d g =>
   simp only at ha
   split at ha
   case isFalse=>cases ha
   rename_i zk
   injection ha with ha
   injection ha with h1 h2
   subst h1 h2
   have:e1=e2:=by
    rcases nu with h|h
    ·cases h
    ·exact h
   subst this
   cases hx with
   |cl hx=>cases hx with
    |slice f ho=>rcases ho with h|⟨h,_⟩<;>cases h
    |empty ho=>rcases ho with h|h<;>cases h
   |tok T gr hd hg ht dR l3 hn=>
   rename_i ax cx
   obtain⟨r,bI,hr,bu⟩:=h.cI hd
   rw[hg]at bu
   injection bu with bu
   subst bu
   have aI:=h.rel.cI d r gr hr hg
   have jn:r.toks[g]? =some (some xs.length):=by
    have:=zk.2
    simp only[ae.tok,hr,eL]at this
    cases hq:r.toks[g]? with
    |none=>rw[hq]at this;cases this
    |some q=>rw[hq]at this;simp only[Option.join_some]at this;rw[this]
   obtain⟨oR,rQ⟩:=aI.tok g (some xs.length) T jn ht
   obtain⟨hle,heq⟩:=hn _ oR
   obtain⟨rfl,rfl⟩:=heq rfl
   obtain⟨_,_,lx,wA,fx,xk,xl⟩:=fM.flat l3 hT.pos
   obtain⟨_,_,_,_,_,arr,tb,t6,t7⟩:=rQ _ rfl
   by_cases lA:xs.length+ys.length≤T.cap
   ·refine⟨_,_,LW (P:=P) (ty:=ty) (n:=xs.length) (m:=ys.length) (c:=cy) (a:=ay) (g:=fy) hT hu lA jC t6 (by rw[t7,dR];exact oC _ lA) (fun c hc=>?_),?_⟩
    ·have h1:c/e1<ys.length:=by rw[Sj hT.pos];exact hc
     have h2:c%e1<(ys[c/e1]).length:=by rw[ly _ (gv h1)];exact sZ _ hT.pos
     have hr:=ph _ h1 _ h2
     rw[xV]at hr
     exact KH (G:=G) (k:=k) (nl:=nl) (.cl hr) (oH _ (gv h1) _ (gv h2))
    ·exact acb h hd hr hg jn ht dR hT.pos rfl jT lA lx ly wA oH (fun c hc=>by have:=xk c hc;simpa using this) xl ph
   ·obtain⟨newCap,rest,fq,gW,cY⟩:=vX (P:=P) (w:=w) (ty:=ty) (n:=xs.length) (m:=ys.length) (cap:=T.cap) (c:=cy) (base:=some ⟨T.blk,0,none⟩) (a:=ay) (f:=fx) (g:=fy) hT hu lA
     (yg hT (by omega) oj) (fun b e c hc=>by injection e with e;subst e;rw[gZ];exact h.rel.fe _ _ _ (xk c hc)) (fun e=>by cases e) jC
    refine⟨_,_,cY,?_⟩
    exact aca h hd hr hg jn ht dR hT.pos rfl jT lx ly wA oH xl ph fq gW
end
end Go.Ax
/-
  append to a slice whose elements may be written to: a box that takes another's place.
-/
namespace Go.Ax
open Go.RowKit
section
variable{P:Program} {B0:Nat} {w0:World} {G:aG} {k nl:Nat} {w:World} {s:ae}
theorem At.drew (h:At P B0 w0 G k nl s w):At P B0 w0 G k nl s w.drew:=⟨h.rel.drew,h.len,h.cur⟩
theorem yH {α:Type} {es:Nat} (h0:0<es):∀{ys:List (List α)},(∀r,r∈ys→r.length=es)→ys.flatten.length=ys.length*es∧∀c (hc:c<ys.flatten.length),∃(h1:c/es<ys.length) (h2:c%es<(ys[c/es]).length),ys.flatten[c]=ys[c/es][c%es]
 |[],_=>⟨by simp,fun c hc=>by simp at hc⟩
 | r :: ys, h => by
  have hr:=h r (by simp)
  obtain⟨e1,e2⟩:=yH h0 (ys:=ys) fun q hq=>h q (jg _ hq)
  refine⟨by rw[sV,cj,e1,hr,dP,gw];omega,fun c hc=>?_⟩
  by_cases aC:c<es
  ·have d1:c/es=0:=Lx aC
   have d2:c%es=c:=HC aC
   refine⟨by rw[d1];simp,by simp only[d1,d2,xQ];omega,?_⟩
   simp only[d1,d2,xQ,sV]
   rw[um (by omega)]
  ·have nx:es≤c:=by omega
   have d1:c/es=(c-es)/es+1:=by rw[Nat.div_eq_sub_div h0 nx]
   have d2:c%es=(c-es)%es:=by rw[Nat.mod_eq_sub_mod nx]
   have oT:c-es<ys.flatten.length:=by
    rw[sV,cj,hr]at hc
    omega
   obtain⟨g1,g2,g3⟩:=e2 (c-es) oT
   refine⟨by rw[d1];simp;exact g1,by simp only[d1,d2,Hp];exact g2,?_⟩
   simp only[d1,d2,Hp,sV]
   rw[uo (by omega)]
   simp only[hr]
   exact g3
theorem QR (h:At P B0 w0 G k nl s w) {d b es n rc:Nat} {cs ds:List AV} {r:Rec} {gr:cH} {blk fN:Nat} {arr':Array Value} {B7:TypeId} {w':World} (hd:d≤k) (hr:s.ag[d]? =some r) (hg:G.ag[d]? =some gr)
  (hb:r.boxes[b]? =some cs) (cw:gr.bl[b]? =some (some blk)) (dw:cs≠[]) (aB:ds≠[]) (br:∀c,c∈ds→c.bt=true) (hR:kz (Rel G d gr.nl) ds arr') (hw:w'.heap[fN]? =some (.cells arr' B7))
  (hold:∀c,c<w.heap.size→c≠fN→w'.heap[c]? =w.heap[c]?) (gA:fN=blk∨fN=w.heap.size) (yS:Below B0 w w') (bR:w.heap.size≤w'.heap.size) (Pv:arr'.size=rc*es) (hn:n≤rc):
  db P B0 w0 G k nl s (s.sJ d b ds) w' (.aO d (s.bL d) 0 es n 0) (.slice (some ⟨fN,0,none⟩) n rc):=by
 have aI:=h.rel.cI d r gr hr hg
 have di:=aI.box b cs blk hb cw
 obtain⟨b1,⟨x0,b2,L1⟩,b3,HR,K3,b4,_⟩:=di
 have pg:=L1 dw
 have b3:=b3 dw
 subst pg
 have au7:=h.rel.eN _ _ b2
 have OV:fN<w'.heap.size:=by
  rcases gA with e|e
  ·omega
  ·rw[e]
   apply qi
   intro hc
   rw[e]at hw
   have:=(uf.1 hw).1
   omega
 have A6:∀i,G.I fN i=none:=by
  rcases gA with e|e
  ·rw[e];exact b3
  ·rw[e];exact h.rel.uk
 have hB:B0≤fN:=by
  rcases gA with e|e
  ·rw[e];exact b1
  ·rw[e];exact h.rel.low
 have JG:x0<r.boxes.length:=(bd.1 hb).1
 let T:kS:=⟨none,0,0,0⟩
 let gf:cH→cH:=fun q=>{q with bl:=q.bl++[some fN],tk:=q.tk++[T],gs:=fun j=>if j=r.boxes.length then some (rc*es)else q.gs j}
 let G':aG:={G with ag:=G.ag.modify d gf,own:=fun c=>if c=fN then some (.box d r.boxes.length)else G.own c}
 have hk:jw (· =.box d x0) G w G' w':=fun c o e aB=>by
  have aC:=h.rel.eN c o e
  have hc:c≠fN:=by
   rintro rfl
   rcases gA with e'|e'
   ·rw[e',b2]at e;injection e with e;exact aB e.symm
   ·omega
  exact⟨by simp only[G'];rw[aq hc];exact e,hold c aC hc,fun _ e=>e⟩
 have fc:iO gr (gf gr):=⟨fun j q e=>mz e,fun g U e=>⟨U,mz e,.refl U⟩,rfl,fun j m e=>by
  obtain⟨q,hq⟩:=aI.mA j m e
  have:=(bd.1 hq).1
  rw[aI.dY]at this
  simp only[gf]
  rw[aq (by omega)];exact e⟩
 have hle:bA d gr.nl G G':=⟨fun _ _ _ e=>e,fun d' q _ e=>by
  simp only[G',dM]
  by_cases hd:d=d'
  ·subst hd
   rw[hg]at e
   injection e with e
   subst e
   exact⟨_,by rw[ak rfl,hg];rfl,fc,fun _=>rfl⟩
  ·exact⟨q,by rw[aq hd];exact e,.refl q,fun _=>rfl⟩,fun _ _ _ e=>e⟩
 have fS:=h.rel.bp (G':=G') (w':=w') hr hg (fun r=>{r with boxes:=r.boxes.set x0 []++[ds],toks:=r.toks++[none]}) gf (· =.box d x0) rfl rfl (fun _ _ _ e=>e) fc rfl hk
  (fun o ho=>.inl ⟨_,ho⟩) ?_ (fun c i v e=>?_) yS (fun c o e=>?_)
 ·obtain⟨hs,jD⟩:=fS
  have mM:cu P B0 w0 G' (s.sJ d x0 ds) w':=hs
  have hlen:(s.sJ d x0 ds).ag.length=s.ag.length:=by simp[ae.sJ,ae.bp]
  have iT:=h.to mM (jD k nl) hlen
  have mK:s.bL d=r.boxes.length:=by simp[ae.bL,hr]
  have gy:G'.ag[d]? =some (gf gr):=by
   show(G.ag.modify d _)[d]? =_
   rw[dM,ak rfl,hg];rfl
  have yY:(gf gr).bl[r.boxes.length]? =some (some fN):=by
   show(gr.bl++[some fN])[r.boxes.length]? =_
   rw[←aI.dY,gE (aH _)]
   simp
  refine⟨G',iT,jD _ _,by simp[ae.sJ,ae.bp],?_⟩
  rw[mK]
  exact .aO _ hd gy yY hn (bg _) (fun _ _=>by simp only[gf];rw[ak trivial]) (fun _=>rfl)
 ·have su:∀(j:Nat) (q:List AV),(r.boxes.set x0 []++[ds])[j]? =some q→(j=r.boxes.length∧q=ds)∨(j=x0∧q=[])∨(j≠x0∧j<r.boxes.length∧r.boxes[j]? =some q):=fun j q e=>by
   rcases eo e with⟨hj,e⟩|⟨hj,e⟩
   ·rw[zO]at hj
    rw[sW]at e
    by_cases u4:x0=j
    ·subst u4
     rw[ak rfl,ak hj]at e
     injection e with e
     exact .inr (.inl ⟨rfl,e.symm⟩)
    ·rw[aq u4]at e
     exact .inr (.inr ⟨fun e=>u4 e.symm,hj,e⟩)
   ·rw[zO]at hj
    exact .inl ⟨hj,e⟩
  have WM:∀(j q:Nat),j<r.boxes.length→(gf gr).bl[j]? =some (some q)→gr.bl[j]? =some (some q):=fun j q hj e=>by
   rcases eo e with⟨_,e⟩|⟨dH,_⟩
   ·exact e
   ·rw[aI.dY]at dH;omega
  have dead:∀(j q:Nat),gr.bl[j]? =some (some q)→j<r.boxes.length→pD B0 G' d gr.nl j ((gf gr).gs j) [] q w':=fun j q e hj=>by
   obtain⟨q1,⟨x,q2,q2'⟩,q3,CF,K4,q4,_⟩:=aI.box j _ q (cM hj) e
   by_cases zf:q=fN
   ·subst zf
    exact⟨q1,⟨r.boxes.length,by simp[G'],fun hn=>absurd rfl hn⟩,fun hn=>absurd rfl hn,arr',B7,hw,bg _,fun hn=>absurd rfl hn,fun i hi=>absurd hi (da _)⟩
   ·exact⟨q1,⟨x,by simp only[G'];rw[aq zf];exact q2,fun hn=>absurd rfl hn⟩,fun hn=>absurd rfl hn,CF,K4,(hold q (h.rel.eN _ _ q2) zf).trans q4,bg _,fun hn=>absurd rfl hn,fun i hi=>absurd hi (da _)⟩
  refine⟨by simp[gf,aI.dY],by simp[gf,aI.iJ],fun j q Ak e1 e2=>?_,fun j q e1 e2=>by simp,fun g m U e1 e2=>?_,fun i c e1=>?_,fun j m e1=>?_⟩
  ·rcases su j q e1 with⟨rfl,rfl⟩|⟨rfl,rfl⟩|⟨u4,hj,e1⟩
   ·have rZ:Ak=fN:=by
     rcases eo e2 with⟨dH,_⟩|⟨_,e⟩
     ·rw[aI.dY]at dH;omega
     ·injection e
    subst rZ
    refine⟨hB,⟨_,by simp[G'],fun _=>rfl⟩,fun _=>A6,arr',B7,hw,hR.1,fun _ m hm=>?_,fun i hi=>⟨br _ (gv hi),?_⟩⟩
    ·simp only[gf]at hm
     rw[ak trivial]at hm
     injection hm with hm
     rw[Pv,hm]
    ·exact(hR.2 i hi).mono hle (aH _) (aH _)
   ·exact dead _ _ (WM _ _ JG e2) JG
   ·have iR:=WM _ _ hj e2
    by_cases Gd:q=[]
    ·subst Gd;exact dead _ _ iR hj
    ·have Bj:=aI.box j q Ak e1 iR
     obtain⟨x,y1,y2⟩:=Bj.2.1
     obtain⟨k1,k2,k3⟩:=hk _ _ y1 (fun e=>by injection e with _ e;rw[y2 Gd]at e;exact u4 e)
     have:=Bj.cJ (G':=G') (w':=w') hle (fun z e=>by rw[y1]at e;injection e with e;rw[←e];exact k1) k2 k3
     show pD B0 G' d gr.nl j (if j=r.boxes.length then some (rc*es)else gr.gs j) q Ak w'
     rw[aq (by omega)];exact this
  ·rcases eo e1 with⟨aC,e1⟩|⟨ny,rfl⟩
   ·have iR:gr.tk[g]? =some U:=by
     rcases eo e2 with⟨_,e2⟩|⟨fG,_⟩
     ·exact e2
     ·rw[aI.iJ]at fG;omega
    have ht:=aI.tok g m U e1 iR
    have hs:∀(hn:m.isSome=true),G'.own U.blk=some (.tok d g)∧w'.heap[U.blk]? =w.heap[U.blk]? ∧∀i,G.I U.blk i=none→G'.I U.blk i=none:=fun hn=>by
     obtain⟨q,hq⟩:=oD.1 hn
     exact hk _ _ (ht.2 q hq).2.1 (fun e=>by cases e)
    exact ht.cJ (fun hn=>(hs hn).1) (fun hn=>(hs hn).2.1) (fun hn=>(hs hn).2.2)
   ·have:U=T:=by
     rcases eo e2 with⟨fG,_⟩|⟨_,e⟩
     ·rw[aI.iJ]at fG;omega
     ·exact e
    subst this
    exact⟨rfl,fun q hq=>by cases hq⟩
  ·have hm:=aI.mark i c e1
   obtain⟨k1,k2,_⟩:=hk _ _ hm.2.1 (fun e=>by cases e)
   exact hm.cJ k1 k2
  ·simp only[gf]at e1
   split at e1
   ·rename_i hj
    subst hj
    refine⟨fN,?_⟩
    show(gr.bl++[some fN])[r.boxes.length]? =_
    rw[←aI.dY,gE (aH _)]
    simp
   ·obtain⟨q,hq⟩:=aI.mA j m e1
    exact⟨q,mz hq⟩
 ·have hc:c≠fN:=by
   rintro rfl
   have:G.I c i=some v:=e
   rw[A6]at this;cases this
  rw[E5 (hold c (h.rel.sS e) hc) rfl]
  exact h.rel.fe c i v e
 ·simp only[G']at e
  split at e
  ·rename_i hb;subst hb;exact OV
  ·have:=h.rel.eN c o e;omega
theorem ZT (h:At P B0 w0 G k nl s w) {b es n rc:Nat} {cs ds:List AV} {r:Rec} {gr:cH} {blk fN:Nat} {arr':Array Value} {B7:TypeId} {w':World} (hr:s.ag[k]? =some r) (hg:G.ag[k]? =some gr)
  (hb:r.boxes[b]? =some cs) (cw:gr.bl[b]? =some (some blk)) (dw:cs≠[]) (aB:ds≠[]) (br:∀c,c∈ds→c.bt=true) (hR:kz (Rel G k nl) ds arr') (hw:w'.heap[fN]? =some (.cells arr' B7))
  (hold:∀c,c<w.heap.size→c≠fN→w'.heap[c]? =w.heap[c]?) (gA:fN=blk∨fN=w.heap.size) (yS:Below B0 w w') (bR:w.heap.size≤w'.heap.size) (Pv:arr'.size=rc*es) (hn:n≤rc):
  db P B0 w0 G k nl s (s.KU b ds) w' (.aO s.cur (s.bL s.cur) 0 es n 0) (.slice (some ⟨fN,0,none⟩) n rc):=by
 have lr:gr.nl=nl:=by obtain⟨g',e1,e2⟩:=h.cur;rw[hg]at e1;injection e1 with e1;rw[e1];exact e2
 have e:s.KU b ds=s.sJ k b ds:=by simp only[ae.KU,ae.sJ,h.gJ]
 rw[e,h.gJ]
 exact QR h (aH k) hr hg hb cw dw aB br (by rw[lr];exact hR) hw hold gA yS bR Pv hn
theorem KX:∀(vs:List Value) (arr:Array Value) (o i:Nat),o+vs.length≤arr.size→(iZ arr o vs).getD i Go.undef=if o≤i∧i<o+vs.length then vs.getD (i-o) Go.undef else arr.getD i Go.undef
 |[],arr,o,i,_=>by
  rw[aq (by simp only[iL];omega)];rfl
 | v :: r, arr, o, i, h => by
  have hl:(v::r).length=r.length+1:=rfl
  rw[hl]at h⊢
  simp only[iZ]
  rw[KX r (arr.setIfInBounds o v) (o+1) i (by simp;omega)]
  by_cases h1:i=o
  ·subst h1
   rw[aq (by omega),ak (by omega)]
   have:i<arr.size:=by omega
   simp[Array.getD,this]
  ·by_cases h2:o+1≤i∧i<o+1+r.length
   ·rw[ak h2,ak (by omega)]
    obtain⟨j,hj⟩:∃j,i-o=j+1:=⟨i-o-1,by omega⟩
    rw[hj,show i-(o+1)=j by omega];rfl
   ·rw[aq h2,aq (by omega)]
    by_cases h3:i<arr.size
    ·have h4:¬o=i:=fun e=>h1 e.symm
     simp[Array.getD,h3,h4]
    ·simp[Array.getD,h3]
theorem GP {cs ds:List AV} {f g:Nat→Value} {rest:List Value} {n m:Nat} {R:AV→Value→Prop} (hn:cs.length=n) (hm:ds.length=m) (hc:∀i (hi:i<cs.length),R cs[i] (f i)) (hd:∀i (hi:i<ds.length),R ds[i] (g i)):
  kz R (cs++ds) ((List.range (n+m)).map (both n f g)++rest).toArray:=by
 refine⟨by simp;omega,fun i hi=>?_⟩
 rw[cj]at hi
 have dS:((List.range (n+m)).map (both n f g)++rest).toArray.getD i Go.undef=both n f g i:=by
  have h1:i<n+m:=by omega
  have h2:i<n+m+rest.length:=by omega
  simp only[Array.getD,xU,cj,bY,pF,h2,dite_true]
  simp[List.getElem_append,h1]
 rw[dS]
 unfold both
 by_cases hl:i<cs.length
 ·rw[um hl,ak (by omega)];exact hc i hl
 ·rw[uo (by omega),aq (by omega)]
  subst hn
  exact hd (i-cs.length) (by omega)
theorem SR (h : At P B0 w0 G k nl s w) {t u e ty : TypeId} {es fO : Nat} {z : Value} (hT : uh P t e es fO z) (hu : ∃ e', P.underlying u = some (.slice e')) {a b v : AV} {x y : Value} {s' : ae}
    (hx:Rel G k nl a x) (hy:Rel G k nl b y) (ha:v8 s es a b=some (v,s')):
    ∃ x' w', (Builtin.append_ #[t, u] ty #[x, y]).run P w = .ok x' w' ∧ db P B0 w0 G k nl s s' w' v x' := by
  unfold v8 at ha
  split at ha
  case h_2=>cases ha
  rename_i oy e2 ys
  split at ha
  · rename_i kG
    have kG:ys=[]:=by simpa using kG
    subst kG
    have om:∃bb c,y=.slice bb 0 c:=by
      rcases hy.iG with⟨_,_,rfl⟩|⟨_,aa,c,rfl,_⟩
      · exact⟨_,_,rfl⟩
      · exact⟨_,_,rfl⟩
    obtain⟨bb,c,rfl⟩:=om
    split at ha
    · rename_i o e1 xs
      injection ha with ha
      injection ha with h1 h2
      subst h1 h2
      have lW:db P B0 w0 G k nl s s w (.slice o e1 xs) x:=⟨G,h,bA.refl _ _ _,rfl,hx⟩
      rcases hx.iG with⟨_,_,rfl⟩|⟨_,aa,cap,rfl,_,hle,_⟩
      · exact⟨_,w,vY hT hu none bb c (aH _),lW⟩
      · exact⟨_,w,vY hT hu (some aa) bb c hle,lW⟩
    · rename_i d b off e1 n cap
      injection ha with ha
      injection ha with h1 h2
      subst h1 h2
      have lW:db P B0 w0 G k nl s s w (.aO d b off e1 n cap) x:=⟨G,h,bA.refl _ _ _,rfl,hx⟩
      obtain⟨blk,gr,rc,o0,rfl,_,_,_,hn,_⟩:=hx.l4
      exact⟨_,w,vY hT hu (some _) bb c hn,lW⟩
    · cases ha
  · rename_i kG
    split at ha
    case isFalse=>cases ha
    rename_i kD
    subst kD
    have jT:0<ys.length:=by
      cases ys with
      |nil=>simp at kG
      |cons=>simp
    rcases hy.iG with⟨_,hn,_⟩|⟨_,ay,cy,rfl,_,_,om,_⟩
    · rw[hn]at jT;simp at jT
    obtain⟨vi,Bf,ly,oH,fy,vh,ph⟩:=fM.flat om hT.pos
    have uW:ay=⟨ay.block,ay.off,none⟩:=vV (vi (by omega))
    have jC:∀c,c<ys.length*e2→w.cell? (ay.add c)=some (fy c):=fun c hc=>by
      rw[uW,gZ];exact h.rel.fe _ _ _ (vh c hc)
    obtain⟨qA,yF⟩:=yH hT.pos ly
    have Gl:∀c (hc:c<ys.flatten.length),bJ G.I ys.flatten[c] (fy c):=fun c hc=>by
      obtain⟨g1,g2,g3⟩:=yF c hc
      rw[g3]
      have:=ph _ g1 _ g2
      rw[xV]at this
      exact this
    have XT:∀c,c∈ys.flatten→c.bt=true:=fun c hc=>by
      obtain⟨r,hr,iU⟩:=ur.1 hc
      exact oH r hr c iU
    have Kg:ys.flatten≠[]:=fun e=>by
      have:=hY List.length e
      rw[qA]at this
      have h2:=HD jT hT.pos
      simp only[iL]at this
      omega
    split at ha
    · rename_i o e1 xs
      split at ha
      case isFalse=>cases ha
      rename_i bn
      obtain⟨bn,oj⟩:=bn
      injection ha with ha
      injection ha with h1 h2
      subst h1 h2
      have fin:∀(base:Option Addr) (cx:Nat) (f:Nat→Value),cx=xs.length→(∀r,r∈xs→r.length=e2)→(∀r,r∈xs→∀c,c∈r→c.bt=true)→(∀i (hi:i<xs.length) j (hj:j<xs[i].length),bJ G.I (xs[i][j]) (f (i*e2+j)))→
          (∀b,base=some b→∀c,c<xs.length*e2→w.cell? (b.add c)=some (f c))→(base=none→xs.length=0)→
          ∃ x' w', (Builtin.append_ #[t, u] ty #[.slice base xs.length cx, .slice (some ay) ys.length cy]).run P w = .ok x' w' ∧ db P B0 w0 G k nl s (s.dz (xs.flatten ++ ys.flatten)).2 w' (.aO s.cur (s.bL s.cur) 0 e2 (xs.length + ys.length) 0) x' := by
        intro base cx f mH lx wA xl hf jP
        subst mH
        obtain⟨newCap,rest,fq,gW,cY⟩:=vX (P:=P) (w:=w) (ty:=ty) (n:=xs.length) (m:=ys.length) (cap:=xs.length) (c:=cy) (base:=base) (a:=ay) (f:=f) (g:=fy) hT hu (by omega) (yg hT (by omega) oj) hf jP jC
        refine⟨_,_,cY,?_⟩
        obtain⟨gl1,gl2⟩:=yH hT.pos lx
        have aka:∀c (hc:c<xs.flatten.length),bJ G.I xs.flatten[c] (f c):=fun c hc=>by
          obtain⟨g1,g2,g3⟩:=gl2 c hc
          rw[g3]
          have:=xl _ g1 _ g2
          rw[xV]at this
          exact this
        have cg:=GP (R:=Rel G k nl) (cs:=xs.flatten) (ds:=ys.flatten) (f:=f) (g:=fy) (rest:=rest) gl1 qA (fun i hi=>.cl (aka i hi)) (fun i hi=>.cl (Gl i hi))
        have bR:((List.range (xs.length*e2+ys.length*e2)).map (both (xs.length*e2) f fy)++rest).toArray.size=newCap*e2:=by
          simp only[xU,cj,bY,pF,gW]
          rw[←gw,←gw]
          congr 1;omega
        exact(zw h.drew e (some (newCap*e2)) (fun n hn=>by injection hn with hn;rw[bR,hn]) (fun e=>Kg (RV.1 e).2) (fun c hc=>by
          rcases dD.1 hc with hc|hc
          · obtain ⟨r, hr, iU⟩ := ur.1 hc
            exact wA r hr c iU
          · exact XT c hc) cg).2.2 e2 (xs.length+ys.length) 0 newCap fq (bg _) (fun _ _=>rfl)
      rcases hx.iG with⟨_,rfl,rfl⟩|⟨w9,ax,cx,rfl,_,_,l3,wU⟩
      · exact fin none 0 (fun _=>Go.undef) rfl (by simp) (by simp) (fun i hi=>absurd hi (da _)) (fun _ e=>by cases e) (fun _=>rfl)
      · rcases bn with hc | ⟨hc, he⟩
        · cases o <;> simp [Own.isNil] at hc
          exact absurd rfl w9
        · subst he
          have ho:o=.full:=by cases o<;>simp[Own.isFull]at hc⊢
          have mH:=wU ho
          obtain⟨PJ,_,lx,wA,fx,xk,xl⟩:=fM.flat l3 hT.pos
          have Bd:∀c,c<xs.length*e1→ax=⟨ax.block,ax.off,none⟩:=fun c hc=>vV (PJ (by
            rcases vR xs.length with h0|h0
            · rw[h0]at hc;simp at hc
            · omega))
          exact fin (some ax) cx fx mH lx wA xl (fun b e c hc=>by injection e with e;subst e;rw[Bd c hc,gZ];exact h.rel.fe _ _ _ (xk c hc)) (fun e=>by cases e)
    · rename_i d b off e1 n cap
      split at ha
      case isFalse=>cases ha
      rename_i bn
      obtain⟨rfl,rfl,rfl,ft,rfl,oj⟩:=bn
      split at ha
      case h_2=>cases ha
      rename_i cs tB
      split at ha
      case isFalse=>cases ha
      rename_i aT
      injection ha with ha
      injection ha with h1 h2
      subst h1 h2
      rw[h.gJ]at tB hx
      obtain⟨blk,gr,rc,o0,rfl,hd,hg,cw,F4,_,hw,ho⟩:=hx.l4
      have ho:=ho (.inl ft)
      subst ho
      have FO:=hw rfl ft
      obtain⟨r,hr,di,JH,arr,tb,nz,cg,Po⟩:=h.box hd tB hg cw
      have dw:cs≠[]:=fun e=>by
        rw[e]at aT
        have:=HD ft hT.pos
        simp only[iL]at aT
        omega
      obtain⟨_,_,Oi,CF,tb1,JT,_,Py,_⟩:=JH
      rw[nz]at JT
      injection JT with JT
      injection JT with q1 q2
      subst q1 q2
      have rW:=Py dw _ FO
      have aB:cs++ys.flatten≠[]:=fun e=>Kg (RV.1 e).2
      have FA:∀c,c∈cs++ys.flatten→c.bt=true:=fun c hc=>by
        rcases dD.1 hc with hc|hc
        · exact Po c hc
        · exact XT c hc
      by_cases lA:n+ys.length≤rc
      · have hle : (n + ys.length) * e1 ≤ arr.size := by rw [rW]; exact oC _ lA
        refine⟨_,_,LW (P:=P) (ty:=ty) (n:=n) (m:=ys.length) (c:=cy) (a:=ay) (g:=fy) hT hu lA jC nz hle (fun c hc=>?_),?_⟩
        · have h1 : c / e1 < ys.length := by rw [Sj hT.pos]; exact hc
          have h2:c%e1<(ys[c/e1]).length:=by rw[ly _ (gv h1)];exact sZ _ hT.pos
          have hr:=ph _ h1 _ h2
          rw[xV]at hr
          exact KH (G:=G) (k:=k) (nl:=nl) (.cl hr) (oH _ (gv h1) _ (gv h2))
        · have hB := (h.rel.cI k r gr hr hg).box b cs blk di cw
          refine ZT h hr hg di cw dw aB FA (arr':=iZ arr (n*e1) ((List.range (ys.length*e1)).map fy)) ?_ (FK _ _ _ _ nz) (fun c _ hc=>FL hc _ _ _) (.inl rfl) (Dy hB.1 _ _ _) (by rw[GY];exact aH _) (by rw[xA];exact rW) lA
          rw[gw]at hle
          refine⟨by rw[xA,cj,aT,qA];exact hle,fun i hi=>?_⟩
          rw[cj,aT,qA]at hi
          rw[KX _ _ _ _ (by simpa using hle)]
          by_cases hl:i<cs.length
          · rw[um hl,aq (by omega)];exact cg.2 i hl
          · rw [uo (by omega), ak (by simp; omega)]
            have sf:i-n*e1<ys.length*e1:=by omega
            have:=Gl (i-cs.length) (by rw[qA];omega)
            have wV:((List.range (ys.length*e1)).map fy).getD (i-n*e1) Go.undef=fy (i-cs.length):=by
              rw[aT]
              simp[List.getD,sf]
            rw[wV]
            exact .cl this
      · obtain ⟨newCap, rest, fq, gW, cY⟩ := vX (P := P) (w := w) (ty := ty) (n := n) (m := ys.length) (cap := rc) (c := cy) (base := some ⟨blk, 0, none⟩) (a := ay) (f := fun c => arr.getD c Go.undef) (g := fy) hT hu lA
          (yg hT lA oj) (fun b e c hc => by
            injection e with e;subst e
            rw[gZ,cell_of_heap nz,fC]
            have:c<arr.size:=by
              have:=cg.1
              rw[aT]at this;omega
            simp[Array.getD,this]) (fun e=>by cases e) jC
        refine⟨_,_,cY,?_⟩
        have Pp:=GP (R:=Rel G k nl) (cs:=cs) (ds:=ys.flatten) (f:=fun c=>arr.getD c Go.undef) (g:=fy) (rest:=rest) aT qA cg.2 (fun i hi=>.cl (Gl i hi))
        have bR:((List.range (n*e1+ys.length*e1)).map (both (n*e1) (fun c=>arr.getD c Go.undef) fy)++rest).toArray.size=newCap*e1:=by
          simp only[xU,cj,bY,pF,gW]
          rw[←gw,←gw]
          congr 1;omega
        exact ZT h hr hg di cw dw aB FA Pp (World.alloc_heap_new w.drew _) (fun c hc _=>Below.heap_alloc w.drew _ _ hc) (.inr rfl) (((Below.refl _ _).drew).alloc h.rel.low _) (by simp) bR fq
    · cases ha
theorem ace (h:At P B0 w0 G k nl s w) {t u e ty:TypeId} {es fO:Nat} {z:Value} (hT:uh P t e es fO z) (uY:fO≤8*es) (hu:∃e',P.underlying u=some (.slice e')) {a b v:AV} {x y:Value} {s':ae}
  (hx:Rel G k nl a x) (hy:Rel G k nl b y) (ha:x6 s es a b=some (v,s')):
  ∃ x' w', (Builtin.append_ #[t, u] ty #[x, y]).run P w = .ok x' w' ∧ db P B0 w0 G k nl s s' w' v x' := by
 unfold x6 at ha
 split at ha
 case h_2=>cases ha
 rename_i o e1 xs oy e2 ys
 split at ha
 ·cases ha
 rename_i w6
 split at ha
 case isFalse=>exact SR h hT hu hx hy ha
 rename_i bn
 obtain⟨rfl,hof,rfl,rfl,Xe,Xa⟩:=bn
 injection ha with ha
 injection ha with h1 h2
 subst h1 h2
 have ho:o=.full:=by cases o<;>simp[Own.isFull]at hof⊢
 subst ho
 have jT:0<ys.length:=by omega
 rcases hy.iG with⟨_,hn,_⟩|⟨_,ay,cy,rfl,_,_,om,_⟩
 ·rw[hn]at jT;simp at jT
 obtain⟨vi,Bf,ly,oH,fy,vh,ph⟩:=fM.flat om hT.pos
 have uW:ay=⟨ay.block,ay.off,none⟩:=vV (vi (by omega))
 have jC:∀c,c<ys.length*e2→w.cell? (ay.add c)=some (fy c):=fun c hc=>by
  rw[uW,gZ];exact h.rel.fe _ _ _ (vh c hc)
 obtain⟨qA,yF⟩:=yH hT.pos ly
 have Gl:∀c (hc:c<ys.flatten.length),bJ G.I ys.flatten[c] (fy c):=fun c hc=>by
  obtain⟨g1,g2,g3⟩:=yF c hc
  rw[g3]
  have:=ph _ g1 _ g2
  rw[xV]at this
  exact this
 have Kg:ys.flatten≠[]:=fun e=>by
  have:=hY List.length e
  rw[qA]at this
  have h2:=HD jT hT.pos
  simp only[iL]at this
  omega
 rcases hx.iG with⟨w8,_,_⟩|⟨_,ax,cx,rfl,_,_,l3,wU⟩
 ·cases w8
 have mH:cx=0:=wU rfl
 subst mH
 obtain⟨newCap,rest,fq,gW,cY⟩:=vX (P:=P) (w:=w) (ty:=ty) (n:=0) (m:=ys.length) (cap:=0) (c:=cy) (base:=some ax) (a:=ay) (f:=fun _=>Go.undef) (g:=fy) hT hu (by omega) (by
  have hn:Builtin.nextslicecap (0+ys.length) 0=ys.length:=by
   unfold Builtin.nextslicecap
   rw[ak (by omega)];omega
  rw[hn]
  exact kQ (kQ (Nat.mul_le_mul_left _ uY) Xa) (by decide)) (fun b _ c hc=>by simp at hc) (fun e=>by cases e) jC
 rw[fC]at cY fq gW
 refine⟨_,_,cY,?_⟩
 have cg:=GP (R:=Rel G k nl) (cs:=[]) (ds:=ys.flatten) (n:=0) (f:=fun _=>Go.undef) (g:=fy) (rest:=rest) rfl qA (fun i hi=>by simp at hi) (fun i hi=>.cl (Gl i hi))
 rw[kO]at cg
 have bR:((List.range (0*e2+ys.length*e2)).map (both (0*e2) (fun _=>Go.undef) fy)++rest).toArray.size=newCap*e2:=by
  simp only[xU,cj,bY,pF,gW]
  rw[←gw,←gw]
  congr 1;omega
 exact(zw h.drew e (some (newCap*e2)) (fun n hn=>by injection hn with hn;rw[bR,hn]) Kg (fun c hc=>by
  obtain⟨r,hr,iU⟩:=ur.1 hc
  exact oH r hr c iU) (by simpa using cg)).2.2 e2 ys.length 0 newCap fq (bg _) (fun _ _=>rfl)
theorem asN (h : At P B0 w0 G k nl s w) {es : Nat} (h0 : 0 < es) {b : AV} {y : Value} {p : List AV × Nat} (hy : Rel G k nl b y) (hs : s.zJ es b = some p) :
    (p.2=0∧∃bb c,y=.slice bb 0 c)∨(0<p.2∧∃(ay:Addr) (cy:Nat) (fy:Nat→Value),y=.slice (some ay) p.2 cy∧p.1.length=p.2*es∧(∀c,c<p.2*es→w.cell? (ay.add c)=some (fy c))∧(∀c,c∈p.1→c.bt=true)∧
      ∀c (hc:c<p.1.length),Rel G k nl p.1[c] (fy c)):=by
  unfold ae.zJ at hs
  split at hs
  · rename_i o e2 ys
    split at hs
    case isFalse=>cases hs
    rename_i bn
    injection hs with hs
    subst hs
    rcases vR ys.length with hz|hz
    · refine .inl ⟨hz, ?_⟩
      rcases hy.iG with⟨_,_,rfl⟩|⟨_,aa,c,rfl,_⟩
      · exact⟨_,_,rfl⟩
      · exact⟨some aa,c,by rw[hz]⟩
    · have he : e2 = es := by
        rcases bn with hc|hc
        · have : ys = [] := by simpa using hc
          rw[this]at hz;simp at hz
        · exact hc
      subst he
      refine .inr ⟨hz,?_⟩
      rcases hy.iG with⟨_,hn,_⟩|⟨_,ay,cy,rfl,_,_,om,_⟩
      · rw[hn]at hz;simp at hz
      obtain⟨vi,Bf,ly,oH,fy,vh,ph⟩:=fM.flat om h0
      have uW:ay=⟨ay.block,ay.off,none⟩:=vV (vi (by omega))
      obtain⟨qA,yF⟩:=yH h0 ly
      refine⟨ay,cy,fy,rfl,qA,fun c hc=>by rw[uW,gZ];exact h.rel.fe _ _ _ (vh c hc),fun c hc=>?_,fun c hc=>?_⟩
      · obtain ⟨r, hr, iU⟩ := ur.1 hc
        exact oH r hr c iU
      · obtain ⟨g1, g2, g3⟩ := yF c hc
        rw[g3]
        have:=ph _ g1 _ g2
        rw[xV]at this
        exact .cl this
  · rename_i d b off e2 n cap
    split at hs
    case isFalse=>cases hs
    rename_i bn
    obtain⟨hd,rfl⟩:=bn
    obtain⟨cs,tB,hs⟩:=cX.1 hs
    split at hs
    case isFalse=>cases hs
    rename_i hle
    injection hs with hs
    subst hs
    obtain⟨blk,gr,rc,o0,rfl,eR,hg,cw,F4,_,_,ho⟩:=hy.l4
    rcases vR n with hn|hn
    · exact .inl ⟨hn,_,rc,by rw[hn]⟩
    · have ho := ho (.inl hn)
      subst ho
      refine .inr ⟨hn,?_⟩
      obtain⟨r,hr,di,_,arr,tb,nz,cg,aT⟩:=h.box eR tB hg cw
      have hlen:((cs.drop o0).take (n*e2)).length=n*e2:=by simp;omega
      refine⟨⟨blk,o0,none⟩,rc,fun c=>arr.getD (o0+c) Go.undef,rfl,hlen,fun c hc=>?_,fun c hc=>aT c (Ht (xT hc)),fun c hc=>?_⟩
      · simp only at hc
        rw[gZ,cell_of_heap nz]
        have:o0+c<arr.size:=by have:=cg.1;omega
        simp[Array.getD,this]
      · rw [hlen] at hc
        have he:((cs.drop o0).take (n*e2))[c]'(by rw[hlen];exact hc)=cs[o0+c]'(by omega):=by simp
        rw[he]
        exact cg.2 _ _
  · cases hs
theorem acg (h : At P B0 w0 G k nl s w) {t u e ty : TypeId} {es fO : Nat} {z : Value} (hT : uh P t e es fO z) (hu : ∃ e', P.underlying u = some (.slice e')) {a b c v : AV} {x y : Value} {s' : ae}
    (hx:Rel G k nl a x) (hy:Rel G k nl b y) (ha:ql s es a b c=some (v,s')):
    ∃ x' w', (Builtin.append_ #[t, u] ty #[x, y]).run P w = .ok x' w' ∧ db P B0 w0 G k nl s s' w' v x' := by
  unfold ql at ha
  split at ha
  case h_2=>cases ha
  rename_i d _ _
  obtain⟨p,hp,JD⟩:=cX.1 ha
  clear ha
  have ha:=JD
  clear JD
  rcases asN h hT.pos hy hp with⟨y9,bb,cc,rfl⟩|⟨y9,ay,cy,fy,rfl,zd,jC,Pc,tG⟩
  · rw [ak y9] at ha
    split at ha
    · rename_i o e1 xs
      injection ha with ha
      injection ha with h1 h2
      subst h1 h2
      have lW:db P B0 w0 G k nl s s w (.slice o e1 xs) x:=⟨G,h,bA.refl _ _ _,rfl,hx⟩
      rcases hx.iG with⟨_,_,rfl⟩|⟨_,aa,cap,rfl,_,hle,_⟩
      · exact⟨_,w,vY hT hu none bb cc (aH _),lW⟩
      · exact⟨_,w,vY hT hu (some aa) bb cc hle,lW⟩
    · rename_i d' b' off e1 n cap
      injection ha with ha
      injection ha with h1 h2
      subst h1 h2
      have lW:db P B0 w0 G k nl s s w (.aO d' b' off e1 n cap) x:=⟨G,h,bA.refl _ _ _,rfl,hx⟩
      obtain⟨blk,gr,rc,o0,rfl,_,_,_,hn,_⟩:=hx.l4
      exact⟨_,w,vY hT hu (some _) bb cc hn,lW⟩
    · cases ha
  rw[aq (by omega)]at ha
  split at ha
  case isFalse=>cases ha
  rename_i bn
  obtain⟨_,eR,aT⟩:=bn
  rw[h.gJ]at eR aT
  obtain⟨r,gr,hr,hg⟩:=h.cI eR
  have ze:=HD y9 hT.pos
  have Xq:p.1≠[]:=fun e=>by rw[e,iL]at zd;omega
  have Om:∀i (hi:i<p.1.length),Rel G d gr.nl p.1[i] (fy i):=fun i hi=>by
    rcases aT with rfl|aT
    · obtain ⟨g', e1, e2⟩ := h.cur
      rw[hg]at e1
      injection e1 with e1
      rw[e1,e2]
      exact tG i hi
    · exact .cl ((tG i hi).yw (jx.1 aT _ (gv hi)))
  split at ha
  · rename_i o e1 xs
    split at ha
    case isFalse=>cases ha
    rename_i bn
    obtain⟨qS,lu,oj⟩:=bn
    injection ha with ha
    injection ha with h1 h2
    subst h1 h2
    have Gk:xs=[]:=by simpa using qS
    subst Gk
    obtain⟨base,rfl⟩:∃base,x=.slice base 0 0:=by
      rcases hx.iG with⟨_,_,rfl⟩|⟨w9,ax,cx,rfl,_,_,l3,wU⟩
      · exact⟨none,rfl⟩
      · rcases lu with hc | ⟨hc, _⟩
        · cases o <;> simp [Own.isNil] at hc
          exact absurd rfl w9
        · have ho : o = .full := by cases o <;> simp [Own.isFull] at hc ⊢
          have:=wU ho
          subst this
          exact⟨some ax,rfl⟩
    obtain⟨newCap,rest,fq,gW,cY⟩:=vX (P:=P) (w:=w) (ty:=ty) (n:=0) (m:=p.2) (cap:=0) (c:=cy) (base:=base) (a:=ay) (f:=fun _=>Go.undef) (g:=fy) hT hu (by omega) (yg hT (by omega) (by omega)) (fun b _ c hc=>by simp at hc) (fun _=>rfl) jC
    rw[fC]at cY fq gW
    refine⟨_,_,cY,?_⟩
    have cg:=GP (R:=Rel G d gr.nl) (cs:=[]) (ds:=p.1) (n:=0) (m:=p.2*es) (f:=fun _=>Go.undef) (g:=fy) (rest:=rest) rfl zd (fun i hi=>by simp at hi) (fun i hi=>Om i hi)
    rw[kO]at cg
    have bR:((List.range (0*es+p.2*es)).map (both (0*es) (fun _=>Go.undef) fy)++rest).toArray.size=newCap*es:=by
      simp only[xU,cj,bY,pF,gW]
      rw[←gw,←gw]
      congr 1;omega
    exact aoT h.drew eR hg e (some (newCap*es)) (fun n hn=>by injection hn with hn;rw[bR,hn]) Xq Pc (by simpa using cg) es p.2 0 newCap fq (bg _) (fun _ _=>rfl)
  · rename_i d1 b' off e1 n cap
    split at ha
    case isFalse=>cases ha
    rename_i bn
    obtain⟨rfl,rfl,rfl,ft,rfl,oj⟩:=bn
    split at ha
    case h_2=>cases ha
    rename_i cs tB
    split at ha
    case isFalse=>cases ha
    rename_i tC
    injection ha with ha
    injection ha with h1 h2
    subst h1 h2
    obtain⟨blk,bI,rc,o0,rfl,hd,bu,cw,F4,_,hw,ho⟩:=hx.l4
    rw[hg]at bu
    injection bu with bu
    subst bu
    have ho:=ho (.inl ft)
    subst ho
    have FO:=hw rfl ft
    have di:r.boxes[b']? =some cs:=by simpa[ae.box,hr]using tB
    have hB:=(h.rel.cI d1 r gr hr hg).box b' cs blk di cw
    obtain⟨A5,_,Oi,arr,tb,nz,ajR,Py,Pq⟩:=hB
    have dw:cs≠[]:=fun e=>by
      rw[e]at tC
      have:=HD ft hT.pos
      simp only[iL]at tC
      omega
    have rW:=Py dw _ FO
    have aB:cs++p.1≠[]:=fun e=>Xq (RV.1 e).2
    have FA:∀c,c∈cs++p.1→c.bt=true:=fun c hc=>by
      rcases dD.1 hc with hc|hc
      · obtain ⟨i, hi, rfl⟩ := nN hc
        exact(Pq i hi).1
      · exact Pc c hc
    by_cases lA:n+p.2≤rc
    · have hle : (n + p.2) * e1 ≤ arr.size := by rw [rW]; exact oC _ lA
      refine⟨_,_,LW (P:=P) (ty:=ty) (n:=n) (m:=p.2) (c:=cy) (a:=ay) (g:=fy) hT hu lA jC nz hle (fun c hc=>KH (tG c (by rw[zd];exact hc)) (Pc _ (gv _))),?_⟩
      refine QR h eR hr hg di cw dw aB FA (arr':=iZ arr (n*e1) ((List.range (p.2*e1)).map fy)) ?_ (FK _ _ _ _ nz) (fun c _ hc=>FL hc _ _ _) (.inl rfl) (Dy A5 _ _ _) (by rw[GY];exact aH _) (by rw[xA];exact rW) lA
      rw[gw]at hle
      refine⟨by rw[xA,cj,tC,zd];exact hle,fun i hi=>?_⟩
      rw[cj,tC,zd]at hi
      rw[KX _ _ _ _ (by simpa using hle)]
      by_cases hl:i<cs.length
      · rw[um hl,aq (by omega)];exact(Pq i hl).2
      · rw [uo (by omega), ak (by simp; omega)]
        have sf:i-n*e1<p.2*e1:=by omega
        have:=Om (i-cs.length) (by rw[zd];omega)
        have wV:((List.range (p.2*e1)).map fy).getD (i-n*e1) Go.undef=fy (i-cs.length):=by
          rw[tC]
          simp[List.getD,sf]
        rw[wV]
        exact this
    · obtain ⟨newCap, rest, fq, gW, cY⟩ := vX (P := P) (w := w) (ty := ty) (n := n) (m := p.2) (cap := rc) (c := cy) (base := some ⟨blk, 0, none⟩) (a := ay) (f := fun c => arr.getD c Go.undef) (g := fy) hT hu lA
        (yg hT lA oj) (fun b e c hc => by
          injection e with e;subst e
          rw[gZ,cell_of_heap nz,fC]
          have:c<arr.size:=by
            have:=ajR
            rw[tC]at this;omega
          simp[Array.getD,this]) (fun e=>by cases e) jC
      refine⟨_,_,cY,?_⟩
      have Pp:=GP (R:=Rel G d1 gr.nl) (cs:=cs) (ds:=p.1) (f:=fun c=>arr.getD c Go.undef) (g:=fy) (rest:=rest) tC zd (fun i hi=>(Pq i hi).2) (fun i hi=>Om i hi)
      have bR:((List.range (n*e1+p.2*e1)).map (both (n*e1) (fun c=>arr.getD c Go.undef) fy)++rest).toArray.size=newCap*e1:=by
        simp only[xU,cj,bY,pF,gW]
        rw[←gw,←gw]
        congr 1;omega
      exact QR h eR hr hg di cw dw aB FA Pp (World.alloc_heap_new w.drew _) (fun c hc _=>Below.heap_alloc w.drew _ _ hc) (.inr rfl) (((Below.refl _ _).drew).alloc h.rel.low _) (by simp) bR fq
  · cases ha
end
end Go.Ax
/-
  Stores: what goes into an outer activation's box.
-/
namespace Go.Ax
open Go.RowKit
section
variable{P:Program} {B0:Nat} {w0:World} {G:aG} {k nl:Nat} {w:World} {s:ae}
theorem YW {s:ae} {d:Nat} {r:Rec} (h:s.ag[d]? =some r):s.jJ d=r.toks.length:=by simp[ae.jJ,h]
theorem aaT {s:ae} {d g n:Nat} (h:s.tok d g=some n):∃r,s.ag[d]? =some r∧r.toks[g]? =some (some n):=by
 unfold ae.tok at h
 cases hr:s.ag[d]? with
 |none=>rw[hr]at h;cases h
 |some r=>
  rw[hr]at h
  simp only[eL]at h
  cases hq:r.toks[g]? with
  |none=>rw[hq]at h;cases h
  |some q=>rw[hq]at h;simp only[Option.join_some]at h;subst h;exact⟨r,rfl,hq⟩
theorem aeR (h:cu P B0 w0 G s w) {d g n:Nat} {r:Rec} {gr:cH} {T:kS} (hr:s.ag[d]? =some r) (hg:G.ag[d]? =some gr) (jn:r.toks[g]? =some (some n)) (lj:gr.tk[g]? =some T):
  ∃G',G'.ag=G.ag.modify d (fun q=>{q with tk:=q.tk.set g {T with n:=none}})∧G'.I=G.I∧G'.own T.blk=none∧(∀b o,G'.own b=some o→G.own b=some o∧b≠T.blk)∧cu P B0 w0 G' (s.mg d g none) w∧∀k nl,bA k nl G G':=by
 have aI:=h.cI d r gr hr hg
 obtain⟨oR,rQ⟩:=aI.tok g (some n) T jn lj
 obtain⟨t1,t2,t3,t4,t5,arr,ty,t6,t7⟩:=rQ _ rfl
 let G':aG:={G with ag:=G.ag.modify d fun q=>{q with tk:=q.tk.set g {T with n:=none}},own:=fun b=>if b=T.blk then none else G.own b}
 have hk:jw (· =.tok d g) G w G' w:=fun b o ho aB=>by
  refine⟨?_,rfl,fun _ e=>e⟩
  simp only[G']
  rw[aq]
  ·exact ho
  ·rintro rfl
   rw[t2]at ho
   injection ho with ho
   exact aB ho.symm
 have fc:iO gr {gr with tk:=gr.tk.set g {T with n:=none}}:=⟨fun b blk e=>e,fun j U e=>by
  by_cases hj:j=g
  ·subst hj
   rw[lj]at e
   injection e with e
   subst e
   exact⟨_,GU lj,rfl,.inr (.inl rfl)⟩
  ·exact⟨U,by show(gr.tk.set g _)[j]? =_;rw[sW,aq (fun e=>hj e.symm)];exact e,.refl U⟩,rfl,fun _ _ e=>e⟩
 have u0:bA d gr.nl G G':=⟨fun _ _ _ e=>e,fun d' q _ e=>by
  show∃bI,(G.ag.modify d _)[d']? =some bI∧_
  rw[dM]
  by_cases wS:d=d'
  ·subst wS
   rw[hg]at e
   injection e with e
   subst e
   exact⟨_,by rw[ak rfl,hg];rfl,fc,fun _=>rfl⟩
  ·exact⟨q,by rw[aq wS];exact e,.refl q,fun _=>rfl⟩,fun _ _ _ e=>e⟩
 have fS:=h.bp (G':=G') (w':=w) hr hg (fun r=>{r with toks:=r.toks.set g none}) (fun q=>{q with tk:=q.tk.set g {T with n:=none}}) (· =.tok d g) rfl rfl (fun _ _ _ e=>e) fc rfl hk
  (fun o ho=>.inr ⟨_,ho⟩) ?_ h.fe (Below.refl _ _) (fun b o e=>?_)
 ·refine⟨G',rfl,rfl,by simp[G'],fun b o e=>?_,fS.1,fS.2⟩
  simp only[G']at e
  split at e
  ·cases e
  ·exact⟨e,by assumption⟩
 ·refine aI.tokens (toks':=r.toks.set g none) (tk':=gr.tk.set g {T with n:=none}) u0 hk (by simp[aI.iJ]) (fun hm=>YV hm (.inl rfl)) (fun j p U e1 e2=>?_)
  rcases BX e1 with⟨aB,e1⟩|⟨rfl,rfl,_⟩
  ·rcases BX e2 with⟨_,e2⟩|⟨hj,_⟩
   ·exact .inl ⟨aB,e1,e2⟩
   ·exact absurd hj aB
  ·rcases BX e2 with⟨hj,_⟩|⟨_,rfl,_⟩
   ·exact absurd rfl hj
   ·exact .inr ⟨rfl,rfl,fun m hm=>by cases hm⟩
 ·simp only[G']at e
  split at e
  ·cases e
  ·exact h.eN b o e
theorem SF (h:cu P B0 w0 G s w) {d n:Nat} {r:Rec} {gr:cH} {T:kS} (hr:s.ag[d]? =some r) (hg:G.ag[d]? =some gr) (yX:G.own T.blk=none) (oR:T.n=some n)
  (hT:B0≤T.blk∧(∀i,n*T.es≤i→G.I T.blk i=none)∧n≤T.cap∧0<T.es∧∃arr ty,w.heap[T.blk]? =some (.cells arr ty)∧arr.size=T.cap*T.es):
  ∃G',G'.ag=G.ag.modify d (fun q=>{q with tk:=q.tk++[T]})∧G'.I=G.I∧cu P B0 w0 G' (s.kU d n) w∧∀k nl,bA k nl G G':=by
 have aI:=h.cI d r gr hr hg
 obtain⟨t1,t3,t4,t5,arr,ty,t6,t7⟩:=hT
 let G':aG:={G with ag:=G.ag.modify d fun q=>{q with tk:=q.tk++[T]},own:=fun b=>if b=T.blk then some (.tok d r.toks.length)else G.own b}
 have hk:jw (· =.tok d r.toks.length) G w G' w:=fun b o ho _=>by
  refine⟨?_,rfl,fun _ e=>e⟩
  simp only[G']
  rw[aq]
  ·exact ho
  ·rintro rfl
   rw[yX]at ho
   cases ho
 have fc:iO gr {gr with tk:=gr.tk++[T]}:=⟨fun b blk e=>e,fun g U e=>⟨U,mz e,.refl U⟩,rfl,fun _ _ e=>e⟩
 have u0:bA d gr.nl G G':=⟨fun _ _ _ e=>e,fun d' q _ e=>by
  show∃bI,(G.ag.modify d _)[d']? =some bI∧_
  rw[dM]
  by_cases wS:d=d'
  ·subst wS
   rw[hg]at e
   injection e with e
   subst e
   exact⟨_,by rw[ak rfl,hg];rfl,fc,fun _=>rfl⟩
  ·exact⟨q,by rw[aq wS];exact e,.refl q,fun _=>rfl⟩,fun _ _ _ e=>e⟩
 have fS:=h.bp (G':=G') (w':=w) hr hg (fun r=>{r with toks:=r.toks++[some n]}) (fun q=>{q with tk:=q.tk++[T]}) (· =.tok d r.toks.length) rfl rfl (fun _ _ _ e=>e) fc rfl hk
  (fun o ho=>.inr ⟨_,ho⟩) ?_ h.fe (Below.refl _ _) (fun b o e=>?_)
 ·exact⟨G',rfl,rfl,fS.1,fS.2⟩
 ·refine aI.tokens (toks':=r.toks++[some n]) (tk':=gr.tk++[T]) u0 hk (by simp[aI.iJ]) (pG _) (fun g m U e1 e2=>?_)
  rcases eo e1 with⟨aC,e1⟩|⟨rfl,rfl⟩
  ·refine .inl ⟨by omega,e1,?_⟩
   rcases eo e2 with⟨_,e2⟩|⟨hb,_⟩
   ·exact e2
   ·rw[aI.iJ]at hb;omega
  ·have:U=T:=by
    rcases eo e2 with⟨hb,_⟩|⟨_,e⟩
    ·rw[aI.iJ]at hb;omega
    ·exact e
   subst this
   refine .inr ⟨rfl,oR,fun m hm=>?_⟩
   injection hm with hm
   subst hm
   exact⟨t1,by simp[G'],t3,t4,t5,arr,ty,t6,t7⟩
 ·simp only[G']at e
  split at e
  ·rename_i hb;subst hb;exact(uf.1 t6).1
  ·exact h.eN b o e
theorem agd (h:At P B0 w0 G k nl s w) {d nd:Nat} {x x':AV} {v:Value} {s':ae} (eR:d<k) (hx:Rel G k nl x v) (hc:x.bt=true) (hf:s.fit d x=some (x',s')):
  ∃G',At P B0 w0 G' k nl s' w∧bA (k+1) s.loops.length G G'∧s'.loops=s.loops∧Rel G' d nd x' v∧x'.bt=true:=by
 have lW:=bA.refl (k+1) s.loops.length G
 by_cases h1:∃d' g es xs,x=.slice (.tok d' g) es xs
 ·obtain⟨d',g,es,xs,rfl⟩:=h1
  simp only[ae.fit]at hf
  split at hf
  ·rename_i hle
   injection hf with hf
   injection hf with e1 e2
   subst e1 e2
   refine⟨G,h,lW,rfl,?_,rfl⟩
   cases hx with
   |cl hx=>exact .cl hx
   |tok T gr hd hg ht dR hc hn=>exact .tok T gr hle hg ht dR hc hn
  ·rename_i hle
   split at hf
   ·rename_i gR
    obtain⟨WR,pV⟩:=gR
    injection hf with hf
    injection hf with e1 e2
    subst e1 e2
    rw[h.gJ]at WR
    subst WR
    cases hx with
    |cl hx=>cases hx with
     |slice f ho=>rcases ho with h|⟨h,_⟩<;>cases h
     |empty ho=>rcases ho with h|h<;>cases h
    |tok T gr hd hg ht dR l3 hn=>
    obtain⟨r,hr,jn⟩:=aaT pV
    have aI:=h.rel.cI _ r gr hr hg
    obtain⟨oR,rQ⟩:=aI.tok g _ T jn ht
    obtain⟨t1,t2,t3,t4,t5,arr,ty,t6,t7⟩:=rQ _ rfl
    obtain⟨_,heq⟩:=hn _ oR
    obtain⟨rfl,rfl⟩:=heq rfl
    obtain⟨G1,a1,a2,a3,_,a5,a6⟩:=aeR h.rel hr hg jn ht
    obtain⟨rd,yI,iF,wV⟩:=h.cI (Sm eR)
    have aB:d'≠d:=by omega
    have ajI:(s.mg d' g none).ag[d]? =some rd:=by
     simp only[ae.mg,ae.bp,dM]
     rw[aq aB];exact iF
    have W2:G1.ag[d]? =some yI:=by
     rw[a1,dM,aq aB];exact wV
    obtain⟨G2,b1,b2,b3,b4⟩:=SF a5 (T:=T) ajI W2 a3 oR ⟨t1,by rw[a2];exact t3,t4,t5,arr,ty,t6,t7⟩
    have OT:bA (d'+1) s.loops.length G G2:=(a6 _ _).trans (b4 _ _)
    refine⟨G2,h.to b3 (OT.less (by omega) h.sH) (by simp[ae.kU,ae.mg,ae.bp]),OT,rfl,?_,rfl⟩
    have gy:G2.ag[d]? =some {yI with tk:=yI.tk++[T]}:=by rw[b1,dM,ak rfl,W2];rfl
    have si:s.jJ d=yI.tk.length:=by rw[YW iF,(h.rel.cI d rd yI iF wV).iJ]
    rw[si]
    refine .tok T _ (aH _) gy (by show(yI.tk++[T])[yI.tk.length]? =_;rw[gE (aH _)];simp) dR (l3.mono OT.I) hn
   ·injection hf with hf
    injection hf with e1 e2
    subst e1 e2
    exact⟨G,h,lW,rfl,.cl (hx.close (z:=.slice .any es xs) rfl),rfl⟩
 ·by_cases h2:∃d' b off,x=.ptr d' b off
  ·obtain⟨d',b,off,rfl⟩:=h2
   simp only[ae.fit]at hf
   split at hf
   ·rename_i hle
    injection hf with hf
    injection hf with e1 e2
    subst e1 e2
    obtain⟨blk,gr,rfl,_,hg,hb⟩:=hx.sC
    exact⟨G,h,lW,rfl,.ptr gr hle hg hb,rfl⟩
   ·cases hf
  ·by_cases h3:∃d' b off es n cap,x=.aO d' b off es n cap
   ·obtain⟨d',b,off,es,n,cap,rfl⟩:=h3
    simp only[ae.fit]at hf
    split at hf
    ·rename_i hle
     injection hf with hf
     injection hf with e1 e2
     subst e1 e2
     obtain⟨blk,gr,rc,o0,rfl,_,hg,hb,hn,hc,hw,ho⟩:=hx.l4
     exact⟨G,h,lW,rfl,.aO gr hle hg hb hn hc hw ho,rfl⟩
    ·cases hf
   ·have he:s.fit d x=x.close.map (·,s):=by
     unfold ae.fit
     split
     ·exact absurd ⟨_,_,_,_,rfl⟩ h1
     ·exact absurd ⟨_,_,_,rfl⟩ h2
     ·exact absurd ⟨_,_,_,_,_,_,rfl⟩ h3
     ·rfl
    rw[he]at hf
    cases aT:x.close with
    |none=>rw[aT]at hf;cases hf
    |some z=>
     rw[aT]at hf
     injection hf with hf
     injection hf with e1 e2
     subst e1 e2
     exact⟨G,h,lW,rfl,.cl (hx.close aT),Nx aT hc⟩
theorem VU {d nd:Nat} (eR:d<k):∀{xs ys:List AV} {vs:List Value} {G:aG} {s s':ae},At P B0 w0 G k nl s w→(hl:vs.length=xs.length)→(∀i (hi:i<xs.length) (hj:i<vs.length),Rel G k nl xs[i] vs[i]∧xs[i].bt=true)→
  (Bo:∀gr,G.ag[d]? =some gr→gr.nl=nd)→s.fitAll d xs=some (ys,s')→
  ∃G',At P B0 w0 G' k nl s' w∧bA (k+1) s.loops.length G G'∧s'.loops=s.loops∧ys.length=xs.length∧∀i (hi:i<ys.length) (hj:i<vs.length),Rel G' d nd ys[i] vs[i]∧ys[i].bt=true
 |[],ys,vs,G,s,s',h,hl,_,_,hf=>by
  simp only[ae.fitAll]at hf
  injection hf with hf
  injection hf with e1 e2
  subst e1 e2
  exact⟨G,h,bA.refl _ _ _,rfl,rfl,fun i hi=>absurd hi (da _)⟩
 |x::xs,ys,[],G,s,s',h,hl,_,_,hf=>by simp at hl
 | x :: xs, ys, v :: vs, G, s, s', h, hl, hR, Bo, hf => by
  simp only[ae.fitAll]at hf
  split at hf
  ·cases hf
  ·rename_i y s1 hy
   split at hf
   ·cases hf
   ·rename_i zs s2 hz
    injection hf with hf
    injection hf with e1 e2
    subst e1 e2
    have h0:=hR 0 (by simp) (by simp)
    obtain⟨G1,a1,a2,a3,a4,a5⟩:=agd (nd:=nd) h eR h0.1 h0.2 hy
    have ai6:nd≤s.loops.length:=by
     obtain⟨_,gr,_,hg⟩:=h.cI (Sm eR)
     rw[←Bo gr hg]
     exact h.rel.pt _ _ hg
    obtain⟨G2,b1,b2,b3,b4,b5⟩:=VU eR (nd:=nd) a1 (by simpa using hl) (fun i hi hj=>by
     have:=hR (i+1) (by simpa using hi) (by simpa using hj)
     exact⟨this.1.mono (a2.less (by omega) h.sH) (aH _) (aH _),this.2⟩) (fun gr hg=>by
     obtain⟨_,iB,_,uZ⟩:=h.cI (Sm eR)
     obtain⟨bI,bu,hle,_⟩:=a2.ag d iB (by omega) uZ
     rw[hg]at bu
     injection bu with bu
     subst bu
     exact hle.nl.trans (Bo _ uZ)) hz
    rw[a3]at b2
    refine⟨G2,b1,a2.trans b2,b3.trans a3,by simp[b4],fun i hi hj=>?_⟩
    cases i with
    |zero=>exact⟨a4.mono (b2.less (by omega) ai6) (aH _) (aH _),a5⟩
    |succ i=>exact b5 i (by simpa using hi) (by simpa using hj)
theorem Rt (h:At P B0 w0 G k nl s w) {x y:AV} {px v:Value} {n:Nat} {s':ae} (hx:Rel G k nl x px) (hy:Rel G k nl y v) (hs:s.store n x y=some s'):
  ∃blk off arr ty,px=.pointer (some ⟨blk,off,none⟩)∧w.heap[blk]? =some (.cells arr ty)∧v.cells.size=n∧off+n≤arr.size∧(∀u,u∈v.cells.toList→u.oneCell'=true)∧db P B0 w0 G k nl s s' (w.setCells blk off v.cells.toList) AV.undef Go.undef:=by
 unfold ae.store at hs
 split at hs
 case h_2=>cases hs
 rename_i d b off
 split at hs
 case isFalse=>cases hs
 rename_i bn
 obtain⟨bh,hlen,fp⟩:=bn
 obtain⟨blk,gr,rfl,hd,hg,cw⟩:=hx.sC
 obtain⟨bR,r7⟩:=hy.cells fp
 have xh:v.cells.size=n:=bR.trans hlen
 have br:∀c,c∈y.cells→c.bt=true:=fun c hc=>jx.1 fp c hc
 have O9:∀u,u∈v.cells.toList→u.oneCell'=true:=fun u hu=>by
  obtain⟨i,hi,rfl⟩:=nN hu
  have bD:i<y.cells.length:=by rw[←bR];simpa using hi
  have:=r7 i bD
  have he:v.cells.getD i Go.undef=v.cells.toList[i]:=by
   have:i<v.cells.size:=by simpa using hi
   simp[Array.getD,this]
  rw[he]at this
  exact KH this (br _ (gv bD))
 split at hs
 ·cases hs
 rename_i cs m1 lU
 split at hs
 ·cases hs
 rename_i row cg
 split at hs
 case isFalse=>cases hs
 rename_i hle
 injection hs with hs
 subst hs
 obtain⟨_,avn⟩:∃nd,gr.nl=nd:=⟨_,rfl⟩
 have JV:∃G1 wO,At P B0 w0 G1 k nl m1 w∧bA (k+1) s.loops.length G G1∧m1.loops=s.loops∧cs.length=n∧G1.ag[d]? =some wO∧wO.bl[b]? =some (some blk)∧(∀i (hi:i<cs.length) (hj:i<v.cells.toList.length),Rel G1 d wO.nl cs[i] v.cells.toList[i])∧∀c,c∈cs→c.bt=true:=by
  have J2:∀i (hi:i<y.cells.length) (hj:i<v.cells.toList.length),Rel G k nl y.cells[i] v.cells.toList[i]∧y.cells[i].bt=true:=fun i hi hj=>by
   have:=r7 i hi
   have he:v.cells.getD i Go.undef=v.cells.toList[i]:=by
    have:i<v.cells.size:=by simpa using hj
    simp[Array.getD,this]
   rw[he]at this
   exact⟨this,br _ (gv hi)⟩
  by_cases FH:d=s.cur
  ·rw[ak FH]at lU
   injection lU with lU
   injection lU with e1 e2
   subst e1 e2
   have eR:d=k:=by rw[h.gJ]at FH;exact FH
   subst eR
   obtain⟨gc,nw,wW⟩:=h.cur
   rw[hg]at nw
   injection nw with nw
   subst nw
   exact⟨G,gr,h,bA.refl _ _ _,rfl,hlen,hg,cw,fun i hi hj=>by rw[wW];exact(J2 i hi hj).1,br⟩
  ·rw[aq FH]at lU
   have eR:d<k:=by rw[h.gJ]at FH;omega
   obtain⟨G1,a1,a2,a3,a4,a5⟩:=VU (nd:=gr.nl) (vs:=v.cells.toList) eR h (by simpa using bR) J2 (fun g e=>by rw[hg]at e;injection e with e;rw[e]) lU
   obtain⟨wO,JO,FY,_⟩:=a2.ag d gr (by omega) hg
   refine⟨G1,wO,a1,a2,a3,a4.trans hlen,JO,FY.bl _ _ cw,fun i hi hj=>?_,fun c hc=>?_⟩
   ·rw[FY.nl]
    exact(a5 i hi hj).1
   ·obtain⟨i,hi,rfl⟩:=nN hc
    exact(a5 i hi (by simp[xh,←hlen,←a4,hi])).2
 obtain⟨G1,wO,Bc,FY,oX,aT,JO,WL,hRs,dw⟩:=JV
 obtain⟨r,hr,di,JH,arr,ty,nz,_,ajQ⟩:=Bc.box hd cg JO WL
 obtain⟨bb1,bb2,bb3,arr',B7,JS,wQ,aiJ,hold⟩:=JH
 rw[nz]at JS
 injection JS with JS
 injection JS with e1 e2
 subst e1 e2
 refine⟨blk,off,arr,ty,rfl,nz,xh,kQ hle wQ,O9,?_⟩
 have ahN:kz (Rel G1 d wO.nl) row arr:=⟨wQ,fun i hi=>(hold i hi).2⟩
 have ahO:kz (Rel G1 d wO.nl) (setCells row off cs) (iZ arr off v.cells.toList):=kz.iZ (by simp[xh,aT]) hRs off ahN
 by_cases J7:row=[]
 ·-- nothing is written to a dead box
  subst J7
  have ft:n=0:=by simp at hle;omega
  have aik:cs=[]:=sU (by rw[aT];exact ft)
  have hv0:v.cells.toList=[]:=sU (by rw[RO,xh];exact ft)
  subst aik
  rw[hv0]
  have Ps : m1.dA d b (setCells [] off []) = m1 := by
   simp only[ae.dA,ae.bp,setCells]
   have:m1.ag.modify d (fun r=>{r with boxes:=r.boxes.set b []})=m1.ag:=by
    apply pE
    intro i
    rw[vN]
    by_cases hi:d=i
    ·subst hi
     rw[hr]
     have:r.boxes.set b []=r.boxes:=by
      apply pE
      intro j
      rw[sW]
      split
      ·rename_i hj
       subst hj
       rw[di,ak (bd.1 di).1]
      ·rfl
     show some (if d=d then(⟨r.boxes.set b [],r.toks⟩:Rec)else r)=some r
     rw[ak rfl,this]
    ·simp[hi]
   rw[this]
  rw[Ps]
  exact⟨G1,Bc,FY,by rw[oX],.undef⟩
 have aB:setCells row off cs≠[]:=by
  intro e
  have e2:=hY List.length e
  simp[asn]at e2
  exact J7 e2
 have Px:=Bc.rel.dA (cs':=setCells row off cs) (w':=w.setCells blk off v.cells.toList) hr JO di WL J7 aB (fun c hc=>by
   rcases aaj hc with h|h
   ·exact ajQ c h
   ·exact dw c h) ahO (fun m hm=>by rw[xA];exact aiJ J7 m hm) (FK _ _ _ _ nz) (fun c hc=>FL hc _ _ _) (Dy bb1 _ _ _) (GY _ _ _ _)
 refine⟨G1,Bc.to Px (bA.refl _ _ _) (by simp[ae.dA,ae.bp]),FY,by simp[ae.dA,ae.bp,oX],.undef⟩
theorem asV (h:At P B0 w0 G k nl s w) {x y:AV} {px v:Value} {n:Nat} {t:TypeId} {s':ae} (hx:Rel G k nl x px) (hy:Rel G k nl y v) (hn:cK P t=some n) (hs:s.store n x y=some s'):
  ∃w',(Instr.storeAt t px v).run P w=.ok () w'∧db P B0 w0 G k nl s s' w' AV.undef Go.undef:=by
 obtain⟨blk,off,arr,ty,rfl,h1,h2,h3,h4,h5⟩:=Rt h hx hy hs
 exact⟨_,asU h1 hn h2 h3 h4,h5⟩
end
end Go.Ax
/-
  copy of plain cells, and a slice that is not written to any more.
-/
namespace Go.Ax
open Go.RowKit
section
variable{P:Program} {B0:Nat} {w0:World} {G:aG} {k nl:Nat} {w:World} {s:ae}
theorem agh {α:Type} {xs:List (List α)} (h:∀r,r∈xs→r.length=1):xs.flatten.length=xs.length:=by
 have:=(yH (es:=1) (by omega) h).1
 omega
theorem aaC (h:At P B0 w0 G k nl s w) {b:AV} {y:Value} {ys:List AV} (hy:Rel G k nl b y) (hs:s.G4 b=some ys):
  ∃(ad:Option Addr) (cap:Nat) (f:Nat→Value),y=.slice ad ys.length cap∧(0<ys.length→∃a,ad=some a∧∀j,j<ys.length→w.cell? (a.add j)=some (f j))∧
   ∀i (hi:i<ys.length),Rel G k nl ys[i] (f i)∧ys[i].bt=true:=by
 cases b with
 | slice o e xs =>
  simp only[ae.G4]at hs
  split at hs
  case isFalse=>cases hs
  rename_i hc
  injection hs with hs
  subst hs
  by_cases qS:xs=[]
  ·subst qS
   rcases hy.iG with⟨_,_,rfl⟩|⟨_,aa,c,rfl,_⟩
   ·exact⟨none,0,fun _=>Go.undef,rfl,fun h=>absurd h (zU _),fun i hi=>absurd hi (da _)⟩
   ·exact⟨some aa,c,fun _=>Go.undef,rfl,fun h=>absurd h (zU _),fun i hi=>absurd hi (da _)⟩
  ·have he:e=1:=by
    rcases hc with hc|hc
    ·exact hc
    ·exact absurd (by simpa using hc) qS
   subst he
   have pg:0<xs.length:=Ci.2 qS
   rcases hy.iG with⟨_,hn,_⟩|⟨_,ay,cy,rfl,_,_,om,_⟩
   ·exact absurd hn qS
   ·obtain⟨vi,Bf,ly,oH,fy,vh,ph⟩:=fM.flat om (by omega)
    have uW:ay=⟨ay.block,ay.off,none⟩:=vV (vi (by omega))
    obtain⟨qA,yF⟩:=yH (es:=1) (by omega) ly
    have hl:=agh ly
    refine⟨some ay,cy,fy,by rw[hl],fun _=>⟨ay,rfl,fun j hj=>?_⟩,fun i hi=>⟨?_,?_⟩⟩
    ·rw[uW,gZ];exact h.rel.fe _ _ _ (vh j (by omega))
    ·obtain⟨g1,g2,g3⟩:=yF i hi
     rw[g3]
     have:=ph _ g1 _ g2
     rw[xV]at this
     exact .cl this
    ·obtain⟨r,hr,iU⟩:=ur.1 (gv hi)
     exact oH r hr _ iU
 | aO d b off e n cap =>
  simp only[ae.G4]at hs
  split at hs
  case isFalse=>cases hs
  rename_i he
  subst he
  obtain⟨cs,tB,hs⟩:=cX.1 hs
  split at hs
  case isFalse=>cases hs
  rename_i hle
  injection hs with hs
  subst hs
  obtain⟨blk,gr,rc,o0,rfl,hd,hg,cw,F4,_,hw,ho⟩:=hy.l4
  obtain⟨r,hr,di,JH,arr,tb,nz,cg,Po⟩:=h.box hd tB hg cw
  have hl:((cs.drop off).take n).length=n:=by simp;omega
  refine⟨_,rc,fun j=>arr.getD (off+j) Go.undef,by rw[hl],fun h0=>⟨_,rfl,fun j hj=>?_⟩,fun i hi=>?_⟩
  ·have:=ho (.inl (by omega))
   subst this
   rw[gZ,cell_of_heap nz]
   have:o0+j<arr.size:=by have:=cg.1;omega
   simp[Array.getD,this]
  ·have he:((cs.drop off).take n)[i]=cs[off+i]'(by omega):=by simp
   rw[he]
   exact⟨cg.2 _ _,Po _ (gv _)⟩
 |_=>cases hs
theorem aex (h:At P B0 w0 G k nl s w) {t u e ty:TypeId} (ht:P.underlying t=some (.slice e)) (hz:cK P e=some 1) {a b v:AV} {x y:Value} {s':ae}
  (hx:Rel G k nl a x) (hy:Rel G k nl b y) (hc:AJ s a b=some (v,s')):
  ∃ x' w', (Builtin.copy_ #[t, u] ty #[x, y]).run P w = .ok x' w' ∧ db P B0 w0 G k nl s s' w' v x' := by
 unfold AJ at hc
 split at hc
 ·rename_i o e1
  obtain⟨ys,h1,hc⟩:=aU.1 hc
  injection hc with e1 e2
  subst e1 e2
  obtain⟨ad,cap,f,rfl,_,_⟩:=aaC h hy h1
  obtain⟨dd,c,rfl⟩:∃dd c,x=.slice dd 0 c:=by
   rcases hx.iG with⟨_,_,rfl⟩|⟨_,aa,c,rfl,_⟩
   ·exact⟨_,_,rfl⟩
   ·exact⟨_,_,rfl⟩
  exact⟨_,w,run_copy_none w t u ty e dd ad 0 c ys.length cap ht hz (by simp),G,h,bA.refl _ _ _,rfl,.cl (.v rfl)⟩
 ·rename_i d b off e1 n cap
  split at hc
  case isFalse=>cases hc
  rename_i he
  subst he
  obtain⟨ys,h1,hc⟩:=cX.1 hc
  obtain⟨ad,UA,f,rfl,br,kG⟩:=aaC h hy h1
  have XM:=hx
  obtain⟨blk,gr,rc,o0,rfl,hd,hg,cw,F4,_,hw,ho⟩:=hx.l4
  split at hc
  ·rename_i qG
   injection hc with hc
   injection hc with e1 e2
   subst e1 e2
   have qL:Nat.min ys.length n=0:=by
    have:(ys.take n).length=0:=by rw[List.isEmpty_iff.1 qG];rfl
    rw[fW]at this
    show min ys.length n=0
    omega
   exact⟨_,w,run_copy_none w t u ty e _ ad n rc ys.length UA ht hz qL,G,h,bA.refl _ _ _,rfl,.cl (.v rfl)⟩
  ·rename_i qG
   obtain⟨q,cp,hc⟩:=aU.1 hc
   injection hc with e1 e2
   subst e1 e2
   have ze:0<(ys.take n).length:=by
    apply Ci.2
    intro e
    rw[e]at qG
    exact qG rfl
   have aC:(ys.take n).length=min n ys.length:=fW
   have ft:0<n:=by omega
   have:=ho (.inl ft)
   subst this
   have J3:Rel G k nl (.ptr d b o0) (.pointer (some ⟨blk,o0,none⟩)):=.ptr gr hd hg cw
   have hyv:Rel G k nl (.agg (ys.take n)) (.agg ((List.range (ys.take n).length).map f).toArray):=by
    refine .agg (by simp) (fun c hc=>?_) (fun i hi=>?_)
    ·obtain⟨i,hi,rfl⟩:=nN hc
     have bD:i<ys.length:=by rw[aC]at hi;omega
     rw[List.getElem_take]
     exact(kG i bD).2
    ·have bD:i<ys.length:=by rw[aC]at hi;omega
     have:((List.range (ys.take n).length).map f).toArray.getD i Go.undef=f i:=by simp[Array.getD]at hi⊢;omega
     rw[this,List.getElem_take]
     exact(kG i bD).1
   obtain⟨fN,Qr,arr,tb,e1,h2,h3,h4,h5,h6⟩:=Rt h J3 hyv cp
   injection e1 with e1
   injection e1 with e1
   injection e1 with e1 e2
   subst e1 e2
   obtain⟨ay,rfl,aT⟩:=br (by omega)
   have dw:(Value.agg ((List.range (ys.take n).length).map f).toArray).cells.toList=(List.range (ys.take n).length).map f:=rfl
   rw[dw]at h5 h6
   have hlen:((List.range (ys.take n).length).map f).length=(ys.take n).length:=by simp
   have cY:=run_copy_cells (P:=P) w t u ty e blk o0 n rc ay ys.length UA ((List.range (ys.take n).length).map f) ht hz (by rw[hlen,aC];exact Nat.min_comm _ _) (fun j v hj=>by
     have gS:j<(ys.take n).length:=by
      have:=(bd.1 hj).1
      rw[hlen]at this;exact this
     have e:((List.range (ys.take n).length).map f)[j]? =some (f j):=by rw[jf,Ho gS];rfl
     rw[e]at hj
     injection hj with hj
     subst hj
     exact aT j (by omega)) (fun j hj=>by
     rw[hlen]at hj
     rw[cell_of_heap h2]
     have:o0+j<arr.size:=by omega
     simp[this]) (fun j _=>frozen_of_heap h2) h5
   refine⟨_,_,cY,?_⟩
   obtain⟨G',a1,a2,a3,_⟩:=h6
   rw[hlen]
   exact⟨G',a1,a2,a3,.cl (.v rfl)⟩
 ·cases hc
end
end Go.Ax
/-
  The other operations without a call.
-/
namespace Go.Ax
open Go.RowKit
section
variable{P:Program} {B0:Nat} {w0:World} {G:aG} {k nl:Nat} {w:World} {s:ae}
theorem db.same (h:At P B0 w0 G k nl s w) {x:AV} {v:Value} (hv:Rel G k nl x v):db P B0 w0 G k nl s s w x v:=⟨G,h,bA.refl _ _ _,rfl,hv⟩
theorem Rel.val (x:Value) (h:plain x=true):Rel G k nl (.v x) x:=.cl (.v h)
theorem akE {op : BinOp} {kd : IntKind} {x y : Int} {v : Value} (h : sB op kd x y = some v) (hs : p7 op = false) (t : TypeId) :
    (binOp op t (.int kd x) (.int kd y)).run P w=.ok v w∧plain v=true:=by
  cases op<;>simp only[p7]at hs<;>first
    |(cases hs;done)
    | (simp only [sB] at h
       first
         |(injection h with h;subst h;exact⟨by simp[binOp,Op.intArith,Op.intBits,Op.intCmp],rfl⟩)
         | (split at h
            · cases h
            · rename_i hy
              injection h with h
              subst h
              exact⟨by simp[binOp,Op.intDiv,hy],rfl⟩)
         |cases h)
theorem ast {op:BinOp} {kx ky:IntKind} {x y:Int} {v:Value} (h:tY op kx x y=some v) (t:TypeId):
  (binOp op t (.int kx x) (.int ky y)).run P w=.ok v w∧plain v=true:=by
 unfold tY at h
 split at h
 ·cases h
 ·rename_i hy
  cases op<;>simp only at h<;>first
   |(cases h;done)
   |(injection h with h;subst h;exact⟨by simp[binOp,Op.shift,hy],rfl⟩)
theorem asW {op:BinOp} {x y:ByteArray} {v:Value} (h:sO op x y=some v) (t:TypeId):
    (binOp op t (.string x) (.string y)).run P w=.ok v w∧plain v=true:=by
  unfold sO at h
  simp only[←ByteArray.toList_eq]at h
  cases op<;>simp only at h<;>first
    |(injection h with h;subst h;exact⟨by simp[binOp,Op.stringOp],rfl⟩)
    | (split at h
       · cases h
       · rename_i hc
         injection h with h
         subst h
         exact⟨by simp only[binOp,Op.stringOp];rw[aq hc];rfl,rfl⟩)
    |cases h
theorem acE {op:BinOp} {a b v:AV} (h:dy op a b=some v):
  (∃kd x sD y,a=.v (.int kd x)∧b=.v (.int sD y)∧((p7 op=true∧∃z,tY op kd x y=some z∧v=.v z)∨(p7 op=false∧kd=sD∧∃z,sB op kd x y=some z∧v=.v z)))∨
  ∃x y z,a=.v (.string x)∧b=.v (.string y)∧sO op x y=some z∧v=.v z:=by
 unfold dy at h
 split at h
 ·rename_i kd x sD y
  refine .inl ⟨kd,x,sD,y,rfl,rfl,?_⟩
  by_cases hs:p7 op=true
  ·rw[ak hs]at h
   cases hz:tY op kd x y with
   |none=>rw[hz]at h;cases h
   |some z=>rw[hz]at h;injection h with h;exact .inl ⟨hs,z,rfl,h.symm⟩
  ·rw[aq hs]at h
   by_cases hk:kd=sD
   ·rw[ak hk]at h
    cases hz:sB op kd x y with
    |none=>rw[hz]at h;cases h
    |some z=>rw[hz]at h;injection h with h;exact .inr ⟨by simpa using hs,hk,z,rfl,h.symm⟩
   ·rw[aq hk]at h;cases h
 ·rename_i x y
  cases hz:sO op x y with
  |none=>rw[hz]at h;cases h
  |some z=>rw[hz]at h;injection h with h;exact .inr ⟨x,y,z,rfl,rfl,hz,h.symm⟩
 ·cases h
theorem acF {op:BinOp} {a b v:AV} {x y:Value} (t:TypeId) (hx:Rel G k nl a x) (hy:Rel G k nl b y) (h:dy op a b=some v):
  ∃z,(binOp op t x y).run P w=.ok z w∧Rel G k nl v z∧x≠.nilIface∧∀cs,x≠.agg cs:=by
 have hc:=acE h
 clear h
 rcases hc with⟨kd,a,sD,b,rfl,rfl,hq⟩|⟨a,b,z,rfl,rfl,hz,rfl⟩
 ·obtain rfl:=hx.gl
  obtain rfl:=hy.gl
  rcases hq with⟨_,z,hz,rfl⟩|⟨hs,rfl,z,hz,rfl⟩
  ·obtain⟨h1,h2⟩:=ast (P:=P) (w:=w) (ky:=sD) hz t
   exact⟨z,h1,.val z h2,by simp,by simp⟩
  ·obtain⟨h1,h2⟩:=akE (P:=P) (w:=w) hz hs t
   exact⟨z,h1,.val z h2,by simp,by simp⟩
 ·obtain rfl:=hx.gl
  obtain rfl:=hy.gl
  obtain⟨h1,h2⟩:=asW (P:=P) (w:=w) hz t
  exact⟨z,h1,.val z h2,by simp,by simp⟩
theorem yz {op:BinOp} {t:TypeId} {x y:Operand} {a b:Value} (h1:a≠.nilIface) (h2:∀cs,a≠.agg cs):(eqGuard op t x y a b).run P w=.ok () w:=by
 unfold eqGuard
 cases op<;>simp<;>(cases a<;>simp_all)
theorem ae6 (t:TypeId) (neg:Bool) {x y:Value} {b:Bool} (h:(Op.equal t x y).run P w=.ok b w) (hx:(∀k n,x≠.int k n)∧(∀s,x≠.string s)∧(∀k n,x≠.float k n)∧(∀k m n,x≠.complex k m n)):
  (binOp (if neg then .neq else .eql) t x y).run P w=.ok (.bool (if neg then !b else b)) w:=by
 obtain⟨h1,h2,h3,h4⟩:=hx
 cases neg
 ·simp only[ej,cE]
  have:binOp .eql t x y=(do pure (.bool (←Op.equal t x y))):=by
   cases x<;>first|(exact absurd rfl (h1 _ _))|(exact absurd rfl (h2 _))|(exact absurd rfl (h3 _ _))|(exact absurd rfl (h4 _ _ _))|rfl
  rw[this]
  simp[h]
 ·simp only[bB]
  have:binOp .neq t x y=(do pure (.bool (!(←Op.equal t x y)))):=by
   cases x<;>first|(exact absurd rfl (h1 _ _))|(exact absurd rfl (h2 _))|(exact absurd rfl (h3 _ _))|(exact absurd rfl (h4 _ _ _))|rfl
  rw[this]
  simp[h]
theorem Vm {kd:PK} {x y:AV} {a b:Value} {c:Bool} {t:TypeId} (hx:Rel G k nl x a) (hy:Rel G k nl y b) (h:NM kd x y=some c) (ht:zD P t=some kd) (d:Nat):
  (Op.equalIn (d+1) t a b).run P w=.ok c w:=by
 unfold zD at ht
 unfold NM at h
 split at h
 ·obtain rfl:=hx.gl
  obtain rfl:=hy.gl
  split at ht<;>first|(cases ht;done)|skip
  rename_i hu
  split at h
  ·rename_i FV
   subst FV
   injection h with h
   subst h
   exact run_equalIn_int w d t _ _ _ _ hu
  ·cases h
 ·obtain rfl:=hx.gl
  obtain rfl:=hy.gl
  split at ht<;>first|(cases ht;done)|skip
  rename_i hu
  injection h with h
  subst h
  exact run_equalIn_bool' w d t _ _ hu
 ·obtain rfl:=hx.gl
  obtain rfl:=hy.gl
  split at ht<;>first|(cases ht;done)|skip
  rename_i hu
  injection h with h
  rw[←ByteArray.toList_eq,←ByteArray.toList_eq]at h
  subst h
  exact run_equalIn_string w d t _ _ hu
 ·cases h
theorem KL {t:TypeId} {kd:PK} (h:zD P t=some kd) {cs:Array Value} {i:Nat} (hi:i<cs.size):(Go.part t cs i).run P w=.ok cs[i] w:=by
 have ha:(isAgg t).run P w=.ok false w:=by
  unfold zD at h
  split at h<;>first
   |(rename_i hu;simp[isAgg,run_underlying hu,pure])
   |cases h
 unfold Go.part
 simp only[Sem.run_bind,ha,Result.andThen_ok,ej,cE]
 simp[hi]
theorem Vl (d:Nat) {xs ys:Array Value}:∀(fs:List Field) (ks:List PK) (as bs:List AV) (o:Nat) (c:Bool),(∀f,f∈fs→f.name≠ "_")→fw (fun f:Field=>zD P f.type) fs=some ks→fs.map (·.offset)=List.range' o fs.length→
  xs.size=o+as.length→ys.size=o+bs.length→(∀i (hi:i<as.length),Rel G k nl as[i] (xs.getD (o+i) Go.undef))→(∀i (hi:i<bs.length),Rel G k nl bs[i] (ys.getD (o+i) Go.undef))→
  Fh ks as bs=some c→(Op.eqFields (d+1) xs ys fs).run P w=.ok c w
 | [], ks, as, bs, o, c, _, hk, _, _, _, _, _, h => by
  simp only[fw]at hk
  injection hk with hk
  subst hk
  cases as with
  |nil=>cases bs with
   |nil=>simp only[Fh]at h;injection h with h;subst h;rfl
   |cons=>cases h
  |cons=>cases h
 | f :: fs, ks, as, bs, o, c, hn, hk, ho, Gk, kG, XQ, XW, h => by
  simp only[fw]at hk
  split at hk
  case h_2=>cases hk
  rename_i kd ks' Bk FW
  injection hk with hk
  subst hk
  cases as with
  |nil=>cases h
  | cons a as =>
   cases bs with
   |nil=>cases h
   | cons b bs =>
    simp only[iN,dP,Ck,vM]at ho
    obtain⟨ho,oZ⟩:=ho
    simp only[dP]at Gk kG
    have pg:=XQ 0 (by simp)
    have jT:=XW 0 (by simp)
    simp only[vQ,xQ]at pg jT
    have cr:o<xs.size:=by omega
    have OP:o<ys.size:=by omega
    have ex:xs.getD o Go.undef=xs[o]:=by simp[Array.getD,cr]
    have ey:ys.getD o Go.undef=ys[o]:=by simp[Array.getD,OP]
    rw[ex]at pg
    rw[ey]at jT
    simp only[Fh]at h
    simp only[Op.eqFields]
    rw[ak (hn f (by simp)),ho]
    split at h
    ·rename_i he
     have cY:=Vm (P:=P) (w:=w) pg jT he Bk d
     have ih:=Vl d (xs:=xs) (ys:=ys) fs ks' as bs (o+1) c (fun g hg=>hn g (by simp[hg])) FW oZ (by omega) (by omega)
      (fun i hi=>by have:=XQ (i+1) (by simpa using hi);simpa[vP,Lw 1 i]using this)
      (fun i hi=>by have:=XW (i+1) (by simpa using hi);simpa[vP,Lw 1 i]using this) h
     simp[KL Bk cr,KL Bk OP,cY,ih]
    ·rename_i he
     injection h with h
     subst h
     have cY:=Vm (P:=P) (w:=w) pg jT he Bk d
     simp[KL Bk cr,KL Bk OP,cY]
    ·cases h
end
end Go.Ax
/-
  The other operations without a call: each one's run.
-/
namespace Go.Ax
open Go.RowKit
section
variable{P:Program} {B0:Nat} {w0:World} {G:aG} {k nl:Nat} {w:World} {s:ae}
theorem ae3 {f:AV→Option Bool} {x y:AV} {c:Bool} (h:yA f x y=some c):(f x=some true∧f y=some c)∨(f y=some true∧f x=some c):=by
 unfold yA at h
 split at h
 ·rename_i b h1 h2
  injection h with h
  subst h
  exact .inl ⟨h1,h2⟩
 ·rename_i b _ h1 h2
  injection h with h
  subst h
  exact .inr ⟨h2,h1⟩
 ·cases h
theorem YU {x:AV} {y:Value} {c:Bool} (h:Rel G k nl x y) (hc:P0 x=some c):∃a n m,y=.slice a n m∧a.isNone=c:=by
 unfold P0 at hc
 split at hc
 ·injection hc with hc
  subst hc
  rcases h.iG with⟨_,_,rfl⟩|⟨aB,_⟩
  ·exact⟨_,_,_,rfl,rfl⟩
  ·exact absurd rfl aB
 ·rename_i aB
  injection hc with hc
  subst hc
  rcases h.iG with⟨he,_,_⟩|⟨_,a,cap,rfl,_⟩
  ·exact(aB he).elim
  ·exact⟨_,_,_,rfl,rfl⟩
 ·injection hc with hc
  subst hc
  obtain⟨blk,gr,rc,o0,rfl,_⟩:=h.l4
  exact⟨_,_,_,rfl,rfl⟩
 ·cases hc
theorem YT {x:AV} {y:Value} {c:Bool} (h:Rel G k nl x y) (hc:PZ x=some c):∃a:Option Addr,y=.pointer a∧a.isNone=c:=by
 unfold PZ at hc
 split at hc
 ·injection hc with hc;subst hc;obtain rfl:=h.gl;exact⟨_,rfl,rfl⟩
 ·injection hc with hc;subst hc;obtain⟨blk,gr,rfl,_⟩:=h.sC;exact⟨_,rfl,rfl⟩
 ·injection hc with hc;subst hc;obtain⟨blk,o0,f,rfl,_⟩:=h.zp;exact⟨_,rfl,rfl⟩
 ·cases hc
theorem YS {x:AV} {y:Value} {c:Bool} (h:Rel G k nl x y) (hc:PY x=some c):(c=true∧y=.nilIface)∨(c=false∧∃t z,y=.iface t z):=by
 unfold PY at hc
 split at hc
 ·injection hc with hc;subst hc;obtain rfl:=h.gl;exact .inl ⟨rfl,rfl⟩
 ·injection hc with hc;subst hc;obtain⟨z,rfl,_⟩:=h.PU;exact .inr ⟨rfl,_,_,rfl⟩
 ·injection hc with hc;subst hc
  cases h with
  |cl h=>cases h with|zB=>exact .inr ⟨rfl,_,_,rfl⟩
 ·cases hc
theorem YR {x:AV} {y:Value} {c:Bool} (h:Rel G k nl x y) (hc:PX x=some c):(c=true∧y=.nilFunc)∨(c=false∧∃f a b,y=.func f a b):=by
 unfold PX at hc
 split at hc
 ·injection hc with hc;subst hc;obtain rfl:=h.gl;exact .inl ⟨rfl,rfl⟩
 ·injection hc with hc;subst hc;obtain⟨a,b,rfl,_⟩:=h.Bx;exact .inr ⟨rfl,_,_,_,rfl⟩
 ·injection hc with hc;subst hc;obtain⟨r,rfl,_⟩:=h.PV;exact .inr ⟨rfl,_,_,_,rfl⟩
 ·cases hc
theorem uJ {t:TypeId} {x y:Value} {b:Bool} (h:∀d,(Op.equalIn (d+1) t x y).run P w=.ok b w):(Op.equal t x y).run P w=.ok b w:=by
 unfold Op.equal Op.maxDepth
 exact h 9999
theorem ae8 {t e:TypeId} {a b:Option Addr} {n m n' m':Nat} (ht:P.underlying t=some (.slice e)) (h:a=none∨b=none):
  (Op.equal t (.slice a n m) (.slice b n' m')).run P w=.ok (a.isNone&&b.isNone) w:=by
 refine uJ fun d=>?_
 rcases h with rfl|rfl
 ·simp[Op.equalIn,run_underlying ht]
 ·cases a<;>simp[Op.equalIn,run_underlying ht]
theorem ae7 {t e:TypeId} {a b:Option Addr} (ht:P.underlying t=some (.pointer e)) (h:a=none∨b=none):
  (Op.equal t (.pointer a) (.pointer b)).run P w=.ok (a.isNone&&b.isNone) w:=by
 refine uJ fun d=>?_
 rcases h with rfl|rfl
 ·simp[Op.equalIn,run_underlying ht]
 ·cases a<;>simp[Op.equalIn,run_underlying ht]
theorem Jf {f:AV→Option Bool} {x y:AV} {c:Bool} (he:yA f x y=some c):∃p q,f x=some p∧f y=some q∧(p=true∨q=true)∧c=(p&&q):=by
 rcases ae3 he with⟨h1,h2⟩|⟨h1,h2⟩
 ·exact⟨_,_,h1,h2,.inl rfl,by simp⟩
 ·exact⟨_,_,h2,h1,.inr rfl,by simp⟩
theorem NK {op:BinOp} {neg:Bool} {t:TypeId} {x y:Operand} {u v:Value} (cd:Fi op=some neg) (hc:(Gw x||Gw y)=true) (hu:∀cs,u≠.agg cs):(eqGuard op t x y u v).run P w=.ok () w:=by
  unfold eqGuard
  cases op<;>first|(cases cd;done)|skip
  all_goals
    cases u <;> first
      |exact absurd rfl (hu _)
      |(cases v<;>first
          |rfl
          |(cases x<;>cases y<;>first
              |rfl
              |(simp[Gw]at hc;done)))
theorem ae9 {op:BinOp} {neg BL:Bool} {t:TypeId} {x y:Operand} {bx fO ax ay:aF} {kd:Hf} {ρ:Nat→AV} {a:Act} {c:Bool} (cd:Fi op=some neg) (rx:Rel G k nl (aE ρ bx) (a.eval x)) (ry:Rel G k nl (aE ρ fO) (a.eval y))
  (hm:Fc P op neg t x y bx fO=some (.eqv BL kd ax ay)) (he:oL kd (aE ρ ax) (aE ρ ay)=some c):
  (do eqGuard op t x y (a.eval x) (a.eval y);binOp op t (a.eval x) (a.eval y)).run P w=.ok (.bool (if BL then !c else c)) w:=by
 have ajv:op=(if neg=true then BinOp.neq else BinOp.eql):=by
  cases op<;>simp[Fi]at cd<;>subst cd<;>rfl
 have fin:∀{b:Bool},(eqGuard op t x y (a.eval x) (a.eval y)).run P w=.ok () w→(Op.equal t (a.eval x) (a.eval y)).run P w=.ok b w→
   ((∀k n,a.eval x≠.int k n)∧(∀s,a.eval x≠.string s)∧(∀k n,a.eval x≠.float k n)∧(∀k m n,a.eval x≠.complex k m n))→
   (do eqGuard op t x y (a.eval x) (a.eval y);binOp op t (a.eval x) (a.eval y)).run P w=.ok (.bool (if neg then !b else b)) w:=fun hg hq hn=>by
  have:=ae6 (P:=P) (w:=w) t neg hq hn
  rw[←ajv]at this
  simp[hg,this]
 unfold Fc at hm
 split at hm<;>first|(cases hm;done)|skip
 ·-- bools
  rename_i hu
  injection hm with hm
  injection hm with e1 e2 e3 e4
  subst e1 e2 e3 e4
  simp only[oL]at he
  split at he
  ·rename_i p q h1 h2
   injection he with he
   subst he
   rw[h1]at rx
   rw[h2]at ry
   have ex:=rx.gl
   have ey:=ry.gl
   rw[ex,ey]at fin⊢
   exact fin (yz (by simp) (by simp)) (uJ fun d=>run_equalIn_bool' w d t _ _ hu) ⟨by simp,by simp,by simp,by simp⟩
  ·cases he
 ·-- structs
  rename_i fs hu
  split at hm
  case isFalse=>cases hm
  rename_i bn
  obtain⟨c1,c2,c3,c4⟩:=bn
  cases FW:fw (fun f:Field=>zD P f.type) fs.toList with
  |none=>rw[FW]at hm;cases hm
  | some ks =>
   rw[FW]at hm
   simp only[dK,fm]at hm
   injection hm with e1 e2 e3 e4
   subst e1 e2 e3 e4
   simp only[oL]at he
   split at he
   ·rename_i p q h1 h2
    rw[h1]at rx
    rw[h2]at ry
    obtain⟨xs,ex,lx,_,qx⟩:=rx.xn
    obtain⟨ys,ey,ly,_,qy⟩:=ry.xn
    rw[ex,ey]at fin⊢
    have Bi:P.fieldsOf t=fs:=by simp[Program.fieldsOf,hu]
    refine fin (run_eqGuard_agg w op t x y xs ys c2) ?_ ⟨by simp,by simp,by simp,by simp⟩
    unfold Op.equal Op.maxDepth
    rw[run_equalIn_struct w 9999 t xs ys (by rw[Bi];exact hu) c1,Bi]
    refine Vl 9998 (xs:=xs) (ys:=ys) fs.toList ks p q 0 c (fun f hf=>?_) FW ?_ (by omega) (by omega) (fun i hi=>by simpa using qx i hi) (fun i hi=>by simpa using qy i hi) he
    ·have:=jx.1 c3 f hf
     simpa using this
    ·rw[c4,zR]
     simp
   ·cases he
 ·-- pointers
  rename_i e hu
  injection hm with hm
  injection hm with e1 e2 e3 e4
  subst e1 e2 e3 e4
  simp only[oL]at he
  obtain⟨p,q,hp,hq,pf,rfl⟩:=Jf he
  obtain⟨u,ex,PD⟩:=YT rx hp
  obtain⟨v,ey,nD⟩:=YT ry hq
  rw[ex,ey]at fin⊢
  have:=ae7 (P:=P) (w:=w) (a:=u) (b:=v) hu (by rcases pf with rfl|rfl<;>simp_all)
  rw[PD,nD]at this
  exact fin (yz (by simp) (by simp)) this ⟨by simp,by simp,by simp,by simp⟩
 ·-- interfaces
  rename_i ms hu
  split at hm
  case isFalse=>cases hm
  rename_i OE
  injection hm with hm
  injection hm with e1 e2 e3 e4
  subst e1 e2 e3 e4
  simp only[oL]at he
  obtain⟨p,q,hp,hq,pf,rfl⟩:=Jf he
  rcases YS rx hp with⟨rfl,ex⟩|⟨rfl,tx,zx,ex⟩<;>rcases YS ry hq with⟨rfl,ey⟩|⟨rfl,ty,zy,ey⟩<;>rw[ex,ey]at fin⊢
  ·exact fin (NK cd OE (by simp)) (uJ fun d=>by simp[Op.equalIn,run_underlying hu]) ⟨by simp,by simp,by simp,by simp⟩
  ·exact fin (NK cd OE (by simp)) (uJ fun d=>by simp[Op.equalIn,run_underlying hu]) ⟨by simp,by simp,by simp,by simp⟩
  ·exact fin (NK cd OE (by simp)) (uJ fun d=>by simp[Op.equalIn,run_underlying hu]) ⟨by simp,by simp,by simp,by simp⟩
  ·rcases pf with h|h<;>cases h
 ·-- slices
  rename_i e hu
  injection hm with hm
  injection hm with e1 e2 e3 e4
  subst e1 e2 e3 e4
  simp only[oL]at he
  obtain⟨p,q,hp,hq,pf,rfl⟩:=Jf he
  obtain⟨u,n,m,ex,PD⟩:=YU rx hp
  obtain⟨v,n',m',ey,nD⟩:=YU ry hq
  rw[ex,ey]at fin⊢
  have:=ae8 (P:=P) (w:=w) (a:=u) (b:=v) (n:=n) (m:=m) (n':=n') (m':=m') hu (by rcases pf with rfl|rfl<;>simp_all)
  rw[PD,nD]at this
  exact fin (yz (by simp) (by simp)) this ⟨by simp,by simp,by simp,by simp⟩
 ·-- functions
  rename_i hu
  injection hm with hm
  injection hm with e1 e2 e3 e4
  subst e1 e2 e3 e4
  simp only[oL]at he
  obtain⟨p,q,hp,hq,pf,rfl⟩:=Jf he
  rcases YR rx hp with⟨rfl,ex⟩|⟨rfl,fx,a1,a2,ex⟩<;>rcases YR ry hq with⟨rfl,ey⟩|⟨rfl,fy,b1,b2,ey⟩<;>rw[ex,ey]at fin⊢
  ·exact fin (yz (by simp) (by simp)) (uJ fun d=>by simp[Op.equalIn,run_underlying hu]) ⟨by simp,by simp,by simp,by simp⟩
  ·exact fin (yz (by simp) (by simp)) (uJ fun d=>by simp[Op.equalIn,run_underlying hu]) ⟨by simp,by simp,by simp,by simp⟩
  ·exact fin (yz (by simp) (by simp)) (uJ fun d=>by simp[Op.equalIn,run_underlying hu]) ⟨by simp,by simp,by simp,by simp⟩
  ·rcases pf with h|h<;>cases h
end
end Go.Ax
/-
  The other operations without a call: each one's run (2).
-/
namespace Go.Ax
open Go.RowKit
section
variable{P:Program} {B0:Nat} {w0:World} {G:aG} {k nl:Nat} {w:World} {s:ae}
theorem aqv {c a b v:AV} {x y z:Value} (hx:Rel G k nl c x) (hy:Rel G k nl a y) (hz:Rel G k nl b z) (h:GK c a b=some v):
  ∃t:Bool,x=.bool t∧Rel G k nl v (if t then y else z):=by
 unfold GK at h
 split at h
 ·rename_i t
  obtain rfl:=hx.gl
  injection h with h
  subst h
  refine⟨t,rfl,?_⟩
  cases t
  ·exact hz
  ·exact hy
 ·cases h
theorem as8 {op:UnOp} {a v:AV} {x:Value} (hx:Rel G k nl a x) (h:unOp op a=some v):∃z,(Op.unary op x).run P w=.ok z w∧Rel G k nl v z:=by
 unfold unOp at h
 split at h
 ·obtain rfl:=hx.gl
  cases op<;>simp only at h<;>first
   |(injection h with h;subst h;exact⟨_,by simp[Op.unary],.val _ rfl⟩)
   |cases h
 ·obtain rfl:=hx.gl
  cases op<;>simp only at h<;>first
   |(injection h with h;subst h;exact⟨_,by simp[Op.unary,Op.intArith],.val _ rfl⟩)
   |cases h
 ·cases h
theorem aoY {a v:AV} {x:Value} (hx:Rel G k nl a x) (h:zz a=some v):Rel G k nl v x∧(x≠.pointer none∧x≠.nilIface∧x≠.nilFunc∧∀nm f c,x≠.func (.method nm) f c):=by
 unfold zz at h
 split at h
 ·injection h with h;subst h;obtain⟨_,_,rfl,_⟩:=hx.sC;exact⟨hx,by simp,by simp,by simp,by simp⟩
 ·injection h with h;subst h;obtain⟨_,_,_,rfl,_⟩:=hx.zp;exact⟨hx,by simp,by simp,by simp,by simp⟩
 ·injection h with h;subst h;obtain⟨_,_,rfl,_⟩:=hx.Bx;exact⟨hx,by simp,by simp,by simp,by simp⟩
 ·injection h with h;subst h;obtain⟨_,rfl,_⟩:=hx.PV;exact⟨hx,by simp,by simp,by simp,by simp⟩
 ·injection h with h;subst h;obtain⟨_,rfl,_⟩:=hx.PU;exact⟨hx,by simp,by simp,by simp,by simp⟩
 ·cases h
theorem Fa {cs ds:List AV} {arr:Array Value} (h:closeAll cs=some ds) (hl:cs.length≤arr.size) (br:∀c,c∈cs→c.bt=true) (hR:∀i (hi:i<cs.length),Rel G k nl cs[i] (arr.getD i Go.undef)):
  ds.length=cs.length∧(∀c,c∈ds→c.bt=true)∧∀i (hi:i<ds.length),bJ G.I ds[i] (arr.getD i Go.undef):=by
 let _:=hl
 obtain⟨h1,h2⟩:=I4 h
 refine⟨h1,fun c hc=>?_,fun i hi=>(hR i (by omega)).close (h2 i (by omega) hi)⟩
 obtain⟨i,hi,rfl⟩:=nN hc
 exact Nx (h2 i (by omega) hi) (br _ (gv _))
theorem akp {t:TypeId} {a v:AV} {x:Value} (hx:Rel G k nl a x) (h:Kj t a=some v):Rel G k nl v (.iface t x):=by
 unfold Kj at h
 split at h
 ·rename_i cs
  obtain⟨arr,rfl,hl,br,hR⟩:=hx.xn
  cases hc:closeAll cs with
  |none=>rw[hc]at h;cases h
  |some ds=>
   rw[hc]at h
   injection h with h
   subst h
   obtain⟨h1,h2,h3⟩:=Fa hc (Sk hl.symm) br hR
   exact .cl (.iface (.agg (by rw[hl,h1]) h2 h3))
 ·split at h
  ·injection h with h
   subst h
   exact .cl (.iface (hx.yw (by assumption)))
  ·cases h
theorem aoI {f:FuncId} {first caps:List Operand} {af ac:List aF} {ρ:Nat→AV} {a:Act} (hR:ev G k nl ρ a) (hf:fw dt first=some af) (hc:fw dt caps=some ac) (aT:(af.map (aE ρ)).all AV.vm=true):
  Rel G k nl (.fn f (af.map (aE ρ)) (ac.map (aE ρ))) (.func (.func f) (first.toArray.map a.eval) (caps.toArray.map a.eval)):=by
 obtain⟨l1,h1⟩:=vo hf
 obtain⟨l2,h2⟩:=vo hc
 refine .fn (by simp[l1]) (by simp[l2]) (fun i hi=>?_) (fun i hi=>?_)
 ·have bD:i<af.length:=by simpa using hi
  have FP:i<first.length:=by omega
  have:=cZ (h1 i FP bD) hR
  have tC:(aE ρ af[i]).vm=true:=jx.1 aT _ (List.mem_map_of_mem (gv bD))
  have e:(first.toArray.map a.eval).getD i Go.undef=a.eval first[i]:=by simp[Array.getD,FP]
  rw[e]
  simp only[List.getElem_map]
  exact this.aeo tC
 ·have bD:i<ac.length:=by simpa using hi
  have FP:i<caps.length:=by omega
  have:=cZ (h2 i FP bD) hR
  have e:(caps.toArray.map a.eval).getD i Go.undef=a.eval caps[i]:=by simp[Array.getD,FP]
  rw[e]
  simpa using this
theorem af1 {t:TypeId} {fs:Array Field} {f:Field} {i n:Nat} {g:Bool} {a v:AV} {x:Value} (ht:P.underlying t=some (.struct fs)) (hf:fs[i]? =some f) (hg:tM P f.type=some g) (hn:cK P f.type=some n) (hx:Rel G k nl a x)
  (h:Fl g n f.offset a=some v):∃z,(Instr.field t x i).run P w=.ok z w∧Rel G k nl v z:=by
 unfold Fl at h
 split at h
 ·rename_i cs
  obtain⟨arr,rfl,hl,br,hR⟩:=hx.xn
  rcases QD (f:=fun i=>arr.getD i Go.undef) h br hR with⟨rfl,hle,hv⟩|⟨rfl,aC,hv⟩
  ·refine⟨_,?_,hv⟩
   simp only[Instr.field,Sem.run_bind,run_underlying ht,Result.andThen_ok,hf,asAgg,Sem.run_pure,Go.part,zq hg,bB,ju hn]
   congr 2
   apply Array.ext
   ·simp;omega
   ·intro j h1 h2
    simp at h1 h2⊢
    have:f.offset+j<arr.size:=by omega
    simp[Array.getD,this]
  ·refine⟨_,?_,hv⟩
   have:f.offset<arr.size:=by omega
   simp only[Instr.field,Sem.run_bind,run_underlying ht,Result.andThen_ok,hf,asAgg,Sem.run_pure,Go.part,zq hg,ej,cE]
   simp[Array.getD,this]
 ·cases h
theorem afk {i:Nat} {a v:AV} {x:Value} (hx:Rel G k nl a x) (h:yB i a=some v):∃z,(Instr.extract x i).run P w=.ok z w∧Rel G k nl v z:=by
 unfold yB at h
 split at h
 ·rename_i vs
  obtain⟨arr,rfl,hl,hR⟩:=hx.akH
  obtain⟨h1,h2⟩:=bd.1 h
  have:=hR i h1
  rw[h2]at this
  refine⟨_,?_,this⟩
  have hi:i<arr.size:=by omega
  simp[Instr.extract,hi,Array.getD]
 ·cases h
theorem Yv {t:TypeId} {ty:TypeId} {str:Bool} {a v:AV} {x:Value} (ht:(str=false∧∃e,P.underlying t=some (.slice e))∨(str=true∧P.underlying t=some .string)) (hx:Rel G k nl a x) (h:mO str a=some v):
  ∃ z, (Builtin.len_ #[t] ty #[x]).run P w = .ok z w ∧ Rel G k nl v z := by
 unfold mO at h
 rcases ht with⟨rfl,e,ht⟩|⟨rfl,ht⟩
 ·split at h
  ·injection h with h
   subst h
   rcases hx.iG with⟨_,rfl,rfl⟩|⟨_,p,cap,rfl,_⟩
   ·exact⟨_,by simp[Builtin.len_,run_underlying ht,goInt],.val _ rfl⟩
   ·exact⟨_,by simp[Builtin.len_,run_underlying ht,goInt],.val _ rfl⟩
  ·injection h with h
   subst h
   obtain⟨blk,gr,rc,o0,rfl,_⟩:=hx.l4
   exact⟨_,by simp[Builtin.len_,run_underlying ht,goInt],.val _ rfl⟩
  ·cases h
  ·cases h
 ·split at h
  ·cases h
  ·cases h
  ·injection h with h
   subst h
   obtain rfl:=hx.gl
   exact⟨_,by simp[Builtin.len_,run_underlying ht,goInt],.val _ rfl⟩
  ·cases h
theorem td {x:AV} {y:Value} {m n:Nat} (hx:Rel G k nl x y) (h:asNat x m=some n):∃kd z,y=.int kd z∧0≤z∧z≤m∧z.toNat=n:=by
 unfold asNat at h
 split at h
 ·obtain rfl:=hx.gl
  split at h
  ·rename_i hc
   injection h with h
   exact⟨_,_,rfl,hc.1,hc.2,h⟩
  ·cases h
 ·cases h
theorem LZ {x:AV} {m n:Nat} (h:asNat x m=some n):n≤m:=by
 unfold asNat at h
 split at h
 ·split at h
  ·injection h with h;omega
  ·cases h
 ·cases h
def jN (G:aG) (k nl:Nat):Option AV→Option Value→Prop
 |none,none=>True
 |some x,some y=>Rel G k nl x y
 |_,_=>False
theorem ac6 {isSlice:Bool} {len cap:Nat} {lo hi:Option AV} {gM bD:Option Value} {h l:Nat} (ez:jN G k nl lo gM) (ib:jN G k nl hi bD)
  (eh:lk hi false cap len=some h) (el:kg lo h=some l):
  (Instr.sliceBounds isSlice len cap gM bD none).run P w=.ok (l,h,cap) w:=by
 cases hi with
 | none =>
  cases bD with
  |some=>exact ib.elim
  | none =>
   simp only[lk,ej,cE,fm]at eh
   subst eh
   cases lo with
   | none =>
    cases gM with
    |some=>exact ez.elim
    |none=>
     simp only[kg,fm]at el
     subst el
     simp[Instr.sliceBounds]
   | some x =>
    cases gM with
    |none=>exact ez.elim
    |some y=>
     obtain⟨kd,z,rfl,z0,z1,rfl⟩:=td ez el
     simp[Instr.sliceBounds,run_sliceBound w kd z _ _ z0 z1]
 | some q =>
  cases bD with
  |none=>exact ib.elim
  | some p =>
   obtain⟨kd,z,rfl,z0,z1,rfl⟩:=td ib eh
   cases lo with
   | none =>
    cases gM with
    |some=>exact ez.elim
    |none=>
     simp only[kg,fm]at el
     subst el
     simp[Instr.sliceBounds,run_sliceBound w kd z _ _ z0 z1]
   | some x =>
    cases gM with
    |none=>exact ez.elim
    |some y=>
     obtain⟨sD,z',rfl,RF,RG,rfl⟩:=td ez el
     simp[Instr.sliceBounds,run_sliceBound w kd z _ _ z0 z1,run_sliceBound w sD z' _ _ RF RG]
theorem ac7 {isSlice:Bool} {len cap:Nat} {lo:Option AV} {hi mx:AV} {gM:Option Value} {bD jr:Value} {m h l:Nat} (ez:jN G k nl lo gM) (ib:Rel G k nl hi bD) (j9:Rel G k nl mx jr) (em:asNat mx cap=some m)
  (eh:asNat hi m=some h) (el:kg lo h=some l):
  (Instr.sliceBounds isSlice len cap gM (some bD) (some jr)).run P w=.ok (l,h,m) w:=by
 obtain⟨km,zm,rfl,zm0,zm1,rfl⟩:=td j9 em
 obtain⟨kd,z,rfl,z0,z1,rfl⟩:=td ib eh
 cases lo with
 | none =>
  cases gM with
  |some=>exact ez.elim
  |none=>
   simp only[kg,fm]at el
   subst el
   simp[Instr.sliceBounds,run_sliceBound w km zm _ _ zm0 zm1,run_sliceBound w kd z _ _ z0 z1]
 | some x =>
  cases gM with
  |none=>exact ez.elim
  |some y=>
   obtain⟨sD,z',rfl,RF,RG,rfl⟩:=td ez el
   simp[Instr.sliceBounds,run_sliceBound w km zm _ _ zm0 zm1,run_sliceBound w kd z _ _ z0 z1,run_sliceBound w sD z' _ _ RF RG]
theorem fM.cut {I:fV} {es:Nat} {xs:List (List AV)} {a:Addr} {cap l h:Nat} (hx:fM I es xs a cap) (hl:l≤h) (hh:h≤xs.length) (m:Nat) (hm:h≤m) (hmc:m≤cap) (q:Addr) (hq:q=if m=l then a else a.add (l*es)):
  fM I es ((xs.take h).drop l) q (m-l):=by
 cases hx with
 |empty=>
  have h0:h=0:=by simpa using hh
  have l0:l=0:=by omega
  have m0:m=0:=by omega
  subst h0 l0 m0
  exact .empty (.inl rfl)
 | @slice _ _ _ blk off _ f ho hc dR br hI hR =>
  have hlen:((xs.take h).drop l).length=h-l:=by simp;omega
  have dS:∀i (hi:i<((xs.take h).drop l).length),((xs.take h).drop l)[i]=xs[l+i]'(by omega):=fun i hi=>by simp
  have iV:∀r,r∈(xs.take h).drop l→r∈xs:=fun r hr=>xT (Ht hr)
  have e2:q=⟨blk,(if m=l then off else off+l*es),none⟩:=by
   rw[hq]
   split
   ·rfl
   ·rw[gZ]
  rw[e2]
  refine bJ.slice (fun i j=>f (l+i) j) (.inl rfl) (by omega) (fun r hr=>dR r (iV r hr)) (fun r hr=>br r (iV r hr)) (fun i hi j hj=>?_) (fun i hi j hj=>?_)
  ·have aB:m≠l:=by omega
   have bD:l+i<xs.length:=by omega
   have dH:j<(xs[l+i]).length:=by simp only[dS i hi]at hj;exact hj
   rw[aq aB]
   have:=hI (l+i) bD j dH
   rw[gw]at this
   rw[←this]
   congr 1
   omega
  ·have bD:l+i<xs.length:=by omega
   have dH:j<(xs[l+i]).length:=by simp only[dS i hi]at hj;exact hj
   have:=hR (l+i) bD j dH
   simp only[dS i hi]
   exact this
end
end Go.Ax
/-
  The other operations without a call: slices, elements, structs and conversions.
-/
namespace Go.Ax
open Go.RowKit
section
variable{P:Program} {B0:Nat} {w0:World} {G:aG} {k nl:Nat} {w:World} {s:ae}
theorem S1 {x:AV} {m m' n:Nat} (h:asNat x m=some n) (hm:m≤m'):asNat x m'=some n:=by
 unfold asNat at h⊢
 split at h
 ·split at h
  ·rename_i hc
   rw[ak ⟨hc.1,by omega⟩]
   exact h
  ·cases h
 ·cases h
theorem E9 (es:Nat):∀(n:Nat) (cs:List AV),n*es≤cs.length→(chunks es n cs).length=n∧(∀r,r∈chunks es n cs→r.length=es)∧(∀r,r∈chunks es n cs→∀c,c∈r→c∈cs)∧
  ∀i (hi:i<(chunks es n cs).length) j (hj:j<(chunks es n cs)[i].length),∃h:i*es+j<cs.length,(chunks es n cs)[i][j]=cs[i*es+j]
 |0,cs,_=>by simp[chunks]
 | n + 1, cs, h => by
  have hs:(n+1)*es=n*es+es:=by rw[gw,rA]
  obtain⟨a1,a2,a3,a4⟩:=E9 es n (cs.drop es) (by simp;omega)
  refine⟨by simp[chunks,a1],fun r hr=>?_,fun r hr c hc=>?_,fun i hi j hj=>?_⟩
  ·simp only[chunks,eC]at hr
   rcases hr with rfl|hr
   ·simp;omega
   ·exact a2 r hr
  ·simp only[chunks,eC]at hr
   rcases hr with rfl|hr
   ·exact xT hc
   ·exact Ht (a3 r hr c hc)
  ·cases i with
   |zero=>
    simp only[chunks,xQ,fW]at hj⊢
    exact⟨by omega,by simp⟩
   |succ i=>
    simp only[chunks,Hp,dP]at hi hj⊢
    obtain⟨h1,h2⟩:=a4 i (by omega) j hj
    simp only[sX]at h1
    have e:(i+1)*es+j=es+(i*es+j):=by rw[gw,rA];omega
    refine⟨by omega,?_⟩
    rw[h2,List.getElem_drop]
    simp only[e]
theorem QY {I:fV} {cs:List AV} {es n cap blk o0 off:Nat} {f:Nat→Value} (br:∀c,c∈cs→c.bt=true) (hI:∀i,i<cs.length→I blk (o0+i)=some (f i)) (hR:∀i (hi:i<cs.length),bJ I cs[i] (f i))
  (hle:off+n*es≤cs.length) (hc:n≤cap):fM I es (chunks es n (cs.drop off)) ⟨blk,o0+off,none⟩ cap:=by
 obtain⟨a1,a2,a3,a4⟩:=E9 es n (cs.drop off) (by simp;omega)
 have:fM I es (chunks es n (cs.drop off)) ⟨blk,o0+off,none⟩ cap:=by
  refine bJ.slice (fun i j=>f (off+(i*es+j))) (.inl rfl) (by omega) a2 (fun r hr c hc=>br c (Ht (a3 r hr c hc))) (fun i hi j hj=>?_) (fun i hi j hj=>?_)
  ·obtain⟨h1,_⟩:=a4 i hi j hj
   simp only[sX]at h1
   have:=hI (off+(i*es+j)) (by omega)
   rw[←this]
   congr 1
   omega
  ·obtain⟨h1,h2⟩:=a4 i hi j hj
   rw[h2,List.getElem_drop]
   exact hR _ _
 exact this
theorem aaS {I:fV} {es:Nat} {xs:List (List AV)} {a:Addr} {n:Nat} (hn:xs.length=n) (h:bJ I (.slice .any es xs) (.slice (some a) n n)):bJ I (.slice .full es xs) (.slice (some a) n n):=by
 subst hn
 generalize hN:xs.length=N at h
 cases h with
 |slice f ho hc dR br hI hR=>exact .slice f (.inr ⟨rfl,rfl⟩) hc dR br hI hR
 |empty=>exact .empty (.inr rfl)
def abK (P:Program) (t:TypeId):Cr→Prop
 |.str=>P.underlying t=some .string
 |.sl es=>∃e,P.underlying t=some (.slice e)∧cK P e=some es
 |.arr n es=>∃e,P.underlying t=some (.array n e)∧cK P e=some es
theorem aoq {lo:Option AV} {h l:Nat} (e:kg lo h=some l):l≤h:=by
 cases lo with
 |none=>simp only[kg,fm]at e;omega
 |some y=>exact LZ e
theorem aoO {mx:Option AV} {cap m:Nat} (e:qY mx cap=some m):m≤cap:=by
 cases mx with
 |none=>simp only[qY,fm]at e;omega
 |some y=>exact LZ e
theorem Al {isSlice:Bool} {len cap cap':Nat} {lo hi mx:Option AV} {gM bD jr:Option Value} {m h l:Nat} (ez:jN G k nl lo gM) (ib:jN G k nl hi bD) (j9:jN G k nl mx jr)
  (fq:len≤cap) (WO:cap≤cap') (em:qY mx cap=some m) (eh:lk hi mx.isSome m len=some h) (el:kg lo h=some l):
  l≤h∧h≤m∧m≤cap∧(Instr.sliceBounds isSlice len cap' gM bD jr).run P w=.ok (l,h,if mx.isSome then m else cap') w:=by
 have hm:=aoO em
 have hl:=aoq el
 have hh:h≤m:=by
  cases hi with
  |none=>
   cases mx with
   |none=>simp only[lk,qY,s7,ej,cE,fm]at eh em;omega
   |some=>simp[lk]at eh
  |some y=>exact LZ eh
 refine⟨hl,hh,hm,?_⟩
 cases mx with
 | none =>
  cases jr with
  |some=>exact j9.elim
  |none=>
   simp only[qY,fm]at em
   subst em
   simp only[s7,ej,cE]
   refine ac6 ez ib ?_ el
   cases hi with
   |none=>exact eh
   |some y=>exact S1 eh WO
 | some mv =>
  cases jr with
  |none=>exact j9.elim
  | some mv' =>
   cases hi with
   |none=>simp[lk]at eh
   | some hv =>
    cases bD with
    |none=>exact ib.elim
    |some nD=>
     simp only[xW,bB]
     exact ac7 ez ib j9 (S1 em WO) eh el
theorem asG {t:TypeId} {q:ByteArray} {x:Value} {v:AV} {lo hi mx:Option AV} {gM bD jr:Option Value} (ht:P.underlying t=some .string)
  (hx:Rel G k nl (.v (.string q)) x) (ez:jN G k nl lo gM) (ib:jN G k nl hi bD) (j9:jN G k nl mx jr) (h:iI .str (.v (.string q)) lo hi mx=some v):
  ∃z,(Instr.sliceAt t x gM bD jr).run P w=.ok z w∧Rel G k nl v z:=by
 obtain rfl:=hx.gl
 simp only[iI]at h
 split at h
 ·cases h
 rename_i hs
 obtain⟨hh,eh,h⟩:=cX.1 h
 obtain⟨l,el,rfl⟩:=aU.1 h
 have hn:mx=none:=by cases mx with|none=>rfl|some=>simp at hs
 subst hn
 obtain⟨h1,h2,h3,hb⟩:=Al (P:=P) (w:=w) (isSlice:=false) (len:=q.size) (cap:=q.size) (cap':=q.size) ez ib j9 (aH _) (aH _) rfl eh el
 have iW:jr=none:=by cases jr with|none=>rfl|some=>exact j9.elim
 subst iW
 refine⟨_,?_,.val _ rfl⟩
 simp only[Instr.sliceAt,Sem.run_bind,run_underlying ht,Result.andThen_ok,Instr.slice,s7,ej,cE,Sem.run_pure]
 simp[hb]
theorem asF {t e:TypeId} {e0:Nat} {o:Own} {es:Nat} {xs:List (List AV)} {x:Value} {v:AV} {lo hi mx:Option AV} {gM bD jr:Option Value} (ht:P.underlying t=some (.slice e)) (bR:cK P e=some e0)
  (hx:Rel G k nl (.slice o es xs) x) (ez:jN G k nl lo gM) (ib:jN G k nl hi bD) (j9:jN G k nl mx jr) (h:iI (.sl e0) (.slice o es xs) lo hi mx=some v):
  ∃z,(Instr.sliceAt t x gM bD jr).run P w=.ok z w∧Rel G k nl v z:=by
 simp only[iI]at h
 split at h
 case isFalse=>cases h
 rename_i FM
 obtain⟨m,em,h⟩:=cX.1 h
 obtain⟨hh,eh,h⟩:=cX.1 h
 obtain⟨l,el,rfl⟩:=aU.1 h
 rcases hx.iG with⟨rfl,rfl,rfl⟩|⟨aB,p,cap,rfl,qQ,fq,l3,wU⟩
 ·obtain⟨h1,h2,h3,hb⟩:=Al (P:=P) (w:=w) (isSlice:=true) (len:=0) (cap:=0) (cap':=0) ez ib j9 (aH _) (aH _) em eh el
  have h0:hh=0:=by simp at h3;omega
  have l0:l=0:=by omega
  have m0:m=0:=by simp at h3;omega
  subst h0 l0 m0
  have hv:Rel G k nl (.slice .aA es []) (.slice none 0 0):=.cl .aA
  have lu:(.slice (xD .aA mx.isSome (0==0&&0==([]:List (List AV)).length) (0==0&&decide (0<0))) es (([].take 0).drop 0):AV)=.slice .aA es []:=by
   cases mx<;>simp[xD,GZ,Own.isNil]
  refine⟨.slice none 0 0,?_,by rw[lu];exact hv⟩
  simp only[Instr.sliceAt,Sem.run_bind,run_underlying ht,Result.andThen_ok,Instr.slice,hb]
  cases mx<;>simp[ju bR]
 ·have heq:es=e0:=by
   rcases FM with h0|h0
   ·cases o<;>simp_all [Own.isNil]
   ·exact h0
  subst heq
  obtain⟨h1,h2,h3,hb⟩:=Al (P:=P) (w:=w) (isSlice:=true) (len:=xs.length) (cap:=xs.length) (cap':=cap) ez ib j9 (aH _) fq em eh el
  have hlen:((xs.take hh).drop l).length=hh-l:=by simp;omega
  refine⟨.slice (some (if(if mx.isSome then m else cap)=l then p else p.add (l*es))) (hh-l) ((if mx.isSome then m else cap)-l),?_,?_⟩
  ·simp only[Instr.sliceAt,Sem.run_bind,run_underlying ht,Result.andThen_ok,Instr.slice,hb,ju bR,dK,Sem.run_pure]
   congr 2
   split<;>split<;>rfl
  ·generalize hM:(if mx.isSome then m else cap)=M
   have hMh:hh≤M:=by rw[←hM];split<;>omega
   have sb:bJ G.I (.slice .any es ((xs.take hh).drop l)) (.slice (some (if M=l then p else p.add (l*es))) (hh-l) (M-l)):=by
    have:=fM.cut l3 h1 (by omega) M hMh (by rw[←hM];split<;>omega) _ rfl
    unfold fM at this
    rwa [hlen]at this
   cases mx with
   | none =>
    simp only[s7,ej,cE]at hM
    subst hM
    simp only[xD,s7,ej,cE]
    by_cases hw:(l==0&&hh==xs.length)=true
    ·simp only[dB,Ni]at hw
     obtain⟨rfl,rfl⟩:=hw
     have e1:(xs.take xs.length).drop 0=xs:=by simp
     have e2:(if cap=0 then p else p.add (0*es))=p:=by
      split
      ·rfl
      ·rw[vV (qQ (by omega)),gZ];simp
     rw[e1,e2]
     simp only[Sv]
     cases o with
     |aA=>exact absurd rfl aB
     |any=>exact hx
     |full=>exact .cl l3
     |tok d g=>simpa[GZ]using hx
    ·have ho:GZ o (l==0&&hh==xs.length)=.any:=by
      cases o with
      |aA=>exact absurd rfl aB
      |any=>rfl
      |full=>rfl
      |tok d g=>simp only[GZ];rw[aq hw]
     rw[ho]
     exact .cl sb
   | some mv =>
    simp only[xW,bB]at hM
    subst hM
    have w8:o.isNil=false:=by cases o<;>simp_all [Own.isNil]
    simp only[xD,xW,bB,w8,ej,cE]
    by_cases hw:(hh==m&&decide (0<m))=true
    ·rw[ak hw]
     simp only[dB,Ni]at hw
     obtain⟨rfl,_⟩:=hw
     exact .cl (aaS hlen sb)
    ·rw[aq hw]
     exact .cl sb
theorem asE {t e:TypeId} {e0 d b off es n cap:Nat} {x:Value} {v:AV} {lo hi mx:Option AV} {gM bD jr:Option Value} (ht:P.underlying t=some (.slice e)) (bR:cK P e=some e0)
  (hx:Rel G k nl (.aO d b off es n cap) x) (ez:jN G k nl lo gM) (ib:jN G k nl hi bD) (j9:jN G k nl mx jr) (h:iI (.sl e0) (.aO d b off es n cap) lo hi mx=some v):
  ∃z,(Instr.sliceAt t x gM bD jr).run P w=.ok z w∧Rel G k nl v z:=by
 simp only[iI]at h
 split at h
 case isFalse=>cases h
 rename_i FM
 subst FM
 obtain⟨m,em,h⟩:=cX.1 h
 obtain⟨hh,eh,h⟩:=cX.1 h
 obtain⟨l,el,rfl⟩:=aU.1 h
 obtain⟨blk,gr,rc,o0,rfl,hd,hg,cw,hn,hc,hw,ho⟩:=hx.l4
 obtain⟨h1,h2,h3,hb⟩:=Al (P:=P) (w:=w) (isSlice:=true) (len:=n) (cap:=max n cap) (cap':=rc) ez ib j9 (Cm _ _) (Nat.max_le.2 ⟨hn,hc⟩) em eh el
 have O0:m≤if mx.isSome then m else rc:=by
  split
  ·exact aH _
  ·exact kQ h3 (Nat.max_le.2 ⟨hn,hc⟩)
 generalize hM:(if mx.isSome then m else rc)=M at hb O0
 refine⟨.slice (some ⟨blk,if M=l then o0 else o0+l*es,none⟩) (hh-l) (M-l),?_,.aO gr hd hg cw (LD (kQ h2 O0) l) (LD O0 l) (fun e1 e2=>by omega) (fun hp=>?_)⟩
 ·simp only[Instr.sliceAt,Sem.run_bind,run_underlying ht,Result.andThen_ok,Instr.slice,hb,ju bR,dK,Sem.run_pure,gZ]
  congr 2
  split<;>rfl
 ·have Xc:l<m:=by omega
  have h0:o0=off:=ho (by omega)
  rw[aq (by omega),aq (by omega),h0]
theorem asD {t e:TypeId} {N es:Nat} {a v:AV} {x:Value} {lo hi mx:Option AV} {gM bD jr:Option Value} (ht:P.underlying t=some (.array N e)) (bR:cK P e=some es)
  (hx:Rel G k nl a x) (ez:jN G k nl lo gM) (ib:jN G k nl hi bD) (j9:jN G k nl mx jr) (h:iI (.arr N es) a lo hi mx=some v):
  ∃z,(Instr.sliceAt t x gM bD jr).run P w=.ok z w∧Rel G k nl v z:=by
 unfold iI at h
 split at h<;>try contradiction
 ·rename_i n0 es0 d b off hk
  injection hk with nA iD
  subst nA iD
  split at h
  ·cases h
  rename_i hs
  have hn:mx=none:=by cases mx with|none=>rfl|some=>simp at hs
  subst hn
  obtain⟨hh,eh,h⟩:=cX.1 h
  obtain⟨l,el,rfl⟩:=aU.1 h
  obtain⟨blk,gr,rfl,hd,hg,cw⟩:=hx.sC
  obtain⟨h1,h2,h3,hb⟩:=Al (P:=P) (w:=w) (isSlice:=false) (len:=N) (cap:=N) (cap':=N) ez ib j9 (aH _) (aH _) rfl eh el
  refine⟨_,?_,.aO gr hd hg cw (LD h2 l) (aH _) (fun e1 e2=>by omega) (fun _=>rfl)⟩
  simp only[Instr.sliceAt,Sem.run_bind,run_underlying ht,Result.andThen_ok,Instr.sureAddr,hb,ju bR,Sem.run_pure,gZ,s7,ej,cE]
  congr 3
  split<;>rfl
 ·rename_i n0 es0 cs off hk
  injection hk with nA iD
  subst nA iD
  split at h
  ·cases h
  rename_i hs
  have hn:mx=none:=by cases mx with|none=>rfl|some=>simp at hs
  subst hn
  obtain⟨hh,eh,h⟩:=cX.1 h
  obtain⟨l,el,h⟩:=cX.1 h
  split at h
  case isFalse=>cases h
  rename_i hle
  injection h with h
  subst h
  obtain⟨blk,o0,f,rfl,br,hI,hR⟩:=hx.zp
  obtain⟨h1,h2,h3,hb⟩:=Al (P:=P) (w:=w) (isSlice:=false) (len:=N) (cap:=N) (cap':=N) ez ib j9 (aH _) (aH _) rfl eh el
  have hmul:l*es+(hh-l)*es≤N*es:=by
   rw[←gw]
   exact oC _ (by omega)
  have cg:=QY (cap:=N-l) br hI hR (es:=es) (n:=hh-l) (off:=off+l*es) (by omega) (LD h2 l)
  have hlen:=(E9 es (hh-l) (cs.drop (off+l*es)) (by simp;omega)).1
  refine⟨.slice (some (if N=l then⟨blk,o0+off,none⟩else⟨blk,o0+(off+l*es),none⟩)) (hh-l) (N-l),?_,?_⟩
  ·simp only[Instr.sliceAt,Sem.run_bind,run_underlying ht,Result.andThen_ok,Instr.sureAddr,hb,ju bR,Sem.run_pure,gZ,s7,ej,cE]
   congr 3
   split
   ·rfl
   ·congr 1;omega
  ·by_cases hN:N=l
   ·subst hN
    have h0:hh=N:=by omega
    subst h0
    simp only[HE,chunks,bB]
    exact .cl (.slice (xs:=[]) (fun _ _=>Go.undef) (.inl rfl) (aH _) (fun r hr=>by cases hr) (fun r hr=>by cases hr) (fun i hi=>absurd hi (da _)) (fun i hi=>absurd hi (da _)))
   ·rw[aq hN]
    have:=Rel.cl (G:=G) (k:=k) (nl:=nl) cg
    unfold fM at cg
    rw[hlen]at cg
    exact .cl cg
theorem Rn {t:TypeId} {kd:Cr} {a v:AV} {x:Value} {lo hi mx:Option AV} {gM bD jr:Option Value} (ht:abK P t kd)
  (hx:Rel G k nl a x) (ez:jN G k nl lo gM) (ib:jN G k nl hi bD) (j9:jN G k nl mx jr) (h:iI kd a lo hi mx=some v):
  ∃z,(Instr.sliceAt t x gM bD jr).run P w=.ok z w∧Rel G k nl v z:=by
 cases kd with
 | str =>
  cases a with
  |v q=>
   cases q with
   |string q=>exact asG ht hx ez ib j9 h
   |_=>simp[iI]at h
  |_=>simp[iI]at h
 |sl e0=>
  obtain⟨e,ht,hs⟩:=ht
  cases a with
  |slice o es xs=>exact asF ht hs hx ez ib j9 h
  |aO d b off es n cap=>exact asE ht hs hx ez ib j9 h
  |_=>simp[iI]at h
 |arr n es=>
  obtain⟨e,ht,hs⟩:=ht
  exact asD ht hs hx ez ib j9 h
end
end Go.Ax
