/-
  append: to a slice that is nil or full, and to one with the right to grow.
-/
import Derived.Test.YthoojemlmhliaaaGreatDoorT1
import Derived.Laws.IdiomCopy
import Derived.Laws.StructEq
import Derived.Laws.IdiomStrings
import Derived.Laws.BytesString
import Derived.Laws.Slices
import Derived.Laws.MakeOwn
set_option linter.unusedSimpArgs false
set_option linter.unusedVariables false
set_option maxRecDepth 100000
namespace Go.Ax
open Go.RowKit
section
variable{P:Program} {B0:Nat} {w0:World} {G:aH} {k nl:Nat} {w:World} {s:ae}
theorem ga.flat {I:fG} {es:Nat} {xs:List (List AV)} {a:Addr} {cap:Nat} (h:ga I es xs a cap) (eV:0<es):
  (0<cap→a.spot=none)∧xs.length≤cap∧(∀r,r∈xs→r.length=es)∧(∀r,r∈xs→∀c,c∈r→c.bK=true)∧
  ∃g:Nat→Value,(∀c,c<xs.length*es→I a.block (a.off+c)=some (g c))∧∀i (hi:i<xs.length) j (hj:j<xs[i].length),bN I (xs[i][j]) (g (i*es+j)):=by
 cases h with
 |empty=>exact⟨fun h=>absurd h (wN _),aI _,by simp,by simp,fun _=>Go.undef,fun c hc=>by simp at hc,fun i hi=>absurd hi (dH _)⟩
 | slice f ho hc hlen bw hI hR =>
  refine⟨fun _=>rfl,hc,hlen,bw,fun c=>f (c/es) (c%es),fun c aB=>?_,fun i hi j hj=>?_⟩
  ·have h1:c/es<xs.length:=by rw[UL eV];exact aB
   have h2:c%es<(xs[c/es]).length:=by rw[hlen _ (iz h1)];exact uN _ eV
   have:=hI (c/es) h1 (c%es) h2
   rw[wM,AB]at this
   exact this
  ·have dx:j<es:=by rw[←hlen _ (iz hi)];exact hj
   have e1:(i*es+j)/es=i:=by rw[N0,Nat.mul_add_div eV,NZ dx];omega
   have e2:(i*es+j)%es=j:=by rw[N0,Nat.mul_add_mod,DP dx]
   simp only[e1,e2]
   exact hR i hi j hj
theorem ga.mk {I:fG} {es:Nat} {xs:List (List AV)} {blk off cap:Nat} (g:Nat→Value) (hc:xs.length≤cap) (hlen:∀r,r∈xs→r.length=es) (bw:∀r,r∈xs→∀c,c∈r→c.bK=true)
  (hI:∀c,c<xs.length*es→I blk (off+c)=some (g c)) (hR:∀i (hi:i<xs.length) j (hj:j<xs[i].length),bN I (xs[i][j]) (g (i*es+j))):ga I es xs ⟨blk,off,none⟩ cap:=by
 refine .slice (fun i j=>g (i*es+j)) (.inl rfl) hc hlen bw (fun i hi j hj=>?_) hR
 rw[wM]
 refine hI _ ?_
 have dx:j<es:=by rw[←hlen _ (iz hi)];exact hj
 calc i*es+j<i*es+es:=by omega
  _=(i+1)*es:=by rw[iM,wP]
  _≤xs.length*es:=pd _ hi
def both (n:Nat) (f g:Nat→Value):Nat→Value:=fun c=>if c<n then f c else g (c-n)
theorem agA (n m:Nat) (f g:Nat→Value):(List.range n).map f++(List.range m).map g=(List.range (n+m)).map (both n f g):=by
 apply NF
 ·simp
 ·intro i h1 h2
  simp only[cG,cg,tq]at h1
  by_cases hi:i<n
  ·rw[wJ (by simpa using hi)]
   simp[both,hi]
  ·rw[wK (by simpa using hi)]
   simp[both,hi]
theorem aoF {I:fG} {es:Nat} {xs ys:List (List AV)} {f g:Nat→Value} (hx:∀i (hi:i<xs.length) j (hj:j<xs[i].length),bN I (xs[i][j]) (f (i*es+j)))
  (hy:∀i (hi:i<ys.length) j (hj:j<ys[i].length),bN I (ys[i][j]) (g (i*es+j))) (lx:∀r,r∈xs→r.length=es) (i:Nat) (hi:i<(xs++ys).length) (j:Nat) (hj:j<(xs++ys)[i].length):
  bN I ((xs++ys)[i][j]) (both (xs.length*es) f g (i*es+j)):=by
 by_cases h:i<xs.length
 ·have e:(xs++ys)[i]=xs[i]:=wJ h
  have dx:j<xs[i].length:=by rw[←e];exact hj
  have aB:i*es+j<xs.length*es:=by
   have:j<es:=by rw[←lx _ (iz h)];exact dx
   calc i*es+j<i*es+es:=by omega
    _=(i+1)*es:=by rw[iM,wP]
    _≤xs.length*es:=pd _ h
  have:=hx i h j dx
  simp only[both,aB,cI,e]
  exact this
 ·have h':i-xs.length<ys.length:=by simp at hi;omega
  have e:(xs++ys)[i]=ys[i-xs.length]:=wK (by omega)
  have dx:j<ys[i-xs.length].length:=by rw[←e];exact hj
  have xQ:¬i*es+j<xs.length*es:=by
   have:=pd es (Jb h)
   omega
  have he:i*es+j-xs.length*es=(i-xs.length)*es+j:=by
   have:=pd es (Jb h)
   rw[Nat.sub_mul];omega
  have:=hy _ h' j dx
  simp only[both,xQ,eu,he,e]
  exact this
theorem YR (need:Nat):∀(r c:Nat),c≤need+(need+768)/4→Builtin.growBy need r c≤need+(need+768)/4
 |0,c,h=>h
 |r+1,c,h=>by
  simp only[Builtin.growBy]
  split
  ·exact h
  ·exact YR need r _ (by omega)
theorem atA (need S3:Nat) (h:S3<need):Builtin.nextslicecap need S3≤2*need+1000:=by
 unfold Builtin.nextslicecap
 split
 ·omega
 ·split
  ·omega
  ·have:=YR need 4 S3 (by omega)
   omega
structure wD (P:Program) (t e:TypeId) (es gB:Nat) (z:Value):Prop where
 slice:P.underlying t=some (.slice e)
 size:de P e=some es
 bytes:yQ P e=some gB
 zero:(P.info? e).bind (·.zero)=some z
 azy:z.cells.size=es
 pos:0<es
 agG:0<gB
 ble:gB≤4096
theorem Dv {e:TypeId} {z:Value} (h:(P.info? e).bind (·.zero)=some z) (w:World):(zeroValue e).run P w=.ok z w:=by
 cases hi:P.info? e with
 |none=>rw[hi]at h;cases h
 |some i=>
  rw[hi]at h
  simp only[dI]at h
  simp[zeroValue,typeInfo,hi,h]
theorem HW {e:TypeId} {b:Nat} (h:yQ P e=some b):∃i,P.info? e=some i∧i.bytes=b:=by
 unfold yQ at h
 cases hi:P.info? e with
 |none=>rw[hi]at h;cases h
 |some i=>
  rw[hi]at h
  simp only[dJ,fI]at h
  exact⟨i,rfl,h⟩
theorem QD {a:Addr} {n es len cap:Nat} {g:Nat→Value} (h:∀c,c<n*es→w.cell? (a.add c)=some (g c)):
  (Builtin.firstCells es n (.slice (some a) len cap)).run P w=.ok ((List.range (n*es)).map g).toArray w:=by
 simp only[Builtin.firstCells]
 exact run_loadCells w a (n*es) g h
theorem DY {t u e ty:TypeId} {es gB n cap:Nat} {z:Value} (hT:wD P t e es gB z) (hu:∃e',P.underlying u=some (.slice e')) (base b:Option Addr) (c:Nat) (hle:n≤cap):
  (Builtin.append_ #[t, u] ty #[.slice base n cap, .slice b 0 c]).run P w = .ok (.slice base n cap) w := by
 obtain⟨e',hu⟩:=hu
 obtain⟨i,hi,_⟩:=HW hT.bytes
 have hs:i.size=es:=by have:=hT.size;unfold de at this;rw[hi]at this;simpa using this
 have hf : ∀ b : Option Addr, (Builtin.firstCells es 0 (.slice b 0 c)).run P w = .ok #[] w := fun b => by
  cases b with
  |none=>simp[Builtin.firstCells]
  |some a=>simp[Builtin.firstCells,loadCells,loadCellsFrom]
 cases base with
 |none=>simp[Builtin.append_,run_underlying hT.slice,run_underlying hu,sizeOf,typeInfo,hi,hs,Builtin.lenOf,hle,hf]
 |some a=>simp[Builtin.append_,run_underlying hT.slice,run_underlying hu,sizeOf,typeInfo,hi,hs,Builtin.lenOf,hle,hf,storeCells]
theorem Vi {t u e ty:TypeId} {es gB n m cap c blk:Nat} {z:Value} {a:Addr} {g:Nat→Value} {arr:Array Value} {tb:TypeId} (hT:wD P t e es gB z) (hu:∃e',P.underlying u=some (.slice e')) (hle:n+m≤cap)
  (hg:∀c,c<m*es→w.cell? (a.add c)=some (g c)) (hw:w.heap[blk]? =some (.cells arr tb)) (cj:(n+m)*es≤arr.size) (h1:∀c,c<m*es→(g c).oneCell'=true):
  (Builtin.append_ #[t, u] ty #[.slice (some ⟨blk, 0, none⟩) n cap, .slice (some a) m c]).run P w = .ok (.slice (some ⟨blk, 0, none⟩) (n + m) cap) (w.setCells blk (n * es) ((List.range (m * es)).map g)) := by
 obtain⟨e',hu⟩:=hu
 obtain⟨i,hi,_⟩:=HW hT.bytes
 have hs:i.size=es:=by have:=hT.size;unfold de at this;rw[hi]at this;simpa using this
 have Hp:=QD (P:=P) (len:=m) (cap:=c) hg
 have bu:=run_storeCells_cells (P:=P) blk (n*es) ((List.range (m*es)).map g) 0 w (fun j hj=>by
   rw[cell_of_heap hw]
   have dx:j<m*es:=by simpa using hj
   rw[iM]at cj
   simp;omega) (fun j _=>frozen_of_heap hw) (fun v hv=>by
   simp only[cN,pW]at hv
   obtain⟨c,hc,rfl⟩:=hv
   exact h1 c hc)
 rw[AA]at bu
 simp[Builtin.append_,run_underlying hT.slice,run_underlying hu,sizeOf,typeInfo,hi,hs,Builtin.lenOf,hle,Hp,addr_add,bu]
theorem EU {t e:TypeId} {es gB n cap:Nat} {z:Value} (hT:wD P t e es gB z) (lP:¬n≤cap) (rr:n≤dD):Builtin.nextslicecap n cap*gB≤2^48:=by
 have aBj:=atA n cap (by omega)
 unfold dD at rr
 have h1:Builtin.nextslicecap n cap*gB≤(2*4294967296+1000)*4096:=Nat.mul_le_mul (by omega) hT.ble
 omega
theorem AK {t u e ty:TypeId} {es gB n m cap c:Nat} {z:Value} {base:Option Addr} {a:Addr} {f g:Nat→Value} (hT:wD P t e es gB z) (hu:∃e',P.underlying u=some (.slice e')) (lP:¬n+m≤cap) (rr:Builtin.nextslicecap (n+m) cap*gB≤2^48)
  (hf:∀b,base=some b→∀c,c<n*es→w.cell? (b.add c)=some (f c)) (mo:base=none→n=0) (hg:∀c,c<m*es→w.cell? (a.add c)=some (g c)):
  ∃ (newCap : Nat) (rest : List Value), n + m ≤ newCap ∧ rest.length = (newCap - (n + m)) * es ∧
   (Builtin.append_ #[t, u] ty #[.slice base n cap, .slice (some a) m c]).run P w =
    .ok (.slice (some ⟨w.heap.size,0,none⟩) (n+m) newCap) (w.drew.alloc (.cells ((List.range (n*es+m*es)).map (both (n*es) f g)++rest).toArray e)):=by
 obtain⟨e',hu⟩:=hu
 obtain⟨i,hi,vu⟩:=HW hT.bytes
 have hs:i.size=es:=by have:=hT.size;unfold de at this;rw[hi]at this;simpa using this
 have hz:i.zero=some z:=by have:=hT.zero;rw[hi]at this;simpa using this
 have aBa:cap<n+m:=by omega
 have Cj:¬Builtin.nextslicecap (n+m) cap*i.bytes>2^48:=by rw[vu];omega
 have gj:¬i.bytes=0:=by have:=hT.agG;omega
 have Hp:=QD (P:=P) (w:=w.drew) (n:=m) (es:=es) (a:=a) (g:=g) (len:=m) (cap:=c) hg
 have hold:(Builtin.firstCells es n (.slice base n cap)).run P w.drew=.ok ((List.range (n*es)).map f).toArray w.drew:=by
  cases base with
  |none=>rw[mo rfl];simp[Builtin.firstCells]
  |some b=>exact QD (P:=P) (w:=w.drew) (hf b rfl)
 have gQ:n+m≤(Question.appendCap (n+m) cap e).cut (w.tape w.drawn (Question.appendCap (n+m) cap e)):=by simp[Question.cut]
 generalize L7:(Question.appendCap (n+m) cap e).cut (w.tape w.drawn (Question.appendCap (n+m) cap e))=newCap at gQ
 refine⟨newCap,(Builtin.zeroCells z.cells (newCap-(n+m))).toList,gQ,by simp[Builtin.zeroCells,hT.azy],?_⟩
 have vA:(Question.appendCap (n+m) cap e).forced=false:=rfl
 simp only[Builtin.append_,Uz,Aq,IY,Sem.run_bind,Sem.run_pure,Result.andThen_ok,run_underlying hT.slice,run_underlying hu,jR hT.size,
  Builtin.lenOf,ew,lP,↓reduceIte]
 simp[typeInfo,hi,gj,Cj,hold,Hp,newRow,vA,L7,Dv hT.zero]
 rw[←agA]
 congr 2
 apply Array.ext'
 simp
theorem abA {l:List (Option Nat)} {g:Nat} {x:Option Nat} (h:none∈l) (hg:x=none∨∃n,l[g]? =some (some n)):none∈l.set g x:=by
 obtain⟨j,hj⟩:=oZ h
 have hl:=(bI.1 hj).1
 by_cases e:j=g
 ·subst e
  rcases hg with rfl|⟨n,hn⟩
  ·exact bE (i:=j) (by simp[hl])
  ·rw[hj]at hn;injection hn with hn;cases hn
 ·exact bE (i:=j) (by rw[uM (qQ e)];exact hj)
theorem wR.tokens {G':aH} {w':World} {d g0:Nat} {r:Rec} {gr:dF} (aT:wR B0 G d r gr w) (hle:bL d gr.nl G G') (hk:j9 (· =.tok d g0) G w G' w') {toks':List (Option Nat)} {tk':List lA}
  (hl:tk'.length=toks'.length) (aB:none∈r.toks→none∈toks')
  (hg:∀(g:Nat) (n:Option Nat) (T:lA),toks'[g]? =some n→tk'[g]? =some T→(g≠g0∧r.toks[g]? =some n∧gr.tk[g]? =some T)∨(g=g0∧AH B0 G' d g n T w')):
  wR B0 G' d {r with toks:=toks'} {gr with tk:=tk'} w':=by
 refine⟨aT.gV,hl,fun b cs blk e1 e2=>?_,fun b blk e1 e2=>aB (aT.full b blk e1 e2),fun g n T e1 e2=>?_,fun i b e1=>?_,aT.qi⟩
 ·exact(aT.box b cs blk e1 e2).kept hle hk (fun _ e=>by cases e)
 ·rcases hg g n T e1 e2 with⟨aF,h1,h2⟩|⟨_,h⟩
  ·have ht:=aT.tok g n T h1 h2
   have hs:∀(hn:n.isSome=true),G'.own T.blk=some (.tok d g)∧w'.heap[T.blk]? =w.heap[T.blk]? ∧∀i,G.I T.blk i=none→G'.I T.blk i=none:=fun hn=>by
    obtain⟨m,hm⟩:=tB.1 hn
    exact hk _ _ (ht.2 m hm).2.1 (fun e=>by injection e with _ e;exact aF e)
   exact ht.dj (fun hn=>(hs hn).1) (fun hn=>(hs hn).2.1) (fun hn=>(hs hn).2.2)
  ·exact h
 ·have hm:=aT.mark i b e1
  obtain⟨k1,k2,_⟩:=hk _ _ hm.2.1 (fun e=>by cases e)
  exact hm.dj k1 k2
def aH.qR (G:aH) (b n:Nat) (f:Nat→Value):fG:=fun c i=>if c=b then(if i<n then some (f i)else none)else G.I c i
theorem P5 {xs ys:List (List AV)} {es:Nat} {I:fG} {f g:Nat→Value} {blk cap:Nat} (lx:∀r,r∈xs→r.length=es) (ly:∀r,r∈ys→r.length=es)
  (cx:∀r,r∈xs→∀c,c∈r→c.bK=true) (cy:∀r,r∈ys→∀c,c∈r→c.bK=true) (gQ:xs.length+ys.length≤cap)
  (hI:∀c,c<(xs.length+ys.length)*es→I blk c=some (both (xs.length*es) f g c))
  (hx:∀i (hi:i<xs.length) j (hj:j<xs[i].length),bN I (xs[i][j]) (f (i*es+j))) (hy:∀i (hi:i<ys.length) j (hj:j<ys[i].length),bN I (ys[i][j]) (g (i*es+j))):
  ga I es (xs++ys) ⟨blk,0,none⟩ cap:=by
 refine ga.mk (both (xs.length*es) f g) (by simpa using gQ) (fun r hr=>?_) (fun r hr=>?_) (fun c hc=>?_) (aoF hx hy lx)
 ·rcases dR.1 hr with h|h
  ·exact lx r h
  ·exact ly r h
 ·rcases dR.1 hr with h|h
  ·exact cx r h
  ·exact cy r h
 ·rw[gU]
  exact hI c (by simpa using hc)
theorem Vh (h : At P B0 w0 G k nl s w) {es n : Nat} {xs ys : List (List AV)} {f g : Nat → Value} {newCap : Nat} {rest : List Value} {e : TypeId} (eV : 0 < es) (hn : n = xs.length + ys.length)
    (lx:∀r,r∈xs→r.length=es) (ly:∀r,r∈ys→r.length=es) (cx:∀r,r∈xs→∀c,c∈r→c.bK=true) (cy:∀r,r∈ys→∀c,c∈r→c.bK=true)
    (hx:∀i (hi:i<xs.length) j (hj:j<xs[i].length),bN G.I (xs[i][j]) (f (i*es+j))) (hy:∀i (hi:i<ys.length) j (hj:j<ys[i].length),bN G.I (ys[i][j]) (g (i*es+j)))
    (gQ:n≤newCap) (kZ:rest.length=(newCap-n)*es):
    ek P B0 w0 G k nl s (s.lB k n) (w.drew.alloc (.cells ((List.range (xs.length*es+ys.length*es)).map (both (xs.length*es) f g)++rest).toArray e))
      (.slice (.tok k (s.j4 k)) es (xs++ys)) (.slice (some ⟨w.heap.size,0,none⟩) n newCap):=by
  obtain⟨r,gr,hr,hg⟩:=h.dt (aI k)
  have aT:=h.rel.dt k r gr hr hg
  have sK:s.j4 k=r.toks.length:=by simp[ae.j4,hr]
  have CN:xs.length*es+ys.length*es=n*es:=by rw[hn,iM]
  let T:lA:=⟨some n,w.heap.size,newCap,es⟩
  let G':aH:={G with I:=G.qR w.heap.size (n*es) (both (xs.length*es) f g),ag:=G.ag.modify k fun q=>{q with tk:=q.tk++[T]},own:=fun b=>if b=w.heap.size then some (.tok k r.toks.length)else G.own b}
  generalize xM:((List.range (xs.length*es+ys.length*es)).map (both (xs.length*es) f g)++rest).toArray=arr
  have Cg:arr.size=newCap*es:=by
    rw[←xM]
    simp only[DK,cG,cg,tq,kZ,CN]
    rw[←iM]
    congr 1
    omega
  have dW:∀c,c<n*es→arr[c]? =some (both (xs.length*es) f g c):=fun c hc=>by
    rw[←xM,CN]
    simp only[Uz]
    rw[dG (by simpa using hc)]
    simp[hc]
  let w':=w.drew.alloc (.cells arr e)
  have hI:∀b i v,G.I b i=some v→G'.I b i=some v:=fun b i v e=>by
    have:=h.rel.uL e
    simp only[G',aH.qR]
    rw[ak (by omega)]
    exact e
  have hk:j9 (· =.tok k r.toks.length) G w G' w':=fun b o e _=>by
    have aB:=h.rel.fq b o e
    refine⟨by simp only[G'];rw[ak (by omega)];exact e,Below.heap_alloc w.drew _ _ aB,fun i e=>?_⟩
    simp only[G',aH.qR]
    rw[ak (by omega)]
    exact e
  have gE:jz gr {gr with tk:=gr.tk++[T]}:=⟨fun b blk e=>e,fun g T e=>⟨T,qg e,.refl T⟩,rfl,fun _ _ e=>e⟩
  have kD:w'.heap[w.heap.size]? =some (.cells arr e):=World.alloc_heap_new w.drew _
  have zo:bL k gr.nl G G':=⟨hI,fun d q _ e=>by
    show∃bP,(G.ag.modify k _)[d]? =some bP∧_
    rw[eE]
    by_cases hd:k=d
    · subst hd
      rw[hg]at e
      injection e with e
      subst e
      exact⟨_,by rw[aj rfl,hg];rfl,gE,fun _=>rfl⟩
    · exact⟨q,by rw[ak hd];exact e,.refl q,fun _=>rfl⟩,fun _ _ _ e=>e⟩
  have iY:=h.rel.bG (G':=G') (w':=w') hr hg (fun r=>{r with toks:=r.toks++[some n]}) (fun q=>{q with tk:=q.tk++[T]}) (· =.tok k r.toks.length) rfl rfl hI gE rfl hk
    (fun o ho=>.inr ⟨_,ho⟩) ?_ (fun b i v e=>?_) (((Below.refl _ _).drew).alloc h.rel.low _) (fun b o e=>?_)
  · obtain ⟨oO, lQ⟩ := iY
    have hlen:(s.lB k n).ag.length=s.ag.length:=by simp[ae.lB,ae.bG]
    obtain⟨gc,mq,uf⟩:=h.cur
    rw[hg]at mq
    injection mq with mq
    subst mq
    have hH:G'.ag[k]? =some {gr with tk:=gr.tk++[T]}:=by
      show(G.ag.modify k _)[k]? =_
      rw[eE,aj rfl,hg];rfl
    have lP:({gr with tk:=gr.tk++[T]}:dF).tk[r.toks.length]? =some T:=by
      show(gr.tk++[T])[r.toks.length]? =_
      rw[←aT.jx,jy (aI _)]
      simp
    refine⟨G',h.to oO (lQ _ _) hlen,lQ _ _,by simp[ae.lB,ae.bG],?_⟩
    rw[sK]
    have hc:ga G'.I es (xs++ys) ⟨w.heap.size,0,none⟩ newCap:=
      P5 lx ly cx cy (by omega) (fun c hc=>by
        simp only[G',aH.qR]
        rw[aj trivial,aj (by rw[hn];exact hc)]) (fun i hi j hj=>(hx i hi j hj).mono hI) (fun i hi j hj=>(hy i hi j hj).mono hI)
    have hl:(xs++ys).length=n:=by simp[hn]
    have:=Rel.tok (G:=G') (k:=k) (nl:=nl) (d:=k) (g:=r.toks.length) (es:=es) (xs:=xs++ys) (a:=⟨w.heap.size,0,none⟩) (cap:=newCap) T _ (aI _) hH lP rfl hc
      (fun m hm=>by
        simp only[T]at hm
        injection hm with hm
        subst hm
        exact⟨by omega,fun _=>⟨rfl,rfl⟩⟩)
    rw[hl]at this
    exact this
  · refine aT.tokens (toks' := r.toks ++ [some n]) (tk' := gr.tk ++ [T]) zo hk (by simp [aT.jx]) (tu _) (fun g m T' e1 e2 => ?_)
    rcases gi e1 with⟨aB,e1⟩|⟨rfl,rfl⟩
    · refine .inl ⟨by omega, e1, ?_⟩
      rcases gi e2 with⟨_,e2⟩|⟨hb,_⟩
      · exact e2
      · rw[aT.jx]at hb;omega
    · have : T' = T := by
        rcases gi e2 with⟨hb,_⟩|⟨_,e⟩
        · rw[aT.jx]at hb;omega
        · exact e
      subst this
      refine .inr ⟨rfl,rfl,fun m hm=>?_⟩
      injection hm with hm
      subst hm
      refine⟨h.rel.low,by simp[G',T],fun i hi=>?_,gQ,eV,arr,e,kD,Cg⟩
      simp only[G',aH.qR,T]at hi⊢
      rw[aj trivial,ak (by omega)]
  · simp only [G', aH.qR] at e
    split at e
    · rename_i hb
      subst hb
      split at e
      · rename_i hi
        injection e with e
        subst e
        rw[cell_of_heap kD]
        exact dW i hi
      · cases e
    · rename_i hb
      have:=h.rel.fM b i v e
      rw[Gx (w:=w) (Below.heap_alloc w.drew _ _ (h.rel.uL e)) rfl]
      exact this
  · simp only [G'] at e
    split at e
    · rename_i hb;subst hb;simp[w']
    · have:=h.rel.fq b o e;simp[w'];omega
theorem Dl {α:Type} {l:List α} {i j:Nat} {x y:α} (h:(l.set i x)[j]? =some y):(j≠i∧l[j]? =some y)∨(j=i∧y=x∧i<l.length):=by
 rw[qP]at h
 by_cases py:i=j
 ·rw[aj py]at h
  split at h
  ·injection h with h
   exact .inr ⟨py.symm,h.symm,by assumption⟩
  ·cases h
 ·rw[ak py]at h
  exact .inl ⟨fun e=>py e.symm,h⟩
theorem Ae {α:Type} {l:List α} {i:Nat} {x y:α} (h:l[i]? =some y):(l.set i x)[i]? =some x:=by
 rw[qP,aj rfl,aj (bI.1 h).1]
theorem ad1 (h : At P B0 w0 G k nl s w) {d g n m : Nat} {r : Rec} {gr : dF} {T T' : lA} {w' : World} {I' : fG} {own' : Nat → Option rY} (hd : d ≤ k) (hr : s.ag[d]? = some r) (hg : G.ag[d]? = some gr)
    (jo:r.toks[g]? =some (some n)) (lP:gr.tk[g]? =some T) (Y3:T'.n=some m) (aB:n<m) (eV:T'.es=T.es)
    (hI:∀b i v,G.I b i=some v→I' b i=some v) (hk:∀b o,G.own b=some o→o≠.tok d g→own' b=some o∧w'.heap[b]? =w.heap[b]? ∧∀i,G.I b i=none→I' b i=none)
    (kD:AH B0 {G with I:=I',ag:=G.ag.modify d fun q=>{q with tk:=q.tk.set g T'},own:=own'} d g (some m) T' w')
    (ui:∀b i v,I' b i=some v→w'.cell? ⟨b,i,none⟩=some v) (hb:Below B0 w w') (zz:∀b o,own' b=some o→b<w'.heap.size)
    {es:Nat} {xs:List (List AV)} {a:Addr} {cap:Nat} (Hn:T'.es=es) (hlen:xs.length=m) (hc:ga I' es xs a cap) (ha:a=⟨T'.blk,0,none⟩) (gQ:cap=T'.cap):
    ek P B0 w0 G k nl s (s.mH d g (some m)) w' (.slice (.tok d g) es xs) (.slice (some a) m cap):=by
  have aT:=h.rel.dt d r gr hr hg
  have pn:T.n=some n:=(aT.tok g (some n) T jo lP).1
  let G':aH:={G with I:=I',ag:=G.ag.modify d fun q=>{q with tk:=q.tk.set g T'},own:=own'}
  have anX:wS T T':=⟨eV,.inr (.inr ⟨n,m,pn,Y3,aB⟩)⟩
  have gE:jz gr {gr with tk:=gr.tk.set g T'}:=⟨fun b blk e=>e,fun j U e=>by
    by_cases hj:j=g
    · subst hj
      rw[lP]at e
      injection e with e
      subst e
      exact⟨T',Ae lP,anX⟩
    · exact⟨U,by show(gr.tk.set g T')[j]? =_;rw[qP,ak (fun e=>hj e.symm)];exact e,.refl U⟩,rfl,fun _ _ e=>e⟩
  have sI:j9 (· =.tok d g) G w G' w':=hk
  have zo:bL d gr.nl G G':=⟨hI,fun d' q _ e=>by
    show∃bP,(G.ag.modify d _)[d']? =some bP∧_
    rw[eE]
    by_cases xP:d=d'
    · subst xP
      rw[hg]at e
      injection e with e
      subst e
      exact⟨_,by rw[aj rfl,hg];rfl,gE,fun _=>rfl⟩
    · exact⟨q,by rw[ak xP];exact e,.refl q,fun _=>rfl⟩,fun _ _ _ e=>e⟩
  have iY:=h.rel.bG (G':=G') (w':=w') hr hg (fun r=>{r with toks:=r.toks.set g (some m)}) (fun q=>{q with tk:=q.tk.set g T'}) (· =.tok d g) rfl rfl hI gE rfl sI
    (fun o ho=>.inr ⟨_,ho⟩) ?_ ui hb zz
  · obtain ⟨oO, lQ⟩ := iY
    have amG:(s.mH d g (some m)).ag.length=s.ag.length:=by simp[ae.mH,ae.bG]
    have hH:G'.ag[d]? =some {gr with tk:=gr.tk.set g T'}:=by
      show(G.ag.modify d _)[d]? =_
      rw[eE,aj rfl,hg];rfl
    refine⟨G',h.to oO (lQ _ _) amG,lQ _ _,by simp[ae.mH,ae.bG],?_⟩
    have:=Rel.tok (G:=G') (k:=k) (nl:=nl) (d:=d) (g:=g) (es:=es) (xs:=xs) (a:=a) (cap:=cap) T' _ hd hH (Ae lP) Hn hc
      (fun p hp=>by
        rw[Y3]at hp
        injection hp with hp
        subst hp
        exact⟨by omega,fun _=>⟨ha,gQ⟩⟩)
    rw[hlen]at this
    exact this
  · refine aT.tokens (toks' := r.toks.set g (some m)) (tk' := gr.tk.set g T') zo sI (by simp [aT.jx]) (fun hm => abA hm (.inr ⟨_, jo⟩)) (fun j p U e1 e2 => ?_)
    rcases Dl e1 with⟨aF,e1⟩|⟨rfl,rfl,_⟩
    · rcases Dl e2 with ⟨_, e2⟩ | ⟨hj, _⟩
      · exact .inl ⟨aF,e1,e2⟩
      · exact absurd hj aF
    · rcases Dl e2 with ⟨hj, _⟩ | ⟨_, rfl, _⟩
      · exact absurd rfl hj
      · exact .inr ⟨rfl,kD⟩
theorem afx (h:At P B0 w0 G k nl s w) {d g n es:Nat} {xs ys:List (List AV)} {fx fy:Nat→Value} {r:Rec} {gr:dF} {T:lA} (hd:d≤k) (hr:s.ag[d]? =some r) (hg:G.ag[d]? =some gr)
  (jo:r.toks[g]? =some (some xs.length)) (lP:gr.tk[g]? =some T) (Ce:T.es=es) (eV:0<es) (hn:n=xs.length+ys.length) (lU:0<ys.length) (pF:n≤T.cap)
  (lx:∀r,r∈xs→r.length=es) (ly:∀r,r∈ys→r.length=es) (cx:∀r,r∈xs→∀c,c∈r→c.bK=true) (cy:∀r,r∈ys→∀c,c∈r→c.bK=true)
  (x6:∀c,c<xs.length*es→G.I T.blk c=some (fx c))
  (hx:∀i (hi:i<xs.length) j (hj:j<xs[i].length),bN G.I (xs[i][j]) (fx (i*es+j))) (hy:∀i (hi:i<ys.length) j (hj:j<ys[i].length),bN G.I (ys[i][j]) (fy (i*es+j))):
  ek P B0 w0 G k nl s (s.mH d g (some n)) (w.setCells T.blk (xs.length*es) ((List.range (ys.length*es)).map fy)) (.slice (.tok d g) es (xs++ys)) (.slice (some ⟨T.blk,0,none⟩) n T.cap):=by
 have aT:=h.rel.dt d r gr hr hg
 have hTR:=aT.tok g (some xs.length) T jo lP
 obtain⟨pn,sw⟩:=hTR
 obtain⟨t1,t2,t3,t4,t5,arr,ty,t6,t7⟩:=sw _ rfl
 rw[Ce]at t3 t7
 have CN:n*es=xs.length*es+ys.length*es:=by rw[hn,iM]
 let I':fG:=fun b i=>if b=T.blk∧xs.length*es≤i∧i<n*es then some (fy (i-xs.length*es))else G.I b i
 have hI:∀b i v,G.I b i=some v→I' b i=some v:=fun b i v e=>by
  simp only[I']
  split
  ·rename_i hc
   obtain⟨rfl,h1,_⟩:=hc
   rw[t3 i h1]at e
   cases e
  ·exact e
 have Hf:Below B0 w (w.setCells T.blk (xs.length*es) ((List.range (ys.length*es)).map fy)):=KH t1 _ _ _
 have am2:=LW ((List.range (ys.length*es)).map fy) (xs.length*es) arr w t6
 have HD:∀b,b≠T.blk→(w.setCells T.blk (xs.length*es) ((List.range (ys.length*es)).map fy)).heap[b]? =w.heap[b]? :=fun b hb=>LX hb _ _ _
 have aAU:n*es≤arr.size:=by rw[t7];exact pd _ pF
 have bH:=World.cell?_setCells_in T.blk ((List.range (ys.length*es)).map fy) (xs.length*es) w (fun j hj=>by
  rw[cell_of_heap t6]
  have dx:j<ys.length*es:=by simpa using hj
  simp;omega)
 refine ad1 h (T:=T) (T':={T with n:=some n}) (I':=I') (own':=G.own) hd hr hg jo lP rfl (by omega) rfl hI (fun b o ho aF=>?_) ?_ (fun b i v e=>?_) Hf (fun b o ho=>?_) Ce (by simp[hn]) ?_ rfl rfl
 ·have hb:b≠T.blk:=by
   rintro rfl
   rw[t2]at ho
   injection ho with ho
   exact aF ho.symm
  refine⟨ho,HD b hb,fun i e=>?_⟩
  simp only[I']
  rw[ak (fun hc=>hb hc.1)]
  exact e
 ·refine⟨rfl,fun p hp=>?_⟩
  injection hp with hp
  subst hp
  refine⟨t1,t2,fun i hi=>?_,pF,t5,_,ty,am2,by rw[It,t7,Ce]⟩
  simp only[Ce]at hi
  simp only[I']
  rw[ak (fun hc=>by omega)]
  exact t3 i (by omega)
 ·simp only[I']at e
  split at e
  ·rename_i hc
   obtain⟨rfl,h1,h2⟩:=hc
   injection e with e
   subst e
   have:=bH (i-xs.length*es) (by simp;omega)
   rw[show xs.length*es+(i-xs.length*es)=i by omega]at this
   rw[this]
   simp
  ·rename_i hc
   have hv:=h.rel.fM b i v e
   rw[World.cell?_setCells_out]
   ·exact hv
   ·intro hb _
    have hb:b=T.blk:=hb
    subst hb
    simp only[cg,tq]
    rcases UO i (xs.length*es)with h1|h1
    ·exact .inl h1
    ·exact .inr (by
      have:¬i<n*es:=fun h2=>hc ⟨rfl,h1,h2⟩
      show xs.length*es+ys.length*es≤i
      omega)
 ·rw[Nb]
  exact h.rel.fq b o ho
 ·refine P5 (f:=fx) (g:=fy) lx ly cx cy (by omega) (fun c hc=>?_) (fun i hi j hj=>(hx i hi j hj).mono hI) (fun i hi j hj=>(hy i hi j hj).mono hI)
  rw[←hn]at hc
  simp only[I',both]
  by_cases aB:c<xs.length*es
  ·rw[ak (fun hh=>by omega),aj aB]
   exact x6 c aB
  ·rw[aj ⟨trivial,by omega,hc⟩,ak aB]
theorem afw (h:At P B0 w0 G k nl s w) {d g n es:Nat} {xs ys:List (List AV)} {f fy:Nat→Value} {r:Rec} {gr:dF} {T:lA} {newCap:Nat} {rest:List Value} {e:TypeId} (hd:d≤k) (hr:s.ag[d]? =some r) (hg:G.ag[d]? =some gr)
  (jo:r.toks[g]? =some (some xs.length)) (lP:gr.tk[g]? =some T) (Ce:T.es=es) (eV:0<es) (hn:n=xs.length+ys.length) (lU:0<ys.length)
  (lx:∀r,r∈xs→r.length=es) (ly:∀r,r∈ys→r.length=es) (cx:∀r,r∈xs→∀c,c∈r→c.bK=true) (cy:∀r,r∈ys→∀c,c∈r→c.bK=true)
  (hx:∀i (hi:i<xs.length) j (hj:j<xs[i].length),bN G.I (xs[i][j]) (f (i*es+j))) (hy:∀i (hi:i<ys.length) j (hj:j<ys[i].length),bN G.I (ys[i][j]) (fy (i*es+j)))
  (gQ:n≤newCap) (kZ:rest.length=(newCap-n)*es):
  ek P B0 w0 G k nl s (s.mH d g (some n)) (w.drew.alloc (.cells ((List.range (xs.length*es+ys.length*es)).map (both (xs.length*es) f fy)++rest).toArray e))
   (.slice (.tok d g) es (xs++ys)) (.slice (some ⟨w.heap.size,0,none⟩) n newCap):=by
 have aT:=h.rel.dt d r gr hr hg
 obtain⟨pn,sw⟩:=aT.tok g (some xs.length) T jo lP
 obtain⟨t1,t2,t3,t4,t5,_,_,t6,_⟩:=sw _ rfl
 have aAR:T.blk<w.heap.size:=(uI.1 t6).1
 have CN:xs.length*es+ys.length*es=n*es:=by rw[hn,iM]
 generalize xM:((List.range (xs.length*es+ys.length*es)).map (both (xs.length*es) f fy)++rest).toArray=arr
 have Cg:arr.size=newCap*es:=by
  rw[←xM]
  simp only[DK,cG,cg,tq,kZ,CN]
  rw[←iM]
  congr 1
  omega
 have dW:∀c,c<n*es→arr[c]? =some (both (xs.length*es) f fy c):=fun c hc=>by
  rw[←xM,CN]
  simp only[Uz]
  rw[dG (by simpa using hc)]
  simp[hc]
 have kD:(w.drew.alloc (.cells arr e)).heap[w.heap.size]? =some (.cells arr e):=World.alloc_heap_new w.drew _
 let I':fG:=G.qR w.heap.size (n*es) (both (xs.length*es) f fy)
 have hI:∀b i v,G.I b i=some v→I' b i=some v:=fun b i v e=>by
  have:=h.rel.uL e
  simp only[I',aH.qR]
  rw[ak (by omega)]
  exact e
 refine ad1 h (T:=T) (T':=⟨some n,w.heap.size,newCap,es⟩) (I':=I') (own':=fun b=>if b=w.heap.size then some (.tok d g)else if b=T.blk then none else G.own b) hd hr hg jo lP rfl (by omega) Ce.symm hI
  (fun b o ho aF=>?_) ?_ (fun b i v e=>?_) (((Below.refl _ _).drew).alloc h.rel.low _) (fun b o ho=>?_) rfl (by simp[hn]) ?_ rfl rfl
 ·have aB:=h.rel.fq b o ho
  have hb:b≠T.blk:=by
   rintro rfl
   rw[t2]at ho
   injection ho with ho
   exact aF ho.symm
  refine⟨by rw[ak (by omega),ak hb];exact ho,Below.heap_alloc w.drew _ _ aB,fun i e=>?_⟩
  simp only[I',aH.qR]
  rw[ak (by omega)]
  exact e
 ·refine⟨rfl,fun p hp=>?_⟩
  injection hp with hp
  subst hp
  refine⟨h.rel.low,by simp,fun i hi=>?_,gQ,eV,arr,e,kD,Cg⟩
  simp only[I',aH.qR]at hi⊢
  rw[aj trivial,ak (by omega)]
 ·simp only[I',aH.qR]at e
  split at e
  ·rename_i hb
   subst hb
   split at e
   ·rename_i hi
    injection e with e
    subst e
    rw[cell_of_heap kD]
    exact dW i hi
   ·cases e
  ·rename_i hb
   have:=h.rel.fM b i v e
   rw[Gx (w:=w) (Below.heap_alloc w.drew _ _ (h.rel.uL e)) rfl]
   exact this
 ·split at ho
  ·rename_i hb;subst hb;simp
  ·split at ho
   ·cases ho
   ·have:=h.rel.fq b o ho;simp;omega
 ·refine P5 (f:=f) (g:=fy) lx ly cx cy (by omega) (fun c hc=>?_) (fun i hi j hj=>(hx i hi j hj).mono hI) (fun i hi j hj=>(hy i hi j hj).mono hI)
  simp only[I',aH.qR]
  rw[aj trivial,aj (by rw[hn];exact hc)]
theorem yx {a:Addr} (h:a.spot=none):a=⟨a.block,a.off,none⟩:=by
 cases a
 cases h
 rfl
theorem afy (h:At P B0 w0 G k nl s w) {t u e ty:TypeId} {es gB:Nat} {z:Value} (hT:wD P t e es gB z) (hu:∃e',P.underlying u=some (.slice e')) {a b v:AV} {x y:Value} {s':ae}
  (hx:Rel G k nl a x) (hy:Rel G k nl b y) (ha:et s es a b=some (v,s')):
  ∃ x' w', (Builtin.append_ #[t, u] ty #[x, y]).run P w = .ok x' w' ∧ ek P B0 w0 G k nl s s' w' v x' := by
 unfold et at ha
 split at ha
 case h_2=>cases ha
 rename_i o e1 xs oy e2 ys
 split at ha
 ·rename_i lb
  have lb:ys=[]:=by simpa using lb
  subst lb
  injection ha with ha
  injection ha with h1 h2
  subst h1 h2
  have qz:ek P B0 w0 G k nl s s w (.slice o e1 xs) x:=⟨G,h,bL.refl _ _ _,rfl,hx⟩
  have rE:∃bb c,y=.slice bb 0 c:=by
   rcases hy.kH with⟨_,_,rfl⟩|⟨_,aa,c,rfl,_⟩
   ·exact⟨_,_,rfl⟩
   ·exact⟨_,_,rfl⟩
  obtain⟨bb,c,rfl⟩:=rE
  rcases hx.kH with⟨_,_,rfl⟩|⟨_,aa,cap,rfl,_,hle,_⟩
  ·exact⟨_,w,DY hT hu none bb c (aI _),qz⟩
  ·exact⟨_,w,DY hT hu (some aa) bb c hle,qz⟩
 ·rename_i lb
  split at ha
  case isFalse=>cases ha
  rename_i cu
  obtain⟨rfl,lO,rr⟩:=cu
  have lU:0<ys.length:=by
   cases ys with
   |nil=>simp at lb
   |cons=>simp
  rcases hy.kH with⟨_,hn,_⟩|⟨_,ay,cy,rfl,_,_,rE,_⟩
  ·rw[hn]at lU;simp at lU
  obtain⟨zH,Hk,ly,qW,fy,zG,rD⟩:=ga.flat rE hT.pos
  have zh:ay=⟨ay.block,ay.off,none⟩:=yx (zH (by omega))
  have rk:∀c,c<ys.length*e2→w.cell? (ay.add c)=some (fy c):=fun c hc=>by
   rw[zh,addr_add];exact h.rel.fM _ _ _ (zG c hc)
  cases o with
  |any=>cases ha
  | aA =>
   injection ha with ha
   injection ha with h1 h2
   subst h1 h2
   rcases hx.kH with⟨_,rfl,rfl⟩|⟨aF,_⟩
   ·obtain⟨newCap,rest,gQ,kZ,dN⟩:=AK (P:=P) (w:=w) (ty:=ty) (n:=0) (m:=ys.length) (cap:=0) (c:=cy) (base:=none) (a:=ay) (f:=fun _=>Go.undef) (g:=fy) hT hu (by omega)
     (EU hT (by omega) (by simpa using rr)) (fun _ e=>by cases e) (fun _=>rfl) rk
    refine⟨_,_,dN,?_⟩
    have:=Vh h (xs:=[]) (ys:=ys) (f:=fun _=>Go.undef) (g:=fy) (n:=ys.length) (newCap:=newCap) (rest:=rest) (e:=e) hT.pos (by simp) (by simp) ly (by simp) qW (by simp) rD (by omega) (by simpa using kZ)
    rw[h.iQ]
    simpa using this
   ·exact absurd rfl aF
  | full =>
   injection ha with ha
   injection ha with h1 h2
   subst h1 h2
   rcases hx.kH with⟨aF,_⟩|⟨_,ax,cx,rfl,_,_,kG,Cs⟩
   ·cases aF
   have mn:=Cs rfl
   subst mn
   have:e1=e2:=by
    rcases lO with h|h
    ·cases h
    ·exact h
   subst this
   obtain⟨R3,_,lx,xl,fx,x6,x7⟩:=ga.flat kG hT.pos
   have vt:∀c,c<xs.length*e1→ax=⟨ax.block,ax.off,none⟩:=fun c hc=>yx (R3 (by
    rcases DN xs.length with h0|h0
    ·rw[h0]at hc;simp at hc
    ·exact h0))
   obtain⟨newCap,rest,gQ,kZ,dN⟩:=AK (P:=P) (w:=w) (ty:=ty) (n:=xs.length) (m:=ys.length) (cap:=xs.length) (c:=cy) (base:=some ax) (a:=ay) (f:=fx) (g:=fy) hT hu (by omega)
    (EU hT (by omega) rr) (fun b e c hc=>by injection e with e;subst e;rw[vt c hc,addr_add];exact h.rel.fM _ _ _ (x6 c hc)) (fun e=>by cases e) rk
   refine⟨_,_,dN,?_⟩
   rw[h.iQ]
   exact Vh h hT.pos rfl lx ly xl qW x7 rD gQ kZ
  | tok d g =>
   simp only at ha
   split at ha
   case isFalse=>cases ha
   rename_i zF
   injection ha with ha
   injection ha with h1 h2
   subst h1 h2
   have:e1=e2:=by
    rcases lO with h|h
    ·cases h
    ·exact h
   subst this
   cases hx with
   |cl hx=>cases hx with
    |slice f ho=>rcases ho with h|⟨h,_⟩<;>cases h
    |empty ho=>rcases ho with h|h<;>cases h
   |tok T gr hd hg ht eV kG hn=>
   rename_i ax cx
   obtain⟨r,bP,hr,eC⟩:=h.dt hd
   rw[hg]at eC
   injection eC with eC
   subst eC
   have aT:=h.rel.dt d r gr hr hg
   have jo:r.toks[g]? =some (some xs.length):=by
    have:=zF.2
    simp only[ae.tok,hr,dI]at this
    cases hq:r.toks[g]? with
    |none=>rw[hq]at this;cases this
    |some q=>rw[hq]at this;simp only[Option.join_some]at this;rw[this]
   obtain⟨pn,sw⟩:=aT.tok g (some xs.length) T jo ht
   obtain⟨hle,heq⟩:=hn _ pn
   obtain⟨rfl,rfl⟩:=heq rfl
   obtain⟨_,_,lx,xl,fx,x6,x7⟩:=ga.flat kG hT.pos
   obtain⟨_,_,_,_,_,arr,tb,t6,t7⟩:=sw _ rfl
   by_cases pF:xs.length+ys.length≤T.cap
   ·refine⟨_,_,Vi (P:=P) (ty:=ty) (n:=xs.length) (m:=ys.length) (c:=cy) (a:=ay) (g:=fy) hT hu pF rk t6 (by rw[t7,eV];exact pd _ pF) (fun c hc=>?_),?_⟩
    ·have h1:c/e1<ys.length:=by rw[UL hT.pos];exact hc
     have h2:c%e1<(ys[c/e1]).length:=by rw[ly _ (iz h1)];exact uN _ hT.pos
     have hr:=rD _ h1 _ h2
     rw[AB]at hr
     exact S5 (G:=G) (k:=k) (nl:=nl) (.cl hr) (qW _ (iz h1) _ (iz h2))
    ·exact afx h hd hr hg jo ht eV hT.pos rfl lU pF lx ly xl qW (fun c hc=>by have:=x6 c hc;simpa using this) x7 rD
   ·obtain⟨newCap,rest,gQ,kZ,dN⟩:=AK (P:=P) (w:=w) (ty:=ty) (n:=xs.length) (m:=ys.length) (cap:=T.cap) (c:=cy) (base:=some ⟨T.blk,0,none⟩) (a:=ay) (f:=fx) (g:=fy) hT hu pF
     (EU hT (by omega) rr) (fun b e c hc=>by injection e with e;subst e;rw[addr_add];exact h.rel.fM _ _ _ (x6 c hc)) (fun e=>by cases e) rk
    refine⟨_,_,dN,?_⟩
    exact afw h hd hr hg jo ht eV hT.pos rfl lU lx ly xl qW x7 rD gQ kZ
end
end Go.Ax
/-
  append to a slice whose elements may be written to: a box that takes another's place.
-/
namespace Go.Ax
open Go.RowKit
section
variable{P:Program} {B0:Nat} {w0:World} {G:aH} {k nl:Nat} {w:World} {s:ae}
theorem At.drew (h:At P B0 w0 G k nl s w):At P B0 w0 G k nl s w.drew:=⟨h.rel.drew,h.len,h.cur⟩
theorem BT {α:Type} {es:Nat} (h0:0<es):∀{ys:List (List α)},(∀r,r∈ys→r.length=es)→ys.flatten.length=ys.length*es∧∀c (hc:c<ys.flatten.length),∃(h1:c/es<ys.length) (h2:c%es<(ys[c/es]).length),ys.flatten[c]=ys[c/es][c%es]
 |[],_=>⟨by simp,fun c hc=>by simp at hc⟩
 | r :: ys, h => by
  have hr:=h r (by simp)
  obtain⟨e1,e2⟩:=BT h0 (ys:=ys) fun q hq=>h q (cD _ hq)
  refine⟨by rw[qO,cG,e1,hr,cH,iM];omega,fun c hc=>?_⟩
  by_cases aB:c<es
  ·have d1:c/es=0:=NZ aB
   have d2:c%es=c:=DP aB
   refine⟨by rw[d1];simp,by simp only[d1,d2,wL];omega,?_⟩
   simp only[d1,d2,wL,qO]
   rw[wJ (by omega)]
  ·have xQ:es≤c:=by omega
   have d1:c/es=(c-es)/es+1:=by rw[Nat.div_eq_sub_div h0 xQ]
   have d2:c%es=(c-es)%es:=by rw[Nat.mod_eq_sub_mod xQ]
   have mm:c-es<ys.flatten.length:=by
    rw[qO,cG,hr]at hc
    omega
   obtain⟨g1,g2,g3⟩:=e2 (c-es) mm
   refine⟨by rw[d1];simp;exact g1,by simp only[d1,d2,IZ];exact g2,?_⟩
   simp only[d1,d2,IZ,qO]
   rw[wK (by omega)]
   simp only[hr]
   exact g3
theorem acK (h:At P B0 w0 G k nl s w) {b es n rc:Nat} {cs ds:List AV} {r:Rec} {gr:dF} {blk iO:Nat} {arr':Array Value} {Nj:TypeId} {w':World} (hr:s.ag[k]? =some r) (hg:G.ag[k]? =some gr)
  (hb:r.boxes[b]? =some cs) (db:gr.bl[b]? =some (some blk)) (fL:cs≠[]) (aF:ds≠[]) (bw:∀c,c∈ds→c.bK=true) (hR:mc (Rel G k nl) ds arr') (hw:w'.heap[iO]? =some (.cells arr' Nj))
  (hold:∀c,c<w.heap.size→c≠iO→w'.heap[c]? =w.heap[c]?) (kD:iO=blk∨iO=w.heap.size) (Hf:Below B0 w w') (cj:w.heap.size≤w'.heap.size) (anO:arr'.size=rc*es) (hn:n≤rc):
  ek P B0 w0 G k nl s (s.sX b ds) w' (.aN s.cur (s.cE s.cur) 0 es n 0) (.slice (some ⟨iO,0,none⟩) n rc):=by
 have kX:gr.nl=nl:=by obtain⟨g',e1,e2⟩:=h.cur;rw[hg]at e1;injection e1 with e1;rw[e1];exact e2
 have aT:=h.rel.dt k r gr hr hg
 have dC:=aT.box b cs blk hb db
 obtain⟨b1,⟨x0,b2,Oo⟩,b3,Jp,Nk,b4,_⟩:=dC
 have nU:=Oo fL
 have b3:=b3 fL
 subst nU
 have aAW:=h.rel.fq _ _ b2
 have amO:iO<w'.heap.size:=by
  rcases kD with e|e
  ·omega
  ·rw[e]
   apply tj
   intro hc
   rw[e]at hw
   have:=(uI.1 hw).1
   omega
 have YZ:∀i,G.I iO i=none:=by
  rcases kD with e|e
  ·rw[e];exact b3
  ·rw[e];exact h.rel.wF
 have hB:B0≤iO:=by
  rcases kD with e|e
  ·rw[e];exact b1
  ·rw[e];exact h.rel.low
 have LO:x0<r.boxes.length:=(bI.1 hb).1
 let T:lA:=⟨none,0,0,0⟩
 let gf:dF→dF:=fun q=>{q with bl:=q.bl++[some iO],tk:=q.tk++[T],gs:=fun j=>if j=r.boxes.length then some (rc*es)else q.gs j}
 let G':aH:={G with ag:=G.ag.modify k gf,own:=fun c=>if c=iO then some (.box k r.boxes.length)else G.own c}
 have hk:j9 (· =.box k x0) G w G' w':=fun c o e aF=>by
  have aB:=h.rel.fq c o e
  have hc:c≠iO:=by
   rintro rfl
   rcases kD with e'|e'
   ·rw[e',b2]at e;injection e with e;exact aF e.symm
   ·omega
  exact⟨by simp only[G'];rw[ak hc];exact e,hold c aB hc,fun _ e=>e⟩
 have gE:jz gr (gf gr):=⟨fun j q e=>qg e,fun g U e=>⟨U,qg e,.refl U⟩,rfl,fun j m e=>by
  obtain⟨q,hq⟩:=aT.qi j m e
  have:=(bI.1 hq).1
  rw[aT.gV]at this
  simp only[gf]
  rw[ak (by omega)];exact e⟩
 have hle:bL k nl G G':=⟨fun _ _ _ e=>e,fun d q _ e=>by
  simp only[G',eE]
  by_cases hd:k=d
  ·subst hd
   rw[hg]at e
   injection e with e
   subst e
   exact⟨_,by rw[aj rfl,hg];rfl,gE,fun _=>rfl⟩
  ·exact⟨q,by rw[ak hd];exact e,.refl q,fun _=>rfl⟩,fun _ _ _ e=>e⟩
 have iY:=h.rel.bG (G':=G') (w':=w') hr hg (fun r=>{r with boxes:=r.boxes.set x0 []++[ds],toks:=r.toks++[none]}) gf (· =.box k x0) rfl rfl (fun _ _ _ e=>e) gE rfl hk
  (fun o ho=>.inl ⟨_,ho⟩) ?_ (fun c i v e=>?_) Hf (fun c o e=>?_)
 ·obtain⟨hs,lQ⟩:=iY
  have oO:cQ P B0 w0 G' (s.sX x0 ds) w':=by
   simp only[ae.sX,h.iQ]
   exact hs
  have hlen:(s.sX x0 ds).ag.length=s.ag.length:=by simp[ae.sX,ae.bG]
  have eP:=h.to oO hle hlen
  have CB:s.cE s.cur=r.boxes.length:=by simp[ae.cE,h.iQ,hr]
  have hH:G'.ag[k]? =some (gf gr):=by
   show(G.ag.modify k _)[k]? =_
   rw[eE,aj rfl,hg];rfl
  have Hq:(gf gr).bl[r.boxes.length]? =some (some iO):=by
   show(gr.bl++[some iO])[r.boxes.length]? =_
   rw[←aT.gV,jy (aI _)]
   simp
  refine⟨G',eP,lQ _ _,by simp[ae.sX,ae.bG],?_⟩
  rw[CB,h.iQ]
  exact .aN _ (aI _) hH Hq hn (aV _) (fun _ _=>by simp only[gf];rw[aj trivial]) (fun _=>rfl)
 ·have sL:∀(j:Nat) (q:List AV),(r.boxes.set x0 []++[ds])[j]? =some q→(j=r.boxes.length∧q=ds)∨(j=x0∧q=[])∨(j≠x0∧j<r.boxes.length∧r.boxes[j]? =some q):=fun j q e=>by
   rcases gi e with⟨hj,e⟩|⟨hj,e⟩
   ·rw[tt]at hj
    rw[qP]at e
    by_cases vD:x0=j
    ·subst vD
     rw[aj rfl,aj hj]at e
     injection e with e
     exact .inr (.inl ⟨rfl,e.symm⟩)
    ·rw[ak vD]at e
     exact .inr (.inr ⟨fun e=>vD e.symm,hj,e⟩)
   ·rw[tt]at hj
    exact .inl ⟨hj,e⟩
  have Zc:∀(j q:Nat),j<r.boxes.length→(gf gr).bl[j]? =some (some q)→gr.bl[j]? =some (some q):=fun j q hj e=>by
   rcases gi e with⟨_,e⟩|⟨dx,_⟩
   ·exact e
   ·rw[aT.gV]at dx;omega
  have dead:∀(j q:Nat),gr.bl[j]? =some (some q)→j<r.boxes.length→rR B0 G' k gr.nl j ((gf gr).gs j) [] q w':=fun j q e hj=>by
   obtain⟨q1,⟨x,q2,q2'⟩,q3,Jq,T0,q4,_⟩:=aT.box j _ q (dq hj) e
   by_cases RM:q=iO
   ·subst RM
    exact⟨q1,⟨r.boxes.length,by simp[G'],fun hn=>absurd rfl hn⟩,fun hn=>absurd rfl hn,arr',Nj,hw,aV _,fun hn=>absurd rfl hn,fun i hi=>absurd hi (dH _)⟩
   ·exact⟨q1,⟨x,by simp only[G'];rw[ak RM];exact q2,fun hn=>absurd rfl hn⟩,fun hn=>absurd rfl hn,Jq,T0,(hold q (h.rel.fq _ _ q2) RM).trans q4,aV _,fun hn=>absurd rfl hn,fun i hi=>absurd hi (dH _)⟩
  refine⟨by simp[gf,aT.gV],by simp[gf,aT.jx],fun j q Bc e1 e2=>?_,fun j q e1 e2=>by simp,fun g m U e1 e2=>?_,fun i c e1=>?_,fun j m e1=>?_⟩
  ·rcases sL j q e1 with⟨rfl,rfl⟩|⟨rfl,rfl⟩|⟨vD,hj,e1⟩
   ·have xN:Bc=iO:=by
     rcases gi e2 with⟨dx,_⟩|⟨_,e⟩
     ·rw[aT.gV]at dx;omega
     ·injection e
    subst xN
    refine⟨hB,⟨_,by simp[G'],fun _=>rfl⟩,fun _=>YZ,arr',Nj,hw,hR.1,fun _ m hm=>?_,fun i hi=>⟨bw _ (iz hi),?_⟩⟩
    ·simp only[gf]at hm
     rw[aj trivial]at hm
     injection hm with hm
     rw[anO,hm]
    ·have:=(hR.2 i hi).mono hle (aI _) (aI _)
     show Rel G' k gr.nl _ _
     rw[kX];exact this
   ·exact dead _ _ (Zc _ _ LO e2) LO
   ·have jB:=Zc _ _ hj e2
    by_cases HF:q=[]
    ·subst HF;exact dead _ _ jB hj
    ·have Cv:=aT.box j q Bc e1 jB
     obtain⟨x,y1,y2⟩:=Cv.2.1
     obtain⟨k1,k2,k3⟩:=hk _ _ y1 (fun e=>by injection e with _ e;rw[y2 HF]at e;exact vD e)
     have:=Cv.dj (G':=G') (w':=w') (by rw[kX];exact hle) (fun z e=>by rw[y1]at e;injection e with e;rw[←e];exact k1) k2 k3
     show rR B0 G' k gr.nl j (if j=r.boxes.length then some (rc*es)else gr.gs j) q Bc w'
     rw[ak (by omega)];exact this
  ·rcases gi e1 with⟨aB,e1⟩|⟨kz,rfl⟩
   ·have jB:gr.tk[g]? =some U:=by
     rcases gi e2 with⟨_,e2⟩|⟨kq,_⟩
     ·exact e2
     ·rw[aT.jx]at kq;omega
    have ht:=aT.tok g m U e1 jB
    have hs:∀(hn:m.isSome=true),G'.own U.blk=some (.tok k g)∧w'.heap[U.blk]? =w.heap[U.blk]? ∧∀i,G.I U.blk i=none→G'.I U.blk i=none:=fun hn=>by
     obtain⟨q,hq⟩:=tB.1 hn
     exact hk _ _ (ht.2 q hq).2.1 (fun e=>by cases e)
    exact ht.dj (fun hn=>(hs hn).1) (fun hn=>(hs hn).2.1) (fun hn=>(hs hn).2.2)
   ·have:U=T:=by
     rcases gi e2 with⟨kq,_⟩|⟨_,e⟩
     ·rw[aT.jx]at kq;omega
     ·exact e
    subst this
    exact⟨rfl,fun q hq=>by cases hq⟩
  ·have hm:=aT.mark i c e1
   obtain⟨k1,k2,_⟩:=hk _ _ hm.2.1 (fun e=>by cases e)
   exact hm.dj k1 k2
  ·simp only[gf]at e1
   split at e1
   ·rename_i hj
    subst hj
    refine⟨iO,?_⟩
    show(gr.bl++[some iO])[r.boxes.length]? =_
    rw[←aT.gV,jy (aI _)]
    simp
   ·obtain⟨q,hq⟩:=aT.qi j m e1
    exact⟨q,qg hq⟩
 ·have hc:c≠iO:=by
   rintro rfl
   have:G.I c i=some v:=e
   rw[YZ]at this;cases this
  rw[Gx (hold c (h.rel.uL e) hc) rfl]
  exact h.rel.fM c i v e
 ·simp only[G']at e
  split at e
  ·rename_i hb;subst hb;exact amO
  ·have:=h.rel.fq c o e;omega
theorem ac8:∀(vs:List Value) (arr:Array Value) (o i:Nat),o+vs.length≤arr.size→(jw arr o vs).getD i Go.undef=if o≤i∧i<o+vs.length then vs.getD (i-o) Go.undef else arr.getD i Go.undef
 |[],arr,o,i,_=>by
  rw[ak (by simp only[jU];omega)];rfl
 | v :: r, arr, o, i, h => by
  have hl:(v::r).length=r.length+1:=rfl
  rw[hl]at h⊢
  simp only[jw]
  rw[ac8 r (arr.setIfInBounds o v) (o+1) i (by simp;omega)]
  by_cases h1:i=o
  ·subst h1
   rw[ak (by omega),aj (by omega)]
   have:i<arr.size:=by omega
   simp[Array.getD,this]
  ·by_cases h2:o+1≤i∧i<o+1+r.length
   ·rw[aj h2,aj (by omega)]
    obtain⟨j,hj⟩:∃j,i-o=j+1:=⟨i-o-1,by omega⟩
    rw[hj,show i-(o+1)=j by omega];rfl
   ·rw[ak h2,ak (by omega)]
    by_cases h3:i<arr.size
    ·have h4:¬o=i:=fun e=>h1 e.symm
     simp[Array.getD,h3,h4]
    ·simp[Array.getD,h3]
theorem TB {cs ds:List AV} {f g:Nat→Value} {rest:List Value} {n m:Nat} {R:AV→Value→Prop} (hn:cs.length=n) (hm:ds.length=m) (hc:∀i (hi:i<cs.length),R cs[i] (f i)) (hd:∀i (hi:i<ds.length),R ds[i] (g i)):
  mc R (cs++ds) ((List.range (n+m)).map (both n f g)++rest).toArray:=by
 refine⟨by simp;omega,fun i hi=>?_⟩
 rw[cG]at hi
 have dW:((List.range (n+m)).map (both n f g)++rest).toArray.getD i Go.undef=both n f g i:=by
  have h1:i<n+m:=by omega
  have h2:i<n+m+rest.length:=by omega
  simp only[Array.getD,DK,cG,cg,tq,h2,dite_true]
  simp[List.getElem_append,h1]
 rw[dW]
 unfold both
 by_cases hl:i<cs.length
 ·rw[wJ hl,aj (by omega)];exact hc i hl
 ·rw[wK (by omega),ak (by omega)]
  subst hn
  exact hd (i-cs.length) (by omega)
theorem Vj (h : At P B0 w0 G k nl s w) {t u e ty : TypeId} {es gB : Nat} {z : Value} (hT : wD P t e es gB z) (hu : ∃ e', P.underlying u = some (.slice e')) {a b v : AV} {x y : Value} {s' : ae}
    (hx:Rel G k nl a x) (hy:Rel G k nl b y) (ha:mO s es a b=some (v,s')):
    ∃ x' w', (Builtin.append_ #[t, u] ty #[x, y]).run P w = .ok x' w' ∧ ek P B0 w0 G k nl s s' w' v x' := by
  unfold mO at ha
  split at ha
  case h_2=>cases ha
  rename_i oy e2 ys
  split at ha
  · rename_i lb
    have lb:ys=[]:=by simpa using lb
    subst lb
    have rE:∃bb c,y=.slice bb 0 c:=by
      rcases hy.kH with⟨_,_,rfl⟩|⟨_,aa,c,rfl,_⟩
      · exact⟨_,_,rfl⟩
      · exact⟨_,_,rfl⟩
    obtain⟨bb,c,rfl⟩:=rE
    split at ha
    · rename_i o e1 xs
      injection ha with ha
      injection ha with h1 h2
      subst h1 h2
      have qz:ek P B0 w0 G k nl s s w (.slice o e1 xs) x:=⟨G,h,bL.refl _ _ _,rfl,hx⟩
      rcases hx.kH with⟨_,_,rfl⟩|⟨_,aa,cap,rfl,_,hle,_⟩
      · exact⟨_,w,DY hT hu none bb c (aI _),qz⟩
      · exact⟨_,w,DY hT hu (some aa) bb c hle,qz⟩
    · rename_i d b off e1 n cap
      injection ha with ha
      injection ha with h1 h2
      subst h1 h2
      have qz:ek P B0 w0 G k nl s s w (.aN d b off e1 n cap) x:=⟨G,h,bL.refl _ _ _,rfl,hx⟩
      obtain⟨blk,gr,rc,o0,rfl,_,_,_,hn,_⟩:=hx.sR
      exact⟨_,w,DY hT hu (some _) bb c hn,qz⟩
    · cases ha
  · rename_i lb
    split at ha
    case isFalse=>cases ha
    rename_i kv
    subst kv
    have lU:0<ys.length:=by
      cases ys with
      |nil=>simp at lb
      |cons=>simp
    rcases hy.kH with⟨_,hn,_⟩|⟨_,ay,cy,rfl,_,_,rE,_⟩
    · rw[hn]at lU;simp at lU
    obtain⟨zH,Hk,ly,qW,fy,zG,rD⟩:=ga.flat rE hT.pos
    have zh:ay=⟨ay.block,ay.off,none⟩:=yx (zH (by omega))
    have rk:∀c,c<ys.length*e2→w.cell? (ay.add c)=some (fy c):=fun c hc=>by
      rw[zh,addr_add];exact h.rel.fM _ _ _ (zG c hc)
    obtain⟨tR,GW⟩:=BT hT.pos ly
    have HM:∀c (hc:c<ys.flatten.length),bN G.I ys.flatten[c] (fy c):=fun c hc=>by
      obtain⟨g1,g2,g3⟩:=GW c hc
      rw[g3]
      have:=rD _ g1 _ g2
      rw[AB]at this
      exact this
    have aan:∀c,c∈ys.flatten→c.bK=true:=fun c hc=>by
      obtain⟨r,hr,vy⟩:=DG.1 hc
      exact qW r hr c vy
    have Mx:ys.flatten≠[]:=fun e=>by
      have:=gX List.length e
      rw[tR]at this
      have h2:=US lU hT.pos
      simp only[jU]at this
      omega
    split at ha
    · rename_i o e1 xs
      split at ha
      case isFalse=>cases ha
      rename_i cu
      obtain⟨cu,rr⟩:=cu
      injection ha with ha
      injection ha with h1 h2
      subst h1 h2
      have fin:∀(base:Option Addr) (cx:Nat) (f:Nat→Value),cx=xs.length→(∀r,r∈xs→r.length=e2)→(∀r,r∈xs→∀c,c∈r→c.bK=true)→(∀i (hi:i<xs.length) j (hj:j<xs[i].length),bN G.I (xs[i][j]) (f (i*e2+j)))→
          (∀b,base=some b→∀c,c<xs.length*e2→w.cell? (b.add c)=some (f c))→(base=none→xs.length=0)→
          ∃ x' w', (Builtin.append_ #[t, u] ty #[.slice base xs.length cx, .slice (some ay) ys.length cy]).run P w = .ok x' w' ∧ ek P B0 w0 G k nl s (s.eG (xs.flatten ++ ys.flatten)).2 w' (.aN s.cur (s.cE s.cur) 0 e2 (xs.length + ys.length) 0) x' := by
        intro base cx f mn lx xl x7 hf mo
        subst mn
        obtain⟨newCap,rest,gQ,kZ,dN⟩:=AK (P:=P) (w:=w) (ty:=ty) (n:=xs.length) (m:=ys.length) (cap:=xs.length) (c:=cy) (base:=base) (a:=ay) (f:=f) (g:=fy) hT hu (by omega) (EU hT (by omega) rr) hf mo rk
        refine⟨_,_,dN,?_⟩
        obtain⟨gl1,gl2⟩:=BT hT.pos lx
        have an6:∀c (hc:c<xs.flatten.length),bN G.I xs.flatten[c] (f c):=fun c hc=>by
          obtain⟨g1,g2,g3⟩:=gl2 c hc
          rw[g3]
          have:=x7 _ g1 _ g2
          rw[AB]at this
          exact this
        have cw:=TB (R:=Rel G k nl) (cs:=xs.flatten) (ds:=ys.flatten) (f:=f) (g:=fy) (rest:=rest) gl1 tR (fun i hi=>.cl (an6 i hi)) (fun i hi=>.cl (HM i hi))
        have cj:((List.range (xs.length*e2+ys.length*e2)).map (both (xs.length*e2) f fy)++rest).toArray.size=newCap*e2:=by
          simp only[DK,cG,cg,tq,kZ]
          rw[←iM,←iM]
          congr 1;omega
        exact(C2 h.drew e (some (newCap*e2)) (fun n hn=>by injection hn with hn;rw[cj,hn]) (fun e=>Mx (Ur.1 e).2) (fun c hc=>by
          rcases dR.1 hc with hc|hc
          · obtain ⟨r, hr, vy⟩ := DG.1 hc
            exact xl r hr c vy
          · exact aan c hc) cw).2.2 e2 (xs.length+ys.length) 0 newCap gQ (aV _) (fun _ _=>rfl)
      rcases hx.kH with⟨_,rfl,rfl⟩|⟨hnn,ax,cx,rfl,_,_,kG,Cs⟩
      · exact fin none 0 (fun _=>Go.undef) rfl (by simp) (by simp) (fun i hi=>absurd hi (dH _)) (fun _ e=>by cases e) (fun _=>rfl)
      · rcases cu with hc | ⟨hc, he⟩
        · cases o <;> simp [Own.isNil] at hc
          exact absurd rfl hnn
        · subst he
          have ho:o=.full:=by cases o<;>simp[Own.isFull]at hc⊢
          have mn:=Cs ho
          obtain⟨R3,_,lx,xl,fx,x6,x7⟩:=ga.flat kG hT.pos
          have vt:∀c,c<xs.length*e1→ax=⟨ax.block,ax.off,none⟩:=fun c hc=>yx (R3 (by
            rcases DN xs.length with h0|h0
            · rw[h0]at hc;simp at hc
            · omega))
          exact fin (some ax) cx fx mn lx xl x7 (fun b e c hc=>by injection e with e;subst e;rw[vt c hc,addr_add];exact h.rel.fM _ _ _ (x6 c hc)) (fun e=>by cases e)
    · rename_i d b off e1 n cap
      split at ha
      case isFalse=>cases ha
      rename_i cu
      obtain⟨rfl,rfl,rfl,iC,rfl,rr⟩:=cu
      split at ha
      case h_2=>cases ha
      rename_i cs tZ
      split at ha
      case isFalse=>cases ha
      rename_i aQ
      injection ha with ha
      injection ha with h1 h2
      subst h1 h2
      rw[h.iQ]at tZ hx
      obtain⟨blk,gr,rc,o0,rfl,hd,hg,db,ZM,_,hw,ho⟩:=hx.sR
      have ho:=ho (.inl iC)
      subst ho
      have Rs:=hw rfl iC
      obtain⟨r,hr,dC,LP,arr,tb,ug,cw,RN⟩:=h.box hd tZ hg db
      have fL:cs≠[]:=fun e=>by
        rw[e]at aQ
        have:=US iC hT.pos
        simp only[jU]at aQ
        omega
      obtain⟨_,_,hI0,Jq,tb1,L1,_,anW,_⟩:=LP
      rw[ug]at L1
      injection L1 with L1
      injection L1 with q1 q2
      subst q1 q2
      have Cg:=anW fL _ Rs
      have aF:cs++ys.flatten≠[]:=fun e=>Mx (Ur.1 e).2
      have Y7:∀c,c∈cs++ys.flatten→c.bK=true:=fun c hc=>by
        rcases dR.1 hc with hc|hc
        · exact RN c hc
        · exact aan c hc
      by_cases pF:n+ys.length≤rc
      · have hle : (n + ys.length) * e1 ≤ arr.size := by rw [Cg]; exact pd _ pF
        refine⟨_,_,Vi (P:=P) (ty:=ty) (n:=n) (m:=ys.length) (c:=cy) (a:=ay) (g:=fy) hT hu pF rk ug hle (fun c hc=>?_),?_⟩
        · have h1 : c / e1 < ys.length := by rw [UL hT.pos]; exact hc
          have h2:c%e1<(ys[c/e1]).length:=by rw[ly _ (iz h1)];exact uN _ hT.pos
          have hr:=rD _ h1 _ h2
          rw[AB]at hr
          exact S5 (G:=G) (k:=k) (nl:=nl) (.cl hr) (qW _ (iz h1) _ (iz h2))
        · have hB := (h.rel.dt k r gr hr hg).box b cs blk dC db
          refine acK h hr hg dC db fL aF Y7 (arr':=jw arr (n*e1) ((List.range (ys.length*e1)).map fy)) ?_ (LW _ _ _ _ ug) (fun c _ hc=>LX hc _ _ _) (.inl rfl) (KH hB.1 _ _ _) (by rw[Nb];exact aI _) (by rw[It];exact Cg) pF
          rw[iM]at hle
          refine⟨by rw[It,cG,aQ,tR];exact hle,fun i hi=>?_⟩
          rw[cG,aQ,tR]at hi
          rw[ac8 _ _ _ _ (by simpa using hle)]
          by_cases hl:i<cs.length
          · rw[wJ hl,ak (by omega)];exact cw.2 i hl
          · rw [wK (by omega), aj (by simp; omega)]
            have jG:i-n*e1<ys.length*e1:=by omega
            have:=HM (i-cs.length) (by rw[tR];omega)
            have nK:((List.range (ys.length*e1)).map fy).getD (i-n*e1) Go.undef=fy (i-cs.length):=by
              rw[aQ]
              simp[List.getD,jG]
            rw[nK]
            exact .cl this
      · obtain ⟨newCap, rest, gQ, kZ, dN⟩ := AK (P := P) (w := w) (ty := ty) (n := n) (m := ys.length) (cap := rc) (c := cy) (base := some ⟨blk, 0, none⟩) (a := ay) (f := fun c => arr.getD c Go.undef) (g := fy) hT hu pF
          (EU hT pF rr) (fun b e c hc => by
            injection e with e;subst e
            rw[addr_add,cell_of_heap ug,gU]
            have:c<arr.size:=by
              have:=cw.1
              rw[aQ]at this;omega
            simp[Array.getD,this]) (fun e=>by cases e) rk
        refine⟨_,_,dN,?_⟩
        have RP:=TB (R:=Rel G k nl) (cs:=cs) (ds:=ys.flatten) (f:=fun c=>arr.getD c Go.undef) (g:=fy) (rest:=rest) aQ tR cw.2 (fun i hi=>.cl (HM i hi))
        have cj:((List.range (n*e1+ys.length*e1)).map (both (n*e1) (fun c=>arr.getD c Go.undef) fy)++rest).toArray.size=newCap*e1:=by
          simp only[DK,cG,cg,tq,kZ]
          rw[←iM,←iM]
          congr 1;omega
        exact acK h hr hg dC db fL aF Y7 RP (World.alloc_heap_new w.drew _) (fun c hc _=>Below.heap_alloc w.drew _ _ hc) (.inr rfl) (((Below.refl _ _).drew).alloc h.rel.low _) (by simp) cj gQ
    · cases ha
theorem afz (h:At P B0 w0 G k nl s w) {t u e ty:TypeId} {es gB:Nat} {z:Value} (hT:wD P t e es gB z) (vu:gB≤8*es) (hu:∃e',P.underlying u=some (.slice e')) {a b v:AV} {x y:Value} {s':ae}
  (hx:Rel G k nl a x) (hy:Rel G k nl b y) (ha:yA s es a b=some (v,s')):
  ∃ x' w', (Builtin.append_ #[t, u] ty #[x, y]).run P w = .ok x' w' ∧ ek P B0 w0 G k nl s s' w' v x' := by
 unfold yA at ha
 split at ha
 case h_2=>cases ha
 rename_i o e1 xs oy e2 ys
 split at ha
 ·cases ha
 rename_i xU
 split at ha
 case isFalse=>exact Vj h hT hu hx hy ha
 rename_i cu
 obtain⟨rfl,hof,rfl,rfl,ZH,ZE⟩:=cu
 injection ha with ha
 injection ha with h1 h2
 subst h1 h2
 have ho:o=.full:=by cases o<;>simp[Own.isFull]at hof⊢
 subst ho
 have lU:0<ys.length:=by omega
 rcases hy.kH with⟨_,hn,_⟩|⟨_,ay,cy,rfl,_,_,rE,_⟩
 ·rw[hn]at lU;simp at lU
 obtain⟨zH,Hk,ly,qW,fy,zG,rD⟩:=ga.flat rE hT.pos
 have zh:ay=⟨ay.block,ay.off,none⟩:=yx (zH (by omega))
 have rk:∀c,c<ys.length*e2→w.cell? (ay.add c)=some (fy c):=fun c hc=>by
  rw[zh,addr_add];exact h.rel.fM _ _ _ (zG c hc)
 obtain⟨tR,GW⟩:=BT hT.pos ly
 have HM:∀c (hc:c<ys.flatten.length),bN G.I ys.flatten[c] (fy c):=fun c hc=>by
  obtain⟨g1,g2,g3⟩:=GW c hc
  rw[g3]
  have:=rD _ g1 _ g2
  rw[AB]at this
  exact this
 have Mx:ys.flatten≠[]:=fun e=>by
  have:=gX List.length e
  rw[tR]at this
  have h2:=US lU hT.pos
  simp only[jU]at this
  omega
 rcases hx.kH with⟨HA,_,_⟩|⟨_,ax,cx,rfl,_,_,kG,Cs⟩
 ·cases HA
 have mn:cx=0:=Cs rfl
 subst mn
 obtain⟨newCap,rest,gQ,kZ,dN⟩:=AK (P:=P) (w:=w) (ty:=ty) (n:=0) (m:=ys.length) (cap:=0) (c:=cy) (base:=some ax) (a:=ay) (f:=fun _=>Go.undef) (g:=fy) hT hu (by omega) (by
  have hn:Builtin.nextslicecap (0+ys.length) 0=ys.length:=by
   unfold Builtin.nextslicecap
   rw[aj (by omega)];omega
  rw[hn]
  exact mN (mN (UR _ vu) ZE) (by decide)) (fun b _ c hc=>by simp at hc) (fun e=>by cases e) rk
 rw[gU]at dN gQ kZ
 refine⟨_,_,dN,?_⟩
 have cw:=TB (R:=Rel G k nl) (cs:=[]) (ds:=ys.flatten) (n:=0) (f:=fun _=>Go.undef) (g:=fy) (rest:=rest) rfl tR (fun i hi=>by simp at hi) (fun i hi=>.cl (HM i hi))
 rw[gL]at cw
 have cj:((List.range (0*e2+ys.length*e2)).map (both (0*e2) (fun _=>Go.undef) fy)++rest).toArray.size=newCap*e2:=by
  simp only[DK,cG,cg,tq,kZ]
  rw[←iM,←iM]
  congr 1;omega
 exact(C2 h.drew e (some (newCap*e2)) (fun n hn=>by injection hn with hn;rw[cj,hn]) Mx (fun c hc=>by
  obtain⟨r,hr,vy⟩:=DG.1 hc
  exact qW r hr c vy) (by simpa using cw)).2.2 e2 ys.length 0 newCap gQ (aV _) (fun _ _=>rfl)
end
end Go.Ax
/-
  Stores: what goes into an outer activation's box.
-/
namespace Go.Ax
open Go.RowKit
section
variable{P:Program} {B0:Nat} {w0:World} {G:aH} {k nl:Nat} {w:World} {s:ae}
theorem abB {s:ae} {d:Nat} {r:Rec} (h:s.ag[d]? =some r):s.j4 d=r.toks.length:=by simp[ae.j4,h]
theorem ad0 {s:ae} {d g n:Nat} (h:s.tok d g=some n):∃r,s.ag[d]? =some r∧r.toks[g]? =some (some n):=by
 unfold ae.tok at h
 cases hr:s.ag[d]? with
 |none=>rw[hr]at h;cases h
 |some r=>
  rw[hr]at h
  simp only[dI]at h
  cases hq:r.toks[g]? with
  |none=>rw[hq]at h;cases h
  |some q=>rw[hq]at h;simp only[Option.join_some]at h;subst h;exact⟨r,rfl,hq⟩
theorem ais (h:cQ P B0 w0 G s w) {d g n:Nat} {r:Rec} {gr:dF} {T:lA} (hr:s.ag[d]? =some r) (hg:G.ag[d]? =some gr) (jo:r.toks[g]? =some (some n)) (lP:gr.tk[g]? =some T):
  ∃G',G'.ag=G.ag.modify d (fun q=>{q with tk:=q.tk.set g {T with n:=none}})∧G'.I=G.I∧G'.own T.blk=none∧(∀b o,G'.own b=some o→G.own b=some o∧b≠T.blk)∧cQ P B0 w0 G' (s.mH d g none) w∧∀k nl,bL k nl G G':=by
 have aT:=h.dt d r gr hr hg
 obtain⟨pn,sw⟩:=aT.tok g (some n) T jo lP
 obtain⟨t1,t2,t3,t4,t5,arr,ty,t6,t7⟩:=sw _ rfl
 let G':aH:={G with ag:=G.ag.modify d fun q=>{q with tk:=q.tk.set g {T with n:=none}},own:=fun b=>if b=T.blk then none else G.own b}
 have hk:j9 (· =.tok d g) G w G' w:=fun b o ho aF=>by
  refine⟨?_,rfl,fun _ e=>e⟩
  simp only[G']
  rw[ak]
  ·exact ho
  ·rintro rfl
   rw[t2]at ho
   injection ho with ho
   exact aF ho.symm
 have gE:jz gr {gr with tk:=gr.tk.set g {T with n:=none}}:=⟨fun b blk e=>e,fun j U e=>by
  by_cases hj:j=g
  ·subst hj
   rw[lP]at e
   injection e with e
   subst e
   exact⟨_,Ae lP,rfl,.inr (.inl rfl)⟩
  ·exact⟨U,by show(gr.tk.set g _)[j]? =_;rw[qP,ak (fun e=>hj e.symm)];exact e,.refl U⟩,rfl,fun _ _ e=>e⟩
 have zo:bL d gr.nl G G':=⟨fun _ _ _ e=>e,fun d' q _ e=>by
  show∃bP,(G.ag.modify d _)[d']? =some bP∧_
  rw[eE]
  by_cases xP:d=d'
  ·subst xP
   rw[hg]at e
   injection e with e
   subst e
   exact⟨_,by rw[aj rfl,hg];rfl,gE,fun _=>rfl⟩
  ·exact⟨q,by rw[ak xP];exact e,.refl q,fun _=>rfl⟩,fun _ _ _ e=>e⟩
 have iY:=h.bG (G':=G') (w':=w) hr hg (fun r=>{r with toks:=r.toks.set g none}) (fun q=>{q with tk:=q.tk.set g {T with n:=none}}) (· =.tok d g) rfl rfl (fun _ _ _ e=>e) gE rfl hk
  (fun o ho=>.inr ⟨_,ho⟩) ?_ h.fM (Below.refl _ _) (fun b o e=>?_)
 ·refine⟨G',rfl,rfl,by simp[G'],fun b o e=>?_,iY.1,iY.2⟩
  simp only[G']at e
  split at e
  ·cases e
  ·exact⟨e,by assumption⟩
 ·refine aT.tokens (toks':=r.toks.set g none) (tk':=gr.tk.set g {T with n:=none}) zo hk (by simp[aT.jx]) (fun hm=>abA hm (.inl rfl)) (fun j p U e1 e2=>?_)
  rcases Dl e1 with⟨aF,e1⟩|⟨rfl,rfl,_⟩
  ·rcases Dl e2 with⟨_,e2⟩|⟨hj,_⟩
   ·exact .inl ⟨aF,e1,e2⟩
   ·exact absurd hj aF
  ·rcases Dl e2 with⟨hj,_⟩|⟨_,rfl,_⟩
   ·exact absurd rfl hj
   ·exact .inr ⟨rfl,rfl,fun m hm=>by cases hm⟩
 ·simp only[G']at e
  split at e
  ·cases e
  ·exact h.fq b o e
theorem U4 (h:cQ P B0 w0 G s w) {d n:Nat} {r:Rec} {gr:dF} {T:lA} (hr:s.ag[d]? =some r) (hg:G.ag[d]? =some gr) (Rq:G.own T.blk=none) (pn:T.n=some n)
  (hT:B0≤T.blk∧(∀i,n*T.es≤i→G.I T.blk i=none)∧n≤T.cap∧0<T.es∧∃arr ty,w.heap[T.blk]? =some (.cells arr ty)∧arr.size=T.cap*T.es):
  ∃G',G'.ag=G.ag.modify d (fun q=>{q with tk:=q.tk++[T]})∧G'.I=G.I∧cQ P B0 w0 G' (s.lB d n) w∧∀k nl,bL k nl G G':=by
 have aT:=h.dt d r gr hr hg
 obtain⟨t1,t3,t4,t5,arr,ty,t6,t7⟩:=hT
 let G':aH:={G with ag:=G.ag.modify d fun q=>{q with tk:=q.tk++[T]},own:=fun b=>if b=T.blk then some (.tok d r.toks.length)else G.own b}
 have hk:j9 (· =.tok d r.toks.length) G w G' w:=fun b o ho _=>by
  refine⟨?_,rfl,fun _ e=>e⟩
  simp only[G']
  rw[ak]
  ·exact ho
  ·rintro rfl
   rw[Rq]at ho
   cases ho
 have gE:jz gr {gr with tk:=gr.tk++[T]}:=⟨fun b blk e=>e,fun g U e=>⟨U,qg e,.refl U⟩,rfl,fun _ _ e=>e⟩
 have zo:bL d gr.nl G G':=⟨fun _ _ _ e=>e,fun d' q _ e=>by
  show∃bP,(G.ag.modify d _)[d']? =some bP∧_
  rw[eE]
  by_cases xP:d=d'
  ·subst xP
   rw[hg]at e
   injection e with e
   subst e
   exact⟨_,by rw[aj rfl,hg];rfl,gE,fun _=>rfl⟩
  ·exact⟨q,by rw[ak xP];exact e,.refl q,fun _=>rfl⟩,fun _ _ _ e=>e⟩
 have iY:=h.bG (G':=G') (w':=w) hr hg (fun r=>{r with toks:=r.toks++[some n]}) (fun q=>{q with tk:=q.tk++[T]}) (· =.tok d r.toks.length) rfl rfl (fun _ _ _ e=>e) gE rfl hk
  (fun o ho=>.inr ⟨_,ho⟩) ?_ h.fM (Below.refl _ _) (fun b o e=>?_)
 ·exact⟨G',rfl,rfl,iY.1,iY.2⟩
 ·refine aT.tokens (toks':=r.toks++[some n]) (tk':=gr.tk++[T]) zo hk (by simp[aT.jx]) (tu _) (fun g m U e1 e2=>?_)
  rcases gi e1 with⟨aB,e1⟩|⟨rfl,rfl⟩
  ·refine .inl ⟨by omega,e1,?_⟩
   rcases gi e2 with⟨_,e2⟩|⟨hb,_⟩
   ·exact e2
   ·rw[aT.jx]at hb;omega
  ·have:U=T:=by
    rcases gi e2 with⟨hb,_⟩|⟨_,e⟩
    ·rw[aT.jx]at hb;omega
    ·exact e
   subst this
   refine .inr ⟨rfl,pn,fun m hm=>?_⟩
   injection hm with hm
   subst hm
   exact⟨t1,by simp[G'],t3,t4,t5,arr,ty,t6,t7⟩
 ·simp only[G']at e
  split at e
  ·rename_i hb;subst hb;exact(uI.1 t6).1
  ·exact h.fq b o e
theorem ajJ (h:At P B0 w0 G k nl s w) {d nd:Nat} {x x':AV} {v:Value} {s':ae} (iT:d<k) (hx:Rel G k nl x v) (hc:x.bK=true) (hf:s.fit d x=some (x',s')):
  ∃G',At P B0 w0 G' k nl s' w∧bL (k+1) s.loops.length G G'∧s'.loops=s.loops∧Rel G' d nd x' v∧x'.bK=true:=by
 have qz:=bL.refl (k+1) s.loops.length G
 by_cases h1:∃d' g es xs,x=.slice (.tok d' g) es xs
 ·obtain⟨d',g,es,xs,rfl⟩:=h1
  simp only[ae.fit]at hf
  split at hf
  ·rename_i hle
   injection hf with hf
   injection hf with e1 e2
   subst e1 e2
   refine⟨G,h,qz,rfl,?_,rfl⟩
   cases hx with
   |cl hx=>exact .cl hx
   |tok T gr hd hg ht eV hc hn=>exact .tok T gr hle hg ht eV hc hn
  ·rename_i hle
   split at hf
   ·rename_i lM
    obtain⟨Ze,pq⟩:=lM
    injection hf with hf
    injection hf with e1 e2
    subst e1 e2
    rw[h.iQ]at Ze
    subst Ze
    cases hx with
    |cl hx=>cases hx with
     |slice f ho=>rcases ho with h|⟨h,_⟩<;>cases h
     |empty ho=>rcases ho with h|h<;>cases h
    |tok T gr hd hg ht eV kG hn=>
    obtain⟨r,hr,jo⟩:=ad0 pq
    have aT:=h.rel.dt _ r gr hr hg
    obtain⟨pn,sw⟩:=aT.tok g _ T jo ht
    obtain⟨t1,t2,t3,t4,t5,arr,ty,t6,t7⟩:=sw _ rfl
    obtain⟨_,heq⟩:=hn _ pn
    obtain⟨rfl,rfl⟩:=heq rfl
    obtain⟨G1,a1,a2,a3,_,a5,a6⟩:=ais h.rel hr hg jo ht
    obtain⟨rd,zd,iG,nK⟩:=h.dt (UN iT)
    have aF:d'≠d:=by omega
    have anB:(s.mH d' g none).ag[d]? =some rd:=by
     simp only[ae.mH,ae.bG,eE]
     rw[ak aF];exact iG
    have Zo:G1.ag[d]? =some zd:=by
     rw[a1,eE,ak aF];exact nK
    obtain⟨G2,b1,b2,b3,b4⟩:=U4 a5 (T:=T) anB Zo a3 pn ⟨t1,by rw[a2];exact t3,t4,t5,arr,ty,t6,t7⟩
    have Rx:bL (d'+1) s.loops.length G G2:=(a6 _ _).trans (b4 _ _)
    refine⟨G2,h.to b3 (Rx.less (by omega) h.sW) (by simp[ae.lB,ae.mH,ae.bG]),Rx,rfl,?_,rfl⟩
    have hH:G2.ag[d]? =some {zd with tk:=zd.tk++[T]}:=by rw[b1,eE,aj rfl,Zo];rfl
    have sK:s.j4 d=zd.tk.length:=by rw[abB iG,(h.rel.dt d rd zd iG nK).jx]
    rw[sK]
    refine .tok T _ (aI _) hH (by show(zd.tk++[T])[zd.tk.length]? =_;rw[jy (aI _)];simp) eV (kG.mono Rx.I) hn
   ·injection hf with hf
    injection hf with e1 e2
    subst e1 e2
    exact⟨G,h,qz,rfl,.cl (hx.close (z:=.slice .any es xs) rfl),rfl⟩
 ·by_cases h2:∃d' b off,x=.ptr d' b off
  ·obtain⟨d',b,off,rfl⟩:=h2
   simp only[ae.fit]at hf
   split at hf
   ·rename_i hle
    injection hf with hf
    injection hf with e1 e2
    subst e1 e2
    obtain⟨blk,gr,rfl,_,hg,hb⟩:=hx.sQ
    exact⟨G,h,qz,rfl,.ptr gr hle hg hb,rfl⟩
   ·cases hf
  ·by_cases h3:∃d' b off es n cap,x=.aN d' b off es n cap
   ·obtain⟨d',b,off,es,n,cap,rfl⟩:=h3
    simp only[ae.fit]at hf
    split at hf
    ·rename_i hle
     injection hf with hf
     injection hf with e1 e2
     subst e1 e2
     obtain⟨blk,gr,rc,o0,rfl,_,hg,hb,hn,hc,hw,ho⟩:=hx.sR
     exact⟨G,h,qz,rfl,.aN gr hle hg hb hn hc hw ho,rfl⟩
    ·cases hf
   ·have he:s.fit d x=x.close.map (·,s):=by
     unfold ae.fit
     split
     ·exact absurd ⟨_,_,_,_,rfl⟩ h1
     ·exact absurd ⟨_,_,_,rfl⟩ h2
     ·exact absurd ⟨_,_,_,_,_,_,rfl⟩ h3
     ·rfl
    rw[he]at hf
    cases aQ:x.close with
    |none=>rw[aQ]at hf;cases hf
    |some z=>
     rw[aQ]at hf
     injection hf with hf
     injection hf with e1 e2
     subst e1 e2
     exact⟨G,h,qz,rfl,.cl (hx.close aQ),Qd aQ hc⟩
theorem Yq {d nd:Nat} (iT:d<k):∀{xs ys:List AV} {vs:List Value} {G:aH} {s s':ae},At P B0 w0 G k nl s w→(hl:vs.length=xs.length)→(∀i (hi:i<xs.length) (hj:i<vs.length),Rel G k nl xs[i] vs[i]∧xs[i].bK=true)→
  (CD:∀gr,G.ag[d]? =some gr→gr.nl=nd)→s.fitAll d xs=some (ys,s')→
  ∃G',At P B0 w0 G' k nl s' w∧bL (k+1) s.loops.length G G'∧s'.loops=s.loops∧ys.length=xs.length∧∀i (hi:i<ys.length) (hj:i<vs.length),Rel G' d nd ys[i] vs[i]∧ys[i].bK=true
 |[],ys,vs,G,s,s',h,hl,_,_,hf=>by
  simp only[ae.fitAll]at hf
  injection hf with hf
  injection hf with e1 e2
  subst e1 e2
  exact⟨G,h,bL.refl _ _ _,rfl,rfl,fun i hi=>absurd hi (dH _)⟩
 |x::xs,ys,[],G,s,s',h,hl,_,_,hf=>by simp at hl
 | x :: xs, ys, v :: vs, G, s, s', h, hl, hR, CD, hf => by
  simp only[ae.fitAll]at hf
  split at hf
  ·cases hf
  ·rename_i y s1 hy
   split at hf
   ·cases hf
   ·rename_i zs s2 hz
    injection hf with hf
    injection hf with e1 e2
    subst e1 e2
    have h0:=hR 0 (by simp) (by simp)
    obtain⟨G1,a1,a2,a3,a4,a5⟩:=ajJ (nd:=nd) h iT h0.1 h0.2 hy
    have amQ:nd≤s.loops.length:=by
     obtain⟨_,gr,_,hg⟩:=h.dt (UN iT)
     rw[←CD gr hg]
     exact h.rel.pN _ _ hg
    obtain⟨G2,b1,b2,b3,b4,b5⟩:=Yq iT (nd:=nd) a1 (by simpa using hl) (fun i hi hj=>by
     have:=hR (i+1) (by simpa using hi) (by simpa using hj)
     exact⟨this.1.mono (a2.less (by omega) h.sW) (aI _) (aI _),this.2⟩) (fun gr hg=>by
     obtain⟨_,iA,_,mV⟩:=h.dt (UN iT)
     obtain⟨bP,eC,hle,_⟩:=a2.ag d iA (by omega) mV
     rw[hg]at eC
     injection eC with eC
     subst eC
     exact hle.nl.trans (CD _ mV)) hz
    rw[a3]at b2
    refine⟨G2,b1,a2.trans b2,b3.trans a3,by simp[b4],fun i hi hj=>?_⟩
    cases i with
    |zero=>exact⟨a4.mono (b2.less (by omega) amQ) (aI _) (aI _),a5⟩
    |succ i=>exact b5 i (by simpa using hi) (by simpa using hj)
theorem adI (h:At P B0 w0 G k nl s w) {x y:AV} {px v:Value} {n:Nat} {s':ae} (hx:Rel G k nl x px) (hy:Rel G k nl y v) (hs:s.store n x y=some s'):
  ∃blk off arr ty,px=.pointer (some ⟨blk,off,none⟩)∧w.heap[blk]? =some (.cells arr ty)∧v.cells.size=n∧off+n≤arr.size∧(∀u,u∈v.cells.toList→u.oneCell'=true)∧ek P B0 w0 G k nl s s' (w.setCells blk off v.cells.toList) AV.undef Go.undef:=by
 unfold ae.store at hs
 split at hs
 case h_2=>cases hs
 rename_i d b off
 split at hs
 case isFalse=>cases hs
 rename_i cu
 obtain⟨bO,hlen,jF⟩:=cu
 obtain⟨blk,gr,rfl,hd,hg,db⟩:=hx.sQ
 obtain⟨cj,vv⟩:=hy.cells jF
 have Mq:v.cells.size=n:=cj.trans hlen
 have bw:∀c,c∈y.cells→c.bK=true:=fun c hc=>jh.1 jF c hc
 have xW:∀u,u∈v.cells.toList→u.oneCell'=true:=fun u hu=>by
  obtain⟨i,hi,rfl⟩:=nr hu
  have br:i<y.cells.length:=by rw[←cj];simpa using hi
  have:=vv i br
  have he:v.cells.getD i Go.undef=v.cells.toList[i]:=by
   have:i<v.cells.size:=by simpa using hi
   simp[Array.getD,this]
  rw[he]at this
  exact S5 this (bw _ (iz br))
 split at hs
 ·cases hs
 rename_i cs m1 nJ
 split at hs
 ·cases hs
 rename_i row cw
 split at hs
 case isFalse=>cases hs
 rename_i hle
 injection hs with hs
 subst hs
 obtain⟨_,aBk⟩:∃nd,gr.nl=nd:=⟨_,rfl⟩
 have zr:∃G1 xH,At P B0 w0 G1 k nl m1 w∧bL (k+1) s.loops.length G G1∧m1.loops=s.loops∧cs.length=n∧G1.ag[d]? =some xH∧xH.bl[b]? =some (some blk)∧(∀i (hi:i<cs.length) (hj:i<v.cells.toList.length),Rel G1 d xH.nl cs[i] v.cells.toList[i])∧∀c,c∈cs→c.bK=true:=by
  have zB:∀i (hi:i<y.cells.length) (hj:i<v.cells.toList.length),Rel G k nl y.cells[i] v.cells.toList[i]∧y.cells[i].bK=true:=fun i hi hj=>by
   have:=vv i hi
   have he:v.cells.getD i Go.undef=v.cells.toList[i]:=by
    have:i<v.cells.size:=by simpa using hj
    simp[Array.getD,this]
   rw[he]at this
   exact⟨this,bw _ (iz hi)⟩
  by_cases Hl:d=s.cur
  ·rw[aj Hl]at nJ
   injection nJ with nJ
   injection nJ with e1 e2
   subst e1 e2
   have iT:d=k:=by rw[h.iQ]at Hl;exact Hl
   subst iT
   obtain⟨gc,mq,uf⟩:=h.cur
   rw[hg]at mq
   injection mq with mq
   subst mq
   exact⟨G,gr,h,bL.refl _ _ _,rfl,hlen,hg,db,fun i hi hj=>by rw[uf];exact(zB i hi hj).1,bw⟩
  ·rw[ak Hl]at nJ
   have iT:d<k:=by rw[h.iQ]at Hl;omega
   obtain⟨G1,a1,a2,a3,a4,a5⟩:=Yq (nd:=gr.nl) (vs:=v.cells.toList) iT h (by simpa using cj) zB (fun g e=>by rw[hg]at e;injection e with e;rw[e]) nJ
   obtain⟨xH,pw,Hv,_⟩:=a2.ag d gr (by omega) hg
   refine⟨G1,xH,a1,a2,a3,a4.trans hlen,pw,Hv.bl _ _ db,fun i hi hj=>?_,fun c hc=>?_⟩
   ·rw[Hv.nl]
    exact(a5 i hi hj).1
   ·obtain⟨i,hi,rfl⟩:=nr hc
    exact(a5 i hi (by simp[Mq,←hlen,←a4,hi])).2
 obtain⟨G1,xH,Ch,Hv,pC,aQ,pw,Zb,hRs,fL⟩:=zr
 obtain⟨r,hr,dC,LP,arr,ty,ug,_,anL⟩:=Ch.box hd cw pw Zb
 obtain⟨bb1,bb2,bb3,arr',Nj,L0,xM,amu,hold⟩:=LP
 rw[ug]at L0
 injection L0 with L0
 injection L0 with e1 e2
 subst e1 e2
 refine⟨blk,off,arr,ty,rfl,ug,Mq,mN hle xM,xW,?_⟩
 have aly:mc (Rel G1 d xH.nl) row arr:=⟨xM,fun i hi=>(hold i hi).2⟩
 have alz:mc (Rel G1 d xH.nl) (setCells row off cs) (jw arr off v.cells.toList):=mc.jw (by simp[Mq,aQ]) hRs off aly
 by_cases Mg:row=[]
 · -- nothing is written to a dead box
  subst Mg
  have iC:n=0:=by simp at hle;omega
  have al8:cs=[]:=rV (by rw[aQ];exact iC)
  have Mn:v.cells.toList=[]:=rV (by rw[NA,Mq];exact iC)
  subst al8
  rw[Mn]
  have RR : m1.dQ d b (setCells [] off []) = m1 := by
   simp only[ae.dQ,ae.bG,setCells]
   have:m1.ag.modify d (fun r=>{r with boxes:=r.boxes.set b []})=m1.ag:=by
    apply mM
    intro i
    rw[wG]
    by_cases hi:d=i
    ·subst hi
     rw[hr]
     have:r.boxes.set b []=r.boxes:=by
      apply mM
      intro j
      rw[qP]
      split
      ·rename_i hj
       subst hj
       rw[dC,aj (bI.1 dC).1]
      ·rfl
     show some (if d=d then(⟨r.boxes.set b [],r.toks⟩:Rec)else r)=some r
     rw[aj rfl,this]
    ·simp[hi]
   rw[this]
  rw[RR]
  exact⟨G1,Ch,Hv,by rw[pC],.undef⟩
 have aF:setCells row off cs≠[]:=by
  intro e
  have e2:=gX List.length e
  simp[axu]at e2
  exact Mg e2
 have RV:=Ch.rel.dQ (cs':=setCells row off cs) (w':=w.setCells blk off v.cells.toList) hr pw dC Zb Mg aF (fun c hc=>by
   rcases adb hc with h|h
   ·exact anL c h
   ·exact fL c h) alz (fun m hm=>by rw[It];exact amu Mg m hm) (LW _ _ _ _ ug) (fun c hc=>LX hc _ _ _) (KH bb1 _ _ _) (Nb _ _ _ _)
 refine⟨G1,Ch.to RV (bL.refl _ _ _) (by simp[ae.dQ,ae.bG]),Hv,by simp[ae.dQ,ae.bG,pC],.undef⟩
theorem ax8 (h:At P B0 w0 G k nl s w) {x y:AV} {px v:Value} {n:Nat} {t:TypeId} {s':ae} (hx:Rel G k nl x px) (hy:Rel G k nl y v) (hn:de P t=some n) (hs:s.store n x y=some s'):
  ∃w',(Instr.storeAt t px v).run P w=.ok () w'∧ek P B0 w0 G k nl s s' w' AV.undef Go.undef:=by
 obtain⟨blk,off,arr,ty,rfl,h1,h2,h3,h4,h5⟩:=adI h hx hy hs
 exact⟨_,ax7 h1 hn h2 h3 h4,h5⟩
end
end Go.Ax
/-
  copy of plain cells, and a slice that is not written to any more.
-/
namespace Go.Ax
open Go.RowKit
section
variable{P:Program} {B0:Nat} {w0:World} {G:aH} {k nl:Nat} {w:World} {s:ae}
theorem ajO {α:Type} {xs:List (List α)} (h:∀r,r∈xs→r.length=1):xs.flatten.length=xs.length:=by
 have:=(BT (es:=1) (by omega) h).1
 omega
theorem adD (h:At P B0 w0 G k nl s w) {b:AV} {y:Value} {ys:List AV} (hy:Rel G k nl b y) (hs:s.yk b=some ys):
  ∃(ad:Option Addr) (cap:Nat) (f:Nat→Value),y=.slice ad ys.length cap∧(0<ys.length→∃a,ad=some a∧∀j,j<ys.length→w.cell? (a.add j)=some (f j))∧
   ∀i (hi:i<ys.length),Rel G k nl ys[i] (f i)∧ys[i].bK=true:=by
 cases b with
 | slice o e xs =>
  simp only[ae.yk]at hs
  split at hs
  case isFalse=>cases hs
  rename_i hc
  injection hs with hs
  subst hs
  by_cases uu:xs=[]
  ·subst uu
   rcases hy.kH with⟨_,_,rfl⟩|⟨_,aa,c,rfl,_⟩
   ·exact⟨none,0,fun _=>Go.undef,rfl,fun h=>absurd h (wN _),fun i hi=>absurd hi (dH _)⟩
   ·exact⟨some aa,c,fun _=>Go.undef,rfl,fun h=>absurd h (wN _),fun i hi=>absurd hi (dH _)⟩
  ·have he:e=1:=by
    rcases hc with hc|hc
    ·exact hc
    ·exact absurd (by simpa using hc) uu
   subst he
   have nU:0<xs.length:=NO.2 uu
   rcases hy.kH with⟨_,hn,_⟩|⟨_,ay,cy,rfl,_,_,rE,_⟩
   ·exact absurd hn uu
   ·obtain⟨zH,Hk,ly,qW,fy,zG,rD⟩:=ga.flat rE (by omega)
    have zh:ay=⟨ay.block,ay.off,none⟩:=yx (zH (by omega))
    obtain⟨tR,GW⟩:=BT (es:=1) (by omega) ly
    have hl:=ajO ly
    refine⟨some ay,cy,fy,by rw[hl],fun _=>⟨ay,rfl,fun j hj=>?_⟩,fun i hi=>⟨?_,?_⟩⟩
    ·rw[zh,addr_add];exact h.rel.fM _ _ _ (zG j (by omega))
    ·obtain⟨g1,g2,g3⟩:=GW i hi
     rw[g3]
     have:=rD _ g1 _ g2
     rw[AB]at this
     exact .cl this
    ·obtain⟨r,hr,vy⟩:=DG.1 (iz hi)
     exact qW r hr _ vy
 | aN d b off e n cap =>
  simp only[ae.yk]at hs
  split at hs
  case isFalse=>cases hs
  rename_i he
  subst he
  obtain⟨cs,tZ,hs⟩:=dS.1 hs
  split at hs
  case isFalse=>cases hs
  rename_i hle
  injection hs with hs
  subst hs
  obtain⟨blk,gr,rc,o0,rfl,hd,hg,db,ZM,_,hw,ho⟩:=hy.sR
  obtain⟨r,hr,dC,LP,arr,tb,ug,cw,RN⟩:=h.box hd tZ hg db
  have hl:((cs.drop off).take n).length=n:=by simp;omega
  refine⟨_,rc,fun j=>arr.getD (off+j) Go.undef,by rw[hl],fun h0=>⟨_,rfl,fun j hj=>?_⟩,fun i hi=>?_⟩
  ·have:=ho (.inl (by omega))
   subst this
   rw[addr_add,cell_of_heap ug]
   have:o0+j<arr.size:=by have:=cw.1;omega
   simp[Array.getD,this]
  ·have he:((cs.drop off).take n)[i]=cs[off+i]'(by omega):=by simp
   rw[he]
   exact⟨cw.2 _ _,RN _ (iz _)⟩
 |_=>cases hs
theorem ahZ (h:At P B0 w0 G k nl s w) {t u e ty:TypeId} (ht:P.underlying t=some (.slice e)) (hz:de P e=some 1) {a b v:AV} {x y:Value} {s':ae}
  (hx:Rel G k nl a x) (hy:Rel G k nl b y) (hc:tM s a b=some (v,s')):
  ∃ x' w', (Builtin.copy_ #[t, u] ty #[x, y]).run P w = .ok x' w' ∧ ek P B0 w0 G k nl s s' w' v x' := by
 unfold tM at hc
 split at hc
 ·rename_i o e1
  obtain⟨ys,h1,hc⟩:=aZ.1 hc
  injection hc with e1 e2
  subst e1 e2
  obtain⟨ad,cap,f,rfl,_,_⟩:=adD h hy h1
  obtain⟨dd,c,rfl⟩:∃dd c,x=.slice dd 0 c:=by
   rcases hx.kH with⟨_,_,rfl⟩|⟨_,aa,c,rfl,_⟩
   ·exact⟨_,_,rfl⟩
   ·exact⟨_,_,rfl⟩
  exact⟨_,w,run_copy_none w t u ty e dd ad 0 c ys.length cap ht hz (by simp),G,h,bL.refl _ _ _,rfl,.cl (.v rfl)⟩
 ·rename_i d b off e1 n cap
  split at hc
  case isFalse=>cases hc
  rename_i he
  subst he
  obtain⟨ys,h1,hc⟩:=dS.1 hc
  obtain⟨ad,W9,f,rfl,bw,lb⟩:=adD h hy h1
  have hx':=hx
  obtain⟨blk,gr,rc,o0,rfl,hd,hg,db,ZM,_,hw,ho⟩:=hx.sR
  split at hc
  ·rename_i zn
   injection hc with hc
   injection hc with e1 e2
   subst e1 e2
   have rp:Nat.min ys.length n=0:=by
    have:(ys.take n).length=0:=by rw[List.isEmpty_iff.1 zn];rfl
    rw[ez]at this
    show min ys.length n=0
    omega
   exact⟨_,w,run_copy_none w t u ty e _ ad n rc ys.length W9 ht hz rp,G,h,bL.refl _ _ _,rfl,.cl (.v rfl)⟩
  ·rename_i zn
   obtain⟨q,bu,hc⟩:=aZ.1 hc
   injection hc with e1 e2
   subst e1 e2
   have xX:0<(ys.take n).length:=by
    apply NO.2
    intro e
    rw[e]at zn
    exact zn rfl
   have aB:(ys.take n).length=min n ys.length:=ez
   have iC:0<n:=by omega
   have:=ho (.inl iC)
   subst this
   have Mb:Rel G k nl (.ptr d b o0) (.pointer (some ⟨blk,o0,none⟩)):=.ptr gr hd hg db
   have hyv:Rel G k nl (.agg (ys.take n)) (.agg ((List.range (ys.take n).length).map f).toArray):=by
    refine .agg (by simp) (fun c hc=>?_) (fun i hi=>?_)
    ·obtain⟨i,hi,rfl⟩:=nr hc
     have br:i<ys.length:=by rw[aB]at hi;omega
     rw[List.getElem_take]
     exact(lb i br).2
    ·have br:i<ys.length:=by rw[aB]at hi;omega
     have:((List.range (ys.take n).length).map f).toArray.getD i Go.undef=f i:=by simp[Array.getD]at hi⊢;omega
     rw[this,List.getElem_take]
     exact(lb i br).1
   obtain⟨iO,abK,arr,tb,e1,h2,h3,h4,h5,h6⟩:=adI h Mb hyv bu
   injection e1 with e1
   injection e1 with e1
   injection e1 with e1 e2
   subst e1 e2
   obtain⟨ay,rfl,aQ⟩:=bw (by omega)
   have fL:(Value.agg ((List.range (ys.take n).length).map f).toArray).cells.toList=(List.range (ys.take n).length).map f:=rfl
   rw[fL]at h5 h6
   have hlen:((List.range (ys.take n).length).map f).length=(ys.take n).length:=by simp
   have dN:=run_copy_cells (P:=P) w t u ty e blk o0 n rc ay ys.length W9 ((List.range (ys.take n).length).map f) ht hz (by rw[hlen,aB];exact Nat.min_comm _ _) (fun j v hj=>by
     have nL:j<(ys.take n).length:=by
      have:=(bI.1 hj).1
      rw[hlen]at this;exact this
     have e:((List.range (ys.take n).length).map f)[j]? =some (f j):=by rw[iL,Uy nL];rfl
     rw[e]at hj
     injection hj with hj
     subst hj
     exact aQ j (by omega)) (fun j hj=>by
     rw[hlen]at hj
     rw[cell_of_heap h2]
     have:o0+j<arr.size:=by omega
     simp[this]) (fun j _=>frozen_of_heap h2) h5
   refine⟨_,_,dN,?_⟩
   obtain⟨G',a1,a2,a3,_⟩:=h6
   rw[hlen]
   exact⟨G',a1,a2,a3,.cl (.v rfl)⟩
 ·cases hc
end
end Go.Ax
/-
  The other operations without a call.
-/
namespace Go.Ax
open Go.RowKit
section
variable{P:Program} {B0:Nat} {w0:World} {G:aH} {k nl:Nat} {w:World} {s:ae}
theorem ek.same (h:At P B0 w0 G k nl s w) {x:AV} {v:Value} (hv:Rel G k nl x v):ek P B0 w0 G k nl s s w x v:=⟨G,h,bL.refl _ _ _,rfl,hv⟩
theorem Rel.val (x:Value) (h:plain x=true):Rel G k nl (.v x) x:=.cl (.v h)
theorem aow {op : BinOp} {kd : IntKind} {x y : Int} {v : Value} (h : rH op kd x y = some v) (hs : pI op = false) (t : TypeId) :
    (binOp op t (.int kd x) (.int kd y)).run P w=.ok v w∧plain v=true:=by
  cases op<;>simp only[pI]at hs<;>first
    |(cases hs;done)
    | (simp only [rH] at h
       first
         |(injection h with h;subst h;exact⟨by simp[binOp,Op.intArith,Op.intBits,Op.intCmp],rfl⟩)
         | (split at h
            · cases h
            · rename_i hy
              injection h with h
              subst h
              exact⟨by simp[binOp,Op.intDiv,hy],rfl⟩)
         |cases h)
theorem axA {op:BinOp} {kx ky:IntKind} {x y:Int} {v:Value} (h:rN op kx x y=some v) (t:TypeId):
  (binOp op t (.int kx x) (.int ky y)).run P w=.ok v w∧plain v=true:=by
 unfold rN at h
 split at h
 ·cases h
 ·rename_i hy
  cases op<;>simp only at h<;>first
   |(cases h;done)
   |(injection h with h;subst h;exact⟨by simp[binOp,Op.shift,hy],rfl⟩)
theorem ax9 {op:BinOp} {x y:ByteArray} {v:Value} (h:s7 op x y=some v) (t:TypeId):
    (binOp op t (.string x) (.string y)).run P w=.ok v w∧plain v=true:=by
  unfold s7 at h
  simp only[←ByteArray.toList_eq]at h
  cases op<;>simp only at h<;>first
    |(injection h with h;subst h;exact⟨by simp[binOp,Op.stringOp],rfl⟩)
    | (split at h
       · cases h
       · rename_i hc
         injection h with h
         subst h
         exact⟨by simp only[binOp,Op.stringOp];rw[ak hc];rfl,rfl⟩)
    |cases h
theorem afX {op:BinOp} {a b v:AV} (h:cC op a b=some v):
  (∃kd x sS y,a=.v (.int kd x)∧b=.v (.int sS y)∧((pI op=true∧∃z,rN op kd x y=some z∧v=.v z)∨(pI op=false∧kd=sS∧∃z,rH op kd x y=some z∧v=.v z)))∨
  ∃x y z,a=.v (.string x)∧b=.v (.string y)∧s7 op x y=some z∧v=.v z:=by
 unfold cC at h
 split at h
 ·rename_i kd x sS y
  refine .inl ⟨kd,x,sS,y,rfl,rfl,?_⟩
  by_cases hs:pI op=true
  ·rw[aj hs]at h
   cases hz:rN op kd x y with
   |none=>rw[hz]at h;cases h
   |some z=>rw[hz]at h;injection h with h;exact .inl ⟨hs,z,rfl,h.symm⟩
  ·rw[ak hs]at h
   by_cases hk:kd=sS
   ·rw[aj hk]at h
    cases hz:rH op kd x y with
    |none=>rw[hz]at h;cases h
    |some z=>rw[hz]at h;injection h with h;exact .inr ⟨by simpa using hs,hk,z,rfl,h.symm⟩
   ·rw[ak hk]at h;cases h
 ·rename_i x y
  cases hz:s7 op x y with
  |none=>rw[hz]at h;cases h
  |some z=>rw[hz]at h;injection h with h;exact .inr ⟨x,y,z,rfl,rfl,hz,h.symm⟩
 ·cases h
theorem afY {op:BinOp} {a b v:AV} {x y:Value} (t:TypeId) (hx:Rel G k nl a x) (hy:Rel G k nl b y) (h:cC op a b=some v):
  ∃z,(binOp op t x y).run P w=.ok z w∧Rel G k nl v z∧x≠.nilIface∧∀cs,x≠.agg cs:=by
 have hc:=afX h
 clear h
 rcases hc with⟨kd,a,sS,b,rfl,rfl,hq⟩|⟨a,b,z,rfl,rfl,hz,rfl⟩
 ·obtain rfl:=hx.gp
  obtain rfl:=hy.gp
  rcases hq with⟨_,z,hz,rfl⟩|⟨hs,rfl,z,hz,rfl⟩
  ·obtain⟨h1,h2⟩:=axA (P:=P) (w:=w) (ky:=sS) hz t
   exact⟨z,h1,.val z h2,by simp,by simp⟩
  ·obtain⟨h1,h2⟩:=aow (P:=P) (w:=w) hz hs t
   exact⟨z,h1,.val z h2,by simp,by simp⟩
 ·obtain rfl:=hx.gp
  obtain rfl:=hy.gp
  obtain⟨h1,h2⟩:=ax9 (P:=P) (w:=w) hz t
  exact⟨z,h1,.val z h2,by simp,by simp⟩
theorem yY {op:BinOp} {t:TypeId} {x y:Operand} {a b:Value} (h1:a≠.nilIface) (h2:∀cs,a≠.agg cs):(eqGuard op t x y a b).run P w=.ok () w:=by
 unfold eqGuard
 cases op<;>simp<;>(cases a<;>simp_all)
theorem aiI (t:TypeId) (neg:Bool) {x y:Value} {b:Bool} (h:(Op.equal t x y).run P w=.ok b w) (hx:(∀k n,x≠.int k n)∧(∀s,x≠.string s)∧(∀k n,x≠.float k n)∧(∀k m n,x≠.complex k m n)):
  (binOp (if neg then .neq else .eql) t x y).run P w=.ok (.bool (if neg then !b else b)) w:=by
 obtain⟨h1,h2,h3,h4⟩:=hx
 cases neg
 ·simp only[ew,eu]
  have:binOp .eql t x y=(do pure (.bool (←Op.equal t x y))):=by
   cases x<;>first|(exact absurd rfl (h1 _ _))|(exact absurd rfl (h2 _))|(exact absurd rfl (h3 _ _))|(exact absurd rfl (h4 _ _ _))|rfl
  rw[this]
  simp[h]
 ·simp only[cI]
  have:binOp .neq t x y=(do pure (.bool (!(←Op.equal t x y)))):=by
   cases x<;>first|(exact absurd rfl (h1 _ _))|(exact absurd rfl (h2 _))|(exact absurd rfl (h3 _ _))|(exact absurd rfl (h4 _ _ _))|rfl
  rw[this]
  simp[h]
theorem XT {kd:PK} {x y:AV} {a b:Value} {c:Bool} {t:TypeId} (hx:Rel G k nl x a) (hy:Rel G k nl y b) (h:Qr kd x y=some c) (ht:zZ P t=some kd) (d:Nat):
  (Op.equalIn (d+1) t a b).run P w=.ok c w:=by
 unfold zZ at ht
 unfold Qr at h
 split at h
 ·obtain rfl:=hx.gp
  obtain rfl:=hy.gp
  split at ht<;>first|(cases ht;done)|skip
  rename_i hu
  split at h
  ·rename_i Hu
   subst Hu
   injection h with h
   subst h
   exact run_equalIn_int w d t _ _ _ _ hu
  ·cases h
 ·obtain rfl:=hx.gp
  obtain rfl:=hy.gp
  split at ht<;>first|(cases ht;done)|skip
  rename_i hu
  injection h with h
  subst h
  exact run_equalIn_bool' w d t _ _ hu
 ·obtain rfl:=hx.gp
  obtain rfl:=hy.gp
  split at ht<;>first|(cases ht;done)|skip
  rename_i hu
  injection h with h
  rw[←ByteArray.toList_eq,←ByteArray.toList_eq]at h
  subst h
  exact run_equalIn_string w d t _ _ hu
 ·cases h
theorem M0 {t:TypeId} {kd:PK} (h:zZ P t=some kd) {cs:Array Value} {i:Nat} (hi:i<cs.size):(Go.part t cs i).run P w=.ok cs[i] w:=by
 have ha:(isAgg t).run P w=.ok false w:=by
  unfold zZ at h
  split at h<;>first
   |(rename_i hu;simp[isAgg,run_underlying hu,pure])
   |cases h
 unfold Go.part
 simp only[Sem.run_bind,ha,Result.andThen_ok,ew,eu]
 simp[hi]
theorem XS (d:Nat) {xs ys:Array Value}:∀(fs:List Field) (ks:List PK) (as bs:List AV) (o:Nat) (c:Bool),(∀f,f∈fs→f.name≠ "_")→fE (fun f:Field=>zZ P f.type) fs=some ks→fs.map (·.offset)=List.range' o fs.length→
  xs.size=o+as.length→ys.size=o+bs.length→(∀i (hi:i<as.length),Rel G k nl as[i] (xs.getD (o+i) Go.undef))→(∀i (hi:i<bs.length),Rel G k nl bs[i] (ys.getD (o+i) Go.undef))→
  GM ks as bs=some c→(Op.eqFields (d+1) xs ys fs).run P w=.ok c w
 | [], ks, as, bs, o, c, _, hk, _, _, _, _, _, h => by
  simp only[fE]at hk
  injection hk with hk
  subst hk
  cases as with
  |nil=>cases bs with
   |nil=>simp only[GM]at h;injection h with h;subst h;rfl
   |cons=>cases h
  |cons=>cases h
 | f :: fs, ks, as, bs, o, c, hn, hk, ho, rC, lb, Mt, hyr, h => by
  simp only[fE]at hk
  split at hk
  case h_2=>cases hk
  rename_i kd ks' Cy xR
  injection hk with hk
  subst hk
  cases as with
  |nil=>cases h
  | cons a as =>
   cases bs with
   |nil=>cases h
   | cons b bs =>
    simp only[fR,cH,NU,DB]at ho
    obtain⟨ho,nN⟩:=ho
    simp only[cH]at rC lb
    have nU:=Mt 0 (by simp)
    have lU:=hyr 0 (by simp)
    simp only[AA,wL]at nU lU
    have bf:o<xs.size:=by omega
    have Ru:o<ys.size:=by omega
    have ex:xs.getD o Go.undef=xs[o]:=by simp[Array.getD,bf]
    have ey:ys.getD o Go.undef=ys[o]:=by simp[Array.getD,Ru]
    rw[ex]at nU
    rw[ey]at lU
    simp only[GM]at h
    simp only[Op.eqFields]
    rw[aj (hn f (by simp)),ho]
    split at h
    ·rename_i he
     have dN:=XT (P:=P) (w:=w) nU lU he Cy d
     have ih:=XS d (xs:=xs) (ys:=ys) fs ks' as bs (o+1) c (fun g hg=>hn g (by simp[hg])) xR nN (by omega) (by omega)
      (fun i hi=>by have:=Mt (i+1) (by simpa using hi);simpa[wM,NY 1 i]using this)
      (fun i hi=>by have:=hyr (i+1) (by simpa using hi);simpa[wM,NY 1 i]using this) h
     simp[M0 Cy bf,M0 Cy Ru,dN,ih]
    ·rename_i he
     injection h with h
     subst h
     have dN:=XT (P:=P) (w:=w) nU lU he Cy d
     simp[M0 Cy bf,M0 Cy Ru,dN]
    ·cases h
end
end Go.Ax
/-
  The other operations without a call: each one's run.
-/
namespace Go.Ax
open Go.RowKit
section
variable{P:Program} {B0:Nat} {w0:World} {G:aH} {k nl:Nat} {w:World} {s:ae}
theorem aiF {f:AV→Option Bool} {x y:AV} {c:Bool} (h:yZ f x y=some c):(f x=some true∧f y=some c)∨(f y=some true∧f x=some c):=by
 unfold yZ at h
 split at h
 ·rename_i b h1 h2
  injection h with h
  subst h
  exact .inl ⟨h1,h2⟩
 ·rename_i b _ h1 h2
  injection h with h
  subst h
  exact .inr ⟨h2,h1⟩
 ·cases h
theorem aby {x:AV} {y:Value} {c:Bool} (h:Rel G k nl x y) (hc:Sn x=some c):∃a n m,y=.slice a n m∧a.isNone=c:=by
 unfold Sn at hc
 split at hc
 ·injection hc with hc
  subst hc
  rcases h.kH with⟨_,_,rfl⟩|⟨aF,_⟩
  ·exact⟨_,_,_,rfl,rfl⟩
  ·exact absurd rfl aF
 ·rename_i aF
  injection hc with hc
  subst hc
  rcases h.kH with⟨he,_,_⟩|⟨_,a,cap,rfl,_⟩
  ·exact(aF he).elim
  ·exact⟨_,_,_,rfl,rfl⟩
 ·injection hc with hc
  subst hc
  obtain⟨blk,gr,rc,o0,rfl,_⟩:=h.sR
  exact⟨_,_,_,rfl,rfl⟩
 ·cases hc
theorem abx {x:AV} {y:Value} {c:Bool} (h:Rel G k nl x y) (hc:Sk x=some c):∃a:Option Addr,y=.pointer a∧a.isNone=c:=by
 unfold Sk at hc
 split at hc
 ·injection hc with hc;subst hc;obtain rfl:=h.gp;exact⟨_,rfl,rfl⟩
 ·injection hc with hc;subst hc;obtain⟨blk,gr,rfl,_⟩:=h.sQ;exact⟨_,rfl,rfl⟩
 ·injection hc with hc;subst hc;obtain⟨blk,o0,f,rfl,_⟩:=h.zK;exact⟨_,rfl,rfl⟩
 ·cases hc
theorem abw {x:AV} {y:Value} {c:Bool} (h:Rel G k nl x y) (hc:Sj x=some c):(c=true∧y=.nilIface)∨(c=false∧∃t z,y=.iface t z):=by
 unfold Sj at hc
 split at hc
 ·injection hc with hc;subst hc;obtain rfl:=h.gp;exact .inl ⟨rfl,rfl⟩
 ·injection hc with hc;subst hc;obtain⟨z,rfl,_⟩:=h.Sf;exact .inr ⟨rfl,_,_,rfl⟩
 ·injection hc with hc;subst hc
  cases h with
  |cl h=>cases h with|qF=>exact .inr ⟨rfl,_,_,rfl⟩
 ·cases hc
theorem abv {x:AV} {y:Value} {c:Bool} (h:Rel G k nl x y) (hc:Si x=some c):(c=true∧y=.nilFunc)∨(c=false∧∃f a b,y=.func f a b):=by
 unfold Si at hc
 split at hc
 ·injection hc with hc;subst hc;obtain rfl:=h.gp;exact .inl ⟨rfl,rfl⟩
 ·injection hc with hc;subst hc;obtain⟨a,b,rfl,_⟩:=h.CT;exact .inr ⟨rfl,_,_,_,rfl⟩
 ·injection hc with hc;subst hc;obtain⟨r,rfl,_⟩:=h.Sg;exact .inr ⟨rfl,_,_,_,rfl⟩
 ·cases hc
theorem vi {t:TypeId} {x y:Value} {b:Bool} (h:∀d,(Op.equalIn (d+1) t x y).run P w=.ok b w):(Op.equal t x y).run P w=.ok b w:=by
 unfold Op.equal Op.maxDepth
 exact h 9999
theorem aiK {t e:TypeId} {a b:Option Addr} {n m n' m':Nat} (ht:P.underlying t=some (.slice e)) (h:a=none∨b=none):
  (Op.equal t (.slice a n m) (.slice b n' m')).run P w=.ok (a.isNone&&b.isNone) w:=by
 refine vi fun d=>?_
 rcases h with rfl|rfl
 ·simp[Op.equalIn,run_underlying ht]
 ·cases a<;>simp[Op.equalIn,run_underlying ht]
theorem aiJ {t e:TypeId} {a b:Option Addr} (ht:P.underlying t=some (.pointer e)) (h:a=none∨b=none):
  (Op.equal t (.pointer a) (.pointer b)).run P w=.ok (a.isNone&&b.isNone) w:=by
 refine vi fun d=>?_
 rcases h with rfl|rfl
 ·simp[Op.equalIn,run_underlying ht]
 ·cases a<;>simp[Op.equalIn,run_underlying ht]
theorem K5 {f:AV→Option Bool} {x y:AV} {c:Bool} (he:yZ f x y=some c):∃p q,f x=some p∧f y=some q∧(p=true∨q=true)∧c=(p&&q):=by
 rcases aiF he with⟨h1,h2⟩|⟨h1,h2⟩
 ·exact⟨_,_,h1,h2,.inl rfl,by simp⟩
 ·exact⟨_,_,h2,h1,.inr rfl,by simp⟩
theorem Qq {op:BinOp} {neg:Bool} {t:TypeId} {x y:Operand} {u v:Value} (bU:GN op=some neg) (hc:(HX x||HX y)=true) (hu:∀cs,u≠.agg cs):(eqGuard op t x y u v).run P w=.ok () w:=by
  unfold eqGuard
  cases op<;>first|(cases bU;done)|skip
  all_goals
    cases u <;> first
      |exact absurd rfl (hu _)
      |(cases v<;>first
          |rfl
          |(cases x<;>cases y<;>first
              |rfl
              |(simp[HX]at hc;done)))
theorem aiL {op:BinOp} {neg C1:Bool} {t:TypeId} {x y:Operand} {bx gB ax ay:aJ} {kd:IT} {ρ:Nat→AV} {a:Act} {c:Bool} (bU:GN op=some neg) (rx:Rel G k nl (aD ρ bx) (a.eval x)) (ry:Rel G k nl (aD ρ gB) (a.eval y))
  (hm:GD P op neg t x y bx gB=some (.eqv C1 kd ax ay)) (he:pg kd (aD ρ ax) (aD ρ ay)=some c):
  (do eqGuard op t x y (a.eval x) (a.eval y);binOp op t (a.eval x) (a.eval y)).run P w=.ok (.bool (if C1 then !c else c)) w:=by
 have ank:op=(if neg=true then BinOp.neq else BinOp.eql):=by
  cases op<;>simp[GN]at bU<;>subst bU<;>rfl
 have fin:∀{b:Bool},(eqGuard op t x y (a.eval x) (a.eval y)).run P w=.ok () w→(Op.equal t (a.eval x) (a.eval y)).run P w=.ok b w→
   ((∀k n,a.eval x≠.int k n)∧(∀s,a.eval x≠.string s)∧(∀k n,a.eval x≠.float k n)∧(∀k m n,a.eval x≠.complex k m n))→
   (do eqGuard op t x y (a.eval x) (a.eval y);binOp op t (a.eval x) (a.eval y)).run P w=.ok (.bool (if neg then !b else b)) w:=fun hg hq hn=>by
  have:=aiI (P:=P) (w:=w) t neg hq hn
  rw[←ank]at this
  simp[hg,this]
 unfold GD at hm
 split at hm<;>first|(cases hm;done)|skip
 · -- bools
  rename_i hu
  injection hm with hm
  injection hm with e1 e2 e3 e4
  subst e1 e2 e3 e4
  simp only[pg]at he
  split at he
  ·rename_i p q h1 h2
   injection he with he
   subst he
   rw[h1]at rx
   rw[h2]at ry
   have ex:=rx.gp
   have ey:=ry.gp
   rw[ex,ey]at fin⊢
   exact fin (yY (by simp) (by simp)) (vi fun d=>run_equalIn_bool' w d t _ _ hu) ⟨by simp,by simp,by simp,by simp⟩
  ·cases he
 · -- structs
  rename_i fs hu
  split at hm
  case isFalse=>cases hm
  rename_i cu
  obtain⟨c1,c2,c3,c4⟩:=cu
  cases xR:fE (fun f:Field=>zZ P f.type) fs.toList with
  |none=>rw[xR]at hm;cases hm
  | some ks =>
   rw[xR]at hm
   simp only[dJ,fI]at hm
   injection hm with e1 e2 e3 e4
   subst e1 e2 e3 e4
   simp only[pg]at he
   split at he
   ·rename_i p q h1 h2
    rw[h1]at rx
    rw[h2]at ry
    obtain⟨xs,ex,lx,_,qx⟩:=rx.x8
    obtain⟨ys,ey,ly,_,qy⟩:=ry.x8
    rw[ex,ey]at fin⊢
    have vA:P.fieldsOf t=fs:=by simp[Program.fieldsOf,hu]
    refine fin (run_eqGuard_agg w op t x y xs ys c2) ?_ ⟨by simp,by simp,by simp,by simp⟩
    unfold Op.equal Op.maxDepth
    rw[run_equalIn_struct w 9999 t xs ys (by rw[vA];exact hu) c1,vA]
    refine XS 9998 (xs:=xs) (ys:=ys) fs.toList ks p q 0 c (fun f hf=>?_) xR ?_ (by omega) (by omega) (fun i hi=>by simpa using qx i hi) (fun i hi=>by simpa using qy i hi) he
    ·have:=jh.1 c3 f hf
     simpa using this
    ·rw[c4,DH]
     simp
   ·cases he
 · -- pointers
  rename_i e hu
  injection hm with hm
  injection hm with e1 e2 e3 e4
  subst e1 e2 e3 e4
  simp only[pg]at he
  obtain⟨p,q,hp,hq,vI,rfl⟩:=K5 he
  obtain⟨u,ex,R0⟩:=abx rx hp
  obtain⟨v,ey,rA⟩:=abx ry hq
  rw[ex,ey]at fin⊢
  have:=aiJ (P:=P) (w:=w) (a:=u) (b:=v) hu (by rcases vI with rfl|rfl<;>simp_all)
  rw[R0,rA]at this
  exact fin (yY (by simp) (by simp)) this ⟨by simp,by simp,by simp,by simp⟩
 · -- interfaces
  rename_i ms hu
  split at hm
  case isFalse=>cases hm
  rename_i Rj
  injection hm with hm
  injection hm with e1 e2 e3 e4
  subst e1 e2 e3 e4
  simp only[pg]at he
  obtain⟨p,q,hp,hq,vI,rfl⟩:=K5 he
  rcases abw rx hp with⟨rfl,ex⟩|⟨rfl,tx,zx,ex⟩<;>rcases abw ry hq with⟨rfl,ey⟩|⟨rfl,ty,zy,ey⟩<;>rw[ex,ey]at fin⊢
  ·exact fin (Qq bU Rj (by simp)) (vi fun d=>by simp[Op.equalIn,run_underlying hu]) ⟨by simp,by simp,by simp,by simp⟩
  ·exact fin (Qq bU Rj (by simp)) (vi fun d=>by simp[Op.equalIn,run_underlying hu]) ⟨by simp,by simp,by simp,by simp⟩
  ·exact fin (Qq bU Rj (by simp)) (vi fun d=>by simp[Op.equalIn,run_underlying hu]) ⟨by simp,by simp,by simp,by simp⟩
  ·rcases vI with h|h<;>cases h
 · -- slices
  rename_i e hu
  injection hm with hm
  injection hm with e1 e2 e3 e4
  subst e1 e2 e3 e4
  simp only[pg]at he
  obtain⟨p,q,hp,hq,vI,rfl⟩:=K5 he
  obtain⟨u,n,m,ex,R0⟩:=aby rx hp
  obtain⟨v,n',m',ey,rA⟩:=aby ry hq
  rw[ex,ey]at fin⊢
  have:=aiK (P:=P) (w:=w) (a:=u) (b:=v) (n:=n) (m:=m) (n':=n') (m':=m') hu (by rcases vI with rfl|rfl<;>simp_all)
  rw[R0,rA]at this
  exact fin (yY (by simp) (by simp)) this ⟨by simp,by simp,by simp,by simp⟩
 · -- functions
  rename_i hu
  injection hm with hm
  injection hm with e1 e2 e3 e4
  subst e1 e2 e3 e4
  simp only[pg]at he
  obtain⟨p,q,hp,hq,vI,rfl⟩:=K5 he
  rcases abv rx hp with⟨rfl,ex⟩|⟨rfl,fx,a1,a2,ex⟩<;>rcases abv ry hq with⟨rfl,ey⟩|⟨rfl,fy,b1,b2,ey⟩<;>rw[ex,ey]at fin⊢
  ·exact fin (yY (by simp) (by simp)) (vi fun d=>by simp[Op.equalIn,run_underlying hu]) ⟨by simp,by simp,by simp,by simp⟩
  ·exact fin (yY (by simp) (by simp)) (vi fun d=>by simp[Op.equalIn,run_underlying hu]) ⟨by simp,by simp,by simp,by simp⟩
  ·exact fin (yY (by simp) (by simp)) (vi fun d=>by simp[Op.equalIn,run_underlying hu]) ⟨by simp,by simp,by simp,by simp⟩
  ·rcases vI with h|h<;>cases h
end
end Go.Ax
/-
  The other operations without a call: each one's run (2).
-/
namespace Go.Ax
open Go.RowKit
section
variable{P:Program} {B0:Nat} {w0:World} {G:aH} {k nl:Nat} {w:World} {s:ae}
theorem avj {c a b v:AV} {x y z:Value} (hx:Rel G k nl c x) (hy:Rel G k nl a y) (hz:Rel G k nl b z) (h:Ii c a b=some v):
  ∃t:Bool,x=.bool t∧Rel G k nl v (if t then y else z):=by
 unfold Ii at h
 split at h
 ·rename_i t
  obtain rfl:=hx.gp
  injection h with h
  subst h
  refine⟨t,rfl,?_⟩
  cases t
  ·exact hz
  ·exact hy
 ·cases h
theorem ayz {op:UnOp} {a v:AV} {x:Value} (hx:Rel G k nl a x) (h:unOp op a=some v):∃z,(Op.unary op x).run P w=.ok z w∧Rel G k nl v z:=by
 unfold unOp at h
 split at h
 ·obtain rfl:=hx.gp
  cases op<;>simp only at h<;>first
   |(injection h with h;subst h;exact⟨_,by simp[Op.unary],.val _ rfl⟩)
   |cases h
 ·obtain rfl:=hx.gp
  cases op<;>simp only at h<;>first
   |(injection h with h;subst h;exact⟨_,by simp[Op.unary,Op.intArith],.val _ rfl⟩)
   |cases h
 ·cases h
theorem atB {a v:AV} {x:Value} (hx:Rel G k nl a x) (h:zS a=some v):Rel G k nl v x∧(x≠.pointer none∧x≠.nilIface∧x≠.nilFunc∧∀nm f c,x≠.func (.method nm) f c):=by
 unfold zS at h
 split at h
 ·injection h with h;subst h;obtain⟨_,_,rfl,_⟩:=hx.sQ;exact⟨hx,by simp,by simp,by simp,by simp⟩
 ·injection h with h;subst h;obtain⟨_,_,_,rfl,_⟩:=hx.zK;exact⟨hx,by simp,by simp,by simp,by simp⟩
 ·injection h with h;subst h;obtain⟨_,_,rfl,_⟩:=hx.CT;exact⟨hx,by simp,by simp,by simp,by simp⟩
 ·injection h with h;subst h;obtain⟨_,rfl,_⟩:=hx.Sg;exact⟨hx,by simp,by simp,by simp,by simp⟩
 ·injection h with h;subst h;obtain⟨_,rfl,_⟩:=hx.Sf;exact⟨hx,by simp,by simp,by simp,by simp⟩
 ·cases h
theorem KT {cs ds:List AV} {arr:Array Value} (h:closeAll cs=some ds) (hl:cs.length≤arr.size) (bw:∀c,c∈cs→c.bK=true) (hR:∀i (hi:i<cs.length),Rel G k nl cs[i] (arr.getD i Go.undef)):
  ds.length=cs.length∧(∀c,c∈ds→c.bK=true)∧∀i (hi:i<ds.length),bN G.I ds[i] (arr.getD i Go.undef):=by
 let _:=hl
 obtain⟨h1,h2⟩:=KU h
 refine⟨h1,fun c hc=>?_,fun i hi=>(hR i (by omega)).close (h2 i (by omega) hi)⟩
 obtain⟨i,hi,rfl⟩:=nr hc
 exact Qd (h2 i (by omega) hi) (bw _ (iz _))
theorem aok {t:TypeId} {a v:AV} {x:Value} (hx:Rel G k nl a x) (h:Mz t a=some v):Rel G k nl v (.iface t x):=by
 unfold Mz at h
 split at h
 ·rename_i cs
  obtain⟨arr,rfl,hl,bw,hR⟩:=hx.x8
  cases hc:closeAll cs with
  |none=>rw[hc]at h;cases h
  |some ds=>
   rw[hc]at h
   injection h with h
   subst h
   obtain⟨h1,h2,h3⟩:=KT hc (UM hl.symm) bw hR
   exact .cl (.iface (.agg (by rw[hl,h1]) h2 h3))
 ·split at h
  ·injection h with h
   subst h
   exact .cl (.iface (hx.BG (by assumption)))
  ·cases h
theorem atn {f:FuncId} {first caps:List Operand} {af ac:List aJ} {ρ:Nat→AV} {a:Act} (hR:eM G k nl ρ a) (hf:fE dT first=some af) (hc:fE dT caps=some ac) (aQ:(af.map (aD ρ)).all AV.vS=true):
  Rel G k nl (.fn f (af.map (aD ρ)) (ac.map (aD ρ))) (.func (.func f) (first.toArray.map a.eval) (caps.toArray.map a.eval)):=by
 obtain⟨l1,h1⟩:=ye hf
 obtain⟨l2,h2⟩:=ye hc
 refine .fn (by simp[l1]) (by simp[l2]) (fun i hi=>?_) (fun i hi=>?_)
 ·have br:i<af.length:=by simpa using hi
  have Hr:i<first.length:=by omega
  have:=dm (h1 i Hr br) hR
  have Zf:(aD ρ af[i]).vS=true:=jh.1 aQ _ (List.mem_map_of_mem (iz br))
  have e:(first.toArray.map a.eval).getD i Go.undef=a.eval first[i]:=by simp[Array.getD,Hr]
  rw[e]
  simp only[List.getElem_map]
  exact this.ahN Zf
 ·have br:i<ac.length:=by simpa using hi
  have Hr:i<caps.length:=by omega
  have:=dm (h2 i Hr br) hR
  have e:(caps.toArray.map a.eval).getD i Go.undef=a.eval caps[i]:=by simp[Array.getD,Hr]
  rw[e]
  simpa using this
theorem ajy {t:TypeId} {fs:Array Field} {f:Field} {i n:Nat} {g:Bool} {a v:AV} {x:Value} (ht:P.underlying t=some (.struct fs)) (hf:fs[i]? =some f) (hg:vR P f.type=some g) (hn:de P f.type=some n) (hx:Rel G k nl a x)
  (h:GS g n f.offset a=some v):∃z,(Instr.field t x i).run P w=.ok z w∧Rel G k nl v z:=by
 unfold GS at h
 split at h
 ·rename_i cs
  obtain⟨arr,rfl,hl,bw,hR⟩:=hx.x8
  rcases Tf (f:=fun i=>arr.getD i Go.undef) h bw hR with⟨rfl,hle,hv⟩|⟨rfl,aB,hv⟩
  ·refine⟨_,?_,hv⟩
   simp only[Instr.field,Sem.run_bind,run_underlying ht,Result.andThen_ok,hf,asAgg,Sem.run_pure,Go.part,zL hg,cI,jR hn]
   congr 2
   apply Array.ext
   ·simp;omega
   ·intro j h1 h2
    simp at h1 h2⊢
    have:f.offset+j<arr.size:=by omega
    simp[Array.getD,this]
  ·refine⟨_,?_,hv⟩
   have:f.offset<arr.size:=by omega
   simp only[Instr.field,Sem.run_bind,run_underlying ht,Result.andThen_ok,hf,asAgg,Sem.run_pure,Go.part,zL hg,ew,eu]
   simp[Array.getD,this]
 ·cases h
theorem aiW {i:Nat} {a v:AV} {x:Value} (hx:Rel G k nl a x) (h:y0 i a=some v):∃z,(Instr.extract x i).run P w=.ok z w∧Rel G k nl v z:=by
 unfold y0 at h
 split at h
 ·rename_i vs
  obtain⟨arr,rfl,hl,hR⟩:=hx.aoz
  obtain⟨h1,h2⟩:=bI.1 h
  have:=hR i h1
  rw[h2]at this
  refine⟨_,?_,this⟩
  have hi:i<arr.size:=by omega
  simp[Instr.extract,hi,Array.getD]
 ·cases h
theorem aa3 {t:TypeId} {ty:TypeId} {str:Bool} {a v:AV} {x:Value} (ht:(str=false∧∃e,P.underlying t=some (.slice e))∨(str=true∧P.underlying t=some .string)) (hx:Rel G k nl a x) (h:oR str a=some v):
  ∃ z, (Builtin.len_ #[t] ty #[x]).run P w = .ok z w ∧ Rel G k nl v z := by
 unfold oR at h
 rcases ht with⟨rfl,e,ht⟩|⟨rfl,ht⟩
 ·split at h
  ·injection h with h
   subst h
   rcases hx.kH with⟨_,rfl,rfl⟩|⟨_,p,cap,rfl,_⟩
   ·exact⟨_,by simp[Builtin.len_,run_underlying ht,goInt],.val _ rfl⟩
   ·exact⟨_,by simp[Builtin.len_,run_underlying ht,goInt],.val _ rfl⟩
  ·injection h with h
   subst h
   obtain⟨blk,gr,rc,o0,rfl,_⟩:=hx.sR
   exact⟨_,by simp[Builtin.len_,run_underlying ht,goInt],.val _ rfl⟩
  ·cases h
  ·cases h
 ·split at h
  ·cases h
  ·cases h
  ·injection h with h
   subst h
   obtain rfl:=hx.gp
   exact⟨_,by simp[Builtin.len_,run_underlying ht,goInt],.val _ rfl⟩
  ·cases h
theorem tH {x:AV} {y:Value} {m n:Nat} (hx:Rel G k nl x y) (h:asNat x m=some n):∃kd z,y=.int kd z∧0≤z∧z≤m∧z.toNat=n:=by
 unfold asNat at h
 split at h
 ·obtain rfl:=hx.gp
  split at h
  ·rename_i hc
   injection h with h
   exact⟨_,_,rfl,hc.1,hc.2,h⟩
  ·cases h
 ·cases h
theorem On {x:AV} {m n:Nat} (h:asNat x m=some n):n≤m:=by
 unfold asNat at h
 split at h
 ·split at h
  ·injection h with h;omega
  ·cases h
 ·cases h
def jV (G:aH) (k nl:Nat):Option AV→Option Value→Prop
 |none,none=>True
 |some x,some y=>Rel G k nl x y
 |_,_=>False
theorem agC {isSlice:Bool} {len cap:Nat} {lo hi:Option AV} {gS br:Option Value} {h l:Nat} (eZ:jV G k nl lo gS) (hJ:jV G k nl hi br)
  (eh:iU hi false cap len=some h) (el:iq lo h=some l):
  (Instr.sliceBounds isSlice len cap gS br none).run P w=.ok (l,h,cap) w:=by
 cases hi with
 | none =>
  cases br with
  |some=>exact hJ.elim
  | none =>
   simp only[iU,ew,eu,fI]at eh
   subst eh
   cases lo with
   | none =>
    cases gS with
    |some=>exact eZ.elim
    |none=>
     simp only[iq,fI]at el
     subst el
     simp[Instr.sliceBounds]
   | some x =>
    cases gS with
    |none=>exact eZ.elim
    |some y=>
     obtain⟨kd,z,rfl,z0,z1,rfl⟩:=tH eZ el
     simp[Instr.sliceBounds,run_sliceBound w kd z _ _ z0 z1]
 | some q =>
  cases br with
  |none=>exact hJ.elim
  | some p =>
   obtain⟨kd,z,rfl,z0,z1,rfl⟩:=tH hJ eh
   cases lo with
   | none =>
    cases gS with
    |some=>exact eZ.elim
    |none=>
     simp only[iq,fI]at el
     subst el
     simp[Instr.sliceBounds,run_sliceBound w kd z _ _ z0 z1]
   | some x =>
    cases gS with
    |none=>exact eZ.elim
    |some y=>
     obtain⟨sS,z',rfl,T9,Ua,rfl⟩:=tH eZ el
     simp[Instr.sliceBounds,run_sliceBound w kd z _ _ z0 z1,run_sliceBound w sS z' _ _ T9 Ua]
theorem agD {isSlice:Bool} {len cap:Nat} {lo:Option AV} {hi mx:AV} {gS:Option Value} {br jt:Value} {m h l:Nat} (eZ:jV G k nl lo gS) (hJ:Rel G k nl hi br) (jI:Rel G k nl mx jt) (em:asNat mx cap=some m)
  (eh:asNat hi m=some h) (el:iq lo h=some l):
  (Instr.sliceBounds isSlice len cap gS (some br) (some jt)).run P w=.ok (l,h,m) w:=by
 obtain⟨km,zm,rfl,zm0,zm1,rfl⟩:=tH jI em
 obtain⟨kd,z,rfl,z0,z1,rfl⟩:=tH hJ eh
 cases lo with
 | none =>
  cases gS with
  |some=>exact eZ.elim
  |none=>
   simp only[iq,fI]at el
   subst el
   simp[Instr.sliceBounds,run_sliceBound w km zm _ _ zm0 zm1,run_sliceBound w kd z _ _ z0 z1]
 | some x =>
  cases gS with
  |none=>exact eZ.elim
  |some y=>
   obtain⟨sS,z',rfl,T9,Ua,rfl⟩:=tH eZ el
   simp[Instr.sliceBounds,run_sliceBound w km zm _ _ zm0 zm1,run_sliceBound w kd z _ _ z0 z1,run_sliceBound w sS z' _ _ T9 Ua]
theorem ga.cut {I:fG} {es:Nat} {xs:List (List AV)} {a:Addr} {cap l h:Nat} (hx:ga I es xs a cap) (hl:l≤h) (hh:h≤xs.length) (m:Nat) (hm:h≤m) (hmc:m≤cap) (q:Addr) (hq:q=if m=l then a else a.add (l*es)):
  ga I es ((xs.take h).drop l) q (m-l):=by
 cases hx with
 |empty=>
  have h0:h=0:=by simpa using hh
  have l0:l=0:=by omega
  have m0:m=0:=by omega
  subst h0 l0 m0
  exact .empty (.inl rfl)
 | @slice _ _ _ blk off _ f ho hc eV bw hI hR =>
  have hlen:((xs.take h).drop l).length=h-l:=by simp;omega
  have dW:∀i (hi:i<((xs.take h).drop l).length),((xs.take h).drop l)[i]=xs[l+i]'(by omega):=fun i hi=>by simp
  have gm:∀r,r∈(xs.take h).drop l→r∈xs:=fun r hr=>oB (NS hr)
  have e2:q=⟨blk,(if m=l then off else off+l*es),none⟩:=by
   rw[hq]
   split
   ·rfl
   ·rw[addr_add]
  rw[e2]
  refine bN.slice (fun i j=>f (l+i) j) (.inl rfl) (by omega) (fun r hr=>eV r (gm r hr)) (fun r hr=>bw r (gm r hr)) (fun i hi j hj=>?_) (fun i hi j hj=>?_)
  ·have aF:m≠l:=by omega
   have br:l+i<xs.length:=by omega
   have dx:j<(xs[l+i]).length:=by simp only[dW i hi]at hj;exact hj
   rw[ak aF]
   have:=hI (l+i) br j dx
   rw[iM]at this
   rw[←this]
   congr 1
   omega
  ·have br:l+i<xs.length:=by omega
   have dx:j<(xs[l+i]).length:=by simp only[dW i hi]at hj;exact hj
   have:=hR (l+i) br j dx
   simp only[dW i hi]
   exact this
end
end Go.Ax
/-
  The other operations without a call: slices, elements, structs and conversions.
-/
namespace Go.Ax
open Go.RowKit
section
variable{P:Program} {B0:Nat} {w0:World} {G:aH} {k nl:Nat} {w:World} {s:ae}
theorem Vs {x:AV} {m m' n:Nat} (h:asNat x m=some n) (hm:m≤m'):asNat x m'=some n:=by
 unfold asNat at h⊢
 split at h
 ·split at h
  ·rename_i hc
   rw[aj ⟨hc.1,by omega⟩]
   exact h
  ·cases h
 ·cases h
theorem Gz (es:Nat):∀(n:Nat) (cs:List AV),n*es≤cs.length→(chunks es n cs).length=n∧(∀r,r∈chunks es n cs→r.length=es)∧(∀r,r∈chunks es n cs→∀c,c∈r→c∈cs)∧
  ∀i (hi:i<(chunks es n cs).length) j (hj:j<(chunks es n cs)[i].length),∃h:i*es+j<cs.length,(chunks es n cs)[i][j]=cs[i*es+j]
 |0,cs,_=>by simp[chunks]
 | n + 1, cs, h => by
  have hs:(n+1)*es=n*es+es:=by rw[iM,wP]
  obtain⟨a1,a2,a3,a4⟩:=Gz es n (cs.drop es) (by simp;omega)
  refine⟨by simp[chunks,a1],fun r hr=>?_,fun r hr c hc=>?_,fun i hi j hj=>?_⟩
  ·simp only[chunks,dr]at hr
   rcases hr with rfl|hr
   ·simp;omega
   ·exact a2 r hr
  ·simp only[chunks,dr]at hr
   rcases hr with rfl|hr
   ·exact oB hc
   ·exact NS (a3 r hr c hc)
  ·cases i with
   |zero=>
    simp only[chunks,wL,ez]at hj⊢
    exact⟨by omega,by simp⟩
   |succ i=>
    simp only[chunks,IZ,cH]at hi hj⊢
    obtain⟨h1,h2⟩:=a4 i (by omega) j hj
    simp only[pU]at h1
    have e:(i+1)*es+j=es+(i*es+j):=by rw[iM,wP];omega
    refine⟨by omega,?_⟩
    rw[h2,List.getElem_drop]
    simp only[e]
theorem TC {I:fG} {cs:List AV} {es n cap blk o0 off:Nat} {f:Nat→Value} (bw:∀c,c∈cs→c.bK=true) (hI:∀i,i<cs.length→I blk (o0+i)=some (f i)) (hR:∀i (hi:i<cs.length),bN I cs[i] (f i))
  (hle:off+n*es≤cs.length) (hc:n≤cap):ga I es (chunks es n (cs.drop off)) ⟨blk,o0+off,none⟩ cap:=by
 obtain⟨a1,a2,a3,a4⟩:=Gz es n (cs.drop off) (by simp;omega)
 have:ga I es (chunks es n (cs.drop off)) ⟨blk,o0+off,none⟩ cap:=by
  refine bN.slice (fun i j=>f (off+(i*es+j))) (.inl rfl) (by omega) a2 (fun r hr c hc=>bw c (NS (a3 r hr c hc))) (fun i hi j hj=>?_) (fun i hi j hj=>?_)
  ·obtain⟨h1,_⟩:=a4 i hi j hj
   simp only[pU]at h1
   have:=hI (off+(i*es+j)) (by omega)
   rw[←this]
   congr 1
   omega
  ·obtain⟨h1,h2⟩:=a4 i hi j hj
   rw[h2,List.getElem_drop]
   exact hR _ _
 exact this
theorem adZ {I:fG} {es:Nat} {xs:List (List AV)} {a:Addr} {n:Nat} (hn:xs.length=n) (h:bN I (.slice .any es xs) (.slice (some a) n n)):bN I (.slice .full es xs) (.slice (some a) n n):=by
 subst hn
 generalize hN:xs.length=N at h
 cases h with
 |slice f ho hc eV bw hI hR=>exact .slice f (.inr ⟨rfl,rfl⟩) hc eV bw hI hR
 |empty=>exact .empty (.inr rfl)
def ae3 (P:Program) (t:TypeId):DS→Prop
 |.str=>P.underlying t=some .string
 |.sl es=>∃e,P.underlying t=some (.slice e)∧de P e=some es
 |.arr n es=>∃e,P.underlying t=some (.array n e)∧de P e=some es
theorem as7 {lo:Option AV} {h l:Nat} (e:iq lo h=some l):l≤h:=by
 cases lo with
 |none=>simp only[iq,fI]at e;omega
 |some y=>exact On e
theorem att {mx:Option AV} {cap m:Nat} (e:qD mx cap=some m):m≤cap:=by
 cases mx with
 |none=>simp only[qD,fI]at e;omega
 |some y=>exact On e
theorem Bd {isSlice:Bool} {len cap cap':Nat} {lo hi mx:Option AV} {gS br jt:Option Value} {m h l:Nat} (eZ:jV G k nl lo gS) (hJ:jV G k nl hi br) (jI:jV G k nl mx jt)
  (gQ:len≤cap) (Zd:cap≤cap') (em:qD mx cap=some m) (eh:iU hi mx.isSome m len=some h) (el:iq lo h=some l):
  l≤h∧h≤m∧m≤cap∧(Instr.sliceBounds isSlice len cap' gS br jt).run P w=.ok (l,h,if mx.isSome then m else cap') w:=by
 have hm:=att em
 have hl:=as7 el
 have hh:h≤m:=by
  cases hi with
  |none=>
   cases mx with
   |none=>simp only[iU,qD,tC,ew,eu,fI]at eh em;omega
   |some=>simp[iU]at eh
  |some y=>exact On eh
 refine⟨hl,hh,hm,?_⟩
 cases mx with
 | none =>
  cases jt with
  |some=>exact jI.elim
  |none=>
   simp only[qD,fI]at em
   subst em
   simp only[tC,ew,eu]
   refine agC eZ hJ ?_ el
   cases hi with
   |none=>exact eh
   |some y=>exact Vs eh Zd
 | some mv =>
  cases jt with
  |none=>exact jI.elim
  | some mv' =>
   cases hi with
   |none=>simp[iU]at eh
   | some hv =>
    cases br with
    |none=>exact hJ.elim
    |some rA=>
     simp only[N5,cI]
     exact agD eZ hJ jI (Vs em Zd) eh el
theorem axP {t:TypeId} {q:ByteArray} {x:Value} {v:AV} {lo hi mx:Option AV} {gS br jt:Option Value} (ht:P.underlying t=some .string)
  (hx:Rel G k nl (.v (.string q)) x) (eZ:jV G k nl lo gS) (hJ:jV G k nl hi br) (jI:jV G k nl mx jt) (h:fQ .str (.v (.string q)) lo hi mx=some v):
  ∃z,(Instr.sliceAt t x gS br jt).run P w=.ok z w∧Rel G k nl v z:=by
 obtain rfl:=hx.gp
 simp only[fQ]at h
 split at h
 ·cases h
 rename_i hs
 obtain⟨hh,eh,h⟩:=dS.1 h
 obtain⟨l,el,rfl⟩:=aZ.1 h
 have hn:mx=none:=by cases mx with|none=>rfl|some=>simp at hs
 subst hn
 obtain⟨h1,h2,h3,hb⟩:=Bd (P:=P) (w:=w) (isSlice:=false) (len:=q.size) (cap:=q.size) (cap':=q.size) eZ hJ jI (aI _) (aI _) rfl eh el
 have iV:jt=none:=by cases jt with|none=>rfl|some=>exact jI.elim
 subst iV
 refine⟨_,?_,.val _ rfl⟩
 simp only[Instr.sliceAt,Sem.run_bind,run_underlying ht,Result.andThen_ok,Instr.slice,tC,ew,eu,Sem.run_pure]
 simp[hb]
theorem axO {t e:TypeId} {e0:Nat} {o:Own} {es:Nat} {xs:List (List AV)} {x:Value} {v:AV} {lo hi mx:Option AV} {gS br jt:Option Value} (ht:P.underlying t=some (.slice e)) (cj:de P e=some e0)
  (hx:Rel G k nl (.slice o es xs) x) (eZ:jV G k nl lo gS) (hJ:jV G k nl hi br) (jI:jV G k nl mx jt) (h:fQ (.sl e0) (.slice o es xs) lo hi mx=some v):
  ∃z,(Instr.sliceAt t x gS br jt).run P w=.ok z w∧Rel G k nl v z:=by
 simp only[fQ]at h
 split at h
 case isFalse=>cases h
 rename_i Hn
 obtain⟨m,em,h⟩:=dS.1 h
 obtain⟨hh,eh,h⟩:=dS.1 h
 obtain⟨l,el,rfl⟩:=aZ.1 h
 rcases hx.kH with⟨rfl,rfl,rfl⟩|⟨aF,p,cap,rfl,nS,gQ,kG,Cs⟩
 ·obtain⟨h1,h2,h3,hb⟩:=Bd (P:=P) (w:=w) (isSlice:=true) (len:=0) (cap:=0) (cap':=0) eZ hJ jI (aI _) (aI _) em eh el
  have h0:hh=0:=by simp at h3;omega
  have l0:l=0:=by omega
  have m0:m=0:=by simp at h3;omega
  subst h0 l0 m0
  have hv:Rel G k nl (.slice .aA es []) (.slice none 0 0):=.cl .aA
  have nO:(.slice (wq .aA mx.isSome (0==0&&0==([]:List (List AV)).length) (0==0&&decide (0<0))) es (([].take 0).drop 0):AV)=.slice .aA es []:=by
   cases mx<;>simp[wq,Iy,Own.isNil]
  refine⟨.slice none 0 0,?_,by rw[nO];exact hv⟩
  simp only[Instr.sliceAt,Sem.run_bind,run_underlying ht,Result.andThen_ok,Instr.slice,hb]
  cases mx<;>simp[jR cj]
 ·have heq:es=e0:=by
   rcases Hn with h0|h0
   ·cases o<;>simp_all [Own.isNil]
   ·exact h0
  subst heq
  obtain⟨h1,h2,h3,hb⟩:=Bd (P:=P) (w:=w) (isSlice:=true) (len:=xs.length) (cap:=xs.length) (cap':=cap) eZ hJ jI (aI _) gQ em eh el
  have hlen:((xs.take hh).drop l).length=hh-l:=by simp;omega
  refine⟨.slice (some (if(if mx.isSome then m else cap)=l then p else p.add (l*es))) (hh-l) ((if mx.isSome then m else cap)-l),?_,?_⟩
  ·simp only[Instr.sliceAt,Sem.run_bind,run_underlying ht,Result.andThen_ok,Instr.slice,hb,jR cj,dJ,Sem.run_pure]
   congr 2
   split<;>split<;>rfl
  ·generalize hM:(if mx.isSome then m else cap)=M
   have hMh:hh≤M:=by rw[←hM];split<;>omega
   have Rk:bN G.I (.slice .any es ((xs.take hh).drop l)) (.slice (some (if M=l then p else p.add (l*es))) (hh-l) (M-l)):=by
    have:=ga.cut kG h1 (by omega) M hMh (by rw[←hM];split<;>omega) _ rfl
    unfold ga at this
    rwa [hlen]at this
   cases mx with
   | none =>
    simp only[tC,ew,eu]at hM
    subst hM
    simp only[wq,tC,ew,eu]
    by_cases hw:(l==0&&hh==xs.length)=true
    ·simp only[dE,P3]at hw
     obtain⟨rfl,rfl⟩:=hw
     have e1:(xs.take xs.length).drop 0=xs:=by simp
     have e2:(if cap=0 then p else p.add (0*es))=p:=by
      split
      ·rfl
      ·rw[yx (nS (by omega)),addr_add];simp
     rw[e1,e2]
     simp only[Nat.sub_zero]
     cases o with
     |aA=>exact absurd rfl aF
     |any=>exact hx
     |full=>exact .cl kG
     |tok d g=>simpa[Iy]using hx
    ·have ho:Iy o (l==0&&hh==xs.length)=.any:=by
      cases o with
      |aA=>exact absurd rfl aF
      |any=>rfl
      |full=>rfl
      |tok d g=>simp only[Iy];rw[ak hw]
     rw[ho]
     exact .cl Rk
   | some mv =>
    simp only[N5,cI]at hM
    subst hM
    have HA:o.isNil=false:=by cases o<;>simp_all [Own.isNil]
    simp only[wq,N5,cI,HA,ew,eu]
    by_cases hw:(hh==m&&decide (0<m))=true
    ·rw[aj hw]
     simp only[dE,P3]at hw
     obtain⟨rfl,_⟩:=hw
     exact .cl (adZ hlen Rk)
    ·rw[ak hw]
     exact .cl Rk
theorem axN {t e:TypeId} {e0 d b off es n cap:Nat} {x:Value} {v:AV} {lo hi mx:Option AV} {gS br jt:Option Value} (ht:P.underlying t=some (.slice e)) (cj:de P e=some e0)
  (hx:Rel G k nl (.aN d b off es n cap) x) (eZ:jV G k nl lo gS) (hJ:jV G k nl hi br) (jI:jV G k nl mx jt) (h:fQ (.sl e0) (.aN d b off es n cap) lo hi mx=some v):
  ∃z,(Instr.sliceAt t x gS br jt).run P w=.ok z w∧Rel G k nl v z:=by
 simp only[fQ]at h
 split at h
 case isFalse=>cases h
 rename_i Hn
 subst Hn
 obtain⟨m,em,h⟩:=dS.1 h
 obtain⟨hh,eh,h⟩:=dS.1 h
 obtain⟨l,el,rfl⟩:=aZ.1 h
 obtain⟨blk,gr,rc,o0,rfl,hd,hg,db,hn,hc,hw,ho⟩:=hx.sR
 obtain⟨h1,h2,h3,hb⟩:=Bd (P:=P) (w:=w) (isSlice:=true) (len:=n) (cap:=max n cap) (cap':=rc) eZ hJ jI (DO _ _) (Nat.max_le.2 ⟨hn,hc⟩) em eh el
 have RD:m≤if mx.isSome then m else rc:=by
  split
  ·exact aI _
  ·exact mN h3 (Nat.max_le.2 ⟨hn,hc⟩)
 generalize hM:(if mx.isSome then m else rc)=M at hb RD
 refine⟨.slice (some ⟨blk,if M=l then o0 else o0+l*es,none⟩) (hh-l) (M-l),?_,.aN gr hd hg db (N2 (mN h2 RD) l) (N2 RD l) (fun e1 e2=>by omega) (fun hp=>?_)⟩
 ·simp only[Instr.sliceAt,Sem.run_bind,run_underlying ht,Result.andThen_ok,Instr.slice,hb,jR cj,dJ,Sem.run_pure,addr_add]
  congr 2
  split<;>rfl
 ·have hlm:l<m:=by omega
  have h0:o0=off:=ho (by omega)
  rw[ak (by omega),ak (by omega),h0]
theorem axM {t e:TypeId} {N es:Nat} {a v:AV} {x:Value} {lo hi mx:Option AV} {gS br jt:Option Value} (ht:P.underlying t=some (.array N e)) (cj:de P e=some es)
  (hx:Rel G k nl a x) (eZ:jV G k nl lo gS) (hJ:jV G k nl hi br) (jI:jV G k nl mx jt) (h:fQ (.arr N es) a lo hi mx=some v):
  ∃z,(Instr.sliceAt t x gS br jt).run P w=.ok z w∧Rel G k nl v z:=by
 unfold fQ at h
 split at h<;>try contradiction
 ·rename_i n0 es0 d b off hk
  injection hk with qs kB
  subst qs kB
  split at h
  ·cases h
  rename_i hs
  have hn:mx=none:=by cases mx with|none=>rfl|some=>simp at hs
  subst hn
  obtain⟨hh,eh,h⟩:=dS.1 h
  obtain⟨l,el,rfl⟩:=aZ.1 h
  obtain⟨blk,gr,rfl,hd,hg,db⟩:=hx.sQ
  obtain⟨h1,h2,h3,hb⟩:=Bd (P:=P) (w:=w) (isSlice:=false) (len:=N) (cap:=N) (cap':=N) eZ hJ jI (aI _) (aI _) rfl eh el
  refine⟨_,?_,.aN gr hd hg db (N2 h2 l) (aI _) (fun e1 e2=>by omega) (fun _=>rfl)⟩
  simp only[Instr.sliceAt,Sem.run_bind,run_underlying ht,Result.andThen_ok,Instr.sureAddr,hb,jR cj,Sem.run_pure,addr_add,tC,ew,eu]
  congr 3
  split<;>rfl
 ·rename_i n0 es0 cs off hk
  injection hk with qs kB
  subst qs kB
  split at h
  ·cases h
  rename_i hs
  have hn:mx=none:=by cases mx with|none=>rfl|some=>simp at hs
  subst hn
  obtain⟨hh,eh,h⟩:=dS.1 h
  obtain⟨l,el,h⟩:=dS.1 h
  split at h
  case isFalse=>cases h
  rename_i hle
  injection h with h
  subst h
  obtain⟨blk,o0,f,rfl,bw,hI,hR⟩:=hx.zK
  obtain⟨h1,h2,h3,hb⟩:=Bd (P:=P) (w:=w) (isSlice:=false) (len:=N) (cap:=N) (cap':=N) eZ hJ jI (aI _) (aI _) rfl eh el
  have hmul:l*es+(hh-l)*es≤N*es:=by
   rw[←iM]
   exact pd _ (by omega)
  have cw:=TC (cap:=N-l) bw hI hR (es:=es) (n:=hh-l) (off:=off+l*es) (by omega) (N2 h2 l)
  have hlen:=(Gz es (hh-l) (cs.drop (off+l*es)) (by simp;omega)).1
  refine⟨.slice (some (if N=l then⟨blk,o0+off,none⟩else⟨blk,o0+(off+l*es),none⟩)) (hh-l) (N-l),?_,?_⟩
  ·simp only[Instr.sliceAt,Sem.run_bind,run_underlying ht,Result.andThen_ok,Instr.sureAddr,hb,jR cj,Sem.run_pure,addr_add,tC,ew,eu]
   congr 3
   split
   ·rfl
   ·congr 1;omega
  ·by_cases hN:N=l
   ·subst hN
    have h0:hh=N:=by omega
    subst h0
    simp only[DQ,chunks,cI]
    exact .cl (.slice (xs:=[]) (fun _ _=>Go.undef) (.inl rfl) (aI _) (fun r hr=>by cases hr) (fun r hr=>by cases hr) (fun i hi=>absurd hi (dH _)) (fun i hi=>absurd hi (dH _)))
   ·rw[ak hN]
    have:=Rel.cl (G:=G) (k:=k) (nl:=nl) cw
    unfold ga at cw
    rw[hlen]at cw
    exact .cl cw
theorem TM {t:TypeId} {kd:DS} {a v:AV} {x:Value} {lo hi mx:Option AV} {gS br jt:Option Value} (ht:ae3 P t kd)
  (hx:Rel G k nl a x) (eZ:jV G k nl lo gS) (hJ:jV G k nl hi br) (jI:jV G k nl mx jt) (h:fQ kd a lo hi mx=some v):
  ∃z,(Instr.sliceAt t x gS br jt).run P w=.ok z w∧Rel G k nl v z:=by
 cases kd with
 | str =>
  cases a with
  |v q=>
   cases q with
   |string q=>exact axP ht hx eZ hJ jI h
   |_=>simp[fQ]at h
  |_=>simp[fQ]at h
 |sl e0=>
  obtain⟨e,ht,hs⟩:=ht
  cases a with
  |slice o es xs=>exact axO ht hs hx eZ hJ jI h
  |aN d b off es n cap=>exact axN ht hs hx eZ hJ jI h
  |_=>simp[fQ]at h
 |arr n es=>
  obtain⟨e,ht,hs⟩:=ht
  exact axM ht hs hx eZ hJ jI h
end
end Go.Ax
/-
  Elements, fields, built values and conversions.
-/
namespace Go.Ax
open Go.RowKit
section
variable{P:Program} {B0:Nat} {w0:World} {G:aH} {k nl:Nat} {w:World} {s:ae}
theorem CR {x:AV} {y:Value} {n j:Nat} (hx:Rel G k nl x y) (h:idx x n=some j):∃kd z,y=.int kd z∧0≤z∧z<n∧z.toNat=j:=by
 unfold idx at h
 split at h
 ·obtain rfl:=hx.gp
  split at h
  ·rename_i hc
   injection h with h
   exact⟨_,_,rfl,hc.1,hc.2,h⟩
  ·cases h
 ·cases h
theorem aot {t e:TypeId} {es:Nat} {a i v:AV} {x y:Value} (ht:P.underlying t=some (.slice e)) (hs:de P e=some es) (hx:Rel G k nl a x) (hy:Rel G k nl i y)
  (h:gR none es a i=some v):∃z,(Instr.indexAt t x y).run P w=.ok z w∧Rel G k nl v z:=by
 unfold gR at h
 split at h<;>try contradiction
 ·rename_i o e1 xs _
  split at h
  case isFalse=>cases h
  rename_i he
  subst he
  obtain⟨j,hj,h⟩:=dS.1 h
  obtain⟨r,hr,rfl⟩:=aZ.1 h
  obtain⟨kd,z,rfl,z0,z1,rfl⟩:=CR hy hj
  obtain⟨nL,hr⟩:=bI.1 hr
  rcases hx.kH with⟨_,rfl,_⟩|⟨_,p,cap,rfl,nS,gQ,kG,_⟩
  ·simp at nL
  ·refine⟨.pointer (some (p.add (z.toNat*e1))),?_,?_⟩
   ·simp[Instr.indexAt,run_underlying ht,asIntOf,z0,z1,jR hs]
   ·cases kG with
    |empty=>exact absurd nL (dH _)
    | @slice _ _ _ blk off _ f ho hc eV bw hI hR=>
     rw[addr_add]
     subst hr
     refine .cl (.bd (off:=0) (o0:=off+z.toNat*e1) (fun q=>f z.toNat q) (fun c hc=>bw _ (iz nL) c hc) (fun q hq=>hI _ nL q hq) (fun q hq=>hR _ nL q hq))
 ·rename_i d b off e1 n cap _
  split at h
  case isFalse=>cases h
  rename_i he
  subst he
  obtain⟨j,hj,rfl⟩:=aZ.1 h
  obtain⟨kd,z,rfl,z0,z1,rfl⟩:=CR hy hj
  obtain⟨blk,gr,rc,o0,rfl,hd,hg,db,hn,_,_,ho⟩:=hx.sR
  have ho:=ho (.inl (by omega))
  subst ho
  refine⟨.pointer (some ⟨blk,o0+z.toNat*e1,none⟩),?_,.ptr gr hd hg db⟩
  simp[Instr.indexAt,run_underlying ht,asIntOf,z0,z1,jR hs,addr_add]
theorem aor {t e:TypeId} {N es:Nat} {a i v:AV} {x y:Value} (ht:P.underlying t=some (.array N e)) (hs:de P e=some es) (hx:Rel G k nl a x) (hy:Rel G k nl i y)
  (h:gR (some N) es a i=some v):∃z,(Instr.indexAt t x y).run P w=.ok z w∧Rel G k nl v z:=by
 unfold gR at h
 split at h<;>try contradiction
 ·rename_i n0 d b off hk
  injection hk with hk
  subst hk
  obtain⟨j,hj,rfl⟩:=aZ.1 h
  obtain⟨kd,z,rfl,z0,z1,rfl⟩:=CR hy hj
  obtain⟨blk,gr,rfl,hd,hg,db⟩:=hx.sQ
  refine⟨.pointer (some ⟨blk,off+z.toNat*es,none⟩),?_,.ptr gr hd hg db⟩
  simp[Instr.indexAt,run_underlying ht,asIntOf,z0,z1,jR hs,addr_add,Instr.sureAddr]
 ·rename_i n0 cs off hk
  injection hk with hk
  subst hk
  obtain⟨j,hj,rfl⟩:=aZ.1 h
  obtain⟨kd,z,rfl,z0,z1,rfl⟩:=CR hy hj
  obtain⟨blk,o0,f,rfl,bw,hI,hR⟩:=hx.zK
  refine⟨.pointer (some ⟨blk,o0+(off+z.toNat*es),none⟩),?_,.cl (.bd f bw hI hR)⟩
  simp[Instr.indexAt,run_underlying ht,asIntOf,z0,z1,jR hs,addr_add,Instr.sureAddr,wM]
theorem ajw {t:TypeId} {fs:Array Field} {f:Field} {i n:Nat} {a v:AV} {x:Value} (ht:P.underlying t=some (.struct fs)) (hf:fs[i]? =some f) (hn:de P f.type=some n) (h0:0<n)
  (hx:Rel G k nl a x) (h:Df f.offset a=some v):∃z,(Instr.fieldAt t x i).run P w=.ok z w∧Rel G k nl v z:=by
 have aF:n≠0:=by omega
 unfold Df at h
 split at h<;>try contradiction
 ·rename_i d b off
  injection h with h
  subst h
  obtain⟨blk,gr,rfl,hd,hg,db⟩:=hx.sQ
  refine⟨_,?_,.ptr gr hd hg db⟩
  simp[Instr.fieldAt,run_underlying ht,hf,Instr.sureAddr,fieldPlace,jR hn,aF,addr_add]
 ·rename_i cs off
  injection h with h
  subst h
  obtain⟨blk,o0,g,rfl,bw,hI,hR⟩:=hx.zK
  refine⟨.pointer (some ⟨blk,o0+(off+f.offset),none⟩),?_,.cl (.bd g bw hI hR)⟩
  simp[Instr.fieldAt,run_underlying ht,hf,Instr.sureAddr,fieldPlace,jR hn,aF,addr_add,wM]
theorem aou {t:TypeId} {a i v:AV} {x y:Value} (ht:P.underlying t=some .string) (hx:Rel G k nl a x) (hy:Rel G k nl i y)
  (h:zJ a i=some v):∃z,(Instr.index t x y).run P w=.ok z w∧Rel G k nl v z:=by
 unfold zJ at h
 split at h
 ·rename_i q
  obtain rfl:=hx.gp
  obtain⟨j,hj,h⟩:=dS.1 h
  obtain⟨b,hb,rfl⟩:=aZ.1 h
  obtain⟨kd,z,rfl,z0,z1,rfl⟩:=CR hy hj
  refine⟨_,?_,.val _ rfl⟩
  simp only[Instr.index,asIntOf,Sem.run_bind,run_underlying ht,Result.andThen_ok,Sem.run_pure,aj z0,hb]
 ·cases h
theorem aov {t e:TypeId} {N es:Nat} {g:Bool} {a i v:AV} {x y:Value} (ht:P.underlying t=some (.array N e)) (hg:vR P e=some g) (hn:de P e=some es) (hx:Rel G k nl a x) (hy:Rel G k nl i y)
  (h:HV N es g a i=some v):∃z,(Instr.index t x y).run P w=.ok z w∧Rel G k nl v z:=by
 unfold HV at h
 split at h
 ·rename_i cs
  obtain⟨arr,rfl,hl,bw,hR⟩:=hx.x8
  obtain⟨j,hj,h⟩:=dS.1 h
  obtain⟨kd,z,rfl,z0,z1,rfl⟩:=CR hy hj
  rcases Tf (f:=fun i=>arr.getD i Go.undef) h bw hR with⟨rfl,hle,hv⟩|⟨rfl,aB,hv⟩
  ·refine⟨_,?_,hv⟩
   simp only[Instr.index,asIntOf,Sem.run_bind,run_underlying ht,Result.andThen_ok,Sem.run_pure,Go.part,zL hg,cI,jR hn]
   rw[aj ⟨z0,z1⟩]
   simp only[Sem.run_bind,Result.andThen_ok,jR hn,zL hg,cI,Sem.run_pure]
   congr 2
   apply Array.ext
   ·simp;omega
   ·intro j h1 h2
    simp at h1 h2⊢
    have:z.toNat*es+j<arr.size:=by omega
    simp[Array.getD,this]
  ·refine⟨_,?_,hv⟩
   have:z.toNat*es<arr.size:=by omega
   simp only[Instr.index,asIntOf,Sem.run_bind,run_underlying ht,Result.andThen_ok,Sem.run_pure,Go.part,jR hn]
   rw[aj ⟨z0,z1⟩]
   simp only[Sem.run_bind,Result.andThen_ok,jR hn,zL hg,ew,eu,Sem.run_pure]
   simp[Array.getD,this]
 ·cases h
theorem Yx:∀(vs:List Value) (n o:Nat) (arr:Array Value),(vs.zipIdx n).foldl (fun(cs:Array Value) (p:Value×Nat)=>cs.setIfInBounds (o+p.2) p.1) arr=jw arr (o+n) vs
 |[],_,_,_=>rfl
 |v::r,n,o,arr=>by
  simp only[List.zipIdx_cons,ma,jw]
  rw[Yx r (n+1) o]
  rfl
theorem Yv (cs:Array Value) (o:Nat) (arr:Array Value):cs.zipIdx.foldl (fun(c:Array Value) (p:Value×Nat)=>c.setIfInBounds (o+p.2) p.1) arr=jw arr o cs.toList:=by
 rw[←Array.foldl_toList,Array.toList_zipIdx,Yx,AA]
theorem ajz {cs:List AV} {arr:Array Value} {o size:Nat} {x:AV} {v:Value} {cs':List AV} (cw:jA (Rel G k nl) cs arr) (bw:∀c,c∈cs→c.bK=true) (hx:Rel G k nl x v) (h:y6 cs o size x=some cs'):
  v.cells.size=size∧o+size≤arr.size∧jA (Rel G k nl) cs' (jw arr o v.cells.toList)∧∀c,c∈cs'→c.bK=true:=by
 unfold y6 at h
 split at h
 ·rename_i hc
  obtain⟨h1,h2,h3⟩:=hc
  injection h with h
  subst h
  have hv:=hx.cells h3
  refine⟨hv.1.trans h1,by rw[cw.1];exact h2,jA.jw (by simpa using hv.1) (fun i hi hj=>?_) o cw,fun c hc=>?_⟩
  ·have:=hv.2 i hi
   have he:v.cells.getD i Go.undef=v.cells.toList[i]:=by
    have:i<v.cells.size:=by simpa using hj
    simp[Array.getD,this]
   rw[←he]
   exact this
  ·rcases adb hc with hc|hc
   ·exact bw c hc
   ·exact jh.1 h3 c hc
 ·cases h
theorem QB {ρ:Nat→AV} {a:Act} (hR:eM G k nl ρ a) (place:Nat→Option (Nat×Nat)):∀(parts:List (Nat×Operand)) (ps:List (Nat×Nat×aJ)) (cs cs':List AV) (arr:Array Value),
  xm P place parts=some ps→jA (Rel G k nl) cs arr→(∀c,c∈cs→c.bK=true)→nz cs (aD ρ) ps=some cs'→
  ∃arr',Instr.fill place arr (parts.map fun p=>(p.1,a.eval p.2))=some arr'∧jA (Rel G k nl) cs' arr'∧∀c,c∈cs'→c.bK=true
 |[],ps,cs,cs',arr,hp,cw,bw,h=>by
  simp only[xm]at hp
  injection hp with hp
  subst hp
  simp only[nz]at h
  injection h with h
  subst h
  exact⟨arr,rfl,cw,bw⟩
 | (i, x) :: r, ps, cs, cs', arr, hp, cw, bw, h => by
  simp only[xm]at hp
  split at hp
  ·rename_i off size y s' e1 e2 e3
   injection hp with hp
   subst hp
   simp only[nz]at h
   split at h
   ·rename_i cs1 hf
    have hx:=dm e2 hR
    obtain⟨g1,g2,g3,g4⟩:=ajz cw bw hx hf
    obtain⟨arr',k1,k2,k3⟩:=QB hR place r s' cs1 cs' _ e3 g3 g4 h
    refine⟨arr',?_,k2,k3⟩
    simp only[fR,Instr.fill,e1]
    rw[ak (by simp only[An,bne_iff_ne,fB];omega),Yv]
    exact k1
   ·cases h
  ·cases hp
theorem yn {t:TypeId} {zs:List AV} (h:fl P t=some zs):∃z,(P.info? t).bind (·.zero)=some z∧fE uv z.cells.toList=some zs:=by
 unfold fl at h
 obtain⟨z,h1,h2⟩:=dS.1 h
 exact⟨z,h1,h2⟩
theorem aci (w:World):∀(fs:List Field),(∀f,f∈fs→(de P f.type).isSome=true)→
  (fs.mapM fun f=>Functor.map (Prod.mk f.offset) (sizeOf f.type)).run P w=.ok (fs.map fun f=>(f.offset,(de P f.type).getD 0)) w
 |[],_=>by simp
 |f::fs,h=>by
  obtain⟨n,hn⟩:=tB.1 (h f (by simp))
  simp[UD,jR hn,aci w fs (fun g hg=>h g (by simp[hg])),hn]
theorem agN {t : TypeId} {zs cs : List AV} {fs : Array Field} {parts : Array (Nat × Operand)} {ps : List (Nat × Nat × aJ)} {ρ : Nat → AV} {a : Act} (hR : eM G k nl ρ a) (hz : fl P t = some zs)
    (ht:P.underlying t=some (.struct fs)) (hf:fs.toList.all (fun f=>(de P f.type).isSome)=true)
    (hp : xm P (fun i => match fs[i]? with
        |some f=>(de P f.type).map fun s=>(f.offset,s)
        |none=>none) parts.toList=some ps) (h:nz zs (aD ρ) ps=some cs):
    ∃z,(Instr.build t (parts.map fun(i,x)=>(i,a.eval x))).run P w=.ok z w∧Rel G k nl (.agg cs) z:=by
  obtain⟨z,h1,h2⟩:=yn hz
  obtain⟨c1,c2,c3⟩:=tL (I:=G.I) h2
  obtain⟨arr',k1,k2,k3⟩:=QB hR _ parts.toList ps zs cs z.cells hp ⟨c1,fun i hi=>.cl (c3 i hi)⟩ c2 h
  refine⟨.agg arr',?_,.agg k2.1 k3 k2.2⟩
  have jF:∀f,f∈fs.toList→(de P f.type).isSome=true:=jh.1 hf
  have ed:(fun x:Nat=>(fs.toList.map fun f:Field=>(f.offset,(de P f.type).getD 0)).toArray[x]?)=(fun i=>match fs[i]? with
        |some f=>(de P f.type).map fun s=>(f.offset,s)
        |none=>none):=by
    funext i
    by_cases hi:i<fs.size
    · obtain ⟨n, hn⟩ := tB.1 (jF fs[i] (by simp))
      simp[hi,hn]
    · simp[hi]
  have hm:(parts.map fun(i,x)=>(i,a.eval x)).toList=parts.toList.map fun p=>(p.1,a.eval p.2):=by simp
  simp only[Instr.build,Sem.run_bind,Dv h1,Result.andThen_ok,run_underlying ht,Sem.run_pure,aeH,Sem.run_map]
  have ru:=aci w fs.toList jF
  have ans:(fs.toList.mapM fun f=>(do pure (f.offset,←sizeOf f.type):Sem (Nat×Nat))).run P w=.ok (fs.toList.map fun f:Field=>(f.offset,(de P f.type).getD 0)) w:=by
    rw[←ru]
    rfl
  simp only[ans,Sem.run_bind,Sem.run_map,Result.andThen_ok,hm,ed,k1,Sem.run_pure]
theorem agH {t e:TypeId} {N es:Nat} {zs cs:List AV} {parts:Array (Nat×Operand)} {ps:List (Nat×Nat×aJ)} {ρ:Nat→AV} {a:Act} (hR:eM G k nl ρ a) (hz:fl P t=some zs)
  (ht:P.underlying t=some (.array N e)) (hs:de P e=some es)
  (hp:xm P (fun i=>some (i*es,es)) parts.toList=some ps) (h:nz zs (aD ρ) ps=some cs):
  ∃z,(Instr.build t (parts.map fun(i,x)=>(i,a.eval x))).run P w=.ok z w∧Rel G k nl (.agg cs) z:=by
 obtain⟨z,h1,h2⟩:=yn hz
 obtain⟨c1,c2,c3⟩:=tL (I:=G.I) h2
 obtain⟨arr',k1,k2,k3⟩:=QB hR _ parts.toList ps zs cs z.cells hp ⟨c1,fun i hi=>.cl (c3 i hi)⟩ c2 h
 refine⟨.agg arr',?_,.agg k2.1 k3 k2.2⟩
 have hm:(parts.map fun(i,x)=>(i,a.eval x)).toList=parts.toList.map fun p=>(p.1,a.eval p.2):=by simp
 simp only[Instr.build,Sem.run_bind,Dv h1,Result.andThen_ok,run_underlying ht,Sem.run_pure,jR hs,hm,k1]
end
end Go.Ax
