/-
  Elements, fields, built values and conversions.
-/
import Derived.Test.YthpnomimjpcgnaaGreatDoorT2
import Derived.Laws.IdiomStrings
import Derived.Laws.MakeOwn
import Derived.RangeFuncOwn
set_option linter.unusedSimpArgs false
set_option linter.unusedVariables false
set_option maxRecDepth 100000
namespace Go.Ax
open Go.RowKit
section
variable{P:Program} {B0:Nat} {w0:World} {G:aG} {k nl:Nat} {w:World} {s:ae}
theorem BD {x:AV} {y:Value} {n j:Nat} (hx:Rel G k nl x y) (h:idx x n=some j):∃kd z,y=.int kd z∧0≤z∧z<n∧z.toNat=j:=by
 unfold idx at h
 split at h
 ·obtain rfl:=hx.gu
  split at h
  ·rename_i hc
   injection h with h
   exact⟨_,_,rfl,hc.1,hc.2,h⟩
  ·cases h
 ·cases h
theorem akE {t e:TypeId} {es:Nat} {a i v:AV} {x y:Value} (ht:P.underlying t=some (.slice e)) (hs:cK P e=some es) (hx:Rel G k nl a x) (hy:Rel G k nl i y)
  (h:jS none es a i=some v):∃z,(Instr.indexAt t x y).run P w=.ok z w∧Rel G k nl v z:=by
 unfold jS at h
 split at h<;>try contradiction
 ·rename_i o e1 xs _
  split at h
  case isFalse=>cases h
  rename_i he
  subst he
  obtain⟨j,hj,h⟩:=da.1 h
  obtain⟨r,hr,rfl⟩:=aS.1 h
  obtain⟨kd,z,rfl,z0,z1,rfl⟩:=BD hy hj
  obtain⟨hU,hr⟩:=aY.1 hr
  rcases hx.iS with⟨_,rfl,_⟩|⟨_,p,cap,rfl,qT,fC,mh,_⟩
  ·simp at hU
  ·refine⟨.pointer (some (p.add (z.toNat*e1))),?_,?_⟩
   ·simp[Instr.indexAt,run_underlying ht,asIntOf,z0,z1,jF hs]
   ·cases mh with
    |empty=>exact absurd hU (dk _)
    | @slice _ _ _ blk off _ f ho hc dU bt hI hR=>
     rw[il]
     subst hr
     refine .cl (.bo (off:=0) (o0:=off+z.toNat*e1) (fun q=>f z.toNat q) (fun c hc=>bt _ (gA hU) c hc) (fun q hq=>hI _ hU q hq) (fun q hq=>hR _ hU q hq))
 ·rename_i d b off e1 n cap _
  split at h
  case isFalse=>cases h
  rename_i he
  subst he
  obtain⟨j,hj,rfl⟩:=aS.1 h
  obtain⟨kd,z,rfl,z0,z1,rfl⟩:=BD hy hj
  obtain⟨blk,gr,rc,o0,rfl,hd,hg,cu,hn,_,_,ho⟩:=hx.mj
  have ho:=ho (.inl (by omega))
  subst ho
  refine⟨.pointer (some ⟨blk,o0+z.toNat*e1,none⟩),?_,.ptr gr hd hg cu⟩
  simp[Instr.indexAt,run_underlying ht,asIntOf,z0,z1,jF hs,il]
theorem akC {t e:TypeId} {N es:Nat} {a i v:AV} {x y:Value} (ht:P.underlying t=some (.array N e)) (hs:cK P e=some es) (hx:Rel G k nl a x) (hy:Rel G k nl i y)
  (h:jS (some N) es a i=some v):∃z,(Instr.indexAt t x y).run P w=.ok z w∧Rel G k nl v z:=by
 unfold jS at h
 split at h<;>try contradiction
 ·rename_i n0 d b off hk
  injection hk with hk
  subst hk
  obtain⟨j,hj,rfl⟩:=aS.1 h
  obtain⟨kd,z,rfl,z0,z1,rfl⟩:=BD hy hj
  obtain⟨blk,gr,rfl,hd,hg,cu⟩:=hx.sy
  refine⟨.pointer (some ⟨blk,off+z.toNat*es,none⟩),?_,.ptr gr hd hg cu⟩
  simp[Instr.indexAt,run_underlying ht,asIntOf,z0,z1,jF hs,il,Instr.sureAddr]
 ·rename_i n0 cs off hk
  injection hk with hk
  subst hk
  obtain⟨j,hj,rfl⟩:=aS.1 h
  obtain⟨kd,z,rfl,z0,z1,rfl⟩:=BD hy hj
  obtain⟨blk,o0,f,rfl,bt,hI,hR⟩:=hx.zn
  refine⟨.pointer (some ⟨blk,o0+(off+z.toNat*es),none⟩),?_,.cl (.bo f bt hI hR)⟩
  simp[Instr.indexAt,run_underlying ht,asIntOf,z0,z1,jF hs,il,Instr.sureAddr,vK]
theorem af2 {t:TypeId} {fs:Array Field} {f:Field} {i n:Nat} {a v:AV} {x:Value} (ht:P.underlying t=some (.struct fs)) (hf:fs[i]? =some f) (hn:cK P f.type=some n) (h0:0<n)
  (hx:Rel G k nl a x) (h:BY f.offset a=some v):∃z,(Instr.fieldAt t x i).run P w=.ok z w∧Rel G k nl v z:=by
 have aB:n≠0:=by omega
 unfold BY at h
 split at h<;>try contradiction
 ·rename_i d b off
  injection h with h
  subst h
  obtain⟨blk,gr,rfl,hd,hg,cu⟩:=hx.sy
  refine⟨_,?_,.ptr gr hd hg cu⟩
  simp[Instr.fieldAt,run_underlying ht,hf,Instr.sureAddr,fieldPlace,jF hn,aB,il]
 ·rename_i cs off
  injection h with h
  subst h
  obtain⟨blk,o0,g,rfl,bt,hI,hR⟩:=hx.zn
  refine⟨.pointer (some ⟨blk,o0+(off+f.offset),none⟩),?_,.cl (.bo g bt hI hR)⟩
  simp[Instr.fieldAt,run_underlying ht,hf,Instr.sureAddr,fieldPlace,jF hn,aB,il,vK]
theorem akF {t:TypeId} {a i v:AV} {x y:Value} (ht:P.underlying t=some .string) (hx:Rel G k nl a x) (hy:Rel G k nl i y)
  (h:BF a i=some v):∃z,(Instr.index t x y).run P w=.ok z w∧Rel G k nl v z:=by
 unfold BF at h
 split at h
 ·rename_i q
  obtain rfl:=hx.gu
  obtain⟨j,hj,h⟩:=da.1 h
  obtain⟨b,hb,rfl⟩:=aS.1 h
  obtain⟨kd,z,rfl,z0,z1,rfl⟩:=BD hy hj
  refine⟨_,?_,.val _ rfl⟩
  simp only[Instr.index,asIntOf,Sem.run_bind,run_underlying ht,Result.andThen_ok,Sem.run_pure,ak z0,hb]
 ·cases h
theorem akG {t e:TypeId} {N es:Nat} {g:Bool} {a i v:AV} {x y:Value} (ht:P.underlying t=some (.array N e)) (hg:tI P e=some g) (hn:cK P e=some es) (hx:Rel G k nl a x) (hy:Rel G k nl i y)
  (h:Gs N es g a i=some v):∃z,(Instr.index t x y).run P w=.ok z w∧Rel G k nl v z:=by
 unfold Gs at h
 split at h
 ·rename_i cs
  obtain⟨arr,rfl,hl,bt,hR⟩:=hx.xm
  obtain⟨j,hj,h⟩:=da.1 h
  obtain⟨kd,z,rfl,z0,z1,rfl⟩:=BD hy hj
  rcases Qv (f:=fun i=>arr.getD i Go.undef) h bt hR with⟨rfl,hle,hv⟩|⟨rfl,aC,hv⟩
  ·refine⟨_,?_,hv⟩
   simp only[Instr.index,asIntOf,Sem.run_bind,run_underlying ht,Result.andThen_ok,Sem.run_pure,Go.part,zo hg,bZ,jF hn]
   rw[ak ⟨z0,z1⟩]
   simp only[Sem.run_bind,Result.andThen_ok,jF hn,zo hg,bZ,Sem.run_pure]
   congr 2
   apply Array.ext
   ·simp;omega
   ·intro j h1 h2
    simp at h1 h2⊢
    have:z.toNat*es+j<arr.size:=by omega
    simp[Array.getD,this]
  ·refine⟨_,?_,hv⟩
   have:z.toNat*es<arr.size:=by omega
   simp only[Instr.index,asIntOf,Sem.run_bind,run_underlying ht,Result.andThen_ok,Sem.run_pure,Go.part,jF hn]
   rw[ak ⟨z0,z1⟩]
   simp only[Sem.run_bind,Result.andThen_ok,jF hn,zo hg,eB,dt,Sem.run_pure]
   simp[Array.getD,this]
 ·cases h
theorem VQ:∀(vs:List Value) (n o:Nat) (arr:Array Value),(vs.zipIdx n).foldl (fun(cs:Array Value) (p:Value×Nat)=>cs.setIfInBounds (o+p.2) p.1) arr=jl arr (o+n) vs
 |[],_,_,_=>rfl
 |v::r,n,o,arr=>by
  simp only[List.zipIdx_cons,sV,jl]
  rw[VQ r (n+1) o]
  rfl
theorem N2 (cs:Array Value) (o:Nat) (arr:Array Value):cs.zipIdx.foldl (fun(c:Array Value) (p:Value×Nat)=>c.setIfInBounds (o+p.2) p.1) arr=jl arr o cs.toList:=by
 rw[←Array.foldl_toList,Array.toList_zipIdx,VQ,vL]
theorem af5 {cs:List AV} {arr:Array Value} {o size:Nat} {x:AV} {v:Value} {cs':List AV} (cm:jr (Rel G k nl) cs arr) (bt:∀c,c∈cs→c.bu=true) (hx:Rel G k nl x v) (h:AU cs o size x=some cs'):
  v.cells.size=size∧o+size≤arr.size∧jr (Rel G k nl) cs' (jl arr o v.cells.toList)∧∀c,c∈cs'→c.bu=true:=by
 unfold AU at h
 split at h
 ·rename_i hc
  obtain⟨h1,h2,h3⟩:=hc
  injection h with h
  subst h
  have hv:=hx.cells h3
  refine⟨hv.1.trans h1,by rw[cm.1];exact h2,jr.jl (by simpa using hv.1) (fun i hi hj=>?_) o cm,fun c hc=>?_⟩
  ·have:=hv.2 i hi
   have he:v.cells.getD i Go.undef=v.cells.toList[i]:=by
    have:i<v.cells.size:=by simpa using hj
    simp[Array.getD,this]
   rw[←he]
   exact this
  ·rcases aad hc with hc|hc
   ·exact bt c hc
   ·exact jJ.1 h3 c hc
 ·cases h
theorem NY {ρ:Nat→AV} {a:Act} (hR:eC G k nl ρ a) (place:Nat→Option (Nat×Nat)):∀(parts:List (Nat×Operand)) (ps:List (Nat×Nat×aF)) (cs cs':List AV) (arr:Array Value),
  wB P place parts=some ps→jr (Rel G k nl) cs arr→(∀c,c∈cs→c.bu=true)→ns cs (aE ρ) ps=some cs'→
  ∃arr',Instr.fill place arr (parts.map fun p=>(p.1,a.eval p.2))=some arr'∧jr (Rel G k nl) cs' arr'∧∀c,c∈cs'→c.bu=true
 |[],ps,cs,cs',arr,hp,cm,bt,h=>by
  simp only[wB]at hp
  injection hp with hp
  subst hp
  simp only[ns]at h
  injection h with h
  subst h
  exact⟨arr,rfl,cm,bt⟩
 | (i, x) :: r, ps, cs, cs', arr, hp, cm, bt, h => by
  simp only[wB]at hp
  split at hp
  ·rename_i off size y s' e1 e2 e3
   injection hp with hp
   subst hp
   simp only[ns]at h
   split at h
   ·rename_i cs1 hf
    have hx:=dc e2 hR
    obtain⟨g1,g2,g3,g4⟩:=af5 cm bt hx hf
    obtain⟨arr',k1,k2,k3⟩:=NY hR place r s' cs1 cs' _ e3 g3 g4 h
    refine⟨arr',?_,k2,k3⟩
    simp only[gO,Instr.fill,e1]
    rw[aq (by simp only[ru,bne_iff_ne,dx];omega),N2]
    exact k1
   ·cases h
  ·cases hp
theorem tX {t:TypeId} {zs:List AV} (h:cZ P t=some zs):∃z,(P.info? t).bind (·.zero)=some z∧fH tJ z.cells.toList=some zs:=by
 unfold cZ at h
 obtain⟨z,h1,h2⟩:=da.1 h
 exact⟨z,h1,h2⟩
theorem Zk (w:World):∀(fs:List Field),(∀f,f∈fs→(cK P f.type).isSome=true)→
  (fs.mapM fun f=>Functor.map (Prod.mk f.offset) (sizeOf f.type)).run P w=.ok (fs.map fun f=>(f.offset,(cK P f.type).getD 0)) w
 |[],_=>by simp
 |f::fs,h=>by
  obtain⟨n,hn⟩:=oO.1 (h f (by simp))
  simp[RR,jF hn,Zk w fs (fun g hg=>h g (by simp[hg])),hn]
theorem ada {t : TypeId} {zs cs : List AV} {fs : Array Field} {parts : Array (Nat × Operand)} {ps : List (Nat × Nat × aF)} {ρ : Nat → AV} {a : Act} (hR : eC G k nl ρ a) (hz : cZ P t = some zs)
    (ht:P.underlying t=some (.struct fs)) (hf:fs.toList.all (fun f=>(cK P f.type).isSome)=true)
    (hp : wB P (fun i => match fs[i]? with
        |some f=>(cK P f.type).map fun s=>(f.offset,s)
        |none=>none) parts.toList=some ps) (h:ns zs (aE ρ) ps=some cs):
    ∃z,(Instr.build t (parts.map fun(i,x)=>(i,a.eval x))).run P w=.ok z w∧Rel G k nl (.agg cs) z:=by
  obtain⟨z,h1,h2⟩:=tX hz
  obtain⟨c1,c2,c3⟩:=rN (I:=G.I) h2
  obtain⟨arr',k1,k2,k3⟩:=NY hR _ parts.toList ps zs cs z.cells hp ⟨c1,fun i hi=>.cl (c3 i hi)⟩ c2 h
  refine⟨.agg arr',?_,.agg k2.1 k3 k2.2⟩
  have dT:∀f,f∈fs.toList→(cK P f.type).isSome=true:=jJ.1 hf
  have cD:(fun x:Nat=>(fs.toList.map fun f:Field=>(f.offset,(cK P f.type).getD 0)).toArray[x]?)=(fun i=>match fs[i]? with
        |some f=>(cK P f.type).map fun s=>(f.offset,s)
        |none=>none):=by
    funext i
    by_cases hi:i<fs.size
    · obtain ⟨n, hn⟩ := oO.1 (dT fs[i] (by simp))
      simp[hi,hn]
    · simp[hi]
  have hm:(parts.map fun(i,x)=>(i,a.eval x)).toList=parts.toList.map fun p=>(p.1,a.eval p.2):=by simp
  simp only[Instr.build,Sem.run_bind,xJ h1,Result.andThen_ok,run_underlying ht,Sem.run_pure,abh,Sem.run_map]
  have qO:=Zk w fs.toList dT
  have ajE:(fs.toList.mapM fun f=>(do pure (f.offset,←sizeOf f.type):Sem (Nat×Nat))).run P w=.ok (fs.toList.map fun f:Field=>(f.offset,(cK P f.type).getD 0)) w:=by
    rw[←qO]
    rfl
  simp only[ajE,Sem.run_bind,Sem.run_map,Result.andThen_ok,hm,cD,k1,Sem.run_pure]
theorem ac4 {t e:TypeId} {N es:Nat} {zs cs:List AV} {parts:Array (Nat×Operand)} {ps:List (Nat×Nat×aF)} {ρ:Nat→AV} {a:Act} (hR:eC G k nl ρ a) (hz:cZ P t=some zs)
  (ht:P.underlying t=some (.array N e)) (hs:cK P e=some es)
  (hp:wB P (fun i=>some (i*es,es)) parts.toList=some ps) (h:ns zs (aE ρ) ps=some cs):
  ∃z,(Instr.build t (parts.map fun(i,x)=>(i,a.eval x))).run P w=.ok z w∧Rel G k nl (.agg cs) z:=by
 obtain⟨z,h1,h2⟩:=tX hz
 obtain⟨c1,c2,c3⟩:=rN (I:=G.I) h2
 obtain⟨arr',k1,k2,k3⟩:=NY hR _ parts.toList ps zs cs z.cells hp ⟨c1,fun i hi=>.cl (c3 i hi)⟩ c2 h
 refine⟨.agg arr',?_,.agg k2.1 k3 k2.2⟩
 have hm:(parts.map fun(i,x)=>(i,a.eval x)).toList=parts.toList.map fun p=>(p.1,a.eval p.2):=by simp
 simp only[Instr.build,Sem.run_bind,xJ h1,Result.andThen_ok,run_underlying ht,Sem.run_pure,jF hs,hm,k1]
end
end Go.Ax
/-
  Slices built or made, conversions, the least and the greatest.
-/
namespace Go.Ax
open Go.RowKit
section
variable{P:Program} {B0:Nat} {w0:World} {G:aG} {k nl:Nat} {w:World} {s:ae}
theorem Ua {q:Array UInt8} {c:Nat} (h:c<q.size):q.getD c 0=q[c]:=by
 unfold Array.getD
 rw[Jf h]
 rfl
theorem I7 {x z:AV} (h:x.close=some z):x.bu=true∧z.bu=true:=by
 have hx:x.bu=true:=by
  unfold AV.close at h
  split at h
  ·rfl
  ·split at h
   ·rename_i hc
    cases x with
    |v q=>cases q<;>first|rfl|(simp[AV.isClosed,AV.iT]at hc)
    |agg=>simp[AV.isClosed,AV.iT]at hc
    |tuple=>simp[AV.isClosed,AV.iT]at hc
    |_=>rfl
   ·cases h
 exact⟨hx,Nz h hx⟩
theorem Z9 {q:Nat}:∀(vs:List Value) (o:Nat) (arr:Array Value),o+vs.length≤arr.size→(jl arr o vs).getD q Go.undef=if o≤q∧q<o+vs.length then vs.getD (q-o) Go.undef else arr.getD q Go.undef
 |[],o,arr,_=>by
  rw[aq (by simp)]
  rfl
 | v :: r, o, arr, h => by
  simp only[dJ]at h
  simp only[jl]
  rw[Z9 r (o+1) _ (by simp;omega)]
  simp only[dJ]
  by_cases h1:o+1≤q∧q<o+1+r.length
  ·rw[ak h1,ak (by omega)]
   have:q-o=(q-(o+1))+1:=by omega
   rw[this,List.getD_cons_succ]
  ·rw[aq h1]
   by_cases h2:q=o
   ·subst h2
    rw[ak (by omega),HC]
    have:q<arr.size:=by omega
    simp[Array.getD,this]
   ·rw[aq (by omega)]
    by_cases hq:q<arr.size
    ·simp[Array.getD,hq,qn h2]
    ·simp[Array.getD,hq]
structure Rows (I:gg) (es:Nat) (rows:List (List AV)) (arr:Array Value):Prop where
 size:arr.size=rows.length*es
 len:∀r,r∈rows→r.length=es
 cell:∀r,r∈rows→∀c,c∈r→c.bu=true
 rel:∀i (hi:i<rows.length) j (hj:j<rows[i].length),bL I (rows[i][j]) (arr.getD (i*es+j) Go.undef)
theorem ZQ {i j n es:Nat} (hi:i<n) (hj:j<es):i*es+j<n*es:=by
 calc i*es+j<i*es+es:=by omega
  _=(i+1)*es:=by rw[ft,oN]
  _≤n*es:=mF _ hi
theorem ar2 {i q j es:Nat} (hj:j<es) (aB:q≠i):¬(i*es≤q*es+j∧q*es+j<i*es+es):=by
 intro⟨h1,h2⟩
 rcases R7 aB with h|h
 ·have:=ZQ (es:=es) h hj
  omega
 ·have:(i+1)*es≤q*es:=mF _ h
  rw[ft,oN]at this
  omega
theorem Rows.set {I:gg} {es:Nat} {rows:List (List AV)} {arr:Array Value} (h:Rows I es rows arr) {i:Nat} (hi:i<rows.length) {cs:List AV} {vs:Array Value} (hl:cs.length=es) (bt:∀c,c∈cs→c.bu=true)
  (hR:jr (bL I) cs vs):Rows I es (rows.set i cs) (jl arr (i*es) vs.toList):=by
 have Xy:vs.toList.length=es:=by simp[hR.1,hl]
 have hle:i*es+es≤rows.length*es:=by
  have:(i+1)*es≤rows.length*es:=mF _ hi
  rwa [ft,oN]at this
 refine⟨by rw[xC,zO];exact h.size,fun r hr=>?_,fun r hr=>?_,fun q hq j hj=>?_⟩
 ·rcases RV hr with hr|rfl
  ·exact h.len r hr
  ·exact hl
 ·rcases RV hr with hr|rfl
  ·exact h.cell r hr
  ·exact bt
 ·have Ga:q<rows.length:=by simpa using hq
  rw[Z9 _ _ _ (by rw[Xy,h.size];exact hle),Xy]
  by_cases he:i=q
  ·subst he
   simp only[List.getElem_set_self]at hj⊢
   rw[ak (by omega)]
   have e1:i*es+j-i*es=j:=by omega
   rw[e1]
   have:=hR.2 j hj
   have e2:vs.toList.getD j Go.undef=vs.getD j Go.undef:=by
    have:j<vs.size:=by rw[hR.1];exact hj
    simp[Array.getD,this]
   rw[e2]
   exact this
  ·simp only[List.getElem_set_ne he]at hj⊢
   have dM:j<es:=by rw[←h.len _ (gA Ga)];exact hj
   rw[aq (ar2 dM (qn he))]
   exact h.rel q Ga j hj
theorem ZT {ρ:Nat→AV} {a:Act} (hR:eC G k nl ρ a) {es:Nat}:∀(parts:List (Nat×Operand)) (ps:List (Nat×aF)) (rows B4:List (List AV)) (arr:Array Value),
  uD parts=some ps→Rows G.I es rows arr→mL rows (aE ρ) ps=some B4→
  ∃arr',Instr.fill (fun i=>some (i*es,es)) arr (parts.map fun p=>(p.1,a.eval p.2))=some arr'∧Rows G.I es B4 arr'∧B4.length=rows.length
 |[],ps,rows,B4,arr,hp,cm,h=>by
  simp only[uD]at hp
  injection hp with hp
  subst hp
  simp only[mL]at h
  injection h with h
  subst h
  exact⟨arr,rfl,cm,rfl⟩
 | (i, x) :: r, ps, rows, B4, arr, hp, cm, h => by
  simp only[uD]at hp
  split at hp
  ·rename_i y s' e2 e3
   injection hp with hp
   subst hp
   simp only[mL]at h
   split at h
   ·rename_i row cs f1 f2
    split at h
    ·rename_i hlen
     obtain⟨hi,ajP⟩:=aY.1 f1
     have et:row.length=es:=cm.len _ (ajP ▸ gA hi)
     have hx:=dc e2 hR
     obtain⟨c1,c2⟩:=I6 f2
     have dT:(aE ρ y).cells.all AV.bu=true:=by
      rw[jJ]
      intro c hc
      obtain⟨j,hj,rfl⟩:=n6 hc
      exact(I7 (c2 j hj (by omega))).1
     have FG:=hx.cells dT
     have J8:jr (bL G.I) cs (a.eval x).cells:=⟨by rw[FG.1,c1],fun j hj=>(FG.2 j (by omega)).close (c2 j (by omega) hj)⟩
     have eM:∀c,c∈cs→c.bu=true:=fun c hc=>by
      obtain⟨j,hj,rfl⟩:=n6 hc
      exact(I7 (c2 j (by omega) hj)).2
     have sn:=cm.set hi (hlen.trans et) eM J8
     obtain⟨arr',k1,k2,k3⟩:=ZT hR r s' _ B4 _ e3 sn h
     refine⟨arr',?_,k2,by rw[k3];simp⟩
     simp only[gO,Instr.fill]
     have bP:(a.eval x).cells.size=es:=by rw[J8.1,hlen,et]
     have hle:i*es+es≤rows.length*es:=by
      have:(i+1)*es≤rows.length*es:=mF _ hi
      rwa [ft,oN]at this
     have xf:=cm.size
     rw[aq (by simp only[ru,bne_iff_ne,dx,bP];omega),N2]
     exact k1
    ·cases h
   ·cases h
  ·cases hp
theorem Rows.slice {I:gg} {es b cap:Nat} {rows:List (List AV)} {arr:Array Value} (h:Rows I es rows arr) (hI:∀i,i<arr.size→I b i=arr[i]?) (fC:rows.length≤cap):fU I es rows ⟨b,0,none⟩ cap:=by
 refine fU.mk (fun c=>arr.getD c Go.undef) fC h.len h.cell (fun c hc=>?_) h.rel
 rw[fK,hI c (by rw[h.size];exact hc)]
 have:c<arr.size:=by rw[h.size];exact hc
 simp[Array.getD,this]
theorem Rows.mono {I I':gg} {es:Nat} {rows:List (List AV)} {arr:Array Value} (h:Rows I es rows arr) (hI:∀b i v,I b i=some v→I' b i=some v):Rows I' es rows arr:=
 ⟨h.size,h.len,h.cell,fun i hi j hj=>(h.rel i hi j hj).mono hI⟩
theorem ao5 (h:At P B0 w0 G k nl s w) {es n:Nat} {rows:List (List AV)} {arr:Array Value} (ty:TypeId) (hr:Rows G.I es rows arr) (hn:rows.length=n):
  df P B0 w0 G k nl s s (w.alloc (.cells arr ty)) (.slice .full es rows) (.slice (some ⟨w.heap.size,0,none⟩) n n):=by
 subst hn
 have hle:=G.CI w.heap.size arr h.rel.ud (k+1) s.loops.length
 have hs:=h.rel.LV arr ty (0,0)
 refine⟨_,h.to hs (hle.less (by omega) h.sE) rfl,hle,rfl,.cl (aaE rfl ?_)⟩
 refine(hr.mono hle.I).slice (fun i hi=>?_) (aH _)
 simp[aG.vS]
theorem Jv (zs:List AV) (h:0<zs.length):∀(n q:Nat),q<n*zs.length→((List.replicate n zs).flatten)[q]? =zs[q%zs.length]?
 |0,q,hq=>by simp at hq
 | n + 1, q, hq => by
  simp only[List.replicate_succ,sU]
  by_cases aC:q<zs.length
  ·rw[dB aC,HA aC]
  ·rw[ft,oN]at hq
   rw[gM (by omega),Jv zs h n _ (by omega),←Nat.mod_eq_sub_mod (by omega)]
theorem oV (zs:List AV) (n:Nat):(List.replicate n zs).flatten.length=n*zs.length:=by simp
theorem Lg {I:gg} {z:Value} {zs:List AV} (hz:fH tJ z.cells.toList=some zs) (h0:0<zs.length) (q:Nat):bL I (zs[q%zs.length]'(sZ _ h0)) (z.cells[q%z.cells.size]!):=by
 obtain⟨c1,c2,c3⟩:=rN (I:=I) hz
 have aC:q%zs.length<z.cells.size:=by rw[c1];exact sZ _ h0
 have:=c3 (q%zs.length) (sZ _ h0)
 rw[c1]
 have e:z.cells[q%zs.length]! =z.cells.getD (q%zs.length) Go.undef:=by simp[Array.getD,aC]
 rw[e]
 exact this
theorem at7 {I:gg} {es n:Nat} {z:Value} {zs:List AV} (hz:fH tJ z.cells.toList=some zs) (hl:zs.length=es) (h0:0<es):Rows I es (List.replicate n zs) ((Array.range (n*es)).map (z.cells[· %z.cells.size]!)):=by
 obtain⟨c1,c2,c3⟩:=rN (I:=I) hz
 refine⟨by simp,fun r hr=>?_,fun r hr=>?_,fun i hi j hj=>?_⟩
 ·rw[(Hs.1 hr).2];exact hl
 ·rw[(Hs.1 hr).2];exact c2
 ·have bD:i<n:=by simpa using hi
  have dM:j<es:=by simp only[abm]at hj;omega
  have aC:i*es+j<n*es:=ZQ bD dM
  have hm:(i*es+j)%es=j:=by rw[R9,Nat.mul_add_mod,HA dM]
  have:=Lg (I:=I) hz (by omega) (i*es+j)
  simp only[hl,hm]at this
  have e:((Array.range (n*es)).map (z.cells[· %z.cells.size]!)).getD (i*es+j) Go.undef=z.cells[(i*es+j)%z.cells.size]! :=by simp[Array.getD,aC]
  rw[e]
  simp only[abm]
  exact this
theorem T8 (h:At P B0 w0 G k nl s w) {t e:TypeId} {es len:Nat} {zs:List AV} {rows:List (List AV)} {parts:Array (Nat×Operand)} {ps:List (Nat×aF)} {ρ:Nat→AV} {a:Act} (hR:eC G k nl ρ a)
  (ht:P.underlying t=some (.slice e)) (hs:cK P e=some es) (hz:cZ P e=some zs) (hp:uD parts.toList=some ps) (hle:len*es≤2^24) (hl:zs.length=es) (h0:0<es)
  (hb:mL (List.replicate len zs) (aE ρ) ps=some rows):
  ∃z w',(Instr.buildSlice t len (parts.map fun(i,x)=>(i,a.eval x))).run P w=.ok z w'∧df P B0 w0 G k nl s s w' (.slice .full es rows) z:=by
 obtain⟨z,h1,h2⟩:=tX hz
 have qR:=at7 (I:=G.I) (n:=len) h2 hl h0
 have hm:(parts.map fun(i,x)=>(i,a.eval x)).toList=parts.toList.map fun p=>(p.1,a.eval p.2):=by simp
 obtain⟨arr',k1,k2,k3⟩:=ZT hR parts.toList ps _ rows _ hp qR hb
 have hlen:rows.length=len:=by rw[k3];simp
 refine⟨_,_,?_,ao5 h e k2 hlen⟩
 have J0:¬(len*es>2^24):=by omega
 by_cases hn:len*es=0
 ·have eN:len=0:=by
   rcases Nat.mul_eq_zero.1 hn with h'|h'
   ·exact h'
   ·omega
  subst eN
  simp only[Nat.zero_mul,Array.range_zero',Array.map_empty]at k1
  have e0 : ((Array.range 0).map fun x : Nat => ((#[] : Array Value)[x % (#[] : Array Value).size]!)) = #[] := by simp
  simp only[Instr.buildSlice,Sem.run_bind,run_underlying ht,Result.andThen_ok,jF hs,aq J0,ak hn,Sem.run_pure,hm]
  simp only[Nat.zero_mul,e0,k1,newRow,run_newObj,Sem.run_bind,Result.andThen_ok,Sem.run_pure]
  rfl
 ·simp only[Instr.buildSlice,Sem.run_bind,run_underlying ht,Result.andThen_ok,jF hs,aq J0,aq hn,xJ h1,Sem.run_pure,hm,k1,newRow,run_newObj]
  rfl
theorem aoT (h:At P B0 w0 G k nl s w) {t e:TypeId} {es fW:Nat} {zs:List AV} {l c v:AV} {lv cv:Value} {s':ae} (ht:P.underlying t=some (.slice e)) (hs:cK P e=some es) (uU:yi P e=some fW)
  (hz:cZ P e=some zs) (hl:zs.length=es) (h0:0<es) (aii:fW≤4096) (hx:Rel G k nl l lv) (hy:Rel G k nl c cv) (hm:BS s es zs l c=some (v,s')):
  ∃z w',(Instr.makeSlice t lv cv).run P w=.ok z w'∧df P B0 w0 G k nl s s' w' v z:=by
 unfold BS at hm
 obtain⟨cn,hc,hm⟩:=da.1 hm
 obtain⟨ln,yX,hm⟩:=aS.1 hm
 obtain⟨kc,zc,rfl,Rt,G9,rfl⟩:=tc hy hc
 obtain⟨kl,zl,rfl,Ru,zl1,rfl⟩:=tc hx yX
 obtain⟨z,h1,h2⟩:=tX hz
 obtain⟨i,hi,rfl⟩:=Gu uU
 have bP:i.size=es:=by
  unfold cK at hs
  rw[hi]at hs
  simpa using hs
 have PI:i.zero=some z:=by
  rw[hi]at h1
  simpa using h1
 have PH:zl≤zc:=by omega
 have oz:zc≤4294967296:=by unfold di at G9;exact G9
 have Oy:(i.bytes:Int)*zc≤281474976710656:=by
  calc(i.bytes:Int)*zc≤4096*zc:=RA (by omega) Rt
   _≤281474976710656:=by omega
 have db:=run_make (P:=P) w t e i z ht hi PI kl kc zl zc Ru PH Oy (by omega)
 rw[bP]at db
 refine⟨_,_,db,?_⟩
 split at hm
 ·rename_i he
  injection hm with lC fD
  subst lC fD
  have hz0:zc.toNat=0:=by
   have hle:=oV zs zc.toNat
   have kz:(List.replicate zc.toNat zs).flatten=[]:=by simpa using he
   rw[kz,iY,hl]at hle
   rcases Nat.mul_eq_zero.1 hle.symm with h'|h'
   ·exact h'
   ·omega
  have PG:zl.toNat=0:=by omega
  rw[hz0,PG]
  exact⟨_,h.to (h.rel.LV _ _ _) (G.CI _ _ h.rel.ud _ _) rfl,G.CI _ _ h.rel.ud _ _,rfl,.cl (.empty (.inr rfl))⟩
 rename_i aB
 injection hm with lC fD
 subst lC fD
 have cm:jr (Rel G k nl) (List.replicate zc.toNat zs).flatten (madeCells z.cells (zc.toNat*es)):=by
  refine⟨by rw[size_madeCells,oV,hl],fun q hq=>?_⟩
  rw[oV]at hq
  have hg:=Jv zs (by omega) zc.toNat q hq
  have F0:q%zs.length<zs.length:=sZ _ (by omega)
  rw[cM F0,cM (by rw[oV];exact hq)]at hg
  injection hg with hg
  rw[hg]
  have:=Lg (I:=G.I) h2 (by omega) q
  have e:(madeCells z.cells (zc.toNat*es)).getD q Go.undef=z.cells[q%z.cells.size]! :=by
   have:q<zc.toNat*es:=by rw[←hl];exact hq
   simp[madeCells,Array.getD,this]
  rw[e]
  exact .cl this
 have r8:∀c,c∈(List.replicate zc.toNat zs).flatten→c.bu=true:=fun c hc=>by
  obtain⟨r,hr,hc⟩:=uj.1 hc
  rw[(Hs.1 hr).2]at hc
  exact(rN (I:=G.I) h2).2.1 c hc
 exact(zu h e none (fun _ e=>by cases e) (fun e=>aB (by rw[e];rfl)) r8 cm.le).2.2 es zl.toNat zc.toNat zc.toNat (by omega) (aH _) (fun e1 e2=>by omega)
theorem aoU (h:At P B0 w0 G k nl s w) {t e:TypeId} {es fW:Nat} {zs:List AV} {l c v:AV} {lv cv:Value} {s':ae} (ht:P.underlying t=some (.slice e)) (hs:cK P e=some es) (uU:yi P e=some fW)
  (hz:cZ P e=some zs) (hl:zs.length=es) (h0:0<es) (aii:fW≤4096) (hx:Rel G k nl l lv) (hy:Rel G k nl c cv) (hm:GC s es zs l c=some (v,s')):
  ∃z w',(Instr.makeSlice t lv cv).run P w=.ok z w'∧df P B0 w0 G k nl s s' w' v z:=by
 unfold GC at hm
 obtain⟨cn,hc,hm⟩:=da.1 hm
 obtain⟨ln,yX,hm⟩:=da.1 hm
 obtain⟨kc,zc,rfl,Rt,G9,rfl⟩:=tc hy hc
 obtain⟨kl,zl,rfl,Ru,zl1,rfl⟩:=tc hx yX
 obtain⟨z,h1,h2⟩:=tX hz
 obtain⟨i,hi,rfl⟩:=Gu uU
 have bP:i.size=es:=by
  unfold cK at hs
  rw[hi]at hs
  simpa using hs
 have PI:i.zero=some z:=by
  rw[hi]at h1
  simpa using h1
 have PH:zl≤zc:=by omega
 have oz:zc≤4294967296:=by unfold di at G9;exact G9
 have Oy:(i.bytes:Int)*zc≤281474976710656:=by
  calc(i.bytes:Int)*zc≤4096*zc:=RA (by omega) Rt
   _≤281474976710656:=by omega
 have db:=run_make (P:=P) w t e i z ht hi PI kl kc zl zc Ru PH Oy (by omega)
 rw[bP]at db
 refine⟨_,_,db,?_⟩
 split at hm
 ·cases hm
 rename_i aB
 injection hm with hm
 injection hm with lC fD
 subst lC fD
 have heq:zl.toNat=zc.toNat:=qm fun q=>aB (.inr q)
 rw[heq]
 have cm:jr (Rel G k nl) (List.replicate zc.toNat zs).flatten (madeCells z.cells (zc.toNat*es)):=by
  refine⟨by rw[size_madeCells,oV,hl],fun q hq=>?_⟩
  rw[oV]at hq
  have hg:=Jv zs (by omega) zc.toNat q hq
  have F0:q%zs.length<zs.length:=sZ _ (by omega)
  rw[cM F0,cM (by rw[oV];exact hq)]at hg
  injection hg with hg
  rw[hg]
  have:=Lg (I:=G.I) h2 (by omega) q
  have e:(madeCells z.cells (zc.toNat*es)).getD q Go.undef=z.cells[q%z.cells.size]! :=by
   have:q<zc.toNat*es:=by rw[←hl];exact hq
   simp[madeCells,Array.getD,this]
  rw[e]
  exact .cl this
 have r8:∀c,c∈(List.replicate zc.toNat zs).flatten→c.bu=true:=fun c hc=>by
  obtain⟨r,hr,hc⟩:=uj.1 hc
  rw[(Hs.1 hr).2]at hc
  exact(rN (I:=G.I) h2).2.1 c hc
 exact(zu h e (some (zc.toNat*es)) (fun n hn=>by injection hn with hn;rw[size_madeCells,hn]) (fun e=>aB (.inl (by rw[e];rfl))) r8 cm.le).2.2 es zc.toNat 0 zc.toNat (aH _) (bh _) (fun _ _=>rfl)
theorem adi {xs:List (List AV)} {l:List UInt8} (hl:bytesOf xs=some l):l.length=xs.length∧∀i (hi:i<xs.length) (hj:i<l.length),xs[i]=[.v (.int .u8 (l[i].toNat:Int))]:=by
 induction xs generalizing l with
 |nil=>simp only[bytesOf]at hl;injection hl with hl;subst hl;simp
 | cons x r ih =>
  simp only[bytesOf]at hl
  split at hl
  ·rename_i b s' hb mU
   injection hl with hl
   subst hl
   obtain⟨i1,i2⟩:=ih mU
   refine⟨by simp[i1],fun i hi hj=>?_⟩
   cases i with
   | zero =>
    simp only[xS]
    unfold byteOf at hb
    split at hb
    ·split at hb
     ·rename_i n hn
      injection hb with hb
      subst hb
      have:((UInt8.ofNat n.toNat).toNat:Int)=n:=by
       rw[UInt8.toNat_ofNat']
       omega
      rw[this]
     ·cases hb
    ·cases hb
   |succ i=>simpa using i2 i (by simpa using hi) (by simpa using hj)
  ·cases hl
theorem aev (h:At P B0 w0 G k nl s w) {src dst:TypeId} {x:Operand} {ax:aF} {op:cj} {kd:Hc} {a v:AV} {y:Value} (hc:Fe P src dst ax=some (.conv kd ax)) (hx:Rel G k nl a y) (hv:mM kd a=some v):
  ∃z w',(convert src dst y).run P w=.ok z w'∧df P B0 w0 G k nl s s w' v z:=by
 unfold Fe at hc
 split at hc
 ·rename_i k1 k2 hs hd
  injection hc with hc
  injection hc with hc
  subst hc
  cases a with
  | v q =>
   obtain rfl:=hx.gu
   cases y with
   |int k3 n=>
    simp only[mM]at hv
    injection hv with hv
    subst hv
    exact⟨_,w,by simp[convert,run_underlying hs,run_underlying hd,Conv.intToInt],.same h (.val _ rfl)⟩
   |_=>simp[mM]at hv
  |_=>simp[mM]at hv
 ·rename_i hs hd
  injection hc with hc
  injection hc with hc
  subst hc
  cases a with
  | v q =>
   obtain rfl:=hx.gu
   cases y with
   |string q=>
    simp only[mM]at hv
    injection hv with hv
    subst hv
    exact⟨_,w,by simp[convert,run_underlying hs,run_underlying hd],.same h (.val _ rfl)⟩
   |_=>simp[mM]at hv
  |_=>simp[mM]at hv
 ·rename_i e hs hd
  split at hc
  ·rename_i he
   injection hc with hc
   injection hc with hc
   subst hc
   cases a with
   | v q =>
    obtain rfl:=hx.gu
    cases y with
    | string q =>
     simp only[mM]at hv
     injection hv with hv
     subst hv
     refine⟨_,_,run_bytes_of_string w src dst e q hs hd he,?_⟩
     have J8:=(h.rel.drew).LV (bytesRow q (grownCap w q.size 0 e)) e ((bytesRow q (grownCap w q.size 0 e)).size,(bytesRow q (grownCap w q.size 0 e)).size+1)
     have hle:=G.CI w.heap.size (bytesRow q (grownCap w q.size 0 e)) h.rel.ud (k+1) s.loops.length
     refine⟨_,h.to J8 (hle.less (by omega) h.sE) rfl,hle,rfl,.cl ?_⟩
     have hlen:(byteCells q).length=q.size:=by simp only[byteCells,bE,Rw];rfl
     have dV:∀i (hi:i<(byteCells q).length),(byteCells q)[i]=[.v (.int .u8 ((q.data[i]'(by rw[hlen]at hi;exact hi)).toNat:Int))]:=fun i hi=>by
      simp[byteCells]
     have:fU ((G.vS w.heap.size (bytesRow q (grownCap w q.size 0 e))).I) 1 (byteCells q) ⟨w.heap.size,0,none⟩ (grownCap w q.size 0 e):=by
      refine fU.mk (fun c=>(.int .u8 ((q.data.getD c 0).toNat:Int))) (by rw[hlen];exact grownCap_ge _ _ _ _) (fun r hr=>?_) (fun r hr c hc=>?_) (fun c hc=>?_) (fun i hi j hj=>?_)
      ·obtain⟨i,hi,rfl⟩:=n6 hr
       rw[dV i hi];rfl
      ·obtain⟨i,hi,rfl⟩:=n6 hr
       rw[dV i hi]at hc
       simp only[dO]at hc
       subst hc
       rfl
      ·rw[hlen,Sb]at hc
       simp only[aG.vS,bZ,fK]
       have pd:c<q.data.size:=hc
       rw[bytesRow_at q _ c pd,Ua pd]
      ·have bD:i<q.data.size:=by rw[hlen]at hi;exact hi
       have hj0:j=0:=by rw[dV i hi]at hj;simpa using hj
       subst hj0
       simp only[dV i hi,xS,Sb,vL]
       rw[Ua bD]
       exact .v rfl
     unfold fU at this
     rw[hlen]at this
     exact this
    |_=>simp[mM]at hv
   |_=>simp[mM]at hv
  ·cases hc
 ·rename_i e hs hd
  split at hc
  ·rename_i he
   injection hc with hc
   injection hc with hc
   subst hc
   cases a with
   | slice o es xs =>
    simp only[mM]at hv
    obtain⟨l,hl,rfl⟩:=aS.1 hv
    rcases hx.iS with⟨_,rfl,rfl⟩|⟨_,p,cap,rfl,qT,fC,mh,_⟩
    ·simp only[bytesOf]at hl
     injection hl with hl
     subst hl
     refine⟨_,w,?_,.same h (.val _ rfl)⟩
     rw[run_convert_bytes_string w src dst e none 0 0 hs he hd]
     simp[Conv.bytesToString]
     rfl
    ·have Bh:l.length=xs.length∧∀i (hi:i<xs.length) (hj:i<l.length),xs[i]=[.v (.int .u8 (l[i].toNat:Int))]:=adi hl
     obtain⟨b1,b2⟩:=Bh
     refine⟨_,w,?_,.same h (.val _ rfl)⟩
     rw[←b1]
     refine run_convert_bytes_back w src dst e p cap l hs he hd (fun j hj=>?_)
     have dM:j<xs.length:=by omega
     cases mh with
     |empty=>exact absurd dM (dk _)
     | @slice _ _ _ blk off _ f ho hc dU bt hI hR =>
      have Bp:xs[j].length=1:=by rw[b2 j dM hj];rfl
      have OL:es=1:=by rw[←dU _ (gA dM),Bp]
      have h1:=hI j dM 0 (by omega)
      have h2:=hR j dM 0 (by omega)
      have e0:xs[j][0]=.v (.int .u8 (l[j].toNat:Int)):=by simp[b2 j dM hj]
      rw[e0]at h2
      cases hf:f j 0 with
      |int k3 n=>
       rw[hf]at h2 h1
       cases h2
       rw[il]
       have:=h.rel.ff _ _ _ h1
       rw[OL]at this
       simpa using this
      |_=>rw[hf]at h2;cases h2
   |v q=>cases q<;>simp[mM]at hv
   |_=>simp[mM]at hv
  ·cases hc
 ·cases hc
theorem aoO {mx:Bool} {a b v:AV} {x y:Value} (hx:Rel G k nl a x) (hy:Rel G k nl b y) (h:BP mx a b=some v):
  ∃z,((if mx then Builtin.max2 else Builtin.min2) x y).run P w=.ok z w∧Rel G k nl v z:=by
 unfold BP at h
 split at h
 ·obtain rfl:=hx.gu
  obtain rfl:=hy.gu
  split at h
  ·injection h with h
   subst h
   refine⟨_,?_,.val _ rfl⟩
   cases mx<;>simp[Builtin.max2,Builtin.min2]
  ·cases h
 ·cases h
theorem Yu {mx:Bool}:∀{as:List AV} {xs:List Value} {a v:AV} {x:Value},Rel G k nl a x→xs.length=as.length→(∀i (hi:i<as.length) (hj:i<xs.length),Rel G k nl as[i] xs[i])→xt mx a as=some v→
  ∃z,(xs.foldlM (if mx then Builtin.max2 else Builtin.min2) x).run P w=.ok z w∧Rel G k nl v z
 |[],[],a,v,x,hx,_,_,h=>by
  simp only[xt]at h
  injection h with h
  subst h
  exact⟨x,by simp,hx⟩
 |[],_::_,_,_,_,_,hl,_,_=>by simp at hl
 |_::_,[],_,_,_,_,hl,_,_=>by simp at hl
 | b :: as, y :: xs, a, v, x, hx, hl, hR, h => by
  simp only[xt]at h
  split at h
  ·rename_i z hz
   obtain⟨z',r1,r2⟩:=aoO (P:=P) (w:=w) hx (hR 0 (by simp) (by simp)) hz
   obtain⟨z'',r3,r4⟩:=Yu r2 (by simpa using hl) (fun i hi hj=>hR (i+1) (by simpa using hi) (by simpa using hj)) h
   refine⟨z'',?_,r4⟩
   have QC:((if mx then Builtin.max2 else Builtin.min2) x y).run P w=.ok z' w:=r1
   simp only[List.foldlM_cons,Sem.run_bind,QC,Result.andThen_ok,r3]
  ·cases h
theorem YA {mx:Bool} {as:List AV} {xs:Array Value} {v:AV} (ts:Array TypeId) (ty:TypeId) (hl:xs.size=as.length) (hR:∀i (hi:i<as.length),Rel G k nl as[i] (xs.getD i Go.undef)) (h:sC mx as=some v):
  ∃z,((if mx then Builtin.max_ else Builtin.min_) ts ty xs).run P w=.ok z w∧Rel G k nl v z:=by
 cases as with
 |nil=>simp[sC]at h
 | cons a as =>
  simp only[sC]at h
  obtain⟨ys⟩:=xs
  cases ys with
  |nil=>simp at hl
  | cons y ys =>
   have h0:=hR 0 (by simp)
   simp only[xS]at h0
   obtain⟨z,r1,r2⟩:=Yu (P:=P) (w:=w) (xs:=ys) (x:=y) (by simpa using h0) (by simpa using hl) (fun i hi hj=>by
    have:=hR (i+1) (by simpa using hi)
    simpa[Array.getD,hj]using this) h
   refine⟨z,?_,r2⟩
   cases mx<;>simpa[Builtin.max_,Builtin.min_]using r1
end
end Go.Ax
/-
  A slice that may be written to becomes one that is only read: its box is dead from here on.
-/
namespace Go.Ax
open Go.RowKit
section
variable{P:Program} {B0:Nat} {w0:World} {G:aG} {k nl:Nat} {w:World} {s:ae}
theorem anL (h:At P B0 w0 G k nl s w) {b:Nat} {cs:List AV} {r:Rec} {gr:cE} {blk:Nat} (hr:s.ag[k]? =some r) (hg:G.ag[k]? =some gr)
  (hb:r.boxes[b]? =some cs) (cu:gr.bl[b]? =some (some blk)) (dz:cs≠[]):
  ∃G',At P B0 w0 G' k nl (s.kill b) w∧bB (k+1) s.loops.length G G'∧∀i,G'.I blk i=w.cell? ⟨blk,i,none⟩:=by
 have aJ:=h.rel.cI k r gr hr hg
 have dp:=aJ.box b cs blk hb cu
 obtain⟨b1,⟨x0,b2,L4⟩,b3,HP,K8,b4,_⟩:=dp
 have oD:=L4 dz
 subst oD
 have b3:=b3 dz
 have JI:x0<r.boxes.length:=(aY.1 hb).1
 let T:ld:=⟨none,0,0,0⟩
 let gf:cE→cE:=fun q=>{q with tk:=q.tk++[T]}
 let G':aG:={G with ag:=G.ag.modify k gf,I:=fun c i=>if c=blk then w.cell? ⟨c,i,none⟩else G.I c i}
 have hI:∀c i v,G.I c i=some v→G'.I c i=some v:=fun c i v e=>by
  simp only[G']
  split
  ·rename_i hc
   subst hc
   rw[b3]at e;cases e
  ·exact e
 have hk:jI (· =.box k x0) G w G' w:=fun c o e aB=>by
  refine⟨e,rfl,fun i hi=>?_⟩
  simp only[G']
  split
  ·rename_i hc
   subst hc
   rw[b2]at e
   injection e with e
   exact absurd e.symm aB
  ·exact hi
 have fc:iZ gr (gf gr):=⟨fun j q e=>e,fun g U e=>⟨U,mO e,.refl U⟩,rfl,fun j m e=>e⟩
 have hle:bB k nl G G':=⟨hI,fun d q _ e=>by
  simp only[G',dQ]
  by_cases hd:k=d
  ·subst hd
   rw[hg]at e
   injection e with e
   subst e
   exact⟨_,by rw[ak rfl,hg];rfl,fc,fun _=>rfl⟩
  ·exact⟨q,by rw[aq hd];exact e,.refl q,fun _=>rfl⟩,fun _ _ _ e=>e⟩
 have lE:gr.nl=nl:=by obtain⟨g',e1,e2⟩:=h.cur;rw[hg]at e1;injection e1 with e1;rw[e1];exact e2
 have fm:=h.rel.br (G':=G') (w':=w) hr hg (fun r=>{r with boxes:=r.boxes.set x0 [],toks:=r.toks++[none]}) gf (· =.box k x0) rfl rfl hI fc rfl hk
  (fun o ho=>.inl ⟨_,ho⟩) ?_ (fun c i v e=>?_) (Below.refl _ _) (fun c o e=>h.rel.eO c o e)
 ·obtain⟨hs,jQ⟩:=fm
  have mU:cz P B0 w0 G' (s.kill x0) w:=by
   simp only[ae.kill,h.gS]
   exact hs
  exact⟨G',h.to mU hle (by simp[ae.kill,ae.br]),jQ _ _,fun i=>by simp only[G'];rw[ak trivial]⟩
 ·refine⟨by simp[gf,aJ.ek],by simp[gf,aJ.iV],fun j q Am e1 e2=>?_,fun j q e1 e2=>by simp,fun g m U e1 e2=>?_,fun i c e1=>?_,fun j m e1=>aJ.mP j m e1⟩
  ·have jd:gr.bl[j]? =some (some Am):=e2
   rw[sW]at e1
   by_cases u1:x0=j
   ·subst u1
    rw[ak rfl,ak JI]at e1
    injection e1 with e1
    subst e1
    rw[cu]at jd
    injection jd with jd
    injection jd with jd
    subst jd
    exact⟨b1,⟨x0,b2,fun _=>rfl⟩,fun hn=>absurd rfl hn,HP,K8,b4,bh _,fun hn=>absurd rfl hn,fun i hi=>absurd hi (dk _)⟩
   ·rw[aq u1]at e1
    have Bn:=aJ.box j q Am e1 jd
    by_cases Gb:q=[]
    ·subst Gb
     obtain⟨y1,⟨x,y2,_⟩,_,CM,K9,y4,_⟩:=Bn
     exact⟨y1,⟨x,y2,fun hn=>absurd rfl hn⟩,fun hn=>absurd rfl hn,CM,K9,y4,bh _,fun hn=>absurd rfl hn,fun i hi=>absurd hi (dk _)⟩
    ·obtain⟨x,y1,y2⟩:=Bn.2.1
     obtain⟨k1,k2,k3⟩:=hk _ _ y1 (fun e=>by injection e with _ e;rw[y2 Gb]at e;exact u1 e.symm)
     exact Bn.cJ (G':=G') (w':=w) (by rw[lE];exact hle) (fun z e=>by rw[y1]at e;injection e with e;rw[←e];exact k1) k2 k3
  ·rcases ev e1 with⟨aC,e1⟩|⟨nI,rfl⟩
   ·have jd:gr.tk[g]? =some U:=by
     rcases ev e2 with⟨_,e2⟩|⟨fO,_⟩
     ·exact e2
     ·rw[aJ.iV]at fO;omega
    have ht:=aJ.tok g m U e1 jd
    have hs:∀(hn:m.isSome=true),G'.own U.blk=some (.tok k g)∧w.heap[U.blk]? =w.heap[U.blk]? ∧∀i,G.I U.blk i=none→G'.I U.blk i=none:=fun hn=>by
     obtain⟨q,hq⟩:=oO.1 hn
     exact hk _ _ (ht.2 q hq).2.1 (fun e=>by cases e)
    exact ht.cJ (fun hn=>(hs hn).1) (fun hn=>(hs hn).2.1) (fun hn=>(hs hn).2.2)
   ·have:U=T:=by
     rcases ev e2 with⟨fO,_⟩|⟨_,e⟩
     ·rw[aJ.iV]at fO;omega
     ·exact e
    subst this
    exact⟨rfl,fun q hq=>by cases hq⟩
  ·have hm:=aJ.mark i c e1
   obtain⟨k1,k2,_⟩:=hk _ _ hm.2.1 (fun e=>by cases e)
   exact hm.cJ k1 k2
 ·simp only[G']at e
  split at e
  ·exact e
  ·exact h.rel.ff c i v e
theorem agq (h:At P B0 w0 G k nl s w) {x v:AV} {z:Value} {s':ae} (hx:Rel G k nl x z) (hf:AY s x=some (v,s')):df P B0 w0 G k nl s s' w v z:=by
 cases x with
 |slice o es xs=>
  simp only[AY]at hf
  injection hf with hf
  injection hf with e1 e2
  subst e1 e2
  exact⟨G,h,bB.refl _ _ _,rfl,hx⟩
 | aN d b off es n cap =>
  simp only[AY]at hf
  split at hf
  case isFalse=>cases hf
  rename_i hd
  rw[h.gS]at hd
  subst hd
  obtain⟨cs,hb,hf⟩:=da.1 hf
  split at hf
  ·cases hf
  rename_i qH
  split at hf
  case isFalse=>cases hf
  rename_i hle
  obtain⟨cs',hc,hf⟩:=aS.1 hf
  injection hf with e1 e2
  subst e1 e2
  have dz:cs≠[]:=fun e=>by rw[e]at qH;exact qH rfl
  obtain⟨blk,bI,rc,o0,rfl,_,hg,cu,hn,_,_,ho⟩:=hx.mj
  obtain⟨r,hr,qP,_,arr,ty,hw,cm,aP⟩:=h.box (aH _) hb hg cu
  obtain⟨c1,c2,c3⟩:=Fc hc cm.1 aP cm.2
  obtain⟨G',a1,a2,a3⟩:=anL h hr hg qP cu dz
  refine⟨G',a1,a2,by simp[ae.kill,ae.br],.cl ?_⟩
  rcases vM n with fE|fE
  ·subst fE
   exact .slice (fun _ _=>Go.undef) (.inl rfl) (bh _) (fun r hr=>absurd hr (by simp[chunks])) (fun r hr=>absurd hr (by simp[chunks])) (fun i hi=>absurd hi (dk _)) (fun i hi=>absurd hi (dk _))
  have ho:=ho (.inl fE)
  subst ho
  have:=QO (I:=G'.I) (cs:=cs') (es:=es) (n:=n) (cap:=rc) (blk:=blk) (o0:=0) (off:=o0) (f:=fun i=>arr.getD i Go.undef) c2 (fun i hi=>by
   have:i<arr.size:=by have:=cm.1;omega
   rw[fK,a3,cell_of_heap hw]
   simp[Array.getD,this]) (fun i hi=>(c3 i hi).mono a2.I) (by rw[c1];exact hle) hn
  unfold fU at this
  rw[(Fb es n (cs'.drop o0) (by simp[c1];omega)).1,fK]at this
  exact this
 |_=>cases hf
theorem ac7 (h:At P B0 w0 G k nl s w) {t e:TypeId} {es:Nat} {zs:List AV} {q:Nat} {ρ:Nat→AV} {a:Act} {v:AV} {s':ae} (hR:eC G k nl ρ a)
  (ht:P.underlying t=some (.slice e)) (hs:cK P e=some es) (hz:cZ P e=some zs) (hle:1*es≤2^24) (hl:zs.length=es) (h0:0<es)
  (hb:yh s es zs (ρ q)=some (v,s')):
  ∃ z w', (Instr.buildSlice t 1 ((#[(0, Operand.tmp q)] : Array (Nat × Operand)).map fun (i, x) => (i, a.eval x))).run P w = .ok z w' ∧ df P B0 w0 G k nl s s' w' v z := by
 unfold yh at hb
 obtain⟨⟨x,s1⟩,h1,hb⟩:=da.1 hb
 obtain⟨rs,h2,hb⟩:=aS.1 hb
 injection hb with e1 e2
 subst e1 e2
 obtain⟨G1,a1,a2,a3,a4⟩:=agq h (hR q) h1
 have On:eC G1 k nl (put q x ρ) a:=fun u=>by
  unfold put
  split
  ·rename_i hu
   subst hu
   exact a4
  ·exact(hR u).mono (a2.less (by omega) h.sE) (aH _) (aH _)
 have Pe:aE (put q x ρ) (.tmp q)=x:=by simp[aE,put]
 obtain ⟨z, w', r1, G2, b1, b2, b3, b4⟩ := T8 (len := 1) (parts := #[(0, .tmp q)]) (rows := rs) a1 On ht hs hz rfl hle hl h0 (by
  rw[←h2]
  simp only[List.replicate_one,mL,Pe])
 exact⟨z,w',r1,G2,b1,a2.trans (by rw[←a3];exact b2),b3.trans a3,b4⟩
theorem UA {t e ty : TypeId} (ht : P.underlying t = some (.slice e)) (b : Option Addr) (c : Nat) : (Builtin.clear_ #[t] ty #[.slice b 0 c]).run P w = .ok (.tuple #[]) w := by
 cases b<;>simp[Builtin.clear_,run_underlying ht]
theorem ad9 {t e ty:TypeId} {z:Value} {b off n c:Nat} {arr:Array Value} {tb:TypeId} (ht:P.underlying t=some (.slice e)) (hz:(P.info? e).bind (·.zero)=some z) (hn:0<n) (hw:w.heap[b]? =some (.cells arr tb))
  (hle:off+(Builtin.zeroCells z.cells n).size≤arr.size) (h1:∀u,u∈(Builtin.zeroCells z.cells n).toList→u.oneCell'=true):
  (Builtin.clear_ #[t] ty #[.slice (some ⟨b, off, none⟩) n c]).run P w = .ok (.tuple #[]) (w.setCells b off (Builtin.zeroCells z.cells n).toList) := by
 have bX:=run_storeCells_cells (P:=P) b off (Builtin.zeroCells z.cells n).toList 0 w (fun j hj=>by
   have dM:j<(Builtin.zeroCells z.cells n).size:=by simpa using hj
   rw[cell_of_heap hw]
   simp;omega) (fun j _=>frozen_of_heap hw) h1
 rw[vL]at bX
 cases n with
 |zero=>omega
 |succ n=>simp[Builtin.clear_,run_underlying ht,xJ hz,bX]
theorem aea (h:At P B0 w0 G k nl s w) {t e ty:TypeId} {zs:List AV} (ht:P.underlying t=some (.slice e)) (hz:cZ P e=some zs) (h0:0<zs.length) {a v:AV} {x:Value} {s':ae}
  (hx : Rel G k nl a x) (hc : wz s zs a = some (v, s')) : ∃ y w', (Builtin.clear_ #[t] ty #[x]).run P w = .ok y w' ∧ df P B0 w0 G k nl s s' w' v y := by
 obtain⟨z,h1,h2⟩:=tX hz
 have Px : ∀ G' : aG, Rel G' k nl (.tuple []) (.tuple #[]) := fun G' => .tuple rfl (fun i hi => absurd hi (dk _))
 unfold wz at hc
 split at hc
 ·rename_i o es xs
  split at hc
  case isFalse=>cases hc
  rename_i qH
  injection hc with hc
  injection hc with e1 e2
  subst e1 e2
  have Gk:xs=[]:=by simpa using qH
  subst Gk
  obtain⟨b,c,rfl⟩:∃b c,x=.slice b 0 c:=by
   rcases hx.iS with⟨_,_,rfl⟩|⟨_,aa,c,rfl,_⟩
   ·exact⟨_,_,rfl⟩
   ·exact⟨_,_,rfl⟩
  exact⟨_,w,UA ht b c,G,h,bB.refl _ _ _,rfl,Px G⟩
 ·rename_i d b off es n cap
  obtain⟨blk,gr,rc,o0,rfl,hd,hg,cu,F4,_,hw,ho⟩:=hx.mj
  split at hc
  ·rename_i hn
   injection hc with hc
   injection hc with e1 e2
   subst e1 e2 hn
   exact⟨_,w,UA ht _ rc,G,h,bB.refl _ _ _,rfl,Px G⟩
  ·rename_i hn
   split at hc
   case isFalse=>cases hc
   rename_i dU
   subst dU
   obtain⟨m,hm,hc⟩:=aS.1 hc
   injection hc with e1 e2
   subst e1 e2
   have ho:=ho (.inl (by omega))
   subst ho
   obtain⟨c1,c2,c3⟩:=rN (I:=G.I) h2
   have akn:(Builtin.zeroCells z.cells n).size=n*zs.length:=by simp[Builtin.zeroCells,c1]
   have cm:Rel G k nl (.agg (List.replicate n zs).flatten) (.agg (Builtin.zeroCells z.cells n)):=by
    refine .agg (by rw[akn,oV]) (fun c hc=>?_) (fun q hq=>?_)
    ·obtain⟨r,hr,hc⟩:=uj.1 hc
     rw[(Hs.1 hr).2]at hc
     exact c2 c hc
    ·rw[oV]at hq
     have hg:=Jv zs (by omega) n q hq
     have F0:q%zs.length<zs.length:=sZ _ (by omega)
     rw[cM F0,cM (by rw[oV];exact hq)]at hg
     injection hg with hg
     rw[hg]
     have:=Lg (I:=G.I) h2 (by omega) q
     have e:(Builtin.zeroCells z.cells n).getD q Go.undef=z.cells[q%z.cells.size]! :=by
      have:q<n*z.cells.size:=by rw[c1];exact hq
      simp[Builtin.zeroCells,Array.getD,this]
     rw[e]
     exact .cl this
   obtain⟨fV,Qk,arr,tb,e1,q2,q3,q4,q5,q6⟩:=Rh h (.ptr gr hd hg cu) cm hm
   injection e1 with e1
   injection e1 with e1
   injection e1 with e1 e2
   subst e1 e2
   have dz:(Value.agg (Builtin.zeroCells z.cells n)).cells=Builtin.zeroCells z.cells n:=rfl
   rw[dz]at q3 q5 q6
   obtain⟨G',a1,a2,a3,_⟩:=q6
   exact⟨_,_,ad9 ht h1 (by omega) q2 (by rw[q3];exact q4) q5,G',a1,a2,a3,Px G'⟩
 ·cases hc
theorem arZ (h:At P B0 w0 G k nl s w) {t e:TypeId} {es:Nat} {zs:List AV} {i:Nat} {x:Operand} {ax:aF} {ρ:Nat→AV} {a:Act} {v:AV} {s':ae} (hR:eC G k nl ρ a)
  (ht:P.underlying t=some (.slice e)) (hs:cK P e=some es) (hz:cZ P e=some zs) (hle:1*es≤2^24) (hl:zs.length=es) (h0:0<es) (hx:dw x=some ax) (hi:i=0)
  (hb:ri s es (aE ρ ax)=some (v,s')):
  ∃ y w', (Instr.buildSlice t 1 ((#[(i, x)] : Array (Nat × Operand)).map fun (i, x) => (i, a.eval x))).run P w = .ok y w' ∧ df P B0 w0 G k nl s s' w' v y := by
 subst hi
 unfold ri at hb
 split at hb
 case isFalse=>cases hb
 rename_i bn
 obtain⟨hlen,dT,_⟩:=bn
 injection hb with hb
 injection hb with e1 e2
 subst e1 e2
 obtain⟨z,h1,h2⟩:=tX hz
 have hxv:=dc hx hR
 obtain⟨bP,r8⟩:=hxv.cells dT
 have xg:(a.eval x).cells.size=es:=bP.trans hlen
 have J0:¬(1*es>2^24):=by omega
 have hn:¬(1*es=0):=by omega
 have db : (Instr.buildSlice t 1 ((#[(0, x)] : Array (Nat × Operand)).map fun (i, x) => (i, a.eval x))).run P w = .ok (.slice (some ⟨w.heap.size, 0, none⟩) 1 1) (w.alloc (.cells (a.eval x).cells e)) := by
  have aiE:Instr.fill (fun i=>some (i*es,es)) ((Array.range (1*es)).map (z.cells[· %z.cells.size]!)) [(0,a.eval x)]=some (a.eval x).cells:=by
   simp only[Instr.fill]
   rw[aq (by simp[xg]),N2]
   congr 1
   refine Array.ext (by rw[xC];simp[xg]) fun i h1 h2=>?_
   have hg:=K0 (a.eval x).cells.toList ((Array.range (1*es)).map (z.cells[· %z.cells.size]!)) (0*es) i (by simp[xg])
   rw[ak (by simp;exact h2)]at hg
   have key:∀q:Array Value,∀h1:i<q.size,q.getD i Go.undef=q[i]:=fun q h1=>by simp[Array.getD,h1]
   rw[←key _ h1,hg]
   simp[h2]
  have hm : ((#[(0, x)] : Array (Nat × Operand)).map fun (i, x) => (i, a.eval x)).toList = [(0, a.eval x)] := by simp
  simp only[Instr.buildSlice,Sem.run_bind,run_underlying ht,Result.andThen_ok,jF hs,aq J0,aq hn,xJ h1,Sem.run_pure,hm,aiE,newRow,run_newObj]
  rfl
 refine⟨_,_,db,?_⟩
 exact(zu h e none (fun _ e=>by cases e) (fun e=>by rw[e]at hlen;simp at hlen;omega) (jJ.1 dT) (jr.le ⟨bP,r8⟩)).2.2 es 1 1 1 (aH _) (aH _) (fun e=>by cases e)
end
end Go.Ax
/-
  Every operation but a call: what the executor gives is what the model does.
-/
namespace Go.Ax
open Go.RowKit
def jB:cj→Bool
 |.call .. |.ko .. |.rM .. |.td .. |.qt .. |.wv .. |.wx .. |.rQ .. =>true
 |_=>false
section
variable{P:Program} {B0:Nat} {w0:World} {G:aG} {k nl:Nat} {w:World} {s:ae}
def s6 (P:Program) (B0:Nat) (w0:World) (G:aG) (k nl:Nat) (s s':ae) (w:World) (v:AV) (m:Sem Next):Prop:=
 ∃w',(∃z,m.run P w=.ok (.value z) w'∧df P B0 w0 G k nl s s' w' v z)∨(m.run P w=.ok .skip w'∧df P B0 w0 G k nl s s' w' v Go.undef)
theorem s6.val {s':ae} {v:AV} {q:Sem Value} (h:∃z w',q.run P w=.ok z w'∧df P B0 w0 G k nl s s' w' v z):s6 P B0 w0 G k nl s s' w v (do pure (.value (←q))):=by
 obtain⟨z,w',h1,h2⟩:=h
 exact⟨w',.inl ⟨z,by simp[h1],h2⟩⟩
theorem s6.tO (h:At P B0 w0 G k nl s w) {v:AV} {q:Sem Value} (hq:∃z,q.run P w=.ok z w∧Rel G k nl v z):s6 P B0 w0 G k nl s s w v (do pure (.value (←q))):=by
 obtain⟨z,h1,h2⟩:=hq
 exact .val ⟨z,w,h1,.same h h2⟩
theorem kU {α β:Type} {o:Option α} {x:β} {p:α×β} (h:o.map (·,x)=some p):o=some p.1∧p.2=x:=by
 cases o with
 |none=>cases h
 |some y=>injection h with h;subst h;exact⟨rfl,rfl⟩
theorem UH {op:BinOp} {t:TypeId} {x y:Operand} {o:cj} (h:ND P op t x y=some o):
  ∃a b,dw x=some a∧dw y=some b∧(o=.arith op a b∨∃neg BU kd c d,Fi op=some neg∧Ff P op neg t x y a b=some (.eqv BU kd c d)∧o=.eqv BU kd c d):=by
 unfold ND at h
 split at h
 ·rename_i a b ha hb
  refine⟨a,b,ha,hb,?_⟩
  split at h
  ·rename_i neg hn
   have h0:=h
   unfold Ff at h
   split at h<;>first
    |(cases h;done)
    |(injection h with h;subst h;first|exact .inl rfl|exact .inr ⟨_,_,_,_,_,hn,h0,rfl⟩)
    |skip
   ·split at h
    ·obtain⟨ks,_,rfl⟩:=aS.1 h
     exact .inr ⟨_,_,_,_,_,hn,h0,rfl⟩
    ·cases h
   ·split at h
    ·injection h with h;subst h;exact .inr ⟨_,_,_,_,_,hn,h0,rfl⟩
    ·cases h
  ·injection h with h
   exact .inl h.symm
 ·cases h
theorem vq {x:Option Operand} {ax:Option aF} {ρ:Nat→AV} {a:Act} (hc:AJ x=some ax) (hR:eC G k nl ρ a):j4 G k nl (qw (aE ρ) ax) (x.map a.eval):=by
 cases x with
 |none=>
  simp only[AJ]at hc
  injection hc with hc
  subst hc
  trivial
 |some x=>
  simp only[AJ]at hc
  obtain⟨y,hy,rfl⟩:=aS.1 hc
  exact dc hy hR
theorem SK {xs:List Operand} {as:List aF} {ρ:Nat→AV} {a:Act} (hc:fH dw xs=some as) (hR:eC G k nl ρ a):
  (xs.toArray.map a.eval).size=(as.map (aE ρ)).length∧∀i (hi:i<(as.map (aE ρ)).length),Rel G k nl (as.map (aE ρ))[i] ((xs.toArray.map a.eval).getD i Go.undef):=by
 obtain⟨l1,h1⟩:=vm hc
 refine⟨by simp[l1],fun i hi=>?_⟩
 have bD:i<as.length:=by simpa using hi
 have hx:i<xs.length:=by omega
 have:=dc (h1 i hx bD) hR
 simpa[Array.getD,hx]using this
theorem adv (h : At P B0 w0 G k nl s w) {ρ : Nat → AV} {a : Act} (hR : eC G k nl ρ a) {ro own : Bool} {mu : Mu} {fr : Option (List (List AV))} {call : aW} {jL : cj} {v : AV} {s' : ae} {c : Call} {ty : TypeId} (hc : AH P ro own mu fr c = some jL) (hn : jB jL = false) (hv : aM call (aE ρ) s jL = some (v, s')) :
  s6 P B0 w0 G k nl s s' w v (do let d←resolve a.eval c ty;invoke d.target d.args):=by
 unfold AH at hc
 split at hc
 ·cases hc
 rename_i as has
 have pZ:=SK has hR
 split at hc
 ·injection hc with hc;subst hc;repeat' split at hn
  all_goals simp[jB]at hn
 ·obtain⟨y,_,rfl⟩:=aS.1 hc
  simp[jB]at hn
 ·cases hc
 ·rename_i b hb
  have jR:∀(m:Sem Next),(do let d←resolve a.eval c ty;invoke d.target d.args:Sem Next).run P w=m.run P w→s6 P B0 w0 G k nl s s' w v m→s6 P B0 w0 G k nl s s' w v (do let d←resolve a.eval c ty;invoke d.target d.args):=fun m e ho=>by
   unfold s6 at ho⊢
   rw[e]
   exact ho
  obtain⟨cons,db⟩:∃cons:Array Bool,(do let d←resolve a.eval c ty;invoke d.target d.args:Sem Next).run P w=(builtin b c.argTypes ty cons (c.args.map a.eval)).run P w:=by
   have hr:resolve a.eval c ty=pure {target:=.builtin b c.argTypes ty (c.args.map fun|.const _=>true|_=>false),args:=c.args.map a.eval}:=by
    simp only[resolve,hb]
    rfl
   exact⟨c.args.map fun|.const _=>true|_=>false,by rw[hr];rfl⟩
  refine jR _ db ?_
  clear jR db
  split at hc
  · -- append
   rename_i x y t u e1
   have jf : c.argTypes = #[t, u] := by
    have:=iy List.toArray e1
    simpa using this
   split at hc
   ·rename_i e e' ht hu
    split at hc
    ·rename_i sz n z hs jj hz
     split at hc
     ·rename_i bn
      injection hc with hc
      subst hc
      obtain⟨c1,c2,c3,c4⟩:=bn
      obtain⟨zv,z1,z2⟩:=tX hz
      have hzl:=(rN (I:=G.I) z2).1
      obtain⟨l1,h1⟩:=vm has
      have ox:c.args.toList.length=2:=by simpa using l1.symm
      obtain⟨xx,yy,eH⟩:∃xx yy,c.args.toList=[xx,yy]:=by
       match hh:c.args.toList,ox with
       |[xx,yy],_=>exact⟨xx,yy,rfl⟩
      have uV : c.args = #[xx, yy] := by
       have:=iy List.toArray eH
       simpa using this
      have hx:=dc (by simpa[eH]using h1 0 (by omega) (by simp)) hR
      have hy:=dc (by simpa[eH]using h1 1 (by omega) (by simp)) hR
      have hT:ua P t e sz n zv:=⟨ht,hs,jj,z1,by rw[hzl];exact c4,c1,c2,c3⟩
      obtain ⟨x', w', r1, r2⟩ : ∃ x' w', (Builtin.append_ #[t, u] ty #[a.eval xx, a.eval yy]).run P w = .ok x' w' ∧ df P B0 w0 G k nl s s' w' v x' := by
       cases WS:(if mu.rows then mu.home else none:Option aF)with
       |some hh=>rw[WS]at hv;exact ab4 h (ty:=ty) hT ⟨e',hu⟩ hx hy hv
       |none=>
       rw[WS]at hv
       cases JR:mu.grow with
       |false=>rw[JR]at hv;exact abZ h (ty:=ty) hT ⟨e',hu⟩ hx hy hv
       | true =>
        rw[JR]at hv
        cases p9:mu.fresh&&decide (n≤8*sz)with
        |false=>rw[p9]at hv;exact SD h (ty:=ty) hT ⟨e',hu⟩ hx hy hv
        |true=>
         rw[p9]at hv
         have uU:n≤8*sz:=Qi (Bool.and_eq_true_iff.1 p9).2
         exact ab0 h (ty:=ty) hT uU ⟨e',hu⟩ hx hy hv
      refine .val ⟨x',w',?_,r2⟩
      rw[jf,uV]
      simpa using r1
     ·cases hc
    ·cases hc
   ·cases hc
  · -- len
   rename_i x t e1
   have jf : c.argTypes = #[t] := by
    have:=iy List.toArray e1
    simpa using this
   obtain⟨l1,h1⟩:=vm has
   have Bp:c.args.toList.length=1:=by simpa using l1.symm
   obtain⟨xx,zi⟩:∃xx,c.args.toList=[xx]:=by
    match hh:c.args.toList,Bp with
    |[xx],_=>exact⟨xx,rfl⟩
   have uV : c.args = #[xx] := by
    have:=iy List.toArray zi
    simpa using this
   have hx:=dc (by simpa[zi]using h1 0 (by omega) (by simp)) hR
   split at hc
   ·rename_i e ht
    injection hc with hc
    subst hc
    obtain⟨q1,q2⟩:=kU hv
    simp only at q2
    subst q2
    have:=Yk (P:=P) (w:=w) (ty:=ty) (.inl ⟨rfl,e,ht⟩) hx q1
    rw[jf,uV]
    exact .tO h (by simpa using this)
   ·rename_i ht
    injection hc with hc
    subst hc
    obtain⟨q1,q2⟩:=kU hv
    simp only at q2
    subst q2
    have:=Yk (P:=P) (w:=w) (ty:=ty) (.inr ⟨rfl,ht⟩) hx q1
    rw[jf,uV]
    exact .tO h (by simpa using this)
   ·rename_i n e ht
    injection hc with hc
    subst hc
    simp only[aM,fL,Cx]at hv
    obtain⟨rfl,rfl⟩:=hv
    rw[jf,uV]
    refine .tO h ⟨.int .i64 n,?_,.val _ rfl⟩
    simp[Builtin.len_,run_underlying ht,goInt]
   ·cases hc
  · -- copy
   rename_i x y t u e1
   have jf : c.argTypes = #[t, u] := by
    have:=iy List.toArray e1
    simpa using this
   split at hc
   ·rename_i e ht
    split at hc
    ·rename_i hs
     injection hc with hc
     subst hc
     obtain⟨l1,h1⟩:=vm has
     have ox:c.args.toList.length=2:=by simpa using l1.symm
     obtain⟨xx,yy,eH⟩:∃xx yy,c.args.toList=[xx,yy]:=by
      match hh:c.args.toList,ox with
      |[xx,yy],_=>exact⟨xx,yy,rfl⟩
     have uV : c.args = #[xx, yy] := by
      have:=iy List.toArray eH
      simpa using this
     have hx:=dc (by simpa[eH]using h1 0 (by omega) (by simp)) hR
     have hy:=dc (by simpa[eH]using h1 1 (by omega) (by simp)) hR
     obtain⟨x',w',r1,r2⟩:=aex h (ty:=ty) (u:=u) ht hs hx hy hv
     refine .val ⟨x',w',?_,r2⟩
     rw[jf,uV]
     simpa using r1
    ·cases hc
   ·cases hc
  · -- clear
   rename_i x t e1
   have jf : c.argTypes = #[t] := by
    have:=iy List.toArray e1
    simpa using this
   split at hc
   ·rename_i e ht
    split at hc
    ·rename_i sz zs hs hz
     split at hc
     ·rename_i bn
      injection hc with hc
      subst hc
      obtain⟨l1,h1⟩:=vm has
      have Bp:c.args.toList.length=1:=by simpa using l1.symm
      obtain⟨xx,zi⟩:∃xx,c.args.toList=[xx]:=by
       match hh:c.args.toList,Bp with
       |[xx],_=>exact⟨xx,rfl⟩
      have uV : c.args = #[xx] := by
       have:=iy List.toArray zi
       simpa using this
      have hx:=dc (by simpa[zi]using h1 0 (by omega) (by simp)) hR
      obtain⟨x',w',r1,r2⟩:=aea h (ty:=ty) ht hz (by rw[bn.2];exact bn.1) hx hv
      refine .val ⟨x',w',?_,r2⟩
      rw[jf,uV]
      simpa using r1
     ·cases hc
    ·cases hc
   ·cases hc
  · -- max
   injection hc with hc
   subst hc
   obtain⟨q1,q2⟩:=kU hv
   simp only at q2
   subst q2
   obtain⟨z,r1,r2⟩:=YA (P:=P) (w:=w) (mx:=true) c.argTypes ty pZ.1 pZ.2 q1
   exact .tO h ⟨z,by simpa using r1,r2⟩
  ·injection hc with hc
   subst hc
   obtain⟨q1,q2⟩:=kU hv
   simp only at q2
   subst q2
   obtain⟨z,r1,r2⟩:=YA (P:=P) (w:=w) (mx:=false) c.argTypes ty pZ.1 pZ.2 q1
   exact .tO h ⟨z,by simpa using r1,r2⟩
  ·cases hc
theorem aqh (h : At P B0 w0 G k nl s w) {ρ : Nat → AV} {a : Act} (hR : eC G k nl ρ a) {md : Md} {call : aW} {jL : cj} {v : AV} {s' : ae} {o : Oper} (hc : gR P md o.op = some jL) (hn : jB jL = false) (hv : aM call (aE ρ) s jL = some (v, s')) :
  s6 P B0 w0 G k nl s s' w v (execOp a.eval o):=by
 obtain⟨dst,op,ty,pos,after,guard⟩:=o
 simp only at hc
 have nR:∀{r:Option AV} {q:Sem Value},r.map (·,s)=some (v,s')→(r=some v→∃z,q.run P w=.ok z w∧Rel G k nl v z)→s6 P B0 w0 G k nl s s' w v (do pure (.value (←q))):=fun e f=>by
  obtain⟨q1,q2⟩:=kU e
  simp only at q1 q2
  subst q2
  exact .tO h (f q1)
 cases op with
 |move x=>
  obtain⟨y,hy,rfl⟩:=aS.1 hc
  simp only[aM,fL,Cx]at hv
  obtain⟨rfl,rfl⟩:=hv
  exact⟨w,.inl ⟨a.eval x,rfl,.same h (dc hy hR)⟩⟩
 |assign x=>
  obtain⟨y,hy,rfl⟩:=aS.1 hc
  simp only[aM,fL,Cx]at hv
  obtain⟨rfl,rfl⟩:=hv
  exact⟨w,.inl ⟨a.eval x,rfl,.same h (dc hy hR)⟩⟩
 | pick x y z =>
  simp only[gR]at hc
  split at hc
  ·rename_i ax ay az e1 e2 e3
   injection hc with hc
   subst hc
   obtain⟨q1,q2⟩:=kU hv
   simp only at q1 q2
   subst q2
   obtain⟨u,r1,r2⟩:=aqG (dc e1 hR) (dc e2 hR) (dc e3 hR) q1
   refine⟨w,.inl ⟨_,?_,.same h r2⟩⟩
   simp[execOp,r1,asBool]
  ·cases hc
 | alloc e =>
  simp only[gR]at hc
  split at hc
  ·obtain⟨zs,hz,rfl⟩:=aS.1 hc
   simp only[aM]at hv
   split at hv
   ·cases hv
   rename_i aB
   simp only[fL]at hv
   obtain⟨z,z1,z2⟩:=tX hz
   obtain⟨c1,c2,c3⟩:=rN (I:=G.I) z2
   have:=(zu h (arr:=z.cells) e none (fun _ e=>by cases e) (fun e=>aB (by rw[e];rfl)) c2 (jr.le ⟨c1,fun i hi=>.cl (c3 i hi)⟩)).1
   rw[hv]at this
   refine .val ⟨_,_,?_,this⟩
   simp only[Instr.alloc,Sem.run_bind,xJ z1,Result.andThen_ok]
   simp[newVar,newRow]
  ·obtain⟨zs,hz,rfl⟩:=aS.1 hc
   simp only[aM]at hv
   obtain⟨z,z1,z2⟩:=tX hz
   obtain⟨c1,c2,c3⟩:=rN (I:=G.I) z2
   refine .val ⟨_,_,?_,as0 h e c2 ⟨c1,fun i hi=>.cl (c3 i hi)⟩ hv⟩
   simp only[Instr.alloc,Sem.run_bind,xJ z1,Result.andThen_ok]
   simp[newVar,newRow]
 | box e x =>
  simp only[gR]at hc
  split at hc
  ·rename_i n y e1 e2
   injection hc with hc
   subst hc
   simp only[aM,yf]at hv
   split at hv
   ·rename_i bn
    injection hv with hv
    have hx:=dc e2 hR
    have cm:=hx.cells bn.2.1
    have:=(zu h (arr:=(a.eval x).cells) e none (fun _ e=>by cases e) (fun e=>by have h1:=bn.1;have h2:=bn.2.2;rw[e]at h1;simp at h1;omega) (jJ.1 bn.2.1) cm.le).1
    rw[hv]at this
    refine .val ⟨_,_,?_,this⟩
    simp[Instr.box,newVar,newRow]
   ·cases hv
  ·cases hc
 | build t parts =>
  simp only[gR]at hc
  split at hc
  ·rename_i z fs e1 e2
   split at hc
   ·rename_i dT
    obtain⟨ps,xd,rfl⟩:=aS.1 hc
    simp only[aM]at hv
    obtain⟨cs,dz,hv⟩:=aS.1 hv
    injection hv with h1 h2
    subst h1 h2
    exact .tO h (ada hR e1 e2 dT xd dz)
   ·cases hc
  ·rename_i z n e e1 e2
   split at hc
   ·rename_i sz e3
    obtain⟨ps,xd,rfl⟩:=aS.1 hc
    simp only[aM]at hv
    obtain⟨cs,dz,hv⟩:=aS.1 hv
    injection hv with h1 h2
    subst h1 h2
    exact .tO h (ac4 hR e1 e2 e3 xd dz)
   ·cases hc
  ·cases hc
 | buildSlice t len parts =>
  simp only[gR]at hc
  split at hc
  ·rename_i e ht
   split at hc
   ·rename_i sz z ps e1 e2 e3
    split at hc
    ·rename_i bn
     injection hc with hc
     split at hc
     ·rename_i q hq
      subst hc
      obtain⟨i,rfl,rfl,rfl⟩:∃i,len=1∧i=0∧ps=[(i,q)]:=by
       unfold YP at hq
       split at hq
       case h_2=>cases hq
       split at hq
       case isFalse=>cases hq
       rename_i eM
       injection hq with hq
       subst hq
       exact⟨_,eM.2.1,eM.2.2,rfl⟩
      obtain ⟨xx, cD, zi⟩ : ∃ xx, parts = #[(0, xx)] ∧ dw xx = some q := by
       match hh:parts.toList,e3 with
       |[],e3=>simp[uD]at e3
       | [(j, y)], e3 =>
        simp only[uD]at e3
        split at e3
        ·rename_i y' s1 q1 q2
         injection e3 with e3
         injection e3 with e3 e4
         injection e3 with e5 e6
         injection q2 with q2
         subst e5 e6
         have:=iy List.toArray hh
         exact⟨y,by simpa using this,q1⟩
        ·cases e3
       | p1 :: p2 :: r, e3 =>
        simp only[uD]at e3
        split at e3
        ·rename_i y' s1 q1 q2
         injection e3 with e3
         injection e3 with e3 e4
         subst e4
         split at q2
         ·injection q2 with q2;cases q2
         ·cases q2
        ·cases e3
      subst cD
      exact .val (arZ h hR ht e1 e2 bn.1 bn.2.1 bn.2.2 zi rfl hv)
     split at hc
     ·rename_i q hq
      subst hc
      obtain ⟨rfl, hp⟩ : len = 1 ∧ parts = #[(0, .tmp q)] := by
       unfold YQ at hq
       split at hq
       case h_2=>cases hq
       rename_i i t' cD
       split at hq
       case h_2=>cases hq
       split at hq
       case isFalse=>cases hq
       rename_i eM
       injection hq with hq
       subst hq
       obtain⟨_,rfl,rfl⟩:=eM
       refine⟨rfl,?_⟩
       have:=iy List.toArray cD
       simpa using this
      subst hp
      exact .val (ac7 h hR ht e1 e2 bn.1 bn.2.1 bn.2.2 hv)
     ·subst hc
      simp only[aM]at hv
      obtain⟨rs,fl,hv⟩:=aS.1 hv
      injection hv with h1 h2
      subst h1 h2
      exact .val (T8 h hR ht e1 e2 e3 bn.1 bn.2.1 bn.2.2 fl)
    ·cases hc
   ·cases hc
  ·cases hc
 | load t x =>
  simp only[gR]at hc
  split at hc
  ·rename_i g n y e1 e2 e3
   injection hc with hc
   split at hc
   ·split at hc
    ·subst hc
     refine nR hv fun e=>Ky h (dc e3 hR) ?_ e1 e2
     unfold zq at e
     split at e
     ·split at e
      ·cases e
      ·rename_i hx _;rw[hx];exact e
     ·exact e
    ·subst hc
     exact nR hv fun e=>Ky h (dc e3 hR) e e1 e2
   ·subst hc
    refine nR hv fun e=>Ky h (dc e3 hR) ?_ e1 e2
    unfold xq at e
    split at e
    ·split at e
     ·cases e
     ·rename_i hx _;rw[hx];exact e
    ·exact e
  ·cases hc
 | store t x y =>
  simp only[gR]at hc
  split at hc
  ·rename_i n ax ay e1 e2 e3
   injection hc with hc
   have hm:∃m,s'=m∧v=AV.undef∧s.store n (aE ρ ax) (aE ρ ay)=some m:=by
    split at hc
    ·subst hc
     simp only[aM]at hv
     obtain⟨m,hm,hv⟩:=aS.1 hv
     injection hv with h1 h2
     exact⟨m,h2.symm,h1.symm,hm⟩
    ·subst hc
     simp only[aM]at hv
     obtain⟨m,hm,hv⟩:=aS.1 hv
     injection hv with h1 h2
     refine⟨m,h2.symm,h1.symm,?_⟩
     unfold yC at hm
     split at hm
     ·split at hm
      ·rename_i hx _;rw[hx];exact hm
      ·cases hm
     ·cases hm
   obtain⟨m,rfl,rfl,hm⟩:=hm
   obtain⟨w',r1,r2⟩:=ate h (dc e2 hR) (dc e3 hR) e1 hm
   exact⟨w',.inr ⟨by simp[execOp,r1],r2⟩⟩
  ·cases hc
 |nilCheck x=>
  obtain⟨y,hy,rfl⟩:=aS.1 hc
  obtain⟨q1,q2⟩:=kU hv
  simp only at q1 q2
  subst q2
  obtain⟨r1,n1,n2,n3,n4⟩:=ao8 (dc hy hR) q1
  refine⟨w,.inl ⟨a.eval x,?_,.same h r1⟩⟩
  unfold execOp
  simp only
  rfl
 | binOp op t x y yt =>
  obtain⟨ax,ay,e1,e2,hq⟩:=UH hc
  rcases hq with rfl|⟨neg,BU,kd,c,d,lD,hm,rfl⟩
  ·refine nR hv fun e=>?_
   obtain⟨z,r1,r2,r3,r4⟩:=acu (P:=P) (w:=w) t (dc e1 hR) (dc e2 hR) e
   exact⟨z,by simp[yx r3 r4,r1],r2⟩
  ·simp only[aM]at hv
   obtain⟨t',Pu,hv⟩:=aS.1 hv
   injection hv with h1 h2
   subst h1 h2
   exact .tO h ⟨_,ae9 lD (dc e1 hR) (dc e2 hR) hm Pu,.val _ rfl⟩
 |unOp op t x=>
  obtain⟨y,hy,rfl⟩:=aS.1 hc
  exact nR hv fun e=>atm (dc hy hR) e
 | convert src dst x =>
  simp only[gR]at hc
  obtain⟨y,hy,hc⟩:=da.1 hc
  have hk:∃kd,jL=.conv kd y:=by
   unfold Fe at hc
   split at hc
   ·injection hc with hc;exact⟨_,hc.symm⟩
   ·injection hc with hc;exact⟨_,hc.symm⟩
   ·split at hc
    ·injection hc with hc;exact⟨_,hc.symm⟩
    ·cases hc
   ·split at hc
    ·injection hc with hc;exact⟨_,hc.symm⟩
    ·cases hc
   ·cases hc
  obtain⟨kd,rfl⟩:=hk
  obtain⟨q1,q2⟩:=kU hv
  simp only at q1 q2
  subst q2
  exact .val (aev (x:=x) (op:=.BM 0) h hc (dc hy hR) q1)
 | makeInterface t x =>
  simp only[gR]at hc
  split at hc
  ·cases hc
  ·rename_i d hni hd
   obtain⟨y,hy,rfl⟩:=aS.1 hc
   refine nR hv fun e=>⟨.iface t (a.eval x),?_,akr (dc hy hR) e⟩
   simp only[Instr.makeInterface,Sem.run_bind,run_underlying hd,Result.andThen_ok]
   cases d<;>first|(exact absurd hd (hni _))|rfl
  ·cases hc
 | makeFunc fn first caps =>
  cases fn with
  | func f =>
   simp only[gR]at hc
   split at hc
   ·rename_i af ac e1 e2
    injection hc with hc
    subst hc
    simp only[aM]at hv
    split at hv
    ·rename_i aP
     injection hv with hv
     injection hv with h1 h2
     subst h1 h2
     have:=aoS (f:=f) hR e1 e2 aP
     exact .tO h ⟨_,by simp[Instr.makeFunc];rfl,by simpa using this⟩
    ·cases hv
   ·cases hc
  |_=>simp[gR]at hc
 | makeSlice t l c =>
  simp only[gR]at hc
  split at hc
  ·rename_i e ht
   split at hc
   ·rename_i sz n z al ac e1 e2 e3 e4 e5
    split at hc
    ·rename_i bn
     injection hc with hc
     subst hc
     cases qa:md.mu.grow&&!md.mu.only.isEmpty with
     |false=>rw[qa]at hv;exact .val (aoT h ht e1 e2 e3 bn.2.2 bn.1 bn.2.1 (dc e4 hR) (dc e5 hR) hv)
     |true=>rw[qa]at hv;exact .val (aoU h ht e1 e2 e3 bn.2.2 bn.1 bn.2.1 (dc e4 hR) (dc e5 hR) hv)
    ·cases hc
   ·cases hc
  ·cases hc
 | slice t x lo hi mx =>
  simp only[gR]at hc
  split at hc
  ·rename_i ax al ah am e1 e2 e3 e4
   split at hc
   ·rename_i ht
    injection hc with hc
    subst hc
    exact nR hv fun e=>Rb (kd:=.str) ht (dc e1 hR) (vq e2 hR) (vq e3 hR) (vq e4 hR) e
   ·rename_i e0 ht
    obtain⟨sz,bP,rfl⟩:=aS.1 hc
    exact nR hv fun e=>Rb (kd:=.sl sz) ⟨e0,ht,bP⟩ (dc e1 hR) (vq e2 hR) (vq e3 hR) (vq e4 hR) e
   ·rename_i n e0 ht
    obtain⟨sz,bP,rfl⟩:=aS.1 hc
    exact nR hv fun e=>Rb (kd:=.arr n sz) ⟨e0,ht,bP⟩ (dc e1 hR) (vq e2 hR) (vq e3 hR) (vq e4 hR) e
   ·cases hc
  ·cases hc
 | fieldAddr t x i =>
  simp only[gR]at hc
  split at hc
  ·rename_i fs ax ht e1
   split at hc
   ·rename_i f hf
    split at hc
    ·rename_i n jj
     split at hc
     ·rename_i h0
      injection hc with hc
      subst hc
      exact nR hv fun e=>af2 ht hf jj h0 (dc e1 hR) e
     ·cases hc
    ·cases hc
   ·cases hc
  ·cases hc
 | field t x i =>
  simp only[gR]at hc
  split at hc
  ·rename_i fs ax ht e1
   split at hc
   ·rename_i f hf
    split at hc
    ·rename_i g n hg jj
     injection hc with hc
     subst hc
     exact nR hv fun e=>af4 ht hf hg jj (dc e1 hR) e
    ·cases hc
   ·cases hc
  ·cases hc
 | indexAddr t x i =>
  simp only[gR]at hc
  split at hc
  ·rename_i ax ai e1 e2
   split at hc
   ·rename_i n e0 ht
    obtain⟨sz,bP,rfl⟩:=aS.1 hc
    exact nR hv fun e=>akC ht bP (dc e1 hR) (dc e2 hR) e
   ·rename_i e0 ht
    obtain⟨sz,bP,rfl⟩:=aS.1 hc
    exact nR hv fun e=>akE ht bP (dc e1 hR) (dc e2 hR) e
   ·cases hc
  ·cases hc
 | index t x i =>
  simp only[gR]at hc
  split at hc
  ·rename_i ax ai e1 e2
   split at hc
   ·rename_i n e0 ht
    split at hc
    ·rename_i g sz hg bP
     injection hc with hc
     subst hc
     exact nR hv fun e=>akG ht hg bP (dc e1 hR) (dc e2 hR) e
    ·cases hc
   ·rename_i ht
    injection hc with hc
    subst hc
    exact nR hv fun e=>akF ht (dc e1 hR) (dc e2 hR) e
   ·cases hc
  ·cases hc
 |extract x i=>
  obtain⟨y,hy,rfl⟩:=aS.1 hc
  exact nR hv fun e=>afk (dc hy hR) e
 |call c=>exact adv h hR (ty:=ty) hc hn hv
 |panic x=>
  simp only[gR]at hc
  injection hc with hc
  subst hc
  simp[aM,aE,zw]at hv
 |_=>simp[gR]at hc
end
end Go.Ax
/-
  An activation begins, and ends.
-/
namespace Go.Ax
open Go.RowKit
section
variable{P:Program} {B0:Nat} {w0:World} {G:aG} {k nl:Nat} {w:World} {s:ae}
def aG.kE (G:aG) (nl:Nat):aG:={G with ag:=G.ag++[⟨[],[],nl,[],fun _=>none⟩]}
theorem aG.KS (G:aG) (n:Nat) (k nl:Nat):bB k nl G (G.kE n):=
 ⟨fun _ _ _ e=>e,fun _ gr _ e=>⟨gr,mO e,.refl gr,fun _=>rfl⟩,fun _ _ _ e=>e⟩
theorem Qz (h:cz P B0 w0 G s w):At P B0 w0 (G.kE s.loops.length) s.ag.length s.loops.length (s.push ⟨[],[]⟩) w:=by
 have hle:=G.KS s.loops.length
 have hk:jI (fun _=>False) G w (G.kE s.loops.length) w:=fun b o e _=>⟨e,rfl,fun _ e=>e⟩
 have gG:(G.kE s.loops.length).ag[s.ag.length]? =some ⟨[],[],s.loops.length,[],fun _=>none⟩:=by
  simp[aG.kE,←h.len]
 refine⟨⟨h.ff,by simp[aG.kE,ae.push,h.len],h.jT,fun d r gr h1 h2=>?_,fun l lp r h1 h2=>?_,fun d gr h1=>?_,fun d d' gr bI hd h1 h2=>?_,h.below,h.low,h.eO⟩,by simp[ae.push],_,gG,rfl⟩
 ·rcases ev h1 with⟨hd,h1⟩|⟨hd,rfl⟩
  ·rcases ev h2 with⟨_,h2⟩|⟨tC,_⟩
   ·exact(h.cI d r gr h1 h2).cJ (hle _ _) hk (fun o ho=>ho.elim)
   ·rw[h.len]at tC;omega
  ·rcases ev h2 with⟨tC,_⟩|⟨_,rfl⟩
   ·rw[h.len]at tC;omega
   ·exact⟨rfl,rfl,fun b cs blk e=>by simp at e,fun b blk e=>by simp at e,fun g n T e=>by simp at e,fun i b e=>by simp at e,fun b n e=>by cases e⟩
 ·have hr:=h.loop l lp r h1 h2
  obtain⟨k1,k2,_⟩:=hk _ _ hr.2.1 (fun x=>x)
  exact hr.cJ (fun k nl _ _=>hle k nl) (by simp[aG.kE]) k1 k2
 ·rcases ev h1 with⟨_,h1⟩|⟨_,rfl⟩
  ·exact h.pE d gr h1
  ·exact aH _
 ·rcases ev h1 with⟨pk,h1⟩|⟨pk,rfl⟩
  ·rcases ev h2 with⟨_,h2⟩|⟨_,rfl⟩
   ·exact h.q9 d d' gr bI hd h1 h2
   ·exact h.pE d gr h1
  ·rcases ev h2 with⟨pn,_⟩|⟨_,rfl⟩
   ·omega
   ·exact aH _
def aG.lk (G:aG) (k n:Nat):aG:=
 {G with ag:=G.ag.modify k fun q=>{q with marks:=q.marks.take n},own:=fun b=>match G.own b with
  |some (.mark d i)=>if d=k∧n≤i then none else some (.mark d i)
  |o=>o}
theorem aG.AS (G:aG) (k nl n:Nat) {k':Nat} (hk:k'≤k):bB k' nl G (G.lk k n):=
 ⟨fun _ _ _ e=>e,fun d gr hd e=>by
  by_cases eR:k=d
  ·subst eR
   exact⟨{gr with marks:=gr.marks.take n},by simp only[aG.lk,dQ,ak,e];rfl,⟨fun _ _ e=>e,fun _ T e=>⟨T,e,.refl T⟩,rfl,fun _ _ e=>e⟩,fun aC=>by omega⟩
  ·exact⟨gr,by simp only[aG.lk,dQ,aq eR,e],.refl gr,fun _=>rfl⟩,fun _ _ _ e=>e⟩
theorem aG.Jg {G:aG} {k n b:Nat} {o:rC} (h:G.own b=some o) (ho:∀i,n≤i→o≠.mark k i):(G.lk k n).own b=some o:=by
 simp only[aG.lk,h]
 cases o with
 |mark d i=>
  simp only
  rw[aq (fun e=>ho i e.2 (by rw[e.1]))]
 |_=>rfl
theorem U4 (h:At P B0 w0 G k nl s w) (n:Nat):At P B0 w0 (G.lk k n) k nl s w:=by
 have hlen:G.ag.length=k+1:=by rw[h.rel.len,h.len]
 have hk:jI (fun o=>∃i,n≤i∧o=.mark k i) G w (G.lk k n) w:=fun b o e ho=>⟨aG.Jg e (fun i hi e=>ho ⟨i,hi,e⟩),rfl,fun _ e=>e⟩
 have dV:∀(d:Nat) (gr:cE),(G.lk k n).ag[d]? =some gr→∃iL,G.ag[d]? =some iL∧gr.nl=iL.nl∧gr.bl=iL.bl∧gr.tk=iL.tk∧gr.gs=iL.gs∧(d≠k→gr=iL)∧(d=k→gr.marks=iL.marks.take n):=fun d gr e=>by
  simp only[aG.lk,dQ]at e
  by_cases hd:k=d
  ·rw[ak hd]at e
   obtain⟨g0,h1,rfl⟩:=aS.1 e
   exact⟨g0,h1,rfl,rfl,rfl,rfl,fun aB=>absurd hd.symm aB,fun _=>rfl⟩
  ·rw[aq hd]at e
   exact⟨gr,e,rfl,rfl,rfl,rfl,fun _=>rfl,fun e=>absurd e.symm hd⟩
 have hs : cz P B0 w0 (G.lk k n) s w := by
  refine⟨h.rel.ff,by simp[aG.lk,h.rel.len],h.rel.jT,fun d r gr h1 h2=>?_,fun l lp r h1 h2=>?_,fun d gr h1=>?_,fun d d' gr bI hd h1 h2=>?_,h.rel.below,h.rel.low,fun b o e=>?_⟩
  ·obtain⟨g0,e0,e1,e2,e3,e6,e4,e5⟩:=dV d gr h2
   have hr:=h.rel.cI d r g0 h1 e0
   have eR:d≤k:=by have:=(aY.1 h1).1;rw[h.len]at this;omega
   by_cases hd:d=k
   ·subst hd
    refine⟨by rw[e2];exact hr.ek,by rw[e3];exact hr.iV,fun b cs blk a1 a2=>?_,fun b blk a1=>hr.full b blk (by rw[←e2];exact a1),fun g n T a1 a2=>?_,fun i b a1=>?_,fun b n a1=>by rw[e2];rw[e6]at a1;exact hr.mP b n a1⟩
    ·rw[e2]at a2
     have hb:=hr.box b cs blk a1 a2
     rw[e1,e6]
     exact hb.cJ (G.AS d _ n (aH _)) (fun x e=>aG.Jg e (fun i _ e=>by cases e)) rfl (fun _ e=>e)
    ·rw[e3]at a2
     have ht:=hr.tok g n T a1 a2
     refine ht.cJ (fun hn=>?_) (fun _=>rfl) (fun _ _ e=>e)
     obtain⟨m,hm⟩:=oO.1 hn
     exact aG.Jg (ht.2 m hm).2.1 (fun i _ e=>by cases e)
    ·rw[e5 rfl,xR]at a1
     split at a1
     ·rename_i aZ
      have hm:=hr.mark i b a1
      exact hm.cJ (aG.Jg hm.2.1 (fun i' hi e=>by injection e with _ e;omega)) rfl
     ·cases a1
   ·rw[e4 hd]
    refine hr.cJ (G.AS k _ n eR) hk (fun o ho=>?_)
    obtain⟨i,_,rfl⟩:=ho
    refine⟨fun _ e=>by(cases e),fun _ e=>by(cases e),fun _ e=>?_⟩
    injection e with e _
    exact hd e.symm
  ·have hr:=h.rel.loop l lp r h1 h2
   obtain⟨k1,k2,_⟩:=hk _ _ hr.2.1 (fun⟨i,_,e⟩=>by cases e)
   exact hr.cJ (fun k' gJ a1 _=>G.AS k _ n (by omega)) (by simp[aG.lk]) k1 k2
  ·obtain⟨g0,e0,e1,_⟩:=dV d gr h1
   rw[e1]
   exact h.rel.pE d g0 e0
  ·obtain⟨g0,e0,e1,_⟩:=dV d gr h1
   obtain⟨g0',e0',nu,_⟩:=dV d' bI h2
   rw[e1,nu]
   exact h.rel.q9 d d' g0 g0' hd e0 e0'
  ·simp only[aG.lk]at e
   cases ho:G.own b with
   |none=>rw[ho]at e;cases e
   |some o'=>exact h.rel.eO b o' ho
 exact h.to hs (G.AS k nl n (aH _)) rfl
theorem arb {b:Nat} {o o':Obj} (h:At P B0 w0 G k nl s w) (hb:B0≤b) (lG:G.own b=none) (hw:w.heap[b]? =some o) (hc:∀a t f,o≠.cells a t f):At P B0 w0 G k nl s (w.putObj b o'):=by
 have hI:∀i v,G.I b i≠some v:=fun i v e=>by
  have:=h.rel.ff b i v e
  simp only[World.cell?,hw]at this
  cases o<;>first|(exact absurd rfl (hc _ _ _))|(simp at this)
 have hs:cz P B0 w0 G s (w.putObj b o'):=by
  refine h.rel.cJ (fun _ _ _ e=>e) rfl rfl (fun c q e _=>⟨e,World.putObj_heap_other (fun jO=>?_),fun _ e=>e⟩) (fun c i v e=>?_) ?_ (fun c q e=>?_)
  ·subst jO
   rw[lG]at e
   cases e
  ·have aB:c≠b:=fun e'=>hI i v (e' ▸ e)
   have:=h.rel.ff c i v e
   have hh:(w.putObj b o').heap[c]? =w.heap[c]? :=World.putObj_heap_other aB
   rw[←this]
   simp only[World.cell?,hh]
  ·exact⟨rfl,rfl,rfl,by simp,fun c hc=>World.putObj_heap_other (by omega)⟩
  ·rw[World.putObj_size]
   exact h.rel.eO c q e
 exact⟨hs,h.len,h.cur⟩
def aG.cX (G:aG) (k:Nat) (bl:List (Option Nat)) (w:World):aG where
 I:=fun b i=>if some b∈bl then w.cell? ⟨b,i,none⟩else G.I b i
 ag:=G.ag.dropLast
 loops:=G.loops
 own:=fun b=>match G.own b with
  |some (.box d x)=>if d=k then none else some (.box d x)
  |some (.tok d x)=>if d=k then none else some (.tok d x)
  |some (.mark d x)=>if d=k then none else some (.mark d x)
  |o=>o
def Qs (k:Nat) (o:rC):Prop:=(∃b,o=.box k b)∨(∃g,o=.tok k g)∨∃i,o=.mark k i
theorem aG.aqM {G:aG} {k b:Nat} {bl:List (Option Nat)} {o:rC} (h:G.own b=some o) (ho:¬Qs k o):(G.cX k bl w).own b=some o:=by
 simp only[aG.cX,h]
 cases o with
 |box d x=>simp only;rw[aq (fun e=>ho (.inl ⟨x,by rw[e]⟩))]
 |tok d x=>simp only;rw[aq (fun e=>ho (.inr (.inl ⟨x,by rw[e]⟩)))]
 |mark d x=>simp only;rw[aq (fun e=>ho (.inr (.inr ⟨x,by rw[e]⟩)))]
 |loop l=>rfl
theorem aG.Zo {G:aG} {k b:Nat} {bl:List (Option Nat)} {o:rC} (h:G.own b=some o) (ho:Qs k o):(G.cX k bl w).own b=none:=by
 simp only[aG.cX,h]
 rcases ho with⟨x,rfl⟩|⟨x,rfl⟩|⟨x,rfl⟩<;>simp
theorem wF {α:Type} {l:List α} {n d:Nat} (hl:l.length=n+1):l.dropLast[d]? =if d<n then l[d]? else none:=by
 rw[List.getElem?_dropLast]
 simp only[hl,Hy]
theorem Zp (h:At P B0 w0 G k nl s w) (aQ:s.loops.length=nl) {gr:cE} (hg:G.ag[k]? =some gr) (bl:List (Option Nat)) (jy:∀b,some b∈bl→some b∈gr.bl):
  cz P B0 w0 (G.cX k bl w) s.pop w∧(∀b i v,G.I b i=some v→(G.cX k bl w).I b i=some v)∧(∀b,some b∈bl→∀i,(G.cX k bl w).I b i=w.cell? ⟨b,i,none⟩)∧
  ∀d,d<k→(G.cX k bl w).ag[d]? =G.ag[d]? :=by
 have hlen:G.ag.length=k+1:=by rw[h.rel.len,h.len]
 obtain⟨r,bI,hr,bz⟩:=h.cI (aH k)
 rw[hg]at bz
 injection bz with bz
 subst bz
 have aJ:=h.rel.cI k r gr hr hg
 have lE:gr.nl=nl:=by obtain⟨g',e1,e2⟩:=h.cur;rw[hg]at e1;injection e1 with e1;rw[e1];exact e2
 have tA:∀b,some b∈gr.bl→∃x,G.own b=some (.box k x):=fun b hb=>by
  obtain⟨x,hx,su⟩:=n6 hb
  have XE:x<r.boxes.length:=by rw[←aJ.ek];exact hx
  have:=aJ.box x _ b (cM XE) (by rw[cM hx,su])
  obtain⟨y,hy,_⟩:=this.2.1
  exact⟨y,hy⟩
 have hI:∀b i v,G.I b i=some v→(G.cX k bl w).I b i=some v:=fun b i v e=>by
  simp only[aG.cX]
  split
  ·exact h.rel.ff b i v e
  ·exact e
 have rX:∀d,d<k→(G.cX k bl w).ag[d]? =G.ag[d]? :=fun d hd=>by
  simp only[aG.cX,wF hlen]
  rw[ak hd]
 have dV:∀(d:Nat) (q:cE),(G.cX k bl w).ag[d]? =some q→d<k∧G.ag[d]? =some q:=fun d q e=>by
  simp only[aG.cX,wF hlen]at e
  split at e
  ·exact⟨by assumption,e⟩
  ·cases e
 have hle:∀k' gJ,k'<k→bB k' gJ G (G.cX k bl w):=fun k' gJ u2=>
  ⟨hI,fun d q hd e=>⟨q,by rw[rX d (by omega)];exact e,.refl q,fun _=>rfl⟩,fun _ _ _ e=>e⟩
 have ow:jI (Qs k) G w (G.cX k bl w) w:=fun b o e ho=>⟨aG.aqM e ho,rfl,fun i hi=>by
  simp only[aG.cX]
  rw[aq (fun hb=>by
   obtain⟨x,hx⟩:=tA b (jy b hb)
   rw[e]at hx
   injection hx with hx
   exact ho (.inl ⟨x,hx⟩))]
  exact hi⟩
 refine⟨⟨fun b i v e=>?_,by simp[aG.cX,ae.pop,h.rel.len],h.rel.jT,fun d q gq h1 h2=>?_,fun l lp q h1 h2=>?_,fun d q h1=>?_,fun d d' q q' hd h1 h2=>?_,h.rel.below,h.rel.low,fun b o e=>?_⟩,hI,fun b hb i=>?_,rX⟩
 ·simp only[aG.cX]at e
  split at e
  ·exact e
  ·exact h.rel.ff b i v e
 ·obtain⟨eR,h2⟩:=dV d gq h2
  have h1':s.ag[d]? =some q:=by
   simp only[ae.pop,wF h.len]at h1
   rw[ak eR]at h1
   exact h1
  refine(h.rel.cI d q gq h1' h2).cJ (hle _ _ eR) ow (fun o ho=>?_)
  rcases ho with⟨x,rfl⟩|⟨x,rfl⟩|⟨x,rfl⟩
  ·exact⟨fun _ e=>by(injection e with e _;omega),fun _ e=>by(cases e),fun _ e=>by(cases e)⟩
  ·exact⟨fun _ e=>by(cases e),fun _ e=>by(injection e with e _;omega),fun _ e=>by(cases e)⟩
  ·exact⟨fun _ e=>by(cases e),fun _ e=>by(cases e),fun _ e=>by(injection e with e _;omega)⟩
 ·have sg:=h.rel.loop l lp q h1 h2
  obtain⟨b1,b2,rc,b3,b4⟩:=sg
  obtain⟨k1,k2,_⟩:=ow _ _ b2 (fun ho=>by rcases ho with⟨x,e⟩|⟨x,e⟩|⟨x,e⟩<;>cases e)
  obtain⟨a1,a2,a3,a4,a5,a6,a8,a9,LP,k',gJ,Sn,a12,HI,LQ⟩:=b4
  have hl:l<nl:=by have:=(aY.1 h1).1;simp only[ae.pop]at this;omega
  have u2:k'<k:=HI k gr hg (by omega)
  refine⟨b1,k1,rc,k2.trans b3,a1,a2,a3,a4,a5,a6,a8,a9,LP,k',gJ,?_,a12,fun d q' e aC=>HI d q' (dV d q' e).2 aC,fun t=>(LQ t).mono (hle k' gJ u2) (aH _) (aH _)⟩
  simp[aG.cX,hlen]
  omega
 ·exact h.rel.pE d q (dV d q h1).2
 ·exact h.rel.q9 d d' q q' hd (dV d q h1).2 (dV d' q' h2).2
 ·simp only[aG.cX]at e
  cases ho:G.own b with
  |none=>rw[ho]at e;cases e
  |some o'=>exact h.rel.eO b o' ho
 ·simp only[aG.cX]
  rw[ak hb]
theorem vt (h:At P B0 w0 G k nl s w) (aQ:s.loops.length=nl) {gr:cE} (hg:G.ag[k]? =some gr):
  cz P B0 w0 (G.cX k gr.bl w) s.pop w∧(∀b i v,G.I b i=some v→(G.cX k gr.bl w).I b i=some v)∧(∀b,some b∈gr.bl→∀i,(G.cX k gr.bl w).I b i=w.cell? ⟨b,i,none⟩)∧
  ∀d,d<k→(G.cX k gr.bl w).ag[d]? =G.ag[d]? :=
 Zp h aQ hg gr.bl (fun _ e=>e)
end
end Go.Ax
/-
  What an activation hands back.
-/
namespace Go.Ax
open Go.RowKit
section
variable{P:Program} {B0:Nat} {w0:World} {G:aG} {k nl:Nat} {w:World} {s:ae}
theorem ZR {I:gg} {b:Nat} {arr:Array Value} {ty:TypeId} (hI:∀i,I b i=w.cell? ⟨b,i,none⟩) (hw:w.heap[b]? =some (.cells arr ty)) {i:Nat} (hi:i<arr.size):I b (0+i)=some (arr.getD i Go.undef):=by
 rw[fK,hI,cell_of_heap hw]
 simp[Array.getD,hi]
theorem Yc (h:At P B0 w0 G k nl s w) (aQ:s.loops.length=nl) {gr:cE} (hg:G.ag[k]? =some gr) {b off:Nat} {cs cs':List AV} {z:Value} (hx:Rel G k nl (.ptr k b off) z) (hb:s.box k b=some cs) (hc:closeAll cs=some cs'):
  bL (G.cX k gr.bl w).I (.bo cs' off) z:=by
 obtain⟨_,hI,bt,_⟩:=vt h aQ hg
 obtain⟨blk,bI,rfl,_,bz,cu⟩:=hx.sy
 rw[hg]at bz
 injection bz with bz
 subst bz
 obtain⟨r,_,_,_,arr,ty,hw,cm,aP⟩:=h.box (aH k) hb hg cu
 obtain⟨c1,c2,c3⟩:=Fc hc cm.1 aP cm.2
 have ji:some blk∈gr.bl:=bK cu
 have:=bL.bo (I:=(G.cX k gr.bl w).I) (cs:=cs') (off:=off) (blk:=blk) (o0:=0) (fun i=>arr.getD i Go.undef) c2 (fun i hi=>ZR (bt blk ji) hw (by have:=cm.1;omega)) (fun i hi=>(c3 i hi).mono hI)
 rw[fK]at this
 exact this
theorem Yd (h:At P B0 w0 G k nl s w) (aQ:s.loops.length=nl) {gr:cE} (hg:G.ag[k]? =some gr) {b off es n cap:Nat} {cs cs':List AV} {z:Value} (hx:Rel G k nl (.aN k b off es n cap) z) (hb:s.box k b=some cs)
  (hle:off+n*es≤cs.length) (hc:∀arr:Array Value,cs.length≤arr.size→(∀i (hi:i<cs.length),Rel G k nl cs[i] (arr.getD i Go.undef))→cs'.length=cs.length∧(∀c,c∈cs'→c.bu=true)∧∀i (hi:i<cs'.length),bL (G.cX k gr.bl w).I cs'[i] (arr.getD i Go.undef)):
  bL (G.cX k gr.bl w).I (.slice .any es (chunks es n (cs'.drop off))) z:=by
 obtain⟨_,hI,bt,_⟩:=vt h aQ hg
 obtain⟨blk,bI,rc,o0,rfl,_,bz,cu,hn,_,_,ho⟩:=hx.mj
 rcases vM n with fE|fE
 ·subst fE
  exact .slice (fun _ _=>Go.undef) (.inl rfl) (bh _) (fun r hr=>absurd hr (by simp[chunks])) (fun r hr=>absurd hr (by simp[chunks])) (fun i hi=>absurd hi (dk _)) (fun i hi=>absurd hi (dk _))
 have ho:=ho (.inl fE)
 subst ho
 rw[hg]at bz
 injection bz with bz
 subst bz
 obtain⟨r,_,_,_,arr,ty,hw,cm,aP⟩:=h.box (aH k) hb hg cu
 obtain⟨c1,c2,c3⟩:=hc arr cm.1 cm.2
 have ji:some blk∈gr.bl:=bK cu
 have:=QO (I:=(G.cX k gr.bl w).I) (cs:=cs') (es:=es) (n:=n) (cap:=rc) (blk:=blk) (o0:=0) (off:=o0) (f:=fun i=>arr.getD i Go.undef) c2 (fun i hi=>ZR (bt blk ji) hw (by have:=cm.1;omega)) (fun i hi=>c3 i hi) (by rw[c1];exact hle) hn
 unfold fU at this
 rw[(Fb es n (cs'.drop o0) (by simp[c1];omega)).1,fK]at this
 exact this
theorem Ye (h:At P B0 w0 G k nl s w) (aQ:s.loops.length=nl) {gr:cE} (hg:G.ag[k]? =some gr) {b off es n cap:Nat} {cs cs':List AV} {z:Value} (hx:Rel G k nl (.aN k b off es n cap) z) (hb:s.box k b=some cs) (hc:closeAll cs=some cs')
  (hle:off+n*es≤cs.length):bL (G.cX k gr.bl w).I (.slice .any es (chunks es n (cs'.drop off))) z:=by
 obtain⟨_,hI,_,_⟩:=vt h aQ hg
 obtain⟨blk,bI,rc,o0,rfl,eR,bz,cu,_⟩:=hx.mj
 obtain⟨r,_,_,_,_,_,_,_,aP⟩:=h.box eR hb bz cu
 refine Yd h aQ hg hx hb hle fun arr h1 h2=>?_
 obtain⟨c1,c2,c3⟩:=Fc hc h1 aP h2
 exact⟨c1,c2,fun i hi=>(c3 i hi).mono hI⟩
theorem aeI (h:At P B0 w0 G k nl s w) (aQ:s.loops.length=nl) {gr:cE} (hg:G.ag[k]? =some gr) {x y:AV} {z:Value} (hx:Rel G k nl x z) (hl:oj s x=some y):bL (G.cX k gr.bl w).I y z∧y.bu=true:=by
 obtain⟨_,hI,_,_⟩:=vt h aQ hg
 by_cases hr:∃d b off es n cap,x=.aN d b off es n cap
 ·obtain⟨d,b,off,es,n,cap,rfl⟩:=hr
  simp only[oj]at hl
  split at hl
  ·rename_i hd
   rw[h.gS]at hd
   subst hd
   obtain⟨cs,hb,hl⟩:=da.1 hl
   split at hl
   ·rename_i hle
    obtain⟨cs',hc,rfl⟩:=aS.1 hl
    exact⟨Ye h aQ hg hx hb hc hle,rfl⟩
   ·cases hl
  ·cases hl
 ·have e:oj s x=x.close:=by
   cases x<;>first|rfl|exact absurd ⟨_,_,_,_,_,_,rfl⟩ hr
  rw[e]at hl
  exact⟨(hx.close hl).mono hI,(I7 hl).2⟩
theorem U1 (h:At P B0 w0 G k nl s w) (aQ:s.loops.length=nl) {gr:cE} (hg:G.ag[k]? =some gr) {arr:Array Value}:∀{cs cs':List AV} {o:Nat},j6 s cs=some cs'→(∀i (hi:i<cs.length),Rel G k nl cs[i] (arr.getD (o+i) Go.undef))→
  cs'.length=cs.length∧(∀c,c∈cs'→c.bu=true)∧∀i (hi:i<cs'.length),bL (G.cX k gr.bl w).I cs'[i] (arr.getD (o+i) Go.undef)
 |[],cs',o,hl,_=>by
  simp only[j6]at hl
  injection hl with hl
  subst hl
  exact⟨rfl,fun c hc=>(by cases hc),fun i hi=>absurd hi (dk _)⟩
 | x :: r, cs', o, hl, hR => by
  simp only[j6]at hl
  split at hl
  ·rename_i y s' e1 e2
   injection hl with hl
   subst hl
   obtain⟨q1,q2,q3⟩:=U1 h aQ hg (o:=o+1) e2 (fun i hi=>by have:=hR (i+1) (by simpa using hi);rw[show o+1+i=o+(i+1)by omega];simpa using this)
   obtain⟨y1,y2⟩:=aeI h aQ hg (hR 0 (by simp)) e1
   refine⟨by simp[q1],fun c hc=>?_,fun i hi=>?_⟩
   ·rcases eF.1 hc with rfl|hc
    ·exact y2
    ·exact q2 c hc
   ·cases i with
    |zero=>exact y1
    |succ i=>
     have:=q3 i (by simpa using hi)
     rw[show o+1+i=o+(i+1)by omega]at this
     exact this
  ·cases hl
theorem X7 (h:At P B0 w0 G k nl s w) (aQ:s.loops.length=nl) {gr:cE} (hg:G.ag[k]? =some gr):∀{cs cs':List AV} {vs:List Value},vs.length=cs.length→(∀i (hi:i<cs.length) (hj:i<vs.length),Rel G k nl cs[i] vs[i])→ml s cs=some cs'→
  cs'.length=cs.length∧∀i (hi:i<cs'.length) (hj:i<vs.length),bL (G.cX k gr.bl w).I cs'[i] vs[i]
 |[],cs',vs,hl,hR,hc=>by
  simp only[ml]at hc
  injection hc with hc
  subst hc
  exact⟨rfl,fun i hi=>absurd hi (dk _)⟩
 |x::r,cs',[],hl,hR,hc=>by simp at hl
 | x :: r, cs', v :: vs, hl, hR, hc => by
  have hI:=(vt h aQ hg).2.1
  have h0:=hR 0 (by simp) (by simp)
  have ia:∀i (hi:i<r.length) (hj:i<vs.length),Rel G k nl r[i] vs[i]:=fun i hi hj=>hR (i+1) (by simpa using hi) (by simpa using hj)
  simp only[xS]at h0
  have fin:∀{y:AV} {r':List AV},bL (G.cX k gr.bl w).I y v→ml s r=some r'→cs'=y::r'→cs'.length=(x::r).length∧∀i (hi:i<cs'.length) (hj:i<(v::vs).length),bL (G.cX k gr.bl w).I cs'[i] (v::vs)[i]:=fun hy nN e=>by
   obtain⟨i1,i2⟩:=X7 h aQ hg (by simpa using hl) ia nN
   subst e
   refine⟨by simp[i1],fun i hi hj=>?_⟩
   cases i with
   |zero=>exact hy
   |succ i=>exact i2 i (by simpa using hi) (by simpa using hj)
  by_cases hp:∃d b off,x=.ptr d b off
  ·obtain⟨d,b,off,rfl⟩:=hp
   simp only[ml]at hc
   split at hc
   ·rename_i hd
    rw[h.gS]at hd
    subst hd
    split at hc
    ·rename_i ds r' e1 e2
     injection hc with hc
     obtain⟨cs0,hb,aP⟩:=da.1 e1
     exact fin (Yc h aQ hg h0 hb aP) e2 hc.symm
    ·cases hc
   ·cases hc
  ·have he:ml s (x::r)=if x.iT then(ml s r).map (x::·)else none:=by
    cases x<;>first|rfl|exact absurd ⟨_,_,_,rfl⟩ hp
   rw[he]at hc
   split at hc
   ·rename_i aP
    obtain⟨r',nN,rfl⟩:=aS.1 hc
    exact fin ((h0.yu aP).mono hI) nN rfl
   ·cases hc
theorem X9 (h:At P B0 w0 G k nl s w) (aQ:s.loops.length=nl) {gr:cE} (hg:G.ag[k]? =some gr) {kc nlc:Nat} (pj:k≤kc+1) {x y:AV} {z:Value} (hx:Rel G k nl x z) (hl:eD s x=some y):
  Rel (G.cX k gr.bl w) kc nlc y z∧y.bu=true:=by
 obtain⟨_,hI,bt,rX⟩:=vt h aQ hg
 have closed:∀{y:AV},x.close=some y→Rel (G.cX k gr.bl w) kc nlc y z∧y.bu=true:=fun e=>⟨.cl ((hx.close e).mono hI),(I7 e).2⟩
 cases x with
 | slice o es xs =>
  cases o with
  |tok d g=>
   simp only[eD]at hl
   injection hl with hl
   subst hl
   exact closed rfl
  |_=>exact closed hl
 | ptr d b off =>
  simp only[eD]at hl
  split at hl
  ·rename_i hd
   rw[h.gS]at hd
   subst hd
   obtain⟨cs,hb,hl⟩:=da.1 hl
   obtain⟨cs',hc,rfl⟩:=aS.1 hl
   exact⟨.cl (Yc h aQ hg hx hb hc),rfl⟩
  ·rename_i hd
   rw[h.gS]at hd
   injection hl with hl
   subst hl
   obtain⟨blk,bI,rfl,eR,bz,cu⟩:=hx.sy
   exact⟨.ptr bI (by omega) (by rw[rX d (by omega)];exact bz) cu,rfl⟩
 | aN d b off es n cap =>
  simp only[eD]at hl
  split at hl
  ·rename_i hd
   rw[h.gS]at hd
   subst hd
   obtain⟨cs,hb,hl⟩:=da.1 hl
   split at hl
   ·rename_i hle
    obtain⟨cs',hc,rfl⟩:=aS.1 hl
    refine⟨.cl ?_,rfl⟩
    cases hq:closeAll cs with
    |some c1=>
     rw[hq]at hc
     injection hc with hc
     subst hc
     exact Ye h aQ hg hx hb hq hle
    | none =>
     rw[hq]at hc
     exact Yd h aQ hg hx hb hle fun arr h1 h2=>by
      have:=U1 h aQ hg (arr:=arr) (o:=0) hc (fun i hi=>by rw[fK];exact h2 i hi)
      simpa using this
   ·cases hl
  ·rename_i hd
   rw[h.gS]at hd
   injection hl with hl
   subst hl
   obtain⟨blk,bI,rc,o0,rfl,eR,bz,cu,hn,iO,PC,ho⟩:=hx.mj
   exact⟨.aN bI (by omega) (by rw[rX d (by omega)];exact bz) cu hn iO PC ho,rfl⟩
 | fn f first caps =>
  simp only[eD]at hl
  split at hl
  ·rename_i hf
   obtain⟨aum,hc,rfl⟩:=aS.1 hl
   obtain⟨a1,a2,rfl,l1,l2,r1,r2⟩:=hx.BG
   obtain⟨q1,q2⟩:=X7 h aQ hg (vs:=a2.toList) (by simpa using l2) (fun i hi hj=>by
    have:=r2 i hi
    have e:a2.getD i Go.undef=a2.toList[i]:=by
     have:i<a2.size:=by simpa using hj
     simp[Array.getD,this]
    rw[←e]
    exact this) hc
   refine⟨.cl (.fn l1 (by rw[l2,q1]) (fun i hi=>(r1 i hi).mono hI) (fun i hi=>?_)),rfl⟩
   have se:i<a2.size:=by rw[l2,←q1];exact hi
   have:=q2 i hi (by simpa using se)
   have e:a2.getD i Go.undef=a2.toList[i]'(by simpa using se):=by simp[Array.getD,se]
   rw[e]
   exact this
  ·cases hl
 |_=>exact closed hl
theorem Yb (h:At P B0 w0 G k nl s w) (aQ:s.loops.length=nl) {gr:cE} (hg:G.ag[k]? =some gr) {kc nlc:Nat} (pj:k≤kc+1):∀{cs cs':List AV} {vs:List Value},vs.length=cs.length→(∀i (hi:i<cs.length) (hj:i<vs.length),Rel G k nl cs[i] vs[i])→
  py s cs=some cs'→cs'.length=cs.length∧∀i (hi:i<cs'.length) (hj:i<vs.length),Rel (G.cX k gr.bl w) kc nlc cs'[i] vs[i]∧cs'[i].bu=true
 |[],cs',vs,hl,hR,hc=>by
  simp only[py]at hc
  injection hc with hc
  subst hc
  exact⟨rfl,fun i hi=>absurd hi (dk _)⟩
 |x::r,cs',[],hl,hR,hc=>by simp at hl
 | x :: r, cs', v :: vs, hl, hR, hc => by
  simp only[py]at hc
  split at hc
  ·rename_i y r' e1 e2
   injection hc with hc
   subst hc
   obtain⟨i1,i2⟩:=Yb h aQ hg pj (nlc:=nlc) (by simpa using hl) (fun i hi hj=>hR (i+1) (by simpa using hi) (by simpa using hj)) e2
   refine⟨by simp[i1],fun i hi hj=>?_⟩
   cases i with
   |zero=>exact X9 h aQ hg pj (hR 0 (by simp) (by simp)) e1
   |succ i=>exact i2 i (by simpa using hi) (by simpa using hj)
  ·cases hc
theorem Yg (h:At P B0 w0 G k nl s w) (aQ:s.loops.length=nl) {gr:cE} (hg:G.ag[k]? =some gr) {kc nlc:Nat} (pj:k≤kc+1) {x y:AV} {z:Value} (hx:Rel G k nl x z) (hl:ed s x=some y):
  Rel (G.cX k gr.bl w) kc nlc y z:=by
 by_cases Bd:∃cs,x=.agg cs
 ·obtain⟨cs,rfl⟩:=Bd
  simp only[ed]at hl
  obtain⟨cs',hc,rfl⟩:=aS.1 hl
  obtain⟨arr,rfl,l1,aP,hR⟩:=hx.xm
  have conv:∀i (hi:i<arr.size),arr.getD i Go.undef=arr.toList[i]'(by simpa using hi):=fun i hi=>by simp[Array.getD,hi]
  obtain⟨q1,q2⟩:=Yb h aQ hg pj (nlc:=nlc) (vs:=arr.toList) (by simpa using l1) (fun i hi hj=>by rw[←conv i (by simpa using hj)];exact hR i hi) hc
  refine .agg (by rw[l1,q1]) (fun c hc=>?_) (fun i hi=>?_)
  ·obtain⟨i,hi,rfl⟩:=n6 hc
   exact(q2 i hi (by simp;omega)).2
  ·have bD:i<arr.size:=by omega
   rw[conv i bD]
   exact(q2 i hi (by simpa using bD)).1
 ·have:ed s x=eD s x:=by
   cases x<;>first|rfl|exact absurd ⟨_,rfl⟩ Bd
  rw[this]at hl
  exact(X9 h aQ hg pj hx hl).1
def B3 (tmps:Array Value):ResultVar→Sem Value
 |.tmp t=>pure (tmps.getD t Go.undef)
 |.cell a t=>do loadVar t (←asAddr (tmps.getD a Go.undef))
theorem QL {st:St} {a:Act} (h:At P B0 w0 G k nl st.sig w) (hR:eC G k nl st.tmps a) {r:ResultVar} {ar:iE} (hc:wC P r=some ar) {x:AV} (hx:sJ st ar=some x):
  ∃z,(B3 a.tmps r).run P w=.ok z w∧Rel G k nl x z:=by
 cases r with
 |tmp t=>
  simp only[wC]at hc
  injection hc with hc
  subst hc
  simp only[sJ]at hx
  injection hx with hx
  subst hx
  exact⟨_,rfl,hR t⟩
 | cell t ty =>
  simp only[wC,ZN]at hc
  split at hc
  ·rename_i g n e1 e2
   injection hc with hc
   subst hc
   simp only[sJ]at hx
   obtain⟨z,r1,r2⟩:=Ky h (hR t) hx e1 e2
   refine⟨z,?_,r2⟩
   have hp:∃p,a.tmps.getD t Go.undef=.pointer (some p):=by
    unfold ae.load at hx
    obtain⟨q,hq,_⟩:=da.1 hx
    have jx:=hR t
    cases bX:st.tmps t with
    |ptr d b off=>rw[bX]at jx;obtain⟨blk,gr,e,_⟩:=jx.sy;exact⟨_,e⟩
    |bo cs off=>rw[bX]at jx;obtain⟨blk,o0,f,e,_⟩:=jx.zn;exact⟨_,e⟩
    |_=>rw[bX]at hq;simp[ae.row]at hq
   obtain⟨p,hp⟩:=hp
   simp only[B3,hp,asAddr,Sem.run_bind,Sem.run_pure,Result.andThen_ok]
   rw[hp]at r1
   simpa[Instr.loadAt,Instr.sureAddr]using r1
  ·cases hc
theorem ZO {st:St} {a:Act} (h:At P B0 w0 G k nl st.sig w) (hR:eC G k nl st.tmps a) (aQ:st.sig.loops.length=nl) {gr:cE} (hg:G.ag[k]? =some gr) {kc nlc:Nat} (pj:k≤kc+1):∀{rs:List ResultVar} {qs:List iE} {l:List AV},
  fH (wC P) rs=some qs→sK st qs=some l→∃vs:List Value,(rs.mapM (B3 a.tmps)).run P w=.ok vs w∧vs.length=l.length∧∀i (hi:i<l.length) (hj:i<vs.length),Rel (G.cX k gr.bl w) kc nlc l[i] vs[i]
 |[],qs,l,hm,hr=>by
  simp only[fH]at hm
  injection hm with hm
  subst hm
  simp only[sK]at hr
  injection hr with hr
  subst hr
  exact⟨[],by simp,rfl,fun i hi=>absurd hi (dk _)⟩
 | r :: rs, qs, l, hm, hr => by
  simp only[fH]at hm
  split at hm
  ·rename_i ar SL e1 e2
   injection hm with hm
   subst hm
   simp only[sK]at hr
   split at hr
   ·rename_i x l' f1 f2
    injection hr with hr
    subst hr
    obtain⟨x0,oD,vd⟩:=da.1 f1
    obtain⟨z,r1,r2⟩:=QL h hR e1 oD
    obtain⟨vs,v1,v2,v3⟩:=ZO h hR aQ hg pj (nlc:=nlc) e2 f2
    refine⟨z::vs,?_,by simp[v2],fun i hi hj=>?_⟩
    ·simp only[RR,Sem.run_bind,r1,Result.andThen_ok,v1,Sem.run_pure]
    ·cases i with
     |zero=>exact Yg h aQ hg pj r2 vd
     |succ i=>exact v3 i (by simpa using hi) (by simpa using hj)
   ·cases hr
  ·cases hm
theorem QM {fn:Func} {tmps:Array Value} {vs:List Value} (h:(fn.results.toList.mapM (B3 tmps)).run P w=.ok vs w):
  (results fn tmps).run P w=.ok (if h:vs.toArray.size=1 then vs.toArray[0]else .tuple vs.toArray) w:=by
 have e:results fn tmps=(do let vs←fn.results.mapM (B3 tmps);pure (if h:vs.size=1 then vs[0]else .tuple vs)):=by
  unfold results
  congr 1
 rw[e]
 simp only[abh,Sem.run_bind,Sem.run_map,h,Result.andThen_ok,Sem.run_pure]
theorem Zf {G':aG} {kc nlc:Nat} {l:List AV} {vs:List Value} (hl:vs.length=l.length) (hR:∀i (hi:i<l.length) (hj:i<vs.length),Rel G' kc nlc l[i] vs[i]):
  Rel G' kc nlc (packed l) (if h:vs.toArray.size=1 then vs.toArray[0]else .tuple vs.toArray):=by
 match l,vs,hl with
 |[],[],_=>exact .tuple rfl (fun i hi=>absurd hi (dk _))
 |[x],[v],_=>exact hR 0 (by simp) (by simp)
 | x :: y :: l, v :: u :: vs, hl =>
  have:¬((v::u::vs).toArray.size=1):=by simp
  rw[dif_neg this]
  refine .tuple (by simpa using hl) (fun i hi=>?_)
  have bD:i<(v::u::vs).length:=by rw[hl];exact hi
  have:=hR i hi bD
  have e:(v::u::vs).toArray.getD i Go.undef=(v::u::vs)[i]:=by
   have:i<vs.length+1+1:=by simpa using bD
   simp[Array.getD,this]
  rw[e]
  exact this
theorem P1 {r l:Nat}:∀{caps:List AV},ml {s with ro:=r,bg:=l} caps=ml s caps
 |[]=>rfl
 |x::rest=>by
  have ih:=P1 (r:=r) (l:=l) (caps:=rest)
  cases x<;>simp only[ml,ih]<;>rfl
theorem aeH {r l:Nat} {x:AV}:oj {s with ro:=r,bg:=l} x=oj s x:=by cases x<;>rfl
theorem U0 {r l:Nat}:∀{cs:List AV},j6 {s with ro:=r,bg:=l} cs=j6 s cs
 |[]=>rfl
 |x::rest=>by simp only[j6,aeH,U0]
theorem X8 {r l:Nat} {x:AV}:eD {s with ro:=r,bg:=l} x=eD s x:=by
 cases x with
 |slice o es xs=>cases o<;>rfl
 |fn f first caps=>simp only[eD,P1]
 |aN d b off es n cap=>simp only[eD,U0];rfl
 |_=>rfl
theorem Ya {r l:Nat}:∀{cs:List AV},py {s with ro:=r,bg:=l} cs=py s cs
 |[]=>rfl
 |x::rest=>by simp only[py,X8,Ya]
theorem Yf {r l:Nat} {x:AV}:ed {s with ro:=r,bg:=l} x=ed s x:=by
 cases x with
 |agg cs=>simp only[ed,Ya]
 |slice o es xs=>cases o<;>rfl
 |fn f first caps=>
  simp only[ed,eD,P1]
 |aN d b off es n cap=>exact X8 (x:=.aN d b off es n cap)
 |_=>rfl
theorem Za (h:At P B0 w0 G k nl s w) (aQ:s.loops.length=nl) {kc nlc:Nat} (pj:k≤kc+1) {x0 x:AV} {z:Value} {s':ae} (r2:Rel G k nl x0 z) (j7:kD s x0=some (x,s')):
  ∃G',cz P B0 w0 G' s' w∧s'.ag.length=k∧s'.loops=s.loops∧(∀b i v,G.I b i=some v→G'.I b i=some v)∧
   (∀d gr,d<k→G.ag[d]? =some gr→∃bI,G'.ag[d]? =some bI∧iZ gr bI∧bI.marks=gr.marks)∧(∀l r:Nat,G.loops[l]? =some r→G'.loops[l]? =some r)∧Rel G' kc nlc x z:=by
 obtain⟨gr,hg,_⟩:=h.cur
 obtain⟨hp,hI,bt,rX⟩:=vt h aQ hg
 have nL:∀d q,d<k→G.ag[d]? =some q→∃q',(G.cX k gr.bl w).ag[d]? =some q'∧iZ q q'∧q'.marks=q.marks:=fun d q hd e=>⟨q,by rw[rX d hd];exact e,.refl q,rfl⟩
 have other:∀{y:AV},ed s x0=some y→x=y→s'=s.pop→∃G',cz P B0 w0 G' s' w∧s'.ag.length=k∧s'.loops=s.loops∧(∀b i v,G.I b i=some v→G'.I b i=some v)∧
   (∀d gr,d<k→G.ag[d]? =some gr→∃bI,G'.ag[d]? =some bI∧iZ gr bI∧bI.marks=gr.marks)∧(∀l r:Nat,G.loops[l]? =some r→G'.loops[l]? =some r)∧Rel G' kc nlc x z:=fun hy ex es=>by
  subst ex es
  exact⟨_,hp,by simp[ae.pop,h.len],rfl,hI,nL,fun _ _ e=>e,Yg h aQ hg pj r2 hy⟩
 unfold kD at j7
 split at j7
 ·rename_i d g es xs
  split at j7
  ·rename_i bn
   obtain⟨hd,JM,_,va⟩:=bn
   injection j7 with j7
   injection j7 with j8 jh
   rw[h.gS]at hd
   subst hd
   subst j8 jh
   cases r2 with
   |cl r2=>cases r2 with
    |slice f ho=>rcases ho with h|⟨h,_⟩<;>cases h
    |empty ho=>rcases ho with h|h<;>cases h
   | @tok _ _ _ _ av cap T bI hd bz ht dU mh hn=>
   rw[hg]at bz
   injection bz with bz
   subst bz
   obtain⟨r,hr,jx⟩:=aaF va
   have aJ:=h.rel.cI _ r gr hr hg
   obtain⟨oY,rU⟩:=aJ.tok g _ T jx ht
   obtain⟨t1,t2,t3,t4,t5,arr,ty,t6,t7⟩:=rU _ rfl
   obtain⟨_,heq⟩:=hn _ oY
   obtain⟨rfl,rfl⟩:=heq rfl
   have yT:(G.cX d gr.bl w).own T.blk=none:=aG.Zo t2 (.inr (.inl ⟨g,rfl⟩))
   obtain⟨rc,uK,kO,nG⟩:=h.cI (d:=d-1) (by omega)
   have Ph:s.pop.ag[d-1]? =some rc:=by
    simp only[ae.pop,wF h.len]
    rw[ak (by omega)]
    exact kO
   have JQ:(G.cX d gr.bl w).ag[d-1]? =some uK:=by rw[rX _ (by omega)];exact nG
   have hIt:∀i,xs.length*T.es≤i→(G.cX d gr.bl w).I T.blk i=none:=fun i hi=>by
    simp only[aG.cX]
    rw[aq (fun hm=>by
     obtain⟨q,hq,sk⟩:=n6 hm
     have Ga:q<r.boxes.length:=by rw[←aJ.ek];exact hq
     obtain⟨y,this,_⟩:=(aJ.box q _ T.blk (cM Ga) (by rw[cM hq,sk])).2.1
     rw[t2]at this
     injection this with this
     cases this)]
    exact t3 i hi
   obtain⟨G2,b1,b2,b3,b4⟩:=So hp (T:=T) Ph JQ yT oY ⟨t1,hIt,t4,t5,arr,ty,t6,t7⟩
   have ox:(s.pop.lg (d-1) xs.length).ag.length=d:=by simp[ae.lg,ae.br,ae.pop,h.len]
   refine⟨G2,b3,ox,rfl,fun b i v e=>by rw[b2];exact hI b i v e,fun q gq hq e=>?_,?_,?_⟩
   ·have e':(G.cX d gr.bl w).ag[q]? =some gq:=by rw[rX q hq];exact e
    obtain⟨N7,c1,c2,c3⟩:=(b4 (q+1) 0).ag q gq (by omega) e'
    exact⟨N7,c1,c2,c3 (by omega)⟩
   ·exact fun l r e=>(b4 0 (l+1)).loops l r (by omega) e
   ·have gE:G2.ag[d-1]? =some {uK with tk:=uK.tk++[T]}:=by rw[b1,dQ,ak rfl,JQ];rfl
    have sh:s.jW (d-1)=uK.tk.length:=by rw[YL kO,(h.rel.cI _ rc uK kO nG).iV]
    rw[sh]
    exact .tok T _ (by omega) gE (by show(uK.tk++[T])[uK.tk.length]? =_;rw[gM (aH _)];simp) dU (mh.mono (by rw[b2];exact hI)) hn
  ·injection j7 with j7
   injection j7 with j8 jh
   exact other (y:=.slice .any es xs) rfl j8.symm jh.symm
 ·rename_i d b off es n cap
  split at j7
  ·rename_i bn
   obtain⟨hd,JM,_,rfl,rfl,fE⟩:=bn
   rw[h.gS]at hd
   subst hd
   obtain⟨cs,hb,j8⟩:=da.1 j7
   clear j7
   split at j8
   case isFalse=>cases j8
   rename_i dz
   obtain⟨qH,hlen⟩:=dz
   obtain⟨cs',hc,jh⟩:=aS.1 j8
   injection jh with ON hf4
   subst ON hf4
   have aB:cs≠[]:=fun e=>by rw[e]at qH;exact absurd qH (by decide)
   obtain⟨blk,bI,rc,o0,rfl,eR,bz,cu,hn,_,PC,ho⟩:=r2.mj
   rw[hg]at bz
   injection bz with bz
   subst bz
   have ho:=ho (.inl fE)
   subst ho
   obtain⟨r,hr,qP,_,arr,ty,XB,cm,aP⟩:=h.box (aH _) hb hg cu
   have aJ:=h.rel.cI _ r gr hr hg
   obtain⟨t1,⟨xb,t2,t2'⟩,t3,CM,K9,t4,_,t5,_⟩:=aJ.box b cs blk qP cu
   rw[XB]at t4
   injection t4 with t4
   injection t4 with q1 q2
   subst q1 q2
   have rZ:=t5 aB _ (PC rfl fE)
   have t3:=t3 aB
   obtain⟨c1,c2,c3⟩:=Fc hc cm.1 aP cm.2
   obtain⟨hpB,Wi,_,Wr⟩:=Zp h aQ hg (gr.bl.filter (· ≠some blk)) (fun c hc=>(eP.1 hc).1)
   have ahJ:∀i,(G.cX d (gr.bl.filter (· ≠some blk)) w).I blk i=none:=fun i=>by
    simp only[aG.cX]
    rw[aq (fun hm=>by have:=(eP.1 hm).2;simp at this)]
    exact t3 i
   have yT:(G.cX d (gr.bl.filter (· ≠some blk)) w).own blk=none:=aG.Zo t2 (.inl ⟨xb,rfl⟩)
   obtain⟨ZH,uK,kO,nG⟩:=h.cI (d:=d-1) (by omega)
   have Ph:s.pop.ag[d-1]? =some ZH:=by
    simp only[ae.pop,wF h.len]
    rw[ak (by omega)]
    exact kO
   have JQ:(G.cX d (gr.bl.filter (· ≠some blk)) w).ag[d-1]? =some uK:=by rw[Wr _ (by omega)];exact nG
   obtain⟨G2,b1,b2,b3,b4,b5⟩:=abK hpB (z:=some (rc*es)) (cs:=cs') Ph JQ yT ahJ t1 XB (fun e=>by rw[e]at c1;simp at c1;exact aB (uf c1.symm)) c2 (by rw[c1];exact cm.1) (fun i hi=>(c3 i hi).mono Wi) (fun m hm=>by injection hm with hm;rw[rZ,hm])
   have ox:(s.pop.js (d-1) cs').ag.length=d:=by simp[ae.js,ae.br,ae.pop,h.len]
   refine⟨G2,b3,ox,rfl,fun b i v e=>by rw[b2];exact Wi b i v e,fun q gq hq e=>?_,?_,?_⟩
   ·have e':(G.cX d (gr.bl.filter (· ≠some blk)) w).ag[q]? =some gq:=by rw[Wr q hq];exact e
    obtain⟨N7,c1,c2,c3⟩:=(b4 (q+1) 0).ag q gq (by omega) e'
    exact⟨N7,c1,c2,c3 (by omega)⟩
   ·exact fun l r e=>(b4 0 (l+1)).loops l r (by omega) e
   ·have oA:s.bN (d-1)=ZH.boxes.length:=by simp[ae.bN,kO]
    rw[oA]
    obtain⟨g2,e1,e2,e3⟩:=b5
    exact .aN g2 (by omega) e1 e2 hn (bh _) (fun _ _=>e3) (fun _=>rfl)
  ·obtain⟨y,hy,j8⟩:=aS.1 j7
   injection j8 with jh ON
   exact other hy jh.symm ON.symm
 ·obtain⟨y,hy,j7⟩:=aS.1 j7
  injection j7 with j8 jh
  exact other hy j8.symm jh.symm
theorem agi {st:St} {a:Act} (h:At P B0 w0 G k nl st.sig w) (hR:eC G k nl st.tmps a) (aQ:st.sig.loops.length=nl) {fn:Func} {qs:List iE} {own:Bool} (hc:fH (wC P) fn.results.toList=some qs) {kc nlc:Nat} (pj:k≤kc+1) {x:AV} {s':ae}
  (hf:finish qs own st=some (x,s')):∃z G',(results fn a.tmps).run P w=.ok z w∧cz P B0 w0 G' s' w∧s'.ag.length=k∧s'.loops=st.sig.loops∧(∀b i v,G.I b i=some v→G'.I b i=some v)∧
   (∀d gr,d<k→G.ag[d]? =some gr→∃bI,G'.ag[d]? =some bI∧iZ gr bI∧bI.marks=gr.marks)∧(∀l r:Nat,G.loops[l]? =some r→G'.loops[l]? =some r)∧Rel G' kc nlc x z:=by
 obtain⟨gr,hg,_⟩:=h.cur
 obtain⟨hp,hI,bt,rX⟩:=vt h aQ hg
 have nL:∀d q,d<k→G.ag[d]? =some q→∃q',(G.cX k gr.bl w).ag[d]? =some q'∧iZ q q'∧q'.marks=q.marks:=fun d q hd e=>⟨q,by rw[rX d hd];exact e,.refl q,rfl⟩
 unfold finish at hf
 split at hf
 · -- one result, the right to append with it
  split at hf
  ·rename_i ar
   obtain⟨x0,oD,j7⟩:=da.1 hf
   clear hf
   obtain⟨rv,Kc⟩:∃rv,fn.results.toList=[rv]:=by
    obtain⟨l1,_⟩:=vm hc
    match hh:fn.results.toList,l1 with
    |[rv],_=>exact⟨rv,rfl⟩
   rw[Kc]at hc
   simp only[fH]at hc
   split at hc
   ·rename_i ar' SL e1 e2
    injection hc with hc
    injection hc with hc _
    subst hc
    obtain⟨z,r1,r2⟩:=QL h hR e1 oD
    have db:(results fn a.tmps).run P w=.ok z w:=by
     have:=QM (P:=P) (w:=w) (fn:=fn) (tmps:=a.tmps) (vs:=[z]) (by rw[Kc];simp[r1])
     simpa using this
    obtain⟨G2,q⟩:=Za h aQ pj (nlc:=nlc) r2 j7
    exact⟨z,G2,db,q⟩
   ·cases hc
  ·cases hf
 ·obtain⟨l,hl,hf⟩:=aS.1 hf
  injection hf with j8 jh
  subst j8 jh
  obtain⟨vs,v1,v2,v3⟩:=ZO h hR aQ hg pj (nlc:=nlc) hc hl
  exact⟨_,_,QM v1,hp,by simp[ae.pop,h.len],rfl,hI,nL,fun _ _ e=>e,Zf v2 v3⟩
end
end Go.Ax
/-
  One operation of a region, calls with it.
-/
namespace Go.Ax
open Go.RowKit
def iK:Option Nat→Fence
 |none=>Fence.wide
 |some r=>Fence.wide.inRound r
theorem NW (rd:Option Nat) (f:FuncId):(iK rd).fn f:=by cases rd<;>exact trivial
theorem Jn (rd:Option Nat):(iK rd).depth=none:=by cases rd<;>rfl
theorem af0 (rd:Option Nat):(iK rd).round=rd:=by cases rd<;>rfl
theorem Jm (rd:Option Nat) {n:Nat} {P:Program} {f:FuncId} {args:Array Value} {w:World} {R:Ending→World→Prop} (h:Calls P f args w R):CallsIn (iK rd) n P f args w R:=by
 have:=(callsIn_wide (n:=n)).2 h
 cases rd
 ·exact this
 ·exact this
theorem af1 (rd:Option Nat) {n:Nat} {P:Program} {l:Nat} {f:FuncId} {tmps:Array Value} {assign body:Code} {w:World} {R:Ending→World→Prop} (h:RoundIn Fence.wide n P l f tmps assign body w R):
  RoundIn (iK rd) n P l f tmps assign body w R:=by
 cases rd
 ·exact h
 ·exact h
def rA (P:Program) (f:FuncId):Prop:=∃fn c,P.funcs[f]? =some fn∧fn.body=some c∧(fn.name== "runtime.NumGoroutine")=false
theorem rA.run {P:Program} {f:FuncId} (h:rA P f) (args:Array Value) (w:World):(callFunc f args).run P w=.ok (.enter f args) w:=by
 obtain⟨fn,c,h1,h2,h3⟩:=h
 simp only[callFunc,Sem.run_bind,run_program,Result.andThen_ok,h1,h3,h2,Option.isNone_some,eB,dt]
 rfl
section
variable{P:Program} {B0:Nat} {w0:World}
def nW (P:Program) (B0:Nat) (w0:World) (G:aG) (k nl:Nat) (s s':ae) (w':World) (x:AV) (x':Value):Prop:=
 ∃G',cz P B0 w0 G' s' w'∧s'.ag.length=s.ag.length∧s'.loops.length=s.loops.length∧bB (k+1) s.loops.length G G'∧Rel G' k nl x x'
structure kX (P:Program) (B0:Nat) (w0:World) (call:aW):Prop where
 fn:∀(G:aG) (k nl:Nat) (s:ae) (w:World) (f:FuncId) (args:List AV) (xs:Array Value) (res:AV) (s':ae),cz P B0 w0 G s w→s.ag.length≤k+1→k≤s.ag.length→nl≤s.loops.length→xs.size=args.length→
  (∀i (hi:i<args.length),Rel G k nl args[i] (xs.getD i Go.undef))→call (.fn f) args s=some (res,s')→
  rA P f∧Calls P f xs w fun e w'=>∃z,e=.returned z∧nW P B0 w0 G k nl s s' w' res z
 yield:∀(G:aG) (k nl:Nat) (s:ae) (w:World) (l r:Nat) (args:List AV) (xs:Array Value) (res:AV) (s':ae),cz P B0 w0 G s w→s.ag.length≤k+1→k≤s.ag.length→nl≤s.loops.length→l<nl→G.loops[l]? =some r→xs.size=args.length→
  (∀i (hi:i<args.length),Rel G k nl args[i] (xs.getD i Go.undef))→call (.yield l) args s=some (res,s')→
  ∃rc:Loop,w.heap[r]? =some (.loop rc)∧xs.size=rc.params.size∧∀n,RoundIn Fence.wide n P r rc.fn ((rc.params.zip xs).foldl (fun tmps (t,a)=>tmps.setIfInBounds t a) rc.tmps) rc.assign rc.body w
   fun e w'=>∃z,e=.returned z∧nW P B0 w0 G k nl s s' w' res z
def zW (I:gg) (r:AV) (z:Value):Prop:=bL I r z∨∃(vs:List AV) (arr:Array Value),r=.tuple vs∧z=.tuple arr∧arr.size=vs.length∧∀i (hi:i<vs.length),bL I vs[i] (arr.getD i Go.undef)
theorem zW.rel {G:aG} {k nl:Nat} {r:AV} {z:Value} (h:zW G.I r z):Rel G k nl r z:=by
 rcases h with h|⟨vs,arr,rfl,rfl,hl,hR⟩
 ·exact .cl h
 ·exact .tuple hl fun i hi=>.cl (hR i hi)
structure nY (P:Program) (B0:Nat) (w0:World) (call:aW):Prop where
 inl:∀(G:aG) (k nl:Nat) (s:ae) (w:World) (f:FuncId) (args:List AV) (xs:Array Value) (res:AV) (s':ae),At P B0 w0 G k nl s w→s.loops.length=nl→xs.size=args.length→
  (∀i (hi:i<args.length),Rel G k nl args[i] (xs.getD i Go.undef))→call (.inl f) args s=some (res,s')→
  rA P f∧Calls P f xs w fun e w'=>∃z,e=.returned z∧nW P B0 w0 G k nl s s' w' res z
 nat:∀(I:gg) (s:ae) (w:World) (f:FuncId) (args:List AV) (xs:Array Value) (res:AV) (s':ae),xs.size=args.length→
  (∀i (hi:i<args.length),∀c,args[i].close=some c→bL I c (xs.getD i Go.undef))→call (.nat f) args s=some (res,s')→
  s'=s∧∃z,(callFunc f xs).run P w=.ok (.value z) w∧zW I res z
structure Fr (s s':ae):Prop where
 xZ:s'.ag.length=s.ag.length
 jT:s'.loops.length=s.loops.length
 ro:s'.ro=s.ro
 bg:s'.bg=s.bg
 ag:∀d,d<s.ro→s'.ag[d]? =s.ag[d]?
 loops:∀l,l<s.bg→s'.loops[l]? =s.loops[l]?
def ij (call:aW):Prop:=∀t args s x s',s.ro≤s.ag.length→s.bg≤s.loops.length→call t args s=some (x,s')→Fr s s'
theorem cz.of_eq {G:aG} {s s':ae} {w:World} (h:cz P B0 w0 G s w) (ha:s'.ag=s.ag) (hl:s'.loops=s.loops):cz P B0 w0 G s' w:=by
 obtain⟨h1,h2,h3,h4,h5,h6,h7,h8,h9,dm⟩:=h
 exact⟨h1,by rw[ha];exact h2,by rw[hl];exact h3,by rw[ha];exact h4,by rw[hl];exact h5,by rw[hl];exact h6,h7,h8,h9,dm⟩
inductive LN (G:aG) (nl:Nat):Target→(Array Value→Sem Next)→Prop
 |fn (f:FuncId):LN G nl (.fn f) (callFunc f)
 |yield {l r:Nat} (hl:l<nl) (h:G.loops[l]? =some r):LN G nl (.yield l) (Instr.yield r)
variable{G:aG} {k nl:Nat} {w:World} {s s':ae}
theorem aeL {call:aW} (bf:ij call) {ro:Bool} {t:Target} {args:List AV} {x:AV} (h:dK call ro s t args=some (x,s')):
  ∃s1 s2,s1.ag=s.ag∧s1.loops=s.loops∧call t args s1=some (x,s2)∧s'.ag=s2.ag∧s'.loops=s2.loops:=by
 unfold dK at h
 split at h
 ·obtain⟨p,hp,h⟩:=aS.1 h
  obtain⟨y,s2⟩:=p
  injection h with h1 h2
  subst h1 h2
  obtain⟨r1,r2,_,_,r3,r4⟩:=bf _ _ _ _ _ (aH _) (aH _) hp
  refine⟨{s with ro:=s.ag.length,bg:=s.loops.length},s2,rfl,rfl,hp,?_,?_⟩
  ·refine Lm r1.symm fun d h1 h2=>?_
   have:=r3 d h1
   simp only at this
   rw[cM h1,cM h2]at this
   injection this with this
   exact this.symm
  ·refine Lm r2.symm fun d h1 h2=>?_
   have:=r4 d h1
   simp only at this
   rw[cM h1,cM h2]at this
   injection this with this
   exact this.symm
 ·exact⟨s,s',rfl,rfl,h,rfl,rfl⟩
theorem nW.step {s1 s2:ae} {w':World} {x:AV} {z:Value} (h:At P B0 w0 G k nl s w) (e1:s1.ag=s.ag) (e2:s1.loops=s.loops) (e3:s'.ag=s2.ag) (e4:s'.loops=s2.loops)
  (hc:nW P B0 w0 G k nl s1 s2 w' x z):df P B0 w0 G k nl s s' w' x z:=by
 obtain⟨G',h1,h2,h3,h4,h5⟩:=hc
 rw[e2]at h4 h3
 rw[e1]at h2
 have hs:=h1.of_eq e3 e4
 exact⟨G',h.to hs (h4.less (by omega) h.sE) (by rw[e3,h2]),h4,by rw[e4,h3],h5⟩
def rD (P:Program) (B0:Nat) (w0:World) (G:aG) (k nl:Nat) (s:ae) (a:Act) (aO:St) (a':Act) (w':World):Prop:=
 ∃G',At P B0 w0 G' k nl aO.sig w'∧bB (k+1) s.loops.length G G'∧aO.sig.loops.length=s.loops.length∧eC G' k nl aO.tmps a'∧a'.tmps.size=a.tmps.size∧a'.defers=a.defers
theorem eC.put {ρ:Nat→AV} {a:Act} (h:eC G k nl ρ a) {dst:Option Nat} (hd:∀t,dst=some t→t<a.tmps.size) {x:AV} {v:Value} (hx:Rel G k nl x v):eC G k nl (kF ρ dst x) (a.put dst v):=by
 cases dst with
 |none=>exact h
 | some t =>
  intro u
  have ht:=hd t rfl
  simp only[kF,Act.put,Ax.put]
  by_cases hu:u=t
  ·subst hu
   rw[ak rfl]
   have:(a.tmps.setIfInBounds u v).getD u Go.undef=v:=by simp[Array.getD,ht]
   rw[this]
   exact hx
  ·rw[aq hu]
   have:(a.tmps.setIfInBounds t v).getD u Go.undef=a.tmps.getD u Go.undef:=by
    by_cases aC:u<a.tmps.size
    ·simp[Array.getD,aC,qn hu]
    ·simp[Array.getD,aC]
   rw[this]
   exact h u
theorem eC.mono {G':aG} {ρ:Nat→AV} {a:Act} (h:eC G k nl ρ a) (hle:bB k nl G G'):eC G' k nl ρ a:=fun t=>(h t).mono hle (aH _) (aH _)
theorem arh (a:Act) (dst:Option Nat) (v:Value):(a.put dst v).tmps.size=a.tmps.size:=by
 cases dst with
 |none=>rfl
 |some t=>simp[Act.put]
theorem put_defers (a:Act) (dst:Option Nat) (v:Value):(a.put dst v).defers=a.defers:=by
 cases dst<;>rfl
theorem df.post {a:Act} {ρ:Nat→AV} {dst:Option Nat} {w':World} {x:AV} {v:Value} (h:At P B0 w0 G k nl s w) (hR:eC G k nl ρ a) (hd:∀t,dst=some t→t<a.tmps.size) (hs:df P B0 w0 G k nl s s' w' x v):
  rD P B0 w0 G k nl s a ⟨kF ρ dst x,s'⟩ (a.put dst v) w':=by
 obtain⟨G',h1,h2,h3,h4⟩:=hs
 exact⟨G',h1,h2,h3,(hR.mono (h2.less (by omega) h.sE)).put hd h4,arh _ _ _,put_defers _ _ _⟩
theorem Rel.acW {x:AV} {b:Bool} (h:Rel G k nl x (.bool b)):x=.v (.bool b):=by
 cases h with
 |cl h=>cases h with|v h=>rfl
theorem atD {all : List Oper} {o : Oper} {g : Option (Nat × Bool)} {ρ : Nat → AV} {a : Act} (hg : AI all o.guard = some g) (hR : eC G k nl ρ a) : Region.wanted o (yielded all.toArray a.tmps) = kG ρ g := by
  unfold Region.wanted
  cases qa:o.guard with
  | none =>
    rw[qa]at hg
    simp only[AI,fL]at hg
    subst hg
    rfl
  | some p =>
    obtain⟨j,b⟩:=p
    rw[qa]at hg
    simp only[AI]at hg
    split at hg
    · rename_i t ht
      injection hg with hg
      subst hg
      simp only[kG,yielded]
      have e:(all.toArray[j]?).bind (·.dst)=some t:=by simpa using ht
      rw[e]
      simp only[eL]
      have hr:=hR t
      by_cases hb:∃c,a.tmps.getD t Go.undef=.bool c
      · obtain ⟨c, hc⟩ := hb
        rw[hc]at hr
        rw[hr.acW]
        have:a.tmps[t]? =some (.bool c):=by
          by_cases aC:t<a.tmps.size
          · have : a.tmps.getD t Go.undef = a.tmps[t] := by simp [Array.getD, aC]
            rw[this]at hc
            rw[abg aC,hc]
          · have : a.tmps.getD t Go.undef = Go.undef := by simp [Array.getD, aC]
            rw[this]at hc
            cases hc
        rw[this]
        simp[Cj]
      · have h1 : (match a.tmps[t]? with | some (.bool b) => some b | _ => none) = (none : Option Bool) := by
          split
          · rename_i b fO
            exact absurd ⟨b,by
              obtain⟨aC,Ou⟩:=tZ.1 fO
              simp[Array.getD,aC,Ou]⟩ hb
          · rfl
        have h2:Cj b (ρ t)=false:=by
          unfold Cj
          split
          · rename_i c hc
            rw[hc]at hr
            exact absurd ⟨c,hr.gu⟩ hb
          · rfl
        rw[h2]
        first
          |(rw[h1];rfl)
          | (split
             · rename_i c hc
               exact absurd ⟨c,by
                 obtain⟨aC,Ou⟩:=tZ.1 hc
                 simp[Array.getD,aC,Ou]⟩ hb
             · rfl)
    · cases hg
theorem aaC {call:aW} (dq:kX P B0 w0 call) (bf:ij call) {rd:Option Nat} {n:Nat} {ro:Bool} {t:Target} {tv:Array Value→Sem Next} {args:List AV} {xs:Array Value} {x:AV} (h:At P B0 w0 G k nl s w)
  (ht:LN G nl t tv) (hl:xs.size=args.length) (hR:∀i (hi:i<args.length),Rel G k nl args[i] (xs.getD i Go.undef)) (hc:dK call ro s t args=some (x,s'))
  {o:Oper} {a:Act} {K:Act→World→Prop} {Q:Exit→Act→World→Prop} (hK:∀z w',df P B0 w0 G k nl s s' w' x z→K (a.put o.dst z) w'):
  o.uponIn (iK rd) n P a K Q ((tv xs).run P w):=by
 obtain⟨s1,s2,e1,e2,hc,e3,e4⟩:=aeL bf hc
 have qS:cz P B0 w0 G s1 w:=h.rel.of_eq e1 e2
 have Bj:(iK rd).depth.isSome=true→1≤n:=by rw[Jn];intro h;cases h
 cases ht with
 |fn f=>
  obtain⟨hb,dz⟩:=dq.fn G k nl s1 w f args xs x s2 qS (by rw[e1,h.len];exact aH _) (by rw[e1,h.len];exact sY _) (by rw[e2];exact h.sE) hl hR hc
  rw[hb.run]
  simp only[Oper.uponIn_enter]
  refine⟨Bj,CallsIn.mono (Jm rd dz) fun e w' he=>?_⟩
  obtain⟨z,rfl,hz⟩:=he
  exact hK z w' (hz.step h e1 e2 e3 e4)
 | @yield l r qJ hr=>
  obtain⟨rc,kO,bP,J9⟩:=dq.yield G k nl s1 w l r args xs x s2 qS (by rw[e1,h.len];exact aH _) (by rw[e1,h.len];exact sY _) (by rw[e2];exact h.sE) qJ hr hl hR hc
  rw[run_yield kO bP]
  simp only[Oper.uponIn_round]
  refine⟨Bj,RoundIn.mono (af1 rd (J9 (n-1))) fun e w' he=>?_⟩
  obtain⟨z,rfl,hz⟩:=he
  exact hK z w' (hz.step h e1 e2 e3 e4)
theorem KH {f:Value} {fn:Fn} {first caps:Array Value} (hf:f=.func fn first caps) (args:Array Value) (w:World):(Deferred.ofValue f args).run P w=.ok {target:=.fn fn caps,args:=first++args} w:=by
 subst hf
 rfl
theorem A0 (xs ys:Array Value) (i:Nat):(xs++ys).getD i Go.undef=if i<xs.size then xs.getD i Go.undef else ys.getD (i-xs.size) Go.undef:=by
 by_cases h1:i<xs.size
 ·rw[ak h1]
  have:i<(xs++ys).size:=by simp;omega
  simp[Array.getD,h1,Array.getElem_append_left,this]
  omega
 ·rw[aq h1]
  by_cases h2:i-xs.size<ys.size
  ·have:i<(xs++ys).size:=by simp;omega
   have h3:i<xs.size+ys.size:=by omega
   simp[Array.getD,h2,h3,Array.getElem_append_right (LB h1)]
  ·have:¬i<xs.size+ys.size:=by omega
   simp[Array.getD,h2,this]
theorem I1 {call:aW} (dq:kX P B0 w0 call) (bf:ij call) {rd:Option Nat} {n:Nat} {ro:Bool} {f:AV} {fv:Value} {args:List AV} {xs:Array Value} {x:AV} (h:At P B0 w0 G k nl s w)
  (hf:Rel G k nl f fv) (hl:xs.size=args.length) (hR:∀i (hi:i<args.length),Rel G k nl args[i] (xs.getD i Go.undef)) (hc:lV call ro s f args=some (x,s'))
  {o:Oper} {a:Act} {K:Act→World→Prop} {Q:Exit→Act→World→Prop} (hK:∀z w',df P B0 w0 G k nl s s' w' x z→K (a.put o.dst z) w'):
  o.uponIn (iK rd) n P a K Q ((do let d←Deferred.ofValue fv xs;invoke d.target d.args:Sem Next).run P w):=by
 unfold lV at hc
 split at hc
 ·rename_i g first caps
  obtain⟨a1,a2,rfl,l1,l2,r1,r2⟩:=hf.BG
  have db:(do let d←Deferred.ofValue (.func (.func g) a1 a2) xs;invoke d.target d.args:Sem Next).run P w=(callFunc g (a1++xs++a2)).run P w:=by
   simp only[Sem.run_bind,KH (P:=P) rfl,Result.andThen_ok]
   rfl
  rw[db]
  refine aaC dq bf h (.fn g) (by simp[l1,l2,hl]) (fun i hi=>?_) hc hK
  rw[A0,A0]
  simp only[ck]at hi
  by_cases h1:i<first.length
  ·rw[ak (by simp;omega),ak (by omega)]
   have e:(first++args++caps)[i]=first[i]:=by
    rw[ug (by simp;omega),ug h1]
   rw[e]
   exact .cl (r1 i h1)
  ·by_cases h2:i<first.length+args.length
   ·rw[ak (by simp;omega),aq (by omega)]
    have e:(first++args++caps)[i]=args[i-first.length]'(by omega):=by
     rw[ug (by simp;omega),uh (by omega)]
    rw[e,l1]
    exact hR _ _
   ·rw[aq (by simp;omega)]
    have e:(first++args++caps)[i]=caps[i-(first.length+args.length)]'(by omega):=by
     rw[uh (by simp;omega)]
     simp
    rw[e]
    have:(a1++xs).size=first.length+args.length:=by simp[l1,hl]
    rw[this]
    exact r2 _ _
 ·rename_i l
  obtain⟨r,rfl,qJ,hr⟩:=hf.PO
  have db : (do let d ← Deferred.ofValue (.func (.yield r) #[] #[]) xs; invoke d.target d.args : Sem Next).run P w = (Instr.yield r xs).run P w := by
   simp only[Sem.run_bind,KH (P:=P) rfl,Result.andThen_ok]
   simp[invoke]
  rw[db]
  exact aaC dq bf h (.yield qJ hr) hl hR hc hK
 ·cases hc
theorem adE {call:aW} (eZ:nY P B0 w0 call) {rd:Option Nat} {n:Nat} {f:FuncId} {args:List AV} {xs:Array Value} {x:AV} (h:At P B0 w0 G k nl s w) (aQ:s.loops.length=nl)
  (hl:xs.size=args.length) (hR:∀i (hi:i<args.length),Rel G k nl args[i] (xs.getD i Go.undef)) (hc:dK call false s (.inl f) args=some (x,s'))
  {o:Oper} {a:Act} {K:Act→World→Prop} {Q:Exit→Act→World→Prop} (hK:∀z w',df P B0 w0 G k nl s s' w' x z→K (a.put o.dst z) w'):
  o.uponIn (iK rd) n P a K Q ((callFunc f xs).run P w):=by
 have Bj:(iK rd).depth.isSome=true→1≤n:=by rw[Jn];intro h;cases h
 simp only[dK,eB,dt]at hc
 obtain⟨hb,dz⟩:=eZ.inl G k nl s w f args xs x s' h aQ hl hR hc
 rw[hb.run]
 simp only[Oper.uponIn_enter]
 refine⟨Bj,CallsIn.mono (Jm rd dz) fun e w' he=>?_⟩
 obtain⟨z,rfl,hz⟩:=he
 exact hK z w' (hz.step h rfl rfl rfl rfl)
theorem adF {call:aW} (eZ:nY P B0 w0 call) {rd:Option Nat} {n:Nat} {f:FuncId} {args:List AV} {xs:Array Value} {x:AV} (h:At P B0 w0 G k nl s w)
  (hl:xs.size=args.length) (hR:∀i (hi:i<args.length),Rel G k nl args[i] (xs.getD i Go.undef)) (hc:dK call true s (.nat f) args=some (x,s'))
  {o:Oper} {a:Act} {K:Act→World→Prop} {Q:Exit→Act→World→Prop} (hK:∀z w',df P B0 w0 G k nl s s' w' x z→K (a.put o.dst z) w'):
  o.uponIn (iK rd) n P a K Q ((callFunc f xs).run P w):=by
 simp only[dK,bZ]at hc
 obtain⟨⟨y,s2⟩,pd,e⟩:=aS.1 hc
 injection e with e1 e2
 simp only at e1
 subst e1 e2
 obtain⟨_,z,hz,hr⟩:=eZ.nat G.I _ w f args xs y s2 hl (fun i hi c hc=>(hR i hi).close hc) pd
 rw[hz,Oper.uponIn_value]
 exact hK z w (.same h hr.rel)
structure abi (s s2:ae) (k:Nat):Prop where
 loops:s2.loops=s.loops
 avR:s2.ag.length=k+2
 pop:s2.pop.ag=s.ag
 cur:s2.cur=k+1
 jW:∀q:ae,q.ag=s2.ag→q.jW k=s.jW k
 bN:∀q:ae,q.ag=s2.ag→q.bN k=s.bN k
theorem behind {call:aW} (bf:ij call) {f:FuncId} {args:List AV} {y:AV} {s2:ae} (h:At P B0 w0 G k nl s w)
  (aP:call (.fn f) args {s.push ⟨[],[]⟩with ro:=s.ag.length,bg:=s.loops.length}=some (y,s2)):abi s s2 k:=by
 have hlen:=h.len
 have oZ:({s.push ⟨[],[]⟩with ro:=s.ag.length,bg:=s.loops.length}:ae).ag.length=k+2:=by simp[ae.push,hlen]
 obtain⟨f1,f2,_,_,f3,f4⟩:=bf _ _ _ _ _ (by rw[oZ,hlen];exact sY _) (aH _) aP
 simp only at f1 f2 f3 f4
 have qK:s2.loops=s.loops:=by
  refine Lm f2 fun d h1 h2=>?_
  have:=f4 d h2
  rw[cM h1]at this
  have h3:(s.push ⟨[],[]⟩).loops[d]? =some s.loops[d]:=cM h2
  rw[h3]at this
  injection this
 have ox:s2.ag.length=k+2:=by rw[f1];simp[ae.push,hlen]
 have tF:s2.pop.ag=s.ag:=by
  refine pK fun d=>?_
  simp only[ae.pop,wF ox]
  by_cases hd:d<k+1
  ·rw[ak hd,f3 d (by rw[hlen];exact hd)]
   simp only[ae.push]
   rw[dB (by rw[hlen];exact hd)]
  ·rw[aq hd,nZ (by rw[hlen];omega)]
 have hk:s2.ag[k]? =s.ag[k]? :=by
  rw[f3 k (by rw[hlen];exact LC k)]
  simp only[ae.push]
  rw[dB (by rw[hlen];exact LC k)]
 exact⟨qK,ox,tF,by simp[ae.cur,ox],fun q hq=>by simp only[ae.jW,hq,hk],fun q hq=>by simp only[ae.bN,hq,hk]⟩
theorem Um {call:aW} (dq:kX P B0 w0 call) (bf:ij call) {rd:Option Nat} {n:Nat} {f:FuncId} {args:List AV} {xs:Array Value} {x y:AV} {s2:ae} (h:At P B0 w0 G k nl s w)
  (hl:xs.size=args.length) (hR:∀i (hi:i<args.length),Rel G k nl args[i] (xs.getD i Go.undef))
  (aP:call (.fn f) args {s.push ⟨[],[]⟩with ro:=s.ag.length,bg:=s.loops.length}=some (y,s2))
  (ho:∃s3,kD {s2 with ro:=s.ro,bg:=s.bg} y=some (x,s3)∧s3.ag=s'.ag∧s3.loops=s'.loops)
  {o:Oper} {a:Act} {K:Act→World→Prop} {Q:Exit→Act→World→Prop} (hK:∀z w',df P B0 w0 G k nl s s' w' x z→K (a.put o.dst z) w'):
  o.uponIn (iK rd) n P a K Q ((callFunc f xs).run P w):=by
 have Bj:(iK rd).depth.isSome=true→1≤n:=by rw[Jn];intro h;cases h
 have hp:=Qz h.rel
 have hlen:=h.len
 have ajC:=G.KS s.loops.length
 have qS:cz P B0 w0 (G.kE s.loops.length) {s.push ⟨[],[]⟩with ro:=s.ag.length,bg:=s.loops.length} w:=hp.rel.of_eq rfl rfl
 have oZ:({s.push ⟨[],[]⟩with ro:=s.ag.length,bg:=s.loops.length}:ae).ag.length=k+2:=by simp[ae.push,hlen]
 obtain⟨hb,dz⟩:=dq.fn (G.kE s.loops.length) (k+1) s.loops.length _ w f args xs y s2 qS (by rw[oZ];exact aH _) (by rw[oZ];exact sY _) (aH _) hl
  (fun i hi=>(hR i hi).mono (ajC _ _) (sY _) h.sE) aP
 obtain⟨qK,ox,tF,gD,_,_⟩:=behind bf h aP
 obtain⟨s3,ho,uS,OT⟩:=ho
 rw[hb.run]
 simp only[Oper.uponIn_enter]
 refine⟨Bj,CallsIn.mono (Jm rd dz) fun e w' he=>?_⟩
 obtain⟨z,rfl,G',Ps,q1,q2,hle,hz⟩:=he
 refine hK z w' ?_
 have sc:(G.kE s.loops.length).ag[k+1]? =some ⟨[],[],s.loops.length,[],fun _=>none⟩:=by
  have:G.ag.length=k+1:=by rw[h.rel.len,hlen]
  simp[aG.kE,this]
 obtain⟨bI,bz,et,_⟩:=hle.ag (k+1) _ (sY _) sc
 have hAt:At P B0 w0 G' (k+1) s.loops.length {s2 with ro:=s.ro,bg:=s.bg} w':=⟨Ps.of_eq rfl rfl,ox,bI,bz,et.nl⟩
 obtain⟨G2,b1,b2,b3,b4,b5,b6,b7⟩:=Za hAt (by show s2.loops.length=_;rw[qK]) (kc:=k) (nlc:=nl) (aH _) hz ho
 have Wh:bB (k+1) s.loops.length G G2:=by
  refine⟨fun b i v e=>b4 b i v (hle.I b i v e),fun d gr hd e=>?_,fun l r hl e=>b6 l r (hle.loops l r hl e)⟩
  have tC:d<k+1:=by
   have:=(aY.1 e).1
   rw[h.rel.len,hlen]at this;exact this
  have e':(G.kE s.loops.length).ag[d]? =some gr:=mO e
  obtain⟨g1,c1,c2,c3⟩:=hle.ag d gr (by omega) e'
  obtain⟨g2,c4,c5,c6⟩:=b5 d g1 (by omega) c1
  exact⟨g2,c4,c2.trans c5,fun _=>c6.trans (c3 (by omega))⟩
 have mU:cz P B0 w0 G2 s' w':=b1.of_eq uS.symm OT.symm
 exact⟨G2,h.to mU (Wh.less (sY _) h.sE) (by rw[←uS,b2,hlen]),Wh,by rw[←OT,b3];exact iy List.length qK,b7⟩
theorem adI {call:aW} (dq:kX P B0 w0 call) (bf:ij call) {rd:Option Nat} {n:Nat} {f:FuncId} {args:List AV} {xs:Array Value} {x:AV} (h:At P B0 w0 G k nl s w)
  (hl:xs.size=args.length) (hR:∀i (hi:i<args.length),Rel G k nl args[i] (xs.getD i Go.undef)) (hc:kL call s f args=some (x,s'))
  {o:Oper} {a:Act} {K:Act→World→Prop} {Q:Exit→Act→World→Prop} (hK:∀z w',df P B0 w0 G k nl s s' w' x z→K (a.put o.dst z) w'):
  o.uponIn (iK rd) n P a K Q ((callFunc f xs).run P w):=by
 have hlen:=h.len
 obtain⟨y,s2,aP⟩:∃y s2,call (.fn f) args {s.push ⟨[],[]⟩with ro:=s.ag.length,bg:=s.loops.length}=some (y,s2):=by
  unfold kL at hc
  split at hc
  ·exact⟨_,_,by assumption⟩
  ·cases hc
  ·exact⟨_,_,by assumption⟩
  ·cases hc
 obtain⟨qK,ox,tF,gD,sh,_⟩:=behind bf h aP
 have Gf:s.cur=k:=h.gS
 refine Um dq bf h hl hR aP ?_ hK
 unfold kL at hc
 rw[aP]at hc
 split at hc
 ·rename_i d g es ys s4 e
  injection e with e
  injection e with e1 e2
  subst e1 e2
  have dY:({s2 with ro:=s.ro,bg:=s.bg}:ae).cur=k+1:=gD
  split at hc
  ·rename_i bn
   obtain⟨c1,c2,c3,c4⟩:=bn
   injection hc with hc
   injection hc with r7 mT
   rw[hlen]at c1 c3
   subst c1
   refine⟨({s2 with ro:=s.ro,bg:=s.bg}:ae).pop.lg k ys.length,?_,?_,?_⟩
   ·simp only[kD]
    rw[ak ⟨dY.symm,by omega,c3,c4⟩,←r7,Gf]
    have:=sh {s2 with ro:=s.ro,bg:=s.bg} rfl
    simp only[Hy,this]
   ·rw[←mT,Gf]
    have:({s2 with ro:=s.ro,bg:=s.bg}:ae).pop.ag=s.ag:=tF
    simp only[ae.lg,ae.br,this]
   ·rw[←mT];exact qK
  ·rename_i bn
   injection hc with hc
   injection hc with r7 mT
   refine⟨({s2 with ro:=s.ro,bg:=s.bg}:ae).pop,?_,?_,?_⟩
   ·simp only[kD]
    rw[aq (fun q=>bn ⟨by rw[hlen,←dY];exact q.1,by rw[hlen];omega,by rw[hlen,←dY,←q.1];exact q.2.2.1,q.2.2.2⟩),r7]
   ·rw[←mT];exact tF
   ·rw[←mT];exact qK
 ·cases hc
 ·rename_i y' s4 fF O8 e
  injection e with e
  injection e with e1 e2
  subst e1 e2
  obtain⟨v,hv,hc⟩:=aS.1 hc
  injection hc with r7 mT
  subst r7
  refine⟨({s2 with ro:=s.ro,bg:=s.bg}:ae).pop,?_,?_,?_⟩
  ·have cT:ed {s2 with ro:=s.ro,bg:=s.bg} y=ed s2 y:=Yf
   unfold kD
   split
   ·rename_i d g es ys
    exact absurd rfl (fF d g es ys)
   ·exact absurd rfl (O8 _ _ _ _ _ _)
   ·rw[cT,hv];rfl
  ·rw[←mT];exact tF
  ·rw[←mT];exact qK
 ·rename_i e;cases e
theorem adD {call:aW} (dq:kX P B0 w0 call) (bf:ij call) {rd:Option Nat} {n:Nat} {f:FuncId} {args:List AV} {xs:Array Value} {x:AV} (h:At P B0 w0 G k nl s w)
  (hl:xs.size=args.length) (hR:∀i (hi:i<args.length),Rel G k nl args[i] (xs.getD i Go.undef)) (hc:lU call s f args=some (x,s'))
  {o:Oper} {a:Act} {K:Act→World→Prop} {Q:Exit→Act→World→Prop} (hK:∀z w',df P B0 w0 G k nl s s' w' x z→K (a.put o.dst z) w'):
  o.uponIn (iK rd) n P a K Q ((callFunc f xs).run P w):=by
 have hlen:=h.len
 obtain⟨y,s2,aP⟩:∃y s2,call (.fn f) args {s.push ⟨[],[]⟩with ro:=s.ag.length,bg:=s.loops.length}=some (y,s2):=by
  unfold lU at hc
  split at hc
  ·exact⟨_,_,by assumption⟩
  ·cases hc
  ·exact⟨_,_,by assumption⟩
  ·cases hc
 obtain⟨qK,ox,tF,gD,_,oA⟩:=behind bf h aP
 have Gf:s.cur=k:=h.gS
 refine Um dq bf h hl hR aP ?_ hK
 have cT:ed {s2 with ro:=s.ro,bg:=s.bg} y=ed s2 y:=Yf
 unfold lU at hc
 rw[aP]at hc
 split at hc
 ·rename_i d b off es n cap s4 e
  injection e with e
  injection e with e1 e2
  subst e1 e2
  have dY:({s2 with ro:=s.ro,bg:=s.bg}:ae).cur=k+1:=gD
  split at hc
  ·rename_i bn
   obtain⟨c1,c2,c3,rfl,rfl,c6⟩:=bn
   obtain⟨cs,dp,hc⟩:=da.1 hc
   split at hc
   case isFalse=>cases hc
   rename_i dz
   obtain⟨cs',eM,hc⟩:=aS.1 hc
   injection hc with r7 mT
   rw[hlen]at c1 c3
   subst c1
   refine⟨({s2 with ro:=s.ro,bg:=s.bg}:ae).pop.js k cs',?_,?_,?_⟩
   ·simp only[kD]
    rw[ak ⟨dY.symm,by omega,c3,trivial,trivial,c6⟩]
    have ail:({s2 with ro:=s.ro,bg:=s.bg}:ae).box (k+1) b=some cs:=dp
    rw[ail,eL,ak dz,eM,←r7,Gf]
    have:=oA {s2 with ro:=s.ro,bg:=s.bg} rfl
    simp only[Hy,this,dP]
   ·rw[←mT]
    have:({s2 with ro:=s.ro,bg:=s.bg}:ae).pop.ag=s.ag:=tF
    simp only[ae.dF,Gf,ae.js,ae.br,this]
   ·rw[←mT];exact qK
  ·rename_i bn
   obtain⟨v,hv,hc⟩:=aS.1 hc
   injection hc with r7 mT
   subst r7
   refine⟨({s2 with ro:=s.ro,bg:=s.bg}:ae).pop,?_,?_,?_⟩
   ·simp only[kD]
    rw[aq (fun q=>bn ⟨by rw[hlen,←dY];exact q.1,by rw[hlen];omega,by rw[hlen,←dY,←q.1];exact q.2.2.1,q.2.2.2⟩),cT,hv]
    rfl
   ·rw[←mT];exact tF
   ·rw[←mT];exact qK
 ·cases hc
 ·rename_i y' s4 O8 fF e
  injection e with e
  injection e with e1 e2
  subst e1 e2
  obtain⟨v,hv,hc⟩:=aS.1 hc
  injection hc with r7 mT
  subst r7
  refine⟨({s2 with ro:=s.ro,bg:=s.bg}:ae).pop,?_,?_,?_⟩
  ·unfold kD
   split
   ·rename_i d g es ys
    exact absurd rfl (fF d g es ys)
   ·exact absurd rfl (O8 _ _ _ _ _ _)
   ·rw[cT,hv];rfl
  ·rw[←mT];exact tF
  ·rw[←mT];exact qK
 ·rename_i e;cases e
theorem Un {call:aW} {m m':ae} {t:Target} {args:List AV} {ws:List (Bool×Nat×AV)} {v:AV} (h:oP call m t args ws=some (v,m')):dK call false m t args=some (v,m'):=by
 unfold oP at h
 split at h
 ·rename_i v' m2 e
  split at h
  ·injection h with h
   simp only[dK,eB,dt]
   rw[e,h]
  ·cases h
 ·cases h
theorem NV {call:aW} {ro:Bool} {m m':ae} {zs:List (List AV)} {t:Target} {args:List AV} {v:AV} (h:nw call ro m zs t args=some (v,m')):dK call ro m t args=some (v,m'):=by
 unfold nw at h
 split at h
 ·rename_i v' m2 e
  split at h
  ·injection h with h
   rw[e,h]
  ·cases h
 ·cases h
theorem aes {ro own:Bool} {mu:Mu} {fr:Option (List (List AV))} {c:Call} {jL:cj} (h:AH P ro own mu fr c=some jL) (hn:jB jL=true):∃as f,fH dw c.args.toList=some as∧c.callee=.value f∧
  ((∃g,f=.func g∧(jL=.call ro g as∨jL=.rM g as∨(∃zs,jL=.rQ ro zs g as)∨jL=.wv g as∨jL=.wx g as∨jL=.td g as∨jL=.qt g as mu.ws))∨∃y,dw f=some y∧jL=.ko ro y as):=by
 unfold AH at h
 split at h
 ·cases h
 rename_i as has
 split at h
 ·rename_i g hg
  injection h with h
  refine⟨as,_,has,hg,.inl ⟨g,rfl,?_⟩⟩
  split at h
  ·exact .inr (.inr (.inr (.inr (.inl h.symm))))
  split at h
  ·exact .inr (.inr (.inr (.inl h.symm)))
  split at h
  ·exact .inr (.inr (.inr (.inr (.inr (.inl h.symm)))))
  split at h
  ·exact .inr (.inr (.inr (.inr (.inr (.inr h.symm)))))
  split at h
  ·exact .inr (.inl h.symm)
  ·split at h
   ·exact .inr (.inr (.inl ⟨_,h.symm⟩))
   ·exact .inl h.symm
 ·rename_i f hf Oz
  obtain⟨y,hy,rfl⟩:=aS.1 h
  exact⟨as,_,has,Oz,.inr ⟨y,hy,rfl⟩⟩
 ·cases h
 ·split at h
  ·split at h
   ·split at h
    ·split at h
     ·injection h with h
      subst h
      exfalso
      revert hn
      repeat' split
      all_goals simp[jB]
     ·cases h
    ·cases h
   ·cases h
  ·split at h<;>first|(cases h;done)|(injection h with h;subst h;simp[jB]at hn)
  ·split at h
   ·split at h<;>first|(cases h;done)|(injection h with h;subst h;simp[jB]at hn)
   ·cases h
  ·split at h
   ·split at h
    ·split at h<;>first|(cases h;done)|(injection h with h;subst h;simp[jB]at hn)
    ·cases h
   ·cases h
  ·injection h with h;subst h;simp[jB]at hn
  ·injection h with h;subst h;simp[jB]at hn
  ·cases h
theorem aet {md:Md} {op:Op} {jL:cj} (h:gR P md op=some jL) (hn:jB jL=true):∃c,op=.call c∧AH P md.ro md.own md.mu md.fr c=some jL:=by
  cases op with
  |call c=>exact⟨c,rfl,h⟩
  |move x=>obtain⟨y,_,rfl⟩:=aS.1 h;simp[jB]at hn
  |assign x=>obtain⟨y,_,rfl⟩:=aS.1 h;simp[jB]at hn
  | alloc x =>
    simp only[gR]at h
    split at h<;>(obtain⟨y,_,rfl⟩:=aS.1 h;simp[jB]at hn)
  |nilCheck x=>obtain⟨y,_,rfl⟩:=aS.1 h;simp[jB]at hn
  |unOp _ _ x=>obtain⟨y,_,rfl⟩:=aS.1 h;simp[jB]at hn
  |extract x _=>obtain⟨y,_,rfl⟩:=aS.1 h;simp[jB]at hn
  | binOp op t x y yt =>
    obtain⟨_,_,_,_,hq⟩:=UH h
    rcases hq with rfl|⟨_,_,_,_,_,_,_,rfl⟩<;>simp[jB]at hn
  | convert src dst x =>
    simp only[gR]at h
    obtain⟨y,_,h⟩:=da.1 h
    unfold Fe at h
    repeat' split at h
    all_goals first|(cases h;done)|(injection h with h;subst h;simp[jB]at hn)
  | makeFunc fn a b =>
    cases fn<;>simp only[gR]at h<;>first|(cases h;done)|skip
    split at h
    · injection h with h;subst h;simp[jB]at hn
    · cases h
  | _ =>
    simp only[gR]at h
    first
      |(cases h;done)
      | (repeat' split at h
         all_goals first
          |(cases h;done)
          |(injection h with h;subst h;simp[jB]at hn;done)
          |(obtain⟨_,_,rfl⟩:=aS.1 h;simp[jB]at hn))
noncomputable def rn (call:aW) (o:bA) (st:St):Option St:=
 if kG st.tmps o.guard then
  match aM call (aE st.tmps) st.sig o.op with
  |some (x,m)=>some ⟨kF st.tmps o.dst x,m⟩
  |none=>none
 else some ⟨kF st.tmps o.dst AV.undef,st.sig⟩
theorem Qm (call:aW) (o:bA) (r:List bA) (st:St):ops call (o::r) st=(rn call o st).bind (ops call r):=by
 simp only[ops,rn]
 split
 ·split
  ·rename_i h
   simp[h]
  ·rename_i h
   simp[h]
 ·rfl
theorem YS {call:aW} (dq:kX P B0 w0 call) (eZ:nY P B0 w0 call) (bf:ij call) {rd:Option Nat} {n:Nat} {md:Md} {all:List Oper} {o:Oper} {ao:bA} {st aO:St} {a:Act} (h:At P B0 w0 G k nl st.sig w) (aQ:st.sig.loops.length=nl) (hR:eC G k nl st.tmps a)
  (hg:AI all o.guard=some ao.guard) (cp:gR P md o.op=some ao.op) (JN:ao.dst=o.dst) (hd:∀t,ao.dst=some t→t<a.tmps.size) (hs:rn call ao st=some aO)
  {K:Act→World→Prop} {Q:Exit→Act→World→Prop} (hK:∀a' w',rD P B0 w0 G k nl st.sig a aO a' w'→K a' w'):
  if Region.wanted o (yielded all.toArray a.tmps)then o.wpIn (iK rd) n P a w K Q else(∀f,o.about P w a.eval=some f→(iK rd).fn f)∧K (a.put o.dst Go.undef) w:=by
 rw[atD hg hR]
 unfold rn at hs
 cases hw:kG st.tmps ao.guard with
 |false=>
  rw[hw]at hs
  simp only[eB,dt,fL]at hs⊢
  subst hs
  refine⟨fun f _=>NW rd f,hK _ _ ?_⟩
  rw[←JN]
  exact(df.same h .undef).post h hR hd
 | true =>
  rw[hw]at hs
  simp only[bZ]at hs⊢
  split at hs
  case h_2=>cases hs
  rename_i x m hv
  injection hs with hs
  subst hs
  refine⟨fun f _=>NW rd f,?_⟩
  cases aP:jB ao.op with
  | false =>
   have y3:∀c,o.op≠.defer c:=fun c e=>by rw[e]at cp;simp[gR]at cp
   rw[Oper.semAt_eq _ _ _ y3]
   obtain⟨w',hq⟩:=aqh h hR cp aP hv
   rcases hq with⟨z,h1,h2⟩|⟨h1,h2⟩
   ·rw[h1,Oper.uponIn_value]
    refine hK _ _ ?_
    rw[←JN]
    exact h2.post h hR hd
   ·rw[h1,Oper.uponIn_skip]
    refine hK _ _ ?_
    rw[←JN]
    exact h2.post h hR hd
  | true =>
   obtain⟨c,hc,eM⟩:=aet cp aP
   obtain⟨as,f,has,Oz,hq⟩:=aes eM aP
   have pZ:=SK has hR
   have ajU:o.semAt (iK rd).round a.eval=(do let d←Deferred.ofValue (a.eval f) (c.args.map a.eval);invoke d.target d.args):=by
    rw[Oper.semAt_eq _ _ _ (fun c' e=>by rw[hc]at e;cases e)]
    unfold execOp
    rw[hc]
    simp only[resolve,Oz]
   rw[ajU]
   have wM:∀z w',df P B0 w0 G k nl st.sig m w' x z→K (a.put o.dst z) w':=fun z w' bX=>by
    refine hK _ _ ?_
    rw[←JN]
    exact bX.post h hR hd
   have nD:(c.args.map a.eval).size=(as.map (aE st.tmps)).length∧∀i (hi:i<(as.map (aE st.tmps)).length),Rel G k nl (as.map (aE st.tmps))[i] ((c.args.map a.eval).getD i Go.undef):=by
    simpa using pZ
   have Kb:∀g,(do let d←Deferred.ofValue (a.eval (.func g)) (c.args.map a.eval);invoke d.target d.args:Sem Next).run P w=(callFunc g (c.args.map a.eval)).run P w:=fun g=>by
    have e1 : a.eval (.func g) = .func (.func g) #[] #[] := rfl
    rw[e1]
    simp only[Sem.run_bind,KH (P:=P) rfl,Result.andThen_ok]
    simp[invoke]
   rcases hq with⟨g,rfl,e|e|⟨zs,e⟩|e|e|e|e⟩|⟨y,hy,e⟩
   ·rw[e]at hv
    simp only[aM]at hv
    have nO:lV call md.ro st.sig (.fn g [] []) (as.map (aE st.tmps))=some (x,m):=by
     simpa[lV]using hv
    exact I1 dq bf h (.cl (.fn rfl rfl (fun i hi=>absurd hi (dk _)) (fun i hi=>absurd hi (dk _)))) nD.1 nD.2 nO wM
   ·rw[e]at hv
    simp only[aM]at hv
    rw[Kb]
    exact adI dq bf h nD.1 nD.2 hv wM
   ·rw[e]at hv
    simp only[aM]at hv
    have nO:lV call md.ro st.sig (.fn g [] []) (as.map (aE st.tmps))=some (x,m):=by
     simpa[lV]using NV hv
    exact I1 dq bf h (.cl (.fn rfl rfl (fun i hi=>absurd hi (dk _)) (fun i hi=>absurd hi (dk _)))) nD.1 nD.2 nO wM
   ·rw[e]at hv
    simp only[aM]at hv
    rw[Kb]
    exact adE eZ h aQ nD.1 nD.2 hv wM
   ·rw[e]at hv
    simp only[aM]at hv
    rw[Kb]
    exact adF eZ h nD.1 nD.2 hv wM
   ·rw[e]at hv
    simp only[aM]at hv
    rw[Kb]
    exact adD dq bf h nD.1 nD.2 hv wM
   ·rw[e]at hv
    simp only[aM]at hv
    have nO:lV call false st.sig (.fn g [] []) (as.map (aE st.tmps))=some (x,m):=by
     simpa[lV]using Un hv
    exact I1 dq bf h (.cl (.fn rfl rfl (fun i hi=>absurd hi (dk _)) (fun i hi=>absurd hi (dk _)))) nD.1 nD.2 nO wM
   ·rw[e]at hv
    exact I1 dq bf h (dc hy hR) nD.1 nD.2 hv wM
end
end Go.Ax
