/-
  Elements, fields, built values and conversions.
-/
import Derived.Test.YtjgbdhjcpcmajaaGreatDoorT2
import Derived.Laws.IdiomStrings
import Derived.Laws.MakeOwn
import Derived.RangeFuncOwn
set_option linter.unusedSimpArgs false
set_option linter.unusedVariables false
set_option maxRecDepth 100000
namespace Go.Ax
open Go.RowKit
section
variable{P:Program} {B0:Nat} {w0:World} {G:aG} {k nl:Nat} {w:World} {s:ae}
theorem Bz {x:AV} {y:Value} {n j:Nat} (hx:Rel G k nl x y) (h:idx x n=some j):∃kd z,y=.int kd z∧0≤z∧z<n∧z.toNat=j:=by
 unfold idx at h
 split at h
 ·obtain rfl:=hx.gj
  split at h
  ·rename_i hc
   injection h with h
   exact⟨_,_,rfl,hc.1,hc.2,h⟩
  ·cases h
 ·cases h
theorem akJ {t e:TypeId} {es:Nat} {a i v:AV} {x y:Value} (ht:P.underlying t=some (.slice e)) (hs:cK P e=some es) (hx:Rel G k nl a x) (hy:Rel G k nl i y)
  (h:kG none es a i=some v):∃z,(Instr.indexAt t x y).run P w=.ok z w∧Rel G k nl v z:=by
 unfold kG at h
 split at h<;>try contradiction
 ·rename_i o e1 xs _
  split at h
  case isFalse=>cases h
  rename_i he
  subst he
  obtain⟨j,hj,h⟩:=cX.1 h
  obtain⟨r,hr,rfl⟩:=aU.1 h
  obtain⟨kd,z,rfl,z0,z1,rfl⟩:=Bz hy hj
  obtain⟨gR,hr⟩:=bd.1 hr
  rcases hx.iF with⟨_,rfl,_⟩|⟨_,p,cap,rfl,qP,fp,lZ,_⟩
  ·simp at gR
  ·refine⟨.pointer (some (p.add (z.toNat*e1))),?_,?_⟩
   ·simp[Instr.indexAt,run_underlying ht,asIntOf,z0,z1,jt hs]
   ·cases lZ with
    |empty=>exact absurd gR (da _)
    | @slice _ _ _ blk off _ f ho hc dQ br hI hR=>
     rw[gY]
     subst hr
     refine .cl (.bq (off:=0) (o0:=off+z.toNat*e1) (fun q=>f z.toNat q) (fun c hc=>br _ (gu gR) c hc) (fun q hq=>hI _ gR q hq) (fun q hq=>hR _ gR q hq))
 ·rename_i d b off e1 n cap _
  split at h
  case isFalse=>cases h
  rename_i he
  subst he
  obtain⟨j,hj,rfl⟩:=aU.1 h
  obtain⟨kd,z,rfl,z0,z1,rfl⟩:=Bz hy hj
  obtain⟨blk,gr,rc,o0,rfl,hd,hg,cw,hn,_,_,ho⟩:=hx.l3
  have ho:=ho (.inl (by omega))
  subst ho
  refine⟨.pointer (some ⟨blk,o0+z.toNat*e1,none⟩),?_,.ptr gr hd hg cw⟩
  simp[Instr.indexAt,run_underlying ht,asIntOf,z0,z1,jt hs,gY]
theorem akH {t e:TypeId} {N es:Nat} {a i v:AV} {x y:Value} (ht:P.underlying t=some (.array N e)) (hs:cK P e=some es) (hx:Rel G k nl a x) (hy:Rel G k nl i y)
  (h:kG (some N) es a i=some v):∃z,(Instr.indexAt t x y).run P w=.ok z w∧Rel G k nl v z:=by
 unfold kG at h
 split at h<;>try contradiction
 ·rename_i n0 d b off hk
  injection hk with hk
  subst hk
  obtain⟨j,hj,rfl⟩:=aU.1 h
  obtain⟨kd,z,rfl,z0,z1,rfl⟩:=Bz hy hj
  obtain⟨blk,gr,rfl,hd,hg,cw⟩:=hx.sC
  refine⟨.pointer (some ⟨blk,off+z.toNat*es,none⟩),?_,.ptr gr hd hg cw⟩
  simp[Instr.indexAt,run_underlying ht,asIntOf,z0,z1,jt hs,gY,Instr.sureAddr]
 ·rename_i n0 cs off hk
  injection hk with hk
  subst hk
  obtain⟨j,hj,rfl⟩:=aU.1 h
  obtain⟨kd,z,rfl,z0,z1,rfl⟩:=Bz hy hj
  obtain⟨blk,o0,f,rfl,br,hI,hR⟩:=hx.zp
  refine⟨.pointer (some ⟨blk,o0+(off+z.toNat*es),none⟩),?_,.cl (.bq f br hI hR)⟩
  simp[Instr.indexAt,run_underlying ht,asIntOf,z0,z1,jt hs,gY,Instr.sureAddr,vP]
theorem af7 {t:TypeId} {fs:Array Field} {f:Field} {i n:Nat} {a v:AV} {x:Value} (ht:P.underlying t=some (.struct fs)) (hf:fs[i]? =some f) (hn:cK P f.type=some n) (h0:0<n)
  (hx:Rel G k nl a x) (h:BU f.offset a=some v):∃z,(Instr.fieldAt t x i).run P w=.ok z w∧Rel G k nl v z:=by
 have aB:n≠0:=by omega
 unfold BU at h
 split at h<;>try contradiction
 ·rename_i d b off
  injection h with h
  subst h
  obtain⟨blk,gr,rfl,hd,hg,cw⟩:=hx.sC
  refine⟨_,?_,.ptr gr hd hg cw⟩
  simp[Instr.fieldAt,run_underlying ht,hf,Instr.sureAddr,fieldPlace,jt hn,aB,gY]
 ·rename_i cs off
  injection h with h
  subst h
  obtain⟨blk,o0,g,rfl,br,hI,hR⟩:=hx.zp
  refine⟨.pointer (some ⟨blk,o0+(off+f.offset),none⟩),?_,.cl (.bq g br hI hR)⟩
  simp[Instr.fieldAt,run_underlying ht,hf,Instr.sureAddr,fieldPlace,jt hn,aB,gY,vP]
theorem akK {t:TypeId} {a i v:AV} {x y:Value} (ht:P.underlying t=some .string) (hx:Rel G k nl a x) (hy:Rel G k nl i y)
  (h:BA a i=some v):∃z,(Instr.index t x y).run P w=.ok z w∧Rel G k nl v z:=by
 unfold BA at h
 split at h
 ·rename_i q
  obtain rfl:=hx.gj
  obtain⟨j,hj,h⟩:=cX.1 h
  obtain⟨b,hb,rfl⟩:=aU.1 h
  obtain⟨kd,z,rfl,z0,z1,rfl⟩:=Bz hy hj
  refine⟨_,?_,.val _ rfl⟩
  simp only[Instr.index,asIntOf,Sem.run_bind,run_underlying ht,Result.andThen_ok,Sem.run_pure,ak z0,hb]
 ·cases h
theorem akL {t e:TypeId} {N es:Nat} {g:Bool} {a i v:AV} {x y:Value} (ht:P.underlying t=some (.array N e)) (hg:tM P e=some g) (hn:cK P e=some es) (hx:Rel G k nl a x) (hy:Rel G k nl i y)
  (h:Gx N es g a i=some v):∃z,(Instr.index t x y).run P w=.ok z w∧Rel G k nl v z:=by
 unfold Gx at h
 split at h
 ·rename_i cs
  obtain⟨arr,rfl,hl,br,hR⟩:=hx.xn
  obtain⟨j,hj,h⟩:=cX.1 h
  obtain⟨kd,z,rfl,z0,z1,rfl⟩:=Bz hy hj
  rcases QL (f:=fun i=>arr.getD i Go.undef) h br hR with⟨rfl,hle,hv⟩|⟨rfl,aC,hv⟩
  ·refine⟨_,?_,hv⟩
   simp only[Instr.index,asIntOf,Sem.run_bind,run_underlying ht,Result.andThen_ok,Sem.run_pure,Go.part,zq hg,bB,jt hn]
   rw[ak ⟨z0,z1⟩]
   simp only[Sem.run_bind,Result.andThen_ok,jt hn,zq hg,bB,Sem.run_pure]
   congr 2
   apply Array.ext
   ·simp;omega
   ·intro j h1 h2
    simp at h1 h2⊢
    have:z.toNat*es+j<arr.size:=by omega
    simp[Array.getD,this]
  ·refine⟨_,?_,hv⟩
   have:z.toNat*es<arr.size:=by omega
   simp only[Instr.index,asIntOf,Sem.run_bind,run_underlying ht,Result.andThen_ok,Sem.run_pure,Go.part,jt hn]
   rw[ak ⟨z0,z1⟩]
   simp only[Sem.run_bind,Result.andThen_ok,jt hn,zq hg,ef,cE,Sem.run_pure]
   simp[Array.getD,this]
 ·cases h
theorem Wf:∀(vs:List Value) (n o:Nat) (arr:Array Value),(vs.zipIdx n).foldl (fun(cs:Array Value) (p:Value×Nat)=>cs.setIfInBounds (o+p.2) p.1) arr=iY arr (o+n) vs
 |[],_,_,_=>rfl
 |v::r,n,o,arr=>by
  simp only[List.zipIdx_cons,xO,iY]
  rw[Wf r (n+1) o]
  rfl
theorem N7 (cs:Array Value) (o:Nat) (arr:Array Value):cs.zipIdx.foldl (fun(c:Array Value) (p:Value×Nat)=>c.setIfInBounds (o+p.2) p.1) arr=iY arr o cs.toList:=by
 rw[←Array.foldl_toList,Array.toList_zipIdx,Wf,vQ]
theorem aga {cs:List AV} {arr:Array Value} {o size:Nat} {x:AV} {v:Value} {cs':List AV} (cg:ji (Rel G k nl) cs arr) (br:∀c,c∈cs→c.bt=true) (hx:Rel G k nl x v) (h:AU cs o size x=some cs'):
  v.cells.size=size∧o+size≤arr.size∧ji (Rel G k nl) cs' (iY arr o v.cells.toList)∧∀c,c∈cs'→c.bt=true:=by
 unfold AU at h
 split at h
 ·rename_i hc
  obtain⟨h1,h2,h3⟩:=hc
  injection h with h
  subst h
  have hv:=hx.cells h3
  refine⟨hv.1.trans h1,by rw[cg.1];exact h2,ji.iY (by simpa using hv.1) (fun i hi hj=>?_) o cg,fun c hc=>?_⟩
  ·have:=hv.2 i hi
   have he:v.cells.getD i Go.undef=v.cells.toList[i]:=by
    have:i<v.cells.size:=by simpa using hj
    simp[Array.getD,this]
   rw[←he]
   exact this
  ·rcases aat hc with hc|hc
   ·exact br c hc
   ·exact jw.1 h3 c hc
 ·cases h
theorem N2 {ρ:Nat→AV} {a:Act} (hR:eu G k nl ρ a) (place:Nat→Option (Nat×Nat)):∀(parts:List (Nat×Operand)) (ps:List (Nat×Nat×aF)) (cs cs':List AV) (arr:Array Value),
  wD P place parts=some ps→ji (Rel G k nl) cs arr→(∀c,c∈cs→c.bt=true)→nb cs (aE ρ) ps=some cs'→
  ∃arr',Instr.fill place arr (parts.map fun p=>(p.1,a.eval p.2))=some arr'∧ji (Rel G k nl) cs' arr'∧∀c,c∈cs'→c.bt=true
 |[],ps,cs,cs',arr,hp,cg,br,h=>by
  simp only[wD]at hp
  injection hp with hp
  subst hp
  simp only[nb]at h
  injection h with h
  subst h
  exact⟨arr,rfl,cg,br⟩
 | (i, x) :: r, ps, cs, cs', arr, hp, cg, br, h => by
  simp only[wD]at hp
  split at hp
  ·rename_i off size y s' e1 e2 e3
   injection hp with hp
   subst hp
   simp only[nb]at h
   split at h
   ·rename_i cs1 hf
    have hx:=cZ e2 hR
    obtain⟨g1,g2,g3,g4⟩:=aga cg br hx hf
    obtain⟨arr',k1,k2,k3⟩:=N2 hR place r s' cs1 cs' _ e3 g3 g4 h
    refine⟨arr',?_,k2,k3⟩
    simp only[iM,Instr.fill,e1]
    rw[aq (by simp only[ug,bne_iff_ne,dY];omega),N7]
    exact k1
   ·cases h
  ·cases hp
theorem uc {t:TypeId} {zs:List AV} (h:bV P t=some zs):∃z,(P.info? t).bind (·.zero)=some z∧fu tN z.cells.toList=some zs:=by
 unfold bV at h
 obtain⟨z,h1,h2⟩:=cX.1 h
 exact⟨z,h1,h2⟩
theorem ZE (w:World):∀(fs:List Field),(∀f,f∈fs→(cK P f.type).isSome=true)→
  (fs.mapM fun f=>Functor.map (Prod.mk f.offset) (sizeOf f.type)).run P w=.ok (fs.map fun f=>(f.offset,(cK P f.type).getD 0)) w
 |[],_=>by simp
 |f::fs,h=>by
  obtain⟨n,hn⟩:=oC.1 (h f (by simp))
  simp[Sh,jt hn,ZE w fs (fun g hg=>h g (by simp[hg])),hn]
theorem adt {t : TypeId} {zs cs : List AV} {fs : Array Field} {parts : Array (Nat × Operand)} {ps : List (Nat × Nat × aF)} {ρ : Nat → AV} {a : Act} (hR : eu G k nl ρ a) (hz : bV P t = some zs)
    (ht:P.underlying t=some (.struct fs)) (hf:fs.toList.all (fun f=>(cK P f.type).isSome)=true)
    (hp : wD P (fun i => match fs[i]? with
        |some f=>(cK P f.type).map fun s=>(f.offset,s)
        |none=>none) parts.toList=some ps) (h:nb zs (aE ρ) ps=some cs):
    ∃z,(Instr.build t (parts.map fun(i,x)=>(i,a.eval x))).run P w=.ok z w∧Rel G k nl (.agg cs) z:=by
  obtain⟨z,h1,h2⟩:=uc hz
  obtain⟨c1,c2,c3⟩:=rH (I:=G.I) h2
  obtain⟨arr',k1,k2,k3⟩:=N2 hR _ parts.toList ps zs cs z.cells hp ⟨c1,fun i hi=>.cl (c3 i hi)⟩ c2 h
  refine⟨.agg arr',?_,.agg k2.1 k3 k2.2⟩
  have fm:∀f,f∈fs.toList→(cK P f.type).isSome=true:=jw.1 hf
  have cD:(fun x:Nat=>(fs.toList.map fun f:Field=>(f.offset,(cK P f.type).getD 0)).toArray[x]?)=(fun i=>match fs[i]? with
        |some f=>(cK P f.type).map fun s=>(f.offset,s)
        |none=>none):=by
    funext i
    by_cases hi:i<fs.size
    · obtain ⟨n, hn⟩ := oC.1 (fm fs[i] (by simp))
      simp[hi,hn]
    · simp[hi]
  have hm:(parts.map fun(i,x)=>(i,a.eval x)).toList=parts.toList.map fun p=>(p.1,a.eval p.2):=by simp
  simp only[Instr.build,Sem.run_bind,xG h1,Result.andThen_ok,run_underlying ht,Sem.run_pure,abA,Sem.run_map]
  have sj:=ZE w fs.toList fm
  have ajL:(fs.toList.mapM fun f=>(do pure (f.offset,←sizeOf f.type):Sem (Nat×Nat))).run P w=.ok (fs.toList.map fun f:Field=>(f.offset,(cK P f.type).getD 0)) w:=by
    rw[←sj]
    rfl
  simp only[ajL,Sem.run_bind,Sem.run_map,Result.andThen_ok,hm,cD,k1,Sem.run_pure]
theorem adn {t e:TypeId} {N es:Nat} {zs cs:List AV} {parts:Array (Nat×Operand)} {ps:List (Nat×Nat×aF)} {ρ:Nat→AV} {a:Act} (hR:eu G k nl ρ a) (hz:bV P t=some zs)
  (ht:P.underlying t=some (.array N e)) (hs:cK P e=some es)
  (hp:wD P (fun i=>some (i*es,es)) parts.toList=some ps) (h:nb zs (aE ρ) ps=some cs):
  ∃z,(Instr.build t (parts.map fun(i,x)=>(i,a.eval x))).run P w=.ok z w∧Rel G k nl (.agg cs) z:=by
 obtain⟨z,h1,h2⟩:=uc hz
 obtain⟨c1,c2,c3⟩:=rH (I:=G.I) h2
 obtain⟨arr',k1,k2,k3⟩:=N2 hR _ parts.toList ps zs cs z.cells hp ⟨c1,fun i hi=>.cl (c3 i hi)⟩ c2 h
 refine⟨.agg arr',?_,.agg k2.1 k3 k2.2⟩
 have hm:(parts.map fun(i,x)=>(i,a.eval x)).toList=parts.toList.map fun p=>(p.1,a.eval p.2):=by simp
 simp only[Instr.build,Sem.run_bind,xG h1,Result.andThen_ok,run_underlying ht,Sem.run_pure,jt hs,hm,k1]
end
end Go.Ax
/-
  Slices built or made, conversions, the least and the greatest.
-/
namespace Go.Ax
open Go.RowKit
section
variable{P:Program} {B0:Nat} {w0:World} {G:aG} {k nl:Nat} {w:World} {s:ae}
theorem Uu {q:Array UInt8} {c:Nat} (h:c<q.size):q.getD c 0=q[c]:=by
 unfold Array.getD
 rw[Jj h]
 rfl
theorem Jc {x z:AV} (h:x.close=some z):x.bt=true∧z.bt=true:=by
 have hx:x.bt=true:=by
  unfold AV.close at h
  split at h
  ·rfl
  ·split at h
   ·rename_i hc
    cases x with
    |v q=>cases q<;>first|rfl|(simp[AV.isClosed,AV.iG]at hc)
    |agg=>simp[AV.isClosed,AV.iG]at hc
    |tuple=>simp[AV.isClosed,AV.iG]at hc
    |_=>rfl
   ·cases h
 exact⟨hx,NF h hx⟩
theorem aaq {q:Nat}:∀(vs:List Value) (o:Nat) (arr:Array Value),o+vs.length≤arr.size→(iY arr o vs).getD q Go.undef=if o≤q∧q<o+vs.length then vs.getD (q-o) Go.undef else arr.getD q Go.undef
 |[],o,arr,_=>by
  rw[aq (by simp)]
  rfl
 | v :: r, o, arr, h => by
  simp only[dO]at h
  simp only[iY]
  rw[aaq r (o+1) _ (by simp;omega)]
  simp only[dO]
  by_cases h1:o+1≤q∧q<o+1+r.length
  ·rw[ak h1,ak (by omega)]
   have:q-o=(q-(o+1))+1:=by omega
   rw[this,List.getD_cons_succ]
  ·rw[aq h1]
   by_cases h2:q=o
   ·subst h2
    rw[ak (by omega),HI]
    have:q<arr.size:=by omega
    simp[Array.getD,this]
   ·rw[aq (by omega)]
    by_cases hq:q<arr.size
    ·simp[Array.getD,hq,qi h2]
    ·simp[Array.getD,hq]
structure Rows (I:fU) (es:Nat) (rows:List (List AV)) (arr:Array Value):Prop where
 size:arr.size=rows.length*es
 len:∀r,r∈rows→r.length=es
 cell:∀r,r∈rows→∀c,c∈r→c.bt=true
 rel:∀i (hi:i<rows.length) j (hj:j<rows[i].length),bJ I (rows[i][j]) (arr.getD (i*es+j) Go.undef)
theorem Z9 {i j n es:Nat} (hi:i<n) (hj:j<es):i*es+j<n*es:=by
 calc i*es+j<i*es+es:=by omega
  _=(i+1)*es:=by rw[gv,rz]
  _≤n*es:=oB _ hi
theorem arS {i q j es:Nat} (hj:j<es) (aB:q≠i):¬(i*es≤q*es+j∧q*es+j<i*es+es):=by
 intro⟨h1,h2⟩
 rcases Sz aB with h|h
 ·have:=Z9 (es:=es) h hj
  omega
 ·have:(i+1)*es≤q*es:=oB _ h
  rw[gv,rz]at this
  omega
theorem Rows.set {I:fU} {es:Nat} {rows:List (List AV)} {arr:Array Value} (h:Rows I es rows arr) {i:Nat} (hi:i<rows.length) {cs:List AV} {vs:Array Value} (hl:cs.length=es) (br:∀c,c∈cs→c.bt=true)
  (hR:ji (bJ I) cs vs):Rows I es (rows.set i cs) (iY arr (i*es) vs.toList):=by
 have XP:vs.toList.length=es:=by simp[hR.1,hl]
 have hle:i*es+es≤rows.length*es:=by
  have:(i+1)*es≤rows.length*es:=oB _ hi
  rwa [gv,rz]at this
 refine⟨by rw[xA,zO];exact h.size,fun r hr=>?_,fun r hr=>?_,fun q hq j hj=>?_⟩
 ·rcases Sm hr with hr|rfl
  ·exact h.len r hr
  ·exact hl
 ·rcases Sm hr with hr|rfl
  ·exact h.cell r hr
  ·exact br
 ·have Gg:q<rows.length:=by simpa using hq
  rw[aaq _ _ _ (by rw[XP,h.size];exact hle),XP]
  by_cases he:i=q
  ·subst he
   simp only[List.getElem_set_self]at hj⊢
   rw[ak (by omega)]
   have e1:i*es+j-i*es=j:=by omega
   rw[e1]
   have:=hR.2 j hj
   have e2:vs.toList.getD j Go.undef=vs.getD j Go.undef:=by
    have:j<vs.size:=by rw[hR.1];exact hj
    simp[Array.getD,this]
   rw[e2]
   exact this
  ·simp only[List.getElem_set_ne he]at hj⊢
   have dH:j<es:=by rw[←h.len _ (gu Gg)];exact hj
   rw[aq (arS dH (qi he))]
   exact h.rel q Gg j hj
theorem aae {ρ:Nat→AV} {a:Act} (hR:eu G k nl ρ a) {es:Nat}:∀(parts:List (Nat×Operand)) (ps:List (Nat×aF)) (rows rows':List (List AV)) (arr:Array Value),
  uH parts=some ps→Rows G.I es rows arr→mo rows (aE ρ) ps=some rows'→
  ∃arr',Instr.fill (fun i=>some (i*es,es)) arr (parts.map fun p=>(p.1,a.eval p.2))=some arr'∧Rows G.I es rows' arr'∧rows'.length=rows.length
 |[],ps,rows,rows',arr,hp,cg,h=>by
  simp only[uH]at hp
  injection hp with hp
  subst hp
  simp only[mo]at h
  injection h with h
  subst h
  exact⟨arr,rfl,cg,rfl⟩
 | (i, x) :: r, ps, rows, rows', arr, hp, cg, h => by
  simp only[uH]at hp
  split at hp
  ·rename_i y s' e2 e3
   injection hp with hp
   subst hp
   simp only[mo]at h
   split at h
   ·rename_i row cs f1 f2
    split at h
    ·rename_i hlen
     obtain⟨hi,ajX⟩:=bd.1 f1
     have er:row.length=es:=cg.len _ (ajX ▸ gu hi)
     have hx:=cZ e2 hR
     obtain⟨c1,c2⟩:=Jb f2
     have fm:(aE ρ y).cells.all AV.bt=true:=by
      rw[jw]
      intro c hc
      obtain⟨j,hj,rfl⟩:=nM hc
      exact(Jc (c2 j hj (by omega))).1
     have FJ:=hx.cells fm
     have Kc:ji (bJ G.I) cs (a.eval x).cells:=⟨by rw[FJ.1,c1],fun j hj=>(FJ.2 j (by omega)).close (c2 j (by omega) hj)⟩
     have eV:∀c,c∈cs→c.bt=true:=fun c hc=>by
      obtain⟨j,hj,rfl⟩:=nM hc
      exact(Jc (c2 j (by omega) hj)).2
     have su:=cg.set hi (hlen.trans er) eV Kc
     obtain⟨arr',k1,k2,k3⟩:=aae hR r s' _ rows' _ e3 su h
     refine⟨arr',?_,k2,by rw[k3];simp⟩
     simp only[iM,Instr.fill]
     have bR:(a.eval x).cells.size=es:=by rw[Kc.1,hlen,er]
     have hle:i*es+es≤rows.length*es:=by
      have:(i+1)*es≤rows.length*es:=oB _ hi
      rwa [gv,rz]at this
     have xg:=cg.size
     rw[aq (by simp only[ug,bne_iff_ne,dY,bR];omega),N7]
     exact k1
    ·cases h
   ·cases h
  ·cases hp
theorem Rows.slice {I:fU} {es b cap:Nat} {rows:List (List AV)} {arr:Array Value} (h:Rows I es rows arr) (hI:∀i,i<arr.size→I b i=arr[i]?) (fp:rows.length≤cap):fL I es rows ⟨b,0,none⟩ cap:=by
 refine fL.mk (fun c=>arr.getD c Go.undef) fp h.len h.cell (fun c hc=>?_) h.rel
 rw[fB,hI c (by rw[h.size];exact hc)]
 have:c<arr.size:=by rw[h.size];exact hc
 simp[Array.getD,this]
theorem Rows.mono {I I':fU} {es:Nat} {rows:List (List AV)} {arr:Array Value} (h:Rows I es rows arr) (hI:∀b i v,I b i=some v→I' b i=some v):Rows I' es rows arr:=
 ⟨h.size,h.len,h.cell,fun i hi j hj=>(h.rel i hi j hj).mono hI⟩
theorem ao3 (h:At P B0 w0 G k nl s w) {es n:Nat} {rows:List (List AV)} {arr:Array Value} (ty:TypeId) (hr:Rows G.I es rows arr) (hn:rows.length=n):
  db P B0 w0 G k nl s s (w.alloc (.cells arr ty)) (.slice .full es rows) (.slice (some ⟨w.heap.size,0,none⟩) n n):=by
 subst hn
 have hle:=G.CF w.heap.size arr h.rel.uk (k+1) s.loops.length
 have hs:=h.rel.LZ arr ty (0,0)
 refine⟨_,h.to hs (hle.less (by omega) h.sH) rfl,hle,rfl,.cl (aa1 rfl ?_)⟩
 refine(hr.mono hle.I).slice (fun i hi=>?_) (aH _)
 simp[aG.vU]
theorem Jy (zs:List AV) (h:0<zs.length):∀(n q:Nat),q<n*zs.length→((List.replicate n zs).flatten)[q]? =zs[q%zs.length]?
 |0,q,hq=>by simp at hq
 | n + 1, q, hq => by
  simp only[List.replicate_succ,sV]
  by_cases aC:q<zs.length
  ·rw[dC aC,HG aC]
  ·rw[gv,rz]at hq
   rw[gD (by omega),Jy zs h n _ (by omega),←Nat.mod_eq_sub_mod (by omega)]
theorem tq (zs:List AV) (n:Nat):(List.replicate n zs).flatten.length=n*zs.length:=by simp
theorem Lk {I:fU} {z:Value} {zs:List AV} (hz:fu tN z.cells.toList=some zs) (h0:0<zs.length) (q:Nat):bJ I (zs[q%zs.length]'(sZ _ h0)) (z.cells[q%z.cells.size]!):=by
 obtain⟨c1,c2,c3⟩:=rH (I:=I) hz
 have aC:q%zs.length<z.cells.size:=by rw[c1];exact sZ _ h0
 have:=c3 (q%zs.length) (sZ _ h0)
 rw[c1]
 have e:z.cells[q%zs.length]! =z.cells.getD (q%zs.length) Go.undef:=by simp[Array.getD,aC]
 rw[e]
 exact this
theorem at3 {I:fU} {es n:Nat} {z:Value} {zs:List AV} (hz:fu tN z.cells.toList=some zs) (hl:zs.length=es) (h0:0<es):Rows I es (List.replicate n zs) ((Array.range (n*es)).map (z.cells[· %z.cells.size]!)):=by
 obtain⟨c1,c2,c3⟩:=rH (I:=I) hz
 refine⟨by simp,fun r hr=>?_,fun r hr=>?_,fun i hi j hj=>?_⟩
 ·rw[(Hy.1 hr).2];exact hl
 ·rw[(Hy.1 hr).2];exact c2
 ·have bD:i<n:=by simpa using hi
  have dH:j<es:=by simp only[abF]at hj;omega
  have aC:i*es+j<n*es:=Z9 bD dH
  have hm:(i*es+j)%es=j:=by rw[SB,Nat.mul_add_mod,HG dH]
  have:=Lk (I:=I) hz (by omega) (i*es+j)
  simp only[hl,hm]at this
  have e:((Array.range (n*es)).map (z.cells[· %z.cells.size]!)).getD (i*es+j) Go.undef=z.cells[(i*es+j)%z.cells.size]! :=by simp[Array.getD,aC]
  rw[e]
  simp only[abF]
  exact this
theorem Us (h:At P B0 w0 G k nl s w) {t e:TypeId} {es len:Nat} {zs:List AV} {rows:List (List AV)} {parts:Array (Nat×Operand)} {ps:List (Nat×aF)} {ρ:Nat→AV} {a:Act} (hR:eu G k nl ρ a)
  (ht:P.underlying t=some (.slice e)) (hs:cK P e=some es) (hz:bV P e=some zs) (hp:uH parts.toList=some ps) (hle:len*es≤2^24) (hl:zs.length=es) (h0:0<es)
  (hb:mo (List.replicate len zs) (aE ρ) ps=some rows):
  ∃z w',(Instr.buildSlice t len (parts.map fun(i,x)=>(i,a.eval x))).run P w=.ok z w'∧db P B0 w0 G k nl s s w' (.slice .full es rows) z:=by
 obtain⟨z,h1,h2⟩:=uc hz
 have qN:=at3 (I:=G.I) (n:=len) h2 hl h0
 have hm:(parts.map fun(i,x)=>(i,a.eval x)).toList=parts.toList.map fun p=>(p.1,a.eval p.2):=by simp
 obtain⟨arr',k1,k2,k3⟩:=aae hR parts.toList ps _ rows _ hp qN hb
 have hlen:rows.length=len:=by rw[k3];simp
 refine⟨_,_,?_,ao3 h e k2 hlen⟩
 have J5:¬(len*es>2^24):=by omega
 by_cases hn:len*es=0
 ·have fP:len=0:=by
   rcases Nat.mul_eq_zero.1 hn with h'|h'
   ·exact h'
   ·omega
  subst fP
  simp only[Nat.zero_mul,Array.range_zero',Array.map_empty]at k1
  have e0 : ((Array.range 0).map fun x : Nat => ((#[] : Array Value)[x % (#[] : Array Value).size]!)) = #[] := by simp
  simp only[Instr.buildSlice,Sem.run_bind,run_underlying ht,Result.andThen_ok,jt hs,aq J5,ak hn,Sem.run_pure,hm]
  simp only[Nat.zero_mul,e0,k1,newRow,run_newObj,Sem.run_bind,Result.andThen_ok,Sem.run_pure]
  rfl
 ·simp only[Instr.buildSlice,Sem.run_bind,run_underlying ht,Result.andThen_ok,jt hs,aq J5,aq hn,xG h1,Sem.run_pure,hm,k1,newRow,run_newObj]
  rfl
theorem aoR (h:At P B0 w0 G k nl s w) {t e:TypeId} {es fN:Nat} {zs:List AV} {l c v:AV} {lv cv:Value} {s':ae} (ht:P.underlying t=some (.slice e)) (hs:cK P e=some es) (uY:yk P e=some fN)
  (hz:bV P e=some zs) (hl:zs.length=es) (h0:0<es) (aik:fN≤4096) (hx:Rel G k nl l lv) (hy:Rel G k nl c cv) (hm:BN s es zs l c=some (v,s')):
  ∃z w',(Instr.makeSlice t lv cv).run P w=.ok z w'∧db P B0 w0 G k nl s s' w' v z:=by
 unfold BN at hm
 obtain⟨cn,hc,hm⟩:=cX.1 hm
 obtain⟨ln,w5,hm⟩:=aU.1 hm
 obtain⟨kc,zc,rfl,RR,Hf,rfl⟩:=td hy hc
 obtain⟨kl,zl,rfl,RT,zl1,rfl⟩:=td hx w5
 obtain⟨z,h1,h2⟩:=uc hz
 obtain⟨i,hi,rfl⟩:=Gz uY
 have bR:i.size=es:=by
  unfold cK at hs
  rw[hi]at hs
  simpa using hs
 have PZ:i.zero=some z:=by
  rw[hi]at h1
  simpa using h1
 have PY:zl≤zc:=by omega
 have oh:zc≤4294967296:=by unfold most at Hf;exact Hf
 have OG:(i.bytes:Int)*zc≤281474976710656:=by
  calc(i.bytes:Int)*zc≤4096*zc:=RZ (by omega) RR
   _≤281474976710656:=by omega
 have cY:=run_make (P:=P) w t e i z ht hi PZ kl kc zl zc RT PY OG (by omega)
 rw[bR]at cY
 refine⟨_,_,cY,?_⟩
 split at hm
 ·rename_i he
  injection hm with lk gS
  subst lk gS
  have hz0:zc.toNat=0:=by
   have hle:=tq zs zc.toNat
   have j6:(List.replicate zc.toNat zs).flatten=[]:=by simpa using he
   rw[j6,iK,hl]at hle
   rcases Nat.mul_eq_zero.1 hle.symm with h'|h'
   ·exact h'
   ·omega
  have PX:zl.toNat=0:=by omega
  rw[hz0,PX]
  exact⟨_,h.to (h.rel.LZ _ _ _) (G.CF _ _ h.rel.uk _ _) rfl,G.CF _ _ h.rel.uk _ _,rfl,.cl (.empty (.inr rfl))⟩
 rename_i aB
 injection hm with lk gS
 subst lk gS
 have cg:ji (Rel G k nl) (List.replicate zc.toNat zs).flatten (madeCells z.cells (zc.toNat*es)):=by
  refine⟨by rw[size_madeCells,tq,hl],fun q hq=>?_⟩
  rw[tq]at hq
  have hg:=Jy zs (by omega) zc.toNat q hq
  have F5:q%zs.length<zs.length:=sZ _ (by omega)
  rw[cM F5,cM (by rw[tq];exact hq)]at hg
  injection hg with hg
  rw[hg]
  have:=Lk (I:=G.I) h2 (by omega) q
  have e:(madeCells z.cells (zc.toNat*es)).getD q Go.undef=z.cells[q%z.cells.size]! :=by
   have:q<zc.toNat*es:=by rw[←hl];exact hq
   simp[madeCells,Array.getD,this]
  rw[e]
  exact .cl this
 have r5:∀c,c∈(List.replicate zc.toNat zs).flatten→c.bt=true:=fun c hc=>by
  obtain⟨r,hr,hc⟩:=ur.1 hc
  rw[(Hy.1 hr).2]at hc
  exact(rH (I:=G.I) h2).2.1 c hc
 exact(zw h e none (fun _ e=>by cases e) (fun e=>aB (by rw[e];rfl)) r5 cg.le).2.2 es zl.toNat zc.toNat zc.toNat (by omega) (aH _) (fun e1 e2=>by omega)
theorem aoS (h:At P B0 w0 G k nl s w) {t e:TypeId} {es fN:Nat} {zs:List AV} {l c v:AV} {lv cv:Value} {s':ae} (ht:P.underlying t=some (.slice e)) (hs:cK P e=some es) (uY:yk P e=some fN)
  (hz:bV P e=some zs) (hl:zs.length=es) (h0:0<es) (aik:fN≤4096) (hx:Rel G k nl l lv) (hy:Rel G k nl c cv) (hm:GJ s es zs l c=some (v,s')):
  ∃z w',(Instr.makeSlice t lv cv).run P w=.ok z w'∧db P B0 w0 G k nl s s' w' v z:=by
 unfold GJ at hm
 obtain⟨cn,hc,hm⟩:=cX.1 hm
 obtain⟨ln,w5,hm⟩:=cX.1 hm
 obtain⟨kc,zc,rfl,RR,Hf,rfl⟩:=td hy hc
 obtain⟨kl,zl,rfl,RT,zl1,rfl⟩:=td hx w5
 obtain⟨z,h1,h2⟩:=uc hz
 obtain⟨i,hi,rfl⟩:=Gz uY
 have bR:i.size=es:=by
  unfold cK at hs
  rw[hi]at hs
  simpa using hs
 have PZ:i.zero=some z:=by
  rw[hi]at h1
  simpa using h1
 have PY:zl≤zc:=by omega
 have oh:zc≤4294967296:=by unfold most at Hf;exact Hf
 have OG:(i.bytes:Int)*zc≤281474976710656:=by
  calc(i.bytes:Int)*zc≤4096*zc:=RZ (by omega) RR
   _≤281474976710656:=by omega
 have cY:=run_make (P:=P) w t e i z ht hi PZ kl kc zl zc RT PY OG (by omega)
 rw[bR]at cY
 refine⟨_,_,cY,?_⟩
 split at hm
 ·cases hm
 rename_i aB
 injection hm with hm
 injection hm with lk gS
 subst lk gS
 have heq:zl.toNat=zc.toNat:=qh fun q=>aB (.inr q)
 rw[heq]
 have cg:ji (Rel G k nl) (List.replicate zc.toNat zs).flatten (madeCells z.cells (zc.toNat*es)):=by
  refine⟨by rw[size_madeCells,tq,hl],fun q hq=>?_⟩
  rw[tq]at hq
  have hg:=Jy zs (by omega) zc.toNat q hq
  have F5:q%zs.length<zs.length:=sZ _ (by omega)
  rw[cM F5,cM (by rw[tq];exact hq)]at hg
  injection hg with hg
  rw[hg]
  have:=Lk (I:=G.I) h2 (by omega) q
  have e:(madeCells z.cells (zc.toNat*es)).getD q Go.undef=z.cells[q%z.cells.size]! :=by
   have:q<zc.toNat*es:=by rw[←hl];exact hq
   simp[madeCells,Array.getD,this]
  rw[e]
  exact .cl this
 have r5:∀c,c∈(List.replicate zc.toNat zs).flatten→c.bt=true:=fun c hc=>by
  obtain⟨r,hr,hc⟩:=ur.1 hc
  rw[(Hy.1 hr).2]at hc
  exact(rH (I:=G.I) h2).2.1 c hc
 exact(zw h e (some (zc.toNat*es)) (fun n hn=>by injection hn with hn;rw[size_madeCells,hn]) (fun e=>aB (.inl (by rw[e];rfl))) r5 cg.le).2.2 es zc.toNat 0 zc.toNat (aH _) (bg _) (fun _ _=>rfl)
theorem adz {xs:List (List AV)} {l:List UInt8} (hl:bytesOf xs=some l):l.length=xs.length∧∀i (hi:i<xs.length) (hj:i<l.length),xs[i]=[.v (.int .u8 (l[i].toNat:Int))]:=by
 induction xs generalizing l with
 |nil=>simp only[bytesOf]at hl;injection hl with hl;subst hl;simp
 | cons x r ih =>
  simp only[bytesOf]at hl
  split at hl
  ·rename_i b s' hb mL
   injection hl with hl
   subst hl
   obtain⟨i1,i2⟩:=ih mL
   refine⟨by simp[i1],fun i hi hj=>?_⟩
   cases i with
   | zero =>
    simp only[xQ]
    unfold byteOf at hb
    split at hb
    ·split at hb
     ·rename_i n hn
      injection hb with hb
      subst hb
      have:((UInt8.ofNat n.toNat).toNat:Int)=n:=by
       rw[UInt8.toNat_ofNat']
       omega
      rw[this]
     ·cases hb
    ·cases hb
   |succ i=>simpa using i2 i (by simpa using hi) (by simpa using hj)
  ·cases hl
theorem aeD (h:At P B0 w0 G k nl s w) {src dst:TypeId} {x:Operand} {ax:aF} {op:bX} {kd:Hi} {a v:AV} {y:Value} (hc:Fg P src dst ax=some (.conv kd ax)) (hx:Rel G k nl a y) (hv:mr kd a=some v):
  ∃z w',(convert src dst y).run P w=.ok z w'∧db P B0 w0 G k nl s s w' v z:=by
 unfold Fg at hc
 split at hc
 ·rename_i k1 k2 hs hd
  injection hc with hc
  injection hc with hc
  subst hc
  cases a with
  | v q =>
   obtain rfl:=hx.gj
   cases y with
   |int k3 n=>
    simp only[mr]at hv
    injection hv with hv
    subst hv
    exact⟨_,w,by simp[convert,run_underlying hs,run_underlying hd,Conv.intToInt],.same h (.val _ rfl)⟩
   |_=>simp[mr]at hv
  |_=>simp[mr]at hv
 ·rename_i hs hd
  injection hc with hc
  injection hc with hc
  subst hc
  cases a with
  | v q =>
   obtain rfl:=hx.gj
   cases y with
   |string q=>
    simp only[mr]at hv
    injection hv with hv
    subst hv
    exact⟨_,w,by simp[convert,run_underlying hs,run_underlying hd],.same h (.val _ rfl)⟩
   |_=>simp[mr]at hv
  |_=>simp[mr]at hv
 ·rename_i e hs hd
  split at hc
  ·rename_i he
   injection hc with hc
   injection hc with hc
   subst hc
   cases a with
   | v q =>
    obtain rfl:=hx.gj
    cases y with
    | string q =>
     simp only[mr]at hv
     injection hv with hv
     subst hv
     refine⟨_,_,run_bytes_of_string w src dst e q hs hd he,?_⟩
     have Kc:=(h.rel.drew).LZ (bytesRow q (grownCap w q.size 0 e)) e ((bytesRow q (grownCap w q.size 0 e)).size,(bytesRow q (grownCap w q.size 0 e)).size+1)
     have hle:=G.CF w.heap.size (bytesRow q (grownCap w q.size 0 e)) h.rel.uk (k+1) s.loops.length
     refine⟨_,h.to Kc (hle.less (by omega) h.sH) rfl,hle,rfl,.cl ?_⟩
     have hlen:(byteCells q).length=q.size:=by simp only[byteCells,bY,RV];rfl
     have dR:∀i (hi:i<(byteCells q).length),(byteCells q)[i]=[.v (.int .u8 ((q.data[i]'(by rw[hlen]at hi;exact hi)).toNat:Int))]:=fun i hi=>by
      simp[byteCells]
     have:fL ((G.vU w.heap.size (bytesRow q (grownCap w q.size 0 e))).I) 1 (byteCells q) ⟨w.heap.size,0,none⟩ (grownCap w q.size 0 e):=by
      refine fL.mk (fun c=>(.int .u8 ((q.data.getD c 0).toNat:Int))) (by rw[hlen];exact grownCap_ge _ _ _ _) (fun r hr=>?_) (fun r hr c hc=>?_) (fun c hc=>?_) (fun i hi j hj=>?_)
      ·obtain⟨i,hi,rfl⟩:=nM hr
       rw[dR i hi];rfl
      ·obtain⟨i,hi,rfl⟩:=nM hr
       rw[dR i hi]at hc
       simp only[eJ]at hc
       subst hc
       rfl
      ·rw[hlen,SC]at hc
       simp only[aG.vU,bB,fB]
       have oS:c<q.data.size:=hc
       rw[bytesRow_at q _ c oS,Uu oS]
      ·have bD:i<q.data.size:=by rw[hlen]at hi;exact hi
       have hj0:j=0:=by rw[dR i hi]at hj;simpa using hj
       subst hj0
       simp only[dR i hi,xQ,SC,vQ]
       rw[Uu bD]
       exact .v rfl
     unfold fL at this
     rw[hlen]at this
     exact this
    |_=>simp[mr]at hv
   |_=>simp[mr]at hv
  ·cases hc
 ·rename_i e hs hd
  split at hc
  ·rename_i he
   injection hc with hc
   injection hc with hc
   subst hc
   cases a with
   | slice o es xs =>
    simp only[mr]at hv
    obtain⟨l,hl,rfl⟩:=aU.1 hv
    rcases hx.iF with⟨_,rfl,rfl⟩|⟨_,p,cap,rfl,qP,fp,lZ,_⟩
    ·simp only[bytesOf]at hl
     injection hl with hl
     subst hl
     refine⟨_,w,?_,.same h (.val _ rfl)⟩
     rw[run_convert_bytes_string w src dst e none 0 0 hs he hd]
     simp[Conv.bytesToString]
     rfl
    ·have Bh:l.length=xs.length∧∀i (hi:i<xs.length) (hj:i<l.length),xs[i]=[.v (.int .u8 (l[i].toNat:Int))]:=adz hl
     obtain⟨b1,b2⟩:=Bh
     refine⟨_,w,?_,.same h (.val _ rfl)⟩
     rw[←b1]
     refine run_convert_bytes_back w src dst e p cap l hs he hd (fun j hj=>?_)
     have dH:j<xs.length:=by omega
     cases lZ with
     |empty=>exact absurd dH (da _)
     | @slice _ _ _ blk off _ f ho hc dQ br hI hR =>
      have Bo:xs[j].length=1:=by rw[b2 j dH hj];rfl
      have OT:es=1:=by rw[←dQ _ (gu dH),Bo]
      have h1:=hI j dH 0 (by omega)
      have h2:=hR j dH 0 (by omega)
      have e0:xs[j][0]=.v (.int .u8 (l[j].toNat:Int)):=by simp[b2 j dH hj]
      rw[e0]at h2
      cases hf:f j 0 with
      |int k3 n=>
       rw[hf]at h2 h1
       cases h2
       rw[gY]
       have:=h.rel.fc _ _ _ h1
       rw[OT]at this
       simpa using this
      |_=>rw[hf]at h2;cases h2
   |v q=>cases q<;>simp[mr]at hv
   |_=>simp[mr]at hv
  ·cases hc
 ·cases hc
theorem aoM {mx:Bool} {a b v:AV} {x y:Value} (hx:Rel G k nl a x) (hy:Rel G k nl b y) (h:BK mx a b=some v):
  ∃z,((if mx then Builtin.max2 else Builtin.min2) x y).run P w=.ok z w∧Rel G k nl v z:=by
 unfold BK at h
 split at h
 ·obtain rfl:=hx.gj
  obtain rfl:=hy.gj
  split at h
  ·injection h with h
   subst h
   refine⟨_,?_,.val _ rfl⟩
   cases mx<;>simp[Builtin.max2,Builtin.min2]
  ·cases h
 ·cases h
theorem YN {mx:Bool}:∀{as:List AV} {xs:List Value} {a v:AV} {x:Value},Rel G k nl a x→xs.length=as.length→(∀i (hi:i<as.length) (hj:i<xs.length),Rel G k nl as[i] xs[i])→xt mx a as=some v→
  ∃z,(xs.foldlM (if mx then Builtin.max2 else Builtin.min2) x).run P w=.ok z w∧Rel G k nl v z
 |[],[],a,v,x,hx,_,_,h=>by
  simp only[xt]at h
  injection h with h
  subst h
  exact⟨x,by simp,hx⟩
 |[],_::_,_,_,_,_,hl,_,_=>by simp at hl
 |_::_,[],_,_,_,_,hl,_,_=>by simp at hl
 | b :: as, y :: xs, a, v, x, hx, hl, hR, h => by
  simp only[xt]at h
  split at h
  ·rename_i z hz
   obtain⟨z',r1,r2⟩:=aoM (P:=P) (w:=w) hx (hR 0 (by simp) (by simp)) hz
   obtain⟨z'',r3,r4⟩:=YN r2 (by simpa using hl) (fun i hi hj=>hR (i+1) (by simpa using hi) (by simpa using hj)) h
   refine⟨z'',?_,r4⟩
   have QU:((if mx then Builtin.max2 else Builtin.min2) x y).run P w=.ok z' w:=r1
   simp only[List.foldlM_cons,Sem.run_bind,QU,Result.andThen_ok,r3]
  ·cases h
theorem YT {mx:Bool} {as:List AV} {xs:Array Value} {v:AV} (ts:Array TypeId) (ty:TypeId) (hl:xs.size=as.length) (hR:∀i (hi:i<as.length),Rel G k nl as[i] (xs.getD i Go.undef)) (h:sF mx as=some v):
  ∃z,((if mx then Builtin.max_ else Builtin.min_) ts ty xs).run P w=.ok z w∧Rel G k nl v z:=by
 cases as with
 |nil=>simp[sF]at h
 | cons a as =>
  simp only[sF]at h
  obtain⟨ys⟩:=xs
  cases ys with
  |nil=>simp at hl
  | cons y ys =>
   have h0:=hR 0 (by simp)
   simp only[xQ]at h0
   obtain⟨z,r1,r2⟩:=YN (P:=P) (w:=w) (xs:=ys) (x:=y) (by simpa using h0) (by simpa using hl) (fun i hi hj=>by
    have:=hR (i+1) (by simpa using hi)
    simpa[Array.getD,hj]using this) h
   refine⟨z,?_,r2⟩
   cases mx<;>simpa[Builtin.max_,Builtin.min_]using r1
end
end Go.Ax
/-
  A slice that may be written to becomes one that is only read: its box is dead from here on.
-/
namespace Go.Ax
open Go.RowKit
section
variable{P:Program} {B0:Nat} {w0:World} {G:aG} {k nl:Nat} {w:World} {s:ae}
theorem anL (h:At P B0 w0 G k nl s w) {b:Nat} {cs:List AV} {r:Rec} {gr:cH} {blk:Nat} (hr:s.ag[k]? =some r) (hg:G.ag[k]? =some gr)
  (hb:r.boxes[b]? =some cs) (cw:gr.bl[b]? =some (some blk)) (dw:cs≠[]):
  ∃G',At P B0 w0 G' k nl (s.kill b) w∧bA (k+1) s.loops.length G G'∧∀i,G'.I blk i=w.cell? ⟨blk,i,none⟩:=by
 have aI:=h.rel.cI k r gr hr hg
 have di:=aI.box b cs blk hb cw
 obtain⟨b1,⟨x0,b2,L8⟩,b3,HV,La,b4,_⟩:=di
 have pf:=L8 dw
 subst pf
 have b3:=b3 dw
 have JN:x0<r.boxes.length:=(bd.1 hb).1
 let T:kR:=⟨none,0,0,0⟩
 let gf:cH→cH:=fun q=>{q with tk:=q.tk++[T]}
 let G':aG:={G with ag:=G.ag.modify k gf,I:=fun c i=>if c=blk then w.cell? ⟨c,i,none⟩else G.I c i}
 have hI:∀c i v,G.I c i=some v→G'.I c i=some v:=fun c i v e=>by
  simp only[G']
  split
  ·rename_i hc
   subst hc
   rw[b3]at e;cases e
  ·exact e
 have hk:jv (· =.box k x0) G w G' w:=fun c o e aB=>by
  refine⟨e,rfl,fun i hi=>?_⟩
  simp only[G']
  split
  ·rename_i hc
   subst hc
   rw[b2]at e
   injection e with e
   exact absurd e.symm aB
  ·exact hi
 have eZ:iN gr (gf gr):=⟨fun j q e=>e,fun g U e=>⟨U,my e,.refl U⟩,rfl,fun j m e=>e⟩
 have hle:bA k nl G G':=⟨hI,fun d q _ e=>by
  simp only[G',dM]
  by_cases hd:k=d
  ·subst hd
   rw[hg]at e
   injection e with e
   subst e
   exact⟨_,by rw[ak rfl,hg];rfl,eZ,fun _=>rfl⟩
  ·exact⟨q,by rw[aq hd];exact e,.refl q,fun _=>rfl⟩,fun _ _ _ e=>e⟩
 have ll:gr.nl=nl:=by obtain⟨g',e1,e2⟩:=h.cur;rw[hg]at e1;injection e1 with e1;rw[e1];exact e2
 have fR:=h.rel.bp (G':=G') (w':=w) hr hg (fun r=>{r with boxes:=r.boxes.set x0 [],toks:=r.toks++[none]}) gf (· =.box k x0) rfl rfl hI eZ rfl hk
  (fun o ho=>.inl ⟨_,ho⟩) ?_ (fun c i v e=>?_) (Below.refl _ _) (fun c o e=>h.rel.eM c o e)
 ·obtain⟨hs,jC⟩:=fR
  have mL:cu P B0 w0 G' (s.kill x0) w:=by
   simp only[ae.kill,h.gI]
   exact hs
  exact⟨G',h.to mL hle (by simp[ae.kill,ae.bp]),jC _ _,fun i=>by simp only[G'];rw[ak trivial]⟩
 ·refine⟨by simp[gf,aI.dX],by simp[gf,aI.iI],fun j q Ak e1 e2=>?_,fun j q e1 e2=>by simp,fun g m U e1 e2=>?_,fun i c e1=>?_,fun j m e1=>aI.mz j m e1⟩
  ·have iQ:gr.bl[j]? =some (some Ak):=e2
   rw[sW]at e1
   by_cases u4:x0=j
   ·subst u4
    rw[ak rfl,ak JN]at e1
    injection e1 with e1
    subst e1
    rw[cw]at iQ
    injection iQ with iQ
    injection iQ with iQ
    subst iQ
    exact⟨b1,⟨x0,b2,fun _=>rfl⟩,fun hn=>absurd rfl hn,HV,La,b4,bg _,fun hn=>absurd rfl hn,fun i hi=>absurd hi (da _)⟩
   ·rw[aq u4]at e1
    have Bm:=aI.box j q Ak e1 iQ
    by_cases Gh:q=[]
    ·subst Gh
     obtain⟨y1,⟨x,y2,_⟩,_,CK,Lb,y4,_⟩:=Bm
     exact⟨y1,⟨x,y2,fun hn=>absurd rfl hn⟩,fun hn=>absurd rfl hn,CK,Lb,y4,bg _,fun hn=>absurd rfl hn,fun i hi=>absurd hi (da _)⟩
    ·obtain⟨x,y1,y2⟩:=Bm.2.1
     obtain⟨k1,k2,k3⟩:=hk _ _ y1 (fun e=>by injection e with _ e;rw[y2 Gh]at e;exact u4 e.symm)
     exact Bm.cJ (G':=G') (w':=w) (by rw[ll];exact hle) (fun z e=>by rw[y1]at e;injection e with e;rw[←e];exact k1) k2 k3
  ·rcases ek e1 with⟨aC,e1⟩|⟨nx,rfl⟩
   ·have iQ:gr.tk[g]? =some U:=by
     rcases ek e2 with⟨_,e2⟩|⟨fF,_⟩
     ·exact e2
     ·rw[aI.iI]at fF;omega
    have ht:=aI.tok g m U e1 iQ
    have hs:∀(hn:m.isSome=true),G'.own U.blk=some (.tok k g)∧w.heap[U.blk]? =w.heap[U.blk]? ∧∀i,G.I U.blk i=none→G'.I U.blk i=none:=fun hn=>by
     obtain⟨q,hq⟩:=oC.1 hn
     exact hk _ _ (ht.2 q hq).2.1 (fun e=>by cases e)
    exact ht.cJ (fun hn=>(hs hn).1) (fun hn=>(hs hn).2.1) (fun hn=>(hs hn).2.2)
   ·have:U=T:=by
     rcases ek e2 with⟨fF,_⟩|⟨_,e⟩
     ·rw[aI.iI]at fF;omega
     ·exact e
    subst this
    exact⟨rfl,fun q hq=>by cases hq⟩
  ·have hm:=aI.mark i c e1
   obtain⟨k1,k2,_⟩:=hk _ _ hm.2.1 (fun e=>by cases e)
   exact hm.cJ k1 k2
 ·simp only[G']at e
  split at e
  ·exact e
  ·exact h.rel.fc c i v e
theorem agt (h:At P B0 w0 G k nl s w) {x v:AV} {z:Value} {s':ae} (hx:Rel G k nl x z) (hf:AY s x=some (v,s')):db P B0 w0 G k nl s s' w v z:=by
 cases x with
 |slice o es xs=>
  simp only[AY]at hf
  injection hf with hf
  injection hf with e1 e2
  subst e1 e2
  exact⟨G,h,bA.refl _ _ _,rfl,hx⟩
 | aO d b off es n cap =>
  simp only[AY]at hf
  split at hf
  case isFalse=>cases hf
  rename_i hd
  rw[h.gI]at hd
  subst hd
  obtain⟨cs,hb,hf⟩:=cX.1 hf
  split at hf
  ·cases hf
  rename_i qF
  split at hf
  case isFalse=>cases hf
  rename_i hle
  obtain⟨cs',hc,hf⟩:=aU.1 hf
  injection hf with e1 e2
  subst e1 e2
  have dw:cs≠[]:=fun e=>by rw[e]at qF;exact qF rfl
  obtain⟨blk,bI,rc,o0,rfl,_,hg,cw,hn,_,_,ho⟩:=hx.l3
  obtain⟨r,hr,qL,_,arr,ty,hw,cg,aT⟩:=h.box (aH _) hb hg cw
  obtain⟨c1,c2,c3⟩:=Ff hc cg.1 aT cg.2
  obtain⟨G',a1,a2,a3⟩:=anL h hr hg qL cw dw
  refine⟨G',a1,a2,by simp[ae.kill,ae.bp],.cl ?_⟩
  rcases vR n with fq|fq
  ·subst fq
   exact .slice (fun _ _=>Go.undef) (.inl rfl) (bg _) (fun r hr=>absurd hr (by simp[chunks])) (fun r hr=>absurd hr (by simp[chunks])) (fun i hi=>absurd hi (da _)) (fun i hi=>absurd hi (da _))
  have ho:=ho (.inl fq)
  subst ho
  have:=Ra (I:=G'.I) (cs:=cs') (es:=es) (n:=n) (cap:=rc) (blk:=blk) (o0:=0) (off:=o0) (f:=fun i=>arr.getD i Go.undef) c2 (fun i hi=>by
   have:i<arr.size:=by have:=cg.1;omega
   rw[fB,a3,cell_of_heap hw]
   simp[Array.getD,this]) (fun i hi=>(c3 i hi).mono a2.I) (by rw[c1];exact hle) hn
  unfold fL at this
  rw[(Fe es n (cs'.drop o0) (by simp[c1];omega)).1,fB]at this
  exact this
 |_=>cases hf
theorem adq (h:At P B0 w0 G k nl s w) {t e:TypeId} {es:Nat} {zs:List AV} {q:Nat} {ρ:Nat→AV} {a:Act} {v:AV} {s':ae} (hR:eu G k nl ρ a)
  (ht:P.underlying t=some (.slice e)) (hs:cK P e=some es) (hz:bV P e=some zs) (hle:1*es≤2^24) (hl:zs.length=es) (h0:0<es)
  (hb:yj s es zs (ρ q)=some (v,s')):
  ∃ z w', (Instr.buildSlice t 1 ((#[(0, Operand.tmp q)] : Array (Nat × Operand)).map fun (i, x) => (i, a.eval x))).run P w = .ok z w' ∧ db P B0 w0 G k nl s s' w' v z := by
 unfold yj at hb
 obtain⟨⟨x,s1⟩,h1,hb⟩:=cX.1 hb
 obtain⟨rs,h2,hb⟩:=aU.1 hb
 injection hb with e1 e2
 subst e1 e2
 obtain⟨G1,a1,a2,a3,a4⟩:=agt h (hR q) h1
 have Ov:eu G1 k nl (put q x ρ) a:=fun u=>by
  unfold put
  split
  ·rename_i hu
   subst hu
   exact a4
  ·exact(hR u).mono (a2.less (by omega) h.sH) (aH _) (aH _)
 have Pq:aE (put q x ρ) (.tmp q)=x:=by simp[aE,put]
 obtain ⟨z, w', r1, G2, b1, b2, b3, b4⟩ := Us (len := 1) (parts := #[(0, .tmp q)]) (rows := rs) a1 Ov ht hs hz rfl hle hl h0 (by
  rw[←h2]
  simp only[List.replicate_one,mo,Pq])
 exact⟨z,w',r1,G2,b1,a2.trans (by rw[←a3];exact b2),b3.trans a3,b4⟩
theorem UU {t e ty : TypeId} (ht : P.underlying t = some (.slice e)) (b : Option Addr) (c : Nat) : (Builtin.clear_ #[t] ty #[.slice b 0 c]).run P w = .ok (.tuple #[]) w := by
 cases b<;>simp[Builtin.clear_,run_underlying ht]
theorem aek {t e ty:TypeId} {z:Value} {b off n c:Nat} {arr:Array Value} {tb:TypeId} (ht:P.underlying t=some (.slice e)) (hz:(P.info? e).bind (·.zero)=some z) (hn:0<n) (hw:w.heap[b]? =some (.cells arr tb))
  (hle:off+(Builtin.zeroCells z.cells n).size≤arr.size) (h1:∀u,u∈(Builtin.zeroCells z.cells n).toList→u.oneCell'=true):
  (Builtin.clear_ #[t] ty #[.slice (some ⟨b, off, none⟩) n c]).run P w = .ok (.tuple #[]) (w.setCells b off (Builtin.zeroCells z.cells n).toList) := by
 have cp:=run_storeCells_cells (P:=P) b off (Builtin.zeroCells z.cells n).toList 0 w (fun j hj=>by
   have dH:j<(Builtin.zeroCells z.cells n).size:=by simpa using hj
   rw[cell_of_heap hw]
   simp;omega) (fun j _=>frozen_of_heap hw) h1
 rw[vQ]at cp
 cases n with
 |zero=>omega
 |succ n=>simp[Builtin.clear_,run_underlying ht,xG hz,cp]
theorem ael (h:At P B0 w0 G k nl s w) {t e ty:TypeId} {zs:List AV} (ht:P.underlying t=some (.slice e)) (hz:bV P e=some zs) (h0:0<zs.length) {a v:AV} {x:Value} {s':ae}
  (hx : Rel G k nl a x) (hc : wB s zs a = some (v, s')) : ∃ y w', (Builtin.clear_ #[t] ty #[x]).run P w = .ok y w' ∧ db P B0 w0 G k nl s s' w' v y := by
 obtain⟨z,h1,h2⟩:=uc hz
 have PL : ∀ G' : aG, Rel G' k nl (.tuple []) (.tuple #[]) := fun G' => .tuple rfl (fun i hi => absurd hi (da _))
 unfold wB at hc
 split at hc
 ·rename_i o es xs
  split at hc
  case isFalse=>cases hc
  rename_i qF
  injection hc with hc
  injection hc with e1 e2
  subst e1 e2
  have Gq:xs=[]:=by simpa using qF
  subst Gq
  obtain⟨b,c,rfl⟩:∃b c,x=.slice b 0 c:=by
   rcases hx.iF with⟨_,_,rfl⟩|⟨_,aa,c,rfl,_⟩
   ·exact⟨_,_,rfl⟩
   ·exact⟨_,_,rfl⟩
  exact⟨_,w,UU ht b c,G,h,bA.refl _ _ _,rfl,PL G⟩
 ·rename_i d b off es n cap
  obtain⟨blk,gr,rc,o0,rfl,hd,hg,cw,F8,_,hw,ho⟩:=hx.l3
  split at hc
  ·rename_i hn
   injection hc with hc
   injection hc with e1 e2
   subst e1 e2 hn
   exact⟨_,w,UU ht _ rc,G,h,bA.refl _ _ _,rfl,PL G⟩
  ·rename_i hn
   split at hc
   case isFalse=>cases hc
   rename_i dQ
   subst dQ
   obtain⟨m,hm,hc⟩:=aU.1 hc
   injection hc with e1 e2
   subst e1 e2
   have ho:=ho (.inl (by omega))
   subst ho
   obtain⟨c1,c2,c3⟩:=rH (I:=G.I) h2
   have akt:(Builtin.zeroCells z.cells n).size=n*zs.length:=by simp[Builtin.zeroCells,c1]
   have cg:Rel G k nl (.agg (List.replicate n zs).flatten) (.agg (Builtin.zeroCells z.cells n)):=by
    refine .agg (by rw[akt,tq]) (fun c hc=>?_) (fun q hq=>?_)
    ·obtain⟨r,hr,hc⟩:=ur.1 hc
     rw[(Hy.1 hr).2]at hc
     exact c2 c hc
    ·rw[tq]at hq
     have hg:=Jy zs (by omega) n q hq
     have F5:q%zs.length<zs.length:=sZ _ (by omega)
     rw[cM F5,cM (by rw[tq];exact hq)]at hg
     injection hg with hg
     rw[hg]
     have:=Lk (I:=G.I) h2 (by omega) q
     have e:(Builtin.zeroCells z.cells n).getD q Go.undef=z.cells[q%z.cells.size]! :=by
      have:q<n*z.cells.size:=by rw[c1];exact hq
      simp[Builtin.zeroCells,Array.getD,this]
     rw[e]
     exact .cl this
   obtain⟨fM,Qz,arr,tb,e1,q2,q3,q4,q5,q6⟩:=RA h (.ptr gr hd hg cw) cg hm
   injection e1 with e1
   injection e1 with e1
   injection e1 with e1 e2
   subst e1 e2
   have dw:(Value.agg (Builtin.zeroCells z.cells n)).cells=Builtin.zeroCells z.cells n:=rfl
   rw[dw]at q3 q5 q6
   obtain⟨G',a1,a2,a3,_⟩:=q6
   exact⟨_,_,aek ht h1 (by omega) q2 (by rw[q3];exact q4) q5,G',a1,a2,a3,PL G'⟩
 ·cases hc
theorem arQ (h:At P B0 w0 G k nl s w) {t e:TypeId} {es:Nat} {zs:List AV} {i:Nat} {x:Operand} {ax:aF} {ρ:Nat→AV} {a:Act} {v:AV} {s':ae} (hR:eu G k nl ρ a)
  (ht:P.underlying t=some (.slice e)) (hs:cK P e=some es) (hz:bV P e=some zs) (hle:1*es≤2^24) (hl:zs.length=es) (h0:0<es) (hx:dt x=some ax) (hi:i=0)
  (hb:rf s es (aE ρ ax)=some (v,s')):
  ∃ y w', (Instr.buildSlice t 1 ((#[(i, x)] : Array (Nat × Operand)).map fun (i, x) => (i, a.eval x))).run P w = .ok y w' ∧ db P B0 w0 G k nl s s' w' v y := by
 subst hi
 unfold rf at hb
 split at hb
 case isFalse=>cases hb
 rename_i bn
 obtain⟨hlen,fm,_⟩:=bn
 injection hb with hb
 injection hb with e1 e2
 subst e1 e2
 obtain⟨z,h1,h2⟩:=uc hz
 have hxv:=cZ hx hR
 obtain⟨bR,r5⟩:=hxv.cells fm
 have xh:(a.eval x).cells.size=es:=bR.trans hlen
 have J5:¬(1*es>2^24):=by omega
 have hn:¬(1*es=0):=by omega
 have cY : (Instr.buildSlice t 1 ((#[(0, x)] : Array (Nat × Operand)).map fun (i, x) => (i, a.eval x))).run P w = .ok (.slice (some ⟨w.heap.size, 0, none⟩) 1 1) (w.alloc (.cells (a.eval x).cells e)) := by
  have aiH:Instr.fill (fun i=>some (i*es,es)) ((Array.range (1*es)).map (z.cells[· %z.cells.size]!)) [(0,a.eval x)]=some (a.eval x).cells:=by
   simp only[Instr.fill]
   rw[aq (by simp[xh]),N7]
   congr 1
   refine Array.ext (by rw[xA];simp[xh]) fun i h1 h2=>?_
   have hg:=K4 (a.eval x).cells.toList ((Array.range (1*es)).map (z.cells[· %z.cells.size]!)) (0*es) i (by simp[xh])
   rw[ak (by simp;exact h2)]at hg
   have key:∀q:Array Value,∀h1:i<q.size,q.getD i Go.undef=q[i]:=fun q h1=>by simp[Array.getD,h1]
   rw[←key _ h1,hg]
   simp[h2]
  have hm : ((#[(0, x)] : Array (Nat × Operand)).map fun (i, x) => (i, a.eval x)).toList = [(0, a.eval x)] := by simp
  simp only[Instr.buildSlice,Sem.run_bind,run_underlying ht,Result.andThen_ok,jt hs,aq J5,aq hn,xG h1,Sem.run_pure,hm,aiH,newRow,run_newObj]
  rfl
 refine⟨_,_,cY,?_⟩
 exact(zw h e none (fun _ e=>by cases e) (fun e=>by rw[e]at hlen;simp at hlen;omega) (jw.1 fm) (ji.le ⟨bR,r5⟩)).2.2 es 1 1 1 (aH _) (aH _) (fun e=>by cases e)
end
end Go.Ax
/-
  Every operation but a call: what the executor gives is what the model does.
-/
namespace Go.Ax
open Go.RowKit
def jo:bX→Bool
 |.call .. |.jZ .. |.th .. |.tf .. |.qn .. |.wy .. |.wz .. |.rK .. =>true
 |_=>false
section
variable{P:Program} {B0:Nat} {w0:World} {G:aG} {k nl:Nat} {w:World} {s:ae}
def s6 (P:Program) (B0:Nat) (w0:World) (G:aG) (k nl:Nat) (s s':ae) (w:World) (v:AV) (m:Sem Next):Prop:=
 ∃w',(∃z,m.run P w=.ok (.value z) w'∧db P B0 w0 G k nl s s' w' v z)∨(m.run P w=.ok .skip w'∧db P B0 w0 G k nl s s' w' v Go.undef)
theorem s6.val {s':ae} {v:AV} {q:Sem Value} (h:∃z w',q.run P w=.ok z w'∧db P B0 w0 G k nl s s' w' v z):s6 P B0 w0 G k nl s s' w v (do pure (.value (←q))):=by
 obtain⟨z,w',h1,h2⟩:=h
 exact⟨w',.inl ⟨z,by simp[h1],h2⟩⟩
theorem s6.tS (h:At P B0 w0 G k nl s w) {v:AV} {q:Sem Value} (hq:∃z,q.run P w=.ok z w∧Rel G k nl v z):s6 P B0 w0 G k nl s s w v (do pure (.value (←q))):=by
 obtain⟨z,h1,h2⟩:=hq
 exact .val ⟨z,w,h1,.same h h2⟩
theorem kI {α β:Type} {o:Option α} {x:β} {p:α×β} (h:o.map (·,x)=some p):o=some p.1∧p.2=x:=by
 cases o with
 |none=>cases h
 |some y=>injection h with h;subst h;exact⟨rfl,rfl⟩
theorem U3 {op:BinOp} {t:TypeId} {x y:Operand} {o:bX} (h:NI P op t x y=some o):
  ∃a b,dt x=some a∧dt y=some b∧(o=.arith op a b∨∃neg BP kd c d,Fm op=some neg∧Fh P op neg t x y a b=some (.eqv BP kd c d)∧o=.eqv BP kd c d):=by
 unfold NI at h
 split at h
 ·rename_i a b ha hb
  refine⟨a,b,ha,hb,?_⟩
  split at h
  ·rename_i neg hn
   have h0:=h
   unfold Fh at h
   split at h<;>first
    |(cases h;done)
    |(injection h with h;subst h;first|exact .inl rfl|exact .inr ⟨_,_,_,_,_,hn,h0,rfl⟩)
    |skip
   ·split at h
    ·obtain⟨ks,_,rfl⟩:=aU.1 h
     exact .inr ⟨_,_,_,_,_,hn,h0,rfl⟩
    ·cases h
   ·split at h
    ·injection h with h;subst h;exact .inr ⟨_,_,_,_,_,hn,h0,rfl⟩
    ·cases h
  ·injection h with h
   exact .inl h.symm
 ·cases h
theorem vv {x:Option Operand} {ax:Option aF} {ρ:Nat→AV} {a:Act} (hc:AH x=some ax) (hR:eu G k nl ρ a):jM G k nl (qt (aE ρ) ax) (x.map a.eval):=by
 cases x with
 |none=>
  simp only[AH]at hc
  injection hc with hc
  subst hc
  trivial
 |some x=>
  simp only[AH]at hc
  obtain⟨y,hy,rfl⟩:=aU.1 hc
  exact cZ hy hR
theorem S7 {xs:List Operand} {as:List aF} {ρ:Nat→AV} {a:Act} (hc:fu dt xs=some as) (hR:eu G k nl ρ a):
  (xs.toArray.map a.eval).size=(as.map (aE ρ)).length∧∀i (hi:i<(as.map (aE ρ)).length),Rel G k nl (as.map (aE ρ))[i] ((xs.toArray.map a.eval).getD i Go.undef):=by
 obtain⟨l1,h1⟩:=vo hc
 refine⟨by simp[l1],fun i hi=>?_⟩
 have bD:i<as.length:=by simpa using hi
 have hx:i<xs.length:=by omega
 have:=cZ (h1 i hx bD) hR
 simpa[Array.getD,hx]using this
theorem adK (h : At P B0 w0 G k nl s w) {ρ : Nat → AV} {a : Act} (hR : eu G k nl ρ a) {ro own : Bool} {mu : Mu} {fr : Option (List (List AV))} {call : aZ} {jx : bX} {v : AV} {s' : ae} {c : Call} {ty : TypeId} (hc : AE P ro own mu fr c = some jx) (hn : jo jx = false) (hv : aN call (aE ρ) s jx = some (v, s')) :
  s6 P B0 w0 G k nl s s' w v (do let d←resolve a.eval c ty;invoke d.target d.args):=by
 unfold AE at hc
 split at hc
 ·cases hc
 rename_i as has
 have pS:=S7 has hR
 split at hc
 ·injection hc with hc;subst hc;repeat' split at hn
  all_goals simp[jo]at hn
 ·obtain⟨y,_,rfl⟩:=aU.1 hc
  simp[jo]at hn
 ·cases hc
 ·rename_i b hb
  have jF:∀(m:Sem Next),(do let d←resolve a.eval c ty;invoke d.target d.args:Sem Next).run P w=m.run P w→s6 P B0 w0 G k nl s s' w v m→s6 P B0 w0 G k nl s s' w v (do let d←resolve a.eval c ty;invoke d.target d.args):=fun m e ho=>by
   unfold s6 at ho⊢
   rw[e]
   exact ho
  obtain⟨cons,cY⟩:∃cons:Array Bool,(do let d←resolve a.eval c ty;invoke d.target d.args:Sem Next).run P w=(builtin b c.argTypes ty cons (c.args.map a.eval)).run P w:=by
   have hr:resolve a.eval c ty=pure {target:=.builtin b c.argTypes ty (c.args.map fun|.const _=>true|_=>false),args:=c.args.map a.eval}:=by
    simp only[resolve,hb]
    rfl
   exact⟨c.args.map fun|.const _=>true|_=>false,by rw[hr];rfl⟩
  refine jF _ cY ?_
  clear jF cY
  split at hc
  · -- append
   rename_i x y t u e1
   have iS : c.argTypes = #[t, u] := by
    have:=hU List.toArray e1
    simpa using this
   split at hc
   ·rename_i e e' ht hu
    split at hc
    ·rename_i sz n z hs iV hz
     split at hc
     ·rename_i bn
      injection hc with hc
      subst hc
      obtain⟨c1,c2,c3,c4⟩:=bn
      obtain⟨zv,z1,z2⟩:=uc hz
      have hzl:=(rH (I:=G.I) z2).1
      obtain⟨l1,h1⟩:=vo has
      have oe:c.args.toList.length=2:=by simpa using l1.symm
      obtain⟨xx,yy,eE⟩:∃xx yy,c.args.toList=[xx,yy]:=by
       match hh:c.args.toList,oe with
       |[xx,yy],_=>exact⟨xx,yy,rfl⟩
      have nZ : c.args = #[xx, yy] := by
       have:=hU List.toArray eE
       simpa using this
      have hx:=cZ (by simpa[eE]using h1 0 (by omega) (by simp)) hR
      have hy:=cZ (by simpa[eE]using h1 1 (by omega) (by simp)) hR
      have hT:uh P t e sz n zv:=⟨ht,hs,iV,z1,by rw[hzl];exact c4,c1,c2,c3⟩
      obtain ⟨x', w', r1, r2⟩ : ∃ x' w', (Builtin.append_ #[t, u] ty #[a.eval xx, a.eval yy]).run P w = .ok x' w' ∧ db P B0 w0 G k nl s s' w' v x' := by
       cases Xc:(if mu.rows then mu.home else none:Option aF)with
       |some hh=>rw[Xc]at hv;exact acp h (ty:=ty) hT ⟨e',hu⟩ hx hy hv
       |none=>
       rw[Xc]at hv
       cases JX:mu.grow with
       |false=>rw[JX]at hv;exact acm h (ty:=ty) hT ⟨e',hu⟩ hx hy hv
       | true =>
        rw[JX]at hv
        cases pV:mu.fresh&&decide (n≤8*sz)with
        |false=>rw[pV]at hv;exact S0 h (ty:=ty) hT ⟨e',hu⟩ hx hy hv
        |true=>
         rw[pV]at hv
         have uY:n≤8*sz:=KM (Bool.and_eq_true_iff.1 pV).2
         exact acn h (ty:=ty) hT uY ⟨e',hu⟩ hx hy hv
      refine .val ⟨x',w',?_,r2⟩
      rw[iS,nZ]
      simpa using r1
     ·cases hc
    ·cases hc
   ·cases hc
  · -- len
   rename_i x t e1
   have iS : c.argTypes = #[t] := by
    have:=hU List.toArray e1
    simpa using this
   obtain⟨l1,h1⟩:=vo has
   have Bo:c.args.toList.length=1:=by simpa using l1.symm
   obtain⟨xx,zn⟩:∃xx,c.args.toList=[xx]:=by
    match hh:c.args.toList,Bo with
    |[xx],_=>exact⟨xx,rfl⟩
   have nZ : c.args = #[xx] := by
    have:=hU List.toArray zn
    simpa using this
   have hx:=cZ (by simpa[zn]using h1 0 (by omega) (by simp)) hR
   split at hc
   ·rename_i e ht
    injection hc with hc
    subst hc
    obtain⟨q1,q2⟩:=kI hv
    simp only at q2
    subst q2
    have:=YD (P:=P) (w:=w) (ty:=ty) (.inl ⟨rfl,e,ht⟩) hx q1
    rw[iS,nZ]
    exact .tS h (by simpa using this)
   ·rename_i ht
    injection hc with hc
    subst hc
    obtain⟨q1,q2⟩:=kI hv
    simp only at q2
    subst q2
    have:=YD (P:=P) (w:=w) (ty:=ty) (.inr ⟨rfl,ht⟩) hx q1
    rw[iS,nZ]
    exact .tS h (by simpa using this)
   ·rename_i n e ht
    injection hc with hc
    subst hc
    simp only[aN,fl,Cu]at hv
    obtain⟨rfl,rfl⟩:=hv
    rw[iS,nZ]
    refine .tS h ⟨.int .i64 n,?_,.val _ rfl⟩
    simp[Builtin.len_,run_underlying ht,goInt]
   ·cases hc
  · -- copy
   rename_i x y t u e1
   have iS : c.argTypes = #[t, u] := by
    have:=hU List.toArray e1
    simpa using this
   split at hc
   ·rename_i e ht
    split at hc
    ·rename_i hs
     injection hc with hc
     subst hc
     obtain⟨l1,h1⟩:=vo has
     have oe:c.args.toList.length=2:=by simpa using l1.symm
     obtain⟨xx,yy,eE⟩:∃xx yy,c.args.toList=[xx,yy]:=by
      match hh:c.args.toList,oe with
      |[xx,yy],_=>exact⟨xx,yy,rfl⟩
     have nZ : c.args = #[xx, yy] := by
      have:=hU List.toArray eE
      simpa using this
     have hx:=cZ (by simpa[eE]using h1 0 (by omega) (by simp)) hR
     have hy:=cZ (by simpa[eE]using h1 1 (by omega) (by simp)) hR
     obtain⟨x',w',r1,r2⟩:=aeF h (ty:=ty) (u:=u) ht hs hx hy hv
     refine .val ⟨x',w',?_,r2⟩
     rw[iS,nZ]
     simpa using r1
    ·cases hc
   ·cases hc
  · -- clear
   rename_i x t e1
   have iS : c.argTypes = #[t] := by
    have:=hU List.toArray e1
    simpa using this
   split at hc
   ·rename_i e ht
    split at hc
    ·rename_i sz zs hs hz
     split at hc
     ·rename_i bn
      injection hc with hc
      subst hc
      obtain⟨l1,h1⟩:=vo has
      have Bo:c.args.toList.length=1:=by simpa using l1.symm
      obtain⟨xx,zn⟩:∃xx,c.args.toList=[xx]:=by
       match hh:c.args.toList,Bo with
       |[xx],_=>exact⟨xx,rfl⟩
      have nZ : c.args = #[xx] := by
       have:=hU List.toArray zn
       simpa using this
      have hx:=cZ (by simpa[zn]using h1 0 (by omega) (by simp)) hR
      obtain⟨x',w',r1,r2⟩:=ael h (ty:=ty) ht hz (by rw[bn.2];exact bn.1) hx hv
      refine .val ⟨x',w',?_,r2⟩
      rw[iS,nZ]
      simpa using r1
     ·cases hc
    ·cases hc
   ·cases hc
  · -- max
   injection hc with hc
   subst hc
   obtain⟨q1,q2⟩:=kI hv
   simp only at q2
   subst q2
   obtain⟨z,r1,r2⟩:=YT (P:=P) (w:=w) (mx:=true) c.argTypes ty pS.1 pS.2 q1
   exact .tS h ⟨z,by simpa using r1,r2⟩
  ·injection hc with hc
   subst hc
   obtain⟨q1,q2⟩:=kI hv
   simp only at q2
   subst q2
   obtain⟨z,r1,r2⟩:=YT (P:=P) (w:=w) (mx:=false) c.argTypes ty pS.1 pS.2 q1
   exact .tS h ⟨z,by simpa using r1,r2⟩
  ·cases hc
theorem aqe (h : At P B0 w0 G k nl s w) {ρ : Nat → AV} {a : Act} (hR : eu G k nl ρ a) {md : Md} {call : aZ} {jx : bX} {v : AV} {s' : ae} {o : Oper} (hc : gH P md o.op = some jx) (hn : jo jx = false) (hv : aN call (aE ρ) s jx = some (v, s')) :
  s6 P B0 w0 G k nl s s' w v (execOp a.eval o):=by
 obtain⟨dst,op,ty,pos,after,guard⟩:=o
 simp only at hc
 have nG:∀{r:Option AV} {q:Sem Value},r.map (·,s)=some (v,s')→(r=some v→∃z,q.run P w=.ok z w∧Rel G k nl v z)→s6 P B0 w0 G k nl s s' w v (do pure (.value (←q))):=fun e f=>by
  obtain⟨q1,q2⟩:=kI e
  simp only at q1 q2
  subst q2
  exact .tS h (f q1)
 cases op with
 |move x=>
  obtain⟨y,hy,rfl⟩:=aU.1 hc
  simp only[aN,fl,Cu]at hv
  obtain⟨rfl,rfl⟩:=hv
  exact⟨w,.inl ⟨a.eval x,rfl,.same h (cZ hy hR)⟩⟩
 |assign x=>
  obtain⟨y,hy,rfl⟩:=aU.1 hc
  simp only[aN,fl,Cu]at hv
  obtain⟨rfl,rfl⟩:=hv
  exact⟨w,.inl ⟨a.eval x,rfl,.same h (cZ hy hR)⟩⟩
 | pick x y z =>
  simp only[gH]at hc
  split at hc
  ·rename_i ax ay az e1 e2 e3
   injection hc with hc
   subst hc
   obtain⟨q1,q2⟩:=kI hv
   simp only at q1 q2
   subst q2
   obtain⟨u,r1,r2⟩:=aqD (cZ e1 hR) (cZ e2 hR) (cZ e3 hR) q1
   refine⟨w,.inl ⟨_,?_,.same h r2⟩⟩
   simp[execOp,r1,asBool]
  ·cases hc
 | alloc e =>
  simp only[gH]at hc
  split at hc
  ·obtain⟨zs,hz,rfl⟩:=aU.1 hc
   simp only[aN]at hv
   split at hv
   ·cases hv
   rename_i aB
   simp only[fl]at hv
   obtain⟨z,z1,z2⟩:=uc hz
   obtain⟨c1,c2,c3⟩:=rH (I:=G.I) z2
   have:=(zw h (arr:=z.cells) e none (fun _ e=>by cases e) (fun e=>aB (by rw[e];rfl)) c2 (ji.le ⟨c1,fun i hi=>.cl (c3 i hi)⟩)).1
   rw[hv]at this
   refine .val ⟨_,_,?_,this⟩
   simp only[Instr.alloc,Sem.run_bind,xG z1,Result.andThen_ok]
   simp[newVar,newRow]
  ·obtain⟨zs,hz,rfl⟩:=aU.1 hc
   simp only[aN]at hv
   obtain⟨z,z1,z2⟩:=uc hz
   obtain⟨c1,c2,c3⟩:=rH (I:=G.I) z2
   refine .val ⟨_,_,?_,asR h e c2 ⟨c1,fun i hi=>.cl (c3 i hi)⟩ hv⟩
   simp only[Instr.alloc,Sem.run_bind,xG z1,Result.andThen_ok]
   simp[newVar,newRow]
 | box e x =>
  simp only[gH]at hc
  split at hc
  ·rename_i n y e1 e2
   injection hc with hc
   subst hc
   simp only[aN,yh]at hv
   split at hv
   ·rename_i bn
    injection hv with hv
    have hx:=cZ e2 hR
    have cg:=hx.cells bn.2.1
    have:=(zw h (arr:=(a.eval x).cells) e none (fun _ e=>by cases e) (fun e=>by have h1:=bn.1;have h2:=bn.2.2;rw[e]at h1;simp at h1;omega) (jw.1 bn.2.1) cg.le).1
    rw[hv]at this
    refine .val ⟨_,_,?_,this⟩
    simp[Instr.box,newVar,newRow]
   ·cases hv
  ·cases hc
 | build t parts =>
  simp only[gH]at hc
  split at hc
  ·rename_i z fs e1 e2
   split at hc
   ·rename_i fm
    obtain⟨ps,xd,rfl⟩:=aU.1 hc
    simp only[aN]at hv
    obtain⟨cs,dw,hv⟩:=aU.1 hv
    injection hv with h1 h2
    subst h1 h2
    exact .tS h (adt hR e1 e2 fm xd dw)
   ·cases hc
  ·rename_i z n e e1 e2
   split at hc
   ·rename_i sz e3
    obtain⟨ps,xd,rfl⟩:=aU.1 hc
    simp only[aN]at hv
    obtain⟨cs,dw,hv⟩:=aU.1 hv
    injection hv with h1 h2
    subst h1 h2
    exact .tS h (adn hR e1 e2 e3 xd dw)
   ·cases hc
  ·cases hc
 | buildSlice t len parts =>
  simp only[gH]at hc
  split at hc
  ·rename_i e ht
   split at hc
   ·rename_i sz z ps e1 e2 e3
    split at hc
    ·rename_i bn
     injection hc with hc
     split at hc
     ·rename_i q hq
      subst hc
      obtain⟨i,rfl,rfl,rfl⟩:∃i,len=1∧i=0∧ps=[(i,q)]:=by
       unfold Y9 at hq
       split at hq
       case h_2=>cases hq
       split at hq
       case isFalse=>cases hq
       rename_i eV
       injection hq with hq
       subst hq
       exact⟨_,eV.2.1,eV.2.2,rfl⟩
      obtain ⟨xx, cD, zn⟩ : ∃ xx, parts = #[(0, xx)] ∧ dt xx = some q := by
       match hh:parts.toList,e3 with
       |[],e3=>simp[uH]at e3
       | [(j, y)], e3 =>
        simp only[uH]at e3
        split at e3
        ·rename_i y' s1 q1 q2
         injection e3 with e3
         injection e3 with e3 e4
         injection e3 with e5 e6
         injection q2 with q2
         subst e5 e6
         have:=hU List.toArray hh
         exact⟨y,by simpa using this,q1⟩
        ·cases e3
       | p1 :: p2 :: r, e3 =>
        simp only[uH]at e3
        split at e3
        ·rename_i y' s1 q1 q2
         injection e3 with e3
         injection e3 with e3 e4
         subst e4
         split at q2
         ·injection q2 with q2;cases q2
         ·cases q2
        ·cases e3
      subst cD
      exact .val (arQ h hR ht e1 e2 bn.1 bn.2.1 bn.2.2 zn rfl hv)
     split at hc
     ·rename_i q hq
      subst hc
      obtain ⟨rfl, hp⟩ : len = 1 ∧ parts = #[(0, .tmp q)] := by
       unfold Zb at hq
       split at hq
       case h_2=>cases hq
       rename_i i t' cD
       split at hq
       case h_2=>cases hq
       split at hq
       case isFalse=>cases hq
       rename_i eV
       injection hq with hq
       subst hq
       obtain⟨_,rfl,rfl⟩:=eV
       refine⟨rfl,?_⟩
       have:=hU List.toArray cD
       simpa using this
      subst hp
      exact .val (adq h hR ht e1 e2 bn.1 bn.2.1 bn.2.2 hv)
     ·subst hc
      simp only[aN]at hv
      obtain⟨rs,fQ,hv⟩:=aU.1 hv
      injection hv with h1 h2
      subst h1 h2
      exact .val (Us h hR ht e1 e2 e3 bn.1 bn.2.1 bn.2.2 fQ)
    ·cases hc
   ·cases hc
  ·cases hc
 | load t x =>
  simp only[gH]at hc
  split at hc
  ·rename_i g n y e1 e2 e3
   injection hc with hc
   split at hc
   ·split at hc
    ·subst hc
     refine nG hv fun e=>KC h (cZ e3 hR) ?_ e1 e2
     unfold zr at e
     split at e
     ·split at e
      ·cases e
      ·rename_i hx _;rw[hx];exact e
     ·exact e
    ·subst hc
     exact nG hv fun e=>KC h (cZ e3 hR) e e1 e2
   ·subst hc
    refine nG hv fun e=>KC h (cZ e3 hR) ?_ e1 e2
    unfold xq at e
    split at e
    ·split at e
     ·cases e
     ·rename_i hx _;rw[hx];exact e
    ·exact e
  ·cases hc
 | store t x y =>
  simp only[gH]at hc
  split at hc
  ·rename_i n ax ay e1 e2 e3
   injection hc with hc
   have hm:∃m,s'=m∧v=AV.undef∧s.store n (aE ρ ax) (aE ρ ay)=some m:=by
    split at hc
    ·subst hc
     simp only[aN]at hv
     obtain⟨m,hm,hv⟩:=aU.1 hv
     injection hv with h1 h2
     exact⟨m,h2.symm,h1.symm,hm⟩
    ·subst hc
     simp only[aN]at hv
     obtain⟨m,hm,hv⟩:=aU.1 hv
     injection hv with h1 h2
     refine⟨m,h2.symm,h1.symm,?_⟩
     unfold yD at hm
     split at hm
     ·split at hm
      ·rename_i hx _;rw[hx];exact hm
      ·cases hm
     ·cases hm
   obtain⟨m,rfl,rfl,hm⟩:=hm
   obtain⟨w',r1,r2⟩:=as5 h (cZ e2 hR) (cZ e3 hR) e1 hm
   exact⟨w',.inr ⟨by simp[execOp,r1],r2⟩⟩
  ·cases hc
 |nilCheck x=>
  obtain⟨y,hy,rfl⟩:=aU.1 hc
  obtain⟨q1,q2⟩:=kI hv
  simp only at q1 q2
  subst q2
  obtain⟨r1,n1,n2,n3,n4⟩:=ao6 (cZ hy hR) q1
  refine⟨w,.inl ⟨a.eval x,?_,.same h r1⟩⟩
  unfold execOp
  simp only
  rfl
 | binOp op t x y yt =>
  obtain⟨ax,ay,e1,e2,hq⟩:=U3 hc
  rcases hq with rfl|⟨neg,BP,kd,c,d,w7,hm,rfl⟩
  ·refine nG hv fun e=>?_
   obtain⟨z,r1,r2,r3,r4⟩:=acN (P:=P) (w:=w) t (cZ e1 hR) (cZ e2 hR) e
   exact⟨z,by simp[yz r3 r4,r1],r2⟩
  ·simp only[aN]at hv
   obtain⟨t',PH,hv⟩:=aU.1 hv
   injection hv with h1 h2
   subst h1 h2
   exact .tS h ⟨_,afh w7 (cZ e1 hR) (cZ e2 hR) hm PH,.val _ rfl⟩
 |unOp op t x=>
  obtain⟨y,hy,rfl⟩:=aU.1 hc
  exact nG hv fun e=>atg (cZ hy hR) e
 | convert src dst x =>
  simp only[gH]at hc
  obtain⟨y,hy,hc⟩:=cX.1 hc
  have hk:∃kd,jx=.conv kd y:=by
   unfold Fg at hc
   split at hc
   ·injection hc with hc;exact⟨_,hc.symm⟩
   ·injection hc with hc;exact⟨_,hc.symm⟩
   ·split at hc
    ·injection hc with hc;exact⟨_,hc.symm⟩
    ·cases hc
   ·split at hc
    ·injection hc with hc;exact⟨_,hc.symm⟩
    ·cases hc
   ·cases hc
  obtain⟨kd,rfl⟩:=hk
  obtain⟨q1,q2⟩:=kI hv
  simp only at q1 q2
  subst q2
  exact .val (aeD (x:=x) (op:=.BG 0) h hc (cZ hy hR) q1)
 | makeInterface t x =>
  simp only[gH]at hc
  split at hc
  ·cases hc
  ·rename_i d hni hd
   obtain⟨y,hy,rfl⟩:=aU.1 hc
   refine nG hv fun e=>⟨.iface t (a.eval x),?_,akx (cZ hy hR) e⟩
   simp only[Instr.makeInterface,Sem.run_bind,run_underlying hd,Result.andThen_ok]
   cases d<;>first|(exact absurd hd (hni _))|rfl
  ·cases hc
 | makeFunc fn first caps =>
  cases fn with
  | func f =>
   simp only[gH]at hc
   split at hc
   ·rename_i af ac e1 e2
    injection hc with hc
    subst hc
    simp only[aN]at hv
    split at hv
    ·rename_i aT
     injection hv with hv
     injection hv with h1 h2
     subst h1 h2
     have:=aoQ (f:=f) hR e1 e2 aT
     exact .tS h ⟨_,by simp[Instr.makeFunc];rfl,by simpa using this⟩
    ·cases hv
   ·cases hc
  |_=>simp[gH]at hc
 | makeSlice t l c =>
  simp only[gH]at hc
  split at hc
  ·rename_i e ht
   split at hc
   ·rename_i sz n z al ac e1 e2 e3 e4 e5
    split at hc
    ·rename_i bn
     injection hc with hc
     subst hc
     cases pW:md.mu.grow&&!md.mu.only.isEmpty with
     |false=>rw[pW]at hv;exact .val (aoR h ht e1 e2 e3 bn.2.2 bn.1 bn.2.1 (cZ e4 hR) (cZ e5 hR) hv)
     |true=>rw[pW]at hv;exact .val (aoS h ht e1 e2 e3 bn.2.2 bn.1 bn.2.1 (cZ e4 hR) (cZ e5 hR) hv)
    ·cases hc
   ·cases hc
  ·cases hc
 | slice t x lo hi mx =>
  simp only[gH]at hc
  split at hc
  ·rename_i ax al ah am e1 e2 e3 e4
   split at hc
   ·rename_i ht
    injection hc with hc
    subst hc
    exact nG hv fun e=>Ru (kd:=.str) ht (cZ e1 hR) (vv e2 hR) (vv e3 hR) (vv e4 hR) e
   ·rename_i e0 ht
    obtain⟨sz,bR,rfl⟩:=aU.1 hc
    exact nG hv fun e=>Ru (kd:=.sl sz) ⟨e0,ht,bR⟩ (cZ e1 hR) (vv e2 hR) (vv e3 hR) (vv e4 hR) e
   ·rename_i n e0 ht
    obtain⟨sz,bR,rfl⟩:=aU.1 hc
    exact nG hv fun e=>Ru (kd:=.arr n sz) ⟨e0,ht,bR⟩ (cZ e1 hR) (vv e2 hR) (vv e3 hR) (vv e4 hR) e
   ·cases hc
  ·cases hc
 | fieldAddr t x i =>
  simp only[gH]at hc
  split at hc
  ·rename_i fs ax ht e1
   split at hc
   ·rename_i f hf
    split at hc
    ·rename_i n iV
     split at hc
     ·rename_i h0
      injection hc with hc
      subst hc
      exact nG hv fun e=>af7 ht hf iV h0 (cZ e1 hR) e
     ·cases hc
    ·cases hc
   ·cases hc
  ·cases hc
 | field t x i =>
  simp only[gH]at hc
  split at hc
  ·rename_i fs ax ht e1
   split at hc
   ·rename_i f hf
    split at hc
    ·rename_i g n hg iV
     injection hc with hc
     subst hc
     exact nG hv fun e=>af9 ht hf hg iV (cZ e1 hR) e
    ·cases hc
   ·cases hc
  ·cases hc
 | indexAddr t x i =>
  simp only[gH]at hc
  split at hc
  ·rename_i ax ai e1 e2
   split at hc
   ·rename_i n e0 ht
    obtain⟨sz,bR,rfl⟩:=aU.1 hc
    exact nG hv fun e=>akH ht bR (cZ e1 hR) (cZ e2 hR) e
   ·rename_i e0 ht
    obtain⟨sz,bR,rfl⟩:=aU.1 hc
    exact nG hv fun e=>akJ ht bR (cZ e1 hR) (cZ e2 hR) e
   ·cases hc
  ·cases hc
 | index t x i =>
  simp only[gH]at hc
  split at hc
  ·rename_i ax ai e1 e2
   split at hc
   ·rename_i n e0 ht
    split at hc
    ·rename_i g sz hg bR
     injection hc with hc
     subst hc
     exact nG hv fun e=>akL ht hg bR (cZ e1 hR) (cZ e2 hR) e
    ·cases hc
   ·rename_i ht
    injection hc with hc
    subst hc
    exact nG hv fun e=>akK ht (cZ e1 hR) (cZ e2 hR) e
   ·cases hc
  ·cases hc
 |extract x i=>
  obtain⟨y,hy,rfl⟩:=aU.1 hc
  exact nG hv fun e=>afs (cZ hy hR) e
 |call c=>exact adK h hR (ty:=ty) hc hn hv
 |panic x=>
  simp only[gH]at hc
  injection hc with hc
  subst hc
  simp[aN,aE,zz]at hv
 |_=>simp[gH]at hc
end
end Go.Ax
/-
  An activation begins, and ends.
-/
namespace Go.Ax
open Go.RowKit
section
variable{P:Program} {B0:Nat} {w0:World} {G:aG} {k nl:Nat} {w:World} {s:ae}
def aG.kh (G:aG) (nl:Nat):aG:={G with ag:=G.ag++[⟨[],[],nl,[],fun _=>none⟩]}
theorem aG.KY (G:aG) (n:Nat) (k nl:Nat):bA k nl G (G.kh n):=
 ⟨fun _ _ _ e=>e,fun _ gr _ e=>⟨gr,my e,.refl gr,fun _=>rfl⟩,fun _ _ _ e=>e⟩
theorem QR (h:cu P B0 w0 G s w):At P B0 w0 (G.kh s.loops.length) s.ag.length s.loops.length (s.push ⟨[],[]⟩) w:=by
 have hle:=G.KY s.loops.length
 have hk:jv (fun _=>False) G w (G.kh s.loops.length) w:=fun b o e _=>⟨e,rfl,fun _ e=>e⟩
 have gy:(G.kh s.loops.length).ag[s.ag.length]? =some ⟨[],[],s.loops.length,[],fun _=>none⟩:=by
  simp[aG.kh,←h.len]
 refine⟨⟨h.fc,by simp[aG.kh,ae.push,h.len],h.jG,fun d r gr h1 h2=>?_,fun l lp r h1 h2=>?_,fun d gr h1=>?_,fun d d' gr bI hd h1 h2=>?_,h.below,h.low,h.eM⟩,by simp[ae.push],_,gy,rfl⟩
 ·rcases ek h1 with⟨hd,h1⟩|⟨hd,rfl⟩
  ·rcases ek h2 with⟨_,h2⟩|⟨tE,_⟩
   ·exact(h.cI d r gr h1 h2).cJ (hle _ _) hk (fun o ho=>ho.elim)
   ·rw[h.len]at tE;omega
  ·rcases ek h2 with⟨tE,_⟩|⟨_,rfl⟩
   ·rw[h.len]at tE;omega
   ·exact⟨rfl,rfl,fun b cs blk e=>by simp at e,fun b blk e=>by simp at e,fun g n T e=>by simp at e,fun i b e=>by simp at e,fun b n e=>by cases e⟩
 ·have hr:=h.loop l lp r h1 h2
  obtain⟨k1,k2,_⟩:=hk _ _ hr.2.1 (fun x=>x)
  exact hr.cJ (fun k nl _ _=>hle k nl) (by simp[aG.kh]) k1 k2
 ·rcases ek h1 with⟨_,h1⟩|⟨_,rfl⟩
  ·exact h.pr d gr h1
  ·exact aH _
 ·rcases ek h1 with⟨oW,h1⟩|⟨oW,rfl⟩
  ·rcases ek h2 with⟨_,h2⟩|⟨_,rfl⟩
   ·exact h.qZ d d' gr bI hd h1 h2
   ·exact h.pr d gr h1
  ·rcases ek h2 with⟨oX,_⟩|⟨_,rfl⟩
   ·omega
   ·exact aH _
def aG.kX (G:aG) (k n:Nat):aG:=
 {G with ag:=G.ag.modify k fun q=>{q with marks:=q.marks.take n},own:=fun b=>match G.own b with
  |some (.mark d i)=>if d=k∧n≤i then none else some (.mark d i)
  |o=>o}
theorem aG.AO (G:aG) (k nl n:Nat) {k':Nat} (hk:k'≤k):bA k' nl G (G.kX k n):=
 ⟨fun _ _ _ e=>e,fun d gr hd e=>by
  by_cases eQ:k=d
  ·subst eQ
   exact⟨{gr with marks:=gr.marks.take n},by simp only[aG.kX,dM,ak,e];rfl,⟨fun _ _ e=>e,fun _ T e=>⟨T,e,.refl T⟩,rfl,fun _ _ e=>e⟩,fun aC=>by omega⟩
  ·exact⟨gr,by simp only[aG.kX,dM,aq eQ,e],.refl gr,fun _=>rfl⟩,fun _ _ _ e=>e⟩
theorem aG.Jk {G:aG} {k n b:Nat} {o:rA} (h:G.own b=some o) (ho:∀i,n≤i→o≠.mark k i):(G.kX k n).own b=some o:=by
 simp only[aG.kX,h]
 cases o with
 |mark d i=>
  simp only
  rw[aq (fun e=>ho i e.2 (by rw[e.1]))]
 |_=>rfl
theorem Vp (h:At P B0 w0 G k nl s w) (n:Nat):At P B0 w0 (G.kX k n) k nl s w:=by
 have hlen:G.ag.length=k+1:=by rw[h.rel.len,h.len]
 have hk:jv (fun o=>∃i,n≤i∧o=.mark k i) G w (G.kX k n) w:=fun b o e ho=>⟨aG.Jk e (fun i hi e=>ho ⟨i,hi,e⟩),rfl,fun _ e=>e⟩
 have dR:∀(d:Nat) (gr:cH),(G.kX k n).ag[d]? =some gr→∃iA,G.ag[d]? =some iA∧gr.nl=iA.nl∧gr.bl=iA.bl∧gr.tk=iA.tk∧gr.gs=iA.gs∧(d≠k→gr=iA)∧(d=k→gr.marks=iA.marks.take n):=fun d gr e=>by
  simp only[aG.kX,dM]at e
  by_cases hd:k=d
  ·rw[ak hd]at e
   obtain⟨g0,h1,rfl⟩:=aU.1 e
   exact⟨g0,h1,rfl,rfl,rfl,rfl,fun aB=>absurd hd.symm aB,fun _=>rfl⟩
  ·rw[aq hd]at e
   exact⟨gr,e,rfl,rfl,rfl,rfl,fun _=>rfl,fun e=>absurd e.symm hd⟩
 have hs : cu P B0 w0 (G.kX k n) s w := by
  refine⟨h.rel.fc,by simp[aG.kX,h.rel.len],h.rel.jG,fun d r gr h1 h2=>?_,fun l lp r h1 h2=>?_,fun d gr h1=>?_,fun d d' gr bI hd h1 h2=>?_,h.rel.below,h.rel.low,fun b o e=>?_⟩
  ·obtain⟨g0,e0,e1,e2,e3,e6,e4,e5⟩:=dR d gr h2
   have hr:=h.rel.cI d r g0 h1 e0
   have eQ:d≤k:=by have:=(bd.1 h1).1;rw[h.len]at this;omega
   by_cases hd:d=k
   ·subst hd
    refine⟨by rw[e2];exact hr.dX,by rw[e3];exact hr.iI,fun b cs blk a1 a2=>?_,fun b blk a1=>hr.full b blk (by rw[←e2];exact a1),fun g n T a1 a2=>?_,fun i b a1=>?_,fun b n a1=>by rw[e2];rw[e6]at a1;exact hr.mz b n a1⟩
    ·rw[e2]at a2
     have hb:=hr.box b cs blk a1 a2
     rw[e1,e6]
     exact hb.cJ (G.AO d _ n (aH _)) (fun x e=>aG.Jk e (fun i _ e=>by cases e)) rfl (fun _ e=>e)
    ·rw[e3]at a2
     have ht:=hr.tok g n T a1 a2
     refine ht.cJ (fun hn=>?_) (fun _=>rfl) (fun _ _ e=>e)
     obtain⟨m,hm⟩:=oC.1 hn
     exact aG.Jk (ht.2 m hm).2.1 (fun i _ e=>by cases e)
    ·rw[e5 rfl,xP]at a1
     split at a1
     ·rename_i bH
      have hm:=hr.mark i b a1
      exact hm.cJ (aG.Jk hm.2.1 (fun i' hi e=>by injection e with _ e;omega)) rfl
     ·cases a1
   ·rw[e4 hd]
    refine hr.cJ (G.AO k _ n eQ) hk (fun o ho=>?_)
    obtain⟨i,_,rfl⟩:=ho
    refine⟨fun _ e=>by(cases e),fun _ e=>by(cases e),fun _ e=>?_⟩
    injection e with e _
    exact hd e.symm
  ·have hr:=h.rel.loop l lp r h1 h2
   obtain⟨k1,k2,_⟩:=hk _ _ hr.2.1 (fun⟨i,_,e⟩=>by cases e)
   exact hr.cJ (fun k' gB a1 _=>G.AO k _ n (by omega)) (by simp[aG.kX]) k1 k2
  ·obtain⟨g0,e0,e1,_⟩:=dR d gr h1
   rw[e1]
   exact h.rel.pr d g0 e0
  ·obtain⟨g0,e0,e1,_⟩:=dR d gr h1
   obtain⟨g0',e0',j4,_⟩:=dR d' bI h2
   rw[e1,j4]
   exact h.rel.qZ d d' g0 g0' hd e0 e0'
  ·simp only[aG.kX]at e
   cases ho:G.own b with
   |none=>rw[ho]at e;cases e
   |some o'=>exact h.rel.eM b o' ho
 exact h.to hs (G.AO k nl n (aH _)) rfl
theorem aq7 {b:Nat} {o o':Obj} (h:At P B0 w0 G k nl s w) (hb:B0≤b) (lr:G.own b=none) (hw:w.heap[b]? =some o) (hc:∀a t f,o≠.cells a t f):At P B0 w0 G k nl s (w.putObj b o'):=by
 have hI:∀i v,G.I b i≠some v:=fun i v e=>by
  have:=h.rel.fc b i v e
  simp only[World.cell?,hw]at this
  cases o<;>first|(exact absurd rfl (hc _ _ _))|(simp at this)
 have hs:cu P B0 w0 G s (w.putObj b o'):=by
  refine h.rel.cJ (fun _ _ _ e=>e) rfl rfl (fun c q e _=>⟨e,World.putObj_heap_other (fun lQ=>?_),fun _ e=>e⟩) (fun c i v e=>?_) ?_ (fun c q e=>?_)
  ·subst lQ
   rw[lr]at e
   cases e
  ·have aB:c≠b:=fun e'=>hI i v (e' ▸ e)
   have:=h.rel.fc c i v e
   have hh:(w.putObj b o').heap[c]? =w.heap[c]? :=World.putObj_heap_other aB
   rw[←this]
   simp only[World.cell?,hh]
  ·exact⟨rfl,rfl,rfl,by simp,fun c hc=>World.putObj_heap_other (by omega)⟩
  ·rw[World.putObj_size]
   exact h.rel.eM c q e
 exact⟨hs,h.len,h.cur⟩
def aG.cU (G:aG) (k:Nat) (bl:List (Option Nat)) (w:World):aG where
 I:=fun b i=>if some b∈bl then w.cell? ⟨b,i,none⟩else G.I b i
 ag:=G.ag.dropLast
 loops:=G.loops
 own:=fun b=>match G.own b with
  |some (.box d x)=>if d=k then none else some (.box d x)
  |some (.tok d x)=>if d=k then none else some (.tok d x)
  |some (.mark d x)=>if d=k then none else some (.mark d x)
  |o=>o
def QH (k:Nat) (o:rA):Prop:=(∃b,o=.box k b)∨(∃g,o=.tok k g)∨∃i,o=.mark k i
theorem aG.aqJ {G:aG} {k b:Nat} {bl:List (Option Nat)} {o:rA} (h:G.own b=some o) (ho:¬QH k o):(G.cU k bl w).own b=some o:=by
 simp only[aG.cU,h]
 cases o with
 |box d x=>simp only;rw[aq (fun e=>ho (.inl ⟨x,by rw[e]⟩))]
 |tok d x=>simp only;rw[aq (fun e=>ho (.inr (.inl ⟨x,by rw[e]⟩)))]
 |mark d x=>simp only;rw[aq (fun e=>ho (.inr (.inr ⟨x,by rw[e]⟩)))]
 |loop l=>rfl
theorem aG.ZG {G:aG} {k b:Nat} {bl:List (Option Nat)} {o:rA} (h:G.own b=some o) (ho:QH k o):(G.cU k bl w).own b=none:=by
 simp only[aG.cU,h]
 rcases ho with⟨x,rfl⟩|⟨x,rfl⟩|⟨x,rfl⟩<;>simp
theorem wH {α:Type} {l:List α} {n d:Nat} (hl:l.length=n+1):l.dropLast[d]? =if d<n then l[d]? else none:=by
 rw[List.getElem?_dropLast]
 simp only[hl,HE]
theorem ZH (h:At P B0 w0 G k nl s w) (aR:s.loops.length=nl) {gr:cH} (hg:G.ag[k]? =some gr) (bl:List (Option Nat)) (jQ:∀b,some b∈bl→some b∈gr.bl):
  cu P B0 w0 (G.cU k bl w) s.pop w∧(∀b i v,G.I b i=some v→(G.cU k bl w).I b i=some v)∧(∀b,some b∈bl→∀i,(G.cU k bl w).I b i=w.cell? ⟨b,i,none⟩)∧
  ∀d,d<k→(G.cU k bl w).ag[d]? =G.ag[d]? :=by
 have hlen:G.ag.length=k+1:=by rw[h.rel.len,h.len]
 obtain⟨r,bI,hr,bu⟩:=h.cI (aH k)
 rw[hg]at bu
 injection bu with bu
 subst bu
 have aI:=h.rel.cI k r gr hr hg
 have ll:gr.nl=nl:=by obtain⟨g',e1,e2⟩:=h.cur;rw[hg]at e1;injection e1 with e1;rw[e1];exact e2
 have tB:∀b,some b∈gr.bl→∃x,G.own b=some (.box k x):=fun b hb=>by
  obtain⟨x,hx,sx⟩:=nM hb
  have XU:x<r.boxes.length:=by rw[←aI.dX];exact hx
  have:=aI.box x _ b (cM XU) (by rw[cM hx,sx])
  obtain⟨y,hy,_⟩:=this.2.1
  exact⟨y,hy⟩
 have hI:∀b i v,G.I b i=some v→(G.cU k bl w).I b i=some v:=fun b i v e=>by
  simp only[aG.cU]
  split
  ·exact h.rel.fc b i v e
  ·exact e
 have rS:∀d,d<k→(G.cU k bl w).ag[d]? =G.ag[d]? :=fun d hd=>by
  simp only[aG.cU,wH hlen]
  rw[ak hd]
 have dR:∀(d:Nat) (q:cH),(G.cU k bl w).ag[d]? =some q→d<k∧G.ag[d]? =some q:=fun d q e=>by
  simp only[aG.cU,wH hlen]at e
  split at e
  ·exact⟨by assumption,e⟩
  ·cases e
 have hle:∀k' gB,k'<k→bA k' gB G (G.cU k bl w):=fun k' gB u5=>
  ⟨hI,fun d q hd e=>⟨q,by rw[rS d (by omega)];exact e,.refl q,fun _=>rfl⟩,fun _ _ _ e=>e⟩
 have n9:jv (QH k) G w (G.cU k bl w) w:=fun b o e ho=>⟨aG.aqJ e ho,rfl,fun i hi=>by
  simp only[aG.cU]
  rw[aq (fun hb=>by
   obtain⟨x,hx⟩:=tB b (jQ b hb)
   rw[e]at hx
   injection hx with hx
   exact ho (.inl ⟨x,hx⟩))]
  exact hi⟩
 refine⟨⟨fun b i v e=>?_,by simp[aG.cU,ae.pop,h.rel.len],h.rel.jG,fun d q gq h1 h2=>?_,fun l lp q h1 h2=>?_,fun d q h1=>?_,fun d d' q q' hd h1 h2=>?_,h.rel.below,h.rel.low,fun b o e=>?_⟩,hI,fun b hb i=>?_,rS⟩
 ·simp only[aG.cU]at e
  split at e
  ·exact e
  ·exact h.rel.fc b i v e
 ·obtain⟨eQ,h2⟩:=dR d gq h2
  have h1':s.ag[d]? =some q:=by
   simp only[ae.pop,wH h.len]at h1
   rw[ak eQ]at h1
   exact h1
  refine(h.rel.cI d q gq h1' h2).cJ (hle _ _ eQ) n9 (fun o ho=>?_)
  rcases ho with⟨x,rfl⟩|⟨x,rfl⟩|⟨x,rfl⟩
  ·exact⟨fun _ e=>by(injection e with e _;omega),fun _ e=>by(cases e),fun _ e=>by(cases e)⟩
  ·exact⟨fun _ e=>by(cases e),fun _ e=>by(injection e with e _;omega),fun _ e=>by(cases e)⟩
  ·exact⟨fun _ e=>by(cases e),fun _ e=>by(cases e),fun _ e=>by(injection e with e _;omega)⟩
 ·have sg:=h.rel.loop l lp q h1 h2
  obtain⟨b1,b2,rc,b3,b4⟩:=sg
  obtain⟨k1,k2,_⟩:=n9 _ _ b2 (fun ho=>by rcases ho with⟨x,e⟩|⟨x,e⟩|⟨x,e⟩<;>cases e)
  obtain⟨a1,a2,a3,a4,a5,a6,a8,a9,LS,k',gB,SM,a12,HO,LU⟩:=b4
  have hl:l<nl:=by have:=(bd.1 h1).1;simp only[ae.pop]at this;omega
  have u5:k'<k:=HO k gr hg (by omega)
  refine⟨b1,k1,rc,k2.trans b3,a1,a2,a3,a4,a5,a6,a8,a9,LS,k',gB,?_,a12,fun d q' e aC=>HO d q' (dR d q' e).2 aC,fun t=>(LU t).mono (hle k' gB u5) (aH _) (aH _)⟩
  simp[aG.cU,hlen]
  omega
 ·exact h.rel.pr d q (dR d q h1).2
 ·exact h.rel.qZ d d' q q' hd (dR d q h1).2 (dR d' q' h2).2
 ·simp only[aG.cU]at e
  cases ho:G.own b with
  |none=>rw[ho]at e;cases e
  |some o'=>exact h.rel.eM b o' ho
 ·simp only[aG.cU]
  rw[ak hb]
theorem vx (h:At P B0 w0 G k nl s w) (aR:s.loops.length=nl) {gr:cH} (hg:G.ag[k]? =some gr):
  cu P B0 w0 (G.cU k gr.bl w) s.pop w∧(∀b i v,G.I b i=some v→(G.cU k gr.bl w).I b i=some v)∧(∀b,some b∈gr.bl→∀i,(G.cU k gr.bl w).I b i=w.cell? ⟨b,i,none⟩)∧
  ∀d,d<k→(G.cU k gr.bl w).ag[d]? =G.ag[d]? :=
 ZH h aR hg gr.bl (fun _ e=>e)
end
end Go.Ax
/-
  What an activation hands back.
-/
namespace Go.Ax
open Go.RowKit
section
variable{P:Program} {B0:Nat} {w0:World} {G:aG} {k nl:Nat} {w:World} {s:ae}
theorem aac {I:fU} {b:Nat} {arr:Array Value} {ty:TypeId} (hI:∀i,I b i=w.cell? ⟨b,i,none⟩) (hw:w.heap[b]? =some (.cells arr ty)) {i:Nat} (hi:i<arr.size):I b (0+i)=some (arr.getD i Go.undef):=by
 rw[fB,hI,cell_of_heap hw]
 simp[Array.getD,hi]
theorem Yv (h:At P B0 w0 G k nl s w) (aR:s.loops.length=nl) {gr:cH} (hg:G.ag[k]? =some gr) {b off:Nat} {cs cs':List AV} {z:Value} (hx:Rel G k nl (.ptr k b off) z) (hb:s.box k b=some cs) (hc:closeAll cs=some cs'):
  bJ (G.cU k gr.bl w).I (.bq cs' off) z:=by
 obtain⟨_,hI,br,_⟩:=vx h aR hg
 obtain⟨blk,bI,rfl,_,bu,cw⟩:=hx.sC
 rw[hg]at bu
 injection bu with bu
 subst bu
 obtain⟨r,_,_,_,arr,ty,hw,cg,aT⟩:=h.box (aH k) hb hg cw
 obtain⟨c1,c2,c3⟩:=Ff hc cg.1 aT cg.2
 have iU:some blk∈gr.bl:=bQ cw
 have:=bJ.bq (I:=(G.cU k gr.bl w).I) (cs:=cs') (off:=off) (blk:=blk) (o0:=0) (fun i=>arr.getD i Go.undef) c2 (fun i hi=>aac (br blk iU) hw (by have:=cg.1;omega)) (fun i hi=>(c3 i hi).mono hI)
 rw[fB]at this
 exact this
theorem Yw (h:At P B0 w0 G k nl s w) (aR:s.loops.length=nl) {gr:cH} (hg:G.ag[k]? =some gr) {b off es n cap:Nat} {cs cs':List AV} {z:Value} (hx:Rel G k nl (.aO k b off es n cap) z) (hb:s.box k b=some cs)
  (hle:off+n*es≤cs.length) (hc:∀arr:Array Value,cs.length≤arr.size→(∀i (hi:i<cs.length),Rel G k nl cs[i] (arr.getD i Go.undef))→cs'.length=cs.length∧(∀c,c∈cs'→c.bt=true)∧∀i (hi:i<cs'.length),bJ (G.cU k gr.bl w).I cs'[i] (arr.getD i Go.undef)):
  bJ (G.cU k gr.bl w).I (.slice .any es (chunks es n (cs'.drop off))) z:=by
 obtain⟨_,hI,br,_⟩:=vx h aR hg
 obtain⟨blk,bI,rc,o0,rfl,_,bu,cw,hn,_,_,ho⟩:=hx.l3
 rcases vR n with fq|fq
 ·subst fq
  exact .slice (fun _ _=>Go.undef) (.inl rfl) (bg _) (fun r hr=>absurd hr (by simp[chunks])) (fun r hr=>absurd hr (by simp[chunks])) (fun i hi=>absurd hi (da _)) (fun i hi=>absurd hi (da _))
 have ho:=ho (.inl fq)
 subst ho
 rw[hg]at bu
 injection bu with bu
 subst bu
 obtain⟨r,_,_,_,arr,ty,hw,cg,aT⟩:=h.box (aH k) hb hg cw
 obtain⟨c1,c2,c3⟩:=hc arr cg.1 cg.2
 have iU:some blk∈gr.bl:=bQ cw
 have:=Ra (I:=(G.cU k gr.bl w).I) (cs:=cs') (es:=es) (n:=n) (cap:=rc) (blk:=blk) (o0:=0) (off:=o0) (f:=fun i=>arr.getD i Go.undef) c2 (fun i hi=>aac (br blk iU) hw (by have:=cg.1;omega)) (fun i hi=>c3 i hi) (by rw[c1];exact hle) hn
 unfold fL at this
 rw[(Fe es n (cs'.drop o0) (by simp[c1];omega)).1,fB]at this
 exact this
theorem Yx (h:At P B0 w0 G k nl s w) (aR:s.loops.length=nl) {gr:cH} (hg:G.ag[k]? =some gr) {b off es n cap:Nat} {cs cs':List AV} {z:Value} (hx:Rel G k nl (.aO k b off es n cap) z) (hb:s.box k b=some cs) (hc:closeAll cs=some cs')
  (hle:off+n*es≤cs.length):bJ (G.cU k gr.bl w).I (.slice .any es (chunks es n (cs'.drop off))) z:=by
 obtain⟨_,hI,_,_⟩:=vx h aR hg
 obtain⟨blk,bI,rc,o0,rfl,eQ,bu,cw,_⟩:=hx.l3
 obtain⟨r,_,_,_,_,_,_,_,aT⟩:=h.box eQ hb bu cw
 refine Yw h aR hg hx hb hle fun arr h1 h2=>?_
 obtain⟨c1,c2,c3⟩:=Ff hc h1 aT h2
 exact⟨c1,c2,fun i hi=>(c3 i hi).mono hI⟩
theorem aeQ (h:At P B0 w0 G k nl s w) (aR:s.loops.length=nl) {gr:cH} (hg:G.ag[k]? =some gr) {x y:AV} {z:Value} (hx:Rel G k nl x z) (hl:nU s x=some y):bJ (G.cU k gr.bl w).I y z∧y.bt=true:=by
 obtain⟨_,hI,_,_⟩:=vx h aR hg
 by_cases hr:∃d b off es n cap,x=.aO d b off es n cap
 ·obtain⟨d,b,off,es,n,cap,rfl⟩:=hr
  simp only[nU]at hl
  split at hl
  ·rename_i hd
   rw[h.gI]at hd
   subst hd
   obtain⟨cs,hb,hl⟩:=cX.1 hl
   split at hl
   ·rename_i hle
    obtain⟨cs',hc,rfl⟩:=aU.1 hl
    exact⟨Yx h aR hg hx hb hc hle,rfl⟩
   ·cases hl
  ·cases hl
 ·have e:nU s x=x.close:=by
   cases x<;>first|rfl|exact absurd ⟨_,_,_,_,_,_,rfl⟩ hr
  rw[e]at hl
  exact⟨(hx.close hl).mono hI,(Jc hl).2⟩
theorem Vm (h:At P B0 w0 G k nl s w) (aR:s.loops.length=nl) {gr:cH} (hg:G.ag[k]? =some gr) {arr:Array Value}:∀{cs cs':List AV} {o:Nat},jN s cs=some cs'→(∀i (hi:i<cs.length),Rel G k nl cs[i] (arr.getD (o+i) Go.undef))→
  cs'.length=cs.length∧(∀c,c∈cs'→c.bt=true)∧∀i (hi:i<cs'.length),bJ (G.cU k gr.bl w).I cs'[i] (arr.getD (o+i) Go.undef)
 |[],cs',o,hl,_=>by
  simp only[jN]at hl
  injection hl with hl
  subst hl
  exact⟨rfl,fun c hc=>(by cases hc),fun i hi=>absurd hi (da _)⟩
 | x :: r, cs', o, hl, hR => by
  simp only[jN]at hl
  split at hl
  ·rename_i y s' e1 e2
   injection hl with hl
   subst hl
   obtain⟨q1,q2,q3⟩:=Vm h aR hg (o:=o+1) e2 (fun i hi=>by have:=hR (i+1) (by simpa using hi);rw[show o+1+i=o+(i+1)by omega];simpa using this)
   obtain⟨y1,y2⟩:=aeQ h aR hg (hR 0 (by simp)) e1
   refine⟨by simp[q1],fun c hc=>?_,fun i hi=>?_⟩
   ·rcases eB.1 hc with rfl|hc
    ·exact y2
    ·exact q2 c hc
   ·cases i with
    |zero=>exact y1
    |succ i=>
     have:=q3 i (by simpa using hi)
     rw[show o+1+i=o+(i+1)by omega]at this
     exact this
  ·cases hl
theorem Yp (h:At P B0 w0 G k nl s w) (aR:s.loops.length=nl) {gr:cH} (hg:G.ag[k]? =some gr):∀{cs cs':List AV} {vs:List Value},vs.length=cs.length→(∀i (hi:i<cs.length) (hj:i<vs.length),Rel G k nl cs[i] vs[i])→l4 s cs=some cs'→
  cs'.length=cs.length∧∀i (hi:i<cs'.length) (hj:i<vs.length),bJ (G.cU k gr.bl w).I cs'[i] vs[i]
 |[],cs',vs,hl,hR,hc=>by
  simp only[l4]at hc
  injection hc with hc
  subst hc
  exact⟨rfl,fun i hi=>absurd hi (da _)⟩
 |x::r,cs',[],hl,hR,hc=>by simp at hl
 | x :: r, cs', v :: vs, hl, hR, hc => by
  have hI:=(vx h aR hg).2.1
  have h0:=hR 0 (by simp) (by simp)
  have gV:∀i (hi:i<r.length) (hj:i<vs.length),Rel G k nl r[i] vs[i]:=fun i hi hj=>hR (i+1) (by simpa using hi) (by simpa using hj)
  simp only[xQ]at h0
  have fin:∀{y:AV} {r':List AV},bJ (G.cU k gr.bl w).I y v→l4 s r=some r'→cs'=y::r'→cs'.length=(x::r).length∧∀i (hi:i<cs'.length) (hj:i<(v::vs).length),bJ (G.cU k gr.bl w).I cs'[i] (v::vs)[i]:=fun hy nB e=>by
   obtain⟨i1,i2⟩:=Yp h aR hg (by simpa using hl) gV nB
   subst e
   refine⟨by simp[i1],fun i hi hj=>?_⟩
   cases i with
   |zero=>exact hy
   |succ i=>exact i2 i (by simpa using hi) (by simpa using hj)
  by_cases hp:∃d b off,x=.ptr d b off
  ·obtain⟨d,b,off,rfl⟩:=hp
   simp only[l4]at hc
   split at hc
   ·rename_i hd
    rw[h.gI]at hd
    subst hd
    split at hc
    ·rename_i ds r' e1 e2
     injection hc with hc
     obtain⟨cs0,hb,aT⟩:=cX.1 e1
     exact fin (Yv h aR hg h0 hb aT) e2 hc.symm
    ·cases hc
   ·cases hc
  ·have he:l4 s (x::r)=if x.iG then(l4 s r).map (x::·)else none:=by
    cases x<;>first|rfl|exact absurd ⟨_,_,_,rfl⟩ hp
   rw[he]at hc
   split at hc
   ·rename_i aT
    obtain⟨r',nB,rfl⟩:=aU.1 hc
    exact fin ((h0.yw aT).mono hI) nB rfl
   ·cases hc
theorem Ys (h:At P B0 w0 G k nl s w) (aR:s.loops.length=nl) {gr:cH} (hg:G.ag[k]? =some gr) {kc nlc:Nat} (oV:k≤kc+1) {x y:AV} {z:Value} (hx:Rel G k nl x z) (hl:ez s x=some y):
  Rel (G.cU k gr.bl w) kc nlc y z∧y.bt=true:=by
 obtain⟨_,hI,br,rS⟩:=vx h aR hg
 have closed:∀{y:AV},x.close=some y→Rel (G.cU k gr.bl w) kc nlc y z∧y.bt=true:=fun e=>⟨.cl ((hx.close e).mono hI),(Jc e).2⟩
 cases x with
 | slice o es xs =>
  cases o with
  |tok d g=>
   simp only[ez]at hl
   injection hl with hl
   subst hl
   exact closed rfl
  |_=>exact closed hl
 | ptr d b off =>
  simp only[ez]at hl
  split at hl
  ·rename_i hd
   rw[h.gI]at hd
   subst hd
   obtain⟨cs,hb,hl⟩:=cX.1 hl
   obtain⟨cs',hc,rfl⟩:=aU.1 hl
   exact⟨.cl (Yv h aR hg hx hb hc),rfl⟩
  ·rename_i hd
   rw[h.gI]at hd
   injection hl with hl
   subst hl
   obtain⟨blk,bI,rfl,eQ,bu,cw⟩:=hx.sC
   exact⟨.ptr bI (by omega) (by rw[rS d (by omega)];exact bu) cw,rfl⟩
 | aO d b off es n cap =>
  simp only[ez]at hl
  split at hl
  ·rename_i hd
   rw[h.gI]at hd
   subst hd
   obtain⟨cs,hb,hl⟩:=cX.1 hl
   split at hl
   ·rename_i hle
    obtain⟨cs',hc,rfl⟩:=aU.1 hl
    refine⟨.cl ?_,rfl⟩
    cases hq:closeAll cs with
    |some c1=>
     rw[hq]at hc
     injection hc with hc
     subst hc
     exact Yx h aR hg hx hb hq hle
    | none =>
     rw[hq]at hc
     exact Yw h aR hg hx hb hle fun arr h1 h2=>by
      have:=Vm h aR hg (arr:=arr) (o:=0) hc (fun i hi=>by rw[fB];exact h2 i hi)
      simpa using this
   ·cases hl
  ·rename_i hd
   rw[h.gI]at hd
   injection hl with hl
   subst hl
   obtain⟨blk,bI,rc,o0,rfl,eQ,bu,cw,hn,n5,PS,ho⟩:=hx.l3
   exact⟨.aO bI (by omega) (by rw[rS d (by omega)];exact bu) cw hn n5 PS ho,rfl⟩
 | fn f first caps =>
  simp only[ez]at hl
  split at hl
  ·rename_i hf
   obtain⟨auf,hc,rfl⟩:=aU.1 hl
   obtain⟨a1,a2,rfl,l1,l2,r1,r2⟩:=hx.BB
   obtain⟨q1,q2⟩:=Yp h aR hg (vs:=a2.toList) (by simpa using l2) (fun i hi hj=>by
    have:=r2 i hi
    have e:a2.getD i Go.undef=a2.toList[i]:=by
     have:i<a2.size:=by simpa using hj
     simp[Array.getD,this]
    rw[←e]
    exact this) hc
   refine⟨.cl (.fn l1 (by rw[l2,q1]) (fun i hi=>(r1 i hi).mono hI) (fun i hi=>?_)),rfl⟩
   have se:i<a2.size:=by rw[l2,←q1];exact hi
   have:=q2 i hi (by simpa using se)
   have e:a2.getD i Go.undef=a2.toList[i]'(by simpa using se):=by simp[Array.getD,se]
   rw[e]
   exact this
  ·cases hl
 |_=>exact closed hl
theorem Yu (h:At P B0 w0 G k nl s w) (aR:s.loops.length=nl) {gr:cH} (hg:G.ag[k]? =some gr) {kc nlc:Nat} (oV:k≤kc+1):∀{cs cs':List AV} {vs:List Value},vs.length=cs.length→(∀i (hi:i<cs.length) (hj:i<vs.length),Rel G k nl cs[i] vs[i])→
  pk s cs=some cs'→cs'.length=cs.length∧∀i (hi:i<cs'.length) (hj:i<vs.length),Rel (G.cU k gr.bl w) kc nlc cs'[i] vs[i]∧cs'[i].bt=true
 |[],cs',vs,hl,hR,hc=>by
  simp only[pk]at hc
  injection hc with hc
  subst hc
  exact⟨rfl,fun i hi=>absurd hi (da _)⟩
 |x::r,cs',[],hl,hR,hc=>by simp at hl
 | x :: r, cs', v :: vs, hl, hR, hc => by
  simp only[pk]at hc
  split at hc
  ·rename_i y r' e1 e2
   injection hc with hc
   subst hc
   obtain⟨i1,i2⟩:=Yu h aR hg oV (nlc:=nlc) (by simpa using hl) (fun i hi hj=>hR (i+1) (by simpa using hi) (by simpa using hj)) e2
   refine⟨by simp[i1],fun i hi hj=>?_⟩
   cases i with
   |zero=>exact Ys h aR hg oV (hR 0 (by simp) (by simp)) e1
   |succ i=>exact i2 i (by simpa using hi) (by simpa using hj)
  ·cases hc
theorem Yz (h:At P B0 w0 G k nl s w) (aR:s.loops.length=nl) {gr:cH} (hg:G.ag[k]? =some gr) {kc nlc:Nat} (oV:k≤kc+1) {x y:AV} {z:Value} (hx:Rel G k nl x z) (hl:ed s x=some y):
  Rel (G.cU k gr.bl w) kc nlc y z:=by
 by_cases Bc:∃cs,x=.agg cs
 ·obtain⟨cs,rfl⟩:=Bc
  simp only[ed]at hl
  obtain⟨cs',hc,rfl⟩:=aU.1 hl
  obtain⟨arr,rfl,l1,aT,hR⟩:=hx.xn
  have conv:∀i (hi:i<arr.size),arr.getD i Go.undef=arr.toList[i]'(by simpa using hi):=fun i hi=>by simp[Array.getD,hi]
  obtain⟨q1,q2⟩:=Yu h aR hg oV (nlc:=nlc) (vs:=arr.toList) (by simpa using l1) (fun i hi hj=>by rw[←conv i (by simpa using hj)];exact hR i hi) hc
  refine .agg (by rw[l1,q1]) (fun c hc=>?_) (fun i hi=>?_)
  ·obtain⟨i,hi,rfl⟩:=nM hc
   exact(q2 i hi (by simp;omega)).2
  ·have bD:i<arr.size:=by omega
   rw[conv i bD]
   exact(q2 i hi (by simpa using bD)).1
 ·have:ed s x=ez s x:=by
   cases x<;>first|rfl|exact absurd ⟨_,rfl⟩ Bc
  rw[this]at hl
  exact(Ys h aR hg oV hx hl).1
def BW (tmps:Array Value):ResultVar→Sem Value
 |.tmp t=>pure (tmps.getD t Go.undef)
 |.cell a t=>do loadVar t (←asAddr (tmps.getD a Go.undef))
theorem Q6 {st:St} {a:Act} (h:At P B0 w0 G k nl st.sig w) (hR:eu G k nl st.tmps a) {r:ResultVar} {ar:il} (hc:wE P r=some ar) {x:AV} (hx:sK st ar=some x):
  ∃z,(BW a.tmps r).run P w=.ok z w∧Rel G k nl x z:=by
 cases r with
 |tmp t=>
  simp only[wE]at hc
  injection hc with hc
  subst hc
  simp only[sK]at hx
  injection hx with hx
  subst hx
  exact⟨_,rfl,hR t⟩
 | cell t ty =>
  simp only[wE,Z6]at hc
  split at hc
  ·rename_i g n e1 e2
   injection hc with hc
   subst hc
   simp only[sK]at hx
   obtain⟨z,r1,r2⟩:=KC h (hR t) hx e1 e2
   refine⟨z,?_,r2⟩
   have hp:∃p,a.tmps.getD t Go.undef=.pointer (some p):=by
    unfold ae.load at hx
    obtain⟨q,hq,_⟩:=cX.1 hx
    have jm:=hR t
    cases cp:st.tmps t with
    |ptr d b off=>rw[cp]at jm;obtain⟨blk,gr,e,_⟩:=jm.sC;exact⟨_,e⟩
    |bq cs off=>rw[cp]at jm;obtain⟨blk,o0,f,e,_⟩:=jm.zp;exact⟨_,e⟩
    |_=>rw[cp]at hq;simp[ae.row]at hq
   obtain⟨p,hp⟩:=hp
   simp only[BW,hp,asAddr,Sem.run_bind,Sem.run_pure,Result.andThen_ok]
   rw[hp]at r1
   simpa[Instr.loadAt,Instr.sureAddr]using r1
  ·cases hc
theorem Z7 {st:St} {a:Act} (h:At P B0 w0 G k nl st.sig w) (hR:eu G k nl st.tmps a) (aR:st.sig.loops.length=nl) {gr:cH} (hg:G.ag[k]? =some gr) {kc nlc:Nat} (oV:k≤kc+1):∀{rs:List ResultVar} {ql:List il} {l:List AV},
  fu (wE P) rs=some ql→sL st ql=some l→∃vs:List Value,(rs.mapM (BW a.tmps)).run P w=.ok vs w∧vs.length=l.length∧∀i (hi:i<l.length) (hj:i<vs.length),Rel (G.cU k gr.bl w) kc nlc l[i] vs[i]
 |[],ql,l,hm,hr=>by
  simp only[fu]at hm
  injection hm with hm
  subst hm
  simp only[sL]at hr
  injection hr with hr
  subst hr
  exact⟨[],by simp,rfl,fun i hi=>absurd hi (da _)⟩
 | r :: rs, ql, l, hm, hr => by
  simp only[fu]at hm
  split at hm
  ·rename_i ar S8 e1 e2
   injection hm with hm
   subst hm
   simp only[sL]at hr
   split at hr
   ·rename_i x l' f1 f2
    injection hr with hr
    subst hr
    obtain⟨x0,pf,vf⟩:=cX.1 f1
    obtain⟨z,r1,r2⟩:=Q6 h hR e1 pf
    obtain⟨vs,v1,v2,v3⟩:=Z7 h hR aR hg oV (nlc:=nlc) e2 f2
    refine⟨z::vs,?_,by simp[v2],fun i hi hj=>?_⟩
    ·simp only[Sh,Sem.run_bind,r1,Result.andThen_ok,v1,Sem.run_pure]
    ·cases i with
     |zero=>exact Yz h aR hg oV r2 vf
     |succ i=>exact v3 i (by simpa using hi) (by simpa using hj)
   ·cases hr
  ·cases hm
theorem Q7 {fn:Func} {tmps:Array Value} {vs:List Value} (h:(fn.results.toList.mapM (BW tmps)).run P w=.ok vs w):
  (results fn tmps).run P w=.ok (if h:vs.toArray.size=1 then vs.toArray[0]else .tuple vs.toArray) w:=by
 have e:results fn tmps=(do let vs←fn.results.mapM (BW tmps);pure (if h:vs.size=1 then vs[0]else .tuple vs)):=by
  unfold results
  congr 1
 rw[e]
 simp only[abA,Sem.run_bind,Sem.run_map,h,Result.andThen_ok,Sem.run_pure]
theorem Zx {G':aG} {kc nlc:Nat} {l:List AV} {vs:List Value} (hl:vs.length=l.length) (hR:∀i (hi:i<l.length) (hj:i<vs.length),Rel G' kc nlc l[i] vs[i]):
  Rel G' kc nlc (packed l) (if h:vs.toArray.size=1 then vs.toArray[0]else .tuple vs.toArray):=by
 match l,vs,hl with
 |[],[],_=>exact .tuple rfl (fun i hi=>absurd hi (da _))
 |[x],[v],_=>exact hR 0 (by simp) (by simp)
 | x :: y :: l, v :: u :: vs, hl =>
  have:¬((v::u::vs).toArray.size=1):=by simp
  rw[dif_neg this]
  refine .tuple (by simpa using hl) (fun i hi=>?_)
  have bD:i<(v::u::vs).length:=by rw[hl];exact hi
  have:=hR i hi bD
  have e:(v::u::vs).toArray.getD i Go.undef=(v::u::vs)[i]:=by
   have:i<vs.length+1+1:=by simpa using bD
   simp[Array.getD,this]
  rw[e]
  exact this
theorem Qf {r l:Nat}:∀{caps:List AV},l4 {s with ro:=r,bo:=l} caps=l4 s caps
 |[]=>rfl
 |x::rest=>by
  have ih:=Qf (r:=r) (l:=l) (caps:=rest)
  cases x<;>simp only[l4,ih]<;>rfl
theorem aeP {r l:Nat} {x:AV}:nU {s with ro:=r,bo:=l} x=nU s x:=by cases x<;>rfl
theorem Vl {r l:Nat}:∀{cs:List AV},jN {s with ro:=r,bo:=l} cs=jN s cs
 |[]=>rfl
 |x::rest=>by simp only[jN,aeP,Vl]
theorem Yr {r l:Nat} {x:AV}:ez {s with ro:=r,bo:=l} x=ez s x:=by
 cases x with
 |slice o es xs=>cases o<;>rfl
 |fn f first caps=>simp only[ez,Qf]
 |aO d b off es n cap=>simp only[ez,Vl];rfl
 |_=>rfl
theorem Yt {r l:Nat}:∀{cs:List AV},pk {s with ro:=r,bo:=l} cs=pk s cs
 |[]=>rfl
 |x::rest=>by simp only[pk,Yr,Yt]
theorem Yy {r l:Nat} {x:AV}:ed {s with ro:=r,bo:=l} x=ed s x:=by
 cases x with
 |agg cs=>simp only[ed,Yt]
 |slice o es xs=>cases o<;>rfl
 |fn f first caps=>
  simp only[ed,ez,Qf]
 |aO d b off es n cap=>exact Yr (x:=.aO d b off es n cap)
 |_=>rfl
theorem Zu (h:At P B0 w0 G k nl s w) (aR:s.loops.length=nl) {kc nlc:Nat} (oV:k≤kc+1) {x0 x:AV} {z:Value} {s':ae} (r2:Rel G k nl x0 z) (jO:kg s x0=some (x,s')):
  ∃G',cu P B0 w0 G' s' w∧s'.ag.length=k∧s'.loops=s.loops∧(∀b i v,G.I b i=some v→G'.I b i=some v)∧
   (∀d gr,d<k→G.ag[d]? =some gr→∃bI,G'.ag[d]? =some bI∧iN gr bI∧bI.marks=gr.marks)∧(∀l r:Nat,G.loops[l]? =some r→G'.loops[l]? =some r)∧Rel G' kc nlc x z:=by
 obtain⟨gr,hg,_⟩:=h.cur
 obtain⟨hp,hI,br,rS⟩:=vx h aR hg
 have nA:∀d q,d<k→G.ag[d]? =some q→∃q',(G.cU k gr.bl w).ag[d]? =some q'∧iN q q'∧q'.marks=q.marks:=fun d q hd e=>⟨q,by rw[rS d hd];exact e,.refl q,rfl⟩
 have other:∀{y:AV},ed s x0=some y→x=y→s'=s.pop→∃G',cu P B0 w0 G' s' w∧s'.ag.length=k∧s'.loops=s.loops∧(∀b i v,G.I b i=some v→G'.I b i=some v)∧
   (∀d gr,d<k→G.ag[d]? =some gr→∃bI,G'.ag[d]? =some bI∧iN gr bI∧bI.marks=gr.marks)∧(∀l r:Nat,G.loops[l]? =some r→G'.loops[l]? =some r)∧Rel G' kc nlc x z:=fun hy ex es=>by
  subst ex es
  exact⟨_,hp,by simp[ae.pop,h.len],rfl,hI,nA,fun _ _ e=>e,Yz h aR hg oV r2 hy⟩
 unfold kg at jO
 split at jO
 ·rename_i d g es xs
  split at jO
  ·rename_i bn
   obtain⟨hd,JS,_,zk⟩:=bn
   injection jO with jO
   injection jO with jP gK
   rw[h.gI]at hd
   subst hd
   subst jP gK
   cases r2 with
   |cl r2=>cases r2 with
    |slice f ho=>rcases ho with h|⟨h,_⟩<;>cases h
    |empty ho=>rcases ho with h|h<;>cases h
   | @tok _ _ _ _ av cap T bI hd bu ht dQ lZ hn=>
   rw[hg]at bu
   injection bu with bu
   subst bu
   obtain⟨r,hr,jm⟩:=aa2 zk
   have aI:=h.rel.cI _ r gr hr hg
   obtain⟨oQ,rP⟩:=aI.tok g _ T jm ht
   obtain⟨t1,t2,t3,t4,t5,arr,ty,t6,t7⟩:=rP _ rfl
   obtain⟨_,heq⟩:=hn _ oQ
   obtain⟨rfl,rfl⟩:=heq rfl
   have yX:(G.cU d gr.bl w).own T.blk=none:=aG.ZG t2 (.inr (.inl ⟨g,rfl⟩))
   obtain⟨rc,uO,kD,nu⟩:=h.cI (d:=d-1) (by omega)
   have Pv:s.pop.ag[d-1]? =some rc:=by
    simp only[ae.pop,wH h.len]
    rw[ak (by omega)]
    exact kD
   have JW:(G.cU d gr.bl w).ag[d-1]? =some uO:=by rw[rS _ (by omega)];exact nu
   have hIt:∀i,xs.length*T.es≤i→(G.cU d gr.bl w).I T.blk i=none:=fun i hi=>by
    simp only[aG.cU]
    rw[aq (fun hm=>by
     obtain⟨q,hq,mK⟩:=nM hm
     have Gg:q<r.boxes.length:=by rw[←aI.dX];exact hq
     obtain⟨y,this,_⟩:=(aI.box q _ T.blk (cM Gg) (by rw[cM hq,mK])).2.1
     rw[t2]at this
     injection this with this
     cases this)]
    exact t3 i hi
   obtain⟨G2,b1,b2,b3,b4⟩:=SN hp (T:=T) Pv JW yX oQ ⟨t1,hIt,t4,t5,arr,ty,t6,t7⟩
   have oe:(s.pop.kT (d-1) xs.length).ag.length=d:=by simp[ae.kT,ae.bp,ae.pop,h.len]
   refine⟨G2,b3,oe,rfl,fun b i v e=>by rw[b2];exact hI b i v e,fun q gq hq e=>?_,?_,?_⟩
   ·have e':(G.cU d gr.bl w).ag[q]? =some gq:=by rw[rS q hq];exact e
    obtain⟨Oc,c1,c2,c3⟩:=(b4 (q+1) 0).ag q gq (by omega) e'
    exact⟨Oc,c1,c2,c3 (by omega)⟩
   ·exact fun l r e=>(b4 0 (l+1)).loops l r (by omega) e
   ·have gw:G2.ag[d-1]? =some {uO with tk:=uO.tk++[T]}:=by rw[b1,dM,ak rfl,JW];rfl
    have si:s.jI (d-1)=uO.tk.length:=by rw[Y4 kD,(h.rel.cI _ rc uO kD nu).iI]
    rw[si]
    exact .tok T _ (by omega) gw (by show(uO.tk++[T])[uO.tk.length]? =_;rw[gD (aH _)];simp) dQ (lZ.mono (by rw[b2];exact hI)) hn
  ·injection jO with jO
   injection jO with jP gK
   exact other (y:=.slice .any es xs) rfl jP.symm gK.symm
 ·rename_i d b off es n cap
  split at jO
  ·rename_i bn
   obtain⟨hd,JS,_,rfl,rfl,fq⟩:=bn
   rw[h.gI]at hd
   subst hd
   obtain⟨cs,hb,jP⟩:=cX.1 jO
   clear jO
   split at jP
   case isFalse=>cases jP
   rename_i dw
   obtain⟨qF,hlen⟩:=dw
   obtain⟨cs',hc,gK⟩:=aU.1 jP
   injection gK with oU hf4
   subst oU hf4
   have aB:cs≠[]:=fun e=>by rw[e]at qF;exact absurd qF (by decide)
   obtain⟨blk,bI,rc,o0,rfl,eQ,bu,cw,hn,_,PS,ho⟩:=r2.l3
   rw[hg]at bu
   injection bu with bu
   subst bu
   have ho:=ho (.inl fq)
   subst ho
   obtain⟨r,hr,qL,_,arr,ty,XS,cg,aT⟩:=h.box (aH _) hb hg cw
   have aI:=h.rel.cI _ r gr hr hg
   obtain⟨t1,⟨xb,t2,t2'⟩,t3,CK,Lb,t4,_,t5,_⟩:=aI.box b cs blk qL cw
   rw[XS]at t4
   injection t4 with t4
   injection t4 with q1 q2
   subst q1 q2
   have rV:=t5 aB _ (PS rfl fq)
   have t3:=t3 aB
   obtain⟨c1,c2,c3⟩:=Ff hc cg.1 aT cg.2
   obtain⟨hpB,WE,_,WN⟩:=ZH h aR hg (gr.bl.filter (· ≠some blk)) (fun c hc=>(eS.1 hc).1)
   have ahK:∀i,(G.cU d (gr.bl.filter (· ≠some blk)) w).I blk i=none:=fun i=>by
    simp only[aG.cU]
    rw[aq (fun hm=>by have:=(eS.1 hm).2;simp at this)]
    exact t3 i
   have yX:(G.cU d (gr.bl.filter (· ≠some blk)) w).own blk=none:=aG.ZG t2 (.inl ⟨xb,rfl⟩)
   obtain⟨ZY,uO,kD,nu⟩:=h.cI (d:=d-1) (by omega)
   have Pv:s.pop.ag[d-1]? =some ZY:=by
    simp only[ae.pop,wH h.len]
    rw[ak (by omega)]
    exact kD
   have JW:(G.cU d (gr.bl.filter (· ≠some blk)) w).ag[d-1]? =some uO:=by rw[WN _ (by omega)];exact nu
   obtain⟨G2,b1,b2,b3,b4,b5⟩:=ab5 hpB (z:=some (rc*es)) (cs:=cs') Pv JW yX ahK t1 XS (fun e=>by rw[e]at c1;simp at c1;exact aB (sU c1.symm)) c2 (by rw[c1];exact cg.1) (fun i hi=>(c3 i hi).mono WE) (fun m hm=>by injection hm with hm;rw[rV,hm])
   have oe:(s.pop.jj (d-1) cs').ag.length=d:=by simp[ae.jj,ae.bp,ae.pop,h.len]
   refine⟨G2,b3,oe,rfl,fun b i v e=>by rw[b2];exact WE b i v e,fun q gq hq e=>?_,?_,?_⟩
   ·have e':(G.cU d (gr.bl.filter (· ≠some blk)) w).ag[q]? =some gq:=by rw[WN q hq];exact e
    obtain⟨Oc,c1,c2,c3⟩:=(b4 (q+1) 0).ag q gq (by omega) e'
    exact⟨Oc,c1,c2,c3 (by omega)⟩
   ·exact fun l r e=>(b4 0 (l+1)).loops l r (by omega) e
   ·have mJ:s.bL (d-1)=ZY.boxes.length:=by simp[ae.bL,kD]
    rw[mJ]
    obtain⟨g2,e1,e2,e3⟩:=b5
    exact .aO g2 (by omega) e1 e2 hn (bg _) (fun _ _=>e3) (fun _=>rfl)
  ·obtain⟨y,hy,jP⟩:=aU.1 jO
   injection jP with gK oU
   exact other hy gK.symm oU.symm
 ·obtain⟨y,hy,jO⟩:=aU.1 jO
  injection jO with jP gK
  exact other hy jP.symm gK.symm
theorem agl {st:St} {a:Act} (h:At P B0 w0 G k nl st.sig w) (hR:eu G k nl st.tmps a) (aR:st.sig.loops.length=nl) {fn:Func} {ql:List il} {own:Bool} (hc:fu (wE P) fn.results.toList=some ql) {kc nlc:Nat} (oV:k≤kc+1) {x:AV} {s':ae}
  (hf:finish ql own st=some (x,s')):∃z G',(results fn a.tmps).run P w=.ok z w∧cu P B0 w0 G' s' w∧s'.ag.length=k∧s'.loops=st.sig.loops∧(∀b i v,G.I b i=some v→G'.I b i=some v)∧
   (∀d gr,d<k→G.ag[d]? =some gr→∃bI,G'.ag[d]? =some bI∧iN gr bI∧bI.marks=gr.marks)∧(∀l r:Nat,G.loops[l]? =some r→G'.loops[l]? =some r)∧Rel G' kc nlc x z:=by
 obtain⟨gr,hg,_⟩:=h.cur
 obtain⟨hp,hI,br,rS⟩:=vx h aR hg
 have nA:∀d q,d<k→G.ag[d]? =some q→∃q',(G.cU k gr.bl w).ag[d]? =some q'∧iN q q'∧q'.marks=q.marks:=fun d q hd e=>⟨q,by rw[rS d hd];exact e,.refl q,rfl⟩
 unfold finish at hf
 split at hf
 · -- one result, the right to append with it
  split at hf
  ·rename_i ar
   obtain⟨x0,pf,jO⟩:=cX.1 hf
   clear hf
   obtain⟨rv,Kg⟩:∃rv,fn.results.toList=[rv]:=by
    obtain⟨l1,_⟩:=vo hc
    match hh:fn.results.toList,l1 with
    |[rv],_=>exact⟨rv,rfl⟩
   rw[Kg]at hc
   simp only[fu]at hc
   split at hc
   ·rename_i ar' S8 e1 e2
    injection hc with hc
    injection hc with hc _
    subst hc
    obtain⟨z,r1,r2⟩:=Q6 h hR e1 pf
    have cY:(results fn a.tmps).run P w=.ok z w:=by
     have:=Q7 (P:=P) (w:=w) (fn:=fn) (tmps:=a.tmps) (vs:=[z]) (by rw[Kg];simp[r1])
     simpa using this
    obtain⟨G2,q⟩:=Zu h aR oV (nlc:=nlc) r2 jO
    exact⟨z,G2,cY,q⟩
   ·cases hc
  ·cases hf
 ·obtain⟨l,hl,hf⟩:=aU.1 hf
  injection hf with jP gK
  subst jP gK
  obtain⟨vs,v1,v2,v3⟩:=Z7 h hR aR hg oV (nlc:=nlc) hc hl
  exact⟨_,_,Q7 v1,hp,by simp[ae.pop,h.len],rfl,hI,nA,fun _ _ e=>e,Zx v2 v3⟩
end
end Go.Ax
/-
  One operation of a region, calls with it.
-/
namespace Go.Ax
open Go.RowKit
def iz:Option Nat→Fence
 |none=>Fence.wide
 |some r=>Fence.wide.inRound r
theorem N0 (rd:Option Nat) (f:FuncId):(iz rd).fn f:=by cases rd<;>exact trivial
theorem Jr (rd:Option Nat):(iz rd).depth=none:=by cases rd<;>rfl
theorem af5 (rd:Option Nat):(iz rd).round=rd:=by cases rd<;>rfl
theorem Jq (rd:Option Nat) {n:Nat} {P:Program} {f:FuncId} {args:Array Value} {w:World} {R:Ending→World→Prop} (h:Calls P f args w R):CallsIn (iz rd) n P f args w R:=by
 have:=(callsIn_wide (n:=n)).2 h
 cases rd
 ·exact this
 ·exact this
theorem af6 (rd:Option Nat) {n:Nat} {P:Program} {l:Nat} {f:FuncId} {tmps:Array Value} {assign body:Code} {w:World} {R:Ending→World→Prop} (h:RoundIn Fence.wide n P l f tmps assign body w R):
  RoundIn (iz rd) n P l f tmps assign body w R:=by
 cases rd
 ·exact h
 ·exact h
def rr (P:Program) (f:FuncId):Prop:=∃fn c,P.funcs[f]? =some fn∧fn.body=some c∧(fn.name== "runtime.NumGoroutine")=false
theorem rr.run {P:Program} {f:FuncId} (h:rr P f) (args:Array Value) (w:World):(callFunc f args).run P w=.ok (.enter f args) w:=by
 obtain⟨fn,c,h1,h2,h3⟩:=h
 simp only[callFunc,Sem.run_bind,run_program,Result.andThen_ok,h1,h3,h2,Option.isNone_some,ef,cE]
 rfl
section
variable{P:Program} {B0:Nat} {w0:World}
def nJ (P:Program) (B0:Nat) (w0:World) (G:aG) (k nl:Nat) (s s':ae) (w':World) (x:AV) (x':Value):Prop:=
 ∃G',cu P B0 w0 G' s' w'∧s'.ag.length=s.ag.length∧s'.loops.length=s.loops.length∧bA (k+1) s.loops.length G G'∧Rel G' k nl x x'
structure kM (P:Program) (B0:Nat) (w0:World) (call:aZ):Prop where
 fn:∀(G:aG) (k nl:Nat) (s:ae) (w:World) (f:FuncId) (args:List AV) (xs:Array Value) (res:AV) (s':ae),cu P B0 w0 G s w→s.ag.length≤k+1→k≤s.ag.length→nl≤s.loops.length→xs.size=args.length→
  (∀i (hi:i<args.length),Rel G k nl args[i] (xs.getD i Go.undef))→call (.fn f) args s=some (res,s')→
  rr P f∧Calls P f xs w fun e w'=>∃z,e=.returned z∧nJ P B0 w0 G k nl s s' w' res z
 yield:∀(G:aG) (k nl:Nat) (s:ae) (w:World) (l r:Nat) (args:List AV) (xs:Array Value) (res:AV) (s':ae),cu P B0 w0 G s w→s.ag.length≤k+1→k≤s.ag.length→nl≤s.loops.length→l<nl→G.loops[l]? =some r→xs.size=args.length→
  (∀i (hi:i<args.length),Rel G k nl args[i] (xs.getD i Go.undef))→call (.yield l) args s=some (res,s')→
  ∃rc:Loop,w.heap[r]? =some (.loop rc)∧xs.size=rc.params.size∧∀n,RoundIn Fence.wide n P r rc.fn ((rc.params.zip xs).foldl (fun tmps (t,a)=>tmps.setIfInBounds t a) rc.tmps) rc.assign rc.body w
   fun e w'=>∃z,e=.returned z∧nJ P B0 w0 G k nl s s' w' res z
def zW (I:fU) (r:AV) (z:Value):Prop:=bJ I r z∨∃(vs:List AV) (arr:Array Value),r=.tuple vs∧z=.tuple arr∧arr.size=vs.length∧∀i (hi:i<vs.length),bJ I vs[i] (arr.getD i Go.undef)
theorem zW.rel {G:aG} {k nl:Nat} {r:AV} {z:Value} (h:zW G.I r z):Rel G k nl r z:=by
 rcases h with h|⟨vs,arr,rfl,rfl,hl,hR⟩
 ·exact .cl h
 ·exact .tuple hl fun i hi=>.cl (hR i hi)
structure nK (P:Program) (B0:Nat) (w0:World) (call:aZ):Prop where
 inl:∀(G:aG) (k nl:Nat) (s:ae) (w:World) (f:FuncId) (args:List AV) (xs:Array Value) (res:AV) (s':ae),At P B0 w0 G k nl s w→s.loops.length=nl→xs.size=args.length→
  (∀i (hi:i<args.length),Rel G k nl args[i] (xs.getD i Go.undef))→call (.inl f) args s=some (res,s')→
  rr P f∧Calls P f xs w fun e w'=>∃z,e=.returned z∧nJ P B0 w0 G k nl s s' w' res z
 nat:∀(I:fU) (s:ae) (w:World) (f:FuncId) (args:List AV) (xs:Array Value) (res:AV) (s':ae),xs.size=args.length→
  (∀i (hi:i<args.length),∀c,args[i].close=some c→bJ I c (xs.getD i Go.undef))→call (.nat f) args s=some (res,s')→
  s'=s∧∃z,(callFunc f xs).run P w=.ok (.value z) w∧zW I res z
structure Fr (s s':ae):Prop where
 x5:s'.ag.length=s.ag.length
 jG:s'.loops.length=s.loops.length
 ro:s'.ro=s.ro
 bo:s'.bo=s.bo
 ag:∀d,d<s.ro→s'.ag[d]? =s.ag[d]?
 loops:∀l,l<s.bo→s'.loops[l]? =s.loops[l]?
def gX (call:aZ):Prop:=∀t args s x s',s.ro≤s.ag.length→s.bo≤s.loops.length→call t args s=some (x,s')→Fr s s'
theorem cu.of_eq {G:aG} {s s':ae} {w:World} (h:cu P B0 w0 G s w) (ha:s'.ag=s.ag) (hl:s'.loops=s.loops):cu P B0 w0 G s' w:=by
 obtain⟨h1,h2,h3,h4,h5,h6,h7,h8,h9,dh⟩:=h
 exact⟨h1,by rw[ha];exact h2,by rw[hl];exact h3,by rw[ha];exact h4,by rw[hl];exact h5,by rw[hl];exact h6,h7,h8,h9,dh⟩
inductive LQ (G:aG) (nl:Nat):Target→(Array Value→Sem Next)→Prop
 |fn (f:FuncId):LQ G nl (.fn f) (callFunc f)
 |yield {l r:Nat} (hl:l<nl) (h:G.loops[l]? =some r):LQ G nl (.yield l) (Instr.yield r)
variable{G:aG} {k nl:Nat} {w:World} {s s':ae}
theorem aeT {call:aZ} (bh:gX call) {ro:Bool} {t:Target} {args:List AV} {x:AV} (h:dF call ro s t args=some (x,s')):
  ∃s1 s2,s1.ag=s.ag∧s1.loops=s.loops∧call t args s1=some (x,s2)∧s'.ag=s2.ag∧s'.loops=s2.loops:=by
 unfold dF at h
 split at h
 ·obtain⟨p,hp,h⟩:=aU.1 h
  obtain⟨y,s2⟩:=p
  injection h with h1 h2
  subst h1 h2
  obtain⟨r1,r2,_,_,r3,r4⟩:=bh _ _ _ _ _ (aH _) (aH _) hp
  refine⟨{s with ro:=s.ag.length,bo:=s.loops.length},s2,rfl,rfl,hp,?_,?_⟩
  ·refine Lp r1.symm fun d h1 h2=>?_
   have:=r3 d h1
   simp only at this
   rw[cM h1,cM h2]at this
   injection this with this
   exact this.symm
  ·refine Lp r2.symm fun d h1 h2=>?_
   have:=r4 d h1
   simp only at this
   rw[cM h1,cM h2]at this
   injection this with this
   exact this.symm
 ·exact⟨s,s',rfl,rfl,h,rfl,rfl⟩
theorem nJ.step {s1 s2:ae} {w':World} {x:AV} {z:Value} (h:At P B0 w0 G k nl s w) (e1:s1.ag=s.ag) (e2:s1.loops=s.loops) (e3:s'.ag=s2.ag) (e4:s'.loops=s2.loops)
  (hc:nJ P B0 w0 G k nl s1 s2 w' x z):db P B0 w0 G k nl s s' w' x z:=by
 obtain⟨G',h1,h2,h3,h4,h5⟩:=hc
 rw[e2]at h4 h3
 rw[e1]at h2
 have hs:=h1.of_eq e3 e4
 exact⟨G',h.to hs (h4.less (by omega) h.sH) (by rw[e3,h2]),h4,by rw[e4,h3],h5⟩
def rB (P:Program) (B0:Nat) (w0:World) (G:aG) (k nl:Nat) (s:ae) (a:Act) (aQ:St) (a':Act) (w':World):Prop:=
 ∃G',At P B0 w0 G' k nl aQ.sig w'∧bA (k+1) s.loops.length G G'∧aQ.sig.loops.length=s.loops.length∧eu G' k nl aQ.tmps a'∧a'.tmps.size=a.tmps.size∧a'.defers=a.defers
theorem eu.put {ρ:Nat→AV} {a:Act} (h:eu G k nl ρ a) {dst:Option Nat} (hd:∀t,dst=some t→t<a.tmps.size) {x:AV} {v:Value} (hx:Rel G k nl x v):eu G k nl (ki ρ dst x) (a.put dst v):=by
 cases dst with
 |none=>exact h
 | some t =>
  intro u
  have ht:=hd t rfl
  simp only[ki,Act.put,Ax.put]
  by_cases hu:u=t
  ·subst hu
   rw[ak rfl]
   have:(a.tmps.setIfInBounds u v).getD u Go.undef=v:=by simp[Array.getD,ht]
   rw[this]
   exact hx
  ·rw[aq hu]
   have:(a.tmps.setIfInBounds t v).getD u Go.undef=a.tmps.getD u Go.undef:=by
    by_cases aC:u<a.tmps.size
    ·simp[Array.getD,aC,qi hu]
    ·simp[Array.getD,aC]
   rw[this]
   exact h u
theorem eu.mono {G':aG} {ρ:Nat→AV} {a:Act} (h:eu G k nl ρ a) (hle:bA k nl G G'):eu G' k nl ρ a:=fun t=>(h t).mono hle (aH _) (aH _)
theorem arb (a:Act) (dst:Option Nat) (v:Value):(a.put dst v).tmps.size=a.tmps.size:=by
 cases dst with
 |none=>rfl
 |some t=>simp[Act.put]
theorem put_defers (a:Act) (dst:Option Nat) (v:Value):(a.put dst v).defers=a.defers:=by
 cases dst<;>rfl
theorem db.post {a:Act} {ρ:Nat→AV} {dst:Option Nat} {w':World} {x:AV} {v:Value} (h:At P B0 w0 G k nl s w) (hR:eu G k nl ρ a) (hd:∀t,dst=some t→t<a.tmps.size) (hs:db P B0 w0 G k nl s s' w' x v):
  rB P B0 w0 G k nl s a ⟨ki ρ dst x,s'⟩ (a.put dst v) w':=by
 obtain⟨G',h1,h2,h3,h4⟩:=hs
 exact⟨G',h1,h2,h3,(hR.mono (h2.less (by omega) h.sH)).put hd h4,arb _ _ _,put_defers _ _ _⟩
theorem Rel.ade {x:AV} {b:Bool} (h:Rel G k nl x (.bool b)):x=.v (.bool b):=by
 cases h with
 |cl h=>cases h with|v h=>rfl
theorem atx {all : List Oper} {o : Oper} {g : Option (Nat × Bool)} {ρ : Nat → AV} {a : Act} (hg : AF all o.guard = some g) (hR : eu G k nl ρ a) : Region.wanted o (yielded all.toArray a.tmps) = kj ρ g := by
  unfold Region.wanted
  cases pW:o.guard with
  | none =>
    rw[pW]at hg
    simp only[AF,fl]at hg
    subst hg
    rfl
  | some p =>
    obtain⟨j,b⟩:=p
    rw[pW]at hg
    simp only[AF]at hg
    split at hg
    · rename_i t ht
      injection hg with hg
      subst hg
      simp only[kj,yielded]
      have e:(all.toArray[j]?).bind (·.dst)=some t:=by simpa using ht
      rw[e]
      simp only[eK]
      have hr:=hR t
      by_cases hb:∃c,a.tmps.getD t Go.undef=.bool c
      · obtain ⟨c, hc⟩ := hb
        rw[hc]at hr
        rw[hr.ade]
        have:a.tmps[t]? =some (.bool c):=by
          by_cases aC:t<a.tmps.size
          · have : a.tmps.getD t Go.undef = a.tmps[t] := by simp [Array.getD, aC]
            rw[this]at hc
            rw[abz aC,hc]
          · have : a.tmps.getD t Go.undef = Go.undef := by simp [Array.getD, aC]
            rw[this]at hc
            cases hc
        rw[this]
        simp[Cd]
      · have h1 : (match a.tmps[t]? with | some (.bool b) => some b | _ => none) = (none : Option Bool) := by
          split
          · rename_i b fF
            exact absurd ⟨b,by
              obtain⟨aC,OB⟩:=uf.1 fF
              simp[Array.getD,aC,OB]⟩ hb
          · rfl
        have h2:Cd b (ρ t)=false:=by
          unfold Cd
          split
          · rename_i c hc
            rw[hc]at hr
            exact absurd ⟨c,hr.gj⟩ hb
          · rfl
        rw[h2]
        first
          |(rw[h1];rfl)
          | (split
             · rename_i c hc
               exact absurd ⟨c,by
                 obtain⟨aC,OB⟩:=uf.1 hc
                 simp[Array.getD,aC,OB]⟩ hb
             · rfl)
    · cases hg
theorem aaU {call:aZ} (dj:kM P B0 w0 call) (bh:gX call) {rd:Option Nat} {n:Nat} {ro:Bool} {t:Target} {tv:Array Value→Sem Next} {args:List AV} {xs:Array Value} {x:AV} (h:At P B0 w0 G k nl s w)
  (ht:LQ G nl t tv) (hl:xs.size=args.length) (hR:∀i (hi:i<args.length),Rel G k nl args[i] (xs.getD i Go.undef)) (hc:dF call ro s t args=some (x,s'))
  {o:Oper} {a:Act} {K:Act→World→Prop} {Q:Exit→Act→World→Prop} (hK:∀z w',db P B0 w0 G k nl s s' w' x z→K (a.put o.dst z) w'):
  o.uponIn (iz rd) n P a K Q ((tv xs).run P w):=by
 obtain⟨s1,s2,e1,e2,hc,e3,e4⟩:=aeT bh hc
 have qO:cu P B0 w0 G s1 w:=h.rel.of_eq e1 e2
 have Bj:(iz rd).depth.isSome=true→1≤n:=by rw[Jr];intro h;cases h
 cases ht with
 |fn f=>
  obtain⟨hb,dw⟩:=dj.fn G k nl s1 w f args xs x s2 qO (by rw[e1,h.len];exact aH _) (by rw[e1,h.len];exact sY _) (by rw[e2];exact h.sH) hl hR hc
  rw[hb.run]
  simp only[Oper.uponIn_enter]
  refine⟨Bj,CallsIn.mono (Jq rd dw) fun e w' he=>?_⟩
  obtain⟨z,rfl,hz⟩:=he
  exact hK z w' (hz.step h e1 e2 e3 e4)
 | @yield l r qH hr=>
  obtain⟨rc,kD,bR,Kd⟩:=dj.yield G k nl s1 w l r args xs x s2 qO (by rw[e1,h.len];exact aH _) (by rw[e1,h.len];exact sY _) (by rw[e2];exact h.sH) qH hr hl hR hc
  rw[run_yield kD bR]
  simp only[Oper.uponIn_round]
  refine⟨Bj,RoundIn.mono (af6 rd (Kd (n-1))) fun e w' he=>?_⟩
  obtain⟨z,rfl,hz⟩:=he
  exact hK z w' (hz.step h e1 e2 e3 e4)
theorem KL {f:Value} {fn:Fn} {first caps:Array Value} (hf:f=.func fn first caps) (args:Array Value) (w:World):(Deferred.ofValue f args).run P w=.ok {target:=.fn fn caps,args:=first++args} w:=by
 subst hf
 rfl
theorem A0 (xs ys:Array Value) (i:Nat):(xs++ys).getD i Go.undef=if i<xs.size then xs.getD i Go.undef else ys.getD (i-xs.size) Go.undef:=by
 by_cases h1:i<xs.size
 ·rw[ak h1]
  have:i<(xs++ys).size:=by simp;omega
  simp[Array.getD,h1,Array.getElem_append_left,this]
  omega
 ·rw[aq h1]
  by_cases h2:i-xs.size<ys.size
  ·have:i<(xs++ys).size:=by simp;omega
   have h3:i<xs.size+ys.size:=by omega
   simp[Array.getD,h2,h3,Array.getElem_append_right (LG h1)]
  ·have:¬i<xs.size+ys.size:=by omega
   simp[Array.getD,h2,this]
theorem I6 {call:aZ} (dj:kM P B0 w0 call) (bh:gX call) {rd:Option Nat} {n:Nat} {ro:Bool} {f:AV} {fv:Value} {args:List AV} {xs:Array Value} {x:AV} (h:At P B0 w0 G k nl s w)
  (hf:Rel G k nl f fv) (hl:xs.size=args.length) (hR:∀i (hi:i<args.length),Rel G k nl args[i] (xs.getD i Go.undef)) (hc:lL call ro s f args=some (x,s'))
  {o:Oper} {a:Act} {K:Act→World→Prop} {Q:Exit→Act→World→Prop} (hK:∀z w',db P B0 w0 G k nl s s' w' x z→K (a.put o.dst z) w'):
  o.uponIn (iz rd) n P a K Q ((do let d←Deferred.ofValue fv xs;invoke d.target d.args:Sem Next).run P w):=by
 unfold lL at hc
 split at hc
 ·rename_i g first caps
  obtain⟨a1,a2,rfl,l1,l2,r1,r2⟩:=hf.BB
  have cY:(do let d←Deferred.ofValue (.func (.func g) a1 a2) xs;invoke d.target d.args:Sem Next).run P w=(callFunc g (a1++xs++a2)).run P w:=by
   simp only[Sem.run_bind,KL (P:=P) rfl,Result.andThen_ok]
   rfl
  rw[cY]
  refine aaU dj bh h (.fn g) (by simp[l1,l2,hl]) (fun i hi=>?_) hc hK
  rw[A0,A0]
  simp only[cj]at hi
  by_cases h1:i<first.length
  ·rw[ak (by simp;omega),ak (by omega)]
   have e:(first++args++caps)[i]=first[i]:=by
    rw[um (by simp;omega),um h1]
   rw[e]
   exact .cl (r1 i h1)
  ·by_cases h2:i<first.length+args.length
   ·rw[ak (by simp;omega),aq (by omega)]
    have e:(first++args++caps)[i]=args[i-first.length]'(by omega):=by
     rw[um (by simp;omega),uo (by omega)]
    rw[e,l1]
    exact hR _ _
   ·rw[aq (by simp;omega)]
    have e:(first++args++caps)[i]=caps[i-(first.length+args.length)]'(by omega):=by
     rw[uo (by simp;omega)]
     simp
    rw[e]
    have:(a1++xs).size=first.length+args.length:=by simp[l1,hl]
    rw[this]
    exact r2 _ _
 ·rename_i l
  obtain⟨r,rfl,qH,hr⟩:=hf.P3
  have cY : (do let d ← Deferred.ofValue (.func (.yield r) #[] #[]) xs; invoke d.target d.args : Sem Next).run P w = (Instr.yield r xs).run P w := by
   simp only[Sem.run_bind,KL (P:=P) rfl,Result.andThen_ok]
   simp[invoke]
  rw[cY]
  exact aaU dj bh h (.yield qH hr) hl hR hc hK
 ·cases hc
theorem adT {call:aZ} (eY:nK P B0 w0 call) {rd:Option Nat} {n:Nat} {f:FuncId} {args:List AV} {xs:Array Value} {x:AV} (h:At P B0 w0 G k nl s w) (aR:s.loops.length=nl)
  (hl:xs.size=args.length) (hR:∀i (hi:i<args.length),Rel G k nl args[i] (xs.getD i Go.undef)) (hc:dF call false s (.inl f) args=some (x,s'))
  {o:Oper} {a:Act} {K:Act→World→Prop} {Q:Exit→Act→World→Prop} (hK:∀z w',db P B0 w0 G k nl s s' w' x z→K (a.put o.dst z) w'):
  o.uponIn (iz rd) n P a K Q ((callFunc f xs).run P w):=by
 have Bj:(iz rd).depth.isSome=true→1≤n:=by rw[Jr];intro h;cases h
 simp only[dF,ef,cE]at hc
 obtain⟨hb,dw⟩:=eY.inl G k nl s w f args xs x s' h aR hl hR hc
 rw[hb.run]
 simp only[Oper.uponIn_enter]
 refine⟨Bj,CallsIn.mono (Jq rd dw) fun e w' he=>?_⟩
 obtain⟨z,rfl,hz⟩:=he
 exact hK z w' (hz.step h rfl rfl rfl rfl)
theorem adU {call:aZ} (eY:nK P B0 w0 call) {rd:Option Nat} {n:Nat} {f:FuncId} {args:List AV} {xs:Array Value} {x:AV} (h:At P B0 w0 G k nl s w)
  (hl:xs.size=args.length) (hR:∀i (hi:i<args.length),Rel G k nl args[i] (xs.getD i Go.undef)) (hc:dF call true s (.nat f) args=some (x,s'))
  {o:Oper} {a:Act} {K:Act→World→Prop} {Q:Exit→Act→World→Prop} (hK:∀z w',db P B0 w0 G k nl s s' w' x z→K (a.put o.dst z) w'):
  o.uponIn (iz rd) n P a K Q ((callFunc f xs).run P w):=by
 simp only[dF,bB]at hc
 obtain⟨⟨y,s2⟩,oS,e⟩:=aU.1 hc
 injection e with e1 e2
 simp only at e1
 subst e1 e2
 obtain⟨_,z,hz,hr⟩:=eY.nat G.I _ w f args xs y s2 hl (fun i hi c hc=>(hR i hi).close hc) oS
 rw[hz,Oper.uponIn_value]
 exact hK z w (.same h hr.rel)
structure abB (s s2:ae) (k:Nat):Prop where
 loops:s2.loops=s.loops
 avJ:s2.ag.length=k+2
 pop:s2.pop.ag=s.ag
 cur:s2.cur=k+1
 jI:∀q:ae,q.ag=s2.ag→q.jI k=s.jI k
 bL:∀q:ae,q.ag=s2.ag→q.bL k=s.bL k
theorem behind {call:aZ} (bh:gX call) {f:FuncId} {args:List AV} {y:AV} {s2:ae} (h:At P B0 w0 G k nl s w)
  (aT:call (.fn f) args {s.push ⟨[],[]⟩with ro:=s.ag.length,bo:=s.loops.length}=some (y,s2)):abB s s2 k:=by
 have hlen:=h.len
 have oR:({s.push ⟨[],[]⟩with ro:=s.ag.length,bo:=s.loops.length}:ae).ag.length=k+2:=by simp[ae.push,hlen]
 obtain⟨f1,f2,_,_,f3,f4⟩:=bh _ _ _ _ _ (by rw[oR,hlen];exact sY _) (aH _) aT
 simp only at f1 f2 f3 f4
 have qI:s2.loops=s.loops:=by
  refine Lp f2 fun d h1 h2=>?_
  have:=f4 d h2
  rw[cM h1]at this
  have h3:(s.push ⟨[],[]⟩).loops[d]? =some s.loops[d]:=cM h2
  rw[h3]at this
  injection this
 have oe:s2.ag.length=k+2:=by rw[f1];simp[ae.push,hlen]
 have tI:s2.pop.ag=s.ag:=by
  refine pD fun d=>?_
  simp only[ae.pop,wH oe]
  by_cases hd:d<k+1
  ·rw[ak hd,f3 d (by rw[hlen];exact hd)]
   simp only[ae.push]
   rw[dC (by rw[hlen];exact hd)]
  ·rw[aq hd,nL (by rw[hlen];omega)]
 have hk:s2.ag[k]? =s.ag[k]? :=by
  rw[f3 k (by rw[hlen];exact LH k)]
  simp only[ae.push]
  rw[dC (by rw[hlen];exact LH k)]
 exact⟨qI,oe,tI,by simp[ae.cur,oe],fun q hq=>by simp only[ae.jI,hq,hk],fun q hq=>by simp only[ae.bL,hq,hk]⟩
theorem UE {call:aZ} (dj:kM P B0 w0 call) (bh:gX call) {rd:Option Nat} {n:Nat} {f:FuncId} {args:List AV} {xs:Array Value} {x y:AV} {s2:ae} (h:At P B0 w0 G k nl s w)
  (hl:xs.size=args.length) (hR:∀i (hi:i<args.length),Rel G k nl args[i] (xs.getD i Go.undef))
  (aT:call (.fn f) args {s.push ⟨[],[]⟩with ro:=s.ag.length,bo:=s.loops.length}=some (y,s2))
  (ho:∃s3,kg {s2 with ro:=s.ro,bo:=s.bo} y=some (x,s3)∧s3.ag=s'.ag∧s3.loops=s'.loops)
  {o:Oper} {a:Act} {K:Act→World→Prop} {Q:Exit→Act→World→Prop} (hK:∀z w',db P B0 w0 G k nl s s' w' x z→K (a.put o.dst z) w'):
  o.uponIn (iz rd) n P a K Q ((callFunc f xs).run P w):=by
 have Bj:(iz rd).depth.isSome=true→1≤n:=by rw[Jr];intro h;cases h
 have hp:=QR h.rel
 have hlen:=h.len
 have ajJ:=G.KY s.loops.length
 have qO:cu P B0 w0 (G.kh s.loops.length) {s.push ⟨[],[]⟩with ro:=s.ag.length,bo:=s.loops.length} w:=hp.rel.of_eq rfl rfl
 have oR:({s.push ⟨[],[]⟩with ro:=s.ag.length,bo:=s.loops.length}:ae).ag.length=k+2:=by simp[ae.push,hlen]
 obtain⟨hb,dw⟩:=dj.fn (G.kh s.loops.length) (k+1) s.loops.length _ w f args xs y s2 qO (by rw[oR];exact aH _) (by rw[oR];exact sY _) (aH _) hl
  (fun i hi=>(hR i hi).mono (ajJ _ _) (sY _) h.sH) aT
 obtain⟨qI,oe,tI,gQ,_,_⟩:=behind bh h aT
 obtain⟨s3,ho,uV,O0⟩:=ho
 rw[hb.run]
 simp only[Oper.uponIn_enter]
 refine⟨Bj,CallsIn.mono (Jq rd dw) fun e w' he=>?_⟩
 obtain⟨z,rfl,G',PF,q1,q2,hle,hz⟩:=he
 refine hK z w' ?_
 have sc:(G.kh s.loops.length).ag[k+1]? =some ⟨[],[],s.loops.length,[],fun _=>none⟩:=by
  have:G.ag.length=k+1:=by rw[h.rel.len,hlen]
  simp[aG.kh,this]
 obtain⟨bI,bu,er,_⟩:=hle.ag (k+1) _ (sY _) sc
 have hAt:At P B0 w0 G' (k+1) s.loops.length {s2 with ro:=s.ro,bo:=s.bo} w':=⟨PF.of_eq rfl rfl,oe,bI,bu,er.nl⟩
 obtain⟨G2,b1,b2,b3,b4,b5,b6,b7⟩:=Zu hAt (by show s2.loops.length=_;rw[qI]) (kc:=k) (nlc:=nl) (aH _) hz ho
 have WD:bA (k+1) s.loops.length G G2:=by
  refine⟨fun b i v e=>b4 b i v (hle.I b i v e),fun d gr hd e=>?_,fun l r hl e=>b6 l r (hle.loops l r hl e)⟩
  have tE:d<k+1:=by
   have:=(bd.1 e).1
   rw[h.rel.len,hlen]at this;exact this
  have e':(G.kh s.loops.length).ag[d]? =some gr:=my e
  obtain⟨g1,c1,c2,c3⟩:=hle.ag d gr (by omega) e'
  obtain⟨g2,c4,c5,c6⟩:=b5 d g1 (by omega) c1
  exact⟨g2,c4,c2.trans c5,fun _=>c6.trans (c3 (by omega))⟩
 have mL:cu P B0 w0 G2 s' w':=b1.of_eq uV.symm O0.symm
 exact⟨G2,h.to mL (WD.less (sY _) h.sH) (by rw[←uV,b2,hlen]),WD,by rw[←O0,b3];exact hU List.length qI,b7⟩
theorem adX {call:aZ} (dj:kM P B0 w0 call) (bh:gX call) {rd:Option Nat} {n:Nat} {f:FuncId} {args:List AV} {xs:Array Value} {x:AV} (h:At P B0 w0 G k nl s w)
  (hl:xs.size=args.length) (hR:∀i (hi:i<args.length),Rel G k nl args[i] (xs.getD i Go.undef)) (hc:ng call s f args=some (x,s'))
  {o:Oper} {a:Act} {K:Act→World→Prop} {Q:Exit→Act→World→Prop} (hK:∀z w',db P B0 w0 G k nl s s' w' x z→K (a.put o.dst z) w'):
  o.uponIn (iz rd) n P a K Q ((callFunc f xs).run P w):=by
 have hlen:=h.len
 obtain⟨y,s2,aT⟩:∃y s2,call (.fn f) args {s.push ⟨[],[]⟩with ro:=s.ag.length,bo:=s.loops.length}=some (y,s2):=by
  unfold ng at hc
  split at hc
  ·exact⟨_,_,by assumption⟩
  ·cases hc
  ·exact⟨_,_,by assumption⟩
  ·cases hc
 obtain⟨qI,oe,tI,gQ,si,_⟩:=behind bh h aT
 have Gk:s.cur=k:=h.gI
 refine UE dj bh h hl hR aT ?_ hK
 unfold ng at hc
 rw[aT]at hc
 split at hc
 ·rename_i d g es ys s4 e
  injection e with e
  injection e with e1 e2
  subst e1 e2
  have dT:({s2 with ro:=s.ro,bo:=s.bo}:ae).cur=k+1:=gQ
  split at hc
  ·rename_i bn
   obtain⟨c1,c2,c3,c4⟩:=bn
   injection hc with hc
   injection hc with rZ mE
   rw[hlen]at c1 c3
   subst c1
   refine⟨({s2 with ro:=s.ro,bo:=s.bo}:ae).pop.kT k ys.length,?_,?_,?_⟩
   ·simp only[kg]
    rw[ak ⟨dT.symm,by omega,c3,c4⟩,←rZ,Gk]
    have:=si {s2 with ro:=s.ro,bo:=s.bo} rfl
    simp only[HE,this]
   ·rw[←mE,Gk]
    have:({s2 with ro:=s.ro,bo:=s.bo}:ae).pop.ag=s.ag:=tI
    simp only[ae.kT,ae.bp,this]
   ·rw[←mE];exact qI
  ·rename_i bn
   injection hc with hc
   injection hc with rZ mE
   refine⟨({s2 with ro:=s.ro,bo:=s.bo}:ae).pop,?_,?_,?_⟩
   ·simp only[kg]
    rw[aq (fun q=>bn ⟨by rw[hlen,←dT];exact q.1,by rw[hlen];omega,by rw[hlen,←dT,←q.1];exact q.2.2.1,q.2.2.2⟩),rZ]
   ·rw[←mE];exact tI
   ·rw[←mE];exact qI
 ·cases hc
 ·rename_i y' s4 gU Pe e
  injection e with e
  injection e with e1 e2
  subst e1 e2
  obtain⟨v,hv,hc⟩:=aU.1 hc
  injection hc with rZ mE
  subst rZ
  refine⟨({s2 with ro:=s.ro,bo:=s.bo}:ae).pop,?_,?_,?_⟩
  ·have dc:ed {s2 with ro:=s.ro,bo:=s.bo} y=ed s2 y:=Yy
   unfold kg
   split
   ·rename_i d g es ys
    exact absurd rfl (gU d g es ys)
   ·exact absurd rfl (Pe _ _ _ _ _ _)
   ·rw[dc,hv];rfl
  ·rw[←mE];exact tI
  ·rw[←mE];exact qI
 ·rename_i e;cases e
theorem adS {call:aZ} (dj:kM P B0 w0 call) (bh:gX call) {rd:Option Nat} {n:Nat} {f:FuncId} {args:List AV} {xs:Array Value} {x:AV} (h:At P B0 w0 G k nl s w)
  (hl:xs.size=args.length) (hR:∀i (hi:i<args.length),Rel G k nl args[i] (xs.getD i Go.undef)) (hc:lK call s f args=some (x,s'))
  {o:Oper} {a:Act} {K:Act→World→Prop} {Q:Exit→Act→World→Prop} (hK:∀z w',db P B0 w0 G k nl s s' w' x z→K (a.put o.dst z) w'):
  o.uponIn (iz rd) n P a K Q ((callFunc f xs).run P w):=by
 have hlen:=h.len
 obtain⟨y,s2,aT⟩:∃y s2,call (.fn f) args {s.push ⟨[],[]⟩with ro:=s.ag.length,bo:=s.loops.length}=some (y,s2):=by
  unfold lK at hc
  split at hc
  ·exact⟨_,_,by assumption⟩
  ·cases hc
  ·exact⟨_,_,by assumption⟩
  ·cases hc
 obtain⟨qI,oe,tI,gQ,_,mJ⟩:=behind bh h aT
 have Gk:s.cur=k:=h.gI
 refine UE dj bh h hl hR aT ?_ hK
 have dc:ed {s2 with ro:=s.ro,bo:=s.bo} y=ed s2 y:=Yy
 unfold lK at hc
 rw[aT]at hc
 split at hc
 ·rename_i d b off es n cap s4 e
  injection e with e
  injection e with e1 e2
  subst e1 e2
  have dT:({s2 with ro:=s.ro,bo:=s.bo}:ae).cur=k+1:=gQ
  split at hc
  ·rename_i bn
   obtain⟨c1,c2,c3,rfl,rfl,c6⟩:=bn
   obtain⟨cs,di,hc⟩:=cX.1 hc
   split at hc
   case isFalse=>cases hc
   rename_i dw
   obtain⟨cs',eV,hc⟩:=aU.1 hc
   injection hc with rZ mE
   rw[hlen]at c1 c3
   subst c1
   refine⟨({s2 with ro:=s.ro,bo:=s.bo}:ae).pop.jj k cs',?_,?_,?_⟩
   ·simp only[kg]
    rw[ak ⟨dT.symm,by omega,c3,trivial,trivial,c6⟩]
    have aim:({s2 with ro:=s.ro,bo:=s.bo}:ae).box (k+1) b=some cs:=di
    rw[aim,eK,ak dw,eV,←rZ,Gk]
    have:=mJ {s2 with ro:=s.ro,bo:=s.bo} rfl
    simp only[HE,this,dK]
   ·rw[←mE]
    have:({s2 with ro:=s.ro,bo:=s.bo}:ae).pop.ag=s.ag:=tI
    simp only[ae.dz,Gk,ae.jj,ae.bp,this]
   ·rw[←mE];exact qI
  ·rename_i bn
   obtain⟨v,hv,hc⟩:=aU.1 hc
   injection hc with rZ mE
   subst rZ
   refine⟨({s2 with ro:=s.ro,bo:=s.bo}:ae).pop,?_,?_,?_⟩
   ·simp only[kg]
    rw[aq (fun q=>bn ⟨by rw[hlen,←dT];exact q.1,by rw[hlen];omega,by rw[hlen,←dT,←q.1];exact q.2.2.1,q.2.2.2⟩),dc,hv]
    rfl
   ·rw[←mE];exact tI
   ·rw[←mE];exact qI
 ·cases hc
 ·rename_i y' s4 Pe gU e
  injection e with e
  injection e with e1 e2
  subst e1 e2
  obtain⟨v,hv,hc⟩:=aU.1 hc
  injection hc with rZ mE
  subst rZ
  refine⟨({s2 with ro:=s.ro,bo:=s.bo}:ae).pop,?_,?_,?_⟩
  ·unfold kg
   split
   ·rename_i d g es ys
    exact absurd rfl (gU d g es ys)
   ·exact absurd rfl (Pe _ _ _ _ _ _)
   ·rw[dc,hv];rfl
  ·rw[←mE];exact tI
  ·rw[←mE];exact qI
 ·rename_i e;cases e
theorem UF {call:aZ} {m m':ae} {t:Target} {args:List AV} {ws:List (Bool×Nat×AV)} {v:AV} (h:oF call m t args ws=some (v,m')):dF call false m t args=some (v,m'):=by
 unfold oF at h
 split at h
 ·rename_i v' m2 e
  split at h
  ·injection h with h
   simp only[dF,ef,cE]
   rw[e,h]
  ·cases h
 ·cases h
theorem NZ {call:aZ} {ro:Bool} {m m':ae} {zs:List (List AV)} {t:Target} {args:List AV} {v:AV} (h:nh call ro m zs t args=some (v,m')):dF call ro m t args=some (v,m'):=by
 unfold nh at h
 split at h
 ·rename_i v' m2 e
  split at h
  ·injection h with h
   rw[e,h]
  ·cases h
 ·cases h
theorem aeB {ro own:Bool} {mu:Mu} {fr:Option (List (List AV))} {c:Call} {jx:bX} (h:AE P ro own mu fr c=some jx) (hn:jo jx=true):∃as f,fu dt c.args.toList=some as∧c.callee=.value f∧
  ((∃g,f=.func g∧(jx=.call ro g as∨jx=.th g as∨(∃zs,jx=.rK ro zs g as)∨jx=.wy g as∨jx=.wz g as∨jx=.tf g as∨jx=.qn g as mu.ws))∨∃y,dt f=some y∧jx=.jZ ro y as):=by
 unfold AE at h
 split at h
 ·cases h
 rename_i as has
 split at h
 ·rename_i g hg
  injection h with h
  refine⟨as,_,has,hg,.inl ⟨g,rfl,?_⟩⟩
  split at h
  ·exact .inr (.inr (.inr (.inr (.inl h.symm))))
  split at h
  ·exact .inr (.inr (.inr (.inl h.symm)))
  split at h
  ·exact .inr (.inr (.inr (.inr (.inr (.inl h.symm)))))
  split at h
  ·exact .inr (.inr (.inr (.inr (.inr (.inr h.symm)))))
  split at h
  ·exact .inr (.inl h.symm)
  ·split at h
   ·exact .inr (.inr (.inl ⟨_,h.symm⟩))
   ·exact .inl h.symm
 ·rename_i f hf OH
  obtain⟨y,hy,rfl⟩:=aU.1 h
  exact⟨as,_,has,OH,.inr ⟨y,hy,rfl⟩⟩
 ·cases h
 ·split at h
  ·split at h
   ·split at h
    ·split at h
     ·injection h with h
      subst h
      exfalso
      revert hn
      repeat' split
      all_goals simp[jo]
     ·cases h
    ·cases h
   ·cases h
  ·split at h<;>first|(cases h;done)|(injection h with h;subst h;simp[jo]at hn)
  ·split at h
   ·split at h<;>first|(cases h;done)|(injection h with h;subst h;simp[jo]at hn)
   ·cases h
  ·split at h
   ·split at h
    ·split at h<;>first|(cases h;done)|(injection h with h;subst h;simp[jo]at hn)
    ·cases h
   ·cases h
  ·injection h with h;subst h;simp[jo]at hn
  ·injection h with h;subst h;simp[jo]at hn
  ·cases h
theorem aeC {md:Md} {op:Op} {jx:bX} (h:gH P md op=some jx) (hn:jo jx=true):∃c,op=.call c∧AE P md.ro md.own md.mu md.fr c=some jx:=by
  cases op with
  |call c=>exact⟨c,rfl,h⟩
  |move x=>obtain⟨y,_,rfl⟩:=aU.1 h;simp[jo]at hn
  |assign x=>obtain⟨y,_,rfl⟩:=aU.1 h;simp[jo]at hn
  | alloc x =>
    simp only[gH]at h
    split at h<;>(obtain⟨y,_,rfl⟩:=aU.1 h;simp[jo]at hn)
  |nilCheck x=>obtain⟨y,_,rfl⟩:=aU.1 h;simp[jo]at hn
  |unOp _ _ x=>obtain⟨y,_,rfl⟩:=aU.1 h;simp[jo]at hn
  |extract x _=>obtain⟨y,_,rfl⟩:=aU.1 h;simp[jo]at hn
  | binOp op t x y yt =>
    obtain⟨_,_,_,_,hq⟩:=U3 h
    rcases hq with rfl|⟨_,_,_,_,_,_,_,rfl⟩<;>simp[jo]at hn
  | convert src dst x =>
    simp only[gH]at h
    obtain⟨y,_,h⟩:=cX.1 h
    unfold Fg at h
    repeat' split at h
    all_goals first|(cases h;done)|(injection h with h;subst h;simp[jo]at hn)
  | makeFunc fn a b =>
    cases fn<;>simp only[gH]at h<;>first|(cases h;done)|skip
    split at h
    · injection h with h;subst h;simp[jo]at hn
    · cases h
  | _ =>
    simp only[gH]at h
    first
      |(cases h;done)
      | (repeat' split at h
         all_goals first
          |(cases h;done)
          |(injection h with h;subst h;simp[jo]at hn;done)
          |(obtain⟨_,_,rfl⟩:=aU.1 h;simp[jo]at hn))
noncomputable def rk (call:aZ) (o:bz) (st:St):Option St:=
 if kj st.tmps o.guard then
  match aN call (aE st.tmps) st.sig o.op with
  |some (x,m)=>some ⟨ki st.tmps o.dst x,m⟩
  |none=>none
 else some ⟨ki st.tmps o.dst AV.undef,st.sig⟩
theorem QB (call:aZ) (o:bz) (r:List bz) (st:St):ops call (o::r) st=(rk call o st).bind (ops call r):=by
 simp only[ops,rk]
 split
 ·split
  ·rename_i h
   simp[h]
  ·rename_i h
   simp[h]
 ·rfl
theorem Zd {call:aZ} (dj:kM P B0 w0 call) (eY:nK P B0 w0 call) (bh:gX call) {rd:Option Nat} {n:Nat} {md:Md} {all:List Oper} {o:Oper} {ao:bz} {st aQ:St} {a:Act} (h:At P B0 w0 G k nl st.sig w) (aR:st.sig.loops.length=nl) (hR:eu G k nl st.tmps a)
  (hg:AF all o.guard=some ao.guard) (cd:gH P md o.op=some ao.op) (JT:ao.dst=o.dst) (hd:∀t,ao.dst=some t→t<a.tmps.size) (hs:rk call ao st=some aQ)
  {K:Act→World→Prop} {Q:Exit→Act→World→Prop} (hK:∀a' w',rB P B0 w0 G k nl st.sig a aQ a' w'→K a' w'):
  if Region.wanted o (yielded all.toArray a.tmps)then o.wpIn (iz rd) n P a w K Q else(∀f,o.about P w a.eval=some f→(iz rd).fn f)∧K (a.put o.dst Go.undef) w:=by
 rw[atx hg hR]
 unfold rk at hs
 cases hw:kj st.tmps ao.guard with
 |false=>
  rw[hw]at hs
  simp only[ef,cE,fl]at hs⊢
  subst hs
  refine⟨fun f _=>N0 rd f,hK _ _ ?_⟩
  rw[←JT]
  exact(db.same h .undef).post h hR hd
 | true =>
  rw[hw]at hs
  simp only[bB]at hs⊢
  split at hs
  case h_2=>cases hs
  rename_i x m hv
  injection hs with hs
  subst hs
  refine⟨fun f _=>N0 rd f,?_⟩
  cases aT:jo ao.op with
  | false =>
   have Br:∀c,o.op≠.defer c:=fun c e=>by rw[e]at cd;simp[gH]at cd
   rw[Oper.semAt_eq _ _ _ Br]
   obtain⟨w',hq⟩:=aqe h hR cd aT hv
   rcases hq with⟨z,h1,h2⟩|⟨h1,h2⟩
   ·rw[h1,Oper.uponIn_value]
    refine hK _ _ ?_
    rw[←JT]
    exact h2.post h hR hd
   ·rw[h1,Oper.uponIn_skip]
    refine hK _ _ ?_
    rw[←JT]
    exact h2.post h hR hd
  | true =>
   obtain⟨c,hc,eV⟩:=aeC cd aT
   obtain⟨as,f,has,OH,hq⟩:=aeB eV aT
   have pS:=S7 has hR
   have aj1:o.semAt (iz rd).round a.eval=(do let d←Deferred.ofValue (a.eval f) (c.args.map a.eval);invoke d.target d.args):=by
    rw[Oper.semAt_eq _ _ _ (fun c' e=>by rw[hc]at e;cases e)]
    unfold execOp
    rw[hc]
    simp only[resolve,OH]
   rw[aj1]
   have wP:∀z w',db P B0 w0 G k nl st.sig m w' x z→K (a.put o.dst z) w':=fun z w' cp=>by
    refine hK _ _ ?_
    rw[←JT]
    exact cp.post h hR hd
   have nr:(c.args.map a.eval).size=(as.map (aE st.tmps)).length∧∀i (hi:i<(as.map (aE st.tmps)).length),Rel G k nl (as.map (aE st.tmps))[i] ((c.args.map a.eval).getD i Go.undef):=by
    simpa using pS
   have Kf:∀g,(do let d←Deferred.ofValue (a.eval (.func g)) (c.args.map a.eval);invoke d.target d.args:Sem Next).run P w=(callFunc g (c.args.map a.eval)).run P w:=fun g=>by
    have e1 : a.eval (.func g) = .func (.func g) #[] #[] := rfl
    rw[e1]
    simp only[Sem.run_bind,KL (P:=P) rfl,Result.andThen_ok]
    simp[invoke]
   rcases hq with⟨g,rfl,e|e|⟨zs,e⟩|e|e|e|e⟩|⟨y,hy,e⟩
   ·rw[e]at hv
    simp only[aN]at hv
    have nC:lL call md.ro st.sig (.fn g [] []) (as.map (aE st.tmps))=some (x,m):=by
     simpa[lL]using hv
    exact I6 dj bh h (.cl (.fn rfl rfl (fun i hi=>absurd hi (da _)) (fun i hi=>absurd hi (da _)))) nr.1 nr.2 nC wP
   ·rw[e]at hv
    simp only[aN]at hv
    rw[Kf]
    exact adX dj bh h nr.1 nr.2 hv wP
   ·rw[e]at hv
    simp only[aN]at hv
    have nC:lL call md.ro st.sig (.fn g [] []) (as.map (aE st.tmps))=some (x,m):=by
     simpa[lL]using NZ hv
    exact I6 dj bh h (.cl (.fn rfl rfl (fun i hi=>absurd hi (da _)) (fun i hi=>absurd hi (da _)))) nr.1 nr.2 nC wP
   ·rw[e]at hv
    simp only[aN]at hv
    rw[Kf]
    exact adT eY h aR nr.1 nr.2 hv wP
   ·rw[e]at hv
    simp only[aN]at hv
    rw[Kf]
    exact adU eY h nr.1 nr.2 hv wP
   ·rw[e]at hv
    simp only[aN]at hv
    rw[Kf]
    exact adS dj bh h nr.1 nr.2 hv wP
   ·rw[e]at hv
    simp only[aN]at hv
    have nC:lL call false st.sig (.fn g [] []) (as.map (aE st.tmps))=some (x,m):=by
     simpa[lL]using UF hv
    exact I6 dj bh h (.cl (.fn rfl rfl (fun i hi=>absurd hi (da _)) (fun i hi=>absurd hi (da _)))) nr.1 nr.2 nC wP
   ·rw[e]at hv
    exact I6 dj bh h (cZ hy hR) nr.1 nr.2 hv wP
end
end Go.Ax
