/-
  Slices built or made, conversions, the least and the greatest.
-/
import Derived.Test.YthoojemlmhliaaaGreatDoorT2
import Derived.RangeFuncOwn
import Derived.TacticsIn
import Derived.OrdersIn
set_option linter.unusedSimpArgs false
set_option linter.unusedVariables false
set_option maxRecDepth 100000
namespace Go.Ax
open Go.RowKit
section
variable{P:Program} {B0:Nat} {w0:World} {G:aH} {k nl:Nat} {w:World} {s:ae}
theorem W3 {q:Array UInt8} {c:Nat} (h:c<q.size):q.getD c 0=q[c]:=by
 unfold Array.getD
 rw[tP h]
 rfl
theorem Qc {x z:AV} (h:x.close=some z):x.bK=true∧z.bK=true:=by
 have hx:x.bK=true:=by
  unfold AV.close at h
  split at h
  ·rfl
  ·split at h
   ·rename_i hc
    cases x with
    |v q=>cases q<;>first|rfl|(simp[AV.isClosed,AV.kI]at hc)
    |agg=>simp[AV.isClosed,AV.kI]at hc
    |tuple=>simp[AV.isClosed,AV.kI]at hc
    |_=>rfl
   ·cases h
 exact⟨hx,Qd h hx⟩
theorem ac7 {q:Nat}:∀(vs:List Value) (o:Nat) (arr:Array Value),o+vs.length≤arr.size→(jw arr o vs).getD q Go.undef=if o≤q∧q<o+vs.length then vs.getD (q-o) Go.undef else arr.getD q Go.undef
 |[],o,arr,_=>by
  rw[ak (by simp)]
  rfl
 | v :: r, o, arr, h => by
  simp only[cH]at h
  simp only[jw]
  rw[ac7 r (o+1) _ (by simp;omega)]
  simp only[cH]
  by_cases h1:o+1≤q∧q<o+1+r.length
  ·rw[aj h1,aj (by omega)]
   have:q-o=(q-(o+1))+1:=by omega
   rw[this,List.getD_cons_succ]
  ·rw[ak h1]
   by_cases h2:q=o
   ·subst h2
    rw[aj (by omega),DQ]
    have:q<arr.size:=by omega
    simp[Array.getD,this]
   ·rw[ak (by omega)]
    by_cases hq:q<arr.size
    ·simp[Array.getD,hq,qQ h2]
    ·simp[Array.getD,hq]
structure Rows (I:fG) (es:Nat) (rows:List (List AV)) (arr:Array Value):Prop where
 size:arr.size=rows.length*es
 len:∀r,r∈rows→r.length=es
 cell:∀r,r∈rows→∀c,c∈r→c.bK=true
 rel:∀i (hi:i<rows.length) j (hj:j<rows[i].length),bN I (rows[i][j]) (arr.getD (i*es+j) Go.undef)
theorem acR {i j n es:Nat} (hi:i<n) (hj:j<es):i*es+j<n*es:=by
 calc i*es+j<i*es+es:=by omega
  _=(i+1)*es:=by rw[iM,wP]
  _≤n*es:=pd _ hi
theorem awQ {i q j es:Nat} (hj:j<es) (aF:q≠i):¬(i*es≤q*es+j∧q*es+j<i*es+es):=by
 intro⟨h1,h2⟩
 rcases Nat.lt_or_gt_of_ne aF with h|h
 ·have:=acR (es:=es) h hj
  omega
 ·have:(i+1)*es≤q*es:=pd _ h
  rw[iM,wP]at this
  omega
theorem Rows.set {I:fG} {es:Nat} {rows:List (List AV)} {arr:Array Value} (h:Rows I es rows arr) {i:Nat} (hi:i<rows.length) {cs:List AV} {vs:Array Value} (hl:cs.length=es) (bw:∀c,c∈cs→c.bK=true)
  (hR:jA (bN I) cs vs):Rows I es (rows.set i cs) (jw arr (i*es) vs.toList):=by
 have hvs:vs.toList.length=es:=by simp[hR.1,hl]
 have hle:i*es+es≤rows.length*es:=by
  have:(i+1)*es≤rows.length*es:=pd _ hi
  rwa [iM,wP]at this
 refine⟨by rw[It,tt];exact h.size,fun r hr=>?_,fun r hr=>?_,fun q hq j hj=>?_⟩
 ·rcases UF hr with hr|rfl
  ·exact h.len r hr
  ·exact hl
 ·rcases UF hr with hr|rfl
  ·exact h.cell r hr
  ·exact bw
 ·have HE:q<rows.length:=by simpa using hq
  rw[ac7 _ _ _ (by rw[hvs,h.size];exact hle),hvs]
  by_cases he:i=q
  ·subst he
   simp only[List.getElem_set_self]at hj⊢
   rw[aj (by omega)]
   have e1:i*es+j-i*es=j:=by omega
   rw[e1]
   have:=hR.2 j hj
   have e2:vs.toList.getD j Go.undef=vs.getD j Go.undef:=by
    have:j<vs.size:=by rw[hR.1];exact hj
    simp[Array.getD,this]
   rw[e2]
   exact this
  ·simp only[List.getElem_set_ne he]at hj⊢
   have dx:j<es:=by rw[←h.len _ (iz HE)];exact hj
   rw[ak (awQ dx (qQ he))]
   exact h.rel q HE j hj
theorem acV {ρ:Nat→AV} {a:Act} (hR:eM G k nl ρ a) {es:Nat}:∀(parts:List (Nat×Operand)) (ps:List (Nat×aJ)) (rows Dk:List (List AV)) (arr:Array Value),
  BK parts=some ps→Rows G.I es rows arr→mP rows (aD ρ) ps=some Dk→
  ∃arr',Instr.fill (fun i=>some (i*es,es)) arr (parts.map fun p=>(p.1,a.eval p.2))=some arr'∧Rows G.I es Dk arr'∧Dk.length=rows.length
 |[],ps,rows,Dk,arr,hp,cw,h=>by
  simp only[BK]at hp
  injection hp with hp
  subst hp
  simp only[mP]at h
  injection h with h
  subst h
  exact⟨arr,rfl,cw,rfl⟩
 | (i, x) :: r, ps, rows, Dk, arr, hp, cw, h => by
  simp only[BK]at hp
  split at hp
  ·rename_i y s' e2 e3
   injection hp with hp
   subst hp
   simp only[mP]at h
   split at h
   ·rename_i row cs f1 f2
    split at h
    ·rename_i hlen
     obtain⟨hi,anK⟩:=bI.1 f1
     have fV:row.length=es:=cw.len _ (anK ▸ iz hi)
     have hx:=dm e2 hR
     obtain⟨c1,c2⟩:=KU f2
     have jF:(aD ρ y).cells.all AV.bK=true:=by
      rw[jh]
      intro c hc
      obtain⟨j,hj,rfl⟩:=nr hc
      exact(Qc (c2 j hj (by omega))).1
     have Co:=hx.cells jF
     have Me:jA (bN G.I) cs (a.eval x).cells:=⟨by rw[Co.1,c1],fun j hj=>(Co.2 j (by omega)).close (c2 j (by omega) hj)⟩
     have lL:∀c,c∈cs→c.bK=true:=fun c hc=>by
      obtain⟨j,hj,rfl⟩:=nr hc
      exact(Qc (c2 j (by omega) hj)).2
     have sL:=cw.set hi (hlen.trans fV) lL Me
     obtain⟨arr',k1,k2,k3⟩:=acV hR r s' _ Dk _ e3 sL h
     refine⟨arr',?_,k2,by rw[k3];simp⟩
     simp only[fR,Instr.fill]
     have cj:(a.eval x).cells.size=es:=by rw[Me.1,hlen,fV]
     have hle:i*es+es≤rows.length*es:=by
      have:(i+1)*es≤rows.length*es:=pd _ hi
      rwa [iM,wP]at this
     have la:=cw.size
     rw[ak (by simp only[An,bne_iff_ne,fB,cj];omega),Yv]
     exact k1
    ·cases h
   ·cases h
  ·cases hp
theorem Rows.slice {I:fG} {es b cap:Nat} {rows:List (List AV)} {arr:Array Value} (h:Rows I es rows arr) (hI:∀i,i<arr.size→I b i=arr[i]?) (gQ:rows.length≤cap):ga I es rows ⟨b,0,none⟩ cap:=by
 refine ga.mk (fun c=>arr.getD c Go.undef) gQ h.len h.cell (fun c hc=>?_) h.rel
 rw[gU,hI c (by rw[h.size];exact hc)]
 have:c<arr.size:=by rw[h.size];exact hc
 simp[Array.getD,this]
theorem Rows.mono {I I':fG} {es:Nat} {rows:List (List AV)} {arr:Array Value} (h:Rows I es rows arr) (hI:∀b i v,I b i=some v→I' b i=some v):Rows I' es rows arr:=
 ⟨h.size,h.len,h.cell,fun i hi j hj=>(h.rel i hi j hj).mono hI⟩
theorem aty (h:At P B0 w0 G k nl s w) {es n:Nat} {rows:List (List AV)} {arr:Array Value} (ty:TypeId) (hr:Rows G.I es rows arr) (hn:rows.length=n):
  ek P B0 w0 G k nl s s (w.alloc (.cells arr ty)) (.slice .full es rows) (.slice (some ⟨w.heap.size,0,none⟩) n n):=by
 subst hn
 have hle:=G.DV w.heap.size arr h.rel.wF (k+1) s.loops.length
 have hs:=h.rel.Oe arr ty (0,0)
 refine⟨_,h.to hs (hle.less (by omega) h.sW) rfl,hle,rfl,.cl (adZ rfl ?_)⟩
 refine(hr.mono hle.I).slice (fun i hi=>?_) (aI _)
 simp[aH.wV]
theorem QG (zs:List AV) (h:0<zs.length):∀(n q:Nat),q<n*zs.length→((List.replicate n zs).flatten)[q]? =zs[q%zs.length]?
 |0,q,hq=>by simp at hq
 | n + 1, q, hq => by
  simp only[NV,qO]
  by_cases aB:q<zs.length
  ·rw[dG aB,DP aB]
  ·rw[iM,wP]at hq
   rw[jy (by omega),QG zs h n _ (by omega),←Nat.mod_eq_sub_mod (by omega)]
theorem y8 (zs:List AV) (n:Nat):(List.replicate n zs).flatten.length=n*zs.length:=by simp
theorem Uc {I:fG} {z:Value} {zs:List AV} (hz:fE uv z.cells.toList=some zs) (h0:0<zs.length) (q:Nat):bN I (zs[q%zs.length]'(uN _ h0)) (z.cells[q%z.cells.size]!):=by
 obtain⟨c1,c2,c3⟩:=tL (I:=I) hz
 have aB:q%zs.length<z.cells.size:=by rw[c1];exact uN _ h0
 have:=c3 (q%zs.length) (uN _ h0)
 rw[c1]
 have e:z.cells[q%zs.length]! =z.cells.getD (q%zs.length) Go.undef:=by simp[Array.getD,aB]
 rw[e]
 exact this
theorem azw {I:fG} {es n:Nat} {z:Value} {zs:List AV} (hz:fE uv z.cells.toList=some zs) (hl:zs.length=es) (h0:0<es):Rows I es (List.replicate n zs) ((Array.range (n*es)).map (z.cells[· %z.cells.size]!)):=by
 obtain⟨c1,c2,c3⟩:=tL (I:=I) hz
 refine⟨by simp,fun r hr=>?_,fun r hr=>?_,fun i hi j hj=>?_⟩
 ·rw[(As.1 hr).2];exact hl
 ·rw[(As.1 hr).2];exact c2
 ·have br:i<n:=by simpa using hi
  have dx:j<es:=by simp only[aeO]at hj;omega
  have aB:i*es+j<n*es:=acR br dx
  have hm:(i*es+j)%es=j:=by rw[N0,Nat.mul_add_mod,DP dx]
  have:=Uc (I:=I) hz (by omega) (i*es+j)
  simp only[hl,hm]at this
  have e:((Array.range (n*es)).map (z.cells[· %z.cells.size]!)).getD (i*es+j) Go.undef=z.cells[(i*es+j)%z.cells.size]! :=by simp[Array.getD,aB]
  rw[e]
  simp only[aeO]
  exact this
theorem W2 (h:At P B0 w0 G k nl s w) {t e:TypeId} {es len:Nat} {zs:List AV} {rows:List (List AV)} {parts:Array (Nat×Operand)} {ps:List (Nat×aJ)} {ρ:Nat→AV} {a:Act} (hR:eM G k nl ρ a)
  (ht:P.underlying t=some (.slice e)) (hs:de P e=some es) (hz:fl P e=some zs) (hp:BK parts.toList=some ps) (hle:len*es≤2^24) (hl:zs.length=es) (h0:0<es)
  (hb:mP (List.replicate len zs) (aD ρ) ps=some rows):
  ∃z w',(Instr.buildSlice t len (parts.map fun(i,x)=>(i,a.eval x))).run P w=.ok z w'∧ek P B0 w0 G k nl s s w' (.slice .full es rows) z:=by
 obtain⟨z,h1,h2⟩:=yn hz
 have nR:=azw (I:=G.I) (n:=len) h2 hl h0
 have hm:(parts.map fun(i,x)=>(i,a.eval x)).toList=parts.toList.map fun p=>(p.1,a.eval p.2):=by simp
 obtain⟨arr',k1,k2,k3⟩:=acV hR parts.toList ps _ rows _ hp nR hb
 have hlen:rows.length=len:=by rw[k3];simp
 refine⟨_,_,?_,aty h e k2 hlen⟩
 have ZJ:¬(len*es>2^24):=by omega
 by_cases hn:len*es=0
 ·have fm:len=0:=by
   rcases Nat.mul_eq_zero.1 hn with h'|h'
   ·exact h'
   ·omega
  subst fm
  simp only[Nat.zero_mul,Array.range_zero',Array.map_empty]at k1
  have e0 : ((Array.range 0).map fun x : Nat => ((#[] : Array Value)[x % (#[] : Array Value).size]!)) = #[] := by simp
  simp only[Instr.buildSlice,Sem.run_bind,run_underlying ht,Result.andThen_ok,jR hs,ak ZJ,aj hn,Sem.run_pure,hm]
  simp only[Nat.zero_mul,e0,k1,newRow,run_newObj,Sem.run_bind,Result.andThen_ok,Sem.run_pure]
  rfl
 ·simp only[Instr.buildSlice,Sem.run_bind,run_underlying ht,Result.andThen_ok,jR hs,ak ZJ,ak hn,Dv h1,Sem.run_pure,hm,k1,newRow,run_newObj]
  rfl
theorem ato (h:At P B0 w0 G k nl s w) {t e:TypeId} {es gB:Nat} {zs:List AV} {l c v:AV} {lv cv:Value} {s':ae} (ht:P.underlying t=some (.slice e)) (hs:de P e=some es) (vu:yQ P e=some gB)
  (hz:fl P e=some zs) (hl:zs.length=es) (h0:0<es) (al3:gB≤4096) (hx:Rel G k nl l lv) (hy:Rel G k nl c cv) (hm:yg s es zs l c=some (v,s')):
  ∃z w',(Instr.makeSlice t lv cv).run P w=.ok z w'∧ek P B0 w0 G k nl s s' w' v z:=by
 unfold yg at hm
 obtain⟨cn,hc,hm⟩:=dS.1 hm
 obtain⟨ln,qt,hm⟩:=aZ.1 hm
 obtain⟨kc,zc,rfl,Ub,IN,rfl⟩:=tH hy hc
 obtain⟨kl,zl,rfl,Ud,zl1,rfl⟩:=tH hx qt
 obtain⟨z,h1,h2⟩:=yn hz
 obtain⟨i,hi,rfl⟩:=HW vu
 have cj:i.size=es:=by
  unfold de at hs
  rw[hi]at hs
  simpa using hs
 have R8:i.zero=some z:=by
  rw[hi]at h1
  simpa using h1
 have R7:zl≤zc:=by omega
 have rr:zc≤4294967296:=by unfold dD at IN;exact IN
 have Rc:(i.bytes:Int)*zc≤281474976710656:=by
  calc(i.bytes:Int)*zc≤4096*zc:=Uj (by omega) Ub
   _≤281474976710656:=by omega
 have dN:=run_make (P:=P) w t e i z ht hi R8 kl kc zl zc Ud R7 Rc (by omega)
 rw[cj]at dN
 refine⟨_,_,dN,?_⟩
 split at hm
 ·rename_i he
  injection hm with lR jH
  subst lR jH
  have hz0:zc.toNat=0:=by
   have hle:=y8 zs zc.toNat
   have ku:(List.replicate zc.toNat zs).flatten=[]:=by simpa using he
   rw[ku,jU,hl]at hle
   rcases Nat.mul_eq_zero.1 hle.symm with h'|h'
   ·exact h'
   ·omega
  have HO:zl.toNat=0:=by omega
  rw[hz0,HO]
  exact⟨_,h.to (h.rel.Oe _ _ _) (G.DV _ _ h.rel.wF _ _) rfl,G.DV _ _ h.rel.wF _ _,rfl,.cl (.empty (.inr rfl))⟩
 rename_i aF
 injection hm with lR jH
 subst lR jH
 have cw:jA (Rel G k nl) (List.replicate zc.toNat zs).flatten (madeCells z.cells (zc.toNat*es)):=by
  refine⟨by rw[size_madeCells,y8,hl],fun q hq=>?_⟩
  rw[y8]at hq
  have hg:=QG zs (by omega) zc.toNat q hq
  have RC:q%zs.length<zs.length:=uN _ (by omega)
  rw[dq RC,dq (by rw[y8];exact hq)]at hg
  injection hg with hg
  rw[hg]
  have:=Uc (I:=G.I) h2 (by omega) q
  have e:(madeCells z.cells (zc.toNat*es)).getD q Go.undef=z.cells[q%z.cells.size]! :=by
   have:q<zc.toNat*es:=by rw[←hl];exact hq
   simp[madeCells,Array.getD,this]
  rw[e]
  exact .cl this
 have vv:∀c,c∈(List.replicate zc.toNat zs).flatten→c.bK=true:=fun c hc=>by
  obtain⟨r,hr,hc⟩:=DG.1 hc
  rw[(As.1 hr).2]at hc
  exact(tL (I:=G.I) h2).2.1 c hc
 exact(C2 h e none (fun _ e=>by cases e) (fun e=>aF (by rw[e];rfl)) vv cw.le).2.2 es zl.toNat zc.toNat zc.toNat (by omega) (aI _) (fun e1 e2=>by omega)
theorem atp (h:At P B0 w0 G k nl s w) {t e:TypeId} {es gB:Nat} {zs:List AV} {l c v:AV} {lv cv:Value} {s':ae} (ht:P.underlying t=some (.slice e)) (hs:de P e=some es) (vu:yQ P e=some gB)
  (hz:fl P e=some zs) (hl:zs.length=es) (h0:0<es) (al3:gB≤4096) (hx:Rel G k nl l lv) (hy:Rel G k nl c cv) (hm:yh s es zs l c=some (v,s')):
  ∃z w',(Instr.makeSlice t lv cv).run P w=.ok z w'∧ek P B0 w0 G k nl s s' w' v z:=by
 unfold yh at hm
 obtain⟨cn,hc,hm⟩:=dS.1 hm
 obtain⟨ln,qt,hm⟩:=dS.1 hm
 obtain⟨kc,zc,rfl,Ub,IN,rfl⟩:=tH hy hc
 obtain⟨kl,zl,rfl,Ud,zl1,rfl⟩:=tH hx qt
 obtain⟨z,h1,h2⟩:=yn hz
 obtain⟨i,hi,rfl⟩:=HW vu
 have cj:i.size=es:=by
  unfold de at hs
  rw[hi]at hs
  simpa using hs
 have R8:i.zero=some z:=by
  rw[hi]at h1
  simpa using h1
 have R7:zl≤zc:=by omega
 have rr:zc≤4294967296:=by unfold dD at IN;exact IN
 have Rc:(i.bytes:Int)*zc≤281474976710656:=by
  calc(i.bytes:Int)*zc≤4096*zc:=Uj (by omega) Ub
   _≤281474976710656:=by omega
 have dN:=run_make (P:=P) w t e i z ht hi R8 kl kc zl zc Ud R7 Rc (by omega)
 rw[cj]at dN
 refine⟨_,_,dN,?_⟩
 split at hm
 ·cases hm
 rename_i aF
 injection hm with hm
 injection hm with lR jH
 subst lR jH
 have heq:zl.toNat=zc.toNat:=tj fun q=>aF (.inr q)
 rw[heq]
 have cw:jA (Rel G k nl) (List.replicate zc.toNat zs).flatten (madeCells z.cells (zc.toNat*es)):=by
  refine⟨by rw[size_madeCells,y8,hl],fun q hq=>?_⟩
  rw[y8]at hq
  have hg:=QG zs (by omega) zc.toNat q hq
  have RC:q%zs.length<zs.length:=uN _ (by omega)
  rw[dq RC,dq (by rw[y8];exact hq)]at hg
  injection hg with hg
  rw[hg]
  have:=Uc (I:=G.I) h2 (by omega) q
  have e:(madeCells z.cells (zc.toNat*es)).getD q Go.undef=z.cells[q%z.cells.size]! :=by
   have:q<zc.toNat*es:=by rw[←hl];exact hq
   simp[madeCells,Array.getD,this]
  rw[e]
  exact .cl this
 have vv:∀c,c∈(List.replicate zc.toNat zs).flatten→c.bK=true:=fun c hc=>by
  obtain⟨r,hr,hc⟩:=DG.1 hc
  rw[(As.1 hr).2]at hc
  exact(tL (I:=G.I) h2).2.1 c hc
 exact(C2 h e (some (zc.toNat*es)) (fun n hn=>by injection hn with hn;rw[size_madeCells,hn]) (fun e=>aF (.inl (by rw[e];rfl))) vv cw.le).2.2 es zc.toNat 0 zc.toNat (aI _) (aV _) (fun _ _=>rfl)
theorem agU {xs:List (List AV)} {l:List UInt8} (hl:bytesOf xs=some l):l.length=xs.length∧∀i (hi:i<xs.length) (hj:i<l.length),xs[i]=[.v (.int .u8 (l[i].toNat:Int))]:=by
 induction xs generalizing l with
 |nil=>simp only[bytesOf]at hl;injection hl with hl;subst hl;simp
 | cons x r ih =>
  simp only[bytesOf]at hl
  split at hl
  ·rename_i b s' hb oO
   injection hl with hl
   subst hl
   obtain⟨i1,i2⟩:=ih oO
   refine⟨by simp[i1],fun i hi hj=>?_⟩
   cases i with
   | zero =>
    simp only[wL]
    unfold byteOf at hb
    split at hb
    ·split at hb
     ·rename_i n hn
      injection hb with hb
      subst hb
      have:((UInt8.ofNat n.toNat).toNat:Int)=n:=by
       rw[UInt8.toNat_ofNat']
       omega
      rw[this]
     ·cases hb
    ·cases hb
   |succ i=>simpa using i2 i (by simpa using hi) (by simpa using hj)
  ·cases hl
theorem ahV (h:At P B0 w0 G k nl s w) {src dst:TypeId} {x:Operand} {ax:aJ} {op:cm} {kd:IS} {a v:AV} {y:Value} (hc:GC P src dst ax=some (.conv kd ax)) (hx:Rel G k nl a y) (hv:mQ kd a=some v):
  ∃z w',(convert src dst y).run P w=.ok z w'∧ek P B0 w0 G k nl s s w' v z:=by
 unfold GC at hc
 split at hc
 ·rename_i k1 k2 hs hd
  injection hc with hc
  injection hc with hc
  subst hc
  cases a with
  | v q =>
   obtain rfl:=hx.gp
   cases y with
   |int k3 n=>
    simp only[mQ]at hv
    injection hv with hv
    subst hv
    exact⟨_,w,by simp[convert,run_underlying hs,run_underlying hd,Conv.intToInt],.same h (.val _ rfl)⟩
   |_=>simp[mQ]at hv
  |_=>simp[mQ]at hv
 ·rename_i hs hd
  injection hc with hc
  injection hc with hc
  subst hc
  cases a with
  | v q =>
   obtain rfl:=hx.gp
   cases y with
   |string q=>
    simp only[mQ]at hv
    injection hv with hv
    subst hv
    exact⟨_,w,by simp[convert,run_underlying hs,run_underlying hd],.same h (.val _ rfl)⟩
   |_=>simp[mQ]at hv
  |_=>simp[mQ]at hv
 ·rename_i e hs hd
  split at hc
  ·rename_i he
   injection hc with hc
   injection hc with hc
   subst hc
   cases a with
   | v q =>
    obtain rfl:=hx.gp
    cases y with
    | string q =>
     simp only[mQ]at hv
     injection hv with hv
     subst hv
     refine⟨_,_,run_bytes_of_string w src dst e q hs hd he,?_⟩
     have Me:=(h.rel.drew).Oe (bytesRow q (grownCap w q.size 0 e)) e ((bytesRow q (grownCap w q.size 0 e)).size,(bytesRow q (grownCap w q.size 0 e)).size+1)
     have hle:=G.DV w.heap.size (bytesRow q (grownCap w q.size 0 e)) h.rel.wF (k+1) s.loops.length
     refine⟨_,h.to Me (hle.less (by omega) h.sW) rfl,hle,rfl,.cl ?_⟩
     have hlen:(byteCells q).length=q.size:=by simp only[byteCells,cg,NA];rfl
     have dW:∀i (hi:i<(byteCells q).length),(byteCells q)[i]=[.v (.int .u8 ((q.data[i]'(by rw[hlen]at hi;exact hi)).toNat:Int))]:=fun i hi=>by
      simp[byteCells]
     have:ga ((G.wV w.heap.size (bytesRow q (grownCap w q.size 0 e))).I) 1 (byteCells q) ⟨w.heap.size,0,none⟩ (grownCap w q.size 0 e):=by
      refine ga.mk (fun c=>(.int .u8 ((q.data.getD c 0).toNat:Int))) (by rw[hlen];exact grownCap_ge _ _ _ _) (fun r hr=>?_) (fun r hr c hc=>?_) (fun c hc=>?_) (fun i hi j hj=>?_)
      ·obtain⟨i,hi,rfl⟩:=nr hr
       rw[dW i hi];rfl
      ·obtain⟨i,hi,rfl⟩:=nr hr
       rw[dW i hi]at hc
       simp only[fS]at hc
       subst hc
       rfl
      ·rw[hlen,wO]at hc
       simp only[aH.wV,cI,gU]
       have mm:c<q.data.size:=hc
       rw[bytesRow_at q _ c mm,W3 mm]
      ·have br:i<q.data.size:=by rw[hlen]at hi;exact hi
       have hj0:j=0:=by rw[dW i hi]at hj;simpa using hj
       subst hj0
       simp only[dW i hi,wL,wO,AA]
       rw[W3 br]
       exact .v rfl
     unfold ga at this
     rw[hlen]at this
     exact this
    |_=>simp[mQ]at hv
   |_=>simp[mQ]at hv
  ·cases hc
 ·rename_i e hs hd
  split at hc
  ·rename_i he
   injection hc with hc
   injection hc with hc
   subst hc
   cases a with
   | slice o es xs =>
    simp only[mQ]at hv
    obtain⟨l,hl,rfl⟩:=aZ.1 hv
    rcases hx.kH with⟨_,rfl,rfl⟩|⟨_,p,cap,rfl,nS,gQ,kG,_⟩
    ·simp only[bytesOf]at hl
     injection hl with hl
     subst hl
     refine⟨_,w,?_,.same h (.val _ rfl)⟩
     rw[run_convert_bytes_string w src dst e none 0 0 hs he hd]
     simp[Conv.bytesToString]
     rfl
    ·have kt:l.length=xs.length∧∀i (hi:i<xs.length) (hj:i<l.length),xs[i]=[.v (.int .u8 (l[i].toNat:Int))]:=agU hl
     obtain⟨b1,b2⟩:=kt
     refine⟨_,w,?_,.same h (.val _ rfl)⟩
     rw[←b1]
     refine run_convert_bytes_back w src dst e p cap l hs he hd (fun j hj=>?_)
     have dx:j<xs.length:=by omega
     cases kG with
     |empty=>exact absurd dx (dH _)
     | @slice _ _ _ blk off _ f ho hc eV bw hI hR =>
      have L5:xs[j].length=1:=by rw[b2 j dx hj];rfl
      have Rn:es=1:=by rw[←eV _ (iz dx),L5]
      have h1:=hI j dx 0 (by omega)
      have h2:=hR j dx 0 (by omega)
      have e0:xs[j][0]=.v (.int .u8 (l[j].toNat:Int)):=by simp[b2 j dx hj]
      rw[e0]at h2
      cases hf:f j 0 with
      |int k3 n=>
       rw[hf]at h2 h1
       cases h2
       rw[addr_add]
       have:=h.rel.fM _ _ _ h1
       rw[Rn]at this
       simpa using this
      |_=>rw[hf]at h2;cases h2
   |v q=>cases q<;>simp[mQ]at hv
   |_=>simp[mQ]at hv
  ·cases hc
 ·cases hc
theorem atk {mx:Bool} {a b v:AV} {x y:Value} (hx:Rel G k nl a x) (hy:Rel G k nl b y) (h:CZ mx a b=some v):
  ∃z,((if mx then Builtin.max2 else Builtin.min2) x y).run P w=.ok z w∧Rel G k nl v z:=by
 unfold CZ at h
 split at h
 ·obtain rfl:=hx.gp
  obtain rfl:=hy.gp
  split at h
  ·injection h with h
   subst h
   refine⟨_,?_,.val _ rfl⟩
   cases mx<;>simp[Builtin.max2,Builtin.min2]
  ·cases h
 ·cases h
theorem abg {mx:Bool}:∀{as:List AV} {xs:List Value} {a v:AV} {x:Value},Rel G k nl a x→xs.length=as.length→(∀i (hi:i<as.length) (hj:i<xs.length),Rel G k nl as[i] xs[i])→yf mx a as=some v→
  ∃z,(xs.foldlM (if mx then Builtin.max2 else Builtin.min2) x).run P w=.ok z w∧Rel G k nl v z
 |[],[],a,v,x,hx,_,_,h=>by
  simp only[yf]at h
  injection h with h
  subst h
  exact⟨x,by simp,hx⟩
 |[],_::_,_,_,_,_,hl,_,_=>by simp at hl
 |_::_,[],_,_,_,_,hl,_,_=>by simp at hl
 | b :: as, y :: xs, a, v, x, hx, hl, hR, h => by
  simp only[yf]at h
  split at h
  ·rename_i z hz
   obtain⟨z',r1,r2⟩:=atk (P:=P) (w:=w) hx (hR 0 (by simp) (by simp)) hz
   obtain⟨z'',r3,r4⟩:=abg r2 (by simpa using hl) (fun i hi hj=>hR (i+1) (by simpa using hi) (by simpa using hj)) h
   refine⟨z'',?_,r4⟩
   have Tt:((if mx then Builtin.max2 else Builtin.min2) x y).run P w=.ok z' w:=r1
   simp only[List.foldlM_cons,Sem.run_bind,Tt,Result.andThen_ok,r3]
  ·cases h
theorem abk {mx:Bool} {as:List AV} {xs:Array Value} {v:AV} (ts:Array TypeId) (ty:TypeId) (hl:xs.size=as.length) (hR:∀i (hi:i<as.length),Rel G k nl as[i] (xs.getD i Go.undef)) (h:rJ mx as=some v):
  ∃z,((if mx then Builtin.max_ else Builtin.min_) ts ty xs).run P w=.ok z w∧Rel G k nl v z:=by
 cases as with
 |nil=>simp[rJ]at h
 | cons a as =>
  simp only[rJ]at h
  obtain⟨ys⟩:=xs
  cases ys with
  |nil=>simp at hl
  | cons y ys =>
   have h0:=hR 0 (by simp)
   simp only[wL]at h0
   obtain⟨z,r1,r2⟩:=abg (P:=P) (w:=w) (xs:=ys) (x:=y) (by simpa using h0) (by simpa using hl) (fun i hi hj=>by
    have:=hR (i+1) (by simpa using hi)
    simpa[Array.getD,hj]using this) h
   refine⟨z,?_,r2⟩
   cases mx<;>simpa[Builtin.max_,Builtin.min_]using r1
end
end Go.Ax
/-
  A slice that may be written to becomes one that is only read: its box is dead from here on.
-/
namespace Go.Ax
open Go.RowKit
section
variable{P:Program} {B0:Nat} {w0:World} {G:aH} {k nl:Nat} {w:World} {s:ae}
theorem ar0 (h:At P B0 w0 G k nl s w) {b:Nat} {cs:List AV} {r:Rec} {gr:dF} {blk:Nat} (hr:s.ag[k]? =some r) (hg:G.ag[k]? =some gr)
  (hb:r.boxes[b]? =some cs) (db:gr.bl[b]? =some (some blk)) (fL:cs≠[]):
  ∃G',At P B0 w0 G' k nl (s.kill b) w∧bL (k+1) s.loops.length G G'∧∀i,G'.I blk i=w.cell? ⟨blk,i,none⟩:=by
 have aT:=h.rel.dt k r gr hr hg
 have dC:=aT.box b cs blk hb db
 obtain⟨b1,⟨x0,b2,Oo⟩,b3,Jp,Nk,b4,_⟩:=dC
 have nU:=Oo fL
 subst nU
 have b3:=b3 fL
 have LO:x0<r.boxes.length:=(bI.1 hb).1
 let T:lA:=⟨none,0,0,0⟩
 let gf:dF→dF:=fun q=>{q with tk:=q.tk++[T]}
 let G':aH:={G with ag:=G.ag.modify k gf,I:=fun c i=>if c=blk then w.cell? ⟨c,i,none⟩else G.I c i}
 have hI:∀c i v,G.I c i=some v→G'.I c i=some v:=fun c i v e=>by
  simp only[G']
  split
  ·rename_i hc
   subst hc
   rw[b3]at e;cases e
  ·exact e
 have hk:j9 (· =.box k x0) G w G' w:=fun c o e aF=>by
  refine⟨e,rfl,fun i hi=>?_⟩
  simp only[G']
  split
  ·rename_i hc
   subst hc
   rw[b2]at e
   injection e with e
   exact absurd e.symm aF
  ·exact hi
 have gE:jz gr (gf gr):=⟨fun j q e=>e,fun g U e=>⟨U,qg e,.refl U⟩,rfl,fun j m e=>e⟩
 have hle:bL k nl G G':=⟨hI,fun d q _ e=>by
  simp only[G',eE]
  by_cases hd:k=d
  ·subst hd
   rw[hg]at e
   injection e with e
   subst e
   exact⟨_,by rw[aj rfl,hg];rfl,gE,fun _=>rfl⟩
  ·exact⟨q,by rw[ak hd];exact e,.refl q,fun _=>rfl⟩,fun _ _ _ e=>e⟩
 have kX:gr.nl=nl:=by obtain⟨g',e1,e2⟩:=h.cur;rw[hg]at e1;injection e1 with e1;rw[e1];exact e2
 have iY:=h.rel.bG (G':=G') (w':=w) hr hg (fun r=>{r with boxes:=r.boxes.set x0 [],toks:=r.toks++[none]}) gf (· =.box k x0) rfl rfl hI gE rfl hk
  (fun o ho=>.inl ⟨_,ho⟩) ?_ (fun c i v e=>?_) (Below.refl _ _) (fun c o e=>h.rel.fq c o e)
 ·obtain⟨hs,lQ⟩:=iY
  have oO:cQ P B0 w0 G' (s.kill x0) w:=by
   simp only[ae.kill,h.iQ]
   exact hs
  exact⟨G',h.to oO hle (by simp[ae.kill,ae.bG]),lQ _ _,fun i=>by simp only[G'];rw[aj trivial]⟩
 ·refine⟨by simp[gf,aT.gV],by simp[gf,aT.jx],fun j q Bc e1 e2=>?_,fun j q e1 e2=>by simp,fun g m U e1 e2=>?_,fun i c e1=>?_,fun j m e1=>aT.qi j m e1⟩
  ·have jB:gr.bl[j]? =some (some Bc):=e2
   rw[qP]at e1
   by_cases vD:x0=j
   ·subst vD
    rw[aj rfl,aj LO]at e1
    injection e1 with e1
    subst e1
    rw[db]at jB
    injection jB with jB
    injection jB with jB
    subst jB
    exact⟨b1,⟨x0,b2,fun _=>rfl⟩,fun hn=>absurd rfl hn,Jp,Nk,b4,aV _,fun hn=>absurd rfl hn,fun i hi=>absurd hi (dH _)⟩
   ·rw[ak vD]at e1
    have Cv:=aT.box j q Bc e1 jB
    by_cases HF:q=[]
    ·subst HF
     obtain⟨y1,⟨x,y2,_⟩,_,Jq,T0,y4,_⟩:=Cv
     exact⟨y1,⟨x,y2,fun hn=>absurd rfl hn⟩,fun hn=>absurd rfl hn,Jq,T0,y4,aV _,fun hn=>absurd rfl hn,fun i hi=>absurd hi (dH _)⟩
    ·obtain⟨x,y1,y2⟩:=Cv.2.1
     obtain⟨k1,k2,k3⟩:=hk _ _ y1 (fun e=>by injection e with _ e;rw[y2 HF]at e;exact vD e.symm)
     exact Cv.dj (G':=G') (w':=w) (by rw[kX];exact hle) (fun z e=>by rw[y1]at e;injection e with e;rw[←e];exact k1) k2 k3
  ·rcases gi e1 with⟨aB,e1⟩|⟨kz,rfl⟩
   ·have jB:gr.tk[g]? =some U:=by
     rcases gi e2 with⟨_,e2⟩|⟨kq,_⟩
     ·exact e2
     ·rw[aT.jx]at kq;omega
    have ht:=aT.tok g m U e1 jB
    have hs:∀(hn:m.isSome=true),G'.own U.blk=some (.tok k g)∧w.heap[U.blk]? =w.heap[U.blk]? ∧∀i,G.I U.blk i=none→G'.I U.blk i=none:=fun hn=>by
     obtain⟨q,hq⟩:=tB.1 hn
     exact hk _ _ (ht.2 q hq).2.1 (fun e=>by cases e)
    exact ht.dj (fun hn=>(hs hn).1) (fun hn=>(hs hn).2.1) (fun hn=>(hs hn).2.2)
   ·have:U=T:=by
     rcases gi e2 with⟨kq,_⟩|⟨_,e⟩
     ·rw[aT.jx]at kq;omega
     ·exact e
    subst this
    exact⟨rfl,fun q hq=>by cases hq⟩
  ·have hm:=aT.mark i c e1
   obtain⟨k1,k2,_⟩:=hk _ _ hm.2.1 (fun e=>by cases e)
   exact hm.dj k1 k2
 ·simp only[G']at e
  split at e
  ·exact e
  ·exact h.rel.fM c i v e
theorem ajT (h:At P B0 w0 G k nl s w) {x v:AV} {z:Value} {s':ae} (hx:Rel G k nl x z) (hf:BV s x=some (v,s')):ek P B0 w0 G k nl s s' w v z:=by
 cases x with
 |slice o es xs=>
  simp only[BV]at hf
  injection hf with hf
  injection hf with e1 e2
  subst e1 e2
  exact⟨G,h,bL.refl _ _ _,rfl,hx⟩
 | aN d b off es n cap =>
  simp only[BV]at hf
  split at hf
  case isFalse=>cases hf
  rename_i hd
  rw[h.iQ]at hd
  subst hd
  obtain⟨cs,hb,hf⟩:=dS.1 hf
  split at hf
  ·cases hf
  rename_i zn
  split at hf
  case isFalse=>cases hf
  rename_i hle
  obtain⟨cs',hc,hf⟩:=aZ.1 hf
  injection hf with e1 e2
  subst e1 e2
  have fL:cs≠[]:=fun e=>by rw[e]at zn;exact zn rfl
  obtain⟨blk,bP,rc,o0,rfl,_,hg,db,hn,_,_,ho⟩:=hx.sR
  obtain⟨r,hr,uk,_,arr,ty,hw,cw,aQ⟩:=h.box (aI _) hb hg db
  obtain⟨c1,c2,c3⟩:=KT hc cw.1 aQ cw.2
  obtain⟨G',a1,a2,a3⟩:=ar0 h hr hg uk db fL
  refine⟨G',a1,a2,by simp[ae.kill,ae.bG],.cl ?_⟩
  rcases DN n with iC|iC
  ·subst iC
   exact .slice (fun _ _=>Go.undef) (.inl rfl) (aV _) (fun r hr=>absurd hr (by simp[chunks])) (fun r hr=>absurd hr (by simp[chunks])) (fun i hi=>absurd hi (dH _)) (fun i hi=>absurd hi (dH _))
  have ho:=ho (.inl iC)
  subst ho
  have:=TC (I:=G'.I) (cs:=cs') (es:=es) (n:=n) (cap:=rc) (blk:=blk) (o0:=0) (off:=o0) (f:=fun i=>arr.getD i Go.undef) c2 (fun i hi=>by
   have:i<arr.size:=by have:=cw.1;omega
   rw[gU,a3,cell_of_heap hw]
   simp[Array.getD,this]) (fun i hi=>(c3 i hi).mono a2.I) (by rw[c1];exact hle) hn
  unfold ga at this
  rw[(Gz es n (cs'.drop o0) (by simp[c1];omega)).1,gU]at this
  exact this
 |_=>cases hf
theorem agK (h:At P B0 w0 G k nl s w) {t e:TypeId} {es:Nat} {zs:List AV} {q:Nat} {ρ:Nat→AV} {a:Act} {v:AV} {s':ae} (hR:eM G k nl ρ a)
  (ht:P.underlying t=some (.slice e)) (hs:de P e=some es) (hz:fl P e=some zs) (hle:1*es≤2^24) (hl:zs.length=es) (h0:0<es)
  (hb:yP s es zs (ρ q)=some (v,s')):
  ∃ z w', (Instr.buildSlice t 1 ((#[(0, Operand.tmp q)] : Array (Nat × Operand)).map fun (i, x) => (i, a.eval x))).run P w = .ok z w' ∧ ek P B0 w0 G k nl s s' w' v z := by
 unfold yP at hb
 obtain⟨⟨x,s1⟩,h1,hb⟩:=dS.1 hb
 obtain⟨rs,h2,hb⟩:=aZ.1 hb
 injection hb with e1 e2
 subst e1 e2
 obtain⟨G1,a1,a2,a3,a4⟩:=ajT h (hR q) h1
 have Q7:eM G1 k nl (put q x ρ) a:=fun u=>by
  unfold put
  split
  ·rename_i hu
   subst hu
   exact a4
  ·exact(hR u).mono (a2.less (by omega) h.sW) (aI _) (aI _)
 have RJ:aD (put q x ρ) (.tmp q)=x:=by simp[aD,put]
 obtain ⟨z, w', r1, G2, b1, b2, b3, b4⟩ := W2 (len := 1) (parts := #[(0, .tmp q)]) (rows := rs) a1 Q7 ht hs hz rfl hle hl h0 (by
  rw[←h2]
  simp only[List.replicate_one,mP,RJ])
 exact⟨z,w',r1,G2,b1,a2.trans (by rw[←a3];exact b2),b3.trans a3,b4⟩
end
end Go.Ax
/-
  Every operation but a call: what the executor gives is what the model does.
-/
namespace Go.Ax
open Go.RowKit
def js:cm→Bool
 |.call .. |.gW .. |.tK .. |.ve .. |.xk .. |.sg .. =>true
 |_=>false
section
variable{P:Program} {B0:Nat} {w0:World} {G:aH} {k nl:Nat} {w:World} {s:ae}
def tA (P:Program) (B0:Nat) (w0:World) (G:aH) (k nl:Nat) (s s':ae) (w:World) (v:AV) (m:Sem Next):Prop:=
 ∃w',(∃z,m.run P w=.ok (.value z) w'∧ek P B0 w0 G k nl s s' w' v z)∨(m.run P w=.ok .skip w'∧ek P B0 w0 G k nl s s' w' v Go.undef)
theorem tA.val {s':ae} {v:AV} {q:Sem Value} (h:∃z w',q.run P w=.ok z w'∧ek P B0 w0 G k nl s s' w' v z):tA P B0 w0 G k nl s s' w v (do pure (.value (←q))):=by
 obtain⟨z,w',h1,h2⟩:=h
 exact⟨w',.inl ⟨z,by simp[h1],h2⟩⟩
theorem tA.uz (h:At P B0 w0 G k nl s w) {v:AV} {q:Sem Value} (hq:∃z,q.run P w=.ok z w∧Rel G k nl v z):tA P B0 w0 G k nl s s w v (do pure (.value (←q))):=by
 obtain⟨z,h1,h2⟩:=hq
 exact .val ⟨z,w,h1,.same h h2⟩
theorem ld {α β:Type} {o:Option α} {x:β} {p:α×β} (h:o.map (·,x)=some p):o=some p.1∧p.2=x:=by
 cases o with
 |none=>cases h
 |some y=>injection h with h;subst h;exact⟨rfl,rfl⟩
theorem Xk {op:BinOp} {t:TypeId} {x y:Operand} {o:cm} (h:Qf P op t x y=some o):
  ∃a b,dT x=some a∧dT y=some b∧(o=.arith op a b∨∃neg C1 kd c d,GN op=some neg∧GD P op neg t x y a b=some (.eqv C1 kd c d)∧o=.eqv C1 kd c d):=by
 unfold Qf at h
 split at h
 ·rename_i a b ha hb
  refine⟨a,b,ha,hb,?_⟩
  split at h
  ·rename_i neg hn
   have h0:=h
   unfold GD at h
   split at h<;>first
    |(cases h;done)
    |(injection h with h;subst h;first|exact .inl rfl|exact .inr ⟨_,_,_,_,_,hn,h0,rfl⟩)
    |skip
   ·split at h
    ·obtain⟨ks,_,rfl⟩:=aZ.1 h
     exact .inr ⟨_,_,_,_,_,hn,h0,rfl⟩
    ·cases h
   ·split at h
    ·injection h with h;subst h;exact .inr ⟨_,_,_,_,_,hn,h0,rfl⟩
    ·cases h
  ·injection h with h
   exact .inl h.symm
 ·cases h
theorem v7 {x:Option Operand} {ax:Option aJ} {ρ:Nat→AV} {a:Act} (hc:BJ x=some ax) (hR:eM G k nl ρ a):jV G k nl (qY (aD ρ) ax) (x.map a.eval):=by
 cases x with
 |none=>
  simp only[BJ]at hc
  injection hc with hc
  subst hc
  trivial
 |some x=>
  simp only[BJ]at hc
  obtain⟨y,hy,rfl⟩:=aZ.1 hc
  exact dm hy hR
theorem Vq {xs:List Operand} {as:List aJ} {ρ:Nat→AV} {a:Act} (hc:fE dT xs=some as) (hR:eM G k nl ρ a):
  (xs.toArray.map a.eval).size=(as.map (aD ρ)).length∧∀i (hi:i<(as.map (aD ρ)).length),Rel G k nl (as.map (aD ρ))[i] ((xs.toArray.map a.eval).getD i Go.undef):=by
 obtain⟨l1,h1⟩:=ye hc
 refine⟨by simp[l1],fun i hi=>?_⟩
 have br:i<as.length:=by simpa using hi
 have hx:i<xs.length:=by omega
 have:=dm (h1 i hx br) hR
 simpa[Array.getD,hx]using this
theorem ahe (h : At P B0 w0 G k nl s w) {ρ : Nat → AV} {a : Act} (hR : eM G k nl ρ a) {ro own : Bool} {mu : Mu} {fr : Option (List (List AV))} {call : bj} {ki : cm} {v : AV} {s' : ae} {c : Call} {ty : TypeId} (hc : BH P ro own mu fr c = some ki) (hn : js ki = false) (hv : aO call (aD ρ) s ki = some (v, s')) :
  tA P B0 w0 G k nl s s' w v (do let d←resolve a.eval c ty;invoke d.target d.args):=by
 unfold BH at hc
 split at hc
 ·cases hc
 rename_i as has
 have qn:=Vq has hR
 split at hc
 ·injection hc with hc;subst hc;repeat' split at hn
  all_goals simp[js]at hn
 ·obtain⟨y,_,rfl⟩:=aZ.1 hc
  simp[js]at hn
 ·cases hc
 ·rename_i b hb
  have iW:∀(m:Sem Next),(do let d←resolve a.eval c ty;invoke d.target d.args:Sem Next).run P w=m.run P w→tA P B0 w0 G k nl s s' w v m→tA P B0 w0 G k nl s s' w v (do let d←resolve a.eval c ty;invoke d.target d.args):=fun m e ho=>by
   unfold tA at ho⊢
   rw[e]
   exact ho
  obtain⟨cons,dN⟩:∃cons:Array Bool,(do let d←resolve a.eval c ty;invoke d.target d.args:Sem Next).run P w=(builtin b c.argTypes ty cons (c.args.map a.eval)).run P w:=by
   have hr:resolve a.eval c ty=pure {target:=.builtin b c.argTypes ty (c.args.map fun|.const _=>true|_=>false),args:=c.args.map a.eval}:=by
    simp only[resolve,hb]
    rfl
   exact⟨c.args.map fun|.const _=>true|_=>false,by rw[hr];rfl⟩
  refine iW _ dN ?_
  clear iW dN
  split at hc
  · -- append
   rename_i x y t u e1
   have eP : c.argTypes = #[t, u] := by
    have:=gX List.toArray e1
    simpa using this
   split at hc
   ·rename_i e e' ht hu
    split at hc
    ·rename_i sz n z hs iV hz
     split at hc
     ·rename_i cu
      injection hc with hc
      subst hc
      obtain⟨c1,c2,c3,c4⟩:=cu
      obtain⟨zv,z1,z2⟩:=yn hz
      have hzl:=(tL (I:=G.I) z2).1
      obtain⟨l1,h1⟩:=ye has
      have vE:c.args.toList.length=2:=by simpa using l1.symm
      obtain⟨xx,yy,dX⟩:∃xx yy,c.args.toList=[xx,yy]:=by
       match hh:c.args.toList,vE with
       |[xx,yy],_=>exact⟨xx,yy,rfl⟩
      have zj : c.args = #[xx, yy] := by
       have:=gX List.toArray dX
       simpa using this
      have hx:=dm (by simpa[dX]using h1 0 (by omega) (by simp)) hR
      have hy:=dm (by simpa[dX]using h1 1 (by omega) (by simp)) hR
      have hT:wD P t e sz n zv:=⟨ht,hs,iV,z1,by rw[hzl];exact c4,c1,c2,c3⟩
      obtain ⟨x', w', r1, r2⟩ : ∃ x' w', (Builtin.append_ #[t, u] ty #[a.eval xx, a.eval yy]).run P w = .ok x' w' ∧ ek P B0 w0 G k nl s s' w' v x' := by
       cases Zr:mu.grow with
       |false=>rw[Zr]at hv;exact afy h (ty:=ty) hT ⟨e',hu⟩ hx hy hv
       | true =>
        rw[Zr]at hv
        cases qq:mu.fresh&&decide (n≤8*sz)with
        |false=>rw[qq]at hv;exact Vj h (ty:=ty) hT ⟨e',hu⟩ hx hy hv
        |true=>
         rw[qq]at hv
         have vu:n≤8*sz:=S2 (Bool.and_eq_true_iff.1 qq).2
         exact afz h (ty:=ty) hT vu ⟨e',hu⟩ hx hy hv
      refine .val ⟨x',w',?_,r2⟩
      rw[eP,zj]
      simpa using r1
     ·cases hc
    ·cases hc
   ·cases hc
  · -- len
   rename_i x t e1
   have eP : c.argTypes = #[t] := by
    have:=gX List.toArray e1
    simpa using this
   obtain⟨l1,h1⟩:=ye has
   have L5:c.args.toList.length=1:=by simpa using l1.symm
   obtain⟨xx,hxx⟩:∃xx,c.args.toList=[xx]:=by
    match hh:c.args.toList,L5 with
    |[xx],_=>exact⟨xx,rfl⟩
   have zj : c.args = #[xx] := by
    have:=gX List.toArray hxx
    simpa using this
   have hx:=dm (by simpa[hxx]using h1 0 (by omega) (by simp)) hR
   split at hc
   ·rename_i e ht
    injection hc with hc
    subst hc
    obtain⟨q1,q2⟩:=ld hv
    simp only at q2
    subst q2
    have:=aa3 (P:=P) (w:=w) (ty:=ty) (.inl ⟨rfl,e,ht⟩) hx q1
    rw[eP,zj]
    exact .uz h (by simpa using this)
   ·rename_i ht
    injection hc with hc
    subst hc
    obtain⟨q1,q2⟩:=ld hv
    simp only at q2
    subst q2
    have:=aa3 (P:=P) (w:=w) (ty:=ty) (.inr ⟨rfl,ht⟩) hx q1
    rw[eP,zj]
    exact .uz h (by simpa using this)
   ·rename_i n e ht
    injection hc with hc
    subst hc
    simp only[aO,fI,AF]at hv
    obtain⟨rfl,rfl⟩:=hv
    rw[eP,zj]
    refine .uz h ⟨.int .i64 n,?_,.val _ rfl⟩
    simp[Builtin.len_,run_underlying ht,goInt]
   ·cases hc
  · -- copy
   rename_i x y t u e1
   have eP : c.argTypes = #[t, u] := by
    have:=gX List.toArray e1
    simpa using this
   split at hc
   ·rename_i e ht
    split at hc
    ·rename_i hs
     injection hc with hc
     subst hc
     obtain⟨l1,h1⟩:=ye has
     have vE:c.args.toList.length=2:=by simpa using l1.symm
     obtain⟨xx,yy,dX⟩:∃xx yy,c.args.toList=[xx,yy]:=by
      match hh:c.args.toList,vE with
      |[xx,yy],_=>exact⟨xx,yy,rfl⟩
     have zj : c.args = #[xx, yy] := by
      have:=gX List.toArray dX
      simpa using this
     have hx:=dm (by simpa[dX]using h1 0 (by omega) (by simp)) hR
     have hy:=dm (by simpa[dX]using h1 1 (by omega) (by simp)) hR
     obtain⟨x',w',r1,r2⟩:=ahZ h (ty:=ty) (u:=u) ht hs hx hy hv
     refine .val ⟨x',w',?_,r2⟩
     rw[eP,zj]
     simpa using r1
    ·cases hc
   ·cases hc
  · -- max
   injection hc with hc
   subst hc
   obtain⟨q1,q2⟩:=ld hv
   simp only at q2
   subst q2
   obtain⟨z,r1,r2⟩:=abk (P:=P) (w:=w) (mx:=true) c.argTypes ty qn.1 qn.2 q1
   exact .uz h ⟨z,by simpa using r1,r2⟩
  ·injection hc with hc
   subst hc
   obtain⟨q1,q2⟩:=ld hv
   simp only at q2
   subst q2
   obtain⟨z,r1,r2⟩:=abk (P:=P) (w:=w) (mx:=false) c.argTypes ty qn.1 qn.2 q1
   exact .uz h ⟨z,by simpa using r1,r2⟩
  ·cases hc
theorem auI (h:At P B0 w0 G k nl s w) {ρ:Nat→AV} {a:Act} (hR:eM G k nl ρ a) {md:Md} {call:bj} {ki:cm} {v:AV} {s':ae} {o:Oper} (hc:gN P md o.op=some ki) (hn:js ki=false) (hv:aO call (aD ρ) s ki=some (v,s')):
  tA P B0 w0 G k nl s s' w v (execOp a.eval o):=by
 obtain⟨dst,op,ty,pos,after,guard⟩:=o
 simp only at hc
 have n9:∀{r:Option AV} {q:Sem Value},r.map (·,s)=some (v,s')→(r=some v→∃z,q.run P w=.ok z w∧Rel G k nl v z)→tA P B0 w0 G k nl s s' w v (do pure (.value (←q))):=fun e f=>by
  obtain⟨q1,q2⟩:=ld e
  simp only at q1 q2
  subst q2
  exact .uz h (f q1)
 cases op with
 |move x=>
  obtain⟨y,hy,rfl⟩:=aZ.1 hc
  simp only[aO,fI,AF]at hv
  obtain⟨rfl,rfl⟩:=hv
  exact⟨w,.inl ⟨a.eval x,rfl,.same h (dm hy hR)⟩⟩
 |assign x=>
  obtain⟨y,hy,rfl⟩:=aZ.1 hc
  simp only[aO,fI,AF]at hv
  obtain⟨rfl,rfl⟩:=hv
  exact⟨w,.inl ⟨a.eval x,rfl,.same h (dm hy hR)⟩⟩
 | pick x y z =>
  simp only[gN]at hc
  split at hc
  ·rename_i ax ay az e1 e2 e3
   injection hc with hc
   subst hc
   obtain⟨q1,q2⟩:=ld hv
   simp only at q1 q2
   subst q2
   obtain⟨u,r1,r2⟩:=avj (dm e1 hR) (dm e2 hR) (dm e3 hR) q1
   refine⟨w,.inl ⟨_,?_,.same h r2⟩⟩
   simp[execOp,r1,asBool]
  ·cases hc
 | alloc e =>
  simp only[gN]at hc
  split at hc
  ·obtain⟨zs,hz,rfl⟩:=aZ.1 hc
   simp only[aO]at hv
   split at hv
   ·cases hv
   rename_i aF
   simp only[fI]at hv
   obtain⟨z,z1,z2⟩:=yn hz
   obtain⟨c1,c2,c3⟩:=tL (I:=G.I) z2
   have:=(C2 h (arr:=z.cells) e none (fun _ e=>by cases e) (fun e=>aF (by rw[e];rfl)) c2 (jA.le ⟨c1,fun i hi=>.cl (c3 i hi)⟩)).1
   rw[hv]at this
   refine .val ⟨_,_,?_,this⟩
   simp only[Instr.alloc,Sem.run_bind,Dv z1,Result.andThen_ok]
   simp[newVar,newRow]
  ·obtain⟨zs,hz,rfl⟩:=aZ.1 hc
   simp only[aO]at hv
   obtain⟨z,z1,z2⟩:=yn hz
   obtain⟨c1,c2,c3⟩:=tL (I:=G.I) z2
   refine .val ⟨_,_,?_,axT h e c2 ⟨c1,fun i hi=>.cl (c3 i hi)⟩ hv⟩
   simp only[Instr.alloc,Sem.run_bind,Dv z1,Result.andThen_ok]
   simp[newVar,newRow]
 | box e x =>
  simp only[gN]at hc
  split at hc
  ·rename_i n y e1 e2
   injection hc with hc
   subst hc
   simp only[aO,yM]at hv
   split at hv
   ·rename_i cu
    injection hv with hv
    have hx:=dm e2 hR
    have cw:=hx.cells cu.2.1
    have:=(C2 h (arr:=(a.eval x).cells) e none (fun _ e=>by cases e) (fun e=>by have h1:=cu.1;have h2:=cu.2.2;rw[e]at h1;simp at h1;omega) (jh.1 cu.2.1) cw.le).1
    rw[hv]at this
    refine .val ⟨_,_,?_,this⟩
    simp[Instr.box,newVar,newRow]
   ·cases hv
  ·cases hc
 | build t parts =>
  simp only[gN]at hc
  split at hc
  ·rename_i z fs e1 e2
   split at hc
   ·rename_i jF
    obtain⟨ps,gn,rfl⟩:=aZ.1 hc
    simp only[aO]at hv
    obtain⟨cs,fL,hv⟩:=aZ.1 hv
    injection hv with h1 h2
    subst h1 h2
    exact .uz h (agN hR e1 e2 jF gn fL)
   ·cases hc
  ·rename_i z n e e1 e2
   split at hc
   ·rename_i sz e3
    obtain⟨ps,gn,rfl⟩:=aZ.1 hc
    simp only[aO]at hv
    obtain⟨cs,fL,hv⟩:=aZ.1 hv
    injection hv with h1 h2
    subst h1 h2
    exact .uz h (agH hR e1 e2 e3 gn fL)
   ·cases hc
  ·cases hc
 | buildSlice t len parts =>
  simp only[gN]at hc
  split at hc
  ·rename_i e ht
   split at hc
   ·rename_i sz z ps e1 e2 e3
    split at hc
    ·rename_i cu
     injection hc with hc
     split at hc
     ·rename_i q hq
      subst hc
      obtain ⟨rfl, hp⟩ : len = 1 ∧ parts = #[(0, .tmp q)] := by
       unfold abN at hq
       split at hq
       case h_2=>cases hq
       rename_i i t' ed
       split at hq
       case h_2=>cases hq
       split at hq
       case isFalse=>cases hq
       rename_i lL
       injection hq with hq
       subst hq
       obtain⟨_,rfl,rfl⟩:=lL
       refine⟨rfl,?_⟩
       have:=gX List.toArray ed
       simpa using this
      subst hp
      exact .val (agK h hR ht e1 e2 cu.1 cu.2.1 cu.2.2 hv)
     ·subst hc
      simp only[aO]at hv
      obtain⟨rs,eD,hv⟩:=aZ.1 hv
      injection hv with h1 h2
      subst h1 h2
      exact .val (W2 h hR ht e1 e2 e3 cu.1 cu.2.1 cu.2.2 eD)
    ·cases hc
   ·cases hc
  ·cases hc
 | load t x =>
  simp only[gN]at hc
  split at hc
  ·rename_i g n y e1 e2 e3
   injection hc with hc
   split at hc
   ·split at hc
    ·subst hc
     refine n9 hv fun e=>ML h (dm e3 hR) ?_ e1 e2
     unfold zN at e
     split at e
     ·split at e
      ·cases e
      ·rename_i hx _;rw[hx];exact e
     ·exact e
    ·subst hc
     exact n9 hv fun e=>ML h (dm e3 hR) e e1 e2
   ·subst hc
    refine n9 hv fun e=>ML h (dm e3 hR) ?_ e1 e2
    unfold yd at e
    split at e
    ·split at e
     ·cases e
     ·rename_i hx _;rw[hx];exact e
    ·exact e
  ·cases hc
 | store t x y =>
  simp only[gN]at hc
  split at hc
  ·rename_i n ax ay e1 e2 e3
   injection hc with hc
   have hm:∃m,s'=m∧v=AV.undef∧s.store n (aD ρ ax) (aD ρ ay)=some m:=by
    split at hc
    ·subst hc
     simp only[aO]at hv
     obtain⟨m,hm,hv⟩:=aZ.1 hv
     injection hv with h1 h2
     exact⟨m,h2.symm,h1.symm,hm⟩
    ·subst hc
     simp only[aO]at hv
     obtain⟨m,hm,hv⟩:=aZ.1 hv
     injection hv with h1 h2
     refine⟨m,h2.symm,h1.symm,?_⟩
     unfold y5 at hm
     split at hm
     ·split at hm
      ·rename_i hx _;rw[hx];exact hm
      ·cases hm
     ·cases hm
   obtain⟨m,rfl,rfl,hm⟩:=hm
   obtain⟨w',r1,r2⟩:=ax8 h (dm e2 hR) (dm e3 hR) e1 hm
   exact⟨w',.inr ⟨by simp[execOp,r1],r2⟩⟩
  ·cases hc
 |nilCheck x=>
  obtain⟨y,hy,rfl⟩:=aZ.1 hc
  obtain⟨q1,q2⟩:=ld hv
  simp only at q1 q2
  subst q2
  obtain⟨r1,n1,n2,n3,n4⟩:=atB (dm hy hR) q1
  refine⟨w,.inl ⟨a.eval x,?_,.same h r1⟩⟩
  unfold execOp
  simp only
  rfl
 | binOp op t x y yt =>
  obtain⟨ax,ay,e1,e2,hq⟩:=Xk hc
  rcases hq with rfl|⟨neg,C1,kd,c,d,CF,hm,rfl⟩
  ·refine n9 hv fun e=>?_
   obtain⟨z,r1,r2,r3,r4⟩:=afY (P:=P) (w:=w) t (dm e1 hR) (dm e2 hR) e
   exact⟨z,by simp[yY r3 r4,r1],r2⟩
  ·simp only[aO]at hv
   obtain⟨t',RX,hv⟩:=aZ.1 hv
   injection hv with h1 h2
   subst h1 h2
   exact .uz h ⟨_,aiL CF (dm e1 hR) (dm e2 hR) hm RX,.val _ rfl⟩
 |unOp op t x=>
  obtain⟨y,hy,rfl⟩:=aZ.1 hc
  exact n9 hv fun e=>ayz (dm hy hR) e
 | convert src dst x =>
  simp only[gN]at hc
  obtain⟨y,hy,hc⟩:=dS.1 hc
  have hk:∃kd,ki=.conv kd y:=by
   unfold GC at hc
   split at hc
   ·injection hc with hc;exact⟨_,hc.symm⟩
   ·injection hc with hc;exact⟨_,hc.symm⟩
   ·split at hc
    ·injection hc with hc;exact⟨_,hc.symm⟩
    ·cases hc
   ·split at hc
    ·injection hc with hc;exact⟨_,hc.symm⟩
    ·cases hc
   ·cases hc
  obtain⟨kd,rfl⟩:=hk
  obtain⟨q1,q2⟩:=ld hv
  simp only at q1 q2
  subst q2
  exact .val (ahV (x:=x) (op:=.CW 0) h hc (dm hy hR) q1)
 | makeInterface t x =>
  simp only[gN]at hc
  split at hc
  ·cases hc
  ·rename_i d hni hd
   obtain⟨y,hy,rfl⟩:=aZ.1 hc
   refine n9 hv fun e=>⟨.iface t (a.eval x),?_,aok (dm hy hR) e⟩
   simp only[Instr.makeInterface,Sem.run_bind,run_underlying hd,Result.andThen_ok]
   cases d<;>first|(exact absurd hd (hni _))|rfl
  ·cases hc
 | makeFunc fn first caps =>
  cases fn with
  | func f =>
   simp only[gN]at hc
   split at hc
   ·rename_i af ac e1 e2
    injection hc with hc
    subst hc
    simp only[aO]at hv
    split at hv
    ·rename_i aQ
     injection hv with hv
     injection hv with h1 h2
     subst h1 h2
     have:=atn (f:=f) hR e1 e2 aQ
     exact .uz h ⟨_,by simp[Instr.makeFunc];rfl,by simpa using this⟩
    ·cases hv
   ·cases hc
  |_=>simp[gN]at hc
 | makeSlice t l c =>
  simp only[gN]at hc
  split at hc
  ·rename_i e ht
   split at hc
   ·rename_i sz n z al ac e1 e2 e3 e4 e5
    split at hc
    ·rename_i cu
     injection hc with hc
     subst hc
     cases vB:md.mu.grow&&!md.mu.only.isEmpty with
     |false=>rw[vB]at hv;exact .val (ato h ht e1 e2 e3 cu.2.2 cu.1 cu.2.1 (dm e4 hR) (dm e5 hR) hv)
     |true=>rw[vB]at hv;exact .val (atp h ht e1 e2 e3 cu.2.2 cu.1 cu.2.1 (dm e4 hR) (dm e5 hR) hv)
    ·cases hc
   ·cases hc
  ·cases hc
 | slice t x lo hi mx =>
  simp only[gN]at hc
  split at hc
  ·rename_i ax al ah am e1 e2 e3 e4
   split at hc
   ·rename_i ht
    injection hc with hc
    subst hc
    exact n9 hv fun e=>TM (kd:=.str) ht (dm e1 hR) (v7 e2 hR) (v7 e3 hR) (v7 e4 hR) e
   ·rename_i e0 ht
    obtain⟨sz,cj,rfl⟩:=aZ.1 hc
    exact n9 hv fun e=>TM (kd:=.sl sz) ⟨e0,ht,cj⟩ (dm e1 hR) (v7 e2 hR) (v7 e3 hR) (v7 e4 hR) e
   ·rename_i n e0 ht
    obtain⟨sz,cj,rfl⟩:=aZ.1 hc
    exact n9 hv fun e=>TM (kd:=.arr n sz) ⟨e0,ht,cj⟩ (dm e1 hR) (v7 e2 hR) (v7 e3 hR) (v7 e4 hR) e
   ·cases hc
  ·cases hc
 | fieldAddr t x i =>
  simp only[gN]at hc
  split at hc
  ·rename_i fs ax ht e1
   split at hc
   ·rename_i f hf
    split at hc
    ·rename_i n iV
     split at hc
     ·rename_i h0
      injection hc with hc
      subst hc
      exact n9 hv fun e=>ajw ht hf iV h0 (dm e1 hR) e
     ·cases hc
    ·cases hc
   ·cases hc
  ·cases hc
 | field t x i =>
  simp only[gN]at hc
  split at hc
  ·rename_i fs ax ht e1
   split at hc
   ·rename_i f hf
    split at hc
    ·rename_i g n hg iV
     injection hc with hc
     subst hc
     exact n9 hv fun e=>ajy ht hf hg iV (dm e1 hR) e
    ·cases hc
   ·cases hc
  ·cases hc
 | indexAddr t x i =>
  simp only[gN]at hc
  split at hc
  ·rename_i ax ai e1 e2
   split at hc
   ·rename_i n e0 ht
    obtain⟨sz,cj,rfl⟩:=aZ.1 hc
    exact n9 hv fun e=>aor ht cj (dm e1 hR) (dm e2 hR) e
   ·rename_i e0 ht
    obtain⟨sz,cj,rfl⟩:=aZ.1 hc
    exact n9 hv fun e=>aot ht cj (dm e1 hR) (dm e2 hR) e
   ·cases hc
  ·cases hc
 | index t x i =>
  simp only[gN]at hc
  split at hc
  ·rename_i ax ai e1 e2
   split at hc
   ·rename_i n e0 ht
    split at hc
    ·rename_i g sz hg cj
     injection hc with hc
     subst hc
     exact n9 hv fun e=>aov ht hg cj (dm e1 hR) (dm e2 hR) e
    ·cases hc
   ·rename_i ht
    injection hc with hc
    subst hc
    exact n9 hv fun e=>aou ht (dm e1 hR) (dm e2 hR) e
   ·cases hc
  ·cases hc
 |extract x i=>
  obtain⟨y,hy,rfl⟩:=aZ.1 hc
  exact n9 hv fun e=>aiW (dm hy hR) e
 |call c=>exact ahe h hR (ty:=ty) hc hn hv
 |panic x=>
  simp only[gN]at hc
  injection hc with hc
  subst hc
  simp[aO,aD,zS]at hv
 |_=>simp[gN]at hc
end
end Go.Ax
/-
  An activation begins, and ends.
-/
namespace Go.Ax
open Go.RowKit
section
variable{P:Program} {B0:Nat} {w0:World} {G:aH} {k nl:Nat} {w:World} {s:ae}
def aH.kK (G:aH) (nl:Nat):aH:={G with ag:=G.ag++[⟨[],[],nl,[],fun _=>none⟩]}
theorem aH.M3 (G:aH) (n:Nat) (k nl:Nat):bL k nl G (G.kK n):=
 ⟨fun _ _ _ e=>e,fun _ gr _ e=>⟨gr,qg e,.refl gr,fun _=>rfl⟩,fun _ _ _ e=>e⟩
theorem Tr (h:cQ P B0 w0 G s w):At P B0 w0 (G.kK s.loops.length) s.ag.length s.loops.length (s.push ⟨[],[]⟩) w:=by
 have hle:=G.M3 s.loops.length
 have hk:j9 (fun _=>False) G w (G.kK s.loops.length) w:=fun b o e _=>⟨e,rfl,fun _ e=>e⟩
 have kD:(G.kK s.loops.length).ag[s.ag.length]? =some ⟨[],[],s.loops.length,[],fun _=>none⟩:=by
  simp[aH.kK,←h.len]
 refine⟨⟨h.fM,by simp[aH.kK,ae.push,h.len],h.jL,fun d r gr h1 h2=>?_,fun l lp r h1 h2=>?_,fun d gr h1=>?_,fun d d' gr bP hd h1 h2=>?_,h.below,h.low,h.fq⟩,by simp[ae.push],_,kD,rfl⟩
 ·rcases gi h1 with⟨hd,h1⟩|⟨hd,rfl⟩
  ·rcases gi h2 with⟨_,h2⟩|⟨ua,_⟩
   ·exact(h.dt d r gr h1 h2).dj (hle _ _) hk (fun o ho=>ho.elim)
   ·rw[h.len]at ua;omega
  ·rcases gi h2 with⟨ua,_⟩|⟨_,rfl⟩
   ·rw[h.len]at ua;omega
   ·exact⟨rfl,rfl,fun b cs blk e=>by simp at e,fun b blk e=>by simp at e,fun g n T e=>by simp at e,fun i b e=>by simp at e,fun b n e=>by cases e⟩
 ·have hr:=h.loop l lp r h1 h2
  obtain⟨k1,k2,_⟩:=hk _ _ hr.2.1 (fun x=>x)
  exact hr.dj (fun k nl _ _=>hle k nl) (by simp[aH.kK]) k1 k2
 ·rcases gi h1 with⟨_,h1⟩|⟨_,rfl⟩
  ·exact h.pN d gr h1
  ·exact aI _
 ·rcases gi h1 with⟨pC,h1⟩|⟨pC,rfl⟩
  ·rcases gi h2 with⟨_,h2⟩|⟨_,rfl⟩
   ·exact h.rL d d' gr bP hd h1 h2
   ·exact h.pN d gr h1
  ·rcases gi h2 with⟨rm,_⟩|⟨_,rfl⟩
   ·omega
   ·exact aI _
def aH.lG (G:aH) (k n:Nat):aH:=
 {G with ag:=G.ag.modify k fun q=>{q with marks:=q.marks.take n},own:=fun b=>match G.own b with
  |some (.mark d i)=>if d=k∧n≤i then none else some (.mark d i)
  |o=>o}
theorem aH.BP (G:aH) (k nl n:Nat) {k':Nat} (hk:k'≤k):bL k' nl G (G.lG k n):=
 ⟨fun _ _ _ e=>e,fun d gr hd e=>by
  by_cases iT:k=d
  ·subst iT
   exact⟨{gr with marks:=gr.marks.take n},by simp only[aH.lG,eE,aj,e];rfl,⟨fun _ _ e=>e,fun _ T e=>⟨T,e,.refl T⟩,rfl,fun _ _ e=>e⟩,fun aB=>by omega⟩
  ·exact⟨gr,by simp only[aH.lG,eE,ak iT,e],.refl gr,fun _=>rfl⟩,fun _ _ _ e=>e⟩
theorem aH.K3 {G:aH} {k n b:Nat} {o:rY} (h:G.own b=some o) (ho:∀i,n≤i→o≠.mark k i):(G.lG k n).own b=some o:=by
 simp only[aH.lG,h]
 cases o with
 |mark d i=>
  simp only
  rw[ak (fun e=>ho i e.2 (by rw[e.1]))]
 |_=>rfl
theorem XN (h:At P B0 w0 G k nl s w) (n:Nat):At P B0 w0 (G.lG k n) k nl s w:=by
 have hlen:G.ag.length=k+1:=by rw[h.rel.len,h.len]
 have hk:j9 (fun o=>∃i,n≤i∧o=.mark k i) G w (G.lG k n) w:=fun b o e ho=>⟨aH.K3 e (fun i hi e=>ho ⟨i,hi,e⟩),rfl,fun _ e=>e⟩
 have dW:∀(d:Nat) (gr:dF),(G.lG k n).ag[d]? =some gr→∃iA,G.ag[d]? =some iA∧gr.nl=iA.nl∧gr.bl=iA.bl∧gr.tk=iA.tk∧gr.gs=iA.gs∧(d≠k→gr=iA)∧(d=k→gr.marks=iA.marks.take n):=fun d gr e=>by
  simp only[aH.lG,eE]at e
  by_cases hd:k=d
  ·rw[aj hd]at e
   obtain⟨g0,h1,rfl⟩:=aZ.1 e
   exact⟨g0,h1,rfl,rfl,rfl,rfl,fun aF=>absurd hd.symm aF,fun _=>rfl⟩
  ·rw[ak hd]at e
   exact⟨gr,e,rfl,rfl,rfl,rfl,fun _=>rfl,fun e=>absurd e.symm hd⟩
 have hs : cQ P B0 w0 (G.lG k n) s w := by
  refine⟨h.rel.fM,by simp[aH.lG,h.rel.len],h.rel.jL,fun d r gr h1 h2=>?_,fun l lp r h1 h2=>?_,fun d gr h1=>?_,fun d d' gr bP hd h1 h2=>?_,h.rel.below,h.rel.low,fun b o e=>?_⟩
  ·obtain⟨g0,e0,e1,e2,e3,e6,e4,e5⟩:=dW d gr h2
   have hr:=h.rel.dt d r g0 h1 e0
   have iT:d≤k:=by have:=(bI.1 h1).1;rw[h.len]at this;omega
   by_cases hd:d=k
   ·subst hd
    refine⟨by rw[e2];exact hr.gV,by rw[e3];exact hr.jx,fun b cs blk a1 a2=>?_,fun b blk a1=>hr.full b blk (by rw[←e2];exact a1),fun g n T a1 a2=>?_,fun i b a1=>?_,fun b n a1=>by rw[e2];rw[e6]at a1;exact hr.qi b n a1⟩
    ·rw[e2]at a2
     have hb:=hr.box b cs blk a1 a2
     rw[e1,e6]
     exact hb.dj (G.BP d _ n (aI _)) (fun x e=>aH.K3 e (fun i _ e=>by cases e)) rfl (fun _ e=>e)
    ·rw[e3]at a2
     have ht:=hr.tok g n T a1 a2
     refine ht.dj (fun hn=>?_) (fun _=>rfl) (fun _ _ e=>e)
     obtain⟨m,hm⟩:=tB.1 hn
     exact aH.K3 (ht.2 m hm).2.1 (fun i _ e=>by cases e)
    ·rw[e5 rfl,wI]at a1
     split at a1
     ·rename_i bH
      have hm:=hr.mark i b a1
      exact hm.dj (aH.K3 hm.2.1 (fun i' hi e=>by injection e with _ e;omega)) rfl
     ·cases a1
   ·rw[e4 hd]
    refine hr.dj (G.BP k _ n iT) hk (fun o ho=>?_)
    obtain⟨i,_,rfl⟩:=ho
    refine⟨fun _ e=>by(cases e),fun _ e=>by(cases e),fun _ e=>?_⟩
    injection e with e _
    exact hd e.symm
  ·have hr:=h.rel.loop l lp r h1 h2
   obtain⟨k1,k2,_⟩:=hk _ _ hr.2.1 (fun⟨i,_,e⟩=>by cases e)
   exact hr.dj (fun k' gH a1 _=>G.BP k _ n (by omega)) (by simp[aH.lG]) k1 k2
  ·obtain⟨g0,e0,e1,_⟩:=dW d gr h1
   rw[e1]
   exact h.rel.pN d g0 e0
  ·obtain⟨g0,e0,e1,_⟩:=dW d gr h1
   obtain⟨g0',e0',qX,_⟩:=dW d' bP h2
   rw[e1,qX]
   exact h.rel.rL d d' g0 g0' hd e0 e0'
  ·simp only[aH.lG]at e
   cases ho:G.own b with
   |none=>rw[ho]at e;cases e
   |some o'=>exact h.rel.fq b o' ho
 exact h.to hs (G.BP k nl n (aI _)) rfl
theorem avZ {b:Nat} {o o':Obj} (h:At P B0 w0 G k nl s w) (hb:B0≤b) (nO:G.own b=none) (hw:w.heap[b]? =some o) (hc:∀a t f,o≠.cells a t f):At P B0 w0 G k nl s (w.putObj b o'):=by
 have hI:∀i v,G.I b i≠some v:=fun i v e=>by
  have:=h.rel.fM b i v e
  simp only[World.cell?,hw]at this
  cases o<;>first|(exact absurd rfl (hc _ _ _))|(simp at this)
 have hs:cQ P B0 w0 G s (w.putObj b o'):=by
  refine h.rel.dj (fun _ _ _ e=>e) rfl rfl (fun c q e _=>⟨e,World.putObj_heap_other (fun Cl=>?_),fun _ e=>e⟩) (fun c i v e=>?_) ?_ (fun c q e=>?_)
  ·subst Cl
   rw[nO]at e
   cases e
  ·have aF:c≠b:=fun e'=>hI i v (e' ▸ e)
   have:=h.rel.fM c i v e
   have hh:(w.putObj b o').heap[c]? =w.heap[c]? :=World.putObj_heap_other aF
   rw[←this]
   simp only[World.cell?,hh]
  ·exact⟨rfl,rfl,rfl,by simp,fun c hc=>World.putObj_heap_other (by omega)⟩
  ·rw[World.putObj_size]
   exact h.rel.fq c q e
 exact⟨hs,h.len,h.cur⟩
def aH.eI (G:aH) (k:Nat) (bl:List (Option Nat)) (w:World):aH where
 I:=fun b i=>if some b∈bl then w.cell? ⟨b,i,none⟩else G.I b i
 ag:=G.ag.dropLast
 loops:=G.loops
 own:=fun b=>match G.own b with
  |some (.box d x)=>if d=k then none else some (.box d x)
  |some (.tok d x)=>if d=k then none else some (.tok d x)
  |some (.mark d x)=>if d=k then none else some (.mark d x)
  |o=>o
def Te (k:Nat) (o:rY):Prop:=(∃b,o=.box k b)∨(∃g,o=.tok k g)∨∃i,o=.mark k i
theorem aH.avx {G:aH} {k b:Nat} {bl:List (Option Nat)} {o:rY} (h:G.own b=some o) (ho:¬Te k o):(G.eI k bl w).own b=some o:=by
 simp only[aH.eI,h]
 cases o with
 |box d x=>simp only;rw[ak (fun e=>ho (.inl ⟨x,by rw[e]⟩))]
 |tok d x=>simp only;rw[ak (fun e=>ho (.inr (.inl ⟨x,by rw[e]⟩)))]
 |mark d x=>simp only;rw[ak (fun e=>ho (.inr (.inr ⟨x,by rw[e]⟩)))]
 |loop l=>rfl
theorem aH.avw {G:aH} {k b:Nat} {bl:List (Option Nat)} {o:rY} (h:G.own b=some o) (ho:Te k o):(G.eI k bl w).own b=none:=by
 simp only[aH.eI,h]
 rcases ho with⟨x,rfl⟩|⟨x,rfl⟩|⟨x,rfl⟩<;>simp
theorem yX {α:Type} {l:List α} {n d:Nat} (hl:l.length=n+1):l.dropLast[d]? =if d<n then l[d]? else none:=by
 rw[List.getElem?_dropLast]
 simp only[hl,UK]
theorem z6 (h:At P B0 w0 G k nl s w) (aU:s.loops.length=nl) {gr:dF} (hg:G.ag[k]? =some gr):
  cQ P B0 w0 (G.eI k gr.bl w) s.pop w∧(∀b i v,G.I b i=some v→(G.eI k gr.bl w).I b i=some v)∧(∀b,some b∈gr.bl→∀i,(G.eI k gr.bl w).I b i=w.cell? ⟨b,i,none⟩)∧
  ∀d,d<k→(G.eI k gr.bl w).ag[d]? =G.ag[d]? :=by
 have hlen:G.ag.length=k+1:=by rw[h.rel.len,h.len]
 obtain⟨r,bP,hr,eC⟩:=h.dt (aI k)
 rw[hg]at eC
 injection eC with eC
 subst eC
 have aT:=h.rel.dt k r gr hr hg
 have kX:gr.nl=nl:=by obtain⟨g',e1,e2⟩:=h.cur;rw[hg]at e1;injection e1 with e1;rw[e1];exact e2
 have tZ:∀b,some b∈gr.bl→∃x,G.own b=some (.box k x):=fun b hb=>by
  obtain⟨x,hx,vP⟩:=nr hb
  have hx':x<r.boxes.length:=by rw[←aT.gV];exact hx
  have:=aT.box x _ b (dq hx') (by rw[dq hx,vP])
  obtain⟨y,hy,_⟩:=this.2.1
  exact⟨y,hy⟩
 have hI:∀b i v,G.I b i=some v→(G.eI k gr.bl w).I b i=some v:=fun b i v e=>by
  simp only[aH.eI]
  split
  ·exact h.rel.fM b i v e
  ·exact e
 have tX:∀d,d<k→(G.eI k gr.bl w).ag[d]? =G.ag[d]? :=fun d hd=>by
  simp only[aH.eI,yX hlen]
  rw[aj hd]
 have dW:∀(d:Nat) (q:dF),(G.eI k gr.bl w).ag[d]? =some q→d<k∧G.ag[d]? =some q:=fun d q e=>by
  simp only[aH.eI,yX hlen]at e
  split at e
  ·exact⟨by assumption,e⟩
  ·cases e
 have hle:∀k' gH,k'<k→bL k' gH G (G.eI k gr.bl w):=fun k' gH sI=>
  ⟨hI,fun d q hd e=>⟨q,by rw[tX d (by omega)];exact e,.refl q,fun _=>rfl⟩,fun _ _ _ e=>e⟩
 have oK:j9 (Te k) G w (G.eI k gr.bl w) w:=fun b o e ho=>⟨aH.avx e ho,rfl,fun i hi=>by
  simp only[aH.eI]
  rw[ak (fun hb=>by
   obtain⟨x,hx⟩:=tZ b hb
   rw[e]at hx
   injection hx with hx
   exact ho (.inl ⟨x,hx⟩))]
  exact hi⟩
 refine⟨⟨fun b i v e=>?_,by simp[aH.eI,ae.pop,h.rel.len],h.rel.jL,fun d q gq h1 h2=>?_,fun l lp q h1 h2=>?_,fun d q h1=>?_,fun d d' q q' hd h1 h2=>?_,h.rel.below,h.rel.low,fun b o e=>?_⟩,hI,fun b hb i=>?_,tX⟩
 ·simp only[aH.eI]at e
  split at e
  ·exact e
  ·exact h.rel.fM b i v e
 ·obtain⟨iT,h2⟩:=dW d gq h2
  have h1':s.ag[d]? =some q:=by
   simp only[ae.pop,yX h.len]at h1
   rw[aj iT]at h1
   exact h1
  refine(h.rel.dt d q gq h1' h2).dj (hle _ _ iT) oK (fun o ho=>?_)
  rcases ho with⟨x,rfl⟩|⟨x,rfl⟩|⟨x,rfl⟩
  ·exact⟨fun _ e=>by(injection e with e _;omega),fun _ e=>by(cases e),fun _ e=>by(cases e)⟩
  ·exact⟨fun _ e=>by(cases e),fun _ e=>by(injection e with e _;omega),fun _ e=>by(cases e)⟩
  ·exact⟨fun _ e=>by(cases e),fun _ e=>by(cases e),fun _ e=>by(injection e with e _;omega)⟩
 ·have rn:=h.rel.loop l lp q h1 h2
  obtain⟨b1,b2,rc,b3,b4⟩:=rn
  obtain⟨k1,k2,_⟩:=oK _ _ b2 (fun ho=>by rcases ho with⟨x,e⟩|⟨x,e⟩|⟨x,e⟩<;>cases e)
  obtain⟨a1,a2,a3,a4,a5,a6,a8,a9,N9,k',gH,UZ,a12,Jh,Oa⟩:=b4
  have hl:l<nl:=by have:=(bI.1 h1).1;simp only[ae.pop]at this;omega
  have sI:k'<k:=Jh k gr hg (by omega)
  refine⟨b1,k1,rc,k2.trans b3,a1,a2,a3,a4,a5,a6,a8,a9,N9,k',gH,?_,a12,fun d q' e aB=>Jh d q' (dW d q' e).2 aB,fun t=>(Oa t).mono (hle k' gH sI) (aI _) (aI _)⟩
  simp[aH.eI,hlen]
  omega
 ·exact h.rel.pN d q (dW d q h1).2
 ·exact h.rel.rL d d' q q' hd (dW d q h1).2 (dW d' q' h2).2
 ·simp only[aH.eI]at e
  cases ho:G.own b with
  |none=>rw[ho]at e;cases e
  |some o'=>exact h.rel.fq b o' ho
 ·simp only[aH.eI]
  rw[aj hb]
end
end Go.Ax
/-
  What an activation hands back.
-/
namespace Go.Ax
open Go.RowKit
section
variable{P:Program} {B0:Nat} {w0:World} {G:aH} {k nl:Nat} {w:World} {s:ae}
theorem acT {I:fG} {b:Nat} {arr:Array Value} {ty:TypeId} (hI:∀i,I b i=w.cell? ⟨b,i,none⟩) (hw:w.heap[b]? =some (.cells arr ty)) {i:Nat} (hi:i<arr.size):I b (0+i)=some (arr.getD i Go.undef):=by
 rw[gU,hI,cell_of_heap hw]
 simp[Array.getD,hi]
theorem aa0 (h:At P B0 w0 G k nl s w) (aU:s.loops.length=nl) {gr:dF} (hg:G.ag[k]? =some gr) {b off:Nat} {cs cs':List AV} {z:Value} (hx:Rel G k nl (.ptr k b off) z) (hb:s.box k b=some cs) (hc:closeAll cs=some cs'):
  bN (G.eI k gr.bl w).I (.bd cs' off) z:=by
 obtain⟨_,hI,bw,_⟩:=z6 h aU hg
 obtain⟨blk,bP,rfl,_,eC,db⟩:=hx.sQ
 rw[hg]at eC
 injection eC with eC
 subst eC
 obtain⟨r,_,_,_,arr,ty,hw,cw,aQ⟩:=h.box (aI k) hb hg db
 obtain⟨c1,c2,c3⟩:=KT hc cw.1 aQ cw.2
 have gm:some blk∈gr.bl:=bE db
 have:=bN.bd (I:=(G.eI k gr.bl w).I) (cs:=cs') (off:=off) (blk:=blk) (o0:=0) (fun i=>arr.getD i Go.undef) c2 (fun i hi=>acT (bw blk gm) hw (by have:=cw.1;omega)) (fun i hi=>(c3 i hi).mono hI)
 rw[gU]at this
 exact this
theorem ass (h:At P B0 w0 G k nl s w) (aU:s.loops.length=nl) {gr:dF} (hg:G.ag[k]? =some gr) {b off es n cap:Nat} {cs cs':List AV} {z:Value} (hx:Rel G k nl (.aN k b off es n cap) z) (hb:s.box k b=some cs) (hc:closeAll cs=some cs')
  (hle:off+n*es≤cs.length):bN (G.eI k gr.bl w).I (.slice .any es (chunks es n (cs'.drop off))) z:=by
 obtain⟨_,hI,bw,_⟩:=z6 h aU hg
 obtain⟨blk,bP,rc,o0,rfl,_,eC,db,hn,_,_,ho⟩:=hx.sR
 rcases DN n with iC|iC
 ·subst iC
  exact .slice (fun _ _=>Go.undef) (.inl rfl) (aV _) (fun r hr=>absurd hr (by simp[chunks])) (fun r hr=>absurd hr (by simp[chunks])) (fun i hi=>absurd hi (dH _)) (fun i hi=>absurd hi (dH _))
 have ho:=ho (.inl iC)
 subst ho
 rw[hg]at eC
 injection eC with eC
 subst eC
 obtain⟨r,_,_,_,arr,ty,hw,cw,aQ⟩:=h.box (aI k) hb hg db
 obtain⟨c1,c2,c3⟩:=KT hc cw.1 aQ cw.2
 have gm:some blk∈gr.bl:=bE db
 have:=TC (I:=(G.eI k gr.bl w).I) (cs:=cs') (es:=es) (n:=n) (cap:=rc) (blk:=blk) (o0:=0) (off:=o0) (f:=fun i=>arr.getD i Go.undef) c2 (fun i hi=>acT (bw blk gm) hw (by have:=cw.1;omega)) (fun i hi=>(c3 i hi).mono hI) (by rw[c1];exact hle) hn
 unfold ga at this
 rw[(Gz es n (cs'.drop o0) (by simp[c1];omega)).1,gU]at this
 exact this
theorem aaW (h:At P B0 w0 G k nl s w) (aU:s.loops.length=nl) {gr:dF} (hg:G.ag[k]? =some gr):∀{cs cs':List AV} {vs:List Value},vs.length=cs.length→(∀i (hi:i<cs.length) (hj:i<vs.length),Rel G k nl cs[i] vs[i])→mz s cs=some cs'→
  cs'.length=cs.length∧∀i (hi:i<cs'.length) (hj:i<vs.length),bN (G.eI k gr.bl w).I cs'[i] vs[i]
 |[],cs',vs,hl,hR,hc=>by
  simp only[mz]at hc
  injection hc with hc
  subst hc
  exact⟨rfl,fun i hi=>absurd hi (dH _)⟩
 |x::r,cs',[],hl,hR,hc=>by simp at hl
 | x :: r, cs', v :: vs, hl, hR, hc => by
  have hI:=(z6 h aU hg).2.1
  have h0:=hR 0 (by simp) (by simp)
  have kZ:∀i (hi:i<r.length) (hj:i<vs.length),Rel G k nl r[i] vs[i]:=fun i hi hj=>hR (i+1) (by simpa using hi) (by simpa using hj)
  simp only[wL]at h0
  have fin:∀{y:AV} {r':List AV},bN (G.eI k gr.bl w).I y v→mz s r=some r'→cs'=y::r'→cs'.length=(x::r).length∧∀i (hi:i<cs'.length) (hj:i<(v::vs).length),bN (G.eI k gr.bl w).I cs'[i] (v::vs)[i]:=fun hy nQ e=>by
   obtain⟨i1,i2⟩:=aaW h aU hg (by simpa using hl) kZ nQ
   subst e
   refine⟨by simp[i1],fun i hi hj=>?_⟩
   cases i with
   |zero=>exact hy
   |succ i=>exact i2 i (by simpa using hi) (by simpa using hj)
  by_cases hp:∃d b off,x=.ptr d b off
  ·obtain⟨d,b,off,rfl⟩:=hp
   simp only[mz]at hc
   split at hc
   ·rename_i hd
    rw[h.iQ]at hd
    subst hd
    split at hc
    ·rename_i ds r' e1 e2
     injection hc with hc
     obtain⟨cs0,hb,aQ⟩:=dS.1 e1
     exact fin (aa0 h aU hg h0 hb aQ) e2 hc.symm
    ·cases hc
   ·cases hc
  ·have he:mz s (x::r)=if x.kI then(mz s r).map (x::·)else none:=by
    cases x<;>first|rfl|exact absurd ⟨_,_,_,rfl⟩ hp
   rw[he]at hc
   split at hc
   ·rename_i aQ
    obtain⟨r',nQ,rfl⟩:=aZ.1 hc
    exact fin ((h0.BG aQ).mono hI) nQ rfl
   ·cases hc
theorem aaX (h:At P B0 w0 G k nl s w) (aU:s.loops.length=nl) {gr:dF} (hg:G.ag[k]? =some gr) {kc nlc:Nat} (pz:k≤kc+1) {x y:AV} {z:Value} (hx:Rel G k nl x z) (hl:eR s x=some y):
  Rel (G.eI k gr.bl w) kc nlc y z∧y.bK=true:=by
 obtain⟨_,hI,bw,tX⟩:=z6 h aU hg
 have closed:∀{y:AV},x.close=some y→Rel (G.eI k gr.bl w) kc nlc y z∧y.bK=true:=fun e=>⟨.cl ((hx.close e).mono hI),(Qc e).2⟩
 cases x with
 | slice o es xs =>
  cases o with
  |tok d g=>
   simp only[eR]at hl
   injection hl with hl
   subst hl
   exact closed rfl
  |_=>exact closed hl
 | ptr d b off =>
  simp only[eR]at hl
  split at hl
  ·rename_i hd
   rw[h.iQ]at hd
   subst hd
   obtain⟨cs,hb,hl⟩:=dS.1 hl
   obtain⟨cs',hc,rfl⟩:=aZ.1 hl
   exact⟨.cl (aa0 h aU hg hx hb hc),rfl⟩
  ·rename_i hd
   rw[h.iQ]at hd
   injection hl with hl
   subst hl
   obtain⟨blk,bP,rfl,iT,eC,db⟩:=hx.sQ
   exact⟨.ptr bP (by omega) (by rw[tX d (by omega)];exact eC) db,rfl⟩
 | aN d b off es n cap =>
  simp only[eR]at hl
  split at hl
  ·rename_i hd
   rw[h.iQ]at hd
   subst hd
   obtain⟨cs,hb,hl⟩:=dS.1 hl
   split at hl
   ·rename_i hle
    obtain⟨cs',hc,rfl⟩:=aZ.1 hl
    exact⟨.cl (ass h aU hg hx hb hc hle),rfl⟩
   ·cases hl
  ·cases hl
 | fn f first caps =>
  simp only[eR]at hl
  split at hl
  ·rename_i hf
   obtain⟨azM,hc,rfl⟩:=aZ.1 hl
   obtain⟨a1,a2,rfl,l1,l2,r1,r2⟩:=hx.CT
   obtain⟨q1,q2⟩:=aaW h aU hg (vs:=a2.toList) (by simpa using l2) (fun i hi hj=>by
    have:=r2 i hi
    have e:a2.getD i Go.undef=a2.toList[i]:=by
     have:i<a2.size:=by simpa using hj
     simp[Array.getD,this]
    rw[←e]
    exact this) hc
   refine⟨.cl (.fn l1 (by rw[l2,q1]) (fun i hi=>(r1 i hi).mono hI) (fun i hi=>?_)),rfl⟩
   have jG:i<a2.size:=by rw[l2,←q1];exact hi
   have:=q2 i hi (by simpa using jG)
   have e:a2.getD i Go.undef=a2.toList[i]'(by simpa using jG):=by simp[Array.getD,jG]
   rw[e]
   exact this
  ·cases hl
 |_=>exact closed hl
theorem aaZ (h:At P B0 w0 G k nl s w) (aU:s.loops.length=nl) {gr:dF} (hg:G.ag[k]? =some gr) {kc nlc:Nat} (pz:k≤kc+1):∀{cs cs':List AV} {vs:List Value},vs.length=cs.length→(∀i (hi:i<cs.length) (hj:i<vs.length),Rel G k nl cs[i] vs[i])→
  nW s cs=some cs'→cs'.length=cs.length∧∀i (hi:i<cs'.length) (hj:i<vs.length),Rel (G.eI k gr.bl w) kc nlc cs'[i] vs[i]∧cs'[i].bK=true
 |[],cs',vs,hl,hR,hc=>by
  simp only[nW]at hc
  injection hc with hc
  subst hc
  exact⟨rfl,fun i hi=>absurd hi (dH _)⟩
 |x::r,cs',[],hl,hR,hc=>by simp at hl
 | x :: r, cs', v :: vs, hl, hR, hc => by
  simp only[nW]at hc
  split at hc
  ·rename_i y r' e1 e2
   injection hc with hc
   subst hc
   obtain⟨i1,i2⟩:=aaZ h aU hg pz (nlc:=nlc) (by simpa using hl) (fun i hi hj=>hR (i+1) (by simpa using hi) (by simpa using hj)) e2
   refine⟨by simp[i1],fun i hi hj=>?_⟩
   cases i with
   |zero=>exact aaX h aU hg pz (hR 0 (by simp) (by simp)) e1
   |succ i=>exact i2 i (by simpa using hi) (by simpa using hj)
  ·cases hc
theorem aa1 (h:At P B0 w0 G k nl s w) (aU:s.loops.length=nl) {gr:dF} (hg:G.ag[k]? =some gr) {kc nlc:Nat} (pz:k≤kc+1) {x y:AV} {z:Value} (hx:Rel G k nl x z) (hl:dL s x=some y):
  Rel (G.eI k gr.bl w) kc nlc y z:=by
 by_cases Cf:∃cs,x=.agg cs
 ·obtain⟨cs,rfl⟩:=Cf
  simp only[dL]at hl
  obtain⟨cs',hc,rfl⟩:=aZ.1 hl
  obtain⟨arr,rfl,l1,aQ,hR⟩:=hx.x8
  have conv:∀i (hi:i<arr.size),arr.getD i Go.undef=arr.toList[i]'(by simpa using hi):=fun i hi=>by simp[Array.getD,hi]
  obtain⟨q1,q2⟩:=aaZ h aU hg pz (nlc:=nlc) (vs:=arr.toList) (by simpa using l1) (fun i hi hj=>by rw[←conv i (by simpa using hj)];exact hR i hi) hc
  refine .agg (by rw[l1,q1]) (fun c hc=>?_) (fun i hi=>?_)
  ·obtain⟨i,hi,rfl⟩:=nr hc
   exact(q2 i hi (by simp;omega)).2
  ·have br:i<arr.size:=by omega
   rw[conv i br]
   exact(q2 i hi (by simpa using br)).1
 ·have:dL s x=eR s x:=by
   cases x<;>first|rfl|exact absurd ⟨_,rfl⟩ Cf
  rw[this]at hl
  exact(aaX h aU hg pz hx hl).1
def Dj (tmps:Array Value):ResultVar→Sem Value
 |.tmp t=>pure (tmps.getD t Go.undef)
 |.cell a t=>do loadVar t (←asAddr (tmps.getD a Go.undef))
theorem Tz {st:St} {a:Act} (h:At P B0 w0 G k nl st.sig w) (hR:eM G k nl st.tmps a) {r:ResultVar} {ar:iy} (hc:xn P r=some ar) {x:AV} (hx:uB st ar=some x):
  ∃z,(Dj a.tmps r).run P w=.ok z w∧Rel G k nl x z:=by
 cases r with
 |tmp t=>
  simp only[xn]at hc
  injection hc with hc
  subst hc
  simp only[uB]at hx
  injection hx with hx
  subst hx
  exact⟨_,rfl,hR t⟩
 | cell t ty =>
  simp only[xn,acM]at hc
  split at hc
  ·rename_i g n e1 e2
   injection hc with hc
   subst hc
   simp only[uB]at hx
   obtain⟨z,r1,r2⟩:=ML h (hR t) hx e1 e2
   refine⟨z,?_,r2⟩
   have hp:∃p,a.tmps.getD t Go.undef=.pointer (some p):=by
    unfold ae.load at hx
    obtain⟨q,hq,_⟩:=dS.1 hx
    have jo:=hR t
    cases bu:st.tmps t with
    |ptr d b off=>rw[bu]at jo;obtain⟨blk,gr,e,_⟩:=jo.sQ;exact⟨_,e⟩
    |bd cs off=>rw[bu]at jo;obtain⟨blk,o0,f,e,_⟩:=jo.zK;exact⟨_,e⟩
    |_=>rw[bu]at hq;simp[ae.row]at hq
   obtain⟨p,hp⟩:=hp
   simp only[Dj,hp,asAddr,Sem.run_bind,Sem.run_pure,Result.andThen_ok]
   rw[hp]at r1
   simpa[Instr.loadAt,Instr.sureAddr]using r1
  ·cases hc
theorem acN {st:St} {a:Act} (h:At P B0 w0 G k nl st.sig w) (hR:eM G k nl st.tmps a) (aU:st.sig.loops.length=nl) {gr:dF} (hg:G.ag[k]? =some gr) {kc nlc:Nat} (pz:k≤kc+1):∀{rs:List ResultVar} {qU:List iy} {l:List AV},
  fE (xn P) rs=some qU→sZ st qU=some l→∃vs:List Value,(rs.mapM (Dj a.tmps)).run P w=.ok vs w∧vs.length=l.length∧∀i (hi:i<l.length) (hj:i<vs.length),Rel (G.eI k gr.bl w) kc nlc l[i] vs[i]
 |[],qU,l,hm,hr=>by
  simp only[fE]at hm
  injection hm with hm
  subst hm
  simp only[sZ]at hr
  injection hr with hr
  subst hr
  exact⟨[],by simp,rfl,fun i hi=>absurd hi (dH _)⟩
 | r :: rs, qU, l, hm, hr => by
  simp only[fE]at hm
  split at hm
  ·rename_i ar Vr e1 e2
   injection hm with hm
   subst hm
   simp only[sZ]at hr
   split at hr
   ·rename_i x l' f1 f2
    injection hr with hr
    subst hr
    obtain⟨x0,nU,sN⟩:=dS.1 f1
    obtain⟨z,r1,r2⟩:=Tz h hR e1 nU
    obtain⟨vs,v1,v2,v3⟩:=acN h hR aU hg pz (nlc:=nlc) e2 f2
    refine⟨z::vs,?_,by simp[v2],fun i hi hj=>?_⟩
    ·simp only[UD,Sem.run_bind,r1,Result.andThen_ok,v1,Sem.run_pure]
    ·cases i with
     |zero=>exact aa1 h aU hg pz r2 sN
     |succ i=>exact v3 i (by simpa using hi) (by simpa using hj)
   ·cases hr
  ·cases hm
theorem TA {fn:Func} {tmps:Array Value} {vs:List Value} (h:(fn.results.toList.mapM (Dj tmps)).run P w=.ok vs w):
  (results fn tmps).run P w=.ok (if h:vs.toArray.size=1 then vs.toArray[0]else .tuple vs.toArray) w:=by
 have e:results fn tmps=(do let vs←fn.results.mapM (Dj tmps);pure (if h:vs.size=1 then vs[0]else .tuple vs)):=by
  unfold results
  congr 1
 rw[e]
 simp only[aeH,Sem.run_bind,Sem.run_map,h,Result.andThen_ok,Sem.run_pure]
theorem aca {G':aH} {kc nlc:Nat} {l:List AV} {vs:List Value} (hl:vs.length=l.length) (hR:∀i (hi:i<l.length) (hj:i<vs.length),Rel G' kc nlc l[i] vs[i]):
  Rel G' kc nlc (packed l) (if h:vs.toArray.size=1 then vs.toArray[0]else .tuple vs.toArray):=by
 match l,vs,hl with
 |[],[],_=>exact .tuple rfl (fun i hi=>absurd hi (dH _))
 |[x],[v],_=>exact hR 0 (by simp) (by simp)
 | x :: y :: l, v :: u :: vs, hl =>
  have:¬((v::u::vs).toArray.size=1):=by simp
  rw[K2 this]
  refine .tuple (by simpa using hl) (fun i hi=>?_)
  have br:i<(v::u::vs).length:=by rw[hl];exact hi
  have:=hR i hi br
  have e:(v::u::vs).toArray.getD i Go.undef=(v::u::vs)[i]:=by
   have:i<vs.length+1+1:=by simpa using br
   simp[Array.getD,this]
  rw[e]
  exact this
theorem SD {r l:Nat}:∀{caps:List AV},mz {s with ro:=r,cq:=l} caps=mz s caps
 |[]=>rfl
 |x::rest=>by
  have ih:=SD (r:=r) (l:=l) (caps:=rest)
  cases x<;>simp only[mz,ih]<;>rfl
theorem asr {r l:Nat} {x:AV}:eR {s with ro:=r,cq:=l} x=eR s x:=by
 cases x with
 |slice o es xs=>cases o<;>rfl
 |fn f first caps=>simp only[eR,SD]
 |_=>rfl
theorem aaY {r l:Nat}:∀{cs:List AV},nW {s with ro:=r,cq:=l} cs=nW s cs
 |[]=>rfl
 |x::rest=>by simp only[nW,asr,aaY]
theorem ast {r l:Nat} {x:AV}:dL {s with ro:=r,cq:=l} x=dL s x:=by
 cases x with
 |agg cs=>simp only[dL,aaY]
 |slice o es xs=>cases o<;>rfl
 |fn f first caps=>
  simp only[dL,eR,SD]
 |_=>rfl
theorem ab6 (h:At P B0 w0 G k nl s w) (aU:s.loops.length=nl) {kc nlc:Nat} (pz:k≤kc+1) {x0 x:AV} {z:Value} {s':ae} (r2:Rel G k nl x0 z) (mo:nZ s x0=some (x,s')):
  ∃G',cQ P B0 w0 G' s' w∧s'.ag.length=k∧s'.loops=s.loops∧(∀b i v,G.I b i=some v→G'.I b i=some v)∧
   (∀d gr,d<k→G.ag[d]? =some gr→∃bP,G'.ag[d]? =some bP∧jz gr bP∧bP.marks=gr.marks)∧(∀l r:Nat,G.loops[l]? =some r→G'.loops[l]? =some r)∧Rel G' kc nlc x z:=by
 obtain⟨gr,hg,_⟩:=h.cur
 obtain⟨hp,hI,bw,tX⟩:=z6 h aU hg
 have sJ:∀d q,d<k→G.ag[d]? =some q→∃q',(G.eI k gr.bl w).ag[d]? =some q'∧jz q q'∧q'.marks=q.marks:=fun d q hd e=>⟨q,by rw[tX d hd];exact e,.refl q,rfl⟩
 have other:∀{y:AV},dL s x0=some y→x=y→s'=s.pop→∃G',cQ P B0 w0 G' s' w∧s'.ag.length=k∧s'.loops=s.loops∧(∀b i v,G.I b i=some v→G'.I b i=some v)∧
   (∀d gr,d<k→G.ag[d]? =some gr→∃bP,G'.ag[d]? =some bP∧jz gr bP∧bP.marks=gr.marks)∧(∀l r:Nat,G.loops[l]? =some r→G'.loops[l]? =some r)∧Rel G' kc nlc x z:=fun hy ex es=>by
  subst ex es
  exact⟨_,hp,by simp[ae.pop,h.len],rfl,hI,sJ,fun _ _ e=>e,aa1 h aU hg pz r2 hy⟩
 unfold nZ at mo
 split at mo
 ·rename_i d g es xs
  split at mo
  ·rename_i cu
   obtain⟨hd,qo,_,zF⟩:=cu
   injection mo with mo
   injection mo with pr sG
   rw[h.iQ]at hd
   subst hd
   subst pr sG
   cases r2 with
   |cl r2=>cases r2 with
    |slice f ho=>rcases ho with h|⟨h,_⟩<;>cases h
    |empty ho=>rcases ho with h|h<;>cases h
   | @tok _ _ _ _ av cap T bP hd eC ht eV kG hn=>
   rw[hg]at eC
   injection eC with eC
   subst eC
   obtain⟨r,hr,jo⟩:=ad0 zF
   have aT:=h.rel.dt _ r gr hr hg
   obtain⟨pn,sw⟩:=aT.tok g _ T jo ht
   obtain⟨t1,t2,t3,t4,t5,arr,ty,t6,t7⟩:=sw _ rfl
   obtain⟨_,heq⟩:=hn _ pn
   obtain⟨rfl,rfl⟩:=heq rfl
   have Rq:(G.eI d gr.bl w).own T.blk=none:=aH.avw t2 (.inr (.inl ⟨g,rfl⟩))
   obtain⟨rc,zb,na,mq⟩:=h.dt (d:=d-1) (by omega)
   have anA:s.pop.ag[d-1]? =some rc:=by
    simp only[ae.pop,yX h.len]
    rw[aj (by omega)]
    exact na
   have Zn:(G.eI d gr.bl w).ag[d-1]? =some zb:=by rw[tX _ (by omega)];exact mq
   have hIt:∀i,xs.length*T.es≤i→(G.eI d gr.bl w).I T.blk i=none:=fun i hi=>by
    simp only[aH.eI]
    rw[ak (fun hm=>by
     obtain⟨q,hq,HG⟩:=nr hm
     have HE:q<r.boxes.length:=by rw[←aT.gV];exact hq
     obtain⟨y,this,_⟩:=(aT.box q _ T.blk (dq HE) (by rw[dq hq,HG])).2.1
     rw[t2]at this
     injection this with this
     cases this)]
    exact t3 i hi
   obtain⟨G2,b1,b2,b3,b4⟩:=U4 hp (T:=T) anA Zn Rq pn ⟨t1,hIt,t4,t5,arr,ty,t6,t7⟩
   have vE:(s.pop.lB (d-1) xs.length).ag.length=d:=by simp[ae.lB,ae.bG,ae.pop,h.len]
   refine⟨G2,b3,vE,rfl,fun b i v e=>by rw[b2];exact hI b i v e,fun q gq hq e=>?_,?_,?_⟩
   ·have e':(G.eI d gr.bl w).ag[q]? =some gq:=by rw[tX q hq];exact e
    obtain⟨gq',c1,c2,c3⟩:=(b4 (q+1) 0).ag q gq (by omega) e'
    exact⟨gq',c1,c2,c3 (by omega)⟩
   ·exact fun l r e=>(b4 0 (l+1)).loops l r (by omega) e
   ·have hH:G2.ag[d-1]? =some {zb with tk:=zb.tk++[T]}:=by rw[b1,eE,aj rfl,Zn];rfl
    have sK:s.j4 (d-1)=zb.tk.length:=by rw[abB na,(h.rel.dt _ rc zb na mq).jx]
    rw[sK]
    exact .tok T _ (by omega) hH (by show(zb.tk++[T])[zb.tk.length]? =_;rw[jy (aI _)];simp) eV (kG.mono (by rw[b2];exact hI)) hn
  ·injection mo with mo
   injection mo with pr sG
   exact other (y:=.slice .any es xs) rfl pr.symm sG.symm
 ·obtain⟨y,hy,mo⟩:=aZ.1 mo
  injection mo with pr sG
  exact other hy pr.symm sG.symm
theorem ajH {st:St} {a:Act} (h:At P B0 w0 G k nl st.sig w) (hR:eM G k nl st.tmps a) (aU:st.sig.loops.length=nl) {fn:Func} {qU:List iy} {own:Bool} (hc:fE (xn P) fn.results.toList=some qU) {kc nlc:Nat} (pz:k≤kc+1) {x:AV} {s':ae}
  (hf:finish qU own st=some (x,s')):∃z G',(results fn a.tmps).run P w=.ok z w∧cQ P B0 w0 G' s' w∧s'.ag.length=k∧s'.loops=st.sig.loops∧(∀b i v,G.I b i=some v→G'.I b i=some v)∧
   (∀d gr,d<k→G.ag[d]? =some gr→∃bP,G'.ag[d]? =some bP∧jz gr bP∧bP.marks=gr.marks)∧(∀l r:Nat,G.loops[l]? =some r→G'.loops[l]? =some r)∧Rel G' kc nlc x z:=by
 obtain⟨gr,hg,_⟩:=h.cur
 obtain⟨hp,hI,bw,tX⟩:=z6 h aU hg
 have sJ:∀d q,d<k→G.ag[d]? =some q→∃q',(G.eI k gr.bl w).ag[d]? =some q'∧jz q q'∧q'.marks=q.marks:=fun d q hd e=>⟨q,by rw[tX d hd];exact e,.refl q,rfl⟩
 unfold finish at hf
 split at hf
 · -- one result, the right to append with it
  split at hf
  ·rename_i ar
   obtain⟨x0,nU,mo⟩:=dS.1 hf
   clear hf
   obtain⟨rv,ZX⟩:∃rv,fn.results.toList=[rv]:=by
    obtain⟨l1,_⟩:=ye hc
    match hh:fn.results.toList,l1 with
    |[rv],_=>exact⟨rv,rfl⟩
   rw[ZX]at hc
   simp only[fE]at hc
   split at hc
   ·rename_i ar' Vr e1 e2
    injection hc with hc
    injection hc with hc _
    subst hc
    obtain⟨z,r1,r2⟩:=Tz h hR e1 nU
    have dN:(results fn a.tmps).run P w=.ok z w:=by
     have:=TA (P:=P) (w:=w) (fn:=fn) (tmps:=a.tmps) (vs:=[z]) (by rw[ZX];simp[r1])
     simpa using this
    obtain⟨G2,q⟩:=ab6 h aU pz (nlc:=nlc) r2 mo
    exact⟨z,G2,dN,q⟩
   ·cases hc
  ·cases hf
 ·obtain⟨l,hl,hf⟩:=aZ.1 hf
  injection hf with pr sG
  subst pr sG
  obtain⟨vs,v1,v2,v3⟩:=acN h hR aU hg pz (nlc:=nlc) hc hl
  exact⟨_,_,TA v1,hp,by simp[ae.pop,h.len],rfl,hI,sJ,fun _ _ e=>e,aca v2 v3⟩
end
end Go.Ax
/-
  One operation of a region, calls with it.
-/
namespace Go.Ax
open Go.RowKit
def jn:Option Nat→Fence
 |none=>Fence.wide
 |some r=>Fence.wide.inRound r
theorem Qz (rd:Option Nat) (f:FuncId):(jn rd).fn f:=by cases rd<;>exact trivial
theorem Ld (rd:Option Nat):(jn rd).depth=none:=by cases rd<;>rfl
theorem aju (rd:Option Nat):(jn rd).round=rd:=by cases rd<;>rfl
theorem Lc (rd:Option Nat) {n:Nat} {P:Program} {f:FuncId} {args:Array Value} {w:World} {R:Ending→World→Prop} (h:Calls P f args w R):CallsIn (jn rd) n P f args w R:=by
 have:=(callsIn_wide (n:=n)).2 h
 cases rd
 ·exact this
 ·exact this
theorem ajv (rd:Option Nat) {n:Nat} {P:Program} {l:Nat} {f:FuncId} {tmps:Array Value} {assign body:Code} {w:World} {R:Ending→World→Prop} (h:RoundIn Fence.wide n P l f tmps assign body w R):
  RoundIn (jn rd) n P l f tmps assign body w R:=by
 cases rd
 ·exact h
 ·exact h
def oz (P:Program) (f:FuncId):Prop:=∃fn c,P.funcs[f]? =some fn∧fn.body=some c∧(fn.name== "runtime.NumGoroutine")=false
theorem oz.run {P:Program} {f:FuncId} (h:oz P f) (args:Array Value) (w:World):(callFunc f args).run P w=.ok (.enter f args) w:=by
 obtain⟨fn,c,h1,h2,h3⟩:=h
 simp only[callFunc,Sem.run_bind,run_program,Result.andThen_ok,h1,h3,h2,Option.isNone_some,ew,eu]
 rfl
section
variable{P:Program} {B0:Nat} {w0:World}
def ow (P:Program) (B0:Nat) (w0:World) (G:aH) (k nl:Nat) (s s':ae) (w':World) (x:AV) (x':Value):Prop:=
 ∃G',cQ P B0 w0 G' s' w'∧s'.ag.length=s.ag.length∧s'.loops.length=s.loops.length∧bL (k+1) s.loops.length G G'∧Rel G' k nl x x'
structure mL (P:Program) (B0:Nat) (w0:World) (call:bj):Prop where
 fn:∀(G:aH) (k nl:Nat) (s:ae) (w:World) (f:FuncId) (args:List AV) (xs:Array Value) (res:AV) (s':ae),cQ P B0 w0 G s w→s.ag.length≤k+1→k≤s.ag.length→nl≤s.loops.length→xs.size=args.length→
  (∀i (hi:i<args.length),Rel G k nl args[i] (xs.getD i Go.undef))→call (.fn f) args s=some (res,s')→
  oz P f∧Calls P f xs w fun e w'=>∃z,e=.returned z∧ow P B0 w0 G k nl s s' w' res z
 yield:∀(G:aH) (k nl:Nat) (s:ae) (w:World) (l r:Nat) (args:List AV) (xs:Array Value) (res:AV) (s':ae),cQ P B0 w0 G s w→s.ag.length≤k+1→k≤s.ag.length→nl≤s.loops.length→l<nl→G.loops[l]? =some r→xs.size=args.length→
  (∀i (hi:i<args.length),Rel G k nl args[i] (xs.getD i Go.undef))→call (.yield l) args s=some (res,s')→
  ∃rc:Loop,w.heap[r]? =some (.loop rc)∧xs.size=rc.params.size∧∀n,RoundIn Fence.wide n P r rc.fn ((rc.params.zip xs).foldl (fun tmps (t,a)=>tmps.setIfInBounds t a) rc.tmps) rc.assign rc.body w
   fun e w'=>∃z,e=.returned z∧ow P B0 w0 G k nl s s' w' res z
def yu (I:fG) (r:AV) (z:Value):Prop:=bN I r z∨∃(vs:List AV) (arr:Array Value),r=.tuple vs∧z=.tuple arr∧arr.size=vs.length∧∀i (hi:i<vs.length),bN I vs[i] (arr.getD i Go.undef)
theorem yu.rel {G:aH} {k nl:Nat} {r:AV} {z:Value} (h:yu G.I r z):Rel G k nl r z:=by
 rcases h with h|⟨vs,arr,rfl,rfl,hl,hR⟩
 ·exact .cl h
 ·exact .tuple hl fun i hi=>.cl (hR i hi)
structure oA (P:Program) (B0:Nat) (w0:World) (call:bj):Prop where
 inl:∀(G:aH) (k nl:Nat) (s:ae) (w:World) (f:FuncId) (args:List AV) (xs:Array Value) (res:AV) (s':ae),At P B0 w0 G k nl s w→s.loops.length=nl→xs.size=args.length→
  (∀i (hi:i<args.length),Rel G k nl args[i] (xs.getD i Go.undef))→call (.inl f) args s=some (res,s')→
  oz P f∧Calls P f xs w fun e w'=>∃z,e=.returned z∧ow P B0 w0 G k nl s s' w' res z
 nat:∀(I:fG) (s:ae) (w:World) (f:FuncId) (args:List AV) (xs:Array Value) (res:AV) (s':ae),xs.size=args.length→
  (∀i (hi:i<args.length),∀c,args[i].close=some c→bN I c (xs.getD i Go.undef))→call (.nat f) args s=some (res,s')→
  s'=s∧∃z,(callFunc f xs).run P w=.ok (.value z) w∧yu I res z
structure Fr (s s':ae):Prop where
 yz:s'.ag.length=s.ag.length
 jL:s'.loops.length=s.loops.length
 ro:s'.ro=s.ro
 cq:s'.cq=s.cq
 ag:∀d,d<s.ro→s'.ag[d]? =s.ag[d]?
 loops:∀l,l<s.cq→s'.loops[l]? =s.loops[l]?
def jl (call:bj):Prop:=∀t args s x s',s.ro≤s.ag.length→s.cq≤s.loops.length→call t args s=some (x,s')→Fr s s'
theorem cQ.of_eq {G:aH} {s s':ae} {w:World} (h:cQ P B0 w0 G s w) (ha:s'.ag=s.ag) (hl:s'.loops=s.loops):cQ P B0 w0 G s' w:=by
 obtain⟨h1,h2,h3,h4,h5,h6,h7,h8,h9,cJ⟩:=h
 exact⟨h1,by rw[ha];exact h2,by rw[hl];exact h3,by rw[ha];exact h4,by rw[hl];exact h5,by rw[hl];exact h6,h7,h8,h9,cJ⟩
inductive N8 (G:aH) (nl:Nat):Target→(Array Value→Sem Next)→Prop
 |fn (f:FuncId):N8 G nl (.fn f) (callFunc f)
 |yield {l r:Nat} (hl:l<nl) (h:G.loops[l]? =some r):N8 G nl (.yield l) (Instr.yield r)
variable{G:aH} {k nl:Nat} {w:World} {s s':ae}
theorem aim {call:bj} (bO:jl call) {ro:Bool} {t:Target} {args:List AV} {x:AV} (h:eo call ro s t args=some (x,s')):
  ∃s1 s2,s1.ag=s.ag∧s1.loops=s.loops∧call t args s1=some (x,s2)∧s'.ag=s2.ag∧s'.loops=s2.loops:=by
 unfold eo at h
 split at h
 ·obtain⟨p,hp,h⟩:=aZ.1 h
  obtain⟨y,s2⟩:=p
  injection h with h1 h2
  subst h1 h2
  obtain⟨r1,r2,_,_,r3,r4⟩:=bO _ _ _ _ _ (aI _) (aI _) hp
  refine⟨{s with ro:=s.ag.length,cq:=s.loops.length},s2,rfl,rfl,hp,?_,?_⟩
  ·refine NF r1.symm fun d h1 h2=>?_
   have:=r3 d h1
   simp only at this
   rw[dq h1,dq h2]at this
   injection this with this
   exact this.symm
  ·refine NF r2.symm fun d h1 h2=>?_
   have:=r4 d h1
   simp only at this
   rw[dq h1,dq h2]at this
   injection this with this
   exact this.symm
 ·exact⟨s,s',rfl,rfl,h,rfl,rfl⟩
theorem ow.step {s1 s2:ae} {w':World} {x:AV} {z:Value} (h:At P B0 w0 G k nl s w) (e1:s1.ag=s.ag) (e2:s1.loops=s.loops) (e3:s'.ag=s2.ag) (e4:s'.loops=s2.loops)
  (hc:ow P B0 w0 G k nl s1 s2 w' x z):ek P B0 w0 G k nl s s' w' x z:=by
 obtain⟨G',h1,h2,h3,h4,h5⟩:=hc
 rw[e2]at h4 h3
 rw[e1]at h2
 have hs:=h1.of_eq e3 e4
 exact⟨G',h.to hs (h4.less (by omega) h.sW) (by rw[e3,h2]),h4,by rw[e4,h3],h5⟩
def rZ (P:Program) (B0:Nat) (w0:World) (G:aH) (k nl:Nat) (s:ae) (a:Act) (aM:St) (a':Act) (w':World):Prop:=
 ∃G',At P B0 w0 G' k nl aM.sig w'∧bL (k+1) s.loops.length G G'∧aM.sig.loops.length=s.loops.length∧eM G' k nl aM.tmps a'∧a'.tmps.size=a.tmps.size∧a'.defers=a.defers
theorem eM.put {ρ:Nat→AV} {a:Act} (h:eM G k nl ρ a) {dst:Option Nat} (hd:∀t,dst=some t→t<a.tmps.size) {x:AV} {v:Value} (hx:Rel G k nl x v):eM G k nl (kL ρ dst x) (a.put dst v):=by
 cases dst with
 |none=>exact h
 | some t =>
  intro u
  have ht:=hd t rfl
  simp only[kL,Act.put,Ax.put]
  by_cases hu:u=t
  ·subst hu
   rw[aj rfl]
   have:(a.tmps.setIfInBounds u v).getD u Go.undef=v:=by simp[Array.getD,ht]
   rw[this]
   exact hx
  ·rw[ak hu]
   have:(a.tmps.setIfInBounds t v).getD u Go.undef=a.tmps.getD u Go.undef:=by
    by_cases aB:u<a.tmps.size
    ·simp[Array.getD,aB,qQ hu]
    ·simp[Array.getD,aB]
   rw[this]
   exact h u
theorem eM.mono {G':aH} {ρ:Nat→AV} {a:Act} (h:eM G k nl ρ a) (hle:bL k nl G G'):eM G' k nl ρ a:=fun t=>(h t).mono hle (aI _) (aI _)
theorem av3 (a:Act) (dst:Option Nat) (v:Value):(a.put dst v).tmps.size=a.tmps.size:=by
 cases dst with
 |none=>rfl
 |some t=>simp[Act.put]
theorem put_defers (a:Act) (dst:Option Nat) (v:Value):(a.put dst v).defers=a.defers:=by
 cases dst<;>rfl
theorem ek.post {a:Act} {ρ:Nat→AV} {dst:Option Nat} {w':World} {x:AV} {v:Value} (h:At P B0 w0 G k nl s w) (hR:eM G k nl ρ a) (hd:∀t,dst=some t→t<a.tmps.size) (hs:ek P B0 w0 G k nl s s' w' x v):
  rZ P B0 w0 G k nl s a ⟨kL ρ dst x,s'⟩ (a.put dst v) w':=by
 obtain⟨G',h1,h2,h3,h4⟩:=hs
 exact⟨G',h1,h2,h3,(hR.mono (h2.less (by omega) h.sW)).put hd h4,av3 _ _ _,put_defers _ _ _⟩
theorem Rel.agz {x:AV} {b:Bool} (h:Rel G k nl x (.bool b)):x=.v (.bool b):=by
 cases h with
 |cl h=>cases h with|v h=>rfl
theorem ayZ {all : List Oper} {o : Oper} {g : Option (Nat × Bool)} {ρ : Nat → AV} {a : Act} (hg : BI all o.guard = some g) (hR : eM G k nl ρ a) : Region.wanted o (yielded all.toArray a.tmps) = kO ρ g := by
  unfold Region.wanted
  cases vB:o.guard with
  | none =>
    rw[vB]at hg
    simp only[BI,fI]at hg
    subst hg
    rfl
  | some p =>
    obtain⟨j,b⟩:=p
    rw[vB]at hg
    simp only[BI]at hg
    split at hg
    · rename_i t ht
      injection hg with hg
      subst hg
      simp only[kO,yielded]
      have e:(all.toArray[j]?).bind (·.dst)=some t:=by simpa using ht
      rw[e]
      simp only[dI]
      have hr:=hR t
      by_cases hb:∃c,a.tmps.getD t Go.undef=.bool c
      · obtain ⟨c, hc⟩ := hb
        rw[hc]at hr
        rw[hr.agz]
        have:a.tmps[t]? =some (.bool c):=by
          by_cases aB:t<a.tmps.size
          · have : a.tmps.getD t Go.undef = a.tmps[t] := by simp [Array.getD, aB]
            rw[this]at hc
            rw[aeG aB,hc]
          · have : a.tmps.getD t Go.undef = Go.undef := by simp [Array.getD, aB]
            rw[this]at hc
            cases hc
        rw[this]
        simp[Ds]
      · have h1 : (match a.tmps[t]? with | some (.bool b) => some b | _ => none) = (none : Option Bool) := by
          split
          · rename_i b kq
            exact absurd ⟨b,by
              obtain⟨aB,Ra⟩:=uI.1 kq
              simp[Array.getD,aB,Ra]⟩ hb
          · rfl
        have h2:Ds b (ρ t)=false:=by
          unfold Ds
          split
          · rename_i c hc
            rw[hc]at hr
            exact absurd ⟨c,hr.gp⟩ hb
          · rfl
        rw[h2]
        first
          |(rw[h1];rfl)
          | (split
             · rename_i c hc
               exact absurd ⟨c,by
                 obtain⟨aB,Ra⟩:=uI.1 hc
                 simp[Array.getD,aB,Ra]⟩ hb
             · rfl)
    · cases hg
theorem adW {call:bj} (dV:mL P B0 w0 call) (bO:jl call) {rd:Option Nat} {n:Nat} {ro:Bool} {t:Target} {tv:Array Value→Sem Next} {args:List AV} {xs:Array Value} {x:AV} (h:At P B0 w0 G k nl s w)
  (ht:N8 G nl t tv) (hl:xs.size=args.length) (hR:∀i (hi:i<args.length),Rel G k nl args[i] (xs.getD i Go.undef)) (hc:eo call ro s t args=some (x,s'))
  {o:Oper} {a:Act} {K:Act→World→Prop} {Q:Exit→Act→World→Prop} (hK:∀z w',ek P B0 w0 G k nl s s' w' x z→K (a.put o.dst z) w'):
  o.uponIn (jn rd) n P a K Q ((tv xs).run P w):=by
 obtain⟨s1,s2,e1,e2,hc,e3,e4⟩:=aim bO hc
 have jq:cQ P B0 w0 G s1 w:=h.rel.of_eq e1 e2
 have Cp:(jn rd).depth.isSome=true→1≤n:=by rw[Ld];intro h;cases h
 cases ht with
 |fn f=>
  obtain⟨hb,fL⟩:=dV.fn G k nl s1 w f args xs x s2 jq (by rw[e1,h.len];exact aI _) (by rw[e1,h.len];exact tz _) (by rw[e2];exact h.sW) hl hR hc
  rw[hb.run]
  simp only[Oper.uponIn_enter]
  refine⟨Cp,CallsIn.mono (Lc rd fL) fun e w' he=>?_⟩
  obtain⟨z,rfl,hz⟩:=he
  exact hK z w' (hz.step h e1 e2 e3 e4)
 | @yield l r nM hr=>
  obtain⟨rc,na,cj,Mf⟩:=dV.yield G k nl s1 w l r args xs x s2 jq (by rw[e1,h.len];exact aI _) (by rw[e1,h.len];exact tz _) (by rw[e2];exact h.sW) nM hr hl hR hc
  rw[run_yield na cj]
  simp only[Oper.uponIn_round]
  refine⟨Cp,RoundIn.mono (ajv rd (Mf (n-1))) fun e w' he=>?_⟩
  obtain⟨z,rfl,hz⟩:=he
  exact hK z w' (hz.step h e1 e2 e3 e4)
theorem MT {f:Value} {fn:Fn} {first caps:Array Value} (hf:f=.func fn first caps) (args:Array Value) (w:World):(Deferred.ofValue f args).run P w=.ok {target:=.fn fn caps,args:=first++args} w:=by
 subst hf
 rfl
theorem B4 (xs ys:Array Value) (i:Nat):(xs++ys).getD i Go.undef=if i<xs.size then xs.getD i Go.undef else ys.getD (i-xs.size) Go.undef:=by
 by_cases h1:i<xs.size
 ·rw[aj h1]
  have:i<(xs++ys).size:=by simp;omega
  simp[Array.getD,h1,Array.getElem_append_left,this]
  omega
 ·rw[ak h1]
  by_cases h2:i-xs.size<ys.size
  ·have:i<(xs++ys).size:=by simp;omega
   have h3:i<xs.size+ys.size:=by omega
   simp[Array.getD,h2,h3,Array.getElem_append_right (Jb h1)]
  ·have:¬i<xs.size+ys.size:=by omega
   simp[Array.getD,h2,this]
theorem P9 {call:bj} (dV:mL P B0 w0 call) (bO:jl call) {rd:Option Nat} {n:Nat} {ro:Bool} {f:AV} {fv:Value} {args:List AV} {xs:Array Value} {x:AV} (h:At P B0 w0 G k nl s w)
  (hf:Rel G k nl f fv) (hl:xs.size=args.length) (hR:∀i (hi:i<args.length),Rel G k nl args[i] (xs.getD i Go.undef)) (hc:nB call ro s f args=some (x,s'))
  {o:Oper} {a:Act} {K:Act→World→Prop} {Q:Exit→Act→World→Prop} (hK:∀z w',ek P B0 w0 G k nl s s' w' x z→K (a.put o.dst z) w'):
  o.uponIn (jn rd) n P a K Q ((do let d←Deferred.ofValue fv xs;invoke d.target d.args:Sem Next).run P w):=by
 unfold nB at hc
 split at hc
 ·rename_i g first caps
  obtain⟨a1,a2,rfl,l1,l2,r1,r2⟩:=hf.CT
  have dN:(do let d←Deferred.ofValue (.func (.func g) a1 a2) xs;invoke d.target d.args:Sem Next).run P w=(callFunc g (a1++xs++a2)).run P w:=by
   simp only[Sem.run_bind,MT (P:=P) rfl,Result.andThen_ok]
   rfl
  rw[dN]
  refine adW dV bO h (.fn g) (by simp[l1,l2,hl]) (fun i hi=>?_) hc hK
  rw[B4,B4]
  simp only[cG]at hi
  by_cases h1:i<first.length
  ·rw[aj (by simp;omega),aj (by omega)]
   have e:(first++args++caps)[i]=first[i]:=by
    rw[wJ (by simp;omega),wJ h1]
   rw[e]
   exact .cl (r1 i h1)
  ·by_cases h2:i<first.length+args.length
   ·rw[aj (by simp;omega),ak (by omega)]
    have e:(first++args++caps)[i]=args[i-first.length]'(by omega):=by
     rw[wJ (by simp;omega),wK (by omega)]
    rw[e,l1]
    exact hR _ _
   ·rw[ak (by simp;omega)]
    have e:(first++args++caps)[i]=caps[i-(first.length+args.length)]'(by omega):=by
     rw[wK (by simp;omega)]
     simp
    rw[e]
    have:(a1++xs).size=first.length+args.length:=by simp[l1,hl]
    rw[this]
    exact r2 _ _
 ·rename_i l
  obtain⟨r,rfl,nM,hr⟩:=hf.Sg
  have dN : (do let d ← Deferred.ofValue (.func (.yield r) #[] #[]) xs; invoke d.target d.args : Sem Next).run P w = (Instr.yield r xs).run P w := by
   simp only[Sem.run_bind,MT (P:=P) rfl,Result.andThen_ok]
   simp[invoke]
  rw[dN]
  exact adW dV bO h (.yield nM hr) hl hR hc hK
 ·cases hc
theorem ahi {call:bj} (fi:oA P B0 w0 call) {rd:Option Nat} {n:Nat} {f:FuncId} {args:List AV} {xs:Array Value} {x:AV} (h:At P B0 w0 G k nl s w) (aU:s.loops.length=nl)
  (hl:xs.size=args.length) (hR:∀i (hi:i<args.length),Rel G k nl args[i] (xs.getD i Go.undef)) (hc:eo call false s (.inl f) args=some (x,s'))
  {o:Oper} {a:Act} {K:Act→World→Prop} {Q:Exit→Act→World→Prop} (hK:∀z w',ek P B0 w0 G k nl s s' w' x z→K (a.put o.dst z) w'):
  o.uponIn (jn rd) n P a K Q ((callFunc f xs).run P w):=by
 have Cp:(jn rd).depth.isSome=true→1≤n:=by rw[Ld];intro h;cases h
 simp only[eo,ew,eu]at hc
 obtain⟨hb,fL⟩:=fi.inl G k nl s w f args xs x s' h aU hl hR hc
 rw[hb.run]
 simp only[Oper.uponIn_enter]
 refine⟨Cp,CallsIn.mono (Lc rd fL) fun e w' he=>?_⟩
 obtain⟨z,rfl,hz⟩:=he
 exact hK z w' (hz.step h rfl rfl rfl rfl)
theorem ahj {call:bj} (fi:oA P B0 w0 call) {rd:Option Nat} {n:Nat} {f:FuncId} {args:List AV} {xs:Array Value} {x:AV} (h:At P B0 w0 G k nl s w)
  (hl:xs.size=args.length) (hR:∀i (hi:i<args.length),Rel G k nl args[i] (xs.getD i Go.undef)) (hc:eo call true s (.nat f) args=some (x,s'))
  {o:Oper} {a:Act} {K:Act→World→Prop} {Q:Exit→Act→World→Prop} (hK:∀z w',ek P B0 w0 G k nl s s' w' x z→K (a.put o.dst z) w'):
  o.uponIn (jn rd) n P a K Q ((callFunc f xs).run P w):=by
 simp only[eo,cI]at hc
 obtain⟨⟨y,s2⟩,mm,e⟩:=aZ.1 hc
 injection e with e1 e2
 simp only at e1
 subst e1 e2
 obtain⟨_,z,hz,hr⟩:=fi.nat G.I _ w f args xs y s2 hl (fun i hi c hc=>(hR i hi).close hc) mm
 rw[hz,Oper.uponIn_value]
 exact hK z w (.same h hr.rel)
theorem ahm {call:bj} (dV:mL P B0 w0 call) (bO:jl call) {rd:Option Nat} {n:Nat} {f:FuncId} {args:List AV} {xs:Array Value} {x:AV} (h:At P B0 w0 G k nl s w)
  (hl:xs.size=args.length) (hR:∀i (hi:i<args.length),Rel G k nl args[i] (xs.getD i Go.undef)) (hc:nA call s f args=some (x,s'))
  {o:Oper} {a:Act} {K:Act→World→Prop} {Q:Exit→Act→World→Prop} (hK:∀z w',ek P B0 w0 G k nl s s' w' x z→K (a.put o.dst z) w'):
  o.uponIn (jn rd) n P a K Q ((callFunc f xs).run P w):=by
 have Cp:(jn rd).depth.isSome=true→1≤n:=by rw[Ld];intro h;cases h
 have hp:=Tr h.rel
 have hlen:=h.len
 have anr:=G.M3 s.loops.length
 obtain⟨y,s2,aQ⟩:∃y s2,call (.fn f) args {s.push ⟨[],[]⟩with ro:=s.ag.length,cq:=s.loops.length}=some (y,s2):=by
  unfold nA at hc
  split at hc
  ·exact⟨_,_,by assumption⟩
  ·exact⟨_,_,by assumption⟩
  ·cases hc
 have jq:cQ P B0 w0 (G.kK s.loops.length) {s.push ⟨[],[]⟩with ro:=s.ag.length,cq:=s.loops.length} w:=hp.rel.of_eq rfl rfl
 have fC:({s.push ⟨[],[]⟩with ro:=s.ag.length,cq:=s.loops.length}:ae).ag.length=k+2:=by simp[ae.push,hlen]
 obtain⟨hb,fL⟩:=dV.fn (G.kK s.loops.length) (k+1) s.loops.length _ w f args xs y s2 jq (by rw[fC];exact aI _) (by rw[fC];exact tz _) (aI _) hl
  (fun i hi=>(hR i hi).mono (anr _ _) (tz _) h.sW) aQ
 obtain⟨f1,f2,_,_,f3,f4⟩:=bO _ _ _ _ _ (by rw[fC,hlen];exact tz _) (aI _) aQ
 simp only at f1 f2 f3 f4
 have Hx:s2.loops=s.loops:=by
  refine NF f2 fun d h1 h2=>?_
  have:=f4 d h2
  rw[dq h1]at this
  have h3:(s.push ⟨[],[]⟩).loops[d]? =some s.loops[d]:=dq h2
  rw[h3]at this
  injection this
 have vE:s2.ag.length=k+2:=by rw[f1];simp[ae.push,hlen]
 have RI:s2.pop.ag=s.ag:=by
  refine mM fun d=>?_
  simp only[ae.pop,yX vE]
  by_cases hd:d<k+1
  ·rw[aj hd,f3 d (by rw[hlen];exact hd)]
   simp only[ae.push]
   rw[dG (by rw[hlen];exact hd)]
  ·rw[ak hd,lu (by rw[hlen];omega)]
 have lM:s2.cur=k+1:=by simp[ae.cur,vE]
 have ZZ:s.cur=k:=h.iQ
 have sK:∀q:ae,q.ag=s2.ag→q.j4 k=s.j4 k:=fun q hq=>by
  have:s2.ag[k]? =s.ag[k]? :=by
   rw[f3 k (by rw[hlen];exact Nat.lt_succ_self k)]
   simp only[ae.push]
   rw[dG (by rw[hlen];exact Nat.lt_succ_self k)]
  simp only[ae.j4,hq,this]
 obtain⟨s3,ho,vq,ZD⟩:∃s3,nZ {s2 with ro:=s.ro,cq:=s.cq} y=some (x,s3)∧s3.ag=s'.ag∧s3.loops=s'.loops:=by
  unfold nA at hc
  rw[aQ]at hc
  split at hc
  ·rename_i d g es ys s4 e
   injection e with e
   injection e with e1 e2
   subst e1 e2
   have gl:({s2 with ro:=s.ro,cq:=s.cq}:ae).cur=k+1:=lM
   split at hc
   ·rename_i cu
    obtain⟨c1,c2,c3,c4⟩:=cu
    injection hc with hc
    injection hc with Hg xO
    rw[hlen]at c1 c3
    subst c1
    refine⟨({s2 with ro:=s.ro,cq:=s.cq}:ae).pop.lB k ys.length,?_,?_,?_⟩
    ·simp only[nZ]
     rw[aj ⟨gl.symm,by omega,c3,c4⟩,←Hg,ZZ]
     have:=sK {s2 with ro:=s.ro,cq:=s.cq} rfl
     simp only[UK,this]
    ·rw[←xO,ZZ]
     have:({s2 with ro:=s.ro,cq:=s.cq}:ae).pop.ag=s.ag:=RI
     simp only[ae.lB,ae.bG,this]
    ·rw[←xO];exact Hx
   ·rename_i cu
    injection hc with hc
    injection hc with Hg xO
    refine⟨({s2 with ro:=s.ro,cq:=s.cq}:ae).pop,?_,?_,?_⟩
    ·simp only[nZ]
     rw[ak (fun q=>cu ⟨by rw[hlen,←gl];exact q.1,by rw[hlen];omega,by rw[hlen,←gl,←q.1];exact q.2.2.1,q.2.2.2⟩),Hg]
    ·rw[←xO];exact RI
    ·rw[←xO];exact Hx
  ·rename_i y' s4 kE e
   injection e with e
   injection e with e1 e2
   subst e1 e2
   obtain⟨v,hv,hc⟩:=aZ.1 hc
   injection hc with Hg xO
   subst Hg
   refine⟨({s2 with ro:=s.ro,cq:=s.cq}:ae).pop,?_,?_,?_⟩
   ·have dc:dL {s2 with ro:=s.ro,cq:=s.cq} y=dL s2 y:=ast
    unfold nZ
    split
    ·rename_i d g es ys
     exact absurd rfl (kE d g es ys)
    ·rw[dc,hv];rfl
   ·rw[←xO];exact RI
   ·rw[←xO];exact Hx
  ·rename_i e;cases e
 rw[hb.run]
 simp only[Oper.uponIn_enter]
 refine⟨Cp,CallsIn.mono (Lc rd fL) fun e w' he=>?_⟩
 obtain⟨z,rfl,G',RV,q1,q2,hle,hz⟩:=he
 refine hK z w' ?_
 have Rr:(G.kK s.loops.length).ag[k+1]? =some ⟨[],[],s.loops.length,[],fun _=>none⟩:=by
  have:G.ag.length=k+1:=by rw[h.rel.len,hlen]
  simp[aH.kK,this]
 obtain⟨bP,eC,fV,_⟩:=hle.ag (k+1) _ (tz _) Rr
 have hAt:At P B0 w0 G' (k+1) s.loops.length {s2 with ro:=s.ro,cq:=s.cq} w':=⟨RV.of_eq rfl rfl,vE,bP,eC,fV.nl⟩
 obtain⟨G2,b1,b2,b3,b4,b5,b6,b7⟩:=ab6 hAt (by show s2.loops.length=_;rw[Hx]) (kc:=k) (nlc:=nl) (aI _) hz ho
 have YY:bL (k+1) s.loops.length G G2:=by
  refine⟨fun b i v e=>b4 b i v (hle.I b i v e),fun d gr hd e=>?_,fun l r hl e=>b6 l r (hle.loops l r hl e)⟩
  have ua:d<k+1:=by
   have:=(bI.1 e).1
   rw[h.rel.len,hlen]at this;exact this
  have e':(G.kK s.loops.length).ag[d]? =some gr:=qg e
  obtain⟨g1,c1,c2,c3⟩:=hle.ag d gr (by omega) e'
  obtain⟨g2,c4,c5,c6⟩:=b5 d g1 (by omega) c1
  exact⟨g2,c4,c2.trans c5,fun _=>c6.trans (c3 (by omega))⟩
 have oO:cQ P B0 w0 G2 s' w':=b1.of_eq vq.symm ZD.symm
 exact⟨G2,h.to oO (YY.less (tz _) h.sW) (by rw[←vq,b2,hlen]),YY,by rw[←ZD,b3];exact gX List.length Hx,b7⟩
theorem Qy {call:bj} {ro:Bool} {m m':ae} {zs:List (List AV)} {t:Target} {args:List AV} {v:AV} (h:nD call ro m zs t args=some (v,m')):eo call ro m t args=some (v,m'):=by
 unfold nD at h
 split at h
 ·rename_i v' m2 e
  split at h
  ·injection h with h
   rw[e,h]
  ·cases h
 ·cases h
theorem ahR {ro own:Bool} {mu:Mu} {fr:Option (List (List AV))} {c:Call} {ki:cm} (h:BH P ro own mu fr c=some ki) (hn:js ki=true):∃as f,fE dT c.args.toList=some as∧c.callee=.value f∧
  ((∃g,f=.func g∧(ki=.call ro g as∨ki=.tK g as∨(∃zs,ki=.sg ro zs g as)∨ki=.ve g as∨ki=.xk g as))∨∃y,dT f=some y∧ki=.gW ro y as):=by
 unfold BH at h
 split at h
 ·cases h
 rename_i as has
 split at h
 ·rename_i g hg
  injection h with h
  refine⟨as,_,has,hg,.inl ⟨g,rfl,?_⟩⟩
  split at h
  ·exact .inr (.inr (.inr (.inr h.symm)))
  split at h
  ·exact .inr (.inr (.inr (.inl h.symm)))
  split at h
  ·exact .inr (.inl h.symm)
  ·split at h
   ·exact .inr (.inr (.inl ⟨_,h.symm⟩))
   ·exact .inl h.symm
 ·rename_i f hf Rd
  obtain⟨y,hy,rfl⟩:=aZ.1 h
  exact⟨as,_,has,Rd,.inr ⟨y,hy,rfl⟩⟩
 ·cases h
 ·split at h
  ·split at h
   ·split at h
    ·split at h
     ·injection h with h;subst h;by_cases hg:mu.grow=true
      ·rw[aj hg]at hn
       split at hn<;>simp[js]at hn
      ·rw[ak hg]at hn;simp[js]at hn
     ·cases h
    ·cases h
   ·cases h
  ·split at h<;>first|(cases h;done)|(injection h with h;subst h;simp[js]at hn)
  ·split at h
   ·split at h<;>first|(cases h;done)|(injection h with h;subst h;simp[js]at hn)
   ·cases h
  ·injection h with h;subst h;simp[js]at hn
  ·injection h with h;subst h;simp[js]at hn
  ·cases h
theorem ahS {md:Md} {op:Op} {ki:cm} (h:gN P md op=some ki) (hn:js ki=true):∃c,op=.call c∧BH P md.ro md.own md.mu md.fr c=some ki:=by
  cases op with
  |call c=>exact⟨c,rfl,h⟩
  |move x=>obtain⟨y,_,rfl⟩:=aZ.1 h;simp[js]at hn
  |assign x=>obtain⟨y,_,rfl⟩:=aZ.1 h;simp[js]at hn
  | alloc x =>
    simp only[gN]at h
    split at h<;>(obtain⟨y,_,rfl⟩:=aZ.1 h;simp[js]at hn)
  |nilCheck x=>obtain⟨y,_,rfl⟩:=aZ.1 h;simp[js]at hn
  |unOp _ _ x=>obtain⟨y,_,rfl⟩:=aZ.1 h;simp[js]at hn
  |extract x _=>obtain⟨y,_,rfl⟩:=aZ.1 h;simp[js]at hn
  | binOp op t x y yt =>
    obtain⟨_,_,_,_,hq⟩:=Xk h
    rcases hq with rfl|⟨_,_,_,_,_,_,_,rfl⟩<;>simp[js]at hn
  | convert src dst x =>
    simp only[gN]at h
    obtain⟨y,_,h⟩:=dS.1 h
    unfold GC at h
    repeat' split at h
    all_goals first|(cases h;done)|(injection h with h;subst h;simp[js]at hn)
  | makeFunc fn a b =>
    cases fn<;>simp only[gN]at h<;>first|(cases h;done)|skip
    split at h
    · injection h with h;subst h;simp[js]at hn
    · cases h
  | _ =>
    simp only[gN]at h
    first
      |(cases h;done)
      | (repeat' split at h
         all_goals first
          |(cases h;done)
          |(injection h with h;subst h;simp[js]at hn;done)
          |(obtain⟨_,_,rfl⟩:=aZ.1 h;simp[js]at hn))
noncomputable def rO (call:bj) (o:bt) (st:St):Option St:=
 if kO st.tmps o.guard then
  match aO call (aD st.tmps) st.sig o.op with
  |some (x,m)=>some ⟨kL st.tmps o.dst x,m⟩
  |none=>none
 else some ⟨kL st.tmps o.dst AV.undef,st.sig⟩
theorem S7 (call:bj) (o:bt) (r:List bt) (st:St):ops call (o::r) st=(rO call o st).bind (ops call r):=by
 simp only[ops,rO]
 split
 ·split
  ·rename_i h
   simp[h]
  ·rename_i h
   simp[h]
 ·rfl
theorem abP {call:bj} (dV:mL P B0 w0 call) (fi:oA P B0 w0 call) (bO:jl call) {rd:Option Nat} {n:Nat} {md:Md} {all:List Oper} {o:Oper} {ao:bt} {st aM:St} {a:Act} (h:At P B0 w0 G k nl st.sig w) (aU:st.sig.loops.length=nl) (hR:eM G k nl st.tmps a)
  (hg:BI all o.guard=some ao.guard) (bU:gN P md o.op=some ao.op) (LV:ao.dst=o.dst) (hd:∀t,ao.dst=some t→t<a.tmps.size) (hs:rO call ao st=some aM)
  {K:Act→World→Prop} {Q:Exit→Act→World→Prop} (hK:∀a' w',rZ P B0 w0 G k nl st.sig a aM a' w'→K a' w'):
  if Region.wanted o (yielded all.toArray a.tmps)then o.wpIn (jn rd) n P a w K Q else(∀f,o.about P w a.eval=some f→(jn rd).fn f)∧K (a.put o.dst Go.undef) w:=by
 rw[ayZ hg hR]
 unfold rO at hs
 cases hw:kO st.tmps ao.guard with
 |false=>
  rw[hw]at hs
  simp only[ew,eu,fI]at hs⊢
  subst hs
  refine⟨fun f _=>Qz rd f,hK _ _ ?_⟩
  rw[←LV]
  exact(ek.same h .undef).post h hR hd
 | true =>
  rw[hw]at hs
  simp only[cI]at hs⊢
  split at hs
  case h_2=>cases hs
  rename_i x m hv
  injection hs with hs
  subst hs
  refine⟨fun f _=>Qz rd f,?_⟩
  cases aQ:js ao.op with
  | false =>
   have CD:∀c,o.op≠.defer c:=fun c e=>by rw[e]at bU;simp[gN]at bU
   rw[Oper.semAt_eq _ _ _ CD]
   obtain⟨w',hq⟩:=auI h hR bU aQ hv
   rcases hq with⟨z,h1,h2⟩|⟨h1,h2⟩
   ·rw[h1,Oper.uponIn_value]
    refine hK _ _ ?_
    rw[←LV]
    exact h2.post h hR hd
   ·rw[h1,Oper.uponIn_skip]
    refine hK _ _ ?_
    rw[←LV]
    exact h2.post h hR hd
  | true =>
   obtain⟨c,hc,lL⟩:=ahS bU aQ
   obtain⟨as,f,has,Rd,hq⟩:=ahR lL aQ
   have qn:=Vq has hR
   have anN:o.semAt (jn rd).round a.eval=(do let d←Deferred.ofValue (a.eval f) (c.args.map a.eval);invoke d.target d.args):=by
    rw[Oper.semAt_eq _ _ _ (fun c' e=>by rw[hc]at e;cases e)]
    unfold execOp
    rw[hc]
    simp only[resolve,Rd]
   rw[anN]
   have Cc:∀z w',ek P B0 w0 G k nl st.sig m w' x z→K (a.put o.dst z) w':=fun z w' bu=>by
    refine hK _ _ ?_
    rw[←LV]
    exact bu.post h hR hd
   have rj:(c.args.map a.eval).size=(as.map (aD st.tmps)).length∧∀i (hi:i<(as.map (aD st.tmps)).length),Rel G k nl (as.map (aD st.tmps))[i] ((c.args.map a.eval).getD i Go.undef):=by
    simpa using qn
   have RQ:∀g,(do let d←Deferred.ofValue (a.eval (.func g)) (c.args.map a.eval);invoke d.target d.args:Sem Next).run P w=(callFunc g (c.args.map a.eval)).run P w:=fun g=>by
    have e1 : a.eval (.func g) = .func (.func g) #[] #[] := rfl
    rw[e1]
    simp only[Sem.run_bind,MT (P:=P) rfl,Result.andThen_ok]
    simp[invoke]
   rcases hq with⟨g,rfl,e|e|⟨zs,e⟩|e|e⟩|⟨y,hy,e⟩
   ·rw[e]at hv
    simp only[aO]at hv
    have rA:nB call md.ro st.sig (.fn g [] []) (as.map (aD st.tmps))=some (x,m):=by
     simpa[nB]using hv
    exact P9 dV bO h (.cl (.fn rfl rfl (fun i hi=>absurd hi (dH _)) (fun i hi=>absurd hi (dH _)))) rj.1 rj.2 rA Cc
   ·rw[e]at hv
    simp only[aO]at hv
    rw[RQ]
    exact ahm dV bO h rj.1 rj.2 hv Cc
   ·rw[e]at hv
    simp only[aO]at hv
    have rA:nB call md.ro st.sig (.fn g [] []) (as.map (aD st.tmps))=some (x,m):=by
     simpa[nB]using Qy hv
    exact P9 dV bO h (.cl (.fn rfl rfl (fun i hi=>absurd hi (dH _)) (fun i hi=>absurd hi (dH _)))) rj.1 rj.2 rA Cc
   ·rw[e]at hv
    simp only[aO]at hv
    rw[RQ]
    exact ahi fi h aU rj.1 rj.2 hv Cc
   ·rw[e]at hv
    simp only[aO]at hv
    rw[RQ]
    exact ahj fi h rj.1 rj.2 hv Cc
   ·rw[e]at hv
    exact P9 dV bO h (dm hy hR) rj.1 rj.2 hv Cc
end
end Go.Ax
/-
  A region in its own order, and one whose order is drawn.
-/
namespace Go.Ax
open Go.RowKit
section
variable{P:Program} {B0:Nat} {w0:World} {G:aH} {k nl:Nat} {w:World} {s:ae}
theorem rZ.trans {a a1 a2:Act} {cZ wx:St} {w1 w2:World} (h:rZ P B0 w0 G k nl s a cZ a1 w1)
  (h':∀G',At P B0 w0 G' k nl cZ.sig w1→eM G' k nl cZ.tmps a1→rZ P B0 w0 G' k nl cZ.sig a1 wx a2 w2):rZ P B0 w0 G k nl s a wx a2 w2:=by
 obtain⟨G1,h1,h2,h3,h4,h5,h6⟩:=h
 obtain⟨G2,g1,g2,g3,g4,g5,g6⟩:=h' G1 h1 h4
 rw[h3]at g2 g3
 exact⟨G2,g1,h2.trans g2,g3,g4,g5.trans h5,g6.trans h6⟩
theorem abW {call:bj} (dV:mL P B0 w0 call) (fi:oA P B0 w0 call) (bO:jl call) {rd:Option Nat} {n:Nat} {all:List Oper} {md:Nat→Md} {Q:Exit→Act→World→Prop}:∀(l:List Oper) (i:Nat) (al:List bt) (G:aH) (st aM:St) (a:Act) (w:World),
  oE P all md i l=some al→At P B0 w0 G k nl st.sig w→st.sig.loops.length=nl→eM G k nl st.tmps a→(∀o,o∈al→∀t,o.dst=some t→t<a.tmps.size)→ops call al st=some aM→
  (∀a' w',rZ P B0 w0 G k nl st.sig a aM a' w'→Q .normal a' w')→wpListIn (jn rd) n P all.toArray Q l a w
 |[],i,al,G,st,aM,a,w,hc,h,aU,hR,hd,hs,hQ=>by
  simp only[oE]at hc
  injection hc with hc
  subst hc
  simp only[ops]at hs
  injection hs with hs
  subst hs
  exact hQ a w ⟨G,h,.refl _ _ _,rfl,hR,rfl,rfl⟩
 | o :: r, i, al, G, st, aM, a, w, hc, h, aU, hR, hd, hs, hQ => by
  simp only[oE]at hc
  split at hc
  ·rename_i g op rest e1 e2 e3
   injection hc with hc
   subst hc
   rw[S7]at hs
   obtain⟨cZ,jq,la⟩:=dS.1 hs
   unfold wpListIn
   refine abP dV fi bO h aU hR (ao:=⟨o.dst,g,op⟩) e1 e2 rfl (fun t ht=>hd _ (by simp) t ht) jq fun a1 w1 hp=>?_
   obtain⟨G1,g1,g2,g3,g4,g5,g6⟩:=hp
   refine abW dV fi bO r (i+1) rest G1 cZ aM a1 w1 e3 g1 (g3.trans aU) g4 (fun o' ho t ht=>by rw[g5];exact hd o' (by simp[ho]) t ht) la fun a' w' CJ=>hQ a' w' ?_
   obtain⟨G2,q1,q2,q3,q4,q5,q6⟩:=CJ
   rw[g3]at q2 q3
   exact⟨G2,q1,g2.trans q2,q3,q4,q5.trans g5,q6.trans g6⟩
  ·cases hc
def uQ (m m':ae):Prop:=∀d b,m'.box d b=m.box d b
theorem uQ.load {m m':ae} (h:uQ m m') (agg:Bool) (n:Nat) (x:AV):m'.load agg n x=m.load agg n x:=by
 have:m'.row x=m.row x:=by cases x<;>simp[ae.row,h _ _]
 simp[ae.load,this]
def pZ (l:List Nat) (ρ ρ':Nat→AV):Prop:=∀t,t∈l→ρ t=ρ' t
theorem qb {x:aJ} {ρ ρ':Nat→AV} (h:pZ (lh x) ρ ρ'):aD ρ x=aD ρ' x:=by
 cases x with
 |tmp t=>exact h t (by simp[lh])
 |const c=>rfl
theorem ns {l l':List Nat} {ρ ρ':Nat→AV} (h:pZ (l++l') ρ ρ'):pZ l ρ ρ':=fun t ht=>h t (tu _ ht)
theorem qS {l l':List Nat} {ρ ρ':Nat→AV} (h:pZ (l++l') ρ ρ'):pZ l' ρ ρ':=fun t ht=>h t (I6 _ ht)
theorem Jk {xs:List aJ} {ρ ρ':Nat→AV} (h:pZ (xs.flatMap lh) ρ ρ'):xs.map (aD ρ)=xs.map (aD ρ'):=by
 induction xs with
 |nil=>rfl
 |cons x r ih=>
  simp only[IX]at h
  simp only[fR]
  rw[qb (ns h),ih (qS h)]
theorem Od {x:Option aJ} {ρ ρ':Nat→AV} (h:pZ (M5 x) ρ ρ'):qY (aD ρ) x=qY (aD ρ') x:=by
 cases x with
 |none=>rfl
 |some x=>simp only[qY];rw[qb h]
theorem afi {ps:List (Nat×Nat×aJ)} {ρ ρ':Nat→AV} (h:pZ (ps.flatMap fun p=>lh p.2.2) ρ ρ') (cs:List AV):nz cs (aD ρ) ps=nz cs (aD ρ') ps:=by
 induction ps generalizing cs with
 |nil=>rfl
 |cons p r ih=>
  obtain⟨o,z,x⟩:=p
  simp only[IX]at h
  simp only[nz]
  rw[qb (ns h)]
  split
  ·exact ih (qS h) _
  ·rfl
theorem afj {ps:List (Nat×aJ)} {ρ ρ':Nat→AV} (h:pZ (ps.flatMap fun p=>lh p.2) ρ ρ') (rs:List (List AV)):mP rs (aD ρ) ps=mP rs (aD ρ') ps:=by
 induction ps generalizing rs with
 |nil=>rfl
 | cons p r ih =>
  obtain⟨o,x⟩:=p
  simp only[IX]at h
  simp only[mP]
  rw[qb (ns h)]
  split
  ·split
   ·exact ih (qS h) _
   ·rfl
  ·rfl
theorem atZ {call:bj} {op:cm} {ρ ρ':Nat→AV} (h:pZ (M4 op) ρ ρ') (m:ae):aO call (aD ρ) m op=aO call (aD ρ') m op:=by
 cases op<;>simp only[M4]at h<;>simp only[aO]<;>first
  |rfl
  |(rw[qb h];done)
  |(exact gX (yP m _ _) (qb (x:=.tmp _) h))
  |(rw[qb (ns h),qb (qS h)];done)
  |(rw[qb (ns (ns h)),qb (qS (ns h)),qb (qS h)];done)
  |(rw[afi h];done)
  |(rw[afj h];done)
  |(rw[Jk h];done)
  |(rw[Jk (ns h),Jk (qS h)];done)
  |(rw[qb (ns h),Jk (qS h)];done)
  |(rw[qb (ns (ns (ns h))),Od (qS (ns (ns h))),Od (qS (ns h)),Od (qS h)];done)
theorem auE {call:bj} {op:cm} (h:cV op=.pure):∃f:(aJ→AV)→Option AV,∀ρ m,aO call ρ m op=(f ρ).map (·,m):=by
 cases op<;>simp only[cV]at h<;>first
  |(cases h;done)
  |(split at h<;>cases h;done)
  |exact⟨_,fun ρ m=>rfl⟩
  |skip
 case move x=>exact⟨fun ρ=>some (ρ x),fun _ _=>rfl⟩
 case build zs ps=>exact⟨fun ρ=>(nz zs ρ ps).map .agg,fun ρ m=>by simp only[aO,UX];rfl⟩
 case buildSlice es rs ps=>exact⟨fun ρ=>(mP rs ρ ps).map (.slice .full es),fun ρ m=>by simp only[aO,UX];rfl⟩
 case eqv neg kd x y=>exact⟨fun ρ=>(pg kd (ρ x) (ρ y)).map fun t=>.v (.bool (if neg then !t else t)),fun ρ m=>by simp only[aO,UX];rfl⟩
 case mC f a b=>exact⟨fun ρ=>if(a.map ρ).all AV.vS then some (.fn f (a.map ρ) (b.map ρ))else none,fun ρ m=>by simp only[aO];split<;>rfl⟩
 case CW n=>exact⟨fun _=>some (AV.int n),fun _ _=>rfl⟩
theorem KK {m:ae} {d:Nat} {f:Rec→Rec} (hf:∀r,(f r).boxes=r.boxes):uQ m (m.bG d f):=fun d' b=>by
 simp only[ae.box,ae.bG,eE]
 by_cases h:d=d'
 ·subst h
  rw[aj rfl]
  cases m.ag[d]? with
  |none=>rfl
  |some r=>simp[hf]
 ·rw[ak h]
theorem auH {call:bj} {op:cm} (h:cV op=.soft) {ρ:aJ→AV} {m m':ae} {x:AV} (ho:aO call ρ m op=some (x,m')):uQ m m':=by
 cases op<;>simp only[cV]at h<;>first|(cases h;done)|skip
 case call ro f as=>
  cases ro
  ·cases h
  ·simp only[aO,eo,cI]at ho
   obtain⟨p,_,ho⟩:=aZ.1 ho
   injection ho with _ ho
   subst ho
   exact fun _ _=>rfl
 case xk f as=>
  simp only[aO,eo,cI]at ho
  obtain⟨p,_,ho⟩:=aZ.1 ho
  injection ho with _ ho
  subst ho
  exact fun _ _=>rfl
 case gW ro f as=>
  cases ro
  ·cases h
  ·simp only[aO,nB]at ho
   split at ho
   ·simp only[eo,cI]at ho
    obtain⟨p,_,ho⟩:=aZ.1 ho
    injection ho with _ ho
    subst ho
    exact fun _ _=>rfl
   ·simp only[eo,cI]at ho
    obtain⟨p,_,ho⟩:=aZ.1 ho
    injection ho with _ ho
    subst ho
    exact fun _ _=>rfl
   ·cases ho
 case tK f as=>
  simp only[aO,nA]at ho
  split at ho
  ·split at ho
   ·injection ho with ho
    injection ho with _ ho
    subst ho
    exact KK fun r=>rfl
   ·injection ho with ho
    injection ho with _ ho
    subst ho
    exact fun _ _=>rfl
  ·obtain⟨_,_,ho⟩:=aZ.1 ho
   injection ho with _ ho
   subst ho
   exact fun _ _=>rfl
  ·cases ho
 case append es a b =>
  simp only[aO,et]at ho
  split at ho
  ·split at ho
   ·injection ho with ho
    injection ho with _ ho
    subst ho
    exact fun _ _=>rfl
   ·split at ho
    ·split at ho
     ·injection ho with ho
      injection ho with _ ho
      subst ho
      exact KK fun r=>rfl
     ·injection ho with ho
      injection ho with _ ho
      subst ho
      exact KK fun r=>rfl
     ·split at ho
      ·injection ho with ho
       injection ho with _ ho
       subst ho
       exact KK fun r=>rfl
      ·cases ho
     ·cases ho
    ·cases ho
  ·cases ho
theorem Ta {call:bj} {op:cm} (h:cV op=.load) {ρ:aJ→AV} {m m':ae} (hs:uQ m m'):∃r:Option AV,aO call ρ m op=r.map (·,m)∧aO call ρ m' op=r.map (·,m'):=by
 cases op<;>simp only[cV]at h<;>first|(cases h;done)|(split at h<;>cases h;done)|skip
 case load agg n x=>exact⟨m.load agg n (ρ x),rfl,by simp only[aO];rw[hs.load]⟩
def uK (m m':ae):Prop:=∀d b cs,m.box d b=some cs→∃cs',m'.box d b=some cs'∧(cs'=cs∨cs=[])
theorem uK.eG (m:ae) (cs:List AV):uK m (m.eG cs).2:=fun d b ds h=>by
 refine⟨ds,?_,.inl rfl⟩
 simp only[ae.box,ae.eG,ae.tF,ae.bG,eE]at h⊢
 by_cases hd:m.cur=d
 ·subst hd
  rw[aj rfl]
  cases hr:m.ag[m.cur]? with
  |none=>rw[hr]at h;cases h
  |some r=>
   rw[hr]at h
   exact qg h
 ·rw[ak hd]
  exact h
theorem BN (m:ae) (d b:Nat) (cs:List AV):(m.dQ d b cs).cur=m.cur:=by simp[ae.cur,ae.dQ,ae.bG]
theorem KJ (m:ae) (d b:Nat) (cs:List AV) (d' b':Nat):(m.dQ d b cs).box d' b'=if d=d'∧b=b' then(m.box d' b').map fun _=>cs else m.box d' b':=by
 simp only[ae.box,ae.dQ,ae.bG,eE]
 by_cases hd:d=d'
 ·subst hd
  rw[aj rfl]
  cases m.ag[d]? with
  |none=>simp
  | some r =>
   simp only[dJ,dI,qP]
   by_cases hb:b=b'
   ·subst hb
    simp only[IH,aj]
    by_cases aB:b<r.boxes.length
    ·simp[aB]
    ·simp[aB,lu (Jb aB)]
   ·simp[hb]
 ·simp[hd]
theorem MP (m:ae) (d b:Nat) (cs:List AV) (d':Nat):(m.dQ d b cs).cE d'=m.cE d':=by
 simp only[ae.cE,ae.dQ,ae.bG,eE]
 by_cases hd:d=d'
 ·subst hd
  rw[aj rfl]
  cases m.ag[d]? <;>simp
 ·simp[hd]
theorem axt (m:ae) (d b:Nat) (cs:List AV) (b':Nat) (cs':List AV) (hb:b≠b'):(m.dQ d b cs).dQ d b' cs'=(m.dQ d b' cs').dQ d b cs:=by
 simp only[ae.dQ,ae.bG]
 congr 1
 refine mM fun i=>?_
 simp only[eE]
 by_cases hd:d=i
 ·subst hd
  simp only[aj]
  cases m.ag[d]? with
  |none=>rfl
  |some r=>
   simp only[dJ,fI]
   congr 1
   exact List.set_comm _ _ hb
 ·simp[hd]
theorem Iz {m m':ae} {back:Nat} {zs:List AV} {v:AV} (h:mJ m back zs=some (v,m')):
  m.box m.cur (m.cE m.cur-back)=some []∧(zs.isEmpty=false∧m.lZ m.cur=false)∧v=.ptr m.cur (m.cE m.cur-back) 0∧m'=m.dQ m.cur (m.cE m.cur-back) zs:=by
 unfold mJ at h
 split at h
 ·rename_i hb
  split at h
  ·cases h
  ·rename_i hz
   injection h with h
   injection h with h1 h2
   refine⟨hb,⟨?_,by cases e:m.lZ m.cur with|true=>exact absurd (.inr e) hz|false=>rfl⟩,h1.symm,h2.symm⟩
   cases he:zs.isEmpty with
   |false=>rfl
   |true=>exact absurd (.inl he) hz
 ·cases h
theorem TO {m:ae} {back:Nat} {zs:List AV} (h1:m.box m.cur (m.cE m.cur-back)=some []) (h2:zs.isEmpty=false∧m.lZ m.cur=false):
  mJ m back zs=some (.ptr m.cur (m.cE m.cur-back) 0,m.dQ m.cur (m.cE m.cur-back) zs):=by
 unfold mJ
 rw[h1]
 simp[h2.1,h2.2]
theorem abC (m:ae) (d b:Nat) (cs:List AV) (d':Nat):(m.dQ d b cs).lZ d'=m.lZ d':=by
 simp only[ae.lZ,ae.dQ,ae.bG,wG]
 by_cases h:d=d'
 ·subst h
  cases m.ag[d]? <;>simp
 ·simp[h]
theorem axU {m m1 m2:ae} {b1 b2:Nat} {z1 z2:List AV} {v u:AV} (h1:mJ m b1 z1=some (v,m1)) (h2:mJ m1 b2 z2=some (u,m2)):
  ∃dO,mJ m b2 z2=some (u,dO)∧mJ dO b1 z1=some (v,m2):=by
 obtain⟨a1,a2,rfl,rfl⟩:=Iz h1
 obtain⟨c1,c2,rfl,rfl⟩:=Iz h2
 simp only[BN,MP]at c1⊢
 rw[BN,abC]at c2
 have aF:m.cE m.cur-b1≠m.cE m.cur-b2:=fun e=>by
  rw[KJ,aj ⟨rfl,e⟩,←e,a1]at c1
  simp only[dJ,fI]at c1
  rw[c1]at a2
  exact absurd a2.1 (by decide)
 have c1':m.box m.cur (m.cE m.cur-b2)=some []:=by
  rw[KJ,ak (fun e=>aF e.2)]at c1
  exact c1
 refine⟨_,TO c1' c2,?_⟩
 have:=TO (m:=m.dQ m.cur (m.cE m.cur-b2) z2) (back:=b1) (zs:=z1) (by
  simp only[BN,MP]
  rw[KJ,ak (fun e=>aF e.2.symm)]
  exact a1) (by rw[BN,abC];exact a2)
 rw[this]
 simp only[BN,MP]
 rw[axt _ _ _ _ _ _ (qQ aF)]
def rS (m m':ae):Prop:=m'=m∨∃cs,cs≠[]∧m'=(m.eG cs).2
theorem abY {call:bj} {op:cm} (h:cV op=.fresh) {ρ:aJ→AV} {m m':ae} {x:AV} (ho:aO call ρ m op=some (x,m')):rS m m':=by
 cases op<;>simp only[cV]at h<;>first|(cases h;done)|(split at h<;>cases h;done)|skip
 case alloc zs=>
  simp only[aO]at ho
  split at ho
  ·cases ho
  rename_i hz
  simp only[fI]at ho
  exact .inr ⟨zs,fun e=>hz (by rw[e];rfl),by rw[ho]⟩
 case box n y=>
  simp only[aO,yM]at ho
  split at ho
  ·rename_i hc
   injection ho with ho
   exact .inr ⟨(ρ y).cells,fun e=>by have h1:=hc.1;have h2:=hc.2.2;rw[e]at h1;simp at h1;omega,by rw[ho]⟩
  ·cases ho
 case mkSlice es zs l c=>
  simp only[aO,yg]at ho
  obtain⟨_,_,ho⟩:=dS.1 ho
  obtain⟨_,_,ho⟩:=aZ.1 ho
  split at ho
  ·injection ho with _ ho
   exact .inl ho.symm
  ·rename_i hz
   injection ho with _ ho
   exact .inr ⟨_,fun e=>hz (by rw[e];rfl),ho.symm⟩
 case wY es a b =>
  simp only[aO,yA]at ho
  split at ho
  ·rename_i o e1 xs o2 e2 ys lO kv
   split at ho
   ·cases ho
   rename_i hz
   split at ho
   ·rename_i cu
    obtain⟨rfl,_,_,_,ZH,_⟩:=cu
    injection ho with ho
    injection ho with _ ho
    exact .inr ⟨_,fun e=>hz ⟨by rw[List.flatten_nil,gL,e];rfl,by cases ys with
     |nil=>simp at ZH
     |cons=>rfl⟩,ho.symm⟩
   rw[lO,kv]at ho
   simp only[mO]at ho
   split at ho
   ·simp only[fI,AF]at ho
    exact .inl ho.2.symm
   ·rename_i hy
    split at ho
    ·split at ho
     ·injection ho with ho
      injection ho with _ ho
      exact .inr ⟨_,fun e=>hz ⟨by rw[e];rfl,by simpa using hy⟩,ho.symm⟩
     ·cases ho
    ·cases ho
  ·cases ho
theorem auo {call:bj} {op:cm} (h:cV op=.fresh) {ρ:aJ→AV} {m m':ae} {x:AV} (ho:aO call ρ m op=some (x,m')):uK m m':=by
 rcases abY h ho with rfl|⟨cs,_,rfl⟩
 ·exact fun d b cs e=>⟨cs,e,.inl rfl⟩
 ·exact uK.eG m cs
theorem rS.dead {m m':ae} (h:rS m m') {b:Nat}:m'.yW b=m.yW b∧m'.cur=m.cur:=by
 rcases h with rfl|⟨cs,hc,rfl⟩
 ·exact⟨rfl,rfl⟩
 have lM:(m.eG cs).2.cur=m.cur:=by simp[ae.cur,ae.eG,ae.tF,ae.bG]
 refine⟨?_,lM⟩
 unfold ae.yW
 rw[lM]
 simp only[ae.eG,ae.tF,ae.bG,eE,cI]
 cases m.ag[m.cur]? with
 |none=>rfl
 | some r =>
  simp only[dJ,List.drop_append,tn]
  have:((List.drop (b+1-r.boxes.length) [cs]).any List.isEmpty)=false:=by
   cases b+1-r.boxes.length with
   |zero=>cases cs with
    |nil=>exact absurd rfl hc
    |cons=>rfl
   |succ k=>simp
  rw[this,uJ]
theorem rS.box {m m':ae} (h:rS m m') {d b:Nat} (hb:d=m.cur→m.yW b=true):m'.box d b=m.box d b:=by
 rcases h with rfl|⟨cs,hc,rfl⟩
 ·rfl
 simp only[ae.box,ae.eG,ae.tF,ae.bG,eE]
 by_cases hd:m.cur=d
 ·rw[aj hd]
  have hb:=hb hd.symm
  unfold ae.yW at hb
  rw[hd]at hb
  cases hq:m.ag[d]? with
  |none=>rfl
  | some r =>
   rw[hq]at hb
   simp only[dJ,dI]
   have aB:b<r.boxes.length:=by
    simp only[fc]at hb
    obtain⟨x,hx,_⟩:=hb
    have:=List.length_pos_of_mem hx
    rw[pU]at this
    omega
   exact dG aB
 ·rw[ak hd]
theorem rS.jM {m m':ae} (h:rS m m') (agg:Bool) (n:Nat) (x:AV):zN m' agg n x=zN m agg n x:=by
 unfold zN
 split
 ·rename_i d b off
  obtain⟨h1,h2⟩:=h.dead (b:=b)
  rw[h1,h2]
  split
  ·rfl
  ·rename_i hn
   simp only[ae.load,ae.row]
   rw[h.box (fun e=>by cases hq:m.yW b with|true=>rfl|false=>exact absurd ⟨e,hq⟩ hn)]
 ·rename_i hx
  simp only[ae.load]
  cases x<;>first|rfl|exact(hx _ _ _ rfl).elim
theorem Tb {call:bj} {op:cm} (h:cV op=.jM) {ρ:aJ→AV} {m m':ae} (hs:rS m m'):∃r:Option AV,aO call ρ m op=r.map (·,m)∧aO call ρ m' op=r.map (·,m'):=by
 cases op<;>simp only[cV]at h<;>first|(cases h;done)|(split at h<;>cases h;done)|skip
 case jM agg n x=>exact⟨zN m agg n (ρ x),rfl,by simp only[aO];rw[hs.jM]⟩
theorem Tc {call:bj} {op:cm} {back:Nat} (h:cV op=.slot back):∃zs,∀ρ m,aO call ρ m op=mJ m back zs:=by
 cases op<;>simp only[cV]at h<;>first|(cases h;done)|(split at h<;>cases h;done)|skip
 case slot back zs=>injection h with h;subst h;exact⟨zs,fun _ _=>rfl⟩
theorem S9 {call:bj} {op:cm} {back:Nat} (h:cV op=.fill back) {ρ:aJ→AV} {m m':ae} {v:AV} (ho:aO call ρ m op=some (v,m')):∃cs,m'=m.dQ m.cur (m.cE m.cur-back) cs:=by
 cases op<;>simp only[cV]at h<;>first|(cases h;done)|(split at h<;>cases h;done)|skip
 case fill b n x y =>
  injection h with h
  subst h
  simp only[aO]at ho
  obtain⟨m1,hm,ho⟩:=aZ.1 ho
  injection ho with _ ho
  subst ho
  unfold y5 at hm
  split at hm
  ·split at hm
   ·rename_i hc
    unfold ae.store at hm
    simp only[hc.1,cI]at hm
    split at hm
    ·split at hm
     ·cases hm
     ·split at hm
      ·injection hm with hm
       rw[hc.2.1]at hm
       exact⟨_,hm.symm⟩
      ·cases hm
    ·cases hm
   ·cases hm
  ·cases hm
theorem MX {call:bj} {op:cm} {res back:Nat} (h:cV op=.fW res) (hb:back≤res) {ρ:aJ→AV} {m:ae} (cs:List AV):
  ∃r:Option AV,aO call ρ m op=r.map (·,m)∧aO call ρ (m.dQ m.cur (m.cE m.cur-back) cs) op=r.map (·,m.dQ m.cur (m.cE m.cur-back) cs):=by
 cases op<;>simp only[cV]at h<;>first|(cases h;done)|(split at h<;>cases h;done)|skip
 case fW awC agg n x=>
  injection h with h
  subst h
  refine⟨yd m awC agg n (ρ x),rfl,?_⟩
  simp only[aO]
  congr 1
  unfold yd
  split
  ·rename_i d b off
   simp only[BN,MP]
   split
   ·rfl
   ·rename_i hn
    simp only[ae.load,ae.row]
    rw[KJ,ak (fun e=>hn ⟨e.1.symm,by have:=e.2;omega⟩)]
  ·rename_i hx
   simp only[ae.load]
   congr 1
   generalize ρ x=q at hx
   cases q<;>first|rfl|exact(hx _ _ _ rfl).elim
theorem au7 {agg:Bool} {n:Nat} {cs cs':List AV} {off:Nat} {v:AV} (hc:cs'=cs∨cs=[]) (h:part agg n cs off=some v):part agg n cs' off=some v:=by
 rcases hc with rfl|rfl
 ·exact h
 ·unfold part at h⊢
  split at h
  ·rename_i ha
   split at h
   ·rename_i hle
    simp only[jU]at hle
    have h0:off=0:=by omega
    have h1:n=0:=by omega
    subst h0 h1
    rw[aj ha,aj (by omega)]
    simpa using h
   ·cases h
  ·simp at h
theorem uK.load {m m':ae} (h:uK m m') {agg:Bool} {n:Nat} {x v:AV} (hl:m.load agg n x=some v):m'.load agg n x=some v:=by
  unfold ae.load at hl⊢
  obtain⟨p,hp,hl⟩:=dS.1 hl
  have : ∃ cs', m'.row x = some (cs', p.2) ∧ (cs' = p.1 ∨ p.1 = []) := by
    cases x<;>first
      |exact⟨p.1,hp,.inl rfl⟩
      | (simp only [ae.row] at hp ⊢
         obtain⟨cs,fL,rfl⟩:=aZ.1 hp
         obtain⟨cs',e1,e2⟩:=h _ _ _ fL
         exact⟨cs',by rw[e1];rfl,e2⟩)
  obtain⟨cs',e1,e2⟩:=this
  rw[e1]
  exact au7 e2 hl
theorem auu {call:bj} {op:cm} (h:cV op=.load) {ρ:aJ→AV} {m m1:ae} {v:AV} (ho:aO call ρ m op=some (v,m1)):m1=m∧∀m',uK m m'→aO call ρ m' op=some (v,m'):=by
 cases op<;>simp only[cV]at h<;>first|(cases h;done)|(split at h<;>cases h;done)|skip
 case load agg n x=>
  simp only[aO]at ho⊢
  obtain⟨q1,q2⟩:=ld ho
  simp only at q1 q2
  exact⟨by first|exact q2|exact q2.symm,fun m' hg=>by rw[hg.load q1];rfl⟩
end
end Go.Ax
