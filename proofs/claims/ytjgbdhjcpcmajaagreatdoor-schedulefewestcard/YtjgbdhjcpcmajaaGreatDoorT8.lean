/- A part of the proof. -/
import Derived.Test.YtjgbdhjcpcmajaaGreatDoorT7
import Derived.KernelRfl
set_option linter.unusedSimpArgs false
set_option linter.unusedVariables false
set_option maxRecDepth 100000
namespace Go.Ax.Sx.Sc
open Go.Ax
theorem afj {α:Type} {l:List α} {j s:Nat} {x:α} (h:l[j]? =some x):(l.take (j+1)).eraseIdx s=(l.take j).eraseIdx s++if j=s then[]else[x]:=by
 have hj:=(bd.1 h).1
 have hl:(l.take j).length=j:=by rw[fV];omega
 rw[fT h]
 by_cases h1:s<j
 ·rw[List.eraseIdx_append_of_lt_length (by omega),aq (by omega)]
 ·rw[List.eraseIdx_append_of_length_le (by omega),hl,List.eraseIdx_of_length_le (l:=l.take j) (by omega)]
  by_cases h2:j=s
  ·subst h2;simp
  ·rw[aq h2]
   obtain⟨d,hd⟩:∃d,s-j=d+1:=⟨s-j-1,by omega⟩
   rw[hd];rfl
theorem abm {w:W} {p:P} {l:List P}:(wo w p l).length≤l.length:=nN _ _
theorem abn {w:W} {p x:P} {l:List P} (h:x∈wo w p l):x∈l:=(eS.1 h).1
def kK (w:W) (p:P) (l:List (Sl P)):List (Sl P):=l.map fun x=>eC 3 (wo w p x.l)
theorem arM {w:W} {p:P} {l:List (Sl P)}:(kK w p l).map (·.l)=(l.map (·.l)).map (wo w p):=by
 simp[kK,kS,RX]
theorem Vw {α β:Type} {f:α→β}:∀{l:List α} {i:Nat},(l.map f).eraseIdx i=(l.eraseIdx i).map f
 |[],_=>rfl
 |a::l,0=>rfl
 |a::l,i+1=>by simp only[iM,List.eraseIdx_cons_succ,Vw (l:=l)]
section
variable{s:ae} {w:W}
theorem zT.rest {l:List (Sl P)} {i:Nat} {p:P} (h:zT w l):zT w (kK w p (l.eraseIdx i)):=by
 have hm:∀x∈l.eraseIdx i,x∈l:=fun x hx=>Sk hx
 refine⟨?_,fun y hy=>?_,fun y hy=>?_,fun y hy q hq=>?_⟩
 ·have:=abI l i
  have:=h.len
  simp[kK];omega
 all_goals
  obtain⟨x,hx,rfl⟩:=cC.1 hy
 ·exact x4
 ·rw[kS];exact kO abm (h.cnt x (hm x hx))
 ·rw[kS]at hq;exact h.iW x (hm x hx) q (abn hq)
theorem ats (hw:Wk w):∀(n:Nat) (s:ae) (l:List (Sl P)) (o:Own) (e:Nat),Ok s→l.length=n→(l=[]∨e=1)→zT w l→aw AP (.fn 90) [OW w,.slice o e (l.map jT)] s=some (B (fit w (l.map (·.l))),s):=by
 intro n
 induction n with
 |zero=>
  intro s l o e hs hn he hl
  have:l=[]:=sU hn
  subst this
  rw[aL (show AP 90=some As from rfl) rfl]
  simp only[go_sem,M5,aP,simprocAttr]
  rfl
 | succ n P0 =>
  intro s l o e hs hn he hl
  have aB:l≠[]:=by intro h;rw[h]at hn;simp at hn
  have ns:e=1:=by rcases he with h|h;exact absurd h aB;exact h
  subst ns
  have hlen:=hl.len
  generalize hL:l.map (·.l)=L
  have JF:L.length=l.length:=by rw[←hL];simp
  have ahQ:L≠[]:=by intro h;rw[h]at JF;simp at JF;omega
  have ke:=Rt ahQ
  obtain⟨ys,kF⟩:=get_some (l:=l) (k:=fJ L) (by omega)
  have PV:=bQ kF
  have hyL:L.getD (fJ L) []=ys.l:=by rw[←hL]at*;exact getD_map kF
  have oj:=hl.cnt ys PV
  have hyp:=hl.iW ys PV
  have qS:=hl.ok ys PV
  have lS:fit w L=ys.l.any fun p=>pM w n ((L.eraseIdx (fJ L)).map (wo w p)):=by
   unfold fit
   rw[JF,hn,pM,hyL]
  rw[lS]
  have sE : ∀ (j : Nat) ρ x, j ≤ ys.l.length → (ρ 0 = OW w ∧ ρ 1 = .slice o 1 (l.map jT) ∧ ρ 5 = I (fJ L) ∧ ρ 36 = ys.v aj ∧ ρ 37 = I ys.l.length ∧ ρ 38 = I j ∧ ∃ bx tk, x = s.push ⟨bx, tk⟩) →
    go AP NY (.c (.loop Ds)::ant) ⟨ρ,x⟩=some (B ((ys.l.drop j).any fun p=>pM w n ((L.eraseIdx (fJ L)).map (wo w p))),s):=by
   refine ck ys.l.length _ _ ?_ ?_
   ·rintro j ρ x hj ⟨h0,h1,h5,mD,pQ,uQ,bx,tk,rfl⟩ ih
    obtain⟨p,hp⟩:=get_some hj
    have jE:=hyp p (bQ hp)
    have hr:=Sl.ix (f:=aj) qS hp
    have fQ:∀x:Sl P,kK w p [x]=[eC 3 (wo w p x.l)]:=fun _=>rfl
    have p8:∀(q:Nat) ρ x,q≤l.length→(ρ 0=OW w∧ρ 1=.slice o 1 (l.map jT)∧ρ 5=I (fJ L)∧ρ 9=.ptr s.ag.length bx.length 0∧ρ 36=ys.v aj∧ρ 37=I ys.l.length∧ρ 38=I j∧ρ 42=.slice o 1 (l.map jT)∧ρ 43=I l.length∧ρ 44=I q∧
      ∃og tk,Acc s.ag.length 1 ((kK w p ((l.take q).eraseIdx (fJ L))).map jT) (ρ 10) og tk∧x=s.push ⟨bx++[aj p],tk⟩)→
      go AP NY (.c (.loop Dt)::anu) ⟨ρ,x⟩=some (B ((ys.l.drop j).any fun p=>pM w n ((L.eraseIdx (fJ L)).map (wo w p))),s):=by
     refine ck l.length _ _ ?_ ?_
     ·rintro q ρ x hq ⟨h0,h1,h5,h9,mD,pQ,uQ,j5,lP,nW,og,tk,hA,rfl⟩ fI
      obtain⟨y,hy⟩:=get_some hq
      have Bx:=bQ hy
      have hr:=cq (f:=jT) (o:=o) (es:=1) hy
      have r8:=hl.cnt y Bx
      have nD:∀r,aw AP (.fn 89) [OW w,.slice y.o y.e (y.l.map aj),.agg (aj p)] (s.push r)=some (bG 3 ((wo w p y.l).map aj),s.push r):=fun r=>abk (hs.push r) hw (hl.ok y Bx).1 r8 (hl.iW y Bx) jE
      have aT:=Sl.close (f:=aj) (x4 (e:=3) (l:=wo w p y.l))
      have W5:=afj (s:=fJ L) hy
      have hle:(kK w p ((l.take q).eraseIdx (fJ L))).length≤12:=by
       have h1:=abI (l.take q) (fJ L)
       rw[fV]at h1
       simp[kK];omega
      by_cases XC:q=fJ L
      ·have hd:decide ((q:Int)=(fJ L:Int))=true:=bP (by omega)
       simp only[go_sem,Dt,h5,j5,lP,nW,aS hq,hr,aY,oI,hd,bK hq (show(l.length:Int)<_ by omega),simprocAttr]
       refine fI _ _ ?_
       refine⟨h0,h1,h5,h9,mD,pQ,uQ,j5,lP,rfl,og,tk,?_,rfl⟩
       rw[W5,ak XC,jd];exact hA
      ·have hd:decide ((q:Int)=(fJ L:Int))=false:=bS (by omega)
       obtain⟨x',gl,tk',cQ,eL,_⟩:=hA.append hs .full (ys:=[jT (eC 3 (wo w p y.l))]) (by simp) (by simp;omega)
       simp only[jT,uw,Sl.v]at cQ nD aT
       simp only[aj,Sl.v]at nD
       simp only[go_sem,Dt,h0,h5,h9,j5,lP,nW,aS hq,hr,aY,oI,hd,nD,aT,cQ,bK hq (show(l.length:Int)<_ by omega),simprocAttr]
       refine fI _ _ ?_
       refine⟨h0,h1,h5,h9,mD,pQ,uQ,j5,lP,rfl,gl,tk',?_,rfl⟩
       have:kK w p ((l.take q).eraseIdx (fJ L)++[y])=kK w p ((l.take q).eraseIdx (fJ L))++[eC 3 (wo w p y.l)]:=by simp[kK]
       rw[W5,aq XC,this,iL];exact eL
     ·rintro ρ x ⟨h0,h1,h5,h9,mD,pQ,uQ,j5,lP,nW,og,tk,hA,rfl⟩
      rw[jg]at hA
      have ajz:zT w (kK w p (l.eraseIdx (fJ L))):=hl.rest
      have w5:(kK w p (l.eraseIdx (fJ L))).length=n:=by
       simp only[kK,bY]
       rw[Ly (by omega)];omega
      obtain⟨o',e',hx,j6⟩:∃o' e',ρ 10=.slice o' e' ((kK w p (l.eraseIdx (fJ L))).map jT)∧(kK w p (l.eraseIdx (fJ L))=[]∨e'=1):=by
       cases og with
       |none=>obtain⟨h1,h2⟩:=hA;exact⟨_,_,by rw[h2,h1],.inl (by simpa using h1)⟩
       |some g=>exact⟨_,_,hA.2.1,.inr rfl⟩
      have xf:∀r,aw AP (.fn 90) [OW w,.slice o' e' ((kK w p (l.eraseIdx (fJ L))).map jT)] (s.push r)=some (B (pM w n ((L.eraseIdx (fJ L)).map (wo w p))),s.push r):=fun r=>by
       rw[P0 (s.push r) (kK w p (l.eraseIdx (fJ L))) o' e' (hs.push r) w5 j6 ajz,fit,arM,←hL,←Vw,bY,Ly (by rw[hL];omega),bY,hn]
       rfl
      rw[eP hp,oz]
      simp only[go_sem,Dt,M7,M6,h0,lP,nW,uQ,bM,hx,xf,simprocAttr]
      cases pM w n ((L.eraseIdx (fJ L)).map (wo w p))with
      |true=>simp only[go_sem,simprocAttr];rfl
      |false=>
       simp only[go_sem,bK hj (show(ys.l.length:Int)<_ by omega),simprocAttr]
       refine(ih _ _ ?_).trans (by simp)
       exact⟨h0,h1,h5,mD,pQ,rfl,_,_,rfl⟩
    simp only[go_sem,Ds,h1,mD,pQ,uQ,hs,aS hj,hr,simprocAttr]
    refine p8 0 _ _ (bg _) ?_
    exact⟨h0,h1,h5,rfl,mD,pQ,uQ,rfl,rfl,rfl,none,tk,by rw[show kK w p ((l.take 0).eraseIdx (fJ L))=[]by simp[kK]];exact Acc.start,rfl⟩
   ·rintro ρ x ⟨h0,h1,h5,mD,pQ,uQ,bx,tk,rfl⟩
    simp only[go_sem,Ds,II,pQ,uQ,bM,simprocAttr]
    rw[eR];rfl
  have ksh:∀(j:Nat) ρ x,j≤l.length→(ρ 0=OW w∧ρ 1=.slice o 1 (l.map jT)∧ρ 16=.slice o 1 (l.map jT)∧ρ 17=I l.length∧ρ 18=I j∧(∃b:Nat,ρ 5=I b∧b<l.length∧xC L (l.length-j) b=fJ L)∧x=s.push ⟨[],[]⟩)→
    go AP NY (.c (.loop Du)::anv) ⟨ρ,x⟩=some (B (ys.l.any fun p=>pM w n ((L.eraseIdx (fJ L)).map (wo w p))),s):=by
   refine ck l.length _ _ ?_ ?_
   ·rintro j ρ x hj ⟨h0,h1,nV,mA,fE,⟨b,h5,hb,tK⟩,rfl⟩ ih
    obtain⟨y,hy⟩:=get_some hj
    obtain⟨z,hz⟩:=get_some hb
    have hr:=cq (f:=jT) (o:=o) (es:=1) hy
    have gA:=cq (f:=jT) (o:=o) (es:=1) hz
    have jB:L.getD j []=y.l:=by rw[←hL];exact getD_map hy
    have hgz:L.getD b []=z.l:=by rw[←hL];exact getD_map hz
    have cp:xC L (l.length-j) b=xC L (l.length-(j+1)) (if y.l.length<z.l.length then j else b):=by
     obtain⟨d,hd⟩:∃d,l.length-j=d+1:=⟨l.length-j-1,by omega⟩
     rw[hd,xC]
     rw[show L.length-(d+1)=j by omega,jB,hgz,show l.length-(j+1)=d by omega]
    rw[cp]at tK
    by_cases aC:y.l.length<z.l.length
    ·have hd:decide ((y.l.length:Int)<(z.l.length:Int))=true:=bP (by omega)
     rw[ak aC]at tK
     simp only[go_sem,Du,h1,h5,nV,mA,fE,aS hj,hr,gA,hd,bK hj (show(l.length:Int)<_ by omega),simprocAttr]
     refine ih _ _ ?_
     exact⟨h0,h1,nV,mA,rfl,⟨j,rfl,hj,tK⟩,rfl⟩
    ·have hd:decide ((y.l.length:Int)<(z.l.length:Int))=false:=bS (by omega)
     rw[aq aC]at tK
     simp only[go_sem,Du,h1,h5,nV,mA,fE,aS hj,hr,gA,hd,bK hj (show(l.length:Int)<_ by omega),simprocAttr]
     refine ih _ _ ?_
     exact⟨h0,h1,nV,mA,rfl,⟨b,h5,hb,tK⟩,rfl⟩
   ·rintro ρ x ⟨h0,h1,nV,mA,fE,⟨b,h5,hb,tK⟩,rfl⟩
    rw[HI]at tK
    have Bh:b=fJ L:=tK
    subst Bh
    have hr:=cq (f:=jT) (o:=o) (es:=1) kF
    simp only[go_sem,Du,M8,h1,h5,mA,fE,bM,hr,simprocAttr]
    refine sE 0 _ _ (bg _) ?_
    exact⟨h0,h1,h5,rfl,rfl,rfl,[],[],rfl⟩
  have hd:decide ((l.length:Int)=0)=false:=bS (by omega)
  rw[aL (show AP 90=some As from rfl) rfl]
  simp only[go_sem,M5,hd,simprocAttr]
  refine ksh 0 _ _ (bg _) ?_
  exact⟨rfl,rfl,rfl,rfl,rfl,⟨0,rfl,by omega,by rw[SE,←JF];rfl⟩,rfl⟩
instance : Inhabited (Sl P×Bool):=⟨(⟨.aA,0,[]⟩,false)⟩
def ju (w:W) (plan:List P) (x:Sl P):Sl P:=plan.foldl (fun x p=>eC 3 (wo w p x.l)) x
def l6 (w:W) (all:List (Sl P×Bool)) (plan:List P) (l:List Int):List (Sl P):=(l.filter fun i=>(aM plan i).isNone).map fun i=>ju w plan (all.getD i.toNat default).1
def gO (w:W) (all:List (Sl P×Bool)) (plan:List P) (m:Nat):Bool:=fit w ((l6 w all plan (de m)).map (·.l))
theorem atD {plan:List P} {x:Sl P} {q:Nat} {p:P} (h:plan[q]? =some p):ju w (plan.take (q+1)) x=eC 3 (wo w p (ju w (plan.take q) x).l):=by
 rw[ju,fT h,Lv];rfl
theorem RN {x:Sl P} (hx:x.ok 3) (hc:x.l.length≤13000) (hp:∀p∈x.l,ch w p):∀{plan:List P},(ju w plan x).ok 3∧(ju w plan x).l.length≤13000∧∀p∈(ju w plan x).l,ch w p:=by
 intro plan
 induction plan generalizing x with
 |nil=>exact⟨hx,hc,hp⟩
 |cons a r ih=>exact ih (x:=eC 3 (wo w a x.l)) x4 (by rw[kS];exact kO abm hc) (fun p h=>by rw[kS]at h;exact hp p (abn h))
theorem apq {all:List (Sl P×Bool)} {plan:List P} {l:List Int} {j:Nat} {i:Int} (h:l[j]? =some i):l6 w all plan (l.take (j+1))=l6 w all plan (l.take j)++if(aM plan i).isSome=true then[]else[ju w plan (all.getD i.toNat default).1]:=by
 unfold l6
 rw[fT h,oA,iL]
 cases hp:aM plan i<;>simp[hp]
theorem sP.get {e:Nat} {all:List (Sl P×Bool)} (h:sP w e all) {i:Int} (h0:0≤i) (h1:i<w.rs.l.length):∃c,all[i.toNat]? =some c∧all.getD i.toNat default=c∧c∈all:=by
 have hl:=h.len
 obtain⟨c,hc⟩:=get_some (l:=all) (k:=i.toNat) (by omega)
 exact⟨c,hc,by simp[List.getD,hc],bQ hc⟩
theorem Uz {o o2:Own} {e e2:Nat} {all:List (Sl P×Bool)} {plan:List P} {m:Nat} (hs:Ok s) (hw:Wk w) (hY:sP w e all) (hm:m<2^w.rs.l.length) (hp:∀p∈plan,ch w p) (kC:plan=[]∨e2=3) (cD:plan.length≤14):
  aw AP (.fn 66) [CH w o e all,.slice o2 e2 (plan.map aj),I (m:Int)] s=some (B (gO w all plan m),s):=by
 have er:=hw.v.rl
 have qJ:m<2^62:=mZ hm (jh (by decide) (by omega))
 have bH:∀i∈de m,0≤i∧i<w.rs.l.length:=fun i hi=>BM hm hi
 have hml:=YR (m:=m)
 have ajE:∀j,(l6 w all plan ((de m).take j)).length≤62:=fun j=>by
  have:=nN (fun i=>(aM plan i).isNone) ((de m).take j)
  rw[fV]at this
  simp only[l6,bY];omega
 have avp:(de m).length≤12:=by
  have e:de m=pq m w.rs.l.length:=YQ (LF hm) (by omega)
  have:=Qt (m:=m) (n:=w.rs.l.length)
  rw[e];omega
 have hLs:zT w (l6 w all plan (de m)):=by
  refine⟨?_,?_,?_,?_⟩
  ·have:=nN (fun i=>(aM plan i).isNone) (de m)
   simp only[l6,bY];omega
  all_goals
   intro x hx
   obtain⟨i,hi,rfl⟩:=cC.1 hx
   have bD:=bH i (eS.1 hi).1
   obtain⟨c,dT,gg,mF⟩:=hY.get bD.1 bD.2
   rw[gg]
   have:=RN (w:=w) (hY.ok c mF) (hY.cnt c mF) (hY.iW c mF) (plan:=plan)
  ·exact this.1
  ·exact this.2.1
  ·exact this.2.2
 have sE : ∀ (j : Nat) ρ x, j ≤ (de m).length → (ρ 1 = .slice o2 e2 (plan.map aj) ∧ ρ 3 = .ptr s.ag.length 0 0 ∧ ρ 16 = bG 1 ((de m).map aD) ∧ ρ 17 = I (de m).length ∧ ρ 18 = I j ∧
   ∃og tk bx,Acc s.ag.length 1 ((l6 w all plan ((de m).take j)).map jT) (ρ 7) og tk∧x=s.push ⟨[OW w,.slice o e (all.map gm)]::bx,tk⟩)→go AP Vz (.c (.loop Aa)::amC) ⟨ρ,x⟩=some (B (gO w all plan m),s):=by
  refine ck (de m).length _ _ ?_ ?_
  ·rintro j ρ x hj ⟨h1,h3,nV,mA,fE,og,tk,bx,hA,rfl⟩ ih
   obtain⟨i,hi⟩:=get_some hj
   have yZ:=bH i (bQ hi)
   have hr:=Kx (es:=1) (xs:=(de m).map aD) (k:=j) (row:=aD i) (by rw[je,hi];rfl)
   obtain⟨c,dT,gg,mF⟩:=hY.get yZ.1 yZ.2
   have j6:e=2:=by rcases hY.e with h|h;(rw[h]at dT;simp at dT);exact h
   subst j6
   have kD:=cq (f:=gm) (o:=o) (es:=2) dT
   rw[show((i.toNat:Nat):Int)=i by omega]at kD
   have dI:∀r,aw AP (.fn 45) [.slice o2 e2 (plan.map aj),I i] (s.push r)=some (.tuple [.agg (aj ((aM plan i).getD bV)),B (aM plan i).isSome],s.push r):=fun r=>GV (hs.push r) kC (by omega) fun p h=>(hp p h).ok
   have Pj:=apq (w:=w) (all:=all) (plan:=plan) hi
   rw[gg]at Pj
   have XQ:=bK hj (show((de m).length:Int)<_ by omega)
   simp only[aj,Sl.v]at dI
   cases u9:(aM plan i).isSome with
   |true=>
    rw[u9]at dI
    simp only[go_sem,Aa,H2,h1,nV,mA,fE,hs,aS hj,hr,dI,XQ,simprocAttr]
    refine ih _ _ ?_
    refine⟨h1,h3,nV,mA,rfl,og,tk,_,?_,rfl⟩
    rw[Pj,u9,ak rfl,jd];exact hA
   | false =>
    rw[u9]at dI
    have p8:∀(q:Nat) ρ x,q≤plan.length→(ρ 1=.slice o2 e2 (plan.map aj)∧ρ 3=.ptr s.ag.length 0 0∧ρ 12=(ju w (plan.take q) c.1).v aj∧ρ 16=bG 1 ((de m).map aD)∧ρ 17=I (de m).length∧ρ 18=I j∧ρ 35=.slice o2 e2 (plan.map aj)∧ρ 36=I plan.length∧ρ 37=I q∧
      ∃og tk bx,Acc s.ag.length 1 ((l6 w all plan ((de m).take j)).map jT) (ρ 7) og tk∧x=s.push ⟨[OW w,.slice o 2 (all.map gm)]::bx,tk⟩)→go AP Vz (.c (.loop HZ)::amD) ⟨ρ,x⟩=some (B (gO w all plan m),s):=by
     refine ck plan.length _ _ ?_ ?_
     ·rintro q ρ x hq ⟨h1,h3,cG,nV,mA,fE,pP,mD,pQ,og,tk,bx,hA,rfl⟩ fI
      obtain⟨p,u7⟩:=get_some hq
      have jE:=hp p (bQ u7)
      have n6:e2=3:=by rcases kC with h|h;(rw[h]at u7;simp at u7);exact h
      subst n6
      have hr:=cq (f:=aj) (o:=o2) (es:=3) u7
      have cz:=RN (w:=w) (hY.ok c mF) (hY.cnt c mF) (hY.iW c mF) (plan:=plan.take q)
      have nD:∀r,aw AP (.fn 89) [OW w,(ju w (plan.take q) c.1).v aj,.agg (aj p)] (s.push r)=some (bG 3 ((wo w p (ju w (plan.take q) c.1).l).map aj),s.push r):=fun r=>abk (hs.push r) hw cz.1.1 cz.2.1 cz.2.2 jE
      simp only[aj]at nD
      simp only[go_sem,HZ,h3,cG,pP,mD,pQ,hs,aS hq,hr,nD,bK hq (show(plan.length:Int)<_ by omega),simprocAttr]
      refine fI _ _ ?_
      refine⟨h1,h3,?_,nV,mA,fE,pP,mD,rfl,og,tk,_,hA,rfl⟩
      rw[atD u7,←uw];rfl
     ·rintro ρ x ⟨h1,h3,cG,nV,mA,fE,pP,mD,pQ,og,tk,bx,hA,rfl⟩
      rw[jg]at cG
      have cz:=RN (w:=w) (hY.ok c mF) (hY.cnt c mF) (hY.iW c mF) (plan:=plan)
      have aT:=Sl.close (f:=aj) cz.1
      obtain⟨x',gl,tk',cQ,eL,_⟩:=hA.append hs .full (ys:=[jT (ju w plan c.1)]) (by simp) (by have:=ajE j;simp;omega)
      simp only[jT,Sl.v]at cQ cG aT
      simp only[go_sem,HZ,Mc,H2,cG,fE,mD,pQ,bM,aT,cQ,XQ,simprocAttr]
      refine ih _ _ ?_
      refine⟨h1,h3,nV,mA,rfl,gl,tk',_,?_,rfl⟩
      rw[Pj,u9,aq (by simp),iL];exact eL
    simp only[go_sem,Aa,h1,h3,nV,mA,fE,hs,aS hj,hr,dI,kD,simprocAttr]
    refine p8 0 _ _ (bg _) ?_
    exact⟨h1,h3,rfl,nV,mA,fE,rfl,rfl,rfl,og,tk,_,hA,rfl⟩
  ·rintro ρ x ⟨h1,h3,nV,mA,fE,og,tk,bx,hA,rfl⟩
   rw[jg]at hA
   obtain⟨o',e',hx,j6⟩:∃o' e',ρ 7=.slice o' e' ((l6 w all plan (de m)).map jT)∧(l6 w all plan (de m)=[]∨e'=1):=by
    cases og with
    |none=>obtain⟨h1,h2⟩:=hA;exact⟨_,_,by rw[h2,h1],.inl (by simpa using h1)⟩
    |some g=>exact⟨_,_,hA.2.1,.inr rfl⟩
   have xf:∀r,aw AP (.fn 90) [OW w,.slice o' e' ((l6 w all plan (de m)).map jT)] (s.push r)=some (B (gO w all plan m),s.push r):=fun r=>ats hw _ _ _ _ _ (hs.push r) rfl j6 hLs
   simp only[go_sem,Aa,H0,h3,mA,fE,bM,hx,xf,simprocAttr]
 have O8:∀r,aw AP (.fn 31) [I (m:Int)] (s.push r)=some (bG 1 ((de m).map aD),s.push r):=fun r=>Rm qJ (hs.push r)
 rw[aL (show AP 66=some DM from rfl) rfl]
 simp only[CH,OW]at sE⊢
 simp only[go_sem,Tl,O8,simprocAttr]
 refine sE 0 _ _ (bg _) ?_
 exact⟨rfl,rfl,rfl,rfl,rfl,none,[],[],Acc.start,rfl⟩
end
section
variable{s:ae} {w:W}
theorem KQ {Q:ae} {R r0:Rec} {g es:Nat} {xs:List (List AV)} (hQ:Ok Q) (h:r0.toks[g]? =some (some xs.length)):
  kg ((Q.push R).push r0) (.slice (.tok (Q.ag.length+1) g) es xs)=some (.slice (.tok Q.ag.length R.toks.length) es xs,Q.push ⟨R.boxes,R.toks++[some xs.length]⟩):=by
 have h1:((Q.push R).push r0).cur=Q.ag.length+1:=by rw[fD];simp[ae.push]
 have h2:((Q.push R).push r0).ro<Q.ag.length+1:=by have:=hQ.ro;show Q.ro<_;omega
 have h3:((Q.push R).push r0).tok (Q.ag.length+1) g=some xs.length:=by
  have:=Ca (Q.push R) r0 g
  rw[show(Q.push R).ag.length=Q.ag.length+1 by simp[ae.push]]at this
  rw[this,h];rfl
 have h4:((Q.push R).push r0).jI Q.ag.length=R.toks.length:=by
  simp[ae.jI,ae.push]
 simp only[kg]
 rw[ak ⟨h1.symm,by omega,h2,h3⟩]
 simp only[HE,h4,pop_push,oE]
theorem atK {Q:ae} {l:List P} {o:Own} {e:Nat} {R:Rec} (hQ:Ok Q) (hn:l≠[]) (ho:o.isNil=false) (hl:l.length≤4294967296) (he:e=3):
  aw AP (.fn 91) [.slice o e (l.map aj)] (Q.push R)=some (.slice (.tok Q.ag.length R.toks.length) 3 (l.map aj),Q.push ⟨R.boxes,R.toks++[some l.length]⟩):=by
 subst he
 have hlen:(Q.push R).ag.length=Q.ag.length+1:=by simp[ae.push]
 have ha:eD ((Q.push R).push ⟨[],[]⟩) 3 (.slice .full 3 []) (.slice o 3 (l.map aj))=some (.slice (.tok (Q.ag.length+1) 0) 3 (l.map aj),(Q.push R).push ⟨[],[some l.length]⟩):=by
  have h3:=qb (Q.push R) ⟨[],[]⟩
  have h4:=oE (Q.push R) ⟨[],[]⟩ l.length
  rw[hlen]at h3 h4
  have h5:((Q.push R).push ⟨[],[]⟩).cur=Q.ag.length+1:=by rw[fD,hlen]
  simp[eD,Own.isNil,most,hl,hn,h3,h4,h5]
 have lr:=KQ (Q:=Q) (R:=R) (r0:=⟨[],[some l.length]⟩) (g:=0) (es:=3) (xs:=l.map aj) hQ (by simp)
 rw[aL (show AP 91=some Av from rfl) rfl]
 simp(maxSteps:=1000000) only[go_sem,Nb,ho,ha,Nat.reduceEqDiff,reduceCtorEq,Nat.reduceAdd,Nat.reduceMul,Nat.reduceSub,Int.reduceLT,Int.reduceLE,Int.reduceEq,Int.reduceAdd,Int.reduceSub,Int.reduceNeg,Int.reduceToNat,aP,↓reduceIte]
 exact lr.trans (by rw[bY])
theorem aem {tk:List (Option Nat)} {l:List P} {o:Own} {e:Nat} (hs:Ok s) (he:l=[]∨e=3) (ho:o.isNil=l.isEmpty) (hl:l.length≤4294967296):
  ∃x og tk',(∀bx,ng (aw AP) (s.push ⟨bx,tk⟩) 91 [.slice o e (l.map aj)]=some (x,s.push ⟨bx,tk'⟩))∧Acc s.ag.length 3 (l.map aj) x og tk':=by
 cases fP:l with
 | nil =>
  subst fP
  have oY:o.isNil=true:=ho
  have:∀bx,aw AP (.fn 91) [.slice o e (([]:List P).map aj)] ((cT (s.push ⟨bx,tk⟩)).push ⟨[],[]⟩)=some (.slice .aA 0 [],(cT (s.push ⟨bx,tk⟩)).push ⟨[],[]⟩):=fun bx=>by
   rw[aL (show AP 91=some Av from rfl) rfl]
   simp(maxSteps:=1000000) only[go_sem,Nb,oY,Nat.reduceEqDiff,reduceCtorEq,Nat.reduceAdd,Nat.reduceMul,Nat.reduceSub,Int.reduceLT,Int.reduceLE,Int.reduceEq,Int.reduceAdd,Int.reduceSub,Int.reduceNeg,Int.reduceToNat,aP,↓reduceIte]
  refine⟨.slice .aA 0 [],none,tk,fun bx=>?_,rfl,rfl⟩
  unfold ng
  rw[show({(s.push ⟨bx,tk⟩).push ⟨[],[]⟩with ro:=(s.push ⟨bx,tk⟩).ag.length,bo:=(s.push ⟨bx,tk⟩).loops.length}:ae)=(cT (s.push ⟨bx,tk⟩)).push ⟨[],[]⟩from rfl,this]
  rfl
 | cons a q =>
  rw[←fP]
  have hn:l≠[]:=by rw[fP];simp
  have j6:e=3:=by rcases he with h|h;exact absurd h hn;exact h
  have oY:o.isNil=false:=by rw[ho,fP];rfl
  refine⟨.slice (.tok s.ag.length tk.length) 3 (l.map aj),some tk.length,tk++[some l.length],fun bx=>?_,by simpa using hn,rfl,by simp⟩
  have:=atK (Q:=cT (s.push ⟨bx,tk⟩)) (R:=⟨[],[]⟩) (o:=o) vu hn oY hl j6
  have yR:(cT (s.push ⟨bx,tk⟩)).ag.length=(s.push ⟨bx,tk⟩).ag.length:=rfl
  have gQ:(s.push ⟨bx,tk⟩).cur=s.ag.length:=fD _ _
  have hlen:(s.push ⟨bx,tk⟩).ag.length=s.ag.length+1:=by simp[ae.push]
  unfold ng
  rw[show({(s.push ⟨bx,tk⟩).push ⟨[],[]⟩with ro:=(s.push ⟨bx,tk⟩).ag.length,bo:=(s.push ⟨bx,tk⟩).loops.length}:ae)=(cT (s.push ⟨bx,tk⟩)).push ⟨[],[]⟩from rfl,this]
  have zk:((cT (s.push ⟨bx,tk⟩)).push ⟨[],[some l.length]⟩).tok (s.push ⟨bx,tk⟩).ag.length 0=some l.length:=by
   have:=Ca (cT (s.push ⟨bx,tk⟩)) ⟨[],[some l.length]⟩ 0
   rw[yR]at this;rw[this];rfl
  have bh:(s.push ⟨bx,tk⟩).ro<(s.push ⟨bx,tk⟩).ag.length:=by rw[hlen];have:=hs.ro;show s.ro<_;omega
  simp only[yR,iK,kN]
  rw[ak ⟨trivial,by omega,bh,by rw[zk,bY]⟩]
  simp only[gQ,qb,oE,bY]
abbrev mc (m:Nat):List AV:=[I (m:Int)]
attribute [go_sem] mc
def l5 (w:W) (all:List (Sl P×Bool)) (plan:List P) (own:Nat) (sets:List Nat) (i:Nat) (p:P):Bool:=
 !dL w p plan&&sets.any fun m=>decide (m&&&(2^(i+1)-1)=own|||2^i)&&gO w all (plan++[p]) m
def mP (w:W) (all:List (Sl P×Bool)) (plan:List P) (own:Nat) (sets:List Nat):Nat→Nat→Option P
 |_,0=>none
 |i,n+1=>match(all.getD i default).1.l.find? (l5 w all plan own sets i)with
  |some p=>some p
  |none=>mP w all plan own sets (i+1) n
def mw (plan:List P):Nat:=match plan.getLast? with
 |some p=>p.req.toNat+1
 |none=>0
def sG (w:W) (all:List (Sl P×Bool)) (plan:List P) (own:Nat) (sets:List Nat):Option P:=mP w all plan own sets (mw plan) (all.length-mw plan)
theorem aqV (i:Nat) (hi:i≤12):IntKind.i64.wrap (((2^(i+1):Nat):Int)-1)=((2^(i+1)-1:Nat):Int):=by
 have h:(2:Nat)^(i+1)≤2^13:=jh (by decide) (by omega)
 have h1:1≤(2:Nat)^(i+1):=SD
 generalize(2:Nat)^(i+1)=q at*
 rw[bW (by omega) (by omega)]
 omega
theorem Qn {m k:Nat} (h:m<2^k) (hk:k≤63):m<2^63:=mZ h (jh (by decide) hk)
theorem Vj (a b:Nat):decide ((a:Int)=(b:Int))=decide (a=b):=by
 by_cases h:a=b
 ·rw[bP h,bP (by omega)]
 ·rw[bS h,bS (by omega)]
theorem agi {α:Type} {p:α→Bool} {l:List α} {k:Nat} {x:α} (h:l[k]? =some x):(l.drop k).find? p=if p x=true then some x else(l.drop (k+1)).find? p:=by
 rw[eP h,Lt]
 cases p x<;>simp
theorem acf {α:Type} {p:α→Bool} {l:List α} {k:Nat} {x:α} (h:l[k]? =some x):(l.drop k).any p=(p x||(l.drop (k+1)).any p):=by
 rw[eP h,oz]
def vt (r:Option P):AV:=.tuple [.agg (aj (r.getD bV)),B r.isSome]
theorem adD {o o2 o3 : Own} {e e2 e3 : Nat} {all : List (Sl P × Bool)} {plan : List P} {own : Nat} {sets : List Nat} (hs : Ok s) (hw : Wk w) (hY : sP w e all) (hp : ∀ p ∈ plan, ch w p) (kC : plan = [] ∨ e2 = 3) (Pf : o2.isNil = plan.isEmpty) (cD : plan.length ≤ 12)
    (lr:own<2^12) (XH:∀m∈sets,m<2^w.rs.l.length) (n6:sets=[]∨e3=1) (sv:sets.length≤5000):
    aw AP (.fn 67) [CH w o e all,.slice o2 e2 (plan.map aj),I (own:Int),.slice o3 e3 (sets.map mc)] s=some (vt (sG w all plan own sets),s):=by
  have er:=hw.v.rl
  have oR:=hY.len
  have sE : ∀ (i : Nat) ρ x, (ρ 1 = .slice o2 e2 (plan.map aj) ∧ ρ 2 = I (own : Int) ∧ ρ 3 = .slice o3 e3 (sets.map mc) ∧ ρ 4 = .ptr s.ag.length 0 0 ∧ ρ 8 = .ptr s.ag.length 1 0 ∧ ρ 12 = I (i : Int) ∧
      ∃bx tk,x=s.push ⟨[OW w,.slice o e (all.map gm)]::aj bV::bx,tk⟩)→go AP Fo (.c (.loop uy)::Qc) ⟨ρ,x⟩=some (vt (mP w all plan own sets i (all.length-i)),s):=by
    have step : ∀ (i : Nat) ρ x, i < all.length → (ρ 1 = .slice o2 e2 (plan.map aj) ∧ ρ 2 = I (own : Int) ∧ ρ 3 = .slice o3 e3 (sets.map mc) ∧ ρ 4 = .ptr s.ag.length 0 0 ∧ ρ 8 = .ptr s.ag.length 1 0 ∧ ρ 12 = I (i : Int) ∧
        ∃bx tk,x=s.push ⟨[OW w,.slice o e (all.map gm)]::aj bV::bx,tk⟩)→
        (∀ρ' x',(ρ' 1=.slice o2 e2 (plan.map aj)∧ρ' 2=I (own:Int)∧ρ' 3=.slice o3 e3 (sets.map mc)∧ρ' 4=.ptr s.ag.length 0 0∧ρ' 8=.ptr s.ag.length 1 0∧ρ' 12=I ((i+1:Nat):Int)∧
          ∃bx tk,x'=s.push ⟨[OW w,.slice o e (all.map gm)]::aj bV::bx,tk⟩)→go AP Fo (.c (.loop uy)::Qc) ⟨ρ',x'⟩=some (vt (mP w all plan own sets (i+1) (all.length-(i+1))),s))→
        go AP Fo (.c uy::.lp uy::Qc) ⟨ρ,x⟩=some (vt (mP w all plan own sets i (all.length-i)),s):=by
      rintro i ρ x hi ⟨h1,h2,h3,h4,h8,cG,bx,tk,rfl⟩ ih
      obtain⟨c,hc⟩:=get_some hi
      have r7:=bQ hc
      have dU:e=2:=by rcases hY.e with h|h;(rw[h]at hc;simp at hc);exact h
      subst dU
      have hr:=cq (f:=gm) (o:=o) (es:=2) hc
      have wV:all.getD i default=c:=by simp[List.getD,hc]
      have Pd:mP w all plan own sets i (all.length-i)=match c.1.l.find? (l5 w all plan own sets i)with
          |some p=>some p
          |none=>mP w all plan own sets (i+1) (all.length-(i+1)):=by
        obtain⟨d,hd⟩:∃d,all.length-i=d+1:=⟨all.length-i-1,by omega⟩
        rw[hd,mP,wV,show all.length-(i+1)=d by omega]
      have FH:=hY.cnt c r7
      have n5:=hY.iW c r7
      have lR:=hY.ok c r7
      have h63:∀m∈sets,m<2^63:=fun m hm=>Qn (XH m hm) (by omega)
      have Qd : ∀ (j : Nat) ρ x, j ≤ c.1.l.length → (ρ 1 = .slice o2 e2 (plan.map aj) ∧ ρ 2 = I (own : Int) ∧ ρ 3 = .slice o3 e3 (sets.map mc) ∧ ρ 4 = .ptr s.ag.length 0 0 ∧ ρ 8 = .ptr s.ag.length 1 0 ∧ ρ 12 = I (i : Int) ∧ ρ 42 = c.1.v aj ∧ ρ 43 = I c.1.l.length ∧ ρ 44 = I j ∧
          ∃bx tk,x=s.push ⟨[OW w,.slice o 2 (all.map gm)]::aj bV::bx,tk⟩)→
          go AP Fo (.c (.loop Ab)::amF) ⟨ρ,x⟩=some (vt (match(c.1.l.drop j).find? (l5 w all plan own sets i)with|some p=>some p|none=>mP w all plan own sets (i+1) (all.length-(i+1))),s):=by
        refine ck c.1.l.length _ _ ?_ ?_
        · rintro j ρ x hj ⟨h1, h2, h3, h4, h8, cG, j5, lP, nW, bx, tk, rfl⟩ fI
          obtain⟨p,u7⟩:=get_some hj
          have jE:=n5 p (bQ u7)
          have hr:=Sl.ix (f:=aj) lR u7
          have eW:∀r,aw AP (.fn 87) [OW w,.agg (aj p),.slice o2 e2 (plan.map aj)] (s.push r)=some (B (dL w p plan),s.push r):=fun r=>RH (hs.push r) hw jE hp kC (by omega)
          have ib:=bK hj (show(c.1.l.length:Int)<_ by omega)
          rw[agi u7]
          simp only[aj,Sl.v]at eW hr j5
          cases eV:dL w p plan with
          | true =>
            rw[eV]at eW
            have gU:l5 w all plan own sets i p=false:=by simp[l5,eV]
            rw[gU,aq (by simp)]
            simp(maxSteps:=1000000) only[go_sem,Ab,H6,h1,h2,h3,h4,h8,cG,j5,lP,nW,hs,aS hj,hr,eW,ib,Nat.reduceEqDiff,reduceCtorEq,Nat.reduceAdd,Nat.reduceMul,Nat.reduceSub,Int.reduceLT,Int.reduceLE,Int.reduceEq,Int.reduceAdd,Int.reduceSub,Int.reduceNeg,Int.reduceToNat,aP,↓reduceIte]
            refine fI _ _ ?_
            exact⟨h1,h2,h3,h4,h8,cG,j5,lP,rfl,_,_,rfl⟩
          | false =>
            rw[eV]at eW
            have akm:l5 w all plan own sets i p=sets.any fun m=>decide (m&&&(2^(i+1)-1)=own|||2^i)&&gO w all (plan++[p]) m:=by simp[l5,eV]
            obtain⟨xc,ogc,tkc,aT,hAc⟩:=aem (s:=s) (tk:=tk) (l:=plan) (o:=o2) (e:=e2) hs kC Pf (by omega)
            obtain⟨xa,qc,tka,cQ,eL,uV,_⟩:=hAc.append hs .full (ys:=[aj p]) (by simp) (by simp;omega)
            have tH:closeAll (aj p)=some (aj p):=by
              simp only[aj,mq,oH,pK,Sl.close jE.ok];rfl
            have Xw:∀m:ae,ez m (p.an.v aD)=some (p.an.v aD):=fun m=>Sl.BF jE.ok
            obtain⟨oa,hxa⟩:∃oa,xa=.slice oa 3 ((plan++[p]).map aj):=by
              cases qc with
              |none=>exact absurd rfl uV
              |some g=>exact⟨_,by rw[eL.2.1,iL];rfl⟩
            subst hxa
            have p8 : ∀ (q : Nat) ρ x, q ≤ sets.length → (ρ 1 = .slice o2 e2 (plan.map aj) ∧ ρ 2 = I (own : Int) ∧ ρ 3 = .slice o3 e3 (sets.map mc) ∧ ρ 4 = .ptr s.ag.length 0 0 ∧ ρ 8 = .ptr s.ag.length 1 0 ∧ ρ 12 = I (i : Int) ∧ ρ 14 = .ptr s.ag.length (bx.length + 1 + 1) 0 ∧ ρ 15 = .slice oa 3 ((plan ++ [p]).map aj) ∧ ρ 42 = c.1.v aj ∧ ρ 43 = I c.1.l.length ∧ ρ 44 = I j ∧ ρ 58 = .slice o3 e3 (sets.map mc) ∧ ρ 59 = I sets.length ∧ ρ 60 = I q ∧
                ∃tk,x=s.push ⟨[OW w,.slice o 2 (all.map gm)]::aj bV::(bx++[aj p]),tk⟩)→
                go AP Fo (.c (.loop Ac)::amG) ⟨ρ,x⟩=some (vt (if((sets.drop q).any fun m=>decide (m&&&(2^(i+1)-1)=own|||2^i)&&gO w all (plan++[p]) m)=true then some p else match(c.1.l.drop (j+1)).find? (l5 w all plan own sets i)with|some p=>some p|none=>mP w all plan own sets (i+1) (all.length-(i+1))),s):=by
              refine ck sets.length _ _ ?_ ?_
              · rintro q ρ x hq ⟨h1, h2, h3, h4, h8, cG, qC, A4, j5, lP, nW, A7, yM, Fy, tk, rfl⟩ Kr
                obtain⟨m,lk⟩:=get_some hq
                have Xp:=bQ lk
                have gS:=XH m Xp
                have OR:e3=1:=by rcases n6 with h|h;(rw[h]at lk;simp at lk);exact h
                subst OR
                have hr:=cq (f:=mc) (o:=o3) (es:=1) lk
                have tL:IntKind.i64.wrap ((i:Int)+1)=((i+1:Nat):Int):=by rw[bW]<;>omega
                have PB:=CJ (k:=i+1) (by omega)
                have PC:=CJ (k:=i) (by omega)
                have lU:=aqV i (by omega)
                have gd:2^(i+1)-1<2^63:=by
                  have:(2:Nat)^(i+1)≤2^13:=jh (by decide) (by omega)
                  have h8:(2:Nat)^13<2^63:=by decide
                  omega
                have jA:(2:Nat)^i<2^63:=LK (by decide) (by omega)
                have hand:=S1 (a:=m) (b:=2^(i+1)-1) (h63 m Xp) gd
                have y8:=S3 (a:=own) (b:=2^i) (Qn lr (by decide)) jA
                have FM:=Vj (m&&&(2^(i+1)-1)) (own|||2^i)
                have n7:∀r,aw AP (.fn 66) [CH w o 2 all,.slice oa 3 ((plan++[p]).map aj),I (m:Int)] (s.push r)=some (B (gO w all (plan++[p]) m),s.push r):=fun r=>
                  Uz (hs.push r) hw hY gS (fun y hy=>by
                    rcases dD.1 hy with h|h
                    · exact hp y h
                    · simp at h;subst h;exact jE) (.inr rfl) (by simp;omega)
                have PT:=bK hq (show(sets.length:Int)<_ by omega)
                rw[acf lk]
                simp only[CH]at n7
                simp only[aj,Sl.v,bV,nO]at Xw⊢
                cases hg:decide (m&&&(2^(i+1)-1)=own|||2^i)with
                | false =>
                  rw[hg]at FM
                  simp(maxSteps:=1000000) only[go_sem,Ac,h1,h2,h3,h4,h8,cG,qC,A4,A7,yM,Fy,hs,aS hq,hr,tL,PB,PC,lU,hand,y8,FM,n7,PT,jL,mV,Nat.reduceEqDiff,reduceCtorEq,Nat.reduceAdd,Nat.reduceMul,Nat.reduceSub,Int.reduceLT,Int.reduceLE,Int.reduceEq,Int.reduceAdd,Int.reduceSub,Int.reduceNeg,Int.reduceToNat,aP,↓reduceIte]
                  refine(Kr _ _ ?_).trans rfl
                  exact⟨h1,h2,h3,h4,h8,cG,qC,A4,j5,lP,nW,A7,yM,rfl,_,rfl⟩
                | true =>
                  rw[hg]at FM
                  cases hf:gO w all (plan++[p]) m with
                  | false =>
                    rw[hf]at n7
                    simp(maxSteps:=1000000) only[go_sem,Ac,h1,h2,h3,h4,h8,cG,qC,A4,A7,yM,Fy,hs,aS hq,hr,tL,PB,PC,lU,hand,y8,FM,n7,PT,nI,mV,Nat.reduceEqDiff,reduceCtorEq,Nat.reduceAdd,Nat.reduceMul,Nat.reduceSub,Int.reduceLT,Int.reduceLE,Int.reduceEq,Int.reduceAdd,Int.reduceSub,Int.reduceNeg,Int.reduceToNat,aP,↓reduceIte]
                    refine(Kr _ _ ?_).trans rfl
                    exact⟨h1,h2,h3,h4,h8,cG,qC,A4,j5,lP,nW,A7,yM,rfl,_,rfl⟩
                  | true =>
                    rw[hf]at n7
                    simp(maxSteps:=1000000) only[go_sem,Ac,h1,h2,h3,h4,h8,cG,qC,A4,A7,yM,Fy,hs,aS hq,hr,tL,PB,PC,lU,hand,y8,FM,n7,PT,xH,xJ,bB,Xw,Nat.reduceEqDiff,reduceCtorEq,Nat.reduceAdd,Nat.reduceMul,Nat.reduceSub,Int.reduceLT,Int.reduceLE,Int.reduceEq,Int.reduceAdd,Int.reduceSub,Int.reduceNeg,Int.reduceToNat,aP,↓reduceIte]
                    rfl
              · rintro ρ x ⟨h1, h2, h3, h4, h8, cG, qC, A4, j5, lP, nW, A7, yM, Fy, tk, rfl⟩
                simp(maxSteps:=1000000) only[go_sem,Ac,H6,nW,yM,Fy,hs,bM,ib,Nat.reduceEqDiff,reduceCtorEq,Nat.reduceAdd,Nat.reduceMul,Nat.reduceSub,Int.reduceLT,Int.reduceLE,Int.reduceEq,Int.reduceAdd,Int.reduceSub,Int.reduceNeg,Int.reduceToNat,aP,↓reduceIte]
                rw[eR]
                refine(fI _ _ ?_).trans rfl
                exact⟨h1,h2,h3,h4,h8,cG,j5,lP,rfl,_,_,rfl⟩
            simp only[aj,Sl.v,bV,nO]at aT cQ tH p8
            rw[akm]
            simp(maxSteps:=1000000) only[go_sem,Ab,h1,h2,h3,h4,h8,cG,j5,lP,nW,hs,aS hj,hr,eW,aT,tH,cQ,Nat.reduceEqDiff,reduceCtorEq,Nat.reduceAdd,Nat.reduceMul,Nat.reduceSub,Int.reduceLT,Int.reduceLE,Int.reduceEq,Int.reduceAdd,Int.reduceSub,Int.reduceNeg,Int.reduceToNat,aP,↓reduceIte]
            refine(p8 0 _ _ (bg _) ?_).trans ?_
            · exact⟨h1,h2,h3,h4,h8,cG,rfl,rfl,j5,lP,nW,rfl,rfl,rfl,_,rfl⟩
            · rw [kt]
              cases(sets.any fun m=>decide (m&&&(2^(i+1)-1)=own|||2^i)&&gO w all (plan++[p]) m)<;>rfl
        · rintro ρ x ⟨h1, h2, h3, h4, h8, cG, j5, lP, nW, bx, tk, rfl⟩
          have tL:IntKind.i64.wrap ((i:Int)+1)=((i+1:Nat):Int):=by rw[bW]<;>omega
          simp(maxSteps:=1000000) only[go_sem,Ab,H5,cG,lP,nW,hs,bM,tL,Nat.reduceEqDiff,reduceCtorEq,Nat.reduceAdd,Nat.reduceMul,Nat.reduceSub,Int.reduceLT,Int.reduceLE,Int.reduceEq,Int.reduceAdd,Int.reduceSub,Int.reduceNeg,Int.reduceToNat,aP,↓reduceIte]
          rw[eR]
          refine(ih _ _ ?_).trans rfl
          exact⟨h1,h2,h3,h4,h8,rfl,_,_,rfl⟩
      have hd:decide ((i:Int)<(all.length:Int))=true:=bP (by omega)
      rw[Pd]
      simp(maxSteps:=1000000) only[go_sem,uy,h1,h2,h3,h4,h8,cG,hs,hd,hr,Nat.reduceEqDiff,reduceCtorEq,Nat.reduceAdd,Nat.reduceMul,Nat.reduceSub,Int.reduceLT,Int.reduceLE,Int.reduceEq,Int.reduceAdd,Int.reduceSub,Int.reduceNeg,Int.reduceToNat,aP,↓reduceIte]
      refine(Qd 0 _ _ (bg _) ?_).trans (by rw[kt])
      exact⟨h1,h2,h3,h4,h8,cG,rfl,rfl,rfl,_,_,rfl⟩
    intro i ρ x hP
    induction hn:all.length-i generalizing i ρ x with
    | zero =>
      obtain⟨h1,h2,h3,h4,h8,cG,bx,tk,rfl⟩:=hP
      have hd:decide ((i:Int)<(all.length:Int))=false:=bS (by omega)
      rw[go_loop]
      simp only[aj,Sl.v,bV,nO]
      simp(maxSteps:=1000000) only[go_sem,uy,CP,h4,h8,cG,hs,hd,Nat.reduceEqDiff,reduceCtorEq,Nat.reduceAdd,Nat.reduceMul,Nat.reduceSub,Int.reduceLT,Int.reduceLE,Int.reduceEq,Int.reduceAdd,Int.reduceSub,Int.reduceNeg,Int.reduceToNat,aP,↓reduceIte]
      rfl
    | succ d ih =>
      rw[go_loop,←hn]
      refine step i ρ x (by omega) hP fun ρ' x' uT=>?_
      rw[ih (i+1) ρ' x' uT (by omega),show all.length-(i+1)=d by omega]
  have nx:∀(a:P),plan.getLast?=some a→plan[plan.length-1]? =some a:=fun a h=>by rw[←abG];exact h
  rw[aL (show AP 67=some DO from rfl) rfl]
  cases j7:plan.getLast? with
  | none =>
    have Gd:plan=[]:=Sg.1 j7
    subst Gd
    simp only[CH,OW,aj,Sl.v,bV,nO]at sE⊢
    simp(maxSteps:=1000000) only[go_sem,Me,hs,Nat.reduceEqDiff,reduceCtorEq,Nat.reduceAdd,Nat.reduceMul,Nat.reduceSub,Int.reduceLT,Int.reduceLE,Int.reduceEq,Int.reduceAdd,Int.reduceSub,Int.reduceNeg,Int.reduceToNat,aP,↓reduceIte]
    refine(sE 0 _ _ ?_).trans ?_
    · exact⟨rfl,rfl,rfl,rfl,rfl,rfl,[],[],rfl⟩
    · rfl
  | some a =>
    have gw:=nx a j7
    have rU:=hp a (bQ gw)
    have aB:0<plan.length:=by
      have:=(bd.1 gw).1;omega
    have OR:e2=3:=by rcases kC with h|h;(rw[h]at aB;simp at aB);exact h
    subst OR
    have hr:=cq (f:=aj) (o:=o2) (es:=3) gw
    have jn:IntKind.i64.wrap ((plan.length:Int)-1)=((plan.length-1:Nat):Int):=by rw[bW]<;>omega
    have hd:decide ((0:Int)<(plan.length:Int))=true:=bP (by omega)
    have jl:=rU.r0
    have fG:=rU.r1
    have xi:IntKind.i64.wrap (a.req+1)=((a.req.toNat+1:Nat):Int):=by rw[bW]<;>omega
    have aiK:mw plan=a.req.toNat+1:=by simp[mw,j7]
    simp only[CH,OW,aj,Sl.v,bV,nO]at sE hr⊢
    simp(maxSteps:=1000000) only[go_sem,Me,hs,hd,jn,hr,xi,Nat.reduceEqDiff,reduceCtorEq,Nat.reduceAdd,Nat.reduceMul,Nat.reduceSub,Int.reduceLT,Int.reduceLE,Int.reduceEq,Int.reduceAdd,Int.reduceSub,Int.reduceNeg,Int.reduceToNat,aP,↓reduceIte]
    refine(sE (a.req.toNat+1) _ _ ?_).trans ?_
    · exact⟨rfl,rfl,rfl,rfl,rfl,rfl,[],[],rfl⟩
    · simp only[sG,aiK]
end
def sN (w:W) (all:List (Sl P×Bool)) (st:Int×List Nat) (m:Nat):Int×List Nat:=
 if(decide (st.1≤jc w m)&&(pt all m&&gO w all [] m))=true then(if st.1<jc w m then(jc w m,[m])else(st.1,st.2++[m]))else st
def dm (w:W) (all:List (Sl P×Bool)) (n:Nat):Int×List Nat:=(List.range n).foldl (sN w all) (-1,[])
theorem B5 {w:W} {all:List (Sl P×Bool)} {n:Nat}:dm w all (n+1)=sN w all (dm w all n) n:=by
 simp[dm,Cp]
theorem aax {w:W} {all:List (Sl P×Bool)}:∀{n:Nat},(dm w all n).2.length≤n
 |0=>by simp[dm]
 | n + 1 => by
  have ih:=aax (w:=w) (all:=all) (n:=n)
  rw[B5];unfold sN
  split
  ·split
   ·simp
   ·simp;omega
  ·omega
theorem aay {w:W} {all:List (Sl P×Bool)} {m:Nat}:∀{n:Nat},m∈(dm w all n).2→m<n
 |0,h=>by simp[dm]at h
 | n + 1, h => by
  have ih:=fun h=>aay (w:=w) (all:=all) (m:=m) (n:=n) h
  rw[B5]at h;unfold sN at h
  split at h
  ·split at h
   ·simp at h;omega
   ·rcases dD.1 h with h|h
    ·have:=ih h;omega
    ·simp at h;omega
  ·have:=ih h;omega
def df (plan:List P):Nat:=plan.foldl (fun o p=>o|||2^p.req.toNat) 0
def nk (w:W) (all:List (Sl P×Bool)) (sets:List Nat):Nat→List P→List P
 |0,plan=>plan
 |n+1,plan=>if(sets.any fun m=>decide (df plan=m))=true then plan else match sG w all plan (df plan) sets with
  |some p=>nk w all sets n (plan++[p])
  |none=>plan
def gZ (w:W) (all:List (Sl P×Bool)):List P×Int×Bool:=
 if(dm w all (2^all.length)).1<0 then([],0,false)
 else(nk w all (dm w all (2^all.length)).2 (all.length+1) [],(dm w all (2^all.length)).1,true)
theorem Qw {w:W} {all:List (Sl P×Bool)} {plan:List P} {own:Nat} {sets:List Nat} {p:P}:∀{n i:Nat},mP w all plan own sets i n=some p→∃j,i≤j∧j<i+n∧p∈(all.getD j default).1.l∧l5 w all plan own sets j p=true
 |0,_,h=>by cases h
 | n + 1, i, h => by
  simp only[mP]at h
  split at h
  ·rename_i q hq
   injection h with h
   subst h
   exact⟨i,aH _,by omega,Si hq,Lu hq⟩
  ·obtain⟨j,h1,h2,h3⟩:=Qw h
   exact⟨j,by omega,by omega,h3⟩
theorem N9 {plan:List P} {p:P}:mw (plan++[p])=p.req.toNat+1:=by simp[mw]
section
variable{s:ae} {w:W}
theorem sP.akA {e:Nat} {all:List (Sl P×Bool)} (h:sP w e all) {j:Nat} (hj:j<all.length) {p:P} (hp:p∈(all.getD j default).1.l):ch w p∧p.req=j:=by
 obtain⟨c,hc⟩:=get_some hj
 have e1:all.getD j default=c:=by simp[List.getD,hc]
 rw[e1]at hp
 exact⟨h.iW c (bQ hc) p hp,h.req j c hc p hp⟩
theorem ao4 {e:Nat} {all:List (Sl P×Bool)} {plan:List P} {own:Nat} {sets:List Nat} {p:P} (hA:sP w e all) (h:sG w all plan own sets=some p):ch w p∧mw plan≤p.req.toNat∧p.req.toNat<all.length:=by
 obtain⟨j,h1,h2,h3,_⟩:=Qw h
 obtain⟨h4,h5⟩:=hA.akA (j:=j) (by omega) h3
 exact⟨h4,by omega,by omega⟩
theorem Zr {plan:List P} {p:P}:df (plan++[p])=df plan|||2^p.req.toNat:=by simp[df]
theorem Zs:∀{plan:List P},(∀p∈plan,p.req.toNat<12)→df plan<2^12:=by
 intro plan h
 have:∀(l:List P) (o:Nat),o<2^12→(∀p∈l,p.req.toNat<12)→l.foldl (fun o p=>o|||2^p.req.toNat) o<2^12:=by
  intro l
  induction l with
  |nil=>intro o ho _;exact ho
  |cons a r ih=>
   intro o ho hl
   exact ih _ (Nat.or_lt_two_pow ho (LK (by decide) (hl a (xS ..)))) fun p hp=>hl p (jf _ hp)
 exact this plan 0 (by decide) h
def Aj (r:List P×Int×Bool):AV:=.tuple [bG 3 (r.1.map aj),I r.2.1,B r.2.2]
theorem Uy {o : Own} {e : Nat} {all : List (Sl P × Bool)} (hs : Ok s) (hw : Wk w) (hY : sP w e all) : aw AP (.fn 34) [CH w o e all] s = some (Aj (gZ w all), s) := by
 have er:=hw.v.rl
 have oR:=hY.len
 have avx:2^all.length≤4096:=by
  have:(2:Nat)^all.length≤2^12:=jh (by decide) (by omega)
  exact kO this (by decide)
 have sv:∀n,n≤2^all.length→(dm w all n).2.length≤4096:=fun n hn=>kO aax (by omega)
 have anN : ∀ (f : Nat) (plan : List P) (ρ : Nat → AV) (x : ae) (sets : List Nat) (most : Int), sets = (dm w all (2 ^ all.length)).2 → all.length + 1 - mw plan ≤ f → mw plan ≤ all.length → plan.length ≤ mw plan → (∀ p ∈ plan, ch w p) →
   (ρ 1=.ptr s.ag.length 0 0∧(∃o5 e5,ρ 5=.slice o5 e5 (sets.map mc)∧(sets=[]∨e5=1))∧ρ 6=I most∧∃og tk bx,Acc s.ag.length 3 (plan.map aj) (ρ 9) og tk∧x=s.push ⟨[OW w,.slice o e (all.map gm)]::bx,tk⟩)→
   go AP NV (.c (.loop HX)::amz) ⟨ρ,x⟩=some (.tuple [bG 3 ((nk w all sets f plan).map aj),I most,B true],s):=by
  intro f
  induction f with
  |zero=>intro plan ρ x sets most su hf n7;omega
  | succ f ihf =>
   rintro plan ρ x sets most su hf n7 cD dV ⟨h1,⟨o5,e5,h5,OS⟩,h6,og,tk,bx,hA,rfl⟩
   have zi:∀p∈plan,p.req.toNat<12:=fun p hp=>by have:=(dV p hp).r0;have:=(dV p hp).r1;omega
   have lr:=Zs zi
   have aj3:∀m∈sets,m<2^w.rs.l.length:=fun m hm=>by
    rw[su]at hm;have:=aay hm;rw[oR]at this;exact this
   have avC:sets.length≤4096:=by rw[su];exact sv _ (aH _)
   obtain⟨o9,e9,Ol,yW,ho9⟩:∃o9 e9,ρ 9=.slice o9 e9 (plan.map aj)∧(plan=[]∨e9=3)∧o9.isNil=plan.isEmpty:=by
    cases og with
    |none=>
     obtain⟨q1,q2⟩:=hA
     have:plan=[]:=by simpa using q1
     subst this
     exact⟨_,_,q2,.inl rfl,rfl⟩
    |some g=>
     refine⟨_,_,hA.2.1,.inr rfl,?_⟩
     have:plan≠[]:=by have:=hA.1;simpa using this
     cases plan with
     |nil=>exact absurd rfl this
     |cons a r=>rfl
   have FI:∀r,aw AP (.fn 62) [.slice o5 e5 (sets.map mc),I (df plan:Int)] (s.push r)=some (B (sets.any fun m=>decide (df plan=m)),s.push r):=fun r=>by
    have:=Lj (s:=s.push r) (l:=sets.map fun m:Nat=>(m:Int)) (x:=(df plan:Int)) (o:=o5) (e:=e5) (by rcases OS with h|h;exact .inl (by simp[h]);exact .inr h) (by simp;omega)
    rw[vO]at this
    rw[show(sets.map mc)=sets.map ((fun a:Int=>[I a])∘fun m:Nat=>(m:Int))from rfl,this,Hm]
    congr 4
    funext m
    exact Vj _ _
   have j9:∀r,aw AP (.fn 67) [CH w o e all,.slice o9 e9 (plan.map aj),I (df plan:Int),.slice o5 e5 (sets.map mc)] (s.push r)=some (vt (sG w all plan (df plan) sets),s.push r):=fun r=>
    adD (hs.push r) hw hY dV yW ho9 (by omega) lr aj3 OS (by omega)
   have anM : ∀ (j : Nat) ρ x, j ≤ plan.length → (ρ 1 = .ptr s.ag.length 0 0 ∧ ρ 5 = .slice o5 e5 (sets.map mc) ∧ ρ 6 = I most ∧ ρ 9 = .slice o9 e9 (plan.map aj) ∧ ρ 10 = I (df (plan.take j) : Int) ∧ ρ 49 = .slice o9 e9 (plan.map aj) ∧ ρ 50 = I plan.length ∧ ρ 51 = I j ∧
     ∃bx,x=s.push ⟨[OW w,.slice o e (all.map gm)]::bx,tk⟩)→
     go AP NV (.c (.loop z8)::amA) ⟨ρ,x⟩=some (.tuple [bG 3 ((nk w all sets (f+1) plan).map aj),I most,B true],s):=by
    refine ck plan.length _ _ ?_ ?_
    ·rintro j ρ x hj ⟨h1,h5,h6,h9,dh,rN,nq,pR,bx,rfl⟩ ih
     obtain⟨p,hp⟩:=get_some hj
     have pY:=dV p (bQ hp)
     have n6:e9=3:=by rcases yW with h|h;(rw[h]at hp;simp at hp);exact h
     subst n6
     have hr:=cq (f:=aj) (o:=o9) (es:=3) hp
     have p0:=pY.r0
     have p1:=pY.r1
     have ke:dy .shl (I 1) (I p.req)=some (I ((2^p.req.toNat:Nat):Int)):=by
      have:=CJ (k:=p.req.toNat) (by omega)
      rwa [show((p.req.toNat:Nat):Int)=p.req by omega]at this
     have aC:df (plan.take j)<2^63:=Qn (Zs fun q hq=>zi q (xT hq)) (by decide)
     have y8:=S3 (a:=df (plan.take j)) (b:=2^p.req.toNat) aC (LK (by decide) (by omega))
     have hon:df (plan.take (j+1))=df (plan.take j)|||2^p.req.toNat:=by rw[fT hp,Zr]
     simp only[go_sem,z8,dh,rN,nq,pR,hs,aS hj,hr,ke,y8,bK hj (show(plan.length:Int)<_ by omega),simprocAttr]
     refine ih _ _ ?_
     refine⟨h1,h5,h6,h9,?_,rN,nq,rfl,_,rfl⟩
     rw[hon];rfl
    ·rintro ρ x ⟨h1,h5,h6,h9,dh,rN,nq,pR,bx,rfl⟩
     rw[jg]at dh
     have yN:=hA
     rw[Ol]at yN
     have dc:=yN.leave
     have hgp:nk w all sets (f+1) plan=if(sets.any fun m=>decide (df plan=m))=true then plan else match sG w all plan (df plan) sets with
      |some p=>nk w all sets f (plan++[p])
      |none=>plan:=rfl
     rw[hgp]
     cases hc:sets.any fun m=>decide (df plan=m)with
     |true=>
      rw[hc]at FI
      simp only[go_sem,z8,CO,h5,h6,h9,dh,nq,pR,bM,FI,dc,simprocAttr]
     | false =>
      rw[hc]at FI
      simp only[ef,cE]
      cases hn:sG w all plan (df plan) sets with
      |none=>
       rw[hn]at j9
       simp only[vt,Option.getD_none,s7,aj,Sl.v,bV,nO]at j9
       simp only[go_sem,z8,CO,h1,h5,h6,h9,dh,nq,pR,hs,bM,FI,j9,dc,simprocAttr]
      | some p =>
       rw[hn]at j9
       obtain⟨n1,n2,n3⟩:=ao4 hY hn
       have tH:closeAll (aj p)=some (aj p):=by
        simp only[aj,mq,oH,pK,Sl.close n1.ok];rfl
       obtain⟨x',gl,tk',cQ,eL,_⟩:=yN.append hs .full (ys:=[aj p]) (by simp) (by simp;omega)
       simp only[vt,kQ,xW,aj,Sl.v]at j9 tH cQ
       simp only[go_sem,z8,CO,h1,h5,h9,dh,nq,pR,hs,bM,FI,j9,tH,cQ,simprocAttr]
       refine(ihf (plan++[p]) _ _ sets most su (by rw[N9];omega) (by rw[N9];omega) (by rw[N9];simp;omega) (fun q hq=>?_) ?_).trans rfl
       ·rcases dD.1 hq with h|h
        ·exact dV q h
        ·simp at h;subst h;exact n1
       ·refine⟨h1,⟨o5,e5,h5,OS⟩,h6,gl,tk',_,?_,rfl⟩
        rw[iL];exact eL
   rw[go_loop]
   simp only[go_sem,HX,Ol,simprocAttr]
   refine anM 0 _ _ (bg _) ?_
   exact⟨h1,h5,h6,Ol,rfl,rfl,rfl,rfl,_,rfl⟩
 have Yl : ∀ (j : Nat) ρ x, j ≤ 2 ^ all.length → (ρ 1 = .ptr s.ag.length 0 0 ∧ ρ 6 = I (dm w all j).1 ∧ ρ 18 = I ((2 ^ all.length : Nat) : Int) ∧ ρ 19 = I j ∧
   ∃og tk,Acc s.ag.length 1 ((dm w all j).2.map mc) (ρ 5) og tk∧x=s.push ⟨[[OW w,.slice o e (all.map gm)]],tk⟩)→
   go AP NV (.c (.loop ux)::amB) ⟨ρ,x⟩=some (Aj (gZ w all),s):=by
  refine ck (2^all.length) _ _ ?_ ?_
  ·rintro j ρ x hj ⟨h1,h6,fE,pO,og,tk,hA,rfl⟩ ih
   have FX:j<2^w.rs.l.length:=by rw[←oR];exact hj
   have aiZ:j<2^62:=mZ FX (jh (by decide) (by omega))
   have nD:∀r,aw AP (.fn 64) [CH w o e all,I (j:Int)] (s.push r)=some (I (jc w j),s.push r):=fun r=>adE (hs.push r) hw FX
   have jk:∀r,aw AP (.fn 65) [CH w o e all,I (j:Int)] (s.push r)=some (B (pt all j),s.push r):=fun r=>adC (hs.push r) hY.e (by omega) aiZ
   have n7:∀r,aw AP (.fn 66) [CH w o e all,.slice .aA 0 [],I (j:Int)] (s.push r)=some (B (gO w all [] j),s.push r):=fun r=>Uz (plan:=[]) (hs.push r) hw hY FX (by simp) (.inl rfl) (by simp)
   have ib:=bK hj (show(((2^all.length:Nat):Nat):Int)<_ by omega)
   have cp:=B5 (w:=w) (all:=all) (n:=j)
   have aC:=aS hj
   have hsj:=sv j (by omega)
   generalize dm w all j=st at*
   generalize dm w all (j+1)=aQ at*
   generalize xe:jc w j=W1 at*
   generalize Pr:pt all j=B1 at*
   generalize Ps:gO w all [] j=B2 at*
   unfold sN at cp
   rw[xe,Pr,Ps]at cp
   simp only[CH]at nD jk n7
   cases hg:decide (st.1≤W1)with
   |false=>
    rw[hg,jL,aq (by simp)]at cp
    simp only[go_sem,ux,h1,h6,fE,pO,aC,nD,hg,ib,simprocAttr]
    refine ih _ _ ?_
    exact⟨h1,by rw[cp];exact h6,fE,rfl,og,tk,by rw[cp];exact hA,rfl⟩
   | true =>
    cases B1 with
    |false=>
     rw[hg,jL,nI,aq (by simp)]at cp
     simp only[go_sem,ux,h1,h6,fE,pO,aC,nD,jk,hg,ib,simprocAttr]
     refine ih _ _ ?_
     exact⟨h1,by rw[cp];exact h6,fE,rfl,og,tk,by rw[cp];exact hA,rfl⟩
    | true =>
     cases B2 with
     |false=>
      rw[hg,nI,nI,aq (by simp)]at cp
      simp only[go_sem,ux,h1,h6,fE,pO,aC,nD,jk,n7,hg,ib,simprocAttr]
      refine ih _ _ ?_
      exact⟨h1,by rw[cp];exact h6,fE,rfl,og,tk,by rw[cp];exact hA,rfl⟩
     | true =>
      rw[hg,xH,xH,ak rfl]at cp
      by_cases hm:st.1<W1
      ·have hd:decide (st.1<W1)=true:=bP hm
       rw[ak hm]at cp
       obtain⟨x',gl,tk',cQ,eL,_⟩:=(Acc.start (d:=s.ag.length) (es:=1) (toks:=tk)).append hs .full (ys:=[mc j]) (by simp) (by simp)
       simp only[go_sem,ux,h1,h6,fE,pO,aC,nD,jk,n7,hg,ib,hd,cQ,simprocAttr]
       refine ih _ _ ?_
       exact⟨h1,by rw[cp];rfl,fE,rfl,gl,tk',by rw[cp];exact eL,rfl⟩
      ·have hd:decide (st.1<W1)=false:=bS hm
       rw[aq hm]at cp
       obtain⟨x',gl,tk',cQ,eL,_⟩:=hA.append hs .full (ys:=[mc j]) (by simp) (by simp;omega)
       simp only[go_sem,ux,h1,h6,fE,pO,aC,nD,jk,n7,hg,ib,hd,cQ,simprocAttr]
       refine ih _ _ ?_
       exact⟨h1,by rw[cp];exact h6,fE,rfl,gl,tk',by rw[cp,iL];exact eL,rfl⟩
  ·rintro ρ x ⟨h1,h6,fE,pO,og,tk,hA,rfl⟩
   have gV:=anN (all.length+1) []
   unfold gZ
   by_cases w7:(dm w all (2^all.length)).1<0
   ·have hd:decide ((dm w all (2^all.length)).1<0)=true:=bP w7
    rw[ak w7]
    simp only[go_sem,ux,HY,h6,fE,pO,bM,hd,simprocAttr]
    rfl
   ·have hd:decide ((dm w all (2^all.length)).1<0)=false:=bS w7
    rw[aq w7]
    have h5:∃o5 e5,ρ 5=.slice o5 e5 ((dm w all (2^all.length)).2.map mc)∧((dm w all (2^all.length)).2=[]∨e5=1):=by
     cases og with
     |none=>obtain⟨q1,q2⟩:=hA;exact⟨_,_,by rw[q2,q1],.inl (by simpa using q1)⟩
     |some g=>exact⟨_,_,hA.2.1,.inr rfl⟩
    simp only[go_sem,ux,HY,h6,fE,pO,bM,hd,simprocAttr]
    refine(gV _ _ _ _ rfl (by simp[mw]) (by simp[mw]) (by simp) (by simp) ?_).trans rfl
    exact⟨h1,h5,h6,none,tk,[],Acc.start,rfl⟩
 have ke:=CJ (k:=all.length) (by omega)
 rw[aL (show AP 34=some DL from rfl) rfl]
 simp only[CH,OW]at Yl⊢
 simp only[go_sem,Tk,ke,simprocAttr]
 refine Yl 0 _ _ (bg _) ?_
 exact⟨rfl,rfl,rfl,rfl,none,[],Acc.start,rfl⟩
end
def jb (w:W):Int:=if(dp w).2.2=0 then cond (zI w) 0 8 else(dp w).2.2
section
variable{s:ae} {w:W}
theorem agq (hw:Wk w):sP w (eC 2 (dG w)).e (dG w):=by
 have dR:∀(i:Nat) (c:Sl P×Bool),(dG w)[i]? =some c→i<w.rs.l.length∧c=(eC 3 (ct w [] (i:Nat)),true):=fun i c h=>by
  have hi:=(bd.1 h).1
  rw[dG,N8]at hi
  refine⟨hi,?_⟩
  rw[dG,rM,je,Hs hi]at h
  injection h with h
  exact h.symm
 have iU:∀c∈dG w,∃i:Nat,i<w.rs.l.length∧c=(eC 3 (ct w [] (i:Nat)),true):=fun c hc=>by
  obtain⟨i,hi⟩:=mY hc
  exact⟨i,dR i c hi⟩
 refine⟨?_,by simp[dG,N8],fun c hc=>?_,fun c hc=>?_,fun c hc p hp=>?_,fun i c hc p hp=>?_⟩
 ·cases dG w
  ·exact .inl rfl
  ·exact .inr rfl
 ·obtain⟨i,hi,rfl⟩:=iU c hc;exact x4
 ·obtain⟨i,hi,rfl⟩:=iU c hc
  rw[kS]
  exact kO (nN _ _) (BT hw (by omega) (by omega))
 ·obtain⟨i,hi,rfl⟩:=iU c hc
  rw[kS]at hp
  exact(nF hw (i:=(i:Nat)) (by omega) (by omega) (eS.1 hp).1).1
 ·obtain⟨hi,rfl⟩:=dR i c hc
  rw[kS]at hp
  exact(nF hw (i:=(i:Nat)) (by omega) (by omega) (eS.1 hp).1).2.1
def DD (w:W):List P×Int×Bool:=gZ w (dG w)
theorem ar8 (hs:Ok s) (hw:w.Ok) (hf:w.kn):aw AP (.fn 17) [w.v] s=some (.tuple [bG 3 ((if jb w=0 then(DD w).1 else[]).map aj),I (if jb w=0 then(DD w).2.1 else 0),I (jb w)],s):=by
 have ho:∀r,aw AP (.fn 27) [w.v] (s.push r)=some (.tuple [if(dp w).2.2=0 then OW w else NP,I (jb w)],s.push r):=fun r=>aam (hs.push r) hw hf
 rw[aL (show AP 17=some Ee from rfl) rfl]
 simp only[W.v,c8,Sl.v]at ho
 by_cases h0:jb w=0
 ·have he:(dp w).2.2=0:=by
   unfold jb at h0
   by_cases h:(dp w).2.2=0
   ·exact h
   ·rw[aq h]at h0;exact absurd h0 h
  have cz:Wk w:=⟨hw,hf,rm he⟩
  rw[ak he,h0]at ho
  have pV:∀r,aw AP (.fn 44) [OW w] (s.push r)=some (CH w (eC 2 (dG w)).o (eC 2 (dG w)).e (dG w),s.push r):=fun r=>by
   rw[att (hs.push r) cz,uw];simp only[Sl.v,kS]
  have qE:∀r,aw AP (.fn 34) [CH w (eC 2 (dG w)).o (eC 2 (dG w)).e (dG w)] (s.push r)=some (Aj (DD w),s.push r):=fun r=>Uy (hs.push r) cz (agq cz)
  rw[h0]
  simp only[CH,Aj]at pV qE
  simp only[bB]
  simp only[go_sem,MJ,ho,pV,qE,aY,eA,simprocAttr]
 ·simp only[h0,cE]
  simp only[go_sem,MJ,ho,aY,h0,ig,simprocAttr]
  rfl
end
def ie (l:List P):Int:=match l.getLast? with
 |some p=>p.req
 |none=>-1
def eN (r:R):Int→List Int→Int
 |_,[]=>0
 |last,a::t=>if(r.an.l.any fun b=>decide (a=b))=true then(if last<a then eN r a t else 9)else 6
def dN (w : W) (p : P) (Vq : List P) : Int :=
 if wi p.req 0 (w.rs.l.length - 1) = true then
  if ie Vq < p.req then
   if wi p.start (w.rq p.req).lo ((w.rq p.req).hi + 1 - (w.rq p.req).len) = true then
    if(p.an.l.length:Int)=(w.rq p.req).need then
     if eN (w.rq p.req) (-1) p.an.l=0 then
      if(p.an.l.any fun a=>!cS w a p.start (w.rq p.req).len)=true then 21
      else if dL w p Vq=true then 13 else 0
     else eN (w.rq p.req) (-1) p.an.l
    else 10
   else 2
  else 9
 else 6
theorem HR {w:W} {r:R} {st len:Int}:∀{l:List Int} {last:Int},eN r last l=0→(∀a∈l,(r.an.l.any fun b=>decide (a=b))=true)∧(∀a∈l,last<a)
 |[],_,_=>by simp
 | a :: t, last, h => by
  simp only[eN]at h
  by_cases h1:(r.an.l.any fun b=>decide (a=b))=true
  ·rw[ak h1]at h
   by_cases h2:last<a
   ·rw[ak h2]at h
    obtain⟨i1,i2⟩:=HR (w:=w) (st:=st) (len:=len) h
    refine⟨fun b hb=>?_,fun b hb=>?_⟩
    ·rcases eB.1 hb with rfl|hb
     ·exact h1
     ·exact i1 b hb
    ·rcases eB.1 hb with rfl|hb
     ·exact h2
     ·have:=i2 b hb;omega
   ·rw[aq h2]at h;omega
  ·rw[aq h1]at h;omega
theorem Qq {l:List Int} {a:Int} (h:(l.any fun b=>decide (a=b))=true):a∈l:=by
 obtain⟨b,hb,he⟩:=fK.1 h
 have:a=b:=by simpa using he
 rw[this];exact hb
section
variable{s:ae} {w:W}
theorem atu {p:P} {l:List P} {o:Own} {e:Nat} (hs:Ok s) (hw:Wk w) (dI:p.an.ok 1) (cD:(p.an.l.length:Int)<1000000) (hl:∀x∈l,ch w x) (he:l=[]∨e=3) (hn:(l.length:Int)<1000000):
  aw AP (.fn 56) [OW w,.agg (aj p),.slice o e (l.map aj)] s=some (I (dN w p l),s):=by
 have er:=hw.v.rl
 have iD:=hw.v.n2
 have ft:∀q:ae,aw AP (.fn 30) [OW w,I p.req] q=some (I (cond (wi p.req 0 (w.rs.l.length-1)) 0 6),q):=fun q=>abj hw
 have main : ∀ (h0 : 0 ≤ p.req) (h1 : p.req < w.rs.l.length), (w.rq p.req).lo ≤ p.start → p.start ≤ (w.rq p.req).hi + 1 - (w.rq p.req).len → ∀ (j : Nat) ρ x, j ≤ p.an.l.length → (ρ 0 = OW w ∧ ρ 2 = .slice o e (l.map aj) ∧ ρ 4 = .ptr s.ag.length 0 0 ∧ ρ 10 = .ptr s.ag.length 1 0 ∧ ρ 76 = p.an.v aD ∧ ρ 77 = I p.an.l.length ∧ ρ 78 = I j ∧
   (∃last:Int,ρ 7=I last∧eN (w.rq p.req) (-1) p.an.l=eN (w.rq p.req) last (p.an.l.drop j))∧ρ 12=B ((p.an.l.take j).any fun a=>!cS w a p.start (w.rq p.req).len)∧(∀a∈p.an.l.take j,a∈(w.rq p.req).an.l)∧
   ∃bx tk,x=s.push ⟨aj p::bU (w.rq p.req)::bx,tk⟩)→
   go AP VS (.c (.loop we)::Yj) ⟨ρ,x⟩=some (I (if eN (w.rq p.req) (-1) p.an.l=0 then(if(p.an.l.any fun a=>!cS w a p.start (w.rq p.req).len)=true then 21 else if dL w p l=true then 13 else 0)else eN (w.rq p.req) (-1) p.an.l),s):=by
  intro h0 h1 zj Gn
  have hq:=hw.rq h0 h1
  have sn:=hw.ok.an _ (W.qg h0 h1)
  have q0:=hq.qW
  have q1:=hq.bH
  have q2:=hq.p9
  have q3:=hq.pn
  have W6:=hw.rL.an _ (W.qg h0 h1)
  refine ck p.an.l.length _ _ ?_ ?_
  ·rintro j ρ x hj ⟨g0,g2,g4,g10,wM,wN,AZ,⟨last,g7,j7⟩,g12,iU,bx,tk,rfl⟩ ih
   obtain⟨a,ha⟩:=get_some hj
   have hr:=Sl.ix (f:=aD) dI ha
   have pU:∀r,aw AP (.fn 62) [.slice (w.rq p.req).an.o (w.rq p.req).an.e ((w.rq p.req).an.l.map aD),I a] (s.push r)=some (B ((w.rq p.req).an.l.any fun b=>decide (a=b)),s.push r):=fun r=>Lj sn.1 (by omega)
   rw[eP ha,eN]at j7
   have XR:=bK hj (show(p.an.l.length:Int)<_ by omega)
   simp only[Sl.v]at wM hr
   generalize Gg:w.rq p.req=q at*
   cases hm:q.an.l.any fun b=>decide (a=b)with
   |false=>
    rw[hm]at pU j7
    rw[aq (by simp)]at j7
    rw[j7]
    simp(maxSteps:=1000000) only[go_sem,we,Dv,g0,g2,g4,g7,g10,g12,wM,wN,AZ,hs,aS hj,hr,pU,lH,mS,dk,aY,Nat.reduceEqDiff,reduceCtorEq,Nat.reduceAdd,Nat.reduceMul,Nat.reduceSub,Int.reduceLT,Int.reduceLE,Int.reduceEq,Int.reduceAdd,Int.reduceSub,Int.reduceNeg,Int.reduceToNat,aP,↓reduceIte]
    rfl
   | true =>
    rw[hm]at pU j7
    rw[ak rfl]at j7
    have rU:=hq.tc a (Qq hm)
    have cd:∀r,aw AP (.fn 86) [OW w,I a,I p.start,I q.len] (s.push r)=some (B (cS w a p.start q.len),s.push r):=fun r=>abh hw rU.1 rU.2 (by omega) (by omega) (by omega)
    by_cases wZ:last<a
    ·have hd:decide (last<a)=true:=bP wZ
     rw[ak wZ]at j7
     have n8:∀c:Bool,B c=B ((p.an.l.take (j+1)).any fun a=>!cS w a p.start q.len)→∀ρ' x',(ρ' 0=OW w∧ρ' 2=.slice o e (l.map aj)∧ρ' 4=.ptr s.ag.length 0 0∧ρ' 10=.ptr s.ag.length 1 0∧ρ' 76=.slice p.an.o p.an.e (p.an.l.map aD)∧ρ' 77=I p.an.l.length∧ρ' 78=I ((j+1:Nat):Int)∧ρ' 7=I a∧ρ' 12=B c∧∃bx tk,x'=s.push ⟨aj p::bU q::bx,tk⟩)→
       go AP VS (.c (.loop we)::Yj) ⟨ρ',x'⟩=some (I (if eN q (-1) p.an.l=0 then(if(p.an.l.any fun a=>!cS w a p.start q.len)=true then 21 else if dL w p l=true then 13 else 0)else eN q (-1) p.an.l),s):=by
      rintro c eV ρ' x' ⟨k0,k2,k4,P9,k76,k77,Qb,k7,Qa,kb⟩
      refine ih ρ' x' ⟨k0,k2,k4,P9,k76,k77,Qb,⟨a,k7,j7⟩,by rw[Qa,eV],fun b hb=>?_,kb⟩
      rw[fT ha]at hb
      rcases dD.1 hb with h|h
      ·exact iU b h
      ·simp at h;subst h;exact Qq hm
     have pZ:((p.an.l.take (j+1)).any fun a=>!cS w a p.start q.len)=(((p.an.l.take j).any fun a=>!cS w a p.start q.len)||!cS w a p.start q.len):=by
      rw[fT ha,vL];simp
     generalize((p.an.l.take j).any fun a=>!cS w a p.start q.len)=C at*
     cases C with
     |true=>
      simp(maxSteps:=1000000) only[go_sem,we,g0,g2,g4,g7,g10,g12,wM,wN,AZ,hs,aS hj,hr,pU,cd,hd,lH,mS,dk,aY,eA,XR,Nat.reduceEqDiff,reduceCtorEq,Nat.reduceAdd,Nat.reduceMul,Nat.reduceSub,Int.reduceLT,Int.reduceLE,Int.reduceEq,Int.reduceAdd,Int.reduceSub,Int.reduceNeg,Int.reduceToNat,aP,↓reduceIte]
      refine n8 true (by rw[pZ];rfl) _ _ ?_
      exact⟨g0,g2,g4,g10,wM,wN,rfl,rfl,rfl,_,_,rfl⟩
     |false=>
      simp(maxSteps:=1000000) only[go_sem,we,g0,g2,g4,g7,g10,g12,wM,wN,AZ,hs,aS hj,hr,pU,cd,hd,lH,mS,dk,aY,eA,XR,Nat.reduceEqDiff,reduceCtorEq,Nat.reduceAdd,Nat.reduceMul,Nat.reduceSub,Int.reduceLT,Int.reduceLE,Int.reduceEq,Int.reduceAdd,Int.reduceSub,Int.reduceNeg,Int.reduceToNat,aP,↓reduceIte]
      refine n8 (!cS w a p.start q.len) (by rw[pZ];rfl) _ _ ?_
      exact⟨g0,g2,g4,g10,wM,wN,rfl,rfl,rfl,_,_,rfl⟩
    ·have hd:decide (last<a)=false:=bS wZ
     rw[aq wZ]at j7
     rw[j7]
     simp(maxSteps:=1000000) only[go_sem,we,Dv,g0,g2,g4,g7,g10,g12,wM,wN,AZ,hs,aS hj,hr,pU,hd,lH,mS,dk,aY,Nat.reduceEqDiff,reduceCtorEq,Nat.reduceAdd,Nat.reduceMul,Nat.reduceSub,Int.reduceLT,Int.reduceLE,Int.reduceEq,Int.reduceAdd,Int.reduceSub,Int.reduceNeg,Int.reduceToNat,aP,↓reduceIte]
     rfl
  ·rintro ρ x ⟨g0,g2,g4,g10,wM,wN,AZ,⟨last,g7,j7⟩,g12,iU,bx,tk,rfl⟩
   rw[eR]at j7
   rw[jg]at iU g12
   have ah6:eN (w.rq p.req) (-1) p.an.l=0:=j7
   have dV:ch w p:=⟨h0,h1,by omega,by omega,fun a ha=>hq.tc a (iU a ha),dI,by omega⟩
   have eW:∀r,aw AP (.fn 87) [OW w,.agg (aj p),.slice o e (l.map aj)] (s.push r)=some (B (dL w p l),s.push r):=fun r=>RH (hs.push r) hw dV hl he (by omega)
   rw[ak ah6]
   simp only[aj,Sl.v]at eW
   generalize(p.an.l.any fun a=>!cS w a p.start (w.rq p.req).len)=C at*
   generalize dL w p l=D at*
   simp(maxSteps:=1000000) only[go_sem,we,Dv,g0,g2,g4,g7,g10,g12,wN,AZ,hs,bM,eW,lH,mS,Nat.reduceEqDiff,reduceCtorEq,Nat.reduceAdd,Nat.reduceMul,Nat.reduceSub,Int.reduceLT,Int.reduceLE,Int.reduceEq,Int.reduceAdd,Int.reduceSub,Int.reduceNeg,Int.reduceToNat,aP,↓reduceIte]
   cases C<;>cases D<;>rfl
 rw[aL (show AP 56=some EK from rfl) rfl]
 cases j7:l.getLast? with
 | none =>
  have Gd:l=[]:=Sg.1 j7
  subst Gd
  have Bp:ie ([]:List P)=-1:=rfl
  by_cases hA:wi p.req 0 (w.rs.l.length-1)=true
  ·by_cases hB:-1<p.req
   ·have yO:decide (-1<p.req)=true:=bP hB
    have uS:=iJ.1 hA
    have h0:0≤p.req:=uS.1
    have h1:p.req<w.rs.l.length:=by omega
    have hq:=hw.rq h0 h1
    have q0:=hq.qW
    have q1:=hq.bH
    have q2:=hq.p9
    have q3:=hq.pn
    have fQ:=qU hw h0 h1
    have jF:dN w p []=if wi p.start (w.rq p.req).lo ((w.rq p.req).hi+1-(w.rq p.req).len)=true then if(p.an.l.length:Int)=(w.rq p.req).need then(if eN (w.rq p.req) (-1) p.an.l=0 then(if(p.an.l.any fun a=>!cS w a p.start (w.rq p.req).len)=true then 21 else if dL w p []=true then 13 else 0)else eN (w.rq p.req) (-1) p.an.l)else 10 else 2:=by
     unfold dN;rw[ak hA,Bp,ak hB]
    rw[jF]
    have main:=main h0 h1
    have sn:=(hw.ok.an _ (W.qg h0 h1))
    have w1:IntKind.i64.wrap ((w.rq p.req).hi+1)=(w.rq p.req).hi+1:=bW (by omega) (by omega)
    have w2:IntKind.i64.wrap ((w.rq p.req).hi+1-(w.rq p.req).len)=(w.rq p.req).hi+1-(w.rq p.req).len:=bW (by omega) (by omega)
    simp only[OW,aj,bU,Sl.v,nO]at main ft fQ⊢
    generalize w.rq p.req=q at*
    obtain⟨bw,lo,hi,len,val,⟨oa,ea,an⟩,need⟩:=q
    simp only at*
    simp(maxSteps:=1000000) only[go_sem,yc,hs,ft,lH,mS,hA,yO,dk,aY,eA,ub,fQ,w1,w2,vA,bB,Nat.reduceEqDiff,reduceCtorEq,Nat.reduceAdd,Nat.reduceMul,Nat.reduceSub,Int.reduceLT,Int.reduceLE,Int.reduceEq,Int.reduceAdd,Int.reduceSub,Int.reduceNeg,Int.reduceToNat,aP,↓reduceIte]
    cases hC:wi p.start lo (hi+1-len)with
    |false=>simp(maxSteps:=1000000) only[go_sem,dk,bB,aY,ef,cE,Nat.reduceEqDiff,reduceCtorEq,Nat.reduceAdd,Nat.reduceMul,Nat.reduceSub,Int.reduceLT,Int.reduceLE,Int.reduceEq,Int.reduceAdd,Int.reduceSub,Int.reduceNeg,Int.reduceToNat,aP,↓reduceIte];rfl
    | true =>
     by_cases hD:(p.an.l.length:Int)=need
     ·have yP:decide ((p.an.l.length:Int)=need)=true:=bP hD
      have Fz:=iJ.1 hC
      simp(maxSteps:=1000000) only[go_sem,dk,bB,yP,aY,eA,hs,Nat.reduceEqDiff,reduceCtorEq,Nat.reduceAdd,Nat.reduceMul,Nat.reduceSub,Int.reduceLT,Int.reduceLE,Int.reduceEq,Int.reduceAdd,Int.reduceSub,Int.reduceNeg,Int.reduceToNat,aP,↓reduceIte]
      refine(main Fz.1 Fz.2 0 _ _ (bg _) ?_).trans ?_
      ·exact⟨rfl,rfl,rfl,rfl,rfl,rfl,rfl,⟨-1,rfl,rfl⟩,rfl,by simp,_,_,rfl⟩
      ·rw[ak hD]
     ·have yP:decide ((p.an.l.length:Int)=need)=false:=bS hD
      simp(maxSteps:=1000000) only[go_sem,dk,bB,yP,aY,hs,hD,cE,Nat.reduceEqDiff,reduceCtorEq,Nat.reduceAdd,Nat.reduceMul,Nat.reduceSub,Int.reduceLT,Int.reduceLE,Int.reduceEq,Int.reduceAdd,Int.reduceSub,Int.reduceNeg,Int.reduceToNat,aP,↓reduceIte];rfl
   ·have yO:decide (-1<p.req)=false:=bS hB
    have jF:dN w p []=9:=by unfold dN;rw[ak hA,Bp,aq hB]
    rw[jF]
    simp only[OW,aj,Sl.v,nO]at ft⊢
    simp(maxSteps:=1000000) only[go_sem,yc,hs,ft,lH,mS,hA,yO,dk,aY,bB,Nat.reduceEqDiff,reduceCtorEq,Nat.reduceAdd,Nat.reduceMul,Nat.reduceSub,Int.reduceLT,Int.reduceLE,Int.reduceEq,Int.reduceAdd,Int.reduceSub,Int.reduceNeg,Int.reduceToNat,aP,↓reduceIte]
    rfl
  ·have yN:wi p.req 0 (w.rs.l.length-1)=false:=by simpa using hA
   have jF:dN w p []=6:=by unfold dN;rw[aq hA]
   rw[jF]
   simp only[OW,aj,Sl.v,nO]at ft⊢
   simp(maxSteps:=1000000) only[go_sem,yc,hs,ft,lH,mS,yN,dk,aY,Nat.reduceEqDiff,reduceCtorEq,Nat.reduceAdd,Nat.reduceMul,Nat.reduceSub,Int.reduceLT,Int.reduceLE,Int.reduceEq,Int.reduceAdd,Int.reduceSub,Int.reduceNeg,Int.reduceToNat,aP,↓reduceIte]
   rfl
 | some a =>
  have gw:l[l.length-1]? =some a:=by rw[←abG];exact j7
  have Bp:ie l=a.req:=by simp[ie,j7]
  have aB:0<l.length:=by
   have:=(bd.1 gw).1;omega
  have n6:e=3:=by rcases he with h|h;(rw[h]at aB;simp at aB);exact h
  subst n6
  have hr:=cq (f:=aj) (o:=o) (es:=3) gw
  have jn:IntKind.i64.wrap ((l.length:Int)-1)=((l.length-1:Nat):Int):=by rw[bW]<;>omega
  have hd:decide ((0:Int)<(l.length:Int))=true:=bP (by omega)
  simp only[aj,Sl.v]at hr
  by_cases hA:wi p.req 0 (w.rs.l.length-1)=true
  ·by_cases hB:a.req<p.req
   ·have yO:decide (a.req<p.req)=true:=bP hB
    have uS:=iJ.1 hA
    have h0:0≤p.req:=uS.1
    have h1:p.req<w.rs.l.length:=by omega
    have hq:=hw.rq h0 h1
    have q0:=hq.qW
    have q1:=hq.bH
    have q2:=hq.p9
    have q3:=hq.pn
    have fQ:=qU hw h0 h1
    have jF:dN w p l=if wi p.start (w.rq p.req).lo ((w.rq p.req).hi+1-(w.rq p.req).len)=true then if(p.an.l.length:Int)=(w.rq p.req).need then(if eN (w.rq p.req) (-1) p.an.l=0 then(if(p.an.l.any fun a=>!cS w a p.start (w.rq p.req).len)=true then 21 else if dL w p l=true then 13 else 0)else eN (w.rq p.req) (-1) p.an.l)else 10 else 2:=by
     unfold dN;rw[ak hA,Bp,ak hB]
    rw[jF]
    have main:=main h0 h1
    have sn:=(hw.ok.an _ (W.qg h0 h1))
    have w1:IntKind.i64.wrap ((w.rq p.req).hi+1)=(w.rq p.req).hi+1:=bW (by omega) (by omega)
    have w2:IntKind.i64.wrap ((w.rq p.req).hi+1-(w.rq p.req).len)=(w.rq p.req).hi+1-(w.rq p.req).len:=bW (by omega) (by omega)
    simp only[OW,aj,bU,Sl.v]at main ft fQ⊢
    generalize w.rq p.req=q at*
    obtain⟨bw,lo,hi,len,val,⟨oa,ea,an⟩,need⟩:=q
    simp only at*
    simp(maxSteps:=1000000) only[go_sem,yc,hs,ft,lH,mS,hd,jn,hr,hA,yO,dk,aY,eA,ub,fQ,w1,w2,vA,bB,Nat.reduceEqDiff,reduceCtorEq,Nat.reduceAdd,Nat.reduceMul,Nat.reduceSub,Int.reduceLT,Int.reduceLE,Int.reduceEq,Int.reduceAdd,Int.reduceSub,Int.reduceNeg,Int.reduceToNat,aP,↓reduceIte]
    cases hC:wi p.start lo (hi+1-len)with
    |false=>simp(maxSteps:=1000000) only[go_sem,dk,bB,aY,ef,cE,Nat.reduceEqDiff,reduceCtorEq,Nat.reduceAdd,Nat.reduceMul,Nat.reduceSub,Int.reduceLT,Int.reduceLE,Int.reduceEq,Int.reduceAdd,Int.reduceSub,Int.reduceNeg,Int.reduceToNat,aP,↓reduceIte];rfl
    | true =>
     by_cases hD:(p.an.l.length:Int)=need
     ·have yP:decide ((p.an.l.length:Int)=need)=true:=bP hD
      have Fz:=iJ.1 hC
      simp(maxSteps:=1000000) only[go_sem,dk,bB,yP,aY,eA,hs,Nat.reduceEqDiff,reduceCtorEq,Nat.reduceAdd,Nat.reduceMul,Nat.reduceSub,Int.reduceLT,Int.reduceLE,Int.reduceEq,Int.reduceAdd,Int.reduceSub,Int.reduceNeg,Int.reduceToNat,aP,↓reduceIte]
      refine(main Fz.1 Fz.2 0 _ _ (bg _) ?_).trans ?_
      ·exact⟨rfl,rfl,rfl,rfl,rfl,rfl,rfl,⟨-1,rfl,rfl⟩,rfl,by simp,_,_,rfl⟩
      ·rw[ak hD]
     ·have yP:decide ((p.an.l.length:Int)=need)=false:=bS hD
      simp(maxSteps:=1000000) only[go_sem,dk,bB,yP,aY,hs,hD,cE,Nat.reduceEqDiff,reduceCtorEq,Nat.reduceAdd,Nat.reduceMul,Nat.reduceSub,Int.reduceLT,Int.reduceLE,Int.reduceEq,Int.reduceAdd,Int.reduceSub,Int.reduceNeg,Int.reduceToNat,aP,↓reduceIte];rfl
   ·have yO:decide (a.req<p.req)=false:=bS hB
    have jF:dN w p l=9:=by unfold dN;rw[ak hA,Bp,aq hB]
    rw[jF]
    simp only[OW,aj,Sl.v]at ft⊢
    simp(maxSteps:=1000000) only[go_sem,yc,hs,ft,lH,mS,hd,jn,hr,hA,yO,dk,aY,bB,Nat.reduceEqDiff,reduceCtorEq,Nat.reduceAdd,Nat.reduceMul,Nat.reduceSub,Int.reduceLT,Int.reduceLE,Int.reduceEq,Int.reduceAdd,Int.reduceSub,Int.reduceNeg,Int.reduceToNat,aP,↓reduceIte]
    rfl
  ·have yN:wi p.req 0 (w.rs.l.length-1)=false:=by simpa using hA
   have jF:dN w p l=6:=by unfold dN;rw[aq hA]
   rw[jF]
   simp only[OW,aj,Sl.v]at ft⊢
   simp(maxSteps:=1000000) only[go_sem,yc,hs,ft,lH,mS,hd,jn,hr,yN,dk,aY,Nat.reduceEqDiff,reduceCtorEq,Nat.reduceAdd,Nat.reduceMul,Nat.reduceSub,Int.reduceLT,Int.reduceLE,Int.reduceEq,Int.reduceAdd,Int.reduceSub,Int.reduceNeg,Int.reduceToNat,aP,↓reduceIte]
   rfl
theorem BS (hw : Wk w) {p : P} {l : List P} (dI : p.an.ok 1) (cD : (p.an.l.length : Int) < 1000000) (h : dN w p l = 0) : ch w p ∧ ie l < p.req ∧ dL w p l = false ∧ (w.rq p.req).lo ≤ p.start ∧ p.start ≤ (w.rq p.req).hi + 1 - (w.rq p.req).len ∧ (p.an.l.length : Int) = (w.rq p.req).need ∧ eN (w.rq p.req) (-1) p.an.l = 0 ∧ (p.an.l.any fun a => !cS w a p.start (w.rq p.req).len) = false := by
 unfold dN at h
 by_cases h1:wi p.req 0 (w.rs.l.length-1)=true
 ·rw [ak h1] at h
  by_cases h2:ie l<p.req
  ·rw [ak h2] at h
   by_cases h3:wi p.start (w.rq p.req).lo ((w.rq p.req).hi+1-(w.rq p.req).len)=true
   ·rw [ak h3] at h
    by_cases h4:(p.an.l.length:Int)=(w.rq p.req).need
    ·rw [ak h4] at h
     by_cases h5:eN (w.rq p.req) (-1) p.an.l=0
     ·rw[ak h5]at h
      cases h6:p.an.l.any fun a=>!cS w a p.start (w.rq p.req).len with
      |true=>rw[h6,ak rfl]at h;omega
      | false =>
       rw[h6,aq (by simp)]at h
       cases h7:dL w p l with
       |true=>rw[h7,ak rfl]at h;omega
       |false=>
        rw[iJ]at h1 h3
        have hq:=hw.rq h1.1 (by omega)
        have q0:=hq.qW
        have q1:=hq.bH
        have q2:=hq.p9
        have q3:=hq.pn
        have iD:=hw.v.n2
        refine⟨⟨h1.1,by omega,by omega,by omega,fun a ha=>hq.tc a (Qq ((HR (w:=w) (st:=0) (len:=0) h5).1 a ha)),dI,by omega⟩,h2,rfl,h3.1,h3.2,h4,h5,rfl⟩
     ·rw[aq h5]at h;exact absurd h h5
    ·rw[aq h4]at h;omega
   ·rw[aq h3]at h;omega
  ·rw[aq h2]at h;omega
 ·rw[aq h1]at h;omega
def dP (w:W) (l:List P):Int×Int:=match fO (fun i x=>dN w x (l.take i)) 0 l with
 |some (k,e)=>(k,e)
 |none=>(0,0)
structure gG (l:List P):Prop where
 len:l.length≤14
 ok:∀p∈l,p.an.ok 1∧p.an.l.length≤6
theorem VZ {α:Type} {f:Nat→α→Int}:∀{l:List α} {k:Nat},fO f k l=none→∀(j:Nat) x,l[j]? =some x→f (k+j) x=0
 |[],_,_,_,_,h=>by simp at h
 | a :: r, k, hn, j, x, h => by
  simp only[fO]at hn
  by_cases h1:f k a=0
  ·rw[ak h1]at hn
   cases j with
   |zero=>simp at h;subst h;exact h1
   |succ j=>
    have:=VZ hn j x (by simpa using h)
    rw[show k+(j+1)=k+1+j by omega];exact this
  ·rw[aq h1]at hn;cases hn
theorem ND (hw:Wk w) {l:List P} (hl:gG l) (h:(dP w l).2=0):∀(j:Nat) x,l[j]? =some x→dN w x (l.take j)=0:=by
 unfold dP at h
 cases hf:fO (fun i x=>dN w x (l.take i)) 0 l with
 |some q=>obtain⟨k,e⟩:=q;rw[hf]at h;exact absurd h (Jv hf)
 |none=>
  intro j x hj
  have:=VZ hf j x hj
  rwa [fB]at this
theorem UQ (hw:Wk w) {l:List P} (hl:gG l) (h:(dP w l).2=0):∀x∈l,ch w x:=fun x hx=>by
 obtain⟨j,hj⟩:=mY hx
 have h1:=hl.ok x hx
 exact(BS hw h1.1 (by omega) (ND hw hl h j x hj)).1
theorem RG {l:List P} {o:Own} {e:Nat} (hs:Ok s) (hw:Wk w) (hl:gG l) (he:l=[]∨e=3):aw AP (.fn 28) [OW w,.slice o e (l.map aj)] s=some (.tuple [I (dP w l).1,I (dP w l).2],s):=by
 have hlen:=hl.len
 have key:∀j ρ x,j≤l.length→(ρ 0=OW w∧ρ 1=.slice o e (l.map aj)∧ρ 9=.slice o e (l.map aj)∧ρ 10=I l.length∧ρ 11=I j∧(∀y∈l.take j,ch w y)∧∃bx,x=s.push ⟨bx,[]⟩)→
   go AP afP (.c (.loop Dq)::ans) ⟨ρ,x⟩=some (match fO (fun i x=>dN w x (l.take i)) j (l.drop j)with|some (k,e)=>.tuple [I k,I e]|none=>.tuple [I 0,I 0],s):=by
  refine ck l.length _ _ ?_ ?_
  ·rintro j ρ x hj ⟨h0,h1,h9,dh,dZ,dV,bx,rfl⟩ ih
   obtain⟨p,hp⟩:=get_some hj
   have Gc:=hl.ok p (bQ hp)
   have n6:e=3:=by rcases he with h|h;(rw[h]at hp;simp at hp);exact h
   subst n6
   have hr:=cq (f:=aj) (o:=o) (es:=3) hp
   obtain⟨o',oY⟩:=aaH (f:=aj) (o:=o) (es:=3) (l:=l) (k:=j) (by omega)
   have jk:∀r,aw AP (.fn 56) [OW w,.agg (aj p),.slice o' 3 ((l.take j).map aj)] (s.push r)=some (I (dN w p (l.take j)),s.push r):=fun r=>atu (hs.push r) hw Gc.1 (by omega) dV (.inr rfl) (by rw[fV];omega)
   rw[wJ hp]
   simp only[aj,Sl.v]at jk
   by_cases hz:dN w p (l.take j)=0
   ·simp(maxSteps:=1000000) only[go_sem,Dq,Dr,h0,h1,h9,dh,dZ,hs,aS hj,hr,oY,jk,hz,aY,eA,bB,bK hj (show(l.length:Int)<_ by omega),Nat.reduceEqDiff,reduceCtorEq,Nat.reduceAdd,Nat.reduceMul,Nat.reduceSub,Int.reduceLT,Int.reduceLE,Int.reduceEq,Int.reduceAdd,Int.reduceSub,Int.reduceNeg,Int.reduceToNat,aP,↓reduceIte]
    refine ih _ _ ?_
    refine⟨h0,h1,h9,dh,rfl,fun y hy=>?_,_,rfl⟩
    rw[fT hp]at hy
    rcases dD.1 hy with h|h
    ·exact dV y h
    ·simp at h;subst h;exact(BS hw Gc.1 (by omega) hz).1
   ·have hd:decide (dN w p (l.take j)=0)=false:=bS hz
    simp(maxSteps:=1000000) only[go_sem,Dq,Dr,h0,h1,h9,dh,dZ,hs,aS hj,hr,oY,jk,hz,aY,oI,hd,cE,ig,Nat.reduceEqDiff,reduceCtorEq,Nat.reduceAdd,Nat.reduceMul,Nat.reduceSub,Int.reduceLT,Int.reduceLE,Int.reduceEq,Int.reduceAdd,Int.reduceSub,Int.reduceNeg,Int.reduceToNat,aP,↓reduceIte]
  ·rintro ρ x ⟨h0,h1,h9,dh,dZ,dV,bx,rfl⟩
   simp(maxSteps:=1000000) only[go_sem,Dq,Dr,dh,dZ,bM,Nat.reduceEqDiff,reduceCtorEq,Nat.reduceAdd,Nat.reduceMul,Nat.reduceSub,Int.reduceLT,Int.reduceLE,Int.reduceEq,Int.reduceAdd,Int.reduceSub,Int.reduceNeg,Int.reduceToNat,aP,↓reduceIte]
   rw[eR];rfl
 rw[aL (show AP 28=some ED from rfl) rfl]
 simp(maxSteps:=1000000) only[go_sem,TV,Nat.reduceEqDiff,reduceCtorEq,Nat.reduceAdd,Nat.reduceMul,Nat.reduceSub,Int.reduceLT,Int.reduceLE,Int.reduceEq,Int.reduceAdd,Int.reduceSub,Int.reduceNeg,Int.reduceToNat,aP,↓reduceIte]
 refine(key 0 _ _ (bg _) ?_).trans ?_
 ·exact⟨rfl,rfl,rfl,rfl,rfl,by simp,_,rfl⟩
 ·unfold dP
  rw[kt]
  cases fO (fun i x=>dN w x (l.take i)) 0 l with
  |none=>rfl
  |some q=>obtain⟨k,e⟩:=q;rfl
def kJ (w:W) (l:List P):Int×Int:=if(dp w).2.2=0 then dP w l else(0,(dp w).2.2)
theorem aal {l:List P} {o:Own} {e:Nat} (hs:Ok s) (hw:w.Ok) (hf:w.kn) (hl:gG l) (he:l=[]∨e=3):aw AP (.fn 41) [w.v,.slice o e (l.map aj)] s=some (.tuple [if(dp w).2.2=0 then OW w else NP,I (kJ w l).1,I (kJ w l).2],s):=by
 unfold kJ
 rw[aL (show AP 41=some Er from rfl) rfl]
 by_cases hz:(dp w).2.2=0
 ·have cz:Wk w:=⟨hw,hf,rm hz⟩
  have ho:∀r,aw AP (.fn 52) [w.v] (s.push r)=some (.tuple [OW w,I 0],s.push r):=fun r=>aak (hs.push r) hw hf hz
  have hc:∀r,aw AP (.fn 28) [OW w,.slice o e (l.map aj)] (s.push r)=some (.tuple [I (dP w l).1,I (dP w l).2],s.push r):=fun r=>RG (hs.push r) cz hl he
  rw[ak hz,ak hz]
  simp only[W.v,c8,Sl.v]at ho
  simp only[OW]at ho hc⊢
  simp(maxSteps:=1000000) only[go_sem,MW,hs,ho,hc,aY,eA,Nat.reduceEqDiff,reduceCtorEq,Nat.reduceAdd,Nat.reduceMul,Nat.reduceSub,Int.reduceLT,Int.reduceLE,Int.reduceEq,Int.reduceAdd,Int.reduceSub,Int.reduceNeg,Int.reduceToNat,aP,↓reduceIte]
 ·have ho:∀r,aw AP (.fn 52) [w.v] (s.push r)=some (.tuple [NP,I (dp w).2.2],s.push r):=fun r=>aan (hs.push r) hw hf hz
  rw[aq hz,aq hz]
  simp only[W.v,c8,Sl.v]at ho
  simp(maxSteps:=1000000) only[go_sem,MW,hs,ho,aY,hz,ig,Nat.reduceEqDiff,reduceCtorEq,Nat.reduceAdd,Nat.reduceMul,Nat.reduceSub,Int.reduceLT,Int.reduceLE,Int.reduceEq,Int.reduceAdd,Int.reduceSub,Int.reduceNeg,Int.reduceToNat,aP,↓reduceIte]
def bN (w:W):List P→Int
 |[]=>0
 |p::r=>(w.rq p.req).val+bN w r
end
def ov (a b:Nat):Int×Int:=if b=0 then(0,1)else(((a/Nat.gcd a b:Nat):Int),((b/Nat.gcd a b:Nat):Int))
def fC (mi:ByteArray):List R→Nat
 |[]=>0
 |r::t=>(if r.bw=mi then r.len.toNat else 0)+fC mi t
def iB (l:List P) (mi:ByteArray):Nat→List R→Nat
 |_,[]=>0
 |k,r::t=>(if r.bw=mi then(if(aM l (k:Int)).isSome=true then r.len.toNat else 0)else 0)+iB l mi (k+1) t
section
variable{s:ae} {w:W}
theorem acH {a b:Nat} (hb:0<b):dy .rem (I (a:Int)) (I (b:Int))=some (I ((a%b:Nat):Int)):=by
 have h:(((b:Int))==0)=false:=by simp;omega
 rw[S6 h]
 congr 3
theorem S5 {a b:Nat} (hb:0<b) (ha:(a:Int)<9223372036854775808):dy .quo (I (a:Int)) (I (b:Int))=some (I ((a/b:Nat):Int)):=by
 have h:(((b:Int))==0)=false:=by simp;omega
 rw[S4 h]
 have e:((a:Int)).tdiv (b:Int)=((a/b:Nat):Int):=by
  rw[Int.tdiv_eq_ediv_of_nonneg (by omega)];simp
 have hl:a/b≤a:=Sr _ _
 rw[e]
 generalize a/b=q at*
 rw[bW (by omega) (by omega)]
theorem asn {a b:Nat} (hs:Ok s) (ha:(a:Int)<9223372036854775808) (hb:(b:Int)<9223372036854775808):aw AP (.fn 46) [I (a:Int),I (b:Int)] s=some (.agg [I (ov a b).1,I (ov a b).2],s):=by
 have key:∀(n x y:Nat) ρ m,y≤n→Nat.gcd x y=Nat.gcd a b→0<b→(ρ 0=I (a:Int)∧ρ 1=I (b:Int)∧ρ 4=.ptr s.ag.length 0 0∧ρ 5=I (x:Int)∧ρ 6=I (y:Int)∧m=s.push ⟨[[I 0,I 0]],[]⟩)→go AP afO (.c (.loop IH)::anr) ⟨ρ,m⟩=some (.agg [I (ov a b).1,I (ov a b).2],s):=by
  intro n
  induction n with
  |zero=>
   rintro x y ρ m hy hg jz ⟨h0,h1,h4,h5,h6,rfl⟩
   have jS:y=0:=by omega
   subst jS
   have hx:x=Nat.gcd a b:=by rw[←hg];simp
   have XX:0<x:=by rw[hx];exact Nat.gcd_pos_of_pos_right _ jz
   have q1:=S5 (a:=a) XX ha
   have q2:=S5 (a:=b) XX hb
   rw[go_loop]
   simp only[go_sem,IH,M1,h0,h1,h4,h5,h6,hs,aY,eA,q1,q2,aP,simprocAttr]
   rw[hx,ov,aq (by omega)]
  | succ n ih =>
   rintro x y ρ m hy hg jz ⟨h0,h1,h4,h5,h6,rfl⟩
   by_cases jS:y=0
   ·exact ih x y ρ _ (by omega) hg jz ⟨h0,h1,h4,h5,h6,rfl⟩
   ·have hr:=acH (a:=x) (b:=y) (by omega)
    have hd:decide ((y:Int)=0)=false:=bS (by omega)
    rw[go_loop]
    simp only[go_sem,IH,h5,h6,aY,oI,hd,hr,simprocAttr]
    refine ih y (x%y) _ _ (by have:=sZ x (show 0<y by omega);omega) ?_ jz ?_
    ·rw[←hg,Nat.gcd_comm x y,Nat.gcd_rec y x,Nat.gcd_comm]
    ·exact⟨h0,h1,h4,rfl,rfl,rfl⟩
 rw[aL (show AP 46=some Ew from rfl) rfl]
 by_cases jz:b=0
 ·subst jz
  simp only[go_sem,M0,hs,aP,simprocAttr]
  rfl
 ·have hd:decide ((b:Int)=0)=false:=bS (by omega)
  simp only[go_sem,M0,hd,simprocAttr]
  exact key b a b _ _ (aH _) rfl (by omega) ⟨rfl,rfl,rfl,rfl,rfl,rfl⟩
theorem Ta {mi:ByteArray}:∀{l r:List R},fC mi (l++r)=fC mi l+fC mi r
 |[],r=>by simp[fC]
 |i::l,r=>by simp only[kq,fC,Ta];omega
theorem Wt {p:List P} {mi:ByteArray}:∀{l r:List R} {k:Nat},iB p mi k (l++r)=iB p mi k l+iB p mi (k+l.length) r
 |[],r,k=>by simp[iB]
 |i::l,r,k=>by simp only[kq,iB,Wt,dO];rw[show k+1+l.length=k+(l.length+1)by omega];omega
theorem L7 {mi:ByteArray}:∀{l:List R},(∀r∈l,r.len≤200)→fC mi l≤200*l.length
 |[],_=>by simp[fC]
 |r::t,h=>by
  have h1:=L7 (mi:=mi) (l:=t) fun x hx=>h x (jf _ hx)
  have h2:=h r (xS ..)
  simp only[fC,dO]
  split<;>omega
theorem Od {p:List P} {mi:ByteArray}:∀{l:List R} {k:Nat},(∀r∈l,r.len≤200)→iB p mi k l≤200*l.length
 |[],_,_=>by simp[iB]
 |r::t,k,h=>by
  have h1:=Od (p:=p) (mi:=mi) (l:=t) (k:=k+1) fun x hx=>h x (jf _ hx)
  have h2:=h r (xS ..)
  simp only[iB,dO]
  split
  ·split<;>omega
  ·omega
def G4 (w:W) (l:List P) (mi:ByteArray):Int×Int×Int:=
 if(kJ w l).2=0 then
  if fC mi w.rs.l=0 then(0,0,6)else((ov (iB l mi 0 w.rs.l) (fC mi w.rs.l)).1,(ov (iB l mi 0 w.rs.l) (fC mi w.rs.l)).2,0)
 else(0,0,(kJ w l).2)
theorem asb {l:List P} {o:Own} {e:Nat} {mi:ByteArray} (hs:Ok s) (hw:w.Ok) (hf:w.kn) (hl:gG l) (he:l=[]∨e=3):aw AP (.fn 19) [w.v,.slice o e (l.map aj),S mi] s=some (.tuple [.agg [I (G4 w l mi).1,I (G4 w l mi).2.1],I (G4 w l mi).2.2],s):=by
 have hlen:=hl.len
 have ho:∀r,aw AP (.fn 41) [w.v,.slice o e (l.map aj)] (s.push r)=some (.tuple [if(dp w).2.2=0 then OW w else NP,I (kJ w l).1,I (kJ w l).2],s.push r):=fun r=>aal (hs.push r) hw hf hl he
 have dI:∀i r,aw AP (.fn 45) [.slice o e (l.map aj),I i] (s.push r)=some (.tuple [.agg (aj ((aM l i).getD bV)),B (aM l i).isSome],s.push r):=fun i r=>GV (hs.push r) he (by omega) fun p h=>(hl.ok p h).1
 rw[aL (show AP 19=some Eh from rfl) rfl]
 unfold G4
 by_cases hz:(kJ w l).2=0
 ·have jR:(dp w).2.2=0:=by
   unfold kJ at hz
   by_cases h:(dp w).2.2=0
   ·exact h
   ·rw[aq h]at hz;exact absurd hz h
  have hv:=rm jR
  have er:=hv.rl
  have F1:∀r∈w.rs.l,r.len≤200:=fun r hr=>by
   have:=hv.r r hr
   have:=this.pn
   have:=(hv.r r hr).qW
   have:=(hv.r r hr).bH
   have:=hv.n2
   omega
  have ha:=L7 (mi:=mi) F1
  have hg:=Od (p:=l) (mi:=mi) (k:=0) F1
  have ke:∀r,aw AP (.fn 46) [I (iB l mi 0 w.rs.l:Int),I (fC mi w.rs.l:Int)] (s.push r)=some (.agg [I (ov (iB l mi 0 w.rs.l) (fC mi w.rs.l)).1,I (ov (iB l mi 0 w.rs.l) (fC mi w.rs.l)).2],s.push r):=fun r=>asn (hs.push r) (by omega) (by omega)
  have key:∀j ρ x,j≤w.rs.l.length→(ρ 1=.slice o e (l.map aj)∧ρ 2=S mi∧ρ 6=.ptr s.ag.length 1 0∧ρ 11=I (iB l mi 0 (w.rs.l.take j):Int)∧ρ 12=I (fC mi (w.rs.l.take j):Int)∧ρ 29=.slice w.rs.o w.rs.e (w.rs.l.map bU)∧ρ 30=I w.rs.l.length∧ρ 31=I j∧∃b0 bx,x=s.push ⟨b0::[I 0,I 0]::bx,[]⟩)→
    go AP afI (.c (.loop ya)::anh) ⟨ρ,x⟩=some (.tuple [.agg [I (if fC mi w.rs.l=0 then((0:Int),(0:Int),(6:Int))else((ov (iB l mi 0 w.rs.l) (fC mi w.rs.l)).1,(ov (iB l mi 0 w.rs.l) (fC mi w.rs.l)).2,0)).1,I (if fC mi w.rs.l=0 then((0:Int),(0:Int),(6:Int))else((ov (iB l mi 0 w.rs.l) (fC mi w.rs.l)).1,(ov (iB l mi 0 w.rs.l) (fC mi w.rs.l)).2,0)).2.1],I (if fC mi w.rs.l=0 then((0:Int),(0:Int),(6:Int))else((ov (iB l mi 0 w.rs.l) (fC mi w.rs.l)).1,(ov (iB l mi 0 w.rs.l) (fC mi w.rs.l)).2,0)).2.2],s):=by
   refine ck w.rs.l.length _ _ ?_ ?_
   ·rintro j ρ x hj ⟨h1,h2,h6,dZ,cG,yK,uP,A5,b0,bx,rfl⟩ ih
    obtain⟨r,fG⟩:=get_some hj
    have XE:=bQ fG
    have hr:=Sl.ix (f:=bU) hw.rs fG
    have Kg:=hv.r r XE
    have avz:=F1 r XE
    have zh:=Kg.p9
    have hp:=dI (j:Int)
    have PI:=L7 (mi:=mi) (l:=w.rs.l.take j) fun x hx=>F1 x (xT hx)
    have htg:=Od (p:=l) (mi:=mi) (l:=w.rs.l.take j) (k:=0) fun x hx=>F1 x (xT hx)
    have XK:(w.rs.l.take j).length=j:=by rw[fV];omega
    have JL:fC mi (w.rs.l.take (j+1))=fC mi (w.rs.l.take j)+(if r.bw=mi then r.len.toNat else 0):=by rw[fT fG,Ta];simp[fC]
    have sc:iB l mi 0 (w.rs.l.take (j+1))=iB l mi 0 (w.rs.l.take j)+(if r.bw=mi then(if(aM l (j:Int)).isSome=true then r.len.toNat else 0)else 0):=by rw[fT fG,Wt,XK];simp[iB]
    have ib:=bK hj (show(w.rs.l.length:Int)<_ by omega)
    simp only[aj,Sl.v]at hp hr
    by_cases hm:r.bw=mi
    ·rw[ak hm]at JL sc
     have hd:decide (r.bw=mi)=true:=bP hm
     have w1:IntKind.i64.wrap ((fC mi (w.rs.l.take j):Int)+r.len)=((fC mi (w.rs.l.take (j+1)):Nat):Int):=by rw[JL,bW (by omega) (by omega)];omega
     cases u9:(aM l (j:Int)).isSome with
     |true=>
      rw[u9]at hp
      rw[u9,ak rfl]at sc
      have w2:IntKind.i64.wrap ((iB l mi 0 (w.rs.l.take j):Int)+r.len)=((iB l mi 0 (w.rs.l.take (j+1)):Nat):Int):=by rw[sc,bW (by omega) (by omega)];omega
      simp only[go_sem,ya,h1,h2,dZ,cG,yK,uP,A5,hs,aS hj,hr,aY,oI,hd,hp,w1,w2,ib,simprocAttr]
      refine ih _ _ ?_
      exact⟨h1,h2,h6,rfl,rfl,yK,uP,rfl,_,_,rfl⟩
     |false=>
      rw[u9]at hp
      rw[u9,aq (by simp),vQ]at sc
      simp only[go_sem,ya,h1,h2,cG,yK,uP,A5,hs,aS hj,hr,aY,oI,hd,hp,w1,ib,simprocAttr]
      refine ih _ _ ?_
      exact⟨h1,h2,h6,by rw[sc];exact dZ,rfl,yK,uP,rfl,_,_,rfl⟩
    ·rw[aq hm,vQ]at JL sc
     have hd:decide (r.bw=mi)=false:=bS hm
     simp only[go_sem,ya,h2,yK,uP,A5,hs,aS hj,hr,aY,oI,hd,ib,simprocAttr]
     refine ih _ _ ?_
     exact⟨h1,h2,h6,by rw[sc];exact dZ,by rw[JL];exact cG,yK,uP,rfl,_,_,rfl⟩
   ·rintro ρ x ⟨h1,h2,h6,dZ,cG,yK,uP,A5,b0,bx,rfl⟩
    rw[jg]at dZ cG
    by_cases hk:fC mi w.rs.l=0
    ·have hd:decide ((fC mi w.rs.l:Int)=0)=true:=bP (by omega)
     simp only[hk,bB]
     simp only[go_sem,ya,Iz,h6,cG,uP,A5,hs,bM,hd,simprocAttr]
    ·have hd:decide ((fC mi w.rs.l:Int)=0)=false:=bS (by omega)
     simp only[hk,cE]
     simp only[go_sem,ya,Iz,h6,dZ,cG,uP,A5,hs,bM,hd,ke,simprocAttr]
  rw[ak jR,hz]at ho
  rw[ak hz]
  simp only[W.v,c8,Sl.v]at ho
  simp only[go_sem,MQ,ho,aY,eA,simprocAttr]
  refine key 0 _ _ (bg _) ?_
  exact⟨rfl,rfl,rfl,rfl,rfl,rfl,rfl,rfl,_,_,rfl⟩
 ·simp only[W.v,c8,Sl.v]at ho
  rw[aq hz]
  simp only[go_sem,MQ,hs,ho,aY,hz,ig,simprocAttr]
end
def tx (l:List UInt8):ByteArray:=⟨l.toArray⟩
theorem atb {a b:List UInt8}:tx a++tx b=tx (a++b):=by
 apply Lm
 show(tx a++tx b).data=_
 simp[tx]
theorem aa6 {a:List UInt8}:(tx a).size=a.length:=by simp[tx,ByteArray.size]
theorem HT {a b:List UInt8} (h:a.length+b.length≤100000000):dy .add (S (tx a)) (S (tx b))=some (S (tx (a++b))):=by
 have h2:¬((((tx a).size+(tx b).size:Nat):Int)>IntKind.i64.max):=by
  have:IntKind.i64.max=9223372036854775807:=by decide
  rw[this,aa6,aa6];omega
 show Option.map AV.v (sO .add (tx a) (tx b))=_
 unfold sO
 simp only[h2,cE,atb]
 rfl
def Small (p:P):Prop:=(0≤p.req∧p.req<100)∧(0≤p.start∧p.start<100)∧p.an.l.length≤1000∧∀a∈p.an.l,0≤a∧a<100
def nQ:List Int→List UInt8
 |[]=>[]
 |a::r=>43::fi a.toNat++nQ r
def vG (p:P):List UInt8:=fi p.req.toNat++[64]++fi p.start.toNat++nQ p.an.l
def Ft (l:List P):List UInt8:=[32].intercalate (l.map vG)
theorem AN {n:Nat}:(fi n).length≤2:=by unfold fi;split<;>simp
theorem L0:∀{l:List Int},(nQ l).length≤3*l.length
 |[]=>by simp[nQ]
 |a::r=>by
  have h1:=L0 (l:=r)
  have h2:=AN (n:=a.toNat)
  simp only[nQ,dO,cj];omega
theorem SV:∀{l r:List Int},nQ (l++r)=nQ l++nQ r
 |[],r=>rfl
 |a::l,r=>by simp only[kq,nQ,SV,gW]
section
variable{s:ae} {w:W}
theorem itoa {n:Int} (h0:0≤n) (h1:n<100):aw AP (.fn 47) [I n] s=some (S (tx (fi n.toNat)),s):=by
 rw[UA (show AP 47=some BQ from rfl)]
 simp only[mq,oH,pK,eK,dK,Kw]
 rw[ak ⟨h0,h1⟩];rfl
theorem aaQ:∀{ls:List (List UInt8)},tZ (ls.map fun x=>[S (tx x)])=some ls
 |[]=>rfl
 |a::r=>by
  simp only[iM,tZ,aaQ (ls:=r),dK]
  simp[tx]
theorem join {x:AV} {ls:List (List UInt8)} {es:Nat} (hx:x.close=some (bG es (ls.map fun x=>[S (tx x)]))) (h1:ls.length≤1000000) (h2:([32].intercalate ls).length≤1000000):
  aw AP (.fn 48) [x,S (tx [32])] s=some (S (tx ([32].intercalate ls)),s):=by
 rw[UA (show AP 48=some BR from rfl)]
 simp only[mq,oH,hx,NG,eK,dK]
 have hs:tZ (ls.map fun x=>[S (tx x)])=some ls:=aaQ
 have ht:(tx [32]).data.toList=[32]:=by simp[tx]
 cases ls with
 |nil=>simp only[nO,bG,GC,tZ,eK,ht];rfl
 |cons a r=>
  simp only[iM,bG,GC]
  simp only[iM]at hs
  rw[hs]
  simp only[eK,ht]
  rw[ak ⟨h1,h2⟩];rfl
theorem atE {p:P} (h:Small p):(vG p).length≤3010:=by
 have h1:=AN (n:=p.req.toNat)
 have h2:=AN (n:=p.start.toNat)
 have h3:=L0 (l:=p.an.l)
 have h4:=h.2.2.1
 simp only[vG,cj,xR];omega
theorem Yc:∀{ls:List (List UInt8)} {m:Nat},(∀x∈ls,x.length≤m)→([32].intercalate ls).length≤(m+1)*ls.length
 |[],m,_=>by simp[List.intercalate]
 |[a],m,h=>by
  have:=h a (by simp)
  simp[List.intercalate];omega
 |a::b::r,m,h=>by
  have h1:=Yc (ls:=b::r) (m:=m) fun x hx=>h x (jf _ hx)
  have h2:=h a (by simp)
  have e:[32].intercalate (a::b::r)=a++[32]++[32].intercalate (b::r):=by simp[List.intercalate,List.intersperse]
  have e2:(a::b::r).length=(b::r).length+1:=rfl
  have e3:(m+1)*((b::r).length+1)=(m+1)*(b::r).length+(m+1):=by rw[Nat.mul_add,SC]
  have e4:(a++[32]++[32].intercalate (b::r)).length=a.length+1+([32].intercalate (b::r)).length:=by rw[cj,cj];rfl
  rw[e,e2,e3,e4]
  omega
theorem ar9 {l:List P} {o:Own} {e:Nat} (hs:Ok s) (he:l=[]∨e=3) (hl:l.length≤100) (bE:∀p∈l,p.an.ok 1∧Small p):aw AP (.fn 20) [.slice o e (l.map aj)] s=some (S (tx (Ft l)),s):=by
 have key:∀(j:Nat) ρ x,j≤l.length→(ρ 9=.slice o e (l.map aj)∧ρ 10=I l.length∧ρ 11=I j∧∃og tk bx,Acc s.ag.length 1 (((l.take j).map vG).map fun x=>[S (tx x)]) (ρ 3) og tk∧x=s.push ⟨bx,tk⟩)→go AP VO (.c (.loop Dd)::ane) ⟨ρ,x⟩=some (S (tx (Ft l)),s):=by
  refine ck l.length _ _ ?_ ?_
  ·rintro j ρ x hj ⟨h9,dh,dZ,og,tk,bx,hA,rfl⟩ ih
   obtain⟨p,hp⟩:=get_some hj
   have Gc:=bE p (bQ hp)
   obtain⟨⟨a1,a2⟩,⟨a3,a4⟩,a5,a6⟩:=Gc.2
   have n6:e=3:=by rcases he with h|h;(rw[h]at hp;simp at hp);exact h
   subst n6
   have hr:=cq (f:=aj) (o:=o) (es:=3) hp
   have d1:=AN (n:=p.req.toNat)
   have d2:=AN (n:=p.start.toNat)
   have i1:∀q:ae,aw AP (.fn 47) [I p.req] q=some (S (tx (fi p.req.toNat)),q):=fun q=>itoa a1 a2
   have i2:∀q:ae,aw AP (.fn 47) [I p.start] q=some (S (tx (fi p.start.toNat)),q):=fun q=>itoa a3 a4
   have s1 : dy .add (S (tx (fi p.req.toNat))) (S ⟨#[64]⟩) = some (S (tx (fi p.req.toNat ++ [64]))) := HT (by simp; omega)
   have s2:dy .add (S (tx (fi p.req.toNat++[64]))) (S (tx (fi p.start.toNat)))=some (S (tx (fi p.req.toNat++[64]++fi p.start.toNat))):=HT (by simp;omega)
   have ib:=bK hj (show(l.length:Int)<_ by omega)
   have p8:∀(q:Nat) ρ x,q≤p.an.l.length→((∃y,ρ 6=S y∧y=tx (fi p.req.toNat++[64]++fi p.start.toNat++nQ (p.an.l.take q)))∧ρ 9=.slice o 3 (l.map aj)∧ρ 10=I l.length∧ρ 11=I j∧ρ 24=p.an.v aD∧ρ 25=I p.an.l.length∧ρ 26=I q∧
     ∃og tk bx,Acc s.ag.length 1 (((l.take j).map vG).map fun x=>[S (tx x)]) (ρ 3) og tk∧x=s.push ⟨bx,tk⟩)→go AP VO (.c (.loop Iu)::anf) ⟨ρ,x⟩=some (S (tx (Ft l)),s):=by
    refine ck p.an.l.length _ _ ?_ ?_
    ·rintro q ρ x hq ⟨⟨y,h6,hy⟩,h9,dh,dZ,kY,kZ,mC,og,tk,bx,hA,rfl⟩ fI
     obtain⟨a,ha⟩:=get_some hq
     have rU:=a6 a (bQ ha)
     have hr:=Sl.ix (f:=aD) Gc.1 ha
     have d3:=AN (n:=a.toNat)
     have d4:=L0 (l:=p.an.l.take q)
     have d5:(p.an.l.take q).length≤1000:=by rw[fV];omega
     have i3:∀m:ae,aw AP (.fn 47) [I a] m=some (S (tx (fi a.toNat)),m):=fun m=>itoa rU.1 rU.2
     have s3 : dy .add (S ⟨#[43]⟩) (S (tx (fi a.toNat))) = some (S (tx ([43] ++ fi a.toNat))) := HT (a := [43]) (by simp; omega)
     have s4:dy .add (S (tx (fi p.req.toNat++[64]++fi p.start.toNat++nQ (p.an.l.take q)))) (S (tx ([43]++fi a.toNat)))=some (S (tx (fi p.req.toNat++[64]++fi p.start.toNat++nQ (p.an.l.take q)++([43]++fi a.toNat)))):=HT (by simp only[cj,xR];omega)
     rw[←hy]at s4
     obtain⟨z3,hz3⟩:∃z,tx ([43]++fi a.toNat)=z:=⟨_,rfl⟩
     obtain⟨z4,X5⟩:∃z,tx (fi p.req.toNat++[64]++fi p.start.toNat++nQ (p.an.l.take q)++([43]++fi a.toNat))=z:=⟨_,rfl⟩
     rw[hz3]at s3 s4
     rw[X5]at s4
     simp only[Sl.v]at kY hr
     simp only[go_sem,Iu,h6,kY,kZ,mC,aS hq,hr,i3,s3,s4,bK hq (show(p.an.l.length:Int)<_ by omega),simprocAttr]
     refine fI _ _ ?_
     refine⟨⟨z4,rfl,?_⟩,h9,dh,dZ,by simp only[Sl.v];exact kY,kZ,rfl,og,tk,_,hA,rfl⟩
     rw[fT ha,SV,←X5]
     simp[nQ]
    ·rintro ρ x ⟨⟨y,h6,hy⟩,h9,dh,dZ,kY,kZ,mC,og,tk,bx,hA,rfl⟩
     rw[jg]at hy
     rw[hy]at h6
     have aR:(l.take j).length≤100:=by rw[fV];omega
     obtain⟨x',gl,tk',cQ,eL,_⟩:=hA.append hs .full (ys:=[[S (tx (vG p))]]) (by simp) (by simp;omega)
     have Wz:ρ 6=S (tx (vG p)):=h6
     obtain⟨z5,X6⟩:∃z,tx (vG p)=z:=⟨_,rfl⟩
     rw[X6]at Wz cQ eL
     simp only[go_sem,Iu,MO,MN,Wz,dZ,kZ,mC,bM,cQ,ib,simprocAttr]
     refine ih _ _ ?_
     refine⟨h9,dh,rfl,gl,tk',_,?_,rfl⟩
     rw[fT hp,iL,iL,List.map_singleton,List.map_singleton,X6];exact eL
   simp only[aj,Sl.v]at hr p8
   obtain⟨z1,PX⟩:∃z,tx (fi p.req.toNat++[64])=z:=⟨_,rfl⟩
   obtain⟨z2,Ko⟩:∃z,tx (fi p.req.toNat++[64]++fi p.start.toNat)=z:=⟨_,rfl⟩
   rw[PX]at s1 s2
   rw[Ko]at s2
   simp only[go_sem,Dd,h9,dh,dZ,hs,aS hj,hr,i1,i2,s1,s2,simprocAttr]
   refine p8 0 _ _ (bg _) ?_
   refine⟨⟨z2,rfl,?_⟩,h9,dh,dZ,rfl,rfl,rfl,og,tk,_,hA,rfl⟩
   rw[show p.an.l.take 0=[]from rfl,nQ,jd,Ko]
  ·rintro ρ x ⟨h9,dh,dZ,og,tk,bx,hA,rfl⟩
   rw[jg]at hA
   have hj : ∀ q : ae, aw AP (.fn 48) [ρ 3, S ⟨#[32]⟩] q = some (S (tx (Ft l)), q) := fun q => join hA.close (by simp; omega) (by
    have h1:=Yc (ls:=l.map vG) (m:=3010) fun x hx=>by
     obtain⟨p,hp,rfl⟩:=cC.1 hx
     exact atE (bE p hp).2
    rw[bY]at h1
    have h2:=Nat.mul_le_mul_left 3011 hl
    omega)
   simp only[go_sem,Dd,Iw,dh,dZ,bM,hj,simprocAttr]
 rw[aL (show AP 20=some Eg from rfl) rfl]
 simp only[go_sem,TF,simprocAttr]
 refine key 0 _ _ (bg _) ?_
 exact⟨rfl,rfl,rfl,none,[],[],Acc.start,rfl⟩
def WK : W := ⟨10, ⟨.full, 3, [⟨⟨#[97]⟩, 1, ⟨.full, 2, [(4, 4)]⟩⟩, ⟨⟨#[98]⟩, 0, ⟨.aA, 0, []⟩⟩]⟩,
 ⟨.full, 7, [⟨⟨#[109, 97, 114, 115]⟩, 0, 5, 3, 10, ⟨.full, 1, [0]⟩, 1⟩, ⟨⟨#[109, 111, 111, 110]⟩, 0, 4, 2, 7, ⟨.full, 1, [0, 1]⟩, 1⟩, ⟨⟨#[109, 97, 114, 115]⟩, 0, 9, 4, 6, ⟨.full, 1, [0, 1]⟩, 2⟩]⟩⟩
theorem anT (hs:Ok s):aw AP (.fn 18) [] s=some (WK.v,s):=by
 rw[aL (show AP 18=some DS from rfl) rfl]
 simp only[go_sem,Tp,hs,simprocAttr]
 rfl
end
def L3:List P:=[⟨0,0,fh [0]⟩,⟨1,0,fh [1]⟩,⟨2,5,fh [0,1]⟩]
def Qo : ByteArray := ⟨#[109, 97, 114, 115]⟩
theorem abX:jb WK=0:=by decide+kernel
theorem abU:(DD WK).1=L3:=by kernel_rfl
theorem abY:(DD WK).2.1=23:=by decide+kernel
theorem abW:G4 WK L3 Qo=(1,1,0):=by decide+kernel
theorem abV:Ft L3=[48,64,48,43,48,32,49,64,48,43,49,32,50,64,53,43,48,43,49]:=by decide+kernel
theorem SJ:WK.Ok:=by
 refine⟨⟨.inr rfl,.inr (.inl rfl)⟩,fun a ha=>?_,⟨.inr rfl,.inr (.inl rfl)⟩,fun r hr=>?_⟩
 ·simp only[WK,eB,zQ,zC]at ha
  rcases ha with rfl|rfl
  ·exact⟨.inr rfl,.inr (.inl rfl)⟩
  ·exact⟨.inl rfl,.inr (.inr ⟨rfl,rfl⟩)⟩
 ·simp only[WK,eB,zQ,zC]at hr
  rcases hr with rfl|rfl|rfl<;>exact⟨.inr rfl,.inr (.inl rfl)⟩
theorem SI:WK.kn:=by
 refine⟨by decide,by decide,fun a ha=>?_,fun a ha=>?_,fun r hr=>?_,fun r hr=>?_⟩
 ·simp only[WK,eB,zQ,zC]at ha
  rcases ha with rfl|rfl<;>decide
 ·simp only[WK,eB,zQ,zC]at ha
  rcases ha with rfl|rfl<;>decide
 ·simp only[WK,eB,zQ,zC]at hr
  rcases hr with rfl|rfl|rfl<;>decide
 ·simp only[WK,eB,zQ,zC]at hr
  rcases hr with rfl|rfl|rfl<;>decide
section
variable{s:ae}
theorem ac1 {n:Int} (hs:Ok s):aw AP (.fn 21) [I n] s=some (.agg [I n,I 1],s):=by
 rw[aL (show AP 21=some DJ from rfl) rfl]
 simp only[go_sem,Ti,hs,simprocAttr]
theorem Hl:∀p∈L3,p.an.ok 1∧p.an.l.length≤6∧Small p:=by
 intro p hp
 simp only[L3,eB,zQ,zC]at hp
 rcases hp with rfl|rfl|rfl<;>refine⟨Fj,by decide,⟨by decide,by decide⟩,⟨by decide,by decide⟩,by decide,fun a ha=>?_⟩<;>simp[fh]at ha<;>omega
theorem anU (hs:Ok s):aw AP (.fn 4) [] s=some (B true,s):=by
 have cz:∀r,aw AP (.fn 18) [] (s.push r)=some (WK.v,s.push r):=fun r=>anT (hs.push r)
 have qE:∀r,aw AP (.fn 17) [WK.v] (s.push r)=some (.tuple [bG 3 (L3.map aj),I 23,I 0],s.push r):=fun r=>by
  rw[ar8 (hs.push r) SJ SI,abX,ak rfl,ak rfl,abU,abY]
 have yR:bG 3 (L3.map aj)=.slice .any 3 (L3.map aj):=rfl
 have cD:gG L3:=⟨by decide,fun p hp=>⟨(Hl p hp).1,(Hl p hp).2.1⟩⟩
 have ke:∀r,aw AP (.fn 19) [WK.v,.slice .any 3 (L3.map aj),S Qo] (s.push r)=some (.tuple [.agg [I 1,I 1],I 0],s.push r):=fun r=>by
  rw[asb (hs.push r) SJ SI cD (.inr rfl),abW]
 have Bl:∀r,aw AP (.fn 20) [.slice .any 3 (L3.map aj)] (s.push r)=some (S (tx [48,64,48,43,48,32,49,64,48,43,49,32,50,64,53,43,48,43,49]),s.push r):=fun r=>by
  rw[ar9 (hs.push r) (.inr rfl) (by decide) fun p hp=>⟨(Hl p hp).1,(Hl p hp).2.2⟩,abV]
 have hwh:∀r,aw AP (.fn 21) [I 1] (cT (s.push r))=some (.agg [I 1,I 1],cT (s.push r)):=fun r=>ac1 vu
 rw[yR]at qE
 simp only[Qo]at ke
 generalize hv:WK.v=V at*
 generalize(AV.slice .any 3 (L3.map aj))=VL at*
 rw[aL (show AP 4=some DT from rfl) rfl]
 have hds : decide (tx [48, 64, 48, 43, 48, 32, 49, 64, 48, 43, 49, 32, 50, 64, 53, 43, 48, 43, 49] = ⟨#[48, 64, 48, 43, 48, 32, 49, 64, 48, 43, 49, 32, 50, 64, 53, 43, 48, 43, 49]⟩) = true := bP rfl
 have heq:oK (.agg [.int,.int]) (.agg [I 1,I 1]) (.agg [I 1,I 1])=some true:=rfl
 simp only[go_sem,Tq,hs,cz,qE,ke,Bl,hwh,hds,heq,simprocAttr]
end
theorem nT {p q:Prop} [Decidable p] [Decidable q] (h:p↔¬q):decide p=!decide q:=by
 by_cases hq:q
 ·rw[bP hq,bS (fun hp=>h.1 hp hq)];rfl
 ·rw[bS hq,bP (h.2 hq)];rfl
theorem Vi {p q:Prop} [Decidable p] [Decidable q] (h:p↔q):decide p=decide q:=by
 by_cases hq:q
 ·rw[bP hq,bP (h.2 hq)]
 ·rw[bS hq,bS (fun hp=>hq (h.1 hp))]
section
variable{s:ae} {w:W}
theorem fW {a b c:Int}:aw AP (.fn 26) [I a,I b,I c] s=some (B (wi a b c),s):=by
 rw[aL (show AP 26=some DK from rfl) rfl]
 simp only[go_sem,Tj,simprocAttr]
 unfold wi
 cases decide (b≤a)<;>cases decide (a≤c)<;>rfl
theorem ixs {x:ByteArray} {k:Nat} {c:UInt8} (h:x.data.toList[k]? =some c):BA (S x) (I (k:Int))=some (.v (.int .u8 c.toNat)):=by
 have hk:=(bd.1 h).1
 have u5:k<x.size:=by simpa using hk
 have hb:x[k]? =some c:=by
  have h1:x.data[k]? =some c:=by simpa using h
  obtain⟨h2,h3⟩:=uf.1 h1
  rw[getElem?_pos x k u5]
  exact hU some h3
 simp only[BA]
 rw[Kp u5]
 simp only[eK,hb,dK]
theorem aoX {x:List UInt8} {k:Nat} {c:UInt8} (h:x[k]? =some c):qY k (x.drop k)=(nameAt k c&&qY (k+1) (x.drop (k+1))):=YV h
theorem Td {x:ByteArray} (hx:(x.size:Int)<9223372036854775808):aw AP (.fn 98) [S x] s=some (B (isName x),s):=by
 have bR:x.data.size=x.size:=rfl
 have hl:x.data.toList.length=x.size:=by simp[bR]
 have key:∀k ρ m,k≤x.size→(ρ 0=S x∧ρ 3=I k∧m=s.push ⟨[],[]⟩)→go AP Vy (.c (.loop CN)::Ye) ⟨ρ,m⟩=some (B (qY k (x.data.toList.drop k)),s):=by
  refine ck x.size _ _ ?_ ?_
  ·rintro k ρ m hk ⟨h0,h3,rfl⟩ ih
   obtain⟨c,hc⟩:=get_some (l:=x.data.toList) (k:=k) (by omega)
   have hr:=ixs hc
   rw[aoX hc,YU]
   have fI:∀(ρ':Nat→AV),ρ' 0=S x→ρ' 3=I ((k+1:Nat):Int)→go AP Vy (.c (.loop CN)::Ye) ⟨ρ',s.push ⟨[],[]⟩⟩=some (B (qY (k+1) (List.drop (k+1) x.data.toList)),s):=fun ρ' a b=>ih ρ' _ ⟨a,b,rfl⟩
   simp only[go_sem,CN,h0,h3,aS hk,hr,bK hk hx,simprocAttr]
   simp only[aY,oI]
   have e8:decide ((c.toNat:Int)<48)=!decide ((48:Int)≤(c.toNat:Int)):=dec_lt _ _
   have e9:decide ((57:Int)<(c.toNat:Int))=!decide ((c.toNat:Int)≤57):=dec_lt _ _
   rw[e8,e9]
   generalize decide ((97:Int)≤(c.toNat:Int))=a1
   generalize decide ((c.toNat:Int)≤122)=a2
   generalize decide ((65:Int)≤(c.toNat:Int))=a3
   generalize decide ((c.toNat:Int)≤90)=a4
   generalize decide ((c.toNat:Int)=45)=a5
   generalize decide ((48:Int)≤(c.toNat:Int))=a6
   generalize decide ((c.toNat:Int)≤57)=a7
   generalize decide ((k:Int)=0)=a8
   generalize qY (k+1) (List.drop (k+1) x.data.toList)=nf at*
   cases a1<;>cases a2<;>cases a3<;>cases a4<;>cases a5<;>cases a6<;>cases a7<;>cases a8<;>first
    |rfl
    |exact fI _ h0 rfl
  ·rintro ρ m ⟨h0,h3,rfl⟩
   simp only[go_sem,CN,Mb,h0,h3,bM,simprocAttr]
   rw[←hl,eR];rfl
 rw[aL (show AP 98=some DI from rfl) rfl]
 have e1:decide ((x.size:Int)<1)=!decide (1≤x.size):=nT (by omega)
 have e2:decide ((12:Int)<(x.size:Int))=!decide (x.size≤12):=nT (by omega)
 simp only[go_sem,Tg,e1,e2,simprocAttr]
 unfold isName
 cases decide (1≤x.size)with
 |false=>simp only[go_sem,nI,jL,simprocAttr]<;>rfl
 | true =>
  cases decide (x.size≤12)with
  |false=>simp only[go_sem,nI,sQ,simprocAttr]<;>rfl
  |true=>
   simp only[go_sem,sQ,simprocAttr]
   exact key 0 _ _ (bg _) ⟨rfl,rfl,rfl⟩
theorem zF {n x y:Int} {o1 o2:Own} {e1 e2:Nat} {r1 r2:List (List AV)} (hs:Ok s) (hn:1≤n) (iD:n≤200):aw AP (.fn 99) [.agg [I n,.slice o1 e1 r1,.slice o2 e2 r2],.agg [I x,I y]] s=some (I (jU n x y),s):=by
 rw[aL (show AP 99=some Ed from rfl) rfl]
 have e:decide (y<x)=!decide (x≤y):=dec_lt _ _
 simp only[go_sem,TD,fW,bW (x:=n-1) (by omega) (by omega),e,simprocAttr]
 unfold jU
 cases wi x 0 (n-1)<;>cases wi y 0 (n-1)<;>by_cases h:x≤y<;>simp only[go_sem,h,simprocAttr]<;>simp
theorem arw {n:Int} {as:List A} {o1 o2:Own} {e2:Nat} {rs:List (List AV)} {k:Nat} {a:A} (hs:Ok s) (OJ:a.cl.l=[]∨a.cl.e=2) (hn:1≤n) (iD:n≤200) (ha:as[k]? =some a) (bR:(a.name.size:Int)<9223372036854775808) (hl:as.length≤4) (aT:(a.cl.l.length:Int)<9223372036854775808):
  aw AP (.fn 80) [.agg [I n,.slice o1 3 (as.map bZ),.slice o2 e2 rs],I k] s=some (I (kU n as k a),s):=by
 have hk:k<as.length:=(bd.1 ha).1
 obtain⟨name,ja,⟨oc,ec,cl⟩⟩:=a
 have cr:=cq (f:=bZ) (o:=o1) (es:=3) ha
 have pX:∀{m:ae},aw AP (.fn 98) [S name] m=some (B (isName name),m):=Td bR
 have h6:decide ((6:Int)<(cl.length:Int))=!decide (cl.length≤6):=nT (by omega)
 have k2:∀(j:Nat) ρ m,j≤cl.length→(ρ 2=.ptr s.ag.length 0 0∧ρ 5=.ptr s.ag.length 1 0∧ρ 7=I j∧m=s.push ⟨[[I n,.slice o1 3 (as.map bZ),.slice o2 e2 rs],[S name,I ja,.slice oc ec (cl.map gM)]],[]⟩)→
   go AP VH (.c (.loop C5)::am2) ⟨ρ,m⟩=some (I (rI n (cl.drop j)),s):=by
  refine ck cl.length _ _ ?_ ?_
  ·rintro j ρ m hj ⟨g2,g5,g7,rfl⟩ ih
   obtain⟨p,hp⟩:=get_some hj
   have dU:ec=2:=by rcases OJ with h|h;(simp only at h;rw[h]at hp;simp at hp);exact h
   subst dU
   have hr:=cq (f:=gM) (o:=oc) (es:=2) hp
   rw[eP hp,rI]
   by_cases h0:jU n p.1 p.2=0
   ·simp only[go_sem,C5,g2,g5,g7,aS hj,hr,zF (hs.push _) hn iD,h0,aY,eA,bK hj aT,simprocAttr]
    exact ih _ _ ⟨g2,g5,rfl,rfl⟩
   ·simp only[go_sem,C5,g2,g5,g7,aS hj,hr,zF (hs.push _) hn iD,h0,aY,ig,simprocAttr]
  ·rintro ρ m ⟨g2,g5,g7,rfl⟩
   simp only[go_sem,C5,MC,g5,g7,bM,simprocAttr]
   rw[eR];rfl
 have k1:∀(j:Nat) ρ m,j≤k→(ρ 1=I k∧ρ 2=.ptr s.ag.length 0 0∧ρ 5=.ptr s.ag.length 1 0∧ρ 6=I j∧((as.take j).any fun b=>decide (b.name=name))=false∧m=s.push ⟨[[I n,.slice o1 3 (as.map bZ),.slice o2 e2 rs],[S name,I ja,.slice oc ec (cl.map gM)]],[]⟩)→
   go AP VH (.c (.loop x8)::am3) ⟨ρ,m⟩=some (I (if((as.take k).any fun b=>decide (b.name=name))=true then 5 else if wi ja 0 50=true then(if cl.length≤6 then rI n cl else 8)else 2),s):=by
  refine ck k _ _ ?_ ?_
  ·rintro j ρ m hj ⟨g1,g2,g5,g6,gU,rfl⟩ ih
   obtain⟨b,hb⟩:=get_some (l:=as) (k:=j) (by omega)
   have hr:=cq (f:=bZ) (o:=o1) (es:=3) hb
   by_cases he:b.name=name
   ·have:((as.take k).any fun b=>decide (b.name=name))=true:=by
     rw[fK]
     refine⟨b,?_,by simpa using he⟩
     exact bQ (i:=j) (by rw[xP,ak hj];exact hb)
    rw[ak this]
    simp only[go_sem,x8,g1,g2,g5,g6,aS hj,hr,he,simprocAttr]
   ·have hd:decide (b.name=name)=false:=bS he
    simp only[go_sem,x8,g1,g2,g5,g6,aS hj,hr,hd,bK hj (show(k:Int)<_ by omega),simprocAttr]
    refine ih _ _ ⟨g1,g2,g5,rfl,?_,rfl⟩
    rw[fT hb,vL,gU];simp[he]
  ·rintro ρ m ⟨g1,g2,g5,g6,gU,rfl⟩
   rw[gU,aq (by simp)]
   cases jn:wi ja 0 50 with
   |false=>simp only[go_sem,x8,C6,g1,g5,g6,bM,fW,jn,simprocAttr]<;>rfl
   | true =>
    by_cases JP:cl.length≤6
    ·have hd:decide (cl.length≤6)=true:=bP JP
     simp only[go_sem,x8,C6,g1,g5,g6,bM,fW,jn,h6,hd,simprocAttr]
     refine(k2 0 _ _ (bg _) ?_).trans ?_
     ·exact⟨g2,g5,rfl,rfl⟩
     ·rw[ak JP,kt]
    ·have hd:decide (cl.length≤6)=false:=bS JP
     simp only[go_sem,x8,C6,g1,g5,g6,bM,fW,jn,h6,hd,simprocAttr]
     rw[aq JP]
 rw[aL (show AP 80=some D7 from rfl) rfl]
 unfold kU
 simp only
 cases hi:isName name with
 |false=>simp only[go_sem,MB,hs,cr,pX,hi,simprocAttr]<;>rfl
 |true=>
  simp only[go_sem,MB,hs,cr,pX,hi,simprocAttr]
  exact k1 0 _ _ (bg _) ⟨rfl,rfl,rfl,rfl,by simp,rfl⟩
theorem acd {n last:Int} {l:List Int} {k:Nat} {a:Int} (h:l[k]? =some a):kz n last (l.drop k)=if wi a 0 (n-1)=true then(if last<a then kz n a (l.drop (k+1))else 9)else 6:=by
 rw[eP h];rfl
theorem arA {n:Int} {as:List (List AV)} {r:R} {o1 o2:Own} {e1 e2:Nat} {rs:List (List AV)} (hs:Ok s) (ft:r.an.l=[]∨r.an.e=1) (hn:1≤n) (iD:n≤200) (bR:(r.bw.size:Int)<9223372036854775808) (hl:as.length≤4) (aT:(r.an.l.length:Int)<9223372036854775808):
  aw AP (.fn 81) [.agg [I n,.slice o1 e1 as,.slice o2 e2 rs],.agg (bU r)] s=some (I (lE n as.length r),s):=by
 obtain⟨bw,lo,hi,len,val,⟨oa,ea,an⟩,need⟩:=r
 have pX:∀{m:ae},aw AP (.fn 98) [S bw] m=some (B (isName bw),m):=Td bR
 have Kk:IntKind.i64.wrap ((as.length:Int)-1)=(as.length:Int)-1:=bW (by omega) (by omega)
 have tC:(an.length:Int)<9223372036854775808:=aT
 have key : ∀ (j : Nat) ρ m, j ≤ an.length → (ρ 2 = .ptr s.ag.length 0 0 ∧ ρ 3 = .ptr s.ag.length 1 0 ∧ ρ 6 = I j ∧ (∃ last, kz (as.length : Nat) (-1) an = kz (as.length : Nat) last (an.drop j) ∧ (j = 0 → last = -1) ∧ ∀ i x, j = i + 1 → an[i]? = some x → last = x) ∧ m = s.push ⟨[[I n, .slice o1 e1 as, .slice o2 e2 rs], [S bw, I lo, I hi, I len, I val, .slice oa ea (an.map aD), I need]], []⟩) →
   go AP VK (.c (.loop wc)::Yf) ⟨ρ,m⟩=some (I (if kz (as.length:Nat) (-1) an=0 then(if wi need 1 an.length=true then 0 else 2)else kz (as.length:Nat) (-1) an),s):=by
  refine ck an.length _ _ ?_ ?_
  ·rintro j ρ m hj ⟨g2,g3,g6,⟨last,hL,hL0,hL1⟩,rfl⟩ ih
   obtain⟨x,hx⟩:=get_some hj
   have dU:ea=1:=by rcases ft with h|h;(simp only at h;rw[h]at hx;simp at hx);exact h
   subst dU
   have hr:=cq (f:=aD) (o:=oa) (es:=1) hx
   rw[acd hx]at hL
   have ib:=bK hj aT
   cases jn:wi x 0 ((as.length:Int)-1)with
   |false=>
    rw[jn,aq (by simp)]at hL
    rw[hL]
    simp only[go_sem,wc,g2,g3,g6,aS hj,hr,fW,Kk,jn,simprocAttr]
   | true =>
    rw[jn,ak rfl]at hL
    have fI:last<x→∀ρ' m',(ρ' 2=.ptr s.ag.length 0 0∧ρ' 3=.ptr s.ag.length 1 0∧ρ' 6=I ((j+1:Nat):Int)∧m'=s.push ⟨[[I n,.slice o1 e1 as,.slice o2 e2 rs],[S bw,I lo,I hi,I len,I val,.slice oa 1 (an.map aD),I need]],[]⟩)→
      go AP VK (.c (.loop wc)::Yf) ⟨ρ',m'⟩=some (I (if kz (as.length:Nat) (-1) an=0 then(if wi need 1 an.length=true then 0 else 2)else kz (as.length:Nat) (-1) an),s):=by
     intro Bq
     rintro ρ' m' ⟨k2,k3,k6,rfl⟩
     rw[ak Bq]at hL
     refine ih ρ' _ ⟨k2,k3,k6,⟨x,hL,fun h=>by omega,fun i y hi hy=>?_⟩,rfl⟩
     have:i=j:=by omega
     subst this
     rw[hx]at hy;injection hy
    cases j with
    |zero=>
     have oW:=hL0 rfl
     subst oW
     have pf:=(iJ.1 jn).1
     have jl:kG none 1 (.slice oa 1 (an.map aD)) (I 0)=some (.bq (aD x) 0):=hr
     have ajc:decide ((0:Int)<(an.length:Int))=true:=bP (by omega)
     simp only[go_sem,wc,g2,g3,g6,ajc,jl,fW,Kk,jn,aP,simprocAttr]
     refine fI (by omega) _ _ ?_
     exact⟨g2,g3,rfl,rfl⟩
    | succ i =>
     obtain⟨y,hy⟩:=get_some (l:=an) (k:=i) (by omega)
     have oW:=hL1 i y rfl hy
     subst oW
     have gA:=cq (f:=aD) (o:=oa) (es:=1) hy
     have hd:decide ((0:Int)<((i+1:Nat):Int))=true:=bP (by omega)
     have xi:IntKind.i64.wrap (((i+1:Nat):Int)-1)=((i:Nat):Int):=by rw[bW]<;>omega
     have oT:decide (x≤last)=!decide (last<x):=nT (by omega)
     by_cases Bq:last<x
     ·have OO:decide (last<x)=true:=bP Bq
      simp only[go_sem,wc,g2,g3,g6,aS hj,hr,gA,fW,Kk,jn,hd,xi,oT,OO,ib,simprocAttr]
      refine fI Bq _ _ ?_
      exact⟨g2,g3,rfl,rfl⟩
     ·have OO:decide (last<x)=false:=bS Bq
      rw[aq Bq]at hL
      rw[hL]
      simp only[go_sem,wc,g2,g3,g6,aS hj,hr,gA,fW,Kk,jn,hd,xi,oT,OO,simprocAttr]
  ·rintro ρ m ⟨g2,g3,g6,⟨last,hL,_,_⟩,rfl⟩
   rw[eR]at hL
   have hL':kz (as.length:Nat) (-1) an=0:=hL
   rw[hL',ak rfl]
   cases jn:wi need 1 (an.length:Nat)<;>simp only[go_sem,wc,MH,g3,g6,bM,fW,jn,simprocAttr]<;>rfl
 rw[aL (show AP 81=some Eb from rfl) rfl]
 unfold lE
 simp only
 cases sd:isName bw with
 |false=>simp only[go_sem,x9,pX,sd,simprocAttr]<;>rfl
 | true =>
  by_cases h2:jU n lo hi=0
  ·have hb:=Rw h2
   have w1:IntKind.i64.wrap (hi-lo)=hi-lo:=bW (by omega) (by omega)
   have w2:IntKind.i64.wrap (hi-lo+1)=hi-lo+1:=bW (by omega) (by omega)
   rw[ak rfl,h2,ak rfl]
   cases h3:wi len 1 (hi-lo+1)with
   |false=>simp only[go_sem,x9,pX,sd,zF (hs.push _) hn iD,h2,aY,eA,w1,w2,fW,h3,jL,simprocAttr]<;>rfl
   | true =>
    cases h4:wi val 0 100000 with
    |false=>simp only[go_sem,x9,pX,sd,zF (hs.push _) hn iD,h2,aY,eA,w1,w2,fW,h3,h4,nI,simprocAttr]<;>rfl
    | true =>
     rw[xH,ak rfl]
     cases an with
     |nil=>
      rw[ak rfl]
      simp only[go_sem,x9,pX,sd,zF (hs.push _) hn iD,h2,aY,eA,w1,w2,fW,h3,h4,aP,simprocAttr]
     |cons a t=>
      rw[aq (by simp)]
      have hd:decide ((((a::t).length:Nat):Int)=0)=false:=bS (by simp;omega)
      generalize hg:a::t=q at*
      simp only[go_sem,x9,pX,sd,zF (hs.push _) hn iD,h2,aY,eA,w1,w2,fW,h3,h4,hd,simprocAttr]
      exact key 0 _ _ (bg _) ⟨rfl,rfl,rfl,⟨-1,rfl,fun _=>rfl,fun i x h=>by omega⟩,rfl⟩
  ·rw[ak rfl,aq h2]
   simp only[go_sem,x9,pX,sd,zF (hs.push _) hn iD,h2,aY,ig,simprocAttr]
end
structure W.Hh (w:W):Prop where
 as:(w.as.l.length:Int)<9223372036854775808
 rs:(w.rs.l.length:Int)<9223372036854775808
 name:∀a∈w.as.l,(a.name.size:Int)<9223372036854775808
 cl:∀a∈w.as.l,(a.cl.l.length:Int)<9223372036854775808
 bw:∀r∈w.rs.l,(r.bw.size:Int)<9223372036854775808
 an:∀r∈w.rs.l,(r.an.l.length:Int)<9223372036854775808
def Js (a:A):Bool:=decide (a.name.size≤20)&&decide (a.cl.l.length≤8)
def Fp (r:R):Bool:=decide (r.bw.size≤20)&&decide (r.an.l.length≤6)
def yC (w:W):Bool:=(decide (w.as.l.length≤6)&&decide (w.rs.l.length≤14))&&(w.as.l.all Js&&w.rs.l.all Fp)
theorem VV {w:W} (h:yC w=true):w.kn:=by
 simp only[yC,Js,Fp,dB,dY,jw]at h
 obtain⟨⟨h1,h2⟩,h3,h4⟩:=h
 exact⟨h1,h2,fun a ha=>(h3 a ha).1,fun a ha=>(h3 a ha).2,fun r hr=>(h4 r hr).1,fun r hr=>(h4 r hr).2⟩
theorem LX {α:Type} {p:α→Bool} {l:List α} {k:Nat} {x:α} (h:l[k]? =some x):(l.drop k).all p=(p x&&(l.drop (k+1)).all p):=by
 rw[eP h,vK]
def NO (l:List (Int×Int)):Sl (Int×Int):=⟨wF (l.map gM),2,l⟩
theorem Vg {l:List (Int×Int)}:(NO l).ok 2:=by
 refine⟨.inr rfl,?_⟩
 cases l
 ·exact .inr (.inl rfl)
 ·exact .inl rfl
def cA (a:A):A:={a with cl:=NO a.cl.l}
def cR (r:R):R:={r with an:=fh r.an.l}
def cW (w:W):W:=⟨w.ow,eC 3 (w.as.l.map cA),eC 7 (w.rs.l.map cR)⟩
theorem yl {w:W}:(cW w).as.l=w.as.l.map cA:=kS
theorem wq {w:W}:(cW w).rs.l=w.rs.l.map cR:=kS
theorem Nx {w:W}:(cW w).Ok:=by
 refine⟨x4,fun a ha=>?_,x4,fun r hr=>?_⟩
 ·rw[yl]at ha;obtain⟨b,_,rfl⟩:=cC.1 ha;exact Vg
 ·rw[wq]at hr;obtain⟨b,_,rfl⟩:=cC.1 hr;exact Fj
theorem Nw {w:W} (h:w.kn):(cW w).kn:=by
 refine⟨by rw[yl,bY];exact h.as,by rw[wq,bY];exact h.rs,fun a ha=>?_,fun a ha=>?_,fun r hr=>?_,fun r hr=>?_⟩
 ·rw[yl]at ha;obtain⟨b,hb,rfl⟩:=cC.1 ha;exact h.name b hb
 ·rw[yl]at ha;obtain⟨b,hb,rfl⟩:=cC.1 ha;exact h.cl b hb
 ·rw[wq]at hr;obtain⟨b,hb,rfl⟩:=cC.1 hr;exact h.bw b hb
 ·rw[wq]at hr;obtain⟨b,hb,rfl⟩:=cC.1 hr;exact h.an b hb
theorem V2 {α β:Type} {f:Nat→β→Int} {g:α→β}:∀{l:List α} {k:Nat},fO f k (l.map g)=fO (fun i x=>f i (g x)) k l
 |[],_=>rfl
 |a::r,k=>by simp only[iM,fO,V2 (l:=r)]
theorem aca {n:Int} {as:List A} {k:Nat} {a:A}:kU n (as.map cA) k (cA a)=kU n as k a:=by
 unfold kU
 have:(((as.map cA).take k).any fun b=>decide (b.name=(cA a).name))=((as.take k).any fun b=>decide (b.name=a.name)):=by
  rw[←LA,Hm];rfl
 rw[this];rfl
theorem RI {w:W}:dp (cW w)=dp w:=by
 unfold dp
 simp only[yl,wq,bY,V2,aca]
 rfl
section
variable{s:ae} {w:W}
theorem ark {w:W} (hs:Ok s) (hw:w.Ok) (hf:w.kn):aw AP (.fn 50) [w.v] s=some (MK (dp w),s):=by
 obtain⟨n,⟨o1,e1,as⟩,⟨o2,e2,rs⟩⟩:=w
 have h4:decide ((4:Int)<(as.length:Int))=!decide (as.length≤4):=nT (by omega)
 have cG:decide ((12:Int)<(rs.length:Int))=!decide (rs.length≤12):=nT (by omega)
 rw[aL (show AP 50=some DX from rfl) rfl]
 unfold dp
 simp only
 cases hn:wi n 1 200 with
 |false=>simp only[go_sem,CV,hs,fW,hn,simprocAttr]<;>rfl
 | true =>
  have iV:=iJ.1 hn
  by_cases rR:as.length≤4
  case neg=>
   have hd:decide (as.length≤4)=false:=bS rR
   simp only[go_sem,CV,hs,fW,hn,h4,hd,simprocAttr]
   rw[aq (fun h=>rR h.1)]
  by_cases zi:rs.length≤12
  case neg=>
   have hd:decide (as.length≤4)=true:=bP rR
   have oT:decide (rs.length≤12)=false:=bS zi
   simp only[go_sem,CV,hs,fW,hn,h4,cG,hd,oT,simprocAttr]
   rw[aq (fun h=>zi h.2)]
  have hd:decide (as.length≤4)=true:=bP rR
  have oT:decide (rs.length≤12)=true:=bP zi
  rw[ak rfl,ak ⟨rR,zi⟩]
  have k2:∀j ρ m,j≤rs.length→(ρ 1=.ptr s.ag.length 0 0∧ρ 2=.ptr s.ag.length 1 0∧ρ 6=I j∧m=s.push ⟨[[I n,.slice o1 e1 (as.map bZ),.slice o2 e2 (rs.map bU)],[I 0,I 0]],[]⟩)→
    go AP VD (.c (.loop CW)::amP) ⟨ρ,m⟩=some (MK (match fO (fun _ r=>lE n as.length r) j (rs.drop j)with|some (k,e)=>(2,k,e)|none=>(0,0,0)),s):=by
   refine ck rs.length _ _ ?_ ?_
   ·rintro j ρ m hj ⟨h1,h2,h6,rfl⟩ ih
    obtain⟨x,hx⟩:=get_some hj
    have fH:=bQ hx
    have dU:e2=7:=by rcases hw.rs.1 with h|h;(simp only at h;rw[h]at hx;simp at hx);exact h
    subst dU
    have hr:=cq (f:=bU) (o:=o2) (es:=7) hx
    have m1:=hf.bw x fH
    have m2:=hf.an x fH
    have hq:∀r,aw AP (.fn 81) [.agg [I n,.slice o1 e1 (as.map bZ),.slice o2 7 (rs.map bU)],.agg [S x.bw,I x.lo,I x.hi,I x.len,I x.val,.slice x.an.o x.an.e (x.an.l.map aD),I x.need]] (s.push r)=some (I (lE n as.length x),s.push r):=fun r=>by
     have:=arA (s:=s.push r) (n:=n) (as:=as.map bZ) (r:=x) (o1:=o1) (e1:=e1) (o2:=o2) (e2:=7) (rs:=rs.map bU) (hs.push _) (hw.an x fH).1 iV.1 iV.2 (by omega) (by rw[bY];exact rR) (by omega)
     rw[bY]at this
     exact this
    rw[wJ hx]
    by_cases h0:lE n as.length x=0
    ·simp only[go_sem,CW,h1,h6,aS hj,hr,hq,h0,aY,eA,bK hj (show(rs.length:Int)<_ by omega),simprocAttr]
     refine ih _ _ ?_
     exact⟨h1,h2,rfl,rfl⟩
    ·simp only[go_sem,CW,h1,h2,h6,hs,aS hj,hr,hq,h0,aY,ig,simprocAttr]
   ·rintro ρ m ⟨h1,h2,h6,rfl⟩
    simp only[go_sem,CW,Mn,h1,h2,h6,hs,bM,simprocAttr]
    rw[eR];rfl
  have k1:∀j ρ m,j≤as.length→(ρ 1=.ptr s.ag.length 0 0∧ρ 2=.ptr s.ag.length 1 0∧ρ 4=I j∧m=s.push ⟨[[I n,.slice o1 e1 (as.map bZ),.slice o2 e2 (rs.map bU)],[I 0,I 0]],[]⟩)→
    go AP VD (.c (.loop CX)::amQ) ⟨ρ,m⟩=some (MK (match fO (kU n as) j (as.drop j)with|some (k,e)=>(1,k,e)|none=>match fO (fun _ r=>lE n as.length r) 0 rs with|some (k,e)=>(2,k,e)|none=>(0,0,0)),s):=by
   refine ck as.length _ _ ?_ ?_
   ·rintro j ρ m hj ⟨h1,h2,A6,rfl⟩ ih
    obtain⟨x,hx⟩:=get_some hj
    have fH:=bQ hx
    have dU:e1=3:=by rcases hw.as.1 with h|h;(simp only at h;rw[h]at hx;simp at hx);exact h
    subst dU
    have m1:=hf.name x fH
    have m2:=hf.cl x fH
    have hq:∀r,aw AP (.fn 80) [.agg [I n,.slice o1 3 (as.map bZ),.slice o2 e2 (rs.map bU)],I j] (s.push r)=some (I (kU n as j x),s.push r):=fun r=>arw (hs.push _) (hw.cl x fH).1 iV.1 iV.2 hx (by omega) rR (by omega)
    rw[wJ hx]
    by_cases h0:kU n as j x=0
    ·simp only[go_sem,CX,h1,A6,aS hj,hq,h0,aY,eA,bK hj (show(as.length:Int)<_ by omega),simprocAttr]
     refine ih _ _ ?_
     exact⟨h1,h2,rfl,rfl⟩
    ·simp only[go_sem,CX,h1,h2,A6,hs,aS hj,hq,h0,aY,ig,simprocAttr]
   ·rintro ρ m ⟨h1,h2,A6,rfl⟩
    simp only[go_sem,CX,Mp,h1,A6,bM,simprocAttr]
    rw[eR]
    refine(k2 0 _ _ (bg _) ?_).trans rfl
    exact⟨h1,h2,rfl,rfl⟩
  simp only[go_sem,CV,fW,hn,h4,cG,hd,oT,simprocAttr]
  refine(k1 0 _ _ (bg _) ?_).trans rfl
  exact⟨rfl,rfl,rfl,rfl⟩
theorem ZT (hs:Ok s) (hw:w.Ok) (hf:w.kn):aw AP (.fn 24) [w.v] s=some (I (dp w).2.2,s):=by
 have hc:∀r,aw AP (.fn 50) [w.v] (s.push r)=some (MK (dp w),s.push r):=fun r=>ark (hs.push r) hw hf
 rw[aL (show AP 24=some D5 from rfl) rfl]
 simp only[W.v,c8,Sl.v]at hc
 simp only[go_sem,Tz,hs,hc,simprocAttr]
theorem anQ (hs:Ok s) (hw:w.Ok) (hb:w.Hh):aw AP (.fn 22) [w.v] s=some (B (yC w),s):=by
 obtain⟨n,⟨o1,e1,as⟩,⟨o2,e2,rs⟩⟩:=w
 have h6:decide ((6:Int)<(as.length:Int))=!decide (as.length≤6):=nT (by omega)
 have qC:decide ((14:Int)<(rs.length:Int))=!decide (rs.length≤14):=nT (by omega)
 rw[aL (show AP 22=some DR from rfl) rfl]
 unfold yC
 simp only
 by_cases ha:as.length≤6
 case neg=>
  have hd:decide (as.length≤6)=false:=bS ha
  simp only[go_sem,Ia,h6,hd,jL,simprocAttr]
 by_cases hr:rs.length≤14
 case neg=>
  have hd:decide (as.length≤6)=true:=bP ha
  have oT:decide (rs.length≤14)=false:=bS hr
  simp only[go_sem,Ia,h6,qC,hd,oT,jL,nI,simprocAttr]
 have hd:decide (as.length≤6)=true:=bP ha
 have oT:decide (rs.length≤14)=true:=bP hr
 have k2:∀j ρ m,j≤rs.length→(ρ 1=.ptr s.ag.length 0 0∧ρ 4=I j∧m=s.push ⟨[[I n,.slice o1 e1 (as.map bZ),.slice o2 e2 (rs.map bU)]],[]⟩)→
   go AP VA (.c (.loop Ad)::amI) ⟨ρ,m⟩=some (B ((rs.drop j).all Fp),s):=by
  refine ck rs.length _ _ ?_ ?_
  ·rintro j ρ m hj ⟨h1,h4,rfl⟩ ih
   obtain⟨x,hx⟩:=get_some hj
   have fH:=bQ hx
   have dU:e2=7:=by rcases hw.rs.1 with h|h;(simp only at h;rw[h]at hx;simp at hx);exact h
   subst dU
   have cr:=cq (f:=bU) (o:=o2) (es:=7) hx
   have q1:decide ((20:Int)<(x.bw.size:Int))=!decide (x.bw.size≤20):=nT (by omega)
   have q2:decide ((6:Int)<(x.an.l.length:Int))=!decide (x.an.l.length≤6):=nT (by omega)
   have bR:x.bw.data.size=x.bw.size:=rfl
   have ib:=bK hj (show(rs.length:Int)<_ by omega)
   rw[LX hx]
   unfold Fp
   cases c1:decide (x.bw.size≤20)with
   |false=>simp only[go_sem,Ad,h1,h4,aS hj,cr,q1,c1,jL,simprocAttr]
   | true =>
    cases c2:decide (x.an.l.length≤6)with
    |false=>simp only[go_sem,Ad,h1,h4,aS hj,cr,q1,q2,c1,c2,jL,nI,simprocAttr]
    |true=>
     simp only[go_sem,Ad,h1,h4,aS hj,cr,q1,q2,c1,c2,ib,simprocAttr]
     refine(ih _ _ ?_).trans ?_
     ·exact⟨h1,rfl,rfl⟩
     ·rfl
  ·rintro ρ m ⟨h1,h4,rfl⟩
   simp only[go_sem,Ad,Mf,h1,h4,bM,simprocAttr]
   rw[eR];rfl
 have k1:∀j ρ m,j≤as.length→(ρ 1=.ptr s.ag.length 0 0∧ρ 3=I j∧m=s.push ⟨[[I n,.slice o1 e1 (as.map bZ),.slice o2 e2 (rs.map bU)]],[]⟩)→
   go AP VA (.c (.loop Ae)::amJ) ⟨ρ,m⟩=some (B ((as.drop j).all Js&&rs.all Fp),s):=by
  refine ck as.length _ _ ?_ ?_
  ·rintro j ρ m hj ⟨h1,h3,rfl⟩ ih
   obtain⟨x,hx⟩:=get_some hj
   have fH:=bQ hx
   have dU:e1=3:=by rcases hw.as.1 with h|h;(simp only at h;rw[h]at hx;simp at hx);exact h
   subst dU
   have cr:=cq (f:=bZ) (o:=o1) (es:=3) hx
   have q1:decide ((20:Int)<(x.name.size:Int))=!decide (x.name.size≤20):=nT (by omega)
   have q2:decide ((8:Int)<(x.cl.l.length:Int))=!decide (x.cl.l.length≤8):=nT (by omega)
   have bR:x.name.data.size=x.name.size:=rfl
   have ib:=bK hj (show(as.length:Int)<_ by omega)
   rw[LX hx]
   unfold Js
   cases c1:decide (x.name.size≤20)with
   |false=>simp only[go_sem,Ae,h1,h3,aS hj,cr,q1,c1,jL,simprocAttr]
   | true =>
    cases c2:decide (x.cl.l.length≤8)with
    |false=>simp only[go_sem,Ae,h1,h3,aS hj,cr,q1,q2,c1,c2,jL,nI,simprocAttr]
    |true=>
     simp only[go_sem,Ae,h1,h3,aS hj,cr,q1,q2,c1,c2,ib,simprocAttr]
     refine(ih _ _ ?_).trans ?_
     ·exact⟨h1,rfl,rfl⟩
     ·rfl
  ·rintro ρ m ⟨h1,h3,rfl⟩
   simp only[go_sem,Ae,Mg,h1,h3,bM,simprocAttr]
   rw[eR]
   refine(k2 0 _ _ (bg _) ?_).trans rfl
   exact⟨h1,rfl,rfl⟩
 simp only[go_sem,Ia,h6,qC,hd,oT,xH,simprocAttr]
 refine(k1 0 _ _ (bg _) ?_).trans ?_
 ·exact⟨rfl,rfl,rfl⟩
 ·rfl
theorem ac0 {l:List (Int×Int)} {o:Own} {e:Nat} (hs:Ok s) (he:l=[]∨e=2) (hl:l.length≤4294967296):aw AP (.fn 37) [.slice o e (l.map gM)] s=some (.slice (wF (l.map gM)) 2 (l.map gM),s):=by
 rw[aL (show AP 37=some DG from rfl) rfl]
 rcases he with h|h
 ·subst h
  simp only[go_sem,L9,eD,Hu,simprocAttr]
  rfl
 ·subst h
  obtain⟨x',t',h1,h2⟩:=aeE (s:=s) (r:=⟨[],[]⟩) (es:=2) (x:=.slice o 2 (l.map gM)) (xs:=l.map gM) (o:=o) rfl (by simpa using hl)
  simp only[go_sem,L9,h1,h2,simprocAttr]
theorem Acc.ext {d es:Nat} {xs:List (List AV)} {x:AV} {og:Option Nat} {tk tk':List (Option Nat)} (h:Acc d es xs x og tk) (hx:∀(g:Nat) (n:Option Nat),tk[g]? =some n→tk'[g]? =some n):Acc d es xs x og tk':=by
 cases og with
 |none=>exact h
 |some g=>exact⟨h.1,h.2.1,hx g _ h.2.2⟩
theorem acY {Q:ae} {l:List Int} {o:Own} {e:Nat} {tk:List (Option Nat)} (hQ:Ok Q) (he:l=[]∨e=1) (hl:l.length≤4294967296):
  ∃oo tk',(∀bx,aw AP (.fn 38) [.slice o e (l.map aD)] (Q.push ⟨bx,tk⟩)=some (.slice oo 1 (l.map aD),Q.push ⟨bx,tk'⟩))∧(AV.slice oo 1 (l.map aD)).close=some ((fh l).v aD)∧(∀(g:Nat) (n:Option Nat),tk[g]? =some n→tk'[g]? =some n)∧(l=[]→oo=.full)∧(l≠[]→oo=.tok Q.ag.length tk.length∧tk'=tk++[some l.length]):=by
 cases fP:l with
 |nil=>
  refine⟨.full,tk,fun bx=>?_,rfl,fun _ _ h=>h,fun _=>rfl,fun h=>absurd rfl h⟩
  rw[aL (show AP 38=some wu from rfl) rfl]
  simp only[go_sem,CL,eD,Hu,simprocAttr]
  show some (_,((Q.push ⟨bx,tk⟩).push ⟨[],[]⟩).pop)=_
  rw[pop_push]
 | cons a q =>
  rw[←fP]
  have hn:l≠[]:=by rw[fP];simp
  have j6:e=1:=by rcases he with h|h;exact absurd h hn;exact h
  subst j6
  refine⟨.tok Q.ag.length tk.length,tk++[some l.length],fun bx=>?_,by rw[fP];rfl,fun g n h=>?_,fun h=>absurd h hn,fun _=>⟨rfl,rfl⟩⟩
  ·have hlen:(Q.push ⟨bx,tk⟩).ag.length=Q.ag.length+1:=by simp[ae.push]
   have ha:eD ((Q.push ⟨bx,tk⟩).push ⟨[],[]⟩) 1 (.slice .full 1 []) (.slice o 1 (l.map aD))=some (.slice (.tok (Q.ag.length+1) 0) 1 (l.map aD),(Q.push ⟨bx,tk⟩).push ⟨[],[some l.length]⟩):=by
    have h3:=qb (Q.push ⟨bx,tk⟩) ⟨[],[]⟩
    have h4:=oE (Q.push ⟨bx,tk⟩) ⟨[],[]⟩ l.length
    rw[hlen]at h3 h4
    have h5:((Q.push ⟨bx,tk⟩).push ⟨[],[]⟩).cur=Q.ag.length+1:=by rw[fD,hlen]
    simp[eD,Own.isNil,most,hl,hn,h3,h4,h5]
   have lr:=KQ (Q:=Q) (R:=⟨bx,tk⟩) (r0:=⟨[],[some l.length]⟩) (g:=0) (es:=1) (xs:=l.map aD) hQ (by simp)
   rw[aL (show AP 38=some wu from rfl) rfl]
   simp only[go_sem,CL,ha,simprocAttr]
   exact lr.trans (by rw[bY])
  ·have:=(bd.1 h).1
   rw[dC this];exact h
theorem arn (hs:Ok s) (hw:w.Ok) (hf:w.kn):aw AP (.fn 11) [w.v] s=some ((cW w).v,s):=by
 obtain⟨n,⟨o1,e1,as⟩,⟨o2,e2,rs⟩⟩:=w
 have hfa:as.length≤6:=hf.as
 have pV:rs.length≤14:=hf.rs
 have kr:∀(j:Nat) ρ m,j≤rs.length→(ρ 1=.ptr s.ag.length 0 0∧ρ 2=.ptr s.ag.length 1 0∧ρ 3=.ptr s.ag.length 2 0∧ρ 6=I j∧
   ∃xa qc xr GK tk bx,Acc s.ag.length 3 ((as.map cA).map bZ) xa qc tk∧Acc s.ag.length 7 (((rs.take j).map cR).map bU) xr GK tk∧(GK≠qc∨GK=none)∧m=s.push ⟨[I n,.slice o1 e1 (as.map bZ),.slice o2 e2 (rs.map bU)]::[I 0,.slice .aA 0 [],.slice .aA 0 []]::[I n,xa,xr]::bx,tk⟩)→
   go AP VE (.c (.loop Ig)::amS) ⟨ρ,m⟩=some ((cW ⟨n,⟨o1,e1,as⟩,⟨o2,e2,rs⟩⟩).v,s):=by
  refine ck rs.length _ _ ?_ ?_
  ·rintro j ρ m hj ⟨h1,h2,h3,h6,xa,qc,xr,GK,tk,bx,hA,hR,aB,rfl⟩ ih
   obtain⟨x,hx⟩:=get_some hj
   have fH:=bQ hx
   have dU:e2=7:=by rcases hw.rs.1 with h|h;(simp only at h;rw[h]at hx;simp at hx);exact h
   subst dU
   have cr:=cq (f:=bU) (o:=o2) (es:=7) hx
   have m2:=hf.an x fH
   obtain⟨oo,mU,dT,gg,mF,_,_⟩:=acY (Q:=s) (l:=x.an.l) (o:=x.an.o) (e:=x.an.e) (tk:=tk) hs (hw.an x fH).1 (by omega)
   have uR:=Acc.ext hA mF
   have Ov:=Acc.ext hR mF
   have Bp:(rs.take j).length≤14:=by rw[fV];omega
   obtain⟨xr',aph,mh,cQ,eL,uV,rR⟩:=Ov.append hs .full (ys:=[bU (cR x)]) (by simp) (by simp;omega)
   have Xt:=rR _ _ _ _ uR (by rcases aB with h|h;exact .inl fun e=>h e.symm;(cases qc with|none=>exact .inr rfl|some g=>exact .inl (by rw[h];simp)))
   obtain⟨KK,Jl,KZ,rfl⟩:=Acc.sl hA
   obtain⟨or',er',rr',rfl⟩:=Acc.sl hR
   obtain⟨Zo,Vx,Rj,rfl⟩:=Acc.sl eL
   have aT:closeAll [S x.bw,I x.lo,I x.hi,I x.len,I x.val,.slice oo 1 (x.an.l.map aD),I x.need]=some (bU (cR x)):=by
    simp only[mq,oH,pK,NG,gg];rfl
   have ib:=bK hj (show(rs.length:Int)<_ by omega)
   simp only[bU,Sl.v,cR]at cQ aT
   simp only[go_sem,Ig,h1,h3,h6,hs,aS hj,cr,dT,aT,cQ,ib,simprocAttr]
   refine ih _ _ ?_
   refine⟨h1,h2,h3,rfl,_,qc,_,aph,mh,_,Xt.1,?_,.inl fun e=>Xt.2 e.symm,rfl⟩
   rw[fT hx,iL,iL];exact eL
  ·rintro ρ m ⟨h1,h2,h3,h6,xa,qc,xr,GK,tk,bx,hA,hR,aB,rfl⟩
   rw[jg]at hR
   have l1:=fun q:ae=>hA.BF q
   have l2:=fun q:ae=>hR.BF q
   obtain⟨KK,Jl,KZ,rfl⟩:=Acc.sl hA
   obtain⟨or',er',rr',rfl⟩:=Acc.sl hR
   simp only[go_sem,Ig,Mr,h1,h2,h3,h6,hs,bM,l1,l2,simprocAttr]
   rw[uw,uw];rfl
 have ka:∀(j:Nat) ρ m,j≤as.length→(ρ 1=.ptr s.ag.length 0 0∧ρ 2=.ptr s.ag.length 1 0∧ρ 3=.ptr s.ag.length 2 0∧ρ 4=I j∧
   ∃xa qc tk bx,Acc s.ag.length 3 (((as.take j).map cA).map bZ) xa qc tk∧m=s.push ⟨[I n,.slice o1 e1 (as.map bZ),.slice o2 e2 (rs.map bU)]::[I 0,.slice .aA 0 [],.slice .aA 0 []]::[I n,xa,.slice .aA 0 []]::bx,tk⟩)→
   go AP VE (.c (.loop Ih)::amT) ⟨ρ,m⟩=some ((cW ⟨n,⟨o1,e1,as⟩,⟨o2,e2,rs⟩⟩).v,s):=by
  refine ck as.length _ _ ?_ ?_
  ·rintro j ρ m hj ⟨h1,h2,h3,h4,xa,qc,tk,bx,hA,rfl⟩ ih
   obtain⟨x,hx⟩:=get_some hj
   have fH:=bQ hx
   have dU:e1=3:=by rcases hw.as.1 with h|h;(simp only at h;rw[h]at hx;simp at hx);exact h
   subst dU
   have cr:=cq (f:=bZ) (o:=o1) (es:=3) hx
   have m2:=hf.cl x fH
   have iT:∀r,aw AP (.fn 37) [.slice x.cl.o x.cl.e (x.cl.l.map gM)] (s.push r)=some (.slice (wF (x.cl.l.map gM)) 2 (x.cl.l.map gM),s.push r):=fun r=>ac0 (hs.push r) (hw.cl x fH).1 (by omega)
   have wZ:(as.take j).length≤6:=by rw[fV];omega
   obtain⟨xa',apg,mh,cQ,eL,uV,rR⟩:=hA.append hs .full (ys:=[bZ (cA x)]) (by simp) (by simp;omega)
   obtain⟨KK,Jl,KZ,rfl⟩:=Acc.sl hA
   obtain⟨Zo,Vx,Rj,rfl⟩:=Acc.sl eL
   have eV:(AV.slice (wF (x.cl.l.map gM)) 2 (x.cl.l.map gM)).close=some (.slice (wF (x.cl.l.map gM)) 2 (x.cl.l.map gM)):=Sl.close (f:=gM) (Vg (l:=x.cl.l))
   have ib:=bK hj (show(as.length:Int)<_ by omega)
   simp only[bZ,Sl.v,cA,NO]at cQ
   simp only[go_sem,Ih,h1,h3,h4,hs,aS hj,cr,iT,eV,cQ,ib,simprocAttr]
   refine ih _ _ ?_
   refine⟨h1,h2,h3,rfl,_,apg,mh,_,?_,rfl⟩
   rw[fT hx,iL,iL];exact eL
  ·rintro ρ m ⟨h1,h2,h3,h4,xa,qc,tk,bx,hA,rfl⟩
   rw[jg]at hA
   obtain⟨KK,Jl,KZ,rfl⟩:=Acc.sl hA
   simp only[go_sem,Ih,Ms,h1,h4,bM,simprocAttr]
   refine kr 0 _ _ (bg _) ?_
   exact⟨h1,h2,h3,rfl,_,qc,.slice .aA 0 [],none,tk,bx,hA,Acc.start,.inr rfl,rfl⟩
 rw[aL (show AP 11=some D0 from rfl) rfl]
 simp only[go_sem,Tv,hs,simprocAttr]
 refine ka 0 _ _ (bg _) ?_
 exact⟨rfl,rfl,rfl,rfl,_,none,[],[],Acc.start,rfl⟩
end
end Go.Ax.Sx.Sc
