/- A part of the proof. -/
import Derived.Test.YtjgbdhjcpcmajaaGreatDoorT7
import Derived.KernelRfl
set_option linter.unusedSimpArgs false
set_option linter.unusedVariables false
set_option maxRecDepth 100000
namespace Go.Ax.Sx.Sc
open Go.Ax
theorem afb {α:Type} {l:List α} {j s:Nat} {x:α} (h:l[j]? =some x):(l.take (j+1)).eraseIdx s=(l.take j).eraseIdx s++if j=s then[]else[x]:=by
 have hj:=(bd.1 h).1
 have hl:(l.take j).length=j:=by rw[fW];omega
 rw[fU h]
 by_cases h1:s<j
 ·rw[List.eraseIdx_append_of_lt_length (by omega),aq (by omega)]
 ·rw[List.eraseIdx_append_of_length_le (by omega),hl,List.eraseIdx_of_length_le (l:=l.take j) (by omega)]
  by_cases h2:j=s
  ·subst h2;simp
  ·rw[aq h2]
   obtain⟨d,hd⟩:∃d,s-j=d+1:=⟨s-j-1,by omega⟩
   rw[hd];rfl
theorem abd {w:W} {p:P} {l:List P}:(wo w p l).length≤l.length:=nO _ _
theorem abe {w:W} {p x:P} {l:List P} (h:x∈wo w p l):x∈l:=(eT.1 h).1
def kL (w:W) (p:P) (l:List (Sl P)):List (Sl P):=l.map fun x=>eD 3 (wo w p x.l)
theorem arE {w:W} {p:P} {l:List (Sl P)}:(kL w p l).map (·.l)=(l.map (·.l)).map (wo w p):=by
 simp[kL,kT,RQ]
theorem Vo {α β:Type} {f:α→β}:∀{l:List α} {i:Nat},(l.map f).eraseIdx i=(l.eraseIdx i).map f
 |[],_=>rfl
 |a::l,0=>rfl
 |a::l,i+1=>by simp only[iN,List.eraseIdx_cons_succ,Vo (l:=l)]
section
variable{s:ae} {w:W}
theorem zT.rest {l:List (Sl P)} {i:Nat} {p:P} (h:zT w l):zT w (kL w p (l.eraseIdx i)):=by
 have hm:∀x∈l.eraseIdx i,x∈l:=fun x hx=>Sb hx
 refine⟨?_,fun y hy=>?_,fun y hy=>?_,fun y hy q hq=>?_⟩
 ·have:=abA l i
  have:=h.len
  simp[kL];omega
 all_goals
  obtain⟨x,hx,rfl⟩:=cC.1 hy
 ·exact x4
 ·rw[kT];exact kQ abd (h.cnt x (hm x hx))
 ·rw[kT]at hq;exact h.iY x (hm x hx) q (abe hq)
theorem atk (hw:Wk w):∀(n:Nat) (s:ae) (l:List (Sl P)) (o:Own) (e:Nat),Ok s→l.length=n→(l=[]∨e=1)→zT w l→aw AP (.fn 90) [OW w,.slice o e (l.map jU)] s=some (B (fit w (l.map (·.l))),s):=by
 intro n
 induction n with
 |zero=>
  intro s l o e hs hn he hl
  have:l=[]:=sU hn
  subst this
  rw[aL (show AP 90=some As from rfl) rfl]
  simp only[go_sem,MY,aP,simprocAttr]
  rfl
 | succ n PS =>
  intro s l o e hs hn he hl
  have aB:l≠[]:=by intro h;rw[h]at hn;simp at hn
  have nu:e=1:=by rcases he with h|h;exact absurd h aB;exact h
  subst nu
  have hlen:=hl.len
  generalize hL:l.map (·.l)=L
  have Jy:L.length=l.length:=by rw[←hL];simp
  have ahI:L≠[]:=by intro h;rw[h]at Jy;simp at Jy;omega
  have kf:=Rm ahI
  obtain⟨ys,kG⟩:=get_some (l:=l) (k:=fK L) (by omega)
  have PL:=bQ kG
  have hyL:L.getD (fK L) []=ys.l:=by rw[←hL]at*;exact getD_map kG
  have om:=hl.cnt ys PL
  have hyp:=hl.iY ys PL
  have qT:=hl.ok ys PL
  have lU:fit w L=ys.l.any fun p=>pN w n ((L.eraseIdx (fK L)).map (wo w p)):=by
   unfold fit
   rw[Jy,hn,pN,hyL]
  rw[lU]
  have sE : ∀ (j : Nat) ρ x, j ≤ ys.l.length → (ρ 0 = OW w ∧ ρ 1 = .slice o 1 (l.map jU) ∧ ρ 5 = I (fK L) ∧ ρ 36 = ys.v aj ∧ ρ 37 = I ys.l.length ∧ ρ 38 = I j ∧ ∃ bx tk, x = s.push ⟨bx, tk⟩) →
    go AP NR (.c (.loop Dn)::ank) ⟨ρ,x⟩=some (B ((ys.l.drop j).any fun p=>pN w n ((L.eraseIdx (fK L)).map (wo w p))),s):=by
   refine ck ys.l.length _ _ ?_ ?_
   ·rintro j ρ x hj ⟨h0,h1,h5,mE,pR,uQ,bx,tk,rfl⟩ ih
    obtain⟨p,hp⟩:=get_some hj
    have jF:=hyp p (bQ hp)
    have hr:=Sl.ix (f:=aj) qT hp
    have fR:∀x:Sl P,kL w p [x]=[eD 3 (wo w p x.l)]:=fun _=>rfl
    have p9:∀(q:Nat) ρ x,q≤l.length→(ρ 0=OW w∧ρ 1=.slice o 1 (l.map jU)∧ρ 5=I (fK L)∧ρ 9=.ptr s.ag.length bx.length 0∧ρ 36=ys.v aj∧ρ 37=I ys.l.length∧ρ 38=I j∧ρ 42=.slice o 1 (l.map jU)∧ρ 43=I l.length∧ρ 44=I q∧
      ∃og tk,Acc s.ag.length 1 ((kL w p ((l.take q).eraseIdx (fK L))).map jU) (ρ 10) og tk∧x=s.push ⟨bx++[aj p],tk⟩)→
      go AP NR (.c (.loop Dp)::anl) ⟨ρ,x⟩=some (B ((ys.l.drop j).any fun p=>pN w n ((L.eraseIdx (fK L)).map (wo w p))),s):=by
     refine ck l.length _ _ ?_ ?_
     ·rintro q ρ x hq ⟨h0,h1,h5,h9,mE,pR,uQ,j6,lQ,nY,og,tk,hA,rfl⟩ fJ
      obtain⟨y,hy⟩:=get_some hq
      have Bu:=bQ hy
      have hr:=cq (f:=jU) (o:=o) (es:=1) hy
      have r9:=hl.cnt y Bu
      have nE:∀r,aw AP (.fn 89) [OW w,.slice y.o y.e (y.l.map aj),.agg (aj p)] (s.push r)=some (bG 3 ((wo w p y.l).map aj),s.push r):=fun r=>aa9 (hs.push r) hw (hl.ok y Bu).1 r9 (hl.iY y Bu) jF
      have aT:=Sl.close (f:=aj) (x4 (e:=3) (l:=wo w p y.l))
      have WW:=afb (s:=fK L) hy
      have hle:(kL w p ((l.take q).eraseIdx (fK L))).length≤12:=by
       have h1:=abA (l.take q) (fK L)
       rw[fW]at h1
       simp[kL];omega
      by_cases Xu:q=fK L
      ·have hd:decide ((q:Int)=(fK L:Int))=true:=bP (by omega)
       simp only[go_sem,Dp,h5,j6,lQ,nY,aS hq,hr,aY,oJ,hd,bK hq (show(l.length:Int)<_ by omega),simprocAttr]
       refine fJ _ _ ?_
       refine⟨h0,h1,h5,h9,mE,pR,uQ,j6,lQ,rfl,og,tk,?_,rfl⟩
       rw[WW,ak Xu,je];exact hA
      ·have hd:decide ((q:Int)=(fK L:Int))=false:=bS (by omega)
       obtain⟨x',gm,tk',cQ,eM,_⟩:=hA.append hs .full (ys:=[jU (eD 3 (wo w p y.l))]) (by simp) (by simp;omega)
       simp only[jU,uw,Sl.v]at cQ nE aT
       simp only[aj,Sl.v]at nE
       simp only[go_sem,Dp,h0,h5,h9,j6,lQ,nY,aS hq,hr,aY,oJ,hd,nE,aT,cQ,bK hq (show(l.length:Int)<_ by omega),simprocAttr]
       refine fJ _ _ ?_
       refine⟨h0,h1,h5,h9,mE,pR,uQ,j6,lQ,rfl,gm,tk',?_,rfl⟩
       have:kL w p ((l.take q).eraseIdx (fK L)++[y])=kL w p ((l.take q).eraseIdx (fK L))++[eD 3 (wo w p y.l)]:=by simp[kL]
       rw[WW,aq Xu,this,iM];exact eM
     ·rintro ρ x ⟨h0,h1,h5,h9,mE,pR,uQ,j6,lQ,nY,og,tk,hA,rfl⟩
      rw[jh]at hA
      have ajr:zT w (kL w p (l.eraseIdx (fK L))):=hl.rest
      have w5:(kL w p (l.eraseIdx (fK L))).length=n:=by
       simp only[kL,bY]
       rw[Lr (by omega)];omega
      obtain⟨o',e',hx,j7⟩:∃o' e',ρ 10=.slice o' e' ((kL w p (l.eraseIdx (fK L))).map jU)∧(kL w p (l.eraseIdx (fK L))=[]∨e'=1):=by
       cases og with
       |none=>obtain⟨h1,h2⟩:=hA;exact⟨_,_,by rw[h2,h1],.inl (by simpa using h1)⟩
       |some g=>exact⟨_,_,hA.2.1,.inr rfl⟩
      have xf:∀r,aw AP (.fn 90) [OW w,.slice o' e' ((kL w p (l.eraseIdx (fK L))).map jU)] (s.push r)=some (B (pN w n ((L.eraseIdx (fK L)).map (wo w p))),s.push r):=fun r=>by
       rw[PS (s.push r) (kL w p (l.eraseIdx (fK L))) o' e' (hs.push r) w5 j7 ajr,fit,arE,←hL,←Vo,bY,Lr (by rw[hL];omega),bY,hn]
       rfl
      rw[eQ hp,oA]
      simp only[go_sem,Dp,M0,MZ,h0,lQ,nY,uQ,bM,hx,xf,simprocAttr]
      cases pN w n ((L.eraseIdx (fK L)).map (wo w p))with
      |true=>simp only[go_sem,simprocAttr];rfl
      |false=>
       simp only[go_sem,bK hj (show(ys.l.length:Int)<_ by omega),simprocAttr]
       refine(ih _ _ ?_).trans (by simp)
       exact⟨h0,h1,h5,mE,pR,rfl,_,_,rfl⟩
    simp only[go_sem,Dn,h1,mE,pR,uQ,hs,aS hj,hr,simprocAttr]
    refine p9 0 _ _ (bg _) ?_
    exact⟨h0,h1,h5,rfl,mE,pR,uQ,rfl,rfl,rfl,none,tk,by rw[show kL w p ((l.take 0).eraseIdx (fK L))=[]by simp[kL]];exact Acc.start,rfl⟩
   ·rintro ρ x ⟨h0,h1,h5,mE,pR,uQ,bx,tk,rfl⟩
    simp only[go_sem,Dn,IE,pR,uQ,bM,simprocAttr]
    rw[eS];rfl
  have ksh:∀(j:Nat) ρ x,j≤l.length→(ρ 0=OW w∧ρ 1=.slice o 1 (l.map jU)∧ρ 16=.slice o 1 (l.map jU)∧ρ 17=I l.length∧ρ 18=I j∧(∃b:Nat,ρ 5=I b∧b<l.length∧xC L (l.length-j) b=fK L)∧x=s.push ⟨[],[]⟩)→
    go AP NR (.c (.loop Dq)::anm) ⟨ρ,x⟩=some (B (ys.l.any fun p=>pN w n ((L.eraseIdx (fK L)).map (wo w p))),s):=by
   refine ck l.length _ _ ?_ ?_
   ·rintro j ρ x hj ⟨h0,h1,nW,mC,fF,⟨b,h5,hb,tK⟩,rfl⟩ ih
    obtain⟨y,hy⟩:=get_some hj
    obtain⟨z,hz⟩:=get_some hb
    have hr:=cq (f:=jU) (o:=o) (es:=1) hy
    have gB:=cq (f:=jU) (o:=o) (es:=1) hz
    have jC:L.getD j []=y.l:=by rw[←hL];exact getD_map hy
    have hgz:L.getD b []=z.l:=by rw[←hL];exact getD_map hz
    have cp:xC L (l.length-j) b=xC L (l.length-(j+1)) (if y.l.length<z.l.length then j else b):=by
     obtain⟨d,hd⟩:∃d,l.length-j=d+1:=⟨l.length-j-1,by omega⟩
     rw[hd,xC]
     rw[show L.length-(d+1)=j by omega,jC,hgz,show l.length-(j+1)=d by omega]
    rw[cp]at tK
    by_cases aC:y.l.length<z.l.length
    ·have hd:decide ((y.l.length:Int)<(z.l.length:Int))=true:=bP (by omega)
     rw[ak aC]at tK
     simp only[go_sem,Dq,h1,h5,nW,mC,fF,aS hj,hr,gB,hd,bK hj (show(l.length:Int)<_ by omega),simprocAttr]
     refine ih _ _ ?_
     exact⟨h0,h1,nW,mC,rfl,⟨j,rfl,hj,tK⟩,rfl⟩
    ·have hd:decide ((y.l.length:Int)<(z.l.length:Int))=false:=bS (by omega)
     rw[aq aC]at tK
     simp only[go_sem,Dq,h1,h5,nW,mC,fF,aS hj,hr,gB,hd,bK hj (show(l.length:Int)<_ by omega),simprocAttr]
     refine ih _ _ ?_
     exact⟨h0,h1,nW,mC,rfl,⟨b,h5,hb,tK⟩,rfl⟩
   ·rintro ρ x ⟨h0,h1,nW,mC,fF,⟨b,h5,hb,tK⟩,rfl⟩
    rw[HE]at tK
    have Be:b=fK L:=tK
    subst Be
    have hr:=cq (f:=jU) (o:=o) (es:=1) kG
    simp only[go_sem,Dq,M1,h1,h5,mC,fF,bM,hr,simprocAttr]
    refine sE 0 _ _ (bg _) ?_
    exact⟨h0,h1,h5,rfl,rfl,rfl,[],[],rfl⟩
  have hd:decide ((l.length:Int)=0)=false:=bS (by omega)
  rw[aL (show AP 90=some As from rfl) rfl]
  simp only[go_sem,MY,hd,simprocAttr]
  refine ksh 0 _ _ (bg _) ?_
  exact⟨rfl,rfl,rfl,rfl,rfl,⟨0,rfl,by omega,by rw[Sv,←Jy];rfl⟩,rfl⟩
instance:Inhabited (Sl P×Bool):=⟨(⟨.aA,0,[]⟩,false)⟩
def jv (w:W) (plan:List P) (x:Sl P):Sl P:=plan.foldl (fun x p=>eD 3 (wo w p x.l)) x
def l7 (w:W) (all:List (Sl P×Bool)) (plan:List P) (l:List Int):List (Sl P):=(l.filter fun i=>(aM plan i).isNone).map fun i=>jv w plan (all.getD i.toNat default).1
def gP (w:W) (all:List (Sl P×Bool)) (plan:List P) (m:Nat):Bool:=fit w ((l7 w all plan (de m)).map (·.l))
theorem atv {plan:List P} {x:Sl P} {q:Nat} {p:P} (h:plan[q]? =some p):jv w (plan.take (q+1)) x=eD 3 (wo w p (jv w (plan.take q) x).l):=by
 rw[jv,fU h,Lo];rfl
theorem RE {x:Sl P} (hx:x.ok 3) (hc:x.l.length≤13000) (hp:∀p∈x.l,ch w p):∀{plan:List P},(jv w plan x).ok 3∧(jv w plan x).l.length≤13000∧∀p∈(jv w plan x).l,ch w p:=by
 intro plan
 induction plan generalizing x with
 |nil=>exact⟨hx,hc,hp⟩
 |cons a r ih=>exact ih (x:=eD 3 (wo w a x.l)) x4 (by rw[kT];exact kQ abd hc) (fun p h=>by rw[kT]at h;exact hp p (abe h))
theorem aph {all:List (Sl P×Bool)} {plan:List P} {l:List Int} {j:Nat} {i:Int} (h:l[j]? =some i):l7 w all plan (l.take (j+1))=l7 w all plan (l.take j)++if(aM plan i).isSome=true then[]else[jv w plan (all.getD i.toNat default).1]:=by
 unfold l7
 rw[fU h,oB,iM]
 cases hp:aM plan i<;>simp[hp]
theorem sP.get {e:Nat} {all:List (Sl P×Bool)} (h:sP w e all) {i:Int} (h0:0≤i) (h1:i<w.rs.l.length):∃c,all[i.toNat]? =some c∧all.getD i.toNat default=c∧c∈all:=by
 have hl:=h.len
 obtain⟨c,hc⟩:=get_some (l:=all) (k:=i.toNat) (by omega)
 exact⟨c,hc,by simp[List.getD,hc],bQ hc⟩
theorem Ur {o o2:Own} {e e2:Nat} {all:List (Sl P×Bool)} {plan:List P} {m:Nat} (hs:Ok s) (hw:Wk w) (hZ:sP w e all) (hm:m<2^w.rs.l.length) (hp:∀p∈plan,ch w p) (kD:plan=[]∨e2=3) (cD:plan.length≤14):
  aw AP (.fn 66) [CH w o e all,.slice o2 e2 (plan.map aj),I (m:Int)] s=some (B (gP w all plan m),s):=by
 have et:=hw.v.rl
 have qK:m<2^62:=na hm (ji (by decide) (by omega))
 have bH:∀i∈de m,0≤i∧i<w.rs.l.length:=fun i hi=>BI hm hi
 have hml:=YJ (m:=m)
 have ajw:∀j,(l7 w all plan ((de m).take j)).length≤62:=fun j=>by
  have:=nO (fun i=>(aM plan i).isNone) ((de m).take j)
  rw[fW]at this
  simp only[l7,bY];omega
 have avl:(de m).length≤12:=by
  have e:de m=pr m w.rs.l.length:=YI (Lx hm) (by omega)
  have:=Ql (m:=m) (n:=w.rs.l.length)
  rw[e];omega
 have hLs:zT w (l7 w all plan (de m)):=by
  refine⟨?_,?_,?_,?_⟩
  ·have:=nO (fun i=>(aM plan i).isNone) (de m)
   simp only[l7,bY];omega
  all_goals
   intro x hx
   obtain⟨i,hi,rfl⟩:=cC.1 hx
   have bD:=bH i (eT.1 hi).1
   obtain⟨c,dU,gj,mG⟩:=hZ.get bD.1 bD.2
   rw[gj]
   have:=RE (w:=w) (hZ.ok c mG) (hZ.cnt c mG) (hZ.iY c mG) (plan:=plan)
  ·exact this.1
  ·exact this.2.1
  ·exact this.2.2
 have sE : ∀ (j : Nat) ρ x, j ≤ (de m).length → (ρ 1 = .slice o2 e2 (plan.map aj) ∧ ρ 3 = .ptr s.ag.length 0 0 ∧ ρ 16 = bG 1 ((de m).map aD) ∧ ρ 17 = I (de m).length ∧ ρ 18 = I j ∧
   ∃og tk bx,Acc s.ag.length 1 ((l7 w all plan ((de m).take j)).map jU) (ρ 7) og tk∧x=s.push ⟨[OW w,.slice o e (all.map gn)]::bx,tk⟩)→go AP Vr (.c (.loop Aa)::amu) ⟨ρ,x⟩=some (B (gP w all plan m),s):=by
  refine ck (de m).length _ _ ?_ ?_
  ·rintro j ρ x hj ⟨h1,h3,nW,mC,fF,og,tk,bx,hA,rfl⟩ ih
   obtain⟨i,hi⟩:=get_some hj
   have yZ:=bH i (bQ hi)
   have hr:=Kq (es:=1) (xs:=(de m).map aD) (k:=j) (row:=aD i) (by rw[jf,hi];rfl)
   obtain⟨c,dU,gj,mG⟩:=hZ.get yZ.1 yZ.2
   have j7:e=2:=by rcases hZ.e with h|h;(rw[h]at dU;simp at dU);exact h
   subst j7
   have kE:=cq (f:=gn) (o:=o) (es:=2) dU
   rw[show((i.toNat:Nat):Int)=i by omega]at kE
   have dI:∀r,aw AP (.fn 45) [.slice o2 e2 (plan.map aj),I i] (s.push r)=some (.tuple [.agg (aj ((aM plan i).getD bV)),B (aM plan i).isSome],s.push r):=fun r=>GQ (hs.push r) kD (by omega) fun p h=>(hp p h).ok
   have Pa:=aph (w:=w) (all:=all) (plan:=plan) hi
   rw[gj]at Pa
   have XI:=bK hj (show((de m).length:Int)<_ by omega)
   simp only[aj,Sl.v]at dI
   cases u9:(aM plan i).isSome with
   |true=>
    rw[u9]at dI
    simp only[go_sem,Aa,HX,h1,nW,mC,fF,hs,aS hj,hr,dI,XI,simprocAttr]
    refine ih _ _ ?_
    refine⟨h1,h3,nW,mC,rfl,og,tk,_,?_,rfl⟩
    rw[Pa,u9,ak rfl,je];exact hA
   | false =>
    rw[u9]at dI
    have p9:∀(q:Nat) ρ x,q≤plan.length→(ρ 1=.slice o2 e2 (plan.map aj)∧ρ 3=.ptr s.ag.length 0 0∧ρ 12=(jv w (plan.take q) c.1).v aj∧ρ 16=bG 1 ((de m).map aD)∧ρ 17=I (de m).length∧ρ 18=I j∧ρ 35=.slice o2 e2 (plan.map aj)∧ρ 36=I plan.length∧ρ 37=I q∧
      ∃og tk bx,Acc s.ag.length 1 ((l7 w all plan ((de m).take j)).map jU) (ρ 7) og tk∧x=s.push ⟨[OW w,.slice o 2 (all.map gn)]::bx,tk⟩)→go AP Vr (.c (.loop HV)::amv) ⟨ρ,x⟩=some (B (gP w all plan m),s):=by
     refine ck plan.length _ _ ?_ ?_
     ·rintro q ρ x hq ⟨h1,h3,cG,nW,mC,fF,pQ,mE,pR,og,tk,bx,hA,rfl⟩ fJ
      obtain⟨p,u7⟩:=get_some hq
      have jF:=hp p (bQ u7)
      have n7:e2=3:=by rcases kD with h|h;(rw[h]at u7;simp at u7);exact h
      subst n7
      have hr:=cq (f:=aj) (o:=o2) (es:=3) u7
      have cz:=RE (w:=w) (hZ.ok c mG) (hZ.cnt c mG) (hZ.iY c mG) (plan:=plan.take q)
      have nE:∀r,aw AP (.fn 89) [OW w,(jv w (plan.take q) c.1).v aj,.agg (aj p)] (s.push r)=some (bG 3 ((wo w p (jv w (plan.take q) c.1).l).map aj),s.push r):=fun r=>aa9 (hs.push r) hw cz.1.1 cz.2.1 cz.2.2 jF
      simp only[aj]at nE
      simp only[go_sem,HV,h3,cG,pQ,mE,pR,hs,aS hq,hr,nE,bK hq (show(plan.length:Int)<_ by omega),simprocAttr]
      refine fJ _ _ ?_
      refine⟨h1,h3,?_,nW,mC,fF,pQ,mE,rfl,og,tk,_,hA,rfl⟩
      rw[atv u7,←uw];rfl
     ·rintro ρ x ⟨h1,h3,cG,nW,mC,fF,pQ,mE,pR,og,tk,bx,hA,rfl⟩
      rw[jh]at cG
      have cz:=RE (w:=w) (hZ.ok c mG) (hZ.cnt c mG) (hZ.iY c mG) (plan:=plan)
      have aT:=Sl.close (f:=aj) cz.1
      obtain⟨x',gm,tk',cQ,eM,_⟩:=hA.append hs .full (ys:=[jU (jv w plan c.1)]) (by simp) (by have:=ajw j;simp;omega)
      simp only[jU,Sl.v]at cQ cG aT
      simp only[go_sem,HV,L6,HX,cG,fF,mE,pR,bM,aT,cQ,XI,simprocAttr]
      refine ih _ _ ?_
      refine⟨h1,h3,nW,mC,rfl,gm,tk',_,?_,rfl⟩
      rw[Pa,u9,aq (by simp),iM];exact eM
    simp only[go_sem,Aa,h1,h3,nW,mC,fF,hs,aS hj,hr,dI,kE,simprocAttr]
    refine p9 0 _ _ (bg _) ?_
    exact⟨h1,h3,rfl,nW,mC,fF,rfl,rfl,rfl,og,tk,_,hA,rfl⟩
  ·rintro ρ x ⟨h1,h3,nW,mC,fF,og,tk,bx,hA,rfl⟩
   rw[jh]at hA
   obtain⟨o',e',hx,j7⟩:∃o' e',ρ 7=.slice o' e' ((l7 w all plan (de m)).map jU)∧(l7 w all plan (de m)=[]∨e'=1):=by
    cases og with
    |none=>obtain⟨h1,h2⟩:=hA;exact⟨_,_,by rw[h2,h1],.inl (by simpa using h1)⟩
    |some g=>exact⟨_,_,hA.2.1,.inr rfl⟩
   have xf:∀r,aw AP (.fn 90) [OW w,.slice o' e' ((l7 w all plan (de m)).map jU)] (s.push r)=some (B (gP w all plan m),s.push r):=fun r=>atk hw _ _ _ _ _ (hs.push r) rfl j7 hLs
   simp only[go_sem,Aa,HW,h3,mC,fF,bM,hx,xf,simprocAttr]
 have OY:∀r,aw AP (.fn 31) [I (m:Int)] (s.push r)=some (bG 1 ((de m).map aD),s.push r):=fun r=>Re qK (hs.push r)
 rw[aL (show AP 66=some DI from rfl) rfl]
 simp only[CH,OW]at sE⊢
 simp only[go_sem,Tc,OY,simprocAttr]
 refine sE 0 _ _ (bg _) ?_
 exact⟨rfl,rfl,rfl,rfl,rfl,none,[],[],Acc.start,rfl⟩
end
section
variable{s:ae} {w:W}
theorem KJ {Q:ae} {R r0:Rec} {g es:Nat} {xs:List (List AV)} (hQ:Ok Q) (h:r0.toks[g]? =some (some xs.length)):
  kh ((Q.push R).push r0) (.slice (.tok (Q.ag.length+1) g) es xs)=some (.slice (.tok Q.ag.length R.toks.length) es xs,Q.push ⟨R.boxes,R.toks++[some xs.length]⟩):=by
 have h1:((Q.push R).push r0).cur=Q.ag.length+1:=by rw[fE];simp[ae.push]
 have h2:((Q.push R).push r0).ro<Q.ag.length+1:=by have:=hQ.ro;show Q.ro<_;omega
 have h3:((Q.push R).push r0).tok (Q.ag.length+1) g=some xs.length:=by
  have:=B6 (Q.push R) r0 g
  rw[show(Q.push R).ag.length=Q.ag.length+1 by simp[ae.push]]at this
  rw[this,h];rfl
 have h4:((Q.push R).push r0).jJ Q.ag.length=R.toks.length:=by
  simp[ae.jJ,ae.push]
 simp only[kh]
 rw[ak ⟨h1.symm,by omega,h2,h3⟩]
 simp only[HA,h4,pop_push,oF]
theorem atC {Q:ae} {l:List P} {o:Own} {e:Nat} {R:Rec} (hQ:Ok Q) (hn:l≠[]) (ho:o.isNil=false) (hl:l.length≤4294967296) (he:e=3):
  aw AP (.fn 91) [.slice o e (l.map aj)] (Q.push R)=some (.slice (.tok Q.ag.length R.toks.length) 3 (l.map aj),Q.push ⟨R.boxes,R.toks++[some l.length]⟩):=by
 subst he
 have hlen:(Q.push R).ag.length=Q.ag.length+1:=by simp[ae.push]
 have ha:eE ((Q.push R).push ⟨[],[]⟩) 3 (.slice .full 3 []) (.slice o 3 (l.map aj))=some (.slice (.tok (Q.ag.length+1) 0) 3 (l.map aj),(Q.push R).push ⟨[],[some l.length]⟩):=by
  have h3:=qc (Q.push R) ⟨[],[]⟩
  have h4:=oF (Q.push R) ⟨[],[]⟩ l.length
  rw[hlen]at h3 h4
  have h5:((Q.push R).push ⟨[],[]⟩).cur=Q.ag.length+1:=by rw[fE,hlen]
  simp[eE,Own.isNil,dN,hl,hn,h3,h4,h5]
 have lu:=KJ (Q:=Q) (R:=R) (r0:=⟨[],[some l.length]⟩) (g:=0) (es:=3) (xs:=l.map aj) hQ (by simp)
 rw[aL (show AP 91=some Av from rfl) rfl]
 simp(maxSteps:=1000000) only[go_sem,M5,ho,ha,Nat.reduceEqDiff,reduceCtorEq,Nat.reduceAdd,Nat.reduceMul,Nat.reduceSub,Int.reduceLT,Int.reduceLE,Int.reduceEq,Int.reduceAdd,Int.reduceSub,Int.reduceNeg,Int.reduceToNat,aP,↓reduceIte]
 exact lu.trans (by rw[bY])
theorem aee {tk:List (Option Nat)} {l:List P} {o:Own} {e:Nat} (hs:Ok s) (he:l=[]∨e=3) (ho:o.isNil=l.isEmpty) (hl:l.length≤4294967296):
  ∃x og tk',(∀bx,nh (aw AP) (s.push ⟨bx,tk⟩) 91 [.slice o e (l.map aj)]=some (x,s.push ⟨bx,tk'⟩))∧Acc s.ag.length 3 (l.map aj) x og tk':=by
 cases fQ:l with
 | nil =>
  subst fQ
  have oZ:o.isNil=true:=ho
  have:∀bx,aw AP (.fn 91) [.slice o e (([]:List P).map aj)] ((cT (s.push ⟨bx,tk⟩)).push ⟨[],[]⟩)=some (.slice .aA 0 [],(cT (s.push ⟨bx,tk⟩)).push ⟨[],[]⟩):=fun bx=>by
   rw[aL (show AP 91=some Av from rfl) rfl]
   simp(maxSteps:=1000000) only[go_sem,M5,oZ,Nat.reduceEqDiff,reduceCtorEq,Nat.reduceAdd,Nat.reduceMul,Nat.reduceSub,Int.reduceLT,Int.reduceLE,Int.reduceEq,Int.reduceAdd,Int.reduceSub,Int.reduceNeg,Int.reduceToNat,aP,↓reduceIte]
  refine⟨.slice .aA 0 [],none,tk,fun bx=>?_,rfl,rfl⟩
  unfold nh
  rw[show({(s.push ⟨bx,tk⟩).push ⟨[],[]⟩with ro:=(s.push ⟨bx,tk⟩).ag.length,bo:=(s.push ⟨bx,tk⟩).loops.length}:ae)=(cT (s.push ⟨bx,tk⟩)).push ⟨[],[]⟩from rfl,this]
  rfl
 | cons a q =>
  rw[←fQ]
  have hn:l≠[]:=by rw[fQ];simp
  have j7:e=3:=by rcases he with h|h;exact absurd h hn;exact h
  have oZ:o.isNil=false:=by rw[ho,fQ];rfl
  refine⟨.slice (.tok s.ag.length tk.length) 3 (l.map aj),some tk.length,tk++[some l.length],fun bx=>?_,by simpa using hn,rfl,by simp⟩
  have:=atC (Q:=cT (s.push ⟨bx,tk⟩)) (R:=⟨[],[]⟩) (o:=o) vu hn oZ hl j7
  have yR:(cT (s.push ⟨bx,tk⟩)).ag.length=(s.push ⟨bx,tk⟩).ag.length:=rfl
  have gR:(s.push ⟨bx,tk⟩).cur=s.ag.length:=fE _ _
  have hlen:(s.push ⟨bx,tk⟩).ag.length=s.ag.length+1:=by simp[ae.push]
  unfold nh
  rw[show({(s.push ⟨bx,tk⟩).push ⟨[],[]⟩with ro:=(s.push ⟨bx,tk⟩).ag.length,bo:=(s.push ⟨bx,tk⟩).loops.length}:ae)=(cT (s.push ⟨bx,tk⟩)).push ⟨[],[]⟩from rfl,this]
  have zk:((cT (s.push ⟨bx,tk⟩)).push ⟨[],[some l.length]⟩).tok (s.push ⟨bx,tk⟩).ag.length 0=some l.length:=by
   have:=B6 (cT (s.push ⟨bx,tk⟩)) ⟨[],[some l.length]⟩ 0
   rw[yR]at this;rw[this];rfl
  have bh:(s.push ⟨bx,tk⟩).ro<(s.push ⟨bx,tk⟩).ag.length:=by rw[hlen];have:=hs.ro;show s.ro<_;omega
  simp only[yR,iL,kO]
  rw[ak ⟨trivial,by omega,bh,by rw[zk,bY]⟩]
  simp only[gR,qc,oF,bY]
abbrev me (m:Nat):List AV:=[I (m:Int)]
attribute [go_sem] me
def l6 (w:W) (all:List (Sl P×Bool)) (plan:List P) (own:Nat) (sets:List Nat) (i:Nat) (p:P):Bool:=
 !dL w p plan&&sets.any fun m=>decide (m&&&(2^(i+1)-1)=own|||2^i)&&gP w all (plan++[p]) m
def mQ (w:W) (all:List (Sl P×Bool)) (plan:List P) (own:Nat) (sets:List Nat):Nat→Nat→Option P
 |_,0=>none
 |i,n+1=>match(all.getD i default).1.l.find? (l6 w all plan own sets i)with
  |some p=>some p
  |none=>mQ w all plan own sets (i+1) n
def my (plan:List P):Nat:=match plan.getLast? with
 |some p=>p.req.toNat+1
 |none=>0
def sG (w:W) (all:List (Sl P×Bool)) (plan:List P) (own:Nat) (sets:List Nat):Option P:=mQ w all plan own sets (my plan) (all.length-my plan)
theorem aqN (i:Nat) (hi:i≤12):IntKind.i64.wrap (((2^(i+1):Nat):Int)-1)=((2^(i+1)-1:Nat):Int):=by
 have h:(2:Nat)^(i+1)≤2^13:=ji (by decide) (by omega)
 have h1:1≤(2:Nat)^(i+1):=Ss
 generalize(2:Nat)^(i+1)=q at*
 rw[bW (by omega) (by omega)]
 omega
theorem Qf {m k:Nat} (h:m<2^k) (hk:k≤63):m<2^63:=na h (ji (by decide) hk)
theorem Vb (a b:Nat):decide ((a:Int)=(b:Int))=decide (a=b):=by
 by_cases h:a=b
 ·rw[bP h,bP (by omega)]
 ·rw[bS h,bS (by omega)]
theorem af9 {α:Type} {p:α→Bool} {l:List α} {k:Nat} {x:α} (h:l[k]? =some x):(l.drop k).find? p=if p x=true then some x else(l.drop (k+1)).find? p:=by
 rw[eQ h,Lm]
 cases p x<;>simp
theorem ab6 {α:Type} {p:α→Bool} {l:List α} {k:Nat} {x:α} (h:l[k]? =some x):(l.drop k).any p=(p x||(l.drop (k+1)).any p):=by
 rw[eQ h,oA]
def vt (r:Option P):AV:=.tuple [.agg (aj (r.getD bV)),B r.isSome]
theorem adv {o o2 o3 : Own} {e e2 e3 : Nat} {all : List (Sl P × Bool)} {plan : List P} {own : Nat} {sets : List Nat} (hs : Ok s) (hw : Wk w) (hZ : sP w e all) (hp : ∀ p ∈ plan, ch w p) (kD : plan = [] ∨ e2 = 3) (O7 : o2.isNil = plan.isEmpty) (cD : plan.length ≤ 12)
    (lu:own<2^12) (Xz:∀m∈sets,m<2^w.rs.l.length) (n7:sets=[]∨e3=1) (sv:sets.length≤5000):
    aw AP (.fn 67) [CH w o e all,.slice o2 e2 (plan.map aj),I (own:Int),.slice o3 e3 (sets.map me)] s=some (vt (sG w all plan own sets),s):=by
  have et:=hw.v.rl
  have oS:=hZ.len
  have sE : ∀ (i : Nat) ρ x, (ρ 1 = .slice o2 e2 (plan.map aj) ∧ ρ 2 = I (own : Int) ∧ ρ 3 = .slice o3 e3 (sets.map me) ∧ ρ 4 = .ptr s.ag.length 0 0 ∧ ρ 8 = .ptr s.ag.length 1 0 ∧ ρ 12 = I (i : Int) ∧
      ∃bx tk,x=s.push ⟨[OW w,.slice o e (all.map gn)]::aj bV::bx,tk⟩)→go AP Fj (.c (.loop uy)::P4) ⟨ρ,x⟩=some (vt (mQ w all plan own sets i (all.length-i)),s):=by
    have step : ∀ (i : Nat) ρ x, i < all.length → (ρ 1 = .slice o2 e2 (plan.map aj) ∧ ρ 2 = I (own : Int) ∧ ρ 3 = .slice o3 e3 (sets.map me) ∧ ρ 4 = .ptr s.ag.length 0 0 ∧ ρ 8 = .ptr s.ag.length 1 0 ∧ ρ 12 = I (i : Int) ∧
        ∃bx tk,x=s.push ⟨[OW w,.slice o e (all.map gn)]::aj bV::bx,tk⟩)→
        (∀ρ' x',(ρ' 1=.slice o2 e2 (plan.map aj)∧ρ' 2=I (own:Int)∧ρ' 3=.slice o3 e3 (sets.map me)∧ρ' 4=.ptr s.ag.length 0 0∧ρ' 8=.ptr s.ag.length 1 0∧ρ' 12=I ((i+1:Nat):Int)∧
          ∃bx tk,x'=s.push ⟨[OW w,.slice o e (all.map gn)]::aj bV::bx,tk⟩)→go AP Fj (.c (.loop uy)::P4) ⟨ρ',x'⟩=some (vt (mQ w all plan own sets (i+1) (all.length-(i+1))),s))→
        go AP Fj (.c uy::.lp uy::P4) ⟨ρ,x⟩=some (vt (mQ w all plan own sets i (all.length-i)),s):=by
      rintro i ρ x hi ⟨h1,h2,h3,h4,h8,cG,bx,tk,rfl⟩ ih
      obtain⟨c,hc⟩:=get_some hi
      have r8:=bQ hc
      have dV:e=2:=by rcases hZ.e with h|h;(rw[h]at hc;simp at hc);exact h
      subst dV
      have hr:=cq (f:=gn) (o:=o) (es:=2) hc
      have wV:all.getD i default=c:=by simp[List.getD,hc]
      have O5:mQ w all plan own sets i (all.length-i)=match c.1.l.find? (l6 w all plan own sets i)with
          |some p=>some p
          |none=>mQ w all plan own sets (i+1) (all.length-(i+1)):=by
        obtain⟨d,hd⟩:∃d,all.length-i=d+1:=⟨all.length-i-1,by omega⟩
        rw[hd,mQ,wV,show all.length-(i+1)=d by omega]
      have FD:=hZ.cnt c r8
      have n6:=hZ.iY c r8
      have lS:=hZ.ok c r8
      have h63:∀m∈sets,m<2^63:=fun m hm=>Qf (Xz m hm) (by omega)
      have P5 : ∀ (j : Nat) ρ x, j ≤ c.1.l.length → (ρ 1 = .slice o2 e2 (plan.map aj) ∧ ρ 2 = I (own : Int) ∧ ρ 3 = .slice o3 e3 (sets.map me) ∧ ρ 4 = .ptr s.ag.length 0 0 ∧ ρ 8 = .ptr s.ag.length 1 0 ∧ ρ 12 = I (i : Int) ∧ ρ 42 = c.1.v aj ∧ ρ 43 = I c.1.l.length ∧ ρ 44 = I j ∧
          ∃bx tk,x=s.push ⟨[OW w,.slice o 2 (all.map gn)]::aj bV::bx,tk⟩)→
          go AP Fj (.c (.loop Ab)::amx) ⟨ρ,x⟩=some (vt (match(c.1.l.drop j).find? (l6 w all plan own sets i)with|some p=>some p|none=>mQ w all plan own sets (i+1) (all.length-(i+1))),s):=by
        refine ck c.1.l.length _ _ ?_ ?_
        · rintro j ρ x hj ⟨h1, h2, h3, h4, h8, cG, j6, lQ, nY, bx, tk, rfl⟩ fJ
          obtain⟨p,u7⟩:=get_some hj
          have jF:=n6 p (bQ u7)
          have hr:=Sl.ix (f:=aj) lS u7
          have eY:∀r,aw AP (.fn 87) [OW w,.agg (aj p),.slice o2 e2 (plan.map aj)] (s.push r)=some (B (dL w p plan),s.push r):=fun r=>RA (hs.push r) hw jF hp kD (by omega)
          have ie:=bK hj (show(c.1.l.length:Int)<_ by omega)
          rw[af9 u7]
          simp only[aj,Sl.v]at eY hr j6
          cases eW:dL w p plan with
          | true =>
            rw[eW]at eY
            have gV:l6 w all plan own sets i p=false:=by simp[l6,eW]
            rw[gV,aq (by simp)]
            simp(maxSteps:=1000000) only[go_sem,Ab,H2,h1,h2,h3,h4,h8,cG,j6,lQ,nY,hs,aS hj,hr,eY,ie,Nat.reduceEqDiff,reduceCtorEq,Nat.reduceAdd,Nat.reduceMul,Nat.reduceSub,Int.reduceLT,Int.reduceLE,Int.reduceEq,Int.reduceAdd,Int.reduceSub,Int.reduceNeg,Int.reduceToNat,aP,↓reduceIte]
            refine fJ _ _ ?_
            exact⟨h1,h2,h3,h4,h8,cG,j6,lQ,rfl,_,_,rfl⟩
          | false =>
            rw[eW]at eY
            have ake:l6 w all plan own sets i p=sets.any fun m=>decide (m&&&(2^(i+1)-1)=own|||2^i)&&gP w all (plan++[p]) m:=by simp[l6,eW]
            obtain⟨xc,ogc,tkc,aT,hAc⟩:=aee (s:=s) (tk:=tk) (l:=plan) (o:=o2) (e:=e2) hs kD O7 (by omega)
            obtain⟨xa,qd,tka,cQ,eM,uV,_⟩:=hAc.append hs .full (ys:=[aj p]) (by simp) (by simp;omega)
            have tH:closeAll (aj p)=some (aj p):=by
              simp only[aj,mr,oI,pL,Sl.close jF.ok];rfl
            have Xo:∀m:ae,eA m (p.an.v aD)=some (p.an.v aD):=fun m=>Sl.BA jF.ok
            obtain⟨oa,hxa⟩:∃oa,xa=.slice oa 3 ((plan++[p]).map aj):=by
              cases qd with
              |none=>exact absurd rfl uV
              |some g=>exact⟨_,by rw[eM.2.1,iM];rfl⟩
            subst hxa
            have p9 : ∀ (q : Nat) ρ x, q ≤ sets.length → (ρ 1 = .slice o2 e2 (plan.map aj) ∧ ρ 2 = I (own : Int) ∧ ρ 3 = .slice o3 e3 (sets.map me) ∧ ρ 4 = .ptr s.ag.length 0 0 ∧ ρ 8 = .ptr s.ag.length 1 0 ∧ ρ 12 = I (i : Int) ∧ ρ 14 = .ptr s.ag.length (bx.length + 1 + 1) 0 ∧ ρ 15 = .slice oa 3 ((plan ++ [p]).map aj) ∧ ρ 42 = c.1.v aj ∧ ρ 43 = I c.1.l.length ∧ ρ 44 = I j ∧ ρ 58 = .slice o3 e3 (sets.map me) ∧ ρ 59 = I sets.length ∧ ρ 60 = I q ∧
                ∃tk,x=s.push ⟨[OW w,.slice o 2 (all.map gn)]::aj bV::(bx++[aj p]),tk⟩)→
                go AP Fj (.c (.loop Ac)::amy) ⟨ρ,x⟩=some (vt (if((sets.drop q).any fun m=>decide (m&&&(2^(i+1)-1)=own|||2^i)&&gP w all (plan++[p]) m)=true then some p else match(c.1.l.drop (j+1)).find? (l6 w all plan own sets i)with|some p=>some p|none=>mQ w all plan own sets (i+1) (all.length-(i+1))),s):=by
              refine ck sets.length _ _ ?_ ?_
              · rintro q ρ x hq ⟨h1, h2, h3, h4, h8, cG, qD, A1, j6, lQ, nY, A4, yM, Fu, tk, rfl⟩ Kk
                obtain⟨m,ll⟩:=get_some hq
                have Xh:=bQ ll
                have gU:=Xz m Xh
                have OI:e3=1:=by rcases n7 with h|h;(rw[h]at ll;simp at ll);exact h
                subst OI
                have hr:=cq (f:=me) (o:=o3) (es:=1) ll
                have tL:IntKind.i64.wrap ((i:Int)+1)=((i+1:Nat):Int):=by rw[bW]<;>omega
                have Pt:=CD (k:=i+1) (by omega)
                have Pu:=CD (k:=i) (by omega)
                have lV:=aqN i (by omega)
                have gg:2^(i+1)-1<2^63:=by
                  have:(2:Nat)^(i+1)≤2^13:=ji (by decide) (by omega)
                  have h8:(2:Nat)^13<2^63:=by decide
                  omega
                have jB:(2:Nat)^i<2^63:=LC (by decide) (by omega)
                have hand:=SS (a:=m) (b:=2^(i+1)-1) (h63 m Xh) gg
                have y8:=SV (a:=own) (b:=2^i) (Qf lu (by decide)) jB
                have FI:=Vb (m&&&(2^(i+1)-1)) (own|||2^i)
                have n8:∀r,aw AP (.fn 66) [CH w o 2 all,.slice oa 3 ((plan++[p]).map aj),I (m:Int)] (s.push r)=some (B (gP w all (plan++[p]) m),s.push r):=fun r=>
                  Ur (hs.push r) hw hZ gU (fun y hy=>by
                    rcases dD.1 hy with h|h
                    · exact hp y h
                    · simp at h;subst h;exact jF) (.inr rfl) (by simp;omega)
                have PI:=bK hq (show(sets.length:Int)<_ by omega)
                rw[ab6 ll]
                simp only[CH]at n8
                simp only[aj,Sl.v,bV,nP]at Xo⊢
                cases hg:decide (m&&&(2^(i+1)-1)=own|||2^i)with
                | false =>
                  rw[hg]at FI
                  simp(maxSteps:=1000000) only[go_sem,Ac,h1,h2,h3,h4,h8,cG,qD,A1,A4,yM,Fu,hs,aS hq,hr,tL,Pt,Pu,lV,hand,y8,FI,n8,PI,jM,mW,Nat.reduceEqDiff,reduceCtorEq,Nat.reduceAdd,Nat.reduceMul,Nat.reduceSub,Int.reduceLT,Int.reduceLE,Int.reduceEq,Int.reduceAdd,Int.reduceSub,Int.reduceNeg,Int.reduceToNat,aP,↓reduceIte]
                  refine(Kk _ _ ?_).trans rfl
                  exact⟨h1,h2,h3,h4,h8,cG,qD,A1,j6,lQ,nY,A4,yM,rfl,_,rfl⟩
                | true =>
                  rw[hg]at FI
                  cases hf:gP w all (plan++[p]) m with
                  | false =>
                    rw[hf]at n8
                    simp(maxSteps:=1000000) only[go_sem,Ac,h1,h2,h3,h4,h8,cG,qD,A1,A4,yM,Fu,hs,aS hq,hr,tL,Pt,Pu,lV,hand,y8,FI,n8,PI,nJ,mW,Nat.reduceEqDiff,reduceCtorEq,Nat.reduceAdd,Nat.reduceMul,Nat.reduceSub,Int.reduceLT,Int.reduceLE,Int.reduceEq,Int.reduceAdd,Int.reduceSub,Int.reduceNeg,Int.reduceToNat,aP,↓reduceIte]
                    refine(Kk _ _ ?_).trans rfl
                    exact⟨h1,h2,h3,h4,h8,cG,qD,A1,j6,lQ,nY,A4,yM,rfl,_,rfl⟩
                  | true =>
                    rw[hf]at n8
                    simp(maxSteps:=1000000) only[go_sem,Ac,h1,h2,h3,h4,h8,cG,qD,A1,A4,yM,Fu,hs,aS hq,hr,tL,Pt,Pu,lV,hand,y8,FI,n8,PI,xH,xJ,bB,Xo,Nat.reduceEqDiff,reduceCtorEq,Nat.reduceAdd,Nat.reduceMul,Nat.reduceSub,Int.reduceLT,Int.reduceLE,Int.reduceEq,Int.reduceAdd,Int.reduceSub,Int.reduceNeg,Int.reduceToNat,aP,↓reduceIte]
                    rfl
              · rintro ρ x ⟨h1, h2, h3, h4, h8, cG, qD, A1, j6, lQ, nY, A4, yM, Fu, tk, rfl⟩
                simp(maxSteps:=1000000) only[go_sem,Ac,H2,nY,yM,Fu,hs,bM,ie,Nat.reduceEqDiff,reduceCtorEq,Nat.reduceAdd,Nat.reduceMul,Nat.reduceSub,Int.reduceLT,Int.reduceLE,Int.reduceEq,Int.reduceAdd,Int.reduceSub,Int.reduceNeg,Int.reduceToNat,aP,↓reduceIte]
                rw[eS]
                refine(fJ _ _ ?_).trans rfl
                exact⟨h1,h2,h3,h4,h8,cG,j6,lQ,rfl,_,_,rfl⟩
            simp only[aj,Sl.v,bV,nP]at aT cQ tH p9
            rw[ake]
            simp(maxSteps:=1000000) only[go_sem,Ab,h1,h2,h3,h4,h8,cG,j6,lQ,nY,hs,aS hj,hr,eY,aT,tH,cQ,Nat.reduceEqDiff,reduceCtorEq,Nat.reduceAdd,Nat.reduceMul,Nat.reduceSub,Int.reduceLT,Int.reduceLE,Int.reduceEq,Int.reduceAdd,Int.reduceSub,Int.reduceNeg,Int.reduceToNat,aP,↓reduceIte]
            refine(p9 0 _ _ (bg _) ?_).trans ?_
            · exact⟨h1,h2,h3,h4,h8,cG,rfl,rfl,j6,lQ,nY,rfl,rfl,rfl,_,rfl⟩
            · rw [ku]
              cases(sets.any fun m=>decide (m&&&(2^(i+1)-1)=own|||2^i)&&gP w all (plan++[p]) m)<;>rfl
        · rintro ρ x ⟨h1, h2, h3, h4, h8, cG, j6, lQ, nY, bx, tk, rfl⟩
          have tL:IntKind.i64.wrap ((i:Int)+1)=((i+1:Nat):Int):=by rw[bW]<;>omega
          simp(maxSteps:=1000000) only[go_sem,Ab,H0,cG,lQ,nY,hs,bM,tL,Nat.reduceEqDiff,reduceCtorEq,Nat.reduceAdd,Nat.reduceMul,Nat.reduceSub,Int.reduceLT,Int.reduceLE,Int.reduceEq,Int.reduceAdd,Int.reduceSub,Int.reduceNeg,Int.reduceToNat,aP,↓reduceIte]
          rw[eS]
          refine(ih _ _ ?_).trans rfl
          exact⟨h1,h2,h3,h4,h8,rfl,_,_,rfl⟩
      have hd:decide ((i:Int)<(all.length:Int))=true:=bP (by omega)
      rw[O5]
      simp(maxSteps:=1000000) only[go_sem,uy,h1,h2,h3,h4,h8,cG,hs,hd,hr,Nat.reduceEqDiff,reduceCtorEq,Nat.reduceAdd,Nat.reduceMul,Nat.reduceSub,Int.reduceLT,Int.reduceLE,Int.reduceEq,Int.reduceAdd,Int.reduceSub,Int.reduceNeg,Int.reduceToNat,aP,↓reduceIte]
      refine(P5 0 _ _ (bg _) ?_).trans (by rw[ku])
      exact⟨h1,h2,h3,h4,h8,cG,rfl,rfl,rfl,_,_,rfl⟩
    intro i ρ x hP
    induction hn:all.length-i generalizing i ρ x with
    | zero =>
      obtain⟨h1,h2,h3,h4,h8,cG,bx,tk,rfl⟩:=hP
      have hd:decide ((i:Int)<(all.length:Int))=false:=bS (by omega)
      rw[go_loop]
      simp only[aj,Sl.v,bV,nP]
      simp(maxSteps:=1000000) only[go_sem,uy,CL,h4,h8,cG,hs,hd,Nat.reduceEqDiff,reduceCtorEq,Nat.reduceAdd,Nat.reduceMul,Nat.reduceSub,Int.reduceLT,Int.reduceLE,Int.reduceEq,Int.reduceAdd,Int.reduceSub,Int.reduceNeg,Int.reduceToNat,aP,↓reduceIte]
      rfl
    | succ d ih =>
      rw[go_loop,←hn]
      refine step i ρ x (by omega) hP fun ρ' x' uT=>?_
      rw[ih (i+1) ρ' x' uT (by omega),show all.length-(i+1)=d by omega]
  have ny:∀(a:P),plan.getLast?=some a→plan[plan.length-1]? =some a:=fun a h=>by rw[←aby];exact h
  rw[aL (show AP 67=some DK from rfl) rfl]
  cases j8:plan.getLast? with
  | none =>
    have F9:plan=[]:=R6.1 j8
    subst F9
    simp only[CH,OW,aj,Sl.v,bV,nP]at sE⊢
    simp(maxSteps:=1000000) only[go_sem,L7,hs,Nat.reduceEqDiff,reduceCtorEq,Nat.reduceAdd,Nat.reduceMul,Nat.reduceSub,Int.reduceLT,Int.reduceLE,Int.reduceEq,Int.reduceAdd,Int.reduceSub,Int.reduceNeg,Int.reduceToNat,aP,↓reduceIte]
    refine(sE 0 _ _ ?_).trans ?_
    · exact⟨rfl,rfl,rfl,rfl,rfl,rfl,[],[],rfl⟩
    · rfl
  | some a =>
    have gy:=ny a j8
    have rV:=hp a (bQ gy)
    have aB:0<plan.length:=by
      have:=(bd.1 gy).1;omega
    have OI:e2=3:=by rcases kD with h|h;(rw[h]at aB;simp at aB);exact h
    subst OI
    have hr:=cq (f:=aj) (o:=o2) (es:=3) gy
    have jo:IntKind.i64.wrap ((plan.length:Int)-1)=((plan.length-1:Nat):Int):=by rw[bW]<;>omega
    have hd:decide ((0:Int)<(plan.length:Int))=true:=bP (by omega)
    have jm:=rV.r0
    have fH:=rV.r1
    have xi:IntKind.i64.wrap (a.req+1)=((a.req.toNat+1:Nat):Int):=by rw[bW]<;>omega
    have aiC:my plan=a.req.toNat+1:=by simp[my,j8]
    simp only[CH,OW,aj,Sl.v,bV,nP]at sE hr⊢
    simp(maxSteps:=1000000) only[go_sem,L7,hs,hd,jo,hr,xi,Nat.reduceEqDiff,reduceCtorEq,Nat.reduceAdd,Nat.reduceMul,Nat.reduceSub,Int.reduceLT,Int.reduceLE,Int.reduceEq,Int.reduceAdd,Int.reduceSub,Int.reduceNeg,Int.reduceToNat,aP,↓reduceIte]
    refine(sE (a.req.toNat+1) _ _ ?_).trans ?_
    · exact⟨rfl,rfl,rfl,rfl,rfl,rfl,[],[],rfl⟩
    · simp only[sG,aiC]
end
def sN (w:W) (all:List (Sl P×Bool)) (st:Int×List Nat) (m:Nat):Int×List Nat:=
 if(decide (st.1≤jd w m)&&(pw all m&&gP w all [] m))=true then(if st.1<jd w m then(jd w m,[m])else(st.1,st.2++[m]))else st
def dm (w:W) (all:List (Sl P×Bool)) (n:Nat):Int×List Nat:=(List.range n).foldl (sN w all) (-1,[])
theorem BY {w:W} {all:List (Sl P×Bool)} {n:Nat}:dm w all (n+1)=sN w all (dm w all n) n:=by
 simp[dm,Cl]
theorem aan {w:W} {all:List (Sl P×Bool)}:∀{n:Nat},(dm w all n).2.length≤n
 |0=>by simp[dm]
 | n + 1 => by
  have ih:=aan (w:=w) (all:=all) (n:=n)
  rw[BY];unfold sN
  split
  ·split
   ·simp
   ·simp;omega
  ·omega
theorem aao {w:W} {all:List (Sl P×Bool)} {m:Nat}:∀{n:Nat},m∈(dm w all n).2→m<n
 |0,h=>by simp[dm]at h
 | n + 1, h => by
  have ih:=fun h=>aao (w:=w) (all:=all) (m:=m) (n:=n) h
  rw[BY]at h;unfold sN at h
  split at h
  ·split at h
   ·simp at h;omega
   ·rcases dD.1 h with h|h
    ·have:=ih h;omega
    ·simp at h;omega
  ·have:=ih h;omega
def df (plan:List P):Nat:=plan.foldl (fun o p=>o|||2^p.req.toNat) 0
def nq (w:W) (all:List (Sl P×Bool)) (sets:List Nat):Nat→List P→List P
 |0,plan=>plan
 |n+1,plan=>if(sets.any fun m=>decide (df plan=m))=true then plan else match sG w all plan (df plan) sets with
  |some p=>nq w all sets n (plan++[p])
  |none=>plan
def hH (w:W) (all:List (Sl P×Bool)):List P×Int×Bool:=
 if(dm w all (2^all.length)).1<0 then([],0,false)
 else(nq w all (dm w all (2^all.length)).2 (all.length+1) [],(dm w all (2^all.length)).1,true)
theorem Qo {w:W} {all:List (Sl P×Bool)} {plan:List P} {own:Nat} {sets:List Nat} {p:P}:∀{n i:Nat},mQ w all plan own sets i n=some p→∃j,i≤j∧j<i+n∧p∈(all.getD j default).1.l∧l6 w all plan own sets j p=true
 |0,_,h=>by cases h
 | n + 1, i, h => by
  simp only[mQ]at h
  split at h
  ·rename_i q hq
   injection h with h
   subst h
   exact⟨i,aH _,by omega,R8 hq,Ln hq⟩
  ·obtain⟨j,h1,h2,h3⟩:=Qo h
   exact⟨j,by omega,by omega,h3⟩
theorem N2 {plan:List P} {p:P}:my (plan++[p])=p.req.toNat+1:=by simp[my]
section
variable{s:ae} {w:W}
theorem sP.aks {e:Nat} {all:List (Sl P×Bool)} (h:sP w e all) {j:Nat} (hj:j<all.length) {p:P} (hp:p∈(all.getD j default).1.l):ch w p∧p.req=j:=by
 obtain⟨c,hc⟩:=get_some hj
 have e1:all.getD j default=c:=by simp[List.getD,hc]
 rw[e1]at hp
 exact⟨h.iY c (bQ hc) p hp,h.req j c hc p hp⟩
theorem aoW {e:Nat} {all:List (Sl P×Bool)} {plan:List P} {own:Nat} {sets:List Nat} {p:P} (hA:sP w e all) (h:sG w all plan own sets=some p):ch w p∧my plan≤p.req.toNat∧p.req.toNat<all.length:=by
 obtain⟨j,h1,h2,h3,_⟩:=Qo h
 obtain⟨h4,h5⟩:=hA.aks (j:=j) (by omega) h3
 exact⟨h4,by omega,by omega⟩
theorem Zi {plan:List P} {p:P}:df (plan++[p])=df plan|||2^p.req.toNat:=by simp[df]
theorem Zj:∀{plan:List P},(∀p∈plan,p.req.toNat<12)→df plan<2^12:=by
 intro plan h
 have:∀(l:List P) (o:Nat),o<2^12→(∀p∈l,p.req.toNat<12)→l.foldl (fun o p=>o|||2^p.req.toNat) o<2^12:=by
  intro l
  induction l with
  |nil=>intro o ho _;exact ho
  |cons a r ih=>
   intro o ho hl
   exact ih _ (Nat.or_lt_two_pow ho (LC (by decide) (hl a (xS ..)))) fun p hp=>hl p (jg _ hp)
 exact this plan 0 (by decide) h
def Aj (r:List P×Int×Bool):AV:=.tuple [bG 3 (r.1.map aj),I r.2.1,B r.2.2]
theorem Uq {o : Own} {e : Nat} {all : List (Sl P × Bool)} (hs : Ok s) (hw : Wk w) (hZ : sP w e all) : aw AP (.fn 34) [CH w o e all] s = some (Aj (hH w all), s) := by
 have et:=hw.v.rl
 have oS:=hZ.len
 have avt:2^all.length≤4096:=by
  have:(2:Nat)^all.length≤2^12:=ji (by decide) (by omega)
  exact kQ this (by decide)
 have sv:∀n,n≤2^all.length→(dm w all n).2.length≤4096:=fun n hn=>kQ aan (by omega)
 have anF : ∀ (f : Nat) (plan : List P) (ρ : Nat → AV) (x : ae) (sets : List Nat) (dN : Int), sets = (dm w all (2 ^ all.length)).2 → all.length + 1 - my plan ≤ f → my plan ≤ all.length → plan.length ≤ my plan → (∀ p ∈ plan, ch w p) →
   (ρ 1=.ptr s.ag.length 0 0∧(∃o5 e5,ρ 5=.slice o5 e5 (sets.map me)∧(sets=[]∨e5=1))∧ρ 6=I dN∧∃og tk bx,Acc s.ag.length 3 (plan.map aj) (ρ 9) og tk∧x=s.push ⟨[OW w,.slice o e (all.map gn)]::bx,tk⟩)→
   go AP NN (.c (.loop HT)::amr) ⟨ρ,x⟩=some (.tuple [bG 3 ((nq w all sets f plan).map aj),I dN,B true],s):=by
  intro f
  induction f with
  |zero=>intro plan ρ x sets dN su hf n8;omega
  | succ f ihf =>
   rintro plan ρ x sets dN su hf n8 cD dW ⟨h1,⟨o5,e5,h5,OJ⟩,h6,og,tk,bx,hA,rfl⟩
   have zi:∀p∈plan,p.req.toNat<12:=fun p hp=>by have:=(dW p hp).r0;have:=(dW p hp).r1;omega
   have lu:=Zj zi
   have ajV:∀m∈sets,m<2^w.rs.l.length:=fun m hm=>by
    rw[su]at hm;have:=aao hm;rw[oS]at this;exact this
   have avy:sets.length≤4096:=by rw[su];exact sv _ (aH _)
   obtain⟨o9,e9,Oc,yW,ho9⟩:∃o9 e9,ρ 9=.slice o9 e9 (plan.map aj)∧(plan=[]∨e9=3)∧o9.isNil=plan.isEmpty:=by
    cases og with
    |none=>
     obtain⟨q1,q2⟩:=hA
     have:plan=[]:=by simpa using q1
     subst this
     exact⟨_,_,q2,.inl rfl,rfl⟩
    |some g=>
     refine⟨_,_,hA.2.1,.inr rfl,?_⟩
     have:plan≠[]:=by have:=hA.1;simpa using this
     cases plan with
     |nil=>exact absurd rfl this
     |cons a r=>rfl
   have FE:∀r,aw AP (.fn 62) [.slice o5 e5 (sets.map me),I (df plan:Int)] (s.push r)=some (B (sets.any fun m=>decide (df plan=m)),s.push r):=fun r=>by
    have:=Lc (s:=s.push r) (l:=sets.map fun m:Nat=>(m:Int)) (x:=(df plan:Int)) (o:=o5) (e:=e5) (by rcases OJ with h|h;exact .inl (by simp[h]);exact .inr h) (by simp;omega)
    rw[vO]at this
    rw[show(sets.map me)=sets.map ((fun a:Int=>[I a])∘fun m:Nat=>(m:Int))from rfl,this,Hi]
    congr 4
    funext m
    exact Vb _ _
   have ke:∀r,aw AP (.fn 67) [CH w o e all,.slice o9 e9 (plan.map aj),I (df plan:Int),.slice o5 e5 (sets.map me)] (s.push r)=some (vt (sG w all plan (df plan) sets),s.push r):=fun r=>
    adv (hs.push r) hw hZ dW yW ho9 (by omega) lu ajV OJ (by omega)
   have anD : ∀ (j : Nat) ρ x, j ≤ plan.length → (ρ 1 = .ptr s.ag.length 0 0 ∧ ρ 5 = .slice o5 e5 (sets.map me) ∧ ρ 6 = I dN ∧ ρ 9 = .slice o9 e9 (plan.map aj) ∧ ρ 10 = I (df (plan.take j) : Int) ∧ ρ 49 = .slice o9 e9 (plan.map aj) ∧ ρ 50 = I plan.length ∧ ρ 51 = I j ∧
     ∃bx,x=s.push ⟨[OW w,.slice o e (all.map gn)]::bx,tk⟩)→
     go AP NN (.c (.loop z8)::ams) ⟨ρ,x⟩=some (.tuple [bG 3 ((nq w all sets (f+1) plan).map aj),I dN,B true],s):=by
    refine ck plan.length _ _ ?_ ?_
    ·rintro j ρ x hj ⟨h1,h5,h6,h9,dh,rO,nr,pS,bx,rfl⟩ ih
     obtain⟨p,hp⟩:=get_some hj
     have pZ:=dW p (bQ hp)
     have n7:e9=3:=by rcases yW with h|h;(rw[h]at hp;simp at hp);exact h
     subst n7
     have hr:=cq (f:=aj) (o:=o9) (es:=3) hp
     have p0:=pZ.r0
     have p1:=pZ.r1
     have kf:dy .shl (I 1) (I p.req)=some (I ((2^p.req.toNat:Nat):Int)):=by
      have:=CD (k:=p.req.toNat) (by omega)
      rwa [show((p.req.toNat:Nat):Int)=p.req by omega]at this
     have aC:df (plan.take j)<2^63:=Qf (Zj fun q hq=>zi q (xT hq)) (by decide)
     have y8:=SV (a:=df (plan.take j)) (b:=2^p.req.toNat) aC (LC (by decide) (by omega))
     have hon:df (plan.take (j+1))=df (plan.take j)|||2^p.req.toNat:=by rw[fU hp,Zi]
     simp only[go_sem,z8,dh,rO,nr,pS,hs,aS hj,hr,kf,y8,bK hj (show(plan.length:Int)<_ by omega),simprocAttr]
     refine ih _ _ ?_
     refine⟨h1,h5,h6,h9,?_,rO,nr,rfl,_,rfl⟩
     rw[hon];rfl
    ·rintro ρ x ⟨h1,h5,h6,h9,dh,rO,nr,pS,bx,rfl⟩
     rw[jh]at dh
     have yN:=hA
     rw[Oc]at yN
     have dc:=yN.leave
     have hgp:nq w all sets (f+1) plan=if(sets.any fun m=>decide (df plan=m))=true then plan else match sG w all plan (df plan) sets with
      |some p=>nq w all sets f (plan++[p])
      |none=>plan:=rfl
     rw[hgp]
     cases hc:sets.any fun m=>decide (df plan=m)with
     |true=>
      rw[hc]at FE
      simp only[go_sem,z8,CK,h5,h6,h9,dh,nr,pS,bM,FE,dc,simprocAttr]
     | false =>
      rw[hc]at FE
      simp only[ej,cE]
      cases hn:sG w all plan (df plan) sets with
      |none=>
       rw[hn]at ke
       simp only[vt,Option.getD_none,s7,aj,Sl.v,bV,nP]at ke
       simp only[go_sem,z8,CK,h1,h5,h6,h9,dh,nr,pS,hs,bM,FE,ke,dc,simprocAttr]
      | some p =>
       rw[hn]at ke
       obtain⟨n1,n2,n3⟩:=aoW hZ hn
       have tH:closeAll (aj p)=some (aj p):=by
        simp only[aj,mr,oI,pL,Sl.close n1.ok];rfl
       obtain⟨x',gm,tk',cQ,eM,_⟩:=yN.append hs .full (ys:=[aj p]) (by simp) (by simp;omega)
       simp only[vt,kR,xW,aj,Sl.v]at ke tH cQ
       simp only[go_sem,z8,CK,h1,h5,h9,dh,nr,pS,hs,bM,FE,ke,tH,cQ,simprocAttr]
       refine(ihf (plan++[p]) _ _ sets dN su (by rw[N2];omega) (by rw[N2];omega) (by rw[N2];simp;omega) (fun q hq=>?_) ?_).trans rfl
       ·rcases dD.1 hq with h|h
        ·exact dW q h
        ·simp at h;subst h;exact n1
       ·refine⟨h1,⟨o5,e5,h5,OJ⟩,h6,gm,tk',_,?_,rfl⟩
        rw[iM];exact eM
   rw[go_loop]
   simp only[go_sem,HT,Oc,simprocAttr]
   refine anD 0 _ _ (bg _) ?_
   exact⟨h1,h5,h6,Oc,rfl,rfl,rfl,rfl,_,rfl⟩
 have Yd : ∀ (j : Nat) ρ x, j ≤ 2 ^ all.length → (ρ 1 = .ptr s.ag.length 0 0 ∧ ρ 6 = I (dm w all j).1 ∧ ρ 18 = I ((2 ^ all.length : Nat) : Int) ∧ ρ 19 = I j ∧
   ∃og tk,Acc s.ag.length 1 ((dm w all j).2.map me) (ρ 5) og tk∧x=s.push ⟨[[OW w,.slice o e (all.map gn)]],tk⟩)→
   go AP NN (.c (.loop ux)::amt) ⟨ρ,x⟩=some (Aj (hH w all),s):=by
  refine ck (2^all.length) _ _ ?_ ?_
  ·rintro j ρ x hj ⟨h1,h6,fF,pP,og,tk,hA,rfl⟩ ih
   have FT:j<2^w.rs.l.length:=by rw[←oS];exact hj
   have aiR:j<2^62:=na FT (ji (by decide) (by omega))
   have nE:∀r,aw AP (.fn 64) [CH w o e all,I (j:Int)] (s.push r)=some (I (jd w j),s.push r):=fun r=>adw (hs.push r) hw FT
   have jl:∀r,aw AP (.fn 65) [CH w o e all,I (j:Int)] (s.push r)=some (B (pw all j),s.push r):=fun r=>adu (hs.push r) hZ.e (by omega) aiR
   have n8:∀r,aw AP (.fn 66) [CH w o e all,.slice .aA 0 [],I (j:Int)] (s.push r)=some (B (gP w all [] j),s.push r):=fun r=>Ur (plan:=[]) (hs.push r) hw hZ FT (by simp) (.inl rfl) (by simp)
   have ie:=bK hj (show(((2^all.length:Nat):Nat):Int)<_ by omega)
   have cp:=BY (w:=w) (all:=all) (n:=j)
   have aC:=aS hj
   have hsj:=sv j (by omega)
   generalize dm w all j=st at*
   generalize dm w all (j+1)=aQ at*
   generalize xe:jd w j=W1 at*
   generalize Ph:pw all j=B1 at*
   generalize Pj:gP w all [] j=B2 at*
   unfold sN at cp
   rw[xe,Ph,Pj]at cp
   simp only[CH]at nE jl n8
   cases hg:decide (st.1≤W1)with
   |false=>
    rw[hg,jM,aq (by simp)]at cp
    simp only[go_sem,ux,h1,h6,fF,pP,aC,nE,hg,ie,simprocAttr]
    refine ih _ _ ?_
    exact⟨h1,by rw[cp];exact h6,fF,rfl,og,tk,by rw[cp];exact hA,rfl⟩
   | true =>
    cases B1 with
    |false=>
     rw[hg,jM,nJ,aq (by simp)]at cp
     simp only[go_sem,ux,h1,h6,fF,pP,aC,nE,jl,hg,ie,simprocAttr]
     refine ih _ _ ?_
     exact⟨h1,by rw[cp];exact h6,fF,rfl,og,tk,by rw[cp];exact hA,rfl⟩
    | true =>
     cases B2 with
     |false=>
      rw[hg,nJ,nJ,aq (by simp)]at cp
      simp only[go_sem,ux,h1,h6,fF,pP,aC,nE,jl,n8,hg,ie,simprocAttr]
      refine ih _ _ ?_
      exact⟨h1,by rw[cp];exact h6,fF,rfl,og,tk,by rw[cp];exact hA,rfl⟩
     | true =>
      rw[hg,xH,xH,ak rfl]at cp
      by_cases hm:st.1<W1
      ·have hd:decide (st.1<W1)=true:=bP hm
       rw[ak hm]at cp
       obtain⟨x',gm,tk',cQ,eM,_⟩:=(Acc.start (d:=s.ag.length) (es:=1) (toks:=tk)).append hs .full (ys:=[me j]) (by simp) (by simp)
       simp only[go_sem,ux,h1,h6,fF,pP,aC,nE,jl,n8,hg,ie,hd,cQ,simprocAttr]
       refine ih _ _ ?_
       exact⟨h1,by rw[cp];rfl,fF,rfl,gm,tk',by rw[cp];exact eM,rfl⟩
      ·have hd:decide (st.1<W1)=false:=bS hm
       rw[aq hm]at cp
       obtain⟨x',gm,tk',cQ,eM,_⟩:=hA.append hs .full (ys:=[me j]) (by simp) (by simp;omega)
       simp only[go_sem,ux,h1,h6,fF,pP,aC,nE,jl,n8,hg,ie,hd,cQ,simprocAttr]
       refine ih _ _ ?_
       exact⟨h1,by rw[cp];exact h6,fF,rfl,gm,tk',by rw[cp,iM];exact eM,rfl⟩
  ·rintro ρ x ⟨h1,h6,fF,pP,og,tk,hA,rfl⟩
   have gW:=anF (all.length+1) []
   unfold hH
   by_cases w7:(dm w all (2^all.length)).1<0
   ·have hd:decide ((dm w all (2^all.length)).1<0)=true:=bP w7
    rw[ak w7]
    simp only[go_sem,ux,HU,h6,fF,pP,bM,hd,simprocAttr]
    rfl
   ·have hd:decide ((dm w all (2^all.length)).1<0)=false:=bS w7
    rw[aq w7]
    have h5:∃o5 e5,ρ 5=.slice o5 e5 ((dm w all (2^all.length)).2.map me)∧((dm w all (2^all.length)).2=[]∨e5=1):=by
     cases og with
     |none=>obtain⟨q1,q2⟩:=hA;exact⟨_,_,by rw[q2,q1],.inl (by simpa using q1)⟩
     |some g=>exact⟨_,_,hA.2.1,.inr rfl⟩
    simp only[go_sem,ux,HU,h6,fF,pP,bM,hd,simprocAttr]
    refine(gW _ _ _ _ rfl (by simp[my]) (by simp[my]) (by simp) (by simp) ?_).trans rfl
    exact⟨h1,h5,h6,none,tk,[],Acc.start,rfl⟩
 have kf:=CD (k:=all.length) (by omega)
 rw[aL (show AP 34=some DH from rfl) rfl]
 simp only[CH,OW]at Yd⊢
 simp only[go_sem,Tb,kf,simprocAttr]
 refine Yd 0 _ _ (bg _) ?_
 exact⟨rfl,rfl,rfl,rfl,none,[],Acc.start,rfl⟩
end
def jc (w:W):Int:=if(dp w).2.2=0 then cond (zI w) 0 8 else(dp w).2.2
section
variable{s:ae} {w:W}
theorem agi (hw:Wk w):sP w (eD 2 (dG w)).e (dG w):=by
 have dS:∀(i:Nat) (c:Sl P×Bool),(dG w)[i]? =some c→i<w.rs.l.length∧c=(eD 3 (ct w [] (i:Nat)),true):=fun i c h=>by
  have hi:=(bd.1 h).1
  rw[dG,N1]at hi
  refine⟨hi,?_⟩
  rw[dG,rN,jf,Ho hi]at h
  injection h with h
  exact h.symm
 have iV:∀c∈dG w,∃i:Nat,i<w.rs.l.length∧c=(eD 3 (ct w [] (i:Nat)),true):=fun c hc=>by
  obtain⟨i,hi⟩:=mZ hc
  exact⟨i,dS i c hi⟩
 refine⟨?_,by simp[dG,N1],fun c hc=>?_,fun c hc=>?_,fun c hc p hp=>?_,fun i c hc p hp=>?_⟩
 ·cases dG w
  ·exact .inl rfl
  ·exact .inr rfl
 ·obtain⟨i,hi,rfl⟩:=iV c hc;exact x4
 ·obtain⟨i,hi,rfl⟩:=iV c hc
  rw[kT]
  exact kQ (nO _ _) (BP hw (by omega) (by omega))
 ·obtain⟨i,hi,rfl⟩:=iV c hc
  rw[kT]at hp
  exact(nG hw (i:=(i:Nat)) (by omega) (by omega) (eT.1 hp).1).1
 ·obtain⟨hi,rfl⟩:=dS i c hc
  rw[kT]at hp
  exact(nG hw (i:=(i:Nat)) (by omega) (by omega) (eT.1 hp).1).2.1
def Dz (w:W):List P×Int×Bool:=hH w (dG w)
theorem ar0 (hs:Ok s) (hw:w.Ok) (hf:w.ko):aw AP (.fn 17) [w.v] s=some (.tuple [bG 3 ((if jc w=0 then(Dz w).1 else[]).map aj),I (if jc w=0 then(Dz w).2.1 else 0),I (jc w)],s):=by
 have ho:∀r,aw AP (.fn 27) [w.v] (s.push r)=some (.tuple [if(dp w).2.2=0 then OW w else NP,I (jc w)],s.push r):=fun r=>aad (hs.push r) hw hf
 rw[aL (show AP 17=some Ea from rfl) rfl]
 simp only[W.v,c8,Sl.v]at ho
 by_cases h0:jc w=0
 ·have he:(dp w).2.2=0:=by
   unfold jc at h0
   by_cases h:(dp w).2.2=0
   ·exact h
   ·rw[aq h]at h0;exact absurd h0 h
  have cz:Wk w:=⟨hw,hf,rn he⟩
  rw[ak he,h0]at ho
  have pW:∀r,aw AP (.fn 44) [OW w] (s.push r)=some (CH w (eD 2 (dG w)).o (eD 2 (dG w)).e (dG w),s.push r):=fun r=>by
   rw[atl (hs.push r) cz,uw];simp only[Sl.v,kT]
  have qF:∀r,aw AP (.fn 34) [CH w (eD 2 (dG w)).o (eD 2 (dG w)).e (dG w)] (s.push r)=some (Aj (Dz w),s.push r):=fun r=>Uq (hs.push r) cz (agi cz)
  rw[h0]
  simp only[CH,Aj]at pW qF
  simp only[bB]
  simp only[go_sem,MD,ho,pW,qF,aY,eB,simprocAttr]
 ·simp only[h0,cE]
  simp only[go_sem,MD,ho,aY,h0,ij,simprocAttr]
  rfl
end
def ig (l:List P):Int:=match l.getLast? with
 |some p=>p.req
 |none=>-1
def eO (r:R):Int→List Int→Int
 |_,[]=>0
 |last,a::t=>if(r.an.l.any fun b=>decide (a=b))=true then(if last<a then eO r a t else 9)else 6
def dO (w : W) (p : P) (Vi : List P) : Int :=
 if wi p.req 0 (w.rs.l.length - 1) = true then
  if ig Vi < p.req then
   if wi p.start (w.rq p.req).lo ((w.rq p.req).hi + 1 - (w.rq p.req).len) = true then
    if(p.an.l.length:Int)=(w.rq p.req).need then
     if eO (w.rq p.req) (-1) p.an.l=0 then
      if(p.an.l.any fun a=>!cS w a p.start (w.rq p.req).len)=true then 21
      else if dL w p Vi=true then 13 else 0
     else eO (w.rq p.req) (-1) p.an.l
    else 10
   else 2
  else 9
 else 6
theorem HN {w:W} {r:R} {st len:Int}:∀{l:List Int} {last:Int},eO r last l=0→(∀a∈l,(r.an.l.any fun b=>decide (a=b))=true)∧(∀a∈l,last<a)
 |[],_,_=>by simp
 | a :: t, last, h => by
  simp only[eO]at h
  by_cases h1:(r.an.l.any fun b=>decide (a=b))=true
  ·rw[ak h1]at h
   by_cases h2:last<a
   ·rw[ak h2]at h
    obtain⟨i1,i2⟩:=HN (w:=w) (st:=st) (len:=len) h
    refine⟨fun b hb=>?_,fun b hb=>?_⟩
    ·rcases eC.1 hb with rfl|hb
     ·exact h1
     ·exact i1 b hb
    ·rcases eC.1 hb with rfl|hb
     ·exact h2
     ·have:=i2 b hb;omega
   ·rw[aq h2]at h;omega
  ·rw[aq h1]at h;omega
theorem Qi {l:List Int} {a:Int} (h:(l.any fun b=>decide (a=b))=true):a∈l:=by
 obtain⟨b,hb,he⟩:=fL.1 h
 have:a=b:=by simpa using he
 rw[this];exact hb
section
variable{s:ae} {w:W}
theorem atm {p:P} {l:List P} {o:Own} {e:Nat} (hs:Ok s) (hw:Wk w) (dI:p.an.ok 1) (cD:(p.an.l.length:Int)<1000000) (hl:∀x∈l,ch w x) (he:l=[]∨e=3) (hn:(l.length:Int)<1000000):
  aw AP (.fn 56) [OW w,.agg (aj p),.slice o e (l.map aj)] s=some (I (dO w p l),s):=by
 have et:=hw.v.rl
 have iE:=hw.v.n2
 have fu:∀q:ae,aw AP (.fn 30) [OW w,I p.req] q=some (I (cond (wi p.req 0 (w.rs.l.length-1)) 0 6),q):=fun q=>aa8 hw
 have main : ∀ (h0 : 0 ≤ p.req) (h1 : p.req < w.rs.l.length), (w.rq p.req).lo ≤ p.start → p.start ≤ (w.rq p.req).hi + 1 - (w.rq p.req).len → ∀ (j : Nat) ρ x, j ≤ p.an.l.length → (ρ 0 = OW w ∧ ρ 2 = .slice o e (l.map aj) ∧ ρ 4 = .ptr s.ag.length 0 0 ∧ ρ 10 = .ptr s.ag.length 1 0 ∧ ρ 76 = p.an.v aD ∧ ρ 77 = I p.an.l.length ∧ ρ 78 = I j ∧
   (∃last:Int,ρ 7=I last∧eO (w.rq p.req) (-1) p.an.l=eO (w.rq p.req) last (p.an.l.drop j))∧ρ 12=B ((p.an.l.take j).any fun a=>!cS w a p.start (w.rq p.req).len)∧(∀a∈p.an.l.take j,a∈(w.rq p.req).an.l)∧
   ∃bx tk,x=s.push ⟨aj p::bU (w.rq p.req)::bx,tk⟩)→
   go AP VI (.c (.loop we)::X9) ⟨ρ,x⟩=some (I (if eO (w.rq p.req) (-1) p.an.l=0 then(if(p.an.l.any fun a=>!cS w a p.start (w.rq p.req).len)=true then 21 else if dL w p l=true then 13 else 0)else eO (w.rq p.req) (-1) p.an.l),s):=by
  intro h0 h1 zj Gi
  have hq:=hw.rq h0 h1
  have sn:=hw.ok.an _ (W.qh h0 h1)
  have q0:=hq.qX
  have q1:=hq.bH
  have q2:=hq.qa
  have q3:=hq.po
  have WX:=hw.rM.an _ (W.qh h0 h1)
  refine ck p.an.l.length _ _ ?_ ?_
  ·rintro j ρ x hj ⟨g0,g2,g4,g10,wM,wN,AW,⟨last,g7,j8⟩,g12,iV,bx,tk,rfl⟩ ih
   obtain⟨a,ha⟩:=get_some hj
   have hr:=Sl.ix (f:=aD) dI ha
   have pV:∀r,aw AP (.fn 62) [.slice (w.rq p.req).an.o (w.rq p.req).an.e ((w.rq p.req).an.l.map aD),I a] (s.push r)=some (B ((w.rq p.req).an.l.any fun b=>decide (a=b)),s.push r):=fun r=>Lc sn.1 (by omega)
   rw[eQ ha,eO]at j8
   have XJ:=bK hj (show(p.an.l.length:Int)<_ by omega)
   simp only[Sl.v]at wM hr
   generalize Gc:w.rq p.req=q at*
   cases hm:q.an.l.any fun b=>decide (a=b)with
   |false=>
    rw[hm]at pV j8
    rw[aq (by simp)]at j8
    rw[j8]
    simp(maxSteps:=1000000) only[go_sem,we,Dr,g0,g2,g4,g7,g10,g12,wM,wN,AW,hs,aS hj,hr,pV,lI,mT,dk,aY,Nat.reduceEqDiff,reduceCtorEq,Nat.reduceAdd,Nat.reduceMul,Nat.reduceSub,Int.reduceLT,Int.reduceLE,Int.reduceEq,Int.reduceAdd,Int.reduceSub,Int.reduceNeg,Int.reduceToNat,aP,↓reduceIte]
    rfl
   | true =>
    rw[hm]at pV j8
    rw[ak rfl]at j8
    have rV:=hq.tc a (Qi hm)
    have cd:∀r,aw AP (.fn 86) [OW w,I a,I p.start,I q.len] (s.push r)=some (B (cS w a p.start q.len),s.push r):=fun r=>aa7 hw rV.1 rV.2 (by omega) (by omega) (by omega)
    by_cases wZ:last<a
    ·have hd:decide (last<a)=true:=bP wZ
     rw[ak wZ]at j8
     have n9:∀c:Bool,B c=B ((p.an.l.take (j+1)).any fun a=>!cS w a p.start q.len)→∀ρ' x',(ρ' 0=OW w∧ρ' 2=.slice o e (l.map aj)∧ρ' 4=.ptr s.ag.length 0 0∧ρ' 10=.ptr s.ag.length 1 0∧ρ' 76=.slice p.an.o p.an.e (p.an.l.map aD)∧ρ' 77=I p.an.l.length∧ρ' 78=I ((j+1:Nat):Int)∧ρ' 7=I a∧ρ' 12=B c∧∃bx tk,x'=s.push ⟨aj p::bU q::bx,tk⟩)→
       go AP VI (.c (.loop we)::X9) ⟨ρ',x'⟩=some (I (if eO q (-1) p.an.l=0 then(if(p.an.l.any fun a=>!cS w a p.start q.len)=true then 21 else if dL w p l=true then 13 else 0)else eO q (-1) p.an.l),s):=by
      rintro c eW ρ' x' ⟨k0,k2,k4,P1,k76,k77,P3,k7,P2,kb⟩
      refine ih ρ' x' ⟨k0,k2,k4,P1,k76,k77,P3,⟨a,k7,j8⟩,by rw[P2,eW],fun b hb=>?_,kb⟩
      rw[fU ha]at hb
      rcases dD.1 hb with h|h
      ·exact iV b h
      ·simp at h;subst h;exact Qi hm
     have p6:((p.an.l.take (j+1)).any fun a=>!cS w a p.start q.len)=(((p.an.l.take j).any fun a=>!cS w a p.start q.len)||!cS w a p.start q.len):=by
      rw[fU ha,vL];simp
     generalize((p.an.l.take j).any fun a=>!cS w a p.start q.len)=C at*
     cases C with
     |true=>
      simp(maxSteps:=1000000) only[go_sem,we,g0,g2,g4,g7,g10,g12,wM,wN,AW,hs,aS hj,hr,pV,cd,hd,lI,mT,dk,aY,eB,XJ,Nat.reduceEqDiff,reduceCtorEq,Nat.reduceAdd,Nat.reduceMul,Nat.reduceSub,Int.reduceLT,Int.reduceLE,Int.reduceEq,Int.reduceAdd,Int.reduceSub,Int.reduceNeg,Int.reduceToNat,aP,↓reduceIte]
      refine n9 true (by rw[p6];rfl) _ _ ?_
      exact⟨g0,g2,g4,g10,wM,wN,rfl,rfl,rfl,_,_,rfl⟩
     |false=>
      simp(maxSteps:=1000000) only[go_sem,we,g0,g2,g4,g7,g10,g12,wM,wN,AW,hs,aS hj,hr,pV,cd,hd,lI,mT,dk,aY,eB,XJ,Nat.reduceEqDiff,reduceCtorEq,Nat.reduceAdd,Nat.reduceMul,Nat.reduceSub,Int.reduceLT,Int.reduceLE,Int.reduceEq,Int.reduceAdd,Int.reduceSub,Int.reduceNeg,Int.reduceToNat,aP,↓reduceIte]
      refine n9 (!cS w a p.start q.len) (by rw[p6];rfl) _ _ ?_
      exact⟨g0,g2,g4,g10,wM,wN,rfl,rfl,rfl,_,_,rfl⟩
    ·have hd:decide (last<a)=false:=bS wZ
     rw[aq wZ]at j8
     rw[j8]
     simp(maxSteps:=1000000) only[go_sem,we,Dr,g0,g2,g4,g7,g10,g12,wM,wN,AW,hs,aS hj,hr,pV,hd,lI,mT,dk,aY,Nat.reduceEqDiff,reduceCtorEq,Nat.reduceAdd,Nat.reduceMul,Nat.reduceSub,Int.reduceLT,Int.reduceLE,Int.reduceEq,Int.reduceAdd,Int.reduceSub,Int.reduceNeg,Int.reduceToNat,aP,↓reduceIte]
     rfl
  ·rintro ρ x ⟨g0,g2,g4,g10,wM,wN,AW,⟨last,g7,j8⟩,g12,iV,bx,tk,rfl⟩
   rw[eS]at j8
   rw[jh]at iV g12
   have ahY:eO (w.rq p.req) (-1) p.an.l=0:=j8
   have dW:ch w p:=⟨h0,h1,by omega,by omega,fun a ha=>hq.tc a (iV a ha),dI,by omega⟩
   have eY:∀r,aw AP (.fn 87) [OW w,.agg (aj p),.slice o e (l.map aj)] (s.push r)=some (B (dL w p l),s.push r):=fun r=>RA (hs.push r) hw dW hl he (by omega)
   rw[ak ahY]
   simp only[aj,Sl.v]at eY
   generalize(p.an.l.any fun a=>!cS w a p.start (w.rq p.req).len)=C at*
   generalize dL w p l=D at*
   simp(maxSteps:=1000000) only[go_sem,we,Dr,g0,g2,g4,g7,g10,g12,wN,AW,hs,bM,eY,lI,mT,Nat.reduceEqDiff,reduceCtorEq,Nat.reduceAdd,Nat.reduceMul,Nat.reduceSub,Int.reduceLT,Int.reduceLE,Int.reduceEq,Int.reduceAdd,Int.reduceSub,Int.reduceNeg,Int.reduceToNat,aP,↓reduceIte]
   cases C<;>cases D<;>rfl
 rw[aL (show AP 56=some EG from rfl) rfl]
 cases j8:l.getLast? with
 | none =>
  have F9:l=[]:=R6.1 j8
  subst F9
  have Bm:ig ([]:List P)=-1:=rfl
  by_cases hA:wi p.req 0 (w.rs.l.length-1)=true
  ·by_cases hB:-1<p.req
   ·have yO:decide (-1<p.req)=true:=bP hB
    have uS:=iK.1 hA
    have h0:0≤p.req:=uS.1
    have h1:p.req<w.rs.l.length:=by omega
    have hq:=hw.rq h0 h1
    have q0:=hq.qX
    have q1:=hq.bH
    have q2:=hq.qa
    have q3:=hq.po
    have fR:=qV hw h0 h1
    have jG:dO w p []=if wi p.start (w.rq p.req).lo ((w.rq p.req).hi+1-(w.rq p.req).len)=true then if(p.an.l.length:Int)=(w.rq p.req).need then(if eO (w.rq p.req) (-1) p.an.l=0 then(if(p.an.l.any fun a=>!cS w a p.start (w.rq p.req).len)=true then 21 else if dL w p []=true then 13 else 0)else eO (w.rq p.req) (-1) p.an.l)else 10 else 2:=by
     unfold dO;rw[ak hA,Bm,ak hB]
    rw[jG]
    have main:=main h0 h1
    have sn:=(hw.ok.an _ (W.qh h0 h1))
    have w1:IntKind.i64.wrap ((w.rq p.req).hi+1)=(w.rq p.req).hi+1:=bW (by omega) (by omega)
    have w2:IntKind.i64.wrap ((w.rq p.req).hi+1-(w.rq p.req).len)=(w.rq p.req).hi+1-(w.rq p.req).len:=bW (by omega) (by omega)
    simp only[OW,aj,bU,Sl.v,nP]at main fu fR⊢
    generalize w.rq p.req=q at*
    obtain⟨bw,lo,hi,len,val,⟨oa,ea,an⟩,need⟩:=q
    simp only at*
    simp(maxSteps:=1000000) only[go_sem,yc,hs,fu,lI,mT,hA,yO,dk,aY,eB,ub,fR,w1,w2,vA,bB,Nat.reduceEqDiff,reduceCtorEq,Nat.reduceAdd,Nat.reduceMul,Nat.reduceSub,Int.reduceLT,Int.reduceLE,Int.reduceEq,Int.reduceAdd,Int.reduceSub,Int.reduceNeg,Int.reduceToNat,aP,↓reduceIte]
    cases hC:wi p.start lo (hi+1-len)with
    |false=>simp(maxSteps:=1000000) only[go_sem,dk,bB,aY,ej,cE,Nat.reduceEqDiff,reduceCtorEq,Nat.reduceAdd,Nat.reduceMul,Nat.reduceSub,Int.reduceLT,Int.reduceLE,Int.reduceEq,Int.reduceAdd,Int.reduceSub,Int.reduceNeg,Int.reduceToNat,aP,↓reduceIte];rfl
    | true =>
     by_cases hD:(p.an.l.length:Int)=need
     ·have yP:decide ((p.an.l.length:Int)=need)=true:=bP hD
      have Fv:=iK.1 hC
      simp(maxSteps:=1000000) only[go_sem,dk,bB,yP,aY,eB,hs,Nat.reduceEqDiff,reduceCtorEq,Nat.reduceAdd,Nat.reduceMul,Nat.reduceSub,Int.reduceLT,Int.reduceLE,Int.reduceEq,Int.reduceAdd,Int.reduceSub,Int.reduceNeg,Int.reduceToNat,aP,↓reduceIte]
      refine(main Fv.1 Fv.2 0 _ _ (bg _) ?_).trans ?_
      ·exact⟨rfl,rfl,rfl,rfl,rfl,rfl,rfl,⟨-1,rfl,rfl⟩,rfl,by simp,_,_,rfl⟩
      ·rw[ak hD]
     ·have yP:decide ((p.an.l.length:Int)=need)=false:=bS hD
      simp(maxSteps:=1000000) only[go_sem,dk,bB,yP,aY,hs,hD,cE,Nat.reduceEqDiff,reduceCtorEq,Nat.reduceAdd,Nat.reduceMul,Nat.reduceSub,Int.reduceLT,Int.reduceLE,Int.reduceEq,Int.reduceAdd,Int.reduceSub,Int.reduceNeg,Int.reduceToNat,aP,↓reduceIte];rfl
   ·have yO:decide (-1<p.req)=false:=bS hB
    have jG:dO w p []=9:=by unfold dO;rw[ak hA,Bm,aq hB]
    rw[jG]
    simp only[OW,aj,Sl.v,nP]at fu⊢
    simp(maxSteps:=1000000) only[go_sem,yc,hs,fu,lI,mT,hA,yO,dk,aY,bB,Nat.reduceEqDiff,reduceCtorEq,Nat.reduceAdd,Nat.reduceMul,Nat.reduceSub,Int.reduceLT,Int.reduceLE,Int.reduceEq,Int.reduceAdd,Int.reduceSub,Int.reduceNeg,Int.reduceToNat,aP,↓reduceIte]
    rfl
  ·have yN:wi p.req 0 (w.rs.l.length-1)=false:=by simpa using hA
   have jG:dO w p []=6:=by unfold dO;rw[aq hA]
   rw[jG]
   simp only[OW,aj,Sl.v,nP]at fu⊢
   simp(maxSteps:=1000000) only[go_sem,yc,hs,fu,lI,mT,yN,dk,aY,Nat.reduceEqDiff,reduceCtorEq,Nat.reduceAdd,Nat.reduceMul,Nat.reduceSub,Int.reduceLT,Int.reduceLE,Int.reduceEq,Int.reduceAdd,Int.reduceSub,Int.reduceNeg,Int.reduceToNat,aP,↓reduceIte]
   rfl
 | some a =>
  have gy:l[l.length-1]? =some a:=by rw[←aby];exact j8
  have Bm:ig l=a.req:=by simp[ig,j8]
  have aB:0<l.length:=by
   have:=(bd.1 gy).1;omega
  have n7:e=3:=by rcases he with h|h;(rw[h]at aB;simp at aB);exact h
  subst n7
  have hr:=cq (f:=aj) (o:=o) (es:=3) gy
  have jo:IntKind.i64.wrap ((l.length:Int)-1)=((l.length-1:Nat):Int):=by rw[bW]<;>omega
  have hd:decide ((0:Int)<(l.length:Int))=true:=bP (by omega)
  simp only[aj,Sl.v]at hr
  by_cases hA:wi p.req 0 (w.rs.l.length-1)=true
  ·by_cases hB:a.req<p.req
   ·have yO:decide (a.req<p.req)=true:=bP hB
    have uS:=iK.1 hA
    have h0:0≤p.req:=uS.1
    have h1:p.req<w.rs.l.length:=by omega
    have hq:=hw.rq h0 h1
    have q0:=hq.qX
    have q1:=hq.bH
    have q2:=hq.qa
    have q3:=hq.po
    have fR:=qV hw h0 h1
    have jG:dO w p l=if wi p.start (w.rq p.req).lo ((w.rq p.req).hi+1-(w.rq p.req).len)=true then if(p.an.l.length:Int)=(w.rq p.req).need then(if eO (w.rq p.req) (-1) p.an.l=0 then(if(p.an.l.any fun a=>!cS w a p.start (w.rq p.req).len)=true then 21 else if dL w p l=true then 13 else 0)else eO (w.rq p.req) (-1) p.an.l)else 10 else 2:=by
     unfold dO;rw[ak hA,Bm,ak hB]
    rw[jG]
    have main:=main h0 h1
    have sn:=(hw.ok.an _ (W.qh h0 h1))
    have w1:IntKind.i64.wrap ((w.rq p.req).hi+1)=(w.rq p.req).hi+1:=bW (by omega) (by omega)
    have w2:IntKind.i64.wrap ((w.rq p.req).hi+1-(w.rq p.req).len)=(w.rq p.req).hi+1-(w.rq p.req).len:=bW (by omega) (by omega)
    simp only[OW,aj,bU,Sl.v]at main fu fR⊢
    generalize w.rq p.req=q at*
    obtain⟨bw,lo,hi,len,val,⟨oa,ea,an⟩,need⟩:=q
    simp only at*
    simp(maxSteps:=1000000) only[go_sem,yc,hs,fu,lI,mT,hd,jo,hr,hA,yO,dk,aY,eB,ub,fR,w1,w2,vA,bB,Nat.reduceEqDiff,reduceCtorEq,Nat.reduceAdd,Nat.reduceMul,Nat.reduceSub,Int.reduceLT,Int.reduceLE,Int.reduceEq,Int.reduceAdd,Int.reduceSub,Int.reduceNeg,Int.reduceToNat,aP,↓reduceIte]
    cases hC:wi p.start lo (hi+1-len)with
    |false=>simp(maxSteps:=1000000) only[go_sem,dk,bB,aY,ej,cE,Nat.reduceEqDiff,reduceCtorEq,Nat.reduceAdd,Nat.reduceMul,Nat.reduceSub,Int.reduceLT,Int.reduceLE,Int.reduceEq,Int.reduceAdd,Int.reduceSub,Int.reduceNeg,Int.reduceToNat,aP,↓reduceIte];rfl
    | true =>
     by_cases hD:(p.an.l.length:Int)=need
     ·have yP:decide ((p.an.l.length:Int)=need)=true:=bP hD
      have Fv:=iK.1 hC
      simp(maxSteps:=1000000) only[go_sem,dk,bB,yP,aY,eB,hs,Nat.reduceEqDiff,reduceCtorEq,Nat.reduceAdd,Nat.reduceMul,Nat.reduceSub,Int.reduceLT,Int.reduceLE,Int.reduceEq,Int.reduceAdd,Int.reduceSub,Int.reduceNeg,Int.reduceToNat,aP,↓reduceIte]
      refine(main Fv.1 Fv.2 0 _ _ (bg _) ?_).trans ?_
      ·exact⟨rfl,rfl,rfl,rfl,rfl,rfl,rfl,⟨-1,rfl,rfl⟩,rfl,by simp,_,_,rfl⟩
      ·rw[ak hD]
     ·have yP:decide ((p.an.l.length:Int)=need)=false:=bS hD
      simp(maxSteps:=1000000) only[go_sem,dk,bB,yP,aY,hs,hD,cE,Nat.reduceEqDiff,reduceCtorEq,Nat.reduceAdd,Nat.reduceMul,Nat.reduceSub,Int.reduceLT,Int.reduceLE,Int.reduceEq,Int.reduceAdd,Int.reduceSub,Int.reduceNeg,Int.reduceToNat,aP,↓reduceIte];rfl
   ·have yO:decide (a.req<p.req)=false:=bS hB
    have jG:dO w p l=9:=by unfold dO;rw[ak hA,Bm,aq hB]
    rw[jG]
    simp only[OW,aj,Sl.v]at fu⊢
    simp(maxSteps:=1000000) only[go_sem,yc,hs,fu,lI,mT,hd,jo,hr,hA,yO,dk,aY,bB,Nat.reduceEqDiff,reduceCtorEq,Nat.reduceAdd,Nat.reduceMul,Nat.reduceSub,Int.reduceLT,Int.reduceLE,Int.reduceEq,Int.reduceAdd,Int.reduceSub,Int.reduceNeg,Int.reduceToNat,aP,↓reduceIte]
    rfl
  ·have yN:wi p.req 0 (w.rs.l.length-1)=false:=by simpa using hA
   have jG:dO w p l=6:=by unfold dO;rw[aq hA]
   rw[jG]
   simp only[OW,aj,Sl.v]at fu⊢
   simp(maxSteps:=1000000) only[go_sem,yc,hs,fu,lI,mT,hd,jo,hr,yN,dk,aY,Nat.reduceEqDiff,reduceCtorEq,Nat.reduceAdd,Nat.reduceMul,Nat.reduceSub,Int.reduceLT,Int.reduceLE,Int.reduceEq,Int.reduceAdd,Int.reduceSub,Int.reduceNeg,Int.reduceToNat,aP,↓reduceIte]
   rfl
theorem BO (hw : Wk w) {p : P} {l : List P} (dI : p.an.ok 1) (cD : (p.an.l.length : Int) < 1000000) (h : dO w p l = 0) : ch w p ∧ ig l < p.req ∧ dL w p l = false ∧ (w.rq p.req).lo ≤ p.start ∧ p.start ≤ (w.rq p.req).hi + 1 - (w.rq p.req).len ∧ (p.an.l.length : Int) = (w.rq p.req).need ∧ eO (w.rq p.req) (-1) p.an.l = 0 ∧ (p.an.l.any fun a => !cS w a p.start (w.rq p.req).len) = false := by
 unfold dO at h
 by_cases h1:wi p.req 0 (w.rs.l.length-1)=true
 ·rw [ak h1] at h
  by_cases h2:ig l<p.req
  ·rw [ak h2] at h
   by_cases h3:wi p.start (w.rq p.req).lo ((w.rq p.req).hi+1-(w.rq p.req).len)=true
   ·rw [ak h3] at h
    by_cases h4:(p.an.l.length:Int)=(w.rq p.req).need
    ·rw [ak h4] at h
     by_cases h5:eO (w.rq p.req) (-1) p.an.l=0
     ·rw[ak h5]at h
      cases h6:p.an.l.any fun a=>!cS w a p.start (w.rq p.req).len with
      |true=>rw[h6,ak rfl]at h;omega
      | false =>
       rw[h6,aq (by simp)]at h
       cases h7:dL w p l with
       |true=>rw[h7,ak rfl]at h;omega
       |false=>
        rw[iK]at h1 h3
        have hq:=hw.rq h1.1 (by omega)
        have q0:=hq.qX
        have q1:=hq.bH
        have q2:=hq.qa
        have q3:=hq.po
        have iE:=hw.v.n2
        refine⟨⟨h1.1,by omega,by omega,by omega,fun a ha=>hq.tc a (Qi ((HN (w:=w) (st:=0) (len:=0) h5).1 a ha)),dI,by omega⟩,h2,rfl,h3.1,h3.2,h4,h5,rfl⟩
     ·rw[aq h5]at h;exact absurd h h5
    ·rw[aq h4]at h;omega
   ·rw[aq h3]at h;omega
  ·rw[aq h2]at h;omega
 ·rw[aq h1]at h;omega
def dQ (w:W) (l:List P):Int×Int:=match fP (fun i x=>dO w x (l.take i)) 0 l with
 |some (k,e)=>(k,e)
 |none=>(0,0)
structure gH (l:List P):Prop where
 len:l.length≤14
 ok:∀p∈l,p.an.ok 1∧p.an.l.length≤6
theorem VR {α:Type} {f:Nat→α→Int}:∀{l:List α} {k:Nat},fP f k l=none→∀(j:Nat) x,l[j]? =some x→f (k+j) x=0
 |[],_,_,_,_,h=>by simp at h
 | a :: r, k, hn, j, x, h => by
  simp only[fP]at hn
  by_cases h1:f k a=0
  ·rw[ak h1]at hn
   cases j with
   |zero=>simp at h;subst h;exact h1
   |succ j=>
    have:=VR hn j x (by simpa using h)
    rw[show k+(j+1)=k+1+j by omega];exact this
  ·rw[aq h1]at hn;cases hn
theorem Nw (hw:Wk w) {l:List P} (hl:gH l) (h:(dQ w l).2=0):∀(j:Nat) x,l[j]? =some x→dO w x (l.take j)=0:=by
 unfold dQ at h
 cases hf:fP (fun i x=>dO w x (l.take i)) 0 l with
 |some q=>obtain⟨k,e⟩:=q;rw[hf]at h;exact absurd h (Jo hf)
 |none=>
  intro j x hj
  have:=VR hf j x hj
  rwa [fC]at this
theorem UI (hw:Wk w) {l:List P} (hl:gH l) (h:(dQ w l).2=0):∀x∈l,ch w x:=fun x hx=>by
 obtain⟨j,hj⟩:=mZ hx
 have h1:=hl.ok x hx
 exact(BO hw h1.1 (by omega) (Nw hw hl h j x hj)).1
theorem Rz {l:List P} {o:Own} {e:Nat} (hs:Ok s) (hw:Wk w) (hl:gH l) (he:l=[]∨e=3):aw AP (.fn 28) [OW w,.slice o e (l.map aj)] s=some (.tuple [I (dQ w l).1,I (dQ w l).2],s):=by
 have hlen:=hl.len
 have key:∀j ρ x,j≤l.length→(ρ 0=OW w∧ρ 1=.slice o e (l.map aj)∧ρ 9=.slice o e (l.map aj)∧ρ 10=I l.length∧ρ 11=I j∧(∀y∈l.take j,ch w y)∧∃bx,x=s.push ⟨bx,[]⟩)→
   go AP afH (.c (.loop Dl)::anj) ⟨ρ,x⟩=some (match fP (fun i x=>dO w x (l.take i)) j (l.drop j)with|some (k,e)=>.tuple [I k,I e]|none=>.tuple [I 0,I 0],s):=by
  refine ck l.length _ _ ?_ ?_
  ·rintro j ρ x hj ⟨h0,h1,h9,dh,ed,dW,bx,rfl⟩ ih
   obtain⟨p,hp⟩:=get_some hj
   have F8:=hl.ok p (bQ hp)
   have n7:e=3:=by rcases he with h|h;(rw[h]at hp;simp at hp);exact h
   subst n7
   have hr:=cq (f:=aj) (o:=o) (es:=3) hp
   obtain⟨o',oZ⟩:=aay (f:=aj) (o:=o) (es:=3) (l:=l) (k:=j) (by omega)
   have jl:∀r,aw AP (.fn 56) [OW w,.agg (aj p),.slice o' 3 ((l.take j).map aj)] (s.push r)=some (I (dO w p (l.take j)),s.push r):=fun r=>atm (hs.push r) hw F8.1 (by omega) dW (.inr rfl) (by rw[fW];omega)
   rw[wJ hp]
   simp only[aj,Sl.v]at jl
   by_cases hz:dO w p (l.take j)=0
   ·simp(maxSteps:=1000000) only[go_sem,Dl,Dm,h0,h1,h9,dh,ed,hs,aS hj,hr,oZ,jl,hz,aY,eB,bB,bK hj (show(l.length:Int)<_ by omega),Nat.reduceEqDiff,reduceCtorEq,Nat.reduceAdd,Nat.reduceMul,Nat.reduceSub,Int.reduceLT,Int.reduceLE,Int.reduceEq,Int.reduceAdd,Int.reduceSub,Int.reduceNeg,Int.reduceToNat,aP,↓reduceIte]
    refine ih _ _ ?_
    refine⟨h0,h1,h9,dh,rfl,fun y hy=>?_,_,rfl⟩
    rw[fU hp]at hy
    rcases dD.1 hy with h|h
    ·exact dW y h
    ·simp at h;subst h;exact(BO hw F8.1 (by omega) hz).1
   ·have hd:decide (dO w p (l.take j)=0)=false:=bS hz
    simp(maxSteps:=1000000) only[go_sem,Dl,Dm,h0,h1,h9,dh,ed,hs,aS hj,hr,oZ,jl,hz,aY,oJ,hd,cE,ij,Nat.reduceEqDiff,reduceCtorEq,Nat.reduceAdd,Nat.reduceMul,Nat.reduceSub,Int.reduceLT,Int.reduceLE,Int.reduceEq,Int.reduceAdd,Int.reduceSub,Int.reduceNeg,Int.reduceToNat,aP,↓reduceIte]
  ·rintro ρ x ⟨h0,h1,h9,dh,ed,dW,bx,rfl⟩
   simp(maxSteps:=1000000) only[go_sem,Dl,Dm,dh,ed,bM,Nat.reduceEqDiff,reduceCtorEq,Nat.reduceAdd,Nat.reduceMul,Nat.reduceSub,Int.reduceLT,Int.reduceLE,Int.reduceEq,Int.reduceAdd,Int.reduceSub,Int.reduceNeg,Int.reduceToNat,aP,↓reduceIte]
   rw[eS];rfl
 rw[aL (show AP 28=some Ez from rfl) rfl]
 simp(maxSteps:=1000000) only[go_sem,TN,Nat.reduceEqDiff,reduceCtorEq,Nat.reduceAdd,Nat.reduceMul,Nat.reduceSub,Int.reduceLT,Int.reduceLE,Int.reduceEq,Int.reduceAdd,Int.reduceSub,Int.reduceNeg,Int.reduceToNat,aP,↓reduceIte]
 refine(key 0 _ _ (bg _) ?_).trans ?_
 ·exact⟨rfl,rfl,rfl,rfl,rfl,by simp,_,rfl⟩
 ·unfold dQ
  rw[ku]
  cases fP (fun i x=>dO w x (l.take i)) 0 l with
  |none=>rfl
  |some q=>obtain⟨k,e⟩:=q;rfl
def kK (w:W) (l:List P):Int×Int:=if(dp w).2.2=0 then dQ w l else(0,(dp w).2.2)
theorem aac {l:List P} {o:Own} {e:Nat} (hs:Ok s) (hw:w.Ok) (hf:w.ko) (hl:gH l) (he:l=[]∨e=3):aw AP (.fn 41) [w.v,.slice o e (l.map aj)] s=some (.tuple [if(dp w).2.2=0 then OW w else NP,I (kK w l).1,I (kK w l).2],s):=by
 unfold kK
 rw[aL (show AP 41=some Em from rfl) rfl]
 by_cases hz:(dp w).2.2=0
 ·have cz:Wk w:=⟨hw,hf,rn hz⟩
  have ho:∀r,aw AP (.fn 52) [w.v] (s.push r)=some (.tuple [OW w,I 0],s.push r):=fun r=>Z9 (hs.push r) hw hf hz
  have hc:∀r,aw AP (.fn 28) [OW w,.slice o e (l.map aj)] (s.push r)=some (.tuple [I (dQ w l).1,I (dQ w l).2],s.push r):=fun r=>Rz (hs.push r) cz hl he
  rw[ak hz,ak hz]
  simp only[W.v,c8,Sl.v]at ho
  simp only[OW]at ho hc⊢
  simp(maxSteps:=1000000) only[go_sem,MQ,hs,ho,hc,aY,eB,Nat.reduceEqDiff,reduceCtorEq,Nat.reduceAdd,Nat.reduceMul,Nat.reduceSub,Int.reduceLT,Int.reduceLE,Int.reduceEq,Int.reduceAdd,Int.reduceSub,Int.reduceNeg,Int.reduceToNat,aP,↓reduceIte]
 ·have ho:∀r,aw AP (.fn 52) [w.v] (s.push r)=some (.tuple [NP,I (dp w).2.2],s.push r):=fun r=>aae (hs.push r) hw hf hz
  rw[aq hz,aq hz]
  simp only[W.v,c8,Sl.v]at ho
  simp(maxSteps:=1000000) only[go_sem,MQ,hs,ho,aY,hz,ij,Nat.reduceEqDiff,reduceCtorEq,Nat.reduceAdd,Nat.reduceMul,Nat.reduceSub,Int.reduceLT,Int.reduceLE,Int.reduceEq,Int.reduceAdd,Int.reduceSub,Int.reduceNeg,Int.reduceToNat,aP,↓reduceIte]
def bN (w:W):List P→Int
 |[]=>0
 |p::r=>(w.rq p.req).val+bN w r
end
def ow (a b:Nat):Int×Int:=if b=0 then(0,1)else(((a/Nat.gcd a b:Nat):Int),((b/Nat.gcd a b:Nat):Int))
def fD (mi:ByteArray):List R→Nat
 |[]=>0
 |r::t=>(if r.bw=mi then r.len.toNat else 0)+fD mi t
def iC (l:List P) (mi:ByteArray):Nat→List R→Nat
 |_,[]=>0
 |k,r::t=>(if r.bw=mi then(if(aM l (k:Int)).isSome=true then r.len.toNat else 0)else 0)+iC l mi (k+1) t
section
variable{s:ae} {w:W}
theorem acz {a b:Nat} (hb:0<b):dy .rem (I (a:Int)) (I (b:Int))=some (I ((a%b:Nat):Int)):=by
 have h:(((b:Int))==0)=false:=by simp;omega
 rw[SY h]
 congr 3
theorem SX {a b:Nat} (hb:0<b) (ha:(a:Int)<9223372036854775808):dy .quo (I (a:Int)) (I (b:Int))=some (I ((a/b:Nat):Int)):=by
 have h:(((b:Int))==0)=false:=by simp;omega
 rw[SW h]
 have e:((a:Int)).tdiv (b:Int)=((a/b:Nat):Int):=by
  rw[Int.tdiv_eq_ediv_of_nonneg (by omega)];simp
 have hl:a/b≤a:=Si _ _
 rw[e]
 generalize a/b=q at*
 rw[bW (by omega) (by omega)]
theorem ase {a b:Nat} (hs:Ok s) (ha:(a:Int)<9223372036854775808) (hb:(b:Int)<9223372036854775808):aw AP (.fn 46) [I (a:Int),I (b:Int)] s=some (.agg [I (ow a b).1,I (ow a b).2],s):=by
 have key:∀(n x y:Nat) ρ m,y≤n→Nat.gcd x y=Nat.gcd a b→0<b→(ρ 0=I (a:Int)∧ρ 1=I (b:Int)∧ρ 4=.ptr s.ag.length 0 0∧ρ 5=I (x:Int)∧ρ 6=I (y:Int)∧m=s.push ⟨[[I 0,I 0]],[]⟩)→go AP afG (.c (.loop ID)::ani) ⟨ρ,m⟩=some (.agg [I (ow a b).1,I (ow a b).2],s):=by
  intro n
  induction n with
  |zero=>
   rintro x y ρ m hy hg jA ⟨h0,h1,h4,h5,h6,rfl⟩
   have jT:y=0:=by omega
   subst jT
   have hx:x=Nat.gcd a b:=by rw[←hg];simp
   have XP:0<x:=by rw[hx];exact Nat.gcd_pos_of_pos_right _ jA
   have q1:=SX (a:=a) XP ha
   have q2:=SX (a:=b) XP hb
   rw[go_loop]
   simp only[go_sem,ID,MV,h0,h1,h4,h5,h6,hs,aY,eB,q1,q2,aP,simprocAttr]
   rw[hx,ow,aq (by omega)]
  | succ n ih =>
   rintro x y ρ m hy hg jA ⟨h0,h1,h4,h5,h6,rfl⟩
   by_cases jT:y=0
   ·exact ih x y ρ _ (by omega) hg jA ⟨h0,h1,h4,h5,h6,rfl⟩
   ·have hr:=acz (a:=x) (b:=y) (by omega)
    have hd:decide ((y:Int)=0)=false:=bS (by omega)
    rw[go_loop]
    simp only[go_sem,ID,h5,h6,aY,oJ,hd,hr,simprocAttr]
    refine ih y (x%y) _ _ (by have:=sZ x (show 0<y by omega);omega) ?_ jA ?_
    ·rw[←hg,Nat.gcd_comm x y,Nat.gcd_rec y x,Nat.gcd_comm]
    ·exact⟨h0,h1,h4,rfl,rfl,rfl⟩
 rw[aL (show AP 46=some Es from rfl) rfl]
 by_cases jA:b=0
 ·subst jA
  simp only[go_sem,MU,hs,aP,simprocAttr]
  rfl
 ·have hd:decide ((b:Int)=0)=false:=bS (by omega)
  simp only[go_sem,MU,hd,simprocAttr]
  exact key b a b _ _ (aH _) rfl (by omega) ⟨rfl,rfl,rfl,rfl,rfl,rfl⟩
theorem S2 {mi:ByteArray}:∀{l r:List R},fD mi (l++r)=fD mi l+fD mi r
 |[],r=>by simp[fD]
 |i::l,r=>by simp only[kt,fD,S2];omega
theorem Wl {p:List P} {mi:ByteArray}:∀{l r:List R} {k:Nat},iC p mi k (l++r)=iC p mi k l+iC p mi (k+l.length) r
 |[],r,k=>by simp[iC]
 |i::l,r,k=>by simp only[kt,iC,Wl,dP];rw[show k+1+l.length=k+(l.length+1)by omega];omega
theorem L0 {mi:ByteArray}:∀{l:List R},(∀r∈l,r.len≤200)→fD mi l≤200*l.length
 |[],_=>by simp[fD]
 |r::t,h=>by
  have h1:=L0 (mi:=mi) (l:=t) fun x hx=>h x (jg _ hx)
  have h2:=h r (xS ..)
  simp only[fD,dP]
  split<;>omega
theorem N6 {p:List P} {mi:ByteArray}:∀{l:List R} {k:Nat},(∀r∈l,r.len≤200)→iC p mi k l≤200*l.length
 |[],_,_=>by simp[iC]
 |r::t,k,h=>by
  have h1:=N6 (p:=p) (mi:=mi) (l:=t) (k:=k+1) fun x hx=>h x (jg _ hx)
  have h2:=h r (xS ..)
  simp only[iC,dP]
  split
  ·split<;>omega
  ·omega
def GW (w:W) (l:List P) (mi:ByteArray):Int×Int×Int:=
 if(kK w l).2=0 then
  if fD mi w.rs.l=0 then(0,0,6)else((ow (iC l mi 0 w.rs.l) (fD mi w.rs.l)).1,(ow (iC l mi 0 w.rs.l) (fD mi w.rs.l)).2,0)
 else(0,0,(kK w l).2)
theorem ar3 {l:List P} {o:Own} {e:Nat} {mi:ByteArray} (hs:Ok s) (hw:w.Ok) (hf:w.ko) (hl:gH l) (he:l=[]∨e=3):aw AP (.fn 19) [w.v,.slice o e (l.map aj),S mi] s=some (.tuple [.agg [I (GW w l mi).1,I (GW w l mi).2.1],I (GW w l mi).2.2],s):=by
 have hlen:=hl.len
 have ho:∀r,aw AP (.fn 41) [w.v,.slice o e (l.map aj)] (s.push r)=some (.tuple [if(dp w).2.2=0 then OW w else NP,I (kK w l).1,I (kK w l).2],s.push r):=fun r=>aac (hs.push r) hw hf hl he
 have dI:∀i r,aw AP (.fn 45) [.slice o e (l.map aj),I i] (s.push r)=some (.tuple [.agg (aj ((aM l i).getD bV)),B (aM l i).isSome],s.push r):=fun i r=>GQ (hs.push r) he (by omega) fun p h=>(hl.ok p h).1
 rw[aL (show AP 19=some Ed from rfl) rfl]
 unfold GW
 by_cases hz:(kK w l).2=0
 ·have jS:(dp w).2.2=0:=by
   unfold kK at hz
   by_cases h:(dp w).2.2=0
   ·exact h
   ·rw[aq h]at hz;exact absurd hz h
  have hv:=rn jS
  have et:=hv.rl
  have FX:∀r∈w.rs.l,r.len≤200:=fun r hr=>by
   have:=hv.r r hr
   have:=this.po
   have:=(hv.r r hr).qX
   have:=(hv.r r hr).bH
   have:=hv.n2
   omega
  have ha:=L0 (mi:=mi) FX
  have hg:=N6 (p:=l) (mi:=mi) (k:=0) FX
  have kf:∀r,aw AP (.fn 46) [I (iC l mi 0 w.rs.l:Int),I (fD mi w.rs.l:Int)] (s.push r)=some (.agg [I (ow (iC l mi 0 w.rs.l) (fD mi w.rs.l)).1,I (ow (iC l mi 0 w.rs.l) (fD mi w.rs.l)).2],s.push r):=fun r=>ase (hs.push r) (by omega) (by omega)
  have key:∀j ρ x,j≤w.rs.l.length→(ρ 1=.slice o e (l.map aj)∧ρ 2=S mi∧ρ 6=.ptr s.ag.length 1 0∧ρ 11=I (iC l mi 0 (w.rs.l.take j):Int)∧ρ 12=I (fD mi (w.rs.l.take j):Int)∧ρ 29=.slice w.rs.o w.rs.e (w.rs.l.map bU)∧ρ 30=I w.rs.l.length∧ρ 31=I j∧∃b0 bx,x=s.push ⟨b0::[I 0,I 0]::bx,[]⟩)→
    go AP afA (.c (.loop ya)::am8) ⟨ρ,x⟩=some (.tuple [.agg [I (if fD mi w.rs.l=0 then((0:Int),(0:Int),(6:Int))else((ow (iC l mi 0 w.rs.l) (fD mi w.rs.l)).1,(ow (iC l mi 0 w.rs.l) (fD mi w.rs.l)).2,0)).1,I (if fD mi w.rs.l=0 then((0:Int),(0:Int),(6:Int))else((ow (iC l mi 0 w.rs.l) (fD mi w.rs.l)).1,(ow (iC l mi 0 w.rs.l) (fD mi w.rs.l)).2,0)).2.1],I (if fD mi w.rs.l=0 then((0:Int),(0:Int),(6:Int))else((ow (iC l mi 0 w.rs.l) (fD mi w.rs.l)).1,(ow (iC l mi 0 w.rs.l) (fD mi w.rs.l)).2,0)).2.2],s):=by
   refine ck w.rs.l.length _ _ ?_ ?_
   ·rintro j ρ x hj ⟨h1,h2,h6,ed,cG,yK,uP,A2,b0,bx,rfl⟩ ih
    obtain⟨r,fH⟩:=get_some hj
    have Xw:=bQ fH
    have hr:=Sl.ix (f:=bU) hw.rs fH
    have J9:=hv.r r Xw
    have avv:=FX r Xw
    have zh:=J9.qa
    have hp:=dI (j:Int)
    have PA:=L0 (mi:=mi) (l:=w.rs.l.take j) fun x hx=>FX x (xT hx)
    have htg:=N6 (p:=l) (mi:=mi) (l:=w.rs.l.take j) (k:=0) fun x hx=>FX x (xT hx)
    have XC:(w.rs.l.take j).length=j:=by rw[fW];omega
    have JE:fD mi (w.rs.l.take (j+1))=fD mi (w.rs.l.take j)+(if r.bw=mi then r.len.toNat else 0):=by rw[fU fH,S2];simp[fD]
    have sd:iC l mi 0 (w.rs.l.take (j+1))=iC l mi 0 (w.rs.l.take j)+(if r.bw=mi then(if(aM l (j:Int)).isSome=true then r.len.toNat else 0)else 0):=by rw[fU fH,Wl,XC];simp[iC]
    have ie:=bK hj (show(w.rs.l.length:Int)<_ by omega)
    simp only[aj,Sl.v]at hp hr
    by_cases hm:r.bw=mi
    ·rw[ak hm]at JE sd
     have hd:decide (r.bw=mi)=true:=bP hm
     have w1:IntKind.i64.wrap ((fD mi (w.rs.l.take j):Int)+r.len)=((fD mi (w.rs.l.take (j+1)):Nat):Int):=by rw[JE,bW (by omega) (by omega)];omega
     cases u9:(aM l (j:Int)).isSome with
     |true=>
      rw[u9]at hp
      rw[u9,ak rfl]at sd
      have w2:IntKind.i64.wrap ((iC l mi 0 (w.rs.l.take j):Int)+r.len)=((iC l mi 0 (w.rs.l.take (j+1)):Nat):Int):=by rw[sd,bW (by omega) (by omega)];omega
      simp only[go_sem,ya,h1,h2,ed,cG,yK,uP,A2,hs,aS hj,hr,aY,oJ,hd,hp,w1,w2,ie,simprocAttr]
      refine ih _ _ ?_
      exact⟨h1,h2,h6,rfl,rfl,yK,uP,rfl,_,_,rfl⟩
     |false=>
      rw[u9]at hp
      rw[u9,aq (by simp),vQ]at sd
      simp only[go_sem,ya,h1,h2,cG,yK,uP,A2,hs,aS hj,hr,aY,oJ,hd,hp,w1,ie,simprocAttr]
      refine ih _ _ ?_
      exact⟨h1,h2,h6,by rw[sd];exact ed,rfl,yK,uP,rfl,_,_,rfl⟩
    ·rw[aq hm,vQ]at JE sd
     have hd:decide (r.bw=mi)=false:=bS hm
     simp only[go_sem,ya,h2,yK,uP,A2,hs,aS hj,hr,aY,oJ,hd,ie,simprocAttr]
     refine ih _ _ ?_
     exact⟨h1,h2,h6,by rw[sd];exact ed,by rw[JE];exact cG,yK,uP,rfl,_,_,rfl⟩
   ·rintro ρ x ⟨h1,h2,h6,ed,cG,yK,uP,A2,b0,bx,rfl⟩
    rw[jh]at ed cG
    by_cases hk:fD mi w.rs.l=0
    ·have hd:decide ((fD mi w.rs.l:Int)=0)=true:=bP (by omega)
     simp only[hk,bB]
     simp only[go_sem,ya,Iu,h6,cG,uP,A2,hs,bM,hd,simprocAttr]
    ·have hd:decide ((fD mi w.rs.l:Int)=0)=false:=bS (by omega)
     simp only[hk,cE]
     simp only[go_sem,ya,Iu,h6,ed,cG,uP,A2,hs,bM,hd,kf,simprocAttr]
  rw[ak jS,hz]at ho
  rw[ak hz]
  simp only[W.v,c8,Sl.v]at ho
  simp only[go_sem,MJ,ho,aY,eB,simprocAttr]
  refine key 0 _ _ (bg _) ?_
  exact⟨rfl,rfl,rfl,rfl,rfl,rfl,rfl,rfl,_,_,rfl⟩
 ·simp only[W.v,c8,Sl.v]at ho
  rw[aq hz]
  simp only[go_sem,MJ,hs,ho,aY,hz,ij,simprocAttr]
end
def tx (l:List UInt8):ByteArray:=⟨l.toArray⟩
theorem as1 {a b:List UInt8}:tx a++tx b=tx (a++b):=by
 apply Lf
 show(tx a++tx b).data=_
 simp[tx]
theorem aaY {a:List UInt8}:(tx a).size=a.length:=by simp[tx,ByteArray.size]
theorem HP {a b:List UInt8} (h:a.length+b.length≤100000000):dy .add (S (tx a)) (S (tx b))=some (S (tx (a++b))):=by
 have h2:¬((((tx a).size+(tx b).size:Nat):Int)>IntKind.i64.max):=by
  have:IntKind.i64.max=9223372036854775807:=by decide
  rw[this,aaY,aaY];omega
 show Option.map AV.v (sO .add (tx a) (tx b))=_
 unfold sO
 simp only[h2,cE,as1]
 rfl
def Small (p:P):Prop:=(0≤p.req∧p.req<100)∧(0≤p.start∧p.start<100)∧p.an.l.length≤1000∧∀a∈p.an.l,0≤a∧a<100
def nR:List Int→List UInt8
 |[]=>[]
 |a::r=>43::fj a.toNat++nR r
def vG (p:P):List UInt8:=fj p.req.toNat++[64]++fj p.start.toNat++nR p.an.l
def Fo (l:List P):List UInt8:=[32].intercalate (l.map vG)
theorem AL {n:Nat}:(fj n).length≤2:=by unfold fj;split<;>simp
theorem LU:∀{l:List Int},(nR l).length≤3*l.length
 |[]=>by simp[nR]
 |a::r=>by
  have h1:=LU (l:=r)
  have h2:=AL (n:=a.toNat)
  simp only[nR,dP,cj];omega
theorem SM:∀{l r:List Int},nR (l++r)=nR l++nR r
 |[],r=>rfl
 |a::l,r=>by simp only[kt,nR,SM,gX]
section
variable{s:ae} {w:W}
theorem itoa {n:Int} (h0:0≤n) (h1:n<100):aw AP (.fn 47) [I n] s=some (S (tx (fj n.toNat)),s):=by
 rw[Us (show AP 47=some BM from rfl)]
 simp only[mr,oI,pL,eL,dK,Kp]
 rw[ak ⟨h0,h1⟩];rfl
theorem aaH:∀{ls:List (List UInt8)},tZ (ls.map fun x=>[S (tx x)])=some ls
 |[]=>rfl
 |a::r=>by
  simp only[iN,tZ,aaH (ls:=r),dK]
  simp[tx]
theorem join {x:AV} {ls:List (List UInt8)} {es:Nat} (hx:x.close=some (bG es (ls.map fun x=>[S (tx x)]))) (h1:ls.length≤1000000) (h2:([32].intercalate ls).length≤1000000):
  aw AP (.fn 48) [x,S (tx [32])] s=some (S (tx ([32].intercalate ls)),s):=by
 rw[Us (show AP 48=some BN from rfl)]
 simp only[mr,oI,hx,Ny,eL,dK]
 have hs:tZ (ls.map fun x=>[S (tx x)])=some ls:=aaH
 have ht:(tx [32]).data.toList=[32]:=by simp[tx]
 cases ls with
 |nil=>simp only[nP,bG,Gy,tZ,eL,ht];rfl
 |cons a r=>
  simp only[iN,bG,Gy]
  simp only[iN]at hs
  rw[hs]
  simp only[eL,ht]
  rw[ak ⟨h1,h2⟩];rfl
theorem atw {p:P} (h:Small p):(vG p).length≤3010:=by
 have h1:=AL (n:=p.req.toNat)
 have h2:=AL (n:=p.start.toNat)
 have h3:=LU (l:=p.an.l)
 have h4:=h.2.2.1
 simp only[vG,cj,xR];omega
theorem X2:∀{ls:List (List UInt8)} {m:Nat},(∀x∈ls,x.length≤m)→([32].intercalate ls).length≤(m+1)*ls.length
 |[],m,_=>by simp[List.intercalate]
 |[a],m,h=>by
  have:=h a (by simp)
  simp[List.intercalate];omega
 |a::b::r,m,h=>by
  have h1:=X2 (ls:=b::r) (m:=m) fun x hx=>h x (jg _ hx)
  have h2:=h a (by simp)
  have e:[32].intercalate (a::b::r)=a++[32]++[32].intercalate (b::r):=by simp[List.intercalate,List.intersperse]
  have e2:(a::b::r).length=(b::r).length+1:=rfl
  have e3:(m+1)*((b::r).length+1)=(m+1)*(b::r).length+(m+1):=by rw[Nat.mul_add,Sr]
  have e4:(a++[32]++[32].intercalate (b::r)).length=a.length+1+([32].intercalate (b::r)).length:=by rw[cj,cj];rfl
  rw[e,e2,e3,e4]
  omega
theorem ar1 {l:List P} {o:Own} {e:Nat} (hs:Ok s) (he:l=[]∨e=3) (hl:l.length≤100) (bE:∀p∈l,p.an.ok 1∧Small p):aw AP (.fn 20) [.slice o e (l.map aj)] s=some (S (tx (Fo l)),s):=by
 have key:∀(j:Nat) ρ x,j≤l.length→(ρ 9=.slice o e (l.map aj)∧ρ 10=I l.length∧ρ 11=I j∧∃og tk bx,Acc s.ag.length 1 (((l.take j).map vG).map fun x=>[S (tx x)]) (ρ 3) og tk∧x=s.push ⟨bx,tk⟩)→go AP VE (.c (.loop C9)::am5) ⟨ρ,x⟩=some (S (tx (Fo l)),s):=by
  refine ck l.length _ _ ?_ ?_
  ·rintro j ρ x hj ⟨h9,dh,ed,og,tk,bx,hA,rfl⟩ ih
   obtain⟨p,hp⟩:=get_some hj
   have F8:=bE p (bQ hp)
   obtain⟨⟨a1,a2⟩,⟨a3,a4⟩,a5,a6⟩:=F8.2
   have n7:e=3:=by rcases he with h|h;(rw[h]at hp;simp at hp);exact h
   subst n7
   have hr:=cq (f:=aj) (o:=o) (es:=3) hp
   have d1:=AL (n:=p.req.toNat)
   have d2:=AL (n:=p.start.toNat)
   have i1:∀q:ae,aw AP (.fn 47) [I p.req] q=some (S (tx (fj p.req.toNat)),q):=fun q=>itoa a1 a2
   have i2:∀q:ae,aw AP (.fn 47) [I p.start] q=some (S (tx (fj p.start.toNat)),q):=fun q=>itoa a3 a4
   have s1 : dy .add (S (tx (fj p.req.toNat))) (S ⟨#[64]⟩) = some (S (tx (fj p.req.toNat ++ [64]))) := HP (by simp; omega)
   have s2:dy .add (S (tx (fj p.req.toNat++[64]))) (S (tx (fj p.start.toNat)))=some (S (tx (fj p.req.toNat++[64]++fj p.start.toNat))):=HP (by simp;omega)
   have ie:=bK hj (show(l.length:Int)<_ by omega)
   have p9:∀(q:Nat) ρ x,q≤p.an.l.length→((∃y,ρ 6=S y∧y=tx (fj p.req.toNat++[64]++fj p.start.toNat++nR (p.an.l.take q)))∧ρ 9=.slice o 3 (l.map aj)∧ρ 10=I l.length∧ρ 11=I j∧ρ 24=p.an.v aD∧ρ 25=I p.an.l.length∧ρ 26=I q∧
     ∃og tk bx,Acc s.ag.length 1 (((l.take j).map vG).map fun x=>[S (tx x)]) (ρ 3) og tk∧x=s.push ⟨bx,tk⟩)→go AP VE (.c (.loop Iq)::am6) ⟨ρ,x⟩=some (S (tx (Fo l)),s):=by
    refine ck p.an.l.length _ _ ?_ ?_
    ·rintro q ρ x hq ⟨⟨y,h6,hy⟩,h9,dh,ed,kZ,ld,mD,og,tk,bx,hA,rfl⟩ fJ
     obtain⟨a,ha⟩:=get_some hq
     have rV:=a6 a (bQ ha)
     have hr:=Sl.ix (f:=aD) F8.1 ha
     have d3:=AL (n:=a.toNat)
     have d4:=LU (l:=p.an.l.take q)
     have d5:(p.an.l.take q).length≤1000:=by rw[fW];omega
     have i3:∀m:ae,aw AP (.fn 47) [I a] m=some (S (tx (fj a.toNat)),m):=fun m=>itoa rV.1 rV.2
     have s3 : dy .add (S ⟨#[43]⟩) (S (tx (fj a.toNat))) = some (S (tx ([43] ++ fj a.toNat))) := HP (a := [43]) (by simp; omega)
     have s4:dy .add (S (tx (fj p.req.toNat++[64]++fj p.start.toNat++nR (p.an.l.take q)))) (S (tx ([43]++fj a.toNat)))=some (S (tx (fj p.req.toNat++[64]++fj p.start.toNat++nR (p.an.l.take q)++([43]++fj a.toNat)))):=HP (by simp only[cj,xR];omega)
     rw[←hy]at s4
     obtain⟨z3,hz3⟩:∃z,tx ([43]++fj a.toNat)=z:=⟨_,rfl⟩
     obtain⟨z4,XX⟩:∃z,tx (fj p.req.toNat++[64]++fj p.start.toNat++nR (p.an.l.take q)++([43]++fj a.toNat))=z:=⟨_,rfl⟩
     rw[hz3]at s3 s4
     rw[XX]at s4
     simp only[Sl.v]at kZ hr
     simp only[go_sem,Iq,h6,kZ,ld,mD,aS hq,hr,i3,s3,s4,bK hq (show(p.an.l.length:Int)<_ by omega),simprocAttr]
     refine fJ _ _ ?_
     refine⟨⟨z4,rfl,?_⟩,h9,dh,ed,by simp only[Sl.v];exact kZ,ld,rfl,og,tk,_,hA,rfl⟩
     rw[fU ha,SM,←XX]
     simp[nR]
    ·rintro ρ x ⟨⟨y,h6,hy⟩,h9,dh,ed,kZ,ld,mD,og,tk,bx,hA,rfl⟩
     rw[jh]at hy
     rw[hy]at h6
     have aR:(l.take j).length≤100:=by rw[fW];omega
     obtain⟨x',gm,tk',cQ,eM,_⟩:=hA.append hs .full (ys:=[[S (tx (vG p))]]) (by simp) (by simp;omega)
     have Wr:ρ 6=S (tx (vG p)):=h6
     obtain⟨z5,XY⟩:∃z,tx (vG p)=z:=⟨_,rfl⟩
     rw[XY]at Wr cQ eM
     simp only[go_sem,Iq,MH,MG,Wr,ed,ld,mD,bM,cQ,ie,simprocAttr]
     refine ih _ _ ?_
     refine⟨h9,dh,rfl,gm,tk',_,?_,rfl⟩
     rw[fU hp,iM,iM,List.map_singleton,List.map_singleton,XY];exact eM
   simp only[aj,Sl.v]at hr p9
   obtain⟨z1,PO⟩:∃z,tx (fj p.req.toNat++[64])=z:=⟨_,rfl⟩
   obtain⟨z2,Kh⟩:∃z,tx (fj p.req.toNat++[64]++fj p.start.toNat)=z:=⟨_,rfl⟩
   rw[PO]at s1 s2
   rw[Kh]at s2
   simp only[go_sem,C9,h9,dh,ed,hs,aS hj,hr,i1,i2,s1,s2,simprocAttr]
   refine p9 0 _ _ (bg _) ?_
   refine⟨⟨z2,rfl,?_⟩,h9,dh,ed,rfl,rfl,rfl,og,tk,_,hA,rfl⟩
   rw[show p.an.l.take 0=[]from rfl,nR,je,Kh]
  ·rintro ρ x ⟨h9,dh,ed,og,tk,bx,hA,rfl⟩
   rw[jh]at hA
   have hj : ∀ q : ae, aw AP (.fn 48) [ρ 3, S ⟨#[32]⟩] q = some (S (tx (Fo l)), q) := fun q => join hA.close (by simp; omega) (by
    have h1:=X2 (ls:=l.map vG) (m:=3010) fun x hx=>by
     obtain⟨p,hp,rfl⟩:=cC.1 hx
     exact atw (bE p hp).2
    rw[bY]at h1
    have h2:=Nat.mul_le_mul_left 3011 hl
    omega)
   simp only[go_sem,C9,Ir,dh,ed,bM,hj,simprocAttr]
 rw[aL (show AP 20=some Ec from rfl) rfl]
 simp only[go_sem,Tx,simprocAttr]
 refine key 0 _ _ (bg _) ?_
 exact⟨rfl,rfl,rfl,none,[],[],Acc.start,rfl⟩
def WK : W := ⟨10, ⟨.full, 3, [⟨⟨#[97]⟩, 1, ⟨.full, 2, [(4, 4)]⟩⟩, ⟨⟨#[98]⟩, 0, ⟨.aA, 0, []⟩⟩]⟩,
 ⟨.full, 7, [⟨⟨#[109, 97, 114, 115]⟩, 0, 5, 3, 10, ⟨.full, 1, [0]⟩, 1⟩, ⟨⟨#[109, 111, 111, 110]⟩, 0, 4, 2, 7, ⟨.full, 1, [0, 1]⟩, 1⟩, ⟨⟨#[109, 97, 114, 115]⟩, 0, 9, 4, 6, ⟨.full, 1, [0, 1]⟩, 2⟩]⟩⟩
theorem anL (hs:Ok s):aw AP (.fn 18) [] s=some (WK.v,s):=by
 rw[aL (show AP 18=some DO from rfl) rfl]
 simp only[go_sem,Tg,hs,simprocAttr]
 rfl
end
def L3:List P:=[⟨0,0,fi [0]⟩,⟨1,0,fi [1]⟩,⟨2,5,fi [0,1]⟩]
def Qg : ByteArray := ⟨#[109, 97, 114, 115]⟩
theorem abP:jc WK=0:=by decide+kernel
theorem abM:(Dz WK).1=L3:=by kernel_rfl
theorem abQ:(Dz WK).2.1=23:=by decide+kernel
theorem abO:GW WK L3 Qg=(1,1,0):=by decide+kernel
theorem abN:Fo L3=[48,64,48,43,48,32,49,64,48,43,49,32,50,64,53,43,48,43,49]:=by decide+kernel
theorem SB:WK.Ok:=by
 refine⟨⟨.inr rfl,.inr (.inl rfl)⟩,fun a ha=>?_,⟨.inr rfl,.inr (.inl rfl)⟩,fun r hr=>?_⟩
 ·simp only[WK,eC,zQ,zC]at ha
  rcases ha with rfl|rfl
  ·exact⟨.inr rfl,.inr (.inl rfl)⟩
  ·exact⟨.inl rfl,.inr (.inr ⟨rfl,rfl⟩)⟩
 ·simp only[WK,eC,zQ,zC]at hr
  rcases hr with rfl|rfl|rfl<;>exact⟨.inr rfl,.inr (.inl rfl)⟩
theorem SA:WK.ko:=by
 refine⟨by decide,by decide,fun a ha=>?_,fun a ha=>?_,fun r hr=>?_,fun r hr=>?_⟩
 ·simp only[WK,eC,zQ,zC]at ha
  rcases ha with rfl|rfl<;>decide
 ·simp only[WK,eC,zQ,zC]at ha
  rcases ha with rfl|rfl<;>decide
 ·simp only[WK,eC,zQ,zC]at hr
  rcases hr with rfl|rfl|rfl<;>decide
 ·simp only[WK,eC,zQ,zC]at hr
  rcases hr with rfl|rfl|rfl<;>decide
section
variable{s:ae}
theorem acT {n:Int} (hs:Ok s):aw AP (.fn 21) [I n] s=some (.agg [I n,I 1],s):=by
 rw[aL (show AP 21=some DF from rfl) rfl]
 simp only[go_sem,S9,hs,simprocAttr]
theorem Hh:∀p∈L3,p.an.ok 1∧p.an.l.length≤6∧Small p:=by
 intro p hp
 simp only[L3,eC,zQ,zC]at hp
 rcases hp with rfl|rfl|rfl<;>refine⟨Ff,by decide,⟨by decide,by decide⟩,⟨by decide,by decide⟩,by decide,fun a ha=>?_⟩<;>simp[fi]at ha<;>omega
theorem anM (hs:Ok s):aw AP (.fn 4) [] s=some (B true,s):=by
 have cz:∀r,aw AP (.fn 18) [] (s.push r)=some (WK.v,s.push r):=fun r=>anL (hs.push r)
 have qF:∀r,aw AP (.fn 17) [WK.v] (s.push r)=some (.tuple [bG 3 (L3.map aj),I 23,I 0],s.push r):=fun r=>by
  rw[ar0 (hs.push r) SB SA,abP,ak rfl,ak rfl,abM,abQ]
 have yR:bG 3 (L3.map aj)=.slice .any 3 (L3.map aj):=rfl
 have cD:gH L3:=⟨by decide,fun p hp=>⟨(Hh p hp).1,(Hh p hp).2.1⟩⟩
 have kf:∀r,aw AP (.fn 19) [WK.v,.slice .any 3 (L3.map aj),S Qg] (s.push r)=some (.tuple [.agg [I 1,I 1],I 0],s.push r):=fun r=>by
  rw[ar3 (hs.push r) SB SA cD (.inr rfl),abO]
 have Bi:∀r,aw AP (.fn 20) [.slice .any 3 (L3.map aj)] (s.push r)=some (S (tx [48,64,48,43,48,32,49,64,48,43,49,32,50,64,53,43,48,43,49]),s.push r):=fun r=>by
  rw[ar1 (hs.push r) (.inr rfl) (by decide) fun p hp=>⟨(Hh p hp).1,(Hh p hp).2.2⟩,abN]
 have hwh:∀r,aw AP (.fn 21) [I 1] (cT (s.push r))=some (.agg [I 1,I 1],cT (s.push r)):=fun r=>acT vu
 rw[yR]at qF
 simp only[Qg]at kf
 generalize hv:WK.v=V at*
 generalize(AV.slice .any 3 (L3.map aj))=VL at*
 rw[aL (show AP 4=some DP from rfl) rfl]
 have hds : decide (tx [48, 64, 48, 43, 48, 32, 49, 64, 48, 43, 49, 32, 50, 64, 53, 43, 48, 43, 49] = ⟨#[48, 64, 48, 43, 48, 32, 49, 64, 48, 43, 49, 32, 50, 64, 53, 43, 48, 43, 49]⟩) = true := bP rfl
 have heq:oL (.agg [.int,.int]) (.agg [I 1,I 1]) (.agg [I 1,I 1])=some true:=rfl
 simp only[go_sem,Ti,hs,cz,qF,kf,Bi,hwh,hds,heq,simprocAttr]
end
theorem nU {p q:Prop} [Decidable p] [Decidable q] (h:p↔¬q):decide p=!decide q:=by
 by_cases hq:q
 ·rw[bP hq,bS (fun hp=>h.1 hp hq)];rfl
 ·rw[bS hq,bP (h.2 hq)];rfl
theorem Va {p q:Prop} [Decidable p] [Decidable q] (h:p↔q):decide p=decide q:=by
 by_cases hq:q
 ·rw[bP hq,bP (h.2 hq)]
 ·rw[bS hq,bS (fun hp=>hq (h.1 hp))]
section
variable{s:ae} {w:W}
theorem fY {a b c:Int}:aw AP (.fn 26) [I a,I b,I c] s=some (B (wi a b c),s):=by
 rw[aL (show AP 26=some DG from rfl) rfl]
 simp only[go_sem,Ta,simprocAttr]
 unfold wi
 cases decide (b≤a)<;>cases decide (a≤c)<;>rfl
theorem ixs {x:ByteArray} {k:Nat} {c:UInt8} (h:x.data.toList[k]? =some c):Bw (S x) (I (k:Int))=some (.v (.int .u8 c.toNat)):=by
 have hk:=(bd.1 h).1
 have u5:k<x.size:=by simpa using hk
 have hb:x[k]? =some c:=by
  have h1:x.data[k]? =some c:=by simpa using h
  obtain⟨h2,h3⟩:=uf.1 h1
  rw[getElem?_pos x k u5]
  exact hY some h3
 simp only[Bw]
 rw[Ki u5]
 simp only[eL,hb,dK]
theorem aoP {x:List UInt8} {k:Nat} {c:UInt8} (h:x[k]? =some c):qZ k (x.drop k)=(nameAt k c&&qZ (k+1) (x.drop (k+1))):=YN h
theorem S5 {x:ByteArray} (hx:(x.size:Int)<9223372036854775808):aw AP (.fn 98) [S x] s=some (B (isName x),s):=by
 have bR:x.data.size=x.size:=rfl
 have hl:x.data.toList.length=x.size:=by simp[bR]
 have key:∀k ρ m,k≤x.size→(ρ 0=S x∧ρ 3=I k∧m=s.push ⟨[],[]⟩)→go AP Vq (.c (.loop CJ)::X4) ⟨ρ,m⟩=some (B (qZ k (x.data.toList.drop k)),s):=by
  refine ck x.size _ _ ?_ ?_
  ·rintro k ρ m hk ⟨h0,h3,rfl⟩ ih
   obtain⟨c,hc⟩:=get_some (l:=x.data.toList) (k:=k) (by omega)
   have hr:=ixs hc
   rw[aoP hc,YM]
   have fJ:∀(ρ':Nat→AV),ρ' 0=S x→ρ' 3=I ((k+1:Nat):Int)→go AP Vq (.c (.loop CJ)::X4) ⟨ρ',s.push ⟨[],[]⟩⟩=some (B (qZ (k+1) (List.drop (k+1) x.data.toList)),s):=fun ρ' a b=>ih ρ' _ ⟨a,b,rfl⟩
   simp only[go_sem,CJ,h0,h3,aS hk,hr,bK hk hx,simprocAttr]
   simp only[aY,oJ]
   have e8:decide ((c.toNat:Int)<48)=!decide ((48:Int)≤(c.toNat:Int)):=dec_lt _ _
   have e9:decide ((57:Int)<(c.toNat:Int))=!decide ((c.toNat:Int)≤57):=dec_lt _ _
   rw[e8,e9]
   generalize decide ((97:Int)≤(c.toNat:Int))=a1
   generalize decide ((c.toNat:Int)≤122)=a2
   generalize decide ((65:Int)≤(c.toNat:Int))=a3
   generalize decide ((c.toNat:Int)≤90)=a4
   generalize decide ((c.toNat:Int)=45)=a5
   generalize decide ((48:Int)≤(c.toNat:Int))=a6
   generalize decide ((c.toNat:Int)≤57)=a7
   generalize decide ((k:Int)=0)=a8
   generalize qZ (k+1) (List.drop (k+1) x.data.toList)=nf at*
   cases a1<;>cases a2<;>cases a3<;>cases a4<;>cases a5<;>cases a6<;>cases a7<;>cases a8<;>first
    |rfl
    |exact fJ _ h0 rfl
  ·rintro ρ m ⟨h0,h3,rfl⟩
   simp only[go_sem,CJ,L5,h0,h3,bM,simprocAttr]
   rw[←hl,eS];rfl
 rw[aL (show AP 98=some DE from rfl) rfl]
 have e1:decide ((x.size:Int)<1)=!decide (1≤x.size):=nU (by omega)
 have e2:decide ((12:Int)<(x.size:Int))=!decide (x.size≤12):=nU (by omega)
 simp only[go_sem,S8,e1,e2,simprocAttr]
 unfold isName
 cases decide (1≤x.size)with
 |false=>simp only[go_sem,nJ,jM,simprocAttr]<;>rfl
 | true =>
  cases decide (x.size≤12)with
  |false=>simp only[go_sem,nJ,sQ,simprocAttr]<;>rfl
  |true=>
   simp only[go_sem,sQ,simprocAttr]
   exact key 0 _ _ (bg _) ⟨rfl,rfl,rfl⟩
theorem zF {n x y:Int} {o1 o2:Own} {e1 e2:Nat} {r1 r2:List (List AV)} (hs:Ok s) (hn:1≤n) (iE:n≤200):aw AP (.fn 99) [.agg [I n,.slice o1 e1 r1,.slice o2 e2 r2],.agg [I x,I y]] s=some (I (jV n x y),s):=by
 rw[aL (show AP 99=some D9 from rfl) rfl]
 have e:decide (y<x)=!decide (x≤y):=dec_lt _ _
 simp only[go_sem,Tv,fY,bW (x:=n-1) (by omega) (by omega),e,simprocAttr]
 unfold jV
 cases wi x 0 (n-1)<;>cases wi y 0 (n-1)<;>by_cases h:x≤y<;>simp only[go_sem,h,simprocAttr]<;>simp
theorem ark {n:Int} {as:List A} {o1 o2:Own} {e2:Nat} {rs:List (List AV)} {k:Nat} {a:A} (hs:Ok s) (OB:a.cl.l=[]∨a.cl.e=2) (hn:1≤n) (iE:n≤200) (ha:as[k]? =some a) (bR:(a.name.size:Int)<9223372036854775808) (hl:as.length≤4) (aT:(a.cl.l.length:Int)<9223372036854775808):
  aw AP (.fn 80) [.agg [I n,.slice o1 3 (as.map bZ),.slice o2 e2 rs],I k] s=some (I (kV n as k a),s):=by
 have hk:k<as.length:=(bd.1 ha).1
 obtain⟨name,jb,⟨oc,ec,cl⟩⟩:=a
 have cr:=cq (f:=bZ) (o:=o1) (es:=3) ha
 have pY:∀{m:ae},aw AP (.fn 98) [S name] m=some (B (isName name),m):=S5 bR
 have h6:decide ((6:Int)<(cl.length:Int))=!decide (cl.length≤6):=nU (by omega)
 have k2:∀(j:Nat) ρ m,j≤cl.length→(ρ 2=.ptr s.ag.length 0 0∧ρ 5=.ptr s.ag.length 1 0∧ρ 7=I j∧m=s.push ⟨[[I n,.slice o1 3 (as.map bZ),.slice o2 e2 rs],[S name,I jb,.slice oc ec (cl.map gN)]],[]⟩)→
   go AP Vx (.c (.loop C1)::amU) ⟨ρ,m⟩=some (I (rJ n (cl.drop j)),s):=by
  refine ck cl.length _ _ ?_ ?_
  ·rintro j ρ m hj ⟨g2,g5,g7,rfl⟩ ih
   obtain⟨p,hp⟩:=get_some hj
   have dV:ec=2:=by rcases OB with h|h;(simp only at h;rw[h]at hp;simp at hp);exact h
   subst dV
   have hr:=cq (f:=gN) (o:=oc) (es:=2) hp
   rw[eQ hp,rJ]
   by_cases h0:jV n p.1 p.2=0
   ·simp only[go_sem,C1,g2,g5,g7,aS hj,hr,zF (hs.push _) hn iE,h0,aY,eB,bK hj aT,simprocAttr]
    exact ih _ _ ⟨g2,g5,rfl,rfl⟩
   ·simp only[go_sem,C1,g2,g5,g7,aS hj,hr,zF (hs.push _) hn iE,h0,aY,ij,simprocAttr]
  ·rintro ρ m ⟨g2,g5,g7,rfl⟩
   simp only[go_sem,C1,Mw,g5,g7,bM,simprocAttr]
   rw[eS];rfl
 have k1:∀(j:Nat) ρ m,j≤k→(ρ 1=I k∧ρ 2=.ptr s.ag.length 0 0∧ρ 5=.ptr s.ag.length 1 0∧ρ 6=I j∧((as.take j).any fun b=>decide (b.name=name))=false∧m=s.push ⟨[[I n,.slice o1 3 (as.map bZ),.slice o2 e2 rs],[S name,I jb,.slice oc ec (cl.map gN)]],[]⟩)→
   go AP Vx (.c (.loop x8)::amV) ⟨ρ,m⟩=some (I (if((as.take k).any fun b=>decide (b.name=name))=true then 5 else if wi jb 0 50=true then(if cl.length≤6 then rJ n cl else 8)else 2),s):=by
  refine ck k _ _ ?_ ?_
  ·rintro j ρ m hj ⟨g1,g2,g5,g6,gV,rfl⟩ ih
   obtain⟨b,hb⟩:=get_some (l:=as) (k:=j) (by omega)
   have hr:=cq (f:=bZ) (o:=o1) (es:=3) hb
   by_cases he:b.name=name
   ·have:((as.take k).any fun b=>decide (b.name=name))=true:=by
     rw[fL]
     refine⟨b,?_,by simpa using he⟩
     exact bQ (i:=j) (by rw[xP,ak hj];exact hb)
    rw[ak this]
    simp only[go_sem,x8,g1,g2,g5,g6,aS hj,hr,he,simprocAttr]
   ·have hd:decide (b.name=name)=false:=bS he
    simp only[go_sem,x8,g1,g2,g5,g6,aS hj,hr,hd,bK hj (show(k:Int)<_ by omega),simprocAttr]
    refine ih _ _ ⟨g1,g2,g5,rfl,?_,rfl⟩
    rw[fU hb,vL,gV];simp[he]
  ·rintro ρ m ⟨g1,g2,g5,g6,gV,rfl⟩
   rw[gV,aq (by simp)]
   cases jo:wi jb 0 50 with
   |false=>simp only[go_sem,x8,C2,g1,g5,g6,bM,fY,jo,simprocAttr]<;>rfl
   | true =>
    by_cases JI:cl.length≤6
    ·have hd:decide (cl.length≤6)=true:=bP JI
     simp only[go_sem,x8,C2,g1,g5,g6,bM,fY,jo,h6,hd,simprocAttr]
     refine(k2 0 _ _ (bg _) ?_).trans ?_
     ·exact⟨g2,g5,rfl,rfl⟩
     ·rw[ak JI,ku]
    ·have hd:decide (cl.length≤6)=false:=bS JI
     simp only[go_sem,x8,C2,g1,g5,g6,bM,fY,jo,h6,hd,simprocAttr]
     rw[aq JI]
 rw[aL (show AP 80=some D3 from rfl) rfl]
 unfold kV
 simp only
 cases hi:isName name with
 |false=>simp only[go_sem,Mv,hs,cr,pY,hi,simprocAttr]<;>rfl
 |true=>
  simp only[go_sem,Mv,hs,cr,pY,hi,simprocAttr]
  exact k1 0 _ _ (bg _) ⟨rfl,rfl,rfl,rfl,by simp,rfl⟩
theorem ab4 {n last:Int} {l:List Int} {k:Nat} {a:Int} (h:l[k]? =some a):kA n last (l.drop k)=if wi a 0 (n-1)=true then(if last<a then kA n a (l.drop (k+1))else 9)else 6:=by
 rw[eQ h];rfl
theorem arp {n:Int} {as:List (List AV)} {r:R} {o1 o2:Own} {e1 e2:Nat} {rs:List (List AV)} (hs:Ok s) (fu:r.an.l=[]∨r.an.e=1) (hn:1≤n) (iE:n≤200) (bR:(r.bw.size:Int)<9223372036854775808) (hl:as.length≤4) (aT:(r.an.l.length:Int)<9223372036854775808):
  aw AP (.fn 81) [.agg [I n,.slice o1 e1 as,.slice o2 e2 rs],.agg (bU r)] s=some (I (lG n as.length r),s):=by
 obtain⟨bw,lo,hi,len,val,⟨oa,ea,an⟩,need⟩:=r
 have pY:∀{m:ae},aw AP (.fn 98) [S bw] m=some (B (isName bw),m):=S5 bR
 have Kd:IntKind.i64.wrap ((as.length:Int)-1)=(as.length:Int)-1:=bW (by omega) (by omega)
 have tC:(an.length:Int)<9223372036854775808:=aT
 have key : ∀ (j : Nat) ρ m, j ≤ an.length → (ρ 2 = .ptr s.ag.length 0 0 ∧ ρ 3 = .ptr s.ag.length 1 0 ∧ ρ 6 = I j ∧ (∃ last, kA (as.length : Nat) (-1) an = kA (as.length : Nat) last (an.drop j) ∧ (j = 0 → last = -1) ∧ ∀ i x, j = i + 1 → an[i]? = some x → last = x) ∧ m = s.push ⟨[[I n, .slice o1 e1 as, .slice o2 e2 rs], [S bw, I lo, I hi, I len, I val, .slice oa ea (an.map aD), I need]], []⟩) →
   go AP VA (.c (.loop wc)::X5) ⟨ρ,m⟩=some (I (if kA (as.length:Nat) (-1) an=0 then(if wi need 1 an.length=true then 0 else 2)else kA (as.length:Nat) (-1) an),s):=by
  refine ck an.length _ _ ?_ ?_
  ·rintro j ρ m hj ⟨g2,g3,g6,⟨last,hL,hL0,hL1⟩,rfl⟩ ih
   obtain⟨x,hx⟩:=get_some hj
   have dV:ea=1:=by rcases fu with h|h;(simp only at h;rw[h]at hx;simp at hx);exact h
   subst dV
   have hr:=cq (f:=aD) (o:=oa) (es:=1) hx
   rw[ab4 hx]at hL
   have ie:=bK hj aT
   cases jo:wi x 0 ((as.length:Int)-1)with
   |false=>
    rw[jo,aq (by simp)]at hL
    rw[hL]
    simp only[go_sem,wc,g2,g3,g6,aS hj,hr,fY,Kd,jo,simprocAttr]
   | true =>
    rw[jo,ak rfl]at hL
    have fJ:last<x→∀ρ' m',(ρ' 2=.ptr s.ag.length 0 0∧ρ' 3=.ptr s.ag.length 1 0∧ρ' 6=I ((j+1:Nat):Int)∧m'=s.push ⟨[[I n,.slice o1 e1 as,.slice o2 e2 rs],[S bw,I lo,I hi,I len,I val,.slice oa 1 (an.map aD),I need]],[]⟩)→
      go AP VA (.c (.loop wc)::X5) ⟨ρ',m'⟩=some (I (if kA (as.length:Nat) (-1) an=0 then(if wi need 1 an.length=true then 0 else 2)else kA (as.length:Nat) (-1) an),s):=by
     intro Bn
     rintro ρ' m' ⟨k2,k3,k6,rfl⟩
     rw[ak Bn]at hL
     refine ih ρ' _ ⟨k2,k3,k6,⟨x,hL,fun h=>by omega,fun i y hi hy=>?_⟩,rfl⟩
     have:i=j:=by omega
     subst this
     rw[hx]at hy;injection hy
    cases j with
    |zero=>
     have oX:=hL0 rfl
     subst oX
     have pg:=(iK.1 jo).1
     have jm:kH none 1 (.slice oa 1 (an.map aD)) (I 0)=some (.bq (aD x) 0):=hr
     have ai4:decide ((0:Int)<(an.length:Int))=true:=bP (by omega)
     simp only[go_sem,wc,g2,g3,g6,ai4,jm,fY,Kd,jo,aP,simprocAttr]
     refine fJ (by omega) _ _ ?_
     exact⟨g2,g3,rfl,rfl⟩
    | succ i =>
     obtain⟨y,hy⟩:=get_some (l:=an) (k:=i) (by omega)
     have oX:=hL1 i y rfl hy
     subst oX
     have gB:=cq (f:=aD) (o:=oa) (es:=1) hy
     have hd:decide ((0:Int)<((i+1:Nat):Int))=true:=bP (by omega)
     have xi:IntKind.i64.wrap (((i+1:Nat):Int)-1)=((i:Nat):Int):=by rw[bW]<;>omega
     have oU:decide (x≤last)=!decide (last<x):=nU (by omega)
     by_cases Bn:last<x
     ·have OF:decide (last<x)=true:=bP Bn
      simp only[go_sem,wc,g2,g3,g6,aS hj,hr,gB,fY,Kd,jo,hd,xi,oU,OF,ie,simprocAttr]
      refine fJ Bn _ _ ?_
      exact⟨g2,g3,rfl,rfl⟩
     ·have OF:decide (last<x)=false:=bS Bn
      rw[aq Bn]at hL
      rw[hL]
      simp only[go_sem,wc,g2,g3,g6,aS hj,hr,gB,fY,Kd,jo,hd,xi,oU,OF,simprocAttr]
  ·rintro ρ m ⟨g2,g3,g6,⟨last,hL,_,_⟩,rfl⟩
   rw[eS]at hL
   have hL':kA (as.length:Nat) (-1) an=0:=hL
   rw[hL',ak rfl]
   cases jo:wi need 1 (an.length:Nat)<;>simp only[go_sem,wc,MB,g3,g6,bM,fY,jo,simprocAttr]<;>rfl
 rw[aL (show AP 81=some D7 from rfl) rfl]
 unfold lG
 simp only
 cases se:isName bw with
 |false=>simp only[go_sem,x9,pY,se,simprocAttr]<;>rfl
 | true =>
  by_cases h2:jV n lo hi=0
  ·have hb:=Rp h2
   have w1:IntKind.i64.wrap (hi-lo)=hi-lo:=bW (by omega) (by omega)
   have w2:IntKind.i64.wrap (hi-lo+1)=hi-lo+1:=bW (by omega) (by omega)
   rw[ak rfl,h2,ak rfl]
   cases h3:wi len 1 (hi-lo+1)with
   |false=>simp only[go_sem,x9,pY,se,zF (hs.push _) hn iE,h2,aY,eB,w1,w2,fY,h3,jM,simprocAttr]<;>rfl
   | true =>
    cases h4:wi val 0 100000 with
    |false=>simp only[go_sem,x9,pY,se,zF (hs.push _) hn iE,h2,aY,eB,w1,w2,fY,h3,h4,nJ,simprocAttr]<;>rfl
    | true =>
     rw[xH,ak rfl]
     cases an with
     |nil=>
      rw[ak rfl]
      simp only[go_sem,x9,pY,se,zF (hs.push _) hn iE,h2,aY,eB,w1,w2,fY,h3,h4,aP,simprocAttr]
     |cons a t=>
      rw[aq (by simp)]
      have hd:decide ((((a::t).length:Nat):Int)=0)=false:=bS (by simp;omega)
      generalize hg:a::t=q at*
      simp only[go_sem,x9,pY,se,zF (hs.push _) hn iE,h2,aY,eB,w1,w2,fY,h3,h4,hd,simprocAttr]
      exact key 0 _ _ (bg _) ⟨rfl,rfl,rfl,⟨-1,rfl,fun _=>rfl,fun i x h=>by omega⟩,rfl⟩
  ·rw[ak rfl,aq h2]
   simp only[go_sem,x9,pY,se,zF (hs.push _) hn iE,h2,aY,ij,simprocAttr]
end
structure W.Hd (w:W):Prop where
 as:(w.as.l.length:Int)<9223372036854775808
 rs:(w.rs.l.length:Int)<9223372036854775808
 name:∀a∈w.as.l,(a.name.size:Int)<9223372036854775808
 cl:∀a∈w.as.l,(a.cl.l.length:Int)<9223372036854775808
 bw:∀r∈w.rs.l,(r.bw.size:Int)<9223372036854775808
 an:∀r∈w.rs.l,(r.an.l.length:Int)<9223372036854775808
def Jl (a:A):Bool:=decide (a.name.size≤20)&&decide (a.cl.l.length≤8)
def Fk (r:R):Bool:=decide (r.bw.size≤20)&&decide (r.an.l.length≤6)
def yC (w:W):Bool:=(decide (w.as.l.length≤6)&&decide (w.rs.l.length≤14))&&(w.as.l.all Jl&&w.rs.l.all Fk)
theorem VM {w:W} (h:yC w=true):w.ko:=by
 simp only[yC,Jl,Fk,dB,dZ,jx]at h
 obtain⟨⟨h1,h2⟩,h3,h4⟩:=h
 exact⟨h1,h2,fun a ha=>(h3 a ha).1,fun a ha=>(h3 a ha).2,fun r hr=>(h4 r hr).1,fun r hr=>(h4 r hr).2⟩
theorem LQ {α:Type} {p:α→Bool} {l:List α} {k:Nat} {x:α} (h:l[k]? =some x):(l.drop k).all p=(p x&&(l.drop (k+1)).all p):=by
 rw[eQ h,vK]
def NG (l:List (Int×Int)):Sl (Int×Int):=⟨wF (l.map gN),2,l⟩
theorem U8 {l:List (Int×Int)}:(NG l).ok 2:=by
 refine⟨.inr rfl,?_⟩
 cases l
 ·exact .inr (.inl rfl)
 ·exact .inl rfl
def cA (a:A):A:={a with cl:=NG a.cl.l}
def cR (r:R):R:={r with an:=fi r.an.l}
def cW (w:W):W:=⟨w.ox,eD 3 (w.as.l.map cA),eD 7 (w.rs.l.map cR)⟩
theorem yl {w:W}:(cW w).as.l=w.as.l.map cA:=kT
theorem wq {w:W}:(cW w).rs.l=w.rs.l.map cR:=kT
theorem Nq {w:W}:(cW w).Ok:=by
 refine⟨x4,fun a ha=>?_,x4,fun r hr=>?_⟩
 ·rw[yl]at ha;obtain⟨b,_,rfl⟩:=cC.1 ha;exact U8
 ·rw[wq]at hr;obtain⟨b,_,rfl⟩:=cC.1 hr;exact Ff
theorem Np {w:W} (h:w.ko):(cW w).ko:=by
 refine⟨by rw[yl,bY];exact h.as,by rw[wq,bY];exact h.rs,fun a ha=>?_,fun a ha=>?_,fun r hr=>?_,fun r hr=>?_⟩
 ·rw[yl]at ha;obtain⟨b,hb,rfl⟩:=cC.1 ha;exact h.name b hb
 ·rw[yl]at ha;obtain⟨b,hb,rfl⟩:=cC.1 ha;exact h.cl b hb
 ·rw[wq]at hr;obtain⟨b,hb,rfl⟩:=cC.1 hr;exact h.bw b hb
 ·rw[wq]at hr;obtain⟨b,hb,rfl⟩:=cC.1 hr;exact h.an b hb
theorem VS {α β:Type} {f:Nat→β→Int} {g:α→β}:∀{l:List α} {k:Nat},fP f k (l.map g)=fP (fun i x=>f i (g x)) k l
 |[],_=>rfl
 |a::r,k=>by simp only[iN,fP,VS (l:=r)]
theorem ab0 {n:Int} {as:List A} {k:Nat} {a:A}:kV n (as.map cA) k (cA a)=kV n as k a:=by
 unfold kV
 have:(((as.map cA).take k).any fun b=>decide (b.name=(cA a).name))=((as.take k).any fun b=>decide (b.name=a.name)):=by
  rw[←Lt,Hi];rfl
 rw[this];rfl
theorem RB {w:W}:dp (cW w)=dp w:=by
 unfold dp
 simp only[yl,wq,bY,VS,ab0]
 rfl
section
variable{s:ae} {w:W}
theorem ara {w:W} (hs:Ok s) (hw:w.Ok) (hf:w.ko):aw AP (.fn 50) [w.v] s=some (MK (dp w),s):=by
 obtain⟨n,⟨o1,e1,as⟩,⟨o2,e2,rs⟩⟩:=w
 have h4:decide ((4:Int)<(as.length:Int))=!decide (as.length≤4):=nU (by omega)
 have cG:decide ((12:Int)<(rs.length:Int))=!decide (rs.length≤12):=nU (by omega)
 rw[aL (show AP 50=some DT from rfl) rfl]
 unfold dp
 simp only
 cases hn:wi n 1 200 with
 |false=>simp only[go_sem,CR,hs,fY,hn,simprocAttr]<;>rfl
 | true =>
  have iW:=iK.1 hn
  by_cases rS:as.length≤4
  case neg=>
   have hd:decide (as.length≤4)=false:=bS rS
   simp only[go_sem,CR,hs,fY,hn,h4,hd,simprocAttr]
   rw[aq (fun h=>rS h.1)]
  by_cases zi:rs.length≤12
  case neg=>
   have hd:decide (as.length≤4)=true:=bP rS
   have oU:decide (rs.length≤12)=false:=bS zi
   simp only[go_sem,CR,hs,fY,hn,h4,cG,hd,oU,simprocAttr]
   rw[aq (fun h=>zi h.2)]
  have hd:decide (as.length≤4)=true:=bP rS
  have oU:decide (rs.length≤12)=true:=bP zi
  rw[ak rfl,ak ⟨rS,zi⟩]
  have k2:∀j ρ m,j≤rs.length→(ρ 1=.ptr s.ag.length 0 0∧ρ 2=.ptr s.ag.length 1 0∧ρ 6=I j∧m=s.push ⟨[[I n,.slice o1 e1 (as.map bZ),.slice o2 e2 (rs.map bU)],[I 0,I 0]],[]⟩)→
    go AP Vu (.c (.loop CS)::amH) ⟨ρ,m⟩=some (MK (match fP (fun _ r=>lG n as.length r) j (rs.drop j)with|some (k,e)=>(2,k,e)|none=>(0,0,0)),s):=by
   refine ck rs.length _ _ ?_ ?_
   ·rintro j ρ m hj ⟨h1,h2,h6,rfl⟩ ih
    obtain⟨x,hx⟩:=get_some hj
    have fI:=bQ hx
    have dV:e2=7:=by rcases hw.rs.1 with h|h;(simp only at h;rw[h]at hx;simp at hx);exact h
    subst dV
    have hr:=cq (f:=bU) (o:=o2) (es:=7) hx
    have m1:=hf.bw x fI
    have m2:=hf.an x fI
    have hq:∀r,aw AP (.fn 81) [.agg [I n,.slice o1 e1 (as.map bZ),.slice o2 7 (rs.map bU)],.agg [S x.bw,I x.lo,I x.hi,I x.len,I x.val,.slice x.an.o x.an.e (x.an.l.map aD),I x.need]] (s.push r)=some (I (lG n as.length x),s.push r):=fun r=>by
     have:=arp (s:=s.push r) (n:=n) (as:=as.map bZ) (r:=x) (o1:=o1) (e1:=e1) (o2:=o2) (e2:=7) (rs:=rs.map bU) (hs.push _) (hw.an x fI).1 iW.1 iW.2 (by omega) (by rw[bY];exact rS) (by omega)
     rw[bY]at this
     exact this
    rw[wJ hx]
    by_cases h0:lG n as.length x=0
    ·simp only[go_sem,CS,h1,h6,aS hj,hr,hq,h0,aY,eB,bK hj (show(rs.length:Int)<_ by omega),simprocAttr]
     refine ih _ _ ?_
     exact⟨h1,h2,rfl,rfl⟩
    ·simp only[go_sem,CS,h1,h2,h6,hs,aS hj,hr,hq,h0,aY,ij,simprocAttr]
   ·rintro ρ m ⟨h1,h2,h6,rfl⟩
    simp only[go_sem,CS,Mh,h1,h2,h6,hs,bM,simprocAttr]
    rw[eS];rfl
  have k1:∀j ρ m,j≤as.length→(ρ 1=.ptr s.ag.length 0 0∧ρ 2=.ptr s.ag.length 1 0∧ρ 4=I j∧m=s.push ⟨[[I n,.slice o1 e1 (as.map bZ),.slice o2 e2 (rs.map bU)],[I 0,I 0]],[]⟩)→
    go AP Vu (.c (.loop CT)::amI) ⟨ρ,m⟩=some (MK (match fP (kV n as) j (as.drop j)with|some (k,e)=>(1,k,e)|none=>match fP (fun _ r=>lG n as.length r) 0 rs with|some (k,e)=>(2,k,e)|none=>(0,0,0)),s):=by
   refine ck as.length _ _ ?_ ?_
   ·rintro j ρ m hj ⟨h1,h2,A3,rfl⟩ ih
    obtain⟨x,hx⟩:=get_some hj
    have fI:=bQ hx
    have dV:e1=3:=by rcases hw.as.1 with h|h;(simp only at h;rw[h]at hx;simp at hx);exact h
    subst dV
    have m1:=hf.name x fI
    have m2:=hf.cl x fI
    have hq:∀r,aw AP (.fn 80) [.agg [I n,.slice o1 3 (as.map bZ),.slice o2 e2 (rs.map bU)],I j] (s.push r)=some (I (kV n as j x),s.push r):=fun r=>ark (hs.push _) (hw.cl x fI).1 iW.1 iW.2 hx (by omega) rS (by omega)
    rw[wJ hx]
    by_cases h0:kV n as j x=0
    ·simp only[go_sem,CT,h1,A3,aS hj,hq,h0,aY,eB,bK hj (show(as.length:Int)<_ by omega),simprocAttr]
     refine ih _ _ ?_
     exact⟨h1,h2,rfl,rfl⟩
    ·simp only[go_sem,CT,h1,h2,A3,hs,aS hj,hq,h0,aY,ij,simprocAttr]
   ·rintro ρ m ⟨h1,h2,A3,rfl⟩
    simp only[go_sem,CT,Mi,h1,A3,bM,simprocAttr]
    rw[eS]
    refine(k2 0 _ _ (bg _) ?_).trans rfl
    exact⟨h1,h2,rfl,rfl⟩
  simp only[go_sem,CR,fY,hn,h4,cG,hd,oU,simprocAttr]
  refine(k1 0 _ _ (bg _) ?_).trans rfl
  exact⟨rfl,rfl,rfl,rfl⟩
theorem ZJ (hs:Ok s) (hw:w.Ok) (hf:w.ko):aw AP (.fn 24) [w.v] s=some (I (dp w).2.2,s):=by
 have hc:∀r,aw AP (.fn 50) [w.v] (s.push r)=some (MK (dp w),s.push r):=fun r=>ara (hs.push r) hw hf
 rw[aL (show AP 24=some D1 from rfl) rfl]
 simp only[W.v,c8,Sl.v]at hc
 simp only[go_sem,Tq,hs,hc,simprocAttr]
theorem anI (hs:Ok s) (hw:w.Ok) (hb:w.Hd):aw AP (.fn 22) [w.v] s=some (B (yC w),s):=by
 obtain⟨n,⟨o1,e1,as⟩,⟨o2,e2,rs⟩⟩:=w
 have h6:decide ((6:Int)<(as.length:Int))=!decide (as.length≤6):=nU (by omega)
 have qD:decide ((14:Int)<(rs.length:Int))=!decide (rs.length≤14):=nU (by omega)
 rw[aL (show AP 22=some DN from rfl) rfl]
 unfold yC
 simp only
 by_cases ha:as.length≤6
 case neg=>
  have hd:decide (as.length≤6)=false:=bS ha
  simp only[go_sem,H6,h6,hd,jM,simprocAttr]
 by_cases hr:rs.length≤14
 case neg=>
  have hd:decide (as.length≤6)=true:=bP ha
  have oU:decide (rs.length≤14)=false:=bS hr
  simp only[go_sem,H6,h6,qD,hd,oU,jM,nJ,simprocAttr]
 have hd:decide (as.length≤6)=true:=bP ha
 have oU:decide (rs.length≤14)=true:=bP hr
 have k2:∀j ρ m,j≤rs.length→(ρ 1=.ptr s.ag.length 0 0∧ρ 4=I j∧m=s.push ⟨[[I n,.slice o1 e1 (as.map bZ),.slice o2 e2 (rs.map bU)]],[]⟩)→
   go AP Vs (.c (.loop Ad)::amA) ⟨ρ,m⟩=some (B ((rs.drop j).all Fk),s):=by
  refine ck rs.length _ _ ?_ ?_
  ·rintro j ρ m hj ⟨h1,h4,rfl⟩ ih
   obtain⟨x,hx⟩:=get_some hj
   have fI:=bQ hx
   have dV:e2=7:=by rcases hw.rs.1 with h|h;(simp only at h;rw[h]at hx;simp at hx);exact h
   subst dV
   have cr:=cq (f:=bU) (o:=o2) (es:=7) hx
   have q1:decide ((20:Int)<(x.bw.size:Int))=!decide (x.bw.size≤20):=nU (by omega)
   have q2:decide ((6:Int)<(x.an.l.length:Int))=!decide (x.an.l.length≤6):=nU (by omega)
   have bR:x.bw.data.size=x.bw.size:=rfl
   have ie:=bK hj (show(rs.length:Int)<_ by omega)
   rw[LQ hx]
   unfold Fk
   cases c1:decide (x.bw.size≤20)with
   |false=>simp only[go_sem,Ad,h1,h4,aS hj,cr,q1,c1,jM,simprocAttr]
   | true =>
    cases c2:decide (x.an.l.length≤6)with
    |false=>simp only[go_sem,Ad,h1,h4,aS hj,cr,q1,q2,c1,c2,jM,nJ,simprocAttr]
    |true=>
     simp only[go_sem,Ad,h1,h4,aS hj,cr,q1,q2,c1,c2,ie,simprocAttr]
     refine(ih _ _ ?_).trans ?_
     ·exact⟨h1,rfl,rfl⟩
     ·rfl
  ·rintro ρ m ⟨h1,h4,rfl⟩
   simp only[go_sem,Ad,L8,h1,h4,bM,simprocAttr]
   rw[eS];rfl
 have k1:∀j ρ m,j≤as.length→(ρ 1=.ptr s.ag.length 0 0∧ρ 3=I j∧m=s.push ⟨[[I n,.slice o1 e1 (as.map bZ),.slice o2 e2 (rs.map bU)]],[]⟩)→
   go AP Vs (.c (.loop Ae)::amB) ⟨ρ,m⟩=some (B ((as.drop j).all Jl&&rs.all Fk),s):=by
  refine ck as.length _ _ ?_ ?_
  ·rintro j ρ m hj ⟨h1,h3,rfl⟩ ih
   obtain⟨x,hx⟩:=get_some hj
   have fI:=bQ hx
   have dV:e1=3:=by rcases hw.as.1 with h|h;(simp only at h;rw[h]at hx;simp at hx);exact h
   subst dV
   have cr:=cq (f:=bZ) (o:=o1) (es:=3) hx
   have q1:decide ((20:Int)<(x.name.size:Int))=!decide (x.name.size≤20):=nU (by omega)
   have q2:decide ((8:Int)<(x.cl.l.length:Int))=!decide (x.cl.l.length≤8):=nU (by omega)
   have bR:x.name.data.size=x.name.size:=rfl
   have ie:=bK hj (show(as.length:Int)<_ by omega)
   rw[LQ hx]
   unfold Jl
   cases c1:decide (x.name.size≤20)with
   |false=>simp only[go_sem,Ae,h1,h3,aS hj,cr,q1,c1,jM,simprocAttr]
   | true =>
    cases c2:decide (x.cl.l.length≤8)with
    |false=>simp only[go_sem,Ae,h1,h3,aS hj,cr,q1,q2,c1,c2,jM,nJ,simprocAttr]
    |true=>
     simp only[go_sem,Ae,h1,h3,aS hj,cr,q1,q2,c1,c2,ie,simprocAttr]
     refine(ih _ _ ?_).trans ?_
     ·exact⟨h1,rfl,rfl⟩
     ·rfl
  ·rintro ρ m ⟨h1,h3,rfl⟩
   simp only[go_sem,Ae,L9,h1,h3,bM,simprocAttr]
   rw[eS]
   refine(k2 0 _ _ (bg _) ?_).trans rfl
   exact⟨h1,rfl,rfl⟩
 simp only[go_sem,H6,h6,qD,hd,oU,xH,simprocAttr]
 refine(k1 0 _ _ (bg _) ?_).trans ?_
 ·exact⟨rfl,rfl,rfl⟩
 ·rfl
theorem acR {l:List (Int×Int)} {o:Own} {e:Nat} (hs:Ok s) (he:l=[]∨e=2) (hl:l.length≤4294967296):aw AP (.fn 37) [.slice o e (l.map gN)] s=some (.slice (wF (l.map gN)) 2 (l.map gN),s):=by
 rw[aL (show AP 37=some DC from rfl) rfl]
 rcases he with h|h
 ·subst h
  simp only[go_sem,L2,eE,Hq,simprocAttr]
  rfl
 ·subst h
  obtain⟨x',t',h1,h2⟩:=aew (s:=s) (r:=⟨[],[]⟩) (es:=2) (x:=.slice o 2 (l.map gN)) (xs:=l.map gN) (o:=o) rfl (by simpa using hl)
  simp only[go_sem,L2,h1,h2,simprocAttr]
theorem Acc.ext {d es:Nat} {xs:List (List AV)} {x:AV} {og:Option Nat} {tk tk':List (Option Nat)} (h:Acc d es xs x og tk) (hx:∀(g:Nat) (n:Option Nat),tk[g]? =some n→tk'[g]? =some n):Acc d es xs x og tk':=by
 cases og with
 |none=>exact h
 |some g=>exact⟨h.1,h.2.1,hx g _ h.2.2⟩
theorem acP {Q:ae} {l:List Int} {o:Own} {e:Nat} {tk:List (Option Nat)} (hQ:Ok Q) (he:l=[]∨e=1) (hl:l.length≤4294967296):
  ∃oo tk',(∀bx,aw AP (.fn 38) [.slice o e (l.map aD)] (Q.push ⟨bx,tk⟩)=some (.slice oo 1 (l.map aD),Q.push ⟨bx,tk'⟩))∧(AV.slice oo 1 (l.map aD)).close=some ((fi l).v aD)∧(∀(g:Nat) (n:Option Nat),tk[g]? =some n→tk'[g]? =some n)∧(l=[]→oo=.full)∧(l≠[]→oo=.tok Q.ag.length tk.length∧tk'=tk++[some l.length]):=by
 cases fQ:l with
 |nil=>
  refine⟨.full,tk,fun bx=>?_,rfl,fun _ _ h=>h,fun _=>rfl,fun h=>absurd rfl h⟩
  rw[aL (show AP 38=some wu from rfl) rfl]
  simp only[go_sem,CG,eE,Hq,simprocAttr]
  show some (_,((Q.push ⟨bx,tk⟩).push ⟨[],[]⟩).pop)=_
  rw[pop_push]
 | cons a q =>
  rw[←fQ]
  have hn:l≠[]:=by rw[fQ];simp
  have j7:e=1:=by rcases he with h|h;exact absurd h hn;exact h
  subst j7
  refine⟨.tok Q.ag.length tk.length,tk++[some l.length],fun bx=>?_,by rw[fQ];rfl,fun g n h=>?_,fun h=>absurd h hn,fun _=>⟨rfl,rfl⟩⟩
  ·have hlen:(Q.push ⟨bx,tk⟩).ag.length=Q.ag.length+1:=by simp[ae.push]
   have ha:eE ((Q.push ⟨bx,tk⟩).push ⟨[],[]⟩) 1 (.slice .full 1 []) (.slice o 1 (l.map aD))=some (.slice (.tok (Q.ag.length+1) 0) 1 (l.map aD),(Q.push ⟨bx,tk⟩).push ⟨[],[some l.length]⟩):=by
    have h3:=qc (Q.push ⟨bx,tk⟩) ⟨[],[]⟩
    have h4:=oF (Q.push ⟨bx,tk⟩) ⟨[],[]⟩ l.length
    rw[hlen]at h3 h4
    have h5:((Q.push ⟨bx,tk⟩).push ⟨[],[]⟩).cur=Q.ag.length+1:=by rw[fE,hlen]
    simp[eE,Own.isNil,dN,hl,hn,h3,h4,h5]
   have lu:=KJ (Q:=Q) (R:=⟨bx,tk⟩) (r0:=⟨[],[some l.length]⟩) (g:=0) (es:=1) (xs:=l.map aD) hQ (by simp)
   rw[aL (show AP 38=some wu from rfl) rfl]
   simp only[go_sem,CG,ha,simprocAttr]
   exact lu.trans (by rw[bY])
  ·have:=(bd.1 h).1
   rw[dC this];exact h
theorem arc (hs:Ok s) (hw:w.Ok) (hf:w.ko):aw AP (.fn 11) [w.v] s=some ((cW w).v,s):=by
 obtain⟨n,⟨o1,e1,as⟩,⟨o2,e2,rs⟩⟩:=w
 have hfa:as.length≤6:=hf.as
 have pW:rs.length≤14:=hf.rs
 have kr:∀(j:Nat) ρ m,j≤rs.length→(ρ 1=.ptr s.ag.length 0 0∧ρ 2=.ptr s.ag.length 1 0∧ρ 3=.ptr s.ag.length 2 0∧ρ 6=I j∧
   ∃xa qd xr GG tk bx,Acc s.ag.length 3 ((as.map cA).map bZ) xa qd tk∧Acc s.ag.length 7 (((rs.take j).map cR).map bU) xr GG tk∧(GG≠qd∨GG=none)∧m=s.push ⟨[I n,.slice o1 e1 (as.map bZ),.slice o2 e2 (rs.map bU)]::[I 0,.slice .aA 0 [],.slice .aA 0 []]::[I n,xa,xr]::bx,tk⟩)→
   go AP Vv (.c (.loop Ia)::amK) ⟨ρ,m⟩=some ((cW ⟨n,⟨o1,e1,as⟩,⟨o2,e2,rs⟩⟩).v,s):=by
  refine ck rs.length _ _ ?_ ?_
  ·rintro j ρ m hj ⟨h1,h2,h3,h6,xa,qd,xr,GG,tk,bx,hA,hR,aB,rfl⟩ ih
   obtain⟨x,hx⟩:=get_some hj
   have fI:=bQ hx
   have dV:e2=7:=by rcases hw.rs.1 with h|h;(simp only at h;rw[h]at hx;simp at hx);exact h
   subst dV
   have cr:=cq (f:=bU) (o:=o2) (es:=7) hx
   have m2:=hf.an x fI
   obtain⟨oo,mV,dU,gj,mG,_,_⟩:=acP (Q:=s) (l:=x.an.l) (o:=x.an.o) (e:=x.an.e) (tk:=tk) hs (hw.an x fI).1 (by omega)
   have uR:=Acc.ext hA mG
   have Ol:=Acc.ext hR mG
   have Bm:(rs.take j).length≤14:=by rw[fW];omega
   obtain⟨xr',ao9,mj,cQ,eM,uV,rS⟩:=Ol.append hs .full (ys:=[bU (cR x)]) (by simp) (by simp;omega)
   have Xl:=rS _ _ _ _ uR (by rcases aB with h|h;exact .inl fun e=>h e.symm;(cases qd with|none=>exact .inr rfl|some g=>exact .inl (by rw[h];simp)))
   obtain⟨KD,Je,KR,rfl⟩:=Acc.sl hA
   obtain⟨or',er',rr',rfl⟩:=Acc.sl hR
   obtain⟨Zg,Vp,Rb,rfl⟩:=Acc.sl eM
   have aT:closeAll [S x.bw,I x.lo,I x.hi,I x.len,I x.val,.slice oo 1 (x.an.l.map aD),I x.need]=some (bU (cR x)):=by
    simp only[mr,oI,pL,Ny,gj];rfl
   have ie:=bK hj (show(rs.length:Int)<_ by omega)
   simp only[bU,Sl.v,cR]at cQ aT
   simp only[go_sem,Ia,h1,h3,h6,hs,aS hj,cr,dU,aT,cQ,ie,simprocAttr]
   refine ih _ _ ?_
   refine⟨h1,h2,h3,rfl,_,qd,_,ao9,mj,_,Xl.1,?_,.inl fun e=>Xl.2 e.symm,rfl⟩
   rw[fU hx,iM,iM];exact eM
  ·rintro ρ m ⟨h1,h2,h3,h6,xa,qd,xr,GG,tk,bx,hA,hR,aB,rfl⟩
   rw[jh]at hR
   have l1:=fun q:ae=>hA.BA q
   have l2:=fun q:ae=>hR.BA q
   obtain⟨KD,Je,KR,rfl⟩:=Acc.sl hA
   obtain⟨or',er',rr',rfl⟩:=Acc.sl hR
   simp only[go_sem,Ia,Mk,h1,h2,h3,h6,hs,bM,l1,l2,simprocAttr]
   rw[uw,uw];rfl
 have ka:∀(j:Nat) ρ m,j≤as.length→(ρ 1=.ptr s.ag.length 0 0∧ρ 2=.ptr s.ag.length 1 0∧ρ 3=.ptr s.ag.length 2 0∧ρ 4=I j∧
   ∃xa qd tk bx,Acc s.ag.length 3 (((as.take j).map cA).map bZ) xa qd tk∧m=s.push ⟨[I n,.slice o1 e1 (as.map bZ),.slice o2 e2 (rs.map bU)]::[I 0,.slice .aA 0 [],.slice .aA 0 []]::[I n,xa,.slice .aA 0 []]::bx,tk⟩)→
   go AP Vv (.c (.loop Ib)::amL) ⟨ρ,m⟩=some ((cW ⟨n,⟨o1,e1,as⟩,⟨o2,e2,rs⟩⟩).v,s):=by
  refine ck as.length _ _ ?_ ?_
  ·rintro j ρ m hj ⟨h1,h2,h3,h4,xa,qd,tk,bx,hA,rfl⟩ ih
   obtain⟨x,hx⟩:=get_some hj
   have fI:=bQ hx
   have dV:e1=3:=by rcases hw.as.1 with h|h;(simp only at h;rw[h]at hx;simp at hx);exact h
   subst dV
   have cr:=cq (f:=bZ) (o:=o1) (es:=3) hx
   have m2:=hf.cl x fI
   have iU:∀r,aw AP (.fn 37) [.slice x.cl.o x.cl.e (x.cl.l.map gN)] (s.push r)=some (.slice (wF (x.cl.l.map gN)) 2 (x.cl.l.map gN),s.push r):=fun r=>acR (hs.push r) (hw.cl x fI).1 (by omega)
   have wZ:(as.take j).length≤6:=by rw[fW];omega
   obtain⟨xa',ao8,mj,cQ,eM,uV,rS⟩:=hA.append hs .full (ys:=[bZ (cA x)]) (by simp) (by simp;omega)
   obtain⟨KD,Je,KR,rfl⟩:=Acc.sl hA
   obtain⟨Zg,Vp,Rb,rfl⟩:=Acc.sl eM
   have eW:(AV.slice (wF (x.cl.l.map gN)) 2 (x.cl.l.map gN)).close=some (.slice (wF (x.cl.l.map gN)) 2 (x.cl.l.map gN)):=Sl.close (f:=gN) (U8 (l:=x.cl.l))
   have ie:=bK hj (show(as.length:Int)<_ by omega)
   simp only[bZ,Sl.v,cA,NG]at cQ
   simp only[go_sem,Ib,h1,h3,h4,hs,aS hj,cr,iU,eW,cQ,ie,simprocAttr]
   refine ih _ _ ?_
   refine⟨h1,h2,h3,rfl,_,ao8,mj,_,?_,rfl⟩
   rw[fU hx,iM,iM];exact eM
  ·rintro ρ m ⟨h1,h2,h3,h4,xa,qd,tk,bx,hA,rfl⟩
   rw[jh]at hA
   obtain⟨KD,Je,KR,rfl⟩:=Acc.sl hA
   simp only[go_sem,Ib,Ml,h1,h4,bM,simprocAttr]
   refine kr 0 _ _ (bg _) ?_
   exact⟨h1,h2,h3,rfl,_,qd,.slice .aA 0 [],none,tk,bx,hA,Acc.start,.inr rfl,rfl⟩
 rw[aL (show AP 11=some DW from rfl) rfl]
 simp only[go_sem,Tm,hs,simprocAttr]
 refine ka 0 _ _ (bg _) ?_
 exact⟨rfl,rfl,rfl,rfl,_,none,[],[],Acc.start,rfl⟩
end
end Go.Ax.Sx.Sc
