/- A part of the proof. -/
import Derived.Test.YtplkfafeoocmlaaGreatDoorT8
import Derived.Test.YtplkfafeoocmlaaGreatDoorT7
set_option linter.unusedSimpArgs false
set_option linter.unusedVariables false
set_option maxRecDepth 100000
namespace Go.Ax.Sx.Sc
open Go.Ax
section
variable{s:ae} {w:W}
theorem O0 {f:Int→Bool}:∀{k:Nat} {l:List Int},(aV k l).filter (fun g=>g.all f)=aV k (l.filter f)
 |0,l=>by simp[aV]
 |k+1,[]=>rfl
 | k + 1, x :: r => by
  simp only[aV,ns]
  rw[O0 (k:=k+1) (l:=r),List.filter_map]
  cases hx:f x with
  |true=>
   rw[Tb hx]
   simp only[aV]
   rw[←O0 (k:=k) (l:=r)]
   congr 2
   apply HE
   intro g _
   simp[Function.comp,hx]
  |false=>
   rw[Ta (by simp[hx])]
   rw[Tc.2 (by intro g _;simp[Function.comp,hx])]
   rfl
theorem aeV {n:Nat} {l g:List Int} {k:Nat} (h:(aV (n+1) l)[k]? =some g):kH none 1 (pU (n+1) l) (I k)=some (.bg [(nV (n+1) g).v aB] 0):=
 GY (by rw[gX,h];rfl)
def iW (n:Nat) (p:P):P:=⟨p.req,p.start,nV n p.an.l⟩
theorem arx {i st:Int}:ni w i st=((aV (w.rq i).need.toNat (w.rq i).an.l).filter fun g=>g.all fun a=>dc w a st (w.rq i).len).map fun g=>⟨i,st,fB g⟩:=by
 rw[O0];rfl
theorem aaO (hs:Ok s) (hw:Wk w) {i:Int} (h0:0≤i) (h1:i<w.rs.l.length):au AP (.fn 45) [w.v,I i] s=some (aU 3 (((dA w i).map (iW (w.rq i).need.toNat)).map aj),s):=by
 have hq:=hw.rq h0 h1
 have iQ:=hw.v.n2
 have pf:=hw.v.al
 have BZ:=W.qB h0 h1
 have hqo:=hw.ok.an _ BZ
 have Gx:=hw.tD.an _ BZ
 have ajI:=hq.sN
 have ajt:=hq.bh
 have ajJ:=hq.Cg
 have ajE:=hq.qn
 have BU:=hq.rA
 have awa:=hq.K7
 have awb:=hq.K8
 have gj:=rz hw h0 h1
 obtain⟨m,hm⟩:∃m:Nat,(w.rq i).need=((m+1:Nat):Int):=⟨((w.rq i).need-1).toNat,by omega⟩
 have Yf:(w.rq i).need.toNat=m+1:=by omega
 have qY:=z7 hw h0 h1
 have jm:dA w i=jJ w i (w.rq i).lo ((w.rq i).hi-(w.rq i).len+2-(w.rq i).lo).toNat:=rfl
 have eL:∀st,ni w i st=((aV (m+1) (w.rq i).an.l).filter fun g=>g.all fun a=>dc w a st (w.rq i).len).map fun g=>⟨i,st,fB g⟩:=fun st=>by rw[arx,Yf]
 have dX:∀r,au AP (.fn 73) [.slice (w.rq i).an.o (w.rq i).an.e ((w.rq i).an.l.map aB),I (w.rq i).need] (s.push r)=some (pU (m+1) (w.rq i).an.l,s.push r):=fun r=>by
  rw[hm];exact aaR (m+1) (hs.push r) hqo.1 (by omega) (by omega)
 have aiN:=hq.tq
 rw[Yf]
 have sE:IntKind.i64.wrap ((w.rq i).hi-(w.rq i).len)=(w.rq i).hi-(w.rq i).len:=ch (by omega) (by omega)
 have vB:IntKind.i64.wrap ((w.rq i).hi-(w.rq i).len+1)=(w.rq i).hi-(w.rq i).len+1:=ch (by omega) (by omega)
 generalize KD:w.rq i=q at*
 have hsc:(aV (m+1) q.an.l).length≤64:=kt xf (gP (show 0<2 by omega) Gx)
 have outer : ∀ (st : Int) ρ x, (ρ 1 = I i ∧ ρ 2 = .ptr s.ag.length 0 0 ∧ ρ 5 = .ptr s.ag.length 1 0 ∧ ρ 6 = pU (m + 1) q.an.l ∧ ρ 8 = I st ∧ q.lo ≤ st ∧ st ≤ q.hi - q.len + 2 ∧ ∃ D y og tk bx, D ++ jJ w i st (q.hi - q.len + 2 - st).toNat = dA w i ∧ Acc s.ag.length 3 ((D.map (iW (m + 1))).map aj) y og tk ∧ ρ 7 = y ∧ x = s.push ⟨cJ w :: bO q :: bx, tk⟩) →
   go AP Ww (.c (.loop Dk)::anv) ⟨ρ,x⟩=some (aU 3 (((dA w i).map (iW (m+1))).map aj),s):=by
  refine Rg (q.hi-q.len+1) _ _ ?_ ?_
  ·rintro st ρ x cp ⟨g1,g2,g5,g6,g8,zB,GD,D,y,og,tk,bx,hD,hA,g7,rfl⟩ ih
   have hle:decide (st≤q.hi-q.len+1)=true:=by simp;omega
   have akL:IntKind.i64.wrap (st+1)=st+1:=ch (by omega) (by omega)
   have akC:(q.hi-q.len+2-st).toNat=(q.hi-q.len+2-(st+1)).toNat+1:=by omega
   rw[akC]at hD
   simp only[jJ]at hD
   have inner:∀(j:Nat) ρ x,j≤(aV (m+1) q.an.l).length→(ρ 1=I i∧ρ 2=.ptr s.ag.length 0 0∧ρ 5=.ptr s.ag.length 1 0∧ρ 6=pU (m+1) q.an.l∧ρ 8=I st∧ρ 9=I j∧∃y og tk bx,Acc s.ag.length 3 (((D++(((aV (m+1) q.an.l).take j).filter fun g=>g.all fun a=>dc w a st q.len).map fun g=>(⟨i,st,fB g⟩:P)).map (iW (m+1))).map aj) y og tk∧ρ 7=y∧x=s.push ⟨cJ w::bO q::bx,tk⟩)→
     go AP Ww (.c (.loop Dl)::anw) ⟨ρ,x⟩=some (aU 3 (((dA w i).map (iW (m+1))).map aj),s):=by
    refine cq _ _ _ ?_ ?_
    ·rintro j ρ x hj ⟨g1,g2,g5,g6,g8,g9,y,og,tk,bx,hA,g7,rfl⟩ fS
     obtain⟨g,hg⟩:=get_some hj
     have cC:=aeV hg
     have hgm:=BE (bU hg)
     have lJ:=qU (bU hg)
     have zq:bZ w ⟨i,st,nV (m+1) g⟩:=⟨h0,h1,by show 0≤st;omega,by show st≤200;omega,fun a ha=>aiN a (hgm.subset ha),LJ,by show(g.length:Int)<_;omega⟩
     have jC:∀r,au AP (.fn 74) [w.v,.agg (aj ⟨i,st,nV (m+1) g⟩)] (s.push r)=some (B (!(g.all fun a=>dc w a st q.len)),s.push r):=fun r=>by
      rw[aaT (hs.push r) hw zq]
      simp only[KD]
      rw[List.not_all_eq_any_not];rfl
     have aP:closeAll [I i,I st,(nV (m+1) g).v aB]=some (aj ⟨i,st,nV (m+1) g⟩):=by
      simp only[mf,oq,oV,Sl.close (f:=aB) (LJ (n:=m+1) (g:=g))];rfl
     have Ki:((aV (m+1) q.an.l).length:Int)<9223372036854775808:=by omega
     have hDl:D.length≤13000:=by rw[←hD,cu]at qY;omega
     have qj:((aV (m+1) q.an.l).take j).length≤64:=by rw[fc];omega
     have xk:(((aV (m+1) q.an.l).take j).filter fun g=>g.all fun a=>dc w a st q.len).length≤64:=kt (nu _ _) qj
     simp only[aj,Sl.v,W.v,cJ]at aP jC cC
     cases fi:g.all fun a=>dc w a st q.len with
     | false =>
      have iz:((aV (m+1) q.an.l).take (j+1)).filter (fun g=>g.all fun a=>dc w a st q.len)=((aV (m+1) q.an.l).take j).filter (fun g=>g.all fun a=>dc w a st q.len):=by
       rw[fF hg,ns,Ta (by simp[fi]),Am,iG]
      rw[←iz]at hA
      obtain⟨oa,ea,ra,rfl⟩:=Acc.sl hA
      simp only[go_sem,Dl,g1,g2,g6,g8,g9,hs,Ft,aS hj,cC,jC,fi,nY,bK hj Ki,simprocAttr]
      refine fS _ _ ?_
      exact⟨g1,g2,g5,g6,g8,rfl,_,og,tk,_,hA,g7,rfl⟩
     | true =>
      have iz:(D++(((aV (m+1) q.an.l).take (j+1)).filter fun g=>g.all fun a=>dc w a st q.len).map fun g=>(⟨i,st,fB g⟩:P))=(D++(((aV (m+1) q.an.l).take j).filter fun g=>g.all fun a=>dc w a st q.len).map fun g=>(⟨i,st,fB g⟩:P))++[⟨i,st,fB g⟩]:=by
       rw[fF hg,ns,Tb (by simp[fi]),Am,ib,gN];rfl
      obtain⟨x2,eY,ll,eK,gw,Po,XH⟩:=hA.append hs .full (ys:=[aj ⟨i,st,nV (m+1) g⟩]) (by simp) (by rw[bR,bR,cu,bR,yf];omega)
      obtain⟨oa,ea,ra,rfl⟩:=Acc.sl hA
      obtain⟨ob,eb,rb,rfl⟩:=Acc.sl gw
      simp only[aj,Sl.v]at eK
      simp only[go_sem,Dl,g1,g2,g6,g7,g8,g9,hs,Ft,aS hj,cC,aP,jC,fi,eK,nZ,bK hj Ki,simprocAttr]
      refine fS _ _ ?_
      refine⟨g1,g2,g5,g6,g8,rfl,_,eY,ll,_,?_,rfl,rfl⟩
      rw[iz,ib,ib];exact gw
    ·rintro ρ x ⟨g1,g2,g5,g6,g8,g9,y,og,tk,bx,hA,g7,rfl⟩
     rw[jb,←eL]at hA
     simp only[go_sem,Dl,M9,g6,g8,g9,Ft,bN,akL,simprocAttr]
     refine ih _ _ ?_
     exact⟨g1,g2,g5,g6,rfl,by omega,by omega,_,y,og,tk,bx,by rw[gN];exact hD,hA,g7,rfl⟩
   simp only[go_sem,Dk,g5,g8,sE,vB,hle,simprocAttr]
   refine inner 0 _ _ (bp _) ?_
   refine⟨g1,g2,g5,g6,g8,rfl,y,og,tk,bx,?_,g7,rfl⟩
   rw[Mi,Am,nw,iG];exact hA
  ·rintro st ρ x cp ⟨g1,g2,g5,g6,g8,zB,GD,D,y,og,tk,bx,hD,hA,g7,rfl⟩
   have hle:decide (st≤q.hi-q.len+1)=false:=by simp;omega
   have hz:(q.hi-q.len+2-st).toNat=0:=by omega
   rw[hz]at hD
   simp only[jJ,iG]at hD
   rw[hD]at hA
   have da:=fun q:ae=>hA.leave q
   obtain⟨oa,ea,ra,rfl⟩:=Acc.sl hA
   simp only[go_sem,Dk,IE,g5,g7,g8,sE,vB,hle,da,simprocAttr]
 rw[aM (show AP 45=some Ek from rfl) rfl]
 simp only[bO,Sl.v]at gj dX
 simp only[go_sem,Ul,hs,gj,dX,simprocAttr]
 refine outer q.lo _ _ ?_
 refine⟨rfl,rfl,rfl,rfl,rfl,by omega,by omega,[],_,none,[],[],?_,Acc.start,rfl,rfl⟩
 rw[kq,jm]
end
section
variable{s:ae} {w:W}
theorem afn {n:Nat} {p x:P}:cS w (iW n p) x=cS w p x:=rfl
theorem arn {n:Nat} {p:P} (h:bZ w p):bZ w (iW n p):=⟨h.r0,h.r1,h.s0,h.s1,h.an,LJ,h.len⟩
theorem ar8 (hs:Ok s) (hw:Wk w) {l:List P} {o:Own} {e:Nat} {i:Int} (h0:0≤i) (h1:i<w.rs.l.length) (he:l=[]∨e=3) (hl:l.length≤14) (bh:∀x∈l,bZ w x):
  au AP (.fn 18) [w.v,.slice o e (l.map aj),I i] s=some (aU 3 (((bS w l i).map (iW (w.rq i).need.toNat)).map aj),s):=by
 have dP:∀r,au AP (.fn 45) [w.v,I i] (s.push r)=some (aU 3 (((dA w i).map (iW (w.rq i).need.toNat)).map aj),s.push r):=fun r=>aaO (hs.push r) hw h0 h1
 have qY:=z7 hw h0 h1
 have dI:∀p∈dA w i,bZ w p:=fun p hp=>(kg hw h0 h1 hp).1
 unfold bS
 generalize(w.rq i).need.toNat=n at*
 generalize dA w i=A at*
 have hlen:ld false (aU 3 ((A.map (iW n)).map aj))=some (I A.length):=by rw[K0,bR,bR]
 have outer : ∀ (k : Nat) ρ x, k ≤ A.length → (ρ 1 = .slice o e (l.map aj) ∧ ρ 3 = .ptr s.ag.length 0 0 ∧ ρ 7 = aU 3 ((A.map (iW n)).map aj) ∧ ρ 9 = I k ∧ ∃ y og tk, Acc s.ag.length 3 ((((A.take k).filter fun x => !cK w x l).map (iW n)).map aj) y og tk ∧ ρ 8 = y ∧ x = s.push ⟨[cJ w], tk⟩) →
   go AP Wv (.c (.loop Dj)::ant) ⟨ρ,x⟩=some (aU 3 (((A.filter fun x=>!cK w x l).map (iW n)).map aj),s):=by
  refine cq _ _ _ ?_ ?_
  ·rintro k ρ x hk ⟨g1,g3,g7,g9,y,og,tk,hA,g8,rfl⟩ ih
   obtain⟨p,hp⟩:=get_some hk
   have iR:=dI p (bU hp)
   have cC:kH none 3 (aU 3 ((A.map (iW n)).map aj)) (I k)=some (.bg (aj (iW n p)) 0):=GY (by rw[gX,gX,hp];rfl)
   have vm:((A.take k).filter fun x=>!cK w x l).length≤13000:=kt (nu _ _) (by rw[fc];omega)
   have inner:∀(j:Nat) ρ x,j≤l.length→(ρ 1=.slice o e (l.map aj)∧ρ 3=.ptr s.ag.length 0 0∧ρ 7=aU 3 ((A.map (iW n)).map aj)∧ρ 9=I k∧ρ 10=B (!(l.take j).any fun q=>cS w q p)∧ρ 11=I j∧ρ 8=y∧x=s.push ⟨[cJ w],tk⟩)→
     go AP Wv (.c (.loop AO)::anu) ⟨ρ,x⟩=some (aU 3 (((A.filter fun x=>!cK w x l).map (iW n)).map aj),s):=by
    refine cq _ _ _ ?_ ?_
    ·rintro j ρ x hj ⟨g1,g3,g7,g9,g10,g11,g8,rfl⟩ fS
     obtain⟨q,hq⟩:=get_some hj
     have ej:e=3:=by rcases he with h|h;(rw[h]at hq;simp at hq);exact h
     subst ej
     have Yt:=bh q (bU hq)
     have hr:=cD (f:=aj) (o:=o) (es:=3) hq
     have dW:∀r,au AP (.fn 46) [w.v,.agg (aj (iW n p)),.agg (aj q)] (s.push r)=some (B (cS w q p),s.push r):=fun r=>by
      rw[aaN (hs.push r) hw (arn iR) Yt,afn,yP hw iR Yt]
     have iz:(!(l.take (j+1)).any fun q=>cS w q p)=((!(l.take j).any fun q=>cS w q p)&&!cS w q p):=by
      rw[fF hq,s7];simp
     simp only[aj,Sl.v,W.v,cJ]at dW hr cC
     cases hb:!(l.take j).any fun q=>cS w q p with
     |true=>
      rw[hb]at g10
      rw[hb,ia]at iz
      simp only[go_sem,AO,g1,g3,g7,g9,g10,g11,aS hj,cC,hr,dW,bK hj (show(l.length:Int)<_ by omega),simprocAttr]
      refine fS _ _ ?_
      exact⟨g1,g3,g7,g9,by rw[iz];rfl,rfl,g8,rfl⟩
     |false=>
      rw[hb]at g10
      rw[hb,kn]at iz
      simp only[go_sem,AO,g1,g10,g11,aS hj,bK hj (show(l.length:Int)<_ by omega),simprocAttr]
      refine fS _ _ ?_
      exact⟨g1,g3,g7,g9,by rw[iz];rfl,rfl,g8,rfl⟩
    ·rintro ρ x ⟨g1,g3,g7,g9,g10,g11,g8,rfl⟩
     rw[jb]at g10
     have dW:(l.any fun q=>cS w q p)=cK w p l:=rfl
     rw[dW]at g10
     have Xr:(A.length:Int)<9223372036854775808:=by omega
     cases hb:cK w p l with
     | false =>
      rw[hb]at g10
      have iz:(A.take (k+1)).filter (fun x=>!cK w x l)=(A.take k).filter (fun x=>!cK w x l)++[p]:=by
       rw[fF hp,ns,Tb (by simp[hb]),Am]
      obtain⟨x2,eY,ll,eK,gw,Po,XH⟩:=hA.append hs .full (ys:=[aj (iW n p)]) (by simp) (by rw[bR,bR,yf];omega)
      have aP:closeAll [I p.req,I p.start,(nV n p.an.l).v aB]=some (aj (iW n p)):=by
       simp only[mf,oq,oV,Sl.close (f:=aB) (LJ (n:=n) (g:=p.an.l))];rfl
      obtain⟨oa,ea,ra,rfl⟩:=Acc.sl hA
      obtain⟨ob,eb,rb,rfl⟩:=Acc.sl gw
      simp only[aj,Sl.v,iW]at eK aP cC
      simp only[go_sem,AO,IC,ID,g1,g7,g8,g9,g10,g11,bN,cC,aP,eK,nY,bK hk Xr,simprocAttr]
      refine ih _ _ ?_
      refine⟨g1,g3,g7,rfl,_,eY,ll,?_,rfl,rfl⟩
      rw[iz,ib,ib];exact gw
     | true =>
      rw[hb]at g10
      have iz:(A.take (k+1)).filter (fun x=>!cK w x l)=(A.take k).filter (fun x=>!cK w x l):=by
       rw[fF hp,ns,Ta (by simp[hb]),Am,iG]
      simp only[go_sem,AO,IC,ID,g1,g9,g10,g11,bN,nZ,bK hk Xr,simprocAttr]
      refine ih _ _ ?_
      exact⟨g1,g3,g7,rfl,y,og,tk,by rw[iz];exact hA,g8,rfl⟩
   simp only[go_sem,Dj,g7,g9,hlen,aS hk,simprocAttr]
   refine inner 0 _ _ (bp _) ?_
   exact⟨g1,g3,g7,g9,rfl,rfl,g8,rfl⟩
  ·rintro ρ x ⟨g1,g3,g7,g9,y,og,tk,hA,g8,rfl⟩
   rw[jb]at hA
   have da:=fun q:ae=>hA.leave q
   obtain⟨oa,ea,ra,rfl⟩:=Acc.sl hA
   simp only[go_sem,Dj,IB,g7,g8,g9,hlen,bN,da,simprocAttr]
 rw[aM (show AP 18=some Ei from rfl) rfl]
 simp only[W.v,cJ,Sl.v]at dP
 simp only[go_sem,Uk,dP,simprocAttr]
 refine outer 0 _ _ (bp _) ?_
 exact⟨rfl,rfl,rfl,rfl,_,none,[],Acc.start,rfl,rfl⟩
end
def lexB:List Int→List Int→Bool
 |[],[]=>false
 |[],_::_=>true
 |_::_,[]=>false
 |x::r,y::t=>if x=y then lexB r t else decide (x<y)
def kP (p:P):List Int:=p.req::p.start::p.an.l
def pV (p q:P):Int:=if lexB (kP p) (kP q)=true then-1 else if lexB (kP q) (kP p)=true then 1 else 0
def qC:List P→List P→Bool
 |[],[]=>true
 |x::r,y::t=>decide (pV x y=0)&&qC r t
 |_,_=>false
theorem zL:∀{l:List Int},lexB l l=false
 |[]=>rfl
 |x::r=>by simp only[lexB,bP];exact zL
theorem afg {p q:P} (h:kP p=kP q):pV p q=0:=by
 unfold pV;rw[h,zL];simp
section
variable{s:ae} {w:W}
theorem T1 {a b:List Int} {o1 o2:Own} {e1 e2:Nat} (h1:a=[]∨e1=1) (h2:b=[]∨e2=1) (l1:a.length≤100000) (l2:b.length≤100000):
  au AP (.fn 72) [.slice o1 e1 (a.map aB),.slice o2 e2 (b.map aB)] s=some (B (lexB a b),s):=by
 have key : ∀ (k : Nat) ρ m, k ≤ min a.length b.length → (ρ 0 = .slice o1 e1 (a.map aB) ∧ ρ 1 = .slice o2 e2 (b.map aB) ∧ ρ 5 = I k ∧ m = s.push ⟨[], []⟩) →
   go AP age (.c (.loop AE)::am4) ⟨ρ,m⟩=some (B (lexB (a.drop k) (b.drop k)),s):=by
  refine cq (min a.length b.length) _ _ ?_ ?_
  ·rintro k ρ m hk ⟨g0,g1,g5,rfl⟩ ih
   obtain⟨x,hx⟩:=get_some (l:=a) (k:=k) (by omega)
   obtain⟨y,hy⟩:=get_some (l:=b) (k:=k) (by omega)
   have nJ:e1=1:=by rcases h1 with h|h;(rw[h]at hx;simp at hx);exact h
   have kV:e2=1:=by rcases h2 with h|h;(rw[h]at hy;simp at hy);exact h
   subst nJ;subst kV
   have ha:=cD (f:=aB) (o:=o1) (es:=1) hx
   have hb:=cD (f:=aB) (o:=o2) (es:=1) hy
   have d1:decide ((k:Int)<(a.length:Int))=true:=by simp;omega
   have d2:decide ((k:Int)<(b.length:Int))=true:=by simp;omega
   rw[eR hx,eR hy,lexB]
   by_cases eM:x=y
   ·rw[ak eM]
    have hd:decide (¬x=y)=false:=by simp[eM]
    have zD:IntKind.i64.wrap ((k:Int)+1)=((k+1:Nat):Int):=by rw[ch (by omega) (by omega)];omega
    simp only[go_sem,AE,g0,g1,g5,d1,d2,ha,hb,hd,bn,zD,simprocAttr]
    exact ih _ _ ⟨g0,g1,rfl,rfl⟩
   ·rw[aq eM]
    have hd:decide (¬x=y)=true:=by simp[eM]
    simp only[go_sem,AE,g0,g1,g5,d1,d2,ha,hb,hd,bn,simprocAttr]
  ·rintro ρ m ⟨g0,g1,g5,rfl⟩
   by_cases fE:a.length≤b.length
   ·have lL:min a.length b.length=a.length:=by omega
    rw[lL]at g5⊢
    have d1:decide ((a.length:Int)<(a.length:Int))=false:=by simp
    rw[eZ]
    simp only[go_sem,AE,Ii,g0,g1,g5,d1,simprocAttr]
    by_cases aC:a.length<b.length
    ·have:∃y r,b.drop a.length=y::r:=by
      obtain⟨y,hy⟩:=get_some aC
      exact⟨y,_,eR hy⟩
     obtain⟨y,r,hd⟩:=this
     rw[hd]
     simp only[lexB]
     have:decide ((a.length:Int)<(b.length:Int))=true:=by simp;omega
     rw[this]
    ·rw[Al (by omega)]
     simp only[lexB]
     have:decide ((a.length:Int)<(b.length:Int))=false:=by simp;omega
     rw[this]
   ·have lL:min a.length b.length=b.length:=by omega
    rw[lL]at g5⊢
    have d1:decide ((b.length:Int)<(a.length:Int))=true:=by simp;omega
    have d2:decide ((b.length:Int)<(b.length:Int))=false:=by simp
    obtain⟨x,hx⟩:=get_some (l:=a) (k:=b.length) (by omega)
    have d3:decide ((a.length:Int)<(b.length:Int))=false:=by simp;omega
    simp only[go_sem,AE,Ii,g0,g1,g5,d1,d2,d3,simprocAttr]
    rw[eR hx,eZ];rfl
 rw[aM (show AP 72=some DX from rfl) rfl]
 simp only[go_sem,T4,simprocAttr]
 exact key 0 _ _ (bp _) ⟨rfl,rfl,rfl,rfl⟩
theorem am3 {p:P}:[[I p.req],[I p.start]]++p.an.l.map aB=(kP p).map aB:=rfl
theorem aaS {p q:P} (hs:Ok s) (hp:p.an.ok 1) (hq:q.an.ok 1) (lp:p.an.l.length≤1000) (lq:q.an.l.length≤1000):
  au AP (.fn 44) [.agg (aj p),.agg (aj q)] s=some (I (pV p q),s):=by
 obtain⟨o1,nk,c9,_,_⟩:=MH (q:=s) (b:=[]) (tk:=[]) (lit:=[[I p.req],[I p.start]]) (ys:=p.an.l.map aB) (o:=p.an.o) (e:=p.an.e) (by rcases hp.1 with h|h;exact .inl (by rw[h];rfl);exact .inr h) (by simp;omega)
 obtain⟨o2,ll,eS,_,_⟩:=MH (q:=s) (b:=[]) (tk:=nk) (lit:=[[I q.req],[I q.start]]) (ys:=q.an.l.map aB) (o:=q.an.o) (e:=q.an.e) (by rcases hq.1 with h|h;exact .inl (by rw[h];rfl);exact .inr h) (by simp;omega)
 rw[am3]at c9 eS
 have eK:∀m:ae,au AP (.fn 72) [.slice o1 1 ((kP p).map aB),.slice o2 1 ((kP q).map aB)] m=some (B (lexB (kP p) (kP q)),m):=fun m=>T1 (.inr rfl) (.inr rfl) (by simp[kP];omega) (by simp[kP];omega)
 have gw:∀m:ae,au AP (.fn 72) [.slice o2 1 ((kP q).map aB),.slice o1 1 ((kP p).map aB)] m=some (B (lexB (kP q) (kP p)),m):=fun m=>T1 (.inr rfl) (.inr rfl) (by simp[kP];omega) (by simp[kP];omega)
 rw[aM (show AP 44=some Ep from rfl) rfl]
 unfold pV
 cases h1:lexB (kP p) (kP q)with
 |true=>simp only[go_sem,IJ,c9,eS,eK,h1,simprocAttr]
 |false=>
  cases h2:lexB (kP q) (kP p)with
  |true=>simp only[go_sem,IJ,c9,eS,eK,gw,h1,h2,ez,simprocAttr]
  |false=>simp only[go_sem,IJ,c9,eS,eK,gw,h1,h2,ez,simprocAttr]
structure H4 (l:List P):Prop where
 len:l.length≤100000
 ok:∀p∈l,p.an.ok 1∧p.an.l.length≤1000
theorem asa {a b : List P} {o1 o2 : Own} {e1 e2 : Nat} (hs : Ok s) (h1 : a = [] ∨ e1 = 3) (h2 : b = [] ∨ e2 = 3) (l1 : H4 a) (l2 : H4 b) :
    au AP (.fn 17) [.slice o1 e1 (a.map aj),.slice o2 e2 (b.map aj)] s=some (B (qC a b),s):=by
  have xu:=l1.len
  have hlb:=l2.len
  by_cases fE:a.length=b.length
  · have key : ∀ (k : Nat) ρ m, k ≤ a.length → (ρ 0 = .slice o1 e1 (a.map aj) ∧ ρ 1 = .slice o2 e2 (b.map aj) ∧ ρ 5 = I k ∧ m = s.push ⟨[], []⟩) →
        go AP agp (.c (.loop Dm)::anx) ⟨ρ,m⟩=some (B (qC (a.drop k) (b.drop k)),s):=by
      refine cq a.length _ _ ?_ ?_
      · rintro k ρ m hk ⟨g0, g1, g5, rfl⟩ ih
        obtain⟨x,hx⟩:=get_some (l:=a) (k:=k) (by omega)
        obtain⟨y,hy⟩:=get_some (l:=b) (k:=k) (by omega)
        have nJ:e1=3:=by rcases h1 with h|h;(rw[h]at hx;simp at hx);exact h
        have kV:e2=3:=by rcases h2 with h|h;(rw[h]at hy;simp at hy);exact h
        subst nJ;subst kV
        have ha:=cD (f:=aj) (o:=o1) (es:=3) hx
        have hb:=cD (f:=aj) (o:=o2) (es:=3) hy
        have xL:=l1.ok x (bU hx)
        have rr:=l2.ok y (bU hy)
        have sn:∀r,au AP (.fn 44) [.agg (aj x),.agg (aj y)] (s.push r)=some (I (pV x y),s.push r):=fun r=>aaS (hs.push r) xL.1 rr.1 xL.2 rr.2
        rw[eR hx,eR hy,qC]
        simp only[aj,Sl.v]at sn ha hb
        by_cases hc:pV x y=0
        · have hd : decide (¬ pV x y = 0) = false := by simp [hc]
          rw[bM hc,ia]
          simp only[go_sem,Dm,g0,g1,g5,aS hk,ha,hb,sn,hd,bn,bK hk (show(a.length:Int)<_ by omega),simprocAttr]
          refine ih _ _ ?_
          exact⟨g0,g1,rfl,rfl⟩
        · have hd : decide (¬ pV x y = 0) = true := by simp [hc]
          rw[bX hc,kn]
          simp only[go_sem,Dm,g0,g1,g5,aS hk,ha,hb,sn,hd,bn,simprocAttr]
      · rintro ρ m ⟨g0, g1, g5, rfl⟩
        simp only[go_sem,Dm,Nb,g0,g5,bN,simprocAttr]
        rw[eZ,Al (by omega)];rfl
    have hd:decide (¬(a.length:Int)=(b.length:Int))=false:=by simp[fE]
    rw[aM (show AP 17=some A6 from rfl) rfl]
    simp only[go_sem,Na,hd,bn,simprocAttr]
    exact key 0 _ _ (bp _) ⟨rfl,rfl,rfl,rfl⟩
  · have tW : ∀ {a b : List P}, a.length ≠ b.length → qC a b = false := by
      intro a
      induction a with
      | nil => intro b h; cases b with
        |nil=>exact absurd rfl h
        |cons _ _=>rfl
      | cons x r ih => intro b h; cases b with
        |nil=>rfl
        |cons y t=>simp only[qC];rw[ih (b:=t) (by simpa using h),nq]
    have hd:decide (¬(a.length:Int)=(b.length:Int))=true:=by simp;omega
    rw[tW fE]
    rw[aM (show AP 17=some A6 from rfl) rfl]
    simp only[go_sem,Na,hd,bn,simprocAttr]
theorem RW {l:List P} {o:Own} {e:Nat} {i:Int} (he:l=[]∨e=3) (hl:l.length≤100000):au AP (.fn 10) [.slice o e (l.map aj),I i] s=some (I (dF (fun p:P=>decide (p.req=i)) l),s):=by
 have key:∀(k:Nat) ρ m,k≤l.length→(ρ 0=.slice o e (l.map aj)∧ρ 1=I i∧ρ 5=I k∧(∀j y,j<k→l[j]? =some y→decide (y.req=i)=false)∧m=s.push ⟨[],[]⟩)→
   go AP ago (.c (.loop Di)::ans) ⟨ρ,m⟩=some (I (dF (fun p:P=>decide (p.req=i)) l),s):=by
  refine cq l.length _ _ ?_ ?_
  ·rintro k ρ m hk ⟨h0,h1,h5,hp,rfl⟩ ih
   obtain⟨a,ha⟩:=get_some hk
   have he:e=3:=by rcases he with h|h;(rw[h]at ha;simp at ha);exact h
   subst he
   have hr:=cD (o:=o) (es:=3) (f:=aj) ha
   cases eL:decide (a.req=i)with
   |true=>
    simp only[go_sem,Di,h0,h1,h5,aS hk,hr,eL,simprocAttr]
    rw[tE ha eL hp]
   |false=>
    simp only[go_sem,Di,h0,h1,h5,aS hk,hr,eL,bK hk (show(l.length:Int)<_ by omega),simprocAttr]
    refine ih _ _ ?_
    refine⟨h0,h1,rfl,fun j y hj hy=>?_,rfl⟩
    by_cases e:j=k
    ·subst e;rw[ha]at hy;injection hy with hy;rw[←hy];exact eL
    ·exact hp j y (by omega) hy
  ·rintro ρ m ⟨h0,h1,h5,hp,rfl⟩
   simp only[go_sem,Di,M7,h0,h5,bN,simprocAttr]
   rw[u4 hp]
 rw[aM (show AP 10=some Eh from rfl) rfl]
 simp only[go_sem,Uj,simprocAttr]
 exact key 0 _ _ (bp _) ⟨rfl,rfl,rfl,fun j y hj=>absurd hj (df _),rfl⟩
def sR (n:Nat):Int→List Int→Int
 |_,[]=>0
 |last,a::t=>if wi a 0 (n-1)=true then(if last<a then sR n a t else 9)else 6
end
section
variable{s:ae}
def tA (x y:Int):Int:=if x<y then-1 else if y<x then 1 else 0
theorem Ol {x:Int}:au AP (.fn 106) [I x] s=some (B false,s):=by
 rw[aM (show AP 106=some D8 from rfl) rfl]
 simp(maxSteps:=1000000) only[go_sem,Ud,bn,eW,tB,simprocAttr]
theorem afi {x y:Int}:au AP (.fn 92) [I x,I y] s=some (I (tA x y),s):=by
 unfold tA
 by_cases h1:x<y
 ·rw[ak h1]
  have hd:decide (x<y)=true:=bM h1
  rw[aM (show AP 92=some yI from rfl) rfl]
  simp only[go_sem,It,Ol,hd,simprocAttr]
 ·rw[aq h1]
  have hd:decide (x<y)=false:=bX h1
  by_cases h2:y<x
  ·rw[ak h2]
   have ph:decide (y<x)=true:=bM h2
   rw[aM (show AP 92=some yI from rfl) rfl]
   simp only[go_sem,It,Ol,hd,ph,simprocAttr]
  ·rw[aq h2]
   have ph:decide (y<x)=false:=bX h2
   rw[aM (show AP 92=some yI from rfl) rfl]
   simp only[go_sem,It,Ol,hd,ph,simprocAttr]
def lg:List Int→List Int→Int
 |[],[]=>0
 |[],_::_=>-1
 |_::_,[]=>1
 |x::a,y::b=>if tA x y=0 then lg a b else tA x y
theorem JB {x y:Int}:tA x y=0↔x=y:=by unfold tA;split<;>(try split)<;>omega
theorem Zu:∀{a b:List Int},lg a b=0↔a=b
 |[],[]=>by simp[lg]
 |[],_::_=>by simp[lg]
 |_::_,[]=>by simp[lg]
 | x :: a, y :: b => by
  simp only[lg,v7]
  by_cases h:tA x y=0
  ·rw[ak h,Zu,JB.1 h];simp
  ·rw[aq h]
   exact⟨fun e=>absurd e h,fun e=>absurd (JB.2 e.1) h⟩
theorem auw {a b:List Int} {o1 o2:Own} {e1 e2:Nat} (h1:a=[]∨e1=1) (h2:b=[]∨e2=1) (la:(a.length:Int)<1000000) (lb:(b.length:Int)<1000000):
  au AP (.fn 68) [.slice o1 e1 (a.map aB),.slice o2 e2 (b.map aB)] s=some (I (lg a b),s):=by
 have key:∀k ρ m,k≤a.length→(ρ 0=.slice o1 e1 (a.map aB)∧ρ 1=.slice o2 e2 (b.map aB)∧ρ 9=.slice o1 e1 (a.map aB)∧ρ 10=I a.length∧ρ 11=I k∧k≤b.length∧m=s.push ⟨[],[]⟩)→
   go AP agF (.c (.loop yA)::aoa) ⟨ρ,m⟩=some (I (lg (a.drop k) (b.drop k)),s):=by
  refine cq a.length _ (fun k=>some (I (lg (a.drop k) (b.drop k)),s)) ?_ ?_
  ·rintro k ρ m hk ⟨g0,g1,g9,g10,g11,PT,rfl⟩ ih
   obtain⟨x,hx⟩:=get_some hk
   have ej:e1=1:=by rcases h1 with h|h;(rw[h]at hx;simp at hx);exact h
   subst ej
   have hr:=cD (f:=aB) (o:=o1) (es:=1) hx
   have YQ:a.drop k=x::a.drop (k+1):=eR hx
   have oJ:=bK hk (show(a.length:Int)<_ by omega)
   by_cases hb:k<b.length
   ·obtain⟨y,hy⟩:=get_some hb
    have ej:e2=1:=by rcases h2 with h|h;(rw[h]at hy;simp at hy);exact h
    subst ej
    have iA:=cD (f:=aB) (o:=o2) (es:=1) hy
    have hyd:b.drop k=y::b.drop (k+1):=eR hy
    have nK:decide ((b.length:Int)≤(k:Int))=false:=bX (by omega)
    have hc:∀m:ae,au AP (.fn 92) [I x,I y] m=some (I (tA x y),m):=fun m=>afi
    rw[YQ,hyd]
    simp only[lg]
    by_cases h0:tA x y=0
    ·rw[ak h0]
     rw[h0]at hc
     simp only[go_sem,yA,g1,g9,g10,g11,aS hk,hr,iA,nK,hc,oJ,bn,eW,simprocAttr]
     refine ih _ _ ?_
     exact⟨g0,g1,g9,g10,rfl,by omega,rfl⟩
    ·rw[aq h0]
     simp only[go_sem,yA,g1,g9,g10,g11,aS hk,hr,iA,nK,hc,h0,bn,iC,simprocAttr]
   ·have nK:decide ((b.length:Int)≤(k:Int))=true:=bM (by omega)
    rw[YQ,S7 (as:=b) (i:=k) (by omega)]
    simp only[lg]
    simp only[go_sem,yA,g1,g9,g10,g11,aS hk,hr,nK,simprocAttr]
  ·rintro ρ m ⟨g0,g1,g9,g10,g11,PT,rfl⟩
   rw[eZ]
   by_cases hb:a.length<b.length
   ·have hd:decide ((a.length:Int)<(b.length:Int))=true:=bM (by omega)
    obtain⟨y,hy⟩:=get_some hb
    rw[eR hy]
    simp only[lg]
    simp only[go_sem,yA,Jd,g0,g1,g10,g11,bN,hd,simprocAttr]
   ·have hd:decide ((a.length:Int)<(b.length:Int))=false:=bX (by omega)
    rw[S7 (as:=b) (i:=a.length) (by omega)]
    simp only[lg]
    simp only[go_sem,yA,Jd,g0,g1,g10,g11,bN,hd,simprocAttr]
 rw[aM (show AP 68=some E9 from rfl) rfl]
 simp only[go_sem,UX,simprocAttr]
 refine key 0 _ _ (bp _) ?_
 exact⟨rfl,rfl,rfl,rfl,rfl,bp _,rfl⟩
def kS (p q:P):Int:=if p.req=q.req then(if p.start=q.start then lg p.an.l q.an.l else p.start-q.start)else p.req-q.req
theorem Bk {p q:P}:kS p q=0↔kP p=kP q:=by
 unfold kS kP
 by_cases h1:p.req=q.req
 ·rw[ak h1]
  by_cases h2:p.start=q.start
  ·rw[ak h2,Zu,h1,h2];simp
  ·rw[aq h2]
   exact⟨fun e=>by omega,fun e=>by simp at e;exact absurd e.2.1 h2⟩
 ·rw[aq h1]
  exact⟨fun e=>by omega,fun e=>by simp at e;exact absurd e.1 h1⟩
theorem Si {p q:P} (hs:Ok s) (hp:p.an.ok 1) (hq:q.an.ok 1) (lp:p.an.l.length≤1000) (lq:q.an.l.length≤1000)
  (b1:-1000000≤p.req∧p.req≤1000000) (b2:-1000000≤q.req∧q.req≤1000000) (b3:-1000000≤p.start∧p.start≤1000000) (b4:-1000000≤q.start∧q.start≤1000000):
  au AP (.fn 38) [.agg (aj p),.agg (aj q)] s=some (I (kS p q),s):=by
 have hz:∀m:ae,au AP (.fn 68) [p.an.v aB,q.an.v aB] m=some (I (lg p.an.l q.an.l),m):=fun m=>auw hp.1 hq.1 (by omega) (by omega)
 have w1:IntKind.i64.wrap (p.req-q.req)=p.req-q.req:=ch (by omega) (by omega)
 have w2:IntKind.i64.wrap (p.start-q.start)=p.start-q.start:=ch (by omega) (by omega)
 unfold kS
 simp only[Sl.v]at hz
 by_cases h1:p.req=q.req
 ·rw[ak h1]
  have d1:decide (p.req=q.req)=true:=bM h1
  by_cases h2:p.start=q.start
  ·rw[ak h2]
   have d2:decide (p.start=q.start)=true:=bM h2
   rw[aM (show AP 38=some yM from rfl) rfl]
   simp only[go_sem,I1,d1,d2,bn,r7,nZ,hz,simprocAttr]
  ·rw[aq h2]
   have d2:decide (p.start=q.start)=false:=bX h2
   rw[aM (show AP 38=some yM from rfl) rfl]
   simp only[go_sem,I1,d1,d2,bn,r7,nZ,nY,w2,simprocAttr]
 ·rw[aq h1]
  have d1:decide (p.req=q.req)=false:=bX h1
  rw[aM (show AP 38=some yM from rfl) rfl]
  simp only[go_sem,I1,d1,bn,r7,nY,w1,simprocAttr]
end
section
variable{w:W}
def zs (w:W):List P→List P→Prop
 |_,[]=>True
 |a,p::b=>ed w p a=0∧zs w (a++[p]) b
theorem acg:∀{b a:List P},(∀(j:Nat) x,b[j]? =some x→ed w x (a++b.take j)=0)→zs w a b
 |[],_,_=>trivial
 | p :: b, a, h => by
  refine⟨?_,acg fun j x hj=>?_⟩
  ·have:=h 0 p rfl;simpa using this
  ·have:=h (j+1) x hj
   rw[gN];exact this
theorem acf:∀{b a:List P} {l:List P},l=a++b→zs w a b→eJ (fun i x=>ed w x (l.take i)) a.length b=none
 |[],_,_,_,_=>rfl
 |p::b,a,l,hl,h=>by
  simp only[eJ]
  have e:l.take a.length=a:=by rw[hl,List.take_left]
  rw[e,ak h.1]
  have:=acf (b:=b) (a:=a++[p]) (l:=l) (by rw[hl,gN];rfl) h.2
  rw[cu]at this
  exact this
theorem aeZ {l:List P} (h:zs w [] l):fh w l=(0,0):=by
 have:=acf (b:=l) (a:=[]) (l:=l) rfl h
 unfold fh
 rw[show([]:List P).length=0 from rfl]at this
 rw[this]
theorem arb {p:P} {a:List P} (h:ed w p a=0):iV a<p.req∧cK w p a=false:=by
 unfold ed at h
 by_cases c1:wi p.req 0 (w.rs.l.length-1)=true
 ·rw [ak c1] at h
  by_cases c2:iV a<p.req
  ·refine⟨c2,?_⟩
   rw[ak c2]at h
   by_cases c3:wi p.start (w.rq p.req).lo ((w.rq p.req).hi+1-(w.rq p.req).len)=true
   ·rw [ak c3] at h
    by_cases c4:(p.an.l.length:Int)=(w.rq p.req).need
    ·rw[ak c4]at h
     by_cases c5:fG (w.rq p.req) (-1) p.an.l=0
     ·rw[ak c5]at h
      by_cases c6:(p.an.l.any fun a=>!dc w a p.start (w.rq p.req).len)=true
      ·rw[ak c6]at h;exact absurd h (by decide)
      ·rw[aq c6]at h
       cases hc:cK w p a with
       |false=>rfl
       |true=>rw[hc]at h;exact absurd h (by decide)
     ·rw[aq c5]at h;exact absurd h c5
    ·rw[aq c4]at h;exact absurd h (by decide)
   ·rw[aq c3]at h;exact absurd h (by decide)
  ·rw[aq c2]at h;exact absurd h (by decide)
 ·rw[aq c1]at h;exact absurd h (by decide)
theorem aos {a b:List P} (h:b≠[]):iV (a++b)=iV b:=by
 unfold iV
 rw[List.getLast?_append,List.getLast?_eq_some_getLast h];rfl
theorem ach:∀{b a:List P},zs w a b→b≠[]→iV a+b.length<w.rs.l.length
 |[],_,_,h=>absurd rfl h
 | p :: b, a, h, _ => by
  have h1:=(arb h.1).1
  have h2:=aaw h.1
  by_cases hb:b=[]
  ·subst hb;simp;omega
  ·have:=ach h.2 hb
   rw[aos (by simp)]at this
   have e:iV [p]=p.req:=rfl
   rw[e]at this
   simp only[eo]
   omega
theorem auQ (hw:Wk w) {l:List P} (h:zs w [] l):l.length≤12:=by
 have dJ:=hw.v.rl
 by_cases hl:l=[]
 ·subst hl;simp
 ·have:=ach h hl
  have e:iV ([]:List P)=-1:=rfl
  rw[e]at this
  omega
theorem TN {r:R}:∀{g:List Int} {k:Int},g.Pairwise (· <·)→(∀a∈g,a∈r.an.l∧k<a)→fG r k g=0
 |[],_,_,_=>rfl
 |a::t,k,hp,h=>by
  have ha:=h a (by simp)
  have hm:(r.an.l.any fun b=>decide (a=b))=true:=eA.2 ⟨a,ha.1,by simp⟩
  simp only[fG]
  rw[ak hm,ak ha.2]
  exact TN (S5 hp) fun b hb=>⟨(h b (iI _ hb)).1,acw hp hb⟩
theorem arc (hw:Wk w) {i:Int} (h0:0≤i) (h1:i<w.rs.l.length) {x:P} (hx:x∈dA w i) {a:List P} (hl:iV a<i) (hc:cK w x a=false):ed w x a=0:=by
 obtain⟨dI,hr,rj,xF,hn,_,jn,cd⟩:=kg hw h0 h1 hx
 have hq:=hw.rq h0 h1
 unfold ed
 rw[hr]
 rw[ak (iE.2 ⟨h0,by omega⟩),ak hl,ak (iE.2 ⟨rj,by omega⟩),ak hn]
 have Pk:fG (w.rq i) (-1) x.an.l=0:=TN (hq.Ia.sublist jn) fun b hb=>⟨jn.subset hb,by have:=(hq.tq b (jn.subset hb)).1;omega⟩
 have gy:¬(x.an.l.any fun a=>!dc w a x.start (w.rq i).len)=true:=by
  rw[eA]
  rintro⟨b,hb,h⟩
  rw[cd b hb]at h;exact absurd h (by decide)
 rw[ak Pk,aq gy,hc]
 rfl
end
section
variable{w:W}
theorem arw {i st:Int} (h0:0≤i) (h1:i<w.rs.l.length):ni (cW w) i st=ni w i st:=by
 unfold ni uh
 rw[wL h0 h1]
 simp only[Z9]
 rfl
theorem aaF {i:Int} (h0:0≤i) (h1:i<w.rs.l.length):∀{n:Nat} {st:Int},jJ (cW w) i st n=jJ w i st n
 |0,_=>rfl
 |n+1,st=>by simp only[jJ];rw[arw h0 h1,aaF h0 h1]
theorem arz {i:Int} (h0:0≤i) (h1:i<w.rs.l.length):dA (cW w) i=dA w i:=by
 unfold dA
 rw[aaF h0 h1,wL h0 h1];rfl
theorem arq (hw:Wk w) {l:List P} {i:Int} (h0:0≤i) (h1:i<w.rs.l.length) (hl:∀x∈l,0≤x.req∧x.req<w.rs.l.length):bS (cW w) (l.map cP) i=bS w l i:=by
 unfold bS
 rw[arz h0 h1]
 apply HE
 intro x hx
 obtain⟨dI,hr,_,_,_,Pk,_⟩:=kg hw h0 h1 hx
 have sF:cP x=x:=by
  unfold cP;rw[←Pk]
 have:=VV (w:=w) (p:=x) (l:=l) dI.r0 dI.r1 hl
 rw[sF]at this
 rw[this]
end
theorem Zt:∀{a b c:List Int},lexB a b=true→lexB b c=true→lexB a c=true
 |[],_,[],_,h=>by cases ‹List Int› <;>simp[lexB]at h
 |[],_,_::_,_,_=>rfl
 |_::_,[],_,h,_=>by simp[lexB]at h
 |x::a,y::b,[],_,h=>by simp[lexB]at h
 | x :: a, y :: b, z :: c, h1, h2 => by
  simp only[lexB]at h1 h2⊢
  by_cases eM:x=y
  ·subst eM
   rw[ak rfl]at h1
   by_cases ru:x=z
   ·subst ru
    rw[ak rfl]at h2⊢
    exact Zt h1 h2
   ·rw[aq ru]at h2⊢;exact h2
  ·rw[aq eM,dU]at h1
   by_cases ru:y=z
   ·subst ru
    rw[aq eM];simpa using h1
   ·rw[aq ru,dU]at h2
    rw[aq (by omega)];simp;omega
theorem Re:∀{a b:List Int},lexB a b=false→lexB b a=false→a=b
 |[],[],_,_=>rfl
 |[],_::_,h,_=>by simp[lexB]at h
 |_::_,[],_,h=>by simp[lexB]at h
 | x :: a, y :: b, h1, h2 => by
  simp only[lexB]at h1 h2
  by_cases eM:x=y
  ·subst eM
   rw[ak rfl]at h1 h2
   rw[Re h1 h2]
  ·rw[aq eM,r5]at h1
   rw[aq (fun e=>eM (rN e)),r5]at h2
   omega
theorem O4:∀{k:Nat} {l:List Int},l.Pairwise (· <·)→(aV k l).Pairwise fun a b=>lexB a b=true
 |0,_,_=>by simp[aV]
 |_+1,[],_=>by simp[aV]
 | k + 1, x :: r, h => by
  simp only[aV]
  rw[gp]
  refine⟨?_,O4 (S5 h),?_⟩
  ·rw[qE]
   refine(O4 (k:=k) (S5 h)).imp fun fE=>?_
   simp only[lexB,bP];exact fE
  ·intro a ha b hb
   obtain⟨g,hg,rfl⟩:=cz.1 ha
   have cG:=qU hb
   cases b with
   |nil=>simp at cG
   |cons y t=>
    have hy:y∈r:=(BE hb).subset (by simp)
    have eM:=acw h hy
    simp only[lexB]
    rw[aq (by omega)];simpa using eM
section
variable{w:W}
theorem Rf {x:Int} {a b:List Int}:lexB (x::a) (x::b)=lexB a b:=by simp only[lexB,bP]
theorem ary {i st:Int} (hq:(w.rq i).an.l.Pairwise (· <·)):(ni w i st).Pairwise fun a b=>lexB (kP a) (kP b)=true:=by
 unfold ni
 rw[qE]
 refine(O4 (List.Pairwise.sublist Td hq)).imp fun fE=>?_
 show lexB (i::st::_) (i::st::_)=true
 rw[Rf,Rf];exact fE
theorem aaI {i:Int} (hq:(w.rq i).an.l.Pairwise (· <·)):∀{n:Nat} {st:Int},(jJ w i st n).Pairwise fun a b=>lexB (kP a) (kP b)=true
 |0,_=>List.Pairwise.nil
 |n+1,st=>by
  simp only[jJ]
  rw[gp]
  refine⟨ary hq,aaI hq,?_⟩
  intro a ha b hb
  obtain⟨t,h1,_,h3⟩:=RO hb
  obtain⟨g,_,rfl⟩:=cz.1 ha
  obtain⟨g2,_,rfl⟩:=cz.1 h3
  show lexB (i::st::_) (i::t::_)=true
  rw[Rf]
  simp only[lexB]
  rw[aq (by omega)];simp;omega
theorem aaJ (hw:Wk w) {i:Int} (h0:0≤i) (h1:i<w.rs.l.length):(dA w i).Pairwise fun a b=>lexB (kP a) (kP b)=true:=aaI (hw.rq h0 h1).Ia
end
def cw:List P→List P→Bool
 |[],[]=>false
 |[],_::_=>true
 |_::_,[]=>false
 |x::r,y::t=>if kP x=kP y then cw r t else lexB (kP x) (kP y)
theorem N6:∀{l:List P},cw l l=false
 |[]=>rfl
 |x::r=>by simp only[cw,bP];exact N6
theorem DT:∀{a b c:List P},cw a b=true→cw b c=true→cw a c=true
 |[],_,[],_,h=>by cases ‹List P› <;>simp[cw]at h
 |[],_,_::_,_,_=>rfl
 |_::_,[],_,h,_=>by simp[cw]at h
 |x::a,y::b,[],_,h=>by simp[cw]at h
 | x :: a, y :: b, z :: c, h1, h2 => by
  simp only[cw]at h1 h2⊢
  by_cases eM:kP x=kP y
  ·rw[ak eM]at h1
   rw[eM]
   by_cases ru:kP y=kP z
   ·rw[ak ru]at h2⊢
    exact DT h1 h2
   ·rw[aq ru]at h2⊢;exact h2
  ·rw[aq eM]at h1
   by_cases ru:kP y=kP z
   ·rw[aq (by rw[←ru];exact eM),←ru];exact h1
   ·rw[aq ru]at h2
    have h3:=Zt h1 h2
    rw[aq (by intro e;rw[e,zL]at h3;exact absurd h3 (by decide))];exact h3
theorem N7:∀{a b:List P},cw a b=false→cw b a=false→a.map kP=b.map kP
 |[],[],_,_=>rfl
 |[],_::_,h,_=>by simp[cw]at h
 |_::_,[],_,h=>by simp[cw]at h
 | x :: a, y :: b, h1, h2 => by
  simp only[cw]at h1 h2
  by_cases eM:kP x=kP y
  ·rw[ak eM]at h1
   rw[ak (rN eM)]at h2
   rw[iH,iH,eM,N7 h1 h2]
  ·rw[aq eM]at h1
   rw[aq (fun e=>eM (rN e))]at h2
   exact absurd (Re h1 h2) eM
theorem AZ:∀{a b c:List P},cw (a++b) (a++c)=cw b c
 |[],_,_=>rfl
 |x::a,b,c=>by simp only[l5,cw,bP];exact AZ
theorem Vc {a c:List P} (h:c≠[]):cw a (a++c)=true:=by
 have:=AZ (a:=a) (b:=[]) (c:=c)
 rw[iG]at this
 rw[this]
 cases c with
 |nil=>exact absurd rfl h
 |cons _ _=>rfl
theorem VQ {p q:P}:pV p q=0↔kP p=kP q:=by
 refine⟨fun h=>?_,afg⟩
 unfold pV at h
 cases h1:lexB (kP p) (kP q)with
 |true=>rw[h1,ak rfl]at h;exact absurd h (by decide)
 |false=>
  rw[h1,aq (by decide)]at h
  cases h2:lexB (kP q) (kP p)with
  |true=>rw[h2,ak rfl]at h;exact absurd h (by decide)
  |false=>exact Re h1 h2
def dS (a b:List P) (i:Int):Bool:=!decide ((aL a i).map kP=(aL b i).map kP)
def mW (l:List ByteArray) (x:ByteArray):Bool:=l.any fun m=>decide (m=x)
def iY (w:W) (a b:List P):Nat→List ByteArray
 |0=>[]
 |k+1=>if(dS a b (k:Int)&&!mW (iY w a b k) (w.rq (k:Int)).bJ)=true then iY w a b k++[(w.rq (k:Int)).bJ]else iY w a b k
theorem SC {w:W} {a b:List P}:∀{k:Nat},(iY w a b k).length≤k
 |0=>aH _
 |k+1=>by
  have ih:=SC (w:=w) (a:=a) (b:=b) (k:=k)
  simp only[iY]
  split
  ·rw[cu,yf];omega
  ·omega
section
variable{s:ae} {w:W}
theorem auM {l:List ByteArray} {o:Own} {e:Nat} {x:ByteArray} (he:l=[]∨e=1) (hl:l.length≤100000):au AP (.fn 71) [.slice o e (l.map mG),S x] s=some (I (dF (fun m=>decide (m=x)) l),s):=by
 have key:∀k ρ m,k≤l.length→(ρ 0=.slice o e (l.map mG)∧ρ 1=S x∧ρ 7=I l.length∧ρ 8=I k∧(∀j y,j<k→l[j]? =some y→decide (y=x)=false)∧m=s.push ⟨[],[]⟩)→go AP agM (.c (.loop DR)::aoh) ⟨ρ,m⟩=some (I (dF (fun m=>decide (m=x)) l),s):=by
  refine cq l.length _ _ ?_ ?_
  ·rintro k ρ m hk ⟨h0,h1,h7,h8,hp,rfl⟩ ih
   obtain⟨a,ha⟩:=get_some hk
   have he:e=1:=by rcases he with h|h;(rw[h]at ha;simp at ha);exact h
   subst he
   have hr:=cD (o:=o) (es:=1) (f:=mG) ha
   have oJ:=bK hk (show(l.length:Int)<_ by omega)
   by_cases eL:a=x
   ·have hd:decide (x=a)=true:=bM eL.symm
    simp(maxSteps:=1000000) only[go_sem,DR,DS,h0,h1,h7,h8,aS hk,hr,hd,oJ,Nat.reduceEqDiff,reduceCtorEq,Nat.reduceAdd,Nat.reduceMul,Nat.reduceSub,Int.reduceLT,Int.reduceLE,Int.reduceEq,Int.reduceAdd,Int.reduceSub,Int.reduceNeg,Int.reduceToNat,cQ,↓reduceIte]
    rw[tE ha (bM eL) hp]
   ·have hd:decide (x=a)=false:=bX fun e=>eL e.symm
    simp(maxSteps:=1000000) only[go_sem,DR,DS,h0,h1,h7,h8,aS hk,hr,hd,oJ,Nat.reduceEqDiff,reduceCtorEq,Nat.reduceAdd,Nat.reduceMul,Nat.reduceSub,Int.reduceLT,Int.reduceLE,Int.reduceEq,Int.reduceAdd,Int.reduceSub,Int.reduceNeg,Int.reduceToNat,cQ,↓reduceIte]
    refine ih _ _ ?_
    refine⟨h0,h1,h7,rfl,fun j y hj hy=>?_,rfl⟩
    by_cases e:j=k
    ·subst e;rw[ha]at hy;injection hy with hy;rw[←hy];exact bX eL
    ·exact hp j y (by omega) hy
  ·rintro ρ m ⟨h0,h1,h7,h8,hp,rfl⟩
   simp(maxSteps:=1000000) only[go_sem,DR,DS,h0,h7,h8,bN,Nat.reduceEqDiff,reduceCtorEq,Nat.reduceAdd,Nat.reduceMul,Nat.reduceSub,Int.reduceLT,Int.reduceLE,Int.reduceEq,Int.reduceAdd,Int.reduceSub,Int.reduceNeg,Int.reduceToNat,cQ,↓reduceIte]
   rw[u4 hp]
 rw[aM (show AP 71=some Fo from rfl) rfl]
 simp(maxSteps:=1000000) only[go_sem,Va,Nat.reduceEqDiff,reduceCtorEq,Nat.reduceAdd,Nat.reduceMul,Nat.reduceSub,Int.reduceLT,Int.reduceLE,Int.reduceEq,Int.reduceAdd,Int.reduceSub,Int.reduceNeg,Int.reduceToNat,cQ,↓reduceIte]
 exact key 0 _ _ (bp _) ⟨rfl,rfl,rfl,rfl,fun j y hj=>absurd hj (df _),rfl⟩
theorem auD {l:List ByteArray} {o:Own} {e:Nat} {x:ByteArray} (he:l=[]∨e=1) (hl:l.length≤100000):au AP (.fn 43) [.slice o e (l.map mG),S x] s=some (B (mW l x),s):=by
 have h:=auM (s:=s.push ⟨[],[]⟩) (o:=o) (x:=x) he hl
 rw[aM (show AP 43=some Fh from rfl) rfl]
 simp(maxSteps:=1000000) only[go_sem,U4,h,yW,Nat.reduceEqDiff,reduceCtorEq,Nat.reduceAdd,Nat.reduceMul,Nat.reduceSub,Int.reduceLT,Int.reduceLE,Int.reduceEq,Int.reduceAdd,Int.reduceSub,Int.reduceNeg,Int.reduceToNat,cQ,↓reduceIte]
 rfl
theorem adL {l:List ByteArray} {o:Own} {e:Nat} {x:ByteArray} (he:l=[]∨e=1) (hl:l.length≤100000):
  au AP (.fn 16) [.slice o e (l.map mG),S x] s=some (B (mW l x),s):=by
 have key:∀(k:Nat) ρ m,k≤l.length→(ρ 0=.slice o e (l.map mG)∧ρ 1=S x∧ρ 5=I k∧m=s.push ⟨[],[]⟩)→go AP agh (.c (.loop C7)::am5) ⟨ρ,m⟩=some (B (mW (l.drop k) x),s):=by
  refine cq l.length _ (fun k=>some (B (mW (l.drop k) x),s)) ?_ ?_
  ·rintro k ρ m hk ⟨h0,h1,h5,rfl⟩ ih
   obtain⟨a,ha⟩:=get_some hk
   have he:e=1:=by rcases he with h|h;(rw[h]at ha;simp at ha);exact h
   subst he
   have hr:=cD (o:=o) (es:=1) (f:=mG) ha
   have oJ:=bK hk (show(l.length:Int)<_ by omega)
   have hn:mW (l.drop k) x=(decide (a=x)||mW (l.drop (k+1)) x):=by
    rw[eR ha];rfl
   rw[hn]
   cases hd:decide (a=x)with
   |true=>simp(maxSteps:=1000000) only[go_sem,C7,h0,h1,h5,aS hk,hr,hd,oJ,Nat.reduceEqDiff,reduceCtorEq,Nat.reduceAdd,Nat.reduceMul,Nat.reduceSub,Int.reduceLT,Int.reduceLE,Int.reduceEq,Int.reduceAdd,Int.reduceSub,Int.reduceNeg,Int.reduceToNat,cQ,↓reduceIte];rfl
   |false=>
    simp(maxSteps:=1000000) only[go_sem,C7,h0,h1,h5,aS hk,hr,hd,oJ,Nat.reduceEqDiff,reduceCtorEq,Nat.reduceAdd,Nat.reduceMul,Nat.reduceSub,Int.reduceLT,Int.reduceLE,Int.reduceEq,Int.reduceAdd,Int.reduceSub,Int.reduceNeg,Int.reduceToNat,cQ,↓reduceIte]
    refine(ih _ _ ?_).trans ?_
    ·exact⟨h0,h1,rfl,rfl⟩
    ·rfl
  ·rintro ρ m ⟨h0,h1,h5,rfl⟩
   rw[eZ]
   simp(maxSteps:=1000000) only[go_sem,C7,MQ,h0,h1,h5,bN,Nat.reduceEqDiff,reduceCtorEq,Nat.reduceAdd,Nat.reduceMul,Nat.reduceSub,Int.reduceLT,Int.reduceLE,Int.reduceEq,Int.reduceAdd,Int.reduceSub,Int.reduceNeg,Int.reduceToNat,cQ,↓reduceIte]
   rfl
 rw[aM (show AP 16=some D0 from rfl) rfl]
 simp(maxSteps:=1000000) only[go_sem,T6,Nat.reduceEqDiff,reduceCtorEq,Nat.reduceAdd,Nat.reduceMul,Nat.reduceSub,Int.reduceLT,Int.reduceLE,Int.reduceEq,Int.reduceAdd,Int.reduceSub,Int.reduceNeg,Int.reduceToNat,cQ,↓reduceIte]
 exact key 0 _ _ (bp _) ⟨rfl,rfl,rfl,rfl⟩
theorem RJ {l:List P} {i:Int} {p:P} (h:aL l i=some p):p∈l∧p.req=i:=by
 unfold aL at h
 exact⟨Mg h,by have:=L8 h;simpa using this⟩
theorem SU:bY.an.ok 1:=⟨.inl rfl,.inr (.inr ⟨rfl,rfl⟩)⟩
structure oR (l:List P):Prop where
 len:l.length≤1000
 ok:∀p∈l,p.an.ok 1∧p.an.l.length≤1000
 b:∀p∈l,(-1000000≤p.req∧p.req≤1000000)∧-1000000≤p.start∧p.start≤1000000
theorem asX {a b:List P} {o1 o2:Own} {e1 e2:Nat} {i:Int} (hs:Ok s) (h1:a=[]∨e1=3) (h2:b=[]∨e2=3) (ha:oR a) (hb:oR b):
  au AP (.fn 42) [.slice o1 e1 (a.map aj),.slice o2 e2 (b.map aj),I i] s=some (B (dS a b i),s):=by
 have la:=ha.len
 have lb:=hb.len
 have p1:∀m:ae,Ok m→au AP (.fn 65) [.slice o1 e1 (a.map aj),I i] m=some (.tuple [.agg (aj ((aL a i).getD bY)),B (aL a i).isSome],m):=fun m hm=>LA hm h1 (by omega) fun p h=>(ha.ok p h).1
 have p2:∀m:ae,Ok m→au AP (.fn 65) [.slice o2 e2 (b.map aj),I i] m=some (.tuple [.agg (aj ((aL b i).getD bY)),B (aL b i).isSome],m):=fun m hm=>LA hm h2 (by omega) fun p h=>(hb.ok p h).1
 have zok:∀(l:List P),oR l→(((aL l i).getD bY).an.ok 1∧((aL l i).getD bY).an.l.length≤1000)∧(-1000000≤((aL l i).getD bY).req∧((aL l i).getD bY).req≤1000000)∧-1000000≤((aL l i).getD bY).start∧((aL l i).getD bY).start≤1000000:=fun l hl=>by
  cases h:aL l i with
  |none=>exact⟨⟨SU,by simp[bY]⟩,by simp[bY],by simp[bY]⟩
  |some p=>have hm:=(RJ h).1;exact⟨hl.ok p hm,hl.b p hm⟩
 have za:=zok a ha
 have zb:=zok b hb
 have hc:∀m:ae,Ok m→au AP (.fn 38) [.agg (aj ((aL a i).getD bY)),.agg (aj ((aL b i).getD bY))] m=some (I (kS ((aL a i).getD bY) ((aL b i).getD bY)),m):=fun m hm=>
  Si hm za.1.1 zb.1.1 za.1.2 zb.1.2 za.2.1 zb.2.1 za.2.2 zb.2.2
 have dX:dS a b i=if(aL a i).isSome=(aL b i).isSome then !decide (kS ((aL a i).getD bY) ((aL b i).getD bY)=0)else true:=by
  unfold dS
  cases ea:aL a i with
  |none=>
   cases eb:aL b i with
   |none=>simp[Bk]
   |some q=>simp
  |some p=>
   cases eb:aL b i with
   |none=>simp
   |some q=>simp[Bk]
 rw[dX]
 have aP:∀p:P,p.an.ok 1→closeAll (aj p)=some (aj p):=fun p hp=>by
  simp only[aj,mf,oq,oV,Sl.close (f:=aB) hp];rfl
 generalize(aL a i).getD bY=pa at*
 generalize(aL b i).getD bY=pb at*
 generalize(aL a i).isSome=ta at*
 generalize(aL b i).isSome=tb at*
 have p1:=fun r=>p1 (s.push r) (hs.push r)
 have p2:=fun r=>p2 (s.push r) (hs.push r)
 have hc:=fun r=>hc (s.push r) (hs.push r)
 simp only[aj,Sl.v]at p1 p2 hc
 have kC:∀x y:Bool,pX .bool (B x) (B y)=some (x==y):=fun _ _=>rfl
 rw[aM (show AP 42=some EA from rfl) rfl]
 cases ta<;>cases tb
 ·simp only[bP]
  simp(maxSteps:=1000000) only[go_sem,DE,hs,p1,p2,hc,kC,bn,r7,vN,Vd,nZ,Nat.reduceEqDiff,reduceCtorEq,Nat.reduceAdd,Nat.reduceMul,Nat.reduceSub,Int.reduceLT,Int.reduceLE,Int.reduceEq,Int.reduceAdd,Int.reduceSub,Int.reduceNeg,Int.reduceToNat,cQ,↓reduceIte]
 ·simp only[ez,db]
  simp(maxSteps:=1000000) only[go_sem,DE,hs,p1,p2,hc,kC,bn,r7,vN,show(false==true)=false from rfl,nY,Nat.reduceEqDiff,reduceCtorEq,Nat.reduceAdd,Nat.reduceMul,Nat.reduceSub,Int.reduceLT,Int.reduceLE,Int.reduceEq,Int.reduceAdd,Int.reduceSub,Int.reduceNeg,Int.reduceToNat,cQ,↓reduceIte]
 ·simp only[Bool.true_eq_false,db]
  simp(maxSteps:=1000000) only[go_sem,DE,hs,p1,p2,hc,kC,bn,r7,vN,show(true==false)=false from rfl,nY,Nat.reduceEqDiff,reduceCtorEq,Nat.reduceAdd,Nat.reduceMul,Nat.reduceSub,Int.reduceLT,Int.reduceLE,Int.reduceEq,Int.reduceAdd,Int.reduceSub,Int.reduceNeg,Int.reduceToNat,cQ,↓reduceIte]
 ·simp only[bP]
  simp(maxSteps:=1000000) only[go_sem,DE,hs,p1,p2,hc,kC,bn,r7,vN,Vd,nZ,Nat.reduceEqDiff,reduceCtorEq,Nat.reduceAdd,Nat.reduceMul,Nat.reduceSub,Int.reduceLT,Int.reduceLE,Int.reduceEq,Int.reduceAdd,Int.reduceSub,Int.reduceNeg,Int.reduceToNat,cQ,↓reduceIte]
theorem ase {a b:List P} {o1 o2:Own} {e1 e2:Nat} {i:Int} (hs:Ok s) (h1:a=[]∨e1=3) (h2:b=[]∨e2=3) (la:a.length≤1000) (lb:b.length≤1000) (oa:∀p∈a,p.an.ok 1∧p.an.l.length≤1000) (ob:∀p∈b,p.an.ok 1∧p.an.l.length≤1000):
  au AP (.fn 47) [.slice o1 e1 (a.map aj),.slice o2 e2 (b.map aj),I i] s=some (B (dS a b i),s):=by
 have p1:∀m:ae,au AP (.fn 10) [.slice o1 e1 (a.map aj),I i] m=some (I (dF (fun p:P=>decide (p.req=i)) a),m):=fun m=>RW h1 (by omega)
 have p2:∀m:ae,au AP (.fn 10) [.slice o2 e2 (b.map aj),I i] m=some (I (dF (fun p:P=>decide (p.req=i)) b),m):=fun m=>RW h2 (by omega)
 have fa:=u5 (p:=fun p:P=>decide (p.req=i)) (l:=a)
 have fb:=u5 (p:=fun p:P=>decide (p.req=i)) (l:=b)
 have q1:decide ((-1:Int)<0)=true:=rfl
 have q2:decide ((0:Int)≤-1)=false:=rfl
 have q3:∀k:Nat,decide ((k:Int)<0)=false:=fun k=>by simp
 have q4:∀k:Nat,decide ((0:Int)≤(k:Int))=true:=fun k=>by simp
 rcases fa with⟨f1,f2⟩|⟨ka,pa,f1,f3,f2⟩
 ·have ea:aL a i=none:=f1
  rcases fb with⟨g1,g2⟩|⟨kb,pb,g1,g3,g2⟩
  ·have eb:aL b i=none:=g1
   have dX:dS a b i=false:=by unfold dS;rw[ea,eb];simp
   rw[f2]at p1
   rw[g2]at p2
   rw[dX]
   rw[aM (show AP 47=some wO from rfl) rfl]
   simp(maxSteps:=1000000) only[go_sem,Ds,p1,p2,q1,q2,vN,Nat.reduceEqDiff,reduceCtorEq,Nat.reduceAdd,Nat.reduceMul,Nat.reduceSub,Int.reduceLT,Int.reduceLE,Int.reduceEq,Int.reduceAdd,Int.reduceSub,Int.reduceNeg,Int.reduceToNat,cQ,↓reduceIte]
  ·have eb:aL b i=some pb:=g1
   have dX:dS a b i=true:=by unfold dS;rw[ea,eb];simp
   rw[f2]at p1
   rw[g2]at p2
   rw[dX]
   rw[aM (show AP 47=some wO from rfl) rfl]
   simp(maxSteps:=1000000) only[go_sem,Ds,p1,p2,q1,q2,q3,q4,vN,Nat.reduceEqDiff,reduceCtorEq,Nat.reduceAdd,Nat.reduceMul,Nat.reduceSub,Int.reduceLT,Int.reduceLE,Int.reduceEq,Int.reduceAdd,Int.reduceSub,Int.reduceNeg,Int.reduceToNat,cQ,↓reduceIte]
 ·have ea:aL a i=some pa:=f1
  rcases fb with⟨g1,g2⟩|⟨kb,pb,g1,g3,g2⟩
  ·have eb:aL b i=none:=g1
   have dX:dS a b i=true:=by unfold dS;rw[ea,eb];simp
   rw[f2]at p1
   rw[g2]at p2
   rw[dX]
   rw[aM (show AP 47=some wO from rfl) rfl]
   simp(maxSteps:=1000000) only[go_sem,Ds,p1,p2,q1,q2,q3,q4,vN,Nat.reduceEqDiff,reduceCtorEq,Nat.reduceAdd,Nat.reduceMul,Nat.reduceSub,Int.reduceLT,Int.reduceLE,Int.reduceEq,Int.reduceAdd,Int.reduceSub,Int.reduceNeg,Int.reduceToNat,cQ,↓reduceIte]
  ·have eb:aL b i=some pb:=g1
   have dX:dS a b i=!decide (pV pa pb=0):=by unfold dS;rw[ea,eb];simp[VQ]
   rw[f2]at p1
   rw[g2]at p2
   rw[dX]
   have nJ:e1=3:=by rcases h1 with h|h;(rw[h]at f3;simp at f3);exact h
   have kV:e2=3:=by rcases h2 with h|h;(rw[h]at g3;simp at g3);exact h
   subst nJ
   subst kV
   have r1:=cD (o:=o1) (es:=3) (f:=aj) f3
   have r2:=cD (o:=o2) (es:=3) (f:=aj) g3
   have ma:=bU f3
   have mb:=bU g3
   have hc:∀m:ae,Ok m→au AP (.fn 44) [.agg (aj pa),.agg (aj pb)] m=some (I (pV pa pb),m):=fun m hm=>aaS hm (oa pa ma).1 (ob pb mb).1 (oa pa ma).2 (ob pb mb).2
   have hc:=fun r=>hc (s.push r) (hs.push r)
   simp only[aj,Sl.v]at r1 r2 hc
   rw[aM (show AP 47=some wO from rfl) rfl]
   simp(maxSteps:=1000000) only[go_sem,Ds,hs,p1,p2,q3,q4,r1,r2,hc,vN,bn,r7,Nat.reduceEqDiff,reduceCtorEq,Nat.reduceAdd,Nat.reduceMul,Nat.reduceSub,Int.reduceLT,Int.reduceLE,Int.reduceEq,Int.reduceAdd,Int.reduceSub,Int.reduceNeg,Int.reduceToNat,cQ,↓reduceIte]
end
def Hu (w:W) (a b:List P):Int:=if(pJ w a).2=0 then(fh w b).2 else(pJ w a).2
section
variable{s:ae} {w:W}
theorem oR.of (hw:Wk w) {l:List P} (hl:jO l) (h:∀p∈l,bZ w p):oR l:=
 ⟨by have:=hl.len;omega,fun p hp=>⟨(hl.ok p hp).1,by have:=(hl.ok p hp).2;omega⟩,fun p hp=>by
  have h1:=h p hp
  have:=h1.r0;have:=h1.r1;have:=h1.s0;have:=h1.s1;have:=hw.v.rl
  omega⟩
theorem atK {x:ByteArray}:closeAll [S x]=some [S x]:=rfl
theorem asT {a b:List P} {o1 o2:Own} {e1 e2:Nat} (hs:Ok s) (hw:w.Ok) (hf:w.ju) (ha:jO a) (hb:jO b) (h1:a=[]∨e1=3) (h2:b=[]∨e2=3):
  au AP (.fn 15) [w.v,.agg [.slice o1 e1 (a.map aj),.slice o2 e2 (b.map aj)]] s=some (.tuple [aU 1 ((if Hu w a b=0 then iY w a b w.rs.l.length else[]).map mG),I (Hu w a b)],s):=by
 have ho:∀r,au AP (.fn 41) [w.v,.slice o1 e1 (a.map aj)] (s.push r)=some (.tuple [if(de w).2.2=0 then OW w else NP,I (pJ w a).1,I (pJ w a).2],s.push r):=fun r=>as0 (hs.push r) hw hf ha h1
 unfold Hu
 by_cases hz:(pJ w a).2=0
 ·have jo : (de w).2.2 = 0 := by
   unfold pJ at hz
   by_cases h:(de w).2.2=0
   ·exact h
   ·rw[aq h]at hz;exact absurd hz h
  have bW:Wk w:=⟨hw,hf,pL jo⟩
  have hza:(fh w a).2=0:=by unfold pJ at hz;rwa [ak jo]at hz
  have dX:∀r,au AP (.fn 31) [OW w,.slice o2 e2 (b.map aj)] (s.push r)=some (.tuple [I (fh w b).1,I (fh w b).2],s.push r):=fun r=>SH (hs.push r) bW hb h2
  rw[ak jo,hz]at ho
  simp only[hz,bP]
  by_cases GM:(fh w b).2=0
  ·simp only[GM,bP]
   have tka:=oR.of bW ha (VB bW ha hza)
   have tkb:=oR.of bW hb (VB bW hb GM)
   have dJ:=bW.v.rl
   have sk:∀(i:Int) (m:ae),Ok m→au AP (.fn 42) [.slice o1 e1 (a.map aj),.slice o2 e2 (b.map aj),I i] m=some (B (dS a b i),m):=fun i m hm=>asX hm h1 h2 tka tkb
   rw[GM]at dX
   have key:∀(k:Nat) ρ m,k≤w.rs.l.length→(ρ 3=.ptr s.ag.length 1 0∧ρ 33=w.rs.v bO∧ρ 34=I w.rs.l.length∧ρ 35=I k∧∃x og bx tk,Acc s.ag.length 1 ((iY w a b k).map mG) x og tk∧ρ 9=x∧m=s.push ⟨cJ w::[.slice o1 e1 (a.map aj),.slice o2 e2 (b.map aj)]::bx,tk⟩)→
     go AP agt (.c (.loop AQ)::anS) ⟨ρ,m⟩=some (.tuple [aU 1 ((iY w a b w.rs.l.length).map mG),I 0],s):=by
    refine cq w.rs.l.length _ _ ?_ ?_
    ·rintro k ρ m hk ⟨g3,w7,w8,FJ,x,og,bx,tk,hA,g9,rfl⟩ ih
     obtain⟨r,jA⟩:=get_some hk
     have hr:=Sl.ix (f:=bO) hw.rs jA
     have B4:w.rq (k:Int)=r:=by unfold W.rq;rw[CL,jA];rfl
     have oJ:=bK hk (show(w.rs.l.length:Int)<_ by omega)
     have sk:=fun r=>sk (k:Int) (s.push r) (hs.push r)
     have xv:=SC (w:=w) (a:=a) (b:=b) (k:=k)
     have iz:iY w a b (k+1)=if(dS a b (k:Int)&&!mW (iY w a b k) r.bJ)=true then iY w a b k++[r.bJ]else iY w a b k:=by simp only[iY];rw[B4]
     obtain⟨o9,e9,rfl,zg⟩:=C1 hA
     have zg:iY w a b k=[]∨e9=1:=by rcases zg with h|h;exact .inl (by simpa using h);exact .inr h
     have qc:∀m:ae,au AP (.fn 43) [.slice o9 e9 ((iY w a b k).map mG),S r.bJ] m=some (B (mW (iY w a b k) r.bJ),m):=fun m=>auD zg (by omega)
     generalize a.map aj=ZA at*
     generalize b.map aj=ZB at*
     simp only[bO,Sl.v]at hr w7
     cases hc:dS a b (k:Int)with
     |false=>
      rw[hc]at sk
      rw[hc,kn,aq (by decide)]at iz
      simp only[go_sem,AQ,g3,w7,w8,FJ,hs,aS hk,hr,sk,oJ,simprocAttr]
      refine ih _ _ ?_
      exact⟨g3,by simp only[Sl.v];exact w7,w8,rfl,_,og,_,tk,by rw[iz];exact hA,g9,rfl⟩
     | true =>
      rw[hc]at sk
      rw[hc,ia]at iz
      cases hh:mW (iY w a b k) r.bJ with
      |true=>
       rw[hh]at qc
       rw[hh,nZ,aq (by decide)]at iz
       simp only[go_sem,AQ,g3,g9,w7,w8,FJ,hs,aS hk,hr,sk,qc,oJ,simprocAttr]
       refine ih _ _ ?_
       exact⟨g3,by simp only[Sl.v];exact w7,w8,rfl,_,og,_,tk,by rw[iz];exact hA,g9,rfl⟩
      |false=>
       rw[hh]at qc
       rw[hh,nY,ak rfl]at iz
       obtain⟨x2,eY,ll,a1,a2,_⟩:=hA.append hs .full (ys:=[[S r.bJ]]) (by simp) (by rw[bR,yf];omega)
       simp only[go_sem,AQ,g3,g9,w7,w8,FJ,hs,aS hk,hr,sk,qc,oJ,a1,atK,simprocAttr]
       refine ih _ _ ?_
       refine⟨g3,by simp only[Sl.v];exact w7,w8,rfl,x2,eY,_,ll,?_,rfl,rfl⟩
       rw[iz,ib];exact a2
    ·rintro ρ m ⟨g3,w7,w8,FJ,x,og,bx,tk,hA,g9,rfl⟩
     have da:=fun m:ae=>hA.leave m
     obtain⟨o9,e9,rfl,zg⟩:=C1 hA
     generalize(iY w a b w.rs.l.length).map mG=Z at*
     simp only[go_sem,AQ,Nw,g9,w8,FJ,bN,da,simprocAttr]
   rw[aM (show AP 15=some yL from rfl) rfl]
   simp only[W.v,cJ,Sl.v,OW]at ho dX key⊢
   simp only[go_sem,IZ,ho,dX,bn,eW,simprocAttr]
   refine key 0 _ _ (bp _) ?_
   exact⟨rfl,rfl,rfl,rfl,_,none,[],[],Acc.start,rfl,rfl⟩
  ·simp only[GM,db]
   rw[aM (show AP 15=some yL from rfl) rfl]
   simp only[W.v,cJ,Sl.v,OW]at ho dX
   simp only[go_sem,IZ,ho,dX,GM,bn,iC,simprocAttr]
   rfl
 ·rw[aq hz]
  simp only[aq hz]
  rw[aM (show AP 15=some yL from rfl) rfl]
  simp only[W.v,cJ,Sl.v]at ho
  simp only[go_sem,IZ,ho,hz,bn,iC,simprocAttr]
  rfl
theorem Vy {a b:List P} {i:Int}:dS (a.map cP) (b.map cP) i=dS a b i:=by
 have h:∀l:List P,(aL (l.map cP) i).map kP=(aL l i).map kP:=fun l=>by
  unfold aL
  rw[List.find?_map,Mv]
  rfl
 unfold dS
 rw[h,h]
theorem abL {a b:List P}:∀{k:Nat},k≤w.rs.l.length→iY (cW w) (a.map cP) (b.map cP) k=iY w a b k
 |0,_=>rfl
 |k+1,hk=>by
  simp only[iY]
  rw[abL (by omega),Vy,wL (by omega) (by omega)]
  rfl
end
theorem G5 {d b off es n cap:Nat}:ld false (.aO d b off es n cap)=some (I (n:Int)):=rfl
theorem KX {d b es n:Nat} {i:Nat} (h:i<n):kH none es (.aO d b 0 es n 0) (I (i:Int))=some (.ptr d b (0+i*es)):=by
 have h1:idx (I (i:Int)) n=some i:=by simp[idx];omega
 simp[kH,h1]
theorem W3 {l:List P} {k:Nat} {p:P} (h:l[k]? =some p):qM (0+k*3) 3 (cB l)=some (aj p):=by
 obtain⟨A,B,rfl,rfl⟩:∃A B,l=A++p::B∧A.length=k:=by
  obtain⟨hk,he⟩:=bd.1 h
  refine⟨l.take k,l.drop (k+1),?_,by rw[fc];omega⟩
  rw[←he,List.getElem_cons_drop,HS]
 have hlen:=nC (l:=A++p::B)
 rw[cu,eo]at hlen
 rw[JH,ak (by omega),yY,FH,fN,←nC,List.drop_left]
 rfl
structure Cell (X:List AV→ae) (d b:Nat):Prop where
 box:∀r,(X r).box d b=some r
 set:∀r r',(X r).dL d b r'=X r'
 ro:∀r,(X r).ro≤d
 ok:∀r,Ok (X r)
section
variable{X:List AV→ae} {d b:Nat}
theorem Cell.lt (h:Cell X d b) (r:List AV):d<(X r).ag.length:=by
 apply n6
 intro hn
 have:=h.box r
 rw[ae.box,n8 (by omega)]at this;simp at this
theorem Cell.push (h:Cell X d b) (q:Rec):Cell (fun r=>(X r).push q) d b:=by
 refine⟨fun r=>fO (h.box r) q,fun r r'=>?_,h.ro,fun r=>(h.ok r).push q⟩
 rw[←h.set r r']
 have:=h.lt r
 simp only[ae.dL,ae.bu,ae.push,Ha this]
theorem Cell.store (h:Cell X d b) {q:Rec} {row:List AV} {off n:Nat} {y:AV} (hc:y.cells.all AV.bA=true) (hf:((X row).push q).fitAll d y.cells=some (y.cells,(X row).push q)) (hn:y.cells.length=n) (ho:off+n≤row.length):
  ((X row).push q).store n (.ptr d b off) y=some ((X (setCells row off y.cells)).push q):=by
 have aC:=h.lt row
 have aD:¬d=((X row).push q).cur:=by rw[fP];omega
 have bq:((X row).push q).ro≤d:=h.ro row
 have dw:((X row).push q).box d b=some row:=(h.push q).box row
 have cp:((X row).push q).dL d b (setCells row off y.cells)=(X (setCells row off y.cells)).push q:=(h.push q).set row (setCells row off y.cells)
 simp only[ae.store,bq,hn,hc,nx,bP,aD,db,hf,dw,ho,cp]
end
theorem abm {P Q R ys:List AV} (h:Q.length=ys.length):setCells (P++(Q++R)) P.length ys=P++(ys++R):=by
 induction Q generalizing P ys with
 |nil=>
  cases ys with
  |nil=>rfl
  |cons y t=>simp at h
 | cons x q ih =>
  cases ys with
  |nil=>simp at h
  |cons y t=>
   simp only[setCells,l5]
   rw[oO]
   have:=ih (P:=P++[y]) (ys:=t) (by simpa using h)
   simp only[cu,eo,ja,gN,l5,kq,fN]at this
   exact this
theorem Cell.atE {X:List AV→ae} {d b:Nat} (h:Cell X d b) {q:Rec} {A R:List P} {r p:P} (hp:p.an.ok 1) {n:Nat} (hn:n=A.length):
  ((X (cB (A++r::R))).push q).store 3 (.ptr d b (0+n*3)) (.agg (aj p))=some ((X (cB (A++p::R))).push q):=by
 subst hn
 have aP:(aj p).all AV.isClosed=true:=by
  simp only[aj,vZ,CM,qD]
  have:(p.an.v aB).isClosed=true:=by rcases hp.2 with h|h|h<;>simp[Sl.v,AV.isClosed,AV.iU,h]
  rw[this];rfl
 have hl:=nC (l:=A++r::R)
 rw[cu,eo]at hl
 have:=h.store (q:=q) (row:=cB (A++r::R)) (off:=0+A.length*3) (n:=3) (y:=.agg (aj p)) rfl (JU aP) rfl (by omega)
 rw[this]
 have e:setCells (cB (A++r::R)) (0+A.length*3) (aj p)=cB (A++p::R):=by
  rw[yY,FH,yY,FH,fN,←nC]
  exact abm rfl
 rw[show(AV.agg (aj p)).cells=aj p from rfl,e]
section
variable{s:ae} {w:W}
theorem auI {l:List P} {d b:Nat} {g:FuncId} {caps:List AV} {p:P→Bool} (hb:s.box d b=some (cB l)) (hl:(l.length:Int)<9223372036854775808)
  (hg:∀a∈l,∀r,au AP (.fn g) (.agg (aj a)::caps) (s.push r)=some (B (p a),s.push r)):au AP (.fn 90) [.aO d b 0 3 l.length 0,.fn g [] caps] s=some (I (dF p l),s):=by
 have key:∀k ρ m,k≤l.length→(ρ 0=.aO d b 0 3 l.length 0∧ρ 1=.fn g [] caps∧ρ 7=I l.length∧ρ 8=I k∧(∀j y,j<k→l[j]? =some y→p y=false)∧m=s.push ⟨[],[]⟩)→go AP WI (.c (.loop yB)::Ze) ⟨ρ,m⟩=some (I (dF p l),s):=by
  refine cq l.length _ _ ?_ ?_
  ·rintro k ρ m hk ⟨h0,h1,h7,h8,hp,rfl⟩ ih
   obtain⟨a,ha⟩:=get_some hk
   have hr:=KX (d:=d) (b:=b) (es:=3) hk
   have KB:=W3 ha
   have Pq:∀r,(s.push r).box d b=some (cB l):=fun r=>fO hb r
   simp only[go_sem,yB,h0,h1,h7,h8,aS hk,hr,Pq,KB,hg a (bU ha),bK hk hl,simprocAttr]
   cases eL:p a with
   |true=>
    simp only[fH]
    rw[tE ha eL hp]
   |false=>
    simp only[gR]
    refine ih _ _ ?_
    refine⟨h0,h1,h7,rfl,fun j y hj hy=>?_,rfl⟩
    by_cases e:j=k
    ·subst e;rw[ha]at hy;injection hy with hy;rw[←hy];exact eL
    ·exact hp j y (by omega) hy
  ·rintro ρ m ⟨h0,h1,h7,h8,hp,rfl⟩
   simp only[go_sem,yB,Jg,h7,h8,bN,simprocAttr]
   rw[u4 hp]
 rw[aM (show AP 90=some Bg from rfl) rfl]
 simp only[go_sem,N1,G5,simprocAttr]
 exact key 0 _ _ (bp _) ⟨rfl,rfl,rfl,rfl,fun j y hj=>absurd hj (df _),rfl⟩
def oY (n:Nat):List AV:=(List.replicate n [I 0,I 0,AV.slice .aA 0 []]).flatten
theorem W4 {n:Nat}:(oY n).length=n*3:=by simp[oY]
theorem ag7 {n:Nat}:oY n=cB (List.replicate n bY):=by
 unfold oY cB
 rw[List.map_replicate]
 rfl
theorem ae1 {d b n i:Nat} (h:i<n):gD (.sl 3) (.aO d b 0 3 n 0) (some (I (i:Int))) none none=some (.aO d b (0+i*3) 3 (n-i) (n-i)):=by
 have h1:asNat (AV.v (.int .i64 (i:Int))) n=some i:=by simp[asNat];omega
 have h2:¬n=i:=by omega
 simp only[gD,bP,pG,jS,Nat.max_zero,pR,ez,db,et,jG,h1,dE,h2]
theorem ae2 {d b n i:Nat} (h:i<n):gD (.sl 3) (.aO d b 0 3 n 0) none (some (I (i:Int))) none=some (.aO d b (0+0*3) 3 i n):=by
 have h1:asNat (AV.v (.int .i64 (i:Int))) n=some i:=by simp[asNat];omega
 have h2:¬n=0:=by omega
 simp only[gD,bP,pG,jS,Nat.max_zero,et,jG,h1,dE,h2,db,Tz]
theorem ag1 {α:Type} {p:α→Bool} {l:List α} {x y:α} {k j:Nat} (h1:l.find? p=some x) (h3:dF p l=k) (hj:j<k) (hy:l[j]? =some y):p y=false:=by
 cases hp:p y with
 |false=>rfl
 | true =>
  exfalso
  obtain⟨j0,y0,q1,q2,q3,q4⟩:∃j0 y0,l[j0]? =some y0∧p y0=true∧j0≤j∧∀i z,i<j0→l[i]? =some z→p z=false:=by
   induction j using Nat.strongRecOn generalizing y with
   | _ j ih =>
    by_cases fi:∀i z,i<j→l[i]? =some z→p z=false
    ·exact⟨j,y,hy,hp,aH _,fi⟩
    ·simp only[Classical.not_forall]at fi
     obtain⟨i,z,hi,hz,Ql⟩:=fi
     obtain⟨j0,y0,q1,q2,q3,q4⟩:=ih i hi (by omega) hz (by simpa using Ql)
     exact⟨j0,y0,q1,q2,by omega,q4⟩
  have:=tE q1 q2 q4
  rw[this]at h3
  omega
theorem auE {X : List AV → ae} {d b : Nat} {l : List P} {g : FuncId} {caps : List AV} {f : P → Bool} (hX : Cell X d b) (hl : l.length < 1000000) (gd : 0 < l.length) (bH : ∀ p ∈ l, p.an.ok 1)
    (hg:∀x∈l,∀row q,au AP (.fn g) (.agg (aj x)::caps) ((X row).push q)=some (B (f x),(X row).push q))
    (Kn:∀x∈l,∀row q q',au AP (.fn g) (.agg (aj x)::caps) (((X row).push q).push q')=some (B (f x),((X row).push q).push q')):
    ∃cap R,au AP (.fn 67) [.aO d b 0 3 l.length 0,.fn g [] caps] (X (cB l))=some (.aO d b 0 3 (l.filter fun x=>!f x).length cap,X (cB ((l.filter fun x=>!f x)++R)))∧(∀p∈R,p.an.ok 1)∧(cap=0→R=[]):=by
  have da:∀row q off n cap,ev ((X row).push q) (.aO d b off 3 n cap)=some (.aO d b off 3 n cap):=fun row q off n cap=>by
    have h1:=hX.lt row
    have h2:¬d=((X row).push q).cur:=by rw[fP];omega
    rw[show ev ((X row).push q) (.aO d b off 3 n cap)=eF ((X row).push q) (.aO d b off 3 n cap)from rfl]
    simp only[eF,h2,db]
  have cC:∀q,au AP (.fn 90) [.aO d b 0 3 l.length 0,.fn g [] caps] ((X (cB l)).push q)=some (I (dF f l),(X (cB l)).push q):=fun q=>auI ((hX.push q).box _) (by omega) fun a ha r=>Kn a ha _ q r
  rcases u5 (p:=f) (l:=l)with⟨h1,h2⟩|⟨k,x,h1,h2,h3⟩
  · -- none is deleted
    have xk:(l.filter fun x=>!f x)=l:=L7.2 fun x hx=>by
      have:=yb.1 h1 x hx
      simpa using this
    rw[h2]at cC
    rw[xk]
    refine⟨0,[],?_,(fun p h=>absurd h (by simp)),fun _=>rfl⟩
    rw[iG]
    have xy:decide ((-1:Int)=-1)=true:=by decide
    rw[aM (show AP 67=some yN from rfl) rfl]
    generalize cB l=Z at*
    simp only[go_sem,Je,cC,da,simprocAttr]
  · have hk : k < l.length := (bd.1 h2).1
    have hfx:f x=true:=L8 h1
    rw[h3]at cC
    have aiV:(l.take k).filter (fun x=>!f x)=l.take k:=L7.2 fun y hy=>by
      obtain⟨j,hj⟩:=n9 hy
      have vu:j<k:=by have:=(bd.1 hj).1;rw[fc]at this;omega
      rw[aco vu]at hj
      have:=ag1 h1 h3 vu hj
      simp[this]
    have hlen:∀j,((l.take j).filter fun x=>!f x).length≤j:=fun j=>kt (nu _ _) (by rw[fc];omega)
    have key:∀(j:Nat) ρ m,j≤l.length→(ρ 0=.aO d b 0 3 l.length 0∧ρ 1=.fn g [] caps∧ρ 6=I j∧ρ 5=I ((l.take j).filter fun x=>!f x).length∧((l.take j).filter fun x=>!f x).length<j∧
        ∃R bx,((l.take j).filter fun x=>!f x).length+R.length=j∧(∀p∈R,p.an.ok 1)∧m=(X (cB (((l.take j).filter fun x=>!f x)++(R++l.drop j)))).push ⟨bx,[]⟩)→
        ∃R,go AP agG (.c (.loop DQ)::aob) ⟨ρ,m⟩=some (.aO d b 0 3 (l.filter fun x=>!f x).length l.length,X (cB ((l.filter fun x=>!f x)++R)))∧∀p∈R,p.an.ok 1:=by
      intro j
      obtain⟨t,ht⟩:∃t,t=l.length-j:=⟨_,rfl⟩
      induction t generalizing j with
      | zero =>
        rintro ρ m hj ⟨g0,g1,g6,g5,aC,R,bx,hR,FU,rfl⟩
        obtain rfl:j=l.length:=by omega
        rw[jb]at g5 aC hR⊢
        rw[eZ,iG]
        generalize hA:(l.filter fun x=>!f x)=A at*
        have hd:decide (((l.length:Nat):Int)<(l.length:Int))=false:=by simp
        have rj:=ae1 (d:=d) (b:=b) (n:=l.length) (i:=A.length) aC
        have xF:=ae2 (d:=d) (b:=b) (n:=l.length) (i:=A.length) aC
        have hz : wT ((X (cB (A ++ R))).push ⟨bx, []⟩) [I 0, I 0, .slice .aA 0 []] (.aO d b (0 + A.length * 3) 3 (l.length - A.length) (l.length - A.length)) = some (.tuple [], (X (cB (A ++ List.replicate R.length bY))).push ⟨bx, []⟩) := by
          have aD:¬l.length-A.length=0:=by omega
          have XA:l.length-A.length=R.length:=by omega
          have cp:=hX.store (q:=⟨bx,[]⟩) (row:=cB (A++R)) (off:=0+A.length*3) (n:=(l.length-A.length)*3) (y:=.agg (oY (l.length-A.length)))
            (by show (oY _).all AV.bA = true
                unfold oY
                rw[j6]
                intro c hc
                obtain⟨r,hr,iu⟩:=uI.1 hc
                rw[S9 hr]at iu
                rcases er.1 iu with rfl|iu
                · rfl
                rcases er.1 iu with rfl|iu
                · rfl
                rw[dD.1 iu];rfl)
            (JU (by
                show(oY _).all AV.isClosed=true
                unfold oY
                rw[j6]
                intro c hc
                obtain⟨r,hr,iu⟩:=uI.1 hc
                rw[S9 hr]at iu
                rcases er.1 iu with rfl|iu
                · rfl
                rcases er.1 iu with rfl|iu
                · rfl
                rw[dD.1 iu];rfl))
            W4 (by rw[nC,cu];omega)
          have e:setCells (cB (A++R)) (0+A.length*3) (oY (l.length-A.length))=cB (A++List.replicate R.length bY):=by
            have:=abm (P:=cB A) (Q:=cB R) (R:=[]) (ys:=oY (l.length-A.length)) (by rw[nC,W4,XA])
            rw[iG,iG,nC]at this
            rw[yY,fN,this,XA,ag7,yY]
          rw[show(AV.agg (oY (l.length-A.length))).cells=oY (l.length-A.length)from rfl,e]at cp
          have XX:(List.replicate (l.length-A.length) [I 0,I 0,AV.slice .aA 0 []]).flatten=oY (l.length-A.length):=rfl
          simp only[wT,aD,db,eo,ja,fN,Nat.reduceAdd,bP,XX]at cp⊢
          rw[cp];rfl
        refine⟨List.replicate R.length bY,?_,fun p hp=>by rw[S9 hp];exact SU⟩
        generalize cB (A++List.replicate R.length bY)=Z2 at*
        generalize cB (A++R)=Z1 at*
        rw[go_loop]
        simp only[go_sem,DQ,NZ,g0,g6,g5,G5,hd,rj,xF,hz,da,simprocAttr]
      | succ t ih =>
        rintro ρ m hj ⟨g0,g1,g6,g5,aC,R,bx,hR,FU,rfl⟩
        have hZ:j<l.length:=by omega
        obtain⟨y,hy⟩:=get_some hZ
        have YX:=bU hy
        have qj:=fF hy
        have PD:=eR hy
        have jR:=hg y YX
        have rr:=bH y YX
        have jD:=bK hZ (show(l.length:Int)<_ by omega)
        have vt:=KX (d:=d) (b:=b) (es:=3) hZ
        generalize hA:((l.take j).filter fun x=>!f x)=A at*
        have ss:qM (0+j*3) 3 (cB (A++(R++l.drop j)))=some (aj y):=by
          refine W3 ?_
          rw[←gN,gO (by rw[cu];omega),cu,PD]
          rw[show j-(A.length+R.length)=0 by omega];rfl
        have dw:=fun q=>(hX.push q).box (cB (A++(R++l.drop j)))
        have oK:closeAll (aj y)=some (aj y):=by
          simp only[aj,mf,oq,oV,Sl.close rr];rfl
        cases Km:f y with
        | true =>
          rw[Km]at jR
          have tJ:((l.take (j+1)).filter fun x=>!f x)=A:=by rw[qj,ns,hA];simp[Km]
          have Gd:=ih (j+1) (by omega)
          rw[tJ]at Gd
          have cp:cB (A++(R++l.drop j))=cB (A++((R++[y])++l.drop (j+1))):=by rw[PD];simp
          generalize cB (A++(R++l.drop j))=Z at*
          rw[go_loop]
          simp only[aj,Sl.v]at ss jR
          simp only[go_sem,DQ,hX.ok,g0,g1,g6,G5,aS hZ,vt,dw,ss,jR,jD,at_len,oO,simprocAttr]
          refine Gd _ _ (by omega) ?_
          exact⟨g0,g1,rfl,g5,by omega,R++[y],_,by rw[cu];simp;omega,(fun p hp=>by
            rcases dC.1 hp with hp|hp
            · exact FU p hp
            · rw[dD.1 hp];exact rr),by rw[cp]⟩
        | false =>
          rw[Km]at jR
          obtain⟨r0,R',rfl⟩:∃r0 R',R=r0::R':=by
            cases R with
            |nil=>simp at hR;omega
            |cons r0 R'=>exact⟨r0,R',rfl⟩
          rw[eo]at hR
          have tJ:((l.take (j+1)).filter fun x=>!f x)=A++[y]:=by rw[qj,ns,hA];simp[Km]
          have Gd:=ih (j+1) (by omega)
          rw[tJ]at Gd
          have ajw:=KX (d:=d) (b:=b) (es:=3) (i:=A.length) (n:=l.length) (by omega)
          have YB:=fun q=>hX.atE (q:=q) (A:=A) (r:=r0) (R:=R'++l.drop j) rr rfl
          have cp:cB (A++y::(R'++l.drop j))=cB ((A++[y])++((R'++[y])++l.drop (j+1))):=by rw[PD];simp
          have xI:=bK (k:=A.length) (n:=l.length) (by omega) (show(l.length:Int)<_ by omega)
          rw[l5]at dw ss⊢
          generalize cB (A++y::(R'++l.drop j))=Z2 at*
          generalize cB (A++r0::(R'++l.drop j))=Z at*
          rw[go_loop]
          simp only[aj,Sl.v]at ss jR YB
          simp only[go_sem,DQ,hX.ok,g0,g1,g6,g5,G5,aS hZ,vt,ajw,dw,ss,jR,jD,xI,YB,at_len,oO,simprocAttr]
          refine Gd _ _ (by omega) ?_
          exact⟨g0,g1,rfl,by rw[cu];rfl,by rw[cu];simp;omega,R'++[y],_,by rw[cu,cu];simp;omega,(fun p hp=>by
            rcases dC.1 hp with hp|hp
            · exact FU p (by simp[hp])
            · rw[dD.1 hp];exact rr),by rw[cp]⟩
    have hA:((l.take (k+1)).filter fun x=>!f x)=l.take k:=by rw[fF h2,ns,aiV];simp[hfx]
    have tQ:(l.take k).length=k:=by rw[fc];omega
    have GG:=key (k+1)
    rw[hA,tQ]at GG
    have aD:decide ((k:Int)=-1)=false:=by simp
    have jD:=bK hk (show(l.length:Int)<_ by omega)
    have pn:cB l=cB (l.take k++([x]++l.drop (k+1))):=by
      have:=eR h2
      rw[show[x]++l.drop (k+1)=l.drop k by rw[this];rfl,HS]
    have:∃R,au AP (.fn 67) [.aO d b 0 3 l.length 0,.fn g [] caps] (X (cB l))=some (.aO d b 0 3 (l.filter fun x=>!f x).length l.length,X (cB ((l.filter fun x=>!f x)++R)))∧∀p∈R,p.an.ok 1:=by
      rw[aM (show AP 67=some yN from rfl) rfl]
      generalize cB l=Z at*
      simp only[go_sem,Je,cC,jD,simprocAttr]
      refine GG _ _ (by omega) ?_
      exact⟨rfl,rfl,rfl,rfl,by omega,[x],_,by simp,(fun p hp=>by rw[dD.1 hp];exact bH x (bU h2)),by rw[pn]⟩
    obtain⟨R,e1,e2⟩:=this
    exact⟨l.length,R,e1,e2,fun h=>by omega⟩
theorem auF {g:FuncId} {caps:List AV}:au AP (.fn 67) [.slice .aA 0 [],.fn g [] caps] s=some (.slice .aA 0 [],s):=by
 have cC:∀m:ae,au AP (.fn 90) [.slice .aA 0 [],.fn g [] caps] m=some (I (-1),m):=fun m=>SR (l:=[]) (p:=fun _=>false) (.inl rfl) (by decide) (fun a ha=>absurd ha (by simp))
 have xy:decide ((-1:Int)=-1)=true:=by decide
 rw[aM (show AP 67=some yN from rfl) rfl]
 simp only[go_sem,Je,cC,simprocAttr]
theorem abY {q p:P} {has:Bool} {d b1 b2:Nat} (hs:Ok s) (h1:s.box d b1=some [B has]) (h2:s.box d b2=some (aj p)) (hq:q.an.ok 1) (hp:p.an.ok 1) (lq:q.an.l.length≤1000) (lp:p.an.l.length≤1000)
  (c1:-1000000≤q.req∧q.req≤1000000) (c2:-1000000≤p.req∧p.req≤1000000) (c3:-1000000≤q.start∧q.start≤1000000) (c4:-1000000≤p.start∧p.start≤1000000):
  au AP (.fn 66) [.agg (aj q),.ptr d b1 0,.ptr d b2 0] s=some (B (has&&decide (kS q p=0)),s):=by
 have hc:∀r,au AP (.fn 38) [.agg (aj q),.agg (aj p)] (s.push r)=some (I (kS q p),s.push r):=fun r=>Si (hs.push r) hq hp lq lp c1 c2 c3 c4
 have k1:=fun r=>fO h1 r
 have k2:=fun r=>fO h2 r
 have aD:¬d=s.ag.length:=fun e=>by
  subst e
  simp only[ae.box]at h1
  rw[n8 (aH _)]at h1;simp at h1
 rw[aM (show AP 66=some ES from rfl) rfl]
 simp only[aj,Sl.v]at hc k2
 cases has with
 |true=>simp only[go_sem,NK,k1,k2,hc,ia,simprocAttr]
 |false=>simp only[go_sem,NK,k1,kn,simprocAttr]
end
def fu (v:Nat→AV) (o:Nat→Bool) (a n:Nat):List AV:=((List.range' a n).map fun i=>[v i,B (o i)]).flatten
theorem Ab {v:Nat→AV} {o:Nat→Bool}:∀{n a:Nat},(fu v o a n).length=n*2
 |0,_=>rfl
 |n+1,a=>by
  have:=Ab (v:=v) (o:=o) (n:=n) (a:=a+1)
  unfold fu at this⊢
  rw[CR,iH,s8,cu,this];simp;omega
theorem Ct {v:Nat→AV} {o:Nat→Bool} {j n:Nat} (h:j<n):fu v o 0 n=fu v o 0 j++v j::B (o j)::fu v o (j+1) (n-(j+1)):=by
 have e:n=j+(1+(n-(j+1))):=by omega
 have h1:List.range' 0 n=List.range' 0 j++List.range' j (1+(n-(j+1))):=by
  have:=List.range'_append (s:=0) (m:=j) (n:=1+(n-(j+1))) (step:=1)
  rw[rQ,fN]at this
  rw[this,←e]
 unfold fu
 rw[h1,Mj 1,CR]
 simp
theorem Lu {v v':Nat→AV} {o o':Nat→Bool} {a n:Nat} (h:∀i,a≤i→i<a+n→v i=v' i∧o i=o' i):fu v o a n=fu v' o' a n:=by
 unfold fu
 congr 1
 refine Ap fun i hi=>?_
 have:=List.mem_range'_1.1 hi
 rw[(h i this.1 this.2).1,(h i this.1 this.2).2]
def fw {α:Type} (v:Nat→α) (j:Nat) (x:α):Nat→α:=fun i=>if i=j then x else v i
theorem Hw {α:Type} {v:Nat→α} {j:Nat} {x:α}:fw v j x j=x:=ak rfl
theorem xY {α:Type} {v:Nat→α} {i j:Nat} {x:α} (h:i≠j):fw v j x i=v i:=aq h
theorem asD {v:Nat→AV} {o:Nat→Bool} {j n:Nat} (h:j<n):(fu v o 0 n)[0+j*2+0]? =some (v j):=by
 rw[Ct h,show 0+j*2+0=(fu v o 0 j).length by rw[Ab];omega]
 simp
theorem Sd {v:Nat→AV} {o:Nat→Bool} {j n:Nat} {x:AV} (h:j<n):mD (fu v o 0 n) (0+j*2+0) [x]=some (fu (fw v j x) o 0 n):=by
 rw[vP,ak (by rw[Ab];simp;omega)]
 simp only[setCells]
 rw[Ct h,show 0+j*2+0=(fu v o 0 j).length by rw[Ab];omega,oO,Ct (v:=fw v j x) h,Hw]
 rw[Lu (v:=fw v j x) (v':=v) (o':=o) fun i _ hi=>⟨xY (by omega),rfl⟩,Lu (v:=fw v j x) (v':=v) (o':=o) (a:=j+1) fun i h1 _=>⟨xY (by omega),rfl⟩]
theorem Se {v:Nat→AV} {o:Nat→Bool} {j n:Nat} {t:Bool} (h:j<n):mD (fu v o 0 n) (0+j*2+1) [B t]=some (fu v (fw o j t) 0 n):=by
 rw[vP,ak (by rw[Ab];simp;omega)]
 simp only[setCells]
 rw[Ct h,show 0+j*2+1=(fu v o 0 j).length+1 by rw[Ab];omega,rJ,Ct (o:=fw o j t) h,Hw]
 rw[Lu (o:=fw o j t) (v':=v) (o':=o) fun i _ hi=>⟨rfl,xY (by omega)⟩,Lu (o:=fw o j t) (v':=v) (o':=o) (a:=j+1) fun i h1 _=>⟨rfl,xY (by omega)⟩]
theorem asB {w:W} {d n:Nat} {bi:Nat→Nat}:rI w d bi n=fu (fun i=>lZ d (bi i) (bS w [] (i:Int))) (fun _=>true) 0 n:=by
 unfold rI fu
 rw[Ar]
def Cu (plan:List P) (i:Int) (x:P):Bool:=(aL plan i).isSome&&decide (kS x ((aL plan i).getD bY)=0)
def vG (set:List Int) (i:Int):Bool:=set.any fun a=>decide (i=a)
def il (w:W) (plan:List P) (set:List Int) (i:Int):List P:=
 if vG set i=true then(bS w [] i).filter fun x=>!Cu plan i x else(aL plan i).toList
def me (plan:List P) (set:List Int) (req i:Int):Bool:=
 if vG set i=true then(aL plan i).isSome&&!decide (i=req)else !(aL plan i).isSome&&!decide (i=req)
def x8 (w:W) (d ab:Nat) (bi:Nat→Nat) (j:Nat) (bs:List (List AV)) (v:AV) (c:Sl P):Prop:=
 (v=.slice .aA 0 []∧c=⟨.aA,0,[]⟩)∨∃b cap R,v=.aO d b 0 3 c.l.length cap∧bs[b]? =some (cB (c.l++R))∧(∀p∈c.l++R,p.an.ok 1)∧c=⟨.any,3,c.l⟩∧b≠ab∧∀k:Nat,j≤k→k<w.rs.l.length→bS w [] (k:Int)≠[]→b≠bi k
section
variable{s:ae} {w:W}
theorem x8.deep {ab:Nat} {bi:Nat→Nat} {j:Nat} {bs:List (List AV)} {tk:List (Option Nat)} {v:AV} {c:Sl P} (h:x8 w s.ag.length ab bi j bs v c):ou (s.push ⟨bs,tk⟩) v=some (c.v aj):=by
 obtain⟨rfl,rfl⟩|⟨b,cap,R,rfl,hb,bH,hc,_⟩:=h
 ·rfl
 ·have dX:=Fv (es:=3) (xs:=c.l.map aj) (fun r hr=>by obtain⟨p,_,rfl⟩:=cz.1 hr;rfl)
  rw[bR]at dX
  have hle:0+c.l.length*3≤(cB (c.l++R)).length:=by rw[nC,cu];omega
  simp only[ou,fP,bP,iK,hb,et]
  rw[ak hle,JW bH]
  simp only[dE,ko]
  have ss:∀{n:Nat} {xs ys:List AV},n*3≤xs.length→chunks 3 n (xs++ys)=chunks 3 n xs:=by
   intro n
   induction n with
   |zero=>intros;rfl
   |succ n ih=>
    intro xs ys h
    simp only[chunks]
    rw[To (by omega),S6 (by omega),ih (by rw[tc];omega)]
  rw[yY,ss (by rw[nC];exact aH _),show cB c.l=(c.l.map aj).flatten from rfl,dX,hc]
theorem Wg {bs:List (List AV)} {tk:List (Option Nat)} {v:Nat→AV} {o:Nat→Bool} {c:Nat→Sl P}:∀{n:Nat},(∀i,i<n→ou (s.push ⟨bs,tk⟩) (v i)=some ((c i).v aj))→
  j8 (s.push ⟨bs,tk⟩) (fu v o 0 n)=some (((List.range n).map fun i=>fT (c i,o i)).flatten)
 |0,_=>rfl
 |n+1,h=>by
  rw[Ct (Mn n),CS,ib,List.flatten_append]
  refine Ow (Wg fun i hi=>h i (by omega)) ?_
  have e2:ou (s.push ⟨bs,tk⟩) (B (o n))=some (B (o n)):=rfl
  simp only[HZ,fu,List.range'_zero,nw,Te,j8,h n (Mn n),e2,iH,s8,iG]
theorem aoG {bs:List (List AV)} {tk:List (Option Nat)} {v:Nat→AV} {o:Nat→Bool} {c:Nat→Sl P} {ab n:Nat} (hb:bs[ab]? =some (fu v o 0 n)) (h:∀i,i<n→ou (s.push ⟨bs,tk⟩) (v i)=some ((c i).v aj)):
  eF (s.push ⟨bs,tk⟩) (.aO s.ag.length ab 0 2 n 0)=some (.slice .any 2 (((List.range n).map fun i=>(c i,o i)).map fT)):=by
 have dX:=Fv (es:=2) (xs:=(List.range n).map fun i=>fT (c i,o i)) (fun r hr=>by obtain⟨p,_,rfl⟩:=cz.1 hr;rfl)
 rw[bR,pP]at dX
 have hd:=Wg (o:=o) h
 have hle:0+n*2≤(fu v o 0 n).length:=by rw[Ab];omega
 simp only[eF,fP,bP,iK,hb,et]
 rw[ak hle,aak,hd]
 simp only[dE,ko]
 rw[dX,wb];rfl
end
theorem aeS {s:ae} (hs:Ok s) {bs:List (List AV)} {tk:List (Option Nat)} {b:Nat} (hb:b<bs.length):Cell (fun r=>s.push ⟨bs.set b r,tk⟩) s.ag.length b:=by
 refine⟨fun r=>?_,fun r r'=>?_,fun r=>hs.ro,fun r=>hs.push _⟩
 ·rw[iK];simp[hb]
 ·rw[Sn,As]
theorem Hm {bs:List (List AV)} {b:Nat} {r:List AV} (h:bs[b]? =some r):bs.set b r=bs:=by
 obtain⟨hb,rfl⟩:=bd.1 h
 exact List.set_getElem_self hb
section
variable{s:ae} {w:W}
theorem RP (hw:Wk w) {i:Nat} (hi:i<w.rs.l.length) {q:P} (hq:q∈bS w [] (i:Int)):q.an.ok 1∧q.an.l.length≤1000∧(-1000000≤q.req∧q.req≤1000000)∧-1000000≤q.start∧q.start≤1000000:=by
 obtain⟨h1,h2,_,_,_,_,h3,_⟩:=kg hw (i:=(i:Int)) (by omega) (by omega) (eH.1 hq).1
 have dJ:=hw.v.rl
 have h4:=hw.tD.an _ (W.qB (i:=(i:Int)) (by omega) (by omega))
 have h5:=h3.length_le
 exact⟨h1.ok,by omega,⟨by have:=h1.r0;omega,by have:=h1.r1;omega⟩,by have:=h1.s0;omega,by have:=h1.s1;omega⟩
structure Ai (w:W) (d ob ab:Nat) (bi:Nat→Nat) (plan:List P) (set:List Int) (req:Int) (j:Nat) (bs:List (List AV)) (v:Nat→AV) (o:Nat→Bool) (c:Nat→Sl P):Prop where
 z:bs[0]? =some [NP,.slice .aA 0 []]
 oo:bs[ob]? =some [OW w,.aO d ab 0 2 w.rs.l.length 0]
 a:bs[ab]? =some (fu v o 0 w.rs.l.length)
 rest:∀i,j≤i→i<w.rs.l.length→v i=lZ d (bi i) (bS w [] (i:Int))∧(bS w [] (i:Int)≠[]→bs[bi i]? =some (cB (bS w [] (i:Int))))
 done:∀i:Nat,i<j→x8 w d ab bi j bs (v i) (c i)∧(c i).l=il w plan set (i:Int)∧o i=me plan set req (i:Int)
structure L1 (w:W) (ob ab:Nat) (bi:Nat→Nat):Prop where
 o0:0<ob
 a0:0<ab
 ao:ab<ob
 b0:∀i:Nat,i<w.rs.l.length→bS w [] (i:Int)≠[]→0<bi i∧bi i<ob∧bi i≠ab
 inj:∀i j:Nat,i<j→j<w.rs.l.length→bS w [] (i:Int)≠[]→bi i<bi j
theorem Oe {d ob ab:Nat} {bi:Nat→Nat} {plan:List P} {set:List Int} {req:Int} {j:Nat} {bs iL:List (List AV)} {v:Nat→AV} {o:Nat→Bool} {c:Nat→Sl P} {v':AV} {o':Bool} {c':Sl P} (hB:L1 w ob ab bi) (hj:j<w.rs.l.length) (h:Ai w d ob ab bi plan set req j bs v o c)
  (ha:iL[ab]? =some (fu (fw v j v') (fw o j o') 0 w.rs.l.length)) (hk:∀q,q<bs.length→q≠ab→(bS w [] (j:Int)≠[]→q≠bi j)→iL[q]? =bs[q]?)
  (hv:x8 w d ab bi (j+1) iL v' c') (hl:c'.l=il w plan set (j:Int)) (ho:o'=me plan set req (j:Int)):Ai w d ob ab bi plan set req (j+1) iL (fw v j v') (fw o j o') (fw c j c'):=by
 have l0:=(bd.1 h.z).1
 have lo:=(bd.1 h.oo).1
 refine⟨?_,?_,ha,fun i h1 h2=>?_,fun i hi=>?_⟩
 ·rw[hk 0 l0 (by have:=hB.a0;omega) (fun aD=>by have:=(hB.b0 j hj aD).1;omega)];exact h.z
 ·rw[hk ob lo (by have:=hB.ao;omega) (fun aD=>by have:=(hB.b0 j hj aD).2.1;omega)];exact h.oo
 ·obtain⟨r1,r2⟩:=h.rest i (by omega) h2
  refine⟨by rw[xY (by omega)];exact r1,fun aD=>?_⟩
  have:=r2 aD
  rw[hk _ (bd.1 this).1 (hB.b0 i h2 aD).2.2 (fun hnj=>by have:=hB.inj j i (by omega) h2 hnj;omega)]
  exact this
 ·by_cases eD:i=j
  ·subst eD
   rw[Hw,Hw,Hw]
   exact⟨hv,hl,ho⟩
  ·rw[xY eD,xY eD,xY eD]
   obtain⟨d1,d2,d3⟩:=h.done i (by omega)
   refine⟨?_,d2,d3⟩
   obtain⟨e1,e2⟩|⟨b,cap,R,e1,e2,e3,e4,e5,e6⟩:=d1
   ·exact .inl ⟨e1,e2⟩
   ·refine .inr ⟨b,cap,R,e1,?_,e3,e4,e5,fun k nM iP=>e6 k (by omega) iP⟩
    rw[hk b (bd.1 e2).1 e5 (fun aD=>e6 j (aH _) hj aD)]
    exact e2
theorem aeY {d ob ab : Nat} {bi : Nat → Nat} {plan : List P} {set : List Int} {req : Int} {j : Nat} {bs : List (List AV)} {tk : List (Option Nat)} {v : Nat → AV} {o : Nat → Bool} {c : Nat → Sl P} {ρ : Nat → AV} {op os : Own} {ep es : Nat} (hs : Ok s) (hw : Wk w) (hd : d = s.ag.length) (hB : L1 w ob ab bi) (hj : j < w.rs.l.length)
    (hp:oR plan) (q9:plan=[]∨ep=3) (dY:set=[]∨es=1) (pt:set.length≤100000)
    (h:Ai w d ob ab bi plan set req j bs v o c) (g0:ρ 0=OW w) (g1:ρ 1=.slice op ep (plan.map aj)) (g2:ρ 2=.slice os es (set.map aB)) (g3:ρ 3=I req) (g8:ρ 8=.ptr d 0 0) (g9:ρ 9=.ptr d ob 0) (g19:ρ 19=I w.rs.l.length) (g20:ρ 20=I j):
    ∃ ρ' iL ll v' c', go AP u3 (.c (.loop mN) :: vJ) ⟨ρ, s.push ⟨bs, tk⟩⟩ = go AP u3 (.c (.loop mN) :: vJ) ⟨ρ', s.push ⟨iL, ll⟩⟩ ∧ (ρ' 0 = OW w ∧ ρ' 1 = .slice op ep (plan.map aj) ∧ ρ' 2 = .slice os es (set.map aB) ∧ ρ' 3 = I req ∧ ρ' 8 = .ptr d 0 0 ∧ ρ' 9 = .ptr d ob 0 ∧ ρ' 19 = I w.rs.l.length ∧ ρ' 20 = I ((j + 1 : Nat) : Int)) ∧
      Ai w d ob ab bi plan set req (j+1) iL (fw v j v') (fw o j (me plan set req (j:Int))) (fw c j c'):=by
  subst hd
  have dJ:=hw.v.rl
  have dP:∀m:ae,Ok m→au AP (.fn 65) [.slice op ep (plan.map aj),I j] m=some (.tuple [.agg (aj ((aL plan (j:Int)).getD bY)),B (aL plan (j:Int)).isSome],m):=fun m hm=>LA hm q9 (by have:=hp.len;omega) fun p h=>(hp.ok p h).1
  have ml:∀m:ae,au AP (.fn 57) [.slice os es (set.map aB),I j] m=some (B (vG set (j:Int)),m):=fun m=>LX dY (by omega)
  generalize iR:(aL plan (j:Int)).getD bY=p at dP
  generalize vo:(aL plan (j:Int)).isSome=has at dP
  have nO:p.an.ok 1∧p.an.l.length≤1000∧(-1000000≤p.req∧p.req≤1000000)∧-1000000≤p.start∧p.start≤1000000:=by
    rw[←iR]
    cases hq:aL plan (j:Int)with
    |none=>exact⟨SU,by decide,by decide,by decide⟩
    | some q =>
      have hm:=(RJ hq).1
      exact⟨(hp.ok q hm).1,(hp.ok q hm).2,hp.b q hm⟩
  obtain⟨r1,r2⟩:=h.rest j (aH _) hj
  have avX:=ml
  have bW:=bK hj (show(w.rs.l.length:Int)<_ by omega)
  have vt:=KX (d:=s.ag.length) (b:=ab) (es:=2) hj
  have fo:∀r,(bs++r)[ob]? =some [OW w,.aO s.ag.length ab 0 2 w.rs.l.length 0]:=fun r=>uT h.oo
  have fa:∀r,(bs++r)[ab]? =some (fu v o 0 w.rs.l.length):=fun r=>uT h.a
  have fg:=asD (v:=v) (o:=o) hj
  have awd:closeAll (aj p)=some (aj p):=by
    simp only[aj,mf,oq,oV,Sl.close nO.1];rfl
  simp only[aj,Sl.v]at dP
  have Qu:∀x,Cu plan (j:Int) x=(has&&decide (kS x p=0)):=fun x=>by unfold Cu;rw[iR,vo]
  cases bh:vG set (j:Int)with
  | true =>
    rw[bh]at ml
    have zf:il w plan set (j:Int)=(bS w [] (j:Int)).filter fun x=>!(has&&decide (kS x p=0)):=by
      unfold il
      rw[ak bh]
      refine HE fun x _=>?_
      rw[Qu]
    have FZ:me plan set req (j:Int)=(has&&!decide ((j:Int)=req)):=by
      unfold me;rw[ak bh,vo]
    have hq : ∃ (v' : AV) (iL : List (List AV)) (c' : Sl P), oT (au AP) (s.push ⟨bs ++ [aj p, [B has]], tk⟩) (.fn 67) [v j, .fn 66 [] [.ptr s.ag.length (bs.length + 1) 0, .ptr s.ag.length bs.length 0]] [(false, 1, .ptr s.ag.length (bs.length + 1) 0)] = some (v', s.push ⟨iL, tk⟩) ∧
        (∀q,(bS w [] (j:Int)≠[]→q≠bi j)→iL[q]? =(bs++[aj p,[B has]])[q]?)∧c'.l=il w plan set (j:Int)∧
        ((v'=.slice .aA 0 []∧c'=⟨.aA,0,[]⟩)∨∃cap R,bS w [] (j:Int)≠[]∧v'=.aO s.ag.length (bi j) 0 3 c'.l.length cap∧iL[bi j]? =some (cB (c'.l++R))∧(∀p∈c'.l++R,p.an.ok 1)∧c'=⟨.any,3,c'.l⟩):=by
      by_cases hl:bS w [] (j:Int)=[]
      · refine ⟨.slice .aA 0 [], bs ++ [aj p, [B has]], ⟨.aA, 0, []⟩, ?_, fun q _ => rfl, by rw [zf, hl]; rfl, .inl ⟨rfl, rfl⟩⟩
        rw[r1,hl]
        exact Vr auF fun q _=>rfl
      · have hbj := uT (r := [aj p, [B has]]) (r2 hl)
        have cG:=(bd.1 (r2 hl)).1
        have zt:0<(bS w [] (j:Int)).length:=ye.2 hl
        have qY:(bS w [] (j:Int)).length<1000000:=by
          have h1:=z7 hw (i:=(j:Int)) (by omega) (by omega)
          have h2:(bS w [] (j:Int)).length≤(dA w (j:Int)).length:=nu _ _
          omega
        have hX:=aeS hs (bs:=bs++[aj p,[B has]]) (tk:=tk) (b:=bi j) (by rw[cu];omega)
        have eK:∀row,((bs++[aj p,[B has]]).set (bi j) row)[bs.length]? =some (aj p):=fun row=>by rw[eP (by omega)];simp
        have gw:∀row,((bs++[aj p,[B has]]).set (bi j) row)[bs.length+1]? =some [B has]:=fun row=>by rw[eP (by omega)];simp
        have ai8:=auE (l:=bS w [] (j:Int)) (g:=66) (caps:=[.ptr s.ag.length (bs.length+1) 0,.ptr s.ag.length bs.length 0]) (f:=fun x=>has&&decide (kS x p=0)) hX qY zt (Ln hw hj)
          (fun x hx row q=>by
            obtain⟨q1,q2,q3,q4⟩:=RP hw hj hx
            exact abY ((hs.push _).push _) (fO (by rw[iK];exact gw row) _) (fO (by rw[iK];exact eK row) _) q1 nO.1 q2 nO.2.1 q3 nO.2.2.1 q4 nO.2.2.2)
          (fun x hx row q q'=>by
            obtain⟨q1,q2,q3,q4⟩:=RP hw hj hx
            exact abY (((hs.push _).push _).push _) (fO (fO (by rw[iK];exact gw row) _) _) (fO (fO (by rw[iK];exact eK row) _) _) q1 nO.1 q2 nO.2.1 q3 nO.2.2.1 q4 nO.2.2.2)
        obtain⟨cap,R,e1,e2,_⟩:=ai8
        rw[←zf]at e1
        simp only[Hm hbj]at e1
        refine⟨_,(bs++[aj p,[B has]]).set (bi j) (cB (il w plan set (j:Int)++R)),⟨.any,3,il w plan set (j:Int)⟩,?_,fun q hq=>by rw[eP (fun e=>hq hl e.symm)],rfl,.inr ⟨cap,R,hl,rfl,?_,?_,rfl⟩⟩
        · rw [r1]
          unfold lZ
          rw[aq hl]
          refine Vr e1 fun q hq=>?_
          rw[dD.1 hq]
          simp only[ae.load,ae.row,iK,gw]
          have:(bs++[aj p,[B has]])[bs.length+1]? =some [B has]:=by simp
          rw[this]
        · rw[mL (by rw[cu];omega)]
        · intro x hx
          rcases dC.1 hx with hx|hx
          · rw [zf] at hx
            exact Ln hw hj x (eH.1 hx).1
          · exact e2 x hx
    obtain⟨v',iL,c',hq,zk,aP,F2⟩:=hq
    have C0:iL[ab]? =some (fu v o 0 w.rs.l.length):=by rw[zk ab (fun hl=>fun e=>(hB.b0 j hj hl).2.2 e.symm)];exact fa _
    have XD:=(bd.1 C0).1
    have Kq:iL[bs.length+1]? =some [B has]:=by
      rw[zk _ (fun hl e=>by have:=(bd.1 (r2 hl)).1;omega)];simp
    have s0:=Sd (v:=v) (o:=o) (x:=v') hj
    have s1:=Se (v:=fw v j v') (o:=o) (t:=has&&!decide ((j:Int)=req)) hj
    have H8:∀r,(iL.set ab r)[ab]? =some r:=fun r=>mL XD
    have gl:∃ρ',go AP u3 (.c (.loop mN)::vJ) ⟨ρ,s.push ⟨bs,tk⟩⟩=go AP u3 (.c (.loop mN)::vJ) ⟨ρ',s.push ⟨iL.set ab (fu (fw v j v') (fw o j (has&&!decide ((j:Int)=req))) 0 w.rs.l.length),tk⟩⟩∧(ρ' 0=OW w∧ρ' 1=.slice op ep (plan.map aj)∧ρ' 2=.slice os es (set.map aB)∧ρ' 3=I req∧ρ' 8=.ptr s.ag.length 0 0∧ρ' 9=.ptr s.ag.length ob 0∧ρ' 19=I w.rs.l.length∧ρ' 20=I ((j+1:Nat):Int)):=by
      rw[go_loop]
      simp only[OW,aj,Sl.v]at g0 fo hq⊢
      generalize fu (fw v j v') (fw o j (has&&!decide ((j:Int)=req))) 0 w.rs.l.length=Z2 at*
      generalize fu (fw v j v') o 0 w.rs.l.length=Z1 at*
      have aD:decide (¬(j:Int)=req)=!decide ((j:Int)=req):=by simp
      have YI:v'=.slice .aA 0 []∨∃n cap,v'=.aO s.ag.length (bi j) 0 3 n cap:=by
        rcases F2 with⟨e,_⟩|⟨cap,R,_,e,_⟩
        · exact .inl e
        · exact .inr ⟨_,cap,e⟩
      cases has with
      | true =>
        simp only[ia]at s1
        obtain rfl|⟨n,cap,rfl⟩:=YI
        · simp only [go_sem, mN, g1, g2, g3, g9, g19, g20, hs, aS hj, dP, ml, bW, fo, fa, fg, vt, at_len, rV, rB, oO, rJ, gN, hq, Kq, C0, s0, s1, H8, As, bn, aD, ia, simprocAttr]
          refine⟨_,rfl,?_⟩
          exact⟨g0,g1,g2,g3,g8,g9,g19,rfl⟩
        · simp only [go_sem, mN, g1, g2, g3, g9, g19, g20, hs, aS hj, dP, ml, bW, fo, fa, fg, vt, at_len, rV, rB, oO, rJ, gN, hq, Kq, C0, s0, s1, H8, As, bn, aD, ia, simprocAttr]
          refine⟨_,rfl,?_⟩
          exact⟨g0,g1,g2,g3,g8,g9,g19,rfl⟩
      | false =>
        simp only[kn]at s1
        obtain rfl|⟨n,cap,rfl⟩:=YI
        · simp only [go_sem, mN, g1, g2, g9, g19, g20, hs, aS hj, dP, ml, bW, fo, fa, fg, vt, at_len, rV, rB, oO, rJ, gN, hq, Kq, C0, s0, s1, H8, As, simprocAttr]
          refine⟨_,rfl,?_⟩
          exact⟨g0,g1,g2,g3,g8,g9,g19,rfl⟩
        · simp only [go_sem, mN, g1, g2, g9, g19, g20, hs, aS hj, dP, ml, bW, fo, fa, fg, vt, at_len, rV, rB, oO, rJ, gN, hq, Kq, C0, s0, s1, H8, As, simprocAttr]
          refine⟨_,rfl,?_⟩
          exact⟨g0,g1,g2,g3,g8,g9,g19,rfl⟩
    obtain⟨ρ',e1,e2⟩:=gl
    rw[←FZ]at e1
    refine⟨ρ',_,tk,v',c',e1,e2,Oe hB hj h (by rw[mL XD]) (fun q hq sC zu=>?_) ?_ aP rfl⟩
    · rw[eP (fun e=>sC e.symm),zk q zu,dM hq]
    · rcases F2 with ⟨h1, h2⟩ | ⟨cap, R, h1, h2, h3, h4, h5⟩
      · exact .inl ⟨h1,h2⟩
      · refine .inr ⟨bi j, cap, R, h2, ?_, h4, h5, (hB.b0 j hj h1).2.2, fun k nM iP _ => by have := hB.inj j k (by omega) iP h1; omega⟩
        rw[eP (fun e=>(hB.b0 j hj h1).2.2 e.symm)]
        exact h3
  | false =>
    rw[bh]at ml
    have fE:=(bd.1 h.a).1
    have WJ:∀(r:List AV) (t:List (List AV)),((bs++t).set ab r)[ab]? =some r:=fun r t=>mL (by rw[cu];omega)
    have aD:decide (¬(j:Int)=req)=!decide ((j:Int)=req):=by simp
    cases hh:has with
    | true =>
      rw[hh]at dP vo
      obtain⟨p',rh⟩:=oj.1 vo
      have akc:p'=p:=by rw[←iR,rh];rfl
      subst akc
      have zf:il w plan set (j:Int)=[p']:=by
        unfold il;rw[bh,aq (by simp),rh];rfl
      have FZ:me plan set req (j:Int)=false:=by
        unfold me;rw[bh,aq (by simp),vo];rfl
      have ri:rH (s.push ⟨bs++[aj p',[B true]],tk⟩) 3 (.agg (aj p'))=some (.aO s.ag.length (bs.length+1+1) 0 3 1 1,s.push ⟨bs++[aj p',[B true],aj p'],tk⟩):=by
        have:=R6 (s:=s) (bs:=bs++[aj p',[B true]]) (tk:=tk) (cs:=aj p') (es:=3) rfl (by decide)
        rw[G4,gN]at this
        exact this
      have s0:=Sd (v:=v) (o:=o) (x:=.aO s.ag.length (bs.length+1+1) 0 3 1 1) hj
      have s1:=Se (v:=fw v j (.aO s.ag.length (bs.length+1+1) 0 3 1 1)) (o:=o) (t:=false) hj
      have gl:∃ρ',go AP u3 (.c (.loop mN)::vJ) ⟨ρ,s.push ⟨bs,tk⟩⟩=go AP u3 (.c (.loop mN)::vJ) ⟨ρ',s.push ⟨(bs++[aj p',[B true],aj p']).set ab (fu (fw v j (.aO s.ag.length (bs.length+1+1) 0 3 1 1)) (fw o j false) 0 w.rs.l.length),tk⟩⟩∧(ρ' 0=OW w∧ρ' 1=.slice op ep (plan.map aj)∧ρ' 2=.slice os es (set.map aB)∧ρ' 3=I req∧ρ' 8=.ptr s.ag.length 0 0∧ρ' 9=.ptr s.ag.length ob 0∧ρ' 19=I w.rs.l.length∧ρ' 20=I ((j+1:Nat):Int)):=by
        rw[go_loop]
        simp only[OW,aj,Sl.v]at g0 fo ri⊢
        generalize fu (fw v j (.aO s.ag.length (bs.length+1+1) 0 3 1 1)) (fw o j false) 0 w.rs.l.length=Z2 at*
        generalize fu (fw v j (.aO s.ag.length (bs.length+1+1) 0 3 1 1)) o 0 w.rs.l.length=Z1 at*
        simp only[go_sem,mN,g1,g2,g9,g19,g20,hs,aS hj,dP,ml,bW,fo,fa,WJ,vt,at_len,rV,rB,oO,rJ,gN,ri,s0,s1,As,simprocAttr]
        refine⟨_,rfl,?_⟩
        exact⟨g0,g1,g2,g3,g8,g9,g19,rfl⟩
      obtain⟨ρ',e1,e2⟩:=gl
      rw[←FZ]at e1
      refine⟨ρ',_,tk,_,⟨.any,3,[p']⟩,e1,e2,Oe hB hj h (by rw[mL (by rw[cu];omega)]) (fun q hq sC zu=>?_) ?_ zf.symm rfl⟩
      · rw[eP (fun e=>sC e.symm),dM hq]
      · refine .inr ⟨bs.length + 1 + 1, 1, [], rfl, ?_, fun x hx => ?_, rfl, by omega, fun k nM iP P8 => ?_⟩
        · rw [eP (by omega), gO (by omega), show bs.length + 1 + 1 - bs.length = 2 by omega]
          simp[cB]
        · rw [iG, dD] at hx
          rw[hx];exact nO.1
        · have := (bd.1 ((h.rest k (by omega) iP).2 P8)).1
          omega
    | false =>
      rw[hh]at dP vo
      have Gu:aL plan (j:Int)=none:=by
        cases hq:aL plan (j:Int)with
        |none=>rfl
        |some q=>rw[hq]at vo;simp at vo
      have zf:il w plan set (j:Int)=[]:=by
        unfold il;rw[bh,aq (by simp),Gu];rfl
      have FZ:me plan set req (j:Int)=!decide ((j:Int)=req):=by
        unfold me;rw[bh,aq (by simp),vo];rfl
      have s0:=Sd (v:=v) (o:=o) (x:=.slice .aA 0 []) hj
      have s1:=Se (v:=fw v j (.slice .aA 0 [])) (o:=o) (t:=!decide ((j:Int)=req)) hj
      have gl:∃ρ',go AP u3 (.c (.loop mN)::vJ) ⟨ρ,s.push ⟨bs,tk⟩⟩=go AP u3 (.c (.loop mN)::vJ) ⟨ρ',s.push ⟨(bs++[aj p,[B false]]).set ab (fu (fw v j (.slice .aA 0 [])) (fw o j (!decide ((j:Int)=req))) 0 w.rs.l.length),tk⟩⟩∧(ρ' 0=OW w∧ρ' 1=.slice op ep (plan.map aj)∧ρ' 2=.slice os es (set.map aB)∧ρ' 3=I req∧ρ' 8=.ptr s.ag.length 0 0∧ρ' 9=.ptr s.ag.length ob 0∧ρ' 19=I w.rs.l.length∧ρ' 20=I ((j+1:Nat):Int)):=by
        rw[go_loop]
        simp only[OW,aj,Sl.v]at g0 fo⊢
        generalize fu (fw v j (.slice .aA 0 [])) (fw o j (!decide ((j:Int)=req))) 0 w.rs.l.length=Z2 at*
        generalize fu (fw v j (.slice .aA 0 [])) o 0 w.rs.l.length=Z1 at*
        simp only[go_sem,mN,g1,g2,g3,g9,g19,g20,hs,aS hj,dP,ml,bW,fo,fa,WJ,vt,at_len,rV,rB,oO,rJ,gN,s0,s1,As,bn,aD,simprocAttr]
        refine⟨_,rfl,?_⟩
        exact⟨g0,g1,g2,g3,g8,g9,g19,rfl⟩
      obtain⟨ρ',e1,e2⟩:=gl
      rw[←FZ]at e1
      refine⟨ρ',_,tk,_,⟨.aA,0,[]⟩,e1,e2,Oe hB hj h (by rw[mL (by rw[cu];omega)]) (fun q hq sC zu=>?_) (.inl ⟨rfl,rfl⟩) zf.symm rfl⟩
      rw[eP (fun e=>sC e.symm),dM hq]
end
section
variable{s:ae} {w:W}
structure x7 (w:W) (plan:List P) (set:List Int) (req:Int) (all:List (Sl P×Bool)):Prop where
 len:all.length=w.rs.l.length
 get:∀i:Nat,i<w.rs.l.length→∃c:Sl P,all[i]? =some (c,me plan set req (i:Int))∧c.l=il w plan set (i:Int)∧c.ok 3
theorem x8.ok {d ab:Nat} {bi:Nat→Nat} {j:Nat} {bs:List (List AV)} {v:AV} {c:Sl P} (h:x8 w d ab bi j bs v c):c.ok 3:=by
 obtain⟨_,e⟩|⟨b,cap,R,_,_,_,e,_⟩:=h
 ·rw[e];exact⟨.inl rfl,.inr (.inr ⟨rfl,rfl⟩)⟩
 ·rw[e];exact⟨.inr rfl,.inl rfl⟩
theorem at6 {plan:List P} {set:List Int} {req:Int} {op os:Own} {ep es:Nat} (hs:Ok s) (hw:Wk w) (hN:0<w.rs.l.length) (hp:oR plan) (q9:plan=[]∨ep=3) (dY:set=[]∨es=1) (pt:set.length≤100000):
  ∃all,au AP (.fn 36) [OW w,.slice op ep (plan.map aj),.slice os es (set.map aB),I req] s=some (CH w .any 2 all,s)∧x7 w plan set req all:=by
 obtain⟨ρ0,wK,tk0,x,bi,f1,f2,f3,f4,f5⟩:=W7 (F:=fun e st=>match e with|.exit _=>none|_=>(ug st [.cell true 2 2]).map fun l=>(packed l,st.sig)) (bs:=[[NP,.slice .aA 0 []]]) (tk:=[]) hs hw
 obtain⟨g1,_⟩|⟨_,ab,fE,rfl⟩:=f4.gx
 ·omega
 simp only[eo,ja,fN]at f2 f3 f5 f4
 have nI:wK[0]? =some [NP,.slice .aA 0 []]:=by rw[f5 0 (by omega)];rfl
 have hi:au AP (.inl 28) [OW w] (s.push ⟨[[NP,.slice .aA 0 []]],[]⟩)=some (.agg [OW w,.aO s.ag.length ab 0 2 w.rs.l.length 0],s.push ⟨wK,tk0⟩):=by
  rw[aep (show AP 28=some Be from rfl) rfl (by have:=hs.ro;rw[MC];show s.ro<_;omega)]
  refine f1.trans ?_
  have hl:(s.push ⟨wK,tk0⟩).load true 2 (.ptr s.ag.length 1 0)=some (.agg [OW w,.aO s.ag.length ab 0 2 w.rs.l.length 0]):=by
   simp only[ae.load,ae.row,iK,f3,dE,et,part,bP,eo,ja]
   rfl
  simp only[ug,sS,f2,hl,dE,packed]
 have aiI:=(bd.1 fE).1
 have hB:L1 w wK.length ab bi:=by
  refine⟨by have:=(bd.1 nI).1;omega,by have:=(f4.own ab _ _ rfl).1;omega,aiI,fun i hi aD=>?_,f4.inj⟩
  obtain⟨q1,q2⟩:=f4.box i hi aD
  exact⟨by omega,(bd.1 q1).1,(f4.own ab _ _ rfl).2 i hi aD⟩
 have key : ∀ (k j : Nat) ρ bs tk v o c, k = w.rs.l.length - j → j ≤ w.rs.l.length → Ai w s.ag.length wK.length ab bi plan set req j bs v o c → (ρ 0 = OW w ∧ ρ 1 = .slice op ep (plan.map aj) ∧ ρ 2 = .slice os es (set.map aB) ∧ ρ 3 = I req ∧ ρ 8 = .ptr s.ag.length 0 0 ∧ ρ 9 = .ptr s.ag.length wK.length 0 ∧ ρ 19 = I w.rs.l.length ∧ ρ 20 = I j) →
   ∃all,go AP u3 (.c (.loop mN)::vJ) ⟨ρ,s.push ⟨bs,tk⟩⟩=some (CH w .any 2 all,s)∧x7 w plan set req all:=by
  intro k
  induction k with
  | zero =>
   rintro j ρ bs tk v o c hk hj hI ⟨g0,g1,g2,g3,g8,g9,g19,g20⟩
   obtain rfl:j=w.rs.l.length:=by omega
   have lz:=(bd.1 hI.z).1
   have KN:∀r:List AV,(bs.set 0 r)[ab]? =bs[ab]? :=fun r=>eP (by have:=hB.a0;omega)
   have da:=aoG (s:=s) (bs:=bs.set 0 [OW w,.aO s.ag.length ab 0 2 w.rs.l.length 0]) (tk:=tk) (o:=o) (c:=c) (by rw[KN];exact hI.a) (fun i hi=>by
    obtain⟨d1,_,_⟩:=hI.done i hi
    refine x8.deep (w:=w) (ab:=ab) (bi:=bi) (j:=w.rs.l.length) ?_
    obtain⟨e1,e2⟩|⟨b,cap,R,e1,e2,e3⟩:=d1
    ·exact .inl ⟨e1,e2⟩
    ·by_cases hb:b=0
     ·exfalso
      subst hb
      rw[hI.z]at e2
      injection e2 with e2
      have:=gS List.length e2
      rw[nC]at this
      simp at this
      omega
     ·exact .inr ⟨b,cap,R,e1,by rw[eP (by omega)];exact e2,e3⟩)
   refine⟨(List.range w.rs.l.length).map fun i=>(c i,o i),?_,⟨by simp,fun i hi=>?_⟩⟩
   ·have dZ:=hI.oo
    have hz:=hI.z
    have h00:∀r:List AV,(bs.set 0 r)[0]? =some r:=fun r=>mL lz
    rw[go_loop]
    simp only[CH,OW]at dZ da⊢
    generalize((List.range w.rs.l.length).map fun i=>(c i,o i)).map fT=Z at*
    simp only[Sl.v]at dZ da⊢
    simp only[go_sem,mN,NM,g8,g9,g19,g20,hs,bN,dZ,hz,h00,da,Rc,simprocAttr]
   ·obtain⟨d1,d2,d3⟩:=hI.done i hi
    refine⟨c i,?_,d2,d1.ok⟩
    rw[gX,HI hi,←d3];rfl
  |succ k ih=>
   rintro j ρ bs tk v o c hk hj hI ⟨g0,g1,g2,g3,g8,g9,g19,g20⟩
   obtain⟨ρ',iL,ll,v',c',e1,e2,e3⟩:=aeY (tk:=tk) hs hw rfl hB (by omega) hp q9 dY pt hI g0 g1 g2 g3 g8 g9 g19 g20
   rw[e1]
   exact ih (j+1) ρ' iL ll _ _ _ (by omega) (by omega) e3 e2
 have GG:Ai w s.ag.length wK.length ab bi plan set req 0 (wK++[[OW w,.aO s.ag.length ab 0 2 w.rs.l.length 0]]) (fun i=>lZ s.ag.length (bi i) (bS w [] (i:Int))) (fun _=>true) (fun _=>⟨.aA,0,[]⟩):=by
  refine⟨uT nI,by simp,by rw[←asB];exact uT fE,fun i _ hi=>⟨rfl,fun aD=>uT (f4.box i hi aD).1⟩,fun i hi=>absurd hi (df _)⟩
 have Ku:=key w.rs.l.length 0
 rw[aM (show AP 36=some ER from rfl) rfl]
 simp only[OW,Sl.v]at hi Ku GG⊢
 simp only[go_sem,UI,hs,hi,at_len,oO,G5,simprocAttr]
 refine Ku _ _ _ _ _ _ rfl (bp _) GG ?_
 exact⟨rfl,rfl,rfl,rfl,rfl,rfl,rfl,rfl⟩
end
section
variable{w:W}
structure L2 (w:W) (l:List (List P)) (c:Nat→P):Prop where
 mem:∀k x,l[k]? =some x→c k∈x
 nc:∀j k,j<l.length→k<l.length→j≠k→cS w (c j) (c k)=false
theorem Hx {p x:P} {l:List P}:x∈wo w p l↔x∈l∧cS w x p=false:=by
 unfold wo
 rw[eH]
 simp
theorem Wn {p:P} {l:List (List P)} {s k:Nat}:((l.eraseIdx s).map (wo w p))[k]? =((if k<s then l[k]? else l[k+1]?).map (wo w p)):=by
 rw[gX,List.getElem?_eraseIdx]
theorem WW (hw:Wk w):∀(n:Nat) (l:List (List P)),l.length=n→(∀x∈l,∀p∈x,bZ w p)→pY w n l=true→∃c,L2 w l c
 |0,l,hl,_,_=>⟨fun _=>bY,fun k x h=>by rw[uE hl]at h;simp at h,fun j k h=>by omega⟩
 | n + 1, l, hl, hp, h => by
  have aD:l≠[]:=by intro e;rw[e]at hl;simp at hl
  have hs:=Sq aD
  simp only[pY]at h
  generalize fU l=s at*
  obtain⟨x,hx⟩:=get_some hs
  rw[List.getD,hx,kO,eA]at h
  obtain⟨p,vz,hf⟩:=h
  have fq:=bU hx
  have iR:=hp x fq p vz
  have Ga:((l.eraseIdx s).map (wo w p)).length=n:=by rw[bR,Mc hs];omega
  obtain⟨c,ef,gI⟩:=WW hw n ((l.eraseIdx s).map (wo w p)) Ga (fun y hy q hq=>by
   obtain⟨z,hz,rfl⟩:=cz.1 hy
   exact hp z (Tk hz) q (Hx.1 hq).1) hf
  rw[Ga]at gI
  have key:∀k,k<n→∃y,l[if k<s then k else k+1]? =some y∧c k∈y∧cS w (c k) p=false∧bZ w (c k):=by
   intro k hk
   obtain⟨y,hy⟩:=get_some (l:=(l.eraseIdx s).map (wo w p)) (k:=k) (by omega)
   have hm:=ef k y hy
   rw[Wn]at hy
   obtain⟨z,hz,rfl⟩:=aT.1 hy
   obtain⟨jU,fQ⟩:=Hx.1 hm
   have GL:l[if k<s then k else k+1]? =some z:=by
    by_cases h:k<s
    ·rw[ak h]at hz⊢;exact hz
    ·rw[aq h]at hz⊢;exact hz
   exact⟨z,GL,jU,fQ,hp z (bU GL) _ jU⟩
  refine⟨fun k=>if k<s then c k else if k=s then p else c (k-1),?_,?_⟩
  ·intro k y hy
   have tQ:=(bd.1 hy).1
   show(if k<s then c k else if k=s then p else c (k-1))∈y
   by_cases h1:k<s
   ·rw[ak h1]
    obtain⟨z,hz,hm,_⟩:=key k (by omega)
    rw[ak h1,hy]at hz;injection hz with hz;rw[hz];exact hm
   ·rw[aq h1]
    by_cases h2:k=s
    ·rw[ak h2];subst h2;rw[hx]at hy;injection hy with hy;rw[←hy];exact vz
    ·rw[aq h2]
     obtain⟨z,hz,hm,_⟩:=key (k-1) (by omega)
     rw[aq (by omega),show k-1+1=k by omega,hy]at hz;injection hz with hz;rw[hz];exact hm
  ·intro j k hj hk vu
   show cS w (if j<s then c j else if j=s then p else c (j-1)) (if k<s then c k else if k=s then p else c (k-1))=false
   have oC:∀i,i<n→cS w p (c i)=false:=fun i hi=>by
    obtain⟨_,_,_,h3,h4⟩:=key i hi
    rw[yP hw iR h4];exact h3
   have Kj:∀i,i<n→cS w (c i) p=false:=fun i hi=>(key i hi).choose_spec.2.2.1
   by_cases j1:j<s
   ·rw[ak j1]
    by_cases k1:k<s
    ·rw[ak k1];exact gI j k (by omega) (by omega) vu
    ·rw[aq k1]
     by_cases k2:k=s
     ·rw[ak k2];exact Kj j (by omega)
     ·rw[aq k2];exact gI j (k-1) (by omega) (by omega) (by omega)
   ·rw[aq j1]
    by_cases j2:j=s
    ·rw[ak j2]
     by_cases k1:k<s
     ·rw[ak k1];exact oC k (by omega)
     ·rw[aq k1,aq (by omega)];exact oC (k-1) (by omega)
    ·rw[aq j2]
     by_cases k1:k<s
     ·rw[ak k1];exact gI (j-1) k (by omega) (by omega) (by omega)
     ·rw[aq k1]
      by_cases k2:k=s
      ·rw[ak k2];exact Kj (j-1) (by omega)
      ·rw[aq k2];exact gI (j-1) (k-1) (by omega) (by omega) (by omega)
theorem Z3 (hw:Wk w):∀(n:Nat) (l:List (List P)),l.length=n→(∀x∈l,∀p∈x,bZ w p)→(∃c,L2 w l c)→pY w n l=true
 |0,_,_,_,_=>rfl
 | n + 1, l, hl, hp, ⟨c, ef, gI⟩ => by
  have aD:l≠[]:=by intro e;rw[e]at hl;simp at hl
  have hs:=Sq aD
  simp only[pY]
  generalize fU l=s at*
  obtain⟨x,hx⟩:=get_some hs
  rw[List.getD,hx,kO,eA]
  have Ga:((l.eraseIdx s).map (wo w (c s))).length=n:=by rw[bR,Mc hs];omega
  refine⟨c s,ef s x hx,Z3 hw n _ Ga (fun y hy q hq=>by
   obtain⟨z,hz,rfl⟩:=cz.1 hy
   exact hp z (Tk hz) q (Hx.1 hq).1) ⟨fun k=>c (if k<s then k else k+1),fun k y hy=>?_,fun j k hj hk vu=>?_⟩⟩
  ·have tQ:=(bd.1 hy).1
   rw[Wn]at hy
   obtain⟨z,hz,rfl⟩:=aT.1 hy
   have GL:l[if k<s then k else k+1]? =some z:=by
    by_cases h:k<s
    ·rw[ak h]at hz⊢;exact hz
    ·rw[aq h]at hz⊢;exact hz
   exact Hx.2 ⟨ef _ z GL,gI _ _ (bd.1 GL).1 hs (by split<;>omega)⟩
  ·rw[Ga]at hj hk
   exact gI _ _ (by split<;>omega) (by split<;>omega) (by split<;>split<;>omega)
theorem WV (hw:Wk w) {l:List (List P)} (hp:∀x∈l,∀p∈x,bZ w p):fit w l=true↔∃c,L2 w l c:=
 ⟨WW hw l.length l rfl hp,Z3 hw l.length l rfl hp⟩
end
section
variable{w:W}
theorem SN {q:P}:∀{plan:List P} {x:Sl P},q∈(jM w plan x).l↔q∈x.l∧∀p∈plan,cS w q p=false
 |[],x=>by simp[jM]
 |p::r,x=>by
  have h:jM w (p::r) x=jM w r (cr 3 (wo w p x.l)):=rfl
  rw[h,SN (plan:=r),iJ,Hx]
  simp only[er,forall_eq_or_imp]
  constructor
  ·rintro⟨⟨h1,h2⟩,h3⟩;exact⟨h1,h2,h3⟩
  ·rintro⟨h1,h2,h3⟩;exact⟨⟨h1,h2⟩,h3⟩
theorem Lm {i:Int}:bS w [] i=dA w i:=by
 unfold bS
 rw[L7]
 intro x _;rfl
theorem OT {i:Nat} (h:i<w.rs.l.length):(bf w).getD i default=(cr 3 (dA w (i:Int)),true):=by
 unfold bf pZ
 rw[List.getD,gX,HI h]
 simp only[dE,kO,Lm]
def fL (pl:List P) (m:Nat):List Int:=(dm m).filter fun i=>(aL pl i).isNone
theorem tY {m:Nat} {i:Int} (hm:m<2^62):i∈dm m↔0≤i∧m.testBit i.toNat=true:=by
 unfold dm pF
 simp only[cz,eH,oh]
 constructor
 ·rintro⟨k,⟨h1,h2⟩,rfl⟩;exact⟨by omega,by simpa using h2⟩
 ·rintro⟨h0,h1⟩
  refine⟨i.toNat,⟨?_,h1⟩,by omega⟩
  apply n6
  intro h
  have:m<2^i.toNat:=l6 hm (gP (by decide) (by omega))
  rw[H0 this]at h1
  exact absurd h1 (by decide)
theorem xR {m:Nat}:(dm m).Pairwise (· <·):=by
 unfold dm pF
 rw[qE]
 refine(Ak _ acu).imp fun h=>by omega
theorem W0 (hw:Wk w) {pl:List P} {m:Nat} (hm:m<2^w.rs.l.length):
  c8 w (bf w) pl m=true↔∃f:Int→P,(∀i∈fL pl m,f i∈dA w i∧∀p∈pl,cS w (f i) p=false)∧(∀i∈fL pl m,∀j∈fL pl m,i≠j→cS w (f i) (f j)=false):=by
 have dJ:=hw.v.rl
 have oG:m<2^62:=l6 hm (gP (by decide) (by omega))
 have bh:∀i∈fL pl m,0≤i∧i<w.rs.l.length:=by
  intro i hi
  obtain⟨h0,h1⟩:=(tY oG).1 (eH.1 hi).1
  refine⟨h0,?_⟩
  apply n6
  intro h
  have:m<2^i.toNat:=l6 hm (gP (by decide) (by omega))
  rw[H0 this]at h1
  exact absurd h1 (by decide)
 have kU:(fL pl m).Pairwise (· <·):=Ak _ xR
 have PX:(mC w (bf w) pl (dm m)).map (·.l)=(fL pl m).map fun i=>(jM w pl ((bf w).getD i.toNat default).1).l:=by
  unfold mC fL
  rw[wb];rfl
 unfold c8
 rw[PX]
 have dZ:∀i∈fL pl m,∀q,q∈(jM w pl ((bf w).getD i.toNat default).1).l↔q∈dA w i∧∀p∈pl,cS w q p=false:=by
  intro i hi q
  obtain⟨h0,h1⟩:=bh i hi
  rw[OT (by omega),SN,iJ,show((i.toNat:Nat):Int)=i by omega]
 generalize fL pl m=L at*
 have hP:∀x∈L.map (fun i=>(jM w pl ((bf w).getD i.toNat default).1).l),∀p∈x,bZ w p:=by
  intro x hx p hp
  obtain⟨i,hi,rfl⟩:=cz.1 hx
  obtain⟨h0,h1⟩:=bh i hi
  exact(kg hw h0 h1 ((dZ i hi p).1 hp).1).1
 rw[WV hw hP]
 constructor
 ·rintro⟨c,ef,gI⟩
  refine⟨fun i=>c (L.idxOf i),fun i hi=>?_,fun i hi j hj eD=>?_⟩
  ·have hk:L[L.idxOf i]? =some i:=by
    rw[cY (uH.2 hi),CO]
   have:=ef (L.idxOf i) _ (by rw[gX,hk];rfl)
   exact(dZ i hi _).1 this
  ·refine gI _ _ ?_ ?_ ?_
   ·rw[bR];exact uH.2 hi
   ·rw[bR];exact uH.2 hj
   ·intro e
    apply eD
    have h1:L[L.idxOf i]? =some i:=by rw[cY (uH.2 hi),CO]
    have h2:L[L.idxOf j]? =some j:=by rw[cY (uH.2 hj),CO]
    rw[e,h2]at h1;injection h1 with h1;exact rN h1
 ·rintro⟨f,iy,lH⟩
  refine⟨fun k=>f (L.getD k 0),fun k x hx=>?_,fun j k hj hk vu=>?_⟩
  ·rw[gX]at hx
   obtain⟨i,hi,rfl⟩:=aT.1 hx
   have fQ:=bU hi
   show f (L.getD k 0)∈_
   have e0:L.getD k 0=i:=by rw[List.getD,hi];rfl
   rw[e0]
   exact(dZ i fQ _).2 (iy i fQ)
  ·rw[bR]at hj hk
   obtain⟨a,ha⟩:=get_some hj
   obtain⟨b,hb⟩:=get_some hk
   show cS w (f (L.getD j 0)) (f (L.getD k 0))=false
   rw[List.getD,List.getD,ha,hb,kO,kO]
   refine lH a (bU ha) b (bU hb) ?_
   intro e
   subst e
   have mo:=CQ.1 kU
   obtain⟨_,ea⟩:=bd.1 ha
   obtain⟨_,eb⟩:=bd.1 hb
   rcases Tv vu with h|h
   ·have:=mo j k hj hk h;omega
   ·have:=mo k j hk hj h;omega
end
section
variable{w:W}
structure VP (w:W) (R:List P):Prop where
 mem:∀p∈R,0≤p.req∧p.req<w.rs.l.length∧p∈dA w p.req
 gY:R.Pairwise fun a b=>a.req<b.req
 nc:R.Pairwise fun a b=>cS w a b=false
theorem VP.nil:VP w []:=⟨fun _ h=>absurd h (by simp),List.Pairwise.nil,List.Pairwise.nil⟩
theorem VP.iD (hw:Wk w) {R:List P} (h:VP w R):∀p∈R,bZ w p:=fun p hp=>by
 obtain⟨h0,h1,h2⟩:=h.mem p hp
 exact(kg hw h0 h1 h2).1
theorem VP.pre {a b:List P} (h:VP w (a++b)):VP w a:=
 ⟨fun p hp=>h.mem p (oP _ hp),(gp.1 h.gY).1,(gp.1 h.nc).1⟩
theorem aaq:∀{R:List P} {o i:Nat},(R.foldl (fun o p=>o|||2^p.req.toNat) o).testBit i=(o.testBit i||R.any fun p=>decide (p.req.toNat=i))
 |[],o,i=>by simp
 |p::r,o,i=>by
  rw[v8,aaq (R:=r),yj,CV,nr,Bool.or_assoc]
theorem nS {R:List P} {i:Nat}:(cH R).testBit i=R.any fun p=>decide (p.req.toNat=i):=by
 unfold cH
 rw[aaq];simp
theorem aao {R:List P} {n:Nat} (h:∀p∈R,p.req.toNat<n):cH R<2^n:=by
 apply acx
 intro i hi
 rw[nS,uD]
 intro p hp
 have:=h p hp
 simp;omega
theorem Sz {w:W}:∀{R:List P},nW w (R.map (·.req))=bw w R
 |[]=>rfl
 |p::r=>by simp only[iH,nW,bw];rw[Sz]
theorem yq:∀{a b:List Int},a.Pairwise (· <·)→b.Pairwise (· <·)→(∀x,x∈a↔x∈b)→a=b
 |[],[],_,_,_=>rfl
 |[],y::b,_,_,h=>absurd ((h y).2 (by simp)) (by simp)
 |x::a,[],_,_,h=>absurd ((h x).1 (by simp)) (by simp)
 | x :: a, y :: b, ha, hb, h => by
  have h1:=tf.1 ha
  have h2:=tf.1 hb
  have eM:x=y:=by
   rcases er.1 ((h x).1 (by simp))with e|e
   ·exact e
   ·rcases er.1 ((h y).2 (by simp))with e2|e2
    ·exact rN e2
    ·have:=h1.1 y e2;have:=h2.1 x e;omega
  subst eM
  congr 1
  refine yq h1.2 h2.2 fun z=>?_
  constructor
  ·intro hz
   rcases er.1 ((h z).1 (iI _ hz))with e|e
   ·subst e;have:=h1.1 z hz;omega
   ·exact e
  ·intro hz
   rcases er.1 ((h z).2 (iI _ hz))with e|e
   ·subst e;have:=h2.1 z hz;omega
   ·exact e
theorem VP.qw {R:List P} (h:VP w R):cH R<2^w.rs.l.length:=aao fun p hp=>by have:=(h.mem p hp).1;have:=(h.mem p hp).2.1;omega
theorem VP.reqs (hw:Wk w) {R:List P} (h:VP w R):dm (cH R)=R.map (·.req):=by
 have dJ:=hw.v.rl
 have aC:cH R<2^62:=l6 h.qw (gP (by decide) (by omega))
 refine yq xR (by rw[qE];exact h.gY) fun x=>?_
 rw[tY aC,nS,eA]
 simp only[cz,dU]
 constructor
 ·rintro⟨h0,p,hp,he⟩
  have:=(h.mem p hp).1
  exact⟨p,hp,by omega⟩
 ·rintro⟨p,hp,rfl⟩
  exact⟨(h.mem p hp).1,p,hp,rfl⟩
theorem VP.val (hw:Wk w) {R:List P} (h:VP w R):jt w (cH R)=bw w R:=by
 unfold jt
 rw[h.reqs hw,Sz]
end
section
variable{w:W}
theorem VP.sep (hw:Wk w) {R:List P} (h:VP w R) {p q:P} (hp:p∈R) (hq:q∈R) (aD:p.req≠q.req):cS w p q=false:=by
 obtain⟨i,hi⟩:=n9 hp
 obtain⟨j,hj⟩:=n9 hq
 obtain⟨sv,xo⟩:=bd.1 hi
 obtain⟨hZ,xt⟩:=bd.1 hj
 have mo:=CQ.1 h.nc
 rcases Mp i j with eD|eD|eD
 ·have:=mo i j sv hZ eD
  rwa [xo,xt]at this
 ·subst eD
  rw[hi]at hj;injection hj with hj
  exact absurd (by rw[hj]) aD
 ·have:=mo j i hZ sv eD
  rw[xo,xt]at this
  rw[yP hw (h.iD hw p hp) (h.iD hw q hq)];exact this
theorem nT {l:List P} {i:Int} {p:P} (h:aL l i=some p):p∈l∧p.req=i:=by
 unfold aL at h
 exact⟨Mg h,by simpa using L8 h⟩
theorem Li {l:List P} {i:Int} (h:(aL l i).isNone=true):∀p∈l,p.req≠i:=by
 intro p hp he
 unfold aL at h
 rw[TD,yb]at h
 exact h p hp (by simpa using he)
theorem Lh {l:List P} {i:Int} (h:∃p∈l,p.req=i):∃p,aL l i=some p:=by
 obtain⟨p,hp,he⟩:=h
 unfold aL
 have:(l.find? fun x=>decide (x.req=i)).isSome=true:=List.find?_isSome.2 ⟨p,hp,by simpa using he⟩
 exact oj.1 this
theorem JV (hw:Wk w) {pl rest:List P} (h:VP w (pl++rest)):c8 w (bf w) pl (cH (pl++rest))=true:=by
 have dJ:=hw.v.rl
 rw[W0 hw h.qw]
 have cd:∀i∈fL pl (cH (pl++rest)),∃p,aL (pl++rest) i=some p∧p∈pl++rest∧p.req=i∧∀q∈pl,q.req≠i:=by
  intro i hi
  obtain⟨h1,h2⟩:=eH.1 hi
  rw[h.reqs hw,cz]at h1
  obtain⟨p,hp⟩:=Lh h1
  exact⟨p,hp,(nT hp).1,(nT hp).2,Li h2⟩
 refine⟨fun i=>(aL (pl++rest) i).getD bY,fun i hi=>?_,fun i hi j hj eD=>?_⟩
 ·obtain⟨p,hp,hm,hr,gy⟩:=cd i hi
  show(aL (pl++rest) i).getD bY∈_∧∀q∈pl,cS w ((aL (pl++rest) i).getD bY) q=false
  rw[hp,kO]
  refine⟨by rw[←hr];exact(h.mem p hm).2.2,fun q hq=>?_⟩
  exact h.sep hw hm (oP _ hq) (by rw[hr];exact fun e=>gy q hq (rN e))
 ·obtain⟨p,hp,hm,hr,_⟩:=cd i hi
  obtain⟨q,hq,fQ,iA,_⟩:=cd j hj
  show cS w ((aL (pl++rest) i).getD bY) ((aL (pl++rest) j).getD bY)=false
  rw[hp,hq,kO,kO]
  exact h.sep hw hm fQ (by rw[hr,iA];exact eD)
theorem RN (hw:Wk w) {pl:List P} {m k:Nat} (h:VP w pl) (hk:∀p∈pl,p.req<k) (hm:m<2^w.rs.l.length) (vx:∀i,i<k→m.testBit i=(cH pl).testBit i) (hf:c8 w (bf w) pl m=true):
  ∃rest,VP w (pl++rest)∧cH (pl++rest)=m∧∀p∈rest,(k:Int)≤p.req:=by
 have dJ:=hw.v.rl
 have oG:m<2^62:=l6 hm (gP (by decide) (by omega))
 obtain⟨f,iy,lH⟩:=(W0 hw hm).1 hf
 have cd:∀i∈fL pl m,0≤i∧i<w.rs.l.length∧m.testBit i.toNat=true∧(k:Int)≤i∧∀q∈pl,q.req≠i:=by
  intro i hi
  obtain⟨h1,h2⟩:=eH.1 hi
  obtain⟨h3,h4⟩:=(tY oG).1 h1
  have gy:=Li h2
  refine⟨h3,(zP hm h1).2,h4,?_,gy⟩
  apply n6
  intro aC
  rw[vx i.toNat (by omega),nS,eA]at h4
  obtain⟨p,hp,he⟩:=h4
  have:=(h.mem p hp).1
  exact gy p hp (by simp at he;omega)
 have kU:(fL pl m).Pairwise (· <·):=Ak _ xR
 have jV:∀i∈fL pl m,(f i).req=i:=fun i hi=>by
  obtain⟨h0,h1,_⟩:=cd i hi
  exact(kg hw h0 h1 (iy i hi).1).2.1
 have dI:∀i∈fL pl m,bZ w (f i):=fun i hi=>by
  obtain⟨h0,h1,_⟩:=cd i hi
  exact(kg hw h0 h1 (iy i hi).1).1
 have hR:VP w (pl++(fL pl m).map f):=by
  refine⟨fun p hp=>?_,?_,?_⟩
  ·rcases dC.1 hp with hp|hp
   ·exact h.mem p hp
   ·obtain⟨i,hi,rfl⟩:=cz.1 hp
    obtain⟨h0,h1,_⟩:=cd i hi
    rw[jV i hi]
    exact⟨h0,h1,(iy i hi).1⟩
  ·rw[gp]
   refine⟨h.gY,?_,fun a ha b hb=>?_⟩
   ·rw[qE]
    refine kU.imp_of_mem fun{a b} ha hb fE=>?_
    rw[jV a ha,jV b hb];exact fE
   ·obtain⟨i,hi,rfl⟩:=cz.1 hb
    have:=hk a ha
    have:=(cd i hi).2.2.2.1
    rw[jV i hi];omega
  ·rw[gp]
   refine⟨h.nc,?_,fun a ha b hb=>?_⟩
   ·rw[qE]
    refine kU.imp_of_mem fun{a b} ha hb fE=>?_
    exact lH a ha b hb (by omega)
   ·obtain⟨i,hi,rfl⟩:=cz.1 hb
    rw[yP hw (h.iD hw a ha) (dI i hi)]
    exact(iy i hi).2 a ha
 refine⟨(fL pl m).map f,hR,?_,fun p hp=>?_⟩
 ·apply Ml
  intro i
  rw[nS,s7,uz,sZ,eA,eA]
  constructor
  ·rintro(⟨p,hp,he⟩|⟨p,hp,he⟩)
   ·have h0:=(h.mem p hp).1
    have h1:=hk p hp
    have ji:p.req.toNat=i:=by simpa using he
    rw[vx i (by omega),nS,eA]
    exact⟨p,hp,he⟩
   ·obtain⟨j,hj,rfl⟩:=cz.1 hp
    have ji:(f j).req.toNat=i:=by simpa using he
    rw[jV j hj]at ji
    rw[←ji];exact(cd j hj).2.2.1
  ·intro hb
   by_cases hex:∃p∈pl,p.req.toNat=i
   ·obtain⟨p,hp,he⟩:=hex
    exact .inl ⟨p,hp,by simpa using he⟩
   ·right
    have hi:(i:Int)∈fL pl m:=by
     refine eH.2 ⟨(tY oG).2 ⟨by omega,by simpa using hb⟩,?_⟩
     rw[TD]
     unfold aL
     rw[yb]
     intro p hp he
     have:p.req=(i:Int):=by simpa using he
     exact hex ⟨p,hp,by omega⟩
    refine⟨f i,cz.2 ⟨i,hi,rfl⟩,?_⟩
    rw[jV _ hi];simp
 ·obtain⟨i,hi,rfl⟩:=cz.1 hp
  rw[jV i hi];exact(cd i hi).2.2.2.1
end
section
variable{w:W}
theorem arj {all:List (Sl P×Bool)} {m:Nat}:∀{k:Nat},(∀c∈all,c.2=true)→ub m k all=true:=by
 induction all with
 |nil=>intro k _;rfl
 |cons c r ih=>
  intro k h
  simp only[ub]
  rw[h c (by simp),Ah,ia]
  exact ih fun x hx=>h x (iI _ hx)
theorem ari {m:Nat}:pI (bf w) m=true:=by
 unfold pI
 refine arj fun c hc=>?_
 unfold bf pZ at hc
 obtain⟨i,_,rfl⟩:=cz.1 hc
 rfl
theorem Hn:∀{N:Nat},(∀m,m∈(di w (bf w) N).2↔m<N∧c8 w (bf w) [] m=true∧jt w m=(di w (bf w) N).1)∧(∀m,m<N→c8 w (bf w) [] m=true→jt w m≤(di w (bf w) N).1)
 |0=>⟨fun m=>by simp[di],fun m h=>by omega⟩
 | N + 1 => by
  obtain⟨h1,h2⟩:=Hn (N:=N)
  rw[Ad]
  unfold rM
  rw[ari,ia]
  cases hf:c8 w (bf w) [] N with
  | false =>
   rw[nq,aq (by decide)]
   refine⟨fun m=>?_,fun m hm lI=>?_⟩
   ·rw[h1]
    constructor
    ·rintro⟨a,b,c⟩;exact⟨by omega,b,c⟩
    ·rintro⟨a,b,c⟩
     have:m≠N:=by intro e;rw[e,hf]at b;exact absurd b (by decide)
     exact⟨by omega,b,c⟩
   ·have:m≠N:=by intro e;rw[e,hf]at lI;exact absurd lI (by decide)
    exact h2 m (by omega) lI
  | true =>
   rw[qD]
   by_cases hle:(di w (bf w) N).1≤jt w N
   ·rw [ak (by simpa using hle)]
    by_cases aC:(di w (bf w) N).1<jt w N
    ·rw[ak aC]
     refine⟨fun m=>?_,fun m hm lI=>?_⟩
     ·simp only[dD]
      constructor
      ·rintro rfl;exact⟨by omega,hf,rfl⟩
      ·rintro⟨a,b,c⟩
       apply n6
       intro aD
       have:=h2 m (by omega) b
       omega
     ·show jt w m≤jt w N
      by_cases e:m=N
      ·rw[e];exact Aj _
      ·have:=h2 m (by omega) lI;omega
    ·rw[aq aC]
     refine⟨fun m=>?_,fun m hm lI=>?_⟩
     ·simp only[dC,dD]
      rw[h1]
      constructor
      ·rintro(⟨a,b,c⟩|rfl)
       ·exact⟨by omega,b,c⟩
       ·exact⟨by omega,hf,by omega⟩
      ·rintro⟨a,b,c⟩
       by_cases e:m=N
       ·exact .inr e
       ·exact .inl ⟨by omega,b,c⟩
     ·show jt w m≤(di w (bf w) N).1
      by_cases e:m=N
      ·rw[e];omega
      ·exact h2 m (by omega) lI
   ·rw[aq (by simpa using hle)]
    refine⟨fun m=>?_,fun m hm lI=>?_⟩
    ·rw[h1]
     constructor
     ·rintro⟨a,b,c⟩;exact⟨by omega,b,c⟩
     ·rintro⟨a,b,c⟩
      by_cases e:m=N
      ·subst e;omega
      ·exact⟨by omega,b,c⟩
    ·by_cases e:m=N
     ·subst e;omega
     ·exact h2 m (by omega) lI
def rC (w:W):Int:=(di w (bf w) (2^w.rs.l.length)).1
def zO (w:W):List Nat:=(di w (bf w) (2^w.rs.l.length)).2
theorem VP.le_max (hw:Wk w) {R:List P} (h:VP w R):bw w R≤rC w:=by
 have:=JV hw (pl:=[]) (rest:=R) (by simpa using h)
 rw[kq]at this
 have h2:=(Hn (w:=w) (N:=2^w.rs.l.length)).2 (cH R) h.qw this
 rwa [h.val hw]at h2
theorem VP.zI (hw:Wk w) {R:List P} (h:VP w R):cH R∈zO w↔bw w R=rC w:=by
 have hf:=JV hw (pl:=[]) (rest:=R) (by simpa using h)
 rw[kq]at hf
 rw[show zO w=(di w (bf w) (2^w.rs.l.length)).2 from rfl,(Hn (w:=w) (N:=2^w.rs.l.length)).1]
 rw[h.val hw]
 exact⟨fun h=>h.2.2,fun hv=>⟨h.qw,hf,hv⟩⟩
theorem apk (hw:Wk w):∃R,VP w R∧bw w R=rC w:=by
 have h0:cH ([]:List P)<2^w.rs.l.length:=(VP.nil (w:=w)).qw
 have hle:=(VP.nil (w:=w)).le_max hw
 have QG:bw w []=0:=rfl
 have key:∀N,(di w (bf w) N).1=-1∨∃m,m∈(di w (bf w) N).2:=by
  intro N
  induction N with
  |zero=>left;rfl
  | succ N ih =>
   rw[Ad];unfold rM
   split
   ·split
    ·right;exact⟨N,by simp⟩
    ·right;exact⟨N,by simp⟩
   ·exact ih
 rcases key (2^w.rs.l.length)with h|⟨m,hm⟩
 ·have:rC w=-1:=h
  omega
 ·obtain⟨h1,h2,h3⟩:=(Hn (w:=w) (N:=2^w.rs.l.length)).1 m |>.1 hm
  obtain⟨R,hR,ho,_⟩:=RN hw (pl:=[]) (k:=0) VP.nil (fun p hp=>absurd hp (by simp)) h1 (fun i hi=>by omega) h2
  rw[kq]at hR ho
  exact⟨R,hR,by rw[←hR.val hw,ho];exact h3⟩
end
section
variable{w:W}
theorem Rs {all:List (Sl P×Bool)} {plan:List P} {own:Nat} {sets:List Nat} {q:P} {j:Nat} (hq:(all.getD j default).1.l.find? (kf w all plan own sets j)=some q):
  ∀{n i:Nat},i≤j→j<i+n→(∀i',i≤i'→i'<j→(all.getD i' default).1.l.find? (kf w all plan own sets i')=none)→ng w all plan own sets i n=some q
 |0,i,h1,h2,_=>by omega
 | n + 1, i, h1, h2, h3 => by
  simp only[ng]
  by_cases e:i=j
  ·subst e;rw[hq]
  ·rw[h3 i (aH _) (by omega)]
   exact Rs hq (by omega) (by omega) fun i' a b=>h3 i' (by omega) b
theorem ahe {pl:List P} {w:W} (h:VP w pl) {i:Int}:((j9 pl:Nat):Int)≤i→∀p∈pl,p.req<i:=by
 intro hi p hp
 unfold j9 at hi
 cases hl:pl.getLast? with
 |none=>rw[Mb]at hl;subst hl;exact absurd hp (by simp)
 | some z =>
  rw[hl]at hi
  simp only at hi
  have hz:=(h.mem z (HN hl)).1
  have Ql:p.req≤z.req:=by
   obtain⟨a,ha⟩:=acr.1 hl
   rw[ha,dC,dD]at hp
   rcases hp with hp|rfl
   ·have:=h.gY
    rw[ha,gp]at this
    exact Int.le_of_lt (this.2.2 p hp z (by simp))
   ·exact Aj _
  omega
theorem ahc {pl t:List P} {q:P} {w:W} (h:VP w (pl++q::t)):j9 pl≤q.req.toNat:=by
 unfold j9
 cases hl:pl.getLast? with
 |none=>exact bp _
 |some z=>
  have GN:=HN hl
  have hz:=(h.mem z (oP _ GN)).1
  have:=h.gY
  rw[gp]at this
  have:=this.2.2 z GN q (by simp)
  show z.req.toNat+1≤q.req.toNat
  omega
theorem Jn {m o i:Nat}:m&&&(2^(i+1)-1)=o|||2^i↔∀j,((m.testBit j&&decide (j<i+1))=(o.testBit j||decide (i=j))):=by
 constructor
 ·intro h j
  have:=gS (fun x=>Nat.testBit x j) h
  simp only[Nat.testBit_and,TA,yj,CV]at this
  exact this
 ·intro h
  apply Ml
  intro j
  rw[Nat.testBit_and,TA,yj,CV]
  exact h j
theorem uZ {p:P} {l:List P}:cK w p l=false↔∀q∈l,cS w q p=false:=by
 unfold cK
 rw[uD]
 constructor
 ·intro h q hq;simpa using h q hq
 ·intro h q hq;simpa using h q hq
theorem ZQ (hw:Wk w) {pl:List P} (h:VP w pl) {i:Nat} (hi:j9 pl≤i) (bh:i<w.rs.l.length) {p:P} (hp:p∈dA w (i:Int)) (ho:kf w (bf w) pl (cH pl) (zO w) i p=true):
  ∃rest,VP w (pl++p::rest)∧bw w (pl++p::rest)=rC w:=by
 unfold kf at ho
 rw[dB]at ho
 obtain⟨hc,hs⟩:=ho
 have hc:cK w p pl=false:=by simpa using hc
 obtain⟨m,hm,fQ⟩:=eA.1 hs
 rw[dB,dU]at fQ
 obtain⟨vx,kW⟩:=fQ
 obtain⟨dI,hr,_⟩:=kg hw (show(0:Int)≤(i:Int)by omega) (by omega) hp
 have jV:=ahe h (i:=(i:Int)) (by omega)
 have h1:VP w (pl++[p]):=by
  refine⟨fun q hq=>?_,?_,?_⟩
  ·rw[dC,dD]at hq
   rcases hq with hq|rfl
   ·exact h.mem q hq
   ·rw[hr];exact⟨by omega,by omega,hp⟩
  ·rw[gp]
   refine⟨h.gY,uJ _ _,fun a ha b hb=>?_⟩
   rw[dD]at hb;subst hb
   rw[hr];exact jV a ha
  ·rw[gp]
   refine⟨h.nc,uJ _ _,fun a ha b hb=>?_⟩
   rw[dD]at hb;subst hb
   exact uZ.1 hc a ha
 obtain⟨P3,Kv,P5⟩:=(Hn (w:=w) (N:=2^w.rs.l.length)).1 m |>.1 hm
 have hb:=Jn.1 vx
 obtain⟨rest,hR,jy,_⟩:=RN hw (pl:=pl++[p]) (m:=m) (k:=i+1) h1 (fun q hq=>by
  rw[dC,dD]at hq
  rcases hq with hq|rfl
  ·have:=jV q hq;omega
  ·rw[hr];omega) P3 (fun j hj=>by
  have:=hb j
  rw[bM hj,qD]at this
  rw[this,RE,yj,hr,CV];simp) kW
 rw[gN,Tn]at hR jy
 exact⟨rest,hR,by rw[←hR.val hw,jy];exact P5⟩
theorem Xm (hw : Wk w) {Q : List P} (hQ : VP w Q) (hv : bw w Q = rC w) (lL : ∀ R, VP w R → bw w R = rC w → cw R Q = false) :
  ∀(fuel:Nat) (pl t:List P),Q=pl++t→t.length<fuel→mg w (bf w) (zO w) fuel pl=Q
 |0,_,_,_,h=>absurd h (df _)
 | fuel + 1, pl, t, hq, hl => by
  simp only[mg]
  have cI:VP w pl:=by rw[hq]at hQ;exact hQ.pre
  cases t with
  |nil=>
   rw[iG]at hq
   subst hq
   rw[ak (eA.2 ⟨cH Q,(hQ.zI hw).2 hv,by simp⟩)]
  | cons q t =>
   rw[aq (by
    intro h
    obtain⟨m,hm,he⟩:=eA.1 h
    have he:cH pl=m:=by simpa using he
    rw[←he]at hm
    have:=lL pl cI ((cI.zI hw).1 hm)
    rw[hq,Vc (by simp)]at this
    exact absurd this (by decide))]
   have qa:=hQ
   rw[hq]at qa
   obtain⟨q0,q1,qp⟩:=qa.mem q (by simp)
   have hlen:(bf w).length=w.rs.l.length:=by unfold bf pZ;simp
   have Kt:((q.req.toNat:Nat):Int)=q.req:=by omega
   have jk:=ahc qa
   have P9 : qt w (bf w) pl (cH pl) (zO w) = some q := by
    unfold qt
    rw[hlen]
    refine Rs (j:=q.req.toNat) ?_ jk (by omega) ?_
    ·rw [OT (by omega), iJ, Kt]
     rw[acn]
     have GB:=aaJ hw q0 q1
     obtain⟨as,bs,fE⟩:=List.append_of_mem qp
     refine⟨?_,as,bs,fE,fun p hp=>?_⟩
     · -- q itself may come next
      unfold kf
      rw[dB]
      refine⟨?_,eA.2 ⟨cH Q,(hQ.zI hw).2 hv,?_⟩⟩
      ·have:cK w q pl=false:=uZ.2 fun a ha=>by
        have:=qa.nc
        rw[gp]at this
        exact this.2.2 a ha q (by simp)
       rw[this];rfl
      ·rw [dB, dU]
       constructor
       ·rw[Jn]
        intro j
        rw[hq,nS,nS,s7,nr]
        have kU:=qa.gY
        rw[gp,tf]at kU
        have ht:∀x∈t,q.req<x.req:=kU.2.1.1
        have pr:∀x∈pl,x.req<q.req:=fun x hx=>kU.2.2 x hx q (by simp)
        have h0:∀x∈pl,0≤x.req:=fun x hx=>(cI.mem x hx).1
        by_cases hj:j<q.req.toNat+1
        ·rw[bM hj,qD]
         have:(t.any fun p=>decide (p.req.toNat=j))=false:=by
          rw[uD];intro x hx;have:=ht x hx;simp;omega
         rw[this,Ag]
        ·rw[bX hj,nq]
         have h1:(pl.any fun p=>decide (p.req.toNat=j))=false:=by
          rw[uD];intro x hx;have:=pr x hx;have:=h0 x hx;simp;omega
         rw[h1,bX (by omega)];rfl
       ·rw[hq,show pl++q::t=(pl++[q])++t by simp]
        exact JV hw (by rw[gN];exact qa)
     · -- an earlier one would give an earlier plan
      rw[sY]
      cases ho:kf w (bf w) pl (cH pl) (zO w) q.req.toNat p with
      |false=>rfl
      | true =>
       have lN:p∈dA w q.req:=by rw[fE];simp[hp]
       obtain⟨rest,hR,tK⟩:=ZQ hw cI jk (by omega) (by rw[Kt];exact lN) ho
       have:=lL _ hR tK
       rw[hq,AZ]at this
       have aC:lexB (kP p) (kP q)=true:=by
        rw[fE,gp]at GB
        exact GB.2.2 p hp q (by simp)
       simp only[cw]at this
       rw[aq (by intro e;rw[e,zL]at aC;exact absurd aC (by decide)),aC]at this
       exact absurd this (by decide)
    ·intro i' h1 h2
     rw[OT (by omega),iJ,yb]
     intro p hp ho
     obtain⟨rest,hR,tK⟩:=ZQ hw cI h1 (by omega) hp ho
     have:=lL _ hR tK
     rw[hq,AZ]at this
     have hr:=(kg hw (show(0:Int)≤(i':Int)by omega) (by omega) hp).2.1
     have aC:lexB (kP p) (kP q)=true:=by
      unfold kP
      simp only[lexB]
      rw[aq (by omega)];simp;omega
     simp only[cw]at this
     rw[aq (by intro e;rw[e,zL]at aC;exact absurd aC (by decide)),aC]at this
     exact absurd this (by decide)
   rw[P9]
   exact Xm hw hQ hv lL fuel (pl++[q]) t (by rw[hq];simp) (by simp at hl;omega)
theorem adS (hw:Wk w) {Q:List P} (hQ:VP w Q) (hv:bw w Q=rC w) (lL:∀R,VP w R→bw w R=rC w→cw R Q=false):ny w=(Q,rC w,true):=by
 have hlen:(bf w).length=w.rs.l.length:=by unfold bf pZ;simp
 have hle:=(VP.nil (w:=w)).le_max hw
 have QG:bw w []=0:=rfl
 unfold ny gZ
 rw[hlen]
 rw[aq (show¬(di w (bf w) (2^w.rs.l.length)).1<0 from by show¬rC w<0;omega)]
 have Gx:Q.length<w.rs.l.length+1:=by
  have:∀(l:List P) (k:Int),0≤k→l.Pairwise (fun a b=>a.req<b.req)→(∀p∈l,k≤p.req∧p.req<w.rs.l.length)→(l.length:Int)≤w.rs.l.length-k∨l=[]:=by
   intro l
   induction l with
   |nil=>intro _ _ _ _;right;rfl
   |cons x r ih=>
    intro k hk hp hm
    left
    have hx:=hm x (by simp)
    have rh:=tf.1 hp
    rcases ih (x.req+1) (by omega) rh.2 (fun p zr=>⟨by have:=rh.1 p zr;omega,(hm p (iI _ zr)).2⟩)with h|h
    ·simp only[eo];omega
    ·subst h;simp;omega
  rcases this Q 0 (by omega) hQ.gY (fun p hp=>⟨(hQ.mem p hp).1,(hQ.mem p hp).2.1⟩)with h|h
  ·omega
  ·subst h;simp
 have:=Xm hw hQ hv lL (w.rs.l.length+1) [] Q rfl Gx
 rw[show(di w (bf w) (2^w.rs.l.length)).2=zO w from rfl,this]
 rfl
end
section
variable{w:W}
def lV (w:W) (rq:List Int):Nat→Nat→List P→List (List P)
 |_,0,l=>[l]
 |i,k+1,l=>lV w rq (i+1) k l++if(rq.any fun x=>decide (x=(i:Int)))=true then(bS w l i).flatMap fun p=>lV w rq (i+1) k (l++[p])else[]
theorem VP.snoc (hw:Wk w) {l:List P} (h:VP w l) {i:Nat} (hi:∀p∈l,p.req<i) (bh:i<w.rs.l.length) {p:P} (hp:p∈bS w l i):VP w (l++[p])∧p.req=i:=by
 obtain⟨iR,hc⟩:=eH.1 hp
 have hc:cK w p l=false:=by simpa using hc
 obtain⟨dI,hr,_⟩:=kg hw (show(0:Int)≤(i:Int)by omega) (by omega) iR
 refine⟨⟨fun q hq=>?_,?_,?_⟩,hr⟩
 ·rw[dC,dD]at hq
  rcases hq with hq|rfl
  ·exact h.mem q hq
  ·rw[hr];exact⟨by omega,by omega,iR⟩
 ·rw[gp]
  refine⟨h.gY,uJ _ _,fun a ha b hb=>?_⟩
  rw[dD]at hb;subst hb
  rw[hr];exact hi a ha
 ·rw[gp]
  refine⟨h.nc,uJ _ _,fun a ha b hb=>?_⟩
  rw[dD]at hb;subst hb
  exact uZ.1 hc a ha
theorem xU (hw:Wk w) {rq:List Int}:∀{k i:Nat} {l X:List P},i+k=w.rs.l.length→VP w l→(∀p∈l,p.req<i)→
  (X∈lV w rq i k l↔VP w X∧∃t,X=l++t∧∀p∈t,(i:Int)≤p.req∧p.req∈rq)
 | 0, i, l, X, hk, hl, hi => by
  simp only[lV,dD]
  constructor
  ·rintro rfl;exact⟨hl,[],by simp,fun p hp=>absurd hp (by simp)⟩
  ·rintro⟨hX,t,rfl,ht⟩
   cases t with
   |nil=>simp
   |cons p t=>
    have h1:=(hX.mem p (by simp)).2.1
    have h2:=(ht p (by simp)).1
    omega
 | k + 1, i, l, X, hk, hl, hi => by
  simp only[lV,dC]
  rw[xU hw (k:=k) (i:=i+1) (by omega) hl fun p hp=>by have:=hi p hp;omega]
  constructor
  ·rintro(⟨hX,t,rfl,ht⟩|h)
   ·exact⟨hX,t,rfl,fun p hp=>⟨by have:=(ht p hp).1;omega,(ht p hp).2⟩⟩
   ·by_cases hr:(rq.any fun x=>decide (x=(i:Int)))=true
    ·rw[ak hr,List.mem_flatMap]at h
     obtain⟨p,hp,hX⟩:=h
     obtain⟨hv,sA⟩:=hl.snoc hw hi (by omega) hp
     rw[xU hw (k:=k) (i:=i+1) (by omega) hv fun q hq=>by
      rw[dC,dD]at hq
      rcases hq with hq|rfl
      ·have:=hi q hq;omega
      ·omega]at hX
     obtain⟨hX,t,rfl,ht⟩:=hX
     refine⟨hX,p::t,by simp,fun q hq=>?_⟩
     rcases er.1 hq with rfl|hq
     ·refine⟨by omega,?_⟩
      obtain⟨x,hx,he⟩:=eA.1 hr
      rw[sA,←zV he];exact hx
     ·exact⟨by have:=(ht q hq).1;omega,(ht q hq).2⟩
    ·rw[aq hr]at h;exact absurd h (by simp)
  ·rintro⟨hX,t,rfl,ht⟩
   by_cases hex:∃p t',t=p::t'∧p.req=i
   ·obtain⟨p,t',rfl,hp⟩:=hex
    right
    have hr:(rq.any fun x=>decide (x=(i:Int)))=true:=eA.2 ⟨p.req,(ht p (by simp)).2,by simp[hp]⟩
    rw[ak hr,List.mem_flatMap]
    have lN:=(hX.mem p (by simp)).2.2
    rw[hp]at lN
    have tS:p∈bS w l i:=eH.2 ⟨lN,by
     have:cK w p l=false:=uZ.2 fun a ha=>by
      have:=hX.nc
      rw[gp]at this
      exact this.2.2 a ha p (by simp)
     rw[this];rfl⟩
    obtain⟨hv,sA⟩:=hl.snoc hw hi (by omega) tS
    refine⟨p,tS,?_⟩
    rw[xU hw (k:=k) (i:=i+1) (by omega) hv fun q hq=>by
      rw[dC,dD]at hq
      rcases hq with hq|rfl
      ·have:=hi q hq;omega
      ·omega]
    refine⟨hX,t',by simp,fun q hq=>⟨?_,(ht q (iI _ hq)).2⟩⟩
    have:=hX.gY
    rw[gp,tf]at this
    have:=this.2.1.1 q hq
    omega
   ·left
    refine⟨hX,t,rfl,fun p hp=>⟨?_,(ht p hp).2⟩⟩
    cases t with
    |nil=>exact absurd hp (by simp)
    | cons q t' =>
     have hq:=(ht q (by simp)).1
     have hqn:q.req≠i:=fun e=>hex ⟨q,t',rfl,e⟩
     rcases er.1 hp with rfl|hp
     ·omega
     ·have:=hX.gY
      rw[gp,tf]at this
      have:=this.2.1.1 p hp
      omega
theorem adN {y:List P}:∀{a b:List P},a.map kP=b.map kP→cw y a=cw y b:=by
 induction y with
 | nil =>
  intro a b h
  cases a with
  |nil=>cases b with
   |nil=>rfl
   |cons _ _=>simp at h
  |cons _ _=>cases b with
   |nil=>simp at h
   |cons _ _=>rfl
 | cons x r ih =>
  intro a b h
  cases a with
  |nil=>cases b with
   |nil=>rfl
   |cons _ _=>simp at h
  | cons u a => cases b with
   |nil=>simp at h
   |cons v b=>
    rw[iH,iH,v7]at h
    simp only[cw]
    rw[h.1,ih h.2]
def better (w:W) (a b:List P):Bool:=decide (bw w b<bw w a)||(decide (bw w a=bw w b)&&cw a b)
def jx (w:W) (b:List P) (l:List (List P)):List P:=l.foldl (fun b x=>if better w x b=true then x else b) b
theorem DV:∀{l:List (List P)} {b:List P},(jx w b l=b∨jx w b l∈l)∧bw w b≤bw w (jx w b l)∧(∀x∈l,bw w x≤bw w (jx w b l))∧
  (bw w b=bw w (jx w b l)→cw b (jx w b l)=false)∧(∀x∈l,bw w x=bw w (jx w b l)→cw x (jx w b l)=false)
 |[],b=>⟨.inl rfl,Aj _,fun x hx=>absurd hx (by simp),fun _=>N6,fun x hx=>absurd hx (by simp)⟩
 | x :: r, b => by
  have e:jx w b (x::r)=jx w (if better w x b=true then x else b) r:=rfl
  rw[e]
  by_cases hb:better w x b=true
  ·rw[ak hb]
   obtain⟨h1,h2,h3,h4,h5⟩:=DV (l:=r) (b:=x)
   have sG:bw w b≤bw w x∧(bw w b=bw w x→cw x b=true):=by
    unfold better at hb
    rw[sZ,dB,dU,dU]at hb
    rcases hb with hb|⟨hb,gw⟩
    ·exact⟨by omega,fun h=>by omega⟩
    ·exact⟨by omega,fun _=>gw⟩
   refine⟨?_,by omega,fun y hy=>?_,fun hv=>?_,fun y hy hv=>?_⟩
   ·rcases h1 with h1|h1
    ·right;rw[h1];simp
    ·right;exact iI _ h1
   ·rcases er.1 hy with rfl|hy
    ·exact h2
    ·exact h3 y hy
   ·have hx:=h4 (by omega)
    have dw:=sG.2 (by omega)
    cases hc:cw b (jx w x r)with
    |false=>rfl
    |true=>rw[DT dw hc]at hx;exact absurd hx (by decide)
   ·rcases er.1 hy with rfl|hy
    ·exact h4 hv
    ·exact h5 y hy hv
  ·rw [aq hb]
   obtain⟨h1,h2,h3,h4,h5⟩:=DV (l:=r) (b:=b)
   have sG:bw w x≤bw w b∧(bw w x=bw w b→cw x b=false):=by
    unfold better at hb
    rw[sZ,dB,dU,dU,not_or]at hb
    refine⟨by omega,fun hv=>?_⟩
    cases hc:cw x b with
    |false=>rfl
    |true=>exact absurd ⟨hv,hc⟩ hb.2
   refine⟨?_,h2,fun y hy=>?_,h4,fun y hy hv=>?_⟩
   ·rcases h1 with h1|h1
    ·exact .inl h1
    ·right;exact iI _ h1
   ·rcases er.1 hy with rfl|hy
    ·omega
    ·exact h3 y hy
   ·rcases er.1 hy with rfl|hy
    ·have hx:=sG.2 (by omega)
     have gw:=h4 (by omega)
     cases hc:cw y (jx w b r)with
     |false=>rfl
     | true =>
      cases XI:cw (jx w b r) b with
      |true=>rw[DT hc XI]at hx;exact absurd hx (by decide)
      |false=>
       have hk:=N7 gw XI
       rw[adN (rN hk),hx]at hc
       exact absurd hc (by decide)
    ·exact h5 y hy hv
theorem adW (hw:Wk w) {rq:List Int} (B4:∀i:Nat,i<w.rs.l.length→(i:Int)∈rq) {b:List P} {r:List (List P)} (hp:lV w rq 0 w.rs.l.length []=b::r):ny w=(jx w b r,bw w (jx w b r),true):=by
 have xq:=fun X=>xU (X:=X) hw (rq:=rq) (k:=w.rs.l.length) (i:=0) (by omega) VP.nil (fun p hp=>absurd hp (by simp))
 rw[hp]at xq
 have gg:∀X,X∈b::r↔VP w X:=fun X=>by
  rw[xq X]
  constructor
  ·rintro⟨h,_⟩;exact h
  ·intro h
   refine⟨h,X,rfl,fun p hp=>?_⟩
   obtain⟨h0,h1,_⟩:=h.mem p hp
   have:=B4 p.req.toNat (by omega)
   rw[show((p.req.toNat:Nat):Int)=p.req by omega]at this
   exact⟨by omega,this⟩
 obtain⟨h1,h2,h3,h4,h5⟩:=DV (w:=w) (l:=r) (b:=b)
 have hQ:VP w (jx w b r):=(gg _).1 (by
  rcases h1 with h|h
  ·rw[h];simp
  ·exact iI _ h)
 have fi:∀X,VP w X→bw w X≤bw w (jx w b r):=fun X hX=>by
  rcases er.1 ((gg X).2 hX)with rfl|h
  ·exact h2
  ·exact h3 X h
 obtain⟨R,hR,tK⟩:=apk hw
 have hv:bw w (jx w b r)=rC w:=by
  have:=fi R hR
  have:=hQ.le_max hw
  omega
 rw[adS hw hQ hv fun X hX hXv=>by
  rcases er.1 ((gg X).2 hX)with rfl|h
  ·exact h4 (by omega)
  ·exact h5 X h (by omega),hv]
end
end Go.Ax.Sx.Sc
