/-
  What a week is among the values that an argument may read as.
-/
import Derived.Test.YtplkfafeoocmlaaGreatDoorT10
import Derived.Test.YtplkfafeoocmlaaGreatDoorT8
import Derived.Test.YtplkfafeoocmlaaGreatDoorT6
set_option linter.unusedSimpArgs false
set_option linter.unusedVariables false
set_option maxRecDepth 100000
namespace Go.Ax.Sx.Sc
open Go.Ax
theorem aav {es:Nat} {o:Own} {xs:List (List AV)} {a b:Nat} (h1:a≤b) (h2:b≤xs.length):∃o',gD (.sl es) (.slice o es xs) (some (I (a:Int))) (some (I (b:Int))) none=some (.slice o' es ((xs.take b).drop a)):=by
 have e1:jS (some (I (b:Int))) false xs.length xs.length=some b:=by simp[jS,asNat];omega
 have e2:jG (some (I (a:Int))) b=some a:=by simp[jG,asNat];omega
 refine⟨um o false (a==0&&b==xs.length) (b==xs.length&&decide (0<xs.length)),?_⟩
 simp only[gD,pG,Lf,bP,et,pR,e1,e2,dE]
theorem aq8 {es:Nat} {xs:List (List AV)} {b:Nat} (h2:b≤xs.length):gD (.sl es) (.slice .any es xs) none (some (I (b:Int))) none=some (.slice .any es (xs.take b)):=by
 have e1:jS (some (I (b:Int))) false xs.length xs.length=some b:=by simp[jS,asNat];omega
 simp only[gD,pG,Lf,bP,et,pR,e1,jG,dE,ko,um,Cx,ez,db]
theorem Z6 {α:Type} {l:List α} {k:Nat} {x:α} (h:l[k]? =some x):(l.take (k+1)).drop k=[x]:=by
 have hk:=(bd.1 h).1
 rw[fF h,List.drop_left' (by rw[fc];omega)]
section
variable{s:ae} {w:W}
theorem atM (hs:Ok s):au AP (.fn 4) [] s=some (B true,s):=by
 have bW:∀r,au AP (.fn 20) [] (s.push r)=some (WK.v,s.push r):=fun r=>aor (hs.push r)
 have kE:∀r,au AP (.fn 8) [WK.v] (s.push r)=some (.tuple [aU 3 (L3.map aj),I 23,I 0],s.push r):=fun r=>by
  rw[aa9 (hs.push r) acH acF,acI,ak rfl,ak rfl,acE,acJ]
 have y9:aU 3 (L3.map aj)=.slice .any 3 (L3.map aj):=rfl
 have BQ:∀r,au AP (.fn 21) [.slice .any 3 (L3.map aj)] (s.push r)=some (S (tx [48,64,48,43,48,32,49,64,48,43,49,32,50,64,53,43,48,43,49]),s.push r):=fun r=>by
  rw[asQ (hs.push r) (.inr rfl) (by decide) fun p hp=>⟨(S3 p hp).1,(S3 p hp).2.2⟩,acG]
 rw[y9]at kE
 generalize hv:WK.v=V at*
 generalize(AV.slice .any 3 (L3.map aj))=VL at*
 rw[aM (show AP 4=some EP from rfl) rfl]
 have hds : decide (tx [48, 64, 48, 43, 48, 32, 49, 64, 48, 43, 49, 32, 50, 64, 53, 43, 48, 43, 49] = ⟨#[48, 64, 48, 43, 48, 32, 49, 64, 48, 43, 49, 32, 50, 64, 53, 43, 48, 43, 49]⟩) = true := bM rfl
 simp(maxSteps:=1000000) only[go_sem,UH,bW,kE,BQ,hds,Nat.reduceEqDiff,↓reduceIte]
theorem atL (hs : Ok s) (hw : w.Ok) (hb : w.HA) : au AP (.fn 3) [w.v] s = some (B true, s) := by
 have FX:∀r,au AP (.fn 4) [] (s.push r)=some (B true,s.push r):=fun r=>atM (hs.push r)
 have qd:∀r,au AP (.fn 5) [w.v] (s.push r)=some (B (G6 w),s.push r):=fun r=>aoq (hs.push r) hw hb
 simp only[W.v,cJ,Sl.v]at qd
 cases hf:G6 w with
 |false=>
  rw[hf]at qd
  simp only[W.v,cJ,Sl.v]
  rw[aM (show AP 3=some uV from rfl) rfl]
  simp(maxSteps:=1000000) only[go_sem,AX,FX,qd,Nat.reduceEqDiff,Nat.reduceAdd,↓reduceIte]
 |true=>
 rw[hf]at qd
 have hF:w.ju:=WL (by unfold G6 at hf;rw[dB]at hf;exact hf.1)
 have qi:∀r,au AP (.fn 6) [w.v] (s.push r)=some (I (eO w),s.push r):=fun r=>aaP (hs.push r) hw hF
 simp only[W.v,cJ,Sl.v]at qi
 by_cases h0:eO w=0
 rotate_left
 ·simp only[W.v,cJ,Sl.v]
  rw[aM (show AP 3=some uV from rfl) rfl]
  simp(maxSteps:=1000000) only[go_sem,AX,FX,qd,qi,h0,bn,iC,qN,Nat.reduceEqDiff,Nat.reduceAdd,↓reduceIte]
 rw[h0]at qi
 by_cases hn:w.rs.l=[]
 ·have hz:ld false (.slice w.rs.o w.rs.e (w.rs.l.map bO))=some (I 0):=by rw[hn];rfl
  simp only[W.v,cJ,Sl.v]
  rw[aM (show AP 3=some uV from rfl) rfl]
  simp(maxSteps:=1000000) only[go_sem,AX,FX,qd,qi,hz,bn,eW,qN,nZ,Nat.reduceEqDiff,Nat.reduceAdd,↓reduceIte]
 obtain⟨k,hk⟩:∃k,k+1=w.rs.l.length:=⟨w.rs.l.length-1,by have:=ye.2 hn;omega⟩
 have vC:=Ae h0
 have bW:Wk w:=⟨hw,hF,pL vC⟩
 have dJ:=hF.rs
 have hlen:ld false (.slice w.rs.o w.rs.e (w.rs.l.map bO))=some (I ((k+1:Nat):Int)):=by
  show some (I ((w.rs.l.map bO).length:Int))=_
  rw[bR,hk]
 have Yc:decide (((k+1:Nat):Int)=0)=false:=bX (by omega)
 have zD:IntKind.i64.wrap (((k+1:Nat):Int)-1)=(k:Int):=by rw[ch (by omega) (by omega)];omega
 have oC:∀m:ae,Ok m→au AP (.fn 7) [w.v] m=some ((cW w).v,m):=fun m hm=>ar7 hm hw hF
 have Pz:∀r,au AP (.fn 7) [w.v] (s.push r)=some ((cW w).v,s.push r):=fun r=>oC _ (hs.push r)
 have Kj:∀m:ae,au AP (.fn 7) [w.v] (dt m)=some ((cW w).v,dt m):=fun m=>oC _ zW
 have iu:(cW w).rs=⟨.any,7,w.rs.l.map cR⟩:=by
  show cr 7 (w.rs.l.map cR)=_
  cases hl:w.rs.l with
  |nil=>exact absurd hl hn
  |cons a r=>rfl
 have pt:gD (.sl 7) (.slice (cW w).rs.o (cW w).rs.e ((cW w).rs.l.map bO)) none (some (I (k:Int))) none=some (.slice .any 7 (((cW w).rs.l.take k).map bO)):=by
  rw[iu]
  have:=aq8 (es:=7) (xs:=(w.rs.l.map cR).map bO) (b:=k) (by rw[bR,bR];omega)
  rw[←HL]at this
  exact this
 have akK:=bW.c vC
 have aP:=uU (w:=w)
 have Yp:eO (lW (cW w) k)=0:=atz (by rw[LI];exact h0)
 have Yr:(lW (cW w) k).Ok:=arJ A5
 have Yq:(lW (cW w) k).ju:=arI (A4 hF)
 obtain⟨Bp,Xs⟩:∃X,X=(ny (lW (cW w) k)).1:=⟨_,rfl⟩
 obtain⟨bo,be,hbv,kE⟩:∃o e,aU 3 (Bp.map aj)=.slice o e (Bp.map aj)∧(Bp=[]∨e=3):=by
  cases Bp with
  |nil=>exact⟨_,_,rfl,.inl rfl⟩
  |cons _ _=>exact⟨_,_,rfl,.inr rfl⟩
 have tM:∀r,au AP (.fn 8) [(lW (cW w) k).v] (s.push r)=some (.tuple [.slice bo be (Bp.map aj),I (ny (lW (cW w) k)).2.1,I 0],s.push r):=fun r=>by
  rw[aa9 (hs.push r) Yr Yq,Yp,ak rfl,ak rfl,←Xs,hbv]
 obtain⟨XC,aC⟩:=acD (w:=cW w) (k:=k) (by omega) (Xs ▸ (adU ⟨Yr,Yq,pL (Ae Yp)⟩).1)
 have Kb:VP w Bp:=(H6 bW vC).1 XC
 have FP:=Kb.Jr bW
 obtain⟨O8,qW⟩:=Kb.Og bW
 have cI:∀(m:ae) {l:List P} {o:Own} {e:Nat},Ok m→jO l→(l=[]∨e=3)→au AP (.fn 9) [w.v,.slice o e (l.map aj)] m=some (I (fh w l).2,m):=fun m l o e hm hl he=>by
  rw[ar9 hm hw hF hl he];unfold pJ;rw[ak vC]
 have nO:∀r,au AP (.fn 9) [w.v,.slice bo be (Bp.map aj)] (s.push r)=some (I 0,s.push r):=fun r=>by
  rw[cI _ (hs.push r) qW kE,O8]
 have dP:∀(m:ae) {l:List P} {o:Own} {e:Nat} (i:Int),jO l→(l=[]∨e=3)→au AP (.fn 10) [.slice o e (l.map aj),I i] m=some (I (dF (fun p:P=>decide (p.req=i)) l),m):=fun m l o e i hl he=>RW he (by have:=hl.len;omega)
 have Yo:∀m:ae,au AP (.fn 10) [.slice bo be (Bp.map aj),I (k:Int)] m=some (I (dF (fun p:P=>decide (p.req=(k:Int))) Bp),m):=fun m=>dP m _ qW kE
 have gb:=aax (l:=Bp) (i:=(k:Int))
 have P6:aL Bp (k:Int)=none:=RI fun p hp=>by have:=aC p hp;omega
 rw[P6]at gb
 simp only[pR]at gb
 obtain⟨x1,g1,nk,ef,tI,_⟩:=RV (o:=bo) (e:=be) (Q:=s) (tk:=[]) hs qW kE
 rw[FP]at tI
 obtain⟨p1,q1,rfl,tV⟩:=C1 tI
 have hm:∀{l:List P} {e:Nat},(l.map aj=[]∨e=3)→(l=[]∨e=3):=fun h=>by rcases h with h|h;exact .inl (by simpa using h);exact .inr h
 have bh:∀r,au AP (.fn 11) [(cW w).v,.slice p1 q1 (Bp.map aj),I (k:Int)] (s.push r)=some (KT (cW w) Bp k,s.push r):=fun r=>asR (hs.push r) A5 (A4 hF) qW (hm tV)
 have hE:vH (cW w) Bp k=0:=by
  unfold vH
  have:=Oh (w:=w) (l:=Bp)
  rw[FP,O8]at this
  rw[LI,this,ak h0,ak rfl,aP,iE.2 ⟨by omega,by omega⟩];rfl
 unfold KT at bh
 rw[hE,ak rfl,ak rfl]at bh
 have hR:=ak9 akK XC (req:=(k:Int)) (by omega) (by omega)
 have akf:(lW (cW w) k).v=.agg [I (cW w).j5,.slice (cW w).as.o (cW w).as.e ((cW w).as.l.map cj),.slice .any 7 (((cW w).rs.l.take k).map bO)]:=rfl
 rw[akf]at tM
 simp only[W.v,cJ,Sl.v]at Pz Kj nO
 rcases hR with⟨Q,Pd,Pe⟩|⟨Pd,Pe⟩
 ·have hQ := acz bW vC Pe
  obtain⟨sk,dy,XS⟩:=at3 bW hk Kb aC hQ
  obtain⟨Xz,ve⟩:=hQ.vp.Og bW
  have FT:=hQ.vp.Jr bW
  rw[Pd,kO,we,ak rfl]at bh
  obtain⟨qo,qe,zw,mq⟩:∃o e,aU 3 (Q.map aj)=.slice o e (Q.map aj)∧(Q=[]∨e=3):=by
   cases Q with
   |nil=>exact⟨_,_,rfl,.inl rfl⟩
   |cons _ _=>exact⟨_,_,rfl,.inr rfl⟩
  rw[zw]at bh
  have pr:∀r,au AP (.fn 9) [w.v,.slice qo qe (Q.map aj)] (s.push r)=some (I 0,s.push r):=fun r=>by
   rw[cI _ (hs.push r) ve mq,Xz]
  have akb:∀m:ae,au AP (.fn 10) [.slice qo qe (Q.map aj),I (k:Int)] m=some (I (dF (fun p:P=>decide (p.req=(k:Int))) Q),m):=fun m=>dP m _ ve mq
  have lq:=ard (l:=Q) (i:=(k:Int))
  rw[FW.2 hQ.has]at lq
  have dX:∀m:ae,Ok m→au AP (.fn 19) [w.v,.slice bo be (Bp.map aj),.slice qo qe (Q.map aj)] m=some (I (dz Bp Q w.rs.l.length),m):=fun m hm=>by
   have l1:=qW.len
   have l2:=ve.len
   exact ar4 hm (by omega) kE mq (by omega) (by omega) qW.sm.ok ve.sm.ok
  have Pw:=fun r=>dX (s.push r) (hs.push r)
  have ai2:=fun m:ae=>dX (dt m) zW
  obtain⟨x2,g2,ll,gI,tJ,_⟩:=RV (o:=bo) (e:=be) (Q:=s) (tk:=nk) hs qW kE
  obtain⟨x3,g3,SD,oA,J6,_⟩:=RV (o:=qo) (e:=qe) (Q:=s) (tk:=ll) hs ve mq
  rw[FP]at tJ
  rw[FT]at J6
  obtain⟨p2,q2,rfl,Qm⟩:=C1 tJ
  obtain⟨p3,q3,rfl,Qn⟩:=C1 J6
  obtain⟨T,hT⟩:∃T,T=iY w Bp Q w.rs.l.length:=⟨_,rfl⟩
  obtain⟨p4,q4,aiJ,hq4⟩:∃o e,aU 1 (T.map mG)=.slice o e (T.map mG)∧(T=[]∨e=1):=by
   cases T with
   |nil=>exact⟨_,_,rfl,.inl rfl⟩
   |cons _ _=>exact⟨_,_,rfl,.inr rfl⟩
  have hte:Hu (cW w) Bp Q=0:=by
   have e1:=Oh (w:=w) (l:=Bp)
   have e2:=Oh (w:=w) (l:=Q)
   rw[FP,O8]at e1
   rw[FT,Xz]at e2
   unfold Hu pJ;rw[SL,ak vC,e1,e2];rfl
  have htF:iY (cW w) Bp Q w.rs.l.length=T:=by
   have:=abL (w:=w) (a:=Bp) (b:=Q) (k:=w.rs.l.length) (aH _)
   rw[FP,FT]at this
   rw[this,hT]
  have YF:∀r,au AP (.fn 15) [(cW w).v,.agg [.slice p2 q2 (Bp.map aj),.slice p3 q3 (Q.map aj)]] (s.push r)=some (.tuple [.slice p4 q4 (T.map mG),I 0],s.push r):=fun r=>by
   rw[asT (hs.push r) A5 (A4 hF) qW ve (hm Qm) (hm Qn),hte,ak rfl,aP,htF,aiJ]
  have vf:T.length≤14:=by have:=SC (w:=w) (a:=Bp) (b:=Q) (k:=w.rs.l.length);rw[←hT]at this;omega
  have PQ:∀(m:ae) (x:ByteArray),au AP (.fn 16) [.slice p4 q4 (T.map mG),S x] m=some (B (mW T x),m):=fun m x=>adL hq4 (by omega)
  obtain⟨rk,Yx⟩:=get_some (l:=w.rs.l) (k:=k) (by omega)
  have akp:(w.rq (k:Int))=rk:=by
   have:=w.Lw (i:=(k:Int)) (by omega) (by omega)
   rw[show((k:Int).toNat)=k by omega,Yx]at this
   exact(Option.some.inj this).symm
  have X4:=Sl.ix (f:=bO) hw.rs Yx
  have hTk:mW T rk.bJ=true:=by
   rw[hT,←akp];exact SB (by omega) sk
  simp only[bO,Sl.v]at X4
  have lN:∀r,au AP (.fn 18) [w.v,.slice bo be (Bp.map aj),I (k:Int)] (s.push r)=some (aU 3 (((bS w Bp k).map (iW (w.rq k).need.toNat)).map aj),s.push r):=fun r=>ar8 (hs.push r) bW (by omega) (by omega) kE qW.len (Kb.iD bW)
  have tT:ld false (aU 3 (((bS w Bp k).map (iW (w.rq k).need.toNat)).map aj))=some (I ((bS w Bp k).length:Int)):=by
   cases bS w Bp k with
   |nil=>rfl
   |cons x r=>
    show some (I ((((x::r).map (iW (w.rq k).need.toNat)).map aj).length:Int))=_
    rw[bR,bR]
  simp only[W.v,cJ,Sl.v]at pr Pw ai2 lN
  have k0 : ∀ (j : Nat) ρ m, j ≤ k → (ρ 1 = .ptr s.ag.length 0 0 ∧ ρ 3 = I (k : Int) ∧ ρ 5 = .slice bo be (Bp.map aj) ∧ ρ 8 = .slice qo qe (Q.map aj) ∧ ρ 14 = .slice p4 q4 (T.map mG) ∧ ρ 16 = I j ∧ ∃ bx tk, m = s.push ⟨cJ w :: bx, tk⟩) →
    go AP agz (.c (.loop yw)::an1) ⟨ρ,m⟩=some (B true,s):=by
   refine cq k _ _ ?_ ?_
   ·rintro j ρ m hj ⟨g1,g3,g5,g8,g14,g16,bx,tk,rfl⟩ ih
    obtain⟨q,hq⟩:=get_some (l:=w.rs.l) (k:=j) (by omega)
    have lG:=Sl.ix (f:=bO) hw.rs hq
    have jE:=bK hj (show(k:Int)<_ by omega)
    have B4:(w.rq (j:Int))=q:=by
     have:=w.Lw (i:=(j:Int)) (by omega) (by omega)
     rw[show((j:Int).toNat)=j by omega,hq]at this
     exact(Option.some.inj this).symm
    simp only[bO,Sl.v]at lG
    cases hh:mW T q.bJ with
    |true=>
     have vr:=fun m=>PQ m q.bJ
     rw[hh]at vr
     simp(maxSteps:=1000000) only[go_sem,yw,g1,g3,g14,g16,aS hj,lG,vr,jE,Nat.reduceEqDiff,Nat.reduceAdd,↓reduceIte]
     refine ih _ _ ?_
     exact⟨g1,g3,g5,g8,g14,rfl,bx,tk,rfl⟩
    | false =>
     have vr:=fun m=>PQ m q.bJ
     rw[hh]at vr
     have dW:dS Bp Q (j:Int)=false:=by
      cases hc:dS Bp Q (j:Int)with
      |false=>rfl
      |true=>
       have:=SB (w:=w) (k:=w.rs.l.length) (i:=j) (by omega) hc
       rw[←hT,B4,hh]at this
       exact absurd this (by decide)
     have qg:(aL Bp (j:Int)).map kP=(aL Q (j:Int)).map kP:=by
      unfold dS at dW
      simpa using dW
     have eK:∀m:ae,au AP (.fn 10) [.slice bo be (Bp.map aj),I (j:Int)] m=some (I (dF (fun p:P=>decide (p.req=(j:Int))) Bp),m):=fun m=>dP m _ qW kE
     have gw:∀m:ae,au AP (.fn 10) [.slice qo qe (Q.map aj),I (j:Int)] m=some (I (dF (fun p:P=>decide (p.req=(j:Int))) Q),m):=fun m=>dP m _ ve mq
     rcases u5 (p:=fun p:P=>decide (p.req=(j:Int))) (l:=Bp)with⟨f1,f2⟩|⟨a,x,f1,f3,f2⟩
     ·have vz:aL Bp (j:Int)=none:=f1
      rcases u5 (p:=fun p:P=>decide (p.req=(j:Int))) (l:=Q)with⟨e1,e2⟩|⟨c,y,e1,e3,e2⟩
      ·rw[f2]at eK
       rw[e2]at gw
       simp(maxSteps:=1000000) only[go_sem,yw,g1,g3,g5,g8,g14,g16,aS hj,lG,vr,eK,gw,jE,Nat.reduceEqDiff,Nat.reduceAdd,Int.reduceLT,Int.reduceLE,Int.reduceNeg,↓reduceIte]
       refine ih _ _ ?_
       exact⟨g1,g3,g5,g8,g14,rfl,bx,tk,rfl⟩
      ·have Gv:aL Q (j:Int)=some y:=e1
       rw[vz,Gv]at qg;simp at qg
     ·have vz:aL Bp (j:Int)=some x:=f1
      rcases u5 (p:=fun p:P=>decide (p.req=(j:Int))) (l:=Q)with⟨e1,e2⟩|⟨c,y,e1,e3,e2⟩
      ·have Gv:aL Q (j:Int)=none:=e1
       rw[vz,Gv]at qg;simp at qg
      ·have Gv:aL Q (j:Int)=some y:=e1
       rw[vz,Gv]at qg
       simp only[dE,fe]at qg
       rw[f2]at eK
       rw[e2]at gw
       have aiU:be=3:=by rcases kE with h|h;(rw[h]at f3;simp at f3);exact h
       have akh:qe=3:=by rcases mq with h|h;(rw[h]at e3;simp at e3);exact h
       subst aiU
       subst akh
       have la:=(bd.1 f3).1
       have lc:=(bd.1 e3).1
       have lB:=qW.len
       have lQ:=ve.len
       obtain⟨o7,h7⟩:=aav (es:=3) (o:=bo) (xs:=Bp.map aj) (a:=a) (b:=a+1) (by omega) (by rw[bR];omega)
       obtain⟨o8,h8⟩:=aav (es:=3) (o:=qo) (xs:=Q.map aj) (a:=c) (b:=c+1) (by omega) (by rw[bR];omega)
       rw[Z6 (x:=aj x) (by rw[gX,f3];rfl)]at h7
       rw[Z6 (x:=aj y) (by rw[gX,e3];rfl)]at h8
       have xG:∀r,au AP (.fn 17) [.slice o7 3 [aj x],.slice o8 3 [aj y]] (s.push r)=some (B true,s.push r):=fun r=>by
        have:=asa (s:=s.push r) (a:=[x]) (b:=[y]) (o1:=o7) (e1:=3) (o2:=o8) (e2:=3) (hs.push r) (.inr rfl) (.inr rfl)
         ⟨by simp,fun p hp=>by rw[dD]at hp;subst hp;exact qW.sm.ok p (bU f3)⟩ ⟨by simp,fun p hp=>by rw[dD]at hp;subst hp;exact ve.sm.ok p (bU e3)⟩
        rw[LB.2 (by simp only[iH,nw,qg])]at this
        exact this
       have w1:IntKind.i64.wrap ((a:Int)+1)=((a+1:Nat):Int):=by rw[ch (by omega) (by omega)];omega
       have w2:IntKind.i64.wrap ((c:Int)+1)=((c+1:Nat):Int):=by rw[ch (by omega) (by omega)];omega
       have d1:decide ((a:Int)<0)=false:=bX (by omega)
       have d2:decide ((c:Int)<0)=false:=bX (by omega)
       have d3:decide ((0:Int)≤(a:Int))=true:=bM (by omega)
       generalize aj x=rx at*
       generalize aj y=ry at*
       simp(maxSteps:=1000000) only[go_sem,yw,g1,g3,g5,g8,g14,g16,aS hj,lG,vr,eK,gw,w1,w2,d1,d2,d3,h7,h8,xG,jE,Nat.reduceEqDiff,Nat.reduceAdd,↓reduceIte]
       refine ih _ _ ?_
       exact⟨g1,g3,g5,g8,g14,rfl,bx,tk,rfl⟩
   ·rintro ρ m ⟨g1,g3,g5,g8,g14,g16,bx,tk,rfl⟩
    by_cases hp:bS w Bp (k:Int)=[]
    ·have h1:=XS.1 hp
     have hd:decide ((1:Int)<(dz Bp Q w.rs.l.length:Int))=true:=bM (by omega)
     have Qj:decide ((0:Int)<((bS w Bp (k:Int)).length:Int))=false:=by rw[hp];rfl
     simp(maxSteps:=1000000) only[go_sem,yw,I8,g1,g3,g5,g8,g16,bN,lN,tT,Qj,Pw,hd,Nat.reduceEqDiff,↓reduceIte]
    ·have h1:dz Bp Q k=0:=by
      apply n6
      intro h
      exact hp (XS.2 (by omega))
     have hd:decide ((dz Bp Q w.rs.l.length:Int)=1)=true:=bM (by omega)
     have Qj:decide ((0:Int)<((bS w Bp (k:Int)).length:Int))=true:=bM (by have:=ye.2 hp;omega)
     simp(maxSteps:=1000000) only[go_sem,yw,I8,g1,g3,g5,g8,g16,bN,lN,tT,Qj,Pw,hd,Nat.reduceEqDiff,↓reduceIte]
  have vr:=fun m=>PQ m rk.bJ
  rw[hTk]at vr
  simp only[W.v,cJ,Sl.v]at bh YF k0⊢
  generalize dF (fun p:P=>decide (p.req=(k:Int))) Bp=vb at*
  generalize dF (fun p:P=>decide (p.req=(k:Int))) Q=vq at*
  rw[aM (show AP 3=some uV from rfl) rfl]
  simp(maxSteps:=1000000) only[go_sem,AX,hs,FX,qd,qi,hlen,Yc,zD,Pz,pt,tM,nO,Yo,gb,ef,bh,pr,akb,lq,gI,oA,YF,X4,vr,bn,eW,nZ,Nat.reduceEqDiff,Nat.reduceAdd,↓reduceIte]
  refine k0 0 _ _ (bp _) ?_
  exact⟨rfl,rfl,rfl,rfl,rfl,rfl,_,_,rfl⟩
 ·obtain⟨hfg,g,BR,Kn⟩:=at4 bW (k:=k) (by omega) fun R hR=>Pe R ((H6 bW vC).2 hR)
  rw[Pd,Option.getD_none,pR,aq (by decide)]at bh
  have akm:sR w.rs.l.length (-1) [(k:Int)]=0:=by simp only[sR];rw[ak (iE.2 ⟨by omega,by omega⟩),ak (by omega)]
  have YE:∀r,au AP (.fn 13) [(cW w).v,.slice .full 1 [[I (k:Int)]]] (s.push r)=some (.tuple [B false,I 0],s.push r):=fun r=>by
   have:=asU (s:=s.push r) (w:=cW w) (l:=[(k:Int)]) (o:=.full) (e:=1) (hs.push r) A5 (A4 hF) (.inr rfl) (by simp)
   rw[LI,ak h0,ak h0,aP,akm,ak rfl,WZ bW vC (uJ _ _) (fun i hi=>by rw[dD]at hi;omega),show c8 w (bf w) [] (ew [(k:Int)])=false from hfg]at this
   exact this
  have P1:∀r,au AP (.fn 14) [(cW w).v] (s.push r)=some (.tuple [aU 1 (g.map aB),I 0],s.push r):=fun r=>by
   rw[asS (hs.push r) A5 (A4 hF)]
   unfold Rq
   rw[LI,ak h0,ak h0,apo bW vC,BR]
   rfl
  have P2:ld false (aU 1 (g.map aB))=some (I 1):=by
   cases g with
   |nil=>simp at Kn
   |cons a r=>
    show some (I (((a::r).map aB).length:Int))=_
    rw[bR,Kn];rfl
  generalize aU 1 (g.map aB)=GV at*
  simp only[W.v,cJ,Sl.v]at bh YE P1⊢
  generalize dF (fun p:P=>decide (p.req=(k:Int))) Bp=vb at*
  rw[aM (show AP 3=some uV from rfl) rfl]
  simp(maxSteps:=1000000) only[go_sem,AX,hs,FX,qd,qi,hlen,Yc,zD,Pz,pt,tM,nO,Yo,gb,ef,bh,YE,P1,P2,bn,eW,iC,qN,nZ,nY,Nat.reduceEqDiff,Nat.reduceAdd,Int.reduceEq,↓reduceIte]
end
section
variable{P:Program} {d:Nat}
def CJ (P:Program) (t:TypeId) (ts:List TypeId):Prop:=∃fs:Array Field,P.underlying t=some (.struct fs)∧fs.toList.map (·.type)=ts
theorem LF {t:TypeId} {ts:List TypeId} {ct:List AV} (hf:CJ P t ts) (h:eQ P (d+1) t ct):
  ∃ps:List (List AV),ct=ps.flatten∧ps.length=ts.length∧∀(i:Nat) (u:TypeId) (p:List AV),ts[i]? =some u→ps[i]? =some p→eQ P d u p:=by
 obtain⟨fs,hu,rfl⟩:=hf
 obtain⟨ps,h1,h2,h3⟩:=ato hu h
 refine⟨ps,h1,by simp[h2],fun i u p hi hp=>?_⟩
 rw[gX]at hi
 obtain⟨f,hf,rfl⟩:=aT.1 hi
 exact h3 i f p (by simpa using hf) hp
structure ym (P:Program) (ti ts tg ur uu ta vT tr vV tw:TypeId):Prop where
 i:P.underlying ti=some (.int .i64)
 s:P.underlying ts=some .string
 g:CJ P tg [ti,ti]
 gs:P.underlying ur=some (.slice tg)
 gc:P.cellsOf tg=2
 is:P.underlying uu=some (.slice ti)
 ic:P.cellsOf ti=1
 a:CJ P ta [ts,ti,ur]
 sa:P.underlying vT=some (.slice ta)
 ac:P.cellsOf ta=3
 r:CJ P tr [ts,tg,ti,ti,uu,ti]
 sr:P.underlying vV=some (.slice tr)
 rc:P.cellsOf tr=7
 w:CJ P tw [ti,vT,vV]
variable{ti ts tg ur uu ta vT tr vV tw:TypeId}
theorem Cj {n:Nat} (h:n≤maxLen):(n:Int)<9223372036854775808:=by unfold maxLen at h;omega
theorem abu (T:ym P ti ts tg ur uu ta vT tr vV tw) {ct:List AV} (h:eQ P (d+2) tg ct):∃x:Int×Int,ct=gW x∧True:=by
 obtain⟨ps,rfl,hl,hp⟩:=LF T.g h
 match ps,hl,hp with
 |[p0,p1],_,hp=>
  obtain⟨a,rfl,_⟩:=xX T.i (hp 0 _ p0 rfl rfl)
  obtain⟨b,rfl,_⟩:=xX T.i (hp 1 _ p1 rfl rfl)
  exact⟨(a,b),rfl,trivial⟩
theorem awv {o:Own} {rows:List (List AV)} (h:o=.any∨(o=.aA∧rows=[])):o=.any∨(o=.aA∧rows=[]):=h
theorem atl (T:ym P ti ts tg ur uu ta vT tr vV tw) {ct:List AV} (h:eQ P (d+2) uu ct):∃x:Sl Int,ct=[x.v aB]∧x.ok 1∧(x.l.length:Int)<9223372036854775808:=by
 obtain⟨o,rows,rfl,ho,hlen,xE⟩:=LG T.is h
 obtain⟨l,rfl,_⟩:=Lv (f:=aB) (g:=fun _=>True) (fun r hr=>by
  obtain⟨x,hx,_⟩:=xX T.i (xE r hr)
  exact⟨x,hx,trivial⟩)
 rw[bR]at hlen
 rw[T.ic]
 refine⟨⟨o,1,l⟩,rfl,?_,Cj hlen⟩
 rcases ho with rfl|⟨rfl,h⟩
 ·exact⟨.inr rfl,.inl rfl⟩
 ·exact⟨.inr rfl,.inr (.inr ⟨rfl,Mf.1 (by assumption)⟩)⟩
theorem atn (T:ym P ti ts tg ur uu ta vT tr vV tw) {ct:List AV} (h:eQ P (d+3) ur ct):∃x:Sl (Int×Int),ct=[x.v gW]∧x.ok 2∧(x.l.length:Int)<9223372036854775808:=by
 obtain⟨o,rows,rfl,ho,hlen,xE⟩:=LG T.gs h
 obtain⟨l,rfl,_⟩:=Lv (f:=gW) (g:=fun _=>True) (fun r hr=>abu T (xE r hr))
 rw[bR]at hlen
 rw[T.gc]
 refine⟨⟨o,2,l⟩,rfl,?_,Cj hlen⟩
 rcases ho with rfl|⟨rfl,h⟩
 ·exact⟨.inr rfl,.inl rfl⟩
 ·exact⟨.inr rfl,.inr (.inr ⟨rfl,Mf.1 (by assumption)⟩)⟩
theorem atk (T:ym P ti ts tg ur uu ta vT tr vV tw) {ct:List AV} (h:eQ P (d+4) ta ct):
  ∃a:A,ct=cj a∧(a.cl.ok 2∧(a.name.size:Int)<9223372036854775808∧(a.cl.l.length:Int)<9223372036854775808):=by
 obtain⟨ps,rfl,hl,hp⟩:=LF T.a h
 match ps,hl,hp with
 |[p0,p1,p2],_,hp=>
  obtain⟨n,rfl,hn⟩:=abv T.s (hp 0 _ p0 rfl rfl)
  obtain⟨b,rfl,_⟩:=xX T.i (hp 1 _ p1 rfl rfl)
  obtain⟨c,rfl,hc,aP⟩:=atn T (hp 2 _ p2 rfl rfl)
  exact⟨⟨n,b,c⟩,rfl,hc,Cj hn,aP⟩
theorem atm (T:ym P ti ts tg ur uu ta vT tr vV tw) {ct:List AV} (h:eQ P (d+4) tr ct):
  ∃r:R,ct=bO r∧(r.an.ok 1∧(r.bJ.size:Int)<9223372036854775808∧(r.an.l.length:Int)<9223372036854775808):=by
 obtain⟨ps,rfl,hl,hp⟩:=LF T.r h
 match ps,hl,hp with
 |[p0,p1,p2,p3,p4,p5],_,hp=>
  obtain⟨n,rfl,hn⟩:=abv T.s (hp 0 _ p0 rfl rfl)
  obtain⟨g,rfl,_⟩:=abu T (hp 1 _ p1 rfl rfl)
  obtain⟨b,rfl,_⟩:=xX T.i (hp 2 _ p2 rfl rfl)
  obtain⟨c,rfl,_⟩:=xX T.i (hp 3 _ p3 rfl rfl)
  obtain⟨x,rfl,hx,KL⟩:=atl T (hp 4 _ p4 rfl rfl)
  obtain⟨e,rfl,_⟩:=xX T.i (hp 5 _ p5 rfl rfl)
  exact⟨⟨n,g.1,g.2,b,c,x,e⟩,rfl,hx,Cj hn,KL⟩
theorem atp (T:ym P ti ts tg ur uu ta vT tr vV tw) {ct:List AV} (h:eQ P (d+6) tw ct):∃w:W,AV.agg ct=w.v∧w.Ok∧w.HA:=by
 obtain⟨ps,rfl,hl,hp⟩:=LF T.w h
 match ps,hl,hp with
 | [p0, p1, p2], _, hp =>
  obtain⟨n,rfl,_⟩:=xX T.i (hp 0 _ p0 rfl rfl)
  obtain⟨o1,r1,rfl,ho1,pk,jA⟩:=LG T.sa (hp 1 _ p1 rfl rfl)
  obtain⟨o2,r2,rfl,Qc,pn,iA⟩:=LG T.sr (hp 2 _ p2 rfl rfl)
  obtain⟨as,rfl,has⟩:=Lv (fun r hr=>atk T (jA r hr))
  obtain⟨rs,rfl,gj⟩:=Lv (fun r hr=>atm T (iA r hr))
  rw[bR]at pk pn
  rw[T.ac,T.rc]
  refine⟨⟨n,⟨o1,3,as⟩,⟨o2,7,rs⟩⟩,rfl,⟨?_,fun a ha=>(has a ha).1,?_,fun r hr=>(gj r hr).1⟩,⟨Cj pk,Cj pn,fun a ha=>(has a ha).2.1,fun a ha=>(has a ha).2.2,fun r hr=>(gj r hr).2.1,fun r hr=>(gj r hr).2.2⟩⟩
  ·rcases ho1 with rfl|⟨rfl,h⟩
   ·exact⟨.inr rfl,.inl rfl⟩
   ·exact⟨.inr rfl,.inr (.inr ⟨rfl,Mf.1 (by assumption)⟩)⟩
  ·rcases Qc with rfl|⟨rfl,h⟩
   ·exact⟨.inr rfl,.inl rfl⟩
   ·exact⟨.inr rfl,.inr (.inr ⟨rfl,Mf.1 (by assumption)⟩)⟩
end
end Go.Ax.Sx.Sc
