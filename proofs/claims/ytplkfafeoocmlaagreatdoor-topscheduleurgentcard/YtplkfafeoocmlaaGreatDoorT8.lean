/- A part of the proof. -/
import Derived.Test.YtplkfafeoocmlaaGreatDoorT7
import Derived.KernelRfl
set_option linter.unusedSimpArgs false
set_option linter.unusedVariables false
set_option maxRecDepth 100000
namespace Go.Ax.Sx.Sc
open Go.Ax
section
variable{s:ae} {w:W}
theorem Lg {Q:ae} {R r0:Rec} {g es:Nat} {xs:List (List AV)} (hQ:Ok Q) (h:r0.toks[g]? =some (some xs.length)):
  kI ((Q.push R).push r0) (.slice (.tok (Q.ag.length+1) g) es xs)=some (.slice (.tok Q.ag.length R.toks.length) es xs,Q.push ⟨R.boxes,R.toks++[some xs.length]⟩):=by
 have h1:((Q.push R).push r0).cur=Q.ag.length+1:=by rw[fP];simp[ae.push]
 have h2:((Q.push R).push r0).ro<Q.ag.length+1:=by have:=hQ.ro;show Q.ro<_;omega
 have h3:((Q.push R).push r0).tok (Q.ag.length+1) g=some xs.length:=by
  have:=CB (Q.push R) r0 g
  rw[show(Q.push R).ag.length=Q.ag.length+1 by simp[ae.push]]at this
  rw[this,h];rfl
 have h4:((Q.push R).push r0).jZ Q.ag.length=R.toks.length:=by
  simp[ae.jZ,ae.push]
 simp only[kI]
 rw[ak ⟨h1.symm,by omega,h2,h3⟩]
 simp only[HV,h4,pop_push,oS]
theorem auu {Q:ae} {l:List P} {o:Own} {e:Nat} {R:Rec} (hQ:Ok Q) (hn:l≠[]) (ho:o.isNil=false) (hl:l.length≤4294967296) (he:e=3):
  au AP (.fn 88) [.slice o e (l.map aj)] (Q.push R)=some (.slice (.tok Q.ag.length R.toks.length) 3 (l.map aj),Q.push ⟨R.boxes,R.toks++[some l.length]⟩):=by
 subst he
 have hlen:(Q.push R).ag.length=Q.ag.length+1:=by simp[ae.push]
 have ha:eI ((Q.push R).push ⟨[],[]⟩) 3 (.slice .full 3 []) (.slice o 3 (l.map aj))=some (.slice (.tok (Q.ag.length+1) 0) 3 (l.map aj),(Q.push R).push ⟨[],[some l.length]⟩):=by
  have h3:=qu (Q.push R) ⟨[],[]⟩
  have h4:=oS (Q.push R) ⟨[],[]⟩ l.length
  rw[hlen]at h3 h4
  have h5:((Q.push R).push ⟨[],[]⟩).cur=Q.ag.length+1:=by rw[fP,hlen]
  simp[eI,Own.isNil,most,hl,hn,h3,h4,h5]
 have jy:=Lg (Q:=Q) (R:=R) (r0:=⟨[],[some l.length]⟩) (g:=0) (es:=3) (xs:=l.map aj) hQ (by simp)
 rw[aM (show AP 88=some Bf from rfl) rfl]
 simp only[go_sem,NX,ho,ha,cQ,simprocAttr]
 exact jy.trans (by rw[bR])
theorem ae5 {tk:List (Option Nat)} {l:List P} {o:Own} {e:Nat} (hs:Ok s) (he:l=[]∨e=3) (ho:o.isNil=l.isEmpty) (hl:l.length≤4294967296):
  ∃x og tk',(∀bx,nA (au AP) (s.push ⟨bx,tk⟩) 88 [.slice o e (l.map aj)]=some (x,s.push ⟨bx,tk'⟩))∧Acc s.ag.length 3 (l.map aj) x og tk':=by
 cases gd:l with
 | nil =>
  subst gd
  have po:o.isNil=true:=ho
  have:∀bx,au AP (.fn 88) [.slice o e (([]:List P).map aj)] ((dt (s.push ⟨bx,tk⟩)).push ⟨[],[]⟩)=some (.slice .aA 0 [],(dt (s.push ⟨bx,tk⟩)).push ⟨[],[]⟩):=fun bx=>by
   rw[aM (show AP 88=some Bf from rfl) rfl]
   simp only[go_sem,NX,po,cQ,simprocAttr]
  refine⟨.slice .aA 0 [],none,tk,fun bx=>?_,rfl,rfl⟩
  unfold nA
  rw[show({(s.push ⟨bx,tk⟩).push ⟨[],[]⟩with ro:=(s.push ⟨bx,tk⟩).ag.length,bt:=(s.push ⟨bx,tk⟩).loops.length}:ae)=(dt (s.push ⟨bx,tk⟩)).push ⟨[],[]⟩from rfl,this]
  rfl
 | cons a q =>
  rw[←gd]
  have hn:l≠[]:=by rw[gd];simp
  have ji:e=3:=by rcases he with h|h;exact absurd h hn;exact h
  have po:o.isNil=false:=by rw[ho,gd];rfl
  refine⟨.slice (.tok s.ag.length tk.length) 3 (l.map aj),some tk.length,tk++[some l.length],fun bx=>?_,by simpa using hn,rfl,by simp⟩
  have:=auu (Q:=dt (s.push ⟨bx,tk⟩)) (R:=⟨[],[]⟩) (o:=o) zW hn po hl ji
  have y9:(dt (s.push ⟨bx,tk⟩)).ag.length=(s.push ⟨bx,tk⟩).ag.length:=rfl
  have hY:(s.push ⟨bx,tk⟩).cur=s.ag.length:=fP _ _
  have hlen:(s.push ⟨bx,tk⟩).ag.length=s.ag.length+1:=by simp[ae.push]
  unfold nA
  rw[show({(s.push ⟨bx,tk⟩).push ⟨[],[]⟩with ro:=(s.push ⟨bx,tk⟩).ag.length,bt:=(s.push ⟨bx,tk⟩).loops.length}:ae)=(dt (s.push ⟨bx,tk⟩)).push ⟨[],[]⟩from rfl,this]
  have zC:((dt (s.push ⟨bx,tk⟩)).push ⟨[],[some l.length]⟩).tok (s.push ⟨bx,tk⟩).ag.length 0=some l.length:=by
   have:=CB (dt (s.push ⟨bx,tk⟩)) ⟨[],[some l.length]⟩ 0
   rw[y9]at this;rw[this];rfl
  have bq:(s.push ⟨bx,tk⟩).ro<(s.push ⟨bx,tk⟩).ag.length:=by rw[hlen];have:=hs.ro;show s.ro<_;omega
  simp only[y9,ja,kq]
  rw[ak ⟨trivial,by omega,bq,by rw[zC,bR]⟩]
  simp only[hY,qu,oS,bR]
abbrev mF (m:Nat):List AV:=[I (m:Int)]
attribute [go_sem] mF
def kf (w:W) (all:List (Sl P×Bool)) (plan:List P) (own:Nat) (sets:List Nat) (i:Nat) (p:P):Bool:=
 !cK w p plan&&sets.any fun m=>decide (m&&&(2^(i+1)-1)=own|||2^i)&&c8 w all (plan++[p]) m
def ng (w:W) (all:List (Sl P×Bool)) (plan:List P) (own:Nat) (sets:List Nat):Nat→Nat→Option P
 |_,0=>none
 |i,n+1=>match(all.getD i default).1.l.find? (kf w all plan own sets i)with
  |some p=>some p
  |none=>ng w all plan own sets (i+1) n
def j9 (plan:List P):Nat:=match plan.getLast? with
 |some p=>p.req.toNat+1
 |none=>0
def qt (w:W) (all:List (Sl P×Bool)) (plan:List P) (own:Nat) (sets:List Nat):Option P:=ng w all plan own sets (j9 plan) (all.length-j9 plan)
theorem arG (i:Nat) (hi:i≤12):IntKind.i64.wrap (((2^(i+1):Nat):Int)-1)=((2^(i+1)-1:Nat):Int):=by
 have h:(2:Nat)^(i+1)≤2^13:=gP (by decide) (by omega)
 have h1:1≤(2:Nat)^(i+1):=Mq
 generalize(2:Nat)^(i+1)=q at*
 rw[ch (by omega) (by omega)]
 omega
theorem G7 {m k:Nat} (h:m<2^k) (hk:k≤63):m<2^63:=l6 h (gP (by decide) hk)
theorem Wa (a b:Nat):decide ((a:Int)=(b:Int))=decide (a=b):=by
 by_cases h:a=b
 ·rw[bM h,bM (by omega)]
 ·rw[bX h,bX (by omega)]
theorem ag2 {α:Type} {p:α→Bool} {l:List α} {k:Nat} {x:α} (h:l[k]? =some x):(l.drop k).find? p=if p x=true then some x else(l.drop (k+1)).find? p:=by
 rw[eR h,An]
 cases p x<;>simp
theorem acY {α:Type} {p:α→Bool} {l:List α} {k:Nat} {x:α} (h:l[k]? =some x):(l.drop k).any p=(p x||(l.drop (k+1)).any p):=by
 rw[eR h,nr]
def vM (r:Option P):AV:=.tuple [.agg (aj (r.getD bY)),B r.isSome]
theorem aem {o o2 o3 : Own} {e e2 e3 : Nat} {all : List (Sl P × Bool)} {plan : List P} {own : Nat} {sets : List Nat} (hs : Ok s) (hw : Wk w) (iq : sX w e all) (hp : ∀ p ∈ plan, bZ w p) (kV : plan = [] ∨ e2 = 3) (Qc : o2.isNil = plan.isEmpty) (cI : plan.length ≤ 12)
    (jy:own<2^12) (YA:∀m∈sets,m<2^w.rs.l.length) (oD:sets=[]∨e3=1) (pt:sets.length≤5000):
    au AP (.fn 58) [CH w o e all,.slice o2 e2 (plan.map aj),I (own:Int),.slice o3 e3 (sets.map mF)] s=some (vM (qt w all plan own sets),s):=by
  have dJ:=hw.v.rl
  have pf:=iq.len
  have sM : ∀ (i : Nat) ρ x, (ρ 1 = .slice o2 e2 (plan.map aj) ∧ ρ 2 = I (own : Int) ∧ ρ 3 = .slice o3 e3 (sets.map mF) ∧ ρ 4 = .ptr s.ag.length 0 0 ∧ ρ 8 = .ptr s.ag.length 1 0 ∧ ρ 12 = I (i : Int) ∧
      ∃bx tk,x=s.push ⟨[OW w,.slice o e (all.map fT)]::aj bY::bx,tk⟩)→go AP FD (.c (.loop uN)::Q6) ⟨ρ,x⟩=some (vM (ng w all plan own sets i (all.length-i)),s):=by
    have step : ∀ (i : Nat) ρ x, i < all.length → (ρ 1 = .slice o2 e2 (plan.map aj) ∧ ρ 2 = I (own : Int) ∧ ρ 3 = .slice o3 e3 (sets.map mF) ∧ ρ 4 = .ptr s.ag.length 0 0 ∧ ρ 8 = .ptr s.ag.length 1 0 ∧ ρ 12 = I (i : Int) ∧
        ∃bx tk,x=s.push ⟨[OW w,.slice o e (all.map fT)]::aj bY::bx,tk⟩)→
        (∀ρ' x',(ρ' 1=.slice o2 e2 (plan.map aj)∧ρ' 2=I (own:Int)∧ρ' 3=.slice o3 e3 (sets.map mF)∧ρ' 4=.ptr s.ag.length 0 0∧ρ' 8=.ptr s.ag.length 1 0∧ρ' 12=I ((i+1:Nat):Int)∧
          ∃bx tk,x'=s.push ⟨[OW w,.slice o e (all.map fT)]::aj bY::bx,tk⟩)→go AP FD (.c (.loop uN)::Q6) ⟨ρ',x'⟩=some (vM (ng w all plan own sets (i+1) (all.length-(i+1))),s))→
        go AP FD (.c uN::.lp uN::Q6) ⟨ρ,x⟩=some (vM (ng w all plan own sets i (all.length-i)),s):=by
      rintro i ρ x hi ⟨h1,h2,h3,h4,h8,dv,bx,tk,rfl⟩ ih
      obtain⟨c,hc⟩:=get_some hi
      have sn:=bU hc
      have ej:e=2:=by rcases iq.e with h|h;(rw[h]at hc;simp at hc);exact h
      subst ej
      have hr:=cD (f:=fT) (o:=o) (es:=2) hc
      have xm:all.getD i default=c:=by simp[List.getD,hc]
      have Qa:ng w all plan own sets i (all.length-i)=match c.1.l.find? (kf w all plan own sets i)with
          |some p=>some p
          |none=>ng w all plan own sets (i+1) (all.length-(i+1)):=by
        obtain⟨d,hd⟩:∃d,all.length-i=d+1:=⟨all.length-i-1,by omega⟩
        rw[hd,ng,xm,show all.length-(i+1)=d by omega]
      have F0:=iq.cnt c sn
      have oC:=iq.iD c sn
      have ml:=iq.ok c sn
      have h63:∀m∈sets,m<2^63:=fun m hm=>G7 (YA m hm) (by omega)
      have Q7 : ∀ (j : Nat) ρ x, j ≤ c.1.l.length → (ρ 1 = .slice o2 e2 (plan.map aj) ∧ ρ 2 = I (own : Int) ∧ ρ 3 = .slice o3 e3 (sets.map mF) ∧ ρ 4 = .ptr s.ag.length 0 0 ∧ ρ 8 = .ptr s.ag.length 1 0 ∧ ρ 12 = I (i : Int) ∧ ρ 42 = c.1.v aj ∧ ρ 43 = I c.1.l.length ∧ ρ 44 = I j ∧
          ∃bx tk,x=s.push ⟨[OW w,.slice o 2 (all.map fT)]::aj bY::bx,tk⟩)→
          go AP FD (.c (.loop AJ)::ane) ⟨ρ,x⟩=some (vM (match(c.1.l.drop j).find? (kf w all plan own sets i)with|some p=>some p|none=>ng w all plan own sets (i+1) (all.length-(i+1))),s):=by
        refine cq c.1.l.length _ _ ?_ ?_
        · rintro j ρ x hj ⟨h1, h2, h3, h4, h8, dv, kD, mj, ox, bx, tk, rfl⟩ fS
          obtain⟨p,vy⟩:=get_some hj
          have iR:=oC p (bU vy)
          have hr:=Sl.ix (f:=aj) ml vy
          have dW:∀r,au AP (.fn 86) [OW w,.agg (aj p),.slice o2 e2 (plan.map aj)] (s.push r)=some (B (cK w p plan),s.push r):=fun r=>SI (hs.push r) hw iR hp kV (by omega)
          have jE:=bK hj (show(c.1.l.length:Int)<_ by omega)
          rw[ag2 vy]
          simp only[aj,Sl.v]at dW hr kD
          cases fl:cK w p plan with
          | true =>
            rw[fl]at dW
            have gy:kf w all plan own sets i p=false:=by simp[kf,fl]
            rw[gy,aq (by simp)]
            simp only[go_sem,AJ,Ir,h1,h2,h3,h4,h8,dv,kD,mj,ox,hs,aS hj,hr,dW,jE,cQ,simprocAttr]
            refine fS _ _ ?_
            exact⟨h1,h2,h3,h4,h8,dv,kD,mj,rfl,_,_,rfl⟩
          | false =>
            rw[fl]at dW
            have akS:kf w all plan own sets i p=sets.any fun m=>decide (m&&&(2^(i+1)-1)=own|||2^i)&&c8 w all (plan++[p]) m:=by simp[kf,fl]
            obtain⟨xc,ogc,tkc,aP,hAc⟩:=ae5 (s:=s) (tk:=tk) (l:=plan) (o:=o2) (e:=e2) hs kV Qc (by omega)
            obtain⟨xa,qv,tka,c9,eS,vg,_⟩:=hAc.append hs .full (ys:=[aj p]) (by simp) (by simp;omega)
            have tS:closeAll (aj p)=some (aj p):=by
              simp only[aj,mf,oq,oV,Sl.close iR.ok];rfl
            have Yl:∀m:ae,eF m (p.an.v aB)=some (p.an.v aB):=fun m=>Sl.Ce iR.ok
            obtain⟨oa,hxa⟩:∃oa,xa=.slice oa 3 ((plan++[p]).map aj):=by
              cases qv with
              |none=>exact absurd rfl vg
              |some g=>exact⟨_,by rw[eS.2.1,ib];rfl⟩
            subst hxa
            have qm : ∀ (q : Nat) ρ x, q ≤ sets.length → (ρ 1 = .slice o2 e2 (plan.map aj) ∧ ρ 2 = I (own : Int) ∧ ρ 3 = .slice o3 e3 (sets.map mF) ∧ ρ 4 = .ptr s.ag.length 0 0 ∧ ρ 8 = .ptr s.ag.length 1 0 ∧ ρ 12 = I (i : Int) ∧ ρ 14 = .ptr s.ag.length (bx.length + 1 + 1) 0 ∧ ρ 15 = .slice oa 3 ((plan ++ [p]).map aj) ∧ ρ 42 = c.1.v aj ∧ ρ 43 = I c.1.l.length ∧ ρ 44 = I j ∧ ρ 58 = .slice o3 e3 (sets.map mF) ∧ ρ 59 = I sets.length ∧ ρ 60 = I q ∧
                ∃tk,x=s.push ⟨[OW w,.slice o 2 (all.map fT)]::aj bY::(bx++[aj p]),tk⟩)→
                go AP FD (.c (.loop AK)::anf) ⟨ρ,x⟩=some (vM (if((sets.drop q).any fun m=>decide (m&&&(2^(i+1)-1)=own|||2^i)&&c8 w all (plan++[p]) m)=true then some p else match(c.1.l.drop (j+1)).find? (kf w all plan own sets i)with|some p=>some p|none=>ng w all plan own sets (i+1) (all.length-(i+1))),s):=by
              refine cq sets.length _ _ ?_ ?_
              · rintro q ρ x hq ⟨h1, h2, h3, h4, h8, dv, u9, BF, kD, mj, ox, BH, y6, FO, tk, rfl⟩ KQ
                obtain⟨m,jU⟩:=get_some hq
                have Kw:=bU jU
                have fQ:=YA m Kw
                have PE:e3=1:=by rcases oD with h|h;(rw[h]at jU;simp at jU);exact h
                subst PE
                have hr:=cD (f:=mF) (o:=o3) (es:=1) jU
                have GH:IntKind.i64.wrap ((i:Int)+1)=((i+1:Nat):Int):=by rw[ch]<;>omega
                have Qv:=wC (k:=i+1) (by omega)
                have Qw:=wC (k:=i) (by omega)
                have mo:=arG i (by omega)
                have eK:2^(i+1)-1<2^63:=by
                  have:(2:Nat)^(i+1)≤2^13:=gP (by decide) (by omega)
                  have h8:(2:Nat)^13<2^63:=by decide
                  omega
                have gw:(2:Nat)^i<2^63:=CU (by decide) (by omega)
                have hand:=TV (a:=m) (b:=2^(i+1)-1) (h63 m Kw) eK
                have sy:=Ie (a:=own) (b:=2^i) (G7 jy (by decide)) gw
                have F5:=Wa (m&&&(2^(i+1)-1)) (own|||2^i)
                have jj:∀r,au AP (.fn 40) [CH w o 2 all,.slice oa 3 ((plan++[p]).map aj),I (m:Int)] (s.push r)=some (B (c8 w all (plan++[p]) m),s.push r):=fun r=>
                  Js (hs.push r) hw iq fQ (fun y hy=>by
                    rcases dC.1 hy with h|h
                    · exact hp y h
                    · simp at h;subst h;exact iR) (.inr rfl) (by simp;omega)
                have QL:=bK hq (show(sets.length:Int)<_ by omega)
                rw[acY jU]
                simp only[CH]at jj
                simp only[aj,Sl.v,bY,nw]at Yl⊢
                cases hg:decide (m&&&(2^(i+1)-1)=own|||2^i)with
                | false =>
                  rw[hg]at F5
                  simp only[go_sem,AK,h1,h2,h3,h4,h8,dv,u9,BF,BH,y6,FO,hs,aS hq,hr,GH,Qv,Qw,mo,hand,sy,F5,jj,QL,kn,l4,cQ,simprocAttr]
                  refine(KQ _ _ ?_).trans rfl
                  exact⟨h1,h2,h3,h4,h8,dv,u9,BF,kD,mj,ox,BH,y6,rfl,_,rfl⟩
                | true =>
                  rw[hg]at F5
                  cases hf:c8 w all (plan++[p]) m with
                  | false =>
                    rw[hf]at jj
                    simp only[go_sem,AK,h1,h2,h3,h4,h8,dv,u9,BF,BH,y6,FO,hs,aS hq,hr,GH,Qv,Qw,mo,hand,sy,F5,jj,QL,nq,l4,cQ,simprocAttr]
                    refine(KQ _ _ ?_).trans rfl
                    exact⟨h1,h2,h3,h4,h8,dv,u9,BF,kD,mj,ox,BH,y6,rfl,_,rfl⟩
                  | true =>
                    rw[hf]at jj
                    simp only[go_sem,AK,h1,h2,h3,h4,h8,dv,u9,BF,BH,y6,FO,hs,aS hq,hr,GH,Qv,Qw,mo,hand,sy,F5,jj,QL,x6,Ah,bP,Yl,cQ,simprocAttr]
                    rfl
              · rintro ρ x ⟨h1, h2, h3, h4, h8, dv, u9, BF, kD, mj, ox, BH, y6, FO, tk, rfl⟩
                simp only[go_sem,AK,Ir,ox,y6,FO,hs,bN,jE,cQ,simprocAttr]
                rw[eZ]
                refine(fS _ _ ?_).trans rfl
                exact⟨h1,h2,h3,h4,h8,dv,kD,mj,rfl,_,_,rfl⟩
            simp only[aj,Sl.v,bY,nw]at aP c9 tS qm
            rw[akS]
            simp only[go_sem,AJ,h1,h2,h3,h4,h8,dv,kD,mj,ox,hs,aS hj,hr,dW,aP,tS,c9,cQ,simprocAttr]
            refine(qm 0 _ _ (bp _) ?_).trans ?_
            · exact⟨h1,h2,h3,h4,h8,dv,rfl,rfl,kD,mj,ox,rfl,rfl,rfl,_,rfl⟩
            · rw [ko]
              cases(sets.any fun m=>decide (m&&&(2^(i+1)-1)=own|||2^i)&&c8 w all (plan++[p]) m)<;>rfl
        · rintro ρ x ⟨h1, h2, h3, h4, h8, dv, kD, mj, ox, bx, tk, rfl⟩
          have GH:IntKind.i64.wrap ((i:Int)+1)=((i+1:Nat):Int):=by rw[ch]<;>omega
          simp only[go_sem,AJ,Iq,dv,mj,ox,hs,bN,GH,cQ,simprocAttr]
          rw[eZ]
          refine(ih _ _ ?_).trans rfl
          exact⟨h1,h2,h3,h4,h8,rfl,_,_,rfl⟩
      have hd:decide ((i:Int)<(all.length:Int))=true:=bM (by omega)
      rw[Qa]
      simp only[go_sem,uN,h1,h2,h3,h4,h8,dv,hs,hd,hr,cQ,simprocAttr]
      refine(Q7 0 _ _ (bp _) ?_).trans (by rw[ko])
      exact⟨h1,h2,h3,h4,h8,dv,rfl,rfl,rfl,_,_,rfl⟩
    intro i ρ x hP
    induction hn:all.length-i generalizing i ρ x with
    | zero =>
      obtain⟨h1,h2,h3,h4,h8,dv,bx,tk,rfl⟩:=hP
      have hd:decide ((i:Int)<(all.length:Int))=false:=bX (by omega)
      rw[go_loop]
      simp only[aj,Sl.v,bY,nw]
      simp only[go_sem,uN,Db,h4,h8,dv,hs,hd,cQ,simprocAttr]
      rfl
    | succ d ih =>
      rw[go_loop,←hn]
      refine step i ρ x (by omega) hP fun ρ' x' vd=>?_
      rw[ih (i+1) ρ' x' vd (by omega),show all.length-(i+1)=d by omega]
  have lJ:∀(a:P),plan.getLast?=some a→plan[plan.length-1]? =some a:=fun a h=>by rw[←acq];exact h
  rw[aM (show AP 58=some D6 from rfl) rfl]
  cases kF:plan.getLast? with
  | none =>
    have Gu:plan=[]:=Mb.1 kF
    subst Gu
    simp only[CH,OW,aj,Sl.v,bY,nw]at sM⊢
    simp only[go_sem,MV,hs,cQ,simprocAttr]
    refine(sM 0 _ _ ?_).trans ?_
    · exact⟨rfl,rfl,rfl,rfl,rfl,rfl,[],[],rfl⟩
    · rfl
  | some a =>
    have gJ:=lJ a kF
    have qX:=hp a (bU gJ)
    have aD:0<plan.length:=by
      have:=(bd.1 gJ).1;omega
    have PE:e2=3:=by rcases kV with h|h;(rw[h]at aD;simp at aD);exact h
    subst PE
    have hr:=cD (f:=aj) (o:=o2) (es:=3) gJ
    have jD:IntKind.i64.wrap ((plan.length:Int)-1)=((plan.length-1:Nat):Int):=by rw[ch]<;>omega
    have hd:decide ((0:Int)<(plan.length:Int))=true:=bM (by omega)
    have jz:=qX.r0
    have jA:=qX.r1
    have xI:IntKind.i64.wrap (a.req+1)=((a.req.toNat+1:Nat):Int):=by rw[ch]<;>omega
    have ajl:j9 plan=a.req.toNat+1:=by simp[j9,kF]
    simp only[CH,OW,aj,Sl.v,bY,nw]at sM hr⊢
    simp only[go_sem,MV,hs,hd,jD,hr,xI,cQ,simprocAttr]
    refine(sM (a.req.toNat+1) _ _ ?_).trans ?_
    · exact⟨rfl,rfl,rfl,rfl,rfl,rfl,[],[],rfl⟩
    · simp only[qt,ajl]
end
def rM (w:W) (all:List (Sl P×Bool)) (st:Int×List Nat) (m:Nat):Int×List Nat:=
 if(decide (st.1≤jt w m)&&(pI all m&&c8 w all [] m))=true then(if st.1<jt w m then(jt w m,[m])else(st.1,st.2++[m]))else st
def di (w:W) (all:List (Sl P×Bool)) (n:Nat):Int×List Nat:=(List.range n).foldl (rM w all) (-1,[])
theorem Ad {w:W} {all:List (Sl P×Bool)} {n:Nat}:di w all (n+1)=rM w all (di w all n) n:=by
 simp[di,CS]
theorem abp {w:W} {all:List (Sl P×Bool)}:∀{n:Nat},(di w all n).2.length≤n
 |0=>by simp[di]
 | n + 1 => by
  have ih:=abp (w:=w) (all:=all) (n:=n)
  rw[Ad];unfold rM
  split
  ·split
   ·simp
   ·simp;omega
  ·omega
theorem abq {w:W} {all:List (Sl P×Bool)} {m:Nat}:∀{n:Nat},m∈(di w all n).2→m<n
 |0,h=>by simp[di]at h
 | n + 1, h => by
  have ih:=fun h=>abq (w:=w) (all:=all) (m:=m) (n:=n) h
  rw[Ad]at h;unfold rM at h
  split at h
  ·split at h
   ·simp at h;omega
   ·rcases dC.1 h with h|h
    ·have:=ih h;omega
    ·simp at h;omega
  ·have:=ih h;omega
def cH (plan:List P):Nat:=plan.foldl (fun o p=>o|||2^p.req.toNat) 0
def mg (w:W) (all:List (Sl P×Bool)) (sets:List Nat):Nat→List P→List P
 |0,plan=>plan
 |n+1,plan=>if(sets.any fun m=>decide (cH plan=m))=true then plan else match qt w all plan (cH plan) sets with
  |some p=>mg w all sets n (plan++[p])
  |none=>plan
def gZ (w:W) (all:List (Sl P×Bool)):List P×Int×Bool:=
 if(di w all (2^all.length)).1<0 then([],0,false)
 else(mg w all (di w all (2^all.length)).2 (all.length+1) [],(di w all (2^all.length)).1,true)
theorem Rt {w:W} {all:List (Sl P×Bool)} {plan:List P} {own:Nat} {sets:List Nat} {p:P}:∀{n i:Nat},ng w all plan own sets i n=some p→∃j,i≤j∧j<i+n∧p∈(all.getD j default).1.l∧kf w all plan own sets j p=true
 |0,_,h=>by cases h
 | n + 1, i, h => by
  simp only[ng]at h
  split at h
  ·rename_i q hq
   injection h with h
   subst h
   exact⟨i,aH _,by omega,Mg hq,L8 hq⟩
  ·obtain⟨j,h1,h2,h3⟩:=Rt h
   exact⟨j,by omega,by omega,h3⟩
theorem OU {plan:List P} {p:P}:j9 (plan++[p])=p.req.toNat+1:=by simp[j9]
section
variable{s:ae} {w:W}
theorem sX.ak6 {e:Nat} {all:List (Sl P×Bool)} (h:sX w e all) {j:Nat} (hj:j<all.length) {p:P} (hp:p∈(all.getD j default).1.l):bZ w p∧p.req=j:=by
 obtain⟨c,hc⟩:=get_some hj
 have e1:all.getD j default=c:=by simp[List.getD,hc]
 rw[e1]at hp
 exact⟨h.iD c (bU hc) p hp,h.req j c hc p hp⟩
theorem apJ {e:Nat} {all:List (Sl P×Bool)} {plan:List P} {own:Nat} {sets:List Nat} {p:P} (hA:sX w e all) (h:qt w all plan own sets=some p):bZ w p∧j9 plan≤p.req.toNat∧p.req.toNat<all.length:=by
 obtain⟨j,h1,h2,h3,_⟩:=Rt h
 obtain⟨h4,h5⟩:=hA.ak6 (j:=j) (by omega) h3
 exact⟨h4,by omega,by omega⟩
theorem RE {plan:List P} {p:P}:cH (plan++[p])=cH plan|||2^p.req.toNat:=by simp[cH]
theorem aan:∀{plan:List P},(∀p∈plan,p.req.toNat<12)→cH plan<2^12:=by
 intro plan h
 have:∀(l:List P) (o:Nat),o<2^12→(∀p∈l,p.req.toNat<12)→l.foldl (fun o p=>o|||2^p.req.toNat) o<2^12:=by
  intro l
  induction l with
  |nil=>intro o ho _;exact ho
  |cons a r ih=>
   intro o ho hl
   exact ih _ (Nat.or_lt_two_pow ho (CU (by decide) (hl a (CP ..)))) fun p hp=>hl p (iI _ hp)
 exact this plan 0 (by decide) h
def A0 (r:List P×Int×Bool):AV:=.tuple [aU 3 (r.1.map aj),I r.2.1,B r.2.2]
theorem Vk {o : Own} {e : Nat} {all : List (Sl P × Bool)} (hs : Ok s) (hw : Wk w) (iq : sX w e all) : au AP (.fn 29) [CH w o e all] s = some (A0 (gZ w all), s) := by
 have dJ:=hw.v.rl
 have pf:=iq.len
 have awe:2^all.length≤4096:=by
  have:(2:Nat)^all.length≤2^12:=gP (by decide) (by omega)
  exact kt this (by decide)
 have pt:∀n,n≤2^all.length→(di w all n).2.length≤4096:=fun n hn=>kt abp (by omega)
 have aol : ∀ (f : Nat) (plan : List P) (ρ : Nat → AV) (x : ae) (sets : List Nat) (most : Int), sets = (di w all (2 ^ all.length)).2 → all.length + 1 - j9 plan ≤ f → j9 plan ≤ all.length → plan.length ≤ j9 plan → (∀ p ∈ plan, bZ w p) →
   (ρ 1=.ptr s.ag.length 0 0∧(∃o5 e5,ρ 5=.slice o5 e5 (sets.map mF)∧(sets=[]∨e5=1))∧ρ 6=I most∧∃og tk bx,Acc s.ag.length 3 (plan.map aj) (ρ 9) og tk∧x=s.push ⟨[OW w,.slice o e (all.map fT)]::bx,tk⟩)→
   go AP OB (.c (.loop Ij)::am7) ⟨ρ,x⟩=some (.tuple [aU 3 ((mg w all sets f plan).map aj),I most,B true],s):=by
  intro f
  induction f with
  |zero=>intro plan ρ x sets most sD hf jj;omega
  | succ f ihf =>
   rintro plan ρ x sets most sD hf jj cI dI ⟨h1,⟨o5,e5,h5,PF⟩,h6,og,tk,bx,hA,rfl⟩
   have zz:∀p∈plan,p.req.toNat<12:=fun p hp=>by have:=(dI p hp).r0;have:=(dI p hp).r1;omega
   have jy:=aan zz
   have akz:∀m∈sets,m<2^w.rs.l.length:=fun m hm=>by
    rw[sD]at hm;have:=abq hm;rw[pf]at this;exact this
   have awk:sets.length≤4096:=by rw[sD];exact pt _ (aH _)
   obtain⟨o9,e9,O7,zg,ho9⟩:∃o9 e9,ρ 9=.slice o9 e9 (plan.map aj)∧(plan=[]∨e9=3)∧o9.isNil=plan.isEmpty:=by
    cases og with
    |none=>
     obtain⟨q1,q2⟩:=hA
     have:plan=[]:=by simpa using q1
     subst this
     exact⟨_,_,q2,.inl rfl,rfl⟩
    |some g=>
     refine⟨_,_,hA.2.1,.inr rfl,?_⟩
     have:plan≠[]:=by have:=hA.1;simpa using this
     cases plan with
     |nil=>exact absurd rfl this
     |cons a r=>rfl
   have F1:∀r,au AP (.fn 57) [.slice o5 e5 (sets.map mF),I (cH plan:Int)] (s.push r)=some (B (sets.any fun m=>decide (cH plan=m)),s.push r):=fun r=>by
    have:=LX (s:=s.push r) (l:=sets.map fun m:Nat=>(m:Int)) (x:=(cH plan:Int)) (o:=o5) (e:=e5) (by rcases PF with h|h;exact .inl (by simp[h]);exact .inr h) (by simp;omega)
    rw[wb]at this
    rw[show(sets.map mF)=sets.map ((fun a:Int=>[I a])∘fun m:Nat=>(m:Int))from rfl,this,CN]
    congr 4
    funext m
    exact Wa _ _
   have iz:∀r,au AP (.fn 58) [CH w o e all,.slice o9 e9 (plan.map aj),I (cH plan:Int),.slice o5 e5 (sets.map mF)] (s.push r)=some (vM (qt w all plan (cH plan) sets),s.push r):=fun r=>
    aem (hs.push r) hw iq dI zg ho9 (by omega) jy akz PF (by omega)
   have aok : ∀ (j : Nat) ρ x, j ≤ plan.length → (ρ 1 = .ptr s.ag.length 0 0 ∧ ρ 5 = .slice o5 e5 (sets.map mF) ∧ ρ 6 = I most ∧ ρ 9 = .slice o9 e9 (plan.map aj) ∧ ρ 10 = I (cH (plan.take j) : Int) ∧ ρ 49 = .slice o9 e9 (plan.map aj) ∧ ρ 50 = I plan.length ∧ ρ 51 = I j ∧
     ∃bx,x=s.push ⟨[OW w,.slice o e (all.map fT)]::bx,tk⟩)→
     go AP OB (.c (.loop AF)::am8) ⟨ρ,x⟩=some (.tuple [aU 3 ((mg w all sets (f+1) plan).map aj),I most,B true],s):=by
    refine cq plan.length _ _ ?_ ?_
    ·rintro j ρ x hj ⟨h1,h5,h6,h9,du,r9,nG,p9,bx,rfl⟩ ih
     obtain⟨p,hp⟩:=get_some hj
     have lN:=dI p (bU hp)
     have oD:e9=3:=by rcases zg with h|h;(rw[h]at hp;simp at hp);exact h
     subst oD
     have hr:=cD (f:=aj) (o:=o9) (es:=3) hp
     have p0:=lN.r0
     have p1:=lN.r1
     have jC:dR .shl (I 1) (I p.req)=some (I ((2^p.req.toNat:Nat):Int)):=by
      have:=wC (k:=p.req.toNat) (by omega)
      rwa [show((p.req.toNat:Nat):Int)=p.req by omega]at this
     have aC:cH (plan.take j)<2^63:=G7 (aan fun q hq=>zz q (td hq)) (by decide)
     have sy:=Ie (a:=cH (plan.take j)) (b:=2^p.req.toNat) aC (CU (by decide) (by omega))
     have hon:cH (plan.take (j+1))=cH (plan.take j)|||2^p.req.toNat:=by rw[fF hp,RE]
     simp(maxSteps:=1000000) only[go_sem,AF,h1,h5,h6,h9,du,r9,nG,p9,hs,aS hj,hr,jC,sy,bK hj (show(plan.length:Int)<_ by omega),Nat.reduceEqDiff,reduceCtorEq,Nat.reduceAdd,Nat.reduceMul,Nat.reduceSub,Int.reduceLT,Int.reduceLE,Int.reduceEq,Int.reduceAdd,Int.reduceSub,Int.reduceNeg,Int.reduceToNat,cQ,↓reduceIte]
     refine ih _ _ ?_
     refine⟨h1,h5,h6,h9,?_,r9,nG,rfl,_,rfl⟩
     rw[hon];rfl
    ·rintro ρ x ⟨h1,h5,h6,h9,du,r9,nG,p9,bx,rfl⟩
     rw[jb]at du
     have y7:=hA
     rw[O7]at y7
     have da:=y7.leave
     have hgp:mg w all sets (f+1) plan=if(sets.any fun m=>decide (cH plan=m))=true then plan else match qt w all plan (cH plan) sets with
      |some p=>mg w all sets f (plan++[p])
      |none=>plan:=rfl
     rw[hgp]
     cases hc:sets.any fun m=>decide (cH plan=m)with
     |true=>
      rw[hc]at F1
      simp(maxSteps:=1000000) only[go_sem,AF,Da,h1,h5,h6,h9,du,nG,p9,hs,bN,F1,da,bP,Nat.reduceEqDiff,reduceCtorEq,Nat.reduceAdd,Nat.reduceMul,Nat.reduceSub,Int.reduceLT,Int.reduceLE,Int.reduceEq,Int.reduceAdd,Int.reduceSub,Int.reduceNeg,Int.reduceToNat,cQ,↓reduceIte]
     | false =>
      rw[hc]at F1
      simp only[ez,db]
      cases hn:qt w all plan (cH plan) sets with
      |none=>
       rw[hn]at iz
       simp only[vM,Option.getD_none,pR,aj,Sl.v,bY,nw]at iz
       simp(maxSteps:=1000000) only[go_sem,AF,Da,h1,h5,h6,h9,du,nG,p9,hs,bN,F1,iz,da,Nat.reduceEqDiff,reduceCtorEq,Nat.reduceAdd,Nat.reduceMul,Nat.reduceSub,Int.reduceLT,Int.reduceLE,Int.reduceEq,Int.reduceAdd,Int.reduceSub,Int.reduceNeg,Int.reduceToNat,cQ,↓reduceIte]
      | some p =>
       rw[hn]at iz
       obtain⟨n1,n2,n3⟩:=apJ iq hn
       have tS:closeAll (aj p)=some (aj p):=by
        simp only[aj,mf,oq,oV,Sl.close n1.ok];rfl
       obtain⟨x',gC,tk',c9,eS,_⟩:=y7.append hs .full (ys:=[aj p]) (by simp) (by simp;omega)
       simp only[vM,kO,we,aj,Sl.v]at iz tS c9
       simp(maxSteps:=1000000) only[go_sem,AF,Da,h1,h5,h6,h9,du,nG,p9,hs,bN,F1,iz,tS,c9,Nat.reduceEqDiff,reduceCtorEq,Nat.reduceAdd,Nat.reduceMul,Nat.reduceSub,Int.reduceLT,Int.reduceLE,Int.reduceEq,Int.reduceAdd,Int.reduceSub,Int.reduceNeg,Int.reduceToNat,cQ,↓reduceIte]
       refine(ihf (plan++[p]) _ _ sets most sD (by rw[OU];omega) (by rw[OU];omega) (by rw[OU];simp;omega) (fun q hq=>?_) ?_).trans rfl
       ·rcases dC.1 hq with h|h
        ·exact dI q h
        ·simp at h;subst h;exact n1
       ·refine⟨h1,⟨o5,e5,h5,PF⟩,h6,gC,tk',_,?_,rfl⟩
        rw[ib];exact eS
   rw[go_loop]
   simp(maxSteps:=1000000) only[go_sem,Ij,h1,h5,h6,O7,hs,Nat.reduceEqDiff,reduceCtorEq,Nat.reduceAdd,Nat.reduceMul,Nat.reduceSub,Int.reduceLT,Int.reduceLE,Int.reduceEq,Int.reduceAdd,Int.reduceSub,Int.reduceNeg,Int.reduceToNat,cQ,↓reduceIte]
   refine aok 0 _ _ (bp _) ?_
   exact⟨h1,h5,h6,O7,rfl,rfl,rfl,rfl,_,rfl⟩
 have Zf : ∀ (j : Nat) ρ x, j ≤ 2 ^ all.length → (ρ 1 = .ptr s.ag.length 0 0 ∧ ρ 6 = I (di w all j).1 ∧ ρ 18 = I ((2 ^ all.length : Nat) : Int) ∧ ρ 19 = I j ∧
   ∃og tk,Acc s.ag.length 1 ((di w all j).2.map mF) (ρ 5) og tk∧x=s.push ⟨[[OW w,.slice o e (all.map fT)]],tk⟩)→
   go AP OB (.c (.loop uM)::am9) ⟨ρ,x⟩=some (A0 (gZ w all),s):=by
  refine cq (2^all.length) _ _ ?_ ?_
  ·rintro j ρ x hj ⟨h1,h6,fZ,p7,og,tk,hA,rfl⟩ ih
   have PS:j<2^w.rs.l.length:=by rw[←pf];exact hj
   have ajy:j<2^62:=l6 PS (gP (by decide) (by omega))
   have nR:∀r,au AP (.fn 55) [CH w o e all,I (j:Int)] (s.push r)=some (I (jt w j),s.push r):=fun r=>aen (hs.push r) hw PS
   have jm:∀r,au AP (.fn 56) [CH w o e all,I (j:Int)] (s.push r)=some (B (pI all j),s.push r):=fun r=>ael (hs.push r) iq.e (by omega) ajy
   have jj:∀r,au AP (.fn 40) [CH w o e all,.slice .aA 0 [],I (j:Int)] (s.push r)=some (B (c8 w all [] j),s.push r):=fun r=>Js (plan:=[]) (hs.push r) hw iq PS (by simp) (.inl rfl) (by simp)
   have jE:=bK hj (show(((2^all.length:Nat):Nat):Int)<_ by omega)
   have cp:=Ad (w:=w) (all:=all) (n:=j)
   have aC:=aS hj
   have hsj:=pt j (by omega)
   generalize di w all j=st at*
   generalize di w all (j+1)=aQ at*
   generalize tV:jt w j=W1 at*
   generalize Qm:pI all j=B1 at*
   generalize Qn:c8 w all [] j=B2 at*
   unfold rM at cp
   rw[tV,Qm,Qn]at cp
   simp only[CH]at nR jm jj
   cases hg:decide (st.1≤W1)with
   |false=>
    rw[hg,kn,aq (by simp)]at cp
    simp(maxSteps:=1000000) only[go_sem,uM,h1,h6,fZ,p7,hs,aC,nR,jm,jj,hg,jE,Nat.reduceEqDiff,reduceCtorEq,Nat.reduceAdd,Nat.reduceMul,Nat.reduceSub,Int.reduceLT,Int.reduceLE,Int.reduceEq,Int.reduceAdd,Int.reduceSub,Int.reduceNeg,Int.reduceToNat,cQ,↓reduceIte]
    refine ih _ _ ?_
    exact⟨h1,by rw[cp];exact h6,fZ,rfl,og,tk,by rw[cp];exact hA,rfl⟩
   | true =>
    cases B1 with
    |false=>
     rw[hg,kn,nq,aq (by simp)]at cp
     simp(maxSteps:=1000000) only[go_sem,uM,h1,h6,fZ,p7,hs,aC,nR,jm,jj,hg,jE,Nat.reduceEqDiff,reduceCtorEq,Nat.reduceAdd,Nat.reduceMul,Nat.reduceSub,Int.reduceLT,Int.reduceLE,Int.reduceEq,Int.reduceAdd,Int.reduceSub,Int.reduceNeg,Int.reduceToNat,cQ,↓reduceIte]
     refine ih _ _ ?_
     exact⟨h1,by rw[cp];exact h6,fZ,rfl,og,tk,by rw[cp];exact hA,rfl⟩
    | true =>
     cases B2 with
     |false=>
      rw[hg,nq,nq,aq (by simp)]at cp
      simp(maxSteps:=1000000) only[go_sem,uM,h1,h6,fZ,p7,hs,aC,nR,jm,jj,hg,jE,Nat.reduceEqDiff,reduceCtorEq,Nat.reduceAdd,Nat.reduceMul,Nat.reduceSub,Int.reduceLT,Int.reduceLE,Int.reduceEq,Int.reduceAdd,Int.reduceSub,Int.reduceNeg,Int.reduceToNat,cQ,↓reduceIte]
      refine ih _ _ ?_
      exact⟨h1,by rw[cp];exact h6,fZ,rfl,og,tk,by rw[cp];exact hA,rfl⟩
     | true =>
      rw[hg,x6,x6,ak rfl]at cp
      by_cases hm:st.1<W1
      ·have hd:decide (st.1<W1)=true:=bM hm
       rw[ak hm]at cp
       obtain⟨x',gC,tk',c9,eS,_⟩:=(Acc.start (d:=s.ag.length) (es:=1) (toks:=tk)).append hs .full (ys:=[mF j]) (by simp) (by simp)
       simp(maxSteps:=1000000) only[go_sem,uM,h1,h6,fZ,p7,hs,aC,nR,jm,jj,hg,jE,hd,c9,Nat.reduceEqDiff,reduceCtorEq,Nat.reduceAdd,Nat.reduceMul,Nat.reduceSub,Int.reduceLT,Int.reduceLE,Int.reduceEq,Int.reduceAdd,Int.reduceSub,Int.reduceNeg,Int.reduceToNat,cQ,↓reduceIte]
       refine ih _ _ ?_
       exact⟨h1,by rw[cp];rfl,fZ,rfl,gC,tk',by rw[cp];exact eS,rfl⟩
      ·have hd:decide (st.1<W1)=false:=bX hm
       rw[aq hm]at cp
       obtain⟨x',gC,tk',c9,eS,_⟩:=hA.append hs .full (ys:=[mF j]) (by simp) (by simp;omega)
       simp(maxSteps:=1000000) only[go_sem,uM,h1,h6,fZ,p7,hs,aC,nR,jm,jj,hg,jE,hd,c9,Nat.reduceEqDiff,reduceCtorEq,Nat.reduceAdd,Nat.reduceMul,Nat.reduceSub,Int.reduceLT,Int.reduceLE,Int.reduceEq,Int.reduceAdd,Int.reduceSub,Int.reduceNeg,Int.reduceToNat,cQ,↓reduceIte]
       refine ih _ _ ?_
       exact⟨h1,by rw[cp];exact h6,fZ,rfl,gC,tk',by rw[cp,ib];exact eS,rfl⟩
  ·rintro ρ x ⟨h1,h6,fZ,p7,og,tk,hA,rfl⟩
   have gA:=aol (all.length+1) []
   unfold gZ
   by_cases xy:(di w all (2^all.length)).1<0
   ·have hd:decide ((di w all (2^all.length)).1<0)=true:=bM xy
    rw[ak xy]
    simp(maxSteps:=1000000) only[go_sem,uM,Ik,h1,h6,fZ,p7,hs,bN,hd,Nat.reduceEqDiff,reduceCtorEq,Nat.reduceAdd,Nat.reduceMul,Nat.reduceSub,Int.reduceLT,Int.reduceLE,Int.reduceEq,Int.reduceAdd,Int.reduceSub,Int.reduceNeg,Int.reduceToNat,cQ,↓reduceIte]
    rfl
   ·have hd:decide ((di w all (2^all.length)).1<0)=false:=bX xy
    rw[aq xy]
    have h5:∃o5 e5,ρ 5=.slice o5 e5 ((di w all (2^all.length)).2.map mF)∧((di w all (2^all.length)).2=[]∨e5=1):=by
     cases og with
     |none=>obtain⟨q1,q2⟩:=hA;exact⟨_,_,by rw[q2,q1],.inl (by simpa using q1)⟩
     |some g=>exact⟨_,_,hA.2.1,.inr rfl⟩
    simp(maxSteps:=1000000) only[go_sem,uM,Ik,h1,h6,fZ,p7,hs,bN,hd,Nat.reduceEqDiff,reduceCtorEq,Nat.reduceAdd,Nat.reduceMul,Nat.reduceSub,Int.reduceLT,Int.reduceLE,Int.reduceEq,Int.reduceAdd,Int.reduceSub,Int.reduceNeg,Int.reduceToNat,cQ,↓reduceIte]
    refine(gA _ _ _ _ rfl (by simp[j9]) (by simp[j9]) (by simp) (by simp) ?_).trans rfl
    exact⟨h1,h5,h6,none,tk,[],Acc.start,rfl⟩
 have jC:=wC (k:=all.length) (by omega)
 rw[aM (show AP 29=some D3 from rfl) rfl]
 simp only[CH,OW]at Zf⊢
 simp(maxSteps:=1000000) only[go_sem,T9,hs,jC,Nat.reduceEqDiff,reduceCtorEq,Nat.reduceAdd,Nat.reduceMul,Nat.reduceSub,Int.reduceLT,Int.reduceLE,Int.reduceEq,Int.reduceAdd,Int.reduceSub,Int.reduceNeg,Int.reduceToNat,cQ,↓reduceIte]
 refine Zf 0 _ _ (bp _) ?_
 exact⟨rfl,rfl,rfl,rfl,none,[],Acc.start,rfl⟩
end
def eO (w:W):Int:=if(de w).2.2=0 then cond (uo w) 0 8 else(de w).2.2
section
variable{s:ae} {w:W}
theorem OR (hw:Wk w):sX w (cr 2 (bf w)).e (bf w):=by
 have dZ:∀(i:Nat) (c:Sl P×Bool),(bf w)[i]? =some c→i<w.rs.l.length∧c=(cr 3 (bS w [] (i:Nat)),true):=fun i c h=>by
  have hi:=(bd.1 h).1
  rw[bf,OS]at hi
  refine⟨hi,?_⟩
  rw[bf,pZ,gX,HI hi]at h
  injection h with h
  exact h.symm
 have gg:∀c∈bf w,∃i:Nat,i<w.rs.l.length∧c=(cr 3 (bS w [] (i:Nat)),true):=fun c hc=>by
  obtain⟨i,hi⟩:=n9 hc
  exact⟨i,dZ i c hi⟩
 refine⟨?_,by simp[bf,OS],fun c hc=>?_,fun c hc=>?_,fun c hc p hp=>?_,fun i c hc p hp=>?_⟩
 ·cases bf w
  ·exact .inl rfl
  ·exact .inr rfl
 ·obtain⟨i,hi,rfl⟩:=gg c hc;exact wj
 ·obtain⟨i,hi,rfl⟩:=gg c hc
  rw[iJ]
  exact kt (nu _ _) (z7 hw (by omega) (by omega))
 ·obtain⟨i,hi,rfl⟩:=gg c hc
  rw[iJ]at hp
  exact(kg hw (i:=(i:Nat)) (by omega) (by omega) (eH.1 hp).1).1
 ·obtain⟨hi,rfl⟩:=dZ i c hc
  rw[iJ]at hp
  exact(kg hw (i:=(i:Nat)) (by omega) (by omega) (eH.1 hp).1).2.1
def ny (w:W):List P×Int×Bool:=gZ w (bf w)
theorem aa9 (hs:Ok s) (hw:w.Ok) (hf:w.ju):au AP (.fn 8) [w.v] s=some (.tuple [aU 3 ((if eO w=0 then(ny w).1 else[]).map aj),I (if eO w=0 then(ny w).2.1 else 0),I (eO w)],s):=by
 have ho:∀r,au AP (.fn 27) [w.v] (s.push r)=some (.tuple [if(de w).2.2=0 then OW w else NP,I (eO w)],s.push r):=fun r=>Lz (hs.push r) hw hf
 rw[aM (show AP 8=some Ev from rfl) rfl]
 simp only[W.v,cJ,Sl.v]at ho
 by_cases h0:eO w=0
 ·have he:(de w).2.2=0:=by
   unfold eO at h0
   by_cases h:(de w).2.2=0
   ·exact h
   ·rw[aq h]at h0;exact absurd h0 h
  have bW:Wk w:=⟨hw,hf,pL he⟩
  rw[ak he,h0]at ho
  have jk:∀r,au AP (.fn 28) [OW w] (s.push r)=some (CH w (cr 2 (bf w)).o (cr 2 (bf w)).e (bf w),s.push r):=fun r=>by
   rw[SJ (hs.push r) bW,qG];simp only[Sl.v,iJ]
  have kE:∀r,au AP (.fn 29) [CH w (cr 2 (bf w)).o (cr 2 (bf w)).e (bf w)] (s.push r)=some (A0 (ny w),s.push r):=fun r=>Vk (hs.push r) bW (OR bW)
  rw[h0]
  simp only[CH,A0]at jk kE
  simp only[bP]
  simp(maxSteps:=1000000) only[go_sem,Nn,ho,jk,kE,bn,eW,Nat.reduceEqDiff,Nat.reduceAdd,↓reduceIte]
 ·simp only[h0,db]
  simp(maxSteps:=1000000) only[go_sem,Nn,ho,bn,h0,iC,Nat.reduceEqDiff,Nat.reduceAdd,↓reduceIte]
  rfl
end
def iV (l:List P):Int:=match l.getLast? with
 |some p=>p.req
 |none=>-1
def fG (r:R):Int→List Int→Int
 |_,[]=>0
 |last,a::t=>if(r.an.l.any fun b=>decide (a=b))=true then(if last<a then fG r a t else 9)else 6
def ed (w : W) (p : P) (Wi : List P) : Int :=
 if wi p.req 0 (w.rs.l.length - 1) = true then
  if iV Wi < p.req then
   if wi p.start (w.rq p.req).lo ((w.rq p.req).hi + 1 - (w.rq p.req).len) = true then
    if(p.an.l.length:Int)=(w.rq p.req).need then
     if fG (w.rq p.req) (-1) p.an.l=0 then
      if(p.an.l.any fun a=>!dc w a p.start (w.rq p.req).len)=true then 21
      else if cK w p Wi=true then 13 else 0
     else fG (w.rq p.req) (-1) p.an.l
    else 10
   else 2
  else 9
 else 6
theorem TM {w:W} {r:R} {st len:Int}:∀{l:List Int} {last:Int},fG r last l=0→(∀a∈l,(r.an.l.any fun b=>decide (a=b))=true)∧(∀a∈l,last<a)
 |[],_,_=>by simp
 | a :: t, last, h => by
  simp only[fG]at h
  by_cases h1:(r.an.l.any fun b=>decide (a=b))=true
  ·rw[ak h1]at h
   by_cases h2:last<a
   ·rw[ak h2]at h
    obtain⟨i1,i2⟩:=TM (w:=w) (st:=st) (len:=len) h
    refine⟨fun b hb=>?_,fun b hb=>?_⟩
    ·rcases er.1 hb with rfl|hb
     ·exact h1
     ·exact i1 b hb
    ·rcases er.1 hb with rfl|hb
     ·exact h2
     ·have:=i2 b hb;omega
   ·rw[aq h2]at h;omega
  ·rw[aq h1]at h;omega
theorem Rj {l:List Int} {a:Int} (h:(l.any fun b=>decide (a=b))=true):a∈l:=by
 obtain⟨b,hb,he⟩:=eA.1 h
 have:a=b:=by simpa using he
 rw[this];exact hb
section
variable{s:ae} {w:W}
theorem aud {p:P} {l:List P} {o:Own} {e:Nat} (hs:Ok s) (hw:Wk w) (dP:p.an.ok 1) (cI:(p.an.l.length:Int)<1000000) (hl:∀x∈l,bZ w x) (he:l=[]∨e=3) (hn:(l.length:Int)<1000000):
  au AP (.fn 60) [OW w,.agg (aj p),.slice o e (l.map aj)] s=some (I (ed w p l),s):=by
 have dJ:=hw.v.rl
 have iQ:=hw.v.n2
 have fR:∀q:ae,au AP (.fn 33) [OW w,I p.req] q=some (I (cond (wi p.req 0 (w.rs.l.length-1)) 0 6),q):=fun q=>SK hw
 have main : ∀ (h0 : 0 ≤ p.req) (h1 : p.req < w.rs.l.length), (w.rq p.req).lo ≤ p.start → p.start ≤ (w.rq p.req).hi + 1 - (w.rq p.req).len → ∀ (j : Nat) ρ x, j ≤ p.an.l.length → (ρ 0 = OW w ∧ ρ 2 = .slice o e (l.map aj) ∧ ρ 4 = .ptr s.ag.length 0 0 ∧ ρ 10 = .ptr s.ag.length 1 0 ∧ ρ 76 = p.an.v aB ∧ ρ 77 = I p.an.l.length ∧ ρ 78 = I j ∧
   (∃last:Int,ρ 7=I last∧fG (w.rq p.req) (-1) p.an.l=fG (w.rq p.req) last (p.an.l.drop j))∧ρ 12=B ((p.an.l.take j).any fun a=>!dc w a p.start (w.rq p.req).len)∧(∀a∈p.an.l.take j,a∈(w.rq p.req).an.l)∧
   ∃bx tk,x=s.push ⟨aj p::bO (w.rq p.req)::bx,tk⟩)→
   go AP WH (.c (.loop wI)::Zd) ⟨ρ,x⟩=some (I (if fG (w.rq p.req) (-1) p.an.l=0 then(if(p.an.l.any fun a=>!dc w a p.start (w.rq p.req).len)=true then 21 else if cK w p l=true then 13 else 0)else fG (w.rq p.req) (-1) p.an.l),s):=by
  intro h0 h1 zB GD
  have hq:=hw.rq h0 h1
  have sC:=hw.ok.an _ (W.qB h0 h1)
  have q0:=hq.sN
  have q1:=hq.bh
  have q2:=hq.rA
  have q3:=hq.qn
  have XU:=hw.tD.an _ (W.qB h0 h1)
  refine cq p.an.l.length _ _ ?_ ?_
  ·rintro j ρ x hj ⟨g0,g2,g4,g10,w9,xd,Bz,⟨last,g7,kF⟩,g12,gg,bx,tk,rfl⟩ ih
   obtain⟨a,ha⟩:=get_some hj
   have hr:=Sl.ix (f:=aB) dP ha
   have qc:∀r,au AP (.fn 57) [.slice (w.rq p.req).an.o (w.rq p.req).an.e ((w.rq p.req).an.l.map aB),I a] (s.push r)=some (B ((w.rq p.req).an.l.any fun b=>decide (a=b)),s.push r):=fun r=>LX sC.1 (by omega)
   rw[eR ha,fG]at kF
   have YM:=bK hj (show(p.an.l.length:Int)<_ by omega)
   simp only[Sl.v]at w9 hr
   generalize vA:w.rq p.req=q at*
   cases hm:q.an.l.any fun b=>decide (a=b)with
   |false=>
    rw[hm]at qc kF
    rw[aq (by simp)]at kF
    rw[kF]
    simp only[go_sem,wI,g0,g4,g7,g10,g12,w9,xd,Bz,aS hj,hr,qc,lk,mH,dV,bn,simprocAttr]
    rfl
   | true =>
    rw[hm]at qc kF
    rw[ak rfl]at kF
    have qX:=hq.tq a (Rj hm)
    have cd:∀r,au AP (.fn 89) [OW w,I a,I p.start,I q.len] (s.push r)=some (B (dc w a p.start q.len),s.push r):=fun r=>ab0 hw qX.1 qX.2 (by omega) (by omega) (by omega)
    by_cases xu:last<a
    ·have hd:decide (last<a)=true:=bM xu
     rw[ak xu]at kF
     have mm:∀c:Bool,B c=B ((p.an.l.take (j+1)).any fun a=>!dc w a p.start q.len)→∀ρ' x',(ρ' 0=OW w∧ρ' 2=.slice o e (l.map aj)∧ρ' 4=.ptr s.ag.length 0 0∧ρ' 10=.ptr s.ag.length 1 0∧ρ' 76=.slice p.an.o p.an.e (p.an.l.map aB)∧ρ' 77=I p.an.l.length∧ρ' 78=I ((j+1:Nat):Int)∧ρ' 7=I a∧ρ' 12=B c∧∃bx tk,x'=s.push ⟨aj p::bO q::bx,tk⟩)→
       go AP WH (.c (.loop wI)::Zd) ⟨ρ',x'⟩=some (I (if fG q (-1) p.an.l=0 then(if(p.an.l.any fun a=>!dc w a p.start q.len)=true then 21 else if cK w p l=true then 13 else 0)else fG q (-1) p.an.l),s):=by
      rintro c fl ρ' x' ⟨k0,k2,k4,Q0,k76,k77,k78,k7,Q5,kb⟩
      refine ih ρ' x' ⟨k0,k2,k4,Q0,k76,k77,k78,⟨a,k7,kF⟩,by rw[Q5,fl],fun b hb=>?_,kb⟩
      rw[fF ha]at hb
      rcases dC.1 hb with h|h
      ·exact gg b h
      ·simp at h;subst h;exact Rj hm
     have qj:((p.an.l.take (j+1)).any fun a=>!dc w a p.start q.len)=(((p.an.l.take j).any fun a=>!dc w a p.start q.len)||!dc w a p.start q.len):=by
      rw[fF ha,s7];simp
     generalize((p.an.l.take j).any fun a=>!dc w a p.start q.len)=C at*
     cases C with
     |true=>
      simp only[go_sem,wI,g7,g10,g12,w9,xd,Bz,aS hj,hr,qc,hd,lk,mH,dV,bn,eW,YM,simprocAttr]
      refine mm true (by rw[qj];rfl) _ _ ?_
      exact⟨g0,g2,g4,g10,w9,xd,rfl,rfl,rfl,_,_,rfl⟩
     |false=>
      simp only[go_sem,wI,g0,g4,g7,g10,g12,w9,xd,Bz,aS hj,hr,qc,cd,hd,lk,mH,dV,bn,eW,YM,simprocAttr]
      refine mm (!dc w a p.start q.len) (by rw[qj];rfl) _ _ ?_
      exact⟨g0,g2,g4,g10,w9,xd,rfl,rfl,rfl,_,_,rfl⟩
    ·have hd:decide (last<a)=false:=bX xu
     rw[aq xu]at kF
     rw[kF]
     simp only[go_sem,wI,g0,g4,g7,g10,g12,w9,xd,Bz,aS hj,hr,qc,hd,lk,mH,dV,bn,simprocAttr]
     rfl
  ·rintro ρ x ⟨g0,g2,g4,g10,w9,xd,Bz,⟨last,g7,kF⟩,g12,gg,bx,tk,rfl⟩
   rw[eZ]at kF
   rw[jb]at gg g12
   have aiM:fG (w.rq p.req) (-1) p.an.l=0:=kF
   have dI:bZ w p:=⟨h0,h1,by omega,by omega,fun a ha=>hq.tq a (gg a ha),dP,by omega⟩
   have dW:∀r,au AP (.fn 86) [OW w,.agg (aj p),.slice o e (l.map aj)] (s.push r)=some (B (cK w p l),s.push r):=fun r=>SI (hs.push r) hw dI hl he (by omega)
   rw[ak aiM]
   simp only[aj,Sl.v]at dW
   generalize(p.an.l.any fun a=>!dc w a p.start (w.rq p.req).len)=C at*
   generalize cK w p l=D at*
   simp only[go_sem,wI,NU,g0,g2,g4,g12,xd,Bz,bN,dW,lk,mH,simprocAttr]
   cases C<;>cases D<;>rfl
 rw[aM (show AP 60=some E1 from rfl) rfl]
 cases kF:l.getLast? with
 | none =>
  have Gu:l=[]:=Mb.1 kF
  subst Gu
  have BV:iV ([]:List P)=-1:=rfl
  by_cases hA:wi p.req 0 (w.rs.l.length-1)=true
  ·by_cases hB:-1<p.req
   ·have y8:decide (-1<p.req)=true:=bM hB
    have tJ:=iE.1 hA
    have h0:0≤p.req:=tJ.1
    have h1:p.req<w.rs.l.length:=by omega
    have hq:=hw.rq h0 h1
    have q0:=hq.sN
    have q1:=hq.bh
    have q2:=hq.rA
    have q3:=hq.qn
    have gj:=rz hw h0 h1
    have jW:ed w p []=if wi p.start (w.rq p.req).lo ((w.rq p.req).hi+1-(w.rq p.req).len)=true then if(p.an.l.length:Int)=(w.rq p.req).need then(if fG (w.rq p.req) (-1) p.an.l=0 then(if(p.an.l.any fun a=>!dc w a p.start (w.rq p.req).len)=true then 21 else if cK w p []=true then 13 else 0)else fG (w.rq p.req) (-1) p.an.l)else 10 else 2:=by
     unfold ed;rw[ak hA,BV,ak hB]
    rw[jW]
    have main:=main h0 h1
    have sC:=(hw.ok.an _ (W.qB h0 h1))
    have w1:IntKind.i64.wrap ((w.rq p.req).hi+1)=(w.rq p.req).hi+1:=ch (by omega) (by omega)
    have w2:IntKind.i64.wrap ((w.rq p.req).hi+1-(w.rq p.req).len)=(w.rq p.req).hi+1-(w.rq p.req).len:=ch (by omega) (by omega)
    simp only[OW,aj,bO,Sl.v,nw]at main fR gj⊢
    generalize w.rq p.req=q at*
    obtain⟨bJ,lo,hi,len,val,⟨oa,ea,an⟩,need⟩:=q
    simp only at*
    simp only[go_sem,yx,hs,fR,lk,mH,hA,y8,dV,bn,eW,xZ,gj,w1,w2,vS,cQ,simprocAttr]
    cases hC:wi p.start lo (hi+1-len)with
    |false=>simp only[go_sem,ez,simprocAttr];rfl
    | true =>
     by_cases hD:(p.an.l.length:Int)=need
     ·have FR:decide ((p.an.l.length:Int)=need)=true:=bM hD
      have FQ:=iE.1 hC
      simp only[go_sem,FR,eW,simprocAttr]
      refine(main FQ.1 FQ.2 0 _ _ (bp _) ?_).trans ?_
      ·exact⟨rfl,rfl,rfl,rfl,rfl,rfl,rfl,⟨-1,rfl,rfl⟩,rfl,by simp,_,_,rfl⟩
      ·rw[ak hD]
     ·have FR:decide ((p.an.l.length:Int)=need)=false:=bX hD
      simp only[go_sem,hD,simprocAttr];rfl
   ·have y8:decide (-1<p.req)=false:=bX hB
    have jW:ed w p []=9:=by unfold ed;rw[ak hA,BV,aq hB]
    rw[jW]
    simp only[OW,aj,Sl.v,nw]at fR⊢
    simp only[go_sem,yx,fR,lk,mH,hA,y8,dV,bn,cQ,simprocAttr]
    rfl
  ·have y7:wi p.req 0 (w.rs.l.length-1)=false:=by simpa using hA
   have jW:ed w p []=6:=by unfold ed;rw[aq hA]
   rw[jW]
   simp only[OW,aj,Sl.v,nw]at fR⊢
   simp only[go_sem,yx,fR,lk,mH,y7,dV,bn,cQ,simprocAttr]
   rfl
 | some a =>
  have gJ:l[l.length-1]? =some a:=by rw[←acq];exact kF
  have BV:iV l=a.req:=by simp[iV,kF]
  have aD:0<l.length:=by
   have:=(bd.1 gJ).1;omega
  have oD:e=3:=by rcases he with h|h;(rw[h]at aD;simp at aD);exact h
  subst oD
  have hr:=cD (f:=aj) (o:=o) (es:=3) gJ
  have jD:IntKind.i64.wrap ((l.length:Int)-1)=((l.length-1:Nat):Int):=by rw[ch]<;>omega
  have hd:decide ((0:Int)<(l.length:Int))=true:=bM (by omega)
  simp only[aj,Sl.v]at hr
  by_cases hA:wi p.req 0 (w.rs.l.length-1)=true
  ·by_cases hB:a.req<p.req
   ·have y8:decide (a.req<p.req)=true:=bM hB
    have tJ:=iE.1 hA
    have h0:0≤p.req:=tJ.1
    have h1:p.req<w.rs.l.length:=by omega
    have hq:=hw.rq h0 h1
    have q0:=hq.sN
    have q1:=hq.bh
    have q2:=hq.rA
    have q3:=hq.qn
    have gj:=rz hw h0 h1
    have jW:ed w p l=if wi p.start (w.rq p.req).lo ((w.rq p.req).hi+1-(w.rq p.req).len)=true then if(p.an.l.length:Int)=(w.rq p.req).need then(if fG (w.rq p.req) (-1) p.an.l=0 then(if(p.an.l.any fun a=>!dc w a p.start (w.rq p.req).len)=true then 21 else if cK w p l=true then 13 else 0)else fG (w.rq p.req) (-1) p.an.l)else 10 else 2:=by
     unfold ed;rw[ak hA,BV,ak hB]
    rw[jW]
    have main:=main h0 h1
    have sC:=(hw.ok.an _ (W.qB h0 h1))
    have w1:IntKind.i64.wrap ((w.rq p.req).hi+1)=(w.rq p.req).hi+1:=ch (by omega) (by omega)
    have w2:IntKind.i64.wrap ((w.rq p.req).hi+1-(w.rq p.req).len)=(w.rq p.req).hi+1-(w.rq p.req).len:=ch (by omega) (by omega)
    simp only[OW,aj,bO,Sl.v]at main fR gj⊢
    generalize w.rq p.req=q at*
    obtain⟨bJ,lo,hi,len,val,⟨oa,ea,an⟩,need⟩:=q
    simp only at*
    simp only[go_sem,yx,hs,fR,lk,mH,hd,jD,hr,hA,y8,dV,bn,eW,xZ,gj,w1,w2,vS,simprocAttr]
    cases hC:wi p.start lo (hi+1-len)with
    |false=>simp only[go_sem,ez,simprocAttr];rfl
    | true =>
     by_cases hD:(p.an.l.length:Int)=need
     ·have FR:decide ((p.an.l.length:Int)=need)=true:=bM hD
      have FQ:=iE.1 hC
      simp only[go_sem,FR,eW,simprocAttr]
      refine(main FQ.1 FQ.2 0 _ _ (bp _) ?_).trans ?_
      ·exact⟨rfl,rfl,rfl,rfl,rfl,rfl,rfl,⟨-1,rfl,rfl⟩,rfl,by simp,_,_,rfl⟩
      ·rw[ak hD]
     ·have FR:decide ((p.an.l.length:Int)=need)=false:=bX hD
      simp only[go_sem,hD,simprocAttr];rfl
   ·have y8:decide (a.req<p.req)=false:=bX hB
    have jW:ed w p l=9:=by unfold ed;rw[ak hA,BV,aq hB]
    rw[jW]
    simp only[OW,aj,Sl.v]at fR⊢
    simp only[go_sem,yx,fR,lk,mH,hd,jD,hr,hA,y8,dV,bn,simprocAttr]
    rfl
  ·have y7:wi p.req 0 (w.rs.l.length-1)=false:=by simpa using hA
   have jW:ed w p l=6:=by unfold ed;rw[aq hA]
   rw[jW]
   simp only[OW,aj,Sl.v]at fR⊢
   simp only[go_sem,yx,fR,lk,mH,hd,jD,hr,y7,dV,bn,simprocAttr]
   rfl
theorem Lk (hw : Wk w) {p : P} {l : List P} (dP : p.an.ok 1) (cI : (p.an.l.length : Int) < 1000000) (h : ed w p l = 0) : bZ w p ∧ iV l < p.req ∧ cK w p l = false ∧ (w.rq p.req).lo ≤ p.start ∧ p.start ≤ (w.rq p.req).hi + 1 - (w.rq p.req).len ∧ (p.an.l.length : Int) = (w.rq p.req).need ∧ fG (w.rq p.req) (-1) p.an.l = 0 ∧ (p.an.l.any fun a => !dc w a p.start (w.rq p.req).len) = false := by
 unfold ed at h
 by_cases h1:wi p.req 0 (w.rs.l.length-1)=true
 ·rw [ak h1] at h
  by_cases h2:iV l<p.req
  ·rw [ak h2] at h
   by_cases h3:wi p.start (w.rq p.req).lo ((w.rq p.req).hi+1-(w.rq p.req).len)=true
   ·rw [ak h3] at h
    by_cases h4:(p.an.l.length:Int)=(w.rq p.req).need
    ·rw [ak h4] at h
     by_cases h5:fG (w.rq p.req) (-1) p.an.l=0
     ·rw[ak h5]at h
      cases h6:p.an.l.any fun a=>!dc w a p.start (w.rq p.req).len with
      |true=>rw[h6,ak rfl]at h;omega
      | false =>
       rw[h6,aq (by simp)]at h
       cases h7:cK w p l with
       |true=>rw[h7,ak rfl]at h;omega
       |false=>
        rw[iE]at h1 h3
        have hq:=hw.rq h1.1 (by omega)
        have q0:=hq.sN
        have q1:=hq.bh
        have q2:=hq.rA
        have q3:=hq.qn
        have iQ:=hw.v.n2
        refine⟨⟨h1.1,by omega,by omega,by omega,fun a ha=>hq.tq a (Rj ((TM (w:=w) (st:=0) (len:=0) h5).1 a ha)),dP,by omega⟩,h2,rfl,h3.1,h3.2,h4,h5,rfl⟩
     ·rw[aq h5]at h;exact absurd h h5
    ·rw[aq h4]at h;omega
   ·rw[aq h3]at h;omega
  ·rw[aq h2]at h;omega
 ·rw[aq h1]at h;omega
def fh (w:W) (l:List P):Int×Int:=match eJ (fun i x=>ed w x (l.take i)) 0 l with
 |some (k,e)=>(k,e)
 |none=>(0,0)
structure jO (l:List P):Prop where
 len:l.length≤14
 ok:∀p∈l,p.an.ok 1∧p.an.l.length≤6
theorem WQ {α:Type} {f:Nat→α→Int}:∀{l:List α} {k:Nat},eJ f k l=none→∀(j:Nat) x,l[j]? =some x→f (k+j) x=0
 |[],_,_,_,_,h=>by simp at h
 | a :: r, k, hn, j, x, h => by
  simp only[eJ]at hn
  by_cases h1:f k a=0
  ·rw[ak h1]at hn
   cases j with
   |zero=>simp at h;subst h;exact h1
   |succ j=>
    have:=WQ hn j x (by simpa using h)
    rw[show k+(j+1)=k+1+j by omega];exact this
  ·rw[aq h1]at hn;cases hn
theorem VA (hw:Wk w) {l:List P} (hl:jO l) (h:(fh w l).2=0):∀(j:Nat) x,l[j]? =some x→ed w x (l.take j)=0:=by
 unfold fh at h
 cases hf:eJ (fun i x=>ed w x (l.take i)) 0 l with
 |some q=>obtain⟨k,e⟩:=q;rw[hf]at h;exact absurd h (Bv hf)
 |none=>
  intro j x hj
  have:=WQ hf j x hj
  rwa [fN]at this
theorem VB (hw:Wk w) {l:List P} (hl:jO l) (h:(fh w l).2=0):∀x∈l,bZ w x:=fun x hx=>by
 obtain⟨j,hj⟩:=n9 hx
 have h1:=hl.ok x hx
 exact(Lk hw h1.1 (by omega) (VA hw hl h j x hj)).1
theorem SH {l:List P} {o:Own} {e:Nat} (hs:Ok s) (hw:Wk w) (hl:jO l) (he:l=[]∨e=3):au AP (.fn 31) [OW w,.slice o e (l.map aj)] s=some (.tuple [I (fh w l).1,I (fh w l).2],s):=by
 have hlen:=hl.len
 have key:∀j ρ x,j≤l.length→(ρ 0=OW w∧ρ 1=.slice o e (l.map aj)∧ρ 9=.slice o e (l.map aj)∧ρ 10=I l.length∧ρ 11=I j∧(∀y∈l.take j,bZ w y)∧∃bx,x=s.push ⟨bx,[]⟩)→
   go AP agA (.c (.loop DK)::an2) ⟨ρ,x⟩=some (match eJ (fun i x=>ed w x (l.take i)) j (l.drop j)with|some (k,e)=>.tuple [I k,I e]|none=>.tuple [I 0,I 0],s):=by
  refine cq l.length _ _ ?_ ?_
  ·rintro j ρ x hj ⟨h0,h1,h9,du,fD,dI,bx,rfl⟩ ih
   obtain⟨p,hp⟩:=get_some hj
   have Gt:=hl.ok p (bU hp)
   have oD:e=3:=by rcases he with h|h;(rw[h]at hp;simp at hp);exact h
   subst oD
   have hr:=cD (f:=aj) (o:=o) (es:=3) hp
   obtain⟨o',po⟩:=aby (f:=aj) (o:=o) (es:=3) (l:=l) (k:=j) (by omega)
   have jm:∀r,au AP (.fn 60) [OW w,.agg (aj p),.slice o' 3 ((l.take j).map aj)] (s.push r)=some (I (ed w p (l.take j)),s.push r):=fun r=>aud (hs.push r) hw Gt.1 (by omega) dI (.inr rfl) (by rw[fc];omega)
   rw[w6 hp]
   simp only[aj,Sl.v]at jm
   by_cases hz:ed w p (l.take j)=0
   ·simp only[go_sem,DK,h0,h1,h9,du,fD,hs,aS hj,hr,po,jm,hz,bn,eW,bK hj (show(l.length:Int)<_ by omega),simprocAttr]
    refine ih _ _ ?_
    refine⟨h0,h1,h9,du,rfl,fun y hy=>?_,_,rfl⟩
    rw[fF hp]at hy
    rcases dC.1 hy with h|h
    ·exact dI y h
    ·simp at h;subst h;exact(Lk hw Gt.1 (by omega) hz).1
   ·have hd:decide (ed w p (l.take j)=0)=false:=bX hz
    simp only[go_sem,DK,h0,h1,h9,du,fD,hs,aS hj,hr,po,jm,hz,bn,iC,simprocAttr]
  ·rintro ρ x ⟨h0,h1,h9,du,fD,dI,bx,rfl⟩
   simp only[go_sem,DK,NN,du,fD,bN,simprocAttr]
   rw[eZ];rfl
 rw[aM (show AP 31=some ET from rfl) rfl]
 simp only[go_sem,UJ,simprocAttr]
 refine(key 0 _ _ (bp _) ?_).trans ?_
 ·exact⟨rfl,rfl,rfl,rfl,rfl,by simp,_,rfl⟩
 ·unfold fh
  rw[ko]
  cases eJ (fun i x=>ed w x (l.take i)) 0 l with
  |none=>rfl
  |some q=>obtain⟨k,e⟩:=q;rfl
def pJ (w:W) (l:List P):Int×Int:=if(de w).2.2=0 then fh w l else(0,(de w).2.2)
theorem as0 {l:List P} {o:Own} {e:Nat} (hs:Ok s) (hw:w.Ok) (hf:w.ju) (hl:jO l) (he:l=[]∨e=3):au AP (.fn 41) [w.v,.slice o e (l.map aj)] s=some (.tuple [if(de w).2.2=0 then OW w else NP,I (pJ w l).1,I (pJ w l).2],s):=by
 unfold pJ
 rw[aM (show AP 41=some EG from rfl) rfl]
 by_cases hz:(de w).2.2=0
 ·have bW:Wk w:=⟨hw,hf,pL hz⟩
  have ho:∀r,au AP (.fn 51) [w.v] (s.push r)=some (.tuple [OW w,I 0],s.push r):=fun r=>abe (hs.push r) hw hf hz
  have hc:∀r,au AP (.fn 31) [OW w,.slice o e (l.map aj)] (s.push r)=some (.tuple [I (fh w l).1,I (fh w l).2],s.push r):=fun r=>SH (hs.push r) bW hl he
  rw[ak hz,ak hz]
  simp only[W.v,cJ,Sl.v]at ho
  simp only[OW]at ho hc⊢
  simp only[go_sem,NF,ho,hc,bn,eW,simprocAttr]
 ·have ho:∀r,au AP (.fn 51) [w.v] (s.push r)=some (.tuple [NP,I (de w).2.2],s.push r):=fun r=>abf (hs.push r) hw hf hz
  rw[aq hz,aq hz]
  simp only[W.v,cJ,Sl.v]at ho
  simp only[go_sem,NF,ho,bn,hz,iC,simprocAttr]
def bw (w:W):List P→Int
 |[]=>0
 |p::r=>(w.rq p.req).val+bw w r
end
section
variable{s:ae} {w:W}
end
def tx (l:List UInt8):ByteArray:=⟨l.toArray⟩
theorem atP {a b:List UInt8}:tx a++tx b=tx (a++b):=by
 apply L0
 show(tx a++tx b).data=_
 simp[tx]
theorem abT {a:List UInt8}:(tx a).size=a.length:=by simp[tx,ByteArray.size]
theorem Ic {a b:List UInt8} (h:a.length+b.length≤100000000):dR .add (S (tx a)) (S (tx b))=some (S (tx (a++b))):=by
 have h2:¬((((tx a).size+(tx b).size:Nat):Int)>IntKind.i64.max):=by
  have:IntKind.i64.max=9223372036854775807:=by decide
  rw[this,abT,abT];omega
 show Option.map AV.v (sW .add (tx a) (tx b))=_
 unfold sW
 simp only[h2,db,atP]
 rfl
def Small (p:P):Prop:=(0≤p.req∧p.req<100)∧(0≤p.start∧p.start<100)∧p.an.l.length≤1000∧∀a∈p.an.l,0≤a∧a<100
def om:List Int→List UInt8
 |[]=>[]
 |a::r=>43::fC a.toNat++om r
def vW (p:P):List UInt8:=fC p.req.toNat++[64]++fC p.start.toNat++om p.an.l
def FI (l:List P):List UInt8:=[32].intercalate (l.map vW)
theorem Br {n:Nat}:(fC n).length≤2:=by unfold fC;split<;>simp
theorem MG:∀{l:List Int},(om l).length≤3*l.length
 |[]=>by simp[om]
 |a::r=>by
  have h1:=MG (l:=r)
  have h2:=Br (n:=a.toNat)
  simp only[om,eo,cu];omega
theorem TP:∀{l r:List Int},om (l++r)=om l++om r
 |[],r=>rfl
 |a::l,r=>by simp only[l5,om,TP,gN]
section
variable{s:ae} {w:W}
theorem itoa {n:Int} (h0:0≤n) (h1:n<100):au AP (.fn 48) [I n] s=some (S (tx (fC n.toNat)),s):=by
 rw[Vl (show AP 48=some Co from rfl)]
 simp only[mf,oq,oV,et,dE,KU]
 rw[ak ⟨h0,h1⟩];rfl
theorem abG:∀{ls:List (List UInt8)},uq (ls.map fun x=>[S (tx x)])=some ls
 |[]=>rfl
 |a::r=>by
  simp only[iH,uq,abG (ls:=r),dE]
  simp[tx]
theorem join {x:AV} {ls:List (List UInt8)} {es:Nat} (hx:x.close=some (aU es (ls.map fun x=>[S (tx x)]))) (h1:ls.length≤1000000) (h2:([32].intercalate ls).length≤1000000):
  au AP (.fn 49) [x,S (tx [32])] s=some (S (tx ([32].intercalate ls)),s):=by
 rw[Vl (show AP 49=some Cp from rfl)]
 simp only[mf,oq,hx,Oj,et,dE]
 have hs:uq (ls.map fun x=>[S (tx x)])=some ls:=abG
 have ht:(tx [32]).data.toList=[32]:=by simp[tx]
 cases ls with
 |nil=>simp only[nw,aU,G0,uq,et,ht];rfl
 |cons a r=>
  simp only[iH,aU,G0]
  simp only[iH]at hs
  rw[hs]
  simp only[et,ht]
  rw[ak ⟨h1,h2⟩];rfl
theorem auo {p:P} (h:Small p):(vW p).length≤3010:=by
 have h1:=Br (n:=p.req.toNat)
 have h2:=Br (n:=p.start.toNat)
 have h3:=MG (l:=p.an.l)
 have h4:=h.2.2.1
 simp only[vW,cu,yf];omega
theorem Y5:∀{ls:List (List UInt8)} {m:Nat},(∀x∈ls,x.length≤m)→([32].intercalate ls).length≤(m+1)*ls.length
 |[],m,_=>by simp[List.intercalate]
 |[a],m,h=>by
  have:=h a (by simp)
  simp[List.intercalate];omega
 |a::b::r,m,h=>by
  have h1:=Y5 (ls:=b::r) (m:=m) fun x hx=>h x (iI _ hx)
  have h2:=h a (by simp)
  have e:[32].intercalate (a::b::r)=a++[32]++[32].intercalate (b::r):=by simp[List.intercalate,List.intersperse]
  have e2:(a::b::r).length=(b::r).length+1:=rfl
  have e3:(m+1)*((b::r).length+1)=(m+1)*(b::r).length+(m+1):=by rw[Nat.mul_add,Ty]
  have e4:(a++[32]++[32].intercalate (b::r)).length=a.length+1+([32].intercalate (b::r)).length:=by rw[cu,cu];rfl
  rw[e,e2,e3,e4]
  omega
theorem asQ {l:List P} {o:Own} {e:Nat} (hs:Ok s) (he:l=[]∨e=3) (hl:l.length≤100) (bH:∀p∈l,p.an.ok 1∧Small p):au AP (.fn 21) [.slice o e (l.map aj)] s=some (S (tx (FI l)),s):=by
 have key:∀(j:Nat) ρ x,j≤l.length→(ρ 9=.slice o e (l.map aj)∧ρ 10=I l.length∧ρ 11=I j∧∃og tk bx,Acc s.ag.length 1 (((l.take j).map vW).map fun x=>[S (tx x)]) (ρ 3) og tk∧x=s.push ⟨bx,tk⟩)→go AP WD (.c (.loop Dy)::anN) ⟨ρ,x⟩=some (S (tx (FI l)),s):=by
  refine cq l.length _ _ ?_ ?_
  ·rintro j ρ x hj ⟨h9,du,fD,og,tk,bx,hA,rfl⟩ ih
   obtain⟨p,hp⟩:=get_some hj
   have Gt:=bH p (bU hp)
   obtain⟨⟨a1,a2⟩,⟨a3,a4⟩,a5,a6⟩:=Gt.2
   have oD:e=3:=by rcases he with h|h;(rw[h]at hp;simp at hp);exact h
   subst oD
   have hr:=cD (f:=aj) (o:=o) (es:=3) hp
   have d1:=Br (n:=p.req.toNat)
   have d2:=Br (n:=p.start.toNat)
   have i1:∀q:ae,au AP (.fn 48) [I p.req] q=some (S (tx (fC p.req.toNat)),q):=fun q=>itoa a1 a2
   have i2:∀q:ae,au AP (.fn 48) [I p.start] q=some (S (tx (fC p.start.toNat)),q):=fun q=>itoa a3 a4
   have s1 : dR .add (S (tx (fC p.req.toNat))) (S ⟨#[64]⟩) = some (S (tx (fC p.req.toNat ++ [64]))) := Ic (by simp; omega)
   have s2:dR .add (S (tx (fC p.req.toNat++[64]))) (S (tx (fC p.start.toNat)))=some (S (tx (fC p.req.toNat++[64]++fC p.start.toNat))):=Ic (by simp;omega)
   have jE:=bK hj (show(l.length:Int)<_ by omega)
   have qm:∀(q:Nat) ρ x,q≤p.an.l.length→((∃y,ρ 6=S y∧y=tx (fC p.req.toNat++[64]++fC p.start.toNat++om (p.an.l.take q)))∧ρ 9=.slice o 3 (l.map aj)∧ρ 10=I l.length∧ρ 11=I j∧ρ 24=p.an.v aB∧ρ 25=I p.an.l.length∧ρ 26=I q∧
     ∃og tk bx,Acc s.ag.length 1 (((l.take j).map vW).map fun x=>[S (tx x)]) (ρ 3) og tk∧x=s.push ⟨bx,tk⟩)→go AP WD (.c (.loop IQ)::anO) ⟨ρ,x⟩=some (S (tx (FI l)),s):=by
    refine cq p.an.l.length _ _ ?_ ?_
    ·rintro q ρ x hq ⟨⟨y,h6,hy⟩,h9,du,fD,nE,mT,nF,og,tk,bx,hA,rfl⟩ fS
     obtain⟨a,ha⟩:=get_some hq
     have qX:=a6 a (bU ha)
     have hr:=Sl.ix (f:=aB) Gt.1 ha
     have d3:=Br (n:=a.toNat)
     have d4:=MG (l:=p.an.l.take q)
     have d5:(p.an.l.take q).length≤1000:=by rw[fc];omega
     have i3:∀m:ae,au AP (.fn 48) [I a] m=some (S (tx (fC a.toNat)),m):=fun m=>itoa qX.1 qX.2
     have s3 : dR .add (S ⟨#[43]⟩) (S (tx (fC a.toNat))) = some (S (tx ([43] ++ fC a.toNat))) := Ic (a := [43]) (by simp; omega)
     have s4:dR .add (S (tx (fC p.req.toNat++[64]++fC p.start.toNat++om (p.an.l.take q)))) (S (tx ([43]++fC a.toNat)))=some (S (tx (fC p.req.toNat++[64]++fC p.start.toNat++om (p.an.l.take q)++([43]++fC a.toNat)))):=Ic (by simp only[cu,yf];omega)
     rw[←hy]at s4
     obtain⟨z3,hz3⟩:∃z,tx ([43]++fC a.toNat)=z:=⟨_,rfl⟩
     obtain⟨z4,Y0⟩:∃z,tx (fC p.req.toNat++[64]++fC p.start.toNat++om (p.an.l.take q)++([43]++fC a.toNat))=z:=⟨_,rfl⟩
     rw[hz3]at s3 s4
     rw[Y0]at s4
     simp only[Sl.v]at nE hr
     simp only[go_sem,IQ,h6,nE,mT,nF,aS hq,hr,i3,s3,s4,bK hq (show(p.an.l.length:Int)<_ by omega),simprocAttr]
     refine fS _ _ ?_
     refine⟨⟨z4,rfl,?_⟩,h9,du,fD,by simp only[Sl.v];exact nE,mT,rfl,og,tk,_,hA,rfl⟩
     rw[fF ha,TP,←Y0]
     simp[om]
    ·rintro ρ x ⟨⟨y,h6,hy⟩,h9,du,fD,nE,mT,nF,og,tk,bx,hA,rfl⟩
     rw[jb]at hy
     rw[hy]at h6
     have aR:(l.take j).length≤100:=by rw[fc];omega
     obtain⟨x',gC,tk',c9,eS,_⟩:=hA.append hs .full (ys:=[[S (tx (vW p))]]) (by simp) (by simp;omega)
     have Xq:ρ 6=S (tx (vW p)):=h6
     obtain⟨z5,Y1⟩:∃z,tx (vW p)=z:=⟨_,rfl⟩
     rw[Y1]at Xq c9 eS
     simp only[go_sem,IQ,Ns,Nr,Xq,fD,mT,nF,bN,c9,jE,simprocAttr]
     refine ih _ _ ?_
     refine⟨h9,du,rfl,gC,tk',_,?_,rfl⟩
     rw[fF hp,ib,ib,List.map_singleton,List.map_singleton,Y1];exact eS
   simp only[aj,Sl.v]at hr qm
   obtain⟨z1,QP⟩:∃z,tx (fC p.req.toNat++[64])=z:=⟨_,rfl⟩
   obtain⟨z2,KN⟩:∃z,tx (fC p.req.toNat++[64]++fC p.start.toNat)=z:=⟨_,rfl⟩
   rw[QP]at s1 s2
   rw[KN]at s2
   simp only[go_sem,Dy,h9,du,fD,hs,aS hj,hr,i1,i2,s1,s2,simprocAttr]
   refine qm 0 _ _ (bp _) ?_
   refine⟨⟨z2,rfl,?_⟩,h9,du,fD,rfl,rfl,rfl,og,tk,_,hA,rfl⟩
   rw[show p.an.l.take 0=[]from rfl,om,iG,KN]
  ·rintro ρ x ⟨h9,du,fD,og,tk,bx,hA,rfl⟩
   rw[jb]at hA
   have hj : ∀ q : ae, au AP (.fn 49) [ρ 3, S ⟨#[32]⟩] q = some (S (tx (FI l)), q) := fun q => join hA.close (by simp; omega) (by
    have h1:=Y5 (ls:=l.map vW) (m:=3010) fun x hx=>by
     obtain⟨p,hp,rfl⟩:=cz.1 hx
     exact auo (bH p hp).2
    rw[bR]at h1
    have h2:=Nat.mul_le_mul_left 3011 hl
    omega)
   simp only[go_sem,Dy,IU,du,fD,bN,hj,simprocAttr]
 rw[aM (show AP 21=some Ex from rfl) rfl]
 simp only[go_sem,Us,simprocAttr]
 refine key 0 _ _ (bp _) ?_
 exact⟨rfl,rfl,rfl,none,[],[],Acc.start,rfl⟩
def WK : W := ⟨10, ⟨.full, 3, [⟨⟨#[97]⟩, 1, ⟨.full, 2, [(4, 4)]⟩⟩, ⟨⟨#[98]⟩, 0, ⟨.aA, 0, []⟩⟩]⟩,
 ⟨.full, 7, [⟨⟨#[109, 97, 114, 115]⟩, 0, 5, 3, 10, ⟨.full, 1, [0]⟩, 1⟩, ⟨⟨#[109, 111, 111, 110]⟩, 0, 4, 2, 7, ⟨.full, 1, [0, 1]⟩, 1⟩, ⟨⟨#[109, 97, 114, 115]⟩, 0, 9, 4, 6, ⟨.full, 1, [0, 1]⟩, 2⟩]⟩⟩
theorem aor (hs:Ok s):au AP (.fn 20) [] s=some (WK.v,s):=by
 rw[aM (show AP 20=some Ea from rfl) rfl]
 simp only[go_sem,Ue,hs,simprocAttr]
 rfl
end
def L3:List P:=[⟨0,0,fB [0]⟩,⟨1,0,fB [1]⟩,⟨2,5,fB [0,1]⟩]
theorem acI:eO WK=0:=by decide+kernel
theorem acE:(ny WK).1=L3:=by kernel_rfl
theorem acJ:(ny WK).2.1=23:=by decide+kernel
theorem acG:FI L3=[48,64,48,43,48,32,49,64,48,43,49,32,50,64,53,43,48,43,49]:=by decide+kernel
theorem acH:WK.Ok:=by
 refine⟨⟨.inr rfl,.inr (.inl rfl)⟩,fun a ha=>?_,⟨.inr rfl,.inr (.inl rfl)⟩,fun r hr=>?_⟩
 ·simp only[WK,er,Aq,zZ]at ha
  rcases ha with rfl|rfl
  ·exact⟨.inr rfl,.inr (.inl rfl)⟩
  ·exact⟨.inl rfl,.inr (.inr ⟨rfl,rfl⟩)⟩
 ·simp only[WK,er,Aq,zZ]at hr
  rcases hr with rfl|rfl|rfl<;>exact⟨.inr rfl,.inr (.inl rfl)⟩
theorem acF:WK.ju:=by
 refine⟨by decide,by decide,fun a ha=>?_,fun a ha=>?_,fun r hr=>?_,fun r hr=>?_⟩
 ·simp only[WK,er,Aq,zZ]at ha
  rcases ha with rfl|rfl<;>decide
 ·simp only[WK,er,Aq,zZ]at ha
  rcases ha with rfl|rfl<;>decide
 ·simp only[WK,er,Aq,zZ]at hr
  rcases hr with rfl|rfl|rfl<;>decide
 ·simp only[WK,er,Aq,zZ]at hr
  rcases hr with rfl|rfl|rfl<;>decide
section
variable{s:ae}
theorem S3:∀p∈L3,p.an.ok 1∧p.an.l.length≤6∧Small p:=by
 intro p hp
 simp only[L3,er,Aq,zZ]at hp
 rcases hp with rfl|rfl|rfl<;>refine⟨JG,by decide,⟨by decide,by decide⟩,⟨by decide,by decide⟩,by decide,fun a ha=>?_⟩<;>simp[fB]at ha<;>omega
end
theorem pW {p q:Prop} [Decidable p] [Decidable q] (h:p↔¬q):decide p=!decide q:=by
 by_cases hq:q
 ·rw[bM hq,bX (fun hp=>h.1 hp hq)];rfl
 ·rw[bX hq,bM (h.2 hq)];rfl
theorem V9 {p q:Prop} [Decidable p] [Decidable q] (h:p↔q):decide p=decide q:=by
 by_cases hq:q
 ·rw[bM hq,bM (h.2 hq)]
 ·rw[bX hq,bX (fun hp=>hq (h.1 hp))]
section
variable{s:ae} {w:W}
theorem ij {a b c:Int}:au AP (.fn 80) [I a,I b,I c] s=some (B (wi a b c),s):=by
 rw[aM (show AP 80=some D2 from rfl) rfl]
 simp only[go_sem,T8,simprocAttr]
 unfold wi
 cases decide (b≤a)<;>cases decide (a≤c)<;>rfl
theorem ixs {x:ByteArray} {k:Nat} {c:UInt8} (h:x.data.toList[k]? =some c):Ca (S x) (I (k:Int))=some (.v (.int .u8 c.toNat)):=by
 have hk:=(bd.1 h).1
 have vw:k<x.size:=by simpa using hk
 have hb:x[k]? =some c:=by
  have h1:x.data[k]? =some c:=by simpa using h
  obtain⟨h2,h3⟩:=uy.1 h1
  rw[getElem?_pos x k vw]
  exact gS some h3
 simp only[Ca]
 rw[KO vw]
 simp only[et,hb,dE]
theorem apC {x:List UInt8} {k:Nat} {c:UInt8} (h:x[k]? =some c):rD k (x.drop k)=(nameAt k c&&rD (k+1) (x.drop (k+1))):=ZO h
theorem T3 {x:ByteArray} (hx:(x.size:Int)<9223372036854775808):au AP (.fn 98) [S x] s=some (B (isName x),s):=by
 have bV:x.data.size=x.size:=rfl
 have hl:x.data.toList.length=x.size:=by simp[bV]
 have key:∀k ρ m,k≤x.size→(ρ 0=S x∧ρ 3=I k∧m=s.push ⟨[],[]⟩)→go AP Wq (.c (.loop C9)::Y7) ⟨ρ,m⟩=some (B (rD k (x.data.toList.drop k)),s):=by
  refine cq x.size _ _ ?_ ?_
  ·rintro k ρ m hk ⟨h0,h3,rfl⟩ ih
   obtain⟨c,hc⟩:=get_some (l:=x.data.toList) (k:=k) (by omega)
   have hr:=ixs hc
   rw[apC hc,ZN]
   have fS:∀(ρ':Nat→AV),ρ' 0=S x→ρ' 3=I ((k+1:Nat):Int)→go AP Wq (.c (.loop C9)::Y7) ⟨ρ',s.push ⟨[],[]⟩⟩=some (B (rD (k+1) (List.drop (k+1) x.data.toList)),s):=fun ρ' a b=>ih ρ' _ ⟨a,b,rfl⟩
   simp only[go_sem,C9,h0,h3,aS hk,hr,bK hk hx,simprocAttr]
   simp only[bn,r7]
   have e8:decide ((c.toNat:Int)<48)=!decide ((48:Int)≤(c.toNat:Int)):=dec_lt _ _
   have e9:decide ((57:Int)<(c.toNat:Int))=!decide ((c.toNat:Int)≤57):=dec_lt _ _
   rw[e8,e9]
   generalize decide ((97:Int)≤(c.toNat:Int))=a1
   generalize decide ((c.toNat:Int)≤122)=a2
   generalize decide ((65:Int)≤(c.toNat:Int))=a3
   generalize decide ((c.toNat:Int)≤90)=a4
   generalize decide ((c.toNat:Int)=45)=a5
   generalize decide ((48:Int)≤(c.toNat:Int))=a6
   generalize decide ((c.toNat:Int)≤57)=a7
   generalize decide ((k:Int)=0)=a8
   generalize rD (k+1) (List.drop (k+1) x.data.toList)=nf at*
   cases a1<;>cases a2<;>cases a3<;>cases a4<;>cases a5<;>cases a6<;>cases a7<;>cases a8<;>first
    |rfl
    |exact fS _ h0 rfl
  ·rintro ρ m ⟨h0,h3,rfl⟩
   simp only[go_sem,C9,MS,h0,h3,bN,simprocAttr]
   rw[←hl,eZ];rfl
 rw[aM (show AP 98=some D1 from rfl) rfl]
 have e1:decide ((x.size:Int)<1)=!decide (1≤x.size):=pW (by omega)
 have e2:decide ((12:Int)<(x.size:Int))=!decide (x.size≤12):=pW (by omega)
 simp only[go_sem,T7,e1,e2,simprocAttr]
 unfold isName
 cases decide (1≤x.size)with
 |false=>simp only[go_sem,nq,kn,simprocAttr]<;>rfl
 | true =>
  cases decide (x.size≤12)with
  |false=>simp only[go_sem,nq,qD,simprocAttr]<;>rfl
  |true=>
   simp only[go_sem,qD,simprocAttr]
   exact key 0 _ _ (bp _) ⟨rfl,rfl,rfl⟩
theorem Aa {n x y:Int} {o1 o2:Own} {e1 e2:Nat} {r1 r2:List (List AV)} (hs:Ok s) (hn:1≤n) (iQ:n≤200):au AP (.fn 99) [.agg [I n,.slice o1 e1 r1,.slice o2 e2 r2],.agg [I x,I y]] s=some (I (ki n x y),s):=by
 rw[aM (show AP 99=some Eu from rfl) rfl]
 have e:decide (y<x)=!decide (x≤y):=dec_lt _ _
 simp only[go_sem,Uq,ij,ch (x:=n-1) (by omega) (by omega),e,simprocAttr]
 unfold ki
 cases wi x 0 (n-1)<;>cases wi y 0 (n-1)<;>by_cases h:x≤y<;>simp only[go_sem,h,simprocAttr]<;>simp
theorem asd {n:Int} {as:List A} {o1 o2:Own} {e2:Nat} {rs:List (List AV)} {k:Nat} {a:A} (hs:Ok s) (Pv:a.cl.l=[]∨a.cl.e=2) (hn:1≤n) (iQ:n≤200) (ha:as[k]? =some a) (bV:(a.name.size:Int)<9223372036854775808) (hl:as.length≤4) (aP:(a.cl.l.length:Int)<9223372036854775808):
  au AP (.fn 81) [.agg [I n,.slice o1 3 (as.map cj),.slice o2 e2 rs],I k] s=some (I (ku n as k a),s):=by
 have hk:k<as.length:=(bd.1 ha).1
 obtain⟨name,js,⟨oc,ec,cl⟩⟩:=a
 have cC:=cD (f:=cj) (o:=o1) (es:=3) ha
 have qh:∀{m:ae},au AP (.fn 98) [S name] m=some (B (isName name),m):=T3 bV
 have h6:decide ((6:Int)<(cl.length:Int))=!decide (cl.length≤6):=pW (by omega)
 have k2:∀(j:Nat) ρ m,j≤cl.length→(ρ 2=.ptr s.ag.length 0 0∧ρ 5=.ptr s.ag.length 1 0∧ρ 7=I j∧m=s.push ⟨[[I n,.slice o1 3 (as.map cj),.slice o2 e2 rs],[S name,I js,.slice oc ec (cl.map gW)]],[]⟩)→
   go AP Wx (.c (.loop Dq)::anB) ⟨ρ,m⟩=some (I (rZ n (cl.drop j)),s):=by
  refine cq cl.length _ _ ?_ ?_
  ·rintro j ρ m hj ⟨g2,g5,g7,rfl⟩ ih
   obtain⟨p,hp⟩:=get_some hj
   have ej:ec=2:=by rcases Pv with h|h;(simp only at h;rw[h]at hp;simp at hp);exact h
   subst ej
   have hr:=cD (f:=gW) (o:=oc) (es:=2) hp
   rw[eR hp,rZ]
   by_cases h0:ki n p.1 p.2=0
   ·simp only[go_sem,Dq,g2,g5,g7,aS hj,hr,Aa (hs.push _) hn iQ,h0,bn,eW,bK hj aP,simprocAttr]
    exact ih _ _ ⟨g2,g5,rfl,rfl⟩
   ·simp only[go_sem,Dq,g2,g5,g7,aS hj,hr,Aa (hs.push _) hn iQ,h0,bn,iC,simprocAttr]
  ·rintro ρ m ⟨g2,g5,g7,rfl⟩
   simp only[go_sem,Dq,Nf,g5,g7,bN,simprocAttr]
   rw[eZ];rfl
 have k1:∀(j:Nat) ρ m,j≤k→(ρ 1=I k∧ρ 2=.ptr s.ag.length 0 0∧ρ 5=.ptr s.ag.length 1 0∧ρ 6=I j∧((as.take j).any fun b=>decide (b.name=name))=false∧m=s.push ⟨[[I n,.slice o1 3 (as.map cj),.slice o2 e2 rs],[S name,I js,.slice oc ec (cl.map gW)]],[]⟩)→
   go AP Wx (.c (.loop yr)::anC) ⟨ρ,m⟩=some (I (if((as.take k).any fun b=>decide (b.name=name))=true then 5 else if wi js 0 50=true then(if cl.length≤6 then rZ n cl else 8)else 2),s):=by
  refine cq k _ _ ?_ ?_
  ·rintro j ρ m hj ⟨g1,g2,g5,g6,gy,rfl⟩ ih
   obtain⟨b,hb⟩:=get_some (l:=as) (k:=j) (by omega)
   have hr:=cD (f:=cj) (o:=o1) (es:=3) hb
   by_cases he:b.name=name
   ·have:((as.take k).any fun b=>decide (b.name=name))=true:=by
     rw[eA]
     refine⟨b,?_,by simpa using he⟩
     exact bU (i:=j) (by rw[yc,ak hj];exact hb)
    rw[ak this]
    simp only[go_sem,yr,g1,g2,g5,g6,aS hj,hr,he,simprocAttr]
   ·have hd:decide (b.name=name)=false:=bX he
    simp only[go_sem,yr,g1,g2,g5,g6,aS hj,hr,hd,bK hj (show(k:Int)<_ by omega),simprocAttr]
    refine ih _ _ ⟨g1,g2,g5,rfl,?_,rfl⟩
    rw[fF hb,s7,gy];simp[he]
  ·rintro ρ m ⟨g1,g2,g5,g6,gy,rfl⟩
   rw[gy,aq (by simp)]
   cases jD:wi js 0 50 with
   |false=>simp only[go_sem,yr,Dr,g1,g5,g6,bN,ij,jD,simprocAttr]<;>rfl
   | true =>
    by_cases Kh:cl.length≤6
    ·have hd:decide (cl.length≤6)=true:=bM Kh
     simp only[go_sem,yr,Dr,g1,g5,g6,bN,ij,jD,h6,hd,simprocAttr]
     refine(k2 0 _ _ (bp _) ?_).trans ?_
     ·exact⟨g2,g5,rfl,rfl⟩
     ·rw[ak Kh,ko]
    ·have hd:decide (cl.length≤6)=false:=bX Kh
     simp only[go_sem,yr,Dr,g1,g5,g6,bN,ij,jD,h6,hd,simprocAttr]
     rw[aq Kh]
 rw[aM (show AP 81=some En from rfl) rfl]
 unfold ku
 simp only
 cases hi:isName name with
 |false=>simp only[go_sem,Nd,hs,cC,qh,hi,simprocAttr]<;>rfl
 |true=>
  simp only[go_sem,Nd,hs,cC,qh,hi,simprocAttr]
  exact k1 0 _ _ (bp _) ⟨rfl,rfl,rfl,rfl,by simp,rfl⟩
theorem acW {n last:Int} {l:List Int} {k:Nat} {a:Int} (h:l[k]? =some a):kR n last (l.drop k)=if wi a 0 (n-1)=true then(if last<a then kR n a (l.drop (k+1))else 9)else 6:=by
 rw[eR h];rfl
theorem ash {n:Int} {as:List (List AV)} {r:R} {o1 o2:Own} {e1 e2:Nat} {rs:List (List AV)} (hs:Ok s) (fR:r.an.l=[]∨r.an.e=1) (hn:1≤n) (iQ:n≤200) (bV:(r.bJ.size:Int)<9223372036854775808) (hl:as.length≤4) (aP:(r.an.l.length:Int)<9223372036854775808):
  au AP (.fn 82) [.agg [I n,.slice o1 e1 as,.slice o2 e2 rs],.agg (bO r)] s=some (I (kL n as.length r),s):=by
 obtain⟨bJ,lo,hi,len,val,⟨oa,ea,an⟩,need⟩:=r
 have qh:∀{m:ae},au AP (.fn 98) [S bJ] m=some (B (isName bJ),m):=T3 bV
 have KK:IntKind.i64.wrap ((as.length:Int)-1)=(as.length:Int)-1:=ch (by omega) (by omega)
 have tN:(an.length:Int)<9223372036854775808:=aP
 have key : ∀ (j : Nat) ρ m, j ≤ an.length → (ρ 2 = .ptr s.ag.length 0 0 ∧ ρ 3 = .ptr s.ag.length 1 0 ∧ ρ 6 = I j ∧ (∃ last, kR (as.length : Nat) (-1) an = kR (as.length : Nat) last (an.drop j) ∧ (j = 0 → last = -1) ∧ ∀ i x, j = i + 1 → an[i]? = some x → last = x) ∧ m = s.push ⟨[[I n, .slice o1 e1 as, .slice o2 e2 rs], [S bJ, I lo, I hi, I len, I val, .slice oa ea (an.map aB), I need]], []⟩) →
   go AP WA (.c (.loop wF)::Y8) ⟨ρ,m⟩=some (I (if kR (as.length:Nat) (-1) an=0 then(if wi need 1 an.length=true then 0 else 2)else kR (as.length:Nat) (-1) an),s):=by
  refine cq an.length _ _ ?_ ?_
  ·rintro j ρ m hj ⟨g2,g3,g6,⟨last,hL,hL0,hL1⟩,rfl⟩ ih
   obtain⟨x,hx⟩:=get_some hj
   have ej:ea=1:=by rcases fR with h|h;(simp only at h;rw[h]at hx;simp at hx);exact h
   subst ej
   have hr:=cD (f:=aB) (o:=oa) (es:=1) hx
   rw[acW hx]at hL
   have jE:=bK hj aP
   cases jD:wi x 0 ((as.length:Int)-1)with
   |false=>
    rw[jD,aq (by simp)]at hL
    rw[hL]
    simp only[go_sem,wF,g2,g3,g6,aS hj,hr,ij,KK,jD,simprocAttr]
   | true =>
    rw[jD,ak rfl]at hL
    have fS:last<x→∀ρ' m',(ρ' 2=.ptr s.ag.length 0 0∧ρ' 3=.ptr s.ag.length 1 0∧ρ' 6=I ((j+1:Nat):Int)∧m'=s.push ⟨[[I n,.slice o1 e1 as,.slice o2 e2 rs],[S bJ,I lo,I hi,I len,I val,.slice oa 1 (an.map aB),I need]],[]⟩)→
      go AP WA (.c (.loop wF)::Y8) ⟨ρ',m'⟩=some (I (if kR (as.length:Nat) (-1) an=0 then(if wi need 1 an.length=true then 0 else 2)else kR (as.length:Nat) (-1) an),s):=by
     intro BW
     rintro ρ' m' ⟨k2,k3,k6,rfl⟩
     rw[ak BW]at hL
     refine ih ρ' _ ⟨k2,k3,k6,⟨x,hL,fun h=>by omega,fun i y hi hy=>?_⟩,rfl⟩
     have:i=j:=by omega
     subst this
     rw[hx]at hy;injection hy
    cases j with
    |zero=>
     have pk:=hL0 rfl
     subst pk
     have pw:=(iE.1 jD).1
     have jz:kH none 1 (.slice oa 1 (an.map aB)) (I 0)=some (.bg (aB x) 0):=hr
     have ajK:decide ((0:Int)<(an.length:Int))=true:=bM (by omega)
     simp only[go_sem,wF,g2,g3,g6,ajK,jz,ij,KK,jD,cQ,simprocAttr]
     refine fS (by omega) _ _ ?_
     exact⟨g2,g3,rfl,rfl⟩
    | succ i =>
     obtain⟨y,hy⟩:=get_some (l:=an) (k:=i) (by omega)
     have pk:=hL1 i y rfl hy
     subst pk
     have iA:=cD (f:=aB) (o:=oa) (es:=1) hy
     have hd:decide ((0:Int)<((i+1:Nat):Int))=true:=bM (by omega)
     have xI:IntKind.i64.wrap (((i+1:Nat):Int)-1)=((i:Nat):Int):=by rw[ch]<;>omega
     have ph:decide (x≤last)=!decide (last<x):=pW (by omega)
     by_cases BW:last<x
     ·have PB:decide (last<x)=true:=bM BW
      simp only[go_sem,wF,g2,g3,g6,aS hj,hr,iA,ij,KK,jD,hd,xI,ph,PB,jE,simprocAttr]
      refine fS BW _ _ ?_
      exact⟨g2,g3,rfl,rfl⟩
     ·have PB:decide (last<x)=false:=bX BW
      rw[aq BW]at hL
      rw[hL]
      simp only[go_sem,wF,g2,g3,g6,aS hj,hr,iA,ij,KK,jD,hd,xI,ph,PB,simprocAttr]
  ·rintro ρ m ⟨g2,g3,g6,⟨last,hL,_,_⟩,rfl⟩
   rw[eZ]at hL
   have hL':kR (as.length:Nat) (-1) an=0:=hL
   rw[hL',ak rfl]
   cases jD:wi need 1 (an.length:Nat)<;>simp only[go_sem,wF,Nk,g3,g6,bN,ij,jD,simprocAttr]<;>rfl
 rw[aM (show AP 82=some Es from rfl) rfl]
 unfold kL
 simp only
 cases tP:isName bJ with
 |false=>simp only[go_sem,yu,qh,tP,simprocAttr]<;>rfl
 | true =>
  by_cases h2:ki n lo hi=0
  ·have hb:=Sv h2
   have w1:IntKind.i64.wrap (hi-lo)=hi-lo:=ch (by omega) (by omega)
   have w2:IntKind.i64.wrap (hi-lo+1)=hi-lo+1:=ch (by omega) (by omega)
   rw[ak rfl,h2,ak rfl]
   cases h3:wi len 1 (hi-lo+1)with
   |false=>simp only[go_sem,yu,qh,tP,Aa (hs.push _) hn iQ,h2,bn,eW,w1,w2,ij,h3,kn,simprocAttr]<;>rfl
   | true =>
    cases h4:wi val 0 100000 with
    |false=>simp only[go_sem,yu,qh,tP,Aa (hs.push _) hn iQ,h2,bn,eW,w1,w2,ij,h3,h4,nq,simprocAttr]<;>rfl
    | true =>
     rw[x6,ak rfl]
     cases an with
     |nil=>
      rw[ak rfl]
      simp only[go_sem,yu,qh,tP,Aa (hs.push _) hn iQ,h2,bn,eW,w1,w2,ij,h3,h4,cQ,simprocAttr]
     |cons a t=>
      rw[aq (by simp)]
      have hd:decide ((((a::t).length:Nat):Int)=0)=false:=bX (by simp;omega)
      generalize hg:a::t=q at*
      simp only[go_sem,yu,qh,tP,Aa (hs.push _) hn iQ,h2,bn,eW,w1,w2,ij,h3,h4,hd,simprocAttr]
      exact key 0 _ _ (bp _) ⟨rfl,rfl,rfl,⟨-1,rfl,fun _=>rfl,fun i x h=>by omega⟩,rfl⟩
  ·rw[ak rfl,aq h2]
   simp only[go_sem,yu,qh,tP,Aa (hs.push _) hn iQ,h2,bn,iC,simprocAttr]
end
structure W.HA (w:W):Prop where
 as:(w.as.l.length:Int)<9223372036854775808
 rs:(w.rs.l.length:Int)<9223372036854775808
 name:∀a∈w.as.l,(a.name.size:Int)<9223372036854775808
 cl:∀a∈w.as.l,(a.cl.l.length:Int)<9223372036854775808
 bJ:∀r∈w.rs.l,(r.bJ.size:Int)<9223372036854775808
 an:∀r∈w.rs.l,(r.an.l.length:Int)<9223372036854775808
def JR (a:A):Bool:=decide (a.name.size≤20)&&decide (a.cl.l.length≤8)
def FE (r:R):Bool:=decide (r.bJ.size≤20)&&decide (r.an.l.length≤6)
def yU (w:W):Bool:=(decide (w.as.l.length≤6)&&decide (w.rs.l.length≤14))&&(w.as.l.all JR&&w.rs.l.all FE)
theorem WL {w:W} (h:yU w=true):w.ju:=by
 simp only[yU,JR,FE,dB,dU,j6]at h
 obtain⟨⟨h1,h2⟩,h3,h4⟩:=h
 exact⟨h1,h2,fun a ha=>(h3 a ha).1,fun a ha=>(h3 a ha).2,fun r hr=>(h4 r hr).1,fun r hr=>(h4 r hr).2⟩
theorem TJ {α:Type} {p:α→Bool} {l:List α} {k:Nat} {x:α} (h:l[k]? =some x):(l.drop k).all p=(p x&&(l.drop (k+1)).all p):=by
 rw[eR h,vZ]
def Ou (l:List (Int×Int)):Sl (Int×Int):=⟨wX (l.map gW),2,l⟩
theorem V7 {l:List (Int×Int)}:(Ou l).ok 2:=by
 refine⟨.inr rfl,?_⟩
 cases l
 ·exact .inr (.inl rfl)
 ·exact .inl rfl
def cA (a:A):A:={a with cl:=Ou a.cl.l}
def cR (r:R):R:={r with an:=fB r.an.l}
def cW (w:W):W:=⟨w.j5,cr 3 (w.as.l.map cA),cr 7 (w.rs.l.map cR)⟩
theorem yH {w:W}:(cW w).as.l=w.as.l.map cA:=iJ
theorem wM {w:W}:(cW w).rs.l=w.rs.l.map cR:=iJ
theorem A5 {w:W}:(cW w).Ok:=by
 refine⟨wj,fun a ha=>?_,wj,fun r hr=>?_⟩
 ·rw[yH]at ha;obtain⟨b,_,rfl⟩:=cz.1 ha;exact V7
 ·rw[wM]at hr;obtain⟨b,_,rfl⟩:=cz.1 hr;exact JG
theorem A4 {w:W} (h:w.ju):(cW w).ju:=by
 refine⟨by rw[yH,bR];exact h.as,by rw[wM,bR];exact h.rs,fun a ha=>?_,fun a ha=>?_,fun r hr=>?_,fun r hr=>?_⟩
 ·rw[yH]at ha;obtain⟨b,hb,rfl⟩:=cz.1 ha;exact h.name b hb
 ·rw[yH]at ha;obtain⟨b,hb,rfl⟩:=cz.1 ha;exact h.cl b hb
 ·rw[wM]at hr;obtain⟨b,hb,rfl⟩:=cz.1 hr;exact h.bJ b hb
 ·rw[wM]at hr;obtain⟨b,hb,rfl⟩:=cz.1 hr;exact h.an b hb
theorem WR {α β:Type} {f:Nat→β→Int} {g:α→β}:∀{l:List α} {k:Nat},eJ f k (l.map g)=eJ (fun i x=>f i (g x)) k l
 |[],_=>rfl
 |a::r,k=>by simp only[iH,eJ,WR (l:=r)]
theorem acU {n:Int} {as:List A} {k:Nat} {a:A}:ku n (as.map cA) k (cA a)=ku n as k a:=by
 unfold ku
 have:(((as.map cA).take k).any fun b=>decide (b.name=(cA a).name))=((as.take k).any fun b=>decide (b.name=a.name)):=by
  rw[←HL,CN];rfl
 rw[this];rfl
theorem SL {w:W}:de (cW w)=de w:=by
 unfold de
 simp only[yH,wM,bR,WR,acU]
 rfl
section
variable{s:ae} {w:W}
theorem ar6 {w:W} (hs:Ok s) (hw:w.Ok) (hf:w.ju):au AP (.fn 50) [w.v] s=some (MK (de w),s):=by
 obtain⟨n,⟨o1,e1,as⟩,⟨o2,e2,rs⟩⟩:=w
 have h4:decide ((4:Int)<(as.length:Int))=!decide (as.length≤4):=pW (by omega)
 have dv:decide ((12:Int)<(rs.length:Int))=!decide (rs.length≤12):=pW (by omega)
 rw[aM (show AP 50=some Ed from rfl) rfl]
 unfold de
 simp only
 cases hn:wi n 1 200 with
 |false=>simp only[go_sem,De,hs,ij,hn,simprocAttr]<;>rfl
 | true =>
  have jl:=iE.1 hn
  by_cases sd:as.length≤4
  case neg=>
   have hd:decide (as.length≤4)=false:=bX sd
   simp only[go_sem,De,hs,ij,hn,h4,hd,simprocAttr]
   rw[aq (fun h=>sd h.1)]
  by_cases zz:rs.length≤12
  case neg=>
   have hd:decide (as.length≤4)=true:=bM sd
   have ph:decide (rs.length≤12)=false:=bX zz
   simp only[go_sem,De,hs,ij,hn,h4,dv,hd,ph,simprocAttr]
   rw[aq (fun h=>zz h.2)]
  have hd:decide (as.length≤4)=true:=bM sd
  have ph:decide (rs.length≤12)=true:=bM zz
  rw[ak rfl,ak ⟨sd,zz⟩]
  have k2:∀j ρ m,j≤rs.length→(ρ 1=.ptr s.ag.length 0 0∧ρ 2=.ptr s.ag.length 1 0∧ρ 6=I j∧m=s.push ⟨[[I n,.slice o1 e1 (as.map cj),.slice o2 e2 (rs.map bO)],[I 0,I 0]],[]⟩)→
    go AP Wt (.c (.loop Df)::anl) ⟨ρ,m⟩=some (MK (match eJ (fun _ r=>kL n as.length r) j (rs.drop j)with|some (k,e)=>(2,k,e)|none=>(0,0,0)),s):=by
   refine cq rs.length _ _ ?_ ?_
   ·rintro j ρ m hj ⟨h1,h2,h6,rfl⟩ ih
    obtain⟨x,hx⟩:=get_some hj
    have fq:=bU hx
    have ej:e2=7:=by rcases hw.rs.1 with h|h;(simp only at h;rw[h]at hx;simp at hx);exact h
    subst ej
    have hr:=cD (f:=bO) (o:=o2) (es:=7) hx
    have m1:=hf.bJ x fq
    have m2:=hf.an x fq
    have hq:∀r,au AP (.fn 82) [.agg [I n,.slice o1 e1 (as.map cj),.slice o2 7 (rs.map bO)],.agg [S x.bJ,I x.lo,I x.hi,I x.len,I x.val,.slice x.an.o x.an.e (x.an.l.map aB),I x.need]] (s.push r)=some (I (kL n as.length x),s.push r):=fun r=>by
     have:=ash (s:=s.push r) (n:=n) (as:=as.map cj) (r:=x) (o1:=o1) (e1:=e1) (o2:=o2) (e2:=7) (rs:=rs.map bO) (hs.push _) (hw.an x fq).1 jl.1 jl.2 (by omega) (by rw[bR];exact sd) (by omega)
     rw[bR]at this
     exact this
    rw[w6 hx]
    by_cases h0:kL n as.length x=0
    ·simp only[go_sem,Df,h1,h6,aS hj,hr,hq,h0,bn,eW,bK hj (show(rs.length:Int)<_ by omega),simprocAttr]
     refine ih _ _ ?_
     exact⟨h1,h2,rfl,rfl⟩
    ·simp only[go_sem,Df,h1,h2,h6,hs,aS hj,hr,hq,h0,bn,iC,simprocAttr]
   ·rintro ρ m ⟨h1,h2,h6,rfl⟩
    simp only[go_sem,Df,M1,h1,h2,h6,hs,bN,simprocAttr]
    rw[eZ];rfl
  have k1:∀j ρ m,j≤as.length→(ρ 1=.ptr s.ag.length 0 0∧ρ 2=.ptr s.ag.length 1 0∧ρ 4=I j∧m=s.push ⟨[[I n,.slice o1 e1 (as.map cj),.slice o2 e2 (rs.map bO)],[I 0,I 0]],[]⟩)→
    go AP Wt (.c (.loop Dg)::anm) ⟨ρ,m⟩=some (MK (match eJ (ku n as) j (as.drop j)with|some (k,e)=>(1,k,e)|none=>match eJ (fun _ r=>kL n as.length r) 0 rs with|some (k,e)=>(2,k,e)|none=>(0,0,0)),s):=by
   refine cq as.length _ _ ?_ ?_
   ·rintro j ρ m hj ⟨h1,h2,BG,rfl⟩ ih
    obtain⟨x,hx⟩:=get_some hj
    have fq:=bU hx
    have ej:e1=3:=by rcases hw.as.1 with h|h;(simp only at h;rw[h]at hx;simp at hx);exact h
    subst ej
    have m1:=hf.name x fq
    have m2:=hf.cl x fq
    have hq:∀r,au AP (.fn 81) [.agg [I n,.slice o1 3 (as.map cj),.slice o2 e2 (rs.map bO)],I j] (s.push r)=some (I (ku n as j x),s.push r):=fun r=>asd (hs.push _) (hw.cl x fq).1 jl.1 jl.2 hx (by omega) sd (by omega)
    rw[w6 hx]
    by_cases h0:ku n as j x=0
    ·simp only[go_sem,Dg,h1,BG,aS hj,hq,h0,bn,eW,bK hj (show(as.length:Int)<_ by omega),simprocAttr]
     refine ih _ _ ?_
     exact⟨h1,h2,rfl,rfl⟩
    ·simp only[go_sem,Dg,h1,h2,BG,hs,aS hj,hq,h0,bn,iC,simprocAttr]
   ·rintro ρ m ⟨h1,h2,BG,rfl⟩
    simp only[go_sem,Dg,M3,h1,BG,bN,simprocAttr]
    rw[eZ]
    refine(k2 0 _ _ (bp _) ?_).trans rfl
    exact⟨h1,h2,rfl,rfl⟩
  simp only[go_sem,De,ij,hn,h4,dv,hd,ph,simprocAttr]
  refine(k1 0 _ _ (bp _) ?_).trans rfl
  exact⟨rfl,rfl,rfl,rfl⟩
theorem aaQ (hs:Ok s) (hw:w.Ok) (hf:w.ju):au AP (.fn 24) [w.v] s=some (I (de w).2.2,s):=by
 have hc:∀r,au AP (.fn 50) [w.v] (s.push r)=some (MK (de w),s.push r):=fun r=>ar6 (hs.push r) hw hf
 rw[aM (show AP 24=some El from rfl) rfl]
 simp only[W.v,cJ,Sl.v]at hc
 simp only[go_sem,Um,hs,hc,simprocAttr]
theorem aoo (hs:Ok s) (hw:w.Ok) (hb:w.HA):au AP (.fn 22) [w.v] s=some (B (yU w),s):=by
 obtain⟨n,⟨o1,e1,as⟩,⟨o2,e2,rs⟩⟩:=w
 have h6:decide ((6:Int)<(as.length:Int))=!decide (as.length≤6):=pW (by omega)
 have u9:decide ((14:Int)<(rs.length:Int))=!decide (rs.length≤14):=pW (by omega)
 rw[aM (show AP 22=some D9 from rfl) rfl]
 unfold yU
 simp only
 by_cases ha:as.length≤6
 case neg=>
  have hd:decide (as.length≤6)=false:=bX ha
  simp only[go_sem,Iu,h6,hd,kn,simprocAttr]
 by_cases hr:rs.length≤14
 case neg=>
  have hd:decide (as.length≤6)=true:=bM ha
  have ph:decide (rs.length≤14)=false:=bX hr
  simp only[go_sem,Iu,h6,u9,hd,ph,kn,nq,simprocAttr]
 have hd:decide (as.length≤6)=true:=bM ha
 have ph:decide (rs.length≤14)=true:=bM hr
 have k2:∀j ρ m,j≤rs.length→(ρ 1=.ptr s.ag.length 0 0∧ρ 4=I j∧m=s.push ⟨[[I n,.slice o1 e1 (as.map cj),.slice o2 e2 (rs.map bO)]],[]⟩)→
   go AP Ws (.c (.loop AL)::anh) ⟨ρ,m⟩=some (B ((rs.drop j).all FE),s):=by
  refine cq rs.length _ _ ?_ ?_
  ·rintro j ρ m hj ⟨h1,h4,rfl⟩ ih
   obtain⟨x,hx⟩:=get_some hj
   have fq:=bU hx
   have ej:e2=7:=by rcases hw.rs.1 with h|h;(simp only at h;rw[h]at hx;simp at hx);exact h
   subst ej
   have cC:=cD (f:=bO) (o:=o2) (es:=7) hx
   have q1:decide ((20:Int)<(x.bJ.size:Int))=!decide (x.bJ.size≤20):=pW (by omega)
   have q2:decide ((6:Int)<(x.an.l.length:Int))=!decide (x.an.l.length≤6):=pW (by omega)
   have bV:x.bJ.data.size=x.bJ.size:=rfl
   have jE:=bK hj (show(rs.length:Int)<_ by omega)
   rw[TJ hx]
   unfold FE
   cases c1:decide (x.bJ.size≤20)with
   |false=>simp only[go_sem,AL,h1,h4,aS hj,cC,q1,c1,kn,simprocAttr]
   | true =>
    cases c2:decide (x.an.l.length≤6)with
    |false=>simp only[go_sem,AL,h1,h4,aS hj,cC,q1,q2,c1,c2,kn,nq,simprocAttr]
    |true=>
     simp only[go_sem,AL,h1,h4,aS hj,cC,q1,q2,c1,c2,jE,simprocAttr]
     refine(ih _ _ ?_).trans ?_
     ·exact⟨h1,rfl,rfl⟩
     ·rfl
  ·rintro ρ m ⟨h1,h4,rfl⟩
   simp only[go_sem,AL,MX,h1,h4,bN,simprocAttr]
   rw[eZ];rfl
 have k1:∀j ρ m,j≤as.length→(ρ 1=.ptr s.ag.length 0 0∧ρ 3=I j∧m=s.push ⟨[[I n,.slice o1 e1 (as.map cj),.slice o2 e2 (rs.map bO)]],[]⟩)→
   go AP Ws (.c (.loop AN)::ani) ⟨ρ,m⟩=some (B ((as.drop j).all JR&&rs.all FE),s):=by
  refine cq as.length _ _ ?_ ?_
  ·rintro j ρ m hj ⟨h1,h3,rfl⟩ ih
   obtain⟨x,hx⟩:=get_some hj
   have fq:=bU hx
   have ej:e1=3:=by rcases hw.as.1 with h|h;(simp only at h;rw[h]at hx;simp at hx);exact h
   subst ej
   have cC:=cD (f:=cj) (o:=o1) (es:=3) hx
   have q1:decide ((20:Int)<(x.name.size:Int))=!decide (x.name.size≤20):=pW (by omega)
   have q2:decide ((8:Int)<(x.cl.l.length:Int))=!decide (x.cl.l.length≤8):=pW (by omega)
   have bV:x.name.data.size=x.name.size:=rfl
   have jE:=bK hj (show(as.length:Int)<_ by omega)
   rw[TJ hx]
   unfold JR
   cases c1:decide (x.name.size≤20)with
   |false=>simp only[go_sem,AN,h1,h3,aS hj,cC,q1,c1,kn,simprocAttr]
   | true =>
    cases c2:decide (x.cl.l.length≤8)with
    |false=>simp only[go_sem,AN,h1,h3,aS hj,cC,q1,q2,c1,c2,kn,nq,simprocAttr]
    |true=>
     simp only[go_sem,AN,h1,h3,aS hj,cC,q1,q2,c1,c2,jE,simprocAttr]
     refine(ih _ _ ?_).trans ?_
     ·exact⟨h1,rfl,rfl⟩
     ·rfl
  ·rintro ρ m ⟨h1,h3,rfl⟩
   simp only[go_sem,AN,MY,h1,h3,bN,simprocAttr]
   rw[eZ]
   refine(k2 0 _ _ (bp _) ?_).trans rfl
   exact⟨h1,rfl,rfl⟩
 simp only[go_sem,Iu,h6,u9,hd,ph,x6,simprocAttr]
 refine(k1 0 _ _ (bp _) ?_).trans ?_
 ·exact⟨rfl,rfl,rfl⟩
 ·rfl
theorem adK {l:List (Int×Int)} {o:Own} {e:Nat} (hs:Ok s) (he:l=[]∨e=2) (hl:l.length≤4294967296):au AP (.fn 25) [.slice o e (l.map gW)] s=some (.slice (wX (l.map gW)) 2 (l.map gW),s):=by
 rw[aM (show AP 25=some DY from rfl) rfl]
 rcases he with h|h
 ·subst h
  simp only[go_sem,MP,eI,HK,simprocAttr]
  rfl
 ·subst h
  obtain⟨x',t',h1,h2⟩:=afp (s:=s) (r:=⟨[],[]⟩) (es:=2) (x:=.slice o 2 (l.map gW)) (xs:=l.map gW) (o:=o) rfl (by simpa using hl)
  simp only[go_sem,MP,h1,h2,simprocAttr]
theorem Acc.ext {d es:Nat} {xs:List (List AV)} {x:AV} {og:Option Nat} {tk tk':List (Option Nat)} (h:Acc d es xs x og tk) (hx:∀(g:Nat) (n:Option Nat),tk[g]? =some n→tk'[g]? =some n):Acc d es xs x og tk':=by
 cases og with
 |none=>exact h
 |some g=>exact⟨h.1,h.2.1,hx g _ h.2.2⟩
theorem adI {Q:ae} {l:List Int} {o:Own} {e:Nat} {tk:List (Option Nat)} (hQ:Ok Q) (he:l=[]∨e=1) (hl:l.length≤4294967296):
  ∃oo tk',(∀bx,au AP (.fn 26) [.slice o e (l.map aB)] (Q.push ⟨bx,tk⟩)=some (.slice oo 1 (l.map aB),Q.push ⟨bx,tk'⟩))∧(AV.slice oo 1 (l.map aB)).close=some ((fB l).v aB)∧(∀(g:Nat) (n:Option Nat),tk[g]? =some n→tk'[g]? =some n)∧(l=[]→oo=.full)∧(l≠[]→oo=.tok Q.ag.length tk.length∧tk'=tk++[some l.length]):=by
 cases gd:l with
 |nil=>
  refine⟨.full,tk,fun bx=>?_,rfl,fun _ _ h=>h,fun _=>rfl,fun h=>absurd rfl h⟩
  rw[aM (show AP 26=some wN from rfl) rfl]
  simp only[go_sem,C6,eI,HK,simprocAttr]
  show some (_,((Q.push ⟨bx,tk⟩).push ⟨[],[]⟩).pop)=_
  rw[pop_push]
 | cons a q =>
  rw[←gd]
  have hn:l≠[]:=by rw[gd];simp
  have ji:e=1:=by rcases he with h|h;exact absurd h hn;exact h
  subst ji
  refine⟨.tok Q.ag.length tk.length,tk++[some l.length],fun bx=>?_,by rw[gd];rfl,fun g n h=>?_,fun h=>absurd h hn,fun _=>⟨rfl,rfl⟩⟩
  ·have hlen:(Q.push ⟨bx,tk⟩).ag.length=Q.ag.length+1:=by simp[ae.push]
   have ha:eI ((Q.push ⟨bx,tk⟩).push ⟨[],[]⟩) 1 (.slice .full 1 []) (.slice o 1 (l.map aB))=some (.slice (.tok (Q.ag.length+1) 0) 1 (l.map aB),(Q.push ⟨bx,tk⟩).push ⟨[],[some l.length]⟩):=by
    have h3:=qu (Q.push ⟨bx,tk⟩) ⟨[],[]⟩
    have h4:=oS (Q.push ⟨bx,tk⟩) ⟨[],[]⟩ l.length
    rw[hlen]at h3 h4
    have h5:((Q.push ⟨bx,tk⟩).push ⟨[],[]⟩).cur=Q.ag.length+1:=by rw[fP,hlen]
    simp[eI,Own.isNil,most,hl,hn,h3,h4,h5]
   have jy:=Lg (Q:=Q) (R:=⟨bx,tk⟩) (r0:=⟨[],[some l.length]⟩) (g:=0) (es:=1) (xs:=l.map aB) hQ (by simp)
   rw[aM (show AP 26=some wN from rfl) rfl]
   simp only[go_sem,C6,ha,simprocAttr]
   exact jy.trans (by rw[bR])
  ·have:=(bd.1 h).1
   rw[dM this];exact h
theorem ar7 (hs:Ok s) (hw:w.Ok) (hf:w.ju):au AP (.fn 7) [w.v] s=some ((cW w).v,s):=by
 obtain⟨n,⟨o1,e1,as⟩,⟨o2,e2,rs⟩⟩:=w
 have hfa:as.length≤6:=hf.as
 have jk:rs.length≤14:=hf.rs
 have kr:∀(j:Nat) ρ m,j≤rs.length→(ρ 1=.ptr s.ag.length 0 0∧ρ 2=.ptr s.ag.length 1 0∧ρ 3=.ptr s.ag.length 2 0∧ρ 6=I j∧
   ∃xa qv xr Hb tk bx,Acc s.ag.length 3 ((as.map cA).map cj) xa qv tk∧Acc s.ag.length 7 (((rs.take j).map cR).map bO) xr Hb tk∧(Hb≠qv∨Hb=none)∧m=s.push ⟨[I n,.slice o1 e1 (as.map cj),.slice o2 e2 (rs.map bO)]::[I 0,.slice .aA 0 [],.slice .aA 0 []]::[I n,xa,xr]::bx,tk⟩)→
   go AP Wu (.c (.loop Iy)::anp) ⟨ρ,m⟩=some ((cW ⟨n,⟨o1,e1,as⟩,⟨o2,e2,rs⟩⟩).v,s):=by
  refine cq rs.length _ _ ?_ ?_
  ·rintro j ρ m hj ⟨h1,h2,h3,h6,xa,qv,xr,Hb,tk,bx,hA,hR,aD,rfl⟩ ih
   obtain⟨x,hx⟩:=get_some hj
   have fq:=bU hx
   have ej:e2=7:=by rcases hw.rs.1 with h|h;(simp only at h;rw[h]at hx;simp at hx);exact h
   subst ej
   have cC:=cD (f:=bO) (o:=o2) (es:=7) hx
   have m2:=hf.an x fq
   obtain⟨oo,nk,ef,gI,oA,_,_⟩:=adI (Q:=s) (l:=x.an.l) (o:=x.an.o) (e:=x.an.e) (tk:=tk) hs (hw.an x fq).1 (by omega)
   have tI:=Acc.ext hA oA
   have Pf:=Acc.ext hR oA
   have BV:(rs.take j).length≤14:=by rw[fc];omega
   obtain⟨xr',apW,ll,c9,eS,vg,sd⟩:=Pf.append hs .full (ys:=[bO (cR x)]) (by simp) (by simp;omega)
   have Yi:=sd _ _ _ _ tI (by rcases aD with h|h;exact .inl fun e=>h e.symm;(cases qv with|none=>exact .inr rfl|some g=>exact .inl (by rw[h];simp)))
   obtain⟨La,JK,Lq,rfl⟩:=Acc.sl hA
   obtain⟨or',er',rr',rfl⟩:=Acc.sl hR
   obtain⟨os',Wp,Sh,rfl⟩:=Acc.sl eS
   have aP:closeAll [S x.bJ,I x.lo,I x.hi,I x.len,I x.val,.slice oo 1 (x.an.l.map aB),I x.need]=some (bO (cR x)):=by
    simp only[mf,oq,oV,Oj,gI];rfl
   have jE:=bK hj (show(rs.length:Int)<_ by omega)
   simp only[bO,Sl.v,cR]at c9 aP
   simp only[go_sem,Iy,h1,h3,h6,hs,aS hj,cC,ef,aP,c9,jE,simprocAttr]
   refine ih _ _ ?_
   refine⟨h1,h2,h3,rfl,_,qv,_,apW,ll,_,Yi.1,?_,.inl fun e=>Yi.2 e.symm,rfl⟩
   rw[fF hx,ib,ib];exact eS
  ·rintro ρ m ⟨h1,h2,h3,h6,xa,qv,xr,Hb,tk,bx,hA,hR,aD,rfl⟩
   rw[jb]at hR
   have l1:=fun q:ae=>hA.Ce q
   have l2:=fun q:ae=>hR.Ce q
   obtain⟨La,JK,Lq,rfl⟩:=Acc.sl hA
   obtain⟨or',er',rr',rfl⟩:=Acc.sl hR
   simp only[go_sem,Iy,M5,h1,h2,h3,h6,hs,bN,l1,l2,simprocAttr]
   rw[qG,qG];rfl
 have ka:∀(j:Nat) ρ m,j≤as.length→(ρ 1=.ptr s.ag.length 0 0∧ρ 2=.ptr s.ag.length 1 0∧ρ 3=.ptr s.ag.length 2 0∧ρ 4=I j∧
   ∃xa qv tk bx,Acc s.ag.length 3 (((as.take j).map cA).map cj) xa qv tk∧m=s.push ⟨[I n,.slice o1 e1 (as.map cj),.slice o2 e2 (rs.map bO)]::[I 0,.slice .aA 0 [],.slice .aA 0 []]::[I n,xa,.slice .aA 0 []]::bx,tk⟩)→
   go AP Wu (.c (.loop Iz)::anq) ⟨ρ,m⟩=some ((cW ⟨n,⟨o1,e1,as⟩,⟨o2,e2,rs⟩⟩).v,s):=by
  refine cq as.length _ _ ?_ ?_
  ·rintro j ρ m hj ⟨h1,h2,h3,h4,xa,qv,tk,bx,hA,rfl⟩ ih
   obtain⟨x,hx⟩:=get_some hj
   have fq:=bU hx
   have ej:e1=3:=by rcases hw.as.1 with h|h;(simp only at h;rw[h]at hx;simp at hx);exact h
   subst ej
   have cC:=cD (f:=cj) (o:=o1) (es:=3) hx
   have m2:=hf.cl x fq
   have iu:∀r,au AP (.fn 25) [.slice x.cl.o x.cl.e (x.cl.l.map gW)] (s.push r)=some (.slice (wX (x.cl.l.map gW)) 2 (x.cl.l.map gW),s.push r):=fun r=>adK (hs.push r) (hw.cl x fq).1 (by omega)
   have xu:(as.take j).length≤6:=by rw[fc];omega
   obtain⟨xa',apV,ll,c9,eS,vg,sd⟩:=hA.append hs .full (ys:=[cj (cA x)]) (by simp) (by simp;omega)
   obtain⟨La,JK,Lq,rfl⟩:=Acc.sl hA
   obtain⟨os',Wp,Sh,rfl⟩:=Acc.sl eS
   have fl:(AV.slice (wX (x.cl.l.map gW)) 2 (x.cl.l.map gW)).close=some (.slice (wX (x.cl.l.map gW)) 2 (x.cl.l.map gW)):=Sl.close (f:=gW) (V7 (l:=x.cl.l))
   have jE:=bK hj (show(as.length:Int)<_ by omega)
   simp only[cj,Sl.v,cA,Ou]at c9
   simp only[go_sem,Iz,h1,h3,h4,hs,aS hj,cC,iu,fl,c9,jE,simprocAttr]
   refine ih _ _ ?_
   refine⟨h1,h2,h3,rfl,_,apV,ll,_,?_,rfl⟩
   rw[fF hx,ib,ib];exact eS
  ·rintro ρ m ⟨h1,h2,h3,h4,xa,qv,tk,bx,hA,rfl⟩
   rw[jb]at hA
   obtain⟨La,JK,Lq,rfl⟩:=Acc.sl hA
   simp only[go_sem,Iz,M6,h1,h4,bN,simprocAttr]
   refine kr 0 _ _ (bp _) ?_
   exact⟨h1,h2,h3,rfl,_,qv,.slice .aA 0 [],none,tk,bx,hA,Acc.start,.inr rfl,rfl⟩
 rw[aM (show AP 7=some Eg from rfl) rfl]
 simp only[go_sem,Ui,hs,simprocAttr]
 refine ka 0 _ _ (bp _) ?_
 exact⟨rfl,rfl,rfl,rfl,_,none,[],[],Acc.start,rfl⟩
end
section
variable{s:ae} {w:W}
theorem ao9 {r:Rec} {q:Nat} {g:Bool} {n b off:Nat}:xO (s.push r) q g n (.ptr s.ag.length b off)=if r.boxes.length≤b+q then none else(s.push r).load g n (.ptr s.ag.length b off):=by
 unfold xO
 simp only[fP,xS,LM]
theorem ao8 {m:ae} {q:Nat} {g:Bool} {n off:Nat} {cs:List AV}:xO m q g n (.bg cs off)=m.load g n (.bg cs off):=rfl
theorem agX {r:Rec} {k n b off:Nat} {y:AV}:yV (s.push r) k n (.ptr s.ag.length b off) y=if b=r.boxes.length-k∧0<k then(s.push r).store n (.ptr s.ag.length b off) y else none:=by
 unfold yV
 simp only[fP,xS,LM]
attribute [go_sem] ao9 ao8 agX
theorem vN {β:Type} {f:Bool→β} {d:β}:lU AV.undef f d=d:=rfl
attribute [go_sem] vN
theorem aa0:List.replicate 2 ([]:List AV)=[[],[]]:=rfl
theorem abA {a b c r:List AV} {z:AV}:LH [a,b,c,[],[]] [] 2 (z::r)=some (3,[a,b,c,z::r,[]]):=rfl
theorem abz {a b c x r:List AV} {z:AV}:LH [a,b,c,x,[]] [] 1 (z::r)=some (4,[a,b,c,x,z::r]):=rfl
theorem T2 {l:List Int} {o:Own} {e:Nat} {n:Int} (he:l=[]∨e=1) (hl:(l.length:Int)<9223372036854775808):
  au AP (.fn 75) [.slice o e (l.map aB),I n] s=some (B (l.any fun m=>decide (m=n)),s):=by
 have key:∀(k:Nat) ρ m,k≤l.length→(ρ 0=.slice o e (l.map aB)∧ρ 1=I n∧ρ 5=I k∧m=s.push ⟨[],[]⟩)→go AP agf (.c (.loop C8)::am6) ⟨ρ,m⟩=some (B ((l.drop k).any fun m=>decide (m=n)),s):=by
  refine cq l.length _ _ ?_ ?_
  ·rintro k ρ m hk ⟨h0,h1,h5,rfl⟩ ih
   obtain⟨a,ha⟩:=get_some hk
   have he:e=1:=by rcases he with h|h;(rw[h]at ha;simp at ha);exact h
   subst he
   have hr:=cD (o:=o) (es:=1) (f:=aB) ha
   rw[eR ha,nr]
   cases hd:decide (a=n)with
   |true=>simp only[go_sem,C8,h0,h1,h5,aS hk,hr,hd,simprocAttr];rfl
   |false=>
    simp only[go_sem,C8,h0,h1,h5,aS hk,hr,hd,bK hk hl,simprocAttr]
    rw[l4];exact ih _ _ ⟨h0,h1,rfl,rfl⟩
  ·rintro ρ m ⟨h0,h1,h5,rfl⟩
   simp only[go_sem,C8,MR,h0,h5,bN,simprocAttr]
   rw[eZ];rfl
 rw[aM (show AP 75=some DZ from rfl) rfl]
 simp only[go_sem,T5,simprocAttr]
 exact key 0 _ _ (bp _) ⟨rfl,rfl,rfl,rfl⟩
theorem asf {a:A} {t:Int} (hs:Ok s) (he:a.cl.l=[]∨a.cl.e=2) (hl:(a.cl.l.length:Int)<9223372036854775808):
  au AP (.fn 94) [.agg (cj a),I t] s=some (B (isClosed a t),s):=by
 obtain⟨name,js,⟨o,e,l⟩⟩:=a
 simp only at he hl
 have key:∀(k:Nat) ρ m,k≤l.length→(ρ 1=I t∧ρ 2=.ptr s.ag.length 0 0∧ρ 5=I k∧m=s.push ⟨[[S name,I js,.slice o e (l.map gW)]],[]⟩)→go AP ags (.c (.loop Du)::anG) ⟨ρ,m⟩=some (B ((l.drop k).any fun p=>wi t p.1 p.2),s):=by
  refine cq l.length _ _ ?_ ?_
  ·rintro k ρ m hk ⟨h1,h2,h5,rfl⟩ ih
   obtain⟨a,ha⟩:=get_some hk
   have he:e=2:=by rcases he with h|h;(rw[h]at ha;simp at ha);exact h
   subst he
   have hr:=cD (o:=o) (es:=2) (f:=gW) ha
   rw[eR ha,nr]
   cases hd:wi t a.1 a.2 with
   |true=>simp only[go_sem,Du,h1,h2,h5,aS hk,hr,ij,hd,simprocAttr];rfl
   |false=>
    simp only[go_sem,Du,h1,h2,h5,aS hk,hr,ij,hd,bK hk hl,simprocAttr]
    rw[l4];exact ih _ _ ⟨h1,h2,rfl,rfl⟩
  ·rintro ρ m ⟨h1,h2,h5,rfl⟩
   simp only[go_sem,Du,Ni,h2,h5,bN,simprocAttr]
   rw[eZ];rfl
 rw[aM (show AP 94=some Eo from rfl) rfl]
 simp only[go_sem,Uo,simprocAttr]
 exact key 0 _ _ (bp _) ⟨rfl,rfl,rfl,rfl⟩
theorem ac0 {f:Nat→Bool} {k m:Nat} (h:k<m):((List.range m).drop k).any f=(f k||((List.range m).drop (k+1)).any f):=by
 rw[eR (x:=k) (by simp[h]),nr]
theorem aaT {p:P} (hs:Ok s) (hw:Wk w) (hp:bZ w p):au AP (.fn 74) [w.v,.agg (aj p)] s=some (B (p.an.l.any fun a=>!dc w a p.start (w.rq p.req).len),s):=by
 have hlen:=hw.len hp.r0 hp.r1
 have hs0:=hp.s0
 have rj:=hp.s1
 have gj:=rz hw hp.r0 hp.r1
 have cI:=hp.len
 have jm:=hp.ok.1
 have Yk:=hp.an
 generalize hq:w.rq p.req=q at*
 obtain⟨req,st,⟨o,e,l⟩⟩:=p
 simp only at hlen hs0 rj gj cI jm Yk
 have hm:((q.len.toNat:Nat):Int)=q.len:=by omega
 have key : ∀ (k : Nat) ρ m, k ≤ l.length → (ρ 2 = .ptr s.ag.length 0 0 ∧ ρ 3 = .ptr s.ag.length 1 0 ∧ ρ 5 = I k ∧ m = s.push ⟨[cJ w, [I req, I st, .slice o e (l.map aB)]], []⟩) →
   go AP WB (.c (.loop Dw)::anJ) ⟨ρ,m⟩=some (B ((l.drop k).any fun a=>!dc w a st q.len),s):=by
  refine cq l.length _ _ ?_ ?_
  ·rintro k ρ m hk ⟨h2,h3,h5,rfl⟩ ih
   obtain⟨a,ha⟩:=get_some hk
   have he:e=1:=by rcases jm with h|h;(rw[h]at ha;simp at ha);exact h
   subst he
   have hr:=cD (o:=o) (es:=1) (f:=aB) ha
   obtain⟨sc,c9⟩:=Yk a (bU ha)
   obtain⟨x,hx,_,cC⟩:=KV hw sc c9
   have fq:=bU hx
   have aP:∀r t,au AP (.fn 94) [.agg (cj x),I t] (s.push r)=some (B (isClosed x t),s.push r):=fun r t=>asf (hs.push r) (hw.ok.cl x fq).1 (by have:=(hw.v.a x fq).VJ;omega)
   have cd:(!dc w a st q.len)=(List.range q.len.toNat).any fun t=>isClosed x (st+t):=by
    unfold dc;rw[hx];simp
   have inner:∀(j:Nat) ρ m,j≤q.len.toNat→(ρ 2=.ptr s.ag.length 0 0∧ρ 3=.ptr s.ag.length 1 0∧ρ 5=I k∧ρ 6=I j∧m=s.push ⟨[cJ w,[I req,I st,.slice o 1 (l.map aB)]],[]⟩)→
     go AP WB (.c (.loop Dx)::anK) ⟨ρ,m⟩=some (B ((((List.range q.len.toNat).drop j).any fun t=>isClosed x (st+t))||((l.drop (k+1)).any fun a=>!dc w a st q.len)),s):=by
    refine cq q.len.toNat _ _ ?_ ?_
    ·rintro j ρ m hj ⟨g2,g3,g5,g6,rfl⟩ fS
     have dO:decide ((j:Int)<q.len)=true:=by simp;omega
     rw[ac0 hj]
     have zD:IntKind.i64.wrap (st+(j:Int))=st+j:=ch (by omega) (by omega)
     simp only[cj,Sl.v]at aP cC
     simp only[bO,Sl.v]at gj
     cases hd:isClosed x (st+j)with
     |true=>simp only[go_sem,Dx,g2,g3,g5,g6,gj,dO,hr,cC,aP,zD,hd,simprocAttr];rfl
     |false=>
      simp only[go_sem,Dx,g2,g3,g5,g6,gj,dO,hr,cC,aP,zD,hd,bK hj (show((q.len.toNat:Nat):Int)<_ by omega),simprocAttr]
      rw[l4]
      exact fS _ _ ⟨g2,g3,g5,rfl,rfl⟩
    ·rintro ρ m ⟨g2,g3,g5,g6,rfl⟩
     have dO:decide (((q.len.toNat:Nat):Int)<q.len)=false:=by simp;omega
     simp only[bO,Sl.v]at gj
     simp only[go_sem,Dx,Nl,g2,g3,g5,g6,gj,dO,bK hk cI,simprocAttr]
     rw[Al (by simp),List.any_nil,l4]
     exact ih _ _ ⟨g2,g3,rfl,rfl⟩
   rw[eR ha,nr,cd]
   simp only[go_sem,Dw,h3,h5,aS hk,simprocAttr]
   refine x9 (inner 0 _ _ (bp _) ?_) ?_
   ·exact⟨h2,h3,h5,rfl,rfl⟩
   ·rw[ko]
  ·rintro ρ m ⟨h2,h3,h5,rfl⟩
   simp only[go_sem,Dw,IL,h3,h5,bN,simprocAttr]
   rw[eZ];rfl
 rw[aM (show AP 74=some Et from rfl) rfl]
 simp only[go_sem,Up,simprocAttr]
 exact key 0 _ _ (bp _) ⟨rfl,rfl,rfl,rfl⟩
theorem aaN {a b:P} (hs:Ok s) (hw:Wk w) (ha:bZ w a) (hb:bZ w b):au AP (.fn 46) [w.v,.agg (aj a),.agg (aj b)] s=some (B (cS w a b),s):=by
 have BP:∀{a b:P},bZ w a→bZ w b→IntKind.i64.wrap (IntKind.i64.wrap (b.start-a.start)-(w.rq a.req).len)=b.start-lD w a:=by
  intro a b ha hb
  have hl:=hw.len ha.r0 ha.r1
  have h3:=hb.s0
  have h4:=hb.s1
  have h5:=ha.s0
  have h6:=ha.s1
  unfold lD
  rw[ch (x:=b.start-a.start) (by omega) (by omega),ch (by omega) (by omega)];omega
 have key : ∀ (a b : P), bZ w a → bZ w b → ∀ (k : Nat) ρ m, k ≤ a.an.l.length → (ρ 3 = .ptr s.ag.length 0 0 ∧ ρ 4 = .ptr s.ag.length 1 0 ∧ ρ 5 = .ptr s.ag.length 2 0 ∧ ρ 7 = .ptr s.ag.length 3 0 ∧ ρ 8 = .ptr s.ag.length 4 0 ∧ ρ 9 = I (b.start - lD w a) ∧ ρ 10 = I k ∧ m = s.push ⟨[cJ w, aj a, aj b, bO (w.rq a.req), bO (w.rq b.req)], []⟩) →
   go AP agm (.c (.loop wD)::ano) ⟨ρ,m⟩=some (B ((a.an.l.drop k).any fun n=>(b.an.l.any fun m=>decide (n=m))&&decide (b.start-lD w a<(if(w.rq a.req).bJ=(w.rq b.req).bJ then 0 else w.pK n))),s):=by
  intro a b ha hb
  refine cq a.an.l.length _ _ ?_ ?_
  ·rintro k ρ m hk ⟨h3,h4,h5,h7,h8,h9,du,rfl⟩ ih
   obtain⟨n,hn⟩:=get_some hk
   obtain⟨fJ,Gn⟩:=ha.an n (bU hn)
   obtain⟨x,hx,cp,cC⟩:=KV hw fJ Gn
   have rm:=hw.pK fJ Gn
   have hr:=Sl.ix (f:=aB) ha.ok hn
   have hh:∀r,au AP (.fn 75) [.slice b.an.o b.an.e (b.an.l.map aB),I n] (s.push r)=some (B (b.an.l.any fun m=>decide (m=n)),s.push r):=fun r=>T2 hb.ok.1 hb.len
   have akD:(b.an.l.any fun m=>decide (n=m))=b.an.l.any fun m=>decide (m=n):=by
    congr 1;funext m;exact V9 eq_comm
   rw[eR hn,nr,akD]
   simp only[cj,Sl.v]at cC
   generalize((a.an.l.drop (k+1)).any fun n=>(b.an.l.any fun m=>decide (n=m))&&decide (b.start-lD w a<(if(w.rq a.req).bJ=(w.rq b.req).bJ then 0 else w.pK n)))=R at*
   generalize b.start-lD w a=t at*
   generalize(b.an.l.any fun m=>decide (m=n))=has at*
   rw[cp]at rm⊢
   cases has with
   |false=>
    simp only[go_sem,wD,h4,h5,du,aS hk,hr,hh,bK hk ha.len,simprocAttr]
    rw[kn,l4]
    refine ih _ _ ?_
    exact⟨h3,h4,h5,h7,h8,h9,rfl,rfl⟩
   | true =>
    rw[ia]
    by_cases ht:t<0
    ·have:decide (t<(if(w.rq a.req).bJ=(w.rq b.req).bJ then 0 else x.js))=true:=bM (by split<;>omega)
     rw[this,Ah]
     simp only[go_sem,wD,h4,h5,h9,du,aS hk,hr,hh,ht,simprocAttr]
    ·by_cases hm:(w.rq a.req).bJ=(w.rq b.req).bJ
     ·rw[ak hm,bX ht,l4]
      have jU:decide (¬(w.rq a.req).bJ=(w.rq b.req).bJ)=false:=by simp[hm]
      simp only[go_sem,wD,h4,h5,h7,h8,h9,du,aS hk,hr,hh,bK hk ha.len,ht,jU,bn,simprocAttr]
      refine ih _ _ ?_
      exact⟨h3,h4,h5,h7,h8,h9,rfl,rfl⟩
     ·rw[aq hm]
      have jU:decide (¬(w.rq a.req).bJ=(w.rq b.req).bJ)=true:=by simp[hm]
      by_cases fD:t<x.js
      ·rw[bM fD,Ah]
       simp only[go_sem,wD,h3,h4,h5,h7,h8,h9,du,aS hk,hr,hh,cC,ht,jU,fD,bn,simprocAttr]
      ·rw[bX fD,l4]
       simp only[go_sem,wD,h3,h4,h5,h7,h8,h9,du,aS hk,hr,hh,cC,bK hk ha.len,ht,jU,fD,bn,simprocAttr]
       refine ih _ _ ?_
       exact⟨h3,h4,h5,h7,h8,h9,rfl,rfl⟩
  ·rintro ρ m ⟨h3,h4,h5,h7,h8,h9,du,rfl⟩
   simp only[go_sem,wD,M4,h4,du,bN,simprocAttr]
   rw[eZ];rfl
 rw[aM (show AP 46=some Ee from rfl) rfl]
 unfold cS qL
 have ra:=rz hw ha.r0 ha.r1
 have rb:=rz hw hb.r0 hb.r1
 simp only[bO,Sl.v]at ra rb
 by_cases h1:a.req=b.req
 ·simp only[go_sem,Ix,h1,simprocAttr]
 ·rw[aq h1]
  by_cases h2:b.start<a.start
  ·rw[ak h2]
   simp only[go_sem,Ix,hs,ra,rb,h1,h2,aa0,abA,abz,eo,ja,Nat.reduceLeDiff,nx,Nat.lt_add_one,Nat.reduceLT,Nat.reduceEqDiff,BP hb ha,simprocAttr]
   refine key b a hb ha 0 _ _ (bp _) ?_
   exact⟨rfl,rfl,rfl,rfl,rfl,rfl,rfl,rfl⟩
  ·rw[aq h2]
   simp only[go_sem,Ix,hs,ra,rb,h1,h2,aa0,abA,abz,eo,ja,Nat.reduceLeDiff,nx,Nat.lt_add_one,Nat.reduceLT,Nat.reduceEqDiff,BP ha hb,simprocAttr]
   refine key a b ha hb 0 _ _ (bp _) ?_
   exact⟨rfl,rfl,rfl,rfl,rfl,rfl,rfl,rfl⟩
end
section
variable{s:ae} {w:W}
theorem acX {l r:List Int}:(l.any fun n=>r.any fun m=>decide (n=m))=r.any fun n=>l.any fun m=>decide (n=m):=by
 rw[uz]
 simp only[eA,dU]
 constructor
 ·rintro⟨x,hx,y,hy,rfl⟩;exact⟨x,hy,x,hx,rfl⟩
 ·rintro⟨x,hx,y,hy,rfl⟩;exact⟨x,hy,x,hx,rfl⟩
theorem VG (hw:Wk w) {a b:P} (ha:bZ w a) (h:a.start=b.start):qL w a b=a.an.l.any fun n=>b.an.l.any fun m=>decide (n=m):=by
 have hl:=hw.len ha.r0 ha.r1
 unfold qL
 rw[uz]
 simp only[eA,dB,dU]
 constructor
 ·rintro⟨x,hx,h1,_⟩;exact⟨x,hx,h1⟩
 ·rintro⟨x,hx,h1⟩
  refine⟨x,hx,h1,?_⟩
  have:=hw.pK (ha.an x hx).1 (ha.an x hx).2
  unfold lD
  split<;>omega
theorem yP (hw:Wk w) {a b:P} (ha:bZ w a) (hb:bZ w b):cS w a b=cS w b a:=by
 unfold cS
 by_cases h1:a.req=b.req
 ·rw[ak h1,ak (rN h1)]
 ·rw[aq h1,aq (show¬b.req=a.req from fun e=>h1 (rN e))]
  by_cases h2:b.start<a.start
  ·rw[ak h2,aq (by omega)]
  ·rw[aq h2]
   by_cases h3:a.start<b.start
   ·rw[ak h3]
   ·rw[aq h3,VG hw ha (by omega),VG hw hb (by omega),acX]
theorem acZ {l:List Int} {a:Int}:(l.any fun m=>decide (m=a))=l.any fun b=>decide (a=b):=by
 congr 1;funext m;exact V9 eq_comm
def qz (l:List Int):Nat→Int
 |0=>-1
 |k+1=>l.getD k 0
theorem aov {l:List P} {i:Nat} {x:P} (h:l[i]? =some x):iV (l.take (i+1))=x.req:=by
 rw[fF h];unfold iV;simp
theorem asg {l:List P} {o:Own} {e i:Nat} {p:P} (hs:Ok s) (hw:Wk w) (he:l=[]∨e=3) (hn:(l.length:Int)<1000000) (hi:l[i]? =some p) (dP:p.an.ok 1) (cI:(p.an.l.length:Int)<1000000) (hl:∀x∈l.take i,bZ w x):
  au AP (.fn 59) [w.v,.slice o e (l.map aj),I i] s=some (I (ed w p (l.take i)),s):=by
 have sv:i<l.length:=(bd.1 hi).1
 have he:e=3:=by rcases he with h|h;(rw[h]at hi;simp at hi);exact h
 subst he
 have cC:=cD (f:=aj) (o:=o) (es:=3) hi
 have dJ:=hw.v.rl
 have iQ:=hw.v.n2
 rw[aM (show AP 59=some Er from rfl) rfl]
 unfold ed
 have sE:IntKind.i64.wrap ((w.rs.l.length:Int)-1)=(w.rs.l.length:Int)-1:=ch (by omega) (by omega)
 cases h1:wi p.req 0 (w.rs.l.length-1)with
 |false=>simp only[go_sem,uO,hs,cC,ij,sE,h1,ez,simprocAttr]
 | true =>
  rw[ak rfl]
  obtain⟨jz,jA⟩:=iE.1 h1
  have B3:p.req<w.rs.l.length:=by omega
  have hq:=hw.rq jz B3
  have gj:=rz hw jz B3
  have hlen:=hw.len jz B3
  have ajI:=hq.sN
  have ajt:=hq.bh
  have ajJ:=hq.Cg
  have ajE:=hq.qn
  generalize KD:w.rq p.req=q at*
  have vB:IntKind.i64.wrap (q.hi-q.len)=q.hi-q.len:=ch (by omega) (by omega)
  have B7:IntKind.i64.wrap (q.hi-q.len+1)=q.hi+1-q.len:=by rw[ch (by omega) (by omega)];omega
  have kc:bZ w p→∀(k:Nat) ρ m,k≤i→(ρ 1=.slice o 3 (l.map aj)∧ρ 2=I i∧ρ 3=.ptr s.ag.length 0 0∧ρ 7=.ptr s.ag.length 1 0∧ρ 10=I k∧m=s.push ⟨[cJ w,aj p,bO q],[]⟩)→
    go AP Wz (.c (.loop Dv)::anH) ⟨ρ,m⟩=some (I (if(((l.take i).drop k).any fun x=>cS w x p)=true then 13 else 0),s):=by
   intro hp
   refine cq i _ _ ?_ ?_
   ·rintro k ρ m hk ⟨g1,g2,g3,g7,g10,rfl⟩ ih
    obtain⟨x,hx⟩:=get_some (l:=l) (k:=k) (by omega)
    have YT:(l.take i)[k]? =some x:=by rw[yc,ak hk];exact hx
    have YR:=hl x (bU YT)
    have hr:=cD (f:=aj) (o:=o) (es:=3) hx
    have dW:∀r,au AP (.fn 46) [w.v,.agg (aj p),.agg (aj x)] (s.push r)=some (B (cS w x p),s.push r):=fun r=>by
     rw[aaN (hs.push r) hw hp YR,yP hw hp YR]
    simp only[W.v,cJ,aj,Sl.v]at dW
    rw[eR YT,nr]
    cases hd:cS w x p with
    |true=>simp only[go_sem,Dv,g1,g2,g3,g7,g10,aS hk,hr,dW,hd,Ah,simprocAttr]
    |false=>
     simp only[go_sem,Dv,g1,g2,g3,g7,g10,aS hk,hr,dW,hd,bK hk (show(i:Int)<_ by omega),simprocAttr]
     rw[l4]
     refine ih _ _ ?_
     exact⟨g1,g2,g3,g7,rfl,rfl⟩
   ·rintro ρ m ⟨g1,g2,g3,g7,g10,rfl⟩
    simp only[go_sem,Dv,Nj,g2,g10,bN,simprocAttr]
    rw[Al (by rw[fc];omega)];rfl
  have ka : (q.lo ≤ p.start ∧ p.start ≤ q.hi + 1 - q.len) → ∀ (k : Nat) ρ m, k ≤ p.an.l.length → (ρ 1 = .slice o 3 (l.map aj) ∧ ρ 2 = I i ∧ ρ 3 = .ptr s.ag.length 0 0 ∧ ρ 7 = .ptr s.ag.length 1 0 ∧ ρ 8 = .ptr s.ag.length 2 0 ∧ ρ 9 = I k ∧ (∀ a ∈ p.an.l.take k, 0 ≤ a ∧ a < w.as.l.length) ∧ m = s.push ⟨[cJ w, aj p, bO q], []⟩) →
    go AP Wz (.c (.loop wE)::anI) ⟨ρ,m⟩=some (I (if fG q (qz p.an.l k) (p.an.l.drop k)=0 then(if(p.an.l.any fun a=>!dc w a p.start q.len)=true then 21 else if cK w p (l.take i)=true then 13 else 0)else fG q (qz p.an.l k) (p.an.l.drop k)),s):=by
   intro cp
   refine cq p.an.l.length _ _ ?_ ?_
   ·rintro k ρ m hk ⟨g1,g2,g3,g7,g8,g9,bh,rfl⟩ ih
    obtain⟨a,ha⟩:=get_some hk
    have hr:=Sl.ix (f:=aB) dP ha
    have hh:∀r,au AP (.fn 75) [.slice q.an.o q.an.e (q.an.l.map aB),I a] (s.push r)=some (B (q.an.l.any fun b=>decide (a=b)),s.push r):=fun r=>by
     have BZ:=W.qB jz B3
     rw[KD]at BZ
     rw[T2 (hw.ok.an q BZ).1 (by have:=hw.tD.an q BZ;omega)]
     rw[acZ]
    rw[eR ha,fG]
    cases hc:(q.an.l.any fun b=>decide (a=b))with
    |false=>
     simp only[go_sem,wE,g7,g8,g9,aS hk,hr,hh,hc,ez,simprocAttr]
    | true =>
     have eS:0≤a∧a<w.as.l.length:=by
      obtain⟨b,hb,he⟩:=eA.1 hc
      rw[zV he];exact hq.tq b hb
     rw[ak rfl]
     have X2:∀x∈p.an.l.take (k+1),0≤x∧x<w.as.l.length:=by
      intro x hx
      rw[fF ha,dC]at hx
      rcases hx with hx|hx
      ·exact bh x hx
      ·rw[dD]at hx;rw[hx];exact eS
     have KC:qz p.an.l (k+1)=a:=by show p.an.l.getD k 0=a;rw[List.getD,ha];rfl
     rcases yi k with X8|X8
     ·have aC:qz p.an.l k<a:=by rw[X8,show qz p.an.l 0=-1 from rfl];omega
      rw[ak aC]
      have h0:decide ((0:Int)<(k:Int))=false:=by simp;omega
      simp only[go_sem,wE,g7,g8,g9,aS hk,hr,hh,hc,h0,bK hk (show(p.an.l.length:Int)<_ by omega),simprocAttr]
      refine x9 (ih _ _ ?_) ?_
      ·exact⟨g1,g2,g3,g7,g8,rfl,X2,rfl⟩
      ·rw[KC]
     ·obtain⟨b,hb⟩:=get_some (l:=p.an.l) (k:=k-1) (by omega)
      have iA:=Sl.ix (f:=aB) dP hb
      have h0:decide ((0:Int)<(k:Int))=true:=by simp;omega
      have jn:IntKind.i64.wrap ((k:Int)-1)=((k-1:Nat):Int):=by rw[ch (by omega) (by omega)];omega
      have nO:qz p.an.l k=b:=by
       obtain⟨j,rfl⟩:∃j,k=j+1:=⟨k-1,by omega⟩
       show p.an.l.getD j 0=b
       rw[List.getD,show p.an.l[j]? =some b from hb];rfl
      rw[nO]
      by_cases fE:b<a
      ·rw[ak fE]
       have hd:decide (a≤b)=false:=by simp;omega
       simp only[go_sem,wE,g7,g8,g9,aS hk,hr,hh,hc,h0,jn,iA,hd,bK hk (show(p.an.l.length:Int)<_ by omega),simprocAttr]
       refine x9 (ih _ _ ?_) ?_
       ·exact⟨g1,g2,g3,g7,g8,rfl,X2,rfl⟩
       ·rw[KC]
      ·rw[aq fE]
       have hd:decide (a≤b)=true:=by simp;omega
       simp only[go_sem,wE,g7,g8,g9,aS hk,hr,hh,hc,h0,jn,iA,hd,simprocAttr]
   ·rintro ρ m ⟨g1,g2,g3,g7,g8,g9,bh,rfl⟩
    rw[jb]at bh
    have hp:bZ w p:=⟨jz,B3,by omega,by omega,bh,dP,by omega⟩
    have jC:∀r,au AP (.fn 74) [w.v,.agg (aj p)] (s.push r)=some (B (p.an.l.any fun a=>!dc w a p.start q.len),s.push r):=fun r=>by
     rw[aaT (hs.push r) hw hp,KD]
    have kc':=kc hp 0
    simp only[W.v,cJ,aj,Sl.v]at jC
    rw[eZ,fG,ak rfl]
    cases hc:(p.an.l.any fun a=>!dc w a p.start q.len)with
    |true=>simp only[go_sem,wE,IK,g3,g7,g9,bN,jC,hc,simprocAttr]
    |false=>
     rw[aq (by simp)]
     simp only[go_sem,wE,IK,g3,g7,g9,bN,jC,hc,simprocAttr]
     refine x9 (kc' _ _ (bp _) ?_) ?_
     ·exact⟨g1,g2,g3,g7,rfl,rfl⟩
     ·rw[ko];rfl
  simp only[bO,aj,Sl.v]at gj cC
  have tail:(if wi p.start q.lo (q.hi+1-q.len)=true then(if(p.an.l.length:Int)=q.need then(if fG q (-1) p.an.l=0 then(if(p.an.l.any fun a=>!dc w a p.start q.len)=true then 21 else if cK w p (l.take i)=true then 13 else 0)else fG q (-1) p.an.l)else 10)else 2)=(if wi p.start q.lo (q.hi+1-q.len)=true then(if(p.an.l.length:Int)=q.need then(if fG q (-1) p.an.l=0 then(if(p.an.l.any fun a=>!dc w a p.start q.len)=true then 21 else if cK w p (l.take i)=true then 13 else 0)else fG q (-1) p.an.l)else 10)else 2):=rfl
  rcases yi i with X1|X1
  ·have aC:iV (l.take i)<p.req:=by rw[X1,show iV (l.take 0)=-1 from rfl];omega
   rw[ak aC]
   have h0:decide ((0:Int)<(i:Int))=false:=by simp;omega
   cases h2:wi p.start q.lo (q.hi+1-q.len)with
   |false=>simp only[go_sem,uO,hs,cC,ij,sE,h1,h0,gj,vB,B7,h2,ez,simprocAttr]
   | true =>
    rw[ak rfl]
    by_cases h3:(p.an.l.length:Int)=q.need
    ·rw[ak h3]
     have hd:decide (¬(p.an.l.length:Int)=q.need)=false:=by simp[h3]
     simp only[go_sem,uO,hs,cC,ij,sE,h1,h0,gj,vB,B7,h2,hd,bn,simprocAttr]
     refine x9 (ka (iE.1 h2) 0 _ _ (bp _) ?_) ?_
     ·exact⟨rfl,rfl,rfl,rfl,rfl,rfl,fun a h=>absurd h (by simp),rfl⟩
     ·rw[ko];rfl
    ·rw[aq h3]
     have hd:decide (¬(p.an.l.length:Int)=q.need)=true:=by simp[h3]
     simp only[go_sem,uO,hs,cC,ij,sE,h1,h0,gj,vB,B7,h2,hd,bn,simprocAttr]
  ·obtain⟨x,hx⟩:=get_some (l:=l) (k:=i-1) (by omega)
   have iA:=cD (f:=aj) (o:=o) (es:=3) hx
   have h0:decide ((0:Int)<(i:Int))=true:=by simp;omega
   have jn:IntKind.i64.wrap ((i:Int)-1)=((i-1:Nat):Int):=by rw[ch (by omega) (by omega)];omega
   have xu:iV (l.take i)=x.req:=by
    obtain⟨j,rfl⟩:∃j,i=j+1:=⟨i-1,by omega⟩
    exact aov hx
   rw[xu]
   simp only[aj,Sl.v]at iA
   by_cases aC:x.req<p.req
   ·rw[ak aC]
    have F3:decide (p.req≤x.req)=false:=by simp;omega
    cases h2:wi p.start q.lo (q.hi+1-q.len)with
    |false=>simp only[go_sem,uO,hs,cC,ij,sE,h1,h0,jn,iA,F3,gj,vB,B7,h2,ez,simprocAttr]
    | true =>
     rw[ak rfl]
     by_cases h3:(p.an.l.length:Int)=q.need
     ·rw[ak h3]
      have hd:decide (¬(p.an.l.length:Int)=q.need)=false:=by simp[h3]
      simp only[go_sem,uO,hs,cC,ij,sE,h1,h0,jn,iA,F3,gj,vB,B7,h2,hd,bn,simprocAttr]
      refine x9 (ka (iE.1 h2) 0 _ _ (bp _) ?_) ?_
      ·exact⟨rfl,rfl,rfl,rfl,rfl,rfl,fun a h=>absurd h (by simp),rfl⟩
      ·rw[ko];rfl
     ·rw[aq h3]
      have hd:decide (¬(p.an.l.length:Int)=q.need)=true:=by simp[h3]
      simp only[go_sem,uO,hs,cC,ij,sE,h1,h0,jn,iA,F3,gj,vB,B7,h2,hd,bn,simprocAttr]
   ·rw[aq aC]
    have F3:decide (p.req≤x.req)=true:=by simp;omega
    simp only[go_sem,uO,hs,cC,ij,sE,h1,h0,jn,iA,F3,simprocAttr]
theorem ar5 {l:List P} {o:Own} {e:Nat} (hs:Ok s) (hw:Wk w) (hl:jO l) (he:l=[]∨e=3):au AP (.fn 30) [w.v,.slice o e (l.map aj)] s=some (.tuple [I (fh w l).1,I (fh w l).2],s):=by
 have hlen:=hl.len
 have key:∀(j:Nat) ρ x,j≤l.length→(ρ 1=.slice o e (l.map aj)∧ρ 2=.ptr s.ag.length 0 0∧ρ 6=I j∧(∀y∈l.take j,bZ w y)∧x=s.push ⟨[cJ w],[]⟩)→
   go AP agl (.c (.loop Dd)::ank) ⟨ρ,x⟩=some (match eJ (fun i x=>ed w x (l.take i)) j (l.drop j)with|some (k,e)=>.tuple [I k,I e]|none=>.tuple [I 0,I 0],s):=by
  refine cq l.length _ _ ?_ ?_
  ·rintro j ρ x hj ⟨h1,h2,h6,bh,rfl⟩ ih
   obtain⟨p,hp⟩:=get_some hj
   have dP:=hl.ok p (bU hp)
   have jm:∀r,au AP (.fn 59) [w.v,.slice o e (l.map aj),I j] (s.push r)=some (I (ed w p (l.take j)),s.push r):=fun r=>asg (hs.push r) hw he (by omega) hp dP.1 (by omega) bh
   simp only[W.v,cJ,Sl.v]at jm
   rw[w6 hp]
   by_cases h0:ed w p (l.take j)=0
   ·rw[ak h0]
    have dI:=(Lk hw dP.1 (by omega) h0).1
    simp only[go_sem,Dd,h1,h2,h6,aS hj,jm,h0,bn,eW,bK hj (show(l.length:Int)<_ by omega),simprocAttr]
    refine ih _ _ ?_
    refine⟨h1,h2,rfl,?_,rfl⟩
    intro y hy
    rw[fF hp,dC]at hy
    rcases hy with hy|hy
    ·exact bh y hy
    ·rw[dD]at hy;rw[hy];exact dI
   ·rw[aq h0]
    simp only[go_sem,Dd,h1,h2,h6,aS hj,jm,h0,bn,iC,simprocAttr]
  ·rintro ρ x ⟨h1,h2,h6,bh,rfl⟩
   simp only[go_sem,Dd,M0,h1,h6,bN,simprocAttr]
   rw[eZ];rfl
 rw[aM (show AP 30=some Ec from rfl) rfl]
 simp only[go_sem,Ug,simprocAttr]
 refine x9 (key 0 _ _ (bp _) ?_) ?_
 ·exact⟨rfl,rfl,rfl,fun y hy=>absurd hy (by simp),rfl⟩
 ·rw[ko];unfold fh
  cases eJ (fun i x=>ed w x (l.take i)) 0 l with
  |none=>rfl
  |some q=>rfl
end
section
variable{s:ae} {w:W}
theorem adJ {m:ae} {l:List Int} {o:Own} {e:Nat} (he:l=[]∨e=1) (hl:l.length≤4294967296):
  au AP (.fn 26) [.slice o e (l.map aB)] (dt m)=some ((fB l).v aB,dt m):=by
 cases gd:l with
 |nil=>
  rw[aM (show AP 26=some wN from rfl) rfl]
  simp only[go_sem,C6,eI,HK,simprocAttr]
  show some (_,((dt m).push ⟨[],[]⟩).pop)=_
  rw[pop_push];rfl
 | cons a q =>
  rw[←gd]
  have hn:l≠[]:=by rw[gd];simp
  have ji:e=1:=by rcases he with h|h;exact absurd h hn;exact h
  subst ji
  have hlen:(dt m).ag.length=m.ag.length:=rfl
  have ha:eI ((dt m).push ⟨[],[]⟩) 1 (.slice .full 1 []) (.slice o 1 (l.map aB))=some (.slice (.tok m.ag.length 0) 1 (l.map aB),(dt m).push ⟨[],[some l.length]⟩):=by
   have h3:=qu (dt m) ⟨[],[]⟩
   have h4:=oS (dt m) ⟨[],[]⟩ l.length
   rw[hlen]at h3 h4
   have h5:((dt m).push ⟨[],[]⟩).cur=m.ag.length:=by rw[fP,hlen]
   simp[eI,Own.isNil,most,hl,hn,h3,h4,h5]
  rw[aM (show AP 26=some wN from rfl) rfl]
  simp only[go_sem,C6,ha,simprocAttr]
  rw[gd];rfl
def cP (p:P):P:=⟨p.req,p.start,fB p.an.l⟩
theorem RV {l:List P} {o:Own} {e:Nat} {Q:ae} {tk:List (Option Nat)} (hQ:Ok Q) (hl:jO l) (he:l=[]∨e=3):
  ∃x og tk',(∀bx,au AP (.fn 12) [.slice o e (l.map aj)] (Q.push ⟨bx,tk⟩)=some (x,Q.push ⟨bx,tk'⟩))∧Acc Q.ag.length 3 ((l.map cP).map aj) x og tk'∧(tk'=tk∨tk'=tk++[some l.length]):=by
 have hlen:=hl.len
 have hs:∀bx,Ok (Q.push ⟨bx,tk⟩):=fun bx=>hQ.push _
 have pf:∀bx,(Q.push ⟨bx,tk⟩).ag.length=Q.ag.length+1:=fun bx=>by simp[ae.push]
 have loop:∀bx,∀(k:Nat) ρ m,k≤l.length→(ρ 0=.slice o e (l.map aj)∧ρ 4=I k∧∃x og vU,Acc (Q.push ⟨bx,tk⟩).ag.length 3 (((l.take k).map cP).map aj) x og vU∧ρ 3=x∧m=(Q.push ⟨bx,tk⟩).push ⟨[],vU⟩)→
   go AP agn (.c (.loop Dh)::anr) ⟨ρ,m⟩=some (if l=[]then .slice .aA 0 []else .slice (.tok Q.ag.length tk.length) 3 ((l.map cP).map aj),if l=[]then Q.push ⟨bx,tk⟩else Q.push ⟨bx,tk++[some l.length]⟩):=by
  intro bx
  refine cq l.length _ _ ?_ ?_
  ·rintro k ρ m hk ⟨h0,h4,x,og,vU,hA,h3,rfl⟩ ih
   obtain⟨p,hp⟩:=get_some hk
   have ej:e=3:=by rcases he with h|h;(rw[h]at hp;simp at hp);exact h
   subst ej
   have dP:=hl.ok p (bU hp)
   have cC:=cD (f:=aj) (o:=o) (es:=3) hp
   have oC:∀m:ae,au AP (.fn 26) [.slice p.an.o p.an.e (p.an.l.map aB)] (dt m)=some ((fB p.an.l).v aB,dt m):=fun m=>adJ dP.1.1 (by omega)
   have aR:(l.take k).length≤14:=by rw[fc];omega
   obtain⟨x',gC,ll,c9,eS,vg,sd⟩:=hA.append (hs bx) .full (ys:=[aj (cP p)]) (by simp) (by simp;omega)
   obtain⟨La,JK,Lq,rfl⟩:=Acc.sl hA
   obtain⟨os',Wp,Sh,rfl⟩:=Acc.sl eS
   have aP:closeAll [I p.req,I p.start,(fB p.an.l).v aB]=some (aj (cP p)):=by
    simp only[mf,oq,oV,Sl.close (f:=aB) (JG (l:=p.an.l))];rfl
   simp only[aj,Sl.v,cP]at c9 aP oC
   simp only[go_sem,Dh,h0,h3,h4,aS hk,cC,oC,aP,c9,bK hk (show(l.length:Int)<_ by omega),simprocAttr]
   refine ih _ _ ?_
   refine⟨h0,rfl,_,gC,ll,?_,rfl,rfl⟩
   rw[fF hp,ib,ib];exact eS
  ·rintro ρ m ⟨h0,h4,x,og,vU,hA,h3,rfl⟩
   rw[jb]at hA
   cases og with
   |none=>
    obtain⟨tI,rfl⟩:=hA
    have gd:l=[]:=by simpa using tI
    rw[ak gd,ak gd]
    simp only[go_sem,Dh,IA,h0,h3,h4,bN,simprocAttr]
   |some g=>
    obtain⟨tI,rfl,J6⟩:=hA
    have gd:¬l=[]:=by intro h;apply tI;rw[h];rfl
    rw[aq gd,aq gd]
    have jy:=Lg (Q:=Q) (R:=⟨bx,tk⟩) (r0:=⟨[],vU⟩) (g:=g) (es:=3) (xs:=(l.map cP).map aj) hQ J6
    rw[pf]at h3
    simp only[go_sem,Dh,IA,h0,h3,h4,bN,simprocAttr]
    refine jy.trans ?_
    rw[bR,bR]
 have run:∀bx,au AP (.fn 12) [.slice o e (l.map aj)] (Q.push ⟨bx,tk⟩)=some (if l=[]then .slice .aA 0 []else .slice (.tok Q.ag.length tk.length) 3 ((l.map cP).map aj),if l=[]then Q.push ⟨bx,tk⟩else Q.push ⟨bx,tk++[some l.length]⟩):=by
  intro bx
  rw[aM (show AP 12=some Ef from rfl) rfl]
  simp only[go_sem,Uh,simprocAttr]
  refine loop bx 0 _ _ (bp _) ?_
  exact⟨rfl,rfl,_,none,[],Acc.start,rfl,rfl⟩
 by_cases gd:l=[]
 ·refine⟨.slice .aA 0 [],none,tk,fun bx=>?_,⟨by rw[gd];rfl,rfl⟩,.inl rfl⟩
  rw[run bx,ak gd,ak gd]
 ·refine⟨.slice (.tok Q.ag.length tk.length) 3 ((l.map cP).map aj),some tk.length,tk++[some l.length],fun bx=>?_,⟨by simpa using gd,rfl,by simp⟩,.inr rfl⟩
  rw[run bx,aq gd,aq gd]
theorem C1 {d es:Nat} {xs:List (List AV)} {x:AV} {og:Option Nat} {tk:List (Option Nat)} (h:Acc d es xs x og tk):∃o e,x=.slice o e xs∧(xs=[]∨e=es):=by
 cases og with
 |none=>obtain⟨h1,h2⟩:=h;subst h1;exact⟨_,_,h2,.inl rfl⟩
 |some g=>exact⟨_,_,h.2.1,.inr rfl⟩
theorem ar9 {l:List P} {o:Own} {e:Nat} (hs:Ok s) (hw:w.Ok) (hf:w.ju) (hl:jO l) (he:l=[]∨e=3):au AP (.fn 9) [w.v,.slice o e (l.map aj)] s=some (I (pJ w l).2,s):=by
 have jo:∀r,au AP (.fn 24) [w.v] (s.push r)=some (I (de w).2.2,s.push r):=fun r=>aaQ (hs.push r) hw hf
 rw[aM (show AP 9=some Ej from rfl) rfl]
 unfold pJ
 by_cases h0:(de w).2.2=0
 ·have bW:Wk w:=⟨hw,hf,pL h0⟩
  have oC:∀r,au AP (.fn 30) [w.v,.slice o e (l.map aj)] (s.push r)=some (.tuple [I (fh w l).1,I (fh w l).2],s.push r):=fun r=>ar5 (hs.push r) bW hl he
  simp only[W.v,cJ,Sl.v]at jo oC
  rw[ak h0]
  simp only[go_sem,M8,jo,oC,h0,bn,eW,simprocAttr]
 ·simp only[W.v,cJ,Sl.v]at jo
  rw[aq h0]
  simp only[go_sem,M8,jo,h0,bn,iC,simprocAttr]
structure auS (l:List P):Prop where
 len:(l.length:Int)<9223372036854775808
 ok:∀p∈l,p.an.ok 1
 an:∀p∈l,(p.an.l.length:Int)<9223372036854775808
end
section
variable{w:W}
theorem uU:(cW w).rs.l.length=w.rs.l.length:=by rw[wM,bR]
theorem wL {i:Int} (h0:0≤i) (h1:i<w.rs.l.length):(cW w).rq i=cR (w.rq i):=by
 unfold W.rq
 rw[wM,gX]
 obtain⟨x,hx⟩:=get_some (l:=w.rs.l) (k:=i.toNat) (by omega)
 rw[hx];rfl
theorem aek {a:Int}:(cW w).pK a=w.pK a:=by
 unfold W.pK
 rw[yH,gX]
 cases w.as.l[a.toNat]? <;>rfl
theorem Z9 {a st n:Int}:dc (cW w) a st n=dc w a st n:=by
 unfold dc
 rw[yH,gX]
 cases w.as.l[a.toNat]? <;>rfl
theorem afM {p:P} (h0:0≤p.req) (h1:p.req<w.rs.l.length):lD (cW w) (cP p)=lD w p:=by
 unfold lD
 rw[show(cP p).req=p.req from rfl,wL h0 h1];rfl
theorem VE {a b:P} (sc:0≤a.req) (c9:a.req<w.rs.l.length) (nI:0≤b.req) (eK:b.req<w.rs.l.length):qL (cW w) (cP a) (cP b)=qL w a b:=by
 unfold qL
 simp only[afM sc c9,show(cP a).req=a.req from rfl,show(cP b).req=b.req from rfl,wL sc c9,wL nI eK,aek]
 rfl
theorem VU {a b:P} (sc:0≤a.req) (c9:a.req<w.rs.l.length) (nI:0≤b.req) (eK:b.req<w.rs.l.length):cS (cW w) (cP a) (cP b)=cS w a b:=by
 unfold cS
 rw[VE sc c9 nI eK,VE nI eK sc c9]
 rfl
theorem VV {p:P} {l:List P} (sc:0≤p.req) (c9:p.req<w.rs.l.length) (hl:∀x∈l,0≤x.req∧x.req<w.rs.l.length):cK (cW w) (cP p) (l.map cP)=cK w p l:=by
 unfold cK
 rw[CN]
 rw[uz]
 simp only[eA,Function.comp]
 constructor
 ·rintro⟨x,hx,h⟩;exact⟨x,hx,by rwa [VU (hl x hx).1 (hl x hx).2 sc c9]at h⟩
 ·rintro⟨x,hx,h⟩;exact⟨x,hx,by rwa [VU (hl x hx).1 (hl x hx).2 sc c9]⟩
theorem aot {l:List P}:iV (l.map cP)=iV l:=by
 unfold iV
 rw[List.getLast?_map]
 cases l.getLast?<;>rfl
theorem TL {r:R}:∀{l:List Int} {k:Int},fG (cR r) k l=fG r k l
 |[],_=>rfl
 |a::t,k=>by simp only[fG,TL (l:=t)];rfl
theorem ara {p:P} {l:List P} (hl:∀x∈l,0≤x.req∧x.req<w.rs.l.length):ed (cW w) (cP p) (l.map cP)=ed w p l:=by
 unfold ed
 rw[aot,uU,show(cP p).req=p.req from rfl,show(cP p).start=p.start from rfl,show(cP p).an.l=p.an.l from rfl]
 by_cases h1:wi p.req 0 (w.rs.l.length-1)=true
 ·obtain⟨h0,h2⟩:=iE.1 h1
  rw[VV h0 (by omega) hl,wL h0 (by omega)]
  simp only[TL,Z9]
  rfl
 ·rw[aq h1,aq h1]
theorem aaw {p:P} {l:List P} (h:ed w p l=0):0≤p.req∧p.req<w.rs.l.length:=by
 unfold ed at h
 by_cases h1:wi p.req 0 (w.rs.l.length-1)=true
 ·obtain⟨h0,h2⟩:=iE.1 h1
  exact⟨h0,by omega⟩
 ·rw[aq h1]at h;exact absurd h (by decide)
theorem WT {l:List P}:∀(n k:Nat),n+k=l.length→(∀x∈l.take k,0≤x.req∧x.req<w.rs.l.length)→
  eJ (fun i x=>ed (cW w) x ((l.map cP).take i)) k ((l.map cP).drop k)=eJ (fun i x=>ed w x (l.take i)) k (l.drop k)
 |0,k,h,_=>by
  have h1:l.drop k=[]:=Al (by omega)
  have h2:(l.map cP).drop k=[]:=Al (by rw[bR];omega)
  rw[h1,h2];rfl
 | n + 1, k, h, hl => by
  obtain⟨p,hp⟩:=get_some (l:=l) (k:=k) (by omega)
  have zr:(l.map cP)[k]? =some (cP p):=by rw[gX,hp];rfl
  rw[w6 hp,w6 zr]
  simp only[←HL]
  rw[ara hl]
  by_cases h0:ed w p (l.take k)=0
  ·rw[ak h0,ak h0]
   have:=WT (l:=l) n (k+1) (by omega) (fun x hx=>by
    rw[fF hp,dC]at hx
    rcases hx with hx|hx
    ·exact hl x hx
    ·rw[dD]at hx;rw[hx];exact aaw h0)
   simp only[←HL]at this
   exact this
  ·rw[aq h0,aq h0]
theorem Oh {l:List P}:fh (cW w) (l.map cP)=fh w l:=by
 unfold fh
 have:=WT (w:=w) (l:=l) l.length 0 (by omega) (fun x hx=>absurd hx (by simp))
 rw[ko,ko]at this
 rw[this]
theorem abX:∀{l:List P},(∀x∈l,0≤x.req∧x.req<w.rs.l.length)→bw (cW w) (l.map cP)=bw w l
 |[],_=>rfl
 |p::r,h=>by
  have hp:=h p (by simp)
  simp only[iH,bw]
  rw[abX fun x hx=>h x (iI _ hx),show(cP p).req=p.req from rfl,wL hp.1 hp.2];rfl
end
section
variable{s:ae} {w:W}
theorem O3:∀{k:Nat} {l:List Int},l.length<k→aV k l=[]
 |0,_,h=>absurd h (df _)
 |k+1,[],_=>rfl
 |k+1,x::r,h=>by
  simp only[aV]
  rw[O3 (k:=k) (l:=r) (by simp at h;omega),O3 (k:=k+1) (l:=r) (by simp at h;omega)];rfl
def nV (n:Nat) (g:List Int):Sl Int:=⟨if n=1 then .full else .any,1,g⟩
theorem LJ {n:Nat} {g:List Int}:(nV n g).ok 1:=by
 refine⟨.inr rfl,?_⟩
 show(if n=1 then Own.full else Own.any)=.any∨(if n=1 then Own.full else Own.any)=.full∨_
 split
 ·exact .inr (.inl rfl)
 ·exact .inl rfl
def pU:Nat→List Int→AV
 |0,_=>.slice .full 1 [[.slice .aA 0 []]]
 |n+1,l=>aU 1 ((aV (n+1) l).map fun g=>[(nV (n+1) g).v aB])
theorem Ft {n:Nat} {l:List Int}:ld false (pU n l)=some (I (aV n l).length):=by
 cases n with
 |zero=>simp only[pU,aV];rfl
 |succ n=>
  show ld false (aU 1 ((aV (n+1) l).map fun g=>[(nV (n+1) g).v aB]))=_
  rw[K0,bR]
theorem aeU {n:Nat} {l g:List Int} {k:Nat} (h:(aV n l)[k]? =some g):∃o e,kH none 1 (pU n l) (I k)=some (.bg [.slice o e (g.map aB)] 0)∧(g=[]∨e=1)∧(g=[]↔n=0):=by
 have hg:=qU (bU h)
 cases n with
 | zero =>
  have hk:k=0:=by
   have:=(bd.1 h).1
   simp[aV]at this;exact this
  subst hk
  have:g=[]:=uE hg
  subst this
  exact⟨.aA,0,rfl,.inl rfl,by simp⟩
 |succ n=>
  refine⟨_,1,GY (by rw[gX,h];rfl),.inr rfl,?_⟩
  constructor
  ·intro e;rw[e]at hg;simp at hg
  ·intro e;omega
theorem MH {q:ae} {b:List (List AV)} {tk:List (Option Nat)} {lit ys:List (List AV)} {o:Own} {e:Nat} (he:ys=[]∨e=1) (hl:lit.length+ys.length≤4294967296):
  ∃o' tk',(∀b,eI (q.push ⟨b,tk⟩) 1 (.slice .full 1 lit) (.slice o e ys)=some (.slice o' 1 (lit++ys),q.push ⟨b,tk'⟩))∧(∀(g:Nat) (n:Option Nat),tk[g]? =some n→tk'[g]? =some n)∧
   (AV.slice o' 1 (lit++ys)).close=some (.slice (if ys=[]then .full else .any) 1 (lit++ys)):=by
 by_cases h0:ys=[]
 ·subst h0
  refine⟨.full,tk,fun b=>by simp[eI],fun _ _ h=>h,?_⟩
  simp only[iG,ak];rfl
 ·have ji:e=1:=by rcases he with h|h;exact absurd h h0;exact h
  subst ji
  have h1:ys.isEmpty=false:=by simpa using h0
  refine⟨.tok q.ag.length tk.length,tk++[some (lit.length+ys.length)],fun b=>?_,fun g n h=>?_,?_⟩
  ·simp[eI,h1,Own.isNil,most,hl,qu,oS,fP]
  ·have:=(bd.1 h).1
   rw[dM this];exact h
  ·rw[aq h0];rfl
theorem aaR : ∀ (n : Nat) {s : ae} {l : List Int} {o : Own} {e : Nat}, Ok s → (l = [] ∨ e = 1) → l.length ≤ 6 → n ≤ 6 → au AP (.fn 73) [.slice o e (l.map aB), I n] s = some (pU n l, s)
 |0,s,l,o,e,hs,he,hl,_=>by
  rw[aM (show AP 73=some A8 from rfl) rfl]
  simp only[go_sem,Ng,cQ,simprocAttr]
  rfl
 | n + 1, s, l, o, e, hs, he, hl, hn => by
  have fJ:decide (((n+1:Nat):Int)=0)=false:=by simp;omega
  have jn:IntKind.i64.wrap (((n+1:Nat):Int)-1)=(n:Int):=by rw[ch (by omega) (by omega)];omega
  have outer : ∀ (i : Int) ρ m, (∃ k : Nat, i = k ∧ ρ 0 = .slice o e (l.map aB) ∧ ρ 1 = I ((n + 1 : Nat) : Int) ∧ ρ 6 = I k ∧ ∃ D x og tk, k ≤ l.length ∧ aV (n + 1) l = D ++ aV (n + 1) (l.drop k) ∧ Acc s.ag.length 1 (D.map fun g => [(nV (n + 1) g).v aB]) x og tk ∧ ρ 5 = x ∧ m = s.push ⟨[], tk⟩) →
    go AP Wy (.c (.loop Dt)::anD) ⟨ρ,m⟩=some (pU (n+1) l,s):=by
   refine Rg (l.length-(n+1):Int) _ _ ?_ ?_
   ·rintro i ρ m hi ⟨k,rfl,h0,h1,h6,D,x,og,tk,hk,hD,hA,h5,rfl⟩ ih
    obtain⟨a,ha⟩:=get_some (l:=l) (k:=k) (by omega)
    have ej:e=1:=by rcases he with h|h;(rw[h]at ha;simp at ha);exact h
    subst ej
    have cC:=cD (f:=aB) (o:=o) (es:=1) ha
    obtain⟨od,pt⟩:=abx (f:=aB) (o:=o) (es:=1) (k:=k+1) (l:=l) (by omega)
    have hle:decide (IntKind.i64.wrap ((k:Int)+((n+1:Nat):Int))≤(l.length:Int))=true:=by
     rw[ch (by omega) (by omega)];simp;omega
    have bW:IntKind.i64.wrap ((k:Int)+1)=((k+1:Nat):Int):=by rw[ch (by omega) (by omega)];omega
    have xD:∀r,au AP (.fn 73) [.slice od 1 ((l.drop (k+1)).map aB),I n] (s.push r)=some (pU n (l.drop (k+1)),s.push r):=fun r=>
     aaR n (hs.push r) (.inr rfl) (by rw[tc];omega) (by omega)
    have hG:aV (n+1) (l.drop k)=(aV n (l.drop (k+1))).map (a::·)++aV (n+1) (l.drop (k+1)):=by
     rw[eR ha];rfl
    have qY:=xf (k:=n) (l:=l.drop (k+1))
    have inner:∀(j:Nat) ρ m,j≤(aV n (l.drop (k+1))).length→(ρ 0=.slice o 1 (l.map aB)∧ρ 1=I ((n+1:Nat):Int)∧ρ 6=I k∧ρ 7=pU n (l.drop (k+1))∧ρ 8=I j∧∃x og tk,Acc s.ag.length 1 ((D++((aV n (l.drop (k+1))).take j).map (a::·)).map fun g=>[(nV (n+1) g).v aB]) x og tk∧ρ 5=x∧m=s.push ⟨[],tk⟩)→
      go AP Wy (.c (.loop IH)::anF) ⟨ρ,m⟩=some (pU (n+1) l,s):=by
     refine cq _ _ _ ?_ ?_
     ·rintro j ρ m hj ⟨g0,g1,g6,g7,g8,x,og,tk,hA,g5,rfl⟩ fS
      obtain⟨g,hg⟩:=get_some hj
      obtain⟨oi,ei,su,hei,xn⟩:=aeU hg
      have avV:(aV n (l.drop (k+1))).length≤64:=kt qY (gP (show 0<2 by omega) (show(l.drop (k+1)).length≤6 by rw[tc];omega))
      have Ki:((aV n (l.drop (k+1))).length:Int)<9223372036854775808:=by omega
      have rm:D++((aV n (l.drop (k+1))).take (j+1)).map (a::·)=(D++((aV n (l.drop (k+1))).take j).map (a::·))++[a::g]:=by
       rw[fF hg,ib,gN];rfl
      have htl:((aV n (l.drop (k+1))).take j).length≤64:=by rw[fc];omega
      have lJ:=qU (bU hg)
      obtain⟨o1,nk,c9,eS,vg⟩:=MH (q:=s) (b:=[]) (tk:=tk) (lit:=[[I a]]) (ys:=g.map aB) (o:=oi) (e:=ei) (by rcases hei with h|h;exact .inl (by rw[h];rfl);exact .inr h) (by simp;omega)
      have cp:(AV.slice o1 1 ([[I a]]++g.map aB)).close=some ((nV (n+1) (a::g)).v aB):=by
       rw[vg]
       have:(if g.map aB=[]then Own.full else Own.any)=(if n+1=1 then Own.full else Own.any):=by
        by_cases fJ:n=0
        ·rw[ak (by rw[xn.2 fJ];rfl),ak (by omega)]
        ·rw[aq (by intro h;exact fJ (xn.1 (by simpa using h))),aq (by omega)]
       rw[this];rfl
      have aP:closeAll [.slice o1 1 ([I a]::g.map aB)]=some [(nV (n+1) (a::g)).v aB]:=by
       simp only[mf,oq,l5,kq]at cp⊢
       rw[cp];rfl
      have tI:=Acc.ext hA eS
      have hDl:D.length≤64:=by
       have h1:=xf (k:=n+1) (l:=l)
       have h2:=gP (show 0<2 by omega) hl
       rw[hD,cu]at h1
       omega
      obtain⟨x2,eY,ll,eK,gw,Po,XH⟩:=tI.append hs .full (ys:=[[(nV (n+1) (a::g)).v aB]]) (by simp) (by rw[bR,cu,bR,yf];omega)
      obtain⟨oa,ea,ra,rfl⟩:=Acc.sl hA
      obtain⟨ob,eb,rb,rfl⟩:=Acc.sl gw
      simp only[l5,kq]at c9
      simp only[Sl.v]at eK aP
      simp only[go_sem,IH,g0,g5,g6,g7,g8,Ft,aS hj,su,cC,c9,aP,eK,bK hj Ki,simprocAttr]
      refine fS _ _ ?_
      refine⟨g0,g1,g6,g7,rfl,_,eY,ll,?_,rfl,rfl⟩
      rw[rm,ib];exact gw
     ·rintro ρ m ⟨g0,g1,g6,g7,g8,x,og,tk,hA,g5,rfl⟩
      rw[jb]at hA
      simp only[go_sem,IH,Nh,g6,g7,g8,Ft,bN,bW,simprocAttr]
      refine ih _ _ ?_
      refine⟨k+1,by omega,g0,g1,rfl,_,x,og,tk,by omega,?_,hA,g5,rfl⟩
      rw[hD,hG,gN]
    simp only[go_sem,Dt,h0,h1,h6,hle,bW,pt,jn,xD,simprocAttr]
    refine inner 0 _ _ (bp _) ?_
    refine⟨h0,h1,h6,rfl,rfl,_,og,tk,?_,h5,rfl⟩
    rw[Mi,nw,iG];exact hA
   ·rintro i ρ m hi ⟨k,rfl,h0,h1,h6,D,x,og,tk,hk,hD,hA,h5,rfl⟩
    have jC:aV (n+1) (l.drop k)=[]:=O3 (by rw[tc];omega)
    rw[jC,iG]at hD
    have hle:decide (IntKind.i64.wrap ((k:Int)+((n+1:Nat):Int))≤(l.length:Int))=false:=by
     rw[ch (by omega) (by omega)];simp;omega
    have da:∀q:ae,ev q x=some (pU (n+1) l):=fun q=>by
     show _=some (aU 1 _)
     rw[hD];exact hA.leave q
    obtain⟨oa,ea,ra,rfl⟩:=Acc.sl hA
    simp only[go_sem,Dt,II,h0,h1,h5,h6,hle,da,simprocAttr]
  rw[aM (show AP 73=some A8 from rfl) rfl]
  simp only[go_sem,Ng,fJ,simprocAttr]
  refine outer 0 _ _ ?_
  exact⟨0,rfl,rfl,rfl,rfl,[],_,none,[],bp _,rfl,Acc.start,rfl,rfl⟩
end
end Go.Ax.Sx.Sc
