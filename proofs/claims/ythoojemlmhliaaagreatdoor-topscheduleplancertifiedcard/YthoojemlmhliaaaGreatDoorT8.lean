/- A part of the proof. -/
import Derived.Test.YthoojemlmhliaaaGreatDoorT7
import Derived.KernelRfl
set_option linter.unusedSimpArgs false
set_option linter.unusedVariables false
set_option maxRecDepth 100000
namespace Go.Ax.Sx.Sc
open Go.Ax
section
variable{s:ae} {w:W}
theorem MY {Q:ae} {R r0:Rec} {g es:Nat} {xs:List (List AV)} (hQ:Ok Q) (h:r0.toks[g]? =some (some xs.length)):
  nZ ((Q.push R).push r0) (.slice (.tok (Q.ag.length+1) g) es xs)=some (.slice (.tok Q.ag.length R.toks.length) es xs,Q.push ⟨R.boxes,R.toks++[some xs.length]⟩):=by
 have h1:((Q.push R).push r0).cur=Q.ag.length+1:=by rw[gD];simp[ae.push]
 have h2:((Q.push R).push r0).ro<Q.ag.length+1:=by have:=hQ.ro;show Q.ro<_;omega
 have h3:((Q.push R).push r0).tok (Q.ag.length+1) g=some xs.length:=by
  have:=Aj (Q.push R) r0 g
  rw[show(Q.push R).ag.length=Q.ag.length+1 by simp[ae.push]]at this
  rw[this,h];rfl
 have h4:((Q.push R).push r0).j4 Q.ag.length=R.toks.length:=by
  simp[ae.j4,ae.push]
 simp only[nZ]
 rw[aj ⟨h1.symm,by omega,h2,h3⟩]
 simp only[UK,h4,pop_push,oC]
theorem ay8 {Q:ae} {l:List P} {o:Own} {e:Nat} {R:Rec} (hQ:Ok Q) (hn:l≠[]) (ho:o.isNil=false) (hl:l.length≤4294967296) (he:e=3):
  aw AP (.fn 101) [.slice o e (l.map aq)] (Q.push R)=some (.slice (.tok Q.ag.length R.toks.length) 3 (l.map aq),Q.push ⟨R.boxes,R.toks++[some l.length]⟩):=by
 subst he
 have hlen:(Q.push R).ag.length=Q.ag.length+1:=by simp[ae.push]
 have ha:et ((Q.push R).push ⟨[],[]⟩) 3 (.slice .full 3 []) (.slice o 3 (l.map aq))=some (.slice (.tok (Q.ag.length+1) 0) 3 (l.map aq),(Q.push R).push ⟨[],[some l.length]⟩):=by
  have h3:=pO (Q.push R) ⟨[],[]⟩
  have h4:=oC (Q.push R) ⟨[],[]⟩ l.length
  rw[hlen]at h3 h4
  have h5:((Q.push R).push ⟨[],[]⟩).cur=Q.ag.length+1:=by rw[gD,hlen]
  simp[et,Own.isNil,dD,hl,hn,h3,h4,h5]
 have nO:=MY (Q:=Q) (R:=R) (r0:=⟨[],[some l.length]⟩) (g:=0) (es:=3) (xs:=l.map aq) hQ (by simp)
 rw[aG (show AP 101=some Bu from rfl) rfl]
 simp only[go_sem,PH,ho,ha,simprocAttr]
 exact nO.trans (by rw[cg])
theorem ahD {tk:List (Option Nat)} {l:List P} {o:Own} {e:Nat} (hs:Ok s) (he:l=[]∨e=3) (ho:o.isNil=l.isEmpty) (hl:l.length≤4294967296):
  ∃x og tk',(∀bx,nA (aw AP) (s.push ⟨bx,tk⟩) 101 [.slice o e (l.map aq)]=some (x,s.push ⟨bx,tk'⟩))∧Acc s.ag.length 3 (l.map aq) x og tk':=by
 cases fm:l with
 | nil =>
  subst fm
  have nN:o.isNil=true:=ho
  have:∀bx,aw AP (.fn 101) [.slice o e (([]:List P).map aq)] ((dP (s.push ⟨bx,tk⟩)).push ⟨[],[]⟩)=some (.slice .aA 0 [],(dP (s.push ⟨bx,tk⟩)).push ⟨[],[]⟩):=fun bx=>by
   rw[aG (show AP 101=some Bu from rfl) rfl]
   simp only[go_sem,PH,nN,simprocAttr]
  refine⟨.slice .aA 0 [],none,tk,fun bx=>?_,rfl,rfl⟩
  unfold nA
  rw[show({(s.push ⟨bx,tk⟩).push ⟨[],[]⟩with ro:=(s.push ⟨bx,tk⟩).ag.length,cq:=(s.push ⟨bx,tk⟩).loops.length}:ae)=(dP (s.push ⟨bx,tk⟩)).push ⟨[],[]⟩from rfl,this]
  rfl
 | cons a q =>
  rw[←fm]
  have hn:l≠[]:=by rw[fm];simp
  have ku:e=3:=by rcases he with h|h;exact absurd h hn;exact h
  have nN:o.isNil=false:=by rw[ho,fm];rfl
  refine⟨.slice (.tok s.ag.length tk.length) 3 (l.map aq),some tk.length,tk++[some l.length],fun bx=>?_,by simpa using hn,rfl,by simp⟩
  have:=ay8 (Q:=dP (s.push ⟨bx,tk⟩)) (R:=⟨[],[]⟩) (o:=o) C4 hn nN hl ku
  have vr:(dP (s.push ⟨bx,tk⟩)).ag.length=(s.push ⟨bx,tk⟩).ag.length:=rfl
  have lM:(s.push ⟨bx,tk⟩).cur=s.ag.length:=gD _ _
  have hlen:(s.push ⟨bx,tk⟩).ag.length=s.ag.length+1:=by simp[ae.push]
  unfold nA
  rw[show({(s.push ⟨bx,tk⟩).push ⟨[],[]⟩with ro:=(s.push ⟨bx,tk⟩).ag.length,cq:=(s.push ⟨bx,tk⟩).loops.length}:ae)=(dP (s.push ⟨bx,tk⟩)).push ⟨[],[]⟩from rfl,this]
  have zF:((dP (s.push ⟨bx,tk⟩)).push ⟨[],[some l.length]⟩).tok (s.push ⟨bx,tk⟩).ag.length 0=some l.length:=by
   have:=Aj (dP (s.push ⟨bx,tk⟩)) ⟨[],[some l.length]⟩ 0
   rw[vr]at this;rw[this];rfl
  have bO:(s.push ⟨bx,tk⟩).ro<(s.push ⟨bx,tk⟩).ag.length:=by rw[hlen];have:=hs.ro;show s.ro<_;omega
  simp only[vr,jU,gL]
  rw[aj ⟨trivial,by omega,bO,by rw[zF,cg]⟩]
  simp only[lM,pO,oC,cg]
abbrev mG (m:Nat):List AV:=[I (m:Int)]
attribute [go_sem] mG
def oS (w:W) (all:List (Sl P×Bool)) (plan:List P) (own:Nat) (bW:List Nat) (i:Nat) (p:P):Bool:=
 !cY w p plan&&bW.any fun m=>decide (m&&&(2^(i+1)-1)=own|||2^i)&&kV w all (plan++[p]) m
def pM (w:W) (all:List (Sl P×Bool)) (plan:List P) (own:Nat) (bW:List Nat):Nat→Nat→Option P
 |_,0=>none
 |i,n+1=>match(all.getD i default).1.l.find? (oS w all plan own bW i)with
  |some p=>some p
  |none=>pM w all plan own bW (i+1) n
def mR (plan:List P):Nat:=match plan.getLast? with
 |some p=>p.req.toNat+1
 |none=>0
def vX (w:W) (all:List (Sl P×Bool)) (plan:List P) (own:Nat) (bW:List Nat):Option P:=pM w all plan own bW (mR plan) (all.length-mR plan)
theorem avH (i:Nat) (hi:i≤12):IntKind.i64.wrap (((2^(i+1):Nat):Int)-1)=((2^(i+1)-1:Nat):Int):=by
 have h:(2:Nat)^(i+1)≤2^13:=mb (by decide) (by omega)
 have h1:1≤(2:Nat)^(i+1):=Nat.one_le_two_pow
 generalize(2:Nat)^(i+1)=q at*
 rw[bq (by omega) (by omega)]
 omega
theorem SN {m k:Nat} (h:m<2^k) (hk:k≤63):m<2^63:=pY h (mb (by decide) hk)
theorem XJ (a b:Nat):decide ((a:Int)=(b:Int))=decide (a=b):=by
 by_cases h:a=b
 ·rw[bS h,bS (by omega)]
 ·rw[bX h,bX (by omega)]
theorem ajE {α:Type} {p:α→Bool} {l:List α} {k:Nat} {x:α} (h:l[k]? =some x):(l.drop k).find? p=if p x=true then some x else(l.drop (k+1)).find? p:=by
 rw[gO h,Uv]
 cases p x<;>simp
theorem afr {α:Type} {p:α→Bool} {l:List α} {k:Nat} {x:α} (h:l[k]? =some x):(l.drop k).any p=(p x||(l.drop (k+1)).any p):=by
 rw[gO h,ke]
def vY (r:Option P):AV:=.tuple [.agg (aq (r.getD fl)),B r.isSome]
theorem ag6 {o o2 o3 : Own} {e e2 e3 : Nat} {all : List (Sl P × Bool)} {plan : List P} {own : Nat} {bW : List Nat} (hs : Ok s) (hw : Wk w) (ij : uH w e all) (hp : ∀ p ∈ plan, bJ w p) (kv : plan = [] ∨ e2 = 3) (CG : o2.isNil = plan.isEmpty) (ed : plan.length ≤ 12)
    (nO:own<2^12) (Z0:∀m∈bW,m<2^w.rs.l.length) (mU:bW=[]∨e3=1) (oP:bW.length≤5000):
    aw AP (.fn 66) [CH w o e all,.slice o2 e2 (plan.map aq),I (own:Int),.slice o3 e3 (bW.map mG)] s=some (vY (vX w all plan own bW),s):=by
  have fV:=hw.v.rl
  have fC:=ij.len
  have sU : ∀ (i : Nat) ρ x, (ρ 1 = .slice o2 e2 (plan.map aq) ∧ ρ 2 = I (own : Int) ∧ ρ 3 = .slice o3 e3 (bW.map mG) ∧ ρ 4 = .ptr s.ag.length 0 0 ∧ ρ 8 = .ptr s.ag.length 1 0 ∧ ρ 12 = I (i : Int) ∧
      ∃bx tk,x=s.push ⟨[OW w,.slice o e (all.map jc)]::aq fl::bx,tk⟩)→go AP GO (.c (.loop uT)::Sz) ⟨ρ,x⟩=some (vY (pM w all plan own bW i (all.length-i)),s):=by
    have step : ∀ (i : Nat) ρ x, i < all.length → (ρ 1 = .slice o2 e2 (plan.map aq) ∧ ρ 2 = I (own : Int) ∧ ρ 3 = .slice o3 e3 (bW.map mG) ∧ ρ 4 = .ptr s.ag.length 0 0 ∧ ρ 8 = .ptr s.ag.length 1 0 ∧ ρ 12 = I (i : Int) ∧
        ∃bx tk,x=s.push ⟨[OW w,.slice o e (all.map jc)]::aq fl::bx,tk⟩)→
        (∀ρ' x',(ρ' 1=.slice o2 e2 (plan.map aq)∧ρ' 2=I (own:Int)∧ρ' 3=.slice o3 e3 (bW.map mG)∧ρ' 4=.ptr s.ag.length 0 0∧ρ' 8=.ptr s.ag.length 1 0∧ρ' 12=I ((i+1:Nat):Int)∧
          ∃bx tk,x'=s.push ⟨[OW w,.slice o e (all.map jc)]::aq fl::bx,tk⟩)→go AP GO (.c (.loop uT)::Sz) ⟨ρ',x'⟩=some (vY (pM w all plan own bW (i+1) (all.length-(i+1))),s))→
        go AP GO (.c uT::.lp uT::Sz) ⟨ρ,x⟩=some (vY (pM w all plan own bW i (all.length-i)),s):=by
      rintro i ρ x hi ⟨h1,h2,h3,h4,h8,dZ,bx,tk,rfl⟩ ih
      obtain⟨c,hc⟩:=get_some hi
      have sE:=bE hc
      have cS:e=2:=by rcases ij.e with h|h;(rw[h]at hc;simp at hc);exact h
      subst cS
      have hr:=cz (f:=jc) (o:=o) (es:=2) hc
      have nK:all.getD i default=c:=by simp[List.getD,hc]
      have hnf:pM w all plan own bW i (all.length-i)=match c.1.l.find? (oS w all plan own bW i)with
          |some p=>some p
          |none=>pM w all plan own bW (i+1) (all.length-(i+1)):=by
        obtain⟨d,hd⟩:∃d,all.length-i=d+1:=⟨all.length-i-1,by omega⟩
        rw[hd,pM,nK,show all.length-(i+1)=d by omega]
      have hck:=ij.cnt c sE
      have oI:=ij.n6 c sE
      have po:=ij.ok c sE
      have h63:∀m∈bW,m<2^63:=fun m hm=>SN (Z0 m hm) (by omega)
      have SB : ∀ (j : Nat) ρ x, j ≤ c.1.l.length → (ρ 1 = .slice o2 e2 (plan.map aq) ∧ ρ 2 = I (own : Int) ∧ ρ 3 = .slice o3 e3 (bW.map mG) ∧ ρ 4 = .ptr s.ag.length 0 0 ∧ ρ 8 = .ptr s.ag.length 1 0 ∧ ρ 12 = I (i : Int) ∧ ρ 42 = c.1.v aq ∧ ρ 43 = I c.1.l.length ∧ ρ 44 = I j ∧
          ∃bx tk,x=s.push ⟨[OW w,.slice o 2 (all.map jc)]::aq fl::bx,tk⟩)→
          go AP GO (.c (.loop AT)::aqH) ⟨ρ,x⟩=some (vY (match(c.1.l.drop j).find? (oS w all plan own bW i)with|some p=>some p|none=>pM w all plan own bW (i+1) (all.length-(i+1))),s):=by
        refine bA c.1.l.length _ _ ?_ ?_
        · rintro j ρ x hj ⟨h1, h2, h3, h4, h8, dZ, kp, mj, oG, bx, tk, rfl⟩ eQ
          obtain⟨p,nP⟩:=get_some hj
          have kY:=oI p (bE nP)
          have hr:=Sl.ix (f:=aq) po nP
          have dw:∀r,aw AP (.fn 69) [OW w,.agg (aq p),.slice o2 e2 (plan.map aq)] (s.push r)=some (B (cY w p plan),s.push r):=fun r=>T5 (hs.push r) hw kY hp kv (by omega)
          have ja:=bh hj (show(c.1.l.length:Int)<_ by omega)
          rw[ajE nP]
          simp only[aq,Sl.v]at dw hr kp
          cases lL:cY w p plan with
          | true =>
            rw[lL]at dw
            have kE:oS w all plan own bW i p=false:=by simp[oS,lL]
            rw[kE,ak (by simp)]
            simp only[go_sem,AT,JA,h1,h4,kp,mj,oG,hs,aL hj,hr,dw,ja,simprocAttr]
            refine eQ _ _ ?_
            exact⟨h1,h2,h3,h4,h8,dZ,kp,mj,rfl,_,_,rfl⟩
          | false =>
            rw[lL]at dw
            have an9:oS w all plan own bW i p=bW.any fun m=>decide (m&&&(2^(i+1)-1)=own|||2^i)&&kV w all (plan++[p]) m:=by simp[oS,lL]
            obtain⟨xc,ogc,tkc,aQ,hAc⟩:=ahD (s:=s) (tk:=tk) (l:=plan) (o:=o2) (e:=e2) hs kv CG (by omega)
            obtain⟨xa,qE,tka,cp,di,vq,_⟩:=hAc.append hs .full (ys:=[aq p]) (by simp) (by simp;omega)
            have lS:closeAll (aq p)=some (aq p):=by
              simp only[aq,ie,jW,nC,Sl.close kY.ok];rfl
            have ZR:∀m:ae,eR m (p.an.v aC)=some (p.an.v aC):=fun m=>Sl.yb kY.ok
            obtain⟨oa,hxa⟩:∃oa,xa=.slice oa 3 ((plan++[p]).map aq):=by
              cases qE with
              |none=>exact absurd rfl vq
              |some g=>exact⟨_,by rw[di.2.1,fH];rfl⟩
            subst hxa
            have my : ∀ (q : Nat) ρ x, q ≤ bW.length → (ρ 1 = .slice o2 e2 (plan.map aq) ∧ ρ 2 = I (own : Int) ∧ ρ 3 = .slice o3 e3 (bW.map mG) ∧ ρ 4 = .ptr s.ag.length 0 0 ∧ ρ 8 = .ptr s.ag.length 1 0 ∧ ρ 12 = I (i : Int) ∧ ρ 14 = .ptr s.ag.length (bx.length + 1 + 1) 0 ∧ ρ 15 = .slice oa 3 ((plan ++ [p]).map aq) ∧ ρ 42 = c.1.v aq ∧ ρ 43 = I c.1.l.length ∧ ρ 44 = I j ∧ ρ 58 = .slice o3 e3 (bW.map mG) ∧ ρ 59 = I bW.length ∧ ρ 60 = I q ∧
                ∃tk,x=s.push ⟨[OW w,.slice o 2 (all.map jc)]::aq fl::(bx++[aq p]),tk⟩)→
                go AP GO (.c (.loop AU)::aqI) ⟨ρ,x⟩=some (vY (if((bW.drop q).any fun m=>decide (m&&&(2^(i+1)-1)=own|||2^i)&&kV w all (plan++[p]) m)=true then some p else match(c.1.l.drop (j+1)).find? (oS w all plan own bW i)with|some p=>some p|none=>pM w all plan own bW (i+1) (all.length-(i+1))),s):=by
              refine bA bW.length _ _ ?_ ?_
              · rintro q ρ x hq ⟨h1, h2, h3, h4, h8, dZ, sk, sn, kp, mj, oG, Ca, zf, Ha, tk, rfl⟩ MA
                obtain⟨m,lR⟩:=get_some hq
                have L6:=bE lR
                have jH:=Z0 m L6
                have Rl:e3=1:=by rcases mU with h|h;(rw[h]at lR;simp at lR);exact h
                subst Rl
                have hr:=cz (f:=mG) (o:=o3) (es:=1) lR
                have mr:IntKind.i64.wrap ((i:Int)+1)=((i+1:Nat):Int):=by rw[bq]<;>omega
                have RS:=Jn (k:=i+1) (by omega)
                have RT:=Jn (k:=i) (by omega)
                have vJ:=avH i (by omega)
                have ik:2^(i+1)-1<2^63:=by
                  have:(2:Nat)^(i+1)≤2^13:=mb (by decide) (by omega)
                  have h8:(2:Nat)^13<2^63:=by decide
                  omega
                have iB:(2:Nat)^i<2^63:=N1 (by decide) (by omega)
                have hand:=Vn (a:=m) (b:=2^(i+1)-1) (h63 m L6) ik
                have HC:=Vp (a:=own) (b:=2^i) (SN nO (by decide)) iB
                have Hm:=XJ (m&&&(2^(i+1)-1)) (own|||2^i)
                have pt:∀r,aw AP (.fn 64) [CH w o 2 all,.slice oa 3 ((plan++[p]).map aq),I (m:Int)] (s.push r)=some (B (kV w all (plan++[p]) m),s.push r):=fun r=>
                  W4 (hs.push r) hw ij jH (fun y hy=>by
                    rcases dR.1 hy with h|h
                    · exact hp y h
                    · simp at h;subst h;exact kY) (.inr rfl) (by simp;omega)
                have CO:=bh hq (show(bW.length:Int)<_ by omega)
                rw[afr lR]
                simp only[CH]at pt
                simp only[aq,Sl.v,fl,pb]at ZR⊢
                cases hg:decide (m&&&(2^(i+1)-1)=own|||2^i)with
                | false =>
                  rw[hg]at Hm
                  simp only[go_sem,AU,h2,dZ,Ca,zf,Ha,aL hq,hr,mr,RS,RT,vJ,hand,HC,Hm,CO,lr,nq,simprocAttr]
                  refine(MA _ _ ?_).trans rfl
                  exact⟨h1,h2,h3,h4,h8,dZ,sk,sn,kp,mj,oG,Ca,zf,rfl,_,rfl⟩
                | true =>
                  rw[hg]at Hm
                  cases hf:kV w all (plan++[p]) m with
                  | false =>
                    rw[hf]at pt
                    simp only[go_sem,AU,h2,h4,dZ,sn,Ca,zf,Ha,aL hq,hr,mr,RS,RT,vJ,hand,HC,Hm,pt,CO,l8,nq,simprocAttr]
                    refine(MA _ _ ?_).trans rfl
                    exact⟨h1,h2,h3,h4,h8,dZ,sk,sn,kp,mj,oG,Ca,zf,rfl,_,rfl⟩
                  | true =>
                    rw[hf]at pt
                    simp only[go_sem,AU,h2,h4,h8,dZ,sk,sn,Ca,zf,Ha,hs,aL hq,hr,mr,RS,RT,vJ,hand,HC,Hm,pt,Al,Ao,ZR,simprocAttr]
                    rfl
              · rintro ρ x ⟨h1, h2, h3, h4, h8, dZ, sk, sn, kp, mj, oG, Ca, zf, Ha, tk, rfl⟩
                simp only[go_sem,AU,JA,oG,zf,Ha,bg,ja,simprocAttr]
                rw[fe]
                refine(eQ _ _ ?_).trans rfl
                exact⟨h1,h2,h3,h4,h8,dZ,kp,mj,rfl,_,_,rfl⟩
            simp only[aq,Sl.v,fl,pb]at aQ cp lS my
            rw[an9]
            simp only[go_sem,AT,h1,h3,h4,kp,mj,oG,hs,aL hj,hr,dw,aQ,lS,cp,simprocAttr]
            refine(my 0 _ _ (aV _) ?_).trans ?_
            · exact⟨h1,h2,h3,h4,h8,dZ,rfl,rfl,kp,mj,oG,rfl,rfl,rfl,_,rfl⟩
            · rw [iK]
              cases(bW.any fun m=>decide (m&&&(2^(i+1)-1)=own|||2^i)&&kV w all (plan++[p]) m)<;>rfl
        · rintro ρ x ⟨h1, h2, h3, h4, h8, dZ, kp, mj, oG, bx, tk, rfl⟩
          have mr:IntKind.i64.wrap ((i:Int)+1)=((i+1:Nat):Int):=by rw[bq]<;>omega
          simp only[go_sem,AT,Jz,dZ,mj,oG,bg,mr,simprocAttr]
          rw[fe]
          refine(ih _ _ ?_).trans rfl
          exact⟨h1,h2,h3,h4,h8,rfl,_,_,rfl⟩
      have hd:decide ((i:Int)<(all.length:Int))=true:=bS (by omega)
      rw[hnf]
      simp only[go_sem,uT,h4,dZ,hd,hr,simprocAttr]
      refine(SB 0 _ _ (aV _) ?_).trans (by rw[iK])
      exact⟨h1,h2,h3,h4,h8,dZ,rfl,rfl,rfl,_,_,rfl⟩
    intro i ρ x hP
    induction hn:all.length-i generalizing i ρ x with
    | zero =>
      obtain⟨h1,h2,h3,h4,h8,dZ,bx,tk,rfl⟩:=hP
      have hd:decide ((i:Int)<(all.length:Int))=false:=bX (by omega)
      rw[go_loop]
      simp only[aq,Sl.v,fl,pb]
      simp only[go_sem,uT,D4,h4,h8,dZ,hs,hd,simprocAttr]
      rfl
    | succ d ih =>
      rw[go_loop,←hn]
      refine step i ρ x (by omega) hP fun ρ' x' vp=>?_
      rw[ih (i+1) ρ' x' vp (by omega),show all.length-(i+1)=d by omega]
  have kz:∀(a:P),plan.getLast?=some a→plan[plan.length-1]? =some a:=fun a h=>by rw[←aeQ];exact h
  rw[aG (show AP 66=some E9 from rfl) rfl]
  cases kC:plan.getLast? with
  | none =>
    have RH:plan=[]:=NK.1 kC
    subst RH
    simp only[CH,OW,aq,Sl.v,fl,pb]at sU⊢
    simp only[go_sem,Oz,fY,simprocAttr]
    refine(sU 0 _ _ ?_).trans ?_
    · exact⟨rfl,rfl,rfl,rfl,rfl,rfl,[],[],rfl⟩
    · rfl
  | some a =>
    have hH:=kz a kC
    have nH:=hp a (bE hH)
    have aF:0<plan.length:=by
      have:=(bI.1 hH).1;omega
    have Rl:e2=3:=by rcases kv with h|h;(rw[h]at aF;simp at aF);exact h
    subst Rl
    have hr:=cz (f:=aq) (o:=o2) (es:=3) hH
    have eK:IntKind.i64.wrap ((plan.length:Int)-1)=((plan.length-1:Nat):Int):=by rw[bq]<;>omega
    have hd:decide ((0:Int)<(plan.length:Int))=true:=bS (by omega)
    have iF:=nH.r0
    have im:=nH.r1
    have xZ:IntKind.i64.wrap (a.req+1)=((a.req.toNat+1:Nat):Int):=by rw[bq]<;>omega
    have amp:mR plan=a.req.toNat+1:=by simp[mR,kC]
    simp only[CH,OW,aq,Sl.v,fl,pb]at sU hr⊢
    simp only[go_sem,Oz,hd,eK,hr,xZ,simprocAttr]
    refine(sU (a.req.toNat+1) _ _ ?_).trans ?_
    · exact⟨rfl,rfl,rfl,rfl,rfl,rfl,[],[],rfl⟩
    · simp only[vX,amp]
end
def Ah (w:W) (all:List (Sl P×Bool)) (st:Int×List Nat) (m:Nat):Int×List Nat:=
 if(decide (st.1≤ou w m)&&(Dc all m&&kV w all [] m))=true then(if st.1<ou w m then(ou w m,[m])else(st.1,st.2++[m]))else st
def ft (w:W) (all:List (Sl P×Bool)) (n:Nat):Int×List Nat:=(List.range n).foldl (Ah w all) (-1,[])
theorem Iw {w:W} {all:List (Sl P×Bool)} {n:Nat}:ft w all (n+1)=Ah w all (ft w all n) n:=by
 simp[ft,DI]
theorem adi {w:W} {all:List (Sl P×Bool)}:∀{n:Nat},(ft w all n).2.length≤n
 |0=>by simp[ft]
 | n + 1 => by
  have ih:=adi (w:=w) (all:=all) (n:=n)
  rw[Iw];unfold Ah
  split
  ·split
   ·simp
   ·simp;omega
  ·omega
theorem adj {w:W} {all:List (Sl P×Bool)} {m:Nat}:∀{n:Nat},m∈(ft w all n).2→m<n
 |0,h=>by simp[ft]at h
 | n + 1, h => by
  have ih:=fun h=>adj (w:=w) (all:=all) (m:=m) (n:=n) h
  rw[Iw]at h;unfold Ah at h
  split at h
  ·split at h
   ·simp at h;omega
   ·rcases dR.1 h with h|h
    ·have:=ih h;omega
    ·simp at h;omega
  ·have:=ih h;omega
def eL (plan:List P):Nat:=plan.foldl (fun o p=>o|||2^p.req.toNat) 0
def xI (w:W) (all:List (Sl P×Bool)) (bW:List Nat):Nat→List P→List P
 |0,plan=>plan
 |n+1,plan=>if(bW.any fun m=>decide (eL plan=m))=true then plan else match vX w all plan (eL plan) bW with
  |some p=>xI w all bW n (plan++[p])
  |none=>plan
def ES (w:W) (all:List (Sl P×Bool)):List P×Int×Bool:=
 if(ft w all (2^all.length)).1<0 then([],0,false)
 else(xI w all (ft w all (2^all.length)).2 (all.length+1) [],(ft w all (2^all.length)).1,true)
theorem abt {w:W} {all:List (Sl P×Bool)} {plan:List P} {own:Nat} {bW:List Nat} {p:P}:∀{n i:Nat},pM w all plan own bW i n=some p→∃j,i≤j∧j<i+n∧p∈(all.getD j default).1.l∧oS w all plan own bW j p=true
 |0,_,h=>by cases h
 | n + 1, i, h => by
  simp only[pM]at h
  split at h
  ·rename_i q hq
   injection h with h
   subst h
   exact⟨i,aI _,by omega,aeT hq,List.find?_some hq⟩
  ·obtain⟨j,h1,h2,h3⟩:=abt h
   exact⟨j,by omega,by omega,h3⟩
theorem QI {plan:List P} {p:P}:mR (plan++[p])=p.req.toNat+1:=by simp[mR]
section
variable{s:ae} {w:W}
theorem uH.aoq {e:Nat} {all:List (Sl P×Bool)} (h:uH w e all) {j:Nat} (hj:j<all.length) {p:P} (hp:p∈(all.getD j default).1.l):bJ w p∧p.req=j:=by
 obtain⟨c,hc⟩:=get_some hj
 have e1:all.getD j default=c:=by simp[List.getD,hc]
 rw[e1]at hp
 exact⟨h.n6 c (bE hc) p hp,h.req j c hc p hp⟩
theorem atz {e:Nat} {all:List (Sl P×Bool)} {plan:List P} {own:Nat} {bW:List Nat} {p:P} (hA:uH w e all) (h:vX w all plan own bW=some p):bJ w p∧mR plan≤p.req.toNat∧p.req.toNat<all.length:=by
 obtain⟨j,h1,h2,h3,_⟩:=abt h
 obtain⟨h4,h5⟩:=hA.aoq (j:=j) (by omega) h3
 exact⟨h4,by omega,by omega⟩
theorem ab4 {plan:List P} {p:P}:eL (plan++[p])=eL plan|||2^p.req.toNat:=by simp[eL]
theorem ab5:∀{plan:List P},(∀p∈plan,p.req.toNat<12)→eL plan<2^12:=by
 intro plan h
 have:∀(l:List P) (o:Nat),o<2^12→(∀p∈l,p.req.toNat<12)→l.foldl (fun o p=>o|||2^p.req.toNat) o<2^12:=by
  intro l
  induction l with
  |nil=>intro o ho _;exact ho
  |cons a r ih=>
   intro o ho hl
   exact ih _ (Nat.or_lt_two_pow ho (N1 (by decide) (hl a (Ar ..)))) fun p hp=>hl p (cD _ hp)
 exact this plan 0 (by decide) h
def KI (r:List P×Int×Bool):AV:=.tuple [bB 3 (r.1.map aq),I r.2.1,B r.2.2]
theorem ag4 {o : Own} {e : Nat} {all : List (Sl P × Bool)} (hs : Ok s) (hw : Wk w) (ij : uH w e all) : aw AP (.fn 29) [CH w o e all] s = some (KI (ES w all), s) := by
 have fV:=hw.v.rl
 have fC:=ij.len
 have aBp:2^all.length≤4096:=by
  have:(2:Nat)^all.length≤2^12:=mb (by decide) (by omega)
  exact mN this (by decide)
 have oP:∀n,n≤2^all.length→(ft w all n).2.length≤4096:=fun n hn=>mN adi (by omega)
 have ar2 : ∀ (f : Nat) (plan : List P) (ρ : Nat → AV) (x : ae) (bW : List Nat) (dD : Int), bW = (ft w all (2 ^ all.length)).2 → all.length + 1 - mR plan ≤ f → mR plan ≤ all.length → plan.length ≤ mR plan → (∀ p ∈ plan, bJ w p) →
   (ρ 1=.ptr s.ag.length 0 0∧(∃o5 e5,ρ 5=.slice o5 e5 (bW.map mG)∧(bW=[]∨e5=1))∧ρ 6=I dD∧∃og tk bx,Acc s.ag.length 3 (plan.map aq) (ρ 9) og tk∧x=s.push ⟨[OW w,.slice o e (all.map jc)]::bx,tk⟩)→
   go AP Qu (.c (.loop Jt)::aqB) ⟨ρ,x⟩=some (.tuple [bB 3 ((xI w all bW f plan).map aq),I dD,B true],s):=by
  intro f
  induction f with
  |zero=>intro plan ρ x bW dD sL hf pt;omega
  | succ f ihf =>
   rintro plan ρ x bW dD sL hf pt ed fk ⟨h1,⟨o5,e5,h5,Rm⟩,h6,og,tk,bx,hA,rfl⟩
   have zD:∀p∈plan,p.req.toNat<12:=fun p hp=>by have:=(fk p hp).r0;have:=(fk p hp).r1;omega
   have nO:=ab5 zD
   have anR:∀m∈bW,m<2^w.rs.l.length:=fun m hm=>by
    rw[sL]at hm;have:=adj hm;rw[fC]at this;exact this
   have aBv:bW.length≤4096:=by rw[sL];exact oP _ (aI _)
   obtain⟨o9,e9,QZ,Zi,ho9⟩:∃o9 e9,ρ 9=.slice o9 e9 (plan.map aq)∧(plan=[]∨e9=3)∧o9.isNil=plan.isEmpty:=by
    cases og with
    |none=>
     obtain⟨q1,q2⟩:=hA
     have:plan=[]:=by simpa using q1
     subst this
     exact⟨_,_,q2,.inl rfl,rfl⟩
    |some g=>
     refine⟨_,_,hA.2.1,.inr rfl,?_⟩
     have:plan≠[]:=by have:=hA.1;simpa using this
     cases plan with
     |nil=>exact absurd rfl this
     |cons a r=>rfl
   have Hi:∀r,aw AP (.fn 65) [.slice o5 e5 (bW.map mG),I (eL plan:Int)] (s.push r)=some (B (bW.any fun m=>decide (eL plan=m)),s.push r):=fun r=>by
    have:=Nz (s:=s.push r) (l:=bW.map fun m:Nat=>(m:Int)) (x:=(eL plan:Int)) (o:=o5) (e:=e5) (by rcases Rm with h|h;exact .inl (by simp[h]);exact .inr h) (by simp;omega)
    rw[I4]at this
    rw[show(bW.map mG)=bW.map ((fun a:Int=>[I a])∘fun m:Nat=>(m:Int))from rfl,this,IV]
    congr 4
    funext m
    exact XJ _ _
   have fj:∀r,aw AP (.fn 66) [CH w o e all,.slice o9 e9 (plan.map aq),I (eL plan:Int),.slice o5 e5 (bW.map mG)] (s.push r)=some (vY (vX w all plan (eL plan) bW),s.push r):=fun r=>
    ag6 (hs.push r) hw ij fk Zi ho9 (by omega) nO anR Rm (by omega)
   have ar1 : ∀ (j : Nat) ρ x, j ≤ plan.length → (ρ 1 = .ptr s.ag.length 0 0 ∧ ρ 5 = .slice o5 e5 (bW.map mG) ∧ ρ 6 = I dD ∧ ρ 9 = .slice o9 e9 (plan.map aq) ∧ ρ 10 = I (eL (plan.take j) : Int) ∧ ρ 49 = .slice o9 e9 (plan.map aq) ∧ ρ 50 = I plan.length ∧ ρ 51 = I j ∧
     ∃bx,x=s.push ⟨[OW w,.slice o e (all.map jc)]::bx,tk⟩)→
     go AP Qu (.c (.loop AQ)::aqC) ⟨ρ,x⟩=some (.tuple [bB 3 ((xI w all bW (f+1) plan).map aq),I dD,B true],s):=by
    refine bA plan.length _ _ ?_ ?_
    ·rintro j ρ x hj ⟨h1,h5,h6,h9,cJ,ss,nG,qm,bx,rfl⟩ ih
     obtain⟨p,hp⟩:=get_some hj
     have pD:=fk p (bE hp)
     have mU:e9=3:=by rcases Zi with h|h;(rw[h]at hp;simp at hp);exact h
     subst mU
     have hr:=cz (f:=aq) (o:=o9) (es:=3) hp
     have p0:=pD.r0
     have p1:=pD.r1
     have iH:cC .shl (I 1) (I p.req)=some (I ((2^p.req.toNat:Nat):Int)):=by
      have:=Jn (k:=p.req.toNat) (by omega)
      rwa [show((p.req.toNat:Nat):Int)=p.req by omega]at this
     have aB:eL (plan.take j)<2^63:=SN (ab5 fun q hq=>zD q (oB hq)) (by decide)
     have HC:=Vp (a:=eL (plan.take j)) (b:=2^p.req.toNat) aB (N1 (by decide) (by omega))
     have hon:eL (plan.take (j+1))=eL (plan.take j)|||2^p.req.toNat:=by rw[du hp,ab4]
     simp only[go_sem,AQ,h1,h5,h6,h9,cJ,ss,nG,qm,hs,aL hj,hr,iH,HC,bh hj (show(plan.length:Int)<_ by omega),fY,simprocAttr]
     refine ih _ _ ?_
     refine⟨h1,h5,h6,h9,?_,ss,nG,rfl,_,rfl⟩
     rw[hon];rfl
    ·rintro ρ x ⟨h1,h5,h6,h9,cJ,ss,nG,qm,bx,rfl⟩
     rw[er]at cJ
     have lJ:=hA
     rw[QZ]at lJ
     have dc:=lJ.leave
     have hgp:xI w all bW (f+1) plan=if(bW.any fun m=>decide (eL plan=m))=true then plan else match vX w all plan (eL plan) bW with
      |some p=>xI w all bW f (plan++[p])
      |none=>plan:=rfl
     rw[hgp]
     cases hc:bW.any fun m=>decide (eL plan=m)with
     |true=>
      rw[hc]at Hi
      simp only[go_sem,AQ,D3,h1,h5,h6,h9,cJ,nG,qm,hs,bg,Hi,dc,cI,fY,simprocAttr]
     | false =>
      rw[hc]at Hi
      simp only[ew,eu]
      cases hn:vX w all plan (eL plan) bW with
      |none=>
       rw[hn]at fj
       simp only[vY,Option.getD_none,tC,aq,Sl.v,fl,pb]at fj
       simp only[go_sem,AQ,D3,h1,h5,h6,h9,cJ,nG,qm,hs,bg,Hi,fj,dc,fY,simprocAttr]
      | some p =>
       rw[hn]at fj
       obtain⟨n1,n2,n3⟩:=atz ij hn
       have lS:closeAll (aq p)=some (aq p):=by
        simp only[aq,ie,jW,nC,Sl.close n1.ok];rfl
       obtain⟨x',bQ,tk',cp,di,_⟩:=lJ.append hs .full (ys:=[aq p]) (by simp) (by simp;omega)
       simp only[vY,uO,N5,aq,Sl.v]at fj lS cp
       simp only[go_sem,AQ,D3,h1,h5,h6,h9,cJ,nG,qm,hs,bg,Hi,fj,lS,cp,fY,simprocAttr]
       refine(ihf (plan++[p]) _ _ bW dD sL (by rw[QI];omega) (by rw[QI];omega) (by rw[QI];simp;omega) (fun q hq=>?_) ?_).trans rfl
       ·rcases dR.1 hq with h|h
        ·exact fk q h
        ·simp at h;subst h;exact n1
       ·refine⟨h1,⟨o5,e5,h5,Rm⟩,h6,bQ,tk',_,?_,rfl⟩
        rw[fH];exact di
   rw[go_loop]
   simp only[go_sem,Jt,h1,h5,h6,QZ,hs,fY,simprocAttr]
   refine ar1 0 _ _ (aV _) ?_
   exact⟨h1,h5,h6,QZ,rfl,rfl,rfl,rfl,_,rfl⟩
 have aaQ : ∀ (j : Nat) ρ x, j ≤ 2 ^ all.length → (ρ 1 = .ptr s.ag.length 0 0 ∧ ρ 6 = I (ft w all j).1 ∧ ρ 18 = I ((2 ^ all.length : Nat) : Int) ∧ ρ 19 = I j ∧
   ∃og tk,Acc s.ag.length 1 ((ft w all j).2.map mG) (ρ 5) og tk∧x=s.push ⟨[[OW w,.slice o e (all.map jc)]],tk⟩)→
   go AP Qu (.c (.loop uS)::aqD) ⟨ρ,x⟩=some (KI (ES w all),s):=by
  refine bA (2^all.length) _ _ ?_ ?_
  ·rintro j ρ x hj ⟨h1,h6,fU,qj,og,tk,hA,rfl⟩ ih
   have Rv:j<2^w.rs.l.length:=by rw[←fC];exact hj
   have amB:j<2^62:=pY Rv (mb (by decide) (by omega))
   have nT:∀r,aw AP (.fn 62) [CH w o e all,I (j:Int)] (s.push r)=some (I (ou w j),s.push r):=fun r=>ag7 (hs.push r) hw Rv
   have iD:∀r,aw AP (.fn 63) [CH w o e all,I (j:Int)] (s.push r)=some (B (Dc all j),s.push r):=fun r=>ag5 (hs.push r) ij.e (by omega) amB
   have pt:∀r,aw AP (.fn 64) [CH w o e all,.slice .aA 0 [],I (j:Int)] (s.push r)=some (B (kV w all [] j),s.push r):=fun r=>W4 (plan:=[]) (hs.push r) hw ij Rv (by simp) (.inl rfl) (by simp)
   have ja:=bh hj (show(((2^all.length:Nat):Nat):Int)<_ by omega)
   have bu:=Iw (w:=w) (all:=all) (n:=j)
   have aB:=aL hj
   have hsj:=oP j (by omega)
   generalize ft w all j=st at*
   generalize ft w all (j+1)=aM at*
   generalize uj:ou w j=W1 at*
   generalize vK:Dc all j=B1 at*
   generalize hq3:kV w all [] j=B2 at*
   unfold Ah at bu
   rw[uj,vK,hq3]at bu
   simp only[CH]at nT iD pt
   cases hg:decide (st.1≤W1)with
   |false=>
    rw[hg,lr,ak (by simp)]at bu
    simp only[go_sem,uS,h1,h6,fU,qj,hs,aB,nT,iD,pt,hg,ja,fY,simprocAttr]
    refine ih _ _ ?_
    exact⟨h1,by rw[bu];exact h6,fU,rfl,og,tk,by rw[bu];exact hA,rfl⟩
   | true =>
    cases B1 with
    |false=>
     rw[hg,lr,l8,ak (by simp)]at bu
     simp only[go_sem,uS,h1,h6,fU,qj,hs,aB,nT,iD,pt,hg,ja,fY,simprocAttr]
     refine ih _ _ ?_
     exact⟨h1,by rw[bu];exact h6,fU,rfl,og,tk,by rw[bu];exact hA,rfl⟩
    | true =>
     cases B2 with
     |false=>
      rw[hg,l8,l8,ak (by simp)]at bu
      simp only[go_sem,uS,h1,h6,fU,qj,hs,aB,nT,iD,pt,hg,ja,fY,simprocAttr]
      refine ih _ _ ?_
      exact⟨h1,by rw[bu];exact h6,fU,rfl,og,tk,by rw[bu];exact hA,rfl⟩
     | true =>
      rw[hg,Al,Al,aj rfl]at bu
      by_cases hm:st.1<W1
      ·have hd:decide (st.1<W1)=true:=bS hm
       rw[aj hm]at bu
       obtain⟨x',bQ,tk',cp,di,_⟩:=(Acc.start (d:=s.ag.length) (es:=1) (toks:=tk)).append hs .full (ys:=[mG j]) (by simp) (by simp)
       simp only[go_sem,uS,h1,h6,fU,qj,hs,aB,nT,iD,pt,hg,ja,hd,cp,fY,simprocAttr]
       refine ih _ _ ?_
       exact⟨h1,by rw[bu];rfl,fU,rfl,bQ,tk',by rw[bu];exact di,rfl⟩
      ·have hd:decide (st.1<W1)=false:=bX hm
       rw[ak hm]at bu
       obtain⟨x',bQ,tk',cp,di,_⟩:=hA.append hs .full (ys:=[mG j]) (by simp) (by simp;omega)
       simp only[go_sem,uS,h1,h6,fU,qj,hs,aB,nT,iD,pt,hg,ja,hd,cp,fY,simprocAttr]
       refine ih _ _ ?_
       exact⟨h1,by rw[bu];exact h6,fU,rfl,bQ,tk',by rw[bu,fH];exact di,rfl⟩
  ·rintro ρ x ⟨h1,h6,fU,qj,og,tk,hA,rfl⟩
   have kZ:=ar2 (all.length+1) []
   unfold ES
   by_cases CF:(ft w all (2^all.length)).1<0
   ·have hd:decide ((ft w all (2^all.length)).1<0)=true:=bS CF
    rw[aj CF]
    simp only[go_sem,uS,Ju,h1,h6,fU,qj,hs,bg,hd,fY,simprocAttr]
    rfl
   ·have hd:decide ((ft w all (2^all.length)).1<0)=false:=bX CF
    rw[ak CF]
    have h5:∃o5 e5,ρ 5=.slice o5 e5 ((ft w all (2^all.length)).2.map mG)∧((ft w all (2^all.length)).2=[]∨e5=1):=by
     cases og with
     |none=>obtain⟨q1,q2⟩:=hA;exact⟨_,_,by rw[q2,q1],.inl (by simpa using q1)⟩
     |some g=>exact⟨_,_,hA.2.1,.inr rfl⟩
    simp only[go_sem,uS,Ju,h1,h6,fU,qj,hs,bg,hd,fY,simprocAttr]
    refine(kZ _ _ _ _ rfl (by simp[mR]) (by simp[mR]) (by simp) (by simp) ?_).trans rfl
    exact⟨h1,h5,h6,none,tk,[],Acc.start,rfl⟩
 have iH:=Jn (k:=all.length) (by omega)
 rw[aG (show AP 29=some E6 from rfl) rfl]
 simp only[CH,OW]at aaQ⊢
 simp only[go_sem,VD,hs,iH,fY,simprocAttr]
 refine aaQ 0 _ _ (aV _) ?_
 exact⟨rfl,rfl,rfl,rfl,none,[],Acc.start,rfl⟩
end
def kN (w:W):Int:=if(cM w).2.2=0 then cond (Ag w) 0 8 else(cM w).2.2
section
variable{s:ae} {w:W}
theorem ajR (hw:Wk w):uH w (fJ 2 (df w)).e (df w):=by
 have dW:∀(i:Nat) (c:Sl P×Bool),(df w)[i]? =some c→i<w.rs.l.length∧c=(fJ 3 (ep w [] (i:Nat)),true):=fun i c h=>by
  have hi:=(bI.1 h).1
  rw[df,Yy]at hi
  refine⟨hi,?_⟩
  rw[df,qe,iL,Uy hi]at h
  injection h with h
  exact h.symm
 have gm:∀c∈df w,∃i:Nat,i<w.rs.l.length∧c=(fJ 3 (ep w [] (i:Nat)),true):=fun c hc=>by
  obtain⟨i,hi⟩:=oZ hc
  exact⟨i,dW i c hi⟩
 refine⟨?_,by simp[df,Yy],fun c hc=>?_,fun c hc=>?_,fun c hc p hp=>?_,fun i c hc p hp=>?_⟩
 ·cases df w
  ·exact .inl rfl
  ·exact .inr rfl
 ·obtain⟨i,hi,rfl⟩:=gm c hc;exact wU
 ·obtain⟨i,hi,rfl⟩:=gm c hc
  rw[me]
  exact mN (rW _ _) (z7 hw (by omega) (by omega))
 ·obtain⟨i,hi,rfl⟩:=gm c hc
  rw[me]at hp
  exact(jO hw (i:=(i:Nat)) (by omega) (by omega) (ji.1 hp).1).1
 ·obtain⟨hi,rfl⟩:=dW i c hc
  rw[me]at hp
  exact(jO hw (i:=(i:Nat)) (by omega) (by omega) (ji.1 hp).1).2.1
def gd (w:W):List P×Int×Bool:=ES w (df w)
theorem acY (hs:Ok s) (hw:w.Ok) (hf:w.jT):aw AP (.fn 8) [w.v] s=some (.tuple [bB 3 ((if kN w=0 then(gd w).1 else[]).map aq),I (if kN w=0 then(gd w).2.1 else 0),I (kN w)],s):=by
 have ho:∀r,aw AP (.fn 27) [w.v] (s.push r)=some (.tuple [if(cM w).2.2=0 then OW w else NP,I (kN w)],s.push r):=fun r=>axi (hs.push r) hw hf
 rw[aG (show AP 8=some FB from rfl) rfl]
 simp only[W.v,aW,Sl.v]at ho
 by_cases h0:kN w=0
 ·have he:(cM w).2.2=0:=by
   unfold kN at h0
   by_cases h:(cM w).2.2=0
   ·exact h
   ·rw[ak h]at h0;exact absurd h0 h
  have aY:Wk w:=⟨hw,hf,pR he⟩
  rw[aj he,h0]at ho
  have qq:∀r,aw AP (.fn 28) [OW w] (s.push r)=some (CH w (fJ 2 (df w)).o (fJ 2 (df w)).e (df w),s.push r):=fun r=>by
   rw[ayT (hs.push r) aY,uR];simp only[Sl.v,me]
  have sD:∀r,aw AP (.fn 29) [CH w (fJ 2 (df w)).o (fJ 2 (df w)).e (df w)] (s.push r)=some (KI (gd w),s.push r):=fun r=>ag4 (hs.push r) aY (ajR aY)
  rw[h0]
  simp only[CH,KI]at qq sD
  simp only[cI]
  simp only[go_sem,O3,ho,qq,sD,bV,gI,simprocAttr]
 ·simp only[h0,eu]
  simp only[go_sem,O3,ho,bV,h0,j3,simprocAttr]
  rfl
end
def fN (l:List P):Int:=match l.getLast? with
 |some p=>p.req
 |none=>-1
def eW (r:R):Int→List Int→Int
 |_,[]=>0
 |last,a::t=>if(r.an.l.any fun b=>decide (a=b))=true then(if last<a then eW r a t else 9)else 6
def dY (w : W) (p : P) (XQ : List P) : Int :=
 if wi p.req 0 (w.rs.l.length - 1) = true then
  if fN XQ < p.req then
   if wi p.start (w.rq p.req).lo ((w.rq p.req).hi + 1 - (w.rq p.req).len) = true then
    if(p.an.l.length:Int)=(w.rq p.req).need then
     if eW (w.rq p.req) (-1) p.an.l=0 then
      if(p.an.l.any fun a=>!cU w a p.start (w.rq p.req).len)=true then 21
      else if cY w p XQ=true then 13 else 0
     else eW (w.rq p.req) (-1) p.an.l
    else 10
   else 2
  else 9
 else 6
theorem Jl {w:W} {r:R} {st len:Int}:∀{l:List Int} {last:Int},eW r last l=0→(∀a∈l,(r.an.l.any fun b=>decide (a=b))=true)∧(∀a∈l,last<a)
 |[],_,_=>by simp
 | a :: t, last, h => by
  simp only[eW]at h
  by_cases h1:(r.an.l.any fun b=>decide (a=b))=true
  ·rw[aj h1]at h
   by_cases h2:last<a
   ·rw[aj h2]at h
    obtain⟨i1,i2⟩:=Jl (w:=w) (st:=st) (len:=len) h
    refine⟨fun b hb=>?_,fun b hb=>?_⟩
    ·rcases dr.1 hb with rfl|hb
     ·exact h1
     ·exact i1 b hb
    ·rcases dr.1 hb with rfl|hb
     ·exact h2
     ·have:=i2 b hb;omega
   ·rw[ak h2]at h;omega
  ·rw[ak h1]at h;omega
theorem SO {l:List Int} {a:Int} (h:(l.any fun b=>decide (a=b))=true):a∈l:=by
 obtain⟨b,hb,he⟩:=fc.1 h
 have:a=b:=by simpa using he
 rw[this];exact hb
section
variable{s:ae} {w:W}
theorem ayW {p:P} {l:List P} {o:Own} {e:Nat} (hs:Ok s) (hw:Wk w) (iE:p.an.ok 1) (ed:(p.an.l.length:Int)<1000000) (hl:∀x∈l,bJ w x) (he:l=[]∨e=3) (hn:(l.length:Int)<1000000):
  aw AP (.fn 175) [OW w,.agg (aq p),.slice o e (l.map aq)] s=some (I (dY w p l),s):=by
 have fV:=hw.v.rl
 have dK:=hw.v.n2
 have nb:∀q:ae,aw AP (.fn 190) [OW w,I p.req] q=some (I (cond (wi p.req 0 (w.rs.l.length-1)) 0 6),q):=fun q=>ayY hw
 have main : ∀ (h0 : 0 ≤ p.req) (h1 : p.req < w.rs.l.length), (w.rq p.req).lo ≤ p.start → p.start ≤ (w.rq p.req).hi + 1 - (w.rq p.req).len → ∀ (j : Nat) ρ x, j ≤ p.an.l.length → (ρ 0 = OW w ∧ ρ 2 = .slice o e (l.map aq) ∧ ρ 4 = .ptr s.ag.length 0 0 ∧ ρ 10 = .ptr s.ag.length 1 0 ∧ ρ 76 = p.an.v aC ∧ ρ 77 = I p.an.l.length ∧ ρ 78 = I j ∧
   (∃last:Int,ρ 7=I last∧eW (w.rq p.req) (-1) p.an.l=eW (w.rq p.req) last (p.an.l.drop j))∧ρ 12=B ((p.an.l.take j).any fun a=>!cU w a p.start (w.rq p.req).len)∧(∀a∈p.an.l.take j,a∈(w.rq p.req).an.l)∧
   ∃bx tk,x=s.push ⟨aq p::aS (w.rq p.req)::bx,tk⟩)→
   go AP Yb (.c (.loop w9)::aaN) ⟨ρ,x⟩=some (I (if eW (w.rq p.req) (-1) p.an.l=0 then(if(p.an.l.any fun a=>!cU w a p.start (w.rq p.req).len)=true then 21 else if cY w p l=true then 13 else 0)else eW (w.rq p.req) (-1) p.an.l),s):=by
  intro h0 h1 CM Mk
  have hq:=hw.rq h0 h1
  have zC:=hw.ok.an _ (W.oe h0 h1)
  have q0:=hq.pK
  have q1:=hq.bH
  have q2:=hq.kJ
  have q3:=hq.pJ
  have Zl:=hw.si.an _ (W.oe h0 h1)
  refine bA p.an.l.length _ _ ?_ ?_
  ·rintro j ρ x hj ⟨g0,g2,g4,g10,qf,xD,B3,⟨last,g7,kC⟩,g12,gm,bx,tk,rfl⟩ ih
   obtain⟨a,ha⟩:=get_some hj
   have hr:=Sl.ix (f:=aC) iE ha
   have pq:∀r,aw AP (.fn 65) [.slice (w.rq p.req).an.o (w.rq p.req).an.e ((w.rq p.req).an.l.map aC),I a] (s.push r)=some (B ((w.rq p.req).an.l.any fun b=>decide (a=b)),s.push r):=fun r=>Nz zC.1 (by omega)
   rw[gO ha,eW]at kC
   have aah:=bh hj (show(p.an.l.length:Int)<_ by omega)
   simp only[Sl.v]at qf hr
   generalize HE:w.rq p.req=q at*
   cases hm:q.an.l.any fun b=>decide (a=b)with
   |false=>
    rw[hm]at pq kC
    rw[ak (by simp)]at kC
    rw[kC]
    simp only[go_sem,w9,g0,g4,g7,g10,g12,qf,xD,B3,aL hj,hr,pq,lk,oh,eB,bV,simprocAttr]
    rfl
   | true =>
    rw[hm]at pq kC
    rw[aj rfl]at kC
    have nH:=hq.tG a (SO hm)
    have bU:∀r,aw AP (.fn 75) [OW w,I a,I p.start,I q.len] (s.push r)=some (B (cU w a p.start q.len),s.push r):=fun r=>ael hw nH.1 nH.2 (by omega) (by omega) (by omega)
    by_cases xS:last<a
    ·have hd:decide (last<a)=true:=bS xS
     rw[aj xS]at kC
     have nI:∀c:Bool,B c=B ((p.an.l.take (j+1)).any fun a=>!cU w a p.start q.len)→∀ρ' x',(ρ' 0=OW w∧ρ' 2=.slice o e (l.map aq)∧ρ' 4=.ptr s.ag.length 0 0∧ρ' 10=.ptr s.ag.length 1 0∧ρ' 76=.slice p.an.o p.an.e (p.an.l.map aC)∧ρ' 77=I p.an.l.length∧ρ' 78=I ((j+1:Nat):Int)∧ρ' 7=I a∧ρ' 12=B c∧∃bx tk,x'=s.push ⟨aq p::aS q::bx,tk⟩)→
       go AP Yb (.c (.loop w9)::aaN) ⟨ρ',x'⟩=some (I (if eW q (-1) p.an.l=0 then(if(p.an.l.any fun a=>!cU w a p.start q.len)=true then 21 else if cY w p l=true then 13 else 0)else eW q (-1) p.an.l),s):=by
      rintro c lL ρ' x' ⟨k0,k2,k4,Sr,Sv,Sw,Sy,k7,Ss,kb⟩
      refine ih ρ' x' ⟨k0,k2,k4,Sr,Sv,Sw,Sy,⟨a,k7,kC⟩,by rw[Ss,lL],fun b hb=>?_,kb⟩
      rw[du ha]at hb
      rcases dR.1 hb with h|h
      ·exact gm b h
      ·simp at h;subst h;exact SO hm
     have uq:((p.an.l.take (j+1)).any fun a=>!cU w a p.start q.len)=(((p.an.l.take j).any fun a=>!cU w a p.start q.len)||!cU w a p.start q.len):=by
      rw[du ha,tn];simp
     generalize((p.an.l.take j).any fun a=>!cU w a p.start q.len)=C at*
     cases C with
     |true=>
      simp only[go_sem,w9,g7,g10,g12,qf,xD,B3,aL hj,hr,pq,hd,lk,oh,eB,bV,gI,aah,simprocAttr]
      refine nI true (by rw[uq];rfl) _ _ ?_
      exact⟨g0,g2,g4,g10,qf,xD,rfl,rfl,rfl,_,_,rfl⟩
     |false=>
      simp only[go_sem,w9,g0,g4,g7,g10,g12,qf,xD,B3,aL hj,hr,pq,bU,hd,lk,oh,eB,bV,gI,aah,simprocAttr]
      refine nI (!cU w a p.start q.len) (by rw[uq];rfl) _ _ ?_
      exact⟨g0,g2,g4,g10,qf,xD,rfl,rfl,rfl,_,_,rfl⟩
    ·have hd:decide (last<a)=false:=bX xS
     rw[ak xS]at kC
     rw[kC]
     simp only[go_sem,w9,g0,g4,g7,g10,g12,qf,xD,B3,aL hj,hr,pq,hd,lk,oh,eB,bV,simprocAttr]
     rfl
  ·rintro ρ x ⟨g0,g2,g4,g10,qf,xD,B3,⟨last,g7,kC⟩,g12,gm,bx,tk,rfl⟩
   rw[fe]at kC
   rw[er]at gm g12
   have alJ:eW (w.rq p.req) (-1) p.an.l=0:=kC
   have fk:bJ w p:=⟨h0,h1,by omega,by omega,fun a ha=>hq.tG a (gm a ha),iE,by omega⟩
   have dw:∀r,aw AP (.fn 69) [OW w,.agg (aq p),.slice o e (l.map aq)] (s.push r)=some (B (cY w p l),s.push r):=fun r=>T5 (hs.push r) hw fk hl he (by omega)
   rw[aj alJ]
   simp only[aq,Sl.v]at dw
   generalize(p.an.l.any fun a=>!cU w a p.start (w.rq p.req).len)=C at*
   generalize cY w p l=D at*
   simp only[go_sem,w9,PD,g0,g2,g4,g12,xD,B3,bg,dw,lk,oh,simprocAttr]
   cases C<;>cases D<;>rfl
 rw[aG (show AP 175=some Gd from rfl) rfl]
 cases kC:l.getLast? with
 | none =>
  have RH:l=[]:=NK.1 kC
  subst RH
  have vF:fN ([]:List P)=-1:=rfl
  by_cases hA:wi p.req 0 (w.rs.l.length-1)=true
  ·by_cases hB:-1<p.req
   ·have zg:decide (-1<p.req)=true:=bS hB
    have vo:=gy.1 hA
    have h0:0≤p.req:=vo.1
    have h1:p.req<w.rs.l.length:=by omega
    have hq:=hw.rq h0 h1
    have q0:=hq.pK
    have q1:=hq.bH
    have q2:=hq.kJ
    have q3:=hq.pJ
    have eD:=oQ hw h0 h1
    have iW:dY w p []=if wi p.start (w.rq p.req).lo ((w.rq p.req).hi+1-(w.rq p.req).len)=true then if(p.an.l.length:Int)=(w.rq p.req).need then(if eW (w.rq p.req) (-1) p.an.l=0 then(if(p.an.l.any fun a=>!cU w a p.start (w.rq p.req).len)=true then 21 else if cY w p []=true then 13 else 0)else eW (w.rq p.req) (-1) p.an.l)else 10 else 2:=by
     unfold dY;rw[aj hA,vF,aj hB]
    rw[iW]
    have main:=main h0 h1
    have zC:=(hw.ok.an _ (W.oe h0 h1))
    have w1:IntKind.i64.wrap ((w.rq p.req).hi+1)=(w.rq p.req).hi+1:=bq (by omega) (by omega)
    have w2:IntKind.i64.wrap ((w.rq p.req).hi+1-(w.rq p.req).len)=(w.rq p.req).hi+1-(w.rq p.req).len:=bq (by omega) (by omega)
    simp only[OW,aq,aS,Sl.v,pb]at main nb eD⊢
    generalize w.rq p.req=q at*
    obtain⟨cr,lo,hi,len,val,⟨oa,ea,an⟩,need⟩:=q
    simp only at*
    simp only[go_sem,yI,hs,nb,lk,oh,hA,zg,eB,bV,gI,yl,eD,w1,w2,s5,fY,simprocAttr]
    cases hC:wi p.start lo (hi+1-len)with
    |false=>simp only[go_sem,ew,simprocAttr];rfl
    | true =>
     by_cases hD:(p.an.l.length:Int)=need
     ·have Hd:decide ((p.an.l.length:Int)=need)=true:=bS hD
      have Hc:=gy.1 hC
      simp only[go_sem,Hd,gI,simprocAttr]
      refine(main Hc.1 Hc.2 0 _ _ (aV _) ?_).trans ?_
      ·exact⟨rfl,rfl,rfl,rfl,rfl,rfl,rfl,⟨-1,rfl,rfl⟩,rfl,by simp,_,_,rfl⟩
      ·rw[aj hD]
     ·have Hd:decide ((p.an.l.length:Int)=need)=false:=bX hD
      simp only[go_sem,hD,simprocAttr];rfl
   ·have zg:decide (-1<p.req)=false:=bX hB
    have iW:dY w p []=9:=by unfold dY;rw[aj hA,vF,ak hB]
    rw[iW]
    simp only[OW,aq,Sl.v,pb]at nb⊢
    simp only[go_sem,yI,nb,lk,oh,hA,zg,eB,bV,fY,simprocAttr]
    rfl
  ·have lJ:wi p.req 0 (w.rs.l.length-1)=false:=by simpa using hA
   have iW:dY w p []=6:=by unfold dY;rw[ak hA]
   rw[iW]
   simp only[OW,aq,Sl.v,pb]at nb⊢
   simp only[go_sem,yI,nb,lk,oh,lJ,eB,bV,fY,simprocAttr]
   rfl
 | some a =>
  have hH:l[l.length-1]? =some a:=by rw[←aeQ];exact kC
  have vF:fN l=a.req:=by simp[fN,kC]
  have aF:0<l.length:=by
   have:=(bI.1 hH).1;omega
  have mU:e=3:=by rcases he with h|h;(rw[h]at aF;simp at aF);exact h
  subst mU
  have hr:=cz (f:=aq) (o:=o) (es:=3) hH
  have eK:IntKind.i64.wrap ((l.length:Int)-1)=((l.length-1:Nat):Int):=by rw[bq]<;>omega
  have hd:decide ((0:Int)<(l.length:Int))=true:=bS (by omega)
  simp only[aq,Sl.v]at hr
  by_cases hA:wi p.req 0 (w.rs.l.length-1)=true
  ·by_cases hB:a.req<p.req
   ·have zg:decide (a.req<p.req)=true:=bS hB
    have vo:=gy.1 hA
    have h0:0≤p.req:=vo.1
    have h1:p.req<w.rs.l.length:=by omega
    have hq:=hw.rq h0 h1
    have q0:=hq.pK
    have q1:=hq.bH
    have q2:=hq.kJ
    have q3:=hq.pJ
    have eD:=oQ hw h0 h1
    have iW:dY w p l=if wi p.start (w.rq p.req).lo ((w.rq p.req).hi+1-(w.rq p.req).len)=true then if(p.an.l.length:Int)=(w.rq p.req).need then(if eW (w.rq p.req) (-1) p.an.l=0 then(if(p.an.l.any fun a=>!cU w a p.start (w.rq p.req).len)=true then 21 else if cY w p l=true then 13 else 0)else eW (w.rq p.req) (-1) p.an.l)else 10 else 2:=by
     unfold dY;rw[aj hA,vF,aj hB]
    rw[iW]
    have main:=main h0 h1
    have zC:=(hw.ok.an _ (W.oe h0 h1))
    have w1:IntKind.i64.wrap ((w.rq p.req).hi+1)=(w.rq p.req).hi+1:=bq (by omega) (by omega)
    have w2:IntKind.i64.wrap ((w.rq p.req).hi+1-(w.rq p.req).len)=(w.rq p.req).hi+1-(w.rq p.req).len:=bq (by omega) (by omega)
    simp only[OW,aq,aS,Sl.v]at main nb eD⊢
    generalize w.rq p.req=q at*
    obtain⟨cr,lo,hi,len,val,⟨oa,ea,an⟩,need⟩:=q
    simp only at*
    simp only[go_sem,yI,hs,nb,lk,oh,hd,eK,hr,hA,zg,eB,bV,gI,yl,eD,w1,w2,s5,simprocAttr]
    cases hC:wi p.start lo (hi+1-len)with
    |false=>simp only[go_sem,ew,simprocAttr];rfl
    | true =>
     by_cases hD:(p.an.l.length:Int)=need
     ·have Hd:decide ((p.an.l.length:Int)=need)=true:=bS hD
      have Hc:=gy.1 hC
      simp only[go_sem,Hd,gI,simprocAttr]
      refine(main Hc.1 Hc.2 0 _ _ (aV _) ?_).trans ?_
      ·exact⟨rfl,rfl,rfl,rfl,rfl,rfl,rfl,⟨-1,rfl,rfl⟩,rfl,by simp,_,_,rfl⟩
      ·rw[aj hD]
     ·have Hd:decide ((p.an.l.length:Int)=need)=false:=bX hD
      simp only[go_sem,hD,simprocAttr];rfl
   ·have zg:decide (a.req<p.req)=false:=bX hB
    have iW:dY w p l=9:=by unfold dY;rw[aj hA,vF,ak hB]
    rw[iW]
    simp only[OW,aq,Sl.v]at nb⊢
    simp only[go_sem,yI,nb,lk,oh,hd,eK,hr,hA,zg,eB,bV,simprocAttr]
    rfl
  ·have lJ:wi p.req 0 (w.rs.l.length-1)=false:=by simpa using hA
   have iW:dY w p l=6:=by unfold dY;rw[ak hA]
   rw[iW]
   simp only[OW,aq,Sl.v]at nb⊢
   simp only[go_sem,yI,nb,lk,oh,hd,eK,hr,lJ,eB,bV,simprocAttr]
   rfl
theorem Db (hw : Wk w) {p : P} {l : List P} (iE : p.an.ok 1) (ed : (p.an.l.length : Int) < 1000000) (h : dY w p l = 0) : bJ w p ∧ fN l < p.req ∧ cY w p l = false ∧ (w.rq p.req).lo ≤ p.start ∧ p.start ≤ (w.rq p.req).hi + 1 - (w.rq p.req).len ∧ (p.an.l.length : Int) = (w.rq p.req).need ∧ eW (w.rq p.req) (-1) p.an.l = 0 ∧ (p.an.l.any fun a => !cU w a p.start (w.rq p.req).len) = false := by
 unfold dY at h
 by_cases h1:wi p.req 0 (w.rs.l.length-1)=true
 ·rw [aj h1] at h
  by_cases h2:fN l<p.req
  ·rw [aj h2] at h
   by_cases h3:wi p.start (w.rq p.req).lo ((w.rq p.req).hi+1-(w.rq p.req).len)=true
   ·rw [aj h3] at h
    by_cases h4:(p.an.l.length:Int)=(w.rq p.req).need
    ·rw [aj h4] at h
     by_cases h5:eW (w.rq p.req) (-1) p.an.l=0
     ·rw[aj h5]at h
      cases h6:p.an.l.any fun a=>!cU w a p.start (w.rq p.req).len with
      |true=>rw[h6,aj rfl]at h;omega
      | false =>
       rw[h6,ak (by simp)]at h
       cases h7:cY w p l with
       |true=>rw[h7,aj rfl]at h;omega
       |false=>
        rw[gy]at h1 h3
        have hq:=hw.rq h1.1 (by omega)
        have q0:=hq.pK
        have q1:=hq.bH
        have q2:=hq.kJ
        have q3:=hq.pJ
        have dK:=hw.v.n2
        refine⟨⟨h1.1,by omega,by omega,by omega,fun a ha=>hq.tG a (SO ((Jl (w:=w) (st:=0) (len:=0) h5).1 a ha)),iE,by omega⟩,h2,rfl,h3.1,h3.2,h4,h5,rfl⟩
     ·rw[ak h5]at h;exact absurd h h5
    ·rw[ak h4]at h;omega
   ·rw[ak h3]at h;omega
  ·rw[ak h2]at h;omega
 ·rw[ak h1]at h;omega
def gC (w:W) (l:List P):Int×Int:=match fT (fun i x=>dY w x (l.take i)) 0 l with
 |some (k,e)=>(k,e)
 |none=>(0,0)
structure kf (l:List P):Prop where
 len:l.length≤14
 ok:∀p∈l,p.an.ok 1∧p.an.l.length≤6
theorem Yn {α:Type} {f:Nat→α→Int}:∀{l:List α} {k:Nat},fT f k l=none→∀(j:Nat) x,l[j]? =some x→f (k+j) x=0
 |[],_,_,_,_,h=>by simp at h
 | a :: r, k, hn, j, x, h => by
  simp only[fT]at hn
  by_cases h1:f k a=0
  ·rw[aj h1]at hn
   cases j with
   |zero=>simp at h;subst h;exact h1
   |succ j=>
    have:=Yn hn j x (by simpa using h)
    rw[show k+(j+1)=k+1+j by omega];exact this
  ·rw[ak h1]at hn;cases hn
theorem KS (hw:Wk w) {l:List P} (hl:kf l) (h:(gC w l).2=0):∀(j:Nat) x,l[j]? =some x→dY w x (l.take j)=0:=by
 unfold gC at h
 cases hf:fT (fun i x=>dY w x (l.take i)) 0 l with
 |some q=>obtain⟨k,e⟩:=q;rw[hf]at h;exact absurd h (Lg hf)
 |none=>
  intro j x hj
  have:=Yn hf j x hj
  rwa [gU]at this
theorem Xc (hw:Wk w) {l:List P} (hl:kf l) (h:(gC w l).2=0):∀x∈l,bJ w x:=fun x hx=>by
 obtain⟨j,hj⟩:=oZ hx
 have h1:=hl.ok x hx
 exact(Db hw h1.1 (by omega) (KS hw hl h j x hj)).1
theorem ayP {l:List P} {o:Own} {e:Nat} (hs:Ok s) (hw:Wk w) (hl:kf l) (he:l=[]∨e=3):aw AP (.fn 138) [OW w,.slice o e (l.map aq)] s=some (.tuple [I (gC w l).1,I (gC w l).2],s):=by
 have hlen:=hl.len
 have key:∀j ρ x,j≤l.length→(ρ 0=OW w∧ρ 1=.slice o e (l.map aq)∧ρ 9=.slice o e (l.map aq)∧ρ 10=I l.length∧ρ 11=I j∧(∀y∈l.take j,bJ w y)∧∃bx,x=s.push ⟨bx,[]⟩)→
   go AP ajh (.c (.loop EI)::arE) ⟨ρ,x⟩=some (match fT (fun i x=>dY w x (l.take i)) j (l.drop j)with|some (k,e)=>.tuple [I k,I e]|none=>.tuple [I 0,I 0],s):=by
  refine bA l.length _ _ ?_ ?_
  ·rintro j ρ x hj ⟨h0,h1,h9,cJ,dh,fk,bx,rfl⟩ ih
   obtain⟨p,hp⟩:=get_some hj
   have qv:=hl.ok p (bE hp)
   have mU:e=3:=by rcases he with h|h;(rw[h]at hp;simp at hp);exact h
   subst mU
   have hr:=cz (f:=aq) (o:=o) (es:=3) hp
   obtain⟨o',nN⟩:=ads (f:=aq) (o:=o) (es:=3) (l:=l) (k:=j) (by omega)
   have iD:∀r,aw AP (.fn 175) [OW w,.agg (aq p),.slice o' 3 ((l.take j).map aq)] (s.push r)=some (I (dY w p (l.take j)),s.push r):=fun r=>ayW (hs.push r) hw qv.1 (by omega) fk (.inr rfl) (by rw[ez];omega)
   rw[xA hp]
   simp only[aq,Sl.v]at iD
   by_cases hz:dY w p (l.take j)=0
   ·simp only[go_sem,EI,h0,h1,h9,cJ,dh,hs,aL hj,hr,nN,iD,hz,bV,gI,bh hj (show(l.length:Int)<_ by omega),simprocAttr]
    refine ih _ _ ?_
    refine⟨h0,h1,h9,cJ,rfl,fun y hy=>?_,_,rfl⟩
    rw[du hp]at hy
    rcases dR.1 hy with h|h
    ·exact fk y h
    ·simp at h;subst h;exact(Db hw qv.1 (by omega) hz).1
   ·have hd:decide (dY w p (l.take j)=0)=false:=bX hz
    simp only[go_sem,EI,h0,h1,h9,cJ,dh,hs,aL hj,hr,nN,iD,hz,bV,j3,simprocAttr]
  ·rintro ρ x ⟨h0,h1,h9,cJ,dh,fk,bx,rfl⟩
   simp only[go_sem,EI,Pv,cJ,dh,bg,simprocAttr]
   rw[fe];rfl
 rw[aG (show AP 138=some F4 from rfl) rfl]
 simp only[go_sem,Wp,simprocAttr]
 refine(key 0 _ _ (aV _) ?_).trans ?_
 ·exact⟨rfl,rfl,rfl,rfl,rfl,by simp,_,rfl⟩
 ·unfold gC
  rw[iK]
  cases fT (fun i x=>dY w x (l.take i)) 0 l with
  |none=>rfl
  |some q=>obtain⟨k,e⟩:=q;rfl
def jv (w:W) (l:List P):Int×Int:=if(cM w).2.2=0 then gC w l else(0,(cM w).2.2)
theorem axh {l:List P} {o:Own} {e:Nat} (hs:Ok s) (hw:w.Ok) (hf:w.jT) (hl:kf l) (he:l=[]∨e=3):aw AP (.fn 89) [w.v,.slice o e (l.map aq)] s=some (.tuple [if(cM w).2.2=0 then OW w else NP,I (jv w l).1,I (jv w l).2],s):=by
 unfold jv
 rw[aG (show AP 89=some FO from rfl) rfl]
 by_cases hz:(cM w).2.2=0
 ·have aY:Wk w:=⟨hw,hf,pR hz⟩
  have ho:∀r,aw AP (.fn 32) [w.v] (s.push r)=some (.tuple [OW w,I 0],s.push r):=fun r=>Iq (hs.push r) hw hf hz
  have hc:∀r,aw AP (.fn 138) [OW w,.slice o e (l.map aq)] (s.push r)=some (.tuple [I (gC w l).1,I (gC w l).2],s.push r):=fun r=>ayP (hs.push r) aY hl he
  rw[aj hz,aj hz]
  simp only[W.v,aW,Sl.v]at ho
  simp only[OW]at ho hc⊢
  simp only[go_sem,Po,ho,hc,bV,gI,simprocAttr]
 ·have ho:∀r,aw AP (.fn 32) [w.v] (s.push r)=some (.tuple [NP,I (cM w).2.2],s.push r):=fun r=>Ir (hs.push r) hw hf hz
  rw[ak hz,ak hz]
  simp only[W.v,aW,Sl.v]at ho
  simp only[go_sem,Po,ho,bV,hz,j3,simprocAttr]
def ck (w:W):List P→Int
 |[]=>0
 |p::r=>(w.rq p.req).val+ck w r
theorem aef {w:W}:∀{l r:List P},ck w (l++r)=ck w l+ck w r
 |[],r=>by simp[ck]
 |i::l,r=>by simp only[fZ,ck,aef];omega
theorem aeg (hw:Wk w):∀{l:List P},(∀p∈l,bJ w p)→0≤ck w l∧ck w l≤100000*l.length
 |[],_=>by simp[ck]
 |i::l,h=>by
  have h1:=aeg hw (l:=l) fun j hj=>h j (cD _ hj)
  have h2:=h i (Ar ..)
  have h3:=hw.rq h2.r0 h2.r1
  have:=h3.uF
  have:=h3.tc
  simp only[ck,cH];omega
end
section
variable{s:ae} {w:W}
end
def tx (l:List UInt8):ByteArray:=⟨l.toArray⟩
theorem ayq {a b:List UInt8}:tx a++tx b=tx (a++b):=by
 apply IQ
 show(tx a++tx b).data=_
 simp[tx]
theorem pQ {a:List UInt8}:(tx a).size=a.length:=by simp[tx,ByteArray.size]
theorem wZ {a b:List UInt8} (h:a.length+b.length≤100000000):cC .add (S (tx a)) (S (tx b))=some (S (tx (a++b))):=by
 have h2:¬((((tx a).size+(tx b).size:Nat):Int)>IntKind.i64.max):=by
  have:IntKind.i64.max=9223372036854775807:=by decide
  rw[this,pQ,pQ];omega
 show Option.map AV.v (s7 .add (tx a) (tx b))=_
 unfold s7
 simp only[h2,eu,ayq]
 rfl
def Small (p:P):Prop:=(0≤p.req∧p.req<100)∧(0≤p.start∧p.start<100)∧p.an.l.length≤1000∧∀a∈p.an.l,0≤a∧a<100
def oD:List Int→List UInt8
 |[]=>[]
 |a::r=>43::eO a.toNat++oD r
def wB (p:P):List UInt8:=eO p.req.toNat++[64]++eO p.start.toNat++oD p.an.l
def Lk (l:List P):List UInt8:=[32].intercalate (l.map wB)
theorem BO {n:Nat}:(eO n).length≤2:=by unfold eO;split<;>simp
theorem Oi:∀{l:List Int},(oD l).length≤3*l.length
 |[]=>by simp[oD]
 |a::r=>by
  have h1:=Oi (l:=r)
  have h2:=BO (n:=a.toNat)
  simp only[oD,cH,cG];omega
theorem Vd:∀{l r:List Int},oD (l++r)=oD l++oD r
 |[],r=>rfl
 |a::l,r=>by simp only[fZ,oD,Vd,gK]
section
variable{s:ae} {w:W}
theorem itoa {n:Int} (h0:0≤n) (h1:n<100):aw AP (.fn 52) [I n] s=some (S (tx (eO n.toNat)),s):=by
 rw[xj (show AP 52=some zW from rfl)]
 simp only[ie,jW,nC,dI,dJ,HZ]
 rw[aj ⟨h0,h1⟩];rfl
theorem adL:∀{ls:List (List UInt8)},uE (ls.map fun x=>[S (tx x)])=some ls
 |[]=>rfl
 |a::r=>by
  simp only[fR,uE,adL (ls:=r),dJ]
  simp[tx]
theorem join {x:AV} {ls:List (List UInt8)} {es:Nat} (hx:x.close=some (bB es (ls.map fun x=>[S (tx x)]))) (h1:ls.length≤1000000) (h2:([32].intercalate ls).length≤1000000):
  aw AP (.fn 53) [x,S (tx [32])] s=some (S (tx ([32].intercalate ls)),s):=by
 rw[xj (show AP 53=some C8 from rfl)]
 simp only[ie,jW,hx,vf,dI,dJ]
 have hs:uE (ls.map fun x=>[S (tx x)])=some ls:=adL
 have ht:(tx [32]).data.toList=[32]:=by simp[tx]
 cases ls with
 |nil=>simp only[pb,bB,H2,uE,dI,ht];rfl
 |cons a r=>
  simp only[fR,bB,H2]
  simp only[fR]at hs
  rw[hs]
  simp only[dI,ht]
  rw[aj ⟨h1,h2⟩];rfl
theorem ay2 {p:P} (h:Small p):(wB p).length≤3010:=by
 have h1:=BO (n:=p.req.toNat)
 have h2:=BO (n:=p.start.toNat)
 have h3:=Oi (l:=p.an.l)
 have h4:=h.2.2.1
 simp only[wB,cG,pV];omega
theorem Se:∀{ls:List (List UInt8)} {m:Nat},(∀x∈ls,x.length≤m)→([32].intercalate ls).length≤(m+1)*ls.length
 |[],m,_=>by simp[List.intercalate]
 |[a],m,h=>by
  have:=h a (by simp)
  simp[List.intercalate];omega
 |a::b::r,m,h=>by
  have h1:=Se (ls:=b::r) (m:=m) fun x hx=>h x (cD _ hx)
  have h2:=h a (by simp)
  have e:[32].intercalate (a::b::r)=a++[32]++[32].intercalate (b::r):=by simp[List.intercalate,List.intersperse]
  have e2:(a::b::r).length=(b::r).length+1:=rfl
  have e3:(m+1)*((b::r).length+1)=(m+1)*(b::r).length+(m+1):=by rw[Nat.mul_add,wO]
  have e4:(a++[32]++[32].intercalate (b::r)).length=a.length+1+([32].intercalate (b::r)).length:=by rw[cG,cG];rfl
  rw[e,e2,e3,e4]
  omega
theorem aBW {l:List P} {o:Own} {e:Nat} (hs:Ok s) (he:l=[]∨e=3) (hl:l.length≤100) (bz:∀p∈l,p.an.ok 1∧Small p):aw AP (.fn 17) [.slice o e (l.map aq)] s=some (S (tx (Lk l)),s):=by
 have key:∀(j:Nat) ρ x,j≤l.length→(ρ 9=.slice o e (l.map aq)∧ρ 10=I l.length∧ρ 11=I j∧∃og tk bx,Acc s.ag.length 1 (((l.take j).map wB).map fun x=>[S (tx x)]) (ρ 3) og tk∧x=s.push ⟨bx,tk⟩)→go AP K9 (.c (.loop w8)::aaI) ⟨ρ,x⟩=some (S (tx (Lk l)),s):=by
  refine bA l.length _ _ ?_ ?_
  ·rintro j ρ x hj ⟨h9,cJ,dh,og,tk,bx,hA,rfl⟩ ih
   obtain⟨p,hp⟩:=get_some hj
   have qv:=bz p (bE hp)
   obtain⟨⟨a1,a2⟩,⟨a3,a4⟩,a5,a6⟩:=qv.2
   have mU:e=3:=by rcases he with h|h;(rw[h]at hp;simp at hp);exact h
   subst mU
   have hr:=cz (f:=aq) (o:=o) (es:=3) hp
   have d1:=BO (n:=p.req.toNat)
   have d2:=BO (n:=p.start.toNat)
   have i1:∀q:ae,aw AP (.fn 52) [I p.req] q=some (S (tx (eO p.req.toNat)),q):=fun q=>itoa a1 a2
   have i2:∀q:ae,aw AP (.fn 52) [I p.start] q=some (S (tx (eO p.start.toNat)),q):=fun q=>itoa a3 a4
   have s1 : cC .add (S (tx (eO p.req.toNat))) (S ⟨#[64]⟩) = some (S (tx (eO p.req.toNat ++ [64]))) := wZ (by simp; omega)
   have s2:cC .add (S (tx (eO p.req.toNat++[64]))) (S (tx (eO p.start.toNat)))=some (S (tx (eO p.req.toNat++[64]++eO p.start.toNat))):=wZ (by simp;omega)
   have ja:=bh hj (show(l.length:Int)<_ by omega)
   have my:∀(q:Nat) ρ x,q≤p.an.l.length→((∃y,ρ 6=S y∧y=tx (eO p.req.toNat++[64]++eO p.start.toNat++oD (p.an.l.take q)))∧ρ 9=.slice o 3 (l.map aq)∧ρ 10=I l.length∧ρ 11=I j∧ρ 24=p.an.v aC∧ρ 25=I p.an.l.length∧ρ 26=I q∧
     ∃og tk bx,Acc s.ag.length 1 (((l.take j).map wB).map fun x=>[S (tx x)]) (ρ 3) og tk∧x=s.push ⟨bx,tk⟩)→go AP K9 (.c (.loop yD)::aaJ) ⟨ρ,x⟩=some (S (tx (Lk l)),s):=by
    refine bA p.an.l.length _ _ ?_ ?_
    ·rintro q ρ x hq ⟨⟨y,h6,hy⟩,h9,cJ,dh,ko,jX,kW,og,tk,bx,hA,rfl⟩ eQ
     obtain⟨a,ha⟩:=get_some hq
     have nH:=a6 a (bE ha)
     have hr:=Sl.ix (f:=aC) qv.1 ha
     have d3:=BO (n:=a.toNat)
     have d4:=Oi (l:=p.an.l.take q)
     have d5:(p.an.l.take q).length≤1000:=by rw[ez];omega
     have i3:∀m:ae,aw AP (.fn 52) [I a] m=some (S (tx (eO a.toNat)),m):=fun m=>itoa nH.1 nH.2
     have s3 : cC .add (S ⟨#[43]⟩) (S (tx (eO a.toNat))) = some (S (tx ([43] ++ eO a.toNat))) := wZ (a := [43]) (by simp; omega)
     have s4:cC .add (S (tx (eO p.req.toNat++[64]++eO p.start.toNat++oD (p.an.l.take q)))) (S (tx ([43]++eO a.toNat)))=some (S (tx (eO p.req.toNat++[64]++eO p.start.toNat++oD (p.an.l.take q)++([43]++eO a.toNat)))):=wZ (by simp only[cG,pV];omega)
     rw[←hy]at s4
     obtain⟨z3,R6⟩:∃z,tx ([43]++eO a.toNat)=z:=⟨_,rfl⟩
     obtain⟨z4,HQ⟩:∃z,tx (eO p.req.toNat++[64]++eO p.start.toNat++oD (p.an.l.take q)++([43]++eO a.toNat))=z:=⟨_,rfl⟩
     rw[R6]at s3 s4
     rw[HQ]at s4
     simp only[Sl.v]at ko hr
     simp only[go_sem,yD,h6,ko,jX,kW,aL hq,hr,i3,s3,s4,bh hq (show(p.an.l.length:Int)<_ by omega),simprocAttr]
     refine eQ _ _ ?_
     refine⟨⟨z4,rfl,?_⟩,h9,cJ,dh,by simp only[Sl.v];exact ko,jX,rfl,og,tk,_,hA,rfl⟩
     rw[du ha,Vd,←HQ]
     simp[oD]
    ·rintro ρ x ⟨⟨y,h6,hy⟩,h9,cJ,dh,ko,jX,kW,og,tk,bx,hA,rfl⟩
     rw[er]at hy
     rw[hy]at h6
     have aU:(l.take j).length≤100:=by rw[ez];omega
     obtain⟨x',bQ,tk',cp,di,_⟩:=hA.append hs .full (ys:=[[S (tx (wB p))]]) (by simp) (by simp;omega)
     have G9:ρ 6=S (tx (wB p)):=h6
     obtain⟨z5,HR⟩:∃z,tx (wB p)=z:=⟨_,rfl⟩
     rw[HR]at G9 cp di
     simp only[go_sem,yD,J3,J2,G9,dh,jX,kW,bg,cp,ja,simprocAttr]
     refine ih _ _ ?_
     refine⟨h9,cJ,rfl,bQ,tk',_,?_,rfl⟩
     rw[du hp,fH,fH,NQ,NQ,HR];exact di
   simp only[aq,Sl.v]at hr my
   obtain⟨z1,HO⟩:∃z,tx (eO p.req.toNat++[64])=z:=⟨_,rfl⟩
   obtain⟨z2,HP⟩:∃z,tx (eO p.req.toNat++[64]++eO p.start.toNat)=z:=⟨_,rfl⟩
   rw[HO]at s1 s2
   rw[HP]at s2
   simp only[go_sem,w8,h9,cJ,dh,hs,aL hj,hr,i1,i2,s1,s2,simprocAttr]
   refine my 0 _ _ (aV _) ?_
   refine⟨⟨z2,rfl,?_⟩,h9,cJ,dh,rfl,rfl,rfl,og,tk,_,hA,rfl⟩
   rw[show p.an.l.take 0=[]from rfl,oD,kR,HP]
  ·rintro ρ x ⟨h9,cJ,dh,og,tk,bx,hA,rfl⟩
   rw[er]at hA
   have hj : ∀ q : ae, aw AP (.fn 53) [ρ 3, S ⟨#[32]⟩] q = some (S (tx (Lk l)), q) := fun q => join hA.close (by simp; omega) (by
    have h1:=Se (ls:=l.map wB) (m:=3010) fun x hx=>by
     obtain⟨p,hp,rfl⟩:=cN.1 hx
     exact ay2 (bz p hp).2
    rw[cg]at h1
    have h2:=UR 3011 hl
    omega)
   simp only[go_sem,w8,Ep,cJ,dh,bg,hj,simprocAttr]
 rw[aG (show AP 17=some Bk from rfl) rfl]
 simp only[go_sem,O8,simprocAttr]
 refine key 0 _ _ (aV _) ?_
 exact⟨rfl,rfl,rfl,none,[],[],Acc.start,rfl⟩
def WK : W := ⟨10, ⟨.full, 3, [⟨⟨#[97]⟩, 1, ⟨.full, 2, [(4, 4)]⟩⟩, ⟨⟨#[98]⟩, 0, ⟨.aA, 0, []⟩⟩]⟩,
 ⟨.full, 7, [⟨⟨#[109, 97, 114, 115]⟩, 0, 5, 3, 10, ⟨.full, 1, [0]⟩, 1⟩, ⟨⟨#[109, 111, 111, 110]⟩, 0, 4, 2, 7, ⟨.full, 1, [0, 1]⟩, 1⟩, ⟨⟨#[109, 97, 114, 115]⟩, 0, 9, 4, 6, ⟨.full, 1, [0, 1]⟩, 2⟩]⟩⟩
theorem asa (hs:Ok s):aw AP (.fn 23) [] s=some (WK.v,s):=by
 rw[aG (show AP 23=some Fc from rfl) rfl]
 simp only[go_sem,VH,hs,simprocAttr]
 rfl
end
def L3:List P:=[⟨0,0,fg [0]⟩,⟨1,0,fg [1]⟩,⟨2,5,fg [0,1]⟩]
theorem ae7:kN WK=0:=by decide+kernel
theorem ae4:(gd WK).1=L3:=by kernel_rfl
theorem ae8:(gd WK).2.1=23:=by decide+kernel
theorem ae6:WK.Ok:=by
 refine⟨⟨.inr rfl,.inr (.inl rfl)⟩,fun a ha=>?_,⟨.inr rfl,.inr (.inl rfl)⟩,fun r hr=>?_⟩
 ·simp only[WK,dr,Au,zT]at ha
  rcases ha with rfl|rfl
  ·exact⟨.inr rfl,.inr (.inl rfl)⟩
  ·exact⟨.inl rfl,.inr (.inr ⟨rfl,rfl⟩)⟩
 ·simp only[WK,dr,Au,zT]at hr
  rcases hr with rfl|rfl|rfl<;>exact⟨.inr rfl,.inr (.inl rfl)⟩
theorem ae5:WK.jT:=by
 refine⟨by decide,by decide,fun a ha=>?_,fun a ha=>?_,fun r hr=>?_,fun r hr=>?_⟩
 ·simp only[WK,dr,Au,zT]at ha
  rcases ha with rfl|rfl<;>decide
 ·simp only[WK,dr,Au,zT]at ha
  rcases ha with rfl|rfl<;>decide
 ·simp only[WK,dr,Au,zT]at hr
  rcases hr with rfl|rfl|rfl<;>decide
 ·simp only[WK,dr,Au,zT]at hr
  rcases hr with rfl|rfl|rfl<;>decide
section
variable{s:ae}
end
theorem qa {p q:Prop} [Decidable p] [Decidable q] (h:p↔¬q):decide p=!decide q:=by
 by_cases hq:q
 ·rw[bS hq,bX (fun hp=>h.1 hp hq)];rfl
 ·rw[bX hq,bS (h.2 hq)];rfl
theorem XI {p q:Prop} [Decidable p] [Decidable q] (h:p↔q):decide p=decide q:=by
 by_cases hq:q
 ·rw[bS hq,bS (h.2 hq)]
 ·rw[bX hq,bX (fun hp=>hq (h.1 hp))]
section
variable{s:ae} {w:W}
theorem gA {a b c:Int}:aw AP (.fn 21) [I a,I b,I c] s=some (B (wi a b c),s):=by
 rw[aG (show AP 21=some E5 from rfl) rfl]
 simp only[go_sem,VC,simprocAttr]
 unfold wi
 cases decide (b≤a)<;>cases decide (a≤c)<;>rfl
theorem ixs {x:ByteArray} {k:Nat} {c:UInt8} (h:x.data.toList[k]? =some c):zJ (S x) (I (k:Int))=some (.v (.int .u8 c.toNat)):=by
 have hk:=(bI.1 h).1
 have sI:k<x.size:=by simpa using hk
 have hb:x[k]? =some c:=by
  have h1:x.data[k]? =some c:=by simpa using h
  obtain⟨h2,h3⟩:=uI.1 h1
  rw[getElem?_pos x k sI]
  exact gX some h3
 simp only[zJ]
 rw[sP sI]
 simp only[dI,hb,dJ]
theorem atu {x:List UInt8} {k:Nat} {c:UInt8} (h:x[k]? =some c):rK k (x.drop k)=(nameAt k c&&rK (k+1) (x.drop (k+1))):=abp h
theorem Vx {x:ByteArray} (hx:(x.size:Int)<9223372036854775808):aw AP (.fn 140) [S x] s=some (B (isName x),s):=by
 have cj:x.data.size=x.size:=rfl
 have hl:x.data.toList.length=x.size:=by simp[cj]
 have key:∀k ρ m,k≤x.size→(ρ 0=S x∧ρ 3=I k∧m=s.push ⟨[],[]⟩)→go AP XW (.c (.loop D2)::aaC) ⟨ρ,m⟩=some (B (rK k (x.data.toList.drop k)),s):=by
  refine bA x.size _ _ ?_ ?_
  ·rintro k ρ m hk ⟨h0,h3,rfl⟩ ih
   obtain⟨c,hc⟩:=get_some (l:=x.data.toList) (k:=k) (by omega)
   have hr:=ixs hc
   rw[atu hc,abo]
   have eQ:∀(ρ':Nat→AV),ρ' 0=S x→ρ' 3=I ((k+1:Nat):Int)→go AP XW (.c (.loop D2)::aaC) ⟨ρ',s.push ⟨[],[]⟩⟩=some (B (rK (k+1) (List.drop (k+1) x.data.toList)),s):=fun ρ' a b=>ih ρ' _ ⟨a,b,rfl⟩
   simp only[go_sem,D2,h0,h3,aL hk,hr,bh hk hx,simprocAttr]
   simp only[bV,Qn]
   have e8:decide ((c.toNat:Int)<48)=!decide ((48:Int)≤(c.toNat:Int)):=dec_lt _ _
   have e9:decide ((57:Int)<(c.toNat:Int))=!decide ((c.toNat:Int)≤57):=dec_lt _ _
   rw[e8,e9]
   generalize decide ((97:Int)≤(c.toNat:Int))=a1
   generalize decide ((c.toNat:Int)≤122)=a2
   generalize decide ((65:Int)≤(c.toNat:Int))=a3
   generalize decide ((c.toNat:Int)≤90)=a4
   generalize decide ((c.toNat:Int)=45)=a5
   generalize decide ((48:Int)≤(c.toNat:Int))=a6
   generalize decide ((c.toNat:Int)≤57)=a7
   generalize decide ((k:Int)=0)=a8
   generalize rK (k+1) (List.drop (k+1) x.data.toList)=nf at*
   cases a1<;>cases a2<;>cases a3<;>cases a4<;>cases a5<;>cases a6<;>cases a7<;>cases a8<;>first
    |rfl
    |exact eQ _ h0 rfl
  ·rintro ρ m ⟨h0,h3,rfl⟩
   simp only[go_sem,D2,Ow,h0,h3,bg,simprocAttr]
   rw[←hl,fe];rfl
 rw[aG (show AP 140=some E4 from rfl) rfl]
 have e1:decide ((x.size:Int)<1)=!decide (1≤x.size):=qa (by omega)
 have e2:decide ((12:Int)<(x.size:Int))=!decide (x.size≤12):=qa (by omega)
 simp only[go_sem,VB,e1,e2,simprocAttr]
 unfold isName
 cases decide (1≤x.size)with
 |false=>simp only[go_sem,l8,lr,simprocAttr]<;>rfl
 | true =>
  cases decide (x.size≤12)with
  |false=>simp only[go_sem,l8,Am,simprocAttr]<;>rfl
  |true=>
   simp only[go_sem,Am,simprocAttr]
   exact key 0 _ _ (aV _) ⟨rfl,rfl,rfl⟩
theorem Aa {n x y:Int} {o1 o2:Own} {e1 e2:Nat} {r1 r2:List (List AV)} (hs:Ok s) (hn:1≤n) (dK:n≤200):aw AP (.fn 141) [.agg [I n,.slice o1 e1 r1,.slice o2 e2 r2],.agg [I x,I y]] s=some (I (j7 n x y),s):=by
 rw[aG (show AP 141=some FA from rfl) rfl]
 have e:decide (y<x)=!decide (x≤y):=dec_lt _ _
 simp only[go_sem,VX,gA,bq (x:=n-1) (by omega) (by omega),e,simprocAttr]
 unfold j7
 cases wi x 0 (n-1)<;>cases wi y 0 (n-1)<;>by_cases h:x≤y<;>simp only[go_sem,h,simprocAttr]<;>simp
theorem awm {n:Int} {as:List A} {o1 o2:Own} {e2:Nat} {rs:List (List AV)} {k:Nat} {a:A} (hs:Ok s) (Hh:a.cl.l=[]∨a.cl.e=2) (hn:1≤n) (dK:n≤200) (ha:as[k]? =some a) (cj:(a.name.size:Int)<9223372036854775808) (hl:as.length≤4) (aQ:(a.cl.l.length:Int)<9223372036854775808):
  aw AP (.fn 93) [.agg [I n,.slice o1 3 (as.map bR),.slice o2 e2 rs],I k] s=some (I (lC n as k a),s):=by
 have hk:k<as.length:=(bI.1 ha).1
 obtain⟨name,je,⟨oc,ec,cl⟩⟩:=a
 have bf:=cz (f:=bR) (o:=o1) (es:=3) ha
 have qu:∀{m:ae},aw AP (.fn 140) [S name] m=some (B (isName name),m):=Vx cj
 have h6:decide ((6:Int)<(cl.length:Int))=!decide (cl.length≤6):=qa (by omega)
 have k2:∀(j:Nat) ρ m,j≤cl.length→(ρ 2=.ptr s.ag.length 0 0∧ρ 5=.ptr s.ag.length 1 0∧ρ 7=I j∧m=s.push ⟨[[I n,.slice o1 3 (as.map bR),.slice o2 e2 rs],[S name,I je,.slice oc ec (cl.map dM)]],[]⟩)→
   go AP X2 (.c (.loop Eh)::aq1) ⟨ρ,m⟩=some (I (sb n (cl.drop j)),s):=by
  refine bA cl.length _ _ ?_ ?_
  ·rintro j ρ m hj ⟨g2,g5,g7,rfl⟩ ih
   obtain⟨p,hp⟩:=get_some hj
   have cS:ec=2:=by rcases Hh with h|h;(simp only at h;rw[h]at hp;simp at hp);exact h
   subst cS
   have hr:=cz (f:=dM) (o:=oc) (es:=2) hp
   rw[gO hp,sb]
   by_cases h0:j7 n p.1 p.2=0
   ·simp only[go_sem,Eh,g2,g5,g7,aL hj,hr,Aa (hs.push _) hn dK,h0,bV,gI,bh hj aQ,simprocAttr]
    exact ih _ _ ⟨g2,g5,rfl,rfl⟩
   ·simp only[go_sem,Eh,g2,g5,g7,aL hj,hr,Aa (hs.push _) hn dK,h0,bV,j3,simprocAttr]
  ·rintro ρ m ⟨g2,g5,g7,rfl⟩
   simp only[go_sem,Eh,OU,g5,g7,bg,simprocAttr]
   rw[fe];rfl
 have k1:∀(j:Nat) ρ m,j≤k→(ρ 1=I k∧ρ 2=.ptr s.ag.length 0 0∧ρ 5=.ptr s.ag.length 1 0∧ρ 6=I j∧((as.take j).any fun b=>decide (b.name=name))=false∧m=s.push ⟨[[I n,.slice o1 3 (as.map bR),.slice o2 e2 rs],[S name,I je,.slice oc ec (cl.map dM)]],[]⟩)→
   go AP X2 (.c (.loop yB)::aq2) ⟨ρ,m⟩=some (I (if((as.take k).any fun b=>decide (b.name=name))=true then 5 else if wi je 0 50=true then(if cl.length≤6 then sb n cl else 8)else 2),s):=by
  refine bA k _ _ ?_ ?_
  ·rintro j ρ m hj ⟨g1,g2,g5,g6,kE,rfl⟩ ih
   obtain⟨b,hb⟩:=get_some (l:=as) (k:=j) (by omega)
   have hr:=cz (f:=bR) (o:=o1) (es:=3) hb
   by_cases he:b.name=name
   ·have:((as.take k).any fun b=>decide (b.name=name))=true:=by
     rw[fc]
     refine⟨b,?_,by simpa using he⟩
     exact bE (i:=j) (by rw[wI,aj hj];exact hb)
    rw[aj this]
    simp only[go_sem,yB,g1,g2,g5,g6,aL hj,hr,he,simprocAttr]
   ·have hd:decide (b.name=name)=false:=bX he
    simp only[go_sem,yB,g1,g2,g5,g6,aL hj,hr,hd,bh hj (show(k:Int)<_ by omega),simprocAttr]
    refine ih _ _ ⟨g1,g2,g5,rfl,?_,rfl⟩
    rw[du hb,tn,kE];simp[he]
  ·rintro ρ m ⟨g1,g2,g5,g6,kE,rfl⟩
   rw[kE,ak (by simp)]
   cases eK:wi je 0 50 with
   |false=>simp only[go_sem,yB,Ei,g1,g5,g6,bg,gA,eK,simprocAttr]<;>rfl
   | true =>
    by_cases LS:cl.length≤6
    ·have hd:decide (cl.length≤6)=true:=bS LS
     simp only[go_sem,yB,Ei,g1,g5,g6,bg,gA,eK,h6,hd,simprocAttr]
     refine(k2 0 _ _ (aV _) ?_).trans ?_
     ·exact⟨g2,g5,rfl,rfl⟩
     ·rw[aj LS,iK]
    ·have hd:decide (cl.length≤6)=false:=bX LS
     simp only[go_sem,yB,Ei,g1,g5,g6,bg,gA,eK,h6,hd,simprocAttr]
     rw[ak LS]
 rw[aG (show AP 93=some Fu from rfl) rfl]
 unfold lC
 simp only
 cases hi:isName name with
 |false=>simp only[go_sem,OT,hs,bf,qu,hi,simprocAttr]<;>rfl
 |true=>
  simp only[go_sem,OT,hs,bf,qu,hi,simprocAttr]
  exact k1 0 _ _ (aV _) ⟨rfl,rfl,rfl,rfl,by simp,rfl⟩
theorem afo {n last:Int} {l:List Int} {k:Nat} {a:Int} (h:l[k]? =some a):kT n last (l.drop k)=if wi a 0 (n-1)=true then(if last<a then kT n a (l.drop (k+1))else 9)else 6:=by
 rw[gO h];rfl
theorem awq {n:Int} {as:List (List AV)} {r:R} {o1 o2:Own} {e1 e2:Nat} {rs:List (List AV)} (hs:Ok s) (nb:r.an.l=[]∨r.an.e=1) (hn:1≤n) (dK:n≤200) (cj:(r.cr.size:Int)<9223372036854775808) (hl:as.length≤4) (aQ:(r.an.l.length:Int)<9223372036854775808):
  aw AP (.fn 94) [.agg [I n,.slice o1 e1 as,.slice o2 e2 rs],.agg (aS r)] s=some (I (l4 n as.length r),s):=by
 obtain⟨cr,lo,hi,len,val,⟨oa,ea,an⟩,need⟩:=r
 have qu:∀{m:ae},aw AP (.fn 140) [S cr] m=some (B (isName cr),m):=Vx cj
 have HL:IntKind.i64.wrap ((as.length:Int)-1)=(as.length:Int)-1:=bq (by omega) (by omega)
 have Zf:(an.length:Int)<9223372036854775808:=aQ
 have key : ∀ (j : Nat) ρ m, j ≤ an.length → (ρ 2 = .ptr s.ag.length 0 0 ∧ ρ 3 = .ptr s.ag.length 1 0 ∧ ρ 6 = I j ∧ (∃ last, kT (as.length : Nat) (-1) an = kT (as.length : Nat) last (an.drop j) ∧ (j = 0 → last = -1) ∧ ∀ i x, j = i + 1 → an[i]? = some x → last = x) ∧ m = s.push ⟨[[I n, .slice o1 e1 as, .slice o2 e2 rs], [S cr, I lo, I hi, I len, I val, .slice oa ea (an.map aC), I need]], []⟩) →
   go AP X5 (.c (.loop w7)::aaE) ⟨ρ,m⟩=some (I (if kT (as.length:Nat) (-1) an=0 then(if wi need 1 an.length=true then 0 else 2)else kT (as.length:Nat) (-1) an),s):=by
  refine bA an.length _ _ ?_ ?_
  ·rintro j ρ m hj ⟨g2,g3,g6,⟨last,hL,hL0,hL1⟩,rfl⟩ ih
   obtain⟨x,hx⟩:=get_some hj
   have cS:ea=1:=by rcases nb with h|h;(simp only at h;rw[h]at hx;simp at hx);exact h
   subst cS
   have hr:=cz (f:=aC) (o:=oa) (es:=1) hx
   rw[afo hx]at hL
   have ja:=bh hj aQ
   cases eK:wi x 0 ((as.length:Int)-1)with
   |false=>
    rw[eK,ak (by simp)]at hL
    rw[hL]
    simp only[go_sem,w7,g2,g3,g6,aL hj,hr,gA,HL,eK,simprocAttr]
   | true =>
    rw[eK,aj rfl]at hL
    have eQ:last<x→∀ρ' m',(ρ' 2=.ptr s.ag.length 0 0∧ρ' 3=.ptr s.ag.length 1 0∧ρ' 6=I ((j+1:Nat):Int)∧m'=s.push ⟨[[I n,.slice o1 e1 as,.slice o2 e2 rs],[S cr,I lo,I hi,I len,I val,.slice oa 1 (an.map aC),I need]],[]⟩)→
      go AP X5 (.c (.loop w7)::aaE) ⟨ρ',m'⟩=some (I (if kT (as.length:Nat) (-1) an=0 then(if wi need 1 an.length=true then 0 else 2)else kT (as.length:Nat) (-1) an),s):=by
     intro CA
     rintro ρ' m' ⟨k2,k3,k6,rfl⟩
     rw[aj CA]at hL
     refine ih ρ' _ ⟨k2,k3,k6,⟨x,hL,fun h=>by omega,fun i y hi hy=>?_⟩,rfl⟩
     have:i=j:=by omega
     subst this
     rw[hx]at hy;injection hy
    cases j with
    |zero=>
     have pC:=hL0 rfl
     subst pC
     have nU:=(gy.1 eK).1
     have iF:gR none 1 (.slice oa 1 (an.map aC)) (I 0)=some (.bd (aC x) 0):=hr
     have Ry:decide ((0:Int)<(an.length:Int))=true:=bS (by omega)
     simp only[go_sem,w7,g2,g3,g6,Ry,iF,gA,HL,eK,fY,simprocAttr]
     refine eQ (by omega) _ _ ?_
     exact⟨g2,g3,rfl,rfl⟩
    | succ i =>
     obtain⟨y,hy⟩:=get_some (l:=an) (k:=i) (by omega)
     have pC:=hL1 i y rfl hy
     subst pC
     have j0:=cz (f:=aC) (o:=oa) (es:=1) hy
     have hd:decide ((0:Int)<((i+1:Nat):Int))=true:=bS (by omega)
     have xZ:IntKind.i64.wrap (((i+1:Nat):Int)-1)=((i:Nat):Int):=by rw[bq]<;>omega
     have lN:decide (x≤last)=!decide (last<x):=qa (by omega)
     by_cases CA:last<x
     ·have zk:decide (last<x)=true:=bS CA
      simp only[go_sem,w7,g2,g3,g6,aL hj,hr,j0,gA,HL,eK,hd,xZ,lN,zk,ja,simprocAttr]
      refine eQ CA _ _ ?_
      exact⟨g2,g3,rfl,rfl⟩
     ·have zk:decide (last<x)=false:=bX CA
      rw[ak CA]at hL
      rw[hL]
      simp only[go_sem,w7,g2,g3,g6,aL hj,hr,j0,gA,HL,eK,hd,xZ,lN,zk,simprocAttr]
  ·rintro ρ m ⟨g2,g3,g6,⟨last,hL,_,_⟩,rfl⟩
   rw[fe]at hL
   have hL':kT (as.length:Nat) (-1) an=0:=hL
   rw[hL',aj rfl]
   cases eK:wi need 1 (an.length:Nat)<;>simp only[go_sem,w7,O0,g3,g6,bg,gA,eK,simprocAttr]<;>rfl
 rw[aG (show AP 94=some Fy from rfl) rfl]
 unfold l4
 simp only
 cases kA:isName cr with
 |false=>simp only[go_sem,yC,qu,kA,simprocAttr]<;>rfl
 | true =>
  by_cases h2:j7 n lo hi=0
  ·have hb:=TP h2
   have w1:IntKind.i64.wrap (hi-lo)=hi-lo:=bq (by omega) (by omega)
   have w2:IntKind.i64.wrap (hi-lo+1)=hi-lo+1:=bq (by omega) (by omega)
   rw[aj rfl,h2,aj rfl]
   cases h3:wi len 1 (hi-lo+1)with
   |false=>simp only[go_sem,yC,qu,kA,Aa (hs.push _) hn dK,h2,bV,gI,w1,w2,gA,h3,lr,simprocAttr]<;>rfl
   | true =>
    cases h4:wi val 0 100000 with
    |false=>simp only[go_sem,yC,qu,kA,Aa (hs.push _) hn dK,h2,bV,gI,w1,w2,gA,h3,h4,l8,simprocAttr]<;>rfl
    | true =>
     rw[Al,aj rfl]
     cases an with
     |nil=>
      rw[aj rfl]
      simp only[go_sem,yC,qu,kA,Aa (hs.push _) hn dK,h2,bV,gI,w1,w2,gA,h3,h4,fY,simprocAttr]
     |cons a t=>
      rw[ak (by simp)]
      have hd:decide ((((a::t).length:Nat):Int)=0)=false:=bX (by simp;omega)
      generalize hg:a::t=q at*
      simp only[go_sem,yC,qu,kA,Aa (hs.push _) hn dK,h2,bV,gI,w1,w2,gA,h3,h4,hd,simprocAttr]
      exact key 0 _ _ (aV _) ⟨rfl,rfl,rfl,⟨-1,rfl,fun _=>rfl,fun i x h=>by omega⟩,rfl⟩
  ·rw[aj rfl,ak h2]
   simp only[go_sem,yC,qu,kA,Aa (hs.push _) hn dK,h2,bV,j3,simprocAttr]
end
structure W.qL (w:W):Prop where
 as:(w.as.l.length:Int)<9223372036854775808
 rs:(w.rs.l.length:Int)<9223372036854775808
 name:∀a∈w.as.l,(a.name.size:Int)<9223372036854775808
 cl:∀a∈w.as.l,(a.cl.l.length:Int)<9223372036854775808
 cr:∀r∈w.rs.l,(r.cr.size:Int)<9223372036854775808
 an:∀r∈w.rs.l,(r.an.l.length:Int)<9223372036854775808
def Le (a:A):Bool:=decide (a.name.size≤20)&&decide (a.cl.l.length≤8)
def GR (r:R):Bool:=decide (r.cr.size≤20)&&decide (r.an.l.length≤6)
def y3 (w:W):Bool:=(decide (w.as.l.length≤6)&&decide (w.rs.l.length≤14))&&(w.as.l.all Le&&w.rs.l.all GR)
theorem Yh {w:W} (h:y3 w=true):w.jT:=by
 simp only[y3,Le,GR,dE,fB,jh]at h
 obtain⟨⟨h1,h2⟩,h3,h4⟩:=h
 exact⟨h1,h2,fun a ha=>(h3 a ha).1,fun a ha=>(h3 a ha).2,fun r hr=>(h4 r hr).1,fun r hr=>(h4 r hr).2⟩
theorem AJ {α:Type} {p:α→Bool} {l:List α} {k:Nat} {x:α} (h:l[k]? =some x):(l.drop k).all p=(p x&&(l.drop (k+1)).all p):=by
 rw[gO h,tm]
def Qk (l:List (Int×Int)):Sl (Int×Int):=⟨xo (l.map dM),2,l⟩
theorem XC {l:List (Int×Int)}:(Qk l).ok 2:=by
 refine⟨.inr rfl,?_⟩
 cases l
 ·exact .inr (.inl rfl)
 ·exact .inl rfl
def cA (a:A):A:={a with cl:=Qk a.cl.l}
def cR (r:R):R:={r with an:=fg r.an.l}
def cW (w:W):W:=⟨w.bm,fJ 3 (w.as.l.map cA),fJ 7 (w.rs.l.map cR)⟩
theorem r8 {w:W}:(cW w).as.l=w.as.l.map cA:=me
theorem va {w:W}:(cW w).rs.l=w.rs.l.map cR:=me
theorem Bf {w:W}:(cW w).Ok:=by
 refine⟨wU,fun a ha=>?_,wU,fun r hr=>?_⟩
 ·rw[r8]at ha;obtain⟨b,_,rfl⟩:=cN.1 ha;exact XC
 ·rw[va]at hr;obtain⟨b,_,rfl⟩:=cN.1 hr;exact xq
theorem Be {w:W} (h:w.jT):(cW w).jT:=by
 refine⟨by rw[r8,cg];exact h.as,by rw[va,cg];exact h.rs,fun a ha=>?_,fun a ha=>?_,fun r hr=>?_,fun r hr=>?_⟩
 ·rw[r8]at ha;obtain⟨b,hb,rfl⟩:=cN.1 ha;exact h.name b hb
 ·rw[r8]at ha;obtain⟨b,hb,rfl⟩:=cN.1 ha;exact h.cl b hb
 ·rw[va]at hr;obtain⟨b,hb,rfl⟩:=cN.1 hr;exact h.cr b hb
 ·rw[va]at hr;obtain⟨b,hb,rfl⟩:=cN.1 hr;exact h.an b hb
theorem Yo {α β:Type} {f:Nat→β→Int} {g:α→β}:∀{l:List α} {k:Nat},fT f k (l.map g)=fT (fun i x=>f i (g x)) k l
 |[],_=>rfl
 |a::r,k=>by simp only[fR,fT,Yo (l:=r)]
theorem afm {n:Int} {as:List A} {k:Nat} {a:A}:lC n (as.map cA) k (cA a)=lC n as k a:=by
 unfold lC
 have:(((as.map cA).take k).any fun b=>decide (b.name=(cA a).name))=((as.take k).any fun b=>decide (b.name=a.name)):=by
  rw[←I5,IV];rfl
 rw[this];rfl
theorem Dt {w:W}:cM (cW w)=cM w:=by
 unfold cM
 simp only[r8,va,cg,Yo,afm]
 rfl
section
variable{s:ae} {w:W}
theorem awg {w:W} (hs:Ok s) (hw:w.Ok) (hf:w.jT):aw AP (.fn 58) [w.v] s=some (MK (cM w),s):=by
 obtain⟨n,⟨o1,e1,as⟩,⟨o2,e2,rs⟩⟩:=w
 have h4:decide ((4:Int)<(as.length:Int))=!decide (as.length≤4):=qa (by omega)
 have dZ:decide ((12:Int)<(rs.length:Int))=!decide (rs.length≤12):=qa (by omega)
 rw[aG (show AP 58=some Fj from rfl) rfl]
 unfold cM
 simp only
 cases hn:wi n 1 200 with
 |false=>simp only[go_sem,D6,hs,gA,hn,simprocAttr]<;>rfl
 | true =>
  have iV:=gy.1 hn
  by_cases sy:as.length≤4
  case neg=>
   have hd:decide (as.length≤4)=false:=bX sy
   simp only[go_sem,D6,hs,gA,hn,h4,hd,simprocAttr]
   rw[ak (fun h=>sy h.1)]
  by_cases zD:rs.length≤12
  case neg=>
   have hd:decide (as.length≤4)=true:=bS sy
   have lN:decide (rs.length≤12)=false:=bX zD
   simp only[go_sem,D6,hs,gA,hn,h4,dZ,hd,lN,simprocAttr]
   rw[ak (fun h=>zD h.2)]
  have hd:decide (as.length≤4)=true:=bS sy
  have lN:decide (rs.length≤12)=true:=bS zD
  rw[aj rfl,aj ⟨sy,zD⟩]
  have k2:∀j ρ m,j≤rs.length→(ρ 1=.ptr s.ag.length 0 0∧ρ 2=.ptr s.ag.length 1 0∧ρ 6=I j∧m=s.push ⟨[[I n,.slice o1 e1 (as.map bR),.slice o2 e2 (rs.map aS)],[I 0,I 0]],[]⟩)→
    go AP XZ (.c (.loop D7)::aqN) ⟨ρ,m⟩=some (MK (match fT (fun _ r=>l4 n as.length r) j (rs.drop j)with|some (k,e)=>(2,k,e)|none=>(0,0,0)),s):=by
   refine bA rs.length _ _ ?_ ?_
   ·rintro j ρ m hj ⟨h1,h2,h6,rfl⟩ ih
    obtain⟨x,hx⟩:=get_some hj
    have dk:=bE hx
    have cS:e2=7:=by rcases hw.rs.1 with h|h;(simp only at h;rw[h]at hx;simp at hx);exact h
    subst cS
    have hr:=cz (f:=aS) (o:=o2) (es:=7) hx
    have m1:=hf.cr x dk
    have m2:=hf.an x dk
    have hq:∀r,aw AP (.fn 94) [.agg [I n,.slice o1 e1 (as.map bR),.slice o2 7 (rs.map aS)],.agg [S x.cr,I x.lo,I x.hi,I x.len,I x.val,.slice x.an.o x.an.e (x.an.l.map aC),I x.need]] (s.push r)=some (I (l4 n as.length x),s.push r):=fun r=>by
     have:=awq (s:=s.push r) (n:=n) (as:=as.map bR) (r:=x) (o1:=o1) (e1:=e1) (o2:=o2) (e2:=7) (rs:=rs.map aS) (hs.push _) (hw.an x dk).1 iV.1 iV.2 (by omega) (by rw[cg];exact sy) (by omega)
     rw[cg]at this
     exact this
    rw[xA hx]
    by_cases h0:l4 n as.length x=0
    ·simp only[go_sem,D7,h1,h6,aL hj,hr,hq,h0,bV,gI,bh hj (show(rs.length:Int)<_ by omega),simprocAttr]
     refine ih _ _ ?_
     exact⟨h1,h2,rfl,rfl⟩
    ·simp only[go_sem,D7,h1,h2,h6,hs,aL hj,hr,hq,h0,bV,j3,simprocAttr]
   ·rintro ρ m ⟨h1,h2,h6,rfl⟩
    simp only[go_sem,D7,OE,h1,h2,h6,hs,bg,simprocAttr]
    rw[fe];rfl
  have k1:∀j ρ m,j≤as.length→(ρ 1=.ptr s.ag.length 0 0∧ρ 2=.ptr s.ag.length 1 0∧ρ 4=I j∧m=s.push ⟨[[I n,.slice o1 e1 (as.map bR),.slice o2 e2 (rs.map aS)],[I 0,I 0]],[]⟩)→
    go AP XZ (.c (.loop D8)::aqO) ⟨ρ,m⟩=some (MK (match fT (lC n as) j (as.drop j)with|some (k,e)=>(1,k,e)|none=>match fT (fun _ r=>l4 n as.length r) 0 rs with|some (k,e)=>(2,k,e)|none=>(0,0,0)),s):=by
   refine bA as.length _ _ ?_ ?_
   ·rintro j ρ m hj ⟨h1,h2,B9,rfl⟩ ih
    obtain⟨x,hx⟩:=get_some hj
    have dk:=bE hx
    have cS:e1=3:=by rcases hw.as.1 with h|h;(simp only at h;rw[h]at hx;simp at hx);exact h
    subst cS
    have m1:=hf.name x dk
    have m2:=hf.cl x dk
    have hq:∀r,aw AP (.fn 93) [.agg [I n,.slice o1 3 (as.map bR),.slice o2 e2 (rs.map aS)],I j] (s.push r)=some (I (lC n as j x),s.push r):=fun r=>awm (hs.push _) (hw.cl x dk).1 iV.1 iV.2 hx (by omega) sy (by omega)
    rw[xA hx]
    by_cases h0:lC n as j x=0
    ·simp only[go_sem,D8,h1,B9,aL hj,hq,h0,bV,gI,bh hj (show(as.length:Int)<_ by omega),simprocAttr]
     refine ih _ _ ?_
     exact⟨h1,h2,rfl,rfl⟩
    ·simp only[go_sem,D8,h1,h2,B9,hs,aL hj,hq,h0,bV,j3,simprocAttr]
   ·rintro ρ m ⟨h1,h2,B9,rfl⟩
    simp only[go_sem,D8,OF,h1,B9,bg,simprocAttr]
    rw[fe]
    refine(k2 0 _ _ (aV _) ?_).trans rfl
    exact⟨h1,h2,rfl,rfl⟩
  simp only[go_sem,D6,gA,hn,h4,dZ,hd,lN,simprocAttr]
  refine(k1 0 _ _ (aV _) ?_).trans rfl
  exact⟨rfl,rfl,rfl,rfl⟩
theorem acE (hs:Ok s) (hw:w.Ok) (hf:w.jT):aw AP (.fn 26) [w.v] s=some (I (cM w).2.2,s):=by
 have hc:∀r,aw AP (.fn 58) [w.v] (s.push r)=some (MK (cM w),s.push r):=fun r=>awg (hs.push r) hw hf
 rw[aG (show AP 26=some Fs from rfl) rfl]
 simp only[W.v,aW,Sl.v]at hc
 simp only[go_sem,VT,hs,hc,simprocAttr]
theorem ar8 (hs:Ok s) (hw:w.Ok) (hb:w.qL):aw AP (.fn 24) [w.v] s=some (B (y3 w),s):=by
 obtain⟨n,⟨o1,e1,as⟩,⟨o2,e2,rs⟩⟩:=w
 have h6:decide ((6:Int)<(as.length:Int))=!decide (as.length≤6):=qa (by omega)
 have sk:decide ((14:Int)<(rs.length:Int))=!decide (rs.length≤14):=qa (by omega)
 rw[aG (show AP 24=some Fb from rfl) rfl]
 unfold y3
 simp only
 by_cases ha:as.length≤6
 case neg=>
  have hd:decide (as.length≤6)=false:=bX ha
  simp only[go_sem,JC,h6,hd,lr,simprocAttr]
 by_cases hr:rs.length≤14
 case neg=>
  have hd:decide (as.length≤6)=true:=bS ha
  have lN:decide (rs.length≤14)=false:=bX hr
  simp only[go_sem,JC,h6,sk,hd,lN,lr,l8,simprocAttr]
 have hd:decide (as.length≤6)=true:=bS ha
 have lN:decide (rs.length≤14)=true:=bS hr
 have k2:∀j ρ m,j≤rs.length→(ρ 1=.ptr s.ag.length 0 0∧ρ 4=I j∧m=s.push ⟨[[I n,.slice o1 e1 (as.map bR),.slice o2 e2 (rs.map aS)]],[]⟩)→
   go AP XY (.c (.loop AW)::aqK) ⟨ρ,m⟩=some (B ((rs.drop j).all GR),s):=by
  refine bA rs.length _ _ ?_ ?_
  ·rintro j ρ m hj ⟨h1,h4,rfl⟩ ih
   obtain⟨x,hx⟩:=get_some hj
   have dk:=bE hx
   have cS:e2=7:=by rcases hw.rs.1 with h|h;(simp only at h;rw[h]at hx;simp at hx);exact h
   subst cS
   have bf:=cz (f:=aS) (o:=o2) (es:=7) hx
   have q1:decide ((20:Int)<(x.cr.size:Int))=!decide (x.cr.size≤20):=qa (by omega)
   have q2:decide ((6:Int)<(x.an.l.length:Int))=!decide (x.an.l.length≤6):=qa (by omega)
   have cj:x.cr.data.size=x.cr.size:=rfl
   have ja:=bh hj (show(rs.length:Int)<_ by omega)
   rw[AJ hx]
   unfold GR
   cases c1:decide (x.cr.size≤20)with
   |false=>simp only[go_sem,AW,h1,h4,aL hj,bf,q1,c1,lr,simprocAttr]
   | true =>
    cases c2:decide (x.an.l.length≤6)with
    |false=>simp only[go_sem,AW,h1,h4,aL hj,bf,q1,q2,c1,c2,lr,l8,simprocAttr]
    |true=>
     simp only[go_sem,AW,h1,h4,aL hj,bf,q1,q2,c1,c2,ja,simprocAttr]
     refine(ih _ _ ?_).trans ?_
     ·exact⟨h1,rfl,rfl⟩
     ·rfl
  ·rintro ρ m ⟨h1,h4,rfl⟩
   simp only[go_sem,AW,OB,h1,h4,bg,simprocAttr]
   rw[fe];rfl
 have k1:∀j ρ m,j≤as.length→(ρ 1=.ptr s.ag.length 0 0∧ρ 3=I j∧m=s.push ⟨[[I n,.slice o1 e1 (as.map bR),.slice o2 e2 (rs.map aS)]],[]⟩)→
   go AP XY (.c (.loop AX)::aqL) ⟨ρ,m⟩=some (B ((as.drop j).all Le&&rs.all GR),s):=by
  refine bA as.length _ _ ?_ ?_
  ·rintro j ρ m hj ⟨h1,h3,rfl⟩ ih
   obtain⟨x,hx⟩:=get_some hj
   have dk:=bE hx
   have cS:e1=3:=by rcases hw.as.1 with h|h;(simp only at h;rw[h]at hx;simp at hx);exact h
   subst cS
   have bf:=cz (f:=bR) (o:=o1) (es:=3) hx
   have q1:decide ((20:Int)<(x.name.size:Int))=!decide (x.name.size≤20):=qa (by omega)
   have q2:decide ((8:Int)<(x.cl.l.length:Int))=!decide (x.cl.l.length≤8):=qa (by omega)
   have cj:x.name.data.size=x.name.size:=rfl
   have ja:=bh hj (show(as.length:Int)<_ by omega)
   rw[AJ hx]
   unfold Le
   cases c1:decide (x.name.size≤20)with
   |false=>simp only[go_sem,AX,h1,h3,aL hj,bf,q1,c1,lr,simprocAttr]
   | true =>
    cases c2:decide (x.cl.l.length≤8)with
    |false=>simp only[go_sem,AX,h1,h3,aL hj,bf,q1,q2,c1,c2,lr,l8,simprocAttr]
    |true=>
     simp only[go_sem,AX,h1,h3,aL hj,bf,q1,q2,c1,c2,ja,simprocAttr]
     refine(ih _ _ ?_).trans ?_
     ·exact⟨h1,rfl,rfl⟩
     ·rfl
  ·rintro ρ m ⟨h1,h3,rfl⟩
   simp only[go_sem,AX,OC,h1,h3,bg,simprocAttr]
   rw[fe]
   refine(k2 0 _ _ (aV _) ?_).trans rfl
   exact⟨h1,rfl,rfl⟩
 simp only[go_sem,JC,h6,sk,hd,lN,Al,simprocAttr]
 refine(k1 0 _ _ (aV _) ?_).trans ?_
 ·exact⟨rfl,rfl,rfl⟩
 ·rfl
theorem aga {l:List (Int×Int)} {o:Own} {e:Nat} (hs:Ok s) (he:l=[]∨e=2) (hl:l.length≤4294967296):aw AP (.fn 30) [.slice o e (l.map dM)] s=some (.slice (xo (l.map dM)) 2 (l.map dM),s):=by
 rw[aG (show AP 30=some E2 from rfl) rfl]
 rcases he with h|h
 ·subst h
  simp only[go_sem,Ou,et,UC,simprocAttr]
  rfl
 ·subst h
  obtain⟨x',t',h1,h2⟩:=ahW (s:=s) (r:=⟨[],[]⟩) (es:=2) (x:=.slice o 2 (l.map dM)) (xs:=l.map dM) (o:=o) rfl (by simpa using hl)
  simp only[go_sem,Ou,h1,h2,simprocAttr]
theorem Acc.ext {d es:Nat} {xs:List (List AV)} {x:AV} {og:Option Nat} {tk tk':List (Option Nat)} (h:Acc d es xs x og tk) (hx:∀(g:Nat) (n:Option Nat),tk[g]? =some n→tk'[g]? =some n):Acc d es xs x og tk':=by
 cases og with
 |none=>exact h
 |some g=>exact⟨h.1,h.2.1,hx g _ h.2.2⟩
theorem Vw {Q:ae} {l:List Int} {o:Own} {e:Nat} {tk:List (Option Nat)} (hQ:Ok Q) (he:l=[]∨e=1) (hl:l.length≤4294967296):
  ∃oo tk',(∀bx,aw AP (.fn 31) [.slice o e (l.map aC)] (Q.push ⟨bx,tk⟩)=some (.slice oo 1 (l.map aC),Q.push ⟨bx,tk'⟩))∧(AV.slice oo 1 (l.map aC)).close=some ((fg l).v aC)∧(∀(g:Nat) (n:Option Nat),tk[g]? =some n→tk'[g]? =some n)∧(l=[]→oo=.full)∧(l≠[]→oo=.tok Q.ag.length tk.length∧tk'=tk++[some l.length]):=by
 cases fm:l with
 |nil=>
  refine⟨.full,tk,fun bx=>?_,rfl,fun _ _ h=>h,fun _=>rfl,fun h=>absurd rfl h⟩
  rw[aG (show AP 31=some xf from rfl) rfl]
  simp only[go_sem,D0,et,UC,simprocAttr]
  show some (_,((Q.push ⟨bx,tk⟩).push ⟨[],[]⟩).pop)=_
  rw[pop_push]
 | cons a q =>
  rw[←fm]
  have hn:l≠[]:=by rw[fm];simp
  have ku:e=1:=by rcases he with h|h;exact absurd h hn;exact h
  subst ku
  refine⟨.tok Q.ag.length tk.length,tk++[some l.length],fun bx=>?_,by rw[fm];rfl,fun g n h=>?_,fun h=>absurd h hn,fun _=>⟨rfl,rfl⟩⟩
  ·have hlen:(Q.push ⟨bx,tk⟩).ag.length=Q.ag.length+1:=by simp[ae.push]
   have ha:et ((Q.push ⟨bx,tk⟩).push ⟨[],[]⟩) 1 (.slice .full 1 []) (.slice o 1 (l.map aC))=some (.slice (.tok (Q.ag.length+1) 0) 1 (l.map aC),(Q.push ⟨bx,tk⟩).push ⟨[],[some l.length]⟩):=by
    have h3:=pO (Q.push ⟨bx,tk⟩) ⟨[],[]⟩
    have h4:=oC (Q.push ⟨bx,tk⟩) ⟨[],[]⟩ l.length
    rw[hlen]at h3 h4
    have h5:((Q.push ⟨bx,tk⟩).push ⟨[],[]⟩).cur=Q.ag.length+1:=by rw[gD,hlen]
    simp[et,Own.isNil,dD,hl,hn,h3,h4,h5]
   have nO:=MY (Q:=Q) (R:=⟨bx,tk⟩) (r0:=⟨[],[some l.length]⟩) (g:=0) (es:=1) (xs:=l.map aC) hQ (by simp)
   rw[aG (show AP 31=some xf from rfl) rfl]
   simp only[go_sem,D0,ha,simprocAttr]
   exact nO.trans (by rw[cg])
  ·have:=(bI.1 h).1
   rw[dG this];exact h
theorem awi (hs:Ok s) (hw:w.Ok) (hf:w.jT):aw AP (.fn 9) [w.v] s=some ((cW w).v,s):=by
 obtain⟨n,⟨o1,e1,as⟩,⟨o2,e2,rs⟩⟩:=w
 have hfa:as.length≤6:=hf.as
 have qq:rs.length≤14:=hf.rs
 have kr:∀(j:Nat) ρ m,j≤rs.length→(ρ 1=.ptr s.ag.length 0 0∧ρ 2=.ptr s.ag.length 1 0∧ρ 3=.ptr s.ag.length 2 0∧ρ 6=I j∧
   ∃xa qE xr Ic tk bx,Acc s.ag.length 3 ((as.map cA).map bR) xa qE tk∧Acc s.ag.length 7 (((rs.take j).map cR).map aS) xr Ic tk∧(Ic≠qE∨Ic=none)∧m=s.push ⟨[I n,.slice o1 e1 (as.map bR),.slice o2 e2 (rs.map aS)]::[I 0,.slice .aA 0 [],.slice .aA 0 []]::[I n,xa,xr]::bx,tk⟩)→
   go AP X0 (.c (.loop JF)::aqQ) ⟨ρ,m⟩=some ((cW ⟨n,⟨o1,e1,as⟩,⟨o2,e2,rs⟩⟩).v,s):=by
  refine bA rs.length _ _ ?_ ?_
  ·rintro j ρ m hj ⟨h1,h2,h3,h6,xa,qE,xr,Ic,tk,bx,hA,hR,aF,rfl⟩ ih
   obtain⟨x,hx⟩:=get_some hj
   have dk:=bE hx
   have cS:e2=7:=by rcases hw.rs.1 with h|h;(simp only at h;rw[h]at hx;simp at hx);exact h
   subst cS
   have bf:=cz (f:=aS) (o:=o2) (es:=7) hx
   have m2:=hf.an x dk
   obtain⟨oo,IG,gl,gZ,oH,_,_⟩:=Vw (Q:=s) (l:=x.an.l) (o:=x.an.o) (e:=x.an.e) (tk:=tk) hs (hw.an x dk).1 (by omega)
   have su:=Acc.ext hA oH
   have Q7:=Acc.ext hR oH
   have vF:(rs.take j).length≤14:=by rw[ez];omega
   obtain⟨xr',atO,mK,cp,di,vq,sy⟩:=Q7.append hs .full (ys:=[aS (cR x)]) (by simp) (by simp;omega)
   have ZN:=sy _ _ _ _ su (by rcases aF with h|h;exact .inl fun e=>h e.symm;(cases qE with|none=>exact .inr rfl|some g=>exact .inl (by rw[h];simp)))
   obtain⟨C3,BQ,Di,rfl⟩:=Acc.sl hA
   obtain⟨or',er',rr',rfl⟩:=Acc.sl hR
   obtain⟨Td,Qt,M9,rfl⟩:=Acc.sl di
   have aQ:closeAll [S x.cr,I x.lo,I x.hi,I x.len,I x.val,.slice oo 1 (x.an.l.map aC),I x.need]=some (aS (cR x)):=by
    simp only[ie,jW,nC,vf,gZ];rfl
   have ja:=bh hj (show(rs.length:Int)<_ by omega)
   simp only[aS,Sl.v,cR]at cp aQ
   simp only[go_sem,JF,h1,h3,h6,hs,aL hj,bf,gl,aQ,cp,ja,simprocAttr]
   refine ih _ _ ?_
   refine⟨h1,h2,h3,rfl,_,qE,_,atO,mK,_,ZN.1,?_,.inl fun e=>ZN.2 e.symm,rfl⟩
   rw[du hx,fH,fH];exact di
  ·rintro ρ m ⟨h1,h2,h3,h6,xa,qE,xr,Ic,tk,bx,hA,hR,aF,rfl⟩
   rw[er]at hR
   have l1:=fun q:ae=>hA.yb q
   have l2:=fun q:ae=>hR.yb q
   obtain⟨C3,BQ,Di,rfl⟩:=Acc.sl hA
   obtain⟨or',er',rr',rfl⟩:=Acc.sl hR
   simp only[go_sem,JF,OH,h1,h2,h3,h6,hs,bg,l1,l2,simprocAttr]
   rw[uR,uR];rfl
 have ka:∀(j:Nat) ρ m,j≤as.length→(ρ 1=.ptr s.ag.length 0 0∧ρ 2=.ptr s.ag.length 1 0∧ρ 3=.ptr s.ag.length 2 0∧ρ 4=I j∧
   ∃xa qE tk bx,Acc s.ag.length 3 (((as.take j).map cA).map bR) xa qE tk∧m=s.push ⟨[I n,.slice o1 e1 (as.map bR),.slice o2 e2 (rs.map aS)]::[I 0,.slice .aA 0 [],.slice .aA 0 []]::[I n,xa,.slice .aA 0 []]::bx,tk⟩)→
   go AP X0 (.c (.loop JG)::aqR) ⟨ρ,m⟩=some ((cW ⟨n,⟨o1,e1,as⟩,⟨o2,e2,rs⟩⟩).v,s):=by
  refine bA as.length _ _ ?_ ?_
  ·rintro j ρ m hj ⟨h1,h2,h3,h4,xa,qE,tk,bx,hA,rfl⟩ ih
   obtain⟨x,hx⟩:=get_some hj
   have dk:=bE hx
   have cS:e1=3:=by rcases hw.as.1 with h|h;(simp only at h;rw[h]at hx;simp at hx);exact h
   subst cS
   have bf:=cz (f:=bR) (o:=o1) (es:=3) hx
   have m2:=hf.cl x dk
   have vy:∀r,aw AP (.fn 30) [.slice x.cl.o x.cl.e (x.cl.l.map dM)] (s.push r)=some (.slice (xo (x.cl.l.map dM)) 2 (x.cl.l.map dM),s.push r):=fun r=>aga (hs.push r) (hw.cl x dk).1 (by omega)
   have xS:(as.take j).length≤6:=by rw[ez];omega
   obtain⟨xa',atN,mK,cp,di,vq,sy⟩:=hA.append hs .full (ys:=[bR (cA x)]) (by simp) (by simp;omega)
   obtain⟨C3,BQ,Di,rfl⟩:=Acc.sl hA
   obtain⟨Td,Qt,M9,rfl⟩:=Acc.sl di
   have lL:(AV.slice (xo (x.cl.l.map dM)) 2 (x.cl.l.map dM)).close=some (.slice (xo (x.cl.l.map dM)) 2 (x.cl.l.map dM)):=Sl.close (f:=dM) (XC (l:=x.cl.l))
   have ja:=bh hj (show(as.length:Int)<_ by omega)
   simp only[bR,Sl.v,cA,Qk]at cp
   simp only[go_sem,JG,h1,h3,h4,hs,aL hj,bf,vy,lL,cp,ja,simprocAttr]
   refine ih _ _ ?_
   refine⟨h1,h2,h3,rfl,_,atN,mK,_,?_,rfl⟩
   rw[du hx,fH,fH];exact di
  ·rintro ρ m ⟨h1,h2,h3,h4,xa,qE,tk,bx,hA,rfl⟩
   rw[er]at hA
   obtain⟨C3,BQ,Di,rfl⟩:=Acc.sl hA
   simp only[go_sem,JG,OI,h1,h4,bg,simprocAttr]
   refine kr 0 _ _ (aV _) ?_
   exact⟨h1,h2,h3,rfl,_,qE,.slice .aA 0 [],none,tk,bx,hA,Acc.start,.inr rfl,rfl⟩
 rw[aG (show AP 9=some Fm from rfl) rfl]
 simp only[go_sem,VQ,hs,simprocAttr]
 refine ka 0 _ _ (aV _) ?_
 exact⟨rfl,rfl,rfl,rfl,_,none,[],[],Acc.start,rfl⟩
end
section
variable{s:ae} {w:W}
theorem atb {r:Rec} {q:Nat} {g:Bool} {n b off:Nat}:yd (s.push r) q g n (.ptr s.ag.length b off)=if r.boxes.length≤b+q then none else(s.push r).load g n (.ptr s.ag.length b off):=by
 unfold yd
 simp only[gD,vW,IH]
theorem ata {m:ae} {q:Nat} {g:Bool} {n off:Nat} {cs:List AV}:yd m q g n (.bd cs off)=m.load g n (.bd cs off):=rfl
theorem ajB {r:Rec} {k n b off:Nat} {y:AV}:y5 (s.push r) k n (.ptr s.ag.length b off) y=if b=r.boxes.length-k∧0<k then(s.push r).store n (.ptr s.ag.length b off) y else none:=by
 unfold y5
 simp only[gD,vW,IH]
attribute [go_sem] atb ata ajB
theorem atV {β:Type} {f:Bool→β} {d:β}:l3 AV.undef f d=d:=rfl
attribute [go_sem] atV
theorem acL:List.replicate 2 ([]:List AV)=[[],[]]:=rfl
theorem adu {a b c r:List AV} {z:AV}:Nc [a,b,c,[],[]] [] 2 (z::r)=some (3,[a,b,c,z::r,[]]):=rfl
theorem adt {a b c x r:List AV} {z:AV}:Nc [a,b,c,x,[]] [] 1 (z::r)=some (4,[a,b,c,x,z::r]):=rfl
theorem Oq {l:List Int} {o:Own} {e:Nat} {n:Int} (he:l=[]∨e=1) (hl:(l.length:Int)<9223372036854775808):
  aw AP (.fn 22) [.slice o e (l.map aC),I n] s=some (B (l.any fun m=>decide (m=n)),s):=by
 have key:∀(k:Nat) ρ m,k≤l.length→(ρ 0=.slice o e (l.map aC)∧ρ 1=I n∧ρ 5=I k∧m=s.push ⟨[],[]⟩)→go AP aiZ (.c (.loop D1)::aqA) ⟨ρ,m⟩=some (B ((l.drop k).any fun m=>decide (m=n)),s):=by
  refine bA l.length _ _ ?_ ?_
  ·rintro k ρ m hk ⟨h0,h1,h5,rfl⟩ ih
   obtain⟨a,ha⟩:=get_some hk
   have he:e=1:=by rcases he with h|h;(rw[h]at ha;simp at ha);exact h
   subst he
   have hr:=cz (o:=o) (es:=1) (f:=aC) ha
   rw[gO ha,ke]
   cases hd:decide (a=n)with
   |true=>simp only[go_sem,D1,h0,h1,h5,aL hk,hr,hd,simprocAttr];rfl
   |false=>
    simp only[go_sem,D1,h0,h1,h5,aL hk,hr,hd,bh hk hl,simprocAttr]
    rw[nq];exact ih _ _ ⟨h0,h1,rfl,rfl⟩
  ·rintro ρ m ⟨h0,h1,h5,rfl⟩
   simp only[go_sem,D1,Ov,h0,h5,bg,simprocAttr]
   rw[fe];rfl
 rw[aG (show AP 22=some E3 from rfl) rfl]
 simp only[go_sem,VA,simprocAttr]
 exact key 0 _ _ (aV _) ⟨rfl,rfl,rfl,rfl⟩
theorem awn {a:A} {t:Int} (hs:Ok s) (he:a.cl.l=[]∨a.cl.e=2) (hl:(a.cl.l.length:Int)<9223372036854775808):
  aw AP (.fn 139) [.agg (bR a),I t] s=some (B (isClosed a t),s):=by
 obtain⟨name,je,⟨o,e,l⟩⟩:=a
 simp only at he hl
 have key:∀(k:Nat) ρ m,k≤l.length→(ρ 1=I t∧ρ 2=.ptr s.ag.length 0 0∧ρ 5=I k∧m=s.push ⟨[[S name,I je,.slice o e (l.map dM)]],[]⟩)→go AP ai9 (.c (.loop Ek)::aq5) ⟨ρ,m⟩=some (B ((l.drop k).any fun p=>wi t p.1 p.2),s):=by
  refine bA l.length _ _ ?_ ?_
  ·rintro k ρ m hk ⟨h1,h2,h5,rfl⟩ ih
   obtain⟨a,ha⟩:=get_some hk
   have he:e=2:=by rcases he with h|h;(rw[h]at ha;simp at ha);exact h
   subst he
   have hr:=cz (o:=o) (es:=2) (f:=dM) ha
   rw[gO ha,ke]
   cases hd:wi t a.1 a.2 with
   |true=>simp only[go_sem,Ek,h1,h2,h5,aL hk,hr,gA,hd,simprocAttr];rfl
   |false=>
    simp only[go_sem,Ek,h1,h2,h5,aL hk,hr,gA,hd,bh hk hl,simprocAttr]
    rw[nq];exact ih _ _ ⟨h1,h2,rfl,rfl⟩
  ·rintro ρ m ⟨h1,h2,h5,rfl⟩
   simp only[go_sem,Ek,OY,h2,h5,bg,simprocAttr]
   rw[fe];rfl
 rw[aG (show AP 139=some Fv from rfl) rfl]
 simp only[go_sem,VV,simprocAttr]
 exact key 0 _ _ (aV _) ⟨rfl,rfl,rfl,rfl⟩
theorem aft {f:Nat→Bool} {k m:Nat} (h:k<m):((List.range m).drop k).any f=(f k||((List.range m).drop (k+1)).any f):=by
 rw[gO (x:=k) (by simp[h]),ke]
theorem acG {p:P} (hs:Ok s) (hw:Wk w) (hp:bJ w p):aw AP (.fn 92) [w.v,.agg (aq p)] s=some (B (p.an.l.any fun a=>!cU w a p.start (w.rq p.req).len),s):=by
 have hlen:=hw.len hp.r0 hp.r1
 have hs0:=hp.s0
 have jq:=hp.s1
 have eD:=oQ hw hp.r0 hp.r1
 have ed:=hp.len
 have iD:=hp.ok.1
 have ZO:=hp.an
 generalize hq:w.rq p.req=q at*
 obtain⟨req,st,⟨o,e,l⟩⟩:=p
 simp only at hlen hs0 jq eD ed iD ZO
 have hm:((q.len.toNat:Nat):Int)=q.len:=by omega
 have key : ∀ (k : Nat) ρ m, k ≤ l.length → (ρ 2 = .ptr s.ag.length 0 0 ∧ ρ 3 = .ptr s.ag.length 1 0 ∧ ρ 5 = I k ∧ m = s.push ⟨[aW w, [I req, I st, .slice o e (l.map aC)]], []⟩) →
   go AP X6 (.c (.loop Em)::aq8) ⟨ρ,m⟩=some (B ((l.drop k).any fun a=>!cU w a st q.len),s):=by
  refine bA l.length _ _ ?_ ?_
  ·rintro k ρ m hk ⟨h2,h3,h5,rfl⟩ ih
   obtain⟨a,ha⟩:=get_some hk
   have he:e=1:=by rcases iD with h|h;(rw[h]at ha;simp at ha);exact h
   subst he
   have hr:=cz (o:=o) (es:=1) (f:=aC) ha
   obtain⟨sx,cp⟩:=ZO a (bE ha)
   obtain⟨x,hx,_,bf⟩:=MG hw sx cp
   have dk:=bE hx
   have aQ:∀r t,aw AP (.fn 139) [.agg (bR x),I t] (s.push r)=some (B (isClosed x t),s.push r):=fun r t=>awn (hs.push r) (hw.ok.cl x dk).1 (by have:=(hw.v.a x dk).Xf;omega)
   have bU:(!cU w a st q.len)=(List.range q.len.toNat).any fun t=>isClosed x (st+t):=by
    unfold cU;rw[hx];simp
   have inner:∀(j:Nat) ρ m,j≤q.len.toNat→(ρ 2=.ptr s.ag.length 0 0∧ρ 3=.ptr s.ag.length 1 0∧ρ 5=I k∧ρ 6=I j∧m=s.push ⟨[aW w,[I req,I st,.slice o 1 (l.map aC)]],[]⟩)→
     go AP X6 (.c (.loop En)::aq9) ⟨ρ,m⟩=some (B ((((List.range q.len.toNat).drop j).any fun t=>isClosed x (st+t))||((l.drop (k+1)).any fun a=>!cU w a st q.len)),s):=by
    refine bA q.len.toNat _ _ ?_ ?_
    ·rintro j ρ m hj ⟨g2,g3,g5,g6,rfl⟩ eQ
     have dx:decide ((j:Int)<q.len)=true:=by simp;omega
     rw[aft hj]
     have ur:IntKind.i64.wrap (st+(j:Int))=st+j:=bq (by omega) (by omega)
     simp only[bR,Sl.v]at aQ bf
     simp only[aS,Sl.v]at eD
     cases hd:isClosed x (st+j)with
     |true=>simp only[go_sem,En,g2,g3,g5,g6,eD,dx,hr,bf,aQ,ur,hd,simprocAttr];rfl
     |false=>
      simp only[go_sem,En,g2,g3,g5,g6,eD,dx,hr,bf,aQ,ur,hd,bh hj (show((q.len.toNat:Nat):Int)<_ by omega),simprocAttr]
      rw[nq]
      exact eQ _ _ ⟨g2,g3,g5,rfl,rfl⟩
    ·rintro ρ m ⟨g2,g3,g5,g6,rfl⟩
     have dx:decide (((q.len.toNat:Nat):Int)<q.len)=false:=by simp;omega
     simp only[aS,Sl.v]at eD
     simp only[go_sem,En,O1,g2,g3,g5,g6,eD,dx,bh hk ed,simprocAttr]
     rw[DC (by simp),Uq,nq]
     exact ih _ _ ⟨g2,g3,rfl,rfl⟩
   rw[gO ha,ke,bU]
   simp only[go_sem,Em,h3,h5,aL hk,simprocAttr]
   refine yo (inner 0 _ _ (aV _) ?_) ?_
   ·exact⟨h2,h3,h5,rfl,rfl⟩
   ·rw[iK]
  ·rintro ρ m ⟨h2,h3,h5,rfl⟩
   simp only[go_sem,Em,JR,h3,h5,bg,simprocAttr]
   rw[fe];rfl
 rw[aG (show AP 92=some Fz from rfl) rfl]
 simp only[go_sem,VW,simprocAttr]
 exact key 0 _ _ (aV _) ⟨rfl,rfl,rfl,rfl⟩
theorem awh {a b:P} (hs:Ok s) (hw:Wk w) (ha:bJ w a) (hb:bJ w b):aw AP (.fn 126) [w.v,.agg (aq a),.agg (aq b)] s=some (B (dA w a b),s):=by
 have sF:∀{a b:P},bJ w a→bJ w b→IntKind.i64.wrap (IntKind.i64.wrap (b.start-a.start)-(w.rq a.req).len)=b.start-dU w a:=by
  intro a b ha hb
  have hl:=hw.len ha.r0 ha.r1
  have h3:=hb.s0
  have h4:=hb.s1
  have h5:=ha.s0
  have h6:=ha.s1
  unfold dU
  rw[bq (x:=b.start-a.start) (by omega) (by omega),bq (by omega) (by omega)];omega
 have key : ∀ (a b : P), bJ w a → bJ w b → ∀ (k : Nat) ρ m, k ≤ a.an.l.length → (ρ 3 = .ptr s.ag.length 0 0 ∧ ρ 4 = .ptr s.ag.length 1 0 ∧ ρ 5 = .ptr s.ag.length 2 0 ∧ ρ 7 = .ptr s.ag.length 3 0 ∧ ρ 8 = .ptr s.ag.length 4 0 ∧ ρ 9 = I (b.start - dU w a) ∧ ρ 10 = I k ∧ m = s.push ⟨[aW w, aq a, aq b, aS (w.rq a.req), aS (w.rq b.req)], []⟩) →
   go AP ai3 (.c (.loop w5)::aqP) ⟨ρ,m⟩=some (B ((a.an.l.drop k).any fun n=>(b.an.l.any fun m=>decide (n=m))&&decide (b.start-dU w a<(if(w.rq a.req).cr=(w.rq b.req).cr then 0 else w.om n))),s):=by
  intro a b ha hb
  refine bA a.an.l.length _ _ ?_ ?_
  ·rintro k ρ m hk ⟨h3,h4,h5,h7,h8,h9,cJ,rfl⟩ ih
   obtain⟨n,hn⟩:=get_some hk
   obtain⟨iC,oL⟩:=ha.an n (bE hn)
   obtain⟨x,hx,bu,bf⟩:=MG hw iC oL
   have nS:=hw.om iC oL
   have hr:=Sl.ix (f:=aC) ha.ok hn
   have hh:∀r,aw AP (.fn 22) [.slice b.an.o b.an.e (b.an.l.map aC),I n] (s.push r)=some (B (b.an.l.any fun m=>decide (m=n)),s.push r):=fun r=>Oq hb.ok.1 hb.len
   have anV:(b.an.l.any fun m=>decide (n=m))=b.an.l.any fun m=>decide (m=n):=by
    congr 1;funext m;exact XI eq_comm
   rw[gO hn,ke,anV]
   simp only[bR,Sl.v]at bf
   generalize((a.an.l.drop (k+1)).any fun n=>(b.an.l.any fun m=>decide (n=m))&&decide (b.start-dU w a<(if(w.rq a.req).cr=(w.rq b.req).cr then 0 else w.om n)))=R at*
   generalize b.start-dU w a=t at*
   generalize(b.an.l.any fun m=>decide (m=n))=has at*
   rw[bu]at nS⊢
   cases has with
   |false=>
    simp only[go_sem,w5,h4,h5,cJ,aL hk,hr,hh,bh hk ha.len,simprocAttr]
    rw[lr,nq]
    refine ih _ _ ?_
    exact⟨h3,h4,h5,h7,h8,h9,rfl,rfl⟩
   | true =>
    rw[kQ]
    by_cases ht:t<0
    ·have:decide (t<(if(w.rq a.req).cr=(w.rq b.req).cr then 0 else x.je))=true:=bS (by split<;>omega)
     rw[this,Ao]
     simp only[go_sem,w5,h4,h5,h9,cJ,aL hk,hr,hh,ht,simprocAttr]
    ·by_cases hm:(w.rq a.req).cr=(w.rq b.req).cr
     ·rw[aj hm,bX ht,nq]
      have lR:decide (¬(w.rq a.req).cr=(w.rq b.req).cr)=false:=by simp[hm]
      simp only[go_sem,w5,h4,h5,h7,h8,h9,cJ,aL hk,hr,hh,bh hk ha.len,ht,lR,bV,simprocAttr]
      refine ih _ _ ?_
      exact⟨h3,h4,h5,h7,h8,h9,rfl,rfl⟩
     ·rw[ak hm]
      have lR:decide (¬(w.rq a.req).cr=(w.rq b.req).cr)=true:=by simp[hm]
      by_cases dh:t<x.je
      ·rw[bS dh,Ao]
       simp only[go_sem,w5,h3,h4,h5,h7,h8,h9,cJ,aL hk,hr,hh,bf,ht,lR,dh,bV,simprocAttr]
      ·rw[bX dh,nq]
       simp only[go_sem,w5,h3,h4,h5,h7,h8,h9,cJ,aL hk,hr,hh,bf,bh hk ha.len,ht,lR,dh,bV,simprocAttr]
       refine ih _ _ ?_
       exact⟨h3,h4,h5,h7,h8,h9,rfl,rfl⟩
  ·rintro ρ m ⟨h3,h4,h5,h7,h8,h9,cJ,rfl⟩
   simp only[go_sem,w5,OG,h4,cJ,bg,simprocAttr]
   rw[fe];rfl
 rw[aG (show AP 126=some Fk from rfl) rfl]
 unfold dA r9
 have ra:=oQ hw ha.r0 ha.r1
 have rb:=oQ hw hb.r0 hb.r1
 simp only[aS,Sl.v]at ra rb
 by_cases h1:a.req=b.req
 ·simp only[go_sem,JE,h1,simprocAttr]
 ·rw[ak h1]
  by_cases h2:b.start<a.start
  ·rw[aj h2]
   simp only[go_sem,JE,hs,ra,rb,h1,h2,acL,adu,adt,cH,jU,Nat.reduceLeDiff,wX,Nat.lt_add_one,Nat.reduceLT,Nat.reduceEqDiff,sF hb ha,simprocAttr]
   refine key b a hb ha 0 _ _ (aV _) ?_
   exact⟨rfl,rfl,rfl,rfl,rfl,rfl,rfl,rfl⟩
  ·rw[ak h2]
   simp only[go_sem,JE,hs,ra,rb,h1,h2,acL,adu,adt,cH,jU,Nat.reduceLeDiff,wX,Nat.lt_add_one,Nat.reduceLT,Nat.reduceEqDiff,sF ha hb,simprocAttr]
   refine key a b ha hb 0 _ _ (aV _) ?_
   exact⟨rfl,rfl,rfl,rfl,rfl,rfl,rfl,rfl⟩
end
section
variable{s:ae} {w:W}
theorem afq {l r:List Int}:(l.any fun n=>r.any fun m=>decide (n=m))=r.any fun n=>l.any fun m=>decide (n=m):=by
 rw[IP]
 simp only[fc,fB]
 constructor
 ·rintro⟨x,hx,y,hy,rfl⟩;exact⟨x,hy,x,hx,rfl⟩
 ·rintro⟨x,hx,y,hy,rfl⟩;exact⟨x,hy,x,hx,rfl⟩
theorem Xe (hw:Wk w) {a b:P} (ha:bJ w a) (h:a.start=b.start):r9 w a b=a.an.l.any fun n=>b.an.l.any fun m=>decide (n=m):=by
 have hl:=hw.len ha.r0 ha.r1
 unfold r9
 rw[IP]
 simp only[fc,dE,fB]
 constructor
 ·rintro⟨x,hx,h1,_⟩;exact⟨x,hx,h1⟩
 ·rintro⟨x,hx,h1⟩
  refine⟨x,hx,h1,?_⟩
  have:=hw.om (ha.an x hx).1 (ha.an x hx).2
  unfold dU
  split<;>omega
theorem GG (hw:Wk w) {a b:P} (ha:bJ w a) (hb:bJ w b):dA w a b=dA w b a:=by
 unfold dA
 by_cases h1:a.req=b.req
 ·rw[aj h1,aj (wE h1)]
 ·rw[ak h1,ak (show¬b.req=a.req from fun e=>h1 (wE e))]
  by_cases h2:b.start<a.start
  ·rw[aj h2,ak (by omega)]
  ·rw[ak h2]
   by_cases h3:a.start<b.start
   ·rw[aj h3]
   ·rw[ak h3,Xe hw ha (by omega),Xe hw hb (by omega),afq]
theorem afs {l:List Int} {a:Int}:(l.any fun m=>decide (m=a))=l.any fun b=>decide (a=b):=by
 congr 1;funext m;exact XI eq_comm
def De (l:List Int):Nat→Int
 |0=>-1
 |k+1=>l.getD k 0
theorem aaS {l:List P} {i:Nat} {x:P} (h:l[i]? =some x):fN (l.take (i+1))=x.req:=by
 rw[du h];unfold fN;simp
theorem awp {l:List P} {o:Own} {e i:Nat} {p:P} (hs:Ok s) (hw:Wk w) (he:l=[]∨e=3) (hn:(l.length:Int)<1000000) (hi:l[i]? =some p) (iE:p.an.ok 1) (ed:(p.an.l.length:Int)<1000000) (hl:∀x∈l.take i,bJ w x):
  aw AP (.fn 78) [w.v,.slice o e (l.map aq),I i] s=some (I (dY w p (l.take i)),s):=by
 have uh:i<l.length:=(bI.1 hi).1
 have he:e=3:=by rcases he with h|h;(rw[h]at hi;simp at hi);exact h
 subst he
 have bf:=cz (f:=aq) (o:=o) (es:=3) hi
 have fV:=hw.v.rl
 have dK:=hw.v.n2
 rw[aG (show AP 78=some Fx from rfl) rfl]
 unfold dY
 have sM:IntKind.i64.wrap ((w.rs.l.length:Int)-1)=(w.rs.l.length:Int)-1:=bq (by omega) (by omega)
 cases h1:wi p.req 0 (w.rs.l.length-1)with
 |false=>simp only[go_sem,uU,hs,bf,gA,sM,h1,ew,simprocAttr]
 | true =>
  rw[aj rfl]
  obtain⟨iF,im⟩:=gy.1 h1
  have CK:p.req<w.rs.l.length:=by omega
  have hq:=hw.rq iF CK
  have eD:=oQ hw iF CK
  have hlen:=hw.len iF CK
  have amK:=hq.pK
  have amw:=hq.bH
  have amL:=hq.CX
  have amH:=hq.pJ
  generalize Mc:w.rq p.req=q at*
  have vO:IntKind.i64.wrap (q.hi-q.len)=q.hi-q.len:=bq (by omega) (by omega)
  have CP:IntKind.i64.wrap (q.hi-q.len+1)=q.hi+1-q.len:=by rw[bq (by omega) (by omega)];omega
  have kc:bJ w p→∀(k:Nat) ρ m,k≤i→(ρ 1=.slice o 3 (l.map aq)∧ρ 2=I i∧ρ 3=.ptr s.ag.length 0 0∧ρ 7=.ptr s.ag.length 1 0∧ρ 10=I k∧m=s.push ⟨[aW w,aq p,aS q],[]⟩)→
    go AP X4 (.c (.loop El)::aq6) ⟨ρ,m⟩=some (I (if(((l.take i).drop k).any fun x=>dA w x p)=true then 13 else 0),s):=by
   intro hp
   refine bA i _ _ ?_ ?_
   ·rintro k ρ m hk ⟨g1,g2,g3,g7,g10,rfl⟩ ih
    obtain⟨x,hx⟩:=get_some (l:=l) (k:=k) (by omega)
    have Mv:(l.take i)[k]? =some x:=by rw[wI,aj hk];exact hx
    have aal:=hl x (bE Mv)
    have hr:=cz (f:=aq) (o:=o) (es:=3) hx
    have dw:∀r,aw AP (.fn 126) [w.v,.agg (aq p),.agg (aq x)] (s.push r)=some (B (dA w x p),s.push r):=fun r=>by
     rw[awh (hs.push r) hw hp aal,GG hw hp aal]
    simp only[W.v,aW,aq,Sl.v]at dw
    rw[gO Mv,ke]
    cases hd:dA w x p with
    |true=>simp only[go_sem,El,g1,g2,g3,g7,g10,aL hk,hr,dw,hd,Ao,simprocAttr]
    |false=>
     simp only[go_sem,El,g1,g2,g3,g7,g10,aL hk,hr,dw,hd,bh hk (show(i:Int)<_ by omega),simprocAttr]
     rw[nq]
     refine ih _ _ ?_
     exact⟨g1,g2,g3,g7,rfl,rfl⟩
   ·rintro ρ m ⟨g1,g2,g3,g7,g10,rfl⟩
    simp only[go_sem,El,OZ,g2,g10,bg,simprocAttr]
    rw[DC (by rw[ez];omega)];rfl
  have ka : (q.lo ≤ p.start ∧ p.start ≤ q.hi + 1 - q.len) → ∀ (k : Nat) ρ m, k ≤ p.an.l.length → (ρ 1 = .slice o 3 (l.map aq) ∧ ρ 2 = I i ∧ ρ 3 = .ptr s.ag.length 0 0 ∧ ρ 7 = .ptr s.ag.length 1 0 ∧ ρ 8 = .ptr s.ag.length 2 0 ∧ ρ 9 = I k ∧ (∀ a ∈ p.an.l.take k, 0 ≤ a ∧ a < w.as.l.length) ∧ m = s.push ⟨[aW w, aq p, aS q], []⟩) →
    go AP X4 (.c (.loop w6)::aq7) ⟨ρ,m⟩=some (I (if eW q (De p.an.l k) (p.an.l.drop k)=0 then(if(p.an.l.any fun a=>!cU w a p.start q.len)=true then 21 else if cY w p (l.take i)=true then 13 else 0)else eW q (De p.an.l k) (p.an.l.drop k)),s):=by
   intro bu
   refine bA p.an.l.length _ _ ?_ ?_
   ·rintro k ρ m hk ⟨g1,g2,g3,g7,g8,g9,bH,rfl⟩ ih
    obtain⟨a,ha⟩:=get_some hk
    have hr:=Sl.ix (f:=aC) iE ha
    have hh:∀r,aw AP (.fn 22) [.slice q.an.o q.an.e (q.an.l.map aC),I a] (s.push r)=some (B (q.an.l.any fun b=>decide (a=b)),s.push r):=fun r=>by
     have qw:=W.oe iF CK
     rw[Mc]at qw
     rw[Oq (hw.ok.an q qw).1 (by have:=hw.si.an q qw;omega)]
     rw[afs]
    rw[gO ha,eW]
    cases hc:(q.an.l.any fun b=>decide (a=b))with
    |false=>
     simp only[go_sem,w6,g7,g8,g9,aL hk,hr,hh,hc,ew,simprocAttr]
    | true =>
     have di:0≤a∧a<w.as.l.length:=by
      obtain⟨b,hb,he⟩:=fc.1 hc
      rw[S2 he];exact hq.tG b hb
     rw[aj rfl]
     have Zu:∀x∈p.an.l.take (k+1),0≤x∧x<w.as.l.length:=by
      intro x hx
      rw[du ha,dR]at hx
      rcases hx with hx|hx
      ·exact bH x hx
      ·rw[fS]at hx;rw[hx];exact di
     have ZT:De p.an.l (k+1)=a:=by show p.an.l.getD k 0=a;rw[List.getD,ha];rfl
     rcases DN k with Cx|Cx
     ·have aB:De p.an.l k<a:=by rw[Cx,show De p.an.l 0=-1 from rfl];omega
      rw[aj aB]
      have h0:decide ((0:Int)<(k:Int))=false:=by simp;omega
      simp only[go_sem,w6,g7,g8,g9,aL hk,hr,hh,hc,h0,bh hk (show(p.an.l.length:Int)<_ by omega),simprocAttr]
      refine yo (ih _ _ ?_) ?_
      ·exact⟨g1,g2,g3,g7,g8,rfl,Zu,rfl⟩
      ·rw[ZT]
     ·obtain⟨b,hb⟩:=get_some (l:=p.an.l) (k:=k-1) (by omega)
      have j0:=Sl.ix (f:=aC) iE hb
      have h0:decide ((0:Int)<(k:Int))=true:=by simp;omega
      have jr:IntKind.i64.wrap ((k:Int)-1)=((k-1:Nat):Int):=by rw[bq (by omega) (by omega)];omega
      have L9:De p.an.l k=b:=by
       obtain⟨j,rfl⟩:∃j,k=j+1:=⟨k-1,by omega⟩
       show p.an.l.getD j 0=b
       rw[List.getD,show p.an.l[j]? =some b from hb];rfl
      rw[L9]
      by_cases jY:b<a
      ·rw[aj jY]
       have hd:decide (a≤b)=false:=by simp;omega
       simp only[go_sem,w6,g7,g8,g9,aL hk,hr,hh,hc,h0,jr,j0,hd,bh hk (show(p.an.l.length:Int)<_ by omega),simprocAttr]
       refine yo (ih _ _ ?_) ?_
       ·exact⟨g1,g2,g3,g7,g8,rfl,Zu,rfl⟩
       ·rw[ZT]
      ·rw[ak jY]
       have hd:decide (a≤b)=true:=by simp;omega
       simp only[go_sem,w6,g7,g8,g9,aL hk,hr,hh,hc,h0,jr,j0,hd,simprocAttr]
   ·rintro ρ m ⟨g1,g2,g3,g7,g8,g9,bH,rfl⟩
    rw[er]at bH
    have hp:bJ w p:=⟨iF,CK,by omega,by omega,bH,iE,by omega⟩
    have iH:∀r,aw AP (.fn 92) [w.v,.agg (aq p)] (s.push r)=some (B (p.an.l.any fun a=>!cU w a p.start q.len),s.push r):=fun r=>by
     rw[acG (hs.push r) hw hp,Mc]
    have kc':=kc hp 0
    simp only[W.v,aW,aq,Sl.v]at iH
    rw[fe,eW,aj rfl]
    cases hc:(p.an.l.any fun a=>!cU w a p.start q.len)with
    |true=>simp only[go_sem,w6,JQ,g3,g7,g9,bg,iH,hc,simprocAttr]
    |false=>
     rw[ak (by simp)]
     simp only[go_sem,w6,JQ,g3,g7,g9,bg,iH,hc,simprocAttr]
     refine yo (kc' _ _ (aV _) ?_) ?_
     ·exact⟨g1,g2,g3,g7,rfl,rfl⟩
     ·rw[iK];rfl
  simp only[aS,aq,Sl.v]at eD bf
  have tail:(if wi p.start q.lo (q.hi+1-q.len)=true then(if(p.an.l.length:Int)=q.need then(if eW q (-1) p.an.l=0 then(if(p.an.l.any fun a=>!cU w a p.start q.len)=true then 21 else if cY w p (l.take i)=true then 13 else 0)else eW q (-1) p.an.l)else 10)else 2)=(if wi p.start q.lo (q.hi+1-q.len)=true then(if(p.an.l.length:Int)=q.need then(if eW q (-1) p.an.l=0 then(if(p.an.l.any fun a=>!cU w a p.start q.len)=true then 21 else if cY w p (l.take i)=true then 13 else 0)else eW q (-1) p.an.l)else 10)else 2):=rfl
  rcases DN i with Zs|Zs
  ·have aB:fN (l.take i)<p.req:=by rw[Zs,show fN (l.take 0)=-1 from rfl];omega
   rw[aj aB]
   have h0:decide ((0:Int)<(i:Int))=false:=by simp;omega
   cases h2:wi p.start q.lo (q.hi+1-q.len)with
   |false=>simp only[go_sem,uU,hs,bf,gA,sM,h1,h0,eD,vO,CP,h2,ew,simprocAttr]
   | true =>
    rw[aj rfl]
    by_cases h3:(p.an.l.length:Int)=q.need
    ·rw[aj h3]
     have hd:decide (¬(p.an.l.length:Int)=q.need)=false:=by simp[h3]
     simp only[go_sem,uU,hs,bf,gA,sM,h1,h0,eD,vO,CP,h2,hd,bV,simprocAttr]
     refine yo (ka (gy.1 h2) 0 _ _ (aV _) ?_) ?_
     ·exact⟨rfl,rfl,rfl,rfl,rfl,rfl,fun a h=>absurd h (by simp),rfl⟩
     ·rw[iK];rfl
    ·rw[ak h3]
     have hd:decide (¬(p.an.l.length:Int)=q.need)=true:=by simp[h3]
     simp only[go_sem,uU,hs,bf,gA,sM,h1,h0,eD,vO,CP,h2,hd,bV,simprocAttr]
  ·obtain⟨x,hx⟩:=get_some (l:=l) (k:=i-1) (by omega)
   have j0:=cz (f:=aq) (o:=o) (es:=3) hx
   have h0:decide ((0:Int)<(i:Int))=true:=by simp;omega
   have jr:IntKind.i64.wrap ((i:Int)-1)=((i-1:Nat):Int):=by rw[bq (by omega) (by omega)];omega
   have xS:fN (l.take i)=x.req:=by
    obtain⟨j,rfl⟩:∃j,i=j+1:=⟨i-1,by omega⟩
    exact aaS hx
   rw[xS]
   simp only[aq,Sl.v]at j0
   by_cases aB:x.req<p.req
   ·rw[aj aB]
    have ub:decide (p.req≤x.req)=false:=by simp;omega
    cases h2:wi p.start q.lo (q.hi+1-q.len)with
    |false=>simp only[go_sem,uU,hs,bf,gA,sM,h1,h0,jr,j0,ub,eD,vO,CP,h2,ew,simprocAttr]
    | true =>
     rw[aj rfl]
     by_cases h3:(p.an.l.length:Int)=q.need
     ·rw[aj h3]
      have hd:decide (¬(p.an.l.length:Int)=q.need)=false:=by simp[h3]
      simp only[go_sem,uU,hs,bf,gA,sM,h1,h0,jr,j0,ub,eD,vO,CP,h2,hd,bV,simprocAttr]
      refine yo (ka (gy.1 h2) 0 _ _ (aV _) ?_) ?_
      ·exact⟨rfl,rfl,rfl,rfl,rfl,rfl,fun a h=>absurd h (by simp),rfl⟩
      ·rw[iK];rfl
     ·rw[ak h3]
      have hd:decide (¬(p.an.l.length:Int)=q.need)=true:=by simp[h3]
      simp only[go_sem,uU,hs,bf,gA,sM,h1,h0,jr,j0,ub,eD,vO,CP,h2,hd,bV,simprocAttr]
   ·rw[ak aB]
    have ub:decide (p.req≤x.req)=true:=by simp;omega
    simp only[go_sem,uU,hs,bf,gA,sM,h1,h0,jr,j0,ub,simprocAttr]
theorem awf {l:List P} {o:Own} {e:Nat} (hs:Ok s) (hw:Wk w) (hl:kf l) (he:l=[]∨e=3):aw AP (.fn 46) [w.v,.slice o e (l.map aq)] s=some (.tuple [I (gC w l).1,I (gC w l).2],s):=by
 have hlen:=hl.len
 have key:∀(j:Nat) ρ x,j≤l.length→(ρ 1=.slice o e (l.map aq)∧ρ 2=.ptr s.ag.length 0 0∧ρ 6=I j∧(∀y∈l.take j,bJ w y)∧x=s.push ⟨[aW w],[]⟩)→
   go AP ai2 (.c (.loop D5)::aqM) ⟨ρ,x⟩=some (match fT (fun i x=>dY w x (l.take i)) j (l.drop j)with|some (k,e)=>.tuple [I k,I e]|none=>.tuple [I 0,I 0],s):=by
  refine bA l.length _ _ ?_ ?_
  ·rintro j ρ x hj ⟨h1,h2,h6,bH,rfl⟩ ih
   obtain⟨p,hp⟩:=get_some hj
   have iE:=hl.ok p (bE hp)
   have iD:∀r,aw AP (.fn 78) [w.v,.slice o e (l.map aq),I j] (s.push r)=some (I (dY w p (l.take j)),s.push r):=fun r=>awp (hs.push r) hw he (by omega) hp iE.1 (by omega) bH
   simp only[W.v,aW,Sl.v]at iD
   rw[xA hp]
   by_cases h0:dY w p (l.take j)=0
   ·rw[aj h0]
    have fk:=(Db hw iE.1 (by omega) h0).1
    simp only[go_sem,D5,h1,h2,h6,aL hj,iD,h0,bV,gI,bh hj (show(l.length:Int)<_ by omega),simprocAttr]
    refine ih _ _ ?_
    refine⟨h1,h2,rfl,?_,rfl⟩
    intro y hy
    rw[du hp,dR]at hy
    rcases hy with hy|hy
    ·exact bH y hy
    ·rw[fS]at hy;rw[hy];exact fk
   ·rw[ak h0]
    simp only[go_sem,D5,h1,h2,h6,aL hj,iD,h0,bV,j3,simprocAttr]
  ·rintro ρ x ⟨h1,h2,h6,bH,rfl⟩
   simp only[go_sem,D5,OD,h1,h6,bg,simprocAttr]
   rw[fe];rfl
 rw[aG (show AP 46=some Fi from rfl) rfl]
 simp only[go_sem,VN,simprocAttr]
 refine yo (key 0 _ _ (aV _) ?_) ?_
 ·exact⟨rfl,rfl,rfl,fun y hy=>absurd hy (by simp),rfl⟩
 ·rw[iK];unfold gC
  cases fT (fun i x=>dY w x (l.take i)) 0 l with
  |none=>rfl
  |some q=>rfl
end
section
variable{s:ae} {w:W}
theorem af8 {m:ae} {l:List Int} {o:Own} {e:Nat} (he:l=[]∨e=1) (hl:l.length≤4294967296):
  aw AP (.fn 31) [.slice o e (l.map aC)] (dP m)=some ((fg l).v aC,dP m):=by
 cases fm:l with
 |nil=>
  rw[aG (show AP 31=some xf from rfl) rfl]
  simp only[go_sem,D0,et,UC,simprocAttr]
  show some (_,((dP m).push ⟨[],[]⟩).pop)=_
  rw[pop_push];rfl
 | cons a q =>
  rw[←fm]
  have hn:l≠[]:=by rw[fm];simp
  have ku:e=1:=by rcases he with h|h;exact absurd h hn;exact h
  subst ku
  have hlen:(dP m).ag.length=m.ag.length:=rfl
  have ha:et ((dP m).push ⟨[],[]⟩) 1 (.slice .full 1 []) (.slice o 1 (l.map aC))=some (.slice (.tok m.ag.length 0) 1 (l.map aC),(dP m).push ⟨[],[some l.length]⟩):=by
   have h3:=pO (dP m) ⟨[],[]⟩
   have h4:=oC (dP m) ⟨[],[]⟩ l.length
   rw[hlen]at h3 h4
   have h5:((dP m).push ⟨[],[]⟩).cur=m.ag.length:=by rw[gD,hlen]
   simp[et,Own.isNil,dD,hl,hn,h3,h4,h5]
  rw[aG (show AP 31=some xf from rfl) rfl]
  simp only[go_sem,D0,ha,simprocAttr]
  rw[fm];rfl
def cP (p:P):P:=⟨p.req,p.start,fg p.an.l⟩
theorem acz {l:List P} {o:Own} {e:Nat} {Q:ae} {tk:List (Option Nat)} (hQ:Ok Q) (hl:kf l) (he:l=[]∨e=3):
  ∃x og tk',(∀bx,aw AP (.fn 18) [.slice o e (l.map aq)] (Q.push ⟨bx,tk⟩)=some (x,Q.push ⟨bx,tk'⟩))∧Acc Q.ag.length 3 ((l.map cP).map aq) x og tk'∧(tk'=tk∨tk'=tk++[some l.length]):=by
 have hlen:=hl.len
 have hs:∀bx,Ok (Q.push ⟨bx,tk⟩):=fun bx=>hQ.push _
 have fC:∀bx,(Q.push ⟨bx,tk⟩).ag.length=Q.ag.length+1:=fun bx=>by simp[ae.push]
 have loop:∀bx,∀(k:Nat) ρ m,k≤l.length→(ρ 0=.slice o e (l.map aq)∧ρ 4=I k∧∃x og wy,Acc (Q.push ⟨bx,tk⟩).ag.length 3 (((l.take k).map cP).map aq) x og wy∧ρ 3=x∧m=(Q.push ⟨bx,tk⟩).push ⟨[],wy⟩)→
   go AP ai4 (.c (.loop D9)::aqS) ⟨ρ,m⟩=some (if l=[]then .slice .aA 0 []else .slice (.tok Q.ag.length tk.length) 3 ((l.map cP).map aq),if l=[]then Q.push ⟨bx,tk⟩else Q.push ⟨bx,tk++[some l.length]⟩):=by
  intro bx
  refine bA l.length _ _ ?_ ?_
  ·rintro k ρ m hk ⟨h0,h4,x,og,wy,hA,h3,rfl⟩ ih
   obtain⟨p,hp⟩:=get_some hk
   have cS:e=3:=by rcases he with h|h;(rw[h]at hp;simp at hp);exact h
   subst cS
   have iE:=hl.ok p (bE hp)
   have bf:=cz (f:=aq) (o:=o) (es:=3) hp
   have oI:∀m:ae,aw AP (.fn 31) [.slice p.an.o p.an.e (p.an.l.map aC)] (dP m)=some ((fg p.an.l).v aC,dP m):=fun m=>af8 iE.1.1 (by omega)
   have aU:(l.take k).length≤14:=by rw[ez];omega
   obtain⟨x',bQ,mK,cp,di,vq,sy⟩:=hA.append (hs bx) .full (ys:=[aq (cP p)]) (by simp) (by simp;omega)
   obtain⟨C3,BQ,Di,rfl⟩:=Acc.sl hA
   obtain⟨Td,Qt,M9,rfl⟩:=Acc.sl di
   have aQ:closeAll [I p.req,I p.start,(fg p.an.l).v aC]=some (aq (cP p)):=by
    simp only[ie,jW,nC,Sl.close (f:=aC) (xq (l:=p.an.l))];rfl
   simp only[aq,Sl.v,cP]at cp aQ oI
   simp only[go_sem,D9,h0,h3,h4,aL hk,bf,oI,aQ,cp,bh hk (show(l.length:Int)<_ by omega),simprocAttr]
   refine ih _ _ ?_
   refine⟨h0,rfl,_,bQ,mK,?_,rfl,rfl⟩
   rw[du hp,fH,fH];exact di
  ·rintro ρ m ⟨h0,h4,x,og,wy,hA,h3,rfl⟩
   rw[er]at hA
   cases og with
   |none=>
    obtain⟨su,rfl⟩:=hA
    have fm:l=[]:=by simpa using su
    rw[aj fm,aj fm]
    simp only[go_sem,D9,JH,h0,h3,h4,bg,simprocAttr]
   |some g=>
    obtain⟨su,rfl,hA3⟩:=hA
    have fm:¬l=[]:=by intro h;apply su;rw[h];rfl
    rw[ak fm,ak fm]
    have nO:=MY (Q:=Q) (R:=⟨bx,tk⟩) (r0:=⟨[],wy⟩) (g:=g) (es:=3) (xs:=(l.map cP).map aq) hQ hA3
    rw[fC]at h3
    simp only[go_sem,D9,JH,h0,h3,h4,bg,simprocAttr]
    refine nO.trans ?_
    rw[cg,cg]
 have run:∀bx,aw AP (.fn 18) [.slice o e (l.map aq)] (Q.push ⟨bx,tk⟩)=some (if l=[]then .slice .aA 0 []else .slice (.tok Q.ag.length tk.length) 3 ((l.map cP).map aq),if l=[]then Q.push ⟨bx,tk⟩else Q.push ⟨bx,tk++[some l.length]⟩):=by
  intro bx
  rw[aG (show AP 18=some Fl from rfl) rfl]
  simp only[go_sem,VO,simprocAttr]
  refine loop bx 0 _ _ (aV _) ?_
  exact⟨rfl,rfl,_,none,[],Acc.start,rfl,rfl⟩
 by_cases fm:l=[]
 ·refine⟨.slice .aA 0 [],none,tk,fun bx=>?_,⟨by rw[fm];rfl,rfl⟩,.inl rfl⟩
  rw[run bx,aj fm,aj fm]
 ·refine⟨.slice (.tok Q.ag.length tk.length) 3 ((l.map cP).map aq),some tk.length,tk++[some l.length],fun bx=>?_,⟨by simpa using fm,rfl,by simp⟩,.inr rfl⟩
  rw[run bx,ak fm,ak fm]
theorem U3 {d es:Nat} {xs:List (List AV)} {x:AV} {og:Option Nat} {tk:List (Option Nat)} (h:Acc d es xs x og tk):∃o e,x=.slice o e xs∧(xs=[]∨e=es):=by
 cases og with
 |none=>obtain⟨h1,h2⟩:=h;subst h1;exact⟨_,_,h2,.inl rfl⟩
 |some g=>exact⟨_,_,h.2.1,.inr rfl⟩
theorem acA {l:List P} {o:Own} {e:Nat} (hs:Ok s) (hw:w.Ok) (hf:w.jT) (hl:kf l) (he:l=[]∨e=3):aw AP (.fn 14) [w.v,.slice o e (l.map aq)] s=some (I (jv w l).2,s):=by
 have iZ:∀r,aw AP (.fn 26) [w.v] (s.push r)=some (I (cM w).2.2,s.push r):=fun r=>acE (hs.push r) hw hf
 rw[aG (show AP 14=some Fo from rfl) rfl]
 unfold jv
 by_cases h0:(cM w).2.2=0
 ·have aY:Wk w:=⟨hw,hf,pR h0⟩
  have oI:∀r,aw AP (.fn 46) [w.v,.slice o e (l.map aq)] (s.push r)=some (.tuple [I (gC w l).1,I (gC w l).2],s.push r):=fun r=>awf (hs.push r) aY hl he
  simp only[W.v,aW,Sl.v]at iZ oI
  rw[aj h0]
  simp only[go_sem,OJ,iZ,oI,h0,bV,gI,simprocAttr]
 ·simp only[W.v,aW,Sl.v]at iZ
  rw[ak h0]
  simp only[go_sem,OJ,iZ,h0,bV,j3,simprocAttr]
theorem acD {l:List P} {o:Own} {e:Nat} (hs:Ok s) (hw:Wk w) (hl:l.length≤14) (bH:∀p∈l,bJ w p) (he:l=[]∨e=3):aw AP (.fn 15) [w.v,.slice o e (l.map aq)] s=some (I (ck w l),s):=by
 have key:∀(k:Nat) ρ m,k≤l.length→(ρ 1=.slice o e (l.map aq)∧ρ 2=.ptr s.ag.length 0 0∧ρ 5=I (ck w (l.take k))∧ρ 6=I k∧m=s.push ⟨[aW w],[]⟩)→
   go AP ai7 (.c (.loop JL)::aqZ) ⟨ρ,m⟩=some (I (ck w l),s):=by
  refine bA l.length _ _ ?_ ?_
  ·rintro k ρ m hk ⟨h1,h2,h5,h6,rfl⟩ ih
   obtain⟨p,hp⟩:=get_some hk
   have cS:e=3:=by rcases he with h|h;(rw[h]at hp;simp at hp);exact h
   subst cS
   have cK:=bH p (bE hp)
   have bf:=cz (f:=aq) (o:=o) (es:=3) hp
   have eD:=oQ hw cK.r0 cK.r1
   have hb:=aeg hw (l:=l.take k) fun x hx=>bH x (oB hx)
   have hq:=hw.rq cK.r0 cK.r1
   have uj:=hq.uF
   have vK:=hq.tc
   have aU:(l.take k).length≤14:=by rw[ez];omega
   have fj:ck w (l.take (k+1))=ck w (l.take k)+(w.rq p.req).val:=by rw[du hp,aef];simp[ck]
   have ur:IntKind.i64.wrap (ck w (l.take k)+(w.rq p.req).val)=ck w (l.take (k+1)):=by rw[fj,bq (by omega) (by omega)]
   simp only[aS,aq,Sl.v]at eD bf
   simp only[go_sem,JL,h1,h2,h5,h6,aL hk,bf,eD,ur,bh hk (show(l.length:Int)<_ by omega),simprocAttr]
   refine ih _ _ ?_
   exact⟨h1,h2,rfl,rfl,rfl⟩
  ·rintro ρ m ⟨h1,h2,h5,h6,rfl⟩
   rw[er]at h5
   simp only[go_sem,JL,OS,h1,h5,h6,bg,simprocAttr]
 rw[aG (show AP 15=some Fq from rfl) rfl]
 simp only[go_sem,VS,simprocAttr]
 refine key 0 _ _ (aV _) ?_
 exact⟨rfl,rfl,rfl,rfl,rfl⟩
structure N6 (l:List P):Prop where
 len:(l.length:Int)<9223372036854775808
 ok:∀p∈l,p.an.ok 1
 an:∀p∈l,(p.an.l.length:Int)<9223372036854775808
end
section
variable{w:W}
theorem KM:(cW w).bm=w.bm:=rfl
theorem xe:(cW w).rs.l.length=w.rs.l.length:=by rw[va,cg]
theorem u9 {i:Int} (h0:0≤i) (h1:i<w.rs.l.length):(cW w).rq i=cR (w.rq i):=by
 unfold W.rq
 rw[va,iL]
 obtain⟨x,hx⟩:=get_some (l:=w.rs.l) (k:=i.toNat) (by omega)
 rw[hx];rfl
theorem ag1 {a:Int}:(cW w).om a=w.om a:=by
 unfold W.om
 rw[r8,iL]
 cases w.as.l[a.toNat]? <;>rfl
theorem abQ {a st n:Int}:cU (cW w) a st n=cU w a st n:=by
 unfold cU
 rw[r8,iL]
 cases w.as.l[a.toNat]? <;>rfl
theorem Qp {p:P} (h0:0≤p.req) (h1:p.req<w.rs.l.length):dU (cW w) (cP p)=dU w p:=by
 unfold dU
 rw[show(cP p).req=p.req from rfl,u9 h0 h1];rfl
theorem Xd {a b:P} (sx:0≤a.req) (cp:a.req<w.rs.l.length) (gj:0≤b.req) (ik:b.req<w.rs.l.length):r9 (cW w) (cP a) (cP b)=r9 w a b:=by
 unfold r9
 simp only[Qp sx cp,show(cP a).req=a.req from rfl,show(cP b).req=b.req from rfl,u9 sx cp,u9 gj ik,ag1]
 rfl
theorem Xm {a b:P} (sx:0≤a.req) (cp:a.req<w.rs.l.length) (gj:0≤b.req) (ik:b.req<w.rs.l.length):dA (cW w) (cP a) (cP b)=dA w a b:=by
 unfold dA
 rw[Xd sx cp gj ik,Xd gj ik sx cp]
 rfl
theorem Xn {p:P} {l:List P} (sx:0≤p.req) (cp:p.req<w.rs.l.length) (hl:∀x∈l,0≤x.req∧x.req<w.rs.l.length):cY (cW w) (cP p) (l.map cP)=cY w p l:=by
 unfold cY
 rw[IV]
 rw[IP]
 simp only[fc,Function.comp]
 constructor
 ·rintro⟨x,hx,h⟩;exact⟨x,hx,by rwa [Xm (hl x hx).1 (hl x hx).2 sx cp]at h⟩
 ·rintro⟨x,hx,h⟩;exact⟨x,hx,by rwa [Xm (hl x hx).1 (hl x hx).2 sx cp]⟩
theorem asd {l:List P}:fN (l.map cP)=fN l:=by
 unfold fN
 rw[List.getLast?_map]
 cases l.getLast?<;>rfl
theorem U8 {r:R}:∀{l:List Int} {k:Int},eW (cR r) k l=eW r k l
 |[],_=>rfl
 |a::t,k=>by simp only[eW,U8 (l:=t)];rfl
theorem ava {p:P} {l:List P} (hl:∀x∈l,0≤x.req∧x.req<w.rs.l.length):dY (cW w) (cP p) (l.map cP)=dY w p l:=by
 unfold dY
 rw[asd,xe,show(cP p).req=p.req from rfl,show(cP p).start=p.start from rfl,show(cP p).an.l=p.an.l from rfl]
 by_cases h1:wi p.req 0 (w.rs.l.length-1)=true
 ·obtain⟨h0,h2⟩:=gy.1 h1
  rw[Xn h0 (by omega) hl,u9 h0 (by omega)]
  simp only[U8,abQ]
  rfl
 ·rw[ak h1,ak h1]
theorem acf {p:P} {l:List P} (h:dY w p l=0):0≤p.req∧p.req<w.rs.l.length:=by
 unfold dY at h
 by_cases h1:wi p.req 0 (w.rs.l.length-1)=true
 ·obtain⟨h0,h2⟩:=gy.1 h1
  exact⟨h0,by omega⟩
 ·rw[ak h1]at h;exact absurd h (by decide)
theorem Yp {l:List P}:∀(n k:Nat),n+k=l.length→(∀x∈l.take k,0≤x.req∧x.req<w.rs.l.length)→
  fT (fun i x=>dY (cW w) x ((l.map cP).take i)) k ((l.map cP).drop k)=fT (fun i x=>dY w x (l.take i)) k (l.drop k)
 |0,k,h,_=>by
  have h1:l.drop k=[]:=DC (by omega)
  have h2:(l.map cP).drop k=[]:=DC (by rw[cg];omega)
  rw[h1,h2];rfl
 | n + 1, k, h, hl => by
  obtain⟨p,hp⟩:=get_some (l:=l) (k:=k) (by omega)
  have jJ:(l.map cP)[k]? =some (cP p):=by rw[iL,hp];rfl
  rw[xA hp,xA jJ]
  simp only[←I5]
  rw[ava hl]
  by_cases h0:dY w p (l.take k)=0
  ·rw[aj h0,aj h0]
   have:=Yp (l:=l) n (k+1) (by omega) (fun x hx=>by
    rw[du hp,dR]at hx
    rcases hx with hx|hx
    ·exact hl x hx
    ·rw[fS]at hx;rw[hx];exact acf h0)
   simp only[←I5]at this
   exact this
  ·rw[ak h0,ak h0]
theorem ahA {l:List P}:gC (cW w) (l.map cP)=gC w l:=by
 unfold gC
 have:=Yp (w:=w) (l:=l) l.length 0 (by omega) (fun x hx=>absurd hx (by simp))
 rw[iK,iK]at this
 rw[this]
theorem avk {l:List P}:jv (cW w) (l.map cP)=jv w l:=by
 unfold jv;rw[Dt,ahA]
theorem Nt:∀{l:List P},(∀x∈l,0≤x.req∧x.req<w.rs.l.length)→ck (cW w) (l.map cP)=ck w l
 |[],_=>rfl
 |p::r,h=>by
  have hp:=h p (by simp)
  simp only[fR,ck]
  rw[Nt fun x hx=>h x (cD _ hx),show(cP p).req=p.req from rfl,u9 hp.1 hp.2];rfl
theorem ag0 {l:List P} (hl:kf l):kf (l.map cP):=by
 refine⟨by rw[cg];exact hl.len,fun p hp=>?_⟩
 obtain⟨q,hq,rfl⟩:=cN.1 hp
 exact⟨xq,(hl.ok q hq).2⟩
end
section
variable{s:ae} {w:W}
theorem QV:∀{k:Nat} {l:List Int},l.length<k→bn k l=[]
 |0,_,h=>absurd h (dH _)
 |k+1,[],_=>rfl
 |k+1,x::r,h=>by
  simp only[bn]
  rw[QV (k:=k) (l:=r) (by simp at h;omega),QV (k:=k+1) (l:=r) (by simp at h;omega)];rfl
def oX (n:Nat) (g:List Int):Sl Int:=⟨if n=1 then .full else .any,1,g⟩
theorem adE {n:Nat} {g:List Int}:(oX n g).ok 1:=by
 refine⟨.inr rfl,?_⟩
 show(if n=1 then Own.full else Own.any)=.any∨(if n=1 then Own.full else Own.any)=.full∨_
 split
 ·exact .inr (.inl rfl)
 ·exact .inl rfl
def p8:Nat→List Int→AV
 |0,_=>.slice .full 1 [[.slice .aA 0 []]]
 |n+1,l=>bB 1 ((bn (n+1) l).map fun g=>[(oX (n+1) g).v aC])
theorem Gy {n:Nat} {l:List Int}:oR false (p8 n l)=some (I (bn n l).length):=by
 cases n with
 |zero=>simp only[p8,bn];rfl
 |succ n=>
  show oR false (bB 1 ((bn (n+1) l).map fun g=>[(oX (n+1) g).v aC]))=_
  rw[SH,cg]
theorem ahy {n:Nat} {l g:List Int} {k:Nat} (h:(bn n l)[k]? =some g):∃o e,gR none 1 (p8 n l) (I k)=some (.bd [.slice o e (g.map aC)] 0)∧(g=[]∨e=1)∧(g=[]↔n=0):=by
 have hg:=xJ (bE h)
 cases n with
 | zero =>
  have hk:k=0:=by
   have:=(bI.1 h).1
   simp[bn]at this;exact this
  subst hk
  have:g=[]:=rV hg
  subst this
  exact⟨.aA,0,rfl,.inl rfl,by simp⟩
 |succ n=>
  refine⟨_,1,MF (by rw[iL,h];rfl),.inr rfl,?_⟩
  constructor
  ·intro e;rw[e]at hg;simp at hg
  ·intro e;omega
theorem Oj {q:ae} {b:List (List AV)} {tk:List (Option Nat)} {lit ys:List (List AV)} {o:Own} {e:Nat} (he:ys=[]∨e=1) (hl:lit.length+ys.length≤4294967296):
  ∃o' tk',(∀b,et (q.push ⟨b,tk⟩) 1 (.slice .full 1 lit) (.slice o e ys)=some (.slice o' 1 (lit++ys),q.push ⟨b,tk'⟩))∧(∀(g:Nat) (n:Option Nat),tk[g]? =some n→tk'[g]? =some n)∧
   (AV.slice o' 1 (lit++ys)).close=some (.slice (if ys=[]then .full else .any) 1 (lit++ys)):=by
 by_cases h0:ys=[]
 ·subst h0
  refine⟨.full,tk,fun b=>by simp[et],fun _ _ h=>h,?_⟩
  simp only[kR,aj];rfl
 ·have ku:e=1:=by rcases he with h|h;exact absurd h h0;exact h
  subst ku
  have h1:ys.isEmpty=false:=by simpa using h0
  refine⟨.tok q.ag.length tk.length,tk++[some (lit.length+ys.length)],fun b=>?_,fun g n h=>?_,?_⟩
  ·simp[et,h1,Own.isNil,dD,hl,pO,oC,gD]
  ·have:=(bI.1 h).1
   rw[dG this];exact h
  ·rw[ak h0];rfl
theorem acF : ∀ (n : Nat) {s : ae} {l : List Int} {o : Own} {e : Nat}, Ok s → (l = [] ∨ e = 1) → l.length ≤ 6 → n ≤ 6 → aw AP (.fn 91) [.slice o e (l.map aC), I n] s = some (p8 n l, s)
 |0,s,l,o,e,hs,he,hl,_=>by
  rw[aG (show AP 91=some Bj from rfl) rfl]
  simp only[go_sem,OV,fY,simprocAttr]
  rfl
 | n + 1, s, l, o, e, hs, he, hl, hn => by
  have iC:decide (((n+1:Nat):Int)=0)=false:=by simp;omega
  have jr:IntKind.i64.wrap (((n+1:Nat):Int)-1)=(n:Int):=by rw[bq (by omega) (by omega)];omega
  have outer : ∀ (i : Int) ρ m, (∃ k : Nat, i = k ∧ ρ 0 = .slice o e (l.map aC) ∧ ρ 1 = I ((n + 1 : Nat) : Int) ∧ ρ 6 = I k ∧ ∃ D x og tk, k ≤ l.length ∧ bn (n + 1) l = D ++ bn (n + 1) (l.drop k) ∧ Acc s.ag.length 1 (D.map fun g => [(oX (n + 1) g).v aC]) x og tk ∧ ρ 5 = x ∧ m = s.push ⟨[], tk⟩) →
    go AP X3 (.c (.loop Ej)::aq3) ⟨ρ,m⟩=some (p8 (n+1) l,s):=by
   refine SK (l.length-(n+1):Int) _ _ ?_ ?_
   ·rintro i ρ m hi ⟨k,rfl,h0,h1,h6,D,x,og,tk,hk,hD,hA,h5,rfl⟩ ih
    obtain⟨a,ha⟩:=get_some (l:=l) (k:=k) (by omega)
    have cS:e=1:=by rcases he with h|h;(rw[h]at ha;simp at ha);exact h
    subst cS
    have bf:=cz (f:=aC) (o:=o) (es:=1) ha
    obtain⟨od,oP⟩:=TN (f:=aC) (o:=o) (es:=1) (k:=k+1) (l:=l) (by omega)
    have hle:decide (IntKind.i64.wrap ((k:Int)+((n+1:Nat):Int))≤(l.length:Int))=true:=by
     rw[bq (by omega) (by omega)];simp;omega
    have aY:IntKind.i64.wrap ((k:Int)+1)=((k+1:Nat):Int):=by rw[bq (by omega) (by omega)];omega
    have xY:∀r,aw AP (.fn 91) [.slice od 1 ((l.drop (k+1)).map aC),I n] (s.push r)=some (p8 n (l.drop (k+1)),s.push r):=fun r=>
     acF n (hs.push r) (.inr rfl) (by rw[pU];omega) (by omega)
    have hG:bn (n+1) (l.drop k)=(bn n (l.drop (k+1))).map (a::·)++bn (n+1) (l.drop (k+1)):=by
     rw[gO ha];rfl
    have vx:=B8 (k:=n) (l:=l.drop (k+1))
    have inner:∀(j:Nat) ρ m,j≤(bn n (l.drop (k+1))).length→(ρ 0=.slice o 1 (l.map aC)∧ρ 1=I ((n+1:Nat):Int)∧ρ 6=I k∧ρ 7=p8 n (l.drop (k+1))∧ρ 8=I j∧∃x og tk,Acc s.ag.length 1 ((D++((bn n (l.drop (k+1))).take j).map (a::·)).map fun g=>[(oX (n+1) g).v aC]) x og tk∧ρ 5=x∧m=s.push ⟨[],tk⟩)→
      go AP X3 (.c (.loop JN)::aq4) ⟨ρ,m⟩=some (p8 (n+1) l,s):=by
     refine bA _ _ _ ?_ ?_
     ·rintro j ρ m hj ⟨g0,g1,g6,g7,g8,x,og,tk,hA,g5,rfl⟩ eQ
      obtain⟨g,hg⟩:=get_some hj
      obtain⟨oi,ei,jG,hei,uf⟩:=ahy hg
      have aA2:(bn n (l.drop (k+1))).length≤64:=mN vx (mb (show 0<2 by omega) (show(l.drop (k+1)).length≤6 by rw[pU];omega))
      have vw:((bn n (l.drop (k+1))).length:Int)<9223372036854775808:=by omega
      have nS:D++((bn n (l.drop (k+1))).take (j+1)).map (a::·)=(D++((bn n (l.drop (k+1))).take j).map (a::·))++[a::g]:=by
       rw[du hg,fH,gK];rfl
      have RY:((bn n (l.drop (k+1))).take j).length≤64:=by rw[ez];omega
      have kz:=xJ (bE hg)
      obtain⟨o1,IG,cp,di,vq⟩:=Oj (q:=s) (b:=[]) (tk:=tk) (lit:=[[I a]]) (ys:=g.map aC) (o:=oi) (e:=ei) (by rcases hei with h|h;exact .inl (by rw[h];rfl);exact .inr h) (by simp;omega)
      have bu:(AV.slice o1 1 ([[I a]]++g.map aC)).close=some ((oX (n+1) (a::g)).v aC):=by
       rw[vq]
       have:(if g.map aC=[]then Own.full else Own.any)=(if n+1=1 then Own.full else Own.any):=by
        by_cases iC:n=0
        ·rw[aj (by rw[uf.2 iC];rfl),aj (by omega)]
        ·rw[ak (by intro h;exact iC (uf.1 (by simpa using h))),ak (by omega)]
       rw[this];rfl
      have aQ:closeAll [.slice o1 1 ([I a]::g.map aC)]=some [(oX (n+1) (a::g)).v aC]:=by
       simp only[ie,jW,fZ,gL]at bu⊢
       rw[bu];rfl
      have su:=Acc.ext hA di
      have hDl:D.length≤64:=by
       have h1:=B8 (k:=n+1) (l:=l)
       have h2:=mb (show 0<2 by omega) hl
       rw[hD,cG]at h1
       omega
      obtain⟨x2,fb,mK,ik,iB,hb3,hb4⟩:=su.append hs .full (ys:=[[(oX (n+1) (a::g)).v aC]]) (by simp) (by rw[cg,cG,cg,pV];omega)
      obtain⟨oa,ea,ra,rfl⟩:=Acc.sl hA
      obtain⟨ob,eb,rb,rfl⟩:=Acc.sl iB
      simp only[fZ,gL]at cp
      simp only[Sl.v]at ik aQ
      simp only[go_sem,JN,g0,g5,g6,g7,g8,Gy,aL hj,jG,bf,cp,aQ,ik,bh hj vw,simprocAttr]
      refine eQ _ _ ?_
      refine⟨g0,g1,g6,g7,rfl,_,fb,mK,?_,rfl,rfl⟩
      rw[nS,fH];exact iB
     ·rintro ρ m ⟨g0,g1,g6,g7,g8,x,og,tk,hA,g5,rfl⟩
      rw[er]at hA
      simp only[go_sem,JN,OX,g6,g7,g8,Gy,bg,aY,simprocAttr]
      refine ih _ _ ?_
      refine⟨k+1,by omega,g0,g1,rfl,_,x,og,tk,by omega,?_,hA,g5,rfl⟩
      rw[hD,hG,gK]
    simp only[go_sem,Ej,h0,h1,h6,hle,aY,oP,jr,xY,simprocAttr]
    refine inner 0 _ _ (aV _) ?_
    refine⟨h0,h1,h6,rfl,rfl,_,og,tk,?_,h5,rfl⟩
    rw[DM,pb,kR];exact hA
   ·rintro i ρ m hi ⟨k,rfl,h0,h1,h6,D,x,og,tk,hk,hD,hA,h5,rfl⟩
    have iH:bn (n+1) (l.drop k)=[]:=QV (by rw[pU];omega)
    rw[iH,kR]at hD
    have hle:decide (IntKind.i64.wrap ((k:Int)+((n+1:Nat):Int))≤(l.length:Int))=false:=by
     rw[bq (by omega) (by omega)];simp;omega
    have dc:∀q:ae,dL q x=some (p8 (n+1) l):=fun q=>by
     show _=some (bB 1 _)
     rw[hD];exact hA.leave q
    obtain⟨oa,ea,ra,rfl⟩:=Acc.sl hA
    simp only[go_sem,Ej,JO,h0,h1,h5,h6,hle,dc,simprocAttr]
  rw[aG (show AP 91=some Bj from rfl) rfl]
  simp only[go_sem,OV,iC,simprocAttr]
  refine outer 0 _ _ ?_
  exact⟨0,rfl,rfl,rfl,rfl,[],_,none,[],aV _,rfl,Acc.start,rfl,rfl⟩
end
end Go.Ax.Sx.Sc
