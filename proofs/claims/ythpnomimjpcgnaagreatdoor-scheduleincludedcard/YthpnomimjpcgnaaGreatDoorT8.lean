/- A part of the proof. -/
import Derived.Test.YthpnomimjpcgnaaGreatDoorT7
import Derived.KernelRfl
set_option linter.unusedSimpArgs false
set_option linter.unusedVariables false
set_option maxRecDepth 100000
namespace Go.Ax.Sx.Sc
open Go.Ax
section
variable{s:ae} {w:W}
theorem KL {Q:ae} {R r0:Rec} {g es:Nat} {xs:List (List AV)} (hQ:Ok Q) (h:r0.toks[g]? =some (some xs.length)):
  kD ((Q.push R).push r0) (.slice (.tok (Q.ag.length+1) g) es xs)=some (.slice (.tok Q.ag.length R.toks.length) es xs,Q.push ⟨R.boxes,R.toks++[some xs.length]⟩):=by
 have h1:((Q.push R).push r0).cur=Q.ag.length+1:=by rw[fw];simp[ae.push]
 have h2:((Q.push R).push r0).ro<Q.ag.length+1:=by have:=hQ.ro;show Q.ro<_;omega
 have h3:((Q.push R).push r0).tok (Q.ag.length+1) g=some xs.length:=by
  have:=xF (Q.push R) r0 g
  rw[show(Q.push R).ag.length=Q.ag.length+1 by simp[ae.push]]at this
  rw[this,h];rfl
 have h4:((Q.push R).push r0).jW Q.ag.length=R.toks.length:=by
  simp[ae.jW,ae.push]
 simp only[kD]
 rw[ak ⟨h1.symm,by omega,h2,h3⟩]
 simp only[Hy,h4,pop_push,nq]
theorem atQ {Q:ae} {l:List P} {o:Own} {e:Nat} {R:Rec} (hQ:Ok Q) (hn:l≠[]) (ho:o.isNil=false) (hl:l.length≤4294967296) (he:e=3):
  aw AP (.fn 90) [.slice o e (l.map aj)] (Q.push R)=some (.slice (.tok Q.ag.length R.toks.length) 3 (l.map aj),Q.push ⟨R.boxes,R.toks++[some l.length]⟩):=by
 subst he
 have hlen:(Q.push R).ag.length=Q.ag.length+1:=by simp[ae.push]
 have ha:ej ((Q.push R).push ⟨[],[]⟩) 3 (.slice .full 3 []) (.slice o 3 (l.map aj))=some (.slice (.tok (Q.ag.length+1) 0) 3 (l.map aj),(Q.push R).push ⟨[],[some l.length]⟩):=by
  have h3:=oH (Q.push R) ⟨[],[]⟩
  have h4:=nq (Q.push R) ⟨[],[]⟩ l.length
  rw[hlen]at h3 h4
  have h5:((Q.push R).push ⟨[],[]⟩).cur=Q.ag.length+1:=by rw[fw,hlen]
  simp[ej,Own.isNil,di,hl,hn,h3,h4,h5]
 have lG:=KL (Q:=Q) (R:=R) (r0:=⟨[],[some l.length]⟩) (g:=0) (es:=3) (xs:=l.map aj) hQ (by simp)
 rw[aL (show AP 90=some Az from rfl) rfl]
 simp only[go_sem,Nh,ho,ha,simprocAttr]
 exact lG.trans (by rw[bE])
theorem aec {tk:List (Option Nat)} {l:List P} {o:Own} {e:Nat} (hs:Ok s) (he:l=[]∨e=3) (ho:o.isNil=l.isEmpty) (hl:l.length≤4294967296):
  ∃x og tk',(∀bx,kL (aw AP) (s.push ⟨bx,tk⟩) 90 [.slice o e (l.map aj)]=some (x,s.push ⟨bx,tk'⟩))∧Acc s.ag.length 3 (l.map aj) x og tk':=by
 cases eN:l with
 | nil =>
  subst eN
  have po:o.isNil=true:=ho
  have:∀bx,aw AP (.fn 90) [.slice o e (([]:List P).map aj)] ((cB (s.push ⟨bx,tk⟩)).push ⟨[],[]⟩)=some (.slice .aA 0 [],(cB (s.push ⟨bx,tk⟩)).push ⟨[],[]⟩):=fun bx=>by
   rw[aL (show AP 90=some Az from rfl) rfl]
   simp only[go_sem,Nh,po,simprocAttr]
  refine⟨.slice .aA 0 [],none,tk,fun bx=>?_,rfl,rfl⟩
  unfold kL
  rw[show({(s.push ⟨bx,tk⟩).push ⟨[],[]⟩with ro:=(s.push ⟨bx,tk⟩).ag.length,bg:=(s.push ⟨bx,tk⟩).loops.length}:ae)=(cB (s.push ⟨bx,tk⟩)).push ⟨[],[]⟩from rfl,this]
  rfl
 | cons a q =>
  rw[←eN]
  have hn:l≠[]:=by rw[eN];simp
  have kz:e=3:=by rcases he with h|h;exact absurd h hn;exact h
  have po:o.isNil=false:=by rw[ho,eN];rfl
  refine⟨.slice (.tok s.ag.length tk.length) 3 (l.map aj),some tk.length,tk++[some l.length],fun bx=>?_,by simpa using hn,rfl,by simp⟩
  have:=atQ (Q:=cB (s.push ⟨bx,tk⟩)) (R:=⟨[],[]⟩) (o:=o) sF hn po hl kz
  have tz:(cB (s.push ⟨bx,tk⟩)).ag.length=(s.push ⟨bx,tk⟩).ag.length:=rfl
  have gD:(s.push ⟨bx,tk⟩).cur=s.ag.length:=fw _ _
  have hlen:(s.push ⟨bx,tk⟩).ag.length=s.ag.length+1:=by simp[ae.push]
  unfold kL
  rw[show({(s.push ⟨bx,tk⟩).push ⟨[],[]⟩with ro:=(s.push ⟨bx,tk⟩).ag.length,bg:=(s.push ⟨bx,tk⟩).loops.length}:ae)=(cB (s.push ⟨bx,tk⟩)).push ⟨[],[]⟩from rfl,this]
  have va:((cB (s.push ⟨bx,tk⟩)).push ⟨[],[some l.length]⟩).tok (s.push ⟨bx,tk⟩).ag.length 0=some l.length:=by
   have:=xF (cB (s.push ⟨bx,tk⟩)) ⟨[],[some l.length]⟩ 0
   rw[tz]at this;rw[this];rfl
  have bf:(s.push ⟨bx,tk⟩).ro<(s.push ⟨bx,tk⟩).ag.length:=by rw[hlen];have:=hs.ro;show s.ro<_;omega
  simp only[tz,iY,kh]
  rw[ak ⟨trivial,by omega,bf,by rw[va,bE]⟩]
  simp only[gD,oH,nq,bE]
abbrev my (m:Nat):List AV:=[I (m:Int)]
attribute [go_sem] my
def mn (w:W) (all:List (Sl P×Bool)) (plan:List P) (own:Nat) (sets:List Nat) (i:Nat) (p:P):Bool:=
 !cS w p plan&&sets.any fun m=>decide (m&&&(2^(i+1)-1)=own|||2^i)&&gZ w all (plan++[p]) m
def mW (w:W) (all:List (Sl P×Bool)) (plan:List P) (own:Nat) (sets:List Nat):Nat→Nat→Option P
 |_,0=>none
 |i,n+1=>match(all.getD i default).1.l.find? (mn w all plan own sets i)with
  |some p=>some p
  |none=>mW w all plan own sets (i+1) n
def mN (plan:List P):Nat:=match plan.getLast? with
 |some p=>p.req.toNat+1
 |none=>0
def sD (w:W) (all:List (Sl P×Bool)) (plan:List P) (own:Nat) (sets:List Nat):Option P:=mW w all plan own sets (mN plan) (all.length-mN plan)
theorem aqZ (i:Nat) (hi:i≤12):IntKind.i64.wrap (((2^(i+1):Nat):Int)-1)=((2^(i+1)-1:Nat):Int):=by
 have h:(2:Nat)^(i+1)≤2^13:=jq (by decide) (by omega)
 have h1:1≤(2:Nat)^(i+1):=Sd
 generalize(2:Nat)^(i+1)=q at*
 rw[bR (by omega) (by omega)]
 omega
theorem P7 {m k:Nat} (h:m<2^k) (hk:k≤63):m<2^63:=nk h (jq (by decide) hk)
theorem UY (a b:Nat):decide ((a:Int)=(b:Int))=decide (a=b):=by
 by_cases h:a=b
 ·rw[bS h,bS (by omega)]
 ·rw[ch h,ch (by omega)]
theorem age {α:Type} {p:α→Bool} {l:List α} {k:Nat} {x:α} (h:l[k]? =some x):(l.drop k).find? p=if p x=true then some x else(l.drop (k+1)).find? p:=by
 rw[eo h,RJ]
 cases p x<;>simp
theorem abT {α:Type} {p:α→Bool} {l:List α} {k:Nat} {x:α} (h:l[k]? =some x):(l.drop k).any p=(p x||(l.drop (k+1)).any p):=by
 rw[eo h,oM]
def vo (r:Option P):AV:=.tuple [.agg (aj (r.getD cZ)),B r.isSome]
theorem ado {o o2 o3 : Own} {e e2 e3 : Nat} {all : List (Sl P × Bool)} {plan : List P} {own : Nat} {sets : List Nat} (hs : Ok s) (hw : Wk w) (gm : sP w e all) (hp : ∀ p ∈ plan, bW w p) (jv : plan = [] ∨ e2 = 3) (y5 : o2.isNil = plan.isEmpty) (cD : plan.length ≤ 12)
    (lG:own<2^12) (Xq:∀m∈sets,m<2^w.rs.l.length) (ou:sets=[]∨e3=1) (ss:sets.length≤5000):
    aw AP (.fn 66) [CH w o e all,.slice o2 e2 (plan.map aj),I (own:Int),.slice o3 e3 (sets.map my)] s=some (vo (sD w all plan own sets),s):=by
  have et:=hw.v.rl
  have oZ:=gm.len
  have sB : ∀ (i : Nat) ρ x, (ρ 1 = .slice o2 e2 (plan.map aj) ∧ ρ 2 = I (own : Int) ∧ ρ 3 = .slice o3 e3 (sets.map my) ∧ ρ 4 = .ptr s.ag.length 0 0 ∧ ρ 8 = .ptr s.ag.length 1 0 ∧ ρ 12 = I (i : Int) ∧
      ∃bx tk,x=s.push ⟨[OW w,.slice o e (all.map gw)]::aj cZ::bx,tk⟩)→go AP Fj (.c (.loop uu)::PY) ⟨ρ,x⟩=some (vo (mW w all plan own sets i (all.length-i)),s):=by
    have step : ∀ (i : Nat) ρ x, i < all.length → (ρ 1 = .slice o2 e2 (plan.map aj) ∧ ρ 2 = I (own : Int) ∧ ρ 3 = .slice o3 e3 (sets.map my) ∧ ρ 4 = .ptr s.ag.length 0 0 ∧ ρ 8 = .ptr s.ag.length 1 0 ∧ ρ 12 = I (i : Int) ∧
        ∃bx tk,x=s.push ⟨[OW w,.slice o e (all.map gw)]::aj cZ::bx,tk⟩)→
        (∀ρ' x',(ρ' 1=.slice o2 e2 (plan.map aj)∧ρ' 2=I (own:Int)∧ρ' 3=.slice o3 e3 (sets.map my)∧ρ' 4=.ptr s.ag.length 0 0∧ρ' 8=.ptr s.ag.length 1 0∧ρ' 12=I ((i+1:Nat):Int)∧
          ∃bx tk,x'=s.push ⟨[OW w,.slice o e (all.map gw)]::aj cZ::bx,tk⟩)→go AP Fj (.c (.loop uu)::PY) ⟨ρ',x'⟩=some (vo (mW w all plan own sets (i+1) (all.length-(i+1))),s))→
        go AP Fj (.c uu::.lp uu::PY) ⟨ρ,x⟩=some (vo (mW w all plan own sets i (all.length-i)),s):=by
      rintro i ρ x hi ⟨h1,h2,h3,h4,h8,cG,bx,tk,rfl⟩ ih
      obtain⟨c,hc⟩:=get_some hi
      have ot:=bK hc
      have dD:e=2:=by rcases gm.e with h|h;(rw[h]at hc;simp at hc);exact h
      subst dD
      have hr:=cr (f:=gw) (o:=o) (es:=2) hc
      have wY:all.getD i default=c:=by simp[List.getD,hc]
      have O7:mW w all plan own sets i (all.length-i)=match c.1.l.find? (mn w all plan own sets i)with
          |some p=>some p
          |none=>mW w all plan own sets (i+1) (all.length-(i+1)):=by
        obtain⟨d,hd⟩:∃d,all.length-i=d+1:=⟨all.length-i-1,by omega⟩
        rw[hd,mW,wY,show all.length-(i+1)=d by omega]
      have FE:=gm.cnt c ot
      have iO:=gm.iD c ot
      have l7:=gm.ok c ot
      have h63:∀m∈sets,m<2^63:=fun m hm=>P7 (Xq m hm) (by omega)
      have PZ : ∀ (j : Nat) ρ x, j ≤ c.1.l.length → (ρ 1 = .slice o2 e2 (plan.map aj) ∧ ρ 2 = I (own : Int) ∧ ρ 3 = .slice o3 e3 (sets.map my) ∧ ρ 4 = .ptr s.ag.length 0 0 ∧ ρ 8 = .ptr s.ag.length 1 0 ∧ ρ 12 = I (i : Int) ∧ ρ 42 = c.1.v aj ∧ ρ 43 = I c.1.l.length ∧ ρ 44 = I j ∧
          ∃bx tk,x=s.push ⟨[OW w,.slice o 2 (all.map gw)]::aj cZ::bx,tk⟩)→
          go AP Fj (.c (.loop Ac)::amC) ⟨ρ,x⟩=some (vo (match(c.1.l.drop j).find? (mn w all plan own sets i)with|some p=>some p|none=>mW w all plan own sets (i+1) (all.length-(i+1))),s):=by
        refine cq c.1.l.length _ _ ?_ ?_
        · rintro j ρ x hj ⟨h1, h2, h3, h4, h8, cG, kt, l6, oq, bx, tk, rfl⟩ fQ
          obtain⟨p,u5⟩:=get_some hj
          have gV:=iO p (bK u5)
          have hr:=Sl.ix (f:=aj) l7 u5
          have ew:∀r,aw AP (.fn 86) [OW w,.agg (aj p),.slice o2 e2 (plan.map aj)] (s.push r)=some (B (cS w p plan),s.push r):=fun r=>Rm (hs.push r) hw gV hp jv (by omega)
          have jA:=bJ hj (show(c.1.l.length:Int)<_ by omega)
          rw[age u5]
          simp only[aj,Sl.v]at ew hr kt
          cases eM:cS w p plan with
          | true =>
            rw[eM]at ew
            have fF:mn w all plan own sets i p=false:=by simp[mn,eM]
            rw[fF,aq (by simp)]
            simp only[go_sem,Ac,HY,h1,h4,kt,l6,oq,hs,aR hj,hr,ew,jA,simprocAttr]
            refine fQ _ _ ?_
            exact⟨h1,h2,h3,h4,h8,cG,kt,l6,rfl,_,_,rfl⟩
          | false =>
            rw[eM]at ew
            have akg:mn w all plan own sets i p=sets.any fun m=>decide (m&&&(2^(i+1)-1)=own|||2^i)&&gZ w all (plan++[p]) m:=by simp[mn,eM]
            obtain⟨xc,ogc,K6,aP,hAc⟩:=aec (s:=s) (tk:=tk) (l:=plan) (o:=o2) (e:=e2) hs jv y5 (by omega)
            obtain⟨xa,qk,tka,cw,dX,uS,_⟩:=hAc.append hs .full (ys:=[aj p]) (by simp) (by simp;omega)
            have qM:closeAll (aj p)=some (aj p):=by
              simp only[aj,lZ,n9,oR,Sl.close gV.ok];rfl
            have Xd:∀m:ae,eD m (p.an.v aD)=some (p.an.v aD):=fun m=>Sl.BL gV.ok
            obtain⟨oa,hxa⟩:∃oa,xa=.slice oa 3 ((plan++[p]).map aj):=by
              cases qk with
              |none=>exact absurd rfl uS
              |some g=>exact⟨_,by rw[dX.2.1,fT];rfl⟩
            subst hxa
            have qh : ∀ (q : Nat) ρ x, q ≤ sets.length → (ρ 1 = .slice o2 e2 (plan.map aj) ∧ ρ 2 = I (own : Int) ∧ ρ 3 = .slice o3 e3 (sets.map my) ∧ ρ 4 = .ptr s.ag.length 0 0 ∧ ρ 8 = .ptr s.ag.length 1 0 ∧ ρ 12 = I (i : Int) ∧ ρ 14 = .ptr s.ag.length (bx.length + 1 + 1) 0 ∧ ρ 15 = .slice oa 3 ((plan ++ [p]).map aj) ∧ ρ 42 = c.1.v aj ∧ ρ 43 = I c.1.l.length ∧ ρ 44 = I j ∧ ρ 58 = .slice o3 e3 (sets.map my) ∧ ρ 59 = I sets.length ∧ ρ 60 = I q ∧
                ∃tk,x=s.push ⟨[OW w,.slice o 2 (all.map gw)]::aj cZ::(bx++[aj p]),tk⟩)→
                go AP Fj (.c (.loop Ad)::amD) ⟨ρ,x⟩=some (vo (if((sets.drop q).any fun m=>decide (m&&&(2^(i+1)-1)=own|||2^i)&&gZ w all (plan++[p]) m)=true then some p else match(c.1.l.drop (j+1)).find? (mn w all plan own sets i)with|some p=>some p|none=>mW w all plan own sets (i+1) (all.length-(i+1))),s):=by
              refine cq sets.length _ _ ?_ ?_
              · rintro q ρ x hq ⟨h1, h2, h3, h4, h8, cG, tu, Fu, kt, l6, oq, A6, yK, Fv, tk, rfl⟩ Kn
                obtain⟨m,lC⟩:=get_some hq
                have W6:=bK lC
                have fD:=Xq m W6
                have OI:e3=1:=by rcases ou with h|h;(rw[h]at lC;simp at lC);exact h
                subst OI
                have hr:=cr (f:=my) (o:=o3) (es:=1) lC
                have Gj:IntKind.i64.wrap ((i:Int)+1)=((i+1:Nat):Int):=by rw[bR]<;>omega
                have Po:=CL (k:=i+1) (by omega)
                have Pp:=CL (k:=i) (by omega)
                have l9:=aqZ i (by omega)
                have fB:2^(i+1)-1<2^63:=by
                  have:(2:Nat)^(i+1)≤2^13:=jq (by decide) (by omega)
                  have h8:(2:Nat)^13<2^63:=by decide
                  omega
                have iN:(2:Nat)^i<2^63:=LG (by decide) (by omega)
                have hand:=SE (a:=m) (b:=2^(i+1)-1) (h63 m W6) fB
                have y6:=SG (a:=own) (b:=2^i) (P7 lG (by decide)) iN
                have FJ:=UY (m&&&(2^(i+1)-1)) (own|||2^i)
                have nF:∀r,aw AP (.fn 65) [CH w o 2 all,.slice oa 3 ((plan++[p]).map aj),I (m:Int)] (s.push r)=some (B (gZ w all (plan++[p]) m),s.push r):=fun r=>
                  Uh (hs.push r) hw gm fD (fun y hy=>by
                    rcases c9.1 hy with h|h
                    · exact hp y h
                    · simp at h;subst h;exact gV) (.inr rfl) (by simp;omega)
                have XC:=bJ hq (show(sets.length:Int)<_ by omega)
                rw[abT lC]
                simp only[CH]at nF
                simp only[aj,Sl.v,cZ,nj]at Xd⊢
                cases hg:decide (m&&&(2^(i+1)-1)=own|||2^i)with
                | false =>
                  rw[hg]at FJ
                  simp only[go_sem,Ad,h2,cG,A6,yK,Fv,aR hq,hr,Gj,Po,Pp,l9,hand,y6,FJ,XC,jZ,nU,simprocAttr]
                  refine(Kn _ _ ?_).trans rfl
                  exact⟨h1,h2,h3,h4,h8,cG,tu,Fu,kt,l6,oq,A6,yK,rfl,_,rfl⟩
                | true =>
                  rw[hg]at FJ
                  cases hf:gZ w all (plan++[p]) m with
                  | false =>
                    rw[hf]at nF
                    simp only[go_sem,Ad,h2,h4,cG,Fu,A6,yK,Fv,aR hq,hr,Gj,Po,Pp,l9,hand,y6,FJ,nF,XC,nT,nU,simprocAttr]
                    refine(Kn _ _ ?_).trans rfl
                    exact⟨h1,h2,h3,h4,h8,cG,tu,Fu,kt,l6,oq,A6,yK,rfl,_,rfl⟩
                  | true =>
                    rw[hf]at nF
                    simp only[go_sem,Ad,h2,h4,h8,cG,tu,Fu,A6,yK,Fv,hs,aR hq,hr,Gj,Po,Pp,l9,hand,y6,FJ,nF,xK,zI,Xd,simprocAttr]
                    rfl
              · rintro ρ x ⟨h1, h2, h3, h4, h8, cG, tu, Fu, kt, l6, oq, A6, yK, Fv, tk, rfl⟩
                simp only[go_sem,Ad,HY,oq,yK,Fv,bM,jA,simprocAttr]
                rw[eE]
                refine(fQ _ _ ?_).trans rfl
                exact⟨h1,h2,h3,h4,h8,cG,kt,l6,rfl,_,_,rfl⟩
            simp only[aj,Sl.v,cZ,nj]at aP cw qM qh
            rw[akg]
            simp only[go_sem,Ac,h1,h3,h4,kt,l6,oq,hs,aR hj,hr,ew,aP,qM,cw,simprocAttr]
            refine(qh 0 _ _ (bh _) ?_).trans ?_
            · exact⟨h1,h2,h3,h4,h8,cG,rfl,rfl,kt,l6,oq,rfl,rfl,rfl,_,rfl⟩
            · rw [kI]
              cases(sets.any fun m=>decide (m&&&(2^(i+1)-1)=own|||2^i)&&gZ w all (plan++[p]) m)<;>rfl
        · rintro ρ x ⟨h1, h2, h3, h4, h8, cG, kt, l6, oq, bx, tk, rfl⟩
          have Gj:IntKind.i64.wrap ((i:Int)+1)=((i+1:Nat):Int):=by rw[bR]<;>omega
          simp only[go_sem,Ac,HX,cG,l6,oq,bM,Gj,simprocAttr]
          rw[eE]
          refine(ih _ _ ?_).trans rfl
          exact⟨h1,h2,h3,h4,h8,rfl,_,_,rfl⟩
      have hd:decide ((i:Int)<(all.length:Int))=true:=bS (by omega)
      rw[O7]
      simp only[go_sem,uu,h4,cG,hd,hr,simprocAttr]
      refine(PZ 0 _ _ (bh _) ?_).trans (by rw[kI])
      exact⟨h1,h2,h3,h4,h8,cG,rfl,rfl,rfl,_,_,rfl⟩
    intro i ρ x hP
    induction hn:all.length-i generalizing i ρ x with
    | zero =>
      obtain⟨h1,h2,h3,h4,h8,cG,bx,tk,rfl⟩:=hP
      have hd:decide ((i:Int)<(all.length:Int))=false:=ch (by omega)
      rw[go_loop]
      simp only[aj,Sl.v,cZ,nj]
      simp only[go_sem,uu,CS,h4,h8,cG,hs,hd,simprocAttr]
      rfl
    | succ d ih =>
      rw[go_loop,←hn]
      refine step i ρ x (by omega) hP fun ρ' x' uP=>?_
      rw[ih (i+1) ρ' x' uP (by omega),show all.length-(i+1)=d by omega]
  have nI:∀(a:P),plan.getLast?=some a→plan[plan.length-1]? =some a:=fun a h=>by rw[←abn];exact h
  rw[aL (show AP 66=some DK from rfl) rfl]
  cases kA:plan.getLast? with
  | none =>
    have Bt:plan=[]:=RQ.1 kA
    subst Bt
    simp only[CH,OW,aj,Sl.v,cZ,nj]at sB⊢
    simp only[go_sem,Mb,fp,simprocAttr]
    refine(sB 0 _ _ ?_).trans ?_
    · exact⟨rfl,rfl,rfl,rfl,rfl,rfl,[],[],rfl⟩
    · rfl
  | some a =>
    have gE:=nI a kA
    have rY:=hp a (bK gE)
    have aB:0<plan.length:=by
      have:=(aY.1 gE).1;omega
    have OI:e2=3:=by rcases jv with h|h;(rw[h]at aB;simp at aB);exact h
    subst OI
    have hr:=cr (f:=aj) (o:=o2) (es:=3) gE
    have jz:IntKind.i64.wrap ((plan.length:Int)-1)=((plan.length-1:Nat):Int):=by rw[bR]<;>omega
    have hd:decide ((0:Int)<(plan.length:Int))=true:=bS (by omega)
    have jw:=rY.r0
    have gH:=rY.r1
    have xh:IntKind.i64.wrap (a.req+1)=((a.req.toNat+1:Nat):Int):=by rw[bR]<;>omega
    have aiG:mN plan=a.req.toNat+1:=by simp[mN,kA]
    simp only[CH,OW,aj,Sl.v,cZ,nj]at sB hr⊢
    simp only[go_sem,Mb,hd,jz,hr,xh,simprocAttr]
    refine(sB (a.req.toNat+1) _ _ ?_).trans ?_
    · exact⟨rfl,rfl,rfl,rfl,rfl,rfl,[],[],rfl⟩
    · simp only[sD,aiG]
end
def sM (w:W) (all:List (Sl P×Bool)) (st:Int×List Nat) (m:Nat):Int×List Nat:=
 if(decide (st.1≤jo w m)&&(pF all m&&gZ w all [] m))=true then(if st.1<jo w m then(jo w m,[m])else(st.1,st.2++[m]))else st
def du (w:W) (all:List (Sl P×Bool)) (n:Nat):Int×List Nat:=(List.range n).foldl (sM w all) (-1,[])
theorem B9 {w:W} {all:List (Sl P×Bool)} {n:Nat}:du w all (n+1)=sM w all (du w all n) n:=by
 simp[du,zR]
theorem aah {w:W} {all:List (Sl P×Bool)}:∀{n:Nat},(du w all n).2.length≤n
 |0=>by simp[du]
 | n + 1 => by
  have ih:=aah (w:=w) (all:=all) (n:=n)
  rw[B9];unfold sM
  split
  ·split
   ·simp
   ·simp;omega
  ·omega
theorem aai {w:W} {all:List (Sl P×Bool)} {m:Nat}:∀{n:Nat},m∈(du w all n).2→m<n
 |0,h=>by simp[du]at h
 | n + 1, h => by
  have ih:=fun h=>aai (w:=w) (all:=all) (m:=m) (n:=n) h
  rw[B9]at h;unfold sM at h
  split at h
  ·split at h
   ·simp at h;omega
   ·rcases c9.1 h with h|h
    ·have:=ih h;omega
    ·simp at h;omega
  ·have:=ih h;omega
def dj (plan:List P):Nat:=plan.foldl (fun o p=>o|||2^p.req.toNat) 0
def nz (w:W) (all:List (Sl P×Bool)) (sets:List Nat):Nat→List P→List P
 |0,plan=>plan
 |n+1,plan=>if(sets.any fun m=>decide (dj plan=m))=true then plan else match sD w all plan (dj plan) sets with
  |some p=>nz w all sets n (plan++[p])
  |none=>plan
def iq (w:W) (all:List (Sl P×Bool)):List P×Int×Bool:=
 if(du w all (2^all.length)).1<0 then([],0,false)
 else(nz w all (du w all (2^all.length)).2 (all.length+1) [],(du w all (2^all.length)).1,true)
theorem Qg {w:W} {all:List (Sl P×Bool)} {plan:List P} {own:Nat} {sets:List Nat} {p:P}:∀{n i:Nat},mW w all plan own sets i n=some p→∃j,i≤j∧j<i+n∧p∈(all.getD j default).1.l∧mn w all plan own sets j p=true
 |0,_,h=>by cases h
 | n + 1, i, h => by
  simp only[mW]at h
  split at h
  ·rename_i q hq
   injection h with h
   subst h
   exact⟨i,aH _,by omega,RS hq,Lq hq⟩
  ·obtain⟨j,h1,h2,h3⟩:=Qg h
   exact⟨j,by omega,by omega,h3⟩
theorem N4 {plan:List P} {p:P}:mN (plan++[p])=p.req.toNat+1:=by simp[mN]
section
variable{s:ae} {w:W}
theorem sP.akv {e:Nat} {all:List (Sl P×Bool)} (h:sP w e all) {j:Nat} (hj:j<all.length) {p:P} (hp:p∈(all.getD j default).1.l):bW w p∧p.req=j:=by
 obtain⟨c,hc⟩:=get_some hj
 have e1:all.getD j default=c:=by simp[List.getD,hc]
 rw[e1]at hp
 exact⟨h.iD c (bK hc) p hp,h.req j c hc p hp⟩
theorem ao6 {e:Nat} {all:List (Sl P×Bool)} {plan:List P} {own:Nat} {sets:List Nat} {p:P} (hA:sP w e all) (h:sD w all plan own sets=some p):bW w p∧mN plan≤p.req.toNat∧p.req.toNat<all.length:=by
 obtain⟨j,h1,h2,h3,_⟩:=Qg h
 obtain⟨h4,h5⟩:=hA.akv (j:=j) (by omega) h3
 exact⟨h4,by omega,by omega⟩
theorem Y7 {plan:List P} {p:P}:dj (plan++[p])=dj plan|||2^p.req.toNat:=by simp[dj]
theorem Y8:∀{plan:List P},(∀p∈plan,p.req.toNat<12)→dj plan<2^12:=by
 intro plan h
 have:∀(l:List P) (o:Nat),o<2^12→(∀p∈l,p.req.toNat<12)→l.foldl (fun o p=>o|||2^p.req.toNat) o<2^12:=by
  intro l
  induction l with
  |nil=>intro o ho _;exact ho
  |cons a r ih=>
   intro o ho hl
   exact ih _ (Nat.or_lt_two_pow ho (LG (by decide) (hl a (vI ..)))) fun p hp=>hl p (gP _ hp)
 exact this plan 0 (by decide) h
def Al (r:List P×Int×Bool):AV:=.tuple [bp 3 (r.1.map aj),I r.2.1,B r.2.2]
theorem Ug {o : Own} {e : Nat} {all : List (Sl P × Bool)} (hs : Ok s) (hw : Wk w) (gm : sP w e all) : aw AP (.fn 29) [CH w o e all] s = some (Al (iq w all), s) := by
 have et:=hw.v.rl
 have oZ:=gm.len
 have avH:2^all.length≤4096:=by
  have:(2:Nat)^all.length≤2^12:=jq (by decide) (by omega)
  exact jK this (by decide)
 have ss:∀n,n≤2^all.length→(du w all n).2.length≤4096:=fun n hn=>jK aah (by omega)
 have anN : ∀ (f : Nat) (plan : List P) (ρ : Nat → AV) (x : ae) (sets : List Nat) (di : Int), sets = (du w all (2 ^ all.length)).2 → all.length + 1 - mN plan ≤ f → mN plan ≤ all.length → plan.length ≤ mN plan → (∀ p ∈ plan, bW w p) →
   (ρ 1=.ptr s.ag.length 0 0∧(∃o5 e5,ρ 5=.slice o5 e5 (sets.map my)∧(sets=[]∨e5=1))∧ρ 6=I di∧∃og tk bx,Acc s.ag.length 3 (plan.map aj) (ρ 9) og tk∧x=s.push ⟨[OW w,.slice o e (all.map gw)]::bx,tk⟩)→
   go AP NR (.c (.loop HR)::amw) ⟨ρ,x⟩=some (.tuple [bp 3 ((nz w all sets f plan).map aj),I di,B true],s):=by
  intro f
  induction f with
  |zero=>intro plan ρ x sets di sn hf nF;omega
  | succ f ihf =>
   rintro plan ρ x sets di sn hf nF cD dE ⟨h1,⟨o5,e5,h5,OJ⟩,h6,og,tk,bx,hA,rfl⟩
   have zd:∀p∈plan,p.req.toNat<12:=fun p hp=>by have:=(dE p hp).r0;have:=(dE p hp).r1;omega
   have lG:=Y8 zd
   have ajV:∀m∈sets,m<2^w.rs.l.length:=fun m hm=>by
    rw[sn]at hm;have:=aai hm;rw[oZ]at this;exact this
   have avN:sets.length≤4096:=by rw[sn];exact ss _ (aH _)
   obtain⟨o9,e9,Oe,WI,ho9⟩:∃o9 e9,ρ 9=.slice o9 e9 (plan.map aj)∧(plan=[]∨e9=3)∧o9.isNil=plan.isEmpty:=by
    cases og with
    |none=>
     obtain⟨q1,q2⟩:=hA
     have:plan=[]:=by simpa using q1
     subst this
     exact⟨_,_,q2,.inl rfl,rfl⟩
    |some g=>
     refine⟨_,_,hA.2.1,.inr rfl,?_⟩
     have:plan≠[]:=by have:=hA.1;simpa using this
     cases plan with
     |nil=>exact absurd rfl this
     |cons a r=>rfl
   have FF:∀r,aw AP (.fn 61) [.slice o5 e5 (sets.map my),I (dj plan:Int)] (s.push r)=some (B (sets.any fun m=>decide (dj plan=m)),s.push r):=fun r=>by
    have:=Lf (s:=s.push r) (l:=sets.map fun m:Nat=>(m:Int)) (x:=(dj plan:Int)) (o:=o5) (e:=e5) (by rcases OJ with h|h;exact .inl (by simp[h]);exact .inr h) (by simp;omega)
    rw[xU]at this
    rw[show(sets.map my)=sets.map ((fun a:Int=>[I a])∘fun m:Nat=>(m:Int))from rfl,this,Hh]
    congr 4
    funext m
    exact UY _ _
   have gn:∀r,aw AP (.fn 66) [CH w o e all,.slice o9 e9 (plan.map aj),I (dj plan:Int),.slice o5 e5 (sets.map my)] (s.push r)=some (vo (sD w all plan (dj plan) sets),s.push r):=fun r=>
    ado (hs.push r) hw gm dE WI ho9 (by omega) lG ajV OJ (by omega)
   have anM : ∀ (j : Nat) ρ x, j ≤ plan.length → (ρ 1 = .ptr s.ag.length 0 0 ∧ ρ 5 = .slice o5 e5 (sets.map my) ∧ ρ 6 = I di ∧ ρ 9 = .slice o9 e9 (plan.map aj) ∧ ρ 10 = I (dj (plan.take j) : Int) ∧ ρ 49 = .slice o9 e9 (plan.map aj) ∧ ρ 50 = I plan.length ∧ ρ 51 = I j ∧
     ∃bx,x=s.push ⟨[OW w,.slice o e (all.map gw)]::bx,tk⟩)→
     go AP NR (.c (.loop Aa)::amx) ⟨ρ,x⟩=some (.tuple [bp 3 ((nz w all sets (f+1) plan).map aj),I di,B true],s):=by
    refine cq plan.length _ _ ?_ ?_
    ·rintro j ρ x hj ⟨h1,h5,h6,h9,dm,rS,nC,pY,bx,rfl⟩ ih
     obtain⟨p,hp⟩:=get_some hj
     have oC:=dE p (bK hp)
     have ou:e9=3:=by rcases WI with h|h;(rw[h]at hp;simp at hp);exact h
     subst ou
     have hr:=cr (f:=aj) (o:=o9) (es:=3) hp
     have p0:=oC.r0
     have p1:=oC.r1
     have ib:dC .shl (I 1) (I p.req)=some (I ((2^p.req.toNat:Nat):Int)):=by
      have:=CL (k:=p.req.toNat) (by omega)
      rwa [show((p.req.toNat:Nat):Int)=p.req by omega]at this
     have aC:dj (plan.take j)<2^63:=P7 (Y8 fun q hq=>zd q (vJ hq)) (by decide)
     have y6:=SG (a:=dj (plan.take j)) (b:=2^p.req.toNat) aC (LG (by decide) (by omega))
     have hon:dj (plan.take (j+1))=dj (plan.take j)|||2^p.req.toNat:=by rw[fi hp,Y7]
     simp only[go_sem,Aa,h1,h5,h6,h9,dm,rS,nC,pY,hs,aR hj,hr,ib,y6,bJ hj (show(plan.length:Int)<_ by omega),fp,simprocAttr]
     refine ih _ _ ?_
     refine⟨h1,h5,h6,h9,?_,rS,nC,rfl,_,rfl⟩
     rw[hon];rfl
    ·rintro ρ x ⟨h1,h5,h6,h9,dm,rS,nC,pY,bx,rfl⟩
     rw[ig]at dm
     have yL:=hA
     rw[Oe]at yL
     have cT:=yL.leave
     have hgp:nz w all sets (f+1) plan=if(sets.any fun m=>decide (dj plan=m))=true then plan else match sD w all plan (dj plan) sets with
      |some p=>nz w all sets f (plan++[p])
      |none=>plan:=rfl
     rw[hgp]
     cases hc:sets.any fun m=>decide (dj plan=m)with
     |true=>
      rw[hc]at FF
      simp only[go_sem,Aa,CR,h1,h5,h6,h9,dm,nC,pY,hs,bM,FF,cT,bZ,fp,simprocAttr]
     | false =>
      rw[hc]at FF
      simp only[eB,dt]
      cases hn:sD w all plan (dj plan) sets with
      |none=>
       rw[hn]at gn
       simp only[vo,Option.getD_none,rB,aj,Sl.v,cZ,nj]at gn
       simp only[go_sem,Aa,CR,h1,h5,h6,h9,dm,nC,pY,hs,bM,FF,gn,cT,fp,simprocAttr]
      | some p =>
       rw[hn]at gn
       obtain⟨n1,n2,n3⟩:=ao6 gm hn
       have qM:closeAll (aj p)=some (aj p):=by
        simp only[aj,lZ,n9,oR,Sl.close n1.ok];rfl
       obtain⟨x',gv,tk',cw,dX,_⟩:=yL.append hs .full (ys:=[aj p]) (by simp) (by simp;omega)
       simp only[vo,kZ,vO,aj,Sl.v]at gn qM cw
       simp only[go_sem,Aa,CR,h1,h5,h6,h9,dm,nC,pY,hs,bM,FF,gn,qM,cw,fp,simprocAttr]
       refine(ihf (plan++[p]) _ _ sets di sn (by rw[N4];omega) (by rw[N4];omega) (by rw[N4];simp;omega) (fun q hq=>?_) ?_).trans rfl
       ·rcases c9.1 hq with h|h
        ·exact dE q h
        ·simp at h;subst h;exact n1
       ·refine⟨h1,⟨o5,e5,h5,OJ⟩,h6,gv,tk',_,?_,rfl⟩
        rw[fT];exact dX
   rw[go_loop]
   simp only[go_sem,HR,h1,h5,h6,Oe,hs,fp,simprocAttr]
   refine anM 0 _ _ (bh _) ?_
   exact⟨h1,h5,h6,Oe,rfl,rfl,rfl,rfl,_,rfl⟩
 have X4 : ∀ (j : Nat) ρ x, j ≤ 2 ^ all.length → (ρ 1 = .ptr s.ag.length 0 0 ∧ ρ 6 = I (du w all j).1 ∧ ρ 18 = I ((2 ^ all.length : Nat) : Int) ∧ ρ 19 = I j ∧
   ∃og tk,Acc s.ag.length 1 ((du w all j).2.map my) (ρ 5) og tk∧x=s.push ⟨[[OW w,.slice o e (all.map gw)]],tk⟩)→
   go AP NR (.c (.loop ur)::amy) ⟨ρ,x⟩=some (Al (iq w all),s):=by
  refine cq (2^all.length) _ _ ?_ ?_
  ·rintro j ρ x hj ⟨h1,h6,gb,pV,og,tk,hA,rfl⟩ ih
   have OR:j<2^w.rs.l.length:=by rw[←oZ];exact hj
   have aiT:j<2^62:=nk OR (jq (by decide) (by omega))
   have nP:∀r,aw AP (.fn 63) [CH w o e all,I (j:Int)] (s.push r)=some (I (jo w j),s.push r):=fun r=>adp (hs.push r) hw OR
   have gU:∀r,aw AP (.fn 64) [CH w o e all,I (j:Int)] (s.push r)=some (B (pF all j),s.push r):=fun r=>adn (hs.push r) gm.e (by omega) aiT
   have nF:∀r,aw AP (.fn 65) [CH w o e all,.slice .aA 0 [],I (j:Int)] (s.push r)=some (B (gZ w all [] j),s.push r):=fun r=>Uh (plan:=[]) (hs.push r) hw gm OR (by simp) (.inl rfl) (by simp)
   have jA:=bJ hj (show(((2^all.length:Nat):Nat):Int)<_ by omega)
   have bX:=B9 (w:=w) (all:=all) (n:=j)
   have aC:=aR hj
   have hsj:=ss j (by omega)
   generalize du w all j=st at*
   generalize du w all (j+1)=aO at*
   generalize u7:jo w j=W1 at*
   generalize Xi:pF all j=B1 at*
   generalize hq3:gZ w all [] j=B2 at*
   unfold sM at bX
   rw[u7,Xi,hq3]at bX
   simp only[CH]at nP gU nF
   cases hg:decide (st.1≤W1)with
   |false=>
    rw[hg,jZ,aq (by simp)]at bX
    simp only[go_sem,ur,h1,h6,gb,pV,hs,aC,nP,gU,nF,hg,jA,fp,simprocAttr]
    refine ih _ _ ?_
    exact⟨h1,by rw[bX];exact h6,gb,rfl,og,tk,by rw[bX];exact hA,rfl⟩
   | true =>
    cases B1 with
    |false=>
     rw[hg,jZ,nT,aq (by simp)]at bX
     simp only[go_sem,ur,h1,h6,gb,pV,hs,aC,nP,gU,nF,hg,jA,fp,simprocAttr]
     refine ih _ _ ?_
     exact⟨h1,by rw[bX];exact h6,gb,rfl,og,tk,by rw[bX];exact hA,rfl⟩
    | true =>
     cases B2 with
     |false=>
      rw[hg,nT,nT,aq (by simp)]at bX
      simp only[go_sem,ur,h1,h6,gb,pV,hs,aC,nP,gU,nF,hg,jA,fp,simprocAttr]
      refine ih _ _ ?_
      exact⟨h1,by rw[bX];exact h6,gb,rfl,og,tk,by rw[bX];exact hA,rfl⟩
     | true =>
      rw[hg,xK,xK,ak rfl]at bX
      by_cases hm:st.1<W1
      ·have hd:decide (st.1<W1)=true:=bS hm
       rw[ak hm]at bX
       obtain⟨x',gv,tk',cw,dX,_⟩:=(Acc.start (d:=s.ag.length) (es:=1) (toks:=tk)).append hs .full (ys:=[my j]) (by simp) (by simp)
       simp only[go_sem,ur,h1,h6,gb,pV,hs,aC,nP,gU,nF,hg,jA,hd,cw,fp,simprocAttr]
       refine ih _ _ ?_
       exact⟨h1,by rw[bX];rfl,gb,rfl,gv,tk',by rw[bX];exact dX,rfl⟩
      ·have hd:decide (st.1<W1)=false:=ch hm
       rw[aq hm]at bX
       obtain⟨x',gv,tk',cw,dX,_⟩:=hA.append hs .full (ys:=[my j]) (by simp) (by simp;omega)
       simp only[go_sem,ur,h1,h6,gb,pV,hs,aC,nP,gU,nF,hg,jA,hd,cw,fp,simprocAttr]
       refine ih _ _ ?_
       exact⟨h1,by rw[bX];exact h6,gb,rfl,gv,tk',by rw[bX,fT];exact dX,rfl⟩
  ·rintro ρ x ⟨h1,h6,gb,pV,og,tk,hA,rfl⟩
   have ia:=anN (all.length+1) []
   unfold iq
   by_cases lD:(du w all (2^all.length)).1<0
   ·have hd:decide ((du w all (2^all.length)).1<0)=true:=bS lD
    rw[ak lD]
    simp only[go_sem,ur,HS,h1,h6,gb,pV,hs,bM,hd,fp,simprocAttr]
    rfl
   ·have hd:decide ((du w all (2^all.length)).1<0)=false:=ch lD
    rw[aq lD]
    have h5:∃o5 e5,ρ 5=.slice o5 e5 ((du w all (2^all.length)).2.map my)∧((du w all (2^all.length)).2=[]∨e5=1):=by
     cases og with
     |none=>obtain⟨q1,q2⟩:=hA;exact⟨_,_,by rw[q2,q1],.inl (by simpa using q1)⟩
     |some g=>exact⟨_,_,hA.2.1,.inr rfl⟩
    simp only[go_sem,ur,HS,h1,h6,gb,pV,hs,bM,hd,fp,simprocAttr]
    refine(ia _ _ _ _ rfl (by simp[mN]) (by simp[mN]) (by simp) (by simp) ?_).trans rfl
    exact⟨h1,h5,h6,none,tk,[],Acc.start,rfl⟩
 have ib:=CL (k:=all.length) (by omega)
 rw[aL (show AP 29=some DH from rfl) rfl]
 simp only[CH,OW]at X4⊢
 simp only[go_sem,SW,hs,ib,fp,simprocAttr]
 refine X4 0 _ _ (bh _) ?_
 exact⟨rfl,rfl,rfl,rfl,none,[],Acc.start,rfl⟩
end
def ie (w:W):Int:=if(dH w).2.2=0 then cond (zG w) 0 8 else(dH w).2.2
section
variable{s:ae} {w:W}
theorem agn (hw:Wk w):sP w (dv 2 (dL w)).e (dL w):=by
 have dV:∀(i:Nat) (c:Sl P×Bool),(dL w)[i]? =some c→i<w.rs.l.length∧c=(dv 3 (cd w [] (i:Nat)),true):=fun i c h=>by
  have hi:=(aY.1 h).1
  rw[dL,N3]at hi
  refine⟨hi,?_⟩
  rw[dL,rR,gN,Hl hi]at h
  injection h with h
  exact h.symm
 have ji:∀c∈dL w,∃i:Nat,i<w.rs.l.length∧c=(dv 3 (cd w [] (i:Nat)),true):=fun c hc=>by
  obtain⟨i,hi⟩:=n5 hc
  exact⟨i,dV i c hi⟩
 refine⟨?_,by simp[dL,N3],fun c hc=>?_,fun c hc=>?_,fun c hc p hp=>?_,fun i c hc p hp=>?_⟩
 ·cases dL w
  ·exact .inl rfl
  ·exact .inr rfl
 ·obtain⟨i,hi,rfl⟩:=ji c hc;exact vR
 ·obtain⟨i,hi,rfl⟩:=ji c hc
  rw[j5]
  exact jK (lR _ _) (xA hw (by omega) (by omega))
 ·obtain⟨i,hi,rfl⟩:=ji c hc
  rw[j5]at hp
  exact(lL hw (i:=(i:Nat)) (by omega) (by omega) (eP.1 hp).1).1
 ·obtain⟨hi,rfl⟩:=dV i c hc
  rw[j5]at hp
  exact(lL hw (i:=(i:Nat)) (by omega) (by omega) (eP.1 hp).1).2.1
def Dy (w:W):List P×Int×Bool:=iq w (dL w)
theorem asj (hs:Ok s) (hw:w.Ok) (hf:w.kY):aw AP (.fn 15) [w.v] s=some (.tuple [bp 3 ((if ie w=0 then(Dy w).1 else[]).map aj),I (if ie w=0 then(Dy w).2.1 else 0),I (ie w)],s):=by
 have ho:∀r,aw AP (.fn 22) [w.v] (s.push r)=some (.tuple [if(dH w).2.2=0 then OW w else NP,I (ie w)],s.push r):=fun r=>Z4 (hs.push r) hw hf
 rw[aL (show AP 15=some Ef from rfl) rfl]
 simp only[W.v,bQ,Sl.v]at ho
 by_cases h0:ie w=0
 ·have he:(dH w).2.2=0:=by
   unfold ie at h0
   by_cases h:(dH w).2.2=0
   ·exact h
   ·rw[aq h]at h0;exact absurd h0 h
  have cV:Wk w:=⟨hw,hf,sO he⟩
  rw[ak he,h0]at ho
  have p9:∀r,aw AP (.fn 44) [OW w] (s.push r)=some (CH w (dv 2 (dL w)).o (dv 2 (dL w)).e (dL w),s.push r):=fun r=>by
   rw[atz (hs.push r) cV,rE];simp only[Sl.v,j5]
  have qG:∀r,aw AP (.fn 29) [CH w (dv 2 (dL w)).o (dv 2 (dL w)).e (dL w)] (s.push r)=some (Al (Dy w),s.push r):=fun r=>Ug (hs.push r) cV (agn cV)
  rw[h0]
  simp only[CH,Al]at p9 qG
  simp only[bZ]
  simp only[go_sem,ML,ho,p9,qG,bq,fI,simprocAttr]
 ·simp only[h0,dt]
  simp only[go_sem,ML,ho,bq,h0,jV,simprocAttr]
  rfl
end
def iB (l:List P):Int:=match l.getLast? with
 |some p=>p.req
 |none=>-1
def eQ (r:R):Int→List Int→Int
 |_,[]=>0
 |last,a::t=>if(r.an.l.any fun b=>decide (a=b))=true then(if last<a then eQ r a t else 9)else 6
def dR (w : W) (p : P) (U5 : List P) : Int :=
 if wi p.req 0 (w.rs.l.length - 1) = true then
  if iB U5 < p.req then
   if wi p.start (w.rq p.req).lo ((w.rq p.req).hi + 1 - (w.rq p.req).len) = true then
    if(p.an.l.length:Int)=(w.rq p.req).need then
     if eQ (w.rq p.req) (-1) p.an.l=0 then
      if(p.an.l.any fun a=>!cU w a p.start (w.rq p.req).len)=true then 21
      else if cS w p U5=true then 13 else 0
     else eQ (w.rq p.req) (-1) p.an.l
    else 10
   else 2
  else 9
 else 6
theorem HL {w:W} {r:R} {st len:Int}:∀{l:List Int} {last:Int},eQ r last l=0→(∀a∈l,(r.an.l.any fun b=>decide (a=b))=true)∧(∀a∈l,last<a)
 |[],_,_=>by simp
 | a :: t, last, h => by
  simp only[eQ]at h
  by_cases h1:(r.an.l.any fun b=>decide (a=b))=true
  ·rw[ak h1]at h
   by_cases h2:last<a
   ·rw[ak h2]at h
    obtain⟨i1,i2⟩:=HL (w:=w) (st:=st) (len:=len) h
    refine⟨fun b hb=>?_,fun b hb=>?_⟩
    ·rcases eF.1 hb with rfl|hb
     ·exact h1
     ·exact i1 b hb
    ·rcases eF.1 hb with rfl|hb
     ·exact h2
     ·have:=i2 b hb;omega
   ·rw[aq h2]at h;omega
  ·rw[aq h1]at h;omega
theorem Qa {l:List Int} {a:Int} (h:(l.any fun b=>decide (a=b))=true):a∈l:=by
 obtain⟨b,hb,he⟩:=fS.1 h
 have:a=b:=by simpa using he
 rw[this];exact hb
section
variable{s:ae} {w:W}
theorem atA {p:P} {l:List P} {o:Own} {e:Nat} (hs:Ok s) (hw:Wk w) (cH:p.an.ok 1) (cD:(p.an.l.length:Int)<1000000) (hl:∀x∈l,bW w x) (he:l=[]∨e=3) (hn:(l.length:Int)<1000000):
  aw AP (.fn 55) [OW w,.agg (aj p),.slice o e (l.map aj)] s=some (I (dR w p l),s):=by
 have et:=hw.v.rl
 have iQ:=hw.v.n2
 have gp:∀q:ae,aw AP (.fn 25) [OW w,I p.req] q=some (I (cond (wi p.req 0 (w.rs.l.length-1)) 0 6),q):=fun q=>aaX hw
 have main : ∀ (h0 : 0 ≤ p.req) (h1 : p.req < w.rs.l.length), (w.rq p.req).lo ≤ p.start → p.start ≤ (w.rq p.req).hi + 1 - (w.rq p.req).len → ∀ (j : Nat) ρ x, j ≤ p.an.l.length → (ρ 0 = OW w ∧ ρ 2 = .slice o e (l.map aj) ∧ ρ 4 = .ptr s.ag.length 0 0 ∧ ρ 10 = .ptr s.ag.length 1 0 ∧ ρ 76 = p.an.v aD ∧ ρ 77 = I p.an.l.length ∧ ρ 78 = I j ∧
   (∃last:Int,ρ 7=I last∧eQ (w.rq p.req) (-1) p.an.l=eQ (w.rq p.req) last (p.an.l.drop j))∧ρ 12=B ((p.an.l.take j).any fun a=>!cU w a p.start (w.rq p.req).len)∧(∀a∈p.an.l.take j,a∈(w.rq p.req).an.l)∧
   ∃bx tk,x=s.push ⟨aj p::bV (w.rq p.req)::bx,tk⟩)→
   go AP Vt (.c (.loop wc)::X1) ⟨ρ,x⟩=some (I (if eQ (w.rq p.req) (-1) p.an.l=0 then(if(p.an.l.any fun a=>!cU w a p.start (w.rq p.req).len)=true then 21 else if cS w p l=true then 13 else 0)else eQ (w.rq p.req) (-1) p.an.l),s):=by
  intro h0 h1 ze Gh
  have hq:=hw.rq h0 h1
  have sj:=hw.ok.an _ (W.pG h0 h1)
  have q0:=hq.qX
  have q1:=hq.aZ
  have q2:=hq.qi
  have q3:=hq.pz
  have WL:=hw.tm.an _ (W.pG h0 h1)
  refine cq p.an.l.length _ _ ?_ ?_
  ·rintro j ρ x hj ⟨g0,g2,g4,g10,wJ,wK,AZ,⟨last,g7,kA⟩,g12,ji,bx,tk,rfl⟩ ih
   obtain⟨a,ha⟩:=get_some hj
   have hr:=Sl.ix (f:=aD) cH ha
   have wS:∀r,aw AP (.fn 61) [.slice (w.rq p.req).an.o (w.rq p.req).an.e ((w.rq p.req).an.l.map aD),I a] (s.push r)=some (B ((w.rq p.req).an.l.any fun b=>decide (a=b)),s.push r):=fun r=>Lf sj.1 (by omega)
   rw[eo ha,eQ]at kA
   have XA:=bJ hj (show(p.an.l.length:Int)<_ by omega)
   simp only[Sl.v]at wJ hr
   generalize Ga:w.rq p.req=q at*
   cases hm:q.an.l.any fun b=>decide (a=b)with
   |false=>
    rw[hm]at wS kA
    rw[aq (by simp)]at kA
    rw[kA]
    simp only[go_sem,wc,g0,g4,g7,g10,g12,wJ,wK,AZ,aR hj,hr,wS,lP,nb,dS,bq,simprocAttr]
    rfl
   | true =>
    rw[hm]at wS kA
    rw[ak rfl]at kA
    have rY:=hq.s9 a (Qa hm)
    have cp:∀r,aw AP (.fn 85) [OW w,I a,I p.start,I q.len] (s.push r)=some (B (cU w a p.start q.len),s.push r):=fun r=>aaW hw rY.1 rY.2 (by omega) (by omega) (by omega)
    by_cases u3:last<a
    ·have hd:decide (last<a)=true:=bS u3
     rw[ak u3]at kA
     have ov:∀c:Bool,B c=B ((p.an.l.take (j+1)).any fun a=>!cU w a p.start q.len)→∀ρ' x',(ρ' 0=OW w∧ρ' 2=.slice o e (l.map aj)∧ρ' 4=.ptr s.ag.length 0 0∧ρ' 10=.ptr s.ag.length 1 0∧ρ' 76=.slice p.an.o p.an.e (p.an.l.map aD)∧ρ' 77=I p.an.l.length∧ρ' 78=I ((j+1:Nat):Int)∧ρ' 7=I a∧ρ' 12=B c∧∃bx tk,x'=s.push ⟨aj p::bV q::bx,tk⟩)→
       go AP Vt (.c (.loop wc)::X1) ⟨ρ',x'⟩=some (I (if eQ q (-1) p.an.l=0 then(if(p.an.l.any fun a=>!cU w a p.start q.len)=true then 21 else if cS w p l=true then 13 else 0)else eQ q (-1) p.an.l),s):=by
      rintro c eM ρ' x' ⟨k0,k2,k4,PV,PX,k77,k78,k7,PW,kb⟩
      refine ih ρ' x' ⟨k0,k2,k4,PV,PX,k77,k78,⟨a,k7,kA⟩,by rw[PW,eM],fun b hb=>?_,kb⟩
      rw[fi ha]at hb
      rcases c9.1 hb with h|h
      ·exact ji b h
      ·simp at h;subst h;exact Qa hm
     have qc:((p.an.l.take (j+1)).any fun a=>!cU w a p.start q.len)=(((p.an.l.take j).any fun a=>!cU w a p.start q.len)||!cU w a p.start q.len):=by
      rw[fi ha,zL];simp
     generalize((p.an.l.take j).any fun a=>!cU w a p.start q.len)=C at*
     cases C with
     |true=>
      simp only[go_sem,wc,g7,g10,g12,wJ,wK,AZ,aR hj,hr,wS,hd,lP,nb,dS,bq,fI,XA,simprocAttr]
      refine ov true (by rw[qc];rfl) _ _ ?_
      exact⟨g0,g2,g4,g10,wJ,wK,rfl,rfl,rfl,_,_,rfl⟩
     |false=>
      simp only[go_sem,wc,g0,g4,g7,g10,g12,wJ,wK,AZ,aR hj,hr,wS,cp,hd,lP,nb,dS,bq,fI,XA,simprocAttr]
      refine ov (!cU w a p.start q.len) (by rw[qc];rfl) _ _ ?_
      exact⟨g0,g2,g4,g10,wJ,wK,rfl,rfl,rfl,_,_,rfl⟩
    ·have hd:decide (last<a)=false:=ch u3
     rw[aq u3]at kA
     rw[kA]
     simp only[go_sem,wc,g0,g4,g7,g10,g12,wJ,wK,AZ,aR hj,hr,wS,hd,lP,nb,dS,bq,simprocAttr]
     rfl
  ·rintro ρ x ⟨g0,g2,g4,g10,wJ,wK,AZ,⟨last,g7,kA⟩,g12,ji,bx,tk,rfl⟩
   rw[eE]at kA
   rw[ig]at ji g12
   have ah6:eQ (w.rq p.req) (-1) p.an.l=0:=kA
   have dE:bW w p:=⟨h0,h1,by omega,by omega,fun a ha=>hq.s9 a (ji a ha),cH,by omega⟩
   have ew:∀r,aw AP (.fn 86) [OW w,.agg (aj p),.slice o e (l.map aj)] (s.push r)=some (B (cS w p l),s.push r):=fun r=>Rm (hs.push r) hw dE hl he (by omega)
   rw[ak ah6]
   simp only[aj,Sl.v]at ew
   generalize(p.an.l.any fun a=>!cU w a p.start (w.rq p.req).len)=C at*
   generalize cS w p l=D at*
   simp only[go_sem,wc,Nd,g0,g2,g4,g12,wK,AZ,bM,ew,lP,nb,simprocAttr]
   cases C<;>cases D<;>rfl
 rw[aL (show AP 55=some EK from rfl) rfl]
 cases kA:l.getLast? with
 | none =>
  have Bt:l=[]:=RQ.1 kA
  subst Bt
  have Bq:iB ([]:List P)=-1:=rfl
  by_cases hA:wi p.req 0 (w.rs.l.length-1)=true
  ·by_cases hB:-1<p.req
   ·have yM:decide (-1<p.req)=true:=bS hB
    have uO:=iW.1 hA
    have h0:0≤p.req:=uO.1
    have h1:p.req<w.rs.l.length:=by omega
    have hq:=hw.rq h0 h1
    have q0:=hq.qX
    have q1:=hq.aZ
    have q2:=hq.qi
    have q3:=hq.pz
    have fl:=qg hw h0 h1
    have jR:dR w p []=if wi p.start (w.rq p.req).lo ((w.rq p.req).hi+1-(w.rq p.req).len)=true then if(p.an.l.length:Int)=(w.rq p.req).need then(if eQ (w.rq p.req) (-1) p.an.l=0 then(if(p.an.l.any fun a=>!cU w a p.start (w.rq p.req).len)=true then 21 else if cS w p []=true then 13 else 0)else eQ (w.rq p.req) (-1) p.an.l)else 10 else 2:=by
     unfold dR;rw[ak hA,Bq,ak hB]
    rw[jR]
    have main:=main h0 h1
    have sj:=(hw.ok.an _ (W.pG h0 h1))
    have w1:IntKind.i64.wrap ((w.rq p.req).hi+1)=(w.rq p.req).hi+1:=bR (by omega) (by omega)
    have w2:IntKind.i64.wrap ((w.rq p.req).hi+1-(w.rq p.req).len)=(w.rq p.req).hi+1-(w.rq p.req).len:=bR (by omega) (by omega)
    simp only[OW,aj,bV,Sl.v,nj]at main gp fl⊢
    generalize w.rq p.req=q at*
    obtain⟨bU,lo,hi,len,val,⟨oa,ea,an⟩,need⟩:=q
    simp only at*
    simp only[go_sem,ya,hs,gp,lP,nb,hA,yM,dS,bq,fI,xH,fl,w1,w2,vw,fp,simprocAttr]
    cases hC:wi p.start lo (hi+1-len)with
    |false=>simp only[go_sem,eB,simprocAttr];rfl
    | true =>
     by_cases hD:(p.an.l.length:Int)=need
     ·have Fx:decide ((p.an.l.length:Int)=need)=true:=bS hD
      have Fw:=iW.1 hC
      simp only[go_sem,Fx,fI,simprocAttr]
      refine(main Fw.1 Fw.2 0 _ _ (bh _) ?_).trans ?_
      ·exact⟨rfl,rfl,rfl,rfl,rfl,rfl,rfl,⟨-1,rfl,rfl⟩,rfl,by simp,_,_,rfl⟩
      ·rw[ak hD]
     ·have Fx:decide ((p.an.l.length:Int)=need)=false:=ch hD
      simp only[go_sem,hD,simprocAttr];rfl
   ·have yM:decide (-1<p.req)=false:=ch hB
    have jR:dR w p []=9:=by unfold dR;rw[ak hA,Bq,aq hB]
    rw[jR]
    simp only[OW,aj,Sl.v,nj]at gp⊢
    simp only[go_sem,ya,gp,lP,nb,hA,yM,dS,bq,fp,simprocAttr]
    rfl
  ·have yL:wi p.req 0 (w.rs.l.length-1)=false:=by simpa using hA
   have jR:dR w p []=6:=by unfold dR;rw[aq hA]
   rw[jR]
   simp only[OW,aj,Sl.v,nj]at gp⊢
   simp only[go_sem,ya,gp,lP,nb,yL,dS,bq,fp,simprocAttr]
   rfl
 | some a =>
  have gE:l[l.length-1]? =some a:=by rw[←abn];exact kA
  have Bq:iB l=a.req:=by simp[iB,kA]
  have aB:0<l.length:=by
   have:=(aY.1 gE).1;omega
  have ou:e=3:=by rcases he with h|h;(rw[h]at aB;simp at aB);exact h
  subst ou
  have hr:=cr (f:=aj) (o:=o) (es:=3) gE
  have jz:IntKind.i64.wrap ((l.length:Int)-1)=((l.length-1:Nat):Int):=by rw[bR]<;>omega
  have hd:decide ((0:Int)<(l.length:Int))=true:=bS (by omega)
  simp only[aj,Sl.v]at hr
  by_cases hA:wi p.req 0 (w.rs.l.length-1)=true
  ·by_cases hB:a.req<p.req
   ·have yM:decide (a.req<p.req)=true:=bS hB
    have uO:=iW.1 hA
    have h0:0≤p.req:=uO.1
    have h1:p.req<w.rs.l.length:=by omega
    have hq:=hw.rq h0 h1
    have q0:=hq.qX
    have q1:=hq.aZ
    have q2:=hq.qi
    have q3:=hq.pz
    have fl:=qg hw h0 h1
    have jR:dR w p l=if wi p.start (w.rq p.req).lo ((w.rq p.req).hi+1-(w.rq p.req).len)=true then if(p.an.l.length:Int)=(w.rq p.req).need then(if eQ (w.rq p.req) (-1) p.an.l=0 then(if(p.an.l.any fun a=>!cU w a p.start (w.rq p.req).len)=true then 21 else if cS w p l=true then 13 else 0)else eQ (w.rq p.req) (-1) p.an.l)else 10 else 2:=by
     unfold dR;rw[ak hA,Bq,ak hB]
    rw[jR]
    have main:=main h0 h1
    have sj:=(hw.ok.an _ (W.pG h0 h1))
    have w1:IntKind.i64.wrap ((w.rq p.req).hi+1)=(w.rq p.req).hi+1:=bR (by omega) (by omega)
    have w2:IntKind.i64.wrap ((w.rq p.req).hi+1-(w.rq p.req).len)=(w.rq p.req).hi+1-(w.rq p.req).len:=bR (by omega) (by omega)
    simp only[OW,aj,bV,Sl.v]at main gp fl⊢
    generalize w.rq p.req=q at*
    obtain⟨bU,lo,hi,len,val,⟨oa,ea,an⟩,need⟩:=q
    simp only at*
    simp only[go_sem,ya,hs,gp,lP,nb,hd,jz,hr,hA,yM,dS,bq,fI,xH,fl,w1,w2,vw,simprocAttr]
    cases hC:wi p.start lo (hi+1-len)with
    |false=>simp only[go_sem,eB,simprocAttr];rfl
    | true =>
     by_cases hD:(p.an.l.length:Int)=need
     ·have Fx:decide ((p.an.l.length:Int)=need)=true:=bS hD
      have Fw:=iW.1 hC
      simp only[go_sem,Fx,fI,simprocAttr]
      refine(main Fw.1 Fw.2 0 _ _ (bh _) ?_).trans ?_
      ·exact⟨rfl,rfl,rfl,rfl,rfl,rfl,rfl,⟨-1,rfl,rfl⟩,rfl,by simp,_,_,rfl⟩
      ·rw[ak hD]
     ·have Fx:decide ((p.an.l.length:Int)=need)=false:=ch hD
      simp only[go_sem,hD,simprocAttr];rfl
   ·have yM:decide (a.req<p.req)=false:=ch hB
    have jR:dR w p l=9:=by unfold dR;rw[ak hA,Bq,aq hB]
    rw[jR]
    simp only[OW,aj,Sl.v]at gp⊢
    simp only[go_sem,ya,gp,lP,nb,hd,jz,hr,hA,yM,dS,bq,simprocAttr]
    rfl
  ·have yL:wi p.req 0 (w.rs.l.length-1)=false:=by simpa using hA
   have jR:dR w p l=6:=by unfold dR;rw[aq hA]
   rw[jR]
   simp only[OW,aj,Sl.v]at gp⊢
   simp only[go_sem,ya,gp,lP,nb,hd,jz,hr,yL,dS,bq,simprocAttr]
   rfl
theorem GI (hw : Wk w) {p : P} {l : List P} (cH : p.an.ok 1) (cD : (p.an.l.length : Int) < 1000000) (h : dR w p l = 0) : bW w p ∧ iB l < p.req ∧ cS w p l = false ∧ (w.rq p.req).lo ≤ p.start ∧ p.start ≤ (w.rq p.req).hi + 1 - (w.rq p.req).len ∧ (p.an.l.length : Int) = (w.rq p.req).need ∧ eQ (w.rq p.req) (-1) p.an.l = 0 ∧ (p.an.l.any fun a => !cU w a p.start (w.rq p.req).len) = false := by
 unfold dR at h
 by_cases h1:wi p.req 0 (w.rs.l.length-1)=true
 ·rw [ak h1] at h
  by_cases h2:iB l<p.req
  ·rw [ak h2] at h
   by_cases h3:wi p.start (w.rq p.req).lo ((w.rq p.req).hi+1-(w.rq p.req).len)=true
   ·rw [ak h3] at h
    by_cases h4:(p.an.l.length:Int)=(w.rq p.req).need
    ·rw [ak h4] at h
     by_cases h5:eQ (w.rq p.req) (-1) p.an.l=0
     ·rw[ak h5]at h
      cases h6:p.an.l.any fun a=>!cU w a p.start (w.rq p.req).len with
      |true=>rw[h6,ak rfl]at h;omega
      | false =>
       rw[h6,aq (by simp)]at h
       cases h7:cS w p l with
       |true=>rw[h7,ak rfl]at h;omega
       |false=>
        rw[iW]at h1 h3
        have hq:=hw.rq h1.1 (by omega)
        have q0:=hq.qX
        have q1:=hq.aZ
        have q2:=hq.qi
        have q3:=hq.pz
        have iQ:=hw.v.n2
        refine⟨⟨h1.1,by omega,by omega,by omega,fun a ha=>hq.s9 a (Qa ((HL (w:=w) (st:=0) (len:=0) h5).1 a ha)),cH,by omega⟩,h2,rfl,h3.1,h3.2,h4,h5,rfl⟩
     ·rw[aq h5]at h;exact absurd h h5
    ·rw[aq h4]at h;omega
   ·rw[aq h3]at h;omega
  ·rw[aq h2]at h;omega
 ·rw[aq h1]at h;omega
def fu (w:W) (l:List P):Int×Int:=match fZ (fun i x=>dR w x (l.take i)) 0 l with
 |some (k,e)=>(k,e)
 |none=>(0,0)
structure iH (l:List P):Prop where
 len:l.length≤14
 ok:∀p∈l,p.an.ok 1∧p.an.l.length≤6
theorem Vz {α:Type} {f:Nat→α→Int}:∀{l:List α} {k:Nat},fZ f k l=none→∀(j:Nat) x,l[j]? =some x→f (k+j) x=0
 |[],_,_,_,_,h=>by simp at h
 | a :: r, k, hn, j, x, h => by
  simp only[fZ]at hn
  by_cases h1:f k a=0
  ·rw[ak h1]at hn
   cases j with
   |zero=>simp at h;subst h;exact h1
   |succ j=>
    have:=Vz hn j x (by simpa using h)
    rw[show k+(j+1)=k+1+j by omega];exact this
  ·rw[aq h1]at hn;cases hn
theorem Uw (hw:Wk w) {l:List P} (hl:iH l) (h:(fu w l).2=0):∀(j:Nat) x,l[j]? =some x→dR w x (l.take j)=0:=by
 unfold fu at h
 cases hf:fZ (fun i x=>dR w x (l.take i)) 0 l with
 |some q=>obtain⟨k,e⟩:=q;rw[hf]at h;exact absurd h (Js hf)
 |none=>
  intro j x hj
  have:=Vz hf j x hj
  rwa [fK]at this
theorem aaU {l:List P} {o:Own} {e:Nat} (hs:Ok s) (hw:Wk w) (hl:iH l) (he:l=[]∨e=3):aw AP (.fn 23) [OW w,.slice o e (l.map aj)] s=some (.tuple [I (fu w l).1,I (fu w l).2],s):=by
 have hlen:=hl.len
 have key:∀j ρ x,j≤l.length→(ρ 0=OW w∧ρ 1=.slice o e (l.map aj)∧ρ 9=.slice o e (l.map aj)∧ρ 10=I l.length∧ρ 11=I j∧(∀y∈l.take j,bW w y)∧∃bx,x=s.push ⟨bx,[]⟩)→
   go AP afL (.c (.loop Dp)::ant) ⟨ρ,x⟩=some (match fZ (fun i x=>dR w x (l.take i)) j (l.drop j)with|some (k,e)=>.tuple [I k,I e]|none=>.tuple [I 0,I 0],s):=by
  refine cq l.length _ _ ?_ ?_
  ·rintro j ρ x hj ⟨h0,h1,h9,dm,er,dE,bx,rfl⟩ ih
   obtain⟨p,hp⟩:=get_some hj
   have F8:=hl.ok p (bK hp)
   have ou:e=3:=by rcases he with h|h;(rw[h]at hp;simp at hp);exact h
   subst ou
   have hr:=cr (f:=aj) (o:=o) (es:=3) hp
   obtain⟨o',po⟩:=aap (f:=aj) (o:=o) (es:=3) (l:=l) (k:=j) (by omega)
   have gU:∀r,aw AP (.fn 55) [OW w,.agg (aj p),.slice o' 3 ((l.take j).map aj)] (s.push r)=some (I (dR w p (l.take j)),s.push r):=fun r=>atA (hs.push r) hw F8.1 (by omega) dE (.inr rfl) (by rw[fq];omega)
   rw[wI hp]
   simp only[aj,Sl.v]at gU
   by_cases hz:dR w p (l.take j)=0
   ·simp only[go_sem,Dp,h0,h1,h9,dm,er,hs,aR hj,hr,po,gU,hz,bq,fI,bJ hj (show(l.length:Int)<_ by omega),simprocAttr]
    refine ih _ _ ?_
    refine⟨h0,h1,h9,dm,rfl,fun y hy=>?_,_,rfl⟩
    rw[fi hp]at hy
    rcases c9.1 hy with h|h
    ·exact dE y h
    ·simp at h;subst h;exact(GI hw F8.1 (by omega) hz).1
   ·have hd:decide (dR w p (l.take j)=0)=false:=ch hz
    simp only[go_sem,Dp,h0,h1,h9,dm,er,hs,aR hj,hr,po,gU,hz,bq,jV,simprocAttr]
  ·rintro ρ x ⟨h0,h1,h9,dm,er,dE,bx,rfl⟩
   simp only[go_sem,Dp,M7,dm,er,bM,simprocAttr]
   rw[eE];rfl
 rw[aL (show AP 23=some ED from rfl) rfl]
 simp only[go_sem,TD,simprocAttr]
 refine(key 0 _ _ (bh _) ?_).trans ?_
 ·exact⟨rfl,rfl,rfl,rfl,rfl,by simp,_,rfl⟩
 ·unfold fu
  rw[kI]
  cases fZ (fun i x=>dR w x (l.take i)) 0 l with
  |none=>rfl
  |some q=>obtain⟨k,e⟩:=q;rfl
def rf (w:W) (l:List P):Int×Int:=if(dH w).2.2=0 then fu w l else(0,(dH w).2.2)
theorem ass {l:List P} {o:Own} {e:Nat} (hs:Ok s) (hw:w.Ok) (hf:w.kY) (hl:iH l) (he:l=[]∨e=3):aw AP (.fn 45) [w.v,.slice o e (l.map aj)] s=some (.tuple [if(dH w).2.2=0 then OW w else NP,I (rf w l).1,I (rf w l).2],s):=by
 unfold rf
 rw[aL (show AP 45=some Er from rfl) rfl]
 by_cases hz:(dH w).2.2=0
 ·have cV:Wk w:=⟨hw,hf,sO hz⟩
  have ho:∀r,aw AP (.fn 51) [w.v] (s.push r)=some (.tuple [OW w,I 0],s.push r):=fun r=>Z3 (hs.push r) hw hf hz
  have hc:∀r,aw AP (.fn 23) [OW w,.slice o e (l.map aj)] (s.push r)=some (.tuple [I (fu w l).1,I (fu w l).2],s.push r):=fun r=>aaU (hs.push r) cV hl he
  rw[ak hz,ak hz]
  simp only[W.v,bQ,Sl.v]at ho
  simp only[OW]at ho hc⊢
  simp only[go_sem,MX,ho,hc,bq,fI,simprocAttr]
 ·have ho:∀r,aw AP (.fn 51) [w.v] (s.push r)=some (.tuple [NP,I (dH w).2.2],s.push r):=fun r=>Z5 (hs.push r) hw hf hz
  rw[aq hz,aq hz]
  simp only[W.v,bQ,Sl.v]at ho
  simp only[go_sem,MX,ho,bq,hz,jV,simprocAttr]
def aV (w:W):List P→Int
 |[]=>0
 |p::r=>(w.rq p.req).val+aV w r
theorem aaQ {w:W}:∀{l r:List P},aV w (l++r)=aV w l+aV w r
 |[],r=>by simp[aV]
 |i::l,r=>by simp only[kg,aV,aaQ];omega
theorem aaR (hw:Wk w):∀{l:List P},(∀p∈l,bW w p)→0≤aV w l∧aV w l≤100000*l.length
 |[],_=>by simp[aV]
 |i::l,h=>by
  have h1:=aaR hw (l:=l) fun j hj=>h j (gP _ hj)
  have h2:=h i (vI ..)
  have h3:=hw.rq h2.r0 h2.r1
  have:=h3.Ch
  have:=h3.Ci
  simp only[aV,dJ];omega
end
def oL (a b:Nat):Int×Int:=if b=0 then(0,1)else(((a/Nat.gcd a b:Nat):Int),((b/Nat.gcd a b:Nat):Int))
def fM (mi:ByteArray):List R→Nat
 |[]=>0
 |r::t=>(if r.bU=mi then r.len.toNat else 0)+fM mi t
def iM (l:List P) (mi:ByteArray):Nat→List R→Nat
 |_,[]=>0
 |k,r::t=>(if r.bU=mi then(if(bw l (k:Int)).isSome=true then r.len.toNat else 0)else 0)+iM l mi (k+1) t
section
variable{s:ae} {w:W}
theorem acn {a b:Nat} (hb:0<b):dC .rem (I (a:Int)) (I (b:Int))=some (I ((a%b:Nat):Int)):=by
 have h:(((b:Int))==0)=false:=by simp;omega
 rw[SJ h]
 congr 3
theorem SI {a b:Nat} (hb:0<b) (ha:(a:Int)<9223372036854775808):dC .quo (I (a:Int)) (I (b:Int))=some (I ((a/b:Nat):Int)):=by
 have h:(((b:Int))==0)=false:=by simp;omega
 rw[SH h]
 have e:((a:Int)).tdiv (b:Int)=((a/b:Nat):Int):=by
  rw[Int.tdiv_eq_ediv_of_nonneg (by omega)];simp
 have hl:a/b≤a:=R2 _ _
 rw[e]
 generalize a/b=q at*
 rw[bR (by omega) (by omega)]
theorem asw {a b:Nat} (hs:Ok s) (ha:(a:Int)<9223372036854775808) (hb:(b:Int)<9223372036854775808):aw AP (.fn 47) [I (a:Int),I (b:Int)] s=some (.agg [I (oL a b).1,I (oL a b).2],s):=by
 have key:∀(n x y:Nat) ρ m,y≤n→Nat.gcd x y=Nat.gcd a b→0<b→(ρ 0=I (a:Int)∧ρ 1=I (b:Int)∧ρ 4=.ptr s.ag.length 0 0∧ρ 5=I (x:Int)∧ρ 6=I (y:Int)∧m=s.push ⟨[[I 0,I 0]],[]⟩)→go AP afK (.c (.loop IG)::ans) ⟨ρ,m⟩=some (.agg [I (oL a b).1,I (oL a b).2],s):=by
  intro n
  induction n with
  |zero=>
   rintro x y ρ m hy hg jN ⟨h0,h1,h4,h5,h6,rfl⟩
   have jk:y=0:=by omega
   subst jk
   have hx:x=Nat.gcd a b:=by rw[←hg];simp
   have XH:0<x:=by rw[hx];exact Nat.gcd_pos_of_pos_right _ jN
   have q1:=SI (a:=a) XH ha
   have q2:=SI (a:=b) XH hb
   rw[go_loop]
   simp only[go_sem,IG,M4,h0,h1,h4,h5,h6,hs,bq,fI,q1,q2,fp,simprocAttr]
   rw[hx,oL,aq (by omega)]
  | succ n ih =>
   rintro x y ρ m hy hg jN ⟨h0,h1,h4,h5,h6,rfl⟩
   by_cases jk:y=0
   ·exact ih x y ρ _ (by omega) hg jN ⟨h0,h1,h4,h5,h6,rfl⟩
   ·have hr:=acn (a:=x) (b:=y) (by omega)
    have hd:decide ((y:Int)=0)=false:=ch (by omega)
    rw[go_loop]
    simp only[go_sem,IG,h5,h6,bq,rP,hd,hr,simprocAttr]
    refine ih y (x%y) _ _ (by have:=sZ x (show 0<y by omega);omega) ?_ jN ?_
    ·rw[←hg,Nat.gcd_comm x y,Nat.gcd_rec y x,Nat.gcd_comm]
    ·exact⟨h0,h1,h4,rfl,rfl,rfl⟩
 rw[aL (show AP 47=some Ew from rfl) rfl]
 by_cases jN:b=0
 ·subst jN
  simp only[go_sem,M3,hs,fp,simprocAttr]
  rfl
 ·have hd:decide ((b:Int)=0)=false:=ch (by omega)
  simp only[go_sem,M3,hd,simprocAttr]
  exact key b a b _ _ (aH _) rfl (by omega) ⟨rfl,rfl,rfl,rfl,rfl,rfl⟩
theorem SN {mi:ByteArray}:∀{l r:List R},fM mi (l++r)=fM mi l+fM mi r
 |[],r=>by simp[fM]
 |i::l,r=>by simp only[kg,fM,SN];omega
theorem V5 {p:List P} {mi:ByteArray}:∀{l r:List R} {k:Nat},iM p mi k (l++r)=iM p mi k l+iM p mi (k+l.length) r
 |[],r,k=>by simp[iM]
 |i::l,r,k=>by simp only[kg,iM,V5,dJ];rw[show k+1+l.length=k+(l.length+1)by omega];omega
theorem L2 {mi:ByteArray}:∀{l:List R},(∀r∈l,r.len≤200)→fM mi l≤200*l.length
 |[],_=>by simp[fM]
 |r::t,h=>by
  have h1:=L2 (mi:=mi) (l:=t) fun x hx=>h x (gP _ hx)
  have h2:=h r (vI ..)
  simp only[fM,dJ]
  split<;>omega
theorem N8 {p:List P} {mi:ByteArray}:∀{l:List R} {k:Nat},(∀r∈l,r.len≤200)→iM p mi k l≤200*l.length
 |[],_,_=>by simp[iM]
 |r::t,k,h=>by
  have h1:=N8 (p:=p) (mi:=mi) (l:=t) (k:=k+1) fun x hx=>h x (gP _ hx)
  have h2:=h r (vI ..)
  simp only[iM,dJ]
  split
  ·split<;>omega
  ·omega
def GV (w:W) (l:List P) (mi:ByteArray):Int×Int×Int:=
 if(rf w l).2=0 then
  if fM mi w.rs.l=0 then(0,0,6)else((oL (iM l mi 0 w.rs.l) (fM mi w.rs.l)).1,(oL (iM l mi 0 w.rs.l) (fM mi w.rs.l)).2,0)
 else(0,0,(rf w l).2)
theorem asn {l:List P} {o:Own} {e:Nat} {mi:ByteArray} (hs:Ok s) (hw:w.Ok) (hf:w.kY) (hl:iH l) (he:l=[]∨e=3):aw AP (.fn 17) [w.v,.slice o e (l.map aj),S mi] s=some (.tuple [.agg [I (GV w l mi).1,I (GV w l mi).2.1],I (GV w l mi).2.2],s):=by
 have hlen:=hl.len
 have ho:∀r,aw AP (.fn 45) [w.v,.slice o e (l.map aj)] (s.push r)=some (.tuple [if(dH w).2.2=0 then OW w else NP,I (rf w l).1,I (rf w l).2],s.push r):=fun r=>ass (hs.push r) hw hf hl he
 have cH:∀i r,aw AP (.fn 46) [.slice o e (l.map aj),I i] (s.push r)=some (.tuple [.agg (aj ((bw l i).getD cZ)),B (bw l i).isSome],s.push r):=fun i r=>QZ (hs.push r) he (by omega) fun p h=>(hl.ok p h).1
 rw[aL (show AP 17=some Ei from rfl) rfl]
 unfold GV
 by_cases hz:(rf w l).2=0
 ·have mf:(dH w).2.2=0:=by
   unfold rf at hz
   by_cases h:(dH w).2.2=0
   ·exact h
   ·rw[aq h]at hz;exact absurd hz h
  have hv:=sO mf
  have et:=hv.rl
  have FW:∀r∈w.rs.l,r.len≤200:=fun r hr=>by
   have:=hv.r r hr
   have:=this.pz
   have:=(hv.r r hr).qX
   have:=(hv.r r hr).aZ
   have:=hv.n2
   omega
  have ha:=L2 (mi:=mi) FW
  have hg:=N8 (p:=l) (mi:=mi) (k:=0) FW
  have ib:∀r,aw AP (.fn 47) [I (iM l mi 0 w.rs.l:Int),I (fM mi w.rs.l:Int)] (s.push r)=some (.agg [I (oL (iM l mi 0 w.rs.l) (fM mi w.rs.l)).1,I (oL (iM l mi 0 w.rs.l) (fM mi w.rs.l)).2],s.push r):=fun r=>asw (hs.push r) (by omega) (by omega)
  have key:∀j ρ x,j≤w.rs.l.length→(ρ 1=.slice o e (l.map aj)∧ρ 2=S mi∧ρ 6=.ptr s.ag.length 1 0∧ρ 11=I (iM l mi 0 (w.rs.l.take j):Int)∧ρ 12=I (fM mi (w.rs.l.take j):Int)∧ρ 29=.slice w.rs.o w.rs.e (w.rs.l.map bV)∧ρ 30=I w.rs.l.length∧ρ 31=I j∧∃b0 bx,x=s.push ⟨b0::[I 0,I 0]::bx,[]⟩)→
    go AP afF (.c (.loop x8)::anj) ⟨ρ,x⟩=some (.tuple [.agg [I (if fM mi w.rs.l=0 then((0:Int),(0:Int),(6:Int))else((oL (iM l mi 0 w.rs.l) (fM mi w.rs.l)).1,(oL (iM l mi 0 w.rs.l) (fM mi w.rs.l)).2,0)).1,I (if fM mi w.rs.l=0 then((0:Int),(0:Int),(6:Int))else((oL (iM l mi 0 w.rs.l) (fM mi w.rs.l)).1,(oL (iM l mi 0 w.rs.l) (fM mi w.rs.l)).2,0)).2.1],I (if fM mi w.rs.l=0 then((0:Int),(0:Int),(6:Int))else((oL (iM l mi 0 w.rs.l) (fM mi w.rs.l)).1,(oL (iM l mi 0 w.rs.l) (fM mi w.rs.l)).2,0)).2.2],s):=by
   refine cq w.rs.l.length _ _ ?_ ?_
   ·rintro j ρ x hj ⟨h1,h2,h6,er,cG,yI,uL,A4,b0,bx,rfl⟩ ih
    obtain⟨r,gH⟩:=get_some hj
    have Xn:=bK gH
    have hr:=Sl.ix (f:=bV) hw.rs gH
    have Kc:=hv.r r Xn
    have avJ:=FW r Xn
    have zb:=Kc.qi
    have hp:=cH (j:Int)
    have Pv:=L2 (mi:=mi) (l:=w.rs.l.take j) fun x hx=>FW x (vJ hx)
    have htg:=N8 (p:=l) (mi:=mi) (l:=w.rs.l.take j) (k:=0) fun x hx=>FW x (vJ hx)
    have Xt:(w.rs.l.take j).length=j:=by rw[fq];omega
    have JG:fM mi (w.rs.l.take (j+1))=fM mi (w.rs.l.take j)+(if r.bU=mi then r.len.toNat else 0):=by rw[fi gH,SN];simp[fM]
    have sc:iM l mi 0 (w.rs.l.take (j+1))=iM l mi 0 (w.rs.l.take j)+(if r.bU=mi then(if(bw l (j:Int)).isSome=true then r.len.toNat else 0)else 0):=by rw[fi gH,V5,Xt];simp[iM]
    have jA:=bJ hj (show(w.rs.l.length:Int)<_ by omega)
    simp only[aj,Sl.v]at hp hr
    by_cases hm:r.bU=mi
    ·rw[ak hm]at JG sc
     have hd:decide (r.bU=mi)=true:=bS hm
     have w1:IntKind.i64.wrap ((fM mi (w.rs.l.take j):Int)+r.len)=((fM mi (w.rs.l.take (j+1)):Nat):Int):=by rw[JG,bR (by omega) (by omega)];omega
     cases u9:(bw l (j:Int)).isSome with
     |true=>
      rw[u9]at hp
      rw[u9,ak rfl]at sc
      have w2:IntKind.i64.wrap ((iM l mi 0 (w.rs.l.take j):Int)+r.len)=((iM l mi 0 (w.rs.l.take (j+1)):Nat):Int):=by rw[sc,bR (by omega) (by omega)];omega
      simp only[go_sem,x8,h1,h2,er,cG,yI,uL,A4,hs,aR hj,hr,bq,rP,hd,hp,w1,w2,jA,simprocAttr]
      refine ih _ _ ?_
      exact⟨h1,h2,h6,rfl,rfl,yI,uL,rfl,_,_,rfl⟩
     |false=>
      rw[u9]at hp
      rw[u9,aq (by simp),vL]at sc
      simp only[go_sem,x8,h1,h2,cG,yI,uL,A4,hs,aR hj,hr,bq,rP,hd,hp,w1,jA,simprocAttr]
      refine ih _ _ ?_
      exact⟨h1,h2,h6,by rw[sc];exact er,rfl,yI,uL,rfl,_,_,rfl⟩
    ·rw[aq hm,vL]at JG sc
     have hd:decide (r.bU=mi)=false:=ch hm
     simp only[go_sem,x8,h2,yI,uL,A4,hs,aR hj,hr,bq,rP,hd,jA,simprocAttr]
     refine ih _ _ ?_
     exact⟨h1,h2,h6,by rw[sc];exact er,by rw[JG];exact cG,yI,uL,rfl,_,_,rfl⟩
   ·rintro ρ x ⟨h1,h2,h6,er,cG,yI,uL,A4,b0,bx,rfl⟩
    rw[ig]at er cG
    by_cases hk:fM mi w.rs.l=0
    ·have hd:decide ((fM mi w.rs.l:Int)=0)=true:=bS (by omega)
     simp only[hk,bZ]
     simp only[go_sem,x8,Iy,h6,cG,uL,A4,hs,bM,hd,simprocAttr]
    ·have hd:decide ((fM mi w.rs.l:Int)=0)=false:=ch (by omega)
     simp only[hk,dt]
     simp only[go_sem,x8,Iy,h6,er,cG,uL,A4,hs,bM,hd,ib,simprocAttr]
  rw[ak mf,hz]at ho
  rw[ak hz]
  simp only[W.v,bQ,Sl.v]at ho
  simp only[go_sem,MR,ho,bq,fI,simprocAttr]
  refine key 0 _ _ (bh _) ?_
  exact⟨rfl,rfl,rfl,rfl,rfl,rfl,rfl,rfl,_,_,rfl⟩
 ·simp only[W.v,bQ,Sl.v]at ho
  rw[aq hz]
  simp only[go_sem,MR,hs,ho,bq,hz,jV,simprocAttr]
end
def tx (l:List UInt8):ByteArray:=⟨l.toArray⟩
theorem ath {a b:List UInt8}:tx a++tx b=tx (a++b):=by
 apply Li
 show(tx a++tx b).data=_
 simp[tx]
theorem aaK {a:List UInt8}:(tx a).size=a.length:=by simp[tx,ByteArray.size]
theorem HN {a b:List UInt8} (h:a.length+b.length≤100000000):dC .add (S (tx a)) (S (tx b))=some (S (tx (a++b))):=by
 have h2:¬((((tx a).size+(tx b).size:Nat):Int)>IntKind.i64.max):=by
  have:IntKind.i64.max=9223372036854775807:=by decide
  rw[this,aaK,aaK];omega
 show Option.map AV.v (sN .add (tx a) (tx b))=_
 unfold sN
 simp only[h2,dt,ath]
 rfl
def Small (p:P):Prop:=(0≤p.req∧p.req<100)∧(0≤p.start∧p.start<100)∧p.an.l.length≤1000∧∀a∈p.an.l,0≤a∧a<100
def n8:List Int→List UInt8
 |[]=>[]
 |a::r=>43::fk a.toNat++n8 r
def vB (p:P):List UInt8:=fk p.req.toNat++[64]++fk p.start.toNat++n8 p.an.l
def Fp (l:List P):List UInt8:=[32].intercalate (l.map vB)
theorem AQ {n:Nat}:(fk n).length≤2:=by unfold fk;split<;>simp
theorem LW:∀{l:List Int},(n8 l).length≤3*l.length
 |[]=>by simp[n8]
 |a::r=>by
  have h1:=LW (l:=r)
  have h2:=AQ (n:=a.toNat)
  simp only[n8,dJ,ck];omega
theorem Sy:∀{l r:List Int},n8 (l++r)=n8 l++n8 r
 |[],r=>rfl
 |a::l,r=>by simp only[kg,n8,Sy,gL]
section
variable{s:ae} {w:W}
theorem itoa {n:Int} (h0:0≤n) (h1:n<100):aw AP (.fn 48) [I n] s=some (S (tx (fk n.toNat)),s):=by
 rw[Ui (show AP 48=some BV from rfl)]
 simp only[lZ,n9,oR,eL,dP,Ks]
 rw[ak ⟨h0,h1⟩];rfl
theorem aay:∀{ls:List (List UInt8)},tV (ls.map fun x=>[S (tx x)])=some ls
 |[]=>rfl
 |a::r=>by
  simp only[gO,tV,aay (ls:=r),dP]
  simp[tx]
theorem join {x:AV} {ls:List (List UInt8)} {es:Nat} (hx:x.close=some (bp es (ls.map fun x=>[S (tx x)]))) (h1:ls.length≤1000000) (h2:([32].intercalate ls).length≤1000000):
  aw AP (.fn 49) [x,S (tx [32])] s=some (S (tx ([32].intercalate ls)),s):=by
 rw[Ui (show AP 49=some BW from rfl)]
 simp only[lZ,n9,hx,NA,eL,dP]
 have hs:tV (ls.map fun x=>[S (tx x)])=some ls:=aay
 have ht:(tx [32]).data.toList=[32]:=by simp[tx]
 cases ls with
 |nil=>simp only[nj,bp,Gw,tV,eL,ht];rfl
 |cons a r=>
  simp only[gO,bp,Gw]
  simp only[gO]at hs
  rw[hs]
  simp only[eL,ht]
  rw[ak ⟨h1,h2⟩];rfl
theorem atK {p:P} (h:Small p):(vB p).length≤3010:=by
 have h1:=AQ (n:=p.req.toNat)
 have h2:=AQ (n:=p.start.toNat)
 have h3:=LW (l:=p.an.l)
 have h4:=h.2.2.1
 simp only[vB,ck,xT];omega
theorem XU:∀{ls:List (List UInt8)} {m:Nat},(∀x∈ls,x.length≤m)→([32].intercalate ls).length≤(m+1)*ls.length
 |[],m,_=>by simp[List.intercalate]
 |[a],m,h=>by
  have:=h a (by simp)
  simp[List.intercalate];omega
 |a::b::r,m,h=>by
  have h1:=XU (ls:=b::r) (m:=m) fun x hx=>h x (gP _ hx)
  have h2:=h a (by simp)
  have e:[32].intercalate (a::b::r)=a++[32]++[32].intercalate (b::r):=by simp[List.intercalate,List.intersperse]
  have e2:(a::b::r).length=(b::r).length+1:=rfl
  have e3:(m+1)*((b::r).length+1)=(m+1)*(b::r).length+(m+1):=by rw[Nat.mul_add,Sb]
  have e4:(a++[32]++[32].intercalate (b::r)).length=a.length+1+([32].intercalate (b::r)).length:=by rw[ck,ck];rfl
  rw[e,e2,e3,e4]
  omega
theorem asl {l:List P} {o:Own} {e:Nat} (hs:Ok s) (he:l=[]∨e=3) (hl:l.length≤100) (bH:∀p∈l,p.an.ok 1∧Small p):aw AP (.fn 18) [.slice o e (l.map aj)] s=some (S (tx (Fp l)),s):=by
 have key:∀(j:Nat) ρ x,j≤l.length→(ρ 9=.slice o e (l.map aj)∧ρ 10=I l.length∧ρ 11=I j∧∃og tk bx,Acc s.ag.length 1 (((l.take j).map vB).map fun x=>[S (tx x)]) (ρ 3) og tk∧x=s.push ⟨bx,tk⟩)→go AP Vq (.c (.loop Df)::ang) ⟨ρ,x⟩=some (S (tx (Fp l)),s):=by
  refine cq l.length _ _ ?_ ?_
  ·rintro j ρ x hj ⟨h9,dm,er,og,tk,bx,hA,rfl⟩ ih
   obtain⟨p,hp⟩:=get_some hj
   have F8:=bH p (bK hp)
   obtain⟨⟨a1,a2⟩,⟨a3,a4⟩,a5,a6⟩:=F8.2
   have ou:e=3:=by rcases he with h|h;(rw[h]at hp;simp at hp);exact h
   subst ou
   have hr:=cr (f:=aj) (o:=o) (es:=3) hp
   have d1:=AQ (n:=p.req.toNat)
   have d2:=AQ (n:=p.start.toNat)
   have i1:∀q:ae,aw AP (.fn 48) [I p.req] q=some (S (tx (fk p.req.toNat)),q):=fun q=>itoa a1 a2
   have i2:∀q:ae,aw AP (.fn 48) [I p.start] q=some (S (tx (fk p.start.toNat)),q):=fun q=>itoa a3 a4
   have s1 : dC .add (S (tx (fk p.req.toNat))) (S ⟨#[64]⟩) = some (S (tx (fk p.req.toNat ++ [64]))) := HN (by simp; omega)
   have s2:dC .add (S (tx (fk p.req.toNat++[64]))) (S (tx (fk p.start.toNat)))=some (S (tx (fk p.req.toNat++[64]++fk p.start.toNat))):=HN (by simp;omega)
   have jA:=bJ hj (show(l.length:Int)<_ by omega)
   have qh:∀(q:Nat) ρ x,q≤p.an.l.length→((∃y,ρ 6=S y∧y=tx (fk p.req.toNat++[64]++fk p.start.toNat++n8 (p.an.l.take q)))∧ρ 9=.slice o 3 (l.map aj)∧ρ 10=I l.length∧ρ 11=I j∧ρ 24=p.an.v aD∧ρ 25=I p.an.l.length∧ρ 26=I q∧
     ∃og tk bx,Acc s.ag.length 1 (((l.take j).map vB).map fun x=>[S (tx x)]) (ρ 3) og tk∧x=s.push ⟨bx,tk⟩)→go AP Vq (.c (.loop It)::anh) ⟨ρ,x⟩=some (S (tx (Fp l)),s):=by
    refine cq p.an.l.length _ _ ?_ ?_
    ·rintro q ρ x hq ⟨⟨y,h6,hy⟩,h9,dm,er,nA,mR,nB,og,tk,bx,hA,rfl⟩ fQ
     obtain⟨a,ha⟩:=get_some hq
     have rY:=a6 a (bK ha)
     have hr:=Sl.ix (f:=aD) F8.1 ha
     have d3:=AQ (n:=a.toNat)
     have d4:=LW (l:=p.an.l.take q)
     have d5:(p.an.l.take q).length≤1000:=by rw[fq];omega
     have i3:∀m:ae,aw AP (.fn 48) [I a] m=some (S (tx (fk a.toNat)),m):=fun m=>itoa rY.1 rY.2
     have s3 : dC .add (S ⟨#[43]⟩) (S (tx (fk a.toNat))) = some (S (tx ([43] ++ fk a.toNat))) := HN (a := [43]) (by simp; omega)
     have s4:dC .add (S (tx (fk p.req.toNat++[64]++fk p.start.toNat++n8 (p.an.l.take q)))) (S (tx ([43]++fk a.toNat)))=some (S (tx (fk p.req.toNat++[64]++fk p.start.toNat++n8 (p.an.l.take q)++([43]++fk a.toNat)))):=HN (by simp only[ck,xT];omega)
     rw[←hy]at s4
     obtain⟨z3,hz3⟩:∃z,tx ([43]++fk a.toNat)=z:=⟨_,rfl⟩
     obtain⟨z4,XN⟩:∃z,tx (fk p.req.toNat++[64]++fk p.start.toNat++n8 (p.an.l.take q)++([43]++fk a.toNat))=z:=⟨_,rfl⟩
     rw[hz3]at s3 s4
     rw[XN]at s4
     simp only[Sl.v]at nA hr
     simp only[go_sem,It,h6,nA,mR,nB,aR hq,hr,i3,s3,s4,bJ hq (show(p.an.l.length:Int)<_ by omega),simprocAttr]
     refine fQ _ _ ?_
     refine⟨⟨z4,rfl,?_⟩,h9,dm,er,by simp only[Sl.v];exact nA,mR,rfl,og,tk,_,hA,rfl⟩
     rw[fi ha,Sy,←XN]
     simp[n8]
    ·rintro ρ x ⟨⟨y,h6,hy⟩,h9,dm,er,nA,mR,nB,og,tk,bx,hA,rfl⟩
     rw[ig]at hy
     rw[hy]at h6
     have aQ:(l.take j).length≤100:=by rw[fq];omega
     obtain⟨x',gv,tk',cw,dX,_⟩:=hA.append hs .full (ys:=[[S (tx (vB p))]]) (by simp) (by simp;omega)
     have Wb:ρ 6=S (tx (vB p)):=h6
     obtain⟨z5,XO⟩:∃z,tx (vB p)=z:=⟨_,rfl⟩
     rw[XO]at Wb cw dX
     simp only[go_sem,It,MP,MO,Wb,er,mR,nB,bM,cw,jA,simprocAttr]
     refine ih _ _ ?_
     refine⟨h9,dm,rfl,gv,tk',_,?_,rfl⟩
     rw[fi hp,fT,fT,List.map_singleton,List.map_singleton,XO];exact dX
   simp only[aj,Sl.v]at hr qh
   obtain⟨z1,PG⟩:∃z,tx (fk p.req.toNat++[64])=z:=⟨_,rfl⟩
   obtain⟨z2,Kk⟩:∃z,tx (fk p.req.toNat++[64]++fk p.start.toNat)=z:=⟨_,rfl⟩
   rw[PG]at s1 s2
   rw[Kk]at s2
   simp only[go_sem,Df,h9,dm,er,hs,aR hj,hr,i1,i2,s1,s2,simprocAttr]
   refine qh 0 _ _ (bh _) ?_
   refine⟨⟨z2,rfl,?_⟩,h9,dm,er,rfl,rfl,rfl,og,tk,_,hA,rfl⟩
   rw[show p.an.l.take 0=[]from rfl,n8,iG,Kk]
  ·rintro ρ x ⟨h9,dm,er,og,tk,bx,hA,rfl⟩
   rw[ig]at hA
   have hj : ∀ q : ae, aw AP (.fn 49) [ρ 3, S ⟨#[32]⟩] q = some (S (tx (Fp l)), q) := fun q => join hA.close (by simp; omega) (by
    have h1:=XU (ls:=l.map vB) (m:=3010) fun x hx=>by
     obtain⟨p,hp,rfl⟩:=cC.1 hx
     exact atK (bH p hp).2
    rw[bE]at h1
    have h2:=Nat.mul_le_mul_left 3011 hl
    omega)
   simp only[go_sem,Df,Iu,dm,er,bM,hj,simprocAttr]
 rw[aL (show AP 18=some Eh from rfl) rfl]
 simp only[go_sem,Tm,simprocAttr]
 refine key 0 _ _ (bh _) ?_
 exact⟨rfl,rfl,rfl,none,[],[],Acc.start,rfl⟩
def WK : W := ⟨10, ⟨.full, 3, [⟨⟨#[97]⟩, 1, ⟨.full, 2, [(4, 4)]⟩⟩, ⟨⟨#[98]⟩, 0, ⟨.aA, 0, []⟩⟩]⟩,
 ⟨.full, 7, [⟨⟨#[109, 97, 114, 115]⟩, 0, 5, 3, 10, ⟨.full, 1, [0]⟩, 1⟩, ⟨⟨#[109, 111, 111, 110]⟩, 0, 4, 2, 7, ⟨.full, 1, [0, 1]⟩, 1⟩, ⟨⟨#[109, 97, 114, 115]⟩, 0, 9, 4, 6, ⟨.full, 1, [0, 1]⟩, 2⟩]⟩⟩
theorem anT (hs:Ok s):aw AP (.fn 16) [] s=some (WK.v,s):=by
 rw[aL (show AP 16=some DO from rfl) rfl]
 simp only[go_sem,S1,hs,simprocAttr]
 rfl
end
def L3:List P:=[⟨0,0,eW [0]⟩,⟨1,0,eW [1]⟩,⟨2,5,eW [0,1]⟩]
def P8 : ByteArray := ⟨#[109, 97, 114, 115]⟩
theorem abD:ie WK=0:=by decide+kernel
theorem abA:(Dy WK).1=L3:=by kernel_rfl
theorem abE:(Dy WK).2.1=23:=by decide+kernel
theorem abC:GV WK L3 P8=(1,1,0):=by decide+kernel
theorem abB:Fp L3=[48,64,48,43,48,32,49,64,48,43,49,32,50,64,53,43,48,43,49]:=by decide+kernel
theorem Sk:WK.Ok:=by
 refine⟨⟨.inr rfl,.inr (.inl rfl)⟩,fun a ha=>?_,⟨.inr rfl,.inr (.inl rfl)⟩,fun r hr=>?_⟩
 ·simp only[WK,eF,zP,zB]at ha
  rcases ha with rfl|rfl
  ·exact⟨.inr rfl,.inr (.inl rfl)⟩
  ·exact⟨.inl rfl,.inr (.inr ⟨rfl,rfl⟩)⟩
 ·simp only[WK,eF,zP,zB]at hr
  rcases hr with rfl|rfl|rfl<;>exact⟨.inr rfl,.inr (.inl rfl)⟩
theorem Sj:WK.kY:=by
 refine⟨by decide,by decide,fun a ha=>?_,fun a ha=>?_,fun r hr=>?_,fun r hr=>?_⟩
 ·simp only[WK,eF,zP,zB]at ha
  rcases ha with rfl|rfl<;>decide
 ·simp only[WK,eF,zP,zB]at ha
  rcases ha with rfl|rfl<;>decide
 ·simp only[WK,eF,zP,zB]at hr
  rcases hr with rfl|rfl|rfl<;>decide
 ·simp only[WK,eF,zP,zB]at hr
  rcases hr with rfl|rfl|rfl<;>decide
section
variable{s:ae}
theorem acH {n:Int} (hs:Ok s):aw AP (.fn 19) [I n] s=some (.agg [I n,I 1],s):=by
 rw[aL (show AP 19=some DF from rfl) rfl]
 simp only[go_sem,SU,hs,simprocAttr]
theorem Hg:∀p∈L3,p.an.ok 1∧p.an.l.length≤6∧Small p:=by
 intro p hp
 simp only[L3,eF,zP,zB]at hp
 rcases hp with rfl|rfl|rfl<;>refine⟨yv,by decide,⟨by decide,by decide⟩,⟨by decide,by decide⟩,by decide,fun a ha=>?_⟩<;>simp[eW]at ha<;>omega
theorem anU (hs:Ok s):aw AP (.fn 4) [] s=some (B true,s):=by
 have cV:∀r,aw AP (.fn 16) [] (s.push r)=some (WK.v,s.push r):=fun r=>anT (hs.push r)
 have qG:∀r,aw AP (.fn 15) [WK.v] (s.push r)=some (.tuple [bp 3 (L3.map aj),I 23,I 0],s.push r):=fun r=>by
  rw[asj (hs.push r) Sk Sj,abD,ak rfl,ak rfl,abA,abE]
 have tz:bp 3 (L3.map aj)=.slice .any 3 (L3.map aj):=rfl
 have cD:iH L3:=⟨by decide,fun p hp=>⟨(Hg p hp).1,(Hg p hp).2.1⟩⟩
 have ib:∀r,aw AP (.fn 17) [WK.v,.slice .any 3 (L3.map aj),S P8] (s.push r)=some (.tuple [.agg [I 1,I 1],I 0],s.push r):=fun r=>by
  rw[asn (hs.push r) Sk Sj cD (.inr rfl),abC]
 have Bl:∀r,aw AP (.fn 18) [.slice .any 3 (L3.map aj)] (s.push r)=some (S (tx [48,64,48,43,48,32,49,64,48,43,49,32,50,64,53,43,48,43,49]),s.push r):=fun r=>by
  rw[asl (hs.push r) (.inr rfl) (by decide) fun p hp=>⟨(Hg p hp).1,(Hg p hp).2.2⟩,abB]
 have hwh:∀r,aw AP (.fn 19) [I 1] (cB (s.push r))=some (.agg [I 1,I 1],cB (s.push r)):=fun r=>acH sF
 rw[tz]at qG
 simp only[P8]at ib
 generalize hv:WK.v=V at*
 generalize(AV.slice .any 3 (L3.map aj))=VL at*
 rw[aL (show AP 4=some DP from rfl) rfl]
 have hds : decide (tx [48, 64, 48, 43, 48, 32, 49, 64, 48, 43, 49, 32, 50, 64, 53, 43, 48, 43, 49] = ⟨#[48, 64, 48, 43, 48, 32, 49, 64, 48, 43, 49, 32, 50, 64, 53, 43, 48, 43, 49]⟩) = true := bS rfl
 have heq:pS (.agg [.int,.int]) (.agg [I 1,I 1]) (.agg [I 1,I 1])=some true:=rfl
 simp only[go_sem,S2,hs,cV,qG,ib,Bl,hwh,hds,heq,simprocAttr]
end
theorem oh {p q:Prop} [Decidable p] [Decidable q] (h:p↔¬q):decide p=!decide q:=by
 by_cases hq:q
 ·rw[bS hq,ch (fun hp=>h.1 hp hq)];rfl
 ·rw[ch hq,bS (h.2 hq)];rfl
theorem UX {p q:Prop} [Decidable p] [Decidable q] (h:p↔q):decide p=decide q:=by
 by_cases hq:q
 ·rw[bS hq,bS (h.2 hq)]
 ·rw[ch hq,ch (fun hp=>hq (h.1 hp))]
section
variable{s:ae} {w:W}
theorem gj {a b c:Int}:aw AP (.fn 36) [I a,I b,I c] s=some (B (wi a b c),s):=by
 rw[aL (show AP 36=some DG from rfl) rfl]
 simp only[go_sem,SV,simprocAttr]
 unfold wi
 cases decide (b≤a)<;>cases decide (a≤c)<;>rfl
theorem ixs {x:ByteArray} {k:Nat} {c:UInt8} (h:x.data.toList[k]? =some c):BF (S x) (I (k:Int))=some (.v (.int .u8 c.toNat)):=by
 have hk:=(aY.1 h).1
 have u2:k<x.size:=by simpa using hk
 have hb:x[k]? =some c:=by
  have h1:x.data[k]? =some c:=by simpa using h
  obtain⟨h2,h3⟩:=tZ.1 h1
  rw[getElem?_pos x k u2]
  exact iy some h3
 simp only[BF]
 rw[Kl u2]
 simp only[eL,hb,dP]
theorem aoZ {x:List UInt8} {k:Nat} {c:UInt8} (h:x[k]? =some c):qZ k (x.drop k)=(nameAt k c&&qZ (k+1) (x.drop (k+1))):=YC h
theorem SP {x:ByteArray} (hx:(x.size:Int)<9223372036854775808):aw AP (.fn 107) [S x] s=some (B (isName x),s):=by
 have bP:x.data.size=x.size:=rfl
 have hl:x.data.toList.length=x.size:=by simp[bP]
 have key:∀k ρ m,k≤x.size→(ρ 0=S x∧ρ 3=I k∧m=s.push ⟨[],[]⟩)→go AP Vd (.c (.loop CQ)::XW) ⟨ρ,m⟩=some (B (qZ k (x.data.toList.drop k)),s):=by
  refine cq x.size _ _ ?_ ?_
  ·rintro k ρ m hk ⟨h0,h3,rfl⟩ ih
   obtain⟨c,hc⟩:=get_some (l:=x.data.toList) (k:=k) (by omega)
   have hr:=ixs hc
   rw[aoZ hc,YB]
   have fQ:∀(ρ':Nat→AV),ρ' 0=S x→ρ' 3=I ((k+1:Nat):Int)→go AP Vd (.c (.loop CQ)::XW) ⟨ρ',s.push ⟨[],[]⟩⟩=some (B (qZ (k+1) (List.drop (k+1) x.data.toList)),s):=fun ρ' a b=>ih ρ' _ ⟨a,b,rfl⟩
   simp only[go_sem,CQ,h0,h3,aR hk,hr,bJ hk hx,simprocAttr]
   simp only[bq,rP]
   have e8:decide ((c.toNat:Int)<48)=!decide ((48:Int)≤(c.toNat:Int)):=dec_lt _ _
   have e9:decide ((57:Int)<(c.toNat:Int))=!decide ((c.toNat:Int)≤57):=dec_lt _ _
   rw[e8,e9]
   generalize decide ((97:Int)≤(c.toNat:Int))=a1
   generalize decide ((c.toNat:Int)≤122)=a2
   generalize decide ((65:Int)≤(c.toNat:Int))=a3
   generalize decide ((c.toNat:Int)≤90)=a4
   generalize decide ((c.toNat:Int)=45)=a5
   generalize decide ((48:Int)≤(c.toNat:Int))=a6
   generalize decide ((c.toNat:Int)≤57)=a7
   generalize decide ((k:Int)=0)=a8
   generalize qZ (k+1) (List.drop (k+1) x.data.toList)=nf at*
   cases a1<;>cases a2<;>cases a3<;>cases a4<;>cases a5<;>cases a6<;>cases a7<;>cases a8<;>first
    |rfl
    |exact fQ _ h0 rfl
  ·rintro ρ m ⟨h0,h3,rfl⟩
   simp only[go_sem,CQ,L8,h0,h3,bM,simprocAttr]
   rw[←hl,eE];rfl
 rw[aL (show AP 107=some DE from rfl) rfl]
 have e1:decide ((x.size:Int)<1)=!decide (1≤x.size):=oh (by omega)
 have e2:decide ((12:Int)<(x.size:Int))=!decide (x.size≤12):=oh (by omega)
 simp only[go_sem,SS,e1,e2,simprocAttr]
 unfold isName
 cases decide (1≤x.size)with
 |false=>simp only[go_sem,nT,jZ,simprocAttr]<;>rfl
 | true =>
  cases decide (x.size≤12)with
  |false=>simp only[go_sem,nT,sQ,simprocAttr]<;>rfl
  |true=>
   simp only[go_sem,sQ,simprocAttr]
   exact key 0 _ _ (bh _) ⟨rfl,rfl,rfl⟩
theorem zE {n x y:Int} {o1 o2:Own} {e1 e2:Nat} {r1 r2:List (List AV)} (hs:Ok s) (hn:1≤n) (iQ:n≤200):aw AP (.fn 108) [.agg [I n,.slice o1 e1 r1,.slice o2 e2 r2],.agg [I x,I y]] s=some (I (ke n x y),s):=by
 rw[aL (show AP 108=some Ee from rfl) rfl]
 have e:decide (y<x)=!decide (x≤y):=dec_lt _ _
 simp only[go_sem,Tk,gj,bR (x:=n-1) (by omega) (by omega),e,simprocAttr]
 unfold ke
 cases wi x 0 (n-1)<;>cases wi y 0 (n-1)<;>by_cases h:x≤y<;>simp only[go_sem,h,simprocAttr]<;>simp
theorem arE {n:Int} {as:List A} {o1 o2:Own} {e2:Nat} {rs:List (List AV)} {k:Nat} {a:A} (hs:Ok s) (OB:a.cl.l=[]∨a.cl.e=2) (hn:1≤n) (iQ:n≤200) (ha:as[k]? =some a) (bP:(a.name.size:Int)<9223372036854775808) (hl:as.length≤4) (aP:(a.cl.l.length:Int)<9223372036854775808):
  aw AP (.fn 92) [.agg [I n,.slice o1 3 (as.map bY),.slice o2 e2 rs],I k] s=some (I (lh n as k a),s):=by
 have hk:k<as.length:=(aY.1 ha).1
 obtain⟨name,jn,⟨oc,ec,cl⟩⟩:=a
 have bG:=cr (f:=bY) (o:=o1) (es:=3) ha
 have qb:∀{m:ae},aw AP (.fn 107) [S name] m=some (B (isName name),m):=SP bP
 have h6:decide ((6:Int)<(cl.length:Int))=!decide (cl.length≤6):=oh (by omega)
 have k2:∀(j:Nat) ρ m,j≤cl.length→(ρ 2=.ptr s.ag.length 0 0∧ρ 5=.ptr s.ag.length 1 0∧ρ 7=I j∧m=s.push ⟨[[I n,.slice o1 3 (as.map bY),.slice o2 e2 rs],[S name,I jn,.slice oc ec (cl.map gX)]],[]⟩)→
   go AP Vk (.c (.loop C7)::am4) ⟨ρ,m⟩=some (I (rO n (cl.drop j)),s):=by
  refine cq cl.length _ _ ?_ ?_
  ·rintro j ρ m hj ⟨g2,g5,g7,rfl⟩ ih
   obtain⟨p,hp⟩:=get_some hj
   have dD:ec=2:=by rcases OB with h|h;(simp only at h;rw[h]at hp;simp at hp);exact h
   subst dD
   have hr:=cr (f:=gX) (o:=oc) (es:=2) hp
   rw[eo hp,rO]
   by_cases h0:ke n p.1 p.2=0
   ·simp only[go_sem,C7,g2,g5,g7,aR hj,hr,zE (hs.push _) hn iQ,h0,bq,fI,bJ hj aP,simprocAttr]
    exact ih _ _ ⟨g2,g5,rfl,rfl⟩
   ·simp only[go_sem,C7,g2,g5,g7,aR hj,hr,zE (hs.push _) hn iQ,h0,bq,jV,simprocAttr]
  ·rintro ρ m ⟨g2,g5,g7,rfl⟩
   simp only[go_sem,C7,MD,g5,g7,bM,simprocAttr]
   rw[eE];rfl
 have k1:∀(j:Nat) ρ m,j≤k→(ρ 1=I k∧ρ 2=.ptr s.ag.length 0 0∧ρ 5=.ptr s.ag.length 1 0∧ρ 6=I j∧((as.take j).any fun b=>decide (b.name=name))=false∧m=s.push ⟨[[I n,.slice o1 3 (as.map bY),.slice o2 e2 rs],[S name,I jn,.slice oc ec (cl.map gX)]],[]⟩)→
   go AP Vk (.c (.loop x6)::am5) ⟨ρ,m⟩=some (I (if((as.take k).any fun b=>decide (b.name=name))=true then 5 else if wi jn 0 50=true then(if cl.length≤6 then rO n cl else 8)else 2),s):=by
  refine cq k _ _ ?_ ?_
  ·rintro j ρ m hj ⟨g1,g2,g5,g6,fF,rfl⟩ ih
   obtain⟨b,hb⟩:=get_some (l:=as) (k:=j) (by omega)
   have hr:=cr (f:=bY) (o:=o1) (es:=3) hb
   by_cases he:b.name=name
   ·have:((as.take k).any fun b=>decide (b.name=name))=true:=by
     rw[fS]
     refine⟨b,?_,by simpa using he⟩
     exact bK (i:=j) (by rw[xR,ak hj];exact hb)
    rw[ak this]
    simp only[go_sem,x6,g1,g2,g5,g6,aR hj,hr,he,simprocAttr]
   ·have hd:decide (b.name=name)=false:=ch he
    simp only[go_sem,x6,g1,g2,g5,g6,aR hj,hr,hd,bJ hj (show(k:Int)<_ by omega),simprocAttr]
    refine ih _ _ ⟨g1,g2,g5,rfl,?_,rfl⟩
    rw[fi hb,zL,fF];simp[he]
  ·rintro ρ m ⟨g1,g2,g5,g6,fF,rfl⟩
   rw[fF,aq (by simp)]
   cases jz:wi jn 0 50 with
   |false=>simp only[go_sem,x6,C8,g1,g5,g6,bM,gj,jz,simprocAttr]<;>rfl
   | true =>
    by_cases JK:cl.length≤6
    ·have hd:decide (cl.length≤6)=true:=bS JK
     simp only[go_sem,x6,C8,g1,g5,g6,bM,gj,jz,h6,hd,simprocAttr]
     refine(k2 0 _ _ (bh _) ?_).trans ?_
     ·exact⟨g2,g5,rfl,rfl⟩
     ·rw[ak JK,kI]
    ·have hd:decide (cl.length≤6)=false:=ch JK
     simp only[go_sem,x6,C8,g1,g5,g6,bM,gj,jz,h6,hd,simprocAttr]
     rw[aq JK]
 rw[aL (show AP 92=some D8 from rfl) rfl]
 unfold lh
 simp only
 cases hi:isName name with
 |false=>simp only[go_sem,MC,hs,bG,qb,hi,simprocAttr]<;>rfl
 |true=>
  simp only[go_sem,MC,hs,bG,qb,hi,simprocAttr]
  exact k1 0 _ _ (bh _) ⟨rfl,rfl,rfl,rfl,by simp,rfl⟩
theorem abR {n last:Int} {l:List Int} {k:Nat} {a:Int} (h:l[k]? =some a):kK n last (l.drop k)=if wi a 0 (n-1)=true then(if last<a then kK n a (l.drop (k+1))else 9)else 6:=by
 rw[eo h];rfl
theorem arI {n:Int} {as:List (List AV)} {r:R} {o1 o2:Own} {e1 e2:Nat} {rs:List (List AV)} (hs:Ok s) (gp:r.an.l=[]∨r.an.e=1) (hn:1≤n) (iQ:n≤200) (bP:(r.bU.size:Int)<9223372036854775808) (hl:as.length≤4) (aP:(r.an.l.length:Int)<9223372036854775808):
  aw AP (.fn 93) [.agg [I n,.slice o1 e1 as,.slice o2 e2 rs],.agg (bV r)] s=some (I (lN n as.length r),s):=by
 obtain⟨bU,lo,hi,len,val,⟨oa,ea,an⟩,need⟩:=r
 have qb:∀{m:ae},aw AP (.fn 107) [S bU] m=some (B (isName bU),m):=SP bP
 have Kf:IntKind.i64.wrap ((as.length:Int)-1)=(as.length:Int)-1:=bR (by omega) (by omega)
 have tB:(an.length:Int)<9223372036854775808:=aP
 have key : ∀ (j : Nat) ρ m, j ≤ an.length → (ρ 2 = .ptr s.ag.length 0 0 ∧ ρ 3 = .ptr s.ag.length 1 0 ∧ ρ 6 = I j ∧ (∃ last, kK (as.length : Nat) (-1) an = kK (as.length : Nat) last (an.drop j) ∧ (j = 0 → last = -1) ∧ ∀ i x, j = i + 1 → an[i]? = some x → last = x) ∧ m = s.push ⟨[[I n, .slice o1 e1 as, .slice o2 e2 rs], [S bU, I lo, I hi, I len, I val, .slice oa ea (an.map aD), I need]], []⟩) →
   go AP Vn (.c (.loop wb)::XX) ⟨ρ,m⟩=some (I (if kK (as.length:Nat) (-1) an=0 then(if wi need 1 an.length=true then 0 else 2)else kK (as.length:Nat) (-1) an),s):=by
  refine cq an.length _ _ ?_ ?_
  ·rintro j ρ m hj ⟨g2,g3,g6,⟨last,hL,hL0,hL1⟩,rfl⟩ ih
   obtain⟨x,hx⟩:=get_some hj
   have dD:ea=1:=by rcases gp with h|h;(simp only at h;rw[h]at hx;simp at hx);exact h
   subst dD
   have hr:=cr (f:=aD) (o:=oa) (es:=1) hx
   rw[abR hx]at hL
   have jA:=bJ hj aP
   cases jz:wi x 0 ((as.length:Int)-1)with
   |false=>
    rw[jz,aq (by simp)]at hL
    rw[hL]
    simp only[go_sem,wb,g2,g3,g6,aR hj,hr,gj,Kf,jz,simprocAttr]
   | true =>
    rw[jz,ak rfl]at hL
    have fQ:last<x→∀ρ' m',(ρ' 2=.ptr s.ag.length 0 0∧ρ' 3=.ptr s.ag.length 1 0∧ρ' 6=I ((j+1:Nat):Int)∧m'=s.push ⟨[[I n,.slice o1 e1 as,.slice o2 e2 rs],[S bU,I lo,I hi,I len,I val,.slice oa 1 (an.map aD),I need]],[]⟩)→
      go AP Vn (.c (.loop wb)::XX) ⟨ρ',m'⟩=some (I (if kK (as.length:Nat) (-1) an=0 then(if wi need 1 an.length=true then 0 else 2)else kK (as.length:Nat) (-1) an),s):=by
     intro Br
     rintro ρ' m' ⟨k2,k3,k6,rfl⟩
     rw[ak Br]at hL
     refine ih ρ' _ ⟨k2,k3,k6,⟨x,hL,fun h=>by omega,fun i y hi hy=>?_⟩,rfl⟩
     have:i=j:=by omega
     subst this
     rw[hx]at hy;injection hy
    cases j with
    |zero=>
     have pk:=hL0 rfl
     subst pk
     have oD:=(iW.1 jz).1
     have jw:jS none 1 (.slice oa 1 (an.map aD)) (I 0)=some (.bo (aD x) 0):=hr
     have ai9:decide ((0:Int)<(an.length:Int))=true:=bS (by omega)
     simp only[go_sem,wb,g2,g3,g6,ai9,jw,gj,Kf,jz,fp,simprocAttr]
     refine fQ (by omega) _ _ ?_
     exact⟨g2,g3,rfl,rfl⟩
    | succ i =>
     obtain⟨y,hy⟩:=get_some (l:=an) (k:=i) (by omega)
     have pk:=hL1 i y rfl hy
     subst pk
     have gI:=cr (f:=aD) (o:=oa) (es:=1) hy
     have hd:decide ((0:Int)<((i+1:Nat):Int))=true:=bS (by omega)
     have xh:IntKind.i64.wrap (((i+1:Nat):Int)-1)=((i:Nat):Int):=by rw[bR]<;>omega
     have pg:decide (x≤last)=!decide (last<x):=oh (by omega)
     by_cases Br:last<x
     ·have OF:decide (last<x)=true:=bS Br
      simp only[go_sem,wb,g2,g3,g6,aR hj,hr,gI,gj,Kf,jz,hd,xh,pg,OF,jA,simprocAttr]
      refine fQ Br _ _ ?_
      exact⟨g2,g3,rfl,rfl⟩
     ·have OF:decide (last<x)=false:=ch Br
      rw[aq Br]at hL
      rw[hL]
      simp only[go_sem,wb,g2,g3,g6,aR hj,hr,gI,gj,Kf,jz,hd,xh,pg,OF,simprocAttr]
  ·rintro ρ m ⟨g2,g3,g6,⟨last,hL,_,_⟩,rfl⟩
   rw[eE]at hL
   have hL':kK (as.length:Nat) (-1) an=0:=hL
   rw[hL',ak rfl]
   cases jz:wi need 1 (an.length:Nat)<;>simp only[go_sem,wb,MI,g3,g6,bM,gj,jz,simprocAttr]<;>rfl
 rw[aL (show AP 93=some Ec from rfl) rfl]
 unfold lN
 simp only
 cases sd:isName bU with
 |false=>simp only[go_sem,x7,qb,sd,simprocAttr]<;>rfl
 | true =>
  by_cases h2:ke n lo hi=0
  ·have hb:=Rd h2
   have w1:IntKind.i64.wrap (hi-lo)=hi-lo:=bR (by omega) (by omega)
   have w2:IntKind.i64.wrap (hi-lo+1)=hi-lo+1:=bR (by omega) (by omega)
   rw[ak rfl,h2,ak rfl]
   cases h3:wi len 1 (hi-lo+1)with
   |false=>simp only[go_sem,x7,qb,sd,zE (hs.push _) hn iQ,h2,bq,fI,w1,w2,gj,h3,jZ,simprocAttr]<;>rfl
   | true =>
    cases h4:wi val 0 100000 with
    |false=>simp only[go_sem,x7,qb,sd,zE (hs.push _) hn iQ,h2,bq,fI,w1,w2,gj,h3,h4,nT,simprocAttr]<;>rfl
    | true =>
     rw[xK,ak rfl]
     cases an with
     |nil=>
      rw[ak rfl]
      simp only[go_sem,x7,qb,sd,zE (hs.push _) hn iQ,h2,bq,fI,w1,w2,gj,h3,h4,fp,simprocAttr]
     |cons a t=>
      rw[aq (by simp)]
      have hd:decide ((((a::t).length:Nat):Int)=0)=false:=ch (by simp;omega)
      generalize hg:a::t=q at*
      simp only[go_sem,x7,qb,sd,zE (hs.push _) hn iQ,h2,bq,fI,w1,w2,gj,h3,h4,hd,simprocAttr]
      exact key 0 _ _ (bh _) ⟨rfl,rfl,rfl,⟨-1,rfl,fun _=>rfl,fun i x h=>by omega⟩,rfl⟩
  ·rw[ak rfl,aq h2]
   simp only[go_sem,x7,qb,sd,zE (hs.push _) hn iQ,h2,bq,jV,simprocAttr]
end
structure W.Hb (w:W):Prop where
 as:(w.as.l.length:Int)<9223372036854775808
 rs:(w.rs.l.length:Int)<9223372036854775808
 name:∀a∈w.as.l,(a.name.size:Int)<9223372036854775808
 cl:∀a∈w.as.l,(a.cl.l.length:Int)<9223372036854775808
 bU:∀r∈w.rs.l,(r.bU.size:Int)<9223372036854775808
 an:∀r∈w.rs.l,(r.an.l.length:Int)<9223372036854775808
def Jo (a:A):Bool:=decide (a.name.size≤20)&&decide (a.cl.l.length≤8)
def Fk (r:R):Bool:=decide (r.bU.size≤20)&&decide (r.an.l.length≤6)
def yB (w:W):Bool:=(decide (w.as.l.length≤6)&&decide (w.rs.l.length≤14))&&(w.as.l.all Jo&&w.rs.l.all Fk)
theorem Vw {w:W} (h:yB w=true):w.kY:=by
 simp only[yB,Jo,Fk,dI,dx,jJ]at h
 obtain⟨⟨h1,h2⟩,h3,h4⟩:=h
 exact⟨h1,h2,fun a ha=>(h3 a ha).1,fun a ha=>(h3 a ha).2,fun r hr=>(h4 r hr).1,fun r hr=>(h4 r hr).2⟩
theorem LU {α:Type} {p:α→Bool} {l:List α} {k:Nat} {x:α} (h:l[k]? =some x):(l.drop k).all p=(p x&&(l.drop (k+1)).all p):=by
 rw[eo h,vG]
def NJ (l:List (Int×Int)):Sl (Int×Int):=⟨wD (l.map gX),2,l⟩
theorem UU {l:List (Int×Int)}:(NJ l).ok 2:=by
 refine⟨.inr rfl,?_⟩
 cases l
 ·exact .inr (.inl rfl)
 ·exact .inl rfl
def cA (a:A):A:={a with cl:=NJ a.cl.l}
def cR (r:R):R:={r with an:=eW r.an.l}
def cW (w:W):W:=⟨w.mC,dv 3 (w.as.l.map cA),dv 7 (w.rs.l.map cR)⟩
theorem yj {w:W}:(cW w).as.l=w.as.l.map cA:=j5
theorem wh {w:W}:(cW w).rs.l=w.rs.l.map cR:=j5
theorem Uf {w:W}:(cW w).Ok:=by
 refine⟨vR,fun a ha=>?_,vR,fun r hr=>?_⟩
 ·rw[yj]at ha;obtain⟨b,_,rfl⟩:=cC.1 ha;exact UU
 ·rw[wh]at hr;obtain⟨b,_,rfl⟩:=cC.1 hr;exact yv
theorem Ue {w:W} (h:w.kY):(cW w).kY:=by
 refine⟨by rw[yj,bE];exact h.as,by rw[wh,bE];exact h.rs,fun a ha=>?_,fun a ha=>?_,fun r hr=>?_,fun r hr=>?_⟩
 ·rw[yj]at ha;obtain⟨b,hb,rfl⟩:=cC.1 ha;exact h.name b hb
 ·rw[yj]at ha;obtain⟨b,hb,rfl⟩:=cC.1 ha;exact h.cl b hb
 ·rw[wh]at hr;obtain⟨b,hb,rfl⟩:=cC.1 hr;exact h.bU b hb
 ·rw[wh]at hr;obtain⟨b,hb,rfl⟩:=cC.1 hr;exact h.an b hb
theorem VA {α β:Type} {f:Nat→β→Int} {g:α→β}:∀{l:List α} {k:Nat},fZ f k (l.map g)=fZ (fun i x=>f i (g x)) k l
 |[],_=>rfl
 |a::r,k=>by simp only[gO,fZ,VA (l:=r)]
theorem abP {n:Int} {as:List A} {k:Nat} {a:A}:lh n (as.map cA) k (cA a)=lh n as k a:=by
 unfold lh
 have:(((as.map cA).take k).any fun b=>decide (b.name=(cA a).name))=((as.take k).any fun b=>decide (b.name=a.name)):=by
  rw[←Lw,Hh];rfl
 rw[this];rfl
theorem aaZ {w:W}:dH (cW w)=dH w:=by
 unfold dH
 simp only[yj,wh,bE,VA,abP]
 rfl
section
variable{s:ae} {w:W}
theorem aru {w:W} (hs:Ok s) (hw:w.Ok) (hf:w.kY):aw AP (.fn 68) [w.v] s=some (MK (dH w),s):=by
 obtain⟨n,⟨o1,e1,as⟩,⟨o2,e2,rs⟩⟩:=w
 have h4:decide ((4:Int)<(as.length:Int))=!decide (as.length≤4):=oh (by omega)
 have cG:decide ((12:Int)<(rs.length:Int))=!decide (rs.length≤12):=oh (by omega)
 rw[aL (show AP 68=some DV from rfl) rfl]
 unfold dH
 simp only
 cases hn:wi n 1 200 with
 |false=>simp only[go_sem,CW,hs,gj,hn,simprocAttr]<;>rfl
 | true =>
  have jj:=iW.1 hn
  by_cases rW:as.length≤4
  case neg=>
   have hd:decide (as.length≤4)=false:=ch rW
   simp only[go_sem,CW,hs,gj,hn,h4,hd,simprocAttr]
   rw[aq (fun h=>rW h.1)]
  by_cases zd:rs.length≤12
  case neg=>
   have hd:decide (as.length≤4)=true:=bS rW
   have pg:decide (rs.length≤12)=false:=ch zd
   simp only[go_sem,CW,hs,gj,hn,h4,cG,hd,pg,simprocAttr]
   rw[aq (fun h=>zd h.2)]
  have hd:decide (as.length≤4)=true:=bS rW
  have pg:decide (rs.length≤12)=true:=bS zd
  rw[ak rfl,ak ⟨rW,zd⟩]
  have k2:∀j ρ m,j≤rs.length→(ρ 1=.ptr s.ag.length 0 0∧ρ 2=.ptr s.ag.length 1 0∧ρ 6=I j∧m=s.push ⟨[[I n,.slice o1 e1 (as.map bY),.slice o2 e2 (rs.map bV)],[I 0,I 0]],[]⟩)→
    go AP Vg (.c (.loop CX)::amM) ⟨ρ,m⟩=some (MK (match fZ (fun _ r=>lN n as.length r) j (rs.drop j)with|some (k,e)=>(2,k,e)|none=>(0,0,0)),s):=by
   refine cq rs.length _ _ ?_ ?_
   ·rintro j ρ m hj ⟨h1,h2,h6,rfl⟩ ih
    obtain⟨x,hx⟩:=get_some hj
    have fP:=bK hx
    have dD:e2=7:=by rcases hw.rs.1 with h|h;(simp only at h;rw[h]at hx;simp at hx);exact h
    subst dD
    have hr:=cr (f:=bV) (o:=o2) (es:=7) hx
    have m1:=hf.bU x fP
    have m2:=hf.an x fP
    have hq:∀r,aw AP (.fn 93) [.agg [I n,.slice o1 e1 (as.map bY),.slice o2 7 (rs.map bV)],.agg [S x.bU,I x.lo,I x.hi,I x.len,I x.val,.slice x.an.o x.an.e (x.an.l.map aD),I x.need]] (s.push r)=some (I (lN n as.length x),s.push r):=fun r=>by
     have:=arI (s:=s.push r) (n:=n) (as:=as.map bY) (r:=x) (o1:=o1) (e1:=e1) (o2:=o2) (e2:=7) (rs:=rs.map bV) (hs.push _) (hw.an x fP).1 jj.1 jj.2 (by omega) (by rw[bE];exact rW) (by omega)
     rw[bE]at this
     exact this
    rw[wI hx]
    by_cases h0:lN n as.length x=0
    ·simp only[go_sem,CX,h1,h6,aR hj,hr,hq,h0,bq,fI,bJ hj (show(rs.length:Int)<_ by omega),simprocAttr]
     refine ih _ _ ?_
     exact⟨h1,h2,rfl,rfl⟩
    ·simp only[go_sem,CX,h1,h2,h6,hs,aR hj,hr,hq,h0,bq,jV,simprocAttr]
   ·rintro ρ m ⟨h1,h2,h6,rfl⟩
    simp only[go_sem,CX,Ml,h1,h2,h6,hs,bM,simprocAttr]
    rw[eE];rfl
  have k1:∀j ρ m,j≤as.length→(ρ 1=.ptr s.ag.length 0 0∧ρ 2=.ptr s.ag.length 1 0∧ρ 4=I j∧m=s.push ⟨[[I n,.slice o1 e1 (as.map bY),.slice o2 e2 (rs.map bV)],[I 0,I 0]],[]⟩)→
    go AP Vg (.c (.loop CY)::amN) ⟨ρ,m⟩=some (MK (match fZ (lh n as) j (as.drop j)with|some (k,e)=>(1,k,e)|none=>match fZ (fun _ r=>lN n as.length r) 0 rs with|some (k,e)=>(2,k,e)|none=>(0,0,0)),s):=by
   refine cq as.length _ _ ?_ ?_
   ·rintro j ρ m hj ⟨h1,h2,A5,rfl⟩ ih
    obtain⟨x,hx⟩:=get_some hj
    have fP:=bK hx
    have dD:e1=3:=by rcases hw.as.1 with h|h;(simp only at h;rw[h]at hx;simp at hx);exact h
    subst dD
    have m1:=hf.name x fP
    have m2:=hf.cl x fP
    have hq:∀r,aw AP (.fn 92) [.agg [I n,.slice o1 3 (as.map bY),.slice o2 e2 (rs.map bV)],I j] (s.push r)=some (I (lh n as j x),s.push r):=fun r=>arE (hs.push _) (hw.cl x fP).1 jj.1 jj.2 hx (by omega) rW (by omega)
    rw[wI hx]
    by_cases h0:lh n as j x=0
    ·simp only[go_sem,CY,h1,A5,aR hj,hq,h0,bq,fI,bJ hj (show(as.length:Int)<_ by omega),simprocAttr]
     refine ih _ _ ?_
     exact⟨h1,h2,rfl,rfl⟩
    ·simp only[go_sem,CY,h1,h2,A5,hs,aR hj,hq,h0,bq,jV,simprocAttr]
   ·rintro ρ m ⟨h1,h2,A5,rfl⟩
    simp only[go_sem,CY,Mm,h1,A5,bM,simprocAttr]
    rw[eE]
    refine(k2 0 _ _ (bh _) ?_).trans rfl
    exact⟨h1,h2,rfl,rfl⟩
  simp only[go_sem,CW,gj,hn,h4,cG,hd,pg,simprocAttr]
  refine(k1 0 _ _ (bh _) ?_).trans rfl
  exact⟨rfl,rfl,rfl,rfl⟩
theorem ZD (hs:Ok s) (hw:w.Ok) (hf:w.kY):aw AP (.fn 34) [w.v] s=some (I (dH w).2.2,s):=by
 have hc:∀r,aw AP (.fn 68) [w.v] (s.push r)=some (MK (dH w),s.push r):=fun r=>aru (hs.push r) hw hf
 rw[aL (show AP 34=some D6 from rfl) rfl]
 simp only[W.v,bQ,Sl.v]at hc
 simp only[go_sem,Tf,hs,hc,simprocAttr]
theorem anQ (hs:Ok s) (hw:w.Ok) (hb:w.Hb):aw AP (.fn 20) [w.v] s=some (B (yB w),s):=by
 obtain⟨n,⟨o1,e1,as⟩,⟨o2,e2,rs⟩⟩:=w
 have h6:decide ((6:Int)<(as.length:Int))=!decide (as.length≤6):=oh (by omega)
 have tu:decide ((14:Int)<(rs.length:Int))=!decide (rs.length≤14):=oh (by omega)
 rw[aL (show AP 20=some DN from rfl) rfl]
 unfold yB
 simp only
 by_cases ha:as.length≤6
 case neg=>
  have hd:decide (as.length≤6)=false:=ch ha
  simp only[go_sem,H2,h6,hd,jZ,simprocAttr]
 by_cases hr:rs.length≤14
 case neg=>
  have hd:decide (as.length≤6)=true:=bS ha
  have pg:decide (rs.length≤14)=false:=ch hr
  simp only[go_sem,H2,h6,tu,hd,pg,jZ,nT,simprocAttr]
 have hd:decide (as.length≤6)=true:=bS ha
 have pg:decide (rs.length≤14)=true:=bS hr
 have k2:∀j ρ m,j≤rs.length→(ρ 1=.ptr s.ag.length 0 0∧ρ 4=I j∧m=s.push ⟨[[I n,.slice o1 e1 (as.map bY),.slice o2 e2 (rs.map bV)]],[]⟩)→
   go AP Vf (.c (.loop Ae)::amF) ⟨ρ,m⟩=some (B ((rs.drop j).all Fk),s):=by
  refine cq rs.length _ _ ?_ ?_
  ·rintro j ρ m hj ⟨h1,h4,rfl⟩ ih
   obtain⟨x,hx⟩:=get_some hj
   have fP:=bK hx
   have dD:e2=7:=by rcases hw.rs.1 with h|h;(simp only at h;rw[h]at hx;simp at hx);exact h
   subst dD
   have bG:=cr (f:=bV) (o:=o2) (es:=7) hx
   have q1:decide ((20:Int)<(x.bU.size:Int))=!decide (x.bU.size≤20):=oh (by omega)
   have q2:decide ((6:Int)<(x.an.l.length:Int))=!decide (x.an.l.length≤6):=oh (by omega)
   have bP:x.bU.data.size=x.bU.size:=rfl
   have jA:=bJ hj (show(rs.length:Int)<_ by omega)
   rw[LU hx]
   unfold Fk
   cases c1:decide (x.bU.size≤20)with
   |false=>simp only[go_sem,Ae,h1,h4,aR hj,bG,q1,c1,jZ,simprocAttr]
   | true =>
    cases c2:decide (x.an.l.length≤6)with
    |false=>simp only[go_sem,Ae,h1,h4,aR hj,bG,q1,q2,c1,c2,jZ,nT,simprocAttr]
    |true=>
     simp only[go_sem,Ae,h1,h4,aR hj,bG,q1,q2,c1,c2,jA,simprocAttr]
     refine(ih _ _ ?_).trans ?_
     ·exact⟨h1,rfl,rfl⟩
     ·rfl
  ·rintro ρ m ⟨h1,h4,rfl⟩
   simp only[go_sem,Ae,Me,h1,h4,bM,simprocAttr]
   rw[eE];rfl
 have k1:∀j ρ m,j≤as.length→(ρ 1=.ptr s.ag.length 0 0∧ρ 3=I j∧m=s.push ⟨[[I n,.slice o1 e1 (as.map bY),.slice o2 e2 (rs.map bV)]],[]⟩)→
   go AP Vf (.c (.loop Af)::amG) ⟨ρ,m⟩=some (B ((as.drop j).all Jo&&rs.all Fk),s):=by
  refine cq as.length _ _ ?_ ?_
  ·rintro j ρ m hj ⟨h1,h3,rfl⟩ ih
   obtain⟨x,hx⟩:=get_some hj
   have fP:=bK hx
   have dD:e1=3:=by rcases hw.as.1 with h|h;(simp only at h;rw[h]at hx;simp at hx);exact h
   subst dD
   have bG:=cr (f:=bY) (o:=o1) (es:=3) hx
   have q1:decide ((20:Int)<(x.name.size:Int))=!decide (x.name.size≤20):=oh (by omega)
   have q2:decide ((8:Int)<(x.cl.l.length:Int))=!decide (x.cl.l.length≤8):=oh (by omega)
   have bP:x.name.data.size=x.name.size:=rfl
   have jA:=bJ hj (show(as.length:Int)<_ by omega)
   rw[LU hx]
   unfold Jo
   cases c1:decide (x.name.size≤20)with
   |false=>simp only[go_sem,Af,h1,h3,aR hj,bG,q1,c1,jZ,simprocAttr]
   | true =>
    cases c2:decide (x.cl.l.length≤8)with
    |false=>simp only[go_sem,Af,h1,h3,aR hj,bG,q1,q2,c1,c2,jZ,nT,simprocAttr]
    |true=>
     simp only[go_sem,Af,h1,h3,aR hj,bG,q1,q2,c1,c2,jA,simprocAttr]
     refine(ih _ _ ?_).trans ?_
     ·exact⟨h1,rfl,rfl⟩
     ·rfl
  ·rintro ρ m ⟨h1,h3,rfl⟩
   simp only[go_sem,Af,Mf,h1,h3,bM,simprocAttr]
   rw[eE]
   refine(k2 0 _ _ (bh _) ?_).trans rfl
   exact⟨h1,rfl,rfl⟩
 simp only[go_sem,H2,h6,tu,hd,pg,xK,simprocAttr]
 refine(k1 0 _ _ (bh _) ?_).trans ?_
 ·exact⟨rfl,rfl,rfl⟩
 ·rfl
theorem acG {l:List (Int×Int)} {o:Own} {e:Nat} (hs:Ok s) (he:l=[]∨e=2) (hl:l.length≤4294967296):aw AP (.fn 32) [.slice o e (l.map gX)] s=some (.slice (wD (l.map gX)) 2 (l.map gX),s):=by
 rw[aL (show AP 32=some DC from rfl) rfl]
 rcases he with h|h
 ·subst h
  simp only[go_sem,L6,ej,Hn,simprocAttr]
  rfl
 ·subst h
  obtain⟨x',t',h1,h2⟩:=aew (s:=s) (r:=⟨[],[]⟩) (es:=2) (x:=.slice o 2 (l.map gX)) (xs:=l.map gX) (o:=o) rfl (by simpa using hl)
  simp only[go_sem,L6,h1,h2,simprocAttr]
theorem Acc.ext {d es:Nat} {xs:List (List AV)} {x:AV} {og:Option Nat} {tk tk':List (Option Nat)} (h:Acc d es xs x og tk) (hx:∀(g:Nat) (n:Option Nat),tk[g]? =some n→tk'[g]? =some n):Acc d es xs x og tk':=by
 cases og with
 |none=>exact h
 |some g=>exact⟨h.1,h.2.1,hx g _ h.2.2⟩
theorem acE {Q:ae} {l:List Int} {o:Own} {e:Nat} {tk:List (Option Nat)} (hQ:Ok Q) (he:l=[]∨e=1) (hl:l.length≤4294967296):
  ∃oo tk',(∀bx,aw AP (.fn 33) [.slice o e (l.map aD)] (Q.push ⟨bx,tk⟩)=some (.slice oo 1 (l.map aD),Q.push ⟨bx,tk'⟩))∧(AV.slice oo 1 (l.map aD)).close=some ((eW l).v aD)∧(∀(g:Nat) (n:Option Nat),tk[g]? =some n→tk'[g]? =some n)∧(l=[]→oo=.full)∧(l≠[]→oo=.tok Q.ag.length tk.length∧tk'=tk++[some l.length]):=by
 cases eN:l with
 |nil=>
  refine⟨.full,tk,fun bx=>?_,rfl,fun _ _ h=>h,fun _=>rfl,fun h=>absurd rfl h⟩
  rw[aL (show AP 33=some wj from rfl) rfl]
  simp only[go_sem,CO,ej,Hn,simprocAttr]
  show some (_,((Q.push ⟨bx,tk⟩).push ⟨[],[]⟩).pop)=_
  rw[pop_push]
 | cons a q =>
  rw[←eN]
  have hn:l≠[]:=by rw[eN];simp
  have kz:e=1:=by rcases he with h|h;exact absurd h hn;exact h
  subst kz
  refine⟨.tok Q.ag.length tk.length,tk++[some l.length],fun bx=>?_,by rw[eN];rfl,fun g n h=>?_,fun h=>absurd h hn,fun _=>⟨rfl,rfl⟩⟩
  ·have hlen:(Q.push ⟨bx,tk⟩).ag.length=Q.ag.length+1:=by simp[ae.push]
   have ha:ej ((Q.push ⟨bx,tk⟩).push ⟨[],[]⟩) 1 (.slice .full 1 []) (.slice o 1 (l.map aD))=some (.slice (.tok (Q.ag.length+1) 0) 1 (l.map aD),(Q.push ⟨bx,tk⟩).push ⟨[],[some l.length]⟩):=by
    have h3:=oH (Q.push ⟨bx,tk⟩) ⟨[],[]⟩
    have h4:=nq (Q.push ⟨bx,tk⟩) ⟨[],[]⟩ l.length
    rw[hlen]at h3 h4
    have h5:((Q.push ⟨bx,tk⟩).push ⟨[],[]⟩).cur=Q.ag.length+1:=by rw[fw,hlen]
    simp[ej,Own.isNil,di,hl,hn,h3,h4,h5]
   have lG:=KL (Q:=Q) (R:=⟨bx,tk⟩) (r0:=⟨[],[some l.length]⟩) (g:=0) (es:=1) (xs:=l.map aD) hQ (by simp)
   rw[aL (show AP 33=some wj from rfl) rfl]
   simp only[go_sem,CO,ha,simprocAttr]
   exact lG.trans (by rw[bE])
  ·have:=(aY.1 h).1
   rw[dB this];exact h
theorem arv (hs:Ok s) (hw:w.Ok) (hf:w.kY):aw AP (.fn 8) [w.v] s=some ((cW w).v,s):=by
 obtain⟨n,⟨o1,e1,as⟩,⟨o2,e2,rs⟩⟩:=w
 have hfa:as.length≤6:=hf.as
 have p9:rs.length≤14:=hf.rs
 have kr:∀(j:Nat) ρ m,j≤rs.length→(ρ 1=.ptr s.ag.length 0 0∧ρ 2=.ptr s.ag.length 1 0∧ρ 3=.ptr s.ag.length 2 0∧ρ 6=I j∧
   ∃xa qk xr GD tk bx,Acc s.ag.length 3 ((as.map cA).map bY) xa qk tk∧Acc s.ag.length 7 (((rs.take j).map cR).map bV) xr GD tk∧(GD≠qk∨GD=none)∧m=s.push ⟨[I n,.slice o1 e1 (as.map bY),.slice o2 e2 (rs.map bV)]::[I 0,.slice .aA 0 [],.slice .aA 0 []]::[I n,xa,xr]::bx,tk⟩)→
   go AP Vh (.c (.loop H7)::amP) ⟨ρ,m⟩=some ((cW ⟨n,⟨o1,e1,as⟩,⟨o2,e2,rs⟩⟩).v,s):=by
  refine cq rs.length _ _ ?_ ?_
  ·rintro j ρ m hj ⟨h1,h2,h3,h6,xa,qk,xr,GD,tk,bx,hA,hR,aB,rfl⟩ ih
   obtain⟨x,hx⟩:=get_some hj
   have fP:=bK hx
   have dD:e2=7:=by rcases hw.rs.1 with h|h;(simp only at h;rw[h]at hx;simp at hx);exact h
   subst dD
   have bG:=cr (f:=bV) (o:=o2) (es:=7) hx
   have m2:=hf.an x fP
   obtain⟨oo,ng,dY,gC,p7,_,_⟩:=acE (Q:=s) (l:=x.an.l) (o:=x.an.o) (e:=x.an.e) (tk:=tk) hs (hw.an x fP).1 (by omega)
   have uN:=Acc.ext hA p7
   have On:=Acc.ext hR p7
   have Bq:(rs.take j).length≤14:=by rw[fq];omega
   obtain⟨xr',apk,kW,cw,dX,uS,rW⟩:=On.append hs .full (ys:=[bV (cR x)]) (by simp) (by simp;omega)
   have Xa:=rW _ _ _ _ uN (by rcases aB with h|h;exact .inl fun e=>h e.symm;(cases qk with|none=>exact .inr rfl|some g=>exact .inl (by rw[h];simp)))
   obtain⟨KG,Jh,KT,rfl⟩:=Acc.sl hA
   obtain⟨or',er',rr',rfl⟩:=Acc.sl hR
   obtain⟨Y5,Vc,QW,rfl⟩:=Acc.sl dX
   have aP:closeAll [S x.bU,I x.lo,I x.hi,I x.len,I x.val,.slice oo 1 (x.an.l.map aD),I x.need]=some (bV (cR x)):=by
    simp only[lZ,n9,oR,NA,gC];rfl
   have jA:=bJ hj (show(rs.length:Int)<_ by omega)
   simp only[bV,Sl.v,cR]at cw aP
   simp only[go_sem,H7,h1,h3,h6,hs,aR hj,bG,dY,aP,cw,jA,simprocAttr]
   refine ih _ _ ?_
   refine⟨h1,h2,h3,rfl,_,qk,_,apk,kW,_,Xa.1,?_,.inl fun e=>Xa.2 e.symm,rfl⟩
   rw[fi hx,fT,fT];exact dX
  ·rintro ρ m ⟨h1,h2,h3,h6,xa,qk,xr,GD,tk,bx,hA,hR,aB,rfl⟩
   rw[ig]at hR
   have l1:=fun q:ae=>hA.BL q
   have l2:=fun q:ae=>hR.BL q
   obtain⟨KG,Jh,KT,rfl⟩:=Acc.sl hA
   obtain⟨or',er',rr',rfl⟩:=Acc.sl hR
   simp only[go_sem,H7,Mp,h1,h2,h3,h6,hs,bM,l1,l2,simprocAttr]
   rw[rE,rE];rfl
 have ka:∀(j:Nat) ρ m,j≤as.length→(ρ 1=.ptr s.ag.length 0 0∧ρ 2=.ptr s.ag.length 1 0∧ρ 3=.ptr s.ag.length 2 0∧ρ 4=I j∧
   ∃xa qk tk bx,Acc s.ag.length 3 (((as.take j).map cA).map bY) xa qk tk∧m=s.push ⟨[I n,.slice o1 e1 (as.map bY),.slice o2 e2 (rs.map bV)]::[I 0,.slice .aA 0 [],.slice .aA 0 []]::[I n,xa,.slice .aA 0 []]::bx,tk⟩)→
   go AP Vh (.c (.loop H8)::amQ) ⟨ρ,m⟩=some ((cW ⟨n,⟨o1,e1,as⟩,⟨o2,e2,rs⟩⟩).v,s):=by
  refine cq as.length _ _ ?_ ?_
  ·rintro j ρ m hj ⟨h1,h2,h3,h4,xa,qk,tk,bx,hA,rfl⟩ ih
   obtain⟨x,hx⟩:=get_some hj
   have fP:=bK hx
   have dD:e1=3:=by rcases hw.as.1 with h|h;(simp only at h;rw[h]at hx;simp at hx);exact h
   subst dD
   have bG:=cr (f:=bY) (o:=o1) (es:=3) hx
   have m2:=hf.cl x fP
   have jg:∀r,aw AP (.fn 32) [.slice x.cl.o x.cl.e (x.cl.l.map gX)] (s.push r)=some (.slice (wD (x.cl.l.map gX)) 2 (x.cl.l.map gX),s.push r):=fun r=>acG (hs.push r) (hw.cl x fP).1 (by omega)
   have u3:(as.take j).length≤6:=by rw[fq];omega
   obtain⟨xa',apj,kW,cw,dX,uS,rW⟩:=hA.append hs .full (ys:=[bY (cA x)]) (by simp) (by simp;omega)
   obtain⟨KG,Jh,KT,rfl⟩:=Acc.sl hA
   obtain⟨Y5,Vc,QW,rfl⟩:=Acc.sl dX
   have eM:(AV.slice (wD (x.cl.l.map gX)) 2 (x.cl.l.map gX)).close=some (.slice (wD (x.cl.l.map gX)) 2 (x.cl.l.map gX)):=Sl.close (f:=gX) (UU (l:=x.cl.l))
   have jA:=bJ hj (show(as.length:Int)<_ by omega)
   simp only[bY,Sl.v,cA,NJ]at cw
   simp only[go_sem,H8,h1,h3,h4,hs,aR hj,bG,jg,eM,cw,jA,simprocAttr]
   refine ih _ _ ?_
   refine⟨h1,h2,h3,rfl,_,apj,kW,_,?_,rfl⟩
   rw[fi hx,fT,fT];exact dX
  ·rintro ρ m ⟨h1,h2,h3,h4,xa,qk,tk,bx,hA,rfl⟩
   rw[ig]at hA
   obtain⟨KG,Jh,KT,rfl⟩:=Acc.sl hA
   simp only[go_sem,H8,Mq,h1,h4,bM,simprocAttr]
   refine kr 0 _ _ (bh _) ?_
   exact⟨h1,h2,h3,rfl,_,qk,.slice .aA 0 [],none,tk,bx,hA,Acc.start,.inr rfl,rfl⟩
 rw[aL (show AP 8=some DY from rfl) rfl]
 simp only[go_sem,S8,hs,simprocAttr]
 refine ka 0 _ _ (bh _) ?_
 exact⟨rfl,rfl,rfl,rfl,_,none,[],[],Acc.start,rfl⟩
end
section
variable{s:ae} {w:W}
theorem aoE {r:Rec} {q:Nat} {g:Bool} {n b off:Nat}:xq (s.push r) q g n (.ptr s.ag.length b off)=if r.boxes.length≤b+q then none else(s.push r).load g n (.ptr s.ag.length b off):=by
 unfold xq
 simp only[fw,xw,K7]
theorem aoD {m:ae} {q:Nat} {g:Bool} {n off:Nat} {cs:List AV}:xq m q g n (.bo cs off)=m.load g n (.bo cs off):=rfl
theorem af7 {r:Rec} {k n b off:Nat} {y:AV}:yC (s.push r) k n (.ptr s.ag.length b off) y=if b=r.boxes.length-k∧0<k then(s.push r).store n (.ptr s.ag.length b off) y else none:=by
 unfold yC
 simp only[fw,xw,K7]
attribute [go_sem] aoE aoD af7
theorem apr {β:Type} {f:Bool→β} {d:β}:lK AV.undef f d=d:=rfl
attribute [go_sem] apr
theorem ZM:List.replicate 2 ([]:List AV)=[[],[]]:=rfl
theorem aar {a b c r:List AV} {z:AV}:K1 [a,b,c,[],[]] [] 2 (z::r)=some (3,[a,b,c,z::r,[]]):=rfl
theorem aaq {a b c x r:List AV} {z:AV}:K1 [a,b,c,x,[]] [] 1 (z::r)=some (4,[a,b,c,x,z::r]):=rfl
theorem L5 {l:List Int} {o:Own} {e:Nat} {n:Int} (he:l=[]∨e=1) (hl:(l.length:Int)<9223372036854775808):
  aw AP (.fn 70) [.slice o e (l.map aD),I n] s=some (B (l.any fun m=>decide (m=n)),s):=by
 have key:∀(k:Nat) ρ m,k≤l.length→(ρ 0=.slice o e (l.map aD)∧ρ 1=I n∧ρ 5=I k∧m=s.push ⟨[],[]⟩)→go AP afm (.c (.loop CP)::amv) ⟨ρ,m⟩=some (B ((l.drop k).any fun m=>decide (m=n)),s):=by
  refine cq l.length _ _ ?_ ?_
  ·rintro k ρ m hk ⟨h0,h1,h5,rfl⟩ ih
   obtain⟨a,ha⟩:=get_some hk
   have he:e=1:=by rcases he with h|h;(rw[h]at ha;simp at ha);exact h
   subst he
   have hr:=cr (o:=o) (es:=1) (f:=aD) ha
   rw[eo ha,oM]
   cases hd:decide (a=n)with
   |true=>simp only[go_sem,CP,h0,h1,h5,aR hk,hr,hd,simprocAttr];rfl
   |false=>
    simp only[go_sem,CP,h0,h1,h5,aR hk,hr,hd,bJ hk hl,simprocAttr]
    rw[nU];exact ih _ _ ⟨h0,h1,rfl,rfl⟩
  ·rintro ρ m ⟨h0,h1,h5,rfl⟩
   simp only[go_sem,CP,L7,h0,h5,bM,simprocAttr]
   rw[eE];rfl
 rw[aL (show AP 70=some DD from rfl) rfl]
 simp only[go_sem,SR,simprocAttr]
 exact key 0 _ _ (bh _) ⟨rfl,rfl,rfl,rfl⟩
theorem arG {a:A} {t:Int} (hs:Ok s) (he:a.cl.l=[]∨a.cl.e=2) (hl:(a.cl.l.length:Int)<9223372036854775808):
  aw AP (.fn 99) [.agg (bY a),I t] s=some (B (isClosed a t),s):=by
 obtain⟨name,jn,⟨o,e,l⟩⟩:=a
 simp only at he hl
 have key:∀(k:Nat) ρ m,k≤l.length→(ρ 1=I t∧ρ 2=.ptr s.ag.length 0 0∧ρ 5=I k∧m=s.push ⟨[[S name,I jn,.slice o e (l.map gX)]],[]⟩)→go AP afE (.c (.loop Db)::am8) ⟨ρ,m⟩=some (B ((l.drop k).any fun p=>wi t p.1 p.2),s):=by
  refine cq l.length _ _ ?_ ?_
  ·rintro k ρ m hk ⟨h1,h2,h5,rfl⟩ ih
   obtain⟨a,ha⟩:=get_some hk
   have he:e=2:=by rcases he with h|h;(rw[h]at ha;simp at ha);exact h
   subst he
   have hr:=cr (o:=o) (es:=2) (f:=gX) ha
   rw[eo ha,oM]
   cases hd:wi t a.1 a.2 with
   |true=>simp only[go_sem,Db,h1,h2,h5,aR hk,hr,gj,hd,simprocAttr];rfl
   |false=>
    simp only[go_sem,Db,h1,h2,h5,aR hk,hr,gj,hd,bJ hk hl,simprocAttr]
    rw[nU];exact ih _ _ ⟨h1,h2,rfl,rfl⟩
  ·rintro ρ m ⟨h1,h2,h5,rfl⟩
   simp only[go_sem,Db,MG,h2,h5,bM,simprocAttr]
   rw[eE];rfl
 rw[aL (show AP 99=some D9 from rfl) rfl]
 simp only[go_sem,Ti,simprocAttr]
 exact key 0 _ _ (bh _) ⟨rfl,rfl,rfl,rfl⟩
theorem abV {f:Nat→Bool} {k m:Nat} (h:k<m):((List.range m).drop k).any f=(f k||((List.range m).drop (k+1)).any f):=by
 rw[eo (x:=k) (by simp[h]),oM]
theorem ZF {p:P} (hs:Ok s) (hw:Wk w) (hp:bW w p):aw AP (.fn 82) [w.v,.agg (aj p)] s=some (B (p.an.l.any fun a=>!cU w a p.start (w.rq p.req).len),s):=by
 have hlen:=hw.len hp.r0 hp.r1
 have hs0:=hp.s0
 have qS:=hp.s1
 have fl:=qg hw hp.r0 hp.r1
 have cD:=hp.len
 have gU:=hp.ok.1
 have Xc:=hp.an
 generalize hq:w.rq p.req=q at*
 obtain⟨req,st,⟨o,e,l⟩⟩:=p
 simp only at hlen hs0 qS fl cD gU Xc
 have hm:((q.len.toNat:Nat):Int)=q.len:=by omega
 have key : ∀ (k : Nat) ρ m, k ≤ l.length → (ρ 2 = .ptr s.ag.length 0 0 ∧ ρ 3 = .ptr s.ag.length 1 0 ∧ ρ 5 = I k ∧ m = s.push ⟨[bQ w, [I req, I st, .slice o e (l.map aD)]], []⟩) →
   go AP Vo (.c (.loop Dd)::anb) ⟨ρ,m⟩=some (B ((l.drop k).any fun a=>!cU w a st q.len),s):=by
  refine cq l.length _ _ ?_ ?_
  ·rintro k ρ m hk ⟨h2,h3,h5,rfl⟩ ih
   obtain⟨a,ha⟩:=get_some hk
   have he:e=1:=by rcases gU with h|h;(rw[h]at ha;simp at ha);exact h
   subst he
   have hr:=cr (o:=o) (es:=1) (f:=aD) ha
   obtain⟨rV,cw⟩:=Xc a (bK ha)
   obtain⟨x,hx,_,bG⟩:=Kt hw rV cw
   have fP:=bK hx
   have aP:∀r t,aw AP (.fn 99) [.agg (bY x),I t] (s.push r)=some (B (isClosed x t),s.push r):=fun r t=>arG (hs.push r) (hw.ok.cl x fP).1 (by have:=(hw.v.a x fP).UB;omega)
   have cp:(!cU w a st q.len)=(List.range q.len.toNat).any fun t=>isClosed x (st+t):=by
    unfold cU;rw[hx];simp
   have inner:∀(j:Nat) ρ m,j≤q.len.toNat→(ρ 2=.ptr s.ag.length 0 0∧ρ 3=.ptr s.ag.length 1 0∧ρ 5=I k∧ρ 6=I j∧m=s.push ⟨[bQ w,[I req,I st,.slice o 1 (l.map aD)]],[]⟩)→
     go AP Vo (.c (.loop De)::anc) ⟨ρ,m⟩=some (B ((((List.range q.len.toNat).drop j).any fun t=>isClosed x (st+t))||((l.drop (k+1)).any fun a=>!cU w a st q.len)),s):=by
    refine cq q.len.toNat _ _ ?_ ?_
    ·rintro j ρ m hj ⟨g2,g3,g5,g6,rfl⟩ fQ
     have dM:decide ((j:Int)<q.len)=true:=by simp;omega
     rw[abV hj]
     have xi:IntKind.i64.wrap (st+(j:Int))=st+j:=bR (by omega) (by omega)
     simp only[bY,Sl.v]at aP bG
     simp only[bV,Sl.v]at fl
     cases hd:isClosed x (st+j)with
     |true=>simp only[go_sem,De,g2,g3,g5,g6,fl,dM,hr,bG,aP,xi,hd,simprocAttr];rfl
     |false=>
      simp only[go_sem,De,g2,g3,g5,g6,fl,dM,hr,bG,aP,xi,hd,bJ hj (show((q.len.toNat:Nat):Int)<_ by omega),simprocAttr]
      rw[nU]
      exact fQ _ _ ⟨g2,g3,g5,rfl,rfl⟩
    ·rintro ρ m ⟨g2,g3,g5,g6,rfl⟩
     have dM:decide (((q.len.toNat:Nat):Int)<q.len)=false:=by simp;omega
     simp only[bV,Sl.v]at fl
     simp only[go_sem,De,MJ,g2,g3,g5,g6,fl,dM,bJ hk cD,simprocAttr]
     rw[xQ (by simp),List.any_nil,nU]
     exact ih _ _ ⟨g2,g3,rfl,rfl⟩
   rw[eo ha,oM,cp]
   simp only[go_sem,Dd,h3,h5,aR hk,simprocAttr]
   refine ub (inner 0 _ _ (bh _) ?_) ?_
   ·exact⟨h2,h3,h5,rfl,rfl⟩
   ·rw[kI]
  ·rintro ρ m ⟨h2,h3,h5,rfl⟩
   simp only[go_sem,Dd,Iq,h3,h5,bM,simprocAttr]
   rw[eE];rfl
 rw[aL (show AP 82=some Ed from rfl) rfl]
 simp only[go_sem,Tj,simprocAttr]
 exact key 0 _ _ (bh _) ⟨rfl,rfl,rfl,rfl⟩
theorem Zz {a b:P} (hs:Ok s) (hw:Wk w) (ha:bW w a) (hb:bW w b):aw AP (.fn 94) [w.v,.agg (aj a),.agg (aj b)] s=some (B (cQ w a b),s):=by
 have Bk:∀{a b:P},bW w a→bW w b→IntKind.i64.wrap (IntKind.i64.wrap (b.start-a.start)-(w.rq a.req).len)=b.start-l4 w a:=by
  intro a b ha hb
  have hl:=hw.len ha.r0 ha.r1
  have h3:=hb.s0
  have h4:=hb.s1
  have h5:=ha.s0
  have h6:=ha.s1
  unfold l4
  rw[bR (x:=b.start-a.start) (by omega) (by omega),bR (by omega) (by omega)];omega
 have key : ∀ (a b : P), bW w a → bW w b → ∀ (k : Nat) ρ m, k ≤ a.an.l.length → (ρ 3 = .ptr s.ag.length 0 0 ∧ ρ 4 = .ptr s.ag.length 1 0 ∧ ρ 5 = .ptr s.ag.length 2 0 ∧ ρ 7 = .ptr s.ag.length 3 0 ∧ ρ 8 = .ptr s.ag.length 4 0 ∧ ρ 9 = I (b.start - l4 w a) ∧ ρ 10 = I k ∧ m = s.push ⟨[bQ w, aj a, aj b, bV (w.rq a.req), bV (w.rq b.req)], []⟩) →
   go AP afu (.c (.loop v8)::amO) ⟨ρ,m⟩=some (B ((a.an.l.drop k).any fun n=>(b.an.l.any fun m=>decide (n=m))&&decide (b.start-l4 w a<(if(w.rq a.req).bU=(w.rq b.req).bU then 0 else w.pH n))),s):=by
  intro a b ha hb
  refine cq a.an.l.length _ _ ?_ ?_
  ·rintro k ρ m hk ⟨h3,h4,h5,h7,h8,h9,dm,rfl⟩ ih
   obtain⟨n,hn⟩:=get_some hk
   obtain⟨fE,F1⟩:=ha.an n (bK hn)
   obtain⟨x,hx,bX,bG⟩:=Kt hw fE F1
   have qT:=hw.pH fE F1
   have hr:=Sl.ix (f:=aD) ha.ok hn
   have hh:∀r,aw AP (.fn 70) [.slice b.an.o b.an.e (b.an.l.map aD),I n] (s.push r)=some (B (b.an.l.any fun m=>decide (m=n)),s.push r):=fun r=>L5 hb.ok.1 hb.len
   have ajZ:(b.an.l.any fun m=>decide (n=m))=b.an.l.any fun m=>decide (m=n):=by
    congr 1;funext m;exact UX eq_comm
   rw[eo hn,oM,ajZ]
   simp only[bY,Sl.v]at bG
   generalize((a.an.l.drop (k+1)).any fun n=>(b.an.l.any fun m=>decide (n=m))&&decide (b.start-l4 w a<(if(w.rq a.req).bU=(w.rq b.req).bU then 0 else w.pH n)))=R at*
   generalize b.start-l4 w a=t at*
   generalize(b.an.l.any fun m=>decide (m=n))=has at*
   rw[bX]at qT⊢
   cases has with
   |false=>
    simp only[go_sem,v8,h4,h5,dm,aR hk,hr,hh,bJ hk ha.len,simprocAttr]
    rw[jZ,nU]
    refine ih _ _ ?_
    exact⟨h3,h4,h5,h7,h8,h9,rfl,rfl⟩
   | true =>
    rw[iF]
    by_cases ht:t<0
    ·have:decide (t<(if(w.rq a.req).bU=(w.rq b.req).bU then 0 else x.jn))=true:=bS (by split<;>omega)
     rw[this,zI]
     simp only[go_sem,v8,h4,h5,h9,dm,aR hk,hr,hh,ht,simprocAttr]
    ·by_cases hm:(w.rq a.req).bU=(w.rq b.req).bU
     ·rw[ak hm,ch ht,nU]
      have lC:decide (¬(w.rq a.req).bU=(w.rq b.req).bU)=false:=by simp[hm]
      simp only[go_sem,v8,h4,h5,h7,h8,h9,dm,aR hk,hr,hh,bJ hk ha.len,ht,lC,bq,simprocAttr]
      refine ih _ _ ?_
      exact⟨h3,h4,h5,h7,h8,h9,rfl,rfl⟩
     ·rw[aq hm]
      have lC:decide (¬(w.rq a.req).bU=(w.rq b.req).bU)=true:=by simp[hm]
      by_cases er:t<x.jn
      ·rw[bS er,zI]
       simp only[go_sem,v8,h3,h4,h5,h7,h8,h9,dm,aR hk,hr,hh,bG,ht,lC,er,bq,simprocAttr]
      ·rw[ch er,nU]
       simp only[go_sem,v8,h3,h4,h5,h7,h8,h9,dm,aR hk,hr,hh,bG,bJ hk ha.len,ht,lC,er,bq,simprocAttr]
       refine ih _ _ ?_
       exact⟨h3,h4,h5,h7,h8,h9,rfl,rfl⟩
  ·rintro ρ m ⟨h3,h4,h5,h7,h8,h9,dm,rfl⟩
   simp only[go_sem,v8,Mn,h4,dm,bM,simprocAttr]
   rw[eE];rfl
 rw[aL (show AP 94=some DW from rfl) rfl]
 unfold cQ uC
 have ra:=qg hw ha.r0 ha.r1
 have rb:=qg hw hb.r0 hb.r1
 simp only[bV,Sl.v]at ra rb
 by_cases h1:a.req=b.req
 ·simp only[go_sem,H6,h1,simprocAttr]
 ·rw[aq h1]
  by_cases h2:b.start<a.start
  ·rw[ak h2]
   simp only[go_sem,H6,hs,ra,rb,h1,h2,ZM,aar,aaq,dJ,iY,Nat.reduceLeDiff,nr,Nat.lt_add_one,Nat.reduceLT,Nat.reduceEqDiff,Bk hb ha,simprocAttr]
   refine key b a hb ha 0 _ _ (bh _) ?_
   exact⟨rfl,rfl,rfl,rfl,rfl,rfl,rfl,rfl⟩
  ·rw[aq h2]
   simp only[go_sem,H6,hs,ra,rb,h1,h2,ZM,aar,aaq,dJ,iY,Nat.reduceLeDiff,nr,Nat.lt_add_one,Nat.reduceLT,Nat.reduceEqDiff,Bk ha hb,simprocAttr]
   refine key a b ha hb 0 _ _ (bh _) ?_
   exact⟨rfl,rfl,rfl,rfl,rfl,rfl,rfl,rfl⟩
end
section
variable{s:ae} {w:W}
theorem abS {l r:List Int}:(l.any fun n=>r.any fun m=>decide (n=m))=r.any fun n=>l.any fun m=>decide (n=m):=by
 rw[rr]
 simp only[fS,dx]
 constructor
 ·rintro⟨x,hx,y,hy,rfl⟩;exact⟨x,hy,x,hx,rfl⟩
 ·rintro⟨x,hx,y,hy,rfl⟩;exact⟨x,hy,x,hx,rfl⟩
theorem Uz (hw:Wk w) {a b:P} (ha:bW w a) (h:a.start=b.start):uC w a b=a.an.l.any fun n=>b.an.l.any fun m=>decide (n=m):=by
 have hl:=hw.len ha.r0 ha.r1
 unfold uC
 rw[rr]
 simp only[fS,dI,dx]
 constructor
 ·rintro⟨x,hx,h1,_⟩;exact⟨x,hx,h1⟩
 ·rintro⟨x,hx,h1⟩
  refine⟨x,hx,h1,?_⟩
  have:=hw.pH (ha.an x hx).1 (ha.an x hx).2
  unfold l4
  split<;>omega
theorem AK (hw:Wk w) {a b:P} (ha:bW w a) (hb:bW w b):cQ w a b=cQ w b a:=by
 unfold cQ
 by_cases h1:a.req=b.req
 ·rw[ak h1,ak (sR h1)]
 ·rw[aq h1,aq (show¬b.req=a.req from fun e=>h1 (sR e))]
  by_cases h2:b.start<a.start
  ·rw[ak h2,aq (by omega)]
  ·rw[aq h2]
   by_cases h3:a.start<b.start
   ·rw[ak h3]
   ·rw[aq h3,Uz hw ha (by omega),Uz hw hb (by omega),abS]
theorem abU {l:List Int} {a:Int}:(l.any fun m=>decide (m=a))=l.any fun b=>decide (a=b):=by
 congr 1;funext m;exact UX eq_comm
def sH (l:List Int):Nat→Int
 |0=>-1
 |k+1=>l.getD k 0
theorem X5 {l:List P} {i:Nat} {x:P} (h:l[i]? =some x):iB (l.take (i+1))=x.req:=by
 rw[fi h];unfold iB;simp
theorem arH {l:List P} {o:Own} {e i:Nat} {p:P} (hs:Ok s) (hw:Wk w) (he:l=[]∨e=3) (hn:(l.length:Int)<1000000) (hi:l[i]? =some p) (cH:p.an.ok 1) (cD:(p.an.l.length:Int)<1000000) (hl:∀x∈l.take i,bW w x):
  aw AP (.fn 69) [w.v,.slice o e (l.map aj),I i] s=some (I (dR w p (l.take i)),s):=by
 have sf:i<l.length:=(aY.1 hi).1
 have he:e=3:=by rcases he with h|h;(rw[h]at hi;simp at hi);exact h
 subst he
 have bG:=cr (f:=aj) (o:=o) (es:=3) hi
 have et:=hw.v.rl
 have iQ:=hw.v.n2
 rw[aL (show AP 69=some Eb from rfl) rfl]
 unfold dR
 have nQ:IntKind.i64.wrap ((w.rs.l.length:Int)-1)=(w.rs.l.length:Int)-1:=bR (by omega) (by omega)
 cases h1:wi p.req 0 (w.rs.l.length-1)with
 |false=>simp only[go_sem,uv,hs,bG,gj,nQ,h1,eB,simprocAttr]
 | true =>
  rw[ak rfl]
  obtain⟨jw,gH⟩:=iW.1 h1
  have zb:p.req<w.rs.l.length:=by omega
  have hq:=hw.rq jw zb
  have fl:=qg hw jw zb
  have hlen:=hw.len jw zb
  have ai7:=hq.qX
  have aiO:=hq.aZ
  have ai8:=hq.BN
  have ai2:=hq.pz
  generalize J7:w.rq p.req=q at*
  have vb:IntKind.i64.wrap (q.hi-q.len)=q.hi-q.len:=bR (by omega) (by omega)
  have By:IntKind.i64.wrap (q.hi-q.len+1)=q.hi+1-q.len:=by rw[bR (by omega) (by omega)];omega
  have kc:bW w p→∀(k:Nat) ρ m,k≤i→(ρ 1=.slice o 3 (l.map aj)∧ρ 2=I i∧ρ 3=.ptr s.ag.length 0 0∧ρ 7=.ptr s.ag.length 1 0∧ρ 10=I k∧m=s.push ⟨[bQ w,aj p,bV q],[]⟩)→
    go AP Vm (.c (.loop Dc)::am9) ⟨ρ,m⟩=some (I (if(((l.take i).drop k).any fun x=>cQ w x p)=true then 13 else 0),s):=by
   intro hp
   refine cq i _ _ ?_ ?_
   ·rintro k ρ m hk ⟨g1,g2,g3,g7,g10,rfl⟩ ih
    obtain⟨x,hx⟩:=get_some (l:=l) (k:=k) (by omega)
    have XJ:(l.take i)[k]? =some x:=by rw[xR,ak hk];exact hx
    have XG:=hl x (bK XJ)
    have hr:=cr (f:=aj) (o:=o) (es:=3) hx
    have ew:∀r,aw AP (.fn 94) [w.v,.agg (aj p),.agg (aj x)] (s.push r)=some (B (cQ w x p),s.push r):=fun r=>by
     rw[Zz (hs.push r) hw hp XG,AK hw hp XG]
    simp only[W.v,bQ,aj,Sl.v]at ew
    rw[eo XJ,oM]
    cases hd:cQ w x p with
    |true=>simp only[go_sem,Dc,g1,g2,g3,g7,g10,aR hk,hr,ew,hd,zI,simprocAttr]
    |false=>
     simp only[go_sem,Dc,g1,g2,g3,g7,g10,aR hk,hr,ew,hd,bJ hk (show(i:Int)<_ by omega),simprocAttr]
     rw[nU]
     refine ih _ _ ?_
     exact⟨g1,g2,g3,g7,rfl,rfl⟩
   ·rintro ρ m ⟨g1,g2,g3,g7,g10,rfl⟩
    simp only[go_sem,Dc,MH,g2,g10,bM,simprocAttr]
    rw[xQ (by rw[fq];omega)];rfl
  have ka : (q.lo ≤ p.start ∧ p.start ≤ q.hi + 1 - q.len) → ∀ (k : Nat) ρ m, k ≤ p.an.l.length → (ρ 1 = .slice o 3 (l.map aj) ∧ ρ 2 = I i ∧ ρ 3 = .ptr s.ag.length 0 0 ∧ ρ 7 = .ptr s.ag.length 1 0 ∧ ρ 8 = .ptr s.ag.length 2 0 ∧ ρ 9 = I k ∧ (∀ a ∈ p.an.l.take k, 0 ≤ a ∧ a < w.as.l.length) ∧ m = s.push ⟨[bQ w, aj p, bV q], []⟩) →
    go AP Vm (.c (.loop wa)::ana) ⟨ρ,m⟩=some (I (if eQ q (sH p.an.l k) (p.an.l.drop k)=0 then(if(p.an.l.any fun a=>!cU w a p.start q.len)=true then 21 else if cS w p (l.take i)=true then 13 else 0)else eQ q (sH p.an.l k) (p.an.l.drop k)),s):=by
   intro bX
   refine cq p.an.l.length _ _ ?_ ?_
   ·rintro k ρ m hk ⟨g1,g2,g3,g7,g8,g9,aZ,rfl⟩ ih
    obtain⟨a,ha⟩:=get_some hk
    have hr:=Sl.ix (f:=aD) cH ha
    have hh:∀r,aw AP (.fn 70) [.slice q.an.o q.an.e (q.an.l.map aD),I a] (s.push r)=some (B (q.an.l.any fun b=>decide (a=b)),s.push r):=fun r=>by
     have Bu:=W.pG jw zb
     rw[J7]at Bu
     rw[L5 (hw.ok.an q Bu).1 (by have:=hw.tm.an q Bu;omega)]
     rw[abU]
    rw[eo ha,eQ]
    cases hc:(q.an.l.any fun b=>decide (a=b))with
    |false=>
     simp only[go_sem,wa,g7,g8,g9,aR hk,hr,hh,hc,eB,simprocAttr]
    | true =>
     have dX:0≤a∧a<w.as.l.length:=by
      obtain⟨b,hb,he⟩:=fS.1 hc
      rw[Qi he];exact hq.s9 b hb
     rw[ak rfl]
     have WT:∀x∈p.an.l.take (k+1),0≤x∧x<w.as.l.length:=by
      intro x hx
      rw[fi ha,c9]at hx
      rcases hx with hx|hx
      ·exact aZ x hx
      ·rw[dO]at hx;rw[hx];exact dX
     have F9:sH p.an.l (k+1)=a:=by show p.an.l.getD k 0=a;rw[List.getD,ha];rfl
     rcases vM k with FT|FT
     ·have aC:sH p.an.l k<a:=by rw[FT,show sH p.an.l 0=-1 from rfl];omega
      rw[ak aC]
      have h0:decide ((0:Int)<(k:Int))=false:=by simp;omega
      simp only[go_sem,wa,g7,g8,g9,aR hk,hr,hh,hc,h0,bJ hk (show(p.an.l.length:Int)<_ by omega),simprocAttr]
      refine ub (ih _ _ ?_) ?_
      ·exact⟨g1,g2,g3,g7,g8,rfl,WT,rfl⟩
      ·rw[F9]
     ·obtain⟨b,hb⟩:=get_some (l:=p.an.l) (k:=k-1) (by omega)
      have gI:=Sl.ix (f:=aD) cH hb
      have h0:decide ((0:Int)<(k:Int))=true:=by simp;omega
      have jy:IntKind.i64.wrap ((k:Int)-1)=((k-1:Nat):Int):=by rw[bR (by omega) (by omega)];omega
      have oB:sH p.an.l k=b:=by
       obtain⟨j,rfl⟩:∃j,k=j+1:=⟨k-1,by omega⟩
       show p.an.l.getD j 0=b
       rw[List.getD,show p.an.l[j]? =some b from hb];rfl
      rw[oB]
      by_cases gB:b<a
      ·rw[ak gB]
       have hd:decide (a≤b)=false:=by simp;omega
       simp only[go_sem,wa,g7,g8,g9,aR hk,hr,hh,hc,h0,jy,gI,hd,bJ hk (show(p.an.l.length:Int)<_ by omega),simprocAttr]
       refine ub (ih _ _ ?_) ?_
       ·exact⟨g1,g2,g3,g7,g8,rfl,WT,rfl⟩
       ·rw[F9]
      ·rw[aq gB]
       have hd:decide (a≤b)=true:=by simp;omega
       simp only[go_sem,wa,g7,g8,g9,aR hk,hr,hh,hc,h0,jy,gI,hd,simprocAttr]
   ·rintro ρ m ⟨g1,g2,g3,g7,g8,g9,aZ,rfl⟩
    rw[ig]at aZ
    have hp:bW w p:=⟨jw,zb,by omega,by omega,aZ,cH,by omega⟩
    have ib:∀r,aw AP (.fn 82) [w.v,.agg (aj p)] (s.push r)=some (B (p.an.l.any fun a=>!cU w a p.start q.len),s.push r):=fun r=>by
     rw[ZF (hs.push r) hw hp,J7]
    have kc':=kc hp 0
    simp only[W.v,bQ,aj,Sl.v]at ib
    rw[eE,eQ,ak rfl]
    cases hc:(p.an.l.any fun a=>!cU w a p.start q.len)with
    |true=>simp only[go_sem,wa,Ip,g3,g7,g9,bM,ib,hc,simprocAttr]
    |false=>
     rw[aq (by simp)]
     simp only[go_sem,wa,Ip,g3,g7,g9,bM,ib,hc,simprocAttr]
     refine ub (kc' _ _ (bh _) ?_) ?_
     ·exact⟨g1,g2,g3,g7,rfl,rfl⟩
     ·rw[kI];rfl
  simp only[bV,aj,Sl.v]at fl bG
  have tail:(if wi p.start q.lo (q.hi+1-q.len)=true then(if(p.an.l.length:Int)=q.need then(if eQ q (-1) p.an.l=0 then(if(p.an.l.any fun a=>!cU w a p.start q.len)=true then 21 else if cS w p (l.take i)=true then 13 else 0)else eQ q (-1) p.an.l)else 10)else 2)=(if wi p.start q.lo (q.hi+1-q.len)=true then(if(p.an.l.length:Int)=q.need then(if eQ q (-1) p.an.l=0 then(if(p.an.l.any fun a=>!cU w a p.start q.len)=true then 21 else if cS w p (l.take i)=true then 13 else 0)else eQ q (-1) p.an.l)else 10)else 2):=rfl
  rcases vM i with JV|JV
  ·have aC:iB (l.take i)<p.req:=by rw[JV,show iB (l.take 0)=-1 from rfl];omega
   rw[ak aC]
   have h0:decide ((0:Int)<(i:Int))=false:=by simp;omega
   cases h2:wi p.start q.lo (q.hi+1-q.len)with
   |false=>simp only[go_sem,uv,hs,bG,gj,nQ,h1,h0,fl,vb,By,h2,eB,simprocAttr]
   | true =>
    rw[ak rfl]
    by_cases h3:(p.an.l.length:Int)=q.need
    ·rw[ak h3]
     have hd:decide (¬(p.an.l.length:Int)=q.need)=false:=by simp[h3]
     simp only[go_sem,uv,hs,bG,gj,nQ,h1,h0,fl,vb,By,h2,hd,bq,simprocAttr]
     refine ub (ka (iW.1 h2) 0 _ _ (bh _) ?_) ?_
     ·exact⟨rfl,rfl,rfl,rfl,rfl,rfl,fun a h=>absurd h (by simp),rfl⟩
     ·rw[kI];rfl
    ·rw[aq h3]
     have hd:decide (¬(p.an.l.length:Int)=q.need)=true:=by simp[h3]
     simp only[go_sem,uv,hs,bG,gj,nQ,h1,h0,fl,vb,By,h2,hd,bq,simprocAttr]
  ·obtain⟨x,hx⟩:=get_some (l:=l) (k:=i-1) (by omega)
   have gI:=cr (f:=aj) (o:=o) (es:=3) hx
   have h0:decide ((0:Int)<(i:Int))=true:=by simp;omega
   have jy:IntKind.i64.wrap ((i:Int)-1)=((i-1:Nat):Int):=by rw[bR (by omega) (by omega)];omega
   have u3:iB (l.take i)=x.req:=by
    obtain⟨j,rfl⟩:∃j,i=j+1:=⟨i-1,by omega⟩
    exact X5 hx
   rw[u3]
   simp only[aj,Sl.v]at gI
   by_cases aC:x.req<p.req
   ·rw[ak aC]
    have FH:decide (p.req≤x.req)=false:=by simp;omega
    cases h2:wi p.start q.lo (q.hi+1-q.len)with
    |false=>simp only[go_sem,uv,hs,bG,gj,nQ,h1,h0,jy,gI,FH,fl,vb,By,h2,eB,simprocAttr]
    | true =>
     rw[ak rfl]
     by_cases h3:(p.an.l.length:Int)=q.need
     ·rw[ak h3]
      have hd:decide (¬(p.an.l.length:Int)=q.need)=false:=by simp[h3]
      simp only[go_sem,uv,hs,bG,gj,nQ,h1,h0,jy,gI,FH,fl,vb,By,h2,hd,bq,simprocAttr]
      refine ub (ka (iW.1 h2) 0 _ _ (bh _) ?_) ?_
      ·exact⟨rfl,rfl,rfl,rfl,rfl,rfl,fun a h=>absurd h (by simp),rfl⟩
      ·rw[kI];rfl
     ·rw[aq h3]
      have hd:decide (¬(p.an.l.length:Int)=q.need)=true:=by simp[h3]
      simp only[go_sem,uv,hs,bG,gj,nQ,h1,h0,jy,gI,FH,fl,vb,By,h2,hd,bq,simprocAttr]
   ·rw[aq aC]
    have FH:decide (p.req≤x.req)=true:=by simp;omega
    simp only[go_sem,uv,hs,bG,gj,nQ,h1,h0,jy,gI,FH,simprocAttr]
theorem arq {l:List P} {o:Own} {e:Nat} (hs:Ok s) (hw:Wk w) (hl:iH l) (he:l=[]∨e=3):aw AP (.fn 35) [w.v,.slice o e (l.map aj)] s=some (.tuple [I (fu w l).1,I (fu w l).2],s):=by
 have hlen:=hl.len
 have key:∀(j:Nat) ρ x,j≤l.length→(ρ 1=.slice o e (l.map aj)∧ρ 2=.ptr s.ag.length 0 0∧ρ 6=I j∧(∀y∈l.take j,bW w y)∧x=s.push ⟨[bQ w],[]⟩)→
   go AP aft (.c (.loop CV)::amL) ⟨ρ,x⟩=some (match fZ (fun i x=>dR w x (l.take i)) j (l.drop j)with|some (k,e)=>.tuple [I k,I e]|none=>.tuple [I 0,I 0],s):=by
  refine cq l.length _ _ ?_ ?_
  ·rintro j ρ x hj ⟨h1,h2,h6,aZ,rfl⟩ ih
   obtain⟨p,hp⟩:=get_some hj
   have cH:=hl.ok p (bK hp)
   have gU:∀r,aw AP (.fn 69) [w.v,.slice o e (l.map aj),I j] (s.push r)=some (I (dR w p (l.take j)),s.push r):=fun r=>arH (hs.push r) hw he (by omega) hp cH.1 (by omega) aZ
   simp only[W.v,bQ,Sl.v]at gU
   rw[wI hp]
   by_cases h0:dR w p (l.take j)=0
   ·rw[ak h0]
    have dE:=(GI hw cH.1 (by omega) h0).1
    simp only[go_sem,CV,h1,h2,h6,aR hj,gU,h0,bq,fI,bJ hj (show(l.length:Int)<_ by omega),simprocAttr]
    refine ih _ _ ?_
    refine⟨h1,h2,rfl,?_,rfl⟩
    intro y hy
    rw[fi hp,c9]at hy
    rcases hy with hy|hy
    ·exact aZ y hy
    ·rw[dO]at hy;rw[hy];exact dE
   ·rw[aq h0]
    simp only[go_sem,CV,h1,h2,h6,aR hj,gU,h0,bq,jV,simprocAttr]
  ·rintro ρ x ⟨h1,h2,h6,aZ,rfl⟩
   simp only[go_sem,CV,Mk,h1,h6,bM,simprocAttr]
   rw[eE];rfl
 rw[aL (show AP 35=some DU from rfl) rfl]
 simp only[go_sem,S6,simprocAttr]
 refine ub (key 0 _ _ (bh _) ?_) ?_
 ·exact⟨rfl,rfl,rfl,fun y hy=>absurd hy (by simp),rfl⟩
 ·rw[kI];unfold fu
  cases fZ (fun i x=>dR w x (l.take i)) 0 l with
  |none=>rfl
  |some q=>rfl
end
section
variable{s:ae} {w:W}
theorem acF {m:ae} {l:List Int} {o:Own} {e:Nat} (he:l=[]∨e=1) (hl:l.length≤4294967296):
  aw AP (.fn 33) [.slice o e (l.map aD)] (cB m)=some ((eW l).v aD,cB m):=by
 cases eN:l with
 |nil=>
  rw[aL (show AP 33=some wj from rfl) rfl]
  simp only[go_sem,CO,ej,Hn,simprocAttr]
  show some (_,((cB m).push ⟨[],[]⟩).pop)=_
  rw[pop_push];rfl
 | cons a q =>
  rw[←eN]
  have hn:l≠[]:=by rw[eN];simp
  have kz:e=1:=by rcases he with h|h;exact absurd h hn;exact h
  subst kz
  have hlen:(cB m).ag.length=m.ag.length:=rfl
  have ha:ej ((cB m).push ⟨[],[]⟩) 1 (.slice .full 1 []) (.slice o 1 (l.map aD))=some (.slice (.tok m.ag.length 0) 1 (l.map aD),(cB m).push ⟨[],[some l.length]⟩):=by
   have h3:=oH (cB m) ⟨[],[]⟩
   have h4:=nq (cB m) ⟨[],[]⟩ l.length
   rw[hlen]at h3 h4
   have h5:((cB m).push ⟨[],[]⟩).cur=m.ag.length:=by rw[fw,hlen]
   simp[ej,Own.isNil,di,hl,hn,h3,h4,h5]
  rw[aL (show AP 33=some wj from rfl) rfl]
  simp only[go_sem,CO,ha,simprocAttr]
  rw[eN];rfl
def cP (p:P):P:=⟨p.req,p.start,eW p.an.l⟩
theorem QD {l:List P} {o:Own} {e:Nat} {Q:ae} {tk:List (Option Nat)} (hQ:Ok Q) (hl:iH l) (he:l=[]∨e=3):
  ∃x og tk',(∀bx,aw AP (.fn 9) [.slice o e (l.map aj)] (Q.push ⟨bx,tk⟩)=some (x,Q.push ⟨bx,tk'⟩))∧Acc Q.ag.length 3 ((l.map cP).map aj) x og tk'∧(tk'=tk∨tk'=tk++[some l.length]):=by
 have hlen:=hl.len
 have hs:∀bx,Ok (Q.push ⟨bx,tk⟩):=fun bx=>hQ.push _
 have oZ:∀bx,(Q.push ⟨bx,tk⟩).ag.length=Q.ag.length+1:=fun bx=>by simp[ae.push]
 have loop:∀bx,∀(k:Nat) ρ m,k≤l.length→(ρ 0=.slice o e (l.map aj)∧ρ 4=I k∧∃x og nh,Acc (Q.push ⟨bx,tk⟩).ag.length 3 (((l.take k).map cP).map aj) x og nh∧ρ 3=x∧m=(Q.push ⟨bx,tk⟩).push ⟨[],nh⟩)→
   go AP afv (.c (.loop CZ)::amR) ⟨ρ,m⟩=some (if l=[]then .slice .aA 0 []else .slice (.tok Q.ag.length tk.length) 3 ((l.map cP).map aj),if l=[]then Q.push ⟨bx,tk⟩else Q.push ⟨bx,tk++[some l.length]⟩):=by
  intro bx
  refine cq l.length _ _ ?_ ?_
  ·rintro k ρ m hk ⟨h0,h4,x,og,nh,hA,h3,rfl⟩ ih
   obtain⟨p,hp⟩:=get_some hk
   have dD:e=3:=by rcases he with h|h;(rw[h]at hp;simp at hp);exact h
   subst dD
   have cH:=hl.ok p (bK hp)
   have bG:=cr (f:=aj) (o:=o) (es:=3) hp
   have iO:∀m:ae,aw AP (.fn 33) [.slice p.an.o p.an.e (p.an.l.map aD)] (cB m)=some ((eW p.an.l).v aD,cB m):=fun m=>acF cH.1.1 (by omega)
   have aQ:(l.take k).length≤14:=by rw[fq];omega
   obtain⟨x',gv,kW,cw,dX,uS,rW⟩:=hA.append (hs bx) .full (ys:=[aj (cP p)]) (by simp) (by simp;omega)
   obtain⟨KG,Jh,KT,rfl⟩:=Acc.sl hA
   obtain⟨Y5,Vc,QW,rfl⟩:=Acc.sl dX
   have aP:closeAll [I p.req,I p.start,(eW p.an.l).v aD]=some (aj (cP p)):=by
    simp only[lZ,n9,oR,Sl.close (f:=aD) (yv (l:=p.an.l))];rfl
   simp only[aj,Sl.v,cP]at cw aP iO
   simp only[go_sem,CZ,h0,h3,h4,aR hk,bG,iO,aP,cw,bJ hk (show(l.length:Int)<_ by omega),simprocAttr]
   refine ih _ _ ?_
   refine⟨h0,rfl,_,gv,kW,?_,rfl,rfl⟩
   rw[fi hp,fT,fT];exact dX
  ·rintro ρ m ⟨h0,h4,x,og,nh,hA,h3,rfl⟩
   rw[ig]at hA
   cases og with
   |none=>
    obtain⟨uN,rfl⟩:=hA
    have eN:l=[]:=by simpa using uN
    rw[ak eN,ak eN]
    simp only[go_sem,CZ,H9,h0,h3,h4,bM,simprocAttr]
   |some g=>
    obtain⟨uN,rfl,hA3⟩:=hA
    have eN:¬l=[]:=by intro h;apply uN;rw[h];rfl
    rw[aq eN,aq eN]
    have lG:=KL (Q:=Q) (R:=⟨bx,tk⟩) (r0:=⟨[],nh⟩) (g:=g) (es:=3) (xs:=(l.map cP).map aj) hQ hA3
    rw[oZ]at h3
    simp only[go_sem,CZ,H9,h0,h3,h4,bM,simprocAttr]
    refine lG.trans ?_
    rw[bE,bE]
 have run:∀bx,aw AP (.fn 9) [.slice o e (l.map aj)] (Q.push ⟨bx,tk⟩)=some (if l=[]then .slice .aA 0 []else .slice (.tok Q.ag.length tk.length) 3 ((l.map cP).map aj),if l=[]then Q.push ⟨bx,tk⟩else Q.push ⟨bx,tk++[some l.length]⟩):=by
  intro bx
  rw[aL (show AP 9=some DX from rfl) rfl]
  simp only[go_sem,S7,simprocAttr]
  refine loop bx 0 _ _ (bh _) ?_
  exact⟨rfl,rfl,_,none,[],Acc.start,rfl,rfl⟩
 by_cases eN:l=[]
 ·refine⟨.slice .aA 0 [],none,tk,fun bx=>?_,⟨by rw[eN];rfl,rfl⟩,.inl rfl⟩
  rw[run bx,ak eN,ak eN]
 ·refine⟨.slice (.tok Q.ag.length tk.length) 3 ((l.map cP).map aj),some tk.length,tk++[some l.length],fun bx=>?_,⟨by simpa using eN,rfl,by simp⟩,.inr rfl⟩
  rw[run bx,aq eN,aq eN]
theorem abH {d es:Nat} {xs:List (List AV)} {x:AV} {og:Option Nat} {tk:List (Option Nat)} (h:Acc d es xs x og tk):∃o e,x=.slice o e xs∧(xs=[]∨e=es):=by
 cases og with
 |none=>obtain⟨h1,h2⟩:=h;subst h1;exact⟨_,_,h2,.inl rfl⟩
 |some g=>exact⟨_,_,h.2.1,.inr rfl⟩
theorem arz {l:List P} {o:Own} {e:Nat} (hs:Ok s) (hw:w.Ok) (hf:w.kY) (hl:iH l) (he:l=[]∨e=3):aw AP (.fn 11) [w.v,.slice o e (l.map aj)] s=some (I (rf w l).2,s):=by
 have mf:∀r,aw AP (.fn 34) [w.v] (s.push r)=some (I (dH w).2.2,s.push r):=fun r=>ZD (hs.push r) hw hf
 rw[aL (show AP 11=some D2 from rfl) rfl]
 unfold rf
 by_cases h0:(dH w).2.2=0
 ·have cV:Wk w:=⟨hw,hf,sO h0⟩
  have iO:∀r,aw AP (.fn 35) [w.v,.slice o e (l.map aj)] (s.push r)=some (.tuple [I (fu w l).1,I (fu w l).2],s.push r):=fun r=>arq (hs.push r) cV hl he
  simp only[W.v,bQ,Sl.v]at mf iO
  rw[ak h0]
  simp only[go_sem,Mt,mf,iO,h0,bq,fI,simprocAttr]
 ·simp only[W.v,bQ,Sl.v]at mf
  rw[aq h0]
  simp only[go_sem,Mt,mf,h0,bq,jV,simprocAttr]
theorem ZC {l:List P} {o:Own} {e:Nat} (hs:Ok s) (hw:Wk w) (hl:l.length≤14) (aZ:∀p∈l,bW w p) (he:l=[]∨e=3):aw AP (.fn 41) [w.v,.slice o e (l.map aj)] s=some (I (aV w l),s):=by
 have key:∀(k:Nat) ρ m,k≤l.length→(ρ 1=.slice o e (l.map aj)∧ρ 2=.ptr s.ag.length 0 0∧ρ 5=I (aV w (l.take k))∧ρ 6=I k∧m=s.push ⟨[bQ w],[]⟩)→
   go AP afC (.c (.loop Ij)::am2) ⟨ρ,m⟩=some (I (aV w l),s):=by
  refine cq l.length _ _ ?_ ?_
  ·rintro k ρ m hk ⟨h1,h2,h5,h6,rfl⟩ ih
   obtain⟨p,hp⟩:=get_some hk
   have dD:e=3:=by rcases he with h|h;(rw[h]at hp;simp at hp);exact h
   subst dD
   have qN:=aZ p (bK hp)
   have bG:=cr (f:=aj) (o:=o) (es:=3) hp
   have fl:=qg hw qN.r0 qN.r1
   have hb:=aaR hw (l:=l.take k) fun x hx=>aZ x (vJ hx)
   have hq:=hw.rq qN.r0 qN.r1
   have u7:=hq.Ch
   have Xi:=hq.Ci
   have aQ:(l.take k).length≤14:=by rw[fq];omega
   have gn:aV w (l.take (k+1))=aV w (l.take k)+(w.rq p.req).val:=by rw[fi hp,aaQ];simp[aV]
   have xi:IntKind.i64.wrap (aV w (l.take k)+(w.rq p.req).val)=aV w (l.take (k+1)):=by rw[gn,bR (by omega) (by omega)]
   simp only[bV,aj,Sl.v]at fl bG
   simp only[go_sem,Ij,h1,h2,h5,h6,aR hk,bG,fl,xi,bJ hk (show(l.length:Int)<_ by omega),simprocAttr]
   refine ih _ _ ?_
   exact⟨h1,h2,rfl,rfl,rfl⟩
  ·rintro ρ m ⟨h1,h2,h5,h6,rfl⟩
   rw[ig]at h5
   simp only[go_sem,Ij,MB,h1,h5,h6,bM,simprocAttr]
 rw[aL (show AP 41=some D5 from rfl) rfl]
 simp only[go_sem,Te,simprocAttr]
 refine key 0 _ _ (bh _) ?_
 exact⟨rfl,rfl,rfl,rfl,rfl⟩
def Ca (l:List P):Bool:=decide (l.length≤14)&&l.all fun p=>decide (p.an.l.length≤6)
structure zV (l:List P):Prop where
 len:(l.length:Int)<9223372036854775808
 ok:∀p∈l,p.an.ok 1
 an:∀p∈l,(p.an.l.length:Int)<9223372036854775808
theorem asL {l:List P} (hb:zV l) (h:Ca l=true):iH l:=by
 simp only[Ca,dI,dx,jJ]at h
 exact⟨h.1,fun p hp=>⟨hb.ok p hp,h.2 p hp⟩⟩
theorem anV {l:List P} {o:Own} {e:Nat} (hb:zV l) (he:l=[]∨e=3):aw AP (.fn 6) [.slice o e (l.map aj)] s=some (B (Ca l),s):=by
 have tu:decide ((14:Int)<(l.length:Int))=!decide (l.length≤14):=oh (by omega)
 have key:∀(k:Nat) ρ m,k≤l.length→(ρ 0=.slice o e (l.map aj)∧ρ 3=I k∧m=s.push ⟨[],[]⟩)→
   go AP afp (.c (.loop CT)::amH) ⟨ρ,m⟩=some (B ((l.drop k).all fun p=>decide (p.an.l.length≤6)),s):=by
  refine cq l.length _ _ ?_ ?_
  ·rintro k ρ m hk ⟨h0,h3,rfl⟩ ih
   obtain⟨p,hp⟩:=get_some hk
   have dD:e=3:=by rcases he with h|h;(rw[h]at hp;simp at hp);exact h
   subst dD
   have bG:=cr (f:=aj) (o:=o) (es:=3) hp
   have oB:=hb.an p (bK hp)
   have h6:decide ((6:Int)<(p.an.l.length:Int))=!decide (p.an.l.length≤6):=oh (by omega)
   simp only[aj,Sl.v]at bG
   rw[LU hp]
   cases hd:decide (p.an.l.length≤6)with
   |false=>simp only[go_sem,CT,h0,h3,aR hk,bG,h6,hd,nV,jZ,simprocAttr]
   |true=>
    simp only[go_sem,CT,h0,h3,aR hk,bG,h6,hd,jH,bJ hk hb.len,simprocAttr]
    exact ih _ _ ⟨h0,rfl,rfl⟩
  ·rintro ρ m ⟨h0,h3,rfl⟩
   simp only[go_sem,CT,Mh,h0,h3,bM,simprocAttr]
   rw[eE];rfl
 rw[aL (show AP 6=some DQ from rfl) rfl]
 unfold Ca
 cases hd:decide (l.length≤14)with
 |false=>simp only[go_sem,Mg,tu,hd,nV,jZ,simprocAttr]
 |true=>
  simp only[go_sem,Mg,tu,hd,jH,simprocAttr]
  exact key 0 _ _ (bh _) ⟨rfl,rfl,rfl⟩
end
end Go.Ax.Sx.Sc
