/-
  What a week is among the values that an argument may read as.
-/
import Derived.Test.YthpnomimjpcgnaaGreatDoorT9
import Derived.Test.YthpnomimjpcgnaaGreatDoorT8
import Derived.Test.YthpnomimjpcgnaaGreatDoorT6
set_option linter.unusedSimpArgs false
set_option linter.unusedVariables false
set_option maxRecDepth 100000
namespace Go.Ax.Sx.Sc
open Go.Ax
section
variable{s:ae} {w:W}
def zp (w:W):Bool:=yB w&&(decide (¬ie w=0)||decide (vC w 2000 0 w.rs.l.length 1≤2000))
theorem Re {w:W} (h:ie w=0):(dH w).2.2=0:=by
 unfold ie at h
 by_cases h0:(dH w).2.2=0
 ·exact h0
 ·rw[aq h0]at h;exact h
theorem anR (hs:Ok s) (hw:w.Ok) (hb:w.Hb):aw AP (.fn 5) [w.v] s=some (B (zp w),s):=by
 have lr:∀r,aw AP (.fn 20) [w.v] (s.push r)=some (B (yB w),s.push r):=fun r=>anQ (hs.push r) hw hb
 simp only[W.v,bQ,Sl.v]at lr
 unfold zp
 cases hf:yB w with
 |false=>
  rw[aL (show AP 5=some ym from rfl) rfl]
  simp only[go_sem,H3,lr,hf,jZ,simprocAttr]
 | true =>
  have hF:=Vw hf
  have mc:∀r,aw AP (.fn 10) [w.v] (s.push r)=some (I (ie w),s.push r):=fun r=>ZB (hs.push r) hw hF
  simp only[W.v,bQ,Sl.v]at mc
  by_cases h0:ie w=0
  ·have cV:Wk w:=⟨hw,hF,sO (Re h0)⟩
   have nP:∀r,aw AP (.fn 21) [w.v,I 2000] (s.push r)=some (I (vC w 2000 0 w.rs.l.length 1),s.push r):=fun r=>arD (hs.push r) cV
   simp only[W.v,bQ,Sl.v]at nP
   rw[h0]at mc
   rw[aL (show AP 5=some ym from rfl) rfl]
   simp only[go_sem,H3,lr,hf,mc,nP,h0,bq,fI,iF,nU,th,simprocAttr]
  ·have hd:decide (¬ie w=0)=true:=by simp[h0]
   rw[aL (show AP 5=some ym from rfl) rfl]
   simp only[go_sem,H3,lr,hf,mc,hd,bq,iF,zI,simprocAttr]
end
section
variable{s:ae} {w:W}
def AG (d es:Nat) (xs:List (List AV)) (x:AV) (tk:List (Option Nat)):Prop:=
 x=.slice .full es xs∨∃g,x=.slice (.tok d g) es xs∧tk[g]? =some (some xs.length)
theorem AG.sl {d es:Nat} {xs:List (List AV)} {x:AV} {tk:List (Option Nat)} (h:AG d es xs x tk):∃o,x=.slice o es xs:=by
 rcases h with h|⟨g,h,_⟩
 ·exact⟨_,h⟩
 ·exact⟨_,h⟩
theorem AG.ext {d es:Nat} {xs:List (List AV)} {x:AV} {tk tk':List (Option Nat)} (h:AG d es xs x tk) (hx:∀(g:Nat) (n:Option Nat),tk[g]? =some n→tk'[g]? =some n):AG d es xs x tk':=by
 rcases h with h|⟨g,h,hg⟩
 ·exact .inl h
 ·exact .inr ⟨g,h,hx _ _ hg⟩
theorem AG.append {es:Nat} {xs:List (List AV)} {x:AV} {tk:List (Option Nat)} (h:AG s.ag.length es xs x tk) (hs:Ok s) (o:Own) {ys:List (List AV)} (hy:ys≠[]) (hl:xs.length+ys.length≤4294967296):
  ∃x' tk',(∀bx,ej (s.push ⟨bx,tk⟩) es x (.slice o es ys)=some (x',s.push ⟨bx,tk'⟩))∧AG s.ag.length es (xs++ys) x' tk':=by
 have sv:ys.isEmpty=false:=by cases ys<;>simp_all
 rcases h with rfl|⟨g,rfl,hg⟩
 ·refine⟨.slice (.tok s.ag.length tk.length) es (xs++ys),tk++[some (xs.length+ys.length)],fun bx=>?_,.inr ⟨tk.length,rfl,by simp⟩⟩
  simp[ej,sv,Own.isNil,di,hl,oH,nq,fw]
 ·refine⟨.slice (.tok s.ag.length g) es (xs++ys),tk.set g (some (xs.length+ys.length)),fun bx=>?_,.inr ⟨g,rfl,?_⟩⟩
  ·simp[ej,sv,di,hl,xF,hg,KY,hs.ro,GR]
  ·rw[mE (aY.1 hg).1];simp
theorem arw {tk:List (Option Nat)} {l:List P} {o:Own} {e:Nat} (hs:Ok s) (hl:iH l) (he:l=[]∨e=3):
  ∃x og tk',(∀bx,kL (aw AP) (s.push ⟨bx,tk⟩) 9 [.slice o e (l.map aj)]=some (x,s.push ⟨bx,tk'⟩))∧Acc s.ag.length 3 ((l.map cP).map aj) x og tk'∧((og=none∧tk'=tk)∨(og=some tk.length∧tk'=tk++[some l.length])):=by
 by_cases eN:l=[]
 ·subst eN
  refine⟨.slice .aA 0 [],none,tk,fun bx=>?_,⟨rfl,rfl⟩,.inl ⟨rfl,rfl⟩⟩
  obtain⟨x,og,tk',h1,h2,_⟩:=QD (o:=o) (e:=e) (Q:=cB (s.push ⟨bx,tk⟩)) (tk:=[]) sF hl he
  have h1:=h1 []
  cases og with
  |some g=>exact absurd rfl h2.1
  |none=>
   obtain⟨_,rfl⟩:=h2
   unfold kL
   rw[show({(s.push ⟨bx,tk⟩).push ⟨[],[]⟩with ro:=(s.push ⟨bx,tk⟩).ag.length,bg:=(s.push ⟨bx,tk⟩).loops.length}:ae)=(cB (s.push ⟨bx,tk⟩)).push ⟨[],[]⟩from rfl,h1]
   rfl
 ·refine⟨.slice (.tok s.ag.length tk.length) 3 ((l.map cP).map aj),some tk.length,tk++[some l.length],fun bx=>?_,⟨by simpa using eN,rfl,by simp⟩,.inr ⟨rfl,rfl⟩⟩
  obtain⟨x,og,tk',h1,h2,h3⟩:=QD (o:=o) (e:=e) (Q:=cB (s.push ⟨bx,tk⟩)) (tk:=[]) sF hl he
  have h1:=h1 []
  have tz:(cB (s.push ⟨bx,tk⟩)).ag.length=(s.push ⟨bx,tk⟩).ag.length:=rfl
  have gD:(s.push ⟨bx,tk⟩).cur=s.ag.length:=fw _ _
  have hlen:(s.push ⟨bx,tk⟩).ag.length=s.ag.length+1:=by simp[ae.push]
  cases og with
  |none=>exact absurd h2.1 (by simpa using eN)
  | some g =>
   obtain⟨_,rfl,hg⟩:=h2
   have aj0:tk'=[some l.length]:=by
    rcases h3 with rfl|rfl
    ·simp at hg
    ·rfl
   subst aj0
   have sb:g=0:=by
    have:=(aY.1 hg).1
    simpa using this
   subst sb
   unfold kL
   rw[show({(s.push ⟨bx,tk⟩).push ⟨[],[]⟩with ro:=(s.push ⟨bx,tk⟩).ag.length,bg:=(s.push ⟨bx,tk⟩).loops.length}:ae)=(cB (s.push ⟨bx,tk⟩)).push ⟨[],[]⟩from rfl,h1]
   have va:((cB (s.push ⟨bx,tk⟩)).push ⟨[],[some l.length]⟩).tok (s.push ⟨bx,tk⟩).ag.length 0=some l.length:=by
    have:=xF (cB (s.push ⟨bx,tk⟩)) ⟨[],[some l.length]⟩ 0
    rw[tz]at this;rw[this];rfl
   have bf:(s.push ⟨bx,tk⟩).ro<(s.push ⟨bx,tk⟩).ag.length:=by rw[hlen];have:=hs.ro;show s.ro<_;omega
   simp only[tz]
   rw[ak ⟨trivial,by omega,bf,by rw[va,bE,bE]⟩]
   simp only[gD,oH,nq,bE]
theorem aqI {tk:List (Option Nat)} {l:List P} {o:Own} {e:Nat} (hs:Ok s) (hl:iH l) (he:l=[]∨e=3):
  ∃oc ec rc K6,(∀bx,kL (aw AP) (s.push ⟨bx,tk⟩) 9 [.slice o e (l.map aj)]=some (.slice oc ec rc,s.push ⟨bx,K6⟩))∧
   ∀(bx:List (List AV)) (o':Own) (row:List AV),ej (s.push ⟨bx,K6⟩) 3 (.slice oc ec rc) (.slice o' 3 [row])=some (.slice (.tok s.ag.length tk.length) 3 ((l.map cP).map aj++[row]),s.push ⟨bx,tk++[some (l.length+1)]⟩):=by
 obtain⟨x,og,tk',h1,h2,h3⟩:=arw (tk:=tk) (o:=o) (e:=e) hs hl he
 have aQ:=hl.len
 rcases h3 with⟨rfl,rfl⟩|⟨rfl,rfl⟩
 ·obtain⟨h2,rfl⟩:=h2
  have eN:l=[]:=by simpa using h2
  subst eN
  refine⟨_,_,_,_,h1,fun bx o' row=>?_⟩
  simp[ej,Own.isNil,di,oH,nq]
 ·obtain⟨_,rfl,hg⟩:=h2
  refine⟨_,_,_,_,h1,fun bx o' row=>?_⟩
  have hle:l.length+1≤4294967296:=by omega
  simp[ej,di,hle,xF,KY,hs.ro,GR]
end
section
variable{s:ae} {w:W}
def mZ (w:W):Nat→Nat→Nat
 |_,0=>1
 |i,k+1=>(1+(cY w (i:Int)).length)*mZ w (i+1) k
theorem oV {α β:Type} {f:α→List β} {N:Nat}:∀{L:List α},(∀x∈L,(f x).length≤N)→(L.flatMap f).length≤L.length*N
 |[],_=>by simp
 |x::r,h=>by
  rw[Cp,ck,dJ,ft,oN]
  have h1:=h x (by simp)
  have h2:=oV (L:=r) fun y hy=>h y (gP _ hy)
  omega
theorem BX {rq:List Int}:∀{k i:Nat} {l:List P},(eT w rq i k l).length≤mZ w i k
 |0,_,_=>by simp[eT,mZ]
 | k + 1, i, l => by
  simp only[eT,mZ]
  rw[ck,ft,oN]
  have h1:=BX (rq:=rq) (k:=k) (i:=i+1) (l:=l)
  have h2:(if(rq.any fun x=>decide (x=(i:Int)))=true then(cd w l i).flatMap fun p=>eT w rq (i+1) k (l++[p])else[]).length≤(cY w (i:Int)).length*mZ w (i+1) k:=by
   split
   ·refine jK (oV fun x _=>BX) ?_
    exact mF _ (lR _ _)
   ·simp
  omega
theorem Zn {rq:List Int}:∀{k i:Nat} {l:List P},eT w rq i k l≠[]
 |0,_,_=>by simp[eT]
 |k+1,i,l=>by
  simp only[eT]
  intro h
  exact Zn (Ll.1 h).1
theorem aa3 {di:Int}:∀{k i:Nat} {n:Int},1≤n→vC w di i k n≤di→n*(mZ w i k:Int)≤di
 |0,i,n,hn,h=>by simpa[vC,mZ]using h
 | k + 1, i, n, hn, h => by
  simp only[vC]at h
  by_cases hle:n≤di
  ·rw[ak hle]at h
   have h1:1≤n*(1+((cY w (i:Int)).length:Int)):=by
    have:=Int.mul_pos (show(0:Int)<n by omega) (show(0:Int)<1+((cY w i).length:Int)by omega)
    omega
   have:=aa3 (k:=k) (i:=i+1) h1 h
   simp only[mZ]
   rw[Int.natCast_mul,←Int.mul_assoc]
   simpa using this
  ·rw[aq hle]at h;exact absurd h hle
theorem UL {p:P}:∀{l:List P},cS w p (l.map cP)=cS w p l
 |[]=>rfl
 |x::r=>by
  have h:=UL (p:=p) (l:=r)
  unfold cS at*
  rw[gO,oM,oM,h];rfl
theorem Zm {l:List P} {i:Int}:cd w (l.map cP) i=cd w l i:=by
 unfold cd
 simp only[UL]
theorem aqR (hw:Wk w) {i:Int} (h0:0≤i) (h1:i<w.rs.l.length) {p:P} {n:Nat} (hp:p∈cY w i):cP (eU n p)=p:=by
 obtain⟨_,_,_,_,_,he,_⟩:=lL hw h0 h1 hp
 obtain⟨a,b,c⟩:=p
 show(⟨a,b,eW c.l⟩:P)=_
 rw[←he]
def Ny:Own→Own
 |.tok _ _=>.any
 |o=>o
theorem aeb {o:Own} {e:Nat} {xs:List (List AV)}:(AV.slice o e xs).close=some (.slice (Ny o) e xs):=by
 cases o<;>rfl
structure zY (w:W) (y:Sl P):Prop where
 ok:y.ok 3
 pl:iH y.l
 iD:∀p∈y.l,bW w p
theorem Zc {Q:ae} {R:Rec} {es:Nat} {xs:List (List AV)}:kD (Q.push R) (.slice .full es xs)=some (.slice .full es xs,Q):=by
 show some (_,(Q.push R).pop)=_
 rw[pop_push]
theorem AG.own {Q:ae} {bx:List (List AV)} {tk:List (Option Nat)} {B:List (List AV)} {es:Nat} {xs:List (List AV)} {x:AV} {nh:List (Option Nat)} (hQ:Ok Q) (h:AG (Q.ag.length+1) es xs x nh):
  ∃x' tk',kD ((Q.push ⟨bx,tk⟩).push ⟨B,nh⟩) x=some (x',Q.push ⟨bx,tk'⟩)∧AG Q.ag.length es xs x' tk'∧(∀(g:Nat) (n:Option Nat),tk[g]? =some n→tk'[g]? =some n):=by
 rcases h with rfl|⟨g,rfl,hg⟩
 ·exact⟨_,_,Zc,.inl rfl,fun _ _ h=>h⟩
 ·refine⟨_,_,KL hQ (R:=⟨bx,tk⟩) (r0:=⟨B,nh⟩) hg,.inr ⟨tk.length,rfl,by simp⟩,fun g n h=>?_⟩
  rw[dB (aY.1 h).1];exact h
def Si (w:W) (Q:ae) (bx:List (List AV)) (tk:List (Option Nat)) (L:List (List P)) (v:Option (AV×ae)):Prop:=
 ∃(Y:List (Sl P)) (x:AV) (tk':List (Option Nat)),v=some (x,Q.push ⟨bx,tk'⟩)∧AG Q.ag.length 1 (Y.map fun y=>[y.v aj]) x tk'∧(∀(g:Nat) (n:Option Nat),tk[g]? =some n→tk'[g]? =some n)∧(Y.map fun y=>y.l.map cP)=L∧∀y∈Y,zY w y
theorem arA (hw : Wk w) {rq : List Int} {o2 : Own} {e2 : Nat} (jv : rq = [] ∨ e2 = 1) (Xo : (rq.length : Int) < 9223372036854775808) : ∀ (k i : Nat) {Q : ae} {bx : List (List AV)} {tk : List (Option Nat)} {l : List P} {o : Own} {e : Nat},
    Ok Q→i+k=w.rs.l.length→mZ w i k≤4294967296→iH l→l.length≤i→(∀p∈l,bW w p)→(l=[]∨e=3)→(o.isNil=true→l=[])→
    Si w Q bx tk (eT w rq i k (l.map cP)) (aw AP (.fn 37) [w.v,.slice o e (l.map aj),I i,.slice o2 e2 (rq.map aD)] (Q.push ⟨bx,tk⟩)):=by
  have et:=hw.v.rl
  intro k
  induction k with
  | zero =>
    intro i Q bx tk l o e hQ hk hN hl hli aZ he ho
    have hi:i=w.rs.l.length:=by omega
    subst hi
    have hs:Ok (Q.push ⟨bx,tk⟩):=hQ.push _
    have aP:=aeb (o:=o) (e:=e) (xs:=l.map aj)
    refine⟨[⟨Ny o,e,l⟩],.slice .full 1 [[.slice (Ny o) e (l.map aj)]],tk,?_,.inl rfl,fun _ _ h=>h,rfl,fun y hy=>?_⟩
    · rw [aL (show AP 37 = some yn from rfl) rfl]
      simp only[go_sem,Ie,aP,Zc,simprocAttr]
    · rw [dO] at hy; subst hy
      refine⟨⟨he,?_⟩,hl,aZ⟩
      cases o with
      |aA=>exact .inr (.inr ⟨rfl,ho rfl⟩)
      |any=>exact .inl rfl
      |full=>exact .inr (.inl rfl)
      |tok d g=>exact .inl rfl
  | succ k ih =>
    intro i Q bx tk l o e hQ hk hN hl hli aZ he ho
    have hs:Ok (Q.push ⟨bx,tk⟩):=hQ.push _
    have hlen:(Q.push ⟨bx,tk⟩).ag.length=Q.ag.length+1:=by simp[ae.push]
    have Wl:mZ w (i+1) k≤4294967296:=by
      refine jK ?_ hN
      simp only[mZ]
      exact Nat.le_mul_of_pos_left _ (by omega)
    have w1:IntKind.i64.wrap ((i:Int)+1)=((i+1:Nat):Int):=by rw[bR (by omega) (by omega)];omega
    obtain⟨Y0,x0,K4,Bi,gm,oD,JY,jk⟩:=ih (i+1) (Q:=Q.push ⟨bx,tk⟩) (bx:=[bQ w]) (tk:=[]) (l:=l) (o:=o) (e:=e) hs (by omega) Wl hl (by omega) aZ he ho
    have d1:decide ((i:Int)=(w.rs.l.length:Int))=false:=by simp;omega
    have ph:∀m:ae,aw AP (.fn 70) [.slice o2 e2 (rq.map aD),I i] m=some (B (rq.any fun m=>decide (m=(i:Int))),m):=fun m=>L5 jv Xo
    cases hr:rq.any fun m=>decide (m=(i:Int))with
    | false =>
      rw[hlen]at gm
      obtain⟨xr,Rk,Bs,y5,O9⟩:=gm.own (bx:=bx) (tk:=tk) (B:=[bQ w]) hQ
      refine⟨Y0,xr,Rk,?_,y5,O9,?_,jk⟩
      · simp only [W.v, bQ, Sl.v] at Bi Bs
        rw[hr]at ph
        rw[aL (show AP 37=some yn from rfl) rfl]
        simp only[go_sem,Ie,d1,w1,Bi,ph,nV,simprocAttr]
        exact Bs
      · rw[JY];simp only[eT];rw[aq (by rw[hr];decide),iG]
    | true =>
      have cD:∀r,aw AP (.fn 71) [w.v,.slice o e (l.map aj),I i] ((Q.push ⟨bx,tk⟩).push r)=some (bp 3 (((cd w l i).map (eU (w.rq i).need.toNat)).map aj),(Q.push ⟨bx,tk⟩).push r):=fun r=>ary (hs.push r) hw (by omega) (by omega) he hl.len aZ
      have oC:∀p∈cd w l i,p∈cY w i:=fun p hp=>(eP.1 hp).1
      have p8:(cd w l i).length≤(cY w i).length:=lR _ _
      have avm:=xA hw (i:=(i:Int)) (by omega) (by omega)
      have ais:eT w rq i (k+1) (l.map cP)=eT w rq (i+1) k (l.map cP)++(cd w l i).flatMap fun p=>eT w rq (i+1) k (l.map cP++[p]):=by
        simp only[eT];rw[ak hr,Zm]
      rw[ais]
      have hNN:(1+(cd w l i).length)*mZ w (i+1) k≤4294967296:=jK (mF _ (by omega)) hN
      generalize J3:cd w l (i:Int)=pp at*
      generalize y3:(w.rq i).need.toNat=n at*
      have WX:mm false (bp 3 ((pp.map (eU n)).map aj))=some (I pp.length):=by rw[Gx,bE,bE]
      have key:∀(d j:Nat) (ρ:Nat→AV) (m:ae),j+d=pp.length→(ρ 1=.slice o e (l.map aj)∧ρ 2=I i∧ρ 3=.slice o2 e2 (rq.map aD)∧ρ 4=.ptr (Q.push ⟨bx,tk⟩).ag.length 0 0∧ρ 10=bp 3 ((pp.map (eU n)).map aj)∧ρ 11=I j∧
          ∃(Y:List (Sl P)) (nh:List (Option Nat)),AG (Q.push ⟨bx,tk⟩).ag.length 1 (Y.map fun y=>[y.v aj]) (ρ 9) nh∧(Y.map fun y=>y.l.map cP)=eT w rq (i+1) k (l.map cP)++(pp.take j).flatMap (fun p=>eT w rq (i+1) k (l.map cP++[p]))∧(∀y∈Y,zY w y)∧m=(Q.push ⟨bx,tk⟩).push ⟨[bQ w],nh⟩)→
          Si w Q bx tk (eT w rq (i+1) k (l.map cP)++pp.flatMap (fun p=>eT w rq (i+1) k (l.map cP++[p]))) (go AP afy (.c (.loop Ig)::amW) ⟨ρ,m⟩):=by
        intro d
        induction d with
        | zero =>
          rintro j ρ m hj ⟨g1,g2,g3,g4,g10,g11,Y,nh,hA,hY,Bc,rfl⟩
          have Bm:j=pp.length:=by omega
          subst Bm
          rw[ig]at hY
          rw[hlen]at hA
          obtain⟨xr,Rk,Bs,y5,O9⟩:=hA.own (bx:=bx) (tk:=tk) (B:=[bQ w]) hQ
          refine⟨Y,xr,Rk,?_,y5,O9,hY,Bc⟩
          rw[go_loop]
          simp only[go_sem,Ig,Mv,g10,g11,WX,bM,simprocAttr]
          exact Bs
        | succ d ihd =>
          rintro j ρ m hj ⟨g1,g2,g3,g4,g10,g11,Y,nh,hA,hY,Bc,rfl⟩
          obtain⟨p,hp⟩:=get_some (show j<pp.length by omega)
          have gV:=oC p (bK hp)
          obtain⟨dE,qO,_,_,Bt,_,jy,_⟩:=lL hw (show(0:Int)≤(i:Int)by omega) (by omega) gV
          have qM:cP (eU n p)=p:=aqR hw (by omega) (by omega) gV
          have ajB:p.an.l.length≤6:=by
            have hq:=hw.tm.an _ (W.pG (w:=w) (i:=(i:Int)) (by omega) (by omega))
            have:=jy.length_le
            omega
          have bG:jS none 3 (bp 3 ((pp.map (eU n)).map aj)) (I j)=some (.bo (aj (eU n p)) 0):=BI (by rw[gN,gN,hp];rfl)
          obtain⟨oc,ec,rc,K6,iO,ku⟩:=aqI (s:=Q.push ⟨bx,tk⟩) (tk:=nh) (l:=l) (o:=o) (e:=e) hs hl he
          have aP:closeAll [I p.req,I p.start,(mD n p.an.l).v aD]=some (aj (eU n p)):=by
            simp only[lZ,n9,oR,Sl.close (f:=aD) (Cd (n:=n) (g:=p.an.l))];rfl
          have ku:=ku [bQ w] .full (aj (eU n p))
          have O0:(l.map cP).map aj++[aj (eU n p)]=(l.map cP++[eU n p]).map aj:=by rw[fT];rfl
          rw[O0]at ku
          have eM:(l.map cP++[eU n p]).map cP=l.map cP++[p]:=by
            rw[fT,xU,gO,nj,qM]
            congr 1
          have aip:=Ud hl
          obtain⟨Y2,x2,kW,gC,uO,oE,fD,zj⟩:=ih (i+1) (Q:=Q.push ⟨bx,tk⟩) (bx:=[bQ w]) (tk:=nh++[some (l.length+1)]) (l:=l.map cP++[eU n p]) (o:=.tok (Q.push ⟨bx,tk⟩).ag.length nh.length) (e:=3) hs (by omega) Wl
            ⟨by rw[ck,bE,xT];omega,fun q hq=>by
              rw[c9,dO]at hq
              rcases hq with hq|rfl
              · exact aip.ok q hq
              · exact⟨Cd,ajB⟩⟩
            (by rw[ck,bE,xT];omega)
            (fun q hq=>by
              rw[c9,dO]at hq
              rcases hq with hq|rfl
              · obtain ⟨a, ha, rfl⟩ := cC.1 hq
                have h:=aZ a ha
                exact⟨h.r0,h.r1,h.s0,h.s1,h.an,yv,h.len⟩
              · exact Zj dE)
            (.inr rfl) (fun h=>by cases h)
          rw[eM]at fD
          have hlY:Y.length=(eT w rq (i+1) k (l.map cP)++(pp.take j).flatMap (fun p=>eT w rq (i+1) k (l.map cP++[p]))).length:=by rw[←hY,bE]
          have avw:Y2.length=(eT w rq (i+1) k (l.map cP++[p])).length:=by rw[←fD,bE]
          have zf:Y.length+Y2.length≤4294967296:=by
            have a1:=BX (w:=w) (rq:=rq) (k:=k) (i:=i+1) (l:=l.map cP)
            have a2:=BX (w:=w) (rq:=rq) (k:=k) (i:=i+1) (l:=l.map cP++[p])
            have a3:((pp.take j).flatMap (fun p=>eT w rq (i+1) k (l.map cP++[p]))).length≤(pp.take j).length*mZ w (i+1) k:=oV fun x _=>BX
            have a4:(pp.take j).length=j:=by rw[fq];omega
            rw[a4]at a3
            rw[ck]at hlY
            have a5:(1+j+1)*mZ w (i+1) k≤(1+pp.length)*mZ w (i+1) k:=mF _ (by omega)
            rw[ft,ft,oN]at a5
            omega
          have F3:(Y2.map fun y=>[y.v aj])≠[]:=by
            intro h
            have:Y2=[]:=by simpa using h
            rw[this]at fD
            exact Zn fD.symm
          obtain⟨xo,qd⟩:=uO.sl
          have hAx:AG (Q.push ⟨bx,tk⟩).ag.length 1 (Y.map fun y=>[y.v aj]) (ρ 9) kW:=hA.ext fun g n h=>oE g n (by rw[dB (aY.1 h).1];exact h)
          obtain⟨x3,K5,cw,dX⟩:=hAx.append hs xo F3 (by rw[bE,bE];omega)
          rw[←qd]at cw
          have cw:=cw [bQ w]
          have d2:decide ((j:Int)<(pp.length:Int))=true:=by simp;omega
          have w2:IntKind.i64.wrap ((j:Int)+1)=((j+1:Nat):Int):=by rw[bR (by omega) (by omega)];omega
          simp only[aj,Sl.v,W.v,bQ,eU,mD]at aP bG ku gC iO
          rw[go_loop]
          simp only[go_sem,Ig,g1,g2,g3,g4,g10,g11,WX,d2,w1,w2,iO,bG,aP,ku,gC,cw,simprocAttr]
          refine ihd (j+1) _ _ (by omega) ?_
          refine⟨g1,g2,g3,g4,g10,rfl,Y++Y2,K5,by rw[fT];exact dX,?_,fun y hy=>?_,rfl⟩
          · rw[fT,hY,fD,fi hp,List.flatMap_append,gL];simp
          · rcases c9.1 hy with h | h
            · exact Bc y h
            · exact zj y h
      simp only[W.v,bQ,Sl.v]at Bi cD
      rw[hr]at ph
      rw[aL (show AP 37=some yn from rfl) rfl]
      simp only[go_sem,Ie,d1,w1,Bi,ph,cD,jH,simprocAttr]
      refine key pp.length 0 _ _ (by omega) ?_
      exact⟨rfl,rfl,rfl,rfl,rfl,rfl,Y0,K4,gm,by rw[JY];simp,jk,rfl⟩
end
section
variable{s:ae} {w:W}
theorem Rl:∀{l:List P},aV w (l.map cP)=aV w l
 |[]=>rfl
 |p::r=>by
  simp only[gO,aV,Rl (l:=r)];rfl
theorem T3:∀{a b:List P},cg (a.map cP) (b.map cP)=cg a b
 |[],[]=>rfl
 |[],_::_=>rfl
 |_::_,[]=>rfl
 |x::r,y::t=>by
  have h:=T3 (a:=r) (b:=t)
  simp only[gO,cg,h];rfl
theorem zY.sm {y:Sl P} (h:zY w y):Cz y.l:=⟨by have:=h.pl.len;omega,fun p hp=>⟨(h.pl.ok p hp).1,by have:=(h.pl.ok p hp).2;omega⟩⟩
abbrev dr (n:Nat):List Int:=(List.range n).map fun i:Nat=>(i:Int)
theorem Wk.c (hw:Wk w) (h0:(dH w).2.2=0):Wk (cW w):=⟨Uf,Ue hw.tm,sO (by rw[aaZ];exact h0)⟩
theorem Qw (hw:Wk w) {rq:List Int}:∀{k i:Nat} {l:List P},i+k=w.rs.l.length→(∀x∈l,0≤x.req∧x.req<w.rs.l.length)→eT (cW w) rq i k l=eT w rq i k l
 |0,_,_,_,_=>rfl
 | k + 1, i, l, hk, hl => by
  simp only[eT]
  rw[Qw hw (k:=k) (i:=i+1) (by omega) hl,←Zm (w:=cW w),aqL hw (by omega) (by omega) hl]
  congr 1
  split
  ·have:∀L:List P,(∀p∈L,p∈cd w l (i:Int))→(L.flatMap fun p=>eT (cW w) rq (i+1) k (l++[p]))=L.flatMap fun p=>eT w rq (i+1) k (l++[p]):=by
    intro L
    induction L with
    |nil=>intro _;rfl
    | cons a L ih =>
     intro h
     have ha:=h a (by simp)
     obtain⟨dE,_⟩:=lL hw (show(0:Int)≤(i:Int)by omega) (by omega) (eP.1 ha).1
     rw[Cp,Cp,ih fun p hp=>h p (gP _ hp),Qw hw (k:=k) (i:=i+1) (by omega) fun x hx=>by
      rw[c9,dO]at hx
      rcases hx with hx|rfl
      ·exact hl x hx
      ·exact⟨dE.r0,dE.r1⟩]
   exact this _ fun _ h=>h
  ·rfl
theorem as5:ie (cW w)=ie w:=by
 unfold ie
 rw[aaZ]
 have:zG (cW w)=zG w:=by
  unfold zG
  rw[Ap,wh,Hh];rfl
 rw[this]
theorem aoz {w:W} (h:zp w=true) (h0:ie w=0):mZ w 0 w.rs.l.length≤2000:=by
 unfold zp at h
 rw[dI,ru,dx,dx]at h
 rcases h.2 with h|h
 ·exact absurd h0 h
 ·have:=aa3 (show(1:Int)≤1 by omega) h
  omega
end
section
variable{w:W} {all:List (Sl P×Bool)}
def cL (all:List (Sl P×Bool)) (i:Int):List P:=(all.getD i.toNat default).1.l
def cO (all:List (Sl P×Bool)) (i:Nat):Bool:=(all.getD i default).2
structure CA (w:W) (all:List (Sl P×Bool)):Prop where
 len:all.length=w.rs.l.length
 iD:∀i:Int,0≤i→i<w.rs.l.length→∀p∈cL all i,bW w p∧p.req=i
 srt:∀i:Int,0≤i→i<w.rs.l.length→(cL all i).Pairwise fun a b=>lexB (kP a) (kP b)=true
theorem VI (hw:Wk w) (hA:CA w all) {pl:List P} {m:Nat} (hm:m<2^w.rs.l.length):
  gZ w all pl m=true↔∃f:Int→P,(∀i∈iC pl m,f i∈cL all i∧∀p∈pl,cQ w (f i) p=false)∧(∀i∈iC pl m,∀j∈iC pl m,i≠j→cQ w (f i) (f j)=false):=by
 have et:=hw.v.rl
 have qL:m<2^62:=nk hm (jq (by decide) (by omega))
 have aZ:∀i∈iC pl m,0≤i∧i<w.rs.l.length:=by
  intro i hi
  obtain⟨h0,h1⟩:=(zt qL).1 (eP.1 hi).1
  refine⟨h0,?_⟩
  apply qm
  intro h
  have:m<2^i.toNat:=nk hm (jq (by decide) (by omega))
  rw[HD this]at h1
  exact absurd h1 (by decide)
 have p6:(iC pl m).Pairwise (· <·):=Cn _ BQ
 have OX:(mo w all pl (dh m)).map (·.l)=(iC pl m).map fun i=>(jG w pl (all.getD i.toNat default).1).l:=by
  unfold mo iC
  rw[xU];rfl
 unfold gZ
 rw[OX]
 have dV:∀i∈iC pl m,∀q,q∈(jG w pl (all.getD i.toNat default).1).l↔q∈cL all i∧∀p∈pl,cQ w q p=false:=by
  intro i hi q
  obtain⟨h0,h1⟩:=aZ i hi
  exact Ro
 generalize iC pl m=L at*
 have hP:∀x∈L.map (fun i=>(jG w pl (all.getD i.toNat default).1).l),∀p∈x,bW w p:=by
  intro x hx p hp
  obtain⟨i,hi,rfl⟩:=cC.1 hx
  obtain⟨h0,h1⟩:=aZ i hi
  exact(hA.iD i h0 h1 p ((dV i hi p).1 hp).1).1
 rw[VE hw hP]
 constructor
 ·rintro⟨c,dY,gC⟩
  refine⟨fun i=>c (L.idxOf i),fun i hi=>?_,fun i hi j hj ez=>?_⟩
  ·have hk:L[L.idxOf i]? =some i:=by
    rw[cM (ui.2 hi),Cq]
   have:=dY (L.idxOf i) _ (by rw[gN,hk];rfl)
   exact(dV i hi _).1 this
  ·refine gC _ _ ?_ ?_ ?_
   ·rw[bE];exact ui.2 hi
   ·rw[bE];exact ui.2 hj
   ·intro e
    apply ez
    have h1:L[L.idxOf i]? =some i:=by rw[cM (ui.2 hi),Cq]
    have h2:L[L.idxOf j]? =some j:=by rw[cM (ui.2 hj),Cq]
    rw[e,h2]at h1;injection h1 with h1;exact sR h1
 ·rintro⟨f,j8,jh⟩
  refine⟨fun k=>f (L.getD k 0),fun k x hx=>?_,fun j k hj hk u0=>?_⟩
  ·rw[gN]at hx
   obtain⟨i,hi,rfl⟩:=aS.1 hx
   have fD:=bK hi
   show f (L.getD k 0)∈_
   have e0:L.getD k 0=i:=by rw[List.getD,hi];rfl
   rw[e0]
   exact(dV i fD _).2 (j8 i fD)
  ·rw[bE]at hj hk
   obtain⟨a,ha⟩:=get_some hj
   obtain⟨b,hb⟩:=get_some hk
   show cQ w (f (L.getD j 0)) (f (L.getD k 0))=false
   rw[List.getD,List.getD,ha,hb,kZ,kZ]
   refine jh a (bK ha) b (bK hb) ?_
   intro e
   subst e
   have l9:=Cs.1 p6
   obtain⟨_,ea⟩:=aY.1 ha
   obtain⟨_,eb⟩:=aY.1 hb
   rcases R7 u0 with h|h
   ·have:=l9 j k hj hk h;omega
   ·have:=l9 k j hk hj h;omega
structure VC (w:W) (all:List (Sl P×Bool)) (R:List P):Prop where
 mem:∀p∈R,0≤p.req∧p.req<w.rs.l.length∧p∈cL all p.req
 mJ:R.Pairwise fun a b=>a.req<b.req
 nc:R.Pairwise fun a b=>cQ w a b=false
theorem VC.nil:VC w all []:=⟨fun _ h=>absurd h (by simp),List.Pairwise.nil,List.Pairwise.nil⟩
theorem VC.iD (hA:CA w all) {R:List P} (h:VC w all R):∀p∈R,bW w p:=fun p hp=>by
 obtain⟨h0,h1,h2⟩:=h.mem p hp
 exact(hA.iD _ h0 h1 p h2).1
theorem VC.pre {a b:List P} (h:VC w all (a++b)):VC w all a:=
 ⟨fun p hp=>h.mem p (n7 _ hp),(ki.1 h.mJ).1,(ki.1 h.nc).1⟩
theorem VC.re {R:List P} (h:VC w all R):dj R<2^w.rs.l.length:=Y9 fun p hp=>by have:=(h.mem p hp).1;have:=(h.mem p hp).2.1;omega
theorem VC.reqs (hw:Wk w) {R:List P} (h:VC w all R):dh (dj R)=R.map (·.req):=by
 have et:=hw.v.rl
 have aC:dj R<2^62:=nk h.re (jq (by decide) (by omega))
 refine CN BQ (by rw[um];exact h.mJ) fun x=>?_
 rw[zt aC,tL,fS]
 simp only[cC,dx]
 constructor
 ·rintro⟨h0,p,hp,he⟩
  have:=(h.mem p hp).1
  exact⟨p,hp,by omega⟩
 ·rintro⟨p,hp,rfl⟩
  exact⟨(h.mem p hp).1,p,hp,rfl⟩
theorem VC.val (hw:Wk w) {R:List P} (h:VC w all R):jo w (dj R)=aV w R:=by
 unfold jo
 rw[h.reqs hw,Ri]
theorem VC.sep (hw:Wk w) (hA:CA w all) {R:List P} (h:VC w all R) {p q:P} (hp:p∈R) (hq:q∈R) (aB:p.req≠q.req):cQ w p q=false:=by
 obtain⟨i,hi⟩:=n5 hp
 obtain⟨j,hj⟩:=n5 hq
 obtain⟨sf,w5⟩:=aY.1 hi
 obtain⟨hU,w6⟩:=aY.1 hj
 have l9:=Cs.1 h.nc
 rcases LD i j with ez|ez|ez
 ·have:=l9 i j sf hU ez
  rwa [w5,w6]at this
 ·subst ez
  rw[hi]at hj;injection hj with hj
  exact absurd (by rw[hj]) aB
 ·have:=l9 j i hU sf ez
  rw[w5,w6]at this
  rw[AK hw (h.iD hA p hp) (h.iD hA q hq)];exact this
theorem VK (hw:Wk w) (hA:CA w all) {pl rest:List P} (h:VC w all (pl++rest)):gZ w all pl (dj (pl++rest))=true:=by
 have et:=hw.v.rl
 rw[VI hw hA h.re]
 have cp:∀i∈iC pl (dj (pl++rest)),∃p,bw (pl++rest) i=some p∧p∈pl++rest∧p.req=i∧∀q∈pl,q.req≠i:=by
  intro i hi
  obtain⟨h1,h2⟩:=eP.1 hi
  rw[h.reqs hw,cC]at h1
  obtain⟨p,hp⟩:=KM h1
  exact⟨p,hp,(sG hp).1,(sG hp).2,Qu h2⟩
 refine⟨fun i=>(bw (pl++rest) i).getD cZ,fun i hi=>?_,fun i hi j hj ez=>?_⟩
 ·obtain⟨p,hp,hm,hr,fF⟩:=cp i hi
  show(bw (pl++rest) i).getD cZ∈_∧∀q∈pl,cQ w ((bw (pl++rest) i).getD cZ) q=false
  rw[hp,kZ]
  refine⟨by rw[←hr];exact(h.mem p hm).2.2,fun q hq=>?_⟩
  exact h.sep hw hA hm (n7 _ hq) (by rw[hr];exact fun e=>fF q hq (sR e))
 ·obtain⟨p,hp,hm,hr,_⟩:=cp i hi
  obtain⟨q,hq,fD,gI,_⟩:=cp j hj
  show cQ w ((bw (pl++rest) i).getD cZ) ((bw (pl++rest) j).getD cZ)=false
  rw[hp,hq,kZ,kZ]
  exact h.sep hw hA hm fD (by rw[hr,gI];exact ez)
theorem Zl (hw:Wk w) (hA:CA w all) {pl:List P} {m k:Nat} (h:VC w all pl) (hk:∀p∈pl,p.req<k) (hm:m<2^w.rs.l.length) (JX:∀i,i<k→m.testBit i=(dj pl).testBit i) (hf:gZ w all pl m=true):
  ∃rest,VC w all (pl++rest)∧dj (pl++rest)=m∧∀p∈rest,(k:Int)≤p.req:=by
 have et:=hw.v.rl
 have qL:m<2^62:=nk hm (jq (by decide) (by omega))
 obtain⟨f,j8,jh⟩:=(VI hw hA hm).1 hf
 have cp:∀i∈iC pl m,0≤i∧i<w.rs.l.length∧m.testBit i.toNat=true∧(k:Int)≤i∧∀q∈pl,q.req≠i:=by
  intro i hi
  obtain⟨h1,h2⟩:=eP.1 hi
  obtain⟨h3,h4⟩:=(zt qL).1 h1
  have fF:=Qu h2
  refine⟨h3,(BR hm h1).2,h4,?_,fF⟩
  apply qm
  intro aC
  rw[JX i.toNat (by omega),tL,fS]at h4
  obtain⟨p,hp,he⟩:=h4
  have:=(h.mem p hp).1
  exact fF p hp (by simp at he;omega)
 have p6:(iC pl m).Pairwise (· <·):=Cn _ BQ
 have qQ:∀i∈iC pl m,(f i).req=i:=fun i hi=>by
  obtain⟨h0,h1,_⟩:=cp i hi
  exact(hA.iD i h0 h1 _ (j8 i hi).1).2
 have dE:∀i∈iC pl m,bW w (f i):=fun i hi=>by
  obtain⟨h0,h1,_⟩:=cp i hi
  exact(hA.iD i h0 h1 _ (j8 i hi).1).1
 have hR:VC w all (pl++(iC pl m).map f):=by
  refine⟨fun p hp=>?_,?_,?_⟩
  ·rcases c9.1 hp with hp|hp
   ·exact h.mem p hp
   ·obtain⟨i,hi,rfl⟩:=cC.1 hp
    obtain⟨h0,h1,_⟩:=cp i hi
    rw[qQ i hi]
    exact⟨h0,h1,(j8 i hi).1⟩
  ·rw[ki]
   refine⟨h.mJ,?_,fun a ha b hb=>?_⟩
   ·rw[um]
    refine p6.imp_of_mem fun{a b} ha hb gB=>?_
    rw[qQ a ha,qQ b hb];exact gB
   ·obtain⟨i,hi,rfl⟩:=cC.1 hb
    have:=hk a ha
    have:=(cp i hi).2.2.2.1
    rw[qQ i hi];omega
  ·rw[ki]
   refine⟨h.nc,?_,fun a ha b hb=>?_⟩
   ·rw[um]
    refine p6.imp_of_mem fun{a b} ha hb gB=>?_
    exact jh a ha b hb (by omega)
   ·obtain⟨i,hi,rfl⟩:=cC.1 hb
    rw[AK hw (h.iD hA a ha) (dE i hi)]
    exact(j8 i hi).2 a ha
 refine⟨(iC pl m).map f,hR,?_,fun p hp=>?_⟩
 ·apply Nat.eq_of_testBit_eq
  intro i
  rw[tL,zL,rr,ru,fS,fS]
  constructor
  ·rintro(⟨p,hp,he⟩|⟨p,hp,he⟩)
   ·have h0:=(h.mem p hp).1
    have h1:=hk p hp
    have kz:p.req.toNat=i:=by simpa using he
    rw[JX i (by omega),tL,fS]
    exact⟨p,hp,he⟩
   ·obtain⟨j,hj,rfl⟩:=cC.1 hp
    have kz:(f j).req.toNat=i:=by simpa using he
    rw[qQ j hj]at kz
    rw[←kz];exact(cp j hj).2.2.1
  ·intro hb
   by_cases hex:∃p∈pl,p.req.toNat=i
   ·obtain⟨p,hp,he⟩:=hex
    exact .inl ⟨p,hp,by simpa using he⟩
   ·right
    have hi:(i:Int)∈iC pl m:=by
     refine eP.2 ⟨(zt qL).2 ⟨by omega,by simpa using hb⟩,?_⟩
     rw[abw]
     unfold bw
     rw[Hj]
     intro p hp he
     have:p.req=(i:Int):=by simpa using he
     exact hex ⟨p,hp,by omega⟩
    refine⟨f i,cC.2 ⟨i,hi,rfl⟩,?_⟩
    rw[qQ _ hi];simp
 ·obtain⟨i,hi,rfl⟩:=cC.1 hp
  rw[qQ i hi];exact(cp i hi).2.2.2.1
end
def xy (w:W) (all:List (Sl P×Bool)) (m:Nat):Bool:=pF all m&&gZ w all [] m
theorem Zi {m:Nat}:∀{all:List (Sl P×Bool)} {k:Nat},tM m k all=true↔∀i c,all[i]? =some c→c.2=false→m.testBit (k+i)=true
 |[],k=>by simp[tM]
 | c :: r, k => by
  simp only[tM,dI,ru,Zi (all:=r)]
  constructor
  ·rintro⟨h1,h2⟩ i d hd hf
   cases i with
   |zero=>
    simp only[Hk,fL]at hd
    subst hd
    rcases h1 with h1|h1
    ·rw[h1]at hf;exact absurd hf (by decide)
    ·exact h1
   |succ i=>
    have:=h2 i d (by simpa using hd) hf
    rwa [show k+(i+1)=k+1+i by omega]
  ·intro h
   refine⟨?_,fun i d hd hf=>?_⟩
   ·by_cases hc:c.2=true
    ·exact .inl hc
    ·exact .inr (h 0 c rfl (by simpa using hc))
   ·have:=h (i+1) d (by simpa using hd) hf
    rwa [show k+1+i=k+(i+1)by omega]
theorem KO {all:List (Sl P×Bool)} {m:Nat}:pF all m=true↔∀i,i<all.length→cO all i=false→m.testBit i=true:=by
 unfold pF
 rw[Zi]
 constructor
 ·intro h i hi hc
  have:=h i all[i] (cM hi) (by simpa[cO,List.getD,hi]using hc)
  rwa [fK]at this
 ·intro h i c hc hf
  obtain⟨hi,he⟩:=aY.1 hc
  rw[fK]
  exact h i hi (by simp[cO,List.getD,hi,he,hf])
theorem GU {w:W} {all:List (Sl P×Bool)}:∀{N:Nat},(∀m,m∈(du w all N).2↔m<N∧xy w all m=true∧jo w m=(du w all N).1)∧(∀m,m<N→xy w all m=true→jo w m≤(du w all N).1)
 |0=>⟨fun m=>by simp[du],fun m h=>by omega⟩
 | N + 1 => by
  obtain⟨h1,h2⟩:=GU (N:=N)
  rw[B9]
  unfold sM
  rw[show(pF all N&&gZ w all [] N)=xy w all N from rfl]
  cases hf:xy w all N with
  | false =>
   rw[nT,aq (by decide)]
   refine⟨fun m=>?_,fun m hm lu=>?_⟩
   ·rw[h1]
    constructor
    ·rintro⟨a,b,c⟩;exact⟨by omega,b,c⟩
    ·rintro⟨a,b,c⟩
     have:m≠N:=by intro e;rw[e,hf]at b;exact absurd b (by decide)
     exact⟨by omega,b,c⟩
   ·have:m≠N:=by intro e;rw[e,hf]at lu;exact absurd lu (by decide)
    exact h2 m (by omega) lu
  | true =>
   rw[sQ]
   by_cases hle:(du w all N).1≤jo w N
   ·rw [ak (by simpa using hle)]
    by_cases aC:(du w all N).1<jo w N
    ·rw[ak aC]
     refine⟨fun m=>?_,fun m hm lu=>?_⟩
     ·simp only[dO]
      constructor
      ·rintro rfl;exact⟨by omega,hf,rfl⟩
      ·rintro⟨a,b,c⟩
       apply qm
       intro aB
       have:=h2 m (by omega) b
       omega
     ·show jo w m≤jo w N
      by_cases e:m=N
      ·rw[e];exact zK _
      ·have:=h2 m (by omega) lu;omega
    ·rw[aq aC]
     refine⟨fun m=>?_,fun m hm lu=>?_⟩
     ·simp only[c9,dO]
      rw[h1]
      constructor
      ·rintro(⟨a,b,c⟩|rfl)
       ·exact⟨by omega,b,c⟩
       ·exact⟨by omega,hf,by omega⟩
      ·rintro⟨a,b,c⟩
       by_cases e:m=N
       ·exact .inr e
       ·exact .inl ⟨by omega,b,c⟩
     ·show jo w m≤(du w all N).1
      by_cases e:m=N
      ·rw[e];omega
      ·exact h2 m (by omega) lu
   ·rw[aq (by simpa using hle)]
    refine⟨fun m=>?_,fun m hm lu=>?_⟩
    ·rw[h1]
     constructor
     ·rintro⟨a,b,c⟩;exact⟨by omega,b,c⟩
     ·rintro⟨a,b,c⟩
      by_cases e:m=N
      ·subst e;omega
      ·exact⟨by omega,b,c⟩
    ·by_cases e:m=N
     ·subst e;omega
     ·exact h2 m (by omega) lu
section
variable{w:W} {all:List (Sl P×Bool)}
def pC (w:W) (all:List (Sl P×Bool)):Int:=(du w all (2^w.rs.l.length)).1
def xv (w:W) (all:List (Sl P×Bool)):List Nat:=(du w all (2^w.rs.l.length)).2
structure VF (w:W) (all:List (Sl P×Bool)) (R:List P):Prop where
 vc:VC w all R
 full:∀i:Nat,i<w.rs.l.length→cO all i=false→∃p∈R,p.req=(i:Int)
theorem VF.perm (hA:CA w all) {R:List P} (h:VF w all R):pF all (dj R)=true:=by
 rw[KO,hA.len]
 intro i hi hc
 obtain⟨p,hp,he⟩:=h.full i hi hc
 rw[tL,fS]
 exact⟨p,hp,by simp;omega⟩
theorem VF.Qj (hA:CA w all) {R:List P} (h:VC w all R) (hp:pF all (dj R)=true):VF w all R:=by
 refine⟨h,fun i hi hc=>?_⟩
 have:=KO.1 hp i (by rw[hA.len];exact hi) hc
 rw[tL,fS]at this
 obtain⟨p,hp,he⟩:=this
 have:=(h.mem p hp).1
 exact⟨p,hp,by simp at he;omega⟩
theorem VF.ok (hw:Wk w) (hA:CA w all) {R:List P} (h:VF w all R):xy w all (dj R)=true:=by
 have:=VK hw hA (pl:=[]) (rest:=R) (by simpa using h.vc)
 rw[kh]at this
 unfold xy
 rw[h.perm hA,this];rfl
theorem VF.le_max (hw:Wk w) (hA:CA w all) {R:List P} (h:VF w all R):aV w R≤pC w all:=by
 have h2:=(GU (w:=w) (all:=all) (N:=2^w.rs.l.length)).2 (dj R) h.vc.re (h.ok hw hA)
 rwa [h.vc.val hw]at h2
theorem VF.Kp (hw:Wk w) (hA:CA w all) {R:List P} (h:VF w all R):dj R∈xv w all↔aV w R=pC w all:=by
 rw[show xv w all=(du w all (2^w.rs.l.length)).2 from rfl,(GU (w:=w) (all:=all) (N:=2^w.rs.l.length)).1]
 rw[h.vc.val hw]
 exact⟨fun h=>h.2.2,fun hv=>⟨h.vc.re,h.ok hw hA,hv⟩⟩
theorem P9 (hw:Wk w) (hA:CA w all) {m:Nat} (hm:m∈xv w all):∃R,VF w all R∧dj R=m∧aV w R=pC w all:=by
 obtain⟨h1,h2,h3⟩:=(GU (w:=w) (all:=all) (N:=2^w.rs.l.length)).1 m |>.1 hm
 unfold xy at h2
 rw[dI]at h2
 obtain⟨R,hR,ho,_⟩:=Zl hw hA (pl:=[]) (k:=0) VC.nil (fun p hp=>absurd hp (by simp)) h1 (fun i hi=>by omega) h2.2
 rw[kh]at hR ho
 exact⟨R,VF.Qj hA hR (by rw[ho];exact h2.1),ho,by rw[←hR.val hw,ho];exact h3⟩
theorem aaj:∀N,(du w all N).1=-1∧(du w all N).2=[]∨∃m,m∈(du w all N).2:=by
 intro N
 induction N with
 |zero=>left;exact⟨rfl,rfl⟩
 | succ N ih =>
  rw[B9];unfold sM
  split
  ·split
   ·right;exact⟨N,by simp⟩
   ·right;exact⟨N,by simp⟩
  ·exact ih
theorem agt {pl:List P} {w:W} {all:List (Sl P×Bool)} (h:VC w all pl) {i:Int}:((mN pl:Nat):Int)≤i→∀p∈pl,p.req<i:=by
 intro hi p hp
 unfold mN at hi
 cases hl:pl.getLast? with
 |none=>rw[RQ]at hl;subst hl;exact absurd hp (by simp)
 | some z =>
  rw[hl]at hi
  simp only at hi
  have hz:=(h.mem z (RT hl)).1
  have Xh:p.req≤z.req:=by
   obtain⟨a,ha⟩:=List.getLast?_eq_some_iff.1 hl
   rw[ha,c9,dO]at hp
   rcases hp with hp|rfl
   ·have:=h.mJ
    rw[ha,ki]at this
    exact Int.le_of_lt (this.2.2 p hp z (by simp))
   ·exact zK _
  omega
theorem ags {pl t:List P} {q:P} {w:W} {all:List (Sl P×Bool)} (h:VC w all (pl++q::t)):mN pl≤q.req.toNat:=by
 unfold mN
 cases hl:pl.getLast? with
 |none=>exact bh _
 |some z=>
  have XP:=RT hl
  have hz:=(h.mem z (n7 _ XP)).1
  have:=h.mJ
  rw[ki]at this
  have:=this.2.2 z XP q (by simp)
  show z.req.toNat+1≤q.req.toNat
  omega
theorem YF (hw:Wk w) (hA:CA w all) {pl:List P} (h:VC w all pl) {i:Nat} (hi:mN pl≤i) (aZ:i<w.rs.l.length) {p:P} (hp:p∈cL all (i:Int)) (ho:mn w all pl (dj pl) (xv w all) i p=true):
  ∃rest,VF w all (pl++p::rest)∧aV w (pl++p::rest)=pC w all:=by
 unfold mn at ho
 rw[dI]at ho
 obtain⟨hc,hs⟩:=ho
 have hc:cS w p pl=false:=by simpa using hc
 obtain⟨m,hm,fD⟩:=fS.1 hs
 rw[dI,dx]at fD
 obtain⟨JX,l8⟩:=fD
 obtain⟨dE,hr⟩:=hA.iD (i:Int) (by omega) (by omega) p hp
 have qQ:=agt h (i:=(i:Int)) (by omega)
 have h1:VC w all (pl++[p]):=by
  refine⟨fun q hq=>?_,?_,?_⟩
  ·rw[c9,dO]at hq
   rcases hq with hq|rfl
   ·exact h.mem q hq
   ·rw[hr];exact⟨by omega,by omega,hp⟩
  ·rw[ki]
   refine⟨h.mJ,Lx _ _,fun a ha b hb=>?_⟩
   rw[dO]at hb;subst hb
   rw[hr];exact qQ a ha
  ·rw[ki]
   refine⟨h.nc,Lx _ _,fun a ha b hb=>?_⟩
   rw[dO]at hb;subst hb
   exact AL.1 hc a ha
 obtain⟨aje,O4,hmv⟩:=(GU (w:=w) (all:=all) (N:=2^w.rs.l.length)).1 m |>.1 hm
 unfold xy at O4
 rw[dI]at O4
 have hb:=T5.1 JX
 obtain⟨rest,hR,lG,_⟩:=Zl hw hA (pl:=pl++[p]) (m:=m) (k:=i+1) h1 (fun q hq=>by
  rw[c9,dO]at hq
  rcases hq with hq|rfl
  ·have:=qQ q hq;omega
  ·rw[hr];omega) aje (fun j hj=>by
  have:=hb j
  rw[bS hj,sQ]at this
  rw[this,Y7,Cv,hr,LI];simp) l8
 rw[gL,RX]at hR lG
 exact⟨rest,VF.Qj hA hR (by rw[lG];exact O4.1),by rw[←hR.val hw,lG];exact hmv⟩
theorem V8 (hw : Wk w) (hA : CA w all) {Q : List P} (hQ : VF w all Q) (hv : aV w Q = pC w all) (nM : ∀ R, VF w all R → aV w R = pC w all → cg R Q = false) :
  ∀(fuel:Nat) (pl t:List P),Q=pl++t→t.length<fuel→nz w all (xv w all) fuel pl=Q
 |0,_,_,_,h=>absurd h (dk _)
 | fuel + 1, pl, t, hq, hl => by
  simp only[nz]
  have cD:VC w all pl:=by have:=hQ.vc;rw[hq]at this;exact this.pre
  cases t with
  |nil=>
   rw[iG]at hq
   subst hq
   rw[ak (fS.2 ⟨dj Q,(hQ.Kp hw hA).2 hv,by simp⟩)]
  | cons q t =>
   rw[aq (by
    intro h
    obtain⟨m,hm,he⟩:=fS.1 h
    have he:dj pl=m:=by simpa using he
    rw[←he]at hm
    obtain⟨R,hR,Fy,Fz⟩:=P9 hw hA hm
    have Xe:VF w all pl:=VF.Qj hA cD (by rw[←Fy];exact hR.perm hA)
    have:=nM pl Xe ((Xe.Kp hw hA).1 hm)
    rw[hq,acL (by simp)]at this
    exact absurd this (by decide))]
   have A9:=hQ.vc
   rw[hq]at A9
   obtain⟨q0,q1,qp⟩:=A9.mem q (by simp)
   have hjq:((q.req.toNat:Nat):Int)=q.req:=by omega
   have p9:=ags A9
   have ajj : sD w all pl (dj pl) (xv w all) = some q := by
    unfold sD
    rw[hA.len]
    refine YE (j:=q.req.toNat) ?_ p9 (by omega) ?_
    ·rw [show (all.getD q.req.toNat default).1.l = cL all q.req from rfl]
     rw[List.find?_eq_some_iff_append]
     have Xr:=hA.srt q.req q0 q1
     obtain⟨as,bs,gB⟩:=List.append_of_mem qp
     refine⟨?_,as,bs,gB,fun p hp=>?_⟩
     · -- q itself may come next
      unfold mn
      rw[dI]
      refine⟨?_,fS.2 ⟨dj Q,(hQ.Kp hw hA).2 hv,?_⟩⟩
      ·have:cS w q pl=false:=AL.2 fun a ha=>by
        have:=A9.nc
        rw[ki]at this
        exact this.2.2 a ha q (by simp)
       rw[this];rfl
      ·rw [dI, dx]
       constructor
       ·rw[T5]
        intro j
        rw[hq,tL,tL,zL,oM]
        have p6:=A9.mJ
        rw[ki,uk]at p6
        have ht:∀x∈t,q.req<x.req:=p6.2.1.1
        have u6:∀x∈pl,x.req<q.req:=fun x hx=>p6.2.2 x hx q (by simp)
        have h0:∀x∈pl,0≤x.req:=fun x hx=>(cD.mem x hx).1
        by_cases hj:j<q.req.toNat+1
        ·rw[bS hj,sQ]
         have:(t.any fun p=>decide (p.req.toNat=j))=false:=by
          rw[zM];intro x hx;have:=ht x hx;simp;omega
         rw[this,Cl]
        ·rw[ch hj,nT]
         have h1:(pl.any fun p=>decide (p.req.toNat=j))=false:=by
          rw[zM];intro x hx;have:=u6 x hx;have:=h0 x hx;simp;omega
         rw[h1,ch (by omega)];rfl
       ·rw[hq,show pl++q::t=(pl++[q])++t by simp]
        exact VK hw hA (by rw[gL];exact A9)
     · -- an earlier one would give an earlier plan
      rw[vE]
      cases ho:mn w all pl (dj pl) (xv w all) q.req.toNat p with
      |false=>rfl
      | true =>
       have oC:p∈cL all q.req:=by rw[gB];simp[hp]
       obtain⟨rest,hR,Fz⟩:=YF hw hA cD p9 (by omega) (by rw[hjq];exact oC) ho
       have:=nM _ hR Fz
       rw[hq,IV]at this
       have aC:lexB (kP p) (kP q)=true:=by
        rw[gB,ki]at Xr
        exact Xr.2.2 p hp q (by simp)
       simp only[cg]at this
       rw[aq (by intro e;rw[e,GA]at aC;exact absurd aC (by decide)),aC]at this
       exact absurd this (by decide)
    ·intro i' h1 h2
     rw[show(all.getD i' default).1.l=cL all (i':Int)from rfl,Hj]
     intro p hp ho
     obtain⟨rest,hR,Fz⟩:=YF hw hA cD h1 (by omega) hp ho
     have:=nM _ hR Fz
     rw[hq,IV]at this
     have hr:=(hA.iD (i':Int) (by omega) (by omega) p hp).2
     have aC:lexB (kP p) (kP q)=true:=by
      unfold kP
      simp only[lexB]
      rw[aq (by omega)];simp;omega
     simp only[cg]at this
     rw[aq (by intro e;rw[e,GA]at aC;exact absurd aC (by decide)),aC]at this
     exact absurd this (by decide)
   rw[ajj]
   exact V8 hw hA hQ hv nM fuel (pl++[q]) t (by rw[hq];simp) (by simp at hl;omega)
theorem acP (hw:Wk w) (hA:CA w all) {Q:List P} (hQ:VF w all Q) (hv:aV w Q=pC w all) (nM:∀R,VF w all R→aV w R=pC w all→cg R Q=false):iq w all=(Q,pC w all,true):=by
 have w9:0≤pC w all:=by
  rw[←hv,←hQ.vc.val hw]
  exact(G4 hw fun i hi=>by
   have qL:dj Q<2^w.rs.l.length:=hQ.vc.re
   exact BR qL hi).1
 unfold iq
 rw[hA.len]
 rw[aq (show¬(du w all (2^w.rs.l.length)).1<0 from by show¬pC w all<0;omega)]
 have Pf:Q.length<w.rs.l.length+1:=by
  have:∀(l:List P) (k:Int),0≤k→l.Pairwise (fun a b=>a.req<b.req)→(∀p∈l,k≤p.req∧p.req<w.rs.l.length)→(l.length:Int)≤w.rs.l.length-k∨l=[]:=by
   intro l
   induction l with
   |nil=>intro _ _ _ _;right;rfl
   |cons x r ih=>
    intro k hk hp hm
    left
    have hx:=hm x (by simp)
    have u4:=uk.1 hp
    rcases ih (x.req+1) (by omega) u4.2 (fun p J2=>⟨by have:=u4.1 p J2;omega,(hm p (gP _ J2)).2⟩)with h|h
    ·simp only[dJ];omega
    ·subst h;simp;omega
  rcases this Q 0 (by omega) hQ.vc.mJ (fun p hp=>⟨(hQ.vc.mem p hp).1,(hQ.vc.mem p hp).2.1⟩)with h|h
  ·omega
  ·subst h;simp
 have:=V8 hw hA hQ hv nM (w.rs.l.length+1) [] Q rfl Pf
 rw[show(du w all (2^w.rs.l.length)).2=xv w all from rfl,this]
 rfl
theorem acQ (hw:Wk w) (hA:CA w all) (h:∀R,¬VF w all R):iq w all=([],0,false):=by
 unfold iq
 rw[hA.len]
 rcases aaj (w:=w) (all:=all) (2^w.rs.l.length)with⟨h1,_⟩|⟨m,hm⟩
 ·rw[ak (by rw[h1];decide)]
 ·obtain⟨R,hR,_⟩:=P9 hw hA hm
  exact absurd hR (h R)
theorem aoP (hw:Wk w) (hA:CA w all) (h:∃R,VF w all R):∃R,VF w all R∧aV w R=pC w all:=by
 obtain⟨R0,h0⟩:=h
 rcases aaj (w:=w) (all:=all) (2^w.rs.l.length)with⟨h1,h2⟩|⟨m,hm⟩
 ·have:=h0.le_max hw hA
  have w9:0≤aV w R0:=by
   rw[←h0.vc.val hw]
   exact(G4 hw fun i hi=>BR h0.vc.re hi).1
  have:pC w all=-1:=h1
  omega
 ·obtain⟨R,hR,_,hv⟩:=P9 hw hA hm
  exact⟨R,hR,hv⟩
end
def cmpL:List P→List P→Int
 |[],[]=>0
 |[],_::_=>-1
 |_::_,[]=>1
 |x::r,y::t=>if l3 x y=0 then cmpL r t else l3 x y
theorem Yn:∀{a b:List Int},kT a b<0↔lexB a b=true
 |[],[]=>by simp[kT,lexB]
 |[],_::_=>by simp[kT,lexB]
 |_::_,[]=>by simp[kT,lexB]
 | x :: a, y :: b => by
  simp only[kT,lexB]
  by_cases h:x=y
  ·rw[ak (I8.2 h),ak h];exact Yn
  ·rw[aq (fun e=>h (I8.1 e)),aq h,dx]
   unfold tf
   split
   ·rename_i h1;exact⟨fun _=>h1,fun _=>by decide⟩
   ·rename_i h1
    split
    ·exact⟨fun q=>absurd q (by decide),fun q=>absurd q h1⟩
    ·exact⟨fun q=>absurd q (by decide),fun q=>absurd q h1⟩
theorem aeo {p q:P}:l3 p q<0↔lexB (kP p) (kP q)=true:=by
 unfold l3 kP
 simp only[lexB]
 by_cases h1:p.req=q.req
 ·rw[ak h1,ak h1]
  by_cases h2:p.start=q.start
  ·rw[ak h2,ak h2];exact Yn
  ·rw[aq h2,aq h2,dx];omega
 ·rw[aq h1,aq h1,dx];omega
theorem UF:∀{a b:List P},cmpL a b<0↔cg a b=true
 |[],[]=>by simp[cmpL,cg]
 |[],_::_=>by simp[cmpL,cg]
 |_::_,[]=>by simp[cmpL,cg]
 |x::a,y::b=>by
  simp only[cmpL,cg]
  by_cases h:l3 x y=0
  ·rw[ak h,ak (I9.1 h)];exact UF
  ·rw[aq h,aq (fun e=>h (I9.2 e))];exact aeo
section
variable{s:ae} {w:W}
theorem atS {a b:List P} {o1 o2:Own} {e1 e2:Nat} (hs:Ok s) (h1:a=[]∨e1=3) (h2:b=[]∨e2=3) (ha:uq a) (hb:uq b):
  aw AP (.fn 30) [.slice o1 e1 (a.map aj),.slice o2 e2 (b.map aj),.fn 31 [] []] s=some (I (cmpL a b),s):=by
 have la:=ha.len
 have lb:=hb.len
 have key:∀k ρ m,k≤a.length→(ρ 0=.slice o1 e1 (a.map aj)∧ρ 1=.slice o2 e2 (b.map aj)∧ρ 2=.fn 31 [] []∧ρ 11=.slice o1 e1 (a.map aj)∧ρ 12=I a.length∧ρ 13=I k∧k≤b.length∧cmpL a b=cmpL (a.drop k) (b.drop k)∧∃bx,m=s.push ⟨bx,[]⟩)→
   go AP afP (.c (.loop yb)::anB) ⟨ρ,m⟩=some (I (cmpL a b),s):=by
  refine cq a.length _ _ ?_ ?_
  ·rintro k ρ m hk ⟨g0,g1,g2,g11,g12,g13,OS,hc,bx,rfl⟩ ih
   obtain⟨x,hx⟩:=get_some hk
   have dD:e1=3:=by rcases h1 with h|h;(rw[h]at hx;simp at hx);exact h
   subst dD
   have Ge:=cr (f:=aj) (o:=o1) (es:=3) hx
   have qd:=ha.ok x (bK hx)
   have su:=ha.b x (bK hx)
   have cV:=bJ hk (show(a.length:Int)<_ by omega)
   rw[eo hx]at hc
   by_cases tD:k<b.length
   ·obtain⟨y,hy⟩:=get_some tD
    have dD:e2=3:=by rcases h2 with h|h;(rw[h]at hy;simp at hy);exact h
    subst dD
    have Pn:=cr (f:=aj) (o:=o2) (es:=3) hy
    have fe:=hb.ok y (bK hy)
    have Kh:=hb.b y (bK hy)
    rw[eo hy]at hc
    have dz:∀r,aw AP (.fn 31) [.agg (aj x),.agg (aj y)] (s.push r)=some (I (l3 x y),s.push r):=fun r=>ZY (hs.push r) qd.1 fe.1 qd.2 fe.2 su.1 Kh.1 su.2 Kh.2
    have nH:decide ((b.length:Int)≤(k:Int))=false:=by simp;omega
    simp only[aj,Sl.v]at Ge Pn dz
    simp only[cmpL]at hc
    by_cases h0:l3 x y=0
    ·rw[ak h0]at hc
     rw[h0]at dz
     have hz:decide (¬(0:Int)=0)=false:=by decide
     simp only[go_sem,yb,g0,g1,g2,g11,g12,g13,hs,aR hk,nH,Ge,Pn,dz,cV,bq,hz,at_len,rH,qW,Gy,oK,rk,gL,fp,simprocAttr]
     refine ih _ _ ?_
     exact⟨g0,g1,g2,g11,g12,rfl,by omega,hc,_,rfl⟩
    ·rw[aq h0]at hc
     have hz:decide (¬l3 x y=0)=true:=by simp[h0]
     rw[hc]
     simp only[go_sem,yb,g0,g1,g2,g11,g12,g13,hs,aR hk,nH,Ge,Pn,dz,cV,bq,hz,at_len,rH,qW,Gy,oK,rk,gL,fp,simprocAttr]
   ·obtain rfl:k=b.length:=by omega
    have nH:decide ((b.length:Int)≤(b.length:Int))=true:=by simp
    rw[eE]at hc
    simp only[cmpL]at hc
    rw[hc]
    simp only[aj,Sl.v]at Ge
    simp only[go_sem,yb,g0,g1,g2,g11,g12,g13,hs,aR hk,nH,Ge,cV,at_len,rH,qW,Gy,oK,rk,gL,fp,simprocAttr]
  ·rintro ρ m ⟨g0,g1,g2,g11,g12,g13,OS,hc,bx,rfl⟩
   rw[eE]at hc
   by_cases hl:a.length<b.length
   ·have hd:decide ((a.length:Int)<(b.length:Int))=true:=by simp;omega
    obtain⟨y,hy⟩:=get_some hl
    rw[eo hy]at hc
    simp only[cmpL]at hc
    rw[hc]
    simp only[go_sem,yb,IK,g0,g1,g2,g11,g12,g13,hs,bM,hd,fp,simprocAttr]
   ·have hd:decide ((a.length:Int)<(b.length:Int))=false:=by simp;omega
    obtain e:b.length=a.length:=by omega
    rw[←e,eE]at hc
    simp only[cmpL]at hc
    rw[hc]
    simp only[go_sem,yb,IK,g0,g1,g2,g11,g12,g13,hs,bM,hd,fp,simprocAttr]
 rw[aL (show AP 30=some ES from rfl) rfl]
 simp only[go_sem,TP,hs,fp,simprocAttr]
 refine key 0 _ _ (bh _) ?_
 exact⟨rfl,rfl,rfl,rfl,rfl,rfl,bh _,rfl,_,rfl⟩
end
section
variable{w:W} {a b:List (Sl P×Bool)}
theorem atI {plan:List P} {x:Sl P}:(jG w plan x).l=plan.foldl (fun l p=>wo w p l) x.l:=by
 unfold jG
 induction plan generalizing x with
 |nil=>rfl
 |cons p r ih=>rw[sV,sV,ih,j5]
theorem VH (hL:∀i,cL a i=cL b i) {plan:List P} {m:Nat}:gZ w a plan m=gZ w b plan m:=by
 unfold gZ mo
 rw[xU,xU]
 congr 1
 refine Ho fun i _=>?_
 simp only[Function.comp,atI]
 rw[show(a.getD i.toNat default).1.l=cL a i from rfl,hL];rfl
theorem aqB (hl:a.length=b.length) (hO:∀i,cO a i=cO b i) {m:Nat}:pF a m=pF b m:=by
 rw[rr,KO,KO,hl]
 simp only[hO]
theorem acN (hl:a.length=b.length) (hL:∀i,cL a i=cL b i) (hO:∀i,cO a i=cO b i):iq w a=iq w b:=by
 have bX:∀st m,sM w a st m=sM w b st m:=fun st m=>by unfold sM;rw[aqB hl hO,VH hL]
 have mc:∀n,du w a n=du w b n:=fun n=>by
  unfold du
  congr 1
  funext st m;exact bX st m
 have fF:∀plan own sets i,mn w a plan own sets i=mn w b plan own sets i:=fun plan own sets i=>by
  funext p
  unfold mn
  congr 2
  funext m
  rw[VH hL]
 have O7:∀n plan own sets i,mW w a plan own sets i n=mW w b plan own sets i n:=by
  intro n
  induction n with
  |zero=>intros;rfl
  |succ n ih=>
   intro plan own sets i
   simp only[mW]
   rw[show(a.getD i default).1.l=cL a (i:Int)from rfl,hL,fF,ih];rfl
 have JR:∀sets n plan,nz w a sets n plan=nz w b sets n plan:=by
  intro sets n
  induction n with
  |zero=>intro plan;rfl
  |succ n ih=>
   intro plan
   simp only[nz,sD]
   rw[hl,O7]
   simp only[ih]
 unfold iq
 rw[hl,mc,JR]
end
section
variable{s:ae} {w:W}
theorem agu {a b:Int}:dS [a,b]=if a=0 then b else a:=by
 unfold dS
 by_cases h:a=0
 ·subst h
  unfold dS
  by_cases h2:b=0
  ·subst h2;rfl
  ·simp[h2]
 ·simp[h]
end
section
variable{s:ae} {w:W}
theorem QT {n:Nat}:(dr n).Pairwise (· <·):=by
 rw[um]
 exact abp.imp fun h=>by omega
theorem QU {n:Nat}:∀i∈dr n,0≤i∧i<n:=fun i hi=>by
 obtain⟨k,hk,rfl⟩:=cC.1 hi
 have:=pM.1 hk
 omega
theorem QV {n:Nat}:(dr n).length=n:=by rw[bE,pL]
theorem aoQ {n:Nat} (hn:n≤60):dh (2^n-1)=dr n:=by
 have aC:2^n-1<2^62:=by
  have:(2:Nat)^n≤2^60:=jq (by decide) hn
  omega
 refine CN BQ QT fun x=>?_
 rw[zt aC,Sf]
 constructor
 ·rintro⟨h0,h1⟩
  have h1:=Qi h1
  exact cC.2 ⟨x.toNat,pM.2 h1,by omega⟩
 ·intro hx
  have:=QU x hx
  exact⟨this.1,by simp;omega⟩
theorem ahr {n c:Nat} {g:List Int} (h:g∈bd c (dr n)):g.Pairwise (· <·)∧∀i∈g,0≤i∧i<n:=by
 have hs:=A3 h
 exact⟨QT.sublist hs,fun i hi=>QU i (hs.subset hi)⟩
end
def eu (w:W) (pl:List P) (g:List Int) (req:Int):List (Sl P×Bool):=(List.range w.rs.l.length).map fun i:Nat=>(dv 3 (iu w pl g (i:Int)),lW pl g req (i:Int))
def pt (w:W) (pl:List P) (req:Int) (st:List P×Int) (g:List Int):List P×Int:=
 if((iq w (eu w pl g req)).2.2&&(decide (st.2<(iq w (eu w pl g req)).2.1)||(decide ((iq w (eu w pl g req)).2.1=st.2)&&cg (iq w (eu w pl g req)).1 st.1)))=true then((iq w (eu w pl g req)).1,(iq w (eu w pl g req)).2.1)else st
def sw (w:W) (pl:List P) (req:Int) (c:Nat):List P×Int:=(bd c (dr w.rs.l.length)).foldl (pt w pl req) ([],-1)
def pw (w:W) (pl:List P) (req:Int):Nat→Nat→Option (List P)
 |_,0=>none
 |c,d+1=>if 0≤(sw w pl req c).2 then some (sw w pl req c).1 else pw w pl req (c+1) d
section
variable{s:ae} {w:W}
theorem AE {pl:List P} {g:List Int} {req:Int}:(eu w pl g req).length=w.rs.l.length:=by simp[eu]
theorem I4 {pl:List P} {g:List Int} {req:Int} {i:Nat} (h:i<w.rs.l.length):(eu w pl g req).getD i default=(dv 3 (iu w pl g (i:Int)),lW pl g req (i:Int)):=by
 unfold eu
 rw[List.getD,gN,Hl h];rfl
theorem E9 {pl:List P} {g:List Int} {req:Int} {i:Int} (h0:0≤i) (h1:i<w.rs.l.length):cL (eu w pl g req) i=iu w pl g i:=by
 unfold cL
 rw[I4 (by omega),j5,show((i.toNat:Nat):Int)=i by omega]
theorem Uu {pl:List P} {g:List Int} {req:Int} {i:Nat} (h:i<w.rs.l.length):cO (eu w pl g req) i=lW pl g req (i:Int):=by
 unfold cO
 rw[I4 h]
theorem xL.acM {pl:List P} {g:List Int} {req:Int} {all:List (Sl P×Bool)} (h:xL w pl g req all):iq w all=iq w (eu w pl g req):=by
 refine acN (by rw[h.len,AE]) (fun i=>?_) (fun i=>?_)
 ·by_cases hi:i.toNat<w.rs.l.length
  ·obtain⟨c,h1,h2,_⟩:=h.get i.toNat hi
   unfold cL
   rw[I4 hi,List.getD,h1,j5,kZ]
   exact h2
  ·unfold cL
   rw[List.getD,List.getD,nZ (by rw[h.len];omega),nZ (by rw[AE];omega)]
 ·by_cases hi:i<w.rs.l.length
  ·obtain⟨c,h1,h2,_⟩:=h.get i hi
   unfold cO
   rw[I4 hi,List.getD,h1,kZ]
  ·unfold cO
   rw[List.getD,List.getD,nZ (by rw[h.len];omega),nZ (by rw[AE];omega)]
theorem I5 (hw:Wk w) {pl:List P} (hp:iH pl) (dE:∀p∈pl,bW w p) {g:List Int} {i:Nat} (hi:i<w.rs.l.length) {p:P} (h:p∈iu w pl g (i:Int)):
  bW w p∧p.req=i∧p.an.l.length≤1000:=by
 unfold iu at h
 split at h
 ·have hm:=(eP.1 h).1
  obtain⟨h1,h2,_⟩:=lL hw (i:=(i:Int)) (by omega) (by omega) (eP.1 hm).1
  exact⟨h1,h2,(Qy hw hi hm).2.1⟩
 ·rw[Option.mem_toList]at h
  have hm:=Ze (l:=pl) (i:=(i:Int)) h
  exact⟨dE p hm.1,hm.2,by have:=(hp.ok p hm.1).2;omega⟩
theorem ad1 (hw:Wk w) {pl:List P} {g:List Int} {i:Nat} (hi:i<w.rs.l.length):(iu w pl g (i:Int)).length≤13000:=by
 unfold iu
 split
 ·have h1:=xA hw (i:=(i:Int)) (by omega) (by omega)
  have h2:(cd w [] (i:Int)).length≤(cY w (i:Int)).length:=lR _ _
  have h3:=lR (fun x=>!B7 pl (i:Int) x) (cd w [] (i:Int))
  omega
 ·cases bw pl (i:Int)<;>simp
theorem xL.ok (hw:Wk w) {pl:List P} (hp:iH pl) (dE:∀p∈pl,bW w p) {g:List Int} {req:Int} {all:List (Sl P×Bool)} (h:xL w pl g req all):sP w 2 all:=by
 have hm:∀c∈all,∃(i:Nat) (d:Sl P),i<w.rs.l.length∧c.1=d∧d.l=iu w pl g (i:Int)∧d.ok 3:=by
  intro c hc
  obtain⟨i,hi⟩:=n5 hc
  have hl:=(aY.1 hi).1
  rw[h.len]at hl
  obtain⟨d,h1,h2,h3⟩:=h.get i hl
  rw[hi]at h1
  injection h1 with h1
  exact⟨i,d,hl,by rw[h1],h2,h3⟩
 refine⟨.inr rfl,h.len,fun c hc=>?_,fun c hc=>?_,fun c hc p gV=>?_,fun i c hc p gV=>?_⟩
 ·obtain⟨i,d,h1,h2,h3,h4⟩:=hm c hc
  rw[h2];exact h4
 ·obtain⟨i,d,h1,h2,h3,h4⟩:=hm c hc
  rw[h2,h3];exact ad1 hw h1
 ·obtain⟨i,d,h1,h2,h3,h4⟩:=hm c hc
  rw[h2,h3]at gV
  exact(I5 hw hp dE h1 gV).1
 ·have hl:=(aY.1 hc).1
  rw[h.len]at hl
  obtain⟨d,h1,h2,h3⟩:=h.get i hl
  rw[hc]at h1
  injection h1 with h1
  rw[h1,h2]at gV
  exact(I5 hw hp dE hl gV).2.1
theorem Wa {all:List (Sl P×Bool)} {sets:List Nat}:∀{n:Nat} {plan:List P},∀p∈nz w all sets n plan,p∈plan∨∃j:Nat,j<all.length∧p∈cL all (j:Int)
 |0,plan,p,h=>.inl h
 | n + 1, plan, p, h => by
  simp only[nz]at h
  split at h
  ·exact .inl h
  ·split at h
   ·rename_i q hq
    rcases Wa p h with h1|h1
    ·rcases c9.1 h1 with h1|h1
     ·exact .inl h1
     ·rw[dO]at h1
      subst h1
      unfold sD at hq
      obtain⟨j,j1,j2,j3,_⟩:=Qg hq
      exact .inr ⟨j,by omega,j3⟩
    ·exact .inr h1
   ·exact .inl h
theorem V9 {all:List (Sl P×Bool)} {sets:List Nat}:∀{n:Nat} {plan:List P},(nz w all sets n plan).length≤plan.length+n
 |0,plan=>aH _
 | n + 1, plan => by
  simp only[nz]
  split
  ·omega
  ·split
   ·rename_i q hq
    have:=V9 (all:=all) (sets:=sets) (n:=n) (plan:=plan++[q])
    rw[ck]at this
    simp at this;omega
   ·omega
theorem acR (hw:Wk w) {pl:List P} (hp:iH pl) (dE:∀p∈pl,bW w p) {g:List Int} {req:Int}:uq (iq w (eu w pl g req)).1:=by
 have et:=hw.v.rl
 have hm:∀p∈(iq w (eu w pl g req)).1,bW w p∧p.an.l.length≤1000:=by
  intro p h
  unfold iq at h
  split at h
  ·exact absurd h (by simp)
  ·rcases Wa p h with h|⟨j,h1,h2⟩
   ·exact absurd h (by simp)
   ·rw[AE]at h1
    rw[E9 (by omega) (by omega)]at h2
    have:=I5 hw hp dE h1 h2
    exact⟨this.1,this.2.2⟩
 refine⟨?_,fun p h=>⟨(hm p h).1.ok,(hm p h).2⟩,fun p h=>?_⟩
 ·unfold iq
  split
  ·simp
  ·have:=V9 (w:=w) (all:=eu w pl g req) (sets:=(du w (eu w pl g req) (2^(eu w pl g req).length)).2) (n:=(eu w pl g req).length+1) (plan:=[])
   rw[AE]at this⊢
   simp at this
   show(nz _ _ _ _ _).length≤1000
   omega
 ·have h:=(hm p h).1
  have:=h.r0;have:=h.r1;have:=h.s0;have:=h.s1
  exact⟨by omega,by omega⟩
end
section
variable{s:ae} {w:W}
abbrev Gr (ρ:Nat→AV):dA:=⟨true,none,ρ,[56],Dh,uw⟩
structure vF (w:W) (pl:List P) (op:Own) (ep:Nat) (req:Int) (kb:Nat) (done:List (List Int)) (r:Rec):Prop where
 b1:r.boxes[1]? =some [.slice op ep (pl.map aj)]
 b2:r.boxes[2]? =some [I req]
 b3:r.boxes[3]? =some [OW w]
 kv:r.boxes[kb]? =some [bp 3 ((done.foldl (pt w pl req) ([],-1)).1.map aj)]
 km:r.boxes[kb+1]? =some [I (done.foldl (pt w pl req) ([],-1)).2]
 k3:3<kb
 tok:uq (done.foldl (pt w pl req) ([],-1)).1
theorem akB {X T:Rec→ae} {l d:Nat} {ρ:Nat→AV} {r:Rec} {g:List Int} {pl:List P} {op:Own} {ep:Nat} {req:Int} {kb:Nat} {done:List (List Int)} (hM:gQ X d) (hX:∀r,busy l (T r)=X r) (hR:∀r,mG l (Gr ρ) (T r)) (bH:∀r,Ok (T r)) (hw:Wk w) (hN:0<w.rs.l.length)
  (hp:iH pl) (dE:∀p∈pl,bW w p) (qI:pl=[]∨ep=3) (nI:g.length≤100) (h4:ρ 4=.ptr d 1 0) (h5:ρ 5=.ptr d 2 0) (h8:ρ 8=.ptr d 3 0) (cG:ρ 12=.ptr d kb 0) (oW:ρ 13=.ptr d (kb+1) 0) (hI:vF w pl op ep req kb done r):
  ∃r',aw AP (.yield l) [bp 1 (g.map aD)] (T r)=some (.v (.bool true),T r')∧vF w pl op ep req kb (done++[g]) r':=by
 have et:=hw.v.rl
 have F5:∀r,Ok (X r):=fun r=>by rw[←hX];exact(bH r).busy
 have Oq:∀r,(T r).ag.length=(X r).ag.length:=fun r=>by rw[←hX];rfl
 have ov:∀r ρ' q,qA l .normal ⟨ρ',(X r).push q⟩=some (.v (.bool true),T r):=fun r ρ' q=>by rw[←hX];exact NZ (hR r)
 obtain⟨b1,b2,b3,bk,bm,k3,qc⟩:=hI
 have k1:∀q,((X r).push q).box d 1=some [.slice op ep (pl.map aj)]:=fun q=>by rw[hM.box,b1]
 have k2:∀q,((X r).push q).box d 2=some [I req]:=fun q=>by rw[hM.box,b2]
 have BK:∀q,((X r).push q).box d 3=some [OW w]:=fun q=>by rw[hM.box,b3]
 generalize bX:done.foldl (pt w pl req) ([],-1)=st at*
 have kk:∀q,((X r).push q).box d kb=some [bp 3 (st.1.map aj)]:=fun q=>by rw[hM.box,bk]
 have km:∀q,((X r).push q).box d (kb+1)=some [I st.2]:=fun q=>by rw[hM.box,bm]
 have OP:∃o e,bp 1 (g.map aD)=.slice o e (g.map aD)∧(g=[]∨e=1):=by
  cases g with
  |nil=>exact⟨.aA,0,rfl,.inl rfl⟩
  |cons a t=>exact⟨.any,1,rfl,.inr rfl⟩
 obtain⟨og,eg,OP,nH⟩:=OP
 have hTp:=uq.of hw hp dE
 have ju:∀q,∃all,aw AP (.fn 28) [OW w,.slice op ep (pl.map aj),.slice og eg (g.map aD),I req] ((X r).push q)=some (CH w .any 2 all,(X r).push q)∧xL w pl g req all:=fun q=>atu ((F5 r).push q) hw hN hTp qI nH (by omega)
 obtain⟨all,dY,gC⟩:=ju ⟨[],[]⟩
 have qG:aw AP (.fn 29) [CH w .any 2 all] ((X r).push ⟨[],[]⟩)=some (Al (iq w (eu w pl g req)),(X r).push ⟨[],[]⟩):=by
  rw[←gC.acM]
  exact Ug ((F5 r).push _) hw (gC.ok hw hp dE)
 have wR:=acR hw hp dE (g:=g) (req:=req)
 have gG:(done++[g]).foldl (pt w pl req) ([],-1)=pt w pl req st g:=by rw[Lr,bX];rfl
 unfold pt at gG
 generalize JD:iq w (eu w pl g req)=R at*
 obtain⟨B1,V1,O1⟩:=R
 obtain⟨B0,V0⟩:=st
 simp only at gG wR qc kk km bk bm
 have WG:∀q,aw AP (.fn 30) [bp 3 (B1.map aj),bp 3 (B0.map aj),.fn 31 [] []] ((X r).push q)=some (I (cmpL B1 B0),(X r).push q):=fun q=>by
  rw[rE,rE]
  simp only[Sl.v,j5]
  refine atS ((F5 r).push q) ?_ ?_ wR qc
  ·cases B1<;>first|exact .inl rfl|exact .inr rfl
  ·cases B0<;>first|exact .inl rfl|exact .inr rfl
 have aC:decide (cmpL B1 B0<0)=cg B1 B0:=by
  rw[rr,dx];exact UF
 have aim:(bp 3 (B1.map aj)).isClosed=true:=by cases B1<;>rfl
 have ze:∀q,((X r).push q).store 1 (.ptr d kb 0) (bp 3 (B1.map aj))=some ((X ⟨r.boxes.set kb [bp 3 (B1.map aj)],r.toks⟩).push q):=fun q=>hM.store (by rw[I3];simp[aim]) (by rw[I3];simp[kM,XV]) bk (by rw[I3];rfl)
 have Gh:∀q,((X ⟨r.boxes.set kb [bp 3 (B1.map aj)],r.toks⟩).push q).store 1 (.ptr d (kb+1) 0) (I V1)=some ((X ⟨(r.boxes.set kb [bp 3 (B1.map aj)]).set (kb+1) [I V1],r.toks⟩).push q):=fun q=>hM.store (by rfl) (by rfl) (row:=[I V0]) (by show(r.boxes.set kb _)[kb+1]? =_;rw[eK (by omega),bm]) (by rfl)
 have hlk:=(aY.1 bk).1
 have W0:=(aY.1 bm).1
 have take:∀c:Bool,c=true→(if c=true then(B1,V1)else(B0,V0))=(done++[g]).foldl (pt w pl req) ([],-1)→vF w pl op ep req kb (done++[g]) ⟨(r.boxes.set kb [bp 3 (B1.map aj)]).set (kb+1) [I V1],r.toks⟩:=by
  rintro c hc he
  rw[ak hc]at he
  refine⟨?_,?_,?_,?_,?_,k3,?_⟩<;>(try rw[←he])
  ·show((r.boxes.set kb _).set (kb+1) _)[1]? =_
   rw[eK (by omega),eK (by omega)];exact b1
  ·show((r.boxes.set kb _).set (kb+1) _)[2]? =_
   rw[eK (by omega),eK (by omega)];exact b2
  ·show((r.boxes.set kb _).set (kb+1) _)[3]? =_
   rw[eK (by omega),eK (by omega)];exact b3
  ·show((r.boxes.set kb _).set (kb+1) _)[kb]? =_
   rw[eK (by omega),mE hlk]
  ·show((r.boxes.set kb _).set (kb+1) _)[kb+1]? =_
   rw[mE (by rw[zO];exact W0)]
  ·exact wR
 have leave:∀c:Bool,c=false→(if c=true then(B1,V1)else(B0,V0))=(done++[g]).foldl (pt w pl req) ([],-1)→vF w pl op ep req kb (done++[g]) r:=by
  rintro c hc he
  rw[aq (by rw[hc];decide)]at he
  exact⟨b1,b2,b3,by rw[←he];exact bk,by rw[←he];exact bm,k3,by rw[←he];exact qc⟩
 have Pv:=fun h=>take _ h gG.symm
 have hle:=fun h=>leave _ h gG.symm
 rw[Nw (hR _) rfl,OP]
 simp only[go_sem,Dh,Jq (hR _),GQ,simprocAttr]
 simp only[OW,CH,Al]at dY qG BK
 generalize hZ1:bp 3 (B1.map aj)=z1 at*
 generalize hZ0:bp 3 (B0.map aj)=z0 at*
 cases O1 with
 |false=>
  refine⟨r,?_,hle (by rfl)⟩
  simp only[go_sem,uw,hX,h4,h5,h8,k1,k2,BK,dY,qG,ov,simprocAttr]
 | true =>
  cases h1:decide (V0<V1)with
  |true=>
   refine⟨_,?_,Pv (by simp[h1])⟩
   simp only[go_sem,uw,hX,h4,h5,h8,cG,oW,k1,k2,BK,km,dY,qG,ov,h1,ze,Gh,simprocAttr]
  | false =>
   cases h2:decide (V1=V0)with
   |false=>
    refine⟨r,?_,hle (by simp[h1,h2])⟩
    simp only[go_sem,uw,hX,h4,h5,h8,oW,k1,k2,BK,km,dY,qG,ov,h1,h2,simprocAttr]
   | true =>
    cases h3:cg B1 B0 with
    |false=>
     rw[h3]at aC
     refine⟨r,?_,hle (by simp[h1,h2,h3])⟩
     simp only[go_sem,uw,hX,h4,h5,h8,cG,oW,k1,k2,BK,kk,km,dY,qG,ov,h1,h2,WG,aC,simprocAttr]
    |true=>
     rw[h3]at aC
     refine⟨_,?_,Pv (by simp[h1,h2,h3])⟩
     simp only[go_sem,uw,hX,h4,h5,h8,cG,oW,k1,k2,BK,kk,km,dY,qG,ov,h1,h2,WG,aC,ze,Gh,simprocAttr]
end
section
variable{s:ae} {w:W}
abbrev Gq (s:ae) (ρ:Nat→AV) (r:Rec):ae:=enterLoop (s.push r) (Gr ρ)
theorem akz {ρ:Nat→AV} {pl:List P} {op:Own} {ep:Nat} {req:Int} {kb:Nat} (hs:Ok s) (hw:Wk w) (hN:0<w.rs.l.length) (hp:iH pl) (dE:∀p∈pl,bW w p) (qI:pl=[]∨ep=3)
  (h4:ρ 4=.ptr s.ag.length 1 0) (h5:ρ 5=.ptr s.ag.length 2 0) (h8:ρ 8=.ptr s.ag.length 3 0) (cG:ρ 12=.ptr s.ag.length kb 0) (oW:ρ 13=.ptr s.ag.length (kb+1) 0):
  Hand AP s.loops.length (fun g=>bp 1 (g.map aD)) (Gq s ρ) (fun done r=>vF w pl op ep req kb done r) (fun _ _=>false) (fun _ _ _=>False) (fun g=>g.length≤100) (s.ag.length+1) (s.loops.length+1) 100000:=by
 refine⟨fun r=>(hs.push _).enter,fun r=>by simp[Gq,enterLoop,ae.push],fun r=>by simp[Gq,enterLoop,ae.push],?_,fun _ _ _ _ _ _ _ _ h=>by cases h⟩
 intro done g r B ls hd hI hg _
 have hM:gQ (fun r=>up (busy s.loops.length (enterLoop (s.push r) (Gr ρ))) B ls) s.ag.length:=Yz hs
 have hX:∀r,busy s.loops.length (up (Gq s ρ r) B ls)=(fun r=>up (busy s.loops.length (enterLoop (s.push r) (Gr ρ))) B ls) r:=fun r=>aaN (by simp[enterLoop,ae.push])
 exact akB (T:=fun r=>up (Gq s ρ r) B ls) hM hX (fun r=>aaP (U7 (hs.push r))) (fun r=>((hs.push _).enter).up) hw hN hp dE qI hg h4 h5 h8 cG oW hI
theorem akA {F:c8→St→Option (AV×ae)} {ks:List K} {ρ:Nat→AV} {pl:List P} {op:Own} {ep:Nat} {req:Int} {kb c:Nat} {r:Rec} (hs:Ok s) (hw:Wk w) (hN:0<w.rs.l.length) (hp:iH pl) (dE:∀p∈pl,bW w p) (qI:pl=[]∨ep=3) (gC:c≤100)
  (h4:ρ 4=.ptr s.ag.length 1 0) (h5:ρ 5=.ptr s.ag.length 2 0) (h8:ρ 8=.ptr s.ag.length 3 0) (cG:ρ 12=.ptr s.ag.length kb 0) (oW:ρ 13=.ptr s.ag.length (kb+1) 0)
  (h55:ρ 55=.fn 57 [] [.bo [I c] 0,.bo [(dv 1 (dr w.rs.l.length)).v aD] 0]) (hI:vF w pl op ep req kb [] r):
  ∃r',vF w pl op ep req kb (bd c (dr w.rs.l.length)) r'∧go AP F (.c (.rangeFunc (.tmp 55) [56] Dh uw)::ks) ⟨ρ,s.push r⟩=go AP F ks ⟨ρ,s.push r'⟩:=by
 have et:=hw.v.rl
 have u7:(dr w.rs.l.length)=[]∨(dv 1 (dr w.rs.l.length)).e=1:=by
  cases dr w.rs.l.length with
  |nil=>exact .inl rfl
  |cons _ _=>exact .inr rfl
 have nG:=yH (k:=c) (l:=dr w.rs.l.length)
 have avu:(bd c (dr w.rs.l.length)).length≤2^12:=by
  refine jK nG ?_
  rw[QV]
  exact jq (by decide) (by omega)
 obtain⟨b,r',aP,hE⟩:=V6 (akz hs hw hN hp dE qI h4 h5 h8 cG oW) (cnt:=c) (by omega) (l:=dr w.rs.l.length) (o:=(dv 1 (dr w.rs.l.length)).o) (e:=(dv 1 (dr w.rs.l.length)).e) (i:=r) (done:=[]) u7 (by rw[QV];omega) (by simp;omega) hI (fun g hg=>by
  have hl:=tt hg
  omega)
 obtain⟨rfl,A8⟩:=hE.never (fun _ _=>rfl)
 have hv:(dv 1 (dr w.rs.l.length)).v aD=.slice (dv 1 (dr w.rs.l.length)).o (dv 1 (dr w.rs.l.length)).e ((dr w.rs.l.length).map aD):=by simp only[Sl.v,j5]
 refine⟨r',A8,?_⟩
 rw[N6 (x:=.tmp 55) h55,hv]
 refine(iy (Option.bind · _) aP).trans ?_
 simp only[eL]
 exact N5 (m:=s.push r') (lp:=Gr ρ) rfl rfl rfl
def vj (w:W) (pl:List P) (req:Int):Int:=if ie w=0 then(if(fu w pl).2=0 then cond (wi req 0 (w.rs.l.length-1)) 0 6 else(fu w pl).2)else ie w
def Kq (w:W) (pl:List P) (req:Int):Option (List P):=pw w pl req 0 (w.rs.l.length+1)
def Kr (w:W) (pl:List P) (req:Int):AV:=.tuple [bp 3 ((if vj w pl req=0 then(Kq w pl req).getD []else[]).map aj),I (if vj w pl req=0 then(if(Kq w pl req).isSome=true then 0 else 12)else vj w pl req)]
theorem asm {pl:List P} {op:Own} {ep:Nat} {req:Int} (hs:Ok s) (hw:w.Ok) (hf:w.kY) (hp:iH pl) (qI:pl=[]∨ep=3):aw AP (.fn 7) [w.v,.slice op ep (pl.map aj),I req] s=some (Kr w pl req,s):=by
 have ho:∀r,aw AP (.fn 22) [w.v] (s.push r)=some (.tuple [if(dH w).2.2=0 then OW w else NP,I (ie w)],s.push r):=fun r=>Z4 (hs.push r) hw hf
 simp only[W.v,bQ,Sl.v]at ho
 have nF:∀(m:ae) (a b:Int),aw AP (.fn 24) [.slice .full 1 [[I a],[I b]]] m=some (I (if a=0 then b else a),m):=fun m a b=>by rw[nb,agu]
 unfold Kr
 by_cases h0:ie w=0
 ·have mf := Re h0
  have cV:Wk w:=⟨hw,hf,sO mf⟩
  have et:=cV.v.rl
  rw[ak mf,h0]at ho
  have FE:∀r,aw AP (.fn 23) [OW w,.slice op ep (pl.map aj)] (s.push r)=some (.tuple [I (fu w pl).1,I (fu w pl).2],s.push r):=fun r=>aaU (hs.push r) cV hp qI
  have gp:∀r,aw AP (.fn 25) [OW w,I req] (s.push r)=some (I (cond (wi req 0 (w.rs.l.length-1)) 0 6),s.push r):=fun r=>aaX cV
  have hE:vj w pl req=if(fu w pl).2=0 then cond (wi req 0 (w.rs.l.length-1)) 0 6 else(fu w pl).2:=by unfold vj;rw[ak h0]
  generalize he:(if(fu w pl).2=0 then cond (wi req 0 (w.rs.l.length-1)) 0 6 else(fu w pl).2)=e at*
  have WM:∀m:ae,aw AP (.fn 24) [.slice .full 1 [[I (fu w pl).2],[I (cond (wi req 0 (w.rs.l.length-1)) 0 6)]]] m=some (I e,m):=fun m=>by rw[nF,he]
  rw[hE]
  by_cases hz:e=0
  ·subst hz
   have WD:(fu w pl).2=0:=by
    apply qm
    intro h
    rw[aq h]at he;exact h he
   rw[ak WD]at he
   have qQ:wi req 0 (w.rs.l.length-1)=true:=by
    cases hq:wi req 0 (w.rs.l.length-1)with
    |true=>rfl
    |false=>rw[hq]at he;exact absurd he (by decide)
   have Xo:=iW.1 qQ
   have hN:0<w.rs.l.length:=by omega
   have aZ:=Uw cV hp WD
   have dE:∀p∈pl,bW w p:=fun p oC=>by
    obtain⟨j,hj⟩:=n5 oC
    exact(GI cV (hp.ok p oC).1 (by have:=(hp.ok p oC).2;omega) (aZ j p hj)).1
   have W5:∀r,aw AP (.fn 26) [I ((2^w.rs.l.length-1:Nat):Int)] (s.push r)=some ((dv 1 (dr w.rs.l.length)).v aD,s.push r):=fun r=>by
    rw[QY (by have:(2:Nat)^w.rs.l.length≤2^12:=jq (by decide) et;omega) (hs.push r),aoQ (by omega),rE]
   have ib:=CL (k:=w.rs.l.length) (by omega)
   have jy:IntKind.i64.wrap (((2^w.rs.l.length:Nat):Int)-1)=((2^w.rs.l.length-1:Nat):Int):=by
    have h1:(2:Nat)^w.rs.l.length≤2^12:=jq (by decide) et
    have h2:1≤(2:Nat)^w.rs.l.length:=Sd
    generalize(2:Nat)^w.rs.l.length=q at*
    rw[bR (by omega) (by omega)];omega
   have hl:(dv 1 (dr w.rs.l.length)).l.length=w.rs.l.length:=by rw[j5,QV]
   have outer:∀(d c:Nat) ρ bx tk,c+d=w.rs.l.length+1→(ρ 4=.ptr s.ag.length 1 0∧ρ 5=.ptr s.ag.length 2 0∧ρ 8=.ptr s.ag.length 3 0∧ρ 10=(dv 1 (dr w.rs.l.length)).v aD∧ρ 11=I c∧bx[1]? =some [.slice op ep (pl.map aj)]∧bx[2]? =some [I req]∧bx[3]? =some [OW w])→
     go AP NS (.c (.loop Di)::ani) ⟨ρ,s.push ⟨bx,tk⟩⟩=some (.tuple [bp 3 (((pw w pl req c d).getD []).map aj),I (if(pw w pl req c d).isSome=true then 0 else 12)],s):=by
    intro d
    induction d with
    |zero=>
     rintro c ρ bx tk hc ⟨g4,g5,g8,g10,g11,e1,e2,e3⟩
     have d1:decide ((c:Int)≤(w.rs.l.length:Int))=false:=by simp;omega
     rw[go_loop]
     simp only[Sl.v]at g10
     simp only[go_sem,Di,Iw,g10,g11,hl,d1,simprocAttr]
     rfl
    | succ d ih =>
     rintro c ρ bx tk hc ⟨g4,g5,g8,g10,g11,e1,e2,e3⟩
     have d1:decide ((c:Int)≤(w.rs.l.length:Int))=true:=by simp;omega
     have w1:IntKind.i64.wrap ((c:Int)+1)=((c+1:Nat):Int):=by rw[bR (by omega) (by omega)];omega
     have Kd:∀r,aw AP (.fn 27) [(dv 1 (dr w.rs.l.length)).v aD,I (c:Int)] (s.push r)=some (.fn 57 [] [.bo [I c] 0,.bo [(dv 1 (dr w.rs.l.length)).v aD] 0],s.push r):=fun r=>ZZ (Sl.close (n:=1) vR) (hs.push r)
     have OT:=(aY.1 e3).1
     have Oj:vF w pl op ep req bx.length [] ⟨bx++[[.slice .aA 0 []],[I (-1)]],tk⟩:=
      ⟨uA e1,uA e2,uA e3,by simp;rfl,by simp,by omega,⟨by simp,fun p h=>absurd h (by simp),fun p h=>absurd h (by simp)⟩⟩
     have ia:∀ρ':Nat→AV,ρ' 4=.ptr s.ag.length 1 0→ρ' 5=.ptr s.ag.length 2 0→ρ' 8=.ptr s.ag.length 3 0→ρ' 10=(dv 1 (dr w.rs.l.length)).v aD→ρ' 11=I c→ρ' 12=.ptr s.ag.length bx.length 0→ρ' 13=.ptr s.ag.length (bx.length+1) 0→ρ' 55=.fn 57 [] [.bo [I c] 0,.bo [(dv 1 (dr w.rs.l.length)).v aD] 0]→
       go AP NS (.c (.rangeFunc (.tmp 55) [56] Dh uw)::XY) ⟨ρ',s.push ⟨bx++[[.slice .aA 0 []],[I (-1)]],tk⟩⟩=some (.tuple [bp 3 (((pw w pl req c (d+1)).getD []).map aj),I (if(pw w pl req c (d+1)).isSome=true then 0 else 12)],s):=by
      intro ρ' g4 g5 g8 g10 g11 g12 g13 g55
      obtain⟨⟨T9,tk'⟩,A8,qa⟩:=akA (F:=NS) (ks:=XY) hs cV hN hp dE qI (show c≤100 by omega) g4 g5 g8 g12 g13 g55 Oj
      rw[qa]
      obtain⟨i1,i2,i3,ik,im,_,_⟩:=A8
      simp only at i1 i2 i3 ik im
      have hF:(bd c (dr w.rs.l.length)).foldl (pt w pl req) ([],-1)=sw w pl req c:=rfl
      rw[hF]at ik im
      by_cases hm:0≤(sw w pl req c).2
      ·have OG:decide ((0:Int)≤(sw w pl req c).2)=true:=by simpa using hm
       have hW:pw w pl req c (d+1)=some (sw w pl req c).1:=by simp only[pw,ak hm]
       rw[hW]
       simp only[kZ,vO]
       have cT:=fun m:ae=>Yj (es:=3) (xs:=(sw w pl req c).1.map aj) (m:=m)
       have W4:=fun m:ae=>Yh (es:=3) (xs:=(sw w pl req c).1.map aj) (m:=m)
       obtain⟨z,hz⟩:∃z,bp 3 ((sw w pl req c).1.map aj)=z:=⟨_,rfl⟩
       simp only[hz]at cT W4 ik⊢
       simp only[go_sem,Ix,g12,g13,ik,im,OG,W4,simprocAttr]
      ·have OG:decide ((0:Int)≤(sw w pl req c).2)=false:=by simpa using hm
       have hW:pw w pl req c (d+1)=pw w pl req (c+1) d:=by simp only[pw,aq hm]
       rw[hW]
       simp only[go_sem,Ix,MQ,g11,g13,im,OG,w1,simprocAttr]
       refine ih (c+1) _ _ _ (by omega) ?_
       exact⟨g4,g5,g8,g10,rfl,i1,i2,i3⟩
     rw[go_loop]
     simp only[Sl.v]at g10 Kd ia
     simp only[go_sem,Di,g10,g11,hs,hl,d1,Kd,rH,qW,rk,gL,simprocAttr]
     exact ia _ g4 g5 g8 g10 g11 rfl rfl rfl
   have d0:decide (¬(0:Int)=0)=false:=by decide
   have Xb:=outer (w.rs.l.length+1) 0
   simp only[bZ]
   rw[aL (show AP 7=some yo from rfl) rfl]
   simp only[OW,W.v,bQ,Sl.v]at ho FE gp W5 Xb⊢
   simp only[go_sem,Dg,hs,ho,FE,gp,WM,bq,fI,ib,jy,W5,simprocAttr]
   refine Xb _ _ _ (by omega) ?_
   exact⟨rfl,rfl,rfl,rfl,rfl,rfl,rfl,rfl⟩
  ·have hd:decide (¬e=0)=true:=by simp[hz]
   simp only[hz,dt]
   rw[aL (show AP 7=some yo from rfl) rfl]
   simp only[OW,W.v,bQ,Sl.v]at ho FE gp⊢
   simp only[go_sem,Dg,hs,ho,FE,gp,WM,bq,fI,hd,simprocAttr]
   rfl
 ·have hE:vj w pl req=ie w:=by unfold vj;rw[aq h0]
  rw[hE]
  simp only[h0,dt]
  rw[aL (show AP 7=some yo from rfl) rfl]
  simp only[W.v,bQ,Sl.v]
  by_cases mf:(dH w).2.2=0
  ·rw[ak mf]at ho
   simp only[OW,Sl.v]at ho
   simp only[go_sem,Dg,hs,ho,bq,h0,jV,simprocAttr]
   rfl
  ·rw[aq mf]at ho
   simp only[go_sem,Dg,hs,ho,bq,h0,jV,simprocAttr]
   rfl
end
section
variable{s:ae} {w:W}
theorem Ends.find {α ι:Type} {I:List α→ι→Prop} {st:α→Bool} {O:List α→α→ι→Prop} {i:ι}:∀{xs done:List α},Ends I (fun _ x=>st x) O done xs false i→∃x dn,xs.find? st=some x∧O dn x i
 |[],_,h=>absurd h.1 (by decide)
 | x :: r, done, h => by
  simp only[Ends]at h
  cases hs:st x with
  |true=>rw[ak hs]at h;exact⟨x,done,by rw[RJ,hs],h.2⟩
  |false=>
   rw[aq (by rw[hs];decide)]at h
   rw[RJ,hs]
   exact Ends.find h
end
section
variable{s:ae} {w:W}
end
section
variable{s:ae} {w:W}
theorem ZV {n:Nat}:∀i:Nat,i<n→(i:Int)∈dr n:=fun i hi=>cC.2 ⟨i,pM.2 hi,rfl⟩
theorem anY {l:List P}:iB l=-1∨∃p∈l,iB l=p.req:=by
 unfold iB
 cases h:l.getLast? with
 |none=>exact .inl rfl
 |some p=>exact .inr ⟨p,RT h,rfl⟩
theorem VP.chk (hw:Wk w) {R:List P} (h:VP w R):fu w R=(0,0)∧iH R:=by
 have hz:zs w [] R:=abe fun j x hj=>by
  rw[kh]
  obtain⟨a,b,gB⟩:∃a b,R=a++x::b∧a=R.take j:=⟨R.take j,R.drop (j+1),by rw[←eo hj,Hv],rfl⟩
  rw[←gB.2]
  have hR:=gB.1
  have fP:x∈R:=bK hj
  obtain⟨h0,h1,hx⟩:=h.mem x fP
  have p6:=h.mJ
  have JZ:=h.nc
  rw[hR,ki]at p6 JZ
  refine aqA hw h0 h1 hx ?_ ?_
  ·rcases anY (l:=a)with e|⟨p,hp,e⟩
   ·rw[e];omega
   ·rw[e];exact p6.2.2 p hp x (by simp)
  ·exact AL.2 fun p hp=>JZ.2.2 p hp x (by simp)
 refine⟨ad5 hz,by have:=auc hw hz;omega,fun p hp=>?_⟩
 obtain⟨h0,h1,hx⟩:=h.mem p hp
 obtain⟨dE,_,_,_,_,_,jy,_⟩:=lL hw h0 h1 hx
 have hq:=hw.tm.an _ (W.pG h0 h1)
 have:=jy.length_le
 exact⟨dE.ok,by omega⟩
theorem Jz:∀{l g:List Int},g.Sublist l→g∈bd g.length l
 |_,_,.slnil=>by simp[bd]
 |_,_,.cons (l₁:=g) (l₂:=l) a h=>by
  have ih:=Jz h
  cases g with
  |nil=>simp[bd]
  |cons b g=>simp only[dJ,bd,c9];exact .inr ih
 |_,_,.cons_cons (l₁:=g) (l₂:=l) a h=>by
  have ih:=Jz h
  simp only[dJ,bd,c9,cC]
  exact .inl ⟨g,ih,rfl⟩
end
def dW (a b:List P) (n:Nat):Nat:=((List.range n).filter fun i:Nat=>jb a b (i:Int)).length
theorem adW {a b:List P} {n:Nat}:dW a b (n+1)=dW a b n+if jb a b (n:Int)=true then 1 else 0:=by
 unfold dW
 rw[zR,ni,ck]
 congr 1
 cases h:jb a b (n:Int)<;>simp[h]
theorem Ut {a b:List P} {n:Nat}:dW a b n≤n:=by
 unfold dW
 have:=lR (fun i:Nat=>jb a b (i:Int)) (List.range n)
 rwa [pL]at this
def jt (w:W) (l:List P) (x b:List P):Bool:=
 decide (dW l x w.rs.l.length<dW l b w.rs.l.length)||(decide (dW l x w.rs.l.length=dW l b w.rs.l.length)&&(decide (aV w b<aV w x)||(decide (aV w x=aV w b)&&cg x b)))
def kS (w:W) (l:List P) (req:Int) (st:Option (Sl P)) (y:Sl P):Option (Sl P):=
 if(bw y.l req).isSome=true then(match st with|none=>some y|some b=>if jt w l y.l b.l=true then some y else some b)else st
def xl:Option (Sl P)→AV
 |none=>.slice .aA 0 []
 |some y=>y.v aj
section
variable{s:ae} {w:W}
theorem Zy {a b:List P} {o1 o2:Own} {e1 e2:Nat} (hs:Ok s) (et:w.rs.l.length≤1000) (h1:a=[]∨e1=3) (h2:b=[]∨e2=3) (la:a.length≤1000) (lb:b.length≤1000) (oa:∀p∈a,p.an.ok 1∧p.an.l.length≤1000) (ob:∀p∈b,p.an.ok 1∧p.an.l.length≤1000):
  aw AP (.fn 40) [w.v,.slice o1 e1 (a.map aj),.slice o2 e2 (b.map aj)] s=some (I (dW a b w.rs.l.length),s):=by
 have key:∀(j:Nat) ρ m,j≤w.rs.l.length→(ρ 1=.slice o1 e1 (a.map aj)∧ρ 2=.slice o2 e2 (b.map aj)∧ρ 3=.ptr s.ag.length 0 0∧ρ 7=I (dW a b j)∧ρ 8=I j∧m=s.push ⟨[bQ w],[]⟩)→
   go AP afs (.c (.loop CU)::amK) ⟨ρ,m⟩=some (I (dW a b w.rs.l.length),s):=by
  refine cq w.rs.l.length _ _ ?_ ?_
  ·rintro j ρ m hj ⟨g1,g2,g3,g7,g8,rfl⟩ ih
   have hc:∀r,aw AP (.fn 72) [.slice o1 e1 (a.map aj),.slice o2 e2 (b.map aj),I j] (s.push r)=some (B (jb a b (j:Int)),s.push r):=fun r=>arF (hs.push r) h1 h2 la lb oa ob
   have cV:=bJ hj (show(w.rs.l.length:Int)<_ by omega)
   have hle:=Ut (a:=a) (b:=b) (n:=j)
   have hw7:IntKind.i64.wrap ((dW a b j:Int)+1)=((dW a b j+1:Nat):Int):=by rw[bR (by omega) (by omega)];omega
   have Ke:=adW (a:=a) (b:=b) (n:=j)
   simp only[bQ,Sl.v]
   cases hg:jb a b (j:Int)with
   |true=>
    rw[hg]at hc Ke
    simp only[go_sem,CU,g1,g2,g3,g7,g8,aR hj,hc,cV,hw7,simprocAttr]
    refine ih _ _ ?_
    exact⟨g1,g2,g3,by rw[Ke];rfl,rfl,rfl⟩
   |false=>
    rw[hg]at hc Ke
    simp only[go_sem,CU,g1,g2,g3,g8,aR hj,hc,cV,simprocAttr]
    refine ih _ _ ?_
    exact⟨g1,g2,g3,by rw[Ke];exact g7,rfl,rfl⟩
  ·rintro ρ m ⟨g1,g2,g3,g7,g8,rfl⟩
   simp only[bQ,Sl.v]
   simp only[go_sem,CU,Mj,g3,g7,g8,bM,simprocAttr]
 rw[aL (show AP 40=some DT from rfl) rfl]
 simp only[W.v,bQ,Sl.v]at key⊢
 simp only[go_sem,S5,simprocAttr]
 refine key 0 _ _ (bh _) ?_
 exact⟨rfl,rfl,rfl,rfl,rfl,rfl⟩
theorem arx {l : List P} {ol : Own} {el : Nat} {req : Int} (hs : Ok s) (hw : Wk w) (hN : mZ w 0 w.rs.l.length ≤ 4294967296) (wV : l = [] ∨ el = 3) (hl : iH l) :
  ∃(Y:List (Sl P)),aw AP (.fn 13) [w.v,.slice ol el (l.map aj),I req] s=some (.tuple [xl (Y.foldl (kS w l req) none),B (Y.foldl (kS w l req) none).isSome],s)∧(∀y∈Y,zY w y)∧(Y.map fun y=>y.l.map cP)=eT w (dr w.rs.l.length) 0 w.rs.l.length []:=by
 have et:=hw.v.rl
 have aQ:=hl.len
 have dZ:∀p∈l,p.an.ok 1∧p.an.l.length≤1000:=fun p hp=>⟨(hl.ok p hp).1,by have:=(hl.ok p hp).2;omega⟩
 have dT:∀m:ae,Ok m→aw AP (.fn 38) [w.v] m=some ((dv 1 (dr w.rs.l.length)).v aD,m):=fun m hm=>by rw[aro hm (by omega),rE]
 have u7:(dr w.rs.l.length)=[]∨(dv 1 (dr w.rs.l.length)).e=1:=by
  cases dr w.rs.l.length with
  |nil=>exact .inl rfl
  |cons _ _=>exact .inr rfl
 obtain⟨Y,x,tk',hc,hA,_,hY,Bc⟩:=arA (Q:=s) (bx:=[bQ w]) (tk:=[]) (l:=[]) (o:=.aA) (e:=0) (o2:=(dv 1 (dr w.rs.l.length)).o) hw u7 (by simp;omega) w.rs.l.length 0 hs (by omega) hN ⟨by simp,fun p hp=>absurd hp (by simp)⟩ (by simp) (fun p hp=>absurd hp (by simp)) (.inl rfl) (fun _=>rfl)
 have hYl:Y.length≤4294967296:=by
  have h1:=BX (w:=w) (rq:=dr w.rs.l.length) (k:=w.rs.l.length) (i:=0) (l:=[].map cP)
  rw[←hY,bE]at h1
  omega
 refine⟨Y,?_,Bc,by rw[hY];rfl⟩
 obtain⟨xo,rfl⟩:=hA.sl
 obtain⟨Z,hZ⟩:∃Z,Z=Y.map fun y=>[AV.slice y.o y.e (y.l.map aj)]:=⟨_,rfl⟩
 have uQ:Z.length=Y.length:=by rw[hZ,bE]
 obtain⟨F,hF⟩:∃F,F=Y.foldl (kS w l req) none:=⟨_,rfl⟩
 rw[←hF]
 have key : ∀ (d j : Nat) (ρ : Nat → AV) (m : ae) (st : Option (Sl P)), j + d = Y.length → (ρ 1 = .slice ol el (l.map aj) ∧ ρ 2 = I req ∧ ρ 3 = .ptr s.ag.length 0 0 ∧ ρ 8 = .slice xo 1 Z ∧ ρ 9 = xl st ∧ ρ 10 = B st.isSome ∧ ρ 11 = I (j : Nat) ∧ (∀ b, st = some b → zY w b) ∧ (Y.drop j).foldl (kS w l req) st = F ∧ ∃ bx tk, m = s.push ⟨bQ w :: bx, tk⟩) →
   go AP afw (.c (.loop rI)::amS) ⟨ρ,m⟩=some (.tuple [xl F,B F.isSome],s):=by
  intro d
  induction d with
  | zero =>
   rintro j ρ m st hj ⟨g1,g2,g3,g8,g9,g10,g11,bX,he,bx,tk,rfl⟩
   have Bm:j=Y.length:=by omega
   subst Bm
   rw[eE]at he
   have he:st=F:=he
   subst he
   have hd:decide ((Y.length:Int)<(Y.length:Int))=false:=by simp
   have cT:∀m:ae,ed m (xl st)=some (xl st):=fun m=>by
    cases st with
    |none=>rfl
    |some b=>exact Sl.leave (bX b rfl).ok
   generalize xl st=z at*
   rw[go_loop]
   simp only[go_sem,rI,Mr,g8,g9,g10,g11,uQ,hd,cT,simprocAttr]
  | succ d ih =>
   rintro j ρ m st hj ⟨g1,g2,g3,g8,g9,g10,g11,bX,he,bx,tk,rfl⟩
   obtain⟨y,hy⟩:=get_some (show j<Y.length by omega)
   have fe:=Bc y (bK hy)
   have bG:jS none 1 (.slice xo 1 Z) (I (j:Nat))=some (.bo [y.v aj] 0):=BJ (by rw[hZ,gN,hy];rfl)
   have cH:∀m:ae,aw AP (.fn 39) [y.v aj,I req] m=some (I (eG (fun p:P=>decide (p.req=req)) y.l),m):=fun m=>QE fe.ok.1 (by have:=fe.pl.len;omega)
   have qN:=agc (l:=y.l) (i:=req)
   have lD:decide (eG (fun p:P=>decide (p.req=req)) y.l<0)=!(bw y.l req).isSome:=by
    rw[←qN,rr,dx,vE,qv];omega
   have d1:decide ((j:Int)<(Y.length:Int))=true:=by simp;omega
   have w1:IntKind.i64.wrap ((j:Int)+1)=((j+1:Nat):Int):=by rw[bR (by omega) (by omega)];omega
   have gn:(Y.drop (j+1)).foldl (kS w l req) (kS w l req st y)=F:=by rw[←he,eo hy];rfl
   have Ki:y.l.length≤1000:=by have:=fe.pl.len;omega
   have akh:∀p∈y.l,p.an.ok 1∧p.an.l.length≤1000:=fun p hp=>⟨(fe.pl.ok p hp).1,by have:=(fe.pl.ok p hp).2;omega⟩
   have wT:∀m:ae,Ok m→aw AP (.fn 40) [w.v,.slice ol el (l.map aj),y.v aj] m=some (I (dW l y.l w.rs.l.length),m):=fun m hm=>Zy hm (by omega) wV fe.ok.1 (by omega) Ki dZ akh
   have hvy:∀m:ae,Ok m→aw AP (.fn 41) [w.v,y.v aj] m=some (I (aV w y.l),m):=fun m hm=>ZC hm hw fe.pl.len fe.iD fe.ok.1
   rw[go_loop]
   cases hp:(bw y.l req).isSome with
   |false=>
    rw[hp]at lD
    have hi:kS w l req st y=st:=by unfold kS;rw[hp];rfl
    rw[hi]at gn
    simp only[bQ,Sl.v]at bG cH⊢
    simp only[go_sem,rI,g2,g8,g11,uQ,d1,bG,cH,lD,w1,nV,simprocAttr]
    refine ih (j+1) _ _ st (by omega) ?_
    exact⟨g1,g2,g3,g8,g9,g10,rfl,bX,gn,bx,tk,rfl⟩
   | true =>
    rw[hp]at lD
    cases st with
    |none=>
     have hi:kS w l req none y=some y:=by unfold kS;rw[hp];rfl
     rw[hi]at gn
     have g10:ρ 10=B false:=g10
     simp only[bQ,Sl.v]at bG cH⊢
     simp only[go_sem,rI,g2,g8,g10,g11,uQ,d1,bG,cH,lD,w1,jH,nV,simprocAttr]
     refine ih (j+1) _ _ (some y) (by omega) ?_
     exact⟨g1,g2,g3,g8,rfl,rfl,rfl,(fun b hb=>by injection hb with hb;rw[←hb];exact fe),gn,bx,tk,rfl⟩
    | some b =>
     have g10:ρ 10=B true:=g10
     have g9:ρ 9=b.v aj:=g9
     have hb:=bX b rfl
     have cu:b.l.length≤1000:=by have:=hb.pl.len;omega
     have aij:∀p∈b.l,p.an.ok 1∧p.an.l.length≤1000:=fun p hp=>⟨(hb.pl.ok p hp).1,by have:=(hb.pl.ok p hp).2;omega⟩
     have jO:∀m:ae,Ok m→aw AP (.fn 40) [w.v,.slice ol el (l.map aj),b.v aj] m=some (I (dW l b.l w.rs.l.length),m):=fun m hm=>Zy hm (by omega) wV hb.ok.1 (by omega) cu dZ aij
     have zg:∀m:ae,Ok m→aw AP (.fn 41) [w.v,b.v aj] m=some (I (aV w b.l),m):=fun m hm=>ZC hm hw hb.pl.len hb.iD hb.ok.1
     have wQ:∀r,aw AP (.fn 42) [y.v aj,b.v aj] (s.push r)=some (B (cg y.l b.l),s.push r):=fun r=>arp (hs.push r) fe.ok.1 hb.ok.1 fe.sm hb.sm
     have yR:=fun r=>wT (cB (s.push r)) sF
     have zh:=fun r=>hvy (cB (s.push r)) sF
     have hi:kS w l req (some b) y=if jt w l y.l b.l=true then some y else some b:=by unfold kS;rw[hp];rfl
     rw[hi]at gn
     have stay:jt w l y.l b.l=false→(Y.drop (j+1)).foldl (kS w l req) (some b)=F:=fun h=>by rw[h]at gn;exact gn
     have go:jt w l y.l b.l=true→(Y.drop (j+1)).foldl (kS w l req) (some y)=F:=fun h=>by rw[h]at gn;exact gn
     unfold jt at stay go
     simp only[W.v,bQ,Sl.v]at bG cH yR zh jO zg wQ g9⊢
     have e1:decide (((dW l y.l w.rs.l.length:Nat):Int)<((dW l b.l w.rs.l.length:Nat):Int))=decide (dW l y.l w.rs.l.length<dW l b.l w.rs.l.length):=by rw[rr,dx,dx];omega
     have e2:decide (((dW l y.l w.rs.l.length:Nat):Int)=((dW l b.l w.rs.l.length:Nat):Int))=decide (dW l y.l w.rs.l.length=dW l b.l w.rs.l.length):=by rw[rr,dx,dx];omega
     cases h1:decide (dW l y.l w.rs.l.length<dW l b.l w.rs.l.length)with
     |true=>
      simp only[go_sem,rI,g1,g2,g3,g8,g9,g10,g11,hs,uQ,d1,bG,cH,lD,w1,jH,yR,zh,jO,zg,e1,h1,simprocAttr]
      refine ih (j+1) _ _ (some y) (by omega) ?_
      exact⟨g1,g2,g3,g8,rfl,g10,rfl,(fun b hb=>by injection hb with hb;rw[←hb];exact fe),go (by simp[h1]),bx,tk,rfl⟩
     | false =>
      cases h2:decide (dW l y.l w.rs.l.length=dW l b.l w.rs.l.length)with
      |false=>
       simp only[go_sem,rI,g1,g2,g3,g8,g9,g10,g11,hs,uQ,d1,bG,cH,lD,w1,jH,yR,zh,jO,zg,e1,e2,h1,h2,simprocAttr]
       refine ih (j+1) _ _ (some b) (by omega) ?_
       exact⟨g1,g2,g3,g8,g9,g10,rfl,bX,stay (by simp[h1,h2]),bx,tk,rfl⟩
      | true =>
       cases h3:decide (aV w b.l<aV w y.l)with
       |true=>
        simp only[go_sem,rI,g1,g2,g3,g8,g9,g10,g11,hs,uQ,d1,bG,cH,lD,w1,jH,yR,zh,jO,zg,e1,e2,h1,h2,h3,simprocAttr]
        refine ih (j+1) _ _ (some y) (by omega) ?_
        exact⟨g1,g2,g3,g8,rfl,g10,rfl,(fun b hb=>by injection hb with hb;rw[←hb];exact fe),go (by simp[h1,h2,h3]),bx,tk,rfl⟩
       | false =>
        cases h4:decide (aV w y.l=aV w b.l)with
        |false=>
         simp only[go_sem,rI,g1,g2,g3,g8,g9,g10,g11,hs,uQ,d1,bG,cH,lD,w1,jH,yR,zh,jO,zg,e1,e2,h1,h2,h3,h4,simprocAttr]
         refine ih (j+1) _ _ (some b) (by omega) ?_
         exact⟨g1,g2,g3,g8,g9,g10,rfl,bX,stay (by simp[h1,h2,h3,h4]),bx,tk,rfl⟩
        | true =>
         cases h5:cg y.l b.l with
         |false=>
          rw[h5]at wQ
          simp only[go_sem,rI,g1,g2,g3,g8,g9,g10,g11,hs,uQ,d1,bG,cH,lD,w1,jH,yR,zh,jO,zg,e1,e2,h1,h2,h3,h4,wQ,simprocAttr]
          refine ih (j+1) _ _ (some b) (by omega) ?_
          exact⟨g1,g2,g3,g8,g9,g10,rfl,bX,stay (by simp[h1,h2,h3,h4,h5]),bx,tk,rfl⟩
         |true=>
          rw[h5]at wQ
          simp only[go_sem,rI,g1,g2,g3,g8,g9,g10,g11,hs,uQ,d1,bG,cH,lD,w1,jH,yR,zh,jO,zg,e1,e2,h1,h2,h3,h4,wQ,simprocAttr]
          refine ih (j+1) _ _ (some y) (by omega) ?_
          exact⟨g1,g2,g3,g8,rfl,g10,rfl,(fun b hb=>by injection hb with hb;rw[←hb];exact fe),go (by simp[h1,h2,h3,h4,h5]),bx,tk,rfl⟩
 have Wu:=fun r=>dT (cB (s.push r)) sF
 have Bi:aw AP (.fn 37) [.agg [I w.mC,.slice w.as.o w.as.e (w.as.l.map bY),.slice w.rs.o w.rs.e (w.rs.l.map bV)],.slice .aA 0 [],I 0,.slice (dv 1 (dr w.rs.l.length)).o (dv 1 (dr w.rs.l.length)).e ((dv 1 (dr w.rs.l.length)).l.map aD)] (s.push ⟨[[I w.mC,.slice w.as.o w.as.e (w.as.l.map bY),.slice w.rs.o w.rs.e (w.rs.l.map bV)]],[]⟩)=some (.slice xo 1 Z,s.push ⟨[[I w.mC,.slice w.as.o w.as.e (w.as.l.map bY),.slice w.rs.o w.rs.e (w.rs.l.map bV)]],tk'⟩):=by
  rw[j5,hZ];exact hc
 simp only[W.v,bQ,Sl.v]at Wu key⊢
 rw[aL (show AP 13=some DZ from rfl) rfl]
 simp only[go_sem,S9,Wu,Bi,simprocAttr]
 refine key Y.length 0 _ _ none (by omega) ?_
 exact⟨rfl,rfl,rfl,rfl,rfl,rfl,rfl,(fun b h=>by cases h),hF.symm,[],tk',rfl⟩
end
theorem Ub {p:P} (h:p.an=eW p.an.l):cP p=p:=by unfold cP;rw[←h]
theorem aoM {l:List P} (h:∀p∈l,cP p=p):l.map cP=l:=by
 rw[Ho h,List.map_id']
section
variable{w:W}
theorem Rf:∀{L g:List Int},L.Pairwise (· <·)→g.Pairwise (· <·)→(∀a∈g,a∈L)→g.Sublist L
 |[],[],_,_,_=>List.Sublist.refl _
 |[],a::g,_,_,h=>absurd (h a (by simp)) (by simp)
 |x::L,[],_,_,_=>List.nil_sublist _
 | x :: L, a :: g, hL, hg, h => by
  obtain⟨l1,l2⟩:=uk.1 hL
  obtain⟨g1,g2⟩:=uk.1 hg
  by_cases Bg:a=x
  ·subst Bg
   refine List.Sublist.cons_cons _ (Rf l2 g2 fun b hb=>?_)
   rcases eF.1 (h b (gP _ hb))with e|hm
   ·have:=g1 b hb;omega
   ·exact hm
  ·refine List.Sublist.cons _ (Rf l2 hg fun b hb=>?_)
   rcases eF.1 (h b hb)with e|hm
   ·rcases eF.1 (h a (by simp))with e2|fD
    ·exact absurd e2 Bg
    ·have h1:=l1 a fD
     rcases eF.1 hb with e3|hb
     ·omega
     ·have:=g1 b hb;omega
   ·exact hm
theorem Ss {r:R}:∀{l:List Int} {last:Int},eQ r last l=0→l.Pairwise (· <·)∧∀a∈l,last<a
 |[],_,_=>by simp
 | a :: l, last, h => by
  have h0:=(HL (w:=⟨0,⟨.aA,0,[]⟩,⟨.aA,0,[]⟩⟩) (st:=0) (len:=0) h).2
  have h2:eQ r a l=0:=by
   simp only[eQ]at h
   split at h
   ·split at h
    ·exact h
    ·exact absurd h (by decide)
   ·exact absurd h (by decide)
  obtain⟨i1,i2⟩:=Ss h2
  exact⟨uk.2 ⟨i2,i1⟩,h0⟩
theorem Zt {i:Int} {p:P}:∀{n:Nat} {st t:Int},st≤t→t<st+n→p∈mr w i t→p∈jX w i st n
 |0,st,t,h1,h2,_=>by omega
 |n+1,st,t,h1,h2,hp=>by
  simp only[jX,c9]
  by_cases e:t=st
  ·subst e;exact .inl hp
  ·exact .inr (Zt (by omega) (by omega) hp)
theorem aqU (hw:Wk w) {p:P} {l:List P} (cH:p.an.ok 1) (cD:(p.an.l.length:Int)<1000000) (h:dR w p l=0):cP p∈cY w p.req:=by
 obtain⟨qN,_,_,dZ,iA,hn,Be,cp⟩:=GI hw cH cD h
 have hq:=hw.rq qN.r0 qN.r1
 unfold cY
 refine Zt (t:=p.start) dZ (by omega) ?_
 unfold mr
 refine cC.2 ⟨p.an.l,?_,rfl⟩
 rw[show(w.rq p.req).need.toNat=p.an.l.length by omega]
 refine Jz (Rf (hq.CK.sublist Lp) (Ss Be).1 fun a ha=>?_)
 refine eP.2 ⟨?_,?_⟩
 ·have:=(HL (w:=w) (st:=0) (len:=0) Be).1 a ha
  obtain⟨b,hb,e⟩:=fS.1 this
  rw[dx]at e
  rw[e];exact hb
 ·have:=zM.1 cp a ha
  simpa using this
theorem VP.aph (hw:Wk w) {l:List P} (hl:iH l) (h:(fu w l).2=0):VP w (l.map cP):=by
 have aZ:=Uw hw hl h
 have hf:∀(j:Nat) x,l[j]? =some x→_:=fun j x hj=>GI hw (hl.ok x (bK hj)).1 (by have:=(hl.ok x (bK hj)).2;omega) (aZ j x hj)
 have key:∀n,n≤l.length→(l.take n).Pairwise (fun a b=>a.req<b.req∧cQ w a b=false)∧∀p∈l.take n,p.req≤iB (l.take n):=by
  intro n
  induction n with
  |zero=>intro _;simp
  | succ n ih =>
   intro hn
   obtain⟨x,hx⟩:=get_some (l:=l) (k:=n) (by omega)
   obtain⟨i1,i2⟩:=ih (by omega)
   obtain⟨_,f1,f2,_⟩:=hf n x hx
   rw[X5 hx,fi hx]
   refine⟨?_,fun p hp=>?_⟩
   ·rw[ki]
    refine⟨i1,by simp,fun a ha b hb=>?_⟩
    rw[dO]at hb;subst hb
    exact⟨by have:=i2 a ha;omega,AL.1 f2 a ha⟩
   ·rcases c9.1 hp with hp|hp
    ·have:=i2 p hp;omega
    ·rw[dO]at hp;rw[hp];exact zK _
 obtain⟨k1,_⟩:=key l.length (aH _)
 rw[ig]at k1
 refine⟨fun p hp=>?_,?_,?_⟩
 ·obtain⟨q,hq,rfl⟩:=cC.1 hp
  obtain⟨j,hj⟩:=n5 hq
  have qN:=(hf j q hj).1
  exact⟨qN.r0,qN.r1,aqU (p:=q) hw (hl.ok q hq).1 (by have:=(hl.ok q hq).2;omega) (aZ j q hj)⟩
 ·rw[um];exact k1.imp fun h=>h.1
 ·rw[um];exact k1.imp fun h=>h.2
theorem VP.adk (hw:Wk w) {l:List P} (h:VP w l):l.map cP=l:=aoM fun p hp=>by
 obtain⟨h0,h1,h2⟩:=h.mem p hp
 exact Ub (lL hw h0 h1 h2).2.2.2.2.2.1
end
section
variable{w:W}
theorem Uc {p q:P} (h:kP p=kP q):cP p=cP q:=by
 unfold kP at h
 injection h with h1 h2
 injection h2 with h2 h3
 unfold cP
 rw[h3]
 cases p;cases q
 simp only at h1 h2⊢
 rw[h1,h2]
theorem X3:∀{a b:List P},(∀p∈a,cP p=p)→(∀p∈b,cP p=p)→a.map kP=b.map kP→a=b
 |[],[],_,_,_=>rfl
 |[],_::_,_,_,h=>by simp at h
 |_::_,[],_,_,h=>by simp at h
 |x::a,y::b,ha,hb,h=>by
  simp only[gO,xP]at h
  have h1:=Uc h.1
  rw[ha x (by simp),hb y (by simp)]at h1
  rw[h1,X3 (fun p hp=>ha p (gP _ hp)) (fun p hp=>hb p (gP _ hp)) h.2]
theorem VP.can (hw:Wk w) {R:List P} (h:VP w R):∀p∈R,cP p=p:=fun p hp=>by
 obtain⟨h0,h1,h2⟩:=h.mem p hp
 exact Ub (lL hw h0 h1 h2).2.2.2.2.2.1
theorem acv {R:List P} (h:R.Pairwise fun a b=>a.req<b.req) {p q:P} (hp:p∈R) (hq:q∈R) (he:p.req=q.req):p=q:=by
 obtain⟨i,hi⟩:=n5 hp
 obtain⟨j,hj⟩:=n5 hq
 obtain⟨sf,w5⟩:=aY.1 hi
 obtain⟨hU,w6⟩:=aY.1 hj
 have l9:=Cs.1 h
 rcases LD i j with ez|ez|ez
 ·have:=l9 i j sf hU ez
  rw[w5,w6]at this;omega
 ·subst ez
  rw[hi]at hj;injection hj
 ·have:=l9 j i hU sf ez
  rw[w5,w6]at this;omega
theorem VP.bw (hw:Wk w) {R:List P} (h:VP w R) {p:P} (hp:p∈R):bw R p.req=some p:=by
 obtain⟨q,hq⟩:=KM (l:=R) (i:=p.req) ⟨p,hp,rfl⟩
 obtain⟨q1,q2⟩:=sG hq
 rw[hq,acv h.mJ q1 hp q2]
theorem aqr {R:List P} {i:Int} (h:∀p∈R,p.req≠i):Sc.bw R i=none:=by
 unfold Sc.bw
 rw[Hj]
 intro p hp he
 exact h p hp (by simpa using he)
theorem adZ (hw:Wk w) {pl:List P} (cD:VP w pl) {g:List Int} {req:Int}:CA w (eu w pl g req):=by
 have bH:=(cD.chk hw).2
 refine⟨AE,fun i h0 h1 p hp=>?_,fun i h0 h1=>?_⟩
 ·rw[E9 h0 h1]at hp
  obtain⟨k,rfl⟩:=Int.eq_ofNat_of_zero_le h0
  have:=I5 hw bH (cD.iD hw) (i:=k) (by omega) hp
  exact⟨this.1,this.2.1⟩
 ·rw[E9 h0 h1]
  unfold iu
  split
  ·refine Cn _ ?_
   rw[KP]
   exact aqX hw h0 h1
  ·cases Sc.bw pl i<;>simp
theorem LO (hw:Wk w) {pl:List P} (cD:VP w pl) {g:List Int} {req:Int} (h0:0≤req) (h1:req<w.rs.l.length) {R:List P}:
  VF w (eu w pl g req) R↔VP w R∧(∀i:Nat,i<w.rs.l.length→jb pl R (i:Int)=vi g (i:Int))∧∃p∈R,p.req=req:=by
 constructor
 ·rintro⟨⟨m,a,n⟩,f⟩
  have hm:∀p∈R,0≤p.req∧p.req<w.rs.l.length∧p∈iu w pl g p.req:=fun p hp=>by
   obtain⟨q0,q1,q2⟩:=m p hp
   rw[E9 q0 q1]at q2
   exact⟨q0,q1,q2⟩
  have hR:VP w R:=by
   refine⟨fun p hp=>?_,a,n⟩
   obtain⟨q0,q1,q2⟩:=hm p hp
   refine⟨q0,q1,?_⟩
   unfold iu at q2
   split at q2
   ·have:=(eP.1 q2).1
    rwa [KP]at this
   ·rw[Option.mem_toList]at q2
    have hq:=(sG q2).1
    exact(cD.mem p hq).2.2
  have hf:∀i:Nat,i<w.rs.l.length→lW pl g req (i:Int)=false→∃p∈R,p.req=(i:Int):=fun i hi hc=>f i hi (by rw[Uu hi];exact hc)
  refine⟨hR,fun i hi=>?_,?_⟩
  · -- which are changed
   cases aZ:vi g (i:Int)with
   | true =>
    unfold jb
    rw[vE,qv]
    intro he
    cases hp:Sc.bw pl (i:Int)with
    |none=>
     obtain⟨p,tE,qO⟩:=hf i hi (by unfold lW;rw[aZ,ak rfl,hp];rfl)
     have:=hR.bw hw tE
     rw[qO]at this
     rw[hp,this]at he
     simp at he
    | some q =>
     rw[hp]at he
     cases hr:Sc.bw R (i:Int)with
     |none=>rw[hr]at he;simp at he
     |some p=>
      rw[hr]at he
      simp only[dP,fL]at he
      obtain⟨p1,p2⟩:=sG hr
      have:=(hm p p1).2.2
      unfold iu at this
      rw[p2,ak aZ]at this
      have:=(eP.1 this).2
      unfold B7 at this
      rw[hp]at this
      simp only[vO,kZ,iF,vE,qv]at this
      exact this (I9.2 he.symm)
   | false =>
    unfold jb
    rw[Bool.not_eq_false',dx]
    cases hp:Sc.bw pl (i:Int)with
    | none =>
     have:Sc.bw R (i:Int)=none:=aqr fun p tE qO=>by
      have:=(hm p tE).2.2
      unfold iu at this
      rw[qO,aq (by rw[aZ];decide),hp]at this
      simp at this
     rw[this]
    |some q=>
     obtain⟨p,tE,qO⟩:=hf i hi (by unfold lW;rw[aZ,aq (by decide),hp];rfl)
     have h2:=hR.bw hw tE
     rw[qO]at h2
     have:=(hm p tE).2.2
     unfold iu at this
     rw[qO,aq (by rw[aZ];decide),hp]at this
     simp only[Option.toList_some,dO]at this
     rw[h2,this]
  ·obtain⟨p,hp,he⟩:=hf req.toNat (by omega) (by
    have e:((req.toNat:Nat):Int)=req:=by omega
    unfold lW
    rw[e,bS rfl]
    split<;>simp)
   exact⟨p,hp,by omega⟩
 ·rintro⟨hR,hc,p0,y7,jw⟩
  have cH:∀p∈R,Sc.bw R p.req=some p:=fun p hp=>hR.bw hw hp
  refine⟨⟨fun p hp=>?_,hR.mJ,hR.nc⟩,fun i hi eM=>?_⟩
  ·obtain⟨q0,q1,q2⟩:=hR.mem p hp
   refine⟨q0,q1,?_⟩
   rw[E9 q0 q1]
   have ll:=hc p.req.toNat (by omega)
   rw[show((p.req.toNat:Nat):Int)=p.req by omega]at ll
   unfold jb at ll
   rw[cH p hp]at ll
   unfold iu
   cases aZ:vi g p.req with
   | true =>
    rw[ak rfl]
    rw[aZ,vE,qv]at ll
    refine eP.2 ⟨by rw[KP];exact q2,?_⟩
    unfold B7
    cases hq:Sc.bw pl p.req with
    |none=>rfl
    |some q=>
     rw[hq]at ll
     simp only[vO,kZ,iF,vE,qv]
     intro e
     exact ll (by rw[dP,dP,I9.1 e])
   | false =>
    rw[aq (by decide)]
    rw[aZ,Bool.not_eq_false',dx]at ll
    cases hq:Sc.bw pl p.req with
    |none=>rw[hq]at ll;simp at ll
    |some q=>
     rw[hq]at ll
     simp only[dP,fL]at ll
     obtain⟨k1,k2⟩:=sG hq
     have:=Uc ll
     rw[cD.can hw q k1,hR.can hw p hp]at this
     rw[this];simp
  ·rw [Uu hi] at eM
   by_cases WU:(i:Int)=req
   ·exact⟨p0,y7,by omega⟩
   ·have ll:=hc i hi
    unfold lW at eM
    unfold jb at ll
    have hex:Sc.bw R (i:Int)≠none:=by
     intro hn
     rw[hn]at ll
     cases aZ:vi g (i:Int)with
     | true =>
      rw[aZ,ak rfl,ch WU,nV,sQ]at eM
      have:Sc.bw pl (i:Int)=none:=by
       cases hq:Sc.bw pl (i:Int)with
       |none=>rfl
       |some q=>rw[hq]at eM;simp at eM
      rw[aZ,this]at ll
      simp at ll
     | false =>
      rw[aZ,aq (by decide),ch WU,nV,sQ]at eM
      cases hq:Sc.bw pl (i:Int)with
      |none=>rw[hq]at eM;simp at eM
      |some q=>
       rw[aZ,hq]at ll
       simp at ll
    obtain⟨p,hp⟩:=Option.ne_none_iff_exists'.1 hex
    obtain⟨k1,k2⟩:=sG hp
    exact⟨p,k1,k2⟩
end
theorem acK {y:List P}:∀{a b:List P},a.map kP=b.map kP→cg a y=cg b y:=by
 induction y with
 | nil =>
  intro a b h
  cases a with
  |nil=>cases b with
   |nil=>rfl
   |cons=>simp at h
  |cons=>cases b with
   |nil=>simp at h
   |cons=>rfl
 | cons z t ih =>
  intro a b h
  cases a with
  |nil=>cases b with
   |nil=>rfl
   |cons=>simp at h
  | cons x r => cases b with
   |nil=>simp at h
   |cons x' r'=>
    simp only[gO,xP]at h
    simp only[cg,h.1,ih h.2]
theorem Nr {a b c:List P} (h1:cg a b=false) (h2:cg b c=false):cg a c=false:=by
 cases h:cg a c with
 |false=>rfl
 |true=>
  cases hb:cg b a with
  |true=>rw[Ak hb h]at h2;exact absurd h2 (by decide)
  |false=>rw[acK (IW h1 hb),h2]at h;exact absurd h (by decide)
section
variable{w:W}
def nE (R:List P) (req:Int):Prop:=∃p∈R,p.req=req
theorem Wv {R:List P} {req:Int}:(bw R req).isSome=true↔nE R req:=by
 constructor
 ·intro h
  obtain⟨p,hp⟩:=oO.1 h
  exact⟨p,(sG hp).1,(sG hp).2⟩
 ·intro h
  obtain⟨p,hp⟩:=KM h
  rw[hp];rfl
structure vN (w:W) (pl:List P) (req:Int) (Q:List P):Prop where
 vp:VP w Q
 has:nE Q req
 min:∀R,VP w R→nE R req→jt w pl R Q=false
theorem Dz {pl a b:List P}:jt w pl a b=false↔¬dW pl a w.rs.l.length<dW pl b w.rs.l.length∧(dW pl a w.rs.l.length=dW pl b w.rs.l.length→¬aV w b<aV w a∧(aV w a=aV w b→cg a b=false)):=by
 unfold jt
 rw[Lh,qv]
 refine and_congr_right fun _=>?_
 constructor
 ·intro h he
  rw[bS he,iF,Lh,qv]at h
  refine⟨h.1,fun hv=>?_⟩
  have:=h.2
  rw[bS hv,iF]at this
  exact this
 ·intro h
  by_cases he:dW pl a w.rs.l.length=dW pl b w.rs.l.length
  ·obtain⟨h1,h2⟩:=h he
   rw[bS he,iF,Lh,qv]
   refine⟨h1,?_⟩
   by_cases hv:aV w a=aV w b
   ·rw[bS hv,h2 hv];rfl
   ·rw[ch hv];rfl
  ·rw[ch he];rfl
theorem acV {pl a b c:List P} (h1:jt w pl a b=false) (h2:jt w pl b c=false):jt w pl a c=false:=by
 rw[Dz]at h1 h2⊢
 obtain⟨a1,a2⟩:=h1
 obtain⟨b1,b2⟩:=h2
 refine⟨by omega,fun he=>?_⟩
 obtain⟨a3,a4⟩:=a2 (by omega)
 obtain⟨b3,b4⟩:=b2 (by omega)
 exact⟨by omega,fun hv=>Nr (a4 (by omega)) (b4 (by omega))⟩
theorem T4 {pl a:List P}:jt w pl a a=false:=by
 rw[Dz]
 exact⟨by omega,fun _=>⟨by omega,fun _=>Dw⟩⟩
theorem acT {pl a b:List P} (h:jt w pl a b=true):jt w pl b a=false:=by
 cases hb:jt w pl b a with
 |false=>rfl
 | true =>
  unfold jt at h hb
  simp only[ru,dI,dx]at h hb
  rcases h with h|⟨h1,h2⟩
  ·rcases hb with hb|⟨hb,_⟩<;>omega
  ·rcases hb with hb|⟨b1,b2⟩
   ·omega
   ·rcases h2 with h2|⟨h2,h3⟩
    ·rcases b2 with b2|⟨b2,_⟩<;>omega
    ·rcases b2 with b2|⟨b2,b3⟩
     ·omega
     ·have:=Ak h3 b3
      rw[Dw]at this;exact absurd this (by decide)
theorem vN.uniq (hw:Wk w) {pl:List P} {req:Int} {Q Q':List P} (h:vN w pl req Q) (h':vN w pl req Q'):Q=Q':=by
 have h1:=Dz.1 (h.min Q' h'.vp h'.has)
 have h2:=Dz.1 (h'.min Q h.vp h.has)
 obtain⟨a1,a2⟩:=h1.2 (by have:=h1.1;have:=h2.1;omega)
 obtain⟨b1,b2⟩:=h2.2 (by have:=h1.1;have:=h2.1;omega)
 have hv:aV w Q=aV w Q':=by omega
 exact X3 (h.vp.can hw) (h'.vp.can hw) (IW (b2 hv) (a2 hv.symm))
theorem z6 (hw:Wk w) {X:List P}:X∈eT w (dr w.rs.l.length) 0 w.rs.l.length []↔VP w X:=by
 rw[KR hw (by omega) VP.nil (fun p hp=>absurd hp (by simp))]
 constructor
 ·exact fun h=>h.1
 ·intro h
  refine⟨h,X,rfl,fun p hp=>?_⟩
  obtain⟨h0,h1,_⟩:=h.mem p hp
  exact⟨by omega,cC.2 ⟨p.req.toNat,pM.2 (by omega),by omega⟩⟩
theorem VF.nn (hw:Wk w) {all:List (Sl P×Bool)} {R:List P} (h:VF w all R):0≤aV w R:=by
 rw[←h.vc.val hw]
 exact(G4 hw fun i hi=>BR h.vc.re hi).1
theorem acO (hw:Wk w) {pl:List P} (cD:VP w pl) {g:List Int} {req:Int} (h0:0≤req) (h1:req<w.rs.l.length):
  ((∀R,¬VF w (eu w pl g req) R)∧iq w (eu w pl g req)=([],0,false))∨
  ∃Q,VF w (eu w pl g req) Q∧iq w (eu w pl g req)=(Q,aV w Q,true)∧∀R,VF w (eu w pl g req) R→aV w R≤aV w Q∧(aV w R=aV w Q→cg R Q=false):=by
 have hA:=adZ hw cD (g:=g) (req:=req)
 by_cases hex:∃R,VF w (eu w pl g req) R
 ·right
  obtain⟨M,hM,hMv⟩:=aoP hw hA hex
  classical
  have ji:∀X,X∈(eT w (dr w.rs.l.length) 0 w.rs.l.length []).filter (fun R=>decide (VF w (eu w pl g req) R))↔VF w (eu w pl g req) X:=fun X=>by
   rw[eP,dx,z6 hw]
   exact⟨fun h=>h.2,fun h=>⟨((LO hw cD h0 h1).1 h).1,h⟩⟩
  cases hL:(eT w (dr w.rs.l.length) 0 w.rs.l.length []).filter (fun R=>decide (VF w (eu w pl g req) R))with
  |nil=>
   have:=(ji M).2 hM
   rw[hL]at this;exact absurd this (by simp)
  | cons b r =>
   rw[hL]at ji
   obtain⟨s1,s2,s3,s4,s5⟩:=Nt (w:=w) (l:=r) (b:=b)
   have hQ:VF w (eu w pl g req) (lj w b r):=(ji _).1 (by
    rcases s1 with h|h
    ·rw[h];simp
    ·exact gP _ h)
   have dT:∀R,VF w (eu w pl g req) R→aV w R≤aV w (lj w b r)∧(aV w R=aV w (lj w b r)→cg R (lj w b r)=false):=fun R hR=>by
    rcases eF.1 ((ji R).2 hR)with e|e
    ·rw[e];exact⟨s2,s4⟩
    ·exact⟨s3 R e,s5 R e⟩
   have hv:aV w (lj w b r)=pC w (eu w pl g req):=by
    have h1:=(dT M hM).1
    have h2:=hQ.le_max hw hA
    omega
   refine⟨lj w b r,hQ,?_,dT⟩
   rw[acP hw hA hQ hv fun R hR Fz=>(dT R hR).2 (by omega),hv]
 ·left
  have fF:∀R,¬VF w (eu w pl g req) R:=fun R h=>hex ⟨R,h⟩
  exact⟨fF,acQ hw hA fF⟩
def Cm (w:W) (pl:List P) (req:Int) (done:List (List Int)) (st:List P×Int):Prop:=
 (st=([],-1)∧∀g∈done,∀R,¬VF w (eu w pl g req) R)∨
 ((∃g∈done,VF w (eu w pl g req) st.1)∧st.2=aV w st.1∧0≤st.2∧∀g∈done,∀R,VF w (eu w pl g req) R→aV w R≤aV w st.1∧(aV w R=aV w st.1→cg R st.1=false))
theorem akx (hw : Wk w) {pl : List P} (cD : VP w pl) {req : Int} (h0 : 0 ≤ req) (h1 : req < w.rs.l.length) {done : List (List Int)} {st : List P × Int} {g : List Int} (h : Cm w pl req done st) : Cm w pl req (done ++ [g]) (pt w pl req st g) := by
 unfold pt
 rcases acO hw cD (g:=g) h0 h1 with⟨fF,hb⟩|⟨Q,hQ,hb,dT⟩
 ·rw[hb]
  simp only[jZ,eB,dt]
  rcases h with⟨h1,h2⟩|⟨⟨g0,sb,hv⟩,h2,h3,h4⟩
  ·left
   refine⟨h1,fun g' bz=>?_⟩
   rcases c9.1 bz with bz|bz
   ·exact h2 g' bz
   ·rw[dO.1 bz];exact fF
  ·right
   refine⟨⟨g0,n7 _ sb,hv⟩,h2,h3,fun g' bz R hR=>?_⟩
   rcases c9.1 bz with bz|bz
   ·exact h4 g' bz R hR
   ·rw[dO.1 bz]at hR;exact absurd hR (fF R)
 ·rw [hb]
  have w9:=hQ.nn hw
  simp only[iF]
  rcases h with⟨e,h2⟩|⟨⟨g0,sb,hv⟩,h2,h3,h4⟩
  ·rw[e,ak (by simp;left;omega)]
   right
   refine⟨⟨g,by simp,hQ⟩,rfl,w9,fun g' bz R hR=>?_⟩
   rcases c9.1 bz with bz|bz
   ·exact absurd hR (h2 g' bz R)
   ·rw[dO.1 bz]at hR;exact dT R hR
  ·by_cases hc:(decide (st.2<aV w Q)||(decide (aV w Q=st.2)&&cg Q st.1))=true
   ·rw [ak hc]
    right
    simp only[ru,dI,dx]at hc
    refine⟨⟨g,by simp,hQ⟩,rfl,w9,fun g' bz R hR=>?_⟩
    rcases c9.1 bz with bz|bz
    ·obtain⟨k1,k2⟩:=h4 g' bz R hR
     rcases hc with hc|⟨hc,jO⟩
     ·exact⟨by show aV w R≤aV w Q;omega,fun hv=>by have:aV w R=aV w Q:=hv;omega⟩
     ·refine⟨by show aV w R≤aV w Q;omega,fun hv=>?_⟩
      have hv:aV w R=aV w Q:=hv
      show cg R Q=false
      have aid:cg st.1 Q=false:=by
       cases hx:cg st.1 Q with
       |false=>rfl
       |true=>
        have:=Ak jO hx
        rw[Dw]at this;exact absurd this (by decide)
      exact Nr (k2 (by omega)) aid
    ·rw[dO.1 bz]at hR;exact dT R hR
   ·rw[aq hc]
    right
    have pd:¬st.2<aV w Q∧(aV w Q=st.2→cg Q st.1=false):=by
     simp only[ru,dI,dx,not_or,not_and]at hc
     exact⟨hc.1,fun e=>by simpa using hc.2 e⟩
    refine⟨⟨g0,n7 _ sb,hv⟩,h2,h3,fun g' bz R hR=>?_⟩
    rcases c9.1 bz with bz|bz
    ·exact h4 g' bz R hR
    ·rw[dO.1 bz]at hR
     obtain⟨k1,k2⟩:=dT R hR
     exact⟨by omega,fun hv=>Nr (k2 (by omega)) (pd.2 (by omega))⟩
theorem akw (hw:Wk w) {pl:List P} (cD:VP w pl) {req:Int} (h0:0≤req) (h1:req<w.rs.l.length) (c:Nat):Cm w pl req (bd c (dr w.rs.l.length)) (sw w pl req c):=by
 have key:∀(r done:List (List Int)) st,Cm w pl req done st→Cm w pl req (done++r) (r.foldl (pt w pl req) st):=by
  intro r
  induction r with
  |nil=>intro done st h;simpa using h
  |cons g r ih=>
   intro done st h
   have:=ih (done++[g]) _ (akx hw cD h0 h1 (g:=g) h)
   rw[gL,RX]at this
   exact this
 have:=key (bd c (dr w.rs.l.length)) [] ([],-1) (.inl ⟨rfl,fun g hg=>absurd hg (by simp)⟩)
 rw[kh]at this
 exact this
end
section
variable{w:W}
theorem Us {pl R:List P} {n:Nat}:((dr n).filter fun i=>jb pl R i).length=dW pl R n:=by
 unfold dW dr
 rw[List.filter_map,bE];rfl
theorem Uv (hw:Wk w) {pl:List P} (cD:VP w pl) {req:Int} (h0:0≤req) (h1:req<w.rs.l.length) {R:List P} (hR:VP w R) (hr:nE R req):∃g∈bd (dW pl R w.rs.l.length) (dr w.rs.l.length),VF w (eu w pl g req) R:=by
 refine⟨(dr w.rs.l.length).filter fun i=>jb pl R i,?_,?_⟩
 ·rw[←Us]
  exact Jz Lp
 ·rw[LO hw cD h0 h1]
  refine⟨hR,fun i hi=>?_,hr⟩
  unfold vi
  rw[rr,fS]
  constructor
  ·intro h
   exact⟨(i:Int),eP.2 ⟨ZV i hi,h⟩,by simp⟩
  ·rintro⟨a,ha,e⟩
   rw[dx]at e
   rw[e];exact(eP.1 ha).2
theorem abz (hw:Wk w) {pl:List P} (cD:VP w pl) {req:Int} (h0:0≤req) (h1:req<w.rs.l.length) {c:Nat} {g:List Int} (hg:g∈bd c (dr w.rs.l.length)) {R:List P} (h:VF w (eu w pl g req) R):VP w R∧nE R req∧dW pl R w.rs.l.length=c:=by
 obtain⟨hR,hc,hr⟩:=(LO hw cD h0 h1).1 h
 refine⟨hR,hr,?_⟩
 obtain⟨ga,gi⟩:=ahr hg
 rw[←Us,←tt hg]
 congr 1
 refine CN (Cn _ QT) ga fun x=>?_
 rw[eP]
 constructor
 ·rintro⟨hx,pf⟩
  obtain⟨x0,x1⟩:=QU x hx
  have:=hc x.toNat (by omega)
  rw[show((x.toNat:Nat):Int)=x by omega,pf]at this
  obtain⟨a,ha,e⟩:=fS.1 this.symm
  rw[dx]at e
  rw[e];exact ha
 ·intro hx
  obtain⟨x0,x1⟩:=gi x hx
  have:=hc x.toNat (by omega)
  rw[show((x.toNat:Nat):Int)=x by omega]at this
  refine⟨by have:=ZV (n:=w.rs.l.length) x.toNat (by omega);rwa [show((x.toNat:Nat):Int)=x by omega]at this,?_⟩
  rw[this]
  exact fS.2 ⟨x,hx,by simp⟩
theorem XR (hw:Wk w) {pl:List P} (cD:VP w pl) {req:Int} (h0:0≤req) (h1:req<w.rs.l.length):∀(d c:Nat),c+d=w.rs.l.length+1→(∀R,VP w R→nE R req→c≤dW pl R w.rs.l.length)→
  (∃Q,pw w pl req c d=some Q∧vN w pl req Q)∨(pw w pl req c d=none∧∀R,VP w R→¬nE R req)
 |0,c,hc,dZ=>by
  right
  refine⟨rfl,fun R hR hr=>?_⟩
  have:=dZ R hR hr
  have:=Ut (a:=pl) (b:=R) (n:=w.rs.l.length)
  omega
 | d + 1, c, hc, dZ => by
  have hJ:=akw hw cD h0 h1 c
  simp only[pw]
  rcases hJ with⟨e,fF⟩|⟨⟨g,hg,hv⟩,h2,h3,h4⟩
  ·rw[aq (by rw[e];decide)]
   refine XR hw cD h0 h1 d (c+1) (by omega) fun R hR hr=>?_
   have hle:=dZ R hR hr
   by_cases eM:dW pl R w.rs.l.length=c
   ·obtain⟨g,hg,hv⟩:=Uv hw cD h0 h1 hR hr
    rw[eM]at hg
    exact absurd hv (fF g hg R)
   ·omega
  ·rw[ak h3]
   left
   refine⟨_,rfl,?_⟩
   obtain⟨k1,k2,k3⟩:=abz hw cD h0 h1 hg hv
   refine⟨k1,k2,fun R hR hr=>?_⟩
   rw[Dz]
   have hle:=dZ R hR hr
   refine⟨by omega,fun he=>?_⟩
   obtain⟨g',bz,nO⟩:=Uv hw cD h0 h1 hR hr
   rw[he,k3]at bz
   obtain⟨m1,m2⟩:=h4 g' bz R nO
   exact⟨by omega,m2⟩
theorem aky (hw:Wk w) {pl:List P} (cD:VP w pl) {req:Int} (h0:0≤req) (h1:req<w.rs.l.length):(∃Q,Kq w pl req=some Q∧vN w pl req Q)∨(Kq w pl req=none∧∀R,VP w R→¬nE R req):=
 XR hw cD h0 h1 (w.rs.l.length+1) 0 (by omega) fun _ _ _=>bh _
def BE (w:W) (pl:List P) (req:Int) (st:Option (List P)) (X:List P):Option (List P):=
 if(bw X req).isSome=true then(match st with|none=>some X|some b=>if jt w pl X b=true then some X else some b)else st
theorem XQ {pl:List P} {req:Int}:∀(l done:List (List P)) (st:Option (List P)),((st=none∧∀X∈done,¬nE X req)∨∃b,st=some b∧b∈done∧nE b req∧∀X∈done,nE X req→jt w pl X b=false)→
  ((l.foldl (BE w pl req) st=none∧∀X∈done++l,¬nE X req)∨∃b,l.foldl (BE w pl req) st=some b∧b∈done++l∧nE b req∧∀X∈done++l,nE X req→jt w pl X b=false)
 |[],done,st,h=>by simpa using h
 | X :: l, done, st, h => by
  have fm:=XQ (pl:=pl) (req:=req) l (done++[X]) (BE w pl req st X) (by
   unfold BE
   by_cases hX:(bw X req).isSome=true
   ·rw[ak hX]
    have Wp:=Wv.1 hX
    right
    rcases h with⟨rfl,fF⟩|⟨b,rfl,hb,FC,dT⟩
    ·refine⟨X,rfl,by simp,Wp,fun Z hZ uR=>?_⟩
     rcases c9.1 hZ with hZ|hZ
     ·exact absurd uR (fF Z hZ)
     ·rw[dO.1 hZ];exact T4
    ·cases wR:jt w pl X b with
     |true=>
      refine⟨X,by simp[wR],by simp,Wp,fun Z hZ uR=>?_⟩
      rcases c9.1 hZ with hZ|hZ
      ·exact acV (dT Z hZ uR) (acT wR)
      ·rw[dO.1 hZ];exact T4
     |false=>
      refine⟨b,by simp[wR],n7 _ hb,FC,fun Z hZ uR=>?_⟩
      rcases c9.1 hZ with hZ|hZ
      ·exact dT Z hZ uR
      ·rw[dO.1 hZ];exact wR
   ·rw[aq hX]
    have Wo:¬nE X req:=fun q=>hX (Wv.2 q)
    rcases h with⟨rfl,fF⟩|⟨b,rfl,hb,FC,dT⟩
    ·left
     refine⟨rfl,fun Z hZ=>?_⟩
     rcases c9.1 hZ with hZ|hZ
     ·exact fF Z hZ
     ·rw[dO.1 hZ];exact Wo
    ·right
     refine⟨b,rfl,n7 _ hb,FC,fun Z hZ uR=>?_⟩
     rcases c9.1 hZ with hZ|hZ
     ·exact dT Z hZ uR
     ·rw[dO.1 hZ]at uR;exact absurd uR Wo)
  rw[gL,RX]at fm
  exact fm
theorem Ur {a b:List P} {n:Nat}:dW (a.map cP) (b.map cP) n=dW a b n:=by
 unfold dW
 congr 2
 funext i
 exact ad0
theorem acU {l a b:List P}:jt w (l.map cP) (a.map cP) (b.map cP)=jt w l a b:=by
 unfold jt
 rw[Ur,Ur,Rl,Rl,T3]
theorem aqq {l:List P} {i:Int}:(bw (l.map cP) i).isSome=(bw l i).isSome:=by
 unfold bw
 rw[List.find?_map,Option.isSome_map];rfl
theorem XS {l:List P} {req:Int}:∀{Y:List (Sl P)} {st:Option (Sl P)},(Y.foldl (kS w l req) st).map (fun y=>y.l.map cP)=(Y.map fun y=>y.l.map cP).foldl (BE w (l.map cP) req) (st.map fun y=>y.l.map cP)
 |[],st=>rfl
 | y :: Y, st => by
  rw[sV,gO,sV,XS]
  congr 1
  unfold kS BE
  rw[aqq]
  split
  ·cases st with
   |none=>rfl
   |some b=>
    simp only[dP,acU]
    split<;>rfl
  ·rfl
theorem arN (hw:Wk w) {l:List P} {req:Int} {Y:List (Sl P)} (hY:(Y.map fun y=>y.l.map cP)=eT w (dr w.rs.l.length) 0 w.rs.l.length []):
  (∃y,Y.foldl (kS w l req) none=some y∧y∈Y∧vN w (l.map cP) req (y.l.map cP))∨(Y.foldl (kS w l req) none=none∧∀R,VP w R→¬nE R req):=by
 have h1:=XS (w:=w) (l:=l) (req:=req) (Y:=Y) (st:=none)
 rw[hY]at h1
 have hm : ∀ (Y : List (Sl P)) (st : Option (Sl P)) y, Y.foldl (kS w l req) st = some y → y ∈ Y ∨ st = some y := by
  intro Y
  induction Y with
  |nil=>intro st y h;exact .inr h
  | cons z Y ih =>
   intro st y h
   rw[sV]at h
   rcases ih _ _ h with h|h
   ·exact .inl (gP _ h)
   ·unfold kS at h
    split at h
    ·cases st with
     |none=>injection h with h;subst h;exact .inl (by simp)
     |some b=>
      simp only at h
      split at h
      ·injection h with h;subst h;exact .inl (by simp)
      ·exact .inr h
    ·exact .inr h
 rcases XQ (w:=w) (pl:=l.map cP) (req:=req) (eT w (dr w.rs.l.length) 0 w.rs.l.length []) [] none (.inl ⟨rfl,fun X hX=>absurd hX (by simp)⟩)with⟨e,fF⟩|⟨b,e,hb,FC,dT⟩
 ·right
  rw[LK,e]at h1
  refine⟨Option.map_eq_none_iff.1 h1,fun R hR=>fF R ?_⟩
  rw[kh];exact(z6 hw).2 hR
 ·left
  rw[LK,e]at h1
  obtain⟨y,hy,Kh⟩:=aS.1 h1
  refine⟨y,hy,(hm Y none y hy).resolve_right (by simp),?_⟩
  rw[Kh]
  rw[kh]at hb dT
  exact⟨(z6 hw).1 hb,FC,fun R hR hr=>dT R ((z6 hw).2 hR) hr⟩
theorem HH (hw:Wk w) (h0:(dH w).2.2=0) {R:List P}:VP (cW w) R↔VP w R:=by
 rw[←z6 hw,←z6 (hw.c h0),Ap]
 rw[Qw hw (by omega) (fun x hx=>absurd hx (by simp))]
theorem abv (hw:Wk w) (h0:(dH w).2.2=0) {pl:List P} {req:Int} {Q:List P} (h:vN (cW w) pl req Q):vN w pl req Q:=by
 have hv:∀R,VP w R→aV (cW w) R=aV w R:=fun R hR=>by
  have:=aaS (w:=w) (l:=R) fun x hx=>⟨(hR.mem x hx).1,(hR.mem x hx).2.1⟩
  rwa [hR.adk hw]at this
 have hQ:=(HH hw h0).1 h.vp
 refine⟨hQ,h.has,fun R hR hr=>?_⟩
 have:=h.min R ((HH hw h0).2 hR) hr
 unfold jt at this⊢
 rw[Ap,hv R hR,hv Q hQ]at this
 exact this
end
section
variable{s:ae} {w:W}
theorem anS {l : List P} {o : Own} {e : Nat} {i : Int} (hs : Ok s) (hw : w.Ok) (hb : w.Hb) (hl : zV l) (he : e = 3) (hi : PL i) : aw AP (.fn 3) [w.v, .slice o e (l.map aj), I i] s = some (B true, s) := by
  subst he
  have yN:∀r,aw AP (.fn 4) [] (s.push r)=some (B true,s.push r):=fun r=>anU (hs.push r)
  have lr:∀r,aw AP (.fn 5) [w.v] (s.push r)=some (B (zp w),s.push r):=fun r=>anR (hs.push r) hw hb
  have ib:∀m:ae,aw AP (.fn 6) [.slice o 3 (l.map aj)] m=some (B (Ca l),m):=fun m=>anV hl (.inr rfl)
  cases hf:zp w with
  | false =>
    simp only[W.v,bQ,Sl.v]at lr
    rw[aL (show AP 3=some rK from rfl) rfl]
    simp only[go_sem,v7,yN,lr,hf,W.v,bQ,Sl.v,simprocAttr]
  |true=>
  cases jh:Ca l with
  | false =>
    simp only[W.v,bQ,Sl.v]at lr
    rw[aL (show AP 3=some rK from rfl) rfl]
    simp only[go_sem,v7,yN,lr,hf,ib,jh,W.v,bQ,Sl.v,simprocAttr]
  | true =>
    have hF:w.kY:=Vw (by unfold zp at hf;rw[dI]at hf;exact hf.1)
    have hP:=asL hl jh
    have iO:∀r,aw AP (.fn 8) [w.v] (s.push r)=some ((cW w).v,s.push r):=fun r=>arv (hs.push r) hw hF
    have mc:∀r,aw AP (.fn 10) [w.v] (s.push r)=some (I (ie w),s.push r):=fun r=>ZB (hs.push r) hw hF
    obtain⟨x1,q1,ng,dY,uN,_⟩:=QD (o:=o) (e:=3) (Q:=s) (tk:=[]) hs hP (.inr rfl)
    obtain⟨o1,e1,rfl,kN⟩:=abH uN
    have aiz:l.map cP=[]∨e1=3:=by rcases kN with h|h;exact .inl (by simpa using h);exact .inr h
    have aZ:∀r,aw AP (.fn 7) [(cW w).v,.slice o1 e1 ((l.map cP).map aj),I i] (s.push r)=some (Kr (cW w) (l.map cP) i,s.push r):=fun r=>asm (hs.push r) Uf (Ue hF) (Ud hP) aiz
    have hE:vj (cW w) (l.map cP) i=if ie w=0 then(if(fu w l).2=0 then cond (wi i 0 (w.rs.l.length-1)) 0 6 else(fu w l).2)else ie w:=by
      unfold vj;rw[as5,ad4,Ap]
    unfold Kr at aZ
    have w8:mm false (bp 3 (([]:List P).map aj))=some (I 0):=rfl
    by_cases h0:ie w=0
    · have Bz := Re h0
      have cV:Wk w:=⟨hw,hF,sO Bz⟩
      rw[ak h0]at hE
      have gU:∀r,aw AP (.fn 11) [w.v,.slice o 3 (l.map aj)] (s.push r)=some (I (fu w l).2,s.push r):=fun r=>by
        rw[arz (hs.push r) hw hF hP (.inr rfl)];unfold rf;rw[ak Bz]
      rw[h0]at mc
      by_cases yS:(fu w l).2=0
      · rw [ak yS] at hE
        rw[yS]at gU
        have gp:∀r,aw AP (.fn 12) [w.v,.slice .full 1 [[I i]]] (s.push r)=some (I (vv w.rs.l.length (-1) [i]),s.push r):=fun r=>arB (l:=[i]) (hs.push r) hF.rs (.inr rfl) (by simp)
        cases h1:wi i 0 (w.rs.l.length-1)with
        | false =>
          have gH:vv w.rs.l.length (-1) [i]=6:=by simp only[vv];rw[aq (by rw[h1];decide)]
          rw[h1]at hE
          rw[gH]at gp
          rw[hE,iw,aq (by decide),aq (by decide)]at aZ
          simp only[W.v,bQ,Sl.v]at lr iO aZ mc gU gp
          rw[aL (show AP 3=some rK from rfl) rfl]
          simp only[go_sem,v7,yN,lr,hf,ib,jh,iO,dY,aZ,mc,gU,gp,W.v,bQ,Sl.v,bq,jV,pR,jH,fp,simprocAttr]
        | true =>
          obtain⟨JV,sd⟩:=iW.1 h1
          have aiP:i<w.rs.l.length:=by omega
          have gH:vv w.rs.l.length (-1) [i]=0:=by simp only[vv];rw[ak h1,ak (by omega)]
          rw[h1]at hE
          rw[gH]at gp
          rw[hE,fY,ak rfl,ak rfl]at aZ
          have hN:=aoz hf h0
          obtain⟨Y,Bb,hY2,hY3⟩:=arx (s:=s.push ⟨[bQ w],ng⟩) (ol:=o) (req:=i) (hs.push _) cV (by omega) (.inr rfl) hP
          have hVP:VP w (l.map cP):=VP.aph cV hP yS
          have hR:=aky (cV.c Bz) ((HH cV Bz).2 hVP) JV (by rw[Ap];exact aiP)
          have hS:=arN cV (l:=l) (req:=i) hY3
          rcases hR with⟨Q,Ol,Om⟩|⟨Ol,Om⟩
          · have hQ := abv cV Bz Om
            rw[Ol,kZ,vO,ak rfl]at aZ
            rcases hS with⟨y,tH,zj,Kg⟩|⟨tH,zj⟩
            · have hQy := hQ.uniq cV Kg
              subst hQy
              rw[tH]at Bb
              have fe:=hY2 y zj
              rw[rE]at aZ
              have Bv:∀r,aw AP (.fn 14) [(dv 3 (y.l.map cP)).v aj,y.v aj] (s.push r)=some (B true,s.push r):=fun r=>by
                have:=arC (s:=s.push r) (a:=(dv 3 (y.l.map cP)).l) (b:=y.l) (o1:=(dv 3 (y.l.map cP)).o) (e1:=(dv 3 (y.l.map cP)).e) (o2:=y.o) (e2:=y.e) (hs.push r) vR.1 fe.ok.1
                  (by rw[j5];exact⟨by rw[bE];exact fe.sm.len,fun p hp=>by
                    obtain⟨q,hq,rfl⟩:=cC.1 hp
                    exact⟨yv,(fe.sm.ok q hq).2⟩⟩) fe.sm
                refine this.trans ?_
                rw[j5]
                have hm:=Z7 (f:=cP) (g:=id) (fun p=>rfl) (l:=y.l)
                rw[List.map_id]at hm
                rw[hm]
              simp only[W.v,bQ,Sl.v,xl,vO]at lr iO aZ mc gU gp Bb Bv
              rw[aL (show AP 3=some rK from rfl) rfl]
              simp only[go_sem,v7,yN,lr,hf,ib,jh,iO,dY,aZ,mc,gU,gp,Bb,Bv,W.v,bQ,Sl.v,bq,fI,pR,jH,simprocAttr]
            · exact absurd hQ.has (zj Q hQ.vp)
          · rw [Ol, Option.getD_none, rB, aq (by decide)] at aZ
            rcases hS with⟨y,tH,zj,Kg⟩|⟨tH,zj⟩
            · exact absurd Kg.has (Om _ ((HH cV Bz).2 Kg.vp))
            · rw [tH] at Bb
              simp only[W.v,bQ,Sl.v,xl,rB]at lr iO aZ mc gU gp Bb
              rw[aL (show AP 3=some rK from rfl) rfl]
              simp only[go_sem,v7,yN,lr,hf,ib,jh,iO,dY,aZ,mc,gU,gp,Bb,W.v,bQ,Sl.v,bq,fI,pR,jH,nV,fp,simprocAttr]
      · rw [aq yS] at hE
        rw[hE,aq yS,aq yS]at aZ
        simp only[W.v,bQ,Sl.v]at lr iO aZ mc gU
        rw[aL (show AP 3=some rK from rfl) rfl]
        simp only[go_sem,v7,yN,lr,hf,ib,jh,iO,dY,aZ,mc,gU,yS,W.v,bQ,Sl.v,bq,jV,pR,jH,fp,simprocAttr]
    · rw [aq h0] at hE
      rw[hE,aq h0,aq h0]at aZ
      simp only[W.v,bQ,Sl.v]at lr iO aZ mc
      rw[aL (show AP 3=some rK from rfl) rfl]
      simp only[go_sem,v7,yN,lr,hf,ib,jh,iO,dY,aZ,mc,h0,W.v,bQ,Sl.v,bq,jV,pR,jH,fp,simprocAttr]
end
section
variable{P:Program} {d:Nat}
def xO (P:Program) (t:TypeId) (ts:List TypeId):Prop:=∃fs:Array Field,P.underlying t=some (.struct fs)∧fs.toList.map (·.type)=ts
theorem Cb {t:TypeId} {ts:List TypeId} {bO:List AV} (hf:xO P t ts) (h:ef P (d+1) t bO):
  ∃ps:List (List AV),bO=ps.flatten∧ps.length=ts.length∧∀(i:Nat) (u:TypeId) (p:List AV),ts[i]? =some u→ps[i]? =some p→ef P d u p:=by
 obtain⟨fs,hu,rfl⟩:=hf
 obtain⟨ps,h1,h2,h3⟩:=asS hu h
 refine⟨ps,h1,by simp[h2],fun i u p hi hp=>?_⟩
 rw[gN]at hi
 obtain⟨f,hf,rfl⟩:=aS.1 hi
 exact h3 i f p (by simpa using hf) hp
structure xY (P:Program) (ti ts tg tW lQ ta vy tr vA tw:TypeId):Prop where
 i:P.underlying ti=some (.int .i64)
 s:P.underlying ts=some .string
 g:xO P tg [ti,ti]
 gs:P.underlying tW=some (.slice tg)
 gc:P.cellsOf tg=2
 is:P.underlying lQ=some (.slice ti)
 ic:P.cellsOf ti=1
 a:xO P ta [ts,ti,tW]
 sa:P.underlying vy=some (.slice ta)
 ac:P.cellsOf ta=3
 r:xO P tr [ts,tg,ti,ti,lQ,ti]
 sr:P.underlying vA=some (.slice tr)
 rc:P.cellsOf tr=7
 w:xO P tw [ti,vy,vA]
variable{ti ts tg tW lQ ta vy tr vA tw:TypeId}
theorem xu {n:Nat} (h:n≤maxLen):(n:Int)<9223372036854775808:=by unfold maxLen at h;omega
theorem aal (T:xY P ti ts tg tW lQ ta vy tr vA tw) {bO:List AV} (h:ef P (d+2) tg bO):∃x:Int×Int,bO=gX x∧True:=by
 obtain⟨ps,rfl,hl,hp⟩:=Cb T.g h
 match ps,hl,hp with
 |[p0,p1],_,hp=>
  obtain⟨a,rfl,_⟩:=rm T.i (hp 0 _ p0 rfl rfl)
  obtain⟨b,rfl,_⟩:=rm T.i (hp 1 _ p1 rfl rfl)
  exact⟨(a,b),rfl,trivial⟩
theorem avX {o:Own} {rows:List (List AV)} (h:o=.any∨(o=.aA∧rows=[])):o=.any∨(o=.aA∧rows=[]):=h
theorem asN (T:xY P ti ts tg tW lQ ta vy tr vA tw) {bO:List AV} (h:ef P (d+2) lQ bO):∃x:Sl Int,bO=[x.v aD]∧x.ok 1∧(x.l.length:Int)<9223372036854775808:=by
 obtain⟨o,rows,rfl,ho,hlen,qR⟩:=Cc T.is h
 obtain⟨l,rfl,_⟩:=B6 (f:=aD) (g:=fun _=>True) (fun r hr=>by
  obtain⟨x,hx,_⟩:=rm T.i (qR r hr)
  exact⟨x,hx,trivial⟩)
 rw[bE]at hlen
 rw[T.ic]
 refine⟨⟨o,1,l⟩,rfl,?_,xu hlen⟩
 rcases ho with rfl|⟨rfl,h⟩
 ·exact⟨.inr rfl,.inl rfl⟩
 ·exact⟨.inr rfl,.inr (.inr ⟨rfl,Hp.1 (by assumption)⟩)⟩
theorem asR (T:xY P ti ts tg tW lQ ta vy tr vA tw) {bO:List AV} (h:ef P (d+3) tW bO):∃x:Sl (Int×Int),bO=[x.v gX]∧x.ok 2∧(x.l.length:Int)<9223372036854775808:=by
 obtain⟨o,rows,rfl,ho,hlen,qR⟩:=Cc T.gs h
 obtain⟨l,rfl,_⟩:=B6 (f:=gX) (g:=fun _=>True) (fun r hr=>aal T (qR r hr))
 rw[bE]at hlen
 rw[T.gc]
 refine⟨⟨o,2,l⟩,rfl,?_,xu hlen⟩
 rcases ho with rfl|⟨rfl,h⟩
 ·exact⟨.inr rfl,.inl rfl⟩
 ·exact⟨.inr rfl,.inr (.inr ⟨rfl,Hp.1 (by assumption)⟩)⟩
theorem asM (T:xY P ti ts tg tW lQ ta vy tr vA tw) {bO:List AV} (h:ef P (d+4) ta bO):
  ∃a:A,bO=bY a∧(a.cl.ok 2∧(a.name.size:Int)<9223372036854775808∧(a.cl.l.length:Int)<9223372036854775808):=by
 obtain⟨ps,rfl,hl,hp⟩:=Cb T.a h
 match ps,hl,hp with
 |[p0,p1,p2],_,hp=>
  obtain⟨n,rfl,hn⟩:=aam T.s (hp 0 _ p0 rfl rfl)
  obtain⟨b,rfl,_⟩:=rm T.i (hp 1 _ p1 rfl rfl)
  obtain⟨c,rfl,hc,aP⟩:=asR T (hp 2 _ p2 rfl rfl)
  exact⟨⟨n,b,c⟩,rfl,hc,xu hn,aP⟩
theorem asQ (T:xY P ti ts tg tW lQ ta vy tr vA tw) {bO:List AV} (h:ef P (d+4) tr bO):
  ∃r:R,bO=bV r∧(r.an.ok 1∧(r.bU.size:Int)<9223372036854775808∧(r.an.l.length:Int)<9223372036854775808):=by
 obtain⟨ps,rfl,hl,hp⟩:=Cb T.r h
 match ps,hl,hp with
 |[p0,p1,p2,p3,p4,p5],_,hp=>
  obtain⟨n,rfl,hn⟩:=aam T.s (hp 0 _ p0 rfl rfl)
  obtain⟨g,rfl,_⟩:=aal T (hp 1 _ p1 rfl rfl)
  obtain⟨b,rfl,_⟩:=rm T.i (hp 2 _ p2 rfl rfl)
  obtain⟨c,rfl,_⟩:=rm T.i (hp 3 _ p3 rfl rfl)
  obtain⟨x,rfl,hx,BA⟩:=asN T (hp 4 _ p4 rfl rfl)
  obtain⟨e,rfl,_⟩:=rm T.i (hp 5 _ p5 rfl rfl)
  exact⟨⟨n,g.1,g.2,b,c,x,e⟩,rfl,hx,xu hn,BA⟩
theorem asT (T:xY P ti ts tg tW lQ ta vy tr vA tw) {bO:List AV} (h:ef P (d+6) tw bO):∃w:W,AV.agg bO=w.v∧w.Ok∧w.Hb:=by
 obtain⟨ps,rfl,hl,hp⟩:=Cb T.w h
 match ps,hl,hp with
 | [p0, p1, p2], _, hp =>
  obtain⟨n,rfl,_⟩:=rm T.i (hp 0 _ p0 rfl rfl)
  obtain⟨o1,r1,rfl,Bs,pk,gH⟩:=Cc T.sa (hp 1 _ p1 rfl rfl)
  obtain⟨o2,r2,rfl,y5,pn,gI⟩:=Cc T.sr (hp 2 _ p2 rfl rfl)
  obtain⟨as,rfl,has⟩:=B6 (fun r hr=>asM T (gH r hr))
  obtain⟨rs,rfl,fl⟩:=B6 (fun r hr=>asQ T (gI r hr))
  rw[bE]at pk pn
  rw[T.ac,T.rc]
  refine⟨⟨n,⟨o1,3,as⟩,⟨o2,7,rs⟩⟩,rfl,⟨?_,fun a ha=>(has a ha).1,?_,fun r hr=>(fl r hr).1⟩,⟨xu pk,xu pn,fun a ha=>(has a ha).2.1,fun a ha=>(has a ha).2.2,fun r hr=>(fl r hr).2.1,fun r hr=>(fl r hr).2.2⟩⟩
  ·rcases Bs with rfl|⟨rfl,h⟩
   ·exact⟨.inr rfl,.inl rfl⟩
   ·exact⟨.inr rfl,.inr (.inr ⟨rfl,Hp.1 (by assumption)⟩)⟩
  ·rcases y5 with rfl|⟨rfl,h⟩
   ·exact⟨.inr rfl,.inl rfl⟩
   ·exact⟨.inr rfl,.inr (.inr ⟨rfl,Hp.1 (by assumption)⟩)⟩
end
end Go.Ax.Sx.Sc
/-
  What a plan is among the values that an argument may read as.
-/
namespace Go.Ax.Sx.Sc
open Go.Ax
section
variable{P:Program} {d:Nat} {ti lQ tp vz:TypeId}
structure Cw (P:Program) (ti lQ tp vz:TypeId):Prop where
 i:P.underlying ti=some (.int .i64)
 ic:P.cellsOf ti=1
 is:P.underlying lQ=some (.slice ti)
 p:xO P tp [ti,ti,lQ]
 ps:P.underlying vz=some (.slice tp)
 pc:P.cellsOf tp=3
theorem asO (T:Cw P ti lQ tp vz) {bO:List AV} (h:ef P (d+2) lQ bO):∃x:Sl Int,bO=[x.v aD]∧x.ok 1∧(x.l.length:Int)<9223372036854775808:=by
 obtain⟨o,rows,rfl,ho,hlen,qR⟩:=Cc T.is h
 obtain⟨l,rfl,_⟩:=B6 (f:=aD) (g:=fun _=>True) (fun r hr=>by
  obtain⟨x,hx,_⟩:=rm T.i (qR r hr)
  exact⟨x,hx,trivial⟩)
 rw[bE]at hlen
 rw[T.ic]
 refine⟨⟨o,1,l⟩,rfl,?_,xu hlen⟩
 rcases ho with rfl|⟨rfl,h⟩
 ·exact⟨.inr rfl,.inl rfl⟩
 ·exact⟨.inr rfl,.inr (.inr ⟨rfl,Hp.1 (by assumption)⟩)⟩
theorem asP (T:Cw P ti lQ tp vz) {bO:List AV} (h:ef P (d+4) tp bO):∃p:Sc.P,bO=aj p∧(p.an.ok 1∧(p.an.l.length:Int)<9223372036854775808):=by
 obtain⟨ps,rfl,hl,hp⟩:=Cb T.p h
 match ps,hl,hp with
 |[p0,p1,p2],_,hp=>
  obtain⟨a,rfl,_⟩:=rm T.i (hp 0 _ p0 rfl rfl)
  obtain⟨b,rfl,_⟩:=rm T.i (hp 1 _ p1 rfl rfl)
  obtain⟨x,rfl,hx,BA⟩:=asO T (hp 2 _ p2 rfl rfl)
  exact⟨⟨a,b,x⟩,rfl,hx,BA⟩
theorem Ra (T:Cw P ti lQ tp vz) {bO:List AV} (h:ef P (d+5) vz bO):∃(l:List Sc.P) (o:Own) (e:Nat),bO=[.slice o e (l.map aj)]∧e=3∧zV l:=by
 obtain⟨o,rows,rfl,ho,hlen,qR⟩:=Cc T.ps h
 obtain⟨l,rfl,hr⟩:=B6 (fun r hr=>asP T (qR r hr))
 rw[bE]at hlen
 rw[T.pc]
 exact⟨l,o,3,rfl,rfl,⟨xu hlen,fun p hp=>(hr p hp).1,fun p hp=>(hr p hp).2⟩⟩
theorem avZ (T:Cw P ti lQ tp vz) {tpp:TypeId} (hf:xO P tpp [vz,vz]) {bO:List AV} (h:ef P (d+6) tpp bO):
  ∃(a b:List Sc.P) (o1 o2:Own),AV.agg bO=.agg [.slice o1 3 (a.map aj),.slice o2 3 (b.map aj)]∧zV a∧zV b:=by
 obtain⟨ps,rfl,hl,hp⟩:=Cb hf h
 match ps,hl,hp with
 |[p0,p1],_,hp=>
  obtain⟨a,o1,e1,rfl,rfl,ha⟩:=Ra T (hp 0 _ p0 rfl rfl)
  obtain⟨b,o2,e2,rfl,rfl,hb⟩:=Ra T (hp 1 _ p1 rfl rfl)
  exact⟨a,b,o1,o2,rfl,ha,hb⟩
end
end Go.Ax.Sx.Sc
