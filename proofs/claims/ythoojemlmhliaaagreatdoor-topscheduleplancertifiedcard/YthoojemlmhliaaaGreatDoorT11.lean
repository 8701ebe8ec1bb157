/-
  What a week is among the values that an argument may read as.
-/
import Derived.Test.YthoojemlmhliaaaGreatDoorT10
import Derived.Test.YthoojemlmhliaaaGreatDoorT9
import Derived.Test.YthoojemlmhliaaaGreatDoorT8
import Derived.Test.YthoojemlmhliaaaGreatDoorT5
set_option linter.unusedSimpArgs false
set_option linter.unusedVariables false
set_option maxRecDepth 100000
namespace Go.Ax.Sx.Sc
open Go.Ax
structure RB (r:R):Prop where
 v0:0≤r.val
 v1:r.val≤100000
 u0:0≤oY r
 u1:oY r≤1200
 l0:0≤r.len
 l1:r.len≤200
 an:r.an.ok 1
def sj (a:Int) (r:R):Int:=max 0 (r.val-a*oY r)
def ot (S a:Int) (l:List R):Int:=l.foldl (fun t r=>t+sj a r) (a*S)
theorem ad9 {S a:Int} {l:List R} {r:R}:ot S a (l++[r])=ot S a l+sj a r:=by simp[ot]
theorem MO {a b m n:Int} (h0:0≤a) (h1:a≤m) (h2:0≤b) (h3:b≤n) (hm:0≤m):0≤a*b∧a*b≤m*n:=⟨Int.mul_nonneg h0 h2,Ui h1 h3 h2 hm⟩
theorem YA {a:Int} {r:R} (hr:RB r) (h0:0≤a):0≤sj a r∧sj a r≤100000:=by
 have h1:=hr.v1
 have h2:=Int.mul_nonneg h0 hr.u0
 unfold sj;omega
section
variable{s:ae} {w:W} {p:List (Sl Int)}
theorem ayw {S a:Int} (h0:0≤a) (h1:a≤100000) (LG:0≤S) (LH:S≤800) {l:List R} (hr:∀r∈l,RB r):0≤ot S a l∧ot S a l≤80000000+l.length*100000:=by
 have hb:=MO h0 h1 LG LH (by omega)
 have key:∀(l:List R) (t:Int),(∀r∈l,RB r)→0≤t→0≤l.foldl (fun t r=>t+sj a r) t∧l.foldl (fun t r=>t+sj a r) t≤t+l.length*100000:=by
  intro l
  induction l with
  |nil=>intro t _ h;simp[h]
  |cons r q ih=>
   intro t hq ht
   have hg:=YA (hq r (by simp)) h0
   have:=ih (t+sj a r) (fun x hx=>hq x (cD _ hx)) (by omega)
   simp only[ma,cH]
   omega
 have:=key l (a*S) hr hb.1
 unfold ot
 omega
theorem ac1 {l:List R} {o:Own} {e d b1 b2:Nat} {S a:Int} (hs:Ok s) (ik:s.box d b1=some [I S]) (iB:s.box d b2=some [.slice o e (l.map aS)]) (he:l=[]∨e=7) (hl:l.length≤12) (hr:∀r∈l,RB r)
  (LG:0≤S) (LH:S≤800) (h0:0≤a) (h1:a≤100000):aw AP (.fn 44) [I a,.ptr d b1 0,.ptr d b2 0] s=some (I (ot S a l),s):=by
 have al1:∀r,(s.push r).box d b1=some [I S]:=fun r=>eA ik r
 have al2:∀r,(s.push r).box d b2=some [.slice o e (l.map aS)]:=fun r=>eA iB r
 have hb:=MO h0 h1 LG LH (by omega)
 have vN:IntKind.i64.wrap (a*S)=a*S:=bq (by omega) (by omega)
 have key:∀(k:Nat) ρ m,k≤l.length→(ρ 0=I a∧ρ 5=I (ot S a (l.take k))∧ρ 11=.slice o e (l.map aS)∧ρ 12=I l.length∧ρ 13=I k∧∃jk,m=s.push ⟨jk,[]⟩)→go AP ajc (.c (.loop J9)::arn) ⟨ρ,m⟩=some (I (ot S a l),s):=by
  refine bA l.length _ (fun _=>some (I (ot S a l),s)) ?_ ?_
  ·rintro k ρ m hk ⟨g0,g5,g11,g12,g13,jk,rfl⟩ ih
   obtain⟨r,im⟩:=get_some hk
   have uk:=hr r (bE im)
   have cS:e=7:=by rcases he with h|h;(rw[h]at im;simp at im);exact h
   subst cS
   have bf:=cz (f:=aS) (o:=o) (es:=7) im
   have v0:=uk.v0
   have v1:=uk.v1
   have m1:=MO h0 h1 uk.l0 uk.l1 (by omega)
   have m2:=MO h0 h1 uk.u0 uk.u1 (by omega)
   have w1:IntKind.i64.wrap (a*r.len)=a*r.len:=bq (by omega) (by omega)
   have L6:a*r.len*r.need=a*oY r:=by unfold oY;rw[Int.mul_assoc]
   have w2:IntKind.i64.wrap (a*r.len*r.need)=a*oY r:=by rw[L6];exact bq (by omega) (by omega)
   have w3:IntKind.i64.wrap (r.val-a*oY r)=r.val-a*oY r:=bq (by omega) (by omega)
   have hg:max 0 (r.val-a*oY r)=sj a r:=rfl
   have gb:=YA uk h0
   have tb:=ayw h0 h1 LG LH (l:=l.take k) fun x hx=>hr x (oB hx)
   have aU:(l.take k).length≤12:=by rw[ez];omega
   have w4:IntKind.i64.wrap (ot S a (l.take k)+sj a r)=ot S a (l.take (k+1)):=by rw[du im,ad9];exact bq (by omega) (by omega)
   simp only[aS,Sl.v]at bf
   simp only[go_sem,J9,g0,g5,g11,g12,g13,hs,aL hk,bf,w1,w2,w3,abn,hg,w4,bh hk (show(l.length:Int)<_ by omega),simprocAttr]
   refine ih _ _ ?_
   exact⟨g0,rfl,g11,g12,rfl,_,rfl⟩
  ·rintro ρ m ⟨g0,g5,g11,g12,g13,jk,rfl⟩
   rw[er]at g5
   simp only[go_sem,J9,Pc,g5,g12,g13,bg,simprocAttr]
 rw[aG (show AP 44=some FF from rfl) rfl]
 simp only[go_sem,V1,al1,al2,vN,simprocAttr]
 refine key 0 _ _ (aV _) ?_
 exact⟨rfl,rfl,rfl,rfl,rfl,_,rfl⟩
abbrev yw (ρ:Nat→AV):da:=⟨true,none,ρ,[49],yE,yG⟩
theorem afb {X T:Rec→ae} {l d:Nat} {ρ:Nat→AV} {tk:List (Option Nat)} {pre:List (List AV)} {r:R} {x:P} {xs:List (List AV)} {v:AV} {og:Option Nat} (hM:fu X d) (hX:∀r,busy l (T r)=X r) (hR:∀r,kS l (yw ρ) (T r)) (bz:∀r,Ok (T r))
  (hr:r.an.ok 1) (jJ:pre[2]? =some [v]) (hA:Acc d 7 xs v og tk) (qA:xs.length≤100) (h9:ρ 9=.ptr d 2 0) (dh:ρ 11=.ptr d pre.length 0):
  ∃v' bQ tk',aw AP (.yield l) [.agg (aq x)] (T ⟨pre++[aS r],tk⟩)=some (.v (.bool false),over l (.exit 4) (T ⟨(pre++[aS r]).set 2 [v'],tk'⟩))∧Acc d 7 (xs++[aS r]) v' bQ tk':=by
 have xV:∀r,Ok (X r):=fun r=>by rw[←hX];exact(bz r).busy
 have hfx:∀r ρ' q,jC l (.exit 4) ⟨ρ',(X r).push q⟩=some (.v (.bool false),over l (.exit 4) (T r)):=fun r ρ' q=>by rw[←hX];exact Yl
 have SG:2<pre.length:=(bI.1 jJ).1
 have iB:(pre++[aS r])[2]? =some [v]:=by rw[dG SG];exact jJ
 have k2:∀q,((X ⟨pre++[aS r],tk⟩).push q).box d 2=some [v]:=fun q=>by rw[hM.box];exact iB
 have k3:∀q,((X ⟨pre++[aS r],tk⟩).push q).box d pre.length=some (aS r):=fun q=>by rw[hM.box];exact at_len
 have aQ:closeAll (aS r)=some (aS r):=by
  simp only[aS,ie,jW,nC,vf,Sl.close hr];rfl
 obtain⟨x1,m1,Dh,v',bQ,tk',a1,a2,a3,a4,a5,a6⟩:=hM.append (r:=⟨pre++[aS r],tk⟩) (r0:=⟨[],[]⟩) hA .full (ys:=[aS r]) (by simp) (by simp;omega) (b:=2) (by simp;omega) ⟨v,iB⟩
 refine⟨v',bQ,tk',?_,a4⟩
 rw[BF (hR _) rfl]
 simp only[aS,Sl.v]at*
 simp only[go_sem,yE,xv (hR _),wj,simprocAttr]
 simp only[go_sem,yG,hX,h9,dh,k2,k3,aQ,a1,a2,hfx,simprocAttr]
abbrev Ji (s:ae) (ρ:Nat→AV) (i:Bool×Rec):ae:=enterLoop (s.push i.2) ⟨!i.1,if i.1=true then some (.exit 4)else none,ρ,[49],yE,yG⟩
theorem ae9 {ρ:Nat→AV} {tk:List (Option Nat)} {pre:List (List AV)} {r:R} {xs:List (List AV)} {v:AV} {og:Option Nat} (hs:Ok s) (hr:r.an.ok 1) (jJ:pre[2]? =some [v]) (hA:Acc s.ag.length 7 xs v og tk) (qA:xs.length≤100) (h9:ρ 9=.ptr s.ag.length 2 0) (dh:ρ 11=.ptr s.ag.length pre.length 0):
  Hand AP s.loops.length (fun x:P=>.agg (aq x)) (Ji s ρ) (fun _ i=>i=(false,⟨pre++[aS r],tk⟩)) (fun _ _=>true) (fun _ _ i=>∃v' bQ tk',i=(true,⟨(pre++[aS r]).set 2 [v'],tk'⟩)∧Acc s.ag.length 7 (xs++[aS r]) v' bQ tk')
   (fun _=>True) (s.ag.length+1) (s.loops.length+1) 100000:=by
 refine⟨fun i=>(hs.push _).enter,fun i=>by simp[Ji,enterLoop,ae.push],fun i=>by simp[Ji,enterLoop,ae.push],fun _ _ _ _ _ _ _ _ h=>(by cases h),?_⟩
 rintro done x i B ls _ rfl _ _
 have hM:fu (fun r=>up (busy s.loops.length (enterLoop (s.push r) (yw ρ))) B ls) s.ag.length:=H8 hs
 have hX:∀r,busy s.loops.length (up (enterLoop (s.push r) (yw ρ)) B ls)=(fun r=>up (busy s.loops.length (enterLoop (s.push r) (yw ρ))) B ls) r:=fun r=>IK (by simp[enterLoop,ae.push])
 obtain⟨v',bQ,tk',h,lJ⟩:=afb (T:=fun r=>up (enterLoop (s.push r) (yw ρ)) B ls) (x:=x) hM hX (fun r=>IL (GK (hs.push r))) (fun r=>((hs.push _).enter).up) hr jJ hA qA h9 dh
 refine⟨(true,⟨(pre++[aS r]).set 2 [v'],tk'⟩),?_,v',bQ,tk',rfl,lJ⟩
 refine h.trans ?_
 have vG:over s.loops.length (.exit 4) (up (enterLoop (s.push ⟨(pre++[aS r]).set 2 [v'],tk'⟩) (yw ρ)) B ls)=up (Ji s ρ (true,⟨(pre++[aS r]).set 2 [v'],tk'⟩)) B ls:=by
  rw[aee (by simp[enterLoop,ae.push])]
  congr 1
  exact ab3 (m:=s.push _)
 rw[vG]
theorem afa {F:c8→St→Option (AV×ae)} {ks:List K} {ρ:Nat→AV} {tk:List (Option Nat)} {pre:List (List AV)} {r:R} {xs:List (List AV)} {v:AV} {og:Option Nat} {i:Nat} (hs:Ok s) (hw:Wk w) (hi:i<w.rs.l.length) (hr:r.an.ok 1) (jJ:pre[2]? =some [v]) (hA:Acc s.ag.length 7 xs v og tk) (qA:xs.length≤100)
  (h9:ρ 9=.ptr s.ag.length 2 0) (dh:ρ 11=.ptr s.ag.length pre.length 0) (h48:ρ 48=.fn 74 [] [.bd [OW w] 0,.bd [I (i:Int)] 0]):
  ∃v' bQ tk',go AP F (.c (.rangeFunc (.tmp 48) [49] yE yG)::.blk 4::ks) ⟨ρ,s.push ⟨pre++[aS r],tk⟩⟩=go AP F ks ⟨ρ,s.push ⟨(pre++[aS r]).set 2 [v'],tk'⟩⟩∧Acc s.ag.length 7 (if(ct w i).isEmpty=true then xs else xs++[aS r]) v' bQ tk':=by
 obtain⟨b,i',hc,hE⟩:=M1 (ae9 hs hr jJ hA qA h9 dh) hw (req:=(i:Int)) (by omega) (by omega) (i:=(false,⟨pre++[aS r],tk⟩)) (done:=[]) (by have:=z7 hw (i:=(i:Int)) (by omega) (by omega);simp;omega) rfl (fun _ _=>trivial)
 have iB:(pre++[aS r])[2]? =some [v]:=by rw[dG (bI.1 jJ).1];exact jJ
 rw[B7 (x:=.tmp 48) h48]
 cases hq:ct w (i:Int)with
 |nil=>
  rw[hq]at hE
  obtain⟨_,rfl⟩:=hE
  refine⟨v,og,tk,?_,by simpa using hA⟩
  rw[Ae iB]
  refine(gX (Option.bind · _) hc).trans ?_
  simp only[dI]
  refine(B6 (m:=s.push ⟨pre++[aS r],tk⟩) (lp:=yw ρ) rfl rfl rfl).trans ?_
  simp only[go_sem,simprocAttr]
 |cons x q=>
  rw[hq]at hE
  simp only[Ends,cI]at hE
  obtain⟨_,v',bQ,tk',rfl,lJ⟩:=hE
  refine⟨v',bQ,tk',?_,by simpa using lJ⟩
  refine(gX (Option.bind · _) hc).trans ?_
  simp only[dI]
  refine(akq (m:=s.push ⟨(pre++[aS r]).set 2 [v'],tk'⟩) (lp:=⟨false,some (.exit 4),ρ,[49],yE,yG⟩) rfl rfl).trans ?_
  simp only[go_sem,simprocAttr]
def kg (w:W):Nat→List R
 |0=>[]
 |k+1=>if(ct w (k:Nat)).isEmpty=true then kg w k else kg w k++[w.rq (k:Nat)]
theorem Oc:∀{k:Nat},(kg w k).length≤k
 |0=>aI _
 |k+1=>by
  have:=Oc (k:=k)
  simp only[kg]
  split
  ·omega
  ·rw[cG];simp;omega
theorem Ob (hw:Wk w):∀{k:Nat},k≤w.rs.l.length→∀r∈kg w k,RB r
 |0,_,r,hr=>by simp[kg]at hr
 | k + 1, hk, r, hr => by
  simp only[kg]at hr
  split at hr
  ·exact Ob hw (by omega) r hr
  ·rcases dR.1 hr with hr|hr
   ·exact Ob hw (by omega) r hr
   ·rw[fS.1 hr]
    obtain⟨u1,u2,u3,u4,u5,u6⟩:=ayG hw (i:=((k:Nat):Int)) (by omega) (by omega)
    have hq:=hw.rq (i:=((k:Nat):Int)) (by omega) (by omega)
    exact⟨hq.uF,hq.tc,by omega,u2,by omega,u4,hw.ok.an _ (W.oe (by omega) (by omega))⟩
def ia (w:W):Nat→Int
 |0=>0
 |a+1=>ia w a+(((List.range w.bm.toNat).countP fun t=>!bY w.as.l a t:Nat):Int)
theorem MW (hw:Wk w):∀{k:Nat},0≤ia w k∧ia w k≤k*200
 |0=>by simp[ia]
 |k+1=>by
  have ih:=MW hw (k:=k)
  have dK:=hw.v.n2
  have:=List.countP_le_length (p:=fun t=>!bY w.as.l k t) (l:=List.range w.bm.toNat)
  rw[tq]at this
  simp only[ia]
  omega
def lD (w:W) (a:Int):Int:=ot (ia w w.as.l.length) a (kg w w.rs.l.length)
def jQ (f:Int→Int):Nat→Int×Int
 |0=>(0,f 0)
 |n+1=>if f n<(jQ f n).2 then((n:Int),f n)else jQ f n
end
section
variable{s:ae} {w:W} {p:List (Sl Int)}
theorem Acc.form {d es:Nat} {α:Type} {f:α→List AV} {l:List α} {x:AV} {og:Option Nat} {tk:List (Option Nat)} (h:Acc d es (l.map f) x og tk):∃o e,x=.slice o e (l.map f)∧(l=[]∨e=es):=by
 cases og with
 |none=>
  obtain⟨h1,rfl⟩:=h
  have:l=[]:=by simpa using h1
  subst this
  exact⟨.aA,0,rfl,.inl rfl⟩
 |some g=>exact⟨_,es,h.2.1,.inr rfl⟩
def gM (w:W):Int×Int:=jQ (lD w) 100001
theorem aw9 (hs:Ok s) (hw:w.Ok) (hf:w.jT):aw AP (.fn 13) [w.v] s=some (.tuple [bB 1 ((if(cM w).2.2=0 then eU w (gM w).1 else[]).map cL),I (if(cM w).2.2=0 then(gM w).2 else 0),I (cM w).2.2],s):=by
 by_cases hz:(cM w).2.2=0
 ·have aY:Wk w:=⟨hw,hf,pR hz⟩
  have ho:∀r,aw AP (.fn 32) [w.v] (s.push r)=some (.tuple [OW w,I 0],s.push r):=fun r=>Iq (hs.push r) hw hf hz
  have fC:=aY.v.al
  have fV:=aY.v.rl
  have oL:=aY.v.n1
  have dK:=aY.v.n2
  obtain⟨N,hN⟩:∃N:Nat,w.bm=N:=⟨w.bm.toNat,by omega⟩
  have LD:w.bm.toNat=N:=by omega
  have bU:=MW aY (k:=w.as.l.length)
  have aAT:=Oc (w:=w) (k:=w.rs.l.length)
  have Y1:=Ob aY (aI w.rs.l.length)
  rw[aj hz,aj hz,hz]
  obtain⟨r5,Y2⟩:∃r5,r5=some (AV.tuple [bB 1 ((eU w (gM w).1).map cL),I (gM w).2,I 0],s):=⟨_,rfl⟩
  rw[←Y2]
  have k0:∀(k:Nat) ρ m,k≤w.as.l.length→(ρ 1=.ptr s.ag.length 0 0∧ρ 13=I (gM w).1∧ρ 14=I (gM w).2∧ρ 72=I w.as.l.length∧ρ 73=I k∧∃og jk tk,Acc s.ag.length 1 ((List.replicate k (ll N (gM w).1)).map cL) (ρ 17) og tk∧m=s.push ⟨aW w::jk,tk⟩)→
    go AP BS (.c (.loop Ka)::ark) ⟨ρ,m⟩=r5:=by
   refine bA w.as.l.length _ (fun _=>r5) ?_ ?_
   ·rintro k ρ m hk ⟨g1,g13,g14,Lt,QP,og,jk,tk,hA,rfl⟩ ih
    obtain⟨x,hx⟩:∃x,x=ρ 17:=⟨_,rfl⟩
    rw[←hx]at hA
    obtain⟨x',bQ,tk',ha,lJ,_⟩:=hA.append hs .full (ys:=[cL (ll N (gM w).1)]) (by simp) (by simp;omega)
    obtain⟨o1,e1,r1,rC⟩:=Acc.sl hA
    have ZW:∀r,aw AP (.fn 45) [.slice .full 1 [[I (gM w).1]],I (N:Int)] (s.push r)=some ((ll N (gM w).1).v aC,s.push r):=fun r=>azp (hs.push r) (by omega) (by omega)
    have fL:(List.replicate (k+1) (ll N (gM w).1)).map cL=(List.replicate k (ll N (gM w).1)).map cL++[cL (ll N (gM w).1)]:=by rw[UI,fH];rfl
    simp only[ll,cL,Sl.v]at ha ZW
    subst rC
    simp only[go_sem,Ka,g1,g13,Lt,QP,←hx,hN,aL hk,ZW,ha,bh hk (show(w.as.l.length:Int)<_ by omega),simprocAttr]
    refine ih _ _ ?_
    refine⟨g1,g13,g14,Lt,rfl,bQ,jk,tk',?_,?_⟩
    ·rw[fL];exact lJ
    ·simp only[aW,Sl.v,hN]
   ·rintro ρ m ⟨g1,g13,g14,Lt,QP,og,jk,tk,hA,rfl⟩
    have dc:=fun q:ae=>hA.leave q
    obtain⟨o1,e1,r1,rC⟩:=Acc.sl hA
    rw[rC]at dc
    have Mm:eU w (gM w).1=List.replicate w.as.l.length (ll N (gM w).1):=by unfold eU;rw[LD]
    rw[←Mm]at dc
    rw[Y2]
    generalize bB 1 ((eU w (gM w).1).map cL)=Z at*
    simp only[go_sem,Ka,Pd,g14,Lt,QP,rC,bg,dc,simprocAttr]
  have k1:∀(v:AV) (jk:List (List AV)) (tk:List (Option Nat)) (o:Own) (e:Nat),v=.slice o e ((kg w w.rs.l.length).map aS)→((kg w w.rs.l.length)=[]∨e=7)→
    ∀(k:Nat) ρ m,k≤100001→(ρ 1=.ptr s.ag.length 0 0∧ρ 12=.fn 44 [] [.ptr s.ag.length 1 0,.ptr s.ag.length 2 0]∧ρ 13=I (jQ (lD w) k).1∧ρ 14=I (jQ (lD w) k).2∧ρ 58=I k∧m=s.push ⟨aW w::[I (ia w w.as.l.length)]::[v]::jk,tk⟩)→
    go AP BS (.c (.loop Eu)::arl) ⟨ρ,m⟩=r5:=by
   intro v jk tk o e hv he
   refine bA 100001 _ (fun _=>r5) ?_ ?_
   ·rintro k ρ m hk ⟨g1,g12,g13,g14,Ls,rfl⟩ ih
    have aQ:∀q:List (List AV),aw AP (.fn 44) [I (k:Int),.ptr s.ag.length 1 0,.ptr s.ag.length 2 0] (s.push ⟨aW w::[I (ia w w.as.l.length)]::[v]::q,tk⟩)=some (I (lD w k),s.push ⟨aW w::[I (ia w w.as.l.length)]::[v]::q,tk⟩):=fun q=>
     ac1 (hs.push _) (by rw[ib];rfl) (by rw[ib,hv];rfl) he (by omega) Y1 bU.1 (by omega) (by omega) (by omega)
    have aB:decide ((k:Int)<100001)=true:=by simp;omega
    have kF:IntKind.i64.wrap ((k:Int)+1)=((k+1:Nat):Int):=by rw[bq (by omega) (by omega)];omega
    simp only[aW,Sl.v]at aQ
    cases hd:decide (lD w k<(jQ (lD w) k).2)with
    |true=>
     have bu:jQ (lD w) (k+1)=((k:Int),lD w k):=by simp only[jQ];rw[aj (by simpa using hd)]
     simp only[go_sem,Eu,g12,g14,Ls,aB,aQ,hd,kF,simprocAttr]
     refine ih _ _ ?_
     exact⟨g1,g12,by rw[bu];rfl,by rw[bu];rfl,rfl,rfl⟩
    |false=>
     have bu:jQ (lD w) (k+1)=jQ (lD w) k:=by simp only[jQ];rw[ak (by simpa using hd)]
     simp only[go_sem,Eu,g12,g14,Ls,aB,aQ,hd,kF,simprocAttr]
     refine ih _ _ ?_
     exact⟨g1,g12,by rw[bu];exact g13,by rw[bu];exact g14,rfl,rfl⟩
   ·rintro ρ m ⟨g1,g12,g13,g14,Ls,rfl⟩
    have aB:decide (((100001:Nat):Int)<100001)=false:=by decide
    simp only[go_sem,Eu,Pe,g1,Ls,fY,simprocAttr]
    refine k0 0 _ _ (aV _) ?_
    exact⟨g1,g13,g14,rfl,rfl,none,_,tk,Acc.start,rfl⟩
  have k2:∀(k:Nat) ρ m,k≤w.rs.l.length→(ρ 1=.ptr s.ag.length 0 0∧ρ 5=OW w∧ρ 7=.ptr s.ag.length 1 0∧ρ 9=.ptr s.ag.length 2 0∧ρ 39=w.rs.v aS∧ρ 40=I w.rs.l.length∧ρ 41=I k∧
    ∃v og jk tk,Acc s.ag.length 7 ((kg w k).map aS) v og tk∧m=s.push ⟨aW w::[I (ia w w.as.l.length)]::[v]::jk,tk⟩)→go AP BS (.c (.loop yF)::SA) ⟨ρ,m⟩=r5:=by
   refine bA w.rs.l.length _ (fun _=>r5) ?_ ?_
   ·rintro k ρ m hk ⟨g1,g5,g7,g9,Lp,Lq,Lr,v,og,jk,tk,hA,rfl⟩ ih
    have eD:=oQ aY (i:=((k:Nat):Int)) (by omega) (by omega)
    have bO:=hw.an _ (W.oe (w:=w) (i:=((k:Nat):Int)) (by omega) (by omega))
    have gn:∀r,aw AP (.fn 41) [OW w,I (k:Int)] (s.push r)=some (.fn 74 [] [.bd [OW w] 0,.bd [I (k:Int)] 0],s.push r):=fun r=>Nw (hs.push r)
    have zu:=Oc (w:=w) (k:=k)
    have rg:∀ρ1:Nat→AV,ρ1 1=.ptr s.ag.length 0 0→ρ1 5=OW w→ρ1 7=.ptr s.ag.length 1 0→ρ1 9=.ptr s.ag.length 2 0→ρ1 11=.ptr s.ag.length (aW w::[I (ia w w.as.l.length)]::[v]::jk).length 0→ρ1 39=w.rs.v aS→ρ1 40=I w.rs.l.length→ρ1 41=I k→ρ1 48=.fn 74 [] [.bd [OW w] 0,.bd [I (k:Int)] 0]→
      go AP BS (.c (.rangeFunc (.tmp 48) [49] yE yG)::.blk 4::.blk 3::.c Ev::.lp yF::SA) ⟨ρ1,s.push ⟨(aW w::[I (ia w w.as.l.length)]::[v]::jk)++[aS (w.rq k)],tk⟩⟩=r5:=by
     intro ρ1 q1 q5 q7 q9 q11 q39 q40 q41 q48
     obtain⟨v',bQ,tk',vB,lJ⟩:=afa (F:=BS) (ks:=.blk 3::.c Ev::.lp yF::SA) (pre:=aW w::[I (ia w w.as.l.length)]::[v]::jk) (r:=w.rq k) (v:=v) hs aY hk bO rfl hA (by simp;omega) q9 q11 q48
     rw[vB]
     simp only[go_sem,Ev,q41,bh hk (show(w.rs.l.length:Int)<_ by omega),simprocAttr]
     refine ih _ _ ?_
     refine⟨q1,q5,q7,q9,q39,q40,rfl,v',bQ,jk++[aS (w.rq k)],tk',?_,rfl⟩
     have bu:(kg w (k+1)).map aS=if(ct w k).isEmpty=true then(kg w k).map aS else(kg w k).map aS++[aS (w.rq k)]:=by
      simp only[kg];split<;>simp
     rw[bu];exact lJ
    simp only[aS,Sl.v,OW,aW]at eD gn g5 Lp rg
    simp only[go_sem,yF,g5,Lp,Lq,Lr,hs,aL hk,eD,gn,simprocAttr]
    refine rg _ ?_ ?_ ?_ ?_ ?_ ?_ ?_ ?_ ?_
    ·exact g1
    ·exact g5
    ·exact g7
    ·exact g9
    ·rfl
    ·exact Lp
    ·exact Lq
    ·exact Lr
    ·rfl
   ·rintro ρ m ⟨g1,g5,g7,g9,Lp,Lq,Lr,v,og,jk,tk,hA,rfl⟩
    obtain⟨o,e,hv,he⟩:=Acc.form hA
    have aQ:∀q:List (List AV),aw AP (.fn 44) [I 0,.ptr s.ag.length 1 0,.ptr s.ag.length 2 0] (s.push ⟨aW w::[I (ia w w.as.l.length)]::[v]::q,tk⟩)=some (I (lD w 0),s.push ⟨aW w::[I (ia w w.as.l.length)]::[v]::q,tk⟩):=fun q=>
     ac1 (hs.push _) (by rw[ib];rfl) (by rw[ib,hv];rfl) he (by omega) Y1 bU.1 (by omega) (by omega) (by omega)
    simp only[aW,Sl.v]at aQ
    simp only[go_sem,yF,Kc,g7,g9,Lq,Lr,bg,aQ,simprocAttr]
    refine k1 v jk tk o e hv he 0 _ _ (aV _) ?_
    exact⟨g1,rfl,rfl,rfl,rfl,rfl⟩
  have k4:∀(k:Nat) ρ m,k≤w.as.l.length→(ρ 1=.ptr s.ag.length 0 0∧ρ 5=OW w∧ρ 7=.ptr s.ag.length 1 0∧ρ 28=I w.as.l.length∧ρ 29=I k∧m=s.push ⟨[aW w,[I (ia w k)]],[]⟩)→go AP BS (.c (.loop Kb)::aro) ⟨ρ,m⟩=r5:=by
   refine bA w.as.l.length _ (fun _=>r5) ?_ ?_
   ·rintro k ρ m hk ⟨g1,g5,g7,Ln,QM,rfl⟩ ih
    have CI:∀q:ae,aw AP (.fn 43) [OW w,I (k:Int)] (dP q)=some (I (((List.range w.bm.toNat).countP fun t=>!bY w.as.l k t:Nat):Int),dP q):=fun q=>by
     rw[ayV aY (by omega) (by omega),pT]
    have hb:=MW aY (k:=k)
    have ik:=MW aY (k:=k+1)
    have bu:ia w (k+1)=ia w k+(((List.range w.bm.toNat).countP fun t=>!bY w.as.l k t:Nat):Int):=rfl
    have eK:IntKind.i64.wrap (ia w k+(((List.range w.bm.toNat).countP fun t=>!bY w.as.l k t:Nat):Int))=ia w (k+1):=by rw[bu];exact bq (by omega) (by omega)
    simp only[OW]at CI g5
    simp only[go_sem,Kb,g5,g7,Ln,QM,hs,aL hk,CI,eK,bh hk (show(w.as.l.length:Int)<_ by omega),simprocAttr]
    refine ih _ _ ?_
    exact⟨g1,g5,g7,Ln,rfl,rfl⟩
   ·rintro ρ m ⟨g1,g5,g7,Ln,QM,rfl⟩
    simp only[go_sem,Kb,Pf,g1,Ln,QM,bg,simprocAttr]
    refine k2 0 _ _ (aV _) ?_
    exact⟨g1,g5,g7,rfl,rfl,rfl,rfl,_,none,[],[],Acc.start,rfl⟩
  have YT:decide ((0:Int)≠0)=false:=rfl
  simp only[W.v,aW,Sl.v]at ho
  rw[aG (show AP 13=some Bn from rfl) rfl]
  simp only[go_sem,Pb,hs,ho,simprocAttr]
  refine k4 0 _ _ (aV _) ?_
  exact⟨rfl,rfl,rfl,rfl,rfl,rfl⟩
 ·have ho:∀r,aw AP (.fn 32) [w.v] (s.push r)=some (.tuple [NP,I (cM w).2.2],s.push r):=fun r=>Ir (hs.push r) hw hf hz
  rw[ak hz,ak hz]
  simp only[W.v,aW,Sl.v]at ho
  rw[aG (show AP 13=some Bn from rfl) rfl]
  simp only[go_sem,Pb,ho,hz,bV,j3,simprocAttr]
  rfl
end
section
variable{s:ae} {w:W} {p:List (Sl Int)}
theorem acv {c:Int} {a t:Nat} (ha:a<w.as.l.length) (ht:t<w.bm.toNat):dz (eU w c) a t=c:=by
 have h1:(eU w c)[a]? =some (ll w.bm.toNat c):=by simp[eU,ha]
 simp only[dz,h1,ll]
 simp[ht]
theorem acQ {c:Int} {a:Nat} (ha:a<w.as.l.length):∀{k:Nat},k≤w.bm.toNat→kM w (eU w c) a k=c*(((List.range k).countP fun t=>!bY w.as.l a t:Nat):Int)
 |0,_=>by simp[kM,cO]
 |k+1,hk=>by
  have ih:=acQ (c:=c) ha (k:=k) (by omega)
  have e:kM w (eU w c) a (k+1)=kM w (eU w c) a k+(if bY w.as.l a k=true then 0 else dz (eU w c) a k):=rfl
  rw[e,ih,acv ha (by omega),DI,List.countP_append,List.countP_singleton]
  cases bY w.as.l a k with
  |true=>simp
  |false=>simp[IU]
theorem ad2 {c:Int}:∀{k:Nat},k≤w.as.l.length→jg w (eU w c) k=c*ia w k
 |0,_=>by simp[jg,cO,ia]
 |k+1,hk=>by
  have ih:=ad2 (c:=c) (k:=k) (by omega)
  have e:jg w (eU w c) (k+1)=jg w (eU w c) k+kM w (eU w c) k w.bm.toNat:=rfl
  rw[e,ih,acQ (by omega) (aI _)]
  simp only[ia,IU]
theorem adO {c:Int} {a st:Nat} (ha:a<w.as.l.length):∀{k:Nat},st+k≤w.bm.toNat→strip (eU w c) a st k=c*k
 |0,_=>by simp[strip,cO]
 |k+1,hk=>by
  have ih:=adO (c:=c) (st:=st) ha (k:=k) (by omega)
  have e:strip (eU w c) a st (k+1)=strip (eU w c) a st k+dz (eU w c) a (st+k):=rfl
  rw[e,ih,acv ha (by omega),Uk,IU]
  simp
theorem XA {c:Int} {st len:Nat} (h:st+len≤w.bm.toNat):∀{l:List Int},(∀a∈l,0≤a∧a<w.as.l.length)→gg (eU w c) st len l=c*(len*l.length)
 |[],_=>by simp[gg]
 |a::r,hl=>by
  have ih:=XA (c:=c) h (l:=r) fun b hb=>hl b (cD _ hb)
  have ha:=hl a (by simp)
  simp only[gg,cH]
  rw[ih,adO (by omega) h,←IU]
  congr 1
  rw[Uk,IU];simp;omega
theorem ayh (hw:Wk w) {c:Int} {i:Nat} (hi:i<w.rs.l.length) {x:P} (hx:x∈ct w i) {m:Int}:jf w (eU w c) i m x=max m ((w.rq i).val-c*oY (w.rq i)):=by
 have h0:(0:Int)≤i:=by omega
 have h1:(i:Int)<w.rs.l.length:=by omega
 obtain⟨q1,q2,q3,q4⟩:=To hw h0 h1 hx
 obtain⟨_,_,_,_,h5,_⟩:=jO hw h0 h1 hx
 have hl:=(hw.rq h0 h1).kJ
 have e:((w.rq i).len.toNat:Int)=(w.rq i).len:=by omega
 unfold jf
 rw[XA q1 q3,h5,e];rfl
theorem ayg (hw:Wk w) {c:Int} {i:Nat} (hi:i<w.rs.l.length):l6 w (eU w c) i (ct w i)=if(ct w i).isEmpty=true then 0 else sj c (w.rq i):=by
 have key:∀(l:List P) (m:Int),(∀x∈l,x∈ct w i)→l.foldl (jf w (eU w c) i) m=if l.isEmpty=true then m else max m ((w.rq i).val-c*oY (w.rq i)):=by
  intro l
  induction l with
  |nil=>intro m _;rfl
  |cons x r ih=>
   intro m hl
   rw[ma,ih _ fun y hy=>hl y (cD _ hy),ayh hw hi (hl x (by simp))]
   simp only[List.isEmpty_cons,ew,eu]
   split
   ·rfl
   ·omega
 exact key _ 0 fun x hx=>hx
theorem aea (hw:Wk w) {c:Int}:∀{k:Nat},k≤w.rs.l.length→ot (ia w w.as.l.length) c (kg w k)=c*ia w w.as.l.length+qJ w (eU w c) k
 |0,_=>by simp[kg,ot,qJ,cO]
 |k+1,hk=>by
  have ih:=aea hw (c:=c) (k:=k) (by omega)
  have e:qJ w (eU w c) (k+1)=qJ w (eU w c) k+l6 w (eU w c) k (ct w k):=rfl
  rw[e,ayg hw (by omega)]
  simp only[kg]
  split
  ·rw[ih];omega
  ·rw[ad9,ih];omega
theorem ayx (hw:Wk w) {c:Int}:T3 w c=lD w c:=by
 unfold T3 lD nx
 rw[aea hw (aI _),ad2 (aI _)]
theorem TG {f:Int→Int}:∀{n:Nat},0<n→(jQ f n).2=f (jQ f n).1∧0≤(jQ f n).1∧(jQ f n).1<n∧(∀q:Nat,q<n→(jQ f n).2≤f q)∧∀q:Int,0≤q→q<(jQ f n).1→(jQ f n).2<f q
 |0,h=>absurd h (wN _)
 | n + 1, _ => by
  by_cases hn:n=0
  ·subst hn
   have e:jQ f 1=(0,f 0):=by simp[jQ]
   rw[e]
   refine⟨rfl,by simp,by simp,fun q hq=>?_,fun q h0 h1=>by simp at h1;omega⟩
   obtain rfl:q=0:=by omega
   exact rU _
  ·obtain⟨a1,a2,a3,a4,a5⟩:=TG (f:=f) (n:=n) (by omega)
   simp only[jQ]
   by_cases h:f n<(jQ f n).2
   ·rw[aj h]
    refine⟨rfl,by simp,by simp;omega,fun q hq=>?_,fun q h0 h1=>?_⟩
    ·by_cases e:q=n
     ·subst e;exact rU _
     ·have:=a4 q (by omega);simp only;omega
    ·have:=a4 q.toNat (by simp only at h1;omega)
     rw[show((q.toNat:Nat):Int)=q by omega]at this
     simp only;omega
   ·rw[ak h]
    refine⟨a1,a2,by omega,fun q hq=>?_,a5⟩
    by_cases e:q=n
    ·subst e;omega
    ·exact a4 q (by omega)
theorem WW:0≤(gM w).1∧(gM w).1≤100000:=by
 obtain⟨_,a2,a3,_,_⟩:=TG (f:=lD w) (n:=100001) (by decide)
 have hb:gM w=jQ (lD w) 100001:=rfl
 rw[←hb]at a2 a3
 omega
end
section
variable{s:ae} {w:W}
end
theorem QK {busy:Nat→Bool}:∀{n:Nat},∀p∈jD busy n,0≤p.1∧p.1≤p.2∧p.2<n
 |0=>fun p h=>absurd h (by simp[jD])
 | n + 1 => fun p h => by
  have ih:=QK (busy:=busy) (n:=n)
  simp only[jD,qI]at h
  split at h
  ·have:=ih p h;omega
  ·cases hl:(jD busy n).getLast? with
   |none=>
    rw[hl]at h
    simp only[fS]at h
    subst h;simp;omega
   | some q =>
    have qw:=NR hl
    have hq:=ih q qw
    rw[hl]at h
    simp only at h
    split at h
    ·rw[dR,fS]at h
     rcases h with h|rfl
     ·have:=ih p ((List.dropLast_sublist _).subset h);omega
     ·simp only;omega
    ·rw[dR,fS]at h
     rcases h with h|rfl
     ·have:=ih p h;omega
     ·simp only;omega
section
variable{w:W}
theorem LL {p:P} {a:Int} (h:ml p a=true):a∈p.an.l:=by
 unfold ml at h
 obtain⟨m,hm,he⟩:=fc.1 h
 rwa [←S2 he]
theorem apart (hw:Wk w) {p q:P} (hp:bJ w p) (hq:bJ w q) {a:Int} (h:dA w q p=false) (fD:ml p a=true) (zC:ml q a=true):dU w p≤q.start∨dU w q≤p.start:=by
 have pD:=LL fD
 have qw:=LL zC
 have key:∀(x y:P),bJ w x→a∈x.an.l→a∈y.an.l→r9 w x y=false→dU w x≤y.start:=fun x y hx dk sO hc=>by
  unfold r9 at hc
  rw[qM]at hc
  have h1:=hc a dk
  have h2:(y.an.l.any fun m=>decide (a=m))=true:=fc.2 ⟨a,sO,by simp⟩
  rw[h2,kQ]at h1
  have h3:=hw.om (hx.an a dk).1 (hx.an a dk).2
  have h4:¬y.start-dU w x<if(w.rq x.req).cr=(w.rq y.req).cr then 0 else w.om a:=by simpa using h1
  split at h4<;>omega
 unfold dA at h
 split at h
 ·cases h
 ·split at h
  ·exact .inl (key p q hp pD qw h)
  ·exact .inr (key q p hq qw pD h)
theorem v8 (hw:Wk w) {l:List P} (hl:kf l) (h:(gC w l).2=0) {j:Nat} {p:P} (hj:l[j]? =some p):bJ w p∧0≤p.start∧p.start<dU w p∧dU w p≤w.bm∧cY w p (l.take j)=false∧∀a,ml p a=true→∀t:Nat,p.start≤t→(t:Int)<dU w p→bY w.as.l a.toNat t=false:=by
 have pD:=bE hj
 have h1:=hl.ok p pD
 obtain⟨cK,_,hc,eZ,hJ,_,_,bU⟩:=Db hw h1.1 (by omega) (KS hw hl h j p hj)
 have hq:=hw.rq cK.r0 cK.r1
 have q0:=hq.pK
 have q1:=hq.bH
 have q2:=hq.kJ
 have he:dU w p=p.start+(w.rq p.req).len:=rfl
 refine⟨cK,cK.s0,by omega,by omega,hc,fun a ha t ht1 ht2=>?_⟩
 have hm:=LL ha
 rw[qM]at bU
 have:=bU a hm
 have bH:=cK.an a hm
 obtain⟨x,hx⟩:=get_some (l:=w.as.l) (k:=a.toNat) (by omega)
 unfold cU at this
 rw[hx]at this
 simp only[Bool.not_not]at this
 have this:¬((List.range (w.rq p.req).len.toNat).any fun q=>isClosed x (p.start+q))=true:=by simpa using this
 rw[fc]at this
 cases hc:bY w.as.l a.toNat t with
 |false=>rfl
 |true=>
  exfalso
  refine this ⟨t-p.start.toNat,pW.2 (by omega),?_⟩
  have h0:=cK.s0
  rw[show p.start+((t-p.start.toNat:Nat):Int)=(t:Int)by omega,ahO hx];exact hc
theorem ayl {l r:List P} {a t:Int}:gw w (l++r) a t=(gw w l a t||gw w r a t):=by unfold gw;rw[tn]
theorem aym {l:List P} {a t:Int} (hl:∀x∈l,0≤x.req∧x.req<w.rs.l.length):gw (cW w) (l.map cP) a t=gw w l a t:=by
 induction l with
 |nil=>rfl
 |cons x r ih=>
  have hx:=hl x (by simp)
  have h:=ih fun y hy=>hl y (cD _ hy)
  unfold gw at h⊢
  rw[fR,ke,ke,h,Qp hx.1 hx.2];rfl
theorem Qe {i t:Nat}:bY (cW w).as.l i t=bY w.as.l i t:=by
 unfold bY
 rw[r8,iL]
 cases w.as.l[i]? <;>rfl
theorem agO {l:List P} {a:Int} (hl:∀x∈l,0≤x.req∧x.req<w.rs.l.length):lE (cW w) (l.map cP) a=lE w l a:=by
 funext t;unfold lE;rw[aym hl,Qe]
theorem afp {l:List P} {a:Int}:p6 (cW w) (l.map cP) a=p6 w l a:=by
 unfold p6
 rw[avk,r8,cg]
end
section
variable{s:ae} {w:W} {p:List (Sl Int)}
theorem acu {a t:Nat}:dz (p.map cX) a t=dz p a t:=by
 unfold dz
 rw[iL]
 cases p[a]? <;>rfl
theorem KL:(cW w).as.l.length=w.as.l.length:=by rw[r8,cg]
theorem avL:mE (cW w) (p.map cX)=mE w p:=by
 have h1:(p.map cX).length=p.length:=by simp
 have h2:(∀x∈p.map cX,(x.l.length:Int)=w.bm)↔∀x∈p,(x.l.length:Int)=w.bm:=by
  constructor
  ·intro h x hx;exact h (cX x) (cN.2 ⟨x,hx,rfl⟩)
  ·intro h x hx
   obtain⟨y,hy,rfl⟩:=cN.1 hx
   exact h y hy
 have h3:(p.map cX).all (fun x=>x.l.all fun n=>wi n 0 100000)=p.all fun x=>x.l.all fun n=>wi n 0 100000:=by
  rw[List.all_map];rfl
 unfold mE
 rw[KM,KL,h1,h3]
 simp only[h2]
theorem awM {a:Nat}:∀{k:Nat},kM (cW w) (p.map cX) a k=kM w p a k:=by
 intro k
 exact nn fun i _=>by rw[Qe,acu]
theorem ayp:∀{k:Nat},jg (cW w) (p.map cX) k=jg w p k:=by
 intro k
 exact nn fun i _=>by rw[awM];rfl
theorem ayb {a st k:Nat}:strip (p.map cX) a st k=strip p a st k:=nn fun i _=>acu
theorem Xy {st len:Nat}:∀{l:List Int},gg (p.map cX) st len l=gg p st len l
 |[]=>rfl
 |a::r=>by simp only[gg];rw[ayb,Xy]
theorem ayf {i:Int} (h0:0≤i) (h1:i<w.rs.l.length) {l:List P}:l6 (cW w) (p.map cX) i l=l6 w p i l:=by
 have:jf (cW w) (p.map cX) i=jf w p i:=by
  funext m x
  unfold jf
  rw[u9 h0 h1,Xy];rfl
 unfold l6;rw[this]
theorem agw:nx (cW w) (p.map cX)=nx w p:=by
 unfold nx
 rw[KL,xe,ayp]
 congr 1
 exact nn fun i hi=>by rw[Tn (by omega) (by omega),ayf (by omega) (by omega)]
theorem agv:u7 (cW w) (p.map cX)=u7 w p:=by unfold u7;rw[Dt,avL]
theorem ag3 (h:wQ p):wQ (p.map cX):=⟨by rw[cg];exact h.len,fun x hx=>by
 obtain⟨y,hy,rfl⟩:=cN.1 hx;exact ag2,fun x hx=>by
 obtain⟨y,hy,rfl⟩:=cN.1 hx;exact h.big y hy⟩
theorem abV:∀{k:Nat},ia (cW w) k=ia w k
 |0=>rfl
 |k+1=>by
  simp only[ia,KM,abV (k:=k)]
  congr 2
  congr 1
  funext t
  rw[Qe]
theorem U0:∀{k:Nat},k≤w.rs.l.length→kg (cW w) k=(kg w k).map cR
 |0,_=>rfl
 |k+1,hk=>by
  have ih:=U0 (k:=k) (by omega)
  simp only[kg]
  rw[Tn (by omega) (by omega),ih,u9 (by omega) (by omega)]
  split
  ·rfl
  ·simp
theorem agB:lD (cW w)=lD w:=by
 funext a
 unfold lD
 rw[KL,xe,abV,U0 (aI _)]
 unfold ot
 rw[List.foldl_map];rfl
theorem agm:gM (cW w)=gM w:=by unfold gM;rw[agB]
theorem ayE {a:Int}:eU (cW w) a=eU w a:=by unfold eU;rw[KL,KM]
theorem U1 {es:Nat} {α:Type} {f:α→List AV} {l:List α}:∃o e,bB es (l.map f)=.slice o e (l.map f)∧(l=[]∨e=es):=by
 cases l with
 |nil=>exact⟨.aA,0,rfl,.inl rfl⟩
 |cons x r=>exact⟨.any,es,rfl,.inr rfl⟩
end
section
variable{s:ae} {w:W}
end
section
variable{w:W}
end
section
variable{w:W}
theorem U2 {l:List P}:∃o e,bB 3 (l.map aq)=.slice o e (l.map aq)∧(l=[]∨e=3):=by
 cases l with
 |nil=>exact⟨_,_,rfl,.inl rfl⟩
 |cons _ _=>exact⟨_,_,rfl,.inr rfl⟩
section
variable{s:ae}
end
end
section
variable{s:ae} {w:W}
theorem acW {n:Nat}:∀i:Nat,i<n→(i:Int)∈Ad n:=fun i hi=>cN.2 ⟨i,pW.2 hi,rfl⟩
theorem agq (hw:Wk w):VP w (gd w).1∧ck w (gd w).1=(gd w).2.1∧∀R,VP w R→ck w R≤(gd w).2.1∧(ck w R=(gd w).2.1→ff R (gd w).1=false):=by
 have Hs:=fun X=>Dd (X:=X) hw (rq:=Ad w.rs.l.length) (k:=w.rs.l.length) (i:=0) (by omega) VP.nil (fun p hp=>absurd hp (by simp))
 cases hp:n7 w (Ad w.rs.l.length) 0 w.rs.l.length []with
 |nil=>exact absurd hp Tl
 | cons b r =>
  rw[hp]at Hs
  have gm:∀X,X∈b::r↔VP w X:=fun X=>by
   rw[Hs X]
   constructor
   ·rintro⟨h,_⟩;exact h
   ·intro h
    refine⟨h,X,rfl,fun p hp=>?_⟩
    obtain⟨h0,h1,_⟩:=h.mem p hp
    have:=acW (n:=w.rs.l.length) p.req.toNat (by omega)
    rw[show((p.req.toNat:Nat):Int)=p.req by omega]at this
    exact⟨by omega,this⟩
  have hb:=P4 hw acW hp
  obtain⟨h1,h2,h3,h4,h5⟩:=ET (w:=w) (l:=r) (b:=b)
  rw[hb]
  refine⟨(gm _).1 (by
   rcases h1 with h|h
   ·rw[h];simp
   ·exact cD _ h),rfl,fun R hR=>?_⟩
  rcases dr.1 ((gm R).2 hR)with rfl|h
  ·exact⟨h2,h4⟩
  ·exact⟨h3 R h,h5 R h⟩
theorem aaR {l:List P}:fN l=-1∨∃p∈l,fN l=p.req:=by
 unfold fN
 cases h:l.getLast? with
 |none=>exact .inl rfl
 |some p=>exact .inr ⟨p,NR h,rfl⟩
theorem VP.Xb (hw:Wk w) {R:List P} (h:VP w R):gC w R=(0,0)∧kf R:=by
 have hz:zs w [] R:=aeE fun j x hj=>by
  rw[gL]
  obtain⟨a,b,jY⟩:∃a b,R=a++x::b∧a=R.take j:=⟨R.take j,R.drop (j+1),by rw[←gO hj,DL],rfl⟩
  rw[←jY.2]
  have hR:=jY.1
  have dk:x∈R:=bE hj
  obtain⟨h0,h1,hx⟩:=h.mem x dk
  have sB:=h.qV
  have L7:=h.nc
  rw[hR,jj]at sB L7
  refine avb hw h0 h1 hx ?_ ?_
  ·rcases aaR (l:=a)with e|⟨p,hp,e⟩
   ·rw[e];omega
   ·rw[e];exact sB.2.2 p hp x (by simp)
  ·exact BL.2 fun p hp=>L7.2.2 p hp x (by simp)
 refine⟨ahB hz,by have:=azz hw hz;omega,fun p hp=>?_⟩
 obtain⟨h0,h1,hx⟩:=h.mem p hp
 obtain⟨fk,_,_,_,_,_,jr,_⟩:=jO hw h0 h1 hx
 have hq:=hw.si.an _ (W.oe h0 h1)
 have:=jr.length_le
 exact⟨fk.ok,by omega⟩
theorem QT:∀{l g:List Int},g.Sublist l→g∈bn g.length l
 |_,_,.slnil=>by simp[bn]
 |_,_,.cons (l₁:=g) (l₂:=l) a h=>by
  have ih:=QT h
  cases g with
  |nil=>simp[bn]
  |cons b g=>simp only[cH,bn,dR];exact .inr ih
 |_,_,.cons_cons (l₁:=g) (l₂:=l) a h=>by
  have ih:=QT h
  simp only[cH,bn,dR,cN]
  exact .inl ⟨g,ih,rfl⟩
end
section
variable{w:W}
structure ND (w:W) (pl:List P):Prop where
 mem:∀p∈pl,0≤p.req∧p.req<w.rs.l.length∧p∈ct w p.req
 nc:pl.Pairwise fun a b=>dA w a b=false
theorem ak0 {pl:List P} {i:Int} {p:P} (h:p∈pl):p∈eJ w pl i:=by
 unfold eJ;split
 ·exact h
 ·exact tu _ h
theorem QS:∀{l:List Int} {pl:List P} {p:P},p∈pl→p∈l.foldl (eJ w) pl
 |[],_,_,h=>h
 |_::_,_,_,h=>by rw[ma];exact QS (ak0 h)
theorem ahT {a b:List P} {x:P} (h:∀p∈a,p∈b) (hc:cY w x a=true):cY w x b=true:=by
 unfold cY at*
 rw[fc]at*
 obtain⟨p,hp,hc⟩:=hc
 exact⟨p,h p hp,hc⟩
theorem avv {a b:List P} {i:Int} (h:∀p∈a,p∈b) (he:ep w a i=[]):ep w b i=[]:=by
 unfold ep at*
 rw[Ut]at*
 intro x hx
 have:=he x hx
 cases hc:cY w x a with
 |false=>rw[hc]at this;exact absurd rfl this
 |true=>rw[ahT h hc];decide
theorem YE (hw:Wk w):∀{l:List Int} {pl:List P},(∀i∈l,0≤i∧i<w.rs.l.length)→ND w pl→
  ND w (l.foldl (eJ w) pl)∧∀i∈l,(∃p∈l.foldl (eJ w) pl,p.req=i)∨ep w (l.foldl (eJ w) pl) i=[]
 |[],_,_,h=>⟨h,by simp⟩
 | i :: l, pl, hl, h => by
  rw[ma]
  have hi:=hl i (by simp)
  have bu:ND w (eJ w pl i)∧((∃p∈eJ w pl i,p.req=i)∨ep w (eJ w pl i) i=[]):=by
   unfold eJ
   cases hq:ep w pl i with
   |nil=>exact⟨h,.inr hq⟩
   | cons q r =>
    have qw:q∈ep w pl i:=by rw[hq];simp
    obtain⟨uj,vK⟩:=ji.1 qw
    obtain⟨fk,hr,_⟩:=jO hw hi.1 hi.2 uj
    have hn:cY w q pl=false:=by simpa using vK
    refine⟨⟨fun p hp=>?_,?_⟩,.inl ⟨q,by simp,hr⟩⟩
    ·rcases dR.1 hp with hp|hp
     ·exact h.mem p hp
     ·rw[fS]at hp;subst hp
      rw[hr];exact⟨hi.1,hi.2,uj⟩
    ·show(pl++[q]).Pairwise _
     rw[jj]
     refine⟨h.nc,by simp,fun a ha b hb=>?_⟩
     rw[fS]at hb;subst hb
     exact BL.1 hn a ha
  obtain⟨h1,h2⟩:=bu
  obtain⟨h3,h4⟩:=YE hw (fun j hj=>hl j (cD _ hj)) h1
  refine⟨h3,fun j hj=>?_⟩
  rcases dr.1 hj with rfl|hj
  ·rcases h2 with⟨p,hp,e⟩|h2
   ·exact .inl ⟨p,QS hp,e⟩
   ·exact .inr (avv (fun p hp=>QS hp) h2)
  ·exact h4 j hj
theorem akT {p:P}:p∈gP w↔p∈oV w:=vT.mem_iff
theorem akU (hw:Wk w):VP w (gP w):=by
 obtain⟨h1,_⟩:=YE hw (l:=iu w) (pl:=[]) (fun i hi=>C5.1 hi) ⟨by simp,List.Pairwise.nil⟩
 refine⟨fun p hp=>h1.mem p (akT.1 hp),?_,?_⟩
 ·exact aoC (R:=fun a b:P=>a.req<b.req) (fun a b d h1 h2=>by omega) ((acd hw).imp fun h=>⟨fun hc=>by omega,fun hc=>by omega⟩)
 ·have hb:(oV w).Pairwise fun a b=>dA w a b=false∧dA w b a=false:=h1.nc.imp_of_mem fun ha hb h=>⟨h,by rw[GG hw (Tg hw _ hb) (Tg hw _ ha)];exact h⟩
  have hp:(gP w).Perm (oV w):=vT
  have:=(hp.pairwise_iff (R:=fun a b=>dA w a b=false∧dA w b a=false) (fun{a b} h=>⟨h.2,h.1⟩)).2 hb
  exact this.imp fun h=>h.1
theorem ayL {i:Int}:((cW w).rq i).val=(w.rq i).val:=by
 unfold W.rq
 rw[va,iL]
 cases w.rs.l[i.toNat]? <;>rfl
theorem auL:iu (cW w)=iu w:=by
 unfold iu
 rw[xe]
 simp only[ayL]
theorem agZ {p:P} (h:p.an=fg p.an.l):cP p=p:=by unfold cP;rw[←h]
theorem avt (hw:Wk w) {pl:List P} {i:Int} (hi:0≤i∧i<w.rs.l.length):∀p∈ep w pl i,(0≤p.req∧p.req<w.rs.l.length)∧cP p=p:=fun p hp=>by
 obtain⟨fk,hr,_,_,_,sA,_⟩:=jO hw hi.1 hi.2 (ji.1 hp).1
 exact⟨⟨fk.r0,fk.r1⟩,agZ sA⟩
theorem ati {l:List P} (h:∀p∈l,cP p=p):l.map cP=l:=by
 rw[List.map_congr_left h,List.map_id']
theorem YD (hw:Wk w):∀{l:List Int} {pl:List P},(∀i∈l,0≤i∧i<w.rs.l.length)→(∀p∈pl,(0≤p.req∧p.req<w.rs.l.length)∧cP p=p)→
  l.foldl (eJ (cW w)) pl=l.foldl (eJ w) pl∧∀p∈l.foldl (eJ w) pl,(0≤p.req∧p.req<w.rs.l.length)∧cP p=p
 |[],_,_,h=>⟨rfl,h⟩
 | i :: l, pl, hl, h => by
  rw[ma,ma]
  have hi:=hl i (by simp)
  have hc:ep (cW w) pl i=ep w pl i:=by
   have:=ack hw hi.1 hi.2 (l:=pl) (fun x hx=>(h x hx).1)
   rwa [ati fun p hp=>(h p hp).2]at this
  have hg:eJ (cW w) pl i=eJ w pl i:=by unfold eJ;rw[hc]
  rw[hg]
  refine YD hw (fun j hj=>hl j (cD _ hj)) fun p hp=>?_
  unfold eJ at hp
  split at hp
  ·exact h p hp
  ·rename_i q r hq
   rcases dR.1 hp with hp|hp
   ·exact h p hp
   ·rw[fS]at hp;subst hp
    exact avt hw hi p (by rw[hq];simp)
theorem akS (hw:Wk w):gP (cW w)=gP w:=by
 unfold gP oV
 rw[auL,(YD hw (fun i hi=>C5.1 hi) (by simp)).1]
end
section
variable{w:W}
theorem TQ:∀{L g:List Int},L.Pairwise (· <·)→g.Pairwise (· <·)→(∀a∈g,a∈L)→g.Sublist L
 |[],[],_,_,_=>List.Sublist.refl _
 |[],a::g,_,_,h=>absurd (h a (by simp)) (by simp)
 |x::L,[],_,_,_=>List.nil_sublist _
 | x :: L, a :: g, hL, hg, h => by
  obtain⟨l1,l2⟩:=rX.1 hL
  obtain⟨g1,g2⟩:=rX.1 hg
  by_cases vt:a=x
  ·subst vt
   refine List.Sublist.cons_cons _ (TQ l2 g2 fun b hb=>?_)
   rcases dr.1 (h b (cD _ hb))with e|hm
   ·have:=g1 b hb;omega
   ·exact hm
  ·refine List.Sublist.cons _ (TQ l2 hg fun b hb=>?_)
   rcases dr.1 (h b hb)with e|hm
   ·rcases dr.1 (h a (by simp))with e2|jH
    ·exact absurd e2 vt
    ·have h1:=l1 a jH
     rcases dr.1 hb with e3|hb
     ·omega
     ·have:=g1 b hb;omega
   ·exact hm
theorem Og {r:R}:∀{l:List Int} {last:Int},eW r last l=0→l.Pairwise (· <·)∧∀a∈l,last<a
 |[],_,_=>by simp
 | a :: l, last, h => by
  have h0:=(Jl (w:=⟨0,⟨.aA,0,[]⟩,⟨.aA,0,[]⟩⟩) (st:=0) (len:=0) h).2
  have h2:eW r a l=0:=by
   simp only[eW]at h
   split at h
   ·split at h
    ·exact h
    ·exact absurd h (by decide)
   ·exact absurd h (by decide)
  obtain⟨i1,i2⟩:=Og h2
  exact⟨rX.2 ⟨i2,i1⟩,h0⟩
theorem acp {i:Int} {p:P}:∀{n:Nat} {st t:Int},st≤t→t<st+n→p∈mD w i t→p∈jN w i st n
 |0,st,t,h1,h2,_=>by omega
 |n+1,st,t,h1,h2,hp=>by
  simp only[jN,dR]
  by_cases e:t=st
  ·subst e;exact .inl hp
  ·exact .inr (acp (by omega) (by omega) hp)
theorem avC (hw:Wk w) {p:P} {l:List P} (iE:p.an.ok 1) (ed:(p.an.l.length:Int)<1000000) (h:dY w p l=0):cP p∈ct w p.req:=by
 obtain⟨cK,_,_,eZ,hJ,hn,sA,bU⟩:=Db hw iE ed h
 have hq:=hw.rq cK.r0 cK.r1
 unfold ct
 refine acp (t:=p.start) eZ (by omega) ?_
 unfold mD
 refine cN.2 ⟨p.an.l,?_,rfl⟩
 rw[show(w.rq p.req).need.toNat=p.an.l.length by omega]
 refine QT (TQ (hq.DX.sublist Uu) (Og sA).1 fun a ha=>?_)
 refine ji.2 ⟨?_,?_⟩
 ·have:=(Jl (w:=w) (st:=0) (len:=0) sA).1 a ha
  obtain⟨b,hb,e⟩:=fc.1 this
  rw[fB]at e
  rw[e];exact hb
 ·have:=qM.1 bU a ha
  simpa using this
end
theorem ID {f g:Nat→Int}:∀{n:Nat},cO (fun i=>f i+g i) n=cO f n+cO g n
 |0=>rfl
 |n+1=>by simp only[cO,ID (n:=n)];omega
theorem TU {f g:Nat→Int}:∀{n:Nat},(∀i,i<n→f i≤g i)→cO f n≤cO g n
 |0,_=>rU _
 |n+1,h=>by
  have:=TU (n:=n) fun i hi=>h i (by omega)
  have:=h n (by omega)
  simp only[cO];omega
theorem Dq:∀{n:Nat},cO (fun _=>0) n=0
 |0=>rfl
 |n+1=>by simp only[cO,Dq (n:=n)];rfl
theorem TW {a:Nat} {v:Int}:∀{n:Nat},cO (fun i=>if i=a then v else 0) n=if a<n then v else 0
 |0=>by simp[cO]
 | n + 1 => by
  simp only[cO,TW (n:=n)]
  by_cases h1:n=a
  ·subst h1;rw[ak (by omega),aj rfl,aj (by omega)];omega
  ·rw[ak h1]
   by_cases h2:a<n
   ·rw[aj h2,aj (by omega)];omega
   ·rw[ak h2,ak (by omega)];rfl
theorem TV {f:Nat→Int} {m:Nat} (h:∀i,0≤f i):∀{n:Nat},m≤n→cO f m≤cO f n
 |0,hm=>by
  have e:m=0:=by omega
  rw[e];exact rU _
 | n + 1, hm => by
  by_cases e:m=n+1
  ·subst e;exact rU _
  ·have:=TV h (m:=m) (n:=n) (by omega)
   have:=h n
   simp only[cO];omega
section
variable{w:W} {p:List (Sl Int)}
theorem adN {a st N:Nat}:∀{len:Nat},st+len≤N→strip p a st len=cO (fun t=>if st≤t∧t<st+len then dz p a t else 0) N
 |0,_=>by
  have:cO (fun t=>if st≤t∧t<st+0 then dz p a t else 0) N=cO (fun _=>0) N:=nn fun t _=>by rw[ak (by omega)]
  rw[this,Dq];rfl
 | len + 1, h => by
  have ih:=adN (a:=a) (st:=st) (N:=N) (len:=len) (by omega)
  have e:strip p a st (len+1)=strip p a st len+dz p a (st+len):=rfl
  have h1:=TW (a:=st+len) (v:=dz p a (st+len)) (n:=N)
  rw[aj (by omega)]at h1
  rw[e,ih,←h1,←ID]
  refine nn fun t _=>?_
  by_cases h2:t=st+len
  ·subst h2;rw[ak (by omega),aj rfl,aj (by omega)];omega
  ·rw[ak h2]
   by_cases h3:st≤t∧t<st+len
   ·rw[aj h3,aj (by omega)];omega
   ·rw[ak h3,ak (by omega)];rfl
theorem Xz {st len n:Nat}:∀{l:List Int},l.Nodup→(∀a∈l,0≤a∧a<n)→gg p st len l=cO (fun a=>if(a:Int)∈l then strip p a st len else 0) n
 |[],_,_=>by
  have:cO (fun a:Nat=>if(a:Int)∈([]:List Int)then strip p a st len else 0) n=cO (fun _=>0) n:=nn fun t _=>by simp
  rw[this,Dq];rfl
 | a :: r, hd, hl => by
  have lN:=UG.1 hd
  have ih:=Xz (st:=st) (len:=len) (n:=n) lN.2 fun b hb=>hl b (cD _ hb)
  have ha:=hl a (by simp)
  have h1:=TW (a:=a.toNat) (v:=strip p a.toNat st len) (n:=n)
  rw[aj (by omega)]at h1
  simp only[gg]
  rw[ih,←h1,←ID]
  refine nn fun t _=>?_
  by_cases h2:t=a.toNat
  ·subst h2
   have e:((a.toNat:Nat):Int)=a:=by omega
   rw[aj rfl,e,ak lN.1,aj (by simp)];omega
  ·rw[ak h2]
   by_cases h3:(t:Int)∈r
   ·rw[aj h3,aj (cD _ h3)];omega
   ·rw[ak h3,ak]
    ·rfl
    ·intro h
     rcases dr.1 h with h|h
     ·omega
     ·exact h3 h
def BM (w:W) (p:List (Sl Int)) (x:P):Int:=gg p x.start.toNat (w.rq x.req).len.toNat x.an.l
def sd (w:W) (x:P) (a t:Nat):Bool:=ml x (a:Int)&&decide (x.start.toNat≤t∧t<x.start.toNat+(w.rq x.req).len.toNat)
def mA (f:P→Int):List P→Int
 |[]=>0
 |x::r=>f x+mA f r
theorem SM {f:P→Int}:∀{l r:List P},mA f (l++r)=mA f l+mA f r
 |[],r=>by simp[mA]
 |x::l,r=>by simp only[fZ,mA,SM (l:=l)];omega
theorem Y8 {x:P} {a:Int}:ml x a=true↔a∈x.an.l:=by
 constructor
 ·exact LL
 ·intro h;exact fc.2 ⟨a,h,by simp⟩
theorem ah7 (hw:Wk w) {x:P} (hd:x.an.l.Nodup) (bH:∀a∈x.an.l,0≤a∧a<w.as.l.length) (hs:x.start.toNat+(w.rq x.req).len.toNat≤w.bm.toNat):
  BM w p x=cO (fun a=>cO (fun t=>if sd w x a t=true then dz p a t else 0) w.bm.toNat) w.as.l.length:=by
 unfold BM
 rw[Xz hd bH]
 refine nn fun a _=>?_
 by_cases h:(a:Int)∈x.an.l
 ·rw[aj h,adN hs]
  refine nn fun t _=>?_
  have:=Y8.2 h
  by_cases h2:x.start.toNat≤t∧t<x.start.toNat+(w.rq x.req).len.toNat
  ·rw[aj h2,aj]
   unfold sd;rw[this,bS h2];rfl
  ·rw[ak h2,ak]
   unfold sd;rw[bX h2,l8];decide
 ·rw[ak h]
  have:cO (fun t=>if sd w x a t=true then dz p a t else 0) w.bm.toNat=cO (fun _=>0) w.bm.toNat:=nn fun t _=>by
   rw[ak]
   intro hc
   unfold sd at hc
   rw[dE]at hc
   exact h (Y8.1 hc.1)
  rw[this,Dq]
def p9 (w:W) (l:List P) (a t:Nat):Bool:=l.any fun x=>sd w x a t
theorem ah9 {l r:List P} {a t:Nat}:p9 w (l++r) a t=(p9 w l a t||p9 w r a t):=by unfold p9;rw[tn]
theorem Ti (hw:Wk w) {l:List P} (hl:kf l) (h:(gC w l).2=0) {j:Nat} {x:P} (hj:l[j]? =some x):
  x.an.l.Nodup∧fN (l.take j)<x.req∧cP x∈ct w x.req∧x.start.toNat+(w.rq x.req).len.toNat≤w.bm.toNat∧(∀a t,sd w x a t=true→bY w.as.l a t=false∧p9 w (l.take j) a t=false):=by
 have dk:=bE hj
 have h1:=hl.ok x dk
 have iD:=KS hw hl h j x hj
 obtain⟨cK,vF,_,_,_,_,sA,_⟩:=Db hw h1.1 (by omega) iD
 obtain⟨_,h0,lO,kv,dw,aQ⟩:=v8 hw hl h hj
 have hq:=hw.rq cK.r0 cK.r1
 have hlen:=hq.kJ
 have heq:dU w x=x.start+(w.rq x.req).len:=rfl
 refine⟨((Og sA).1).imp (fun h=>by omega),vF,avC hw h1.1 (by omega) iD,by omega,fun a t hc=>?_⟩
 unfold sd at hc
 rw[dE,fB]at hc
 obtain⟨ha,ht⟩:=hc
 refine⟨?_,?_⟩
 ·have:=aQ a ha t (by omega) (by omega)
  rwa [pT]at this
 ·cases Co:p9 w (l.take j) a t with
  |false=>rfl
  | true =>
   exfalso
   obtain⟨q,hq,rz⟩:=fc.1 Co
   unfold sd at rz
   rw[dE,fB]at rz
   obtain⟨j2,Cu⟩:=oZ (oB hq)
   obtain⟨HH,g0,g1,g2,_⟩:=v8 hw hl h Cu
   have Ri:dA w q x=false:=by
    have mm:(l.take j).any (fun o=>dA w o x)=false:=dw
    rw[qM]at mm
    simpa using mm q hq
   have HI:=(hw.rq HH.r0 HH.r1).kJ
   have aA5:dU w q=q.start+(w.rq q.req).len:=rfl
   rcases apart hw cK HH Ri ha rz.1 with e|e<;>omega
theorem XB (hw:Wk w) (hv:lz w p) {l:List P} (hl:kf l) (h:(gC w l).2=0):∀(k:Nat),k≤l.length→
  mA (BM w p) (l.take k)=cO (fun a=>cO (fun t=>if p9 w (l.take k) a t=true then dz p a t else 0) w.bm.toNat) w.as.l.length
 | 0, _ => by
  have:cO (fun a=>cO (fun t=>if p9 w (l.take 0) a t=true then dz p a t else 0) w.bm.toNat) w.as.l.length=cO (fun _=>0) w.as.l.length:=nn fun a _=>by
   have:cO (fun t=>if p9 w (l.take 0) a t=true then dz p a t else 0) w.bm.toNat=cO (fun _=>0) w.bm.toNat:=nn fun t _=>by simp[p9]
   rw[this,Dq]
  rw[this,Dq];rfl
 |k+1,hk=>by
  have ih:=XB hw hv hl h k (by omega)
  obtain⟨x,hx⟩:=get_some (show k<l.length by omega)
  obtain⟨hd,_,gn,oP,Rh⟩:=Ti hw hl h hx
  have bH:=(v8 hw hl h hx).1.an
  rw[du hx,SM,ih]
  simp only[mA,Dz]
  rw[ah7 hw hd bH oP,←ID]
  refine nn fun a _=>?_
  rw[←ID]
  refine nn fun t _=>?_
  rw[ah9]
  have e:p9 w [x] a t=sd w x a t:=by simp[p9]
  rw[e]
  cases hc:sd w x a t with
  |true=>rw[(Rh a t hc).2];simp
  |false=>simp
theorem ah8 (hw:Wk w) (hv:lz w p) {l:List P} (hl:kf l) (h:(gC w l).2=0):mA (BM w p) l≤jg w p w.as.l.length:=by
 have hc:=XB hw hv hl h l.length (aI _)
 rw[er]at hc
 rw[hc]
 refine TU fun a ha=>TU fun t ht=>?_
 obtain⟨x,_,_,_,_,Mv⟩:=hv.get hw ha
 have hp:=(Mv t ht).2
 cases Co:p9 w l a t with
 |false=>
  rw[ak (by decide)]
  split<;>omega
 |true=>
  obtain⟨q,hq,rz⟩:=fc.1 Co
  obtain⟨j,hj⟩:=oZ hq
  obtain⟨_,_,_,_,Rh⟩:=Ti hw hl h hj
  rw[(Rh a t rz).1];simp
theorem adT {i:Int}:∀{l:List P} {m:Int} {x:P},x∈l→(w.rq i).val-gg p x.start.toNat (w.rq i).len.toNat x.an.l≤l.foldl (jf w p i) m
 |[],_,_,h=>by cases h
 | y :: r, m, x, h => by
  have mono:∀(r:List P) (m:Int),m≤r.foldl (jf w p i) m:=by
   intro r
   induction r with
   |nil=>intro m;exact rU _
   |cons z q ih=>
    intro m
    have:=ih (jf w p i m z)
    have h2:m≤jf w p i m z:=by unfold jf;omega
    rw[ma];omega
  rw[ma]
  rcases dr.1 h with rfl|h
  ·have:=mono r (jf w p i m x)
   have h2:(w.rq i).val-gg p x.start.toNat (w.rq i).len.toNat x.an.l≤jf w p i m x:=by unfold jf;omega
   omega
  ·exact adT h
def qK (w:W) (p:List (Sl Int)) (i:Nat):Int:=if i<w.rs.l.length then l6 w p i (ct w i)else 0
theorem adS (hw:Wk w) (hv:lz w p) (i:Nat):0≤qK w p i:=by
 unfold qK
 split
 ·exact(Nh hv hw (by omega) (by omega) fun _ h=>h).1
 ·omega
theorem YB (hw:Wk w) (hv:lz w p) {l:List P} (hl:kf l) (h:(gC w l).2=0):∀(k:Nat),k≤l.length→
  mA (fun x=>(w.rq x.req).val-BM w p x) (l.take k)≤cO (qK w p) (fN (l.take k)+1).toNat
 |0,_=>by simp[mA,fN,cO]
 | k + 1, hk => by
  have ih:=YB hw hv hl h k (by omega)
  obtain⟨x,hx⟩:=get_some (show k<l.length by omega)
  obtain⟨_,vF,gn,_,_⟩:=Ti hw hl h hx
  obtain⟨cK,_⟩:=v8 hw hl h hx
  have r0:=cK.r0
  have r1:=cK.r1
  rw[aaS hx,du hx,SM]
  simp only[mA,Dz]
  have e:(x.req+1).toNat=x.req.toNat+1:=by omega
  rw[e]
  have aBi:=TV (f:=qK w p) (adS hw hv) (m:=(fN (l.take k)+1).toNat) (n:=x.req.toNat) (by omega)
  have xQ:=adT (w:=w) (p:=p) (i:=x.req) (m:=0) gn
  have hs:qK w p x.req.toNat=l6 w p x.req (ct w x.req):=by
   unfold qK
   rw[aj (by omega),show((x.req.toNat:Nat):Int)=x.req by omega]
  have iY:cO (qK w p) (x.req.toNat+1)=cO (qK w p) x.req.toNat+qK w p x.req.toNat:=rfl
  have mn:BM w p x=gg p (cP x).start.toNat (w.rq x.req).len.toNat (cP x).an.l:=rfl
  have oP:l6 w p x.req (ct w x.req)=(ct w x.req).foldl (jf w p x.req) 0:=rfl
  rw[iY,hs,mn,oP]
  omega
theorem abe {f g:P→Int}:∀{l:List P},mA (fun x=>f x-g x) l=mA f l-mA g l
 |[]=>rfl
 |x::r=>by simp only[mA,abe (l:=r)];omega
theorem aeh:∀{l:List P},ck w l=mA (fun x=>(w.rq x.req).val) l
 |[]=>rfl
 |x::r=>by simp only[ck,mA,aeh (l:=r)]
theorem aei (hw:Wk w) (hv:lz w p) {l:List P} (hl:kf l) (h:(gC w l).2=0):ck w l≤nx w p:=by
 have h1:=ah8 hw hv hl h
 have h2:=YB hw hv hl h l.length (aI _)
 rw[er,abe]at h2
 have h3:cO (qK w p) (fN l+1).toNat≤cO (qK w p) w.rs.l.length:=by
  refine TV (adS hw hv) ?_
  rcases aaR (l:=l)with e|⟨x,hx,e⟩
  ·rw[e];exact aV _
  ·obtain⟨j,hj⟩:=oZ hx
   have:=(v8 hw hl h hj).1.r1
   omega
 have h4:cO (qK w p) w.rs.l.length=qJ w p w.rs.l.length:=nn fun i hi=>by unfold qK;rw[aj hi]
 rw[aeh]
 unfold nx
 omega
theorem agn (hw:Wk w):nx w (eU w (gM w).1)=(gM w).2:=by
 obtain⟨a1,_⟩:=TG (f:=lD w) (n:=100001) (by decide)
 have:nx w (eU w (gM w).1)=T3 w (gM w).1:=rfl
 rw[this,ayx hw];exact a1.symm
end
def fp (t:Nat):List (Int×Int)→Int
 |[]=>0
 |p::r=>(if p.1≤(t:Int)∧(t:Int)≤p.2 then 1 else 0)+fp t r
theorem HU {t:Nat}:∀{a b:List (Int×Int)},fp t (a++b)=fp t a+fp t b
 |[],b=>by simp[fp]
 |p::a,b=>by simp only[fZ,fp,HU];omega
theorem Sb {t:Nat}:∀{l:List (Int×Int)},0≤fp t l∧fp t l≤l.length
 |[]=>by simp[fp]
 |p::r=>by
  have:=Sb (t:=t) (l:=r)
  simp only[fp,cH]
  split<;>omega
theorem aoo {busy:Nat→Bool} {out:List (Int×Int)} {n t:Nat} (ho:∀p∈out,p.1≤p.2∧p.2<(n:Int)):fp t (qI busy out n)=fp t out+if t=n∧busy n=false then 1 else 0:=by
 unfold qI
 split
 ·rename_i h;simp[h]
 ·rename_i hb
  have hb:busy n=false:=by simpa using hb
  cases h:out.getLast? with
  |none=>
   have:out=[]:=NK.1 h
   subst this
   simp only[fp,hb,DW]
   by_cases e:t=n
   ·rw[aj (by omega),aj e]<;>omega
   ·rw[ak (by omega),ak e]<;>omega
  | some p =>
   obtain⟨init,rfl⟩:∃init,out=init++[p]:=by
    obtain⟨ys,e⟩:=aeR.1 h
    exact⟨ys,e⟩
   have hp:=ho p (by simp)
   simp only
   split
   ·rename_i jJ
    rw[List.dropLast_concat,HU,HU]
    simp only[fp,hb,DW]
    by_cases e:t=n
    ·rw[aj (by omega),ak (by omega),aj e];omega
    ·rw[ak e]
     by_cases e2:p.1≤(t:Int)∧(t:Int)≤p.2
     ·rw[aj (by omega),aj e2];omega
     ·rw[ak (by omega),ak e2];omega
   ·rw[HU (b:=[((n:Int),(n:Int))])]
    simp only[fp,hb,DW]
    by_cases e:t=n
    ·rw[aj (by omega),aj e];omega
    ·rw[ak (by omega),ak e];omega
theorem aaw {busy:Nat→Bool} {t:Nat}:∀{n:Nat},fp t (jD busy n)=if t<n∧busy t=false then 1 else 0
 |0=>by simp[jD,fp]
 | n + 1 => by
  simp only[jD]
  rw[aoo (fun p hp=>by have:=QK p hp;omega),aaw (n:=n)]
  by_cases e:t=n
  ·subst e
   cases h:busy t<;>simp[h]
  ·by_cases e2:t<n
   ·cases h:busy t<;>simp[h,e,e2,show t<n+1 by omega]
   ·simp[e,e2,show¬t<n+1 by omega]
def fO (w:W) (a:Int) (t:Nat):List P→Int
 |[]=>0
 |p::r=>(if ml p a=true∧p.start≤(t:Int)∧(t:Int)<dU w p then 1 else 0)+fO w a t r
theorem MV {w:W} {a:Int} {t:Nat}:∀{l r:List P},fO w a t (l++r)=fO w a t l+fO w a t r
 |[],r=>by simp[fO]
 |p::l,r=>by simp only[fZ,fO,MV];omega
theorem abL {w:W} {a:Int} {t:Nat}:∀{l:List P},0≤fO w a t l∧fO w a t l≤l.length
 |[]=>by simp[fO]
 |p::r=>by
  have:=abL (w:=w) (a:=a) (t:=t) (l:=r)
  simp only[fO,cH]
  split<;>omega
theorem abM {w:W} (hw:Wk w) {l:List P} (hl:kf l) (h:(gC w l).2=0) {a:Int} {t:Nat}:∀(k:Nat),k≤l.length→fO w a t (l.take k)=if gw w (l.take k) a (t:Int)=true then 1 else 0
 |0,_=>by simp[fO,gw]
 | k + 1, hk => by
  have ih:=abM hw hl h (a:=a) (t:=t) k (by omega)
  obtain⟨p,hp⟩:=get_some (show k<l.length by omega)
  obtain⟨cK,h0,h1,h2,hc,_⟩:=v8 hw hl h hp
  rw[du hp,MV,ih,ayl]
  have xW:gw w [p] a (t:Int)=true↔ml p a=true∧p.start≤(t:Int)∧(t:Int)<dU w p:=by
   simp only[gw,ke,Uq,uJ,dE,gy]
   constructor
   ·rintro⟨x,y,z⟩;exact⟨x,y,by omega⟩
   ·rintro⟨x,y,z⟩;exact⟨x,y,by omega⟩
  simp only[fO]
  by_cases hq:ml p a=true∧p.start≤(t:Int)∧(t:Int)<dU w p
  ·rw [aj hq, xW.2 hq, Uf]
   have:gw w (l.take k) a (t:Int)=false:=by
    cases hf:gw w (l.take k) a (t:Int)with
    |false=>rfl
    | true =>
     exfalso
     obtain⟨q,vK,rz⟩:=fc.1 hf
     rw[dE,gy]at rz
     obtain⟨j2,Cu⟩:=oZ (oB vK)
     obtain⟨HH,_⟩:=v8 hw hl h Cu
     have Ri:dA w q p=false:=by
      have mm:(l.take k).any (fun o=>dA w o p)=false:=hc
      rw[qM]at mm
      simpa using mm q vK
     rcases apart hw cK HH Ri hq.1 rz.1 with e|e<;>omega
   rw[this];simp
  ·rw[ak hq,show gw w [p] a (t:Int)=false by cases hf:gw w [p] a (t:Int)with|false=>rfl|true=>exact absurd (xW.1 hf) hq,uJ]
   simp
theorem ayK {w:W} (hw:Wk w) {l:List P} (hl:kf l) (h:(gC w l).2=0) {i t:Nat} (ht:t<w.bm.toNat):
  fp t (jD (lE w l (i:Int)) w.bm.toNat)+fO w (i:Int) t l=if bY w.as.l i t=true then 0 else 1:=by
 rw[aaw]
 have h1:=abM hw hl h (a:=(i:Int)) (t:=t) l.length (aI _)
 rw[er]at h1
 rw[h1]
 have h2:lE w l (i:Int) t=(gw w l (i:Int) (t:Int)||bY w.as.l i t):=by unfold lE;rw[pT]
 rw[h2]
 have h3:gw w l (i:Int) (t:Int)=true→bY w.as.l i t=false:=fun hf=>by
  obtain⟨q,hq,rz⟩:=fc.1 hf
  rw[dE,gy]at rz
  obtain⟨j,hj⟩:=oZ hq
  obtain⟨_,_,_,_,_,aQ⟩:=v8 hw hl h hj
  have:=aQ (i:Int) rz.1 t rz.2.1 (by omega)
  rwa [pT]at this
 cases hc:bY w.as.l i t<;>cases hk:gw w l (i:Int) (t:Int)<;>simp[hc,hk,ht]at h3⊢
def uc (n:Nat) (f:Nat→Int):List AV:=(List.range n).map fun t=>I (f t)
theorem IJ {n:Nat} {f:Nat→Int}:(uc n f).length=n:=by simp[uc]
theorem Nn {n t:Nat} {f:Nat→Int} (h:t<n):(uc n f)[t]? =some (I (f t)):=by simp[uc,h]
theorem No {n t:Nat} {f:Nat→Int} (h:t<n):(uc n f)[0+t*1]? =some (I (f t)):=by rw[gU,wO,Nn h]
theorem ayy {n:Nat}:List.replicate n (I 0)=uc n fun _=>0:=by
 apply mM
 intro i
 by_cases h:i<n
 ·rw[Nn h,DE,aj h]
 ·rw[lu (by simp;omega),lu (by rw[IJ];omega)]
theorem T4 {n t:Nat} {f g:Nat→Int} (h:t<n) (hg:∀k,k<n→g k=if k=t then g t else f k):j5 (uc n f) (0+t*1) [I (g t)]=some (uc n g):=by
 rw[pP,aj (by rw[IJ];simp;omega)]
 simp only[setCells,gU,wO]
 congr 1
 apply mM
 intro k
 rw[qP]
 by_cases hk:k<n
 ·rw[Nn hk,Nn hk]
  by_cases e:t=k
  ·subst e;rw[aj rfl,aj (by rw[IJ];exact h)]
  ·rw[ak e,hg k hk,ak (by omega)]
 ·rw[lu (by rw[IJ];omega),lu (by rw[IJ];omega)]
  rw[ak (by omega)]
theorem wA {s:ae} {bs:List (List AV)} {tk:List (Option Nat)} {n:Nat} {f g:Nat→Int} (h:∀t,f t=g t):s.push ⟨bs++[uc n f],tk⟩=s.push ⟨bs++[uc n g],tk⟩:=by
 rw[show f=g from funext h]
section
variable{w:W}
theorem avl {l:List P} (aY:Wk w) (hP:kf l) (h:(gC w l).2=0):l.length≤12:=by
 have fV:=aY.v.rl
 have key:∀(j:Nat) x,l[j]? =some x→(j:Int)≤x.req:=by
  intro j
  induction j with
  |zero=>intro x hx;have:=(Xc aY hP h x (bE hx)).r0;simpa using this
  | succ j ih =>
   intro x hx
   have hj:j<l.length:=by have:=(bI.1 hx).1;omega
   obtain⟨y,hy⟩:=get_some hj
   have h1:=ace (KS aY hP h (j+1) x hx)
   have h2:fN (l.take (j+1))=y.req:=by
    rw[du hy]
    simp[fN]
   have:=ih y hy
   omega
 by_cases h0:l.length=0
 ·omega
 ·obtain⟨x,hx⟩:=get_some (l:=l) (k:=l.length-1) (by omega)
  have h1:=key _ x hx
  have h2:=(Xc aY hP h x (bE hx)).r1
  omega
end
section
variable{s:ae} {w:W}
theorem ayj (hs:Ok s):aw AP (.fn 4) [] s=some (B true,s):=by
 have aY:∀r,aw AP (.fn 23) [] (s.push r)=some (WK.v,s.push r):=fun r=>asa (hs.push r)
 have sD:∀r,aw AP (.fn 8) [WK.v] (s.push r)=some (.tuple [bB 3 (L3.map aq),I 23,I 0],s.push r):=fun r=>by
  rw[acY (hs.push r) ae6 ae5,ae7,aj rfl,aj rfl,ae4,ae8]
 have vr:bB 3 (L3.map aq)=.slice .any 3 (L3.map aq):=rfl
 have Cj:∀p∈L3,p.an.ok 1∧qL p:=by
  intro p hp
  simp only[L3,dr,Au,zT]at hp
  rcases hp with rfl|rfl|rfl<;>refine⟨xq,⟨by decide,by decide⟩,⟨by decide,by decide⟩,by decide,fun a ha=>?_⟩<;>simp[fg]at ha<;>simp only[Dy]<;>omega
 have LZ:lI L3=[48,64,48,43,48,32,49,64,48,43,49,32,50,64,53,43,48,43,49]:=by decide+kernel
 have vA:∀r,aw AP (.fn 17) [.slice .any 3 (L3.map aq)] (s.push r)=some (S (tx [48,64,48,43,48,32,49,64,48,43,49,32,50,64,53,43,48,43,49]),s.push r):=fun r=>by
  rw[ac0 (hs.push r) (.inr rfl) (by decide) Cj,LZ]
 rw[vr]at sD
 generalize hv:WK.v=V at*
 generalize(AV.slice .any 3 (L3.map aq))=VL at*
 rw[aG (show AP 4=some F2 from rfl) rfl]
 have hds : decide (tx [48, 64, 48, 43, 48, 32, 49, 64, 48, 43, 49, 32, 50, 64, 53, 43, 48, 43, 49] = ⟨#[48, 64, 48, 43, 48, 32, 49, 64, 48, 43, 49, 32, 50, 64, 53, 43, 48, 43, 49]⟩) = true := bS rfl
 simp only[go_sem,Wn,aY,sD,vA,hds,simprocAttr]
theorem aia {R:Option (AV×ae)} {bs:List (List AV)} {tk:List (Option Nat)} {L:AV} {i N:Nat} {FR:List (Int×Int)} {o:Own} {e:Nat} (hs:Ok s) (he:FR=[]∨e=2) (hN:w.bm=N) (hN2:N≤200) (gj:bs[0]? =some (aW w)) (hl:FR.length≤N) (bH:∀p∈FR,0≤p.1∧p.1≤p.2∧p.2<(N:Int))
  (hR:∀ρ m,(ρ 2=.ptr s.ag.length 0 0∧ρ 5=L∧ρ 17=I i∧ρ 20=.aN s.ag.length bs.length 0 1 N N∧m=s.push ⟨bs++[uc N fun t=>fp t FR],tk⟩)→go AP sf (.c EH::.blk 1::.c tJ::.lp p7::MI) ⟨ρ,m⟩=R):
  ∀(k:Nat) ρ m,k≤FR.length→(ρ 2=.ptr s.ag.length 0 0∧ρ 5=L∧ρ 17=I i∧ρ 18=.slice o e (FR.map dM)∧ρ 20=.aN s.ag.length bs.length 0 1 N N∧ρ 21=I k∧m=s.push ⟨bs++[uc N fun t=>fp t (FR.take k)],tk⟩)→
   go AP sf (.c (.loop ED)::arC) ⟨ρ,m⟩=R:=by
 have hb:∀z,(bs++[z])[0]? =some (aW w):=fun z=>by rw[dG (bI.1 gj).1];exact gj
 simp only[aW,Sl.v]at hb
 refine bA FR.length _ (fun _=>R) ?_ ?_
 ·rintro k ρ m hk ⟨g2,g5,g17,g18,g20,g21,rfl⟩ ih
  obtain⟨p,hp⟩:=get_some hk
  have cS:e=2:=by rcases he with h|h;(rw[h]at hp;simp at hp);exact h
  subst cS
  obtain⟨p0,p1,p2⟩:=bH p (bE hp)
  have bf:=cz (f:=dM) (o:=o) (es:=2) hp
  have kF:=bh hk (show(FR.length:Int)<_ by omega)
  obtain⟨a,ha⟩:∃a:Nat,p.1=a:=⟨p.1.toNat,by omega⟩
  obtain⟨c,hc⟩:∃c:Nat,p.2=c:=⟨p.2.toNat,by omega⟩
  have hbw:∀m:ae,aw AP (.fn 21) [I (a:Int),I 0,I (c:Int)] m=some (B true,m):=fun m=>by
   rw[gA,show wi (a:Int) 0 (c:Int)=true from gy.2 ⟨by omega,by omega⟩]
  have xQ:decide (w.bm≤(c:Int))=false:=bX (by omega)
  simp only[dM,ha,hc]at bf
  have fj:∀t,fp t (FR.take (k+1))=fp t (FR.take k)+if a≤t∧t<c+1 then 1 else 0:=fun t=>by
   rw[du hp,HU];simp only[fp,ha,hc]
   by_cases h:a≤t∧t<c+1
   ·rw[aj h,aj (by omega)];omega
   ·rw[ak h,ak (by omega)];omega
  have inner:∀(j:Nat) ρ m,j≤c+1-a→(ρ 2=.ptr s.ag.length 0 0∧ρ 5=L∧ρ 17=I i∧ρ 18=.slice o 2 (FR.map dM)∧ρ 20=.aN s.ag.length bs.length 0 1 N N∧ρ 21=I k∧ρ 22=I ((a+j:Nat):Int)∧m=s.push ⟨bs++[uc N fun t=>fp t (FR.take k)+if a≤t∧t<a+j then 1 else 0],tk⟩)→
    go AP sf (.c (.loop Kk)::arD) ⟨ρ,m⟩=R:=by
   refine bA (c+1-a) _ (fun _=>R) ?_ ?_
   ·rintro j ρ m hj ⟨g2,g5,g17,g18,g20,g21,g22,rfl⟩ eQ
    have hd:decide (((a+j:Nat):Int)≤(c:Int))=true:=bS (by omega)
    have hu:=Sq (d:=s.ag.length) (b:=bs.length) (es:=1) (cap:=N) (show a+j<N by omega)
    have eK:IntKind.i64.wrap (((a+j:Nat):Int)+1)=((a+(j+1):Nat):Int):=by rw[bq (by omega) (by omega)];omega
    have Y9:=Sb (t:=a+j) (l:=FR.take k)
    have RY:(FR.take k).length≤FR.length:=by rw[ez];omega
    have hv:IntKind.i64.wrap ((fp (a+j) (FR.take k)+if a≤a+j∧a+j<a+j then 1 else 0)+1)=fp (a+j) (FR.take k)+if a≤a+j∧a+j<a+(j+1)then 1 else 0:=by
     rw[ak (by omega),aj (by omega),bq (by omega) (by omega)];omega
    have bu:=T4 (n:=N) (t:=a+j) (f:=fun t=>fp t (FR.take k)+if a≤t∧t<a+j then 1 else 0) (g:=fun t=>fp t (FR.take k)+if a≤t∧t<a+(j+1)then 1 else 0) (by omega) (fun q hq=>by
     try simp only
     by_cases e:q=a+j
     ·rw[aj e,e]
     ·rw[ak e]
      by_cases h2:a≤q∧q<a+j
      ·rw[aj h2,aj (by omega)]
      ·rw[ak h2,ak (by omega)])
    have mY:=No (n:=N) (t:=a+j) (f:=fun t=>fp t (FR.take k)+if a≤t∧t<a+j then 1 else 0) (by omega)
    try simp only at bu
    try simp only at mY
    rw[←hv]at bu
    generalize(fp (a+j) (FR.take k)+if a≤a+j∧a+j<a+j then 1 else 0)=V at*
    generalize hU:(uc N fun t=>fp t (FR.take k)+if a≤t∧t<a+j then 1 else 0)=U at*
    simp only[go_sem,Kk,g18,g20,g21,g22,hs,bf,hd,hu,eK,mY,bu,simprocAttr]
    refine eQ _ _ ?_
    exact⟨g2,g5,g17,g18,g20,g21,rfl,rfl⟩
   ·rintro ρ m ⟨g2,g5,g17,g18,g20,g21,g22,rfl⟩
    have hd:decide (((a+(c+1-a):Nat):Int)≤(c:Int))=false:=bX (by omega)
    simp only[go_sem,Kk,Pu,g18,g21,g22,bf,hd,kF,simprocAttr]
    refine ih _ _ ?_
    refine⟨g2,g5,g17,g18,g20,rfl,?_⟩
    refine wA fun t=>?_
    rw[fj]
    congr 1
    by_cases h:a≤t∧t<c+1
    ·rw[aj h,aj (by omega)]
    ·rw[ak h,ak (by omega)]
  simp only[go_sem,ED,g2,g18,g21,hb,aL hk,bf,hbw,xQ,ov,simprocAttr]
  refine inner 0 _ _ (aV _) ?_
  refine⟨g2,g5,g17,g18,g20,g21,rfl,?_⟩
  refine wA fun t=>?_
  rw[ak (by omega)];omega
 ·rintro ρ m ⟨g2,g5,g17,g18,g20,g21,rfl⟩
  rw[er]
  simp only[go_sem,ED,g18,g21,bg,simprocAttr]
  refine hR _ _ ?_
  exact⟨g2,g5,g17,g20,rfl⟩
theorem aib {R:Option (AV×ae)} {bs:List (List AV)} {tk:List (Option Nat)} {L:List P} {i N:Nat} {F:Nat→Int} {o:Own} {e:Nat} (hs:Ok s) (hw:Wk w) (he:L=[]∨e=3) (hN:w.bm=N) (gj:bs[0]? =some (aW w)) (hl:L.length≤14) (bH:∀p∈L,bJ w p∧dU w p≤N) (hF:∀t,0≤F t∧F t≤200)
  (hR:∀ρ m,(ρ 2=.ptr s.ag.length 0 0∧ρ 5=.slice o e (L.map aq)∧ρ 17=I i∧ρ 20=.aN s.ag.length bs.length 0 1 N N∧m=s.push ⟨bs++[uc N fun t=>F t+fO w i t L],tk⟩)→go AP sf (.c EG::.blk 1::.c tJ::.lp p7::MI) ⟨ρ,m⟩=R):
  ∀(k:Nat) ρ m,k≤L.length→(ρ 2=.ptr s.ag.length 0 0∧ρ 5=.slice o e (L.map aq)∧ρ 17=I i∧ρ 20=.aN s.ag.length bs.length 0 1 N N∧ρ 23=I k∧m=s.push ⟨bs++[uc N fun t=>F t+fO w i t (L.take k)],tk⟩)→
   go AP sf (.c (.loop A8)::arA) ⟨ρ,m⟩=R:=by
 have dK:=hw.v.n2
 have hb:∀z,(bs++[z])[0]? =some (aW w):=fun z=>by rw[dG (bI.1 gj).1];exact gj
 simp only[aW,Sl.v]at hb
 refine bA L.length _ (fun _=>R) ?_ ?_
 ·rintro k ρ m hk ⟨g2,g5,g17,g20,g23,rfl⟩ ih
  obtain⟨p,hp⟩:=get_some hk
  have cS:e=3:=by rcases he with h|h;(rw[h]at hp;simp at hp);exact h
  subst cS
  obtain⟨cK,iD⟩:=bH p (bE hp)
  have hr:=cz (f:=aq) (o:=o) (es:=3) hp
  have hq:=Sl.ix (f:=aS) hw.ok.rs (W.Ip cK.r0 cK.r1)
  rw[show((p.req.toNat:Nat):Int)=p.req by have:=cK.r0;omega]at hq
  have qt:=hw.len cK.r0 cK.r1
  have hh:∀m:ae,aw AP (.fn 22) [p.an.v aC,I (i:Int)] m=some (B (ml p (i:Int)),m):=fun m=>Oq cK.ok.1 cK.len
  have kF:=bh hk (show(L.length:Int)<_ by omega)
  have h0:=cK.s0
  obtain⟨a,ha⟩:∃a:Nat,p.start=a:=⟨p.start.toNat,by omega⟩
  obtain⟨c,hc⟩:∃c:Nat,(w.rq p.req).len=c:=⟨(w.rq p.req).len.toNat,by omega⟩
  have sF:dU w p=a+c:=by rw[←ha,←hc];rfl
  simp only[aq,aS,Sl.v,ha,hc]at hr hq hh
  cases Ct:ml p (i:Int)with
  | false =>
   rw[Ct]at hh
   have fj:∀t,fO w i t (L.take (k+1))=fO w i t (L.take k):=fun t=>by
    rw[du hp,MV];simp only[fO,Ct];simp
   simp only[go_sem,A8,g5,g23,aL hk,simprocAttr]
   rw[go_loop]
   simp only[go_sem,EC,Kl,g5,g17,g23,hr,hh,kF,simprocAttr]
   refine ih _ _ ?_
   exact⟨g2,g5,g17,g20,rfl,by simp only[fj]⟩
  | true =>
   rw[Ct]at hh
   have fj:∀t,fO w i t (L.take (k+1))=fO w i t (L.take k)+if a≤t∧t<a+c then 1 else 0:=fun t=>by
    rw[du hp,MV];simp only[fO,Ct,ha,sF,IH]
    by_cases h:a≤t∧t<a+c
    ·rw[aj h,aj (by omega)];omega
    ·rw[ak h,ak (by omega)];omega
   have inner:∀(j:Nat) ρ m,j≤c→(ρ 2=.ptr s.ag.length 0 0∧ρ 5=.slice o 3 (L.map aq)∧ρ 17=I i∧ρ 20=.aN s.ag.length bs.length 0 1 N N∧ρ 23=I k∧ρ 24=I j∧m=s.push ⟨bs++[uc N fun t=>F t+fO w i t (L.take k)+if a≤t∧t<a+j then 1 else 0],tk⟩)→
     go AP sf (.c (.loop EC)::arB) ⟨ρ,m⟩=R:=by
    refine bA c _ (fun _=>R) ?_ ?_
    ·rintro j ρ m hj ⟨g2,g5,g17,g20,g23,g24,rfl⟩ eQ
     have hu:=Sq (d:=s.ag.length) (b:=bs.length) (es:=1) (cap:=N) (show a+j<N by omega)
     have vN:IntKind.i64.wrap ((a:Int)+(j:Int))=((a+j:Nat):Int):=by rw[bq (by omega) (by omega)];omega
     have eK:=bh hj (show(c:Int)<_ by omega)
     have Y9:=abL (w:=w) (a:=(i:Int)) (t:=a+j) (l:=L.take k)
     have hf:=hF (a+j)
     have RY:(L.take k).length≤L.length:=by rw[ez];omega
     have hv:IntKind.i64.wrap ((F (a+j)+fO w i (a+j) (L.take k)+if a≤a+j∧a+j<a+j then 1 else 0)+1)=F (a+j)+fO w i (a+j) (L.take k)+if a≤a+j∧a+j<a+(j+1)then 1 else 0:=by
      rw[ak (by omega),aj (by omega),bq (by omega) (by omega)];omega
     have bu:=T4 (n:=N) (t:=a+j) (f:=fun t=>F t+fO w i t (L.take k)+if a≤t∧t<a+j then 1 else 0) (g:=fun t=>F t+fO w i t (L.take k)+if a≤t∧t<a+(j+1)then 1 else 0) (by omega) (fun q hq=>by
      try simp only
      by_cases e:q=a+j
      ·rw[aj e,e]
      ·rw[ak e]
       by_cases h2:a≤q∧q<a+j
       ·rw[aj h2,aj (by omega)]
       ·rw[ak h2,ak (by omega)])
     have mY:=No (n:=N) (t:=a+j) (f:=fun t=>F t+fO w i t (L.take k)+if a≤t∧t<a+j then 1 else 0) (by omega)
     try simp only at bu
     try simp only at mY
     rw[←hv]at bu
     generalize(F (a+j)+fO w i (a+j) (L.take k)+if a≤a+j∧a+j<a+j then 1 else 0)=V at*
     generalize hU:(uc N fun t=>F t+fO w i t (L.take k)+if a≤t∧t<a+j then 1 else 0)=U at*
     simp only[go_sem,EC,g2,g5,g17,g20,g23,g24,hs,hb,hr,hq,hh,aL hj,hu,vN,eK,mY,bu,simprocAttr]
     refine eQ _ _ ?_
     exact⟨g2,g5,g17,g20,g23,rfl,rfl⟩
    ·rintro ρ m ⟨g2,g5,g17,g20,g23,g24,rfl⟩
     simp only[go_sem,EC,Kl,g2,g5,g17,g23,g24,hb,hr,hq,hh,bg,kF,simprocAttr]
     refine ih _ _ ?_
     refine⟨g2,g5,g17,g20,rfl,?_⟩
     refine wA fun t=>?_
     rw[fj];omega
   simp only[go_sem,A8,g5,g23,aL hk,simprocAttr]
   refine inner 0 _ _ (aV _) ?_
   refine⟨g2,g5,g17,g20,g23,rfl,?_⟩
   refine wA fun t=>?_
   rw[ak (by omega)];omega
 ·rintro ρ m ⟨g2,g5,g17,g20,g23,rfl⟩
  rw[er]
  simp only[go_sem,A8,g5,g23,bg,simprocAttr]
  refine hR _ _ ?_
  exact⟨g2,g5,g17,g20,rfl⟩
theorem aic {R:Option (AV×ae)} {bs:List (List AV)} {tk:List (Option Nat)} {L:AV} {i N:Nat} {F:Nat→Int} {x:A} (hs:Ok s) (hw:Wk w) (hx:w.as.l[i]? =some x) (hN:w.bm=N) (gj:bs[0]? =some (aW w)) (hF:∀t,t<N→F t=if bY w.as.l i t=true then 0 else 1)
  (hR:∀ρ m,(ρ 2=.ptr s.ag.length 0 0∧ρ 5=L∧ρ 17=I ((i+1:Nat):Int)∧∃z,m=s.push ⟨bs++[z],tk⟩)→go AP sf (.c (.loop p7)::MI) ⟨ρ,m⟩=R):
  ∀(k:Nat) ρ m,k≤N→(ρ 2=.ptr s.ag.length 0 0∧ρ 5=L∧ρ 17=I i∧ρ 20=.aN s.ag.length bs.length 0 1 N N∧ρ 25=I k∧m=s.push ⟨bs++[uc N fun t=>if t<k∧bY w.as.l i t=true then 1000 else F t],tk⟩)→
   go AP sf (.c (.loop A6)::aaM) ⟨ρ,m⟩=R:=by
 have dK:=hw.v.n2
 have fC:=hw.v.al
 have uh:i<w.as.l.length:=(bI.1 hx).1
 have hb:∀z,(bs++[z])[0]? =some (aW w):=fun z=>by rw[dG (bI.1 gj).1];exact gj
 simp only[aW,Sl.v]at hb
 have dk:=bE hx
 have oJ:=Sl.ix (f:=bR) hw.ok.as hx
 obtain⟨ca1,ca2⟩:=hw.ok.cl x dk
 have aA1:=hw.si.cl x dk
 refine bA N _ (fun _=>R) ?_ ?_
 ·rintro k ρ m hk ⟨g2,g5,g17,g20,nE,rfl⟩ ih
  have ub:decide ((k:Int)<w.bm)=true:=by rw[hN];exact aL hk
  have kF:=bh hk (show(N:Int)<_ by omega)
  have hu:=Sq (d:=s.ag.length) (b:=bs.length) (es:=1) (cap:=N) hk
  have Cb:=hF k hk
  have fin:∀ρ m,(ρ 2=.ptr s.ag.length 0 0∧ρ 5=L∧ρ 17=I i∧ρ 20=.aN s.ag.length bs.length 0 1 N N∧ρ 25=I k∧m=s.push ⟨bs++[uc N fun t=>if t<k+1∧bY w.as.l i t=true then 1000 else F t],tk⟩)→
    go AP sf (.c EF::.blk 11::.c EE::.lp A6::aaM) ⟨ρ,m⟩=R:=by
   rintro ρ m ⟨g2,g5,g17,g20,nE,rfl⟩
   have mY:=No (n:=N) (t:=k) (f:=fun t=>if t<k+1∧bY w.as.l i t=true then 1000 else F t) hk
   have ih:=fun ρ m h=>ih ρ m h
   generalize hU:(uc N fun t=>if t<k+1∧bY w.as.l i t=true then 1000 else F t)=U at*
   cases hc:bY w.as.l i k with
   |true=>
    rw[hc,aj ⟨by omega,rfl⟩]at mY
    simp only[go_sem,EF,EE,g20,nE,hu,mY,kF,simprocAttr]
    refine ih _ _ ?_
    exact⟨g2,g5,g17,g20,rfl,rfl⟩
   |false=>
    rw[hc,ak (by simp),Cb,hc,ak (by simp)]at mY
    simp only[go_sem,EF,EE,g20,nE,hu,mY,kF,simprocAttr]
    refine ih _ _ ?_
    exact⟨g2,g5,g17,g20,rfl,rfl⟩
  have inner : ∀ (j : Nat) ρ m, j ≤ x.cl.l.length → (ρ 2 = .ptr s.ag.length 0 0 ∧ ρ 5 = L ∧ ρ 17 = I i ∧ ρ 20 = .aN s.ag.length bs.length 0 1 N N ∧ ρ 25 = I k ∧ ρ 26 = I j ∧ m = s.push ⟨bs ++ [uc N fun t => if t = k ∧ ((x.cl.l.take j).any fun p => wi (k : Int) p.1 p.2) = true then 1000 else if t < k ∧ bY w.as.l i t = true then 1000 else F t], tk⟩) →
    go AP sf (.c (.loop A7)::arz) ⟨ρ,m⟩=R:=by
   have Cn:bY w.as.l i k=x.cl.l.any fun p=>wi (k:Int) p.1 p.2:=by simp only[bY,hx];rfl
   refine bA x.cl.l.length _ (fun _=>R) ?_ ?_
   ·rintro j ρ m hj ⟨g2,g5,g17,g20,nE,GZ,rfl⟩ eQ
    obtain⟨q,hq⟩:=get_some hj
    have mn:=Sl.ix (f:=dM) ⟨ca1,ca2⟩ hq
    have ja:=bh hj (show(x.cl.l.length:Int)<_ by omega)
    have fj:((x.cl.l.take (j+1)).any fun p=>wi (k:Int) p.1 p.2)=(((x.cl.l.take j).any fun p=>wi (k:Int) p.1 p.2)||wi (k:Int) q.1 q.2):=by rw[du hq,tn];simp
    have LQ:∀m:ae,aw AP (.fn 21) [I (k:Int),I q.1,I q.2] m=some (B (wi (k:Int) q.1 q.2),m):=fun m=>gA
    simp only[bR,dM,Sl.v]at oJ mn
    have mY:=No (n:=N) (t:=k) (f:=fun t=>if t=k∧((x.cl.l.take j).any fun p=>wi (k:Int) p.1 p.2)=true then 1000 else if t<k∧bY w.as.l i t=true then 1000 else F t) hk
    cases hd:(x.cl.l.take j).any fun p=>wi (k:Int) p.1 p.2 with
    | true =>
     have pq:bY w.as.l i k=true:=by
      rw[Cn]
      obtain⟨y,hy,hy2⟩:=fc.1 hd
      exact fc.2 ⟨y,oB hy,hy2⟩
     have Q8:(uc N fun t=>if t=k∧true=true then 1000 else if t<k∧bY w.as.l i t=true then 1000 else F t)=uc N fun t=>if t<k+1∧bY w.as.l i t=true then 1000 else F t:=by
      congr 1;funext t
      by_cases e:t=k
      ·subst e;rw[aj ⟨rfl,rfl⟩,aj ⟨by omega,pq⟩]
      ·rw[ak (by simp[e])]
       by_cases e2:t<k
       ·simp[e2,show t<k+1 by omega]
       ·simp[e2,show¬t<k+1 by omega]
     rw[hd,aj ⟨rfl,rfl⟩]at mY
     rw[Q8]at mY⊢
     generalize hU:(uc N fun t=>if t<k+1∧bY w.as.l i t=true then 1000 else F t)=U at*
     simp only[go_sem,A7,g2,g17,g20,nE,GZ,hb,oJ,aL hj,hu,mY,simprocAttr]
     refine fin _ _ ?_
     exact⟨g2,g5,g17,g20,nE,rfl⟩
    | false =>
     rw[hd,ak (by simp),ak (by omega)]at mY
     rw[hd,nq]at fj
     have aB:decide (F k<1000)=true:=bS (by rw[Cb];split<;>omega)
     cases CO:wi (k:Int) q.1 q.2 with
     |false=>
      rw[CO]at fj LQ
      generalize hU:(uc N fun t=>if t=k∧false=true then 1000 else if t<k∧bY w.as.l i t=true then 1000 else F t)=U at*
      simp only[go_sem,A7,g2,g17,g20,nE,GZ,hb,oJ,aL hj,ja,hu,mY,aB,mn,LQ,simprocAttr]
      refine eQ _ _ ?_
      exact⟨g2,g5,g17,g20,nE,rfl,by rw[fj,hU]⟩
     | true =>
      rw[CO]at fj LQ
      have pq:bY w.as.l i k=true:=by
       rw[Cn]
       exact fc.2 ⟨q,bE hq,CO⟩
      have hF0:F k=0:=by rw[Cb,aj pq]
      have hv:IntKind.i64.wrap (F k+1000)=(if k=k∧true=true then 1000 else if k<k∧bY w.as.l i k=true then 1000 else F k):=by
       rw[hF0,aj ⟨rfl,rfl⟩];rfl
      have bu:=T4 (n:=N) (t:=k) (f:=fun t=>if t=k∧false=true then 1000 else if t<k∧bY w.as.l i t=true then 1000 else F t) (g:=fun t=>if t=k∧true=true then 1000 else if t<k∧bY w.as.l i t=true then 1000 else F t) hk (fun q hq=>by
       by_cases e:q=k
       ·subst e;simp
       ·simp[e])
      rw[←hv]at bu
      generalize hU:(uc N fun t=>if t=k∧false=true then 1000 else if t<k∧bY w.as.l i t=true then 1000 else F t)=U at*
      simp only[go_sem,A7,g2,g17,g20,nE,GZ,hs,hb,oJ,aL hj,ja,hu,mY,aB,mn,LQ,bu,simprocAttr]
      refine eQ _ _ ?_
      exact⟨g2,g5,g17,g20,nE,rfl,by rw[fj];refine wA fun t=>?_;simp⟩
   ·rintro ρ m ⟨g2,g5,g17,g20,nE,GZ,rfl⟩
    rw[er,←Cn]
    have Q8:(uc N fun t=>if t=k∧bY w.as.l i k=true then 1000 else if t<k∧bY w.as.l i t=true then 1000 else F t)=uc N fun t=>if t<k+1∧bY w.as.l i t=true then 1000 else F t:=by
     congr 1;funext t
     by_cases e:t=k
     ·subst e
      cases bY w.as.l i t<;>simp
     ·rw[ak (by simp[e])]
      by_cases e2:t<k
      ·simp[e2,show t<k+1 by omega]
      ·simp[e2,show¬t<k+1 by omega]
    rw[Q8]
    simp only[bR,Sl.v]at oJ
    generalize hU:(uc N fun t=>if t<k+1∧bY w.as.l i t=true then 1000 else F t)=U at*
    simp only[go_sem,A7,g2,g17,GZ,hb,oJ,bg,simprocAttr]
    refine fin _ _ ?_
    exact⟨g2,g5,g17,g20,nE,rfl⟩
  simp only[go_sem,A6,g2,nE,hb,ub,simprocAttr]
  refine inner 0 _ _ (aV _) ?_
  refine⟨g2,g5,g17,g20,nE,rfl,?_⟩
  refine wA fun t=>?_
  simp
 ·rintro ρ m ⟨g2,g5,g17,g20,nE,rfl⟩
  have ub:decide ((N:Int)<w.bm)=false:=by rw[hN];exact bg N
  have mr:=bh uh (show(w.as.l.length:Int)<_ by omega)
  simp only[go_sem,A6,tJ,g2,g17,nE,hb,ub,mr,simprocAttr]
  refine hR _ _ ?_
  exact⟨g2,g5,rfl,_,rfl⟩
theorem avN {p:List (Sl Int)} (hw:Wk w) (hp:Jd p) (h:mE w p=0):wQ p:=by
 have fC:=hw.v.al
 have dK:=hw.v.n2
 unfold mE at h
 split at h
 ·rename_i h2
  exact⟨by omega,hp.ok,fun x hx=>by have:=h2.2 x hx;omega⟩
 ·cases h
theorem ayi {p:List (Sl Int)} {o:Own} {e:Nat} (hs:Ok s) (hw:w.Ok) (hb:w.qL) (hp:Jd p) (he:p=[]∨e=1):aw AP (.fn 3) [w.v,.slice o e (p.map cL)] s=some (B true,s):=by
 have LN:∀r,aw AP (.fn 4) [] (s.push r)=some (B true,s.push r):=fun r=>ayj (hs.push r)
 have zw:∀r,aw AP (.fn 5) [w.v] (s.push r)=some (B (H7 w),s.push r):=fun r=>ar9 (hs.push r) hw hb
 simp only[W.v,aW,Sl.v]at zw
 cases hf:H7 w with
 |false=>
  rw[hf]at zw
  rw[aG (show AP 3=some xi from rfl) rfl]
  simp only[go_sem,EB,LN,zw,W.v,aW,Sl.v,ov,th,simprocAttr]
 |true=>
 rw[hf]at zw
 have hF:w.jT:=Yh (by unfold H7 at hf;rw[dE]at hf;exact hf.1)
 have um:∀r,aw AP (.fn 6) [w.v] (s.push r)=some (I (kN w),s.push r):=fun r=>acC (hs.push r) hw hF
 simp only[W.v,aW,Sl.v]at um
 by_cases h0:kN w=0
 case neg=>
  have qo:decide (kN w≠0)=true:=by simp[h0]
  rw[aG (show AP 3=some xi from rfl) rfl]
  simp only[go_sem,EB,LN,zw,um,qo,W.v,aW,Sl.v,ov,simprocAttr]
 rw[h0]at um
 have iZ:=adw h0
 have aY:Wk w:=⟨hw,hF,pR iZ⟩
 have ru:∀r,aw AP (.fn 7) [w.v,.slice o e (p.map cL)] (s.push r)=some (I (mE w p),s.push r):=fun r=>acB (hs.push r) aY hp he
 simp only[W.v,aW,Sl.v]at ru
 have YT:decide ((0:Int)≠0)=false:=rfl
 by_cases h2:mE w p=0
 case neg=>
  have qo:decide (mE w p≠0)=true:=by simp[h2]
  rw[aG (show AP 3=some xi from rfl) rfl]
  simp only[go_sem,EB,LN,zw,um,ru,qo,W.v,aW,Sl.v,ov,simprocAttr]
 rw[h2]at ru
 have hP:=avN aY hp h2
 have hv:=avM hP h2
 have fC:=aY.v.al
 have fV:=aY.v.rl
 have oL:=aY.v.n1
 have dK:=aY.v.n2
 have aBC:=aY.c iZ
 obtain⟨ik,iB⟩:=ago aY iZ
 obtain⟨bv,P8,agu⟩:=agq aY
 have gv:=akU aY
 obtain⟨KF,ny⟩:=VP.Xb aY bv
 obtain⟨gck,YO⟩:=VP.Xb aY gv
 have oI:∀m:ae,Ok m→aw AP (.fn 9) [w.v] m=some ((cW w).v,m):=fun m hm=>awi hm hw hF
 obtain⟨ob,eb,alF,Cr⟩:=U2 (l:=(gd w).1)
 obtain⟨og,eg,alH,Zj⟩:=U2 (l:=gP w)
 have vL:∀r,aw AP (.fn 8) [(cW w).v] (s.push r)=some (.tuple [.slice ob eb ((gd w).1.map aq),I (gd w).2.1,I 0],s.push r):=fun r=>by
  rw[acY (hs.push r) Bf (Be hF),axW,aj h0,aj h0,ik,iB,h0,alF]
 have Mi:∀r,aw AP (.fn 10) [(cW w).v] (s.push r)=some (.tuple [.slice og eg ((gP w).map aq),I 0],s.push r):=fun r=>by
  rw[aw6 (hs.push r) Bf (Be hF),Dt,aj iZ,akS aY,iZ,alH]
 have L9:jv w (gd w).1=(0,0):=by unfold jv;rw[aj iZ,KF]
 have hpg:jv w (gP w)=(0,0):=by unfold jv;rw[aj iZ,gck]
 have ZP:∀r,aw AP (.fn 14) [w.v,.slice ob eb ((gd w).1.map aq)] (s.push r)=some (I 0,s.push r):=fun r=>by
  rw[acA (hs.push r) hw hF ny Cr,L9]
 have ZQ:∀r,aw AP (.fn 14) [w.v,.slice og eg ((gP w).map aq)] (s.push r)=some (I 0,s.push r):=fun r=>by
  rw[acA (hs.push r) hw hF YO Zj,hpg]
 have aad:∀r,aw AP (.fn 15) [w.v,.slice ob eb ((gd w).1.map aq)] (s.push r)=some (I (gd w).2.1,s.push r):=fun r=>by
  rw[acD (hs.push r) aY ny.len (bv.n6 aY) Cr,P8]
 have aae:∀r,aw AP (.fn 15) [w.v,.slice og eg ((gP w).map aq)] (s.push r)=some (I (ck w (gP w)),s.push r):=fun r=>by
  rw[acD (hs.push r) aY YO.len (gv.n6 aY) Zj]
 obtain⟨oc,ec,vr,cS⟩:=U1 (es:=1) (f:=cL) (l:=p.map cX)
 have aQ:∀r,aw AP (.fn 12) [.slice o e (p.map cL)] (s.push r)=some (.slice oc ec ((p.map cX).map cL),s.push r):=fun r=>by
  rw[af9 (hs.push r) hP he,vr]
 have sD:u7 w p=0:=by unfold u7;rw[aj iZ,h2]
 have tY:∀r,aw AP (.fn 11) [(cW w).v,.slice oc ec ((p.map cX).map cL)] (s.push r)=some (.tuple [I (nx w p),I 0],s.push r):=fun r=>by
  rw[aw3 (hs.push r) Bf (Be hF) (ag3 hP) cS,agv,agw,sD,aj rfl]
 have Mm:∀r,aw AP (.fn 13) [(cW w).v] (s.push r)=some (.tuple [bB 1 ((eU w (gM w).1).map cL),I (gM w).2,I 0],s.push r):=fun r=>by
  rw[aw9 (hs.push r) Bf (Be hF),Dt,agm,ayE,iZ,aj rfl,aj rfl]
 have huv:=ayD aY (WW (w:=w)).1 (WW (w:=w)).2
 have d1:decide (nx w p<(gd w).2.1)=false:=bX (by have:=aei aY hv ny (by rw[KF]);rw[P8]at this;omega)
 have d2:decide ((gM w).2<(gd w).2.1)=false:=bX (by have:=aei aY huv ny (by rw[KF]);rw[agn aY,P8]at this;omega)
 have d3:decide ((gd w).2.1<ck w (gP w))=false:=bX (by have:=(agu _ gv).1;omega)
 have Cm:(gC w (gd w).1).2=0:=by rw[KF]
 generalize hL:(gd w).1=L at*
 generalize(gd w).2.1=V at*
 have fk:=bv.n6 aY
 have amE:L.length≤12:=avl aY ny Cm
 have Z4:∀q∈L,Sm q:=fun q hq=>by
  have:=fk q hq
  exact⟨⟨this.r0,by have:=this.r1;omega⟩,⟨this.s0,by have:=this.s1;omega⟩,fun a ha=>⟨(this.an a ha).1,by have:=(this.an a ha).2;omega⟩⟩
 have Cj:∀q∈L,q.an.ok 1∧qL q:=fun q hq=>by
  obtain⟨⟨x1,x2⟩,⟨x3,x4⟩,x5⟩:=Z4 q hq
  exact⟨(ny.ok q hq).1,⟨by omega,by omega⟩,⟨by omega,by omega⟩,(ny.ok q hq).2,fun a ha=>by have:=x5 a ha;exact⟨by omega,by omega⟩⟩
 have al0:∀q∈L.map cP,q.an.ok 1∧qL q:=fun q hq=>by
  obtain⟨x,hx,rfl⟩:=cN.1 hq
  exact⟨xq,(Cj x hx).2⟩
 have Hp:lI (L.map cP)=lI L:=by
  unfold lI
  rw[I4];rfl
 have ud:(lI L).length≤60000:=by
  rw[←Ll]
  have:=ajP (l:=L) fun q hq=>(Cj q hq).2
  omega
 obtain⟨x1,g1,IG,gl,su,_⟩:=acz (o:=ob) (Q:=s) (tk:=[]) hs ny Cr
 obtain⟨o1,e1,rfl,lO⟩:=U3 su
 have amf:L.map cP=[]∨e1=3:=by rcases lO with h|h;exact .inl (by simpa using h);exact .inr h
 have LZ:∀r,aw AP (.fn 17) [.slice o1 e1 ((L.map cP).map aq)] (s.push r)=some (S (tx (lI L)),s.push r):=fun r=>by
  rw[ac0 (hs.push r) amf (by rw[cg];omega) al0,Hp]
 have zB:∀r,aw AP (.fn 16) [S (tx (lI L))] (s.push r)=some (.tuple [bB 3 ((L.map fun p=>hY p.req p.start p.an.l).map aq),I 0],s.push r):=fun r=>by
  rw[aw8 (hs.push r) (by omega),au4 Z4 amE ud]
 have anP:Jf L:=⟨by omega,fun p hp=>⟨(ny.ok p hp).1,by have:=(ny.ok p hp).2;omega⟩⟩
 have anQ:Jf (L.map fun p=>hY p.req p.start p.an.l):=⟨by rw[cg];omega,fun p hp=>by
  obtain⟨q,hq,rfl⟩:=cN.1 hp
  refine⟨wU,?_⟩
  show(fJ 1 q.an.l).l.length≤_
  rw[me]
  have:=(ny.ok q hq).2;omega⟩
 have RR:∀r,aw AP (.fn 19) [bB 3 ((L.map fun p=>hY p.req p.start p.an.l).map aq),.slice ob eb (L.map aq)] (s.push r)=some (B true,s.push r):=fun r=>by
  have h3:(L.map fun p=>hY p.req p.start p.an.l)=[]∨(fJ 3 (L.map fun p=>hY p.req p.start p.an.l)).e=3:=by cases L<;>simp[fJ]
  rw[←au5 (l:=L),uR,Sl.v,me]
  exact awk (hs.push r) h3 Cr anQ anP
 have oN:∀x∈L,0≤x.req∧x.req<w.rs.l.length:=fun x hx=>⟨(fk x hx).r0,(fk x hx).r1⟩
 obtain⟨N,hN⟩:∃N:Nat,w.bm=N:=⟨w.bm.toNat,by omega⟩
 have LD:w.bm.toNat=N:=by omega
 have Zv:∀q∈L,bJ w q∧dU w q≤N:=fun q hq=>by
  obtain⟨j,hj⟩:=oZ hq
  obtain⟨x1,_,_,x2,_⟩:=v8 aY ny Cm hj
  exact⟨x1,by omega⟩
 have amz:∀q∈L.map cP,bJ (cW w) q∧dU (cW w) q≤200:=fun q hq=>by
  obtain⟨x,hx,rfl⟩:=cN.1 hq
  obtain⟨cK,h2⟩:=Zv x hx
  refine⟨⟨cK.r0,by rw[xe];exact cK.r1,cK.s0,cK.s1,fun a ha=>by rw[r8,cg];exact cK.an a ha,xq,cK.len⟩,by rw[Qp cK.r0 cK.r1];omega⟩
 have key:∀(k:Nat) ρ m,k≤w.as.l.length→(ρ 2=.ptr s.ag.length 0 0∧ρ 5=.slice ob eb (L.map aq)∧ρ 17=I k∧∃bx tk,m=s.push ⟨aW w::bx,tk⟩)→
   go AP sf (.c (.loop p7)::MI) ⟨ρ,m⟩=some (B true,s):=by
  refine bA w.as.l.length _ (fun _=>some (B true,s)) ?_ ?_
  ·rintro k ρ m hk ⟨g2,g5,g17,bx,tk,rfl⟩ ih
   obtain⟨x2,gg2,mK,gZ,vo,_⟩:=acz (o:=ob) (Q:=s) (tk:=tk) hs ny Cr
   obtain⟨o2,e2,rfl,kv⟩:=U3 vo
   have amg:L.map cP=[]∨e2=3:=by rcases kv with h|h;exact .inl (by simpa using h);exact .inr h
   have hao:p6 w L (k:Int)=0:=by
    unfold p6
    rw[L9,aj rfl,show wi (k:Int) 0 (w.as.l.length-1)=true from gy.2 ⟨by omega,by omega⟩];rfl
   obtain⟨oF,eF,alE,heF⟩:=U1 (es:=2) (f:=dM) (l:=jD (lE w L (k:Int)) N)
   have vA:∀r,aw AP (.fn 20) [(cW w).v,.slice o2 e2 ((L.map cP).map aq),I (k:Int)] (s.push r)=some (.tuple [.slice oF eF ((jD (lE w L (k:Int)) N).map dM),I 0],s.push r):=fun r=>by
    rw[aw5 (hs.push r) Bf (Be hF) (ag0 ny) amg (fun _=>amz),afp,KM,hao,aj rfl,agO oN,LD,alE]
   have Hj:∀r,aw AP (.fn 9) [w.v] (s.push r)=some ((cW w).v,s.push r):=fun r=>oI _ (hs.push r)
   have hri:=QK (busy:=lE w L (k:Int)) (n:=N)
   have hrn:=QJ (busy:=lE w L (k:Int)) (n:=N)
   have xW:∀t,t<N→fp t (jD (lE w L (k:Int)) N)+fO w (k:Int) t L=if bY w.as.l k t=true then 0 else 1:=fun t ht=>by
    have:=ayK aY ny Cm (i:=k) (t:=t) (by omega)
    rwa [LD]at this
   generalize jD (lE w L (k:Int)) N=FR at*
   obtain⟨x,hx⟩:=get_some hk
   have kz:decide (w.bm<(FR.length:Int))=false:=bX (by omega)
   have mZ:=abl (s:=s) (bs:=aW w::bx) (tk:=mK) (n:=N) (by omega) (by omega)
   rw[←hN]at mZ
   simp only[aW,Sl.v]at mZ
   obtain⟨bs,kt⟩:∃bs,bs=aW w::bx:=⟨_,rfl⟩
   have gj:bs[0]? =some (aW w):=by rw[kt];rfl
   have k3:=aic (R:=some (B true,s)) (bs:=bs) (tk:=mK) (L:=.slice ob eb (L.map aq)) (F:=fun t=>fp t FR+fO w (k:Int) t L) hs aY hx hN gj xW (fun ρ m h=>by
    obtain⟨h2,h5,jE,z,rfl⟩:=h
    exact ih ρ _ ⟨h2,h5,jE,bx++[z],mK,by rw[kt];rfl⟩)
   have k2:=aib (R:=some (B true,s)) (bs:=bs) (tk:=mK) (L:=L) (i:=k) (F:=fun t=>fp t FR) (o:=ob) (e:=eb) hs aY Cr hN gj ny.len Zv (fun t=>by have:=Sb (t:=t) (l:=FR);omega) (fun ρ m h=>by
    obtain⟨h2,h5,jE,tW,rfl⟩:=h
    simp only[go_sem,EG,simprocAttr]
    refine k3 0 _ _ (aV _) ⟨h2,h5,jE,tW,rfl,wA fun t=>?_⟩
    rw[ak (by omega)])
   have k1:=aia (R:=some (B true,s)) (bs:=bs) (tk:=mK) (L:=.slice ob eb (L.map aq)) (i:=k) (FR:=FR) (o:=oF) (e:=eF) hs heF hN (by omega) gj hrn hri (fun ρ m h=>by
    obtain⟨h2,h5,jE,tW,rfl⟩:=h
    simp only[go_sem,EH,simprocAttr]
    refine k2 0 _ _ (aV _) ⟨h2,h5,jE,tW,rfl,wA fun t=>?_⟩
    simp[fO])
   simp only[W.v,aW,Sl.v]at Hj vA
   simp only[go_sem,p7,g2,g5,g17,aL hk,Hj,gZ,vA,kz,mZ,simprocAttr]
   refine k1 0 _ _ (aV _) ⟨g2,g5,g17,rfl,by rw[kt];rfl,rfl,?_⟩
   rw[ayy,kt]
   exact wA (bs:=aW w::bx) fun t=>by simp[fp]
  ·rintro ρ m ⟨g2,g5,g17,bx,tk,rfl⟩
   simp only[go_sem,p7,uZ,g2,g17,bg,simprocAttr]
 have Hj:∀r,aw AP (.fn 9) [w.v] (s.push r)=some ((cW w).v,s.push r):=fun r=>oI _ (hs.push r)
 obtain⟨zt,hzt⟩:∃z,tx (lI L)=z:=⟨_,rfl⟩
 rw[hzt]at LZ zB
 simp only[W.v,aW,Sl.v]at Hj vL Mi tY Mm ZP ZQ aad aae key
 rw[aG (show AP 3=some xi from rfl) rfl]
 simp only[go_sem,EB,LN,zw,um,ru,Hj,vL,Mi,aQ,tY,Mm,ZP,ZQ,aad,aae,d1,d2,d3,gl,LZ,zB,RR,W.v,aW,Sl.v,ov,bV,gI,se,simprocAttr]
 refine key 0 _ _ (aV _) ?_
 exact⟨rfl,rfl,rfl,_,_,rfl⟩
end
section
variable{P:Program} {d:Nat}
def yr (P:Program) (t:TypeId) (ts:List TypeId):Prop:=∃fs:Array Field,P.underlying t=some (.struct fs)∧fs.toList.map (·.type)=ts
theorem Dm {t:TypeId} {ts:List TypeId} {bM:List AV} (hf:yr P t ts) (h:ej P (d+1) t bM):
  ∃ps:List (List AV),bM=ps.flatten∧ps.length=ts.length∧∀(i:Nat) (u:TypeId) (p:List AV),ts[i]? =some u→ps[i]? =some p→ej P d u p:=by
 obtain⟨fs,hu,rfl⟩:=hf
 obtain⟨ps,h1,h2,h3⟩:=axH hu h
 refine⟨ps,h1,by simp[h2],fun i u p hi hp=>?_⟩
 rw[iL]at hi
 obtain⟨f,hf,rfl⟩:=aZ.1 hi
 exact h3 i f p (by simpa using hf) hp
structure wT (P:Program) (ti ts tg rQ jS ta s8 tr s9 tw:TypeId):Prop where
 i:P.underlying ti=some (.int .i64)
 s:P.underlying ts=some .string
 g:yr P tg [ti,ti]
 gs:P.underlying rQ=some (.slice tg)
 gc:P.cellsOf tg=2
 is:P.underlying jS=some (.slice ti)
 ic:P.cellsOf ti=1
 a:yr P ta [ts,ti,rQ]
 sa:P.underlying s8=some (.slice ta)
 ac:P.cellsOf ta=3
 r:yr P tr [ts,tg,ti,ti,jS,ti]
 sr:P.underlying s9=some (.slice tr)
 rc:P.cellsOf tr=7
 w:yr P tw [ti,s8,s9]
variable{ti ts tg rQ jS ta s8 tr s9 tw:TypeId}
theorem vU {n:Nat} (h:n≤maxLen):(n:Int)<9223372036854775808:=by unfold maxLen at h;omega
theorem ado (T:wT P ti ts tg rQ jS ta s8 tr s9 tw) {bM:List AV} (h:ej P (d+2) tg bM):∃x:Int×Int,bM=dM x∧True:=by
 obtain⟨ps,rfl,hl,hp⟩:=Dm T.g h
 match ps,hl,hp with
 |[p0,p1],_,hp=>
  obtain⟨a,rfl,_⟩:=s6 T.i (hp 0 _ p0 rfl rfl)
  obtain⟨b,rfl,_⟩:=s6 T.i (hp 1 _ p1 rfl rfl)
  exact⟨(a,b),rfl,trivial⟩
theorem aBS {o:Own} {rows:List (List AV)} (h:o=.any∨(o=.aA∧rows=[])):o=.any∨(o=.aA∧rows=[]):=h
theorem adl (T:wT P ti ts tg rQ jS ta s8 tr s9 tw) {bM:List AV} (h:ej P (d+2) jS bM):∃x:Sl Int,bM=[x.v aC]∧x.ok 1∧(x.l.length:Int)<9223372036854775808:=by
 obtain⟨o,rows,rfl,ho,hlen,nR⟩:=Af T.is h
 obtain⟨l,rfl,_⟩:=Ac (f:=aC) (g:=fun _=>True) (fun r hr=>by
  obtain⟨x,hx,_⟩:=s6 T.i (nR r hr)
  exact⟨x,hx,trivial⟩)
 rw[cg]at hlen
 rw[T.ic]
 refine⟨⟨o,1,l⟩,rfl,?_,vU hlen⟩
 rcases ho with rfl|⟨rfl,h⟩
 ·exact⟨.inr rfl,.inl rfl⟩
 ·exact⟨.inr rfl,.inr (.inr ⟨rfl,I3.1 (by assumption)⟩)⟩
theorem axG (T:wT P ti ts tg rQ jS ta s8 tr s9 tw) {bM:List AV} (h:ej P (d+3) rQ bM):∃x:Sl (Int×Int),bM=[x.v dM]∧x.ok 2∧(x.l.length:Int)<9223372036854775808:=by
 obtain⟨o,rows,rfl,ho,hlen,nR⟩:=Af T.gs h
 obtain⟨l,rfl,_⟩:=Ac (f:=dM) (g:=fun _=>True) (fun r hr=>ado T (nR r hr))
 rw[cg]at hlen
 rw[T.gc]
 refine⟨⟨o,2,l⟩,rfl,?_,vU hlen⟩
 rcases ho with rfl|⟨rfl,h⟩
 ·exact⟨.inr rfl,.inl rfl⟩
 ·exact⟨.inr rfl,.inr (.inr ⟨rfl,I3.1 (by assumption)⟩)⟩
theorem axB (T:wT P ti ts tg rQ jS ta s8 tr s9 tw) {bM:List AV} (h:ej P (d+4) ta bM):
  ∃a:A,bM=bR a∧(a.cl.ok 2∧(a.name.size:Int)<9223372036854775808∧(a.cl.l.length:Int)<9223372036854775808):=by
 obtain⟨ps,rfl,hl,hp⟩:=Dm T.a h
 match ps,hl,hp with
 |[p0,p1,p2],_,hp=>
  obtain⟨n,rfl,hn⟩:=adp T.s (hp 0 _ p0 rfl rfl)
  obtain⟨b,rfl,_⟩:=s6 T.i (hp 1 _ p1 rfl rfl)
  obtain⟨c,rfl,hc,aQ⟩:=axG T (hp 2 _ p2 rfl rfl)
  exact⟨⟨n,b,c⟩,rfl,hc,vU hn,aQ⟩
theorem axF (T:wT P ti ts tg rQ jS ta s8 tr s9 tw) {bM:List AV} (h:ej P (d+4) tr bM):
  ∃r:R,bM=aS r∧(r.an.ok 1∧(r.cr.size:Int)<9223372036854775808∧(r.an.l.length:Int)<9223372036854775808):=by
 obtain⟨ps,rfl,hl,hp⟩:=Dm T.r h
 match ps,hl,hp with
 |[p0,p1,p2,p3,p4,p5],_,hp=>
  obtain⟨n,rfl,hn⟩:=adp T.s (hp 0 _ p0 rfl rfl)
  obtain⟨g,rfl,_⟩:=ado T (hp 1 _ p1 rfl rfl)
  obtain⟨b,rfl,_⟩:=s6 T.i (hp 2 _ p2 rfl rfl)
  obtain⟨c,rfl,_⟩:=s6 T.i (hp 3 _ p3 rfl rfl)
  obtain⟨x,rfl,hx,qA⟩:=adl T (hp 4 _ p4 rfl rfl)
  obtain⟨e,rfl,_⟩:=s6 T.i (hp 5 _ p5 rfl rfl)
  exact⟨⟨n,g.1,g.2,b,c,x,e⟩,rfl,hx,vU hn,qA⟩
theorem axI (T:wT P ti ts tg rQ jS ta s8 tr s9 tw) {bM:List AV} (h:ej P (d+6) tw bM):∃w:W,AV.agg bM=w.v∧w.Ok∧w.qL:=by
 obtain⟨ps,rfl,hl,hp⟩:=Dm T.w h
 match ps,hl,hp with
 | [p0, p1, p2], _, hp =>
  obtain⟨n,rfl,_⟩:=s6 T.i (hp 0 _ p0 rfl rfl)
  obtain⟨o1,r1,rfl,ho1,pC,im⟩:=Af T.sa (hp 1 _ p1 rfl rfl)
  obtain⟨o2,r2,rfl,CG,rm,j0⟩:=Af T.sr (hp 2 _ p2 rfl rfl)
  obtain⟨as,rfl,has⟩:=Ac (fun r hr=>axB T (im r hr))
  obtain⟨rs,rfl,eD⟩:=Ac (fun r hr=>axF T (j0 r hr))
  rw[cg]at pC rm
  rw[T.ac,T.rc]
  refine⟨⟨n,⟨o1,3,as⟩,⟨o2,7,rs⟩⟩,rfl,⟨?_,fun a ha=>(has a ha).1,?_,fun r hr=>(eD r hr).1⟩,⟨vU pC,vU rm,fun a ha=>(has a ha).2.1,fun a ha=>(has a ha).2.2,fun r hr=>(eD r hr).2.1,fun r hr=>(eD r hr).2.2⟩⟩
  ·rcases ho1 with rfl|⟨rfl,h⟩
   ·exact⟨.inr rfl,.inl rfl⟩
   ·exact⟨.inr rfl,.inr (.inr ⟨rfl,I3.1 (by assumption)⟩)⟩
  ·rcases CG with rfl|⟨rfl,h⟩
   ·exact⟨.inr rfl,.inl rfl⟩
   ·exact⟨.inr rfl,.inr (.inr ⟨rfl,I3.1 (by assumption)⟩)⟩
end
end Go.Ax.Sx.Sc
/-
  What a plan is among the values that an argument may read as.
-/
namespace Go.Ax.Sx.Sc
open Go.Ax
section
variable{P:Program} {d:Nat} {ti jS tp wz:TypeId}
structure Jc (P:Program) (ti jS tp wz:TypeId):Prop where
 i:P.underlying ti=some (.int .i64)
 ic:P.cellsOf ti=1
 is:P.underlying jS=some (.slice ti)
 p:yr P tp [ti,ti,jS]
 ps:P.underlying wz=some (.slice tp)
 pc:P.cellsOf tp=3
theorem axC (T:Jc P ti jS tp wz) {bM:List AV} (h:ej P (d+2) jS bM):∃x:Sl Int,bM=[x.v aC]∧x.ok 1∧(x.l.length:Int)<9223372036854775808:=by
 obtain⟨o,rows,rfl,ho,hlen,nR⟩:=Af T.is h
 obtain⟨l,rfl,_⟩:=Ac (f:=aC) (g:=fun _=>True) (fun r hr=>by
  obtain⟨x,hx,_⟩:=s6 T.i (nR r hr)
  exact⟨x,hx,trivial⟩)
 rw[cg]at hlen
 rw[T.ic]
 refine⟨⟨o,1,l⟩,rfl,?_,vU hlen⟩
 rcases ho with rfl|⟨rfl,h⟩
 ·exact⟨.inr rfl,.inl rfl⟩
 ·exact⟨.inr rfl,.inr (.inr ⟨rfl,I3.1 (by assumption)⟩)⟩
theorem axE (T:Jc P ti jS tp wz) {bM:List AV} (h:ej P (d+4) tp bM):∃p:Sc.P,bM=aq p∧(p.an.ok 1∧(p.an.l.length:Int)<9223372036854775808):=by
 obtain⟨ps,rfl,hl,hp⟩:=Dm T.p h
 match ps,hl,hp with
 |[p0,p1,p2],_,hp=>
  obtain⟨a,rfl,_⟩:=s6 T.i (hp 0 _ p0 rfl rfl)
  obtain⟨b,rfl,_⟩:=s6 T.i (hp 1 _ p1 rfl rfl)
  obtain⟨x,rfl,hx,qA⟩:=axC T (hp 2 _ p2 rfl rfl)
  exact⟨⟨a,b,x⟩,rfl,hx,qA⟩
theorem adn (T:Jc P ti jS tp wz) {bM:List AV} (h:ej P (d+5) wz bM):∃(l:List Sc.P) (o:Own) (e:Nat),bM=[.slice o e (l.map aq)]∧e=3∧N6 l:=by
 obtain⟨o,rows,rfl,ho,hlen,nR⟩:=Af T.ps h
 obtain⟨l,rfl,hr⟩:=Ac (fun r hr=>axE T (nR r hr))
 rw[cg]at hlen
 rw[T.pc]
 exact⟨l,o,3,rfl,rfl,⟨vU hlen,fun p hp=>(hr p hp).1,fun p hp=>(hr p hp).2⟩⟩
theorem aBX (T:Jc P ti jS tp wz) {tpp:TypeId} (hf:yr P tpp [wz,wz]) {bM:List AV} (h:ej P (d+6) tpp bM):
  ∃(a b:List Sc.P) (o1 o2:Own),AV.agg bM=.agg [.slice o1 3 (a.map aq),.slice o2 3 (b.map aq)]∧N6 a∧N6 b:=by
 obtain⟨ps,rfl,hl,hp⟩:=Dm hf h
 match ps,hl,hp with
 |[p0,p1],_,hp=>
  obtain⟨a,o1,e1,rfl,rfl,ha⟩:=adn T (hp 0 _ p0 rfl rfl)
  obtain⟨b,o2,e2,rfl,rfl,hb⟩:=adn T (hp 1 _ p1 rfl rfl)
  exact⟨a,b,o1,o2,rfl,ha,hb⟩
end
end Go.Ax.Sx.Sc
/-
  What slices of slices of numbers are among the values that an argument may read as.
-/
namespace Go.Ax.Sx.Sc
open Go.Ax
section
variable{P:Program} {d:Nat} {ti ts tg rQ jS ta s8 tr s9 tw:TypeId}
theorem axD (T:wT P ti ts tg rQ jS ta s8 tr s9 tw) {tll:TypeId} (hu:P.underlying tll=some (.slice jS)) (hc:P.cellsOf jS=1) {bM:List AV} (h:ej P (d+3) tll bM):
  ∃(l:List (Sl Int)) (o:Own) (e:Nat),bM=[.slice o e (l.map cL)]∧Jd l∧(l=[]∨e=1):=by
 obtain⟨o,rows,rfl,ho,hlen,nR⟩:=Af hu h
 obtain⟨l,rfl,hr⟩:=Ac (f:=cL) (g:=fun x:Sl Int=>x.ok 1∧(x.l.length:Int)<9223372036854775808) (fun r hr=>by
  obtain⟨x,hx,h1,h2⟩:=adl T (nR r hr)
  exact⟨x,hx,h1,h2⟩)
 rw[cg]at hlen
 rw[hc]
 exact⟨l,o,1,rfl,⟨vU hlen,fun x hx=>(hr x hx).1,fun x hx=>(hr x hx).2⟩,.inr rfl⟩
end
end Go.Ax.Sx.Sc
