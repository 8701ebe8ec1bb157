/-
  The opened week: a row of 803 cells.
-/
import Derived.Test.YthpnomimjpcgnaaGreatDoorT6
import Derived.Test.YthpnomimjpcgnaaGreatDoorT5
set_option linter.unusedSimpArgs false
set_option linter.unusedVariables false
set_option maxRecDepth 100000
namespace Go.Ax.Sx.Sc
open Go.Ax
section
variable{s:ae}
theorem vw {a b c:Int}:aw AP (.fn 56) [I a,I b,I c] s=some (B (wi a b c),s):=by
 rw[aL (show AP 56=some EA from rfl) rfl]
 simp only[go_sem,TB,simprocAttr]
 unfold wi
 cases decide (b≤a)<;>cases decide (a≤c)<;>rfl
theorem lP {c:Bool} {e:Int}:aw AP (.fn 54) [B c,I e] s=some (I (cond c 0 e),s):=by
 rw[aL (show AP 54=some Ez from rfl) rfl]
 simp only[go_sem,TA,simprocAttr]
 cases c<;>rfl
theorem QX {l:List Int} {o:Own} (hl:(l.length:Int)<9223372036854775808):aw AP (.fn 24) [.slice o 1 (ints l)] s=some (I (dS l),s):=by
 have key:∀k ρ m,k≤l.length→(ρ 5=.slice o 1 (ints l)∧ρ 6=I l.length∧ρ 7=I k∧m=s.push ⟨[],[]⟩)→go AP afH (.c (.loop IB)::anl) ⟨ρ,m⟩=some (I (dS (l.drop k)),s):=by
  refine cq l.length _ _ ?_ ?_
  ·rintro k ρ m hk ⟨h5,h6,h7,rfl⟩ ih
   obtain⟨x,hx⟩:=get_some hk
   have hr:=BJ (o:=o) (es:=1) (akI hx)
   simp only[go_sem,IB,h5,h6,h7,aR hk,hr,bJ hk hl,simprocAttr]
   rw[eo hx]
   by_cases h0:x=0
   ·subst h0
    simp only[bq,fI,th,iw]
    refine(ih _ _ ?_).trans rfl
    exact⟨h5,h6,rfl,rfl⟩
   ·simp only[bq,h0,jV,pR,fY,dS,dt]
  ·rintro ρ m ⟨h5,h6,h7,rfl⟩
   simp only[go_sem,IB,MT,h6,h7,bM,simprocAttr]
   rw[eE];rfl
 rw[aL (show AP 24=some El from rfl) rfl]
 simp only[go_sem,Tp,akJ,simprocAttr]
 exact key 0 _ _ (bh _) ⟨rfl,rfl,rfl,rfl⟩
theorem nb {a b:Int}:aw AP (.fn 24) [.slice .full 1 [[I a],[I b]]] s=some (I (dS [a,b]),s):=QX (l:=[a,b]) (show(2:Int)<_ by decide)
theorem asq {a b c:Int}:aw AP (.fn 24) [.slice .full 1 [[I a],[I b],[I c]]] s=some (I (dS [a,b,c]),s):=QX (l:=[a,b,c]) (show(3:Int)<_ by decide)
theorem asr {a b c d:Int}:aw AP (.fn 24) [.slice .full 1 [[I a],[I b],[I c],[I d]]] s=some (I (dS [a,b,c,d]),s):=QX (l:=[a,b,c,d]) (show(4:Int)<_ by decide)
theorem YC {k:Nat} {l:List UInt8} {c:UInt8} (h:l[k]? =some c):qZ k (l.drop k)=(nameAt k c&&qZ (k+1) (l.drop (k+1))):=by
 rw[eo h];rfl
theorem YB {k:Nat} {c:UInt8}:nameAt k c=((decide ((97:Int)≤(c.toNat:Int))&&decide ((c.toNat:Int)≤122))||(decide ((65:Int)≤(c.toNat:Int))&&decide ((c.toNat:Int)≤90))||(!decide ((k:Int)=0)&&(decide ((c.toNat:Int)=45)||(decide ((48:Int)≤(c.toNat:Int))&&decide ((c.toNat:Int)≤57))))):=by
 unfold nameAt letter
 have e1:decide (97≤c.toNat)=decide ((97:Int)≤(c.toNat:Int)):=by simp;omega
 have e2:decide (c.toNat≤122)=decide ((c.toNat:Int)≤122):=by simp;omega
 have e3:decide (65≤c.toNat)=decide ((65:Int)≤(c.toNat:Int)):=by simp;omega
 have e4:decide (c.toNat≤90)=decide ((c.toNat:Int)≤90):=by simp;omega
 have e5:decide (k=0)=decide ((k:Int)=0):=by simp
 have e6:decide (c.toNat=45)=decide ((c.toNat:Int)=45):=by simp;omega
 have e7:decide (48≤c.toNat)=decide ((48:Int)≤(c.toNat:Int)):=by simp;omega
 have e8:decide (c.toNat≤57)=decide ((c.toNat:Int)≤57):=by simp;omega
 rw[e1,e2,e3,e4,e5,e6,e7,e8]
theorem Z0 {x:ByteArray} (hx:(x.size:Int)<9223372036854775808):aw AP (.fn 118) [S x] s=some (B (isName x),s):=by
 have bP:x.data.size=x.size:=rfl
 have hl:x.data.toList.length=x.size:=by simp[bP]
 have key:∀k ρ m,k≤x.size→(ρ 0=S x∧ρ 7=.slice .any 1 (byteCells x)∧ρ 8=I x.size∧ρ 9=I k∧m=s.push ⟨[],[]⟩)→go AP Vr (.c (.loop Dl)::XZ) ⟨ρ,m⟩=some (B (qZ k (x.data.toList.drop k)&&decide (1≤x.size)&&decide (x.size≤12)),s):=by
  refine cq x.size _ _ ?_ ?_
  ·rintro k ρ m hk ⟨h0,h7,h8,h9,rfl⟩ ih
   obtain⟨c,hc⟩:=get_some (l:=x.data.toList) (k:=k) (by omega)
   have hr:=BJ (o:=.any) (es:=1) (adg hc)
   rw[YC hc,YB]
   simp only[go_sem,Dl,h7,h8,h9,aR hk,hr,bJ hk hx,simprocAttr]
   simp only[bq,rP]
   have fQ:∀(ρ':Nat→AV),ρ' 0=S x→ρ' 7=AV.slice Own.any 1 (byteCells x)→ρ' 8=I ↑x.size→ρ' 9=I ↑(k+1)→go AP Vr (.c (.loop Dl)::XZ) ⟨ρ',s.push ⟨[],[]⟩⟩=some (B (qZ (k+1) (List.drop (k+1) x.data.toList)&&decide (1≤x.size)&&decide (x.size≤12)),s):=fun ρ' a b c d=>ih ρ' _ ⟨a,b,c,d,rfl⟩
   generalize decide ((97:Int)≤(c.toNat:Int))=a1
   generalize decide ((c.toNat:Int)≤122)=a2
   generalize decide ((65:Int)≤(c.toNat:Int))=a3
   generalize decide ((c.toNat:Int)≤90)=a4
   generalize decide ((c.toNat:Int)=45)=a5
   have e8:decide ((c.toNat:Int)<48)=!decide ((48:Int)≤(c.toNat:Int)):=dec_lt _ _
   have e9:decide ((57:Int)<(c.toNat:Int))=!decide ((c.toNat:Int)≤57):=dec_lt _ _
   rw[e8,e9]
   generalize decide ((48:Int)≤(c.toNat:Int))=a6
   generalize decide ((c.toNat:Int)≤57)=a7
   generalize decide ((k:Int)=0)=a8
   generalize qZ (k+1) (List.drop (k+1) x.data.toList)=nf at*
   cases a1<;>cases a2<;>cases a3<;>cases a4<;>cases a5<;>cases a6<;>cases a7<;>cases a8<;>first
    |rfl
    |exact fQ _ h0 h7 h8 rfl
  ·rintro ρ m ⟨h0,h7,h8,h9,rfl⟩
   simp only[go_sem,Dl,MU,h0,h8,h9,bM,simprocAttr]
   have e1:List.drop x.size x.data.toList=[]:=by rw[←hl,eE]
   have e2 : decide (x ≠ ⟨#[]⟩) = decide (1 ≤ x.size) := by
    by_cases h : x = ⟨#[]⟩
    ·subst h;rfl
    ·have:x.size≠0:=fun e=>h (Li (by have:x.data.size=0:=e;exact Array.eq_empty_of_size_eq_zero this))
     simp only[bq,h,jV,pR]
     exact(bS (by omega)).symm
   have e3:decide ((x.size:Int)≤12)=decide (x.size≤12):=by
    by_cases h:x.size≤12
    ·rw[bS h,bS (by omega)]
    ·rw[ch h,ch (by omega)]
   rw[e1,e2,e3];rfl
 rw[aL (show AP 118=some Eo from rfl) rfl]
 simp only[go_sem,Ts,bP,simprocAttr]
 refine(key 0 _ _ (bh _) ⟨rfl,rfl,rfl,rfl,rfl⟩).trans ?_
 rfl
theorem asx {n x:Int} {d b:Nat} {a r:AV} (hs:Ok s) (hn:1≤n) (iQ:n≤200) (hb:s.box d b=some [I n,a,r]):aw AP (.fn 130) [I x,.ptr d b 0] s=some (B (wi x 0 (n-1)),s):=by
 rw[aL (show AP 130=some Ey from rfl) rfl]
 simp only[go_sem,Tz,fN hb,vw,bR (x:=n-1) (by omega) (by omega),simprocAttr]
theorem as4 {c a:Bool}:dS [cond c 0 2,cond a 0 9]=if c=true then(if a=true then 0 else 9)else 2:=by cases c<;>cases a<;>rfl
theorem Z6 {n x y:Int} {o1 o2:Own} {e1 e2:Nat} {r1 r2:List (List AV)} (hs:Ok s) (hn:1≤n) (iQ:n≤200):aw AP (.fn 119) [.agg [I n,.slice o1 e1 r1,.slice o2 e2 r2],.agg [I x,I y]] s=some (I (ke n x y),s):=by
 rw[aL (show AP 119=some Ex from rfl) rfl]
 have e:∀x r,aw AP (.fn 130) [I x,.ptr s.ag.length 0 0] (cB (s.push ⟨[I n,.slice o1 e1 r1,.slice o2 e2 r2]::r,[]⟩))=some (B (wi x 0 (n-1)),cB (s.push ⟨[I n,.slice o1 e1 r1,.slice o2 e2 r2]::r,[]⟩)):=fun x r=>asx sF hn iQ (by rw[arY,Nv])
 simp only[go_sem,Ty,lP,nb,e,as4,simprocAttr]
 unfold ke
 cases wi x 0 (n-1)<;>cases wi y 0 (n-1)<;>by_cases h:x≤y<;>simp[h]
theorem asp {a b:A} {d k:Nat} (hs:Ok s) (hb:s.box d k=some (bY b)):aw AP (.fn 117) [.agg (bY a),.ptr d k 0] s=some (B (decide (a.name=b.name)),s):=by
 rw[aL (show AP 117=some Ek from rfl) rfl]
 simp only[go_sem,To,fN hb,simprocAttr]
theorem UE {n e:Int}:∀{l:List (Int×Int)},l.foldl (fun e p=>dS [e,ke n p.1 p.2]) e=if e=0 then rO n l else e
 |[]=>by by_cases h:e=0<;>simp[rO,h]
 | p :: l => by
  rw[sV,UE]
  by_cases h:e=0
  ·subst h
   by_cases h2:ke n p.1 p.2=0<;>simp[dS,rO,h2]
  ·simp[dS,h]
theorem abQ {a b c d:Bool}:dS [cond a 0 4,cond b 0 5,cond c 0 2,cond d 0 8]=if a=true then if b=true then if c=true then if d=true then 0 else 8 else 2 else 5 else 4:=by
 cases a<;>cases b<;>cases c<;>cases d<;>rfl
theorem aap {α:Type} {f:α→List AV} {o:Own} {es k:Nat} {l:List α} (hk:k≤l.length):∃o',iU (.sl es) (.slice o es (l.map f)) none (some (.v (.int .i64 (k:Int)))) none=some (.slice o' es ((l.take k).map f)):=by
 refine⟨xE o false (0==0&&k==(l.map f).length) (k==(l.map f).length&&0<(l.map f).length),?_⟩
 have h1:lB (some (AV.v (.int .i64 (k:Int)))) false (l.map f).length (l.map f).length=some k:=by
  simp[lB,asNat,hk]
 simp only[bE]at h1
 simp[iU,qY,h1,kC,Lw]
theorem aso {n:Int} {as:List A} {o1 o2:Own} {e2:Nat} {rs:List (List AV)} {k:Nat} {a:A} (hs:Ok s) (OB:a.cl.l=[]∨a.cl.e=2) (hn:1≤n) (iQ:n≤200) (ha:as[k]? =some a) (bP:(a.name.size:Int)<9223372036854775808) (hl:as.length≤4) (aP:(a.cl.l.length:Int)<9223372036854775808):
  aw AP (.fn 100) [.agg [I n,.slice o1 3 (as.map bY),.slice o2 e2 rs],I k] s=some (I (lh n as k a),s):=by
 have hk:k<as.length:=(aY.1 ha).1
 obtain⟨name,jn,⟨oc,ec,cl⟩⟩:=a
 obtain⟨o',po⟩:=aap (f:=bY) (o:=o1) (es:=3) (l:=as) (k:=k) (by omega)
 have bG:=cr (f:=bY) (o:=o1) (es:=3) ha
 have ew:∀r,aw AP (.fn 116) [.slice o' 3 ((as.take k).map bY),.fn 117 [] [.ptr s.ag.length 1 0]] (s.push ⟨[I n,.slice o1 3 (as.map bY),.slice o2 e2 rs]::bY ⟨name,jn,⟨oc,ec,cl⟩⟩::r,[]⟩)=some (B ((as.take k).any fun b=>decide (b.name=name)),s.push ⟨[I n,.slice o1 3 (as.map bY),.slice o2 e2 rs]::bY ⟨name,jn,⟨oc,ec,cl⟩⟩::r,[]⟩):=fun r=>by
  refine atU (.inr rfl) (by rw[fq];omega) fun b hb r1 r2=>?_
  refine asp (b:=⟨name,jn,⟨oc,ec,cl⟩⟩) (((hs.push _).push _).push _) ?_
  exact fN (fN T6 _) _
 have qb:∀{m:ae},aw AP (.fn 118) [S name] m=some (B (isName name),m):=Z0 bP
 rw[aL (show AP 100=some Ej from rfl) rfl]
 simp only[go_sem,Tn,hs,po,bG,ew,qb,lP,vw,asr,abQ,simprocAttr]
 generalize Og:(if isName name=true then if(!(as.take k).any fun b=>decide (b.name=name))=true then if wi jn 0 50=true then if decide ((cl.length:Int)≤6)=true then(0:Int)else 8 else 2 else 5 else 4)=E0
 have ov:(if E0=0 then rO n cl else E0)=lh n as k ⟨name,jn,⟨oc,ec,cl⟩⟩:=by
  have h6:decide ((cl.length:Int)≤6)=decide (cl.length≤6):=by
   by_cases h:cl.length≤6
   ·rw[bS h,bS (by omega)]
   ·rw[ch h,ch (by omega)]
  rw[←Og,h6]
  unfold lh
  simp only
  cases isName name<;>cases((as.take k).any fun b=>decide (b.name=name))<;>cases wi jn 0 50<;>by_cases h:cl.length≤6<;>simp[h]
 have key:∀j ρ m,j≤cl.length→(ρ 2=.ptr s.ag.length 0 0∧ρ 7=I ((cl.take j).foldl (fun e p=>dS [e,ke n p.1 p.2]) E0)∧ρ 40=.slice oc ec (cl.map gX)∧ρ 41=I cl.length∧ρ 42=I j∧∃junk,m=s.push ⟨[I n,.slice o1 3 (as.map bY),.slice o2 e2 rs]::junk,[]⟩)→go AP afG (.c (.loop Iz)::ank) ⟨ρ,m⟩=some (I (lh n as k ⟨name,jn,⟨oc,ec,cl⟩⟩),s):=by
  refine cq cl.length _ _ ?_ ?_
  ·rintro j ρ m hj ⟨h2,h7,Od,JA,kt,junk,rfl⟩ ih
   obtain⟨p,hp⟩:=get_some hj
   have dD:ec=2:=by rcases OB with h|h;(simp only at h;rw[h]at hp;simp at hp);exact h
   subst dD
   have hr:=cr (f:=gX) (o:=oc) (es:=2) hp
   simp only[go_sem,Iz,h2,h7,Od,JA,kt,hs,aR hj,hr,Z6 (hs.push _) hn iQ,nb,bJ hj aP,simprocAttr]
   refine ih _ _ ?_
   refine⟨h2,?_,Od,JA,rfl,_,rfl⟩
   rw[fi hp,Lr];rfl
  ·rintro ρ m ⟨h2,h7,Od,JA,kt,junk,rfl⟩
   rw[ig,UE,ov]at h7
   simp only[go_sem,Iz,MS,h7,JA,kt,bM,simprocAttr]
 refine key 0 _ _ (bh _) ?_
 exact⟨rfl,rfl,rfl,rfl,rfl,_,rfl⟩
theorem SA {n:Int}:∀{l:List Int} {e last:Int},(l.foldl (fun(q:Int×Int) a=>(dS [q.1,cond (wi a 0 (n-1)) 0 6,cond (decide (q.2<a)) 0 9],a)) (e,last)).1=if e=0 then kK n last l else e
 |[],e,last=>by by_cases h:e=0<;>simp[kK,h]
 | a :: l, e, last => by
  rw[sV,SA]
  by_cases h:e=0
  ·subst h
   cases h1:wi a 0 (n-1)<;>by_cases h2:last<a<;>simp[dS,kK,h1,h2]
  ·simp[dS,h]
theorem asv {n:Int} {as:List (List AV)} {r:R} {o1 o2:Own} {e1 e2:Nat} {rs:List (List AV)} (hs:Ok s) (gp:r.an.l=[]∨r.an.e=1) (hn:1≤n) (iQ:n≤200) (bP:(r.bU.size:Int)<9223372036854775808) (hl:as.length≤4) (aP:(r.an.l.length:Int)<9223372036854775808):
  aw AP (.fn 101) [.agg [I n,.slice o1 e1 as,.slice o2 e2 rs],.agg (bV r)] s=some (I (lN n as.length r),s):=by
 obtain⟨bU,lo,hi,len,val,⟨oa,ea,an⟩,need⟩:=r
 have qb:∀{m:ae},aw AP (.fn 118) [S bU] m=some (B (isName bU),m):=Z0 bP
 rw[aL (show AP 101=some Ev from rfl) rfl]
 simp only[go_sem,Tx,qb,lP,vw,nb,Z6 (hs.push _) hn iQ,simprocAttr]
 simp only at gp aP
 by_cases he:dS [cond (isName bU) 0 4,ke n lo hi]=0
 case neg=>
  simp only[bq,he,jV,pR,fY]
  congr 3
  unfold lN
  cases h1:isName bU
  ·simp[dS]
  ·rw[h1]at he
   simp only[dS,fY,bZ]at he⊢
   by_cases h2:ke n lo hi=0
   ·exact absurd (by rw[ak h2]) he
   ·simp[h2]
 simp only[bq,he,fI,th,iw]
 have h1:isName bU=true:=by
  cases h1:isName bU
  ·rw[h1]at he;simp[dS]at he
  ·rfl
 have h2:ke n lo hi=0:=by
  rw[h1]at he
  by_cases h2:ke n lo hi=0
  ·exact h2
  ·simp[dS,h2]at he
 have hb:(0≤lo∧lo≤n-1)∧(0≤hi∧hi≤n-1):=by
  unfold ke at h2
  cases q1:wi lo 0 (n-1)<;>cases q2:wi hi 0 (n-1)<;>rw[q1,q2]at h2<;>simp at h2
  exact⟨iW.1 q1,iW.1 q2⟩
 rw[bR (x:=hi-lo) (by omega) (by omega),bR (x:=hi-lo+1) (by omega) (by omega)]
 generalize Og:dS [cond (wi len 1 (hi-lo+1)&&wi val 0 100000) 0 2,cond (decide ((0:Int)<(an.length:Int))) 0 10]=E0
 have ov:∀e,(if E0=0 then kK (as.length:Nat) (-1) an else E0)=e→dS [e,cond (wi need 1 an.length) 0 2]=lN n as.length ⟨bU,lo,hi,len,val,⟨oa,ea,an⟩,need⟩:=by
  intro e he
  subst he
  rw[←Og]
  unfold lN
  simp only[h1,h2,bZ]
  cases an with
  |nil=>cases(wi len 1 (hi-lo+1)&&wi val 0 100000)<;>simp[dS]
  | cons x l =>
   have:decide ((0:Int)<(((x::l).length:Nat):Int))=true:=bS (by rw[dJ];omega)
   rw[this]
   cases(wi len 1 (hi-lo+1)&&wi val 0 100000)
   ·simp[dS]
   ·simp only[dS,fY,bZ]
    by_cases h3:kK (as.length:Nat) (-1) (x::l)=0
    ·cases h4:wi need 1 ((x::l).length:Nat)<;>simp[h3,h4]
    ·simp[h3]
 have key:∀j ρ m,j≤an.length→(ρ 2=.ptr s.ag.length 0 0∧ρ 3=.ptr s.ag.length 1 0∧
   (∃q:Int×Int,(an.take j).foldl (fun(q:Int×Int) a=>(dS [q.1,cond (wi a 0 ((as.length:Nat)-1)) 0 6,cond (decide (q.2<a)) 0 9],a)) (E0,-1)=q∧ρ 5=I q.1∧ρ 7=I q.2)∧ρ 49=.slice oa ea (an.map aD)∧ρ 50=I an.length∧ρ 51=I j∧
   m=s.push ⟨[[I n,.slice o1 e1 as,.slice o2 e2 rs],[S bU,I lo,I hi,I len,I val,.slice oa ea (an.map aD),I need]],[]⟩)→go AP afJ (.c (.loop IF)::anr) ⟨ρ,m⟩=some (I (lN n as.length ⟨bU,lo,hi,len,val,⟨oa,ea,an⟩,need⟩),s):=by
  refine cq an.length _ _ ?_ ?_
  ·rintro j ρ m hj ⟨gI,Pg,⟨q,hq,h5,h7⟩,rS,nC,pY,rfl⟩ ih
   obtain⟨x,hx⟩:=get_some hj
   have dD:ea=1:=by rcases gp with h|h;(rw[h]at hx;simp at hx);exact h
   subst dD
   have hr:=cr (f:=aD) (o:=oa) (es:=1) hx
   simp only[go_sem,IF,gI,h5,h7,rS,nC,pY,aR hj,hr,vw,lP,asq,bJ hj aP,bR (x:=(as.length:Int)-1) (by omega) (by omega),simprocAttr]
   refine ih _ _ ?_
   refine⟨gI,Pg,⟨(dS [q.1,cond (wi x 0 ((as.length:Nat)-1)) 0 6,cond (decide (q.2<x)) 0 9],x),?_,rfl,rfl⟩,rS,nC,rfl,rfl⟩
   rw[fi hx,Lr,hq];rfl
  ·rintro ρ m ⟨gI,Pg,⟨q,hq,h5,h7⟩,rS,nC,pY,rfl⟩
   rw[ig]at hq
   have u7:=SA (n:=(as.length:Nat)) (l:=an) (e:=E0) (last:=-1)
   rw[hq]at u7
   simp only[go_sem,IF,M1,Pg,h5,nC,pY,bM,vw,lP,nb,simprocAttr]
   rw[ov q.1 u7.symm]
 refine key 0 _ _ (bh _) ?_
 exact⟨rfl,rfl,⟨_,rfl,rfl,rfl⟩,rfl,rfl,rfl,rfl⟩
abbrev MK (p:Int×Int×Int):AV:=.tuple [.agg [I p.1,I p.2.1],I p.2.2]
theorem wI {α:Type} {f:Nat→α→Int} {l:List α} {k:Nat} {x:α} (h:l[k]? =some x):fZ f k (l.drop k)=if f k x=0 then fZ f (k+1) (l.drop (k+1))else some (k,f k x):=by
 rw[eo h];rfl
theorem ZX {w:W} (hs:Ok s) (hw:w.Ok) (hf:w.kY):aw AP (.fn 83) [w.v] s=some (MK (dH w),s):=by
 obtain⟨n,⟨o1,e1,as⟩,⟨o2,e2,rs⟩⟩:=w
 have h4:decide ((as.length:Int)≤4)=decide (as.length≤4):=by
  by_cases h:as.length≤4
  ·rw[bS h,bS (by omega)]
  ·rw[ch h,ch (by omega)]
 have cG:decide ((rs.length:Int)≤12)=decide (rs.length≤12):=by
  by_cases h:rs.length≤12
  ·rw[bS h,bS (by omega)]
  ·rw[ch h,ch (by omega)]
 rw[aL (show AP 83=some Eg from rfl) rfl]
 simp only[go_sem,Tl,hs,vw,lP,nb,h4,cG,simprocAttr]
 unfold dH
 simp only
 cases hn:wi n 1 200
 ·simp[dS]
 rw[iW]at hn
 by_cases Bw:as.length≤4∧rs.length≤12
 case neg=>
  have:(decide (as.length≤4)&&decide (rs.length≤12))=false:=by
   cases h:(decide (as.length≤4)&&decide (rs.length≤12))
   ·rfl
   ·exact absurd (by simpa using h) Bw
  simp[dS,this,Bw]
 have:(decide (as.length≤4)&&decide (rs.length≤12))=true:=by simpa using Bw
 simp only[dS,fY,bZ,bq,Bw,nr]
 have k2:∀j ρ m,j≤rs.length→(ρ 1=.ptr s.ag.length 0 0∧ρ 2=.ptr s.ag.length 1 0∧ρ 49=.slice o2 e2 (rs.map bV)∧ρ 50=I rs.length∧ρ 51=I j∧
   ∃junk,m=s.push ⟨[I n,.slice o1 e1 (as.map bY),.slice o2 e2 (rs.map bV)]::[I 0,I 0]::junk,[]⟩)→go AP Vp (.c (.loop Ir)::ane) ⟨ρ,m⟩=some (MK (match fZ (fun _ r=>lN n as.length r) j (rs.drop j)with|some (k,e)=>(2,k,e)|none=>(0,0,0)),s):=by
  refine cq rs.length _ _ ?_ ?_
  ·rintro j ρ m hj ⟨h1,h2,rS,nC,pY,junk,rfl⟩ ih
   obtain⟨x,hx⟩:=get_some hj
   have fP:=bK hx
   have dD:e2=7:=by rcases hw.rs.1 with h|h;(simp only at h;rw[h]at hx;simp at hx);exact h
   subst dD
   have hr:=cr (f:=bV) (o:=o2) (es:=7) hx
   have m1:=hf.bU x fP
   have m2:=hf.an x fP
   have hq:∀r,aw AP (.fn 101) [.agg [I n,.slice o1 e1 (as.map bY),.slice o2 7 (rs.map bV)],.agg [S x.bU,I x.lo,I x.hi,I x.len,I x.val,.slice x.an.o x.an.e (x.an.l.map aD),I x.need]] (s.push r)=some (I (lN n as.length x),s.push r):=fun r=>by
    have:=asv (s:=s.push r) (n:=n) (as:=as.map bY) (r:=x) (o1:=o1) (e1:=e1) (o2:=o2) (e2:=7) (rs:=rs.map bV) (hs.push _) (hw.an x fP).1 hn.1 hn.2 (by omega) (by rw[bE];exact Bw.1) (by omega)
    rw[bE]at this
    exact this
   simp only[go_sem,Ir,h1,h2,rS,nC,pY,hs,aR hj,hr,hq,bJ hj (show(rs.length:Int)<_ by omega),simprocAttr]
   rw[wI hx]
   by_cases h0:lN n as.length x=0
   ·simp only[h0,bq,fI,th,iw,bZ]
    refine ih _ _ ?_
    exact⟨h1,h2,rS,nC,rfl,_,rfl⟩
   ·simp only[h0,bq,jV,pR,fY,dt]
  ·rintro ρ m ⟨h1,h2,rS,nC,pY,junk,rfl⟩
   simp only[go_sem,Ir,MM,h2,nC,pY,hs,bM,simprocAttr]
   rw[eE];rfl
 have k1:∀j ρ m,j≤as.length→(ρ 1=.ptr s.ag.length 0 0∧ρ 2=.ptr s.ag.length 1 0∧ρ 34=.slice o1 e1 (as.map bY)∧ρ 35=I as.length∧ρ 36=I j∧
   m=s.push ⟨[[I n,.slice o1 e1 (as.map bY),.slice o2 e2 (rs.map bV)],[I 0,I 0]],[]⟩)→go AP Vp (.c (.loop Is)::anf) ⟨ρ,m⟩=some (MK (match fZ (lh n as) j (as.drop j)with|some (k,e)=>(1,k,e)|none=>match fZ (fun _ r=>lN n as.length r) 0 rs with|some (k,e)=>(2,k,e)|none=>(0,0,0)),s):=by
  refine cq as.length _ _ ?_ ?_
  ·rintro j ρ m hj ⟨h1,h2,l5,pW,mS,rfl⟩ ih
   obtain⟨x,hx⟩:=get_some hj
   have fP:=bK hx
   have dD:e1=3:=by rcases hw.as.1 with h|h;(simp only at h;rw[h]at hx;simp at hx);exact h
   subst dD
   have m1:=hf.name x fP
   have m2:=hf.cl x fP
   have hq:∀r,aw AP (.fn 100) [.agg [I n,.slice o1 3 (as.map bY),.slice o2 e2 (rs.map bV)],I j] (s.push r)=some (I (lh n as j x),s.push r):=fun r=>aso (hs.push _) (hw.cl x fP).1 hn.1 hn.2 hx (by omega) Bw.1 (by omega)
   simp only[go_sem,Is,h1,h2,pW,mS,hs,aR hj,hq,bJ hj (show(as.length:Int)<_ by omega),simprocAttr]
   rw[wI hx]
   by_cases h0:lh n as j x=0
   ·simp only[h0,bq,fI,th,iw,bZ]
    refine ih _ _ ?_
    exact⟨h1,h2,l5,pW,rfl,rfl⟩
   ·simp only[h0,bq,jV,pR,fY,dt]
  ·rintro ρ m ⟨h1,h2,l5,pW,mS,rfl⟩
   simp only[go_sem,Is,MN,h1,pW,mS,bM,simprocAttr]
   rw[eE]
   refine(k2 0 _ _ (bh _) ?_).trans rfl
   exact⟨h1,h2,rfl,rfl,rfl,[],rfl⟩
 refine(k1 0 _ _ (bh _) ?_).trans rfl
 exact⟨rfl,rfl,rfl,rfl,rfl,rfl⟩
end
def gr (f:Nat→Bool):List AV:=(List.range 800).map fun j=>B (f j)
theorem tq {f:Nat→Bool}:(gr f).length=800:=by simp[gr]
theorem Jx {f:Nat→Bool} {j:Nat} (h:j<800):(gr f)[j]? =some (B (f j)):=by simp[gr,h]
theorem aa7:Ha 800=gr fun _=>false:=by
 refine pK fun i=>?_
 unfold Ha
 by_cases h:i<800
 ·rw[Jx h,RN,ak h]
 ·rw[RN,aq h,nZ (by rw[tq];omega)]
theorem aho {f:Nat→Bool} {j:Nat} {b:Bool} (h:j<800):(gr f).set j (B b)=gr fun i=>if i=j then b else f i:=by
 refine pK fun i=>?_
 by_cases hi:i<800
 ·rw[Jx hi,sW]
  by_cases e:j=i
  ·subst e;rw[ak rfl,ak (by rw[tq];exact h)];simp
  ·rw[aq e,Jx hi,aq (fun q=>e q.symm)]
 ·rw[nZ (by rw[zO,tq];omega),nZ (by rw[tq];omega)]
theorem V4 {f:Nat→Bool}:(gr f).all AV.bu=true:=by
 rw[jJ]
 intro c hc
 obtain⟨j,_,rfl⟩:=cC.1 hc
 rfl
def wk (n:Int) (a r:AV) (f:Nat→Bool):List AV:=I n::a::r::gr f
theorem aqk {n:Int} {a r:AV} {f:Nat→Bool} {j:Nat} {b:Bool} (h:j<800):mq (wk n a r f) (3+j) [B b]=some (wk n a r fun i=>if i=j then b else f i):=by
 rw[vr,ak (by simp[wk,tq];omega)]
 have:3+j=j+1+1+1:=by omega
 rw[this]
 simp only[wk,setCells,RW,aho h]
theorem atG {n:Int} {a r:AV} {f:Nat→Bool}:(wk n a r f)[1]? =some a:=rfl
theorem xH {n:Int} {a r:AV} {f:Nat→Bool}:(wk n a r f)[2]? =some r:=rfl
theorem atH {n:Int} {a r:AV} {f:Nat→Bool} {j:Nat} (h:j<800):(wk n a r f)[3+j]? =some (B (f j)):=by
 have:3+j=j+1+1+1:=by omega
 rw[this]
 simp only[wk,Lt,Jx h]
theorem ael {n:Int} {a r:AV} {f:Nat→Bool} (ha:a.close=some a) (hr:r.close=some r):closeAll (wk n a r f)=some (wk n a r f):=by
 have:closeAll (gr f)=some (gr f):=by
  unfold gr
  generalize List.range 800=l
  induction l with
  |nil=>rfl
  |cons x l ih=>simp only[gO,lZ,ih];rfl
 simp only[wk,lZ,this,ha,hr]
 rfl
theorem Ux:∀(m:Nat) (l:List AV),m≤l.length→chunks 1 m l=(l.take m).map fun c=>[c]
 |0,l,_=>by simp[chunks]
 |m+1,[],h=>by simp at h
 |m+1,x::l,h=>by
  simp only[chunks,RF,kI,R1,Ly,gO]
  rw[Ux m l (by simpa using h)]
def tS (f:Nat→Bool) (j m:Nat):List Bool:=(List.range m).map fun q=>f (j+q)
theorem asz {f:Nat→Bool} {j m:Nat}:((tS f j m).any fun a=>(true==a))=(List.range m).any fun q=>f (j+q):=by
 simp[tS,Hh,Ry]
theorem ad6 {n:Int} {a r:AV} {f:Nat→Bool} {j m:Nat} (h:j+m≤800):chunks 1 m ((wk n a r f).drop (3+j))=(tS f j m).map fun b=>[B b]:=by
 rw[Ux _ _ (by rw[sX];simp[wk,tq];omega)]
 refine pK fun i=>?_
 simp only[tS,gN,xU]
 by_cases hi:i<m
 ·have e:(wk n a r f)[3+j+i]? =some (B (f (j+i))):=by rw[vK];exact atH (by omega)
  simp[xR,hi,List.getElem?_drop,e]
 ·simp[xR,hi]
def isClosed (a:A) (t:Int):Bool:=a.cl.l.any fun p=>wi t p.1 p.2
def AF (as:List A) (j:Nat):Bool:=match as[j/200]? with
 |some a=>isClosed a ((j%200:Nat):Int)
 |none=>false
structure LM (n:Int) (m:Nat) (r:R):Prop where
 qX:0≤r.lo
 BN:r.lo≤r.hi
 aZ:r.hi≤n-1
 qi:1≤r.len
 pz:r.len≤r.hi-r.lo+1
 Ch:0≤r.val
 Ci:r.val≤100000
 an:r.an.l≠[]
 s9:∀a∈r.an.l,0≤a∧a<m
 CK:r.an.l.Pairwise (· <·)
 KD:1≤r.need
 KE:r.need≤r.an.l.length
 name:isName r.bU=true
structure Rv (n:Int) (a:A):Prop where
 name:isName a.name=true
 asB:0≤a.jn
 asC:a.jn≤50
 UB:a.cl.l.length≤6
 cl:∀p∈a.cl.l,0≤p.1∧p.1≤p.2∧p.2≤n-1
structure Sm (w:W):Prop where
 n1:1≤w.mC
 n2:w.mC≤200
 al:w.as.l.length≤4
 rl:w.rs.l.length≤12
 a:∀a∈w.as.l,Rv w.mC a
 r:∀r∈w.rs.l,LM w.mC w.as.l.length r
theorem Rd {n lo hi:Int} (h:ke n lo hi=0):0≤lo∧lo≤hi∧hi≤n-1:=by
 unfold ke at h
 by_cases h1:(wi lo 0 (n-1)&&wi hi 0 (n-1))=true
 ·rw[ak h1]at h
  simp only[dI,iW]at h1
  by_cases h2:lo≤hi
  ·omega
  ·rw[aq h2]at h;omega
 ·rw[aq h1]at h;omega
theorem UC {n:Int}:∀{l:List (Int×Int)},rO n l=0→∀p∈l,0≤p.1∧p.1≤p.2∧p.2≤n-1
 |[],_=>by simp
 | p :: r, h => by
  simp only[rO]at h
  by_cases h1:ke n p.1 p.2=0
  ·rw[ak h1]at h
   intro q hq
   rcases eF.1 hq with rfl|hq
   ·exact Rd h1
   ·exact UC h q hq
  ·rw[aq h1]at h;exact absurd h h1
theorem Sz {n:Int}:∀{l:List Int} {last:Int},kK n last l=0→(∀a∈l,0≤a∧a<n)∧l.Pairwise (· <·)∧∀a∈l,last<a
 |[],_,_=>by simp
 | a :: r, last, h => by
  simp only[kK]at h
  by_cases h1:wi a 0 (n-1)=true
  ·rw[ak h1]at h
   by_cases h2:last<a
   ·rw[ak h2]at h
    obtain⟨i1,i2,i3⟩:=Sz h
    rw[iW]at h1
    refine⟨fun b hb=>?_,uk.2 ⟨i3,i2⟩,fun b hb=>?_⟩
    ·rcases eF.1 hb with rfl|hb
     ·omega
     ·exact i1 b hb
    ·rcases eF.1 hb with rfl|hb
     ·exact h2
     ·have:=i3 b hb;omega
   ·rw[aq h2]at h;omega
  ·rw[aq h1]at h;omega
theorem abO {n:Int} {as:List A} {k:Nat} {a:A} (h:lh n as k a=0):Rv n a:=by
 unfold lh at h
 by_cases h1:isName a.name=true
 ·rw [ak h1] at h
  by_cases h2:((as.take k).any fun b=>decide (b.name=a.name))=true
  ·rw[ak h2]at h;omega
  ·rw[aq h2]at h
   by_cases h3:wi a.jn 0 50=true
   ·rw[ak h3]at h
    by_cases h4:a.cl.l.length≤6
    ·rw[ak h4]at h
     rw[iW]at h3
     exact⟨h1,h3.1,h3.2,h4,UC h⟩
    ·rw[aq h4]at h;omega
   ·rw[aq h3]at h;omega
 ·rw[aq h1]at h;omega
theorem arR {n:Int} {m:Nat} {r:R} (h:lN n m r=0):LM n m r:=by
 unfold lN at h
 by_cases h1:isName r.bU=true
 ·rw [ak h1] at h
  by_cases h2:ke n r.lo r.hi=0
  ·rw [ak h2] at h
   by_cases h3:(wi r.len 1 (r.hi-r.lo+1)&&wi r.val 0 100000)=true
   ·rw [ak h3] at h
    by_cases h4:r.an.l=[]
    ·rw[ak h4]at h;omega
    ·rw[aq h4]at h
     by_cases h5:kK m (-1) r.an.l=0
     ·rw[ak h5]at h
      by_cases h6:wi r.need 1 r.an.l.length=true
      ·simp only[dI,iW]at h3
       rw[iW]at h6
       have e2:=Rd h2
       have e5:=Sz h5
       exact⟨e2.1,e2.2.1,e2.2.2,h3.1.1,h3.1.2,h3.2.1,h3.2.2,h4,e5.1,e5.2.1,h6.1,h6.2,h1⟩
      ·rw[aq h6]at h;omega
     ·rw[aq h5]at h;exact absurd h h5
   ·rw[aq h3]at h;omega
  ·rw[aq h2]at h;exact absurd h h2
 ·rw[aq h1]at h;omega
theorem N0 {α:Type} {f:Nat→α→Int}:∀{l:List α} {k:Nat},fZ f k l=none→∀x∈l,∃j,f j x=0
 |[],_,_=>by simp
 | x :: r, k, h => by
  simp only[fZ]at h
  by_cases h1:f k x=0
  ·rw[ak h1]at h
   intro y hy
   rcases eF.1 hy with rfl|hy
   ·exact⟨k,h1⟩
   ·exact N0 h y hy
  ·rw[aq h1]at h;cases h
theorem Js {α:Type} {f:Nat→α→Int}:∀{l:List α} {k j:Nat} {e:Int},fZ f k l=some (j,e)→e≠0
 |[],_,_,_,h=>by cases h
 | x :: r, k, j, e, h => by
  simp only[fZ]at h
  by_cases h1:f k x=0
  ·rw[ak h1]at h;exact Js h
  ·rw[aq h1]at h
   injection h with h
   injection h with _ h
   rw[←h];exact h1
theorem sO {w:W} (h:(dH w).2.2=0):Sm w:=by
 unfold dH at h
 by_cases h1:wi w.mC 1 200=true
 ·rw [ak h1] at h
  by_cases h2:w.as.l.length≤4∧w.rs.l.length≤12
  ·rw[ak h2]at h
   cases h3:fZ (lh w.mC w.as.l) 0 w.as.l with
   |some q=>obtain⟨k,e⟩:=q;rw[h3]at h;exact absurd h (Js h3)
   | none =>
    rw[h3]at h
    simp only at h
    cases h4:fZ (fun _ r=>lN w.mC w.as.l.length r) 0 w.rs.l with
    |some q=>obtain⟨k,e⟩:=q;rw[h4]at h;exact absurd h (Js h4)
    |none=>
     rw[iW]at h1
     exact⟨h1.1,h1.2,h2.1,h2.2,fun a ha=>(N0 h3 a ha).elim fun _ e=>abO e,fun r hr=>(N0 h4 r hr).elim fun _ e=>arR e⟩
  ·rw[aq h2]at h;simp at h
 ·rw[aq h1]at h;simp at h
section
variable{s:ae}
abbrev NP:AV:=.v (.pointer none)
theorem akq {k:IntKind} {n:Int} {len:Nat} (h1:0≤n) (h2:n<len):idx (.v (.int k n)) len=some n.toNat:=by
 rw[idx_eq,ak ⟨h1,h2⟩]
theorem Kl {k:IntKind} {n len:Nat} (h2:n<len):idx (.v (.int k (n:Int))) len=some n:=by
 rw[akq (by omega) (by omega)];rfl
theorem Z5 {w:W} (hs:Ok s) (hw:w.Ok) (hf:w.kY) (he:(dH w).2.2≠0):aw AP (.fn 51) [w.v] s=some (.tuple [NP,I (dH w).2.2],s):=by
 have hc:∀r,aw AP (.fn 83) [w.v] (s.push r)=some (MK (dH w),s.push r):=fun r=>ZX (hs.push _) hw hf
 generalize dH w=q at*
 rw[aL (show AP 51=some Au from rfl) rfl]
 simp only[go_sem,MW,hs,hc,he,bq,jV,simprocAttr]
def wA (as:List A) (a t:Nat):Bool:=match as[a]? with
 |some x=>isClosed x (t:Int)
 |none=>false
theorem UD {as:List A} {j:Nat}:AF as j=wA as (j/200) (j%200):=rfl
def OW (w:W):AV:=.bo (wk w.mC (w.as.v bY) (w.rs.v bV) (AF w.as.l)) 0
theorem ahn {f g:Nat→Bool} (h:∀a t,t<200→f (200*a+t)=g (200*a+t)):f=g:=by
 funext j
 have:=h (j/200) (j%200) (sZ _ (by decide))
 have e:200*(j/200)+j%200=j:=Nat.div_add_mod j 200
 rwa [e]at this
theorem Z3 {w : W} (hs : Ok s) (hw : w.Ok) (hf : w.kY) (he : (dH w).2.2 = 0) : aw AP (.fn 51) [w.v] s = some (.tuple [OW w, I 0], s) := by
 have bH:=sO he
 have hc:∀r,aw AP (.fn 83) [w.v] (s.push r)=some (MK (dH w),s.push r):=fun r=>ZX (hs.push _) hw hf
 generalize dH w=q at*
 obtain⟨n,⟨o1,e1,as⟩,⟨o2,e2,rs⟩⟩:=w
 have cw:(AV.slice o1 e1 (as.map bY)).close=some (AV.slice o1 e1 (as.map bY)):=Sl.close (f:=bY) hw.as
 have gH:(AV.slice o2 e2 (rs.map bV)).close=some (AV.slice o2 e2 (rs.map bV)):=Sl.close (f:=bV) hw.rs
 have oZ:as.length≤4:=bH.al
 have F1:1≤n:=bH.n1
 have iQ:n≤200:=bH.n2
 have sB : ∀ (i : Nat) ρ m, i ≤ as.length → (ρ 6 = .ptr s.ag.length 2 0 ∧ ρ 24 = .slice o1 e1 (as.map bY) ∧ ρ 25 = I as.length ∧ ρ 26 = I i ∧
   ∃f b0 b1 junk,m=s.push ⟨b0::b1::wk n (.slice o1 e1 (as.map bY)) (.slice o2 e2 (rs.map bV)) f::junk,[]⟩∧∀a t,t<200→f (200*a+t)=(decide (a<i)&&wA as a t))→
   go AP NT (.c (.loop Ai)::ano) ⟨ρ,m⟩=some (.tuple [OW ⟨n,⟨o1,e1,as⟩,⟨o2,e2,rs⟩⟩,I 0],s):=by
  refine cq as.length _ _ ?_ ?_
  ·rintro i ρ m hi ⟨h6, nA, mR, nB, f, b0, b1, junk, rfl, hF⟩ ih
   obtain⟨x,hx⟩:=get_some hi
   have fP:=bK hx
   have dD:e1=3:=by rcases hw.as.1 with h|h;(simp only at h;rw[h]at hx;simp at hx);exact h
   subst dD
   have hr:=cr (f:=bY) (o:=o1) (es:=3) hx
   have qd:=bH.a x fP
   have WE:∀t,wA as i t=x.cl.l.any fun p=>wi t p.1 p.2:=fun t=>by simp only[wA,hx];rfl
   obtain⟨name,jn,⟨oc,ec,cl⟩⟩:=x
   have pf:=(hw.cl _ fP).1
   simp only at pf WE
   have avj:cl.length≤6:=qd.UB
   have PZ : ∀ (j : Nat) ρ m, j ≤ cl.length → (ρ 6 = .ptr s.ag.length 2 0 ∧ ρ 7 = I i ∧ ρ 24 = .slice o1 3 (as.map bY) ∧ ρ 25 = I as.length ∧ ρ 26 = I i ∧ ρ 32 = .slice oc ec (cl.map gX) ∧ ρ 33 = I cl.length ∧ ρ 34 = I j ∧
     ∃f b0 b1 junk,m=s.push ⟨b0::b1::wk n (.slice o1 3 (as.map bY)) (.slice o2 e2 (rs.map bV)) f::junk,[]⟩∧∀a t,t<200→f (200*a+t)=if a=i then(cl.take j).any (fun p=>wi t p.1 p.2)else(decide (a<i)&&wA as a t))→
     go AP NT (.c (.loop Dm)::anp) ⟨ρ,m⟩=some (.tuple [OW ⟨n,⟨o1,3,as⟩,⟨o2,e2,rs⟩⟩,I 0],s):=by
    refine cq cl.length _ _ ?_ ?_
    ·rintro j ρ m hj ⟨h6,h7,nA,mR,nB,yJ,oX,l5,f,b0,b1,junk,rfl,hF⟩ fQ
     obtain⟨p,hp⟩:=get_some hj
     have oC:=bK hp
     have dD:ec=2:=by rcases pf with h|h;(rw[h]at hp;simp at hp);exact h
     subst dD
     have hr:=cr (f:=gX) (o:=oc) (es:=2) hp
     obtain⟨lo,bD⟩:=p
     have cH:=qd.cl _ oC
     simp only at cH
     have qh : ∀ (u : Int) ρ m, (ρ 6 = .ptr s.ag.length 2 0 ∧ ρ 7 = I i ∧ ρ 10 = .ptr s.ag.length (junk.length + 1 + 1 + 1) 0 ∧ ρ 11 = I u ∧ ρ 24 = .slice o1 3 (as.map bY) ∧ ρ 25 = I as.length ∧ ρ 26 = I i ∧ ρ 32 = .slice oc 2 (cl.map gX) ∧ ρ 33 = I cl.length ∧ ρ 34 = I j ∧ lo ≤ u ∧ u ≤ bD + 1 ∧
       ∃f b0 b1,m=s.push ⟨b0::b1::wk n (.slice o1 3 (as.map bY)) (.slice o2 e2 (rs.map bV)) f::(junk++[[I lo,I bD]]),[]⟩∧∀a t,t<200→f (200*a+t)=if a=i then((cl.take j).any (fun p=>wi t p.1 p.2)||(decide (lo≤(t:Int))&&decide ((t:Int)<u)))else(decide (a<i)&&wA as a t))→
       go AP NT (.c (.loop ID)::anq) ⟨ρ,m⟩=some (.tuple [OW ⟨n,⟨o1,3,as⟩,⟨o2,e2,rs⟩⟩,I 0],s):=by
      refine P5 bD _ _ ?_ ?_
      ·rintro u ρ m hu ⟨h6,h7,dm,er,nA,mR,nB,yJ,oX,l5,dZ,iA,f,b0,b1,rfl,hF⟩ Kn
       obtain⟨v,rfl⟩:∃v:Nat,u=v:=⟨u.toNat,by omega⟩
       have hd:decide ((v:Int)≤bD)=true:=bS hu
       have sd:idx (.v (.int .i64 (i:Int))) 4=some i:=Kl (by omega)
       have se:idx (.v (.int .i64 (v:Int))) 200=some v:=Kl (by omega)
       have ho:mq (wk n (.slice o1 3 (as.map bY)) (.slice o2 e2 (rs.map bV)) f) (0+3+i*200+v*1) [B true]=some (wk n (.slice o1 3 (as.map bY)) (.slice o2 e2 (rs.map bV)) fun q=>if q=i*200+v then true else f q):=by
        rw[show 0+3+i*200+v*1=3+(i*200+v)by omega];exact aqk (by omega)
       simp only[go_sem,ID,h6,h7,dm,er,hs,hd,sd,se,ho,bR (x:=(v:Int)+1) (by omega) (by omega),simprocAttr]
       refine Kn _ _ ?_
       refine⟨h6,h7,dm,rfl,nA,mR,nB,yJ,oX,l5,by omega,by omega,_,b0,b1,rfl,fun a t ht=>?_⟩
       show(if 200*a+t=i*200+v then true else f (200*a+t))=_
       rw[hF a t ht]
       by_cases ha:a=i
       ·subst ha
        rw[ak rfl,ak rfl]
        by_cases htv:t=v
        ·subst htv
         have e1:decide ((t:Int)<(t:Int)+1)=true:=bS (by omega)
         have e2:200*a+t=a*200+t:=by omega
         rw[ak e2,bS dZ,e1];simp
        ·have e2:¬200*a+t=a*200+v:=by omega
         have e3:decide ((t:Int)<(v:Int)+1)=decide ((t:Int)<v):=by
          by_cases h:(t:Int)<v
          ·rw[bS h,bS (by omega)]
          ·rw[ch h,ch (by omega)]
         rw[aq e2,e3]
       ·have e2:¬200*a+t=i*200+v:=by omega
        rw[aq ha,aq ha,aq e2]
      ·rintro u ρ m hu ⟨h6,h7,dm,er,nA,mR,nB,yJ,oX,l5,dZ,iA,f,b0,b1,rfl,hF⟩
       have hd:decide (u≤bD)=false:=ch (by omega)
       simp only[go_sem,ID,MZ,dm,er,l5,hd,bJ hj (show(cl.length:Int)<_ by omega),simprocAttr]
       refine fQ _ _ ?_
       refine⟨h6,h7,nA,mR,nB,yJ,oX,rfl,f,b0,b1,_,rfl,fun a t ht=>?_⟩
       rw[hF a t ht,fi hp,zL]
       have:u=bD+1:=by omega
       subst this
       have e:decide ((t:Int)<bD+1)=decide ((t:Int)≤bD):=by
        by_cases h:(t:Int)≤bD
        ·rw[bS h,bS (by omega)]
        ·rw[ch h,ch (by omega)]
       simp[wi,e]
     simp only[go_sem,Dm,yJ,oX,l5,hs,aR hj,hr,simprocAttr]
     refine qh lo _ _ ?_
     refine⟨h6,h7,rfl,rfl,nA,mR,nB,yJ,oX,l5,by omega,by omega,f,b0,b1,rfl,fun a t ht=>?_⟩
     rw[hF a t ht]
     have:(decide (lo≤(t:Int))&&decide ((t:Int)<lo))=false:=by
      by_cases h:lo≤(t:Int)
      ·rw[ch (show¬(t:Int)<lo by omega),nT]
      ·rw[ch h];rfl
     rw[this,Cl]
    ·rintro ρ m ⟨h6,h7,nA,mR,nB,yJ,oX,l5,f,b0,b1,junk,rfl,hF⟩
     simp only[go_sem,Dm,IE,nB,oX,l5,bM,bJ hi (show(as.length:Int)<_ by omega),simprocAttr]
     refine ih _ _ ?_
     refine⟨h6,nA,mR,rfl,f,b0,b1,_,rfl,fun a t ht=>?_⟩
     rw[hF a t ht,ig]
     by_cases ha:a=i
     ·subst ha;rw[ak rfl,bS (by omega),iF,WE]
     ·rw[aq ha]
      congr 1
      by_cases h:a<i
      ·rw[bS h,bS (by omega)]
      ·rw[ch h,ch (by omega)]
   simp only[go_sem,Ai,nA,mR,nB,hs,aR hi,hr,simprocAttr]
   refine PZ 0 _ _ (bh _) ?_
   refine⟨h6,rfl,nA,mR,nB,rfl,rfl,rfl,f,b0,b1,_,rfl,fun a t ht=>?_⟩
   rw[hF a t ht]
   by_cases ha:a=i
   ·subst ha;rw[ak rfl,ch (by omega)];simp
   ·rw[aq ha]
  ·rintro ρ m ⟨h6,nA,mR,nB,f,b0,b1,junk,rfl,hF⟩
   simp only[go_sem,Ai,Dn,h6,mR,nB,bM,ael cw gH,simprocAttr]
   have:f=AF as:=ahn fun a t ht=>by
    rw[hF a t ht,UD,show(200*a+t)/200=a by omega,show(200*a+t)%200=t by omega]
    by_cases h:a<as.length
    ·rw[bS h,iF]
    ·rw[ch h,jZ,wA,nZ (by omega)]
   rw[this];rfl
 rw[aL (show AP 51=some Au from rfl) rfl]
 have hz:mq (I 0::.slice .aA 0 []::.slice .aA 0 []::Ha 800) 0 [I n,.slice o1 e1 (as.map bY),.slice o2 e2 (rs.map bV)]=some (wk n (.slice o1 e1 (as.map bY)) (.slice o2 e2 (rs.map bV)) fun _=>false):=by
  rw[aa7,vr,ak (by simp[tq])];rfl
 have l8:kM 803 (wk n (.slice o1 e1 (as.map bY)) (.slice o2 e2 (rs.map bV)) fun _=>false)=true:=by
  rw[qB];refine⟨by simp[wk,tq],?_⟩
  simp[wk,AV.bu,V4]
 have avq:kM 803 (I 0::.slice .aA 0 []::.slice .aA 0 []::Ha 800)=true:=by
  rw[qB,aa7];refine⟨by simp[tq],?_⟩
  simp[AV.bu,V4]
 simp only[go_sem,MW,hs,hc,he,bq,fI,hz,l8,simprocAttr]
 refine sB 0 _ _ (bh _) ?_
 exact⟨rfl,rfl,rfl,rfl,_,_,_,[],rfl,fun a t _=>by simp⟩
end
instance : Inhabited R:=⟨⟨ByteArray.empty,0,0,0,0,⟨.aA,0,[]⟩,0⟩⟩
def W.rq (w:W) (i:Int):R:=(w.rs.l[i.toNat]?).getD default
def W.pH (w:W) (a:Int):Int:=((w.as.l[a.toNat]?).map (·.jn)).getD 0
theorem W.ZU {w:W} {i:Int} (h0:0≤i) (h:i<w.rs.l.length):w.rs.l[i.toNat]? =some (w.rq i):=by
 obtain⟨x,hx⟩:=get_some (l:=w.rs.l) (k:=i.toNat) (by omega)
 rw[W.rq,hx];rfl
theorem W.pG {w:W} {i:Int} (h0:0≤i) (h:i<w.rs.l.length):w.rq i∈w.rs.l:=bK (W.ZU h0 h)
structure bW (w:W) (p:P):Prop where
 r0:0≤p.req
 r1:p.req<w.rs.l.length
 s0:0≤p.start
 s1:p.start≤200
 an:∀a∈p.an.l,0≤a∧a<w.as.l.length
 ok:p.an.ok 1
 len:(p.an.l.length:Int)<9223372036854775808
structure Wk (w:W):Prop where
 ok:w.Ok
 tm:w.kY
 v:Sm w
def l4 (w:W) (p:P):Int:=p.start+(w.rq p.req).len
def uC (w:W) (a b:P):Bool:=a.an.l.any fun n=>(b.an.l.any fun m=>decide (n=m))&&decide (b.start-l4 w a<(if(w.rq a.req).bU=(w.rq b.req).bU then 0 else w.pH n))
def cQ (w:W) (a b:P):Bool:=if a.req=b.req then true else if b.start<a.start then uC w b a else uC w a b
def cU (w:W) (a st len:Int):Bool:=match w.as.l[a.toNat]? with
 |some x=>!(List.range len.toNat).any fun q=>isClosed x (st+q)
 |none=>true
section
variable{s:ae} {w:W}
theorem asY {n:Int} {a r:AV} {f:Nat→Bool} {i st len:Nat} (hi:i<4) (h:st+len≤200):iU (.arr 200 1) (.bo (wk n a r f) (3+i*200)) (some (I (st:Int))) (some (I ((st+len:Nat):Int))) none=some (.slice .any 1 ((tS f (i*200+st) len).map fun b=>[B b])):=by
 have h1:lB (some (I ((st+len:Nat):Int))) false 200 200=some (st+len):=by simp[lB,asNat];omega
 have h2:kC (some (I (st:Int))) (st+len)=some st:=by simp[kC,asNat];omega
 have h3:3+i*200+200*1≤(wk n a r f).length:=by simp[wk,tq];omega
 have h4:chunks 1 (st+len-st) ((wk n a r f).drop (3+i*200+st*1))=(tS f (i*200+st) len).map fun b=>[B b]:=by
  rw[show st+len-st=len by omega,show 3+i*200+st*1=3+(i*200+st)by omega]
  exact ad6 (by omega)
 simp only[iU,h1,h2,rB,eB,dt,eL,h3,bZ,h4]
theorem asA {f:Nat→Bool} {j m:Nat}:(tS f j m).length=m:=by simp[tS]
theorem abW {m:Nat} {f g:Nat→Bool} (h:∀q,q<m→f q=g q):(List.range m).any f=(List.range m).any g:=by
 rw[rr]
 simp only[fS,pM]
 constructor<;>rintro⟨q,h1,h2⟩<;>exact⟨q,h1,by simpa[h q h1]using h2⟩
theorem aaW {a st len:Int} (hw:Wk w) (h0:0≤a) (h1:a<w.as.l.length) (h2:0≤st) (h3:0≤len) (h4:st+len≤200):
  aw AP (.fn 85) [OW w,I a,I st,I len] s=some (B (cU w a st len),s):=by
 have oZ:=hw.v.al
 obtain⟨i,rfl⟩:∃i:Nat,a=i:=⟨a.toNat,by omega⟩
 obtain⟨t,rfl⟩:∃i:Nat,st=i:=⟨st.toNat,by omega⟩
 obtain⟨m,rfl⟩:∃i:Nat,len=i:=⟨len.toNat,by omega⟩
 have sd:idx (.v (.int .i64 (i:Int))) 4=some i:=Kl (by omega)
 have ss:=asY (n:=w.mC) (a:=w.as.v bY) (r:=w.rs.v bV) (f:=AF w.as.l) (i:=i) (st:=t) (len:=m) (by omega) (by omega)
 have xh:IntKind.i64.wrap ((t:Int)+(m:Int))=((t+m:Nat):Int):=by rw[bR]<;>omega
 have jO:∀r,aw AP (.fn 102) [.slice .any 1 ((tS (AF w.as.l) (i*200+t) m).map fun b=>[B b]),B true] (s.push r)=some (B ((tS (AF w.as.l) (i*200+t) m).any fun a=>(true==a)),s.push r):=fun r=>atY (.inr rfl) (by rw[asA];omega)
 rw[aL (show AP 85=some EJ from rfl) rfl]
 simp only[OW]
 simp only[Sl.v]at ss jO
 simp only[go_sem,TJ,sd,ss,xh,jO,simprocAttr]
 rw[asz]
 congr 4
 unfold cU
 obtain⟨x,hx⟩:=get_some (l:=w.as.l) (k:=i) (by omega)
 simp only[Hf,hx]
 congr 1
 refine abW fun q hq=>?_
 rw[UD,show(i*200+t+q)/200=i by omega,show(i*200+t+q)%200=t+q by omega]
 simp only[wA,hx]
 rfl
theorem qg (hw:Wk w) {i:Int} (h0:0≤i) (h1:i<w.rs.l.length):jS none 7 (.slice w.rs.o w.rs.e (w.rs.l.map bV)) (I i)=some (.bo (bV (w.rq i)) 0):=by
 have:=Sl.ix (f:=bV) hw.ok.rs (W.ZU h0 h1)
 rwa [show((i.toNat:Nat):Int)=i by omega]at this
theorem Kt (hw:Wk w) {i:Int} (h0:0≤i) (h1:i<w.as.l.length):∃a,w.as.l[i.toNat]? =some a∧w.pH i=a.jn∧jS none 3 (.slice w.as.o w.as.e (w.as.l.map bY)) (I i)=some (.bo (bY a) 0):=by
 obtain⟨x,hx⟩:=get_some (l:=w.as.l) (k:=i.toNat) (by omega)
 have:=Sl.ix (f:=bY) hw.ok.as hx
 refine⟨x,hx,by rw[W.pH,hx];rfl,?_⟩
 rwa [show((i.toNat:Nat):Int)=i by omega]at this
theorem Wk.rq (hw:Wk w) {i:Int} (h0:0≤i) (h1:i<w.rs.l.length):LM w.mC w.as.l.length (w.rq i):=hw.v.r _ (W.pG h0 h1)
theorem Wk.pH (hw:Wk w) {i:Int} (h0:0≤i) (h1:i<w.as.l.length):0≤w.pH i∧w.pH i≤50:=by
 obtain⟨x,hx,he,_⟩:=Kt hw h0 h1
 have:=hw.v.a x (bK hx)
 rw[he];exact⟨this.asB,this.asC⟩
theorem Wk.len (hw:Wk w) {i:Int} (h0:0≤i) (h1:i<w.rs.l.length):1≤(w.rq i).len∧(w.rq i).len≤200:=by
 have h:=hw.rq h0 h1
 have:=hw.v.n2
 exact⟨h.qi,by have:=h.pz;have:=h.qX;have:=h.aZ;omega⟩
theorem atx {p:P} (hs:Ok s) (hw:Wk w) (h0:0≤p.req) (h1:p.req<w.rs.l.length) (h2:0≤p.start) (h3:p.start≤200):aw AP (.fn 123) [OW w,.agg (aj p)] s=some (I (l4 w p),s):=by
 have hl:=hw.len h0 h1
 rw[aL (show AP 123=some EI from rfl) rfl]
 simp only[OW]
 simp only[go_sem,TI,xH,qg hw h0 h1,bR (x:=p.start+(w.rq p.req).len) (by omega) (by omega),simprocAttr]
 rfl
theorem atv {a b:P} {n:Int} {d1 d2 d3 d4 b1 b2 b3 b4:Nat} {c:Bool} (hs:Ok s) (hw:Wk w) (ha:bW w a) (hb:bW w b) (fE:0≤n) (F1:n<w.as.l.length)
  (e1:s.box d1 b1=some [OW w]) (e2:s.box d2 b2=some [B c]) (e3:s.box d3 b3=some (aj b)) (e4:s.box d4 b4=some (aj a)):
  aw AP (.fn 122) [I n,.ptr d1 b1 0,.ptr d2 b2 0,.ptr d3 b3 0,.ptr d4 b4 0] s=some (B ((b.an.l.any fun m=>decide (n=m))&&decide (b.start-l4 w a<(if c=true then 0 else w.pH n))),s):=by
 obtain⟨x,hx,bX,bG⟩:=Kt hw fE F1
 have hl:=hw.len ha.r0 ha.r1
 have h3:=hb.s0
 have h4:=hb.s1
 have h5:=ha.s0
 have h6:=ha.s1
 have hc:∀r,aw AP (.fn 61) [.slice b.an.o b.an.e (b.an.l.map fun a=>[I a]),I n] (s.push r)=some (B (b.an.l.any fun m=>decide (n=m)),s.push r):=fun r=>Lf hb.ok.1 hb.len
 have he:∀r,aw AP (.fn 123) [OW w,.agg (aj a)] (cB (s.push r))=some (I (l4 w a),cB (s.push r)):=fun r=>atx sF hw ha.r0 ha.r1 ha.s0 ha.s1
 have Bk:0≤l4 w a∧l4 w a≤400:=by unfold l4;omega
 rw[aL (show AP 122=some EF from rfl) rfl]
 simp only[OW]at e1 he⊢
 simp only[go_sem,TF,fN e1,fN e2,fN e3,fN e4,atG,bG,hc,simprocAttr]
 simp only[aj,Sl.v]at he
 cases c<;>simp only[go_sem,he,bR (x:=b.start-l4 w a) (by omega) (by omega),bX,eB,simprocAttr]
theorem aaV {a b:P} (hs:Ok s) (hw:Wk w) (ha:bW w a) (hb:bW w b):aw AP (.fn 105) [OW w,.agg (aj a),.agg (aj b)] s=some (B (cQ w a b),s):=by
 have key:∀(a b:P) (junk:List (List AV)),bW w a→bW w b→aw AP (.fn 121) [.slice a.an.o a.an.e (a.an.l.map aD),.fn 122 [] [.ptr s.ag.length 0 0,.ptr s.ag.length 3 0,.ptr s.ag.length 2 0,.ptr s.ag.length 1 0]] (s.push ⟨[OW w]::aj a::aj b::[B (decide ((w.rq a.req).bU=(w.rq b.req).bU))]::junk,[]⟩)=some (B (uC w a b),s.push ⟨[OW w]::aj a::aj b::[B (decide ((w.rq a.req).bU=(w.rq b.req).bU))]::junk,[]⟩):=by
  intro a b junk ha hb
  refine atX ha.ok.1 ha.len fun n hn r q=>?_
  have jj:=ha.an n hn
  have bx:∀{k:Nat} {cs:List AV},([OW w]::aj a::aj b::[B (decide ((w.rq a.req).bU=(w.rq b.req).bU))]::junk)[k]? =some cs→(((s.push ⟨[OW w]::aj a::aj b::[B (decide ((w.rq a.req).bU=(w.rq b.req).bU))]::junk,[]⟩).push r).push q).box s.ag.length k=some cs:=fun h=>fN (fN (by rw[iI];exact h) _) _
  rw[atv (((hs.push _).push _).push _) hw ha hb jj.1 jj.2 (bx rfl) (bx rfl) (bx rfl) (bx rfl)]
  simp only[dx]
 rw[aL (show AP 105=some EE from rfl) rfl]
 simp only[OW]at key⊢
 have ra:=qg hw ha.r0 ha.r1
 have rb:=qg hw hb.r0 hb.r1
 simp only[go_sem,TE,hs,xH,ra,rb,simprocAttr]
 unfold cQ
 by_cases h1:a.req=b.req
 ·simp only[h1,pR,fY,bZ]
 ·simp only[h1,th,iw,dt]
  by_cases h2:b.start<a.start
  ·have k:=key b a [] hb ha
   simp only[aj,Sl.v]at k
   simp only[h2,pR,fY,bZ]
   simp only[go_sem,k,simprocAttr]
  ·have k:=key a b [] ha hb
   simp only[aj,Sl.v]at k
   simp only[h2,th,iw,dt]
   simp only[go_sem,k,simprocAttr]
theorem atw {a b:P} {d1 d2 b1 b2:Nat} (hs:Ok s) (hw:Wk w) (ha:bW w a) (hb:bW w b) (e1:s.box d1 b1=some [OW w]) (e2:s.box d2 b2=some (aj b)):
  aw AP (.fn 104) [.agg (aj a),.ptr d1 b1 0,.ptr d2 b2 0] s=some (B (cQ w a b),s):=by
 have h:=fun r=>aaV (hs.push r) hw ha hb
 rw[aL (show AP 104=some EH from rfl) rfl]
 simp only[aj,Sl.v]at e2 h⊢
 simp only[go_sem,TH,fN e1,fN e2,h,simprocAttr]
def cS (w:W) (p:P) (l:List P):Bool:=l.any fun o=>cQ w o p
theorem Rm {p:P} {l:List P} {o:Own} {e:Nat} (hs:Ok s) (hw:Wk w) (hp:bW w p) (hl:∀x∈l,bW w x) (he:l=[]∨e=3) (hn:(l.length:Int)<9223372036854775808):
  aw AP (.fn 86) [OW w,.agg (aj p),.slice o e (l.map aj)] s=some (B (cS w p l),s):=by
 have h:∀r,aw AP (.fn 103) [.slice o e (l.map aj),.fn 104 [] [.ptr s.ag.length 0 0,.ptr s.ag.length 1 0]] (s.push ⟨[OW w]::aj p::r,[]⟩)=some (B (cS w p l),s.push ⟨[OW w]::aj p::r,[]⟩):=fun r=>
  atV he hn fun a ha r q=>atw (((hs.push _).push _).push _) hw (hl a ha) hp (fN (fN Nv _) _) (fN (fN T6 _) _)
 rw[aL (show AP 86=some EG from rfl) rfl]
 simp only[OW,aj,Sl.v]at h⊢
 simp only[go_sem,TG,h,simprocAttr]
theorem aaX {n:Int} (hw:Wk w):aw AP (.fn 25) [OW w,I n] s=some (I (cond (wi n 0 (w.rs.l.length-1)) 0 6),s):=by
 have:=hw.v.rl
 rw[aL (show AP 25=some EO from rfl) rfl]
 simp only[OW]
 simp only[go_sem,TN,xH,bR (x:=(w.rs.l.length:Int)-1) (by omega) (by omega),vw,lP,simprocAttr]
end
theorem ae5 {o:Own} {e e2:Nat} {xs ys:List (List AV)}:pS .slice (.slice o e xs) (.slice .aA e2 ys)=some o.isNil:=by
 cases o<;>rfl
theorem ao9:Own.aA.isNil=true:=rfl
attribute [go_sem] ae5 ao9
def bd:Nat→List Int→List (List Int)
 |0,_=>[[]]
 |_+1,[]=>[]
 |k+1,x::r=>(bd k r).map (x::·)++bd (k+1) r
theorem tt:∀{k:Nat} {l g:List Int},g∈bd k l→g.length=k
 |0,_,g,h=>by simp[bd]at h;simp[h]
 |k+1,[],g,h=>by simp[bd]at h
 |k+1,x::r,g,h=>by
  simp only[bd,c9,cC]at h
  rcases h with⟨q,hq,rfl⟩|h
  ·simp[tt hq]
  ·exact tt h
theorem A3:∀{k:Nat} {l g:List Int},g∈bd k l→g.Sublist l
 |0,_,g,h=>by simp[bd]at h;simp[h]
 |k+1,[],g,h=>by simp[bd]at h
 |k+1,x::r,g,h=>by
  simp only[bd,c9,cC]at h
  rcases h with⟨q,hq,rfl⟩|h
  ·exact(A3 hq).cons_cons x
  ·exact(A3 h).cons x
section
variable{s:ae} {w:W}
def BH (l:List Int) (x:AV):Prop:=(l=[]∧x=.slice .aA 0 [])∨(l≠[]∧∃o,o.isNil=false∧x=.slice o 1 (l.map aD))
theorem BH.len {l:List Int} {x:AV} (h:BH l x):mm false x=some (I l.length):=by
 rcases h with⟨rfl,rfl⟩|⟨_,o,_,rfl⟩
 ·rfl
 ·simp[mm,AV.int]
theorem BH.cut {l:List Int} {x:AV} (h:BH l x):∃x',iU (.sl 1) x none (some (I l.length)) (some (I l.length))=some x'∧
  ∀(q:ae) (b:List (List AV)) (tk:List (Option Nat)) (n:Int),l.length+1≤4294967296→∃tk',ej (q.push ⟨b,tk⟩) 1 x' (.slice .full 1 [[I n]])=some (.slice (.tok q.ag.length tk.length) 1 ((l++[n]).map aD),q.push ⟨b,tk'⟩):=by
 rcases h with⟨rfl,rfl⟩|⟨hn,o,ho,rfl⟩
 ·refine⟨.slice .aA 0 [],rfl,fun q b tk n _=>⟨tk++[some 1],?_⟩⟩
  simp[ej,Own.isNil,di,oH,nq]
 ·have h1:asNat (I (l.length:Int)) l.length=some l.length:=by simp[asNat]
  refine⟨.slice .full 1 (l.map aD),?_,fun q b tk n hl=>⟨tk++[some (l.length+1)],?_⟩⟩
  ·have hp:0<l.length:=Cr.2 hn
   have ht:List.take l.length (List.map aD l)=List.map aD l:=by rw[←bE (f:=aD),ig]
   simp[iU,qY,lB,kC,h1,xE,ho,hn,hp,ht]
  ·simp[ej,Own.isNil,di,oH,nq,hl]
theorem aao {α:Type} {f:α→List AV} {o:Own} {es k:Nat} {l:List α} (hk:k≤l.length):∃o',iU (.sl es) (.slice o es (l.map f)) (some (.v (.int .i64 (k:Int)))) none none=some (.slice o' es ((l.drop k).map f)):=by
 have h1:kC (some (AV.v (.int .i64 (k:Int)))) l.length=some k:=by simp[kC,asNat];omega
 refine⟨xE o false (k==0&&(l.map f).length==(l.map f).length) ((l.map f).length==(l.map f).length&&0<(l.map f).length),?_⟩
 have ht:List.take l.length (List.map f l)=List.map f l:=by rw[←bE (f:=f),ig]
 simp[iU,qY,lB,h1,ht,List.map_drop]
theorem agh {rs:Nat} {ρ:Nat→AV} {m:ae}:finish [.tmp rs] true ⟨ρ,m⟩=kD m (ρ rs):=rfl
theorem Zd {m:ae} {e:Nat} {xs:List (List AV)}:kD m (.slice .aA e xs)=some (.slice .aA e xs,m.pop):=rfl
theorem aqn {r:Rec} {g e:Nat} {xs:List (List AV)} {m:ae}:kD ((cB m).push r) (.slice (.tok m.ag.length g) e xs)=some (.slice .any e xs,cB m):=by
 have:¬(((cB m).push r).ro<m.ag.length):=zU _
 simp[kD,this,pop_push]
attribute [go_sem] agh Zd aqn
theorem aa5 {l:List Int} {x:AV} (hx:BH l x) (hl:l.length≤4294967296):aw AP (.fn 59) [x] (cB s)=some (bp 1 (l.map aD),cB s):=by
 rw[aL (show AP 59=some ER from rfl) rfl]
 rcases hx with⟨rfl,rfl⟩|⟨hn,o,ho,rfl⟩
 ·simp only[go_sem,Ni,simprocAttr];rfl
 ·have he:(l.map aD).isEmpty=false:=by cases l<;>simp_all
  have ha:ej ((cB s).push ⟨[],[]⟩) 1 (.slice .full 1 []) (.slice o 1 (l.map aD))=some (.slice (.tok s.ag.length 0) 1 (l.map aD),(cB s).push ⟨[],[some l.length]⟩):=by
   have h2:(cB s).ag.length=s.ag.length:=rfl
   have h3:=oH (cB s) ⟨[],[]⟩
   have h4:=nq (cB s) ⟨[],[]⟩ l.length
   rw[h2]at h3 h4
   simp[ej,Own.isNil,di,hl,hn,h2,h3,h4]
  have hv:bp 1 (l.map aD)=.slice .any 1 (l.map aD):=by cases l<;>simp_all [bp]
  rw[hv]
  simp only[go_sem,Ni,ho,ha,simprocAttr]
theorem ahp {ι : Type} {L N NL M : Nat} {base : ι → ae} {Iv : List (List Int) → ι → Prop} {stop : List (List Int) → List Int → Bool} {O : List (List Int) → List Int → ι → Prop} {X : List Int → Prop} (h : Hand AP L (fun l => bp 1 (l.map aD)) base Iv stop O X N NL M) {cnt : Nat} (p8 : (cnt : Int) < 1000000)
    {rg:Rec} (hy:rg.boxes[0]? =some [.yield L]) (hg:rg.boxes[1]? =some [.fn 58 [] [.bo [I cnt] 0,.ptr N 0 0,.ptr N 1 0]]):
    ∀ (n : Nat) (pre rest : List Int) (x : AV) (o : Own) (e : Nat) (i : ι) (done : List (List Int)) (B : List Rec) (ls : List dA), rest.length ≤ n → pre.length ≤ cnt → BH pre x → (rest = [] ∨ e = 1) → (rest.length : Int) < 1000000 →
      done.length+(bd (cnt-pre.length) rest).length≤M→Iv done i→(∀g∈bd (cnt-pre.length) rest,X (pre++g))→
      ∃b i',aw AP (.fn 58) [x,.slice o e (rest.map aD),.bo [I cnt] 0,.ptr N 0 0,.ptr N 1 0] (up (base i) (rg::B) ls)=some (AV.v (.bool b),up (base i') (rg::B) ls)∧Ends Iv stop O done ((bd (cnt-pre.length) rest).map (pre++·)) b i':=by
  intro n
  induction n with
  | zero =>
    intro pre rest x o e i done B ls hr hp hx he hl hM hI hX
    have jw:rest=[]:=uf (by omega)
    subst jw
    have b0:(up (base i) (rg::B) ls).box N 0=some [.yield L]:=by rw[←h.len i,Lc,hy]
    have bH:=(h.ok i).up (B:=rg::B) (ls:=ls)
    by_cases hc:pre.length=cnt
    · obtain ⟨b, i', h1, h2⟩ := h.one (B := rg :: B) (ls := ls) (by rw [show cnt - pre.length = 0 by omega] at hM; simp [bd] at hM; omega) hI (by have := hX [] (by rw [show cnt - pre.length = 0 by omega]; simp [bd]); simpa using this) ⟨[], []⟩
      refine⟨b,i',?_,by rw[show cnt-pre.length=0 by omega];simpa[bd]using h2⟩
      rw[aL (show AP 58=some wu from rfl) rfl]
      have aP:∀q:ae,aw AP (.fn 59) [x] (cB q)=some (bp 1 (pre.map aD),cB q):=fun q=>aa5 hx (by omega)
      simp only[go_sem,Dj,hx.len,hc,fN b0,aP,h1,simprocAttr]
    · have hk : cnt - pre.length = (cnt - pre.length - 1) + 1 := by omega
      refine⟨true,i,?_,by rw[hk];simp[bd,Ends,hI]⟩
      rw[aL (show AP 58=some wu from rfl) rfl]
      have hd:decide ((pre.length:Int)=(cnt:Int))=false:=by simp;omega
      simp only[go_sem,Dj,hx.len,hd,fp,simprocAttr]
      rw[go_loop]
      simp only[go_sem,Dk,IC,simprocAttr]
  | succ n PJ =>
    intro pre rest x o e i done B ls hr hp hx he hl hM hI hX
    have b0:∀i,(up (base i) (rg::B) ls).box N 0=some [.yield L]:=fun i=>by have:=Lc (S:=base i) (B:=B) (ls:=ls) (r:=rg) (b:=0);rw[h.len i]at this;rw[this,hy]
    have b1:∀i,(up (base i) (rg::B) ls).box N 1=some [.fn 58 [] [.bo [I cnt] 0,.ptr N 0 0,.ptr N 1 0]]:=fun i=>by have:=Lc (S:=base i) (B:=B) (ls:=ls) (r:=rg) (b:=1);rw[h.len i]at this;rw[this,hg]
    have bH:∀i,Ok (up (base i) (rg::B) ls):=fun i=>(h.ok i).up (B:=rg::B) (ls:=ls)
    by_cases hc:pre.length=cnt
    · obtain ⟨b, i', h1, h2⟩ := h.one (B := rg :: B) (ls := ls) (by rw [show cnt - pre.length = 0 by omega] at hM; simp [bd] at hM; omega) hI (by have := hX [] (by rw [show cnt - pre.length = 0 by omega]; simp [bd]); simpa using this) ⟨[], []⟩
      refine⟨b,i',?_,by rw[show cnt-pre.length=0 by omega];simpa[bd]using h2⟩
      rw[aL (show AP 58=some wu from rfl) rfl]
      have aP:∀q:ae,aw AP (.fn 59) [x] (cB q)=some (bp 1 (pre.map aD),cB q):=fun q=>aa5 hx (by omega)
      simp only[go_sem,Dj,hx.len,hc,fN (b0 i),aP,h1,simprocAttr]
    · obtain ⟨k, hk⟩ : ∃ k, cnt - pre.length = k + 1 := ⟨cnt - pre.length - 1, by omega⟩
      rw[hk]at hX hM⊢
      have hd:decide ((pre.length:Int)=(cnt:Int))=false:=by simp;omega
      have key:∀j ρ m,j≤rest.length→(ρ 0=x∧ρ 1=.slice o e (rest.map aD)∧ρ 4=.ptr N 1 0∧ρ 18=.slice o e (rest.map aD)∧ρ 19=I rest.length∧ρ 20=I j∧
          ∃i tk qf,m=(up (base i) (rg::B) ls).push ⟨[],tk⟩∧qf++(bd (k+1) (rest.drop j)).map (pre++·)=(bd (k+1) rest).map (pre++·)∧Ends Iv stop O done qf true i)→
          ∃b i',go AP afI (.c (.loop Dk)::anm) ⟨ρ,m⟩=some (AV.v (.bool b),up (base i') (rg::B) ls)∧Ends Iv stop O done ((bd (k+1) rest).map (pre++·)) b i':=by
        refine Yq rest.length _ (fun r=>∃b i',r=some (AV.v (.bool b),up (base i') (rg::B) ls)∧Ends Iv stop O done ((bd (k+1) rest).map (pre++·)) b i') ?_ ?_
        · rintro j ρ m hj ⟨h0, h1, h4, gb, pV, Oc, i, tk, qf, rfl, hits, hE⟩ ih
          obtain⟨y,tH⟩:=get_some hj
          have kN:e=1:=by rcases he with h|h;(rw[h]at tH;simp at tH);exact h
          subst kN
          have gH:=cr (f:=aD) (o:=o) (es:=1) tH
          obtain⟨x',vd,oE⟩:=hx.cut
          obtain⟨tk',ve⟩:=oE (up (base i) (rg::B) ls) [] tk y (by omega)
          have hw:IntKind.i64.wrap ((j:Int)+1)=((j+1:Nat):Int):=by rw[bR]<;>omega
          obtain⟨o',po⟩:=aao (f:=aD) (o:=o) (es:=1) (l:=rest) (k:=j+1) (by omega)
          have JM:rest.drop j=y::rest.drop (j+1):=eo tH
          have Pr:(bd (k+1) (rest.drop j)).map (pre++·)=(bd k (rest.drop (j+1))).map ((pre++[y])++·)++(bd (k+1) (rest.drop (j+1))).map (pre++·):=by
            rw[JM];simp[bd,Ry]
          have iP:cnt-(pre++[y]).length=k:=by simp;omega
          have hXs:∀g∈bd (k+1) (rest.drop j),X (pre++g):=fun g hg=>by
            have hm:pre++g∈(bd (k+1) rest).map (pre++·):=by
              rw[←hits];exact Hq _ (cC.2 ⟨g,hg,rfl⟩)
            obtain⟨g',bz,e'⟩:=cC.1 hm
            have e':pre++g'=pre++g:=e'
            rw[←e'];exact hX g' bz
          obtain⟨b,i',dY,gC⟩:=PJ (pre++[y]) (rest.drop (j+1)) (.slice (.tok (up (base i) (rg::B) ls).ag.length tk.length) 1 ((pre++[y]).map aD)) o' 1 i (done++qf) (B++[⟨[],tk'⟩]) ls (by rw[sX];omega) (by simp;omega)
            (.inr ⟨by simp,_,rfl,rfl⟩) (.inr rfl) (by rw[sX];omega) (by
              have hh:=iy List.length hits
              rw[Pr]at hh
              simp only[ck,bE]at hh⊢
              simp only[ck,xT]at iP
              rw[show cnt-(pre.length+[y].length)=k from iP];omega) hE.all (by
              rw[iP];intro g hg
              have:=hXs (y::g) (by rw[JM];simp only[bd];exact n7 _ (cC.2 ⟨g,hg,rfl⟩))
              simpa using this)
          rw[iP]at gC
          have Xg:∀i:ι,up (base i) (rg::(B++[⟨[],tk'⟩])) ls=(up (base i) (rg::B) ls).push ⟨[],tk'⟩:=fun i=>by rw[Lb];rfl
          rw[Xg,Xg]at dY
          simp only[go_sem,Dk,h0,h1,h4,gb,pV,Oc,aR hj,gH,fN (b1 i),hx.len,vd,ve,hw,po,dY,simprocAttr]
          cases b with
          | true =>
            simp only[go_sem,simprocAttr]
            refine ih _ _ ?_
            refine⟨h0,h1,h4,gb,pV,rfl,i',tk',qf++(bd k (rest.drop (j+1))).map ((pre++[y])++·),rfl,?_,?_⟩
            · rw[gL,←Pr,hits]
            · exact hE.HM gC
          | false =>
            simp only[go_sem,simprocAttr]
            refine⟨false,i',rfl,?_⟩
            rw[←hits,Pr,←gL]
            exact(hE.HM gC).SB _
        · rintro ρ m ⟨h0, h1, h4, gb, pV, Oc, i, tk, qf, rfl, hits, hE⟩
          simp only[go_sem,Dk,IC,pV,Oc,bM,simprocAttr]
          refine⟨true,i,rfl,?_⟩
          rw[eE]at hits
          simp only[bd,nj,iG]at hits
          rw[←hits];exact hE
      rw[aL (show AP 58=some wu from rfl) rfl]
      simp only[go_sem,Dj,hx.len,hd,simprocAttr]
      refine key 0 _ _ (bh _) ?_
      exact⟨rfl,rfl,rfl,rfl,rfl,rfl,i,[],[],rfl,by simp,⟨rfl,by simpa using hI⟩⟩
theorem V6 {ι:Type} {L N NL M:Nat} {base:ι→ae} {Iv:List (List Int)→ι→Prop} {stop:List (List Int)→List Int→Bool} {O:List (List Int)→List Int→ι→Prop} {X:List Int→Prop} (h:Hand AP L (fun l=>bp 1 (l.map aD)) base Iv stop O X N NL M) {cnt:Nat} (p8:(cnt:Int)<1000000)
  {l:List Int} {o:Own} {e:Nat} {i:ι} {done:List (List Int)} (he:l=[]∨e=1) (hl:(l.length:Int)<1000000) (hM:done.length+(bd cnt l).length≤M) (hI:Iv done i) (hX:∀g∈bd cnt l,X g):
  ∃b i',aw AP (.fn 57) [.yield L,.bo [I cnt] 0,.bo [.slice o e (l.map aD)] 0] (base i)=some (.tuple [],base i')∧Ends Iv stop O done (bd cnt l) b i':=by
 have bH:=h.ok i
 have hlen:=h.len
 obtain⟨b,i',h1,h2⟩:=ahp h p8 (rg:=⟨[[.yield L],[.fn 58 [] [.bo [I cnt] 0,.ptr N 0 0,.ptr N 1 0]]],[]⟩) rfl rfl l.length [] l (.slice .aA 0 []) o e i done [] [] (aH _) (bh _) (.inl ⟨rfl,rfl⟩) he hl hM hI (by simpa using hX)
 refine⟨b,i',?_,by simpa using h2⟩
 rw[aL (show AP 57=some En from rfl) rfl]
 have hp:∀i:ι,up (base i) [⟨[[.yield L],[.fn 58 [] [.bo [I cnt] 0,.ptr N 0 0,.ptr N 1 0]]],[]⟩] []=(base i).push ⟨[[.yield L],[.fn 58 [] [.bo [I cnt] 0,.ptr N 0 0,.ptr N 1 0]]],[]⟩:=fun i=>QA.symm
 rw[hp,hp]at h1
 rw[←hlen i]at h1
 simp only[go_sem,Tr,bH,h1,simprocAttr]
theorem aob {m:ae} {f:FuncId} {caps:List AV}:ed m (.fn f [] caps)=(ml m caps).map (.fn f [] ·):=rfl
theorem an4 {m:ae}:ml m []=some []:=rfl
theorem an5 {q:ae} {r:Rec} {b off:Nat} {rest:List AV}:ml (q.push r) (.ptr q.ag.length b off::rest)=((r.boxes[b]?).bind closeAll).bind fun cs=>(ml (q.push r) rest).map (.bo cs off::·):=by
 rw[ml,ak (by rw[fw]),iI]
 cases(r.boxes[b]?).bind closeAll with
 |none=>rfl
 |some cs=>cases ml (q.push r) rest<;>rfl
attribute [go_sem] aob an4 an5
theorem ZZ {o:Own} {es:Nat} {rows:List (List AV)} {c:AV} {n:Int} (hl:(AV.slice o es rows).close=some c) (hs:Ok s):aw AP (.fn 27) [.slice o es rows,I n] s=some (.fn 57 [] [.bo [I n] 0,.bo [c] 0],s):=by
 rw[aL (show AP 27=some Em from rfl) rfl]
 simp only[go_sem,Tq,hl,simprocAttr]
def tR (w:W) (q:R) (st:Int):List Int:=q.an.l.filter fun a=>cU w a st q.len
def mr (w:W) (i st:Int):List P:=(bd (w.rq i).need.toNat (tR w (w.rq i) st)).map fun g=>⟨i,st,eW g⟩
def jX (w:W) (i:Int):Int→Nat→List P
 |_,0=>[]
 |st,n+1=>mr w i st++jX w i (st+1) n
def cY (w:W) (i:Int):List P:=jX w i (w.rq i).lo ((w.rq i).hi-(w.rq i).len+2-(w.rq i).lo).toNat
theorem abG {g:List Int} (h:g≠[]):bp 1 (g.map aD)=(eW g).v aD:=by
 cases g with
 |nil=>exact absurd rfl h
 |cons a r=>rfl
section
variable{ι:Type} {L N NL M:Nat} {base:ι→ae} {Iv:List P→ι→Prop} {stop:List P→P→Bool} {O:List P→P→ι→Prop} {X:P→Prop}
abbrev tN (base:ι→ae) (R:Rec) (ρ:Nat→AV) (j:ι×Option c8):ae:=up (base j.1) [R] [⟨j.2.isNone,j.2,ρ,[54],kj,kn⟩]
theorem aqW {S S':ae} {l L d k:Nat} {ρ:Nat→AV} {xs:List (List AV)} {i st:Int} {b:Bool} (hR:mG l ⟨true,none,ρ,[54],kj,kn⟩ S) (JD:mG l ⟨true,none,ρ,[54],kj,kn⟩ S') (hS:Ok S)
  (h2:ρ 2=.bo [I i] 0) (h3:ρ 3=.ptr d 0 0) (h5:ρ 5=.ptr d k 0) (b0:S.box d 0=some [.yield L]) (bk:S.box d k=some [I st])
  (hc:aw AP (.yield L) [.agg [I i,I st,.slice .any 1 xs]] ((busy l S).push ⟨[],[]⟩)=some (AV.v (.bool b),(busy l S').push ⟨[],[]⟩)):
  aw AP (.yield l) [.slice .any 1 xs] S=some (AV.v (.bool b),if b=true then S' else over l .ret S'):=by
 refine(Nw hR rfl).trans ?_
 have k0:=fun r=>fN (m:=busy l S) b0 r
 have kk:=fun r=>fN (m:=busy l S) bk r
 simp only[go_sem,kj,Jq hR,GQ,simprocAttr]
 simp only[go_sem,kn,h2,h3,h5,k0,kk,hc,simprocAttr]
 cases b with
 |true=>simp only[go_sem,NZ JD,simprocAttr]
 |false=>simp only[go_sem,eB,simprocAttr]
theorem aqT (h:Hand AP L (fun p=>.agg (aj p)) base Iv stop O X N NL M) {R:Rec} {ρ:Nat→AV} {i st:Int} {k:Nat} {d0:List P} {n:Nat}
  (h2:ρ 2=.bo [I i] 0) (h3:ρ 3=.ptr N 0 0) (h5:ρ 5=.ptr N k 0) (b0:R.boxes[0]? =some [.yield L]) (bk:R.boxes[k]? =some [I st]):
  Hand AP NL (fun g=>bp 1 (g.map aD)) (tN base R ρ) (fun dn j=>j.2=none∧Iv (d0++dn.map fun g=>⟨i,st,eW g⟩) j.1) (fun dn g=>stop (d0++dn.map fun g=>⟨i,st,eW g⟩) ⟨i,st,eW g⟩)
   (fun dn g j=>j.2=some .ret∧O (d0++dn.map fun g=>⟨i,st,eW g⟩) ⟨i,st,eW g⟩ j.1) (fun g=>g.length=n+1∧X ⟨i,st,eW g⟩) (N+1) (NL+1) (M-d0.length):=by
 have main:∀(dn:List (List Int)) (g:List Int) (j:ι×Option c8) (B:List Rec) (ls:List dA),dn.length<M-d0.length→(j.2=none∧Iv (d0++dn.map fun g=>⟨i,st,eW g⟩) j.1)→(g.length=n+1∧X ⟨i,st,eW g⟩)→
   ∃b i',Ends Iv stop O (d0++dn.map fun g=>⟨i,st,eW g⟩) [⟨i,st,eW g⟩] b i'∧aw AP (.yield NL) [bp 1 (g.map aD)] (up (tN base R ρ j) B ls)=some (AV.v (.bool b),up (tN base R ρ (i',if b then none else some .ret)) B ls):=by
  rintro dn g ⟨i1,p⟩ B ls hm ⟨hp,hI⟩ ⟨hg,hX⟩
  simp only at hp hI
  subst hp
  have aQ:=h.jT
  obtain⟨b,i',h1,h4⟩:=h.one (B:=[R]++B) (ls:=[⟨false,none,ρ,[54],kj,kn⟩]++ls) (by simp;omega) hI hX ⟨[],[]⟩
  refine⟨b,i',h4,?_⟩
  have wZ:g≠[]:=by intro e;rw[e]at hg;simp at hg
  have hN:=h.len
  have bx:∀(i1:ι) (q:Nat) (lp:dA),(up (base i1) (R::B) (lp::ls)).box N q=R.boxes[q]? :=fun i1 q lp=>by rw[←hN i1,Lc]
  have hR:mG NL ⟨true,none,ρ,[54],kj,kn⟩ (up (base i1) (R::B) (⟨true,none,ρ,[54],kj,kn⟩::ls)):=ZJ (h.ok i1) (aQ i1) rfl rfl
  have JD:mG NL ⟨true,none,ρ,[54],kj,kn⟩ (up (base i') (R::B) (⟨true,none,ρ,[54],kj,kn⟩::ls)):=ZJ (h.ok i') (aQ i') rfl rfl
  have e1:∀(i1:ι) (lp:dA),up (up (base i1) [R] [lp]) B ls=up (base i1) (R::B) (lp::ls):=fun i1 lp=>by rw[ats];rfl
  have WA:∀i1:ι,busy NL (up (base i1) (R::B) (⟨true,none,ρ,[54],kj,kn⟩::ls))=up (base i1) (R::B) (⟨false,none,ρ,[54],kj,kn⟩::ls):=fun i1=>adf (aQ i1)
  have hov:over NL .ret (up (base i') (R::B) (⟨true,none,ρ,[54],kj,kn⟩::ls))=up (base i') (R::B) (⟨false,some .ret,ρ,[54],kj,kn⟩::ls):=aql (aQ i')
  simp only[tN,e1,Option.isNone_none]
  have bH:=(h.ok i1).up (B:=R::B) (ls:=⟨true,none,ρ,[54],kj,kn⟩::ls)
  have tz:bp 1 (g.map aD)=.slice .any 1 (g.map aD):=by cases g with|nil=>exact absurd rfl wZ|cons a r=>rfl
  rw[tz]
  have eM:aw AP (.yield L) [.agg [I i,I st,.slice .any 1 (g.map aD)]] ((busy NL (up (base i1) (R::B) (⟨true,none,ρ,[54],kj,kn⟩::ls))).push ⟨[],[]⟩)=some (AV.v (.bool b),(busy NL (up (base i') (R::B) (⟨true,none,ρ,[54],kj,kn⟩::ls))).push ⟨[],[]⟩):=by
   simp only[kg,kh,aj,←abG wZ,tz]at h1
   rw[WA,WA];exact h1
  refine(aqW hR JD bH h2 h3 h5 (by rw[bx,b0]) (by rw[bx,bk]) eM).trans ?_
  cases b with
  |true=>simp
  |false=>simp[hov]
 refine⟨fun j=>(h.ok _).up,fun j=>by simp[tN,atq,h.len],fun j=>by simp[tN,atr,h.jT],?_,?_⟩
 ·intro dn g j B ls hm hI hX hs
  obtain⟨b,i',h1,h4⟩:=main dn g j B ls hm hI hX
  simp only[Ends]at h1
  rw[aq (by rw[hs];simp)]at h1
  obtain⟨rfl,h1⟩:=h1
  exact⟨(i',none),h4,rfl,by simpa using h1⟩
 ·intro dn g j B ls hm hI hX hs
  obtain⟨b,i',h1,h4⟩:=main dn g j B ls hm hI hX
  simp only[Ends]at h1
  rw[ak hs]at h1
  obtain⟨rfl,h1⟩:=h1
  exact⟨(i',some .ret),h4,rfl,h1⟩
theorem abF {l:List Int}:∃o e,bp 1 (l.map aD)=.slice o e (l.map aD)∧(l=[]∨e=1):=by
 cases l with
 |nil=>exact⟨_,_,rfl,.inl rfl⟩
 |cons a r=>exact⟨_,_,rfl,.inr rfl⟩
theorem U6 {R:Rec} {ρ:Nat→AV} {i:ι}:enterLoop ((base i).push R) ⟨true,none,ρ,[54],kj,kn⟩=tN base R ρ (i,none):=by
 simp[tN,QA,aaO]
theorem aqV {F:c8→St→Option (AV×ae)} {ks:List K} (h:Hand AP L (fun p=>.agg (aj p)) base Iv stop O X N NL M) {R:Rec} {ρ:Nat→AV} {req st:Int} {k:Nat} {d0:List P} {i:ι} {ready:List Int} {need:Nat}
  (hn:1≤need) (iQ:(need:Int)<1000000) (hl:(ready.length:Int)<1000000)
  (h2:ρ 2=.bo [I req] 0) (h3:ρ 3=.ptr N 0 0) (h5:ρ 5=.ptr N k 0) (h53:ρ 53=.fn 57 [] [.bo [I need] 0,.bo [bp 1 (ready.map aD)] 0]) (b0:R.boxes[0]? =some [.yield L]) (bk:R.boxes[k]? =some [I st])
  (hM:d0.length+(bd need ready).length≤M) (hI:Iv d0 i) (hX:∀g∈bd need ready,X ⟨req,st,eW g⟩):
  ∃b i',Ends Iv stop O d0 ((bd need ready).map fun g=>(⟨req,st,eW g⟩:P)) b i'∧go AP F (.c (.rangeFunc (.tmp 53) [54] kj kn)::ks) ⟨ρ,(base i).push R⟩=if b=true then go AP F ks ⟨ρ,(base i').push R⟩else F .ret ⟨ρ,(base i').push R⟩:=by
 obtain⟨o,e,ha,he⟩:=abF (l:=ready)
 obtain⟨n,rfl⟩:∃n,need=n+1:=⟨need-1,by omega⟩
 have hh:=aqT h (R:=R) (ρ:=ρ) (i:=req) (st:=st) (k:=k) (d0:=d0) (n:=n) h2 h3 h5 b0 bk
 obtain⟨b,⟨i',p⟩,hc,hE⟩:=V6 hh (cnt:=n+1) iQ (l:=ready) (o:=o) (e:=e) (i:=(i,none)) (done:=[]) he hl (by simp;omega) ⟨rfl,by simpa using hI⟩ (fun g hg=>⟨tt hg,hX g hg⟩)
 have hE':=Ends.map (I:=Iv) (stop:=stop) (O:=O) (mk:=fun g=>(⟨req,st,eW g⟩:P)) (f:=fun j:ι×Option c8=>j.1) (d0:=d0) (fun dn j hj=>hj.2) (fun dn g=>rfl) (fun dn g j hj=>hj.2) hE
 refine⟨b,i',by simpa using hE',?_⟩
 have dZ:((base i).push R).loops.length=NL:=h.jT i
 have W2:((base i').push R).loops.length=NL:=h.jT i'
 rw[N6 (x:=.tmp 53) h53,U6,ha,dZ]
 refine(iy (Option.bind · _) hc).trans ?_
 simp only[eL]
 cases b with
 |true=>
  have hp:p=none:=(hE.all).1
  subst hp
  rw[←U6,N5 W2 rfl rfl];rfl
 |false=>
  obtain⟨pre,g,post,_,hO,_⟩:=hE.first
  have hp:p=some .ret:=hO.1
  subst hp
  have:tN base R ρ (i',some .ret)=enterLoop ((base i').push R) ⟨false,some .ret,ρ,[54],kj,kn⟩:=by simp[tN,QA,aaO]
  rw[this,agZ W2 rfl];rfl
theorem aqS (h : Hand AP L (fun p => .agg (aj p)) base Iv stop O X N NL M) (hw : Wk w) {req : Int} (h0 : 0 ≤ req) (h1 : req < w.rs.l.length) {i : ι} {done : List P} (hM : done.length + (cY w req).length ≤ M) (hI : Iv done i) (hX : ∀ p ∈ cY w req, X p) :
  ∃b i',aw AP (.fn 109) [.yield L,.bo [OW w] 0,.bo [I req] 0] (base i)=some (.tuple [],base i')∧Ends Iv stop O done (cY w req) b i':=by
 have hN:=h.len
 have hq:=hw.rq h0 h1
 have sj:=hw.ok.an _ (W.pG h0 h1)
 have fl:=qg hw h0 h1
 have iQ:=hw.v.n2
 have oZ:=hw.v.al
 have WL:=hw.tm.an _ (W.pG h0 h1)
 generalize sk:w.rq req=q at*
 obtain⟨bU,lo,hi,len,val,⟨oa,ea,an⟩,need⟩:=q
 obtain⟨l0,BN,aZ,qi,pz,Ch,Ci,Sw,s9,CK,KD,KE,_⟩:=hq
 simp only at l0 BN aZ qi pz Ch Ci Sw s9 CK KD KE WL
 have hea:ea=1:=by
  rcases sj.1 with h|h
  ·exact absurd h Sw
  ·exact h
 subst hea
 have key : ∀ (st : Int) ρ m, (lo ≤ st ∧ st ≤ hi - len + 2 ∧ ρ 1 = .bo [OW w] 0 ∧ ρ 2 = .bo [I req] 0 ∧ ρ 3 = .ptr N 0 0 ∧ ρ 4 = .ptr N 1 0 ∧
   ∃i junk tk qf,ρ 5=.ptr N (junk.length+1+1) 0∧m=(base i).push ⟨[.yield L]::[S bU,I lo,I hi,I len,I val,.slice oa 1 (an.map aD),I need]::(junk++[[I st]]),tk⟩∧qf++jX w req st (hi-len+2-st).toNat=cY w req∧Ends Iv stop O done qf true i)→
   ∃b i',go AP Jk (.c (.loop we)::anx) ⟨ρ,m⟩=some (.tuple [],base i')∧Ends Iv stop O done (cY w req) b i':=by
  refine aoG (hi-len+1) _ (fun r=>∃b i',r=some (.tuple [],base i')∧Ends Iv stop O done (cY w req) b i') ?_ ?_
  ·rintro st ρ m bX ⟨ajX,ze,h1,h2,h3,h4,i,junk,tk,qf,h5,rfl,hits,hE⟩ ih
   have hN':=hN i
   have hd:decide (st+len-1≤hi)=true:=bS (by omega)
   have qh : ∀ (j : Nat) ρ m, j ≤ an.length → (ρ 1 = .bo [OW w] 0 ∧ ρ 2 = .bo [I req] 0 ∧ ρ 3 = .ptr N 0 0 ∧ ρ 4 = .ptr N 1 0 ∧ ρ 5 = .ptr N (junk.length + 1 + 1) 0 ∧ ρ 33 = .slice oa 1 (an.map aD) ∧ ρ 34 = I an.length ∧ ρ 35 = I j ∧
     ∃og tk,Acc (base i).ag.length 1 (((an.take j).filter fun a=>cU w a st len).map aD) (ρ 6) og tk∧m=(base i).push ⟨[.yield L]::[S bU,I lo,I hi,I len,I val,.slice oa 1 (an.map aD),I need]::(junk++[[I st]]),tk⟩)→
     ∃b i',go AP Jk (.c (.loop Dt)::anz) ⟨ρ,m⟩=some (.tuple [],base i')∧Ends Iv stop O done (cY w req) b i':=by
    refine Yq an.length _ (fun r=>∃b i',r=some (.tuple [],base i')∧Ends Iv stop O done (cY w req) b i') ?_ ?_
    ·rintro j ρ m hj ⟨h1,h2,h3,h4,h5,oX,l5,pW,og,tk,hA,rfl⟩ fQ
     obtain⟨a,ha⟩:=get_some hj
     have rY:=s9 a (bK ha)
     have hr:=cr (f:=aD) (o:=oa) (es:=1) ha
     have cp:∀r,aw AP (.fn 85) [OW w,I a,I st,I len] ((base i).push r)=some (B (cU w a st len),(base i).push r):=fun r=>aaW hw rY.1 rY.2 (by omega) (by omega) (by omega)
     rw[←hN i]at h3 h4 h5
     have wW:(an.take (j+1)).filter (fun a=>cU w a st len)=(an.take j).filter (fun a=>cU w a st len)++if cU w a st len=true then[a]else[]:=by
      rw[fi ha,ni];simp only[Ln,zN]
     have avr:((an.take j).filter (fun a=>cU w a st len)).length≤an.length:=by
      have:=lR (fun a=>cU w a st len) (an.take j)
      rw[fq]at this;omega
     cases J1:cU w a st len with
     |false=>
      rw[J1]at cp
      simp only[go_sem,Dt,h1,h4,h5,oX,l5,pW,aR hj,hr,cp,bJ hj (show(an.length:Int)<_ by omega),simprocAttr]
      refine fQ _ _ ?_
      refine⟨h1,h2,by rw[←hN i];exact h3,by rw[←hN i];exact h4,by rw[←hN i];exact h5,oX,l5,rfl,og,tk,?_,rfl⟩
      rw[wW,J1,aq (by simp),iG]
      exact hA
     |true=>
      rw[J1]at cp
      obtain⟨x',gv,tk',cw,dX,_⟩:=hA.append (h.ok i) .full (ys:=[[I a]]) (by simp) (by simp;omega)
      simp only[go_sem,Dt,h1,h4,h5,oX,l5,pW,aR hj,hr,cp,cw,bJ hj (show(an.length:Int)<_ by omega),simprocAttr]
      refine fQ _ _ ?_
      refine⟨h1,h2,by rw[←hN i];exact h3,by rw[←hN i];exact h4,by rw[←hN i];exact h5,oX,l5,rfl,gv,tk',?_,rfl⟩
      rw[wW,J1,ak rfl,fT]
      exact dX
    ·rintro ρ m ⟨h1,h2,h3,h4,h5,oX,l5,pW,og,tk,hA,rfl⟩
     rw[ig]at hA
     have Gd:(an.filter fun a=>cU w a st len)=tR w (w.rq req) st:=by rw[sk];rfl
     rw[Gd]at hA
     have et:(tR w (w.rq req) st).length≤6:=by
      rw[←Gd]
      have:=lR (fun a=>cU w a st len) an
      omega
     obtain⟨nd,rfl⟩:∃nd:Nat,need=nd:=⟨need.toNat,by omega⟩
     obtain⟨o6,e6,r6,h6⟩:∃o6 e6 r6,ρ 6=.slice o6 e6 r6:=by
      cases og with
      |none=>exact⟨_,_,_,hA.2⟩
      |some g=>exact⟨_,_,_,hA.2.1⟩
     have aP:=hA.close
     rw[h6]at aP
     have Kd:∀r,aw AP (.fn 27) [.slice o6 e6 r6,I (nd:Int)] ((base i).push r)=some (.fn 57 [] [.bo [I nd] 0,.bo [bp 1 ((tR w (w.rq req) st).map aD)] 0],(base i).push r):=fun r=>ZZ aP ((h.ok i).push r)
     have J4:jX w req st (hi-len+2-st).toNat=mr w req st++jX w req (st+1) (hi-len+2-(st+1)).toNat:=by
      rw[show(hi-len+2-st).toNat=(hi-len+2-(st+1)).toNat+1 by omega];rfl
     have fG:mr w req st=(bd nd (tR w (w.rq req) st)).map fun g=>(⟨req,st,eW g⟩:P):=by
      have:(w.rq req).need=nd:=by rw[sk]
      rw[mr,this,Hf]
     have fin:∀ρ':Nat→AV,ρ' 1=.bo [OW w] 0→ρ' 2=.bo [I req] 0→ρ' 3=.ptr N 0 0→ρ' 4=.ptr N 1 0→ρ' 5=.ptr N (junk.length+1+1) 0→ρ' 53=.fn 57 [] [.bo [I nd] 0,.bo [bp 1 ((tR w (w.rq req) st).map aD)] 0]→
       ∃b i',go AP Jk (.c (.rangeFunc (.tmp 53) [54] kj kn)::.blk 4::.blk 1::.c Aj::.lp we::[.blk 0]) ⟨ρ',(base i).push ⟨[.yield L]::[S bU,I lo,I hi,I len,I val,.slice oa 1 (an.map aD),I nd]::(junk++[[I st]]),tk⟩⟩=some (.tuple [],base i')∧Ends Iv stop O done (cY w req) b i':=by
      intro ρ' g1 g2 g3 g4 g5 g53
      obtain⟨b,i',Oh,qa⟩:=aqV (F:=Jk) (ks:=.blk 4::.blk 1::.c Aj::.lp we::[.blk 0]) h (R:=⟨[.yield L]::[S bU,I lo,I hi,I len,I val,.slice oa 1 (an.map aD),I nd]::(junk++[[I st]]),tk⟩) (ρ:=ρ') (req:=req) (st:=st) (k:=junk.length+1+1) (d0:=done++qf) (i:=i) (ready:=tR w (w.rq req) st) (need:=nd) (by omega) (by omega) (by omega) g2 g3 g5 g53 rfl (by simp) (by
       have hh:=iy List.length hits
       rw[J4,fG]at hh
       simp only[ck,bE]at hh⊢
       omega) hE.all (by
       intro g hg
       refine hX _ ?_
       rw[←hits,J4,fG]
       exact Hq _ (n7 _ (cC.2 ⟨g,hg,rfl⟩)))
      rw[qa]
      rw[←fG]at Oh
      cases b with
      | false =>
       refine⟨false,i',?_,?_⟩
       ·simp only[go_sem,eB,simprocAttr]
       ·rw[←hits,J4,←gL]
        exact(hE.HM Oh).SB _
      |true=>
       have Wj:=hN i'
       have VS:=g5
       rw[←Wj]at VS
       simp only[go_sem,Aj,VS,h.ok i',bR (x:=st+1) (by omega) (by omega),simprocAttr]
       refine ih _ _ ?_
       refine⟨by omega,by omega,g1,g2,g3,g4,i',junk++[[I st]],tk,qf++mr w req st,?_,?_,?_,hE.HM Oh⟩
       ·rw[←Wj];simp[put]
       ·simp
       ·rw[gL,←J4,hits]
     have A5:=h4
     rw[←hN i]at h4
     simp only[go_sem,Dt,Nf,h4,l5,pW,h6,bM,Kd,simprocAttr]
     exact fin _ h1 h2 h3 A5 h5 rfl
   rw[←hN i]at h4 h5
   simp only[go_sem,we,h4,h5,hd,bR (x:=st+len) (by omega) (by omega),bR (x:=st+len-1) (by omega) (by omega),simprocAttr]
   refine qh 0 _ _ (bh _) ?_
   exact⟨h1,h2,h3,by rw[←hN i];exact h4,by rw[←hN i];exact h5,rfl,rfl,rfl,none,tk,Acc.start,rfl⟩
  ·rintro st ρ m bX ⟨ajX,ze,h1,h2,h3,h4,i,junk,tk,qf,h5,rfl,hits,hE⟩
   have hd:decide (st+len-1≤hi)=false:=ch (by omega)
   rw[←hN i]at h4 h5
   simp only[go_sem,we,h4,h5,hd,bR (x:=st+len) (by omega) (by omega),bR (x:=st+len-1) (by omega) (by omega),simprocAttr]
   refine⟨true,i,rfl,?_⟩
   rw[show(hi-len+2-st).toNat=0 by omega]at hits
   simp only[jX,iG]at hits
   rw[←hits];exact hE
 have hcw:closeAll [OW w]=some [OW w]:=rfl
 rw[aL (show AP 109=some EN from rfl) rfl]
 simp only[OW]
 simp only[go_sem,TM,h.ok i,xH,fl,simprocAttr]
 refine key lo _ _ ?_
 refine⟨zK _,by omega,rfl,rfl,by rw[←hN i];rfl,by rw[←hN i];rfl,i,[],[],[],by rw[←hN i];rfl,rfl,?_,⟨rfl,by simpa using hI⟩⟩
 rw[cY,sk];rfl
theorem atC {i:Int} (hs:Ok s):aw AP (.fn 95) [OW w,I i] s=some (.fn 109 [] [.bo [OW w] 0,.bo [I i] 0],s):=by
 rw[aL (show AP 95=some EM from rfl) rfl]
 simp only[OW]
 simp only[go_sem,TL,simprocAttr]
end
end
def cd (w:W) (l:List P) (i:Int):List P:=(cY w i).filter fun x=>!cS w x l
theorem Qx {w:W} {i:Int} {p:P}:∀{n:Nat} {st:Int},p∈jX w i st n→∃t,st≤t∧t<st+n∧p∈mr w i t
 |0,_,h=>by simp[jX]at h
 | n + 1, st, h => by
  simp only[jX,c9]at h
  rcases h with h|h
  ·exact⟨st,zK _,by omega,h⟩
  ·obtain⟨t,h1,h2,h3⟩:=Qx h
   exact⟨t,by omega,by omega,h3⟩
theorem lL {w:W} (hw:Wk w) {i:Int} (h0:0≤i) (h1:i<w.rs.l.length) {p:P} (hp:p∈cY w i):bW w p∧p.req=i∧(w.rq i).lo≤p.start∧p.start≤(w.rq i).hi-(w.rq i).len+1∧(p.an.l.length:Int)=(w.rq i).need∧p.an=eW p.an.l∧p.an.l.Sublist (w.rq i).an.l∧∀a∈p.an.l,cU w a p.start (w.rq i).len=true:=by
 have hq:=hw.rq h0 h1
 have iQ:=hw.v.n2
 obtain⟨t,h2,h3,h4⟩:=Qx hp
 obtain⟨g,hg,rfl⟩:=cC.1 h4
 have hl:=tt hg
 have hs:=A3 hg
 have xf:g.Sublist (w.rq i).an.l:=hs.trans Lp
 have b1:=hq.qX
 have b2:=hq.aZ
 have b3:=hq.qi
 have b4:=hq.pz
 have b5:=hq.KD
 have b6:=hq.KE
 have b7:=hw.tm.an _ (W.pG h0 h1)
 have nI:(g.length:Int)=(w.rq i).need:=by omega
 refine⟨⟨h0,h1,by show 0≤t;omega,by show t≤200;omega,fun a ha=>hq.s9 a (xf.subset ha),yv,by show(g.length:Int)<_;omega⟩,rfl,h2,by show t≤_;omega,nI,rfl,xf,fun a ha=>?_⟩
 have:=hs.subset ha
 exact(eP.1 this).2
theorem yH:∀{k:Nat} {l:List Int},(bd k l).length≤2^l.length
 |0,l=>by simp[bd];exact Sd
 |k+1,[]=>by simp[bd]
 |k+1,x::r=>by
  have h1:=yH (k:=k) (l:=r)
  have h2:=yH (k:=k+1) (l:=r)
  simp only[bd,ck,bE,dJ,Nat.pow_succ]
  omega
theorem Zs {w:W} {i:Int} {m:Nat} (h:∀st,(mr w i st).length≤m):∀{n:Nat} {st:Int},(jX w i st n).length≤n*m
 |0,_=>by simp[jX]
 |n+1,st=>by
  have h1:=h st
  have h2:=Zs h (n:=n) (st:=st+1)
  simp only[jX,ck,ft]
  omega
theorem xA {w:W} (hw:Wk w) {i:Int} (h0:0≤i) (h1:i<w.rs.l.length):(cY w i).length≤13000:=by
 have hq:=hw.rq h0 h1
 have iQ:=hw.v.n2
 have b1:=hq.qX
 have b2:=hq.aZ
 have b3:=hq.qi
 have b4:=hq.pz
 have b7:=hw.tm.an _ (W.pG h0 h1)
 have:∀st,(mr w i st).length≤64:=fun st=>by
  rw[mr,bE]
  refine jK yH ?_
  have:(tR w (w.rq i) st).length≤6:=jK (lR _ _) b7
  calc 2^(tR w (w.rq i) st).length≤2^6:=jq (by decide) this
   _=64:=by decide
 have h2:=Zs this (n:=((w.rq i).hi-(w.rq i).len+2-(w.rq i).lo).toNat) (st:=(w.rq i).lo)
 have h3:((w.rq i).hi-(w.rq i).len+2-(w.rq i).lo).toNat≤201:=by omega
 have h4:=mF 64 h3
 unfold cY
 omega
def ct (l:List P):List AV:=(l.map aj).flatten
theorem Fo {p:P} {l:List P}:ct (p::l)=aj p++ct l:=by simp[ct]
theorem yE {a b:List P}:ct (a++b)=ct a++ct b:=by simp[ct]
theorem nx {l:List P}:(ct l).length=l.length*3:=by
 induction l with
 |nil=>rfl
 |cons p r ih=>rw[Fo,ck,ih];simp only[aj,dJ,iY];omega
theorem Ju {l:List P} (h:∀p∈l,p.an.ok 1):closeAll (ct l)=some (ct l):=by
 induction l with
 |nil=>rfl
 |cons p r ih=>
  rw[Fo]
  simp only[aj,kg,kh,lZ,oR,Sl.close (f:=aD) (h p (by simp))]
  rw[ih fun q hq=>h q (gP _ hq)];rfl
theorem ar0 {p:P} (h:p.an.ok 1):(aj p).all AV.iT=true:=by
 simp only[aj,vG,Co,Sl.iT (f:=aD) h,sQ];rfl
def lM (d b:Nat) (l:List P):AV:=if l=[]then .slice .aA 0 []else .aN d b 0 3 l.length 0
def tP (l:List P):List (List AV):=if l=[]then[]else[ct l]
section
variable{s:ae} {w:W}
def LL (w:W) (pl:List P) (o:Own) (e d:Nat) (done:List P) (r:Rec):Prop:=
 ∃x,r.boxes[0]? =some [OW w]∧r.boxes[1]? =some [.slice o e (pl.map aj)]∧r.boxes[2]? =some [x]∧GX d 3 (ct (done.filter fun x=>!cS w x pl)) (done.filter fun x=>!cS w x pl).length x r.boxes∧∀b es n,x=.aN d b 0 es n 0→3≤b
theorem aqK {X T:Rec→ae} {l d:Nat} {ρ:Nat→AV} {r:Rec} {p:P} {pl:List P} {done:List P} {o:Own} {e:Nat} (hM:gQ X d) (hX:∀r,busy l (T r)=X r) (hR:∀r,mG l ⟨true,none,ρ,[12],uy,uz⟩ (T r)) (bH:∀r,Ok (T r)) (hw:Wk w) (hp:bW w p) (cD:∀x∈pl,bW w x) (he:pl=[]∨e=3) (hn:(pl.length:Int)<9223372036854775808)
  (h3:ρ 3=.ptr d 0 0) (h4:ρ 4=.ptr d 1 0) (h7:ρ 7=.ptr d 2 0) (hd:done.length<1000000) (hI:LL w pl o e d done r):
  ∃r',aw AP (.yield l) [.agg (aj p)] (T r)=some (.v (.bool true),T r')∧LL w pl o e d (done++[p]) r':=by
 obtain⟨x,b0,b1,b2,hG,ve⟩:=hI
 have ov:∀r ρ' q,qA l .normal ⟨ρ',(X r).push q⟩=some (.v (.bool true),T r):=fun r ρ' q=>by rw[←hX];exact NZ (hR r)
 have F5:∀r,Ok (X r):=fun r=>by rw[←hX];exact(bH r).busy
 have Oq:∀r,(T r).ag.length=(X r).ag.length:=fun r=>by rw[←hX];rfl
 have k0:∀q,((X r).push q).box d 0=some [OW w]:=fun q=>by rw[hM.box,b0]
 have k1:∀q,((X r).push q).box d 1=some [.slice o e (pl.map aj)]:=fun q=>by rw[hM.box,b1]
 have k2:∀q,((X r).push q).box d 2=some [x]:=fun q=>by rw[hM.box,b2]
 have hc:∀q,aw AP (.fn 86) [OW w,.agg (aj p),.slice o e (pl.map aj)] ((X r).push q)=some (B (cS w p pl),(X r).push q):=fun q=>Rm ((F5 r).push q) hw hp cD he hn
 have hlen:(done.filter fun x=>!cS w x pl).length≤done.length:=lR _ _
 have l8:kM 3 (aj p)=true:=rfl
 have qM:closeAll (aj p)=some (aj p):=by
  simp only[aj,lZ,n9,oR,Sl.close hp.ok];rfl
 rw[Nw (hR r) rfl]
 cases ew:cS w p pl with
 | true =>
  rw[ew]at hc
  refine⟨r,?_,x,b0,b1,b2,?_,ve⟩
  ·simp only[aj,Sl.v]at hc⊢
   simp only[go_sem,uy,Jq (hR r),bH r,GQ,simprocAttr]
   simp only[go_sem,uz,hX,Oq,h3,h4,k0,k1,hc,ov,simprocAttr]
  ·have:(done++[p]).filter (fun x=>!cS w x pl)=done.filter fun x=>!cS w x pl:=by rw[ni];simp[ew]
   rw[this];exact hG
 | false =>
  rw[ew]at hc
  have qP:ri ((X r).push ⟨[aj p],[]⟩) 3 (.agg (aj p))=some (.aN (X r).ag.length 1 0 3 1 1,(X r).push ⟨[aj p,aj p],[]⟩):=QN l8 (by decide)
  obtain⟨x',gl,tk',a1,a2,⟨a3,a4⟩,b',rfl,a5⟩:=hM.rG (r0:=⟨[aj p,aj p],[]⟩) (b0:=1) (c:=1) (p:=2) (q:=0) hG rfl rfl (ar0 hp.ok) nx (by omega)
  have Ov:3≤r.boxes.length:=by have:=(aY.1 b2).1;omega
  have kp:∀j,j<3→gl[j]? =r.boxes[j]? :=fun j hj=>a4 j (by omega) fun es n e=>by have:=ve j es n e;omega
  have bX:=hM.atb (r:=⟨gl,tk'⟩) (r0:=⟨[aj p,aj p],[]⟩) (b:=2) (es:=3) (n:=(done.filter fun x=>!cS w x pl).length+1) ⟨b',rfl⟩ (c:=x) (by show gl[2]? =_;rw[kp 2 (by omega),b2])
  refine⟨⟨gl.set 2 [.aN d b' 0 3 ((done.filter fun x=>!cS w x pl).length+1) 0],tk'⟩,?_,.aN d b' 0 3 ((done.filter fun x=>!cS w x pl).length+1) 0,?_,?_,?_,?_⟩
  ·simp only[aj,Sl.v]at hc qP a1 bX qM⊢
   simp only[go_sem,uy,Jq (hR r),bH r,GQ,simprocAttr]
   simp only[go_sem,uz,hX,Oq,h3,h4,h7,k0,k1,k2,hc,ov,qP,a1,bX,simprocAttr]
  ·show(gl.set 2 _)[0]? =_;rw[eK (by omega),kp 0 (by omega),b0]
  ·show(gl.set 2 _)[1]? =_;rw[eK (by omega),kp 1 (by omega),b1]
  ·show(gl.set 2 _)[2]? =_;rw[mE (by omega)]
  ·have hf:(done++[p]).filter (fun x=>!cS w x pl)=(done.filter fun x=>!cS w x pl)++[p]:=by rw[ni];simp[ew]
   rw[hf,yE,ck]
   refine⟨?_,fun b es n e=>?_⟩
   ·obtain⟨h,_⟩|⟨fE,b2,iN,e⟩:=a2
    ·omega
    ·injection e with _ e
     subst e
     refine .inr ⟨by simp,b',?_,rfl⟩
     show(gl.set 2 _)[b']? =_
     rw[eK (by omega),iN]
     simp[ct]
   ·injection e with _ e;omega
abbrev GK (s:ae) (ρ:Nat→AV) (r:Rec):ae:=enterLoop (s.push r) ⟨true,none,ρ,[12],uy,uz⟩
theorem aqJ {ρ:Nat→AV} {pl:List P} {o:Own} {e:Nat} (hs:Ok s) (hw:Wk w) (cD:∀x∈pl,bW w x) (he:pl=[]∨e=3) (hn:(pl.length:Int)<9223372036854775808)
  (h3:ρ 3=.ptr s.ag.length 0 0) (h4:ρ 4=.ptr s.ag.length 1 0) (h7:ρ 7=.ptr s.ag.length 2 0):
  Hand AP s.loops.length (fun p=>.agg (aj p)) (GK s ρ) (fun done r=>LL w pl o e s.ag.length done r)
   (fun _ _=>false) (fun _ _ _=>False) (bW w) (s.ag.length+1) (s.loops.length+1) 100000:=by
 refine⟨fun r=>(hs.push _).enter,fun r=>by simp[GK,enterLoop,ae.push],fun r=>by simp[GK,enterLoop,ae.push],?_,fun _ _ _ _ _ _ _ _ h=>by cases h⟩
 intro done p r B ls hd hI hp _
 have hM:gQ (fun r=>up (busy s.loops.length (enterLoop (s.push r) ⟨true,none,ρ,[12],uy,uz⟩)) B ls) s.ag.length:=Yz hs
 have hX:∀r,busy s.loops.length (up (GK s ρ r) B ls)=(fun r=>up (busy s.loops.length (enterLoop (s.push r) ⟨true,none,ρ,[12],uy,uz⟩)) B ls) r:=fun r=>aaN (by simp[enterLoop,ae.push])
 exact aqK (T:=fun r=>up (GK s ρ r) B ls) hM hX (fun r=>aaP (U7 (hs.push r))) (fun r=>((hs.push _).enter).up) hw hp cD he hn h3 h4 h7 (by omega) hI
theorem atB {Q:ae} {bx:List (List AV)} {tk:List (Option Nat)} {pl:List P} {o:Own} {e:Nat} {i:Int} (hQ:Ok Q) (hw:Wk w) (cD:∀x∈pl,bW w x) (he:pl=[]∨e=3) (hn:(pl.length:Int)<9223372036854775808) (h0:0≤i) (h1:i<w.rs.l.length):
  aw AP (.fn 74) [OW w,.slice o e (pl.map aj),I i] (Q.push ⟨bx,tk⟩)=some (lM Q.ag.length bx.length (cd w pl i),Q.push ⟨bx++tP (cd w pl i),tk⟩):=by
 have hs:Ok (Q.push ⟨bx,tk⟩):=hQ.push _
 obtain⟨s,Bx⟩:∃s,s=Q.push ⟨bx,tk⟩:=⟨_,rfl⟩
 have key:∀ρ:Nat→AV,ρ 3=.ptr s.ag.length 0 0→ρ 4=.ptr s.ag.length 1 0→ρ 7=.ptr s.ag.length 2 0→ρ 11=.fn 109 [] [.bo [OW w] 0,.bo [I i] 0]→
   go AP afN (.c (.rangeFunc (.tmp 11) [12] uy uz)::.blk 0::[.c IJ]) ⟨ρ,s.push ⟨[[OW w],[.slice o e (pl.map aj)],[.slice .aA 0 []]],[]⟩⟩=some (lM Q.ag.length bx.length (cd w pl i),Q.push ⟨bx++tP (cd w pl i),tk⟩):=by
  intro ρ h3 h4 h7 er
  obtain⟨b,r',hc,hE⟩:=aqS (aqJ (by rw[Bx];exact hs) hw cD he hn h3 h4 h7) hw h0 h1 (i:=⟨[[OW w],[.slice o e (pl.map aj)],[.slice .aA 0 []]],[]⟩) (done:=[]) (by have:=xA hw h0 h1;simp;omega) ⟨_,rfl,rfl,rfl,.inl ⟨rfl,rfl,rfl⟩,fun _ _ _ e=>by cases e⟩ (fun p hp=>(lL hw h0 h1 hp).1)
  obtain⟨rfl,x,b0,b1,b2,hG,ve⟩:=hE.never (fun _ _=>rfl)
  rw[N6 (x:=.tmp 11) er]
  refine(iy (Option.bind · _) hc).trans ?_
  simp only[eL]
  refine(N5 (m:=s.push r') (lp:=⟨true,none,ρ,[12],uy,uz⟩) rfl rfl rfl).trans ?_
  obtain⟨T9,tk'⟩:=r'
  simp only at b0 b1 b2 hG
  have hG:GX s.ag.length 3 (ct (cd w pl i)) (cd w pl i).length x T9:=hG
  simp only[go_sem,IJ,h7,b2,simprocAttr]
  have bH:∀p∈cd w pl i,p.an.ok 1:=fun p hp=>((lL hw h0 h1 (eP.1 hp).1).1).ok
  obtain⟨g1,g2,rfl⟩|⟨g1,b,g2,rfl⟩:=hG
  ·have w8:cd w pl i=[]:=uf g1
   rw[w8,Bx]
   simp only[lM,tP,bZ,iG]
   rw[Zd,pop_push]
  ·have aB:cd w pl i≠[]:=fun e=>by rw[e]at g1;simp at g1
   simp only[lM,tP,aq aB]
   rw[Bx]
   exact aqm hQ g2 g1 nx (fun e=>by have:=nx (l:=cd w pl i);rw[e]at this;simp at this;omega) (Ju bH)
 have hp:∀r,aw AP (.fn 95) [OW w,I i] (s.push r)=some (.fn 109 [] [.bo [OW w] 0,.bo [I i] 0],s.push r):=fun r=>atC ((show Ok s by rw[Bx];exact hs).push r)
 rw[←Bx]
 have hsk:Ok s:=by rw[Bx];exact hs
 rw[aL (show AP 74=some EL from rfl) rfl]
 simp only[OW]at key hp⊢
 simp only[go_sem,TK,hp,simprocAttr]
 exact key _ rfl rfl rfl rfl
end
def dv {α:Type} (e:Nat):List α→Sl α
 |[]=>⟨.aA,0,[]⟩
 |x::r=>⟨.any,e,x::r⟩
theorem rE {α:Type} {e:Nat} {f:α→List AV} {l:List α}:bp e (l.map f)=(dv e l).v f:=by cases l<;>rfl
theorem j5 {α:Type} {e:Nat} {l:List α}:(dv e l).l=l:=by cases l<;>rfl
theorem vR {α:Type} {e:Nat} {l:List α}:(dv e l).ok e:=by
 cases l with
 |nil=>exact⟨.inl rfl,.inr (.inr ⟨rfl,rfl⟩)⟩
 |cons a r=>exact⟨.inr rfl,.inl rfl⟩
abbrev gw (c:Sl P×Bool):List AV:=[c.1.v aj,B c.2]
attribute [go_sem] gw
abbrev CH (w:W) (o:Own) (e:Nat) (all:List (Sl P×Bool)):AV:=.agg [OW w,.slice o e (all.map gw)]
def rR (w:W) (n:Nat):List (Sl P×Bool):=(List.range n).map fun i=>(dv 3 (cd w [] (i:Nat)),true)
def dL (w:W):List (Sl P×Bool):=rR w w.rs.l.length
theorem ago {w:W} {n:Nat}:rR w (n+1)=rR w n++[(dv 3 (cd w [] (n:Nat)),true)]:=by
 simp[rR,zR]
theorem N3 {w:W} {n:Nat}:(rR w n).length=n:=by simp[rR]
theorem Acc.sl {d es:Nat} {xs:List (List AV)} {x:AV} {og:Option Nat} {toks:List (Option Nat)} (h:Acc d es xs x og toks):∃o e r,x=.slice o e r:=by
 cases og with
 |none=>exact⟨_,_,_,h.2⟩
 |some g=>exact⟨_,_,_,h.2.1⟩
def rj (w:W) (d:Nat) (bi:Nat→Nat) (n:Nat):List AV:=((List.range n).map fun i:Nat=>[lM d (bi i) (cd w [] (i:Int)),B true]).flatten
theorem QQ {w:W} {d n:Nat} {bi:Nat→Nat}:rj w d bi (n+1)=rj w d bi n++[lM d (bi n) (cd w [] (n:Int)),B true]:=by
 simp[rj,zR]
theorem QP {w:W} {d:Nat} {bi:Nat→Nat}:∀{n:Nat},(rj w d bi n).length=n*2
 |0=>rfl
 |n+1=>by rw[QQ,ck,QP];simp;omega
theorem ar4 {w:W} {d n:Nat} {bi bj:Nat→Nat} (h:∀i,i<n→bi i=bj i):rj w d bi n=rj w d bj n:=by
 unfold rj
 congr 1
 refine Ho fun i hi=>?_
 rw[h i (pM.1 hi)]
structure He (w:W) (d n0 n:Nat) (bi:Nat→Nat) (x:AV) (bs:List (List AV)):Prop where
 gx:GX d 2 (rj w d bi n) n x bs
 box:∀i:Nat,i<n→cd w [] (i:Int)≠[]→bs[bi i]? =some (ct (cd w [] (i:Int)))∧n0≤bi i
 inj:∀i j:Nat,i<j→j<n→cd w [] (i:Int)≠[]→bi i<bi j
 own:∀b es m,x=.aN d b 0 es m 0→n0≤b∧∀i:Nat,i<n→cd w [] (i:Int)≠[]→bi i≠b
theorem aeJ {s:ae} {bs:List (List AV)} {tk:List (Option Nat)} {b:Nat} {l:List P} (h:l≠[]→bs[b]? =some (ct l)) (hc:∀p∈l,p.an.ok 1):oj (s.push ⟨bs,tk⟩) (lM s.ag.length b l)=some (bp 3 (l.map aj)):=by
 unfold lM
 by_cases hl:l=[]
 ·rw[ak hl,hl];rfl
 ·rw[aq hl]
  have ju:=Fa (es:=3) (xs:=l.map aj) (fun r hr=>by obtain⟨p,_,rfl⟩:=cC.1 hr;rfl)
  rw[bE]at ju
  simp only[oj,fw,bZ,iI,h hl,eL,nx,fK,aH,Ju hc,dP,kI]
  rw[show ct l=(l.map aj).flatten from rfl,ju]
  cases l with
  |nil=>exact absurd rfl hl
  |cons p r=>rfl
section
variable{s:ae} {w:W}
theorem KQ (hw:Wk w) {i:Nat} (hi:i<w.rs.l.length):∀p∈cd w [] (i:Int),p.an.ok 1:=fun p hp=>((lL hw (by omega) (by omega) (eP.1 hp).1).1).ok
theorem U2 (hw:Wk w) {bs:List (List AV)} {tk:List (Option Nat)} {bi:Nat→Nat}:∀{n:Nat},n≤w.rs.l.length→(∀i:Nat,i<n→cd w [] (i:Int)≠[]→bs[bi i]? =some (ct (cd w [] (i:Int))))→
  j6 (s.push ⟨bs,tk⟩) (rj w s.ag.length bi n)=some ((rR w n).map gw).flatten
 |0,_,_=>rfl
 |n+1,hn,h=>by
  have hd:=aeJ (s:=s) (bs:=bs) (tk:=tk) (b:=bi n) (h n (by omega)) (KQ hw (i:=n) (by omega))
  rw[QQ,ago,fT,List.flatten_append]
  refine NM (U2 hw (by omega) fun i hi=>h i (by omega)) ?_
  have e2:oj (s.push ⟨bs,tk⟩) (B true)=some (B true):=rfl
  simp only[j6,hd,e2,rE,gw,gO,nj,sU,RM,iG]
theorem aoc (hw:Wk w) {bs:List (List AV)} {tk:List (Option Nat)} {n0:Nat} {bi:Nat→Nat} {x:AV} (h:He w s.ag.length n0 w.rs.l.length bi x bs):eD (s.push ⟨bs,tk⟩) x=some (bp 2 ((dL w).map gw)):=by
 obtain⟨g1,g2,rfl⟩|⟨g1,b,g2,rfl⟩:=h.gx
 ·unfold dL;rw[g1];rfl
 ·have ju:=Fa (es:=2) (xs:=(dL w).map gw) (fun r hr=>by obtain⟨p,_,rfl⟩:=cC.1 hr;rfl)
  have hlen:((dL w).map gw).length=w.rs.l.length:=by simp[dL,N3]
  rw[hlen]at ju
  have hd:=U2 (s:=s) hw (bs:=bs) (tk:=tk) (bi:=bi) (aH _) fun i hi aB=>(h.box i hi aB).1
  simp only[eD,fw,bZ,iI,g2,eL,QP,fK,aH,Y4,hd,dP,kI]
  have aB:(dL w).map gw≠[]:=fun e=>by rw[e]at hlen;simp at hlen;omega
  rw[show((rR w w.rs.l.length).map gw).flatten=((dL w).map gw).flatten from rfl,ju]
  cases hf:(dL w).map gw with
  |nil=>exact absurd hf aB
  |cons a r=>rfl
theorem VR {F:c8→St→Option (AV×ae)} {bs:List (List AV)} {tk:List (Option Nat)} (hs:Ok s) (hw:Wk w):
  ∃ρ' gl tk' x bi,go AP F [.c Nc] ⟨jM [OW w],s.push ⟨bs,tk⟩⟩=F .ret ⟨ρ',s.push ⟨gl,tk'⟩⟩∧ρ' 2=.ptr s.ag.length bs.length 0∧gl[bs.length]? =some [OW w,x]∧He w s.ag.length (bs.length+2) w.rs.l.length bi x gl∧∀j,j<bs.length→gl[j]? =bs[j]? :=by
 have et:=hw.v.rl
 have bf:(s.push ⟨bs,tk⟩).ro<(s.push ⟨bs,tk⟩).ag.length:=by have:=hs.ro;rw[LR];show s.ro<_;omega
 have jO:∀(bs:List (List AV)) (tk:List (Option Nat)) (i:Nat),i<w.rs.l.length→lU (aw AP) (s.push ⟨bs,tk⟩) 74 [OW w,.slice .aA 0 [],I i]=some (lM s.ag.length bs.length (cd w [] (i:Int)),s.push ⟨bs++tP (cd w [] (i:Int)),tk⟩):=fun bs tk i hi=>by
  have bf:(s.push ⟨bs,tk⟩).ro<(s.push ⟨bs,tk⟩).ag.length:=by have:=hs.ro;rw[LR];show s.ro<_;omega
  have hp:=atB (Q:=cB (s.push ⟨bs,tk⟩)) (bx:=[]) (tk:=[]) (pl:=[]) (o:=.aA) (e:=0) (i:=(i:Int)) sF hw (by simp) (.inl rfl) (by simp) (by omega) (by omega)
  by_cases hl:cd w [] (i:Int)=[]
  ·rw[hl]at hp⊢
   simp only[lM,tP,bZ,iG]at hp⊢
   exact adB hp
  ·have y9:0<(cd w [] (i:Int)).length:=Cr.2 hl
   simp only[lM,tP,aq hl]at hp⊢
   exact adC bf hp y9 nx (fun e=>by have:=nx (l:=cd w [] (i:Int));rw[e]at this;simp at this;omega) (Ju (KQ hw hi))
 have key : ∀ (j : Nat) ρ m, j ≤ w.rs.l.length → (ρ 0 = OW w ∧ ρ 2 = .ptr s.ag.length bs.length 0 ∧ ρ 3 = .ptr s.ag.length (bs.length + 1) 0 ∧ ρ 12 = I w.rs.l.length ∧ ρ 13 = I j ∧
   ∃gY ng x bi,m=s.push ⟨gY,ng⟩∧gY[bs.length]? =some [NP,.slice .aA 0 []]∧gY[bs.length+1]? =some [OW w,x]∧He w s.ag.length (bs.length+2) j bi x gY∧∀j,j<bs.length→gY[j]? =bs[j]?)→
   ∃ρ' gl tk' x bi,go AP F (.c (.loop ux)::Kv) ⟨ρ,m⟩=F .ret ⟨ρ',s.push ⟨gl,tk'⟩⟩∧ρ' 2=.ptr s.ag.length bs.length 0∧gl[bs.length]? =some [OW w,x]∧He w s.ag.length (bs.length+2) w.rs.l.length bi x gl∧∀j,j<bs.length→gl[j]? =bs[j]? :=by
  intro j
  obtain⟨k,hk⟩:∃k,k=w.rs.l.length-j:=⟨_,rfl⟩
  induction k generalizing j with
  | zero =>
   rintro ρ m hj ⟨h0,h2,h3,cG,oW,gY,ng,x,bi,rfl,c0,c1,hF,yW⟩
   obtain rfl:j=w.rs.l.length:=by omega
   have jN:bs.length<gY.length:=(aY.1 c0).1
   have qa:∃ρ1,go AP F (.c (.loop ux)::Kv) ⟨ρ,s.push ⟨gY,ng⟩⟩=F .ret ⟨ρ1,s.push ⟨gY.set bs.length [OW w,x],ng⟩⟩∧ρ1 2=.ptr s.ag.length bs.length 0:=by
    rw[go_loop]
    simp only[OW]at h0 c1⊢
    obtain⟨_,_,rfl⟩|⟨_,b,_,rfl⟩:=hF.gx
    ·simp only[go_sem,ux,II,h2,h3,cG,oW,hs,bM,c0,c1,simprocAttr]
     refine⟨_,rfl,?_⟩
     exact h2
    ·simp only[go_sem,ux,II,h2,h3,cG,oW,hs,bM,c0,c1,simprocAttr]
     refine⟨_,rfl,?_⟩
     exact h2
   obtain⟨ρ1,e1,e2⟩:=qa
   refine⟨ρ1,gY.set bs.length [OW w,x],ng,x,bi,e1,e2,by simp[jN],⟨?_,fun i hi aB=>?_,hF.inj,hF.own⟩,fun q hq=>by rw[eK (by omega)];exact yW q hq⟩
   ·obtain⟨g1,g2,e⟩|⟨g1,b,g2,e⟩:=hF.gx
    ·exact .inl ⟨g1,g2,e⟩
    ·have:=(hF.own b _ _ e).1
     exact .inr ⟨g1,b,by rw[eK (by omega)];exact g2,e⟩
   ·obtain⟨q1,q2⟩:=hF.box i hi aB
    exact⟨by rw[eK (by omega)];exact q1,q2⟩
  | succ k ih =>
   rintro ρ m hj ⟨h0,h2,h3,cG,oW,gY,ng,x,bi,rfl,c0,c1,hF,yW⟩
   have aC:j<w.rs.l.length:=by omega
   have jO:=jO gY ng j aC
   generalize hl:cd w [] (j:Int)=l at jO
   have PB:lM s.ag.length gY.length l=.slice .aA 0 []∨∃q,lM s.ag.length gY.length l=.aN s.ag.length gY.length 0 3 q 0:=by
    unfold lM;split
    ·exact .inl rfl
    ·exact .inr ⟨_,rfl⟩
   generalize hv:lM s.ag.length gY.length l=v at jO PB
   generalize A7:gY++tP l=iJ at jO
   have qP:ri (s.push ⟨iJ,ng⟩) 2 (.agg [v,B true])=some (.aN s.ag.length iJ.length 0 2 1 1,s.push ⟨iJ++[[v,B true]],ng⟩):=QN (by obtain rfl|⟨q,rfl⟩:=PB<;>rfl) (by decide)
   have avx:gY.length≤iJ.length:=by rw[←A7,ck];omega
   have iP:∀q,q<gY.length→(iJ++[[v,B true]])[q]? =gY[q]? :=fun q hq=>by rw[dB (by omega),←A7,dB hq]
   have Oi:GX s.ag.length 2 (rj w s.ag.length bi j) j x (iJ++[[v,B true]]):=by
    obtain⟨g1,g2,e⟩|⟨g1,b,g2,e⟩:=hF.gx
    ·exact .inl ⟨g1,g2,e⟩
    ·exact .inr ⟨g1,b,by rw[iP b (aY.1 g2).1];exact g2,e⟩
   obtain⟨x',DA,K5,a1,a2,⟨a3,a4⟩,b',a5,rfl,a6⟩:=ab1 (p:=bs.length+1) (q:=1) (c:=1) (b0:=iJ.length) (r2:=[v,B true]) (tk:=ng) hs Oi (by simp) rfl QP (by omega)
   simp only[ck,dJ,iY]at a6
   have fB:bs.length+1<gY.length:=(aY.1 c1).1
   have nL:∀q,q<gY.length→(q<bs.length+2∨∃i:Nat,i<j∧cd w [] (i:Int)≠[]∧q=bi i)→DA[q]? =gY[q]? :=fun q hq y6=>by
    rw[a4 q (by rw[ck];omega) (fun es n e=>?_),iP q hq]
    obtain⟨o1,o2⟩:=hF.own q es n e
    rcases y6 with h|⟨i,hi,aB,rfl⟩
    ·omega
    ·exact o2 i hi aB rfl
   have Ao:DA[bs.length+1]? =some [OW w,x]:=by rw[nL _ fB (.inl (by omega))];exact c1
   have c0':DA[bs.length]? =some [NP,.slice .aA 0 []]:=by rw[nL _ (by omega) (.inl (by omega))];exact c0
   have ai1:=(aY.1 Ao).1
   have qa:∃ρ1,go AP F (.c (.loop ux)::Kv) ⟨ρ,s.push ⟨gY,ng⟩⟩=go AP F (.c (.loop ux)::Kv) ⟨ρ1,s.push ⟨DA.set (bs.length+1) [OW w,.aN s.ag.length b' 0 2 (j+1) 0],K5⟩⟩∧ρ1 0=OW w∧ρ1 2=.ptr s.ag.length bs.length 0∧ρ1 3=.ptr s.ag.length (bs.length+1) 0∧ρ1 12=I w.rs.l.length∧ρ1 13=I ((j+1:Nat):Int):=by
    rw[go_loop]
    simp only[OW]at h0 jO c1 Ao⊢
    obtain rfl|⟨q,rfl⟩:=PB
    ·simp only[go_sem,ux,h0,h3,cG,oW,hs,aR aC,c1,jO,qP,a1,Ao,bJ aC (show(w.rs.l.length:Int)<_ by omega),simprocAttr]
     refine⟨_,rfl,?_⟩
     exact⟨h0,h2,h3,cG,rfl⟩
    ·simp only[go_sem,ux,h0,h3,cG,oW,hs,aR aC,c1,jO,qP,a1,Ao,bJ aC (show(w.rs.l.length:Int)<_ by omega),simprocAttr]
     refine⟨_,rfl,?_⟩
     exact⟨h0,h2,h3,cG,rfl⟩
   obtain⟨ρ1,e1,q0,q2,q3,q12,q13⟩:=qa
   rw[e1]
   refine ih (j+1) (by omega) _ _ (by omega) ?_
   refine⟨q0,q2,q3,q12,q13,DA.set (bs.length+1) [OW w,.aN s.ag.length b' 0 2 (j+1) 0],K5,.aN s.ag.length b' 0 2 (j+1) 0,fun i=>if i=j then gY.length else bi i,rfl,?_,by simp[ai1],⟨?_,fun i hi aB=>?_,fun i q hiq hq aB=>?_,fun b es m e=>?_⟩,fun q hq=>?_⟩
   ·rw[eK (by omega)];exact c0'
   ·refine .inr ⟨by omega,b',?_,rfl⟩
    rw[eK (by omega),a5,QQ]
    rw[ar4 (bi:=fun i=>if i=j then gY.length else bi i) (bj:=bi) fun i hi=>aq (by omega)]
    simp only[bZ,hl,hv]
   ·by_cases ez:i=j
    ·subst ez
     simp only[bZ]
     rw[hl]at aB⊢
     refine⟨?_,by omega⟩
     rw[eK (by omega),a4 _ (by rw[ck,←A7,ck];simp only[tP,aq aB,dJ,iY];omega) (fun es n e=>?_)]
     ·rw[←A7]
      simp[tP,aq aB]
     ·obtain⟨g1,g2,e2⟩|⟨g1,b,g2,e2⟩:=hF.gx
      ·rw[e2]at e;cases e
      ·rw[e2]at e
       injection e with _ e
       have:=(aY.1 g2).1
       omega
    ·simp only[aq ez]
     obtain⟨q1,q2⟩:=hF.box i (by omega) aB
     have OY:=(aY.1 q1).1
     refine⟨?_,q2⟩
     rw[eK (by omega),nL _ OY (.inr ⟨i,by omega,aB,rfl⟩)]
     exact q1
   ·have hi:i≠j:=by omega
    simp only[aq hi]
    by_cases Xk:q=j
    ·simp only[ak Xk]
     exact(aY.1 (hF.box i (by omega) aB).1).1
    ·simp only[aq Xk]
     exact hF.inj i q hiq (by omega) aB
   ·injection e with _ e
    refine⟨by omega,fun i hi aB=>?_⟩
    by_cases ez:i=j
    ·show(if i=j then gY.length else bi i)≠b
     rw[ak ez];omega
    ·show(if i=j then gY.length else bi i)≠b
     rw[aq ez]
     have:=(aY.1 (hF.box i (by omega) aB).1).1
     omega
   ·rw[eK (by omega),nL q (by omega) (.inl (by omega))]
    exact yW q hq
 simp only[OW]at key⊢
 simp only[go_sem,Nc,hs,xH,qW,simprocAttr]
 refine key 0 _ _ (bh _) ?_
 refine⟨rfl,rfl,rfl,rfl,rfl,_,tk,.slice .aA 0 [],fun _=>0,rfl,?_,?_,⟨.inl ⟨rfl,rfl,rfl⟩,fun i hi=>absurd hi (dk _),fun i j _ hj=>absurd hj (dk _),fun b es m e=>by cases e⟩,fun j hj=>?_⟩
 ·simp
 ·simp
 ·simp[dB hj]
theorem atz (hs:Ok s) (hw:Wk w):aw AP (.fn 44) [OW w] s=some (.agg [OW w,bp 2 ((dL w).map gw)],s):=by
 obtain⟨ρ',gl,tk',x,bi,h1,h2,h3,h4,_⟩:=VR (F:=afM) (bs:=[]) (tk:=[]) hs hw
 rw[aL (show AP 44=some Ay from rfl) rfl]
 rw[h1]
 have cT:=aoc (s:=s) (tk:=tk') hw h4
 have aP:=h4.gx.cell
 simp only[iY]at h2 h3
 simp only[OW,Sl.v]at h3⊢
 simp only[go_sem,h2,h3,cT,P2,simprocAttr]
end
theorem IZ {a:Nat} (h:a<2^63):(BitVec.ofInt 64 (a:Int)).toNat=a:=by
 have e:BitVec.ofInt 64 (a:Int)=BitVec.ofNat 64 a:=BitVec.ofInt_natCast ..
 rw[e,BitVec.toNat_ofNat]
 exact HA (R8 h (by decide))
theorem Qt:(2:Nat)^63=9223372036854775808:=by decide
theorem SE {a b:Nat} (ha:a<2^63) (hb:b<2^63):dC .and (I (a:Int)) (I (b:Int))=some (I ((a&&&b:Nat):Int)):=by
 have h:((BitVec.ofInt 64 (a:Int)&&&BitVec.ofInt 64 (b:Int)).toNat:Int)=((a&&&b:Nat):Int):=by rw[BitVec.toNat_and,IZ ha,IZ hb]
 have hl:(a&&&b)≤a:=Nat.and_le_left
 rw[Qt]at ha
 have hw:IntKind.i64.wrap ((a&&&b:Nat):Int)=((a&&&b:Nat):Int):=bR (by omega) (by omega)
 show Option.map AV.v (some (Value.int IntKind.i64 (IntKind.i64.wrap ((BitVec.ofInt 64 (a:Int)&&&BitVec.ofInt 64 (b:Int)).toNat:Int))))=_
 rw[h,hw];rfl
theorem SG {a b:Nat} (ha:a<2^63) (hb:b<2^63):dC .or (I (a:Int)) (I (b:Int))=some (I ((a|||b:Nat):Int)):=by
 have h:((BitVec.ofInt 64 (a:Int)|||BitVec.ofInt 64 (b:Int)).toNat:Int)=((a|||b:Nat):Int):=by rw[BitVec.toNat_or,IZ ha,IZ hb]
 have hl:(a|||b)<2^63:=Nat.or_lt_two_pow ha hb
 rw[Qt]at hl
 have hw:IntKind.i64.wrap ((a|||b:Nat):Int)=((a|||b:Nat):Int):=bR (by omega) (by omega)
 show Option.map AV.v (some (Value.int IntKind.i64 (IntKind.i64.wrap ((BitVec.ofInt 64 (a:Int)|||BitVec.ofInt 64 (b:Int)).toNat:Int))))=_
 rw[h,hw];rfl
theorem HO {a k:Nat} (hk:k≤64):dC .shr (I (a:Int)) (I (k:Int))=some (I ((a/2^k:Nat):Int)):=by
 have h1:¬((k:Int)<0):=by omega
 have h2:min ((k:Int)).toNat IntKind.i64.bits=k:=by
  rw[Hf];exact Nat.min_eq_left hk
 have h3:((a:Int)).fdiv (2^k)=((a/2^k:Nat):Int):=by
  rw[abj _ (Int.pow_nonneg (by decide))]
  rw[Int.natCast_ediv];simp
 show Option.map AV.v (tU .shr .i64 (a:Int) (k:Int))=_
 unfold tU
 rw[aq h1]
 simp only[h2,h3]
 rfl
theorem CL {k:Nat} (hk:k≤62):dC .shl (I 1) (I (k:Int))=some (I ((2^k:Nat):Int)):=by
 have h1:¬((k:Int)<0):=by omega
 have h2:min ((k:Int)).toNat IntKind.i64.bits=k:=by
  rw[Hf];exact Nat.min_eq_left (by show k≤64;omega)
 have h3:((1:Int)*2^k)=(((2:Nat)^k:Nat):Int):=by simp
 have h4:(2:Nat)^k<9223372036854775808:=by rw[←Qt];exact LG (by decide) (by omega)
 generalize(2:Nat)^k=q at*
 show Option.map AV.v (tU .shl .i64 1 (k:Int))=_
 unfold tU
 rw[aq h1]
 simp only[h2,h3]
 rw[bR (by omega) (by omega)]
 rfl
theorem SF {a:Nat} (ha:a<2^63):dC .and (I (a:Int)) (I 1)=some (I ((a%2:Nat):Int)):=by
 have:=SE (a:=a) (b:=1) ha (by decide)
 rw[Nat.and_one_is_mod]at this;exact this
def pD (m n:Nat):List Int:=((List.range n).filter fun i=>m.testBit i).map fun i:Nat=>(i:Int)
def dh (m:Nat):List Int:=pD m 62
theorem Qe {m n:Nat}:pD m (n+1)=pD m n++if m.testBit n=true then[(n:Int)]else[]:=by
 simp only[pD,zR,ni,fT,Ln,zN]
 cases m.testBit n<;>simp
theorem Qd {m n:Nat}:(pD m n).length≤n:=by
 simp only[pD,bE]
 have:=lR (fun i=>m.testBit i) (List.range n)
 simpa using this
theorem Yx {m n k:Nat} (h:m/2^n=0) (hk:n≤k):pD m k=pD m n:=by
 induction k with
 |zero=>have:n=0:=(by omega);subst this;rfl
 | succ k ih =>
  by_cases e:n=k+1
  ·rw[e]
  ·rw[Qe,ih (by omega)]
   have aC:m<2^n:=by
    have:=Nat.div_eq_zero_iff.1 h
    rcases this with h|h
    ·exact absurd h (Nat.ne_of_gt (Nat.two_pow_pos n))
    ·exact h
   have:m.testBit k=false:=HD (nk aC (jq (by decide) (by omega)))
   rw[this];simp
theorem aoR {m:Nat} {i:Int} (h:i∈dh m):0≤i∧i<62∧m.testBit i.toNat=true:=by
 obtain⟨k,hk,rfl⟩:=cC.1 h
 obtain⟨h1,h2⟩:=eP.1 hk
 have:=pM.1 h1
 exact⟨by omega,by omega,by simpa using h2⟩
theorem BR {m n:Nat} (h:m<2^n) {i:Int} (hi:i∈dh m):0≤i∧i<n:=by
 obtain⟨h1,_,h2⟩:=aoR hi
 refine⟨h1,?_⟩
 apply qm
 intro hc
 have:m.testBit i.toNat=false:=HD (nk h (jq (by decide) (by omega)))
 rw[this]at h2;cases h2
section
variable{s:ae} {w:W}
theorem ast {r:R} (hs:Ok s) (h1:-1000≤r.lo) (h2:r.lo≤1000) (h3:-1000≤r.hi) (h4:r.hi≤1000) (h5:-1000≤r.len) (h6:r.len≤1000):aw AP (.fn 52) [.agg (bV r)] s=some (B (decide (8<r.hi-r.lo+2-r.len)),s):=by
 rw[aL (show AP 52=some Es from rfl) rfl]
 simp only[go_sem,Tv,bR (x:=r.hi-r.lo) (by omega) (by omega),bR (x:=r.hi-r.lo+2) (by omega) (by omega),bR (x:=r.hi-r.lo+2-r.len) (by omega) (by omega),simprocAttr]
def zG (w:W):Bool:=decide (w.rs.l.length≤6)&&!w.rs.l.any fun r=>decide (8<r.hi-r.lo+2-r.len)
theorem Z4 {w:W} (hs:Ok s) (hw:w.Ok) (hf:w.kY):aw AP (.fn 22) [w.v] s=some (.tuple [if(dH w).2.2=0 then OW w else NP,I (if(dH w).2.2=0 then(cond (zG w) 0 8)else(dH w).2.2)],s):=by
 by_cases he:(dH w).2.2=0
 ·have ho:∀r,aw AP (.fn 51) [w.v] (s.push r)=some (.tuple [OW w,I 0],s.push r):=fun r=>Z3 (hs.push r) hw hf he
  have hv:=sO he
  have ew:∀r,aw AP (.fn 53) [.slice w.rs.o w.rs.e (w.rs.l.map bV),.fn 52 [] []] (s.push r)=some (B (w.rs.l.any fun r=>decide (8<r.hi-r.lo+2-r.len)),s.push r):=fun r=>
   atW hw.rs.1 (by have:=hv.rl;omega) fun a ha r q=>by
    have:=hv.r a ha
    have h1:=this.qX
    have h2:=this.BN
    have h3:=this.aZ
    have h4:=this.qi
    have h5:=this.pz
    have h6:=hv.n2
    exact ast (((hs.push _).push _).push _) (by omega) (by omega) (by omega) (by omega) (by omega) (by omega)
  have h6:decide ((w.rs.l.length:Int)≤6)=decide (w.rs.l.length≤6):=by
   by_cases h:w.rs.l.length≤6
   ·rw[bS h,bS (by omega)]
   ·rw[ch h,ch (by omega)]
  rw[ak he,ak he]
  rw[aL (show AP 22=some Av from rfl) rfl]
  simp only[W.v,bQ,Sl.v]at ho
  simp only[OW]at ho⊢
  simp only[go_sem,MY,ho,bq,fI,ew,lP,h6,zG,simprocAttr]
 ·have ho:∀r,aw AP (.fn 51) [w.v] (s.push r)=some (.tuple [NP,I (dH w).2.2],s.push r):=fun r=>Z5 (hs.push r) hw hf he
  rw[aq he,aq he]
  rw[aL (show AP 22=some Av from rfl) rfl]
  simp only[W.v,bQ,Sl.v]at ho
  simp only[go_sem,MY,ho,bq,he,jV,simprocAttr]
theorem QY {m:Nat} (hm:m<2^62) (hs:Ok s):aw AP (.fn 26) [I (m:Int)] s=some (bp 1 ((dh m).map aD),s):=by
 have OZ:m<2^63:=R8 hm (by decide)
 have key:∀(j:Nat) ρ x,j≤62→(ρ 0=I (m:Int)∧ρ 4=I j∧∃og tk,Acc s.ag.length 1 ((pD m j).map aD) (ρ 3) og tk∧x=s.push ⟨[],tk⟩)→go AP Vs (.c (.loop x9)::X0) ⟨ρ,x⟩=some (bp 1 ((dh m).map aD),s):=by
  have stop:∀(j:Nat) (ρ:Nat→AV) (x:ae),m/2^j=0→j≤62→(ρ 0=I (m:Int)∧ρ 4=I j∧∃og tk,Acc s.ag.length 1 ((pD m j).map aD) (ρ 3) og tk∧x=s.push ⟨[],tk⟩)→
    go AP Vs (.c x9::.lp x9::X0) ⟨ρ,x⟩=some (bp 1 ((dh m).map aD),s):=by
   rintro j ρ x h0 hj ⟨g0,g4,og,tk,hA,rfl⟩
   have e:dh m=pD m j:=Yx h0 hj
   simp only[go_sem,x9,MV,g0,g4,HO (a:=m) (k:=j) (by omega),h0,hA.leave,fp,simprocAttr]
   rw[e]
  refine cq 62 _ _ ?_ ?_
  ·rintro j ρ x hj hP ih
   by_cases h0:m/2^j=0
   ·exact stop j ρ x h0 (by omega) hP
   ·obtain⟨g0,g4,og,tk,hA,rfl⟩:=hP
    have hd:decide ((0:Int)<((m/2^j:Nat):Int))=true:=bS (by generalize m/2^j=q at*;omega)
    have aC:m/2^j<2^63:=Nat.lt_of_le_of_lt (R2 _ _) OZ
    have hand:=SF (a:=m/2^j) aC
    have hw:=bJ hj (show((62:Nat):Int)<_ by decide)
    have ht:decide (((m/2^j%2:Nat):Int)=1)=m.testBit j:=by
     rw[abu]
     generalize m/2^j=q at*
     by_cases h:q%2=1
     ·rw[bS h,bS (by omega)]
     ·rw[ch h,ch (by omega)]
    have hl:=Qd (m:=m) (n:=j)
    cases hb:m.testBit j with
    |false=>
     rw[hb]at ht
     simp only[go_sem,x9,g0,g4,HO (a:=m) (k:=j) (by omega),hd,hand,ht,hw,simprocAttr]
     refine ih _ _ ?_
     refine⟨g0,rfl,og,tk,?_,rfl⟩
     rw[Qe,hb,aq (by simp),iG];exact hA
    |true=>
     rw[hb]at ht
     obtain⟨x',gv,tk',cw,dX,_⟩:=hA.append hs .full (ys:=[[I (j:Int)]]) (by simp) (by simp;omega)
     simp only[go_sem,x9,g0,g4,HO (a:=m) (k:=j) (by omega),hd,hand,ht,cw,hw,simprocAttr]
     refine ih _ _ ?_
     refine⟨g0,rfl,gv,tk',?_,rfl⟩
     rw[Qe,hb,ak rfl,fT];exact dX
  ·rintro ρ x hP
   exact stop 62 ρ x (LA hm) (aH _) hP
 rw[aL (show AP 26=some Ep from rfl) rfl]
 simp only[go_sem,Tt,simprocAttr]
 refine key 0 _ _ (bh _) ?_
 exact⟨rfl,rfl,none,[],Acc.start,rfl⟩
def nS (w:W):List Int→Int
 |[]=>0
 |i::r=>(w.rq i).val+nS w r
theorem aaz {w:W}:∀{l r:List Int},nS w (l++r)=nS w l+nS w r
 |[],r=>by simp[nS]
 |i::l,r=>by simp only[kg,nS,aaz];omega
theorem G4 (hw:Wk w):∀{l:List Int},(∀i∈l,0≤i∧i<w.rs.l.length)→0≤nS w l∧nS w l≤100000*l.length
 |[],_=>by simp[nS]
 |i::l,h=>by
  have h1:=G4 hw (l:=l) fun j hj=>h j (gP _ hj)
  have h2:=h i (vI ..)
  have h3:=hw.rq h2.1 h2.2
  have:=h3.Ch
  have:=h3.Ci
  simp only[nS,dJ];omega
def jo (w:W) (m:Nat):Int:=nS w (dh m)
structure sP (w:W) (e:Nat) (all:List (Sl P×Bool)):Prop where
 e:all=[]∨e=2
 len:all.length=w.rs.l.length
 ok:∀c∈all,c.1.ok 3
 cnt:∀c∈all,c.1.l.length≤13000
 iD:∀c∈all,∀p∈c.1.l,bW w p
 req:∀(i:Nat) (c:Sl P×Bool),all[i]? =some c→∀p∈c.1.l,p.req=i
theorem Yy {m:Nat}:(dh m).length≤62:=Qd
theorem adp {o:Own} {e:Nat} {all:List (Sl P×Bool)} {m:Nat} (hs:Ok s) (hw:Wk w) (hm:m<2^w.rs.l.length):aw AP (.fn 63) [CH w o e all,I (m:Int)] s=some (I (jo w m),s):=by
 have et:=hw.v.rl
 have qL:m<2^62:=nk hm (jq (by decide) (by omega))
 have aZ:∀i∈dh m,0≤i∧i<w.rs.l.length:=fun i hi=>BR hm hi
 have hml:=Yy (m:=m)
 have key:∀(j:Nat) ρ x,j≤(dh m).length→(ρ 2=.ptr s.ag.length 0 0∧ρ 5=I (nS w ((dh m).take j))∧ρ 9=bp 1 ((dh m).map aD)∧ρ 10=I (dh m).length∧ρ 11=I j∧x=s.push ⟨[[OW w,.slice o e (all.map gw)]],[]⟩)→go AP afo (.c (.loop HZ)::amE) ⟨ρ,x⟩=some (I (jo w m),s):=by
  refine cq (dh m).length _ _ ?_ ?_
  ·rintro j ρ x hj ⟨h2,h5,h9,dm,er,rfl⟩ ih
   obtain⟨i,hi⟩:=get_some hj
   have yV:=aZ i (bK hi)
   have hr:=BI (es:=1) (xs:=(dh m).map aD) (k:=j) (row:=aD i) (by rw[gN,hi];rfl)
   have hb:=G4 hw (l:=(dh m).take j) fun a ha=>aZ a (vJ ha)
   have hq:=hw.rq yV.1 yV.2
   have q0:=hq.Ch
   have q1:=hq.Ci
   have hl:((dh m).take j).length≤62:=by rw[fq];omega
   simp only[OW]
   simp only[go_sem,HZ,h2,h5,h9,dm,er,aR hj,hr,xH,qg hw yV.1 yV.2,bR (x:=nS w ((dh m).take j)+(w.rq i).val) (by omega) (by omega),bJ hj (show((dh m).length:Int)<_ by omega),simprocAttr]
   refine ih _ _ ?_
   refine⟨h2,?_,h9,dm,rfl,rfl⟩
   rw[fi hi,aaz];simp[nS,put]
  ·rintro ρ x ⟨h2,h5,h9,dm,er,rfl⟩
   rw[ig]at h5
   simp only[go_sem,HZ,Mc,h5,dm,er,bM,simprocAttr]
   rfl
 have O3:∀r,aw AP (.fn 26) [I (m:Int)] (s.push r)=some (bp 1 ((dh m).map aD),s.push r):=fun r=>QY qL (hs.push r)
 rw[aL (show AP 63=some DL from rfl) rfl]
 simp only[OW]at key⊢
 simp only[go_sem,SZ,O3,simprocAttr]
 refine key 0 _ _ (bh _) ?_
 exact⟨rfl,rfl,rfl,rfl,rfl,rfl⟩
def tM (m:Nat):Nat→List (Sl P×Bool)→Bool
 |_,[]=>true
 |k,c::r=>(c.2||m.testBit k)&&tM m (k+1) r
def pF (all:List (Sl P×Bool)) (m:Nat):Bool:=tM m 0 all
theorem aqC {m k:Nat} {all:List (Sl P×Bool)} {c:Sl P×Bool} (h:all[k]? =some c):tM m k (all.drop k)=((c.2||m.testBit k)&&tM m (k+1) (all.drop (k+1))):=by
 rw[eo h];rfl
theorem adn {o:Own} {e:Nat} {all:List (Sl P×Bool)} {m:Nat} (hs:Ok s) (he:all=[]∨e=2) (hl:all.length≤12) (hm:m<2^62):aw AP (.fn 64) [CH w o e all,I (m:Int)] s=some (B (pF all m),s):=by
 have OZ:m<2^63:=R8 hm (by decide)
 have key:∀(j:Nat) ρ x,j≤all.length→(ρ 1=I (m:Int)∧ρ 8=.slice o e (all.map gw)∧ρ 9=I all.length∧ρ 10=I j∧∃bx,x=s.push ⟨bx,[]⟩)→go AP afn (.c (.loop HW)::amB) ⟨ρ,x⟩=some (B (tM m j (all.drop j)),s):=by
  refine cq all.length _ _ ?_ ?_
  ·rintro j ρ x hj ⟨h1,h8,h9,dm,bx,rfl⟩ ih
   obtain⟨c,hc⟩:=get_some hj
   have jv:e=2:=by rcases he with h|h;(rw[h]at hc;simp at hc);exact h
   subst jv
   have hr:=cr (f:=gw) (o:=o) (es:=2) hc
   have aC:m/2^j<2^63:=Nat.lt_of_le_of_lt (R2 _ _) OZ
   have ht:decide (((m/2^j%2:Nat):Int)=0)=!m.testBit j:=by
    rw[abu]
    generalize m/2^j=q at*
    by_cases h:q%2=1
    ·rw[bS h,ch (by omega)];rfl
    ·rw[ch h,bS (by omega)];rfl
   rw[aqC hc]
   simp only[go_sem,HW,h1,h8,h9,dm,hs,aR hj,hr,HO (a:=m) (k:=j) (by omega),SF aC,ht,bJ hj (show(all.length:Int)<_ by omega),simprocAttr]
   cases gC:c.2<;>cases hb:m.testBit j<;>simp only[go_sem,nV,jH,Bool.or_true,Cl,simprocAttr]<;>first
    |rfl
    |(refine ih _ _ ?_;exact⟨h1,h8,h9,rfl,_,rfl⟩)
  ·rintro ρ x ⟨h1,h8,h9,dm,bx,rfl⟩
   simp only[go_sem,HW,Ma,h9,dm,bM,simprocAttr]
   rw[eE];rfl
 rw[aL (show AP 64=some DJ from rfl) rfl]
 simp only[CH,OW]
 simp only[go_sem,SY,simprocAttr]
 refine key 0 _ _ (bh _) ?_
 exact⟨rfl,rfl,rfl,rfl,_,rfl⟩
def wo (w:W) (p:P) (l:List P):List P:=l.filter fun x=>!cQ w x p
theorem aaY {l:List P} {p:P} {o:Own} {e:Nat} (hs:Ok s) (hw:Wk w) (he:l=[]∨e=3) (hl:l.length≤13000) (aZ:∀x∈l,bW w x) (hp:bW w p):aw AP (.fn 88) [OW w,.slice o e (l.map aj),.agg (aj p)] s=some (bp 3 ((wo w p l).map aj),s):=by
 have key:∀(j:Nat) ρ x,j≤l.length→(ρ 0=OW w∧ρ 5=.ptr s.ag.length 0 0∧ρ 10=.slice o e (l.map aj)∧ρ 11=I l.length∧ρ 12=I j∧∃og tk bx,Acc s.ag.length 3 ((wo w p (l.take j)).map aj) (ρ 7) og tk∧x=s.push ⟨aj p::bx,tk⟩)→go AP afO (.c (.loop Du)::anA) ⟨ρ,x⟩=some (bp 3 ((wo w p l).map aj),s):=by
  refine cq l.length _ _ ?_ ?_
  ·rintro j ρ x hj ⟨h0,h5,dm,er,cG,og,tk,bx,hA,rfl⟩ ih
   obtain⟨y,hy⟩:=get_some hj
   have BB:=aZ y (bK hy)
   have ou:e=3:=by rcases he with h|h;(rw[h]at hy;simp at hy);exact h
   subst ou
   have hr:=cr (f:=aj) (o:=o) (es:=3) hy
   have ew:∀r,aw AP (.fn 105) [OW w,.agg (aj y),.agg (aj p)] (s.push r)=some (B (cQ w y p),s.push r):=fun r=>aaV (hs.push r) hw BB hp
   have aP:closeAll (aj y)=some (aj y):=by
    simp only[aj,lZ,n9,oR,Sl.close BB.ok];rfl
   have wW:wo w p (l.take (j+1))=wo w p (l.take j)++if cQ w y p=true then[]else[y]:=by
    unfold wo
    rw[fi hy,ni];cases h:cQ w y p<;>simp[h]
   have aQ:(wo w p (l.take j)).length≤13000:=by
    have:=lR (fun x=>!cQ w x p) (l.take j)
    rw[fq]at this;unfold wo;omega
   simp only[aj,Sl.v]at ew aP
   cases hc:cQ w y p with
   |true=>
    rw[hc]at ew
    simp only[go_sem,Du,h0,h5,dm,er,cG,hs,aR hj,hr,ew,bJ hj (show(l.length:Int)<_ by omega),simprocAttr]
    refine ih _ _ ?_
    refine⟨h0,h5,dm,er,rfl,og,tk,_,?_,rfl⟩
    rw[wW,hc,ak rfl,iG];exact hA
   |false=>
    rw[hc]at ew
    obtain⟨x',gv,tk',cw,dX,_⟩:=hA.append hs .full (ys:=[aj y]) (by simp) (by simp;omega)
    simp only[aj,Sl.v]at cw
    simp only[go_sem,Du,h0,h5,dm,er,cG,hs,aR hj,hr,ew,aP,cw,bJ hj (show(l.length:Int)<_ by omega),simprocAttr]
    refine ih _ _ ?_
    refine⟨h0,h5,dm,er,rfl,gv,tk',_,?_,rfl⟩
    rw[wW,hc,aq (by simp),fT];exact dX
  ·rintro ρ x ⟨h0,h5,dm,er,cG,og,tk,bx,hA,rfl⟩
   rw[ig]at hA
   simp only[go_sem,Du,Ng,er,cG,bM,hA.leave,simprocAttr]
 rw[aL (show AP 88=some EP from rfl) rfl]
 simp only[go_sem,TO,simprocAttr]
 refine key 0 _ _ (bh _) ?_
 exact⟨rfl,rfl,rfl,rfl,rfl,none,[],[],Acc.start,rfl⟩
theorem asu {p:P} {i:Int} {d b:Nat} (hs:Ok s) (hb:s.box d b=some [I i]):aw AP (.fn 76) [.agg (aj p),.ptr d b 0] s=some (B (decide (p.req=i)),s):=by
 rw[aL (show AP 76=some Eu from rfl) rfl]
 simp only[go_sem,Tw,fN hb,simprocAttr]
def bw (l:List P) (i:Int):Option P:=l.find? fun x=>decide (x.req=i)
def cZ:P:=⟨0,0,⟨.aA,0,[]⟩⟩
theorem Fm {α:Type} {p:α→Bool}:∀{l:List α},(l.find? p=none∧eG p l=-1)∨∃(k:Nat) (x:α),l.find? p=some x∧l[k]? =some x∧eG p l=k
 |[]=>.inl ⟨rfl,rfl⟩
 | a :: r => by
  cases h:p a with
  |true=>exact .inr ⟨0,a,by simp[h],rfl,by simp[eG,h]⟩
  |false=>
   rcases Fm (p:=p) (l:=r)with⟨h1,h2⟩|⟨k,x,h1,h2,h3⟩
   ·exact .inl ⟨by simp[h,h1],by simp[eG,h,h2]⟩
   ·exact .inr ⟨k+1,x,by simp[h,h1],by simpa using h2,by simp only[eG,h,h3,eB,dt];rw[aq (by omega)];simp⟩
theorem QZ {l:List P} {i:Int} {o:Own} {e:Nat} (hs:Ok s) (he:l=[]∨e=3) (hn:(l.length:Int)<9223372036854775808) (bH:∀p∈l,p.an.ok 1):
  aw AP (.fn 46) [.slice o e (l.map aj),I i] s=some (.tuple [.agg (aj ((bw l i).getD cZ)),B (bw l i).isSome],s):=by
 have ew:∀b,aw AP (.fn 75) [.slice o e (l.map aj),.fn 76 [] [.ptr s.ag.length 0 0]] (s.push ⟨[I i]::b,[]⟩)=some (I (eG (fun x=>decide (x.req=i)) l),s.push ⟨[I i]::b,[]⟩):=fun b=>
  Rs he hn fun a ha r=>asu ((hs.push _).push _) (fN Nv _)
 rw[aL (show AP 46=some Et from rfl) rfl]
 rcases Fm (p:=fun x:P=>decide (x.req=i)) (l:=l)with⟨h1,h2⟩|⟨k,x,h1,h2,h3⟩
 ·rw[h2]at ew
  have hp:bw l i=none:=h1
  simp only[go_sem,M0,hs,ew,hp,simprocAttr]
  rfl
 ·rw[h3]at ew
  have hp:bw l i=some x:=h1
  have hd:decide ((k:Int)<0)=false:=ch (by omega)
  have ou:e=3:=by rcases he with h|h;(rw[h]at h2;simp at h2);exact h
  subst ou
  have hr:=cr (f:=aj) (o:=o) (es:=3) h2
  have cT:=Sl.BL (f:=aD) (m:=s.push ⟨[[I i],aj x],[]⟩) (bH x (bK h2))
  simp only[aj,Sl.v]at cT
  simp only[go_sem,M0,hs,ew,hp,hd,hr,cT,simprocAttr]
  rfl
def xD (l:List (List P)):Nat→Nat→Nat
 |0,b=>b
 |n+1,b=>let k:=l.length-(n+1);xD l n (if(l.getD k []).length<(l.getD b []).length then k else b)
def fR (l:List (List P)):Nat:=xD l l.length 0
theorem aak {l:List (List P)}:∀{n b:Nat},n≤l.length→b<l.length→xD l n b<l.length
 |0,b,_,hb=>hb
 |n+1,b,hn,hb=>by
  simp only[xD]
  refine aak (by omega) ?_
  split<;>omega
theorem Q9 {l:List (List P)} (h:l≠[]):fR l<l.length:=aak (aH _) (Cr.2 h)
def pT (w:W):Nat→List (List P)→Bool
 |0,_=>true
 |n+1,l=>(l.getD (fR l) []).any fun p=>pT w n ((l.eraseIdx (fR l)).map (wo w p))
def fit (w:W) (l:List (List P)):Bool:=pT w l.length l
abbrev j9 (x:Sl P):List AV:=[x.v aj]
attribute [go_sem] j9
structure zT (w:W) (l:List (Sl P)):Prop where
 len:l.length≤12
 ok:∀x∈l,x.ok 3
 cnt:∀x∈l,x.l.length≤13000
 iD:∀x∈l,∀p∈x.l,bW w p
theorem getD_map {l:List (Sl P)} {k:Nat} {x:Sl P} (h:l[k]? =some x):(l.map (·.l)).getD k []=x.l:=by
 simp[List.getD,gN,h]
end
theorem afb {α:Type} {l:List α} {j s:Nat} {x:α} (h:l[j]? =some x):(l.take (j+1)).eraseIdx s=(l.take j).eraseIdx s++if j=s then[]else[x]:=by
 have hj:=(aY.1 h).1
 have hl:(l.take j).length=j:=by rw[fq];omega
 rw[fi h]
 by_cases h1:s<j
 ·rw[List.eraseIdx_append_of_lt_length (by omega),aq (by omega)]
 ·rw[List.eraseIdx_append_of_length_le (by omega),hl,List.eraseIdx_of_length_le (l:=l.take j) (by omega)]
  by_cases h2:j=s
  ·subst h2;simp
  ·rw[aq h2]
   obtain⟨d,hd⟩:∃d,s-j=d+1:=⟨s-j-1,by omega⟩
   rw[hd];rfl
theorem aa1 {w:W} {p:P} {l:List P}:(wo w p l).length≤l.length:=lR _ _
theorem aa2 {w:W} {p x:P} {l:List P} (h:x∈wo w p l):x∈l:=(eP.1 h).1
def kV (w:W) (p:P) (l:List (Sl P)):List (Sl P):=l.map fun x=>dv 3 (wo w p x.l)
theorem arV {w:W} {p:P} {l:List (Sl P)}:(kV w p l).map (·.l)=(l.map (·.l)).map (wo w p):=by
 simp[kV,j5,Ry]
theorem Vb {α β:Type} {f:α→β}:∀{l:List α} {i:Nat},(l.map f).eraseIdx i=(l.eraseIdx i).map f
 |[],_=>rfl
 |a::l,0=>rfl
 |a::l,i+1=>by simp only[gO,List.eraseIdx_cons_succ,Vb (l:=l)]
section
variable{s:ae} {w:W}
theorem zT.rest {l:List (Sl P)} {i:Nat} {p:P} (h:zT w l):zT w (kV w p (l.eraseIdx i)):=by
 have hm:∀x∈l.eraseIdx i,x∈l:=fun x hx=>RU hx
 refine⟨?_,fun y hy=>?_,fun y hy=>?_,fun y hy q hq=>?_⟩
 ·have:=abo l i
  have:=h.len
  simp[kV];omega
 all_goals
  obtain⟨x,hx,rfl⟩:=cC.1 hy
 ·exact vR
 ·rw[j5];exact jK aa1 (h.cnt x (hm x hx))
 ·rw[j5]at hq;exact h.iD x (hm x hx) q (aa2 hq)
theorem aty (hw:Wk w):∀(n:Nat) (s:ae) (l:List (Sl P)) (o:Own) (e:Nat),Ok s→l.length=n→(l=[]∨e=1)→zT w l→aw AP (.fn 89) [OW w,.slice o e (l.map j9)] s=some (B (fit w (l.map (·.l))),s):=by
 intro n
 induction n with
 |zero=>
  intro s l o e hs hn he hl
  have:l=[]:=uf hn
  subst this
  rw[aL (show AP 89=some Aw from rfl) rfl]
  simp only[go_sem,M8,fp,simprocAttr]
  rfl
 | succ n PJ =>
  intro s l o e hs hn he hl
  have aB:l≠[]:=by intro h;rw[h]at hn;simp at hn
  have kN:e=1:=by rcases he with h|h;exact absurd h aB;exact h
  subst kN
  have hlen:=hl.len
  generalize hL:l.map (·.l)=L
  have JC:L.length=l.length:=by rw[←hL];simp
  have ahP:L≠[]:=by intro h;rw[h]at JC;simp at JC;omega
  have ib:=Q9 ahP
  obtain⟨ys,kR⟩:=get_some (l:=l) (k:=fR L) (by omega)
  have PE:=bK kR
  have hyL:L.getD (fR L) []=ys.l:=by rw[←hL]at*;exact getD_map kR
  have oF:=hl.cnt ys PE
  have hyp:=hl.iD ys PE
  have fe:=hl.ok ys PE
  have l8:fit w L=ys.l.any fun p=>pT w n ((L.eraseIdx (fR L)).map (wo w p)):=by
   unfold fit
   rw[JC,hn,pT,hyL]
  rw[l8]
  have sB : ∀ (j : Nat) ρ x, j ≤ ys.l.length → (ρ 0 = OW w ∧ ρ 1 = .slice o 1 (l.map j9) ∧ ρ 5 = I (fR L) ∧ ρ 36 = ys.v aj ∧ ρ 37 = I ys.l.length ∧ ρ 38 = I j ∧ ∃ bx tk, x = s.push ⟨bx, tk⟩) →
    go AP NU (.c (.loop Dq)::anu) ⟨ρ,x⟩=some (B ((ys.l.drop j).any fun p=>pT w n ((L.eraseIdx (fR L)).map (wo w p))),s):=by
   refine cq ys.l.length _ _ ?_ ?_
   ·rintro j ρ x hj ⟨h0,h1,h5,mS,pX,uM,bx,tk,rfl⟩ ih
    obtain⟨p,hp⟩:=get_some hj
    have gV:=hyp p (bK hp)
    have hr:=Sl.ix (f:=aj) fe hp
    have fl:∀x:Sl P,kV w p [x]=[dv 3 (wo w p x.l)]:=fun _=>rfl
    have qh:∀(q:Nat) ρ x,q≤l.length→(ρ 0=OW w∧ρ 1=.slice o 1 (l.map j9)∧ρ 5=I (fR L)∧ρ 9=.ptr s.ag.length bx.length 0∧ρ 36=ys.v aj∧ρ 37=I ys.l.length∧ρ 38=I j∧ρ 42=.slice o 1 (l.map j9)∧ρ 43=I l.length∧ρ 44=I q∧
      ∃og tk,Acc s.ag.length 1 ((kV w p ((l.take q).eraseIdx (fR L))).map j9) (ρ 10) og tk∧x=s.push ⟨bx++[aj p],tk⟩)→
      go AP NU (.c (.loop Dr)::anv) ⟨ρ,x⟩=some (B ((ys.l.drop j).any fun p=>pT w n ((L.eraseIdx (fR L)).map (wo w p))),s):=by
     refine cq l.length _ _ ?_ ?_
     ·rintro q ρ x hq ⟨h0,h1,h5,h9,mS,pX,uM,kt,l6,oq,og,tk,hA,rfl⟩ fQ
      obtain⟨y,hy⟩:=get_some hq
      have BB:=bK hy
      have hr:=cr (f:=j9) (o:=o) (es:=1) hy
      have p8:=hl.cnt y BB
      have nP:∀r,aw AP (.fn 88) [OW w,.slice y.o y.e (y.l.map aj),.agg (aj p)] (s.push r)=some (bp 3 ((wo w p y.l).map aj),s.push r):=fun r=>aaY (hs.push r) hw (hl.ok y BB).1 p8 (hl.iD y BB) gV
      have aP:=Sl.close (f:=aj) (vR (e:=3) (l:=wo w p y.l))
      have WJ:=afb (s:=fR L) hy
      have hle:(kV w p ((l.take q).eraseIdx (fR L))).length≤12:=by
       have h1:=abo (l.take q) (fR L)
       rw[fq]at h1
       simp[kV];omega
      by_cases Xl:q=fR L
      ·have hd:decide ((q:Int)=(fR L:Int))=true:=bS (by omega)
       simp only[go_sem,Dr,h5,kt,l6,oq,aR hq,hr,bq,rP,hd,bJ hq (show(l.length:Int)<_ by omega),simprocAttr]
       refine fQ _ _ ?_
       refine⟨h0,h1,h5,h9,mS,pX,uM,kt,l6,rfl,og,tk,?_,rfl⟩
       rw[WJ,ak Xl,iG];exact hA
      ·have hd:decide ((q:Int)=(fR L:Int))=false:=ch (by omega)
       obtain⟨x',gv,tk',cw,dX,_⟩:=hA.append hs .full (ys:=[j9 (dv 3 (wo w p y.l))]) (by simp) (by simp;omega)
       simp only[j9,rE,Sl.v]at cw nP aP
       simp only[aj,Sl.v]at nP
       simp only[go_sem,Dr,h0,h5,h9,kt,l6,oq,aR hq,hr,bq,rP,hd,nP,aP,cw,bJ hq (show(l.length:Int)<_ by omega),simprocAttr]
       refine fQ _ _ ?_
       refine⟨h0,h1,h5,h9,mS,pX,uM,kt,l6,rfl,gv,tk',?_,rfl⟩
       have:kV w p ((l.take q).eraseIdx (fR L)++[y])=kV w p ((l.take q).eraseIdx (fR L))++[dv 3 (wo w p y.l)]:=by simp[kV]
       rw[WJ,aq Xl,this,fT];exact dX
     ·rintro ρ x ⟨h0,h1,h5,h9,mS,pX,uM,kt,l6,oq,og,tk,hA,rfl⟩
      rw[ig]at hA
      have ajs:zT w (kV w p (l.eraseIdx (fR L))):=hl.rest
      have yX:(kV w p (l.eraseIdx (fR L))).length=n:=by
       simp only[kV,bE]
       rw[Lu (by omega)];omega
      obtain⟨o',e',hx,kz⟩:∃o' e',ρ 10=.slice o' e' ((kV w p (l.eraseIdx (fR L))).map j9)∧(kV w p (l.eraseIdx (fR L))=[]∨e'=1):=by
       cases og with
       |none=>obtain⟨h1,h2⟩:=hA;exact⟨_,_,by rw[h2,h1],.inl (by simpa using h1)⟩
       |some g=>exact⟨_,_,hA.2.1,.inr rfl⟩
      have xe:∀r,aw AP (.fn 89) [OW w,.slice o' e' ((kV w p (l.eraseIdx (fR L))).map j9)] (s.push r)=some (B (pT w n ((L.eraseIdx (fR L)).map (wo w p))),s.push r):=fun r=>by
       rw[PJ (s.push r) (kV w p (l.eraseIdx (fR L))) o' e' (hs.push r) yX kz ajs,fit,arV,←hL,←Vb,bE,Lu (by rw[hL];omega),bE,hn]
       rfl
      rw[eo hp,oM]
      simp only[go_sem,Dr,Na,M9,h0,l6,oq,uM,bM,hx,xe,simprocAttr]
      cases pT w n ((L.eraseIdx (fR L)).map (wo w p))with
      |true=>simp only[go_sem,simprocAttr];rfl
      |false=>
       simp only[go_sem,bJ hj (show(ys.l.length:Int)<_ by omega),simprocAttr]
       refine(ih _ _ ?_).trans (by simp)
       exact⟨h0,h1,h5,mS,pX,rfl,_,_,rfl⟩
    simp only[go_sem,Dq,h1,mS,pX,uM,hs,aR hj,hr,simprocAttr]
    refine qh 0 _ _ (bh _) ?_
    exact⟨h0,h1,h5,rfl,mS,pX,uM,rfl,rfl,rfl,none,tk,by rw[show kV w p ((l.take 0).eraseIdx (fR L))=[]by simp[kV]];exact Acc.start,rfl⟩
   ·rintro ρ x ⟨h0,h1,h5,mS,pX,uM,bx,tk,rfl⟩
    simp only[go_sem,Dq,IH,pX,uM,bM,simprocAttr]
    rw[eE];rfl
  have ksh:∀(j:Nat) ρ x,j≤l.length→(ρ 0=OW w∧ρ 1=.slice o 1 (l.map j9)∧ρ 16=.slice o 1 (l.map j9)∧ρ 17=I l.length∧ρ 18=I j∧(∃b:Nat,ρ 5=I b∧b<l.length∧xD L (l.length-j) b=fR L)∧x=s.push ⟨[],[]⟩)→
    go AP NU (.c (.loop Ds)::anw) ⟨ρ,x⟩=some (B (ys.l.any fun p=>pT w n ((L.eraseIdx (fR L)).map (wo w p))),s):=by
   refine cq l.length _ _ ?_ ?_
   ·rintro j ρ x hj ⟨h0,h1,om,mQ,gb,⟨b,h5,hb,tG⟩,rfl⟩ ih
    obtain⟨y,hy⟩:=get_some hj
    obtain⟨z,hz⟩:=get_some hb
    have hr:=cr (f:=j9) (o:=o) (es:=1) hy
    have gI:=cr (f:=j9) (o:=o) (es:=1) hz
    have jP:L.getD j []=y.l:=by rw[←hL];exact getD_map hy
    have hgz:L.getD b []=z.l:=by rw[←hL];exact getD_map hz
    have bX:xD L (l.length-j) b=xD L (l.length-(j+1)) (if y.l.length<z.l.length then j else b):=by
     obtain⟨d,hd⟩:∃d,l.length-j=d+1:=⟨l.length-j-1,by omega⟩
     rw[hd,xD]
     rw[show L.length-(d+1)=j by omega,jP,hgz,show l.length-(j+1)=d by omega]
    rw[bX]at tG
    by_cases aC:y.l.length<z.l.length
    ·have hd:decide ((y.l.length:Int)<(z.l.length:Int))=true:=bS (by omega)
     rw[ak aC]at tG
     simp only[go_sem,Ds,h1,h5,om,mQ,gb,aR hj,hr,gI,hd,bJ hj (show(l.length:Int)<_ by omega),simprocAttr]
     refine ih _ _ ?_
     exact⟨h0,h1,om,mQ,rfl,⟨j,rfl,hj,tG⟩,rfl⟩
    ·have hd:decide ((y.l.length:Int)<(z.l.length:Int))=false:=ch (by omega)
     rw[aq aC]at tG
     simp only[go_sem,Ds,h1,h5,om,mQ,gb,aR hj,hr,gI,hd,bJ hj (show(l.length:Int)<_ by omega),simprocAttr]
     refine ih _ _ ?_
     exact⟨h0,h1,om,mQ,rfl,⟨b,h5,hb,tG⟩,rfl⟩
   ·rintro ρ x ⟨h0,h1,om,mQ,gb,⟨b,h5,hb,tG⟩,rfl⟩
    rw[HC]at tG
    have Bh:b=fR L:=tG
    subst Bh
    have hr:=cr (f:=j9) (o:=o) (es:=1) kR
    simp only[go_sem,Ds,Nb,h1,h5,mQ,gb,bM,hr,simprocAttr]
    refine sB 0 _ _ (bh _) ?_
    exact⟨h0,h1,h5,rfl,rfl,rfl,[],[],rfl⟩
  have hd:decide ((l.length:Int)=0)=false:=ch (by omega)
  rw[aL (show AP 89=some Aw from rfl) rfl]
  simp only[go_sem,M8,hd,simprocAttr]
  refine ksh 0 _ _ (bh _) ?_
  exact⟨rfl,rfl,rfl,rfl,rfl,⟨0,rfl,by omega,by rw[Se,←JC];rfl⟩,rfl⟩
instance : Inhabited (Sl P×Bool):=⟨(⟨.aA,0,[]⟩,false)⟩
def jG (w:W) (plan:List P) (x:Sl P):Sl P:=plan.foldl (fun x p=>dv 3 (wo w p x.l)) x
def mo (w:W) (all:List (Sl P×Bool)) (plan:List P) (l:List Int):List (Sl P):=(l.filter fun i=>(bw plan i).isNone).map fun i=>jG w plan (all.getD i.toNat default).1
def gZ (w:W) (all:List (Sl P×Bool)) (plan:List P) (m:Nat):Bool:=fit w ((mo w all plan (dh m)).map (·.l))
theorem atJ {plan:List P} {x:Sl P} {q:Nat} {p:P} (h:plan[q]? =some p):jG w (plan.take (q+1)) x=dv 3 (wo w p (jG w (plan.take q) x).l):=by
 rw[jG,fi h,Lr];rfl
theorem Rp {x:Sl P} (hx:x.ok 3) (hc:x.l.length≤13000) (hp:∀p∈x.l,bW w p):∀{plan:List P},(jG w plan x).ok 3∧(jG w plan x).l.length≤13000∧∀p∈(jG w plan x).l,bW w p:=by
 intro plan
 induction plan generalizing x with
 |nil=>exact⟨hx,hc,hp⟩
 |cons a r ih=>exact ih (x:=dv 3 (wo w a x.l)) vR (by rw[j5];exact jK aa1 hc) (fun p h=>by rw[j5]at h;exact hp p (aa2 h))
theorem apt {all:List (Sl P×Bool)} {plan:List P} {l:List Int} {j:Nat} {i:Int} (h:l[j]? =some i):mo w all plan (l.take (j+1))=mo w all plan (l.take j)++if(bw plan i).isSome=true then[]else[jG w plan (all.getD i.toNat default).1]:=by
 unfold mo
 rw[fi h,ni,fT]
 cases hp:bw plan i<;>simp[hp]
theorem sP.get {e:Nat} {all:List (Sl P×Bool)} (h:sP w e all) {i:Int} (h0:0≤i) (h1:i<w.rs.l.length):∃c,all[i.toNat]? =some c∧all.getD i.toNat default=c∧c∈all:=by
 have hl:=h.len
 obtain⟨c,hc⟩:=get_some (l:=all) (k:=i.toNat) (by omega)
 exact⟨c,hc,by simp[List.getD,hc],bK hc⟩
theorem Uh {o o2:Own} {e e2:Nat} {all:List (Sl P×Bool)} {plan:List P} {m:Nat} (hs:Ok s) (hw:Wk w) (gm:sP w e all) (hm:m<2^w.rs.l.length) (hp:∀p∈plan,bW w p) (jv:plan=[]∨e2=3) (cD:plan.length≤14):
  aw AP (.fn 65) [CH w o e all,.slice o2 e2 (plan.map aj),I (m:Int)] s=some (B (gZ w all plan m),s):=by
 have et:=hw.v.rl
 have qL:m<2^62:=nk hm (jq (by decide) (by omega))
 have aZ:∀i∈dh m,0≤i∧i<w.rs.l.length:=fun i hi=>BR hm hi
 have hml:=Yy (m:=m)
 have ajx:∀j,(mo w all plan ((dh m).take j)).length≤62:=fun j=>by
  have:=lR (fun i=>(bw plan i).isNone) ((dh m).take j)
  rw[fq]at this
  simp only[mo,bE];omega
 have avA:(dh m).length≤12:=by
  have e:dh m=pD m w.rs.l.length:=Yx (LA hm) (by omega)
  have:=Qd (m:=m) (n:=w.rs.l.length)
  rw[e];omega
 have hLs:zT w (mo w all plan (dh m)):=by
  refine⟨?_,?_,?_,?_⟩
  ·have:=lR (fun i=>(bw plan i).isNone) (dh m)
   simp only[mo,bE];omega
  all_goals
   intro x hx
   obtain⟨i,hi,rfl⟩:=cC.1 hx
   have bD:=aZ i (eP.1 hi).1
   obtain⟨c,dY,gC,p7⟩:=gm.get bD.1 bD.2
   rw[gC]
   have:=Rp (w:=w) (gm.ok c p7) (gm.cnt c p7) (gm.iD c p7) (plan:=plan)
  ·exact this.1
  ·exact this.2.1
  ·exact this.2.2
 have sB : ∀ (j : Nat) ρ x, j ≤ (dh m).length → (ρ 1 = .slice o2 e2 (plan.map aj) ∧ ρ 3 = .ptr s.ag.length 0 0 ∧ ρ 16 = bp 1 ((dh m).map aD) ∧ ρ 17 = I (dh m).length ∧ ρ 18 = I j ∧
   ∃og tk bx,Acc s.ag.length 1 ((mo w all plan ((dh m).take j)).map j9) (ρ 7) og tk∧x=s.push ⟨[OW w,.slice o e (all.map gw)]::bx,tk⟩)→go AP Ve (.c (.loop Ab)::amz) ⟨ρ,x⟩=some (B (gZ w all plan m),s):=by
  refine cq (dh m).length _ _ ?_ ?_
  ·rintro j ρ x hj ⟨h1,h3,om,mQ,gb,og,tk,bx,hA,rfl⟩ ih
   obtain⟨i,hi⟩:=get_some hj
   have yV:=aZ i (bK hi)
   have hr:=BI (es:=1) (xs:=(dh m).map aD) (k:=j) (row:=aD i) (by rw[gN,hi];rfl)
   obtain⟨c,dY,gC,p7⟩:=gm.get yV.1 yV.2
   have kz:e=2:=by rcases gm.e with h|h;(rw[h]at dY;simp at dY);exact h
   subst kz
   have kO:=cr (f:=gw) (o:=o) (es:=2) dY
   rw[show((i.toNat:Nat):Int)=i by omega]at kO
   have cH:∀r,aw AP (.fn 46) [.slice o2 e2 (plan.map aj),I i] (s.push r)=some (.tuple [.agg (aj ((bw plan i).getD cZ)),B (bw plan i).isSome],s.push r):=fun r=>QZ (hs.push r) jv (by omega) fun p h=>(hp p h).ok
   have Pc:=apt (w:=w) (all:=all) (plan:=plan) hi
   rw[gC]at Pc
   have Xz:=bJ hj (show((dh m).length:Int)<_ by omega)
   simp only[aj,Sl.v]at cH
   cases u9:(bw plan i).isSome with
   |true=>
    rw[u9]at cH
    simp only[go_sem,Ab,HV,h1,om,mQ,gb,hs,aR hj,hr,cH,Xz,simprocAttr]
    refine ih _ _ ?_
    refine⟨h1,h3,om,mQ,rfl,og,tk,_,?_,rfl⟩
    rw[Pc,u9,ak rfl,iG];exact hA
   | false =>
    rw[u9]at cH
    have qh:∀(q:Nat) ρ x,q≤plan.length→(ρ 1=.slice o2 e2 (plan.map aj)∧ρ 3=.ptr s.ag.length 0 0∧ρ 12=(jG w (plan.take q) c.1).v aj∧ρ 16=bp 1 ((dh m).map aD)∧ρ 17=I (dh m).length∧ρ 18=I j∧ρ 35=.slice o2 e2 (plan.map aj)∧ρ 36=I plan.length∧ρ 37=I q∧
      ∃og tk bx,Acc s.ag.length 1 ((mo w all plan ((dh m).take j)).map j9) (ρ 7) og tk∧x=s.push ⟨[OW w,.slice o 2 (all.map gw)]::bx,tk⟩)→go AP Ve (.c (.loop HT)::amA) ⟨ρ,x⟩=some (B (gZ w all plan m),s):=by
     refine cq plan.length _ _ ?_ ?_
     ·rintro q ρ x hq ⟨h1,h3,cG,om,mQ,gb,pW,mS,pX,og,tk,bx,hA,rfl⟩ fQ
      obtain⟨p,u5⟩:=get_some hq
      have gV:=hp p (bK u5)
      have ou:e2=3:=by rcases jv with h|h;(rw[h]at u5;simp at u5);exact h
      subst ou
      have hr:=cr (f:=aj) (o:=o2) (es:=3) u5
      have cV:=Rp (w:=w) (gm.ok c p7) (gm.cnt c p7) (gm.iD c p7) (plan:=plan.take q)
      have nP:∀r,aw AP (.fn 88) [OW w,(jG w (plan.take q) c.1).v aj,.agg (aj p)] (s.push r)=some (bp 3 ((wo w p (jG w (plan.take q) c.1).l).map aj),s.push r):=fun r=>aaY (hs.push r) hw cV.1.1 cV.2.1 cV.2.2 gV
      simp only[aj]at nP
      simp only[go_sem,HT,h3,cG,pW,mS,pX,hs,aR hq,hr,nP,bJ hq (show(plan.length:Int)<_ by omega),simprocAttr]
      refine fQ _ _ ?_
      refine⟨h1,h3,?_,om,mQ,gb,pW,mS,rfl,og,tk,_,hA,rfl⟩
      rw[atJ u5,←rE];rfl
     ·rintro ρ x ⟨h1,h3,cG,om,mQ,gb,pW,mS,pX,og,tk,bx,hA,rfl⟩
      rw[ig]at cG
      have cV:=Rp (w:=w) (gm.ok c p7) (gm.cnt c p7) (gm.iD c p7) (plan:=plan)
      have aP:=Sl.close (f:=aj) cV.1
      obtain⟨x',gv,tk',cw,dX,_⟩:=hA.append hs .full (ys:=[j9 (jG w plan c.1)]) (by simp) (by have:=ajx j;simp;omega)
      simp only[j9,Sl.v]at cw cG aP
      simp only[go_sem,HT,L9,HV,cG,gb,mS,pX,bM,aP,cw,Xz,simprocAttr]
      refine ih _ _ ?_
      refine⟨h1,h3,om,mQ,rfl,gv,tk',_,?_,rfl⟩
      rw[Pc,u9,aq (by simp),fT];exact dX
    simp only[go_sem,Ab,h1,h3,om,mQ,gb,hs,aR hj,hr,cH,kO,simprocAttr]
    refine qh 0 _ _ (bh _) ?_
    exact⟨h1,h3,rfl,om,mQ,gb,rfl,rfl,rfl,og,tk,_,hA,rfl⟩
  ·rintro ρ x ⟨h1,h3,om,mQ,gb,og,tk,bx,hA,rfl⟩
   rw[ig]at hA
   obtain⟨o',e',hx,kz⟩:∃o' e',ρ 7=.slice o' e' ((mo w all plan (dh m)).map j9)∧(mo w all plan (dh m)=[]∨e'=1):=by
    cases og with
    |none=>obtain⟨h1,h2⟩:=hA;exact⟨_,_,by rw[h2,h1],.inl (by simpa using h1)⟩
    |some g=>exact⟨_,_,hA.2.1,.inr rfl⟩
   have xe:∀r,aw AP (.fn 89) [OW w,.slice o' e' ((mo w all plan (dh m)).map j9)] (s.push r)=some (B (gZ w all plan m),s.push r):=fun r=>aty hw _ _ _ _ _ (hs.push r) rfl kz hLs
   simp only[go_sem,Ab,HU,h3,mQ,gb,bM,hx,xe,simprocAttr]
 have O3:∀r,aw AP (.fn 26) [I (m:Int)] (s.push r)=some (bp 1 ((dh m).map aD),s.push r):=fun r=>QY qL (hs.push r)
 rw[aL (show AP 65=some DI from rfl) rfl]
 simp only[CH,OW]at sB⊢
 simp only[go_sem,SX,O3,simprocAttr]
 refine sB 0 _ _ (bh _) ?_
 exact⟨rfl,rfl,rfl,rfl,rfl,none,[],[],Acc.start,rfl⟩
end
end Go.Ax.Sx.Sc
