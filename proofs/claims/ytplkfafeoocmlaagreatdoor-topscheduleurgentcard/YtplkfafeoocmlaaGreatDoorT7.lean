/-
  The opened week: a row of 803 cells.
-/
import Derived.Test.YtplkfafeoocmlaaGreatDoorT6
import Derived.Test.YtplkfafeoocmlaaGreatDoorT5
set_option linter.unusedSimpArgs false
set_option linter.unusedVariables false
set_option maxRecDepth 100000
namespace Go.Ax.Sx.Sc
open Go.Ax
section
variable{s:ae}
theorem vS {a b c:Int}:au AP (.fn 61) [I a,I b,I c] s=some (B (wi a b c),s):=by
 rw[aM (show AP 61=some EO from rfl) rfl]
 simp only[go_sem,UG,simprocAttr]
 unfold wi
 cases decide (b≤a)<;>cases decide (a≤c)<;>rfl
theorem lk {c:Bool} {e:Int}:au AP (.fn 39) [B c,I e] s=some (I (cond c 0 e),s):=by
 rw[aM (show AP 39=some EN from rfl) rfl]
 simp only[go_sem,UF,simprocAttr]
 cases c<;>rfl
theorem Sj {l:List Int} {o:Own} (hl:(l.length:Int)<9223372036854775808):au AP (.fn 32) [.slice o 1 (ints l)] s=some (I (dV l),s):=by
 have key:∀k ρ m,k≤l.length→(ρ 5=.slice o 1 (ints l)∧ρ 6=I l.length∧ρ 7=I k∧m=s.push ⟨[],[]⟩)→go AP agw (.c (.loop I3)::anV) ⟨ρ,m⟩=some (I (dV (l.drop k)),s):=by
  refine cq l.length _ _ ?_ ?_
  ·rintro k ρ m hk ⟨h5,h6,h7,rfl⟩ ih
   obtain⟨x,hx⟩:=get_some hk
   have hr:=GZ (o:=o) (es:=1) (alj hx)
   simp only[go_sem,I3,h5,h6,h7,aS hk,hr,bK hk hl,simprocAttr]
   rw[eR hx]
   by_cases h0:x=0
   ·subst h0
    simp only[bn,eW,tB,gR]
    refine(ih _ _ ?_).trans rfl
    exact⟨h5,h6,rfl,rfl⟩
   ·simp only[bn,h0,iC,qN,fH,dV,db]
  ·rintro ρ m ⟨h5,h6,h7,rfl⟩
   simp only[go_sem,I3,NA,h6,h7,bN,simprocAttr]
   rw[eZ];rfl
 rw[aM (show AP 32=some EB from rfl) rfl]
 simp only[go_sem,Uv,alk,simprocAttr]
 exact key 0 _ _ (bp _) ⟨rfl,rfl,rfl,rfl⟩
theorem mH {a b:Int}:au AP (.fn 32) [.slice .full 1 [[I a],[I b]]] s=some (I (dV [a,b]),s):=Sj (l:=[a,b]) (show(2:Int)<_ by decide)
theorem asY {a b c:Int}:au AP (.fn 32) [.slice .full 1 [[I a],[I b],[I c]]] s=some (I (dV [a,b,c]),s):=Sj (l:=[a,b,c]) (show(3:Int)<_ by decide)
theorem asZ {a b c d:Int}:au AP (.fn 32) [.slice .full 1 [[I a],[I b],[I c],[I d]]] s=some (I (dV [a,b,c,d]),s):=Sj (l:=[a,b,c,d]) (show(4:Int)<_ by decide)
theorem ZO {k:Nat} {l:List UInt8} {c:UInt8} (h:l[k]? =some c):rD k (l.drop k)=(nameAt k c&&rD (k+1) (l.drop (k+1))):=by
 rw[eR h];rfl
theorem ZN {k:Nat} {c:UInt8}:nameAt k c=((decide ((97:Int)≤(c.toNat:Int))&&decide ((c.toNat:Int)≤122))||(decide ((65:Int)≤(c.toNat:Int))&&decide ((c.toNat:Int)≤90))||(!decide ((k:Int)=0)&&(decide ((c.toNat:Int)=45)||(decide ((48:Int)≤(c.toNat:Int))&&decide ((c.toNat:Int)≤57))))):=by
 unfold nameAt letter
 have e1:decide (97≤c.toNat)=decide ((97:Int)≤(c.toNat:Int)):=by simp;omega
 have e2:decide (c.toNat≤122)=decide ((c.toNat:Int)≤122):=by simp;omega
 have e3:decide (65≤c.toNat)=decide ((65:Int)≤(c.toNat:Int)):=by simp;omega
 have e4:decide (c.toNat≤90)=decide ((c.toNat:Int)≤90):=by simp;omega
 have e5:decide (k=0)=decide ((k:Int)=0):=by simp
 have e6:decide (c.toNat=45)=decide ((c.toNat:Int)=45):=by simp;omega
 have e7:decide (48≤c.toNat)=decide ((48:Int)≤(c.toNat:Int)):=by simp;omega
 have e8:decide (c.toNat≤57)=decide ((c.toNat:Int)≤57):=by simp;omega
 rw[e1,e2,e3,e4,e5,e6,e7,e8]
theorem abd {x:ByteArray} (hx:(x.size:Int)<9223372036854775808):au AP (.fn 118) [S x] s=some (B (isName x),s):=by
 have bV:x.data.size=x.size:=rfl
 have hl:x.data.toList.length=x.size:=by simp[bV]
 have key:∀k ρ m,k≤x.size→(ρ 0=S x∧ρ 7=.slice .any 1 (byteCells x)∧ρ 8=I x.size∧ρ 9=I k∧m=s.push ⟨[],[]⟩)→go AP WE (.c (.loop DH)::Zb) ⟨ρ,m⟩=some (B (rD k (x.data.toList.drop k)&&decide (1≤x.size)&&decide (x.size≤12)),s):=by
  refine cq x.size _ _ ?_ ?_
  ·rintro k ρ m hk ⟨h0,h7,h8,h9,rfl⟩ ih
   obtain⟨c,hc⟩:=get_some (l:=x.data.toList) (k:=k) (by omega)
   have hr:=GZ (o:=.any) (es:=1) (aeg hc)
   rw[ZO hc,ZN]
   simp only[go_sem,DH,h7,h8,h9,aS hk,hr,bK hk hx,simprocAttr]
   simp only[bn,r7]
   have fS:∀(ρ':Nat→AV),ρ' 0=S x→ρ' 7=AV.slice Own.any 1 (byteCells x)→ρ' 8=I ↑x.size→ρ' 9=I ↑(k+1)→go AP WE (.c (.loop DH)::Zb) ⟨ρ',s.push ⟨[],[]⟩⟩=some (B (rD (k+1) (List.drop (k+1) x.data.toList)&&decide (1≤x.size)&&decide (x.size≤12)),s):=fun ρ' a b c d=>ih ρ' _ ⟨a,b,c,d,rfl⟩
   generalize decide ((97:Int)≤(c.toNat:Int))=a1
   generalize decide ((c.toNat:Int)≤122)=a2
   generalize decide ((65:Int)≤(c.toNat:Int))=a3
   generalize decide ((c.toNat:Int)≤90)=a4
   generalize decide ((c.toNat:Int)=45)=a5
   have e8:decide ((c.toNat:Int)<48)=!decide ((48:Int)≤(c.toNat:Int)):=dec_lt _ _
   have e9:decide ((57:Int)<(c.toNat:Int))=!decide ((c.toNat:Int)≤57):=dec_lt _ _
   rw[e8,e9]
   generalize decide ((48:Int)≤(c.toNat:Int))=a6
   generalize decide ((c.toNat:Int)≤57)=a7
   generalize decide ((k:Int)=0)=a8
   generalize rD (k+1) (List.drop (k+1) x.data.toList)=nf at*
   cases a1<;>cases a2<;>cases a3<;>cases a4<;>cases a5<;>cases a6<;>cases a7<;>cases a8<;>first
    |rfl
    |exact fS _ h0 h7 h8 rfl
  ·rintro ρ m ⟨h0,h7,h8,h9,rfl⟩
   simp only[go_sem,DH,NB,h0,h8,h9,bN,simprocAttr]
   have e1:List.drop x.size x.data.toList=[]:=by rw[←hl,eZ]
   have e2 : decide (x ≠ ⟨#[]⟩) = decide (1 ≤ x.size) := by
    by_cases h : x = ⟨#[]⟩
    ·subst h;rfl
    ·have:x.size≠0:=fun e=>h (L0 (by have:x.data.size=0:=e;exact Array.eq_empty_of_size_eq_zero this))
     simp only[bn,h,iC,qN]
     exact(bM (by omega)).symm
   have e3:decide ((x.size:Int)≤12)=decide (x.size≤12):=by
    by_cases h:x.size≤12
    ·rw[bM h,bM (by omega)]
    ·rw[bX h,bX (by omega)]
   rw[e1,e2,e3];rfl
 rw[aM (show AP 118=some EE from rfl) rfl]
 simp only[go_sem,Uy,bV,simprocAttr]
 refine(key 0 _ _ (bp _) ⟨rfl,rfl,rfl,rfl,rfl⟩).trans ?_
 rfl
theorem as6 {n x:Int} {d b:Nat} {a r:AV} (hs:Ok s) (hn:1≤n) (iQ:n≤200) (hb:s.box d b=some [I n,a,r]):au AP (.fn 128) [I x,.ptr d b 0] s=some (B (wi x 0 (n-1)),s):=by
 rw[aM (show AP 128=some EM from rfl) rfl]
 simp only[go_sem,UE,fO hb,vS,ch (x:=n-1) (by omega) (by omega),simprocAttr]
theorem aty {c a:Bool}:dV [cond c 0 2,cond a 0 9]=if c=true then(if a=true then 0 else 9)else 2:=by cases c<;>cases a<;>rfl
theorem abg {n x y:Int} {o1 o2:Own} {e1 e2:Nat} {r1 r2:List (List AV)} (hs:Ok s) (hn:1≤n) (iQ:n≤200):au AP (.fn 119) [.agg [I n,.slice o1 e1 r1,.slice o2 e2 r2],.agg [I x,I y]] s=some (I (ki n x y),s):=by
 rw[aM (show AP 119=some EL from rfl) rfl]
 have e:∀x r,au AP (.fn 128) [I x,.ptr s.ag.length 0 0] (dt (s.push ⟨[I n,.slice o1 e1 r1,.slice o2 e2 r2]::r,[]⟩))=some (B (wi x 0 (n-1)),dt (s.push ⟨[I n,.slice o1 e1 r1,.slice o2 e2 r2]::r,[]⟩)):=fun x r=>as6 zW hn iQ (by rw[asx,Oa])
 simp only[go_sem,UD,lk,mH,e,aty,simprocAttr]
 unfold ki
 cases wi x 0 (n-1)<;>cases wi y 0 (n-1)<;>by_cases h:x≤y<;>simp[h]
theorem asW {a b:A} {d k:Nat} (hs:Ok s) (hb:s.box d k=some (cj b)):au AP (.fn 117) [.agg (cj a),.ptr d k 0] s=some (B (decide (a.name=b.name)),s):=by
 rw[aM (show AP 117=some Ez from rfl) rfl]
 simp only[go_sem,Uu,fO hb,simprocAttr]
theorem VN {n e:Int}:∀{l:List (Int×Int)},l.foldl (fun e p=>dV [e,ki n p.1 p.2]) e=if e=0 then rZ n l else e
 |[]=>by by_cases h:e=0<;>simp[rZ,h]
 | p :: l => by
  rw[v8,VN]
  by_cases h:e=0
  ·subst h
   by_cases h2:ki n p.1 p.2=0<;>simp[dV,rZ,h2]
  ·simp[dV,h]
theorem acV {a b c d:Bool}:dV [cond a 0 4,cond b 0 5,cond c 0 2,cond d 0 8]=if a=true then if b=true then if c=true then if d=true then 0 else 8 else 2 else 5 else 4:=by
 cases a<;>cases b<;>cases c<;>cases d<;>rfl
theorem aby {α:Type} {f:α→List AV} {o:Own} {es k:Nat} {l:List α} (hk:k≤l.length):∃o',gD (.sl es) (.slice o es (l.map f)) none (some (.v (.int .i64 (k:Int)))) none=some (.slice o' es ((l.take k).map f)):=by
 refine⟨um o false (0==0&&k==(l.map f).length) (k==(l.map f).length&&0<(l.map f).length),?_⟩
 have h1:jS (some (AV.v (.int .i64 (k:Int)))) false (l.map f).length (l.map f).length=some k:=by
  simp[jS,asNat,hk]
 simp only[bR]at h1
 simp[gD,pG,h1,jG,HL]
theorem asV {n:Int} {as:List A} {o1 o2:Own} {e2:Nat} {rs:List (List AV)} {k:Nat} {a:A} (hs:Ok s) (Pv:a.cl.l=[]∨a.cl.e=2) (hn:1≤n) (iQ:n≤200) (ha:as[k]? =some a) (bV:(a.name.size:Int)<9223372036854775808) (hl:as.length≤4) (aP:(a.cl.l.length:Int)<9223372036854775808):
  au AP (.fn 100) [.agg [I n,.slice o1 3 (as.map cj),.slice o2 e2 rs],I k] s=some (I (ku n as k a),s):=by
 have hk:k<as.length:=(bd.1 ha).1
 obtain⟨name,js,⟨oc,ec,cl⟩⟩:=a
 obtain⟨o',po⟩:=aby (f:=cj) (o:=o1) (es:=3) (l:=as) (k:=k) (by omega)
 have cC:=cD (f:=cj) (o:=o1) (es:=3) ha
 have dW:∀r,au AP (.fn 116) [.slice o' 3 ((as.take k).map cj),.fn 117 [] [.ptr s.ag.length 1 0]] (s.push ⟨[I n,.slice o1 3 (as.map cj),.slice o2 e2 rs]::cj ⟨name,js,⟨oc,ec,cl⟩⟩::r,[]⟩)=some (B ((as.take k).any fun b=>decide (b.name=name)),s.push ⟨[I n,.slice o1 3 (as.map cj),.slice o2 e2 rs]::cj ⟨name,js,⟨oc,ec,cl⟩⟩::r,[]⟩):=fun r=>by
  refine auy (.inr rfl) (by rw[fc];omega) fun b hb r1 r2=>?_
  refine asW (b:=⟨name,js,⟨oc,ec,cl⟩⟩) (((hs.push _).push _).push _) ?_
  exact fO (fO Ve _) _
 have qh:∀{m:ae},au AP (.fn 118) [S name] m=some (B (isName name),m):=abd bV
 rw[aM (show AP 100=some Ey from rfl) rfl]
 simp only[go_sem,Ut,hs,po,cC,dW,qh,lk,vS,asZ,acV,simprocAttr]
 generalize O9:(if isName name=true then if(!(as.take k).any fun b=>decide (b.name=name))=true then if wi js 0 50=true then if decide ((cl.length:Int)≤6)=true then(0:Int)else 8 else 2 else 5 else 4)=E0
 have mm:(if E0=0 then rZ n cl else E0)=ku n as k ⟨name,js,⟨oc,ec,cl⟩⟩:=by
  have h6:decide ((cl.length:Int)≤6)=decide (cl.length≤6):=by
   by_cases h:cl.length≤6
   ·rw[bM h,bM (by omega)]
   ·rw[bX h,bX (by omega)]
  rw[←O9,h6]
  unfold ku
  simp only
  cases isName name<;>cases((as.take k).any fun b=>decide (b.name=name))<;>cases wi js 0 50<;>by_cases h:cl.length≤6<;>simp[h]
 have key:∀j ρ m,j≤cl.length→(ρ 2=.ptr s.ag.length 0 0∧ρ 7=I ((cl.take j).foldl (fun e p=>dV [e,ki n p.1 p.2]) E0)∧ρ 40=.slice oc ec (cl.map gW)∧ρ 41=I cl.length∧ρ 42=I j∧∃junk,m=s.push ⟨[I n,.slice o1 3 (as.map cj),.slice o2 e2 rs]::junk,[]⟩)→go AP agv (.c (.loop I0)::anU) ⟨ρ,m⟩=some (I (ku n as k ⟨name,js,⟨oc,ec,cl⟩⟩),s):=by
  refine cq cl.length _ _ ?_ ?_
  ·rintro j ρ m hj ⟨h2,h7,O6,J5,kD,junk,rfl⟩ ih
   obtain⟨p,hp⟩:=get_some hj
   have ej:ec=2:=by rcases Pv with h|h;(simp only at h;rw[h]at hp;simp at hp);exact h
   subst ej
   have hr:=cD (f:=gW) (o:=oc) (es:=2) hp
   simp only[go_sem,I0,h2,h7,O6,J5,kD,hs,aS hj,hr,abg (hs.push _) hn iQ,mH,bK hj aP,simprocAttr]
   refine ih _ _ ?_
   refine⟨h2,?_,O6,J5,rfl,_,rfl⟩
   rw[fF hp,HG];rfl
  ·rintro ρ m ⟨h2,h7,O6,J5,kD,junk,rfl⟩
   rw[jb,VN,mm]at h7
   simp only[go_sem,I0,Nz,h7,J5,kD,bN,simprocAttr]
 refine key 0 _ _ (bp _) ?_
 exact⟨rfl,rfl,rfl,rfl,rfl,_,rfl⟩
theorem TR {n:Int}:∀{l:List Int} {e last:Int},(l.foldl (fun(q:Int×Int) a=>(dV [q.1,cond (wi a 0 (n-1)) 0 6,cond (decide (q.2<a)) 0 9],a)) (e,last)).1=if e=0 then kR n last l else e
 |[],e,last=>by by_cases h:e=0<;>simp[kR,h]
 | a :: l, e, last => by
  rw[v8,TR]
  by_cases h:e=0
  ·subst h
   cases h1:wi a 0 (n-1)<;>by_cases h2:last<a<;>simp[dV,kR,h1,h2]
  ·simp[dV,h]
theorem as5 {n:Int} {as:List (List AV)} {r:R} {o1 o2:Own} {e1 e2:Nat} {rs:List (List AV)} (hs:Ok s) (fR:r.an.l=[]∨r.an.e=1) (hn:1≤n) (iQ:n≤200) (bV:(r.bJ.size:Int)<9223372036854775808) (hl:as.length≤4) (aP:(r.an.l.length:Int)<9223372036854775808):
  au AP (.fn 101) [.agg [I n,.slice o1 e1 as,.slice o2 e2 rs],.agg (bO r)] s=some (I (kL n as.length r),s):=by
 obtain⟨bJ,lo,hi,len,val,⟨oa,ea,an⟩,need⟩:=r
 have qh:∀{m:ae},au AP (.fn 118) [S bJ] m=some (B (isName bJ),m):=abd bV
 rw[aM (show AP 101=some EK from rfl) rfl]
 simp only[go_sem,UC,qh,lk,vS,mH,abg (hs.push _) hn iQ,simprocAttr]
 simp only at fR aP
 by_cases he:dV [cond (isName bJ) 0 4,ki n lo hi]=0
 case neg=>
  simp only[bn,he,iC,qN,fH]
  congr 3
  unfold kL
  cases h1:isName bJ
  ·simp[dV]
  ·rw[h1]at he
   simp only[dV,fH,bP]at he⊢
   by_cases h2:ki n lo hi=0
   ·exact absurd (by rw[ak h2]) he
   ·simp[h2]
 simp only[bn,he,eW,tB,gR]
 have h1:isName bJ=true:=by
  cases h1:isName bJ
  ·rw[h1]at he;simp[dV]at he
  ·rfl
 have h2:ki n lo hi=0:=by
  rw[h1]at he
  by_cases h2:ki n lo hi=0
  ·exact h2
  ·simp[dV,h2]at he
 have hb:(0≤lo∧lo≤n-1)∧(0≤hi∧hi≤n-1):=by
  unfold ki at h2
  cases q1:wi lo 0 (n-1)<;>cases q2:wi hi 0 (n-1)<;>rw[q1,q2]at h2<;>simp at h2
  exact⟨iE.1 q1,iE.1 q2⟩
 rw[ch (x:=hi-lo) (by omega) (by omega),ch (x:=hi-lo+1) (by omega) (by omega)]
 generalize O9:dV [cond (wi len 1 (hi-lo+1)&&wi val 0 100000) 0 2,cond (decide ((0:Int)<(an.length:Int))) 0 10]=E0
 have mm:∀e,(if E0=0 then kR (as.length:Nat) (-1) an else E0)=e→dV [e,cond (wi need 1 an.length) 0 2]=kL n as.length ⟨bJ,lo,hi,len,val,⟨oa,ea,an⟩,need⟩:=by
  intro e he
  subst he
  rw[←O9]
  unfold kL
  simp only[h1,h2,bP]
  cases an with
  |nil=>cases(wi len 1 (hi-lo+1)&&wi val 0 100000)<;>simp[dV]
  | cons x l =>
   have:decide ((0:Int)<(((x::l).length:Nat):Int))=true:=bM (by rw[eo];omega)
   rw[this]
   cases(wi len 1 (hi-lo+1)&&wi val 0 100000)
   ·simp[dV]
   ·simp only[dV,fH,bP]
    by_cases h3:kR (as.length:Nat) (-1) (x::l)=0
    ·cases h4:wi need 1 ((x::l).length:Nat)<;>simp[h3,h4]
    ·simp[h3]
 have key:∀j ρ m,j≤an.length→(ρ 2=.ptr s.ag.length 0 0∧ρ 3=.ptr s.ag.length 1 0∧
   (∃q:Int×Int,(an.take j).foldl (fun(q:Int×Int) a=>(dV [q.1,cond (wi a 0 ((as.length:Nat)-1)) 0 6,cond (decide (q.2<a)) 0 9],a)) (E0,-1)=q∧ρ 5=I q.1∧ρ 7=I q.2)∧ρ 49=.slice oa ea (an.map aB)∧ρ 50=I an.length∧ρ 51=I j∧
   m=s.push ⟨[[I n,.slice o1 e1 as,.slice o2 e2 rs],[S bJ,I lo,I hi,I len,I val,.slice oa ea (an.map aB),I need]],[]⟩)→go AP agy (.c (.loop I7)::an0) ⟨ρ,m⟩=some (I (kL n as.length ⟨bJ,lo,hi,len,val,⟨oa,ea,an⟩,need⟩),s):=by
  refine cq an.length _ _ ?_ ?_
  ·rintro j ρ m hj ⟨iA,Qo,⟨q,hq,h5,h7⟩,r9,nG,p9,rfl⟩ ih
   obtain⟨x,hx⟩:=get_some hj
   have ej:ea=1:=by rcases fR with h|h;(rw[h]at hx;simp at hx);exact h
   subst ej
   have hr:=cD (f:=aB) (o:=oa) (es:=1) hx
   simp only[go_sem,I7,iA,h5,h7,r9,nG,p9,aS hj,hr,vS,lk,asY,bK hj aP,ch (x:=(as.length:Int)-1) (by omega) (by omega),simprocAttr]
   refine ih _ _ ?_
   refine⟨iA,Qo,⟨(dV [q.1,cond (wi x 0 ((as.length:Nat)-1)) 0 6,cond (decide (q.2<x)) 0 9],x),?_,rfl,rfl⟩,r9,nG,rfl,rfl⟩
   rw[fF hx,HG,hq];rfl
  ·rintro ρ m ⟨iA,Qo,⟨q,hq,h5,h7⟩,r9,nG,p9,rfl⟩
   rw[jb]at hq
   have tV:=TR (n:=(as.length:Nat)) (l:=an) (e:=E0) (last:=-1)
   rw[hq]at tV
   simp only[go_sem,I7,NJ,Qo,h5,nG,p9,bN,vS,lk,mH,simprocAttr]
   rw[mm q.1 tV.symm]
 refine key 0 _ _ (bp _) ?_
 exact⟨rfl,rfl,⟨_,rfl,rfl,rfl⟩,rfl,rfl,rfl,rfl⟩
abbrev MK (p:Int×Int×Int):AV:=.tuple [.agg [I p.1,I p.2.1],I p.2.2]
theorem w6 {α:Type} {f:Nat→α→Int} {l:List α} {k:Nat} {x:α} (h:l[k]? =some x):eJ f k (l.drop k)=if f k x=0 then eJ f (k+1) (l.drop (k+1))else some (k,f k x):=by
 rw[eR h];rfl
theorem abb {w:W} (hs:Ok s) (hw:w.Ok) (hf:w.ju):au AP (.fn 83) [w.v] s=some (MK (de w),s):=by
 obtain⟨n,⟨o1,e1,as⟩,⟨o2,e2,rs⟩⟩:=w
 have h4:decide ((as.length:Int)≤4)=decide (as.length≤4):=by
  by_cases h:as.length≤4
  ·rw[bM h,bM (by omega)]
  ·rw[bX h,bX (by omega)]
 have dv:decide ((rs.length:Int)≤12)=decide (rs.length≤12):=by
  by_cases h:rs.length≤12
  ·rw[bM h,bM (by omega)]
  ·rw[bX h,bX (by omega)]
 rw[aM (show AP 83=some Ew from rfl) rfl]
 simp only[go_sem,Ur,hs,vS,lk,mH,h4,dv,simprocAttr]
 unfold de
 simp only
 cases hn:wi n 1 200
 ·simp[dV]
 rw[iE]at hn
 by_cases xG:as.length≤4∧rs.length≤12
 case neg=>
  have:(decide (as.length≤4)&&decide (rs.length≤12))=false:=by
   cases h:(decide (as.length≤4)&&decide (rs.length≤12))
   ·rfl
   ·exact absurd (by simpa using h) xG
  simp[dV,this,xG]
 have:(decide (as.length≤4)&&decide (rs.length≤12))=true:=by simpa using xG
 simp only[dV,fH,bP,bn,xG,nx]
 have k2:∀j ρ m,j≤rs.length→(ρ 1=.ptr s.ag.length 0 0∧ρ 2=.ptr s.ag.length 1 0∧ρ 49=.slice o2 e2 (rs.map bO)∧ρ 50=I rs.length∧ρ 51=I j∧
   ∃junk,m=s.push ⟨[I n,.slice o1 e1 (as.map cj),.slice o2 e2 (rs.map bO)]::[I 0,I 0]::junk,[]⟩)→go AP WC (.c (.loop IM)::anL) ⟨ρ,m⟩=some (MK (match eJ (fun _ r=>kL n as.length r) j (rs.drop j)with|some (k,e)=>(2,k,e)|none=>(0,0,0)),s):=by
  refine cq rs.length _ _ ?_ ?_
  ·rintro j ρ m hj ⟨h1,h2,r9,nG,p9,junk,rfl⟩ ih
   obtain⟨x,hx⟩:=get_some hj
   have fq:=bU hx
   have ej:e2=7:=by rcases hw.rs.1 with h|h;(simp only at h;rw[h]at hx;simp at hx);exact h
   subst ej
   have hr:=cD (f:=bO) (o:=o2) (es:=7) hx
   have m1:=hf.bJ x fq
   have m2:=hf.an x fq
   have hq:∀r,au AP (.fn 101) [.agg [I n,.slice o1 e1 (as.map cj),.slice o2 7 (rs.map bO)],.agg [S x.bJ,I x.lo,I x.hi,I x.len,I x.val,.slice x.an.o x.an.e (x.an.l.map aB),I x.need]] (s.push r)=some (I (kL n as.length x),s.push r):=fun r=>by
    have:=as5 (s:=s.push r) (n:=n) (as:=as.map cj) (r:=x) (o1:=o1) (e1:=e1) (o2:=o2) (e2:=7) (rs:=rs.map bO) (hs.push _) (hw.an x fq).1 hn.1 hn.2 (by omega) (by rw[bR];exact xG.1) (by omega)
    rw[bR]at this
    exact this
   simp only[go_sem,IM,h1,h2,r9,nG,p9,hs,aS hj,hr,hq,bK hj (show(rs.length:Int)<_ by omega),simprocAttr]
   rw[w6 hx]
   by_cases h0:kL n as.length x=0
   ·simp only[h0,bn,eW,tB,gR,bP]
    refine ih _ _ ?_
    exact⟨h1,h2,r9,nG,rfl,_,rfl⟩
   ·simp only[h0,bn,iC,qN,fH,db]
  ·rintro ρ m ⟨h1,h2,r9,nG,p9,junk,rfl⟩
   simp only[go_sem,IM,Np,h2,nG,p9,hs,bN,simprocAttr]
   rw[eZ];rfl
 have k1:∀j ρ m,j≤as.length→(ρ 1=.ptr s.ag.length 0 0∧ρ 2=.ptr s.ag.length 1 0∧ρ 34=.slice o1 e1 (as.map cj)∧ρ 35=I as.length∧ρ 36=I j∧
   m=s.push ⟨[[I n,.slice o1 e1 (as.map cj),.slice o2 e2 (rs.map bO)],[I 0,I 0]],[]⟩)→go AP WC (.c (.loop IP)::anM) ⟨ρ,m⟩=some (MK (match eJ (ku n as) j (as.drop j)with|some (k,e)=>(1,k,e)|none=>match eJ (fun _ r=>kL n as.length r) 0 rs with|some (k,e)=>(2,k,e)|none=>(0,0,0)),s):=by
  refine cq as.length _ _ ?_ ?_
  ·rintro j ρ m hj ⟨h1,h2,mh,p8,mU,rfl⟩ ih
   obtain⟨x,hx⟩:=get_some hj
   have fq:=bU hx
   have ej:e1=3:=by rcases hw.as.1 with h|h;(simp only at h;rw[h]at hx;simp at hx);exact h
   subst ej
   have m1:=hf.name x fq
   have m2:=hf.cl x fq
   have hq:∀r,au AP (.fn 100) [.agg [I n,.slice o1 3 (as.map cj),.slice o2 e2 (rs.map bO)],I j] (s.push r)=some (I (ku n as j x),s.push r):=fun r=>asV (hs.push _) (hw.cl x fq).1 hn.1 hn.2 hx (by omega) xG.1 (by omega)
   simp only[go_sem,IP,h1,h2,p8,mU,hs,aS hj,hq,bK hj (show(as.length:Int)<_ by omega),simprocAttr]
   rw[w6 hx]
   by_cases h0:ku n as j x=0
   ·simp only[h0,bn,eW,tB,gR,bP]
    refine ih _ _ ?_
    exact⟨h1,h2,mh,p8,rfl,rfl⟩
   ·simp only[h0,bn,iC,qN,fH,db]
  ·rintro ρ m ⟨h1,h2,mh,p8,mU,rfl⟩
   simp only[go_sem,IP,Nq,h1,p8,mU,bN,simprocAttr]
   rw[eZ]
   refine(k2 0 _ _ (bp _) ?_).trans rfl
   exact⟨h1,h2,rfl,rfl,rfl,[],rfl⟩
 refine(k1 0 _ _ (bp _) ?_).trans rfl
 exact⟨rfl,rfl,rfl,rfl,rfl,rfl⟩
end
def gr (f:Nat→Bool):List AV:=(List.range 800).map fun j=>B (f j)
theorem tH {f:Nat→Bool}:(gr f).length=800:=by simp[gr]
theorem J2 {f:Nat→Bool} {j:Nat} (h:j<800):(gr f)[j]? =some (B (f j)):=by simp[gr,h]
theorem ab9:Hz 800=gr fun _=>false:=by
 refine pO fun i=>?_
 unfold Hz
 by_cases h:i<800
 ·rw[J2 h,Tf,ak h]
 ·rw[Tf,aq h,n8 (by rw[tH];omega)]
theorem aia {f:Nat→Bool} {j:Nat} {b:Bool} (h:j<800):(gr f).set j (B b)=gr fun i=>if i=j then b else f i:=by
 refine pO fun i=>?_
 by_cases hi:i<800
 ·rw[J2 hi,s9]
  by_cases e:j=i
  ·subst e;rw[ak rfl,ak (by rw[tH];exact h)];simp
  ·rw[aq e,J2 hi,aq (fun q=>e q.symm)]
 ·rw[n8 (by rw[Ao,tH];omega),n8 (by rw[tH];omega)]
theorem Xk {f:Nat→Bool}:(gr f).all AV.bA=true:=by
 rw[j6]
 intro c hc
 obtain⟨j,_,rfl⟩:=cz.1 hc
 rfl
def wk (n:Int) (a r:AV) (f:Nat→Bool):List AV:=I n::a::r::gr f
theorem aqU {n:Int} {a r:AV} {f:Nat→Bool} {j:Nat} {b:Bool} (h:j<800):mD (wk n a r f) (3+j) [B b]=some (wk n a r fun i=>if i=j then b else f i):=by
 rw[vP,ak (by simp[wk,tH];omega)]
 have:3+j=j+1+1+1:=by omega
 rw[this]
 simp only[wk,setCells,Tm,aia h]
theorem auk {n:Int} {a r:AV} {f:Nat→Bool}:(wk n a r f)[1]? =some a:=rfl
theorem xZ {n:Int} {a r:AV} {f:Nat→Bool}:(wk n a r f)[2]? =some r:=rfl
theorem aul {n:Int} {a r:AV} {f:Nat→Bool} {j:Nat} (h:j<800):(wk n a r f)[3+j]? =some (B (f j)):=by
 have:3+j=j+1+1+1:=by omega
 rw[this]
 simp only[wk,Ma,J2 h]
theorem afe {n:Int} {a r:AV} {f:Nat→Bool} (ha:a.close=some a) (hr:r.close=some r):closeAll (wk n a r f)=some (wk n a r f):=by
 have:closeAll (gr f)=some (gr f):=by
  unfold gr
  generalize List.range 800=l
  induction l with
  |nil=>rfl
  |cons x l ih=>simp only[iH,mf,ih];rfl
 simp only[wk,mf,this,ha,hr]
 rfl
theorem VD:∀(m:Nat) (l:List AV),m≤l.length→chunks 1 m l=(l.take m).map fun c=>[c]
 |0,l,_=>by simp[chunks]
 |m+1,[],h=>by simp at h
 |m+1,x::l,h=>by
  simp only[chunks,S8,ko,Mh,Mi,iH]
  rw[VD m l (by simpa using h)]
def ui (f:Nat→Bool) (j m:Nat):List Bool:=(List.range m).map fun q=>f (j+q)
theorem as8 {f:Nat→Bool} {j m:Nat}:((ui f j m).any fun a=>(true==a))=(List.range m).any fun q=>f (j+q):=by
 simp[ui,CN,S0]
theorem ae0 {n:Int} {a r:AV} {f:Nat→Bool} {j m:Nat} (h:j+m≤800):chunks 1 m ((wk n a r f).drop (3+j))=(ui f j m).map fun b=>[B b]:=by
 rw[VD _ _ (by rw[tc];simp[wk,tH];omega)]
 refine pO fun i=>?_
 simp only[ui,gX,wb]
 by_cases hi:i<m
 ·have e:(wk n a r f)[3+j+i]? =some (B (f (j+i))):=by rw[wc];exact aul (by omega)
  simp[yc,hi,List.getElem?_drop,e]
 ·simp[yc,hi]
def isClosed (a:A) (t:Int):Bool:=a.cl.l.any fun p=>wi t p.1 p.2
def Bj (as:List A) (j:Nat):Bool:=match as[j/200]? with
 |some a=>isClosed a ((j%200:Nat):Int)
 |none=>false
structure Mx (n:Int) (m:Nat) (r:R):Prop where
 sN:0≤r.lo
 Cg:r.lo≤r.hi
 bh:r.hi≤n-1
 rA:1≤r.len
 qn:r.len≤r.hi-r.lo+1
 LU:0≤r.val
 LV:r.val≤100000
 an:r.an.l≠[]
 tq:∀a∈r.an.l,0≤a∧a<m
 Ia:r.an.l.Pairwise (· <·)
 K7:1≤r.need
 K8:r.need≤r.an.l.length
 name:isName r.bJ=true
structure SW (n:Int) (a:A):Prop where
 name:isName a.name=true
 ata:0≤a.js
 atb:a.js≤50
 VJ:a.cl.l.length≤6
 cl:∀p∈a.cl.l,0≤p.1∧p.1≤p.2∧p.2≤n-1
structure TE (w:W):Prop where
 n1:1≤w.j5
 n2:w.j5≤200
 al:w.as.l.length≤4
 rl:w.rs.l.length≤12
 a:∀a∈w.as.l,SW w.j5 a
 r:∀r∈w.rs.l,Mx w.j5 w.as.l.length r
theorem Sv {n lo hi:Int} (h:ki n lo hi=0):0≤lo∧lo≤hi∧hi≤n-1:=by
 unfold ki at h
 by_cases h1:(wi lo 0 (n-1)&&wi hi 0 (n-1))=true
 ·rw[ak h1]at h
  simp only[dB,iE]at h1
  by_cases h2:lo≤hi
  ·omega
  ·rw[aq h2]at h;omega
 ·rw[aq h1]at h;omega
theorem VK {n:Int}:∀{l:List (Int×Int)},rZ n l=0→∀p∈l,0≤p.1∧p.1≤p.2∧p.2≤n-1
 |[],_=>by simp
 | p :: r, h => by
  simp only[rZ]at h
  by_cases h1:ki n p.1 p.2=0
  ·rw[ak h1]at h
   intro q hq
   rcases er.1 hq with rfl|hq
   ·exact Sv h1
   ·exact VK h q hq
  ·rw[aq h1]at h;exact absurd h h1
theorem TQ {n:Int}:∀{l:List Int} {last:Int},kR n last l=0→(∀a∈l,0≤a∧a<n)∧l.Pairwise (· <·)∧∀a∈l,last<a
 |[],_,_=>by simp
 | a :: r, last, h => by
  simp only[kR]at h
  by_cases h1:wi a 0 (n-1)=true
  ·rw[ak h1]at h
   by_cases h2:last<a
   ·rw[ak h2]at h
    obtain⟨i1,i2,i3⟩:=TQ h
    rw[iE]at h1
    refine⟨fun b hb=>?_,tf.2 ⟨i3,i2⟩,fun b hb=>?_⟩
    ·rcases er.1 hb with rfl|hb
     ·omega
     ·exact i1 b hb
    ·rcases er.1 hb with rfl|hb
     ·exact h2
     ·have:=i3 b hb;omega
   ·rw[aq h2]at h;omega
  ·rw[aq h1]at h;omega
theorem acT {n:Int} {as:List A} {k:Nat} {a:A} (h:ku n as k a=0):SW n a:=by
 unfold ku at h
 by_cases h1:isName a.name=true
 ·rw [ak h1] at h
  by_cases h2:((as.take k).any fun b=>decide (b.name=a.name))=true
  ·rw[ak h2]at h;omega
  ·rw[aq h2]at h
   by_cases h3:wi a.js 0 50=true
   ·rw[ak h3]at h
    by_cases h4:a.cl.l.length≤6
    ·rw[ak h4]at h
     rw[iE]at h3
     exact⟨h1,h3.1,h3.2,h4,VK h⟩
    ·rw[aq h4]at h;omega
   ·rw[aq h3]at h;omega
 ·rw[aq h1]at h;omega
theorem asq {n:Int} {m:Nat} {r:R} (h:kL n m r=0):Mx n m r:=by
 unfold kL at h
 by_cases h1:isName r.bJ=true
 ·rw [ak h1] at h
  by_cases h2:ki n r.lo r.hi=0
  ·rw [ak h2] at h
   by_cases h3:(wi r.len 1 (r.hi-r.lo+1)&&wi r.val 0 100000)=true
   ·rw [ak h3] at h
    by_cases h4:r.an.l=[]
    ·rw[ak h4]at h;omega
    ·rw[aq h4]at h
     by_cases h5:kR m (-1) r.an.l=0
     ·rw[ak h5]at h
      by_cases h6:wi r.need 1 r.an.l.length=true
      ·simp only[dB,iE]at h3
       rw[iE]at h6
       have e2:=Sv h2
       have e5:=TQ h5
       exact⟨e2.1,e2.2.1,e2.2.2,h3.1.1,h3.1.2,h3.2.1,h3.2.2,h4,e5.1,e5.2.1,h6.1,h6.2,h1⟩
      ·rw[aq h6]at h;omega
     ·rw[aq h5]at h;exact absurd h h5
   ·rw[aq h3]at h;omega
  ·rw[aq h2]at h;exact absurd h h2
 ·rw[aq h1]at h;omega
theorem ON {α:Type} {f:Nat→α→Int}:∀{l:List α} {k:Nat},eJ f k l=none→∀x∈l,∃j,f j x=0
 |[],_,_=>by simp
 | x :: r, k, h => by
  simp only[eJ]at h
  by_cases h1:f k x=0
  ·rw[ak h1]at h
   intro y hy
   rcases er.1 hy with rfl|hy
   ·exact⟨k,h1⟩
   ·exact ON h y hy
  ·rw[aq h1]at h;cases h
theorem Bv {α:Type} {f:Nat→α→Int}:∀{l:List α} {k j:Nat} {e:Int},eJ f k l=some (j,e)→e≠0
 |[],_,_,_,h=>by cases h
 | x :: r, k, j, e, h => by
  simp only[eJ]at h
  by_cases h1:f k x=0
  ·rw[ak h1]at h;exact Bv h
  ·rw[aq h1]at h
   injection h with h
   injection h with _ h
   rw[←h];exact h1
theorem pL {w:W} (h:(de w).2.2=0):TE w:=by
 unfold de at h
 by_cases h1:wi w.j5 1 200=true
 ·rw [ak h1] at h
  by_cases h2:w.as.l.length≤4∧w.rs.l.length≤12
  ·rw[ak h2]at h
   cases h3:eJ (ku w.j5 w.as.l) 0 w.as.l with
   |some q=>obtain⟨k,e⟩:=q;rw[h3]at h;exact absurd h (Bv h3)
   | none =>
    rw[h3]at h
    simp only at h
    cases h4:eJ (fun _ r=>kL w.j5 w.as.l.length r) 0 w.rs.l with
    |some q=>obtain⟨k,e⟩:=q;rw[h4]at h;exact absurd h (Bv h4)
    |none=>
     rw[iE]at h1
     exact⟨h1.1,h1.2,h2.1,h2.2,fun a ha=>(ON h3 a ha).elim fun _ e=>acT e,fun r hr=>(ON h4 r hr).elim fun _ e=>asq e⟩
  ·rw[aq h2]at h;simp at h
 ·rw[aq h1]at h;simp at h
section
variable{s:ae}
abbrev NP:AV:=.v (.pointer none)
theorem ak2 {k:IntKind} {n:Int} {len:Nat} (h1:0≤n) (h2:n<len):idx (.v (.int k n)) len=some n.toNat:=by
 rw[idx_eq,ak ⟨h1,h2⟩]
theorem KO {k:IntKind} {n len:Nat} (h2:n<len):idx (.v (.int k (n:Int))) len=some n:=by
 rw[ak2 (by omega) (by omega)];rfl
theorem abf {w:W} (hs:Ok s) (hw:w.Ok) (hf:w.ju) (he:(de w).2.2≠0):au AP (.fn 51) [w.v] s=some (.tuple [NP,I (de w).2.2],s):=by
 have hc:∀r,au AP (.fn 83) [w.v] (s.push r)=some (MK (de w),s.push r):=fun r=>abb (hs.push _) hw hf
 generalize de w=q at*
 rw[aM (show AP 51=some Bb from rfl) rfl]
 simp only[go_sem,ND,hs,hc,he,bn,iC,simprocAttr]
def wU (as:List A) (a t:Nat):Bool:=match as[a]? with
 |some x=>isClosed x (t:Int)
 |none=>false
theorem VM {as:List A} {j:Nat}:Bj as j=wU as (j/200) (j%200):=rfl
def OW (w:W):AV:=.bg (wk w.j5 (w.as.v cj) (w.rs.v bO) (Bj w.as.l)) 0
theorem ah9 {f g:Nat→Bool} (h:∀a t,t<200→f (200*a+t)=g (200*a+t)):f=g:=by
 funext j
 have:=h (j/200) (j%200) (uK _ (by decide))
 have e:200*(j/200)+j%200=j:=Nat.div_add_mod j 200
 rwa [e]at this
theorem abe {w : W} (hs : Ok s) (hw : w.Ok) (hf : w.ju) (he : (de w).2.2 = 0) : au AP (.fn 51) [w.v] s = some (.tuple [OW w, I 0], s) := by
 have bH:=pL he
 have hc:∀r,au AP (.fn 83) [w.v] (s.push r)=some (MK (de w),s.push r):=fun r=>abb (hs.push _) hw hf
 generalize de w=q at*
 obtain⟨n,⟨o1,e1,as⟩,⟨o2,e2,rs⟩⟩:=w
 have c9:(AV.slice o1 e1 (as.map cj)).close=some (AV.slice o1 e1 (as.map cj)):=Sl.close (f:=cj) hw.as
 have jA:(AV.slice o2 e2 (rs.map bO)).close=some (AV.slice o2 e2 (rs.map bO)):=Sl.close (f:=bO) hw.rs
 have pf:as.length≤4:=bH.al
 have Gn:1≤n:=bH.n1
 have iQ:n≤200:=bH.n2
 have sM : ∀ (i : Nat) ρ m, i ≤ as.length → (ρ 6 = .ptr s.ag.length 2 0 ∧ ρ 24 = .slice o1 e1 (as.map cj) ∧ ρ 25 = I as.length ∧ ρ 26 = I i ∧
   ∃f b0 b1 junk,m=s.push ⟨b0::b1::wk n (.slice o1 e1 (as.map cj)) (.slice o2 e2 (rs.map bO)) f::junk,[]⟩∧∀a t,t<200→f (200*a+t)=(decide (a<i)&&wU as a t))→
   go AP OE (.c (.loop AW)::anX) ⟨ρ,m⟩=some (.tuple [OW ⟨n,⟨o1,e1,as⟩,⟨o2,e2,rs⟩⟩,I 0],s):=by
  refine cq as.length _ _ ?_ ?_
  ·rintro i ρ m hi ⟨h6, nE, mT, nF, f, b0, b1, junk, rfl, hF⟩ ih
   obtain⟨x,hx⟩:=get_some hi
   have fq:=bU hx
   have ej:e1=3:=by rcases hw.as.1 with h|h;(simp only at h;rw[h]at hx;simp at hx);exact h
   subst ej
   have hr:=cD (f:=cj) (o:=o1) (es:=3) hx
   have xL:=bH.a x fq
   have XQ:∀t,wU as i t=x.cl.l.any fun p=>wi t p.1 p.2:=fun t=>by simp only[wU,hx];rfl
   obtain⟨name,js,⟨oc,ec,cl⟩⟩:=x
   have lG:=(hw.cl _ fq).1
   simp only at lG XQ
   have avU:cl.length≤6:=xL.VJ
   have Q7 : ∀ (j : Nat) ρ m, j ≤ cl.length → (ρ 6 = .ptr s.ag.length 2 0 ∧ ρ 7 = I i ∧ ρ 24 = .slice o1 3 (as.map cj) ∧ ρ 25 = I as.length ∧ ρ 26 = I i ∧ ρ 32 = .slice oc ec (cl.map gW) ∧ ρ 33 = I cl.length ∧ ρ 34 = I j ∧
     ∃f b0 b1 junk,m=s.push ⟨b0::b1::wk n (.slice o1 3 (as.map cj)) (.slice o2 e2 (rs.map bO)) f::junk,[]⟩∧∀a t,t<200→f (200*a+t)=if a=i then(cl.take j).any (fun p=>wi t p.1 p.2)else(decide (a<i)&&wU as a t))→
     go AP OE (.c (.loop DI)::anY) ⟨ρ,m⟩=some (.tuple [OW ⟨n,⟨o1,3,as⟩,⟨o2,e2,rs⟩⟩,I 0],s):=by
    refine cq cl.length _ _ ?_ ?_
    ·rintro j ρ m hj ⟨h6,h7,nE,mT,nF,y5,pc,mh,f,b0,b1,junk,rfl,hF⟩ fS
     obtain⟨p,hp⟩:=get_some hj
     have lN:=bU hp
     have ej:ec=2:=by rcases lG with h|h;(rw[h]at hp;simp at hp);exact h
     subst ej
     have hr:=cD (f:=gW) (o:=oc) (es:=2) hp
     obtain⟨lo,bG⟩:=p
     have dP:=xL.cl _ lN
     simp only at dP
     have qm : ∀ (u : Int) ρ m, (ρ 6 = .ptr s.ag.length 2 0 ∧ ρ 7 = I i ∧ ρ 10 = .ptr s.ag.length (junk.length + 1 + 1 + 1) 0 ∧ ρ 11 = I u ∧ ρ 24 = .slice o1 3 (as.map cj) ∧ ρ 25 = I as.length ∧ ρ 26 = I i ∧ ρ 32 = .slice oc 2 (cl.map gW) ∧ ρ 33 = I cl.length ∧ ρ 34 = I j ∧ lo ≤ u ∧ u ≤ bG + 1 ∧
       ∃f b0 b1,m=s.push ⟨b0::b1::wk n (.slice o1 3 (as.map cj)) (.slice o2 e2 (rs.map bO)) f::(junk++[[I lo,I bG]]),[]⟩∧∀a t,t<200→f (200*a+t)=if a=i then((cl.take j).any (fun p=>wi t p.1 p.2)||(decide (lo≤(t:Int))&&decide ((t:Int)<u)))else(decide (a<i)&&wU as a t))→
       go AP OE (.c (.loop I5)::anZ) ⟨ρ,m⟩=some (.tuple [OW ⟨n,⟨o1,3,as⟩,⟨o2,e2,rs⟩⟩,I 0],s):=by
      refine Rg bG _ _ ?_ ?_
      ·rintro u ρ m hu ⟨h6,h7,du,fD,nE,mT,nF,y5,pc,mh,eT,iO,f,b0,b1,rfl,hF⟩ KQ
       obtain⟨v,rfl⟩:∃v:Nat,u=v:=⟨u.toNat,by omega⟩
       have hd:decide ((v:Int)≤bG)=true:=bM hu
       have tP:idx (.v (.int .i64 (i:Int))) 4=some i:=KO (by omega)
       have su:idx (.v (.int .i64 (v:Int))) 200=some v:=KO (by omega)
       have ho:mD (wk n (.slice o1 3 (as.map cj)) (.slice o2 e2 (rs.map bO)) f) (0+3+i*200+v*1) [B true]=some (wk n (.slice o1 3 (as.map cj)) (.slice o2 e2 (rs.map bO)) fun q=>if q=i*200+v then true else f q):=by
        rw[show 0+3+i*200+v*1=3+(i*200+v)by omega];exact aqU (by omega)
       simp only[go_sem,I5,h6,h7,du,fD,hs,hd,tP,su,ho,ch (x:=(v:Int)+1) (by omega) (by omega),simprocAttr]
       refine KQ _ _ ?_
       refine⟨h6,h7,du,rfl,nE,mT,nF,y5,pc,mh,by omega,by omega,_,b0,b1,rfl,fun a t ht=>?_⟩
       show(if 200*a+t=i*200+v then true else f (200*a+t))=_
       rw[hF a t ht]
       by_cases ha:a=i
       ·subst ha
        rw[ak rfl,ak rfl]
        by_cases htv:t=v
        ·subst htv
         have e1:decide ((t:Int)<(t:Int)+1)=true:=bM (by omega)
         have e2:200*a+t=a*200+t:=by omega
         rw[ak e2,bM eT,e1];simp
        ·have e2:¬200*a+t=a*200+v:=by omega
         have e3:decide ((t:Int)<(v:Int)+1)=decide ((t:Int)<v):=by
          by_cases h:(t:Int)<v
          ·rw[bM h,bM (by omega)]
          ·rw[bX h,bX (by omega)]
         rw[aq e2,e3]
       ·have e2:¬200*a+t=i*200+v:=by omega
        rw[aq ha,aq ha,aq e2]
      ·rintro u ρ m hu ⟨h6,h7,du,fD,nE,mT,nF,y5,pc,mh,eT,iO,f,b0,b1,rfl,hF⟩
       have hd:decide (u≤bG)=false:=bX (by omega)
       simp only[go_sem,I5,NH,du,fD,mh,hd,bK hj (show(cl.length:Int)<_ by omega),simprocAttr]
       refine fS _ _ ?_
       refine⟨h6,h7,nE,mT,nF,y5,pc,rfl,f,b0,b1,_,rfl,fun a t ht=>?_⟩
       rw[hF a t ht,fF hp,s7]
       have:u=bG+1:=by omega
       subst this
       have e:decide ((t:Int)<bG+1)=decide ((t:Int)≤bG):=by
        by_cases h:(t:Int)≤bG
        ·rw[bM h,bM (by omega)]
        ·rw[bX h,bX (by omega)]
       simp[wi,e]
     simp only[go_sem,DI,y5,pc,mh,hs,aS hj,hr,simprocAttr]
     refine qm lo _ _ ?_
     refine⟨h6,h7,rfl,rfl,nE,mT,nF,y5,pc,mh,by omega,by omega,f,b0,b1,rfl,fun a t ht=>?_⟩
     rw[hF a t ht]
     have:(decide (lo≤(t:Int))&&decide ((t:Int)<lo))=false:=by
      by_cases h:lo≤(t:Int)
      ·rw[bX (show¬(t:Int)<lo by omega),nq]
      ·rw[bX h];rfl
     rw[this,Ag]
    ·rintro ρ m ⟨h6,h7,nE,mT,nF,y5,pc,mh,f,b0,b1,junk,rfl,hF⟩
     simp only[go_sem,DI,I6,nF,pc,mh,bN,bK hi (show(as.length:Int)<_ by omega),simprocAttr]
     refine ih _ _ ?_
     refine⟨h6,nE,mT,rfl,f,b0,b1,_,rfl,fun a t ht=>?_⟩
     rw[hF a t ht,jb]
     by_cases ha:a=i
     ·subst ha;rw[ak rfl,bM (by omega),ia,XQ]
     ·rw[aq ha]
      congr 1
      by_cases h:a<i
      ·rw[bM h,bM (by omega)]
      ·rw[bX h,bX (by omega)]
   simp only[go_sem,AW,nE,mT,nF,hs,aS hi,hr,simprocAttr]
   refine Q7 0 _ _ (bp _) ?_
   refine⟨h6,rfl,nE,mT,nF,rfl,rfl,rfl,f,b0,b1,_,rfl,fun a t ht=>?_⟩
   rw[hF a t ht]
   by_cases ha:a=i
   ·subst ha;rw[ak rfl,bX (by omega)];simp
   ·rw[aq ha]
  ·rintro ρ m ⟨h6,nE,mT,nF,f,b0,b1,junk,rfl,hF⟩
   simp only[go_sem,AW,DJ,h6,mT,nF,bN,afe c9 jA,simprocAttr]
   have:f=Bj as:=ah9 fun a t ht=>by
    rw[hF a t ht,VM,show(200*a+t)/200=a by omega,show(200*a+t)%200=t by omega]
    by_cases h:a<as.length
    ·rw[bM h,ia]
    ·rw[bX h,kn,wU,n8 (by omega)]
   rw[this];rfl
 rw[aM (show AP 51=some Bb from rfl) rfl]
 have hz:mD (I 0::.slice .aA 0 []::.slice .aA 0 []::Hz 800) 0 [I n,.slice o1 e1 (as.map cj),.slice o2 e2 (rs.map bO)]=some (wk n (.slice o1 e1 (as.map cj)) (.slice o2 e2 (rs.map bO)) fun _=>false):=by
  rw[ab9,vP,ak (by simp[tH])];rfl
 have kW:kT 803 (wk n (.slice o1 e1 (as.map cj)) (.slice o2 e2 (rs.map bO)) fun _=>false)=true:=by
  rw[qQ];refine⟨by simp[wk,tH],?_⟩
  simp[wk,AV.bA,Xk]
 have av0:kT 803 (I 0::.slice .aA 0 []::.slice .aA 0 []::Hz 800)=true:=by
  rw[qQ,ab9];refine⟨by simp[tH],?_⟩
  simp[AV.bA,Xk]
 simp only[go_sem,ND,hs,hc,he,bn,eW,hz,kW,simprocAttr]
 refine sM 0 _ _ (bp _) ?_
 exact⟨rfl,rfl,rfl,rfl,_,_,_,[],rfl,fun a t _=>by simp⟩
end
instance : Inhabited R:=⟨⟨ByteArray.empty,0,0,0,0,⟨.aA,0,[]⟩,0⟩⟩
def W.rq (w:W) (i:Int):R:=(w.rs.l[i.toNat]?).getD default
def W.pK (w:W) (a:Int):Int:=((w.as.l[a.toNat]?).map (·.js)).getD 0
theorem W.Lw {w:W} {i:Int} (h0:0≤i) (h:i<w.rs.l.length):w.rs.l[i.toNat]? =some (w.rq i):=by
 obtain⟨x,hx⟩:=get_some (l:=w.rs.l) (k:=i.toNat) (by omega)
 rw[W.rq,hx];rfl
theorem W.qB {w:W} {i:Int} (h0:0≤i) (h:i<w.rs.l.length):w.rq i∈w.rs.l:=bU (W.Lw h0 h)
structure bZ (w:W) (p:P):Prop where
 r0:0≤p.req
 r1:p.req<w.rs.l.length
 s0:0≤p.start
 s1:p.start≤200
 an:∀a∈p.an.l,0≤a∧a<w.as.l.length
 ok:p.an.ok 1
 len:(p.an.l.length:Int)<9223372036854775808
structure Wk (w:W):Prop where
 ok:w.Ok
 tD:w.ju
 v:TE w
def lD (w:W) (p:P):Int:=p.start+(w.rq p.req).len
def qL (w:W) (a b:P):Bool:=a.an.l.any fun n=>(b.an.l.any fun m=>decide (n=m))&&decide (b.start-lD w a<(if(w.rq a.req).bJ=(w.rq b.req).bJ then 0 else w.pK n))
def cS (w:W) (a b:P):Bool:=if a.req=b.req then true else if b.start<a.start then qL w b a else qL w a b
def dc (w:W) (a st len:Int):Bool:=match w.as.l[a.toNat]? with
 |some x=>!(List.range len.toNat).any fun q=>isClosed x (st+q)
 |none=>true
section
variable{s:ae} {w:W}
theorem atu {n:Int} {a r:AV} {f:Nat→Bool} {i st len:Nat} (hi:i<4) (h:st+len≤200):gD (.arr 200 1) (.bg (wk n a r f) (3+i*200)) (some (I (st:Int))) (some (I ((st+len:Nat):Int))) none=some (.slice .any 1 ((ui f (i*200+st) len).map fun b=>[B b])):=by
 have h1:jS (some (I ((st+len:Nat):Int))) false 200 200=some (st+len):=by simp[jS,asNat];omega
 have h2:jG (some (I (st:Int))) (st+len)=some st:=by simp[jG,asNat];omega
 have h3:3+i*200+200*1≤(wk n a r f).length:=by simp[wk,tH];omega
 have h4:chunks 1 (st+len-st) ((wk n a r f).drop (3+i*200+st*1))=(ui f (i*200+st) len).map fun b=>[B b]:=by
  rw[show st+len-st=len by omega,show 3+i*200+st*1=3+(i*200+st)by omega]
  exact ae0 (by omega)
 simp only[gD,h1,h2,pR,ez,db,et,h3,bP,h4]
theorem as9 {f:Nat→Bool} {j m:Nat}:(ui f j m).length=m:=by simp[ui]
theorem ac1 {m:Nat} {f g:Nat→Bool} (h:∀q,q<m→f q=g q):(List.range m).any f=(List.range m).any g:=by
 rw[uz]
 simp only[eA,oh]
 constructor<;>rintro⟨q,h1,h2⟩<;>exact⟨q,h1,by simpa[h q h1]using h2⟩
theorem ab0 {a st len:Int} (hw:Wk w) (h0:0≤a) (h1:a<w.as.l.length) (h2:0≤st) (h3:0≤len) (h4:st+len≤200):
  au AP (.fn 89) [OW w,I a,I st,I len] s=some (B (dc w a st len),s):=by
 have pf:=hw.v.al
 obtain⟨i,rfl⟩:∃i:Nat,a=i:=⟨a.toNat,by omega⟩
 obtain⟨t,rfl⟩:∃i:Nat,st=i:=⟨st.toNat,by omega⟩
 obtain⟨m,rfl⟩:∃i:Nat,len=i:=⟨len.toNat,by omega⟩
 have tP:idx (.v (.int .i64 (i:Int))) 4=some i:=KO (by omega)
 have pt:=atu (n:=w.j5) (a:=w.as.v cj) (r:=w.rs.v bO) (f:=Bj w.as.l) (i:=i) (st:=t) (len:=m) (by omega) (by omega)
 have xI:IntKind.i64.wrap ((t:Int)+(m:Int))=((t+m:Nat):Int):=by rw[ch]<;>omega
 have oB:∀r,au AP (.fn 105) [.slice .any 1 ((ui (Bj w.as.l) (i*200+t) m).map fun b=>[B b]),B true] (s.push r)=some (B ((ui (Bj w.as.l) (i*200+t) m).any fun a=>(true==a)),s.push r):=fun r=>auC (.inr rfl) (by rw[as9];omega)
 rw[aM (show AP 89=some EZ from rfl) rfl]
 simp only[OW]
 simp only[Sl.v]at pt oB
 simp only[go_sem,UP,tP,pt,xI,oB,simprocAttr]
 rw[as8]
 congr 4
 unfold dc
 obtain⟨x,hx⟩:=get_some (l:=w.as.l) (k:=i) (by omega)
 simp only[CL,hx]
 congr 1
 refine ac1 fun q hq=>?_
 rw[VM,show(i*200+t+q)/200=i by omega,show(i*200+t+q)%200=t+q by omega]
 simp only[wU,hx]
 rfl
theorem rz (hw:Wk w) {i:Int} (h0:0≤i) (h1:i<w.rs.l.length):kH none 7 (.slice w.rs.o w.rs.e (w.rs.l.map bO)) (I i)=some (.bg (bO (w.rq i)) 0):=by
 have:=Sl.ix (f:=bO) hw.ok.rs (W.Lw h0 h1)
 rwa [show((i.toNat:Nat):Int)=i by omega]at this
theorem KV (hw:Wk w) {i:Int} (h0:0≤i) (h1:i<w.as.l.length):∃a,w.as.l[i.toNat]? =some a∧w.pK i=a.js∧kH none 3 (.slice w.as.o w.as.e (w.as.l.map cj)) (I i)=some (.bg (cj a) 0):=by
 obtain⟨x,hx⟩:=get_some (l:=w.as.l) (k:=i.toNat) (by omega)
 have:=Sl.ix (f:=cj) hw.ok.as hx
 refine⟨x,hx,by rw[W.pK,hx];rfl,?_⟩
 rwa [show((i.toNat:Nat):Int)=i by omega]at this
theorem Wk.rq (hw:Wk w) {i:Int} (h0:0≤i) (h1:i<w.rs.l.length):Mx w.j5 w.as.l.length (w.rq i):=hw.v.r _ (W.qB h0 h1)
theorem Wk.pK (hw:Wk w) {i:Int} (h0:0≤i) (h1:i<w.as.l.length):0≤w.pK i∧w.pK i≤50:=by
 obtain⟨x,hx,he,_⟩:=KV hw h0 h1
 have:=hw.v.a x (bU hx)
 rw[he];exact⟨this.ata,this.atb⟩
theorem Wk.len (hw:Wk w) {i:Int} (h0:0≤i) (h1:i<w.rs.l.length):1≤(w.rq i).len∧(w.rq i).len≤200:=by
 have h:=hw.rq h0 h1
 have:=hw.v.n2
 exact⟨h.rA,by have:=h.qn;have:=h.sN;have:=h.bh;omega⟩
theorem aub {p:P} (hs:Ok s) (hw:Wk w) (h0:0≤p.req) (h1:p.req<w.rs.l.length) (h2:0≤p.start) (h3:p.start≤200):au AP (.fn 109) [OW w,.agg (aj p)] s=some (I (lD w p),s):=by
 have hl:=hw.len h0 h1
 rw[aM (show AP 109=some EY from rfl) rfl]
 simp only[OW]
 simp only[go_sem,UO,xZ,rz hw h0 h1,ch (x:=p.start+(w.rq p.req).len) (by omega) (by omega),simprocAttr]
 rfl
theorem at7 {a b:P} {n:Int} {d1 d2 d3 d4 b1 b2 b3 b4:Nat} {c:Bool} (hs:Ok s) (hw:Wk w) (ha:bZ w a) (hb:bZ w b) (fJ:0≤n) (Gn:n<w.as.l.length)
  (e1:s.box d1 b1=some [OW w]) (e2:s.box d2 b2=some [B c]) (e3:s.box d3 b3=some (aj b)) (e4:s.box d4 b4=some (aj a)):
  au AP (.fn 108) [I n,.ptr d1 b1 0,.ptr d2 b2 0,.ptr d3 b3 0,.ptr d4 b4 0] s=some (B ((b.an.l.any fun m=>decide (n=m))&&decide (b.start-lD w a<(if c=true then 0 else w.pK n))),s):=by
 obtain⟨x,hx,cp,cC⟩:=KV hw fJ Gn
 have hl:=hw.len ha.r0 ha.r1
 have h3:=hb.s0
 have h4:=hb.s1
 have h5:=ha.s0
 have h6:=ha.s1
 have hc:∀r,au AP (.fn 57) [.slice b.an.o b.an.e (b.an.l.map fun a=>[I a]),I n] (s.push r)=some (B (b.an.l.any fun m=>decide (n=m)),s.push r):=fun r=>LX hb.ok.1 hb.len
 have he:∀r,au AP (.fn 109) [OW w,.agg (aj a)] (dt (s.push r))=some (I (lD w a),dt (s.push r)):=fun r=>aub zW hw ha.r0 ha.r1 ha.s0 ha.s1
 have BP:0≤lD w a∧lD w a≤400:=by unfold lD;omega
 rw[aM (show AP 108=some EV from rfl) rfl]
 simp only[OW]at e1 he⊢
 simp only[go_sem,UL,fO e1,fO e2,fO e3,fO e4,auk,cC,hc,simprocAttr]
 simp only[aj,Sl.v]at he
 cases c<;>simp only[go_sem,he,ch (x:=b.start-lD w a) (by omega) (by omega),cp,ez,simprocAttr]
theorem abZ {a b:P} (hs:Ok s) (hw:Wk w) (ha:bZ w a) (hb:bZ w b):au AP (.fn 93) [OW w,.agg (aj a),.agg (aj b)] s=some (B (cS w a b),s):=by
 have key:∀(a b:P) (junk:List (List AV)),bZ w a→bZ w b→au AP (.fn 107) [.slice a.an.o a.an.e (a.an.l.map aB),.fn 108 [] [.ptr s.ag.length 0 0,.ptr s.ag.length 3 0,.ptr s.ag.length 2 0,.ptr s.ag.length 1 0]] (s.push ⟨[OW w]::aj a::aj b::[B (decide ((w.rq a.req).bJ=(w.rq b.req).bJ))]::junk,[]⟩)=some (B (qL w a b),s.push ⟨[OW w]::aj a::aj b::[B (decide ((w.rq a.req).bJ=(w.rq b.req).bJ))]::junk,[]⟩):=by
  intro a b junk ha hb
  refine auB ha.ok.1 ha.len fun n hn r q=>?_
  have jl:=ha.an n hn
  have bx:∀{k:Nat} {cs:List AV},([OW w]::aj a::aj b::[B (decide ((w.rq a.req).bJ=(w.rq b.req).bJ))]::junk)[k]? =some cs→(((s.push ⟨[OW w]::aj a::aj b::[B (decide ((w.rq a.req).bJ=(w.rq b.req).bJ))]::junk,[]⟩).push r).push q).box s.ag.length k=some cs:=fun h=>fO (fO (by rw[iK];exact h) _) _
  rw[at7 (((hs.push _).push _).push _) hw ha hb jl.1 jl.2 (bx rfl) (bx rfl) (bx rfl) (bx rfl)]
  simp only[dU]
 rw[aM (show AP 93=some EU from rfl) rfl]
 simp only[OW]at key⊢
 have ra:=rz hw ha.r0 ha.r1
 have rb:=rz hw hb.r0 hb.r1
 simp only[go_sem,UK,hs,xZ,ra,rb,simprocAttr]
 unfold cS
 by_cases h1:a.req=b.req
 ·simp only[h1,qN,fH,bP]
 ·simp only[h1,tB,gR,db]
  by_cases h2:b.start<a.start
  ·have k:=key b a [] hb ha
   simp only[aj,Sl.v]at k
   simp only[h2,qN,fH,bP]
   simp only[go_sem,k,simprocAttr]
  ·have k:=key a b [] ha hb
   simp only[aj,Sl.v]at k
   simp only[h2,tB,gR,db]
   simp only[go_sem,k,simprocAttr]
theorem aua {a b:P} {d1 d2 b1 b2:Nat} (hs:Ok s) (hw:Wk w) (ha:bZ w a) (hb:bZ w b) (e1:s.box d1 b1=some [OW w]) (e2:s.box d2 b2=some (aj b)):
  au AP (.fn 104) [.agg (aj a),.ptr d1 b1 0,.ptr d2 b2 0] s=some (B (cS w a b),s):=by
 have h:=fun r=>abZ (hs.push r) hw ha hb
 rw[aM (show AP 104=some EX from rfl) rfl]
 simp only[aj,Sl.v]at e2 h⊢
 simp only[go_sem,UN,fO e1,fO e2,h,simprocAttr]
def cK (w:W) (p:P) (l:List P):Bool:=l.any fun o=>cS w o p
theorem SI {p:P} {l:List P} {o:Own} {e:Nat} (hs:Ok s) (hw:Wk w) (hp:bZ w p) (hl:∀x∈l,bZ w x) (he:l=[]∨e=3) (hn:(l.length:Int)<9223372036854775808):
  au AP (.fn 86) [OW w,.agg (aj p),.slice o e (l.map aj)] s=some (B (cK w p l),s):=by
 have h:∀r,au AP (.fn 103) [.slice o e (l.map aj),.fn 104 [] [.ptr s.ag.length 0 0,.ptr s.ag.length 1 0]] (s.push ⟨[OW w]::aj p::r,[]⟩)=some (B (cK w p l),s.push ⟨[OW w]::aj p::r,[]⟩):=fun r=>
  auz he hn fun a ha r q=>aua (((hs.push _).push _).push _) hw (hl a ha) hp (fO (fO Oa _) _) (fO (fO Ve _) _)
 rw[aM (show AP 86=some EW from rfl) rfl]
 simp only[OW,aj,Sl.v]at h⊢
 simp only[go_sem,UM,h,simprocAttr]
theorem SK {n:Int} (hw:Wk w):au AP (.fn 33) [OW w,I n] s=some (I (cond (wi n 0 (w.rs.l.length-1)) 0 6),s):=by
 have:=hw.v.rl
 rw[aM (show AP 33=some E5 from rfl) rfl]
 simp only[OW]
 simp only[go_sem,UT,xZ,ch (x:=(w.rs.l.length:Int)-1) (by omega) (by omega),vS,lk,simprocAttr]
end
theorem afY {o:Own} {e e2:Nat} {xs ys:List (List AV)}:pX .slice (.slice o e xs) (.slice .aA e2 ys)=some o.isNil:=by
 cases o<;>rfl
theorem apM:Own.aA.isNil=true:=rfl
attribute [go_sem] afY apM
def aV:Nat→List Int→List (List Int)
 |0,_=>[[]]
 |_+1,[]=>[]
 |k+1,x::r=>(aV k r).map (x::·)++aV (k+1) r
theorem qU:∀{k:Nat} {l g:List Int},g∈aV k l→g.length=k
 |0,_,g,h=>by simp[aV]at h;simp[h]
 |k+1,[],g,h=>by simp[aV]at h
 |k+1,x::r,g,h=>by
  simp only[aV,dC,cz]at h
  rcases h with⟨q,hq,rfl⟩|h
  ·simp[qU hq]
  ·exact qU h
theorem BE:∀{k:Nat} {l g:List Int},g∈aV k l→g.Sublist l
 |0,_,g,h=>by simp[aV]at h;simp[h]
 |k+1,[],g,h=>by simp[aV]at h
 |k+1,x::r,g,h=>by
  simp only[aV,dC,cz]at h
  rcases h with⟨q,hq,rfl⟩|h
  ·exact(BE hq).cons_cons x
  ·exact(BE h).cons x
section
variable{s:ae} {w:W}
def Cc (l:List Int) (x:AV):Prop:=(l=[]∧x=.slice .aA 0 [])∨(l≠[]∧∃o,o.isNil=false∧x=.slice o 1 (l.map aB))
theorem Cc.len {l:List Int} {x:AV} (h:Cc l x):ld false x=some (I l.length):=by
 rcases h with⟨rfl,rfl⟩|⟨_,o,_,rfl⟩
 ·rfl
 ·simp[ld,AV.int]
theorem Cc.cut {l:List Int} {x:AV} (h:Cc l x):∃x',gD (.sl 1) x none (some (I l.length)) (some (I l.length))=some x'∧
  ∀(q:ae) (b:List (List AV)) (tk:List (Option Nat)) (n:Int),l.length+1≤4294967296→∃tk',eI (q.push ⟨b,tk⟩) 1 x' (.slice .full 1 [[I n]])=some (.slice (.tok q.ag.length tk.length) 1 ((l++[n]).map aB),q.push ⟨b,tk'⟩):=by
 rcases h with⟨rfl,rfl⟩|⟨hn,o,ho,rfl⟩
 ·refine⟨.slice .aA 0 [],rfl,fun q b tk n _=>⟨tk++[some 1],?_⟩⟩
  simp[eI,Own.isNil,most,qu,oS]
 ·have h1:asNat (I (l.length:Int)) l.length=some l.length:=by simp[asNat]
  refine⟨.slice .full 1 (l.map aB),?_,fun q b tk n hl=>⟨tk++[some (l.length+1)],?_⟩⟩
  ·have hp:0<l.length:=ye.2 hn
   have ht:List.take l.length (List.map aB l)=List.map aB l:=by rw[←bR (f:=aB),jb]
   simp[gD,pG,jS,jG,h1,um,ho,hn,hp,ht]
  ·simp[eI,Own.isNil,most,qu,oS,hl]
theorem abx {α:Type} {f:α→List AV} {o:Own} {es k:Nat} {l:List α} (hk:k≤l.length):∃o',gD (.sl es) (.slice o es (l.map f)) (some (.v (.int .i64 (k:Int)))) none none=some (.slice o' es ((l.drop k).map f)):=by
 have h1:jG (some (AV.v (.int .i64 (k:Int)))) l.length=some k:=by simp[jG,asNat];omega
 refine⟨um o false (k==0&&(l.map f).length==(l.map f).length) ((l.map f).length==(l.map f).length&&0<(l.map f).length),?_⟩
 have ht:List.take l.length (List.map f l)=List.map f l:=by rw[←bR (f:=f),jb]
 simp[gD,pG,jS,h1,ht,List.map_drop]
theorem ag4 {rs:Nat} {ρ:Nat→AV} {m:ae}:finish [.tmp rs] true ⟨ρ,m⟩=kI m (ρ rs):=rfl
theorem aar {m:ae} {e:Nat} {xs:List (List AV)}:kI m (.slice .aA e xs)=some (.slice .aA e xs,m.pop):=rfl
theorem aqZ {r:Rec} {g e:Nat} {xs:List (List AV)} {m:ae}:kI ((dt m).push r) (.slice (.tok m.ag.length g) e xs)=some (.slice .any e xs,dt m):=by
 have:¬(((dt m).push r).ro<m.ag.length):=Aw _
 simp[kI,this,pop_push]
attribute [go_sem] ag4 aar aqZ
theorem ab8 {l:List Int} {x:AV} (hx:Cc l x) (hl:l.length≤4294967296):au AP (.fn 64) [x] (dt s)=some (aU 1 (l.map aB),dt s):=by
 rw[aM (show AP 64=some E7 from rfl) rfl]
 rcases hx with⟨rfl,rfl⟩|⟨hn,o,ho,rfl⟩
 ·simp only[go_sem,NY,simprocAttr];rfl
 ·have he:(l.map aB).isEmpty=false:=by cases l<;>simp_all
  have ha:eI ((dt s).push ⟨[],[]⟩) 1 (.slice .full 1 []) (.slice o 1 (l.map aB))=some (.slice (.tok s.ag.length 0) 1 (l.map aB),(dt s).push ⟨[],[some l.length]⟩):=by
   have h2:(dt s).ag.length=s.ag.length:=rfl
   have h3:=qu (dt s) ⟨[],[]⟩
   have h4:=oS (dt s) ⟨[],[]⟩ l.length
   rw[h2]at h3 h4
   simp[eI,Own.isNil,most,hl,hn,h2,h3,h4]
  have hv:aU 1 (l.map aB)=.slice .any 1 (l.map aB):=by cases l<;>simp_all [aU]
  rw[hv]
  simp only[go_sem,NY,ho,ha,simprocAttr]
theorem aib {ι : Type} {L N NL M : Nat} {base : ι → ae} {Iv : List (List Int) → ι → Prop} {stop : List (List Int) → List Int → Bool} {O : List (List Int) → List Int → ι → Prop} {X : List Int → Prop} (h : Hand AP L (fun l => aU 1 (l.map aB)) base Iv stop O X N NL M) {cnt : Nat} (qY : (cnt : Int) < 1000000)
    {rg:Rec} (hy:rg.boxes[0]? =some [.yield L]) (hg:rg.boxes[1]? =some [.fn 63 [] [.bg [I cnt] 0,.ptr N 0 0,.ptr N 1 0]]):
    ∀ (n : Nat) (pre rest : List Int) (x : AV) (o : Own) (e : Nat) (i : ι) (done : List (List Int)) (B : List Rec) (ls : List dq), rest.length ≤ n → pre.length ≤ cnt → Cc pre x → (rest = [] ∨ e = 1) → (rest.length : Int) < 1000000 →
      done.length+(aV (cnt-pre.length) rest).length≤M→Iv done i→(∀g∈aV (cnt-pre.length) rest,X (pre++g))→
      ∃b i',au AP (.fn 63) [x,.slice o e (rest.map aB),.bg [I cnt] 0,.ptr N 0 0,.ptr N 1 0] (up (base i) (rg::B) ls)=some (AV.v (.bool b),up (base i') (rg::B) ls)∧Ends Iv stop O done ((aV (cnt-pre.length) rest).map (pre++·)) b i':=by
  intro n
  induction n with
  | zero =>
    intro pre rest x o e i done B ls hr hp hx he hl hM hI hX
    have jz:rest=[]:=uE (by omega)
    subst jz
    have b0:(up (base i) (rg::B) ls).box N 0=some [.yield L]:=by rw[←h.len i,LR,hy]
    have bH:=(h.ok i).up (B:=rg::B) (ls:=ls)
    by_cases hc:pre.length=cnt
    · obtain ⟨b, i', h1, h2⟩ := h.one (B := rg :: B) (ls := ls) (by rw [show cnt - pre.length = 0 by omega] at hM; simp [aV] at hM; omega) hI (by have := hX [] (by rw [show cnt - pre.length = 0 by omega]; simp [aV]); simpa using this) ⟨[], []⟩
      refine⟨b,i',?_,by rw[show cnt-pre.length=0 by omega];simpa[aV]using h2⟩
      rw[aM (show AP 63=some wP from rfl) rfl]
      have aP:∀q:ae,au AP (.fn 64) [x] (dt q)=some (aU 1 (pre.map aB),dt q):=fun q=>ab8 hx (by omega)
      simp only[go_sem,DF,hx.len,hc,fO b0,aP,h1,simprocAttr]
    · have hk : cnt - pre.length = (cnt - pre.length - 1) + 1 := by omega
      refine⟨true,i,?_,by rw[hk];simp[aV,Ends,hI]⟩
      rw[aM (show AP 63=some wP from rfl) rfl]
      have hd:decide ((pre.length:Int)=(cnt:Int))=false:=by simp;omega
      simp only[go_sem,DF,hx.len,hd,cQ,simprocAttr]
      rw[go_loop]
      simp only[go_sem,DG,I4,simprocAttr]
  | succ n QS =>
    intro pre rest x o e i done B ls hr hp hx he hl hM hI hX
    have b0:∀i,(up (base i) (rg::B) ls).box N 0=some [.yield L]:=fun i=>by have:=LR (S:=base i) (B:=B) (ls:=ls) (r:=rg) (b:=0);rw[h.len i]at this;rw[this,hy]
    have b1:∀i,(up (base i) (rg::B) ls).box N 1=some [.fn 63 [] [.bg [I cnt] 0,.ptr N 0 0,.ptr N 1 0]]:=fun i=>by have:=LR (S:=base i) (B:=B) (ls:=ls) (r:=rg) (b:=1);rw[h.len i]at this;rw[this,hg]
    have bH:∀i,Ok (up (base i) (rg::B) ls):=fun i=>(h.ok i).up (B:=rg::B) (ls:=ls)
    by_cases hc:pre.length=cnt
    · obtain ⟨b, i', h1, h2⟩ := h.one (B := rg :: B) (ls := ls) (by rw [show cnt - pre.length = 0 by omega] at hM; simp [aV] at hM; omega) hI (by have := hX [] (by rw [show cnt - pre.length = 0 by omega]; simp [aV]); simpa using this) ⟨[], []⟩
      refine⟨b,i',?_,by rw[show cnt-pre.length=0 by omega];simpa[aV]using h2⟩
      rw[aM (show AP 63=some wP from rfl) rfl]
      have aP:∀q:ae,au AP (.fn 64) [x] (dt q)=some (aU 1 (pre.map aB),dt q):=fun q=>ab8 hx (by omega)
      simp only[go_sem,DF,hx.len,hc,fO (b0 i),aP,h1,simprocAttr]
    · obtain ⟨k, hk⟩ : ∃ k, cnt - pre.length = k + 1 := ⟨cnt - pre.length - 1, by omega⟩
      rw[hk]at hX hM⊢
      have hd:decide ((pre.length:Int)=(cnt:Int))=false:=by simp;omega
      have key:∀j ρ m,j≤rest.length→(ρ 0=x∧ρ 1=.slice o e (rest.map aB)∧ρ 4=.ptr N 1 0∧ρ 18=.slice o e (rest.map aB)∧ρ 19=I rest.length∧ρ 20=I j∧
          ∃i tk ql,m=(up (base i) (rg::B) ls).push ⟨[],tk⟩∧ql++(aV (k+1) (rest.drop j)).map (pre++·)=(aV (k+1) rest).map (pre++·)∧Ends Iv stop O done ql true i)→
          ∃b i',go AP agx (.c (.loop DG)::anW) ⟨ρ,m⟩=some (AV.v (.bool b),up (base i') (rg::B) ls)∧Ends Iv stop O done ((aV (k+1) rest).map (pre++·)) b i':=by
        refine Zy rest.length _ (fun r=>∃b i',r=some (AV.v (.bool b),up (base i') (rg::B) ls)∧Ends Iv stop O done ((aV (k+1) rest).map (pre++·)) b i') ?_ ?_
        · rintro j ρ m hj ⟨h0, h1, h4, fZ, p7, O5, i, tk, ql, rfl, hits, hE⟩ ih
          obtain⟨y,zG⟩:=get_some hj
          have nJ:e=1:=by rcases he with h|h;(rw[h]at zG;simp at zG);exact h
          subst nJ
          have jA:=cD (f:=aB) (o:=o) (es:=1) zG
          obtain⟨x',rn,sF⟩:=hx.cut
          obtain⟨tk',GI⟩:=sF (up (base i) (rg::B) ls) [] tk y (by omega)
          have hw:IntKind.i64.wrap ((j:Int)+1)=((j+1:Nat):Int):=by rw[ch]<;>omega
          obtain⟨o',po⟩:=abx (f:=aB) (o:=o) (es:=1) (l:=rest) (k:=j+1) (by omega)
          have Kk:rest.drop j=y::rest.drop (j+1):=eR zG
          have Qy:(aV (k+1) (rest.drop j)).map (pre++·)=(aV k (rest.drop (j+1))).map ((pre++[y])++·)++(aV (k+1) (rest.drop (j+1))).map (pre++·):=by
            rw[Kk];simp[aV,S0]
          have iP:cnt-(pre++[y]).length=k:=by simp;omega
          have hXs:∀g∈aV (k+1) (rest.drop j),X (pre++g):=fun g hg=>by
            have hm:pre++g∈(aV (k+1) rest).map (pre++·):=by
              rw[←hits];exact HM _ (cz.2 ⟨g,hg,rfl⟩)
            obtain⟨g',bB,e'⟩:=cz.1 hm
            have e':pre++g'=pre++g:=e'
            rw[←e'];exact hX g' bB
          obtain⟨b,i',ef,gI⟩:=QS (pre++[y]) (rest.drop (j+1)) (.slice (.tok (up (base i) (rg::B) ls).ag.length tk.length) 1 ((pre++[y]).map aB)) o' 1 i (done++ql) (B++[⟨[],tk'⟩]) ls (by rw[tc];omega) (by simp;omega)
            (.inr ⟨by simp,_,rfl,rfl⟩) (.inr rfl) (by rw[tc];omega) (by
              have hh:=gS List.length hits
              rw[Qy]at hh
              simp only[cu,bR]at hh⊢
              simp only[cu,yf]at iP
              rw[show cnt-(pre.length+[y].length)=k from iP];omega) hE.all (by
              rw[iP];intro g hg
              have:=hXs (y::g) (by rw[Kk];simp only[aV];exact oP _ (cz.2 ⟨g,hg,rfl⟩))
              simpa using this)
          rw[iP]at gI
          have Ys:∀i:ι,up (base i) (rg::(B++[⟨[],tk'⟩])) ls=(up (base i) (rg::B) ls).push ⟨[],tk'⟩:=fun i=>by rw[LQ];rfl
          rw[Ys,Ys]at ef
          simp only[go_sem,DG,h0,h1,h4,fZ,p7,O5,aS hj,jA,fO (b1 i),hx.len,rn,GI,hw,po,ef,simprocAttr]
          cases b with
          | true =>
            simp only[go_sem,simprocAttr]
            refine ih _ _ ?_
            refine⟨h0,h1,h4,fZ,p7,rfl,i',tk',ql++(aV k (rest.drop (j+1))).map ((pre++[y])++·),rfl,?_,?_⟩
            · rw[gN,←Qy,hits]
            · exact hE.Ib gI
          | false =>
            simp only[go_sem,simprocAttr]
            refine⟨false,i',rfl,?_⟩
            rw[←hits,Qy,←gN]
            exact(hE.Ib gI).TS _
        · rintro ρ m ⟨h0, h1, h4, fZ, p7, O5, i, tk, ql, rfl, hits, hE⟩
          simp only[go_sem,DG,I4,p7,O5,bN,simprocAttr]
          refine⟨true,i,rfl,?_⟩
          rw[eZ]at hits
          simp only[aV,nw,iG]at hits
          rw[←hits];exact hE
      rw[aM (show AP 63=some wP from rfl) rfl]
      simp only[go_sem,DF,hx.len,hd,simprocAttr]
      refine key 0 _ _ (bp _) ?_
      exact⟨rfl,rfl,rfl,rfl,rfl,rfl,i,[],[],rfl,by simp,⟨rfl,by simpa using hI⟩⟩
theorem OY {ι:Type} {L N NL M:Nat} {base:ι→ae} {Iv:List (List Int)→ι→Prop} {stop:List (List Int)→List Int→Bool} {O:List (List Int)→List Int→ι→Prop} {X:List Int→Prop} (h:Hand AP L (fun l=>aU 1 (l.map aB)) base Iv stop O X N NL M) {cnt:Nat} (qY:(cnt:Int)<1000000)
  {l:List Int} {o:Own} {e:Nat} {i:ι} {done:List (List Int)} (he:l=[]∨e=1) (hl:(l.length:Int)<1000000) (hM:done.length+(aV cnt l).length≤M) (hI:Iv done i) (hX:∀g∈aV cnt l,X g):
  ∃b i',au AP (.fn 62) [.yield L,.bg [I cnt] 0,.bg [.slice o e (l.map aB)] 0] (base i)=some (.tuple [],base i')∧Ends Iv stop O done (aV cnt l) b i':=by
 have bH:=h.ok i
 have hlen:=h.len
 obtain⟨b,i',h1,h2⟩:=aib h qY (rg:=⟨[[.yield L],[.fn 63 [] [.bg [I cnt] 0,.ptr N 0 0,.ptr N 1 0]]],[]⟩) rfl rfl l.length [] l (.slice .aA 0 []) o e i done [] [] (aH _) (bp _) (.inl ⟨rfl,rfl⟩) he hl hM hI (by simpa using hX)
 refine⟨b,i',?_,by simpa using h2⟩
 rw[aM (show AP 62=some ED from rfl) rfl]
 have hp:∀i:ι,up (base i) [⟨[[.yield L],[.fn 63 [] [.bg [I cnt] 0,.ptr N 0 0,.ptr N 1 0]]],[]⟩] []=(base i).push ⟨[[.yield L],[.fn 63 [] [.bg [I cnt] 0,.ptr N 0 0,.ptr N 1 0]]],[]⟩:=fun i=>RS.symm
 rw[hp,hp]at h1
 rw[←hlen i]at h1
 simp only[go_sem,Ux,bH,h1,simprocAttr]
theorem aoI {m:ae} {f:FuncId} {caps:List AV}:ev m (.fn f [] caps)=(mA m caps).map (.fn f [] ·):=rfl
theorem aoB {m:ae}:mA m []=some []:=rfl
theorem aoC {q:ae} {r:Rec} {b off:Nat} {rest:List AV}:mA (q.push r) (.ptr q.ag.length b off::rest)=((r.boxes[b]?).bind closeAll).bind fun cs=>(mA (q.push r) rest).map (.bg cs off::·):=by
 rw[mA,ak (by rw[fP]),iK]
 cases(r.boxes[b]?).bind closeAll with
 |none=>rfl
 |some cs=>cases mA (q.push r) rest<;>rfl
attribute [go_sem] aoI aoB aoC
theorem Sk {o:Own} {es:Nat} {rows:List (List AV)} {c:AV} {n:Int} (hl:(AV.slice o es rows).close=some c) (hs:Ok s):au AP (.fn 35) [.slice o es rows,I n] s=some (.fn 62 [] [.bg [I n] 0,.bg [c] 0],s):=by
 rw[aM (show AP 35=some EC from rfl) rfl]
 simp only[go_sem,Uw,hl,simprocAttr]
def uh (w:W) (q:R) (st:Int):List Int:=q.an.l.filter fun a=>dc w a st q.len
def ni (w:W) (i st:Int):List P:=(aV (w.rq i).need.toNat (uh w (w.rq i) st)).map fun g=>⟨i,st,fB g⟩
def jJ (w:W) (i:Int):Int→Nat→List P
 |_,0=>[]
 |st,n+1=>ni w i st++jJ w i (st+1) n
def dA (w:W) (i:Int):List P:=jJ w i (w.rq i).lo ((w.rq i).hi-(w.rq i).len+2-(w.rq i).lo).toNat
theorem acL {g:List Int} (h:g≠[]):aU 1 (g.map aB)=(fB g).v aB:=by
 cases g with
 |nil=>exact absurd rfl h
 |cons a r=>rfl
section
variable{ι:Type} {L N NL M:Nat} {base:ι→ae} {Iv:List P→ι→Prop} {stop:List P→P→Bool} {O:List P→P→ι→Prop} {X:P→Prop}
abbrev uc (base:ι→ae) (R:Rec) (ρ:Nat→AV) (j:ι×Option cM):ae:=up (base j.1) [R] [⟨j.2.isNone,j.2,ρ,[54],kz,kA⟩]
theorem arE {S S':ae} {l L d k:Nat} {ρ:Nat→AV} {xs:List (List AV)} {i st:Int} {b:Bool} (hR:l7 l ⟨true,none,ρ,[54],kz,kA⟩ S) (J9:l7 l ⟨true,none,ρ,[54],kz,kA⟩ S') (hS:Ok S)
  (h2:ρ 2=.bg [I i] 0) (h3:ρ 3=.ptr d 0 0) (h5:ρ 5=.ptr d k 0) (b0:S.box d 0=some [.yield L]) (bk:S.box d k=some [I st])
  (hc:au AP (.yield L) [.agg [I i,I st,.slice .any 1 xs]] ((busy l S).push ⟨[],[]⟩)=some (AV.v (.bool b),(busy l S').push ⟨[],[]⟩)):
  au AP (.yield l) [.slice .any 1 xs] S=some (AV.v (.bool b),if b=true then S' else over l .ret S'):=by
 refine(Ju hR rfl).trans ?_
 have k0:=fun r=>fO (m:=busy l S) b0 r
 have kk:=fun r=>fO (m:=busy l S) bk r
 simp only[go_sem,kz,FG hR,Cv,simprocAttr]
 simp only[go_sem,kA,h2,h3,h5,k0,kk,hc,simprocAttr]
 cases b with
 |true=>simp only[go_sem,JT J9,simprocAttr]
 |false=>simp only[go_sem,ez,simprocAttr]
theorem arB (h:Hand AP L (fun p=>.agg (aj p)) base Iv stop O X N NL M) {R:Rec} {ρ:Nat→AV} {i st:Int} {k:Nat} {d0:List P} {n:Nat}
  (h2:ρ 2=.bg [I i] 0) (h3:ρ 3=.ptr N 0 0) (h5:ρ 5=.ptr N k 0) (b0:R.boxes[0]? =some [.yield L]) (bk:R.boxes[k]? =some [I st]):
  Hand AP NL (fun g=>aU 1 (g.map aB)) (uc base R ρ) (fun dn j=>j.2=none∧Iv (d0++dn.map fun g=>⟨i,st,fB g⟩) j.1) (fun dn g=>stop (d0++dn.map fun g=>⟨i,st,fB g⟩) ⟨i,st,fB g⟩)
   (fun dn g j=>j.2=some .ret∧O (d0++dn.map fun g=>⟨i,st,fB g⟩) ⟨i,st,fB g⟩ j.1) (fun g=>g.length=n+1∧X ⟨i,st,fB g⟩) (N+1) (NL+1) (M-d0.length):=by
 have main:∀(dn:List (List Int)) (g:List Int) (j:ι×Option cM) (B:List Rec) (ls:List dq),dn.length<M-d0.length→(j.2=none∧Iv (d0++dn.map fun g=>⟨i,st,fB g⟩) j.1)→(g.length=n+1∧X ⟨i,st,fB g⟩)→
   ∃b i',Ends Iv stop O (d0++dn.map fun g=>⟨i,st,fB g⟩) [⟨i,st,fB g⟩] b i'∧au AP (.yield NL) [aU 1 (g.map aB)] (up (uc base R ρ j) B ls)=some (AV.v (.bool b),up (uc base R ρ (i',if b then none else some .ret)) B ls):=by
  rintro dn g ⟨i1,p⟩ B ls hm ⟨hp,hI⟩ ⟨hg,hX⟩
  simp only at hp hI
  subst hp
  have aR:=h.jX
  obtain⟨b,i',h1,h4⟩:=h.one (B:=[R]++B) (ls:=[⟨false,none,ρ,[54],kz,kA⟩]++ls) (by simp;omega) hI hX ⟨[],[]⟩
  refine⟨b,i',h4,?_⟩
  have xn:g≠[]:=by intro e;rw[e]at hg;simp at hg
  have hN:=h.len
  have bx:∀(i1:ι) (q:Nat) (lp:dq),(up (base i1) (R::B) (lp::ls)).box N q=R.boxes[q]? :=fun i1 q lp=>by rw[←hN i1,LR]
  have hR:l7 NL ⟨true,none,ρ,[54],kz,kA⟩ (up (base i1) (R::B) (⟨true,none,ρ,[54],kz,kA⟩::ls)):=aaX (h.ok i1) (aR i1) rfl rfl
  have J9:l7 NL ⟨true,none,ρ,[54],kz,kA⟩ (up (base i') (R::B) (⟨true,none,ρ,[54],kz,kA⟩::ls)):=aaX (h.ok i') (aR i') rfl rfl
  have e1:∀(i1:ι) (lp:dq),up (up (base i1) [R] [lp]) B ls=up (base i1) (R::B) (lp::ls):=fun i1 lp=>by rw[at2];rfl
  have XM:∀i1:ι,busy NL (up (base i1) (R::B) (⟨true,none,ρ,[54],kz,kA⟩::ls))=up (base i1) (R::B) (⟨false,none,ρ,[54],kz,kA⟩::ls):=fun i1=>aef (aR i1)
  have Qg:over NL .ret (up (base i') (R::B) (⟨true,none,ρ,[54],kz,kA⟩::ls))=up (base i') (R::B) (⟨false,some .ret,ρ,[54],kz,kA⟩::ls):=aqW (aR i')
  simp only[uc,e1,Option.isNone_none]
  have bH:=(h.ok i1).up (B:=R::B) (ls:=⟨true,none,ρ,[54],kz,kA⟩::ls)
  have y9:aU 1 (g.map aB)=.slice .any 1 (g.map aB):=by cases g with|nil=>exact absurd rfl xn|cons a r=>rfl
  rw[y9]
  have fl:au AP (.yield L) [.agg [I i,I st,.slice .any 1 (g.map aB)]] ((busy NL (up (base i1) (R::B) (⟨true,none,ρ,[54],kz,kA⟩::ls))).push ⟨[],[]⟩)=some (AV.v (.bool b),(busy NL (up (base i') (R::B) (⟨true,none,ρ,[54],kz,kA⟩::ls))).push ⟨[],[]⟩):=by
   simp only[l5,kq,aj,←acL xn,y9]at h1
   rw[XM,XM];exact h1
  refine(arE hR J9 bH h2 h3 h5 (by rw[bx,b0]) (by rw[bx,bk]) fl).trans ?_
  cases b with
  |true=>simp
  |false=>simp[Qg]
 refine⟨fun j=>(h.ok _).up,fun j=>by simp[uc,atZ,h.len],fun j=>by simp[uc,at0,h.jX],?_,?_⟩
 ·intro dn g j B ls hm hI hX hs
  obtain⟨b,i',h1,h4⟩:=main dn g j B ls hm hI hX
  simp only[Ends]at h1
  rw[aq (by rw[hs];simp)]at h1
  obtain⟨rfl,h1⟩:=h1
  exact⟨(i',none),h4,rfl,by simpa using h1⟩
 ·intro dn g j B ls hm hI hX hs
  obtain⟨b,i',h1,h4⟩:=main dn g j B ls hm hI hX
  simp only[Ends]at h1
  rw[ak hs]at h1
  obtain⟨rfl,h1⟩:=h1
  exact⟨(i',some .ret),h4,rfl,h1⟩
theorem acK {l:List Int}:∃o e,aU 1 (l.map aB)=.slice o e (l.map aB)∧(l=[]∨e=1):=by
 cases l with
 |nil=>exact⟨_,_,rfl,.inl rfl⟩
 |cons a r=>exact⟨_,_,rfl,.inr rfl⟩
theorem Wj {R:Rec} {ρ:Nat→AV} {i:ι}:enterLoop ((base i).push R) ⟨true,none,ρ,[54],kz,kA⟩=uc base R ρ (i,none):=by
 simp[uc,RS,abW]
theorem arD {F:cM→St→Option (AV×ae)} {ks:List K} (h:Hand AP L (fun p=>.agg (aj p)) base Iv stop O X N NL M) {R:Rec} {ρ:Nat→AV} {req st:Int} {k:Nat} {d0:List P} {i:ι} {ready:List Int} {need:Nat}
  (hn:1≤need) (iQ:(need:Int)<1000000) (hl:(ready.length:Int)<1000000)
  (h2:ρ 2=.bg [I req] 0) (h3:ρ 3=.ptr N 0 0) (h5:ρ 5=.ptr N k 0) (h53:ρ 53=.fn 62 [] [.bg [I need] 0,.bg [aU 1 (ready.map aB)] 0]) (b0:R.boxes[0]? =some [.yield L]) (bk:R.boxes[k]? =some [I st])
  (hM:d0.length+(aV need ready).length≤M) (hI:Iv d0 i) (hX:∀g∈aV need ready,X ⟨req,st,fB g⟩):
  ∃b i',Ends Iv stop O d0 ((aV need ready).map fun g=>(⟨req,st,fB g⟩:P)) b i'∧go AP F (.c (.rangeFunc (.tmp 53) [54] kz kA)::ks) ⟨ρ,(base i).push R⟩=if b=true then go AP F ks ⟨ρ,(base i').push R⟩else F .ret ⟨ρ,(base i').push R⟩:=by
 obtain⟨o,e,ha,he⟩:=acK (l:=ready)
 obtain⟨n,rfl⟩:∃n,need=n+1:=⟨need-1,by omega⟩
 have hh:=arB h (R:=R) (ρ:=ρ) (i:=req) (st:=st) (k:=k) (d0:=d0) (n:=n) h2 h3 h5 b0 bk
 obtain⟨b,⟨i',p⟩,hc,hE⟩:=OY hh (cnt:=n+1) iQ (l:=ready) (o:=o) (e:=e) (i:=(i,none)) (done:=[]) he hl (by simp;omega) ⟨rfl,by simpa using hI⟩ (fun g hg=>⟨qU hg,hX g hg⟩)
 have hE':=Ends.map (I:=Iv) (stop:=stop) (O:=O) (mk:=fun g=>(⟨req,st,fB g⟩:P)) (f:=fun j:ι×Option cM=>j.1) (d0:=d0) (fun dn j hj=>hj.2) (fun dn g=>rfl) (fun dn g j hj=>hj.2) hE
 refine⟨b,i',by simpa using hE',?_⟩
 have eT:((base i).push R).loops.length=NL:=h.jX i
 have Yd:((base i').push R).loops.length=NL:=h.jX i'
 rw[J1 (x:=.tmp 53) h53,Wj,ha,eT]
 refine(gS (Option.bind · _) hc).trans ?_
 simp only[et]
 cases b with
 |true=>
  have hp:p=none:=(hE.all).1
  subst hp
  rw[←Wj,J0 Yd rfl rfl];rfl
 |false=>
  obtain⟨pre,g,post,_,hO,_⟩:=hE.first
  have hp:p=some .ret:=hO.1
  subst hp
  have:uc base R ρ (i',some .ret)=enterLoop ((base i').push R) ⟨false,some .ret,ρ,[54],kz,kA⟩:=by simp[uc,RS,abW]
  rw[this,Xf Yd rfl];rfl
theorem arA (h : Hand AP L (fun p => .agg (aj p)) base Iv stop O X N NL M) (hw : Wk w) {req : Int} (h0 : 0 ≤ req) (h1 : req < w.rs.l.length) {i : ι} {done : List P} (hM : done.length + (dA w req).length ≤ M) (hI : Iv done i) (hX : ∀ p ∈ dA w req, X p) :
  ∃b i',au AP (.fn 102) [.yield L,.bg [OW w] 0,.bg [I req] 0] (base i)=some (.tuple [],base i')∧Ends Iv stop O done (dA w req) b i':=by
 have hN:=h.len
 have hq:=hw.rq h0 h1
 have sC:=hw.ok.an _ (W.qB h0 h1)
 have gj:=rz hw h0 h1
 have iQ:=hw.v.n2
 have pf:=hw.v.al
 have XU:=hw.tD.an _ (W.qB h0 h1)
 generalize mq:w.rq req=q at*
 obtain⟨bJ,lo,hi,len,val,⟨oa,ea,an⟩,need⟩:=q
 obtain⟨l0,Cg,bh,rA,qn,LU,LV,TO,tq,Ia,K7,K8,_⟩:=hq
 simp only at l0 Cg bh rA qn LU LV TO tq Ia K7 K8 XU
 have hea:ea=1:=by
  rcases sC.1 with h|h
  ·exact absurd h TO
  ·exact h
 subst hea
 have key : ∀ (st : Int) ρ m, (lo ≤ st ∧ st ≤ hi - len + 2 ∧ ρ 1 = .bg [OW w] 0 ∧ ρ 2 = .bg [I req] 0 ∧ ρ 3 = .ptr N 0 0 ∧ ρ 4 = .ptr N 1 0 ∧
   ∃i junk tk ql,ρ 5=.ptr N (junk.length+1+1) 0∧m=(base i).push ⟨[.yield L]::[S bJ,I lo,I hi,I len,I val,.slice oa 1 (an.map aB),I need]::(junk++[[I st]]),tk⟩∧ql++jJ w req st (hi-len+2-st).toNat=dA w req∧Ends Iv stop O done ql true i)→
   ∃b i',go AP JN (.c (.loop wJ)::an6) ⟨ρ,m⟩=some (.tuple [],base i')∧Ends Iv stop O done (dA w req) b i':=by
  refine apb (hi-len+1) _ (fun r=>∃b i',r=some (.tuple [],base i')∧Ends Iv stop O done (dA w req) b i') ?_ ?_
  ·rintro st ρ m cp ⟨akB,zB,h1,h2,h3,h4,i,junk,tk,ql,h5,rfl,hits,hE⟩ ih
   have hN':=hN i
   have hd:decide (st+len-1≤hi)=true:=bM (by omega)
   have qm : ∀ (j : Nat) ρ m, j ≤ an.length → (ρ 1 = .bg [OW w] 0 ∧ ρ 2 = .bg [I req] 0 ∧ ρ 3 = .ptr N 0 0 ∧ ρ 4 = .ptr N 1 0 ∧ ρ 5 = .ptr N (junk.length + 1 + 1) 0 ∧ ρ 33 = .slice oa 1 (an.map aB) ∧ ρ 34 = I an.length ∧ ρ 35 = I j ∧
     ∃og tk,Acc (base i).ag.length 1 (((an.take j).filter fun a=>dc w a st len).map aB) (ρ 6) og tk∧m=(base i).push ⟨[.yield L]::[S bJ,I lo,I hi,I len,I val,.slice oa 1 (an.map aB),I need]::(junk++[[I st]]),tk⟩)→
     ∃b i',go AP JN (.c (.loop DO)::an7) ⟨ρ,m⟩=some (.tuple [],base i')∧Ends Iv stop O done (dA w req) b i':=by
    refine Zy an.length _ (fun r=>∃b i',r=some (.tuple [],base i')∧Ends Iv stop O done (dA w req) b i') ?_ ?_
    ·rintro j ρ m hj ⟨h1,h2,h3,h4,h5,pc,mh,p8,og,tk,hA,rfl⟩ fS
     obtain⟨a,ha⟩:=get_some hj
     have qX:=tq a (bU ha)
     have hr:=cD (f:=aB) (o:=oa) (es:=1) ha
     have cd:∀r,au AP (.fn 89) [OW w,I a,I st,I len] ((base i).push r)=some (B (dc w a st len),(base i).push r):=fun r=>ab0 hw qX.1 qX.2 (by omega) (by omega) (by omega)
     rw[←hN i]at h3 h4 h5
     have xk:(an.take (j+1)).filter (fun a=>dc w a st len)=(an.take j).filter (fun a=>dc w a st len)++if dc w a st len=true then[a]else[]:=by
      rw[fF ha,ns];simp only[L6,Am]
     have av1:((an.take j).filter (fun a=>dc w a st len)).length≤an.length:=by
      have:=nu (fun a=>dc w a st len) (an.take j)
      rw[fc]at this;omega
     cases Kz:dc w a st len with
     |false=>
      rw[Kz]at cd
      simp only[go_sem,DO,h1,h4,h5,pc,mh,p8,aS hj,hr,cd,bK hj (show(an.length:Int)<_ by omega),simprocAttr]
      refine fS _ _ ?_
      refine⟨h1,h2,by rw[←hN i];exact h3,by rw[←hN i];exact h4,by rw[←hN i];exact h5,pc,mh,rfl,og,tk,?_,rfl⟩
      rw[xk,Kz,aq (by simp),iG]
      exact hA
     |true=>
      rw[Kz]at cd
      obtain⟨x',gC,tk',c9,eS,_⟩:=hA.append (h.ok i) .full (ys:=[[I a]]) (by simp) (by simp;omega)
      simp only[go_sem,DO,h1,h4,h5,pc,mh,p8,aS hj,hr,cd,c9,bK hj (show(an.length:Int)<_ by omega),simprocAttr]
      refine fS _ _ ?_
      refine⟨h1,h2,by rw[←hN i];exact h3,by rw[←hN i];exact h4,by rw[←hN i];exact h5,pc,mh,rfl,gC,tk',?_,rfl⟩
      rw[xk,Kz,ak rfl,ib]
      exact eS
    ·rintro ρ m ⟨h1,h2,h3,h4,h5,pc,mh,p8,og,tk,hA,rfl⟩
     rw[jb]at hA
     have Gy:(an.filter fun a=>dc w a st len)=uh w (w.rq req) st:=by rw[mq];rfl
     rw[Gy]at hA
     have dJ:(uh w (w.rq req) st).length≤6:=by
      rw[←Gy]
      have:=nu (fun a=>dc w a st len) an
      omega
     obtain⟨nd,rfl⟩:∃nd:Nat,need=nd:=⟨need.toNat,by omega⟩
     obtain⟨o6,e6,r6,h6⟩:∃o6 e6 r6,ρ 6=.slice o6 e6 r6:=by
      cases og with
      |none=>exact⟨_,_,_,hA.2⟩
      |some g=>exact⟨_,_,_,hA.2.1⟩
     have aP:=hA.close
     rw[h6]at aP
     have zA:∀r,au AP (.fn 35) [.slice o6 e6 r6,I (nd:Int)] ((base i).push r)=some (.fn 62 [] [.bg [I nd] 0,.bg [aU 1 ((uh w (w.rq req) st).map aB)] 0],(base i).push r):=fun r=>Sk aP ((h.ok i).push r)
     have KA:jJ w req st (hi-len+2-st).toNat=ni w req st++jJ w req (st+1) (hi-len+2-(st+1)).toNat:=by
      rw[show(hi-len+2-st).toNat=(hi-len+2-(st+1)).toNat+1 by omega];rfl
     have eL:ni w req st=(aV nd (uh w (w.rq req) st)).map fun g=>(⟨req,st,fB g⟩:P):=by
      have:(w.rq req).need=nd:=by rw[mq]
      rw[ni,this,CL]
     have fin:∀ρ':Nat→AV,ρ' 1=.bg [OW w] 0→ρ' 2=.bg [I req] 0→ρ' 3=.ptr N 0 0→ρ' 4=.ptr N 1 0→ρ' 5=.ptr N (junk.length+1+1) 0→ρ' 53=.fn 62 [] [.bg [I nd] 0,.bg [aU 1 ((uh w (w.rq req) st).map aB)] 0]→
       ∃b i',go AP JN (.c (.rangeFunc (.tmp 53) [54] kz kA)::.blk 4::.blk 1::.c AY::.lp wJ::[.blk 0]) ⟨ρ',(base i).push ⟨[.yield L]::[S bJ,I lo,I hi,I len,I val,.slice oa 1 (an.map aB),I nd]::(junk++[[I st]]),tk⟩⟩=some (.tuple [],base i')∧Ends Iv stop O done (dA w req) b i':=by
      intro ρ' g1 g2 g3 g4 g5 g53
      obtain⟨b,i',Pa,mZ⟩:=arD (F:=JN) (ks:=.blk 4::.blk 1::.c AY::.lp wJ::[.blk 0]) h (R:=⟨[.yield L]::[S bJ,I lo,I hi,I len,I val,.slice oa 1 (an.map aB),I nd]::(junk++[[I st]]),tk⟩) (ρ:=ρ') (req:=req) (st:=st) (k:=junk.length+1+1) (d0:=done++ql) (i:=i) (ready:=uh w (w.rq req) st) (need:=nd) (by omega) (by omega) (by omega) g2 g3 g5 g53 rfl (by simp) (by
       have hh:=gS List.length hits
       rw[KA,eL]at hh
       simp only[cu,bR]at hh⊢
       omega) hE.all (by
       intro g hg
       refine hX _ ?_
       rw[←hits,KA,eL]
       exact HM _ (oP _ (cz.2 ⟨g,hg,rfl⟩)))
      rw[mZ]
      rw[←eL]at Pa
      cases b with
      | false =>
       refine⟨false,i',?_,?_⟩
       ·simp only[go_sem,ez,simprocAttr]
       ·rw[←hits,KA,←gN]
        exact(hE.Ib Pa).TS _
      |true=>
       have Xy:=hN i'
       have W9:=g5
       rw[←Xy]at W9
       simp only[go_sem,AY,W9,h.ok i',ch (x:=st+1) (by omega) (by omega),simprocAttr]
       refine ih _ _ ?_
       refine⟨by omega,by omega,g1,g2,g3,g4,i',junk++[[I st]],tk,ql++ni w req st,?_,?_,?_,hE.Ib Pa⟩
       ·rw[←Xy];simp[put]
       ·simp
       ·rw[gN,←KA,hits]
     have BG:=h4
     rw[←hN i]at h4
     simp only[go_sem,DO,NV,h4,mh,p8,h6,bN,zA,simprocAttr]
     exact fin _ h1 h2 h3 BG h5 rfl
   rw[←hN i]at h4 h5
   simp only[go_sem,wJ,h4,h5,hd,ch (x:=st+len) (by omega) (by omega),ch (x:=st+len-1) (by omega) (by omega),simprocAttr]
   refine qm 0 _ _ (bp _) ?_
   exact⟨h1,h2,h3,by rw[←hN i];exact h4,by rw[←hN i];exact h5,rfl,rfl,rfl,none,tk,Acc.start,rfl⟩
  ·rintro st ρ m cp ⟨akB,zB,h1,h2,h3,h4,i,junk,tk,ql,h5,rfl,hits,hE⟩
   have hd:decide (st+len-1≤hi)=false:=bX (by omega)
   rw[←hN i]at h4 h5
   simp only[go_sem,wJ,h4,h5,hd,ch (x:=st+len) (by omega) (by omega),ch (x:=st+len-1) (by omega) (by omega),simprocAttr]
   refine⟨true,i,rfl,?_⟩
   rw[show(hi-len+2-st).toNat=0 by omega]at hits
   simp only[jJ,iG]at hits
   rw[←hits];exact hE
 have hcw:closeAll [OW w]=some [OW w]:=rfl
 rw[aM (show AP 102=some E4 from rfl) rfl]
 simp only[OW]
 simp only[go_sem,US,h.ok i,xZ,gj,simprocAttr]
 refine key lo _ _ ?_
 refine⟨Aj _,by omega,rfl,rfl,by rw[←hN i];rfl,by rw[←hN i];rfl,i,[],[],[],by rw[←hN i];rfl,rfl,?_,⟨rfl,by simpa using hI⟩⟩
 rw[dA,mq];rfl
theorem auf {i:Int} (hs:Ok s):au AP (.fn 85) [OW w,I i] s=some (.fn 102 [] [.bg [OW w] 0,.bg [I i] 0],s):=by
 rw[aM (show AP 85=some E3 from rfl) rfl]
 simp only[OW]
 simp only[go_sem,UR,simprocAttr]
end
end
def bS (w:W) (l:List P) (i:Int):List P:=(dA w i).filter fun x=>!cK w x l
theorem RO {w:W} {i:Int} {p:P}:∀{n:Nat} {st:Int},p∈jJ w i st n→∃t,st≤t∧t<st+n∧p∈ni w i t
 |0,_,h=>by simp[jJ]at h
 | n + 1, st, h => by
  simp only[jJ,dC]at h
  rcases h with h|h
  ·exact⟨st,Aj _,by omega,h⟩
  ·obtain⟨t,h1,h2,h3⟩:=RO h
   exact⟨t,by omega,by omega,h3⟩
theorem kg {w:W} (hw:Wk w) {i:Int} (h0:0≤i) (h1:i<w.rs.l.length) {p:P} (hp:p∈dA w i):bZ w p∧p.req=i∧(w.rq i).lo≤p.start∧p.start≤(w.rq i).hi-(w.rq i).len+1∧(p.an.l.length:Int)=(w.rq i).need∧p.an=fB p.an.l∧p.an.l.Sublist (w.rq i).an.l∧∀a∈p.an.l,dc w a p.start (w.rq i).len=true:=by
 have hq:=hw.rq h0 h1
 have iQ:=hw.v.n2
 obtain⟨t,h2,h3,h4⟩:=RO hp
 obtain⟨g,hg,rfl⟩:=cz.1 h4
 have hl:=qU hg
 have hs:=BE hg
 have xF:g.Sublist (w.rq i).an.l:=hs.trans Td
 have b1:=hq.sN
 have b2:=hq.bh
 have b3:=hq.rA
 have b4:=hq.qn
 have b5:=hq.K7
 have b6:=hq.K8
 have b7:=hw.tD.an _ (W.qB h0 h1)
 have lJ:(g.length:Int)=(w.rq i).need:=by omega
 refine⟨⟨h0,h1,by show 0≤t;omega,by show t≤200;omega,fun a ha=>hq.tq a (xF.subset ha),JG,by show(g.length:Int)<_;omega⟩,rfl,h2,by show t≤_;omega,lJ,rfl,xF,fun a ha=>?_⟩
 have:=hs.subset ha
 exact(eH.1 this).2
theorem xf:∀{k:Nat} {l:List Int},(aV k l).length≤2^l.length
 |0,l=>by simp[aV];exact Mq
 |k+1,[]=>by simp[aV]
 |k+1,x::r=>by
  have h1:=xf (k:=k) (l:=r)
  have h2:=xf (k:=k+1) (l:=r)
  simp only[aV,cu,bR,eo,Nat.pow_succ]
  omega
theorem aaG {w:W} {i:Int} {m:Nat} (h:∀st,(ni w i st).length≤m):∀{n:Nat} {st:Int},(jJ w i st n).length≤n*m
 |0,_=>by simp[jJ]
 |n+1,st=>by
  have h1:=h st
  have h2:=aaG h (n:=n) (st:=st+1)
  simp only[jJ,cu,gH]
  omega
theorem z7 {w:W} (hw:Wk w) {i:Int} (h0:0≤i) (h1:i<w.rs.l.length):(dA w i).length≤13000:=by
 have hq:=hw.rq h0 h1
 have iQ:=hw.v.n2
 have b1:=hq.sN
 have b2:=hq.bh
 have b3:=hq.rA
 have b4:=hq.qn
 have b7:=hw.tD.an _ (W.qB h0 h1)
 have:∀st,(ni w i st).length≤64:=fun st=>by
  rw[ni,bR]
  refine kt xf ?_
  have:(uh w (w.rq i) st).length≤6:=kt (nu _ _) b7
  calc 2^(uh w (w.rq i) st).length≤2^6:=gP (by decide) this
   _=64:=by decide
 have h2:=aaG this (n:=((w.rq i).hi-(w.rq i).len+2-(w.rq i).lo).toNat) (st:=(w.rq i).lo)
 have h3:((w.rq i).hi-(w.rq i).len+2-(w.rq i).lo).toNat≤201:=by omega
 have h4:=oQ 64 h3
 unfold dA
 omega
def cB (l:List P):List AV:=(l.map aj).flatten
theorem FH {p:P} {l:List P}:cB (p::l)=aj p++cB l:=by simp[cB]
theorem yY {a b:List P}:cB (a++b)=cB a++cB b:=by simp[cB]
theorem nC {l:List P}:(cB l).length=l.length*3:=by
 induction l with
 |nil=>rfl
 |cons p r ih=>rw[FH,cu,ih];simp only[aj,eo,ja];omega
theorem JW {l:List P} (h:∀p∈l,p.an.ok 1):closeAll (cB l)=some (cB l):=by
 induction l with
 |nil=>rfl
 |cons p r ih=>
  rw[FH]
  simp only[aj,l5,kq,mf,oV,Sl.close (f:=aB) (h p (by simp))]
  rw[ih fun q hq=>h q (iI _ hq)];rfl
theorem asz {p:P} (h:p.an.ok 1):(aj p).all AV.iU=true:=by
 simp only[aj,vZ,CM,Sl.iU (f:=aB) h,qD];rfl
def lZ (d b:Nat) (l:List P):AV:=if l=[]then .slice .aA 0 []else .aO d b 0 3 l.length 0
def uf (l:List P):List (List AV):=if l=[]then[]else[cB l]
section
variable{s:ae} {w:W}
def Mw (w:W) (pl:List P) (o:Own) (e d:Nat) (done:List P) (r:Rec):Prop:=
 ∃x,r.boxes[0]? =some [OW w]∧r.boxes[1]? =some [.slice o e (pl.map aj)]∧r.boxes[2]? =some [x]∧GX d 3 (cB (done.filter fun x=>!cK w x pl)) (done.filter fun x=>!cK w x pl).length x r.boxes∧∀b es n,x=.aO d b 0 es n 0→3≤b
theorem arp {X T:Rec→ae} {l d:Nat} {ρ:Nat→AV} {r:Rec} {p:P} {pl:List P} {done:List P} {o:Own} {e:Nat} (hM:gu X d) (hX:∀r,busy l (T r)=X r) (hR:∀r,l7 l ⟨true,none,ρ,[12],uR,uS⟩ (T r)) (bH:∀r,Ok (T r)) (hw:Wk w) (hp:bZ w p) (cI:∀x∈pl,bZ w x) (he:pl=[]∨e=3) (hn:(pl.length:Int)<9223372036854775808)
  (h3:ρ 3=.ptr d 0 0) (h4:ρ 4=.ptr d 1 0) (h7:ρ 7=.ptr d 2 0) (hd:done.length<1000000) (hI:Mw w pl o e d done r):
  ∃r',au AP (.yield l) [.agg (aj p)] (T r)=some (.v (.bool true),T r')∧Mw w pl o e d (done++[p]) r':=by
 obtain⟨x,b0,b1,b2,hG,GI⟩:=hI
 have mm:∀r ρ' q,ov l .normal ⟨ρ',(X r).push q⟩=some (.v (.bool true),T r):=fun r ρ' q=>by rw[←hX];exact JT (hR r)
 have xB:∀r,Ok (X r):=fun r=>by rw[←hX];exact(bH r).busy
 have Ka:∀r,(T r).ag.length=(X r).ag.length:=fun r=>by rw[←hX];rfl
 have k0:∀q,((X r).push q).box d 0=some [OW w]:=fun q=>by rw[hM.box,b0]
 have k1:∀q,((X r).push q).box d 1=some [.slice o e (pl.map aj)]:=fun q=>by rw[hM.box,b1]
 have k2:∀q,((X r).push q).box d 2=some [x]:=fun q=>by rw[hM.box,b2]
 have hc:∀q,au AP (.fn 86) [OW w,.agg (aj p),.slice o e (pl.map aj)] ((X r).push q)=some (B (cK w p pl),(X r).push q):=fun q=>SI ((xB r).push q) hw hp cI he hn
 have hlen:(done.filter fun x=>!cK w x pl).length≤done.length:=nu _ _
 have kW:kT 3 (aj p)=true:=rfl
 have tS:closeAll (aj p)=some (aj p):=by
  simp only[aj,mf,oq,oV,Sl.close hp.ok];rfl
 rw[Ju (hR r) rfl]
 cases dW:cK w p pl with
 | true =>
  rw[dW]at hc
  refine⟨r,?_,x,b0,b1,b2,?_,GI⟩
  ·simp only[aj,Sl.v]at hc⊢
   simp only[go_sem,uR,FG (hR r),bH r,Cv,simprocAttr]
   simp only[go_sem,uS,hX,Ka,h3,h4,k0,k1,hc,mm,simprocAttr]
  ·have:(done++[p]).filter (fun x=>!cK w x pl)=done.filter fun x=>!cK w x pl:=by rw[ns];simp[dW]
   rw[this];exact hG
 | false =>
  rw[dW]at hc
  have ri:rH ((X r).push ⟨[aj p],[]⟩) 3 (.agg (aj p))=some (.aO (X r).ag.length 1 0 3 1 1,(X r).push ⟨[aj p,aj p],[]⟩):=R6 kW (by decide)
  obtain⟨x',gv,tk',a1,a2,⟨a3,a4⟩,b',rfl,a5⟩:=hM.rU (r0:=⟨[aj p,aj p],[]⟩) (b0:=1) (c:=1) (p:=2) (q:=0) hG rfl rfl (asz hp.ok) nC (by omega)
  have Po:3≤r.boxes.length:=by have:=(bd.1 b2).1;omega
  have kp:∀j,j<3→gv[j]? =r.boxes[j]? :=fun j hj=>a4 j (by omega) fun es n e=>by have:=GI j es n e;omega
  have cp:=hM.atF (r:=⟨gv,tk'⟩) (r0:=⟨[aj p,aj p],[]⟩) (b:=2) (es:=3) (n:=(done.filter fun x=>!cK w x pl).length+1) ⟨b',rfl⟩ (c:=x) (by show gv[2]? =_;rw[kp 2 (by omega),b2])
  refine⟨⟨gv.set 2 [.aO d b' 0 3 ((done.filter fun x=>!cK w x pl).length+1) 0],tk'⟩,?_,.aO d b' 0 3 ((done.filter fun x=>!cK w x pl).length+1) 0,?_,?_,?_,?_⟩
  ·simp only[aj,Sl.v]at hc ri a1 cp tS⊢
   simp only[go_sem,uR,FG (hR r),bH r,Cv,simprocAttr]
   simp only[go_sem,uS,hX,Ka,h3,h4,h7,k0,k1,k2,hc,mm,ri,a1,cp,simprocAttr]
  ·show(gv.set 2 _)[0]? =_;rw[eP (by omega),kp 0 (by omega),b0]
  ·show(gv.set 2 _)[1]? =_;rw[eP (by omega),kp 1 (by omega),b1]
  ·show(gv.set 2 _)[2]? =_;rw[mL (by omega)]
  ·have hf:(done++[p]).filter (fun x=>!cK w x pl)=(done.filter fun x=>!cK w x pl)++[p]:=by rw[ns];simp[dW]
   rw[hf,yY,cu]
   refine⟨?_,fun b es n e=>?_⟩
   ·obtain⟨h,_⟩|⟨fJ,b2,gw,e⟩:=a2
    ·omega
    ·injection e with _ e
     subst e
     refine .inr ⟨by simp,b',?_,rfl⟩
     show(gv.set 2 _)[b']? =_
     rw[eP (by omega),gw]
     simp[cB]
   ·injection e with _ e;omega
abbrev Hf (s:ae) (ρ:Nat→AV) (r:Rec):ae:=enterLoop (s.push r) ⟨true,none,ρ,[12],uR,uS⟩
theorem aro {ρ:Nat→AV} {pl:List P} {o:Own} {e:Nat} (hs:Ok s) (hw:Wk w) (cI:∀x∈pl,bZ w x) (he:pl=[]∨e=3) (hn:(pl.length:Int)<9223372036854775808)
  (h3:ρ 3=.ptr s.ag.length 0 0) (h4:ρ 4=.ptr s.ag.length 1 0) (h7:ρ 7=.ptr s.ag.length 2 0):
  Hand AP s.loops.length (fun p=>.agg (aj p)) (Hf s ρ) (fun done r=>Mw w pl o e s.ag.length done r)
   (fun _ _=>false) (fun _ _ _=>False) (bZ w) (s.ag.length+1) (s.loops.length+1) 100000:=by
 refine⟨fun r=>(hs.push _).enter,fun r=>by simp[Hf,enterLoop,ae.push],fun r=>by simp[Hf,enterLoop,ae.push],?_,fun _ _ _ _ _ _ _ _ h=>by cases h⟩
 intro done p r B ls hd hI hp _
 have hM:gu (fun r=>up (busy s.loops.length (enterLoop (s.push r) ⟨true,none,ρ,[12],uR,uS⟩)) B ls) s.ag.length:=Ro hs
 have hX:∀r,busy s.loops.length (up (Hf s ρ r) B ls)=(fun r=>up (busy s.loops.length (enterLoop (s.push r) ⟨true,none,ρ,[12],uR,uS⟩)) B ls) r:=fun r=>SF (by simp[enterLoop,ae.push])
 exact arp (T:=fun r=>up (Hf s ρ r) B ls) hM hX (fun r=>SG (Oy (hs.push r))) (fun r=>((hs.push _).enter).up) hw hp cI he hn h3 h4 h7 (by omega) hI
theorem aue {Q:ae} {bx:List (List AV)} {tk:List (Option Nat)} {pl:List P} {o:Own} {e:Nat} {i:Int} (hQ:Ok Q) (hw:Wk w) (cI:∀x∈pl,bZ w x) (he:pl=[]∨e=3) (hn:(pl.length:Int)<9223372036854775808) (h0:0≤i) (h1:i<w.rs.l.length):
  au AP (.fn 54) [OW w,.slice o e (pl.map aj),I i] (Q.push ⟨bx,tk⟩)=some (lZ Q.ag.length bx.length (bS w pl i),Q.push ⟨bx++uf (bS w pl i),tk⟩):=by
 have hs:Ok (Q.push ⟨bx,tk⟩):=hQ.push _
 obtain⟨s,B5⟩:∃s,s=Q.push ⟨bx,tk⟩:=⟨_,rfl⟩
 have key:∀ρ:Nat→AV,ρ 3=.ptr s.ag.length 0 0→ρ 4=.ptr s.ag.length 1 0→ρ 7=.ptr s.ag.length 2 0→ρ 11=.fn 102 [] [.bg [OW w] 0,.bg [I i] 0]→
   go AP agC (.c (.rangeFunc (.tmp 11) [12] uR uS)::.blk 0::[.c Jb]) ⟨ρ,s.push ⟨[[OW w],[.slice o e (pl.map aj)],[.slice .aA 0 []]],[]⟩⟩=some (lZ Q.ag.length bx.length (bS w pl i),Q.push ⟨bx++uf (bS w pl i),tk⟩):=by
  intro ρ h3 h4 h7 fD
  obtain⟨b,r',hc,hE⟩:=arA (aro (by rw[B5];exact hs) hw cI he hn h3 h4 h7) hw h0 h1 (i:=⟨[[OW w],[.slice o e (pl.map aj)],[.slice .aA 0 []]],[]⟩) (done:=[]) (by have:=z7 hw h0 h1;simp;omega) ⟨_,rfl,rfl,rfl,.inl ⟨rfl,rfl,rfl⟩,fun _ _ _ e=>by cases e⟩ (fun p hp=>(kg hw h0 h1 hp).1)
  obtain⟨rfl,x,b0,b1,b2,hG,GI⟩:=hE.never (fun _ _=>rfl)
  rw[J1 (x:=.tmp 11) fD]
  refine(gS (Option.bind · _) hc).trans ?_
  simp only[et]
  refine(J0 (m:=s.push r') (lp:=⟨true,none,ρ,[12],uR,uS⟩) rfl rfl rfl).trans ?_
  obtain⟨Vh,tk'⟩:=r'
  simp only at b0 b1 b2 hG
  have hG:GX s.ag.length 3 (cB (bS w pl i)) (bS w pl i).length x Vh:=hG
  simp only[go_sem,Jb,h7,b2,simprocAttr]
  have bH:∀p∈bS w pl i,p.an.ok 1:=fun p hp=>((kg hw h0 h1 (eH.1 hp).1).1).ok
  obtain⟨g1,g2,rfl⟩|⟨g1,b,g2,rfl⟩:=hG
  ·have zp:bS w pl i=[]:=uE g1
   rw[zp,B5]
   simp only[lZ,uf,bP,iG]
   rw[aar,pop_push]
  ·have aD:bS w pl i≠[]:=fun e=>by rw[e]at g1;simp at g1
   simp only[lZ,uf,aq aD]
   rw[B5]
   exact aqX hQ g2 g1 nC (fun e=>by have:=nC (l:=bS w pl i);rw[e]at this;simp at this;omega) (JW bH)
 have hp:∀r,au AP (.fn 85) [OW w,I i] (s.push r)=some (.fn 102 [] [.bg [OW w] 0,.bg [I i] 0],s.push r):=fun r=>auf ((show Ok s by rw[B5];exact hs).push r)
 rw[←B5]
 have hsk:Ok s:=by rw[B5];exact hs
 rw[aM (show AP 54=some E2 from rfl) rfl]
 simp only[OW]at key hp⊢
 simp only[go_sem,UQ,hp,simprocAttr]
 exact key _ rfl rfl rfl rfl
end
def cr {α:Type} (e:Nat):List α→Sl α
 |[]=>⟨.aA,0,[]⟩
 |x::r=>⟨.any,e,x::r⟩
theorem qG {α:Type} {e:Nat} {f:α→List AV} {l:List α}:aU e (l.map f)=(cr e l).v f:=by cases l<;>rfl
theorem iJ {α:Type} {e:Nat} {l:List α}:(cr e l).l=l:=by cases l<;>rfl
theorem wj {α:Type} {e:Nat} {l:List α}:(cr e l).ok e:=by
 cases l with
 |nil=>exact⟨.inl rfl,.inr (.inr ⟨rfl,rfl⟩)⟩
 |cons a r=>exact⟨.inr rfl,.inl rfl⟩
abbrev fT (c:Sl P×Bool):List AV:=[c.1.v aj,B c.2]
attribute [go_sem] fT
abbrev CH (w:W) (o:Own) (e:Nat) (all:List (Sl P×Bool)):AV:=.agg [OW w,.slice o e (all.map fT)]
def pZ (w:W) (n:Nat):List (Sl P×Bool):=(List.range n).map fun i=>(cr 3 (bS w [] (i:Nat)),true)
def bf (w:W):List (Sl P×Bool):=pZ w w.rs.l.length
theorem ag9 {w:W} {n:Nat}:pZ w (n+1)=pZ w n++[(cr 3 (bS w [] (n:Nat)),true)]:=by
 simp[pZ,CS]
theorem OS {w:W} {n:Nat}:(pZ w n).length=n:=by simp[pZ]
theorem Acc.sl {d es:Nat} {xs:List (List AV)} {x:AV} {og:Option Nat} {toks:List (Option Nat)} (h:Acc d es xs x og toks):∃o e r,x=.slice o e r:=by
 cases og with
 |none=>exact⟨_,_,_,h.2⟩
 |some g=>exact⟨_,_,_,h.2.1⟩
def rI (w:W) (d:Nat) (bi:Nat→Nat) (n:Nat):List AV:=((List.range n).map fun i:Nat=>[lZ d (bi i) (bS w [] (i:Int)),B true]).flatten
theorem Sb {w:W} {d n:Nat} {bi:Nat→Nat}:rI w d bi (n+1)=rI w d bi n++[lZ d (bi n) (bS w [] (n:Int)),B true]:=by
 simp[rI,CS]
theorem R9 {w:W} {d:Nat} {bi:Nat→Nat}:∀{n:Nat},(rI w d bi n).length=n*2
 |0=>rfl
 |n+1=>by rw[Sb,cu,R9];simp;omega
theorem asC {w:W} {d n:Nat} {bi bj:Nat→Nat} (h:∀i,i<n→bi i=bj i):rI w d bi n=rI w d bj n:=by
 unfold rI
 congr 1
 refine Ap fun i hi=>?_
 rw[h i (oh.1 hi)]
structure HD (w:W) (d n0 n:Nat) (bi:Nat→Nat) (x:AV) (bs:List (List AV)):Prop where
 gx:GX d 2 (rI w d bi n) n x bs
 box:∀i:Nat,i<n→bS w [] (i:Int)≠[]→bs[bi i]? =some (cB (bS w [] (i:Int)))∧n0≤bi i
 inj:∀i j:Nat,i<j→j<n→bS w [] (i:Int)≠[]→bi i<bi j
 own:∀b es m,x=.aO d b 0 es m 0→n0≤b∧∀i:Nat,i<n→bS w [] (i:Int)≠[]→bi i≠b
theorem afC {s:ae} {bs:List (List AV)} {tk:List (Option Nat)} {b:Nat} {l:List P} (h:l≠[]→bs[b]? =some (cB l)) (hc:∀p∈l,p.an.ok 1):ou (s.push ⟨bs,tk⟩) (lZ s.ag.length b l)=some (aU 3 (l.map aj)):=by
 unfold lZ
 by_cases hl:l=[]
 ·rw[ak hl,hl];rfl
 ·rw[aq hl]
  have dX:=Fv (es:=3) (xs:=l.map aj) (fun r hr=>by obtain⟨p,_,rfl⟩:=cz.1 hr;rfl)
  rw[bR]at dX
  simp only[ou,fP,bP,iK,h hl,et,nC,fN,aH,JW hc,dE,ko]
  rw[show cB l=(l.map aj).flatten from rfl,dX]
  cases l with
  |nil=>exact absurd rfl hl
  |cons p r=>rfl
section
variable{s:ae} {w:W}
theorem Ln (hw:Wk w) {i:Nat} (hi:i<w.rs.l.length):∀p∈bS w [] (i:Int),p.an.ok 1:=fun p hp=>((kg hw (by omega) (by omega) (eH.1 hp).1).1).ok
theorem Wf (hw:Wk w) {bs:List (List AV)} {tk:List (Option Nat)} {bi:Nat→Nat}:∀{n:Nat},n≤w.rs.l.length→(∀i:Nat,i<n→bS w [] (i:Int)≠[]→bs[bi i]? =some (cB (bS w [] (i:Int))))→
  j8 (s.push ⟨bs,tk⟩) (rI w s.ag.length bi n)=some ((pZ w n).map fT).flatten
 |0,_,_=>rfl
 |n+1,hn,h=>by
  have hd:=afC (s:=s) (bs:=bs) (tk:=tk) (b:=bi n) (h n (by omega)) (Ln hw (i:=n) (by omega))
  rw[Sb,ag9,ib,List.flatten_append]
  refine Ow (Wf hw (by omega) fun i hi=>h i (by omega)) ?_
  have e2:ou (s.push ⟨bs,tk⟩) (B true)=some (B true):=rfl
  simp only[j8,hd,e2,qG,fT,iH,nw,s8,Te,iG]
theorem aoJ (hw:Wk w) {bs:List (List AV)} {tk:List (Option Nat)} {n0:Nat} {bi:Nat→Nat} {x:AV} (h:HD w s.ag.length n0 w.rs.l.length bi x bs):eF (s.push ⟨bs,tk⟩) x=some (aU 2 ((bf w).map fT)):=by
 obtain⟨g1,g2,rfl⟩|⟨g1,b,g2,rfl⟩:=h.gx
 ·unfold bf;rw[g1];rfl
 ·have dX:=Fv (es:=2) (xs:=(bf w).map fT) (fun r hr=>by obtain⟨p,_,rfl⟩:=cz.1 hr;rfl)
  have hlen:((bf w).map fT).length=w.rs.l.length:=by simp[bf,OS]
  rw[hlen]at dX
  have hd:=Wf (s:=s) hw (bs:=bs) (tk:=tk) (bi:=bi) (aH _) fun i hi aD=>(h.box i hi aD).1
  simp only[eF,fP,bP,iK,g2,et,R9,fN,aH,aak,hd,dE,ko]
  have aD:(bf w).map fT≠[]:=fun e=>by rw[e]at hlen;simp at hlen;omega
  rw[show((pZ w w.rs.l.length).map fT).flatten=((bf w).map fT).flatten from rfl,dX]
  cases hf:(bf w).map fT with
  |nil=>exact absurd hf aD
  |cons a r=>rfl
theorem W7 {F:cM→St→Option (AV×ae)} {bs:List (List AV)} {tk:List (Option Nat)} (hs:Ok s) (hw:Wk w):
  ∃ρ' gv tk' x bi,go AP F [.c NT] ⟨jQ [OW w],s.push ⟨bs,tk⟩⟩=F .ret ⟨ρ',s.push ⟨gv,tk'⟩⟩∧ρ' 2=.ptr s.ag.length bs.length 0∧gv[bs.length]? =some [OW w,x]∧HD w s.ag.length (bs.length+2) w.rs.l.length bi x gv∧∀j,j<bs.length→gv[j]? =bs[j]? :=by
 have dJ:=hw.v.rl
 have bq:(s.push ⟨bs,tk⟩).ro<(s.push ⟨bs,tk⟩).ag.length:=by have:=hs.ro;rw[MC];show s.ro<_;omega
 have oB:∀(bs:List (List AV)) (tk:List (Option Nat)) (i:Nat),i<w.rs.l.length→l9 (au AP) (s.push ⟨bs,tk⟩) 54 [OW w,.slice .aA 0 [],I i]=some (lZ s.ag.length bs.length (bS w [] (i:Int)),s.push ⟨bs++uf (bS w [] (i:Int)),tk⟩):=fun bs tk i hi=>by
  have bq:(s.push ⟨bs,tk⟩).ro<(s.push ⟨bs,tk⟩).ag.length:=by have:=hs.ro;rw[MC];show s.ro<_;omega
  have hp:=aue (Q:=dt (s.push ⟨bs,tk⟩)) (bx:=[]) (tk:=[]) (pl:=[]) (o:=.aA) (e:=0) (i:=(i:Int)) zW hw (by simp) (.inl rfl) (by simp) (by omega) (by omega)
  by_cases hl:bS w [] (i:Int)=[]
  ·rw[hl]at hp⊢
   simp only[lZ,uf,bP,iG]at hp⊢
   exact aez hp
  ·have zt:0<(bS w [] (i:Int)).length:=ye.2 hl
   simp only[lZ,uf,aq hl]at hp⊢
   exact aeA bq hp zt nC (fun e=>by have:=nC (l:=bS w [] (i:Int));rw[e]at this;simp at this;omega) (JW (Ln hw hi))
 have key : ∀ (j : Nat) ρ m, j ≤ w.rs.l.length → (ρ 0 = OW w ∧ ρ 2 = .ptr s.ag.length bs.length 0 ∧ ρ 3 = .ptr s.ag.length (bs.length + 1) 0 ∧ ρ 12 = I w.rs.l.length ∧ ρ 13 = I j ∧
   ∃hH nk x bi,m=s.push ⟨hH,nk⟩∧hH[bs.length]? =some [NP,.slice .aA 0 []]∧hH[bs.length+1]? =some [OW w,x]∧HD w s.ag.length (bs.length+2) j bi x hH∧∀j,j<bs.length→hH[j]? =bs[j]?)→
   ∃ρ' gv tk' x bi,go AP F (.c (.loop uQ)::KY) ⟨ρ,m⟩=F .ret ⟨ρ',s.push ⟨gv,tk'⟩⟩∧ρ' 2=.ptr s.ag.length bs.length 0∧gv[bs.length]? =some [OW w,x]∧HD w s.ag.length (bs.length+2) w.rs.l.length bi x gv∧∀j,j<bs.length→gv[j]? =bs[j]? :=by
  intro j
  obtain⟨k,hk⟩:∃k,k=w.rs.l.length-j:=⟨_,rfl⟩
  induction k generalizing j with
  | zero =>
   rintro ρ m hj ⟨h0,h2,h3,dv,oZ,hH,nk,x,bi,rfl,c0,c1,hF,zk⟩
   obtain rfl:j=w.rs.l.length:=by omega
   have nI:bs.length<hH.length:=(bd.1 c0).1
   have mZ:∃ρ1,go AP F (.c (.loop uQ)::KY) ⟨ρ,s.push ⟨hH,nk⟩⟩=F .ret ⟨ρ1,s.push ⟨hH.set bs.length [OW w,x],nk⟩⟩∧ρ1 2=.ptr s.ag.length bs.length 0:=by
    rw[go_loop]
    simp only[OW]at h0 c1⊢
    obtain⟨_,_,rfl⟩|⟨_,b,_,rfl⟩:=hF.gx
    ·simp only[go_sem,uQ,Ja,h2,h3,dv,oZ,hs,bN,c0,c1,simprocAttr]
     refine⟨_,rfl,?_⟩
     exact h2
    ·simp only[go_sem,uQ,Ja,h2,h3,dv,oZ,hs,bN,c0,c1,simprocAttr]
     refine⟨_,rfl,?_⟩
     exact h2
   obtain⟨ρ1,e1,e2⟩:=mZ
   refine⟨ρ1,hH.set bs.length [OW w,x],nk,x,bi,e1,e2,by simp[nI],⟨?_,fun i hi aD=>?_,hF.inj,hF.own⟩,fun q hq=>by rw[eP (by omega)];exact zk q hq⟩
   ·obtain⟨g1,g2,e⟩|⟨g1,b,g2,e⟩:=hF.gx
    ·exact .inl ⟨g1,g2,e⟩
    ·have:=(hF.own b _ _ e).1
     exact .inr ⟨g1,b,by rw[eP (by omega)];exact g2,e⟩
   ·obtain⟨q1,q2⟩:=hF.box i hi aD
    exact⟨by rw[eP (by omega)];exact q1,q2⟩
  | succ k ih =>
   rintro ρ m hj ⟨h0,h2,h3,dv,oZ,hH,nk,x,bi,rfl,c0,c1,hF,zk⟩
   have aC:j<w.rs.l.length:=by omega
   have oB:=oB hH nk j aC
   generalize hl:bS w [] (j:Int)=l at oB
   have QJ:lZ s.ag.length hH.length l=.slice .aA 0 []∨∃q,lZ s.ag.length hH.length l=.aO s.ag.length hH.length 0 3 q 0:=by
    unfold lZ;split
    ·exact .inl rfl
    ·exact .inr ⟨_,rfl⟩
   generalize hv:lZ s.ag.length hH.length l=v at oB QJ
   generalize BI:hH++uf l=iL at oB
   have ri:rH (s.push ⟨iL,nk⟩) 2 (.agg [v,B true])=some (.aO s.ag.length iL.length 0 2 1 1,s.push ⟨iL++[[v,B true]],nk⟩):=R6 (by obtain rfl|⟨q,rfl⟩:=QJ<;>rfl) (by decide)
   have av4:hH.length≤iL.length:=by rw[←BI,cu];omega
   have iP:∀q,q<hH.length→(iL++[[v,B true]])[q]? =hH[q]? :=fun q hq=>by rw[dM (by omega),←BI,dM hq]
   have Pb:GX s.ag.length 2 (rI w s.ag.length bi j) j x (iL++[[v,B true]]):=by
    obtain⟨g1,g2,e⟩|⟨g1,b,g2,e⟩:=hF.gx
    ·exact .inl ⟨g1,g2,e⟩
    ·exact .inr ⟨g1,b,by rw[iP b (bd.1 g2).1];exact g2,e⟩
   obtain⟨x',DW,SD,a1,a2,⟨a3,a4⟩,b',a5,rfl,a6⟩:=ac6 (p:=bs.length+1) (q:=1) (c:=1) (b0:=iL.length) (r2:=[v,B true]) (tk:=nk) hs Pb (by simp) rfl R9 (by omega)
   simp only[cu,eo,ja]at a6
   have eK:bs.length+1<hH.length:=(bd.1 c1).1
   have nN:∀q,q<hH.length→(q<bs.length+2∨∃i:Nat,i<j∧bS w [] (i:Int)≠[]∧q=bi i)→DW[q]? =hH[q]? :=fun q hq sy=>by
    rw[a4 q (by rw[cu];omega) (fun es n e=>?_),iP q hq]
    obtain⟨o1,o2⟩:=hF.own q es n e
    rcases sy with h|⟨i,hi,aD,rfl⟩
    ·omega
    ·exact o2 i hi aD rfl
   have A3:DW[bs.length+1]? =some [OW w,x]:=by rw[nN _ eK (.inl (by omega))];exact c1
   have c0':DW[bs.length]? =some [NP,.slice .aA 0 []]:=by rw[nN _ (by omega) (.inl (by omega))];exact c0
   have ajD:=(bd.1 A3).1
   have mZ:∃ρ1,go AP F (.c (.loop uQ)::KY) ⟨ρ,s.push ⟨hH,nk⟩⟩=go AP F (.c (.loop uQ)::KY) ⟨ρ1,s.push ⟨DW.set (bs.length+1) [OW w,.aO s.ag.length b' 0 2 (j+1) 0],SD⟩⟩∧ρ1 0=OW w∧ρ1 2=.ptr s.ag.length bs.length 0∧ρ1 3=.ptr s.ag.length (bs.length+1) 0∧ρ1 12=I w.rs.l.length∧ρ1 13=I ((j+1:Nat):Int):=by
    rw[go_loop]
    simp only[OW]at h0 oB c1 A3⊢
    obtain rfl|⟨q,rfl⟩:=QJ
    ·simp only[go_sem,uQ,h0,h3,dv,oZ,hs,aS aC,c1,oB,ri,a1,A3,bK aC (show(w.rs.l.length:Int)<_ by omega),simprocAttr]
     refine⟨_,rfl,?_⟩
     exact⟨h0,h2,h3,dv,rfl⟩
    ·simp only[go_sem,uQ,h0,h3,dv,oZ,hs,aS aC,c1,oB,ri,a1,A3,bK aC (show(w.rs.l.length:Int)<_ by omega),simprocAttr]
     refine⟨_,rfl,?_⟩
     exact⟨h0,h2,h3,dv,rfl⟩
   obtain⟨ρ1,e1,q0,q2,q3,q12,q13⟩:=mZ
   rw[e1]
   refine ih (j+1) (by omega) _ _ (by omega) ?_
   refine⟨q0,q2,q3,q12,q13,DW.set (bs.length+1) [OW w,.aO s.ag.length b' 0 2 (j+1) 0],SD,.aO s.ag.length b' 0 2 (j+1) 0,fun i=>if i=j then hH.length else bi i,rfl,?_,by simp[ajD],⟨?_,fun i hi aD=>?_,fun i q hiq hq aD=>?_,fun b es m e=>?_⟩,fun q hq=>?_⟩
   ·rw[eP (by omega)];exact c0'
   ·refine .inr ⟨by omega,b',?_,rfl⟩
    rw[eP (by omega),a5,Sb]
    rw[asC (bi:=fun i=>if i=j then hH.length else bi i) (bj:=bi) fun i hi=>aq (by omega)]
    simp only[bP,hl,hv]
   ·by_cases eD:i=j
    ·subst eD
     simp only[bP]
     rw[hl]at aD⊢
     refine⟨?_,by omega⟩
     rw[eP (by omega),a4 _ (by rw[cu,←BI,cu];simp only[uf,aq aD,eo,ja];omega) (fun es n e=>?_)]
     ·rw[←BI]
      simp[uf,aq aD]
     ·obtain⟨g1,g2,e2⟩|⟨g1,b,g2,e2⟩:=hF.gx
      ·rw[e2]at e;cases e
      ·rw[e2]at e
       injection e with _ e
       have:=(bd.1 g2).1
       omega
    ·simp only[aq eD]
     obtain⟨q1,q2⟩:=hF.box i (by omega) aD
     have PY:=(bd.1 q1).1
     refine⟨?_,q2⟩
     rw[eP (by omega),nN _ PY (.inr ⟨i,by omega,aD,rfl⟩)]
     exact q1
   ·have hi:i≠j:=by omega
    simp only[aq hi]
    by_cases Yu:q=j
    ·simp only[ak Yu]
     exact(bd.1 (hF.box i (by omega) aD).1).1
    ·simp only[aq Yu]
     exact hF.inj i q hiq (by omega) aD
   ·injection e with _ e
    refine⟨by omega,fun i hi aD=>?_⟩
    by_cases eD:i=j
    ·show(if i=j then hH.length else bi i)≠b
     rw[ak eD];omega
    ·show(if i=j then hH.length else bi i)≠b
     rw[aq eD]
     have:=(bd.1 (hF.box i (by omega) aD).1).1
     omega
   ·rw[eP (by omega),nN q (by omega) (.inl (by omega))]
    exact zk q hq
 simp only[OW]at key⊢
 simp only[go_sem,NT,hs,xZ,rB,simprocAttr]
 refine key 0 _ _ (bp _) ?_
 refine⟨rfl,rfl,rfl,rfl,rfl,_,tk,.slice .aA 0 [],fun _=>0,rfl,?_,?_,⟨.inl ⟨rfl,rfl,rfl⟩,fun i hi=>absurd hi (df _),fun i j _ hj=>absurd hj (df _),fun b es m e=>by cases e⟩,fun j hj=>?_⟩
 ·simp
 ·simp
 ·simp[dM hj]
theorem SJ (hs:Ok s) (hw:Wk w):au AP (.fn 28) [OW w] s=some (.agg [OW w,aU 2 ((bf w).map fT)],s):=by
 obtain⟨ρ',gv,tk',x,bi,h1,h2,h3,h4,_⟩:=W7 (F:=agB) (bs:=[]) (tk:=[]) hs hw
 rw[aM (show AP 28=some Be from rfl) rfl]
 rw[h1]
 have da:=aoJ (s:=s) (tk:=tk') hw h4
 have aP:=h4.gx.cell
 simp only[ja]at h2 h3
 simp only[OW,Sl.v]at h3⊢
 simp only[go_sem,h2,h3,da,Rc,simprocAttr]
end
theorem Jq {a:Nat} (h:a<2^63):(BitVec.ofInt 64 (a:Int)).toNat=a:=by
 have e:BitVec.ofInt 64 (a:Int)=BitVec.ofNat 64 a:=BitVec.ofInt_natCast ..
 rw[e,BitVec.toNat_ofNat]
 exact HX (Tw h (by decide))
theorem RG:(2:Nat)^63=9223372036854775808:=by decide
theorem TV {a b:Nat} (ha:a<2^63) (hb:b<2^63):dR .and (I (a:Int)) (I (b:Int))=some (I ((a&&&b:Nat):Int)):=by
 have h:((BitVec.ofInt 64 (a:Int)&&&BitVec.ofInt 64 (b:Int)).toNat:Int)=((a&&&b:Nat):Int):=by rw[BitVec.toNat_and,Jq ha,Jq hb]
 have hl:(a&&&b)≤a:=Nat.and_le_left
 rw[RG]at ha
 have hw:IntKind.i64.wrap ((a&&&b:Nat):Int)=((a&&&b:Nat):Int):=ch (by omega) (by omega)
 show Option.map AV.v (some (Value.int IntKind.i64 (IntKind.i64.wrap ((BitVec.ofInt 64 (a:Int)&&&BitVec.ofInt 64 (b:Int)).toNat:Int))))=_
 rw[h,hw];rfl
theorem Ie {a b:Nat} (ha:a<2^63) (hb:b<2^63):dR .or (I (a:Int)) (I (b:Int))=some (I ((a|||b:Nat):Int)):=by
 have h:((BitVec.ofInt 64 (a:Int)|||BitVec.ofInt 64 (b:Int)).toNat:Int)=((a|||b:Nat):Int):=by rw[BitVec.toNat_or,Jq ha,Jq hb]
 have hl:(a|||b)<2^63:=Nat.or_lt_two_pow ha hb
 rw[RG]at hl
 have hw:IntKind.i64.wrap ((a|||b:Nat):Int)=((a|||b:Nat):Int):=ch (by omega) (by omega)
 show Option.map AV.v (some (Value.int IntKind.i64 (IntKind.i64.wrap ((BitVec.ofInt 64 (a:Int)|||BitVec.ofInt 64 (b:Int)).toNat:Int))))=_
 rw[h,hw];rfl
theorem Ig {a k:Nat} (hk:k≤64):dR .shr (I (a:Int)) (I (k:Int))=some (I ((a/2^k:Nat):Int)):=by
 have h1:¬((k:Int)<0):=by omega
 have h2:min ((k:Int)).toNat IntKind.i64.bits=k:=by
  rw[CL];exact Nat.min_eq_left hk
 have h3:((a:Int)).fdiv (2^k)=((a/2^k:Nat):Int):=by
  rw[acm _ (Int.pow_nonneg (by decide))]
  rw[Int.natCast_ediv];simp
 show Option.map AV.v (uk .shr .i64 (a:Int) (k:Int))=_
 unfold uk
 rw[aq h1]
 simp only[h2,h3]
 rfl
theorem wC {k:Nat} (hk:k≤62):dR .shl (I 1) (I (k:Int))=some (I ((2^k:Nat):Int)):=by
 have h1:¬((k:Int)<0):=by omega
 have h2:min ((k:Int)).toNat IntKind.i64.bits=k:=by
  rw[CL];exact Nat.min_eq_left (by show k≤64;omega)
 have h3:((1:Int)*2^k)=(((2:Nat)^k:Nat):Int):=by simp
 have h4:(2:Nat)^k<9223372036854775808:=by rw[←RG];exact CU (by decide) (by omega)
 generalize(2:Nat)^k=q at*
 show Option.map AV.v (uk .shl .i64 1 (k:Int))=_
 unfold uk
 rw[aq h1]
 simp only[h2,h3]
 rw[ch (by omega) (by omega)]
 rfl
theorem TW {a:Nat} (ha:a<2^63):dR .and (I (a:Int)) (I 1)=some (I ((a%2:Nat):Int)):=by
 have:=TV (a:=a) (b:=1) ha (by decide)
 rw[Nat.and_one_is_mod]at this;exact this
def pF (m n:Nat):List Int:=((List.range n).filter fun i=>m.testBit i).map fun i:Nat=>(i:Int)
def dm (m:Nat):List Int:=pF m 62
theorem Rn {m n:Nat}:pF m (n+1)=pF m n++if m.testBit n=true then[(n:Int)]else[]:=by
 simp only[pF,CS,ns,ib,L6,Am]
 cases m.testBit n<;>simp
theorem Rm {m n:Nat}:(pF m n).length≤n:=by
 simp only[pF,bR]
 have:=nu (fun i=>m.testBit i) (List.range n)
 simpa using this
theorem ZH {m n k:Nat} (h:m/2^n=0) (hk:n≤k):pF m k=pF m n:=by
 induction k with
 |zero=>have:n=0:=(by omega);subst this;rfl
 | succ k ih =>
  by_cases e:n=k+1
  ·rw[e]
  ·rw[Rn,ih (by omega)]
   have aC:m<2^n:=by
    have:=Nat.div_eq_zero_iff.1 h
    rcases this with h|h
    ·exact absurd h (Nat.ne_of_gt (Nat.two_pow_pos n))
    ·exact h
   have:m.testBit k=false:=H0 (l6 aC (gP (by decide) (by omega)))
   rw[this];simp
theorem apn {m:Nat} {i:Int} (h:i∈dm m):0≤i∧i<62∧m.testBit i.toNat=true:=by
 obtain⟨k,hk,rfl⟩:=cz.1 h
 obtain⟨h1,h2⟩:=eH.1 hk
 have:=oh.1 h1
 exact⟨by omega,by omega,by simpa using h2⟩
theorem zP {m n:Nat} (h:m<2^n) {i:Int} (hi:i∈dm m):0≤i∧i<n:=by
 obtain⟨h1,_,h2⟩:=apn hi
 refine⟨h1,?_⟩
 apply n6
 intro hc
 have:m.testBit i.toNat=false:=H0 (l6 h (gP (by decide) (by omega)))
 rw[this]at h2;cases h2
section
variable{s:ae} {w:W}
theorem as1 {r:R} (hs:Ok s) (h1:-1000≤r.lo) (h2:r.lo≤1000) (h3:-1000≤r.hi) (h4:r.hi≤1000) (h5:-1000≤r.len) (h6:r.len≤1000):au AP (.fn 52) [.agg (bO r)] s=some (B (decide (8<r.hi-r.lo+2-r.len)),s):=by
 rw[aM (show AP 52=some EH from rfl) rfl]
 simp only[go_sem,UA,ch (x:=r.hi-r.lo) (by omega) (by omega),ch (x:=r.hi-r.lo+2) (by omega) (by omega),ch (x:=r.hi-r.lo+2-r.len) (by omega) (by omega),simprocAttr]
def uo (w:W):Bool:=decide (w.rs.l.length≤6)&&!w.rs.l.any fun r=>decide (8<r.hi-r.lo+2-r.len)
theorem Lz {w:W} (hs:Ok s) (hw:w.Ok) (hf:w.ju):au AP (.fn 27) [w.v] s=some (.tuple [if(de w).2.2=0 then OW w else NP,I (if(de w).2.2=0 then(cond (uo w) 0 8)else(de w).2.2)],s):=by
 by_cases he:(de w).2.2=0
 ·have ho:∀r,au AP (.fn 51) [w.v] (s.push r)=some (.tuple [OW w,I 0],s.push r):=fun r=>abe (hs.push r) hw hf he
  have hv:=pL he
  have dW:∀r,au AP (.fn 53) [.slice w.rs.o w.rs.e (w.rs.l.map bO),.fn 52 [] []] (s.push r)=some (B (w.rs.l.any fun r=>decide (8<r.hi-r.lo+2-r.len)),s.push r):=fun r=>
   auA hw.rs.1 (by have:=hv.rl;omega) fun a ha r q=>by
    have:=hv.r a ha
    have h1:=this.sN
    have h2:=this.Cg
    have h3:=this.bh
    have h4:=this.rA
    have h5:=this.qn
    have h6:=hv.n2
    exact as1 (((hs.push _).push _).push _) (by omega) (by omega) (by omega) (by omega) (by omega) (by omega)
  have h6:decide ((w.rs.l.length:Int)≤6)=decide (w.rs.l.length≤6):=by
   by_cases h:w.rs.l.length≤6
   ·rw[bM h,bM (by omega)]
   ·rw[bX h,bX (by omega)]
  rw[ak he,ak he]
  rw[aM (show AP 27=some Bc from rfl) rfl]
  simp only[W.v,cJ,Sl.v]at ho
  simp only[OW]at ho⊢
  simp only[go_sem,NG,ho,bn,eW,dW,lk,h6,uo,simprocAttr]
 ·have ho:∀r,au AP (.fn 51) [w.v] (s.push r)=some (.tuple [NP,I (de w).2.2],s.push r):=fun r=>abf (hs.push r) hw hf he
  rw[aq he,aq he]
  rw[aM (show AP 27=some Bc from rfl) rfl]
  simp only[W.v,cJ,Sl.v]at ho
  simp only[go_sem,NG,ho,bn,he,iC,simprocAttr]
theorem Ly {m:Nat} (hm:m<2^62) (hs:Ok s):au AP (.fn 34) [I (m:Int)] s=some (aU 1 ((dm m).map aB),s):=by
 have PZ:m<2^63:=Tw hm (by decide)
 have key:∀(j:Nat) ρ x,j≤62→(ρ 0=I (m:Int)∧ρ 4=I j∧∃og tk,Acc s.ag.length 1 ((pF m j).map aB) (ρ 3) og tk∧x=s.push ⟨[],tk⟩)→go AP WG (.c (.loop yv)::Zc) ⟨ρ,x⟩=some (aU 1 ((dm m).map aB),s):=by
  have stop:∀(j:Nat) (ρ:Nat→AV) (x:ae),m/2^j=0→j≤62→(ρ 0=I (m:Int)∧ρ 4=I j∧∃og tk,Acc s.ag.length 1 ((pF m j).map aB) (ρ 3) og tk∧x=s.push ⟨[],tk⟩)→
    go AP WG (.c yv::.lp yv::Zc) ⟨ρ,x⟩=some (aU 1 ((dm m).map aB),s):=by
   rintro j ρ x h0 hj ⟨g0,g4,og,tk,hA,rfl⟩
   have e:dm m=pF m j:=ZH h0 hj
   simp only[go_sem,yv,NC,g0,g4,Ig (a:=m) (k:=j) (by omega),h0,hA.leave,cQ,simprocAttr]
   rw[e]
  refine cq 62 _ _ ?_ ?_
  ·rintro j ρ x hj hP ih
   by_cases h0:m/2^j=0
   ·exact stop j ρ x h0 (by omega) hP
   ·obtain⟨g0,g4,og,tk,hA,rfl⟩:=hP
    have hd:decide ((0:Int)<((m/2^j:Nat):Int))=true:=bM (by generalize m/2^j=q at*;omega)
    have aC:m/2^j<2^63:=Nat.lt_of_le_of_lt (Nat.div_le_self _ _) PZ
    have hand:=TW (a:=m/2^j) aC
    have hw:=bK hj (show((62:Nat):Int)<_ by decide)
    have ht:decide (((m/2^j%2:Nat):Int)=1)=m.testBit j:=by
     rw[acy]
     generalize m/2^j=q at*
     by_cases h:q%2=1
     ·rw[bM h,bM (by omega)]
     ·rw[bX h,bX (by omega)]
    have hl:=Rm (m:=m) (n:=j)
    cases hb:m.testBit j with
    |false=>
     rw[hb]at ht
     simp only[go_sem,yv,g0,g4,Ig (a:=m) (k:=j) (by omega),hd,hand,ht,hw,simprocAttr]
     refine ih _ _ ?_
     refine⟨g0,rfl,og,tk,?_,rfl⟩
     rw[Rn,hb,aq (by simp),iG];exact hA
    |true=>
     rw[hb]at ht
     obtain⟨x',gC,tk',c9,eS,_⟩:=hA.append hs .full (ys:=[[I (j:Int)]]) (by simp) (by simp;omega)
     simp only[go_sem,yv,g0,g4,Ig (a:=m) (k:=j) (by omega),hd,hand,ht,c9,hw,simprocAttr]
     refine ih _ _ ?_
     refine⟨g0,rfl,gC,tk',?_,rfl⟩
     rw[Rn,hb,ak rfl,ib];exact eS
  ·rintro ρ x hP
   exact stop 62 ρ x (Mk hm) (aH _) hP
 rw[aM (show AP 34=some EF from rfl) rfl]
 simp only[go_sem,Uz,simprocAttr]
 refine key 0 _ _ (bp _) ?_
 exact⟨rfl,rfl,none,[],Acc.start,rfl⟩
def nW (w:W):List Int→Int
 |[]=>0
 |i::r=>(w.rq i).val+nW w r
theorem abH {w:W}:∀{l r:List Int},nW w (l++r)=nW w l+nW w r
 |[],r=>by simp[nW]
 |i::l,r=>by simp only[l5,nW,abH];omega
theorem Hs (hw:Wk w):∀{l:List Int},(∀i∈l,0≤i∧i<w.rs.l.length)→0≤nW w l∧nW w l≤100000*l.length
 |[],_=>by simp[nW]
 |i::l,h=>by
  have h1:=Hs hw (l:=l) fun j hj=>h j (iI _ hj)
  have h2:=h i (CP ..)
  have h3:=hw.rq h2.1 h2.2
  have:=h3.LU
  have:=h3.LV
  simp only[nW,eo];omega
def jt (w:W) (m:Nat):Int:=nW w (dm m)
structure sX (w:W) (e:Nat) (all:List (Sl P×Bool)):Prop where
 e:all=[]∨e=2
 len:all.length=w.rs.l.length
 ok:∀c∈all,c.1.ok 3
 cnt:∀c∈all,c.1.l.length≤13000
 iD:∀c∈all,∀p∈c.1.l,bZ w p
 req:∀(i:Nat) (c:Sl P×Bool),all[i]? =some c→∀p∈c.1.l,p.req=i
theorem ZJ {m:Nat}:(dm m).length≤62:=Rm
theorem aen {o:Own} {e:Nat} {all:List (Sl P×Bool)} {m:Nat} (hs:Ok s) (hw:Wk w) (hm:m<2^w.rs.l.length):au AP (.fn 55) [CH w o e all,I (m:Int)] s=some (I (jt w m),s):=by
 have dJ:=hw.v.rl
 have oG:m<2^62:=l6 hm (gP (by decide) (by omega))
 have bh:∀i∈dm m,0≤i∧i<w.rs.l.length:=fun i hi=>zP hm hi
 have P2:=ZJ (m:=m)
 have key:∀(j:Nat) ρ x,j≤(dm m).length→(ρ 2=.ptr s.ag.length 0 0∧ρ 5=I (nW w ((dm m).take j))∧ρ 9=aU 1 ((dm m).map aB)∧ρ 10=I (dm m).length∧ρ 11=I j∧x=s.push ⟨[[OW w,.slice o e (all.map fT)]],[]⟩)→go AP agj (.c (.loop Is)::ang) ⟨ρ,x⟩=some (I (jt w m),s):=by
  refine cq (dm m).length _ _ ?_ ?_
  ·rintro j ρ x hj ⟨h2,h5,h9,du,fD,rfl⟩ ih
   obtain⟨i,hi⟩:=get_some hj
   have zj:=bh i (bU hi)
   have hr:=GY (es:=1) (xs:=(dm m).map aB) (k:=j) (row:=aB i) (by rw[gX,hi];rfl)
   have hb:=Hs hw (l:=(dm m).take j) fun a ha=>bh a (td ha)
   have hq:=hw.rq zj.1 zj.2
   have q0:=hq.LU
   have q1:=hq.LV
   have hl:((dm m).take j).length≤62:=by rw[fc];omega
   simp only[OW]
   simp only[go_sem,Is,h2,h5,h9,du,fD,aS hj,hr,xZ,rz hw zj.1 zj.2,ch (x:=nW w ((dm m).take j)+(w.rq i).val) (by omega) (by omega),bK hj (show((dm m).length:Int)<_ by omega),simprocAttr]
   refine ih _ _ ?_
   refine⟨h2,?_,h9,du,rfl,rfl⟩
   rw[fF hi,abH];simp[nW,put]
  ·rintro ρ x ⟨h2,h5,h9,du,fD,rfl⟩
   rw[jb]at h5
   simp only[go_sem,Is,MW,h5,du,fD,bN,simprocAttr]
   rfl
 have P0:∀r,au AP (.fn 34) [I (m:Int)] (s.push r)=some (aU 1 ((dm m).map aB),s.push r):=fun r=>Ly oG (hs.push r)
 rw[aM (show AP 55=some D7 from rfl) rfl]
 simp only[OW]at key⊢
 simp only[go_sem,Uc,P0,simprocAttr]
 refine key 0 _ _ (bp _) ?_
 exact⟨rfl,rfl,rfl,rfl,rfl,rfl⟩
def ub (m:Nat):Nat→List (Sl P×Bool)→Bool
 |_,[]=>true
 |k,c::r=>(c.2||m.testBit k)&&ub m (k+1) r
def pI (all:List (Sl P×Bool)) (m:Nat):Bool:=ub m 0 all
theorem arh {m k:Nat} {all:List (Sl P×Bool)} {c:Sl P×Bool} (h:all[k]? =some c):ub m k (all.drop k)=((c.2||m.testBit k)&&ub m (k+1) (all.drop (k+1))):=by
 rw[eR h];rfl
theorem ael {o:Own} {e:Nat} {all:List (Sl P×Bool)} {m:Nat} (hs:Ok s) (he:all=[]∨e=2) (hl:all.length≤12) (hm:m<2^62):au AP (.fn 56) [CH w o e all,I (m:Int)] s=some (B (pI all m),s):=by
 have PZ:m<2^63:=Tw hm (by decide)
 have key:∀(j:Nat) ρ x,j≤all.length→(ρ 1=I (m:Int)∧ρ 8=.slice o e (all.map fT)∧ρ 9=I all.length∧ρ 10=I j∧∃bx,x=s.push ⟨bx,[]⟩)→go AP agi (.c (.loop Ip)::anc) ⟨ρ,x⟩=some (B (ub m j (all.drop j)),s):=by
  refine cq all.length _ _ ?_ ?_
  ·rintro j ρ x hj ⟨h1,h8,h9,du,bx,rfl⟩ ih
   obtain⟨c,hc⟩:=get_some hj
   have kV:e=2:=by rcases he with h|h;(rw[h]at hc;simp at hc);exact h
   subst kV
   have hr:=cD (f:=fT) (o:=o) (es:=2) hc
   have aC:m/2^j<2^63:=Nat.lt_of_le_of_lt (Nat.div_le_self _ _) PZ
   have ht:decide (((m/2^j%2:Nat):Int)=0)=!m.testBit j:=by
    rw[acy]
    generalize m/2^j=q at*
    by_cases h:q%2=1
    ·rw[bM h,bX (by omega)];rfl
    ·rw[bX h,bM (by omega)];rfl
   rw[arh hc]
   simp only[go_sem,Ip,h1,h8,h9,du,hs,aS hj,hr,Ig (a:=m) (k:=j) (by omega),TW aC,ht,bK hj (show(all.length:Int)<_ by omega),simprocAttr]
   cases gI:c.2<;>cases hb:m.testBit j<;>simp only[go_sem,nY,nZ,Bool.or_true,Ag,simprocAttr]<;>first
    |rfl
    |(refine ih _ _ ?_;exact⟨h1,h8,h9,rfl,_,rfl⟩)
  ·rintro ρ x ⟨h1,h8,h9,du,bx,rfl⟩
   simp only[go_sem,Ip,MU,h9,du,bN,simprocAttr]
   rw[eZ];rfl
 rw[aM (show AP 56=some D5 from rfl) rfl]
 simp only[CH,OW]
 simp only[go_sem,Ub,simprocAttr]
 refine key 0 _ _ (bp _) ?_
 exact⟨rfl,rfl,rfl,rfl,_,rfl⟩
def wo (w:W) (p:P) (l:List P):List P:=l.filter fun x=>!cS w x p
theorem ab1 {l:List P} {p:P} {o:Own} {e:Nat} (hs:Ok s) (hw:Wk w) (he:l=[]∨e=3) (hl:l.length≤13000) (bh:∀x∈l,bZ w x) (hp:bZ w p):au AP (.fn 69) [OW w,.slice o e (l.map aj),.agg (aj p)] s=some (aU 3 ((wo w p l).map aj),s):=by
 have key:∀(j:Nat) ρ x,j≤l.length→(ρ 0=OW w∧ρ 5=.ptr s.ag.length 0 0∧ρ 10=.slice o e (l.map aj)∧ρ 11=I l.length∧ρ 12=I j∧∃og tk bx,Acc s.ag.length 3 ((wo w p (l.take j)).map aj) (ρ 7) og tk∧x=s.push ⟨aj p::bx,tk⟩)→go AP agD (.c (.loop DP)::an8) ⟨ρ,x⟩=some (aU 3 ((wo w p l).map aj),s):=by
  refine cq l.length _ _ ?_ ?_
  ·rintro j ρ x hj ⟨h0,h5,du,fD,dv,og,tk,bx,hA,rfl⟩ ih
   obtain⟨y,hy⟩:=get_some hj
   have B8:=bh y (bU hy)
   have oD:e=3:=by rcases he with h|h;(rw[h]at hy;simp at hy);exact h
   subst oD
   have hr:=cD (f:=aj) (o:=o) (es:=3) hy
   have dW:∀r,au AP (.fn 93) [OW w,.agg (aj y),.agg (aj p)] (s.push r)=some (B (cS w y p),s.push r):=fun r=>abZ (hs.push r) hw B8 hp
   have aP:closeAll (aj y)=some (aj y):=by
    simp only[aj,mf,oq,oV,Sl.close B8.ok];rfl
   have xk:wo w p (l.take (j+1))=wo w p (l.take j)++if cS w y p=true then[]else[y]:=by
    unfold wo
    rw[fF hy,ns];cases h:cS w y p<;>simp[h]
   have aR:(wo w p (l.take j)).length≤13000:=by
    have:=nu (fun x=>!cS w x p) (l.take j)
    rw[fc]at this;unfold wo;omega
   simp only[aj,Sl.v]at dW aP
   cases hc:cS w y p with
   |true=>
    rw[hc]at dW
    simp only[go_sem,DP,h0,h5,du,fD,dv,hs,aS hj,hr,dW,bK hj (show(l.length:Int)<_ by omega),simprocAttr]
    refine ih _ _ ?_
    refine⟨h0,h5,du,fD,rfl,og,tk,_,?_,rfl⟩
    rw[xk,hc,ak rfl,iG];exact hA
   |false=>
    rw[hc]at dW
    obtain⟨x',gC,tk',c9,eS,_⟩:=hA.append hs .full (ys:=[aj y]) (by simp) (by simp;omega)
    simp only[aj,Sl.v]at c9
    simp only[go_sem,DP,h0,h5,du,fD,dv,hs,aS hj,hr,dW,aP,c9,bK hj (show(l.length:Int)<_ by omega),simprocAttr]
    refine ih _ _ ?_
    refine⟨h0,h5,du,fD,rfl,gC,tk',_,?_,rfl⟩
    rw[xk,hc,aq (by simp),ib];exact eS
  ·rintro ρ x ⟨h0,h5,du,fD,dv,og,tk,bx,hA,rfl⟩
   rw[jb]at hA
   simp only[go_sem,DP,NW,fD,dv,bN,hA.leave,simprocAttr]
 rw[aM (show AP 69=some E6 from rfl) rfl]
 simp only[go_sem,UU,simprocAttr]
 refine key 0 _ _ (bp _) ?_
 exact⟨rfl,rfl,rfl,rfl,rfl,none,[],[],Acc.start,rfl⟩
theorem as4 {p:P} {i:Int} {d b:Nat} (hs:Ok s) (hb:s.box d b=some [I i]):au AP (.fn 91) [.agg (aj p),.ptr d b 0] s=some (B (decide (p.req=i)),s):=by
 rw[aM (show AP 91=some EJ from rfl) rfl]
 simp only[go_sem,UB,fO hb,simprocAttr]
def aL (l:List P) (i:Int):Option P:=l.find? fun x=>decide (x.req=i)
def bY:P:=⟨0,0,⟨.aA,0,[]⟩⟩
theorem u5 {α:Type} {p:α→Bool}:∀{l:List α},(l.find? p=none∧dF p l=-1)∨∃(k:Nat) (x:α),l.find? p=some x∧l[k]? =some x∧dF p l=k
 |[]=>.inl ⟨rfl,rfl⟩
 | a :: r => by
  cases h:p a with
  |true=>exact .inr ⟨0,a,by simp[h],rfl,by simp[dF,h]⟩
  |false=>
   rcases u5 (p:=p) (l:=r)with⟨h1,h2⟩|⟨k,x,h1,h2,h3⟩
   ·exact .inl ⟨by simp[h,h1],by simp[dF,h,h2]⟩
   ·exact .inr ⟨k+1,x,by simp[h,h1],by simpa using h2,by simp only[dF,h,h3,ez,db];rw[aq (by omega)];simp⟩
theorem LA {l:List P} {i:Int} {o:Own} {e:Nat} (hs:Ok s) (he:l=[]∨e=3) (hn:(l.length:Int)<9223372036854775808) (bH:∀p∈l,p.an.ok 1):
  au AP (.fn 65) [.slice o e (l.map aj),I i] s=some (.tuple [.agg (aj ((aL l i).getD bY)),B (aL l i).isSome],s):=by
 have dW:∀b,au AP (.fn 90) [.slice o e (l.map aj),.fn 91 [] [.ptr s.ag.length 0 0]] (s.push ⟨[I i]::b,[]⟩)=some (I (dF (fun x=>decide (x.req=i)) l),s.push ⟨[I i]::b,[]⟩):=fun b=>
  SR he hn fun a ha r=>as4 ((hs.push _).push _) (fO Oa _)
 rw[aM (show AP 65=some EI from rfl) rfl]
 rcases u5 (p:=fun x:P=>decide (x.req=i)) (l:=l)with⟨h1,h2⟩|⟨k,x,h1,h2,h3⟩
 ·rw[h2]at dW
  have hp:aL l i=none:=h1
  simp only[go_sem,NI,hs,dW,hp,simprocAttr]
  rfl
 ·rw[h3]at dW
  have hp:aL l i=some x:=h1
  have hd:decide ((k:Int)<0)=false:=bX (by omega)
  have oD:e=3:=by rcases he with h|h;(rw[h]at h2;simp at h2);exact h
  subst oD
  have hr:=cD (f:=aj) (o:=o) (es:=3) h2
  have da:=Sl.Ce (f:=aB) (m:=s.push ⟨[[I i],aj x],[]⟩) (bH x (bU h2))
  simp only[aj,Sl.v]at da
  simp only[go_sem,NI,hs,dW,hp,hd,hr,da,simprocAttr]
  rfl
def xW (l:List (List P)):Nat→Nat→Nat
 |0,b=>b
 |n+1,b=>let k:=l.length-(n+1);xW l n (if(l.getD k []).length<(l.getD b []).length then k else b)
def fU (l:List (List P)):Nat:=xW l l.length 0
theorem abt {l:List (List P)}:∀{n b:Nat},n≤l.length→b<l.length→xW l n b<l.length
 |0,b,_,hb=>hb
 |n+1,b,hn,hb=>by
  simp only[xW]
  refine abt (by omega) ?_
  split<;>omega
theorem Sq {l:List (List P)} (h:l≠[]):fU l<l.length:=abt (aH _) (ye.2 h)
def pY (w:W):Nat→List (List P)→Bool
 |0,_=>true
 |n+1,l=>(l.getD (fU l) []).any fun p=>pY w n ((l.eraseIdx (fU l)).map (wo w p))
def fit (w:W) (l:List (List P)):Bool:=pY w l.length l
abbrev kh (x:Sl P):List AV:=[x.v aj]
attribute [go_sem] kh
structure Au (w:W) (l:List (Sl P)):Prop where
 len:l.length≤12
 ok:∀x∈l,x.ok 3
 cnt:∀x∈l,x.l.length≤13000
 iD:∀x∈l,∀p∈x.l,bZ w p
theorem getD_map {l:List (Sl P)} {k:Nat} {x:Sl P} (h:l[k]? =some x):(l.map (·.l)).getD k []=x.l:=by
 simp[List.getD,gX,h]
end
theorem af4 {α:Type} {l:List α} {j s:Nat} {x:α} (h:l[j]? =some x):(l.take (j+1)).eraseIdx s=(l.take j).eraseIdx s++if j=s then[]else[x]:=by
 have hj:=(bd.1 h).1
 have hl:(l.take j).length=j:=by rw[fc];omega
 rw[fF h]
 by_cases h1:s<j
 ·rw[List.eraseIdx_append_of_lt_length (by omega),aq (by omega)]
 ·rw[List.eraseIdx_append_of_length_le (by omega),hl,List.eraseIdx_of_length_le (l:=l.take j) (by omega)]
  by_cases h2:j=s
  ·subst h2;simp
  ·rw[aq h2]
   obtain⟨d,hd⟩:∃d,s-j=d+1:=⟨s-j-1,by omega⟩
   rw[hd];rfl
theorem ab5 {w:W} {p:P} {l:List P}:(wo w p l).length≤l.length:=nu _ _
theorem ab6 {w:W} {p x:P} {l:List P} (h:x∈wo w p l):x∈l:=(eH.1 h).1
def lj (w:W) (p:P) (l:List (Sl P)):List (Sl P):=l.map fun x=>cr 3 (wo w p x.l)
theorem asu {w:W} {p:P} {l:List (Sl P)}:(lj w p l).map (·.l)=(l.map (·.l)).map (wo w p):=by
 simp[lj,iJ,S0]
theorem Wo {α β:Type} {f:α→β}:∀{l:List α} {i:Nat},(l.map f).eraseIdx i=(l.eraseIdx i).map f
 |[],_=>rfl
 |a::l,0=>rfl
 |a::l,i+1=>by simp only[iH,List.eraseIdx_cons_succ,Wo (l:=l)]
section
variable{s:ae} {w:W}
theorem Au.rest {l:List (Sl P)} {i:Nat} {p:P} (h:Au w l):Au w (lj w p (l.eraseIdx i)):=by
 have hm:∀x∈l.eraseIdx i,x∈l:=fun x hx=>Tk hx
 refine⟨?_,fun y hy=>?_,fun y hy=>?_,fun y hy q hq=>?_⟩
 ·have:=acs l i
  have:=h.len
  simp[lj];omega
 all_goals
  obtain⟨x,hx,rfl⟩:=cz.1 hy
 ·exact wj
 ·rw[iJ];exact kt ab5 (h.cnt x (hm x hx))
 ·rw[iJ]at hq;exact h.iD x (hm x hx) q (ab6 hq)
theorem auc (hw:Wk w):∀(n:Nat) (s:ae) (l:List (Sl P)) (o:Own) (e:Nat),Ok s→l.length=n→(l=[]∨e=1)→Au w l→au AP (.fn 70) [OW w,.slice o e (l.map kh)] s=some (B (fit w (l.map (·.l))),s):=by
 intro n
 induction n with
 |zero=>
  intro s l o e hs hn he hl
  have:l=[]:=uE hn
  subst this
  rw[aM (show AP 70=some Bd from rfl) rfl]
  simp only[go_sem,NO,cQ,simprocAttr]
  rfl
 | succ n QS =>
  intro s l o e hs hn he hl
  have aD:l≠[]:=by intro h;rw[h]at hn;simp at hn
  have nJ:e=1:=by rcases he with h|h;exact absurd h aD;exact h
  subst nJ
  have hlen:=hl.len
  generalize hL:l.map (·.l)=L
  have J8:L.length=l.length:=by rw[←hL];simp
  have aiw:L≠[]:=by intro h;rw[h]at J8;simp at J8;omega
  have jC:=Sq aiw
  obtain⟨ys,kZ⟩:=get_some (l:=l) (k:=fU L) (by omega)
  have QN:=bU kZ
  have hyL:L.getD (fU L) []=ys.l:=by rw[←hL]at*;exact getD_map kZ
  have oK:=hl.cnt ys QN
  have hyp:=hl.iD ys QN
  have rr:=hl.ok ys QN
  have kW:fit w L=ys.l.any fun p=>pY w n ((L.eraseIdx (fU L)).map (wo w p)):=by
   unfold fit
   rw[J8,hn,pY,hyL]
  rw[kW]
  have sM : ∀ (j : Nat) ρ x, j ≤ ys.l.length → (ρ 0 = OW w ∧ ρ 1 = .slice o 1 (l.map kh) ∧ ρ 5 = I (fU L) ∧ ρ 36 = ys.v aj ∧ ρ 37 = I ys.l.length ∧ ρ 38 = I j ∧ ∃ bx tk, x = s.push ⟨bx, tk⟩) →
    go AP OG (.c (.loop DL)::an3) ⟨ρ,x⟩=some (B ((ys.l.drop j).any fun p=>pY w n ((L.eraseIdx (fU L)).map (wo w p))),s):=by
   refine cq ys.l.length _ _ ?_ ?_
   ·rintro j ρ x hj ⟨h0,h1,h5,mU,mV,va,bx,tk,rfl⟩ ih
    obtain⟨p,hp⟩:=get_some hj
    have iR:=hyp p (bU hp)
    have hr:=Sl.ix (f:=aj) rr hp
    have gj:∀x:Sl P,lj w p [x]=[cr 3 (wo w p x.l)]:=fun _=>rfl
    have qm:∀(q:Nat) ρ x,q≤l.length→(ρ 0=OW w∧ρ 1=.slice o 1 (l.map kh)∧ρ 5=I (fU L)∧ρ 9=.ptr s.ag.length bx.length 0∧ρ 36=ys.v aj∧ρ 37=I ys.l.length∧ρ 38=I j∧ρ 42=.slice o 1 (l.map kh)∧ρ 43=I l.length∧ρ 44=I q∧
      ∃og tk,Acc s.ag.length 1 ((lj w p ((l.take q).eraseIdx (fU L))).map kh) (ρ 10) og tk∧x=s.push ⟨bx++[aj p],tk⟩)→
      go AP OG (.c (.loop DM)::an4) ⟨ρ,x⟩=some (B ((ys.l.drop j).any fun p=>pY w n ((L.eraseIdx (fU L)).map (wo w p))),s):=by
     refine cq l.length _ _ ?_ ?_
     ·rintro q ρ x hq ⟨h0,h1,h5,h9,mU,mV,va,kD,mj,ox,og,tk,hA,rfl⟩ fS
      obtain⟨y,hy⟩:=get_some hq
      have B8:=bU hy
      have hr:=cD (f:=kh) (o:=o) (es:=1) hy
      have qY:=hl.cnt y B8
      have nR:∀r,au AP (.fn 69) [OW w,.slice y.o y.e (y.l.map aj),.agg (aj p)] (s.push r)=some (aU 3 ((wo w p y.l).map aj),s.push r):=fun r=>ab1 (hs.push r) hw (hl.ok y B8).1 qY (hl.iD y B8) iR
      have aP:=Sl.close (f:=aj) (wj (e:=3) (l:=wo w p y.l))
      have XT:=af4 (s:=fU L) hy
      have hle:(lj w p ((l.take q).eraseIdx (fU L))).length≤12:=by
       have h1:=acs (l.take q) (fU L)
       rw[fc]at h1
       simp[lj];omega
      by_cases Yv:q=fU L
      ·have hd:decide ((q:Int)=(fU L:Int))=true:=bM (by omega)
       simp only[go_sem,DM,h5,kD,mj,ox,aS hq,hr,bn,r7,hd,bK hq (show(l.length:Int)<_ by omega),simprocAttr]
       refine fS _ _ ?_
       refine⟨h0,h1,h5,h9,mU,mV,va,kD,mj,rfl,og,tk,?_,rfl⟩
       rw[XT,ak Yv,iG];exact hA
      ·have hd:decide ((q:Int)=(fU L:Int))=false:=bX (by omega)
       obtain⟨x',gC,tk',c9,eS,_⟩:=hA.append hs .full (ys:=[kh (cr 3 (wo w p y.l))]) (by simp) (by simp;omega)
       simp only[kh,qG,Sl.v]at c9 nR aP
       simp only[aj,Sl.v]at nR
       simp only[go_sem,DM,h0,h5,h9,kD,mj,ox,aS hq,hr,bn,r7,hd,nR,aP,c9,bK hq (show(l.length:Int)<_ by omega),simprocAttr]
       refine fS _ _ ?_
       refine⟨h0,h1,h5,h9,mU,mV,va,kD,mj,rfl,gC,tk',?_,rfl⟩
       have:lj w p ((l.take q).eraseIdx (fU L)++[y])=lj w p ((l.take q).eraseIdx (fU L))++[cr 3 (wo w p y.l)]:=by simp[lj]
       rw[XT,aq Yv,this,ib];exact eS
     ·rintro ρ x ⟨h0,h1,h5,h9,mU,mV,va,kD,mj,ox,og,tk,hA,rfl⟩
      rw[jb]at hA
      have aj2:Au w (lj w p (l.eraseIdx (fU L))):=hl.rest
      have xv:(lj w p (l.eraseIdx (fU L))).length=n:=by
       simp only[lj,bR]
       rw[Mc (by omega)];omega
      obtain⟨o',e',hx,ji⟩:∃o' e',ρ 10=.slice o' e' ((lj w p (l.eraseIdx (fU L))).map kh)∧(lj w p (l.eraseIdx (fU L))=[]∨e'=1):=by
       cases og with
       |none=>obtain⟨h1,h2⟩:=hA;exact⟨_,_,by rw[h2,h1],.inl (by simpa using h1)⟩
       |some g=>exact⟨_,_,hA.2.1,.inr rfl⟩
      have xD:∀r,au AP (.fn 70) [OW w,.slice o' e' ((lj w p (l.eraseIdx (fU L))).map kh)] (s.push r)=some (B (pY w n ((L.eraseIdx (fU L)).map (wo w p))),s.push r):=fun r=>by
       rw[QS (s.push r) (lj w p (l.eraseIdx (fU L))) o' e' (hs.push r) xv ji aj2,fit,asu,←hL,←Wo,bR,Mc (by rw[hL];omega),bR,hn]
       rfl
      rw[eR hp,nr]
      simp only[go_sem,DM,NR,NQ,h0,mj,ox,va,bN,hx,xD,simprocAttr]
      cases pY w n ((L.eraseIdx (fU L)).map (wo w p))with
      |true=>simp only[go_sem,simprocAttr];rfl
      |false=>
       simp only[go_sem,bK hj (show(ys.l.length:Int)<_ by omega),simprocAttr]
       refine(ih _ _ ?_).trans (by simp)
       exact⟨h0,h1,h5,mU,mV,rfl,_,_,rfl⟩
    simp only[go_sem,DL,h1,mU,mV,va,hs,aS hj,hr,simprocAttr]
    refine qm 0 _ _ (bp _) ?_
    exact⟨h0,h1,h5,rfl,mU,mV,va,rfl,rfl,rfl,none,tk,by rw[show lj w p ((l.take 0).eraseIdx (fU L))=[]by simp[lj]];exact Acc.start,rfl⟩
   ·rintro ρ x ⟨h0,h1,h5,mU,mV,va,bx,tk,rfl⟩
    simp only[go_sem,DL,I9,mV,va,bN,simprocAttr]
    rw[eZ];rfl
  have ksh:∀(j:Nat) ρ x,j≤l.length→(ρ 0=OW w∧ρ 1=.slice o 1 (l.map kh)∧ρ 16=.slice o 1 (l.map kh)∧ρ 17=I l.length∧ρ 18=I j∧(∃b:Nat,ρ 5=I b∧b<l.length∧xW L (l.length-j) b=fU L)∧x=s.push ⟨[],[]⟩)→
    go AP OG (.c (.loop DN)::an5) ⟨ρ,x⟩=some (B (ys.l.any fun p=>pY w n ((L.eraseIdx (fU L)).map (wo w p))),s):=by
   refine cq l.length _ _ ?_ ?_
   ·rintro j ρ x hj ⟨h0,h1,ow,mS,fZ,⟨b,h5,hb,tW⟩,rfl⟩ ih
    obtain⟨y,hy⟩:=get_some hj
    obtain⟨z,hz⟩:=get_some hb
    have hr:=cD (f:=kh) (o:=o) (es:=1) hy
    have iA:=cD (f:=kh) (o:=o) (es:=1) hz
    have jR:L.getD j []=y.l:=by rw[←hL];exact getD_map hy
    have hgz:L.getD b []=z.l:=by rw[←hL];exact getD_map hz
    have cp:xW L (l.length-j) b=xW L (l.length-(j+1)) (if y.l.length<z.l.length then j else b):=by
     obtain⟨d,hd⟩:∃d,l.length-j=d+1:=⟨l.length-j-1,by omega⟩
     rw[hd,xW]
     rw[show L.length-(d+1)=j by omega,jR,hgz,show l.length-(j+1)=d by omega]
    rw[cp]at tW
    by_cases aC:y.l.length<z.l.length
    ·have hd:decide ((y.l.length:Int)<(z.l.length:Int))=true:=bM (by omega)
     rw[ak aC]at tW
     simp only[go_sem,DN,h1,h5,ow,mS,fZ,aS hj,hr,iA,hd,bK hj (show(l.length:Int)<_ by omega),simprocAttr]
     refine ih _ _ ?_
     exact⟨h0,h1,ow,mS,rfl,⟨j,rfl,hj,tW⟩,rfl⟩
    ·have hd:decide ((y.l.length:Int)<(z.l.length:Int))=false:=bX (by omega)
     rw[aq aC]at tW
     simp only[go_sem,DN,h1,h5,ow,mS,fZ,aS hj,hr,iA,hd,bK hj (show(l.length:Int)<_ by omega),simprocAttr]
     refine ih _ _ ?_
     exact⟨h0,h1,ow,mS,rfl,⟨b,h5,hb,tW⟩,rfl⟩
   ·rintro ρ x ⟨h0,h1,ow,mS,fZ,⟨b,h5,hb,tW⟩,rfl⟩
    rw[HZ]at tW
    have tM:b=fU L:=tW
    subst tM
    have hr:=cD (f:=kh) (o:=o) (es:=1) kZ
    simp only[go_sem,DN,NS,h1,h5,mS,fZ,bN,hr,simprocAttr]
    refine sM 0 _ _ (bp _) ?_
    exact⟨h0,h1,h5,rfl,rfl,rfl,[],[],rfl⟩
  have hd:decide ((l.length:Int)=0)=false:=bX (by omega)
  rw[aM (show AP 70=some Bd from rfl) rfl]
  simp only[go_sem,NO,hd,simprocAttr]
  refine ksh 0 _ _ (bp _) ?_
  exact⟨rfl,rfl,rfl,rfl,rfl,⟨0,rfl,by omega,by rw[Tz,←J8];rfl⟩,rfl⟩
instance : Inhabited (Sl P×Bool):=⟨(⟨.aA,0,[]⟩,false)⟩
def jM (w:W) (plan:List P) (x:Sl P):Sl P:=plan.foldl (fun x p=>cr 3 (wo w p x.l)) x
def mC (w:W) (all:List (Sl P×Bool)) (plan:List P) (l:List Int):List (Sl P):=(l.filter fun i=>(aL plan i).isNone).map fun i=>jM w plan (all.getD i.toNat default).1
def c8 (w:W) (all:List (Sl P×Bool)) (plan:List P) (m:Nat):Bool:=fit w ((mC w all plan (dm m)).map (·.l))
theorem aun {plan:List P} {x:Sl P} {q:Nat} {p:P} (h:plan[q]? =some p):jM w (plan.take (q+1)) x=cr 3 (wo w p (jM w (plan.take q) x).l):=by
 rw[jM,fF h,HG];rfl
theorem SO {x:Sl P} (hx:x.ok 3) (hc:x.l.length≤13000) (hp:∀p∈x.l,bZ w p):∀{plan:List P},(jM w plan x).ok 3∧(jM w plan x).l.length≤13000∧∀p∈(jM w plan x).l,bZ w p:=by
 intro plan
 induction plan generalizing x with
 |nil=>exact⟨hx,hc,hp⟩
 |cons a r ih=>exact ih (x:=cr 3 (wo w a x.l)) wj (by rw[iJ];exact kt ab5 hc) (fun p h=>by rw[iJ]at h;exact hp p (ab6 h))
theorem ap3 {all:List (Sl P×Bool)} {plan:List P} {l:List Int} {j:Nat} {i:Int} (h:l[j]? =some i):mC w all plan (l.take (j+1))=mC w all plan (l.take j)++if(aL plan i).isSome=true then[]else[jM w plan (all.getD i.toNat default).1]:=by
 unfold mC
 rw[fF h,ns,ib]
 cases hp:aL plan i<;>simp[hp]
theorem sX.get {e:Nat} {all:List (Sl P×Bool)} (h:sX w e all) {i:Int} (h0:0≤i) (h1:i<w.rs.l.length):∃c,all[i.toNat]? =some c∧all.getD i.toNat default=c∧c∈all:=by
 have hl:=h.len
 obtain⟨c,hc⟩:=get_some (l:=all) (k:=i.toNat) (by omega)
 exact⟨c,hc,by simp[List.getD,hc],bU hc⟩
theorem Js {o o2:Own} {e e2:Nat} {all:List (Sl P×Bool)} {plan:List P} {m:Nat} (hs:Ok s) (hw:Wk w) (iq:sX w e all) (hm:m<2^w.rs.l.length) (hp:∀p∈plan,bZ w p) (kV:plan=[]∨e2=3) (cI:plan.length≤14):
  au AP (.fn 40) [CH w o e all,.slice o2 e2 (plan.map aj),I (m:Int)] s=some (B (c8 w all plan m),s):=by
 have dJ:=hw.v.rl
 have oG:m<2^62:=l6 hm (gP (by decide) (by omega))
 have bh:∀i∈dm m,0≤i∧i<w.rs.l.length:=fun i hi=>zP hm hi
 have P2:=ZJ (m:=m)
 have aj7:∀j,(mC w all plan ((dm m).take j)).length≤62:=fun j=>by
  have:=nu (fun i=>(aL plan i).isNone) ((dm m).take j)
  rw[fc]at this
  simp only[mC,bR];omega
 have av7:(dm m).length≤12:=by
  have e:dm m=pF m w.rs.l.length:=ZH (Mk hm) (by omega)
  have:=Rm (m:=m) (n:=w.rs.l.length)
  rw[e];omega
 have hLs:Au w (mC w all plan (dm m)):=by
  refine⟨?_,?_,?_,?_⟩
  ·have:=nu (fun i=>(aL plan i).isNone) (dm m)
   simp only[mC,bR];omega
  all_goals
   intro x hx
   obtain⟨i,hi,rfl⟩:=cz.1 hx
   have bG:=bh i (eH.1 hi).1
   obtain⟨c,ef,gI,oA⟩:=iq.get bG.1 bG.2
   rw[gI]
   have:=SO (w:=w) (iq.ok c oA) (iq.cnt c oA) (iq.iD c oA) (plan:=plan)
  ·exact this.1
  ·exact this.2.1
  ·exact this.2.2
 have sM : ∀ (j : Nat) ρ x, j ≤ (dm m).length → (ρ 1 = .slice o2 e2 (plan.map aj) ∧ ρ 3 = .ptr s.ag.length 0 0 ∧ ρ 16 = aU 1 ((dm m).map aB) ∧ ρ 17 = I (dm m).length ∧ ρ 18 = I j ∧
   ∃og tk bx,Acc s.ag.length 1 ((mC w all plan ((dm m).take j)).map kh) (ρ 7) og tk∧x=s.push ⟨[OW w,.slice o e (all.map fT)]::bx,tk⟩)→go AP Wr (.c (.loop AH)::ana) ⟨ρ,x⟩=some (B (c8 w all plan m),s):=by
  refine cq (dm m).length _ _ ?_ ?_
  ·rintro j ρ x hj ⟨h1,h3,ow,mS,fZ,og,tk,bx,hA,rfl⟩ ih
   obtain⟨i,hi⟩:=get_some hj
   have zj:=bh i (bU hi)
   have hr:=GY (es:=1) (xs:=(dm m).map aB) (k:=j) (row:=aB i) (by rw[gX,hi];rfl)
   obtain⟨c,ef,gI,oA⟩:=iq.get zj.1 zj.2
   have ji:e=2:=by rcases iq.e with h|h;(rw[h]at ef;simp at ef);exact h
   subst ji
   have kX:=cD (f:=fT) (o:=o) (es:=2) ef
   rw[show((i.toNat:Nat):Int)=i by omega]at kX
   have dP:∀r,au AP (.fn 65) [.slice o2 e2 (plan.map aj),I i] (s.push r)=some (.tuple [.agg (aj ((aL plan i).getD bY)),B (aL plan i).isSome],s.push r):=fun r=>LA (hs.push r) kV (by omega) fun p h=>(hp p h).ok
   have Qf:=ap3 (w:=w) (all:=all) (plan:=plan) hi
   rw[gI]at Qf
   have YL:=bK hj (show((dm m).length:Int)<_ by omega)
   simp only[aj,Sl.v]at dP
   cases KJ:(aL plan i).isSome with
   |true=>
    rw[KJ]at dP
    simp only[go_sem,AH,Io,h1,ow,mS,fZ,hs,aS hj,hr,dP,YL,simprocAttr]
    refine ih _ _ ?_
    refine⟨h1,h3,ow,mS,rfl,og,tk,_,?_,rfl⟩
    rw[Qf,KJ,ak rfl,iG];exact hA
   | false =>
    rw[KJ]at dP
    have qm:∀(q:Nat) ρ x,q≤plan.length→(ρ 1=.slice o2 e2 (plan.map aj)∧ρ 3=.ptr s.ag.length 0 0∧ρ 12=(jM w (plan.take q) c.1).v aj∧ρ 16=aU 1 ((dm m).map aB)∧ρ 17=I (dm m).length∧ρ 18=I j∧ρ 35=.slice o2 e2 (plan.map aj)∧ρ 36=I plan.length∧ρ 37=I q∧
      ∃og tk bx,Acc s.ag.length 1 ((mC w all plan ((dm m).take j)).map kh) (ρ 7) og tk∧x=s.push ⟨[OW w,.slice o 2 (all.map fT)]::bx,tk⟩)→go AP Wr (.c (.loop Il)::anb) ⟨ρ,x⟩=some (B (c8 w all plan m),s):=by
     refine cq plan.length _ _ ?_ ?_
     ·rintro q ρ x hq ⟨h1,h3,dv,ow,mS,fZ,p8,mU,mV,og,tk,bx,hA,rfl⟩ fS
      obtain⟨p,vy⟩:=get_some hq
      have iR:=hp p (bU vy)
      have oD:e2=3:=by rcases kV with h|h;(rw[h]at vy;simp at vy);exact h
      subst oD
      have hr:=cD (f:=aj) (o:=o2) (es:=3) vy
      have bW:=SO (w:=w) (iq.ok c oA) (iq.cnt c oA) (iq.iD c oA) (plan:=plan.take q)
      have nR:∀r,au AP (.fn 69) [OW w,(jM w (plan.take q) c.1).v aj,.agg (aj p)] (s.push r)=some (aU 3 ((wo w p (jM w (plan.take q) c.1).l).map aj),s.push r):=fun r=>ab1 (hs.push r) hw bW.1.1 bW.2.1 bW.2.2 iR
      simp only[aj]at nR
      simp only[go_sem,Il,h3,dv,p8,mU,mV,hs,aS hq,hr,nR,bK hq (show(plan.length:Int)<_ by omega),simprocAttr]
      refine fS _ _ ?_
      refine⟨h1,h3,?_,ow,mS,fZ,p8,mU,rfl,og,tk,_,hA,rfl⟩
      rw[aun vy,←qG];rfl
     ·rintro ρ x ⟨h1,h3,dv,ow,mS,fZ,p8,mU,mV,og,tk,bx,hA,rfl⟩
      rw[jb]at dv
      have bW:=SO (w:=w) (iq.ok c oA) (iq.cnt c oA) (iq.iD c oA) (plan:=plan)
      have aP:=Sl.close (f:=aj) bW.1
      obtain⟨x',gC,tk',c9,eS,_⟩:=hA.append hs .full (ys:=[kh (jM w plan c.1)]) (by simp) (by have:=aj7 j;simp;omega)
      simp only[kh,Sl.v]at c9 dv aP
      simp only[go_sem,Il,MT,Io,dv,fZ,mU,mV,bN,aP,c9,YL,simprocAttr]
      refine ih _ _ ?_
      refine⟨h1,h3,ow,mS,rfl,gC,tk',_,?_,rfl⟩
      rw[Qf,KJ,aq (by simp),ib];exact eS
    simp only[go_sem,AH,h1,h3,ow,mS,fZ,hs,aS hj,hr,dP,kX,simprocAttr]
    refine qm 0 _ _ (bp _) ?_
    exact⟨h1,h3,rfl,ow,mS,fZ,rfl,rfl,rfl,og,tk,_,hA,rfl⟩
  ·rintro ρ x ⟨h1,h3,ow,mS,fZ,og,tk,bx,hA,rfl⟩
   rw[jb]at hA
   obtain⟨o',e',hx,ji⟩:∃o' e',ρ 7=.slice o' e' ((mC w all plan (dm m)).map kh)∧(mC w all plan (dm m)=[]∨e'=1):=by
    cases og with
    |none=>obtain⟨h1,h2⟩:=hA;exact⟨_,_,by rw[h2,h1],.inl (by simpa using h1)⟩
    |some g=>exact⟨_,_,hA.2.1,.inr rfl⟩
   have xD:∀r,au AP (.fn 70) [OW w,.slice o' e' ((mC w all plan (dm m)).map kh)] (s.push r)=some (B (c8 w all plan m),s.push r):=fun r=>auc hw _ _ _ _ _ (hs.push r) rfl ji hLs
   simp only[go_sem,AH,Im,h3,mS,fZ,bN,hx,xD,simprocAttr]
 have P0:∀r,au AP (.fn 34) [I (m:Int)] (s.push r)=some (aU 1 ((dm m).map aB),s.push r):=fun r=>Ly oG (hs.push r)
 rw[aM (show AP 40=some D4 from rfl) rfl]
 simp only[CH,OW]at sM⊢
 simp only[go_sem,Ua,P0,simprocAttr]
 refine sM 0 _ _ (bp _) ?_
 exact⟨rfl,rfl,rfl,rfl,rfl,none,[],[],Acc.start,rfl⟩
end
end Go.Ax.Sx.Sc
