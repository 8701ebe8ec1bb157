/-
  The opened week: a row of 803 cells.
-/
import Derived.Test.YtjgbdhjcpcmajaaGreatDoorT6
import Derived.Test.YtjgbdhjcpcmajaaGreatDoorT5
set_option linter.unusedSimpArgs false
set_option linter.unusedVariables false
set_option maxRecDepth 100000
namespace Go.Ax.Sx.Sc
open Go.Ax
section
variable{s:ae}
theorem vA {a b c:Int}:aw AP (.fn 57) [I a,I b,I c] s=some (B (wi a b c),s):=by
 rw[aL (show AP 57=some EA from rfl) rfl]
 simp only[go_sem,TT,simprocAttr]
 unfold wi
 cases decide (b≤a)<;>cases decide (a≤c)<;>rfl
theorem lH {c:Bool} {e:Int}:aw AP (.fn 55) [B c,I e] s=some (I (cond c 0 e),s):=by
 rw[aL (show AP 55=some Ez from rfl) rfl]
 simp only[go_sem,TS,simprocAttr]
 cases c<;>rfl
theorem Rl {l:List Int} {o:Own} (hl:(l.length:Int)<9223372036854775808):aw AP (.fn 29) [.slice o 1 (ints l)] s=some (I (dk l),s):=by
 have key:∀k ρ m,k≤l.length→(ρ 5=.slice o 1 (ints l)∧ρ 6=I l.length∧ρ 7=I k∧m=s.push ⟨[],[]⟩)→go AP afL (.c (.loop ID)::ank) ⟨ρ,m⟩=some (I (dk (l.drop k)),s):=by
  refine ck l.length _ _ ?_ ?_
  ·rintro k ρ m hk ⟨h5,h6,h7,rfl⟩ ih
   obtain⟨x,hx⟩:=get_some hk
   have hr:=GB (o:=o) (es:=1) (akN hx)
   simp only[go_sem,ID,h5,h6,h7,aS hk,hr,bK hk hl,simprocAttr]
   rw[eP hx]
   by_cases h0:x=0
   ·subst h0
    simp only[aY,eA,qs,iy]
    refine(ih _ _ ?_).trans rfl
    exact⟨h5,h6,rfl,rfl⟩
   ·simp only[aY,h0,ig,oJ,fZ,dk,cE]
  ·rintro ρ m ⟨h5,h6,h7,rfl⟩
   simp only[go_sem,ID,MT,h6,h7,bM,simprocAttr]
   rw[eR];rfl
 rw[aL (show AP 29=some El from rfl) rfl]
 simp only[go_sem,TI,akO,simprocAttr]
 exact key 0 _ _ (bg _) ⟨rfl,rfl,rfl,rfl⟩
theorem mS {a b:Int}:aw AP (.fn 29) [.slice .full 1 [[I a],[I b]]] s=some (I (dk [a,b]),s):=Rl (l:=[a,b]) (show(2:Int)<_ by decide)
theorem ash {a b c:Int}:aw AP (.fn 29) [.slice .full 1 [[I a],[I b],[I c]]] s=some (I (dk [a,b,c]),s):=Rl (l:=[a,b,c]) (show(3:Int)<_ by decide)
theorem asi {a b c d:Int}:aw AP (.fn 29) [.slice .full 1 [[I a],[I b],[I c],[I d]]] s=some (I (dk [a,b,c,d]),s):=Rl (l:=[a,b,c,d]) (show(4:Int)<_ by decide)
theorem YV {k:Nat} {l:List UInt8} {c:UInt8} (h:l[k]? =some c):qY k (l.drop k)=(nameAt k c&&qY (k+1) (l.drop (k+1))):=by
 rw[eP h];rfl
theorem YU {k:Nat} {c:UInt8}:nameAt k c=((decide ((97:Int)≤(c.toNat:Int))&&decide ((c.toNat:Int)≤122))||(decide ((65:Int)≤(c.toNat:Int))&&decide ((c.toNat:Int)≤90))||(!decide ((k:Int)=0)&&(decide ((c.toNat:Int)=45)||(decide ((48:Int)≤(c.toNat:Int))&&decide ((c.toNat:Int)≤57))))):=by
 unfold nameAt letter
 have e1:decide (97≤c.toNat)=decide ((97:Int)≤(c.toNat:Int)):=by simp;omega
 have e2:decide (c.toNat≤122)=decide ((c.toNat:Int)≤122):=by simp;omega
 have e3:decide (65≤c.toNat)=decide ((65:Int)≤(c.toNat:Int)):=by simp;omega
 have e4:decide (c.toNat≤90)=decide ((c.toNat:Int)≤90):=by simp;omega
 have e5:decide (k=0)=decide ((k:Int)=0):=by simp
 have e6:decide (c.toNat=45)=decide ((c.toNat:Int)=45):=by simp;omega
 have e7:decide (48≤c.toNat)=decide ((48:Int)≤(c.toNat:Int)):=by simp;omega
 have e8:decide (c.toNat≤57)=decide ((c.toNat:Int)≤57):=by simp;omega
 rw[e1,e2,e3,e4,e5,e6,e7,e8]
theorem aaj {x:ByteArray} (hx:(x.size:Int)<9223372036854775808):aw AP (.fn 116) [S x] s=some (B (isName x),s):=by
 have bR:x.data.size=x.size:=rfl
 have hl:x.data.toList.length=x.size:=by simp[bR]
 have key:∀k ρ m,k≤x.size→(ρ 0=S x∧ρ 7=.slice .any 1 (byteCells x)∧ρ 8=I x.size∧ρ 9=I k∧m=s.push ⟨[],[]⟩)→go AP VQ (.c (.loop Dl)::Yh) ⟨ρ,m⟩=some (B (qY k (x.data.toList.drop k)&&decide (1≤x.size)&&decide (x.size≤12)),s):=by
  refine ck x.size _ _ ?_ ?_
  ·rintro k ρ m hk ⟨h0,h7,h8,h9,rfl⟩ ih
   obtain⟨c,hc⟩:=get_some (l:=x.data.toList) (k:=k) (by omega)
   have hr:=GB (o:=.any) (es:=1) (adx hc)
   rw[YV hc,YU]
   simp only[go_sem,Dl,h7,h8,h9,aS hk,hr,bK hk hx,simprocAttr]
   simp only[aY,oI]
   have fI:∀(ρ':Nat→AV),ρ' 0=S x→ρ' 7=AV.slice Own.any 1 (byteCells x)→ρ' 8=I ↑x.size→ρ' 9=I ↑(k+1)→go AP VQ (.c (.loop Dl)::Yh) ⟨ρ',s.push ⟨[],[]⟩⟩=some (B (qY (k+1) (List.drop (k+1) x.data.toList)&&decide (1≤x.size)&&decide (x.size≤12)),s):=fun ρ' a b c d=>ih ρ' _ ⟨a,b,c,d,rfl⟩
   generalize decide ((97:Int)≤(c.toNat:Int))=a1
   generalize decide ((c.toNat:Int)≤122)=a2
   generalize decide ((65:Int)≤(c.toNat:Int))=a3
   generalize decide ((c.toNat:Int)≤90)=a4
   generalize decide ((c.toNat:Int)=45)=a5
   have e8:decide ((c.toNat:Int)<48)=!decide ((48:Int)≤(c.toNat:Int)):=dec_lt _ _
   have e9:decide ((57:Int)<(c.toNat:Int))=!decide ((c.toNat:Int)≤57):=dec_lt _ _
   rw[e8,e9]
   generalize decide ((48:Int)≤(c.toNat:Int))=a6
   generalize decide ((c.toNat:Int)≤57)=a7
   generalize decide ((k:Int)=0)=a8
   generalize qY (k+1) (List.drop (k+1) x.data.toList)=nf at*
   cases a1<;>cases a2<;>cases a3<;>cases a4<;>cases a5<;>cases a6<;>cases a7<;>cases a8<;>first
    |rfl
    |exact fI _ h0 h7 h8 rfl
  ·rintro ρ m ⟨h0,h7,h8,h9,rfl⟩
   simp only[go_sem,Dl,MU,h0,h8,h9,bM,simprocAttr]
   have e1:List.drop x.size x.data.toList=[]:=by rw[←hl,eR]
   have e2 : decide (x ≠ ⟨#[]⟩) = decide (1 ≤ x.size) := by
    by_cases h : x = ⟨#[]⟩
    ·subst h;rfl
    ·have:x.size≠0:=fun e=>h (Lm (by have:x.data.size=0:=e;exact Array.eq_empty_of_size_eq_zero this))
     simp only[aY,h,ig,oJ]
     exact(bP (by omega)).symm
   have e3:decide ((x.size:Int)≤12)=decide (x.size≤12):=by
    by_cases h:x.size≤12
    ·rw[bP h,bP (by omega)]
    ·rw[bS h,bS (by omega)]
   rw[e1,e2,e3];rfl
 rw[aL (show AP 116=some Eo from rfl) rfl]
 simp only[go_sem,TL,bR,simprocAttr]
 refine(key 0 _ _ (bg _) ⟨rfl,rfl,rfl,rfl,rfl⟩).trans ?_
 rfl
theorem aso {n x:Int} {d b:Nat} {a r:AV} (hs:Ok s) (hn:1≤n) (iD:n≤200) (hb:s.box d b=some [I n,a,r]):aw AP (.fn 128) [I x,.ptr d b 0] s=some (B (wi x 0 (n-1)),s):=by
 rw[aL (show AP 128=some Ey from rfl) rfl]
 simp only[go_sem,TR,eO hb,vA,bW (x:=n-1) (by omega) (by omega),simprocAttr]
theorem asT {c a:Bool}:dk [cond c 0 2,cond a 0 9]=if c=true then(if a=true then 0 else 9)else 2:=by cases c<;>cases a<;>rfl
theorem aao {n x y:Int} {o1 o2:Own} {e1 e2:Nat} {r1 r2:List (List AV)} (hs:Ok s) (hn:1≤n) (iD:n≤200):aw AP (.fn 117) [.agg [I n,.slice o1 e1 r1,.slice o2 e2 r2],.agg [I x,I y]] s=some (I (jU n x y),s):=by
 rw[aL (show AP 117=some Ex from rfl) rfl]
 have e:∀x r,aw AP (.fn 128) [I x,.ptr s.ag.length 0 0] (cT (s.push ⟨[I n,.slice o1 e1 r1,.slice o2 e2 r2]::r,[]⟩))=some (B (wi x 0 (n-1)),cT (s.push ⟨[I n,.slice o1 e1 r1,.slice o2 e2 r2]::r,[]⟩)):=fun x r=>aso vu hn iD (by rw[arP,Nu])
 simp only[go_sem,TQ,lH,mS,e,asT,simprocAttr]
 unfold jU
 cases wi x 0 (n-1)<;>cases wi y 0 (n-1)<;>by_cases h:x≤y<;>simp[h]
theorem asf {a b:A} {d k:Nat} (hs:Ok s) (hb:s.box d k=some (bZ b)):aw AP (.fn 115) [.agg (bZ a),.ptr d k 0] s=some (B (decide (a.name=b.name)),s):=by
 rw[aL (show AP 115=some Ej from rfl) rfl]
 simp only[go_sem,TH,eO hb,simprocAttr]
theorem UZ {n e:Int}:∀{l:List (Int×Int)},l.foldl (fun e p=>dk [e,jU n p.1 p.2]) e=if e=0 then rI n l else e
 |[]=>by by_cases h:e=0<;>simp[rI,h]
 | p :: l => by
  rw[xO,UZ]
  by_cases h:e=0
  ·subst h
   by_cases h2:jU n p.1 p.2=0<;>simp[dk,rI,h2]
  ·simp[dk,h]
theorem acb {a b c d:Bool}:dk [cond a 0 4,cond b 0 5,cond c 0 2,cond d 0 8]=if a=true then if b=true then if c=true then if d=true then 0 else 8 else 2 else 5 else 4:=by
 cases a<;>cases b<;>cases c<;>cases d<;>rfl
theorem aaH {α:Type} {f:α→List AV} {o:Own} {es k:Nat} {l:List α} (hk:k≤l.length):∃o',iH (.sl es) (.slice o es (l.map f)) none (some (.v (.int .i64 (k:Int)))) none=some (.slice o' es ((l.take k).map f)):=by
 refine⟨xD o false (0==0&&k==(l.map f).length) (k==(l.map f).length&&0<(l.map f).length),?_⟩
 have h1:lj (some (AV.v (.int .i64 (k:Int)))) false (l.map f).length (l.map f).length=some k:=by
  simp[lj,asNat,hk]
 simp only[bY]at h1
 simp[iH,qX,h1,kf,LA]
theorem ase {n:Int} {as:List A} {o1 o2:Own} {e2:Nat} {rs:List (List AV)} {k:Nat} {a:A} (hs:Ok s) (OJ:a.cl.l=[]∨a.cl.e=2) (hn:1≤n) (iD:n≤200) (ha:as[k]? =some a) (bR:(a.name.size:Int)<9223372036854775808) (hl:as.length≤4) (aT:(a.cl.l.length:Int)<9223372036854775808):
  aw AP (.fn 100) [.agg [I n,.slice o1 3 (as.map bZ),.slice o2 e2 rs],I k] s=some (I (kU n as k a),s):=by
 have hk:k<as.length:=(bd.1 ha).1
 obtain⟨name,ja,⟨oc,ec,cl⟩⟩:=a
 obtain⟨o',oY⟩:=aaH (f:=bZ) (o:=o1) (es:=3) (l:=as) (k:=k) (by omega)
 have cr:=cq (f:=bZ) (o:=o1) (es:=3) ha
 have eW:∀r,aw AP (.fn 114) [.slice o' 3 ((as.take k).map bZ),.fn 115 [] [.ptr s.ag.length 1 0]] (s.push ⟨[I n,.slice o1 3 (as.map bZ),.slice o2 e2 rs]::bZ ⟨name,ja,⟨oc,ec,cl⟩⟩::r,[]⟩)=some (B ((as.take k).any fun b=>decide (b.name=name)),s.push ⟨[I n,.slice o1 3 (as.map bZ),.slice o2 e2 rs]::bZ ⟨name,ja,⟨oc,ec,cl⟩⟩::r,[]⟩):=fun r=>by
  refine atN (.inr rfl) (by rw[fV];omega) fun b hb r1 r2=>?_
  refine asf (b:=⟨name,ja,⟨oc,ec,cl⟩⟩) (((hs.push _).push _).push _) ?_
  exact eO (eO Uq _) _
 have pX:∀{m:ae},aw AP (.fn 116) [S name] m=some (B (isName name),m):=aaj bR
 rw[aL (show AP 100=some Ei from rfl) rfl]
 simp only[go_sem,TG,hs,oY,cr,eW,pX,lH,vA,asi,acb,simprocAttr]
 generalize On:(if isName name=true then if(!(as.take k).any fun b=>decide (b.name=name))=true then if wi ja 0 50=true then if decide ((cl.length:Int)≤6)=true then(0:Int)else 8 else 2 else 5 else 4)=E0
 have n8:(if E0=0 then rI n cl else E0)=kU n as k ⟨name,ja,⟨oc,ec,cl⟩⟩:=by
  have h6:decide ((cl.length:Int)≤6)=decide (cl.length≤6):=by
   by_cases h:cl.length≤6
   ·rw[bP h,bP (by omega)]
   ·rw[bS h,bS (by omega)]
  rw[←On,h6]
  unfold kU
  simp only
  cases isName name<;>cases((as.take k).any fun b=>decide (b.name=name))<;>cases wi ja 0 50<;>by_cases h:cl.length≤6<;>simp[h]
 have key:∀j ρ m,j≤cl.length→(ρ 2=.ptr s.ag.length 0 0∧ρ 7=I ((cl.take j).foldl (fun e p=>dk [e,jU n p.1 p.2]) E0)∧ρ 40=.slice oc ec (cl.map gM)∧ρ 41=I cl.length∧ρ 42=I j∧∃junk,m=s.push ⟨[I n,.slice o1 3 (as.map bZ),.slice o2 e2 rs]::junk,[]⟩)→go AP afK (.c (.loop IB)::anj) ⟨ρ,m⟩=some (I (kU n as k ⟨name,ja,⟨oc,ec,cl⟩⟩),s):=by
  refine ck cl.length _ _ ?_ ?_
  ·rintro j ρ m hj ⟨h2,h7,Oj,JD,j5,junk,rfl⟩ ih
   obtain⟨p,hp⟩:=get_some hj
   have dU:ec=2:=by rcases OJ with h|h;(simp only at h;rw[h]at hp;simp at hp);exact h
   subst dU
   have hr:=cq (f:=gM) (o:=oc) (es:=2) hp
   simp only[go_sem,IB,h2,h7,Oj,JD,j5,hs,aS hj,hr,aao (hs.push _) hn iD,mS,bK hj aT,simprocAttr]
   refine ih _ _ ?_
   refine⟨h2,?_,Oj,JD,rfl,_,rfl⟩
   rw[fT hp,Lv];rfl
  ·rintro ρ m ⟨h2,h7,Oj,JD,j5,junk,rfl⟩
   rw[jg,UZ,n8]at h7
   simp only[go_sem,IB,MS,h7,JD,j5,bM,simprocAttr]
 refine key 0 _ _ (bg _) ?_
 exact⟨rfl,rfl,rfl,rfl,rfl,_,rfl⟩
theorem SX {n:Int}:∀{l:List Int} {e last:Int},(l.foldl (fun(q:Int×Int) a=>(dk [q.1,cond (wi a 0 (n-1)) 0 6,cond (decide (q.2<a)) 0 9],a)) (e,last)).1=if e=0 then kz n last l else e
 |[],e,last=>by by_cases h:e=0<;>simp[kz,h]
 | a :: l, e, last => by
  rw[xO,SX]
  by_cases h:e=0
  ·subst h
   cases h1:wi a 0 (n-1)<;>by_cases h2:last<a<;>simp[dk,kz,h1,h2]
  ·simp[dk,h]
theorem asm {n:Int} {as:List (List AV)} {r:R} {o1 o2:Own} {e1 e2:Nat} {rs:List (List AV)} (hs:Ok s) (ft:r.an.l=[]∨r.an.e=1) (hn:1≤n) (iD:n≤200) (bR:(r.bw.size:Int)<9223372036854775808) (hl:as.length≤4) (aT:(r.an.l.length:Int)<9223372036854775808):
  aw AP (.fn 101) [.agg [I n,.slice o1 e1 as,.slice o2 e2 rs],.agg (bU r)] s=some (I (lE n as.length r),s):=by
 obtain⟨bw,lo,hi,len,val,⟨oa,ea,an⟩,need⟩:=r
 have pX:∀{m:ae},aw AP (.fn 116) [S bw] m=some (B (isName bw),m):=aaj bR
 rw[aL (show AP 101=some Ev from rfl) rfl]
 simp only[go_sem,TP,pX,lH,vA,mS,aao (hs.push _) hn iD,simprocAttr]
 simp only at ft aT
 by_cases he:dk [cond (isName bw) 0 4,jU n lo hi]=0
 case neg=>
  simp only[aY,he,ig,oJ,fZ]
  congr 3
  unfold lE
  cases h1:isName bw
  ·simp[dk]
  ·rw[h1]at he
   simp only[dk,fZ,bB]at he⊢
   by_cases h2:jU n lo hi=0
   ·exact absurd (by rw[ak h2]) he
   ·simp[h2]
 simp only[aY,he,eA,qs,iy]
 have h1:isName bw=true:=by
  cases h1:isName bw
  ·rw[h1]at he;simp[dk]at he
  ·rfl
 have h2:jU n lo hi=0:=by
  rw[h1]at he
  by_cases h2:jU n lo hi=0
  ·exact h2
  ·simp[dk,h2]at he
 have hb:(0≤lo∧lo≤n-1)∧(0≤hi∧hi≤n-1):=by
  unfold jU at h2
  cases q1:wi lo 0 (n-1)<;>cases q2:wi hi 0 (n-1)<;>rw[q1,q2]at h2<;>simp at h2
  exact⟨iJ.1 q1,iJ.1 q2⟩
 rw[bW (x:=hi-lo) (by omega) (by omega),bW (x:=hi-lo+1) (by omega) (by omega)]
 generalize On:dk [cond (wi len 1 (hi-lo+1)&&wi val 0 100000) 0 2,cond (decide ((0:Int)<(an.length:Int))) 0 10]=E0
 have n8:∀e,(if E0=0 then kz (as.length:Nat) (-1) an else E0)=e→dk [e,cond (wi need 1 an.length) 0 2]=lE n as.length ⟨bw,lo,hi,len,val,⟨oa,ea,an⟩,need⟩:=by
  intro e he
  subst he
  rw[←On]
  unfold lE
  simp only[h1,h2,bB]
  cases an with
  |nil=>cases(wi len 1 (hi-lo+1)&&wi val 0 100000)<;>simp[dk]
  | cons x l =>
   have:decide ((0:Int)<(((x::l).length:Nat):Int))=true:=bP (by rw[dO];omega)
   rw[this]
   cases(wi len 1 (hi-lo+1)&&wi val 0 100000)
   ·simp[dk]
   ·simp only[dk,fZ,bB]
    by_cases h3:kz (as.length:Nat) (-1) (x::l)=0
    ·cases h4:wi need 1 ((x::l).length:Nat)<;>simp[h3,h4]
    ·simp[h3]
 have key:∀j ρ m,j≤an.length→(ρ 2=.ptr s.ag.length 0 0∧ρ 3=.ptr s.ag.length 1 0∧
   (∃q:Int×Int,(an.take j).foldl (fun(q:Int×Int) a=>(dk [q.1,cond (wi a 0 ((as.length:Nat)-1)) 0 6,cond (decide (q.2<a)) 0 9],a)) (E0,-1)=q∧ρ 5=I q.1∧ρ 7=I q.2)∧ρ 49=.slice oa ea (an.map aD)∧ρ 50=I an.length∧ρ 51=I j∧
   m=s.push ⟨[[I n,.slice o1 e1 as,.slice o2 e2 rs],[S bw,I lo,I hi,I len,I val,.slice oa ea (an.map aD),I need]],[]⟩)→go AP afN (.c (.loop IG)::anq) ⟨ρ,m⟩=some (I (lE n as.length ⟨bw,lo,hi,len,val,⟨oa,ea,an⟩,need⟩),s):=by
  refine ck an.length _ _ ?_ ?_
  ·rintro j ρ m hj ⟨gA,Pu,⟨q,hq,h5,h7⟩,rN,nq,pR,rfl⟩ ih
   obtain⟨x,hx⟩:=get_some hj
   have dU:ea=1:=by rcases ft with h|h;(rw[h]at hx;simp at hx);exact h
   subst dU
   have hr:=cq (f:=aD) (o:=oa) (es:=1) hx
   simp only[go_sem,IG,gA,h5,h7,rN,nq,pR,aS hj,hr,vA,lH,ash,bK hj aT,bW (x:=(as.length:Int)-1) (by omega) (by omega),simprocAttr]
   refine ih _ _ ?_
   refine⟨gA,Pu,⟨(dk [q.1,cond (wi x 0 ((as.length:Nat)-1)) 0 6,cond (decide (q.2<x)) 0 9],x),?_,rfl,rfl⟩,rN,nq,rfl,rfl⟩
   rw[fT hx,Lv,hq];rfl
  ·rintro ρ m ⟨gA,Pu,⟨q,hq,h5,h7⟩,rN,nq,pR,rfl⟩
   rw[jg]at hq
   have xe:=SX (n:=(as.length:Nat)) (l:=an) (e:=E0) (last:=-1)
   rw[hq]at xe
   simp only[go_sem,IG,MZ,Pu,h5,nq,pR,bM,vA,lH,mS,simprocAttr]
   rw[n8 q.1 xe.symm]
 refine key 0 _ _ (bg _) ?_
 exact⟨rfl,rfl,⟨_,rfl,rfl,rfl⟩,rfl,rfl,rfl,rfl⟩
abbrev MK (p:Int×Int×Int):AV:=.tuple [.agg [I p.1,I p.2.1],I p.2.2]
theorem wJ {α:Type} {f:Nat→α→Int} {l:List α} {k:Nat} {x:α} (h:l[k]? =some x):fO f k (l.drop k)=if f k x=0 then fO f (k+1) (l.drop (k+1))else some (k,f k x):=by
 rw[eP h];rfl
theorem aah {w:W} (hs:Ok s) (hw:w.Ok) (hf:w.kn):aw AP (.fn 84) [w.v] s=some (MK (dp w),s):=by
 obtain⟨n,⟨o1,e1,as⟩,⟨o2,e2,rs⟩⟩:=w
 have h4:decide ((as.length:Int)≤4)=decide (as.length≤4):=by
  by_cases h:as.length≤4
  ·rw[bP h,bP (by omega)]
  ·rw[bS h,bS (by omega)]
 have cG:decide ((rs.length:Int)≤12)=decide (rs.length≤12):=by
  by_cases h:rs.length≤12
  ·rw[bP h,bP (by omega)]
  ·rw[bS h,bS (by omega)]
 rw[aL (show AP 84=some Ef from rfl) rfl]
 simp only[go_sem,TE,hs,vA,lH,mS,h4,cG,simprocAttr]
 unfold dp
 simp only
 cases hn:wi n 1 200
 ·simp[dk]
 rw[iJ]at hn
 by_cases Bt:as.length≤4∧rs.length≤12
 case neg=>
  have:(decide (as.length≤4)&&decide (rs.length≤12))=false:=by
   cases h:(decide (as.length≤4)&&decide (rs.length≤12))
   ·rfl
   ·exact absurd (by simpa using h) Bt
  simp[dk,this,Bt]
 have:(decide (as.length≤4)&&decide (rs.length≤12))=true:=by simpa using Bt
 simp only[dk,fZ,bB,aY,Bt,na]
 have k2:∀j ρ m,j≤rs.length→(ρ 1=.ptr s.ag.length 0 0∧ρ 2=.ptr s.ag.length 1 0∧ρ 49=.slice o2 e2 (rs.map bU)∧ρ 50=I rs.length∧ρ 51=I j∧
   ∃junk,m=s.push ⟨[I n,.slice o1 e1 (as.map bZ),.slice o2 e2 (rs.map bU)]::[I 0,I 0]::junk,[]⟩)→go AP VN (.c (.loop Is)::anb) ⟨ρ,m⟩=some (MK (match fO (fun _ r=>lE n as.length r) j (rs.drop j)with|some (k,e)=>(2,k,e)|none=>(0,0,0)),s):=by
  refine ck rs.length _ _ ?_ ?_
  ·rintro j ρ m hj ⟨h1,h2,rN,nq,pR,junk,rfl⟩ ih
   obtain⟨x,hx⟩:=get_some hj
   have fH:=bQ hx
   have dU:e2=7:=by rcases hw.rs.1 with h|h;(simp only at h;rw[h]at hx;simp at hx);exact h
   subst dU
   have hr:=cq (f:=bU) (o:=o2) (es:=7) hx
   have m1:=hf.bw x fH
   have m2:=hf.an x fH
   have hq:∀r,aw AP (.fn 101) [.agg [I n,.slice o1 e1 (as.map bZ),.slice o2 7 (rs.map bU)],.agg [S x.bw,I x.lo,I x.hi,I x.len,I x.val,.slice x.an.o x.an.e (x.an.l.map aD),I x.need]] (s.push r)=some (I (lE n as.length x),s.push r):=fun r=>by
    have:=asm (s:=s.push r) (n:=n) (as:=as.map bZ) (r:=x) (o1:=o1) (e1:=e1) (o2:=o2) (e2:=7) (rs:=rs.map bU) (hs.push _) (hw.an x fH).1 hn.1 hn.2 (by omega) (by rw[bY];exact Bt.1) (by omega)
    rw[bY]at this
    exact this
   simp only[go_sem,Is,h1,h2,rN,nq,pR,hs,aS hj,hr,hq,bK hj (show(rs.length:Int)<_ by omega),simprocAttr]
   rw[wJ hx]
   by_cases h0:lE n as.length x=0
   ·simp only[h0,aY,eA,qs,iy,bB]
    refine ih _ _ ?_
    exact⟨h1,h2,rN,nq,rfl,_,rfl⟩
   ·simp only[h0,aY,ig,oJ,fZ,cE]
  ·rintro ρ m ⟨h1,h2,rN,nq,pR,junk,rfl⟩
   simp only[go_sem,Is,ML,h2,nq,pR,hs,bM,simprocAttr]
   rw[eR];rfl
 have k1:∀j ρ m,j≤as.length→(ρ 1=.ptr s.ag.length 0 0∧ρ 2=.ptr s.ag.length 1 0∧ρ 34=.slice o1 e1 (as.map bZ)∧ρ 35=I as.length∧ρ 36=I j∧
   m=s.push ⟨[[I n,.slice o1 e1 (as.map bZ),.slice o2 e2 (rs.map bU)],[I 0,I 0]],[]⟩)→go AP VN (.c (.loop It)::anc) ⟨ρ,m⟩=some (MK (match fO (kU n as) j (as.drop j)with|some (k,e)=>(1,k,e)|none=>match fO (fun _ r=>lE n as.length r) 0 rs with|some (k,e)=>(2,k,e)|none=>(0,0,0)),s):=by
  refine ck as.length _ _ ?_ ?_
  ·rintro j ρ m hj ⟨h1,h2,lO,pP,mD,rfl⟩ ih
   obtain⟨x,hx⟩:=get_some hj
   have fH:=bQ hx
   have dU:e1=3:=by rcases hw.as.1 with h|h;(simp only at h;rw[h]at hx;simp at hx);exact h
   subst dU
   have m1:=hf.name x fH
   have m2:=hf.cl x fH
   have hq:∀r,aw AP (.fn 100) [.agg [I n,.slice o1 3 (as.map bZ),.slice o2 e2 (rs.map bU)],I j] (s.push r)=some (I (kU n as j x),s.push r):=fun r=>ase (hs.push _) (hw.cl x fH).1 hn.1 hn.2 hx (by omega) Bt.1 (by omega)
   simp only[go_sem,It,h1,h2,pP,mD,hs,aS hj,hq,bK hj (show(as.length:Int)<_ by omega),simprocAttr]
   rw[wJ hx]
   by_cases h0:kU n as j x=0
   ·simp only[h0,aY,eA,qs,iy,bB]
    refine ih _ _ ?_
    exact⟨h1,h2,lO,pP,rfl,rfl⟩
   ·simp only[h0,aY,ig,oJ,fZ,cE]
  ·rintro ρ m ⟨h1,h2,lO,pP,mD,rfl⟩
   simp only[go_sem,It,MM,h1,pP,mD,bM,simprocAttr]
   rw[eR]
   refine(k2 0 _ _ (bg _) ?_).trans rfl
   exact⟨h1,h2,rfl,rfl,rfl,[],rfl⟩
 refine(k1 0 _ _ (bg _) ?_).trans rfl
 exact⟨rfl,rfl,rfl,rfl,rfl,rfl⟩
end
def gr (f:Nat→Bool):List AV:=(List.range 800).map fun j=>B (f j)
theorem tu {f:Nat→Bool}:(gr f).length=800:=by simp[gr]
theorem JA {f:Nat→Bool} {j:Nat} (h:j<800):(gr f)[j]? =some (B (f j)):=by simp[gr,h]
theorem abq:Hg 800=gr fun _=>false:=by
 refine pD fun i=>?_
 unfold Hg
 by_cases h:i<800
 ·rw[JA h,Sd,ak h]
 ·rw[Sd,aq h,nL (by rw[tu];omega)]
theorem ahr {f:Nat→Bool} {j:Nat} {b:Bool} (h:j<800):(gr f).set j (B b)=gr fun i=>if i=j then b else f i:=by
 refine pD fun i=>?_
 by_cases hi:i<800
 ·rw[JA hi,sW]
  by_cases e:j=i
  ·subst e;rw[ak rfl,ak (by rw[tu];exact h)];simp
  ·rw[aq e,JA hi,aq (fun q=>e q.symm)]
 ·rw[nL (by rw[zO,tu];omega),nL (by rw[tu];omega)]
theorem Ws {f:Nat→Bool}:(gr f).all AV.bt=true:=by
 rw[jw]
 intro c hc
 obtain⟨j,_,rfl⟩:=cC.1 hc
 rfl
def wk (n:Int) (a r:AV) (f:Nat→Bool):List AV:=I n::a::r::gr f
theorem aqh {n:Int} {a r:AV} {f:Nat→Bool} {j:Nat} {b:Bool} (h:j<800):l7 (wk n a r f) (3+j) [B b]=some (wk n a r fun i=>if i=j then b else f i):=by
 rw[vw,ak (by simp[wk,tu];omega)]
 have:3+j=j+1+1+1:=by omega
 rw[this]
 simp only[wk,setCells,Sn,ahr h]
theorem atA {n:Int} {a r:AV} {f:Nat→Bool}:(wk n a r f)[1]? =some a:=rfl
theorem ub {n:Int} {a r:AV} {f:Nat→Bool}:(wk n a r f)[2]? =some r:=rfl
theorem atB {n:Int} {a r:AV} {f:Nat→Bool} {j:Nat} (h:j<800):(wk n a r f)[3+j]? =some (B (f j)):=by
 have:3+j=j+1+1+1:=by omega
 rw[this]
 simp only[wk,Lx,JA h]
theorem aev {n:Int} {a r:AV} {f:Nat→Bool} (ha:a.close=some a) (hr:r.close=some r):closeAll (wk n a r f)=some (wk n a r f):=by
 have:closeAll (gr f)=some (gr f):=by
  unfold gr
  generalize List.range 800=l
  induction l with
  |nil=>rfl
  |cons x l ih=>simp only[iM,mq,ih];rfl
 simp only[wk,mq,this,ha,hr]
 rfl
theorem UR:∀(m:Nat) (l:List AV),m≤l.length→chunks 1 m l=(l.take m).map fun c=>[c]
 |0,l,_=>by simp[chunks]
 |m+1,[],h=>by simp at h
 |m+1,x::l,h=>by
  simp only[chunks,R6,kt,Sq,LC,iM]
  rw[UR m l (by simpa using h)]
def tW (f:Nat→Bool) (j m:Nat):List Bool:=(List.range m).map fun q=>f (j+q)
theorem asq {f:Nat→Bool} {j m:Nat}:((tW f j m).any fun a=>(true==a))=(List.range m).any fun q=>f (j+q):=by
 simp[tW,Hm,RX]
theorem aeh {n:Int} {a r:AV} {f:Nat→Bool} {j m:Nat} (h:j+m≤800):chunks 1 m ((wk n a r f).drop (3+j))=(tW f j m).map fun b=>[B b]:=by
 rw[UR _ _ (by rw[sX];simp[wk,tu];omega)]
 refine pD fun i=>?_
 simp only[tW,je,vO]
 by_cases hi:i<m
 ·have e:(wk n a r f)[3+j+i]? =some (B (f (j+i))):=by rw[vP];exact atB (by omega)
  simp[xP,hi,List.getElem?_drop,e]
 ·simp[xP,hi]
def isClosed (a:A) (t:Int):Bool:=a.cl.l.any fun p=>wi t p.1 p.2
def AA (as:List A) (j:Nat):Bool:=match as[j/200]? with
 |some a=>isClosed a ((j%200:Nat):Int)
 |none=>false
structure LP (n:Int) (m:Nat) (r:R):Prop where
 qW:0≤r.lo
 BI:r.lo≤r.hi
 bH:r.hi≤n-1
 p9:1≤r.len
 pn:r.len≤r.hi-r.lo+1
 Lg:0≤r.val
 Lh:r.val≤100000
 an:r.an.l≠[]
 tc:∀a∈r.an.l,0≤a∧a<m
 CI:r.an.l.Pairwise (· <·)
 KH:1≤r.need
 KI:r.need≤r.an.l.length
 name:isName r.bw=true
structure RU (n:Int) (a:A):Prop where
 name:isName a.name=true
 ass:0≤a.ja
 ast:a.ja≤50
 UW:a.cl.l.length≤6
 cl:∀p∈a.cl.l,0≤p.1∧p.1≤p.2∧p.2≤n-1
structure SK (w:W):Prop where
 n1:1≤w.ow
 n2:w.ow≤200
 al:w.as.l.length≤4
 rl:w.rs.l.length≤12
 a:∀a∈w.as.l,RU w.ow a
 r:∀r∈w.rs.l,LP w.ow w.as.l.length r
theorem Rw {n lo hi:Int} (h:jU n lo hi=0):0≤lo∧lo≤hi∧hi≤n-1:=by
 unfold jU at h
 by_cases h1:(wi lo 0 (n-1)&&wi hi 0 (n-1))=true
 ·rw[ak h1]at h
  simp only[dB,iJ]at h1
  by_cases h2:lo≤hi
  ·omega
  ·rw[aq h2]at h;omega
 ·rw[aq h1]at h;omega
theorem UX {n:Int}:∀{l:List (Int×Int)},rI n l=0→∀p∈l,0≤p.1∧p.1≤p.2∧p.2≤n-1
 |[],_=>by simp
 | p :: r, h => by
  simp only[rI]at h
  by_cases h1:jU n p.1 p.2=0
  ·rw[ak h1]at h
   intro q hq
   rcases eB.1 hq with rfl|hq
   ·exact Rw h1
   ·exact UX h q hq
  ·rw[aq h1]at h;exact absurd h h1
theorem SW {n:Int}:∀{l:List Int} {last:Int},kz n last l=0→(∀a∈l,0≤a∧a<n)∧l.Pairwise (· <·)∧∀a∈l,last<a
 |[],_,_=>by simp
 | a :: r, last, h => by
  simp only[kz]at h
  by_cases h1:wi a 0 (n-1)=true
  ·rw[ak h1]at h
   by_cases h2:last<a
   ·rw[ak h2]at h
    obtain⟨i1,i2,i3⟩:=SW h
    rw[iJ]at h1
    refine⟨fun b hb=>?_,uu.2 ⟨i3,i2⟩,fun b hb=>?_⟩
    ·rcases eB.1 hb with rfl|hb
     ·omega
     ·exact i1 b hb
    ·rcases eB.1 hb with rfl|hb
     ·exact h2
     ·have:=i3 b hb;omega
   ·rw[aq h2]at h;omega
  ·rw[aq h1]at h;omega
theorem ab9 {n:Int} {as:List A} {k:Nat} {a:A} (h:kU n as k a=0):RU n a:=by
 unfold kU at h
 by_cases h1:isName a.name=true
 ·rw [ak h1] at h
  by_cases h2:((as.take k).any fun b=>decide (b.name=a.name))=true
  ·rw[ak h2]at h;omega
  ·rw[aq h2]at h
   by_cases h3:wi a.ja 0 50=true
   ·rw[ak h3]at h
    by_cases h4:a.cl.l.length≤6
    ·rw[ak h4]at h
     rw[iJ]at h3
     exact⟨h1,h3.1,h3.2,h4,UX h⟩
    ·rw[aq h4]at h;omega
   ·rw[aq h3]at h;omega
 ·rw[aq h1]at h;omega
theorem arI {n:Int} {m:Nat} {r:R} (h:lE n m r=0):LP n m r:=by
 unfold lE at h
 by_cases h1:isName r.bw=true
 ·rw [ak h1] at h
  by_cases h2:jU n r.lo r.hi=0
  ·rw [ak h2] at h
   by_cases h3:(wi r.len 1 (r.hi-r.lo+1)&&wi r.val 0 100000)=true
   ·rw [ak h3] at h
    by_cases h4:r.an.l=[]
    ·rw[ak h4]at h;omega
    ·rw[aq h4]at h
     by_cases h5:kz m (-1) r.an.l=0
     ·rw[ak h5]at h
      by_cases h6:wi r.need 1 r.an.l.length=true
      ·simp only[dB,iJ]at h3
       rw[iJ]at h6
       have e2:=Rw h2
       have e5:=SW h5
       exact⟨e2.1,e2.2.1,e2.2.2,h3.1.1,h3.1.2,h3.2.1,h3.2.2,h4,e5.1,e5.2.1,h6.1,h6.2,h1⟩
      ·rw[aq h6]at h;omega
     ·rw[aq h5]at h;exact absurd h h5
   ·rw[aq h3]at h;omega
  ·rw[aq h2]at h;exact absurd h h2
 ·rw[aq h1]at h;omega
theorem N5 {α:Type} {f:Nat→α→Int}:∀{l:List α} {k:Nat},fO f k l=none→∀x∈l,∃j,f j x=0
 |[],_,_=>by simp
 | x :: r, k, h => by
  simp only[fO]at h
  by_cases h1:f k x=0
  ·rw[ak h1]at h
   intro y hy
   rcases eB.1 hy with rfl|hy
   ·exact⟨k,h1⟩
   ·exact N5 h y hy
  ·rw[aq h1]at h;cases h
theorem Jv {α:Type} {f:Nat→α→Int}:∀{l:List α} {k j:Nat} {e:Int},fO f k l=some (j,e)→e≠0
 |[],_,_,_,h=>by cases h
 | x :: r, k, j, e, h => by
  simp only[fO]at h
  by_cases h1:f k x=0
  ·rw[ak h1]at h;exact Jv h
  ·rw[aq h1]at h
   injection h with h
   injection h with _ h
   rw[←h];exact h1
theorem rm {w:W} (h:(dp w).2.2=0):SK w:=by
 unfold dp at h
 by_cases h1:wi w.ow 1 200=true
 ·rw [ak h1] at h
  by_cases h2:w.as.l.length≤4∧w.rs.l.length≤12
  ·rw[ak h2]at h
   cases h3:fO (kU w.ow w.as.l) 0 w.as.l with
   |some q=>obtain⟨k,e⟩:=q;rw[h3]at h;exact absurd h (Jv h3)
   | none =>
    rw[h3]at h
    simp only at h
    cases h4:fO (fun _ r=>lE w.ow w.as.l.length r) 0 w.rs.l with
    |some q=>obtain⟨k,e⟩:=q;rw[h4]at h;exact absurd h (Jv h4)
    |none=>
     rw[iJ]at h1
     exact⟨h1.1,h1.2,h2.1,h2.2,fun a ha=>(N5 h3 a ha).elim fun _ e=>ab9 e,fun r hr=>(N5 h4 r hr).elim fun _ e=>arI e⟩
  ·rw[aq h2]at h;simp at h
 ·rw[aq h1]at h;simp at h
section
variable{s:ae}
abbrev NP:AV:=.v (.pointer none)
theorem akw {k:IntKind} {n:Int} {len:Nat} (h1:0≤n) (h2:n<len):idx (.v (.int k n)) len=some n.toNat:=by
 rw[idx_eq,ak ⟨h1,h2⟩]
theorem Kp {k:IntKind} {n len:Nat} (h2:n<len):idx (.v (.int k (n:Int))) len=some n:=by
 rw[akw (by omega) (by omega)];rfl
theorem aan {w:W} (hs:Ok s) (hw:w.Ok) (hf:w.kn) (he:(dp w).2.2≠0):aw AP (.fn 52) [w.v] s=some (.tuple [NP,I (dp w).2.2],s):=by
 have hc:∀r,aw AP (.fn 84) [w.v] (s.push r)=some (MK (dp w),s.push r):=fun r=>aah (hs.push _) hw hf
 generalize dp w=q at*
 rw[aL (show AP 52=some Aq from rfl) rfl]
 simp only[go_sem,MV,hs,hc,he,aY,ig,aP,simprocAttr]
def wC (as:List A) (a t:Nat):Bool:=match as[a]? with
 |some x=>isClosed x (t:Int)
 |none=>false
theorem UY {as:List A} {j:Nat}:AA as j=wC as (j/200) (j%200):=rfl
def OW (w:W):AV:=.bq (wk w.ow (w.as.v bZ) (w.rs.v bU) (AA w.as.l)) 0
theorem ahq {f g:Nat→Bool} (h:∀a t,t<200→f (200*a+t)=g (200*a+t)):f=g:=by
 funext j
 have:=h (j/200) (j%200) (sZ _ (by decide))
 have e:200*(j/200)+j%200=j:=Nat.div_add_mod j 200
 rwa [e]at this
theorem aak {w : W} (hs : Ok s) (hw : w.Ok) (hf : w.kn) (he : (dp w).2.2 = 0) : aw AP (.fn 52) [w.v] s = some (.tuple [OW w, I 0], s) := by
 have bE:=rm he
 have hc:∀r,aw AP (.fn 84) [w.v] (s.push r)=some (MK (dp w),s.push r):=fun r=>aah (hs.push _) hw hf
 generalize dp w=q at*
 obtain⟨n,⟨o1,e1,as⟩,⟨o2,e2,rs⟩⟩:=w
 have cQ:(AV.slice o1 e1 (as.map bZ)).close=some (AV.slice o1 e1 (as.map bZ)):=Sl.close (f:=bZ) hw.as
 have fG:(AV.slice o2 e2 (rs.map bU)).close=some (AV.slice o2 e2 (rs.map bU)):=Sl.close (f:=bU) hw.rs
 have oR:as.length≤4:=bE.al
 have F6:1≤n:=bE.n1
 have iD:n≤200:=bE.n2
 have sE : ∀ (i : Nat) ρ m, i ≤ as.length → (ρ 6 = .ptr s.ag.length 2 0 ∧ ρ 24 = .slice o1 e1 (as.map bZ) ∧ ρ 25 = I as.length ∧ ρ 26 = I i ∧
   ∃f b0 b1 junk,m=s.push ⟨b0::b1::wk n (.slice o1 e1 (as.map bZ)) (.slice o2 e2 (rs.map bU)) f::junk,[]⟩∧∀a t,t<200→f (200*a+t)=(decide (a<i)&&wC as a t))→
   go AP NX (.c (.loop Ag)::anm) ⟨ρ,m⟩=some (.tuple [OW ⟨n,⟨o1,e1,as⟩,⟨o2,e2,rs⟩⟩,I 0],s):=by
  refine ck as.length _ _ ?_ ?_
  ·rintro i ρ m hi ⟨h6, kY, kZ, mC, f, b0, b1, junk, rfl, hF⟩ ih
   obtain⟨x,hx⟩:=get_some hi
   have fH:=bQ hx
   have dU:e1=3:=by rcases hw.as.1 with h|h;(simp only at h;rw[h]at hx;simp at hx);exact h
   subst dU
   have hr:=cq (f:=bZ) (o:=o1) (es:=3) hx
   have xm:=bE.a x fH
   have W2:∀t,wC as i t=x.cl.l.any fun p=>wi t p.1 p.2:=fun t=>by simp only[wC,hx];rfl
   obtain⟨name,ja,⟨oc,ec,cl⟩⟩:=x
   have mG:=(hw.cl _ fH).1
   simp only at mG W2
   have avc:cl.length≤6:=xm.UW
   have Qd : ∀ (j : Nat) ρ m, j ≤ cl.length → (ρ 6 = .ptr s.ag.length 2 0 ∧ ρ 7 = I i ∧ ρ 24 = .slice o1 3 (as.map bZ) ∧ ρ 25 = I as.length ∧ ρ 26 = I i ∧ ρ 32 = .slice oc ec (cl.map gM) ∧ ρ 33 = I cl.length ∧ ρ 34 = I j ∧
     ∃f b0 b1 junk,m=s.push ⟨b0::b1::wk n (.slice o1 3 (as.map bZ)) (.slice o2 e2 (rs.map bU)) f::junk,[]⟩∧∀a t,t<200→f (200*a+t)=if a=i then(cl.take j).any (fun p=>wi t p.1 p.2)else(decide (a<i)&&wC as a t))→
     go AP NX (.c (.loop Dn)::ano) ⟨ρ,m⟩=some (.tuple [OW ⟨n,⟨o1,3,as⟩,⟨o2,e2,rs⟩⟩,I 0],s):=by
    refine ck cl.length _ _ ?_ ?_
    ·rintro j ρ m hj ⟨h6,h7,kY,kZ,mC,yL,oP,lO,f,b0,b1,junk,rfl,hF⟩ fI
     obtain⟨p,hp⟩:=get_some hj
     have pY:=bQ hp
     have dU:ec=2:=by rcases mG with h|h;(rw[h]at hp;simp at hp);exact h
     subst dU
     have hr:=cq (f:=gM) (o:=oc) (es:=2) hp
     obtain⟨lo,bD⟩:=p
     have dI:=xm.cl _ pY
     simp only at dI
     have p8 : ∀ (u : Int) ρ m, (ρ 6 = .ptr s.ag.length 2 0 ∧ ρ 7 = I i ∧ ρ 10 = .ptr s.ag.length (junk.length + 1 + 1 + 1) 0 ∧ ρ 11 = I u ∧ ρ 24 = .slice o1 3 (as.map bZ) ∧ ρ 25 = I as.length ∧ ρ 26 = I i ∧ ρ 32 = .slice oc 2 (cl.map gM) ∧ ρ 33 = I cl.length ∧ ρ 34 = I j ∧ lo ≤ u ∧ u ≤ bD + 1 ∧
       ∃f b0 b1,m=s.push ⟨b0::b1::wk n (.slice o1 3 (as.map bZ)) (.slice o2 e2 (rs.map bU)) f::(junk++[[I lo,I bD]]),[]⟩∧∀a t,t<200→f (200*a+t)=if a=i then((cl.take j).any (fun p=>wi t p.1 p.2)||(decide (lo≤(t:Int))&&decide ((t:Int)<u)))else(decide (a<i)&&wC as a t))→
       go AP NX (.c (.loop IE)::anp) ⟨ρ,m⟩=some (.tuple [OW ⟨n,⟨o1,3,as⟩,⟨o2,e2,rs⟩⟩,I 0],s):=by
      refine Ql bD _ _ ?_ ?_
      ·rintro u ρ m hu ⟨h6,h7,dh,dZ,kY,kZ,mC,yL,oP,lO,ew,ia,f,b0,b1,rfl,hF⟩ Kr
       obtain⟨v,rfl⟩:∃v:Nat,u=v:=⟨u.toNat,by omega⟩
       have hd:decide ((v:Int)≤bD)=true:=bP hu
       have sd:idx (.v (.int .i64 (i:Int))) 4=some i:=Kp (by omega)
       have se:idx (.v (.int .i64 (v:Int))) 200=some v:=Kp (by omega)
       have ho:l7 (wk n (.slice o1 3 (as.map bZ)) (.slice o2 e2 (rs.map bU)) f) (0+3+i*200+v*1) [B true]=some (wk n (.slice o1 3 (as.map bZ)) (.slice o2 e2 (rs.map bU)) fun q=>if q=i*200+v then true else f q):=by
        rw[show 0+3+i*200+v*1=3+(i*200+v)by omega];exact aqh (by omega)
       simp only[go_sem,IE,IF,h6,h7,dh,dZ,hs,hd,sd,se,ho,bW (x:=(v:Int)+1) (by omega) (by omega),aP,simprocAttr]
       refine Kr _ _ ?_
       refine⟨h6,h7,dh,rfl,kY,kZ,mC,yL,oP,lO,by omega,by omega,_,b0,b1,rfl,fun a t ht=>?_⟩
       show(if 200*a+t=i*200+v then true else f (200*a+t))=_
       rw[hF a t ht]
       by_cases ha:a=i
       ·subst ha
        rw[ak rfl,ak rfl]
        by_cases htv:t=v
        ·subst htv
         have e1:decide ((t:Int)<(t:Int)+1)=true:=bP (by omega)
         have e2:200*a+t=a*200+t:=by omega
         rw[ak e2,bP ew,e1];simp
        ·have e2:¬200*a+t=a*200+v:=by omega
         have e3:decide ((t:Int)<(v:Int)+1)=decide ((t:Int)<v):=by
          by_cases h:(t:Int)<v
          ·rw[bP h,bP (by omega)]
          ·rw[bS h,bS (by omega)]
         rw[aq e2,e3]
       ·have e2:¬200*a+t=i*200+v:=by omega
        rw[aq ha,aq ha,aq e2]
      ·rintro u ρ m hu ⟨h6,h7,dh,dZ,kY,kZ,mC,yL,oP,lO,ew,ia,f,b0,b1,rfl,hF⟩
       have hd:decide (u≤bD)=false:=bS (by omega)
       simp only[go_sem,IE,IF,h6,h7,dh,dZ,lO,hs,hd,bK hj (show(cl.length:Int)<_ by omega),aP,simprocAttr]
       refine fI _ _ ?_
       refine⟨h6,h7,kY,kZ,mC,yL,oP,rfl,f,b0,b1,_,rfl,fun a t ht=>?_⟩
       rw[hF a t ht,fT hp,vL]
       have:u=bD+1:=by omega
       subst this
       have e:decide ((t:Int)<bD+1)=decide ((t:Int)≤bD):=by
        by_cases h:(t:Int)≤bD
        ·rw[bP h,bP (by omega)]
        ·rw[bS h,bS (by omega)]
       simp[wi,e]
     simp only[go_sem,Dn,Dp,h6,h7,kY,kZ,mC,yL,oP,lO,hs,aS hj,hr,aP,simprocAttr]
     refine p8 lo _ _ ?_
     refine⟨h6,h7,rfl,rfl,kY,kZ,mC,yL,oP,lO,by omega,by omega,f,b0,b1,rfl,fun a t ht=>?_⟩
     rw[hF a t ht]
     have:(decide (lo≤(t:Int))&&decide ((t:Int)<lo))=false:=by
      by_cases h:lo≤(t:Int)
      ·rw[bS (show¬(t:Int)<lo by omega),nI]
      ·rw[bS h];rfl
     rw[this,Cg]
    ·rintro ρ m ⟨h6,h7,kY,kZ,mC,yL,oP,lO,f,b0,b1,junk,rfl,hF⟩
     simp only[go_sem,Dn,Dp,h6,h7,kY,kZ,mC,oP,lO,hs,bM,bK hi (show(as.length:Int)<_ by omega),aP,simprocAttr]
     refine ih _ _ ?_
     refine⟨h6,kY,kZ,rfl,f,b0,b1,_,rfl,fun a t ht=>?_⟩
     rw[hF a t ht,jg]
     by_cases ha:a=i
     ·subst ha;rw[ak rfl,bP (by omega),iq,W2]
     ·rw[aq ha]
      congr 1
      by_cases h:a<i
      ·rw[bP h,bP (by omega)]
      ·rw[bS h,bS (by omega)]
   simp only[go_sem,Ag,Ah,h6,kY,kZ,mC,hs,aS hi,hr,aP,simprocAttr]
   refine Qd 0 _ _ (bg _) ?_
   refine⟨h6,rfl,kY,kZ,mC,rfl,rfl,rfl,f,b0,b1,_,rfl,fun a t ht=>?_⟩
   rw[hF a t ht]
   by_cases ha:a=i
   ·subst ha;rw[ak rfl,bS (by omega)];simp
   ·rw[aq ha]
  ·rintro ρ m ⟨h6,kY,kZ,mC,f,b0,b1,junk,rfl,hF⟩
   simp only[go_sem,Ag,Ah,h6,kY,kZ,mC,hs,bM,aev cQ fG,aP,simprocAttr]
   have:f=AA as:=ahq fun a t ht=>by
    rw[hF a t ht,UY,show(200*a+t)/200=a by omega,show(200*a+t)%200=t by omega]
    by_cases h:a<as.length
    ·rw[bP h,iq]
    ·rw[bS h,jL,wC,nL (by omega)]
   rw[this];rfl
 rw[aL (show AP 52=some Aq from rfl) rfl]
 have hz:l7 (I 0::.slice .aA 0 []::.slice .aA 0 []::Hg 800) 0 [I n,.slice o1 e1 (as.map bZ),.slice o2 e2 (rs.map bU)]=some (wk n (.slice o1 e1 (as.map bZ)) (.slice o2 e2 (rs.map bU)) fun _=>false):=by
  rw[abq,vw,ak (by simp[tu])];rfl
 have lS:kB 803 (wk n (.slice o1 e1 (as.map bZ)) (.slice o2 e2 (rs.map bU)) fun _=>false)=true:=by
  rw[qw];refine⟨by simp[wk,tu],?_⟩
  simp[wk,AV.bt,Ws]
 have aiI:kB 803 (I 0::.slice .aA 0 []::.slice .aA 0 []::Hg 800)=true:=by
  rw[qw,abq];refine⟨by simp[tu],?_⟩
  simp[AV.bt,Ws]
 simp only[go_sem,MV,hs,hc,he,aY,eA,hz,lS,aiI,aP,simprocAttr]
 refine sE 0 _ _ (bg _) ?_
 exact⟨rfl,rfl,rfl,rfl,_,_,_,[],rfl,fun a t _=>by simp⟩
end
instance : Inhabited R:=⟨⟨ByteArray.empty,0,0,0,0,⟨.aA,0,[]⟩,0⟩⟩
def W.rq (w:W) (i:Int):R:=(w.rs.l[i.toNat]?).getD default
def W.py (w:W) (a:Int):Int:=((w.as.l[a.toNat]?).map (·.ja)).getD 0
theorem W.Rf {w:W} {i:Int} (h0:0≤i) (h:i<w.rs.l.length):w.rs.l[i.toNat]? =some (w.rq i):=by
 obtain⟨x,hx⟩:=get_some (l:=w.rs.l) (k:=i.toNat) (by omega)
 rw[W.rq,hx];rfl
theorem W.qg {w:W} {i:Int} (h0:0≤i) (h:i<w.rs.l.length):w.rq i∈w.rs.l:=bQ (W.Rf h0 h)
structure ch (w:W) (p:P):Prop where
 r0:0≤p.req
 r1:p.req<w.rs.l.length
 s0:0≤p.start
 s1:p.start≤200
 an:∀a∈p.an.l,0≤a∧a<w.as.l.length
 ok:p.an.ok 1
 len:(p.an.l.length:Int)<9223372036854775808
structure Wk (w:W):Prop where
 ok:w.Ok
 rL:w.kn
 v:SK w
def lN (w:W) (p:P):Int:=p.start+(w.rq p.req).len
def uG (w:W) (a b:P):Bool:=a.an.l.any fun n=>(b.an.l.any fun m=>decide (n=m))&&decide (b.start-lN w a<(if(w.rq a.req).bw=(w.rq b.req).bw then 0 else w.py n))
def dE (w:W) (a b:P):Bool:=if a.req=b.req then true else if b.start<a.start then uG w b a else uG w a b
def cS (w:W) (a st len:Int):Bool:=match w.as.l[a.toNat]? with
 |some x=>!(List.range len.toNat).any fun q=>isClosed x (st+q)
 |none=>true
section
variable{s:ae} {w:W}
theorem asP {n:Int} {a r:AV} {f:Nat→Bool} {i st len:Nat} (hi:i<4) (h:st+len≤200):iH (.arr 200 1) (.bq (wk n a r f) (3+i*200)) (some (I (st:Int))) (some (I ((st+len:Nat):Int))) none=some (.slice .any 1 ((tW f (i*200+st) len).map fun b=>[B b])):=by
 have h1:lj (some (I ((st+len:Nat):Int))) false 200 200=some (st+len):=by simp[lj,asNat];omega
 have h2:kf (some (I (st:Int))) (st+len)=some st:=by simp[kf,asNat];omega
 have h3:3+i*200+200*1≤(wk n a r f).length:=by simp[wk,tu];omega
 have h4:chunks 1 (st+len-st) ((wk n a r f).drop (3+i*200+st*1))=(tW f (i*200+st) len).map fun b=>[B b]:=by
  rw[show st+len-st=len by omega,show 3+i*200+st*1=3+(i*200+st)by omega]
  exact aeh (by omega)
 simp only[iH,h1,h2,s7,ef,cE,eK,h3,bB,h4]
theorem asr {f:Nat→Bool} {j m:Nat}:(tW f j m).length=m:=by simp[tW]
theorem aci {m:Nat} {f g:Nat→Bool} (h:∀q,q<m→f q=g q):(List.range m).any f=(List.range m).any g:=by
 rw[vI]
 simp only[fK,nP]
 constructor<;>rintro⟨q,h1,h2⟩<;>exact⟨q,h1,by simpa[h q h1]using h2⟩
theorem abh {a st len:Int} (hw:Wk w) (h0:0≤a) (h1:a<w.as.l.length) (h2:0≤st) (h3:0≤len) (h4:st+len≤200):
  aw AP (.fn 86) [OW w,I a,I st,I len] s=some (B (cS w a st len),s):=by
 have oR:=hw.v.al
 obtain⟨i,rfl⟩:∃i:Nat,a=i:=⟨a.toNat,by omega⟩
 obtain⟨t,rfl⟩:∃i:Nat,st=i:=⟨st.toNat,by omega⟩
 obtain⟨m,rfl⟩:∃i:Nat,len=i:=⟨len.toNat,by omega⟩
 have sd:idx (.v (.int .i64 (i:Int))) 4=some i:=Kp (by omega)
 have sv:=asP (n:=w.ow) (a:=w.as.v bZ) (r:=w.rs.v bU) (f:=AA w.as.l) (i:=i) (st:=t) (len:=m) (by omega) (by omega)
 have xi:IntKind.i64.wrap ((t:Int)+(m:Int))=((t+m:Nat):Int):=by rw[bW]<;>omega
 have lQ:∀r,aw AP (.fn 102) [.slice .any 1 ((tW (AA w.as.l) (i*200+t) m).map fun b=>[B b]),B true] (s.push r)=some (B ((tW (AA w.as.l) (i*200+t) m).any fun a=>(true==a)),s.push r):=fun r=>atS (.inr rfl) (by rw[asr];omega)
 rw[aL (show AP 86=some EJ from rfl) rfl]
 simp only[OW]
 simp only[Sl.v]at sv lQ
 simp only[go_sem,T2,sd,show 0+3+i*200=3+i*200 by omega,sv,xi,lQ,aP,simprocAttr]
 rw[asq]
 congr 4
 unfold cS
 obtain⟨x,hx⟩:=get_some (l:=w.as.l) (k:=i) (by omega)
 simp only[Ci,hx]
 congr 1
 refine aci fun q hq=>?_
 rw[UY,show(i*200+t+q)/200=i by omega,show(i*200+t+q)%200=t+q by omega]
 simp only[wC,hx]
 rfl
theorem qU (hw:Wk w) {i:Int} (h0:0≤i) (h1:i<w.rs.l.length):kG none 7 (.slice w.rs.o w.rs.e (w.rs.l.map bU)) (I i)=some (.bq (bU (w.rq i)) 0):=by
 have:=Sl.ix (f:=bU) hw.ok.rs (W.Rf h0 h1)
 rwa [show((i.toNat:Nat):Int)=i by omega]at this
theorem Ky (hw:Wk w) {i:Int} (h0:0≤i) (h1:i<w.as.l.length):∃a,w.as.l[i.toNat]? =some a∧w.py i=a.ja∧kG none 3 (.slice w.as.o w.as.e (w.as.l.map bZ)) (I i)=some (.bq (bZ a) 0):=by
 obtain⟨x,hx⟩:=get_some (l:=w.as.l) (k:=i.toNat) (by omega)
 have:=Sl.ix (f:=bZ) hw.ok.as hx
 refine⟨x,hx,by rw[W.py,hx];rfl,?_⟩
 rwa [show((i.toNat:Nat):Int)=i by omega]at this
theorem Wk.rq (hw:Wk w) {i:Int} (h0:0≤i) (h1:i<w.rs.l.length):LP w.ow w.as.l.length (w.rq i):=hw.v.r _ (W.qg h0 h1)
theorem Wk.py (hw:Wk w) {i:Int} (h0:0≤i) (h1:i<w.as.l.length):0≤w.py i∧w.py i≤50:=by
 obtain⟨x,hx,he,_⟩:=Ky hw h0 h1
 have:=hw.v.a x (bQ hx)
 rw[he];exact⟨this.ass,this.ast⟩
theorem Wk.len (hw:Wk w) {i:Int} (h0:0≤i) (h1:i<w.rs.l.length):1≤(w.rq i).len∧(w.rq i).len≤200:=by
 have h:=hw.rq h0 h1
 have:=hw.v.n2
 exact⟨h.p9,by have:=h.pn;have:=h.qW;have:=h.bH;omega⟩
theorem atr {p:P} (hs:Ok s) (hw:Wk w) (h0:0≤p.req) (h1:p.req<w.rs.l.length) (h2:0≤p.start) (h3:p.start≤200):aw AP (.fn 121) [OW w,.agg (aj p)] s=some (I (lN w p),s):=by
 have hl:=hw.len h0 h1
 rw[aL (show AP 121=some EI from rfl) rfl]
 simp only[OW]
 simp only[go_sem,T1,hs,ub,qU hw h0 h1,bW (x:=p.start+(w.rq p.req).len) (by omega) (by omega),aP,simprocAttr]
 rfl
theorem atp {a b:P} {n:Int} {d1 d2 d3 d4 b1 b2 b3 b4:Nat} {c:Bool} (hs:Ok s) (hw:Wk w) (ha:ch w a) (hb:ch w b) (fq:0≤n) (F6:n<w.as.l.length)
  (e1:s.box d1 b1=some [OW w]) (e2:s.box d2 b2=some [B c]) (e3:s.box d3 b3=some (aj b)) (e4:s.box d4 b4=some (aj a)):
  aw AP (.fn 120) [I n,.ptr d1 b1 0,.ptr d2 b2 0,.ptr d3 b3 0,.ptr d4 b4 0] s=some (B ((b.an.l.any fun m=>decide (n=m))&&decide (b.start-lN w a<(if c=true then 0 else w.py n))),s):=by
 obtain⟨x,hx,cp,cr⟩:=Ky hw fq F6
 have hl:=hw.len ha.r0 ha.r1
 have h3:=hb.s0
 have h4:=hb.s1
 have h5:=ha.s0
 have h6:=ha.s1
 have hc:∀r,aw AP (.fn 62) [.slice b.an.o b.an.e (b.an.l.map fun a=>[I a]),I n] (s.push r)=some (B (b.an.l.any fun m=>decide (n=m)),s.push r):=fun r=>Lj hb.ok.1 hb.len
 have he:∀r,aw AP (.fn 121) [OW w,.agg (aj a)] (cT (s.push r))=some (I (lN w a),cT (s.push r)):=fun r=>atr vu hw ha.r0 ha.r1 ha.s0 ha.s1
 have Bk:0≤lN w a∧lN w a≤400:=by unfold lN;omega
 rw[aL (show AP 120=some EF from rfl) rfl]
 simp only[OW]at e1 he⊢
 simp only[go_sem,TX,hs,eO e1,eO e2,eO e3,eO e4,atA,cr,hc,aP,simprocAttr]
 simp only[aj,Sl.v]at he
 cases c<;>simp only[go_sem,he,hs,eO e1,eO e2,eO e3,eO e4,hc,bW (x:=b.start-lN w a) (by omega) (by omega),cp,ef,aP,simprocAttr]
theorem abg {a b:P} (hs:Ok s) (hw:Wk w) (ha:ch w a) (hb:ch w b):aw AP (.fn 105) [OW w,.agg (aj a),.agg (aj b)] s=some (B (dE w a b),s):=by
 have key:∀(a b:P) (junk:List (List AV)),ch w a→ch w b→aw AP (.fn 119) [.slice a.an.o a.an.e (a.an.l.map aD),.fn 120 [] [.ptr s.ag.length 0 0,.ptr s.ag.length 3 0,.ptr s.ag.length 2 0,.ptr s.ag.length 1 0]] (s.push ⟨[OW w]::aj a::aj b::[B (decide ((w.rq a.req).bw=(w.rq b.req).bw))]::junk,[]⟩)=some (B (uG w a b),s.push ⟨[OW w]::aj a::aj b::[B (decide ((w.rq a.req).bw=(w.rq b.req).bw))]::junk,[]⟩):=by
  intro a b junk ha hb
  refine atQ ha.ok.1 ha.len fun n hn r q=>?_
  have iV:=ha.an n hn
  have bx:∀{k:Nat} {cs:List AV},([OW w]::aj a::aj b::[B (decide ((w.rq a.req).bw=(w.rq b.req).bw))]::junk)[k]? =some cs→(((s.push ⟨[OW w]::aj a::aj b::[B (decide ((w.rq a.req).bw=(w.rq b.req).bw))]::junk,[]⟩).push r).push q).box s.ag.length k=some cs:=fun h=>eO (eO (by rw[iu];exact h) _) _
  rw[atp (((hs.push _).push _).push _) hw ha hb iV.1 iV.2 (bx rfl) (bx rfl) (bx rfl) (bx rfl)]
  simp only[dY]
 rw[aL (show AP 105=some EE from rfl) rfl]
 simp only[OW]at key⊢
 have ra:=qU hw ha.r0 ha.r1
 have rb:=qU hw hb.r0 hb.r1
 simp only[go_sem,TW,hs,ub,ra,rb,aP,simprocAttr]
 unfold dE
 by_cases h1:a.req=b.req
 ·simp only[h1,oJ,fZ,bB]
 ·simp only[h1,qs,iy,cE]
  by_cases h2:b.start<a.start
  ·have k:=key b a [] hb ha
   simp only[aj,Sl.v]at k
   simp only[h2,oJ,fZ,bB]
   simp only[go_sem,hs,ub,ra,rb,k,aP,simprocAttr]
  ·have k:=key a b [] ha hb
   simp only[aj,Sl.v]at k
   simp only[h2,qs,iy,cE]
   simp only[go_sem,hs,ub,ra,rb,k,aP,simprocAttr]
theorem atq {a b:P} {d1 d2 b1 b2:Nat} (hs:Ok s) (hw:Wk w) (ha:ch w a) (hb:ch w b) (e1:s.box d1 b1=some [OW w]) (e2:s.box d2 b2=some (aj b)):
  aw AP (.fn 104) [.agg (aj a),.ptr d1 b1 0,.ptr d2 b2 0] s=some (B (dE w a b),s):=by
 have h:=fun r=>abg (hs.push r) hw ha hb
 rw[aL (show AP 104=some EH from rfl) rfl]
 simp only[aj,Sl.v]at e2 h⊢
 simp only[go_sem,T0,hs,eO e1,eO e2,h,aP,simprocAttr]
def dL (w:W) (p:P) (l:List P):Bool:=l.any fun o=>dE w o p
theorem RH {p:P} {l:List P} {o:Own} {e:Nat} (hs:Ok s) (hw:Wk w) (hp:ch w p) (hl:∀x∈l,ch w x) (he:l=[]∨e=3) (hn:(l.length:Int)<9223372036854775808):
  aw AP (.fn 87) [OW w,.agg (aj p),.slice o e (l.map aj)] s=some (B (dL w p l),s):=by
 have h:∀r,aw AP (.fn 103) [.slice o e (l.map aj),.fn 104 [] [.ptr s.ag.length 0 0,.ptr s.ag.length 1 0]] (s.push ⟨[OW w]::aj p::r,[]⟩)=some (B (dL w p l),s.push ⟨[OW w]::aj p::r,[]⟩):=fun r=>
  atO he hn fun a ha r q=>atq (((hs.push _).push _).push _) hw (hl a ha) hp (eO (eO Nu _) _) (eO (eO Uq _) _)
 rw[aL (show AP 87=some EG from rfl) rfl]
 simp only[OW,aj,Sl.v]at h⊢
 simp only[go_sem,TY,hs,h,aP,simprocAttr]
theorem abj {n:Int} (hw:Wk w):aw AP (.fn 30) [OW w,I n] s=some (I (cond (wi n 0 (w.rs.l.length-1)) 0 6),s):=by
 have:=hw.v.rl
 rw[aL (show AP 30=some EO from rfl) rfl]
 simp only[OW]
 simp only[go_sem,T6,ub,bW (x:=(w.rs.l.length:Int)-1) (by omega) (by omega),vA,lH,aP,simprocAttr]
end
theorem afd {o:Own} {e e2:Nat} {xs ys:List (List AV)}:oK .slice (.slice o e xs) (.slice .aA e2 ys)=some o.isNil:=by
 cases o<;>rfl
theorem ao7:Own.aA.isNil=true:=rfl
attribute [go_sem] afd ao7
def bf:Nat→List Int→List (List Int)
 |0,_=>[[]]
 |_+1,[]=>[]
 |k+1,x::r=>(bf k r).map (x::·)++bf (k+1) r
theorem tz:∀{k:Nat} {l g:List Int},g∈bf k l→g.length=k
 |0,_,g,h=>by simp[bf]at h;simp[h]
 |k+1,[],g,h=>by simp[bf]at h
 |k+1,x::r,g,h=>by
  simp only[bf,dD,cC]at h
  rcases h with⟨q,hq,rfl⟩|h
  ·simp[tz hq]
  ·exact tz h
theorem A3:∀{k:Nat} {l g:List Int},g∈bf k l→g.Sublist l
 |0,_,g,h=>by simp[bf]at h;simp[h]
 |k+1,[],g,h=>by simp[bf]at h
 |k+1,x::r,g,h=>by
  simp only[bf,dD,cC]at h
  rcases h with⟨q,hq,rfl⟩|h
  ·exact(A3 hq).cons_cons x
  ·exact(A3 h).cons x
section
variable{s:ae} {w:W}
def BD (l:List Int) (x:AV):Prop:=(l=[]∧x=.slice .aA 0 [])∨(l≠[]∧∃o,o.isNil=false∧x=.slice o 1 (l.map aD))
theorem BD.len {l:List Int} {x:AV} (h:BD l x):mN false x=some (I l.length):=by
 rcases h with⟨rfl,rfl⟩|⟨_,o,_,rfl⟩
 ·rfl
 ·simp[mN,AV.int]
theorem BD.cut {l:List Int} {x:AV} (h:BD l x):∃x',iH (.sl 1) x none (some (I l.length)) (some (I l.length))=some x'∧
  ∀(q:ae) (b:List (List AV)) (tk:List (Option Nat)) (n:Int),l.length+1≤4294967296→∃tk',eD (q.push ⟨b,tk⟩) 1 x' (.slice .full 1 [[I n]])=some (.slice (.tok q.ag.length tk.length) 1 ((l++[n]).map aD),q.push ⟨b,tk'⟩):=by
 rcases h with⟨rfl,rfl⟩|⟨hn,o,ho,rfl⟩
 ·refine⟨.slice .aA 0 [],rfl,fun q b tk n _=>⟨tk++[some 1],?_⟩⟩
  simp[eD,Own.isNil,most,qb,oE]
 ·have h1:asNat (I (l.length:Int)) l.length=some l.length:=by simp[asNat]
  refine⟨.slice .full 1 (l.map aD),?_,fun q b tk n hl=>⟨tk++[some (l.length+1)],?_⟩⟩
  ·have hp:0<l.length:=Cm.2 hn
   have ht:List.take l.length (List.map aD l)=List.map aD l:=by rw[←bY (f:=aD),jg]
   simp[iH,qX,lj,kf,h1,xD,ho,hn,hp,ht]
  ·simp[eD,Own.isNil,most,qb,oE,hl]
theorem aaG {α:Type} {f:α→List AV} {o:Own} {es k:Nat} {l:List α} (hk:k≤l.length):∃o',iH (.sl es) (.slice o es (l.map f)) (some (.v (.int .i64 (k:Int)))) none none=some (.slice o' es ((l.drop k).map f)):=by
 have h1:kf (some (AV.v (.int .i64 (k:Int)))) l.length=some k:=by simp[kf,asNat];omega
 refine⟨xD o false (k==0&&(l.map f).length==(l.map f).length) ((l.map f).length==(l.map f).length&&0<(l.map f).length),?_⟩
 have ht:List.take l.length (List.map f l)=List.map f l:=by rw[←bY (f:=f),jg]
 simp[iH,qX,lj,h1,ht,List.map_drop]
theorem agk {rs:Nat} {ρ:Nat→AV} {m:ae}:finish [.tmp rs] true ⟨ρ,m⟩=kg m (ρ rs):=rfl
theorem Zw {m:ae} {e:Nat} {xs:List (List AV)}:kg m (.slice .aA e xs)=some (.slice .aA e xs,m.pop):=rfl
theorem aql {r:Rec} {g e:Nat} {xs:List (List AV)} {m:ae}:kg ((cT m).push r) (.slice (.tok m.ag.length g) e xs)=some (.slice .any e xs,cT m):=by
 have:¬(((cT m).push r).ro<m.ag.length):=zU _
 simp[kg,this,pop_push]
attribute [go_sem] agk Zw aql
theorem abp {l:List Int} {x:AV} (hx:BD l x) (hl:l.length≤4294967296):aw AP (.fn 60) [x] (cT s)=some (bG 1 (l.map aD),cT s):=by
 rw[aL (show AP 60=some ER from rfl) rfl]
 rcases hx with⟨rfl,rfl⟩|⟨hn,o,ho,rfl⟩
 ·simp(maxSteps:=1000000) only[go_sem,Nc,Nat.reduceEqDiff,reduceCtorEq,Nat.reduceAdd,Nat.reduceMul,Nat.reduceSub,Int.reduceLT,Int.reduceLE,Int.reduceEq,Int.reduceAdd,Int.reduceSub,Int.reduceNeg,Int.reduceToNat,aP,↓reduceIte];rfl
 ·have he:(l.map aD).isEmpty=false:=by cases l<;>simp_all
  have ha:eD ((cT s).push ⟨[],[]⟩) 1 (.slice .full 1 []) (.slice o 1 (l.map aD))=some (.slice (.tok s.ag.length 0) 1 (l.map aD),(cT s).push ⟨[],[some l.length]⟩):=by
   have h2:(cT s).ag.length=s.ag.length:=rfl
   have h3:=qb (cT s) ⟨[],[]⟩
   have h4:=oE (cT s) ⟨[],[]⟩ l.length
   rw[h2]at h3 h4
   simp[eD,Own.isNil,most,hl,hn,h2,h3,h4]
  have hv:bG 1 (l.map aD)=.slice .any 1 (l.map aD):=by cases l<;>simp_all [bG]
  rw[hv]
  simp(maxSteps:=1000000) only[go_sem,Nc,ho,ha,Nat.reduceEqDiff,reduceCtorEq,Nat.reduceAdd,Nat.reduceMul,Nat.reduceSub,Int.reduceLT,Int.reduceLE,Int.reduceEq,Int.reduceAdd,Int.reduceSub,Int.reduceNeg,Int.reduceToNat,aP,↓reduceIte]
theorem ahs {ι : Type} {L N NL M : Nat} {base : ι → ae} {Iv : List (List Int) → ι → Prop} {stop : List (List Int) → List Int → Bool} {O : List (List Int) → List Int → ι → Prop} {X : List Int → Prop} (h : Hand AP L (fun l => bG 1 (l.map aD)) base Iv stop O X N NL M) {cnt : Nat} (r8 : (cnt : Int) < 1000000)
    {rg:Rec} (hy:rg.boxes[0]? =some [.yield L]) (hg:rg.boxes[1]? =some [.fn 59 [] [.bq [I cnt] 0,.ptr N 0 0,.ptr N 1 0]]):
    ∀ (n : Nat) (pre rest : List Int) (x : AV) (o : Own) (e : Nat) (i : ι) (done : List (List Int)) (B : List Rec) (ls : List dx), rest.length ≤ n → pre.length ≤ cnt → BD pre x → (rest = [] ∨ e = 1) → (rest.length : Int) < 1000000 →
      done.length+(bf (cnt-pre.length) rest).length≤M→Iv done i→(∀g∈bf (cnt-pre.length) rest,X (pre++g))→
      ∃b i',aw AP (.fn 59) [x,.slice o e (rest.map aD),.bq [I cnt] 0,.ptr N 0 0,.ptr N 1 0] (up (base i) (rg::B) ls)=some (AV.v (.bool b),up (base i') (rg::B) ls)∧Ends Iv stop O done ((bf (cnt-pre.length) rest).map (pre++·)) b i':=by
  intro n
  induction n with
  | zero =>
    intro pre rest x o e i done B ls hr hp hx he hl hM hI hX
    have jl:rest=[]:=sU (by omega)
    subst jl
    have b0:(up (base i) (rg::B) ls).box N 0=some [.yield L]:=by rw[←h.len i,Le,hy]
    have bE:=(h.ok i).up (B:=rg::B) (ls:=ls)
    by_cases hc:pre.length=cnt
    · obtain ⟨b, i', h1, h2⟩ := h.one (B := rg :: B) (ls := ls) (by rw [show cnt - pre.length = 0 by omega] at hM; simp [bf] at hM; omega) hI (by have := hX [] (by rw [show cnt - pre.length = 0 by omega]; simp [bf]); simpa using this) ⟨[], []⟩
      refine⟨b,i',?_,by rw[show cnt-pre.length=0 by omega];simpa[bf]using h2⟩
      rw[aL (show AP 59=some wx from rfl) rfl]
      have aT:∀q:ae,aw AP (.fn 60) [x] (cT q)=some (bG 1 (pre.map aD),cT q):=fun q=>abp hx (by omega)
      simp(maxSteps:=1000000) only[go_sem,Di,hx.len,hc,bE,eO b0,aT,h1,Nat.reduceEqDiff,reduceCtorEq,Nat.reduceAdd,Nat.reduceMul,Nat.reduceSub,Int.reduceLT,Int.reduceLE,Int.reduceEq,Int.reduceAdd,Int.reduceSub,Int.reduceNeg,Int.reduceToNat,aP,↓reduceIte]
    · have hk : cnt - pre.length = (cnt - pre.length - 1) + 1 := by omega
      refine⟨true,i,?_,by rw[hk];simp[bf,Ends,hI]⟩
      rw[aL (show AP 59=some wx from rfl) rfl]
      have hd:decide ((pre.length:Int)=(cnt:Int))=false:=by simp;omega
      simp(maxSteps:=1000000) only[go_sem,Di,hx.len,hd,Nat.reduceEqDiff,reduceCtorEq,Nat.reduceAdd,Nat.reduceMul,Nat.reduceSub,Int.reduceLT,Int.reduceLE,Int.reduceEq,Int.reduceAdd,Int.reduceSub,Int.reduceNeg,Int.reduceToNat,aP,↓reduceIte]
      rw[go_loop]
      simp(maxSteps:=1000000) only[go_sem,Dj,Dk,Nat.reduceEqDiff,reduceCtorEq,Nat.reduceAdd,Nat.reduceMul,Nat.reduceSub,Int.reduceLT,Int.reduceLE,Int.reduceEq,Int.reduceAdd,Int.reduceSub,Int.reduceNeg,Int.reduceToNat,aP,↓reduceIte]
  | succ n P0 =>
    intro pre rest x o e i done B ls hr hp hx he hl hM hI hX
    have b0:∀i,(up (base i) (rg::B) ls).box N 0=some [.yield L]:=fun i=>by have:=Le (S:=base i) (B:=B) (ls:=ls) (r:=rg) (b:=0);rw[h.len i]at this;rw[this,hy]
    have b1:∀i,(up (base i) (rg::B) ls).box N 1=some [.fn 59 [] [.bq [I cnt] 0,.ptr N 0 0,.ptr N 1 0]]:=fun i=>by have:=Le (S:=base i) (B:=B) (ls:=ls) (r:=rg) (b:=1);rw[h.len i]at this;rw[this,hg]
    have bE:∀i,Ok (up (base i) (rg::B) ls):=fun i=>(h.ok i).up (B:=rg::B) (ls:=ls)
    by_cases hc:pre.length=cnt
    · obtain ⟨b, i', h1, h2⟩ := h.one (B := rg :: B) (ls := ls) (by rw [show cnt - pre.length = 0 by omega] at hM; simp [bf] at hM; omega) hI (by have := hX [] (by rw [show cnt - pre.length = 0 by omega]; simp [bf]); simpa using this) ⟨[], []⟩
      refine⟨b,i',?_,by rw[show cnt-pre.length=0 by omega];simpa[bf]using h2⟩
      rw[aL (show AP 59=some wx from rfl) rfl]
      have aT:∀q:ae,aw AP (.fn 60) [x] (cT q)=some (bG 1 (pre.map aD),cT q):=fun q=>abp hx (by omega)
      simp(maxSteps:=1000000) only[go_sem,Di,hx.len,hc,bE i,eO (b0 i),aT,h1,Nat.reduceEqDiff,reduceCtorEq,Nat.reduceAdd,Nat.reduceMul,Nat.reduceSub,Int.reduceLT,Int.reduceLE,Int.reduceEq,Int.reduceAdd,Int.reduceSub,Int.reduceNeg,Int.reduceToNat,aP,↓reduceIte]
    · obtain ⟨k, hk⟩ : ∃ k, cnt - pre.length = k + 1 := ⟨cnt - pre.length - 1, by omega⟩
      rw[hk]at hX hM⊢
      have hd:decide ((pre.length:Int)=(cnt:Int))=false:=by simp;omega
      have key:∀j ρ m,j≤rest.length→(ρ 0=x∧ρ 1=.slice o e (rest.map aD)∧ρ 4=.ptr N 1 0∧ρ 18=.slice o e (rest.map aD)∧ρ 19=I rest.length∧ρ 20=I j∧
          ∃i tk p7,m=(up (base i) (rg::B) ls).push ⟨[],tk⟩∧p7++(bf (k+1) (rest.drop j)).map (pre++·)=(bf (k+1) rest).map (pre++·)∧Ends Iv stop O done p7 true i)→
          ∃b i',go AP afM (.c (.loop Dj)::anl) ⟨ρ,m⟩=some (AV.v (.bool b),up (base i') (rg::B) ls)∧Ends Iv stop O done ((bf (k+1) rest).map (pre++·)) b i':=by
        refine YJ rest.length _ (fun r=>∃b i',r=some (AV.v (.bool b),up (base i') (rg::B) ls)∧Ends Iv stop O done ((bf (k+1) rest).map (pre++·)) b i') ?_ ?_
        · rintro j ρ m hj ⟨h0, h1, h4, fE, pO, Oi, i, tk, p7, rfl, hits, hE⟩ ih
          obtain⟨y,Km⟩:=get_some hj
          have ns:e=1:=by rcases he with h|h;(rw[h]at Km;simp at Km);exact h
          subst ns
          have fG:=cq (f:=aD) (o:=o) (es:=1) Km
          obtain⟨x',vf,sw⟩:=hx.cut
          obtain⟨tk',vg⟩:=sw (up (base i) (rg::B) ls) [] tk y (by omega)
          have hw:IntKind.i64.wrap ((j:Int)+1)=((j+1:Nat):Int):=by rw[bW]<;>omega
          obtain⟨o',oY⟩:=aaG (f:=aD) (o:=o) (es:=1) (l:=rest) (k:=j+1) (by omega)
          have JS:rest.drop j=y::rest.drop (j+1):=eP Km
          have PE:(bf (k+1) (rest.drop j)).map (pre++·)=(bf k (rest.drop (j+1))).map ((pre++[y])++·)++(bf (k+1) (rest.drop (j+1))).map (pre++·):=by
            rw[JS];simp[bf,RX]
          have iC:cnt-(pre++[y]).length=k:=by simp;omega
          have hXs:∀g∈bf (k+1) (rest.drop j),X (pre++g):=fun g hg=>by
            have hm:pre++g∈(bf (k+1) rest).map (pre++·):=by
              rw[←hits];exact Hw _ (cC.2 ⟨g,hg,rfl⟩)
            obtain⟨g',bu,e'⟩:=cC.1 hm
            have e':pre++g'=pre++g:=e'
            rw[←e'];exact hX g' bu
          obtain⟨b,i',dT,gg⟩:=P0 (pre++[y]) (rest.drop (j+1)) (.slice (.tok (up (base i) (rg::B) ls).ag.length tk.length) 1 ((pre++[y]).map aD)) o' 1 i (done++p7) (B++[⟨[],tk'⟩]) ls (by rw[sX];omega) (by simp;omega)
            (.inr ⟨by simp,_,rfl,rfl⟩) (.inr rfl) (by rw[sX];omega) (by
              have hh:=hU List.length hits
              rw[PE]at hh
              simp only[cj,bY]at hh⊢
              simp only[cj,xR]at iC
              rw[show cnt-(pre.length+[y].length)=k from iC];omega) hE.all (by
              rw[iC];intro g hg
              have:=hXs (y::g) (by rw[JS];simp only[bf];exact pF _ (cC.2 ⟨g,hg,rfl⟩))
              simpa using this)
          rw[iC]at gg
          have Xz:∀i:ι,up (base i) (rg::(B++[⟨[],tk'⟩])) ls=(up (base i) (rg::B) ls).push ⟨[],tk'⟩:=fun i=>by rw[Ld];rfl
          rw[Xz,Xz]at dT
          simp(maxSteps:=1000000) only[go_sem,Dj,Dk,h0,h1,h4,fE,pO,Oi,aS hj,fG,eO (b1 i),hx.len,vf,vg,hw,oY,dT,Nat.reduceEqDiff,reduceCtorEq,Nat.reduceAdd,Nat.reduceMul,Nat.reduceSub,Int.reduceLT,Int.reduceLE,Int.reduceEq,Int.reduceAdd,Int.reduceSub,Int.reduceNeg,Int.reduceToNat,aP,↓reduceIte]
          cases b with
          | true =>
            simp(maxSteps:=1000000) only[go_sem,Nat.reduceEqDiff,reduceCtorEq,Nat.reduceAdd,Nat.reduceMul,Nat.reduceSub,Int.reduceLT,Int.reduceLE,Int.reduceEq,Int.reduceAdd,Int.reduceSub,Int.reduceNeg,Int.reduceToNat,aP,↓reduceIte]
            refine ih _ _ ?_
            refine⟨h0,h1,h4,fE,pO,rfl,i',tk',p7++(bf k (rest.drop (j+1))).map ((pre++[y])++·),rfl,?_,?_⟩
            · rw[gW,←PE,hits]
            · exact hE.HS gg
          | false =>
            simp(maxSteps:=1000000) only[go_sem,Nat.reduceEqDiff,reduceCtorEq,Nat.reduceAdd,Nat.reduceMul,Nat.reduceSub,Int.reduceLT,Int.reduceLE,Int.reduceEq,Int.reduceAdd,Int.reduceSub,Int.reduceNeg,Int.reduceToNat,aP,↓reduceIte]
            refine⟨false,i',rfl,?_⟩
            rw[←hits,PE,←gW]
            exact(hE.HS gg).SY _
        · rintro ρ m ⟨h0, h1, h4, fE, pO, Oi, i, tk, p7, rfl, hits, hE⟩
          simp(maxSteps:=1000000) only[go_sem,Dj,Dk,h0,h1,h4,fE,pO,Oi,bM,Nat.reduceEqDiff,reduceCtorEq,Nat.reduceAdd,Nat.reduceMul,Nat.reduceSub,Int.reduceLT,Int.reduceLE,Int.reduceEq,Int.reduceAdd,Int.reduceSub,Int.reduceNeg,Int.reduceToNat,aP,↓reduceIte]
          refine⟨true,i,rfl,?_⟩
          rw[eR]at hits
          simp only[bf,nO,jd]at hits
          rw[←hits];exact hE
      rw[aL (show AP 59=some wx from rfl) rfl]
      simp(maxSteps:=1000000) only[go_sem,Di,hx.len,hd,Nat.reduceEqDiff,reduceCtorEq,Nat.reduceAdd,Nat.reduceMul,Nat.reduceSub,Int.reduceLT,Int.reduceLE,Int.reduceEq,Int.reduceAdd,Int.reduceSub,Int.reduceNeg,Int.reduceToNat,aP,↓reduceIte]
      refine key 0 _ _ (bg _) ?_
      exact⟨rfl,rfl,rfl,rfl,rfl,rfl,i,[],[],rfl,by simp,⟨rfl,by simpa using hI⟩⟩
theorem Wu {ι:Type} {L N NL M:Nat} {base:ι→ae} {Iv:List (List Int)→ι→Prop} {stop:List (List Int)→List Int→Bool} {O:List (List Int)→List Int→ι→Prop} {X:List Int→Prop} (h:Hand AP L (fun l=>bG 1 (l.map aD)) base Iv stop O X N NL M) {cnt:Nat} (r8:(cnt:Int)<1000000)
  {l:List Int} {o:Own} {e:Nat} {i:ι} {done:List (List Int)} (he:l=[]∨e=1) (hl:(l.length:Int)<1000000) (hM:done.length+(bf cnt l).length≤M) (hI:Iv done i) (hX:∀g∈bf cnt l,X g):
  ∃b i',aw AP (.fn 58) [.yield L,.bq [I cnt] 0,.bq [.slice o e (l.map aD)] 0] (base i)=some (.tuple [],base i')∧Ends Iv stop O done (bf cnt l) b i':=by
 have bE:=h.ok i
 have hlen:=h.len
 obtain⟨b,i',h1,h2⟩:=ahs h r8 (rg:=⟨[[.yield L],[.fn 59 [] [.bq [I cnt] 0,.ptr N 0 0,.ptr N 1 0]]],[]⟩) rfl rfl l.length [] l (.slice .aA 0 []) o e i done [] [] (aH _) (bg _) (.inl ⟨rfl,rfl⟩) he hl hM hI (by simpa using hX)
 refine⟨b,i',?_,by simpa using h2⟩
 rw[aL (show AP 58=some En from rfl) rfl]
 have hp:∀i:ι,up (base i) [⟨[[.yield L],[.fn 59 [] [.bq [I cnt] 0,.ptr N 0 0,.ptr N 1 0]]],[]⟩] []=(base i).push ⟨[[.yield L],[.fn 59 [] [.bq [I cnt] 0,.ptr N 0 0,.ptr N 1 0]]],[]⟩:=fun i=>QS.symm
 rw[hp,hp]at h1
 rw[←hlen i]at h1
 simp(maxSteps:=1000000) only[go_sem,TK,bE,h1,Nat.reduceEqDiff,reduceCtorEq,Nat.reduceAdd,Nat.reduceMul,Nat.reduceSub,Int.reduceLT,Int.reduceLE,Int.reduceEq,Int.reduceAdd,Int.reduceSub,Int.reduceNeg,Int.reduceToNat,aP,↓reduceIte]
theorem aoa {m:ae} {f:FuncId} {caps:List AV}:ed m (.fn f [] caps)=(l4 m caps).map (.fn f [] ·):=rfl
theorem an3 {m:ae}:l4 m []=some []:=rfl
theorem an4 {q:ae} {r:Rec} {b off:Nat} {rest:List AV}:l4 (q.push r) (.ptr q.ag.length b off::rest)=((r.boxes[b]?).bind closeAll).bind fun cs=>(l4 (q.push r) rest).map (.bq cs off::·):=by
 rw[l4,ak (by rw[fD]),iu]
 cases(r.boxes[b]?).bind closeAll with
 |none=>rfl
 |some cs=>cases l4 (q.push r) rest<;>rfl
attribute [go_sem] aoa an3 an4
theorem aai {o:Own} {es:Nat} {rows:List (List AV)} {c:AV} {n:Int} (hl:(AV.slice o es rows).close=some c) (hs:Ok s):aw AP (.fn 32) [.slice o es rows,I n] s=some (.fn 58 [] [.bq [I n] 0,.bq [c] 0],s):=by
 rw[aL (show AP 32=some Em from rfl) rfl]
 simp(maxSteps:=1000000) only[go_sem,TJ,hs,hl,Nat.reduceEqDiff,reduceCtorEq,Nat.reduceAdd,Nat.reduceMul,Nat.reduceSub,Int.reduceLT,Int.reduceLE,Int.reduceEq,Int.reduceAdd,Int.reduceSub,Int.reduceNeg,Int.reduceToNat,aP,↓reduceIte]
def tV (w:W) (q:R) (st:Int):List Int:=q.an.l.filter fun a=>cS w a st q.len
def l8 (w:W) (i st:Int):List P:=(bf (w.rq i).need.toNat (tV w (w.rq i) st)).map fun g=>⟨i,st,fh g⟩
def jJ (w:W) (i:Int):Int→Nat→List P
 |_,0=>[]
 |st,n+1=>l8 w i st++jJ w i (st+1) n
def dS (w:W) (i:Int):List P:=jJ w i (w.rq i).lo ((w.rq i).hi-(w.rq i).len+2-(w.rq i).lo).toNat
theorem ab0 {g:List Int} (h:g≠[]):bG 1 (g.map aD)=(fh g).v aD:=by
 cases g with
 |nil=>exact absurd rfl h
 |cons a r=>rfl
section
variable{ι:Type} {L N NL M:Nat} {base:ι→ae} {Iv:List P→ι→Prop} {stop:List P→P→Bool} {O:List P→P→ι→Prop} {X:P→Prop}
abbrev tR (base:ι→ae) (R:Rec) (ρ:Nat→AV) (j:ι×Option cV):ae:=up (base j.1) [R] [⟨j.2.isNone,j.2,ρ,[54],jX,jY⟩]
theorem aqS {S S':ae} {l L d k:Nat} {ρ:Nat→AV} {xs:List (List AV)} {i st:Int} {b:Bool} (hR:ml l ⟨true,none,ρ,[54],jX,jY⟩ S) (JH:ml l ⟨true,none,ρ,[54],jX,jY⟩ S') (hS:Ok S)
  (h2:ρ 2=.bq [I i] 0) (h3:ρ 3=.ptr d 0 0) (h5:ρ 5=.ptr d k 0) (b0:S.box d 0=some [.yield L]) (bk:S.box d k=some [I st])
  (hc:aw AP (.yield L) [.agg [I i,I st,.slice .any 1 xs]] ((busy l S).push ⟨[],[]⟩)=some (AV.v (.bool b),(busy l S').push ⟨[],[]⟩)):
  aw AP (.yield l) [.slice .any 1 xs] S=some (AV.v (.bool b),if b=true then S' else over l .ret S'):=by
 refine(Ny hR rfl).trans ?_
 have k0:=fun r=>eO (m:=busy l S) b0 r
 have kk:=fun r=>eO (m:=busy l S) bk r
 simp(maxSteps:=1000000) only[go_sem,jX,Ju hR,hS,GY,Nat.reduceEqDiff,reduceCtorEq,Nat.reduceAdd,Nat.reduceMul,Nat.reduceSub,Int.reduceLT,Int.reduceLE,Int.reduceEq,Int.reduceAdd,Int.reduceSub,Int.reduceNeg,Int.reduceToNat,aP,↓reduceIte]
 simp(maxSteps:=1000000) only[go_sem,jY,hS,h2,h3,h5,k0,kk,hc,Nat.reduceEqDiff,reduceCtorEq,Nat.reduceAdd,Nat.reduceMul,Nat.reduceSub,Int.reduceLT,Int.reduceLE,Int.reduceEq,Int.reduceAdd,Int.reduceSub,Int.reduceNeg,Int.reduceToNat,aP,↓reduceIte]
 cases b with
 |true=>simp(maxSteps:=1000000) only[go_sem,N3 JH,bB,Nat.reduceEqDiff,reduceCtorEq,Nat.reduceAdd,Nat.reduceMul,Nat.reduceSub,Int.reduceLT,Int.reduceLE,Int.reduceEq,Int.reduceAdd,Int.reduceSub,Int.reduceNeg,Int.reduceToNat,aP,↓reduceIte]
 |false=>simp(maxSteps:=1000000) only[go_sem,VY,ef,cE,Nat.reduceEqDiff,reduceCtorEq,Nat.reduceAdd,Nat.reduceMul,Nat.reduceSub,Int.reduceLT,Int.reduceLE,Int.reduceEq,Int.reduceAdd,Int.reduceSub,Int.reduceNeg,Int.reduceToNat,aP,↓reduceIte]
theorem aqP (h:Hand AP L (fun p=>.agg (aj p)) base Iv stop O X N NL M) {R:Rec} {ρ:Nat→AV} {i st:Int} {k:Nat} {d0:List P} {n:Nat}
  (h2:ρ 2=.bq [I i] 0) (h3:ρ 3=.ptr N 0 0) (h5:ρ 5=.ptr N k 0) (b0:R.boxes[0]? =some [.yield L]) (bk:R.boxes[k]? =some [I st]):
  Hand AP NL (fun g=>bG 1 (g.map aD)) (tR base R ρ) (fun dn j=>j.2=none∧Iv (d0++dn.map fun g=>⟨i,st,fh g⟩) j.1) (fun dn g=>stop (d0++dn.map fun g=>⟨i,st,fh g⟩) ⟨i,st,fh g⟩)
   (fun dn g j=>j.2=some .ret∧O (d0++dn.map fun g=>⟨i,st,fh g⟩) ⟨i,st,fh g⟩ j.1) (fun g=>g.length=n+1∧X ⟨i,st,fh g⟩) (N+1) (NL+1) (M-d0.length):=by
 have main:∀(dn:List (List Int)) (g:List Int) (j:ι×Option cV) (B:List Rec) (ls:List dx),dn.length<M-d0.length→(j.2=none∧Iv (d0++dn.map fun g=>⟨i,st,fh g⟩) j.1)→(g.length=n+1∧X ⟨i,st,fh g⟩)→
   ∃b i',Ends Iv stop O (d0++dn.map fun g=>⟨i,st,fh g⟩) [⟨i,st,fh g⟩] b i'∧aw AP (.yield NL) [bG 1 (g.map aD)] (up (tR base R ρ j) B ls)=some (AV.v (.bool b),up (tR base R ρ (i',if b then none else some .ret)) B ls):=by
  rintro dn g ⟨i1,p⟩ B ls hm ⟨hp,hI⟩ ⟨hg,hX⟩
  simp only at hp hI
  subst hp
  have aR:=h.jG
  obtain⟨b,i',h1,h4⟩:=h.one (B:=[R]++B) (ls:=[⟨false,none,ρ,[54],jX,jY⟩]++ls) (by simp;omega) hI hX ⟨[],[]⟩
  refine⟨b,i',h4,?_⟩
  have wW:g≠[]:=by intro e;rw[e]at hg;simp at hg
  have hN:=h.len
  have bx:∀(i1:ι) (q:Nat) (lp:dx),(up (base i1) (R::B) (lp::ls)).box N q=R.boxes[q]? :=fun i1 q lp=>by rw[←hN i1,Le]
  have hR:ml NL ⟨true,none,ρ,[54],jX,jY⟩ (up (base i1) (R::B) (⟨true,none,ρ,[54],jX,jY⟩::ls)):=Z0 (h.ok i1) (aR i1) rfl rfl
  have JH:ml NL ⟨true,none,ρ,[54],jX,jY⟩ (up (base i') (R::B) (⟨true,none,ρ,[54],jX,jY⟩::ls)):=Z0 (h.ok i') (aR i') rfl rfl
  have e1:∀(i1:ι) (lp:dx),up (up (base i1) [R] [lp]) B ls=up (base i1) (R::B) (lp::ls):=fun i1 lp=>by rw[atm];rfl
  have WW:∀i1:ι,busy NL (up (base i1) (R::B) (⟨true,none,ρ,[54],jX,jY⟩::ls))=up (base i1) (R::B) (⟨false,none,ρ,[54],jX,jY⟩::ls):=fun i1=>adw (aR i1)
  have hov:over NL .ret (up (base i') (R::B) (⟨true,none,ρ,[54],jX,jY⟩::ls))=up (base i') (R::B) (⟨false,some .ret,ρ,[54],jX,jY⟩::ls):=aqi (aR i')
  simp only[tR,e1,Option.isNone_none]
  have bE:=(h.ok i1).up (B:=R::B) (ls:=⟨true,none,ρ,[54],jX,jY⟩::ls)
  have yR:bG 1 (g.map aD)=.slice .any 1 (g.map aD):=by cases g with|nil=>exact absurd rfl wW|cons a r=>rfl
  rw[yR]
  have eV:aw AP (.yield L) [.agg [I i,I st,.slice .any 1 (g.map aD)]] ((busy NL (up (base i1) (R::B) (⟨true,none,ρ,[54],jX,jY⟩::ls))).push ⟨[],[]⟩)=some (AV.v (.bool b),(busy NL (up (base i') (R::B) (⟨true,none,ρ,[54],jX,jY⟩::ls))).push ⟨[],[]⟩):=by
   simp only[kq,kN,aj,←ab0 wW,yR]at h1
   rw[WW,WW];exact h1
  refine(aqS hR JH bE h2 h3 h5 (by rw[bx,b0]) (by rw[bx,bk]) eV).trans ?_
  cases b with
  |true=>simp
  |false=>simp[hov]
 refine⟨fun j=>(h.ok _).up,fun j=>by simp[tR,atk,h.len],fun j=>by simp[tR,atl,h.jG],?_,?_⟩
 ·intro dn g j B ls hm hI hX hs
  obtain⟨b,i',h1,h4⟩:=main dn g j B ls hm hI hX
  simp only[Ends]at h1
  rw[aq (by rw[hs];simp)]at h1
  obtain⟨rfl,h1⟩:=h1
  exact⟨(i',none),h4,rfl,by simpa using h1⟩
 ·intro dn g j B ls hm hI hX hs
  obtain⟨b,i',h1,h4⟩:=main dn g j B ls hm hI hX
  simp only[Ends]at h1
  rw[ak hs]at h1
  obtain⟨rfl,h1⟩:=h1
  exact⟨(i',some .ret),h4,rfl,h1⟩
theorem abZ {l:List Int}:∃o e,bG 1 (l.map aD)=.slice o e (l.map aD)∧(l=[]∨e=1):=by
 cases l with
 |nil=>exact⟨_,_,rfl,.inl rfl⟩
 |cons a r=>exact⟨_,_,rfl,.inr rfl⟩
theorem Vr {R:Rec} {ρ:Nat→AV} {i:ι}:enterLoop ((base i).push R) ⟨true,none,ρ,[54],jX,jY⟩=tR base R ρ (i,none):=by
 simp[tR,QS,abb]
theorem aqR {F:cV→St→Option (AV×ae)} {ks:List K} (h:Hand AP L (fun p=>.agg (aj p)) base Iv stop O X N NL M) {R:Rec} {ρ:Nat→AV} {req st:Int} {k:Nat} {d0:List P} {i:ι} {ready:List Int} {need:Nat}
  (hn:1≤need) (iD:(need:Int)<1000000) (hl:(ready.length:Int)<1000000)
  (h2:ρ 2=.bq [I req] 0) (h3:ρ 3=.ptr N 0 0) (h5:ρ 5=.ptr N k 0) (h53:ρ 53=.fn 58 [] [.bq [I need] 0,.bq [bG 1 (ready.map aD)] 0]) (b0:R.boxes[0]? =some [.yield L]) (bk:R.boxes[k]? =some [I st])
  (hM:d0.length+(bf need ready).length≤M) (hI:Iv d0 i) (hX:∀g∈bf need ready,X ⟨req,st,fh g⟩):
  ∃b i',Ends Iv stop O d0 ((bf need ready).map fun g=>(⟨req,st,fh g⟩:P)) b i'∧go AP F (.c (.rangeFunc (.tmp 53) [54] jX jY)::ks) ⟨ρ,(base i).push R⟩=if b=true then go AP F ks ⟨ρ,(base i').push R⟩else F .ret ⟨ρ,(base i').push R⟩:=by
 obtain⟨o,e,ha,he⟩:=abZ (l:=ready)
 obtain⟨n,rfl⟩:∃n,need=n+1:=⟨need-1,by omega⟩
 have hh:=aqP h (R:=R) (ρ:=ρ) (i:=req) (st:=st) (k:=k) (d0:=d0) (n:=n) h2 h3 h5 b0 bk
 obtain⟨b,⟨i',p⟩,hc,hE⟩:=Wu hh (cnt:=n+1) iD (l:=ready) (o:=o) (e:=e) (i:=(i,none)) (done:=[]) he hl (by simp;omega) ⟨rfl,by simpa using hI⟩ (fun g hg=>⟨tz hg,hX g hg⟩)
 have hE':=Ends.map (I:=Iv) (stop:=stop) (O:=O) (mk:=fun g=>(⟨req,st,fh g⟩:P)) (f:=fun j:ι×Option cV=>j.1) (d0:=d0) (fun dn j hj=>hj.2) (fun dn g=>rfl) (fun dn g j hj=>hj.2) hE
 refine⟨b,i',by simpa using hE',?_⟩
 have ew:((base i).push R).loops.length=NL:=h.jG i
 have Xl:((base i').push R).loops.length=NL:=h.jG i'
 rw[Ob (x:=.tmp 53) h53,Vr,ha,ew]
 refine(hU (Option.bind · _) hc).trans ?_
 simp only[eK]
 cases b with
 |true=>
  have hp:p=none:=(hE.all).1
  subst hp
  rw[←Vr,Oa Xl rfl rfl];rfl
 |false=>
  obtain⟨pre,g,post,_,hO,_⟩:=hE.first
  have hp:p=some .ret:=hO.1
  subst hp
  have:tR base R ρ (i',some .ret)=enterLoop ((base i').push R) ⟨false,some .ret,ρ,[54],jX,jY⟩:=by simp[tR,QS,abb]
  rw[this,ag2 Xl rfl];rfl
theorem aqO (h : Hand AP L (fun p => .agg (aj p)) base Iv stop O X N NL M) (hw : Wk w) {req : Int} (h0 : 0 ≤ req) (h1 : req < w.rs.l.length) {i : ι} {done : List P} (hM : done.length + (dS w req).length ≤ M) (hI : Iv done i) (hX : ∀ p ∈ dS w req, X p) :
  ∃b i',aw AP (.fn 107) [.yield L,.bq [OW w] 0,.bq [I req] 0] (base i)=some (.tuple [],base i')∧Ends Iv stop O done (dS w req) b i':=by
 have hN:=h.len
 have hq:=hw.rq h0 h1
 have sn:=hw.ok.an _ (W.qg h0 h1)
 have fQ:=qU hw h0 h1
 have iD:=hw.v.n2
 have oR:=hw.v.al
 have W6:=hw.rL.an _ (W.qg h0 h1)
 generalize mK:w.rq req=q at*
 obtain⟨bw,lo,hi,len,val,⟨oa,ea,an⟩,need⟩:=q
 obtain⟨l0,BI,bH,p9,pn,Lg,Lh,SU,tc,CI,KH,KI,_⟩:=hq
 simp only at l0 BI bH p9 pn Lg Lh SU tc CI KH KI W6
 have hea:ea=1:=by
  rcases sn.1 with h|h
  ·exact absurd h SU
  ·exact h
 subst hea
 have key : ∀ (st : Int) ρ m, (lo ≤ st ∧ st ≤ hi - len + 2 ∧ ρ 1 = .bq [OW w] 0 ∧ ρ 2 = .bq [I req] 0 ∧ ρ 3 = .ptr N 0 0 ∧ ρ 4 = .ptr N 1 0 ∧
   ∃i junk tk p7,ρ 5=.ptr N (junk.length+1+1) 0∧m=(base i).push ⟨[.yield L]::[S bw,I lo,I hi,I len,I val,.slice oa 1 (an.map aD),I need]::(junk++[[I st]]),tk⟩∧p7++jJ w req st (hi-len+2-st).toNat=dS w req∧Ends Iv stop O done p7 true i)→
   ∃b i',go AP Jo (.c (.loop wg)::anw) ⟨ρ,m⟩=some (.tuple [],base i')∧Ends Iv stop O done (dS w req) b i':=by
  refine aoE (hi-len+1) _ (fun r=>∃b i',r=some (.tuple [],base i')∧Ends Iv stop O done (dS w req) b i') ?_ ?_
  ·rintro st ρ m cp ⟨aj5,zj,h1,h2,h3,h4,i,junk,tk,p7,h5,rfl,hits,hE⟩ ih
   have hN':=hN i
   have hd:decide (st+len-1≤hi)=true:=bP (by omega)
   have p8 : ∀ (j : Nat) ρ m, j ≤ an.length → (ρ 1 = .bq [OW w] 0 ∧ ρ 2 = .bq [I req] 0 ∧ ρ 3 = .ptr N 0 0 ∧ ρ 4 = .ptr N 1 0 ∧ ρ 5 = .ptr N (junk.length + 1 + 1) 0 ∧ ρ 33 = .slice oa 1 (an.map aD) ∧ ρ 34 = I an.length ∧ ρ 35 = I j ∧
     ∃og tk,Acc (base i).ag.length 1 (((an.take j).filter fun a=>cS w a st len).map aD) (ρ 6) og tk∧m=(base i).push ⟨[.yield L]::[S bw,I lo,I hi,I len,I val,.slice oa 1 (an.map aD),I need]::(junk++[[I st]]),tk⟩)→
     ∃b i',go AP Jo (.c (.loop Dw)::anx) ⟨ρ,m⟩=some (.tuple [],base i')∧Ends Iv stop O done (dS w req) b i':=by
    refine YJ an.length _ (fun r=>∃b i',r=some (.tuple [],base i')∧Ends Iv stop O done (dS w req) b i') ?_ ?_
    ·rintro j ρ m hj ⟨h1,h2,h3,h4,h5,oP,lO,pP,og,tk,hA,rfl⟩ fI
     obtain⟨a,ha⟩:=get_some hj
     have rU:=tc a (bQ ha)
     have hr:=cq (f:=aD) (o:=oa) (es:=1) ha
     have cd:∀r,aw AP (.fn 86) [OW w,I a,I st,I len] ((base i).push r)=some (B (cS w a st len),(base i).push r):=fun r=>abh hw rU.1 rU.2 (by omega) (by omega) (by omega)
     rw[←hN i]at h3 h4 h5
     have wT:(an.take (j+1)).filter (fun a=>cS w a st len)=(an.take j).filter (fun a=>cS w a st len)++if cS w a st len=true then[a]else[]:=by
      rw[fT ha,oA];simp only[Lq,Ho]
     have avi:((an.take j).filter (fun a=>cS w a st len)).length≤an.length:=by
      have:=nN (fun a=>cS w a st len) (an.take j)
      rw[fV]at this;omega
     cases J6:cS w a st len with
     |false=>
      rw[J6]at cd
      simp(maxSteps:=1000000) only[go_sem,Dw,h1,h2,h3,h4,h5,oP,lO,pP,h.ok i,aS hj,hr,cd,bK hj (show(an.length:Int)<_ by omega),Nat.reduceEqDiff,reduceCtorEq,Nat.reduceAdd,Nat.reduceMul,Nat.reduceSub,Int.reduceLT,Int.reduceLE,Int.reduceEq,Int.reduceAdd,Int.reduceSub,Int.reduceNeg,Int.reduceToNat,aP,↓reduceIte]
      refine fI _ _ ?_
      refine⟨h1,h2,by rw[←hN i];exact h3,by rw[←hN i];exact h4,by rw[←hN i];exact h5,oP,lO,rfl,og,tk,?_,rfl⟩
      rw[wT,J6,aq (by simp),jd]
      exact hA
     |true=>
      rw[J6]at cd
      obtain⟨x',gl,tk',cQ,eL,_⟩:=hA.append (h.ok i) .full (ys:=[[I a]]) (by simp) (by simp;omega)
      simp(maxSteps:=1000000) only[go_sem,Dw,h1,h2,h3,h4,h5,oP,lO,pP,h.ok i,aS hj,hr,cd,cQ,bK hj (show(an.length:Int)<_ by omega),Nat.reduceEqDiff,reduceCtorEq,Nat.reduceAdd,Nat.reduceMul,Nat.reduceSub,Int.reduceLT,Int.reduceLE,Int.reduceEq,Int.reduceAdd,Int.reduceSub,Int.reduceNeg,Int.reduceToNat,aP,↓reduceIte]
      refine fI _ _ ?_
      refine⟨h1,h2,by rw[←hN i];exact h3,by rw[←hN i];exact h4,by rw[←hN i];exact h5,oP,lO,rfl,gl,tk',?_,rfl⟩
      rw[wT,J6,ak rfl,iL]
      exact eL
    ·rintro ρ m ⟨h1,h2,h3,h4,h5,oP,lO,pP,og,tk,hA,rfl⟩
     rw[jg]at hA
     have Gi:(an.filter fun a=>cS w a st len)=tV w (w.rq req) st:=by rw[mK];rfl
     rw[Gi]at hA
     have er:(tV w (w.rq req) st).length≤6:=by
      rw[←Gi]
      have:=nN (fun a=>cS w a st len) an
      omega
     obtain⟨nd,rfl⟩:∃nd:Nat,need=nd:=⟨need.toNat,by omega⟩
     obtain⟨o6,e6,r6,h6⟩:∃o6 e6 r6,ρ 6=.slice o6 e6 r6:=by
      cases og with
      |none=>exact⟨_,_,_,hA.2⟩
      |some g=>exact⟨_,_,_,hA.2.1⟩
     have aT:=hA.close
     rw[h6]at aT
     have Kh:∀r,aw AP (.fn 32) [.slice o6 e6 r6,I (nd:Int)] ((base i).push r)=some (.fn 58 [] [.bq [I nd] 0,.bq [bG 1 ((tV w (w.rq req) st).map aD)] 0],(base i).push r):=fun r=>aai aT ((h.ok i).push r)
     have J8:jJ w req st (hi-len+2-st).toNat=l8 w req st++jJ w req (st+1) (hi-len+2-(st+1)).toNat:=by
      rw[show(hi-len+2-st).toNat=(hi-len+2-(st+1)).toNat+1 by omega];rfl
     have dq:l8 w req st=(bf nd (tV w (w.rq req) st)).map fun g=>(⟨req,st,fh g⟩:P):=by
      have:(w.rq req).need=nd:=by rw[mK]
      rw[l8,this,Ci]
     have fin:∀ρ':Nat→AV,ρ' 1=.bq [OW w] 0→ρ' 2=.bq [I req] 0→ρ' 3=.ptr N 0 0→ρ' 4=.ptr N 1 0→ρ' 5=.ptr N (junk.length+1+1) 0→ρ' 53=.fn 58 [] [.bq [I nd] 0,.bq [bG 1 ((tV w (w.rq req) st).map aD)] 0]→
       ∃b i',go AP Jo (.c (.rangeFunc (.tmp 53) [54] jX jY)::.blk 4::.blk 1::.c Ai::.lp wg::[.blk 0]) ⟨ρ',(base i).push ⟨[.yield L]::[S bw,I lo,I hi,I len,I val,.slice oa 1 (an.map aD),I nd]::(junk++[[I st]]),tk⟩⟩=some (.tuple [],base i')∧Ends Iv stop O done (dS w req) b i':=by
      intro ρ' g1 g2 g3 g4 g5 g53
      obtain⟨b,i',Oo,pW⟩:=aqR (F:=Jo) (ks:=.blk 4::.blk 1::.c Ai::.lp wg::[.blk 0]) h (R:=⟨[.yield L]::[S bw,I lo,I hi,I len,I val,.slice oa 1 (an.map aD),I nd]::(junk++[[I st]]),tk⟩) (ρ:=ρ') (req:=req) (st:=st) (k:=junk.length+1+1) (d0:=done++p7) (i:=i) (ready:=tV w (w.rq req) st) (need:=nd) (by omega) (by omega) (by omega) g2 g3 g5 g53 rfl (by simp) (by
       have hh:=hU List.length hits
       rw[J8,dq]at hh
       simp only[cj,bY]at hh⊢
       omega) hE.all (by
       intro g hg
       refine hX _ ?_
       rw[←hits,J8,dq]
       exact Hw _ (pF _ (cC.2 ⟨g,hg,rfl⟩)))
      rw[pW]
      rw[←dq]at Oo
      cases b with
      | false =>
       refine⟨false,i',?_,?_⟩
       ·simp(maxSteps:=1000000) only[go_sem,ef,cE,Nat.reduceEqDiff,reduceCtorEq,Nat.reduceAdd,Nat.reduceMul,Nat.reduceSub,Int.reduceLT,Int.reduceLE,Int.reduceEq,Int.reduceAdd,Int.reduceSub,Int.reduceNeg,Int.reduceToNat,aP,↓reduceIte]
       ·rw[←hits,J8,←gW]
        exact(hE.HS Oo).SY _
      |true=>
       have WG:=hN i'
       have Wh:=g5
       rw[←WG]at Wh
       simp(maxSteps:=1000000) only[go_sem,bB,Ai,Wh,h.ok i',bW (x:=st+1) (by omega) (by omega),Nat.reduceEqDiff,reduceCtorEq,Nat.reduceAdd,Nat.reduceMul,Nat.reduceSub,Int.reduceLT,Int.reduceLE,Int.reduceEq,Int.reduceAdd,Int.reduceSub,Int.reduceNeg,Int.reduceToNat,aP,↓reduceIte]
       refine ih _ _ ?_
       refine⟨by omega,by omega,g1,g2,g3,g4,i',junk++[[I st]],tk,p7++l8 w req st,?_,?_,?_,hE.HS Oo⟩
       ·rw[←WG];simp[put]
       ·simp
       ·rw[gW,←J8,hits]
     have A6:=h4
     rw[←hN i]at h4
     simp(maxSteps:=1000000) only[go_sem,Dw,Na,h4,lO,pP,h6,h.ok i,bM,Kh,Nat.reduceEqDiff,reduceCtorEq,Nat.reduceAdd,Nat.reduceMul,Nat.reduceSub,Int.reduceLT,Int.reduceLE,Int.reduceEq,Int.reduceAdd,Int.reduceSub,Int.reduceNeg,Int.reduceToNat,aP,↓reduceIte]
     exact fin _ h1 h2 h3 A6 h5 rfl
   rw[←hN i]at h4 h5
   simp(maxSteps:=1000000) only[go_sem,wg,h1,h2,h3,h4,h5,h.ok i,hd,bW (x:=st+len) (by omega) (by omega),bW (x:=st+len-1) (by omega) (by omega),Nat.reduceEqDiff,reduceCtorEq,Nat.reduceAdd,Nat.reduceMul,Nat.reduceSub,Int.reduceLT,Int.reduceLE,Int.reduceEq,Int.reduceAdd,Int.reduceSub,Int.reduceNeg,Int.reduceToNat,aP,↓reduceIte]
   refine p8 0 _ _ (bg _) ?_
   exact⟨h1,h2,h3,by rw[←hN i];exact h4,by rw[←hN i];exact h5,rfl,rfl,rfl,none,tk,Acc.start,rfl⟩
  ·rintro st ρ m cp ⟨aj5,zj,h1,h2,h3,h4,i,junk,tk,p7,h5,rfl,hits,hE⟩
   have hd:decide (st+len-1≤hi)=false:=bS (by omega)
   rw[←hN i]at h4 h5
   simp(maxSteps:=1000000) only[go_sem,wg,h4,h5,h.ok i,hd,bW (x:=st+len) (by omega) (by omega),bW (x:=st+len-1) (by omega) (by omega),Nat.reduceEqDiff,reduceCtorEq,Nat.reduceAdd,Nat.reduceMul,Nat.reduceSub,Int.reduceLT,Int.reduceLE,Int.reduceEq,Int.reduceAdd,Int.reduceSub,Int.reduceNeg,Int.reduceToNat,aP,↓reduceIte]
   refine⟨true,i,rfl,?_⟩
   rw[show(hi-len+2-st).toNat=0 by omega]at hits
   simp only[jJ,jd]at hits
   rw[←hits];exact hE
 have hcw:closeAll [OW w]=some [OW w]:=rfl
 rw[aL (show AP 107=some EN from rfl) rfl]
 simp only[OW]
 simp(maxSteps:=1000000) only[go_sem,T5,h.ok i,ub,fQ,Nat.reduceEqDiff,reduceCtorEq,Nat.reduceAdd,Nat.reduceMul,Nat.reduceSub,Int.reduceLT,Int.reduceLE,Int.reduceEq,Int.reduceAdd,Int.reduceSub,Int.reduceNeg,Int.reduceToNat,aP,↓reduceIte]
 refine key lo _ _ ?_
 refine⟨zL _,by omega,rfl,rfl,by rw[←hN i];rfl,by rw[←hN i];rfl,i,[],[],[],by rw[←hN i];rfl,rfl,?_,⟨rfl,by simpa using hI⟩⟩
 rw[dS,mK];rfl
theorem atw {i:Int} (hs:Ok s):aw AP (.fn 93) [OW w,I i] s=some (.fn 107 [] [.bq [OW w] 0,.bq [I i] 0],s):=by
 rw[aL (show AP 93=some EM from rfl) rfl]
 simp only[OW]
 simp(maxSteps:=1000000) only[go_sem,T4,hs,Nat.reduceEqDiff,reduceCtorEq,Nat.reduceAdd,Nat.reduceMul,Nat.reduceSub,Int.reduceLT,Int.reduceLE,Int.reduceEq,Int.reduceAdd,Int.reduceSub,Int.reduceNeg,Int.reduceToNat,aP,↓reduceIte]
end
end
def ct (w:W) (l:List P) (i:Int):List P:=(dS w i).filter fun x=>!dL w x l
theorem QP {w:W} {i:Int} {p:P}:∀{n:Nat} {st:Int},p∈jJ w i st n→∃t,st≤t∧t<st+n∧p∈l8 w i t
 |0,_,h=>by simp[jJ]at h
 | n + 1, st, h => by
  simp only[jJ,dD]at h
  rcases h with h|h
  ·exact⟨st,zL _,by omega,h⟩
  ·obtain⟨t,h1,h2,h3⟩:=QP h
   exact⟨t,by omega,by omega,h3⟩
theorem nF {w:W} (hw:Wk w) {i:Int} (h0:0≤i) (h1:i<w.rs.l.length) {p:P} (hp:p∈dS w i):ch w p∧p.req=i∧(w.rq i).lo≤p.start∧p.start≤(w.rq i).hi-(w.rq i).len+1∧(p.an.l.length:Int)=(w.rq i).need∧p.an=fh p.an.l∧p.an.l.Sublist (w.rq i).an.l∧∀a∈p.an.l,cS w a p.start (w.rq i).len=true:=by
 have hq:=hw.rq h0 h1
 have iD:=hw.v.n2
 obtain⟨t,h2,h3,h4⟩:=QP hp
 obtain⟨g,hg,rfl⟩:=cC.1 h4
 have hl:=tz hg
 have hs:=A3 hg
 have xg:g.Sublist (w.rq i).an.l:=hs.trans Ls
 have b1:=hq.qW
 have b2:=hq.bH
 have b3:=hq.p9
 have b4:=hq.pn
 have b5:=hq.KH
 have b6:=hq.KI
 have b7:=hw.rL.an _ (W.qg h0 h1)
 have nx:(g.length:Int)=(w.rq i).need:=by omega
 refine⟨⟨h0,h1,by show 0≤t;omega,by show t≤200;omega,fun a ha=>hq.tc a (xg.subset ha),Fj,by show(g.length:Int)<_;omega⟩,rfl,h2,by show t≤_;omega,nx,rfl,xg,fun a ha=>?_⟩
 have:=hs.subset ha
 exact(eS.1 this).2
theorem yJ:∀{k:Nat} {l:List Int},(bf k l).length≤2^l.length
 |0,l=>by simp[bf];exact SD
 |k+1,[]=>by simp[bf]
 |k+1,x::r=>by
  have h1:=yJ (k:=k) (l:=r)
  have h2:=yJ (k:=k+1) (l:=r)
  simp only[bf,cj,bY,dO,Nat.pow_succ]
  omega
theorem ZL {w:W} {i:Int} {m:Nat} (h:∀st,(l8 w i st).length≤m):∀{n:Nat} {st:Int},(jJ w i st n).length≤n*m
 |0,_=>by simp[jJ]
 |n+1,st=>by
  have h1:=h st
  have h2:=ZL h (n:=n) (st:=st+1)
  simp only[jJ,cj,gv]
  omega
theorem BT {w:W} (hw:Wk w) {i:Int} (h0:0≤i) (h1:i<w.rs.l.length):(dS w i).length≤13000:=by
 have hq:=hw.rq h0 h1
 have iD:=hw.v.n2
 have b1:=hq.qW
 have b2:=hq.bH
 have b3:=hq.p9
 have b4:=hq.pn
 have b7:=hw.rL.an _ (W.qg h0 h1)
 have:∀st,(l8 w i st).length≤64:=fun st=>by
  rw[l8,bY]
  refine kO yJ ?_
  have:(tV w (w.rq i) st).length≤6:=kO (nN _ _) b7
  calc 2^(tV w (w.rq i) st).length≤2^6:=jh (by decide) this
   _=64:=by decide
 have h2:=ZL this (n:=((w.rq i).hi-(w.rq i).len+2-(w.rq i).lo).toNat) (st:=(w.rq i).lo)
 have h3:((w.rq i).hi-(w.rq i).len+2-(w.rq i).lo).toNat≤201:=by omega
 have h4:=oB 64 h3
 unfold dS
 omega
def cm (l:List P):List AV:=(l.map aj).flatten
theorem Fs {p:P} {l:List P}:cm (p::l)=aj p++cm l:=by simp[cm]
theorem yG {a b:List P}:cm (a++b)=cm a++cm b:=by simp[cm]
theorem ni {l:List P}:(cm l).length=l.length*3:=by
 induction l with
 |nil=>rfl
 |cons p r ih=>rw[Fs,cj,ih];simp only[aj,dO,iK];omega
theorem Jx {l:List P} (h:∀p∈l,p.an.ok 1):closeAll (cm l)=some (cm l):=by
 induction l with
 |nil=>rfl
 |cons p r ih=>
  rw[Fs]
  simp only[aj,kq,kN,mq,pK,Sl.close (f:=aD) (h p (by simp))]
  rw[ih fun q hq=>h q (jf _ hq)];rfl
theorem arR {p:P} (h:p.an.ok 1):(aj p).all AV.iG=true:=by
 simp only[aj,vK,Ck,Sl.iG (f:=aD) h,sQ];rfl
def lD (d b:Nat) (l:List P):AV:=if l=[]then .slice .aA 0 []else .aO d b 0 3 l.length 0
def tT (l:List P):List (List AV):=if l=[]then[]else[cm l]
section
variable{s:ae} {w:W}
def LO (w:W) (pl:List P) (o:Own) (e d:Nat) (done:List P) (r:Rec):Prop:=
 ∃x,r.boxes[0]? =some [OW w]∧r.boxes[1]? =some [.slice o e (pl.map aj)]∧r.boxes[2]? =some [x]∧GX d 3 (cm (done.filter fun x=>!dL w x pl)) (done.filter fun x=>!dL w x pl).length x r.boxes∧∀b es n,x=.aO d b 0 es n 0→3≤b
theorem aqG {X T:Rec→ae} {l d:Nat} {ρ:Nat→AV} {r:Rec} {p:P} {pl:List P} {done:List P} {o:Own} {e:Nat} (hM:gE X d) (hX:∀r,busy l (T r)=X r) (hR:∀r,ml l ⟨true,none,ρ,[12],uC,uD⟩ (T r)) (bE:∀r,Ok (T r)) (hw:Wk w) (hp:ch w p) (cD:∀x∈pl,ch w x) (he:pl=[]∨e=3) (hn:(pl.length:Int)<9223372036854775808)
  (h3:ρ 3=.ptr d 0 0) (h4:ρ 4=.ptr d 1 0) (h7:ρ 7=.ptr d 2 0) (hd:done.length<1000000) (hI:LO w pl o e d done r):
  ∃r',aw AP (.yield l) [.agg (aj p)] (T r)=some (.v (.bool true),T r')∧LO w pl o e d (done++[p]) r':=by
 obtain⟨x,b0,b1,b2,hG,vg⟩:=hI
 have n8:∀r ρ' q,qv l .normal ⟨ρ',(X r).push q⟩=some (.v (.bool true),T r):=fun r ρ' q=>by rw[←hX];exact N3 (hR r)
 have y7:∀r,Ok (X r):=fun r=>by rw[←hX];exact(bE r).busy
 have Ox:∀r,(T r).ag.length=(X r).ag.length:=fun r=>by rw[←hX];rfl
 have k0:∀q,((X r).push q).box d 0=some [OW w]:=fun q=>by rw[hM.box,b0]
 have k1:∀q,((X r).push q).box d 1=some [.slice o e (pl.map aj)]:=fun q=>by rw[hM.box,b1]
 have k2:∀q,((X r).push q).box d 2=some [x]:=fun q=>by rw[hM.box,b2]
 have hc:∀q,aw AP (.fn 87) [OW w,.agg (aj p),.slice o e (pl.map aj)] ((X r).push q)=some (B (dL w p pl),(X r).push q):=fun q=>RH ((y7 r).push q) hw hp cD he hn
 have hlen:(done.filter fun x=>!dL w x pl).length≤done.length:=nN _ _
 have lS:kB 3 (aj p)=true:=rfl
 have tH:closeAll (aj p)=some (aj p):=by
  simp only[aj,mq,oH,pK,Sl.close hp.ok];rfl
 rw[Ny (hR r) rfl]
 cases eW:dL w p pl with
 | true =>
  rw[eW]at hc
  refine⟨r,?_,x,b0,b1,b2,?_,vg⟩
  ·simp only[aj,Sl.v]at hc⊢
   simp(maxSteps:=1000000) only[go_sem,uC,Ju (hR r),bE r,GY,Nat.reduceEqDiff,reduceCtorEq,Nat.reduceAdd,Nat.reduceMul,Nat.reduceSub,Int.reduceLT,Int.reduceLE,Int.reduceEq,Int.reduceAdd,Int.reduceSub,Int.reduceNeg,Int.reduceToNat,aP,↓reduceIte]
   simp(maxSteps:=1000000) only[go_sem,uD,hX,Ox,y7,h3,h4,h7,k0,k1,k2,hc,n8,Nat.reduceEqDiff,reduceCtorEq,Nat.reduceAdd,Nat.reduceMul,Nat.reduceSub,Int.reduceLT,Int.reduceLE,Int.reduceEq,Int.reduceAdd,Int.reduceSub,Int.reduceNeg,Int.reduceToNat,aP,↓reduceIte]
  ·have:(done++[p]).filter (fun x=>!dL w x pl)=done.filter fun x=>!dL w x pl:=by rw[oA];simp[eW]
   rw[this];exact hG
 | false =>
  rw[eW]at hc
  have qL:rf ((X r).push ⟨[aj p],[]⟩) 3 (.agg (aj p))=some (.aO (X r).ag.length 1 0 3 1 1,(X r).push ⟨[aj p,aj p],[]⟩):=Q9 lS (by decide)
  obtain⟨x',fY,tk',a1,a2,⟨a3,a4⟩,b',rfl,a5⟩:=hM.rC (r0:=⟨[aj p,aj p],[]⟩) (b0:=1) (c:=1) (p:=2) (q:=0) hG rfl rfl (arR hp.ok) ni (by omega)
  have WR:3≤r.boxes.length:=by have:=(bd.1 b2).1;omega
  have kp:∀j,j<3→fY[j]? =r.boxes[j]? :=fun j hj=>a4 j (by omega) fun es n e=>by have:=vg j es n e;omega
  have cp:=hM.as0 (r:=⟨fY,tk'⟩) (r0:=⟨[aj p,aj p],[]⟩) (b:=2) (es:=3) (n:=(done.filter fun x=>!dL w x pl).length+1) ⟨b',rfl⟩ (c:=x) (by show fY[2]? =_;rw[kp 2 (by omega),b2])
  refine⟨⟨fY.set 2 [.aO d b' 0 3 ((done.filter fun x=>!dL w x pl).length+1) 0],tk'⟩,?_,.aO d b' 0 3 ((done.filter fun x=>!dL w x pl).length+1) 0,?_,?_,?_,?_⟩
  ·simp only[aj,Sl.v]at hc qL a1 cp tH⊢
   simp(maxSteps:=1000000) only[go_sem,uC,Ju (hR r),bE r,GY,Nat.reduceEqDiff,reduceCtorEq,Nat.reduceAdd,Nat.reduceMul,Nat.reduceSub,Int.reduceLT,Int.reduceLE,Int.reduceEq,Int.reduceAdd,Int.reduceSub,Int.reduceNeg,Int.reduceToNat,aP,↓reduceIte]
   simp(maxSteps:=1000000) only[go_sem,uD,hX,Ox,y7,h3,h4,h7,k0,k1,k2,hc,n8,qL,a1,cp,Nat.reduceEqDiff,reduceCtorEq,Nat.reduceAdd,Nat.reduceMul,Nat.reduceSub,Int.reduceLT,Int.reduceLE,Int.reduceEq,Int.reduceAdd,Int.reduceSub,Int.reduceNeg,Int.reduceToNat,aP,↓reduceIte]
  ·show(fY.set 2 _)[0]? =_;rw[eI (by omega),kp 0 (by omega),b0]
  ·show(fY.set 2 _)[1]? =_;rw[eI (by omega),kp 1 (by omega),b1]
  ·show(fY.set 2 _)[2]? =_;rw[mj (by omega)]
  ·have hf:(done++[p]).filter (fun x=>!dL w x pl)=(done.filter fun x=>!dL w x pl)++[p]:=by rw[oA];simp[eW]
   rw[hf,yG,cj]
   refine⟨?_,fun b es n e=>?_⟩
   ·obtain⟨h,_⟩|⟨fq,b2,jA,e⟩:=a2
    ·omega
    ·injection e with _ e
     subst e
     refine .inr ⟨by simp,b',?_,rfl⟩
     show(fY.set 2 _)[b']? =_
     rw[eI (by omega),jA]
     simp[cm]
   ·injection e with _ e;omega
abbrev GP (s:ae) (ρ:Nat→AV) (r:Rec):ae:=enterLoop (s.push r) ⟨true,none,ρ,[12],uC,uD⟩
theorem aqF {ρ:Nat→AV} {pl:List P} {o:Own} {e:Nat} (hs:Ok s) (hw:Wk w) (cD:∀x∈pl,ch w x) (he:pl=[]∨e=3) (hn:(pl.length:Int)<9223372036854775808)
  (h3:ρ 3=.ptr s.ag.length 0 0) (h4:ρ 4=.ptr s.ag.length 1 0) (h7:ρ 7=.ptr s.ag.length 2 0):
  Hand AP s.loops.length (fun p=>.agg (aj p)) (GP s ρ) (fun done r=>LO w pl o e s.ag.length done r)
   (fun _ _=>false) (fun _ _ _=>False) (ch w) (s.ag.length+1) (s.loops.length+1) 100000:=by
 refine⟨fun r=>(hs.push _).enter,fun r=>by simp[GP,enterLoop,ae.push],fun r=>by simp[GP,enterLoop,ae.push],?_,fun _ _ _ _ _ _ _ _ h=>by cases h⟩
 intro done p r B ls hd hI hp _
 have hM:gE (fun r=>up (busy s.loops.length (enterLoop (s.push r) ⟨true,none,ρ,[12],uC,uD⟩)) B ls) s.ag.length:=YS hs
 have hX:∀r,busy s.loops.length (up (GP s ρ r) B ls)=(fun r=>up (busy s.loops.length (enterLoop (s.push r) ⟨true,none,ρ,[12],uC,uD⟩)) B ls) r:=fun r=>aa9 (by simp[enterLoop,ae.push])
 exact aqG (T:=fun r=>up (GP s ρ r) B ls) hM hX (fun r=>abd (Vs (hs.push r))) (fun r=>((hs.push _).enter).up) hw hp cD he hn h3 h4 h7 (by omega) hI
theorem atv {Q:ae} {bx:List (List AV)} {tk:List (Option Nat)} {pl:List P} {o:Own} {e:Nat} {i:Int} (hQ:Ok Q) (hw:Wk w) (cD:∀x∈pl,ch w x) (he:pl=[]∨e=3) (hn:(pl.length:Int)<9223372036854775808) (h0:0≤i) (h1:i<w.rs.l.length):
  aw AP (.fn 71) [OW w,.slice o e (pl.map aj),I i] (Q.push ⟨bx,tk⟩)=some (lD Q.ag.length bx.length (ct w pl i),Q.push ⟨bx++tT (ct w pl i),tk⟩):=by
 have hs:Ok (Q.push ⟨bx,tk⟩):=hQ.push _
 obtain⟨s,qQ⟩:∃s,s=Q.push ⟨bx,tk⟩:=⟨_,rfl⟩
 have key:∀ρ:Nat→AV,ρ 3=.ptr s.ag.length 0 0→ρ 4=.ptr s.ag.length 1 0→ρ 7=.ptr s.ag.length 2 0→ρ 11=.fn 107 [] [.bq [OW w] 0,.bq [I i] 0]→
   go AP afR (.c (.rangeFunc (.tmp 11) [12] uC uD)::.blk 0::[.c IK]) ⟨ρ,s.push ⟨[[OW w],[.slice o e (pl.map aj)],[.slice .aA 0 []]],[]⟩⟩=some (lD Q.ag.length bx.length (ct w pl i),Q.push ⟨bx++tT (ct w pl i),tk⟩):=by
  intro ρ h3 h4 h7 dZ
  obtain⟨b,r',hc,hE⟩:=aqO (aqF (by rw[qQ];exact hs) hw cD he hn h3 h4 h7) hw h0 h1 (i:=⟨[[OW w],[.slice o e (pl.map aj)],[.slice .aA 0 []]],[]⟩) (done:=[]) (by have:=BT hw h0 h1;simp;omega) ⟨_,rfl,rfl,rfl,.inl ⟨rfl,rfl,rfl⟩,fun _ _ _ e=>by cases e⟩ (fun p hp=>(nF hw h0 h1 hp).1)
  obtain⟨rfl,x,b0,b1,b2,hG,vg⟩:=hE.never (fun _ _=>rfl)
  rw[Ob (x:=.tmp 11) dZ]
  refine(hU (Option.bind · _) hc).trans ?_
  simp only[eK]
  refine(Oa (m:=s.push r') (lp:=⟨true,none,ρ,[12],uC,uD⟩) rfl rfl rfl).trans ?_
  obtain⟨Ut,tk'⟩:=r'
  simp only at b0 b1 b2 hG
  have hG:GX s.ag.length 3 (cm (ct w pl i)) (ct w pl i).length x Ut:=hG
  simp(maxSteps:=1000000) only[go_sem,IK,h7,b2,Nat.reduceEqDiff,reduceCtorEq,Nat.reduceAdd,Nat.reduceMul,Nat.reduceSub,Int.reduceLT,Int.reduceLE,Int.reduceEq,Int.reduceAdd,Int.reduceSub,Int.reduceNeg,Int.reduceToNat,aP,↓reduceIte]
  have bE:∀p∈ct w pl i,p.an.ok 1:=fun p hp=>((nF hw h0 h1 (eS.1 hp).1).1).ok
  obtain⟨g1,g2,rfl⟩|⟨g1,b,g2,rfl⟩:=hG
  ·have w8:ct w pl i=[]:=sU g1
   rw[w8,qQ]
   simp only[lD,tT,bB,jd]
   rw[Zw,pop_push]
  ·have aB:ct w pl i≠[]:=fun e=>by rw[e]at g1;simp at g1
   simp only[lD,tT,aq aB]
   rw[qQ]
   exact aqj hQ g2 g1 ni (fun e=>by have:=ni (l:=ct w pl i);rw[e]at this;simp at this;omega) (Jx bE)
 have hp:∀r,aw AP (.fn 93) [OW w,I i] (s.push r)=some (.fn 107 [] [.bq [OW w] 0,.bq [I i] 0],s.push r):=fun r=>atw ((show Ok s by rw[qQ];exact hs).push r)
 rw[←qQ]
 have hsk:Ok s:=by rw[qQ];exact hs
 rw[aL (show AP 71=some EL from rfl) rfl]
 simp only[OW]at key hp⊢
 simp(maxSteps:=1000000) only[go_sem,T3,hsk,hp,Nat.reduceEqDiff,reduceCtorEq,Nat.reduceAdd,Nat.reduceMul,Nat.reduceSub,Int.reduceLT,Int.reduceLE,Int.reduceEq,Int.reduceAdd,Int.reduceSub,Int.reduceNeg,Int.reduceToNat,aP,↓reduceIte]
 exact key _ rfl rfl rfl rfl
end
def eC {α:Type} (e:Nat):List α→Sl α
 |[]=>⟨.aA,0,[]⟩
 |x::r=>⟨.any,e,x::r⟩
theorem uw {α:Type} {e:Nat} {f:α→List AV} {l:List α}:bG e (l.map f)=(eC e l).v f:=by cases l<;>rfl
theorem kS {α:Type} {e:Nat} {l:List α}:(eC e l).l=l:=by cases l<;>rfl
theorem x4 {α:Type} {e:Nat} {l:List α}:(eC e l).ok e:=by
 cases l with
 |nil=>exact⟨.inl rfl,.inr (.inr ⟨rfl,rfl⟩)⟩
 |cons a r=>exact⟨.inr rfl,.inl rfl⟩
abbrev gm (c:Sl P×Bool):List AV:=[c.1.v aj,B c.2]
attribute [go_sem] gm
abbrev CH (w:W) (o:Own) (e:Nat) (all:List (Sl P×Bool)):AV:=.agg [OW w,.slice o e (all.map gm)]
def rM (w:W) (n:Nat):List (Sl P×Bool):=(List.range n).map fun i=>(eC 3 (ct w [] (i:Nat)),true)
def dG (w:W):List (Sl P×Bool):=rM w w.rs.l.length
theorem agr {w:W} {n:Nat}:rM w (n+1)=rM w n++[(eC 3 (ct w [] (n:Nat)),true)]:=by
 simp[rM,Cp]
theorem N8 {w:W} {n:Nat}:(rM w n).length=n:=by simp[rM]
theorem Acc.sl {d es:Nat} {xs:List (List AV)} {x:AV} {og:Option Nat} {toks:List (Option Nat)} (h:Acc d es xs x og toks):∃o e r,x=.slice o e r:=by
 cases og with
 |none=>exact⟨_,_,_,h.2⟩
 |some g=>exact⟨_,_,_,h.2.1⟩
def rh (w:W) (d:Nat) (bi:Nat→Nat) (n:Nat):List AV:=((List.range n).map fun i:Nat=>[lD d (bi i) (ct w [] (i:Int)),B true]).flatten
theorem Rc {w:W} {d n:Nat} {bi:Nat→Nat}:rh w d bi (n+1)=rh w d bi n++[lD d (bi n) (ct w [] (n:Int)),B true]:=by
 simp[rh,Cp]
theorem Rb {w:W} {d:Nat} {bi:Nat→Nat}:∀{n:Nat},(rh w d bi n).length=n*2
 |0=>rfl
 |n+1=>by rw[Rc,cj,Rb];simp;omega
theorem arU {w:W} {d n:Nat} {bi bj:Nat→Nat} (h:∀i,i<n→bi i=bj i):rh w d bi n=rh w d bj n:=by
 unfold rh
 congr 1
 refine zP fun i hi=>?_
 rw[h i (nP.1 hi)]
structure Hk (w:W) (d n0 n:Nat) (bi:Nat→Nat) (x:AV) (bs:List (List AV)):Prop where
 gx:GX d 2 (rh w d bi n) n x bs
 box:∀i:Nat,i<n→ct w [] (i:Int)≠[]→bs[bi i]? =some (cm (ct w [] (i:Int)))∧n0≤bi i
 inj:∀i j:Nat,i<j→j<n→ct w [] (i:Int)≠[]→bi i<bi j
 own:∀b es m,x=.aO d b 0 es m 0→n0≤b∧∀i:Nat,i<n→ct w [] (i:Int)≠[]→bi i≠b
theorem aeR {s:ae} {bs:List (List AV)} {tk:List (Option Nat)} {b:Nat} {l:List P} (h:l≠[]→bs[b]? =some (cm l)) (hc:∀p∈l,p.an.ok 1):nU (s.push ⟨bs,tk⟩) (lD s.ag.length b l)=some (bG 3 (l.map aj)):=by
 unfold lD
 by_cases hl:l=[]
 ·rw[ak hl,hl];rfl
 ·rw[aq hl]
  have fj:=Fc (es:=3) (xs:=l.map aj) (fun r hr=>by obtain⟨p,_,rfl⟩:=cC.1 hr;rfl)
  rw[bY]at fj
  simp only[nU,fD,bB,iu,h hl,eK,ni,fB,aH,Jx hc,dK,kt]
  rw[show cm l=(l.map aj).flatten from rfl,fj]
  cases l with
  |nil=>exact absurd rfl hl
  |cons p r=>rfl
section
variable{s:ae} {w:W}
theorem KV (hw:Wk w) {i:Nat} (hi:i<w.rs.l.length):∀p∈ct w [] (i:Int),p.an.ok 1:=fun p hp=>((nF hw (by omega) (by omega) (eS.1 hp).1).1).ok
theorem Vn (hw:Wk w) {bs:List (List AV)} {tk:List (Option Nat)} {bi:Nat→Nat}:∀{n:Nat},n≤w.rs.l.length→(∀i:Nat,i<n→ct w [] (i:Int)≠[]→bs[bi i]? =some (cm (ct w [] (i:Int))))→
  jN (s.push ⟨bs,tk⟩) (rh w s.ag.length bi n)=some ((rM w n).map gm).flatten
 |0,_,_=>rfl
 |n+1,hn,h=>by
  have hd:=aeR (s:=s) (bs:=bs) (tk:=tk) (b:=bi n) (h n (by omega)) (KV hw (i:=n) (by omega))
  rw[Rc,agr,iL,List.flatten_append]
  refine NR (Vn hw (by omega) fun i hi=>h i (by omega)) ?_
  have e2:nU (s.push ⟨bs,tk⟩) (B true)=some (B true):=rfl
  simp only[jN,hd,e2,uw,gm,iM,nO,sV,Sb,jd]
theorem aob (hw:Wk w) {bs:List (List AV)} {tk:List (Option Nat)} {n0:Nat} {bi:Nat→Nat} {x:AV} (h:Hk w s.ag.length n0 w.rs.l.length bi x bs):ez (s.push ⟨bs,tk⟩) x=some (bG 2 ((dG w).map gm)):=by
 obtain⟨g1,g2,rfl⟩|⟨g1,b,g2,rfl⟩:=h.gx
 ·unfold dG;rw[g1];rfl
 ·have fj:=Fc (es:=2) (xs:=(dG w).map gm) (fun r hr=>by obtain⟨p,_,rfl⟩:=cC.1 hr;rfl)
  have hlen:((dG w).map gm).length=w.rs.l.length:=by simp[dG,N8]
  rw[hlen]at fj
  have hd:=Vn (s:=s) hw (bs:=bs) (tk:=tk) (bi:=bi) (aH _) fun i hi aB=>(h.box i hi aB).1
  simp only[ez,fD,bB,iu,g2,eK,Rb,fB,aH,Zn,hd,dK,kt]
  have aB:(dG w).map gm≠[]:=fun e=>by rw[e]at hlen;simp at hlen;omega
  rw[show((rM w w.rs.l.length).map gm).flatten=((dG w).map gm).flatten from rfl,fj]
  cases hf:(dG w).map gm with
  |nil=>exact absurd hf aB
  |cons a r=>rfl
theorem Wg {F:cV→St→Option (AV×ae)} {bs:List (List AV)} {tk:List (Option Nat)} (hs:Ok s) (hw:Wk w):
  ∃ρ' fY tk' x bi,go AP F [.c M9] ⟨jy [OW w],s.push ⟨bs,tk⟩⟩=F .ret ⟨ρ',s.push ⟨fY,tk'⟩⟩∧ρ' 2=.ptr s.ag.length bs.length 0∧fY[bs.length]? =some [OW w,x]∧Hk w s.ag.length (bs.length+2) w.rs.l.length bi x fY∧∀j,j<bs.length→fY[j]? =bs[j]? :=by
 have er:=hw.v.rl
 have bh:(s.push ⟨bs,tk⟩).ro<(s.push ⟨bs,tk⟩).ag.length:=by have:=hs.ro;rw[LV];show s.ro<_;omega
 have lQ:∀(bs:List (List AV)) (tk:List (Option Nat)) (i:Nat),i<w.rs.l.length→lK (aw AP) (s.push ⟨bs,tk⟩) 71 [OW w,.slice .aA 0 [],I i]=some (lD s.ag.length bs.length (ct w [] (i:Int)),s.push ⟨bs++tT (ct w [] (i:Int)),tk⟩):=fun bs tk i hi=>by
  have bh:(s.push ⟨bs,tk⟩).ro<(s.push ⟨bs,tk⟩).ag.length:=by have:=hs.ro;rw[LV];show s.ro<_;omega
  have hp:=atv (Q:=cT (s.push ⟨bs,tk⟩)) (bx:=[]) (tk:=[]) (pl:=[]) (o:=.aA) (e:=0) (i:=(i:Int)) vu hw (by simp) (.inl rfl) (by simp) (by omega) (by omega)
  by_cases hl:ct w [] (i:Int)=[]
  ·rw[hl]at hp⊢
   simp only[lD,tT,bB,jd]at hp⊢
   exact adQ hp
  ·have ze:0<(ct w [] (i:Int)).length:=Cm.2 hl
   simp only[lD,tT,aq hl]at hp⊢
   exact adR bh hp ze ni (fun e=>by have:=ni (l:=ct w [] (i:Int));rw[e]at this;simp at this;omega) (Jx (KV hw hi))
 have key : ∀ (j : Nat) ρ m, j ≤ w.rs.l.length → (ρ 0 = OW w ∧ ρ 2 = .ptr s.ag.length bs.length 0 ∧ ρ 3 = .ptr s.ag.length (bs.length + 1) 0 ∧ ρ 12 = I w.rs.l.length ∧ ρ 13 = I j ∧
   ∃gN mU x bi,m=s.push ⟨gN,mU⟩∧gN[bs.length]? =some [NP,.slice .aA 0 []]∧gN[bs.length+1]? =some [OW w,x]∧Hk w s.ag.length (bs.length+2) j bi x gN∧∀j,j<bs.length→gN[j]? =bs[j]?)→
   ∃ρ' fY tk' x bi,go AP F (.c (.loop uB)::KA) ⟨ρ,m⟩=F .ret ⟨ρ',s.push ⟨fY,tk'⟩⟩∧ρ' 2=.ptr s.ag.length bs.length 0∧fY[bs.length]? =some [OW w,x]∧Hk w s.ag.length (bs.length+2) w.rs.l.length bi x fY∧∀j,j<bs.length→fY[j]? =bs[j]? :=by
  intro j
  obtain⟨k,hk⟩:∃k,k=w.rs.l.length-j:=⟨_,rfl⟩
  induction k generalizing j with
  | zero =>
   rintro ρ m hj ⟨h0,h2,h3,cG,oO,gN,mU,x,bi,rfl,c0,c1,hF,y3⟩
   obtain rfl:j=w.rs.l.length:=by omega
   have jz:bs.length<gN.length:=(bd.1 c0).1
   have pW:∃ρ1,go AP F (.c (.loop uB)::KA) ⟨ρ,s.push ⟨gN,mU⟩⟩=F .ret ⟨ρ1,s.push ⟨gN.set bs.length [OW w,x],mU⟩⟩∧ρ1 2=.ptr s.ag.length bs.length 0:=by
    rw[go_loop]
    simp only[OW]at h0 c1⊢
    obtain⟨_,_,rfl⟩|⟨_,b,_,rfl⟩:=hF.gx
    ·simp(maxSteps:=1000000) only[go_sem,uB,IJ,h0,h2,h3,cG,oO,hs,bM,c0,c1,Nat.reduceEqDiff,reduceCtorEq,Nat.reduceAdd,Nat.reduceMul,Nat.reduceSub,Int.reduceLT,Int.reduceLE,Int.reduceEq,Int.reduceAdd,Int.reduceSub,Int.reduceNeg,Int.reduceToNat,aP,↓reduceIte]
     refine⟨_,rfl,?_⟩
     exact h2
    ·simp(maxSteps:=1000000) only[go_sem,uB,IJ,h0,h2,h3,cG,oO,hs,bM,c0,c1,Nat.reduceEqDiff,reduceCtorEq,Nat.reduceAdd,Nat.reduceMul,Nat.reduceSub,Int.reduceLT,Int.reduceLE,Int.reduceEq,Int.reduceAdd,Int.reduceSub,Int.reduceNeg,Int.reduceToNat,aP,↓reduceIte]
     refine⟨_,rfl,?_⟩
     exact h2
   obtain⟨ρ1,e1,e2⟩:=pW
   refine⟨ρ1,gN.set bs.length [OW w,x],mU,x,bi,e1,e2,by simp[jz],⟨?_,fun i hi aB=>?_,hF.inj,hF.own⟩,fun q hq=>by rw[eI (by omega)];exact y3 q hq⟩
   ·obtain⟨g1,g2,e⟩|⟨g1,b,g2,e⟩:=hF.gx
    ·exact .inl ⟨g1,g2,e⟩
    ·have:=(hF.own b _ _ e).1
     exact .inr ⟨g1,b,by rw[eI (by omega)];exact g2,e⟩
   ·obtain⟨q1,q2⟩:=hF.box i hi aB
    exact⟨by rw[eI (by omega)];exact q1,q2⟩
  | succ k ih =>
   rintro ρ m hj ⟨h0,h2,h3,cG,oO,gN,mU,x,bi,rfl,c0,c1,hF,y3⟩
   have aC:j<w.rs.l.length:=by omega
   have lQ:=lQ gN mU j aC
   generalize hl:ct w [] (j:Int)=l at lQ
   have PR:lD s.ag.length gN.length l=.slice .aA 0 []∨∃q,lD s.ag.length gN.length l=.aO s.ag.length gN.length 0 3 q 0:=by
    unfold lD;split
    ·exact .inl rfl
    ·exact .inr ⟨_,rfl⟩
   generalize hv:lD s.ag.length gN.length l=v at lQ PR
   generalize A8:gN++tT l=iw at lQ
   have qL:rf (s.push ⟨iw,mU⟩) 2 (.agg [v,B true])=some (.aO s.ag.length iw.length 0 2 1 1,s.push ⟨iw++[[v,B true]],mU⟩):=Q9 (by obtain rfl|⟨q,rfl⟩:=PR<;>rfl) (by decide)
   have avm:gN.length≤iw.length:=by rw[←A8,cj];omega
   have iC:∀q,q<gN.length→(iw++[[v,B true]])[q]? =gN[q]? :=fun q hq=>by rw[dC (by omega),←A8,dC hq]
   have Oq:GX s.ag.length 2 (rh w s.ag.length bi j) j x (iw++[[v,B true]]):=by
    obtain⟨g1,g2,e⟩|⟨g1,b,g2,e⟩:=hF.gx
    ·exact .inl ⟨g1,g2,e⟩
    ·exact .inr ⟨g1,b,by rw[iC b (bd.1 g2).1];exact g2,e⟩
   obtain⟨x',DE,RF,a1,a2,⟨a3,a4⟩,b',a5,rfl,a6⟩:=aco (p:=bs.length+1) (q:=1) (c:=1) (b0:=iw.length) (r2:=[v,B true]) (tk:=mU) hs Oq (by simp) rfl Rb (by omega)
   simp only[cj,dO,iK]at a6
   have gd:bs.length+1<gN.length:=(bd.1 c1).1
   have nA:∀q,q<gN.length→(q<bs.length+2∨∃i:Nat,i<j∧ct w [] (i:Int)≠[]∧q=bi i)→DE[q]? =gN[q]? :=fun q hq y8=>by
    rw[a4 q (by rw[cj];omega) (fun es n e=>?_),iC q hq]
    obtain⟨o1,o2⟩:=hF.own q es n e
    rcases y8 with h|⟨i,hi,aB,rfl⟩
    ·omega
    ·exact o2 i hi aB rfl
   have Am:DE[bs.length+1]? =some [OW w,x]:=by rw[nA _ gd (.inl (by omega))];exact c1
   have c0':DE[bs.length]? =some [NP,.slice .aA 0 []]:=by rw[nA _ (by omega) (.inl (by omega))];exact c0
   have ai5:=(bd.1 Am).1
   have pW:∃ρ1,go AP F (.c (.loop uB)::KA) ⟨ρ,s.push ⟨gN,mU⟩⟩=go AP F (.c (.loop uB)::KA) ⟨ρ1,s.push ⟨DE.set (bs.length+1) [OW w,.aO s.ag.length b' 0 2 (j+1) 0],RF⟩⟩∧ρ1 0=OW w∧ρ1 2=.ptr s.ag.length bs.length 0∧ρ1 3=.ptr s.ag.length (bs.length+1) 0∧ρ1 12=I w.rs.l.length∧ρ1 13=I ((j+1:Nat):Int):=by
    rw[go_loop]
    simp only[OW]at h0 lQ c1 Am⊢
    obtain rfl|⟨q,rfl⟩:=PR
    ·simp(maxSteps:=1000000) only[go_sem,uB,h0,h2,h3,cG,oO,hs,aS aC,c1,lQ,qL,a1,Am,bK aC (show(w.rs.l.length:Int)<_ by omega),Nat.reduceEqDiff,reduceCtorEq,Nat.reduceAdd,Nat.reduceMul,Nat.reduceSub,Int.reduceLT,Int.reduceLE,Int.reduceEq,Int.reduceAdd,Int.reduceSub,Int.reduceNeg,Int.reduceToNat,aP,↓reduceIte]
     refine⟨_,rfl,?_⟩
     exact⟨h0,h2,h3,cG,rfl⟩
    ·simp(maxSteps:=1000000) only[go_sem,uB,h0,h2,h3,cG,oO,hs,aS aC,c1,lQ,qL,a1,Am,bK aC (show(w.rs.l.length:Int)<_ by omega),Nat.reduceEqDiff,reduceCtorEq,Nat.reduceAdd,Nat.reduceMul,Nat.reduceSub,Int.reduceLT,Int.reduceLE,Int.reduceEq,Int.reduceAdd,Int.reduceSub,Int.reduceNeg,Int.reduceToNat,aP,↓reduceIte]
     refine⟨_,rfl,?_⟩
     exact⟨h0,h2,h3,cG,rfl⟩
   obtain⟨ρ1,e1,q0,q2,q3,q12,q13⟩:=pW
   rw[e1]
   refine ih (j+1) (by omega) _ _ (by omega) ?_
   refine⟨q0,q2,q3,q12,q13,DE.set (bs.length+1) [OW w,.aO s.ag.length b' 0 2 (j+1) 0],RF,.aO s.ag.length b' 0 2 (j+1) 0,fun i=>if i=j then gN.length else bi i,rfl,?_,by simp[ai5],⟨?_,fun i hi aB=>?_,fun i q hiq hq aB=>?_,fun b es m e=>?_⟩,fun q hq=>?_⟩
   ·rw[eI (by omega)];exact c0'
   ·refine .inr ⟨by omega,b',?_,rfl⟩
    rw[eI (by omega),a5,Rc]
    rw[arU (bi:=fun i=>if i=j then gN.length else bi i) (bj:=bi) fun i hi=>aq (by omega)]
    simp only[bB,hl,hv]
   ·by_cases eo:i=j
    ·subst eo
     simp only[bB]
     rw[hl]at aB⊢
     refine⟨?_,by omega⟩
     rw[eI (by omega),a4 _ (by rw[cj,←A8,cj];simp only[tT,aq aB,dO,iK];omega) (fun es n e=>?_)]
     ·rw[←A8]
      simp[tT,aq aB]
     ·obtain⟨g1,g2,e2⟩|⟨g1,b,g2,e2⟩:=hF.gx
      ·rw[e2]at e;cases e
      ·rw[e2]at e
       injection e with _ e
       have:=(bd.1 g2).1
       omega
    ·simp only[aq eo]
     obtain⟨q1,q2⟩:=hF.box i (by omega) aB
     have O6:=(bd.1 q1).1
     refine⟨?_,q2⟩
     rw[eI (by omega),nA _ O6 (.inr ⟨i,by omega,aB,rfl⟩)]
     exact q1
   ·have hi:i≠j:=by omega
    simp only[aq hi]
    by_cases XB:q=j
    ·simp only[ak XB]
     exact(bd.1 (hF.box i (by omega) aB).1).1
    ·simp only[aq XB]
     exact hF.inj i q hiq (by omega) aB
   ·injection e with _ e
    refine⟨by omega,fun i hi aB=>?_⟩
    by_cases eo:i=j
    ·show(if i=j then gN.length else bi i)≠b
     rw[ak eo];omega
    ·show(if i=j then gN.length else bi i)≠b
     rw[aq eo]
     have:=(bd.1 (hF.box i (by omega) aB).1).1
     omega
   ·rw[eI (by omega),nA q (by omega) (.inl (by omega))]
    exact y3 q hq
 simp only[OW]at key⊢
 simp(maxSteps:=1000000) only[go_sem,M9,hs,ub,at_len,qV,mT,Nat.reduceEqDiff,reduceCtorEq,Nat.reduceAdd,Nat.reduceMul,Nat.reduceSub,Int.reduceLT,Int.reduceLE,Int.reduceEq,Int.reduceAdd,Int.reduceSub,Int.reduceNeg,Int.reduceToNat,aP,↓reduceIte]
 refine key 0 _ _ (bg _) ?_
 refine⟨rfl,rfl,rfl,rfl,rfl,_,tk,.slice .aA 0 [],fun _=>0,rfl,?_,?_,⟨.inl ⟨rfl,rfl,rfl⟩,fun i hi=>absurd hi (da _),fun i j _ hj=>absurd hj (da _),fun b es m e=>by cases e⟩,fun j hj=>?_⟩
 ·simp
 ·simp
 ·simp[dC hj]
theorem att (hs:Ok s) (hw:Wk w):aw AP (.fn 44) [OW w] s=some (.agg [OW w,bG 2 ((dG w).map gm)],s):=by
 obtain⟨ρ',fY,tk',x,bi,h1,h2,h3,h4,_⟩:=Wg (F:=afQ) (bs:=[]) (tk:=[]) hs hw
 rw[aL (show AP 44=some Au from rfl) rfl]
 rw[h1]
 have dc:=aob (s:=s) (tk:=tk') hw h4
 have aT:=h4.gx.cell
 simp only[iK]at h2 h3
 simp only[OW,Sl.v]at h3⊢
 simp(maxSteps:=1000000) only[go_sem,h2,h3,dc,Qg,Nat.reduceEqDiff,reduceCtorEq,Nat.reduceAdd,Nat.reduceMul,Nat.reduceSub,Int.reduceLT,Int.reduceLE,Int.reduceEq,Int.reduceAdd,Int.reduceSub,Int.reduceNeg,Int.reduceToNat,aP,↓reduceIte]
end
theorem I4 {a:Nat} (h:a<2^63):(BitVec.ofInt 64 (a:Int)).toNat=a:=by
 have e:BitVec.ofInt 64 (a:Int)=BitVec.ofNat 64 a:=BitVec.ofInt_natCast ..
 rw[e,BitVec.toNat_ofNat]
 exact HG (SA h (by decide))
theorem QI:(2:Nat)^63=9223372036854775808:=by decide
theorem S1 {a b:Nat} (ha:a<2^63) (hb:b<2^63):dy .and (I (a:Int)) (I (b:Int))=some (I ((a&&&b:Nat):Int)):=by
 have h:((BitVec.ofInt 64 (a:Int)&&&BitVec.ofInt 64 (b:Int)).toNat:Int)=((a&&&b:Nat):Int):=by rw[BitVec.toNat_and,I4 ha,I4 hb]
 have hl:(a&&&b)≤a:=Nat.and_le_left
 rw[QI]at ha
 have hw:IntKind.i64.wrap ((a&&&b:Nat):Int)=((a&&&b:Nat):Int):=bW (by omega) (by omega)
 show Option.map AV.v (some (Value.int IntKind.i64 (IntKind.i64.wrap ((BitVec.ofInt 64 (a:Int)&&&BitVec.ofInt 64 (b:Int)).toNat:Int))))=_
 rw[h,hw];rfl
theorem S3 {a b:Nat} (ha:a<2^63) (hb:b<2^63):dy .or (I (a:Int)) (I (b:Int))=some (I ((a|||b:Nat):Int)):=by
 have h:((BitVec.ofInt 64 (a:Int)|||BitVec.ofInt 64 (b:Int)).toNat:Int)=((a|||b:Nat):Int):=by rw[BitVec.toNat_or,I4 ha,I4 hb]
 have hl:(a|||b)<2^63:=Nat.or_lt_two_pow ha hb
 rw[QI]at hl
 have hw:IntKind.i64.wrap ((a|||b:Nat):Int)=((a|||b:Nat):Int):=bW (by omega) (by omega)
 show Option.map AV.v (some (Value.int IntKind.i64 (IntKind.i64.wrap ((BitVec.ofInt 64 (a:Int)|||BitVec.ofInt 64 (b:Int)).toNat:Int))))=_
 rw[h,hw];rfl
theorem HU {a k:Nat} (hk:k≤64):dy .shr (I (a:Int)) (I (k:Int))=some (I ((a/2^k:Nat):Int)):=by
 have h1:¬((k:Int)<0):=by omega
 have h2:min ((k:Int)).toNat IntKind.i64.bits=k:=by
  rw[Ci];exact Nat.min_eq_left hk
 have h3:((a:Int)).fdiv (2^k)=((a/2^k:Nat):Int):=by
  rw[abC _ (Int.pow_nonneg (by decide))]
  rw[Int.natCast_ediv];simp
 show Option.map AV.v (tY .shr .i64 (a:Int) (k:Int))=_
 unfold tY
 rw[aq h1]
 simp only[h2,h3]
 rfl
theorem CJ {k:Nat} (hk:k≤62):dy .shl (I 1) (I (k:Int))=some (I ((2^k:Nat):Int)):=by
 have h1:¬((k:Int)<0):=by omega
 have h2:min ((k:Int)).toNat IntKind.i64.bits=k:=by
  rw[Ci];exact Nat.min_eq_left (by show k≤64;omega)
 have h3:((1:Int)*2^k)=(((2:Nat)^k:Nat):Int):=by simp
 have h4:(2:Nat)^k<9223372036854775808:=by rw[←QI];exact LK (by decide) (by omega)
 generalize(2:Nat)^k=q at*
 show Option.map AV.v (tY .shl .i64 1 (k:Int))=_
 unfold tY
 rw[aq h1]
 simp only[h2,h3]
 rw[bW (by omega) (by omega)]
 rfl
theorem S2 {a:Nat} (ha:a<2^63):dy .and (I (a:Int)) (I 1)=some (I ((a%2:Nat):Int)):=by
 have:=S1 (a:=a) (b:=1) ha (by decide)
 rw[Nat.and_one_is_mod]at this;exact this
def pq (m n:Nat):List Int:=((List.range n).filter fun i=>m.testBit i).map fun i:Nat=>(i:Int)
def de (m:Nat):List Int:=pq m 62
theorem Qu {m n:Nat}:pq m (n+1)=pq m n++if m.testBit n=true then[(n:Int)]else[]:=by
 simp only[pq,Cp,oA,iL,Lq,Ho]
 cases m.testBit n<;>simp
theorem Qt {m n:Nat}:(pq m n).length≤n:=by
 simp only[pq,bY]
 have:=nN (fun i=>m.testBit i) (List.range n)
 simpa using this
theorem YQ {m n k:Nat} (h:m/2^n=0) (hk:n≤k):pq m k=pq m n:=by
 induction k with
 |zero=>have:n=0:=(by omega);subst this;rfl
 | succ k ih =>
  by_cases e:n=k+1
  ·rw[e]
  ·rw[Qu,ih (by omega)]
   have aC:m<2^n:=by
    have:=Nat.div_eq_zero_iff.1 h
    rcases this with h|h
    ·exact absurd h (Nat.ne_of_gt (Nat.two_pow_pos n))
    ·exact h
   have:m.testBit k=false:=HJ (mZ aC (jh (by decide) (by omega)))
   rw[this];simp
theorem aoP {m:Nat} {i:Int} (h:i∈de m):0≤i∧i<62∧m.testBit i.toNat=true:=by
 obtain⟨k,hk,rfl⟩:=cC.1 h
 obtain⟨h1,h2⟩:=eS.1 hk
 have:=nP.1 h1
 exact⟨by omega,by omega,by simpa using h2⟩
theorem BM {m n:Nat} (h:m<2^n) {i:Int} (hi:i∈de m):0≤i∧i<n:=by
 obtain⟨h1,_,h2⟩:=aoP hi
 refine⟨h1,?_⟩
 apply qh
 intro hc
 have:m.testBit i.toNat=false:=HJ (mZ h (jh (by decide) (by omega)))
 rw[this]at h2;cases h2
section
variable{s:ae} {w:W}
theorem asj {r:R} (hs:Ok s) (h1:-1000≤r.lo) (h2:r.lo≤1000) (h3:-1000≤r.hi) (h4:r.hi≤1000) (h5:-1000≤r.len) (h6:r.len≤1000):aw AP (.fn 53) [.agg (bU r)] s=some (B (decide (8<r.hi-r.lo+2-r.len)),s):=by
 rw[aL (show AP 53=some Es from rfl) rfl]
 simp(maxSteps:=1000000) only[go_sem,TN,hs,bW (x:=r.hi-r.lo) (by omega) (by omega),bW (x:=r.hi-r.lo+2) (by omega) (by omega),bW (x:=r.hi-r.lo+2-r.len) (by omega) (by omega),Nat.reduceEqDiff,reduceCtorEq,Nat.reduceAdd,Nat.reduceMul,Nat.reduceSub,Int.reduceLT,Int.reduceLE,Int.reduceEq,Int.reduceAdd,Int.reduceSub,Int.reduceNeg,Int.reduceToNat,aP,↓reduceIte]
def zI (w:W):Bool:=decide (w.rs.l.length≤6)&&!w.rs.l.any fun r=>decide (8<r.hi-r.lo+2-r.len)
theorem aam {w:W} (hs:Ok s) (hw:w.Ok) (hf:w.kn):aw AP (.fn 27) [w.v] s=some (.tuple [if(dp w).2.2=0 then OW w else NP,I (if(dp w).2.2=0 then(cond (zI w) 0 8)else(dp w).2.2)],s):=by
 by_cases he:(dp w).2.2=0
 ·have ho:∀r,aw AP (.fn 52) [w.v] (s.push r)=some (.tuple [OW w,I 0],s.push r):=fun r=>aak (hs.push r) hw hf he
  have hv:=rm he
  have eW:∀r,aw AP (.fn 54) [.slice w.rs.o w.rs.e (w.rs.l.map bU),.fn 53 [] []] (s.push r)=some (B (w.rs.l.any fun r=>decide (8<r.hi-r.lo+2-r.len)),s.push r):=fun r=>
   atP hw.rs.1 (by have:=hv.rl;omega) fun a ha r q=>by
    have:=hv.r a ha
    have h1:=this.qW
    have h2:=this.BI
    have h3:=this.bH
    have h4:=this.p9
    have h5:=this.pn
    have h6:=hv.n2
    exact asj (((hs.push _).push _).push _) (by omega) (by omega) (by omega) (by omega) (by omega) (by omega)
  have h6:decide ((w.rs.l.length:Int)≤6)=decide (w.rs.l.length≤6):=by
   by_cases h:w.rs.l.length≤6
   ·rw[bP h,bP (by omega)]
   ·rw[bS h,bS (by omega)]
  rw[ak he,ak he]
  rw[aL (show AP 27=some Ar from rfl) rfl]
  simp only[W.v,c8,Sl.v]at ho
  simp only[OW]at ho⊢
  simp(maxSteps:=1000000) only[go_sem,MX,hs,ho,aY,eA,eW,lH,h6,zI,Nat.reduceEqDiff,reduceCtorEq,Nat.reduceAdd,Nat.reduceMul,Nat.reduceSub,Int.reduceLT,Int.reduceLE,Int.reduceEq,Int.reduceAdd,Int.reduceSub,Int.reduceNeg,Int.reduceToNat,aP,↓reduceIte]
 ·have ho:∀r,aw AP (.fn 52) [w.v] (s.push r)=some (.tuple [NP,I (dp w).2.2],s.push r):=fun r=>aan (hs.push r) hw hf he
  rw[aq he,aq he]
  rw[aL (show AP 27=some Ar from rfl) rfl]
  simp only[W.v,c8,Sl.v]at ho
  simp(maxSteps:=1000000) only[go_sem,MX,hs,ho,aY,he,ig,Nat.reduceEqDiff,reduceCtorEq,Nat.reduceAdd,Nat.reduceMul,Nat.reduceSub,Int.reduceLT,Int.reduceLE,Int.reduceEq,Int.reduceAdd,Int.reduceSub,Int.reduceNeg,Int.reduceToNat,aP,↓reduceIte]
theorem Rm {m:Nat} (hm:m<2^62) (hs:Ok s):aw AP (.fn 31) [I (m:Int)] s=some (bG 1 ((de m).map aD),s):=by
 have O7:m<2^63:=SA hm (by decide)
 have key:∀(j:Nat) ρ x,j≤62→(ρ 0=I (m:Int)∧ρ 4=I j∧∃og tk,Acc s.ag.length 1 ((pq m j).map aD) (ρ 3) og tk∧x=s.push ⟨[],tk⟩)→go AP VR (.c (.loop yb)::Yi) ⟨ρ,x⟩=some (bG 1 ((de m).map aD),s):=by
  have stop:∀(j:Nat) (ρ:Nat→AV) (x:ae),m/2^j=0→j≤62→(ρ 0=I (m:Int)∧ρ 4=I j∧∃og tk,Acc s.ag.length 1 ((pq m j).map aD) (ρ 3) og tk∧x=s.push ⟨[],tk⟩)→
    go AP VR (.c yb::.lp yb::Yi) ⟨ρ,x⟩=some (bG 1 ((de m).map aD),s):=by
   rintro j ρ x h0 hj ⟨g0,g4,og,tk,hA,rfl⟩
   have e:de m=pq m j:=YQ h0 hj
   simp(maxSteps:=1000000) only[go_sem,yb,Dm,g0,g4,HU (a:=m) (k:=j) (by omega),h0,hA.leave,Nat.reduceEqDiff,reduceCtorEq,Nat.reduceAdd,Nat.reduceMul,Nat.reduceSub,Int.reduceLT,Int.reduceLE,Int.reduceEq,Int.reduceAdd,Int.reduceSub,Int.reduceNeg,Int.reduceToNat,aP,↓reduceIte]
   rw[e]
  refine ck 62 _ _ ?_ ?_
  ·rintro j ρ x hj hP ih
   by_cases h0:m/2^j=0
   ·exact stop j ρ x h0 (by omega) hP
   ·obtain⟨g0,g4,og,tk,hA,rfl⟩:=hP
    have hd:decide ((0:Int)<((m/2^j:Nat):Int))=true:=bP (by generalize m/2^j=q at*;omega)
    have aC:m/2^j<2^63:=Nat.lt_of_le_of_lt (Sr _ _) O7
    have hand:=S2 (a:=m/2^j) aC
    have hw:=bK hj (show((62:Nat):Int)<_ by decide)
    have ht:decide (((m/2^j%2:Nat):Int)=1)=m.testBit j:=by
     rw[abO]
     generalize m/2^j=q at*
     by_cases h:q%2=1
     ·rw[bP h,bP (by omega)]
     ·rw[bS h,bS (by omega)]
    have hl:=Qt (m:=m) (n:=j)
    cases hb:m.testBit j with
    |false=>
     rw[hb]at ht
     simp(maxSteps:=1000000) only[go_sem,yb,Dm,g0,g4,HU (a:=m) (k:=j) (by omega),hd,hand,ht,hw,Nat.reduceEqDiff,reduceCtorEq,Nat.reduceAdd,Nat.reduceMul,Nat.reduceSub,Int.reduceLT,Int.reduceLE,Int.reduceEq,Int.reduceAdd,Int.reduceSub,Int.reduceNeg,Int.reduceToNat,aP,↓reduceIte]
     refine ih _ _ ?_
     refine⟨g0,rfl,og,tk,?_,rfl⟩
     rw[Qu,hb,aq (by simp),jd];exact hA
    |true=>
     rw[hb]at ht
     obtain⟨x',gl,tk',cQ,eL,_⟩:=hA.append hs .full (ys:=[[I (j:Int)]]) (by simp) (by simp;omega)
     simp(maxSteps:=1000000) only[go_sem,yb,Dm,g0,g4,HU (a:=m) (k:=j) (by omega),hd,hand,ht,cQ,hw,Nat.reduceEqDiff,reduceCtorEq,Nat.reduceAdd,Nat.reduceMul,Nat.reduceSub,Int.reduceLT,Int.reduceLE,Int.reduceEq,Int.reduceAdd,Int.reduceSub,Int.reduceNeg,Int.reduceToNat,aP,↓reduceIte]
     refine ih _ _ ?_
     refine⟨g0,rfl,gl,tk',?_,rfl⟩
     rw[Qu,hb,ak rfl,iL];exact eL
  ·rintro ρ x hP
   exact stop 62 ρ x (LF hm) (aH _) hP
 rw[aL (show AP 31=some Ep from rfl) rfl]
 simp(maxSteps:=1000000) only[go_sem,TM,Nat.reduceEqDiff,reduceCtorEq,Nat.reduceAdd,Nat.reduceMul,Nat.reduceSub,Int.reduceLT,Int.reduceLE,Int.reduceEq,Int.reduceAdd,Int.reduceSub,Int.reduceNeg,Int.reduceToNat,aP,↓reduceIte]
 refine key 0 _ _ (bg _) ?_
 exact⟨rfl,rfl,none,[],Acc.start,rfl⟩
def nH (w:W):List Int→Int
 |[]=>0
 |i::r=>(w.rq i).val+nH w r
theorem aaR {w:W}:∀{l r:List Int},nH w (l++r)=nH w l+nH w r
 |[],r=>by simp[nH]
 |i::l,r=>by simp only[kq,nH,aaR];omega
theorem G9 (hw:Wk w):∀{l:List Int},(∀i∈l,0≤i∧i<w.rs.l.length)→0≤nH w l∧nH w l≤100000*l.length
 |[],_=>by simp[nH]
 |i::l,h=>by
  have h1:=G9 hw (l:=l) fun j hj=>h j (jf _ hj)
  have h2:=h i (xS ..)
  have h3:=hw.rq h2.1 h2.2
  have:=h3.Lg
  have:=h3.Lh
  simp only[nH,dO];omega
def jc (w:W) (m:Nat):Int:=nH w (de m)
structure sP (w:W) (e:Nat) (all:List (Sl P×Bool)):Prop where
 e:all=[]∨e=2
 len:all.length=w.rs.l.length
 ok:∀c∈all,c.1.ok 3
 cnt:∀c∈all,c.1.l.length≤13000
 iW:∀c∈all,∀p∈c.1.l,ch w p
 req:∀(i:Nat) (c:Sl P×Bool),all[i]? =some c→∀p∈c.1.l,p.req=i
theorem YR {m:Nat}:(de m).length≤62:=Qt
theorem adE {o:Own} {e:Nat} {all:List (Sl P×Bool)} {m:Nat} (hs:Ok s) (hw:Wk w) (hm:m<2^w.rs.l.length):aw AP (.fn 64) [CH w o e all,I (m:Int)] s=some (I (jc w m),s):=by
 have er:=hw.v.rl
 have qJ:m<2^62:=mZ hm (jh (by decide) (by omega))
 have bH:∀i∈de m,0≤i∧i<w.rs.l.length:=fun i hi=>BM hm hi
 have hml:=YR (m:=m)
 have key:∀(j:Nat) ρ x,j≤(de m).length→(ρ 2=.ptr s.ag.length 0 0∧ρ 5=I (nH w ((de m).take j))∧ρ 9=bG 1 ((de m).map aD)∧ρ 10=I (de m).length∧ρ 11=I j∧x=s.push ⟨[[OW w,.slice o e (all.map gm)]],[]⟩)→go AP afw (.c (.loop H7)::amH) ⟨ρ,x⟩=some (I (jc w m),s):=by
  refine ck (de m).length _ _ ?_ ?_
  ·rintro j ρ x hj ⟨h2,h5,h9,dh,dZ,rfl⟩ ih
   obtain⟨i,hi⟩:=get_some hj
   have yZ:=bH i (bQ hi)
   have hr:=Kx (es:=1) (xs:=(de m).map aD) (k:=j) (row:=aD i) (by rw[je,hi];rfl)
   have hb:=G9 hw (l:=(de m).take j) fun a ha=>bH a (xT ha)
   have hq:=hw.rq yZ.1 yZ.2
   have q0:=hq.Lg
   have q1:=hq.Lh
   have hl:((de m).take j).length≤62:=by rw[fV];omega
   simp only[OW]
   simp(maxSteps:=1000000) only[go_sem,H7,H8,h2,h5,h9,dh,dZ,hs,aS hj,hr,ub,qU hw yZ.1 yZ.2,bW (x:=nH w ((de m).take j)+(w.rq i).val) (by omega) (by omega),bK hj (show((de m).length:Int)<_ by omega),Nat.reduceEqDiff,reduceCtorEq,Nat.reduceAdd,Nat.reduceMul,Nat.reduceSub,Int.reduceLT,Int.reduceLE,Int.reduceEq,Int.reduceAdd,Int.reduceSub,Int.reduceNeg,Int.reduceToNat,aP,↓reduceIte]
   refine ih _ _ ?_
   refine⟨h2,?_,h9,dh,rfl,rfl⟩
   rw[fT hi,aaR];simp[nH,put]
  ·rintro ρ x ⟨h2,h5,h9,dh,dZ,rfl⟩
   rw[jg]at h5
   simp(maxSteps:=1000000) only[go_sem,H7,H8,h5,dh,dZ,bM,Nat.reduceEqDiff,reduceCtorEq,Nat.reduceAdd,Nat.reduceMul,Nat.reduceSub,Int.reduceLT,Int.reduceLE,Int.reduceEq,Int.reduceAdd,Int.reduceSub,Int.reduceNeg,Int.reduceToNat,aP,↓reduceIte]
   rfl
 have O8:∀r,aw AP (.fn 31) [I (m:Int)] (s.push r)=some (bG 1 ((de m).map aD),s.push r):=fun r=>Rm qJ (hs.push r)
 rw[aL (show AP 64=some DP from rfl) rfl]
 simp only[OW]at key⊢
 simp(maxSteps:=1000000) only[go_sem,Tn,hs,O8,Nat.reduceEqDiff,reduceCtorEq,Nat.reduceAdd,Nat.reduceMul,Nat.reduceSub,Int.reduceLT,Int.reduceLE,Int.reduceEq,Int.reduceAdd,Int.reduceSub,Int.reduceNeg,Int.reduceToNat,aP,↓reduceIte]
 refine key 0 _ _ (bg _) ?_
 exact⟨rfl,rfl,rfl,rfl,rfl,rfl⟩
def tQ (m:Nat):Nat→List (Sl P×Bool)→Bool
 |_,[]=>true
 |k,c::r=>(c.2||m.testBit k)&&tQ m (k+1) r
def pt (all:List (Sl P×Bool)) (m:Nat):Bool:=tQ m 0 all
theorem aqz {m k:Nat} {all:List (Sl P×Bool)} {c:Sl P×Bool} (h:all[k]? =some c):tQ m k (all.drop k)=((c.2||m.testBit k)&&tQ m (k+1) (all.drop (k+1))):=by
 rw[eP h];rfl
theorem adC {o:Own} {e:Nat} {all:List (Sl P×Bool)} {m:Nat} (hs:Ok s) (he:all=[]∨e=2) (hl:all.length≤12) (hm:m<2^62):aw AP (.fn 65) [CH w o e all,I (m:Int)] s=some (B (pt all m),s):=by
 have O7:m<2^63:=SA hm (by decide)
 have key:∀(j:Nat) ρ x,j≤all.length→(ρ 1=I (m:Int)∧ρ 8=.slice o e (all.map gm)∧ρ 9=I all.length∧ρ 10=I j∧∃bx,x=s.push ⟨bx,[]⟩)→go AP afv (.c (.loop H3)::amE) ⟨ρ,x⟩=some (B (tQ m j (all.drop j)),s):=by
  refine ck all.length _ _ ?_ ?_
  ·rintro j ρ x hj ⟨h1,h8,h9,dh,bx,rfl⟩ ih
   obtain⟨c,hc⟩:=get_some hj
   have kC:e=2:=by rcases he with h|h;(rw[h]at hc;simp at hc);exact h
   subst kC
   have hr:=cq (f:=gm) (o:=o) (es:=2) hc
   have aC:m/2^j<2^63:=Nat.lt_of_le_of_lt (Sr _ _) O7
   have ht:decide (((m/2^j%2:Nat):Int)=0)=!m.testBit j:=by
    rw[abO]
    generalize m/2^j=q at*
    by_cases h:q%2=1
    ·rw[bP h,bS (by omega)];rfl
    ·rw[bS h,bP (by omega)];rfl
   rw[aqz hc]
   simp(maxSteps:=1000000) only[go_sem,H3,H4,h1,h8,h9,dh,hs,aS hj,hr,HU (a:=m) (k:=j) (by omega),S2 aC,ht,bK hj (show(all.length:Int)<_ by omega),Nat.reduceEqDiff,reduceCtorEq,Nat.reduceAdd,Nat.reduceMul,Nat.reduceSub,Int.reduceLT,Int.reduceLE,Int.reduceEq,Int.reduceAdd,Int.reduceSub,Int.reduceNeg,Int.reduceToNat,aP,↓reduceIte]
   cases gg:c.2<;>cases hb:m.testBit j<;>simp(maxSteps:=1000000) only[go_sem,mW,kL,xJ,mV,Bool.or_true,Cg,Nat.reduceEqDiff,reduceCtorEq,Nat.reduceAdd,Nat.reduceMul,Nat.reduceSub,Int.reduceLT,Int.reduceLE,Int.reduceEq,Int.reduceAdd,Int.reduceSub,Int.reduceNeg,Int.reduceToNat,aP,↓reduceIte]<;>first
    |rfl
    |(refine ih _ _ ?_;exact⟨h1,h8,h9,rfl,_,rfl⟩)
  ·rintro ρ x ⟨h1,h8,h9,dh,bx,rfl⟩
   simp(maxSteps:=1000000) only[go_sem,H3,H4,h9,dh,bM,Nat.reduceEqDiff,reduceCtorEq,Nat.reduceAdd,Nat.reduceMul,Nat.reduceSub,Int.reduceLT,Int.reduceLE,Int.reduceEq,Int.reduceAdd,Int.reduceSub,Int.reduceNeg,Int.reduceToNat,aP,↓reduceIte]
   rw[eR];rfl
 rw[aL (show AP 65=some DN from rfl) rfl]
 simp only[CH,OW]
 simp(maxSteps:=1000000) only[go_sem,Tm,hs,Nat.reduceEqDiff,reduceCtorEq,Nat.reduceAdd,Nat.reduceMul,Nat.reduceSub,Int.reduceLT,Int.reduceLE,Int.reduceEq,Int.reduceAdd,Int.reduceSub,Int.reduceNeg,Int.reduceToNat,aP,↓reduceIte]
 refine key 0 _ _ (bg _) ?_
 exact⟨rfl,rfl,rfl,rfl,_,rfl⟩
def wo (w:W) (p:P) (l:List P):List P:=l.filter fun x=>!dE w x p
theorem abk {l:List P} {p:P} {o:Own} {e:Nat} (hs:Ok s) (hw:Wk w) (he:l=[]∨e=3) (hl:l.length≤13000) (bH:∀x∈l,ch w x) (hp:ch w p):aw AP (.fn 89) [OW w,.slice o e (l.map aj),.agg (aj p)] s=some (bG 3 ((wo w p l).map aj),s):=by
 have key:∀(j:Nat) ρ x,j≤l.length→(ρ 0=OW w∧ρ 5=.ptr s.ag.length 0 0∧ρ 10=.slice o e (l.map aj)∧ρ 11=I l.length∧ρ 12=I j∧∃og tk bx,Acc s.ag.length 3 ((wo w p (l.take j)).map aj) (ρ 7) og tk∧x=s.push ⟨aj p::bx,tk⟩)→go AP afS (.c (.loop Dx)::anz) ⟨ρ,x⟩=some (bG 3 ((wo w p l).map aj),s):=by
  refine ck l.length _ _ ?_ ?_
  ·rintro j ρ x hj ⟨h0,h5,dh,dZ,cG,og,tk,bx,hA,rfl⟩ ih
   obtain⟨y,hy⟩:=get_some hj
   have Bx:=bH y (bQ hy)
   have n6:e=3:=by rcases he with h|h;(rw[h]at hy;simp at hy);exact h
   subst n6
   have hr:=cq (f:=aj) (o:=o) (es:=3) hy
   have eW:∀r,aw AP (.fn 105) [OW w,.agg (aj y),.agg (aj p)] (s.push r)=some (B (dE w y p),s.push r):=fun r=>abg (hs.push r) hw Bx hp
   have aT:closeAll (aj y)=some (aj y):=by
    simp only[aj,mq,oH,pK,Sl.close Bx.ok];rfl
   have wT:wo w p (l.take (j+1))=wo w p (l.take j)++if dE w y p=true then[]else[y]:=by
    unfold wo
    rw[fT hy,oA];cases h:dE w y p<;>simp[h]
   have aR:(wo w p (l.take j)).length≤13000:=by
    have:=nN (fun x=>!dE w x p) (l.take j)
    rw[fV]at this;unfold wo;omega
   simp only[aj,Sl.v]at eW aT
   cases hc:dE w y p with
   |true=>
    rw[hc]at eW
    simp(maxSteps:=1000000) only[go_sem,Dx,Dy,h0,h5,dh,dZ,cG,hs,aS hj,hr,eW,bK hj (show(l.length:Int)<_ by omega),Nat.reduceEqDiff,reduceCtorEq,Nat.reduceAdd,Nat.reduceMul,Nat.reduceSub,Int.reduceLT,Int.reduceLE,Int.reduceEq,Int.reduceAdd,Int.reduceSub,Int.reduceNeg,Int.reduceToNat,aP,↓reduceIte]
    refine ih _ _ ?_
    refine⟨h0,h5,dh,dZ,rfl,og,tk,_,?_,rfl⟩
    rw[wT,hc,ak rfl,jd];exact hA
   |false=>
    rw[hc]at eW
    obtain⟨x',gl,tk',cQ,eL,_⟩:=hA.append hs .full (ys:=[aj y]) (by simp) (by simp;omega)
    simp only[aj,Sl.v]at cQ
    simp(maxSteps:=1000000) only[go_sem,Dx,Dy,h0,h5,dh,dZ,cG,hs,aS hj,hr,eW,aT,cQ,bK hj (show(l.length:Int)<_ by omega),Nat.reduceEqDiff,reduceCtorEq,Nat.reduceAdd,Nat.reduceMul,Nat.reduceSub,Int.reduceLT,Int.reduceLE,Int.reduceEq,Int.reduceAdd,Int.reduceSub,Int.reduceNeg,Int.reduceToNat,aP,↓reduceIte]
    refine ih _ _ ?_
    refine⟨h0,h5,dh,dZ,rfl,gl,tk',_,?_,rfl⟩
    rw[wT,hc,aq (by simp),iL];exact eL
  ·rintro ρ x ⟨h0,h5,dh,dZ,cG,og,tk,bx,hA,rfl⟩
   rw[jg]at hA
   simp(maxSteps:=1000000) only[go_sem,Dx,Dy,dZ,cG,bM,hA.leave,Nat.reduceEqDiff,reduceCtorEq,Nat.reduceAdd,Nat.reduceMul,Nat.reduceSub,Int.reduceLT,Int.reduceLE,Int.reduceEq,Int.reduceAdd,Int.reduceSub,Int.reduceNeg,Int.reduceToNat,aP,↓reduceIte]
 rw[aL (show AP 89=some EP from rfl) rfl]
 simp(maxSteps:=1000000) only[go_sem,T7,hs,Nat.reduceEqDiff,reduceCtorEq,Nat.reduceAdd,Nat.reduceMul,Nat.reduceSub,Int.reduceLT,Int.reduceLE,Int.reduceEq,Int.reduceAdd,Int.reduceSub,Int.reduceNeg,Int.reduceToNat,aP,↓reduceIte]
 refine key 0 _ _ (bg _) ?_
 exact⟨rfl,rfl,rfl,rfl,rfl,none,[],[],Acc.start,rfl⟩
theorem asl {p:P} {i:Int} {d b:Nat} (hs:Ok s) (hb:s.box d b=some [I i]):aw AP (.fn 73) [.agg (aj p),.ptr d b 0] s=some (B (decide (p.req=i)),s):=by
 rw[aL (show AP 73=some Eu from rfl) rfl]
 simp(maxSteps:=1000000) only[go_sem,TO,hs,eO hb,Nat.reduceEqDiff,reduceCtorEq,Nat.reduceAdd,Nat.reduceMul,Nat.reduceSub,Int.reduceLT,Int.reduceLE,Int.reduceEq,Int.reduceAdd,Int.reduceSub,Int.reduceNeg,Int.reduceToNat,aP,↓reduceIte]
def aM (l:List P) (i:Int):Option P:=l.find? fun x=>decide (x.req=i)
def bV:P:=⟨0,0,⟨.aA,0,[]⟩⟩
theorem AW {α:Type} {p:α→Bool}:∀{l:List α},(l.find? p=none∧du p l=-1)∨∃(k:Nat) (x:α),l.find? p=some x∧l[k]? =some x∧du p l=k
 |[]=>.inl ⟨rfl,rfl⟩
 | a :: r => by
  cases h:p a with
  |true=>exact .inr ⟨0,a,by simp[h],rfl,by simp[du,h]⟩
  |false=>
   rcases AW (p:=p) (l:=r)with⟨h1,h2⟩|⟨k,x,h1,h2,h3⟩
   ·exact .inl ⟨by simp[h,h1],by simp[du,h,h2]⟩
   ·exact .inr ⟨k+1,x,by simp[h,h1],by simpa using h2,by simp only[du,h,h3,ef,cE];rw[aq (by omega)];simp⟩
theorem GV {l:List P} {i:Int} {o:Own} {e:Nat} (hs:Ok s) (he:l=[]∨e=3) (hn:(l.length:Int)<9223372036854775808) (bE:∀p∈l,p.an.ok 1):
  aw AP (.fn 45) [.slice o e (l.map aj),I i] s=some (.tuple [.agg (aj ((aM l i).getD bV)),B (aM l i).isSome],s):=by
 have eW:∀b,aw AP (.fn 72) [.slice o e (l.map aj),.fn 73 [] [.ptr s.ag.length 0 0]] (s.push ⟨[I i]::b,[]⟩)=some (I (du (fun x=>decide (x.req=i)) l),s.push ⟨[I i]::b,[]⟩):=fun b=>
  RQ he hn fun a ha r=>asl ((hs.push _).push _) (eO Nu _)
 rw[aL (show AP 45=some Et from rfl) rfl]
 rcases AW (p:=fun x:P=>decide (x.req=i)) (l:=l)with⟨h1,h2⟩|⟨k,x,h1,h2,h3⟩
 ·rw[h2]at eW
  have hp:aM l i=none:=h1
  simp(maxSteps:=1000000) only[go_sem,MY,hs,eW,hp,Nat.reduceEqDiff,reduceCtorEq,Nat.reduceAdd,Nat.reduceMul,Nat.reduceSub,Int.reduceLT,Int.reduceLE,Int.reduceEq,Int.reduceAdd,Int.reduceSub,Int.reduceNeg,Int.reduceToNat,aP,↓reduceIte]
  rfl
 ·rw[h3]at eW
  have hp:aM l i=some x:=h1
  have hd:decide ((k:Int)<0)=false:=bS (by omega)
  have n6:e=3:=by rcases he with h|h;(rw[h]at h2;simp at h2);exact h
  subst n6
  have hr:=cq (f:=aj) (o:=o) (es:=3) h2
  have dc:=Sl.BF (f:=aD) (m:=s.push ⟨[[I i],aj x],[]⟩) (bE x (bQ h2))
  simp only[aj,Sl.v]at dc
  simp(maxSteps:=1000000) only[go_sem,MY,hs,eW,hp,hd,hr,dc,Nat.reduceEqDiff,reduceCtorEq,Nat.reduceAdd,Nat.reduceMul,Nat.reduceSub,Int.reduceLT,Int.reduceLE,Int.reduceEq,Int.reduceAdd,Int.reduceSub,Int.reduceNeg,Int.reduceToNat,aP,↓reduceIte]
  rfl
def xC (l:List (List P)):Nat→Nat→Nat
 |0,b=>b
 |n+1,b=>let k:=l.length-(n+1);xC l n (if(l.getD k []).length<(l.getD b []).length then k else b)
def fJ (l:List (List P)):Nat:=xC l l.length 0
theorem aaB {l:List (List P)}:∀{n b:Nat},n≤l.length→b<l.length→xC l n b<l.length
 |0,b,_,hb=>hb
 |n+1,b,hn,hb=>by
  simp only[xC]
  refine aaB (by omega) ?_
  split<;>omega
theorem Rt {l:List (List P)} (h:l≠[]):fJ l<l.length:=aaB (aH _) (Cm.2 h)
def pM (w:W):Nat→List (List P)→Bool
 |0,_=>true
 |n+1,l=>(l.getD (fJ l) []).any fun p=>pM w n ((l.eraseIdx (fJ l)).map (wo w p))
def fit (w:W) (l:List (List P)):Bool:=pM w l.length l
abbrev jT (x:Sl P):List AV:=[x.v aj]
attribute [go_sem] jT
structure zT (w:W) (l:List (Sl P)):Prop where
 len:l.length≤12
 ok:∀x∈l,x.ok 3
 cnt:∀x∈l,x.l.length≤13000
 iW:∀x∈l,∀p∈x.l,ch w p
theorem getD_map {l:List (Sl P)} {k:Nat} {x:Sl P} (h:l[k]? =some x):(l.map (·.l)).getD k []=x.l:=by
 simp[List.getD,je,h]
end
end Go.Ax.Sx.Sc
