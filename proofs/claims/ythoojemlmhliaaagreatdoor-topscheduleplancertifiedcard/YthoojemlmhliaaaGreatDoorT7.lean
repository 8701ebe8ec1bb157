/-
  The opened week: a row of 803 cells.
-/
import Derived.Test.YthoojemlmhliaaaGreatDoorT6
set_option linter.unusedSimpArgs false
set_option linter.unusedVariables false
set_option maxRecDepth 100000
namespace Go.Ax.Sx.Sc
open Go.Ax
section
variable{s:ae}
theorem xw {α:Type} {p:α→Bool} {l:List α} {k:Nat} {a:α} (ha:l[k]? =some a) (fD:p a=true) (hp:∀j y,j<k→l[j]? =some y→p y=false):eY p l=(k:Int):=by
 rcases GV p l with⟨h1,_⟩|⟨_,j,x,h2,h3,h4,h5⟩
 ·have:=qM.1 h1 a (bE ha)
  rw[fD]at this;exact absurd rfl this
 ·rw[h4]
  have:j=k:=by
   rcases UQ j k with h|h|h
   ·have:=hp j x h h2;rw[h3]at this;cases this
   ·exact h
   ·have:=h5 k a h ha;rw[fD]at this;cases this
  rw[this]
theorem xy {α:Type} {p:α→Bool} {l:List α} (hp:∀j y,j<l.length→l[j]? =some y→p y=false):eY p l=-1:=by
 rcases GV p l with⟨_,h⟩|⟨_,j,x,h2,h3,_,_⟩
 ·exact h
 ·have:=hp j x (bI.1 h2).1 h2
  rw[h3]at this;cases this
theorem azh {l:List A} {o:Own} {e:Nat} {g:FuncId} {caps:List AV} {p:A→Bool} (he:l=[]∨e=3) (hl:(l.length:Int)<9223372036854775808)
  (hg:∀a∈l,∀r,aw AP (.fn g) (.agg (bR a)::caps) (s.push r)=some (B (p a),s.push r)):aw AP (.fn 176) [.slice o e (l.map bR),.fn g [] caps] s=some (I (eY p l),s):=by
 have key:∀k ρ m,k≤l.length→(ρ 0=.slice o e (l.map bR)∧ρ 1=.fn g [] caps∧ρ 7=I l.length∧ρ 8=I k∧(∀j y,j<k→l[j]? =some y→p y=false)∧m=s.push ⟨[],[]⟩)→go AP ajl (.c (.loop Kr)::arP) ⟨ρ,m⟩=some (I (eY p l),s):=by
  refine bA l.length _ _ ?_ ?_
  ·rintro k ρ m hk ⟨h0,h1,h7,h8,hp,rfl⟩ ih
   obtain⟨a,ha⟩:=get_some hk
   have he:e=3:=by rcases he with h|h;(rw[h]at ha;simp at ha);exact h
   subst he
   have hr:=cz (o:=o) (es:=3) (f:=bR) ha
   simp only[go_sem,Kr,h0,h1,h7,h8,aL hk,hr,hg a (bE ha),bh hk hl,simprocAttr]
   cases fD:p a with
   |true=>
    simp only[fK]
    rw[xw ha fD hp]
   |false=>
    simp only[ig]
    refine ih _ _ ?_
    refine⟨h0,h1,h7,rfl,fun j y hj hy=>?_,rfl⟩
    by_cases e:j=k
    ·subst e;rw[ha]at hy;injection hy with hy;rw[←hy];exact fD
    ·exact hp j y (by omega) hy
  ·rintro ρ m ⟨h0,h1,h7,h8,hp,rfl⟩
   simp only[go_sem,Kr,PN,h7,h8,bg,simprocAttr]
   rw[xy hp]
 rw[aG (show AP 176=some Gq from rfl) rfl]
 simp only[go_sem,WJ,simprocAttr]
 exact key 0 _ _ (aV _) ⟨rfl,rfl,rfl,rfl,fun j y hj=>absurd hj (dH _),rfl⟩
theorem ay9 {l:List A} {o:Own} {e:Nat} {g:FuncId} {caps:List AV} {p:A→Bool} (he:l=[]∨e=3) (hl:(l.length:Int)<9223372036854775808)
  (hg:∀a∈l,∀r q,aw AP (.fn g) (.agg (bR a)::caps) ((s.push r).push q)=some (B (p a),(s.push r).push q)):aw AP (.fn 144) [.slice o e (l.map bR),.fn g [] caps] s=some (B (l.any p),s):=by
 have h:=azh (s:=s.push ⟨[],[]⟩) (o:=o) (caps:=caps) (g:=g) he hl (fun a ha r=>hg a ha _ r)
 rw[aG (show AP 144=some Gj from rfl) rfl]
 simp only[go_sem,WD,h,vk,simprocAttr]
theorem azi {l:List R} {o:Own} {e:Nat} {g:FuncId} {caps:List AV} {p:R→Bool} (he:l=[]∨e=7) (hl:(l.length:Int)<9223372036854775808)
  (hg:∀a∈l,∀r,aw AP (.fn g) (.agg (aS a)::caps) (s.push r)=some (B (p a),s.push r)):aw AP (.fn 95) [.slice o e (l.map aS),.fn g [] caps] s=some (I (eY p l),s):=by
 have key:∀k ρ m,k≤l.length→(ρ 0=.slice o e (l.map aS)∧ρ 1=.fn g [] caps∧ρ 7=I l.length∧ρ 8=I k∧(∀j y,j<k→l[j]? =some y→p y=false)∧m=s.push ⟨[],[]⟩)→go AP ajm (.c (.loop Kt)::arQ) ⟨ρ,m⟩=some (I (eY p l),s):=by
  refine bA l.length _ _ ?_ ?_
  ·rintro k ρ m hk ⟨h0,h1,h7,h8,hp,rfl⟩ ih
   obtain⟨a,ha⟩:=get_some hk
   have he:e=7:=by rcases he with h|h;(rw[h]at ha;simp at ha);exact h
   subst he
   have hr:=cz (o:=o) (es:=7) (f:=aS) ha
   simp only[go_sem,Kt,h0,h1,h7,h8,aL hk,hr,hg a (bE ha),bh hk hl,simprocAttr]
   cases fD:p a with
   |true=>
    simp only[fK]
    rw[xw ha fD hp]
   |false=>
    simp only[ig]
    refine ih _ _ ?_
    refine⟨h0,h1,h7,rfl,fun j y hj hy=>?_,rfl⟩
    by_cases e:j=k
    ·subst e;rw[ha]at hy;injection hy with hy;rw[←hy];exact fD
    ·exact hp j y (by omega) hy
  ·rintro ρ m ⟨h0,h1,h7,h8,hp,rfl⟩
   simp only[go_sem,Kt,PQ,h7,h8,bg,simprocAttr]
   rw[xy hp]
 rw[aG (show AP 95=some Gr from rfl) rfl]
 simp only[go_sem,WL,simprocAttr]
 exact key 0 _ _ (aV _) ⟨rfl,rfl,rfl,rfl,fun j y hj=>absurd hj (dH _),rfl⟩
theorem azb {l:List R} {o:Own} {e:Nat} {g:FuncId} {caps:List AV} {p:R→Bool} (he:l=[]∨e=7) (hl:(l.length:Int)<9223372036854775808)
  (hg:∀a∈l,∀r q,aw AP (.fn g) (.agg (aS a)::caps) ((s.push r).push q)=some (B (p a),(s.push r).push q)):aw AP (.fn 60) [.slice o e (l.map aS),.fn g [] caps] s=some (B (l.any p),s):=by
 have h:=azi (s:=s.push ⟨[],[]⟩) (o:=o) (caps:=caps) (g:=g) he hl (fun a ha r=>hg a ha _ r)
 rw[aG (show AP 60=some Gk from rfl) rfl]
 simp only[go_sem,WE,h,vk,simprocAttr]
theorem aex {l:List P} {o:Own} {e:Nat} {g:FuncId} {caps:List AV} {p:P→Bool} (he:l=[]∨e=3) (hl:(l.length:Int)<9223372036854775808)
  (hg:∀a∈l,∀r,aw AP (.fn g) (.agg (aq a)::caps) (s.push r)=some (B (p a),s.push r)):aw AP (.fn 142) [.slice o e (l.map aq),.fn g [] caps] s=some (I (eY p l),s):=by
 have key:∀k ρ m,k≤l.length→(ρ 0=.slice o e (l.map aq)∧ρ 1=.fn g [] caps∧ρ 7=I l.length∧ρ 8=I k∧(∀j y,j<k→l[j]? =some y→p y=false)∧m=s.push ⟨[],[]⟩)→go AP Yd (.c (.loop yJ)::aaO) ⟨ρ,m⟩=some (I (eY p l),s):=by
  refine bA l.length _ _ ?_ ?_
  ·rintro k ρ m hk ⟨h0,h1,h7,h8,hp,rfl⟩ ih
   obtain⟨a,ha⟩:=get_some hk
   have he:e=3:=by rcases he with h|h;(rw[h]at ha;simp at ha);exact h
   subst he
   have hr:=cz (o:=o) (es:=3) (f:=aq) ha
   simp only[go_sem,yJ,h0,h1,h7,h8,aL hk,hr,hg a (bE ha),bh hk hl,simprocAttr]
   cases fD:p a with
   |true=>
    simp only[fK]
    rw[xw ha fD hp]
   |false=>
    simp only[ig]
    refine ih _ _ ?_
    refine⟨h0,h1,h7,rfl,fun j y hj hy=>?_,rfl⟩
    by_cases e:j=k
    ·subst e;rw[ha]at hy;injection hy with hy;rw[←hy];exact fD
    ·exact hp j y (by omega) hy
  ·rintro ρ m ⟨h0,h1,h7,h8,hp,rfl⟩
   simp only[go_sem,yJ,Ks,h7,h8,bg,simprocAttr]
   rw[xy hp]
 rw[aG (show AP 142=some Bx from rfl) rfl]
 simp only[go_sem,PO,simprocAttr]
 exact key 0 _ _ (aV _) ⟨rfl,rfl,rfl,rfl,fun j y hj=>absurd hj (dH _),rfl⟩
theorem aza {l:List P} {o:Own} {e:Nat} {g:FuncId} {caps:List AV} {p:P→Bool} (he:l=[]∨e=3) (hl:(l.length:Int)<9223372036854775808)
  (hg:∀a∈l,∀r q,aw AP (.fn g) (.agg (aq a)::caps) ((s.push r).push q)=some (B (p a),(s.push r).push q)):aw AP (.fn 107) [.slice o e (l.map aq),.fn g [] caps] s=some (B (l.any p),s):=by
 have h:=aex (s:=s.push ⟨[],[]⟩) (o:=o) (caps:=caps) (g:=g) he hl (fun a ha r=>hg a ha _ r)
 rw[aG (show AP 107=some Bv from rfl) rfl]
 simp only[go_sem,PJ,h,vk,simprocAttr]
theorem azk {l:List Int} {o:Own} {e:Nat} {g:FuncId} {caps:List AV} {p:Int→Bool} (he:l=[]∨e=1) (hl:(l.length:Int)<9223372036854775808)
  (hg:∀a∈l,∀r,aw AP (.fn g) (I a::caps) (s.push r)=some (B (p a),s.push r)):aw AP (.fn 179) [.slice o e (l.map aC),.fn g [] caps] s=some (I (eY p l),s):=by
 have key:∀k ρ m,k≤l.length→(ρ 0=.slice o e (l.map aC)∧ρ 1=.fn g [] caps∧ρ 7=I l.length∧ρ 8=I k∧(∀j y,j<k→l[j]? =some y→p y=false)∧m=s.push ⟨[],[]⟩)→go AP ajn (.c (.loop Kv)::arS) ⟨ρ,m⟩=some (I (eY p l),s):=by
  refine bA l.length _ _ ?_ ?_
  ·rintro k ρ m hk ⟨h0,h1,h7,h8,hp,rfl⟩ ih
   obtain⟨a,ha⟩:=get_some hk
   have he:e=1:=by rcases he with h|h;(rw[h]at ha;simp at ha);exact h
   subst he
   have hr:=cz (o:=o) (es:=1) (f:=aC) ha
   simp only[go_sem,Kv,h0,h1,h7,h8,aL hk,hr,hg a (bE ha),bh hk hl,simprocAttr]
   cases fD:p a with
   |true=>
    simp only[fK]
    rw[xw ha fD hp]
   |false=>
    simp only[ig]
    refine ih _ _ ?_
    refine⟨h0,h1,h7,rfl,fun j y hj hy=>?_,rfl⟩
    by_cases e:j=k
    ·subst e;rw[ha]at hy;injection hy with hy;rw[←hy];exact fD
    ·exact hp j y (by omega) hy
  ·rintro ρ m ⟨h0,h1,h7,h8,hp,rfl⟩
   simp only[go_sem,Kv,PS,h7,h8,bg,simprocAttr]
   rw[xy hp]
 rw[aG (show AP 179=some Gs from rfl) rfl]
 simp only[go_sem,WM,simprocAttr]
 exact key 0 _ _ (aV _) ⟨rfl,rfl,rfl,rfl,fun j y hj=>absurd hj (dH _),rfl⟩
theorem azd {l:List Int} {o:Own} {e:Nat} {g:FuncId} {caps:List AV} {p:Int→Bool} (he:l=[]∨e=1) (hl:(l.length:Int)<9223372036854775808)
  (hg:∀a∈l,∀r q,aw AP (.fn g) (I a::caps) ((s.push r).push q)=some (B (p a),(s.push r).push q)):aw AP (.fn 149) [.slice o e (l.map aC),.fn g [] caps] s=some (B (l.any p),s):=by
 have h:=azk (s:=s.push ⟨[],[]⟩) (o:=o) (caps:=caps) (g:=g) he hl (fun a ha r=>hg a ha _ r)
 rw[aG (show AP 149=some Gl from rfl) rfl]
 simp only[go_sem,WG,h,vk,simprocAttr]
theorem azo {l:List Int} {x:Int} {o:Own} {e:Nat} (he:l=[]∨e=1) (hl:(l.length:Int)<9223372036854775808):aw AP (.fn 100) [.slice o e (l.map fun a=>[I a]),I x] s=some (I (eY (fun a=>decide (x=a)) l),s):=by
 have key:∀k ρ m,k≤l.length→(ρ 0=.slice o e (l.map fun a=>[I a])∧ρ 1=I x∧ρ 7=I l.length∧ρ 8=I k∧(∀(j:Nat) (a:Int),j<k→l[j]? =some a→decide (x=a)=false)∧m=s.push ⟨[],[]⟩)→go AP ajp (.c (.loop Kx)::arT) ⟨ρ,m⟩=some (I (eY (fun a=>decide (x=a)) l),s):=by
  refine bA l.length _ _ ?_ ?_
  ·rintro k ρ m hk ⟨h0,h1,h7,h8,hp,rfl⟩ ih
   obtain⟨a,ha⟩:=get_some hk
   have he:e=1:=by rcases he with h|h;(rw[h]at ha;simp at ha);exact h
   subst he
   have hr:=cz (o:=o) (es:=1) (f:=fun a=>[I a]) ha
   simp only[go_sem,Kx,h0,h1,h7,h8,aL hk,hr,bh hk hl,simprocAttr]
   cases fD:decide (x=a)with
   |true=>
    simp only[fK]
    rw[xw (p:=fun a=>decide (x=a)) ha fD hp]
   |false=>
    simp only[ig]
    refine ih _ _ ?_
    refine⟨h0,h1,h7,rfl,fun j y hj hy=>?_,rfl⟩
    by_cases e:j=k
    ·subst e;rw[ha]at hy;injection hy with hy;rw[←hy];exact fD
    ·exact hp j y (by omega) hy
  ·rintro ρ m ⟨h0,h1,h7,h8,hp,rfl⟩
   simp only[go_sem,Kx,PU,h7,h8,bg,simprocAttr]
   rw[xy (p:=fun a=>decide (x=a)) hp]
 rw[aG (show AP 100=some Gu from rfl) rfl]
 simp only[go_sem,WO,simprocAttr]
 exact key 0 _ _ (aV _) ⟨rfl,rfl,rfl,rfl,fun j y hj=>absurd hj (dH _),rfl⟩
theorem Nz {l:List Int} {x:Int} {o:Own} {e:Nat} (he:l=[]∨e=1) (hl:(l.length:Int)<9223372036854775808):aw AP (.fn 65) [.slice o e (l.map fun a=>[I a]),I x] s=some (B (l.any fun a=>decide (x=a)),s):=by
 have h:=azo (s:=s.push ⟨[],[]⟩) (o:=o) (x:=x) he hl
 rw[aG (show AP 65=some Gp from rfl) rfl]
 simp only[go_sem,WI,h,vk,simprocAttr]
theorem azm {l:List Bool} {x:Bool} {o:Own} {e:Nat} (he:l=[]∨e=1) (hl:(l.length:Int)<9223372036854775808):aw AP (.fn 83) [.slice o e (l.map fun a=>[B a]),B x] s=some (I (eY (fun a=>(x==a)) l),s):=by
 have key:∀k ρ m,k≤l.length→(ρ 0=.slice o e (l.map fun a=>[B a])∧ρ 1=B x∧ρ 7=I l.length∧ρ 8=I k∧(∀(j:Nat) (a:Bool),j<k→l[j]? =some a→(x==a)=false)∧m=s.push ⟨[],[]⟩)→go AP Ye (.c (.loop xd)::aaP) ⟨ρ,m⟩=some (I (eY (fun a=>(x==a)) l),s):=by
  refine bA l.length _ _ ?_ ?_
  ·rintro k ρ m hk ⟨h0,h1,h7,h8,hp,rfl⟩ ih
   obtain⟨a,ha⟩:=get_some hk
   have he:e=1:=by rcases he with h|h;(rw[h]at ha;simp at ha);exact h
   subst he
   have hr:=cz (o:=o) (es:=1) (f:=fun a=>[B a]) ha
   simp only[go_sem,xd,h0,h1,h7,h8,aL hk,hr,ew,bh hk hl,simprocAttr]
   cases fD:(x==a)with
   |true=>
    simp only[fK]
    rw[xw (p:=fun a=>(x==a)) ha fD hp]
   |false=>
    simp only[ig]
    refine ih _ _ ?_
    refine⟨h0,h1,h7,rfl,fun j y hj hy=>?_,rfl⟩
    by_cases e:j=k
    ·subst e;rw[ha]at hy;injection hy with hy;rw[←hy];exact fD
    ·exact hp j y (by omega) hy
  ·rintro ρ m ⟨h0,h1,h7,h8,hp,rfl⟩
   simp only[go_sem,xd,Kw,h7,h8,bg,simprocAttr]
   rw[xy (p:=fun a=>(x==a)) hp]
 rw[aG (show AP 83=some By from rfl) rfl]
 simp only[go_sem,PT,simprocAttr]
 exact key 0 _ _ (aV _) ⟨rfl,rfl,rfl,rfl,fun j y hj=>absurd hj (dH _),rfl⟩
theorem azf {l:List Bool} {x:Bool} {o:Own} {e:Nat} (he:l=[]∨e=1) (hl:(l.length:Int)<9223372036854775808):aw AP (.fn 51) [.slice o e (l.map fun a=>[B a]),B x] s=some (B (l.any fun a=>(x==a)),s):=by
 have h:=azm (s:=s.push ⟨[],[]⟩) (o:=o) (x:=x) he hl
 rw[aG (show AP 51=some Bw from rfl) rfl]
 simp only[go_sem,PL,h,vk,simprocAttr]
end
section
variable{s:ae}
theorem s5 {a b c:Int}:aw AP (.fn 40) [I a,I b,I c] s=some (B (wi a b c),s):=by
 rw[aG (show AP 40=some FY from rfl) rfl]
 simp only[go_sem,Wh,simprocAttr]
 unfold wi
 cases decide (b≤a)<;>cases decide (a≤c)<;>rfl
theorem lk {c:Bool} {e:Int}:aw AP (.fn 61) [B c,I e] s=some (I (cond c 0 e),s):=by
 rw[aG (show AP 61=some FX from rfl) rfl]
 simp only[go_sem,Wg,simprocAttr]
 cases c<;>rfl
theorem TD {l:List Int} {o:Own} (hl:(l.length:Int)<9223372036854775808):aw AP (.fn 102) [.slice o 1 (ints l)] s=some (I (eB l),s):=by
 have key:∀k ρ m,k≤l.length→(ρ 5=.slice o 1 (ints l)∧ρ 6=I l.length∧ρ 7=I k∧m=s.push ⟨[],[]⟩)→go AP aje (.c (.loop Ke)::arq) ⟨ρ,m⟩=some (I (eB (l.drop k)),s):=by
  refine bA l.length _ _ ?_ ?_
  ·rintro k ρ m hk ⟨h5,h6,h7,rfl⟩ ih
   obtain⟨x,hx⟩:=get_some hk
   have hr:=H0 (o:=o) (es:=1) (aox hx)
   simp only[go_sem,Ke,h5,h6,h7,aL hk,hr,bh hk hl,simprocAttr]
   rw[gO hx]
   by_cases h0:x=0
   ·subst h0
    simp only[bV,gI,se,ig]
    refine(ih _ _ ?_).trans rfl
    exact⟨h5,h6,rfl,rfl⟩
   ·simp only[bV,h0,j3,tO,fK,eB,eu]
  ·rintro ρ m ⟨h5,h6,h7,rfl⟩
   simp only[go_sem,Ke,Ph,h6,h7,bg,simprocAttr]
   rw[fe];rfl
 rw[aG (show AP 102=some FJ from rfl) rfl]
 simp only[go_sem,V5,aoy,simprocAttr]
 exact key 0 _ _ (aV _) ⟨rfl,rfl,rfl,rfl⟩
theorem oh {a b:Int}:aw AP (.fn 102) [.slice .full 1 [[I a],[I b]]] s=some (I (eB [a,b]),s):=TD (l:=[a,b]) (show(2:Int)<_ by decide)
theorem axd {a b c:Int}:aw AP (.fn 102) [.slice .full 1 [[I a],[I b],[I c]]] s=some (I (eB [a,b,c]),s):=TD (l:=[a,b,c]) (show(3:Int)<_ by decide)
theorem axe {a b c d:Int}:aw AP (.fn 102) [.slice .full 1 [[I a],[I b],[I c],[I d]]] s=some (I (eB [a,b,c,d]),s):=TD (l:=[a,b,c,d]) (show(4:Int)<_ by decide)
theorem abp {k:Nat} {l:List UInt8} {c:UInt8} (h:l[k]? =some c):rK k (l.drop k)=(nameAt k c&&rK (k+1) (l.drop (k+1))):=by
 rw[gO h];rfl
theorem abo {k:Nat} {c:UInt8}:nameAt k c=((decide ((97:Int)≤(c.toNat:Int))&&decide ((c.toNat:Int)≤122))||(decide ((65:Int)≤(c.toNat:Int))&&decide ((c.toNat:Int)≤90))||(!decide ((k:Int)=0)&&(decide ((c.toNat:Int)=45)||(decide ((48:Int)≤(c.toNat:Int))&&decide ((c.toNat:Int)≤57))))):=by
 unfold nameAt letter
 have e1:decide (97≤c.toNat)=decide ((97:Int)≤(c.toNat:Int)):=by simp;omega
 have e2:decide (c.toNat≤122)=decide ((c.toNat:Int)≤122):=by simp;omega
 have e3:decide (65≤c.toNat)=decide ((65:Int)≤(c.toNat:Int)):=by simp;omega
 have e4:decide (c.toNat≤90)=decide ((c.toNat:Int)≤90):=by simp;omega
 have e5:decide (k=0)=decide ((k:Int)=0):=by simp
 have e6:decide (c.toNat=45)=decide ((c.toNat:Int)=45):=by simp;omega
 have e7:decide (48≤c.toNat)=decide ((48:Int)≤(c.toNat:Int)):=by simp;omega
 have e8:decide (c.toNat≤57)=decide ((c.toNat:Int)≤57):=by simp;omega
 rw[e1,e2,e3,e4,e5,e6,e7,e8]
theorem ac2 {x:ByteArray} (hx:(x.size:Int)<9223372036854775808):aw AP (.fn 146) [S x] s=some (B (isName x),s):=by
 have cj:x.data.size=x.size:=rfl
 have hl:x.data.toList.length=x.size:=by simp[cj]
 have key:∀k ρ m,k≤x.size→(ρ 0=S x∧ρ 7=.slice .any 1 (byteCells x)∧ρ 8=I x.size∧ρ 9=I k∧m=s.push ⟨[],[]⟩)→go AP X8 (.c (.loop Ey)::aaK) ⟨ρ,m⟩=some (B (rK k (x.data.toList.drop k)&&decide (1≤x.size)&&decide (x.size≤12)),s):=by
  refine bA x.size _ _ ?_ ?_
  ·rintro k ρ m hk ⟨h0,h7,h8,h9,rfl⟩ ih
   obtain⟨c,hc⟩:=get_some (l:=x.data.toList) (k:=k) (by omega)
   have hr:=H0 (o:=.any) (es:=1) (agS hc)
   rw[abp hc,abo]
   simp only[go_sem,Ey,h7,h8,h9,aL hk,hr,bh hk hx,simprocAttr]
   simp only[bV,Qn]
   have eQ:∀(ρ':Nat→AV),ρ' 0=S x→ρ' 7=AV.slice Own.any 1 (byteCells x)→ρ' 8=I ↑x.size→ρ' 9=I ↑(k+1)→go AP X8 (.c (.loop Ey)::aaK) ⟨ρ',s.push ⟨[],[]⟩⟩=some (B (rK (k+1) (List.drop (k+1) x.data.toList)&&decide (1≤x.size)&&decide (x.size≤12)),s):=fun ρ' a b c d=>ih ρ' _ ⟨a,b,c,d,rfl⟩
   generalize decide ((97:Int)≤(c.toNat:Int))=a1
   generalize decide ((c.toNat:Int)≤122)=a2
   generalize decide ((65:Int)≤(c.toNat:Int))=a3
   generalize decide ((c.toNat:Int)≤90)=a4
   generalize decide ((c.toNat:Int)=45)=a5
   have e8:decide ((c.toNat:Int)<48)=!decide ((48:Int)≤(c.toNat:Int)):=dec_lt _ _
   have e9:decide ((57:Int)<(c.toNat:Int))=!decide ((c.toNat:Int)≤57):=dec_lt _ _
   rw[e8,e9]
   generalize decide ((48:Int)≤(c.toNat:Int))=a6
   generalize decide ((c.toNat:Int)≤57)=a7
   generalize decide ((k:Int)=0)=a8
   generalize rK (k+1) (List.drop (k+1) x.data.toList)=nf at*
   cases a1<;>cases a2<;>cases a3<;>cases a4<;>cases a5<;>cases a6<;>cases a7<;>cases a8<;>first
    |rfl
    |exact eQ _ h0 h7 h8 rfl
  ·rintro ρ m ⟨h0,h7,h8,h9,rfl⟩
   simp only[go_sem,Ey,Pj,h0,h8,h9,bg,simprocAttr]
   have e1:List.drop x.size x.data.toList=[]:=by rw[←hl,fe]
   have e2 : decide (x ≠ ⟨#[]⟩) = decide (1 ≤ x.size) := by
    by_cases h : x = ⟨#[]⟩
    ·subst h;rfl
    ·have:x.size≠0:=fun e=>h (IQ (by have:x.data.size=0:=e;exact Array.eq_empty_of_size_eq_zero this))
     simp only[bV,h,j3,tO]
     exact(bS (by omega)).symm
   have e3:decide ((x.size:Int)≤12)=decide (x.size≤12):=by
    by_cases h:x.size≤12
    ·rw[bS h,bS (by omega)]
    ·rw[bX h,bX (by omega)]
   rw[e1,e2,e3];rfl
 rw[aG (show AP 146=some FM from rfl) rfl]
 simp only[go_sem,V8,cj,simprocAttr]
 refine(key 0 _ _ (aV _) ⟨rfl,rfl,rfl,rfl,rfl⟩).trans ?_
 rfl
theorem axn {n x:Int} {d b:Nat} {a r:AV} (hs:Ok s) (hn:1≤n) (dK:n≤200) (hb:s.box d b=some [I n,a,r]):aw AP (.fn 177) [I x,.ptr d b 0] s=some (B (wi x 0 (n-1)),s):=by
 rw[aG (show AP 177=some FW from rfl) rfl]
 simp only[go_sem,Wf,eA hb,s5,bq (x:=n-1) (by omega) (by omega),simprocAttr]
theorem axV {c a:Bool}:eB [cond c 0 2,cond a 0 9]=if c=true then(if a=true then 0 else 9)else 2:=by cases c<;>cases a<;>rfl
theorem ac4 {n x y:Int} {o1 o2:Own} {e1 e2:Nat} {r1 r2:List (List AV)} (hs:Ok s) (hn:1≤n) (dK:n≤200):aw AP (.fn 147) [.agg [I n,.slice o1 e1 r1,.slice o2 e2 r2],.agg [I x,I y]] s=some (I (j7 n x y),s):=by
 rw[aG (show AP 147=some FV from rfl) rfl]
 have e:∀x r,aw AP (.fn 177) [I x,.ptr s.ag.length 0 0] (dP (s.push ⟨[I n,.slice o1 e1 r1,.slice o2 e2 r2]::r,[]⟩))=some (B (wi x 0 (n-1)),dP (s.push ⟨[I n,.slice o1 e1 r1,.slice o2 e2 r2]::r,[]⟩)):=fun x r=>axn C4 hn dK (by rw[awK,EX])
 simp only[go_sem,Wd,lk,oh,e,axV,simprocAttr]
 unfold j7
 cases wi x 0 (n-1)<;>cases wi y 0 (n-1)<;>by_cases h:x≤y<;>simp[h]
theorem axb {a b:A} {d k:Nat} (hs:Ok s) (hb:s.box d k=some (bR b)):aw AP (.fn 145) [.agg (bR a),.ptr d k 0] s=some (B (decide (a.name=b.name)),s):=by
 rw[aG (show AP 145=some FH from rfl) rfl]
 simp only[go_sem,V3,eA hb,simprocAttr]
theorem Xi {n e:Int}:∀{l:List (Int×Int)},l.foldl (fun e p=>eB [e,j7 n p.1 p.2]) e=if e=0 then sb n l else e
 |[]=>by by_cases h:e=0<;>simp[sb,h]
 | p :: l => by
  rw[ma,Xi]
  by_cases h:e=0
  ·subst h
   by_cases h2:j7 n p.1 p.2=0<;>simp[eB,sb,h2]
  ·simp[eB,h]
theorem afn {a b c d:Bool}:eB [cond a 0 4,cond b 0 5,cond c 0 2,cond d 0 8]=if a=true then if b=true then if c=true then if d=true then 0 else 8 else 2 else 5 else 4:=by
 cases a<;>cases b<;>cases c<;>cases d<;>rfl
theorem ads {α:Type} {f:α→List AV} {o:Own} {es k:Nat} {l:List α} (hk:k≤l.length):∃o',fQ (.sl es) (.slice o es (l.map f)) none (some (.v (.int .i64 (k:Int)))) none=some (.slice o' es ((l.take k).map f)):=by
 refine⟨wq o false (0==0&&k==(l.map f).length) (k==(l.map f).length&&0<(l.map f).length),?_⟩
 have h1:iU (some (AV.v (.int .i64 (k:Int)))) false (l.map f).length (l.map f).length=some k:=by
  simp[iU,asNat,hk]
 simp only[cg]at h1
 simp[fQ,qD,h1,iq,I5]
theorem axa {n:Int} {as:List A} {o1 o2:Own} {e2:Nat} {rs:List (List AV)} {k:Nat} {a:A} (hs:Ok s) (Hh:a.cl.l=[]∨a.cl.e=2) (hn:1≤n) (dK:n≤200) (ha:as[k]? =some a) (cj:(a.name.size:Int)<9223372036854775808) (hl:as.length≤4) (aQ:(a.cl.l.length:Int)<9223372036854775808):
  aw AP (.fn 103) [.agg [I n,.slice o1 3 (as.map bR),.slice o2 e2 rs],I k] s=some (I (lC n as k a),s):=by
 have hk:k<as.length:=(bI.1 ha).1
 obtain⟨name,je,⟨oc,ec,cl⟩⟩:=a
 obtain⟨o',nN⟩:=ads (f:=bR) (o:=o1) (es:=3) (l:=as) (k:=k) (by omega)
 have bf:=cz (f:=bR) (o:=o1) (es:=3) ha
 have dw:∀r,aw AP (.fn 144) [.slice o' 3 ((as.take k).map bR),.fn 145 [] [.ptr s.ag.length 1 0]] (s.push ⟨[I n,.slice o1 3 (as.map bR),.slice o2 e2 rs]::bR ⟨name,je,⟨oc,ec,cl⟩⟩::r,[]⟩)=some (B ((as.take k).any fun b=>decide (b.name=name)),s.push ⟨[I n,.slice o1 3 (as.map bR),.slice o2 e2 rs]::bR ⟨name,je,⟨oc,ec,cl⟩⟩::r,[]⟩):=fun r=>by
  refine ay9 (.inr rfl) (by rw[ez];omega) fun b hb r1 r2=>?_
  refine axb (b:=⟨name,je,⟨oc,ec,cl⟩⟩) (((hs.push _).push _).push _) ?_
  exact eA (eA P6 _) _
 have qu:∀{m:ae},aw AP (.fn 146) [S name] m=some (B (isName name),m):=ac2 cj
 rw[aG (show AP 103=some FG from rfl) rfl]
 simp only[go_sem,V2,hs,nN,bf,dw,qu,lk,s5,axe,afn,simprocAttr]
 generalize Q0:(if isName name=true then if(!(as.take k).any fun b=>decide (b.name=name))=true then if wi je 0 50=true then if decide ((cl.length:Int)≤6)=true then(0:Int)else 8 else 2 else 5 else 4)=E0
 have nI:(if E0=0 then sb n cl else E0)=lC n as k ⟨name,je,⟨oc,ec,cl⟩⟩:=by
  have h6:decide ((cl.length:Int)≤6)=decide (cl.length≤6):=by
   by_cases h:cl.length≤6
   ·rw[bS h,bS (by omega)]
   ·rw[bX h,bX (by omega)]
  rw[←Q0,h6]
  unfold lC
  simp only
  cases isName name<;>cases((as.take k).any fun b=>decide (b.name=name))<;>cases wi je 0 50<;>by_cases h:cl.length≤6<;>simp[h]
 have key:∀j ρ m,j≤cl.length→(ρ 2=.ptr s.ag.length 0 0∧ρ 7=I ((cl.take j).foldl (fun e p=>eB [e,j7 n p.1 p.2]) E0)∧ρ 40=.slice oc ec (cl.map dM)∧ρ 41=I cl.length∧ρ 42=I j∧∃junk,m=s.push ⟨[I n,.slice o1 3 (as.map bR),.slice o2 e2 rs]::junk,[]⟩)→go AP ajd (.c (.loop Kd)::arp) ⟨ρ,m⟩=some (I (lC n as k ⟨name,je,⟨oc,ec,cl⟩⟩),s):=by
  refine bA cl.length _ _ ?_ ?_
  ·rintro j ρ m hj ⟨h2,h7,QY,Lz,kp,junk,rfl⟩ ih
   obtain⟨p,hp⟩:=get_some hj
   have cS:ec=2:=by rcases Hh with h|h;(simp only at h;rw[h]at hp;simp at hp);exact h
   subst cS
   have hr:=cz (f:=dM) (o:=oc) (es:=2) hp
   simp only[go_sem,Kd,h2,h7,QY,Lz,kp,hs,aL hj,hr,ac4 (hs.push _) hn dK,oh,bh hj aQ,simprocAttr]
   refine ih _ _ ?_
   refine⟨h2,?_,QY,Lz,rfl,_,rfl⟩
   rw[du hp,DD];rfl
  ·rintro ρ m ⟨h2,h7,QY,Lz,kp,junk,rfl⟩
   rw[er,Xi,nI]at h7
   simp only[go_sem,Kd,Pg,h7,Lz,kp,bg,simprocAttr]
 refine key 0 _ _ (aV _) ?_
 exact⟨rfl,rfl,rfl,rfl,rfl,_,rfl⟩
theorem Vf {n:Int}:∀{l:List Int} {e last:Int},(l.foldl (fun(q:Int×Int) a=>(eB [q.1,cond (wi a 0 (n-1)) 0 6,cond (decide (q.2<a)) 0 9],a)) (e,last)).1=if e=0 then kT n last l else e
 |[],e,last=>by by_cases h:e=0<;>simp[kT,h]
 | a :: l, e, last => by
  rw[ma,Vf]
  by_cases h:e=0
  ·subst h
   cases h1:wi a 0 (n-1)<;>by_cases h2:last<a<;>simp[eB,kT,h1,h2]
  ·simp[eB,h]
theorem axm {n:Int} {as:List (List AV)} {r:R} {o1 o2:Own} {e1 e2:Nat} {rs:List (List AV)} (hs:Ok s) (nb:r.an.l=[]∨r.an.e=1) (hn:1≤n) (dK:n≤200) (cj:(r.cr.size:Int)<9223372036854775808) (hl:as.length≤4) (aQ:(r.an.l.length:Int)<9223372036854775808):
  aw AP (.fn 104) [.agg [I n,.slice o1 e1 as,.slice o2 e2 rs],.agg (aS r)] s=some (I (l4 n as.length r),s):=by
 obtain⟨cr,lo,hi,len,val,⟨oa,ea,an⟩,need⟩:=r
 have qu:∀{m:ae},aw AP (.fn 146) [S cr] m=some (B (isName cr),m):=ac2 cj
 rw[aG (show AP 104=some FU from rfl) rfl]
 simp only[go_sem,Wc,qu,lk,s5,oh,ac4 (hs.push _) hn dK,simprocAttr]
 simp only at nb aQ
 by_cases he:eB [cond (isName cr) 0 4,j7 n lo hi]=0
 case neg=>
  simp only[bV,he,j3,tO,fK]
  congr 3
  unfold l4
  cases h1:isName cr
  ·simp[eB]
  ·rw[h1]at he
   simp only[eB,fK,cI]at he⊢
   by_cases h2:j7 n lo hi=0
   ·exact absurd (by rw[aj h2]) he
   ·simp[h2]
 simp only[bV,he,gI,se,ig]
 have h1:isName cr=true:=by
  cases h1:isName cr
  ·rw[h1]at he;simp[eB]at he
  ·rfl
 have h2:j7 n lo hi=0:=by
  rw[h1]at he
  by_cases h2:j7 n lo hi=0
  ·exact h2
  ·simp[eB,h2]at he
 have hb:(0≤lo∧lo≤n-1)∧(0≤hi∧hi≤n-1):=by
  unfold j7 at h2
  cases q1:wi lo 0 (n-1)<;>cases q2:wi hi 0 (n-1)<;>rw[q1,q2]at h2<;>simp at h2
  exact⟨gy.1 q1,gy.1 q2⟩
 rw[bq (x:=hi-lo) (by omega) (by omega),bq (x:=hi-lo+1) (by omega) (by omega)]
 generalize Q0:eB [cond (wi len 1 (hi-lo+1)&&wi val 0 100000) 0 2,cond (decide ((0:Int)<(an.length:Int))) 0 10]=E0
 have nI:∀e,(if E0=0 then kT (as.length:Nat) (-1) an else E0)=e→eB [e,cond (wi need 1 an.length) 0 2]=l4 n as.length ⟨cr,lo,hi,len,val,⟨oa,ea,an⟩,need⟩:=by
  intro e he
  subst he
  rw[←Q0]
  unfold l4
  simp only[h1,h2,cI]
  cases an with
  |nil=>cases(wi len 1 (hi-lo+1)&&wi val 0 100000)<;>simp[eB]
  | cons x l =>
   have:decide ((0:Int)<(((x::l).length:Nat):Int))=true:=bS (by rw[cH];omega)
   rw[this]
   cases(wi len 1 (hi-lo+1)&&wi val 0 100000)
   ·simp[eB]
   ·simp only[eB,fK,cI]
    by_cases h3:kT (as.length:Nat) (-1) (x::l)=0
    ·cases h4:wi need 1 ((x::l).length:Nat)<;>simp[h3,h4]
    ·simp[h3]
 have key:∀j ρ m,j≤an.length→(ρ 2=.ptr s.ag.length 0 0∧ρ 3=.ptr s.ag.length 1 0∧
   (∃q:Int×Int,(an.take j).foldl (fun(q:Int×Int) a=>(eB [q.1,cond (wi a 0 ((as.length:Nat)-1)) 0 6,cond (decide (q.2<a)) 0 9],a)) (E0,-1)=q∧ρ 5=I q.1∧ρ 7=I q.2)∧ρ 49=.slice oa ea (an.map aC)∧ρ 50=I an.length∧ρ 51=I j∧
   m=s.push ⟨[[I n,.slice o1 e1 as,.slice o2 e2 rs],[S cr,I lo,I hi,I len,I val,.slice oa ea (an.map aC),I need]],[]⟩)→go AP ajg (.c (.loop Ki)::ary) ⟨ρ,m⟩=some (I (l4 n as.length ⟨cr,lo,hi,len,val,⟨oa,ea,an⟩,need⟩),s):=by
  refine bA an.length _ _ ?_ ?_
  ·rintro j ρ m hj ⟨j0,zE,⟨q,hq,h5,h7⟩,ss,nG,qm,rfl⟩ ih
   obtain⟨x,hx⟩:=get_some hj
   have cS:ea=1:=by rcases nb with h|h;(rw[h]at hx;simp at hx);exact h
   subst cS
   have hr:=cz (f:=aC) (o:=oa) (es:=1) hx
   simp only[go_sem,Ki,j0,h5,h7,ss,nG,qm,aL hj,hr,s5,lk,axd,bh hj aQ,bq (x:=(as.length:Int)-1) (by omega) (by omega),simprocAttr]
   refine ih _ _ ?_
   refine⟨j0,zE,⟨(eB [q.1,cond (wi x 0 ((as.length:Nat)-1)) 0 6,cond (decide (q.2<x)) 0 9],x),?_,rfl,rfl⟩,ss,nG,rfl,rfl⟩
   rw[du hx,DD,hq];rfl
  ·rintro ρ m ⟨j0,zE,⟨q,hq,h5,h7⟩,ss,nG,qm,rfl⟩
   rw[er]at hq
   have uj:=Vf (n:=(as.length:Nat)) (l:=an) (e:=E0) (last:=-1)
   rw[hq]at uj
   simp only[go_sem,Ki,Ps,zE,h5,nG,qm,bg,s5,lk,oh,simprocAttr]
   rw[nI q.1 uj.symm]
 refine key 0 _ _ (aV _) ?_
 exact⟨rfl,rfl,⟨_,rfl,rfl,rfl⟩,rfl,rfl,rfl,rfl⟩
abbrev MK (p:Int×Int×Int):AV:=.tuple [.agg [I p.1,I p.2.1],I p.2.2]
theorem xA {α:Type} {f:Nat→α→Int} {l:List α} {k:Nat} {x:α} (h:l[k]? =some x):fT f k (l.drop k)=if f k x=0 then fT f (k+1) (l.drop (k+1))else some (k,f k x):=by
 rw[gO h];rfl
theorem acZ {w:W} (hs:Ok s) (hw:w.Ok) (hf:w.jT):aw AP (.fn 67) [w.v] s=some (MK (cM w),s):=by
 obtain⟨n,⟨o1,e1,as⟩,⟨o2,e2,rs⟩⟩:=w
 have h4:decide ((as.length:Int)≤4)=decide (as.length≤4):=by
  by_cases h:as.length≤4
  ·rw[bS h,bS (by omega)]
  ·rw[bX h,bX (by omega)]
 have dZ:decide ((rs.length:Int)≤12)=decide (rs.length≤12):=by
  by_cases h:rs.length≤12
  ·rw[bS h,bS (by omega)]
  ·rw[bX h,bX (by omega)]
 rw[aG (show AP 67=some FD from rfl) rfl]
 simp only[go_sem,VZ,hs,s5,lk,oh,h4,dZ,simprocAttr]
 unfold cM
 simp only
 cases hn:wi n 1 200
 ·simp[eB]
 rw[gy]at hn
 by_cases CL:as.length≤4∧rs.length≤12
 case neg=>
  have:(decide (as.length≤4)&&decide (rs.length≤12))=false:=by
   cases h:(decide (as.length≤4)&&decide (rs.length≤12))
   ·rfl
   ·exact absurd (by simpa using h) CL
  simp[eB,this,CL]
 have:(decide (as.length≤4)&&decide (rs.length≤12))=true:=by simpa using CL
 simp only[eB,fK,cI,bV,CL,wX]
 have k2:∀j ρ m,j≤rs.length→(ρ 1=.ptr s.ag.length 0 0∧ρ 2=.ptr s.ag.length 1 0∧ρ 49=.slice o2 e2 (rs.map aS)∧ρ 50=I rs.length∧ρ 51=I j∧
   ∃junk,m=s.push ⟨[I n,.slice o1 e1 (as.map bR),.slice o2 e2 (rs.map aS)]::[I 0,I 0]::junk,[]⟩)→go AP X7 (.c (.loop J0)::arc) ⟨ρ,m⟩=some (MK (match fT (fun _ r=>l4 n as.length r) j (rs.drop j)with|some (k,e)=>(2,k,e)|none=>(0,0,0)),s):=by
  refine bA rs.length _ _ ?_ ?_
  ·rintro j ρ m hj ⟨h1,h2,ss,nG,qm,junk,rfl⟩ ih
   obtain⟨x,hx⟩:=get_some hj
   have dk:=bE hx
   have cS:e2=7:=by rcases hw.rs.1 with h|h;(simp only at h;rw[h]at hx;simp at hx);exact h
   subst cS
   have hr:=cz (f:=aS) (o:=o2) (es:=7) hx
   have m1:=hf.cr x dk
   have m2:=hf.an x dk
   have hq:∀r,aw AP (.fn 104) [.agg [I n,.slice o1 e1 (as.map bR),.slice o2 7 (rs.map aS)],.agg [S x.cr,I x.lo,I x.hi,I x.len,I x.val,.slice x.an.o x.an.e (x.an.l.map aC),I x.need]] (s.push r)=some (I (l4 n as.length x),s.push r):=fun r=>by
    have:=axm (s:=s.push r) (n:=n) (as:=as.map bR) (r:=x) (o1:=o1) (e1:=e1) (o2:=o2) (e2:=7) (rs:=rs.map aS) (hs.push _) (hw.an x dk).1 hn.1 hn.2 (by omega) (by rw[cg];exact CL.1) (by omega)
    rw[cg]at this
    exact this
   simp only[go_sem,J0,h1,h2,ss,nG,qm,hs,aL hj,hr,hq,bh hj (show(rs.length:Int)<_ by omega),simprocAttr]
   rw[xA hx]
   by_cases h0:l4 n as.length x=0
   ·simp only[h0,bV,gI,se,ig,cI]
    refine ih _ _ ?_
    exact⟨h1,h2,ss,nG,rfl,_,rfl⟩
   ·simp only[h0,bV,j3,tO,fK,eu]
  ·rintro ρ m ⟨h1,h2,ss,nG,qm,junk,rfl⟩
   simp only[go_sem,J0,O6,h2,nG,qm,hs,bg,simprocAttr]
   rw[fe];rfl
 have k1:∀j ρ m,j≤as.length→(ρ 1=.ptr s.ag.length 0 0∧ρ 2=.ptr s.ag.length 1 0∧ρ 34=.slice o1 e1 (as.map bR)∧ρ 35=I as.length∧ρ 36=I j∧
   m=s.push ⟨[[I n,.slice o1 e1 (as.map bR),.slice o2 e2 (rs.map aS)],[I 0,I 0]],[]⟩)→go AP X7 (.c (.loop J1)::ard) ⟨ρ,m⟩=some (MK (match fT (lC n as) j (as.drop j)with|some (k,e)=>(1,k,e)|none=>match fT (fun _ r=>l4 n as.length r) 0 rs with|some (k,e)=>(2,k,e)|none=>(0,0,0)),s):=by
  refine bA as.length _ _ ?_ ?_
  ·rintro j ρ m hj ⟨h1,h2,mh,qk,mT,rfl⟩ ih
   obtain⟨x,hx⟩:=get_some hj
   have dk:=bE hx
   have cS:e1=3:=by rcases hw.as.1 with h|h;(simp only at h;rw[h]at hx;simp at hx);exact h
   subst cS
   have m1:=hf.name x dk
   have m2:=hf.cl x dk
   have hq:∀r,aw AP (.fn 103) [.agg [I n,.slice o1 3 (as.map bR),.slice o2 e2 (rs.map aS)],I j] (s.push r)=some (I (lC n as j x),s.push r):=fun r=>axa (hs.push _) (hw.cl x dk).1 hn.1 hn.2 hx (by omega) CL.1 (by omega)
   simp only[go_sem,J1,h1,h2,qk,mT,hs,aL hj,hq,bh hj (show(as.length:Int)<_ by omega),simprocAttr]
   rw[xA hx]
   by_cases h0:lC n as j x=0
   ·simp only[h0,bV,gI,se,ig,cI]
    refine ih _ _ ?_
    exact⟨h1,h2,mh,qk,rfl,rfl⟩
   ·simp only[h0,bV,j3,tO,fK,eu]
  ·rintro ρ m ⟨h1,h2,mh,qk,mT,rfl⟩
   simp only[go_sem,J1,O7,h1,qk,mT,bg,simprocAttr]
   rw[fe]
   refine(k2 0 _ _ (aV _) ?_).trans rfl
   exact⟨h1,h2,rfl,rfl,rfl,[],rfl⟩
 refine(k1 0 _ _ (aV _) ?_).trans rfl
 exact⟨rfl,rfl,rfl,rfl,rfl,rfl⟩
end
def gr (f:Nat→Bool):List AV:=(List.range 800).map fun j=>B (f j)
theorem tV {f:Nat→Bool}:(gr f).length=800:=by simp[gr]
theorem Lw {f:Nat→Bool} {j:Nat} (h:j<800):(gr f)[j]? =some (B (f j)):=by simp[gr,h]
theorem aey:td 800=gr fun _=>false:=by
 refine mM fun i=>?_
 unfold td
 by_cases h:i<800
 ·rw[Lw h,DE,aj h]
 ·rw[DE,ak h,lu (by rw[tV];omega)]
theorem akR {f:Nat→Bool} {j:Nat} {b:Bool} (h:j<800):(gr f).set j (B b)=gr fun i=>if i=j then b else f i:=by
 refine mM fun i=>?_
 by_cases hi:i<800
 ·rw[Lw hi,qP]
  by_cases e:j=i
  ·subst e;rw[aj rfl,aj (by rw[tV];exact h)];simp
  ·rw[ak e,Lw hi,ak (fun q=>e q.symm)]
 ·rw[lu (by rw[tt,tV];omega),lu (by rw[tV];omega)]
theorem YQ {f:Nat→Bool}:(gr f).all AV.bK=true:=by
 rw[jh]
 intro c hc
 obtain⟨j,_,rfl⟩:=cN.1 hc
 rfl
def wk (n:Int) (a r:AV) (f:Nat→Bool):List AV:=I n::a::r::gr f
theorem auO {n:Int} {a r:AV} {f:Nat→Bool} {j:Nat} {b:Bool} (h:j<800):j5 (wk n a r f) (3+j) [B b]=some (wk n a r fun i=>if i=j then b else f i):=by
 rw[pP,aj (by simp[wk,tV];omega)]
 have:3+j=j+1+1+1:=by omega
 rw[this]
 simp only[wk,setCells,NX,akR h]
theorem ay0 {n:Int} {a r:AV} {f:Nat→Bool}:(wk n a r f)[0]? =some (I n):=rfl
theorem aeq {n:Int} {a r:AV} {f:Nat→Bool}:(wk n a r f)[1]? =some a:=rfl
theorem yl {n:Int} {a r:AV} {f:Nat→Bool}:(wk n a r f)[2]? =some r:=rfl
theorem Nx {n:Int} {a r:AV} {f:Nat→Bool} {j:Nat} (h:j<800):(wk n a r f)[3+j]? =some (B (f j)):=by
 have:3+j=j+1+1+1:=by omega
 rw[this]
 simp only[wk,IY,Lw h]
theorem ahM {n:Int} {a r:AV} {f:Nat→Bool} (ha:a.close=some a) (hr:r.close=some r):closeAll (wk n a r f)=some (wk n a r f):=by
 have:closeAll (gr f)=some (gr f):=by
  unfold gr
  generalize List.range 800=l
  induction l with
  |nil=>rfl
  |cons x l ih=>simp only[fR,ie,ih];rfl
 simp only[wk,ie,this,ha,hr]
 rfl
theorem Qa:∀(m:Nat) (l:List AV),m≤l.length→chunks 1 m l=(l.take m).map fun c=>[c]
 |0,l,_=>by simp[chunks]
 |m+1,[],h=>by simp at h
 |m+1,x::l,h=>by
  simp only[chunks,Us,iK,UJ,DM,fR]
  rw[Qa m l (by simpa using h)]
def uC (f:Nat→Bool) (j m:Nat):List Bool:=(List.range m).map fun q=>f (j+q)
theorem axp {f:Nat→Bool} {j m:Nat}:((uC f j m).any fun a=>(true==a))=(List.range m).any fun q=>f (j+q):=by
 simp[uC,IV,Ug]
theorem ahC {n:Int} {a r:AV} {f:Nat→Bool} {j m:Nat} (h:j+m≤800):chunks 1 m ((wk n a r f).drop (3+j))=(uC f j m).map fun b=>[B b]:=by
 rw[Qa _ _ (by rw[pU];simp[wk,tV];omega)]
 refine mM fun i=>?_
 simp only[uC,iL,I4]
 by_cases hi:i<m
 ·have e:(wk n a r f)[3+j+i]? =some (B (f (j+i))):=by rw[wM];exact Nx (by omega)
  simp[wI,hi,Ux,e]
 ·simp[wI,hi]
def isClosed (a:A) (t:Int):Bool:=a.cl.l.any fun p=>wi t p.1 p.2
def sc (as:List A) (j:Nat):Bool:=match as[j/200]? with
 |some a=>isClosed a ((j%200:Nat):Int)
 |none=>false
structure N7 (n:Int) (m:Nat) (r:R):Prop where
 pK:0≤r.lo
 CX:r.lo≤r.hi
 bH:r.hi≤n-1
 kJ:1≤r.len
 pJ:r.len≤r.hi-r.lo+1
 uF:0≤r.val
 tc:r.val≤100000
 an:r.an.l≠[]
 tG:∀a∈r.an.l,0≤a∧a<m
 DX:r.an.l.Pairwise (· <·)
 Ia:1≤r.need
 Ib:r.need≤r.an.l.length
 name:isName r.cr=true
structure Ue (n:Int) (a:A):Prop where
 name:isName a.name=true
 axr:0≤a.je
 axs:a.je≤50
 Xf:a.cl.l.length≤6
 cl:∀p∈a.cl.l,0≤p.1∧p.1≤p.2∧p.2≤n-1
structure UY (w:W):Prop where
 n1:1≤w.bm
 n2:w.bm≤200
 al:w.as.l.length≤4
 rl:w.rs.l.length≤12
 a:∀a∈w.as.l,Ue w.bm a
 r:∀r∈w.rs.l,N7 w.bm w.as.l.length r
theorem TP {n lo hi:Int} (h:j7 n lo hi=0):0≤lo∧lo≤hi∧hi≤n-1:=by
 unfold j7 at h
 by_cases h1:(wi lo 0 (n-1)&&wi hi 0 (n-1))=true
 ·rw[aj h1]at h
  simp only[dE,gy]at h1
  by_cases h2:lo≤hi
  ·omega
  ·rw[ak h2]at h;omega
 ·rw[ak h1]at h;omega
theorem Xh {n:Int}:∀{l:List (Int×Int)},sb n l=0→∀p∈l,0≤p.1∧p.1≤p.2∧p.2≤n-1
 |[],_=>by simp
 | p :: r, h => by
  simp only[sb]at h
  by_cases h1:j7 n p.1 p.2=0
  ·rw[aj h1]at h
   intro q hq
   rcases dr.1 hq with rfl|hq
   ·exact TP h1
   ·exact Xh h q hq
  ·rw[ak h1]at h;exact absurd h h1
theorem Ve {n:Int}:∀{l:List Int} {last:Int},kT n last l=0→(∀a∈l,0≤a∧a<n)∧l.Pairwise (· <·)∧∀a∈l,last<a
 |[],_,_=>by simp
 | a :: r, last, h => by
  simp only[kT]at h
  by_cases h1:wi a 0 (n-1)=true
  ·rw[aj h1]at h
   by_cases h2:last<a
   ·rw[aj h2]at h
    obtain⟨i1,i2,i3⟩:=Ve h
    rw[gy]at h1
    refine⟨fun b hb=>?_,rX.2 ⟨i3,i2⟩,fun b hb=>?_⟩
    ·rcases dr.1 hb with rfl|hb
     ·omega
     ·exact i1 b hb
    ·rcases dr.1 hb with rfl|hb
     ·exact h2
     ·have:=i3 b hb;omega
   ·rw[ak h2]at h;omega
  ·rw[ak h1]at h;omega
theorem afl {n:Int} {as:List A} {k:Nat} {a:A} (h:lC n as k a=0):Ue n a:=by
 unfold lC at h
 by_cases h1:isName a.name=true
 ·rw [aj h1] at h
  by_cases h2:((as.take k).any fun b=>decide (b.name=a.name))=true
  ·rw[aj h2]at h;omega
  ·rw[ak h2]at h
   by_cases h3:wi a.je 0 50=true
   ·rw[aj h3]at h
    by_cases h4:a.cl.l.length≤6
    ·rw[aj h4]at h
     rw[gy]at h3
     exact⟨h1,h3.1,h3.2,h4,Xh h⟩
    ·rw[ak h4]at h;omega
   ·rw[ak h3]at h;omega
 ·rw[ak h1]at h;omega
theorem awB {n:Int} {m:Nat} {r:R} (h:l4 n m r=0):N7 n m r:=by
 unfold l4 at h
 by_cases h1:isName r.cr=true
 ·rw [aj h1] at h
  by_cases h2:j7 n r.lo r.hi=0
  ·rw [aj h2] at h
   by_cases h3:(wi r.len 1 (r.hi-r.lo+1)&&wi r.val 0 100000)=true
   ·rw [aj h3] at h
    by_cases h4:r.an.l=[]
    ·rw[aj h4]at h;omega
    ·rw[ak h4]at h
     by_cases h5:kT m (-1) r.an.l=0
     ·rw[aj h5]at h
      by_cases h6:wi r.need 1 r.an.l.length=true
      ·simp only[dE,gy]at h3
       rw[gy]at h6
       have e2:=TP h2
       have e5:=Ve h5
       exact⟨e2.1,e2.2.1,e2.2.2,h3.1.1,h3.1.2,h3.2.1,h3.2.2,h4,e5.1,e5.2.1,h6.1,h6.2,h1⟩
      ·rw[ak h6]at h;omega
     ·rw[ak h5]at h;exact absurd h h5
   ·rw[ak h3]at h;omega
  ·rw[ak h2]at h;exact absurd h h2
 ·rw[ak h1]at h;omega
theorem QC {α:Type} {f:Nat→α→Int}:∀{l:List α} {k:Nat},fT f k l=none→∀x∈l,∃j,f j x=0
 |[],_,_=>by simp
 | x :: r, k, h => by
  simp only[fT]at h
  by_cases h1:f k x=0
  ·rw[aj h1]at h
   intro y hy
   rcases dr.1 hy with rfl|hy
   ·exact⟨k,h1⟩
   ·exact QC h y hy
  ·rw[ak h1]at h;cases h
theorem Lg {α:Type} {f:Nat→α→Int}:∀{l:List α} {k j:Nat} {e:Int},fT f k l=some (j,e)→e≠0
 |[],_,_,_,h=>by cases h
 | x :: r, k, j, e, h => by
  simp only[fT]at h
  by_cases h1:f k x=0
  ·rw[aj h1]at h;exact Lg h
  ·rw[ak h1]at h
   injection h with h
   injection h with _ h
   rw[←h];exact h1
theorem pR {w:W} (h:(cM w).2.2=0):UY w:=by
 unfold cM at h
 by_cases h1:wi w.bm 1 200=true
 ·rw [aj h1] at h
  by_cases h2:w.as.l.length≤4∧w.rs.l.length≤12
  ·rw[aj h2]at h
   cases h3:fT (lC w.bm w.as.l) 0 w.as.l with
   |some q=>obtain⟨k,e⟩:=q;rw[h3]at h;exact absurd h (Lg h3)
   | none =>
    rw[h3]at h
    simp only at h
    cases h4:fT (fun _ r=>l4 w.bm w.as.l.length r) 0 w.rs.l with
    |some q=>obtain⟨k,e⟩:=q;rw[h4]at h;exact absurd h (Lg h4)
    |none=>
     rw[gy]at h1
     exact⟨h1.1,h1.2,h2.1,h2.2,fun a ha=>(QC h3 a ha).elim fun _ e=>afl e,fun r hr=>(QC h4 r hr).elim fun _ e=>awB e⟩
  ·rw[ak h2]at h;simp at h
 ·rw[ak h1]at h;simp at h
section
variable{s:ae}
abbrev NP:AV:=.v (.pointer none)
theorem aoj {k:IntKind} {n:Int} {len:Nat} (h1:0≤n) (h2:n<len):idx (.v (.int k n)) len=some n.toNat:=by
 rw[idx_eq,aj ⟨h1,h2⟩]
theorem sP {k:IntKind} {n len:Nat} (h2:n<len):idx (.v (.int k (n:Int))) len=some n:=by
 rw[aoj (by omega) (by omega)];rfl
theorem Ir {w:W} (hs:Ok s) (hw:w.Ok) (hf:w.jT) (he:(cM w).2.2≠0):aw AP (.fn 32) [w.v] s=some (.tuple [NP,I (cM w).2.2],s):=by
 have hc:∀r,aw AP (.fn 67) [w.v] (s.push r)=some (MK (cM w),s.push r):=fun r=>acZ (hs.push _) hw hf
 generalize cM w=q at*
 rw[aG (show AP 32=some Bo from rfl) rfl]
 simp only[go_sem,Pm,hs,hc,he,bV,j3,simprocAttr]
def bY (as:List A) (a t:Nat):Bool:=match as[a]? with
 |some x=>isClosed x (t:Int)
 |none=>false
theorem GA {as:List A} {j:Nat}:sc as j=bY as (j/200) (j%200):=rfl
def OW (w:W):AV:=.bd (wk w.bm (w.as.v bR) (w.rs.v aS) (sc w.as.l)) 0
theorem akQ {f g:Nat→Bool} (h:∀a t,t<200→f (200*a+t)=g (200*a+t)):f=g:=by
 funext j
 have:=h (j/200) (j%200) (uN _ (by decide))
 have e:200*(j/200)+j%200=j:=Nat.div_add_mod j 200
 rwa [e]at this
theorem Iq {w : W} (hs : Ok s) (hw : w.Ok) (hf : w.jT) (he : (cM w).2.2 = 0) : aw AP (.fn 32) [w.v] s = some (.tuple [OW w, I 0], s) := by
 have bz:=pR he
 have hc:∀r,aw AP (.fn 67) [w.v] (s.push r)=some (MK (cM w),s.push r):=fun r=>acZ (hs.push _) hw hf
 generalize cM w=q at*
 obtain⟨n,⟨o1,e1,as⟩,⟨o2,e2,rs⟩⟩:=w
 have cp:(AV.slice o1 e1 (as.map bR)).close=some (AV.slice o1 e1 (as.map bR)):=Sl.close (f:=bR) hw.as
 have im:(AV.slice o2 e2 (rs.map aS)).close=some (AV.slice o2 e2 (rs.map aS)):=Sl.close (f:=aS) hw.rs
 have fC:as.length≤4:=bz.al
 have oL:1≤n:=bz.n1
 have dK:n≤200:=bz.n2
 have sU : ∀ (i : Nat) ρ m, i ≤ as.length → (ρ 6 = .ptr s.ag.length 2 0 ∧ ρ 24 = .slice o1 e1 (as.map bR) ∧ ρ 25 = I as.length ∧ ρ 26 = I i ∧
   ∃f b0 b1 junk,m=s.push ⟨b0::b1::wk n (.slice o1 e1 (as.map bR)) (.slice o2 e2 (rs.map aS)) f::junk,[]⟩∧∀a t,t<200→f (200*a+t)=(decide (a<i)&&bY as a t))→
   go AP Qw (.c (.loop A5)::arv) ⟨ρ,m⟩=some (.tuple [OW ⟨n,⟨o1,e1,as⟩,⟨o2,e2,rs⟩⟩,I 0],s):=by
  refine bA as.length _ _ ?_ ?_
  ·rintro i ρ m hi ⟨h6, ko, jX, kW, f, b0, b1, junk, rfl, hF⟩ ih
   obtain⟨x,hx⟩:=get_some hi
   have dk:=bE hx
   have cS:e1=3:=by rcases hw.as.1 with h|h;(simp only at h;rw[h]at hx;simp at hx);exact h
   subst cS
   have hr:=cz (f:=bR) (o:=o1) (es:=3) hx
   have rB:=bz.a x dk
   have Cn:∀t,bY as i t=x.cl.l.any fun p=>wi t p.1 p.2:=fun t=>by simp only[bY,hx];rfl
   obtain⟨name,je,⟨oc,ec,cl⟩⟩:=x
   have mn:=(hw.cl _ dk).1
   simp only at mn Cn
   have aA0:cl.length≤6:=rB.Xf
   have SB : ∀ (j : Nat) ρ m, j ≤ cl.length → (ρ 6 = .ptr s.ag.length 2 0 ∧ ρ 7 = I i ∧ ρ 24 = .slice o1 3 (as.map bR) ∧ ρ 25 = I as.length ∧ ρ 26 = I i ∧ ρ 32 = .slice oc ec (cl.map dM) ∧ ρ 33 = I cl.length ∧ ρ 34 = I j ∧
     ∃f b0 b1 junk,m=s.push ⟨b0::b1::wk n (.slice o1 3 (as.map bR)) (.slice o2 e2 (rs.map aS)) f::junk,[]⟩∧∀a t,t<200→f (200*a+t)=if a=i then(cl.take j).any (fun p=>wi t p.1 p.2)else(decide (a<i)&&bY as a t))→
     go AP Qw (.c (.loop Ez)::arw) ⟨ρ,m⟩=some (.tuple [OW ⟨n,⟨o1,3,as⟩,⟨o2,e2,rs⟩⟩,I 0],s):=by
    refine bA cl.length _ _ ?_ ?_
    ·rintro j ρ m hj ⟨h6,h7,ko,jX,kW,ze,pk,mh,f,b0,b1,junk,rfl,hF⟩ eQ
     obtain⟨p,hp⟩:=get_some hj
     have pD:=bE hp
     have cS:ec=2:=by rcases mn with h|h;(rw[h]at hp;simp at hp);exact h
     subst cS
     have hr:=cz (f:=dM) (o:=oc) (es:=2) hp
     obtain⟨lo,br⟩:=p
     have iE:=rB.cl _ pD
     simp only at iE
     have my : ∀ (u : Int) ρ m, (ρ 6 = .ptr s.ag.length 2 0 ∧ ρ 7 = I i ∧ ρ 10 = .ptr s.ag.length (junk.length + 1 + 1 + 1) 0 ∧ ρ 11 = I u ∧ ρ 24 = .slice o1 3 (as.map bR) ∧ ρ 25 = I as.length ∧ ρ 26 = I i ∧ ρ 32 = .slice oc 2 (cl.map dM) ∧ ρ 33 = I cl.length ∧ ρ 34 = I j ∧ lo ≤ u ∧ u ≤ br + 1 ∧
       ∃f b0 b1,m=s.push ⟨b0::b1::wk n (.slice o1 3 (as.map bR)) (.slice o2 e2 (rs.map aS)) f::(junk++[[I lo,I br]]),[]⟩∧∀a t,t<200→f (200*a+t)=if a=i then((cl.take j).any (fun p=>wi t p.1 p.2)||(decide (lo≤(t:Int))&&decide ((t:Int)<u)))else(decide (a<i)&&bY as a t))→
       go AP Qw (.c (.loop Kg)::arx) ⟨ρ,m⟩=some (.tuple [OW ⟨n,⟨o1,3,as⟩,⟨o2,e2,rs⟩⟩,I 0],s):=by
      refine SK br _ _ ?_ ?_
      ·rintro u ρ m hu ⟨h6,h7,cJ,dh,ko,jX,kW,ze,pk,mh,eZ,hJ,f,b0,b1,rfl,hF⟩ MA
       obtain⟨v,rfl⟩:∃v:Nat,u=v:=⟨u.toNat,by omega⟩
       have hd:decide ((v:Int)≤br)=true:=bS hu
       have kA:idx (.v (.int .i64 (i:Int))) 4=some i:=sP (by omega)
       have jG:idx (.v (.int .i64 (v:Int))) 200=some v:=sP (by omega)
       have ho:j5 (wk n (.slice o1 3 (as.map bR)) (.slice o2 e2 (rs.map aS)) f) (0+3+i*200+v*1) [B true]=some (wk n (.slice o1 3 (as.map bR)) (.slice o2 e2 (rs.map aS)) fun q=>if q=i*200+v then true else f q):=by
        rw[show 0+3+i*200+v*1=3+(i*200+v)by omega];exact auO (by omega)
       simp only[go_sem,Kg,h6,h7,cJ,dh,hs,hd,kA,jG,ho,bq (x:=(v:Int)+1) (by omega) (by omega),simprocAttr]
       refine MA _ _ ?_
       refine⟨h6,h7,cJ,rfl,ko,jX,kW,ze,pk,mh,by omega,by omega,_,b0,b1,rfl,fun a t ht=>?_⟩
       show(if 200*a+t=i*200+v then true else f (200*a+t))=_
       rw[hF a t ht]
       by_cases ha:a=i
       ·subst ha
        rw[aj rfl,aj rfl]
        by_cases Ml:t=v
        ·subst Ml
         have e1:decide ((t:Int)<(t:Int)+1)=true:=bS (by omega)
         have e2:200*a+t=a*200+t:=by omega
         rw[aj e2,bS eZ,e1];simp
        ·have e2:¬200*a+t=a*200+v:=by omega
         have e3:decide ((t:Int)<(v:Int)+1)=decide ((t:Int)<v):=by
          by_cases h:(t:Int)<v
          ·rw[bS h,bS (by omega)]
          ·rw[bX h,bX (by omega)]
         rw[ak e2,e3]
       ·have e2:¬200*a+t=i*200+v:=by omega
        rw[ak ha,ak ha,ak e2]
      ·rintro u ρ m hu ⟨h6,h7,cJ,dh,ko,jX,kW,ze,pk,mh,eZ,hJ,f,b0,b1,rfl,hF⟩
       have hd:decide (u≤br)=false:=bX (by omega)
       simp only[go_sem,Kg,Pq,cJ,dh,mh,hd,bh hj (show(cl.length:Int)<_ by omega),simprocAttr]
       refine eQ _ _ ?_
       refine⟨h6,h7,ko,jX,kW,ze,pk,rfl,f,b0,b1,_,rfl,fun a t ht=>?_⟩
       rw[hF a t ht,du hp,tn]
       have:u=br+1:=by omega
       subst this
       have e:decide ((t:Int)<br+1)=decide ((t:Int)≤br):=by
        by_cases h:(t:Int)≤br
        ·rw[bS h,bS (by omega)]
        ·rw[bX h,bX (by omega)]
       simp[wi,e]
     simp only[go_sem,Ez,ze,pk,mh,hs,aL hj,hr,simprocAttr]
     refine my lo _ _ ?_
     refine⟨h6,h7,rfl,rfl,ko,jX,kW,ze,pk,mh,by omega,by omega,f,b0,b1,rfl,fun a t ht=>?_⟩
     rw[hF a t ht]
     have:(decide (lo≤(t:Int))&&decide ((t:Int)<lo))=false:=by
      by_cases h:lo≤(t:Int)
      ·rw[bX (show¬(t:Int)<lo by omega),l8]
      ·rw[bX h];rfl
     rw[this,uJ]
    ·rintro ρ m ⟨h6,h7,ko,jX,kW,ze,pk,mh,f,b0,b1,junk,rfl,hF⟩
     simp only[go_sem,Ez,Kh,kW,pk,mh,bg,bh hi (show(as.length:Int)<_ by omega),simprocAttr]
     refine ih _ _ ?_
     refine⟨h6,ko,jX,rfl,f,b0,b1,_,rfl,fun a t ht=>?_⟩
     rw[hF a t ht,er]
     by_cases ha:a=i
     ·subst ha;rw[aj rfl,bS (by omega),kQ,Cn]
     ·rw[ak ha]
      congr 1
      by_cases h:a<i
      ·rw[bS h,bS (by omega)]
      ·rw[bX h,bX (by omega)]
   simp only[go_sem,A5,ko,jX,kW,hs,aL hi,hr,simprocAttr]
   refine SB 0 _ _ (aV _) ?_
   refine⟨h6,rfl,ko,jX,kW,rfl,rfl,rfl,f,b0,b1,_,rfl,fun a t ht=>?_⟩
   rw[hF a t ht]
   by_cases ha:a=i
   ·subst ha;rw[aj rfl,bX (by omega)];simp
   ·rw[ak ha]
  ·rintro ρ m ⟨h6,ko,jX,kW,f,b0,b1,junk,rfl,hF⟩
   simp only[go_sem,A5,EA,h6,jX,kW,bg,ahM cp im,simprocAttr]
   have:f=sc as:=akQ fun a t ht=>by
    rw[hF a t ht,GA,show(200*a+t)/200=a by omega,show(200*a+t)%200=t by omega]
    by_cases h:a<as.length
    ·rw[bS h,kQ]
    ·rw[bX h,lr,bY,lu (by omega)]
   rw[this];rfl
 rw[aG (show AP 32=some Bo from rfl) rfl]
 have hz:j5 (I 0::.slice .aA 0 []::.slice .aA 0 []::td 800) 0 [I n,.slice o1 e1 (as.map bR),.slice o2 e2 (rs.map aS)]=some (wk n (.slice o1 e1 (as.map bR)) (.slice o2 e2 (rs.map aS)) fun _=>false):=by
  rw[aey,pP,aj (by simp[tV])];rfl
 have nJ:lH 803 (wk n (.slice o1 e1 (as.map bR)) (.slice o2 e2 (rs.map aS)) fun _=>false)=true:=by
  rw[qd];refine⟨by simp[wk,tV],?_⟩
  simp[wk,AV.bK,YQ]
 have aA7:lH 803 (I 0::.slice .aA 0 []::.slice .aA 0 []::td 800)=true:=by
  rw[qd,aey];refine⟨by simp[tV],?_⟩
  simp[AV.bK,YQ]
 simp only[go_sem,Pm,hs,hc,he,bV,gI,hz,nJ,simprocAttr]
 refine sU 0 _ _ (aV _) ?_
 exact⟨rfl,rfl,rfl,rfl,_,_,_,[],rfl,fun a t _=>by simp⟩
end
instance : Inhabited R:=⟨⟨ByteArray.empty,0,0,0,0,⟨.aA,0,[]⟩,0⟩⟩
def W.rq (w:W) (i:Int):R:=(w.rs.l[i.toNat]?).getD default
def W.om (w:W) (a:Int):Int:=((w.as.l[a.toNat]?).map (·.je)).getD 0
theorem W.Ip {w:W} {i:Int} (h0:0≤i) (h:i<w.rs.l.length):w.rs.l[i.toNat]? =some (w.rq i):=by
 obtain⟨x,hx⟩:=get_some (l:=w.rs.l) (k:=i.toNat) (by omega)
 rw[W.rq,hx];rfl
theorem W.oe {w:W} {i:Int} (h0:0≤i) (h:i<w.rs.l.length):w.rq i∈w.rs.l:=bE (W.Ip h0 h)
structure bJ (w:W) (p:P):Prop where
 r0:0≤p.req
 r1:p.req<w.rs.l.length
 s0:0≤p.start
 s1:p.start≤200
 an:∀a∈p.an.l,0≤a∧a<w.as.l.length
 ok:p.an.ok 1
 len:(p.an.l.length:Int)<9223372036854775808
structure Wk (w:W):Prop where
 ok:w.Ok
 si:w.jT
 v:UY w
def dU (w:W) (p:P):Int:=p.start+(w.rq p.req).len
def r9 (w:W) (a b:P):Bool:=a.an.l.any fun n=>(b.an.l.any fun m=>decide (n=m))&&decide (b.start-dU w a<(if(w.rq a.req).cr=(w.rq b.req).cr then 0 else w.om n))
def dA (w:W) (a b:P):Bool:=if a.req=b.req then true else if b.start<a.start then r9 w b a else r9 w a b
def cU (w:W) (a st len:Int):Bool:=match w.as.l[a.toNat]? with
 |some x=>!(List.range len.toNat).any fun q=>isClosed x (st+q)
 |none=>true
section
variable{s:ae} {w:W}
theorem axR {n:Int} {a r:AV} {f:Nat→Bool} {i st len:Nat} (hi:i<4) (h:st+len≤200):fQ (.arr 200 1) (.bd (wk n a r f) (3+i*200)) (some (I (st:Int))) (some (I ((st+len:Nat):Int))) none=some (.slice .any 1 ((uC f (i*200+st) len).map fun b=>[B b])):=by
 have h1:iU (some (I ((st+len:Nat):Int))) false 200 200=some (st+len):=by simp[iU,asNat];omega
 have h2:iq (some (I (st:Int))) (st+len)=some st:=by simp[iq,asNat];omega
 have h3:3+i*200+200*1≤(wk n a r f).length:=by simp[wk,tV];omega
 have h4:chunks 1 (st+len-st) ((wk n a r f).drop (3+i*200+st*1))=(uC f (i*200+st) len).map fun b=>[B b]:=by
  rw[show st+len-st=len by omega,show 3+i*200+st*1=3+(i*200+st)by omega]
  exact ahC (by omega)
 simp only[fQ,h1,h2,tC,ew,eu,dI,h3,cI,h4]
theorem axq {f:Nat→Bool} {j m:Nat}:(uC f j m).length=m:=by simp[uC]
theorem afu {m:Nat} {f g:Nat→Bool} (h:∀q,q<m→f q=g q):(List.range m).any f=(List.range m).any g:=by
 rw[IP]
 simp only[fc,pW]
 constructor<;>rintro⟨q,h1,h2⟩<;>exact⟨q,h1,by simpa[h q h1]using h2⟩
theorem ael {a st len:Int} (hw:Wk w) (h0:0≤a) (h1:a<w.as.l.length) (h2:0≤st) (h3:0≤len) (h4:st+len≤200):
  aw AP (.fn 75) [OW w,I a,I st,I len] s=some (B (cU w a st len),s):=by
 have fC:=hw.v.al
 obtain⟨i,rfl⟩:∃i:Nat,a=i:=⟨a.toNat,by omega⟩
 obtain⟨t,rfl⟩:∃i:Nat,st=i:=⟨st.toNat,by omega⟩
 obtain⟨m,rfl⟩:∃i:Nat,len=i:=⟨len.toNat,by omega⟩
 have kA:idx (.v (.int .i64 (i:Int))) 4=some i:=sP (by omega)
 have oP:=axR (n:=w.bm) (a:=w.as.v bR) (r:=w.rs.v aS) (f:=sc w.as.l) (i:=i) (st:=t) (len:=m) (by omega) (by omega)
 have xZ:IntKind.i64.wrap ((t:Int)+(m:Int))=((t+m:Nat):Int):=by rw[bq]<;>omega
 have Cl:∀r,aw AP (.fn 51) [.slice .any 1 ((uC (sc w.as.l) (i*200+t) m).map fun b=>[B b]),B true] (s.push r)=some (B ((uC (sc w.as.l) (i*200+t) m).any fun a=>(true==a)),s.push r):=fun r=>azf (.inr rfl) (by rw[axq];omega)
 rw[aG (show AP 75=some Ga from rfl) rfl]
 simp only[OW]
 simp only[Sl.v]at oP Cl
 simp only[go_sem,Wv,kA,oP,xZ,Cl,simprocAttr]
 rw[axp]
 congr 4
 unfold cU
 obtain⟨x,hx⟩:=get_some (l:=w.as.l) (k:=i) (by omega)
 simp only[pT,hx]
 congr 1
 refine afu fun q hq=>?_
 rw[GA,show(i*200+t+q)/200=i by omega,show(i*200+t+q)%200=t+q by omega]
 simp only[bY,hx]
 rfl
theorem oQ (hw:Wk w) {i:Int} (h0:0≤i) (h1:i<w.rs.l.length):gR none 7 (.slice w.rs.o w.rs.e (w.rs.l.map aS)) (I i)=some (.bd (aS (w.rq i)) 0):=by
 have:=Sl.ix (f:=aS) hw.ok.rs (W.Ip h0 h1)
 rwa [show((i.toNat:Nat):Int)=i by omega]at this
theorem MG (hw:Wk w) {i:Int} (h0:0≤i) (h1:i<w.as.l.length):∃a,w.as.l[i.toNat]? =some a∧w.om i=a.je∧gR none 3 (.slice w.as.o w.as.e (w.as.l.map bR)) (I i)=some (.bd (bR a) 0):=by
 obtain⟨x,hx⟩:=get_some (l:=w.as.l) (k:=i.toNat) (by omega)
 have:=Sl.ix (f:=bR) hw.ok.as hx
 refine⟨x,hx,by rw[W.om,hx];rfl,?_⟩
 rwa [show((i.toNat:Nat):Int)=i by omega]at this
theorem Wk.rq (hw:Wk w) {i:Int} (h0:0≤i) (h1:i<w.rs.l.length):N7 w.bm w.as.l.length (w.rq i):=hw.v.r _ (W.oe h0 h1)
theorem Wk.om (hw:Wk w) {i:Int} (h0:0≤i) (h1:i<w.as.l.length):0≤w.om i∧w.om i≤50:=by
 obtain⟨x,hx,he,_⟩:=MG hw h0 h1
 have:=hw.v.a x (bE hx)
 rw[he];exact⟨this.axr,this.axs⟩
theorem Wk.len (hw:Wk w) {i:Int} (h0:0≤i) (h1:i<w.rs.l.length):1≤(w.rq i).len∧(w.rq i).len≤200:=by
 have h:=hw.rq h0 h1
 have:=hw.v.n2
 exact⟨h.kJ,by have:=h.pJ;have:=h.pK;have:=h.bH;omega⟩
theorem Nv {p:P} (hs:Ok s) (hw:Wk w) (h0:0≤p.req) (h1:p.req<w.rs.l.length) (h2:0≤p.start) (h3:p.start≤200):aw AP (.fn 42) [OW w,.agg (aq p)] s=some (I (dU w p),s):=by
 have hl:=hw.len h0 h1
 rw[aG (show AP 42=some F8 from rfl) rfl]
 simp only[OW]
 simp only[go_sem,Wt,yl,oQ hw h0 h1,bq (x:=p.start+(w.rq p.req).len) (by omega) (by omega),simprocAttr]
 rfl
theorem ayQ {a b:P} {n:Int} {d1 d2 d3 d4 b1 b2 b3 b4:Nat} {c:Bool} (hs:Ok s) (hw:Wk w) (ha:bJ w a) (hb:bJ w b) (iC:0≤n) (oL:n<w.as.l.length)
  (e1:s.box d1 b1=some [OW w]) (e2:s.box d2 b2=some [B c]) (e3:s.box d3 b3=some (aq b)) (e4:s.box d4 b4=some (aq a)):
  aw AP (.fn 150) [I n,.ptr d1 b1 0,.ptr d2 b2 0,.ptr d3 b3 0,.ptr d4 b4 0] s=some (B ((b.an.l.any fun m=>decide (n=m))&&decide (b.start-dU w a<(if c=true then 0 else w.om n))),s):=by
 obtain⟨x,hx,bu,bf⟩:=MG hw iC oL
 have hl:=hw.len ha.r0 ha.r1
 have h3:=hb.s0
 have h4:=hb.s1
 have h5:=ha.s0
 have h6:=ha.s1
 have hc:∀r,aw AP (.fn 65) [.slice b.an.o b.an.e (b.an.l.map fun a=>[I a]),I n] (s.push r)=some (B (b.an.l.any fun m=>decide (n=m)),s.push r):=fun r=>Nz hb.ok.1 hb.len
 have he:∀r,aw AP (.fn 42) [OW w,.agg (aq a)] (dP (s.push r))=some (I (dU w a),dP (s.push r)):=fun r=>Nv C4 hw ha.r0 ha.r1 ha.s0 ha.s1
 have sF:0≤dU w a∧dU w a≤400:=by unfold dU;omega
 rw[aG (show AP 150=some F6 from rfl) rfl]
 simp only[OW]at e1 he⊢
 simp only[go_sem,Wr,eA e1,eA e2,eA e3,eA e4,aeq,bf,hc,simprocAttr]
 simp only[aq,Sl.v]at he
 cases c<;>simp only[go_sem,he,bq (x:=b.start-dU w a) (by omega) (by omega),bu,ew,simprocAttr]
theorem aej {a b:P} (hs:Ok s) (hw:Wk w) (ha:bJ w a) (hb:bJ w b):aw AP (.fn 109) [OW w,.agg (aq a),.agg (aq b)] s=some (B (dA w a b),s):=by
 have key:∀(a b:P) (junk:List (List AV)),bJ w a→bJ w b→aw AP (.fn 149) [.slice a.an.o a.an.e (a.an.l.map aC),.fn 150 [] [.ptr s.ag.length 0 0,.ptr s.ag.length 3 0,.ptr s.ag.length 2 0,.ptr s.ag.length 1 0]] (s.push ⟨[OW w]::aq a::aq b::[B (decide ((w.rq a.req).cr=(w.rq b.req).cr))]::junk,[]⟩)=some (B (r9 w a b),s.push ⟨[OW w]::aq a::aq b::[B (decide ((w.rq a.req).cr=(w.rq b.req).cr))]::junk,[]⟩):=by
  intro a b junk ha hb
  refine azd ha.ok.1 ha.len fun n hn r q=>?_
  have iV:=ha.an n hn
  have bx:∀{k:Nat} {cs:List AV},([OW w]::aq a::aq b::[B (decide ((w.rq a.req).cr=(w.rq b.req).cr))]::junk)[k]? =some cs→(((s.push ⟨[OW w]::aq a::aq b::[B (decide ((w.rq a.req).cr=(w.rq b.req).cr))]::junk,[]⟩).push r).push q).box s.ag.length k=some cs:=fun h=>eA (eA (by rw[ib];exact h) _) _
  rw[ayQ (((hs.push _).push _).push _) hw ha hb iV.1 iV.2 (bx rfl) (bx rfl) (bx rfl) (bx rfl)]
  simp only[fB]
 rw[aG (show AP 109=some F5 from rfl) rfl]
 simp only[OW]at key⊢
 have ra:=oQ hw ha.r0 ha.r1
 have rb:=oQ hw hb.r0 hb.r1
 simp only[go_sem,Wq,hs,yl,ra,rb,simprocAttr]
 unfold dA
 by_cases h1:a.req=b.req
 ·simp only[h1,tO,fK,cI]
 ·simp only[h1,se,ig,eu]
  by_cases h2:b.start<a.start
  ·have k:=key b a [] hb ha
   simp only[aq,Sl.v]at k
   simp only[h2,tO,fK,cI]
   simp only[go_sem,k,simprocAttr]
  ·have k:=key a b [] ha hb
   simp only[aq,Sl.v]at k
   simp only[h2,se,ig,eu]
   simp only[go_sem,k,simprocAttr]
theorem aek {a b:P} {d1 d2 b1 b2:Nat} (hs:Ok s) (hw:Wk w) (ha:bJ w a) (hb:bJ w b) (e1:s.box d1 b1=some [OW w]) (e2:s.box d2 b2=some (aq b)):
  aw AP (.fn 108) [.agg (aq a),.ptr d1 b1 0,.ptr d2 b2 0] s=some (B (dA w a b),s):=by
 have h:=fun r=>aej (hs.push r) hw ha hb
 rw[aG (show AP 108=some F7 from rfl) rfl]
 simp only[aq,Sl.v]at e2 h⊢
 simp only[go_sem,Ws,eA e1,eA e2,h,simprocAttr]
def cY (w:W) (p:P) (l:List P):Bool:=l.any fun o=>dA w o p
theorem T5 {p:P} {l:List P} {o:Own} {e:Nat} (hs:Ok s) (hw:Wk w) (hp:bJ w p) (hl:∀x∈l,bJ w x) (he:l=[]∨e=3) (hn:(l.length:Int)<9223372036854775808):
  aw AP (.fn 69) [OW w,.agg (aq p),.slice o e (l.map aq)] s=some (B (cY w p l),s):=by
 have h:∀r,aw AP (.fn 107) [.slice o e (l.map aq),.fn 108 [] [.ptr s.ag.length 0 0,.ptr s.ag.length 1 0]] (s.push ⟨[OW w]::aq p::r,[]⟩)=some (B (cY w p l),s.push ⟨[OW w]::aq p::r,[]⟩):=fun r=>
  aza he hn fun a ha r q=>aek (((hs.push _).push _).push _) hw (hl a ha) hp (eA (eA EX _) _) (eA (eA P6 _) _)
 rw[aG (show AP 69=some Br from rfl) rfl]
 simp only[OW,aq,Sl.v]at h⊢
 simp only[go_sem,Pw,h,simprocAttr]
theorem ayY {n:Int} (hw:Wk w):aw AP (.fn 190) [OW w,I n] s=some (I (cond (wi n 0 (w.rs.l.length-1)) 0 6),s):=by
 have:=hw.v.rl
 rw[aG (show AP 190=some Gg from rfl) rfl]
 simp only[OW]
 simp only[go_sem,WA,yl,bq (x:=(w.rs.l.length:Int)-1) (by omega) (by omega),s5,lk,simprocAttr]
theorem ayO {n:Int} (hw:Wk w):aw AP (.fn 90) [OW w,I n] s=some (I (cond (wi n 0 (w.as.l.length-1)) 0 6),s):=by
 have:=hw.v.al
 rw[aG (show AP 90=some F3 from rfl) rfl]
 simp only[OW]
 simp only[go_sem,Wo,aeq,bq (x:=(w.as.l.length:Int)-1) (by omega) (by omega),s5,lk,simprocAttr]
end
theorem aiH {o:Own} {e e2:Nat} {xs ys:List (List AV)}:pg .slice (.slice o e xs) (.slice .aA e2 ys)=some o.isNil:=by
 cases o<;>rfl
theorem atC:Own.aA.isNil=true:=rfl
attribute [go_sem] aiH atC
def bn:Nat→List Int→List (List Int)
 |0,_=>[[]]
 |_+1,[]=>[]
 |k+1,x::r=>(bn k r).map (x::·)++bn (k+1) r
theorem xJ:∀{k:Nat} {l g:List Int},g∈bn k l→g.length=k
 |0,_,g,h=>by simp[bn]at h;simp[h]
 |k+1,[],g,h=>by simp[bn]at h
 |k+1,x::r,g,h=>by
  simp only[bn,dR,cN]at h
  rcases h with⟨q,hq,rfl⟩|h
  ·simp[xJ hq]
  ·exact xJ h
theorem G8:∀{k:Nat} {l g:List Int},g∈bn k l→g.Sublist l
 |0,_,g,h=>by simp[bn]at h;simp[h]
 |k+1,[],g,h=>by simp[bn]at h
 |k+1,x::r,g,h=>by
  simp only[bn,dR,cN]at h
  rcases h with⟨q,hq,rfl⟩|h
  ·exact(G8 hq).cons_cons x
  ·exact(G8 h).cons x
section
variable{s:ae} {w:W}
def CU (l:List Int) (x:AV):Prop:=(l=[]∧x=.slice .aA 0 [])∨(l≠[]∧∃o,o.isNil=false∧x=.slice o 1 (l.map aC))
theorem CU.len {l:List Int} {x:AV} (h:CU l x):oR false x=some (I l.length):=by
 rcases h with⟨rfl,rfl⟩|⟨_,o,_,rfl⟩
 ·rfl
 ·simp[oR,AV.int]
theorem CU.cut {l:List Int} {x:AV} (h:CU l x):∃x',fQ (.sl 1) x none (some (I l.length)) (some (I l.length))=some x'∧
  ∀(q:ae) (b:List (List AV)) (tk:List (Option Nat)) (n:Int),l.length+1≤4294967296→∃tk',et (q.push ⟨b,tk⟩) 1 x' (.slice .full 1 [[I n]])=some (.slice (.tok q.ag.length tk.length) 1 ((l++[n]).map aC),q.push ⟨b,tk'⟩):=by
 rcases h with⟨rfl,rfl⟩|⟨hn,o,ho,rfl⟩
 ·refine⟨.slice .aA 0 [],rfl,fun q b tk n _=>⟨tk++[some 1],?_⟩⟩
  simp[et,Own.isNil,dD,pO,oC]
 ·have h1:asNat (I (l.length:Int)) l.length=some l.length:=by simp[asNat]
  refine⟨.slice .full 1 (l.map aC),?_,fun q b tk n hl=>⟨tk++[some (l.length+1)],?_⟩⟩
  ·have hp:0<l.length:=NO.2 hn
   have ht:List.take l.length (List.map aC l)=List.map aC l:=by rw[←cg (f:=aC),er]
   simp[fQ,qD,iU,iq,h1,wq,ho,hn,hp,ht]
  ·simp[et,Own.isNil,dD,pO,oC,hl]
theorem TN {α:Type} {f:α→List AV} {o:Own} {es k:Nat} {l:List α} (hk:k≤l.length):∃o',fQ (.sl es) (.slice o es (l.map f)) (some (.v (.int .i64 (k:Int)))) none none=some (.slice o' es ((l.drop k).map f)):=by
 have h1:iq (some (AV.v (.int .i64 (k:Int)))) l.length=some k:=by simp[iq,asNat];omega
 refine⟨wq o false (k==0&&(l.map f).length==(l.map f).length) ((l.map f).length==(l.map f).length&&0<(l.map f).length),?_⟩
 have ht:List.take l.length (List.map f l)=List.map f l:=by rw[←cg (f:=f),er]
 simp[fQ,qD,iU,h1,ht,List.map_drop]
theorem ajG {rs:Nat} {ρ:Nat→AV} {m:ae}:finish [.tmp rs] true ⟨ρ,m⟩=nZ m (ρ rs):=rfl
theorem auS {m:ae} {e:Nat} {xs:List (List AV)}:nZ m (.slice .aA e xs)=some (.slice .aA e xs,m.pop):=rfl
theorem auT {r:Rec} {g e:Nat} {xs:List (List AV)} {m:ae}:nZ ((dP m).push r) (.slice (.tok m.ag.length g) e xs)=some (.slice .any e xs,dP m):=by
 have:¬(((dP m).push r).ro<m.ag.length):=wN _
 simp[nZ,this,pop_push]
attribute [go_sem] ajG auS auT
theorem aew {l:List Int} {x:AV} (hx:CU l x) (hl:l.length≤4294967296):aw AP (.fn 123) [x] (dP s)=some (bB 1 (l.map aC),dP s):=by
 rw[aG (show AP 123=some Gi from rfl) rfl]
 rcases hx with⟨rfl,rfl⟩|⟨hn,o,ho,rfl⟩
 ·simp only[go_sem,PI,simprocAttr];rfl
 ·have he:(l.map aC).isEmpty=false:=by cases l<;>simp_all
  have ha:et ((dP s).push ⟨[],[]⟩) 1 (.slice .full 1 []) (.slice o 1 (l.map aC))=some (.slice (.tok s.ag.length 0) 1 (l.map aC),(dP s).push ⟨[],[some l.length]⟩):=by
   have h2:(dP s).ag.length=s.ag.length:=rfl
   have h3:=pO (dP s) ⟨[],[]⟩
   have h4:=oC (dP s) ⟨[],[]⟩ l.length
   rw[h2]at h3 h4
   simp[et,Own.isNil,dD,hl,hn,h2,h3,h4]
  have hv:bB 1 (l.map aC)=.slice .any 1 (l.map aC):=by cases l<;>simp_all [bB]
  rw[hv]
  simp only[go_sem,PI,ho,ha,simprocAttr]
theorem akW {ι : Type} {L N NL M : Nat} {base : ι → ae} {Iv : List (List Int) → ι → Prop} {stop : List (List Int) → List Int → Bool} {O : List (List Int) → List Int → ι → Prop} {X : List Int → Prop} (h : Hand AP L (fun l => bB 1 (l.map aC)) base Iv stop O X N NL M) {cnt : Nat} (vx : (cnt : Int) < 1000000)
    {rg:Rec} (hy:rg.boxes[0]? =some [.yield L]) (hg:rg.boxes[1]? =some [.fn 122 [] [.bd [I cnt] 0,.ptr N 0 0,.ptr N 1 0]]):
    ∀ (n : Nat) (pre rest : List Int) (x : AV) (o : Own) (e : Nat) (i : ι) (done : List (List Int)) (B : List Rec) (ls : List da), rest.length ≤ n → pre.length ≤ cnt → CU pre x → (rest = [] ∨ e = 1) → (rest.length : Int) < 1000000 →
      done.length+(bn (cnt-pre.length) rest).length≤M→Iv done i→(∀g∈bn (cnt-pre.length) rest,X (pre++g))→
      ∃b i',aw AP (.fn 122) [x,.slice o e (rest.map aC),.bd [I cnt] 0,.ptr N 0 0,.ptr N 1 0] (up (base i) (rg::B) ls)=some (AV.v (.bool b),up (base i') (rg::B) ls)∧Ends Iv stop O done ((bn (cnt-pre.length) rest).map (pre++·)) b i':=by
  intro n
  induction n with
  | zero =>
    intro pre rest x o e i done B ls hr hp hx he hl hM hI hX
    have iF:rest=[]:=rV (by omega)
    subst iF
    have b0:(up (base i) (rg::B) ls).box N 0=some [.yield L]:=by rw[←h.len i,Nr,hy]
    have bz:=(h.ok i).up (B:=rg::B) (ls:=ls)
    by_cases hc:pre.length=cnt
    · obtain ⟨b, i', h1, h2⟩ := h.one (B := rg :: B) (ls := ls) (by rw [show cnt - pre.length = 0 by omega] at hM; simp [bn] at hM; omega) hI (by have := hX [] (by rw [show cnt - pre.length = 0 by omega]; simp [bn]); simpa using this) ⟨[], []⟩
      refine⟨b,i',?_,by rw[show cnt-pre.length=0 by omega];simpa[bn]using h2⟩
      rw[aG (show AP 122=some xh from rfl) rfl]
      have aQ:∀q:ae,aw AP (.fn 123) [x] (dP q)=some (bB 1 (pre.map aC),dP q):=fun q=>aew hx (by omega)
      simp only[go_sem,Ew,hx.len,hc,eA b0,aQ,h1,simprocAttr]
    · have hk : cnt - pre.length = (cnt - pre.length - 1) + 1 := by omega
      refine⟨true,i,?_,by rw[hk];simp[bn,Ends,hI]⟩
      rw[aG (show AP 122=some xh from rfl) rfl]
      have hd:decide ((pre.length:Int)=(cnt:Int))=false:=by simp;omega
      simp only[go_sem,Ew,hx.len,hd,fY,simprocAttr]
      rw[go_loop]
      simp only[go_sem,Ex,Kf,simprocAttr]
  | succ n HS =>
    intro pre rest x o e i done B ls hr hp hx he hl hM hI hX
    have b0:∀i,(up (base i) (rg::B) ls).box N 0=some [.yield L]:=fun i=>by have:=Nr (S:=base i) (B:=B) (ls:=ls) (r:=rg) (b:=0);rw[h.len i]at this;rw[this,hy]
    have b1:∀i,(up (base i) (rg::B) ls).box N 1=some [.fn 122 [] [.bd [I cnt] 0,.ptr N 0 0,.ptr N 1 0]]:=fun i=>by have:=Nr (S:=base i) (B:=B) (ls:=ls) (r:=rg) (b:=1);rw[h.len i]at this;rw[this,hg]
    have bz:∀i,Ok (up (base i) (rg::B) ls):=fun i=>(h.ok i).up (B:=rg::B) (ls:=ls)
    by_cases hc:pre.length=cnt
    · obtain ⟨b, i', h1, h2⟩ := h.one (B := rg :: B) (ls := ls) (by rw [show cnt - pre.length = 0 by omega] at hM; simp [bn] at hM; omega) hI (by have := hX [] (by rw [show cnt - pre.length = 0 by omega]; simp [bn]); simpa using this) ⟨[], []⟩
      refine⟨b,i',?_,by rw[show cnt-pre.length=0 by omega];simpa[bn]using h2⟩
      rw[aG (show AP 122=some xh from rfl) rfl]
      have aQ:∀q:ae,aw AP (.fn 123) [x] (dP q)=some (bB 1 (pre.map aC),dP q):=fun q=>aew hx (by omega)
      simp only[go_sem,Ew,hx.len,hc,eA (b0 i),aQ,h1,simprocAttr]
    · obtain ⟨k, hk⟩ : ∃ k, cnt - pre.length = k + 1 := ⟨cnt - pre.length - 1, by omega⟩
      rw[hk]at hX hM⊢
      have hd:decide ((pre.length:Int)=(cnt:Int))=false:=by simp;omega
      have key:∀j ρ m,j≤rest.length→(ρ 0=x∧ρ 1=.slice o e (rest.map aC)∧ρ 4=.ptr N 1 0∧ρ 18=.slice o e (rest.map aC)∧ρ 19=I rest.length∧ρ 20=I j∧
          ∃i tk qB,m=(up (base i) (rg::B) ls).push ⟨[],tk⟩∧qB++(bn (k+1) (rest.drop j)).map (pre++·)=(bn (k+1) rest).map (pre++·)∧Ends Iv stop O done qB true i)→
          ∃b i',go AP ajf (.c (.loop Ex)::aru) ⟨ρ,m⟩=some (AV.v (.bool b),up (base i') (rg::B) ls)∧Ends Iv stop O done ((bn (k+1) rest).map (pre++·)) b i':=by
        refine SJ rest.length _ (fun r=>∃b i',r=some (AV.v (.bool b),up (base i') (rg::B) ls)∧Ends Iv stop O done ((bn (k+1) rest).map (pre++·)) b i') ?_ ?_
        · rintro j ρ m hj ⟨h0, h1, h4, fU, qj, tW, i, tk, qB, rfl, hits, hE⟩ ih
          obtain⟨y,Mw⟩:=get_some hj
          have lO:e=1:=by rcases he with h|h;(rw[h]at Mw;simp at Mw);exact h
          subst lO
          have im:=cz (f:=aC) (o:=o) (es:=1) Mw
          obtain⟨x',sN,nV⟩:=hx.cut
          obtain⟨tk',hx3⟩:=nV (up (base i) (rg::B) ls) [] tk y (by omega)
          have hw:IntKind.i64.wrap ((j:Int)+1)=((j+1:Nat):Int):=by rw[bq]<;>omega
          obtain⟨o',nN⟩:=TN (f:=aC) (o:=o) (es:=1) (l:=rest) (k:=j+1) (by omega)
          have qo:rest.drop j=y::rest.drop (j+1):=gO Mw
          have RU:(bn (k+1) (rest.drop j)).map (pre++·)=(bn k (rest.drop (j+1))).map ((pre++[y])++·)++(bn (k+1) (rest.drop (j+1))).map (pre++·):=by
            rw[qo];simp[bn,Ug]
          have kB:cnt-(pre++[y]).length=k:=by simp;omega
          have hXs:∀g∈bn (k+1) (rest.drop j),X (pre++g):=fun g hg=>by
            have hm:pre++g∈(bn (k+1) rest).map (pre++·):=by
              rw[←hits];exact I6 _ (cN.2 ⟨g,hg,rfl⟩)
            obtain⟨g',eC,e'⟩:=cN.1 hm
            have e':pre++g'=pre++g:=e'
            rw[←e'];exact hX g' eC
          obtain⟨b,i',gl,gZ⟩:=HS (pre++[y]) (rest.drop (j+1)) (.slice (.tok (up (base i) (rg::B) ls).ag.length tk.length) 1 ((pre++[y]).map aC)) o' 1 i (done++qB) (B++[⟨[],tk'⟩]) ls (by rw[pU];omega) (by simp;omega)
            (.inr ⟨by simp,_,rfl,rfl⟩) (.inr rfl) (by rw[pU];omega) (by
              have hh:=gX List.length hits
              rw[RU]at hh
              simp only[cG,cg]at hh⊢
              simp only[cG,pV]at kB
              rw[show cnt-(pre.length+[y].length)=k from kB];omega) hE.all (by
              rw[kB];intro g hg
              have:=hXs (y::g) (by rw[qo];simp only[bn];exact tu _ (cN.2 ⟨g,hg,rfl⟩))
              simpa using this)
          rw[kB]at gZ
          have ZS:∀i:ι,up (base i) (rg::(B++[⟨[],tk'⟩])) ls=(up (base i) (rg::B) ls).push ⟨[],tk'⟩:=fun i=>by rw[Nq];rfl
          rw[ZS,ZS]at gl
          simp only[go_sem,Ex,h0,h1,h4,fU,qj,tW,aL hj,im,eA (b1 i),hx.len,sN,hx3,hw,nN,gl,simprocAttr]
          cases b with
          | true =>
            simp only[go_sem,simprocAttr]
            refine ih _ _ ?_
            refine⟨h0,h1,h4,fU,qj,rfl,i',tk',qB++(bn k (rest.drop (j+1))).map ((pre++[y])++·),rfl,?_,?_⟩
            · rw[gK,←RU,hits]
            · exact hE.Jm gZ
          | false =>
            simp only[go_sem,simprocAttr]
            refine⟨false,i',rfl,?_⟩
            rw[←hits,RU,←gK]
            exact(hE.Jm gZ).Vg _
        · rintro ρ m ⟨h0, h1, h4, fU, qj, tW, i, tk, qB, rfl, hits, hE⟩
          simp only[go_sem,Ex,Kf,qj,tW,bg,simprocAttr]
          refine⟨true,i,rfl,?_⟩
          rw[fe]at hits
          simp only[bn,pb,kR]at hits
          rw[←hits];exact hE
      rw[aG (show AP 122=some xh from rfl) rfl]
      simp only[go_sem,Ew,hx.len,hd,simprocAttr]
      refine key 0 _ _ (aV _) ?_
      exact⟨rfl,rfl,rfl,rfl,rfl,rfl,i,[],[],rfl,by simp,⟨rfl,by simpa using hI⟩⟩
theorem akV {ι:Type} {L N NL M:Nat} {base:ι→ae} {Iv:List (List Int)→ι→Prop} {stop:List (List Int)→List Int→Bool} {O:List (List Int)→List Int→ι→Prop} {X:List Int→Prop} (h:Hand AP L (fun l=>bB 1 (l.map aC)) base Iv stop O X N NL M) {cnt:Nat} (vx:(cnt:Int)<1000000)
  {l:List Int} {o:Own} {e:Nat} {i:ι} {done:List (List Int)} (he:l=[]∨e=1) (hl:(l.length:Int)<1000000) (hM:done.length+(bn cnt l).length≤M) (hI:Iv done i) (hX:∀g∈bn cnt l,X g):
  ∃b i',aw AP (.fn 121) [.yield L,.bd [I cnt] 0,.bd [.slice o e (l.map aC)] 0] (base i)=some (.tuple [],base i')∧Ends Iv stop O done (bn cnt l) b i':=by
 have bz:=h.ok i
 have hlen:=h.len
 obtain⟨b,i',h1,h2⟩:=akW h vx (rg:=⟨[[.yield L],[.fn 122 [] [.bd [I cnt] 0,.ptr N 0 0,.ptr N 1 0]]],[]⟩) rfl rfl l.length [] l (.slice .aA 0 []) o e i done [] [] (aI _) (aV _) (.inl ⟨rfl,rfl⟩) he hl hM hI (by simpa using hX)
 refine⟨b,i',?_,by simpa using h2⟩
 rw[aG (show AP 121=some FL from rfl) rfl]
 have hp:∀i:ι,up (base i) [⟨[[.yield L],[.fn 122 [] [.bd [I cnt] 0,.ptr N 0 0,.ptr N 1 0]]],[]⟩] []=(base i).push ⟨[[.yield L],[.fn 122 [] [.bd [I cnt] 0,.ptr N 0 0,.ptr N 1 0]]],[]⟩:=fun i=>Ik.symm
 rw[hp,hp]at h1
 rw[←hlen i]at h1
 simp only[go_sem,V7,bz,h1,simprocAttr]
theorem asz {m:ae} {f:FuncId} {caps:List AV}:dL m (.fn f [] caps)=(mz m caps).map (.fn f [] ·):=rfl
theorem asp {m:ae}:mz m []=some []:=rfl
theorem asq {q:ae} {r:Rec} {b off:Nat} {rest:List AV}:mz (q.push r) (.ptr q.ag.length b off::rest)=((r.boxes[b]?).bind closeAll).bind fun cs=>(mz (q.push r) rest).map (.bd cs off::·):=by
 rw[mz,aj (by rw[gD]),ib]
 cases(r.boxes[b]?).bind closeAll with
 |none=>rfl
 |some cs=>cases mz (q.push r) rest<;>rfl
attribute [go_sem] asz asp asq
theorem axf {o:Own} {es:Nat} {rows:List (List AV)} {c:AV} {n:Int} (hl:(AV.slice o es rows).close=some c) (hs:Ok s):aw AP (.fn 76) [.slice o es rows,I n] s=some (.fn 121 [] [.bd [I n] 0,.bd [c] 0],s):=by
 rw[aG (show AP 76=some FK from rfl) rfl]
 simp only[go_sem,V6,hl,simprocAttr]
def uA (w:W) (q:R) (st:Int):List Int:=q.an.l.filter fun a=>cU w a st q.len
def mD (w:W) (i st:Int):List P:=(bn (w.rq i).need.toNat (uA w (w.rq i) st)).map fun g=>⟨i,st,fg g⟩
def jN (w:W) (i:Int):Int→Nat→List P
 |_,0=>[]
 |st,n+1=>mD w i st++jN w i (st+1) n
def ct (w:W) (i:Int):List P:=jN w i (w.rq i).lo ((w.rq i).hi-(w.rq i).len+2-(w.rq i).lo).toNat
theorem afd {g:List Int} (h:g≠[]):bB 1 (g.map aC)=(fg g).v aC:=by
 cases g with
 |nil=>exact absurd rfl h
 |cons a r=>rfl
section
variable{ι:Type} {L N NL M:Nat} {base:ι→ae} {Iv:List P→ι→Prop} {stop:List P→P→Bool} {O:List P→P→ι→Prop} {X:P→Prop}
abbrev uy (base:ι→ae) (R:Rec) (ρ:Nat→AV) (j:ι×Option c8):ae:=up (base j.1) [R] [⟨j.2.isNone,j.2,ρ,[54],kj,kn⟩]
theorem avE {S S':ae} {l L d k:Nat} {ρ:Nat→AV} {xs:List (List AV)} {i st:Int} {b:Bool} (hR:kS l ⟨true,none,ρ,[54],kj,kn⟩ S) (Q6:kS l ⟨true,none,ρ,[54],kj,kn⟩ S') (hS:Ok S)
  (h2:ρ 2=.bd [I i] 0) (h3:ρ 3=.ptr d 0 0) (h5:ρ 5=.ptr d k 0) (b0:S.box d 0=some [.yield L]) (bk:S.box d k=some [I st])
  (hc:aw AP (.yield L) [.agg [I i,I st,.slice .any 1 xs]] ((busy l S).push ⟨[],[]⟩)=some (AV.v (.bool b),(busy l S').push ⟨[],[]⟩)):
  aw AP (.yield l) [.slice .any 1 xs] S=some (AV.v (.bool b),if b=true then S' else over l .ret S'):=by
 refine(BF hR rfl).trans ?_
 have k0:=fun r=>eA (m:=busy l S) b0 r
 have kk:=fun r=>eA (m:=busy l S) bk r
 simp only[go_sem,kj,xv hR,wj,simprocAttr]
 simp only[go_sem,kn,h2,h3,h5,k0,kk,hc,simprocAttr]
 cases b with
 |true=>simp only[go_sem,GU Q6,simprocAttr]
 |false=>simp only[go_sem,ew,simprocAttr]
theorem avB (h:Hand AP L (fun p=>.agg (aq p)) base Iv stop O X N NL M) {R:Rec} {ρ:Nat→AV} {i st:Int} {k:Nat} {d0:List P} {n:Nat}
  (h2:ρ 2=.bd [I i] 0) (h3:ρ 3=.ptr N 0 0) (h5:ρ 5=.ptr N k 0) (b0:R.boxes[0]? =some [.yield L]) (bk:R.boxes[k]? =some [I st]):
  Hand AP NL (fun g=>bB 1 (g.map aC)) (uy base R ρ) (fun dn j=>j.2=none∧Iv (d0++dn.map fun g=>⟨i,st,fg g⟩) j.1) (fun dn g=>stop (d0++dn.map fun g=>⟨i,st,fg g⟩) ⟨i,st,fg g⟩)
   (fun dn g j=>j.2=some .ret∧O (d0++dn.map fun g=>⟨i,st,fg g⟩) ⟨i,st,fg g⟩ j.1) (fun g=>g.length=n+1∧X ⟨i,st,fg g⟩) (N+1) (NL+1) (M-d0.length):=by
 have main:∀(dn:List (List Int)) (g:List Int) (j:ι×Option c8) (B:List Rec) (ls:List da),dn.length<M-d0.length→(j.2=none∧Iv (d0++dn.map fun g=>⟨i,st,fg g⟩) j.1)→(g.length=n+1∧X ⟨i,st,fg g⟩)→
   ∃b i',Ends Iv stop O (d0++dn.map fun g=>⟨i,st,fg g⟩) [⟨i,st,fg g⟩] b i'∧aw AP (.yield NL) [bB 1 (g.map aC)] (up (uy base R ρ j) B ls)=some (AV.v (.bool b),up (uy base R ρ (i',if b then none else some .ret)) B ls):=by
  rintro dn g ⟨i1,p⟩ B ls hm ⟨hp,hI⟩ ⟨hg,hX⟩
  simp only at hp hI
  subst hp
  have aU:=h.jL
  obtain⟨b,i',h1,h4⟩:=h.one (B:=[R]++B) (ls:=[⟨false,none,ρ,[54],kj,kn⟩]++ls) (by simp;omega) hI hX ⟨[],[]⟩
  refine⟨b,i',h4,?_⟩
  have uf:g≠[]:=by intro e;rw[e]at hg;simp at hg
  have hN:=h.len
  have bx:∀(i1:ι) (q:Nat) (lp:da),(up (base i1) (R::B) (lp::ls)).box N q=R.boxes[q]? :=fun i1 q lp=>by rw[←hN i1,Nr]
  have hR:kS NL ⟨true,none,ρ,[54],kj,kn⟩ (up (base i1) (R::B) (⟨true,none,ρ,[54],kj,kn⟩::ls)):=acJ (h.ok i1) (aU i1) rfl rfl
  have Q6:kS NL ⟨true,none,ρ,[54],kj,kn⟩ (up (base i') (R::B) (⟨true,none,ρ,[54],kj,kn⟩::ls)):=acJ (h.ok i') (aU i') rfl rfl
  have e1:∀(i1:ι) (lp:da),up (up (base i1) [R] [lp]) B ls=up (base i1) (R::B) (lp::ls):=fun i1 lp=>by rw[ayJ];rfl
  have LR:∀i1:ι,busy NL (up (base i1) (R::B) (⟨true,none,ρ,[54],kj,kn⟩::ls))=up (base i1) (R::B) (⟨false,none,ρ,[54],kj,kn⟩::ls):=fun i1=>agR (aU i1)
  have vG:over NL .ret (up (base i') (R::B) (⟨true,none,ρ,[54],kj,kn⟩::ls))=up (base i') (R::B) (⟨false,some .ret,ρ,[54],kj,kn⟩::ls):=auP (aU i')
  simp only[uy,e1,Option.isNone_none]
  have bz:=(h.ok i1).up (B:=R::B) (ls:=⟨true,none,ρ,[54],kj,kn⟩::ls)
  have vr:bB 1 (g.map aC)=.slice .any 1 (g.map aC):=by cases g with|nil=>exact absurd rfl uf|cons a r=>rfl
  rw[vr]
  have lL:aw AP (.yield L) [.agg [I i,I st,.slice .any 1 (g.map aC)]] ((busy NL (up (base i1) (R::B) (⟨true,none,ρ,[54],kj,kn⟩::ls))).push ⟨[],[]⟩)=some (AV.v (.bool b),(busy NL (up (base i') (R::B) (⟨true,none,ρ,[54],kj,kn⟩::ls))).push ⟨[],[]⟩):=by
   simp only[fZ,gL,aq,←afd uf,vr]at h1
   rw[LR,LR];exact h1
  refine(avE hR Q6 bz h2 h3 h5 (by rw[bx,b0]) (by rw[bx,bk]) lL).trans ?_
  cases b with
  |true=>simp
  |false=>simp[vG]
 refine⟨fun j=>(h.ok _).up,fun j=>by simp[uy,ayH,h.len],fun j=>by simp[uy,ayI,h.jL],?_,?_⟩
 ·intro dn g j B ls hm hI hX hs
  obtain⟨b,i',h1,h4⟩:=main dn g j B ls hm hI hX
  simp only[Ends]at h1
  rw[ak (by rw[hs];simp)]at h1
  obtain⟨rfl,h1⟩:=h1
  exact⟨(i',none),h4,rfl,by simpa using h1⟩
 ·intro dn g j B ls hm hI hX hs
  obtain⟨b,i',h1,h4⟩:=main dn g j B ls hm hI hX
  simp only[Ends]at h1
  rw[aj hs]at h1
  obtain⟨rfl,h1⟩:=h1
  exact⟨(i',some .ret),h4,rfl,h1⟩
theorem afc {l:List Int}:∃o e,bB 1 (l.map aC)=.slice o e (l.map aC)∧(l=[]∨e=1):=by
 cases l with
 |nil=>exact⟨_,_,rfl,.inl rfl⟩
 |cons a r=>exact⟨_,_,rfl,.inr rfl⟩
theorem XR {R:Rec} {ρ:Nat→AV} {i:ι}:enterLoop ((base i).push R) ⟨true,none,ρ,[54],kj,kn⟩=uy base R ρ (i,none):=by
 simp[uy,Ik,aed]
theorem avD {F:c8→St→Option (AV×ae)} {ks:List K} (h:Hand AP L (fun p=>.agg (aq p)) base Iv stop O X N NL M) {R:Rec} {ρ:Nat→AV} {req st:Int} {k:Nat} {d0:List P} {i:ι} {ready:List Int} {need:Nat}
  (hn:1≤need) (dK:(need:Int)<1000000) (hl:(ready.length:Int)<1000000)
  (h2:ρ 2=.bd [I req] 0) (h3:ρ 3=.ptr N 0 0) (h5:ρ 5=.ptr N k 0) (h53:ρ 53=.fn 121 [] [.bd [I need] 0,.bd [bB 1 (ready.map aC)] 0]) (b0:R.boxes[0]? =some [.yield L]) (bk:R.boxes[k]? =some [I st])
  (hM:d0.length+(bn need ready).length≤M) (hI:Iv d0 i) (hX:∀g∈bn need ready,X ⟨req,st,fg g⟩):
  ∃b i',Ends Iv stop O d0 ((bn need ready).map fun g=>(⟨req,st,fg g⟩:P)) b i'∧go AP F (.c (.rangeFunc (.tmp 53) [54] kj kn)::ks) ⟨ρ,(base i).push R⟩=if b=true then go AP F ks ⟨ρ,(base i').push R⟩else F .ret ⟨ρ,(base i').push R⟩:=by
 obtain⟨o,e,ha,he⟩:=afc (l:=ready)
 obtain⟨n,rfl⟩:∃n,need=n+1:=⟨need-1,by omega⟩
 have hh:=avB h (R:=R) (ρ:=ρ) (i:=req) (st:=st) (k:=k) (d0:=d0) (n:=n) h2 h3 h5 b0 bk
 obtain⟨b,⟨i',p⟩,hc,hE⟩:=akV hh (cnt:=n+1) dK (l:=ready) (o:=o) (e:=e) (i:=(i,none)) (done:=[]) he hl (by simp;omega) ⟨rfl,by simpa using hI⟩ (fun g hg=>⟨xJ hg,hX g hg⟩)
 have hE':=Ends.map (I:=Iv) (stop:=stop) (O:=O) (mk:=fun g=>(⟨req,st,fg g⟩:P)) (f:=fun j:ι×Option c8=>j.1) (d0:=d0) (fun dn j hj=>hj.2) (fun dn g=>rfl) (fun dn g j hj=>hj.2) hE
 refine⟨b,i',by simpa using hE',?_⟩
 have eZ:((base i).push R).loops.length=NL:=h.jL i
 have ZG:((base i').push R).loops.length=NL:=h.jL i'
 rw[B7 (x:=.tmp 53) h53,XR,ha,eZ]
 refine(gX (Option.bind · _) hc).trans ?_
 simp only[dI]
 cases b with
 |true=>
  have hp:p=none:=(hE.all).1
  subst hp
  rw[←XR,B6 ZG rfl rfl];rfl
 |false=>
  obtain⟨pre,g,post,_,hO,_⟩:=hE.first
  have hp:p=some .ret:=hO.1
  subst hp
  have:uy base R ρ (i',some .ret)=enterLoop ((base i').push R) ⟨false,some .ret,ρ,[54],kj,kn⟩:=by simp[uy,Ik,aed]
  rw[this,YK ZG rfl];rfl
theorem M1 (h : Hand AP L (fun p => .agg (aq p)) base Iv stop O X N NL M) (hw : Wk w) {req : Int} (h0 : 0 ≤ req) (h1 : req < w.rs.l.length) {i : ι} {done : List P} (hM : done.length + (ct w req).length ≤ M) (hI : Iv done i) (hX : ∀ p ∈ ct w req, X p) :
  ∃b i',aw AP (.fn 74) [.yield L,.bd [OW w] 0,.bd [I req] 0] (base i)=some (.tuple [],base i')∧Ends Iv stop O done (ct w req) b i':=by
 have hN:=h.len
 have hq:=hw.rq h0 h1
 have zC:=hw.ok.an _ (W.oe h0 h1)
 have eD:=oQ hw h0 h1
 have dK:=hw.v.n2
 have fC:=hw.v.al
 have Zl:=hw.si.an _ (W.oe h0 h1)
 generalize HG:w.rq req=q at*
 obtain⟨cr,lo,hi,len,val,⟨oa,ea,an⟩,need⟩:=q
 obtain⟨l0,CX,bH,kJ,pJ,uF,tc,Va,tG,DX,Ia,Ib,_⟩:=hq
 simp only at l0 CX bH kJ pJ uF tc Va tG DX Ia Ib Zl
 have hea:ea=1:=by
  rcases zC.1 with h|h
  ·exact absurd h Va
  ·exact h
 subst hea
 have key : ∀ (st : Int) ρ m, (lo ≤ st ∧ st ≤ hi - len + 2 ∧ ρ 1 = .bd [OW w] 0 ∧ ρ 2 = .bd [I req] 0 ∧ ρ 3 = .ptr N 0 0 ∧ ρ 4 = .ptr N 1 0 ∧
   ∃i junk tk qB,ρ 5=.ptr N (junk.length+1+1) 0∧m=(base i).push ⟨[.yield L]::[S cr,I lo,I hi,I len,I val,.slice oa 1 (an.map aC),I need]::(junk++[[I st]]),tk⟩∧qB++jN w req st (hi-len+2-st).toNat=ct w req∧Ends Iv stop O done qB true i)→
   ∃b i',go AP La (.c (.loop xb)::arM) ⟨ρ,m⟩=some (.tuple [],base i')∧Ends Iv stop O done (ct w req) b i':=by
  refine atd (hi-len+1) _ (fun r=>∃b i',r=some (.tuple [],base i')∧Ends Iv stop O done (ct w req) b i') ?_ ?_
  ·rintro st ρ m bu ⟨Z6,CM,h1,h2,h3,h4,i,junk,tk,qB,h5,rfl,hits,hE⟩ ih
   have hN':=hN i
   have hd:decide (st+len-1≤hi)=true:=bS (by omega)
   have my : ∀ (j : Nat) ρ m, j ≤ an.length → (ρ 1 = .bd [OW w] 0 ∧ ρ 2 = .bd [I req] 0 ∧ ρ 3 = .ptr N 0 0 ∧ ρ 4 = .ptr N 1 0 ∧ ρ 5 = .ptr N (junk.length + 1 + 1) 0 ∧ ρ 33 = .slice oa 1 (an.map aC) ∧ ρ 34 = I an.length ∧ ρ 35 = I j ∧
     ∃og tk,Acc (base i).ag.length 1 (((an.take j).filter fun a=>cU w a st len).map aC) (ρ 6) og tk∧m=(base i).push ⟨[.yield L]::[S cr,I lo,I hi,I len,I val,.slice oa 1 (an.map aC),I need]::(junk++[[I st]]),tk⟩)→
     ∃b i',go AP La (.c (.loop EN)::arN) ⟨ρ,m⟩=some (.tuple [],base i')∧Ends Iv stop O done (ct w req) b i':=by
    refine SJ an.length _ (fun r=>∃b i',r=some (.tuple [],base i')∧Ends Iv stop O done (ct w req) b i') ?_ ?_
    ·rintro j ρ m hj ⟨h1,h2,h3,h4,h5,pk,mh,qk,og,tk,hA,rfl⟩ eQ
     obtain⟨a,ha⟩:=get_some hj
     have nH:=tG a (bE ha)
     have hr:=cz (f:=aC) (o:=oa) (es:=1) ha
     have bU:∀r,aw AP (.fn 75) [OW w,I a,I st,I len] ((base i).push r)=some (B (cU w a st len),(base i).push r):=fun r=>ael hw nH.1 nH.2 (by omega) (by omega) (by omega)
     rw[←hN i]at h3 h4 h5
     have ud:(an.take (j+1)).filter (fun a=>cU w a st len)=(an.take j).filter (fun a=>cU w a st len)++if cU w a st len=true then[a]else[]:=by
      rw[du ha,qN];simp only[NH,IW]
     have aA8:((an.take j).filter (fun a=>cU w a st len)).length≤an.length:=by
      have:=rW (fun a=>cU w a st len) (an.take j)
      rw[ez]at this;omega
     cases L8:cU w a st len with
     |false=>
      rw[L8]at bU
      simp only[go_sem,EN,h1,h4,h5,pk,mh,qk,aL hj,hr,bU,bh hj (show(an.length:Int)<_ by omega),simprocAttr]
      refine eQ _ _ ?_
      refine⟨h1,h2,by rw[←hN i];exact h3,by rw[←hN i];exact h4,by rw[←hN i];exact h5,pk,mh,rfl,og,tk,?_,rfl⟩
      rw[ud,L8,ak (by simp),kR]
      exact hA
     |true=>
      rw[L8]at bU
      obtain⟨x',bQ,tk',cp,di,_⟩:=hA.append (h.ok i) .full (ys:=[[I a]]) (by simp) (by simp;omega)
      simp only[go_sem,EN,h1,h4,h5,pk,mh,qk,aL hj,hr,bU,cp,bh hj (show(an.length:Int)<_ by omega),simprocAttr]
      refine eQ _ _ ?_
      refine⟨h1,h2,by rw[←hN i];exact h3,by rw[←hN i];exact h4,by rw[←hN i];exact h5,pk,mh,rfl,bQ,tk',?_,rfl⟩
      rw[ud,L8,aj rfl,fH]
      exact di
    ·rintro ρ m ⟨h1,h2,h3,h4,h5,pk,mh,qk,og,tk,hA,rfl⟩
     rw[er]at hA
     have HK:(an.filter fun a=>cU w a st len)=uA w (w.rq req) st:=by rw[HG];rfl
     rw[HK]at hA
     have fV:(uA w (w.rq req) st).length≤6:=by
      rw[←HK]
      have:=rW (fun a=>cU w a st len) an
      omega
     obtain⟨nd,rfl⟩:∃nd:Nat,need=nd:=⟨need.toNat,by omega⟩
     obtain⟨o6,e6,r6,h6⟩:∃o6 e6 r6,ρ 6=.slice o6 e6 r6:=by
      cases og with
      |none=>exact⟨_,_,_,hA.2⟩
      |some g=>exact⟨_,_,_,hA.2.1⟩
     have aQ:=hA.close
     rw[h6]at aQ
     have Mi:∀r,aw AP (.fn 76) [.slice o6 e6 r6,I (nd:Int)] ((base i).push r)=some (.fn 121 [] [.bd [I nd] 0,.bd [bB 1 ((uA w (w.rq req) st).map aC)] 0],(base i).push r):=fun r=>axf aQ ((h.ok i).push r)
     have Ma:jN w req st (hi-len+2-st).toNat=mD w req st++jN w req (st+1) (hi-len+2-(st+1)).toNat:=by
      rw[show(hi-len+2-st).toNat=(hi-len+2-(st+1)).toNat+1 by omega];rfl
     have fD:mD w req st=(bn nd (uA w (w.rq req) st)).map fun g=>(⟨req,st,fg g⟩:P):=by
      have:(w.rq req).need=nd:=by rw[HG]
      rw[mD,this,pT]
     have fin:∀ρ':Nat→AV,ρ' 1=.bd [OW w] 0→ρ' 2=.bd [I req] 0→ρ' 3=.ptr N 0 0→ρ' 4=.ptr N 1 0→ρ' 5=.ptr N (junk.length+1+1) 0→ρ' 53=.fn 121 [] [.bd [I nd] 0,.bd [bB 1 ((uA w (w.rq req) st).map aC)] 0]→
       ∃b i',go AP La (.c (.rangeFunc (.tmp 53) [54] kj kn)::.blk 4::.blk 1::.c Bb::.lp xb::[.blk 0]) ⟨ρ',(base i).push ⟨[.yield L]::[S cr,I lo,I hi,I len,I val,.slice oa 1 (an.map aC),I nd]::(junk++[[I st]]),tk⟩⟩=some (.tuple [],base i')∧Ends Iv stop O done (ct w req) b i':=by
      intro ρ' g1 g2 g3 g4 g5 BZ
      obtain⟨b,i',Q5,vB⟩:=avD (F:=La) (ks:=.blk 4::.blk 1::.c Bb::.lp xb::[.blk 0]) h (R:=⟨[.yield L]::[S cr,I lo,I hi,I len,I val,.slice oa 1 (an.map aC),I nd]::(junk++[[I st]]),tk⟩) (ρ:=ρ') (req:=req) (st:=st) (k:=junk.length+1+1) (d0:=done++qB) (i:=i) (ready:=uA w (w.rq req) st) (need:=nd) (by omega) (by omega) (by omega) g2 g3 g5 BZ rfl (by simp) (by
       have hh:=gX List.length hits
       rw[Ma,fD]at hh
       simp only[cG,cg]at hh⊢
       omega) hE.all (by
       intro g hg
       refine hX _ ?_
       rw[←hits,Ma,fD]
       exact I6 _ (tu _ (cN.2 ⟨g,hg,rfl⟩)))
      rw[vB]
      rw[←fD]at Q5
      cases b with
      | false =>
       refine⟨false,i',?_,?_⟩
       ·simp only[go_sem,ew,simprocAttr]
       ·rw[←hits,Ma,←gK]
        exact(hE.Jm Q5).Vg _
      |true=>
       have Y0:=hN i'
       have Yz:=g5
       rw[←Y0]at Yz
       simp only[go_sem,Bb,Yz,h.ok i',bq (x:=st+1) (by omega) (by omega),simprocAttr]
       refine ih _ _ ?_
       refine⟨by omega,by omega,g1,g2,g3,g4,i',junk++[[I st]],tk,qB++mD w req st,?_,?_,?_,hE.Jm Q5⟩
       ·rw[←Y0];simp[put]
       ·simp
       ·rw[gK,←Ma,hits]
     have B9:=h4
     rw[←hN i]at h4
     simp only[go_sem,EN,PF,h4,mh,qk,h6,bg,Mi,simprocAttr]
     exact fin _ h1 h2 h3 B9 h5 rfl
   rw[←hN i]at h4 h5
   simp only[go_sem,xb,h4,h5,hd,bq (x:=st+len) (by omega) (by omega),bq (x:=st+len-1) (by omega) (by omega),simprocAttr]
   refine my 0 _ _ (aV _) ?_
   exact⟨h1,h2,h3,by rw[←hN i];exact h4,by rw[←hN i];exact h5,rfl,rfl,rfl,none,tk,Acc.start,rfl⟩
  ·rintro st ρ m bu ⟨Z6,CM,h1,h2,h3,h4,i,junk,tk,qB,h5,rfl,hits,hE⟩
   have hd:decide (st+len-1≤hi)=false:=bX (by omega)
   rw[←hN i]at h4 h5
   simp only[go_sem,xb,h4,h5,hd,bq (x:=st+len) (by omega) (by omega),bq (x:=st+len-1) (by omega) (by omega),simprocAttr]
   refine⟨true,i,rfl,?_⟩
   rw[show(hi-len+2-st).toNat=0 by omega]at hits
   simp only[jN,kR]at hits
   rw[←hits];exact hE
 have hcw:closeAll [OW w]=some [OW w]:=rfl
 rw[aG (show AP 74=some Gf from rfl) rfl]
 simp only[OW]
 simp only[go_sem,Wz,h.ok i,yl,eD,simprocAttr]
 refine key lo _ _ ?_
 refine⟨rU _,by omega,rfl,rfl,by rw[←hN i];rfl,by rw[←hN i];rfl,i,[],[],[],by rw[←hN i];rfl,rfl,?_,⟨rfl,by simpa using hI⟩⟩
 rw[ct,HG];rfl
theorem Nw {i:Int} (hs:Ok s):aw AP (.fn 41) [OW w,I i] s=some (.fn 74 [] [.bd [OW w] 0,.bd [I i] 0],s):=by
 rw[aG (show AP 41=some Ge from rfl) rfl]
 simp only[OW]
 simp only[go_sem,Wy,simprocAttr]
end
end
def ep (w:W) (l:List P) (i:Int):List P:=(ct w i).filter fun x=>!cY w x l
theorem Tm {w:W} {i:Int} {p:P}:∀{n:Nat} {st:Int},p∈jN w i st n→∃t,st≤t∧t<st+n∧p∈mD w i t
 |0,_,h=>by simp[jN]at h
 | n + 1, st, h => by
  simp only[jN,dR]at h
  rcases h with h|h
  ·exact⟨st,rU _,by omega,h⟩
  ·obtain⟨t,h1,h2,h3⟩:=Tm h
   exact⟨t,by omega,by omega,h3⟩
theorem jO {w:W} (hw:Wk w) {i:Int} (h0:0≤i) (h1:i<w.rs.l.length) {p:P} (hp:p∈ct w i):bJ w p∧p.req=i∧(w.rq i).lo≤p.start∧p.start≤(w.rq i).hi-(w.rq i).len+1∧(p.an.l.length:Int)=(w.rq i).need∧p.an=fg p.an.l∧p.an.l.Sublist (w.rq i).an.l∧∀a∈p.an.l,cU w a p.start (w.rq i).len=true:=by
 have hq:=hw.rq h0 h1
 have dK:=hw.v.n2
 obtain⟨t,h2,h3,h4⟩:=Tm hp
 obtain⟨g,hg,rfl⟩:=cN.1 h4
 have hl:=xJ hg
 have hs:=G8 hg
 have la:g.Sublist (w.rq i).an.l:=hs.trans Uu
 have b1:=hq.pK
 have b2:=hq.bH
 have b3:=hq.kJ
 have b4:=hq.pJ
 have b5:=hq.Ia
 have b6:=hq.Ib
 have b7:=hw.si.an _ (W.oe h0 h1)
 have kz:(g.length:Int)=(w.rq i).need:=by omega
 refine⟨⟨h0,h1,by show 0≤t;omega,by show t≤200;omega,fun a ha=>hq.tG a (la.subset ha),xq,by show(g.length:Int)<_;omega⟩,rfl,h2,by show t≤_;omega,kz,rfl,la,fun a ha=>?_⟩
 have:=hs.subset ha
 exact(ji.1 this).2
theorem B8:∀{k:Nat} {l:List Int},(bn k l).length≤2^l.length
 |0,l=>by simp[bn];exact Nat.one_le_two_pow
 |k+1,[]=>by simp[bn]
 |k+1,x::r=>by
  have h1:=B8 (k:=k) (l:=r)
  have h2:=B8 (k:=k+1) (l:=r)
  simp only[bn,cG,cg,cH,UT]
  omega
theorem aco {w:W} {i:Int} {m:Nat} (h:∀st,(mD w i st).length≤m):∀{n:Nat} {st:Int},(jN w i st n).length≤n*m
 |0,_=>by simp[jN]
 |n+1,st=>by
  have h1:=h st
  have h2:=aco h (n:=n) (st:=st+1)
  simp only[jN,cG,iM]
  omega
theorem z7 {w:W} (hw:Wk w) {i:Int} (h0:0≤i) (h1:i<w.rs.l.length):(ct w i).length≤13000:=by
 have hq:=hw.rq h0 h1
 have dK:=hw.v.n2
 have b1:=hq.pK
 have b2:=hq.bH
 have b3:=hq.kJ
 have b4:=hq.pJ
 have b7:=hw.si.an _ (W.oe h0 h1)
 have:∀st,(mD w i st).length≤64:=fun st=>by
  rw[mD,cg]
  refine mN B8 ?_
  have:(uA w (w.rq i) st).length≤6:=mN (rW _ _) b7
  calc 2^(uA w (w.rq i) st).length≤2^6:=mb (by decide) this
   _=64:=by decide
 have h2:=aco this (n:=((w.rq i).hi-(w.rq i).len+2-(w.rq i).lo).toNat) (st:=(w.rq i).lo)
 have h3:((w.rq i).hi-(w.rq i).len+2-(w.rq i).lo).toNat≤201:=by omega
 have h4:=pd 64 h3
 unfold ct
 omega
section
variable{s:ae} {w:W}
theorem avp {X T:Rec→ae} {l d:Nat} {ρ:Nat→AV} {r:Rec} {p:P} {pl:List P} {done:List P} {o:Own} {e:Nat} (hM:fu X d) (hX:∀r,busy l (T r)=X r) (hR:∀r,kS l ⟨true,none,ρ,[12],nu,nw⟩ (T r)) (bz:∀r,Ok (T r)) (hw:Wk w) (hp:bJ w p) (ed:∀x∈pl,bJ w x) (he:pl=[]∨e=3) (hn:(pl.length:Int)<9223372036854775808)
  (h3:ρ 3=.ptr d 0 0) (h4:ρ 4=.ptr d 1 0) (h7:ρ 7=.ptr d 2 0) (hd:done.length<1000000)
  (hI:∃x og,r.boxes=[[OW w],[.slice o e (pl.map aq)],[x]]∧Acc d 3 ((done.filter fun x=>!cY w x pl).map aq) x og r.toks):
  ∃r',aw AP (.yield l) [.agg (aq p)] (T r)=some (.v (.bool true),T r')∧∃x og,r'.boxes=[[OW w],[.slice o e (pl.map aq)],[x]]∧Acc d 3 (((done++[p]).filter fun x=>!cY w x pl).map aq) x og r'.toks:=by
 obtain⟨x,og,hb,hA⟩:=hI
 have nI:∀r ρ' q,jC l .normal ⟨ρ',(X r).push q⟩=some (.v (.bool true),T r):=fun r ρ' q=>by rw[←hX];exact GU (hR r)
 have xV:∀r,Ok (X r):=fun r=>by rw[←hX];exact(bz r).busy
 have xK:∀r,(T r).ag.length=(X r).ag.length:=fun r=>by rw[←hX];rfl
 have k0:∀q,((X r).push q).box d 0=some [OW w]:=fun q=>by rw[hM.box,hb];rfl
 have k1:∀q,((X r).push q).box d 1=some [.slice o e (pl.map aq)]:=fun q=>by rw[hM.box,hb];rfl
 have k2:∀q,((X r).push q).box d 2=some [x]:=fun q=>by rw[hM.box,hb];rfl
 have hc:∀q,aw AP (.fn 69) [OW w,.agg (aq p),.slice o e (pl.map aq)] ((X r).push q)=some (B (cY w p pl),(X r).push q):=fun q=>T5 ((xV r).push q) hw hp ed he hn
 have hlen:(done.filter fun x=>!cY w x pl).length≤done.length:=rW _ _
 have lS:closeAll (aq p)=some (aq p):=by
  simp only[aq,ie,jW,nC,Sl.close hp.ok];rfl
 rw[BF (hR r) rfl]
 simp only[aq,Sl.v]at hc lS⊢
 cases dw:cY w p pl with
 | true =>
  rw[dw]at hc
  refine⟨r,?_,x,og,hb,?_⟩
  ·simp only[go_sem,nu,xv (hR r),bz r,wj,simprocAttr]
   simp only[go_sem,nw,hX,xK,h3,h4,k0,k1,hc,nI,simprocAttr]
  ·rw[qN]
   simpa[dw]using hA
 | false =>
  rw[dw]at hc
  obtain⟨x1,m1,Dh,x',bQ,tk',a1,a2,a3,a4,a5,a6⟩:=hM.append (r0:=⟨[aq p],[]⟩) hA .full (ys:=[aq p]) (by simp) (by simp;omega) (b:=2) (by rw[hb];simp) ⟨x,by rw[hb];rfl⟩
  refine⟨⟨r.boxes.set 2 [x'],tk'⟩,?_,x',bQ,?_,?_⟩
  ·simp only[aq,Sl.v]at a1 a2
   simp only[go_sem,nu,xv (hR r),bz r,wj,simprocAttr]
   simp only[go_sem,nw,hX,xK,h3,h4,h7,k0,k1,k2,hc,nI,lS,a1,a2,simprocAttr]
  ·rw[hb];rfl
  ·rw[qN,fH]
   have:List.map aq (List.filter (fun x=>!cY w x pl) [p])=[aq p]:=by simp[dw]
   rw[this];exact a4
abbrev ux (s:ae) (ρ:Nat→AV) (r:Rec):ae:=enterLoop (s.push r) ⟨true,none,ρ,[12],nu,nw⟩
theorem avn {ρ:Nat→AV} {pl:List P} {o:Own} {e:Nat} (hs:Ok s) (hw:Wk w) (ed:∀x∈pl,bJ w x) (he:pl=[]∨e=3) (hn:(pl.length:Int)<9223372036854775808)
  (h3:ρ 3=.ptr s.ag.length 0 0) (h4:ρ 4=.ptr s.ag.length 1 0) (h7:ρ 7=.ptr s.ag.length 2 0):
  Hand AP s.loops.length (fun p=>.agg (aq p)) (ux s ρ) (fun done r=>∃x og,r.boxes=[[OW w],[.slice o e (pl.map aq)],[x]]∧Acc s.ag.length 3 ((done.filter fun x=>!cY w x pl).map aq) x og r.toks)
   (fun _ _=>false) (fun _ _ _=>False) (bJ w) (s.ag.length+1) (s.loops.length+1) 100000:=by
 refine⟨fun r=>(hs.push _).enter,fun r=>by simp[ux,enterLoop,ae.push],fun r=>by simp[ux,enterLoop,ae.push],?_,fun _ _ _ _ _ _ _ _ h=>by cases h⟩
 intro done p r B ls hd hI hp _
 have hM:fu (fun r=>up (busy s.loops.length (enterLoop (s.push r) ⟨true,none,ρ,[12],nu,nw⟩)) B ls) s.ag.length:=H8 hs
 have hX:∀r,busy s.loops.length (up (ux s ρ r) B ls)=(fun r=>up (busy s.loops.length (enterLoop (s.push r) ⟨true,none,ρ,[12],nu,nw⟩)) B ls) r:=fun r=>IK (by simp[enterLoop,ae.push])
 exact avp (T:=fun r=>up (ux s ρ r) B ls) hM hX (fun r=>IL (GK (hs.push r))) (fun r=>((hs.push _).enter).up) hw hp ed he hn h3 h4 h7 (by omega) hI
theorem aem {pl:List P} {o:Own} {e:Nat} {i:Int} (hs:Ok s) (hw:Wk w) (ed:∀x∈pl,bJ w x) (he:pl=[]∨e=3) (hn:(pl.length:Int)<9223372036854775808) (h0:0≤i) (h1:i<w.rs.l.length):
  aw AP (.fn 35) [OW w,.slice o e (pl.map aq),I i] s=some (bB 3 ((ep w pl i).map aq),s):=by
 have key:∀ρ:Nat→AV,ρ 3=.ptr s.ag.length 0 0→ρ 4=.ptr s.ag.length 1 0→ρ 7=.ptr s.ag.length 2 0→ρ 11=.fn 74 [] [.bd [OW w] 0,.bd [I i] 0]→
   go AP Yc (.c (.rangeFunc (.tmp 11) [12] nu nw)::.blk 0::[.c Ba]) ⟨ρ,s.push ⟨[[OW w],[.slice o e (pl.map aq)],[.slice .aA 0 []]],[]⟩⟩=some (bB 3 ((ep w pl i).map aq),s):=by
  intro ρ h3 h4 h7 dh
  obtain⟨b,r',hc,hE⟩:=M1 (avn hs hw ed he hn h3 h4 h7) hw h0 h1 (i:=⟨[[OW w],[.slice o e (pl.map aq)],[.slice .aA 0 []]],[]⟩) (done:=[]) (by have:=z7 hw h0 h1;simp;omega) ⟨_,none,rfl,Acc.start⟩ (fun p hp=>(jO hw h0 h1 hp).1)
  obtain⟨rfl,x,og,hb,hA⟩:=hE.never (fun _ _=>rfl)
  rw[B7 (x:=.tmp 11) dh]
  refine(gX (Option.bind · _) hc).trans ?_
  simp only[dI]
  refine(B6 (m:=s.push r') (lp:=⟨true,none,ρ,[12],nu,nw⟩) rfl rfl rfl).trans ?_
  obtain⟨bx,tk⟩:=r'
  simp only at hb hA
  subst hb
  have lJ:Acc s.ag.length 3 ((ep w pl i).map aq) x og tk:=hA
  simp only[go_sem,Ba,h7,lJ.leave,simprocAttr]
 have hp:∀r,aw AP (.fn 41) [OW w,I i] (s.push r)=some (.fn 74 [] [.bd [OW w] 0,.bd [I i] 0],s.push r):=fun r=>Nw (hs.push r)
 rw[aG (show AP 35=some Bt from rfl) rfl]
 simp only[OW]at key hp⊢
 simp only[go_sem,PE,hp,simprocAttr]
 exact key _ rfl rfl rfl rfl
def fJ {α:Type} (e:Nat):List α→Sl α
 |[]=>⟨.aA,0,[]⟩
 |x::r=>⟨.any,e,x::r⟩
theorem uR {α:Type} {e:Nat} {f:α→List AV} {l:List α}:bB e (l.map f)=(fJ e l).v f:=by cases l<;>rfl
theorem me {α:Type} {e:Nat} {l:List α}:(fJ e l).l=l:=by cases l<;>rfl
theorem wU {α:Type} {e:Nat} {l:List α}:(fJ e l).ok e:=by
 cases l with
 |nil=>exact⟨.inl rfl,.inr (.inr ⟨rfl,rfl⟩)⟩
 |cons a r=>exact⟨.inr rfl,.inl rfl⟩
abbrev jc (c:Sl P×Bool):List AV:=[c.1.v aq,B c.2]
attribute [go_sem] jc
abbrev CH (w:W) (o:Own) (e:Nat) (all:List (Sl P×Bool)):AV:=.agg [OW w,.slice o e (all.map jc)]
def qe (w:W) (n:Nat):List (Sl P×Bool):=(List.range n).map fun i=>(fJ 3 (ep w [] (i:Nat)),true)
def df (w:W):List (Sl P×Bool):=qe w w.rs.l.length
theorem ajS {w:W} {n:Nat}:qe w (n+1)=qe w n++[(fJ 3 (ep w [] (n:Nat)),true)]:=by
 simp[qe,DI]
theorem Yy {w:W} {n:Nat}:(qe w n).length=n:=by simp[qe]
theorem Acc.sl {d es:Nat} {xs:List (List AV)} {x:AV} {og:Option Nat} {toks:List (Option Nat)} (h:Acc d es xs x og toks):∃o e r,x=.slice o e r:=by
 cases og with
 |none=>exact⟨_,_,_,h.2⟩
 |some g=>exact⟨_,_,_,h.2.1⟩
theorem ayT (hs:Ok s) (hw:Wk w):aw AP (.fn 28) [OW w] s=some (.agg [OW w,bB 2 ((df w).map jc)],s):=by
 have fV:=hw.v.rl
 have ed:∀(q:ae) (i:Nat),i<w.rs.l.length→aw AP (.fn 35) [OW w,.slice .aA 0 [],I i] (dP q)=some (bB 3 ((ep w [] (i:Nat)).map aq),dP q):=fun q i hi=>aem (pl:=[]) C4 hw (by simp) (.inl rfl) (by simp) (by omega) (by omega)
 have aQ:∀i:Nat,closeAll (jc (fJ 3 (ep w [] (i:Nat)),true))=some (jc (fJ 3 (ep w [] (i:Nat)),true)):=fun i=>by
  simp only[jc,ie,jW,Xg,Sl.close (f:=aq) (wU (e:=3) (l:=ep w [] (i:Nat)))];rfl
 have key:∀(j:Nat) ρ m,j≤w.rs.l.length→(ρ 0=OW w∧ρ 2=.ptr s.ag.length 0 0∧ρ 3=.ptr s.ag.length 1 0∧ρ 12=I w.rs.l.length∧ρ 13=I j∧
   ∃x og tk,Acc s.ag.length 2 ((qe w j).map jc) x og tk∧m=s.push ⟨[[NP,.slice .aA 0 []],[OW w,x]],tk⟩)→go AP aji (.c (.loop Kn)::arI) ⟨ρ,m⟩=some (.agg [OW w,bB 2 ((df w).map jc)],s):=by
  refine bA w.rs.l.length _ _ ?_ ?_
  ·rintro j ρ m hj ⟨h0,h2,h3,dZ,QX,x,og,tk,hA,rfl⟩ ih
   obtain⟨x',bQ,tk',cp,di,_⟩:=hA.append hs .full (ys:=[jc (fJ 3 (ep w [] (j:Nat)),true)]) (by simp) (by simp[qe];omega)
   have aQ:=aQ j
   simp only[jc]at cp di aQ
   have ed:=fun q=>ed q j hj
   simp only[uR,Sl.v]at ed cp di aQ
   obtain⟨o',e',r',rfl⟩:=Acc.sl di
   simp only[OW]at h0 ed⊢
   simp only[go_sem,Kn,h0,h3,dZ,QX,hs,aL hj,ed,aQ,cp,bh hj (show(w.rs.l.length:Int)<_ by omega),simprocAttr]
   refine ih _ _ ?_
   refine⟨by simp only[OW];exact h0,h2,h3,dZ,rfl,_,bQ,tk',?_,by simp only[OW];rfl⟩
   rw[ajS,fH]
   exact di
  ·rintro ρ m ⟨h0,h2,h3,dZ,QX,x,og,tk,hA,rfl⟩
   have dc:=hA.yb
   have kG:=hA.close
   obtain⟨o',e',r',rfl⟩:=Acc.sl hA
   simp only[OW]at h0⊢
   simp only[go_sem,Kn,PB,h2,h3,dZ,QX,hs,bg,dc,simprocAttr]
   rfl
 rw[aG (show AP 28=some F9 from rfl) rfl]
 simp only[OW]at key⊢
 simp only[go_sem,Wu,hs,yl,simprocAttr]
 refine key 0 _ _ (aV _) ?_
 exact⟨rfl,rfl,rfl,rfl,rfl,_,none,[],Acc.start,rfl⟩
end
theorem EY {a:Nat} (h:a<2^63):(BitVec.ofInt 64 (a:Int)).toNat=a:=by
 have e:BitVec.ofInt 64 (a:Int)=BitVec.ofNat 64 a:=BitVec.ofInt_natCast ..
 rw[e,BitVec.toNat_ofNat]
 exact DP (UP h (by decide))
theorem MZ:(2:Nat)^63=9223372036854775808:=by decide
theorem Vn {a b:Nat} (ha:a<2^63) (hb:b<2^63):cC .and (I (a:Int)) (I (b:Int))=some (I ((a&&&b:Nat):Int)):=by
 have h:((BitVec.ofInt 64 (a:Int)&&&BitVec.ofInt 64 (b:Int)).toNat:Int)=((a&&&b:Nat):Int):=by rw[BitVec.toNat_and,EY ha,EY hb]
 have hl:(a&&&b)≤a:=Nat.and_le_left
 rw[MZ]at ha
 have hw:IntKind.i64.wrap ((a&&&b:Nat):Int)=((a&&&b:Nat):Int):=bq (by omega) (by omega)
 show Option.map AV.v (some (Value.int IntKind.i64 (IntKind.i64.wrap ((BitVec.ofInt 64 (a:Int)&&&BitVec.ofInt 64 (b:Int)).toNat:Int))))=_
 rw[h,hw];rfl
theorem Vp {a b:Nat} (ha:a<2^63) (hb:b<2^63):cC .or (I (a:Int)) (I (b:Int))=some (I ((a|||b:Nat):Int)):=by
 have h:((BitVec.ofInt 64 (a:Int)|||BitVec.ofInt 64 (b:Int)).toNat:Int)=((a|||b:Nat):Int):=by rw[BitVec.toNat_or,EY ha,EY hb]
 have hl:(a|||b)<2^63:=Nat.or_lt_two_pow ha hb
 rw[MZ]at hl
 have hw:IntKind.i64.wrap ((a|||b:Nat):Int)=((a|||b:Nat):Int):=bq (by omega) (by omega)
 show Option.map AV.v (some (Value.int IntKind.i64 (IntKind.i64.wrap ((BitVec.ofInt 64 (a:Int)|||BitVec.ofInt 64 (b:Int)).toNat:Int))))=_
 rw[h,hw];rfl
theorem Jo {a k:Nat} (hk:k≤64):cC .shr (I (a:Int)) (I (k:Int))=some (I ((a/2^k:Nat):Int)):=by
 have h1:¬((k:Int)<0):=by omega
 have h2:min ((k:Int)).toNat IntKind.i64.bits=k:=by
  rw[pT];exact Nat.min_eq_left hk
 have h3:((a:Int)).fdiv (2^k)=((a/2^k:Nat):Int):=by
  rw[Uh _ (Int.pow_nonneg (by decide))]
  rw[Int.natCast_ediv];simp
 show Option.map AV.v (rN .shr .i64 (a:Int) (k:Int))=_
 unfold rN
 rw[ak h1]
 simp only[h2,h3]
 rfl
theorem Jn {k:Nat} (hk:k≤62):cC .shl (I 1) (I (k:Int))=some (I ((2^k:Nat):Int)):=by
 have h1:¬((k:Int)<0):=by omega
 have h2:min ((k:Int)).toNat IntKind.i64.bits=k:=by
  rw[pT];exact Nat.min_eq_left (by show k≤64;omega)
 have h3:((1:Int)*2^k)=(((2:Nat)^k:Nat):Int):=by simp
 have h4:(2:Nat)^k<9223372036854775808:=by rw[←MZ];exact N1 (by decide) (by omega)
 generalize(2:Nat)^k=q at*
 show Option.map AV.v (rN .shl .i64 1 (k:Int))=_
 unfold rN
 rw[ak h1]
 simp only[h2,h3]
 rw[bq (by omega) (by omega)]
 rfl
theorem Vo {a:Nat} (ha:a<2^63):cC .and (I (a:Int)) (I 1)=some (I ((a%2:Nat):Int)):=by
 have:=Vn (a:=a) (b:=1) ha (by decide)
 rw[Nat.and_one_is_mod]at this;exact this
def pL (m n:Nat):List Int:=((List.range n).filter fun i=>m.testBit i).map fun i:Nat=>(i:Int)
def dy (m:Nat):List Int:=pL m 62
theorem SU {m n:Nat}:pL m (n+1)=pL m n++if m.testBit n=true then[(n:Int)]else[]:=by
 simp only[pL,DI,qN,fH,NH,IW]
 cases m.testBit n<;>simp
theorem SS {m n:Nat}:(pL m n).length≤n:=by
 simp only[pL,cg]
 have:=rW (fun i=>m.testBit i) (List.range n)
 simpa using this
theorem abh {m n k:Nat} (h:m/2^n=0) (hk:n≤k):pL m k=pL m n:=by
 induction k with
 |zero=>have:n=0:=(by omega);subst this;rfl
 | succ k ih =>
  by_cases e:n=k+1
  ·rw[e]
  ·rw[SU,ih (by omega)]
   have aB:m<2^n:=by
    have:=Nat.div_eq_zero_iff.1 h
    rcases this with h|h
    ·exact absurd h (Nat.ne_of_gt (Nat.two_pow_pos n))
    ·exact h
   have:m.testBit k=false:=N3 (pY aB (mb (by decide) (by omega)))
   rw[this];simp
theorem atm {m:Nat} {i:Int} (h:i∈dy m):0≤i∧i<62∧m.testBit i.toNat=true:=by
 obtain⟨k,hk,rfl⟩:=cN.1 h
 obtain⟨h1,h2⟩:=ji.1 hk
 have:=pW.1 h1
 exact⟨by omega,by omega,by simpa using h2⟩
theorem SW {m n:Nat} (h:m<2^n) {i:Int} (hi:i∈dy m):0≤i∧i<n:=by
 obtain⟨h1,_,h2⟩:=atm hi
 refine⟨h1,?_⟩
 apply tj
 intro hc
 have:m.testBit i.toNat=false:=N3 (pY h (mb (by decide) (by omega)))
 rw[this]at h2;cases h2
section
variable{s:ae} {w:W}
theorem axj {r:R} (hs:Ok s) (h1:-1000≤r.lo) (h2:r.lo≤1000) (h3:-1000≤r.hi) (h4:r.hi≤1000) (h5:-1000≤r.len) (h6:r.len≤1000):aw AP (.fn 59) [.agg (aS r)] s=some (B (decide (8<r.hi-r.lo+2-r.len)),s):=by
 rw[aG (show AP 59=some FP from rfl) rfl]
 simp only[go_sem,Wa,bq (x:=r.hi-r.lo) (by omega) (by omega),bq (x:=r.hi-r.lo+2) (by omega) (by omega),bq (x:=r.hi-r.lo+2-r.len) (by omega) (by omega),simprocAttr]
def Ag (w:W):Bool:=decide (w.rs.l.length≤6)&&!w.rs.l.any fun r=>decide (8<r.hi-r.lo+2-r.len)
theorem axi {w:W} (hs:Ok s) (hw:w.Ok) (hf:w.jT):aw AP (.fn 27) [w.v] s=some (.tuple [if(cM w).2.2=0 then OW w else NP,I (if(cM w).2.2=0 then(cond (Ag w) 0 8)else(cM w).2.2)],s):=by
 by_cases he:(cM w).2.2=0
 ·have ho:∀r,aw AP (.fn 32) [w.v] (s.push r)=some (.tuple [OW w,I 0],s.push r):=fun r=>Iq (hs.push r) hw hf he
  have hv:=pR he
  have dw:∀r,aw AP (.fn 60) [.slice w.rs.o w.rs.e (w.rs.l.map aS),.fn 59 [] []] (s.push r)=some (B (w.rs.l.any fun r=>decide (8<r.hi-r.lo+2-r.len)),s.push r):=fun r=>
   azb hw.rs.1 (by have:=hv.rl;omega) fun a ha r q=>by
    have:=hv.r a ha
    have h1:=this.pK
    have h2:=this.CX
    have h3:=this.bH
    have h4:=this.kJ
    have h5:=this.pJ
    have h6:=hv.n2
    exact axj (((hs.push _).push _).push _) (by omega) (by omega) (by omega) (by omega) (by omega) (by omega)
  have h6:decide ((w.rs.l.length:Int)≤6)=decide (w.rs.l.length≤6):=by
   by_cases h:w.rs.l.length≤6
   ·rw[bS h,bS (by omega)]
   ·rw[bX h,bX (by omega)]
  rw[aj he,aj he]
  rw[aG (show AP 27=some Bq from rfl) rfl]
  simp only[W.v,aW,Sl.v]at ho
  simp only[OW]at ho⊢
  simp only[go_sem,Pp,ho,bV,gI,dw,lk,h6,Ag,simprocAttr]
 ·have ho:∀r,aw AP (.fn 32) [w.v] (s.push r)=some (.tuple [NP,I (cM w).2.2],s.push r):=fun r=>Ir (hs.push r) hw hf he
  rw[ak he,ak he]
  rw[aG (show AP 27=some Bq from rfl) rfl]
  simp only[W.v,aW,Sl.v]at ho
  simp only[go_sem,Pp,ho,bV,he,j3,simprocAttr]
theorem ac3 {m:Nat} (hm:m<2^62) (hs:Ok s):aw AP (.fn 96) [I (m:Int)] s=some (bB 1 ((dy m).map aC),s):=by
 have Rz:m<2^63:=UP hm (by decide)
 have key:∀(j:Nat) ρ x,j≤62→(ρ 0=I (m:Int)∧ρ 4=I j∧∃og tk,Acc s.ag.length 1 ((pL m j).map aC) (ρ 3) og tk∧x=s.push ⟨[],tk⟩)→go AP X9 (.c (.loop yH)::aaL) ⟨ρ,x⟩=some (bB 1 ((dy m).map aC),s):=by
  have stop:∀(j:Nat) (ρ:Nat→AV) (x:ae),m/2^j=0→j≤62→(ρ 0=I (m:Int)∧ρ 4=I j∧∃og tk,Acc s.ag.length 1 ((pL m j).map aC) (ρ 3) og tk∧x=s.push ⟨[],tk⟩)→
    go AP X9 (.c yH::.lp yH::aaL) ⟨ρ,x⟩=some (bB 1 ((dy m).map aC),s):=by
   rintro j ρ x h0 hj ⟨g0,g4,og,tk,hA,rfl⟩
   have e:dy m=pL m j:=abh h0 hj
   simp only[go_sem,yH,Pk,g0,g4,Jo (a:=m) (k:=j) (by omega),h0,hA.leave,fY,simprocAttr]
   rw[e]
  refine bA 62 _ _ ?_ ?_
  ·rintro j ρ x hj hP ih
   by_cases h0:m/2^j=0
   ·exact stop j ρ x h0 (by omega) hP
   ·obtain⟨g0,g4,og,tk,hA,rfl⟩:=hP
    have hd:decide ((0:Int)<((m/2^j:Nat):Int))=true:=bS (by generalize m/2^j=q at*;omega)
    have aB:m/2^j<2^63:=Nat.lt_of_le_of_lt (Nat.div_le_self _ _) Rz
    have hand:=Vo (a:=m/2^j) aB
    have hw:=bh hj (show((62:Nat):Int)<_ by decide)
    have ht:decide (((m/2^j%2:Nat):Int)=1)=m.testBit j:=by
     rw[aeZ]
     generalize m/2^j=q at*
     by_cases h:q%2=1
     ·rw[bS h,bS (by omega)]
     ·rw[bX h,bX (by omega)]
    have hl:=SS (m:=m) (n:=j)
    cases hb:m.testBit j with
    |false=>
     rw[hb]at ht
     simp only[go_sem,yH,g0,g4,Jo (a:=m) (k:=j) (by omega),hd,hand,ht,hw,simprocAttr]
     refine ih _ _ ?_
     refine⟨g0,rfl,og,tk,?_,rfl⟩
     rw[SU,hb,ak (by simp),kR];exact hA
    |true=>
     rw[hb]at ht
     obtain⟨x',bQ,tk',cp,di,_⟩:=hA.append hs .full (ys:=[[I (j:Int)]]) (by simp) (by simp;omega)
     simp only[go_sem,yH,g0,g4,Jo (a:=m) (k:=j) (by omega),hd,hand,ht,cp,hw,simprocAttr]
     refine ih _ _ ?_
     refine⟨g0,rfl,bQ,tk',?_,rfl⟩
     rw[SU,hb,aj rfl,fH];exact di
  ·rintro ρ x hP
   exact stop 62 ρ x (NZ hm) (aI _) hP
 rw[aG (show AP 96=some FN from rfl) rfl]
 simp only[go_sem,V9,simprocAttr]
 refine key 0 _ _ (aV _) ?_
 exact⟨rfl,rfl,none,[],Acc.start,rfl⟩
def oq (w:W):List Int→Int
 |[]=>0
 |i::r=>(w.rq i).val+oq w r
theorem adP {w:W}:∀{l r:List Int},oq w (l++r)=oq w l+oq w r
 |[],r=>by simp[oq]
 |i::l,r=>by simp only[fZ,oq,adP];omega
theorem adQ (hw:Wk w):∀{l:List Int},(∀i∈l,0≤i∧i<w.rs.l.length)→0≤oq w l∧oq w l≤100000*l.length
 |[],_=>by simp[oq]
 |i::l,h=>by
  have h1:=adQ hw (l:=l) fun j hj=>h j (cD _ hj)
  have h2:=h i (Ar ..)
  have h3:=hw.rq h2.1 h2.2
  have:=h3.uF
  have:=h3.tc
  simp only[oq,cH];omega
def ou (w:W) (m:Nat):Int:=oq w (dy m)
structure uH (w:W) (e:Nat) (all:List (Sl P×Bool)):Prop where
 e:all=[]∨e=2
 len:all.length=w.rs.l.length
 ok:∀c∈all,c.1.ok 3
 cnt:∀c∈all,c.1.l.length≤13000
 n6:∀c∈all,∀p∈c.1.l,bJ w p
 req:∀(i:Nat) (c:Sl P×Bool),all[i]? =some c→∀p∈c.1.l,p.req=i
theorem abi {m:Nat}:(dy m).length≤62:=SS
theorem ag7 {o:Own} {e:Nat} {all:List (Sl P×Bool)} {m:Nat} (hs:Ok s) (hw:Wk w) (hm:m<2^w.rs.l.length):aw AP (.fn 62) [CH w o e all,I (m:Int)] s=some (I (ou w m),s):=by
 have fV:=hw.v.rl
 have xT:m<2^62:=pY hm (mb (by decide) (by omega))
 have bH:∀i∈dy m,0≤i∧i<w.rs.l.length:=fun i hi=>SW hm hi
 have hml:=abi (m:=m)
 have key:∀(j:Nat) ρ x,j≤(dy m).length→(ρ 2=.ptr s.ag.length 0 0∧ρ 5=I (oq w ((dy m).take j))∧ρ 9=bB 1 ((dy m).map aC)∧ρ 10=I (dy m).length∧ρ 11=I j∧x=s.push ⟨[[OW w,.slice o e (all.map jc)]],[]⟩)→go AP ai1 (.c (.loop JB)::aqJ) ⟨ρ,x⟩=some (I (ou w m),s):=by
  refine bA (dy m).length _ _ ?_ ?_
  ·rintro j ρ x hj ⟨h2,h5,h9,cJ,dh,rfl⟩ ih
   obtain⟨i,hi⟩:=get_some hj
   have zq:=bH i (bE hi)
   have hr:=MF (es:=1) (xs:=(dy m).map aC) (k:=j) (row:=aC i) (by rw[iL,hi];rfl)
   have hb:=adQ hw (l:=(dy m).take j) fun a ha=>bH a (oB ha)
   have hq:=hw.rq zq.1 zq.2
   have q0:=hq.uF
   have q1:=hq.tc
   have hl:((dy m).take j).length≤62:=by rw[ez];omega
   simp only[OW]
   simp only[go_sem,JB,h2,h5,h9,cJ,dh,aL hj,hr,yl,oQ hw zq.1 zq.2,bq (x:=oq w ((dy m).take j)+(w.rq i).val) (by omega) (by omega),bh hj (show((dy m).length:Int)<_ by omega),simprocAttr]
   refine ih _ _ ?_
   refine⟨h2,?_,h9,cJ,rfl,rfl⟩
   rw[du hi,adP];simp[oq,put]
  ·rintro ρ x ⟨h2,h5,h9,cJ,dh,rfl⟩
   rw[er]at h5
   simp only[go_sem,JB,OA,h5,cJ,dh,bg,simprocAttr]
   rfl
 have RA:∀r,aw AP (.fn 96) [I (m:Int)] (s.push r)=some (bB 1 ((dy m).map aC),s.push r):=fun r=>ac3 xT (hs.push r)
 rw[aG (show AP 62=some Fa from rfl) rfl]
 simp only[OW]at key⊢
 simp only[go_sem,VG,RA,simprocAttr]
 refine key 0 _ _ (aV _) ?_
 exact⟨rfl,rfl,rfl,rfl,rfl,rfl⟩
def zY (m:Nat):Nat→List (Sl P×Bool)→Bool
 |_,[]=>true
 |k,c::r=>(c.2||m.testBit k)&&zY m (k+1) r
def Dc (all:List (Sl P×Bool)) (m:Nat):Bool:=zY m 0 all
theorem avf {m k:Nat} {all:List (Sl P×Bool)} {c:Sl P×Bool} (h:all[k]? =some c):zY m k (all.drop k)=((c.2||m.testBit k)&&zY m (k+1) (all.drop (k+1))):=by
 rw[gO h];rfl
theorem ag5 {o:Own} {e:Nat} {all:List (Sl P×Bool)} {m:Nat} (hs:Ok s) (he:all=[]∨e=2) (hl:all.length≤12) (hm:m<2^62):aw AP (.fn 63) [CH w o e all,I (m:Int)] s=some (B (Dc all m),s):=by
 have Rz:m<2^63:=UP hm (by decide)
 have key:∀(j:Nat) ρ x,j≤all.length→(ρ 1=I (m:Int)∧ρ 8=.slice o e (all.map jc)∧ρ 9=I all.length∧ρ 10=I j∧∃bx,x=s.push ⟨bx,[]⟩)→go AP ai0 (.c (.loop Jy)::aqG) ⟨ρ,x⟩=some (B (zY m j (all.drop j)),s):=by
  refine bA all.length _ _ ?_ ?_
  ·rintro j ρ x hj ⟨h1,h8,h9,cJ,bx,rfl⟩ ih
   obtain⟨c,hc⟩:=get_some hj
   have kv:e=2:=by rcases he with h|h;(rw[h]at hc;simp at hc);exact h
   subst kv
   have hr:=cz (f:=jc) (o:=o) (es:=2) hc
   have aB:m/2^j<2^63:=Nat.lt_of_le_of_lt (Nat.div_le_self _ _) Rz
   have ht:decide (((m/2^j%2:Nat):Int)=0)=!m.testBit j:=by
    rw[aeZ]
    generalize m/2^j=q at*
    by_cases h:q%2=1
    ·rw[bS h,bX (by omega)];rfl
    ·rw[bX h,bS (by omega)];rfl
   rw[avf hc]
   simp only[go_sem,Jy,h1,h8,h9,cJ,hs,aL hj,hr,Jo (a:=m) (k:=j) (by omega),Vo aB,ht,bh hj (show(all.length:Int)<_ by omega),simprocAttr]
   cases gZ:c.2<;>cases hb:m.testBit j<;>simp only[go_sem,th,ov,Uf,uJ,simprocAttr]<;>first
    |rfl
    |(refine ih _ _ ?_;exact⟨h1,h8,h9,rfl,_,rfl⟩)
  ·rintro ρ x ⟨h1,h8,h9,cJ,bx,rfl⟩
   simp only[go_sem,Jy,Oy,h9,cJ,bg,simprocAttr]
   rw[fe];rfl
 rw[aG (show AP 63=some E8 from rfl) rfl]
 simp only[CH,OW]
 simp only[go_sem,VF,simprocAttr]
 refine key 0 _ _ (aV _) ?_
 exact⟨rfl,rfl,rfl,rfl,_,rfl⟩
def wo (w:W) (p:P) (l:List P):List P:=l.filter fun x=>!dA w x p
theorem aen {l:List P} {p:P} {o:Own} {e:Nat} (hs:Ok s) (hw:Wk w) (he:l=[]∨e=3) (hl:l.length≤13000) (bH:∀x∈l,bJ w x) (hp:bJ w p):aw AP (.fn 98) [OW w,.slice o e (l.map aq),.agg (aq p)] s=some (bB 3 ((wo w p l).map aq),s):=by
 have key:∀(j:Nat) ρ x,j≤l.length→(ρ 0=OW w∧ρ 5=.ptr s.ag.length 0 0∧ρ 10=.slice o e (l.map aq)∧ρ 11=I l.length∧ρ 12=I j∧∃og tk bx,Acc s.ag.length 3 ((wo w p (l.take j)).map aq) (ρ 7) og tk∧x=s.push ⟨aq p::bx,tk⟩)→go AP ajk (.c (.loop EO)::arO) ⟨ρ,x⟩=some (bB 3 ((wo w p l).map aq),s):=by
  refine bA l.length _ _ ?_ ?_
  ·rintro j ρ x hj ⟨h0,h5,cJ,dh,dZ,og,tk,bx,hA,rfl⟩ ih
   obtain⟨y,hy⟩:=get_some hj
   have sO:=bH y (bE hy)
   have mU:e=3:=by rcases he with h|h;(rw[h]at hy;simp at hy);exact h
   subst mU
   have hr:=cz (f:=aq) (o:=o) (es:=3) hy
   have dw:∀r,aw AP (.fn 109) [OW w,.agg (aq y),.agg (aq p)] (s.push r)=some (B (dA w y p),s.push r):=fun r=>aej (hs.push r) hw sO hp
   have aQ:closeAll (aq y)=some (aq y):=by
    simp only[aq,ie,jW,nC,Sl.close sO.ok];rfl
   have ud:wo w p (l.take (j+1))=wo w p (l.take j)++if dA w y p=true then[]else[y]:=by
    unfold wo
    rw[du hy,qN];cases h:dA w y p<;>simp[h]
   have aU:(wo w p (l.take j)).length≤13000:=by
    have:=rW (fun x=>!dA w x p) (l.take j)
    rw[ez]at this;unfold wo;omega
   simp only[aq,Sl.v]at dw aQ
   cases hc:dA w y p with
   |true=>
    rw[hc]at dw
    simp only[go_sem,EO,h0,h5,cJ,dh,dZ,hs,aL hj,hr,dw,bh hj (show(l.length:Int)<_ by omega),simprocAttr]
    refine ih _ _ ?_
    refine⟨h0,h5,cJ,dh,rfl,og,tk,_,?_,rfl⟩
    rw[ud,hc,aj rfl,kR];exact hA
   |false=>
    rw[hc]at dw
    obtain⟨x',bQ,tk',cp,di,_⟩:=hA.append hs .full (ys:=[aq y]) (by simp) (by simp;omega)
    simp only[aq,Sl.v]at cp
    simp only[go_sem,EO,h0,h5,cJ,dh,dZ,hs,aL hj,hr,dw,aQ,cp,bh hj (show(l.length:Int)<_ by omega),simprocAttr]
    refine ih _ _ ?_
    refine⟨h0,h5,cJ,dh,rfl,bQ,tk',_,?_,rfl⟩
    rw[ud,hc,ak (by simp),fH];exact di
  ·rintro ρ x ⟨h0,h5,cJ,dh,dZ,og,tk,bx,hA,rfl⟩
   rw[er]at hA
   simp only[go_sem,EO,PG,dh,dZ,bg,hA.leave,simprocAttr]
 rw[aG (show AP 98=some Gh from rfl) rfl]
 simp only[go_sem,WB,simprocAttr]
 refine key 0 _ _ (aV _) ?_
 exact⟨rfl,rfl,rfl,rfl,rfl,none,[],[],Acc.start,rfl⟩
theorem axl {p:P} {i:Int} {d b:Nat} (hs:Ok s) (hb:s.box d b=some [I i]):aw AP (.fn 143) [.agg (aq p),.ptr d b 0] s=some (B (decide (p.req=i)),s):=by
 rw[aG (show AP 143=some FT from rfl) rfl]
 simp only[go_sem,Wb,eA hb,simprocAttr]
def iJ (l:List P) (i:Int):Option P:=l.find? fun x=>decide (x.req=i)
def fl:P:=⟨0,0,⟨.aA,0,[]⟩⟩
theorem Ym {α:Type} {p:α→Bool}:∀{l:List α},(l.find? p=none∧eY p l=-1)∨∃(k:Nat) (x:α),l.find? p=some x∧l[k]? =some x∧eY p l=k
 |[]=>.inl ⟨rfl,rfl⟩
 | a :: r => by
  cases h:p a with
  |true=>exact .inr ⟨0,a,by simp[h],rfl,by simp[eY,h]⟩
  |false=>
   rcases Ym (p:=p) (l:=r)with⟨h1,h2⟩|⟨k,x,h1,h2,h3⟩
   ·exact .inl ⟨by simp[h,h1],by simp[eY,h,h2]⟩
   ·exact .inr ⟨k+1,x,by simp[h,h1],by simpa using h2,by simp only[eY,h,h3,ew,eu];rw[ak (by omega)];simp⟩
theorem axk {l:List P} {i:Int} {o:Own} {e:Nat} (hs:Ok s) (he:l=[]∨e=3) (hn:(l.length:Int)<9223372036854775808) (bz:∀p∈l,p.an.ok 1):
  aw AP (.fn 97) [.slice o e (l.map aq),I i] s=some (.tuple [.agg (aq ((iJ l i).getD fl)),B (iJ l i).isSome],s):=by
 have dw:∀b,aw AP (.fn 142) [.slice o e (l.map aq),.fn 143 [] [.ptr s.ag.length 0 0]] (s.push ⟨[I i]::b,[]⟩)=some (I (eY (fun x=>decide (x.req=i)) l),s.push ⟨[I i]::b,[]⟩):=fun b=>
  aex he hn fun a ha r=>axl ((hs.push _).push _) (eA EX _)
 rw[aG (show AP 97=some FQ from rfl) rfl]
 rcases Ym (p:=fun x:P=>decide (x.req=i)) (l:=l)with⟨h1,h2⟩|⟨k,x,h1,h2,h3⟩
 ·rw[h2]at dw
  have hp:iJ l i=none:=h1
  simp only[go_sem,Pr,hs,dw,hp,simprocAttr]
  rfl
 ·rw[h3]at dw
  have hp:iJ l i=some x:=h1
  have hd:decide ((k:Int)<0)=false:=bX (by omega)
  have mU:e=3:=by rcases he with h|h;(rw[h]at h2;simp at h2);exact h
  subst mU
  have hr:=cz (f:=aq) (o:=o) (es:=3) h2
  have dc:=Sl.yb (f:=aC) (m:=s.push ⟨[[I i],aq x],[]⟩) (bz x (bE h2))
  simp only[aq,Sl.v]at dc
  simp only[go_sem,Pr,hs,dw,hp,hd,hr,dc,simprocAttr]
  rfl
def yj (l:List (List P)):Nat→Nat→Nat
 |0,b=>b
 |n+1,b=>let k:=l.length-(n+1);yj l n (if(l.getD k []).length<(l.getD b []).length then k else b)
def fP (l:List (List P)):Nat:=yj l l.length 0
theorem adk {l:List (List P)}:∀{n b:Nat},n≤l.length→b<l.length→yj l n b<l.length
 |0,b,_,hb=>hb
 |n+1,b,hn,hb=>by
  simp only[yj]
  refine adk (by omega) ?_
  split<;>omega
theorem TL {l:List (List P)} (h:l≠[]):fP l<l.length:=adk (aI _) (NO.2 h)
def qc (w:W):Nat→List (List P)→Bool
 |0,_=>true
 |n+1,l=>(l.getD (fP l) []).any fun p=>qc w n ((l.eraseIdx (fP l)).map (wo w p))
def fit (w:W) (l:List (List P)):Bool:=qc w l.length l
abbrev j6 (x:Sl P):List AV:=[x.v aq]
attribute [go_sem] j6
structure Az (w:W) (l:List (Sl P)):Prop where
 len:l.length≤12
 ok:∀x∈l,x.ok 3
 cnt:∀x∈l,x.l.length≤13000
 n6:∀x∈l,∀p∈x.l,bJ w p
theorem getD_map {l:List (Sl P)} {k:Nat} {x:Sl P} (h:l[k]? =some x):(l.map (·.l)).getD k []=x.l:=by
 simp[List.getD,iL,h]
end
theorem aiN {α:Type} {l:List α} {j s:Nat} {x:α} (h:l[j]? =some x):(l.take (j+1)).eraseIdx s=(l.take j).eraseIdx s++if j=s then[]else[x]:=by
 have hj:=(bI.1 h).1
 have hl:(l.take j).length=j:=by rw[ez];omega
 rw[du h]
 by_cases h1:s<j
 ·rw[List.eraseIdx_append_of_lt_length (by omega),ak (by omega)]
 ·rw[List.eraseIdx_append_of_length_le (by omega),hl,List.eraseIdx_of_length_le (l:=l.take j) (by omega)]
  by_cases h2:j=s
  ·subst h2;simp
  ·rw[ak h2]
   obtain⟨d,hd⟩:∃d,s-j=d+1:=⟨s-j-1,by omega⟩
   rw[hd];rfl
theorem aes {w:W} {p:P} {l:List P}:(wo w p l).length≤l.length:=rW _ _
theorem aet {w:W} {p x:P} {l:List P} (h:x∈wo w p l):x∈l:=(ji.1 h).1
def lj (w:W) (p:P) (l:List (Sl P)):List (Sl P):=l.map fun x=>fJ 3 (wo w p x.l)
theorem awF {w:W} {p:P} {l:List (Sl P)}:(lj w p l).map (·.l)=(l.map (·.l)).map (wo w p):=by
 simp[lj,me,Ug]
theorem XV {α β:Type} {f:α→β}:∀{l:List α} {i:Nat},(l.map f).eraseIdx i=(l.eraseIdx i).map f
 |[],_=>rfl
 |a::l,0=>rfl
 |a::l,i+1=>by simp only[fR,List.eraseIdx_cons_succ,XV (l:=l)]
section
variable{s:ae} {w:W}
theorem Az.rest {l:List (Sl P)} {i:Nat} {p:P} (h:Az w l):Az w (lj w p (l.eraseIdx i)):=by
 have hm:∀x∈l.eraseIdx i,x∈l:=fun x hx=>UE hx
 refine⟨?_,fun y hy=>?_,fun y hy=>?_,fun y hy q hq=>?_⟩
 ·have:=aeS l i
  have:=h.len
  simp[lj];omega
 all_goals
  obtain⟨x,hx,rfl⟩:=cN.1 hy
 ·exact wU
 ·rw[me];exact mN aes (h.cnt x (hm x hx))
 ·rw[me]at hq;exact h.n6 x (hm x hx) q (aet hq)
theorem ayS (hw:Wk w):∀(n:Nat) (s:ae) (l:List (Sl P)) (o:Own) (e:Nat),Ok s→l.length=n→(l=[]∨e=1)→Az w l→aw AP (.fn 99) [OW w,.slice o e (l.map j6)] s=some (B (fit w (l.map (·.l))),s):=by
 intro n
 induction n with
 |zero=>
  intro s l o e hs hn he hl
  have:l=[]:=rV hn
  subst this
  rw[aG (show AP 99=some Bs from rfl) rfl]
  simp only[go_sem,Px,fY,simprocAttr]
  rfl
 | succ n HS =>
  intro s l o e hs hn he hl
  have aF:l≠[]:=by intro h;rw[h]at hn;simp at hn
  have lO:e=1:=by rcases he with h|h;exact absurd h aF;exact h
  subst lO
  have hlen:=hl.len
  generalize hL:l.map (·.l)=L
  have LC:L.length=l.length:=by rw[←hL];simp
  have als:L≠[]:=by intro h;rw[h]at LC;simp at LC;omega
  have iH:=TL als
  obtain⟨ys,lb⟩:=get_some (l:=l) (k:=fP L) (by omega)
  have R4:=bE lb
  have hyL:L.getD (fP L) []=ys.l:=by rw[←hL]at*;exact getD_map lb
  have rE:=hl.cnt ys R4
  have hyp:=hl.n6 ys R4
  have CQ:=hl.ok ys R4
  have nJ:fit w L=ys.l.any fun p=>qc w n ((L.eraseIdx (fP L)).map (wo w p)):=by
   unfold fit
   rw[LC,hn,qc,hyL]
  rw[nJ]
  have sU : ∀ (j : Nat) ρ x, j ≤ ys.l.length → (ρ 0 = OW w ∧ ρ 1 = .slice o 1 (l.map j6) ∧ ρ 5 = I (fP L) ∧ ρ 36 = ys.v aq ∧ ρ 37 = I ys.l.length ∧ ρ 38 = I j ∧ ∃ bx tk, x = s.push ⟨bx, tk⟩) →
    go AP Qx (.c (.loop EJ)::arF) ⟨ρ,x⟩=some (B ((ys.l.drop j).any fun p=>qc w n ((L.eraseIdx (fP L)).map (wo w p))),s):=by
   refine bA ys.l.length _ _ ?_ ?_
   ·rintro j ρ x hj ⟨h0,h1,h5,mT,ql,vn,bx,tk,rfl⟩ ih
    obtain⟨p,hp⟩:=get_some hj
    have kY:=hyp p (bE hp)
    have hr:=Sl.ix (f:=aq) CQ hp
    have eD:∀x:Sl P,lj w p [x]=[fJ 3 (wo w p x.l)]:=fun _=>rfl
    have my:∀(q:Nat) ρ x,q≤l.length→(ρ 0=OW w∧ρ 1=.slice o 1 (l.map j6)∧ρ 5=I (fP L)∧ρ 9=.ptr s.ag.length bx.length 0∧ρ 36=ys.v aq∧ρ 37=I ys.l.length∧ρ 38=I j∧ρ 42=.slice o 1 (l.map j6)∧ρ 43=I l.length∧ρ 44=I q∧
      ∃og tk,Acc s.ag.length 1 ((lj w p ((l.take q).eraseIdx (fP L))).map j6) (ρ 10) og tk∧x=s.push ⟨bx++[aq p],tk⟩)→
      go AP Qx (.c (.loop EK)::arG) ⟨ρ,x⟩=some (B ((ys.l.drop j).any fun p=>qc w n ((L.eraseIdx (fP L)).map (wo w p))),s):=by
     refine bA l.length _ _ ?_ ?_
     ·rintro q ρ x hq ⟨h0,h1,h5,h9,mT,ql,vn,kp,mj,oG,og,tk,hA,rfl⟩ eQ
      obtain⟨y,hy⟩:=get_some hq
      have sO:=bE hy
      have hr:=cz (f:=j6) (o:=o) (es:=1) hy
      have vx:=hl.cnt y sO
      have nT:∀r,aw AP (.fn 98) [OW w,.slice y.o y.e (y.l.map aq),.agg (aq p)] (s.push r)=some (bB 3 ((wo w p y.l).map aq),s.push r):=fun r=>aen (hs.push r) hw (hl.ok y sO).1 vx (hl.n6 y sO) kY
      have aQ:=Sl.close (f:=aq) (wU (e:=3) (l:=wo w p y.l))
      have Zk:=aiN (s:=fP L) hy
      have hle:(lj w p ((l.take q).eraseIdx (fP L))).length≤12:=by
       have h1:=aeS (l.take q) (fP L)
       rw[ez]at h1
       simp[lj];omega
      by_cases ZU:q=fP L
      ·have hd:decide ((q:Int)=(fP L:Int))=true:=bS (by omega)
       simp only[go_sem,EK,h5,kp,mj,oG,aL hq,hr,bV,Qn,hd,bh hq (show(l.length:Int)<_ by omega),simprocAttr]
       refine eQ _ _ ?_
       refine⟨h0,h1,h5,h9,mT,ql,vn,kp,mj,rfl,og,tk,?_,rfl⟩
       rw[Zk,aj ZU,kR];exact hA
      ·have hd:decide ((q:Int)=(fP L:Int))=false:=bX (by omega)
       obtain⟨x',bQ,tk',cp,di,_⟩:=hA.append hs .full (ys:=[j6 (fJ 3 (wo w p y.l))]) (by simp) (by simp;omega)
       simp only[j6,uR,Sl.v]at cp nT aQ
       simp only[aq,Sl.v]at nT
       simp only[go_sem,EK,h0,h5,h9,kp,mj,oG,aL hq,hr,bV,Qn,hd,nT,aQ,cp,bh hq (show(l.length:Int)<_ by omega),simprocAttr]
       refine eQ _ _ ?_
       refine⟨h0,h1,h5,h9,mT,ql,vn,kp,mj,rfl,bQ,tk',?_,rfl⟩
       have:lj w p ((l.take q).eraseIdx (fP L)++[y])=lj w p ((l.take q).eraseIdx (fP L))++[fJ 3 (wo w p y.l)]:=by simp[lj]
       rw[Zk,ak ZU,this,fH];exact di
     ·rintro ρ x ⟨h0,h1,h5,h9,mT,ql,vn,kp,mj,oG,og,tk,hA,rfl⟩
      rw[er]at hA
      have anf:Az w (lj w p (l.eraseIdx (fP L))):=hl.rest
      have qt:(lj w p (l.eraseIdx (fP L))).length=n:=by
       simp only[lj,cg]
       rw[NM (by omega)];omega
      obtain⟨o',e',hx,ku⟩:∃o' e',ρ 10=.slice o' e' ((lj w p (l.eraseIdx (fP L))).map j6)∧(lj w p (l.eraseIdx (fP L))=[]∨e'=1):=by
       cases og with
       |none=>obtain⟨h1,h2⟩:=hA;exact⟨_,_,by rw[h2,h1],.inl (by simpa using h1)⟩
       |some g=>exact⟨_,_,hA.2.1,.inr rfl⟩
      have xY:∀r,aw AP (.fn 99) [OW w,.slice o' e' ((lj w p (l.eraseIdx (fP L))).map j6)] (s.push r)=some (B (qc w n ((L.eraseIdx (fP L)).map (wo w p))),s.push r):=fun r=>by
       rw[HS (s.push r) (lj w p (l.eraseIdx (fP L))) o' e' (hs.push r) qt ku anf,fit,awF,←hL,←XV,cg,NM (by rw[hL];omega),cg,hn]
       rfl
      rw[gO hp,ke]
      simp only[go_sem,EK,Pz,Py,h0,mj,oG,vn,bg,hx,xY,simprocAttr]
      cases qc w n ((L.eraseIdx (fP L)).map (wo w p))with
      |true=>simp only[go_sem,simprocAttr];rfl
      |false=>
       simp only[go_sem,bh hj (show(ys.l.length:Int)<_ by omega),simprocAttr]
       refine(ih _ _ ?_).trans (by simp)
       exact⟨h0,h1,h5,mT,ql,rfl,_,_,rfl⟩
    simp only[go_sem,EJ,h1,mT,ql,vn,hs,aL hj,hr,simprocAttr]
    refine my 0 _ _ (aV _) ?_
    exact⟨h0,h1,h5,rfl,mT,ql,vn,rfl,rfl,rfl,none,tk,by rw[show lj w p ((l.take 0).eraseIdx (fP L))=[]by simp[lj]];exact Acc.start,rfl⟩
   ·rintro ρ x ⟨h0,h1,h5,mT,ql,vn,bx,tk,rfl⟩
    simp only[go_sem,EJ,Km,ql,vn,bg,simprocAttr]
    rw[fe];rfl
  have ksh:∀(j:Nat) ρ x,j≤l.length→(ρ 0=OW w∧ρ 1=.slice o 1 (l.map j6)∧ρ 16=.slice o 1 (l.map j6)∧ρ 17=I l.length∧ρ 18=I j∧(∃b:Nat,ρ 5=I b∧b<l.length∧yj L (l.length-j) b=fP L)∧x=s.push ⟨[],[]⟩)→
    go AP Qx (.c (.loop EL)::arH) ⟨ρ,x⟩=some (B (ys.l.any fun p=>qc w n ((L.eraseIdx (fP L)).map (wo w p))),s):=by
   refine bA l.length _ _ ?_ ?_
   ·rintro j ρ x hj ⟨h0,h1,mS,jE,fU,⟨b,h5,hb,uo⟩,rfl⟩ ih
    obtain⟨y,hy⟩:=get_some hj
    obtain⟨z,hz⟩:=get_some hb
    have hr:=cz (f:=j6) (o:=o) (es:=1) hy
    have j0:=cz (f:=j6) (o:=o) (es:=1) hz
    have rk:L.getD j []=y.l:=by rw[←hL];exact getD_map hy
    have hgz:L.getD b []=z.l:=by rw[←hL];exact getD_map hz
    have bu:yj L (l.length-j) b=yj L (l.length-(j+1)) (if y.l.length<z.l.length then j else b):=by
     obtain⟨d,hd⟩:∃d,l.length-j=d+1:=⟨l.length-j-1,by omega⟩
     rw[hd,yj]
     rw[show L.length-(d+1)=j by omega,rk,hgz,show l.length-(j+1)=d by omega]
    rw[bu]at uo
    by_cases aB:y.l.length<z.l.length
    ·have hd:decide ((y.l.length:Int)<(z.l.length:Int))=true:=bS (by omega)
     rw[aj aB]at uo
     simp only[go_sem,EL,h1,h5,mS,jE,fU,aL hj,hr,j0,hd,bh hj (show(l.length:Int)<_ by omega),simprocAttr]
     refine ih _ _ ?_
     exact⟨h0,h1,mS,jE,rfl,⟨j,rfl,hj,uo⟩,rfl⟩
    ·have hd:decide ((y.l.length:Int)<(z.l.length:Int))=false:=bX (by omega)
     rw[ak aB]at uo
     simp only[go_sem,EL,h1,h5,mS,jE,fU,aL hj,hr,j0,hd,bh hj (show(l.length:Int)<_ by omega),simprocAttr]
     refine ih _ _ ?_
     exact⟨h0,h1,mS,jE,rfl,⟨b,h5,hb,uo⟩,rfl⟩
   ·rintro ρ x ⟨h0,h1,mS,jE,fU,⟨b,h5,hb,uo⟩,rfl⟩
    rw[DQ]at uo
    have kt:b=fP L:=uo
    subst kt
    have hr:=cz (f:=j6) (o:=o) (es:=1) lb
    simp only[go_sem,EL,PA,h1,h5,jE,fU,bg,hr,simprocAttr]
    refine sU 0 _ _ (aV _) ?_
    exact⟨h0,h1,h5,rfl,rfl,rfl,[],[],rfl⟩
  have hd:decide ((l.length:Int)=0)=false:=bX (by omega)
  rw[aG (show AP 99=some Bs from rfl) rfl]
  simp only[go_sem,Px,hd,simprocAttr]
  refine ksh 0 _ _ (aV _) ?_
  exact⟨rfl,rfl,rfl,rfl,rfl,⟨0,rfl,by omega,by rw[Nat.sub_zero,←LC];rfl⟩,rfl⟩
instance : Inhabited (Sl P×Bool):=⟨(⟨.aA,0,[]⟩,false)⟩
def l7 (w:W) (plan:List P) (x:Sl P):Sl P:=plan.foldl (fun x p=>fJ 3 (wo w p x.l)) x
def oU (w:W) (all:List (Sl P×Bool)) (plan:List P) (l:List Int):List (Sl P):=(l.filter fun i=>(iJ plan i).isNone).map fun i=>l7 w plan (all.getD i.toNat default).1
def kV (w:W) (all:List (Sl P×Bool)) (plan:List P) (m:Nat):Bool:=fit w ((oU w all plan (dy m)).map (·.l))
theorem ay1 {plan:List P} {x:Sl P} {q:Nat} {p:P} (h:plan[q]? =some p):l7 w (plan.take (q+1)) x=fJ 3 (wo w p (l7 w (plan.take q) x).l):=by
 rw[l7,du h,DD];rfl
theorem T7 {x:Sl P} (hx:x.ok 3) (hc:x.l.length≤13000) (hp:∀p∈x.l,bJ w p):∀{plan:List P},(l7 w plan x).ok 3∧(l7 w plan x).l.length≤13000∧∀p∈(l7 w plan x).l,bJ w p:=by
 intro plan
 induction plan generalizing x with
 |nil=>exact⟨hx,hc,hp⟩
 |cons a r ih=>exact ih (x:=fJ 3 (wo w a x.l)) wU (by rw[me];exact mN aes hc) (fun p h=>by rw[me]at h;exact hp p (aet h))
theorem atW {all:List (Sl P×Bool)} {plan:List P} {l:List Int} {j:Nat} {i:Int} (h:l[j]? =some i):oU w all plan (l.take (j+1))=oU w all plan (l.take j)++if(iJ plan i).isSome=true then[]else[l7 w plan (all.getD i.toNat default).1]:=by
 unfold oU
 rw[du h,qN,fH]
 cases hp:iJ plan i<;>simp[hp]
theorem uH.get {e:Nat} {all:List (Sl P×Bool)} (h:uH w e all) {i:Int} (h0:0≤i) (h1:i<w.rs.l.length):∃c,all[i.toNat]? =some c∧all.getD i.toNat default=c∧c∈all:=by
 have hl:=h.len
 obtain⟨c,hc⟩:=get_some (l:=all) (k:=i.toNat) (by omega)
 exact⟨c,hc,by simp[List.getD,hc],bE hc⟩
theorem W4 {o o2:Own} {e e2:Nat} {all:List (Sl P×Bool)} {plan:List P} {m:Nat} (hs:Ok s) (hw:Wk w) (ij:uH w e all) (hm:m<2^w.rs.l.length) (hp:∀p∈plan,bJ w p) (kv:plan=[]∨e2=3) (ed:plan.length≤14):
  aw AP (.fn 64) [CH w o e all,.slice o2 e2 (plan.map aq),I (m:Int)] s=some (B (kV w all plan m),s):=by
 have fV:=hw.v.rl
 have xT:m<2^62:=pY hm (mb (by decide) (by omega))
 have bH:∀i∈dy m,0≤i∧i<w.rs.l.length:=fun i hi=>SW hm hi
 have hml:=abi (m:=m)
 have anl:∀j,(oU w all plan ((dy m).take j)).length≤62:=fun j=>by
  have:=rW (fun i=>(iJ plan i).isNone) ((dy m).take j)
  rw[ez]at this
  simp only[oU,cg];omega
 have aBh:(dy m).length≤12:=by
  have e:dy m=pL m w.rs.l.length:=abh (NZ hm) (by omega)
  have:=SS (m:=m) (n:=w.rs.l.length)
  rw[e];omega
 have hLs:Az w (oU w all plan (dy m)):=by
  refine⟨?_,?_,?_,?_⟩
  ·have:=rW (fun i=>(iJ plan i).isNone) (dy m)
   simp only[oU,cg];omega
  all_goals
   intro x hx
   obtain⟨i,hi,rfl⟩:=cN.1 hx
   have br:=bH i (ji.1 hi).1
   obtain⟨c,gl,gZ,oH⟩:=ij.get br.1 br.2
   rw[gZ]
   have:=T7 (w:=w) (ij.ok c oH) (ij.cnt c oH) (ij.n6 c oH) (plan:=plan)
  ·exact this.1
  ·exact this.2.1
  ·exact this.2.2
 have sU : ∀ (j : Nat) ρ x, j ≤ (dy m).length → (ρ 1 = .slice o2 e2 (plan.map aq) ∧ ρ 3 = .ptr s.ag.length 0 0 ∧ ρ 16 = bB 1 ((dy m).map aC) ∧ ρ 17 = I (dy m).length ∧ ρ 18 = I j ∧
   ∃og tk bx,Acc s.ag.length 1 ((oU w all plan ((dy m).take j)).map j6) (ρ 7) og tk∧x=s.push ⟨[OW w,.slice o e (all.map jc)]::bx,tk⟩)→go AP XX (.c (.loop AS)::aqE) ⟨ρ,x⟩=some (B (kV w all plan m),s):=by
  refine bA (dy m).length _ _ ?_ ?_
  ·rintro j ρ x hj ⟨h1,h3,mS,jE,fU,og,tk,bx,hA,rfl⟩ ih
   obtain⟨i,hi⟩:=get_some hj
   have zq:=bH i (bE hi)
   have hr:=MF (es:=1) (xs:=(dy m).map aC) (k:=j) (row:=aC i) (by rw[iL,hi];rfl)
   obtain⟨c,gl,gZ,oH⟩:=ij.get zq.1 zq.2
   have ku:e=2:=by rcases ij.e with h|h;(rw[h]at gl;simp at gl);exact h
   subst ku
   have na:=cz (f:=jc) (o:=o) (es:=2) gl
   rw[show((i.toNat:Nat):Int)=i by omega]at na
   have iE:∀r,aw AP (.fn 97) [.slice o2 e2 (plan.map aq),I i] (s.push r)=some (.tuple [.agg (aq ((iJ plan i).getD fl)),B (iJ plan i).isSome],s.push r):=fun r=>axk (hs.push r) kv (by omega) fun p h=>(hp p h).ok
   have CI:=atW (w:=w) (all:=all) (plan:=plan) hi
   rw[gZ]at CI
   have aag:=bh hj (show((dy m).length:Int)<_ by omega)
   simp only[aq,Sl.v]at iE
   cases Mj:(iJ plan i).isSome with
   |true=>
    rw[Mj]at iE
    simp only[go_sem,AS,Jx,h1,mS,jE,fU,hs,aL hj,hr,iE,aag,simprocAttr]
    refine ih _ _ ?_
    refine⟨h1,h3,mS,jE,rfl,og,tk,_,?_,rfl⟩
    rw[CI,Mj,aj rfl,kR];exact hA
   | false =>
    rw[Mj]at iE
    have my:∀(q:Nat) ρ x,q≤plan.length→(ρ 1=.slice o2 e2 (plan.map aq)∧ρ 3=.ptr s.ag.length 0 0∧ρ 12=(l7 w (plan.take q) c.1).v aq∧ρ 16=bB 1 ((dy m).map aC)∧ρ 17=I (dy m).length∧ρ 18=I j∧ρ 35=.slice o2 e2 (plan.map aq)∧ρ 36=I plan.length∧ρ 37=I q∧
      ∃og tk bx,Acc s.ag.length 1 ((oU w all plan ((dy m).take j)).map j6) (ρ 7) og tk∧x=s.push ⟨[OW w,.slice o 2 (all.map jc)]::bx,tk⟩)→go AP XX (.c (.loop Jv)::aqF) ⟨ρ,x⟩=some (B (kV w all plan m),s):=by
     refine bA plan.length _ _ ?_ ?_
     ·rintro q ρ x hq ⟨h1,h3,dZ,mS,jE,fU,qk,mT,ql,og,tk,bx,hA,rfl⟩ eQ
      obtain⟨p,nP⟩:=get_some hq
      have kY:=hp p (bE nP)
      have mU:e2=3:=by rcases kv with h|h;(rw[h]at nP;simp at nP);exact h
      subst mU
      have hr:=cz (f:=aq) (o:=o2) (es:=3) nP
      have aY:=T7 (w:=w) (ij.ok c oH) (ij.cnt c oH) (ij.n6 c oH) (plan:=plan.take q)
      have nT:∀r,aw AP (.fn 98) [OW w,(l7 w (plan.take q) c.1).v aq,.agg (aq p)] (s.push r)=some (bB 3 ((wo w p (l7 w (plan.take q) c.1).l).map aq),s.push r):=fun r=>aen (hs.push r) hw aY.1.1 aY.2.1 aY.2.2 kY
      simp only[aq]at nT
      simp only[go_sem,Jv,h3,dZ,qk,mT,ql,hs,aL hq,hr,nT,bh hq (show(plan.length:Int)<_ by omega),simprocAttr]
      refine eQ _ _ ?_
      refine⟨h1,h3,?_,mS,jE,fU,qk,mT,rfl,og,tk,_,hA,rfl⟩
      rw[ay1 nP,←uR];rfl
     ·rintro ρ x ⟨h1,h3,dZ,mS,jE,fU,qk,mT,ql,og,tk,bx,hA,rfl⟩
      rw[er]at dZ
      have aY:=T7 (w:=w) (ij.ok c oH) (ij.cnt c oH) (ij.n6 c oH) (plan:=plan)
      have aQ:=Sl.close (f:=aq) aY.1
      obtain⟨x',bQ,tk',cp,di,_⟩:=hA.append hs .full (ys:=[j6 (l7 w plan c.1)]) (by simp) (by have:=anl j;simp;omega)
      simp only[j6,Sl.v]at cp dZ aQ
      simp only[go_sem,Jv,Ox,Jx,dZ,fU,mT,ql,bg,aQ,cp,aag,simprocAttr]
      refine ih _ _ ?_
      refine⟨h1,h3,mS,jE,rfl,bQ,tk',_,?_,rfl⟩
      rw[CI,Mj,ak (by simp),fH];exact di
    simp only[go_sem,AS,h1,h3,mS,jE,fU,hs,aL hj,hr,iE,na,simprocAttr]
    refine my 0 _ _ (aV _) ?_
    exact⟨h1,h3,rfl,mS,jE,fU,rfl,rfl,rfl,og,tk,_,hA,rfl⟩
  ·rintro ρ x ⟨h1,h3,mS,jE,fU,og,tk,bx,hA,rfl⟩
   rw[er]at hA
   obtain⟨o',e',hx,ku⟩:∃o' e',ρ 7=.slice o' e' ((oU w all plan (dy m)).map j6)∧(oU w all plan (dy m)=[]∨e'=1):=by
    cases og with
    |none=>obtain⟨h1,h2⟩:=hA;exact⟨_,_,by rw[h2,h1],.inl (by simpa using h1)⟩
    |some g=>exact⟨_,_,hA.2.1,.inr rfl⟩
   have xY:∀r,aw AP (.fn 99) [OW w,.slice o' e' ((oU w all plan (dy m)).map j6)] (s.push r)=some (B (kV w all plan m),s.push r):=fun r=>ayS hw _ _ _ _ _ (hs.push r) rfl ku hLs
   simp only[go_sem,AS,Jw,h3,jE,fU,bg,hx,xY,simprocAttr]
 have RA:∀r,aw AP (.fn 96) [I (m:Int)] (s.push r)=some (bB 1 ((dy m).map aC),s.push r):=fun r=>ac3 xT (hs.push r)
 rw[aG (show AP 64=some E7 from rfl) rfl]
 simp only[CH,OW]at sU⊢
 simp only[go_sem,VE,RA,simprocAttr]
 refine sU 0 _ _ (aV _) ?_
 exact⟨rfl,rfl,rfl,rfl,rfl,none,[],[],Acc.start,rfl⟩
end
end Go.Ax.Sx.Sc
