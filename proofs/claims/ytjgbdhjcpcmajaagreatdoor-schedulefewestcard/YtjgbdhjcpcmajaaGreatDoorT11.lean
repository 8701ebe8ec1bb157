/-
  What a week is among the values that an argument may read as.
-/
import Derived.Test.YtjgbdhjcpcmajaaGreatDoorT8
import Derived.Test.YtjgbdhjcpcmajaaGreatDoorT6
import Derived.Test.YtjgbdhjcpcmajaaGreatDoorT9
import Derived.Test.YtjgbdhjcpcmajaaGreatDoorT10
set_option linter.unusedSimpArgs false
set_option linter.unusedVariables false
set_option maxRecDepth 100000
namespace Go.Ax.Sx.Sc
open Go.Ax
section
variable{P:Program} {d:Nat}
def xN (P:Program) (t:TypeId) (ts:List TypeId):Prop:=∃fs:Array Field,P.underlying t=some (.struct fs)∧fs.toList.map (·.type)=ts
theorem B6 {t:TypeId} {ts:List TypeId} {bO:List AV} (hf:xN P t ts) (h:dW P (d+1) t bO):
  ∃ps:List (List AV),bO=ps.flatten∧ps.length=ts.length∧∀(i:Nat) (u:TypeId) (p:List AV),ts[i]? =some u→ps[i]? =some p→dW P d u p:=by
 obtain⟨fs,hu,rfl⟩:=hf
 obtain⟨ps,h1,h2,h3⟩:=asJ hu h
 refine⟨ps,h1,by simp[h2],fun i u p hi hp=>?_⟩
 rw[je]at hi
 obtain⟨f,hf,rfl⟩:=aU.1 hi
 exact h3 i f p (by simpa using hf) hp
structure xZ (P:Program) (ti ts tg ua lI ta vC tr vF tw:TypeId):Prop where
 i:P.underlying ti=some (.int .i64)
 s:P.underlying ts=some .string
 g:xN P tg [ti,ti]
 gs:P.underlying ua=some (.slice tg)
 gc:P.cellsOf tg=2
 is:P.underlying lI=some (.slice ti)
 ic:P.cellsOf ti=1
 a:xN P ta [ts,ti,ua]
 sa:P.underlying vC=some (.slice ta)
 ac:P.cellsOf ta=3
 r:xN P tr [ts,tg,ti,ti,lI,ti]
 sr:P.underlying vF=some (.slice tr)
 rc:P.cellsOf tr=7
 w:xN P tw [ti,vC,vF]
variable{ti ts tg ua lI ta vC tr vF tw:TypeId}
theorem xu {n:Nat} (h:n≤maxLen):(n:Int)<9223372036854775808:=by unfold maxLen at h;omega
theorem aaD (T:xZ P ti ts tg ua lI ta vC tr vF tw) {bO:List AV} (h:dW P (d+2) tg bO):∃x:Int×Int,bO=gM x∧True:=by
 obtain⟨ps,rfl,hl,hp⟩:=B6 T.g h
 match ps,hl,hp with
 |[p0,p1],_,hp=>
  obtain⟨a,rfl,_⟩:=rj T.i (hp 0 _ p0 rfl rfl)
  obtain⟨b,rfl,_⟩:=rj T.i (hp 1 _ p1 rfl rfl)
  exact⟨(a,b),rfl,trivial⟩
theorem avS {o:Own} {rows:List (List AV)} (h:o=.any∨(o=.aA∧rows=[])):o=.any∨(o=.aA∧rows=[]):=h
theorem asD (T:xZ P ti ts tg ua lI ta vC tr vF tw) {bO:List AV} (h:dW P (d+2) lI bO):∃x:Sl Int,bO=[x.v aD]∧x.ok 1∧(x.l.length:Int)<9223372036854775808:=by
 obtain⟨o,rows,rfl,ho,hlen,qN⟩:=B7 T.is h
 obtain⟨l,rfl,_⟩:=BZ (f:=aD) (g:=fun _=>True) (fun r hr=>by
  obtain⟨x,hx,_⟩:=rj T.i (qN r hr)
  exact⟨x,hx,trivial⟩)
 rw[bY]at hlen
 rw[T.ic]
 refine⟨⟨o,1,l⟩,rfl,?_,xu hlen⟩
 rcases ho with rfl|⟨rfl,h⟩
 ·exact⟨.inr rfl,.inl rfl⟩
 ·exact⟨.inr rfl,.inr (.inr ⟨rfl,Hv.1 (by assumption)⟩)⟩
theorem asI (T:xZ P ti ts tg ua lI ta vC tr vF tw) {bO:List AV} (h:dW P (d+3) ua bO):∃x:Sl (Int×Int),bO=[x.v gM]∧x.ok 2∧(x.l.length:Int)<9223372036854775808:=by
 obtain⟨o,rows,rfl,ho,hlen,qN⟩:=B7 T.gs h
 obtain⟨l,rfl,_⟩:=BZ (f:=gM) (g:=fun _=>True) (fun r hr=>aaD T (qN r hr))
 rw[bY]at hlen
 rw[T.gc]
 refine⟨⟨o,2,l⟩,rfl,?_,xu hlen⟩
 rcases ho with rfl|⟨rfl,h⟩
 ·exact⟨.inr rfl,.inl rfl⟩
 ·exact⟨.inr rfl,.inr (.inr ⟨rfl,Hv.1 (by assumption)⟩)⟩
theorem asC (T:xZ P ti ts tg ua lI ta vC tr vF tw) {bO:List AV} (h:dW P (d+4) ta bO):
  ∃a:A,bO=bZ a∧(a.cl.ok 2∧(a.name.size:Int)<9223372036854775808∧(a.cl.l.length:Int)<9223372036854775808):=by
 obtain⟨ps,rfl,hl,hp⟩:=B6 T.a h
 match ps,hl,hp with
 |[p0,p1,p2],_,hp=>
  obtain⟨n,rfl,hn⟩:=aaE T.s (hp 0 _ p0 rfl rfl)
  obtain⟨b,rfl,_⟩:=rj T.i (hp 1 _ p1 rfl rfl)
  obtain⟨c,rfl,hc,aT⟩:=asI T (hp 2 _ p2 rfl rfl)
  exact⟨⟨n,b,c⟩,rfl,hc,xu hn,aT⟩
theorem asH (T:xZ P ti ts tg ua lI ta vC tr vF tw) {bO:List AV} (h:dW P (d+4) tr bO):
  ∃r:R,bO=bU r∧(r.an.ok 1∧(r.bw.size:Int)<9223372036854775808∧(r.an.l.length:Int)<9223372036854775808):=by
 obtain⟨ps,rfl,hl,hp⟩:=B6 T.r h
 match ps,hl,hp with
 |[p0,p1,p2,p3,p4,p5],_,hp=>
  obtain⟨n,rfl,hn⟩:=aaE T.s (hp 0 _ p0 rfl rfl)
  obtain⟨g,rfl,_⟩:=aaD T (hp 1 _ p1 rfl rfl)
  obtain⟨b,rfl,_⟩:=rj T.i (hp 2 _ p2 rfl rfl)
  obtain⟨c,rfl,_⟩:=rj T.i (hp 3 _ p3 rfl rfl)
  obtain⟨x,rfl,hx,Bw⟩:=asD T (hp 4 _ p4 rfl rfl)
  obtain⟨e,rfl,_⟩:=rj T.i (hp 5 _ p5 rfl rfl)
  exact⟨⟨n,g.1,g.2,b,c,x,e⟩,rfl,hx,xu hn,Bw⟩
theorem asK (T:xZ P ti ts tg ua lI ta vC tr vF tw) {bO:List AV} (h:dW P (d+6) tw bO):∃w:W,AV.agg bO=w.v∧w.Ok∧w.Hh:=by
 obtain⟨ps,rfl,hl,hp⟩:=B6 T.w h
 match ps,hl,hp with
 | [p0, p1, p2], _, hp =>
  obtain⟨n,rfl,_⟩:=rj T.i (hp 0 _ p0 rfl rfl)
  obtain⟨o1,r1,rfl,ho1,oW,fG⟩:=B7 T.sa (hp 1 _ p1 rfl rfl)
  obtain⟨o2,r2,rfl,Pf,oX,gA⟩:=B7 T.sr (hp 2 _ p2 rfl rfl)
  obtain⟨as,rfl,has⟩:=BZ (fun r hr=>asC T (fG r hr))
  obtain⟨rs,rfl,fQ⟩:=BZ (fun r hr=>asH T (gA r hr))
  rw[bY]at oW oX
  rw[T.ac,T.rc]
  refine⟨⟨n,⟨o1,3,as⟩,⟨o2,7,rs⟩⟩,rfl,⟨?_,fun a ha=>(has a ha).1,?_,fun r hr=>(fQ r hr).1⟩,⟨xu oW,xu oX,fun a ha=>(has a ha).2.1,fun a ha=>(has a ha).2.2,fun r hr=>(fQ r hr).2.1,fun r hr=>(fQ r hr).2.2⟩⟩
  ·rcases ho1 with rfl|⟨rfl,h⟩
   ·exact⟨.inr rfl,.inl rfl⟩
   ·exact⟨.inr rfl,.inr (.inr ⟨rfl,Hv.1 (by assumption)⟩)⟩
  ·rcases Pf with rfl|⟨rfl,h⟩
   ·exact⟨.inr rfl,.inl rfl⟩
   ·exact⟨.inr rfl,.inr (.inr ⟨rfl,Hv.1 (by assumption)⟩)⟩
end
end Go.Ax.Sx.Sc
/-
  What a plan is among the values that an argument may read as.
-/
namespace Go.Ax.Sx.Sc
open Go.Ax
section
variable{P:Program} {d:Nat} {ti lI tp vE:TypeId}
structure Ct (P:Program) (ti lI tp vE:TypeId):Prop where
 i:P.underlying ti=some (.int .i64)
 ic:P.cellsOf ti=1
 is:P.underlying lI=some (.slice ti)
 p:xN P tp [ti,ti,lI]
 ps:P.underlying vE=some (.slice tp)
 pc:P.cellsOf tp=3
theorem asE (T:Ct P ti lI tp vE) {bO:List AV} (h:dW P (d+2) lI bO):∃x:Sl Int,bO=[x.v aD]∧x.ok 1∧(x.l.length:Int)<9223372036854775808:=by
 obtain⟨o,rows,rfl,ho,hlen,qN⟩:=B7 T.is h
 obtain⟨l,rfl,_⟩:=BZ (f:=aD) (g:=fun _=>True) (fun r hr=>by
  obtain⟨x,hx,_⟩:=rj T.i (qN r hr)
  exact⟨x,hx,trivial⟩)
 rw[bY]at hlen
 rw[T.ic]
 refine⟨⟨o,1,l⟩,rfl,?_,xu hlen⟩
 rcases ho with rfl|⟨rfl,h⟩
 ·exact⟨.inr rfl,.inl rfl⟩
 ·exact⟨.inr rfl,.inr (.inr ⟨rfl,Hv.1 (by assumption)⟩)⟩
theorem asG (T:Ct P ti lI tp vE) {bO:List AV} (h:dW P (d+4) tp bO):∃p:Sc.P,bO=aj p∧(p.an.ok 1∧(p.an.l.length:Int)<9223372036854775808):=by
 obtain⟨ps,rfl,hl,hp⟩:=B6 T.p h
 match ps,hl,hp with
 |[p0,p1,p2],_,hp=>
  obtain⟨a,rfl,_⟩:=rj T.i (hp 0 _ p0 rfl rfl)
  obtain⟨b,rfl,_⟩:=rj T.i (hp 1 _ p1 rfl rfl)
  obtain⟨x,rfl,hx,Bw⟩:=asE T (hp 2 _ p2 rfl rfl)
  exact⟨⟨a,b,x⟩,rfl,hx,Bw⟩
theorem aaC (T:Ct P ti lI tp vE) {bO:List AV} (h:dW P (d+5) vE bO):∃(l:List Sc.P) (o:Own) (e:Nat),bO=[.slice o e (l.map aj)]∧e=3∧xX l:=by
 obtain⟨o,rows,rfl,ho,hlen,qN⟩:=B7 T.ps h
 obtain⟨l,rfl,hr⟩:=BZ (fun r hr=>asG T (qN r hr))
 rw[bY]at hlen
 rw[T.pc]
 exact⟨l,o,3,rfl,rfl,⟨xu hlen,fun p hp=>(hr p hp).1,fun p hp=>(hr p hp).2⟩⟩
theorem asF (T:Ct P ti lI tp vE) {tpp:TypeId} (hf:xN P tpp [vE,vE]) {bO:List AV} (h:dW P (d+6) tpp bO):
  ∃(a b:List Sc.P) (o1 o2:Own),AV.agg bO=.agg [.slice o1 3 (a.map aj),.slice o2 3 (b.map aj)]∧xX a∧xX b:=by
 obtain⟨ps,rfl,hl,hp⟩:=B6 hf h
 match ps,hl,hp with
 |[p0,p1],_,hp=>
  obtain⟨a,o1,e1,rfl,rfl,ha⟩:=aaC T (hp 0 _ p0 rfl rfl)
  obtain⟨b,o2,e2,rfl,rfl,hb⟩:=aaC T (hp 1 _ p1 rfl rfl)
  exact⟨a,b,o1,o2,rfl,ha,hb⟩
end
end Go.Ax.Sx.Sc
