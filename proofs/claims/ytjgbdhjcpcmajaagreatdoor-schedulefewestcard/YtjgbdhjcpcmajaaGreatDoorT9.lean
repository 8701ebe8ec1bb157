/- A part of the proof. -/
import Derived.Test.YtjgbdhjcpcmajaaGreatDoorT8
import Derived.Test.YtjgbdhjcpcmajaaGreatDoorT7
set_option linter.unusedSimpArgs false
set_option linter.unusedVariables false
set_option maxRecDepth 100000
namespace Go.Ax.Sx.Sc
open Go.Ax
section
variable{s:ae} {w:W}
theorem aoC {r:Rec} {q:Nat} {g:Bool} {n b off:Nat}:xq (s.push r) q g n (.ptr s.ag.length b off)=if r.boxes.length≤b+q then none else(s.push r).load g n (.ptr s.ag.length b off):=by
 unfold xq
 simp only[fD,xw,K9]
theorem aoB {m:ae} {q:Nat} {g:Bool} {n off:Nat} {cs:List AV}:xq m q g n (.bq cs off)=m.load g n (.bq cs off):=rfl
theorem agc {r:Rec} {k n b off:Nat} {y:AV}:yD (s.push r) k n (.ptr s.ag.length b off) y=if b=r.boxes.length-k∧0<k then(s.push r).store n (.ptr s.ag.length b off) y else none:=by
 unfold yD
 simp only[fD,xw,K9]
attribute [go_sem] aoC aoB agc
theorem apn {β:Type} {f:Bool→β} {d:β}:lC AV.undef f d=d:=rfl
attribute [go_sem] apn
theorem Z5:List.replicate 2 ([]:List AV)=[[],[]]:=rfl
theorem aaJ {a b c r:List AV} {z:AV}:K6 [a,b,c,[],[]] [] 2 (z::r)=some (3,[a,b,c,z::r,[]]):=rfl
theorem aaI {a b c x r:List AV} {z:AV}:K6 [a,b,c,x,[]] [] 1 (z::r)=some (4,[a,b,c,x,z::r]):=rfl
theorem Tc {l:List Int} {o:Own} {e:Nat} {n:Int} (he:l=[]∨e=1) (hl:(l.length:Int)<9223372036854775808):
  aw AP (.fn 82) [.slice o e (l.map aD),I n] s=some (B (l.any fun m=>decide (m=n)),s):=by
 have key:∀(k:Nat) ρ m,k≤l.length→(ρ 0=.slice o e (l.map aD)∧ρ 1=I n∧ρ 5=I k∧m=s.push ⟨[],[]⟩)→go AP afu (.c (.loop CM)::amy) ⟨ρ,m⟩=some (B ((l.drop k).any fun m=>decide (m=n)),s):=by
  refine ck l.length _ _ ?_ ?_
  ·rintro k ρ m hk ⟨h0,h1,h5,rfl⟩ ih
   obtain⟨a,ha⟩:=get_some hk
   have he:e=1:=by rcases he with h|h;(rw[h]at ha;simp at ha);exact h
   subst he
   have hr:=cq (o:=o) (es:=1) (f:=aD) ha
   rw[eP ha,oz]
   cases hd:decide (a=n)with
   |true=>simp only[go_sem,CM,h0,h1,h5,aS hk,hr,hd,simprocAttr];rfl
   |false=>
    simp only[go_sem,CM,h0,h1,h5,aS hk,hr,hd,bK hk hl,simprocAttr]
    rw[mV];exact ih _ _ ⟨h0,h1,rfl,rfl⟩
  ·rintro ρ m ⟨h0,h1,h5,rfl⟩
   simp only[go_sem,CM,Ma,h0,h5,bM,simprocAttr]
   rw[eR];rfl
 rw[aL (show AP 82=some DH from rfl) rfl]
 simp only[go_sem,Tf,simprocAttr]
 exact key 0 _ _ (bg _) ⟨rfl,rfl,rfl,rfl⟩
theorem ary {a:A} {t:Int} (hs:Ok s) (he:a.cl.l=[]∨a.cl.e=2) (hl:(a.cl.l.length:Int)<9223372036854775808):
  aw AP (.fn 97) [.agg (bZ a),I t] s=some (B (isClosed a t),s):=by
 obtain⟨name,ja,⟨o,e,l⟩⟩:=a
 simp only at he hl
 have key:∀(k:Nat) ρ m,k≤l.length→(ρ 1=I t∧ρ 2=.ptr s.ag.length 0 0∧ρ 5=I k∧m=s.push ⟨[[S name,I ja,.slice o e (l.map gM)]],[]⟩)→go AP afH (.c (.loop C9)::am6) ⟨ρ,m⟩=some (B ((l.drop k).any fun p=>wi t p.1 p.2),s):=by
  refine ck l.length _ _ ?_ ?_
  ·rintro k ρ m hk ⟨h1,h2,h5,rfl⟩ ih
   obtain⟨a,ha⟩:=get_some hk
   have he:e=2:=by rcases he with h|h;(rw[h]at ha;simp at ha);exact h
   subst he
   have hr:=cq (o:=o) (es:=2) (f:=gM) ha
   rw[eP ha,oz]
   cases hd:wi t a.1 a.2 with
   |true=>simp only[go_sem,C9,h1,h2,h5,aS hk,hr,fW,hd,simprocAttr];rfl
   |false=>
    simp only[go_sem,C9,h1,h2,h5,aS hk,hr,fW,hd,bK hk hl,simprocAttr]
    rw[mV];exact ih _ _ ⟨h1,h2,rfl,rfl⟩
  ·rintro ρ m ⟨h1,h2,h5,rfl⟩
   simp only[go_sem,C9,MF,h2,h5,bM,simprocAttr]
   rw[eR];rfl
 rw[aL (show AP 97=some D8 from rfl) rfl]
 simp only[go_sem,TB,simprocAttr]
 exact key 0 _ _ (bg _) ⟨rfl,rfl,rfl,rfl⟩
theorem ach {f:Nat→Bool} {k m:Nat} (h:k<m):((List.range m).drop k).any f=(f k||((List.range m).drop (k+1)).any f):=by
 rw[eP (x:=k) (by simp[h]),oz]
theorem ZW {p:P} (hs:Ok s) (hw:Wk w) (hp:ch w p):aw AP (.fn 79) [w.v,.agg (aj p)] s=some (B (p.an.l.any fun a=>!cS w a p.start (w.rq p.req).len),s):=by
 have hlen:=hw.len hp.r0 hp.r1
 have hs0:=hp.s0
 have qO:=hp.s1
 have fQ:=qU hw hp.r0 hp.r1
 have cD:=hp.len
 have jk:=hp.ok.1
 have Xv:=hp.an
 generalize hq:w.rq p.req=q at*
 obtain⟨req,st,⟨o,e,l⟩⟩:=p
 simp only at hlen hs0 qO fQ cD jk Xv
 have hm:((q.len.toNat:Nat):Int)=q.len:=by omega
 have key : ∀ (k : Nat) ρ m, k ≤ l.length → (ρ 2 = .ptr s.ag.length 0 0 ∧ ρ 3 = .ptr s.ag.length 1 0 ∧ ρ 5 = I k ∧ m = s.push ⟨[c8 w, [I req, I st, .slice o e (l.map aD)]], []⟩) →
   go AP VM (.c (.loop Db)::am9) ⟨ρ,m⟩=some (B ((l.drop k).any fun a=>!cS w a st q.len),s):=by
  refine ck l.length _ _ ?_ ?_
  ·rintro k ρ m hk ⟨h2,h3,h5,rfl⟩ ih
   obtain⟨a,ha⟩:=get_some hk
   have he:e=1:=by rcases jk with h|h;(rw[h]at ha;simp at ha);exact h
   subst he
   have hr:=cq (o:=o) (es:=1) (f:=aD) ha
   obtain⟨rQ,cQ⟩:=Xv a (bQ ha)
   obtain⟨x,hx,_,cr⟩:=Ky hw rQ cQ
   have fH:=bQ hx
   have aT:∀r t,aw AP (.fn 97) [.agg (bZ x),I t] (s.push r)=some (B (isClosed x t),s.push r):=fun r t=>ary (hs.push r) (hw.ok.cl x fH).1 (by have:=(hw.v.a x fH).UW;omega)
   have cd:(!cS w a st q.len)=(List.range q.len.toNat).any fun t=>isClosed x (st+t):=by
    unfold cS;rw[hx];simp
   have inner:∀(j:Nat) ρ m,j≤q.len.toNat→(ρ 2=.ptr s.ag.length 0 0∧ρ 3=.ptr s.ag.length 1 0∧ρ 5=I k∧ρ 6=I j∧m=s.push ⟨[c8 w,[I req,I st,.slice o 1 (l.map aD)]],[]⟩)→
     go AP VM (.c (.loop Dc)::ana) ⟨ρ,m⟩=some (B ((((List.range q.len.toNat).drop j).any fun t=>isClosed x (st+t))||((l.drop (k+1)).any fun a=>!cS w a st q.len)),s):=by
    refine ck q.len.toNat _ _ ?_ ?_
    ·rintro j ρ m hj ⟨g2,g3,g5,g6,rfl⟩ fI
     have dH:decide ((j:Int)<q.len)=true:=by simp;omega
     rw[ach hj]
     have Kl:IntKind.i64.wrap (st+(j:Int))=st+j:=bW (by omega) (by omega)
     simp only[bZ,Sl.v]at aT cr
     simp only[bU,Sl.v]at fQ
     cases hd:isClosed x (st+j)with
     |true=>simp only[go_sem,Dc,g2,g3,g5,g6,fQ,dH,hr,cr,aT,Kl,hd,simprocAttr];rfl
     |false=>
      simp only[go_sem,Dc,g2,g3,g5,g6,fQ,dH,hr,cr,aT,Kl,hd,bK hj (show((q.len.toNat:Nat):Int)<_ by omega),simprocAttr]
      rw[mV]
      exact fI _ _ ⟨g2,g3,g5,rfl,rfl⟩
    ·rintro ρ m ⟨g2,g3,g5,g6,rfl⟩
     have dH:decide (((q.len.toNat:Nat):Int)<q.len)=false:=by simp;omega
     simp only[bU,Sl.v]at fQ
     simp only[go_sem,Dc,MI,g2,g3,g5,g6,fQ,dH,bK hk cD,simprocAttr]
     rw[zN (by simp),List.any_nil,mV]
     exact ih _ _ ⟨g2,g3,rfl,rfl⟩
   rw[eP ha,oz,cd]
   simp only[go_sem,Db,h3,h5,aS hk,simprocAttr]
   refine ui (inner 0 _ _ (bg _) ?_) ?_
   ·exact⟨h2,h3,h5,rfl,rfl⟩
   ·rw[kt]
  ·rintro ρ m ⟨h2,h3,h5,rfl⟩
   simp only[go_sem,Db,Ir,h3,h5,bM,simprocAttr]
   rw[eR];rfl
 rw[aL (show AP 79=some Ec from rfl) rfl]
 simp only[go_sem,TC,simprocAttr]
 exact key 0 _ _ (bg _) ⟨rfl,rfl,rfl,rfl⟩
theorem arl {a b:P} (hs:Ok s) (hw:Wk w) (ha:ch w a) (hb:ch w b):aw AP (.fn 83) [w.v,.agg (aj a),.agg (aj b)] s=some (B (dE w a b),s):=by
 have Bk:∀{a b:P},ch w a→ch w b→IntKind.i64.wrap (IntKind.i64.wrap (b.start-a.start)-(w.rq a.req).len)=b.start-lN w a:=by
  intro a b ha hb
  have hl:=hw.len ha.r0 ha.r1
  have h3:=hb.s0
  have h4:=hb.s1
  have h5:=ha.s0
  have h6:=ha.s1
  unfold lN
  rw[bW (x:=b.start-a.start) (by omega) (by omega),bW (by omega) (by omega)];omega
 have key : ∀ (a b : P), ch w a → ch w b → ∀ (k : Nat) ρ m, k ≤ a.an.l.length → (ρ 3 = .ptr s.ag.length 0 0 ∧ ρ 4 = .ptr s.ag.length 1 0 ∧ ρ 5 = .ptr s.ag.length 2 0 ∧ ρ 7 = .ptr s.ag.length 3 0 ∧ ρ 8 = .ptr s.ag.length 4 0 ∧ ρ 9 = I (b.start - lN w a) ∧ ρ 10 = I k ∧ m = s.push ⟨[c8 w, aj a, aj b, bU (w.rq a.req), bU (w.rq b.req)], []⟩) →
   go AP afA (.c (.loop wa)::amR) ⟨ρ,m⟩=some (B ((a.an.l.drop k).any fun n=>(b.an.l.any fun m=>decide (n=m))&&decide (b.start-lN w a<(if(w.rq a.req).bw=(w.rq b.req).bw then 0 else w.py n))),s):=by
  intro a b ha hb
  refine ck a.an.l.length _ _ ?_ ?_
  ·rintro k ρ m hk ⟨h3,h4,h5,h7,h8,h9,dh,rfl⟩ ih
   obtain⟨n,hn⟩:=get_some hk
   obtain⟨fq,F6⟩:=ha.an n (bQ hn)
   obtain⟨x,hx,cp,cr⟩:=Ky hw fq F6
   have qP:=hw.py fq F6
   have hr:=Sl.ix (f:=aD) ha.ok hn
   have hh:∀r,aw AP (.fn 82) [.slice b.an.o b.an.e (b.an.l.map aD),I n] (s.push r)=some (B (b.an.l.any fun m=>decide (m=n)),s.push r):=fun r=>Tc hb.ok.1 hb.len
   have aj7:(b.an.l.any fun m=>decide (n=m))=b.an.l.any fun m=>decide (m=n):=by
    congr 1;funext m;exact Vi eq_comm
   rw[eP hn,oz,aj7]
   simp only[bZ,Sl.v]at cr
   generalize((a.an.l.drop (k+1)).any fun n=>(b.an.l.any fun m=>decide (n=m))&&decide (b.start-lN w a<(if(w.rq a.req).bw=(w.rq b.req).bw then 0 else w.py n)))=R at*
   generalize b.start-lN w a=t at*
   generalize(b.an.l.any fun m=>decide (m=n))=has at*
   rw[cp]at qP⊢
   cases has with
   |false=>
    simp only[go_sem,wa,h4,h5,dh,aS hk,hr,hh,bK hk ha.len,simprocAttr]
    rw[jL,mV]
    refine ih _ _ ?_
    exact⟨h3,h4,h5,h7,h8,h9,rfl,rfl⟩
   | true =>
    rw[iq]
    by_cases ht:t<0
    ·have:decide (t<(if(w.rq a.req).bw=(w.rq b.req).bw then 0 else x.ja))=true:=bP (by split<;>omega)
     rw[this,xJ]
     simp only[go_sem,wa,h4,h5,h9,dh,aS hk,hr,hh,ht,simprocAttr]
    ·by_cases hm:(w.rq a.req).bw=(w.rq b.req).bw
     ·rw[ak hm,bS ht,mV]
      have lk:decide (¬(w.rq a.req).bw=(w.rq b.req).bw)=false:=by simp[hm]
      simp only[go_sem,wa,h4,h5,h7,h8,h9,dh,aS hk,hr,hh,bK hk ha.len,ht,lk,aY,simprocAttr]
      refine ih _ _ ?_
      exact⟨h3,h4,h5,h7,h8,h9,rfl,rfl⟩
     ·rw[aq hm]
      have lk:decide (¬(w.rq a.req).bw=(w.rq b.req).bw)=true:=by simp[hm]
      by_cases dZ:t<x.ja
      ·rw[bP dZ,xJ]
       simp only[go_sem,wa,h3,h4,h5,h7,h8,h9,dh,aS hk,hr,hh,cr,ht,lk,dZ,aY,simprocAttr]
      ·rw[bS dZ,mV]
       simp only[go_sem,wa,h3,h4,h5,h7,h8,h9,dh,aS hk,hr,hh,cr,bK hk ha.len,ht,lk,dZ,aY,simprocAttr]
       refine ih _ _ ?_
       exact⟨h3,h4,h5,h7,h8,h9,rfl,rfl⟩
  ·rintro ρ m ⟨h3,h4,h5,h7,h8,h9,dh,rfl⟩
   simp only[go_sem,wa,Mq,h4,dh,bM,simprocAttr]
   rw[eR];rfl
 rw[aL (show AP 83=some DY from rfl) rfl]
 unfold dE uG
 have ra:=qU hw ha.r0 ha.r1
 have rb:=qU hw hb.r0 hb.r1
 simp only[bU,Sl.v]at ra rb
 by_cases h1:a.req=b.req
 ·simp only[go_sem,Ie,h1,simprocAttr]
 ·rw[aq h1]
  by_cases h2:b.start<a.start
  ·rw[ak h2]
   simp only[go_sem,Ie,hs,ra,rb,h1,h2,Z5,aaJ,aaI,dO,iK,Nat.reduceLeDiff,na,Nat.lt_add_one,Nat.reduceLT,Nat.reduceEqDiff,Bk hb ha,simprocAttr]
   refine key b a hb ha 0 _ _ (bg _) ?_
   exact⟨rfl,rfl,rfl,rfl,rfl,rfl,rfl,rfl⟩
  ·rw[aq h2]
   simp only[go_sem,Ie,hs,ra,rb,h1,h2,Z5,aaJ,aaI,dO,iK,Nat.reduceLeDiff,na,Nat.lt_add_one,Nat.reduceLT,Nat.reduceEqDiff,Bk ha hb,simprocAttr]
   refine key a b ha hb 0 _ _ (bg _) ?_
   exact⟨rfl,rfl,rfl,rfl,rfl,rfl,rfl,rfl⟩
end
section
variable{s:ae} {w:W}
theorem ace {l r:List Int}:(l.any fun n=>r.any fun m=>decide (n=m))=r.any fun n=>l.any fun m=>decide (n=m):=by
 rw[vI]
 simp only[fK,dY]
 constructor
 ·rintro⟨x,hx,y,hy,rfl⟩;exact⟨x,hy,x,hx,rfl⟩
 ·rintro⟨x,hx,y,hy,rfl⟩;exact⟨x,hy,x,hx,rfl⟩
theorem UT (hw:Wk w) {a b:P} (ha:ch w a) (h:a.start=b.start):uG w a b=a.an.l.any fun n=>b.an.l.any fun m=>decide (n=m):=by
 have hl:=hw.len ha.r0 ha.r1
 unfold uG
 rw[vI]
 simp only[fK,dB,dY]
 constructor
 ·rintro⟨x,hx,h1,_⟩;exact⟨x,hx,h1⟩
 ·rintro⟨x,hx,h1⟩
  refine⟨x,hx,h1,?_⟩
  have:=hw.py (ha.an x hx).1 (ha.an x hx).2
  unfold lN
  split<;>omega
theorem Fi (hw:Wk w) {a b:P} (ha:ch w a) (hb:ch w b):dE w a b=dE w b a:=by
 unfold dE
 by_cases h1:a.req=b.req
 ·rw[ak h1,ak (sR h1)]
 ·rw[aq h1,aq (show¬b.req=a.req from fun e=>h1 (sR e))]
  by_cases h2:b.start<a.start
  ·rw[ak h2,aq (by omega)]
  ·rw[aq h2]
   by_cases h3:a.start<b.start
   ·rw[ak h3]
   ·rw[aq h3,UT hw ha (by omega),UT hw hb (by omega),ace]
theorem acg {l:List Int} {a:Int}:(l.any fun m=>decide (m=a))=l.any fun b=>decide (a=b):=by
 congr 1;funext m;exact Vi eq_comm
def sI (l:List Int):Nat→Int
 |0=>-1
 |k+1=>l.getD k 0
theorem Yn {l:List P} {i:Nat} {x:P} (h:l[i]? =some x):ie (l.take (i+1))=x.req:=by
 rw[fT h];unfold ie;simp
theorem arz {l:List P} {o:Own} {e i:Nat} {p:P} (hs:Ok s) (hw:Wk w) (he:l=[]∨e=3) (hn:(l.length:Int)<1000000) (hi:l[i]? =some p) (dI:p.an.ok 1) (cD:(p.an.l.length:Int)<1000000) (hl:∀x∈l.take i,ch w x):
  aw AP (.fn 51) [w.v,.slice o e (l.map aj),I i] s=some (I (dN w p (l.take i)),s):=by
 have sf:i<l.length:=(bd.1 hi).1
 have he:e=3:=by rcases he with h|h;(rw[h]at hi;simp at hi);exact h
 subst he
 have cr:=cq (f:=aj) (o:=o) (es:=3) hi
 have er:=hw.v.rl
 have iD:=hw.v.n2
 rw[aL (show AP 51=some Ea from rfl) rfl]
 unfold dN
 have nE:IntKind.i64.wrap ((w.rs.l.length:Int)-1)=(w.rs.l.length:Int)-1:=bW (by omega) (by omega)
 cases h1:wi p.req 0 (w.rs.l.length-1)with
 |false=>simp only[go_sem,uz,hs,cr,fW,nE,h1,ef,simprocAttr]
 | true =>
  rw[ak rfl]
  obtain⟨jl,fG⟩:=iJ.1 h1
  have zh:p.req<w.rs.l.length:=by omega
  have hq:=hw.rq jl zh
  have fQ:=qU hw jl zh
  have hlen:=hw.len jl zh
  have aja:=hq.qW
  have aiT:=hq.bH
  have ajb:=hq.BI
  have ai6:=hq.pn
  generalize Kb:w.rq p.req=q at*
  have ve:IntKind.i64.wrap (q.hi-q.len)=q.hi-q.len:=bW (by omega) (by omega)
  have Bv:IntKind.i64.wrap (q.hi-q.len+1)=q.hi+1-q.len:=by rw[bW (by omega) (by omega)];omega
  have kc:ch w p→∀(k:Nat) ρ m,k≤i→(ρ 1=.slice o 3 (l.map aj)∧ρ 2=I i∧ρ 3=.ptr s.ag.length 0 0∧ρ 7=.ptr s.ag.length 1 0∧ρ 10=I k∧m=s.push ⟨[c8 w,aj p,bU q],[]⟩)→
    go AP VJ (.c (.loop Da)::am7) ⟨ρ,m⟩=some (I (if(((l.take i).drop k).any fun x=>dE w x p)=true then 13 else 0),s):=by
   intro hp
   refine ck i _ _ ?_ ?_
   ·rintro k ρ m hk ⟨g1,g2,g3,g7,g10,rfl⟩ ih
    obtain⟨x,hx⟩:=get_some (l:=l) (k:=k) (by omega)
    have XZ:(l.take i)[k]? =some x:=by rw[xP,ak hk];exact hx
    have XW:=hl x (bQ XZ)
    have hr:=cq (f:=aj) (o:=o) (es:=3) hx
    have eW:∀r,aw AP (.fn 83) [w.v,.agg (aj p),.agg (aj x)] (s.push r)=some (B (dE w x p),s.push r):=fun r=>by
     rw[arl (hs.push r) hw hp XW,Fi hw hp XW]
    simp only[W.v,c8,aj,Sl.v]at eW
    rw[eP XZ,oz]
    cases hd:dE w x p with
    |true=>simp only[go_sem,Da,g1,g2,g3,g7,g10,aS hk,hr,eW,hd,xJ,simprocAttr]
    |false=>
     simp only[go_sem,Da,g1,g2,g3,g7,g10,aS hk,hr,eW,hd,bK hk (show(i:Int)<_ by omega),simprocAttr]
     rw[mV]
     refine ih _ _ ?_
     exact⟨g1,g2,g3,g7,rfl,rfl⟩
   ·rintro ρ m ⟨g1,g2,g3,g7,g10,rfl⟩
    simp only[go_sem,Da,MG,g2,g10,bM,simprocAttr]
    rw[zN (by rw[fV];omega)];rfl
  have ka : (q.lo ≤ p.start ∧ p.start ≤ q.hi + 1 - q.len) → ∀ (k : Nat) ρ m, k ≤ p.an.l.length → (ρ 1 = .slice o 3 (l.map aj) ∧ ρ 2 = I i ∧ ρ 3 = .ptr s.ag.length 0 0 ∧ ρ 7 = .ptr s.ag.length 1 0 ∧ ρ 8 = .ptr s.ag.length 2 0 ∧ ρ 9 = I k ∧ (∀ a ∈ p.an.l.take k, 0 ≤ a ∧ a < w.as.l.length) ∧ m = s.push ⟨[c8 w, aj p, bU q], []⟩) →
    go AP VJ (.c (.loop wb)::am8) ⟨ρ,m⟩=some (I (if eN q (sI p.an.l k) (p.an.l.drop k)=0 then(if(p.an.l.any fun a=>!cS w a p.start q.len)=true then 21 else if dL w p (l.take i)=true then 13 else 0)else eN q (sI p.an.l k) (p.an.l.drop k)),s):=by
   intro cp
   refine ck p.an.l.length _ _ ?_ ?_
   ·rintro k ρ m hk ⟨g1,g2,g3,g7,g8,g9,bH,rfl⟩ ih
    obtain⟨a,ha⟩:=get_some hk
    have hr:=Sl.ix (f:=aD) dI ha
    have hh:∀r,aw AP (.fn 82) [.slice q.an.o q.an.e (q.an.l.map aD),I a] (s.push r)=some (B (q.an.l.any fun b=>decide (a=b)),s.push r):=fun r=>by
     have Bs:=W.qg jl zh
     rw[Kb]at Bs
     rw[Tc (hw.ok.an q Bs).1 (by have:=hw.rL.an q Bs;omega)]
     rw[acg]
    rw[eP ha,eN]
    cases hc:(q.an.l.any fun b=>decide (a=b))with
    |false=>
     simp only[go_sem,wb,g7,g8,g9,aS hk,hr,hh,hc,ef,simprocAttr]
    | true =>
     have eL:0≤a∧a<w.as.l.length:=by
      obtain⟨b,hb,he⟩:=fK.1 hc
      rw[KM he];exact hq.tc b hb
     rw[ak rfl]
     have Xd:∀x∈p.an.l.take (k+1),0≤x∧x<w.as.l.length:=by
      intro x hx
      rw[fT ha,dD]at hx
      rcases hx with hx|hx
      ·exact bH x hx
      ·rw[eJ]at hx;rw[hx];exact eL
     have Gf:sI p.an.l (k+1)=a:=by show p.an.l.getD k 0=a;rw[List.getD,ha];rfl
     rcases vR k with FY|FY
     ·have aC:sI p.an.l k<a:=by rw[FY,show sI p.an.l 0=-1 from rfl];omega
      rw[ak aC]
      have h0:decide ((0:Int)<(k:Int))=false:=by simp;omega
      simp only[go_sem,wb,g7,g8,g9,aS hk,hr,hh,hc,h0,bK hk (show(p.an.l.length:Int)<_ by omega),simprocAttr]
      refine ui (ih _ _ ?_) ?_
      ·exact⟨g1,g2,g3,g7,g8,rfl,Xd,rfl⟩
      ·rw[Gf]
     ·obtain⟨b,hb⟩:=get_some (l:=p.an.l) (k:=k-1) (by omega)
      have gA:=Sl.ix (f:=aD) dI hb
      have h0:decide ((0:Int)<(k:Int))=true:=by simp;omega
      have jQ:IntKind.i64.wrap ((k:Int)-1)=((k-1:Nat):Int):=by rw[bW (by omega) (by omega)];omega
      have jD:sI p.an.l k=b:=by
       obtain⟨j,rfl⟩:∃j,k=j+1:=⟨k-1,by omega⟩
       show p.an.l.getD j 0=b
       rw[List.getD,show p.an.l[j]? =some b from hb];rfl
      rw[jD]
      by_cases gJ:b<a
      ·rw[ak gJ]
       have hd:decide (a≤b)=false:=by simp;omega
       simp only[go_sem,wb,g7,g8,g9,aS hk,hr,hh,hc,h0,jQ,gA,hd,bK hk (show(p.an.l.length:Int)<_ by omega),simprocAttr]
       refine ui (ih _ _ ?_) ?_
       ·exact⟨g1,g2,g3,g7,g8,rfl,Xd,rfl⟩
       ·rw[Gf]
      ·rw[aq gJ]
       have hd:decide (a≤b)=true:=by simp;omega
       simp only[go_sem,wb,g7,g8,g9,aS hk,hr,hh,hc,h0,jQ,gA,hd,simprocAttr]
   ·rintro ρ m ⟨g1,g2,g3,g7,g8,g9,bH,rfl⟩
    rw[jg]at bH
    have hp:ch w p:=⟨jl,zh,by omega,by omega,bH,dI,by omega⟩
    have ke:∀r,aw AP (.fn 79) [w.v,.agg (aj p)] (s.push r)=some (B (p.an.l.any fun a=>!cS w a p.start q.len),s.push r):=fun r=>by
     rw[ZW (hs.push r) hw hp,Kb]
    have kc':=kc hp 0
    simp only[W.v,c8,aj,Sl.v]at ke
    rw[eR,eN,ak rfl]
    cases hc:(p.an.l.any fun a=>!cS w a p.start q.len)with
    |true=>simp only[go_sem,wb,Iq,g3,g7,g9,bM,ke,hc,simprocAttr]
    |false=>
     rw[aq (by simp)]
     simp only[go_sem,wb,Iq,g3,g7,g9,bM,ke,hc,simprocAttr]
     refine ui (kc' _ _ (bg _) ?_) ?_
     ·exact⟨g1,g2,g3,g7,rfl,rfl⟩
     ·rw[kt];rfl
  simp only[bU,aj,Sl.v]at fQ cr
  have tail:(if wi p.start q.lo (q.hi+1-q.len)=true then(if(p.an.l.length:Int)=q.need then(if eN q (-1) p.an.l=0 then(if(p.an.l.any fun a=>!cS w a p.start q.len)=true then 21 else if dL w p (l.take i)=true then 13 else 0)else eN q (-1) p.an.l)else 10)else 2)=(if wi p.start q.lo (q.hi+1-q.len)=true then(if(p.an.l.length:Int)=q.need then(if eN q (-1) p.an.l=0 then(if(p.an.l.any fun a=>!cS w a p.start q.len)=true then 21 else if dL w p (l.take i)=true then 13 else 0)else eN q (-1) p.an.l)else 10)else 2):=rfl
  rcases vR i with J1|J1
  ·have aC:ie (l.take i)<p.req:=by rw[J1,show ie (l.take 0)=-1 from rfl];omega
   rw[ak aC]
   have h0:decide ((0:Int)<(i:Int))=false:=by simp;omega
   cases h2:wi p.start q.lo (q.hi+1-q.len)with
   |false=>simp only[go_sem,uz,hs,cr,fW,nE,h1,h0,fQ,ve,Bv,h2,ef,simprocAttr]
   | true =>
    rw[ak rfl]
    by_cases h3:(p.an.l.length:Int)=q.need
    ·rw[ak h3]
     have hd:decide (¬(p.an.l.length:Int)=q.need)=false:=by simp[h3]
     simp only[go_sem,uz,hs,cr,fW,nE,h1,h0,fQ,ve,Bv,h2,hd,aY,simprocAttr]
     refine ui (ka (iJ.1 h2) 0 _ _ (bg _) ?_) ?_
     ·exact⟨rfl,rfl,rfl,rfl,rfl,rfl,fun a h=>absurd h (by simp),rfl⟩
     ·rw[kt];rfl
    ·rw[aq h3]
     have hd:decide (¬(p.an.l.length:Int)=q.need)=true:=by simp[h3]
     simp only[go_sem,uz,hs,cr,fW,nE,h1,h0,fQ,ve,Bv,h2,hd,aY,simprocAttr]
  ·obtain⟨x,hx⟩:=get_some (l:=l) (k:=i-1) (by omega)
   have gA:=cq (f:=aj) (o:=o) (es:=3) hx
   have h0:decide ((0:Int)<(i:Int))=true:=by simp;omega
   have jQ:IntKind.i64.wrap ((i:Int)-1)=((i-1:Nat):Int):=by rw[bW (by omega) (by omega)];omega
   have wZ:ie (l.take i)=x.req:=by
    obtain⟨j,rfl⟩:∃j,i=j+1:=⟨i-1,by omega⟩
    exact Yn hx
   rw[wZ]
   simp only[aj,Sl.v]at gA
   by_cases aC:x.req<p.req
   ·rw[ak aC]
    have FK:decide (p.req≤x.req)=false:=by simp;omega
    cases h2:wi p.start q.lo (q.hi+1-q.len)with
    |false=>simp only[go_sem,uz,hs,cr,fW,nE,h1,h0,jQ,gA,FK,fQ,ve,Bv,h2,ef,simprocAttr]
    | true =>
     rw[ak rfl]
     by_cases h3:(p.an.l.length:Int)=q.need
     ·rw[ak h3]
      have hd:decide (¬(p.an.l.length:Int)=q.need)=false:=by simp[h3]
      simp only[go_sem,uz,hs,cr,fW,nE,h1,h0,jQ,gA,FK,fQ,ve,Bv,h2,hd,aY,simprocAttr]
      refine ui (ka (iJ.1 h2) 0 _ _ (bg _) ?_) ?_
      ·exact⟨rfl,rfl,rfl,rfl,rfl,rfl,fun a h=>absurd h (by simp),rfl⟩
      ·rw[kt];rfl
     ·rw[aq h3]
      have hd:decide (¬(p.an.l.length:Int)=q.need)=true:=by simp[h3]
      simp only[go_sem,uz,hs,cr,fW,nE,h1,h0,jQ,gA,FK,fQ,ve,Bv,h2,hd,aY,simprocAttr]
   ·rw[aq aC]
    have FK:decide (p.req≤x.req)=true:=by simp;omega
    simp only[go_sem,uz,hs,cr,fW,nE,h1,h0,jQ,gA,FK,simprocAttr]
theorem arj {l:List P} {o:Own} {e:Nat} (hs:Ok s) (hw:Wk w) (hl:gG l) (he:l=[]∨e=3):aw AP (.fn 25) [w.v,.slice o e (l.map aj)] s=some (.tuple [I (dP w l).1,I (dP w l).2],s):=by
 have hlen:=hl.len
 have key:∀(j:Nat) ρ x,j≤l.length→(ρ 1=.slice o e (l.map aj)∧ρ 2=.ptr s.ag.length 0 0∧ρ 6=I j∧(∀y∈l.take j,ch w y)∧x=s.push ⟨[c8 w],[]⟩)→
   go AP afz (.c (.loop CU)::amO) ⟨ρ,x⟩=some (match fO (fun i x=>dN w x (l.take i)) j (l.drop j)with|some (k,e)=>.tuple [I k,I e]|none=>.tuple [I 0,I 0],s):=by
  refine ck l.length _ _ ?_ ?_
  ·rintro j ρ x hj ⟨h1,h2,h6,bH,rfl⟩ ih
   obtain⟨p,hp⟩:=get_some hj
   have dI:=hl.ok p (bQ hp)
   have jk:∀r,aw AP (.fn 51) [w.v,.slice o e (l.map aj),I j] (s.push r)=some (I (dN w p (l.take j)),s.push r):=fun r=>arz (hs.push r) hw he (by omega) hp dI.1 (by omega) bH
   simp only[W.v,c8,Sl.v]at jk
   rw[wJ hp]
   by_cases h0:dN w p (l.take j)=0
   ·rw[ak h0]
    have dV:=(BS hw dI.1 (by omega) h0).1
    simp only[go_sem,CU,h1,h2,h6,aS hj,jk,h0,aY,eA,bK hj (show(l.length:Int)<_ by omega),simprocAttr]
    refine ih _ _ ?_
    refine⟨h1,h2,rfl,?_,rfl⟩
    intro y hy
    rw[fT hp,dD]at hy
    rcases hy with hy|hy
    ·exact bH y hy
    ·rw[eJ]at hy;rw[hy];exact dV
   ·rw[aq h0]
    simp only[go_sem,CU,h1,h2,h6,aS hj,jk,h0,aY,ig,simprocAttr]
  ·rintro ρ x ⟨h1,h2,h6,bH,rfl⟩
   simp only[go_sem,CU,Mm,h1,h6,bM,simprocAttr]
   rw[eR];rfl
 rw[aL (show AP 25=some DW from rfl) rfl]
 simp only[go_sem,Ts,simprocAttr]
 refine ui (key 0 _ _ (bg _) ?_) ?_
 ·exact⟨rfl,rfl,rfl,fun y hy=>absurd hy (by simp),rfl⟩
 ·rw[kt];unfold dP
  cases fO (fun i x=>dN w x (l.take i)) 0 l with
  |none=>rfl
  |some q=>rfl
end
section
variable{s:ae} {w:W}
theorem acZ {m:ae} {l:List Int} {o:Own} {e:Nat} (he:l=[]∨e=1) (hl:l.length≤4294967296):
  aw AP (.fn 38) [.slice o e (l.map aD)] (cT m)=some ((fh l).v aD,cT m):=by
 cases fP:l with
 |nil=>
  rw[aL (show AP 38=some wu from rfl) rfl]
  simp(maxSteps:=1000000) only[go_sem,CL,eD,Hu,Nat.reduceEqDiff,reduceCtorEq,↓reduceIte]
  show some (_,((cT m).push ⟨[],[]⟩).pop)=_
  rw[pop_push];rfl
 | cons a q =>
  rw[←fP]
  have hn:l≠[]:=by rw[fP];simp
  have j6:e=1:=by rcases he with h|h;exact absurd h hn;exact h
  subst j6
  have hlen:(cT m).ag.length=m.ag.length:=rfl
  have ha:eD ((cT m).push ⟨[],[]⟩) 1 (.slice .full 1 []) (.slice o 1 (l.map aD))=some (.slice (.tok m.ag.length 0) 1 (l.map aD),(cT m).push ⟨[],[some l.length]⟩):=by
   have h3:=qb (cT m) ⟨[],[]⟩
   have h4:=oE (cT m) ⟨[],[]⟩ l.length
   rw[hlen]at h3 h4
   have h5:((cT m).push ⟨[],[]⟩).cur=m.ag.length:=by rw[fD,hlen]
   simp[eD,Own.isNil,most,hl,hn,h3,h4,h5]
  rw[aL (show AP 38=some wu from rfl) rfl]
  simp(maxSteps:=1000000) only[go_sem,CL,ha,Nat.reduceEqDiff,reduceCtorEq,↓reduceIte]
  rw[fP];rfl
def cP (p:P):P:=⟨p.req,p.start,fh p.an.l⟩
theorem QV {l:List P} {o:Own} {e:Nat} {Q:ae} {tk:List (Option Nat)} (hQ:Ok Q) (hl:gG l) (he:l=[]∨e=3):
  ∃x og tk',(∀bx,aw AP (.fn 12) [.slice o e (l.map aj)] (Q.push ⟨bx,tk⟩)=some (x,Q.push ⟨bx,tk'⟩))∧Acc Q.ag.length 3 ((l.map cP).map aj) x og tk'∧(tk'=tk∨tk'=tk++[some l.length]):=by
 have hlen:=hl.len
 have hs:∀bx,Ok (Q.push ⟨bx,tk⟩):=fun bx=>hQ.push _
 have oR:∀bx,(Q.push ⟨bx,tk⟩).ag.length=Q.ag.length+1:=fun bx=>by simp[ae.push]
 have loop:∀bx,∀(k:Nat) ρ m,k≤l.length→(ρ 0=.slice o e (l.map aj)∧ρ 4=I k∧∃x og vD,Acc (Q.push ⟨bx,tk⟩).ag.length 3 (((l.take k).map cP).map aj) x og vD∧ρ 3=x∧m=(Q.push ⟨bx,tk⟩).push ⟨[],vD⟩)→
   go AP afB (.c (.loop CY)::amU) ⟨ρ,m⟩=some (if l=[]then .slice .aA 0 []else .slice (.tok Q.ag.length tk.length) 3 ((l.map cP).map aj),if l=[]then Q.push ⟨bx,tk⟩else Q.push ⟨bx,tk++[some l.length]⟩):=by
  intro bx
  refine ck l.length _ _ ?_ ?_
  ·rintro k ρ m hk ⟨h0,h4,x,og,vD,hA,h3,rfl⟩ ih
   obtain⟨p,hp⟩:=get_some hk
   have dU:e=3:=by rcases he with h|h;(rw[h]at hp;simp at hp);exact h
   subst dU
   have dI:=hl.ok p (bQ hp)
   have cr:=cq (f:=aj) (o:=o) (es:=3) hp
   have n5:∀m:ae,aw AP (.fn 38) [.slice p.an.o p.an.e (p.an.l.map aD)] (cT m)=some ((fh p.an.l).v aD,cT m):=fun m=>acZ dI.1.1 (by omega)
   have aR:(l.take k).length≤14:=by rw[fV];omega
   obtain⟨x',gl,mh,cQ,eL,uV,rR⟩:=hA.append (hs bx) .full (ys:=[aj (cP p)]) (by simp) (by simp;omega)
   obtain⟨KK,Jl,KZ,rfl⟩:=Acc.sl hA
   obtain⟨Zo,Vx,Rj,rfl⟩:=Acc.sl eL
   have aT:closeAll [I p.req,I p.start,(fh p.an.l).v aD]=some (aj (cP p)):=by
    simp only[mq,oH,pK,Sl.close (f:=aD) (Fj (l:=p.an.l))];rfl
   simp only[aj,Sl.v,cP]at cQ aT n5
   simp(maxSteps:=1000000) only[go_sem,CY,h0,h3,h4,aS hk,cr,n5,aT,cQ,bK hk (show(l.length:Int)<_ by omega),Nat.reduceEqDiff,reduceCtorEq,Nat.reduceAdd,↓reduceIte]
   refine ih _ _ ?_
   refine⟨h0,rfl,_,gl,mh,?_,rfl,rfl⟩
   rw[fT hp,iL,iL];exact eL
  ·rintro ρ m ⟨h0,h4,x,og,vD,hA,h3,rfl⟩
   rw[jg]at hA
   cases og with
   |none=>
    obtain⟨uR,rfl⟩:=hA
    have fP:l=[]:=by simpa using uR
    rw[ak fP,ak fP]
    simp(maxSteps:=1000000) only[go_sem,CY,Ii,h0,h3,h4,bM,Nat.reduceEqDiff,reduceCtorEq,↓reduceIte]
   |some g=>
    obtain⟨uR,rfl,Om⟩:=hA
    have fP:¬l=[]:=by intro h;apply uR;rw[h];rfl
    rw[aq fP,aq fP]
    have lr:=KQ (Q:=Q) (R:=⟨bx,tk⟩) (r0:=⟨[],vD⟩) (g:=g) (es:=3) (xs:=(l.map cP).map aj) hQ Om
    rw[oR]at h3
    simp(maxSteps:=1000000) only[go_sem,CY,Ii,h0,h3,h4,bM,Nat.reduceEqDiff,reduceCtorEq,↓reduceIte]
    refine lr.trans ?_
    rw[bY,bY]
 have run:∀bx,aw AP (.fn 12) [.slice o e (l.map aj)] (Q.push ⟨bx,tk⟩)=some (if l=[]then .slice .aA 0 []else .slice (.tok Q.ag.length tk.length) 3 ((l.map cP).map aj),if l=[]then Q.push ⟨bx,tk⟩else Q.push ⟨bx,tk++[some l.length]⟩):=by
  intro bx
  rw[aL (show AP 12=some DZ from rfl) rfl]
  simp(maxSteps:=1000000) only[go_sem,Tt]
  refine loop bx 0 _ _ (bg _) ?_
  exact⟨rfl,rfl,_,none,[],Acc.start,rfl,rfl⟩
 by_cases fP:l=[]
 ·refine⟨.slice .aA 0 [],none,tk,fun bx=>?_,⟨by rw[fP];rfl,rfl⟩,.inl rfl⟩
  rw[run bx,ak fP,ak fP]
 ·refine⟨.slice (.tok Q.ag.length tk.length) 3 ((l.map cP).map aj),some tk.length,tk++[some l.length],fun bx=>?_,⟨by simpa using fP,rfl,by simp⟩,.inr rfl⟩
  rw[run bx,aq fP,aq fP]
theorem CB {d es:Nat} {xs:List (List AV)} {x:AV} {og:Option Nat} {tk:List (Option Nat)} (h:Acc d es xs x og tk):∃o e,x=.slice o e xs∧(xs=[]∨e=es):=by
 cases og with
 |none=>obtain⟨h1,h2⟩:=h;subst h1;exact⟨_,_,h2,.inl rfl⟩
 |some g=>exact⟨_,_,h.2.1,.inr rfl⟩
theorem aro {l:List P} {o:Own} {e:Nat} (hs:Ok s) (hw:w.Ok) (hf:w.kn) (hl:gG l) (he:l=[]∨e=3):aw AP (.fn 8) [w.v,.slice o e (l.map aj)] s=some (I (kJ w l).2,s):=by
 have jR:∀r,aw AP (.fn 24) [w.v] (s.push r)=some (I (dp w).2.2,s.push r):=fun r=>ZT (hs.push r) hw hf
 rw[aL (show AP 8=some D2 from rfl) rfl]
 unfold kJ
 by_cases h0:(dp w).2.2=0
 ·have cz:Wk w:=⟨hw,hf,rm h0⟩
  have n5:∀r,aw AP (.fn 25) [w.v,.slice o e (l.map aj)] (s.push r)=some (.tuple [I (dP w l).1,I (dP w l).2],s.push r):=fun r=>arj (hs.push r) cz hl he
  simp only[W.v,c8,Sl.v]at jR n5
  rw[ak h0]
  simp(maxSteps:=1000000) only[go_sem,Mv,jR,n5,h0,aY,eA,Nat.reduceEqDiff,Nat.reduceAdd,↓reduceIte]
 ·simp only[W.v,c8,Sl.v]at jR
  rw[aq h0]
  simp(maxSteps:=1000000) only[go_sem,Mv,jR,h0,aY,ig,Nat.reduceEqDiff,Nat.reduceAdd,↓reduceIte]
def xB (l:List P):Bool:=decide (l.length≤14)&&l.all fun p=>decide (p.an.l.length≤6)
structure xX (l:List P):Prop where
 len:(l.length:Int)<9223372036854775808
 ok:∀p∈l,p.an.ok 1
 an:∀p∈l,(p.an.l.length:Int)<9223372036854775808
theorem aaA {l:List P} (hb:xX l) (h:xB l=true):gG l:=by
 simp only[xB,dB,dY,jw]at h
 exact⟨h.1,fun p hp=>⟨hb.ok p hp,h.2 p hp⟩⟩
theorem Ym {l:List P} {o:Own} {e:Nat} (hb:xX l) (he:l=[]∨e=3):aw AP (.fn 6) [.slice o e (l.map aj)] s=some (B (xB l),s):=by
 have qC:decide ((14:Int)<(l.length:Int))=!decide (l.length≤14):=nT (by omega)
 have key:∀(k:Nat) ρ m,k≤l.length→(ρ 0=.slice o e (l.map aj)∧ρ 3=I k∧m=s.push ⟨[],[]⟩)→
   go AP afx (.c (.loop CS)::amM) ⟨ρ,m⟩=some (B ((l.drop k).all fun p=>decide (p.an.l.length≤6)),s):=by
  refine ck l.length _ _ ?_ ?_
  ·rintro k ρ m hk ⟨h0,h3,rfl⟩ ih
   obtain⟨p,hp⟩:=get_some hk
   have dU:e=3:=by rcases he with h|h;(rw[h]at hp;simp at hp);exact h
   subst dU
   have cr:=cq (f:=aj) (o:=o) (es:=3) hp
   have jD:=hb.an p (bQ hp)
   have h6:decide ((6:Int)<(p.an.l.length:Int))=!decide (p.an.l.length≤6):=nT (by omega)
   simp only[aj,Sl.v]at cr
   rw[LX hp]
   cases hd:decide (p.an.l.length≤6)with
   |false=>simp(maxSteps:=1000000) only[go_sem,CS,h0,h3,aS hk,cr,h6,hd,mW,jL,Nat.reduceEqDiff,reduceCtorEq,Nat.reduceAdd,↓reduceIte]
   |true=>
    simp(maxSteps:=1000000) only[go_sem,CS,h0,h3,aS hk,cr,h6,hd,kL,bK hk hb.len,Nat.reduceEqDiff,reduceCtorEq,Nat.reduceAdd,↓reduceIte]
    exact ih _ _ ⟨h0,rfl,rfl⟩
  ·rintro ρ m ⟨h0,h3,rfl⟩
   simp(maxSteps:=1000000) only[go_sem,CS,Mk,h0,h3,bM,Nat.reduceEqDiff,reduceCtorEq,↓reduceIte]
   rw[eR];rfl
 rw[aL (show AP 6=some DU from rfl) rfl]
 unfold xB
 cases hd:decide (l.length≤14)with
 |false=>simp(maxSteps:=1000000) only[go_sem,Mj,qC,hd,mW,jL,reduceCtorEq,↓reduceIte]
 |true=>
  simp(maxSteps:=1000000) only[go_sem,Mj,qC,hd,kL,reduceCtorEq,↓reduceIte]
  exact key 0 _ _ (bg _) ⟨rfl,rfl,rfl⟩
end
section
variable{w:W}
theorem ym:(cW w).rs.l.length=w.rs.l.length:=by rw[wq,bY]
theorem wj {i:Int} (h0:0≤i) (h1:i<w.rs.l.length):(cW w).rq i=cR (w.rq i):=by
 unfold W.rq
 rw[wq,je]
 obtain⟨x,hx⟩:=get_some (l:=w.rs.l) (k:=i.toNat) (by omega)
 rw[hx];rfl
theorem adB {a:Int}:(cW w).py a=w.py a:=by
 unfold W.py
 rw[yl,je]
 cases w.as.l[a.toNat]? <;>rfl
theorem Ze {a st n:Int}:cS (cW w) a st n=cS w a st n:=by
 unfold cS
 rw[yl,je]
 cases w.as.l[a.toNat]? <;>rfl
theorem ae1 {p:P} (h0:0≤p.req) (h1:p.req<w.rs.l.length):lN (cW w) (cP p)=lN w p:=by
 unfold lN
 rw[show(cP p).req=p.req from rfl,wj h0 h1];rfl
theorem US {a b:P} (rQ:0≤a.req) (cQ:a.req<w.rs.l.length) (jz:0≤b.req) (gd:b.req<w.rs.l.length):uG (cW w) (cP a) (cP b)=uG w a b:=by
 unfold uG
 simp only[ae1 rQ cQ,show(cP a).req=a.req from rfl,show(cP b).req=b.req from rfl,wj rQ cQ,wj jz gd,adB]
 rfl
theorem U5 {a b:P} (rQ:0≤a.req) (cQ:a.req<w.rs.l.length) (jz:0≤b.req) (gd:b.req<w.rs.l.length):dE (cW w) (cP a) (cP b)=dE w a b:=by
 unfold dE
 rw[US rQ cQ jz gd,US jz gd rQ cQ]
 rfl
theorem U6 {p:P} {l:List P} (rQ:0≤p.req) (cQ:p.req<w.rs.l.length) (hl:∀x∈l,0≤x.req∧x.req<w.rs.l.length):dL (cW w) (cP p) (l.map cP)=dL w p l:=by
 unfold dL
 rw[Hm]
 rw[vI]
 simp only[fK,Function.comp]
 constructor
 ·rintro⟨x,hx,h⟩;exact⟨x,hx,by rwa [U5 (hl x hx).1 (hl x hx).2 rQ cQ]at h⟩
 ·rintro⟨x,hx,h⟩;exact⟨x,hx,by rwa [U5 (hl x hx).1 (hl x hx).2 rQ cQ]⟩
theorem anW {l:List P}:ie (l.map cP)=ie l:=by
 unfold ie
 rw[List.getLast?_map]
 cases l.getLast?<;>rfl
theorem SQ {r:R}:∀{l:List Int} {k:Int},eN (cR r) k l=eN r k l
 |[],_=>rfl
 |a::t,k=>by simp only[eN,SQ (l:=t)];rfl
theorem aqv {p:P} {l:List P} (hl:∀x∈l,0≤x.req∧x.req<w.rs.l.length):dN (cW w) (cP p) (l.map cP)=dN w p l:=by
 unfold dN
 rw[anW,ym,show(cP p).req=p.req from rfl,show(cP p).start=p.start from rfl,show(cP p).an.l=p.an.l from rfl]
 by_cases h1:wi p.req 0 (w.rs.l.length-1)=true
 ·obtain⟨h0,h2⟩:=iJ.1 h1
  rw[U6 h0 (by omega) hl,wj h0 (by omega)]
  simp only[SQ,Ze]
  rfl
 ·rw[aq h1,aq h1]
theorem Zz {p:P} {l:List P} (h:dN w p l=0):0≤p.req∧p.req<w.rs.l.length:=by
 unfold dN at h
 by_cases h1:wi p.req 0 (w.rs.l.length-1)=true
 ·obtain⟨h0,h2⟩:=iJ.1 h1
  exact⟨h0,by omega⟩
 ·rw[aq h1]at h;exact absurd h (by decide)
theorem V3 {l:List P}:∀(n k:Nat),n+k=l.length→(∀x∈l.take k,0≤x.req∧x.req<w.rs.l.length)→
  fO (fun i x=>dN (cW w) x ((l.map cP).take i)) k ((l.map cP).drop k)=fO (fun i x=>dN w x (l.take i)) k (l.drop k)
 |0,k,h,_=>by
  have h1:l.drop k=[]:=zN (by omega)
  have h2:(l.map cP).drop k=[]:=zN (by rw[bY];omega)
  rw[h1,h2];rfl
 | n + 1, k, h, hl => by
  obtain⟨p,hp⟩:=get_some (l:=l) (k:=k) (by omega)
  have J7:(l.map cP)[k]? =some (cP p):=by rw[je,hp];rfl
  rw[wJ hp,wJ J7]
  simp only[←LA]
  rw[aqv hl]
  by_cases h0:dN w p (l.take k)=0
  ·rw[ak h0,ak h0]
   have:=V3 (l:=l) n (k+1) (by omega) (fun x hx=>by
    rw[fT hp,dD]at hx
    rcases hx with hx|hx
    ·exact hl x hx
    ·rw[eJ]at hx;rw[hx];exact Zz h0)
   simp only[←LA]at this
   exact this
  ·rw[aq h0,aq h0]
theorem NC {l:List P}:dP (cW w) (l.map cP)=dP w l:=by
 unfold dP
 have:=V3 (w:=w) (l:=l) l.length 0 (by omega) (fun x hx=>absurd hx (by simp))
 rw[kt,kt]at this
 rw[this]
theorem abe:∀{l:List P},(∀x∈l,0≤x.req∧x.req<w.rs.l.length)→bN (cW w) (l.map cP)=bN w l
 |[],_=>rfl
 |p::r,h=>by
  have hp:=h p (by simp)
  simp only[iM,bN]
  rw[abe fun x hx=>h x (jf _ hx),show(cP p).req=p.req from rfl,wj hp.1 hp.2];rfl
theorem Nv {l:List P} (hl:gG l):gG (l.map cP):=by
 refine⟨by rw[bY];exact hl.len,fun p hp=>?_⟩
 obtain⟨q,hq,rfl⟩:=cC.1 hp
 exact⟨Fj,(hl.ok q hq).2⟩
end
section
variable{s:ae} {w:W}
theorem Og:∀{k:Nat} {l:List Int},l.length<k→bf k l=[]
 |0,_,h=>absurd h (da _)
 |k+1,[],_=>rfl
 |k+1,x::r,h=>by
  simp only[bf]
  rw[Og (k:=k) (l:=r) (by simp at h;omega),Og (k:=k+1) (l:=r) (by simp at h;omega)];rfl
def ox (n:Nat) (g:List Int):Sl Int:=⟨if n=1 then .full else .any,1,g⟩
theorem aaM {n:Nat} {g:List Int}:(ox n g).ok 1:=by
 refine⟨.inr rfl,?_⟩
 show(if n=1 then Own.full else Own.any)=.any∨(if n=1 then Own.full else Own.any)=.full∨_
 split
 ·exact .inr (.inl rfl)
 ·exact .inl rfl
def pJ:Nat→List Int→AV
 |0,_=>.slice .full 1 [[.slice .aA 0 []]]
 |n+1,l=>bG 1 ((bf (n+1) l).map fun g=>[(ox (n+1) g).v aD])
theorem Fa {n:Nat} {l:List Int}:mN false (pJ n l)=some (I (bf n l).length):=by
 cases n with
 |zero=>simp only[pJ,bf];rfl
 |succ n=>
  show mN false (bG 1 ((bf (n+1) l).map fun g=>[(ox (n+1) g).v aD]))=_
  rw[Qi,bY]
theorem aeb {n:Nat} {l g:List Int} {k:Nat} (h:(bf n l)[k]? =some g):∃o e,kG none 1 (pJ n l) (I k)=some (.bq [.slice o e (g.map aD)] 0)∧(g=[]∨e=1)∧(g=[]↔n=0):=by
 have hg:=tz (bQ h)
 cases n with
 | zero =>
  have hk:k=0:=by
   have:=(bd.1 h).1
   simp[bf]at this;exact this
  subst hk
  have:g=[]:=sU hg
  subst this
  exact⟨.aA,0,rfl,.inl rfl,by simp⟩
 |succ n=>
  refine⟨_,1,Kx (by rw[je,h];rfl),.inr rfl,?_⟩
  constructor
  ·intro e;rw[e]at hg;simp at hg
  ·intro e;omega
theorem L1 {q:ae} {b:List (List AV)} {tk:List (Option Nat)} {lit ys:List (List AV)} {o:Own} {e:Nat} (he:ys=[]∨e=1) (hl:lit.length+ys.length≤4294967296):
  ∃o' tk',(∀b,eD (q.push ⟨b,tk⟩) 1 (.slice .full 1 lit) (.slice o e ys)=some (.slice o' 1 (lit++ys),q.push ⟨b,tk'⟩))∧(∀(g:Nat) (n:Option Nat),tk[g]? =some n→tk'[g]? =some n)∧
   (AV.slice o' 1 (lit++ys)).close=some (.slice (if ys=[]then .full else .any) 1 (lit++ys)):=by
 by_cases h0:ys=[]
 ·subst h0
  refine⟨.full,tk,fun b=>by simp[eD],fun _ _ h=>h,?_⟩
  simp only[jd,ak];rfl
 ·have j6:e=1:=by rcases he with h|h;exact absurd h h0;exact h
  subst j6
  have h1:ys.isEmpty=false:=by simpa using h0
  refine⟨.tok q.ag.length tk.length,tk++[some (lit.length+ys.length)],fun b=>?_,fun g n h=>?_,?_⟩
  ·simp[eD,h1,Own.isNil,most,hl,qb,oE,fD]
  ·have:=(bd.1 h).1
   rw[dC this];exact h
  ·rw[aq h0];rfl
theorem ZU : ∀ (n : Nat) {s : ae} {l : List Int} {o : Own} {e : Nat}, Ok s → (l = [] ∨ e = 1) → l.length ≤ 6 → n ≤ 6 → aw AP (.fn 78) [.slice o e (l.map aD), I n] s = some (pJ n l, s)
 |0,s,l,o,e,hs,he,hl,_=>by
  rw[aL (show AP 78=some Ap from rfl) rfl]
  simp only[go_sem,MD,aP,simprocAttr]
  rfl
 | n + 1, s, l, o, e, hs, he, hl, hn => by
  have fq:decide (((n+1:Nat):Int)=0)=false:=by simp;omega
  have jQ:IntKind.i64.wrap (((n+1:Nat):Int)-1)=(n:Int):=by rw[bW (by omega) (by omega)];omega
  have outer : ∀ (i : Int) ρ m, (∃ k : Nat, i = k ∧ ρ 0 = .slice o e (l.map aD) ∧ ρ 1 = I ((n + 1 : Nat) : Int) ∧ ρ 6 = I k ∧ ∃ D x og tk, k ≤ l.length ∧ bf (n + 1) l = D ++ bf (n + 1) (l.drop k) ∧ Acc s.ag.length 1 (D.map fun g => [(ox (n + 1) g).v aD]) x og tk ∧ ρ 5 = x ∧ m = s.push ⟨[], tk⟩) →
    go AP VI (.c (.loop C8)::am4) ⟨ρ,m⟩=some (pJ (n+1) l,s):=by
   refine Ql (l.length-(n+1):Int) _ _ ?_ ?_
   ·rintro i ρ m hi ⟨k,rfl,h0,h1,h6,D,x,og,tk,hk,hD,hA,h5,rfl⟩ ih
    obtain⟨a,ha⟩:=get_some (l:=l) (k:=k) (by omega)
    have dU:e=1:=by rcases he with h|h;(rw[h]at ha;simp at ha);exact h
    subst dU
    have cr:=cq (f:=aD) (o:=o) (es:=1) ha
    obtain⟨od,sv⟩:=aaG (f:=aD) (o:=o) (es:=1) (k:=k+1) (l:=l) (by omega)
    have hle:decide (IntKind.i64.wrap ((k:Int)+((n+1:Nat):Int))≤(l.length:Int))=true:=by
     rw[bW (by omega) (by omega)];simp;omega
    have cz:IntKind.i64.wrap ((k:Int)+1)=((k+1:Nat):Int):=by rw[bW (by omega) (by omega)];omega
    have xf:∀r,aw AP (.fn 78) [.slice od 1 ((l.drop (k+1)).map aD),I n] (s.push r)=some (pJ n (l.drop (k+1)),s.push r):=fun r=>
     ZU n (hs.push r) (.inr rfl) (by rw[sX];omega) (by omega)
    have hG:bf (n+1) (l.drop k)=(bf n (l.drop (k+1))).map (a::·)++bf (n+1) (l.drop (k+1)):=by
     rw[eP ha];rfl
    have r8:=yJ (k:=n) (l:=l.drop (k+1))
    have inner:∀(j:Nat) ρ m,j≤(bf n (l.drop (k+1))).length→(ρ 0=.slice o 1 (l.map aD)∧ρ 1=I ((n+1:Nat):Int)∧ρ 6=I k∧ρ 7=pJ n (l.drop (k+1))∧ρ 8=I j∧∃x og tk,Acc s.ag.length 1 ((D++((bf n (l.drop (k+1))).take j).map (a::·)).map fun g=>[(ox (n+1) g).v aD]) x og tk∧ρ 5=x∧m=s.push ⟨[],tk⟩)→
      go AP VI (.c (.loop Im)::am5) ⟨ρ,m⟩=some (pJ (n+1) l,s):=by
     refine ck _ _ _ ?_ ?_
     ·rintro j ρ m hj ⟨g0,g1,g6,g7,g8,x,og,tk,hA,g5,rfl⟩ fI
      obtain⟨g,hg⟩:=get_some hj
      obtain⟨oi,ei,se,hei,wW⟩:=aeb hg
      have avd:(bf n (l.drop (k+1))).length≤64:=kO r8 (jh (show 0<2 by omega) (show(l.drop (k+1)).length≤6 by rw[sX];omega))
      have JR:((bf n (l.drop (k+1))).length:Int)<9223372036854775808:=by omega
      have qP:D++((bf n (l.drop (k+1))).take (j+1)).map (a::·)=(D++((bf n (l.drop (k+1))).take j).map (a::·))++[a::g]:=by
       rw[fT hg,iL,gW];rfl
      have XK:((bf n (l.drop (k+1))).take j).length≤64:=by rw[fV];omega
      have nx:=tz (bQ hg)
      obtain⟨o1,mU,cQ,eL,uV⟩:=L1 (q:=s) (b:=[]) (tk:=tk) (lit:=[[I a]]) (ys:=g.map aD) (o:=oi) (e:=ei) (by rcases hei with h|h;exact .inl (by rw[h];rfl);exact .inr h) (by simp;omega)
      have cp:(AV.slice o1 1 ([[I a]]++g.map aD)).close=some ((ox (n+1) (a::g)).v aD):=by
       rw[uV]
       have:(if g.map aD=[]then Own.full else Own.any)=(if n+1=1 then Own.full else Own.any):=by
        by_cases fq:n=0
        ·rw[ak (by rw[wW.2 fq];rfl),ak (by omega)]
        ·rw[aq (by intro h;exact fq (wW.1 (by simpa using h))),aq (by omega)]
       rw[this];rfl
      have aT:closeAll [.slice o1 1 ([I a]::g.map aD)]=some [(ox (n+1) (a::g)).v aD]:=by
       simp only[mq,oH,kq,kN]at cp⊢
       rw[cp];rfl
      have uR:=Acc.ext hA eL
      have hDl:D.length≤64:=by
       have h1:=yJ (k:=n+1) (l:=l)
       have h2:=jh (show 0<2 by omega) hl
       rw[hD,cj]at h1
       omega
      obtain⟨x2,fk,mh,gd,jA,WR,hb4⟩:=uR.append hs .full (ys:=[[(ox (n+1) (a::g)).v aD]]) (by simp) (by rw[bY,cj,bY,xR];omega)
      obtain⟨oa,ea,ra,rfl⟩:=Acc.sl hA
      obtain⟨ob,eb,rb,rfl⟩:=Acc.sl jA
      simp only[kq,kN]at cQ
      simp only[Sl.v]at gd aT
      simp only[go_sem,Im,g0,g5,g6,g7,g8,Fa,aS hj,se,cr,cQ,aT,gd,bK hj JR,simprocAttr]
      refine fI _ _ ?_
      refine⟨g0,g1,g6,g7,rfl,_,fk,mh,?_,rfl,rfl⟩
      rw[qP,iL];exact jA
     ·rintro ρ m ⟨g0,g1,g6,g7,g8,x,og,tk,hA,g5,rfl⟩
      rw[jg]at hA
      simp only[go_sem,Im,ME,g6,g7,g8,Fa,bM,cz,simprocAttr]
      refine ih _ _ ?_
      refine⟨k+1,by omega,g0,g1,rfl,_,x,og,tk,by omega,?_,hA,g5,rfl⟩
      rw[hD,hG,gW]
    simp only[go_sem,C8,h0,h1,h6,hle,cz,sv,jQ,xf,simprocAttr]
    refine inner 0 _ _ (bg _) ?_
    refine⟨h0,h1,h6,rfl,rfl,_,og,tk,?_,h5,rfl⟩
    rw[LC,nO,jd];exact hA
   ·rintro i ρ m hi ⟨k,rfl,h0,h1,h6,D,x,og,tk,hk,hD,hA,h5,rfl⟩
    have ke:bf (n+1) (l.drop k)=[]:=Og (by rw[sX];omega)
    rw[ke,jd]at hD
    have hle:decide (IntKind.i64.wrap ((k:Int)+((n+1:Nat):Int))≤(l.length:Int))=false:=by
     rw[bW (by omega) (by omega)];simp;omega
    have dc:∀q:ae,ed q x=some (pJ (n+1) l):=fun q=>by
     show _=some (bG 1 _)
     rw[hD];exact hA.leave q
    obtain⟨oa,ea,ra,rfl⟩:=Acc.sl hA
    simp only[go_sem,C8,Io,h0,h1,h5,h6,hle,dc,simprocAttr]
  rw[aL (show AP 78=some Ap from rfl) rfl]
  simp only[go_sem,MD,fq,simprocAttr]
  refine outer 0 _ _ ?_
  exact⟨0,rfl,rfl,rfl,rfl,[],_,none,[],bg _,rfl,Acc.start,rfl,rfl⟩
end
section
variable{s:ae} {w:W}
theorem Oe {f:Int→Bool}:∀{k:Nat} {l:List Int},(bf k l).filter (fun g=>g.all f)=bf k (l.filter f)
 |0,l=>by simp[bf]
 |k+1,[]=>rfl
 | k + 1, x :: r => by
  simp only[bf,oA]
  rw[Oe (k:=k+1) (l:=r),List.filter_map]
  cases hx:f x with
  |true=>
   rw[abE hx]
   simp only[bf]
   rw[←Oe (k:=k) (l:=r)]
   congr 2
   apply Hn
   intro g _
   simp[Function.comp,hx]
  |false=>
   rw[abD (by simp[hx])]
   rw[R9.2 (by intro g _;simp[Function.comp,hx])]
   rfl
theorem aec {n:Nat} {l g:List Int} {k:Nat} (h:(bf (n+1) l)[k]? =some g):kG none 1 (pJ (n+1) l) (I k)=some (.bq [(ox (n+1) g).v aD] 0):=
 Kx (by rw[je,h];rfl)
def zG (n:Nat) (p:P):P:=⟨p.req,p.start,ox n p.an.l⟩
theorem aqL {i st:Int}:l8 w i st=((bf (w.rq i).need.toNat (w.rq i).an.l).filter fun g=>g.all fun a=>cS w a st (w.rq i).len).map fun g=>⟨i,st,fh g⟩:=by
 rw[Oe];rfl
theorem arp (hs:Ok s) (hw:Wk w) {i:Int} (h0:0≤i) (h1:i<w.rs.l.length):aw AP (.fn 49) [w.v,I i] s=some (bG 3 (((dS w i).map (zG (w.rq i).need.toNat)).map aj),s):=by
 have hq:=hw.rq h0 h1
 have iD:=hw.v.n2
 have oR:=hw.v.al
 have Bs:=W.qg h0 h1
 have hqo:=hw.ok.an _ Bs
 have Pt:=hw.rL.an _ Bs
 have aja:=hq.qW
 have aiT:=hq.bH
 have ajb:=hq.BI
 have ai6:=hq.pn
 have Bo:=hq.p9
 have avt:=hq.KH
 have avu:=hq.KI
 have fQ:=qU hw h0 h1
 obtain⟨m,hm⟩:∃m:Nat,(w.rq i).need=((m+1:Nat):Int):=⟨((w.rq i).need-1).toNat,by omega⟩
 have Xq:(w.rq i).need.toNat=m+1:=by omega
 have r8:=BT hw h0 h1
 have jk:dS w i=jJ w i (w.rq i).lo ((w.rq i).hi-(w.rq i).len+2-(w.rq i).lo).toNat:=rfl
 have dq:∀st,l8 w i st=((bf (m+1) (w.rq i).an.l).filter fun g=>g.all fun a=>cS w a st (w.rq i).len).map fun g=>⟨i,st,fh g⟩:=fun st=>by rw[aqL,Xq]
 have fj:∀r,aw AP (.fn 78) [.slice (w.rq i).an.o (w.rq i).an.e ((w.rq i).an.l.map aD),I (w.rq i).need] (s.push r)=some (pJ (m+1) (w.rq i).an.l,s.push r):=fun r=>by
  rw[hm];exact ZU (m+1) (hs.push r) hqo.1 (by omega) (by omega)
 have ah7:=hq.tc
 rw[Xq]
 have nE:IntKind.i64.wrap ((w.rq i).hi-(w.rq i).len)=(w.rq i).hi-(w.rq i).len:=bW (by omega) (by omega)
 have ve:IntKind.i64.wrap ((w.rq i).hi-(w.rq i).len+1)=(w.rq i).hi-(w.rq i).len+1:=bW (by omega) (by omega)
 generalize Kb:w.rq i=q at*
 have hsc:(bf (m+1) q.an.l).length≤64:=kO yJ (jh (show 0<2 by omega) Pt)
 have outer : ∀ (st : Int) ρ x, (ρ 1 = I i ∧ ρ 2 = .ptr s.ag.length 0 0 ∧ ρ 5 = .ptr s.ag.length 1 0 ∧ ρ 6 = pJ (m + 1) q.an.l ∧ ρ 8 = I st ∧ q.lo ≤ st ∧ st ≤ q.hi - q.len + 2 ∧ ∃ D y og tk bx, D ++ jJ w i st (q.hi - q.len + 2 - st).toNat = dS w i ∧ Acc s.ag.length 3 ((D.map (zG (m + 1))).map aj) y og tk ∧ ρ 7 = y ∧ x = s.push ⟨c8 w :: bU q :: bx, tk⟩) →
   go AP VG (.c (.loop C0)::amW) ⟨ρ,x⟩=some (bG 3 (((dS w i).map (zG (m+1))).map aj),s):=by
  refine Ql (q.hi-q.len+1) _ _ ?_ ?_
  ·rintro st ρ x cp ⟨g1,g2,g5,g6,g8,zj,Gn,D,y,og,tk,bx,hD,hA,g7,rfl⟩ ih
   have hle:decide (st≤q.hi-q.len+1)=true:=by simp;omega
   have akf:IntKind.i64.wrap (st+1)=st+1:=bW (by omega) (by omega)
   have aj6:(q.hi-q.len+2-st).toNat=(q.hi-q.len+2-(st+1)).toNat+1:=by omega
   rw[aj6]at hD
   simp only[jJ]at hD
   have inner:∀(j:Nat) ρ x,j≤(bf (m+1) q.an.l).length→(ρ 1=I i∧ρ 2=.ptr s.ag.length 0 0∧ρ 5=.ptr s.ag.length 1 0∧ρ 6=pJ (m+1) q.an.l∧ρ 8=I st∧ρ 9=I j∧∃y og tk bx,Acc s.ag.length 3 (((D++(((bf (m+1) q.an.l).take j).filter fun g=>g.all fun a=>cS w a st q.len).map fun g=>(⟨i,st,fh g⟩:P)).map (zG (m+1))).map aj) y og tk∧ρ 7=y∧x=s.push ⟨c8 w::bU q::bx,tk⟩)→
     go AP VG (.c (.loop C1)::amX) ⟨ρ,x⟩=some (bG 3 (((dS w i).map (zG (m+1))).map aj),s):=by
    refine ck _ _ _ ?_ ?_
    ·rintro j ρ x hj ⟨g1,g2,g5,g6,g8,g9,y,og,tk,bx,hA,g7,rfl⟩ fI
     obtain⟨g,hg⟩:=get_some hj
     have cr:=aec hg
     have hgm:=A3 (bQ hg)
     have nx:=tz (bQ hg)
     have y9:ch w ⟨i,st,ox (m+1) g⟩:=⟨h0,h1,by show 0≤st;omega,by show st≤200;omega,fun a ha=>ah7 a (hgm.subset ha),aaM,by show(g.length:Int)<_;omega⟩
     have ke:∀r,aw AP (.fn 79) [w.v,.agg (aj ⟨i,st,ox (m+1) g⟩)] (s.push r)=some (B (!(g.all fun a=>cS w a st q.len)),s.push r):=fun r=>by
      rw[ZW (hs.push r) hw y9]
      simp only[Kb]
      rw[List.not_all_eq_any_not];rfl
     have aT:closeAll [I i,I st,(ox (m+1) g).v aD]=some (aj ⟨i,st,ox (m+1) g⟩):=by
      simp only[mq,oH,pK,Sl.close (f:=aD) (aaM (n:=m+1) (g:=g))];rfl
     have JR:((bf (m+1) q.an.l).length:Int)<9223372036854775808:=by omega
     have hDl:D.length≤13000:=by rw[←hD,cj]at r8;omega
     have pZ:((bf (m+1) q.an.l).take j).length≤64:=by rw[fV];omega
     have wT:(((bf (m+1) q.an.l).take j).filter fun g=>g.all fun a=>cS w a st q.len).length≤64:=kO (nN _ _) pZ
     simp only[aj,Sl.v,W.v,c8]at aT ke cr
     cases fm:g.all fun a=>cS w a st q.len with
     | false =>
      have j9:((bf (m+1) q.an.l).take (j+1)).filter (fun g=>g.all fun a=>cS w a st q.len)=((bf (m+1) q.an.l).take j).filter (fun g=>g.all fun a=>cS w a st q.len):=by
       rw[fT hg,oA,abD (by simp[fm]),Ho,jd]
      rw[←j9]at hA
      obtain⟨oa,ea,ra,rfl⟩:=Acc.sl hA
      simp only[go_sem,C1,g1,g2,g6,g8,g9,hs,Fa,aS hj,cr,ke,fm,mW,bK hj JR,simprocAttr]
      refine fI _ _ ?_
      exact⟨g1,g2,g5,g6,g8,rfl,_,og,tk,_,hA,g7,rfl⟩
     | true =>
      have j9:(D++(((bf (m+1) q.an.l).take (j+1)).filter fun g=>g.all fun a=>cS w a st q.len).map fun g=>(⟨i,st,fh g⟩:P))=(D++(((bf (m+1) q.an.l).take j).filter fun g=>g.all fun a=>cS w a st q.len).map fun g=>(⟨i,st,fh g⟩:P))++[⟨i,st,fh g⟩]:=by
       rw[fT hg,oA,abE (by simp[fm]),Ho,iL,gW];rfl
      obtain⟨x2,fk,mh,gd,jA,WR,hb4⟩:=hA.append hs .full (ys:=[aj ⟨i,st,ox (m+1) g⟩]) (by simp) (by rw[bY,bY,cj,bY,xR];omega)
      obtain⟨oa,ea,ra,rfl⟩:=Acc.sl hA
      obtain⟨ob,eb,rb,rfl⟩:=Acc.sl jA
      simp only[aj,Sl.v]at gd
      simp only[go_sem,C1,g1,g2,g6,g7,g8,g9,hs,Fa,aS hj,cr,aT,ke,fm,gd,kL,bK hj JR,simprocAttr]
      refine fI _ _ ?_
      refine⟨g1,g2,g5,g6,g8,rfl,_,fk,mh,_,?_,rfl,rfl⟩
      rw[j9,iL,iL];exact jA
    ·rintro ρ x ⟨g1,g2,g5,g6,g8,g9,y,og,tk,bx,hA,g7,rfl⟩
     rw[jg,←dq]at hA
     simp only[go_sem,C1,Mw,g6,g8,g9,Fa,bM,akf,simprocAttr]
     refine ih _ _ ?_
     exact⟨g1,g2,g5,g6,rfl,by omega,by omega,_,y,og,tk,bx,by rw[gW];exact hD,hA,g7,rfl⟩
   simp only[go_sem,C0,g5,g8,nE,ve,hle,simprocAttr]
   refine inner 0 _ _ (bg _) ?_
   refine⟨g1,g2,g5,g6,g8,rfl,y,og,tk,bx,?_,g7,rfl⟩
   rw[LC,Ho,nO,jd];exact hA
  ·rintro st ρ x cp ⟨g1,g2,g5,g6,g8,zj,Gn,D,y,og,tk,bx,hD,hA,g7,rfl⟩
   have hle:decide (st≤q.hi-q.len+1)=false:=by simp;omega
   have hz:(q.hi-q.len+2-st).toNat=0:=by omega
   rw[hz]at hD
   simp only[jJ,jd]at hD
   rw[hD]at hA
   have dc:=fun q:ae=>hA.leave q
   obtain⟨oa,ea,ra,rfl⟩:=Acc.sl hA
   simp only[go_sem,C0,Ij,g5,g7,g8,nE,ve,hle,dc,simprocAttr]
 rw[aL (show AP 49=some D3 from rfl) rfl]
 simp only[bU,Sl.v]at fQ fj
 simp only[go_sem,Tx,hs,fQ,fj,simprocAttr]
 refine outer q.lo _ _ ?_
 refine⟨rfl,rfl,rfl,rfl,rfl,by omega,by omega,[],_,none,[],[],?_,Acc.start,rfl,rfl⟩
 rw[kN,jk]
end
section
variable{s:ae} {w:W}
end
def lexB:List Int→List Int→Bool
 |[],[]=>false
 |[],_::_=>true
 |_::_,[]=>false
 |x::r,y::t=>if x=y then lexB r t else decide (x<y)
def kP (p:P):List Int:=p.req::p.start::p.an.l
def pL (p q:P):Int:=if lexB (kP p) (kP q)=true then-1 else if lexB (kP q) (kP p)=true then 1 else 0
def pw:List P→List P→Bool
 |[],[]=>true
 |x::r,y::t=>decide (pL x y=0)&&pw r t
 |_,_=>false
theorem GG:∀{l:List Int},lexB l l=false
 |[]=>rfl
 |x::r=>by simp only[lexB,bB];exact GG
theorem aex {p q:P} (h:kP p=kP q):pL p q=0:=by
 unfold pL;rw[h,GG];simp
section
variable{s:ae} {w:W}
theorem Tb {a b:List Int} {o1 o2:Own} {e1 e2:Nat} (h1:a=[]∨e1=1) (h2:b=[]∨e2=1) (l1:a.length≤100000) (l2:b.length≤100000):
  aw AP (.fn 69) [.slice o1 e1 (a.map aD),.slice o2 e2 (b.map aD)] s=some (B (lexB a b),s):=by
 have key : ∀ (k : Nat) ρ m, k ≤ min a.length b.length → (ρ 0 = .slice o1 e1 (a.map aD) ∧ ρ 1 = .slice o2 e2 (b.map aD) ∧ ρ 5 = I k ∧ m = s.push ⟨[], []⟩) →
   go AP aft (.c (.loop z7)::amx) ⟨ρ,m⟩=some (B (lexB (a.drop k) (b.drop k)),s):=by
  refine ck (min a.length b.length) _ _ ?_ ?_
  ·rintro k ρ m hk ⟨g0,g1,g5,rfl⟩ ih
   obtain⟨x,hx⟩:=get_some (l:=a) (k:=k) (by omega)
   obtain⟨y,hy⟩:=get_some (l:=b) (k:=k) (by omega)
   have ns:e1=1:=by rcases h1 with h|h;(rw[h]at hx;simp at hx);exact h
   have kC:e2=1:=by rcases h2 with h|h;(rw[h]at hy;simp at hy);exact h
   subst ns;subst kC
   have ha:=cq (f:=aD) (o:=o1) (es:=1) hx
   have hb:=cq (f:=aD) (o:=o2) (es:=1) hy
   have d1:decide ((k:Int)<(a.length:Int))=true:=by simp;omega
   have d2:decide ((k:Int)<(b.length:Int))=true:=by simp;omega
   rw[eP hx,eP hy,lexB]
   by_cases eE:x=y
   ·rw[ak eE]
    have hd:decide (¬x=y)=false:=by simp[eE]
    have Kl:IntKind.i64.wrap ((k:Int)+1)=((k+1:Nat):Int):=by rw[bW (by omega) (by omega)];omega
    simp only[go_sem,z7,g0,g1,g5,d1,d2,ha,hb,hd,aY,Kl,simprocAttr]
    exact ih _ _ ⟨g0,g1,rfl,rfl⟩
   ·rw[aq eE]
    have hd:decide (¬x=y)=true:=by simp[eE]
    simp only[go_sem,z7,g0,g1,g5,d1,d2,ha,hb,hd,aY,simprocAttr]
  ·rintro ρ m ⟨g0,g1,g5,rfl⟩
   by_cases gJ:a.length≤b.length
   ·have qK:min a.length b.length=a.length:=by omega
    rw[qK]at g5⊢
    have d1:decide ((a.length:Int)<(a.length:Int))=false:=by simp
    rw[eR]
    simp only[go_sem,z7,HW,g0,g1,g5,d1,simprocAttr]
    by_cases aC:a.length<b.length
    ·have:∃y r,b.drop a.length=y::r:=by
      obtain⟨y,hy⟩:=get_some aC
      exact⟨y,_,eP hy⟩
     obtain⟨y,r,hd⟩:=this
     rw[hd]
     simp only[lexB]
     have:decide ((a.length:Int)<(b.length:Int))=true:=by simp;omega
     rw[this]
    ·rw[zN (by omega)]
     simp only[lexB]
     have:decide ((a.length:Int)<(b.length:Int))=false:=by simp;omega
     rw[this]
   ·have qK:min a.length b.length=b.length:=by omega
    rw[qK]at g5⊢
    have d1:decide ((b.length:Int)<(a.length:Int))=true:=by simp;omega
    have d2:decide ((b.length:Int)<(b.length:Int))=false:=by simp
    obtain⟨x,hx⟩:=get_some (l:=a) (k:=b.length) (by omega)
    have d3:decide ((a.length:Int)<(b.length:Int))=false:=by simp;omega
    simp only[go_sem,z7,HW,g0,g1,g5,d1,d2,d3,simprocAttr]
    rw[eP hx,eR];rfl
 rw[aL (show AP 69=some DF from rfl) rfl]
 simp only[go_sem,Te,simprocAttr]
 exact key 0 _ _ (bg _) ⟨rfl,rfl,rfl,rfl⟩
theorem amw {p:P}:[[I p.req],[I p.start]]++p.an.l.map aD=(kP p).map aD:=rfl
theorem ZV {p q:P} (hs:Ok s) (hp:p.an.ok 1) (hq:q.an.ok 1) (lp:p.an.l.length≤1000) (lq:q.an.l.length≤1000):
  aw AP (.fn 39) [.agg (aj p),.agg (aj q)] s=some (I (pL p q),s):=by
 obtain⟨o1,mU,cQ,_,_⟩:=L1 (q:=s) (b:=[]) (tk:=[]) (lit:=[[I p.req],[I p.start]]) (ys:=p.an.l.map aD) (o:=p.an.o) (e:=p.an.e) (by rcases hp.1 with h|h;exact .inl (by rw[h];rfl);exact .inr h) (by simp;omega)
 obtain⟨o2,mh,eL,_,_⟩:=L1 (q:=s) (b:=[]) (tk:=mU) (lit:=[[I q.req],[I q.start]]) (ys:=q.an.l.map aD) (o:=q.an.o) (e:=q.an.e) (by rcases hq.1 with h|h;exact .inl (by rw[h];rfl);exact .inr h) (by simp;omega)
 rw[amw]at cQ eL
 have gd:∀m:ae,aw AP (.fn 69) [.slice o1 1 ((kP p).map aD),.slice o2 1 ((kP q).map aD)] m=some (B (lexB (kP p) (kP q)),m):=fun m=>Tb (.inr rfl) (.inr rfl) (by simp[kP];omega) (by simp[kP];omega)
 have jA:∀m:ae,aw AP (.fn 69) [.slice o2 1 ((kP q).map aD),.slice o1 1 ((kP p).map aD)] m=some (B (lexB (kP q) (kP p)),m):=fun m=>Tb (.inr rfl) (.inr rfl) (by simp[kP];omega) (by simp[kP];omega)
 rw[aL (show AP 39=some D9 from rfl) rfl]
 unfold pL
 cases h1:lexB (kP p) (kP q)with
 |true=>simp only[go_sem,Ip,cQ,eL,gd,h1,simprocAttr]
 |false=>
  cases h2:lexB (kP q) (kP p)with
  |true=>simp only[go_sem,Ip,cQ,eL,gd,jA,h1,h2,ef,simprocAttr]
  |false=>simp only[go_sem,Ip,cQ,eL,gd,jA,h1,h2,ef,simprocAttr]
structure HM (l:List P):Prop where
 len:l.length≤100000
 ok:∀p∈l,p.an.ok 1∧p.an.l.length≤1000
theorem aru {a b : List P} {o1 o2 : Own} {e1 e2 : Nat} (hs : Ok s) (h1 : a = [] ∨ e1 = 3) (h2 : b = [] ∨ e2 = 3) (l1 : HM a) (l2 : HM b) :
    aw AP (.fn 14) [.slice o1 e1 (a.map aj),.slice o2 e2 (b.map aj)] s=some (B (pw a b),s):=by
  have wZ:=l1.len
  have hlb:=l2.len
  by_cases gJ:a.length=b.length
  · have key : ∀ (k : Nat) ρ m, k ≤ a.length → (ρ 0 = .slice o1 e1 (a.map aj) ∧ ρ 1 = .slice o2 e2 (b.map aj) ∧ ρ 5 = I k ∧ m = s.push ⟨[], []⟩) →
        go AP afE (.c (.loop C2)::amZ) ⟨ρ,m⟩=some (B (pw (a.drop k) (b.drop k)),s):=by
      refine ck a.length _ _ ?_ ?_
      · rintro k ρ m hk ⟨g0, g1, g5, rfl⟩ ih
        obtain⟨x,hx⟩:=get_some (l:=a) (k:=k) (by omega)
        obtain⟨y,hy⟩:=get_some (l:=b) (k:=k) (by omega)
        have ns:e1=3:=by rcases h1 with h|h;(rw[h]at hx;simp at hx);exact h
        have kC:e2=3:=by rcases h2 with h|h;(rw[h]at hy;simp at hy);exact h
        subst ns;subst kC
        have ha:=cq (f:=aj) (o:=o1) (es:=3) hx
        have hb:=cq (f:=aj) (o:=o2) (es:=3) hy
        have xm:=l1.ok x (bQ hx)
        have qS:=l2.ok y (bQ hy)
        have r7:∀r,aw AP (.fn 39) [.agg (aj x),.agg (aj y)] (s.push r)=some (I (pL x y),s.push r):=fun r=>ZV (hs.push r) xm.1 qS.1 xm.2 qS.2
        rw[eP hx,eP hy,pw]
        simp only[aj,Sl.v]at r7 ha hb
        by_cases hc:pL x y=0
        · have hd : decide (¬ pL x y = 0) = false := by simp [hc]
          rw[bP hc,iq]
          simp only[go_sem,C2,g0,g1,g5,aS hk,ha,hb,r7,hd,aY,bK hk (show(a.length:Int)<_ by omega),simprocAttr]
          refine ih _ _ ?_
          exact⟨g0,g1,rfl,rfl⟩
        · have hd : decide (¬ pL x y = 0) = true := by simp [hc]
          rw[bS hc,jL]
          simp only[go_sem,C2,g0,g1,g5,aS hk,ha,hb,r7,hd,aY,simprocAttr]
      · rintro ρ m ⟨g0, g1, g5, rfl⟩
        simp only[go_sem,C2,Mz,g0,g5,bM,simprocAttr]
        rw[eR,zN (by omega)];rfl
    have hd:decide (¬(a.length:Int)=(b.length:Int))=false:=by simp[gJ]
    rw[aL (show AP 14=some An from rfl) rfl]
    simp only[go_sem,My,hd,aY,simprocAttr]
    exact key 0 _ _ (bg _) ⟨rfl,rfl,rfl,rfl⟩
  · have tK : ∀ {a b : List P}, a.length ≠ b.length → pw a b = false := by
      intro a
      induction a with
      | nil => intro b h; cases b with
        |nil=>exact absurd rfl h
        |cons _ _=>rfl
      | cons x r ih => intro b h; cases b with
        |nil=>rfl
        |cons y t=>simp only[pw];rw[ih (b:=t) (by simpa using h),nI]
    have hd:decide (¬(a.length:Int)=(b.length:Int))=true:=by simp;omega
    rw[tK gJ]
    rw[aL (show AP 14=some An from rfl) rfl]
    simp only[go_sem,My,hd,aY,simprocAttr]
theorem QW {l:List P} {o:Own} {e:Nat} {i:Int} (he:l=[]∨e=3) (hl:l.length≤100000):aw AP (.fn 13) [.slice o e (l.map aj),I i] s=some (I (du (fun p:P=>decide (p.req=i)) l),s):=by
 have key:∀(k:Nat) ρ m,k≤l.length→(ρ 0=.slice o e (l.map aj)∧ρ 1=I i∧ρ 5=I k∧(∀j y,j<k→l[j]? =some y→decide (y.req=i)=false)∧m=s.push ⟨[],[]⟩)→
   go AP afC (.c (.loop CZ)::amV) ⟨ρ,m⟩=some (I (du (fun p:P=>decide (p.req=i)) l),s):=by
  refine ck l.length _ _ ?_ ?_
  ·rintro k ρ m hk ⟨h0,h1,h5,hp,rfl⟩ ih
   obtain⟨a,ha⟩:=get_some hk
   have he:e=3:=by rcases he with h|h;(rw[h]at ha;simp at ha);exact h
   subst he
   have hr:=cq (o:=o) (es:=3) (f:=aj) ha
   cases dq:decide (a.req=i)with
   |true=>
    simp only[go_sem,CZ,h0,h1,h5,aS hk,hr,dq,simprocAttr]
    rw[tn ha dq hp]
   |false=>
    simp only[go_sem,CZ,h0,h1,h5,aS hk,hr,dq,bK hk (show(l.length:Int)<_ by omega),simprocAttr]
    refine ih _ _ ?_
    refine⟨h0,h1,rfl,fun j y hj hy=>?_,rfl⟩
    by_cases e:j=k
    ·subst e;rw[ha]at hy;injection hy with hy;rw[←hy];exact dq
    ·exact hp j y (by omega) hy
  ·rintro ρ m ⟨h0,h1,h5,hp,rfl⟩
   simp only[go_sem,CZ,Mt,h0,h5,bM,simprocAttr]
   rw[uM hp]
 rw[aL (show AP 13=some D1 from rfl) rfl]
 simp only[go_sem,Tw,simprocAttr]
 exact key 0 _ _ (bg _) ⟨rfl,rfl,rfl,fun j y hj=>absurd hj (da _),rfl⟩
def vz (n:Nat):Int→List Int→Int
 |_,[]=>0
 |last,a::t=>if wi a 0 (n-1)=true then(if last<a then vz n a t else 9)else 6
theorem arq {l:List Int} {o:Own} {e:Nat} (hs:Ok s) (er:w.rs.l.length≤14) (he:l=[]∨e=1) (hl:l.length≤100000):
  aw AP (.fn 9) [w.v,.slice o e (l.map aD)] s=some (I (vz w.rs.l.length (-1) l),s):=by
 have nE:IntKind.i64.wrap ((w.rs.l.length:Int)-1)=(w.rs.l.length:Int)-1:=bW (by omega) (by omega)
 have key : ∀ (k : Nat) ρ m, k ≤ l.length → (ρ 1 = .slice o e (l.map aD) ∧ ρ 2 = .ptr s.ag.length 0 0 ∧ ρ 5 = I k ∧ m = s.push ⟨[c8 w], []⟩) →
   go AP afD (.c (.loop x7)::amY) ⟨ρ,m⟩=some (I (vz w.rs.l.length (sI l k) (l.drop k)),s):=by
  refine ck l.length _ _ ?_ ?_
  ·rintro k ρ m hk ⟨g1,g2,g5,rfl⟩ ih
   obtain⟨a,ha⟩:=get_some hk
   have he:e=1:=by rcases he with h|h;(rw[h]at ha;simp at ha);exact h
   subst he
   have hr:=cq (o:=o) (es:=1) (f:=aD) ha
   have Gf:sI l (k+1)=a:=by show l.getD k 0=a;rw[List.getD,ha];rfl
   rw[eP ha,vz]
   cases h1:wi a 0 (w.rs.l.length-1)with
   |false=>simp only[go_sem,x7,g1,g2,g5,aS hk,hr,nE,fW,h1,ef,simprocAttr]
   | true =>
    rw[ak rfl]
    have rQ:=(iJ.1 h1).1
    rcases vR k with FY|FY
    ·have aC:sI l k<a:=by rw[FY,show sI l 0=-1 from rfl];omega
     rw[ak aC]
     have h0:decide ((0:Int)<(k:Int))=false:=by simp;omega
     simp only[go_sem,x7,g1,g2,g5,aS hk,hr,nE,fW,h1,h0,bK hk (show(l.length:Int)<_ by omega),simprocAttr]
     refine ui (ih _ _ ?_) ?_
     ·exact⟨g1,g2,rfl,rfl⟩
     ·rw[Gf]
    ·obtain⟨b,hb⟩:=get_some (l:=l) (k:=k-1) (by omega)
     have gA:=cq (o:=o) (es:=1) (f:=aD) hb
     have h0:decide ((0:Int)<(k:Int))=true:=by simp;omega
     have jQ:IntKind.i64.wrap ((k:Int)-1)=((k-1:Nat):Int):=by rw[bW (by omega) (by omega)];omega
     have jD:sI l k=b:=by
      obtain⟨j,rfl⟩:∃j,k=j+1:=⟨k-1,by omega⟩
      show l.getD j 0=b
      rw[List.getD,show l[j]? =some b from hb];rfl
     rw[jD]
     by_cases gJ:b<a
     ·rw[ak gJ]
      have hd:decide (a≤b)=false:=by simp;omega
      simp only[go_sem,x7,g1,g2,g5,aS hk,hr,nE,fW,h1,h0,jQ,gA,hd,bK hk (show(l.length:Int)<_ by omega),simprocAttr]
      refine ui (ih _ _ ?_) ?_
      ·exact⟨g1,g2,rfl,rfl⟩
      ·rw[Gf]
     ·rw[aq gJ]
      have hd:decide (a≤b)=true:=by simp;omega
      simp only[go_sem,x7,g1,g2,g5,aS hk,hr,nE,fW,h1,h0,jQ,gA,hd,simprocAttr]
  ·rintro ρ m ⟨g1,g2,g5,rfl⟩
   simp only[go_sem,x7,Mx,g1,g5,bM,simprocAttr]
   rw[eR];rfl
 rw[aL (show AP 9=some D4 from rfl) rfl]
 simp only[go_sem,Ty,simprocAttr]
 exact key 0 _ _ (bg _) ⟨rfl,rfl,rfl,rfl⟩
end
section
variable{s:ae}
def tj (x y:Int):Int:=if x<y then-1 else if y<x then 1 else 0
theorem NH {x:Int}:aw AP (.fn 106) [I x] s=some (B false,s):=by
 rw[aL (show AP 106=some DQ from rfl) rfl]
 simp only[go_sem,To,aY,eA,qs,simprocAttr]
theorem aez {x y:Int}:aw AP (.fn 92) [I x,I y] s=some (I (tj x y),s):=by
 unfold tj
 by_cases h1:x<y
 ·rw[ak h1]
  have hd:decide (x<y)=true:=bP h1
  rw[aL (show AP 92=some yn from rfl) rfl]
  simp only[go_sem,H9,NH,hd,simprocAttr]
 ·rw[aq h1]
  have hd:decide (x<y)=false:=bS h1
  by_cases h2:y<x
  ·rw[ak h2]
   have oT:decide (y<x)=true:=bP h2
   rw[aL (show AP 92=some yn from rfl) rfl]
   simp only[go_sem,H9,NH,hd,oT,simprocAttr]
  ·rw[aq h2]
   have oT:decide (y<x)=false:=bS h2
   rw[aL (show AP 92=some yn from rfl) rfl]
   simp only[go_sem,H9,NH,hd,oT,simprocAttr]
def kH:List Int→List Int→Int
 |[],[]=>0
 |[],_::_=>-1
 |_::_,[]=>1
 |x::a,y::b=>if tj x y=0 then kH a b else tj x y
theorem Jd {x y:Int}:tj x y=0↔x=y:=by unfold tj;split<;>(try split)<;>omega
theorem YF:∀{a b:List Int},kH a b=0↔a=b
 |[],[]=>by simp[kH]
 |[],_::_=>by simp[kH]
 |_::_,[]=>by simp[kH]
 | x :: a, y :: b => by
  simp only[kH,vM]
  by_cases h:tj x y=0
  ·rw[ak h,YF,Jd.1 h];simp
  ·rw[aq h]
   exact⟨fun e=>absurd e h,fun e=>absurd (Jd.2 e.1) h⟩
theorem atM {a b:List Int} {o1 o2:Own} {e1 e2:Nat} (h1:a=[]∨e1=1) (h2:b=[]∨e2=1) (la:(a.length:Int)<1000000) (lb:(b.length:Int)<1000000):
  aw AP (.fn 68) [.slice o1 e1 (a.map aD),.slice o2 e2 (b.map aD)] s=some (I (kH a b),s):=by
 have key:∀k ρ m,k≤a.length→(ρ 0=.slice o1 e1 (a.map aD)∧ρ 1=.slice o2 e2 (b.map aD)∧ρ 9=.slice o1 e1 (a.map aD)∧ρ 10=I a.length∧ρ 11=I k∧k≤b.length∧m=s.push ⟨[],[]⟩)→
   go AP afU (.c (.loop ye)::anB) ⟨ρ,m⟩=some (I (kH (a.drop k) (b.drop k)),s):=by
  refine ck a.length _ (fun k=>some (I (kH (a.drop k) (b.drop k)),s)) ?_ ?_
  ·rintro k ρ m hk ⟨g0,g1,g9,g10,g11,OZ,rfl⟩ ih
   obtain⟨x,hx⟩:=get_some hk
   have dU:e1=1:=by rcases h1 with h|h;(rw[h]at hx;simp at hx);exact h
   subst dU
   have hr:=cq (f:=aD) (o:=o1) (es:=1) hx
   have XV:a.drop k=x::a.drop (k+1):=eP hx
   have vd:=bK hk (show(a.length:Int)<_ by omega)
   by_cases hb:k<b.length
   ·obtain⟨y,hy⟩:=get_some hb
    have dU:e2=1:=by rcases h2 with h|h;(rw[h]at hy;simp at hy);exact h
    subst dU
    have gA:=cq (f:=aD) (o:=o2) (es:=1) hy
    have hyd:b.drop k=y::b.drop (k+1):=eP hy
    have nw:decide ((b.length:Int)≤(k:Int))=false:=bS (by omega)
    have hc:∀m:ae,aw AP (.fn 92) [I x,I y] m=some (I (tj x y),m):=fun m=>aez
    rw[XV,hyd]
    simp only[kH]
    by_cases h0:tj x y=0
    ·rw[ak h0]
     rw[h0]at hc
     simp only[go_sem,ye,g1,g9,g10,g11,aS hk,hr,gA,nw,hc,vd,aY,eA,simprocAttr]
     refine ih _ _ ?_
     exact⟨g0,g1,g9,g10,rfl,by omega,rfl⟩
    ·rw[aq h0]
     simp only[go_sem,ye,g1,g9,g10,g11,aS hk,hr,gA,nw,hc,h0,aY,ig,simprocAttr]
   ·have nw:decide ((b.length:Int)≤(k:Int))=true:=bP (by omega)
    rw[XV,R5 (as:=b) (i:=k) (by omega)]
    simp only[kH]
    simp only[go_sem,ye,g1,g9,g10,g11,aS hk,hr,nw,simprocAttr]
  ·rintro ρ m ⟨g0,g1,g9,g10,g11,OZ,rfl⟩
   rw[eR]
   by_cases hb:a.length<b.length
   ·have hd:decide ((a.length:Int)<(b.length:Int))=true:=bP (by omega)
    obtain⟨y,hy⟩:=get_some hb
    rw[eP hy]
    simp only[kH]
    simp only[go_sem,ye,IM,g0,g1,g10,g11,bM,hd,simprocAttr]
   ·have hd:decide ((a.length:Int)<(b.length:Int))=false:=bS (by omega)
    rw[R5 (as:=b) (i:=a.length) (by omega)]
    simp only[kH]
    simp only[go_sem,ye,IM,g0,g1,g10,g11,bM,hd,simprocAttr]
 rw[aL (show AP 68=some ET from rfl) rfl]
 simp only[go_sem,T9,simprocAttr]
 refine key 0 _ _ (bg _) ?_
 exact⟨rfl,rfl,rfl,rfl,rfl,bg _,rfl⟩
def kA (p q:P):Int:=if p.req=q.req then(if p.start=q.start then kH p.an.l q.an.l else p.start-q.start)else p.req-q.req
theorem AB {p q:P}:kA p q=0↔kP p=kP q:=by
 unfold kA kP
 by_cases h1:p.req=q.req
 ·rw[ak h1]
  by_cases h2:p.start=q.start
  ·rw[ak h2,YF,h1,h2];simp
  ·rw[aq h2]
   exact⟨fun e=>by omega,fun e=>by simp at e;exact absurd e.2.1 h2⟩
 ·rw[aq h1]
  exact⟨fun e=>by omega,fun e=>by simp at e;exact absurd e.1 h1⟩
theorem Rk {p q:P} (hs:Ok s) (hp:p.an.ok 1) (hq:q.an.ok 1) (lp:p.an.l.length≤1000) (lq:q.an.l.length≤1000)
  (b1:-1000000≤p.req∧p.req≤1000000) (b2:-1000000≤q.req∧q.req≤1000000) (b3:-1000000≤p.start∧p.start≤1000000) (b4:-1000000≤q.start∧q.start≤1000000):
  aw AP (.fn 36) [.agg (aj p),.agg (aj q)] s=some (I (kA p q),s):=by
 have hz:∀m:ae,aw AP (.fn 68) [p.an.v aD,q.an.v aD] m=some (I (kH p.an.l q.an.l),m):=fun m=>atM hp.1 hq.1 (by omega) (by omega)
 have w1:IntKind.i64.wrap (p.req-q.req)=p.req-q.req:=bW (by omega) (by omega)
 have w2:IntKind.i64.wrap (p.start-q.start)=p.start-q.start:=bW (by omega) (by omega)
 unfold kA
 simp only[Sl.v]at hz
 by_cases h1:p.req=q.req
 ·rw[ak h1]
  have d1:decide (p.req=q.req)=true:=bP h1
  by_cases h2:p.start=q.start
  ·rw[ak h2]
   have d2:decide (p.start=q.start)=true:=bP h2
   rw[aL (show AP 36=some yu from rfl) rfl]
   simp only[go_sem,IC,d1,d2,aY,oI,kL,hz,simprocAttr]
  ·rw[aq h2]
   have d2:decide (p.start=q.start)=false:=bS h2
   rw[aL (show AP 36=some yu from rfl) rfl]
   simp only[go_sem,IC,d1,d2,aY,oI,kL,mW,w2,simprocAttr]
 ·rw[aq h1]
  have d1:decide (p.req=q.req)=false:=bS h1
  rw[aL (show AP 36=some yu from rfl) rfl]
  simp only[go_sem,IC,d1,aY,oI,mW,w1,simprocAttr]
end
section
variable{w:W}
def zs (w:W):List P→List P→Prop
 |_,[]=>True
 |a,p::b=>dN w p a=0∧zs w (a++[p]) b
theorem abx:∀{b a:List P},(∀(j:Nat) x,b[j]? =some x→dN w x (a++b.take j)=0)→zs w a b
 |[],_,_=>trivial
 | p :: b, a, h => by
  refine⟨?_,abx fun j x hj=>?_⟩
  ·have:=h 0 p rfl;simpa using this
  ·have:=h (j+1) x hj
   rw[gW];exact this
theorem abw:∀{b a:List P} {l:List P},l=a++b→zs w a b→fO (fun i x=>dN w x (l.take i)) a.length b=none
 |[],_,_,_,_=>rfl
 |p::b,a,l,hl,h=>by
  simp only[fO]
  have e:l.take a.length=a:=by rw[hl,List.take_left]
  rw[e,ak h.1]
  have:=abw (b:=b) (a:=a++[p]) (l:=l) (by rw[hl,gW];rfl) h.2
  rw[cj]at this
  exact this
theorem aeg {l:List P} (h:zs w [] l):dP w l=(0,0):=by
 have:=abw (b:=l) (a:=[]) (l:=l) rfl h
 unfold dP
 rw[show([]:List P).length=0 from rfl]at this
 rw[this]
theorem aqw {p:P} {a:List P} (h:dN w p a=0):ie a<p.req∧dL w p a=false:=by
 unfold dN at h
 by_cases c1:wi p.req 0 (w.rs.l.length-1)=true
 ·rw [ak c1] at h
  by_cases c2:ie a<p.req
  ·refine⟨c2,?_⟩
   rw[ak c2]at h
   by_cases c3:wi p.start (w.rq p.req).lo ((w.rq p.req).hi+1-(w.rq p.req).len)=true
   ·rw [ak c3] at h
    by_cases c4:(p.an.l.length:Int)=(w.rq p.req).need
    ·rw[ak c4]at h
     by_cases c5:eN (w.rq p.req) (-1) p.an.l=0
     ·rw[ak c5]at h
      by_cases c6:(p.an.l.any fun a=>!cS w a p.start (w.rq p.req).len)=true
      ·rw[ak c6]at h;exact absurd h (by decide)
      ·rw[aq c6]at h
       cases hc:dL w p a with
       |false=>rfl
       |true=>rw[hc]at h;exact absurd h (by decide)
     ·rw[aq c5]at h;exact absurd h c5
    ·rw[aq c4]at h;exact absurd h (by decide)
   ·rw[aq c3]at h;exact absurd h (by decide)
  ·rw[aq c2]at h;exact absurd h (by decide)
 ·rw[aq c1]at h;exact absurd h (by decide)
theorem anV {a b:List P} (h:b≠[]):ie (a++b)=ie b:=by
 unfold ie
 rw[List.getLast?_append,List.getLast?_eq_some_getLast h];rfl
theorem aby:∀{b a:List P},zs w a b→b≠[]→ie a+b.length<w.rs.l.length
 |[],_,_,h=>absurd rfl h
 | p :: b, a, h, _ => by
  have h1:=(aqw h.1).1
  have h2:=Zz h.1
  by_cases hb:b=[]
  ·subst hb;simp;omega
  ·have:=aby h.2 hb
   rw[anV (by simp)]at this
   have e:ie [p]=p.req:=rfl
   rw[e]at this
   simp only[dO]
   omega
theorem at6 (hw:Wk w) {l:List P} (h:zs w [] l):l.length≤12:=by
 have er:=hw.v.rl
 by_cases hl:l=[]
 ·subst hl;simp
 ·have:=aby h hl
  have e:ie ([]:List P)=-1:=rfl
  rw[e]at this
  omega
theorem SS {r:R}:∀{g:List Int} {k:Int},g.Pairwise (· <·)→(∀a∈g,a∈r.an.l∧k<a)→eN r k g=0
 |[],_,_,_=>rfl
 |a::t,k,hp,h=>by
  have ha:=h a (by simp)
  have hm:(r.an.l.any fun b=>decide (a=b))=true:=fK.2 ⟨a,ha.1,by simp⟩
  simp only[eN]
  rw[ak hm,ak ha.2]
  exact SS (R2 hp) fun b hb=>⟨(h b (jf _ hb)).1,abL hp hb⟩
theorem aqx (hw:Wk w) {i:Int} (h0:0≤i) (h1:i<w.rs.l.length) {x:P} (hx:x∈dS w i) {a:List P} (hl:ie a<i) (hc:dL w x a=false):dN w x a=0:=by
 obtain⟨dV,hr,qO,xg,hn,_,jQ,cd⟩:=nF hw h0 h1 hx
 have hq:=hw.rq h0 h1
 unfold dN
 rw[hr]
 rw[ak (iJ.2 ⟨h0,by omega⟩),ak hl,ak (iJ.2 ⟨qO,by omega⟩),ak hn]
 have Bd:eN (w.rq i) (-1) x.an.l=0:=SS (hq.CI.sublist jQ) fun b hb=>⟨jQ.subset hb,by have:=(hq.tc b (jQ.subset hb)).1;omega⟩
 have gU:¬(x.an.l.any fun a=>!cS w a x.start (w.rq i).len)=true:=by
  rw[fK]
  rintro⟨b,hb,h⟩
  rw[cd b hb]at h;exact absurd h (by decide)
 rw[ak Bd,aq gU,hc]
 rfl
end
section
variable{w:W}
theorem aqK {i st:Int} (h0:0≤i) (h1:i<w.rs.l.length):l8 (cW w) i st=l8 w i st:=by
 unfold l8 tV
 rw[wj h0 h1]
 simp only[Ze]
 rfl
theorem ZJ {i:Int} (h0:0≤i) (h1:i<w.rs.l.length):∀{n:Nat} {st:Int},jJ (cW w) i st n=jJ w i st n
 |0,_=>rfl
 |n+1,st=>by simp only[jJ];rw[aqK h0 h1,ZJ h0 h1]
theorem aqN {i:Int} (h0:0≤i) (h1:i<w.rs.l.length):dS (cW w) i=dS w i:=by
 unfold dS
 rw[ZJ h0 h1,wj h0 h1];rfl
theorem aqH (hw:Wk w) {l:List P} {i:Int} (h0:0≤i) (h1:i<w.rs.l.length) (hl:∀x∈l,0≤x.req∧x.req<w.rs.l.length):ct (cW w) (l.map cP) i=ct w l i:=by
 unfold ct
 rw[aqN h0 h1]
 apply Hn
 intro x hx
 obtain⟨dV,hr,_,_,_,Bd,_⟩:=nF hw h0 h1 hx
 have sw:cP x=x:=by
  unfold cP;rw[←Bd]
 have:=U6 (w:=w) (p:=x) (l:=l) dV.r0 dV.r1 hl
 rw[sw]at this
 rw[this]
end
theorem YE:∀{a b c:List Int},lexB a b=true→lexB b c=true→lexB a c=true
 |[],_,[],_,h=>by cases ‹List Int› <;>simp[lexB]at h
 |[],_,_::_,_,_=>rfl
 |_::_,[],_,h,_=>by simp[lexB]at h
 |x::a,y::b,[],_,h=>by simp[lexB]at h
 | x :: a, y :: b, z :: c, h1, h2 => by
  simp only[lexB]at h1 h2⊢
  by_cases eE:x=y
  ·subst eE
   rw[ak rfl]at h1
   by_cases qT:x=z
   ·subst qT
    rw[ak rfl]at h2⊢
    exact YE h1 h2
   ·rw[aq qT]at h2⊢;exact h2
  ·rw[aq eE,dY]at h1
   by_cases qT:y=z
   ·subst qT
    rw[aq eE];simpa using h1
   ·rw[aq qT,dY]at h2
    rw[aq (by omega)];simp;omega
theorem Qj:∀{a b:List Int},lexB a b=false→lexB b a=false→a=b
 |[],[],_,_=>rfl
 |[],_::_,h,_=>by simp[lexB]at h
 |_::_,[],_,h=>by simp[lexB]at h
 | x :: a, y :: b, h1, h2 => by
  simp only[lexB]at h1 h2
  by_cases eE:x=y
  ·subst eE
   rw[ak rfl]at h1 h2
   rw[Qj h1 h2]
  ·rw[aq eE,rJ]at h1
   rw[aq (fun e=>eE (sR e)),rJ]at h2
   omega
theorem Oh:∀{k:Nat} {l:List Int},l.Pairwise (· <·)→(bf k l).Pairwise fun a b=>lexB a b=true
 |0,_,_=>by simp[bf]
 |_+1,[],_=>by simp[bf]
 | k + 1, x :: r, h => by
  simp only[bf]
  rw[jW]
  refine⟨?_,Oh (R2 h),?_⟩
  ·rw[ru]
   refine(Oh (k:=k) (R2 h)).imp fun gJ=>?_
   simp only[lexB,bB];exact gJ
  ·intro a ha b hb
   obtain⟨g,hg,rfl⟩:=cC.1 ha
   have cw:=tz hb
   cases b with
   |nil=>simp at cw
   |cons y t=>
    have hy:y∈r:=(A3 hb).subset (by simp)
    have eE:=abL h hy
    simp only[lexB]
    rw[aq (by omega)];simpa using eE
section
variable{w:W}
theorem Qk {x:Int} {a b:List Int}:lexB (x::a) (x::b)=lexB a b:=by simp only[lexB,bB]
theorem aqM {i st:Int} (hq:(w.rq i).an.l.Pairwise (· <·)):(l8 w i st).Pairwise fun a b=>lexB (kP a) (kP b)=true:=by
 unfold l8
 rw[ru]
 refine(Oh (List.Pairwise.sublist Ls hq)).imp fun gJ=>?_
 show lexB (i::st::_) (i::st::_)=true
 rw[Qk,Qk];exact gJ
theorem ZN {i:Int} (hq:(w.rq i).an.l.Pairwise (· <·)):∀{n:Nat} {st:Int},(jJ w i st n).Pairwise fun a b=>lexB (kP a) (kP b)=true
 |0,_=>List.Pairwise.nil
 |n+1,st=>by
  simp only[jJ]
  rw[jW]
  refine⟨aqM hq,ZN hq,?_⟩
  intro a ha b hb
  obtain⟨t,h1,_,h3⟩:=QP hb
  obtain⟨g,_,rfl⟩:=cC.1 ha
  obtain⟨g2,_,rfl⟩:=cC.1 h3
  show lexB (i::st::_) (i::t::_)=true
  rw[Qk]
  simp only[lexB]
  rw[aq (by omega)];simp;omega
theorem aqT (hw:Wk w) {i:Int} (h0:0≤i) (h1:i<w.rs.l.length):(dS w i).Pairwise fun a b=>lexB (kP a) (kP b)=true:=ZN (hw.rq h0 h1).CI
end
def cB:List P→List P→Bool
 |[],[]=>false
 |[],_::_=>true
 |_::_,[]=>false
 |x::r,y::t=>if kP x=kP y then cB r t else lexB (kP x) (kP y)
theorem Nn:∀{l:List P},cB l l=false
 |[]=>rfl
 |x::r=>by simp only[cB,bB];exact Nn
theorem DB:∀{a b c:List P},cB a b=true→cB b c=true→cB a c=true
 |[],_,[],_,h=>by cases ‹List P› <;>simp[cB]at h
 |[],_,_::_,_,_=>rfl
 |_::_,[],_,h,_=>by simp[cB]at h
 |x::a,y::b,[],_,h=>by simp[cB]at h
 | x :: a, y :: b, z :: c, h1, h2 => by
  simp only[cB]at h1 h2⊢
  by_cases eE:kP x=kP y
  ·rw[ak eE]at h1
   rw[eE]
   by_cases qT:kP y=kP z
   ·rw[ak qT]at h2⊢
    exact DB h1 h2
   ·rw[aq qT]at h2⊢;exact h2
  ·rw[aq eE]at h1
   by_cases qT:kP y=kP z
   ·rw[aq (by rw[←qT];exact eE),←qT];exact h1
   ·rw[aq qT]at h2
    have h3:=YE h1 h2
    rw[aq (by intro e;rw[e,GG]at h3;exact absurd h3 (by decide))];exact h3
theorem Np:∀{a b:List P},cB a b=false→cB b a=false→a.map kP=b.map kP
 |[],[],_,_=>rfl
 |[],_::_,h,_=>by simp[cB]at h
 |_::_,[],_,h=>by simp[cB]at h
 | x :: a, y :: b, h1, h2 => by
  simp only[cB]at h1 h2
  by_cases eE:kP x=kP y
  ·rw[ak eE]at h1
   rw[ak (sR eE)]at h2
   rw[iM,iM,eE,Np h1 h2]
  ·rw[aq eE]at h1
   rw[aq (fun e=>eE (sR e))]at h2
   exact absurd (Qj h1 h2) eE
theorem IZ:∀{a b c:List P},cB (a++b) (a++c)=cB b c
 |[],_,_=>rfl
 |x::a,b,c=>by simp only[kq,cB,bB];exact IZ
theorem ac5 {a c:List P} (h:c≠[]):cB a (a++c)=true:=by
 have:=IZ (a:=a) (b:=[]) (c:=c)
 rw[jd]at this
 rw[this]
 cases c with
 |nil=>exact absurd rfl h
 |cons _ _=>rfl
theorem U1 {p q:P}:pL p q=0↔kP p=kP q:=by
 refine⟨fun h=>?_,aex⟩
 unfold pL at h
 cases h1:lexB (kP p) (kP q)with
 |true=>rw[h1,ak rfl]at h;exact absurd h (by decide)
 |false=>
  rw[h1,aq (by decide)]at h
  cases h2:lexB (kP q) (kP p)with
  |true=>rw[h2,ak rfl]at h;exact absurd h (by decide)
  |false=>exact Qj h1 h2
def ev (a b:List P) (i:Int):Bool:=!decide ((aM a i).map kP=(aM b i).map kP)
def tA (l:List ByteArray) (x:ByteArray):Bool:=l.any fun m=>decide (m=x)
def gn (w:W) (a b:List P):Nat→List ByteArray
 |0=>[]
 |k+1=>if(ev a b (k:Int)&&!tA (gn w a b k) (w.rq (k:Int)).bw)=true then gn w a b k++[(w.rq (k:Int)).bw]else gn w a b k
theorem aaX {w:W} {a b:List P}:∀{k:Nat},(gn w a b k).length≤k
 |0=>aH _
 |k+1=>by
  have ih:=aaX (w:=w) (a:=a) (b:=b) (k:=k)
  simp only[gn]
  split
  ·rw[cj,xR];omega
  ·omega
section
variable{s:ae} {w:W}
theorem at2 {l:List ByteArray} {o:Own} {e:Nat} {x:ByteArray} (he:l=[]∨e=1) (hl:l.length≤100000):aw AP (.fn 70) [.slice o e (l.map me),S x] s=some (I (du (fun m=>decide (m=x)) l),s):=by
 have key:∀k ρ m,k≤l.length→(ρ 0=.slice o e (l.map me)∧ρ 1=S x∧ρ 7=I l.length∧ρ 8=I k∧(∀j y,j<k→l[j]? =some y→decide (y=x)=false)∧m=s.push ⟨[],[]⟩)→go AP af1 (.c (.loop DA)::anJ) ⟨ρ,m⟩=some (I (du (fun m=>decide (m=x)) l),s):=by
  refine ck l.length _ _ ?_ ?_
  ·rintro k ρ m hk ⟨h0,h1,h7,h8,hp,rfl⟩ ih
   obtain⟨a,ha⟩:=get_some hk
   have he:e=1:=by rcases he with h|h;(rw[h]at ha;simp at ha);exact h
   subst he
   have hr:=cq (o:=o) (es:=1) (f:=me) ha
   have vd:=bK hk (show(l.length:Int)<_ by omega)
   by_cases dq:a=x
   ·have hd:decide (x=a)=true:=bP dq.symm
    simp only[go_sem,DA,h0,h1,h7,h8,aS hk,hr,hd,simprocAttr]
    rw[tn ha (bP dq) hp]
   ·have hd:decide (x=a)=false:=bS fun e=>dq e.symm
    simp only[go_sem,DA,h0,h1,h7,h8,aS hk,hr,hd,vd,simprocAttr]
    refine ih _ _ ?_
    refine⟨h0,h1,h7,rfl,fun j y hj hy=>?_,rfl⟩
    by_cases e:j=k
    ·subst e;rw[ha]at hy;injection hy with hy;rw[←hy];exact bS dq
    ·exact hp j y (by omega) hy
  ·rintro ρ m ⟨h0,h1,h7,h8,hp,rfl⟩
   simp only[go_sem,DA,Nl,h7,h8,bM,simprocAttr]
   rw[uM hp]
 rw[aL (show AP 70=some E7 from rfl) rfl]
 simp only[go_sem,Um,simprocAttr]
 exact key 0 _ _ (bg _) ⟨rfl,rfl,rfl,rfl,fun j y hj=>absurd hj (da _),rfl⟩
theorem atT {l:List ByteArray} {o:Own} {e:Nat} {x:ByteArray} (he:l=[]∨e=1) (hl:l.length≤100000):aw AP (.fn 43) [.slice o e (l.map me),S x] s=some (B (tA l x),s):=by
 have h:=at2 (s:=s.push ⟨[],[]⟩) (o:=o) (x:=x) he hl
 rw[aL (show AP 43=some E1 from rfl) rfl]
 simp only[go_sem,Ug,h,yE,simprocAttr]
 rfl
theorem QJ {l:List P} {i:Int} {p:P} (h:aM l i=some p):p∈l∧p.req=i:=by
 unfold aM at h
 exact⟨Si h,by have:=Lu h;simpa using this⟩
theorem RS:bV.an.ok 1:=⟨.inl rfl,.inr (.inr ⟨rfl,rfl⟩)⟩
structure oD (l:List P):Prop where
 len:l.length≤1000
 ok:∀p∈l,p.an.ok 1∧p.an.l.length≤1000
 b:∀p∈l,(-1000000≤p.req∧p.req≤1000000)∧-1000000≤p.start∧p.start≤1000000
theorem asg {a b:List P} {o1 o2:Own} {e1 e2:Nat} {i:Int} (hs:Ok s) (h1:a=[]∨e1=3) (h2:b=[]∨e2=3) (ha:oD a) (hb:oD b):
  aw AP (.fn 42) [.slice o1 e1 (a.map aj),.slice o2 e2 (b.map aj),I i] s=some (B (ev a b i),s):=by
 have la:=ha.len
 have lb:=hb.len
 have p1:∀m:ae,Ok m→aw AP (.fn 45) [.slice o1 e1 (a.map aj),I i] m=some (.tuple [.agg (aj ((aM a i).getD bV)),B (aM a i).isSome],m):=fun m hm=>GV hm h1 (by omega) fun p h=>(ha.ok p h).1
 have p2:∀m:ae,Ok m→aw AP (.fn 45) [.slice o2 e2 (b.map aj),I i] m=some (.tuple [.agg (aj ((aM b i).getD bV)),B (aM b i).isSome],m):=fun m hm=>GV hm h2 (by omega) fun p h=>(hb.ok p h).1
 have zok:∀(l:List P),oD l→(((aM l i).getD bV).an.ok 1∧((aM l i).getD bV).an.l.length≤1000)∧(-1000000≤((aM l i).getD bV).req∧((aM l i).getD bV).req≤1000000)∧-1000000≤((aM l i).getD bV).start∧((aM l i).getD bV).start≤1000000:=fun l hl=>by
  cases h:aM l i with
  |none=>exact⟨⟨RS,by simp[bV]⟩,by simp[bV],by simp[bV]⟩
  |some p=>have hm:=(QJ h).1;exact⟨hl.ok p hm,hl.b p hm⟩
 have za:=zok a ha
 have zb:=zok b hb
 have hc:∀m:ae,Ok m→aw AP (.fn 36) [.agg (aj ((aM a i).getD bV)),.agg (aj ((aM b i).getD bV))] m=some (I (kA ((aM a i).getD bV) ((aM b i).getD bV)),m):=fun m hm=>
  Rk hm za.1.1 zb.1.1 za.1.2 zb.1.2 za.2.1 zb.2.1 za.2.2 zb.2.2
 have fj:ev a b i=if(aM a i).isSome=(aM b i).isSome then !decide (kA ((aM a i).getD bV) ((aM b i).getD bV)=0)else true:=by
  unfold ev
  cases ea:aM a i with
  |none=>
   cases eb:aM b i with
   |none=>simp[AB]
   |some q=>simp
  |some p=>
   cases eb:aM b i with
   |none=>simp
   |some q=>simp[AB]
 rw[fj]
 have aT:∀p:P,p.an.ok 1→closeAll (aj p)=some (aj p):=fun p hp=>by
  simp only[aj,mq,oH,pK,Sl.close (f:=aD) hp];rfl
 generalize(aM a i).getD bV=pa at*
 generalize(aM b i).getD bV=pb at*
 generalize(aM a i).isSome=ta at*
 generalize(aM b i).isSome=tb at*
 have p1:=fun r=>p1 (s.push r) (hs.push r)
 have p2:=fun r=>p2 (s.push r) (hs.push r)
 have hc:=fun r=>hc (s.push r) (hs.push r)
 simp only[aj,Sl.v]at p1 p2 hc
 have j4:∀x y:Bool,oK .bool (B x) (B y)=some (x==y):=fun _ _=>rfl
 rw[aL (show AP 42=some Ek from rfl) rfl]
 cases ta<;>cases tb
 ·simp only[bB]
  simp only[go_sem,Dh,hs,p1,p2,hc,j4,aY,oI,Uo,kL,simprocAttr]
 ·simp only[ef,cE]
  simp only[go_sem,Dh,hs,p1,p2,j4,show(false==true)=false from rfl,mW,simprocAttr]
 ·simp only[Bool.true_eq_false,cE]
  simp only[go_sem,Dh,hs,p1,p2,j4,show(true==false)=false from rfl,mW,simprocAttr]
 ·simp only[bB]
  simp only[go_sem,Dh,hs,p1,p2,hc,j4,aY,oI,Uo,kL,simprocAttr]
theorem arx {a b:List P} {o1 o2:Own} {e1 e2:Nat} {i:Int} (hs:Ok s) (h1:a=[]∨e1=3) (h2:b=[]∨e2=3) (la:a.length≤1000) (lb:b.length≤1000) (oa:∀p∈a,p.an.ok 1∧p.an.l.length≤1000) (ob:∀p∈b,p.an.ok 1∧p.an.l.length≤1000):
  aw AP (.fn 40) [.slice o1 e1 (a.map aj),.slice o2 e2 (b.map aj),I i] s=some (B (ev a b i),s):=by
 have p1:∀m:ae,aw AP (.fn 13) [.slice o1 e1 (a.map aj),I i] m=some (I (du (fun p:P=>decide (p.req=i)) a),m):=fun m=>QW h1 (by omega)
 have p2:∀m:ae,aw AP (.fn 13) [.slice o2 e2 (b.map aj),I i] m=some (I (du (fun p:P=>decide (p.req=i)) b),m):=fun m=>QW h2 (by omega)
 have fa:=AW (p:=fun p:P=>decide (p.req=i)) (l:=a)
 have fb:=AW (p:=fun p:P=>decide (p.req=i)) (l:=b)
 have q1:decide ((-1:Int)<0)=true:=rfl
 have q2:decide ((0:Int)≤-1)=false:=rfl
 have q3:∀k:Nat,decide ((k:Int)<0)=false:=fun k=>by simp
 have q4:∀k:Nat,decide ((0:Int)≤(k:Int))=true:=fun k=>by simp
 rcases fa with⟨f1,f2⟩|⟨ka,pa,f1,f3,f2⟩
 ·have ea:aM a i=none:=f1
  rcases fb with⟨g1,g2⟩|⟨kb,pb,g1,g3,g2⟩
  ·have eb:aM b i=none:=g1
   have fj:ev a b i=false:=by unfold ev;rw[ea,eb];simp
   rw[f2]at p1
   rw[g2]at p2
   rw[fj]
   rw[aL (show AP 40=some wv from rfl) rfl]
   simp only[go_sem,C7,p1,p2,simprocAttr]
  ·have eb:aM b i=some pb:=g1
   have fj:ev a b i=true:=by unfold ev;rw[ea,eb];simp
   rw[f2]at p1
   rw[g2]at p2
   rw[fj]
   rw[aL (show AP 40=some wv from rfl) rfl]
   simp only[go_sem,C7,p1,p2,q4,simprocAttr]
 ·have ea:aM a i=some pa:=f1
  rcases fb with⟨g1,g2⟩|⟨kb,pb,g1,g3,g2⟩
  ·have eb:aM b i=none:=g1
   have fj:ev a b i=true:=by unfold ev;rw[ea,eb];simp
   rw[f2]at p1
   rw[g2]at p2
   rw[fj]
   rw[aL (show AP 40=some wv from rfl) rfl]
   simp only[go_sem,C7,p1,p2,q3,q4,simprocAttr]
  ·have eb:aM b i=some pb:=g1
   have fj:ev a b i=!decide (pL pa pb=0):=by unfold ev;rw[ea,eb];simp[U1]
   rw[f2]at p1
   rw[g2]at p2
   rw[fj]
   have ns:e1=3:=by rcases h1 with h|h;(rw[h]at f3;simp at f3);exact h
   have kC:e2=3:=by rcases h2 with h|h;(rw[h]at g3;simp at g3);exact h
   subst ns
   subst kC
   have r1:=cq (o:=o1) (es:=3) (f:=aj) f3
   have r2:=cq (o:=o2) (es:=3) (f:=aj) g3
   have ma:=bQ f3
   have mb:=bQ g3
   have hc:∀m:ae,Ok m→aw AP (.fn 39) [.agg (aj pa),.agg (aj pb)] m=some (I (pL pa pb),m):=fun m hm=>ZV hm (oa pa ma).1 (ob pb mb).1 (oa pa ma).2 (ob pb mb).2
   have hc:=fun r=>hc (s.push r) (hs.push r)
   simp only[aj,Sl.v]at r1 r2 hc
   rw[aL (show AP 40=some wv from rfl) rfl]
   simp only[go_sem,C7,p1,p2,q3,r1,r2,hc,aY,oI,simprocAttr]
end
def Hb (w:W) (a b:List P):Int:=if(kJ w a).2=0 then(dP w b).2 else(kJ w a).2
section
variable{s:ae} {w:W}
theorem oD.of (hw:Wk w) {l:List P} (hl:gG l) (h:∀p∈l,ch w p):oD l:=
 ⟨by have:=hl.len;omega,fun p hp=>⟨(hl.ok p hp).1,by have:=(hl.ok p hp).2;omega⟩,fun p hp=>by
  have h1:=h p hp
  have:=h1.r0;have:=h1.r1;have:=h1.s0;have:=h1.s1;have:=hw.v.rl
  omega⟩
theorem as7 {x:ByteArray}:closeAll [S x]=some [S x]:=rfl
theorem asd {a b:List P} {o1 o2:Own} {e1 e2:Nat} (hs:Ok s) (hw:w.Ok) (hf:w.kn) (ha:gG a) (hb:gG b) (h1:a=[]∨e1=3) (h2:b=[]∨e2=3):
  aw AP (.fn 16) [w.v,.agg [.slice o1 e1 (a.map aj),.slice o2 e2 (b.map aj)]] s=some (.tuple [bG 1 ((if Hb w a b=0 then gn w a b w.rs.l.length else[]).map me),I (Hb w a b)],s):=by
 have ho:∀r,aw AP (.fn 41) [w.v,.slice o1 e1 (a.map aj)] (s.push r)=some (.tuple [if(dp w).2.2=0 then OW w else NP,I (kJ w a).1,I (kJ w a).2],s.push r):=fun r=>aal (hs.push r) hw hf ha h1
 unfold Hb
 by_cases hz:(kJ w a).2=0
 ·have jR : (dp w).2.2 = 0 := by
   unfold kJ at hz
   by_cases h:(dp w).2.2=0
   ·exact h
   ·rw[aq h]at hz;exact absurd hz h
  have cz:Wk w:=⟨hw,hf,rm jR⟩
  have hza:(dP w a).2=0:=by unfold kJ at hz;rwa [ak jR]at hz
  have fj:∀r,aw AP (.fn 28) [OW w,.slice o2 e2 (b.map aj)] (s.push r)=some (.tuple [I (dP w b).1,I (dP w b).2],s.push r):=fun r=>RG (hs.push r) cz hb h2
  rw[ak jR,hz]at ho
  simp only[hz,bB]
  by_cases Gt:(dP w b).2=0
  ·simp only[Gt,bB]
   have tka:=oD.of cz ha (UQ cz ha hza)
   have tkb:=oD.of cz hb (UQ cz hb Gt)
   have er:=cz.v.rl
   have yU:∀(i:Int) (m:ae),Ok m→aw AP (.fn 42) [.slice o1 e1 (a.map aj),.slice o2 e2 (b.map aj),I i] m=some (B (ev a b i),m):=fun i m hm=>asg hm h1 h2 tka tkb
   rw[Gt]at fj
   have key:∀(k:Nat) ρ m,k≤w.rs.l.length→(ρ 3=.ptr s.ag.length 1 0∧ρ 33=w.rs.v bU∧ρ 34=I w.rs.l.length∧ρ 35=I k∧∃x og bx tk,Acc s.ag.length 1 ((gn w a b k).map me) x og tk∧ρ 9=x∧m=s.push ⟨c8 w::[.slice o1 e1 (a.map aj),.slice o2 e2 (b.map aj)]::bx,tk⟩)→
     go AP afJ (.c (.loop Af)::ani) ⟨ρ,m⟩=some (.tuple [bG 1 ((gn w a b w.rs.l.length).map me),I 0],s):=by
    refine ck w.rs.l.length _ _ ?_ ?_
    ·rintro k ρ m hk ⟨g3,wK,wL,Fu,x,og,bx,tk,hA,g9,rfl⟩ ih
     obtain⟨r,fG⟩:=get_some hk
     have hr:=Sl.ix (f:=bU) hw.rs fG
     have XF:w.rq (k:Int)=r:=by unfold W.rq;rw[Ci,fG];rfl
     have vd:=bK hk (show(w.rs.l.length:Int)<_ by omega)
     have yU:=fun r=>yU (k:Int) (s.push r) (hs.push r)
     have w5:=aaX (w:=w) (a:=a) (b:=b) (k:=k)
     have j9:gn w a b (k+1)=if(ev a b (k:Int)&&!tA (gn w a b k) r.bw)=true then gn w a b k++[r.bw]else gn w a b k:=by simp only[gn];rw[XF]
     obtain⟨o9,e9,rfl,yW⟩:=CB hA
     have yW:gn w a b k=[]∨e9=1:=by rcases yW with h|h;exact .inl (by simpa using h);exact .inr h
     have pU:∀m:ae,aw AP (.fn 43) [.slice o9 e9 ((gn w a b k).map me),S r.bw] m=some (B (tA (gn w a b k) r.bw),m):=fun m=>atT yW (by omega)
     generalize a.map aj=ZA at*
     generalize b.map aj=ZB at*
     simp only[bU,Sl.v]at hr wK
     cases hc:ev a b (k:Int)with
     |false=>
      rw[hc]at yU
      rw[hc,jL,aq (by decide)]at j9
      simp only[go_sem,Af,g3,wK,wL,Fu,hs,aS hk,hr,yU,vd,simprocAttr]
      refine ih _ _ ?_
      exact⟨g3,by simp only[Sl.v];exact wK,wL,rfl,_,og,_,tk,by rw[j9];exact hA,g9,rfl⟩
     | true =>
      rw[hc]at yU
      rw[hc,iq]at j9
      cases hh:tA (gn w a b k) r.bw with
      |true=>
       rw[hh]at pU
       rw[hh,kL,aq (by decide)]at j9
       simp only[go_sem,Af,g3,g9,wK,wL,Fu,hs,aS hk,hr,yU,pU,vd,simprocAttr]
       refine ih _ _ ?_
       exact⟨g3,by simp only[Sl.v];exact wK,wL,rfl,_,og,_,tk,by rw[j9];exact hA,g9,rfl⟩
      |false=>
       rw[hh]at pU
       rw[hh,mW,ak rfl]at j9
       obtain⟨x2,fk,mh,a1,a2,_⟩:=hA.append hs .full (ys:=[[S r.bw]]) (by simp) (by rw[bY,xR];omega)
       simp only[go_sem,Af,g3,g9,wK,wL,Fu,hs,aS hk,hr,yU,pU,vd,a1,as7,simprocAttr]
       refine ih _ _ ?_
       refine⟨g3,by simp only[Sl.v];exact wK,wL,rfl,x2,fk,_,mh,?_,rfl,rfl⟩
       rw[j9,iL];exact a2
    ·rintro ρ m ⟨g3,wK,wL,Fu,x,og,bx,tk,hA,g9,rfl⟩
     have dc:=fun m:ae=>hA.leave m
     obtain⟨o9,e9,rfl,yW⟩:=CB hA
     generalize(gn w a b w.rs.l.length).map me=Z at*
     simp only[go_sem,Af,MR,g9,wL,Fu,bM,dc,simprocAttr]
   rw[aL (show AP 16=some yr from rfl) rfl]
   simp only[W.v,c8,Sl.v,OW]at ho fj key⊢
   simp only[go_sem,IA,ho,fj,aY,eA,simprocAttr]
   refine key 0 _ _ (bg _) ?_
   exact⟨rfl,rfl,rfl,rfl,_,none,[],[],Acc.start,rfl,rfl⟩
  ·simp only[Gt,cE]
   rw[aL (show AP 16=some yr from rfl) rfl]
   simp only[W.v,c8,Sl.v,OW]at ho fj
   simp only[go_sem,IA,ho,fj,Gt,aY,ig,simprocAttr]
   rfl
 ·rw[aq hz]
  simp only[aq hz]
  rw[aL (show AP 16=some yr from rfl) rfl]
  simp only[W.v,c8,Sl.v]at ho
  simp only[go_sem,IA,ho,hz,aY,ig,simprocAttr]
  rfl
theorem UN {a b:List P} {i:Int}:ev (a.map cP) (b.map cP) i=ev a b i:=by
 have h:∀l:List P,(aM (l.map cP) i).map kP=(aM l i).map kP:=fun l=>by
  unfold aM
  rw[List.find?_map,LN]
  rfl
 unfold ev
 rw[h,h]
theorem aaV {a b:List P}:∀{k:Nat},k≤w.rs.l.length→gn (cW w) (a.map cP) (b.map cP) k=gn w a b k
 |0,_=>rfl
 |k+1,hk=>by
  simp only[gn]
  rw[aaV (by omega),UN,wj (by omega) (by omega)]
  rfl
end
theorem GD {d b off es n cap:Nat}:mN false (.aO d b off es n cap)=some (I (n:Int)):=rfl
theorem Kz {d b es n:Nat} {i:Nat} (h:i<n):kG none es (.aO d b 0 es n 0) (I (i:Int))=some (.ptr d b (0+i*es)):=by
 have h1:idx (I (i:Int)) n=some i:=by simp[idx];omega
 simp[kG,h1]
theorem Wb {l:List P} {k:Nat} {p:P} (h:l[k]? =some p):qq (0+k*3) 3 (cm l)=some (aj p):=by
 obtain⟨A,B,rfl,rfl⟩:∃A B,l=A++p::B∧A.length=k:=by
  obtain⟨hk,he⟩:=bd.1 h
  refine⟨l.take k,l.drop (k+1),?_,by rw[fV];omega⟩
  rw[←he,List.getElem_cons_drop,HB]
 have hlen:=ni (l:=A++p::B)
 rw[cj,dO]at hlen
 rw[Ji,ak (by omega),yG,Fs,fB,←ni,List.drop_left]
 rfl
structure Cell (X:List AV→ae) (d b:Nat):Prop where
 box:∀r,(X r).box d b=some r
 set:∀r r',(X r).dA d b r'=X r'
 ro:∀r,(X r).ro≤d
 ok:∀r,Ok (X r)
section
variable{X:List AV→ae} {d b:Nat}
theorem Cell.lt (h:Cell X d b) (r:List AV):d<(X r).ag.length:=by
 apply qh
 intro hn
 have:=h.box r
 rw[ae.box,nL (by omega)]at this;simp at this
theorem Cell.push (h:Cell X d b) (q:Rec):Cell (fun r=>(X r).push q) d b:=by
 refine⟨fun r=>eO (h.box r) q,fun r r'=>?_,h.ro,fun r=>(h.ok r).push q⟩
 rw[←h.set r r']
 have:=h.lt r
 simp only[ae.dA,ae.bp,ae.push,KF this]
theorem Cell.store (h:Cell X d b) {q:Rec} {row:List AV} {off n:Nat} {y:AV} (hc:y.cells.all AV.bt=true) (hf:((X row).push q).fitAll d y.cells=some (y.cells,(X row).push q)) (hn:y.cells.length=n) (ho:off+n≤row.length):
  ((X row).push q).store n (.ptr d b off) y=some ((X (setCells row off y.cells)).push q):=by
 have aC:=h.lt row
 have aB:¬d=((X row).push q).cur:=by rw[fD];omega
 have bh:((X row).push q).ro≤d:=h.ro row
 have di:((X row).push q).box d b=some row:=(h.push q).box row
 have cp:((X row).push q).dA d b (setCells row off y.cells)=(X (setCells row off y.cells)).push q:=(h.push q).set row (setCells row off y.cells)
 simp only[ae.store,bh,hn,hc,na,bB,aB,cE,hf,di,ho,cp]
end
theorem aau {P Q R ys:List AV} (h:Q.length=ys.length):setCells (P++(Q++R)) P.length ys=P++(ys++R):=by
 induction Q generalizing P ys with
 |nil=>
  cases ys with
  |nil=>rfl
  |cons y t=>simp at h
 | cons x q ih =>
  cases ys with
  |nil=>simp at h
  |cons y t=>
   simp only[setCells,kq]
   rw[mT]
   have:=ih (P:=P++[y]) (ys:=t) (by simpa using h)
   simp only[cj,dO,iK,gW,kq,kN,fB]at this
   exact this
theorem Cell.asZ {X:List AV→ae} {d b:Nat} (h:Cell X d b) {q:Rec} {A R:List P} {r p:P} (hp:p.an.ok 1) {n:Nat} (hn:n=A.length):
  ((X (cm (A++r::R))).push q).store 3 (.ptr d b (0+n*3)) (.agg (aj p))=some ((X (cm (A++p::R))).push q):=by
 subst hn
 have aT:(aj p).all AV.isClosed=true:=by
  simp only[aj,vK,Ck,sQ]
  have:(p.an.v aD).isClosed=true:=by rcases hp.2 with h|h|h<;>simp[Sl.v,AV.isClosed,AV.iG,h]
  rw[this];rfl
 have hl:=ni (l:=A++r::R)
 rw[cj,dO]at hl
 have:=h.store (q:=q) (row:=cm (A++r::R)) (off:=0+A.length*3) (n:=3) (y:=.agg (aj p)) rfl (Jw aT) rfl (by omega)
 rw[this]
 have e:setCells (cm (A++r::R)) (0+A.length*3) (aj p)=cm (A++p::R):=by
  rw[yG,Fs,yG,Fs,fB,←ni]
  exact aau rfl
 rw[show(AV.agg (aj p)).cells=aj p from rfl,e]
section
variable{s:ae} {w:W}
theorem atY {l:List P} {d b:Nat} {g:FuncId} {caps:List AV} {p:P→Bool} (hb:s.box d b=some (cm l)) (hl:(l.length:Int)<9223372036854775808)
  (hg:∀a∈l,∀r,aw AP (.fn g) (.agg (aj a)::caps) (s.push r)=some (B (p a),s.push r)):aw AP (.fn 72) [.aO d b 0 3 l.length 0,.fn g [] caps] s=some (I (du p l),s):=by
 have key:∀k ρ m,k≤l.length→(ρ 0=.aO d b 0 3 l.length 0∧ρ 1=.fn g [] caps∧ρ 7=I l.length∧ρ 8=I k∧(∀j y,j<k→l[j]? =some y→p y=false)∧m=s.push ⟨[],[]⟩)→go AP VT (.c (.loop yf)::Yk) ⟨ρ,m⟩=some (I (du p l),s):=by
  refine ck l.length _ _ ?_ ?_
  ·rintro k ρ m hk ⟨h0,h1,h7,h8,hp,rfl⟩ ih
   obtain⟨a,ha⟩:=get_some hk
   have hr:=Kz (d:=d) (b:=b) (es:=3) hk
   have J9:=Wb ha
   have OD:∀r,(s.push r).box d b=some (cm l):=fun r=>eO hb r
   simp only[go_sem,yf,h0,h1,h7,h8,aS hk,hr,OD,J9,hg a (bQ ha),bK hk hl,simprocAttr]
   cases dq:p a with
   |true=>
    simp only[fZ]
    rw[tn ha dq hp]
   |false=>
    simp only[iy]
    refine ih _ _ ?_
    refine⟨h0,h1,h7,rfl,fun j y hj hy=>?_,rfl⟩
    by_cases e:j=k
    ·subst e;rw[ha]at hy;injection hy with hy;rw[←hy];exact dq
    ·exact hp j y (by omega) hy
  ·rintro ρ m ⟨h0,h1,h7,h8,hp,rfl⟩
   simp only[go_sem,yf,IU,h7,h8,bM,simprocAttr]
   rw[uM hp]
 rw[aL (show AP 72=some Aw from rfl) rfl]
 simp only[go_sem,Ng,GD,simprocAttr]
 exact key 0 _ _ (bg _) ⟨rfl,rfl,rfl,rfl,fun j y hj=>absurd hj (da _),rfl⟩
def oN (n:Nat):List AV:=(List.replicate n [I 0,I 0,AV.slice .aA 0 []]).flatten
theorem Wc {n:Nat}:(oN n).length=n*3:=by simp[oN]
theorem ago {n:Nat}:oN n=cm (List.replicate n bV):=by
 unfold oN cm
 rw[List.map_replicate]
 rfl
theorem aei {d b n i:Nat} (h:i<n):iH (.sl 3) (.aO d b 0 3 n 0) (some (I (i:Int))) none none=some (.aO d b (0+i*3) 3 (n-i) (n-i)):=by
 have h1:asNat (AV.v (.int .i64 (i:Int))) n=some i:=by simp[asNat];omega
 have h2:¬n=i:=by omega
 simp only[iH,bB,qX,lj,Nat.max_zero,s7,ef,cE,eK,kf,h1,dK,h2]
theorem aej {d b n i:Nat} (h:i<n):iH (.sl 3) (.aO d b 0 3 n 0) none (some (I (i:Int))) none=some (.aO d b (0+0*3) 3 i n):=by
 have h1:asNat (AV.v (.int .i64 (i:Int))) n=some i:=by simp[asNat];omega
 have h2:¬n=0:=by omega
 simp only[iH,bB,qX,lj,Nat.max_zero,eK,kf,h1,dK,h2,cE,SE]
theorem agh {α:Type} {p:α→Bool} {l:List α} {x y:α} {k j:Nat} (h1:l.find? p=some x) (h3:du p l=k) (hj:j<k) (hy:l[j]? =some y):p y=false:=by
 cases hp:p y with
 |false=>rfl
 | true =>
  exfalso
  obtain⟨j0,y0,q1,q2,q3,q4⟩:∃j0 y0,l[j0]? =some y0∧p y0=true∧j0≤j∧∀i z,i<j0→l[i]? =some z→p z=false:=by
   induction j using Nat.strongRecOn generalizing y with
   | _ j ih =>
    by_cases fm:∀i z,i<j→l[i]? =some z→p z=false
    ·exact⟨j,y,hy,hp,aH _,fm⟩
    ·simp only[Classical.not_forall]at fm
     obtain⟨i,z,hi,hz,XA⟩:=fm
     obtain⟨j0,y0,q1,q2,q3,q4⟩:=ih i hi (by omega) hz (by simpa using XA)
     exact⟨j0,y0,q1,q2,by omega,q4⟩
  have:=tn q1 q2 q4
  rw[this]at h3
  omega
theorem atU {X : List AV → ae} {d b : Nat} {l : List P} {g : FuncId} {caps : List AV} {f : P → Bool} (hX : Cell X d b) (hl : l.length < 1000000) (fP : 0 < l.length) (bE : ∀ p ∈ l, p.an.ok 1)
    (hg:∀x∈l,∀row q,aw AP (.fn g) (.agg (aj x)::caps) ((X row).push q)=some (B (f x),(X row).push q))
    (hg2:∀x∈l,∀row q q',aw AP (.fn g) (.agg (aj x)::caps) (((X row).push q).push q')=some (B (f x),((X row).push q).push q')):
    ∃cap R,aw AP (.fn 63) [.aO d b 0 3 l.length 0,.fn g [] caps] (X (cm l))=some (.aO d b 0 3 (l.filter fun x=>!f x).length cap,X (cm ((l.filter fun x=>!f x)++R)))∧(∀p∈R,p.an.ok 1)∧(cap=0→R=[]):=by
  have dc:∀row q off n cap,ed ((X row).push q) (.aO d b off 3 n cap)=some (.aO d b off 3 n cap):=fun row q off n cap=>by
    have h1:=hX.lt row
    have h2:¬d=((X row).push q).cur:=by rw[fD];omega
    rw[show ed ((X row).push q) (.aO d b off 3 n cap)=ez ((X row).push q) (.aO d b off 3 n cap)from rfl]
    simp only[ez,h2,cE]
  have cr:∀q,aw AP (.fn 72) [.aO d b 0 3 l.length 0,.fn g [] caps] ((X (cm l)).push q)=some (I (du f l),(X (cm l)).push q):=fun q=>atY ((hX.push q).box _) (by omega) fun a ha r=>hg2 a ha _ q r
  rcases AW (p:=f) (l:=l)with⟨h1,h2⟩|⟨k,x,h1,h2,h3⟩
  · -- none is deleted
    have wT:(l.filter fun x=>!f x)=l:=Lr.2 fun x hx=>by
      have:=Hp.1 h1 x hx
      simpa using this
    rw[h2]at cr
    rw[wT]
    refine⟨0,[],?_,(fun p h=>absurd h (by simp)),fun _=>rfl⟩
    rw[jd]
    have w7:decide ((-1:Int)=-1)=true:=by decide
    rw[aL (show AP 63=some yv from rfl) rfl]
    generalize cm l=Z at*
    simp only[go_sem,IP,cr,dc,simprocAttr]
  · have hk : k < l.length := (bd.1 h2).1
    have hfx:f x=true:=Lu h1
    rw[h3]at cr
    have aih:(l.take k).filter (fun x=>!f x)=l.take k:=Lr.2 fun y hy=>by
      obtain⟨j,hj⟩:=mY hy
      have u3:j<k:=by have:=(bd.1 hj).1;rw[fV]at this;omega
      rw[List.getElem?_take_of_lt u3]at hj
      have:=agh h1 h3 u3 hj
      simp[this]
    have hlen:∀j,((l.take j).filter fun x=>!f x).length≤j:=fun j=>kO (nN _ _) (by rw[fV];omega)
    have key:∀(j:Nat) ρ m,j≤l.length→(ρ 0=.aO d b 0 3 l.length 0∧ρ 1=.fn g [] caps∧ρ 6=I j∧ρ 5=I ((l.take j).filter fun x=>!f x).length∧((l.take j).filter fun x=>!f x).length<j∧
        ∃R bx,((l.take j).filter fun x=>!f x).length+R.length=j∧(∀p∈R,p.an.ok 1)∧m=(X (cm (((l.take j).filter fun x=>!f x)++(R++l.drop j)))).push ⟨bx,[]⟩)→
        ∃R,go AP afV (.c (.loop Dz)::anC) ⟨ρ,m⟩=some (.aO d b 0 3 (l.filter fun x=>!f x).length l.length,X (cm ((l.filter fun x=>!f x)++R)))∧∀p∈R,p.an.ok 1:=by
      intro j
      obtain⟨t,ht⟩:∃t,t=l.length-j:=⟨_,rfl⟩
      induction t generalizing j with
      | zero =>
        rintro ρ m hj ⟨g0,g1,g6,g5,aC,R,bx,hR,FB,rfl⟩
        obtain rfl:j=l.length:=by omega
        rw[jg]at g5 aC hR⊢
        rw[eR,jd]
        generalize hA:(l.filter fun x=>!f x)=A at*
        have hd:decide (((l.length:Nat):Int)<(l.length:Int))=false:=by simp
        have qO:=aei (d:=d) (b:=b) (n:=l.length) (i:=A.length) aC
        have xg:=aej (d:=d) (b:=b) (n:=l.length) (i:=A.length) aC
        have hz : wB ((X (cm (A ++ R))).push ⟨bx, []⟩) [I 0, I 0, .slice .aA 0 []] (.aO d b (0 + A.length * 3) 3 (l.length - A.length) (l.length - A.length)) = some (.tuple [], (X (cm (A ++ List.replicate R.length bV))).push ⟨bx, []⟩) := by
          have aB:¬l.length-A.length=0:=by omega
          have WI:l.length-A.length=R.length:=by omega
          have cp:=hX.store (q:=⟨bx,[]⟩) (row:=cm (A++R)) (off:=0+A.length*3) (n:=(l.length-A.length)*3) (y:=.agg (oN (l.length-A.length)))
            (by show (oN _).all AV.bt = true
                unfold oN
                rw[jw]
                intro c hc
                obtain⟨r,hr,iT⟩:=ur.1 hc
                rw[R7 hr]at iT
                rcases eB.1 iT with rfl|iT
                · rfl
                rcases eB.1 iT with rfl|iT
                · rfl
                rw[eJ.1 iT];rfl)
            (Jw (by
                show(oN _).all AV.isClosed=true
                unfold oN
                rw[jw]
                intro c hc
                obtain⟨r,hr,iT⟩:=ur.1 hc
                rw[R7 hr]at iT
                rcases eB.1 iT with rfl|iT
                · rfl
                rcases eB.1 iT with rfl|iT
                · rfl
                rw[eJ.1 iT];rfl))
            Wc (by rw[ni,cj];omega)
          have e:setCells (cm (A++R)) (0+A.length*3) (oN (l.length-A.length))=cm (A++List.replicate R.length bV):=by
            have:=aau (P:=cm A) (Q:=cm R) (R:=[]) (ys:=oN (l.length-A.length)) (by rw[ni,Wc,WI])
            rw[jd,jd,ni]at this
            rw[yG,fB,this,WI,ago,yG]
          rw[show(AV.agg (oN (l.length-A.length))).cells=oN (l.length-A.length)from rfl,e]at cp
          have W9:(List.replicate (l.length-A.length) [I 0,I 0,AV.slice .aA 0 []]).flatten=oN (l.length-A.length):=rfl
          simp only[wB,aB,cE,dO,iK,fB,Nat.reduceAdd,bB,W9]at cp⊢
          rw[cp];rfl
        refine⟨List.replicate R.length bV,?_,fun p hp=>by rw[R7 hp];exact RS⟩
        generalize cm (A++List.replicate R.length bV)=Z2 at*
        generalize cm (A++R)=Z1 at*
        rw[go_loop]
        simp only[go_sem,Dz,Nd,g0,g6,g5,GD,hd,qO,xg,hz,dc,simprocAttr]
      | succ t ih =>
        rintro ρ m hj ⟨g0,g1,g6,g5,aC,R,bx,hR,FB,rfl⟩
        have gR:j<l.length:=by omega
        obtain⟨y,hy⟩:=get_some gR
        have X3:=bQ hy
        have pZ:=fT hy
        have OQ:=eP hy
        have jB:=hg y X3
        have qS:=bE y X3
        have jn:=bK gR (show(l.length:Int)<_ by omega)
        have u2:=Kz (d:=d) (b:=b) (es:=3) gR
        generalize hA:((l.take j).filter fun x=>!f x)=A at*
        have r9:qq (0+j*3) 3 (cm (A++(R++l.drop j)))=some (aj y):=by
          refine Wb ?_
          rw[←gW,gD (by rw[cj];omega),cj,OQ]
          rw[show j-(A.length+R.length)=0 by omega];rfl
        have di:=fun q=>(hX.push q).box (cm (A++(R++l.drop j)))
        have oj:closeAll (aj y)=some (aj y):=by
          simp only[aj,mq,oH,pK,Sl.close qS];rfl
        cases JU:f y with
        | true =>
          rw[JU]at jB
          have uS:((l.take (j+1)).filter fun x=>!f x)=A:=by rw[pZ,oA,hA];simp[JU]
          have FV:=ih (j+1) (by omega)
          rw[uS]at FV
          have cp:cm (A++(R++l.drop j))=cm (A++((R++[y])++l.drop (j+1))):=by rw[OQ];simp
          generalize cm (A++(R++l.drop j))=Z at*
          rw[go_loop]
          simp only[aj,Sl.v]at r9 jB
          simp only[go_sem,Dz,hX.ok,g0,g1,g6,GD,aS gR,u2,di,r9,jB,jn,at_len,mT,simprocAttr]
          refine FV _ _ (by omega) ?_
          exact⟨g0,g1,rfl,g5,by omega,R++[y],_,by rw[cj];simp;omega,(fun p hp=>by
            rcases dD.1 hp with hp|hp
            · exact FB p hp
            · rw[eJ.1 hp];exact qS),by rw[cp]⟩
        | false =>
          rw[JU]at jB
          obtain⟨r0,R',rfl⟩:∃r0 R',R=r0::R':=by
            cases R with
            |nil=>simp at hR;omega
            |cons r0 R'=>exact⟨r0,R',rfl⟩
          rw[dO]at hR
          have uS:((l.take (j+1)).filter fun x=>!f x)=A++[y]:=by rw[pZ,oA,hA];simp[JU]
          have FV:=ih (j+1) (by omega)
          rw[uS]at FV
          have aiX:=Kz (d:=d) (b:=b) (es:=3) (i:=A.length) (n:=l.length) (by omega)
          have XJ:=fun q=>hX.asZ (q:=q) (A:=A) (r:=r0) (R:=R'++l.drop j) qS rfl
          have cp:cm (A++y::(R'++l.drop j))=cm ((A++[y])++((R'++[y])++l.drop (j+1))):=by rw[OQ];simp
          have xi:=bK (k:=A.length) (n:=l.length) (by omega) (show(l.length:Int)<_ by omega)
          rw[kq]at di r9⊢
          generalize cm (A++y::(R'++l.drop j))=Z2 at*
          generalize cm (A++r0::(R'++l.drop j))=Z at*
          rw[go_loop]
          simp only[aj,Sl.v]at r9 jB XJ
          simp only[go_sem,Dz,hX.ok,g0,g1,g6,g5,GD,aS gR,u2,aiX,di,r9,jB,jn,xi,XJ,at_len,mT,simprocAttr]
          refine FV _ _ (by omega) ?_
          exact⟨g0,g1,rfl,by rw[cj];rfl,by rw[cj];simp;omega,R'++[y],_,by rw[cj,cj];simp;omega,(fun p hp=>by
            rcases dD.1 hp with hp|hp
            · exact FB p (by simp[hp])
            · rw[eJ.1 hp];exact qS),by rw[cp]⟩
    have hA:((l.take (k+1)).filter fun x=>!f x)=l.take k:=by rw[fT h2,oA,aih];simp[hfx]
    have tF:(l.take k).length=k:=by rw[fV];omega
    have Gp:=key (k+1)
    rw[hA,tF]at Gp
    have aB:decide ((k:Int)=-1)=false:=by simp
    have jn:=bK hk (show(l.length:Int)<_ by omega)
    have oX:cm l=cm (l.take k++([x]++l.drop (k+1))):=by
      have:=eP h2
      rw[show[x]++l.drop (k+1)=l.drop k by rw[this];rfl,HB]
    have:∃R,aw AP (.fn 63) [.aO d b 0 3 l.length 0,.fn g [] caps] (X (cm l))=some (.aO d b 0 3 (l.filter fun x=>!f x).length l.length,X (cm ((l.filter fun x=>!f x)++R)))∧∀p∈R,p.an.ok 1:=by
      rw[aL (show AP 63=some yv from rfl) rfl]
      generalize cm l=Z at*
      simp only[go_sem,IP,cr,jn,simprocAttr]
      refine Gp _ _ (by omega) ?_
      exact⟨rfl,rfl,rfl,rfl,by omega,[x],_,by simp,(fun p hp=>by rw[eJ.1 hp];exact bE x (bQ h2)),by rw[oX]⟩
    obtain⟨R,e1,e2⟩:=this
    exact⟨l.length,R,e1,e2,fun h=>by omega⟩
theorem atV {g:FuncId} {caps:List AV}:aw AP (.fn 63) [.slice .aA 0 [],.fn g [] caps] s=some (.slice .aA 0 [],s):=by
 have cr:∀m:ae,aw AP (.fn 72) [.slice .aA 0 [],.fn g [] caps] m=some (I (-1),m):=fun m=>RQ (l:=[]) (p:=fun _=>false) (.inl rfl) (by decide) (fun a ha=>absurd ha (by simp))
 have w7:decide ((-1:Int)=-1)=true:=by decide
 rw[aL (show AP 63=some yv from rfl) rfl]
 simp only[go_sem,IP,cr,simprocAttr]
theorem abf {q p:P} {has:Bool} {d b1 b2:Nat} (hs:Ok s) (h1:s.box d b1=some [B has]) (h2:s.box d b2=some (aj p)) (hq:q.an.ok 1) (hp:p.an.ok 1) (lq:q.an.l.length≤1000) (lp:p.an.l.length≤1000)
  (c1:-1000000≤q.req∧q.req≤1000000) (c2:-1000000≤p.req∧p.req≤1000000) (c3:-1000000≤q.start∧q.start≤1000000) (c4:-1000000≤p.start∧p.start≤1000000):
  aw AP (.fn 61) [.agg (aj q),.ptr d b1 0,.ptr d b2 0] s=some (B (has&&decide (kA q p=0)),s):=by
 have hc:∀r,aw AP (.fn 36) [.agg (aj q),.agg (aj p)] (s.push r)=some (I (kA q p),s.push r):=fun r=>Rk (hs.push r) hq hp lq lp c1 c2 c3 c4
 have k1:=fun r=>eO h1 r
 have k2:=fun r=>eO h2 r
 have aB:¬d=s.ag.length:=fun e=>by
  subst e
  simp only[ae.box]at h1
  rw[nL (aH _)]at h1;simp at h1
 rw[aL (show AP 61=some EC from rfl) rfl]
 simp only[aj,Sl.v]at hc k2
 cases has with
 |true=>simp only[go_sem,M3,k1,k2,hc,iq,simprocAttr]
 |false=>simp only[go_sem,M3,k1,jL,simprocAttr]
end
def fe (v:Nat→AV) (o:Nat→Bool) (a n:Nat):List AV:=((List.range' a n).map fun i=>[v i,B (o i)]).flatten
theorem zH {v:Nat→AV} {o:Nat→Bool}:∀{n a:Nat},(fe v o a n).length=n*2
 |0,_=>rfl
 |n+1,a=>by
  have:=zH (v:=v) (o:=o) (n:=n) (a:=a+1)
  unfold fe at this⊢
  rw[Co,iM,sV,cj,this];simp;omega
theorem BX {v:Nat→AV} {o:Nat→Bool} {j n:Nat} (h:j<n):fe v o 0 n=fe v o 0 j++v j::B (o j)::fe v o (j+1) (n-(j+1)):=by
 have e:n=j+(1+(n-(j+1))):=by omega
 have h1:List.range' 0 n=List.range' 0 j++List.range' j (1+(n-(j+1))):=by
  have:=List.range'_append (s:=0) (m:=j) (n:=1+(n-(j+1))) (step:=1)
  rw[rz,fB]at this
  rw[this,←e]
 unfold fe
 rw[h1,LD 1,Co]
 simp
theorem K3 {v v':Nat→AV} {o o':Nat→Bool} {a n:Nat} (h:∀i,a≤i→i<a+n→v i=v' i∧o i=o' i):fe v o a n=fe v' o' a n:=by
 unfold fe
 congr 1
 refine zP fun i hi=>?_
 have:=List.mem_range'_1.1 hi
 rw[(h i this.1 this.2).1,(h i this.1 this.2).2]
def ff {α:Type} (v:Nat→α) (j:Nat) (x:α):Nat→α:=fun i=>if i=j then x else v i
theorem Hd {α:Type} {v:Nat→α} {j:Nat} {x:α}:ff v j x j=x:=ak rfl
theorem xE {α:Type} {v:Nat→α} {i j:Nat} {x:α} (h:i≠j):ff v j x i=v i:=aq h
theorem arV {v:Nat→AV} {o:Nat→Bool} {j n:Nat} (h:j<n):(fe v o 0 n)[0+j*2+0]? =some (v j):=by
 rw[BX h,show 0+j*2+0=(fe v o 0 j).length by rw[zH];omega]
 simp
theorem Rd {v:Nat→AV} {o:Nat→Bool} {j n:Nat} {x:AV} (h:j<n):l7 (fe v o 0 n) (0+j*2+0) [x]=some (fe (ff v j x) o 0 n):=by
 rw[vw,ak (by rw[zH];simp;omega)]
 simp only[setCells]
 rw[BX h,show 0+j*2+0=(fe v o 0 j).length by rw[zH];omega,mT,BX (v:=ff v j x) h,Hd]
 rw[K3 (v:=ff v j x) (v':=v) (o':=o) fun i _ hi=>⟨xE (by omega),rfl⟩,K3 (v:=ff v j x) (v':=v) (o':=o) (a:=j+1) fun i h1 _=>⟨xE (by omega),rfl⟩]
theorem Re {v:Nat→AV} {o:Nat→Bool} {j n:Nat} {t:Bool} (h:j<n):l7 (fe v o 0 n) (0+j*2+1) [B t]=some (fe v (ff o j t) 0 n):=by
 rw[vw,ak (by rw[zH];simp;omega)]
 simp only[setCells]
 rw[BX h,show 0+j*2+1=(fe v o 0 j).length+1 by rw[zH];omega,ri,BX (o:=ff o j t) h,Hd]
 rw[K3 (o:=ff o j t) (v':=v) (o':=o) fun i _ hi=>⟨rfl,xE (by omega)⟩,K3 (o:=ff o j t) (v':=v) (o':=o) (a:=j+1) fun i h1 _=>⟨rfl,xE (by omega)⟩]
theorem arT {w:W} {d n:Nat} {bi:Nat→Nat}:rh w d bi n=fe (fun i=>lD d (bi i) (ct w [] (i:Int))) (fun _=>true) 0 n:=by
 unfold rh fe
 rw[zR]
def B3 (plan:List P) (i:Int) (x:P):Bool:=(aM plan i).isSome&&decide (kA x ((aM plan i).getD bV)=0)
def vk (set:List Int) (i:Int):Bool:=set.any fun a=>decide (i=a)
def hH (w:W) (plan:List P) (set:List Int) (i:Int):List P:=
 if vk set i=true then(ct w [] i).filter fun x=>!B3 plan i x else(aM plan i).toList
def lM (plan:List P) (set:List Int) (req i:Int):Bool:=
 if vk set i=true then(aM plan i).isSome&&!decide (i=req)else !(aM plan i).isSome&&!decide (i=req)
def xL (w:W) (d ab:Nat) (bi:Nat→Nat) (j:Nat) (bs:List (List AV)) (v:AV) (c:Sl P):Prop:=
 (v=.slice .aA 0 []∧c=⟨.aA,0,[]⟩)∨∃b cap R,v=.aO d b 0 3 c.l.length cap∧bs[b]? =some (cm (c.l++R))∧(∀p∈c.l++R,p.an.ok 1)∧c=⟨.any,3,c.l⟩∧b≠ab∧∀k:Nat,j≤k→k<w.rs.l.length→ct w [] (k:Int)≠[]→b≠bi k
section
variable{s:ae} {w:W}
theorem xL.deep {ab:Nat} {bi:Nat→Nat} {j:Nat} {bs:List (List AV)} {tk:List (Option Nat)} {v:AV} {c:Sl P} (h:xL w s.ag.length ab bi j bs v c):nU (s.push ⟨bs,tk⟩) v=some (c.v aj):=by
 obtain⟨rfl,rfl⟩|⟨b,cap,R,rfl,hb,bE,hc,_⟩:=h
 ·rfl
 ·have fj:=Fc (es:=3) (xs:=c.l.map aj) (fun r hr=>by obtain⟨p,_,rfl⟩:=cC.1 hr;rfl)
  rw[bY]at fj
  have hle:0+c.l.length*3≤(cm (c.l++R)).length:=by rw[ni,cj];omega
  simp only[nU,fD,bB,iu,hb,eK]
  rw[ak hle,Jx bE]
  simp only[dK,kt]
  have r9:∀{n:Nat} {xs ys:List AV},n*3≤xs.length→chunks 3 n (xs++ys)=chunks 3 n xs:=by
   intro n
   induction n with
   |zero=>intros;rfl
   |succ n ih=>
    intro xs ys h
    simp only[chunks]
    rw[So (by omega),R4 (by omega),ih (by rw[sX];omega)]
  rw[yG,r9 (by rw[ni];exact aH _),show cm c.l=(c.l.map aj).flatten from rfl,fj,hc]
theorem Vo {bs:List (List AV)} {tk:List (Option Nat)} {v:Nat→AV} {o:Nat→Bool} {c:Nat→Sl P}:∀{n:Nat},(∀i,i<n→nU (s.push ⟨bs,tk⟩) (v i)=some ((c i).v aj))→
  jN (s.push ⟨bs,tk⟩) (fe v o 0 n)=some (((List.range n).map fun i=>gm (c i,o i)).flatten)
 |0,_=>rfl
 |n+1,h=>by
  rw[BX (LH n),Cp,iL,List.flatten_append]
  refine NR (Vo fun i hi=>h i (by omega)) ?_
  have e2:nU (s.push ⟨bs,tk⟩) (B (o n))=some (B (o n)):=rfl
  simp only[HI,fe,List.range'_zero,nO,Sb,jN,h n (LH n),e2,iM,sV,jd]
theorem an8 {bs:List (List AV)} {tk:List (Option Nat)} {v:Nat→AV} {o:Nat→Bool} {c:Nat→Sl P} {ab n:Nat} (hb:bs[ab]? =some (fe v o 0 n)) (h:∀i,i<n→nU (s.push ⟨bs,tk⟩) (v i)=some ((c i).v aj)):
  ez (s.push ⟨bs,tk⟩) (.aO s.ag.length ab 0 2 n 0)=some (.slice .any 2 (((List.range n).map fun i=>(c i,o i)).map gm)):=by
 have fj:=Fc (es:=2) (xs:=(List.range n).map fun i=>gm (c i,o i)) (fun r hr=>by obtain⟨p,_,rfl⟩:=cC.1 hr;rfl)
 rw[bY,pE]at fj
 have hd:=Vo (o:=o) h
 have hle:0+n*2≤(fe v o 0 n).length:=by rw[zH];omega
 simp only[ez,fD,bB,iu,hb,eK]
 rw[ak hle,Zn,hd]
 simp only[dK,kt]
 rw[fj,vO];rfl
end
theorem ad9 {s:ae} (hs:Ok s) {bs:List (List AV)} {tk:List (Option Nat)} {b:Nat} (hb:b<bs.length):Cell (fun r=>s.push ⟨bs.set b r,tk⟩) s.ag.length b:=by
 refine⟨fun r=>?_,fun r r'=>?_,fun r=>hs.ro,fun r=>hs.push _⟩
 ·rw[iu];simp[hb]
 ·rw[Rp,zS]
theorem GZ {bs:List (List AV)} {b:Nat} {r:List AV} (h:bs[b]? =some r):bs.set b r=bs:=by
 obtain⟨hb,rfl⟩:=bd.1 h
 exact List.set_getElem_self hb
section
variable{s:ae} {w:W}
theorem QQ (hw:Wk w) {i:Nat} (hi:i<w.rs.l.length) {q:P} (hq:q∈ct w [] (i:Int)):q.an.ok 1∧q.an.l.length≤1000∧(-1000000≤q.req∧q.req≤1000000)∧-1000000≤q.start∧q.start≤1000000:=by
 obtain⟨h1,h2,_,_,_,_,h3,_⟩:=nF hw (i:=(i:Int)) (by omega) (by omega) (eS.1 hq).1
 have er:=hw.v.rl
 have h4:=hw.rL.an _ (W.qg (i:=(i:Int)) (by omega) (by omega))
 have h5:=h3.length_le
 exact⟨h1.ok,by omega,⟨by have:=h1.r0;omega,by have:=h1.r1;omega⟩,by have:=h1.s0;omega,by have:=h1.s1;omega⟩
structure zK (w:W) (d ob ab:Nat) (bi:Nat→Nat) (plan:List P) (set:List Int) (req:Int) (j:Nat) (bs:List (List AV)) (v:Nat→AV) (o:Nat→Bool) (c:Nat→Sl P):Prop where
 z:bs[0]? =some [NP,.slice .aA 0 []]
 oo:bs[ob]? =some [OW w,.aO d ab 0 2 w.rs.l.length 0]
 a:bs[ab]? =some (fe v o 0 w.rs.l.length)
 rest:∀i,j≤i→i<w.rs.l.length→v i=lD d (bi i) (ct w [] (i:Int))∧(ct w [] (i:Int)≠[]→bs[bi i]? =some (cm (ct w [] (i:Int))))
 done:∀i:Nat,i<j→xL w d ab bi j bs (v i) (c i)∧(c i).l=hH w plan set (i:Int)∧o i=lM plan set req (i:Int)
structure Ln (w:W) (ob ab:Nat) (bi:Nat→Nat):Prop where
 o0:0<ob
 a0:0<ab
 ao:ab<ob
 b0:∀i:Nat,i<w.rs.l.length→ct w [] (i:Int)≠[]→0<bi i∧bi i<ob∧bi i≠ab
 inj:∀i j:Nat,i<j→j<w.rs.l.length→ct w [] (i:Int)≠[]→bi i<bi j
theorem NB {d ob ab:Nat} {bi:Nat→Nat} {plan:List P} {set:List Int} {req:Int} {j:Nat} {bs iw:List (List AV)} {v:Nat→AV} {o:Nat→Bool} {c:Nat→Sl P} {v':AV} {o':Bool} {c':Sl P} (hB:Ln w ob ab bi) (hj:j<w.rs.l.length) (h:zK w d ob ab bi plan set req j bs v o c)
  (ha:iw[ab]? =some (fe (ff v j v') (ff o j o') 0 w.rs.l.length)) (hk:∀q,q<bs.length→q≠ab→(ct w [] (j:Int)≠[]→q≠bi j)→iw[q]? =bs[q]?)
  (hv:xL w d ab bi (j+1) iw v' c') (hl:c'.l=hH w plan set (j:Int)) (ho:o'=lM plan set req (j:Int)):zK w d ob ab bi plan set req (j+1) iw (ff v j v') (ff o j o') (ff c j c'):=by
 have l0:=(bd.1 h.z).1
 have lo:=(bd.1 h.oo).1
 refine⟨?_,?_,ha,fun i h1 h2=>?_,fun i hi=>?_⟩
 ·rw[hk 0 l0 (by have:=hB.a0;omega) (fun aB=>by have:=(hB.b0 j hj aB).1;omega)];exact h.z
 ·rw[hk ob lo (by have:=hB.ao;omega) (fun aB=>by have:=(hB.b0 j hj aB).2.1;omega)];exact h.oo
 ·obtain⟨r1,r2⟩:=h.rest i (by omega) h2
  refine⟨by rw[xE (by omega)];exact r1,fun aB=>?_⟩
  have:=r2 aB
  rw[hk _ (bd.1 this).1 (hB.b0 i h2 aB).2.2 (fun hnj=>by have:=hB.inj j i (by omega) h2 hnj;omega)]
  exact this
 ·by_cases eo:i=j
  ·subst eo
   rw[Hd,Hd,Hd]
   exact⟨hv,hl,ho⟩
  ·rw[xE eo,xE eo,xE eo]
   obtain⟨d1,d2,d3⟩:=h.done i (by omega)
   refine⟨?_,d2,d3⟩
   obtain⟨e1,e2⟩|⟨b,cap,R,e1,e2,e3,e4,e5,e6⟩:=d1
   ·exact .inl ⟨e1,e2⟩
   ·refine .inr ⟨b,cap,R,e1,?_,e3,e4,e5,fun k nz iC=>e6 k (by omega) iC⟩
    rw[hk b (bd.1 e2).1 e5 (fun aB=>e6 j (aH _) hj aB)]
    exact e2
theorem aef {d ob ab : Nat} {bi : Nat → Nat} {plan : List P} {set : List Int} {req : Int} {j : Nat} {bs : List (List AV)} {tk : List (Option Nat)} {v : Nat → AV} {o : Nat → Bool} {c : Nat → Sl P} {ρ : Nat → AV} {op os : Own} {ep es : Nat} (hs : Ok s) (hw : Wk w) (hd : d = s.ag.length) (hB : Ln w ob ab bi) (hj : j < w.rs.l.length)
    (hp:oD plan) (qG:plan=[]∨ep=3) (dQ:set=[]∨es=1) (sv:set.length≤100000)
    (h:zK w d ob ab bi plan set req j bs v o c) (g0:ρ 0=OW w) (g1:ρ 1=.slice op ep (plan.map aj)) (g2:ρ 2=.slice os es (set.map aD)) (g3:ρ 3=I req) (g8:ρ 8=.ptr d 0 0) (g9:ρ 9=.ptr d ob 0) (g19:ρ 19=I w.rs.l.length) (g20:ρ 20=I j):
    ∃ ρ' iw mh v' c', go AP uL (.c (.loop mn) :: vn) ⟨ρ, s.push ⟨bs, tk⟩⟩ = go AP uL (.c (.loop mn) :: vn) ⟨ρ', s.push ⟨iw, mh⟩⟩ ∧ (ρ' 0 = OW w ∧ ρ' 1 = .slice op ep (plan.map aj) ∧ ρ' 2 = .slice os es (set.map aD) ∧ ρ' 3 = I req ∧ ρ' 8 = .ptr d 0 0 ∧ ρ' 9 = .ptr d ob 0 ∧ ρ' 19 = I w.rs.l.length ∧ ρ' 20 = I ((j + 1 : Nat) : Int)) ∧
      zK w d ob ab bi plan set req (j+1) iw (ff v j v') (ff o j (lM plan set req (j:Int))) (ff c j c'):=by
  subst hd
  have er:=hw.v.rl
  have dI:∀m:ae,Ok m→aw AP (.fn 45) [.slice op ep (plan.map aj),I j] m=some (.tuple [.agg (aj ((aM plan (j:Int)).getD bV)),B (aM plan (j:Int)).isSome],m):=fun m hm=>GV hm qG (by have:=hp.len;omega) fun p h=>(hp.ok p h).1
  have lR:∀m:ae,aw AP (.fn 62) [.slice os es (set.map aD),I j] m=some (B (vk set (j:Int)),m):=fun m=>Lj dQ (by omega)
  generalize jE:(aM plan (j:Int)).getD bV=p at dI
  generalize u1:(aM plan (j:Int)).isSome=has at dI
  have jD:p.an.ok 1∧p.an.l.length≤1000∧(-1000000≤p.req∧p.req≤1000000)∧-1000000≤p.start∧p.start≤1000000:=by
    rw[←jE]
    cases hq:aM plan (j:Int)with
    |none=>exact⟨RS,by decide,by decide,by decide⟩
    | some q =>
      have hm:=(QJ hq).1
      exact⟨(hp.ok q hm).1,(hp.ok q hm).2,hp.b q hm⟩
  obtain⟨r1,r2⟩:=h.rest j (aH _) hj
  have avf:=lR
  have cz:=bK hj (show(w.rs.l.length:Int)<_ by omega)
  have u2:=Kz (d:=s.ag.length) (b:=ab) (es:=2) hj
  have fo:∀r,(bs++r)[ob]? =some [OW w,.aO s.ag.length ab 0 2 w.rs.l.length 0]:=fun r=>uE h.oo
  have fa:∀r,(bs++r)[ab]? =some (fe v o 0 w.rs.l.length):=fun r=>uE h.a
  have fg:=arV (v:=v) (o:=o) hj
  have avw:closeAll (aj p)=some (aj p):=by
    simp only[aj,mq,oH,pK,Sl.close jD.1];rfl
  simp only[aj,Sl.v]at dI
  have PA:∀x,B3 plan (j:Int) x=(has&&decide (kA x p=0)):=fun x=>by unfold B3;rw[jE,u1]
  cases bH:vk set (j:Int)with
  | true =>
    rw[bH]at lR
    have yV:hH w plan set (j:Int)=(ct w [] (j:Int)).filter fun x=>!(has&&decide (kA x p=0)):=by
      unfold hH
      rw[ak bH]
      refine Hn fun x _=>?_
      rw[PA]
    have FG:lM plan set req (j:Int)=(has&&!decide ((j:Int)=req)):=by
      unfold lM;rw[ak bH,u1]
    have hq : ∃ (v' : AV) (iw : List (List AV)) (c' : Sl P), oF (aw AP) (s.push ⟨bs ++ [aj p, [B has]], tk⟩) (.fn 63) [v j, .fn 61 [] [.ptr s.ag.length (bs.length + 1) 0, .ptr s.ag.length bs.length 0]] [(false, 1, .ptr s.ag.length (bs.length + 1) 0)] = some (v', s.push ⟨iw, tk⟩) ∧
        (∀q,(ct w [] (j:Int)≠[]→q≠bi j)→iw[q]? =(bs++[aj p,[B has]])[q]?)∧c'.l=hH w plan set (j:Int)∧
        ((v'=.slice .aA 0 []∧c'=⟨.aA,0,[]⟩)∨∃cap R,ct w [] (j:Int)≠[]∧v'=.aO s.ag.length (bi j) 0 3 c'.l.length cap∧iw[bi j]? =some (cm (c'.l++R))∧(∀p∈c'.l++R,p.an.ok 1)∧c'=⟨.any,3,c'.l⟩):=by
      by_cases hl:ct w [] (j:Int)=[]
      · refine ⟨.slice .aA 0 [], bs ++ [aj p, [B has]], ⟨.aA, 0, []⟩, ?_, fun q _ => rfl, by rw [yV, hl]; rfl, .inl ⟨rfl, rfl⟩⟩
        rw[r1,hl]
        exact UG atV fun q _=>rfl
      · have hbj := uE (r := [aj p, [B has]]) (r2 hl)
        have cw:=(bd.1 (r2 hl)).1
        have ze:0<(ct w [] (j:Int)).length:=Cm.2 hl
        have r8:(ct w [] (j:Int)).length<1000000:=by
          have h1:=BT hw (i:=(j:Int)) (by omega) (by omega)
          have h2:(ct w [] (j:Int)).length≤(dS w (j:Int)).length:=nN _ _
          omega
        have hX:=ad9 hs (bs:=bs++[aj p,[B has]]) (tk:=tk) (b:=bi j) (by rw[cj];omega)
        have gd:∀row,((bs++[aj p,[B has]]).set (bi j) row)[bs.length]? =some (aj p):=fun row=>by rw[eI (by omega)];simp
        have jA:∀row,((bs++[aj p,[B has]]).set (bi j) row)[bs.length+1]? =some [B has]:=fun row=>by rw[eI (by omega)];simp
        have aiu:=atU (l:=ct w [] (j:Int)) (g:=61) (caps:=[.ptr s.ag.length (bs.length+1) 0,.ptr s.ag.length bs.length 0]) (f:=fun x=>has&&decide (kA x p=0)) hX r8 ze (KV hw hj)
          (fun x hx row q=>by
            obtain⟨q1,q2,q3,q4⟩:=QQ hw hj hx
            exact abf ((hs.push _).push _) (eO (by rw[iu];exact jA row) _) (eO (by rw[iu];exact gd row) _) q1 jD.1 q2 jD.2.1 q3 jD.2.2.1 q4 jD.2.2.2)
          (fun x hx row q q'=>by
            obtain⟨q1,q2,q3,q4⟩:=QQ hw hj hx
            exact abf (((hs.push _).push _).push _) (eO (eO (by rw[iu];exact jA row) _) _) (eO (eO (by rw[iu];exact gd row) _) _) q1 jD.1 q2 jD.2.1 q3 jD.2.2.1 q4 jD.2.2.2)
        obtain⟨cap,R,e1,e2,_⟩:=aiu
        rw[←yV]at e1
        simp only[GZ hbj]at e1
        refine⟨_,(bs++[aj p,[B has]]).set (bi j) (cm (hH w plan set (j:Int)++R)),⟨.any,3,hH w plan set (j:Int)⟩,?_,fun q hq=>by rw[eI (fun e=>hq hl e.symm)],rfl,.inr ⟨cap,R,hl,rfl,?_,?_,rfl⟩⟩
        · rw [r1]
          unfold lD
          rw[aq hl]
          refine UG e1 fun q hq=>?_
          rw[eJ.1 hq]
          simp only[ae.load,ae.row,iu,jA]
          have:(bs++[aj p,[B has]])[bs.length+1]? =some [B has]:=by simp
          rw[this]
        · rw[mj (by rw[cj];omega)]
        · intro x hx
          rcases dD.1 hx with hx|hx
          · rw [yV] at hx
            exact KV hw hj x (eS.1 hx).1
          · exact e2 x hx
    obtain⟨v',iw,c',hq,y3,aT,FJ⟩:=hq
    have Cz:iw[ab]? =some (fe v o 0 w.rs.l.length):=by rw[y3 ab (fun hl=>fun e=>(hB.b0 j hj hl).2.2 e.symm)];exact fa _
    have WM:=(bd.1 Cz).1
    have JY:iw[bs.length+1]? =some [B has]:=by
      rw[y3 _ (fun hl e=>by have:=(bd.1 (r2 hl)).1;omega)];simp
    have s0:=Rd (v:=v) (o:=o) (x:=v') hj
    have s1:=Re (v:=ff v j v') (o:=o) (t:=has&&!decide ((j:Int)=req)) hj
    have HP:∀r,(iw.set ab r)[ab]? =some r:=fun r=>mj WM
    have fR:∃ρ',go AP uL (.c (.loop mn)::vn) ⟨ρ,s.push ⟨bs,tk⟩⟩=go AP uL (.c (.loop mn)::vn) ⟨ρ',s.push ⟨iw.set ab (fe (ff v j v') (ff o j (has&&!decide ((j:Int)=req))) 0 w.rs.l.length),tk⟩⟩∧(ρ' 0=OW w∧ρ' 1=.slice op ep (plan.map aj)∧ρ' 2=.slice os es (set.map aD)∧ρ' 3=I req∧ρ' 8=.ptr s.ag.length 0 0∧ρ' 9=.ptr s.ag.length ob 0∧ρ' 19=I w.rs.l.length∧ρ' 20=I ((j+1:Nat):Int)):=by
      rw[go_loop]
      simp only[OW,aj,Sl.v]at g0 fo hq⊢
      generalize fe (ff v j v') (ff o j (has&&!decide ((j:Int)=req))) 0 w.rs.l.length=Z2 at*
      generalize fe (ff v j v') o 0 w.rs.l.length=Z1 at*
      have aB:decide (¬(j:Int)=req)=!decide ((j:Int)=req):=by simp
      have XN:v'=.slice .aA 0 []∨∃n cap,v'=.aO s.ag.length (bi j) 0 3 n cap:=by
        rcases FJ with⟨e,_⟩|⟨cap,R,_,e,_⟩
        · exact .inl e
        · exact .inr ⟨_,cap,e⟩
      cases has with
      | true =>
        simp only[iq]at s1
        obtain rfl|⟨n,cap,rfl⟩:=XN
        · simp only [go_sem, mn, g1, g2, g3, g9, g19, g20, hs, aS hj, dI, lR, cz, fo, fa, fg, u2, at_len, rD, qV, mT, ri, gW, hq, JY, Cz, s0, s1, HP, zS, aY, aB, iq, simprocAttr]
          refine⟨_,rfl,?_⟩
          exact⟨g0,g1,g2,g3,g8,g9,g19,rfl⟩
        · simp only [go_sem, mn, g1, g2, g3, g9, g19, g20, hs, aS hj, dI, lR, cz, fo, fa, fg, u2, at_len, rD, qV, mT, ri, gW, hq, JY, Cz, s0, s1, HP, zS, aY, aB, iq, simprocAttr]
          refine⟨_,rfl,?_⟩
          exact⟨g0,g1,g2,g3,g8,g9,g19,rfl⟩
      | false =>
        simp only[jL]at s1
        obtain rfl|⟨n,cap,rfl⟩:=XN
        · simp only [go_sem, mn, g1, g2, g9, g19, g20, hs, aS hj, dI, lR, cz, fo, fa, fg, u2, at_len, rD, qV, mT, ri, gW, hq, JY, Cz, s0, s1, HP, zS, simprocAttr]
          refine⟨_,rfl,?_⟩
          exact⟨g0,g1,g2,g3,g8,g9,g19,rfl⟩
        · simp only [go_sem, mn, g1, g2, g9, g19, g20, hs, aS hj, dI, lR, cz, fo, fa, fg, u2, at_len, rD, qV, mT, ri, gW, hq, JY, Cz, s0, s1, HP, zS, simprocAttr]
          refine⟨_,rfl,?_⟩
          exact⟨g0,g1,g2,g3,g8,g9,g19,rfl⟩
    obtain⟨ρ',e1,e2⟩:=fR
    rw[←FG]at e1
    refine⟨ρ',_,tk,v',c',e1,e2,NB hB hj h (by rw[mj WM]) (fun q hq sn zf=>?_) ?_ aT rfl⟩
    · rw[eI (fun e=>sn e.symm),y3 q zf,dC hq]
    · rcases FJ with ⟨h1, h2⟩ | ⟨cap, R, h1, h2, h3, h4, h5⟩
      · exact .inl ⟨h1,h2⟩
      · refine .inr ⟨bi j, cap, R, h2, ?_, h4, h5, (hB.b0 j hj h1).2.2, fun k nz iC _ => by have := hB.inj j k (by omega) iC h1; omega⟩
        rw[eI (fun e=>(hB.b0 j hj h1).2.2 e.symm)]
        exact h3
  | false =>
    rw[bH]at lR
    have gJ:=(bd.1 h.a).1
    have VU:∀(r:List AV) (t:List (List AV)),((bs++t).set ab r)[ab]? =some r:=fun r t=>mj (by rw[cj];omega)
    have aB:decide (¬(j:Int)=req)=!decide ((j:Int)=req):=by simp
    cases hh:has with
    | true =>
      rw[hh]at dI u1
      obtain⟨p',u6⟩:=oC.1 u1
      have ajK:p'=p:=by rw[←jE,u6];rfl
      subst ajK
      have yV:hH w plan set (j:Int)=[p']:=by
        unfold hH;rw[bH,aq (by simp),u6];rfl
      have FG:lM plan set req (j:Int)=false:=by
        unfold lM;rw[bH,aq (by simp),u1];rfl
      have qL:rf (s.push ⟨bs++[aj p',[B true]],tk⟩) 3 (.agg (aj p'))=some (.aO s.ag.length (bs.length+1+1) 0 3 1 1,s.push ⟨bs++[aj p',[B true],aj p'],tk⟩):=by
        have:=Q9 (s:=s) (bs:=bs++[aj p',[B true]]) (tk:=tk) (cs:=aj p') (es:=3) rfl (by decide)
        rw[BH,gW]at this
        exact this
      have s0:=Rd (v:=v) (o:=o) (x:=.aO s.ag.length (bs.length+1+1) 0 3 1 1) hj
      have s1:=Re (v:=ff v j (.aO s.ag.length (bs.length+1+1) 0 3 1 1)) (o:=o) (t:=false) hj
      have fR:∃ρ',go AP uL (.c (.loop mn)::vn) ⟨ρ,s.push ⟨bs,tk⟩⟩=go AP uL (.c (.loop mn)::vn) ⟨ρ',s.push ⟨(bs++[aj p',[B true],aj p']).set ab (fe (ff v j (.aO s.ag.length (bs.length+1+1) 0 3 1 1)) (ff o j false) 0 w.rs.l.length),tk⟩⟩∧(ρ' 0=OW w∧ρ' 1=.slice op ep (plan.map aj)∧ρ' 2=.slice os es (set.map aD)∧ρ' 3=I req∧ρ' 8=.ptr s.ag.length 0 0∧ρ' 9=.ptr s.ag.length ob 0∧ρ' 19=I w.rs.l.length∧ρ' 20=I ((j+1:Nat):Int)):=by
        rw[go_loop]
        simp only[OW,aj,Sl.v]at g0 fo qL⊢
        generalize fe (ff v j (.aO s.ag.length (bs.length+1+1) 0 3 1 1)) (ff o j false) 0 w.rs.l.length=Z2 at*
        generalize fe (ff v j (.aO s.ag.length (bs.length+1+1) 0 3 1 1)) o 0 w.rs.l.length=Z1 at*
        simp only[go_sem,mn,g1,g2,g9,g19,g20,hs,aS hj,dI,lR,cz,fo,fa,VU,u2,at_len,rD,qV,mT,ri,gW,qL,s0,s1,zS,simprocAttr]
        refine⟨_,rfl,?_⟩
        exact⟨g0,g1,g2,g3,g8,g9,g19,rfl⟩
      obtain⟨ρ',e1,e2⟩:=fR
      rw[←FG]at e1
      refine⟨ρ',_,tk,_,⟨.any,3,[p']⟩,e1,e2,NB hB hj h (by rw[mj (by rw[cj];omega)]) (fun q hq sn zf=>?_) ?_ yV.symm rfl⟩
      · rw[eI (fun e=>sn e.symm),dC hq]
      · refine .inr ⟨bs.length + 1 + 1, 1, [], rfl, ?_, fun x hx => ?_, rfl, by omega, fun k nz iC Pc => ?_⟩
        · rw [eI (by omega), gD (by omega), show bs.length + 1 + 1 - bs.length = 2 by omega]
          simp[cm]
        · rw [jd, eJ] at hx
          rw[hx];exact jD.1
        · have := (bd.1 ((h.rest k (by omega) iC).2 Pc)).1
          omega
    | false =>
      rw[hh]at dI u1
      have Gd:aM plan (j:Int)=none:=by
        cases hq:aM plan (j:Int)with
        |none=>rfl
        |some q=>rw[hq]at u1;simp at u1
      have yV:hH w plan set (j:Int)=[]:=by
        unfold hH;rw[bH,aq (by simp),Gd];rfl
      have FG:lM plan set req (j:Int)=!decide ((j:Int)=req):=by
        unfold lM;rw[bH,aq (by simp),u1];rfl
      have s0:=Rd (v:=v) (o:=o) (x:=.slice .aA 0 []) hj
      have s1:=Re (v:=ff v j (.slice .aA 0 [])) (o:=o) (t:=!decide ((j:Int)=req)) hj
      have fR:∃ρ',go AP uL (.c (.loop mn)::vn) ⟨ρ,s.push ⟨bs,tk⟩⟩=go AP uL (.c (.loop mn)::vn) ⟨ρ',s.push ⟨(bs++[aj p,[B false]]).set ab (fe (ff v j (.slice .aA 0 [])) (ff o j (!decide ((j:Int)=req))) 0 w.rs.l.length),tk⟩⟩∧(ρ' 0=OW w∧ρ' 1=.slice op ep (plan.map aj)∧ρ' 2=.slice os es (set.map aD)∧ρ' 3=I req∧ρ' 8=.ptr s.ag.length 0 0∧ρ' 9=.ptr s.ag.length ob 0∧ρ' 19=I w.rs.l.length∧ρ' 20=I ((j+1:Nat):Int)):=by
        rw[go_loop]
        simp only[OW,aj,Sl.v]at g0 fo⊢
        generalize fe (ff v j (.slice .aA 0 [])) (ff o j (!decide ((j:Int)=req))) 0 w.rs.l.length=Z2 at*
        generalize fe (ff v j (.slice .aA 0 [])) o 0 w.rs.l.length=Z1 at*
        simp only[go_sem,mn,g1,g2,g3,g9,g19,g20,hs,aS hj,dI,lR,cz,fo,fa,VU,u2,at_len,rD,qV,mT,ri,gW,s0,s1,zS,aY,aB,simprocAttr]
        refine⟨_,rfl,?_⟩
        exact⟨g0,g1,g2,g3,g8,g9,g19,rfl⟩
      obtain⟨ρ',e1,e2⟩:=fR
      rw[←FG]at e1
      refine⟨ρ',_,tk,_,⟨.aA,0,[]⟩,e1,e2,NB hB hj h (by rw[mj (by rw[cj];omega)]) (fun q hq sn zf=>?_) (.inl ⟨rfl,rfl⟩) yV.symm rfl⟩
      rw[eI (fun e=>sn e.symm),dC hq]
end
section
variable{s:ae} {w:W}
structure xK (w:W) (plan:List P) (set:List Int) (req:Int) (all:List (Sl P×Bool)):Prop where
 len:all.length=w.rs.l.length
 get:∀i:Nat,i<w.rs.l.length→∃c:Sl P,all[i]? =some (c,lM plan set req (i:Int))∧c.l=hH w plan set (i:Int)∧c.ok 3
theorem xL.ok {d ab:Nat} {bi:Nat→Nat} {j:Nat} {bs:List (List AV)} {v:AV} {c:Sl P} (h:xL w d ab bi j bs v c):c.ok 3:=by
 obtain⟨_,e⟩|⟨b,cap,R,_,_,_,e,_⟩:=h
 ·rw[e];exact⟨.inl rfl,.inr (.inr ⟨rfl,rfl⟩)⟩
 ·rw[e];exact⟨.inr rfl,.inl rfl⟩
theorem ato {plan:List P} {set:List Int} {req:Int} {op os:Own} {ep es:Nat} (hs:Ok s) (hw:Wk w) (hN:0<w.rs.l.length) (hp:oD plan) (qG:plan=[]∨ep=3) (dQ:set=[]∨es=1) (sv:set.length≤100000):
  ∃all,aw AP (.fn 33) [OW w,.slice op ep (plan.map aj),.slice os es (set.map aD),I req] s=some (CH w .any 2 all,s)∧xK w plan set req all:=by
 obtain⟨ρ0,wh,tk0,x,bi,f1,f2,f3,f4,f5⟩:=Wg (F:=fun e st=>match e with|.exit _=>none|_=>(tU st [.cell true 2 2]).map fun l=>(packed l,st.sig)) (bs:=[[NP,.slice .aA 0 []]]) (tk:=[]) hs hw
 obtain⟨g1,_⟩|⟨_,ab,gJ,rfl⟩:=f4.gx
 ·omega
 simp only[dO,iK,fB]at f2 f3 f5 f4
 have jz:wh[0]? =some [NP,.slice .aA 0 []]:=by rw[f5 0 (by omega)];rfl
 have hi:aw AP (.inl 44) [OW w] (s.push ⟨[[NP,.slice .aA 0 []]],[]⟩)=some (.agg [OW w,.aO s.ag.length ab 0 2 w.rs.l.length 0],s.push ⟨wh,tk0⟩):=by
  rw[adG (show AP 44=some Au from rfl) rfl (by have:=hs.ro;rw[LV];show s.ro<_;omega)]
  refine f1.trans ?_
  have hl:(s.push ⟨wh,tk0⟩).load true 2 (.ptr s.ag.length 1 0)=some (.agg [OW w,.aO s.ag.length ab 0 2 w.rs.l.length 0]):=by
   simp only[ae.load,ae.row,iu,f3,dK,eK,part,bB,dO,iK]
   rfl
  simp only[tU,sK,f2,hl,dK,packed]
 have ah3:=(bd.1 gJ).1
 have hB:Ln w wh.length ab bi:=by
  refine⟨by have:=(bd.1 jz).1;omega,by have:=(f4.own ab _ _ rfl).1;omega,ah3,fun i hi aB=>?_,f4.inj⟩
  obtain⟨q1,q2⟩:=f4.box i hi aB
  exact⟨by omega,(bd.1 q1).1,(f4.own ab _ _ rfl).2 i hi aB⟩
 have key : ∀ (k j : Nat) ρ bs tk v o c, k = w.rs.l.length - j → j ≤ w.rs.l.length → zK w s.ag.length wh.length ab bi plan set req j bs v o c → (ρ 0 = OW w ∧ ρ 1 = .slice op ep (plan.map aj) ∧ ρ 2 = .slice os es (set.map aD) ∧ ρ 3 = I req ∧ ρ 8 = .ptr s.ag.length 0 0 ∧ ρ 9 = .ptr s.ag.length wh.length 0 ∧ ρ 19 = I w.rs.l.length ∧ ρ 20 = I j) →
   ∃all,go AP uL (.c (.loop mn)::vn) ⟨ρ,s.push ⟨bs,tk⟩⟩=some (CH w .any 2 all,s)∧xK w plan set req all:=by
  intro k
  induction k with
  | zero =>
   rintro j ρ bs tk v o c hk hj hI ⟨g0,g1,g2,g3,g8,g9,g19,g20⟩
   obtain rfl:j=w.rs.l.length:=by omega
   have lz:=(bd.1 hI.z).1
   have Ko:∀r:List AV,(bs.set 0 r)[ab]? =bs[ab]? :=fun r=>eI (by have:=hB.a0;omega)
   have dc:=an8 (s:=s) (bs:=bs.set 0 [OW w,.aO s.ag.length ab 0 2 w.rs.l.length 0]) (tk:=tk) (o:=o) (c:=c) (by rw[Ko];exact hI.a) (fun i hi=>by
    obtain⟨d1,_,_⟩:=hI.done i hi
    refine xL.deep (w:=w) (ab:=ab) (bi:=bi) (j:=w.rs.l.length) ?_
    obtain⟨e1,e2⟩|⟨b,cap,R,e1,e2,e3⟩:=d1
    ·exact .inl ⟨e1,e2⟩
    ·by_cases hb:b=0
     ·exfalso
      subst hb
      rw[hI.z]at e2
      injection e2 with e2
      have:=hU List.length e2
      rw[ni]at this
      simp at this
      omega
     ·exact .inr ⟨b,cap,R,e1,by rw[eI (by omega)];exact e2,e3⟩)
   refine⟨(List.range w.rs.l.length).map fun i=>(c i,o i),?_,⟨by simp,fun i hi=>?_⟩⟩
   ·have dR:=hI.oo
    have hz:=hI.z
    have h00:∀r:List AV,(bs.set 0 r)[0]? =some r:=fun r=>mj lz
    rw[go_loop]
    simp only[CH,OW]at dR dc⊢
    generalize((List.range w.rs.l.length).map fun i=>(c i,o i)).map gm=Z at*
    simp only[Sl.v]at dR dc⊢
    simp only[go_sem,mn,M4,g8,g9,g19,g20,hs,bM,dR,hz,h00,dc,Qg,simprocAttr]
   ·obtain⟨d1,d2,d3⟩:=hI.done i hi
    refine⟨c i,?_,d2,d1.ok⟩
    rw[je,Hs hi,←d3];rfl
  |succ k ih=>
   rintro j ρ bs tk v o c hk hj hI ⟨g0,g1,g2,g3,g8,g9,g19,g20⟩
   obtain⟨ρ',iw,mh,v',c',e1,e2,e3⟩:=aef (tk:=tk) hs hw rfl hB (by omega) hp qG dQ sv hI g0 g1 g2 g3 g8 g9 g19 g20
   rw[e1]
   exact ih (j+1) ρ' iw mh _ _ _ (by omega) (by omega) e3 e2
 have Gp:zK w s.ag.length wh.length ab bi plan set req 0 (wh++[[OW w,.aO s.ag.length ab 0 2 w.rs.l.length 0]]) (fun i=>lD s.ag.length (bi i) (ct w [] (i:Int))) (fun _=>true) (fun _=>⟨.aA,0,[]⟩):=by
  refine⟨uE jz,by simp,by rw[←arT];exact uE gJ,fun i _ hi=>⟨rfl,fun aB=>uE (f4.box i hi aB).1⟩,fun i hi=>absurd hi (da _)⟩
 have J2:=key w.rs.l.length 0
 rw[aL (show AP 33=some EB from rfl) rfl]
 simp only[OW,Sl.v]at hi J2 Gp⊢
 simp only[go_sem,TU,hs,hi,at_len,mT,GD,simprocAttr]
 refine J2 _ _ _ _ _ _ rfl (bg _) Gp ?_
 exact⟨rfl,rfl,rfl,rfl,rfl,rfl,rfl,rfl⟩
end
end Go.Ax.Sx.Sc
