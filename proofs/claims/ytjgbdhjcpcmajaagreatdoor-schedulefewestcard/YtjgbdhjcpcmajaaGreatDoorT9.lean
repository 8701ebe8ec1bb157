/- A part of the proof. -/
import Derived.Test.YtjgbdhjcpcmajaaGreatDoorT8
import Derived.Test.YtjgbdhjcpcmajaaGreatDoorT7
set_option linter.unusedSimpArgs false
set_option linter.unusedVariables false
set_option maxRecDepth 100000
namespace Go.Ax.Sx.Sc
open Go.Ax
section
variable{s:ae} {w:W}
theorem aou {r:Rec} {q:Nat} {g:Bool} {n b off:Nat}:xq (s.push r) q g n (.ptr s.ag.length b off)=if r.boxes.length≤b+q then none else(s.push r).load g n (.ptr s.ag.length b off):=by
 unfold xq
 simp only[fE,xw,K2]
theorem aot {m:ae} {q:Nat} {g:Bool} {n off:Nat} {cs:List AV}:xq m q g n (.bq cs off)=m.load g n (.bq cs off):=rfl
theorem af4 {r:Rec} {k n b off:Nat} {y:AV}:yD (s.push r) k n (.ptr s.ag.length b off) y=if b=r.boxes.length-k∧0<k then(s.push r).store n (.ptr s.ag.length b off) y else none:=by
 unfold yD
 simp only[fE,xw,K2]
attribute [go_sem] aou aot af4
theorem apf {β:Type} {f:Bool→β} {d:β}:lD AV.undef f d=d:=rfl
attribute [go_sem] apf
theorem ZU:List.replicate 2 ([]:List AV)=[[],[]]:=rfl
theorem aaA {a b c r:List AV} {z:AV}:KZ [a,b,c,[],[]] [] 2 (z::r)=some (3,[a,b,c,z::r,[]]):=rfl
theorem aaz {a b c x r:List AV} {z:AV}:KZ [a,b,c,x,[]] [] 1 (z::r)=some (4,[a,b,c,x,z::r]):=rfl
theorem S4 {l:List Int} {o:Own} {e:Nat} {n:Int} (he:l=[]∨e=1) (hl:(l.length:Int)<9223372036854775808):
  aw AP (.fn 82) [.slice o e (l.map aD),I n] s=some (B (l.any fun m=>decide (m=n)),s):=by
 have key:∀(k:Nat) ρ m,k≤l.length→(ρ 0=.slice o e (l.map aD)∧ρ 1=I n∧ρ 5=I k∧m=s.push ⟨[],[]⟩)→go AP afm (.c (.loop CI)::amq) ⟨ρ,m⟩=some (B ((l.drop k).any fun m=>decide (m=n)),s):=by
  refine ck l.length _ _ ?_ ?_
  ·rintro k ρ m hk ⟨h0,h1,h5,rfl⟩ ih
   obtain⟨a,ha⟩:=get_some hk
   have he:e=1:=by rcases he with h|h;(rw[h]at ha;simp at ha);exact h
   subst he
   have hr:=cq (o:=o) (es:=1) (f:=aD) ha
   rw[eQ ha,oA]
   cases hd:decide (a=n)with
   |true=>simp only[go_sem,CI,h0,h1,h5,aS hk,hr,hd,simprocAttr];rfl
   |false=>
    simp only[go_sem,CI,h0,h1,h5,aS hk,hr,hd,bK hk hl,simprocAttr]
    rw[mW];exact ih _ _ ⟨h0,h1,rfl,rfl⟩
  ·rintro ρ m ⟨h0,h1,h5,rfl⟩
   simp only[go_sem,CI,L4,h0,h5,bM,simprocAttr]
   rw[eS];rfl
 rw[aL (show AP 82=some DD from rfl) rfl]
 simp only[go_sem,S7,simprocAttr]
 exact key 0 _ _ (bg _) ⟨rfl,rfl,rfl,rfl⟩
theorem arn {a:A} {t:Int} (hs:Ok s) (he:a.cl.l=[]∨a.cl.e=2) (hl:(a.cl.l.length:Int)<9223372036854775808):
  aw AP (.fn 97) [.agg (bZ a),I t] s=some (B (isClosed a t),s):=by
 obtain⟨name,jb,⟨o,e,l⟩⟩:=a
 simp only at he hl
 have key:∀(k:Nat) ρ m,k≤l.length→(ρ 1=I t∧ρ 2=.ptr s.ag.length 0 0∧ρ 5=I k∧m=s.push ⟨[[S name,I jb,.slice o e (l.map gN)]],[]⟩)→go AP afz (.c (.loop C5)::amY) ⟨ρ,m⟩=some (B ((l.drop k).any fun p=>wi t p.1 p.2),s):=by
  refine ck l.length _ _ ?_ ?_
  ·rintro k ρ m hk ⟨h1,h2,h5,rfl⟩ ih
   obtain⟨a,ha⟩:=get_some hk
   have he:e=2:=by rcases he with h|h;(rw[h]at ha;simp at ha);exact h
   subst he
   have hr:=cq (o:=o) (es:=2) (f:=gN) ha
   rw[eQ ha,oA]
   cases hd:wi t a.1 a.2 with
   |true=>simp only[go_sem,C5,h1,h2,h5,aS hk,hr,fY,hd,simprocAttr];rfl
   |false=>
    simp only[go_sem,C5,h1,h2,h5,aS hk,hr,fY,hd,bK hk hl,simprocAttr]
    rw[mW];exact ih _ _ ⟨h1,h2,rfl,rfl⟩
  ·rintro ρ m ⟨h1,h2,h5,rfl⟩
   simp only[go_sem,C5,Mz,h2,h5,bM,simprocAttr]
   rw[eS];rfl
 rw[aL (show AP 97=some D4 from rfl) rfl]
 simp only[go_sem,Ts,simprocAttr]
 exact key 0 _ _ (bg _) ⟨rfl,rfl,rfl,rfl⟩
theorem ab8 {f:Nat→Bool} {k m:Nat} (h:k<m):((List.range m).drop k).any f=(f k||((List.range m).drop (k+1)).any f):=by
 rw[eQ (x:=k) (by simp[h]),oA]
theorem ZN {p:P} (hs:Ok s) (hw:Wk w) (hp:ch w p):aw AP (.fn 79) [w.v,.agg (aj p)] s=some (B (p.an.l.any fun a=>!cS w a p.start (w.rq p.req).len),s):=by
 have hlen:=hw.len hp.r0 hp.r1
 have hs0:=hp.s0
 have qP:=hp.s1
 have fR:=qV hw hp.r0 hp.r1
 have cD:=hp.len
 have jl:=hp.ok.1
 have Xn:=hp.an
 generalize hq:w.rq p.req=q at*
 obtain⟨req,st,⟨o,e,l⟩⟩:=p
 simp only at hlen hs0 qP fR cD jl Xn
 have hm:((q.len.toNat:Nat):Int)=q.len:=by omega
 have key : ∀ (k : Nat) ρ m, k ≤ l.length → (ρ 2 = .ptr s.ag.length 0 0 ∧ ρ 3 = .ptr s.ag.length 1 0 ∧ ρ 5 = I k ∧ m = s.push ⟨[c8 w, [I req, I st, .slice o e (l.map aD)]], []⟩) →
   go AP VB (.c (.loop C7)::am1) ⟨ρ,m⟩=some (B ((l.drop k).any fun a=>!cS w a st q.len),s):=by
  refine ck l.length _ _ ?_ ?_
  ·rintro k ρ m hk ⟨h2,h3,h5,rfl⟩ ih
   obtain⟨a,ha⟩:=get_some hk
   have he:e=1:=by rcases jl with h|h;(rw[h]at ha;simp at ha);exact h
   subst he
   have hr:=cq (o:=o) (es:=1) (f:=aD) ha
   obtain⟨rR,cQ⟩:=Xn a (bQ ha)
   obtain⟨x,hx,_,cr⟩:=Kr hw rR cQ
   have fI:=bQ hx
   have aT:∀r t,aw AP (.fn 97) [.agg (bZ x),I t] (s.push r)=some (B (isClosed x t),s.push r):=fun r t=>arn (hs.push r) (hw.ok.cl x fI).1 (by have:=(hw.v.a x fI).UN;omega)
   have cd:(!cS w a st q.len)=(List.range q.len.toNat).any fun t=>isClosed x (st+t):=by
    unfold cS;rw[hx];simp
   have inner:∀(j:Nat) ρ m,j≤q.len.toNat→(ρ 2=.ptr s.ag.length 0 0∧ρ 3=.ptr s.ag.length 1 0∧ρ 5=I k∧ρ 6=I j∧m=s.push ⟨[c8 w,[I req,I st,.slice o 1 (l.map aD)]],[]⟩)→
     go AP VB (.c (.loop C8)::am2) ⟨ρ,m⟩=some (B ((((List.range q.len.toNat).drop j).any fun t=>isClosed x (st+t))||((l.drop (k+1)).any fun a=>!cS w a st q.len)),s):=by
    refine ck q.len.toNat _ _ ?_ ?_
    ·rintro j ρ m hj ⟨g2,g3,g5,g6,rfl⟩ fJ
     have dH:decide ((j:Int)<q.len)=true:=by simp;omega
     rw[ab8 hj]
     have Ke:IntKind.i64.wrap (st+(j:Int))=st+j:=bW (by omega) (by omega)
     simp only[bZ,Sl.v]at aT cr
     simp only[bU,Sl.v]at fR
     cases hd:isClosed x (st+j)with
     |true=>simp only[go_sem,C8,g2,g3,g5,g6,fR,dH,hr,cr,aT,Ke,hd,simprocAttr];rfl
     |false=>
      simp only[go_sem,C8,g2,g3,g5,g6,fR,dH,hr,cr,aT,Ke,hd,bK hj (show((q.len.toNat:Nat):Int)<_ by omega),simprocAttr]
      rw[mW]
      exact fJ _ _ ⟨g2,g3,g5,rfl,rfl⟩
    ·rintro ρ m ⟨g2,g3,g5,g6,rfl⟩
     have dH:decide (((q.len.toNat:Nat):Int)<q.len)=false:=by simp;omega
     simp only[bU,Sl.v]at fR
     simp only[go_sem,C8,MC,g2,g3,g5,g6,fR,dH,bK hk cD,simprocAttr]
     rw[zN (by simp),List.any_nil,mW]
     exact ih _ _ ⟨g2,g3,rfl,rfl⟩
   rw[eQ ha,oA,cd]
   simp only[go_sem,C7,h3,h5,aS hk,simprocAttr]
   refine ui (inner 0 _ _ (bg _) ?_) ?_
   ·exact⟨h2,h3,h5,rfl,rfl⟩
   ·rw[ku]
  ·rintro ρ m ⟨h2,h3,h5,rfl⟩
   simp only[go_sem,C7,Im,h3,h5,bM,simprocAttr]
   rw[eS];rfl
 rw[aL (show AP 79=some D8 from rfl) rfl]
 simp only[go_sem,Tt,simprocAttr]
 exact key 0 _ _ (bg _) ⟨rfl,rfl,rfl,rfl⟩
theorem arb {a b:P} (hs:Ok s) (hw:Wk w) (ha:ch w a) (hb:ch w b):aw AP (.fn 83) [w.v,.agg (aj a),.agg (aj b)] s=some (B (dE w a b),s):=by
 have Bh:∀{a b:P},ch w a→ch w b→IntKind.i64.wrap (IntKind.i64.wrap (b.start-a.start)-(w.rq a.req).len)=b.start-lO w a:=by
  intro a b ha hb
  have hl:=hw.len ha.r0 ha.r1
  have h3:=hb.s0
  have h4:=hb.s1
  have h5:=ha.s0
  have h6:=ha.s1
  unfold lO
  rw[bW (x:=b.start-a.start) (by omega) (by omega),bW (by omega) (by omega)];omega
 have key : ∀ (a b : P), ch w a → ch w b → ∀ (k : Nat) ρ m, k ≤ a.an.l.length → (ρ 3 = .ptr s.ag.length 0 0 ∧ ρ 4 = .ptr s.ag.length 1 0 ∧ ρ 5 = .ptr s.ag.length 2 0 ∧ ρ 7 = .ptr s.ag.length 3 0 ∧ ρ 8 = .ptr s.ag.length 4 0 ∧ ρ 9 = I (b.start - lO w a) ∧ ρ 10 = I k ∧ m = s.push ⟨[c8 w, aj a, aj b, bU (w.rq a.req), bU (w.rq b.req)], []⟩) →
   go AP afs (.c (.loop wa)::amJ) ⟨ρ,m⟩=some (B ((a.an.l.drop k).any fun n=>(b.an.l.any fun m=>decide (n=m))&&decide (b.start-lO w a<(if(w.rq a.req).bw=(w.rq b.req).bw then 0 else w.pz n))),s):=by
  intro a b ha hb
  refine ck a.an.l.length _ _ ?_ ?_
  ·rintro k ρ m hk ⟨h3,h4,h5,h7,h8,h9,dh,rfl⟩ ih
   obtain⟨n,hn⟩:=get_some hk
   obtain⟨ft,F2⟩:=ha.an n (bQ hn)
   obtain⟨x,hx,cp,cr⟩:=Kr hw ft F2
   have qQ:=hw.pz ft F2
   have hr:=Sl.ix (f:=aD) ha.ok hn
   have hh:∀r,aw AP (.fn 82) [.slice b.an.o b.an.e (b.an.l.map aD),I n] (s.push r)=some (B (b.an.l.any fun m=>decide (m=n)),s.push r):=fun r=>S4 hb.ok.1 hb.len
   have ajZ:(b.an.l.any fun m=>decide (n=m))=b.an.l.any fun m=>decide (m=n):=by
    congr 1;funext m;exact Va eq_comm
   rw[eQ hn,oA,ajZ]
   simp only[bZ,Sl.v]at cr
   generalize((a.an.l.drop (k+1)).any fun n=>(b.an.l.any fun m=>decide (n=m))&&decide (b.start-lO w a<(if(w.rq a.req).bw=(w.rq b.req).bw then 0 else w.pz n)))=R at*
   generalize b.start-lO w a=t at*
   generalize(b.an.l.any fun m=>decide (m=n))=has at*
   rw[cp]at qQ⊢
   cases has with
   |false=>
    simp only[go_sem,wa,h4,h5,dh,aS hk,hr,hh,bK hk ha.len,simprocAttr]
    rw[jM,mW]
    refine ih _ _ ?_
    exact⟨h3,h4,h5,h7,h8,h9,rfl,rfl⟩
   | true =>
    rw[iu]
    by_cases ht:t<0
    ·have:decide (t<(if(w.rq a.req).bw=(w.rq b.req).bw then 0 else x.jb))=true:=bP (by split<;>omega)
     rw[this,xJ]
     simp only[go_sem,wa,h4,h5,h9,dh,aS hk,hr,hh,ht,simprocAttr]
    ·by_cases hm:(w.rq a.req).bw=(w.rq b.req).bw
     ·rw[ak hm,bS ht,mW]
      have ll:decide (¬(w.rq a.req).bw=(w.rq b.req).bw)=false:=by simp[hm]
      simp only[go_sem,wa,h4,h5,h7,h8,h9,dh,aS hk,hr,hh,bK hk ha.len,ht,ll,aY,simprocAttr]
      refine ih _ _ ?_
      exact⟨h3,h4,h5,h7,h8,h9,rfl,rfl⟩
     ·rw[aq hm]
      have ll:decide (¬(w.rq a.req).bw=(w.rq b.req).bw)=true:=by simp[hm]
      by_cases ed:t<x.jb
      ·rw[bP ed,xJ]
       simp only[go_sem,wa,h3,h4,h5,h7,h8,h9,dh,aS hk,hr,hh,cr,ht,ll,ed,aY,simprocAttr]
      ·rw[bS ed,mW]
       simp only[go_sem,wa,h3,h4,h5,h7,h8,h9,dh,aS hk,hr,hh,cr,bK hk ha.len,ht,ll,ed,aY,simprocAttr]
       refine ih _ _ ?_
       exact⟨h3,h4,h5,h7,h8,h9,rfl,rfl⟩
  ·rintro ρ m ⟨h3,h4,h5,h7,h8,h9,dh,rfl⟩
   simp only[go_sem,wa,Mj,h4,dh,bM,simprocAttr]
   rw[eS];rfl
 rw[aL (show AP 83=some DU from rfl) rfl]
 unfold dE uG
 have ra:=qV hw ha.r0 ha.r1
 have rb:=qV hw hb.r0 hb.r1
 simp only[bU,Sl.v]at ra rb
 by_cases h1:a.req=b.req
 ·simp only[go_sem,H9,h1,simprocAttr]
 ·rw[aq h1]
  by_cases h2:b.start<a.start
  ·rw[ak h2]
   simp only[go_sem,H9,hs,ra,rb,h1,h2,ZU,aaA,aaz,dP,iL,Nat.reduceLeDiff,nb,Nat.lt_add_one,Nat.reduceLT,Nat.reduceEqDiff,Bh hb ha,simprocAttr]
   refine key b a hb ha 0 _ _ (bg _) ?_
   exact⟨rfl,rfl,rfl,rfl,rfl,rfl,rfl,rfl⟩
  ·rw[aq h2]
   simp only[go_sem,H9,hs,ra,rb,h1,h2,ZU,aaA,aaz,dP,iL,Nat.reduceLeDiff,nb,Nat.lt_add_one,Nat.reduceLT,Nat.reduceEqDiff,Bh ha hb,simprocAttr]
   refine key a b ha hb 0 _ _ (bg _) ?_
   exact⟨rfl,rfl,rfl,rfl,rfl,rfl,rfl,rfl⟩
end
section
variable{s:ae} {w:W}
theorem ab5 {l r:List Int}:(l.any fun n=>r.any fun m=>decide (n=m))=r.any fun n=>l.any fun m=>decide (n=m):=by
 rw[vI]
 simp only[fL,dZ]
 constructor
 ·rintro⟨x,hx,y,hy,rfl⟩;exact⟨x,hy,x,hx,rfl⟩
 ·rintro⟨x,hx,y,hy,rfl⟩;exact⟨x,hy,x,hx,rfl⟩
theorem UL (hw:Wk w) {a b:P} (ha:ch w a) (h:a.start=b.start):uG w a b=a.an.l.any fun n=>b.an.l.any fun m=>decide (n=m):=by
 have hl:=hw.len ha.r0 ha.r1
 unfold uG
 rw[vI]
 simp only[fL,dB,dZ]
 constructor
 ·rintro⟨x,hx,h1,_⟩;exact⟨x,hx,h1⟩
 ·rintro⟨x,hx,h1⟩
  refine⟨x,hx,h1,?_⟩
  have:=hw.pz (ha.an x hx).1 (ha.an x hx).2
  unfold lO
  split<;>omega
theorem Fe (hw:Wk w) {a b:P} (ha:ch w a) (hb:ch w b):dE w a b=dE w b a:=by
 unfold dE
 by_cases h1:a.req=b.req
 ·rw[ak h1,ak (sR h1)]
 ·rw[aq h1,aq (show¬b.req=a.req from fun e=>h1 (sR e))]
  by_cases h2:b.start<a.start
  ·rw[ak h2,aq (by omega)]
  ·rw[aq h2]
   by_cases h3:a.start<b.start
   ·rw[ak h3]
   ·rw[aq h3,UL hw ha (by omega),UL hw hb (by omega),ab5]
theorem ab7 {l:List Int} {a:Int}:(l.any fun m=>decide (m=a))=l.any fun b=>decide (a=b):=by
 congr 1;funext m;exact Va eq_comm
def sI (l:List Int):Nat→Int
 |0=>-1
 |k+1=>l.getD k 0
theorem Yf {l:List P} {i:Nat} {x:P} (h:l[i]? =some x):ig (l.take (i+1))=x.req:=by
 rw[fU h];unfold ig;simp
theorem aro {l:List P} {o:Own} {e i:Nat} {p:P} (hs:Ok s) (hw:Wk w) (he:l=[]∨e=3) (hn:(l.length:Int)<1000000) (hi:l[i]? =some p) (dI:p.an.ok 1) (cD:(p.an.l.length:Int)<1000000) (hl:∀x∈l.take i,ch w x):
  aw AP (.fn 51) [w.v,.slice o e (l.map aj),I i] s=some (I (dO w p (l.take i)),s):=by
 have sg:i<l.length:=(bd.1 hi).1
 have he:e=3:=by rcases he with h|h;(rw[h]at hi;simp at hi);exact h
 subst he
 have cr:=cq (f:=aj) (o:=o) (es:=3) hi
 have et:=hw.v.rl
 have iE:=hw.v.n2
 rw[aL (show AP 51=some D6 from rfl) rfl]
 unfold dO
 have nF:IntKind.i64.wrap ((w.rs.l.length:Int)-1)=(w.rs.l.length:Int)-1:=bW (by omega) (by omega)
 cases h1:wi p.req 0 (w.rs.l.length-1)with
 |false=>simp only[go_sem,uz,hs,cr,fY,nF,h1,ej,simprocAttr]
 | true =>
  rw[ak rfl]
  obtain⟨jm,fH⟩:=iK.1 h1
  have zh:p.req<w.rs.l.length:=by omega
  have hq:=hw.rq jm zh
  have fR:=qV hw jm zh
  have hlen:=hw.len jm zh
  have ai2:=hq.qX
  have aiL:=hq.bH
  have ai3:=hq.BE
  have aiY:=hq.po
  generalize J4:w.rq p.req=q at*
  have ve:IntKind.i64.wrap (q.hi-q.len)=q.hi-q.len:=bW (by omega) (by omega)
  have Bs:IntKind.i64.wrap (q.hi-q.len+1)=q.hi+1-q.len:=by rw[bW (by omega) (by omega)];omega
  have kc:ch w p→∀(k:Nat) ρ m,k≤i→(ρ 1=.slice o 3 (l.map aj)∧ρ 2=I i∧ρ 3=.ptr s.ag.length 0 0∧ρ 7=.ptr s.ag.length 1 0∧ρ 10=I k∧m=s.push ⟨[c8 w,aj p,bU q],[]⟩)→
    go AP Vz (.c (.loop C6)::amZ) ⟨ρ,m⟩=some (I (if(((l.take i).drop k).any fun x=>dE w x p)=true then 13 else 0),s):=by
   intro hp
   refine ck i _ _ ?_ ?_
   ·rintro k ρ m hk ⟨g1,g2,g3,g7,g10,rfl⟩ ih
    obtain⟨x,hx⟩:=get_some (l:=l) (k:=k) (by omega)
    have XR:(l.take i)[k]? =some x:=by rw[xP,ak hk];exact hx
    have XO:=hl x (bQ XR)
    have hr:=cq (f:=aj) (o:=o) (es:=3) hx
    have eY:∀r,aw AP (.fn 83) [w.v,.agg (aj p),.agg (aj x)] (s.push r)=some (B (dE w x p),s.push r):=fun r=>by
     rw[arb (hs.push r) hw hp XO,Fe hw hp XO]
    simp only[W.v,c8,aj,Sl.v]at eY
    rw[eQ XR,oA]
    cases hd:dE w x p with
    |true=>simp only[go_sem,C6,g1,g2,g3,g7,g10,aS hk,hr,eY,hd,xJ,simprocAttr]
    |false=>
     simp only[go_sem,C6,g1,g2,g3,g7,g10,aS hk,hr,eY,hd,bK hk (show(i:Int)<_ by omega),simprocAttr]
     rw[mW]
     refine ih _ _ ?_
     exact⟨g1,g2,g3,g7,rfl,rfl⟩
   ·rintro ρ m ⟨g1,g2,g3,g7,g10,rfl⟩
    simp only[go_sem,C6,MA,g2,g10,bM,simprocAttr]
    rw[zN (by rw[fW];omega)];rfl
  have ka : (q.lo ≤ p.start ∧ p.start ≤ q.hi + 1 - q.len) → ∀ (k : Nat) ρ m, k ≤ p.an.l.length → (ρ 1 = .slice o 3 (l.map aj) ∧ ρ 2 = I i ∧ ρ 3 = .ptr s.ag.length 0 0 ∧ ρ 7 = .ptr s.ag.length 1 0 ∧ ρ 8 = .ptr s.ag.length 2 0 ∧ ρ 9 = I k ∧ (∀ a ∈ p.an.l.take k, 0 ≤ a ∧ a < w.as.l.length) ∧ m = s.push ⟨[c8 w, aj p, bU q], []⟩) →
    go AP Vz (.c (.loop wb)::am0) ⟨ρ,m⟩=some (I (if eO q (sI p.an.l k) (p.an.l.drop k)=0 then(if(p.an.l.any fun a=>!cS w a p.start q.len)=true then 21 else if dL w p (l.take i)=true then 13 else 0)else eO q (sI p.an.l k) (p.an.l.drop k)),s):=by
   intro cp
   refine ck p.an.l.length _ _ ?_ ?_
   ·rintro k ρ m hk ⟨g1,g2,g3,g7,g8,g9,bH,rfl⟩ ih
    obtain⟨a,ha⟩:=get_some hk
    have hr:=Sl.ix (f:=aD) dI ha
    have hh:∀r,aw AP (.fn 82) [.slice q.an.o q.an.e (q.an.l.map aD),I a] (s.push r)=some (B (q.an.l.any fun b=>decide (a=b)),s.push r):=fun r=>by
     have Bp:=W.qh jm zh
     rw[J4]at Bp
     rw[S4 (hw.ok.an q Bp).1 (by have:=hw.rM.an q Bp;omega)]
     rw[ab7]
    rw[eQ ha,eO]
    cases hc:(q.an.l.any fun b=>decide (a=b))with
    |false=>
     simp only[go_sem,wb,g7,g8,g9,aS hk,hr,hh,hc,ej,simprocAttr]
    | true =>
     have eM:0≤a∧a<w.as.l.length:=by
      obtain⟨b,hb,he⟩:=fL.1 hc
      rw[KF he];exact hq.tc b hb
     rw[ak rfl]
     have W5:∀x∈p.an.l.take (k+1),0≤x∧x<w.as.l.length:=by
      intro x hx
      rw[fU ha,dD]at hx
      rcases hx with hx|hx
      ·exact bH x hx
      ·rw[eK]at hx;rw[hx];exact eM
     have Gb:sI p.an.l (k+1)=a:=by show p.an.l.getD k 0=a;rw[List.getD,ha];rfl
     rcases vR k with FU|FU
     ·have aC:sI p.an.l k<a:=by rw[FU,show sI p.an.l 0=-1 from rfl];omega
      rw[ak aC]
      have h0:decide ((0:Int)<(k:Int))=false:=by simp;omega
      simp only[go_sem,wb,g7,g8,g9,aS hk,hr,hh,hc,h0,bK hk (show(p.an.l.length:Int)<_ by omega),simprocAttr]
      refine ui (ih _ _ ?_) ?_
      ·exact⟨g1,g2,g3,g7,g8,rfl,W5,rfl⟩
      ·rw[Gb]
     ·obtain⟨b,hb⟩:=get_some (l:=p.an.l) (k:=k-1) (by omega)
      have gB:=Sl.ix (f:=aD) dI hb
      have h0:decide ((0:Int)<(k:Int))=true:=by simp;omega
      have jR:IntKind.i64.wrap ((k:Int)-1)=((k-1:Nat):Int):=by rw[bW (by omega) (by omega)];omega
      have jE:sI p.an.l k=b:=by
       obtain⟨j,rfl⟩:∃j,k=j+1:=⟨k-1,by omega⟩
       show p.an.l.getD j 0=b
       rw[List.getD,show p.an.l[j]? =some b from hb];rfl
      rw[jE]
      by_cases gK:b<a
      ·rw[ak gK]
       have hd:decide (a≤b)=false:=by simp;omega
       simp only[go_sem,wb,g7,g8,g9,aS hk,hr,hh,hc,h0,jR,gB,hd,bK hk (show(p.an.l.length:Int)<_ by omega),simprocAttr]
       refine ui (ih _ _ ?_) ?_
       ·exact⟨g1,g2,g3,g7,g8,rfl,W5,rfl⟩
       ·rw[Gb]
      ·rw[aq gK]
       have hd:decide (a≤b)=true:=by simp;omega
       simp only[go_sem,wb,g7,g8,g9,aS hk,hr,hh,hc,h0,jR,gB,hd,simprocAttr]
   ·rintro ρ m ⟨g1,g2,g3,g7,g8,g9,bH,rfl⟩
    rw[jh]at bH
    have hp:ch w p:=⟨jm,zh,by omega,by omega,bH,dI,by omega⟩
    have kf:∀r,aw AP (.fn 79) [w.v,.agg (aj p)] (s.push r)=some (B (p.an.l.any fun a=>!cS w a p.start q.len),s.push r):=fun r=>by
     rw[ZN (hs.push r) hw hp,J4]
    have kc':=kc hp 0
    simp only[W.v,c8,aj,Sl.v]at kf
    rw[eS,eO,ak rfl]
    cases hc:(p.an.l.any fun a=>!cS w a p.start q.len)with
    |true=>simp only[go_sem,wb,Il,g3,g7,g9,bM,kf,hc,simprocAttr]
    |false=>
     rw[aq (by simp)]
     simp only[go_sem,wb,Il,g3,g7,g9,bM,kf,hc,simprocAttr]
     refine ui (kc' _ _ (bg _) ?_) ?_
     ·exact⟨g1,g2,g3,g7,rfl,rfl⟩
     ·rw[ku];rfl
  simp only[bU,aj,Sl.v]at fR cr
  have tail:(if wi p.start q.lo (q.hi+1-q.len)=true then(if(p.an.l.length:Int)=q.need then(if eO q (-1) p.an.l=0 then(if(p.an.l.any fun a=>!cS w a p.start q.len)=true then 21 else if dL w p (l.take i)=true then 13 else 0)else eO q (-1) p.an.l)else 10)else 2)=(if wi p.start q.lo (q.hi+1-q.len)=true then(if(p.an.l.length:Int)=q.need then(if eO q (-1) p.an.l=0 then(if(p.an.l.any fun a=>!cS w a p.start q.len)=true then 21 else if dL w p (l.take i)=true then 13 else 0)else eO q (-1) p.an.l)else 10)else 2):=rfl
  rcases vR i with JU|JU
  ·have aC:ig (l.take i)<p.req:=by rw[JU,show ig (l.take 0)=-1 from rfl];omega
   rw[ak aC]
   have h0:decide ((0:Int)<(i:Int))=false:=by simp;omega
   cases h2:wi p.start q.lo (q.hi+1-q.len)with
   |false=>simp only[go_sem,uz,hs,cr,fY,nF,h1,h0,fR,ve,Bs,h2,ej,simprocAttr]
   | true =>
    rw[ak rfl]
    by_cases h3:(p.an.l.length:Int)=q.need
    ·rw[ak h3]
     have hd:decide (¬(p.an.l.length:Int)=q.need)=false:=by simp[h3]
     simp only[go_sem,uz,hs,cr,fY,nF,h1,h0,fR,ve,Bs,h2,hd,aY,simprocAttr]
     refine ui (ka (iK.1 h2) 0 _ _ (bg _) ?_) ?_
     ·exact⟨rfl,rfl,rfl,rfl,rfl,rfl,fun a h=>absurd h (by simp),rfl⟩
     ·rw[ku];rfl
    ·rw[aq h3]
     have hd:decide (¬(p.an.l.length:Int)=q.need)=true:=by simp[h3]
     simp only[go_sem,uz,hs,cr,fY,nF,h1,h0,fR,ve,Bs,h2,hd,aY,simprocAttr]
  ·obtain⟨x,hx⟩:=get_some (l:=l) (k:=i-1) (by omega)
   have gB:=cq (f:=aj) (o:=o) (es:=3) hx
   have h0:decide ((0:Int)<(i:Int))=true:=by simp;omega
   have jR:IntKind.i64.wrap ((i:Int)-1)=((i-1:Nat):Int):=by rw[bW (by omega) (by omega)];omega
   have wZ:ig (l.take i)=x.req:=by
    obtain⟨j,rfl⟩:∃j,i=j+1:=⟨i-1,by omega⟩
    exact Yf hx
   rw[wZ]
   simp only[aj,Sl.v]at gB
   by_cases aC:x.req<p.req
   ·rw[ak aC]
    have FG:decide (p.req≤x.req)=false:=by simp;omega
    cases h2:wi p.start q.lo (q.hi+1-q.len)with
    |false=>simp only[go_sem,uz,hs,cr,fY,nF,h1,h0,jR,gB,FG,fR,ve,Bs,h2,ej,simprocAttr]
    | true =>
     rw[ak rfl]
     by_cases h3:(p.an.l.length:Int)=q.need
     ·rw[ak h3]
      have hd:decide (¬(p.an.l.length:Int)=q.need)=false:=by simp[h3]
      simp only[go_sem,uz,hs,cr,fY,nF,h1,h0,jR,gB,FG,fR,ve,Bs,h2,hd,aY,simprocAttr]
      refine ui (ka (iK.1 h2) 0 _ _ (bg _) ?_) ?_
      ·exact⟨rfl,rfl,rfl,rfl,rfl,rfl,fun a h=>absurd h (by simp),rfl⟩
      ·rw[ku];rfl
     ·rw[aq h3]
      have hd:decide (¬(p.an.l.length:Int)=q.need)=true:=by simp[h3]
      simp only[go_sem,uz,hs,cr,fY,nF,h1,h0,jR,gB,FG,fR,ve,Bs,h2,hd,aY,simprocAttr]
   ·rw[aq aC]
    have FG:decide (p.req≤x.req)=true:=by simp;omega
    simp only[go_sem,uz,hs,cr,fY,nF,h1,h0,jR,gB,FG,simprocAttr]
theorem aq9 {l:List P} {o:Own} {e:Nat} (hs:Ok s) (hw:Wk w) (hl:gH l) (he:l=[]∨e=3):aw AP (.fn 25) [w.v,.slice o e (l.map aj)] s=some (.tuple [I (dQ w l).1,I (dQ w l).2],s):=by
 have hlen:=hl.len
 have key:∀(j:Nat) ρ x,j≤l.length→(ρ 1=.slice o e (l.map aj)∧ρ 2=.ptr s.ag.length 0 0∧ρ 6=I j∧(∀y∈l.take j,ch w y)∧x=s.push ⟨[c8 w],[]⟩)→
   go AP afr (.c (.loop CQ)::amG) ⟨ρ,x⟩=some (match fP (fun i x=>dO w x (l.take i)) j (l.drop j)with|some (k,e)=>.tuple [I k,I e]|none=>.tuple [I 0,I 0],s):=by
  refine ck l.length _ _ ?_ ?_
  ·rintro j ρ x hj ⟨h1,h2,h6,bH,rfl⟩ ih
   obtain⟨p,hp⟩:=get_some hj
   have dI:=hl.ok p (bQ hp)
   have jl:∀r,aw AP (.fn 51) [w.v,.slice o e (l.map aj),I j] (s.push r)=some (I (dO w p (l.take j)),s.push r):=fun r=>aro (hs.push r) hw he (by omega) hp dI.1 (by omega) bH
   simp only[W.v,c8,Sl.v]at jl
   rw[wJ hp]
   by_cases h0:dO w p (l.take j)=0
   ·rw[ak h0]
    have dW:=(BO hw dI.1 (by omega) h0).1
    simp only[go_sem,CQ,h1,h2,h6,aS hj,jl,h0,aY,eB,bK hj (show(l.length:Int)<_ by omega),simprocAttr]
    refine ih _ _ ?_
    refine⟨h1,h2,rfl,?_,rfl⟩
    intro y hy
    rw[fU hp,dD]at hy
    rcases hy with hy|hy
    ·exact bH y hy
    ·rw[eK]at hy;rw[hy];exact dW
   ·rw[aq h0]
    simp only[go_sem,CQ,h1,h2,h6,aS hj,jl,h0,aY,ij,simprocAttr]
  ·rintro ρ x ⟨h1,h2,h6,bH,rfl⟩
   simp only[go_sem,CQ,Mg,h1,h6,bM,simprocAttr]
   rw[eS];rfl
 rw[aL (show AP 25=some DS from rfl) rfl]
 simp only[go_sem,Tk,simprocAttr]
 refine ui (key 0 _ _ (bg _) ?_) ?_
 ·exact⟨rfl,rfl,rfl,fun y hy=>absurd hy (by simp),rfl⟩
 ·rw[ku];unfold dQ
  cases fP (fun i x=>dO w x (l.take i)) 0 l with
  |none=>rfl
  |some q=>rfl
end
section
variable{s:ae} {w:W}
theorem acQ {m:ae} {l:List Int} {o:Own} {e:Nat} (he:l=[]∨e=1) (hl:l.length≤4294967296):
  aw AP (.fn 38) [.slice o e (l.map aD)] (cT m)=some ((fi l).v aD,cT m):=by
 cases fQ:l with
 |nil=>
  rw[aL (show AP 38=some wu from rfl) rfl]
  simp(maxSteps:=1000000) only[go_sem,CG,eE,Hq,Nat.reduceEqDiff,reduceCtorEq,↓reduceIte]
  show some (_,((cT m).push ⟨[],[]⟩).pop)=_
  rw[pop_push];rfl
 | cons a q =>
  rw[←fQ]
  have hn:l≠[]:=by rw[fQ];simp
  have j7:e=1:=by rcases he with h|h;exact absurd h hn;exact h
  subst j7
  have hlen:(cT m).ag.length=m.ag.length:=rfl
  have ha:eE ((cT m).push ⟨[],[]⟩) 1 (.slice .full 1 []) (.slice o 1 (l.map aD))=some (.slice (.tok m.ag.length 0) 1 (l.map aD),(cT m).push ⟨[],[some l.length]⟩):=by
   have h3:=qc (cT m) ⟨[],[]⟩
   have h4:=oF (cT m) ⟨[],[]⟩ l.length
   rw[hlen]at h3 h4
   have h5:((cT m).push ⟨[],[]⟩).cur=m.ag.length:=by rw[fE,hlen]
   simp[eE,Own.isNil,dN,hl,hn,h3,h4,h5]
  rw[aL (show AP 38=some wu from rfl) rfl]
  simp(maxSteps:=1000000) only[go_sem,CG,ha,Nat.reduceEqDiff,reduceCtorEq,↓reduceIte]
  rw[fQ];rfl
def cP (p:P):P:=⟨p.req,p.start,fi p.an.l⟩
theorem QN {l:List P} {o:Own} {e:Nat} {Q:ae} {tk:List (Option Nat)} (hQ:Ok Q) (hl:gH l) (he:l=[]∨e=3):
  ∃x og tk',(∀bx,aw AP (.fn 12) [.slice o e (l.map aj)] (Q.push ⟨bx,tk⟩)=some (x,Q.push ⟨bx,tk'⟩))∧Acc Q.ag.length 3 ((l.map cP).map aj) x og tk'∧(tk'=tk∨tk'=tk++[some l.length]):=by
 have hlen:=hl.len
 have hs:∀bx,Ok (Q.push ⟨bx,tk⟩):=fun bx=>hQ.push _
 have oS:∀bx,(Q.push ⟨bx,tk⟩).ag.length=Q.ag.length+1:=fun bx=>by simp[ae.push]
 have loop:∀bx,∀(k:Nat) ρ m,k≤l.length→(ρ 0=.slice o e (l.map aj)∧ρ 4=I k∧∃x og vD,Acc (Q.push ⟨bx,tk⟩).ag.length 3 (((l.take k).map cP).map aj) x og vD∧ρ 3=x∧m=(Q.push ⟨bx,tk⟩).push ⟨[],vD⟩)→
   go AP aft (.c (.loop CU)::amM) ⟨ρ,m⟩=some (if l=[]then .slice .aA 0 []else .slice (.tok Q.ag.length tk.length) 3 ((l.map cP).map aj),if l=[]then Q.push ⟨bx,tk⟩else Q.push ⟨bx,tk++[some l.length]⟩):=by
  intro bx
  refine ck l.length _ _ ?_ ?_
  ·rintro k ρ m hk ⟨h0,h4,x,og,vD,hA,h3,rfl⟩ ih
   obtain⟨p,hp⟩:=get_some hk
   have dV:e=3:=by rcases he with h|h;(rw[h]at hp;simp at hp);exact h
   subst dV
   have dI:=hl.ok p (bQ hp)
   have cr:=cq (f:=aj) (o:=o) (es:=3) hp
   have n6:∀m:ae,aw AP (.fn 38) [.slice p.an.o p.an.e (p.an.l.map aD)] (cT m)=some ((fi p.an.l).v aD,cT m):=fun m=>acQ dI.1.1 (by omega)
   have aR:(l.take k).length≤14:=by rw[fW];omega
   obtain⟨x',gm,mj,cQ,eM,uV,rS⟩:=hA.append (hs bx) .full (ys:=[aj (cP p)]) (by simp) (by simp;omega)
   obtain⟨KD,Je,KR,rfl⟩:=Acc.sl hA
   obtain⟨Zg,Vp,Rb,rfl⟩:=Acc.sl eM
   have aT:closeAll [I p.req,I p.start,(fi p.an.l).v aD]=some (aj (cP p)):=by
    simp only[mr,oI,pL,Sl.close (f:=aD) (Ff (l:=p.an.l))];rfl
   simp only[aj,Sl.v,cP]at cQ aT n6
   simp(maxSteps:=1000000) only[go_sem,CU,h0,h3,h4,aS hk,cr,n6,aT,cQ,bK hk (show(l.length:Int)<_ by omega),Nat.reduceEqDiff,reduceCtorEq,Nat.reduceAdd,↓reduceIte]
   refine ih _ _ ?_
   refine⟨h0,rfl,_,gm,mj,?_,rfl,rfl⟩
   rw[fU hp,iM,iM];exact eM
  ·rintro ρ m ⟨h0,h4,x,og,vD,hA,h3,rfl⟩
   rw[jh]at hA
   cases og with
   |none=>
    obtain⟨uR,rfl⟩:=hA
    have fQ:l=[]:=by simpa using uR
    rw[ak fQ,ak fQ]
    simp(maxSteps:=1000000) only[go_sem,CU,Ic,h0,h3,h4,bM,Nat.reduceEqDiff,reduceCtorEq,↓reduceIte]
   |some g=>
    obtain⟨uR,rfl,Od⟩:=hA
    have fQ:¬l=[]:=by intro h;apply uR;rw[h];rfl
    rw[aq fQ,aq fQ]
    have lu:=KJ (Q:=Q) (R:=⟨bx,tk⟩) (r0:=⟨[],vD⟩) (g:=g) (es:=3) (xs:=(l.map cP).map aj) hQ Od
    rw[oS]at h3
    simp(maxSteps:=1000000) only[go_sem,CU,Ic,h0,h3,h4,bM,Nat.reduceEqDiff,reduceCtorEq,↓reduceIte]
    refine lu.trans ?_
    rw[bY,bY]
 have run:∀bx,aw AP (.fn 12) [.slice o e (l.map aj)] (Q.push ⟨bx,tk⟩)=some (if l=[]then .slice .aA 0 []else .slice (.tok Q.ag.length tk.length) 3 ((l.map cP).map aj),if l=[]then Q.push ⟨bx,tk⟩else Q.push ⟨bx,tk++[some l.length]⟩):=by
  intro bx
  rw[aL (show AP 12=some DV from rfl) rfl]
  simp(maxSteps:=1000000) only[go_sem,Tl]
  refine loop bx 0 _ _ (bg _) ?_
  exact⟨rfl,rfl,_,none,[],Acc.start,rfl,rfl⟩
 by_cases fQ:l=[]
 ·refine⟨.slice .aA 0 [],none,tk,fun bx=>?_,⟨by rw[fQ];rfl,rfl⟩,.inl rfl⟩
  rw[run bx,ak fQ,ak fQ]
 ·refine⟨.slice (.tok Q.ag.length tk.length) 3 ((l.map cP).map aj),some tk.length,tk++[some l.length],fun bx=>?_,⟨by simpa using fQ,rfl,by simp⟩,.inr rfl⟩
  rw[run bx,aq fQ,aq fQ]
theorem Cw {d es:Nat} {xs:List (List AV)} {x:AV} {og:Option Nat} {tk:List (Option Nat)} (h:Acc d es xs x og tk):∃o e,x=.slice o e xs∧(xs=[]∨e=es):=by
 cases og with
 |none=>obtain⟨h1,h2⟩:=h;subst h1;exact⟨_,_,h2,.inl rfl⟩
 |some g=>exact⟨_,_,h.2.1,.inr rfl⟩
theorem ard {l:List P} {o:Own} {e:Nat} (hs:Ok s) (hw:w.Ok) (hf:w.ko) (hl:gH l) (he:l=[]∨e=3):aw AP (.fn 8) [w.v,.slice o e (l.map aj)] s=some (I (kK w l).2,s):=by
 have jS:∀r,aw AP (.fn 24) [w.v] (s.push r)=some (I (dp w).2.2,s.push r):=fun r=>ZJ (hs.push r) hw hf
 rw[aL (show AP 8=some DY from rfl) rfl]
 unfold kK
 by_cases h0:(dp w).2.2=0
 ·have cz:Wk w:=⟨hw,hf,rn h0⟩
  have n6:∀r,aw AP (.fn 25) [w.v,.slice o e (l.map aj)] (s.push r)=some (.tuple [I (dQ w l).1,I (dQ w l).2],s.push r):=fun r=>aq9 (hs.push r) cz hl he
  simp only[W.v,c8,Sl.v]at jS n6
  rw[ak h0]
  simp(maxSteps:=1000000) only[go_sem,Mn,jS,n6,h0,aY,eB,Nat.reduceEqDiff,Nat.reduceAdd,↓reduceIte]
 ·simp only[W.v,c8,Sl.v]at jS
  rw[aq h0]
  simp(maxSteps:=1000000) only[go_sem,Mn,jS,h0,aY,ij,Nat.reduceEqDiff,Nat.reduceAdd,↓reduceIte]
def xB (l:List P):Bool:=decide (l.length≤14)&&l.all fun p=>decide (p.an.l.length≤6)
structure xX (l:List P):Prop where
 len:(l.length:Int)<9223372036854775808
 ok:∀p∈l,p.an.ok 1
 an:∀p∈l,(p.an.l.length:Int)<9223372036854775808
theorem aaq {l:List P} (hb:xX l) (h:xB l=true):gH l:=by
 simp only[xB,dB,dZ,jx]at h
 exact⟨h.1,fun p hp=>⟨hb.ok p hp,h.2 p hp⟩⟩
theorem Ye {l:List P} {o:Own} {e:Nat} (hb:xX l) (he:l=[]∨e=3):aw AP (.fn 6) [.slice o e (l.map aj)] s=some (B (xB l),s):=by
 have qD:decide ((14:Int)<(l.length:Int))=!decide (l.length≤14):=nU (by omega)
 have key:∀(k:Nat) ρ m,k≤l.length→(ρ 0=.slice o e (l.map aj)∧ρ 3=I k∧m=s.push ⟨[],[]⟩)→
   go AP afp (.c (.loop CO)::amE) ⟨ρ,m⟩=some (B ((l.drop k).all fun p=>decide (p.an.l.length≤6)),s):=by
  refine ck l.length _ _ ?_ ?_
  ·rintro k ρ m hk ⟨h0,h3,rfl⟩ ih
   obtain⟨p,hp⟩:=get_some hk
   have dV:e=3:=by rcases he with h|h;(rw[h]at hp;simp at hp);exact h
   subst dV
   have cr:=cq (f:=aj) (o:=o) (es:=3) hp
   have jE:=hb.an p (bQ hp)
   have h6:decide ((6:Int)<(p.an.l.length:Int))=!decide (p.an.l.length≤6):=nU (by omega)
   simp only[aj,Sl.v]at cr
   rw[LQ hp]
   cases hd:decide (p.an.l.length≤6)with
   |false=>simp(maxSteps:=1000000) only[go_sem,CO,h0,h3,aS hk,cr,h6,hd,mY,jM,Nat.reduceEqDiff,reduceCtorEq,Nat.reduceAdd,↓reduceIte]
   |true=>
    simp(maxSteps:=1000000) only[go_sem,CO,h0,h3,aS hk,cr,h6,hd,kM,bK hk hb.len,Nat.reduceEqDiff,reduceCtorEq,Nat.reduceAdd,↓reduceIte]
    exact ih _ _ ⟨h0,rfl,rfl⟩
  ·rintro ρ m ⟨h0,h3,rfl⟩
   simp(maxSteps:=1000000) only[go_sem,CO,Me,h0,h3,bM,Nat.reduceEqDiff,reduceCtorEq,↓reduceIte]
   rw[eS];rfl
 rw[aL (show AP 6=some DQ from rfl) rfl]
 unfold xB
 cases hd:decide (l.length≤14)with
 |false=>simp(maxSteps:=1000000) only[go_sem,Mc,qD,hd,mY,jM,reduceCtorEq,↓reduceIte]
 |true=>
  simp(maxSteps:=1000000) only[go_sem,Mc,qD,hd,kM,reduceCtorEq,↓reduceIte]
  exact key 0 _ _ (bg _) ⟨rfl,rfl,rfl⟩
end
section
variable{w:W}
theorem ym:(cW w).rs.l.length=w.rs.l.length:=by rw[wq,bY]
theorem wj {i:Int} (h0:0≤i) (h1:i<w.rs.l.length):(cW w).rq i=cR (w.rq i):=by
 unfold W.rq
 rw[wq,jf]
 obtain⟨x,hx⟩:=get_some (l:=w.rs.l) (k:=i.toNat) (by omega)
 rw[hx];rfl
theorem adt {a:Int}:(cW w).pz a=w.pz a:=by
 unfold W.pz
 rw[yl,jf]
 cases w.as.l[a.toNat]? <;>rfl
theorem Y5 {a st n:Int}:cS (cW w) a st n=cS w a st n:=by
 unfold cS
 rw[yl,jf]
 cases w.as.l[a.toNat]? <;>rfl
theorem aeT {p:P} (h0:0≤p.req) (h1:p.req<w.rs.l.length):lO (cW w) (cP p)=lO w p:=by
 unfold lO
 rw[show(cP p).req=p.req from rfl,wj h0 h1];rfl
theorem UK {a b:P} (rR:0≤a.req) (cQ:a.req<w.rs.l.length) (jA:0≤b.req) (gg:b.req<w.rs.l.length):uG (cW w) (cP a) (cP b)=uG w a b:=by
 unfold uG
 simp only[aeT rR cQ,show(cP a).req=a.req from rfl,show(cP b).req=b.req from rfl,wj rR cQ,wj jA gg,adt]
 rfl
theorem UX {a b:P} (rR:0≤a.req) (cQ:a.req<w.rs.l.length) (jA:0≤b.req) (gg:b.req<w.rs.l.length):dE (cW w) (cP a) (cP b)=dE w a b:=by
 unfold dE
 rw[UK rR cQ jA gg,UK jA gg rR cQ]
 rfl
theorem UY {p:P} {l:List P} (rR:0≤p.req) (cQ:p.req<w.rs.l.length) (hl:∀x∈l,0≤x.req∧x.req<w.rs.l.length):dL (cW w) (cP p) (l.map cP)=dL w p l:=by
 unfold dL
 rw[Hi]
 rw[vI]
 simp only[fL,Function.comp]
 constructor
 ·rintro⟨x,hx,h⟩;exact⟨x,hx,by rwa [UX (hl x hx).1 (hl x hx).2 rR cQ]at h⟩
 ·rintro⟨x,hx,h⟩;exact⟨x,hx,by rwa [UX (hl x hx).1 (hl x hx).2 rR cQ]⟩
theorem anO {l:List P}:ig (l.map cP)=ig l:=by
 unfold ig
 rw[List.getLast?_map]
 cases l.getLast?<;>rfl
theorem SI {r:R}:∀{l:List Int} {k:Int},eO (cR r) k l=eO r k l
 |[],_=>rfl
 |a::t,k=>by simp only[eO,SI (l:=t)];rfl
theorem aqn {p:P} {l:List P} (hl:∀x∈l,0≤x.req∧x.req<w.rs.l.length):dO (cW w) (cP p) (l.map cP)=dO w p l:=by
 unfold dO
 rw[anO,ym,show(cP p).req=p.req from rfl,show(cP p).start=p.start from rfl,show(cP p).an.l=p.an.l from rfl]
 by_cases h1:wi p.req 0 (w.rs.l.length-1)=true
 ·obtain⟨h0,h2⟩:=iK.1 h1
  rw[UY h0 (by omega) hl,wj h0 (by omega)]
  simp only[SI,Y5]
  rfl
 ·rw[aq h1,aq h1]
theorem Zr {p:P} {l:List P} (h:dO w p l=0):0≤p.req∧p.req<w.rs.l.length:=by
 unfold dO at h
 by_cases h1:wi p.req 0 (w.rs.l.length-1)=true
 ·obtain⟨h0,h2⟩:=iK.1 h1
  exact⟨h0,by omega⟩
 ·rw[aq h1]at h;exact absurd h (by decide)
theorem VT {l:List P}:∀(n k:Nat),n+k=l.length→(∀x∈l.take k,0≤x.req∧x.req<w.rs.l.length)→
  fP (fun i x=>dO (cW w) x ((l.map cP).take i)) k ((l.map cP).drop k)=fP (fun i x=>dO w x (l.take i)) k (l.drop k)
 |0,k,h,_=>by
  have h1:l.drop k=[]:=zN (by omega)
  have h2:(l.map cP).drop k=[]:=zN (by rw[bY];omega)
  rw[h1,h2];rfl
 | n + 1, k, h, hl => by
  obtain⟨p,hp⟩:=get_some (l:=l) (k:=k) (by omega)
  have J0:(l.map cP)[k]? =some (cP p):=by rw[jf,hp];rfl
  rw[wJ hp,wJ J0]
  simp only[←Lt]
  rw[aqn hl]
  by_cases h0:dO w p (l.take k)=0
  ·rw[ak h0,ak h0]
   have:=VT (l:=l) n (k+1) (by omega) (fun x hx=>by
    rw[fU hp,dD]at hx
    rcases hx with hx|hx
    ·exact hl x hx
    ·rw[eK]at hx;rw[hx];exact Zr h0)
   simp only[←Lt]at this
   exact this
  ·rw[aq h0,aq h0]
theorem Nv {l:List P}:dQ (cW w) (l.map cP)=dQ w l:=by
 unfold dQ
 have:=VT (w:=w) (l:=l) l.length 0 (by omega) (fun x hx=>absurd hx (by simp))
 rw[ku,ku]at this
 rw[this]
theorem aa4:∀{l:List P},(∀x∈l,0≤x.req∧x.req<w.rs.l.length)→bN (cW w) (l.map cP)=bN w l
 |[],_=>rfl
 |p::r,h=>by
  have hp:=h p (by simp)
  simp only[iN,bN]
  rw[aa4 fun x hx=>h x (jg _ hx),show(cP p).req=p.req from rfl,wj hp.1 hp.2];rfl
theorem No {l:List P} (hl:gH l):gH (l.map cP):=by
 refine⟨by rw[bY];exact hl.len,fun p hp=>?_⟩
 obtain⟨q,hq,rfl⟩:=cC.1 hp
 exact⟨Ff,(hl.ok q hq).2⟩
end
section
variable{s:ae} {w:W}
theorem N8:∀{k:Nat} {l:List Int},l.length<k→bf k l=[]
 |0,_,h=>absurd h (da _)
 |k+1,[],_=>rfl
 |k+1,x::r,h=>by
  simp only[bf]
  rw[N8 (k:=k) (l:=r) (by simp at h;omega),N8 (k:=k+1) (l:=r) (by simp at h;omega)];rfl
def oz (n:Nat) (g:List Int):Sl Int:=⟨if n=1 then .full else .any,1,g⟩
theorem aaD {n:Nat} {g:List Int}:(oz n g).ok 1:=by
 refine⟨.inr rfl,?_⟩
 show(if n=1 then Own.full else Own.any)=.any∨(if n=1 then Own.full else Own.any)=.full∨_
 split
 ·exact .inr (.inl rfl)
 ·exact .inl rfl
def pK:Nat→List Int→AV
 |0,_=>.slice .full 1 [[.slice .aA 0 []]]
 |n+1,l=>bG 1 ((bf (n+1) l).map fun g=>[(oz (n+1) g).v aD])
theorem E6 {n:Nat} {l:List Int}:mO false (pK n l)=some (I (bf n l).length):=by
 cases n with
 |zero=>simp only[pK,bf];rfl
 |succ n=>
  show mO false (bG 1 ((bf (n+1) l).map fun g=>[(oz (n+1) g).v aD]))=_
  rw[Qa,bY]
theorem ad3 {n:Nat} {l g:List Int} {k:Nat} (h:(bf n l)[k]? =some g):∃o e,kH none 1 (pK n l) (I k)=some (.bq [.slice o e (g.map aD)] 0)∧(g=[]∨e=1)∧(g=[]↔n=0):=by
 have hg:=tz (bQ h)
 cases n with
 | zero =>
  have hk:k=0:=by
   have:=(bd.1 h).1
   simp[bf]at this;exact this
  subst hk
  have:g=[]:=sU hg
  subst this
  exact⟨.aA,0,rfl,.inl rfl,by simp⟩
 |succ n=>
  refine⟨_,1,Kq (by rw[jf,h];rfl),.inr rfl,?_⟩
  constructor
  ·intro e;rw[e]at hg;simp at hg
  ·intro e;omega
theorem LV {q:ae} {b:List (List AV)} {tk:List (Option Nat)} {lit ys:List (List AV)} {o:Own} {e:Nat} (he:ys=[]∨e=1) (hl:lit.length+ys.length≤4294967296):
  ∃o' tk',(∀b,eE (q.push ⟨b,tk⟩) 1 (.slice .full 1 lit) (.slice o e ys)=some (.slice o' 1 (lit++ys),q.push ⟨b,tk'⟩))∧(∀(g:Nat) (n:Option Nat),tk[g]? =some n→tk'[g]? =some n)∧
   (AV.slice o' 1 (lit++ys)).close=some (.slice (if ys=[]then .full else .any) 1 (lit++ys)):=by
 by_cases h0:ys=[]
 ·subst h0
  refine⟨.full,tk,fun b=>by simp[eE],fun _ _ h=>h,?_⟩
  simp only[je,ak];rfl
 ·have j7:e=1:=by rcases he with h|h;exact absurd h h0;exact h
  subst j7
  have h1:ys.isEmpty=false:=by simpa using h0
  refine⟨.tok q.ag.length tk.length,tk++[some (lit.length+ys.length)],fun b=>?_,fun g n h=>?_,?_⟩
  ·simp[eE,h1,Own.isNil,dN,hl,qc,oF,fE]
  ·have:=(bd.1 h).1
   rw[dC this];exact h
  ·rw[aq h0];rfl
theorem ZL : ∀ (n : Nat) {s : ae} {l : List Int} {o : Own} {e : Nat}, Ok s → (l = [] ∨ e = 1) → l.length ≤ 6 → n ≤ 6 → aw AP (.fn 78) [.slice o e (l.map aD), I n] s = some (pK n l, s)
 |0,s,l,o,e,hs,he,hl,_=>by
  rw[aL (show AP 78=some Ap from rfl) rfl]
  simp only[go_sem,Mx,aP,simprocAttr]
  rfl
 | n + 1, s, l, o, e, hs, he, hl, hn => by
  have ft:decide (((n+1:Nat):Int)=0)=false:=by simp;omega
  have jR:IntKind.i64.wrap (((n+1:Nat):Int)-1)=(n:Int):=by rw[bW (by omega) (by omega)];omega
  have outer : ∀ (i : Int) ρ m, (∃ k : Nat, i = k ∧ ρ 0 = .slice o e (l.map aD) ∧ ρ 1 = I ((n + 1 : Nat) : Int) ∧ ρ 6 = I k ∧ ∃ D x og tk, k ≤ l.length ∧ bf (n + 1) l = D ++ bf (n + 1) (l.drop k) ∧ Acc s.ag.length 1 (D.map fun g => [(oz (n + 1) g).v aD]) x og tk ∧ ρ 5 = x ∧ m = s.push ⟨[], tk⟩) →
    go AP Vy (.c (.loop C4)::amW) ⟨ρ,m⟩=some (pK (n+1) l,s):=by
   refine Qd (l.length-(n+1):Int) _ _ ?_ ?_
   ·rintro i ρ m hi ⟨k,rfl,h0,h1,h6,D,x,og,tk,hk,hD,hA,h5,rfl⟩ ih
    obtain⟨a,ha⟩:=get_some (l:=l) (k:=k) (by omega)
    have dV:e=1:=by rcases he with h|h;(rw[h]at ha;simp at ha);exact h
    subst dV
    have cr:=cq (f:=aD) (o:=o) (es:=1) ha
    obtain⟨od,sv⟩:=aax (f:=aD) (o:=o) (es:=1) (k:=k+1) (l:=l) (by omega)
    have hle:decide (IntKind.i64.wrap ((k:Int)+((n+1:Nat):Int))≤(l.length:Int))=true:=by
     rw[bW (by omega) (by omega)];simp;omega
    have cz:IntKind.i64.wrap ((k:Int)+1)=((k+1:Nat):Int):=by rw[bW (by omega) (by omega)];omega
    have xf:∀r,aw AP (.fn 78) [.slice od 1 ((l.drop (k+1)).map aD),I n] (s.push r)=some (pK n (l.drop (k+1)),s.push r):=fun r=>
     ZL n (hs.push r) (.inr rfl) (by rw[sX];omega) (by omega)
    have hG:bf (n+1) (l.drop k)=(bf n (l.drop (k+1))).map (a::·)++bf (n+1) (l.drop (k+1)):=by
     rw[eQ ha];rfl
    have r9:=yJ (k:=n) (l:=l.drop (k+1))
    have inner:∀(j:Nat) ρ m,j≤(bf n (l.drop (k+1))).length→(ρ 0=.slice o 1 (l.map aD)∧ρ 1=I ((n+1:Nat):Int)∧ρ 6=I k∧ρ 7=pK n (l.drop (k+1))∧ρ 8=I j∧∃x og tk,Acc s.ag.length 1 ((D++((bf n (l.drop (k+1))).take j).map (a::·)).map fun g=>[(oz (n+1) g).v aD]) x og tk∧ρ 5=x∧m=s.push ⟨[],tk⟩)→
      go AP Vy (.c (.loop Ii)::amX) ⟨ρ,m⟩=some (pK (n+1) l,s):=by
     refine ck _ _ _ ?_ ?_
     ·rintro j ρ m hj ⟨g0,g1,g6,g7,g8,x,og,tk,hA,g5,rfl⟩ fJ
      obtain⟨g,hg⟩:=get_some hj
      obtain⟨oi,ei,sf,hei,wW⟩:=ad3 hg
      have au9:(bf n (l.drop (k+1))).length≤64:=kQ r9 (ji (show 0<2 by omega) (show(l.drop (k+1)).length≤6 by rw[sX];omega))
      have JK:((bf n (l.drop (k+1))).length:Int)<9223372036854775808:=by omega
      have qQ:D++((bf n (l.drop (k+1))).take (j+1)).map (a::·)=(D++((bf n (l.drop (k+1))).take j).map (a::·))++[a::g]:=by
       rw[fU hg,iM,gX];rfl
      have XC:((bf n (l.drop (k+1))).take j).length≤64:=by rw[fW];omega
      have ny:=tz (bQ hg)
      obtain⟨o1,mV,cQ,eM,uV⟩:=LV (q:=s) (b:=[]) (tk:=tk) (lit:=[[I a]]) (ys:=g.map aD) (o:=oi) (e:=ei) (by rcases hei with h|h;exact .inl (by rw[h];rfl);exact .inr h) (by simp;omega)
      have cp:(AV.slice o1 1 ([[I a]]++g.map aD)).close=some ((oz (n+1) (a::g)).v aD):=by
       rw[uV]
       have:(if g.map aD=[]then Own.full else Own.any)=(if n+1=1 then Own.full else Own.any):=by
        by_cases ft:n=0
        ·rw[ak (by rw[wW.2 ft];rfl),ak (by omega)]
        ·rw[aq (by intro h;exact ft (wW.1 (by simpa using h))),aq (by omega)]
       rw[this];rfl
      have aT:closeAll [.slice o1 1 ([I a]::g.map aD)]=some [(oz (n+1) (a::g)).v aD]:=by
       simp only[mr,oI,kt,kO]at cp⊢
       rw[cp];rfl
      have uR:=Acc.ext hA eM
      have hDl:D.length≤64:=by
       have h1:=yJ (k:=n+1) (l:=l)
       have h2:=ji (show 0<2 by omega) hl
       rw[hD,cj]at h1
       omega
      obtain⟨x2,fl,mj,gg,jB,WH,hb4⟩:=uR.append hs .full (ys:=[[(oz (n+1) (a::g)).v aD]]) (by simp) (by rw[bY,cj,bY,xR];omega)
      obtain⟨oa,ea,ra,rfl⟩:=Acc.sl hA
      obtain⟨ob,eb,rb,rfl⟩:=Acc.sl jB
      simp only[kt,kO]at cQ
      simp only[Sl.v]at gg aT
      simp only[go_sem,Ii,g0,g5,g6,g7,g8,E6,aS hj,sf,cr,cQ,aT,gg,bK hj JK,simprocAttr]
      refine fJ _ _ ?_
      refine⟨g0,g1,g6,g7,rfl,_,fl,mj,?_,rfl,rfl⟩
      rw[qQ,iM];exact jB
     ·rintro ρ m ⟨g0,g1,g6,g7,g8,x,og,tk,hA,g5,rfl⟩
      rw[jh]at hA
      simp only[go_sem,Ii,My,g6,g7,g8,E6,bM,cz,simprocAttr]
      refine ih _ _ ?_
      refine⟨k+1,by omega,g0,g1,rfl,_,x,og,tk,by omega,?_,hA,g5,rfl⟩
      rw[hD,hG,gX]
    simp only[go_sem,C4,h0,h1,h6,hle,cz,sv,jR,xf,simprocAttr]
    refine inner 0 _ _ (bg _) ?_
    refine⟨h0,h1,h6,rfl,rfl,_,og,tk,?_,h5,rfl⟩
    rw[Lv,nP,je];exact hA
   ·rintro i ρ m hi ⟨k,rfl,h0,h1,h6,D,x,og,tk,hk,hD,hA,h5,rfl⟩
    have kf:bf (n+1) (l.drop k)=[]:=N8 (by rw[sX];omega)
    rw[kf,je]at hD
    have hle:decide (IntKind.i64.wrap ((k:Int)+((n+1:Nat):Int))≤(l.length:Int))=false:=by
     rw[bW (by omega) (by omega)];simp;omega
    have dc:∀q:ae,ef q x=some (pK (n+1) l):=fun q=>by
     show _=some (bG 1 _)
     rw[hD];exact hA.leave q
    obtain⟨oa,ea,ra,rfl⟩:=Acc.sl hA
    simp only[go_sem,C4,Ij,h0,h1,h5,h6,hle,dc,simprocAttr]
  rw[aL (show AP 78=some Ap from rfl) rfl]
  simp only[go_sem,Mx,ft,simprocAttr]
  refine outer 0 _ _ ?_
  exact⟨0,rfl,rfl,rfl,rfl,[],_,none,[],bg _,rfl,Acc.start,rfl,rfl⟩
end
section
variable{s:ae} {w:W}
theorem N7 {f:Int→Bool}:∀{k:Nat} {l:List Int},(bf k l).filter (fun g=>g.all f)=bf k (l.filter f)
 |0,l=>by simp[bf]
 |k+1,[]=>rfl
 | k + 1, x :: r => by
  simp only[bf,oB]
  rw[N7 (k:=k+1) (l:=r),List.filter_map]
  cases hx:f x with
  |true=>
   rw[abw hx]
   simp only[bf]
   rw[←N7 (k:=k) (l:=r)]
   congr 2
   apply Hj
   intro g _
   simp[Function.comp,hx]
  |false=>
   rw[abv (by simp[hx])]
   rw[R1.2 (by intro g _;simp[Function.comp,hx])]
   rfl
theorem ad4 {n:Nat} {l g:List Int} {k:Nat} (h:(bf (n+1) l)[k]? =some g):kH none 1 (pK (n+1) l) (I k)=some (.bq [(oz (n+1) g).v aD] 0):=
 Kq (by rw[jf,h];rfl)
def zG (n:Nat) (p:P):P:=⟨p.req,p.start,oz n p.an.l⟩
theorem aqD {i st:Int}:l9 w i st=((bf (w.rq i).need.toNat (w.rq i).an.l).filter fun g=>g.all fun a=>cS w a st (w.rq i).len).map fun g=>⟨i,st,fi g⟩:=by
 rw[N7];rfl
theorem arf (hs:Ok s) (hw:Wk w) {i:Int} (h0:0≤i) (h1:i<w.rs.l.length):aw AP (.fn 49) [w.v,I i] s=some (bG 3 (((dT w i).map (zG (w.rq i).need.toNat)).map aj),s):=by
 have hq:=hw.rq h0 h1
 have iE:=hw.v.n2
 have oS:=hw.v.al
 have Bp:=W.qh h0 h1
 have hqo:=hw.ok.an _ Bp
 have Pk:=hw.rM.an _ Bp
 have ai2:=hq.qX
 have aiL:=hq.bH
 have ai3:=hq.BE
 have aiY:=hq.po
 have Bl:=hq.qa
 have avo:=hq.KA
 have avp:=hq.KB
 have fR:=qV hw h0 h1
 obtain⟨m,hm⟩:∃m:Nat,(w.rq i).need=((m+1:Nat):Int):=⟨((w.rq i).need-1).toNat,by omega⟩
 have Xi:(w.rq i).need.toNat=m+1:=by omega
 have r9:=BP hw h0 h1
 have jl:dT w i=jK w i (w.rq i).lo ((w.rq i).hi-(w.rq i).len+2-(w.rq i).lo).toNat:=rfl
 have dq:∀st,l9 w i st=((bf (m+1) (w.rq i).an.l).filter fun g=>g.all fun a=>cS w a st (w.rq i).len).map fun g=>⟨i,st,fi g⟩:=fun st=>by rw[aqD,Xi]
 have fk:∀r,aw AP (.fn 78) [.slice (w.rq i).an.o (w.rq i).an.e ((w.rq i).an.l.map aD),I (w.rq i).need] (s.push r)=some (pK (m+1) (w.rq i).an.l,s.push r):=fun r=>by
  rw[hm];exact ZL (m+1) (hs.push r) hqo.1 (by omega) (by omega)
 have ahZ:=hq.tc
 rw[Xi]
 have nF:IntKind.i64.wrap ((w.rq i).hi-(w.rq i).len)=(w.rq i).hi-(w.rq i).len:=bW (by omega) (by omega)
 have ve:IntKind.i64.wrap ((w.rq i).hi-(w.rq i).len+1)=(w.rq i).hi-(w.rq i).len+1:=bW (by omega) (by omega)
 generalize J4:w.rq i=q at*
 have hsc:(bf (m+1) q.an.l).length≤64:=kQ yJ (ji (show 0<2 by omega) Pk)
 have outer : ∀ (st : Int) ρ x, (ρ 1 = I i ∧ ρ 2 = .ptr s.ag.length 0 0 ∧ ρ 5 = .ptr s.ag.length 1 0 ∧ ρ 6 = pK (m + 1) q.an.l ∧ ρ 8 = I st ∧ q.lo ≤ st ∧ st ≤ q.hi - q.len + 2 ∧ ∃ D y og tk bx, D ++ jK w i st (q.hi - q.len + 2 - st).toNat = dT w i ∧ Acc s.ag.length 3 ((D.map (zG (m + 1))).map aj) y og tk ∧ ρ 7 = y ∧ x = s.push ⟨c8 w :: bU q :: bx, tk⟩) →
   go AP Vw (.c (.loop CW)::amO) ⟨ρ,x⟩=some (bG 3 (((dT w i).map (zG (m+1))).map aj),s):=by
  refine Qd (q.hi-q.len+1) _ _ ?_ ?_
  ·rintro st ρ x cp ⟨g1,g2,g5,g6,g8,zj,Gi,D,y,og,tk,bx,hD,hA,g7,rfl⟩ ih
   have hle:decide (st≤q.hi-q.len+1)=true:=by simp;omega
   have aj7:IntKind.i64.wrap (st+1)=st+1:=bW (by omega) (by omega)
   have ajY:(q.hi-q.len+2-st).toNat=(q.hi-q.len+2-(st+1)).toNat+1:=by omega
   rw[ajY]at hD
   simp only[jK]at hD
   have inner:∀(j:Nat) ρ x,j≤(bf (m+1) q.an.l).length→(ρ 1=I i∧ρ 2=.ptr s.ag.length 0 0∧ρ 5=.ptr s.ag.length 1 0∧ρ 6=pK (m+1) q.an.l∧ρ 8=I st∧ρ 9=I j∧∃y og tk bx,Acc s.ag.length 3 (((D++(((bf (m+1) q.an.l).take j).filter fun g=>g.all fun a=>cS w a st q.len).map fun g=>(⟨i,st,fi g⟩:P)).map (zG (m+1))).map aj) y og tk∧ρ 7=y∧x=s.push ⟨c8 w::bU q::bx,tk⟩)→
     go AP Vw (.c (.loop CX)::amP) ⟨ρ,x⟩=some (bG 3 (((dT w i).map (zG (m+1))).map aj),s):=by
    refine ck _ _ _ ?_ ?_
    ·rintro j ρ x hj ⟨g1,g2,g5,g6,g8,g9,y,og,tk,bx,hA,g7,rfl⟩ fJ
     obtain⟨g,hg⟩:=get_some hj
     have cr:=ad4 hg
     have hgm:=A0 (bQ hg)
     have ny:=tz (bQ hg)
     have y9:ch w ⟨i,st,oz (m+1) g⟩:=⟨h0,h1,by show 0≤st;omega,by show st≤200;omega,fun a ha=>ahZ a (hgm.subset ha),aaD,by show(g.length:Int)<_;omega⟩
     have kf:∀r,aw AP (.fn 79) [w.v,.agg (aj ⟨i,st,oz (m+1) g⟩)] (s.push r)=some (B (!(g.all fun a=>cS w a st q.len)),s.push r):=fun r=>by
      rw[ZN (hs.push r) hw y9]
      simp only[J4]
      rw[List.not_all_eq_any_not];rfl
     have aT:closeAll [I i,I st,(oz (m+1) g).v aD]=some (aj ⟨i,st,oz (m+1) g⟩):=by
      simp only[mr,oI,pL,Sl.close (f:=aD) (aaD (n:=m+1) (g:=g))];rfl
     have JK:((bf (m+1) q.an.l).length:Int)<9223372036854775808:=by omega
     have hDl:D.length≤13000:=by rw[←hD,cj]at r9;omega
     have p6:((bf (m+1) q.an.l).take j).length≤64:=by rw[fW];omega
     have wT:(((bf (m+1) q.an.l).take j).filter fun g=>g.all fun a=>cS w a st q.len).length≤64:=kQ (nO _ _) p6
     simp only[aj,Sl.v,W.v,c8]at aT kf cr
     cases fp:g.all fun a=>cS w a st q.len with
     | false =>
      have ke:((bf (m+1) q.an.l).take (j+1)).filter (fun g=>g.all fun a=>cS w a st q.len)=((bf (m+1) q.an.l).take j).filter (fun g=>g.all fun a=>cS w a st q.len):=by
       rw[fU hg,oB,abv (by simp[fp]),Hk,je]
      rw[←ke]at hA
      obtain⟨oa,ea,ra,rfl⟩:=Acc.sl hA
      simp only[go_sem,CX,g1,g2,g6,g8,g9,hs,E6,aS hj,cr,kf,fp,mY,bK hj JK,simprocAttr]
      refine fJ _ _ ?_
      exact⟨g1,g2,g5,g6,g8,rfl,_,og,tk,_,hA,g7,rfl⟩
     | true =>
      have ke:(D++(((bf (m+1) q.an.l).take (j+1)).filter fun g=>g.all fun a=>cS w a st q.len).map fun g=>(⟨i,st,fi g⟩:P))=(D++(((bf (m+1) q.an.l).take j).filter fun g=>g.all fun a=>cS w a st q.len).map fun g=>(⟨i,st,fi g⟩:P))++[⟨i,st,fi g⟩]:=by
       rw[fU hg,oB,abw (by simp[fp]),Hk,iM,gX];rfl
      obtain⟨x2,fl,mj,gg,jB,WH,hb4⟩:=hA.append hs .full (ys:=[aj ⟨i,st,oz (m+1) g⟩]) (by simp) (by rw[bY,bY,cj,bY,xR];omega)
      obtain⟨oa,ea,ra,rfl⟩:=Acc.sl hA
      obtain⟨ob,eb,rb,rfl⟩:=Acc.sl jB
      simp only[aj,Sl.v]at gg
      simp only[go_sem,CX,g1,g2,g6,g7,g8,g9,hs,E6,aS hj,cr,aT,kf,fp,gg,kM,bK hj JK,simprocAttr]
      refine fJ _ _ ?_
      refine⟨g1,g2,g5,g6,g8,rfl,_,fl,mj,_,?_,rfl,rfl⟩
      rw[ke,iM,iM];exact jB
    ·rintro ρ x ⟨g1,g2,g5,g6,g8,g9,y,og,tk,bx,hA,g7,rfl⟩
     rw[jh,←dq]at hA
     simp only[go_sem,CX,Mp,g6,g8,g9,E6,bM,aj7,simprocAttr]
     refine ih _ _ ?_
     exact⟨g1,g2,g5,g6,rfl,by omega,by omega,_,y,og,tk,bx,by rw[gX];exact hD,hA,g7,rfl⟩
   simp only[go_sem,CW,g5,g8,nF,ve,hle,simprocAttr]
   refine inner 0 _ _ (bg _) ?_
   refine⟨g1,g2,g5,g6,g8,rfl,y,og,tk,bx,?_,g7,rfl⟩
   rw[Lv,Hk,nP,je];exact hA
  ·rintro st ρ x cp ⟨g1,g2,g5,g6,g8,zj,Gi,D,y,og,tk,bx,hD,hA,g7,rfl⟩
   have hle:decide (st≤q.hi-q.len+1)=false:=by simp;omega
   have hz:(q.hi-q.len+2-st).toNat=0:=by omega
   rw[hz]at hD
   simp only[jK,je]at hD
   rw[hD]at hA
   have dc:=fun q:ae=>hA.leave q
   obtain⟨oa,ea,ra,rfl⟩:=Acc.sl hA
   simp only[go_sem,CW,Ie,g5,g7,g8,nF,ve,hle,dc,simprocAttr]
 rw[aL (show AP 49=some DZ from rfl) rfl]
 simp only[bU,Sl.v]at fR fk
 simp only[go_sem,To,hs,fR,fk,simprocAttr]
 refine outer q.lo _ _ ?_
 refine⟨rfl,rfl,rfl,rfl,rfl,by omega,by omega,[],_,none,[],[],?_,Acc.start,rfl,rfl⟩
 rw[kO,jl]
end
section
variable{s:ae} {w:W}
end
def lexB:List Int→List Int→Bool
 |[],[]=>false
 |[],_::_=>true
 |_::_,[]=>false
 |x::r,y::t=>if x=y then lexB r t else decide (x<y)
def kP (p:P):List Int:=p.req::p.start::p.an.l
def pM (p q:P):Int:=if lexB (kP p) (kP q)=true then-1 else if lexB (kP q) (kP p)=true then 1 else 0
def py:List P→List P→Bool
 |[],[]=>true
 |x::r,y::t=>decide (pM x y=0)&&py r t
 |_,_=>false
theorem GA:∀{l:List Int},lexB l l=false
 |[]=>rfl
 |x::r=>by simp only[lexB,bB];exact GA
theorem aep {p q:P} (h:kP p=kP q):pM p q=0:=by
 unfold pM;rw[h,GA];simp
section
variable{s:ae} {w:W}
theorem S3 {a b:List Int} {o1 o2:Own} {e1 e2:Nat} (h1:a=[]∨e1=1) (h2:b=[]∨e2=1) (l1:a.length≤100000) (l2:b.length≤100000):
  aw AP (.fn 69) [.slice o1 e1 (a.map aD),.slice o2 e2 (b.map aD)] s=some (B (lexB a b),s):=by
 have key : ∀ (k : Nat) ρ m, k ≤ min a.length b.length → (ρ 0 = .slice o1 e1 (a.map aD) ∧ ρ 1 = .slice o2 e2 (b.map aD) ∧ ρ 5 = I k ∧ m = s.push ⟨[], []⟩) →
   go AP afl (.c (.loop z7)::amp) ⟨ρ,m⟩=some (B (lexB (a.drop k) (b.drop k)),s):=by
  refine ck (min a.length b.length) _ _ ?_ ?_
  ·rintro k ρ m hk ⟨g0,g1,g5,rfl⟩ ih
   obtain⟨x,hx⟩:=get_some (l:=a) (k:=k) (by omega)
   obtain⟨y,hy⟩:=get_some (l:=b) (k:=k) (by omega)
   have nu:e1=1:=by rcases h1 with h|h;(rw[h]at hx;simp at hx);exact h
   have kD:e2=1:=by rcases h2 with h|h;(rw[h]at hy;simp at hy);exact h
   subst nu;subst kD
   have ha:=cq (f:=aD) (o:=o1) (es:=1) hx
   have hb:=cq (f:=aD) (o:=o2) (es:=1) hy
   have d1:decide ((k:Int)<(a.length:Int))=true:=by simp;omega
   have d2:decide ((k:Int)<(b.length:Int))=true:=by simp;omega
   rw[eQ hx,eQ hy,lexB]
   by_cases eF:x=y
   ·rw[ak eF]
    have hd:decide (¬x=y)=false:=by simp[eF]
    have Ke:IntKind.i64.wrap ((k:Int)+1)=((k+1:Nat):Int):=by rw[bW (by omega) (by omega)];omega
    simp only[go_sem,z7,g0,g1,g5,d1,d2,ha,hb,hd,aY,Ke,simprocAttr]
    exact ih _ _ ⟨g0,g1,rfl,rfl⟩
   ·rw[aq eF]
    have hd:decide (¬x=y)=true:=by simp[eF]
    simp only[go_sem,z7,g0,g1,g5,d1,d2,ha,hb,hd,aY,simprocAttr]
  ·rintro ρ m ⟨g0,g1,g5,rfl⟩
   by_cases gK:a.length≤b.length
   ·have qL:min a.length b.length=a.length:=by omega
    rw[qL]at g5⊢
    have d1:decide ((a.length:Int)<(a.length:Int))=false:=by simp
    rw[eS]
    simp only[go_sem,z7,HS,g0,g1,g5,d1,simprocAttr]
    by_cases aC:a.length<b.length
    ·have:∃y r,b.drop a.length=y::r:=by
      obtain⟨y,hy⟩:=get_some aC
      exact⟨y,_,eQ hy⟩
     obtain⟨y,r,hd⟩:=this
     rw[hd]
     simp only[lexB]
     have:decide ((a.length:Int)<(b.length:Int))=true:=by simp;omega
     rw[this]
    ·rw[zN (by omega)]
     simp only[lexB]
     have:decide ((a.length:Int)<(b.length:Int))=false:=by simp;omega
     rw[this]
   ·have qL:min a.length b.length=b.length:=by omega
    rw[qL]at g5⊢
    have d1:decide ((b.length:Int)<(a.length:Int))=true:=by simp;omega
    have d2:decide ((b.length:Int)<(b.length:Int))=false:=by simp
    obtain⟨x,hx⟩:=get_some (l:=a) (k:=b.length) (by omega)
    have d3:decide ((a.length:Int)<(b.length:Int))=false:=by simp;omega
    simp only[go_sem,z7,HS,g0,g1,g5,d1,d2,d3,simprocAttr]
    rw[eQ hx,eS];rfl
 rw[aL (show AP 69=some DB from rfl) rfl]
 simp only[go_sem,S6,simprocAttr]
 exact key 0 _ _ (bg _) ⟨rfl,rfl,rfl,rfl⟩
theorem amo {p:P}:[[I p.req],[I p.start]]++p.an.l.map aD=(kP p).map aD:=rfl
theorem ZM {p q:P} (hs:Ok s) (hp:p.an.ok 1) (hq:q.an.ok 1) (lp:p.an.l.length≤1000) (lq:q.an.l.length≤1000):
  aw AP (.fn 39) [.agg (aj p),.agg (aj q)] s=some (I (pM p q),s):=by
 obtain⟨o1,mV,cQ,_,_⟩:=LV (q:=s) (b:=[]) (tk:=[]) (lit:=[[I p.req],[I p.start]]) (ys:=p.an.l.map aD) (o:=p.an.o) (e:=p.an.e) (by rcases hp.1 with h|h;exact .inl (by rw[h];rfl);exact .inr h) (by simp;omega)
 obtain⟨o2,mj,eM,_,_⟩:=LV (q:=s) (b:=[]) (tk:=mV) (lit:=[[I q.req],[I q.start]]) (ys:=q.an.l.map aD) (o:=q.an.o) (e:=q.an.e) (by rcases hq.1 with h|h;exact .inl (by rw[h];rfl);exact .inr h) (by simp;omega)
 rw[amo]at cQ eM
 have gg:∀m:ae,aw AP (.fn 69) [.slice o1 1 ((kP p).map aD),.slice o2 1 ((kP q).map aD)] m=some (B (lexB (kP p) (kP q)),m):=fun m=>S3 (.inr rfl) (.inr rfl) (by simp[kP];omega) (by simp[kP];omega)
 have jB:∀m:ae,aw AP (.fn 69) [.slice o2 1 ((kP q).map aD),.slice o1 1 ((kP p).map aD)] m=some (B (lexB (kP q) (kP p)),m):=fun m=>S3 (.inr rfl) (.inr rfl) (by simp[kP];omega) (by simp[kP];omega)
 rw[aL (show AP 39=some D5 from rfl) rfl]
 unfold pM
 cases h1:lexB (kP p) (kP q)with
 |true=>simp only[go_sem,Ik,cQ,eM,gg,h1,simprocAttr]
 |false=>
  cases h2:lexB (kP q) (kP p)with
  |true=>simp only[go_sem,Ik,cQ,eM,gg,jB,h1,h2,ej,simprocAttr]
  |false=>simp only[go_sem,Ik,cQ,eM,gg,jB,h1,h2,ej,simprocAttr]
structure HI (l:List P):Prop where
 len:l.length≤100000
 ok:∀p∈l,p.an.ok 1∧p.an.l.length≤1000
theorem ari {a b : List P} {o1 o2 : Own} {e1 e2 : Nat} (hs : Ok s) (h1 : a = [] ∨ e1 = 3) (h2 : b = [] ∨ e2 = 3) (l1 : HI a) (l2 : HI b) :
    aw AP (.fn 14) [.slice o1 e1 (a.map aj),.slice o2 e2 (b.map aj)] s=some (B (py a b),s):=by
  have wZ:=l1.len
  have hlb:=l2.len
  by_cases gK:a.length=b.length
  · have key : ∀ (k : Nat) ρ m, k ≤ a.length → (ρ 0 = .slice o1 e1 (a.map aj) ∧ ρ 1 = .slice o2 e2 (b.map aj) ∧ ρ 5 = I k ∧ m = s.push ⟨[], []⟩) →
        go AP afw (.c (.loop CY)::amR) ⟨ρ,m⟩=some (B (py (a.drop k) (b.drop k)),s):=by
      refine ck a.length _ _ ?_ ?_
      · rintro k ρ m hk ⟨g0, g1, g5, rfl⟩ ih
        obtain⟨x,hx⟩:=get_some (l:=a) (k:=k) (by omega)
        obtain⟨y,hy⟩:=get_some (l:=b) (k:=k) (by omega)
        have nu:e1=3:=by rcases h1 with h|h;(rw[h]at hx;simp at hx);exact h
        have kD:e2=3:=by rcases h2 with h|h;(rw[h]at hy;simp at hy);exact h
        subst nu;subst kD
        have ha:=cq (f:=aj) (o:=o1) (es:=3) hx
        have hb:=cq (f:=aj) (o:=o2) (es:=3) hy
        have xm:=l1.ok x (bQ hx)
        have qT:=l2.ok y (bQ hy)
        have r8:∀r,aw AP (.fn 39) [.agg (aj x),.agg (aj y)] (s.push r)=some (I (pM x y),s.push r):=fun r=>ZM (hs.push r) xm.1 qT.1 xm.2 qT.2
        rw[eQ hx,eQ hy,py]
        simp only[aj,Sl.v]at r8 ha hb
        by_cases hc:pM x y=0
        · have hd : decide (¬ pM x y = 0) = false := by simp [hc]
          rw[bP hc,iu]
          simp only[go_sem,CY,g0,g1,g5,aS hk,ha,hb,r8,hd,aY,bK hk (show(a.length:Int)<_ by omega),simprocAttr]
          refine ih _ _ ?_
          exact⟨g0,g1,rfl,rfl⟩
        · have hd : decide (¬ pM x y = 0) = true := by simp [hc]
          rw[bS hc,jM]
          simp only[go_sem,CY,g0,g1,g5,aS hk,ha,hb,r8,hd,aY,simprocAttr]
      · rintro ρ m ⟨g0, g1, g5, rfl⟩
        simp only[go_sem,CY,Ms,g0,g5,bM,simprocAttr]
        rw[eS,zN (by omega)];rfl
    have hd:decide (¬(a.length:Int)=(b.length:Int))=false:=by simp[gK]
    rw[aL (show AP 14=some An from rfl) rfl]
    simp only[go_sem,Mr,hd,aY,simprocAttr]
    exact key 0 _ _ (bg _) ⟨rfl,rfl,rfl,rfl⟩
  · have tK : ∀ {a b : List P}, a.length ≠ b.length → py a b = false := by
      intro a
      induction a with
      | nil => intro b h; cases b with
        |nil=>exact absurd rfl h
        |cons _ _=>rfl
      | cons x r ih => intro b h; cases b with
        |nil=>rfl
        |cons y t=>simp only[py];rw[ih (b:=t) (by simpa using h),nJ]
    have hd:decide (¬(a.length:Int)=(b.length:Int))=true:=by simp;omega
    rw[tK gK]
    rw[aL (show AP 14=some An from rfl) rfl]
    simp only[go_sem,Mr,hd,aY,simprocAttr]
theorem QO {l:List P} {o:Own} {e:Nat} {i:Int} (he:l=[]∨e=3) (hl:l.length≤100000):aw AP (.fn 13) [.slice o e (l.map aj),I i] s=some (I (du (fun p:P=>decide (p.req=i)) l),s):=by
 have key:∀(k:Nat) ρ m,k≤l.length→(ρ 0=.slice o e (l.map aj)∧ρ 1=I i∧ρ 5=I k∧(∀j y,j<k→l[j]? =some y→decide (y.req=i)=false)∧m=s.push ⟨[],[]⟩)→
   go AP afu (.c (.loop CV)::amN) ⟨ρ,m⟩=some (I (du (fun p:P=>decide (p.req=i)) l),s):=by
  refine ck l.length _ _ ?_ ?_
  ·rintro k ρ m hk ⟨h0,h1,h5,hp,rfl⟩ ih
   obtain⟨a,ha⟩:=get_some hk
   have he:e=3:=by rcases he with h|h;(rw[h]at ha;simp at ha);exact h
   subst he
   have hr:=cq (o:=o) (es:=3) (f:=aj) ha
   cases dq:decide (a.req=i)with
   |true=>
    simp only[go_sem,CV,h0,h1,h5,aS hk,hr,dq,simprocAttr]
    rw[tn ha dq hp]
   |false=>
    simp only[go_sem,CV,h0,h1,h5,aS hk,hr,dq,bK hk (show(l.length:Int)<_ by omega),simprocAttr]
    refine ih _ _ ?_
    refine⟨h0,h1,rfl,fun j y hj hy=>?_,rfl⟩
    by_cases e:j=k
    ·subst e;rw[ha]at hy;injection hy with hy;rw[←hy];exact dq
    ·exact hp j y (by omega) hy
  ·rintro ρ m ⟨h0,h1,h5,hp,rfl⟩
   simp only[go_sem,CV,Mm,h0,h5,bM,simprocAttr]
   rw[uM hp]
 rw[aL (show AP 13=some DX from rfl) rfl]
 simp only[go_sem,Tn,simprocAttr]
 exact key 0 _ _ (bg _) ⟨rfl,rfl,rfl,fun j y hj=>absurd hj (da _),rfl⟩
def vz (n:Nat):Int→List Int→Int
 |_,[]=>0
 |last,a::t=>if wi a 0 (n-1)=true then(if last<a then vz n a t else 9)else 6
theorem arh {l:List Int} {o:Own} {e:Nat} (hs:Ok s) (et:w.rs.l.length≤14) (he:l=[]∨e=1) (hl:l.length≤100000):
  aw AP (.fn 9) [w.v,.slice o e (l.map aD)] s=some (I (vz w.rs.l.length (-1) l),s):=by
 have nF:IntKind.i64.wrap ((w.rs.l.length:Int)-1)=(w.rs.l.length:Int)-1:=bW (by omega) (by omega)
 have key : ∀ (k : Nat) ρ m, k ≤ l.length → (ρ 1 = .slice o e (l.map aD) ∧ ρ 2 = .ptr s.ag.length 0 0 ∧ ρ 5 = I k ∧ m = s.push ⟨[c8 w], []⟩) →
   go AP afv (.c (.loop x7)::amQ) ⟨ρ,m⟩=some (I (vz w.rs.l.length (sI l k) (l.drop k)),s):=by
  refine ck l.length _ _ ?_ ?_
  ·rintro k ρ m hk ⟨g1,g2,g5,rfl⟩ ih
   obtain⟨a,ha⟩:=get_some hk
   have he:e=1:=by rcases he with h|h;(rw[h]at ha;simp at ha);exact h
   subst he
   have hr:=cq (o:=o) (es:=1) (f:=aD) ha
   have Gb:sI l (k+1)=a:=by show l.getD k 0=a;rw[List.getD,ha];rfl
   rw[eQ ha,vz]
   cases h1:wi a 0 (w.rs.l.length-1)with
   |false=>simp only[go_sem,x7,g1,g2,g5,aS hk,hr,nF,fY,h1,ej,simprocAttr]
   | true =>
    rw[ak rfl]
    have rR:=(iK.1 h1).1
    rcases vR k with FU|FU
    ·have aC:sI l k<a:=by rw[FU,show sI l 0=-1 from rfl];omega
     rw[ak aC]
     have h0:decide ((0:Int)<(k:Int))=false:=by simp;omega
     simp only[go_sem,x7,g1,g2,g5,aS hk,hr,nF,fY,h1,h0,bK hk (show(l.length:Int)<_ by omega),simprocAttr]
     refine ui (ih _ _ ?_) ?_
     ·exact⟨g1,g2,rfl,rfl⟩
     ·rw[Gb]
    ·obtain⟨b,hb⟩:=get_some (l:=l) (k:=k-1) (by omega)
     have gB:=cq (o:=o) (es:=1) (f:=aD) hb
     have h0:decide ((0:Int)<(k:Int))=true:=by simp;omega
     have jR:IntKind.i64.wrap ((k:Int)-1)=((k-1:Nat):Int):=by rw[bW (by omega) (by omega)];omega
     have jE:sI l k=b:=by
      obtain⟨j,rfl⟩:∃j,k=j+1:=⟨k-1,by omega⟩
      show l.getD j 0=b
      rw[List.getD,show l[j]? =some b from hb];rfl
     rw[jE]
     by_cases gK:b<a
     ·rw[ak gK]
      have hd:decide (a≤b)=false:=by simp;omega
      simp only[go_sem,x7,g1,g2,g5,aS hk,hr,nF,fY,h1,h0,jR,gB,hd,bK hk (show(l.length:Int)<_ by omega),simprocAttr]
      refine ui (ih _ _ ?_) ?_
      ·exact⟨g1,g2,rfl,rfl⟩
      ·rw[Gb]
     ·rw[aq gK]
      have hd:decide (a≤b)=true:=by simp;omega
      simp only[go_sem,x7,g1,g2,g5,aS hk,hr,nF,fY,h1,h0,jR,gB,hd,simprocAttr]
  ·rintro ρ m ⟨g1,g2,g5,rfl⟩
   simp only[go_sem,x7,Mq,g1,g5,bM,simprocAttr]
   rw[eS];rfl
 rw[aL (show AP 9=some D0 from rfl) rfl]
 simp only[go_sem,Tp,simprocAttr]
 exact key 0 _ _ (bg _) ⟨rfl,rfl,rfl,rfl⟩
end
section
variable{s:ae}
def tj (x y:Int):Int:=if x<y then-1 else if y<x then 1 else 0
theorem Nz {x:Int}:aw AP (.fn 106) [I x] s=some (B false,s):=by
 rw[aL (show AP 106=some DM from rfl) rfl]
 simp only[go_sem,Tf,aY,eB,qt,simprocAttr]
theorem aer {x y:Int}:aw AP (.fn 92) [I x,I y] s=some (I (tj x y),s):=by
 unfold tj
 by_cases h1:x<y
 ·rw[ak h1]
  have hd:decide (x<y)=true:=bP h1
  rw[aL (show AP 92=some yn from rfl) rfl]
  simp only[go_sem,H5,Nz,hd,simprocAttr]
 ·rw[aq h1]
  have hd:decide (x<y)=false:=bS h1
  by_cases h2:y<x
  ·rw[ak h2]
   have oU:decide (y<x)=true:=bP h2
   rw[aL (show AP 92=some yn from rfl) rfl]
   simp only[go_sem,H5,Nz,hd,oU,simprocAttr]
  ·rw[aq h2]
   have oU:decide (y<x)=false:=bS h2
   rw[aL (show AP 92=some yn from rfl) rfl]
   simp only[go_sem,H5,Nz,hd,oU,simprocAttr]
def kI:List Int→List Int→Int
 |[],[]=>0
 |[],_::_=>-1
 |_::_,[]=>1
 |x::a,y::b=>if tj x y=0 then kI a b else tj x y
theorem I6 {x y:Int}:tj x y=0↔x=y:=by unfold tj;split<;>(try split)<;>omega
theorem Yx:∀{a b:List Int},kI a b=0↔a=b
 |[],[]=>by simp[kI]
 |[],_::_=>by simp[kI]
 |_::_,[]=>by simp[kI]
 | x :: a, y :: b => by
  simp only[kI,vM]
  by_cases h:tj x y=0
  ·rw[ak h,Yx,I6.1 h];simp
  ·rw[aq h]
   exact⟨fun e=>absurd e h,fun e=>absurd (I6.2 e.1) h⟩
theorem atE {a b:List Int} {o1 o2:Own} {e1 e2:Nat} (h1:a=[]∨e1=1) (h2:b=[]∨e2=1) (la:(a.length:Int)<1000000) (lb:(b.length:Int)<1000000):
  aw AP (.fn 68) [.slice o1 e1 (a.map aD),.slice o2 e2 (b.map aD)] s=some (I (kI a b),s):=by
 have key:∀k ρ m,k≤a.length→(ρ 0=.slice o1 e1 (a.map aD)∧ρ 1=.slice o2 e2 (b.map aD)∧ρ 9=.slice o1 e1 (a.map aD)∧ρ 10=I a.length∧ρ 11=I k∧k≤b.length∧m=s.push ⟨[],[]⟩)→
   go AP afM (.c (.loop ye)::ans) ⟨ρ,m⟩=some (I (kI (a.drop k) (b.drop k)),s):=by
  refine ck a.length _ (fun k=>some (I (kI (a.drop k) (b.drop k)),s)) ?_ ?_
  ·rintro k ρ m hk ⟨g0,g1,g9,g10,g11,OQ,rfl⟩ ih
   obtain⟨x,hx⟩:=get_some hk
   have dV:e1=1:=by rcases h1 with h|h;(rw[h]at hx;simp at hx);exact h
   subst dV
   have hr:=cq (f:=aD) (o:=o1) (es:=1) hx
   have XN:a.drop k=x::a.drop (k+1):=eQ hx
   have vd:=bK hk (show(a.length:Int)<_ by omega)
   by_cases hb:k<b.length
   ·obtain⟨y,hy⟩:=get_some hb
    have dV:e2=1:=by rcases h2 with h|h;(rw[h]at hy;simp at hy);exact h
    subst dV
    have gB:=cq (f:=aD) (o:=o2) (es:=1) hy
    have hyd:b.drop k=y::b.drop (k+1):=eQ hy
    have nx:decide ((b.length:Int)≤(k:Int))=false:=bS (by omega)
    have hc:∀m:ae,aw AP (.fn 92) [I x,I y] m=some (I (tj x y),m):=fun m=>aer
    rw[XN,hyd]
    simp only[kI]
    by_cases h0:tj x y=0
    ·rw[ak h0]
     rw[h0]at hc
     simp only[go_sem,ye,g1,g9,g10,g11,aS hk,hr,gB,nx,hc,vd,aY,eB,simprocAttr]
     refine ih _ _ ?_
     exact⟨g0,g1,g9,g10,rfl,by omega,rfl⟩
    ·rw[aq h0]
     simp only[go_sem,ye,g1,g9,g10,g11,aS hk,hr,gB,nx,hc,h0,aY,ij,simprocAttr]
   ·have nx:decide ((b.length:Int)≤(k:Int))=true:=bP (by omega)
    rw[XN,RX (as:=b) (i:=k) (by omega)]
    simp only[kI]
    simp only[go_sem,ye,g1,g9,g10,g11,aS hk,hr,nx,simprocAttr]
  ·rintro ρ m ⟨g0,g1,g9,g10,g11,OQ,rfl⟩
   rw[eS]
   by_cases hb:a.length<b.length
   ·have hd:decide ((a.length:Int)<(b.length:Int))=true:=bP (by omega)
    obtain⟨y,hy⟩:=get_some hb
    rw[eQ hy]
    simp only[kI]
    simp only[go_sem,ye,II,g0,g1,g10,g11,bM,hd,simprocAttr]
   ·have hd:decide ((a.length:Int)<(b.length:Int))=false:=bS (by omega)
    rw[RX (as:=b) (i:=a.length) (by omega)]
    simp only[kI]
    simp only[go_sem,ye,II,g0,g1,g10,g11,bM,hd,simprocAttr]
 rw[aL (show AP 68=some EO from rfl) rfl]
 simp only[go_sem,T1,simprocAttr]
 refine key 0 _ _ (bg _) ?_
 exact⟨rfl,rfl,rfl,rfl,rfl,bg _,rfl⟩
def kB (p q:P):Int:=if p.req=q.req then(if p.start=q.start then kI p.an.l q.an.l else p.start-q.start)else p.req-q.req
theorem AB {p q:P}:kB p q=0↔kP p=kP q:=by
 unfold kB kP
 by_cases h1:p.req=q.req
 ·rw[ak h1]
  by_cases h2:p.start=q.start
  ·rw[ak h2,Yx,h1,h2];simp
  ·rw[aq h2]
   exact⟨fun e=>by omega,fun e=>by simp at e;exact absurd e.2.1 h2⟩
 ·rw[aq h1]
  exact⟨fun e=>by omega,fun e=>by simp at e;exact absurd e.1 h1⟩
theorem Rc {p q:P} (hs:Ok s) (hp:p.an.ok 1) (hq:q.an.ok 1) (lp:p.an.l.length≤1000) (lq:q.an.l.length≤1000)
  (b1:-1000000≤p.req∧p.req≤1000000) (b2:-1000000≤q.req∧q.req≤1000000) (b3:-1000000≤p.start∧p.start≤1000000) (b4:-1000000≤q.start∧q.start≤1000000):
  aw AP (.fn 36) [.agg (aj p),.agg (aj q)] s=some (I (kB p q),s):=by
 have hz:∀m:ae,aw AP (.fn 68) [p.an.v aD,q.an.v aD] m=some (I (kI p.an.l q.an.l),m):=fun m=>atE hp.1 hq.1 (by omega) (by omega)
 have w1:IntKind.i64.wrap (p.req-q.req)=p.req-q.req:=bW (by omega) (by omega)
 have w2:IntKind.i64.wrap (p.start-q.start)=p.start-q.start:=bW (by omega) (by omega)
 unfold kB
 simp only[Sl.v]at hz
 by_cases h1:p.req=q.req
 ·rw[ak h1]
  have d1:decide (p.req=q.req)=true:=bP h1
  by_cases h2:p.start=q.start
  ·rw[ak h2]
   have d2:decide (p.start=q.start)=true:=bP h2
   rw[aL (show AP 36=some yu from rfl) rfl]
   simp only[go_sem,Iy,d1,d2,aY,oJ,kM,hz,simprocAttr]
  ·rw[aq h2]
   have d2:decide (p.start=q.start)=false:=bS h2
   rw[aL (show AP 36=some yu from rfl) rfl]
   simp only[go_sem,Iy,d1,d2,aY,oJ,kM,mY,w2,simprocAttr]
 ·rw[aq h1]
  have d1:decide (p.req=q.req)=false:=bS h1
  rw[aL (show AP 36=some yu from rfl) rfl]
  simp only[go_sem,Iy,d1,aY,oJ,mY,w1,simprocAttr]
end
section
variable{w:W}
def zs (w:W):List P→List P→Prop
 |_,[]=>True
 |a,p::b=>dO w p a=0∧zs w (a++[p]) b
theorem abn:∀{b a:List P},(∀(j:Nat) x,b[j]? =some x→dO w x (a++b.take j)=0)→zs w a b
 |[],_,_=>trivial
 | p :: b, a, h => by
  refine⟨?_,abn fun j x hj=>?_⟩
  ·have:=h 0 p rfl;simpa using this
  ·have:=h (j+1) x hj
   rw[gX];exact this
theorem abm:∀{b a:List P} {l:List P},l=a++b→zs w a b→fP (fun i x=>dO w x (l.take i)) a.length b=none
 |[],_,_,_,_=>rfl
 |p::b,a,l,hl,h=>by
  simp only[fP]
  have e:l.take a.length=a:=by rw[hl,List.take_left]
  rw[e,ak h.1]
  have:=abm (b:=b) (a:=a++[p]) (l:=l) (by rw[hl,gX];rfl) h.2
  rw[cj]at this
  exact this
theorem ad8 {l:List P} (h:zs w [] l):dQ w l=(0,0):=by
 have:=abm (b:=l) (a:=[]) (l:=l) rfl h
 unfold dQ
 rw[show([]:List P).length=0 from rfl]at this
 rw[this]
theorem aqo {p:P} {a:List P} (h:dO w p a=0):ig a<p.req∧dL w p a=false:=by
 unfold dO at h
 by_cases c1:wi p.req 0 (w.rs.l.length-1)=true
 ·rw [ak c1] at h
  by_cases c2:ig a<p.req
  ·refine⟨c2,?_⟩
   rw[ak c2]at h
   by_cases c3:wi p.start (w.rq p.req).lo ((w.rq p.req).hi+1-(w.rq p.req).len)=true
   ·rw [ak c3] at h
    by_cases c4:(p.an.l.length:Int)=(w.rq p.req).need
    ·rw[ak c4]at h
     by_cases c5:eO (w.rq p.req) (-1) p.an.l=0
     ·rw[ak c5]at h
      by_cases c6:(p.an.l.any fun a=>!cS w a p.start (w.rq p.req).len)=true
      ·rw[ak c6]at h;exact absurd h (by decide)
      ·rw[aq c6]at h
       cases hc:dL w p a with
       |false=>rfl
       |true=>rw[hc]at h;exact absurd h (by decide)
     ·rw[aq c5]at h;exact absurd h c5
    ·rw[aq c4]at h;exact absurd h (by decide)
   ·rw[aq c3]at h;exact absurd h (by decide)
  ·rw[aq c2]at h;exact absurd h (by decide)
 ·rw[aq c1]at h;exact absurd h (by decide)
theorem anN {a b:List P} (h:b≠[]):ig (a++b)=ig b:=by
 unfold ig
 rw[List.getLast?_append,List.getLast?_eq_some_getLast h];rfl
theorem abo:∀{b a:List P},zs w a b→b≠[]→ig a+b.length<w.rs.l.length
 |[],_,_,h=>absurd rfl h
 | p :: b, a, h, _ => by
  have h1:=(aqo h.1).1
  have h2:=Zr h.1
  by_cases hb:b=[]
  ·subst hb;simp;omega
  ·have:=abo h.2 hb
   rw[anN (by simp)]at this
   have e:ig [p]=p.req:=rfl
   rw[e]at this
   simp only[dP]
   omega
theorem atY (hw:Wk w) {l:List P} (h:zs w [] l):l.length≤12:=by
 have et:=hw.v.rl
 by_cases hl:l=[]
 ·subst hl;simp
 ·have:=abo h hl
  have e:ig ([]:List P)=-1:=rfl
  rw[e]at this
  omega
theorem SK {r:R}:∀{g:List Int} {k:Int},g.Pairwise (· <·)→(∀a∈g,a∈r.an.l∧k<a)→eO r k g=0
 |[],_,_,_=>rfl
 |a::t,k,hp,h=>by
  have ha:=h a (by simp)
  have hm:(r.an.l.any fun b=>decide (a=b))=true:=fL.2 ⟨a,ha.1,by simp⟩
  simp only[eO]
  rw[ak hm,ak ha.2]
  exact SK (RU hp) fun b hb=>⟨(h b (jg _ hb)).1,abD hp hb⟩
theorem aqp (hw:Wk w) {i:Int} (h0:0≤i) (h1:i<w.rs.l.length) {x:P} (hx:x∈dT w i) {a:List P} (hl:ig a<i) (hc:dL w x a=false):dO w x a=0:=by
 obtain⟨dW,hr,qP,xg,hn,_,jR,cd⟩:=nG hw h0 h1 hx
 have hq:=hw.rq h0 h1
 unfold dO
 rw[hr]
 rw[ak (iK.2 ⟨h0,by omega⟩),ak hl,ak (iK.2 ⟨qP,by omega⟩),ak hn]
 have Ba:eO (w.rq i) (-1) x.an.l=0:=SK (hq.CB.sublist jR) fun b hb=>⟨jR.subset hb,by have:=(hq.tc b (jR.subset hb)).1;omega⟩
 have gV:¬(x.an.l.any fun a=>!cS w a x.start (w.rq i).len)=true:=by
  rw[fL]
  rintro⟨b,hb,h⟩
  rw[cd b hb]at h;exact absurd h (by decide)
 rw[ak Ba,aq gV,hc]
 rfl
end
section
variable{w:W}
theorem aqC {i st:Int} (h0:0≤i) (h1:i<w.rs.l.length):l9 (cW w) i st=l9 w i st:=by
 unfold l9 tV
 rw[wj h0 h1]
 simp only[Y5]
 rfl
theorem Zy {i:Int} (h0:0≤i) (h1:i<w.rs.l.length):∀{n:Nat} {st:Int},jK (cW w) i st n=jK w i st n
 |0,_=>rfl
 |n+1,st=>by simp only[jK];rw[aqC h0 h1,Zy h0 h1]
theorem aqF {i:Int} (h0:0≤i) (h1:i<w.rs.l.length):dT (cW w) i=dT w i:=by
 unfold dT
 rw[Zy h0 h1,wj h0 h1];rfl
theorem aqz (hw:Wk w) {l:List P} {i:Int} (h0:0≤i) (h1:i<w.rs.l.length) (hl:∀x∈l,0≤x.req∧x.req<w.rs.l.length):ct (cW w) (l.map cP) i=ct w l i:=by
 unfold ct
 rw[aqF h0 h1]
 apply Hj
 intro x hx
 obtain⟨dW,hr,_,_,_,Ba,_⟩:=nG hw h0 h1 hx
 have sw:cP x=x:=by
  unfold cP;rw[←Ba]
 have:=UY (w:=w) (p:=x) (l:=l) dW.r0 dW.r1 hl
 rw[sw]at this
 rw[this]
end
theorem Yw:∀{a b c:List Int},lexB a b=true→lexB b c=true→lexB a c=true
 |[],_,[],_,h=>by cases ‹List Int› <;>simp[lexB]at h
 |[],_,_::_,_,_=>rfl
 |_::_,[],_,h,_=>by simp[lexB]at h
 |x::a,y::b,[],_,h=>by simp[lexB]at h
 | x :: a, y :: b, z :: c, h1, h2 => by
  simp only[lexB]at h1 h2⊢
  by_cases eF:x=y
  ·subst eF
   rw[ak rfl]at h1
   by_cases qU:x=z
   ·subst qU
    rw[ak rfl]at h2⊢
    exact Yw h1 h2
   ·rw[aq qU]at h2⊢;exact h2
  ·rw[aq eF,dZ]at h1
   by_cases qU:y=z
   ·subst qU
    rw[aq eF];simpa using h1
   ·rw[aq qU,dZ]at h2
    rw[aq (by omega)];simp;omega
theorem Qb:∀{a b:List Int},lexB a b=false→lexB b a=false→a=b
 |[],[],_,_=>rfl
 |[],_::_,h,_=>by simp[lexB]at h
 |_::_,[],_,h=>by simp[lexB]at h
 | x :: a, y :: b, h1, h2 => by
  simp only[lexB]at h1 h2
  by_cases eF:x=y
  ·subst eF
   rw[ak rfl]at h1 h2
   rw[Qb h1 h2]
  ·rw[aq eF,rK]at h1
   rw[aq (fun e=>eF (sR e)),rK]at h2
   omega
theorem N9:∀{k:Nat} {l:List Int},l.Pairwise (· <·)→(bf k l).Pairwise fun a b=>lexB a b=true
 |0,_,_=>by simp[bf]
 |_+1,[],_=>by simp[bf]
 | k + 1, x :: r, h => by
  simp only[bf]
  rw[jX]
  refine⟨?_,N9 (RU h),?_⟩
  ·rw[rz]
   refine(N9 (k:=k) (RU h)).imp fun gK=>?_
   simp only[lexB,bB];exact gK
  ·intro a ha b hb
   obtain⟨g,hg,rfl⟩:=cC.1 ha
   have cw:=tz hb
   cases b with
   |nil=>simp at cw
   |cons y t=>
    have hy:y∈r:=(A0 hb).subset (by simp)
    have eF:=abD h hy
    simp only[lexB]
    rw[aq (by omega)];simpa using eF
section
variable{w:W}
theorem Qc {x:Int} {a b:List Int}:lexB (x::a) (x::b)=lexB a b:=by simp only[lexB,bB]
theorem aqE {i st:Int} (hq:(w.rq i).an.l.Pairwise (· <·)):(l9 w i st).Pairwise fun a b=>lexB (kP a) (kP b)=true:=by
 unfold l9
 rw[rz]
 refine(N9 (List.Pairwise.sublist Ll hq)).imp fun gK=>?_
 show lexB (i::st::_) (i::st::_)=true
 rw[Qc,Qc];exact gK
theorem ZD {i:Int} (hq:(w.rq i).an.l.Pairwise (· <·)):∀{n:Nat} {st:Int},(jK w i st n).Pairwise fun a b=>lexB (kP a) (kP b)=true
 |0,_=>List.Pairwise.nil
 |n+1,st=>by
  simp only[jK]
  rw[jX]
  refine⟨aqE hq,ZD hq,?_⟩
  intro a ha b hb
  obtain⟨t,h1,_,h3⟩:=QH hb
  obtain⟨g,_,rfl⟩:=cC.1 ha
  obtain⟨g2,_,rfl⟩:=cC.1 h3
  show lexB (i::st::_) (i::t::_)=true
  rw[Qc]
  simp only[lexB]
  rw[aq (by omega)];simp;omega
theorem aqL (hw:Wk w) {i:Int} (h0:0≤i) (h1:i<w.rs.l.length):(dT w i).Pairwise fun a b=>lexB (kP a) (kP b)=true:=ZD (hw.rq h0 h1).CB
end
def cB:List P→List P→Bool
 |[],[]=>false
 |[],_::_=>true
 |_::_,[]=>false
 |x::r,y::t=>if kP x=kP y then cB r t else lexB (kP x) (kP y)
theorem Ng:∀{l:List P},cB l l=false
 |[]=>rfl
 |x::r=>by simp only[cB,bB];exact Ng
theorem Dx:∀{a b c:List P},cB a b=true→cB b c=true→cB a c=true
 |[],_,[],_,h=>by cases ‹List P› <;>simp[cB]at h
 |[],_,_::_,_,_=>rfl
 |_::_,[],_,h,_=>by simp[cB]at h
 |x::a,y::b,[],_,h=>by simp[cB]at h
 | x :: a, y :: b, z :: c, h1, h2 => by
  simp only[cB]at h1 h2⊢
  by_cases eF:kP x=kP y
  ·rw[ak eF]at h1
   rw[eF]
   by_cases qU:kP y=kP z
   ·rw[ak qU]at h2⊢
    exact Dx h1 h2
   ·rw[aq qU]at h2⊢;exact h2
  ·rw[aq eF]at h1
   by_cases qU:kP y=kP z
   ·rw[aq (by rw[←qU];exact eF),←qU];exact h1
   ·rw[aq qU]at h2
    have h3:=Yw h1 h2
    rw[aq (by intro e;rw[e,GA]at h3;exact absurd h3 (by decide))];exact h3
theorem Nh:∀{a b:List P},cB a b=false→cB b a=false→a.map kP=b.map kP
 |[],[],_,_=>rfl
 |[],_::_,h,_=>by simp[cB]at h
 |_::_,[],_,h=>by simp[cB]at h
 | x :: a, y :: b, h1, h2 => by
  simp only[cB]at h1 h2
  by_cases eF:kP x=kP y
  ·rw[ak eF]at h1
   rw[ak (sR eF)]at h2
   rw[iN,iN,eF,Nh h1 h2]
  ·rw[aq eF]at h1
   rw[aq (fun e=>eF (sR e))]at h2
   exact absurd (Qb h1 h2) eF
theorem IS:∀{a b c:List P},cB (a++b) (a++c)=cB b c
 |[],_,_=>rfl
 |x::a,b,c=>by simp only[kt,cB,bB];exact IS
theorem acX {a c:List P} (h:c≠[]):cB a (a++c)=true:=by
 have:=IS (a:=a) (b:=[]) (c:=c)
 rw[je]at this
 rw[this]
 cases c with
 |nil=>exact absurd rfl h
 |cons _ _=>rfl
theorem US {p q:P}:pM p q=0↔kP p=kP q:=by
 refine⟨fun h=>?_,aep⟩
 unfold pM at h
 cases h1:lexB (kP p) (kP q)with
 |true=>rw[h1,ak rfl]at h;exact absurd h (by decide)
 |false=>
  rw[h1,aq (by decide)]at h
  cases h2:lexB (kP q) (kP p)with
  |true=>rw[h2,ak rfl]at h;exact absurd h (by decide)
  |false=>exact Qb h1 h2
def ew (a b:List P) (i:Int):Bool:=!decide ((aM a i).map kP=(aM b i).map kP)
def tA (l:List ByteArray) (x:ByteArray):Bool:=l.any fun m=>decide (m=x)
def gp (w:W) (a b:List P):Nat→List ByteArray
 |0=>[]
 |k+1=>if(ew a b (k:Int)&&!tA (gp w a b k) (w.rq (k:Int)).bw)=true then gp w a b k++[(w.rq (k:Int)).bw]else gp w a b k
theorem aaO {w:W} {a b:List P}:∀{k:Nat},(gp w a b k).length≤k
 |0=>aH _
 |k+1=>by
  have ih:=aaO (w:=w) (a:=a) (b:=b) (k:=k)
  simp only[gp]
  split
  ·rw[cj,xR];omega
  ·omega
section
variable{s:ae} {w:W}
theorem atU {l:List ByteArray} {o:Own} {e:Nat} {x:ByteArray} (he:l=[]∨e=1) (hl:l.length≤100000):aw AP (.fn 70) [.slice o e (l.map mf),S x] s=some (I (du (fun m=>decide (m=x)) l),s):=by
 have key:∀k ρ m,k≤l.length→(ρ 0=.slice o e (l.map mf)∧ρ 1=S x∧ρ 7=I l.length∧ρ 8=I k∧(∀j y,j<k→l[j]? =some y→decide (y=x)=false)∧m=s.push ⟨[],[]⟩)→go AP afT (.c (.loop Dw)::anA) ⟨ρ,m⟩=some (I (du (fun m=>decide (m=x)) l),s):=by
  refine ck l.length _ _ ?_ ?_
  ·rintro k ρ m hk ⟨h0,h1,h7,h8,hp,rfl⟩ ih
   obtain⟨a,ha⟩:=get_some hk
   have he:e=1:=by rcases he with h|h;(rw[h]at ha;simp at ha);exact h
   subst he
   have hr:=cq (o:=o) (es:=1) (f:=mf) ha
   have vd:=bK hk (show(l.length:Int)<_ by omega)
   by_cases dq:a=x
   ·have hd:decide (x=a)=true:=bP dq.symm
    simp only[go_sem,Dw,h0,h1,h7,h8,aS hk,hr,hd,simprocAttr]
    rw[tn ha (bP dq) hp]
   ·have hd:decide (x=a)=false:=bS fun e=>dq e.symm
    simp only[go_sem,Dw,h0,h1,h7,h8,aS hk,hr,hd,vd,simprocAttr]
    refine ih _ _ ?_
    refine⟨h0,h1,h7,rfl,fun j y hj hy=>?_,rfl⟩
    by_cases e:j=k
    ·subst e;rw[ha]at hy;injection hy with hy;rw[←hy];exact bS dq
    ·exact hp j y (by omega) hy
  ·rintro ρ m ⟨h0,h1,h7,h8,hp,rfl⟩
   simp only[go_sem,Dw,Nf,h7,h8,bM,simprocAttr]
   rw[uM hp]
 rw[aL (show AP 70=some E3 from rfl) rfl]
 simp only[go_sem,Ue,simprocAttr]
 exact key 0 _ _ (bg _) ⟨rfl,rfl,rfl,rfl,fun j y hj=>absurd hj (da _),rfl⟩
theorem atK {l:List ByteArray} {o:Own} {e:Nat} {x:ByteArray} (he:l=[]∨e=1) (hl:l.length≤100000):aw AP (.fn 43) [.slice o e (l.map mf),S x] s=some (B (tA l x),s):=by
 have h:=atU (s:=s.push ⟨[],[]⟩) (o:=o) (x:=x) he hl
 rw[aL (show AP 43=some EW from rfl) rfl]
 simp only[go_sem,T8,h,yE,simprocAttr]
 rfl
theorem QB {l:List P} {i:Int} {p:P} (h:aM l i=some p):p∈l∧p.req=i:=by
 unfold aM at h
 exact⟨R8 h,by have:=Ln h;simpa using this⟩
theorem RJ:bV.an.ok 1:=⟨.inl rfl,.inr (.inr ⟨rfl,rfl⟩)⟩
structure oE (l:List P):Prop where
 len:l.length≤1000
 ok:∀p∈l,p.an.ok 1∧p.an.l.length≤1000
 b:∀p∈l,(-1000000≤p.req∧p.req≤1000000)∧-1000000≤p.start∧p.start≤1000000
theorem ar7 {a b:List P} {o1 o2:Own} {e1 e2:Nat} {i:Int} (hs:Ok s) (h1:a=[]∨e1=3) (h2:b=[]∨e2=3) (ha:oE a) (hb:oE b):
  aw AP (.fn 42) [.slice o1 e1 (a.map aj),.slice o2 e2 (b.map aj),I i] s=some (B (ew a b i),s):=by
 have la:=ha.len
 have lb:=hb.len
 have p1:∀m:ae,Ok m→aw AP (.fn 45) [.slice o1 e1 (a.map aj),I i] m=some (.tuple [.agg (aj ((aM a i).getD bV)),B (aM a i).isSome],m):=fun m hm=>GQ hm h1 (by omega) fun p h=>(ha.ok p h).1
 have p2:∀m:ae,Ok m→aw AP (.fn 45) [.slice o2 e2 (b.map aj),I i] m=some (.tuple [.agg (aj ((aM b i).getD bV)),B (aM b i).isSome],m):=fun m hm=>GQ hm h2 (by omega) fun p h=>(hb.ok p h).1
 have zok:∀(l:List P),oE l→(((aM l i).getD bV).an.ok 1∧((aM l i).getD bV).an.l.length≤1000)∧(-1000000≤((aM l i).getD bV).req∧((aM l i).getD bV).req≤1000000)∧-1000000≤((aM l i).getD bV).start∧((aM l i).getD bV).start≤1000000:=fun l hl=>by
  cases h:aM l i with
  |none=>exact⟨⟨RJ,by simp[bV]⟩,by simp[bV],by simp[bV]⟩
  |some p=>have hm:=(QB h).1;exact⟨hl.ok p hm,hl.b p hm⟩
 have za:=zok a ha
 have zb:=zok b hb
 have hc:∀m:ae,Ok m→aw AP (.fn 36) [.agg (aj ((aM a i).getD bV)),.agg (aj ((aM b i).getD bV))] m=some (I (kB ((aM a i).getD bV) ((aM b i).getD bV)),m):=fun m hm=>
  Rc hm za.1.1 zb.1.1 za.1.2 zb.1.2 za.2.1 zb.2.1 za.2.2 zb.2.2
 have fk:ew a b i=if(aM a i).isSome=(aM b i).isSome then !decide (kB ((aM a i).getD bV) ((aM b i).getD bV)=0)else true:=by
  unfold ew
  cases ea:aM a i with
  |none=>
   cases eb:aM b i with
   |none=>simp[AB]
   |some q=>simp
  |some p=>
   cases eb:aM b i with
   |none=>simp
   |some q=>simp[AB]
 rw[fk]
 have aT:∀p:P,p.an.ok 1→closeAll (aj p)=some (aj p):=fun p hp=>by
  simp only[aj,mr,oI,pL,Sl.close (f:=aD) hp];rfl
 generalize(aM a i).getD bV=pa at*
 generalize(aM b i).getD bV=pb at*
 generalize(aM a i).isSome=ta at*
 generalize(aM b i).isSome=tb at*
 have p1:=fun r=>p1 (s.push r) (hs.push r)
 have p2:=fun r=>p2 (s.push r) (hs.push r)
 have hc:=fun r=>hc (s.push r) (hs.push r)
 simp only[aj,Sl.v]at p1 p2 hc
 have j5:∀x y:Bool,oL .bool (B x) (B y)=some (x==y):=fun _ _=>rfl
 rw[aL (show AP 42=some Eg from rfl) rfl]
 cases ta<;>cases tb
 ·simp only[bB]
  simp only[go_sem,Dd,hs,p1,p2,hc,j5,aY,oJ,Ug,kM,simprocAttr]
 ·simp only[ej,cE]
  simp only[go_sem,Dd,hs,p1,p2,j5,show(false==true)=false from rfl,mY,simprocAttr]
 ·simp only[Bool.true_eq_false,cE]
  simp only[go_sem,Dd,hs,p1,p2,j5,show(true==false)=false from rfl,mY,simprocAttr]
 ·simp only[bB]
  simp only[go_sem,Dd,hs,p1,p2,hc,j5,aY,oJ,Ug,kM,simprocAttr]
theorem arl {a b:List P} {o1 o2:Own} {e1 e2:Nat} {i:Int} (hs:Ok s) (h1:a=[]∨e1=3) (h2:b=[]∨e2=3) (la:a.length≤1000) (lb:b.length≤1000) (oa:∀p∈a,p.an.ok 1∧p.an.l.length≤1000) (ob:∀p∈b,p.an.ok 1∧p.an.l.length≤1000):
  aw AP (.fn 40) [.slice o1 e1 (a.map aj),.slice o2 e2 (b.map aj),I i] s=some (B (ew a b i),s):=by
 have p1:∀m:ae,aw AP (.fn 13) [.slice o1 e1 (a.map aj),I i] m=some (I (du (fun p:P=>decide (p.req=i)) a),m):=fun m=>QO h1 (by omega)
 have p2:∀m:ae,aw AP (.fn 13) [.slice o2 e2 (b.map aj),I i] m=some (I (du (fun p:P=>decide (p.req=i)) b),m):=fun m=>QO h2 (by omega)
 have fa:=AS (p:=fun p:P=>decide (p.req=i)) (l:=a)
 have fb:=AS (p:=fun p:P=>decide (p.req=i)) (l:=b)
 have q1:decide ((-1:Int)<0)=true:=rfl
 have q2:decide ((0:Int)≤-1)=false:=rfl
 have q3:∀k:Nat,decide ((k:Int)<0)=false:=fun k=>by simp
 have q4:∀k:Nat,decide ((0:Int)≤(k:Int))=true:=fun k=>by simp
 rcases fa with⟨f1,f2⟩|⟨ka,pa,f1,f3,f2⟩
 ·have ea:aM a i=none:=f1
  rcases fb with⟨g1,g2⟩|⟨kb,pb,g1,g3,g2⟩
  ·have eb:aM b i=none:=g1
   have fk:ew a b i=false:=by unfold ew;rw[ea,eb];simp
   rw[f2]at p1
   rw[g2]at p2
   rw[fk]
   rw[aL (show AP 40=some wv from rfl) rfl]
   simp only[go_sem,C3,p1,p2,simprocAttr]
  ·have eb:aM b i=some pb:=g1
   have fk:ew a b i=true:=by unfold ew;rw[ea,eb];simp
   rw[f2]at p1
   rw[g2]at p2
   rw[fk]
   rw[aL (show AP 40=some wv from rfl) rfl]
   simp only[go_sem,C3,p1,p2,q4,simprocAttr]
 ·have ea:aM a i=some pa:=f1
  rcases fb with⟨g1,g2⟩|⟨kb,pb,g1,g3,g2⟩
  ·have eb:aM b i=none:=g1
   have fk:ew a b i=true:=by unfold ew;rw[ea,eb];simp
   rw[f2]at p1
   rw[g2]at p2
   rw[fk]
   rw[aL (show AP 40=some wv from rfl) rfl]
   simp only[go_sem,C3,p1,p2,q3,q4,simprocAttr]
  ·have eb:aM b i=some pb:=g1
   have fk:ew a b i=!decide (pM pa pb=0):=by unfold ew;rw[ea,eb];simp[US]
   rw[f2]at p1
   rw[g2]at p2
   rw[fk]
   have nu:e1=3:=by rcases h1 with h|h;(rw[h]at f3;simp at f3);exact h
   have kD:e2=3:=by rcases h2 with h|h;(rw[h]at g3;simp at g3);exact h
   subst nu
   subst kD
   have r1:=cq (o:=o1) (es:=3) (f:=aj) f3
   have r2:=cq (o:=o2) (es:=3) (f:=aj) g3
   have ma:=bQ f3
   have mb:=bQ g3
   have hc:∀m:ae,Ok m→aw AP (.fn 39) [.agg (aj pa),.agg (aj pb)] m=some (I (pM pa pb),m):=fun m hm=>ZM hm (oa pa ma).1 (ob pb mb).1 (oa pa ma).2 (ob pb mb).2
   have hc:=fun r=>hc (s.push r) (hs.push r)
   simp only[aj,Sl.v]at r1 r2 hc
   rw[aL (show AP 40=some wv from rfl) rfl]
   simp only[go_sem,C3,p1,p2,q3,r1,r2,hc,aY,oJ,simprocAttr]
end
def G7 (w:W) (a b:List P):Int:=if(kK w a).2=0 then(dQ w b).2 else(kK w a).2
section
variable{s:ae} {w:W}
theorem oE.of (hw:Wk w) {l:List P} (hl:gH l) (h:∀p∈l,ch w p):oE l:=
 ⟨by have:=hl.len;omega,fun p hp=>⟨(hl.ok p hp).1,by have:=(hl.ok p hp).2;omega⟩,fun p hp=>by
  have h1:=h p hp
  have:=h1.r0;have:=h1.r1;have:=h1.s0;have:=h1.s1;have:=hw.v.rl
  omega⟩
theorem asX {x:ByteArray}:closeAll [S x]=some [S x]:=rfl
theorem ar4 {a b:List P} {o1 o2:Own} {e1 e2:Nat} (hs:Ok s) (hw:w.Ok) (hf:w.ko) (ha:gH a) (hb:gH b) (h1:a=[]∨e1=3) (h2:b=[]∨e2=3):
  aw AP (.fn 16) [w.v,.agg [.slice o1 e1 (a.map aj),.slice o2 e2 (b.map aj)]] s=some (.tuple [bG 1 ((if G7 w a b=0 then gp w a b w.rs.l.length else[]).map mf),I (G7 w a b)],s):=by
 have ho:∀r,aw AP (.fn 41) [w.v,.slice o1 e1 (a.map aj)] (s.push r)=some (.tuple [if(dp w).2.2=0 then OW w else NP,I (kK w a).1,I (kK w a).2],s.push r):=fun r=>aac (hs.push r) hw hf ha h1
 unfold G7
 by_cases hz:(kK w a).2=0
 ·have jS : (dp w).2.2 = 0 := by
   unfold kK at hz
   by_cases h:(dp w).2.2=0
   ·exact h
   ·rw[aq h]at hz;exact absurd hz h
  have cz:Wk w:=⟨hw,hf,rn jS⟩
  have hza:(dQ w a).2=0:=by unfold kK at hz;rwa [ak jS]at hz
  have fk:∀r,aw AP (.fn 28) [OW w,.slice o2 e2 (b.map aj)] (s.push r)=some (.tuple [I (dQ w b).1,I (dQ w b).2],s.push r):=fun r=>Rz (hs.push r) cz hb h2
  rw[ak jS,hz]at ho
  simp only[hz,bB]
  by_cases Gp:(dQ w b).2=0
  ·simp only[Gp,bB]
   have tka:=oE.of cz ha (UI cz ha hza)
   have tkb:=oE.of cz hb (UI cz hb Gp)
   have et:=cz.v.rl
   have yU:∀(i:Int) (m:ae),Ok m→aw AP (.fn 42) [.slice o1 e1 (a.map aj),.slice o2 e2 (b.map aj),I i] m=some (B (ew a b i),m):=fun i m hm=>ar7 hm h1 h2 tka tkb
   rw[Gp]at fk
   have key:∀(k:Nat) ρ m,k≤w.rs.l.length→(ρ 3=.ptr s.ag.length 1 0∧ρ 33=w.rs.v bU∧ρ 34=I w.rs.l.length∧ρ 35=I k∧∃x og bx tk,Acc s.ag.length 1 ((gp w a b k).map mf) x og tk∧ρ 9=x∧m=s.push ⟨c8 w::[.slice o1 e1 (a.map aj),.slice o2 e2 (b.map aj)]::bx,tk⟩)→
     go AP afB (.c (.loop Af)::am9) ⟨ρ,m⟩=some (.tuple [bG 1 ((gp w a b w.rs.l.length).map mf),I 0],s):=by
    refine ck w.rs.l.length _ _ ?_ ?_
    ·rintro k ρ m hk ⟨g3,wK,wL,Fp,x,og,bx,tk,hA,g9,rfl⟩ ih
     obtain⟨r,fH⟩:=get_some hk
     have hr:=Sl.ix (f:=bU) hw.rs fH
     have Xx:w.rq (k:Int)=r:=by unfold W.rq;rw[Ce,fH];rfl
     have vd:=bK hk (show(w.rs.l.length:Int)<_ by omega)
     have yU:=fun r=>yU (k:Int) (s.push r) (hs.push r)
     have w5:=aaO (w:=w) (a:=a) (b:=b) (k:=k)
     have ke:gp w a b (k+1)=if(ew a b (k:Int)&&!tA (gp w a b k) r.bw)=true then gp w a b k++[r.bw]else gp w a b k:=by simp only[gp];rw[Xx]
     obtain⟨o9,e9,rfl,yW⟩:=Cw hA
     have yW:gp w a b k=[]∨e9=1:=by rcases yW with h|h;exact .inl (by simpa using h);exact .inr h
     have pV:∀m:ae,aw AP (.fn 43) [.slice o9 e9 ((gp w a b k).map mf),S r.bw] m=some (B (tA (gp w a b k) r.bw),m):=fun m=>atK yW (by omega)
     generalize a.map aj=ZA at*
     generalize b.map aj=ZB at*
     simp only[bU,Sl.v]at hr wK
     cases hc:ew a b (k:Int)with
     |false=>
      rw[hc]at yU
      rw[hc,jM,aq (by decide)]at ke
      simp only[go_sem,Af,g3,wK,wL,Fp,hs,aS hk,hr,yU,vd,simprocAttr]
      refine ih _ _ ?_
      exact⟨g3,by simp only[Sl.v];exact wK,wL,rfl,_,og,_,tk,by rw[ke];exact hA,g9,rfl⟩
     | true =>
      rw[hc]at yU
      rw[hc,iu]at ke
      cases hh:tA (gp w a b k) r.bw with
      |true=>
       rw[hh]at pV
       rw[hh,kM,aq (by decide)]at ke
       simp only[go_sem,Af,g3,g9,wK,wL,Fp,hs,aS hk,hr,yU,pV,vd,simprocAttr]
       refine ih _ _ ?_
       exact⟨g3,by simp only[Sl.v];exact wK,wL,rfl,_,og,_,tk,by rw[ke];exact hA,g9,rfl⟩
      |false=>
       rw[hh]at pV
       rw[hh,mY,ak rfl]at ke
       obtain⟨x2,fl,mj,a1,a2,_⟩:=hA.append hs .full (ys:=[[S r.bw]]) (by simp) (by rw[bY,xR];omega)
       simp only[go_sem,Af,g3,g9,wK,wL,Fp,hs,aS hk,hr,yU,pV,vd,a1,asX,simprocAttr]
       refine ih _ _ ?_
       refine⟨g3,by simp only[Sl.v];exact wK,wL,rfl,x2,fl,_,mj,?_,rfl,rfl⟩
       rw[ke,iM];exact a2
    ·rintro ρ m ⟨g3,wK,wL,Fp,x,og,bx,tk,hA,g9,rfl⟩
     have dc:=fun m:ae=>hA.leave m
     obtain⟨o9,e9,rfl,yW⟩:=Cw hA
     generalize(gp w a b w.rs.l.length).map mf=Z at*
     simp only[go_sem,Af,ML,g9,wL,Fp,bM,dc,simprocAttr]
   rw[aL (show AP 16=some yr from rfl) rfl]
   simp only[W.v,c8,Sl.v,OW]at ho fk key⊢
   simp only[go_sem,Iw,ho,fk,aY,eB,simprocAttr]
   refine key 0 _ _ (bg _) ?_
   exact⟨rfl,rfl,rfl,rfl,_,none,[],[],Acc.start,rfl,rfl⟩
  ·simp only[Gp,cE]
   rw[aL (show AP 16=some yr from rfl) rfl]
   simp only[W.v,c8,Sl.v,OW]at ho fk
   simp only[go_sem,Iw,ho,fk,Gp,aY,ij,simprocAttr]
   rfl
 ·rw[aq hz]
  simp only[aq hz]
  rw[aL (show AP 16=some yr from rfl) rfl]
  simp only[W.v,c8,Sl.v]at ho
  simp only[go_sem,Iw,ho,hz,aY,ij,simprocAttr]
  rfl
theorem UF {a b:List P} {i:Int}:ew (a.map cP) (b.map cP) i=ew a b i:=by
 have h:∀l:List P,(aM (l.map cP) i).map kP=(aM l i).map kP:=fun l=>by
  unfold aM
  rw[List.find?_map,LG]
  rfl
 unfold ew
 rw[h,h]
theorem aaM {a b:List P}:∀{k:Nat},k≤w.rs.l.length→gp (cW w) (a.map cP) (b.map cP) k=gp w a b k
 |0,_=>rfl
 |k+1,hk=>by
  simp only[gp]
  rw[aaM (by omega),UF,wj (by omega) (by omega)]
  rfl
end
theorem Gz {d b off es n cap:Nat}:mO false (.aO d b off es n cap)=some (I (n:Int)):=rfl
theorem Ks {d b es n:Nat} {i:Nat} (h:i<n):kH none es (.aO d b 0 es n 0) (I (i:Int))=some (.ptr d b (0+i*es)):=by
 have h1:idx (I (i:Int)) n=some i:=by simp[idx];omega
 simp[kH,h1]
theorem V3 {l:List P} {k:Nat} {p:P} (h:l[k]? =some p):qs (0+k*3) 3 (cm l)=some (aj p):=by
 obtain⟨A,B,rfl,rfl⟩:∃A B,l=A++p::B∧A.length=k:=by
  obtain⟨hk,he⟩:=bd.1 h
  refine⟨l.take k,l.drop (k+1),?_,by rw[fW];omega⟩
  rw[←he,List.getElem_cons_drop,Hx]
 have hlen:=nj (l:=A++p::B)
 rw[cj,dP]at hlen
 rw[Jb,ak (by omega),yG,Fm,fC,←nj,List.drop_left]
 rfl
structure Cell (X:List AV→ae) (d b:Nat):Prop where
 box:∀r,(X r).box d b=some r
 set:∀r r',(X r).dA d b r'=X r'
 ro:∀r,(X r).ro≤d
 ok:∀r,Ok (X r)
section
variable{X:List AV→ae} {d b:Nat}
theorem Cell.lt (h:Cell X d b) (r:List AV):d<(X r).ag.length:=by
 apply qi
 intro hn
 have:=h.box r
 rw[ae.box,nM (by omega)]at this;simp at this
theorem Cell.push (h:Cell X d b) (q:Rec):Cell (fun r=>(X r).push q) d b:=by
 refine⟨fun r=>eP (h.box r) q,fun r r'=>?_,h.ro,fun r=>(h.ok r).push q⟩
 rw[←h.set r r']
 have:=h.lt r
 simp only[ae.dA,ae.bp,ae.push,Ky this]
theorem Cell.store (h:Cell X d b) {q:Rec} {row:List AV} {off n:Nat} {y:AV} (hc:y.cells.all AV.bt=true) (hf:((X row).push q).fitAll d y.cells=some (y.cells,(X row).push q)) (hn:y.cells.length=n) (ho:off+n≤row.length):
  ((X row).push q).store n (.ptr d b off) y=some ((X (setCells row off y.cells)).push q):=by
 have aC:=h.lt row
 have aB:¬d=((X row).push q).cur:=by rw[fE];omega
 have bh:((X row).push q).ro≤d:=h.ro row
 have di:((X row).push q).box d b=some row:=(h.push q).box row
 have cp:((X row).push q).dA d b (setCells row off y.cells)=(X (setCells row off y.cells)).push q:=(h.push q).set row (setCells row off y.cells)
 simp only[ae.store,bh,hn,hc,nb,bB,aB,cE,hf,di,ho,cp]
end
theorem aak {P Q R ys:List AV} (h:Q.length=ys.length):setCells (P++(Q++R)) P.length ys=P++(ys++R):=by
 induction Q generalizing P ys with
 |nil=>
  cases ys with
  |nil=>rfl
  |cons y t=>simp at h
 | cons x q ih =>
  cases ys with
  |nil=>simp at h
  |cons y t=>
   simp only[setCells,kt]
   rw[mU]
   have:=ih (P:=P++[y]) (ys:=t) (by simpa using h)
   simp only[cj,dP,iL,gX,kt,kO,fC]at this
   exact this
theorem Cell.asR {X:List AV→ae} {d b:Nat} (h:Cell X d b) {q:Rec} {A R:List P} {r p:P} (hp:p.an.ok 1) {n:Nat} (hn:n=A.length):
  ((X (cm (A++r::R))).push q).store 3 (.ptr d b (0+n*3)) (.agg (aj p))=some ((X (cm (A++p::R))).push q):=by
 subst hn
 have aT:(aj p).all AV.isClosed=true:=by
  simp only[aj,vK,Cg,sQ]
  have:(p.an.v aD).isClosed=true:=by rcases hp.2 with h|h|h<;>simp[Sl.v,AV.isClosed,AV.iH,h]
  rw[this];rfl
 have hl:=nj (l:=A++r::R)
 rw[cj,dP]at hl
 have:=h.store (q:=q) (row:=cm (A++r::R)) (off:=0+A.length*3) (n:=3) (y:=.agg (aj p)) rfl (Jp aT) rfl (by omega)
 rw[this]
 have e:setCells (cm (A++r::R)) (0+A.length*3) (aj p)=cm (A++p::R):=by
  rw[yG,Fm,yG,Fm,fC,←nj]
  exact aak rfl
 rw[show(AV.agg (aj p)).cells=aj p from rfl,e]
section
variable{s:ae} {w:W}
theorem atP {l:List P} {d b:Nat} {g:FuncId} {caps:List AV} {p:P→Bool} (hb:s.box d b=some (cm l)) (hl:(l.length:Int)<9223372036854775808)
  (hg:∀a∈l,∀r,aw AP (.fn g) (.agg (aj a)::caps) (s.push r)=some (B (p a),s.push r)):aw AP (.fn 72) [.aO d b 0 3 l.length 0,.fn g [] caps] s=some (I (du p l),s):=by
 have key:∀k ρ m,k≤l.length→(ρ 0=.aO d b 0 3 l.length 0∧ρ 1=.fn g [] caps∧ρ 7=I l.length∧ρ 8=I k∧(∀j y,j<k→l[j]? =some y→p y=false)∧m=s.push ⟨[],[]⟩)→go AP VJ (.c (.loop yf)::Yc) ⟨ρ,m⟩=some (I (du p l),s):=by
  refine ck l.length _ _ ?_ ?_
  ·rintro k ρ m hk ⟨h0,h1,h7,h8,hp,rfl⟩ ih
   obtain⟨a,ha⟩:=get_some hk
   have hr:=Ks (d:=d) (b:=b) (es:=3) hk
   have J2:=V3 ha
   have Ow:∀r,(s.push r).box d b=some (cm l):=fun r=>eP hb r
   simp only[go_sem,yf,h0,h1,h7,h8,aS hk,hr,Ow,J2,hg a (bQ ha),bK hk hl,simprocAttr]
   cases dq:p a with
   |true=>
    simp only[gd]
    rw[tn ha dq hp]
   |false=>
    simp only[iz]
    refine ih _ _ ?_
    refine⟨h0,h1,h7,rfl,fun j y hj hy=>?_,rfl⟩
    by_cases e:j=k
    ·subst e;rw[ha]at hy;injection hy with hy;rw[←hy];exact dq
    ·exact hp j y (by omega) hy
  ·rintro ρ m ⟨h0,h1,h7,h8,hp,rfl⟩
   simp only[go_sem,yf,IL,h7,h8,bM,simprocAttr]
   rw[uM hp]
 rw[aL (show AP 72=some Aw from rfl) rfl]
 simp only[go_sem,M9,Gz,simprocAttr]
 exact key 0 _ _ (bg _) ⟨rfl,rfl,rfl,rfl,fun j y hj=>absurd hj (da _),rfl⟩
def oO (n:Nat):List AV:=(List.replicate n [I 0,I 0,AV.slice .aA 0 []]).flatten
theorem V4 {n:Nat}:(oO n).length=n*3:=by simp[oO]
theorem agf {n:Nat}:oO n=cm (List.replicate n bV):=by
 unfold oO cm
 rw[List.map_replicate]
 rfl
theorem aea {d b n i:Nat} (h:i<n):iI (.sl 3) (.aO d b 0 3 n 0) (some (I (i:Int))) none none=some (.aO d b (0+i*3) 3 (n-i) (n-i)):=by
 have h1:asNat (AV.v (.int .i64 (i:Int))) n=some i:=by simp[asNat];omega
 have h2:¬n=i:=by omega
 simp only[iI,bB,qY,lk,Nat.max_zero,s7,ej,cE,eL,kg,h1,dK,h2]
theorem aeb {d b n i:Nat} (h:i<n):iI (.sl 3) (.aO d b 0 3 n 0) none (some (I (i:Int))) none=some (.aO d b (0+0*3) 3 i n):=by
 have h1:asNat (AV.v (.int .i64 (i:Int))) n=some i:=by simp[asNat];omega
 have h2:¬n=0:=by omega
 simp only[iI,bB,qY,lk,Nat.max_zero,eL,kg,h1,dK,h2,cE,Sv]
theorem af8 {α:Type} {p:α→Bool} {l:List α} {x y:α} {k j:Nat} (h1:l.find? p=some x) (h3:du p l=k) (hj:j<k) (hy:l[j]? =some y):p y=false:=by
 cases hp:p y with
 |false=>rfl
 | true =>
  exfalso
  obtain⟨j0,y0,q1,q2,q3,q4⟩:∃j0 y0,l[j0]? =some y0∧p y0=true∧j0≤j∧∀i z,i<j0→l[i]? =some z→p z=false:=by
   induction j using Nat.strongRecOn generalizing y with
   | _ j ih =>
    by_cases fp:∀i z,i<j→l[i]? =some z→p z=false
    ·exact⟨j,y,hy,hp,aH _,fp⟩
    ·simp only[Classical.not_forall]at fp
     obtain⟨i,z,hi,hz,Xs⟩:=fp
     obtain⟨j0,y0,q1,q2,q3,q4⟩:=ih i hi (by omega) hz (by simpa using Xs)
     exact⟨j0,y0,q1,q2,by omega,q4⟩
  have:=tn q1 q2 q4
  rw[this]at h3
  omega
theorem atL {X : List AV → ae} {d b : Nat} {l : List P} {g : FuncId} {caps : List AV} {f : P → Bool} (hX : Cell X d b) (hl : l.length < 1000000) (fQ : 0 < l.length) (bE : ∀ p ∈ l, p.an.ok 1)
    (hg:∀x∈l,∀row q,aw AP (.fn g) (.agg (aj x)::caps) ((X row).push q)=some (B (f x),(X row).push q))
    (hg2:∀x∈l,∀row q q',aw AP (.fn g) (.agg (aj x)::caps) (((X row).push q).push q')=some (B (f x),((X row).push q).push q')):
    ∃cap R,aw AP (.fn 63) [.aO d b 0 3 l.length 0,.fn g [] caps] (X (cm l))=some (.aO d b 0 3 (l.filter fun x=>!f x).length cap,X (cm ((l.filter fun x=>!f x)++R)))∧(∀p∈R,p.an.ok 1)∧(cap=0→R=[]):=by
  have dc:∀row q off n cap,ef ((X row).push q) (.aO d b off 3 n cap)=some (.aO d b off 3 n cap):=fun row q off n cap=>by
    have h1:=hX.lt row
    have h2:¬d=((X row).push q).cur:=by rw[fE];omega
    rw[show ef ((X row).push q) (.aO d b off 3 n cap)=eA ((X row).push q) (.aO d b off 3 n cap)from rfl]
    simp only[eA,h2,cE]
  have cr:∀q,aw AP (.fn 72) [.aO d b 0 3 l.length 0,.fn g [] caps] ((X (cm l)).push q)=some (I (du f l),(X (cm l)).push q):=fun q=>atP ((hX.push q).box _) (by omega) fun a ha r=>hg2 a ha _ q r
  rcases AS (p:=f) (l:=l)with⟨h1,h2⟩|⟨k,x,h1,h2,h3⟩
  · -- none is deleted
    have wT:(l.filter fun x=>!f x)=l:=Lk.2 fun x hx=>by
      have:=Hl.1 h1 x hx
      simpa using this
    rw[h2]at cr
    rw[wT]
    refine⟨0,[],?_,(fun p h=>absurd h (by simp)),fun _=>rfl⟩
    rw[je]
    have w7:decide ((-1:Int)=-1)=true:=by decide
    rw[aL (show AP 63=some yv from rfl) rfl]
    generalize cm l=Z at*
    simp only[go_sem,IJ,cr,dc,simprocAttr]
  · have hk : k < l.length := (bd.1 h2).1
    have hfx:f x=true:=Ln h1
    rw[h3]at cr
    have ah8:(l.take k).filter (fun x=>!f x)=l.take k:=Lk.2 fun y hy=>by
      obtain⟨j,hj⟩:=mZ hy
      have u3:j<k:=by have:=(bd.1 hj).1;rw[fW]at this;omega
      rw[List.getElem?_take_of_lt u3]at hj
      have:=af8 h1 h3 u3 hj
      simp[this]
    have hlen:∀j,((l.take j).filter fun x=>!f x).length≤j:=fun j=>kQ (nO _ _) (by rw[fW];omega)
    have key:∀(j:Nat) ρ m,j≤l.length→(ρ 0=.aO d b 0 3 l.length 0∧ρ 1=.fn g [] caps∧ρ 6=I j∧ρ 5=I ((l.take j).filter fun x=>!f x).length∧((l.take j).filter fun x=>!f x).length<j∧
        ∃R bx,((l.take j).filter fun x=>!f x).length+R.length=j∧(∀p∈R,p.an.ok 1)∧m=(X (cm (((l.take j).filter fun x=>!f x)++(R++l.drop j)))).push ⟨bx,[]⟩)→
        ∃R,go AP afN (.c (.loop Dv)::ant) ⟨ρ,m⟩=some (.aO d b 0 3 (l.filter fun x=>!f x).length l.length,X (cm ((l.filter fun x=>!f x)++R)))∧∀p∈R,p.an.ok 1:=by
      intro j
      obtain⟨t,ht⟩:∃t,t=l.length-j:=⟨_,rfl⟩
      induction t generalizing j with
      | zero =>
        rintro ρ m hj ⟨g0,g1,g6,g5,aC,R,bx,hR,Fx,rfl⟩
        obtain rfl:j=l.length:=by omega
        rw[jh]at g5 aC hR⊢
        rw[eS,je]
        generalize hA:(l.filter fun x=>!f x)=A at*
        have hd:decide (((l.length:Nat):Int)<(l.length:Int))=false:=by simp
        have qP:=aea (d:=d) (b:=b) (n:=l.length) (i:=A.length) aC
        have xg:=aeb (d:=d) (b:=b) (n:=l.length) (i:=A.length) aC
        have hz : wB ((X (cm (A ++ R))).push ⟨bx, []⟩) [I 0, I 0, .slice .aA 0 []] (.aO d b (0 + A.length * 3) 3 (l.length - A.length) (l.length - A.length)) = some (.tuple [], (X (cm (A ++ List.replicate R.length bV))).push ⟨bx, []⟩) := by
          have aB:¬l.length-A.length=0:=by omega
          have Wz:l.length-A.length=R.length:=by omega
          have cp:=hX.store (q:=⟨bx,[]⟩) (row:=cm (A++R)) (off:=0+A.length*3) (n:=(l.length-A.length)*3) (y:=.agg (oO (l.length-A.length)))
            (by show (oO _).all AV.bt = true
                unfold oO
                rw[jx]
                intro c hc
                obtain⟨r,hr,iU⟩:=ur.1 hc
                rw[RZ hr]at iU
                rcases eC.1 iU with rfl|iU
                · rfl
                rcases eC.1 iU with rfl|iU
                · rfl
                rw[eK.1 iU];rfl)
            (Jp (by
                show(oO _).all AV.isClosed=true
                unfold oO
                rw[jx]
                intro c hc
                obtain⟨r,hr,iU⟩:=ur.1 hc
                rw[RZ hr]at iU
                rcases eC.1 iU with rfl|iU
                · rfl
                rcases eC.1 iU with rfl|iU
                · rfl
                rw[eK.1 iU];rfl))
            V4 (by rw[nj,cj];omega)
          have e:setCells (cm (A++R)) (0+A.length*3) (oO (l.length-A.length))=cm (A++List.replicate R.length bV):=by
            have:=aak (P:=cm A) (Q:=cm R) (R:=[]) (ys:=oO (l.length-A.length)) (by rw[nj,V4,Wz])
            rw[je,je,nj]at this
            rw[yG,fC,this,Wz,agf,yG]
          rw[show(AV.agg (oO (l.length-A.length))).cells=oO (l.length-A.length)from rfl,e]at cp
          have W0:(List.replicate (l.length-A.length) [I 0,I 0,AV.slice .aA 0 []]).flatten=oO (l.length-A.length):=rfl
          simp only[wB,aB,cE,dP,iL,fC,Nat.reduceAdd,bB,W0]at cp⊢
          rw[cp];rfl
        refine⟨List.replicate R.length bV,?_,fun p hp=>by rw[RZ hp];exact RJ⟩
        generalize cm (A++List.replicate R.length bV)=Z2 at*
        generalize cm (A++R)=Z1 at*
        rw[go_loop]
        simp only[go_sem,Dv,M7,g0,g6,g5,Gz,hd,qP,xg,hz,dc,simprocAttr]
      | succ t ih =>
        rintro ρ m hj ⟨g0,g1,g6,g5,aC,R,bx,hR,Fx,rfl⟩
        have gS:j<l.length:=by omega
        obtain⟨y,hy⟩:=get_some gS
        have XV:=bQ hy
        have p6:=fU hy
        have OH:=eQ hy
        have jC:=hg y XV
        have qT:=bE y XV
        have jo:=bK gS (show(l.length:Int)<_ by omega)
        have u2:=Ks (d:=d) (b:=b) (es:=3) gS
        generalize hA:((l.take j).filter fun x=>!f x)=A at*
        have sb:qs (0+j*3) 3 (cm (A++(R++l.drop j)))=some (aj y):=by
          refine V3 ?_
          rw[←gX,gE (by rw[cj];omega),cj,OH]
          rw[show j-(A.length+R.length)=0 by omega];rfl
        have di:=fun q=>(hX.push q).box (cm (A++(R++l.drop j)))
        have om:closeAll (aj y)=some (aj y):=by
          simp only[aj,mr,oI,pL,Sl.close qT];rfl
        cases JN:f y with
        | true =>
          rw[JN]at jC
          have uS:((l.take (j+1)).filter fun x=>!f x)=A:=by rw[p6,oB,hA];simp[JN]
          have FQ:=ih (j+1) (by omega)
          rw[uS]at FQ
          have cp:cm (A++(R++l.drop j))=cm (A++((R++[y])++l.drop (j+1))):=by rw[OH];simp
          generalize cm (A++(R++l.drop j))=Z at*
          rw[go_loop]
          simp only[aj,Sl.v]at sb jC
          simp only[go_sem,Dv,hX.ok,g0,g1,g6,Gz,aS gS,u2,di,sb,jC,jo,at_len,mU,simprocAttr]
          refine FQ _ _ (by omega) ?_
          exact⟨g0,g1,rfl,g5,by omega,R++[y],_,by rw[cj];simp;omega,(fun p hp=>by
            rcases dD.1 hp with hp|hp
            · exact Fx p hp
            · rw[eK.1 hp];exact qT),by rw[cp]⟩
        | false =>
          rw[JN]at jC
          obtain⟨r0,R',rfl⟩:∃r0 R',R=r0::R':=by
            cases R with
            |nil=>simp at hR;omega
            |cons r0 R'=>exact⟨r0,R',rfl⟩
          rw[dP]at hR
          have uS:((l.take (j+1)).filter fun x=>!f x)=A++[y]:=by rw[p6,oB,hA];simp[JN]
          have FQ:=ih (j+1) (by omega)
          rw[uS]at FQ
          have aiP:=Ks (d:=d) (b:=b) (es:=3) (i:=A.length) (n:=l.length) (by omega)
          have XB:=fun q=>hX.asR (q:=q) (A:=A) (r:=r0) (R:=R'++l.drop j) qT rfl
          have cp:cm (A++y::(R'++l.drop j))=cm ((A++[y])++((R'++[y])++l.drop (j+1))):=by rw[OH];simp
          have xi:=bK (k:=A.length) (n:=l.length) (by omega) (show(l.length:Int)<_ by omega)
          rw[kt]at di sb⊢
          generalize cm (A++y::(R'++l.drop j))=Z2 at*
          generalize cm (A++r0::(R'++l.drop j))=Z at*
          rw[go_loop]
          simp only[aj,Sl.v]at sb jC XB
          simp only[go_sem,Dv,hX.ok,g0,g1,g6,g5,Gz,aS gS,u2,aiP,di,sb,jC,jo,xi,XB,at_len,mU,simprocAttr]
          refine FQ _ _ (by omega) ?_
          exact⟨g0,g1,rfl,by rw[cj];rfl,by rw[cj];simp;omega,R'++[y],_,by rw[cj,cj];simp;omega,(fun p hp=>by
            rcases dD.1 hp with hp|hp
            · exact Fx p (by simp[hp])
            · rw[eK.1 hp];exact qT),by rw[cp]⟩
    have hA:((l.take (k+1)).filter fun x=>!f x)=l.take k:=by rw[fU h2,oB,ah8];simp[hfx]
    have tF:(l.take k).length=k:=by rw[fW];omega
    have Gj:=key (k+1)
    rw[hA,tF]at Gj
    have aB:decide ((k:Int)=-1)=false:=by simp
    have jo:=bK hk (show(l.length:Int)<_ by omega)
    have oY:cm l=cm (l.take k++([x]++l.drop (k+1))):=by
      have:=eQ h2
      rw[show[x]++l.drop (k+1)=l.drop k by rw[this];rfl,Hx]
    have:∃R,aw AP (.fn 63) [.aO d b 0 3 l.length 0,.fn g [] caps] (X (cm l))=some (.aO d b 0 3 (l.filter fun x=>!f x).length l.length,X (cm ((l.filter fun x=>!f x)++R)))∧∀p∈R,p.an.ok 1:=by
      rw[aL (show AP 63=some yv from rfl) rfl]
      generalize cm l=Z at*
      simp only[go_sem,IJ,cr,jo,simprocAttr]
      refine Gj _ _ (by omega) ?_
      exact⟨rfl,rfl,rfl,rfl,by omega,[x],_,by simp,(fun p hp=>by rw[eK.1 hp];exact bE x (bQ h2)),by rw[oY]⟩
    obtain⟨R,e1,e2⟩:=this
    exact⟨l.length,R,e1,e2,fun h=>by omega⟩
theorem atM {g:FuncId} {caps:List AV}:aw AP (.fn 63) [.slice .aA 0 [],.fn g [] caps] s=some (.slice .aA 0 [],s):=by
 have cr:∀m:ae,aw AP (.fn 72) [.slice .aA 0 [],.fn g [] caps] m=some (I (-1),m):=fun m=>RH (l:=[]) (p:=fun _=>false) (.inl rfl) (by decide) (fun a ha=>absurd ha (by simp))
 have w7:decide ((-1:Int)=-1)=true:=by decide
 rw[aL (show AP 63=some yv from rfl) rfl]
 simp only[go_sem,IJ,cr,simprocAttr]
theorem aa5 {q p:P} {has:Bool} {d b1 b2:Nat} (hs:Ok s) (h1:s.box d b1=some [B has]) (h2:s.box d b2=some (aj p)) (hq:q.an.ok 1) (hp:p.an.ok 1) (lq:q.an.l.length≤1000) (lp:p.an.l.length≤1000)
  (c1:-1000000≤q.req∧q.req≤1000000) (c2:-1000000≤p.req∧p.req≤1000000) (c3:-1000000≤q.start∧q.start≤1000000) (c4:-1000000≤p.start∧p.start≤1000000):
  aw AP (.fn 61) [.agg (aj q),.ptr d b1 0,.ptr d b2 0] s=some (B (has&&decide (kB q p=0)),s):=by
 have hc:∀r,aw AP (.fn 36) [.agg (aj q),.agg (aj p)] (s.push r)=some (I (kB q p),s.push r):=fun r=>Rc (hs.push r) hq hp lq lp c1 c2 c3 c4
 have k1:=fun r=>eP h1 r
 have k2:=fun r=>eP h2 r
 have aB:¬d=s.ag.length:=fun e=>by
  subst e
  simp only[ae.box]at h1
  rw[nM (aH _)]at h1;simp at h1
 rw[aL (show AP 61=some Ey from rfl) rfl]
 simp only[aj,Sl.v]at hc k2
 cases has with
 |true=>simp only[go_sem,MW,k1,k2,hc,iu,simprocAttr]
 |false=>simp only[go_sem,MW,k1,jM,simprocAttr]
end
def ff (v:Nat→AV) (o:Nat→Bool) (a n:Nat):List AV:=((List.range' a n).map fun i=>[v i,B (o i)]).flatten
theorem zH {v:Nat→AV} {o:Nat→Bool}:∀{n a:Nat},(ff v o a n).length=n*2
 |0,_=>rfl
 |n+1,a=>by
  have:=zH (v:=v) (o:=o) (n:=n) (a:=a+1)
  unfold ff at this⊢
  rw[Ck,iN,sV,cj,this];simp;omega
theorem BU {v:Nat→AV} {o:Nat→Bool} {j n:Nat} (h:j<n):ff v o 0 n=ff v o 0 j++v j::B (o j)::ff v o (j+1) (n-(j+1)):=by
 have e:n=j+(1+(n-(j+1))):=by omega
 have h1:List.range' 0 n=List.range' 0 j++List.range' j (1+(n-(j+1))):=by
  have:=List.range'_append (s:=0) (m:=j) (n:=1+(n-(j+1))) (step:=1)
  rw[rA,fC]at this
  rw[this,←e]
 unfold ff
 rw[h1,Lw 1,Ck]
 simp
theorem KV {v v':Nat→AV} {o o':Nat→Bool} {a n:Nat} (h:∀i,a≤i→i<a+n→v i=v' i∧o i=o' i):ff v o a n=ff v' o' a n:=by
 unfold ff
 congr 1
 refine zP fun i hi=>?_
 have:=List.mem_range'_1.1 hi
 rw[(h i this.1 this.2).1,(h i this.1 this.2).2]
def fh {α:Type} (v:Nat→α) (j:Nat) (x:α):Nat→α:=fun i=>if i=j then x else v i
theorem G9 {α:Type} {v:Nat→α} {j:Nat} {x:α}:fh v j x j=x:=ak rfl
theorem xE {α:Type} {v:Nat→α} {i j:Nat} {x:α} (h:i≠j):fh v j x i=v i:=aq h
theorem arN {v:Nat→AV} {o:Nat→Bool} {j n:Nat} (h:j<n):(ff v o 0 n)[0+j*2+0]? =some (v j):=by
 rw[BU h,show 0+j*2+0=(ff v o 0 j).length by rw[zH];omega]
 simp
theorem Q5 {v:Nat→AV} {o:Nat→Bool} {j n:Nat} {x:AV} (h:j<n):l8 (ff v o 0 n) (0+j*2+0) [x]=some (ff (fh v j x) o 0 n):=by
 rw[vw,ak (by rw[zH];simp;omega)]
 simp only[setCells]
 rw[BU h,show 0+j*2+0=(ff v o 0 j).length by rw[zH];omega,mU,BU (v:=fh v j x) h,G9]
 rw[KV (v:=fh v j x) (v':=v) (o':=o) fun i _ hi=>⟨xE (by omega),rfl⟩,KV (v:=fh v j x) (v':=v) (o':=o) (a:=j+1) fun i h1 _=>⟨xE (by omega),rfl⟩]
theorem Q6 {v:Nat→AV} {o:Nat→Bool} {j n:Nat} {t:Bool} (h:j<n):l8 (ff v o 0 n) (0+j*2+1) [B t]=some (ff v (fh o j t) 0 n):=by
 rw[vw,ak (by rw[zH];simp;omega)]
 simp only[setCells]
 rw[BU h,show 0+j*2+1=(ff v o 0 j).length+1 by rw[zH];omega,rj,BU (o:=fh o j t) h,G9]
 rw[KV (o:=fh o j t) (v':=v) (o':=o) fun i _ hi=>⟨rfl,xE (by omega)⟩,KV (o:=fh o j t) (v':=v) (o':=o) (a:=j+1) fun i h1 _=>⟨rfl,xE (by omega)⟩]
theorem arL {w:W} {d n:Nat} {bi:Nat→Nat}:ri w d bi n=ff (fun i=>lE d (bi i) (ct w [] (i:Int))) (fun _=>true) 0 n:=by
 unfold ri ff
 rw[zR]
def BW (plan:List P) (i:Int) (x:P):Bool:=(aM plan i).isSome&&decide (kB x ((aM plan i).getD bV)=0)
def vk (set:List Int) (i:Int):Bool:=set.any fun a=>decide (i=a)
def hU (w:W) (plan:List P) (set:List Int) (i:Int):List P:=
 if vk set i=true then(ct w [] i).filter fun x=>!BW plan i x else(aM plan i).toList
def lN (plan:List P) (set:List Int) (req i:Int):Bool:=
 if vk set i=true then(aM plan i).isSome&&!decide (i=req)else !(aM plan i).isSome&&!decide (i=req)
def xL (w:W) (d ab:Nat) (bi:Nat→Nat) (j:Nat) (bs:List (List AV)) (v:AV) (c:Sl P):Prop:=
 (v=.slice .aA 0 []∧c=⟨.aA,0,[]⟩)∨∃b cap R,v=.aO d b 0 3 c.l.length cap∧bs[b]? =some (cm (c.l++R))∧(∀p∈c.l++R,p.an.ok 1)∧c=⟨.any,3,c.l⟩∧b≠ab∧∀k:Nat,j≤k→k<w.rs.l.length→ct w [] (k:Int)≠[]→b≠bi k
section
variable{s:ae} {w:W}
theorem xL.deep {ab:Nat} {bi:Nat→Nat} {j:Nat} {bs:List (List AV)} {tk:List (Option Nat)} {v:AV} {c:Sl P} (h:xL w s.ag.length ab bi j bs v c):nV (s.push ⟨bs,tk⟩) v=some (c.v aj):=by
 obtain⟨rfl,rfl⟩|⟨b,cap,R,rfl,hb,bE,hc,_⟩:=h
 ·rfl
 ·have fk:=E8 (es:=3) (xs:=c.l.map aj) (fun r hr=>by obtain⟨p,_,rfl⟩:=cC.1 hr;rfl)
  rw[bY]at fk
  have hle:0+c.l.length*3≤(cm (c.l++R)).length:=by rw[nj,cj];omega
  simp only[nV,fE,bB,iw,hb,eL]
  rw[ak hle,Jq bE]
  simp only[dK,ku]
  have sb:∀{n:Nat} {xs ys:List AV},n*3≤xs.length→chunks 3 n (xs++ys)=chunks 3 n xs:=by
   intro n
   induction n with
   |zero=>intros;rfl
   |succ n ih=>
    intro xs ys h
    simp only[chunks]
    rw[Sf (by omega),RW (by omega),ih (by rw[sX];omega)]
  rw[yG,sb (by rw[nj];exact aH _),show cm c.l=(c.l.map aj).flatten from rfl,fk,hc]
theorem Vg {bs:List (List AV)} {tk:List (Option Nat)} {v:Nat→AV} {o:Nat→Bool} {c:Nat→Sl P}:∀{n:Nat},(∀i,i<n→nV (s.push ⟨bs,tk⟩) (v i)=some ((c i).v aj))→
  jO (s.push ⟨bs,tk⟩) (ff v o 0 n)=some (((List.range n).map fun i=>gn (c i,o i)).flatten)
 |0,_=>rfl
 |n+1,h=>by
  rw[BU (Lz n),Cl,iM,List.flatten_append]
  refine NI (Vg fun i hi=>h i (by omega)) ?_
  have e2:nV (s.push ⟨bs,tk⟩) (B (o n))=some (B (o n)):=rfl
  simp only[HE,ff,List.range'_zero,nP,R2,jO,h n (Lz n),e2,iN,sV,je]
theorem an0 {bs:List (List AV)} {tk:List (Option Nat)} {v:Nat→AV} {o:Nat→Bool} {c:Nat→Sl P} {ab n:Nat} (hb:bs[ab]? =some (ff v o 0 n)) (h:∀i,i<n→nV (s.push ⟨bs,tk⟩) (v i)=some ((c i).v aj)):
  eA (s.push ⟨bs,tk⟩) (.aO s.ag.length ab 0 2 n 0)=some (.slice .any 2 (((List.range n).map fun i=>(c i,o i)).map gn)):=by
 have fk:=E8 (es:=2) (xs:=(List.range n).map fun i=>gn (c i,o i)) (fun r hr=>by obtain⟨p,_,rfl⟩:=cC.1 hr;rfl)
 rw[bY,pF]at fk
 have hd:=Vg (o:=o) h
 have hle:0+n*2≤(ff v o 0 n).length:=by rw[zH];omega
 simp only[eA,fE,bB,iw,hb,eL]
 rw[ak hle,Zf,hd]
 simp only[dK,ku]
 rw[fk,vO];rfl
end
theorem ad1 {s:ae} (hs:Ok s) {bs:List (List AV)} {tk:List (Option Nat)} {b:Nat} (hb:b<bs.length):Cell (fun r=>s.push ⟨bs.set b r,tk⟩) s.ag.length b:=by
 refine⟨fun r=>?_,fun r r'=>?_,fun r=>hs.ro,fun r=>hs.push _⟩
 ·rw[iw];simp[hb]
 ·rw[Ri,zS]
theorem GU {bs:List (List AV)} {b:Nat} {r:List AV} (h:bs[b]? =some r):bs.set b r=bs:=by
 obtain⟨hb,rfl⟩:=bd.1 h
 exact List.set_getElem_self hb
section
variable{s:ae} {w:W}
theorem QI (hw:Wk w) {i:Nat} (hi:i<w.rs.l.length) {q:P} (hq:q∈ct w [] (i:Int)):q.an.ok 1∧q.an.l.length≤1000∧(-1000000≤q.req∧q.req≤1000000)∧-1000000≤q.start∧q.start≤1000000:=by
 obtain⟨h1,h2,_,_,_,_,h3,_⟩:=nG hw (i:=(i:Int)) (by omega) (by omega) (eT.1 hq).1
 have et:=hw.v.rl
 have h4:=hw.rM.an _ (W.qh (i:=(i:Int)) (by omega) (by omega))
 have h5:=h3.length_le
 exact⟨h1.ok,by omega,⟨by have:=h1.r0;omega,by have:=h1.r1;omega⟩,by have:=h1.s0;omega,by have:=h1.s1;omega⟩
structure zK (w:W) (d ob ab:Nat) (bi:Nat→Nat) (plan:List P) (set:List Int) (req:Int) (j:Nat) (bs:List (List AV)) (v:Nat→AV) (o:Nat→Bool) (c:Nat→Sl P):Prop where
 z:bs[0]? =some [NP,.slice .aA 0 []]
 oo:bs[ob]? =some [OW w,.aO d ab 0 2 w.rs.l.length 0]
 a:bs[ab]? =some (ff v o 0 w.rs.l.length)
 rest:∀i,j≤i→i<w.rs.l.length→v i=lE d (bi i) (ct w [] (i:Int))∧(ct w [] (i:Int)≠[]→bs[bi i]? =some (cm (ct w [] (i:Int))))
 done:∀i:Nat,i<j→xL w d ab bi j bs (v i) (c i)∧(c i).l=hU w plan set (i:Int)∧o i=lN plan set req (i:Int)
structure Lg (w:W) (ob ab:Nat) (bi:Nat→Nat):Prop where
 o0:0<ob
 a0:0<ab
 ao:ab<ob
 b0:∀i:Nat,i<w.rs.l.length→ct w [] (i:Int)≠[]→0<bi i∧bi i<ob∧bi i≠ab
 inj:∀i j:Nat,i<j→j<w.rs.l.length→ct w [] (i:Int)≠[]→bi i<bi j
theorem Nu {d ob ab:Nat} {bi:Nat→Nat} {plan:List P} {set:List Int} {req:Int} {j:Nat} {bs iy:List (List AV)} {v:Nat→AV} {o:Nat→Bool} {c:Nat→Sl P} {v':AV} {o':Bool} {c':Sl P} (hB:Lg w ob ab bi) (hj:j<w.rs.l.length) (h:zK w d ob ab bi plan set req j bs v o c)
  (ha:iy[ab]? =some (ff (fh v j v') (fh o j o') 0 w.rs.l.length)) (hk:∀q,q<bs.length→q≠ab→(ct w [] (j:Int)≠[]→q≠bi j)→iy[q]? =bs[q]?)
  (hv:xL w d ab bi (j+1) iy v' c') (hl:c'.l=hU w plan set (j:Int)) (ho:o'=lN plan set req (j:Int)):zK w d ob ab bi plan set req (j+1) iy (fh v j v') (fh o j o') (fh c j c'):=by
 have l0:=(bd.1 h.z).1
 have lo:=(bd.1 h.oo).1
 refine⟨?_,?_,ha,fun i h1 h2=>?_,fun i hi=>?_⟩
 ·rw[hk 0 l0 (by have:=hB.a0;omega) (fun aB=>by have:=(hB.b0 j hj aB).1;omega)];exact h.z
 ·rw[hk ob lo (by have:=hB.ao;omega) (fun aB=>by have:=(hB.b0 j hj aB).2.1;omega)];exact h.oo
 ·obtain⟨r1,r2⟩:=h.rest i (by omega) h2
  refine⟨by rw[xE (by omega)];exact r1,fun aB=>?_⟩
  have:=r2 aB
  rw[hk _ (bd.1 this).1 (hB.b0 i h2 aB).2.2 (fun hnj=>by have:=hB.inj j i (by omega) h2 hnj;omega)]
  exact this
 ·by_cases er:i=j
  ·subst er
   rw[G9,G9,G9]
   exact⟨hv,hl,ho⟩
  ·rw[xE er,xE er,xE er]
   obtain⟨d1,d2,d3⟩:=h.done i (by omega)
   refine⟨?_,d2,d3⟩
   obtain⟨e1,e2⟩|⟨b,cap,R,e1,e2,e3,e4,e5,e6⟩:=d1
   ·exact .inl ⟨e1,e2⟩
   ·refine .inr ⟨b,cap,R,e1,?_,e3,e4,e5,fun k nA iD=>e6 k (by omega) iD⟩
    rw[hk b (bd.1 e2).1 e5 (fun aB=>e6 j (aH _) hj aB)]
    exact e2
theorem ad7 {d ob ab : Nat} {bi : Nat → Nat} {plan : List P} {set : List Int} {req : Int} {j : Nat} {bs : List (List AV)} {tk : List (Option Nat)} {v : Nat → AV} {o : Nat → Bool} {c : Nat → Sl P} {ρ : Nat → AV} {op os : Own} {ep es : Nat} (hs : Ok s) (hw : Wk w) (hd : d = s.ag.length) (hB : Lg w ob ab bi) (hj : j < w.rs.l.length)
    (hp:oE plan) (qH:plan=[]∨ep=3) (dR:set=[]∨es=1) (sv:set.length≤100000)
    (h:zK w d ob ab bi plan set req j bs v o c) (g0:ρ 0=OW w) (g1:ρ 1=.slice op ep (plan.map aj)) (g2:ρ 2=.slice os es (set.map aD)) (g3:ρ 3=I req) (g8:ρ 8=.ptr d 0 0) (g9:ρ 9=.ptr d ob 0) (g19:ρ 19=I w.rs.l.length) (g20:ρ 20=I j):
    ∃ ρ' iy mj v' c', go AP uL (.c (.loop mo) :: vn) ⟨ρ, s.push ⟨bs, tk⟩⟩ = go AP uL (.c (.loop mo) :: vn) ⟨ρ', s.push ⟨iy, mj⟩⟩ ∧ (ρ' 0 = OW w ∧ ρ' 1 = .slice op ep (plan.map aj) ∧ ρ' 2 = .slice os es (set.map aD) ∧ ρ' 3 = I req ∧ ρ' 8 = .ptr d 0 0 ∧ ρ' 9 = .ptr d ob 0 ∧ ρ' 19 = I w.rs.l.length ∧ ρ' 20 = I ((j + 1 : Nat) : Int)) ∧
      zK w d ob ab bi plan set req (j+1) iy (fh v j v') (fh o j (lN plan set req (j:Int))) (fh c j c'):=by
  subst hd
  have et:=hw.v.rl
  have dI:∀m:ae,Ok m→aw AP (.fn 45) [.slice op ep (plan.map aj),I j] m=some (.tuple [.agg (aj ((aM plan (j:Int)).getD bV)),B (aM plan (j:Int)).isSome],m):=fun m hm=>GQ hm qH (by have:=hp.len;omega) fun p h=>(hp.ok p h).1
  have lS:∀m:ae,aw AP (.fn 62) [.slice os es (set.map aD),I j] m=some (B (vk set (j:Int)),m):=fun m=>Lc dR (by omega)
  generalize jF:(aM plan (j:Int)).getD bV=p at dI
  generalize u1:(aM plan (j:Int)).isSome=has at dI
  have jE:p.an.ok 1∧p.an.l.length≤1000∧(-1000000≤p.req∧p.req≤1000000)∧-1000000≤p.start∧p.start≤1000000:=by
    rw[←jF]
    cases hq:aM plan (j:Int)with
    |none=>exact⟨RJ,by decide,by decide,by decide⟩
    | some q =>
      have hm:=(QB hq).1
      exact⟨(hp.ok q hm).1,(hp.ok q hm).2,hp.b q hm⟩
  obtain⟨r1,r2⟩:=h.rest j (aH _) hj
  have avb:=lS
  have cz:=bK hj (show(w.rs.l.length:Int)<_ by omega)
  have u2:=Ks (d:=s.ag.length) (b:=ab) (es:=2) hj
  have fo:∀r,(bs++r)[ob]? =some [OW w,.aO s.ag.length ab 0 2 w.rs.l.length 0]:=fun r=>uE h.oo
  have fa:∀r,(bs++r)[ab]? =some (ff v o 0 w.rs.l.length):=fun r=>uE h.a
  have fg:=arN (v:=v) (o:=o) hj
  have avr:closeAll (aj p)=some (aj p):=by
    simp only[aj,mr,oI,pL,Sl.close jE.1];rfl
  simp only[aj,Sl.v]at dI
  have Ps:∀x,BW plan (j:Int) x=(has&&decide (kB x p=0)):=fun x=>by unfold BW;rw[jF,u1]
  cases bH:vk set (j:Int)with
  | true =>
    rw[bH]at lS
    have yV:hU w plan set (j:Int)=(ct w [] (j:Int)).filter fun x=>!(has&&decide (kB x p=0)):=by
      unfold hU
      rw[ak bH]
      refine Hj fun x _=>?_
      rw[Ps]
    have FC:lN plan set req (j:Int)=(has&&!decide ((j:Int)=req)):=by
      unfold lN;rw[ak bH,u1]
    have hq : ∃ (v' : AV) (iy : List (List AV)) (c' : Sl P), oG (aw AP) (s.push ⟨bs ++ [aj p, [B has]], tk⟩) (.fn 63) [v j, .fn 61 [] [.ptr s.ag.length (bs.length + 1) 0, .ptr s.ag.length bs.length 0]] [(false, 1, .ptr s.ag.length (bs.length + 1) 0)] = some (v', s.push ⟨iy, tk⟩) ∧
        (∀q,(ct w [] (j:Int)≠[]→q≠bi j)→iy[q]? =(bs++[aj p,[B has]])[q]?)∧c'.l=hU w plan set (j:Int)∧
        ((v'=.slice .aA 0 []∧c'=⟨.aA,0,[]⟩)∨∃cap R,ct w [] (j:Int)≠[]∧v'=.aO s.ag.length (bi j) 0 3 c'.l.length cap∧iy[bi j]? =some (cm (c'.l++R))∧(∀p∈c'.l++R,p.an.ok 1)∧c'=⟨.any,3,c'.l⟩):=by
      by_cases hl:ct w [] (j:Int)=[]
      · refine ⟨.slice .aA 0 [], bs ++ [aj p, [B has]], ⟨.aA, 0, []⟩, ?_, fun q _ => rfl, by rw [yV, hl]; rfl, .inl ⟨rfl, rfl⟩⟩
        rw[r1,hl]
        exact Uy atM fun q _=>rfl
      · have hbj := uE (r := [aj p, [B has]]) (r2 hl)
        have cw:=(bd.1 (r2 hl)).1
        have ze:0<(ct w [] (j:Int)).length:=Ci.2 hl
        have r9:(ct w [] (j:Int)).length<1000000:=by
          have h1:=BP hw (i:=(j:Int)) (by omega) (by omega)
          have h2:(ct w [] (j:Int)).length≤(dT w (j:Int)).length:=nO _ _
          omega
        have hX:=ad1 hs (bs:=bs++[aj p,[B has]]) (tk:=tk) (b:=bi j) (by rw[cj];omega)
        have gg:∀row,((bs++[aj p,[B has]]).set (bi j) row)[bs.length]? =some (aj p):=fun row=>by rw[eJ (by omega)];simp
        have jB:∀row,((bs++[aj p,[B has]]).set (bi j) row)[bs.length+1]? =some [B has]:=fun row=>by rw[eJ (by omega)];simp
        have aim:=atL (l:=ct w [] (j:Int)) (g:=61) (caps:=[.ptr s.ag.length (bs.length+1) 0,.ptr s.ag.length bs.length 0]) (f:=fun x=>has&&decide (kB x p=0)) hX r9 ze (KO hw hj)
          (fun x hx row q=>by
            obtain⟨q1,q2,q3,q4⟩:=QI hw hj hx
            exact aa5 ((hs.push _).push _) (eP (by rw[iw];exact jB row) _) (eP (by rw[iw];exact gg row) _) q1 jE.1 q2 jE.2.1 q3 jE.2.2.1 q4 jE.2.2.2)
          (fun x hx row q q'=>by
            obtain⟨q1,q2,q3,q4⟩:=QI hw hj hx
            exact aa5 (((hs.push _).push _).push _) (eP (eP (by rw[iw];exact jB row) _) _) (eP (eP (by rw[iw];exact gg row) _) _) q1 jE.1 q2 jE.2.1 q3 jE.2.2.1 q4 jE.2.2.2)
        obtain⟨cap,R,e1,e2,_⟩:=aim
        rw[←yV]at e1
        simp only[GU hbj]at e1
        refine⟨_,(bs++[aj p,[B has]]).set (bi j) (cm (hU w plan set (j:Int)++R)),⟨.any,3,hU w plan set (j:Int)⟩,?_,fun q hq=>by rw[eJ (fun e=>hq hl e.symm)],rfl,.inr ⟨cap,R,hl,rfl,?_,?_,rfl⟩⟩
        · rw [r1]
          unfold lE
          rw[aq hl]
          refine Uy e1 fun q hq=>?_
          rw[eK.1 hq]
          simp only[ae.load,ae.row,iw,jB]
          have:(bs++[aj p,[B has]])[bs.length+1]? =some [B has]:=by simp
          rw[this]
        · rw[ml (by rw[cj];omega)]
        · intro x hx
          rcases dD.1 hx with hx|hx
          · rw [yV] at hx
            exact KO hw hj x (eT.1 hx).1
          · exact e2 x hx
    obtain⟨v',iy,c',hq,y3,aT,FF⟩:=hq
    have Cv:iy[ab]? =some (ff v o 0 w.rs.l.length):=by rw[y3 ab (fun hl=>fun e=>(hB.b0 j hj hl).2.2 e.symm)];exact fa _
    have WC:=(bd.1 Cv).1
    have JR:iy[bs.length+1]? =some [B has]:=by
      rw[y3 _ (fun hl e=>by have:=(bd.1 (r2 hl)).1;omega)];simp
    have s0:=Q5 (v:=v) (o:=o) (x:=v') hj
    have s1:=Q6 (v:=fh v j v') (o:=o) (t:=has&&!decide ((j:Int)=req)) hj
    have HL:∀r,(iy.set ab r)[ab]? =some r:=fun r=>ml WC
    have fS:∃ρ',go AP uL (.c (.loop mo)::vn) ⟨ρ,s.push ⟨bs,tk⟩⟩=go AP uL (.c (.loop mo)::vn) ⟨ρ',s.push ⟨iy.set ab (ff (fh v j v') (fh o j (has&&!decide ((j:Int)=req))) 0 w.rs.l.length),tk⟩⟩∧(ρ' 0=OW w∧ρ' 1=.slice op ep (plan.map aj)∧ρ' 2=.slice os es (set.map aD)∧ρ' 3=I req∧ρ' 8=.ptr s.ag.length 0 0∧ρ' 9=.ptr s.ag.length ob 0∧ρ' 19=I w.rs.l.length∧ρ' 20=I ((j+1:Nat):Int)):=by
      rw[go_loop]
      simp only[OW,aj,Sl.v]at g0 fo hq⊢
      generalize ff (fh v j v') (fh o j (has&&!decide ((j:Int)=req))) 0 w.rs.l.length=Z2 at*
      generalize ff (fh v j v') o 0 w.rs.l.length=Z1 at*
      have aB:decide (¬(j:Int)=req)=!decide ((j:Int)=req):=by simp
      have XF:v'=.slice .aA 0 []∨∃n cap,v'=.aO s.ag.length (bi j) 0 3 n cap:=by
        rcases FF with⟨e,_⟩|⟨cap,R,_,e,_⟩
        · exact .inl e
        · exact .inr ⟨_,cap,e⟩
      cases has with
      | true =>
        simp only[iu]at s1
        obtain rfl|⟨n,cap,rfl⟩:=XF
        · simp only [go_sem, mo, g1, g2, g3, g9, g19, g20, hs, aS hj, dI, lS, cz, fo, fa, fg, u2, at_len, rE, qW, mU, rj, gX, hq, JR, Cv, s0, s1, HL, zS, aY, aB, iu, simprocAttr]
          refine⟨_,rfl,?_⟩
          exact⟨g0,g1,g2,g3,g8,g9,g19,rfl⟩
        · simp only [go_sem, mo, g1, g2, g3, g9, g19, g20, hs, aS hj, dI, lS, cz, fo, fa, fg, u2, at_len, rE, qW, mU, rj, gX, hq, JR, Cv, s0, s1, HL, zS, aY, aB, iu, simprocAttr]
          refine⟨_,rfl,?_⟩
          exact⟨g0,g1,g2,g3,g8,g9,g19,rfl⟩
      | false =>
        simp only[jM]at s1
        obtain rfl|⟨n,cap,rfl⟩:=XF
        · simp only [go_sem, mo, g1, g2, g9, g19, g20, hs, aS hj, dI, lS, cz, fo, fa, fg, u2, at_len, rE, qW, mU, rj, gX, hq, JR, Cv, s0, s1, HL, zS, simprocAttr]
          refine⟨_,rfl,?_⟩
          exact⟨g0,g1,g2,g3,g8,g9,g19,rfl⟩
        · simp only [go_sem, mo, g1, g2, g9, g19, g20, hs, aS hj, dI, lS, cz, fo, fa, fg, u2, at_len, rE, qW, mU, rj, gX, hq, JR, Cv, s0, s1, HL, zS, simprocAttr]
          refine⟨_,rfl,?_⟩
          exact⟨g0,g1,g2,g3,g8,g9,g19,rfl⟩
    obtain⟨ρ',e1,e2⟩:=fS
    rw[←FC]at e1
    refine⟨ρ',_,tk,v',c',e1,e2,Nu hB hj h (by rw[ml WC]) (fun q hq sn zf=>?_) ?_ aT rfl⟩
    · rw[eJ (fun e=>sn e.symm),y3 q zf,dC hq]
    · rcases FF with ⟨h1, h2⟩ | ⟨cap, R, h1, h2, h3, h4, h5⟩
      · exact .inl ⟨h1,h2⟩
      · refine .inr ⟨bi j, cap, R, h2, ?_, h4, h5, (hB.b0 j hj h1).2.2, fun k nA iD _ => by have := hB.inj j k (by omega) iD h1; omega⟩
        rw[eJ (fun e=>(hB.b0 j hj h1).2.2 e.symm)]
        exact h3
  | false =>
    rw[bH]at lS
    have gK:=(bd.1 h.a).1
    have VK:∀(r:List AV) (t:List (List AV)),((bs++t).set ab r)[ab]? =some r:=fun r t=>ml (by rw[cj];omega)
    have aB:decide (¬(j:Int)=req)=!decide ((j:Int)=req):=by simp
    cases hh:has with
    | true =>
      rw[hh]at dI u1
      obtain⟨p',u6⟩:=oD.1 u1
      have ajC:p'=p:=by rw[←jF,u6];rfl
      subst ajC
      have yV:hU w plan set (j:Int)=[p']:=by
        unfold hU;rw[bH,aq (by simp),u6];rfl
      have FC:lN plan set req (j:Int)=false:=by
        unfold lN;rw[bH,aq (by simp),u1];rfl
      have qM:rh (s.push ⟨bs++[aj p',[B true]],tk⟩) 3 (.agg (aj p'))=some (.aO s.ag.length (bs.length+1+1) 0 3 1 1,s.push ⟨bs++[aj p',[B true],aj p'],tk⟩):=by
        have:=QX (s:=s) (bs:=bs++[aj p',[B true]]) (tk:=tk) (cs:=aj p') (es:=3) rfl (by decide)
        rw[BD,gX]at this
        exact this
      have s0:=Q5 (v:=v) (o:=o) (x:=.aO s.ag.length (bs.length+1+1) 0 3 1 1) hj
      have s1:=Q6 (v:=fh v j (.aO s.ag.length (bs.length+1+1) 0 3 1 1)) (o:=o) (t:=false) hj
      have fS:∃ρ',go AP uL (.c (.loop mo)::vn) ⟨ρ,s.push ⟨bs,tk⟩⟩=go AP uL (.c (.loop mo)::vn) ⟨ρ',s.push ⟨(bs++[aj p',[B true],aj p']).set ab (ff (fh v j (.aO s.ag.length (bs.length+1+1) 0 3 1 1)) (fh o j false) 0 w.rs.l.length),tk⟩⟩∧(ρ' 0=OW w∧ρ' 1=.slice op ep (plan.map aj)∧ρ' 2=.slice os es (set.map aD)∧ρ' 3=I req∧ρ' 8=.ptr s.ag.length 0 0∧ρ' 9=.ptr s.ag.length ob 0∧ρ' 19=I w.rs.l.length∧ρ' 20=I ((j+1:Nat):Int)):=by
        rw[go_loop]
        simp only[OW,aj,Sl.v]at g0 fo qM⊢
        generalize ff (fh v j (.aO s.ag.length (bs.length+1+1) 0 3 1 1)) (fh o j false) 0 w.rs.l.length=Z2 at*
        generalize ff (fh v j (.aO s.ag.length (bs.length+1+1) 0 3 1 1)) o 0 w.rs.l.length=Z1 at*
        simp only[go_sem,mo,g1,g2,g9,g19,g20,hs,aS hj,dI,lS,cz,fo,fa,VK,u2,at_len,rE,qW,mU,rj,gX,qM,s0,s1,zS,simprocAttr]
        refine⟨_,rfl,?_⟩
        exact⟨g0,g1,g2,g3,g8,g9,g19,rfl⟩
      obtain⟨ρ',e1,e2⟩:=fS
      rw[←FC]at e1
      refine⟨ρ',_,tk,_,⟨.any,3,[p']⟩,e1,e2,Nu hB hj h (by rw[ml (by rw[cj];omega)]) (fun q hq sn zf=>?_) ?_ yV.symm rfl⟩
      · rw[eJ (fun e=>sn e.symm),dC hq]
      · refine .inr ⟨bs.length + 1 + 1, 1, [], rfl, ?_, fun x hx => ?_, rfl, by omega, fun k nA iD O4 => ?_⟩
        · rw [eJ (by omega), gE (by omega), show bs.length + 1 + 1 - bs.length = 2 by omega]
          simp[cm]
        · rw [je, eK] at hx
          rw[hx];exact jE.1
        · have := (bd.1 ((h.rest k (by omega) iD).2 O4)).1
          omega
    | false =>
      rw[hh]at dI u1
      have F9:aM plan (j:Int)=none:=by
        cases hq:aM plan (j:Int)with
        |none=>rfl
        |some q=>rw[hq]at u1;simp at u1
      have yV:hU w plan set (j:Int)=[]:=by
        unfold hU;rw[bH,aq (by simp),F9];rfl
      have FC:lN plan set req (j:Int)=!decide ((j:Int)=req):=by
        unfold lN;rw[bH,aq (by simp),u1];rfl
      have s0:=Q5 (v:=v) (o:=o) (x:=.slice .aA 0 []) hj
      have s1:=Q6 (v:=fh v j (.slice .aA 0 [])) (o:=o) (t:=!decide ((j:Int)=req)) hj
      have fS:∃ρ',go AP uL (.c (.loop mo)::vn) ⟨ρ,s.push ⟨bs,tk⟩⟩=go AP uL (.c (.loop mo)::vn) ⟨ρ',s.push ⟨(bs++[aj p,[B false]]).set ab (ff (fh v j (.slice .aA 0 [])) (fh o j (!decide ((j:Int)=req))) 0 w.rs.l.length),tk⟩⟩∧(ρ' 0=OW w∧ρ' 1=.slice op ep (plan.map aj)∧ρ' 2=.slice os es (set.map aD)∧ρ' 3=I req∧ρ' 8=.ptr s.ag.length 0 0∧ρ' 9=.ptr s.ag.length ob 0∧ρ' 19=I w.rs.l.length∧ρ' 20=I ((j+1:Nat):Int)):=by
        rw[go_loop]
        simp only[OW,aj,Sl.v]at g0 fo⊢
        generalize ff (fh v j (.slice .aA 0 [])) (fh o j (!decide ((j:Int)=req))) 0 w.rs.l.length=Z2 at*
        generalize ff (fh v j (.slice .aA 0 [])) o 0 w.rs.l.length=Z1 at*
        simp only[go_sem,mo,g1,g2,g3,g9,g19,g20,hs,aS hj,dI,lS,cz,fo,fa,VK,u2,at_len,rE,qW,mU,rj,gX,s0,s1,zS,aY,aB,simprocAttr]
        refine⟨_,rfl,?_⟩
        exact⟨g0,g1,g2,g3,g8,g9,g19,rfl⟩
      obtain⟨ρ',e1,e2⟩:=fS
      rw[←FC]at e1
      refine⟨ρ',_,tk,_,⟨.aA,0,[]⟩,e1,e2,Nu hB hj h (by rw[ml (by rw[cj];omega)]) (fun q hq sn zf=>?_) (.inl ⟨rfl,rfl⟩) yV.symm rfl⟩
      rw[eJ (fun e=>sn e.symm),dC hq]
end
section
variable{s:ae} {w:W}
structure xK (w:W) (plan:List P) (set:List Int) (req:Int) (all:List (Sl P×Bool)):Prop where
 len:all.length=w.rs.l.length
 get:∀i:Nat,i<w.rs.l.length→∃c:Sl P,all[i]? =some (c,lN plan set req (i:Int))∧c.l=hU w plan set (i:Int)∧c.ok 3
theorem xL.ok {d ab:Nat} {bi:Nat→Nat} {j:Nat} {bs:List (List AV)} {v:AV} {c:Sl P} (h:xL w d ab bi j bs v c):c.ok 3:=by
 obtain⟨_,e⟩|⟨b,cap,R,_,_,_,e,_⟩:=h
 ·rw[e];exact⟨.inl rfl,.inr (.inr ⟨rfl,rfl⟩)⟩
 ·rw[e];exact⟨.inr rfl,.inl rfl⟩
theorem atg {plan:List P} {set:List Int} {req:Int} {op os:Own} {ep es:Nat} (hs:Ok s) (hw:Wk w) (hN:0<w.rs.l.length) (hp:oE plan) (qH:plan=[]∨ep=3) (dR:set=[]∨es=1) (sv:set.length≤100000):
  ∃all,aw AP (.fn 33) [OW w,.slice op ep (plan.map aj),.slice os es (set.map aD),I req] s=some (CH w .any 2 all,s)∧xK w plan set req all:=by
 obtain⟨ρ0,wh,tk0,x,bi,f1,f2,f3,f4,f5⟩:=V7 (F:=fun e st=>match e with|.exit _=>none|_=>(tU st [.cell true 2 2]).map fun l=>(packed l,st.sig)) (bs:=[[NP,.slice .aA 0 []]]) (tk:=[]) hs hw
 obtain⟨g1,_⟩|⟨_,ab,gK,rfl⟩:=f4.gx
 ·omega
 simp only[dP,iL,fC]at f2 f3 f5 f4
 have jA:wh[0]? =some [NP,.slice .aA 0 []]:=by rw[f5 0 (by omega)];rfl
 have hi:aw AP (.inl 44) [OW w] (s.push ⟨[[NP,.slice .aA 0 []]],[]⟩)=some (.agg [OW w,.aO s.ag.length ab 0 2 w.rs.l.length 0],s.push ⟨wh,tk0⟩):=by
  rw[ady (show AP 44=some Au from rfl) rfl (by have:=hs.ro;rw[LO];show s.ro<_;omega)]
  refine f1.trans ?_
  have hl:(s.push ⟨wh,tk0⟩).load true 2 (.ptr s.ag.length 1 0)=some (.agg [OW w,.aO s.ag.length ab 0 2 w.rs.l.length 0]):=by
   simp only[ae.load,ae.row,iw,f3,dK,eL,part,bB,dP,iL]
   rfl
  simp only[tU,sK,f2,hl,dK,packed]
 have ahV:=(bd.1 gK).1
 have hB:Lg w wh.length ab bi:=by
  refine⟨by have:=(bd.1 jA).1;omega,by have:=(f4.own ab _ _ rfl).1;omega,ahV,fun i hi aB=>?_,f4.inj⟩
  obtain⟨q1,q2⟩:=f4.box i hi aB
  exact⟨by omega,(bd.1 q1).1,(f4.own ab _ _ rfl).2 i hi aB⟩
 have key : ∀ (k j : Nat) ρ bs tk v o c, k = w.rs.l.length - j → j ≤ w.rs.l.length → zK w s.ag.length wh.length ab bi plan set req j bs v o c → (ρ 0 = OW w ∧ ρ 1 = .slice op ep (plan.map aj) ∧ ρ 2 = .slice os es (set.map aD) ∧ ρ 3 = I req ∧ ρ 8 = .ptr s.ag.length 0 0 ∧ ρ 9 = .ptr s.ag.length wh.length 0 ∧ ρ 19 = I w.rs.l.length ∧ ρ 20 = I j) →
   ∃all,go AP uL (.c (.loop mo)::vn) ⟨ρ,s.push ⟨bs,tk⟩⟩=some (CH w .any 2 all,s)∧xK w plan set req all:=by
  intro k
  induction k with
  | zero =>
   rintro j ρ bs tk v o c hk hj hI ⟨g0,g1,g2,g3,g8,g9,g19,g20⟩
   obtain rfl:j=w.rs.l.length:=by omega
   have lz:=(bd.1 hI.z).1
   have Kh:∀r:List AV,(bs.set 0 r)[ab]? =bs[ab]? :=fun r=>eJ (by have:=hB.a0;omega)
   have dc:=an0 (s:=s) (bs:=bs.set 0 [OW w,.aO s.ag.length ab 0 2 w.rs.l.length 0]) (tk:=tk) (o:=o) (c:=c) (by rw[Kh];exact hI.a) (fun i hi=>by
    obtain⟨d1,_,_⟩:=hI.done i hi
    refine xL.deep (w:=w) (ab:=ab) (bi:=bi) (j:=w.rs.l.length) ?_
    obtain⟨e1,e2⟩|⟨b,cap,R,e1,e2,e3⟩:=d1
    ·exact .inl ⟨e1,e2⟩
    ·by_cases hb:b=0
     ·exfalso
      subst hb
      rw[hI.z]at e2
      injection e2 with e2
      have:=hY List.length e2
      rw[nj]at this
      simp at this
      omega
     ·exact .inr ⟨b,cap,R,e1,by rw[eJ (by omega)];exact e2,e3⟩)
   refine⟨(List.range w.rs.l.length).map fun i=>(c i,o i),?_,⟨by simp,fun i hi=>?_⟩⟩
   ·have dS:=hI.oo
    have hz:=hI.z
    have h00:∀r:List AV,(bs.set 0 r)[0]? =some r:=fun r=>ml lz
    rw[go_loop]
    simp only[CH,OW]at dS dc⊢
    generalize((List.range w.rs.l.length).map fun i=>(c i,o i)).map gn=Z at*
    simp only[Sl.v]at dS dc⊢
    simp only[go_sem,mo,MX,g8,g9,g19,g20,hs,bM,dS,hz,h00,dc,P8,simprocAttr]
   ·obtain⟨d1,d2,d3⟩:=hI.done i hi
    refine⟨c i,?_,d2,d1.ok⟩
    rw[jf,Ho hi,←d3];rfl
  |succ k ih=>
   rintro j ρ bs tk v o c hk hj hI ⟨g0,g1,g2,g3,g8,g9,g19,g20⟩
   obtain⟨ρ',iy,mj,v',c',e1,e2,e3⟩:=ad7 (tk:=tk) hs hw rfl hB (by omega) hp qH dR sv hI g0 g1 g2 g3 g8 g9 g19 g20
   rw[e1]
   exact ih (j+1) ρ' iy mj _ _ _ (by omega) (by omega) e3 e2
 have Gj:zK w s.ag.length wh.length ab bi plan set req 0 (wh++[[OW w,.aO s.ag.length ab 0 2 w.rs.l.length 0]]) (fun i=>lE s.ag.length (bi i) (ct w [] (i:Int))) (fun _=>true) (fun _=>⟨.aA,0,[]⟩):=by
  refine⟨uE jA,by simp,by rw[←arL];exact uE gK,fun i _ hi=>⟨rfl,fun aB=>uE (f4.box i hi aB).1⟩,fun i hi=>absurd hi (da _)⟩
 have JV:=key w.rs.l.length 0
 rw[aL (show AP 33=some Ex from rfl) rfl]
 simp only[OW,Sl.v]at hi JV Gj⊢
 simp only[go_sem,TM,hs,hi,at_len,mU,Gz,simprocAttr]
 refine JV _ _ _ _ _ _ rfl (bg _) Gj ?_
 exact⟨rfl,rfl,rfl,rfl,rfl,rfl,rfl,rfl⟩
end
end Go.Ax.Sx.Sc
