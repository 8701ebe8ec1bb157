/- A part of the proof. -/
import Derived.Test.YtplkfafeoocmlaaGreatDoorT9
set_option linter.unusedSimpArgs false
set_option linter.unusedVariables false
set_option maxRecDepth 100000
namespace Go.Ax.Sx.Sc
open Go.Ax
section
variable{s:ae} {w:W}
theorem aaP (hs:Ok s) (hw:w.Ok) (hf:w.ju):au AP (.fn 6) [w.v] s=some (I (eO w),s):=by
 have jo:∀r,au AP (.fn 24) [w.v] (s.push r)=some (I (de w).2.2,s.push r):=fun r=>aaQ (hs.push r) hw hf
 simp only[W.v,cJ,Sl.v]at jo
 unfold eO
 by_cases h0:(de w).2.2=0
 ·rw [ak h0]
  have bW:Wk w:=⟨hw,hf,pL h0⟩
  have dJ:=bW.v.rl
  have h6:decide ((6:Int)<(w.rs.l.length:Int))=!decide (w.rs.l.length≤6):=pW (by omega)
  have key:∀(k:Nat) ρ m,k≤w.rs.l.length→(ρ 1=.ptr s.ag.length 0 0∧ρ 4=I k∧∃bx,m=s.push ⟨cJ w::bx,[]⟩)→
    go AP agq (.c (.loop Dn)::anz) ⟨ρ,m⟩=some (I (cond ((w.rs.l.drop k).any fun r=>decide (8<r.hi-r.lo+2-r.len)) 8 0),s):=by
   refine cq _ _ _ ?_ ?_
   ·rintro k ρ m hk ⟨g1,g4,bx,rfl⟩ ih
    obtain⟨q,hq⟩:=get_some hk
    have cC:=Sl.ix (f:=bO) hw.rs hq
    have zw:=bW.v.r q (bU hq)
    have a1:=zw.sN
    have a2:=zw.bh
    have a3:=zw.Cg
    have a4:=zw.rA
    have a5:=zw.qn
    have a6:=bW.v.n2
    have w1:IntKind.i64.wrap (IntKind.i64.wrap (IntKind.i64.wrap (IntKind.i64.wrap (q.hi-q.lo)+1)-q.len)+1)=q.hi-q.lo+2-q.len:=by
     rw[ch (x:=q.hi-q.lo) (by omega) (by omega),ch (x:=q.hi-q.lo+1) (by omega) (by omega),ch (x:=q.hi-q.lo+1-q.len) (by omega) (by omega),ch (by omega) (by omega)];omega
    simp only[bO,Sl.v]at cC
    rw[eR hq,nr]
    cases hd:decide (8<q.hi-q.lo+2-q.len)with
    |true=>simp only[go_sem,Dn,g1,g4,hs,aS hk,cC,w1,hd,Ah,simprocAttr]
    |false=>
     simp only[go_sem,Dn,g1,g4,hs,aS hk,cC,w1,hd,bK hk (show(w.rs.l.length:Int)<_ by omega),simprocAttr]
     rw[l4]
     refine ih _ _ ?_
     exact⟨g1,rfl,_,rfl⟩
   ·rintro ρ m ⟨g1,g4,bx,rfl⟩
    simp only[go_sem,Dn,Nc,g1,g4,bN,simprocAttr]
    rw[eZ];rfl
  rw[aM (show AP 6=some A7 from rfl) rfl]
  unfold uo
  cases hd:decide (w.rs.l.length≤6)with
  |false=>simp only[go_sem,IF,jo,h0,h6,hd,bn,eW,nY,kn,simprocAttr]
  | true =>
   simp only[go_sem,IF,jo,h0,h6,hd,bn,eW,nZ,simprocAttr]
   refine x9 (key 0 _ _ (bp _) ?_) ?_
   ·exact⟨rfl,rfl,[],rfl⟩
   ·rw[ko]
    cases(w.rs.l.any fun r=>decide (8<r.hi-r.lo+2-r.len))<;>rfl
 ·rw[aq h0]
  rw[aM (show AP 6=some A7 from rfl) rfl]
  simp only[go_sem,IF,jo,h0,bn,iC,simprocAttr]
end
section
variable{s:ae} {w:W}
end
section
variable{s:ae} {w:W}
def CG (w:W) (most:Int):Nat→Nat→Int→Int
 |_,0,n=>n
 |i,k+1,n=>if n≤most then CG w most (i+1) k (n*(1+(dA w (i:Int)).length))else n
theorem asb (hs:Ok s) (hw:Wk w):au AP (.fn 23) [w.v,I 2000] s=some (I (CG w 2000 0 w.rs.l.length 1),s):=by
 have dJ:=hw.v.rl
 have key:∀(k:Nat) (i:Nat) (n:Int) ρ m,i+k=w.rs.l.length→(ρ 1=I 2000∧ρ 2=.ptr s.ag.length 0 0∧ρ 5=I n∧ρ 6=I i∧1≤n∧m=s.push ⟨[cJ w],[]⟩)→
   go AP agr (.c (.loop Dp)::anA) ⟨ρ,m⟩=some (I (CG w 2000 i k n),s):=by
  intro k
  induction k with
  |zero=>
   rintro i n ρ m hk ⟨g1,g2,g5,g6,hn,rfl⟩
   have hi:i=w.rs.l.length:=by omega
   subst hi
   rw[go_loop]
   simp only[go_sem,Dp,IG,g2,g5,g6,bN,simprocAttr]
   rfl
  | succ k ih =>
   rintro i n ρ m hk ⟨g1,g2,g5,g6,hn,rfl⟩
   have qY:=z7 hw (i:=(i:Int)) (by omega) (by omega)
   have dP:∀r,au AP (.fn 45) [w.v,I i] (s.push r)=some (aU 3 (((dA w i).map (iW (w.rq i).need.toNat)).map aj),s.push r):=fun r=>aaO (hs.push r) hw (by omega) (by omega)
   have xv:ld false (aU 3 (((dA w i).map (iW (w.rq i).need.toNat)).map aj))=some (I (dA w i).length):=by rw[K0,bR,bR]
   simp only[W.v,cJ,Sl.v]at dP
   rw[go_loop]
   simp only[CG]
   by_cases hle:n≤2000
   ·rw[ak hle]
    have hb:n*(1+((dA w i).length:Int))≤2000*13001:=by
     refine Int.le_trans (S2 hle (by omega)) ?_
     omega
    have nI:1≤n*(1+((dA w i).length:Int)):=by
     have:=Int.mul_pos (show(0:Int)<n by omega) (show(0:Int)<1+((dA w i).length:Int)by omega)
     omega
    have w1:IntKind.i64.wrap (1+((dA w i).length:Int))=1+((dA w i).length:Int):=ch (by omega) (by omega)
    have w2:IntKind.i64.wrap (n*(1+((dA w i).length:Int)))=n*(1+((dA w i).length:Int)):=ch (by omega) (by omega)
    have d1:decide ((i:Int)<(w.rs.l.length:Int))=true:=by simp;omega
    have d2:decide (n≤2000)=true:=by simpa using hle
    have w3:IntKind.i64.wrap ((i:Int)+1)=((i+1:Nat):Int):=by rw[ch (by omega) (by omega)];omega
    simp only[go_sem,Dp,g1,g2,g5,g6,d1,d2,dP,xv,w1,w2,w3,simprocAttr]
    refine ih (i+1) _ _ _ (by omega) ?_
    exact⟨g1,g2,rfl,rfl,nI,rfl⟩
   ·rw[aq hle]
    have d1:decide ((i:Int)<(w.rs.l.length:Int))=true:=by simp;omega
    have d2:decide (n≤2000)=false:=by simp;omega
    simp only[go_sem,Dp,IG,g1,g2,g5,g6,d1,d2,simprocAttr]
 rw[aM (show AP 23=some Em from rfl) rfl]
 simp only[go_sem,Un,simprocAttr]
 refine key w.rs.l.length 0 1 _ _ (by omega) ?_
 exact⟨rfl,rfl,rfl,rfl,by omega,rfl⟩
end
section
variable{s:ae} {w:W}
def G6 (w:W):Bool:=yU w&&(decide (¬eO w=0)||decide (CG w 2000 0 w.rs.l.length 1≤2000))
theorem Ae {w:W} (h:eO w=0):(de w).2.2=0:=by
 unfold eO at h
 by_cases h0:(de w).2.2=0
 ·exact h0
 ·rw[aq h0]at h;exact h
theorem aoq (hs:Ok s) (hw:w.Ok) (hb:w.HA):au AP (.fn 5) [w.v] s=some (B (G6 w),s):=by
 have qd:∀r,au AP (.fn 22) [w.v] (s.push r)=some (B (yU w),s.push r):=fun r=>aoo (hs.push r) hw hb
 simp only[W.v,cJ,Sl.v]at qd
 unfold G6
 cases hf:yU w with
 |false=>
  rw[aM (show AP 5=some yJ from rfl) rfl]
  simp only[go_sem,Iw,qd,hf,kn,simprocAttr]
 | true =>
  have hF:=WL hf
  have qi:∀r,au AP (.fn 6) [w.v] (s.push r)=some (I (eO w),s.push r):=fun r=>aaP (hs.push r) hw hF
  simp only[W.v,cJ,Sl.v]at qi
  by_cases h0:eO w=0
  ·have bW:Wk w:=⟨hw,hF,pL (Ae h0)⟩
   have nR:∀r,au AP (.fn 23) [w.v,I 2000] (s.push r)=some (I (CG w 2000 0 w.rs.l.length 1),s.push r):=fun r=>asb (hs.push r) bW
   simp only[W.v,cJ,Sl.v]at nR
   rw[h0]at qi
   rw[aM (show AP 5=some yJ from rfl) rfl]
   simp only[go_sem,Iw,qd,hf,qi,nR,h0,bn,eW,ia,l4,tB,simprocAttr]
  ·have hd:decide (¬eO w=0)=true:=by simp[h0]
   rw[aM (show AP 5=some yJ from rfl) rfl]
   simp only[go_sem,Iw,qd,hf,qi,hd,bn,ia,Ah,simprocAttr]
end
section
variable{s:ae} {w:W}
def AG (d es:Nat) (xs:List (List AV)) (x:AV) (tk:List (Option Nat)):Prop:=
 x=.slice .full es xs∨∃g,x=.slice (.tok d g) es xs∧tk[g]? =some (some xs.length)
theorem AG.sl {d es:Nat} {xs:List (List AV)} {x:AV} {tk:List (Option Nat)} (h:AG d es xs x tk):∃o,x=.slice o es xs:=by
 rcases h with h|⟨g,h,_⟩
 ·exact⟨_,h⟩
 ·exact⟨_,h⟩
theorem AG.ext {d es:Nat} {xs:List (List AV)} {x:AV} {tk tk':List (Option Nat)} (h:AG d es xs x tk) (hx:∀(g:Nat) (n:Option Nat),tk[g]? =some n→tk'[g]? =some n):AG d es xs x tk':=by
 rcases h with h|⟨g,h,hg⟩
 ·exact .inl h
 ·exact .inr ⟨g,h,hx _ _ hg⟩
theorem AG.append {es:Nat} {xs:List (List AV)} {x:AV} {tk:List (Option Nat)} (h:AG s.ag.length es xs x tk) (hs:Ok s) (o:Own) {ys:List (List AV)} (hy:ys≠[]) (hl:xs.length+ys.length≤4294967296):
  ∃x' tk',(∀bx,eI (s.push ⟨bx,tk⟩) es x (.slice o es ys)=some (x',s.push ⟨bx,tk'⟩))∧AG s.ag.length es (xs++ys) x' tk':=by
 have sH:ys.isEmpty=false:=by cases ys<;>simp_all
 rcases h with rfl|⟨g,rfl,hg⟩
 ·refine⟨.slice (.tok s.ag.length tk.length) es (xs++ys),tk++[some (xs.length+ys.length)],fun bx=>?_,.inr ⟨tk.length,rfl,by simp⟩⟩
  simp[eI,sH,Own.isNil,most,hl,qu,oS,fP]
 ·refine⟨.slice (.tok s.ag.length g) es (xs++ys),tk.set g (some (xs.length+ys.length)),fun bx=>?_,.inr ⟨g,rfl,?_⟩⟩
  ·simp[eI,sH,most,hl,CB,hg,R5,hs.ro,LD]
  ·rw[mL (bd.1 hg).1];simp
end
section
variable{s:ae} {w:W}
theorem aaB {rq:List Int}:∀{k i:Nat} {l:List P},lV w rq i k l≠[]
 |0,_,_=>by simp[lV]
 |k+1,i,l=>by
  simp only[lV]
  intro h
  exact aaB (L4.1 h).1
theorem VW {p:P}:∀{l:List P},cK w p (l.map cP)=cK w p l
 |[]=>rfl
 |x::r=>by
  have h:=VW (p:=p) (l:=r)
  unfold cK at*
  rw[iH,nr,nr,h];rfl
theorem aru {l:List P} {i:Int}:bS w (l.map cP) i=bS w l i:=by
 unfold bS
 simp only[VW]
structure TF (w:W) (y:Sl P):Prop where
 ok:y.ok 3
 pl:jO y.l
 iD:∀p∈y.l,bZ w p
theorem aqY {Q:ae} {R:Rec} {es:Nat} {xs:List (List AV)}:kI (Q.push R) (.slice .full es xs)=some (.slice .full es xs,Q):=by
 show some (_,(Q.push R).pop)=_
 rw[pop_push]
theorem AG.own {Q:ae} {bx:List (List AV)} {tk:List (Option Nat)} {B:List (List AV)} {es:Nat} {xs:List (List AV)} {x:AV} {vU:List (Option Nat)} (hQ:Ok Q) (h:AG (Q.ag.length+1) es xs x vU):
  ∃x' tk',kI ((Q.push ⟨bx,tk⟩).push ⟨B,vU⟩) x=some (x',Q.push ⟨bx,tk'⟩)∧AG Q.ag.length es xs x' tk'∧(∀(g:Nat) (n:Option Nat),tk[g]? =some n→tk'[g]? =some n):=by
 rcases h with rfl|⟨g,rfl,hg⟩
 ·exact⟨_,_,aqY,.inl rfl,fun _ _ h=>h⟩
 ·refine⟨_,_,Lg hQ (R:=⟨bx,tk⟩) (r0:=⟨B,vU⟩) hg,.inr ⟨tk.length,rfl,by simp⟩,fun g n h=>?_⟩
  rw[dM (bd.1 h).1];exact h
end
section
variable{s:ae} {w:W}
theorem TF.sm {y:Sl P} (h:TF w y):H4 y.l:=⟨by have:=h.pl.len;omega,fun p hp=>⟨(h.pl.ok p hp).1,by have:=(h.pl.ok p hp).2;omega⟩⟩
abbrev cg (n:Nat):List Int:=(List.range n).map fun i:Nat=>(i:Int)
theorem Wk.c (hw:Wk w) (h0:(de w).2.2=0):Wk (cW w):=⟨A5,A4 hw.tD,pL (by rw[SL];exact h0)⟩
theorem Lo (hw:Wk w) {rq:List Int}:∀{k i:Nat} {l:List P},i+k=w.rs.l.length→(∀x∈l,0≤x.req∧x.req<w.rs.l.length)→lV (cW w) rq i k l=lV w rq i k l
 |0,_,_,_,_=>rfl
 | k + 1, i, l, hk, hl => by
  simp only[lV]
  rw[Lo hw (k:=k) (i:=i+1) (by omega) hl,←aru (w:=cW w),arq hw (by omega) (by omega) hl]
  congr 1
  split
  ·have:∀L:List P,(∀p∈L,p∈bS w l (i:Int))→(L.flatMap fun p=>lV (cW w) rq (i+1) k (l++[p]))=L.flatMap fun p=>lV w rq (i+1) k (l++[p]):=by
    intro L
    induction L with
    |nil=>intro _;rfl
    | cons a L ih =>
     intro h
     have ha:=h a (by simp)
     obtain⟨dI,_⟩:=kg hw (show(0:Int)≤(i:Int)by omega) (by omega) (eH.1 ha).1
     rw[HF,HF,ih fun p hp=>h p (iI _ hp),Lo hw (k:=k) (i:=i+1) (by omega) fun x hx=>by
      rw[dC,dD]at hx
      rcases hx with hx|rfl
      ·exact hl x hx
      ·exact⟨dI.r0,dI.r1⟩]
   exact this _ fun _ h=>h
  ·rfl
theorem LI:eO (cW w)=eO w:=by
 unfold eO
 rw[SL]
 have:uo (cW w)=uo w:=by
  unfold uo
  rw[uU,wM,CN];rfl
 rw[this]
end
section
variable{w:W} {all:List (Sl P×Bool)}
def cL (all:List (Sl P×Bool)) (i:Int):List P:=(all.getD i.toNat default).1.l
def cO (all:List (Sl P×Bool)) (i:Nat):Bool:=(all.getD i default).2
structure CA (w:W) (all:List (Sl P×Bool)):Prop where
 len:all.length=w.rs.l.length
 iD:∀i:Int,0≤i→i<w.rs.l.length→∀p∈cL all i,bZ w p∧p.req=i
 srt:∀i:Int,0≤i→i<w.rs.l.length→(cL all i).Pairwise fun a b=>lexB (kP a) (kP b)=true
theorem WY (hw:Wk w) (hA:CA w all) {pl:List P} {m:Nat} (hm:m<2^w.rs.l.length):
  c8 w all pl m=true↔∃f:Int→P,(∀i∈fL pl m,f i∈cL all i∧∀p∈pl,cS w (f i) p=false)∧(∀i∈fL pl m,∀j∈fL pl m,i≠j→cS w (f i) (f j)=false):=by
 have dJ:=hw.v.rl
 have oG:m<2^62:=l6 hm (gP (by decide) (by omega))
 have bh:∀i∈fL pl m,0≤i∧i<w.rs.l.length:=by
  intro i hi
  obtain⟨h0,h1⟩:=(tY oG).1 (eH.1 hi).1
  refine⟨h0,?_⟩
  apply n6
  intro h
  have:m<2^i.toNat:=l6 hm (gP (by decide) (by omega))
  rw[H0 this]at h1
  exact absurd h1 (by decide)
 have kU:(fL pl m).Pairwise (· <·):=Ak _ xR
 have PX:(mC w all pl (dm m)).map (·.l)=(fL pl m).map fun i=>(jM w pl (all.getD i.toNat default).1).l:=by
  unfold mC fL
  rw[wb];rfl
 unfold c8
 rw[PX]
 have dZ:∀i∈fL pl m,∀q,q∈(jM w pl (all.getD i.toNat default).1).l↔q∈cL all i∧∀p∈pl,cS w q p=false:=by
  intro i hi q
  obtain⟨h0,h1⟩:=bh i hi
  exact SN
 generalize fL pl m=L at*
 have hP:∀x∈L.map (fun i=>(jM w pl (all.getD i.toNat default).1).l),∀p∈x,bZ w p:=by
  intro x hx p hp
  obtain⟨i,hi,rfl⟩:=cz.1 hx
  obtain⟨h0,h1⟩:=bh i hi
  exact(hA.iD i h0 h1 p ((dZ i hi p).1 hp).1).1
 rw[WV hw hP]
 constructor
 ·rintro⟨c,ef,gI⟩
  refine⟨fun i=>c (L.idxOf i),fun i hi=>?_,fun i hi j hj eD=>?_⟩
  ·have hk:L[L.idxOf i]? =some i:=by
    rw[cY (uH.2 hi),CO]
   have:=ef (L.idxOf i) _ (by rw[gX,hk];rfl)
   exact(dZ i hi _).1 this
  ·refine gI _ _ ?_ ?_ ?_
   ·rw[bR];exact uH.2 hi
   ·rw[bR];exact uH.2 hj
   ·intro e
    apply eD
    have h1:L[L.idxOf i]? =some i:=by rw[cY (uH.2 hi),CO]
    have h2:L[L.idxOf j]? =some j:=by rw[cY (uH.2 hj),CO]
    rw[e,h2]at h1;injection h1 with h1;exact rN h1
 ·rintro⟨f,iy,lH⟩
  refine⟨fun k=>f (L.getD k 0),fun k x hx=>?_,fun j k hj hk vu=>?_⟩
  ·rw[gX]at hx
   obtain⟨i,hi,rfl⟩:=aT.1 hx
   have fQ:=bU hi
   show f (L.getD k 0)∈_
   have e0:L.getD k 0=i:=by rw[List.getD,hi];rfl
   rw[e0]
   exact(dZ i fQ _).2 (iy i fQ)
  ·rw[bR]at hj hk
   obtain⟨a,ha⟩:=get_some hj
   obtain⟨b,hb⟩:=get_some hk
   show cS w (f (L.getD j 0)) (f (L.getD k 0))=false
   rw[List.getD,List.getD,ha,hb,kO,kO]
   refine lH a (bU ha) b (bU hb) ?_
   intro e
   subst e
   have mo:=CQ.1 kU
   obtain⟨_,ea⟩:=bd.1 ha
   obtain⟨_,eb⟩:=bd.1 hb
   rcases Tv vu with h|h
   ·have:=mo j k hj hk h;omega
   ·have:=mo k j hk hj h;omega
structure VC (w:W) (all:List (Sl P×Bool)) (R:List P):Prop where
 mem:∀p∈R,0≤p.req∧p.req<w.rs.l.length∧p∈cL all p.req
 gY:R.Pairwise fun a b=>a.req<b.req
 nc:R.Pairwise fun a b=>cS w a b=false
theorem VC.nil:VC w all []:=⟨fun _ h=>absurd h (by simp),List.Pairwise.nil,List.Pairwise.nil⟩
theorem VC.iD (hA:CA w all) {R:List P} (h:VC w all R):∀p∈R,bZ w p:=fun p hp=>by
 obtain⟨h0,h1,h2⟩:=h.mem p hp
 exact(hA.iD _ h0 h1 p h2).1
theorem VC.pre {a b:List P} (h:VC w all (a++b)):VC w all a:=
 ⟨fun p hp=>h.mem p (oP _ hp),(gp.1 h.gY).1,(gp.1 h.nc).1⟩
theorem VC.qw {R:List P} (h:VC w all R):cH R<2^w.rs.l.length:=aao fun p hp=>by have:=(h.mem p hp).1;have:=(h.mem p hp).2.1;omega
theorem VC.reqs (hw:Wk w) {R:List P} (h:VC w all R):dm (cH R)=R.map (·.req):=by
 have dJ:=hw.v.rl
 have aC:cH R<2^62:=l6 h.qw (gP (by decide) (by omega))
 refine yq xR (by rw[qE];exact h.gY) fun x=>?_
 rw[tY aC,nS,eA]
 simp only[cz,dU]
 constructor
 ·rintro⟨h0,p,hp,he⟩
  have:=(h.mem p hp).1
  exact⟨p,hp,by omega⟩
 ·rintro⟨p,hp,rfl⟩
  exact⟨(h.mem p hp).1,p,hp,rfl⟩
theorem VC.val (hw:Wk w) {R:List P} (h:VC w all R):jt w (cH R)=bw w R:=by
 unfold jt
 rw[h.reqs hw,Sz]
theorem VC.sep (hw:Wk w) (hA:CA w all) {R:List P} (h:VC w all R) {p q:P} (hp:p∈R) (hq:q∈R) (aD:p.req≠q.req):cS w p q=false:=by
 obtain⟨i,hi⟩:=n9 hp
 obtain⟨j,hj⟩:=n9 hq
 obtain⟨sv,xo⟩:=bd.1 hi
 obtain⟨hZ,xt⟩:=bd.1 hj
 have mo:=CQ.1 h.nc
 rcases Mp i j with eD|eD|eD
 ·have:=mo i j sv hZ eD
  rwa [xo,xt]at this
 ·subst eD
  rw[hi]at hj;injection hj with hj
  exact absurd (by rw[hj]) aD
 ·have:=mo j i hZ sv eD
  rw[xo,xt]at this
  rw[yP hw (h.iD hA p hp) (h.iD hA q hq)];exact this
theorem W2 (hw:Wk w) (hA:CA w all) {pl rest:List P} (h:VC w all (pl++rest)):c8 w all pl (cH (pl++rest))=true:=by
 have dJ:=hw.v.rl
 rw[WY hw hA h.qw]
 have cd:∀i∈fL pl (cH (pl++rest)),∃p,aL (pl++rest) i=some p∧p∈pl++rest∧p.req=i∧∀q∈pl,q.req≠i:=by
  intro i hi
  obtain⟨h1,h2⟩:=eH.1 hi
  rw[h.reqs hw,cz]at h1
  obtain⟨p,hp⟩:=Lh h1
  exact⟨p,hp,(nT hp).1,(nT hp).2,Li h2⟩
 refine⟨fun i=>(aL (pl++rest) i).getD bY,fun i hi=>?_,fun i hi j hj eD=>?_⟩
 ·obtain⟨p,hp,hm,hr,gy⟩:=cd i hi
  show(aL (pl++rest) i).getD bY∈_∧∀q∈pl,cS w ((aL (pl++rest) i).getD bY) q=false
  rw[hp,kO]
  refine⟨by rw[←hr];exact(h.mem p hm).2.2,fun q hq=>?_⟩
  exact h.sep hw hA hm (oP _ hq) (by rw[hr];exact fun e=>gy q hq (rN e))
 ·obtain⟨p,hp,hm,hr,_⟩:=cd i hi
  obtain⟨q,hq,fQ,iA,_⟩:=cd j hj
  show cS w ((aL (pl++rest) i).getD bY) ((aL (pl++rest) j).getD bY)=false
  rw[hp,hq,kO,kO]
  exact h.sep hw hA hm fQ (by rw[hr,iA];exact eD)
theorem aaA (hw:Wk w) (hA:CA w all) {pl:List P} {m k:Nat} (h:VC w all pl) (hk:∀p∈pl,p.req<k) (hm:m<2^w.rs.l.length) (vx:∀i,i<k→m.testBit i=(cH pl).testBit i) (hf:c8 w all pl m=true):
  ∃rest,VC w all (pl++rest)∧cH (pl++rest)=m∧∀p∈rest,(k:Int)≤p.req:=by
 have dJ:=hw.v.rl
 have oG:m<2^62:=l6 hm (gP (by decide) (by omega))
 obtain⟨f,iy,lH⟩:=(WY hw hA hm).1 hf
 have cd:∀i∈fL pl m,0≤i∧i<w.rs.l.length∧m.testBit i.toNat=true∧(k:Int)≤i∧∀q∈pl,q.req≠i:=by
  intro i hi
  obtain⟨h1,h2⟩:=eH.1 hi
  obtain⟨h3,h4⟩:=(tY oG).1 h1
  have gy:=Li h2
  refine⟨h3,(zP hm h1).2,h4,?_,gy⟩
  apply n6
  intro aC
  rw[vx i.toNat (by omega),nS,eA]at h4
  obtain⟨p,hp,he⟩:=h4
  have:=(h.mem p hp).1
  exact gy p hp (by simp at he;omega)
 have kU:(fL pl m).Pairwise (· <·):=Ak _ xR
 have jV:∀i∈fL pl m,(f i).req=i:=fun i hi=>by
  obtain⟨h0,h1,_⟩:=cd i hi
  exact(hA.iD i h0 h1 _ (iy i hi).1).2
 have dI:∀i∈fL pl m,bZ w (f i):=fun i hi=>by
  obtain⟨h0,h1,_⟩:=cd i hi
  exact(hA.iD i h0 h1 _ (iy i hi).1).1
 have hR:VC w all (pl++(fL pl m).map f):=by
  refine⟨fun p hp=>?_,?_,?_⟩
  ·rcases dC.1 hp with hp|hp
   ·exact h.mem p hp
   ·obtain⟨i,hi,rfl⟩:=cz.1 hp
    obtain⟨h0,h1,_⟩:=cd i hi
    rw[jV i hi]
    exact⟨h0,h1,(iy i hi).1⟩
  ·rw[gp]
   refine⟨h.gY,?_,fun a ha b hb=>?_⟩
   ·rw[qE]
    refine kU.imp_of_mem fun{a b} ha hb fE=>?_
    rw[jV a ha,jV b hb];exact fE
   ·obtain⟨i,hi,rfl⟩:=cz.1 hb
    have:=hk a ha
    have:=(cd i hi).2.2.2.1
    rw[jV i hi];omega
  ·rw[gp]
   refine⟨h.nc,?_,fun a ha b hb=>?_⟩
   ·rw[qE]
    refine kU.imp_of_mem fun{a b} ha hb fE=>?_
    exact lH a ha b hb (by omega)
   ·obtain⟨i,hi,rfl⟩:=cz.1 hb
    rw[yP hw (h.iD hA a ha) (dI i hi)]
    exact(iy i hi).2 a ha
 refine⟨(fL pl m).map f,hR,?_,fun p hp=>?_⟩
 ·apply Ml
  intro i
  rw[nS,s7,uz,sZ,eA,eA]
  constructor
  ·rintro(⟨p,hp,he⟩|⟨p,hp,he⟩)
   ·have h0:=(h.mem p hp).1
    have h1:=hk p hp
    have ji:p.req.toNat=i:=by simpa using he
    rw[vx i (by omega),nS,eA]
    exact⟨p,hp,he⟩
   ·obtain⟨j,hj,rfl⟩:=cz.1 hp
    have ji:(f j).req.toNat=i:=by simpa using he
    rw[jV j hj]at ji
    rw[←ji];exact(cd j hj).2.2.1
  ·intro hb
   by_cases hex:∃p∈pl,p.req.toNat=i
   ·obtain⟨p,hp,he⟩:=hex
    exact .inl ⟨p,hp,by simpa using he⟩
   ·right
    have hi:(i:Int)∈fL pl m:=by
     refine eH.2 ⟨(tY oG).2 ⟨by omega,by simpa using hb⟩,?_⟩
     rw[TD]
     unfold aL
     rw[yb]
     intro p hp he
     have:p.req=(i:Int):=by simpa using he
     exact hex ⟨p,hp,by omega⟩
    refine⟨f i,cz.2 ⟨i,hi,rfl⟩,?_⟩
    rw[jV _ hi];simp
 ·obtain⟨i,hi,rfl⟩:=cz.1 hp
  rw[jV i hi];exact(cd i hi).2.2.2.1
end
def xT (w:W) (all:List (Sl P×Bool)) (m:Nat):Bool:=pI all m&&c8 w all [] m
theorem aay {m:Nat}:∀{all:List (Sl P×Bool)} {k:Nat},ub m k all=true↔∀i c,all[i]? =some c→c.2=false→m.testBit (k+i)=true
 |[],k=>by simp[ub]
 | c :: r, k => by
  simp only[ub,dB,sZ,aay (all:=r)]
  constructor
  ·rintro⟨h1,h2⟩ i d hd hf
   cases i with
   |zero=>
    simp only[HH,fe]at hd
    subst hd
    rcases h1 with h1|h1
    ·rw[h1]at hf;exact absurd hf (by decide)
    ·exact h1
   |succ i=>
    have:=h2 i d (by simpa using hd) hf
    rwa [show k+(i+1)=k+1+i by omega]
  ·intro h
   refine⟨?_,fun i d hd hf=>?_⟩
   ·by_cases hc:c.2=true
    ·exact .inl hc
    ·exact .inr (h 0 c rfl (by simpa using hc))
   ·have:=h (i+1) d (by simpa using hd) hf
    rwa [show k+1+i=k+(i+1)by omega]
theorem Ll {all:List (Sl P×Bool)} {m:Nat}:pI all m=true↔∀i,i<all.length→cO all i=false→m.testBit i=true:=by
 unfold pI
 rw[aay]
 constructor
 ·intro h i hi hc
  have:=h i all[i] (cY hi) (by simpa[cO,List.getD,hi]using hc)
  rwa [fN]at this
 ·intro h i c hc hf
  obtain⟨hi,he⟩:=bd.1 hc
  rw[fN]
  exact h i hi (by simp[cO,List.getD,hi,he,hf])
theorem Ho {w:W} {all:List (Sl P×Bool)}:∀{N:Nat},(∀m,m∈(di w all N).2↔m<N∧xT w all m=true∧jt w m=(di w all N).1)∧(∀m,m<N→xT w all m=true→jt w m≤(di w all N).1)
 |0=>⟨fun m=>by simp[di],fun m h=>by omega⟩
 | N + 1 => by
  obtain⟨h1,h2⟩:=Ho (N:=N)
  rw[Ad]
  unfold rM
  rw[show(pI all N&&c8 w all [] N)=xT w all N from rfl]
  cases hf:xT w all N with
  | false =>
   rw[nq,aq (by decide)]
   refine⟨fun m=>?_,fun m hm lI=>?_⟩
   ·rw[h1]
    constructor
    ·rintro⟨a,b,c⟩;exact⟨by omega,b,c⟩
    ·rintro⟨a,b,c⟩
     have:m≠N:=by intro e;rw[e,hf]at b;exact absurd b (by decide)
     exact⟨by omega,b,c⟩
   ·have:m≠N:=by intro e;rw[e,hf]at lI;exact absurd lI (by decide)
    exact h2 m (by omega) lI
  | true =>
   rw[qD]
   by_cases hle:(di w all N).1≤jt w N
   ·rw [ak (by simpa using hle)]
    by_cases aC:(di w all N).1<jt w N
    ·rw[ak aC]
     refine⟨fun m=>?_,fun m hm lI=>?_⟩
     ·simp only[dD]
      constructor
      ·rintro rfl;exact⟨by omega,hf,rfl⟩
      ·rintro⟨a,b,c⟩
       apply n6
       intro aD
       have:=h2 m (by omega) b
       omega
     ·show jt w m≤jt w N
      by_cases e:m=N
      ·rw[e];exact Aj _
      ·have:=h2 m (by omega) lI;omega
    ·rw[aq aC]
     refine⟨fun m=>?_,fun m hm lI=>?_⟩
     ·simp only[dC,dD]
      rw[h1]
      constructor
      ·rintro(⟨a,b,c⟩|rfl)
       ·exact⟨by omega,b,c⟩
       ·exact⟨by omega,hf,by omega⟩
      ·rintro⟨a,b,c⟩
       by_cases e:m=N
       ·exact .inr e
       ·exact .inl ⟨by omega,b,c⟩
     ·show jt w m≤(di w all N).1
      by_cases e:m=N
      ·rw[e];omega
      ·exact h2 m (by omega) lI
   ·rw[aq (by simpa using hle)]
    refine⟨fun m=>?_,fun m hm lI=>?_⟩
    ·rw[h1]
     constructor
     ·rintro⟨a,b,c⟩;exact⟨by omega,b,c⟩
     ·rintro⟨a,b,c⟩
      by_cases e:m=N
      ·subst e;omega
      ·exact⟨by omega,b,c⟩
    ·by_cases e:m=N
     ·subst e;omega
     ·exact h2 m (by omega) lI
section
variable{w:W} {all:List (Sl P×Bool)}
def pE (w:W) (all:List (Sl P×Bool)):Int:=(di w all (2^w.rs.l.length)).1
def xQ (w:W) (all:List (Sl P×Bool)):List Nat:=(di w all (2^w.rs.l.length)).2
structure VF (w:W) (all:List (Sl P×Bool)) (R:List P):Prop where
 vc:VC w all R
 full:∀i:Nat,i<w.rs.l.length→cO all i=false→∃p∈R,p.req=(i:Int)
theorem VF.perm (hA:CA w all) {R:List P} (h:VF w all R):pI all (cH R)=true:=by
 rw[Ll,hA.len]
 intro i hi hc
 obtain⟨p,hp,he⟩:=h.full i hi hc
 rw[nS,eA]
 exact⟨p,hp,by simp;omega⟩
theorem VF.Rv (hA:CA w all) {R:List P} (h:VC w all R) (hp:pI all (cH R)=true):VF w all R:=by
 refine⟨h,fun i hi hc=>?_⟩
 have:=Ll.1 hp i (by rw[hA.len];exact hi) hc
 rw[nS,eA]at this
 obtain⟨p,hp,he⟩:=this
 have:=(h.mem p hp).1
 exact⟨p,hp,by simp at he;omega⟩
theorem VF.ok (hw:Wk w) (hA:CA w all) {R:List P} (h:VF w all R):xT w all (cH R)=true:=by
 have:=W2 hw hA (pl:=[]) (rest:=R) (by simpa using h.vc)
 rw[kq]at this
 unfold xT
 rw[h.perm hA,this];rfl
theorem VF.le_max (hw:Wk w) (hA:CA w all) {R:List P} (h:VF w all R):bw w R≤pE w all:=by
 have h2:=(Ho (w:=w) (all:=all) (N:=2^w.rs.l.length)).2 (cH R) h.vc.qw (h.ok hw hA)
 rwa [h.vc.val hw]at h2
theorem VF.zI (hw:Wk w) (hA:CA w all) {R:List P} (h:VF w all R):cH R∈xQ w all↔bw w R=pE w all:=by
 rw[show xQ w all=(di w all (2^w.rs.l.length)).2 from rfl,(Ho (w:=w) (all:=all) (N:=2^w.rs.l.length)).1]
 rw[h.vc.val hw]
 exact⟨fun h=>h.2.2,fun hv=>⟨h.vc.qw,h.ok hw hA,hv⟩⟩
theorem Ri (hw:Wk w) (hA:CA w all) {m:Nat} (hm:m∈xQ w all):∃R,VF w all R∧cH R=m∧bw w R=pE w all:=by
 obtain⟨h1,h2,h3⟩:=(Ho (w:=w) (all:=all) (N:=2^w.rs.l.length)).1 m |>.1 hm
 unfold xT at h2
 rw[dB]at h2
 obtain⟨R,hR,ho,_⟩:=aaA hw hA (pl:=[]) (k:=0) VC.nil (fun p hp=>absurd hp (by simp)) h1 (fun i hi=>by omega) h2.2
 rw[kq]at hR ho
 exact⟨R,VF.Rv hA hR (by rw[ho];exact h2.1),ho,by rw[←hR.val hw,ho];exact h3⟩
theorem abr:∀N,(di w all N).1=-1∧(di w all N).2=[]∨∃m,m∈(di w all N).2:=by
 intro N
 induction N with
 |zero=>left;exact⟨rfl,rfl⟩
 | succ N ih =>
  rw[Ad];unfold rM
  split
  ·split
   ·right;exact⟨N,by simp⟩
   ·right;exact⟨N,by simp⟩
  ·exact ih
theorem ahf {pl:List P} {w:W} {all:List (Sl P×Bool)} (h:VC w all pl) {i:Int}:((j9 pl:Nat):Int)≤i→∀p∈pl,p.req<i:=by
 intro hi p hp
 unfold j9 at hi
 cases hl:pl.getLast? with
 |none=>rw[Mb]at hl;subst hl;exact absurd hp (by simp)
 | some z =>
  rw[hl]at hi
  simp only at hi
  have hz:=(h.mem z (HN hl)).1
  have Ql:p.req≤z.req:=by
   obtain⟨a,ha⟩:=acr.1 hl
   rw[ha,dC,dD]at hp
   rcases hp with hp|rfl
   ·have:=h.gY
    rw[ha,gp]at this
    exact Int.le_of_lt (this.2.2 p hp z (by simp))
   ·exact Aj _
  omega
theorem ahd {pl t:List P} {q:P} {w:W} {all:List (Sl P×Bool)} (h:VC w all (pl++q::t)):j9 pl≤q.req.toNat:=by
 unfold j9
 cases hl:pl.getLast? with
 |none=>exact bp _
 |some z=>
  have GN:=HN hl
  have hz:=(h.mem z (oP _ GN)).1
  have:=h.gY
  rw[gp]at this
  have:=this.2.2 z GN q (by simp)
  show z.req.toNat+1≤q.req.toNat
  omega
theorem ZR (hw:Wk w) (hA:CA w all) {pl:List P} (h:VC w all pl) {i:Nat} (hi:j9 pl≤i) (bh:i<w.rs.l.length) {p:P} (hp:p∈cL all (i:Int)) (ho:kf w all pl (cH pl) (xQ w all) i p=true):
  ∃rest,VF w all (pl++p::rest)∧bw w (pl++p::rest)=pE w all:=by
 unfold kf at ho
 rw[dB]at ho
 obtain⟨hc,hs⟩:=ho
 have hc:cK w p pl=false:=by simpa using hc
 obtain⟨m,hm,fQ⟩:=eA.1 hs
 rw[dB,dU]at fQ
 obtain⟨vx,kW⟩:=fQ
 obtain⟨dI,hr⟩:=hA.iD (i:Int) (by omega) (by omega) p hp
 have jV:=ahf h (i:=(i:Int)) (by omega)
 have h1:VC w all (pl++[p]):=by
  refine⟨fun q hq=>?_,?_,?_⟩
  ·rw[dC,dD]at hq
   rcases hq with hq|rfl
   ·exact h.mem q hq
   ·rw[hr];exact⟨by omega,by omega,hp⟩
  ·rw[gp]
   refine⟨h.gY,uJ _ _,fun a ha b hb=>?_⟩
   rw[dD]at hb;subst hb
   rw[hr];exact jV a ha
  ·rw[gp]
   refine⟨h.nc,uJ _ _,fun a ha b hb=>?_⟩
   rw[dD]at hb;subst hb
   exact uZ.1 hc a ha
 obtain⟨P3,Kv,P5⟩:=(Ho (w:=w) (all:=all) (N:=2^w.rs.l.length)).1 m |>.1 hm
 unfold xT at Kv
 rw[dB]at Kv
 have hb:=Jn.1 vx
 obtain⟨rest,hR,jy,_⟩:=aaA hw hA (pl:=pl++[p]) (m:=m) (k:=i+1) h1 (fun q hq=>by
  rw[dC,dD]at hq
  rcases hq with hq|rfl
  ·have:=jV q hq;omega
  ·rw[hr];omega) P3 (fun j hj=>by
  have:=hb j
  rw[bM hj,qD]at this
  rw[this,RE,yj,hr,CV];simp) kW
 rw[gN,Tn]at hR jy
 exact⟨rest,VF.Rv hA hR (by rw[jy];exact Kv.1),by rw[←hR.val hw,jy];exact P5⟩
theorem Xn (hw : Wk w) (hA : CA w all) {Q : List P} (hQ : VF w all Q) (hv : bw w Q = pE w all) (lL : ∀ R, VF w all R → bw w R = pE w all → cw R Q = false) :
  ∀(fuel:Nat) (pl t:List P),Q=pl++t→t.length<fuel→mg w all (xQ w all) fuel pl=Q
 |0,_,_,_,h=>absurd h (df _)
 | fuel + 1, pl, t, hq, hl => by
  simp only[mg]
  have cI:VC w all pl:=by have:=hQ.vc;rw[hq]at this;exact this.pre
  cases t with
  |nil=>
   rw[iG]at hq
   subst hq
   rw[ak (eA.2 ⟨cH Q,(hQ.zI hw hA).2 hv,by simp⟩)]
  | cons q t =>
   rw[aq (by
    intro h
    obtain⟨m,hm,he⟩:=eA.1 h
    have he:cH pl=m:=by simpa using he
    rw[←he]at hm
    obtain⟨R,hR,FU,tK⟩:=Ri hw hA hm
    have Ym:VF w all pl:=VF.Rv hA cI (by rw[←FU];exact hR.perm hA)
    have:=lL pl Ym ((Ym.zI hw hA).1 hm)
    rw[hq,Vc (by simp)]at this
    exact absurd this (by decide))]
   have qa:=hQ.vc
   rw[hq]at qa
   obtain⟨q0,q1,qp⟩:=qa.mem q (by simp)
   have Kt:((q.req.toNat:Nat):Int)=q.req:=by omega
   have jk:=ahd qa
   have P9 : qt w all pl (cH pl) (xQ w all) = some q := by
    unfold qt
    rw[hA.len]
    refine Rs (j:=q.req.toNat) ?_ jk (by omega) ?_
    ·rw [show (all.getD q.req.toNat default).1.l = cL all q.req from rfl]
     rw[acn]
     have GB:=hA.srt q.req q0 q1
     obtain⟨as,bs,fE⟩:=List.append_of_mem qp
     refine⟨?_,as,bs,fE,fun p hp=>?_⟩
     · -- q itself may come next
      unfold kf
      rw[dB]
      refine⟨?_,eA.2 ⟨cH Q,(hQ.zI hw hA).2 hv,?_⟩⟩
      ·have:cK w q pl=false:=uZ.2 fun a ha=>by
        have:=qa.nc
        rw[gp]at this
        exact this.2.2 a ha q (by simp)
       rw[this];rfl
      ·rw [dB, dU]
       constructor
       ·rw[Jn]
        intro j
        rw[hq,nS,nS,s7,nr]
        have kU:=qa.gY
        rw[gp,tf]at kU
        have ht:∀x∈t,q.req<x.req:=kU.2.1.1
        have pr:∀x∈pl,x.req<q.req:=fun x hx=>kU.2.2 x hx q (by simp)
        have h0:∀x∈pl,0≤x.req:=fun x hx=>(cI.mem x hx).1
        by_cases hj:j<q.req.toNat+1
        ·rw[bM hj,qD]
         have:(t.any fun p=>decide (p.req.toNat=j))=false:=by
          rw[uD];intro x hx;have:=ht x hx;simp;omega
         rw[this,Ag]
        ·rw[bX hj,nq]
         have h1:(pl.any fun p=>decide (p.req.toNat=j))=false:=by
          rw[uD];intro x hx;have:=pr x hx;have:=h0 x hx;simp;omega
         rw[h1,bX (by omega)];rfl
       ·rw[hq,show pl++q::t=(pl++[q])++t by simp]
        exact W2 hw hA (by rw[gN];exact qa)
     · -- an earlier one would give an earlier plan
      rw[sY]
      cases ho:kf w all pl (cH pl) (xQ w all) q.req.toNat p with
      |false=>rfl
      | true =>
       have lN:p∈cL all q.req:=by rw[fE];simp[hp]
       obtain⟨rest,hR,tK⟩:=ZR hw hA cI jk (by omega) (by rw[Kt];exact lN) ho
       have:=lL _ hR tK
       rw[hq,AZ]at this
       have aC:lexB (kP p) (kP q)=true:=by
        rw[fE,gp]at GB
        exact GB.2.2 p hp q (by simp)
       simp only[cw]at this
       rw[aq (by intro e;rw[e,zL]at aC;exact absurd aC (by decide)),aC]at this
       exact absurd this (by decide)
    ·intro i' h1 h2
     rw[show(all.getD i' default).1.l=cL all (i':Int)from rfl,yb]
     intro p hp ho
     obtain⟨rest,hR,tK⟩:=ZR hw hA cI h1 (by omega) hp ho
     have:=lL _ hR tK
     rw[hq,AZ]at this
     have hr:=(hA.iD (i':Int) (by omega) (by omega) p hp).2
     have aC:lexB (kP p) (kP q)=true:=by
      unfold kP
      simp only[lexB]
      rw[aq (by omega)];simp;omega
     simp only[cw]at this
     rw[aq (by intro e;rw[e,zL]at aC;exact absurd aC (by decide)),aC]at this
     exact absurd this (by decide)
   rw[P9]
   exact Xn hw hA hQ hv lL fuel (pl++[q]) t (by rw[hq];simp) (by simp at hl;omega)
theorem adT (hw:Wk w) (hA:CA w all) {Q:List P} (hQ:VF w all Q) (hv:bw w Q=pE w all) (lL:∀R,VF w all R→bw w R=pE w all→cw R Q=false):gZ w all=(Q,pE w all,true):=by
 have xA:0≤pE w all:=by
  rw[←hv,←hQ.vc.val hw]
  exact(Hs hw fun i hi=>by
   have oG:cH Q<2^w.rs.l.length:=hQ.vc.qw
   exact zP oG hi).1
 unfold gZ
 rw[hA.len]
 rw[aq (show¬(di w all (2^w.rs.l.length)).1<0 from by show¬pE w all<0;omega)]
 have Gx:Q.length<w.rs.l.length+1:=by
  have:∀(l:List P) (k:Int),0≤k→l.Pairwise (fun a b=>a.req<b.req)→(∀p∈l,k≤p.req∧p.req<w.rs.l.length)→(l.length:Int)≤w.rs.l.length-k∨l=[]:=by
   intro l
   induction l with
   |nil=>intro _ _ _ _;right;rfl
   |cons x r ih=>
    intro k hk hp hm
    left
    have hx:=hm x (by simp)
    have rh:=tf.1 hp
    rcases ih (x.req+1) (by omega) rh.2 (fun p zr=>⟨by have:=rh.1 p zr;omega,(hm p (iI _ zr)).2⟩)with h|h
    ·simp only[eo];omega
    ·subst h;simp;omega
  rcases this Q 0 (by omega) hQ.vc.gY (fun p hp=>⟨(hQ.vc.mem p hp).1,(hQ.vc.mem p hp).2.1⟩)with h|h
  ·omega
  ·subst h;simp
 have:=Xn hw hA hQ hv lL (w.rs.l.length+1) [] Q rfl Gx
 rw[show(di w all (2^w.rs.l.length)).2=xQ w all from rfl,this]
 rfl
theorem adV (hw:Wk w) (hA:CA w all) (h:∀R,¬VF w all R):gZ w all=([],0,false):=by
 unfold gZ
 rw[hA.len]
 rcases abr (w:=w) (all:=all) (2^w.rs.l.length)with⟨h1,_⟩|⟨m,hm⟩
 ·rw[ak (by rw[h1];decide)]
 ·obtain⟨R,hR,_⟩:=Ri hw hA hm
  exact absurd hR (h R)
theorem apl (hw:Wk w) (hA:CA w all) (h:∃R,VF w all R):∃R,VF w all R∧bw w R=pE w all:=by
 obtain⟨R0,h0⟩:=h
 rcases abr (w:=w) (all:=all) (2^w.rs.l.length)with⟨h1,h2⟩|⟨m,hm⟩
 ·have:=h0.le_max hw hA
  have xA:0≤bw w R0:=by
   rw[←h0.vc.val hw]
   exact(Hs hw fun i hi=>zP h0.vc.qw hi).1
  have:pE w all=-1:=h1
  omega
 ·obtain⟨R,hR,_,hv⟩:=Ri hw hA hm
  exact⟨R,hR,hv⟩
end
def cmpL:List P→List P→Int
 |[],[]=>0
 |[],_::_=>-1
 |_::_,[]=>1
 |x::r,y::t=>if kS x y=0 then cmpL r t else kS x y
theorem Zv:∀{a b:List Int},lg a b<0↔lexB a b=true
 |[],[]=>by simp[lg,lexB]
 |[],_::_=>by simp[lg,lexB]
 |_::_,[]=>by simp[lg,lexB]
 | x :: a, y :: b => by
  simp only[lg,lexB]
  by_cases h:x=y
  ·rw[ak (JB.2 h),ak h];exact Zv
  ·rw[aq (fun e=>h (JB.1 e)),aq h,dU]
   unfold tA
   split
   ·rename_i h1;exact⟨fun _=>h1,fun _=>by decide⟩
   ·rename_i h1
    split
    ·exact⟨fun q=>absurd q (by decide),fun q=>absurd q h1⟩
    ·exact⟨fun q=>absurd q (by decide),fun q=>absurd q h1⟩
theorem afh {p q:P}:kS p q<0↔lexB (kP p) (kP q)=true:=by
 unfold kS kP
 simp only[lexB]
 by_cases h1:p.req=q.req
 ·rw[ak h1,ak h1]
  by_cases h2:p.start=q.start
  ·rw[ak h2,ak h2];exact Zv
  ·rw[aq h2,aq h2,dU];omega
 ·rw[aq h1,aq h1,dU];omega
theorem VO:∀{a b:List P},cmpL a b<0↔cw a b=true
 |[],[]=>by simp[cmpL,cw]
 |[],_::_=>by simp[cmpL,cw]
 |_::_,[]=>by simp[cmpL,cw]
 |x::a,y::b=>by
  simp only[cmpL,cw]
  by_cases h:kS x y=0
  ·rw[ak h,ak (Bk.1 h)];exact VO
  ·rw[aq h,aq (fun e=>h (Bk.2 e))];exact afh
section
variable{s:ae} {w:W}
theorem auv {a b:List P} {o1 o2:Own} {e1 e2:Nat} (hs:Ok s) (h1:a=[]∨e1=3) (h2:b=[]∨e2=3) (ha:oR a) (hb:oR b):
  au AP (.fn 37) [.slice o1 e1 (a.map aj),.slice o2 e2 (b.map aj),.fn 38 [] []] s=some (I (cmpL a b),s):=by
 have la:=ha.len
 have lb:=hb.len
 have key:∀k ρ m,k≤a.length→(ρ 0=.slice o1 e1 (a.map aj)∧ρ 1=.slice o2 e2 (b.map aj)∧ρ 2=.fn 38 [] []∧ρ 11=.slice o1 e1 (a.map aj)∧ρ 12=I a.length∧ρ 13=I k∧k≤b.length∧cmpL a b=cmpL (a.drop k) (b.drop k)∧∃bx,m=s.push ⟨bx,[]⟩)→
   go AP agE (.c (.loop yz)::an9) ⟨ρ,m⟩=some (I (cmpL a b),s):=by
  refine cq a.length _ _ ?_ ?_
  ·rintro k ρ m hk ⟨g0,g1,g2,g11,g12,g13,PT,hc,bx,rfl⟩ ih
   obtain⟨x,hx⟩:=get_some hk
   have ej:e1=3:=by rcases h1 with h|h;(rw[h]at hx;simp at hx);exact h
   subst ej
   have Gz:=cD (f:=aj) (o:=o1) (es:=3) hx
   have xL:=ha.ok x (bU hx)
   have sG:=ha.b x (bU hx)
   have bW:=bK hk (show(a.length:Int)<_ by omega)
   rw[eR hx]at hc
   by_cases tQ:k<b.length
   ·obtain⟨y,hy⟩:=get_some tQ
    have ej:e2=3:=by rcases h2 with h|h;(rw[h]at hy;simp at hy);exact h
    subst ej
    have Qt:=cD (f:=aj) (o:=o2) (es:=3) hy
    have rr:=hb.ok y (bU hy)
    have YU:=hb.b y (bU hy)
    rw[eR hy]at hc
    have dy:∀r,au AP (.fn 38) [.agg (aj x),.agg (aj y)] (s.push r)=some (I (kS x y),s.push r):=fun r=>Si (hs.push r) xL.1 rr.1 xL.2 rr.2 sG.1 YU.1 sG.2 YU.2
    have nK:decide ((b.length:Int)≤(k:Int))=false:=by simp;omega
    simp only[aj,Sl.v]at Gz Qt dy
    simp only[cmpL]at hc
    by_cases h0:kS x y=0
    ·rw[ak h0]at hc
     rw[h0]at dy
     have hz:decide (¬(0:Int)=0)=false:=by decide
     simp only[go_sem,yz,g0,g1,g2,g11,g12,g13,hs,aS hk,nK,Gz,Qt,dy,bW,bn,hz,at_len,rV,rB,G4,oO,rJ,gN,cQ,simprocAttr]
     refine ih _ _ ?_
     exact⟨g0,g1,g2,g11,g12,rfl,by omega,hc,_,rfl⟩
    ·rw[aq h0]at hc
     have hz:decide (¬kS x y=0)=true:=by simp[h0]
     rw[hc]
     simp only[go_sem,yz,g0,g1,g2,g11,g12,g13,hs,aS hk,nK,Gz,Qt,dy,bW,bn,hz,at_len,rV,rB,G4,oO,rJ,gN,cQ,simprocAttr]
   ·obtain rfl:k=b.length:=by omega
    have nK:decide ((b.length:Int)≤(b.length:Int))=true:=by simp
    rw[eZ]at hc
    simp only[cmpL]at hc
    rw[hc]
    simp only[aj,Sl.v]at Gz
    simp only[go_sem,yz,g0,g1,g2,g11,g12,g13,hs,aS hk,nK,Gz,bW,at_len,rV,rB,G4,oO,rJ,gN,cQ,simprocAttr]
  ·rintro ρ m ⟨g0,g1,g2,g11,g12,g13,PT,hc,bx,rfl⟩
   rw[eZ]at hc
   by_cases hl:a.length<b.length
   ·have hd:decide ((a.length:Int)<(b.length:Int))=true:=by simp;omega
    obtain⟨y,hy⟩:=get_some hl
    rw[eR hy]at hc
    simp only[cmpL]at hc
    rw[hc]
    simp only[go_sem,yz,Jc,g0,g1,g2,g11,g12,g13,hs,bN,hd,cQ,simprocAttr]
   ·have hd:decide ((a.length:Int)<(b.length:Int))=false:=by simp;omega
    obtain e:b.length=a.length:=by omega
    rw[←e,eZ]at hc
    simp only[cmpL]at hc
    rw[hc]
    simp only[go_sem,yz,Jc,g0,g1,g2,g11,g12,g13,hs,bN,hd,cQ,simprocAttr]
 rw[aM (show AP 37=some E8 from rfl) rfl]
 simp only[go_sem,UW,hs,cQ,simprocAttr]
 refine key 0 _ _ (bp _) ?_
 exact⟨rfl,rfl,rfl,rfl,rfl,rfl,bp _,rfl,_,rfl⟩
end
section
variable{w:W} {a b:List (Sl P×Bool)}
theorem aum {plan:List P} {x:Sl P}:(jM w plan x).l=plan.foldl (fun l p=>wo w p l) x.l:=by
 unfold jM
 induction plan generalizing x with
 |nil=>rfl
 |cons p r ih=>rw[v8,v8,ih,iJ]
theorem WX (hL:∀i,cL a i=cL b i) {plan:List P} {m:Nat}:c8 w a plan m=c8 w b plan m:=by
 unfold c8 mC
 rw[wb,wb]
 congr 1
 refine Ap fun i _=>?_
 simp only[Function.comp,aum]
 rw[show(a.getD i.toNat default).1.l=cL a i from rfl,hL];rfl
theorem arf (hl:a.length=b.length) (hO:∀i,cO a i=cO b i) {m:Nat}:pI a m=pI b m:=by
 rw[uz,Ll,Ll,hl]
 simp only[hO]
theorem adQ (hl:a.length=b.length) (hL:∀i,cL a i=cL b i) (hO:∀i,cO a i=cO b i):gZ w a=gZ w b:=by
 have cp:∀st m,rM w a st m=rM w b st m:=fun st m=>by unfold rM;rw[arf hl hO,WX hL]
 have qi:∀n,di w a n=di w b n:=fun n=>by
  unfold di
  congr 1
  funext st m;exact cp st m
 have gy:∀plan own sets i,kf w a plan own sets i=kf w b plan own sets i:=fun plan own sets i=>by
  funext p
  unfold kf
  congr 2
  funext m
  rw[WX hL]
 have Qa:∀n plan own sets i,ng w a plan own sets i n=ng w b plan own sets i n:=by
  intro n
  induction n with
  |zero=>intros;rfl
  |succ n ih=>
   intro plan own sets i
   simp only[ng]
   rw[show(a.getD i default).1.l=cL a (i:Int)from rfl,hL,gy,ih];rfl
 have Kp:∀sets n plan,mg w a sets n plan=mg w b sets n plan:=by
  intro sets n
  induction n with
  |zero=>intro plan;rfl
  |succ n ih=>
   intro plan
   simp only[mg,qt]
   rw[hl,Qa]
   simp only[ih]
 unfold gZ
 rw[hl,qi,Kp]
end
section
variable{s:ae} {w:W}
def ew (l:List Int):Nat:=l.foldl (fun m i=>m|||2^i.toNat) 0
theorem ZF {l:List Int} {i:Int}:ew (l++[i])=ew l|||2^i.toNat:=by
 unfold ew;rw[HG];rfl
theorem K3:∀{l:List Int} {o k:Nat},(l.foldl (fun m i=>m|||2^i.toNat) o).testBit k=(o.testBit k||l.any fun i=>decide (i.toNat=k))
 |[],o,k=>by simp
 |a::r,o,k=>by
  rw[v8,K3,yj,CV,nr,Bool.or_assoc]
theorem Ci {l:List Int} {n:Nat} (h:∀i∈l,0≤i∧i<n):ew l<2^n:=by
 apply acx
 intro k hk
 unfold ew
 rw[K3,Mt,l4]
 cases hc:l.any fun i=>decide (i.toNat=k)with
 |false=>rfl
 |true=>
  obtain⟨i,hi,he⟩:=eA.1 hc
  have:=h i hi
  have:=zV he
  omega
theorem W8 {a b:Int}:dV [a,b]=if a=0 then b else a:=by
 unfold dV
 by_cases h:a=0
 ·subst h
  unfold dV
  by_cases h2:b=0
  ·subst h2;rfl
  ·simp[h2]
 ·simp[h]
theorem RQ {l:List Int} {k:Nat} {a:Int} (h:l[k]? =some a):qz l (k+1)=a:=by show l.getD k 0=a;rw[List.getD,h];rfl
theorem asU {l:List Int} {o:Own} {e:Nat} (hs:Ok s) (hw:w.Ok) (hf:w.ju) (he:l=[]∨e=1) (hl:l.length≤100000):
  au AP (.fn 13) [w.v,.slice o e (l.map aB)] s=some (.tuple [B (if eO w=0 then(if sR w.rs.l.length (-1) l=0 then c8 w (bf w) [] (ew l)else false)else false),I (if eO w=0 then sR w.rs.l.length (-1) l else eO w)],s):=by
 have ho:∀r,au AP (.fn 27) [w.v] (s.push r)=some (.tuple [if(de w).2.2=0 then OW w else NP,I (eO w)],s.push r):=fun r=>Lz (hs.push r) hw hf
 simp only[W.v,cJ,Sl.v]at ho
 by_cases h0:eO w=0
 ·have jo:=Ae h0
  have bW:Wk w:=⟨hw,hf,pL jo⟩
  have dJ:=bW.v.rl
  rw[ak jo,h0]at ho
  have jk:∀r,au AP (.fn 28) [OW w] (s.push r)=some (CH w (cr 2 (bf w)).o (cr 2 (bf w)).e (bf w),s.push r):=fun r=>by
   rw[SJ (hs.push r) bW,qG];simp only[Sl.v,iJ]
  simp only[h0,bP]
  have key:∀(k:Nat) ρ m,k≤l.length→(ρ 6=OW w∧ρ 8=I ((ew (l.take k):Nat):Int)∧ρ 9=I (qz l k)∧ρ 21=.slice o e (l.map aB)∧ρ 22=I l.length∧ρ 23=I k∧(∀i∈l.take k,0≤i∧i<w.rs.l.length)∧-1≤qz l k∧sR w.rs.l.length (-1) l=sR w.rs.l.length (qz l k) (l.drop k)∧∃bx,m=s.push ⟨bx,[]⟩)→
    go AP agu (.c (.loop AU)::anT) ⟨ρ,m⟩=some (.tuple [B (if sR w.rs.l.length (-1) l=0 then c8 w (bf w) [] (ew l)else false),I (sR w.rs.l.length (-1) l)],s):=by
   refine cq l.length _ _ ?_ ?_
   ·rintro k ρ m hk ⟨g6,g8,g9,g21,g22,g23,bh,KC,hE,bx,rfl⟩ ih
    obtain⟨a,ha⟩:=get_some hk
    have he:e=1:=by rcases he with h|h;(rw[h]at ha;simp at ha);exact h
    subst he
    have hr:=cD (o:=o) (es:=1) (f:=aB) ha
    have fR:∀r,au AP (.fn 33) [OW w,I a] (s.push r)=some (I (cond (wi a 0 (w.rs.l.length-1)) 0 6),s.push r):=fun r=>SK bW
    have QF:∀(m:ae) (c:Bool),au AP (.fn 39) [B c,I 9] m=some (I (cond c 0 9),m):=fun m c=>lk
    have jj:∀(m:ae) (a b:Int),au AP (.fn 32) [.slice .full 1 [[I a],[I b]]] m=some (I (if a=0 then b else a),m):=fun m a b=>by rw[mH,W8]
    rw[eR ha,sR]at hE
    cases h1:wi a 0 (w.rs.l.length-1)with
    |false=>
     rw[h1,aq (by decide)]at hE
     rw[h1]at fR
     rw[hE]
     simp only[OW]at fR g6
     simp(maxSteps:=1000000) only[go_sem,AU,g6,g9,g21,g22,g23,aS hk,hr,fR,QF,jj,gR,fH,bn,iC,qN,Nat.reduceEqDiff,Int.reduceEq,↓reduceIte]
    | true =>
     rw[h1,ak rfl]at hE
     rw[h1]at fR
     have sc:=iE.1 h1
     by_cases aC:qz l k<a
     ·rw[ak aC]at hE
      have hd:decide (qz l k<a)=true:=by simpa using aC
      have jU:ew (l.take k)<2^63:=G7 (Ci bh) (by omega)
      have fQ:2^a.toNat<2^63:=CU (by decide) (by omega)
      have jC:=wC (k:=a.toNat) (by omega)
      rw[show((a.toNat:Nat):Int)=a by omega]at jC
      have sy:=Ie jU fQ
      have oJ:=bK hk (show(l.length:Int)<_ by omega)
      simp only[OW]at fR g6
      simp(maxSteps:=1000000) only[go_sem,AU,g6,g8,g9,g21,g22,g23,aS hk,hr,fR,QF,jj,hd,jC,sy,oJ,gR,fH,bn,eW,Nat.reduceEqDiff,Int.reduceNeg,↓reduceIte]
      refine ih _ _ ?_
      refine⟨by simp only[OW];exact g6,by rw[fF ha,ZF];rfl,by rw[RQ ha];rfl,g21,g22,rfl,fun i hi=>?_,by rw[RQ ha];omega,by rw[RQ ha];exact hE,bx,rfl⟩
      rw[fF ha,dC,dD]at hi
      rcases hi with hi|rfl
      ·exact bh i hi
      ·omega
     ·rw[aq aC]at hE
      have hd:decide (qz l k<a)=false:=by simpa using aC
      rw[hE]
      simp only[OW]at fR g6
      simp(maxSteps:=1000000) only[go_sem,AU,g6,g9,g21,g22,g23,aS hk,hr,fR,QF,jj,hd,gR,fH,bn,iC,qN,Nat.reduceEqDiff,Int.reduceEq,↓reduceIte]
   ·rintro ρ m ⟨g6,g8,g9,g21,g22,g23,bh,KC,hE,bx,rfl⟩
    rw[jb]at bh g8
    rw[eZ]at hE
    have hE:sR w.rs.l.length (-1) l=0:=hE
    have vm:∀r,au AP (.fn 40) [CH w (cr 2 (bf w)).o (cr 2 (bf w)).e (bf w),.slice .aA 0 [],I ((ew l:Nat):Int)] (s.push r)=some (B (c8 w (bf w) [] (ew l)),s.push r):=fun r=>
     Js (plan:=[]) (o2:=.aA) (e2:=0) (hs.push r) bW (OR bW) (Ci bh) (fun y hy=>absurd hy (by simp)) (.inl rfl) (by simp)
    rw[hE]
    simp only[OW,CH]at jk vm g6
    simp(maxSteps:=1000000) only[go_sem,AU,Ny,g6,g8,g22,g23,bN,jk,vm,Nat.reduceEqDiff,↓reduceIte]
  rw[aM (show AP 13=some Ba from rfl) rfl]
  simp only[OW]at ho key
  simp(maxSteps:=1000000) only[go_sem,Nx,ho,bn,eW,Nat.reduceEqDiff,Nat.reduceAdd,Int.reduceNeg,↓reduceIte]
  refine key 0 _ _ (bp _) ?_
  exact⟨rfl,rfl,rfl,rfl,rfl,rfl,fun i hi=>absurd hi (by simp),by show(-1:Int)≤-1;omega,rfl,[cJ w],rfl⟩
 ·rw[aM (show AP 13=some Ba from rfl) rfl]
  simp only[h0,db]
  simp(maxSteps:=1000000) only[go_sem,Nx,ho,bn,h0,iC,Nat.reduceEqDiff,Nat.reduceAdd,Int.reduceNeg,↓reduceIte]
end
theorem MN:∀{b a:List Int},a.Pairwise (· <·)→b.Pairwise (· <·)→(∀x∈a,x∈b)→a.Sublist b
 |[],a,_,_,h=>by
  cases a with
  |nil=>exact .slnil
  |cons x a=>exact absurd (h x (by simp)) (by simp)
 |y::b,[],_,_,_=>List.nil_sublist _
 | y :: b, x :: a, ha, hb, h => by
  have h1:=tf.1 ha
  have h2:=tf.1 hb
  by_cases e:x=y
  ·subst e
   refine(MN h1.2 h2.2 fun z hz=>?_).cons_cons x
   rcases er.1 (h z (iI _ hz))with e|e
   ·subst e;have:=h1.1 z hz;omega
   ·exact e
  ·refine(MN ha h2.2 fun z hz=>?_).cons y
   rcases er.1 (h z hz)with e2|e2
   ·subst e2
    rcases er.1 hz with e3|e3
    ·exact absurd (rN e3) e
    ·have h3:=h1.1 z e3
     rcases er.1 (h x (by simp))with e4|e4
     ·omega
     ·have:=h2.1 x e4;omega
   ·exact e2
section
variable{s:ae} {w:W}
theorem apm (hw:Wk w) {rq:List Int} (ha:rq.Pairwise (· <·)) (bh:∀i∈rq,0≤i∧i<w.rs.l.length):dm (ew rq)=rq:=by
 have dJ:=hw.v.rl
 have aC:ew rq<2^62:=l6 (Ci bh) (gP (by decide) (by omega))
 refine yq xR ha fun x=>?_
 rw[tY aC]
 unfold ew
 rw[K3,Mt,l4,eA]
 constructor
 ·rintro⟨h0,i,hi,he⟩
  have h1:=zV he
  have h2:=bh i hi
  rw[show x=i by omega];exact hi
 ·intro hx
  exact⟨(bh x hx).1,x,hx,by simp⟩
theorem SE (hw:Wk w) {rq:List Int} (ha:rq.Pairwise (· <·)) (bh:∀i∈rq,0≤i∧i<w.rs.l.length):
  ((lV w rq 0 w.rs.l.length []).any fun x=>decide (x.length=rq.length))=c8 w (bf w) [] (ew rq):=by
 have xq:=fun X=>xU (X:=X) hw (rq:=rq) (k:=w.rs.l.length) (i:=0) (by omega) VP.nil (fun p hp=>absurd hp (by simp))
 have Kw:=apm hw ha bh
 apply uz.2
 rw[eA]
 constructor
 ·rintro⟨X,hX,hl⟩
  have hl:=zV hl
  rw[xq]at hX
  obtain⟨hv,t,Ph,ht⟩:=hX
  have Ph:X=t:=Ph
  subst Ph
  have jn:(X.map (·.req)).Sublist rq:=MN (by rw[qE];exact hv.gY) ha fun x hx=>by
   obtain⟨p,hp,rfl⟩:=cz.1 hx
   exact(ht p hp).2
  have he:X.map (·.req)=rq:=jn.eq_of_length (by rw[bR];exact hl)
  have jy:cH X=ew rq:=by
   apply Ml
   intro i
   unfold ew
   rw[nS,K3,Mt,l4,←he,CN];rfl
  rw[←jy]
  exact JV hw (pl:=[]) (rest:=X) hv
 ·intro hf
  obtain⟨rest,hv,ho,_⟩:=RN hw (pl:=[]) (k:=0) VP.nil (fun p hp=>absurd hp (by simp)) (Ci bh) (fun i hi=>absurd hi (df _)) hf
  have hr:=hv.reqs hw
  rw[ho,Kw]at hr
  refine⟨[]++rest,?_,by rw[hr,bR];simp⟩
  rw[xq]
  refine⟨hv,rest,rfl,fun p hp=>?_⟩
  refine⟨by have:=(hv.mem p (by simpa using hp)).1;omega,?_⟩
  rw[hr];exact cz.2 ⟨p,by simpa using hp,rfl⟩
theorem Sf {n:Nat}:(cg n).Pairwise (· <·):=by
 rw[qE]
 exact acu.imp fun h=>by omega
theorem Sg {n:Nat}:∀i∈cg n,0≤i∧i<n:=fun i hi=>by
 obtain⟨k,hk,rfl⟩:=cz.1 hi
 have:=oh.1 hk
 omega
theorem Ac {n:Nat}:(cg n).length=n:=by rw[bR,pP]
theorem ZI {n:Nat} (hn:n≤60):dm (2^n-1)=cg n:=by
 have aC:2^n-1<2^62:=by
  have:(2:Nat)^n≤2^60:=gP (by decide) hn
  omega
 refine yq xR Sf fun x=>?_
 rw[tY aC,TA]
 constructor
 ·rintro⟨h0,h1⟩
  have h1:=zV h1
  exact cz.2 ⟨x.toNat,oh.2 h1,by omega⟩
 ·intro hx
  have:=Sg x hx
  exact⟨this.1,by simp;omega⟩
def qq (w:W):Nat→Nat→Option (List Int)
 |_,0=>none
 |c,n+1=>match(aV c (cg w.rs.l.length)).find? fun g=>!c8 w (bf w) [] (ew g)with
  |some g=>some g
  |none=>qq w (c+1) n
def zR (w:W):Option (List Int):=qq w 1 w.rs.l.length
theorem OZ {n c:Nat} {g:List Int} (h:g∈aV c (cg n)):g.Pairwise (· <·)∧∀i∈g,0≤i∧i<n:=by
 have hs:=BE h
 exact⟨Sf.sublist hs,fun i hi=>Sg i (hs.subset hi)⟩
end
def eB (w:W) (pl:List P) (g:List Int) (req:Int):List (Sl P×Bool):=(List.range w.rs.l.length).map fun i:Nat=>(cr 3 (il w pl g (i:Int)),me pl g req (i:Int))
def pz (w:W) (pl:List P) (req:Int) (st:List P×Int) (g:List Int):List P×Int:=
 if((gZ w (eB w pl g req)).2.2&&(decide (st.2<(gZ w (eB w pl g req)).2.1)||(decide ((gZ w (eB w pl g req)).2.1=st.2)&&cw (gZ w (eB w pl g req)).1 st.1)))=true then((gZ w (eB w pl g req)).1,(gZ w (eB w pl g req)).2.1)else st
def sI (w:W) (pl:List P) (req:Int) (c:Nat):List P×Int:=(aV c (cg w.rs.l.length)).foldl (pz w pl req) ([],-1)
def pC (w:W) (pl:List P) (req:Int):Nat→Nat→Option (List P)
 |_,0=>none
 |c,d+1=>if 0≤(sI w pl req c).2 then some (sI w pl req c).1 else pC w pl req (c+1) d
section
variable{s:ae} {w:W}
theorem Bi {pl:List P} {g:List Int} {req:Int}:(eB w pl g req).length=w.rs.l.length:=by simp[eB]
theorem Jx {pl:List P} {g:List Int} {req:Int} {i:Nat} (h:i<w.rs.l.length):(eB w pl g req).getD i default=(cr 3 (il w pl g (i:Int)),me pl g req (i:Int)):=by
 unfold eB
 rw[List.getD,gX,HI h];rfl
theorem Fu {pl:List P} {g:List Int} {req:Int} {i:Int} (h0:0≤i) (h1:i<w.rs.l.length):cL (eB w pl g req) i=il w pl g i:=by
 unfold cL
 rw[Jx (by omega),iJ,show((i.toNat:Nat):Int)=i by omega]
theorem Vx {pl:List P} {g:List Int} {req:Int} {i:Nat} (h:i<w.rs.l.length):cO (eB w pl g req) i=me pl g req (i:Int):=by
 unfold cO
 rw[Jx h]
theorem x7.adP {pl:List P} {g:List Int} {req:Int} {all:List (Sl P×Bool)} (h:x7 w pl g req all):gZ w all=gZ w (eB w pl g req):=by
 refine adQ (by rw[h.len,Bi]) (fun i=>?_) (fun i=>?_)
 ·by_cases hi:i.toNat<w.rs.l.length
  ·obtain⟨c,h1,h2,_⟩:=h.get i.toNat hi
   unfold cL
   rw[Jx hi,List.getD,h1,iJ,kO]
   exact h2
  ·unfold cL
   rw[List.getD,List.getD,n8 (by rw[h.len];omega),n8 (by rw[Bi];omega)]
 ·by_cases hi:i<w.rs.l.length
  ·obtain⟨c,h1,h2,_⟩:=h.get i hi
   unfold cO
   rw[Jx hi,List.getD,h1,kO]
  ·unfold cO
   rw[List.getD,List.getD,n8 (by rw[h.len];omega),n8 (by rw[Bi];omega)]
theorem Jy (hw:Wk w) {pl:List P} (hp:jO pl) (dI:∀p∈pl,bZ w p) {g:List Int} {i:Nat} (hi:i<w.rs.l.length) {p:P} (h:p∈il w pl g (i:Int)):
  bZ w p∧p.req=i∧p.an.l.length≤1000:=by
 unfold il at h
 split at h
 ·have hm:=(eH.1 h).1
  obtain⟨h1,h2,_⟩:=kg hw (i:=(i:Int)) (by omega) (by omega) (eH.1 hm).1
  exact⟨h1,h2,(RP hw hi hm).2.1⟩
 ·rw[Option.mem_toList]at h
  have hm:=RJ (l:=pl) (i:=(i:Int)) h
  exact⟨dI p hm.1,hm.2,by have:=(hp.ok p hm.1).2;omega⟩
theorem aeX (hw:Wk w) {pl:List P} {g:List Int} {i:Nat} (hi:i<w.rs.l.length):(il w pl g (i:Int)).length≤13000:=by
 unfold il
 split
 ·have h1:=z7 hw (i:=(i:Int)) (by omega) (by omega)
  have h2:(bS w [] (i:Int)).length≤(dA w (i:Int)).length:=nu _ _
  have h3:=nu (fun x=>!Cu pl (i:Int) x) (bS w [] (i:Int))
  omega
 ·cases aL pl (i:Int)<;>simp
theorem x7.ok (hw:Wk w) {pl:List P} (hp:jO pl) (dI:∀p∈pl,bZ w p) {g:List Int} {req:Int} {all:List (Sl P×Bool)} (h:x7 w pl g req all):sX w 2 all:=by
 have hm:∀c∈all,∃(i:Nat) (d:Sl P),i<w.rs.l.length∧c.1=d∧d.l=il w pl g (i:Int)∧d.ok 3:=by
  intro c hc
  obtain⟨i,hi⟩:=n9 hc
  have hl:=(bd.1 hi).1
  rw[h.len]at hl
  obtain⟨d,h1,h2,h3⟩:=h.get i hl
  rw[hi]at h1
  injection h1 with h1
  exact⟨i,d,hl,by rw[h1],h2,h3⟩
 refine⟨.inr rfl,h.len,fun c hc=>?_,fun c hc=>?_,fun c hc p iR=>?_,fun i c hc p iR=>?_⟩
 ·obtain⟨i,d,h1,h2,h3,h4⟩:=hm c hc
  rw[h2];exact h4
 ·obtain⟨i,d,h1,h2,h3,h4⟩:=hm c hc
  rw[h2,h3];exact aeX hw h1
 ·obtain⟨i,d,h1,h2,h3,h4⟩:=hm c hc
  rw[h2,h3]at iR
  exact(Jy hw hp dI h1 iR).1
 ·have hl:=(bd.1 hc).1
  rw[h.len]at hl
  obtain⟨d,h1,h2,h3⟩:=h.get i hl
  rw[hc]at h1
  injection h1 with h1
  rw[h1,h2]at iR
  exact(Jy hw hp dI hl iR).2.1
theorem Xp {all:List (Sl P×Bool)} {sets:List Nat}:∀{n:Nat} {plan:List P},∀p∈mg w all sets n plan,p∈plan∨∃j:Nat,j<all.length∧p∈cL all (j:Int)
 |0,plan,p,h=>.inl h
 | n + 1, plan, p, h => by
  simp only[mg]at h
  split at h
  ·exact .inl h
  ·split at h
   ·rename_i q hq
    rcases Xp p h with h1|h1
    ·rcases dC.1 h1 with h1|h1
     ·exact .inl h1
     ·rw[dD]at h1
      subst h1
      unfold qt at hq
      obtain⟨j,j1,j2,j3,_⟩:=Rt hq
      exact .inr ⟨j,by omega,j3⟩
    ·exact .inr h1
   ·exact .inl h
theorem Xo {all:List (Sl P×Bool)} {sets:List Nat}:∀{n:Nat} {plan:List P},(mg w all sets n plan).length≤plan.length+n
 |0,plan=>aH _
 | n + 1, plan => by
  simp only[mg]
  split
  ·omega
  ·split
   ·rename_i q hq
    have:=Xo (all:=all) (sets:=sets) (n:=n) (plan:=plan++[q])
    rw[cu]at this
    simp at this;omega
   ·omega
theorem adX (hw:Wk w) {pl:List P} (hp:jO pl) (dI:∀p∈pl,bZ w p) {g:List Int} {req:Int}:oR (gZ w (eB w pl g req)).1:=by
 have dJ:=hw.v.rl
 have hm:∀p∈(gZ w (eB w pl g req)).1,bZ w p∧p.an.l.length≤1000:=by
  intro p h
  unfold gZ at h
  split at h
  ·exact absurd h (by simp)
  ·rcases Xp p h with h|⟨j,h1,h2⟩
   ·exact absurd h (by simp)
   ·rw[Bi]at h1
    rw[Fu (by omega) (by omega)]at h2
    have:=Jy hw hp dI h1 h2
    exact⟨this.1,this.2.2⟩
 refine⟨?_,fun p h=>⟨(hm p h).1.ok,(hm p h).2⟩,fun p h=>?_⟩
 ·unfold gZ
  split
  ·simp
  ·have:=Xo (w:=w) (all:=eB w pl g req) (sets:=(di w (eB w pl g req) (2^(eB w pl g req).length)).2) (n:=(eB w pl g req).length+1) (plan:=[])
   rw[Bi]at this⊢
   simp at this
   show(mg _ _ _ _ _).length≤1000
   omega
 ·have h:=(hm p h).1
  have:=h.r0;have:=h.r1;have:=h.s0;have:=h.s1
  exact⟨by omega,by omega⟩
end
section
variable{s:ae} {w:W}
abbrev GQ (ρ:Nat→AV):dq:=⟨true,none,ρ,[56],DA,uP⟩
structure vY (w:W) (pl:List P) (op:Own) (ep:Nat) (req:Int) (kb:Nat) (done:List (List Int)) (r:Rec):Prop where
 b1:r.boxes[1]? =some [.slice op ep (pl.map aj)]
 b2:r.boxes[2]? =some [I req]
 b3:r.boxes[3]? =some [OW w]
 kv:r.boxes[kb]? =some [aU 3 ((done.foldl (pz w pl req) ([],-1)).1.map aj)]
 km:r.boxes[kb+1]? =some [I (done.foldl (pz w pl req) ([],-1)).2]
 k3:3<kb
 tok:oR (done.foldl (pz w pl req) ([],-1)).1
theorem alc {X T:Rec→ae} {l d:Nat} {ρ:Nat→AV} {r:Rec} {g:List Int} {pl:List P} {op:Own} {ep:Nat} {req:Int} {kb:Nat} {done:List (List Int)} (hM:gu X d) (hX:∀r,busy l (T r)=X r) (hR:∀r,l7 l (GQ ρ) (T r)) (bH:∀r,Ok (T r)) (hw:Wk w) (hN:0<w.rs.l.length)
  (hp:jO pl) (dI:∀p∈pl,bZ w p) (q9:pl=[]∨ep=3) (lJ:g.length≤100) (h4:ρ 4=.ptr d 1 0) (h5:ρ 5=.ptr d 2 0) (h8:ρ 8=.ptr d 3 0) (dv:ρ 12=.ptr d kb 0) (oZ:ρ 13=.ptr d (kb+1) 0) (hI:vY w pl op ep req kb done r):
  ∃r',au AP (.yield l) [aU 1 (g.map aB)] (T r)=some (.v (.bool true),T r')∧vY w pl op ep req kb (done++[g]) r':=by
 have dJ:=hw.v.rl
 have xB:∀r,Ok (X r):=fun r=>by rw[←hX];exact(bH r).busy
 have Ka:∀r,(T r).ag.length=(X r).ag.length:=fun r=>by rw[←hX];rfl
 have mm:∀r ρ' q,ov l .normal ⟨ρ',(X r).push q⟩=some (.v (.bool true),T r):=fun r ρ' q=>by rw[←hX];exact JT (hR r)
 obtain⟨b1,b2,b3,bk,bm,k3,qj⟩:=hI
 have k1:∀q,((X r).push q).box d 1=some [.slice op ep (pl.map aj)]:=fun q=>by rw[hM.box,b1]
 have k2:∀q,((X r).push q).box d 2=some [I req]:=fun q=>by rw[hM.box,b2]
 have Cd:∀q,((X r).push q).box d 3=some [OW w]:=fun q=>by rw[hM.box,b3]
 generalize cp:done.foldl (pz w pl req) ([],-1)=st at*
 have kk:∀q,((X r).push q).box d kb=some [aU 3 (st.1.map aj)]:=fun q=>by rw[hM.box,bk]
 have km:∀q,((X r).push q).box d (kb+1)=some [I st.2]:=fun q=>by rw[hM.box,bm]
 have PO:∃o e,aU 1 (g.map aB)=.slice o e (g.map aB)∧(g=[]∨e=1):=by
  cases g with
  |nil=>exact⟨.aA,0,rfl,.inl rfl⟩
  |cons a t=>exact⟨.any,1,rfl,.inr rfl⟩
 obtain⟨og,eg,PO,nK⟩:=PO
 have hTp:=oR.of hw hp dI
 have dX:∀q,∃all,au AP (.fn 36) [OW w,.slice op ep (pl.map aj),.slice og eg (g.map aB),I req] ((X r).push q)=some (CH w .any 2 all,(X r).push q)∧x7 w pl g req all:=fun q=>at6 ((xB r).push q) hw hN hTp q9 nK (by omega)
 obtain⟨all,ef,gI⟩:=dX ⟨[],[]⟩
 have kE:au AP (.fn 29) [CH w .any 2 all] ((X r).push ⟨[],[]⟩)=some (A0 (gZ w (eB w pl g req)),(X r).push ⟨[],[]⟩):=by
  rw[←gI.adP]
  exact Vk ((xB r).push _) hw (gI.ok hw hp dI)
 have Pr:=adX hw hp dI (g:=g) (req:=req)
 have gK:(done++[g]).foldl (pz w pl req) ([],-1)=pz w pl req st g:=by rw[HG,cp];rfl
 unfold pz at gK
 generalize J9:gZ w (eB w pl g req)=R at*
 obtain⟨B1,V1,O1⟩:=R
 obtain⟨B0,V0⟩:=st
 simp only at gK Pr qj kk km bk bm
 have XR:∀q,au AP (.fn 37) [aU 3 (B1.map aj),aU 3 (B0.map aj),.fn 38 [] []] ((X r).push q)=some (I (cmpL B1 B0),(X r).push q):=fun q=>by
  rw[qG,qG]
  simp only[Sl.v,iJ]
  refine auv ((xB r).push q) ?_ ?_ Pr qj
  ·cases B1<;>first|exact .inl rfl|exact .inr rfl
  ·cases B0<;>first|exact .inl rfl|exact .inr rfl
 have aC:decide (cmpL B1 B0<0)=cw B1 B0:=by
  rw[uz,dU];exact VO
 have ai3:(aU 3 (B1.map aj)).isClosed=true:=by cases B1<;>rfl
 have zB:∀q,((X r).push q).store 1 (.ptr d kb 0) (aU 3 (B1.map aj))=some ((X ⟨r.boxes.set kb [aU 3 (B1.map aj)],r.toks⟩).push q):=fun q=>hM.store (by rw[Jw];simp[ai3]) (by rw[Jw];simp[kT,Y6]) bk (by rw[Jw];rfl)
 have GD:∀q,((X ⟨r.boxes.set kb [aU 3 (B1.map aj)],r.toks⟩).push q).store 1 (.ptr d (kb+1) 0) (I V1)=some ((X ⟨(r.boxes.set kb [aU 3 (B1.map aj)]).set (kb+1) [I V1],r.toks⟩).push q):=fun q=>hM.store (by rfl) (by rfl) (row:=[I V0]) (by show(r.boxes.set kb _)[kb+1]? =_;rw[eP (by omega),bm]) (by rfl)
 have hlk:=(bd.1 bk).1
 have Yb:=(bd.1 bm).1
 have take:∀c:Bool,c=true→(if c=true then(B1,V1)else(B0,V0))=(done++[g]).foldl (pz w pl req) ([],-1)→vY w pl op ep req kb (done++[g]) ⟨(r.boxes.set kb [aU 3 (B1.map aj)]).set (kb+1) [I V1],r.toks⟩:=by
  rintro c hc he
  rw[ak hc]at he
  refine⟨?_,?_,?_,?_,?_,k3,?_⟩<;>(try rw[←he])
  ·show((r.boxes.set kb _).set (kb+1) _)[1]? =_
   rw[eP (by omega),eP (by omega)];exact b1
  ·show((r.boxes.set kb _).set (kb+1) _)[2]? =_
   rw[eP (by omega),eP (by omega)];exact b2
  ·show((r.boxes.set kb _).set (kb+1) _)[3]? =_
   rw[eP (by omega),eP (by omega)];exact b3
  ·show((r.boxes.set kb _).set (kb+1) _)[kb]? =_
   rw[eP (by omega),mL hlk]
  ·show((r.boxes.set kb _).set (kb+1) _)[kb+1]? =_
   rw[mL (by rw[Ao];exact Yb)]
  ·exact Pr
 have leave:∀c:Bool,c=false→(if c=true then(B1,V1)else(B0,V0))=(done++[g]).foldl (pz w pl req) ([],-1)→vY w pl op ep req kb (done++[g]) r:=by
  rintro c hc he
  rw[aq (by rw[hc];decide)]at he
  exact⟨b1,b2,b3,by rw[←he];exact bk,by rw[←he];exact bm,k3,by rw[←he];exact qj⟩
 have YD:=fun h=>take _ h gK.symm
 have hle:=fun h=>leave _ h gK.symm
 rw[Ju (hR _) rfl,PO]
 simp only[go_sem,DA,FG (hR _),Cv,simprocAttr]
 simp only[OW,CH,A0]at ef kE Cd
 generalize hZ1:aU 3 (B1.map aj)=z1 at*
 generalize hZ0:aU 3 (B0.map aj)=z0 at*
 cases O1 with
 |false=>
  refine⟨r,?_,hle (by rfl)⟩
  simp only[go_sem,uP,hX,h4,h5,h8,k1,k2,Cd,ef,kE,mm,simprocAttr]
 | true =>
  cases h1:decide (V0<V1)with
  |true=>
   refine⟨_,?_,YD (by simp[h1])⟩
   simp only[go_sem,uP,hX,h4,h5,h8,dv,oZ,k1,k2,Cd,km,ef,kE,mm,h1,zB,GD,simprocAttr]
  | false =>
   cases h2:decide (V1=V0)with
   |false=>
    refine⟨r,?_,hle (by simp[h1,h2])⟩
    simp only[go_sem,uP,hX,h4,h5,h8,oZ,k1,k2,Cd,km,ef,kE,mm,h1,h2,simprocAttr]
   | true =>
    cases h3:cw B1 B0 with
    |false=>
     rw[h3]at aC
     refine⟨r,?_,hle (by simp[h1,h2,h3])⟩
     simp only[go_sem,uP,hX,h4,h5,h8,dv,oZ,k1,k2,Cd,kk,km,ef,kE,mm,h1,h2,XR,aC,simprocAttr]
    |true=>
     rw[h3]at aC
     refine⟨_,?_,YD (by simp[h1,h2,h3])⟩
     simp only[go_sem,uP,hX,h4,h5,h8,dv,oZ,k1,k2,Cd,kk,km,ef,kE,mm,h1,h2,XR,aC,zB,GD,simprocAttr]
end
section
variable{s:ae} {w:W}
abbrev GP (s:ae) (ρ:Nat→AV) (r:Rec):ae:=enterLoop (s.push r) (GQ ρ)
theorem ala {ρ:Nat→AV} {pl:List P} {op:Own} {ep:Nat} {req:Int} {kb:Nat} (hs:Ok s) (hw:Wk w) (hN:0<w.rs.l.length) (hp:jO pl) (dI:∀p∈pl,bZ w p) (q9:pl=[]∨ep=3)
  (h4:ρ 4=.ptr s.ag.length 1 0) (h5:ρ 5=.ptr s.ag.length 2 0) (h8:ρ 8=.ptr s.ag.length 3 0) (dv:ρ 12=.ptr s.ag.length kb 0) (oZ:ρ 13=.ptr s.ag.length (kb+1) 0):
  Hand AP s.loops.length (fun g=>aU 1 (g.map aB)) (GP s ρ) (fun done r=>vY w pl op ep req kb done r) (fun _ _=>false) (fun _ _ _=>False) (fun g=>g.length≤100) (s.ag.length+1) (s.loops.length+1) 100000:=by
 refine⟨fun r=>(hs.push _).enter,fun r=>by simp[GP,enterLoop,ae.push],fun r=>by simp[GP,enterLoop,ae.push],?_,fun _ _ _ _ _ _ _ _ h=>by cases h⟩
 intro done g r B ls hd hI hg _
 have hM:gu (fun r=>up (busy s.loops.length (enterLoop (s.push r) (GQ ρ))) B ls) s.ag.length:=Ro hs
 have hX:∀r,busy s.loops.length (up (GP s ρ r) B ls)=(fun r=>up (busy s.loops.length (enterLoop (s.push r) (GQ ρ))) B ls) r:=fun r=>SF (by simp[enterLoop,ae.push])
 exact alc (T:=fun r=>up (GP s ρ r) B ls) hM hX (fun r=>SG (Oy (hs.push r))) (fun r=>((hs.push _).enter).up) hw hN hp dI q9 hg h4 h5 h8 dv oZ hI
theorem alb {F:cM→St→Option (AV×ae)} {ks:List K} {ρ:Nat→AV} {pl:List P} {op:Own} {ep:Nat} {req:Int} {kb c:Nat} {r:Rec} (hs:Ok s) (hw:Wk w) (hN:0<w.rs.l.length) (hp:jO pl) (dI:∀p∈pl,bZ w p) (q9:pl=[]∨ep=3) (gI:c≤100)
  (h4:ρ 4=.ptr s.ag.length 1 0) (h5:ρ 5=.ptr s.ag.length 2 0) (h8:ρ 8=.ptr s.ag.length 3 0) (dv:ρ 12=.ptr s.ag.length kb 0) (oZ:ρ 13=.ptr s.ag.length (kb+1) 0)
  (h55:ρ 55=.fn 62 [] [.bg [I c] 0,.bg [(cr 1 (cg w.rs.l.length)).v aB] 0]) (hI:vY w pl op ep req kb [] r):
  ∃r',vY w pl op ep req kb (aV c (cg w.rs.l.length)) r'∧go AP F (.c (.rangeFunc (.tmp 55) [56] DA uP)::ks) ⟨ρ,s.push r⟩=go AP F ks ⟨ρ,s.push r'⟩:=by
 have dJ:=hw.v.rl
 have tV:(cg w.rs.l.length)=[]∨(cr 1 (cg w.rs.l.length)).e=1:=by
  cases cg w.rs.l.length with
  |nil=>exact .inl rfl
  |cons _ _=>exact .inr rfl
 have mn:=xf (k:=c) (l:=cg w.rs.l.length)
 have ajo:(aV c (cg w.rs.l.length)).length≤2^12:=by
  refine kt mn ?_
  rw[Ac]
  exact gP (by decide) (by omega)
 obtain⟨b,r',aP,hE⟩:=OY (ala hs hw hN hp dI q9 h4 h5 h8 dv oZ) (cnt:=c) (by omega) (l:=cg w.rs.l.length) (o:=(cr 1 (cg w.rs.l.length)).o) (e:=(cr 1 (cg w.rs.l.length)).e) (i:=r) (done:=[]) tV (by rw[Ac];omega) (by simp;omega) hI (fun g hg=>by
  have hl:=qU hg
  omega)
 obtain⟨rfl,BJ⟩:=hE.never (fun _ _=>rfl)
 have hv:(cr 1 (cg w.rs.l.length)).v aB=.slice (cr 1 (cg w.rs.l.length)).o (cr 1 (cg w.rs.l.length)).e ((cg w.rs.l.length).map aB):=by simp only[Sl.v,iJ]
 refine⟨r',BJ,?_⟩
 rw[J1 (x:=.tmp 55) h55,hv]
 refine(gS (Option.bind · _) aP).trans ?_
 simp only[et]
 exact J0 (m:=s.push r') (lp:=GQ ρ) rfl rfl rfl
def vH (w:W) (pl:List P) (req:Int):Int:=if eO w=0 then(if(fh w pl).2=0 then cond (wi req 0 (w.rs.l.length-1)) 0 6 else(fh w pl).2)else eO w
def KS (w:W) (pl:List P) (req:Int):Option (List P):=pC w pl req 0 (w.rs.l.length+1)
def KT (w:W) (pl:List P) (req:Int):AV:=.tuple [aU 3 ((if vH w pl req=0 then(KS w pl req).getD []else[]).map aj),I (if vH w pl req=0 then(if(KS w pl req).isSome=true then 0 else 12)else vH w pl req)]
theorem asR {pl:List P} {op:Own} {ep:Nat} {req:Int} (hs:Ok s) (hw:w.Ok) (hf:w.ju) (hp:jO pl) (q9:pl=[]∨ep=3):au AP (.fn 11) [w.v,.slice op ep (pl.map aj),I req] s=some (KT w pl req,s):=by
 have ho:∀r,au AP (.fn 27) [w.v] (s.push r)=some (.tuple [if(de w).2.2=0 then OW w else NP,I (eO w)],s.push r):=fun r=>Lz (hs.push r) hw hf
 simp only[W.v,cJ,Sl.v]at ho
 have jj:∀(m:ae) (a b:Int),au AP (.fn 32) [.slice .full 1 [[I a],[I b]]] m=some (I (if a=0 then b else a),m):=fun m a b=>by rw[mH,W8]
 unfold KT
 by_cases h0:eO w=0
 ·have jo := Ae h0
  have bW:Wk w:=⟨hw,hf,pL jo⟩
  have dJ:=bW.v.rl
  rw[ak jo,h0]at ho
  have F0:∀r,au AP (.fn 31) [OW w,.slice op ep (pl.map aj)] (s.push r)=some (.tuple [I (fh w pl).1,I (fh w pl).2],s.push r):=fun r=>SH (hs.push r) bW hp q9
  have fR:∀r,au AP (.fn 33) [OW w,I req] (s.push r)=some (I (cond (wi req 0 (w.rs.l.length-1)) 0 6),s.push r):=fun r=>SK bW
  have hE:vH w pl req=if(fh w pl).2=0 then cond (wi req 0 (w.rs.l.length-1)) 0 6 else(fh w pl).2:=by unfold vH;rw[ak h0]
  generalize he:(if(fh w pl).2=0 then cond (wi req 0 (w.rs.l.length-1)) 0 6 else(fh w pl).2)=e at*
  have XV:∀m:ae,au AP (.fn 32) [.slice .full 1 [[I (fh w pl).2],[I (cond (wi req 0 (w.rs.l.length-1)) 0 6)]]] m=some (I e,m):=fun m=>by rw[jj,he]
  rw[hE]
  by_cases hz:e=0
  ·subst hz
   have XP:(fh w pl).2=0:=by
    apply n6
    intro h
    rw[aq h]at he;exact h he
   rw[ak XP]at he
   have jV:wi req 0 (w.rs.l.length-1)=true:=by
    cases hq:wi req 0 (w.rs.l.length-1)with
    |true=>rfl
    |false=>rw[hq]at he;exact absurd he (by decide)
   have B4:=iE.1 jV
   have hN:0<w.rs.l.length:=by omega
   have bh:=VA bW hp XP
   have dI:∀p∈pl,bZ w p:=fun p lN=>by
    obtain⟨j,hj⟩:=n9 lN
    exact(Lk bW (hp.ok p lN).1 (by have:=(hp.ok p lN).2;omega) (bh j p hj)).1
   have Gk:∀r,au AP (.fn 34) [I ((2^w.rs.l.length-1:Nat):Int)] (s.push r)=some ((cr 1 (cg w.rs.l.length)).v aB,s.push r):=fun r=>by
    rw[Ly (by have:(2:Nat)^w.rs.l.length≤2^12:=gP (by decide) dJ;omega) (hs.push r),ZI (by omega),qG]
   have jC:=wC (k:=w.rs.l.length) (by omega)
   have jn:IntKind.i64.wrap (((2^w.rs.l.length:Nat):Int)-1)=((2^w.rs.l.length-1:Nat):Int):=by
    have h1:(2:Nat)^w.rs.l.length≤2^12:=gP (by decide) dJ
    have h2:1≤(2:Nat)^w.rs.l.length:=Mq
    generalize(2:Nat)^w.rs.l.length=q at*
    rw[ch (by omega) (by omega)];omega
   have hl:(cr 1 (cg w.rs.l.length)).l.length=w.rs.l.length:=by rw[iJ,Ac]
   have outer:∀(d c:Nat) ρ bx tk,c+d=w.rs.l.length+1→(ρ 4=.ptr s.ag.length 1 0∧ρ 5=.ptr s.ag.length 2 0∧ρ 8=.ptr s.ag.length 3 0∧ρ 10=(cr 1 (cg w.rs.l.length)).v aB∧ρ 11=I c∧bx[1]? =some [.slice op ep (pl.map aj)]∧bx[2]? =some [I req]∧bx[3]? =some [OW w])→
     go AP OC (.c (.loop DB)::anP) ⟨ρ,s.push ⟨bx,tk⟩⟩=some (.tuple [aU 3 (((pC w pl req c d).getD []).map aj),I (if(pC w pl req c d).isSome=true then 0 else 12)],s):=by
    intro d
    induction d with
    |zero=>
     rintro c ρ bx tk hc ⟨g4,g5,g8,g10,g11,e1,e2,e3⟩
     have d1:decide ((c:Int)≤(w.rs.l.length:Int))=false:=by simp;omega
     rw[go_loop]
     simp only[Sl.v]at g10
     simp only[go_sem,DB,IV,g10,g11,hl,d1,simprocAttr]
     rfl
    | succ d ih =>
     rintro c ρ bx tk hc ⟨g4,g5,g8,g10,g11,e1,e2,e3⟩
     have d1:decide ((c:Int)≤(w.rs.l.length:Int))=true:=by simp;omega
     have w1:IntKind.i64.wrap ((c:Int)+1)=((c+1:Nat):Int):=by rw[ch (by omega) (by omega)];omega
     have zA:∀r,au AP (.fn 35) [(cr 1 (cg w.rs.l.length)).v aB,I (c:Int)] (s.push r)=some (.fn 62 [] [.bg [I c] 0,.bg [(cr 1 (cg w.rs.l.length)).v aB] 0],s.push r):=fun r=>Sk (Sl.close (n:=1) wj) (hs.push r)
     have PU:=(bd.1 e3).1
     have Pc:vY w pl op ep req bx.length [] ⟨bx++[[.slice .aA 0 []],[I (-1)]],tk⟩:=
      ⟨uT e1,uT e2,uT e3,by simp;rfl,by simp,by omega,⟨by simp,fun p h=>absurd h (by simp),fun p h=>absurd h (by simp)⟩⟩
     have gA:∀ρ':Nat→AV,ρ' 4=.ptr s.ag.length 1 0→ρ' 5=.ptr s.ag.length 2 0→ρ' 8=.ptr s.ag.length 3 0→ρ' 10=(cr 1 (cg w.rs.l.length)).v aB→ρ' 11=I c→ρ' 12=.ptr s.ag.length bx.length 0→ρ' 13=.ptr s.ag.length (bx.length+1) 0→ρ' 55=.fn 62 [] [.bg [I c] 0,.bg [(cr 1 (cg w.rs.l.length)).v aB] 0]→
       go AP OC (.c (.rangeFunc (.tmp 55) [56] DA uP)::Y9) ⟨ρ',s.push ⟨bx++[[.slice .aA 0 []],[I (-1)]],tk⟩⟩=some (.tuple [aU 3 (((pC w pl req c (d+1)).getD []).map aj),I (if(pC w pl req c (d+1)).isSome=true then 0 else 12)],s):=by
      intro ρ' g4 g5 g8 g10 g11 g12 g13 g55
      obtain⟨⟨Vh,tk'⟩,BJ,mZ⟩:=alb (F:=OC) (ks:=Y9) hs bW hN hp dI q9 (show c≤100 by omega) g4 g5 g8 g12 g13 g55 Pc
      rw[mZ]
      obtain⟨i1,i2,i3,ik,im,_,_⟩:=BJ
      simp only at i1 i2 i3 ik im
      have hF:(aV c (cg w.rs.l.length)).foldl (pz w pl req) ([],-1)=sI w pl req c:=rfl
      rw[hF]at ik im
      by_cases hm:0≤(sI w pl req c).2
      ·have PC:decide ((0:Int)≤(sI w pl req c).2)=true:=by simpa using hm
       have hW:pC w pl req c (d+1)=some (sI w pl req c).1:=by simp only[pC,ak hm]
       rw[hW]
       simp only[kO,we]
       have da:=fun m:ae=>Rb (es:=3) (xs:=(sI w pl req c).1.map aj) (m:=m)
       have Gj:=fun m:ae=>Ra (es:=3) (xs:=(sI w pl req c).1.map aj) (m:=m)
       obtain⟨z,hz⟩:∃z,aU 3 ((sI w pl req c).1.map aj)=z:=⟨_,rfl⟩
       simp only[hz]at da Gj ik⊢
       simp only[go_sem,IW,g12,g13,ik,im,PC,Gj,simprocAttr]
      ·have PC:decide ((0:Int)≤(sI w pl req c).2)=false:=by simpa using hm
       have hW:pC w pl req c (d+1)=pC w pl req (c+1) d:=by simp only[pC,aq hm]
       rw[hW]
       simp only[go_sem,IW,Nt,g11,g13,im,PC,w1,simprocAttr]
       refine ih (c+1) _ _ _ (by omega) ?_
       exact⟨g4,g5,g8,g10,rfl,i1,i2,i3⟩
     rw[go_loop]
     simp only[Sl.v]at g10 zA gA
     simp only[go_sem,DB,g10,g11,hs,hl,d1,zA,rV,rB,rJ,gN,simprocAttr]
     exact gA _ g4 g5 g8 g10 g11 rfl rfl rfl
   have d0:decide (¬(0:Int)=0)=false:=by decide
   have Yj:=outer (w.rs.l.length+1) 0
   simp only[bP]
   rw[aM (show AP 11=some yK from rfl) rfl]
   simp only[OW,W.v,cJ,Sl.v]at ho F0 fR Gk Yj⊢
   simp only[go_sem,Dz,hs,ho,F0,fR,XV,bn,eW,jC,jn,Gk,simprocAttr]
   refine Yj _ _ _ (by omega) ?_
   exact⟨rfl,rfl,rfl,rfl,rfl,rfl,rfl,rfl⟩
  ·have hd:decide (¬e=0)=true:=by simp[hz]
   simp only[hz,db]
   rw[aM (show AP 11=some yK from rfl) rfl]
   simp only[OW,W.v,cJ,Sl.v]at ho F0 fR⊢
   simp only[go_sem,Dz,hs,ho,F0,fR,XV,bn,eW,hd,simprocAttr]
   rfl
 ·have hE:vH w pl req=eO w:=by unfold vH;rw[aq h0]
  rw[hE]
  simp only[h0,db]
  rw[aM (show AP 11=some yK from rfl) rfl]
  simp only[W.v,cJ,Sl.v]
  by_cases jo:(de w).2.2=0
  ·rw[ak jo]at ho
   simp only[OW,Sl.v]at ho
   simp only[go_sem,Dz,hs,ho,bn,h0,iC,simprocAttr]
   rfl
  ·rw[aq jo]at ho
   simp only[go_sem,Dz,hs,ho,bn,h0,iC,simprocAttr]
   rfl
end
section
variable{s:ae} {w:W}
abbrev zS (ρ:Nat→AV):dq:=⟨true,none,ρ,[38],wG,wH⟩
abbrev iB (w:W) (x:AV):List (List AV):=[cJ w,[x],[I 0],[OW w,.slice (cr 2 (bf w)).o (cr 2 (bf w)).e ((bf w).map fT)]]
theorem apu {X T:Rec→ae} {l d:Nat} {ρ:Nat→AV} {tk:List (Option Nat)} {g:List Int} (hM:gu X d) (hX:∀r,busy l (T r)=X r) (hR:∀r,l7 l (zS ρ) (T r)) (bH:∀r,Ok (T r)) (hw:Wk w)
  (hg:∀i∈g,0≤i∧i<w.rs.l.length) (qf:g≠[]) (lJ:g.length≤100) (h2:ρ 2=.ptr d 1 0) (h3:ρ 3=.ptr d 2 0) (h6:ρ 6=.ptr d 3 0):
  au AP (.yield l) [aU 1 (g.map aB)] (T ⟨iB w (.slice .aA 0 []),tk⟩)=if c8 w (bf w) [] (ew g)=true then some (.v (.bool true),T ⟨iB w (.slice .aA 0 []),tk⟩)else some (.v (.bool false),over l .ret (T ⟨iB w (aU 1 (g.map aB)),tk⟩)):=by
 have dJ:=hw.v.rl
 have aiK:aU 1 (g.map aB)=.slice .any 1 (g.map aB):=by cases g with|nil=>exact absurd rfl qf|cons _ _=>rfl
 rw[aiK]
 have xB:∀r,Ok (X r):=fun r=>by rw[←hX];exact(bH r).busy
 have Ka:∀r,(T r).ag.length=(X r).ag.length:=fun r=>by rw[←hX];rfl
 have mm:∀r ρ' q,ov l .normal ⟨ρ',(X r).push q⟩=some (.v (.bool true),T r):=fun r ρ' q=>by rw[←hX];exact JT (hR r)
 have jk:∀r ρ' q,ov l .ret ⟨ρ',(X r).push q⟩=some (.v (.bool false),over l .ret (T r)):=fun r ρ' q=>by rw[←hX];exact WO
 have k3:∀x q,((X ⟨iB w x,tk⟩).push q).box d 3=some [OW w,.slice (cr 2 (bf w)).o (cr 2 (bf w)).e ((bf w).map fT)]:=fun x q=>by rw[hM.box];rfl
 have cX:∀q,((X ⟨iB w (.slice .aA 0 []),tk⟩).push q).store 1 (.ptr d 1 0) (.slice .any 1 (g.map aB))=some ((X ⟨iB w (.slice .any 1 (g.map aB)),tk⟩).push q):=fun q=>hM.store (by rfl) (by rfl) (row:=[.slice .aA 0 []]) (by rfl) (by rfl)
 have rK:∀q,((X ⟨iB w (.slice .any 1 (g.map aB)),tk⟩).push q).store 1 (.ptr d 2 0) (I 0)=some ((X ⟨iB w (.slice .any 1 (g.map aB)),tk⟩).push q):=fun q=>hM.store (by rfl) (by rfl) (row:=[I 0]) (by rfl) (by rfl)
 have vm:∀r,au AP (.fn 40) [CH w (cr 2 (bf w)).o (cr 2 (bf w)).e (bf w),.slice .aA 0 [],I ((ew g:Nat):Int)] ((X ⟨iB w (.slice .aA 0 []),tk⟩).push r)=some (B (c8 w (bf w) [] (ew g)),(X ⟨iB w (.slice .aA 0 []),tk⟩).push r):=fun r=>
  Js (plan:=[]) (o2:=.aA) (e2:=0) ((xB _).push r) hw (OR hw) (Ci hg) (fun y hy=>absurd hy (by simp)) (.inl rfl) (by simp)
 have key:∀(j:Nat) ρ' m,j≤g.length→(ρ' 2=.ptr d 1 0∧ρ' 3=.ptr d 2 0∧ρ' 6=.ptr d 3 0∧ρ' 9=.slice .any 1 (g.map aB)∧ρ' 10=I ((ew (g.take j):Nat):Int)∧ρ' 39=.slice .any 1 (g.map aB)∧ρ' 40=I g.length∧ρ' 41=I j∧m=(X ⟨iB w (.slice .aA 0 []),tk⟩).push ⟨[],[]⟩)→
   go AP (ov l) (.c (.loop DD)::anR) ⟨ρ',m⟩=if c8 w (bf w) [] (ew g)=true then some (.v (.bool true),T ⟨iB w (.slice .aA 0 []),tk⟩)else some (.v (.bool false),over l .ret (T ⟨iB w (.slice .any 1 (g.map aB)),tk⟩)):=by
  refine cq g.length _ _ ?_ ?_
  ·rintro j ρ' m hj ⟨g2,g3,g6,g9,g10,OV,FK,JY,rfl⟩ ih
   obtain⟨a,ha⟩:=get_some hj
   have qX:=hg a (bU ha)
   have hr:=cD (o:=.any) (es:=1) (f:=aB) ha
   have bh:∀i∈g.take j,0≤i∧i<w.rs.l.length:=fun i hi=>hg i (td hi)
   have jU:ew (g.take j)<2^63:=G7 (Ci bh) (by omega)
   have fQ:2^a.toNat<2^63:=CU (by decide) (by omega)
   have jC:=wC (k:=a.toNat) (by omega)
   rw[show((a.toNat:Nat):Int)=a by omega]at jC
   have sy:=Ie jU fQ
   have oJ:=bK hj (show(g.length:Int)<_ by omega)
   simp(maxSteps:=1000000) only[go_sem,DD,g10,OV,FK,JY,aS hj,hr,jC,sy,oJ,Nat.reduceEqDiff,↓reduceIte]
   refine ih _ _ ?_
   exact⟨g2,g3,g6,g9,by rw[fF ha,ZF];rfl,OV,FK,rfl,rfl⟩
  ·rintro ρ' m ⟨g2,g3,g6,g9,g10,OV,FK,JY,rfl⟩
   rw[jb]at g10
   simp only[OW,CH,iB]at k3 vm cX rK mm jk xB⊢
   cases hf:c8 w (bf w) [] (ew g)with
   |true=>
    rw[hf]at vm
    simp(maxSteps:=1000000) only[go_sem,DD,IY,g6,g10,FK,JY,bN,k3,vm,nZ,mm,Nat.reduceEqDiff,↓reduceIte]
   |false=>
    rw[hf]at vm
    simp(maxSteps:=1000000) only[go_sem,DD,IY,g2,g3,g6,g9,g10,FK,JY,bN,k3,vm,nY,cX,rK,jk,Nat.reduceEqDiff,reduceCtorEq,↓reduceIte]
 rw[Ju (hR _) rfl]
 simp(maxSteps:=1000000) only[go_sem,wG,FG (hR _),Cv,↓reduceIte]
 simp(maxSteps:=1000000) only[go_sem,wH,hX,Nat.reduceEqDiff,↓reduceIte]
 refine key 0 _ _ (bp _) ?_
 exact⟨h2,h3,h6,rfl,rfl,rfl,rfl,rfl,rfl⟩
theorem Ends.ZX {α ι:Type} {I:List α→ι→Prop} {st:α→Bool} {O:List α→α→ι→Prop} {i:ι}:∀{xs done:List α},Ends I (fun _ x=>st x) O done xs true i→xs.find? st=none
 |[],_,_=>rfl
 | x :: r, done, h => by
  simp only[Ends]at h
  cases hs:st x with
  |true=>rw[ak hs]at h;exact absurd h.1 (by decide)
  |false=>
   rw[aq (by rw[hs];decide)]at h
   rw[An,hs]
   exact Ends.ZX h
theorem Ends.find {α ι:Type} {I:List α→ι→Prop} {st:α→Bool} {O:List α→α→ι→Prop} {i:ι}:∀{xs done:List α},Ends I (fun _ x=>st x) O done xs false i→∃x dn,xs.find? st=some x∧O dn x i
 |[],_,h=>absurd h.1 (by decide)
 | x :: r, done, h => by
  simp only[Ends]at h
  cases hs:st x with
  |true=>rw[ak hs]at h;exact⟨x,done,by rw[An,hs],h.2⟩
  |false=>
   rw[aq (by rw[hs];decide)]at h
   rw[An,hs]
   exact Ends.find h
def apr:Option (List Int)→AV
 |none=>.slice .aA 0 []
 |some g=>aU 1 (g.map aB)
def apq:Option (List Int)→Option cM
 |none=>none
 |some _=>some .ret
abbrev zQ (s:ae) (w:W) (ρ:Nat→AV) (j:Option (List Int)):ae:=enterLoop (s.push ⟨iB w (apr j),[]⟩) ⟨j.isNone,apq j,ρ,[38],wG,wH⟩
theorem aps {ρ:Nat→AV} (hs:Ok s) (hw:Wk w) (h2:ρ 2=.ptr s.ag.length 1 0) (h3:ρ 3=.ptr s.ag.length 2 0) (h6:ρ 6=.ptr s.ag.length 3 0):
  Hand AP s.loops.length (fun g=>aU 1 (g.map aB)) (zQ s w ρ) (fun _ j=>j=none) (fun _ g=>!c8 w (bf w) [] (ew g)) (fun _ g j=>j=some g)
   (fun g=>g≠[]∧g.length≤100∧∀i∈g,0≤i∧i<w.rs.l.length) (s.ag.length+1) (s.loops.length+1) 100000:=by
 have main:∀(g:List Int) (B:List Rec) (ls:List dq),g≠[]∧g.length≤100∧(∀i∈g,0≤i∧i<w.rs.l.length)→
   au AP (.yield s.loops.length) [aU 1 (g.map aB)] (up (zQ s w ρ none) B ls)=if c8 w (bf w) [] (ew g)=true then some (.v (.bool true),up (zQ s w ρ none) B ls)else some (.v (.bool false),up (zQ s w ρ (some g)) B ls):=by
  rintro g B ls ⟨qf,lJ,hg⟩
  have hM:gu (fun r=>up (busy s.loops.length (enterLoop (s.push r) (zS ρ))) B ls) s.ag.length:=Ro hs
  have hX:∀r,busy s.loops.length (up (enterLoop (s.push r) (zS ρ)) B ls)=(fun r=>up (busy s.loops.length (enterLoop (s.push r) (zS ρ))) B ls) r:=fun r=>SF (by simp[enterLoop,ae.push])
  have h:=apu (T:=fun r=>up (enterLoop (s.push r) (zS ρ)) B ls) (tk:=[]) (g:=g) hM hX (fun r=>SG (Oy (hs.push r))) (fun r=>((hs.push _).enter).up) hw hg qf lJ h2 h3 h6
  refine h.trans ?_
  have Qg:over s.loops.length .ret (up (enterLoop (s.push ⟨iB w (aU 1 (g.map aB)),[]⟩) (zS ρ)) B ls)=up (zQ s w ρ (some g)) B ls:=by
   rw[at1 (by simp[enterLoop,ae.push])]
   congr 1
   exact aqV (m:=s.push _)
  rw[Qg];rfl
 refine⟨fun j=>(hs.push _).enter,fun j=>by simp[zQ,enterLoop,ae.push],fun j=>by simp[zQ,enterLoop,ae.push],?_,?_⟩
 ·rintro done g j B ls _ rfl hX cp
  refine⟨none,?_,rfl⟩
  rw[main g B ls hX,ak (by simpa using cp)]
 ·rintro done g j B ls _ rfl hX cp
  refine⟨some g,?_,rfl⟩
  rw[main g B ls hX,aq (by simpa using cp)]
theorem apt {F:cM→St→Option (AV×ae)} {ks:List K} {ρ:Nat→AV} {c:Nat} (hs:Ok s) (hw:Wk w) (hc:1≤c) (gI:c≤100) (h2:ρ 2=.ptr s.ag.length 1 0) (h3:ρ 3=.ptr s.ag.length 2 0) (h6:ρ 6=.ptr s.ag.length 3 0)
  (mV:ρ 37=.fn 62 [] [.bg [I c] 0,.bg [(cr 1 (cg w.rs.l.length)).v aB] 0]):
  (∃g,((aV c (cg w.rs.l.length)).find? fun g=>!c8 w (bf w) [] (ew g))=some g∧go AP F (.c (.rangeFunc (.tmp 37) [38] wG wH)::ks) ⟨ρ,s.push ⟨iB w (.slice .aA 0 []),[]⟩⟩=F .ret ⟨ρ,s.push ⟨iB w (aU 1 (g.map aB)),[]⟩⟩)∨
  (((aV c (cg w.rs.l.length)).find? fun g=>!c8 w (bf w) [] (ew g))=none∧go AP F (.c (.rangeFunc (.tmp 37) [38] wG wH)::ks) ⟨ρ,s.push ⟨iB w (.slice .aA 0 []),[]⟩⟩=go AP F ks ⟨ρ,s.push ⟨iB w (.slice .aA 0 []),[]⟩⟩):=by
 have dJ:=hw.v.rl
 have tV:(cg w.rs.l.length)=[]∨(cr 1 (cg w.rs.l.length)).e=1:=by
  cases cg w.rs.l.length with
  |nil=>exact .inl rfl
  |cons _ _=>exact .inr rfl
 have mn:=xf (k:=c) (l:=cg w.rs.l.length)
 have ajo:(aV c (cg w.rs.l.length)).length≤2^12:=by
  refine kt mn ?_
  rw[Ac]
  exact gP (by decide) (by omega)
 obtain⟨b,j,aP,hE⟩:=OY (aps hs hw h2 h3 h6) (cnt:=c) (by omega) (l:=cg w.rs.l.length) (o:=(cr 1 (cg w.rs.l.length)).o) (e:=(cr 1 (cg w.rs.l.length)).e) (i:=none) (done:=[]) tV (by rw[Ac];omega) (by simp;omega) rfl (fun g hg=>by
  have hl:=qU hg
  refine⟨fun e=>by rw[e]at hl;simp at hl;omega,by omega,(OZ hg).2⟩)
 have hv:(cr 1 (cg w.rs.l.length)).v aB=.slice (cr 1 (cg w.rs.l.length)).o (cr 1 (cg w.rs.l.length)).e ((cg w.rs.l.length).map aB):=by simp only[Sl.v,iJ]
 rw[J1 (x:=.tmp 37) mV,hv]
 cases b with
 |true=>
  have hn:=Ends.ZX (st:=fun g=>!c8 w (bf w) [] (ew g)) hE
  have hj:j=none:=hE.all
  subst hj
  refine .inr ⟨hn,(gS (Option.bind · _) aP).trans ?_⟩
  simp only[et]
  exact J0 (m:=s.push ⟨iB w (.slice .aA 0 []),[]⟩) (lp:=zS ρ) rfl rfl rfl
 |false=>
  obtain⟨g,dn,hf,hO⟩:=Ends.find (st:=fun g=>!c8 w (bf w) [] (ew g)) hE
  have hj:j=some g:=hO
  subst hj
  refine .inl ⟨g,hf,(gS (Option.bind · _) aP).trans ?_⟩
  simp only[et]
  exact Xf (m:=s.push ⟨iB w (aU 1 (g.map aB)),[]⟩) (lp:=⟨false,some .ret,ρ,[38],wG,wH⟩) rfl rfl
theorem K4 {c d:Nat} {g:List Int} (h:((aV c (cg w.rs.l.length)).find? fun g=>!c8 w (bf w) [] (ew g))=some g):qq w c (d+1)=some g:=by simp only[qq,h]
theorem Rp {c d:Nat} (h:((aV c (cg w.rs.l.length)).find? fun g=>!c8 w (bf w) [] (ew g))=none):qq w c (d+1)=qq w (c+1) d:=by simp only[qq,h]
def Rq (w:W):AV:=.tuple [aU 1 ((if eO w=0 then(zR w).getD []else[]).map aB),I (if eO w=0 then(if(zR w).isSome=true then 0 else 12)else eO w)]
theorem asS (hs:Ok s) (hw:w.Ok) (hf:w.ju):au AP (.fn 14) [w.v] s=some (Rq w,s):=by
 have ho:∀r,au AP (.fn 27) [w.v] (s.push r)=some (.tuple [if(de w).2.2=0 then OW w else NP,I (eO w)],s.push r):=fun r=>Lz (hs.push r) hw hf
 simp only[W.v,cJ,Sl.v]at ho
 unfold Rq
 by_cases h0:eO w=0
 ·have jo:=Ae h0
  have bW:Wk w:=⟨hw,hf,pL jo⟩
  have dJ:=bW.v.rl
  rw[ak jo,h0]at ho
  have jk:∀r,au AP (.fn 28) [OW w] (s.push r)=some (CH w (cr 2 (bf w)).o (cr 2 (bf w)).e (bf w),s.push r):=fun r=>by
   rw[SJ (hs.push r) bW,qG];simp only[Sl.v,iJ]
  have Gk:∀r,au AP (.fn 34) [I ((2^w.rs.l.length-1:Nat):Int)] (s.push r)=some ((cr 1 (cg w.rs.l.length)).v aB,s.push r):=fun r=>by
   rw[Ly (by have:(2:Nat)^w.rs.l.length≤2^12:=gP (by decide) dJ;omega) (hs.push r),ZI (by omega),qG]
  have jC:=wC (k:=w.rs.l.length) (by omega)
  have jn:IntKind.i64.wrap (((2^w.rs.l.length:Nat):Int)-1)=((2^w.rs.l.length-1:Nat):Int):=by
   have h1:(2:Nat)^w.rs.l.length≤2^12:=gP (by decide) dJ
   have h2:1≤(2:Nat)^w.rs.l.length:=Mq
   generalize(2:Nat)^w.rs.l.length=q at*
   rw[ch (by omega) (by omega)];omega
  simp only[h0,bP]
  have outer:∀(d c:Nat) ρ m,c+d=w.rs.l.length+1→1≤c→(ρ 2=.ptr s.ag.length 1 0∧ρ 3=.ptr s.ag.length 2 0∧ρ 6=.ptr s.ag.length 3 0∧ρ 7=(cr 1 (cg w.rs.l.length)).v aB∧ρ 8=I c∧m=s.push ⟨iB w (.slice .aA 0 []),[]⟩)→
    go AP OD (.c (.loop DC)::anQ) ⟨ρ,m⟩=some (.tuple [aU 1 (((qq w c d).getD []).map aB),I (if(qq w c d).isSome=true then 0 else 12)],s):=by
   intro d
   induction d with
   |zero=>
    rintro c ρ m hc ef ⟨g2,g3,g6,g7,g8,rfl⟩
    have hl:(cr 1 (cg w.rs.l.length)).l.length=w.rs.l.length:=by rw[iJ,Ac]
    have d1:decide ((c:Int)≤(w.rs.l.length:Int))=false:=by simp;omega
    rw[go_loop]
    simp only[Sl.v,iB]at g7⊢
    simp(maxSteps:=1000000) only[go_sem,DC,IX,g2,g3,g7,g8,hs,hl,d1,Nat.reduceEqDiff,↓reduceIte]
    rfl
   | succ d ih =>
    rintro c ρ m hc ef ⟨g2,g3,g6,g7,g8,rfl⟩
    have hl:(cr 1 (cg w.rs.l.length)).l.length=w.rs.l.length:=by rw[iJ,Ac]
    have d1:decide ((c:Int)≤(w.rs.l.length:Int))=true:=by simp;omega
    have w1:IntKind.i64.wrap ((c:Int)+1)=((c+1:Nat):Int):=by rw[ch (by omega) (by omega)];omega
    have zA:∀r,au AP (.fn 35) [(cr 1 (cg w.rs.l.length)).v aB,I (c:Int)] (s.push r)=some (.fn 62 [] [.bg [I c] 0,.bg [(cr 1 (cg w.rs.l.length)).v aB] 0],s.push r):=fun r=>Sk (Sl.close (n:=1) wj) (hs.push r)
    have akr:=fun ρ' h2 h3 h6 mV=>apt (s:=s) (w:=w) (F:=OD) (ks:=Za) (ρ:=ρ') (c:=c) hs bW ef (by omega) h2 h3 h6 mV
    have gA:∀ρ':Nat→AV,ρ' 2=.ptr s.ag.length 1 0→ρ' 3=.ptr s.ag.length 2 0→ρ' 6=.ptr s.ag.length 3 0→ρ' 7=(cr 1 (cg w.rs.l.length)).v aB→ρ' 8=I c→ρ' 37=.fn 62 [] [.bg [I c] 0,.bg [(cr 1 (cg w.rs.l.length)).v aB] 0]→
      go AP OD (.c (.rangeFunc (.tmp 37) [38] wG wH)::Za) ⟨ρ',s.push ⟨iB w (.slice .aA 0 []),[]⟩⟩=some (.tuple [aU 1 (((qq w c (d+1)).getD []).map aB),I (if(qq w c (d+1)).isSome=true then 0 else 12)],s):=by
     intro ρ' g2 g3 g6 g7 g8 g37
     rcases akr ρ' g2 g3 g6 g37 with⟨g,PL,mZ⟩|⟨PL,mZ⟩
     ·rw[mZ,K4 PL]
      have da:=fun m:ae=>Rb (es:=1) (xs:=g.map aB) (m:=m)
      have Gj:=fun m:ae=>Ra (es:=1) (xs:=g.map aB) (m:=m)
      simp only[kO,we,iB]
      obtain⟨z,hz⟩:∃z,aU 1 (g.map aB)=z:=⟨_,rfl⟩
      simp only[hz]at da Gj⊢
      simp(maxSteps:=1000000) only[go_sem,g2,g3,Gj,↓reduceIte]
     ·rw[mZ,Rp PL]
      simp(maxSteps:=1000000) only[go_sem,Nv,g8,w1,↓reduceIte]
      refine ih (c+1) _ _ (by omega) (by omega) ?_
      exact⟨g2,g3,g6,g7,rfl,rfl⟩
    rw[go_loop]
    simp only[Sl.v,iB]at g7 zA gA⊢
    simp(maxSteps:=1000000) only[go_sem,DC,g7,g8,hl,d1,zA,Nat.reduceEqDiff,↓reduceIte]
    exact gA _ g2 g3 g6 g7 g8 rfl
  rw[aM (show AP 14=some A9 from rfl) rfl]
  simp only[OW,CH,Sl.v]at ho jk Gk
  simp(maxSteps:=1000000) only[go_sem,Nu,hs,ho,jk,Gk,jC,jn,bn,eW,Nat.reduceEqDiff,Nat.reduceAdd,↓reduceIte]
  refine outer w.rs.l.length 1 _ _ (by omega) (by omega) ?_
  exact⟨rfl,rfl,rfl,rfl,rfl,rfl⟩
 ·rw[aM (show AP 14=some A9 from rfl) rfl]
  simp only[h0,db]
  simp(maxSteps:=1000000) only[go_sem,Nu,hs,ho,bn,h0,iC,Nat.reduceEqDiff,Nat.reduceAdd,↓reduceIte]
  rfl
end
section
variable{s:ae} {w:W}
theorem WZ (hw:Wk w) (h0:(de w).2.2=0) {rq:List Int} (ha:rq.Pairwise (· <·)) (bh:∀i∈rq,0≤i∧i<w.rs.l.length):c8 (cW w) (bf (cW w)) [] (ew rq)=c8 w (bf w) [] (ew rq):=by
 rw[←SE hw ha bh,←SE (hw.c h0) ha (by rw[uU];exact bh),uU,Lo hw (by omega) (fun x hx=>absurd hx (by simp))]
theorem find_congr {α:Type} {f g:α→Bool}:∀{l:List α},(∀x∈l,f x=g x)→l.find? f=l.find? g
 |[],_=>rfl
 |a::r,h=>by
  rw[An,An,h a (by simp),find_congr fun x hx=>h x (iI _ hx)]
theorem ZL (hw:Wk w) (h0:(de w).2.2=0):∀{d c:Nat},qq (cW w) c d=qq w c d
 |0,_=>rfl
 | d + 1, c => by
  have h:((aV c (cg (cW w).rs.l.length)).find? fun g=>!c8 (cW w) (bf (cW w)) [] (ew g))=(aV c (cg w.rs.l.length)).find? fun g=>!c8 w (bf w) [] (ew g):=by
   rw[uU]
   refine find_congr fun g hg=>?_
   obtain⟨ga,gin⟩:=OZ hg
   rw[WZ hw h0 ga gin]
  have ih:=ZL hw h0 (d:=d) (c:=c+1)
  cases hf:(aV c (cg w.rs.l.length)).find? fun g=>!c8 w (bf w) [] (ew g)with
  |none=>rw[Rp hf,Rp (by rw[h,hf]),ih]
  |some g=>rw[K4 hf,K4 (by rw[h,hf])]
theorem apo (hw:Wk w) (h0:(de w).2.2=0):zR (cW w)=zR w:=by
 unfold zR;rw[uU,ZL hw h0]
end
section
variable{s:ae} {w:W}
theorem Hk {n:Nat}:∀i:Nat,i<n→(i:Int)∈cg n:=fun i hi=>cz.2 ⟨i,oh.2 hi,rfl⟩
theorem adU (hw:Wk w):VP w (ny w).1∧bw w (ny w).1=(ny w).2.1∧∀R,VP w R→bw w R≤(ny w).2.1∧(bw w R=(ny w).2.1→cw R (ny w).1=false):=by
 have xq:=fun X=>xU (X:=X) hw (rq:=cg w.rs.l.length) (k:=w.rs.l.length) (i:=0) (by omega) VP.nil (fun p hp=>absurd hp (by simp))
 cases hp:lV w (cg w.rs.l.length) 0 w.rs.l.length []with
 |nil=>exact absurd hp aaB
 | cons b r =>
  rw[hp]at xq
  have gg:∀X,X∈b::r↔VP w X:=fun X=>by
   rw[xq X]
   constructor
   ·rintro⟨h,_⟩;exact h
   ·intro h
    refine⟨h,X,rfl,fun p hp=>?_⟩
    obtain⟨h0,h1,_⟩:=h.mem p hp
    have:=Hk (n:=w.rs.l.length) p.req.toNat (by omega)
    rw[show((p.req.toNat:Nat):Int)=p.req by omega]at this
    exact⟨by omega,this⟩
  have hb:=adW hw Hk hp
  obtain⟨h1,h2,h3,h4,h5⟩:=DV (w:=w) (l:=r) (b:=b)
  rw[hb]
  refine⟨(gg _).1 (by
   rcases h1 with h|h
   ·rw[h];simp
   ·exact iI _ h),rfl,fun R hR=>?_⟩
  rcases er.1 ((gg R).2 hR)with rfl|h
  ·exact⟨h2,h4⟩
  ·exact⟨h3 R h,h5 R h⟩
theorem aou {l:List P}:iV l=-1∨∃p∈l,iV l=p.req:=by
 unfold iV
 cases h:l.getLast? with
 |none=>exact .inl rfl
 |some p=>exact .inr ⟨p,HN h,rfl⟩
theorem VP.Og (hw:Wk w) {R:List P} (h:VP w R):fh w R=(0,0)∧jO R:=by
 have hz:zs w [] R:=acg fun j x hj=>by
  rw[kq]
  obtain⟨a,b,fE⟩:∃a b,R=a++x::b∧a=R.take j:=⟨R.take j,R.drop (j+1),by rw[←eR hj,HS],rfl⟩
  rw[←fE.2]
  have hR:=fE.1
  have fq:x∈R:=bU hj
  obtain⟨h0,h1,hx⟩:=h.mem x fq
  have kU:=h.gY
  have Kx:=h.nc
  rw[hR,gp]at kU Kx
  refine arc hw h0 h1 hx ?_ ?_
  ·rcases aou (l:=a)with e|⟨p,hp,e⟩
   ·rw[e];omega
   ·rw[e];exact kU.2.2 p hp x (by simp)
  ·exact uZ.2 fun p hp=>Kx.2.2 p hp x (by simp)
 refine⟨aeZ hz,by have:=auQ hw hz;omega,fun p hp=>?_⟩
 obtain⟨h0,h1,hx⟩:=h.mem p hp
 obtain⟨dI,_,_,_,_,_,jn,_⟩:=kg hw h0 h1 hx
 have hq:=hw.tD.an _ (W.qB h0 h1)
 have:=jn.length_le
 exact⟨dI.ok,by omega⟩
theorem J4:∀{l g:List Int},g.Sublist l→g∈aV g.length l
 |_,_,.slnil=>by simp[aV]
 |_,_,.cons (l₁:=g) (l₂:=l) a h=>by
  have ih:=J4 h
  cases g with
  |nil=>simp[aV]
  |cons b g=>simp only[eo,aV,dC];exact .inr ih
 |_,_,.cons_cons (l₁:=g) (l₂:=l) a h=>by
  have ih:=J4 h
  simp only[eo,aV,dC,cz]
  exact .inl ⟨g,ih,rfl⟩
abbrev OP (w:W) (g:List Int):Bool:=c8 w (bf w) [] (ew g)
end
def dz (a b:List P) (n:Nat):Nat:=((List.range n).filter fun i:Nat=>dS a b (i:Int)).length
theorem Od {a b:List P} {n:Nat}:dz a b (n+1)=dz a b n+if dS a b (n:Int)=true then 1 else 0:=by
 unfold dz
 rw[CS,ns,cu]
 congr 1
 cases h:dS a b (n:Int)<;>simp[h]
theorem Vw {a b:List P} {n:Nat}:dz a b n≤n:=by
 unfold dz
 have:=nu (fun i:Nat=>dS a b (i:Int)) (List.range n)
 rwa [pP]at this
def Jl (w:W) (l:List P) (x b:List P):Bool:=
 decide (dz l x w.rs.l.length<dz l b w.rs.l.length)||(decide (dz l x w.rs.l.length=dz l b w.rs.l.length)&&(decide (bw w b<bw w x)||(decide (bw w x=bw w b)&&cw x b)))
section
variable{s:ae} {w:W}
theorem ar4 {a b:List P} {o1 o2:Own} {e1 e2:Nat} (hs:Ok s) (dJ:w.rs.l.length≤1000) (h1:a=[]∨e1=3) (h2:b=[]∨e2=3) (la:a.length≤1000) (lb:b.length≤1000) (oa:∀p∈a,p.an.ok 1∧p.an.l.length≤1000) (ob:∀p∈b,p.an.ok 1∧p.an.l.length≤1000):
  au AP (.fn 19) [w.v,.slice o1 e1 (a.map aj),.slice o2 e2 (b.map aj)] s=some (I (dz a b w.rs.l.length),s):=by
 have key:∀(j:Nat) ρ m,j≤w.rs.l.length→(ρ 1=.slice o1 e1 (a.map aj)∧ρ 2=.slice o2 e2 (b.map aj)∧ρ 3=.ptr s.ag.length 0 0∧ρ 7=I (dz a b j)∧ρ 8=I j∧m=s.push ⟨[cJ w],[]⟩)→
   go AP agk (.c (.loop Dc)::anj) ⟨ρ,m⟩=some (I (dz a b w.rs.l.length),s):=by
  refine cq w.rs.l.length _ _ ?_ ?_
  ·rintro j ρ m hj ⟨g1,g2,g3,g7,g8,rfl⟩ ih
   have hc:∀r,au AP (.fn 47) [.slice o1 e1 (a.map aj),.slice o2 e2 (b.map aj),I j] (s.push r)=some (B (dS a b (j:Int)),s.push r):=fun r=>ase (hs.push r) h1 h2 la lb oa ob
   have bW:=bK hj (show(w.rs.l.length:Int)<_ by omega)
   have hle:=Vw (a:=a) (b:=b) (n:=j)
   have hw7:IntKind.i64.wrap ((dz a b j:Int)+1)=((dz a b j+1:Nat):Int):=by rw[ch (by omega) (by omega)];omega
   have KI:=Od (a:=a) (b:=b) (n:=j)
   simp only[cJ,Sl.v]
   cases hg:dS a b (j:Int)with
   |true=>
    rw[hg]at hc KI
    simp only[go_sem,Dc,g1,g2,g3,g7,g8,aS hj,hc,bW,hw7,simprocAttr]
    refine ih _ _ ?_
    exact⟨g1,g2,g3,by rw[KI];rfl,rfl,rfl⟩
   |false=>
    rw[hg]at hc KI
    simp only[go_sem,Dc,g1,g2,g3,g8,aS hj,hc,bW,simprocAttr]
    refine ih _ _ ?_
    exact⟨g1,g2,g3,by rw[KI];exact g7,rfl,rfl⟩
  ·rintro ρ m ⟨g1,g2,g3,g7,g8,rfl⟩
   simp only[cJ,Sl.v]
   simp only[go_sem,Dc,MZ,g3,g7,g8,bN,simprocAttr]
 rw[aM (show AP 19=some Eb from rfl) rfl]
 simp only[W.v,cJ,Sl.v]at key⊢
 simp only[go_sem,Uf,simprocAttr]
 refine key 0 _ _ (bp _) ?_
 exact⟨rfl,rfl,rfl,rfl,rfl,rfl⟩
end
theorem Vj {p:P} (h:p.an=fB p.an.l):cP p=p:=by unfold cP;rw[←h]
theorem aph {l:List P} (h:∀p∈l,cP p=p):l.map cP=l:=by
 rw[Ap h,List.map_id']
section
variable{w:W}
theorem VP.Jr (hw:Wk w) {l:List P} (h:VP w l):l.map cP=l:=aph fun p hp=>by
 obtain⟨h0,h1,h2⟩:=h.mem p hp
 exact Vj (kg hw h0 h1 h2).2.2.2.2.2.1
end
section
variable{w:W}
theorem Ob {p q:P} (h:kP p=kP q):cP p=cP q:=by
 unfold kP at h
 injection h with h1 h2
 injection h2 with h2 h3
 unfold cP
 rw[h3]
 cases p;cases q
 simp only at h1 h2⊢
 rw[h1,h2]
theorem VP.can (hw:Wk w) {R:List P} (h:VP w R):∀p∈R,cP p=p:=fun p hp=>by
 obtain⟨h0,h1,h2⟩:=h.mem p hp
 exact Vj (kg hw h0 h1 h2).2.2.2.2.2.1
theorem adz {R:List P} (h:R.Pairwise fun a b=>a.req<b.req) {p q:P} (hp:p∈R) (hq:q∈R) (he:p.req=q.req):p=q:=by
 obtain⟨i,hi⟩:=n9 hp
 obtain⟨j,hj⟩:=n9 hq
 obtain⟨sv,xo⟩:=bd.1 hi
 obtain⟨hZ,xt⟩:=bd.1 hj
 have mo:=CQ.1 h
 rcases Mp i j with eD|eD|eD
 ·have:=mo i j sv hZ eD
  rw[xo,xt]at this;omega
 ·subst eD
  rw[hi]at hj;injection hj
 ·have:=mo j i hZ sv eD
  rw[xo,xt]at this;omega
theorem VP.aL (hw:Wk w) {R:List P} (h:VP w R) {p:P} (hp:p∈R):aL R p.req=some p:=by
 obtain⟨q,hq⟩:=Lh (l:=R) (i:=p.req) ⟨p,hp,rfl⟩
 obtain⟨q1,q2⟩:=nT hq
 rw[hq,adz h.gY q1 hp q2]
theorem RI {R:List P} {i:Int} (h:∀p∈R,p.req≠i):Sc.aL R i=none:=by
 unfold Sc.aL
 rw[yb]
 intro p hp he
 exact h p hp (by simpa using he)
theorem aeW (hw:Wk w) {pl:List P} (cI:VP w pl) {g:List Int} {req:Int}:CA w (eB w pl g req):=by
 have bH:=(cI.Og hw).2
 refine⟨Bi,fun i h0 h1 p hp=>?_,fun i h0 h1=>?_⟩
 ·rw[Fu h0 h1]at hp
  obtain⟨k,rfl⟩:=Int.eq_ofNat_of_zero_le h0
  have:=Jy hw bH (cI.iD hw) (i:=k) (by omega) hp
  exact⟨this.1,this.2.1⟩
 ·rw[Fu h0 h1]
  unfold il
  split
  ·refine Ak _ ?_
   rw[Lm]
   exact aaJ hw h0 h1
  ·cases Sc.aL pl i<;>simp
theorem Mz (hw:Wk w) {pl:List P} (cI:VP w pl) {g:List Int} {req:Int} (h0:0≤req) (h1:req<w.rs.l.length) {R:List P}:
  VF w (eB w pl g req) R↔VP w R∧(∀i:Nat,i<w.rs.l.length→dS pl R (i:Int)=vG g (i:Int))∧∃p∈R,p.req=req:=by
 constructor
 ·rintro⟨⟨m,a,n⟩,f⟩
  have hm:∀p∈R,0≤p.req∧p.req<w.rs.l.length∧p∈il w pl g p.req:=fun p hp=>by
   obtain⟨q0,q1,q2⟩:=m p hp
   rw[Fu q0 q1]at q2
   exact⟨q0,q1,q2⟩
  have hR:VP w R:=by
   refine⟨fun p hp=>?_,a,n⟩
   obtain⟨q0,q1,q2⟩:=hm p hp
   refine⟨q0,q1,?_⟩
   unfold il at q2
   split at q2
   ·have:=(eH.1 q2).1
    rwa [Lm]at this
   ·rw[Option.mem_toList]at q2
    have hq:=(nT q2).1
    exact(cI.mem p hq).2.2
  have hf:∀i:Nat,i<w.rs.l.length→me pl g req (i:Int)=false→∃p∈R,p.req=(i:Int):=fun i hi hc=>f i hi (by rw[Vx hi];exact hc)
  refine⟨hR,fun i hi=>?_,?_⟩
  · -- which are changed
   cases bh:vG g (i:Int)with
   | true =>
    unfold dS
    rw[sY,r5]
    intro he
    cases hp:Sc.aL pl (i:Int)with
    |none=>
     obtain⟨p,tR,sA⟩:=hf i hi (by unfold me;rw[bh,ak rfl,hp];rfl)
     have:=hR.aL hw tR
     rw[sA]at this
     rw[hp,this]at he
     simp at he
    | some q =>
     rw[hp]at he
     cases hr:Sc.aL R (i:Int)with
     |none=>rw[hr]at he;simp at he
     |some p=>
      rw[hr]at he
      simp only[dE,fe]at he
      obtain⟨p1,p2⟩:=nT hr
      have:=(hm p p1).2.2
      unfold il at this
      rw[p2,ak bh]at this
      have:=(eH.1 this).2
      unfold Cu at this
      rw[hp]at this
      simp only[we,kO,ia,sY,r5]at this
      exact this (Bk.2 he.symm)
   | false =>
    unfold dS
    rw[SZ,dU]
    cases hp:Sc.aL pl (i:Int)with
    | none =>
     have:Sc.aL R (i:Int)=none:=RI fun p tR sA=>by
      have:=(hm p tR).2.2
      unfold il at this
      rw[sA,aq (by rw[bh];decide),hp]at this
      simp at this
     rw[this]
    |some q=>
     obtain⟨p,tR,sA⟩:=hf i hi (by unfold me;rw[bh,aq (by decide),hp];rfl)
     have h2:=hR.aL hw tR
     rw[sA]at h2
     have:=(hm p tR).2.2
     unfold il at this
     rw[sA,aq (by rw[bh];decide),hp]at this
     simp only[Option.toList_some,dD]at this
     rw[h2,this]
  ·obtain⟨p,hp,he⟩:=hf req.toNat (by omega) (by
    have e:((req.toNat:Nat):Int)=req:=by omega
    unfold me
    rw[e,bM rfl]
    split<;>simp)
   exact⟨p,hp,by omega⟩
 ·rintro⟨hR,hc,p0,zq,jz⟩
  have dP:∀p∈R,Sc.aL R p.req=some p:=fun p hp=>hR.aL hw hp
  refine⟨⟨fun p hp=>?_,hR.gY,hR.nc⟩,fun i hi fl=>?_⟩
  ·obtain⟨q0,q1,q2⟩:=hR.mem p hp
   refine⟨q0,q1,?_⟩
   rw[Fu q0 q1]
   have lE:=hc p.req.toNat (by omega)
   rw[show((p.req.toNat:Nat):Int)=p.req by omega]at lE
   unfold dS at lE
   rw[dP p hp]at lE
   unfold il
   cases bh:vG g p.req with
   | true =>
    rw[ak rfl]
    rw[bh,sY,r5]at lE
    refine eH.2 ⟨by rw[Lm];exact q2,?_⟩
    unfold Cu
    cases hq:Sc.aL pl p.req with
    |none=>rfl
    |some q=>
     rw[hq]at lE
     simp only[we,kO,ia,sY,r5]
     intro e
     exact lE (by rw[dE,dE,Bk.1 e])
   | false =>
    rw[aq (by decide)]
    rw[bh,SZ,dU]at lE
    cases hq:Sc.aL pl p.req with
    |none=>rw[hq]at lE;simp at lE
    |some q=>
     rw[hq]at lE
     simp only[dE,fe]at lE
     obtain⟨k1,k2⟩:=nT hq
     have:=Ob lE
     rw[cI.can hw q k1,hR.can hw p hp]at this
     rw[this];simp
  ·rw [Vx hi] at fl
   by_cases X3:(i:Int)=req
   ·exact⟨p0,zq,by omega⟩
   ·have lE:=hc i hi
    unfold me at fl
    unfold dS at lE
    have hex:Sc.aL R (i:Int)≠none:=by
     intro hn
     rw[hn]at lE
     cases bh:vG g (i:Int)with
     | true =>
      rw[bh,ak rfl,bX X3,nY,qD]at fl
      have:Sc.aL pl (i:Int)=none:=by
       cases hq:Sc.aL pl (i:Int)with
       |none=>rfl
       |some q=>rw[hq]at fl;simp at fl
      rw[bh,this]at lE
      simp at lE
     | false =>
      rw[bh,aq (by decide),bX X3,nY,qD]at fl
      cases hq:Sc.aL pl (i:Int)with
      |none=>rw[hq]at fl;simp at fl
      |some q=>
       rw[bh,hq]at lE
       simp at lE
    obtain⟨p,hp⟩:=Option.ne_none_iff_exists'.1 hex
    obtain⟨k1,k2⟩:=nT hp
    exact⟨p,k1,k2⟩
end
theorem adO {y:List P}:∀{a b:List P},a.map kP=b.map kP→cw a y=cw b y:=by
 induction y with
 | nil =>
  intro a b h
  cases a with
  |nil=>cases b with
   |nil=>rfl
   |cons=>simp at h
  |cons=>cases b with
   |nil=>simp at h
   |cons=>rfl
 | cons z t ih =>
  intro a b h
  cases a with
  |nil=>cases b with
   |nil=>rfl
   |cons=>simp at h
  | cons x r => cases b with
   |nil=>simp at h
   |cons x' r'=>
    simp only[iH,v7]at h
    simp only[cw,h.1,ih h.2]
theorem Vb {a b c:List P} (h1:cw a b=false) (h2:cw b c=false):cw a c=false:=by
 cases h:cw a c with
 |false=>rfl
 |true=>
  cases hb:cw b a with
  |true=>rw[DT hb h]at h2;exact absurd h2 (by decide)
  |false=>rw[adO (N7 h1 hb),h2]at h;exact absurd h (by decide)
section
variable{w:W}
def vh (R:List P) (req:Int):Prop:=∃p∈R,p.req=req
theorem FW {R:List P} {req:Int}:(aL R req).isSome=true↔vh R req:=by
 constructor
 ·intro h
  obtain⟨p,hp⟩:=oj.1 h
  exact⟨p,(nT hp).1,(nT hp).2⟩
 ·intro h
  obtain⟨p,hp⟩:=Lh h
  rw[hp];rfl
structure yk (w:W) (pl:List P) (req:Int) (Q:List P):Prop where
 vp:VP w Q
 has:vh Q req
 min:∀R,VP w R→vh R req→Jl w pl R Q=false
theorem Jm {pl a b:List P}:Jl w pl a b=false↔¬dz pl a w.rs.l.length<dz pl b w.rs.l.length∧(dz pl a w.rs.l.length=dz pl b w.rs.l.length→¬bw w b<bw w a∧(bw w a=bw w b→cw a b=false)):=by
 unfold Jl
 rw[LZ,r5]
 refine and_congr_right fun _=>?_
 constructor
 ·intro h he
  rw[bM he,ia,LZ,r5]at h
  refine⟨h.1,fun hv=>?_⟩
  have:=h.2
  rw[bM hv,ia]at this
  exact this
 ·intro h
  by_cases he:dz pl a w.rs.l.length=dz pl b w.rs.l.length
  ·obtain⟨h1,h2⟩:=h he
   rw[bM he,ia,LZ,r5]
   refine⟨h1,?_⟩
   by_cases hv:bw w a=bw w b
   ·rw[bM hv,h2 hv];rfl
   ·rw[bX hv];rfl
  ·rw[bX he];rfl
theorem ME (hw:Wk w) {X:List P}:X∈lV w (cg w.rs.l.length) 0 w.rs.l.length []↔VP w X:=by
 rw[xU hw (by omega) VP.nil (fun p hp=>absurd hp (by simp))]
 constructor
 ·exact fun h=>h.1
 ·intro h
  refine⟨h,X,rfl,fun p hp=>?_⟩
  obtain⟨h0,h1,_⟩:=h.mem p hp
  exact⟨by omega,cz.2 ⟨p.req.toNat,oh.2 (by omega),by omega⟩⟩
theorem VF.nn (hw:Wk w) {all:List (Sl P×Bool)} {R:List P} (h:VF w all R):0≤bw w R:=by
 rw[←h.vc.val hw]
 exact(Hs hw fun i hi=>zP h.vc.qw hi).1
theorem adR (hw:Wk w) {pl:List P} (cI:VP w pl) {g:List Int} {req:Int} (h0:0≤req) (h1:req<w.rs.l.length):
  ((∀R,¬VF w (eB w pl g req) R)∧gZ w (eB w pl g req)=([],0,false))∨
  ∃Q,VF w (eB w pl g req) Q∧gZ w (eB w pl g req)=(Q,bw w Q,true)∧∀R,VF w (eB w pl g req) R→bw w R≤bw w Q∧(bw w R=bw w Q→cw R Q=false):=by
 have hA:=aeW hw cI (g:=g) (req:=req)
 by_cases hex:∃R,VF w (eB w pl g req) R
 ·right
  obtain⟨M,hM,hMv⟩:=apl hw hA hex
  classical
  have gg:∀X,X∈(lV w (cg w.rs.l.length) 0 w.rs.l.length []).filter (fun R=>decide (VF w (eB w pl g req) R))↔VF w (eB w pl g req) X:=fun X=>by
   rw[eH,dU,ME hw]
   exact⟨fun h=>h.2,fun h=>⟨((Mz hw cI h0 h1).1 h).1,h⟩⟩
  cases hL:(lV w (cg w.rs.l.length) 0 w.rs.l.length []).filter (fun R=>decide (VF w (eB w pl g req) R))with
  |nil=>
   have:=(gg M).2 hM
   rw[hL]at this;exact absurd this (by simp)
  | cons b r =>
   rw[hL]at gg
   obtain⟨s1,s2,s3,s4,s5⟩:=DV (w:=w) (l:=r) (b:=b)
   have hQ:VF w (eB w pl g req) (jx w b r):=(gg _).1 (by
    rcases s1 with h|h
    ·rw[h];simp
    ·exact iI _ h)
   have fi:∀R,VF w (eB w pl g req) R→bw w R≤bw w (jx w b r)∧(bw w R=bw w (jx w b r)→cw R (jx w b r)=false):=fun R hR=>by
    rcases er.1 ((gg R).2 hR)with e|e
    ·rw[e];exact⟨s2,s4⟩
    ·exact⟨s3 R e,s5 R e⟩
   have hv:bw w (jx w b r)=pE w (eB w pl g req):=by
    have h1:=(fi M hM).1
    have h2:=hQ.le_max hw hA
    omega
   refine⟨jx w b r,hQ,?_,fi⟩
   rw[adT hw hA hQ hv fun R hR tK=>(fi R hR).2 (by omega),hv]
 ·left
  have gy:∀R,¬VF w (eB w pl g req) R:=fun R h=>hex ⟨R,h⟩
  exact⟨gy,adV hw hA gy⟩
def CK (w:W) (pl:List P) (req:Int) (done:List (List Int)) (st:List P×Int):Prop:=
 (st=([],-1)∧∀g∈done,∀R,¬VF w (eB w pl g req) R)∨
 ((∃g∈done,VF w (eB w pl g req) st.1)∧st.2=bw w st.1∧0≤st.2∧∀g∈done,∀R,VF w (eB w pl g req) R→bw w R≤bw w st.1∧(bw w R=bw w st.1→cw R st.1=false))
theorem ak8 (hw : Wk w) {pl : List P} (cI : VP w pl) {req : Int} (h0 : 0 ≤ req) (h1 : req < w.rs.l.length) {done : List (List Int)} {st : List P × Int} {g : List Int} (h : CK w pl req done st) : CK w pl req (done ++ [g]) (pz w pl req st g) := by
 unfold pz
 rcases adR hw cI (g:=g) h0 h1 with⟨gy,hb⟩|⟨Q,hQ,hb,fi⟩
 ·rw[hb]
  simp only[kn,ez,db]
  rcases h with⟨h1,h2⟩|⟨⟨g0,qf,hv⟩,h2,h3,h4⟩
  ·left
   refine⟨h1,fun g' bB=>?_⟩
   rcases dC.1 bB with bB|bB
   ·exact h2 g' bB
   ·rw[dD.1 bB];exact gy
  ·right
   refine⟨⟨g0,oP _ qf,hv⟩,h2,h3,fun g' bB R hR=>?_⟩
   rcases dC.1 bB with bB|bB
   ·exact h4 g' bB R hR
   ·rw[dD.1 bB]at hR;exact absurd hR (gy R)
 ·rw [hb]
  have xA:=hQ.nn hw
  simp only[ia]
  rcases h with⟨e,h2⟩|⟨⟨g0,qf,hv⟩,h2,h3,h4⟩
  ·rw[e,ak (by simp;left;omega)]
   right
   refine⟨⟨g,by simp,hQ⟩,rfl,xA,fun g' bB R hR=>?_⟩
   rcases dC.1 bB with bB|bB
   ·exact absurd hR (h2 g' bB R)
   ·rw[dD.1 bB]at hR;exact fi R hR
  ·by_cases hc:(decide (st.2<bw w Q)||(decide (bw w Q=st.2)&&cw Q st.1))=true
   ·rw [ak hc]
    right
    simp only[sZ,dB,dU]at hc
    refine⟨⟨g,by simp,hQ⟩,rfl,xA,fun g' bB R hR=>?_⟩
    rcases dC.1 bB with bB|bB
    ·obtain⟨k1,k2⟩:=h4 g' bB R hR
     rcases hc with hc|⟨hc,oB⟩
     ·exact⟨by show bw w R≤bw w Q;omega,fun hv=>by have:bw w R=bw w Q:=hv;omega⟩
     ·refine⟨by show bw w R≤bw w Q;omega,fun hv=>?_⟩
      have hv:bw w R=bw w Q:=hv
      show cw R Q=false
      have aiT:cw st.1 Q=false:=by
       cases hx:cw st.1 Q with
       |false=>rfl
       |true=>
        have:=DT oB hx
        rw[N6]at this;exact absurd this (by decide)
      exact Vb (k2 (by omega)) aiT
    ·rw[dD.1 bB]at hR;exact fi R hR
   ·rw[aq hc]
    right
    have pg:¬st.2<bw w Q∧(bw w Q=st.2→cw Q st.1=false):=by
     simp only[sZ,dB,dU,not_or,not_and]at hc
     exact⟨hc.1,fun e=>by simpa using hc.2 e⟩
    refine⟨⟨g0,oP _ qf,hv⟩,h2,h3,fun g' bB R hR=>?_⟩
    rcases dC.1 bB with bB|bB
    ·exact h4 g' bB R hR
    ·rw[dD.1 bB]at hR
     obtain⟨k1,k2⟩:=fi R hR
     exact⟨by omega,fun hv=>Vb (k2 (by omega)) (pg.2 (by omega))⟩
theorem ak7 (hw:Wk w) {pl:List P} (cI:VP w pl) {req:Int} (h0:0≤req) (h1:req<w.rs.l.length) (c:Nat):CK w pl req (aV c (cg w.rs.l.length)) (sI w pl req c):=by
 have key:∀(r done:List (List Int)) st,CK w pl req done st→CK w pl req (done++r) (r.foldl (pz w pl req) st):=by
  intro r
  induction r with
  |nil=>intro done st h;simpa using h
  |cons g r ih=>
   intro done st h
   have:=ih (done++[g]) _ (ak8 hw cI h0 h1 (g:=g) h)
   rw[gN,Tn]at this
   exact this
 have:=key (aV c (cg w.rs.l.length)) [] ([],-1) (.inl ⟨rfl,fun g hg=>absurd hg (by simp)⟩)
 rw[kq]at this
 exact this
end
section
variable{w:W}
theorem Vv {pl R:List P} {n:Nat}:((cg n).filter fun i=>dS pl R i).length=dz pl R n:=by
 unfold dz cg
 rw[List.filter_map,bR];rfl
theorem Vz (hw:Wk w) {pl:List P} (cI:VP w pl) {req:Int} (h0:0≤req) (h1:req<w.rs.l.length) {R:List P} (hR:VP w R) (hr:vh R req):∃g∈aV (dz pl R w.rs.l.length) (cg w.rs.l.length),VF w (eB w pl g req) R:=by
 refine⟨(cg w.rs.l.length).filter fun i=>dS pl R i,?_,?_⟩
 ·rw[←Vv]
  exact J4 Td
 ·rw[Mz hw cI h0 h1]
  refine⟨hR,fun i hi=>?_,hr⟩
  unfold vG
  rw[uz,eA]
  constructor
  ·intro h
   exact⟨(i:Int),eH.2 ⟨Hk i hi,h⟩,by simp⟩
  ·rintro⟨a,ha,e⟩
   rw[dU]at e
   rw[e];exact(eH.1 ha).2
theorem acC (hw:Wk w) {pl:List P} (cI:VP w pl) {req:Int} (h0:0≤req) (h1:req<w.rs.l.length) {c:Nat} {g:List Int} (hg:g∈aV c (cg w.rs.l.length)) {R:List P} (h:VF w (eB w pl g req) R):VP w R∧vh R req∧dz pl R w.rs.l.length=c:=by
 obtain⟨hR,hc,hr⟩:=(Mz hw cI h0 h1).1 h
 refine⟨hR,hr,?_⟩
 obtain⟨ga,gi⟩:=OZ hg
 rw[←Vv,←qU hg]
 congr 1
 refine yq (Ak _ Sf) ga fun x=>?_
 rw[eH]
 constructor
 ·rintro⟨hx,lG⟩
  obtain⟨x0,x1⟩:=Sg x hx
  have:=hc x.toNat (by omega)
  rw[show((x.toNat:Nat):Int)=x by omega,lG]at this
  obtain⟨a,ha,e⟩:=eA.1 this.symm
  rw[dU]at e
  rw[e];exact ha
 ·intro hx
  obtain⟨x0,x1⟩:=gi x hx
  have:=hc x.toNat (by omega)
  rw[show((x.toNat:Nat):Int)=x by omega]at this
  refine⟨by have:=Hk (n:=w.rs.l.length) x.toNat (by omega);rwa [show((x.toNat:Nat):Int)=x by omega]at this,?_⟩
  rw[this]
  exact eA.2 ⟨x,hx,by simp⟩
theorem Y3 (hw:Wk w) {pl:List P} (cI:VP w pl) {req:Int} (h0:0≤req) (h1:req<w.rs.l.length):∀(d c:Nat),c+d=w.rs.l.length+1→(∀R,VP w R→vh R req→c≤dz pl R w.rs.l.length)→
  (∃Q,pC w pl req c d=some Q∧yk w pl req Q)∨(pC w pl req c d=none∧∀R,VP w R→¬vh R req)
 |0,c,hc,eT=>by
  right
  refine⟨rfl,fun R hR hr=>?_⟩
  have:=eT R hR hr
  have:=Vw (a:=pl) (b:=R) (n:=w.rs.l.length)
  omega
 | d + 1, c, hc, eT => by
  have hJ:=ak7 hw cI h0 h1 c
  simp only[pC]
  rcases hJ with⟨e,gy⟩|⟨⟨g,hg,hv⟩,h2,h3,h4⟩
  ·rw[aq (by rw[e];decide)]
   refine Y3 hw cI h0 h1 d (c+1) (by omega) fun R hR hr=>?_
   have hle:=eT R hR hr
   by_cases fl:dz pl R w.rs.l.length=c
   ·obtain⟨g,hg,hv⟩:=Vz hw cI h0 h1 hR hr
    rw[fl]at hg
    exact absurd hv (gy g hg R)
   ·omega
  ·rw[ak h3]
   left
   refine⟨_,rfl,?_⟩
   obtain⟨k1,k2,k3⟩:=acC hw cI h0 h1 hg hv
   refine⟨k1,k2,fun R hR hr=>?_⟩
   rw[Jm]
   have hle:=eT R hR hr
   refine⟨by omega,fun he=>?_⟩
   obtain⟨g',bB,nQ⟩:=Vz hw cI h0 h1 hR hr
   rw[he,k3]at bB
   obtain⟨m1,m2⟩:=h4 g' bB R nQ
   exact⟨by omega,m2⟩
theorem ak9 (hw:Wk w) {pl:List P} (cI:VP w pl) {req:Int} (h0:0≤req) (h1:req<w.rs.l.length):(∃Q,KS w pl req=some Q∧yk w pl req Q)∨(KS w pl req=none∧∀R,VP w R→¬vh R req):=
 Y3 hw cI h0 h1 (w.rs.l.length+1) 0 (by omega) fun _ _ _=>bp _
theorem Vu {a b:List P} {n:Nat}:dz (a.map cP) (b.map cP) n=dz a b n:=by
 unfold dz
 congr 2
 funext i
 exact Vy
theorem RH {l:List P} {i:Int}:(aL (l.map cP) i).isSome=(aL l i).isSome:=by
 unfold aL
 rw[List.find?_map,Option.isSome_map];rfl
theorem H6 (hw:Wk w) (h0:(de w).2.2=0) {R:List P}:VP (cW w) R↔VP w R:=by
 rw[←ME hw,←ME (hw.c h0),uU]
 rw[Lo hw (by omega) (fun x hx=>absurd hx (by simp))]
theorem acz (hw:Wk w) (h0:(de w).2.2=0) {pl:List P} {req:Int} {Q:List P} (h:yk (cW w) pl req Q):yk w pl req Q:=by
 have hv:∀R,VP w R→bw (cW w) R=bw w R:=fun R hR=>by
  have:=abX (w:=w) (l:=R) fun x hx=>⟨(hR.mem x hx).1,(hR.mem x hx).2.1⟩
  rwa [hR.Jr hw]at this
 have hQ:=(H6 hw h0).1 h.vp
 refine⟨hQ,h.has,fun R hR hr=>?_⟩
 have:=h.min R ((H6 hw h0).2 hR) hr
 unfold Jl at this⊢
 rw[uU,hv R hR,hv Q hQ]at this
 exact this
end
section
variable{w:W}
theorem VP.aaY (hw:Wk w) {R:List P} (h:VP w R):(R.map (·.req)).map (fun i=>(Sc.aL R i).getD bY)=R:=by
 rw[wb]
 refine(Ap fun p hp=>?_).trans (List.map_id' R)
 show(Sc.aL R p.req).getD bY=p
 rw[h.aL hw hp];rfl
theorem Fs {a b:List P} {n:Nat}:dz a b n=0↔∀i:Nat,i<n→dS a b (i:Int)=false:=by
 unfold dz
 rw[List.length_eq_zero_iff,Tc]
 constructor
 ·intro h i hi
  have:=h i (oh.2 hi)
  simpa using this
 ·intro h i hi
  rw[h i (oh.1 hi)];decide
theorem Oc (hw:Wk w) {a b:List P} (ha:VP w a) (hb:VP w b):dz a b w.rs.l.length=0↔a=b:=by
 constructor
 ·intro h
  have hc:=Fs.1 h
  have hk:∀i:Int,0≤i→i<w.rs.l.length→(aL a i).map kP=(aL b i).map kP:=fun i h0 h1=>by
   have:=hc i.toNat (by omega)
   rw[show((i.toNat:Nat):Int)=i by omega]at this
   unfold dS at this
   simpa using this
  have jm:∀i:Int,0≤i→i<w.rs.l.length→aL a i=aL b i:=fun i h0 h1=>by
   have:=hk i h0 h1
   cases hp:aL a i with
   |none=>rw[hp]at this;cases hq:aL b i with
    |none=>rfl
    |some q=>rw[hq]at this;simp at this
   | some p => rw [hp] at this; cases hq : aL b i with
    |none=>rw[hq]at this;simp at this
    |some q=>
     rw[hq]at this
     simp only[dE,fe]at this
     have h2:=Ob this
     rw[ha.can hw p (nT hp).1,hb.can hw q (nT hq).1]at h2
     rw[h2]
  have fR:a.map (·.req)=b.map (·.req):=by
   refine yq (by rw[qE];exact ha.gY) (by rw[qE];exact hb.gY) fun x=>?_
   rw[cz,cz]
   constructor
   ·rintro⟨p,hp,rfl⟩
    obtain⟨h0,h1,_⟩:=ha.mem p hp
    have:=jm p.req h0 h1
    rw[ha.aL hw hp]at this
    exact⟨p,(nT this.symm).1,rfl⟩
   ·rintro⟨p,hp,rfl⟩
    obtain⟨h0,h1,_⟩:=hb.mem p hp
    have:=jm p.req h0 h1
    rw[hb.aL hw hp]at this
    exact⟨p,(nT this).1,rfl⟩
  rw[←ha.aaY hw,←hb.aaY hw,fR]
  refine Ap fun i hi=>?_
  obtain⟨p,hp,rfl⟩:=cz.1 hi
  obtain⟨h0,h1,_⟩:=hb.mem p hp
  rw[jm p.req h0 h1]
 ·rintro rfl
  rw[Fs]
  intro i _
  unfold dS;simp
theorem LB:∀{a b:List P},qC a b=true↔a.map kP=b.map kP
 |[],[]=>by simp[qC]
 |[],_::_=>by simp[qC]
 |_::_,[]=>by simp[qC]
 |x::a,y::b=>by
  simp only[qC,dB,dU,iH,v7,LB (a:=a),VQ]
theorem SB {a b:List P}:∀{k i:Nat},i<k→dS a b (i:Int)=true→mW (iY w a b k) (w.rq (i:Int)).bJ=true
 |0,i,h,_=>by omega
 | k + 1, i, h, hc => by
  simp only[iY]
  by_cases hik:i=k
  ·subst hik
   rw[hc,ia]
   cases hh:mW (iY w a b i) (w.rq (i:Int)).bJ with
   |true=>simpa using hh
   |false=>
    simp only[nY,bP]
    unfold mW
    rw[s7]
    simp
  ·have ih:=SB (a:=a) (b:=b) (k:=k) (i:=i) (by omega) hc
   split
   ·unfold mW at ih⊢
    rw[s7,ih];rfl
   ·exact ih
theorem aax {l:List P} {i:Int}:decide (0≤dF (fun p:P=>decide (p.req=i)) l)=(aL l i).isSome:=by
 unfold aL
 rcases u5 (p:=fun p:P=>decide (p.req=i)) (l:=l)with⟨h1,h2⟩|⟨k,x,h1,_,h2⟩
 ·rw[h1,h2];rfl
 ·rw[h1,h2]
  exact bM (by omega)
theorem ard {l:List P} {i:Int}:decide (dF (fun p:P=>decide (p.req=i)) l<0)=!(aL l i).isSome:=by
 rw[←aax]
 cases h:decide (0≤dF (fun p:P=>decide (p.req=i)) l)with
 |true=>exact bX (by have:=zV h;omega)
 |false=>exact bM (by have:=of_decide_eq_false h;omega)
theorem jO.sm {l:List P} (h:jO l):H4 l:=⟨by have:=h.len;omega,fun p hp=>⟨(h.ok p hp).1,by have:=(h.ok p hp).2;omega⟩⟩
theorem yk.tD (hw : Wk w) {a b Q : List P} {i : Int} (ha : VP w (a.map cP)) (hQ : yk w (a.map cP) i Q) :
  (qC Q a=(aL a i).isSome)∧(dz a Q w.rs.l.length=0↔(aL a i).isSome=true)∧(VP w (b.map cP)→(aL b i).isSome=true→¬dz a b w.rs.l.length<dz a Q w.rs.l.length):=by
 have FT:=hQ.vp.Jr hw
 have hc:dz (a.map cP) Q w.rs.l.length=dz a Q w.rs.l.length:=by
  have:=Vu (a:=a) (b:=Q) (n:=w.rs.l.length)
  rwa [FT]at this
 have hk:(a.map cP).map kP=a.map kP:=by rw[wb];rfl
 have hn:dz a Q w.rs.l.length=0↔(aL a i).isSome=true:=by
  constructor
  ·intro h
   have:=(Oc hw ha hQ.vp).1 (by rw[hc];exact h)
   have h2:=FW.2 hQ.has
   rw[←this,RH]at h2
   exact h2
  ·intro h
   have hm:=hQ.min (a.map cP) ha (FW.1 (by rw[RH];exact h))
   rw[Jm,(Oc hw ha ha).2 rfl,hc]at hm
   omega
 refine⟨?_,hn,fun hb hi=>?_⟩
 ·cases hp : (aL a i).isSome with
  |true=>
   have:=(Oc hw ha hQ.vp).1 (by rw[hc];exact hn.2 hp)
   rw[LB,←this,hk]
  | false =>
   cases hs:qC Q a with
   |false=>rfl
   | true =>
    have h1:=LB.1 hs
    have:(aL a i).isSome=true:=hn.1 (by
     rw[Fs]
     intro j _
     have jm:∀(x y:List P),x.map kP=y.map kP→(aL x (j:Int)).map kP=(aL y (j:Int)).map kP:=fun x=>by
      induction x with
      |nil=>intro y h;cases y with
       |nil=>rfl
       |cons=>simp at h
      | cons p r ih => intro y h; cases y with
       |nil=>simp at h
       |cons q t=>
        simp only[iH,v7]at h
        have hr:p.req=q.req:=(List.cons.inj h.1).1
        have:=ih t h.2
        unfold aL at this⊢
        simp only[An,hr]
        cases decide (q.req=(j:Int))with
        |true=>simp[h.1]
        |false=>exact this
     unfold dS
     rw[jm a Q h1.symm];simp)
    rw[this]at hp;exact absurd hp (by decide)
 ·have hm:=hQ.min (b.map cP) hb (FW.1 (by rw[RH];exact hi))
  rw[Jm,Vu,hc]at hm
  exact hm.1
end
def lW (w:W) (k:Nat):W:=⟨w.j5,w.as,⟨.any,7,w.rs.l.take k⟩⟩
section
variable{w:W} {k:Nat}
theorem arJ (h:w.Ok):(lW w k).Ok:=
 ⟨h.as,h.cl,⟨.inr rfl,.inl rfl⟩,fun r hr=>h.an r (td hr)⟩
theorem arI (h:w.ju):(lW w k).ju:=
 ⟨h.as,by have:=h.rs;show(w.rs.l.take k).length≤14;rw[fc];omega,h.name,h.cl,fun r hr=>h.bJ r (td hr),fun r hr=>h.an r (td hr)⟩
theorem WS {α:Type} {f:Nat→α→Int}:∀{l:List α} {i k:Nat},eJ f i l=none→eJ f i (l.take k)=none
 |[],_,k,h=>by rw[List.take_nil];exact h
 |x::r,i,0,h=>rfl
 |x::r,i,k+1,h=>by
  simp only[Mh,eJ]at h⊢
  by_cases h1:f i x=0
  ·rw[ak h1]at h⊢;exact WS h
  ·rw[aq h1]at h;cases h
theorem aui (h:(de w).2.2=0):(de (lW w k)).2.2=0:=by
 unfold de at h⊢
 show(if wi w.j5 1 200 then(if w.as.l.length≤4∧(w.rs.l.take k).length≤12 then _ else _)else _:Int×Int×Int).2.2=0
 by_cases h1:wi w.j5 1 200=true
 ·rw [ak h1] at h ⊢
  by_cases h2:w.as.l.length≤4∧w.rs.l.length≤12
  ·rw[ak h2]at h
   rw[ak ⟨h2.1,by rw[fc];omega⟩]
   show(match eJ (ku w.j5 w.as.l) 0 w.as.l with
    |some (k,e)=>((1:Int),(k:Int),e)
    |none=>match eJ (fun _ r=>kL w.j5 w.as.l.length r) 0 (w.rs.l.take k)with
     |some (k,e)=>(2,k,e)
     |none=>(0,0,0)).2.2=0
   cases h3:eJ (ku w.j5 w.as.l) 0 w.as.l with
   |some q=>obtain⟨j,e⟩:=q;rw[h3]at h;exact absurd h (Bv h3)
   | none =>
    rw[h3]at h
    cases h4:eJ (fun _ r=>kL w.j5 w.as.l.length r) 0 w.rs.l with
    |some q=>
     obtain⟨j,e⟩:=q
     rw[h4]at h
     exact absurd h (Bv h4)
    |none=>rw[WS h4]
  ·rw[aq h2]at h;exact absurd h (by decide)
 ·rw[aq h1]at h;exact absurd h (by decide)
theorem atz (h:eO w=0):eO (lW w k)=0:=by
 have hz:=Ae h
 unfold eO at h⊢
 rw[ak hz]at h
 rw[ak (aui hz)]
 cases hs:uo w with
 |false=>rw[hs]at h;exact absurd h (by decide)
 | true =>
  have:uo (lW w k)=true:=by
   unfold uo at hs⊢
   rw[dB,dU,sY,uD]at hs⊢
   refine⟨?_,fun r hr=>hs.2 r (td hr)⟩
   have:=hs.1
   show(w.rs.l.take k).length≤6
   rw[fc];omega
  rw[this];rfl
theorem Lx {i:Int} (h0:0≤i) (h1:i<k):(lW w k).rq i=w.rq i:=by
 unfold W.rq
 show((w.rs.l.take k)[i.toNat]?).getD default=_
 rw[aco (by omega)]
theorem aaH {i:Int} (h0:0≤i) (h1:i<k):∀{n:Nat} {st:Int},jJ (lW w k) i st n=jJ w i st n
 |0,_=>rfl
 |n+1,st=>by
  simp only[jJ]
  rw[aaH h0 h1]
  congr 1
  unfold ni
  rw[Lx h0 h1]
  rfl
theorem arC {i:Int} (h0:0≤i) (h1:i<k):dA (lW w k) i=dA w i:=by
 unfold dA
 rw[Lx h0 h1,aaH h0 h1]
theorem VH {a b:P} (a0:0≤a.req) (a1:a.req<k) (b0:0≤b.req) (b1:b.req<k):qL (lW w k) a b=qL w a b:=by
 unfold qL lD
 rw[Lx a0 a1,Lx b0 b1]
 rfl
theorem afm {a b:P} (a0:0≤a.req) (a1:a.req<k) (b0:0≤b.req) (b1:b.req<k):cS (lW w k) a b=cS w a b:=by
 unfold cS
 rw[VH a0 a1 b0 b1,VH b0 b1 a0 a1]
theorem acD (hk:k≤w.rs.l.length) {R:List P} (h:VP (lW w k) R):VP w R∧∀p∈R,p.req<k:=by
 have hl:(lW w k).rs.l.length=k:=by show(w.rs.l.take k).length=k;rw[fc];omega
 have hb:∀p∈R,0≤p.req∧p.req<k:=fun p hp=>by
  obtain⟨h0,h1,_⟩:=h.mem p hp
  rw[hl]at h1
  exact⟨h0,h1⟩
 refine⟨⟨fun p hp=>?_,h.gY,?_⟩,fun p hp=>(hb p hp).2⟩
 ·obtain⟨h0,h1⟩:=hb p hp
  have:=(h.mem p hp).2.2
  rw[arC h0 h1]at this
  exact⟨h0,by omega,this⟩
 ·refine List.Pairwise.imp_of_mem (fun{a b} ha fk fE=>?_) h.nc
  rw[←fE,afm (hb a ha).1 (hb a ha).2 (hb b fk).1 (hb b fk).2]
theorem aq2 {B:List P} {x:P} {i:Int} (h:x.req≠i):aL (B++[x]) i=aL B i:=by
 unfold aL
 rw[List.find?_append]
 cases B.find? (fun p=>decide (p.req=i))with
 |some p=>rfl
 |none=>simp[h]
theorem at3 (hw:Wk w) {B Q:List P} (hk:k+1=w.rs.l.length) (hB:VP w B) (aC:∀p∈B,p.req<k) (hQ:yk w B (k:Int) Q):
  dS B Q (k:Int)=true∧dz B Q w.rs.l.length=dz B Q k+1∧(bS w B (k:Int)=[]↔1≤dz B Q k):=by
 have P6:aL B (k:Int)=none:=RI fun p hp=>by have:=aC p hp;omega
 have sk:∀{X:List P},(aL X (k:Int)).isSome=true→dS B X (k:Int)=true:=fun{X} h=>by
  unfold dS
  rw[P6]
  obtain⟨x,hx⟩:=oj.1 h
  rw[hx];simp
 have hc:=sk (FW.2 hQ.has)
 have dy:dz B Q w.rs.l.length=dz B Q k+1:=by rw[←hk,Od,hc];rfl
 refine⟨hc,dy,?_⟩
 constructor
 ·intro hp
  apply n6
  intro av6
  have h0:dz B Q k=0:=by omega
  obtain⟨x,fq,zE⟩:=hQ.has
  obtain⟨_,_,YS⟩:=hQ.vp.mem x fq
  rw[zE]at YS
  have:x∈bS w B (k:Int):=by
   unfold bS
   rw[eH]
   refine⟨YS,?_⟩
   have:cK w x B=false:=by
    rw[uZ]
    intro q hq
    obtain⟨q0,_,_⟩:=hB.mem q hq
    have hqk:=aC q hq
    have dX:=Fs.1 h0 q.req.toNat (by omega)
    rw[show((q.req.toNat:Nat):Int)=q.req by omega]at dX
    unfold dS at dX
    rw[hB.aL hw hq]at dX
    cases vA:aL Q q.req with
    |none=>rw[vA]at dX;simp at dX
    |some y=>
     rw[vA]at dX
     simp only[dE,SZ,dU,fe]at dX
     obtain⟨zG,hy2⟩:=nT vA
     have YY:=Ob dX
     rw[hB.can hw q hq,hQ.vp.can hw y zG]at YY
     subst YY
     exact hQ.vp.sep hw zG fq (by omega)
   rw[this];rfl
  rw[hp]at this
  exact absurd this (by simp)
 ·intro h1
  cases hp:bS w B (k:Int)with
  |nil=>rfl
  | cons x r =>
   have hx:x∈bS w B (k:Int):=by rw[hp];simp
   unfold bS at hx
   rw[eH,sY,uZ]at hx
   obtain⟨rn,sF⟩:=hx
   have zE:=(kg hw (by omega) (by omega) rn).2.1
   have hR:VP w (B++[x]):=by
    refine⟨fun p hp=>?_,?_,?_⟩
    ·rcases dC.1 hp with h|h
     ·exact hB.mem p h
     ·rw[dD]at h
      subst h
      rw[zE]
      exact⟨by omega,by omega,rn⟩
    ·rw[gp]
     refine⟨hB.gY,uJ _ _,fun a ha b hb=>?_⟩
     rw[dD]at hb
     subst hb
     have:=aC a ha
     omega
    ·rw[gp]
     refine⟨hB.nc,uJ _ _,fun a ha b hb=>?_⟩
     rw[dD]at hb
     subst hb
     exact sF a ha
   have hm:=hQ.min _ hR ⟨x,by simp,zE⟩
   rw[Jm]at hm
   have hz:dz B (B++[x]) k=0:=by
    rw[Fs]
    intro i hi
    unfold dS
    rw[aq2 (by omega)];simp
   have:dz B (B++[x]) w.rs.l.length≤1:=by
    rw[←hk,Od,hz]
    split<;>omega
   omega
theorem at4 (hw:Wk w) (hk:k<w.rs.l.length) (h:∀R,VP w R→¬vh R (k:Int)):OP w [(k:Int)]=false∧∃g,zR w=some g∧g.length=1:=by
 have hf:OP w [(k:Int)]=false:=by
  unfold OP
  rw[←SE hw (rq:=[(k:Int)]) (uJ _ _) (fun i hi=>by rw[dD]at hi;omega),uD]
  intro X hX hl
  rw[xU hw (by omega) VP.nil (fun p hp=>absurd hp (by simp))]at hX
  obtain⟨hv,t,YC,ht⟩:=hX
  rw[kq]at YC
  subst YC
  rw[dU]at hl
  cases X with
  |nil=>simp at hl
  |cons p r=>
   have:=(ht p (by simp)).2
   rw[dD]at this
   exact h _ hv ⟨p,by simp,this⟩
 refine⟨hf,?_⟩
 have jn:[(k:Int)].Sublist (cg w.rs.l.length):=by
  rw[List.singleton_sublist];exact Hk k hk
 have hg:=J4 jn
 cases jj:(aV 1 (cg w.rs.l.length)).find? fun g=>!c8 w (bf w) [] (ew g)with
 |none=>
  have:=yb.1 jj _ hg
  rw[show c8 w (bf w) [] (ew [(k:Int)])=false from hf]at this
  simp at this
 |some g=>
  refine⟨g,?_,qU (Mg jj)⟩
  unfold zR
  obtain⟨d,hd⟩:∃d,w.rs.l.length=d+1:=⟨w.rs.l.length-1,by omega⟩
  have:=K4 (d:=d) jj
  rw[←hd]at this
  exact this
end
end Go.Ax.Sx.Sc
